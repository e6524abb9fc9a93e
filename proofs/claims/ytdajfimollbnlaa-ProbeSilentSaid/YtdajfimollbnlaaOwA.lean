/- The laws of this seat, part OwA: contracts of the functions, plain laws. No conditions. -/
import Derived.Test.YtdajfimollbnlaaRows
import Derived.Test.YtdajfimollbnlaaLfD
import Derived.Shelf.SlLaysF
import Derived.Test.YtdajfimollbnlaaProg
set_option linter.unusedSimpArgs false
set_option linter.unusedVariables false
namespace Go.Proofs.Ytdajfimollbnlaa
open Go.Lift
def tt : TT := [(2, ⟨1, 8, false, [.v (.int .i64 0)], .int .i64⟩),
  (3, ⟨1, 8, false, [.v (.int .i64 0)], .int .i64⟩),
  (4, ⟨1, 1, false, [.v (.bool false)], .bool⟩),
  (5, ⟨1, 1, false, [.v (.int .u8 0)], .int .u8⟩),
  (9, ⟨1, 16, false, [.v (.string ⟨#[]⟩)], .str⟩),
  (21, ⟨1, 4, false, [.v (.int .i32 0)], .int .i32⟩),
  (22, ⟨1, 4, false, [.v (.int .u32 0)], .int .u32⟩),
  (23, ⟨2, 16, true, [.v (.int .u32 0), .v (.int .i64 0)], .st [(22, 0), (3, 1)]⟩),
  (24, ⟨2, 16, true, [.v (.int .u32 0), .v (.int .i64 0)], .st [(22, 0), (3, 1)]⟩),
  (29, ⟨1, 24, false, [.nl], .slc 4⟩),
  (31, ⟨1, 24, false, [.nl], .slc 3⟩),
  (32, ⟨2, 32, true, [.v (.int .i64 0), .nl], .st [(3, 0), (31, 1)]⟩),
  (33, ⟨2, 32, true, [.v (.int .i64 0), .nl], .st [(3, 0), (31, 1)]⟩),
  (34, ⟨1, 24, false, [.nl], .slc 58⟩),
  (35, ⟨4, 64, true, [.v (.int .i64 0), .v (.int .i64 0), .nl, .nl], .st [(3, 0), (33, 1), (34, 3)]⟩),
  (36, ⟨4, 64, true, [.v (.int .i64 0), .v (.int .i64 0), .nl, .nl], .st [(3, 0), (33, 1), (34, 3)]⟩),
  (38, ⟨1, 8, false, [.v (.int .i64 0)], .int .i64⟩),
  (41, ⟨1, 24, false, [.nl], .slc 52⟩),
  (51, ⟨4, 32, true, [.v (.int .i64 0), .v (.int .i64 0), .v (.int .i64 0), .v (.int .i64 0)], .st [(3, 0), (3, 1), (3, 2), (3, 3)]⟩),
  (52, ⟨4, 32, true, [.v (.int .i64 0), .v (.int .i64 0), .v (.int .i64 0), .v (.int .i64 0)], .st [(3, 0), (3, 1), (3, 2), (3, 3)]⟩),
  (54, ⟨1, 24, false, [.nl], .slc 5⟩),
  (55, ⟨5, 5, true, [.v (.bool false), .v (.bool false), .v (.bool false), .v (.bool false), .v (.bool false)], .arr 5 4⟩),
  (57, ⟨6, 40, true, [.v (.int .i64 0), .v (.int .i64 0), .v (.bool false), .v (.bool false), .v (.int .u32 0), .v (.int .i64 0)], .st [(3, 0), (3, 1), (4, 2), (4, 3), (24, 4)]⟩),
  (58, ⟨6, 40, true, [.v (.int .i64 0), .v (.int .i64 0), .v (.bool false), .v (.bool false), .v (.int .u32 0), .v (.int .i64 0)], .st [(3, 0), (3, 1), (4, 2), (4, 3), (24, 4)]⟩),
  (59, ⟨1, 8, false, [.v (.int .u64 0)], .int .u64⟩),
  (74, ⟨1, 8, false, [.v (.int .u64 0)], .int .u64⟩),
  (82, ⟨1, 8, false, [.v (.int .i64 0)], .int .i64⟩),
  (91, ⟨1, 8, false, [.v (.int .u64 0)], .int .u64⟩),
  (97, ⟨3, 24, true, [.v (.int .u64 0), .v (.int .u64 0), .v (.int .u64 0)], .arr 3 59⟩),
  (99, ⟨2, 16, true, [.v (.int .u64 0), .v (.int .u64 0)], .arr 2 74⟩)]
theorem hm : Try.prog.follows .mixedOrders = true := by kernel_rfl
theorem hT : tabOk Try.prog tt = true := by kernel_rfl
def i64 (n : Int) : DV := .v (.int .i64 n)
def intE (n : Int) : List DV := [.v (.int .i64 n)]
def byteI (n : Nat) : List DV := [.v (.int .u8 n)]
theorem fitsI {n : Nat} (h : n ≤ 2000000) : fitsIn tt 3 n := by
  have e : (tinfo tt 3).bytes = 8 := by kernel_rfl
  refine ⟨?_, ?_⟩
  · rw [e]; omega
  · simp only [maxLen]; omega
theorem ole_row {e : TypeId} {sz : Nat} {es es' : List (List DV)} (h : es = es') : ole (.row e sz es) (.row e sz es') := by subst h; exact .refl
def okAt (l : List Int) (i : Nat) : Bool := !(decide (l.getD i 0 ≤ (0 :: l).getD i 0) || decide (1000 < l.getD i 0))
def idsB (l : List Int) (most : Int) : Bool := !(decide ((l.length : Int) < 1) || decide (most < (l.length : Int))) && allB (okAt l) l.length
theorem c_view_identifiers (l : List Int) (hl : l.length ≤ maxLen) (m : Int) : Ret Try.prog 48 [.lst 1 (l.map intE) false, .v (.int .i64 m)] (.v (.bool (idsB l m))) := by
  have hl' : l.length ≤ 9223372036854775807 := hl
  refine ret_of_body (fn := Try.f48) (c := Try.f48.body.getD .skip) hm hT (by kernel_rfl) Try.func48 (by kernel_rfl) (by kernel_rfl) (by kernel_rfl) (by kernel_rfl) ?_
  repeat' ((conv => whnf); first | refine And.intro (fun h => h) ?_ | refine dcond_t (by assumption) ?_ | refine dcond_f (by assumption) ?_ | (refine dcond_intro ?_ ?_ <;> intro h) | exact .refl | refine And.intro (by kernel_rfl) ?_ | refine And.intro ⟨fun h => h, fun h => h⟩ ?_ | (refine And.intro ?_ ?_; focus (simp; done)) | fail)
  · skip
    refine dle_bool ?_
    simp only [List.length_map] at h
    simp only [idsB, h]
    rfl
  · skip
    simp only [List.length_map] at h
    have h0 := h
    clear h
    conv => whnf
    refine ⟨Nat, fun i => ⟨[(5, i64 ((0 :: l).getD i 0)), (17, .lst 1 (l.map intE) false), (18, i64 (l.map intE).length), (19, i64 i)], []⟩, fun i => i ≤ l.length ∧ ∀ j, j < i → okAt l j = true, fun i => l.length - i, [], ⟨0, ⟨Nat.zero_le _, by omega⟩, ?_⟩, ?_⟩
    · exact ⟨by repeat' ((conv => whnf); first | exact trivial | refine And.intro (by (conv => arg 1; whnf); first | (with_reducible exact .refl) | exact dle_int (wrap_succ (by omega)) | exact .refl) ?_), by repeat' ((conv => whnf); first | exact trivial | refine And.intro ?_ ?_ | exact .refl), rfl⟩
    · intro i ⟨hi, hall⟩
      repeat' ((conv => whnf); first | refine And.intro (fun h => h) ?_ | refine dcond_t (by assumption) ?_ | refine dcond_f (by assumption) ?_ | (refine dcond_intro ?_ ?_ <;> intro h) | exact .refl | refine And.intro (by kernel_rfl) ?_ | refine And.intro ⟨fun h => h, fun h => h⟩ ?_ | (refine And.intro ?_ ?_; focus (simp; done)) | fail)
      · have h1 := h
        have hlt : i < l.length := by simpa using h1
        have hg : l.getD i 0 = l[i] := by simp [hlt]
        repeat' ((conv => whnf); first | refine And.intro (fun h => h) ?_ | refine dcond_t (by assumption) ?_ | refine dcond_f (by assumption) ?_ | (refine dcond_intro ?_ ?_ <;> intro h) | exact .refl | refine And.intro (by kernel_rfl) ?_ | refine And.intro ⟨fun h => h, fun h => h⟩ ?_ | refine ⟨_, _, And.intro ⟨rfl, get_map hlt⟩ ?_⟩ | (refine And.intro ?_ ?_; focus (simp; done)) | fail)
        · have h2 := h
          refine dle_bool ?_
          have : okAt l i = false := by simp only [okAt, hg, h2]; rfl
          rw [idsB, allB_false hlt this, Bool.and_false]
        · have h2 := h
          conv => whnf
          refine ⟨i + 1, ⟨hlt, fun j hj => ?_⟩, by simp only []; omega, ?_⟩
          · rcases Nat.lt_succ_iff_lt_or_eq.1 hj with hj | rfl
            · exact hall j hj
            · simp only [okAt, hg, h2]; rfl
          · refine ⟨⟨?_, .refl, .refl, dle_int (wrap_succ (by omega)), trivial⟩, trivial, rfl⟩
            refine dle_int ?_
            simp [hlt]
      · have h1 := h
        have hge : ¬ i < l.length := by simpa using h1
        conv => whnf
        refine dle_bool ?_
        rw [idsB, h0, allB_true.2 (fun j hj => hall j (by omega))]
        rfl
def sameI (a b : List Int) : Bool := decide ((a.length : Int) = (b.length : Int)) && allB (fun i => decide (a.getD i 0 = b.getD i 0)) a.length
structure View where
  num : Int
  mem : List Int
def viewE (v : View) : List DV := [.v (.int .i64 v.num), .lst 1 (v.mem.map intE) false]
def placeB (l : List Int) (x : Int) : Int := findB (fun i => decide (l[i]? = some x)) l.length
theorem c_view_Place (l : List Int) (hl : l.length ≤ maxLen) (x : Int) : Ret Try.prog 40 [.lst 1 (l.map intE) false, .v (.int .i64 x)] (.v (.int .i64 (placeB l x))) := by
  have hl' : l.length ≤ 9223372036854775807 := hl
  refine ret_of_body (fn := Try.f40) (c := Try.f40.body.getD .skip) hm hT (by kernel_rfl) Try.func40 (by kernel_rfl) (by kernel_rfl) (by kernel_rfl) (by kernel_rfl) ?_
  repeat' ((conv => whnf); first | refine And.intro (fun h => h) ?_ | refine dcond_t (by assumption) ?_ | refine dcond_f (by assumption) ?_ | (refine dcond_intro ?_ ?_ <;> intro h) | exact .refl | refine And.intro (by kernel_rfl) ?_ | refine And.intro ⟨fun h => h, fun h => h⟩ ?_ | (refine And.intro ?_ ?_; focus (simp; done)) | fail)
  refine ⟨Nat, fun i => ⟨[(1, .v (.int .i64 x)), (7, .lst 1 (l.map intE) false), (8, i64 (l.map intE).length), (9, i64 i)], []⟩, fun i => i ≤ l.length ∧ ∀ j, j < i → decide (l[j]? = some x) = false, fun i => l.length - i, [], ⟨0, ⟨Nat.zero_le _, by omega⟩, ?_⟩, ?_⟩
  · exact ⟨by repeat' ((conv => whnf); first | exact trivial | refine And.intro (by (conv => arg 1; whnf); first | (with_reducible exact .refl) | exact dle_int (wrap_succ (by omega)) | exact .refl) ?_), by repeat' ((conv => whnf); first | exact trivial | refine And.intro ?_ ?_ | exact .refl), rfl⟩
  · intro i ⟨hi, hall⟩
    repeat' ((conv => whnf); first | refine And.intro (fun h => h) ?_ | refine dcond_t (by assumption) ?_ | refine dcond_f (by assumption) ?_ | (refine dcond_intro ?_ ?_ <;> intro h) | exact .refl | refine And.intro (by kernel_rfl) ?_ | refine And.intro ⟨fun h => h, fun h => h⟩ ?_ | (refine And.intro ?_ ?_; focus (simp; done)) | fail)
    · have hlt : i < l.length := by simpa using h
      repeat' ((conv => whnf); first | refine And.intro (fun h => h) ?_ | refine dcond_t (by assumption) ?_ | refine dcond_f (by assumption) ?_ | (refine dcond_intro ?_ ?_ <;> intro h) | exact .refl | refine And.intro (by kernel_rfl) ?_ | refine And.intro ⟨fun h => h, fun h => h⟩ ?_ | refine ⟨_, _, And.intro ⟨rfl, get_map hlt⟩ ?_⟩ | (refine And.intro ?_ ?_; focus (simp; done)) | fail)
      · have h2 := h
        refine dle_int (findB_at hlt ?_ hall).symm
        simpa [hlt] using h2
      · have h2 := h
        conv => whnf
        refine ⟨i + 1, ⟨hlt, fun j hj => ?_⟩, by simp only []; omega, ?_⟩
        · rcases Nat.lt_succ_iff_lt_or_eq.1 hj with hj | rfl
          · exact hall j hj
          · simpa [hlt] using h2
        · exact ⟨by repeat' ((conv => whnf); first | exact trivial | refine And.intro (by (conv => arg 1; whnf); first | (with_reducible exact .refl) | exact dle_int (wrap_succ (by omega)) | exact .refl) ?_), by repeat' ((conv => whnf); first | exact trivial | refine And.intro ?_ ?_ | exact .refl), rfl⟩
    · have hge : ¬ i < l.length := by simpa using h
      conv => whnf
      refine dle_int (findB_none (fun j hj => hall j (by omega))).symm
def inB (l : List Int) (x : Int) : Bool := decide (0 ≤ placeB l x)
theorem c_view_Contains (l : List Int) (hl : l.length ≤ maxLen) (x : Int) : Ret Try.prog 31 [.lst 1 (l.map intE) false, .v (.int .i64 x)] (.v (.bool (inB l x))) := by
  refine ret_of_body (fn := Try.f31) (c := Try.f31.body.getD .skip) hm hT (by kernel_rfl) Try.func31 (by kernel_rfl) (by kernel_rfl) (by kernel_rfl) (by kernel_rfl) ?_
  repeat' ((conv => whnf); first | refine And.intro (fun h => h) ?_ | refine dcond_t (by assumption) ?_ | refine dcond_f (by assumption) ?_ | (refine dcond_intro ?_ ?_ <;> intro h) | exact .refl | refine And.intro (by kernel_rfl) ?_ | refine And.intro ⟨fun h => h, fun h => h⟩ ?_ | refine .inl ⟨_, _, DleAll_refl _, c_view_Place _ hl _, ?_⟩ | refine ⟨_, _, DleAll_refl _, fun _ => c_view_Place _ hl _, ?_⟩ | refine ⟨_, _, DleAll_refl _, c_view_Place _ hl _, ?_⟩ | (refine And.intro ?_ ?_; focus (simp; done)) | fail)
theorem c_view_ValidMembers (l : List Int) (hl : l.length ≤ maxLen) : Ret Try.prog 39 [.lst 1 (l.map intE) false] (.v (.bool (idsB l 16))) := by
  refine ret_of_body (fn := Try.f39) (c := Try.f39.body.getD .skip) hm hT (by kernel_rfl) Try.func39 (by kernel_rfl) (by kernel_rfl) (by kernel_rfl) (by kernel_rfl) ?_
  repeat' ((conv => whnf); first | refine And.intro (fun h => h) ?_ | refine dcond_t (by assumption) ?_ | refine dcond_f (by assumption) ?_ | (refine dcond_intro ?_ ?_ <;> intro h) | exact .refl | refine And.intro (by kernel_rfl) ?_ | refine And.intro ⟨fun h => h, fun h => h⟩ ?_ | refine .inl ⟨_, _, DleAll_refl _, c_view_identifiers _ hl _, ?_⟩ | refine ⟨_, _, DleAll_refl _, fun _ => c_view_identifiers _ hl _, ?_⟩ | refine ⟨_, _, DleAll_refl _, c_view_identifiers _ hl _, ?_⟩ | (refine And.intro ?_ ?_; focus (simp; done)) | fail)
def viewB (v : View) : Bool := (decide (0 ≤ v.num) && decide (v.num ≤ 1099511627776)) && idsB v.mem 16
theorem c_view_Valid (v : View) (hl : v.mem.length ≤ maxLen) : Ret Try.prog 30 [.agg (viewE v)] (.v (.bool (viewB v))) := by
  refine ret_of_body (fn := Try.f30) (c := Try.f30.body.getD .skip) hm hT (by kernel_rfl) Try.func30 (by kernel_rfl) (by kernel_rfl) (by kernel_rfl) (by kernel_rfl) ?_
  repeat' ((conv => whnf); first | refine And.intro (fun h => h) ?_ | refine dcond_t (by assumption) ?_ | refine dcond_f (by assumption) ?_ | (refine dcond_intro ?_ ?_ <;> intro h) | exact .refl | refine And.intro (by kernel_rfl) ?_ | refine And.intro ⟨fun h => h, fun h => h⟩ ?_ | refine .inl ⟨_, _, DleAll_refl _, c_view_ValidMembers _ hl, ?_⟩ | refine ⟨_, _, DleAll_refl _, fun _ => c_view_ValidMembers _ hl, ?_⟩ | refine ⟨_, _, DleAll_refl _, c_view_ValidMembers _ hl, ?_⟩ | (refine And.intro ?_ ?_; focus (simp; done)) | fail)
def splitR (v : View) (cut l other : List Int) : List Int × List Int :=
  bif !viewB v || !idsB cut 32 then ([], []) else (l.filter (inB other), l.filter (fun x => !inB other x))
def partA (other l : List Int) (i : Nat) : List (List DV) := ((l.take i).filter (inB other)).map intE
def partB (other l : List Int) (i : Nat) : List (List DV) := ((l.take i).filter (fun x => !inB other x)).map intE
theorem partA_len (other l : List Int) (i : Nat) : (partA other l i).length ≤ i := by
  simp only [partA, List.length_map]
  exact Nat.le_trans (List.length_filter_le _ _) (by simp; omega)
theorem partB_len (other l : List Int) (i : Nat) : (partB other l i).length ≤ i := by
  simp only [partB, List.length_map]
  exact Nat.le_trans (List.length_filter_le _ _) (by simp; omega)
theorem part_in {other l : List Int} {i : Nat} (hlt : i < l.length) (h : inB other (l[i]'hlt) = true) : partA other l i ++ [intE (l[i]'hlt)] = partA other l (i + 1) ∧ partB other l i = partB other l (i + 1) := by
  simp only [partA, partB, List.take_succ_eq_append_getElem hlt, List.filter_append]
  simp [h]
theorem part_out {other l : List Int} {i : Nat} (hlt : i < l.length) (h : inB other (l[i]'hlt) = false) : partA other l i = partA other l (i + 1) ∧ partB other l i ++ [intE (l[i]'hlt)] = partB other l (i + 1) := by
  simp only [partA, partB, List.take_succ_eq_append_getElem hlt, List.filter_append]
  simp [h]
def mergeL : List Int → List Int → List Int
  | a, [] => a
  | a, x :: b => a.takeWhile (fun y => !decide (x < y)) ++ x :: mergeL (a.dropWhile (fun y => !decide (x < y))) b
theorem merge_gt {y x : Int} {a b : List Int} (h : x < y) : mergeL (y :: a) (x :: b) = x :: mergeL (y :: a) b := by simp [mergeL, h]
theorem merge_le {y x : Int} {a b : List Int} (h : ¬ x < y) : mergeL (y :: a) (x :: b) = y :: mergeL a (x :: b) := by simp [mergeL, h]
theorem merge_nil {x : Int} {b : List Int} : mergeL [] (x :: b) = x :: mergeL [] b := by simp [mergeL]
theorem split_len (v : View) (cut l o : List Int) : (splitR v cut l o).2.length ≤ l.length := by
  unfold splitR
  cases (!viewB v || !idsB cut 32)
  · exact List.length_filter_le _ _
  · simp
def stayL (v : View) (cut : List Int) : List Int := (splitR v cut v.mem cut).2
def comeL (v : View) (cut : List Int) : List Int := (splitR v cut cut v.mem).2
def nextR (v : View) (cut : List Int) : View × Int :=
  bif !viewB v || !idsB cut 32 then (⟨0, []⟩, 1)
  else bif decide (2 * ((stayL v cut).length : Int) ≤ (v.mem.length : Int)) then (⟨0, []⟩, 9)
  else bif decide (v.num = 1099511627776) || decide (16 < ((stayL v cut).length : Int) + ((comeL v cut).length : Int)) then (⟨0, []⟩, 5)
  else (⟨IntKind.i64.wrap (v.num + 1), mergeL (stayL v cut) (comeL v cut)⟩, 0)
/-! reference 3, first part: identifiers, lists, views (expects: intE, i64, idsB, sameI, viewE, viewB, placeB, inB) -/
theorem c_ref3_IsID (n : Int) : Ret Try.prog 46 [.v (.int .i64 n)] (.v (.bool (decide (1 ≤ n) && decide (n ≤ 1000)))) := by
  refine ret_of_body (fn := Try.f46) (c := Try.f46.body.getD .skip) hm hT (by kernel_rfl) Try.func46 (by kernel_rfl) (by kernel_rfl) (by kernel_rfl) (by kernel_rfl) ?_
  repeat' ((conv => whnf); first | refine And.intro (fun h => h) ?_ | refine dcond_t (by assumption) ?_ | refine dcond_f (by assumption) ?_ | (refine dcond_intro ?_ ?_ <;> intro h) | exact .refl | refine And.intro (by kernel_rfl) ?_ | refine And.intro ⟨fun h => h, fun h => h⟩ ?_ | (refine And.intro ?_ ?_; focus (simp; done)) | fail)
def riseAt (l : List Int) (i : Nat) : Bool := !(!(decide (1 ≤ l.getD i 0) && decide (l.getD i 0 ≤ 1000)) || (decide (0 < (i : Int)) && decide (l.getD i 0 ≤ l.getD (i - 1) 0)))
def riseB (l : List Int) : Bool := allB (riseAt l) l.length
theorem c_ref3_Rising (l : List Int) (hl : l.length ≤ maxLen) : Ret Try.prog 45 [.lst 1 (l.map intE) false] (.v (.bool (riseB l))) := by
  have hl' : l.length ≤ 9223372036854775807 := hl
  refine ret_of_body (fn := Try.f45) (c := Try.f45.body.getD .skip) hm hT (by kernel_rfl) Try.func45 (by kernel_rfl) (by kernel_rfl) (by kernel_rfl) (by kernel_rfl) ?_
  repeat' ((conv => whnf); first | refine And.intro (fun h => h) ?_ | refine dcond_t (by assumption) ?_ | refine dcond_f (by assumption) ?_ | (refine dcond_intro ?_ ?_ <;> intro h) | exact .refl | refine And.intro (by kernel_rfl) ?_ | refine And.intro ⟨fun h => h, fun h => h⟩ ?_ | (refine And.intro ?_ ?_; focus (simp; done)) | fail)
  refine ⟨Nat, fun i => ⟨[(0, .lst 1 (l.map intE) false), (3, i64 i)], []⟩, fun i => i ≤ l.length ∧ ∀ j, j < i → riseAt l j = true, fun i => l.length - i, [], ⟨0, ⟨Nat.zero_le _, by omega⟩, ?_⟩, ?_⟩
  · exact ⟨by repeat' ((conv => whnf); first | exact trivial | refine And.intro (by (conv => arg 1; whnf); first | (with_reducible exact .refl) | exact dle_int (wrap_succ (by omega)) | exact .refl) ?_), by repeat' ((conv => whnf); first | exact trivial | refine And.intro ?_ ?_ | exact .refl), rfl⟩
  · intro i ⟨hi, hall⟩
    repeat' ((conv => whnf); first | refine And.intro (fun h => h) ?_ | refine dcond_t (by assumption) ?_ | refine dcond_f (by assumption) ?_ | (refine dcond_intro ?_ ?_ <;> intro h) | exact .refl | refine And.intro (by kernel_rfl) ?_ | refine And.intro ⟨fun h => h, fun h => h⟩ ?_ | (refine And.intro ?_ ?_; focus (simp; done)) | fail)
    · have hlt : i < l.length := by simpa using h
      clear h
      have hg : l.getD i 0 = l[i] := by simp [hlt]
      repeat' ((conv => whnf); first | refine And.intro (fun h => h) ?_ | refine dcond_t (by assumption) ?_ | refine dcond_f (by assumption) ?_ | (refine dcond_intro ?_ ?_ <;> intro h) | exact .refl | refine And.intro (by kernel_rfl) ?_ | refine And.intro ⟨fun h => h, fun h => h⟩ ?_ | refine ⟨_, _, And.intro ⟨rfl, get_map hlt⟩ ?_⟩ | refine .inl ⟨_, _, DleAll_refl _, c_ref3_IsID _, ?_⟩ | refine ⟨_, _, DleAll_refl _, fun _ => c_ref3_IsID _, ?_⟩ | refine ⟨_, _, DleAll_refl _, c_ref3_IsID _, ?_⟩ | refine ⟨i, intE (l[i]'hlt), And.intro ⟨⟨fun h => h, fun h => h⟩, fun hg => ⟨rfl, get_map hlt⟩⟩ ?_⟩ | (refine And.intro ?_ ?_; focus (simp; done)) | fail)
      have hp : ∀ (hg : (!(decide (1 ≤ l[i]) && decide (l[i] ≤ 1000))) = false ∧ 0 < i), (IntKind.i64.wrap ((i : Int) - 1)) = ((i - 1 : Nat) : Int) ∧ (l.map intE)[i - 1]? = some (intE (l.getD (i - 1) 0)) := by
        rintro ⟨_, h0⟩
        refine ⟨by rw [wrap_i64 (by omega) (by omega)]; omega, ?_⟩
        have : i - 1 < l.length := by omega
        simp [this]
      refine ⟨i - 1, intE (l.getD (i - 1) 0), And.intro ⟨⟨fun h => h, fun h => h⟩, fun hg => hp ?_⟩ ?_⟩
      · simp only [Bool.and_eq_true, Bool.not_eq_true', decide_eq_true_eq] at hg
        refine ⟨?_, by omega⟩
        have := hg.1
        simpa using this
      repeat' ((conv => whnf); first | refine And.intro (fun h => h) ?_ | refine dcond_t (by assumption) ?_ | refine dcond_f (by assumption) ?_ | (refine dcond_intro ?_ ?_ <;> intro h) | exact .refl | refine And.intro (by kernel_rfl) ?_ | refine And.intro ⟨fun h => h, fun h => h⟩ ?_ | (refine And.intro ?_ ?_; focus (simp; done)) | fail)
      all_goals (conv => whnf)
      · refine dle_bool ?_
        have : riseAt l i = false := by simp only [riseAt, hg, h]; rfl
        rw [riseB, allB_false hlt this]
      · refine ⟨i + 1, ⟨hlt, fun j hj => ?_⟩, by simp only []; omega, ?_⟩
        · rcases Nat.lt_succ_iff_lt_or_eq.1 hj with hj | rfl
          · exact hall j hj
          · simp only [riseAt, hg, h]; rfl
        · exact ⟨by repeat' ((conv => whnf); first | exact trivial | refine And.intro (by (conv => arg 1; whnf); first | (with_reducible exact .refl) | exact dle_int (wrap_succ (by omega)) | exact .refl) ?_), by repeat' ((conv => whnf); first | exact trivial | refine And.intro ?_ ?_ | exact .refl), rfl⟩
    · have hge : ¬ i < l.length := by simpa using h
      conv => whnf
      refine dle_bool ?_
      rw [riseB, allB_true.2 (fun j hj => hall j (by omega))]
def cutRB (l : List Int) : Bool := (decide (1 ≤ (l.length : Int)) && decide ((l.length : Int) ≤ 32)) && riseB l
theorem c_ref1_SameInts (a b : List Int) (ha : a.length ≤ maxLen) : Ret Try.prog 44 [.lst 1 (a.map intE) false, .lst 1 (b.map intE) false] (.v (.bool (sameI a b))) := by
  have hl' : a.length ≤ 9223372036854775807 := ha
  refine ret_of_body (fn := Try.f44) (c := Try.f44.body.getD .skip) hm hT (by kernel_rfl) Try.func44 (by kernel_rfl) (by kernel_rfl) (by kernel_rfl) (by kernel_rfl) ?_
  repeat' ((conv => whnf); first | refine And.intro (fun h => h) ?_ | refine dcond_t (by assumption) ?_ | refine dcond_f (by assumption) ?_ | (refine dcond_intro ?_ ?_ <;> intro h) | exact .refl | refine And.intro (by kernel_rfl) ?_ | refine And.intro ⟨fun h => h, fun h => h⟩ ?_ | (refine And.intro ?_ ?_; focus (simp; done)) | fail)
  · refine dle_bool ?_
    simp only [List.length_map] at h
    have h : decide ((a.length : Int) = (b.length : Int)) = false := by simpa using h
    simp only [sameI, h, Bool.false_and]
  · have h0 : a.length = b.length := by
      simp at h
      omega
    clear h
    conv => whnf
    refine ⟨Nat, fun i => ⟨[(0, .lst 1 (a.map intE) false), (1, .lst 1 (b.map intE) false), (5, i64 i)], []⟩, fun i => i ≤ a.length ∧ ∀ j, j < i → decide (a.getD j 0 = b.getD j 0) = true, fun i => a.length - i, [], ⟨0, ⟨Nat.zero_le _, by omega⟩, ?_⟩, ?_⟩
    · exact ⟨by repeat' ((conv => whnf); first | exact trivial | refine And.intro (by (conv => arg 1; whnf); first | (with_reducible exact .refl) | exact dle_int (wrap_succ (by omega)) | exact .refl) ?_), by repeat' ((conv => whnf); first | exact trivial | refine And.intro ?_ ?_ | exact .refl), rfl⟩
    · intro i ⟨hi, hall⟩
      repeat' ((conv => whnf); first | refine And.intro (fun h => h) ?_ | refine dcond_t (by assumption) ?_ | refine dcond_f (by assumption) ?_ | (refine dcond_intro ?_ ?_ <;> intro h) | exact .refl | refine And.intro (by kernel_rfl) ?_ | refine And.intro ⟨fun h => h, fun h => h⟩ ?_ | (refine And.intro ?_ ?_; focus (simp; done)) | fail)
      · have hlt : i < a.length := by simpa using h
        have hlt2 : i < b.length := by omega
        clear h
        have hg : a.getD i 0 = a[i] := by simp [hlt]
        have hg2 : b.getD i 0 = b[i] := by simp [hlt2]
        repeat' ((conv => whnf); first | refine And.intro (fun h => h) ?_ | refine dcond_t (by assumption) ?_ | refine dcond_f (by assumption) ?_ | (refine dcond_intro ?_ ?_ <;> intro h) | exact .refl | refine And.intro (by kernel_rfl) ?_ | refine And.intro ⟨fun h => h, fun h => h⟩ ?_ | refine ⟨_, _, And.intro ⟨rfl, get_map hlt⟩ ?_⟩ | refine ⟨_, _, And.intro ⟨rfl, get_map hlt2⟩ ?_⟩ | (refine And.intro ?_ ?_; focus (simp; done)) | fail)
        · refine dle_bool ?_
          rw [sameI, allB_false hlt (i := i), Bool.and_false]
          rw [hg, hg2]
          simpa using h
        · conv => whnf
          refine ⟨i + 1, ⟨hlt, fun j hj => ?_⟩, by simp only []; omega, ?_⟩
          · rcases Nat.lt_succ_iff_lt_or_eq.1 hj with hj | rfl
            · exact hall j hj
            · rw [hg, hg2]
              simpa using h
          · exact ⟨by repeat' ((conv => whnf); first | exact trivial | refine And.intro (by (conv => arg 1; whnf); first | (with_reducible exact .refl) | exact dle_int (wrap_succ (by omega)) | exact .refl) ?_), by repeat' ((conv => whnf); first | exact trivial | refine And.intro ?_ ?_ | exact .refl), rfl⟩
      · have hge : ¬ i < a.length := by simpa using h
        conv => whnf
        refine dle_bool ?_
        rw [sameI, allB_true.2 (fun j hj => hall j (by omega)), h0]
        simp
/-- the checks of lists: the two say the same -/
theorem rise_iff {l : List Int} : riseB l = true ↔ ∀ i, (h : i < l.length) → 1 ≤ l[i] ∧ l[i] ≤ 1000 ∧ (0 < i → l.getD (i - 1) 0 < l[i]) := by
  rw [riseB, allB_true]
  refine forall_congr' fun i => ?_
  constructor
  · intro h hi
    have h := h hi
    have hg : l.getD i 0 = l[i] := by simp [hi]
    simp only [riseAt, hg, Bool.not_eq_true', Bool.or_eq_false_iff, Bool.not_eq_false', Bool.and_eq_true, decide_eq_true_eq, Bool.and_eq_false_iff, decide_eq_false_iff_not] at h
    omega
  · intro h hi
    have h := h hi
    have hg : l.getD i 0 = l[i] := by simp [hi]
    simp only [riseAt, hg, Bool.not_eq_true', Bool.or_eq_false_iff, Bool.not_eq_false', Bool.and_eq_true, decide_eq_true_eq, Bool.and_eq_false_iff, decide_eq_false_iff_not]
    omega
theorem oks_iff {l : List Int} : allB (okAt l) l.length = true ↔ ∀ i, (h : i < l.length) → (0 :: l).getD i 0 < l[i] ∧ l[i] ≤ 1000 := by
  rw [allB_true]
  refine forall_congr' fun i => ?_
  constructor
  · intro h hi
    have h := h hi
    have hg : l.getD i 0 = l[i] := by simp [hi]
    simp only [okAt, hg, Bool.not_eq_true', Bool.or_eq_false_iff, decide_eq_false_iff_not] at h
    omega
  · intro h hi
    have h := h hi
    have hg : l.getD i 0 = l[i] := by simp [hi]
    simp only [okAt, hg, Bool.not_eq_true', Bool.or_eq_false_iff, decide_eq_false_iff_not]
    omega
theorem rise_oks (l : List Int) : riseB l = allB (okAt l) l.length := by
  rw [Bool.eq_iff_iff, rise_iff, oks_iff]
  constructor
  · intro h i hi
    have h1 := h i hi
    cases i with
    | zero => simp; omega
    | succ i => exact ⟨by simpa using h1.2.2 (by omega), h1.2.1⟩
  · intro h i
    induction i with
    | zero => intro hi; have h1 := h 0 hi; simp at h1; exact ⟨by omega, h1.2, fun h => by omega⟩
    | succ i ih =>
      intro hi
      have h1 := h (i + 1) hi
      have h2 := ih (by omega)
      have e : (0 :: l).getD (i + 1) 0 = l[i] := by simp [show i < l.length by omega]
      rw [e] at h1
      exact ⟨by omega, h1.2, fun _ => by simp [show i < l.length by omega]; omega⟩
theorem ids_eq (l : List Int) (m : Int) : idsB l m = ((decide (1 ≤ (l.length : Int)) && decide ((l.length : Int) ≤ m)) && riseB l) := by
  rw [idsB, rise_oks]
  congr 1
  rw [Bool.eq_iff_iff]
  simp only [Bool.not_eq_true', Bool.or_eq_false_iff, decide_eq_false_iff_not, Bool.and_eq_true, decide_eq_true_eq]
  omega
theorem cutRB_eq (l : List Int) : cutRB l = idsB l 32 := by rw [ids_eq, cutRB]
/-! reference 3, second part (expects: splitR, nextR, fitsI, ole_row and the first part) -/
theorem c_ref3_Place (l : List Int) (hl : l.length ≤ maxLen) (x : Int) : Ret Try.prog 42 [.lst 1 (l.map intE) false, .v (.int .i64 x)] (.v (.int .i64 (placeB l x))) := by
  have hl' : l.length ≤ 9223372036854775807 := hl
  refine ret_of_body (fn := Try.f42) (c := Try.f42.body.getD .skip) hm hT (by kernel_rfl) Try.func42 (by kernel_rfl) (by kernel_rfl) (by kernel_rfl) (by kernel_rfl) ?_
  repeat' ((conv => whnf); first | refine And.intro (fun h => h) ?_ | refine dcond_t (by assumption) ?_ | refine dcond_f (by assumption) ?_ | (refine dcond_intro ?_ ?_ <;> intro h) | exact .refl | refine And.intro (by kernel_rfl) ?_ | refine And.intro ⟨fun h => h, fun h => h⟩ ?_ | (refine And.intro ?_ ?_; focus (simp; done)) | fail)
  refine ⟨Nat, fun i => ⟨[(0, .lst 1 (l.map intE) false), (1, .v (.int .i64 x)), (5, i64 i)], []⟩, fun i => i ≤ l.length ∧ ∀ j, j < i → decide (l[j]? = some x) = false, fun i => l.length - i, [], ⟨0, ⟨Nat.zero_le _, by omega⟩, ?_⟩, ?_⟩
  · exact ⟨by repeat' ((conv => whnf); first | exact trivial | refine And.intro (by (conv => arg 1; whnf); first | (with_reducible exact .refl) | exact dle_int (wrap_succ (by omega)) | exact .refl) ?_), by repeat' ((conv => whnf); first | exact trivial | refine And.intro ?_ ?_ | exact .refl), rfl⟩
  · intro i ⟨hi, hall⟩
    repeat' ((conv => whnf); first | refine And.intro (fun h => h) ?_ | refine dcond_t (by assumption) ?_ | refine dcond_f (by assumption) ?_ | (refine dcond_intro ?_ ?_ <;> intro h) | exact .refl | refine And.intro (by kernel_rfl) ?_ | refine And.intro ⟨fun h => h, fun h => h⟩ ?_ | (refine And.intro ?_ ?_; focus (simp; done)) | fail)
    · have hlt : i < l.length := by simpa using h
      repeat' ((conv => whnf); first | refine And.intro (fun h => h) ?_ | refine dcond_t (by assumption) ?_ | refine dcond_f (by assumption) ?_ | (refine dcond_intro ?_ ?_ <;> intro h) | exact .refl | refine And.intro (by kernel_rfl) ?_ | refine And.intro ⟨fun h => h, fun h => h⟩ ?_ | refine ⟨_, _, And.intro ⟨rfl, get_map hlt⟩ ?_⟩ | (refine And.intro ?_ ?_; focus (simp; done)) | fail)
      · have h2 := h
        refine dle_int (findB_at hlt ?_ hall).symm
        simpa [hlt] using h2
      · have h2 := h
        conv => whnf
        refine ⟨i + 1, ⟨hlt, fun j hj => ?_⟩, by simp only []; omega, ?_⟩
        · rcases Nat.lt_succ_iff_lt_or_eq.1 hj with hj | rfl
          · exact hall j hj
          · simpa [hlt] using h2
        · exact ⟨by repeat' ((conv => whnf); first | exact trivial | refine And.intro (by (conv => arg 1; whnf); first | (with_reducible exact .refl) | exact dle_int (wrap_succ (by omega)) | exact .refl) ?_), by repeat' ((conv => whnf); first | exact trivial | refine And.intro ?_ ?_ | exact .refl), rfl⟩
    · have hge : ¬ i < l.length := by simpa using h
      conv => whnf
      refine dle_int (findB_none (fun j hj => hall j (by omega))).symm
theorem c_ref3_Contains (l : List Int) (hl : l.length ≤ maxLen) (x : Int) : Ret Try.prog 33 [.lst 1 (l.map intE) false, .v (.int .i64 x)] (.v (.bool (inB l x))) := by
  refine ret_of_body (fn := Try.f33) (c := Try.f33.body.getD .skip) hm hT (by kernel_rfl) Try.func33 (by kernel_rfl) (by kernel_rfl) (by kernel_rfl) (by kernel_rfl) ?_
  repeat' ((conv => whnf); first | refine And.intro (fun h => h) ?_ | refine dcond_t (by assumption) ?_ | refine dcond_f (by assumption) ?_ | (refine dcond_intro ?_ ?_ <;> intro h) | exact .refl | refine And.intro (by kernel_rfl) ?_ | refine And.intro ⟨fun h => h, fun h => h⟩ ?_ | refine .inl ⟨_, _, DleAll_refl _, c_ref3_Place _ hl _, ?_⟩ | refine ⟨_, _, DleAll_refl _, fun _ => c_ref3_Place _ hl _, ?_⟩ | refine ⟨_, _, DleAll_refl _, c_ref3_Place _ hl _, ?_⟩ | (refine And.intro ?_ ?_; focus (simp; done)) | fail)
def memRB (l : List Int) : Bool := (decide (1 ≤ (l.length : Int)) && decide ((l.length : Int) ≤ 16)) && riseB l
theorem memRB_eq (l : List Int) : memRB l = idsB l 16 := by rw [ids_eq, memRB]
theorem c_ref3_ValidMembers (l : List Int) (hl : l.length ≤ maxLen) : Ret Try.prog 37 [.lst 1 (l.map intE) false] (.v (.bool (idsB l 16))) := by
  rw [← memRB_eq]
  refine ret_of_body (fn := Try.f37) (c := Try.f37.body.getD .skip) hm hT (by kernel_rfl) Try.func37 (by kernel_rfl) (by kernel_rfl) (by kernel_rfl) (by kernel_rfl) ?_
  repeat' ((conv => whnf); first | refine And.intro (fun h => h) ?_ | refine dcond_t (by assumption) ?_ | refine dcond_f (by assumption) ?_ | (refine dcond_intro ?_ ?_ <;> intro h) | exact .refl | refine And.intro (by kernel_rfl) ?_ | refine And.intro ⟨fun h => h, fun h => h⟩ ?_ | refine .inl ⟨_, _, DleAll_refl _, c_ref3_Rising _ hl, ?_⟩ | refine ⟨_, _, DleAll_refl _, fun _ => c_ref3_Rising _ hl, ?_⟩ | refine ⟨_, _, DleAll_refl _, c_ref3_Rising _ hl, ?_⟩ | (refine And.intro ?_ ?_; focus (simp; done)) | fail)
  all_goals (conv => whnf)
  refine dle_bool ?_
  simp only [memRB, List.length_map]
theorem c_ref3_Valid (v : View) (hl : v.mem.length ≤ maxLen) : Ret Try.prog 27 [.agg (viewE v)] (.v (.bool (viewB v))) := by
  refine ret_of_body (fn := Try.f27) (c := Try.f27.body.getD .skip) hm hT (by kernel_rfl) Try.func27 (by kernel_rfl) (by kernel_rfl) (by kernel_rfl) (by kernel_rfl) ?_
  repeat' ((conv => whnf); first | refine And.intro (fun h => h) ?_ | refine dcond_t (by assumption) ?_ | refine dcond_f (by assumption) ?_ | (refine dcond_intro ?_ ?_ <;> intro h) | exact .refl | refine And.intro (by kernel_rfl) ?_ | refine And.intro ⟨fun h => h, fun h => h⟩ ?_ | refine .inl ⟨_, _, DleAll_refl _, c_ref3_ValidMembers _ hl, ?_⟩ | refine ⟨_, _, DleAll_refl _, fun _ => c_ref3_ValidMembers _ hl, ?_⟩ | refine ⟨_, _, DleAll_refl _, c_ref3_ValidMembers _ hl, ?_⟩ | (refine And.intro ?_ ?_; focus (simp; done)) | fail)
def amongB (m : List Int) (b : Bool) (x : Int) : Bool := inB m x == b
def amongP (l m : List Int) (b : Bool) (i : Nat) : List (List DV) := ((l.take i).filter (amongB m b)).map intE
theorem amongP_len (l m : List Int) (b : Bool) (i : Nat) : (amongP l m b i).length ≤ i := by
  simp only [amongP, List.length_map]
  exact Nat.le_trans (List.length_filter_le _ _) (by simp; omega)
/-- the list so far, and whether the new element is in -/
def insA (l : List Int) (x : Int) : Nat → List Int × Bool
  | 0 => ([], false)
  | i + 1 => bif !(insA l x i).2 && decide (x < l.getD i 0) then ((insA l x i).1 ++ [x] ++ [l.getD i 0], true) else ((insA l x i).1 ++ [l.getD i 0], (insA l x i).2)
def insL (l : List Int) (x : Int) : List Int := bif (insA l x l.length).2 then (insA l x l.length).1 else (insA l x l.length).1 ++ [x]
theorem insA_len (l : List Int) (x : Int) : ∀ i, (insA l x i).1.length ≤ i + 1 ∧ ((insA l x i).2 = false → (insA l x i).1.length ≤ i)
  | 0 => by simp [insA]
  | i + 1 => by
    have ih := insA_len l x i
    simp only [insA]
    cases h : (insA l x i).2 <;> cases h2 : decide (x < l.getD i 0) <;> simp_all <;> omega
theorem insL_len (l : List Int) (x : Int) : (insL l x).length ≤ l.length + 1 := by
  have := insA_len l x l.length
  unfold insL
  cases h : (insA l x l.length).2 <;> simp_all
def insAll : List Int → List Int → List Int
  | l, [] => l
  | l, x :: r => insAll (insL l x) r
def insTo (l j : List Int) : Nat → List Int
  | 0 => l
  | i + 1 => insL (insTo l j i) (j.getD i 0)
theorem insTo_len (l j : List Int) : ∀ i, (insTo l j i).length ≤ l.length + i
  | 0 => Nat.le_refl _
  | i + 1 => by
    have := insTo_len l j i
    have h2 := insL_len (insTo l j i) (j.getD i 0)
    simp only [insTo]
    omega
def nextRR (v : View) (cut : List Int) : View × Int :=
  bif !viewB v || !idsB cut 32 then (⟨0, []⟩, 1)
  else bif decide (2 * ((stayL v cut).length : Int) ≤ (v.mem.length : Int)) then (⟨0, []⟩, 9)
  else bif decide (v.num = 1099511627776) || decide (16 < ((stayL v cut).length : Int) + ((comeL v cut).length : Int)) then (⟨0, []⟩, 5)
  else (⟨IntKind.i64.wrap (v.num + 1), insTo (stayL v cut) (comeL v cut) (comeL v cut).length⟩, 0)
theorem nextRR_err (v : View) (cut : List Int) : (nextRR v cut).2 = (nextR v cut).2 := by
  unfold nextRR nextR
  cases (!viewB v || !idsB cut 32) <;> simp only [cond_true, cond_false]
  cases decide (2 * ((stayL v cut).length : Int) ≤ (v.mem.length : Int)) <;> simp only [cond_true, cond_false]
  cases (decide (v.num = 1099511627776) || decide (16 < ((stayL v cut).length : Int) + ((comeL v cut).length : Int))) <;> simp only [cond_true, cond_false]
theorem view_ids {v : View} (hv : viewB v = true) : idsB v.mem 16 = true := by
  simp only [viewB, Bool.and_eq_true] at hv
  exact hv.2
theorem view_len {v : View} (hv : viewB v = true) : 1 ≤ v.mem.length ∧ v.mem.length ≤ 16 := by
  have hid := view_ids hv
  rw [ids_eq] at hid
  simp only [Bool.and_eq_true, decide_eq_true_eq] at hid
  omega
theorem mem_rise {v : View} (hv : viewB v = true) : 0 < v.mem.length ∧ ∀ i (h : i < v.mem.length), 1 ≤ v.mem[i] ∧ v.mem[i] ≤ 1000 ∧ (0 :: v.mem).getD i 0 < v.mem[i] := by
  have hid := view_ids hv
  have ho := hid
  rw [ids_eq] at hid
  simp only [Bool.and_eq_true, decide_eq_true_eq] at hid
  simp only [idsB, Bool.and_eq_true] at ho
  refine ⟨by omega, fun i h => ?_⟩
  have h1 := rise_iff.1 hid.2 i h
  have h2 := oks_iff.1 ho.2 i h
  exact ⟨h1.1, h1.2.1, h2.1⟩
theorem mem_in {l : List Int} {i : Nat} (h : i < l.length) : inB l l[i] = true := by
  rcases hf : (List.range l.length).find? (fun j => decide (l[j]? = some l[i])) with _ | n
  · have := List.find?_eq_none.1 hf i (List.mem_range.2 h)
    simp [h] at this
  · simp only [inB, placeB, findB, hf]
    exact decide_eq_true (by omega)
theorem in_iff {l : List Int} {x : Int} : inB l x = true ↔ x ∈ l := by
  constructor
  · intro h
    rcases hf : (List.range l.length).find? (fun i => decide (l[i]? = some x)) with _ | n
    · simp only [inB, placeB, findB, hf] at h
      cases h
    · have hp := List.find?_some hf
      simp only [decide_eq_true_eq] at hp
      exact List.mem_of_getElem? hp
  · intro h
    obtain ⟨i, hi, rfl⟩ := List.getElem_of_mem h
    exact mem_in hi
theorem sameI_refl (l : List Int) : sameI l l = true := by
  simp only [sameI, decide_true, Bool.true_and]
  exact allB_true.2 (fun j _ => by simp)
theorem sameI_iff {a b : List Int} : sameI a b = true ↔ a = b := by
  constructor
  · intro h
    simp only [sameI, Bool.and_eq_true, decide_eq_true_eq, allB_true] at h
    refine List.ext_getElem (by omega) fun i h1 h2 => ?_
    have := h.2 i h1
    simpa [h1, h2] using this
  · rintro rfl
    exact sameI_refl a
theorem dat_ints {n : Nat} {r : List DV} (h : Dat tt (n + 2) 31 r) : ∃ l : List Int, r = [.lst 1 (l.map intE) false] ∧ l.length ≤ maxLen := by
  obtain ⟨es, rfl, hl, hes⟩ := h
  obtain ⟨d, rfl, _⟩ := list_data (f := intE) (Q := fun _ => True) (fun r hr => by
    obtain ⟨i, rfl, _⟩ := hes r hr
    exact ⟨i, rfl, trivial⟩)
  exact ⟨d, rfl, by simpa using hl⟩
theorem dat_view {n : Nat} {r : List DV} (h : Dat tt (n + 3) 33 r) : ∃ a : View, r = viewE a ∧ a.mem.length ≤ maxLen := by
  obtain ⟨p, q, rfl, ⟨np, rfl, _⟩, l, s, rfl, hl, rfl⟩ := h
  obtain ⟨l, rfl, hll⟩ := dat_ints (n := n) hl
  exact ⟨⟨np, l⟩, rfl, hll⟩
theorem dat_u8b {n : Nat} {r : List DV} (h : Dat tt (n + 2) 54 r) : ∃ l : List Nat, r = [.lst 1 (l.map byteI) false] ∧ l.length ≤ maxLen ∧ ∀ x ∈ l, x ≤ 255 := by
  obtain ⟨es, rfl, hl, hes⟩ := h
  obtain ⟨d, rfl, hd⟩ := list_data (f := byteI) (Q := fun x => x ≤ 255) (fun r hr => by
    obtain ⟨i, rfl, hi⟩ := hes r hr
    have hb := bounds_u8 (by exact hi)
    exact ⟨i.toNat, by simp only [byteI]; rw [Int.toNat_of_nonneg (by omega)], by omega⟩)
  exact ⟨d, rfl, by simpa using hl, hd⟩
end Go.Proofs.Ytdajfimollbnlaa

set_option linter.unusedSimpArgs false
set_option linter.unusedVariables false
namespace Go.Proofs.Ytdajfimollbnlaa
open Go.Lift
/-! package cmp, at integers -/
def cmpI (a b : Int) : Int := bif decide (a < b) then -1 else bif decide (b < a) then 1 else 0
theorem cmp_iff (a b : Int) : (cmpI a b < 0 ↔ a < b) ∧ (cmpI a b = 0 ↔ a = b) ∧ (cmpI a b = -1 ∨ cmpI a b = 0 ∨ cmpI a b = 1) := by
  unfold cmpI
  by_cases h1 : a < b
  · simp [h1]; omega
  · by_cases h2 : b < a
    · simp [h1, h2]; omega
    · simp [h1, h2]; omega
theorem c_isNaN_u64 (a : Int) : Ret Try.prog 57 [.v (.int .u64 a)] (.v (.bool false)) := by
  refine ret_of_body (fn := Try.f57) (c := Try.f57.body.getD .skip) hm hT (by kernel_rfl) Try.func57 (by kernel_rfl) (by kernel_rfl) (by kernel_rfl) (by kernel_rfl) ?_
  repeat' ((conv => whnf); first | refine And.intro (fun h => h) ?_ | refine dcond_t (by assumption) ?_ | refine dcond_f (by assumption) ?_ | (refine dcond_intro ?_ ?_ <;> intro h) | exact .refl | refine And.intro (by kernel_rfl) ?_ | refine And.intro ⟨fun h => h, fun h => h⟩ ?_ | (refine And.intro ?_ ?_; focus (simp; done)) | fail)
  all_goals (conv => whnf)
  refine dle_bool ?_
  simp
theorem c_Compare_u64 (a b : Int) : Ret Try.prog 52 [.v (.int .u64 a), .v (.int .u64 b)] (.v (.int .i64 (cmpI a b))) := by
  refine ret_of_body (fn := Try.f52) (c := Try.f52.body.getD .skip) hm hT (by kernel_rfl) Try.func52 (by kernel_rfl) (by kernel_rfl) (by kernel_rfl) (by kernel_rfl) ?_
  repeat' ((conv => whnf); first | refine And.intro (fun h => h) ?_ | refine dcond_t (by assumption) ?_ | refine dcond_f (by assumption) ?_ | (refine dcond_intro ?_ ?_ <;> intro h) | exact .refl | refine And.intro (by kernel_rfl) ?_ | refine And.intro ⟨fun h => h, fun h => h⟩ ?_ | refine .inl ⟨_, _, DleAll_refl _, c_isNaN_u64 _, ?_⟩ | refine ⟨_, _, DleAll_refl _, fun _ => c_isNaN_u64 _, ?_⟩ | refine ⟨_, _, DleAll_refl _, c_isNaN_u64 _, ?_⟩ | (refine And.intro ?_ ?_; focus (simp; done)) | fail)
  all_goals (conv => whnf)
  all_goals refine dle_int ?_
  all_goals simp only [cmpI, *, cond_true, cond_false]
end Go.Proofs.Ytdajfimollbnlaa

set_option linter.unusedSimpArgs false
set_option linter.unusedVariables false
namespace Go.Proofs.Ytdajfimollbnlaa
open Go.Lift
/-! package hashing -/
def u64 (n : Int) : DV := .v (.int .u64 n)
def mix1 (x s f : Int) : Int := IntKind.u64.wrap (bits .xor .u64 x (x.fdiv (2 ^ (min s.toNat 64))) * f)
def mixAt (x : Int) : Nat → Int
  | 0 => x
  | 1 => mix1 x 30 13787848793156543929
  | _ => mix1 (mix1 x 30 13787848793156543929) 27 10723151780598845931
def mixR (x : Int) : Int := bits .xor .u64 (mixAt x 2) ((mixAt x 2).fdiv (2 ^ (min (31 : Int).toNat 64)))
theorem c_shifts : Ret Try.prog 77 [] (.agg [u64 30, u64 27, u64 31]) := by
  refine ret_of_body (fn := Try.f77) (c := Try.f77.body.getD .skip) hm hT (by kernel_rfl) Try.func77 (by kernel_rfl) (by kernel_rfl) (by kernel_rfl) (by kernel_rfl) ?_
  repeat' ((conv => whnf); first | refine And.intro (fun h => h) ?_ | refine dcond_t (by assumption) ?_ | refine dcond_f (by assumption) ?_ | (refine dcond_intro ?_ ?_ <;> intro h) | exact .refl | refine And.intro (by kernel_rfl) ?_ | refine And.intro ⟨fun h => h, fun h => h⟩ ?_ | (refine And.intro ?_ ?_; focus (simp; done)) | fail)
theorem c_factors : Ret Try.prog 78 [] (.agg [u64 13787848793156543929, u64 10723151780598845931]) := by
  refine ret_of_body (fn := Try.f78) (c := Try.f78.body.getD .skip) hm hT (by kernel_rfl) Try.func78 (by kernel_rfl) (by kernel_rfl) (by kernel_rfl) (by kernel_rfl) ?_
  repeat' ((conv => whnf); first | refine And.intro (fun h => h) ?_ | refine dcond_t (by assumption) ?_ | refine dcond_f (by assumption) ?_ | (refine dcond_intro ?_ ?_ <;> intro h) | exact .refl | refine And.intro (by kernel_rfl) ?_ | refine And.intro ⟨fun h => h, fun h => h⟩ ?_ | (refine And.intro ?_ ?_; focus (simp; done)) | fail)
theorem c_Mix (x : Int) : Ret Try.prog 70 [u64 x] (u64 (mixR x)) := by
  refine ret_of_body (fn := Try.f70) (c := Try.f70.body.getD .skip) hm hT (by kernel_rfl) Try.func70 (by kernel_rfl) (by kernel_rfl) (by kernel_rfl) (by kernel_rfl) ?_
  repeat' ((conv => whnf); first | refine And.intro (fun h => h) ?_ | refine dcond_t (by assumption) ?_ | refine dcond_f (by assumption) ?_ | (refine dcond_intro ?_ ?_ <;> intro h) | exact .refl | refine And.intro (by kernel_rfl) ?_ | refine And.intro ⟨fun h => h, fun h => h⟩ ?_ | refine .inl ⟨_, _, DleAll_refl _, c_shifts, ?_⟩ | refine ⟨_, _, DleAll_refl _, fun _ => c_shifts, ?_⟩ | refine ⟨_, _, DleAll_refl _, c_shifts, ?_⟩ | refine .inl ⟨_, _, DleAll_refl _, c_factors, ?_⟩ | refine ⟨_, _, DleAll_refl _, fun _ => c_factors, ?_⟩ | refine ⟨_, _, DleAll_refl _, c_factors, ?_⟩ | (refine And.intro ?_ ?_; focus (simp; done)) | fail)
  refine ⟨Nat, fun i => ⟨[(0, u64 (mixAt x i)), (3, .lp 0 0), (4, .lp 1 0), (8, i64 i)], [.cells 97 [u64 30, u64 27, u64 31], .cells 99 [u64 13787848793156543929, u64 10723151780598845931]]⟩, fun i => i ≤ 2, fun i => 2 - i, [], ⟨0, Nat.zero_le _, ?_⟩, ?_⟩
  · exact ⟨by repeat' ((conv => whnf); first | exact trivial | refine And.intro (by (conv => arg 1; whnf); first | (with_reducible exact .refl) | exact dle_int (wrap_succ (by omega)) | exact .refl) ?_), by repeat' ((conv => whnf); first | exact trivial | refine And.intro ?_ ?_ | exact .refl), rfl⟩
  · intro i hi
    repeat' ((conv => whnf); first | refine And.intro (fun h => h) ?_ | refine dcond_t (by assumption) ?_ | refine dcond_f (by assumption) ?_ | (refine dcond_intro ?_ ?_ <;> intro h) | exact .refl | refine And.intro (by kernel_rfl) ?_ | refine And.intro ⟨fun h => h, fun h => h⟩ ?_ | (refine And.intro ?_ ?_; focus (simp; done)) | fail)
    · have hlt : i < 2 := by
        simp at h
        omega
      clear h
      have hc : i = 0 ∨ i = 1 := by omega
      rcases hc with rfl | rfl
      · repeat' ((conv => whnf); first | refine And.intro (fun h => h) ?_ | refine dcond_t (by assumption) ?_ | refine dcond_f (by assumption) ?_ | (refine dcond_intro ?_ ?_ <;> intro h) | exact .refl | refine And.intro (by kernel_rfl) ?_ | refine And.intro ⟨fun h => h, fun h => h⟩ ?_ | refine ⟨0, And.intro ⟨rfl, by decide⟩ ?_⟩ | refine ⟨.v (.int .u64 30), And.intro rfl ?_⟩ | refine ⟨.v (.int .u64 13787848793156543929), And.intro rfl ?_⟩ | (refine And.intro ?_ ?_; focus (simp; done)) | fail)
        all_goals (conv => whnf)
        refine ⟨1, by omega, by decide, ?_⟩
        exact ⟨⟨dle_int rfl, .refl, .refl, .refl, trivial⟩, ⟨.refl, .refl, trivial⟩, rfl⟩
      · repeat' ((conv => whnf); first | refine And.intro (fun h => h) ?_ | refine dcond_t (by assumption) ?_ | refine dcond_f (by assumption) ?_ | (refine dcond_intro ?_ ?_ <;> intro h) | exact .refl | refine And.intro (by kernel_rfl) ?_ | refine And.intro ⟨fun h => h, fun h => h⟩ ?_ | refine ⟨1, And.intro ⟨rfl, by decide⟩ ?_⟩ | refine ⟨.v (.int .u64 27), And.intro rfl ?_⟩ | refine ⟨.v (.int .u64 10723151780598845931), And.intro rfl ?_⟩ | (refine And.intro ?_ ?_; focus (simp; done)) | fail)
        all_goals (conv => whnf)
        refine ⟨2, by omega, by decide, ?_⟩
        exact ⟨⟨dle_int rfl, .refl, .refl, .refl, trivial⟩, ⟨.refl, .refl, trivial⟩, rfl⟩
    · have : i = 2 := by
        simp at h
        omega
      subst this
      repeat' ((conv => whnf); first | refine And.intro (fun h => h) ?_ | refine dcond_t (by assumption) ?_ | refine dcond_f (by assumption) ?_ | (refine dcond_intro ?_ ?_ <;> intro h) | exact .refl | refine And.intro (by kernel_rfl) ?_ | refine And.intro ⟨fun h => h, fun h => h⟩ ?_ | (refine And.intro ?_ ?_; focus (simp; done)) | fail)
      all_goals (conv => whnf)
      all_goals trace_state
def combR (h x : Int) : Int := mixR (IntKind.u64.wrap (h + IntKind.u64.wrap (11400714819323198485 * IntKind.u64.wrap (x + 1))))
theorem c_Combine (h x : Int) : Ret Try.prog 58 [u64 h, u64 x] (u64 (combR h x)) := by
  refine ret_of_body (fn := Try.f58) (c := Try.f58.body.getD .skip) hm hT (by kernel_rfl) Try.func58 (by kernel_rfl) (by kernel_rfl) (by kernel_rfl) (by kernel_rfl) ?_
  repeat' ((conv => whnf); first | refine And.intro (fun h => h) ?_ | refine dcond_t (by assumption) ?_ | refine dcond_f (by assumption) ?_ | (refine dcond_intro ?_ ?_ <;> intro h) | exact .refl | refine And.intro (by kernel_rfl) ?_ | refine And.intro ⟨fun h => h, fun h => h⟩ ?_ | refine .inl ⟨_, _, DleAll_refl _, c_Mix _, ?_⟩ | refine ⟨_, _, DleAll_refl _, fun _ => c_Mix _, ?_⟩ | refine ⟨_, _, DleAll_refl _, c_Mix _, ?_⟩ | (refine And.intro ?_ ?_; focus (simp; done)) | fail)
def tokR (m i : Int) : Int := combR (combR 500085515630 (IntKind.u64.wrap m)) (IntKind.u64.wrap i)
def posR (r m : Int) : Int := combR (IntKind.u64.wrap r) (IntKind.u64.wrap m)
theorem c_Position (r m : Int) : Ret Try.prog 53 [i64 r, i64 m] (u64 (posR r m)) := by
  refine ret_of_body (fn := Try.f53) (c := Try.f53.body.getD .skip) hm hT (by kernel_rfl) Try.func53 (by kernel_rfl) (by kernel_rfl) (by kernel_rfl) (by kernel_rfl) ?_
  repeat' ((conv => whnf); first | refine And.intro (fun h => h) ?_ | refine dcond_t (by assumption) ?_ | refine dcond_f (by assumption) ?_ | (refine dcond_intro ?_ ?_ <;> intro h) | exact .refl | refine And.intro (by kernel_rfl) ?_ | refine And.intro ⟨fun h => h, fun h => h⟩ ?_ | refine .inl ⟨_, _, DleAll_refl _, c_Combine _ _, ?_⟩ | refine ⟨_, _, DleAll_refl _, fun _ => c_Combine _ _, ?_⟩ | refine ⟨_, _, DleAll_refl _, c_Combine _ _, ?_⟩ | (refine And.intro ?_ ?_; focus (simp; done)) | fail)
end Go.Proofs.Ytdajfimollbnlaa

/-
  DERIVED: THE SHELF's CONTRACTS AT THIS DUMP, IN PLAIN WORDS (tools/lay-plain.mjs out of 'YtdajfimollbnlaaShelf.lean', which tools/lay-shelf.mjs wrote): THE SAME DECLARATIONS UNDER THE SAME NAMES: 'import', 'namespace', 'open', 'def', 'theorem' AND NOTHING ELSE: no command of the shelf's: FOR A HAND-IN. Each laying: the table of numbers ('.._ren') and one theorem, a field a fact of the dump's own or the kernel's comparison; each contract: ONE APPLICATION.
-/
namespace Go.Proofs
open Go.Shelf
def Try.sortInt_ren : Go.Shelf.Ren := ⟨fun | 6 => 50 | 15 => 56 | 14 => 55 | 28 => 68 | 29 => 69 | 20 => 60 | 21 => 61 | 22 => 62 | 23 => 63 | 24 => 64 | 25 => 65 | 26 => 66 | 27 => 67 | 46 => 72 | 47 => 73 | 48 => 74 | 49 => 75 | 50 => 76 | 57 => 79 | n => n, fun | 22 => 31 | 24 => 3 | 25 => 76 | 3 => 3 | 39 => 59 | 0 => 0 | 53 => 22 | 55 => 74 | 4 => 4 | 46 => 83 | 45 => 82 | 50 => 87 | 5 => 5 | 9 => 9 | 66 => 91 | 70 => 95 | 76 => 101 | 77 => 102 | n => n, fun | n => n⟩
theorem Try.sortInt : Go.Proofs.SlLaysF.n6 Try.prog Try.sortInt_ren := {
  mixed := by kernel_rfl
  f6 := ⟨Try.f50.name, by decide, Try.func50.trans (congrArg some (by kernel_rfl))⟩
  f14 := ⟨Try.f55.name, by decide, Try.func55.trans (congrArg some (by kernel_rfl))⟩
  f15 := Try.func56.trans (congrArg some (by kernel_rfl))
  f20 := ⟨Try.f60.name, by decide, Try.func60.trans (congrArg some (by kernel_rfl))⟩
  f21 := ⟨Try.f61.name, by decide, Try.func61.trans (congrArg some (by kernel_rfl))⟩
  f22 := ⟨Try.f62.name, by decide, Try.func62.trans (congrArg some (by kernel_rfl))⟩
  f23 := ⟨Try.f63.name, by decide, Try.func63.trans (congrArg some (by kernel_rfl))⟩
  f24 := ⟨Try.f64.name, by decide, Try.func64.trans (congrArg some (by kernel_rfl))⟩
  f25 := ⟨Try.f65.name, by decide, Try.func65.trans (congrArg some (by kernel_rfl))⟩
  f26 := ⟨Try.f66.name, by decide, Try.func66.trans (congrArg some (by kernel_rfl))⟩
  f27 := ⟨Try.f67.name, by decide, Try.func67.trans (congrArg some (by kernel_rfl))⟩
  f28 := Try.func68.trans (congrArg some (by kernel_rfl))
  f29 := Try.func69.trans (congrArg some (by kernel_rfl))
  f46 := ⟨Try.f72.name, by decide, Try.func72.trans (congrArg some (by kernel_rfl))⟩
  f47 := Try.func73.trans (congrArg some (by kernel_rfl))
  f48 := Try.func74.trans (congrArg some (by kernel_rfl))
  f49 := ⟨Try.f75.name, by decide, Try.func75.trans (congrArg some (by kernel_rfl))⟩
  f50 := ⟨Try.f76.name, by decide, Try.func76.trans (congrArg some (by kernel_rfl))⟩
  f57 := ⟨Try.f79.name, by decide, Try.func79.trans (congrArg some (by kernel_rfl))⟩
  t0 := Try.underlying0
  a0 := Try.isAgg0
  z0 := Try.sizeOf0
  v0 := Try.zeroValue0
  t3 := Try.underlying3
  a3 := Try.isAgg3
  z3 := Try.sizeOf3
  v3 := Try.zeroValue3
  t4 := Try.underlying4
  a4 := Try.isAgg4
  z4 := Try.sizeOf4
  v4 := Try.zeroValue4
  t5 := Try.underlying5
  a5 := Try.isAgg5
  z5 := Try.sizeOf5
  v5 := Try.zeroValue5
  t9 := Try.underlying9
  a9 := Try.isAgg9
  z9 := Try.sizeOf9
  v9 := Try.zeroValue9
  t22 := Try.underlying31
  a22 := Try.isAgg31
  z22 := Try.sizeOf31
  v22 := Try.zeroValue31
  a24 := Try.isAgg3
  z24 := Try.sizeOf3
  t25 := Try.underlying76
  a25 := Try.isAgg76
  z25 := Try.sizeOf76
  v25 := Try.zeroValue76
  t39 := Try.underlying59
  a39 := Try.isAgg59
  z39 := Try.sizeOf59
  v39 := Try.zeroValue59
  t45 := Try.underlying82
  a45 := Try.isAgg82
  z45 := Try.sizeOf82
  v45 := Try.zeroValue82
  t46 := Try.underlying83
  a46 := Try.isAgg83
  z46 := Try.sizeOf83
  v46 := Try.zeroValue83
  t50 := Try.underlying87
  a50 := Try.isAgg87
  z50 := Try.sizeOf87
  v50 := Try.zeroValue87
  t53 := Try.underlying22
  a53 := Try.isAgg22
  z53 := Try.sizeOf22
  v53 := Try.zeroValue22
  t55 := Try.underlying74
  a55 := Try.isAgg74
  z55 := Try.sizeOf74
  v55 := Try.zeroValue74
  t66 := Try.underlying91
  a66 := Try.isAgg91
  z66 := Try.sizeOf91
  v66 := Try.zeroValue91
  t70 := Try.underlying95
  a70 := Try.isAgg95
  z70 := Try.sizeOf95
  v70 := Try.zeroValue95
  t76 := Try.underlying101
  a76 := Try.isAgg101
  z76 := Try.sizeOf101
  v76 := Try.zeroValue101
  t77 := Try.underlying102
  a77 := Try.isAgg102
  z77 := Try.sizeOf102
  v77 := Try.zeroValue102 }
end Go.Proofs

set_option linter.unusedSimpArgs false
set_option linter.unusedVariables false
namespace Go.Proofs.Ytdajfimollbnlaa
open Go.Lift
open Go.Sort (SWO)
/-- a sorted list of a strict weak order -/
def sortL {β : Type} (cf : β → β → Int) (l : List β) : List β := l.mergeSort fun x y => !Go.Proofs.ltOf cf y x
theorem sortL_perm {β : Type} (cf : β → β → Int) (l : List β) : (sortL cf l).Perm l := List.mergeSort_perm _ _
theorem sortL_sorted {β : Type} {cf : β → β → Int} (hO : SWO (Go.Proofs.ltOf cf)) (l : List β) : (sortL cf l).Pairwise fun x y => Go.Proofs.ltOf cf y x = false := by
  have h := List.pairwise_mergeSort (le := fun x y => !Go.Proofs.ltOf cf y x) (fun a b c h1 h2 => by
    simp only [Bool.not_eq_true'] at *
    exact hO.ntrans _ _ _ h2 h1) (fun a b => by
    cases h : Go.Proofs.ltOf cf b a
    · simp
    · cases h2 : Go.Proofs.ltOf cf a b
      · simp
      · have := hO.trans _ _ _ h h2
        rw [hO.irrefl] at this
        cases this) l
  exact h.imp fun h => by simpa using h
theorem sortL_mem {β : Type} {cf : β → β → Int} {l : List β} {x : β} : x ∈ sortL cf l ↔ x ∈ l := (sortL_perm cf l).mem_iff
theorem sortL_len {β : Type} (cf : β → β → Int) (l : List β) : (sortL cf l).length = l.length := (sortL_perm cf l).length_eq
theorem sorted_eq {β : Type} {cf : β → β → Int} (hanti : ∀ x y, Go.Proofs.ltOf cf x y = false → Go.Proofs.ltOf cf y x = false → x = y) {l l' : List β} (hp : l.Perm l') (h1 : l.Pairwise fun x y => Go.Proofs.ltOf cf y x = false) (h2 : l'.Pairwise fun x y => Go.Proofs.ltOf cf y x = false) : l = l' :=
  List.Perm.eq_of_pairwise (le := fun x y => Go.Proofs.ltOf cf y x = false) (fun a b _ _ h1 h2 => hanti a b h2 h1) h1 h2 hp
end Go.Proofs.Ytdajfimollbnlaa

set_option linter.unusedSimpArgs false
set_option linter.unusedVariables false
namespace Go.Proofs.Ytdajfimollbnlaa
open Go.Lift
/-! package slices, at lists of integers -/
end Go.Proofs.Ytdajfimollbnlaa

set_option linter.unusedSimpArgs false
set_option linter.unusedVariables false
namespace Go.Proofs.Ytdajfimollbnlaa
open Go.Lift
/-! plain facts: rising lists, insertion -/
theorem rise_pw {l : List Int} : riseB l = true ↔ l.Pairwise (· < ·) ∧ ∀ x ∈ l, 1 ≤ x ∧ x ≤ 1000 := by
  rw [rise_iff]
  constructor
  · intro h
    have hstep : ∀ i (hi : i + 1 < l.length), l[i] < l[i + 1] := fun i hi => by
      have := (h (i + 1) hi).2.2 (by omega)
      simpa [show i < l.length by omega] using this
    refine ⟨?_, fun x hx => ?_⟩
    · rw [List.pairwise_iff_getElem]
      intro i j hi hj hij
      have key : ∀ d (hd : i + (d + 1) < l.length), l[i] < l[i + (d + 1)] := by
        intro d
        induction d with
        | zero => intro hd; exact hstep i hd
        | succ d ih =>
          intro hd
          have h1 := ih (by omega)
          have h2 := hstep (i + (d + 1)) hd
          exact Int.lt_trans h1 h2
      have := key (j - i - 1) (by omega)
      simpa [show i + (j - i - 1 + 1) = j by omega] using this
    · obtain ⟨i, hi, rfl⟩ := List.getElem_of_mem hx
      have := h i hi
      exact ⟨this.1, this.2.1⟩
  · intro ⟨h1, h2⟩ i hi
    have := h2 _ (List.getElem_mem hi)
    refine ⟨this.1, this.2, fun h0 => ?_⟩
    have h3 := List.pairwise_iff_getElem.1 h1 (i - 1) i (by omega) hi (by omega)
    simpa [show i - 1 < l.length by omega] using h3
theorem ids_pw {l : List Int} {m : Int} : idsB l m = true ↔ (1 ≤ (l.length : Int) ∧ (l.length : Int) ≤ m) ∧ l.Pairwise (· < ·) ∧ ∀ x ∈ l, 1 ≤ x ∧ x ≤ 1000 := by
  rw [ids_eq]
  simp only [Bool.and_eq_true, decide_eq_true_eq, rise_pw]
theorem pw_nodup {l : List Int} (h : l.Pairwise (· < ·)) : l.Nodup := h.imp (fun h => by omega)
/-- insertion, by its definition -/
def insW (l : List Int) (x : Int) : List Int := l.takeWhile (fun y => !decide (x < y)) ++ x :: l.dropWhile (fun y => !decide (x < y))
theorem insW_perm (l : List Int) (x : Int) : (insW l x).Perm (x :: l) := by
  unfold insW
  refine List.perm_middle.trans ?_
  rw [List.takeWhile_append_dropWhile]
theorem insA_eq (l : List Int) (x : Int) : ∀ i, i ≤ l.length → insA l x i = if i ≤ (l.takeWhile (fun y => !decide (x < y))).length then (l.take i, false) else (l.takeWhile (fun y => !decide (x < y)) ++ x :: (l.take i).drop (l.takeWhile (fun y => !decide (x < y))).length, true)
  | 0, _ => by simp [insA]
  | i + 1, hi => by
    have ih := insA_eq l x i (by omega)
    have hg : l.getD i 0 = l[i] := by simp [show i < l.length by omega]
    generalize hA : l.takeWhile (fun y => !decide (x < y)) = A at ih
    have hlen : A.length ≤ l.length := by rw [← hA]; exact (List.takeWhile_prefix _).length_le
    have hpre : ∀ j (hj : j < A.length), ¬ x < l[j]'(by omega) := fun j hj => by
      have h1 : A[j] ∈ l.takeWhile (fun y => !decide (x < y)) := by rw [hA]; exact List.getElem_mem hj
      have h2 := List.all_eq_true.1 (List.all_takeWhile (p := fun y => !decide (x < y)) (l := l)) _ h1
      have h3 : A[j] = l[j]'(by omega) := by
        have hp : A <+: l := by rw [← hA]; exact List.takeWhile_prefix _
        exact hp.getElem hj
      rw [h3] at h2
      simpa using h2
    have hat : ∀ (hj : A.length < l.length), x < l[A.length] := fun hj => by
      have h1 : l.dropWhile (fun y => !decide (x < y)) ≠ [] := by
        intro h
        have := List.takeWhile_append_dropWhile (p := fun y => !decide (x < y)) (l := l)
        rw [h, List.append_nil, hA] at this
        rw [this] at hj
        omega
      have h2 := List.head_dropWhile_not (fun y => !decide (x < y)) h1
      have h3 : (l.dropWhile (fun y => !decide (x < y))).head h1 = l[A.length] := by
        have h4 := List.takeWhile_append_dropWhile (p := fun y => !decide (x < y)) (l := l)
        rw [hA] at h4
        rw [List.head_eq_getElem]
        have : l[A.length] = (A ++ l.dropWhile (fun y => !decide (x < y)))[A.length]'(by rw [h4]; exact hj) := by
          simp only [h4]
        rw [this, List.getElem_append_right (Nat.le_refl _)]
        simp
      rw [h3] at h2
      simpa using h2
    simp only [insA, ih, hg]
    by_cases h1 : i + 1 ≤ A.length
    · have h2 : i ≤ A.length := by omega
      simp only [h1, h2, if_true]
      have hn := hpre i (by omega)
      have hd : decide (x < l[i]'(by omega)) = false := decide_eq_false hn
      simp only [hd, Bool.and_false, cond_false, Prod.mk.injEq, and_true]
      rw [List.take_succ_eq_append_getElem (show i < l.length by omega)]
    · simp only [h1, if_false]
      by_cases h2 : i ≤ A.length
      · have h3 : i = A.length := by omega
        have h4 := hat (by omega)
        simp only [h2, if_true]
        have h5 : x < l[i] := by simpa [h3] using h4
        have h6 : l.take i = A := by
          have hp : A <+: l := by rw [← hA]; exact List.takeWhile_prefix _
          rw [h3]
          exact (List.prefix_iff_eq_take.1 hp).symm
        simp only [h5, decide_true, Bool.not_false, Bool.and_self, cond_true, Prod.mk.injEq, and_true]
        rw [List.take_succ_eq_append_getElem (show i < l.length by omega), h6, List.drop_append_of_le_length (Nat.le_refl _), List.drop_length]
        simp
      · simp only [h2, if_false]
        simp only [Bool.not_true, Bool.false_and, cond_false, Prod.mk.injEq, and_true]
        rw [List.take_succ_eq_append_getElem (show i < l.length by omega), List.drop_append_of_le_length (by rw [List.length_take]; omega)]
        simp
theorem insL_eq (l : List Int) (x : Int) : insL l x = insW l x := by
  have h := insA_eq l x l.length (Nat.le_refl _)
  have ht := List.takeWhile_append_dropWhile (p := fun y => !decide (x < y)) (l := l)
  unfold insL insW
  rw [h]
  generalize hA : l.takeWhile (fun y => !decide (x < y)) = A at ht
  generalize l.dropWhile (fun y => !decide (x < y)) = B at ht
  subst ht
  by_cases hB : (A ++ B).length ≤ A.length
  · have : B = [] := by
      rw [List.length_append] at hB
      exact List.length_eq_zero_iff.1 (by omega)
    subst this
    rw [List.append_nil]
    simp
  · rw [if_neg hB]
    simp only [cond_true]
    rw [List.take_of_length_le (Nat.le_refl _)]
    simp
theorem insW_pw {l : List Int} {x : Int} (h : l.Pairwise (· < ·)) (hx : x ∉ l) : (insW l x).Pairwise (· < ·) := by
  have ht := List.takeWhile_append_dropWhile (p := fun y => !decide (x < y)) (l := l)
  have h1 : ∀ y ∈ l.takeWhile (fun y => !decide (x < y)), y < x := fun y hy => by
    have h2 := List.all_eq_true.1 (List.all_takeWhile (p := fun y => !decide (x < y)) (l := l)) _ hy
    have h3 : y ∈ l := (List.takeWhile_prefix _).subset hy
    simp at h2
    rcases Int.lt_or_eq_of_le h2 with h2 | h2
    · exact h2
    · subst h2; exact absurd h3 hx
  have h2 : ∀ y ∈ l.dropWhile (fun y => !decide (x < y)), x < y := fun y hy => by
    have h3 : l.dropWhile (fun y => !decide (x < y)) ≠ [] := List.ne_nil_of_mem hy
    have h4 := List.head_dropWhile_not (fun y => !decide (x < y)) h3
    simp at h4
    have h5 : (l.dropWhile (fun y => !decide (x < y))).Pairwise (· < ·) := h.sublist (List.dropWhile_sublist _)
    obtain ⟨a, r, hr⟩ := List.exists_cons_of_ne_nil h3
    simp only [hr, List.head_cons] at h4 hy h5 ⊢
    rcases List.mem_cons.1 hy with rfl | hy
    · exact h4
    · have := (List.pairwise_cons.1 h5).1 y hy
      omega
  unfold insW
  generalize l.takeWhile (fun y => !decide (x < y)) = A at *
  generalize l.dropWhile (fun y => !decide (x < y)) = B at *
  subst ht
  rw [List.pairwise_append] at h ⊢
  refine ⟨h.1, List.pairwise_cons.2 ⟨h2, h.2.1⟩, fun a ha b hb => ?_⟩
  rcases List.mem_cons.1 hb with rfl | hb
  · exact h1 a ha
  · exact h.2.2 a ha b hb
theorem ins_ids {l : List Int} {x : Int} {m : Int} (h : idsB l m = true) (hx : x ∉ l) (h1 : 1 ≤ x) (h2 : x ≤ 1000) (hm : (l.length : Int) < m) : idsB (insL l x) m = true := by
  rw [ids_pw] at *
  have hp := insW_perm l x
  rw [insL_eq]
  refine ⟨?_, insW_pw h.2.1 hx, fun y hy => ?_⟩
  · have := hp.length_eq
    simp only [List.length_cons] at this
    omega
  · rcases List.mem_cons.1 (hp.mem_iff.1 hy) with rfl | hy
    · exact ⟨h1, h2⟩
    · exact h.2.2 y hy
theorem filter_ids {l : List Int} {p : Int → Bool} {m : Int} (h : idsB l m = true) (hne : l.filter p ≠ []) : idsB (l.filter p) m = true := by
  rw [ids_pw] at *
  refine ⟨?_, h.2.1.sublist List.filter_sublist, fun y hy => h.2.2 y (List.mem_filter.1 hy).1⟩
  have h1 := List.length_filter_le p l
  have h2 := List.length_pos_iff.2 hne
  omega
/-- each element once, in the order of their first places -/
def uniqL (l : List Int) : List Int := l.foldl (fun o m => if m ∈ o then o else o ++ [m]) []
theorem uniq_snoc (l : List Int) (m : Int) : uniqL (l ++ [m]) = if m ∈ uniqL l then uniqL l else uniqL l ++ [m] := by
  unfold uniqL
  rw [List.foldl_append]
  rfl
theorem uniq_ind {P : List Int → Prop} (h0 : P []) (h1 : ∀ l m, P l → P (l ++ [m])) (l : List Int) : P l := by
  have : ∀ r : List Int, P r.reverse := fun r => by
    induction r with
    | nil => exact h0
    | cons a r ih => rw [List.reverse_cons]; exact h1 _ _ ih
  have h := this l.reverse
  rwa [List.reverse_reverse] at h
theorem uniq_mem {l : List Int} {x : Int} : x ∈ uniqL l ↔ x ∈ l := by
  refine uniq_ind (P := fun l => x ∈ uniqL l ↔ x ∈ l) (by simp [uniqL]) (fun l m ih => ?_) l
  rw [uniq_snoc]
  split
  · rename_i hm
    simp only [ih, List.mem_append, List.mem_singleton]
    constructor
    · exact .inl
    · rintro (h | rfl)
      · exact h
      · exact ih.1 hm
  · simp [ih]
theorem uniq_nodup (l : List Int) : (uniqL l).Nodup := by
  refine uniq_ind (P := fun l => (uniqL l).Nodup) (by simp [uniqL]) (fun l m ih => ?_) l
  rw [uniq_snoc]
  split
  · exact ih
  · rename_i hm
    rw [List.nodup_append]
    exact ⟨ih, by simp, fun a ha b hb => by simp at hb; subst hb; exact fun e => hm (e ▸ ha)⟩
theorem uniq_filter (l : List Int) (p : Int → Bool) : uniqL (l.filter p) = (uniqL l).filter p := by
  refine uniq_ind (P := fun l => uniqL (l.filter p) = (uniqL l).filter p) (by simp [uniqL]) (fun l m ih => ?_) l
  rw [List.filter_append, uniq_snoc]
  cases hp : p m
  · simp only [List.filter_cons, hp, Bool.false_eq_true, if_false, List.filter_nil, List.append_nil, ih]
    split
    · rfl
    · simp [hp]
  · simp only [List.filter_cons, hp, if_true, List.filter_nil]
    rw [uniq_snoc, ih]
    by_cases hm : m ∈ uniqL l
    · simp [hm, hp]
    · simp [hm, hp]
theorem uniq_head (l : List Int) : (uniqL l).head? = l.head? := by
  refine uniq_ind (P := fun l => (uniqL l).head? = l.head?) (by simp [uniqL]) (fun l m ih => ?_) l
  rw [uniq_snoc]
  cases l with
  | nil => simp [uniqL]
  | cons a r =>
    have hne : uniqL (a :: r) ≠ [] := fun h => by
      have : a ∈ uniqL (a :: r) := uniq_mem.2 (by simp)
      rw [h] at this
      cases this
    split
    · rw [ih]; simp
    · rw [List.head?_append, ih]; simp
end Go.Proofs.Ytdajfimollbnlaa

set_option linter.unusedSimpArgs false
set_option linter.unusedVariables false
namespace Go.Proofs.Ytdajfimollbnlaa
open Go.Lift
/-! the mixer is one to one -/
theorem wrap_u64 (n : Int) : IntKind.u64.wrap n = n % 18446744073709551616 := by
  simp [IntKind.wrap, IntKind.bits, IntKind.signed]
theorem u64_rng (n : Int) : 0 ≤ IntKind.u64.wrap n ∧ IntKind.u64.wrap n < 18446744073709551616 := by
  rw [wrap_u64]; omega
theorem u64_id {n : Int} (h1 : 0 ≤ n) (h2 : n < 18446744073709551616) : IntKind.u64.wrap n = n := by
  rw [wrap_u64]; omega
def xs (s x : Nat) : Nat := x ^^^ (x >>> s)
theorem xs_lt {s x : Nat} (h : x < 2 ^ 64) : xs s x < 2 ^ 64 := by
  unfold xs
  refine Nat.xor_lt_two_pow h ?_
  rw [Nat.shiftRight_eq_div_pow]
  exact Nat.lt_of_le_of_lt (Nat.div_le_self _ _) h
theorem xs_inj {s x y : Nat} (hs : 0 < s) (hx : x < 2 ^ 64) (hy : y < 2 ^ 64) (h : xs s x = xs s y) : x = y := by
  have key : ∀ d i, i + d = 64 ∨ 64 ≤ i → x.testBit i = y.testBit i := by
    intro d
    induction d using Nat.strongRecOn with
    | ind d ih =>
      intro i hi
      rcases Nat.lt_or_ge i 64 with h6 | h6
      · have hb := congrArg (fun n => n.testBit i) h
        simp only [xs, Nat.testBit_xor, Nat.testBit_shiftRight] at hb
        have hn : x.testBit (s + i) = y.testBit (s + i) := by
          rcases Nat.lt_or_ge (s + i) 64 with h7 | h7
          · exact ih (64 - (s + i)) (by omega) (s + i) (.inl (by omega))
          · exact ih 0 (by omega) (s + i) (.inr h7)
        rw [hn] at hb
        cases hxi : x.testBit i <;> cases hyi : y.testBit i <;> cases hsi : y.testBit (s + i) <;> rw [hxi, hyi, hsi] at hb <;> simp at hb <;> rfl
      · rw [Nat.testBit_lt_two_pow (Nat.lt_of_lt_of_le hx (Nat.pow_le_pow_right (by decide) h6)), Nat.testBit_lt_two_pow (Nat.lt_of_lt_of_le hy (Nat.pow_le_pow_right (by decide) h6))]
  refine Nat.eq_of_testBit_eq fun i => ?_
  rcases Nat.lt_or_ge i 64 with h6 | h6
  · exact key (64 - i) i (.inl (by omega))
  · exact key 0 i (.inr h6)
theorem bits_xs {x : Nat} (h : x < 2 ^ 64) (s : Nat) : bits .xor .u64 (x : Int) ((x : Int).fdiv (2 ^ s)) = ((xs s x : Nat) : Int) := by
  have hd : (x : Int).fdiv (2 ^ s) = ((x >>> s : Nat) : Int) := by
    rw [Int.fdiv_eq_ediv_of_nonneg _ (Int.pow_nonneg (by decide)), Nat.shiftRight_eq_div_pow]
    norm_cast
  rw [hd]
  have h2 : x >>> s < 2 ^ 64 := by
    rw [Nat.shiftRight_eq_div_pow]
    exact Nat.lt_of_le_of_lt (Nat.div_le_self _ _) h
  have e : (BitVec.ofInt 64 (x : Int) ^^^ BitVec.ofInt 64 ((x >>> s : Nat) : Int)).toNat = xs s x := by
    rw [BitVec.toNat_xor, BitVec.ofInt_natCast, BitVec.ofInt_natCast, BitVec.toNat_ofNat, BitVec.toNat_ofNat, Nat.mod_eq_of_lt h, Nat.mod_eq_of_lt h2]
    rfl
  show IntKind.u64.wrap ((BitVec.ofInt 64 (x : Int) ^^^ BitVec.ofInt 64 ((x >>> s : Nat) : Int)).toNat : Int) = _
  rw [e]
  have := xs_lt (s := s) h
  exact u64_id (by omega) (by omega)
theorem mul_inj {c ci a b : Int} (hc : c * ci % 18446744073709551616 = 1) (ha : 0 ≤ a ∧ a < 18446744073709551616) (hb : 0 ≤ b ∧ b < 18446744073709551616) (h : IntKind.u64.wrap (a * c) = IntKind.u64.wrap (b * c)) : a = b := by
  rw [wrap_u64, wrap_u64] at h
  have h1 : (a * c * ci) % 18446744073709551616 = (b * c * ci) % 18446744073709551616 := by
    rw [Int.mul_emod, h, ← Int.mul_emod]
  rw [Int.mul_assoc, Int.mul_assoc, Int.mul_emod a, Int.mul_emod b, hc] at h1
  simp only [Int.mul_one, Int.emod_emod_of_dvd _ (Int.dvd_refl _)] at h1
  omega
def mixN (x : Nat) : Nat := xs 31 ((IntKind.u64.wrap ((xs 27 ((IntKind.u64.wrap ((xs 30 x : Nat) * 13787848793156543929)).toNat) : Nat) * 10723151780598845931)).toNat)
theorem w_nat (n : Int) : (((IntKind.u64.wrap n).toNat : Nat) : Int) = IntKind.u64.wrap n := Int.toNat_of_nonneg (u64_rng n).1
theorem w_lt (n : Int) : (IntKind.u64.wrap n).toNat < 2 ^ 64 := by
  have := u64_rng n
  omega
theorem mix_nat {x : Nat} (h : x < 2 ^ 64) : mixR (x : Int) = ((mixN x : Nat) : Int) := by
  have m30 : min (30 : Int).toNat 64 = 30 := rfl
  have m27 : min (27 : Int).toNat 64 = 27 := rfl
  have m31 : min (31 : Int).toNat 64 = 31 := rfl
  unfold mixR
  simp only [mixAt, mix1, m30, m27, m31]
  rw [bits_xs h]
  rw [← w_nat ((xs 30 x : Nat) * 13787848793156543929)]
  rw [bits_xs (w_lt _)]
  rw [← w_nat (((xs 27 _ : Nat) : Int) * 10723151780598845931)]
  rw [bits_xs (w_lt _)]
  rfl
theorem mixN_inj {x y : Nat} (hx : x < 2 ^ 64) (hy : y < 2 ^ 64) (h : mixN x = mixN y) : x = y := by
  unfold mixN at h
  have h1 := xs_inj (by decide) (w_lt _) (w_lt _) h
  have h2 : IntKind.u64.wrap (((xs 27 ((IntKind.u64.wrap ((xs 30 x : Nat) * 13787848793156543929)).toNat) : Nat) : Int) * 10723151780598845931) = IntKind.u64.wrap (((xs 27 ((IntKind.u64.wrap ((xs 30 y : Nat) * 13787848793156543929)).toNat) : Nat) : Int) * 10723151780598845931) := by
    rw [← w_nat, ← w_nat (((xs 27 ((IntKind.u64.wrap ((xs 30 y : Nat) * 13787848793156543929)).toNat) : Nat) : Int) * 10723151780598845931), h1]
  have b1 := xs_lt (s := 27) (w_lt ((xs 30 x : Nat) * 13787848793156543929))
  have b2 := xs_lt (s := 27) (w_lt ((xs 30 y : Nat) * 13787848793156543929))
  have h3 := mul_inj (ci := 3573116690164977347) (by decide) (by omega) (by omega) h2
  have h4 := xs_inj (by decide) (w_lt _) (w_lt _) (Int.ofNat_inj.1 h3)
  have h5 : IntKind.u64.wrap (((xs 30 x : Nat) : Int) * 13787848793156543929) = IntKind.u64.wrap (((xs 30 y : Nat) : Int) * 13787848793156543929) := by
    rw [← w_nat, ← w_nat (((xs 30 y : Nat) : Int) * 13787848793156543929), h4]
  have b3 := xs_lt (s := 30) hx
  have b4 := xs_lt (s := 30) hy
  have h6 := mul_inj (ci := 10871156337175269513) (by decide) (by omega) (by omega) h5
  exact xs_inj (by decide) hx hy (Int.ofNat_inj.1 h6)
theorem mixR_rng {a : Int} (h1 : 0 ≤ a) (h2 : a < 18446744073709551616) : 0 ≤ mixR a ∧ mixR a < 18446744073709551616 := by
  obtain ⟨x, rfl⟩ := Int.eq_ofNat_of_zero_le h1
  have := mix_nat (x := x) (by omega)
  have h3 : mixN x < 2 ^ 64 := xs_lt (w_lt _)
  omega
theorem mixR_inj {a b : Int} (h1 : 0 ≤ a) (h2 : a < 18446744073709551616) (h3 : 0 ≤ b) (h4 : b < 18446744073709551616) (h : mixR a = mixR b) : a = b := by
  obtain ⟨x, rfl⟩ := Int.eq_ofNat_of_zero_le h1
  obtain ⟨y, rfl⟩ := Int.eq_ofNat_of_zero_le h3
  rw [mix_nat (x := x) (by omega), mix_nat (x := y) (by omega)] at h
  rw [mixN_inj (by omega) (by omega) (Int.ofNat_inj.1 h)]
theorem posR_rng (r m : Int) : 0 ≤ posR r m ∧ posR r m < 18446744073709551616 := mixR_rng (u64_rng _).1 (u64_rng _).2
theorem posR_inj {r a b : Int} (ha : 1 ≤ a ∧ a ≤ 1000) (hb : 1 ≤ b ∧ b ≤ 1000) (h : posR r a = posR r b) : a = b := by
  unfold posR combR at h
  have h1 := mixR_inj (u64_rng _).1 (u64_rng _).2 (u64_rng _).1 (u64_rng _).2 h
  rw [u64_id (n := a) (by omega) (by omega), u64_id (n := b) (by omega) (by omega), u64_id (n := a + 1) (by omega) (by omega), u64_id (n := b + 1) (by omega) (by omega)] at h1
  have r1 := u64_rng (11400714819323198485 * (a + 1))
  have r2 := u64_rng (11400714819323198485 * (b + 1))
  have h2 : IntKind.u64.wrap (11400714819323198485 * (a + 1)) = IntKind.u64.wrap (11400714819323198485 * (b + 1)) := by
    generalize IntKind.u64.wrap (11400714819323198485 * (a + 1)) = p at *
    generalize IntKind.u64.wrap (11400714819323198485 * (b + 1)) = q at *
    have r0 := u64_rng r
    generalize IntKind.u64.wrap r = R at h1 r0
    rw [wrap_u64 (R + p), wrap_u64 (R + q)] at h1
    omega
  rw [Int.mul_comm, Int.mul_comm 11400714819323198485] at h2
  have := mul_inj (ci := 17428512612931826493) (by decide) (by omega) (by omega) h2
  omega
end Go.Proofs.Ytdajfimollbnlaa

set_option linter.unusedSimpArgs false
set_option linter.unusedVariables false
namespace Go.Proofs.Ytdajfimollbnlaa
open Go.Lift
open Go.Sort (SWO)
/-! package overlay: the order of a ring -/
def cmpPos (r a b : Int) : Int := cmpI (posR r a) (posR r b)
theorem pos_swo (r : Int) : SWO (Go.Proofs.ltOf (cmpPos r)) where
  irrefl x := by
    have := (cmp_iff (posR r x) (posR r x)).1
    simp only [Go.Proofs.ltOf, cmpPos, decide_eq_false_iff_not, this]
    omega
  trans x y z h1 h2 := by
    simp only [Go.Proofs.ltOf, cmpPos, decide_eq_true_eq, (cmp_iff _ _).1] at *
    omega
  ntrans x y z h1 h2 := by
    simp only [Go.Proofs.ltOf, cmpPos, decide_eq_false_iff_not, (cmp_iff _ _).1] at *
    omega
theorem ltPos (r a b : Int) : Go.Proofs.ltOf (cmpPos r) a b = decide (posR r a < posR r b) := by
  simp only [Go.Proofs.ltOf, cmpPos, (cmp_iff _ _).1]
theorem pos_anti {r a b : Int} (ha : 1 ≤ a ∧ a ≤ 1000) (hb : 1 ≤ b ∧ b ≤ 1000) (h1 : Go.Proofs.ltOf (cmpPos r) a b = false) (h2 : Go.Proofs.ltOf (cmpPos r) b a = false) : a = b := by
  rw [ltPos, decide_eq_false_iff_not] at h1 h2
  have h : posR r a = posR r b := by omega
  exact posR_inj ha hb h
theorem c_slices_Clone_int (l : List Int) (hl : l.length ≤ 1000000) : Ret Try.prog 49 [.lst 1 (l.map intE) false] (.lst 1 (l.map intE) false) := by
  refine ret_of_body (fn := Try.f49) (c := Try.f49.body.getD .skip) hm hT (by kernel_rfl) Try.func49 (by kernel_rfl) (by kernel_rfl) (by kernel_rfl) (by kernel_rfl) ?_
  repeat' ((conv => whnf); first | refine And.intro (fun h => h) ?_ | refine dcond_t (by assumption) ?_ | refine dcond_f (by assumption) ?_ | (refine dcond_intro ?_ ?_ <;> intro h) | exact .refl | refine And.intro (by kernel_rfl) ?_ | refine And.intro ⟨fun h => h, fun h => h⟩ ?_ | (refine And.intro ?_ ?_; focus (simp; done)) | fail)
  refine And.intro (fun hnil => ?_) ?_
  · repeat' ((conv => whnf); first | refine And.intro (fun h => h) ?_ | refine dcond_t (by assumption) ?_ | refine dcond_f (by assumption) ?_ | (refine dcond_intro ?_ ?_ <;> intro h) | exact .refl | refine And.intro (by kernel_rfl) ?_ | refine And.intro ⟨fun h => h, fun h => h⟩ ?_ | (refine And.intro ?_ ?_; focus (simp; done)) | fail)
    all_goals (conv => whnf)
    rw [hnil]
    exact .nl
  · repeat' ((conv => whnf); first | refine And.intro (fun h => h) ?_ | refine dcond_t (by assumption) ?_ | refine dcond_f (by assumption) ?_ | (refine dcond_intro ?_ ?_ <;> intro h) | exact .refl | refine And.intro (by kernel_rfl) ?_ | refine And.intro ⟨fun h => h, fun h => h⟩ ?_ | (refine And.intro ?_ ?_; focus (simp; done)) | fail)
    all_goals (conv => whnf)
    refine And.intro (fitsI (by simp; omega)) ?_
    repeat' ((conv => whnf); first | refine And.intro (fun h => h) ?_ | refine dcond_t (by assumption) ?_ | refine dcond_f (by assumption) ?_ | (refine dcond_intro ?_ ?_ <;> intro h) | exact .refl | refine And.intro (by kernel_rfl) ?_ | refine And.intro ⟨fun h => h, fun h => h⟩ ?_ | (refine And.intro ?_ ?_; focus (simp; done)) | fail)
theorem m_slices_Clone_int (l : List Int) (hl : l.length ≤ 1000000) (hne : l ≠ []) : RetM Try.prog 49 [] [.lst 1 (l.map intE) false] [] [.row 3 1 (l.map intE)] (.own 0) := by
  refine retM_of_body (fn := Try.f49) (c := Try.f49.body.getD .skip) hm hT (by kernel_rfl) Try.func49 (by kernel_rfl) (by kernel_rfl) (by kernel_rfl) (by kernel_rfl) (by kernel_rfl) ?_
  repeat' ((conv => whnf); first | refine And.intro (fun h => h) ?_ | refine dcond_t (by assumption) ?_ | refine dcond_f (by assumption) ?_ | (refine dcond_intro ?_ ?_ <;> intro h) | exact .refl | refine And.intro (by kernel_rfl) ?_ | refine And.intro ⟨fun h => h, fun h => h⟩ ?_ | (refine And.intro ?_ ?_; focus (simp; done)) | fail)
  refine And.intro (fun hnil => ?_) ?_
  · exact absurd (List.map_eq_nil_iff.1 hnil) hne
  · repeat' ((conv => whnf); first | refine And.intro (fun h => h) ?_ | refine dcond_t (by assumption) ?_ | refine dcond_f (by assumption) ?_ | (refine dcond_intro ?_ ?_ <;> intro h) | exact .refl | refine And.intro (by kernel_rfl) ?_ | refine And.intro ⟨fun h => h, fun h => h⟩ ?_ | (refine And.intro ?_ ?_; focus (simp; done)) | fail)
    all_goals (conv => whnf)
    refine And.intro (fitsI (by simp; omega)) ?_
    repeat' ((conv => whnf); first | refine And.intro (fun h => h) ?_ | refine dcond_t (by assumption) ?_ | refine dcond_f (by assumption) ?_ | (refine dcond_intro ?_ ?_ <;> intro h) | exact .refl | refine And.intro (by kernel_rfl) ?_ | refine And.intro ⟨fun h => h, fun h => h⟩ ?_ | (refine And.intro ?_ ?_; focus (simp; done)) | fail)
    all_goals (conv => whnf)
    exact ⟨.refl, ⟨.refl, trivial⟩, by rfl⟩
theorem c_overlay_Order_1 (r a b : Int) : Ret Try.prog 51 [i64 a, i64 b, .ip [i64 r]] (i64 (cmpPos r a b)) := by
  unfold cmpPos
  refine ret_of_body (fn := Try.f51) (c := Try.f51.body.getD .skip) hm hT (by kernel_rfl) Try.func51 (by kernel_rfl) (by kernel_rfl) (by kernel_rfl) (by kernel_rfl) ?_
  repeat' ((conv => whnf); first | refine And.intro (fun h => h) ?_ | refine dcond_t (by assumption) ?_ | refine dcond_f (by assumption) ?_ | (refine dcond_intro ?_ ?_ <;> intro h) | exact .refl | refine And.intro (by kernel_rfl) ?_ | refine And.intro ⟨fun h => h, fun h => h⟩ ?_ | refine .inl ⟨_, _, DleAll_refl _, c_Position _ _, ?_⟩ | refine ⟨_, _, DleAll_refl _, fun _ => c_Position _ _, ?_⟩ | refine ⟨_, _, DleAll_refl _, c_Position _ _, ?_⟩ | refine .inl ⟨_, _, DleAll_refl _, c_Compare_u64 _ _, ?_⟩ | refine ⟨_, _, DleAll_refl _, fun _ => c_Compare_u64 _ _, ?_⟩ | refine ⟨_, _, DleAll_refl _, c_Compare_u64 _ _, ?_⟩ | (refine And.intro ?_ ?_; focus (simp; done)) | fail)
theorem sortPos_ok (r : Int) (l : List Int) (hl : l.length ≤ 1000000) (hb : ∀ x ∈ l, 1 ≤ x ∧ x ≤ 1000) : RetM Try.prog 50 [.row 3 1 (l.map intE)] [.own 0, .fn (.func 51) [.ip [i64 r]]] [true] [.row 3 1 ((sortL (cmpPos r) l).map intE)] (.tup []) :=
  sort_retM (agg := false) (fun vs w => Try.sortInt.f6.enters rfl vs w) (sortC_1 Try.sortInt _) (fun p cap fv w => AnyF.slices_SortFunc_none { Try.sortInt with } p cap fv w)
    intE l (sortL (cmpPos r) l) (cmpPos r) (pos_swo r) (fun x hx y hy => pos_anti (hb x hx) (hb y hy)) (sortL_perm _ _) (sortL_sorted (pos_swo r) _) (by omega) [.ip [i64 r]] (fun d hd => by simp at hd; subst hd; rfl) (fun _ => rfl) (fun x _ y _ => c_overlay_Order_1 r x y)
def orderR (ms : List Int) (r : Int) : List Int := bif !idsB ms 16 || decide (r < 0) || decide (5 ≤ r) then [] else sortL (cmpPos r) ms
theorem order_in {ms : List Int} {r : Int} (h : idsB ms 16 = true) (h1 : 0 ≤ r) (h2 : r < 5) : orderR ms r = sortL (cmpPos r) ms := by
  have e1 : decide (r < 0) = false := decide_eq_false (by omega)
  have e2 : decide (5 ≤ r) = false := decide_eq_false (by omega)
  simp only [orderR, h, e1, e2, Bool.not_true, Bool.or_self, cond_false]
theorem order_len (ms : List Int) (r : Int) : (orderR ms r).length ≤ ms.length := by
  unfold orderR
  cases (!idsB ms 16 || decide (r < 0) || decide (5 ≤ r))
  · simp only [cond_false, sortL_len]; exact Nat.le_refl _
  · simp
theorem c_overlay_Order (ms : List Int) (hl : ms.length ≤ maxLen) (r : Int) : Ret Try.prog 41 [.lst 1 (ms.map intE) false, i64 r] (.lst 1 ((orderR ms r).map intE) false) := by
  have e1 := c_view_ValidMembers ms hl
  have ho : orderR ms r = bif !idsB ms 16 || decide (r < 0) || decide (5 ≤ r) then [] else sortL (cmpPos r) ms := rfl
  refine ret_of_body (fn := Try.f41) (c := Try.f41.body.getD .skip) hm hT (by kernel_rfl) Try.func41 (by kernel_rfl) (by kernel_rfl) (by kernel_rfl) (by kernel_rfl) ?_
  repeat' ((conv => whnf); first | refine And.intro (fun h => h) ?_ | refine dcond_t (by assumption) ?_ | refine dcond_f (by assumption) ?_ | (refine dcond_intro ?_ ?_ <;> intro h) | exact .refl | refine And.intro (by kernel_rfl) ?_ | refine And.intro ⟨fun h => h, fun h => h⟩ ?_ | refine .inl ⟨_, _, DleAll_refl _, e1, ?_⟩ | refine ⟨_, _, DleAll_refl _, fun _ => e1, ?_⟩ | refine ⟨_, _, DleAll_refl _, e1, ?_⟩ | (refine And.intro ?_ ?_; focus (simp; done)) | fail)
  all_goals (conv => whnf)
  · rw [ho, h]
    exact .nl
  · have hv : idsB ms 16 = true := by
      simp only [Bool.or_eq_false_iff, Bool.not_eq_false'] at h
      exact h.1.1
    have h16 := (ids_pw.1 hv)
    rw [h, cond_false] at ho
    have hso := sortPos_ok r ms (by omega) h16.2.2
    rw [← ho] at hso
    generalize orderR ms r = O at hso
    have hcl := m_slices_Clone_int ms (by omega) (by intro e; rw [e] at h16; simp at h16)
    repeat' ((conv => whnf); first | refine And.intro (fun h => h) ?_ | refine dcond_t (by assumption) ?_ | refine dcond_f (by assumption) ?_ | (refine dcond_intro ?_ ?_ <;> intro h) | exact .refl | refine And.intro (by kernel_rfl) ?_ | refine And.intro ⟨fun h => h, fun h => h⟩ ?_ | refine .inr ⟨[], [], _, [], _, _, hcl, by rfl, trivial, ⟨.refl, trivial⟩, ?_⟩ | refine .inr ⟨[1], _, _, _, _, _, hso, by rfl, ⟨.refl, trivial⟩, ⟨.refl, .refl, trivial⟩, ?_⟩ | (refine And.intro ?_ ?_; focus (simp; done)) | fail)
def nxtR (o : List Int) (id : Int) : Int := o.getD (((placeB o id).toNat + 1) % o.length) 0
def subjAt (ms : List Int) (id : Int) (i : Nat) : List Int := (List.range i).map fun (r : Nat) => nxtR (orderR ms r) id
def subjR (ms : List Int) (id : Int) : List Int := bif !idsB ms 16 || !inB ms id || decide ((ms.length : Int) = 1) then [] else subjAt ms id 5
theorem place_of {l : List Int} {x : Int} (h : x ∈ l) : ∃ k : Nat, placeB l x = k ∧ k < l.length := by
  rcases hf : (List.range l.length).find? (fun i => decide (l[i]? = some x)) with _ | n
  · obtain ⟨i, hi, rfl⟩ := List.getElem_of_mem h
    have := List.find?_eq_none.1 hf i (List.mem_range.2 hi)
    simp [hi] at this
  · refine ⟨n, by simp only [placeB, findB, hf], ?_⟩
    have := List.mem_range.1 (List.mem_of_find?_eq_some hf)
    exact this
theorem sub_bad {ms : List Int} {id : Int} (h : (!idsB ms 16 || !inB ms id || decide ((ms.length : Int) = 1)) = true) : subjR ms id = [] := by
  simp only [subjR, h, cond_true]
theorem sub_good {ms : List Int} {id : Int} (h : (!idsB ms 16 || !inB ms id || decide ((ms.length : Int) = 1)) = false) : idsB ms 16 = true ∧ inB ms id = true ∧ (2 ≤ ms.length ∧ ms.length ≤ 16) ∧ subjR ms id = subjAt ms id 5 := by
  have h' := h
  simp only [Bool.or_eq_false_iff, Bool.not_eq_false', decide_eq_false_iff_not] at h'
  have := (ids_pw.1 h'.1.1).1
  exact ⟨h'.1.1, h'.1.2, by omega, by simp only [subjR, h, cond_false]⟩
theorem sub_cond (ms : List Int) (id : Int) : (!idsB ms 16 || decide ((ms.length : Int) < 2) || !inB ms id) = (!idsB ms 16 || !inB ms id || decide ((ms.length : Int) = 1)) := by
  cases hv : idsB ms 16
  · simp
  · have := (ids_pw.1 hv).1
    have e : decide ((ms.length : Int) < 2) = decide ((ms.length : Int) = 1) := decide_eq_decide.2 (by omega)
    rw [e]
    cases decide ((ms.length : Int) = 1) <;> cases inB ms id <;> rfl
theorem c_overlay_Subjects (ms : List Int) (hl : ms.length ≤ maxLen) (id : Int) : Ret Try.prog 32 [.lst 1 (ms.map intE) false, i64 id] (.lst 1 ((subjR ms id).map intE) false) := by
  have e1 := c_view_ValidMembers ms hl
  have e2 := c_view_Contains ms hl id
  refine ret_of_body (fn := Try.f32) (c := Try.f32.body.getD .skip) hm hT (by kernel_rfl) Try.func32 (by kernel_rfl) (by kernel_rfl) (by kernel_rfl) (by kernel_rfl) ?_
  repeat' ((conv => whnf); first | refine And.intro (fun h => h) ?_ | refine dcond_t (by assumption) ?_ | refine dcond_f (by assumption) ?_ | (refine dcond_intro ?_ ?_ <;> intro h) | exact .refl | refine And.intro (by kernel_rfl) ?_ | refine And.intro ⟨fun h => h, fun h => h⟩ ?_ | refine .inl ⟨_, _, DleAll_refl _, e1, ?_⟩ | refine ⟨_, _, DleAll_refl _, fun _ => e1, ?_⟩ | refine ⟨_, _, DleAll_refl _, e1, ?_⟩ | refine .inl ⟨_, _, DleAll_refl _, e2, ?_⟩ | refine ⟨_, _, DleAll_refl _, fun _ => e2, ?_⟩ | refine ⟨_, _, DleAll_refl _, e2, ?_⟩ | (refine And.intro ?_ ?_; focus (simp; done)) | fail)
  all_goals (conv => whnf)
  · rw [List.length_map] at h
    rw [sub_bad h]
    exact .nl
  · rw [List.length_map] at h
    obtain ⟨hv, hin, hlen, hS⟩ := sub_good h
    clear h
    refine ⟨Nat, fun i => ⟨[(0, .lst 1 (ms.map intE) false), (1, i64 id), (5, .own 0), (22, i64 i)], [.row 3 1 ((subjAt ms id i).map intE)]⟩, fun i => i ≤ 5, fun i => 5 - i, [.slot 5 3 1], ⟨0, Nat.zero_le _, ?_⟩, ?_⟩
    · exact ⟨by repeat' ((conv => whnf); first | exact trivial | refine And.intro (by (conv => arg 1; whnf); first | (with_reducible exact .refl) | exact dle_int (wrap_succ (by omega)) | exact .refl) ?_), by repeat' ((conv => whnf); first | exact trivial | refine And.intro ?_ ?_ | exact .refl), rfl⟩
    · intro i hi
      repeat' ((conv => whnf); first | refine And.intro (fun h => h) ?_ | refine dcond_t (by assumption) ?_ | refine dcond_f (by assumption) ?_ | (refine dcond_intro ?_ ?_ <;> intro h) | exact .refl | refine And.intro (by kernel_rfl) ?_ | refine And.intro ⟨fun h => h, fun h => h⟩ ?_ | (refine And.intro ?_ ?_; focus (simp; done)) | fail)
      · have hlt : i < 5 := by
          simp at h
          omega
        clear h
        have ho := order_in (ms := ms) (r := (i : Nat)) hv (by omega) (by omega)
        have hol : (orderR ms (i : Nat)).length = ms.length := by rw [ho, sortL_len]
        have hom : id ∈ orderR ms (i : Nat) := by rw [ho, sortL_mem]; exact in_iff.1 hin
        have eo := c_overlay_Order ms hl (i : Nat)
        have hsn : subjAt ms id (i + 1) = subjAt ms id i ++ [nxtR (orderR ms (i : Nat)) id] := by
          unfold subjAt
          rw [List.range_succ, List.map_append]
          rfl
        have hsl : (subjAt ms id i).length = i := by simp [subjAt]
        generalize orderR ms (i : Nat) = O at hol hom eo hsn
        have ep := c_view_Place O (by rw [hol]; exact hl) id
        obtain ⟨k, hk, hkl⟩ := place_of hom
        rw [hk] at ep
        have hr : (k + 1) % O.length < O.length := Nat.mod_lt _ (by omega)
        have hne : ((O.map intE).length : Int) ≠ 0 := by
          rw [List.length_map]; omega
        have hix : Int.tmod (IntKind.i64.wrap ((k : Int) + 1)) ((O.map intE).length : Int) = (((k + 1) % O.length : Nat) : Int) := by
          rw [wrap_i64 (by omega) (by omega), List.length_map]
          rfl
        have hg : nxtR O id = O[(k + 1) % O.length] := by
          simp only [nxtR, hk, Int.toNat_natCast]
          simp [hr]
        repeat' ((conv => whnf); first | refine And.intro (fun h => h) ?_ | refine dcond_t (by assumption) ?_ | refine dcond_f (by assumption) ?_ | (refine dcond_intro ?_ ?_ <;> intro h) | exact .refl | refine And.intro (by kernel_rfl) ?_ | refine And.intro ⟨fun h => h, fun h => h⟩ ?_ | refine .inl ⟨_, _, DleAll_refl _, eo, ?_⟩ | refine ⟨_, _, DleAll_refl _, fun _ => eo, ?_⟩ | refine ⟨_, _, DleAll_refl _, eo, ?_⟩ | refine .inl ⟨_, _, DleAll_refl _, ep, ?_⟩ | refine ⟨_, _, DleAll_refl _, fun _ => ep, ?_⟩ | refine ⟨_, _, DleAll_refl _, ep, ?_⟩ | refine And.intro hne ?_ | refine ⟨(k + 1) % O.length, _, And.intro ⟨hix, get_map hr⟩ ?_⟩ | (refine And.intro ?_ ?_; focus (simp; done)) | fail)
        all_goals (conv => whnf)
        refine And.intro (fitsI (by simp; omega)) ?_
        repeat' ((conv => whnf); first | refine And.intro (fun h => h) ?_ | refine dcond_t (by assumption) ?_ | refine dcond_f (by assumption) ?_ | (refine dcond_intro ?_ ?_ <;> intro h) | exact .refl | refine And.intro (by kernel_rfl) ?_ | refine And.intro ⟨fun h => h, fun h => h⟩ ?_ | (refine And.intro ?_ ?_; focus (simp; done)) | fail)
        all_goals (conv => whnf)
        refine ⟨i + 1, hlt, by simp only []; omega, ?_⟩
        refine ⟨⟨.refl, .refl, .refl, dle_int (wrap_succ (by omega)), trivial⟩, ⟨ole_row ?_, trivial⟩, rfl⟩
        rw [hsn, hg, List.map_append]
        rfl
      · have : i = 5 := by
          simp at h
          omega
        subst this
        clear h
        conv => whnf
        rw [hS]
        exact .refl
end Go.Proofs.Ytdajfimollbnlaa

set_option linter.unusedSimpArgs false
set_option linter.unusedVariables false
namespace Go.Proofs.Ytdajfimollbnlaa
open Go.Lift
/-! reference 2 and reference 4 -/
theorem c_ref2_Mix (x : Int) : Ret Try.prog 71 [u64 x] (u64 (mixR x)) := by
  refine ret_of_body (fn := Try.f71) (c := Try.f71.body.getD .skip) hm hT (by kernel_rfl) Try.func71 (by kernel_rfl) (by kernel_rfl) (by kernel_rfl) (by kernel_rfl) ?_
  repeat' ((conv => whnf); first | refine And.intro (fun h => h) ?_ | refine dcond_t (by assumption) ?_ | refine dcond_f (by assumption) ?_ | (refine dcond_intro ?_ ?_ <;> intro h) | exact .refl | refine And.intro (by kernel_rfl) ?_ | refine And.intro ⟨fun h => h, fun h => h⟩ ?_ | (refine And.intro ?_ ?_; focus (simp; done)) | fail)
theorem c_ref2_Combine (h x : Int) : Ret Try.prog 59 [u64 h, u64 x] (u64 (combR h x)) := by
  refine ret_of_body (fn := Try.f59) (c := Try.f59.body.getD .skip) hm hT (by kernel_rfl) Try.func59 (by kernel_rfl) (by kernel_rfl) (by kernel_rfl) (by kernel_rfl) ?_
  repeat' ((conv => whnf); first | refine And.intro (fun h => h) ?_ | refine dcond_t (by assumption) ?_ | refine dcond_f (by assumption) ?_ | (refine dcond_intro ?_ ?_ <;> intro h) | exact .refl | refine And.intro (by kernel_rfl) ?_ | refine And.intro ⟨fun h => h, fun h => h⟩ ?_ | refine .inl ⟨_, _, DleAll_refl _, c_ref2_Mix _, ?_⟩ | refine ⟨_, _, DleAll_refl _, fun _ => c_ref2_Mix _, ?_⟩ | refine ⟨_, _, DleAll_refl _, c_ref2_Mix _, ?_⟩ | (refine And.intro ?_ ?_; focus (simp; done)) | fail)
theorem c_ref2_Position (r m : Int) : Ret Try.prog 54 [i64 r, i64 m] (u64 (posR r m)) := by
  refine ret_of_body (fn := Try.f54) (c := Try.f54.body.getD .skip) hm hT (by kernel_rfl) Try.func54 (by kernel_rfl) (by kernel_rfl) (by kernel_rfl) (by kernel_rfl) ?_
  repeat' ((conv => whnf); first | refine And.intro (fun h => h) ?_ | refine dcond_t (by assumption) ?_ | refine dcond_f (by assumption) ?_ | (refine dcond_intro ?_ ?_ <;> intro h) | exact .refl | refine And.intro (by kernel_rfl) ?_ | refine And.intro ⟨fun h => h, fun h => h⟩ ?_ | refine .inl ⟨_, _, DleAll_refl _, c_ref2_Combine _ _, ?_⟩ | refine ⟨_, _, DleAll_refl _, fun _ => c_ref2_Combine _ _, ?_⟩ | refine ⟨_, _, DleAll_refl _, c_ref2_Combine _ _, ?_⟩ | (refine And.intro ?_ ?_; focus (simp; done)) | fail)
/-- insertion by position -/
def atP (r : Int) (o : List Int) (x : Int) : Nat := (o.takeWhile fun y => decide (posR r y < posR r x)).length
def insP (r : Int) (o : List Int) (x : Int) : List Int := o.take (atP r o x) ++ [x] ++ o.drop (atP r o x)
def refO (r : Int) (ms : List Int) (i : Nat) : List Int := (ms.take i).foldl (insP r) []
theorem atP_le (r : Int) (o : List Int) (x : Int) : atP r o x ≤ o.length := (List.takeWhile_prefix _).length_le
theorem atP_before {r : Int} {o : List Int} {x : Int} {j : Nat} (h : j < atP r o x) : posR r (o.getD j 0) < posR r x := by
  have hl := atP_le r o x
  have h1 : (o.takeWhile fun y => decide (posR r y < posR r x))[j]'h ∈ o.takeWhile fun y => decide (posR r y < posR r x) := List.getElem_mem h
  have h2 := List.all_eq_true.1 (List.all_takeWhile (p := fun y => decide (posR r y < posR r x)) (l := o)) _ h1
  have h3 : (o.takeWhile fun y => decide (posR r y < posR r x))[j]'h = o[j]'(by omega) := (List.takeWhile_prefix _).getElem h
  rw [h3] at h2
  simpa [show j < o.length by omega] using h2
theorem atP_eq {r : Int} {o : List Int} {x : Int} {k : Nat} (hk : k ≤ o.length) (h1 : ∀ j, j < k → posR r (o.getD j 0) < posR r x) (h2 : k = o.length ∨ ¬ posR r (o.getD k 0) < posR r x) : atP r o x = k := by
  have ht : o.takeWhile (fun y => decide (posR r y < posR r x)) = o.take k := by
    conv => lhs; rw [← List.take_append_drop k o]
    rw [List.takeWhile_append_of_pos]
    · have : (o.drop k).takeWhile (fun y => decide (posR r y < posR r x)) = [] := by
        rcases h2 with h2 | h2
        · rw [h2, List.drop_length]; rfl
        · rcases Nat.lt_or_ge k o.length with h3 | h3
          · rw [List.drop_eq_getElem_cons h3, List.takeWhile_cons]
            have : ¬ posR r o[k] < posR r x := by simpa [h3] using h2
            simp [this]
          · rw [List.drop_eq_nil_of_le h3]; rfl
      rw [this, List.append_nil]
    · intro y hy
      obtain ⟨j, hj, rfl⟩ := List.getElem_of_mem hy
      rw [List.length_take] at hj
      have := h1 j (by omega)
      simp only [List.getElem_take]
      simpa [show j < o.length by omega] using this
  rw [atP, ht, List.length_take]
  omega
theorem insP_perm (r : Int) (o : List Int) (x : Int) : (insP r o x).Perm (x :: o) := by
  unfold insP
  rw [List.append_assoc, List.singleton_append]
  refine List.perm_middle.trans ?_
  rw [List.take_append_drop]
theorem refO_perm (r : Int) (ms : List Int) : ∀ i, (refO r ms i).Perm (ms.take i)
  | 0 => by simp [refO]
  | i + 1 => by
    rcases Nat.lt_or_ge i ms.length with h | h
    · have ih := refO_perm r ms i
      have e : refO r ms (i + 1) = insP r (refO r ms i) ms[i] := by
        simp only [refO, List.take_succ_eq_append_getElem h, List.foldl_append]
        rfl
      rw [e, List.take_succ_eq_append_getElem h]
      refine (insP_perm _ _ _).trans ?_
      refine (List.Perm.cons _ ih).trans ?_
      exact (List.perm_append_singleton _ _).symm
    · have e : refO r ms (i + 1) = refO r ms i := by
        simp only [refO, List.take_of_length_le (show ms.length ≤ i + 1 by omega), List.take_of_length_le h]
      rw [e, List.take_of_length_le (show ms.length ≤ i + 1 by omega)]
      have := refO_perm r ms i
      rwa [List.take_of_length_le h] at this
theorem refO_succ {r : Int} {ms : List Int} {i : Nat} (h : i < ms.length) : refO r ms (i + 1) = insP r (refO r ms i) ms[i] := by
  simp only [refO, List.take_succ_eq_append_getElem h, List.foldl_append]
  rfl
theorem refO_len {r : Int} {ms : List Int} {i : Nat} (h : i ≤ ms.length) : (refO r ms i).length = i := by
  have := (refO_perm r ms i).length_eq
  rw [List.length_take] at this
  omega
theorem insP_sorted {r : Int} {o : List Int} {x : Int} (h : o.Pairwise fun a b => posR r a ≤ posR r b) : (insP r o x).Pairwise fun a b => posR r a ≤ posR r b := by
  have hl := atP_le r o x
  unfold insP
  rw [List.append_assoc, List.singleton_append]
  have h1 : ∀ y ∈ o.take (atP r o x), posR r y < posR r x := fun y hy => by
    obtain ⟨j, hj, rfl⟩ := List.getElem_of_mem hy
    rw [List.length_take] at hj
    have := atP_before (r := r) (o := o) (x := x) (j := j) (by omega)
    simp only [List.getElem_take]
    simpa [show j < o.length by omega] using this
  have h2 : ∀ y ∈ o.drop (atP r o x), posR r x ≤ posR r y := fun y hy => by
    have ht := List.takeWhile_append_dropWhile (p := fun y => decide (posR r y < posR r x)) (l := o)
    have hd : o.drop (atP r o x) = o.dropWhile fun y => decide (posR r y < posR r x) := by
      have e : (o.takeWhile (fun y => decide (posR r y < posR r x)) ++ o.dropWhile (fun y => decide (posR r y < posR r x))).drop (o.takeWhile (fun y => decide (posR r y < posR r x))).length = o.dropWhile (fun y => decide (posR r y < posR r x)) := by
        rw [List.drop_append_of_le_length (Nat.le_refl _), List.drop_length, List.nil_append]
      rw [ht] at e
      exact e
    rw [hd] at hy
    have hne : o.dropWhile (fun y => decide (posR r y < posR r x)) ≠ [] := List.ne_nil_of_mem hy
    have h4 := List.head_dropWhile_not (fun y => decide (posR r y < posR r x)) hne
    simp only [decide_eq_false_iff_not] at h4
    have h5 : (o.dropWhile (fun y => decide (posR r y < posR r x))).Pairwise fun a b => posR r a ≤ posR r b := h.sublist (List.dropWhile_sublist _)
    obtain ⟨a, q, hq⟩ := List.exists_cons_of_ne_nil hne
    simp only [hq, List.head_cons] at h4 hy h5
    rcases List.mem_cons.1 hy with rfl | hy
    · omega
    · have := (List.pairwise_cons.1 h5).1 y hy
      omega
  have h3 := List.take_append_drop (atP r o x) o
  generalize o.take (atP r o x) = A at *
  generalize o.drop (atP r o x) = B at *
  subst h3
  rw [List.pairwise_append] at h ⊢
  refine ⟨h.1, List.pairwise_cons.2 ⟨h2, h.2.1⟩, fun a ha b hb => ?_⟩
  rcases List.mem_cons.1 hb with rfl | hb
  · exact Int.le_of_lt (h1 a ha)
  · exact h.2.2 a ha b hb
theorem refO_sorted (r : Int) (ms : List Int) : ∀ i, i ≤ ms.length → (refO r ms i).Pairwise fun a b => posR r a ≤ posR r b
  | 0, _ => by simp [refO]
  | i + 1, h => by
    rw [refO_succ (by omega)]
    exact insP_sorted (refO_sorted r ms i (by omega))
theorem refO_eq {r : Int} {ms : List Int} (hv : idsB ms 16 = true) (h1 : 0 ≤ r) (h2 : r < 5) : refO r ms ms.length = orderR ms r := by
  rw [order_in hv h1 h2]
  have hb := (ids_pw.1 hv).2.2
  have hp := refO_perm r ms ms.length
  rw [List.take_length] at hp
  refine List.Perm.eq_of_pairwise (le := fun x y => Go.Proofs.ltOf (cmpPos r) y x = false) (fun a b ha hb' h1 h2 => pos_anti (hb a (hp.mem_iff.1 ha)) (hb b (sortL_mem.1 hb')) h2 h1) ?_ (sortL_sorted (pos_swo r) _) (hp.trans (sortL_perm _ _).symm)
  refine (refO_sorted r ms ms.length (Nat.le_refl _)).imp fun {a b} h => ?_
  rw [ltPos]
  exact decide_eq_false (by omega)
theorem c_ref4_Order (ms : List Int) (hl : ms.length ≤ maxLen) (r : Int) : Ret Try.prog 43 [.lst 1 (ms.map intE) false, i64 r] (.lst 1 ((orderR ms r).map intE) false) := by
  have e1 := c_ref3_ValidMembers ms hl
  have ho : orderR ms r = bif !idsB ms 16 || decide (r < 0) || decide (5 ≤ r) then [] else sortL (cmpPos r) ms := rfl
  refine ret_of_body (fn := Try.f43) (c := Try.f43.body.getD .skip) hm hT (by kernel_rfl) Try.func43 (by kernel_rfl) (by kernel_rfl) (by kernel_rfl) (by kernel_rfl) ?_
  repeat' ((conv => whnf); first | refine And.intro (fun h => h) ?_ | refine dcond_t (by assumption) ?_ | refine dcond_f (by assumption) ?_ | (refine dcond_intro ?_ ?_ <;> intro h) | exact .refl | refine And.intro (by kernel_rfl) ?_ | refine And.intro ⟨fun h => h, fun h => h⟩ ?_ | refine .inl ⟨_, _, DleAll_refl _, e1, ?_⟩ | refine ⟨_, _, DleAll_refl _, fun _ => e1, ?_⟩ | refine ⟨_, _, DleAll_refl _, e1, ?_⟩ | (refine And.intro ?_ ?_; focus (simp; done)) | fail)
  all_goals (conv => whnf)
  · rw [ho, h]
    exact .nl
  · have hs : idsB ms 16 = true ∧ 0 ≤ r ∧ r < 5 := by
      simp only [Bool.or_eq_false_iff, Bool.not_eq_false', decide_eq_false_iff_not] at h
      exact ⟨h.1.1, by omega, by omega⟩
    clear h ho
    obtain ⟨hv, hr1, hr2⟩ := hs
    have h16 := (ids_pw.1 hv).1
    rw [← refO_eq hv hr1 hr2]
    refine ⟨Nat, fun i => ⟨[(0, .lst 1 (ms.map intE) false), (1, i64 r), (5, .lst 1 ((refO r ms i).map intE) false), (6, i64 i)], []⟩, fun i => i ≤ ms.length, fun i => ms.length - i, [.shut 5], ⟨0, Nat.zero_le _, ?_⟩, ?_⟩
    · exact ⟨⟨.refl, .refl, .nl, .refl, trivial⟩, trivial, rfl⟩
    · intro i hi
      have hol := refO_len (r := r) hi
      repeat' ((conv => whnf); first | refine And.intro (fun h => h) ?_ | refine dcond_t (by assumption) ?_ | refine dcond_f (by assumption) ?_ | (refine dcond_intro ?_ ?_ <;> intro h) | exact .refl | refine And.intro (by kernel_rfl) ?_ | refine And.intro ⟨fun h => h, fun h => h⟩ ?_ | (refine And.intro ?_ ?_; focus (simp; done)) | fail)
      · have hlt : i < ms.length := by simpa using h
        clear h
        have hsn := refO_succ (r := r) hlt
        generalize refO r ms i = O at hol hsn
        conv => whnf
        refine ⟨Nat, fun k => ⟨[(0, .lst 1 (ms.map intE) false), (1, i64 r), (5, .lst 1 (O.map intE) false), (6, i64 i), (7, i64 k)], []⟩, fun k => k ≤ O.length ∧ ∀ j, j < k → posR r (O.getD j 0) < posR r (ms[i]'hlt), fun k => O.length - k, [], ⟨0, ⟨Nat.zero_le _, by omega⟩, ?_⟩, ?_⟩
        · exact ⟨by repeat' ((conv => whnf); first | exact trivial | refine And.intro (by (conv => arg 1; whnf); first | (with_reducible exact .refl) | exact dle_int (wrap_succ (by omega)) | exact .refl) ?_), by repeat' ((conv => whnf); first | exact trivial | refine And.intro ?_ ?_ | exact .refl), rfl⟩
        · intro k ⟨hk, hall⟩
          have hgk : decide ((k : Int) < ((O.map intE).length : Int)) = true → (O.map intE)[k]? = some (intE (O.getD k 0)) := fun h => by
            have h := of_decide_eq_true h
            rw [List.length_map] at h
            have : k < O.length := by omega
            simp [this]
          have ep1 := c_ref2_Position r (O.getD k 0)
          have ep2 := c_ref2_Position r (ms[i]'hlt)
          repeat' ((conv => whnf); first | refine And.intro (fun h => h) ?_ | refine dcond_t (by assumption) ?_ | refine dcond_f (by assumption) ?_ | (refine dcond_intro ?_ ?_ <;> intro h) | exact .refl | refine And.intro (by kernel_rfl) ?_ | refine And.intro ⟨fun h => h, fun h => h⟩ ?_ | refine ⟨k, _, And.intro ⟨⟨fun h => h, fun h => h⟩, fun hg => ⟨rfl, hgk hg⟩⟩ ?_⟩ | refine ⟨i, intE (ms[i]'hlt), And.intro ⟨⟨fun h => h, fun h => h⟩, fun hg => ⟨rfl, get_map hlt⟩⟩ ?_⟩ | refine .inl ⟨_, _, DleAll_refl _, ep1, ?_⟩ | refine ⟨_, _, DleAll_refl _, fun _ => ep1, ?_⟩ | refine ⟨_, _, DleAll_refl _, ep1, ?_⟩ | refine .inl ⟨_, _, DleAll_refl _, ep2, ?_⟩ | refine ⟨_, _, DleAll_refl _, fun _ => ep2, ?_⟩ | refine ⟨_, _, DleAll_refl _, ep2, ?_⟩ | (refine And.intro ?_ ?_; focus (simp; done)) | fail)
          all_goals (conv => whnf)
          · have hk2 : k < O.length ∧ posR r (O.getD k 0) < posR r (ms[i]'hlt) := by
              simp only [Bool.and_eq_true, decide_eq_true_eq, List.length_map] at h
              exact ⟨by omega, h.2⟩
            refine ⟨k + 1, ⟨hk2.1, fun j hj => ?_⟩, by simp only []; omega, ?_⟩
            · rcases Nat.lt_succ_iff_lt_or_eq.1 hj with hj | rfl
              · exact hall j hj
              · exact hk2.2
            · exact ⟨by repeat' ((conv => whnf); first | exact trivial | refine And.intro (by (conv => arg 1; whnf); first | (with_reducible exact .refl) | exact dle_int (wrap_succ (by omega)) | exact .refl) ?_), by repeat' ((conv => whnf); first | exact trivial | refine And.intro ?_ ?_ | exact .refl), rfl⟩
          · have hat : atP r O (ms[i]'hlt) = k := by
              refine atP_eq hk hall ?_
              simp only [Bool.and_eq_false_iff, decide_eq_false_iff_not, List.length_map] at h
              rcases h with h | h
              · exact .inl (by omega)
              · exact .inr h
            clear h
            repeat' ((conv => whnf); first | refine And.intro (fun h => h) ?_ | refine dcond_t (by assumption) ?_ | refine dcond_f (by assumption) ?_ | (refine dcond_intro ?_ ?_ <;> intro h) | exact .refl | refine And.intro (by kernel_rfl) ?_ | refine And.intro ⟨fun h => h, fun h => h⟩ ?_ | refine ⟨0, k, And.intro ⟨rfl, ⟨_, rfl⟩, Nat.zero_le _, by simpa using hk⟩ ?_⟩ | (refine And.intro ?_ ?_; focus (simp; done)) | fail)
            all_goals (conv => whnf)
            refine And.intro (fitsI (by simp; omega)) ?_
            repeat' ((conv => whnf); first | refine And.intro (fun h => h) ?_ | refine dcond_t (by assumption) ?_ | refine dcond_f (by assumption) ?_ | (refine dcond_intro ?_ ?_ <;> intro h) | exact .refl | refine And.intro (by kernel_rfl) ?_ | refine And.intro ⟨fun h => h, fun h => h⟩ ?_ | refine ⟨_, _, And.intro ⟨rfl, get_map hlt⟩ ?_⟩ | (refine And.intro ?_ ?_; focus (simp; done)) | fail)
            all_goals (conv => whnf)
            refine And.intro (fitsI (by simp; omega)) ?_
            repeat' ((conv => whnf); first | refine And.intro (fun h => h) ?_ | refine dcond_t (by assumption) ?_ | refine dcond_f (by assumption) ?_ | (refine dcond_intro ?_ ?_ <;> intro h) | exact .refl | refine And.intro (by kernel_rfl) ?_ | refine And.intro ⟨fun h => h, fun h => h⟩ ?_ | refine ⟨k, And.intro ⟨⟨_, rfl⟩, by simpa using hk⟩ ?_⟩ | (refine And.intro ?_ ?_; focus (simp; done)) | fail)
            all_goals (conv => whnf)
            refine And.intro (fitsI (by simp; omega)) ?_
            repeat' ((conv => whnf); first | refine And.intro (fun h => h) ?_ | refine dcond_t (by assumption) ?_ | refine dcond_f (by assumption) ?_ | (refine dcond_intro ?_ ?_ <;> intro h) | exact .refl | refine And.intro (by kernel_rfl) ?_ | refine And.intro ⟨fun h => h, fun h => h⟩ ?_ | (refine And.intro ?_ ?_; focus (simp; done)) | fail)
            all_goals (conv => whnf)
            refine ⟨i + 1, hlt, by simp only []; omega, ?_⟩
            conv => whnf
            refine ⟨⟨.refl, .refl, dle_lst ?_, dle_int (wrap_succ (by omega)), trivial⟩, trivial, rfl⟩
            rw [hsn, insP, hat]
            simp [intE, dcells]
            try kernel_rfl
      · have hge : ¬ i < ms.length := by simpa using h
        have : i = ms.length := by omega
        subst this
        conv => whnf
        exact .refl
theorem c_ref4_Subjects (ms : List Int) (hl : ms.length ≤ maxLen) (id : Int) : Ret Try.prog 34 [.lst 1 (ms.map intE) false, i64 id] (.lst 1 ((subjR ms id).map intE) false) := by
  have e1 := c_ref3_ValidMembers ms hl
  have e2 := c_ref3_Contains ms hl id
  refine ret_of_body (fn := Try.f34) (c := Try.f34.body.getD .skip) hm hT (by kernel_rfl) Try.func34 (by kernel_rfl) (by kernel_rfl) (by kernel_rfl) (by kernel_rfl) ?_
  repeat' ((conv => whnf); first | refine And.intro (fun h => h) ?_ | refine dcond_t (by assumption) ?_ | refine dcond_f (by assumption) ?_ | (refine dcond_intro ?_ ?_ <;> intro h) | exact .refl | refine And.intro (by kernel_rfl) ?_ | refine And.intro ⟨fun h => h, fun h => h⟩ ?_ | refine .inl ⟨_, _, DleAll_refl _, e1, ?_⟩ | refine ⟨_, _, DleAll_refl _, fun _ => e1, ?_⟩ | refine ⟨_, _, DleAll_refl _, e1, ?_⟩ | refine .inl ⟨_, _, DleAll_refl _, e2, ?_⟩ | refine ⟨_, _, DleAll_refl _, fun _ => e2, ?_⟩ | refine ⟨_, _, DleAll_refl _, e2, ?_⟩ | (refine And.intro ?_ ?_; focus (simp; done)) | fail)
  all_goals (conv => whnf)
  · rw [List.length_map, sub_cond] at h
    rw [sub_bad h]
    exact .nl
  · rw [List.length_map, sub_cond] at h
    obtain ⟨hv, hin, hlen, hS⟩ := sub_good h
    clear h
    refine ⟨Nat, fun i => ⟨[(0, .lst 1 (ms.map intE) false), (1, i64 id), (5, .own 0), (6, i64 i)], [.row 3 1 ((subjAt ms id i).map intE)]⟩, fun i => i ≤ 5, fun i => 5 - i, [.slot 5 3 1], ⟨0, Nat.zero_le _, ?_⟩, ?_⟩
    · exact ⟨by repeat' ((conv => whnf); first | exact trivial | refine And.intro (by (conv => arg 1; whnf); first | (with_reducible exact .refl) | exact dle_int (wrap_succ (by omega)) | exact .refl) ?_), by repeat' ((conv => whnf); first | exact trivial | refine And.intro ?_ ?_ | exact .refl), rfl⟩
    · intro i hi
      repeat' ((conv => whnf); first | refine And.intro (fun h => h) ?_ | refine dcond_t (by assumption) ?_ | refine dcond_f (by assumption) ?_ | (refine dcond_intro ?_ ?_ <;> intro h) | exact .refl | refine And.intro (by kernel_rfl) ?_ | refine And.intro ⟨fun h => h, fun h => h⟩ ?_ | (refine And.intro ?_ ?_; focus (simp; done)) | fail)
      · have hlt : i < 5 := by
          simp at h
          omega
        clear h
        have ho := order_in (ms := ms) (r := (i : Nat)) hv (by omega) (by omega)
        have hol : (orderR ms (i : Nat)).length = ms.length := by rw [ho, sortL_len]
        have hom : id ∈ orderR ms (i : Nat) := by rw [ho, sortL_mem]; exact in_iff.1 hin
        have eo := c_ref4_Order ms hl (i : Nat)
        have hsn : subjAt ms id (i + 1) = subjAt ms id i ++ [nxtR (orderR ms (i : Nat)) id] := by
          unfold subjAt
          rw [List.range_succ, List.map_append]
          rfl
        have hsl : (subjAt ms id i).length = i := by simp [subjAt]
        generalize orderR ms (i : Nat) = O at hol hom eo hsn
        have ep := c_ref3_Place O (by rw [hol]; exact hl) id
        obtain ⟨k, hk, hkl⟩ := place_of hom
        rw [hk] at ep
        have hr : (k + 1) % O.length < O.length := Nat.mod_lt _ (by omega)
        have hne : ((O.map intE).length : Int) ≠ 0 := by
          rw [List.length_map]; omega
        have hix : Int.tmod (IntKind.i64.wrap ((k : Int) + 1)) ((O.map intE).length : Int) = (((k + 1) % O.length : Nat) : Int) := by
          rw [wrap_i64 (by omega) (by omega), List.length_map]
          rfl
        have hg : nxtR O id = O[(k + 1) % O.length] := by
          simp only [nxtR, hk, Int.toNat_natCast]
          simp [hr]
        repeat' ((conv => whnf); first | refine And.intro (fun h => h) ?_ | refine dcond_t (by assumption) ?_ | refine dcond_f (by assumption) ?_ | (refine dcond_intro ?_ ?_ <;> intro h) | exact .refl | refine And.intro (by kernel_rfl) ?_ | refine And.intro ⟨fun h => h, fun h => h⟩ ?_ | refine .inl ⟨_, _, DleAll_refl _, eo, ?_⟩ | refine ⟨_, _, DleAll_refl _, fun _ => eo, ?_⟩ | refine ⟨_, _, DleAll_refl _, eo, ?_⟩ | refine .inl ⟨_, _, DleAll_refl _, ep, ?_⟩ | refine ⟨_, _, DleAll_refl _, fun _ => ep, ?_⟩ | refine ⟨_, _, DleAll_refl _, ep, ?_⟩ | refine And.intro hne ?_ | refine ⟨(k + 1) % O.length, _, And.intro ⟨hix, get_map hr⟩ ?_⟩ | (refine And.intro ?_ ?_; focus (simp; done)) | fail)
        all_goals (conv => whnf)
        refine And.intro (fitsI (by simp; omega)) ?_
        repeat' ((conv => whnf); first | refine And.intro (fun h => h) ?_ | refine dcond_t (by assumption) ?_ | refine dcond_f (by assumption) ?_ | (refine dcond_intro ?_ ?_ <;> intro h) | exact .refl | refine And.intro (by kernel_rfl) ?_ | refine And.intro ⟨fun h => h, fun h => h⟩ ?_ | (refine And.intro ?_ ?_; focus (simp; done)) | fail)
        all_goals (conv => whnf)
        refine ⟨i + 1, hlt, by simp only []; omega, ?_⟩
        refine ⟨⟨.refl, .refl, .refl, dle_int (wrap_succ (by omega)), trivial⟩, ⟨ole_row ?_, trivial⟩, rfl⟩
        rw [hsn, hg, List.map_append]
        rfl
      · have : i = 5 := by
          simp at h
          omega
        subst this
        clear h
        conv => whnf
        rw [hS]
        exact .refl
end Go.Proofs.Ytdajfimollbnlaa

set_option linter.unusedSimpArgs false
set_option linter.unusedVariables false
namespace Go.Proofs.Ytdajfimollbnlaa
open Go.Lift
/-! package probe: windows -/
structure Win where
  bits : Int
  cnt : Int
def u32 (n : Int) : DV := .v (.int .u32 n)
def winE (w : Win) : List DV := [u32 w.bits, i64 w.cnt]
def winB (w : Win) : Bool := (decide (0 ≤ w.cnt) && decide (w.cnt ≤ 10)) && decide (w.bits < IntKind.u32.wrap (1 * 2 ^ (min w.cnt.toNat 32)))
theorem wrap_u32 (n : Int) : IntKind.u32.wrap n = n % 4294967296 := by
  simp [IntKind.wrap, IntKind.bits, IntKind.signed]
theorem cnt_ok {c : Int} (h : (decide (0 ≤ c) && decide (c ≤ 10)) = true) : 0 ≤ c := by
  simp only [Bool.and_eq_true, decide_eq_true_eq] at h
  exact h.1
theorem cnt_ok2 {c : Int} (h : (decide (0 ≤ c) && decide (c ≤ 10)) = true) : 0 ≤ IntKind.u64.wrap c := (u64_rng c).1
theorem win_in {w : Win} (h : winB w = true) (hb : 0 ≤ w.bits) : 0 ≤ w.cnt ∧ w.cnt ≤ 10 ∧ w.bits < 2 ^ w.cnt.toNat ∧ w.bits < 1024 := by
  simp only [winB, Bool.and_eq_true, decide_eq_true_eq] at h
  obtain ⟨⟨h1, h2⟩, h3⟩ := h
  obtain ⟨c, hc⟩ := Int.eq_ofNat_of_zero_le h1
  rw [hc] at h3 h2 ⊢
  have hc10 : c ≤ 10 := by omega
  have e : min ((c : Int)).toNat 32 = c := by omega
  have hp : (2 : Nat) ^ c ≤ 2 ^ 10 := Nat.pow_le_pow_right (by decide) hc10
  have hp' : ((2 : Int) ^ c) = ((2 ^ c : Nat) : Int) := by norm_cast
  rw [e, Int.one_mul, wrap_u32, hp'] at h3
  rw [show ((c : Nat) : Int).toNat = c from Int.toNat_natCast c, hp']
  generalize (2 : Nat) ^ c = q at *
  omega
theorem c_probe_ValidWindow (w : Win) : Ret Try.prog 10 [.agg (winE w)] (.v (.bool (winB w))) := by
  refine ret_of_body (fn := Try.f10) (c := Try.f10.body.getD .skip) hm hT (by kernel_rfl) Try.func10 (by kernel_rfl) (by kernel_rfl) (by kernel_rfl) (by kernel_rfl) ?_
  repeat' ((conv => whnf); first | refine And.intro (fun h => h) ?_ | refine dcond_t (by assumption) ?_ | refine dcond_f (by assumption) ?_ | (refine dcond_intro ?_ ?_ <;> intro h) | exact .refl | refine And.intro (by kernel_rfl) ?_ | refine And.intro ⟨fun h => h, fun h => h⟩ ?_ | refine And.intro ⟨⟨fun h => h, fun h => h⟩, fun hg => cnt_ok hg⟩ ?_ | refine And.intro ⟨fun h => h, fun hg => cnt_ok hg⟩ ?_ | refine And.intro (fun hg => cnt_ok hg) ?_ | (refine And.intro ?_ ?_; focus (simp; done)) | fail)
theorem shl_u64 {c : Int} {g : Prop} [Decidable g] (hg : (decide (0 ≤ c) && decide (c ≤ 10)) = true) : IntKind.u64.wrap c = c := by
  simp only [Bool.and_eq_true, decide_eq_true_eq] at hg
  exact u64_id (by omega) (by omega)
theorem winB_u (w : Win) : ((decide (0 ≤ w.cnt) && decide (w.cnt ≤ 10)) && decide (w.bits < IntKind.u32.wrap (1 * 2 ^ (min (IntKind.u64.wrap w.cnt).toNat 32)))) = winB w := by
  unfold winB
  by_cases h : (decide (0 ≤ w.cnt) && decide (w.cnt ≤ 10)) = true
  · simp only [Bool.and_eq_true, decide_eq_true_eq] at h
    rw [u64_id (n := w.cnt) (by omega) (by omega)]
  · rw [Bool.not_eq_true] at h
    rw [h, Bool.false_and, Bool.false_and]
theorem c_ref5_ValidWindow (w : Win) : Ret Try.prog 11 [.agg (winE w)] (.v (.bool (winB w))) := by
  rw [← winB_u]
  refine ret_of_body (fn := Try.f11) (c := Try.f11.body.getD .skip) hm hT (by kernel_rfl) Try.func11 (by kernel_rfl) (by kernel_rfl) (by kernel_rfl) (by kernel_rfl) ?_
  repeat' ((conv => whnf); first | refine And.intro (fun h => h) ?_ | refine dcond_t (by assumption) ?_ | refine dcond_f (by assumption) ?_ | (refine dcond_intro ?_ ?_ <;> intro h) | exact .refl | refine And.intro (by kernel_rfl) ?_ | refine And.intro ⟨fun h => h, fun h => h⟩ ?_ | refine And.intro ⟨⟨fun h => h, fun h => h⟩, fun hg => cnt_ok2 hg⟩ ?_ | refine And.intro ⟨fun h => h, fun hg => cnt_ok2 hg⟩ ?_ | refine And.intro (fun hg => cnt_ok2 hg) ?_ | (refine And.intro ?_ ?_; focus (simp; done)) | fail)
def recR (w : Win) (ok : Bool) : Win := bif !winB w then ⟨0, 0⟩ else ⟨w.bits * 2 % 1024 + (bif ok then 0 else 1), if 10 < w.cnt + 1 then 10 else w.cnt + 1⟩
theorem rec_bits0 : ∀ b : Fin 1024, bits .and .u32 (IntKind.u32.wrap ((b.1 : Int) * 2 ^ (min 1 32))) 1023 = (b.1 : Int) * 2 % 1024 ∧ bits .and .u32 (bits .or .u32 (IntKind.u32.wrap ((b.1 : Int) * 2 ^ (min 1 32))) 1) 1023 = (b.1 : Int) * 2 % 1024 + 1 ∧
    Int.tmod (IntKind.u32.wrap ((b.1 : Int) * 2)) 1024 = (b.1 : Int) * 2 % 1024 ∧ IntKind.u32.wrap (Int.tmod (IntKind.u32.wrap ((b.1 : Int) * 2)) 1024 + 1) = (b.1 : Int) * 2 % 1024 + 1 := by decide +kernel
theorem rec_bits {b : Int} (h1 : 0 ≤ b) (h2 : b < 1024) : bits .and .u32 (IntKind.u32.wrap (b * 2 ^ (min (1 : Int).toNat 32))) 1023 = b * 2 % 1024 ∧ bits .and .u32 (bits .or .u32 (IntKind.u32.wrap (b * 2 ^ (min (1 : Int).toNat 32))) 1) 1023 = b * 2 % 1024 + 1 ∧
    Int.tmod (IntKind.u32.wrap (b * 2)) 1024 = b * 2 % 1024 ∧ IntKind.u32.wrap (Int.tmod (IntKind.u32.wrap (b * 2)) 1024 + 1) = b * 2 % 1024 + 1 := by
  obtain ⟨n, rfl⟩ := Int.eq_ofNat_of_zero_le h1
  exact rec_bits0 ⟨n, by omega⟩
theorem rec_rng {w : Win} (hb : 0 ≤ w.bits) (ok : Bool) : 0 ≤ (recR w ok).bits := by
  unfold recR
  cases !winB w
  · simp only [cond_false]
    have := Int.emod_nonneg (w.bits * 2) (b := 1024) (by decide)
    cases ok <;> simp <;> omega
  · simp
theorem c_probe_Record (w : Win) (hb : 0 ≤ w.bits) (ok : Bool) : Ret Try.prog 12 [.agg (winE w), .v (.bool ok)] (.agg (winE (recR w ok))) := by
  refine ret_of_body (fn := Try.f12) (c := Try.f12.body.getD .skip) hm hT (by kernel_rfl) Try.func12 (by kernel_rfl) (by kernel_rfl) (by kernel_rfl) (by kernel_rfl) ?_
  repeat' ((conv => whnf); first | refine And.intro (fun h => h) ?_ | refine dcond_t (by assumption) ?_ | refine dcond_f (by assumption) ?_ | (refine dcond_intro ?_ ?_ <;> intro h) | exact .refl | refine And.intro (by kernel_rfl) ?_ | refine And.intro ⟨fun h => h, fun h => h⟩ ?_ | refine .inl ⟨_, _, DleAll_refl _, c_probe_ValidWindow w, ?_⟩ | refine ⟨_, _, DleAll_refl _, fun _ => c_probe_ValidWindow w, ?_⟩ | refine ⟨_, _, DleAll_refl _, c_probe_ValidWindow w, ?_⟩ | refine And.intro (by decide) ?_ | (refine And.intro ?_ ?_; focus (simp; done)) | fail)
  all_goals (conv => whnf)
  · rw [recR, h]
    exact .refl
  all_goals
    rename_i h0
    have hv : winB w = true := by simpa using h0
    obtain ⟨k1, k2, _, k3⟩ := win_in hv hb
    obtain ⟨q1, q2, _, _⟩ := rec_bits hb k3
    rw [recR, h0, cond_false]
    refine dle_aggA ⟨dle_int ?_, dle_int ?_, trivial⟩
  · have hok : ok = false := by simpa using h
    subst hok
    exact q2
  · rw [wrap_i64 (by omega) (by omega)]
  · have hok : ok = true := by simpa using h
    subst hok
    exact q1.trans (Int.add_zero _).symm
  · rw [wrap_i64 (by omega) (by omega)]
theorem c_ref5_Record (w : Win) (hb : 0 ≤ w.bits) (ok : Bool) : Ret Try.prog 13 [.agg (winE w), .v (.bool ok)] (.agg (winE (recR w ok))) := by
  refine ret_of_body (fn := Try.f13) (c := Try.f13.body.getD .skip) hm hT (by kernel_rfl) Try.func13 (by kernel_rfl) (by kernel_rfl) (by kernel_rfl) (by kernel_rfl) ?_
  repeat' ((conv => whnf); first | refine And.intro (fun h => h) ?_ | refine dcond_t (by assumption) ?_ | refine dcond_f (by assumption) ?_ | (refine dcond_intro ?_ ?_ <;> intro h) | exact .refl | refine And.intro (by kernel_rfl) ?_ | refine And.intro ⟨fun h => h, fun h => h⟩ ?_ | refine .inl ⟨_, _, DleAll_refl _, c_ref5_ValidWindow w, ?_⟩ | refine ⟨_, _, DleAll_refl _, fun _ => c_ref5_ValidWindow w, ?_⟩ | refine ⟨_, _, DleAll_refl _, c_ref5_ValidWindow w, ?_⟩ | refine And.intro (by decide) ?_ | (refine And.intro ?_ ?_; focus (simp; done)) | fail)
  all_goals (conv => whnf)
  · rw [recR, h]
    exact .refl
  all_goals
    rename_i h0
    have hv : winB w = true := by simpa using h0
    obtain ⟨k1, k2, _, k3⟩ := win_in hv hb
    obtain ⟨_, _, q1, q2⟩ := rec_bits hb k3
    rw [recR, h0, cond_false]
    refine dle_aggA ⟨dle_int ?_, dle_int ?_, trivial⟩
  · have hok : ok = false := by simpa using h
    subst hok
    exact q2
  · rw [wrap_i64 (by omega) (by omega)]
  · have hok : ok = true := by simpa using h
    subst hok
    exact q1.trans (Int.add_zero _).symm
  · rw [wrap_i64 (by omega) (by omega)]
def popN (b : Int) : Nat → Int
  | 0 => 0
  | k + 1 => bif decide (Int.tmod (b.fdiv (2 ^ k)) 2 = 1) then popN b k + 1 else popN b k
theorem pop_le (b : Int) : ∀ k : Nat, 0 ≤ popN b k ∧ popN b k ≤ k
  | 0 => by simp [popN]
  | k + 1 => by
    have := pop_le b k
    unfold popN
    cases decide (Int.tmod (b.fdiv (2 ^ k)) 2 = 1) <;> simp <;> omega
def failR (w : Win) : Bool := winB w && decide (w.cnt = 10) && decide (4 ≤ popN w.bits 10)
set_option maxRecDepth 100000 in
theorem c_OnesCount32 (n : Nat) (hn : n < 1024) : Ret Try.prog 29 [u32 n] (i64 (popN n 10)) := by
  have hix : (n : Int).fdiv (2 ^ (min (24 : Int).toNat 32)) = ((0 : Nat) : Int) ∧ bits .and .u32 ((n : Int).fdiv (2 ^ (min (16 : Int).toNat 32))) 255 = ((0 : Nat) : Int) ∧ bits .and .u32 ((n : Int).fdiv (2 ^ (min (8 : Int).toNat 32))) 255 = ((n / 256 : Nat) : Int) ∧ bits .and .u32 (n : Int) 255 = ((n % 256 : Nat) : Int) := by
    have : ∀ n : Nat, n < 1024 → (n : Int).fdiv (2 ^ (min (24 : Int).toNat 32)) = ((0 : Nat) : Int) ∧ bits .and .u32 ((n : Int).fdiv (2 ^ (min (16 : Int).toNat 32))) 255 = ((0 : Nat) : Int) ∧ bits .and .u32 ((n : Int).fdiv (2 ^ (min (8 : Int).toNat 32))) 255 = ((n / 256 : Nat) : Int) ∧ bits .and .u32 (n : Int) 255 = ((n % 256 : Nat) : Int) := by decide +kernel
    exact this n hn
  obtain ⟨i1, i2, i3, i4⟩ := hix
  have b3 : n / 256 < 256 := by omega
  have b4 : n % 256 < 256 := by omega
  refine ret_of_body (fn := Try.f29) (c := Try.f29.body.getD .skip) hm hT (by kernel_rfl) Try.func29 (by kernel_rfl) (by kernel_rfl) (by kernel_rfl) (by kernel_rfl) ?_
  repeat' ((conv => whnf); first | refine And.intro (fun h => h) ?_ | refine dcond_t (by assumption) ?_ | refine dcond_f (by assumption) ?_ | (refine dcond_intro ?_ ?_ <;> intro h) | exact .refl | refine And.intro (by kernel_rfl) ?_ | refine And.intro ⟨fun h => h, fun h => h⟩ ?_ | refine And.intro (by decide) ?_ | refine ⟨0, And.intro ⟨i1, by decide⟩ ?_⟩ | refine ⟨0, And.intro ⟨i2, by decide⟩ ?_⟩ | refine ⟨n / 256, And.intro ⟨i3, b3⟩ ?_⟩ | refine ⟨n % 256, And.intro ⟨i4, b4⟩ ?_⟩ | (refine And.intro ?_ ?_; focus (simp; done)) | fail)
  all_goals (conv => whnf)
  refine dle_int ?_
  clear i1 i2 i3 i4 b3 b4
  revert n
  decide +kernel
theorem c_probe_Failing (w : Win) (hb : 0 ≤ w.bits) : Ret Try.prog 14 [.agg (winE w)] (.v (.bool (failR w))) := by
  have e : (winB w && decide (w.cnt = 10)) = true → Ret Try.prog 29 [u32 w.bits] (i64 (popN w.bits 10)) := fun h => by
    simp only [Bool.and_eq_true] at h
    obtain ⟨_, _, _, k⟩ := win_in h.1 hb
    obtain ⟨n, hn⟩ := Int.eq_ofNat_of_zero_le hb
    rw [hn]
    exact c_OnesCount32 n (by omega)
  unfold failR
  generalize popN w.bits 10 = p at e
  refine ret_of_body (fn := Try.f14) (c := Try.f14.body.getD .skip) hm hT (by kernel_rfl) Try.func14 (by kernel_rfl) (by kernel_rfl) (by kernel_rfl) (by kernel_rfl) ?_
  repeat' ((conv => whnf); first | refine And.intro (fun h => h) ?_ | refine dcond_t (by assumption) ?_ | refine dcond_f (by assumption) ?_ | (refine dcond_intro ?_ ?_ <;> intro h) | exact .refl | refine And.intro (by kernel_rfl) ?_ | refine And.intro ⟨fun h => h, fun h => h⟩ ?_ | refine .inl ⟨_, _, DleAll_refl _, c_probe_ValidWindow w, ?_⟩ | refine ⟨_, _, DleAll_refl _, fun _ => c_probe_ValidWindow w, ?_⟩ | refine ⟨_, _, DleAll_refl _, c_probe_ValidWindow w, ?_⟩ | refine ⟨_, _, DleAll_refl _, e, ?_⟩ | (refine And.intro ?_ ?_; focus (simp; done)) | fail)
theorem c_ref5_Failing (w : Win) (hb : 0 ≤ w.bits) : Ret Try.prog 15 [.agg (winE w)] (.v (.bool (failR w))) := by
  refine ret_of_body (fn := Try.f15) (c := Try.f15.body.getD .skip) hm hT (by kernel_rfl) Try.func15 (by kernel_rfl) (by kernel_rfl) (by kernel_rfl) (by kernel_rfl) ?_
  repeat' ((conv => whnf); first | refine And.intro (fun h => h) ?_ | refine dcond_t (by assumption) ?_ | refine dcond_f (by assumption) ?_ | (refine dcond_intro ?_ ?_ <;> intro h) | exact .refl | refine And.intro (by kernel_rfl) ?_ | refine And.intro ⟨fun h => h, fun h => h⟩ ?_ | (refine And.intro ?_ ?_; focus (simp; done)) | fail)
  refine ⟨Nat, fun i => ⟨[(1, .lp 0 0), (3, i64 (popN w.bits i)), (4, i64 i)], [.cells 24 (winE w)]⟩, fun i => i ≤ 10, fun i => 10 - i, [], ⟨0, Nat.zero_le _, ?_⟩, ?_⟩
  · exact ⟨by repeat' ((conv => whnf); first | exact trivial | refine And.intro (by (conv => arg 1; whnf); first | (with_reducible exact .refl) | exact dle_int (wrap_succ (by omega)) | exact .refl) ?_), by repeat' ((conv => whnf); first | exact trivial | refine And.intro ?_ ?_ | exact .refl), rfl⟩
  · intro i hi
    have hpl := pop_le w.bits i
    repeat' ((conv => whnf); first | refine And.intro (fun h => h) ?_ | refine dcond_t (by assumption) ?_ | refine dcond_f (by assumption) ?_ | (refine dcond_intro ?_ ?_ <;> intro h) | exact .refl | refine And.intro (by kernel_rfl) ?_ | refine And.intro ⟨fun h => h, fun h => h⟩ ?_ | (refine And.intro ?_ ?_; focus (simp; done)) | fail)
    · have hlt : i < 10 := by
        simp at h
        omega
      clear h
      have hsh : (min (IntKind.u64.wrap (i : Int)).toNat 32) = i := by
        rw [u64_id (by omega) (by omega)]
        omega
      have hp1 : popN w.bits (i + 1) = bif decide (Int.tmod (w.bits.fdiv (2 ^ i)) 2 = 1) then popN w.bits i + 1 else popN w.bits i := rfl
      generalize popN w.bits i = p at hpl hp1
      repeat' ((conv => whnf); first | refine And.intro (fun h => h) ?_ | refine dcond_t (by assumption) ?_ | refine dcond_f (by assumption) ?_ | (refine dcond_intro ?_ ?_ <;> intro h) | exact .refl | refine And.intro (by kernel_rfl) ?_ | refine And.intro ⟨fun h => h, fun h => h⟩ ?_ | refine And.intro (u64_rng _).1 ?_ | refine And.intro (by decide) ?_ | (refine And.intro ?_ ?_; focus (simp; done)) | fail)
      all_goals (conv => whnf)
      all_goals
        have h' : decide (Int.tmod (w.bits.fdiv (2 ^ i)) 2 = 1) = _ := (congrArg (fun k => decide (Int.tmod (w.bits.fdiv (2 ^ k)) 2 = 1)) hsh).symm.trans h
        refine ⟨i + 1, hlt, by simp only []; omega, ?_⟩
        refine ⟨⟨.refl, dle_int ?_, dle_int (wrap_succ (by omega)), trivial⟩, ⟨.refl, trivial⟩, rfl⟩
        rw [hp1, h']
      · rw [wrap_i64 (by omega) (by omega)]; rfl
      · rfl
    · have : i = 10 := by
        simp at h
        omega
      subst this
      clear h
      unfold failR
      generalize popN w.bits 10 = p
      repeat' ((conv => whnf); first | refine And.intro (fun h => h) ?_ | refine dcond_t (by assumption) ?_ | refine dcond_f (by assumption) ?_ | (refine dcond_intro ?_ ?_ <;> intro h) | exact .refl | refine And.intro (by kernel_rfl) ?_ | refine And.intro ⟨fun h => h, fun h => h⟩ ?_ | refine .inl ⟨_, _, DleAll_refl _, c_ref5_ValidWindow w, ?_⟩ | refine ⟨_, _, DleAll_refl _, fun _ => c_ref5_ValidWindow w, ?_⟩ | refine ⟨_, _, DleAll_refl _, c_ref5_ValidWindow w, ?_⟩ | (refine And.intro ?_ ?_; focus (simp; done)) | fail)
end Go.Proofs.Ytdajfimollbnlaa

set_option linter.unusedSimpArgs false
set_option linter.unusedVariables false
namespace Go.Proofs.Ytdajfimollbnlaa
open Go.Lift
/-! package probe: detectors -/
structure Edge where
  ring : Int
  subj : Int
  heard : Bool
  rep : Bool
  win : Win
def edgeE (e : Edge) : List DV := [i64 e.ring, i64 e.subj, .v (.bool e.heard), .v (.bool e.rep), u32 e.win.bits, i64 e.win.cnt]
structure Det where
  self : Int
  view : View
  edges : List Edge
def detE (d : Det) : List DV := [i64 d.self, i64 d.view.num, .lst 1 (d.view.mem.map intE) false, .lst 6 (d.edges.map edgeE) false]
structure Alr where
  view : Int
  ring : Int
  obs : Int
  subj : Int
def alE (a : Alr) : List DV := [i64 a.view, i64 a.ring, i64 a.obs, i64 a.subj]
def edge0 (r : Nat) (s : Int) : Edge := ⟨r, s, false, false, ⟨0, 0⟩⟩
def edgeZ : Edge := ⟨0, 0, false, false, ⟨0, 0⟩⟩
def edgesAt (S : List Int) (i : Nat) : List Edge := (List.range i).map fun k => edge0 k (S.getD k 0)
theorem edgesAt_len (S : List Int) (i : Nat) : (edgesAt S i).length = i := by simp [edgesAt]
theorem edgesAt_succ (S : List Int) (i : Nat) : edgesAt S (i + 1) = edgesAt S i ++ [edge0 i (S.getD i 0)] := by
  unfold edgesAt
  rw [List.range_succ, List.map_append]
  rfl
def det0 : Det := ⟨0, ⟨0, []⟩, []⟩
def newR (v : View) (self : Int) : Det × Int := bif !viewB v || !inB v.mem self then (det0, 1) else (⟨self, v, edgesAt (subjR v.mem self) (subjR v.mem self).length⟩, 0)
theorem fitsE {n : Nat} (h : n ≤ 2000000) : fitsIn tt 58 n := by
  have e : (tinfo tt 58).bytes = 40 := by kernel_rfl
  refine ⟨?_, ?_⟩
  · rw [e]; omega
  · simp only [maxLen]; omega
theorem subj_len (ms : List Int) (id : Int) : (subjR ms id).length ≤ 5 := by
  unfold subjR
  cases (!idsB ms 16 || !inB ms id || decide ((ms.length : Int) = 1)) <;> simp [subjAt]
theorem c_probe_New (v : View) (hv : v.mem.length ≤ maxLen) (self : Int) : Ret Try.prog 17 [.agg (viewE v), i64 self] (.tup [.agg (detE (newR v self).1), i64 (newR v self).2]) := by
  have e1 := c_view_Valid v hv
  have e2 := c_view_Contains v.mem hv self
  have hn : newR v self = bif !viewB v || !inB v.mem self then (det0, 1) else (⟨self, v, edgesAt (subjR v.mem self) (subjR v.mem self).length⟩, 0) := rfl
  refine ret_of_body (fn := Try.f17) (c := Try.f17.body.getD .skip) hm hT (by kernel_rfl) Try.func17 (by kernel_rfl) (by kernel_rfl) (by kernel_rfl) (by kernel_rfl) ?_
  repeat' ((conv => whnf); first | refine And.intro (fun h => h) ?_ | refine dcond_t (by assumption) ?_ | refine dcond_f (by assumption) ?_ | (refine dcond_intro ?_ ?_ <;> intro h) | exact .refl | refine And.intro (by kernel_rfl) ?_ | refine And.intro ⟨fun h => h, fun h => h⟩ ?_ | refine .inl ⟨_, _, DleAll_refl _, e1, ?_⟩ | refine ⟨_, _, DleAll_refl _, fun _ => e1, ?_⟩ | refine ⟨_, _, DleAll_refl _, e1, ?_⟩ | refine .inl ⟨_, _, DleAll_refl _, e2, ?_⟩ | refine ⟨_, _, DleAll_refl _, fun _ => e2, ?_⟩ | refine ⟨_, _, DleAll_refl _, e2, ?_⟩ | (refine And.intro ?_ ?_; focus (simp; done)) | fail)
  all_goals (conv => whnf)
  · rw [hn, h]
    exact dle_tupA ⟨dle_aggA ⟨.refl, .refl, .nl, .nl, trivial⟩, .refl, trivial⟩
  · have hvw : viewB v = true := by
      simp only [Bool.or_eq_false_iff, Bool.not_eq_false'] at h
      exact h.1
    have h16 := view_len hvw
    rw [h, cond_false] at hn
    rw [hn]
    have es := c_overlay_Subjects v.mem hv self
    have hsl := subj_len v.mem self
    generalize subjR v.mem self = S at es hsl
    clear h hn
    refine And.intro (fitsI (by simp; omega)) ?_
    repeat' ((conv => whnf); first | refine And.intro (fun h => h) ?_ | refine dcond_t (by assumption) ?_ | refine dcond_f (by assumption) ?_ | (refine dcond_intro ?_ ?_ <;> intro h) | exact .refl | refine And.intro (by kernel_rfl) ?_ | refine And.intro ⟨fun h => h, fun h => h⟩ ?_ | refine .inl ⟨_, _, DleAll_refl _, es, ?_⟩ | refine ⟨_, _, DleAll_refl _, fun _ => es, ?_⟩ | refine ⟨_, _, DleAll_refl _, es, ?_⟩ | (refine And.intro ?_ ?_; focus (simp; done)) | fail)
    all_goals (conv => whnf)
    refine ⟨Nat, fun i => ⟨[(4, .lp 1 0), (6, .lp 3 0), (31, .lst 1 (S.map intE) false), (32, i64 S.length), (33, i64 i)], [.cells 33 (viewE v), .cells 36 [i64 0, i64 0, .nl, .nl], .row 3 1 (v.mem.map intE), .cells 36 [i64 self, i64 v.num, .own 2, .own 4], .row 58 6 ((edgesAt S i).map edgeE)]⟩, fun i => i ≤ S.length, fun i => S.length - i, [.cell 3 3 58 6], ⟨0, Nat.zero_le _, ?_⟩, ?_⟩
    · conv => whnf
      exact ⟨⟨.refl, .refl, .refl, dle_int (by simp), .refl, trivial⟩, ⟨.refl, .refl, .refl, .refl, .refl, trivial⟩, by rfl⟩
    · intro i hi
      have hel := edgesAt_len S i
      repeat' ((conv => whnf); first | refine And.intro (fun h => h) ?_ | refine dcond_t (by assumption) ?_ | refine dcond_f (by assumption) ?_ | (refine dcond_intro ?_ ?_ <;> intro h) | exact .refl | refine And.intro (by kernel_rfl) ?_ | refine And.intro ⟨fun h => h, fun h => h⟩ ?_ | (refine And.intro ?_ ?_; focus (simp; done)) | fail)
      · have hlt : i < S.length := by simpa using h
        clear h
        have hg : S.getD i 0 = S[i] := by simp [hlt]
        have hsn := edgesAt_succ S i
        rw [hg] at hsn
        repeat' ((conv => whnf); first | refine And.intro (fun h => h) ?_ | refine dcond_t (by assumption) ?_ | refine dcond_f (by assumption) ?_ | (refine dcond_intro ?_ ?_ <;> intro h) | exact .refl | refine And.intro (by kernel_rfl) ?_ | refine And.intro ⟨fun h => h, fun h => h⟩ ?_ | refine ⟨_, _, And.intro ⟨rfl, get_map hlt⟩ ?_⟩ | (refine And.intro ?_ ?_; focus (simp; done)) | fail)
        all_goals (conv => whnf)
        refine And.intro (fitsE (by simp; omega)) ?_
        repeat' ((conv => whnf); first | refine And.intro (fun h => h) ?_ | refine dcond_t (by assumption) ?_ | refine dcond_f (by assumption) ?_ | (refine dcond_intro ?_ ?_ <;> intro h) | exact .refl | refine And.intro (by kernel_rfl) ?_ | refine And.intro ⟨fun h => h, fun h => h⟩ ?_ | (refine And.intro ?_ ?_; focus (simp; done)) | fail)
        all_goals (conv => whnf)
        refine ⟨i + 1, hlt, by simp only []; omega, ?_⟩
        conv => whnf
        refine ⟨⟨.refl, .refl, .refl, .refl, dle_int (wrap_succ (by omega)), trivial⟩, ⟨.refl, .refl, .refl, .refl, ole_row ?_, trivial⟩, by rfl⟩
        rw [hsn, List.map_append]
        rfl
      · have : i = S.length := by
          simp at h
          omega
        subst this
        repeat' ((conv => whnf); first | refine And.intro (fun h => h) ?_ | refine dcond_t (by assumption) ?_ | refine dcond_f (by assumption) ?_ | (refine dcond_intro ?_ ?_ <;> intro h) | exact .refl | refine And.intro (by kernel_rfl) ?_ | refine And.intro ⟨fun h => h, fun h => h⟩ ?_ | (refine And.intro ?_ ?_; focus (simp; done)) | fail)
theorem c_ref5_New (v : View) (hv : v.mem.length ≤ maxLen) (self : Int) : Ret Try.prog 18 [.agg (viewE v), i64 self] (.tup [.agg (detE (newR v self).1), i64 (newR v self).2]) := by
  have e1 := c_ref3_Valid v hv
  have e2 := c_ref3_Contains v.mem hv self
  have hn : newR v self = bif !viewB v || !inB v.mem self then (det0, 1) else (⟨self, v, edgesAt (subjR v.mem self) (subjR v.mem self).length⟩, 0) := rfl
  refine ret_of_body (fn := Try.f18) (c := Try.f18.body.getD .skip) hm hT (by kernel_rfl) Try.func18 (by kernel_rfl) (by kernel_rfl) (by kernel_rfl) (by kernel_rfl) ?_
  repeat' ((conv => whnf); first | refine And.intro (fun h => h) ?_ | refine dcond_t (by assumption) ?_ | refine dcond_f (by assumption) ?_ | (refine dcond_intro ?_ ?_ <;> intro h) | exact .refl | refine And.intro (by kernel_rfl) ?_ | refine And.intro ⟨fun h => h, fun h => h⟩ ?_ | refine .inl ⟨_, _, DleAll_refl _, e1, ?_⟩ | refine ⟨_, _, DleAll_refl _, fun _ => e1, ?_⟩ | refine ⟨_, _, DleAll_refl _, e1, ?_⟩ | refine .inl ⟨_, _, DleAll_refl _, e2, ?_⟩ | refine ⟨_, _, DleAll_refl _, fun _ => e2, ?_⟩ | refine ⟨_, _, DleAll_refl _, e2, ?_⟩ | (refine And.intro ?_ ?_; focus (simp; done)) | fail)
  all_goals (conv => whnf)
  · rw [hn, h]
    exact dle_tupA ⟨dle_aggA ⟨.refl, .refl, .nl, .nl, trivial⟩, .refl, trivial⟩
  · have hvw : viewB v = true := by
      simp only [Bool.or_eq_false_iff, Bool.not_eq_false'] at h
      exact h.1
    have h16 := view_len hvw
    rw [h, cond_false] at hn
    rw [hn]
    have es := c_ref4_Subjects v.mem hv self
    have hsl := subj_len v.mem self
    generalize subjR v.mem self = S at es hsl
    clear h hn
    repeat' ((conv => whnf); first | refine And.intro (fun h => h) ?_ | refine dcond_t (by assumption) ?_ | refine dcond_f (by assumption) ?_ | (refine dcond_intro ?_ ?_ <;> intro h) | exact .refl | refine And.intro (by kernel_rfl) ?_ | refine And.intro ⟨fun h => h, fun h => h⟩ ?_ | refine .inl ⟨_, _, DleAll_refl _, es, ?_⟩ | refine ⟨_, _, DleAll_refl _, fun _ => es, ?_⟩ | refine ⟨_, _, DleAll_refl _, es, ?_⟩ | (refine And.intro ?_ ?_; focus (simp; done)) | fail)
    all_goals (conv => whnf)
    refine ⟨Nat, fun i => ⟨[(4, .lp 1 0), (6, .lp 2 0), (7, .lst 1 (S.map intE) false), (8, i64 i)], [.cells 33 (viewE v), .cells 36 [i64 0, i64 0, .nl, .nl], .cells 36 [i64 self, i64 v.num, .lst 1 (v.mem.map intE) false, .own 3], .row 58 6 ((edgesAt S i).map edgeE)]⟩, fun i => i ≤ S.length, fun i => S.length - i, [.cell 2 3 58 6], ⟨0, Nat.zero_le _, ?_⟩, ?_⟩
    · conv => whnf
      exact ⟨⟨.refl, .refl, .refl, .refl, trivial⟩, ⟨.refl, .refl, .refl, .refl, trivial⟩, by rfl⟩
    · intro i hi
      have hel := edgesAt_len S i
      repeat' ((conv => whnf); first | refine And.intro (fun h => h) ?_ | refine dcond_t (by assumption) ?_ | refine dcond_f (by assumption) ?_ | (refine dcond_intro ?_ ?_ <;> intro h) | exact .refl | refine And.intro (by kernel_rfl) ?_ | refine And.intro ⟨fun h => h, fun h => h⟩ ?_ | (refine And.intro ?_ ?_; focus (simp; done)) | fail)
      · have hlt : i < S.length := by simpa using h
        clear h
        have hg : S.getD i 0 = S[i] := by simp [hlt]
        have hsn := edgesAt_succ S i
        rw [hg] at hsn
        repeat' ((conv => whnf); first | refine And.intro (fun h => h) ?_ | refine dcond_t (by assumption) ?_ | refine dcond_f (by assumption) ?_ | (refine dcond_intro ?_ ?_ <;> intro h) | exact .refl | refine And.intro (by kernel_rfl) ?_ | refine And.intro ⟨fun h => h, fun h => h⟩ ?_ | refine ⟨_, _, And.intro ⟨rfl, get_map hlt⟩ ?_⟩ | (refine And.intro ?_ ?_; focus (simp; done)) | fail)
        all_goals (conv => whnf)
        refine And.intro (fitsE (by simp; omega)) ?_
        repeat' ((conv => whnf); first | refine And.intro (fun h => h) ?_ | refine dcond_t (by assumption) ?_ | refine dcond_f (by assumption) ?_ | (refine dcond_intro ?_ ?_ <;> intro h) | exact .refl | refine And.intro (by kernel_rfl) ?_ | refine And.intro ⟨fun h => h, fun h => h⟩ ?_ | (refine And.intro ?_ ?_; focus (simp; done)) | fail)
        all_goals (conv => whnf)
        refine ⟨i + 1, hlt, by simp only []; omega, ?_⟩
        conv => whnf
        refine ⟨⟨.refl, .refl, .refl, dle_int (wrap_succ (by omega)), trivial⟩, ⟨.refl, .refl, .refl, ole_row ?_, trivial⟩, by rfl⟩
        rw [hsn, List.map_append]
        rfl
      · have : i = S.length := by
          simp at h
          omega
        subst this
        repeat' ((conv => whnf); first | refine And.intro (fun h => h) ?_ | refine dcond_t (by assumption) ?_ | refine dcond_f (by assumption) ?_ | (refine dcond_intro ?_ ?_ <;> intro h) | exact .refl | refine And.intro (by kernel_rfl) ?_ | refine And.intro ⟨fun h => h, fun h => h⟩ ?_ | (refine And.intro ?_ ?_; focus (simp; done)) | fail)
/-! validity -/
def okEd (E W : List Edge) (i : Nat) : Bool := !(!decide ((E.getD i edgeZ).ring = (W.getD i edgeZ).ring) || !decide ((E.getD i edgeZ).subj = (W.getD i edgeZ).subj) || !winB (E.getD i edgeZ).win)
def detB (d : Det) : Bool := bif !decide ((newR d.view d.self).2 = 0) || !decide ((d.edges.length : Int) = ((newR d.view d.self).1.edges.length : Int)) then false else allB (okEd d.edges (newR d.view d.self).1.edges) d.edges.length
theorem c_probe_Valid (d : Det) (hv : d.view.mem.length ≤ maxLen) (he : d.edges.length ≤ maxLen) : Ret Try.prog 22 [.agg (detE d)] (.v (.bool (detB d))) := by
  have he' : d.edges.length ≤ 9223372036854775807 := he
  have en := c_probe_New d.view hv d.self
  have hd : detB d = bif !decide ((newR d.view d.self).2 = 0) || !decide ((d.edges.length : Int) = ((newR d.view d.self).1.edges.length : Int)) then false else allB (okEd d.edges (newR d.view d.self).1.edges) d.edges.length := rfl
  generalize newR d.view d.self = N at en hd
  obtain ⟨n, e⟩ := N
  refine ret_of_body (fn := Try.f22) (c := Try.f22.body.getD .skip) hm hT (by kernel_rfl) Try.func22 (by kernel_rfl) (by kernel_rfl) (by kernel_rfl) (by kernel_rfl) ?_
  repeat' ((conv => whnf); first | refine And.intro (fun h => h) ?_ | refine dcond_t (by assumption) ?_ | refine dcond_f (by assumption) ?_ | (refine dcond_intro ?_ ?_ <;> intro h) | exact .refl | refine And.intro (by kernel_rfl) ?_ | refine And.intro ⟨fun h => h, fun h => h⟩ ?_ | refine .inl ⟨_, _, DleAll_refl _, en, ?_⟩ | refine ⟨_, _, DleAll_refl _, fun _ => en, ?_⟩ | refine ⟨_, _, DleAll_refl _, en, ?_⟩ | (refine And.intro ?_ ?_; focus (simp; done)) | fail)
  all_goals (conv => whnf)
  · rw [List.length_map, List.length_map] at h
    rw [hd, h]
    exact .refl
  · rw [List.length_map, List.length_map] at h
    rw [h, cond_false] at hd
    have hl : d.edges.length = n.edges.length := by
      simp only [Bool.or_eq_false_iff, Bool.not_eq_false', decide_eq_true_eq] at h
      have := h.2
      omega
    clear h
    refine ⟨Nat, fun i => ⟨[(3, .lp 1 0), (27, .lst 6 (d.edges.map edgeE) false), (28, i64 d.edges.length), (29, i64 i)], [.cells 36 (detE d), .cells 36 (detE n)]⟩, fun i => i ≤ d.edges.length ∧ ∀ j, j < i → okEd d.edges n.edges j = true, fun i => d.edges.length - i, [], ⟨0, ⟨Nat.zero_le _, by omega⟩, ?_⟩, ?_⟩
    · exact ⟨⟨.refl, .refl, dle_int (by simp), .refl, trivial⟩, ⟨.refl, .refl, trivial⟩, rfl⟩
    · intro i ⟨hi, hall⟩
      repeat' ((conv => whnf); first | refine And.intro (fun h => h) ?_ | refine dcond_t (by assumption) ?_ | refine dcond_f (by assumption) ?_ | (refine dcond_intro ?_ ?_ <;> intro h) | exact .refl | refine And.intro (by kernel_rfl) ?_ | refine And.intro ⟨fun h => h, fun h => h⟩ ?_ | (refine And.intro ?_ ?_; focus (simp; done)) | fail)
      · have hlt : i < d.edges.length := by simpa using h
        clear h
        have hlt2 : i < n.edges.length := by omega
        have hg : d.edges.getD i edgeZ = d.edges[i] := by simp [hlt]
        have hg2 : n.edges.getD i edgeZ = n.edges[i] := by simp [hlt2]
        have hok : okEd d.edges n.edges i = !(!decide (d.edges[i].ring = n.edges[i].ring) || !decide (d.edges[i].subj = n.edges[i].subj) || !winB d.edges[i].win) := by
          simp only [okEd, hg, hg2]
        have ew := c_probe_ValidWindow d.edges[i].win
        generalize winB d.edges[i].win = wb at ew hok
        repeat' ((conv => whnf); first | refine And.intro (fun h => h) ?_ | refine dcond_t (by assumption) ?_ | refine dcond_f (by assumption) ?_ | (refine dcond_intro ?_ ?_ <;> intro h) | exact .refl | refine And.intro (by kernel_rfl) ?_ | refine And.intro ⟨fun h => h, fun h => h⟩ ?_ | refine ⟨_, _, And.intro ⟨rfl, get_map hlt⟩ ?_⟩ | refine ⟨_, _, And.intro ⟨rfl, get_map hlt2⟩ ?_⟩ | refine .inl ⟨_, _, DleAll_refl _, ew, ?_⟩ | refine ⟨_, _, DleAll_refl _, fun _ => ew, ?_⟩ | refine ⟨_, _, DleAll_refl _, ew, ?_⟩ | refine ⟨i, edgeE (n.edges[i]'hlt2), And.intro ⟨⟨fun h => h, fun h => h⟩, fun hg => ⟨rfl, get_map hlt2⟩⟩ ?_⟩ | (refine And.intro ?_ ?_; focus (simp; done)) | fail)
        all_goals (conv => whnf)
        · rw [hd, allB_false hlt (by rw [hok, h]; rfl)]
          exact .refl
        · refine ⟨i + 1, ⟨hlt, fun j hj => ?_⟩, by simp only []; omega, ?_⟩
          · rcases Nat.lt_succ_iff_lt_or_eq.1 hj with hj | rfl
            · exact hall j hj
            · rw [hok, h]; rfl
          · exact ⟨⟨.refl, .refl, .refl, dle_int (wrap_succ (by omega)), trivial⟩, ⟨.refl, .refl, trivial⟩, rfl⟩
      · have hge : ¬ i < d.edges.length := by simpa using h
        conv => whnf
        refine dle_bool ?_
        rw [hd, allB_true.2 (fun j hj => hall j (by omega))]
theorem c_ref5_Valid (d : Det) (hv : d.view.mem.length ≤ maxLen) (he : d.edges.length ≤ maxLen) : Ret Try.prog 23 [.agg (detE d)] (.v (.bool (detB d))) := by
  have he' : d.edges.length ≤ 9223372036854775807 := he
  have en := c_ref5_New d.view hv d.self
  have hd : detB d = bif !decide ((newR d.view d.self).2 = 0) || !decide ((d.edges.length : Int) = ((newR d.view d.self).1.edges.length : Int)) then false else allB (okEd d.edges (newR d.view d.self).1.edges) d.edges.length := rfl
  generalize newR d.view d.self = N at en hd
  obtain ⟨n, e⟩ := N
  have hsym : (!decide (e = 0) || !decide ((n.edges.length : Int) = (d.edges.length : Int))) = (!decide (e = 0) || !decide ((d.edges.length : Int) = (n.edges.length : Int))) := by
    congr 2
    exact decide_eq_decide.2 ⟨Eq.symm, Eq.symm⟩
  refine ret_of_body (fn := Try.f23) (c := Try.f23.body.getD .skip) hm hT (by kernel_rfl) Try.func23 (by kernel_rfl) (by kernel_rfl) (by kernel_rfl) (by kernel_rfl) ?_
  repeat' ((conv => whnf); first | refine And.intro (fun h => h) ?_ | refine dcond_t (by assumption) ?_ | refine dcond_f (by assumption) ?_ | (refine dcond_intro ?_ ?_ <;> intro h) | exact .refl | refine And.intro (by kernel_rfl) ?_ | refine And.intro ⟨fun h => h, fun h => h⟩ ?_ | refine .inl ⟨_, _, DleAll_refl _, en, ?_⟩ | refine ⟨_, _, DleAll_refl _, fun _ => en, ?_⟩ | refine ⟨_, _, DleAll_refl _, en, ?_⟩ | (refine And.intro ?_ ?_; focus (simp; done)) | fail)
  all_goals (conv => whnf)
  · rw [List.length_map, List.length_map, hsym] at h
    rw [hd, h]
    exact .refl
  · rw [List.length_map, List.length_map, hsym] at h
    rw [h, cond_false] at hd
    have hl : d.edges.length = n.edges.length := by
      simp only [Bool.or_eq_false_iff, Bool.not_eq_false', decide_eq_true_eq] at h
      have := h.2
      omega
    clear h
    refine ⟨Nat, fun i => ⟨[(1, .lp 0 0), (3, .lp 1 0), (5, i64 i)], [.cells 36 (detE d), .cells 36 (detE n)]⟩, fun i => i ≤ d.edges.length ∧ ∀ j, j < i → okEd d.edges n.edges j = true, fun i => d.edges.length - i, [], ⟨0, ⟨Nat.zero_le _, by omega⟩, ?_⟩, ?_⟩
    · exact ⟨⟨.refl, .refl, .refl, trivial⟩, ⟨.refl, .refl, trivial⟩, rfl⟩
    · intro i ⟨hi, hall⟩
      repeat' ((conv => whnf); first | refine And.intro (fun h => h) ?_ | refine dcond_t (by assumption) ?_ | refine dcond_f (by assumption) ?_ | (refine dcond_intro ?_ ?_ <;> intro h) | exact .refl | refine And.intro (by kernel_rfl) ?_ | refine And.intro ⟨fun h => h, fun h => h⟩ ?_ | (refine And.intro ?_ ?_; focus (simp; done)) | fail)
      · have hlt : i < d.edges.length := by simpa using h
        clear h
        have hlt2 : i < n.edges.length := by omega
        have hg : d.edges.getD i edgeZ = d.edges[i] := by simp [hlt]
        have hg2 : n.edges.getD i edgeZ = n.edges[i] := by simp [hlt2]
        have hok : okEd d.edges n.edges i = !(!decide (d.edges[i].ring = n.edges[i].ring) || !decide (d.edges[i].subj = n.edges[i].subj) || !winB d.edges[i].win) := by
          simp only [okEd, hg, hg2]
        have ew := c_ref5_ValidWindow d.edges[i].win
        generalize winB d.edges[i].win = wb at ew hok
        repeat' ((conv => whnf); first | refine And.intro (fun h => h) ?_ | refine dcond_t (by assumption) ?_ | refine dcond_f (by assumption) ?_ | (refine dcond_intro ?_ ?_ <;> intro h) | exact .refl | refine And.intro (by kernel_rfl) ?_ | refine And.intro ⟨fun h => h, fun h => h⟩ ?_ | refine ⟨_, _, And.intro ⟨rfl, get_map hlt⟩ ?_⟩ | refine ⟨_, _, And.intro ⟨rfl, get_map hlt2⟩ ?_⟩ | refine .inl ⟨_, _, DleAll_refl _, ew, ?_⟩ | refine ⟨_, _, DleAll_refl _, fun _ => ew, ?_⟩ | refine ⟨_, _, DleAll_refl _, ew, ?_⟩ | refine ⟨i, edgeE (n.edges[i]'hlt2), And.intro ⟨⟨fun h => h, fun h => h⟩, fun hg => ⟨rfl, get_map hlt2⟩⟩ ?_⟩ | (refine And.intro ?_ ?_; focus (simp; done)) | fail)
        all_goals (conv => whnf)
        · rw [hd, allB_false hlt (by rw [hok, h]; rfl)]
          exact .refl
        · refine ⟨i + 1, ⟨hlt, fun j hj => ?_⟩, by simp only []; omega, ?_⟩
          · rcases Nat.lt_succ_iff_lt_or_eq.1 hj with hj | rfl
            · exact hall j hj
            · rw [hok, h]; rfl
          · exact ⟨⟨.refl, .refl, dle_int (wrap_succ (by omega)), trivial⟩, ⟨.refl, .refl, trivial⟩, rfl⟩
      · have hge : ¬ i < d.edges.length := by simpa using h
        conv => whnf
        refine dle_bool ?_
        rw [hd, allB_true.2 (fun j hj => hall j (by omega))]
end Go.Proofs.Ytdajfimollbnlaa

set_option linter.unusedSimpArgs false
set_option linter.unusedVariables false
namespace Go.Proofs.Ytdajfimollbnlaa
open Go.Lift
def mapTo {α : Type} (f : α → α) (l : List α) (i : Nat) : List α := (l.take i).map f ++ l.drop i
theorem mapTo_len {α : Type} (f : α → α) (l : List α) (i : Nat) : (mapTo f l i).length = l.length := by
  simp [mapTo]; omega
theorem mapTo_get {α : Type} {f : α → α} {l : List α} {i : Nat} (h : i < l.length) : (mapTo f l i)[i]'(by rw [mapTo_len]; exact h) = l[i] := by
  have hl : ((l.take i).map f).length = i := by simp; omega
  simp only [mapTo]
  rw [List.getElem_append_right (by omega)]
  simp only [hl, Nat.sub_self, List.getElem_drop, Nat.add_zero]
theorem mapTo_set {α : Type} {f : α → α} {l : List α} {i : Nat} (h : i < l.length) : (mapTo f l i).set i (f l[i]) = mapTo f l (i + 1) := by
  have hl : ((l.take i).map f).length = i := by simp; omega
  unfold mapTo
  rw [List.set_append_right _ _ (by omega), hl, Nat.sub_self, List.drop_eq_getElem_cons h, List.set_cons_zero, List.take_succ_eq_append_getElem h, List.map_append]
  simp
theorem mapTo_zero {α : Type} (f : α → α) (l : List α) : mapTo f l 0 = l := by simp [mapTo]
theorem mapTo_all {α : Type} (f : α → α) (l : List α) : mapTo f l l.length = l.map f := by simp [mapTo]
theorem fitsE' {n : Nat} (h : n ≤ 2000000) : n * (tinfo tt 58).bytes ≤ 140737488355328 ∧ n ≤ maxLen := fitsE h
theorem fitsI' {n : Nat} (h : n ≤ 2000000) : n * (tinfo tt 3).bytes ≤ 140737488355328 ∧ n ≤ maxLen := fitsI h
theorem copy_all {l : List (List DV)} {z : List DV} : l.take (List.replicate l.length z).length ++ (List.replicate l.length z).drop l.length = l := by
  rw [List.length_replicate, List.drop_of_length_le (Nat.le_of_eq (List.length_replicate ..)), List.append_nil, List.take_of_length_le (Nat.le_refl _)]
theorem m_probe_clone (d : Det) (hv : d.view.mem.length ≤ 1000000) (he : d.edges.length ≤ 1000000) :
    RetM Try.prog 35 [] [.agg (detE d)] [] [.dead, .dead, .row 3 1 (d.view.mem.map intE), .row 58 6 (d.edges.map edgeE)] (.agg [i64 d.self, i64 d.view.num, .own 2, .own 3]) := by
  have f1 := fitsI' (n := (d.view.mem.map intE).length) (by simp; omega)
  have f2 := fitsE' (n := (d.edges.map edgeE).length) (by simp; omega)
  refine retM_of_body (fn := Try.f35) (c := Try.f35.body.getD .skip) hm hT (by kernel_rfl) Try.func35 (by kernel_rfl) (by kernel_rfl) (by kernel_rfl) (by kernel_rfl) (by kernel_rfl) ?_
  repeat' ((conv => whnf); first | refine And.intro (fun h => h) ?_ | refine dcond_t (by assumption) ?_ | refine dcond_f (by assumption) ?_ | (refine dcond_intro ?_ ?_ <;> intro h) | exact .refl | refine And.intro (by kernel_rfl) ?_ | refine And.intro ⟨fun h => h, fun h => h⟩ ?_ | refine ⟨(d.view.mem.map intE).length, (d.view.mem.map intE).length, rfl, rfl, Nat.le_refl _, f1.1, f1.2, ?_⟩ | refine ⟨(d.edges.map edgeE).length, (d.edges.map edgeE).length, rfl, rfl, Nat.le_refl _, f2.1, f2.2, ?_⟩ | (refine And.intro ?_ ?_; focus (simp; done)) | fail)
  all_goals (conv => whnf)
  exact ⟨.refl, ⟨.dead, .dead, ole_row copy_all, ole_row copy_all, trivial⟩, by rfl⟩
end Go.Proofs.Ytdajfimollbnlaa

set_option linter.unusedSimpArgs false
set_option linter.unusedVariables false
namespace Go.Proofs.Ytdajfimollbnlaa
open Go.Lift
theorem det_in {d : Det} (h : detB d = true) : viewB d.view = true ∧ inB d.view.mem d.self = true ∧ d.edges.length = (subjR d.view.mem d.self).length := by
  unfold detB at h
  rw [newR] at h
  cases hc : (!viewB d.view || !inB d.view.mem d.self)
  · rw [hc] at h
    simp only [cond_false] at h
    simp only [Bool.or_eq_false_iff, Bool.not_eq_false'] at hc
    refine ⟨hc.1, hc.2, ?_⟩
    simp only [edgesAt_len] at h
    by_cases hd : d.edges.length = (subjR d.view.mem d.self).length
    · exact hd
    · have : decide ((d.edges.length : Int) = ((subjR d.view.mem d.self).length : Int)) = false := decide_eq_false (by omega)
      rw [this, Bool.not_false, Bool.or_true] at h
      exact absurd h (by simp)
  · rw [hc] at h
    simp at h
theorem det_len {d : Det} (h : detB d = true) : d.view.mem.length ≤ 16 ∧ d.edges.length ≤ 5 := by
  have a := det_in h
  have b := subj_len d.view.mem d.self
  exact ⟨(view_len a.1).2, by omega⟩
def heardE (i : Int) (e : Edge) : Edge := bif decide (e.subj = i) then ⟨e.ring, e.subj, true, e.rep, e.win⟩ else e
def heardR (d : Det) (i : Int) : Det := bif !detB d then det0 else ⟨d.self, d.view, d.edges.map (heardE i)⟩
theorem c_probe_Heard (d : Det) (hv : d.view.mem.length ≤ maxLen) (he : d.edges.length ≤ maxLen) (id : Int) : Ret Try.prog 24 [.agg (detE d), i64 id] (.agg (detE (heardR d id))) := by
  have e1 := c_probe_Valid d hv he
  refine ret_of_body (fn := Try.f24) (c := Try.f24.body.getD .skip) hm hT (by kernel_rfl) Try.func24 (by kernel_rfl) (by kernel_rfl) (by kernel_rfl) (by kernel_rfl) ?_
  repeat' ((conv => whnf); first | refine And.intro (fun h => h) ?_ | refine dcond_t (by assumption) ?_ | refine dcond_f (by assumption) ?_ | (refine dcond_intro ?_ ?_ <;> intro h) | exact .refl | refine And.intro (by kernel_rfl) ?_ | refine And.intro ⟨fun h => h, fun h => h⟩ ?_ | refine .inl ⟨_, _, DleAll_refl _, e1, ?_⟩ | refine ⟨_, _, DleAll_refl _, fun _ => e1, ?_⟩ | refine ⟨_, _, DleAll_refl _, e1, ?_⟩ | (refine And.intro ?_ ?_; focus (simp; done)) | fail)
  all_goals (conv => whnf)
  · rw [heardR, h]
    exact dle_aggA ⟨.refl, .refl, .nl, .nl, trivial⟩
  · have hdt : detB d = true := by simpa using h
    have hl := det_len hdt
    rw [heardR, h, cond_false]
    refine .inr ⟨[], [], _, [], _, _, m_probe_clone d (by omega) (by omega), by rfl, trivial, ⟨.refl, trivial⟩, ?_⟩
    clear h
    repeat' ((conv => whnf); first | refine And.intro (fun h => h) ?_ | refine dcond_t (by assumption) ?_ | refine dcond_f (by assumption) ?_ | (refine dcond_intro ?_ ?_ <;> intro h) | exact .refl | refine And.intro (by kernel_rfl) ?_ | refine And.intro ⟨fun h => h, fun h => h⟩ ?_ | (refine And.intro ?_ ?_; focus (simp; done)) | fail)
    all_goals (conv => whnf)
    refine ⟨Nat, fun i => ⟨[(1, i64 id), (4, .lp 1 0), (5, .lp 6 0), (15, i64 d.edges.length), (16, i64 i)], [.cells 36 (detE d), .cells 36 [i64 0, i64 0, .nl, .nl], .dead, .dead, .row 3 1 (d.view.mem.map intE), .row 58 6 ((mapTo (heardE id) d.edges i).map edgeE), .cells 36 [i64 d.self, i64 d.view.num, .own 4, .own 5]]⟩, fun i => i ≤ d.edges.length, fun i => d.edges.length - i, [], ⟨0, Nat.zero_le _, ?_⟩, ?_⟩
    · conv => whnf
      exact ⟨⟨.refl, .refl, .refl, dle_int (by simp), .refl, trivial⟩, ⟨.refl, .refl, .refl, .refl, .refl, .refl, .refl, trivial⟩, by rfl⟩
    · intro i hi
      repeat' ((conv => whnf); first | refine And.intro (fun h => h) ?_ | refine dcond_t (by assumption) ?_ | refine dcond_f (by assumption) ?_ | (refine dcond_intro ?_ ?_ <;> intro h) | exact .refl | refine And.intro (by kernel_rfl) ?_ | refine And.intro ⟨fun h => h, fun h => h⟩ ?_ | (refine And.intro ?_ ?_; focus (simp; done)) | fail)
      · have hlt : i < d.edges.length := by simpa using h
        clear h
        have hlm : i < (mapTo (heardE id) d.edges i).length := by rw [mapTo_len]; exact hlt
        have hge := mapTo_get (f := heardE id) hlt
        have hse := mapTo_set (f := heardE id) hlt
        have hgm : ((mapTo (heardE id) d.edges i).map edgeE)[i]? = some (edgeE d.edges[i]) := by rw [← hge]; exact get_map hlm
        have hl2 : i < ((mapTo (heardE id) d.edges i).map edgeE).length := by rw [List.length_map]; exact hlm
        have hf : heardE id d.edges[i] = bif decide (d.edges[i].subj = id) then ⟨d.edges[i].ring, d.edges[i].subj, true, d.edges[i].rep, d.edges[i].win⟩ else d.edges[i] := rfl
        repeat' ((conv => whnf); first | refine And.intro (fun h => h) ?_ | refine dcond_t (by assumption) ?_ | refine dcond_f (by assumption) ?_ | (refine dcond_intro ?_ ?_ <;> intro h) | exact .refl | refine And.intro (by kernel_rfl) ?_ | refine And.intro ⟨fun h => h, fun h => h⟩ ?_ | refine ⟨i, And.intro ⟨rfl, hl2⟩ ?_⟩ | refine ⟨edgeE d.edges[i], And.intro hgm ?_⟩ | refine ⟨edgeE d.edges[i], hgm, ?_⟩ | (refine And.intro ?_ ?_; focus (simp; done)) | fail)
        all_goals (conv => whnf)
        all_goals refine ⟨i + 1, hlt, by simp only []; omega, ?_⟩
        all_goals (conv => whnf)
        all_goals refine ⟨⟨.refl, .refl, .refl, .refl, dle_int (wrap_succ (by omega)), trivial⟩, ⟨.refl, .refl, .refl, .refl, .refl, ole_row ?_, .refl, trivial⟩, by rfl⟩
        all_goals rw [← hse, hf, h]
        · rw [cond_true, List.map_set]
          rfl
        · rw [cond_false]
          conv => rhs; rw [← hge, List.set_getElem_self]
      · have : i = d.edges.length := by
          simp at h
          omega
        subst this
        rw [mapTo_all]
        repeat' ((conv => whnf); first | refine And.intro (fun h => h) ?_ | refine dcond_t (by assumption) ?_ | refine dcond_f (by assumption) ?_ | (refine dcond_intro ?_ ?_ <;> intro h) | exact .refl | refine And.intro (by kernel_rfl) ?_ | refine And.intro ⟨fun h => h, fun h => h⟩ ?_ | (refine And.intro ?_ ?_; focus (simp; done)) | fail)
def tickE (e : Edge) : Edge := ⟨e.ring, e.subj, false, e.rep || failR (recR e.win e.heard), recR e.win e.heard⟩
def hitE (e : Edge) : Bool := failR (recR e.win e.heard) && !e.rep
def alrOf (d : Det) (e : Edge) : Alr := ⟨d.view.num, e.ring, d.self, e.subj⟩
def alsAt (d : Det) (i : Nat) : List Alr := ((d.edges.take i).filter hitE).map (alrOf d)
theorem alsAt_succ (d : Det) (i : Nat) (h : i < d.edges.length) : alsAt d (i + 1) = alsAt d i ++ bif hitE d.edges[i] then [alrOf d d.edges[i]] else [] := by
  unfold alsAt
  rw [List.take_succ_eq_append_getElem h, List.filter_append, List.map_append]
  cases hh : hitE d.edges[i] <;> simp [hh]
theorem alsAt_len (d : Det) (i : Nat) : (alsAt d i).length ≤ i := by
  unfold alsAt
  rw [List.length_map]
  exact Nat.le_trans (List.length_filter_le ..) (by simp; omega)
def tickR (d : Det) : Det × List Alr := bif !detB d then (det0, []) else (⟨d.self, d.view, d.edges.map tickE⟩, alsAt d d.edges.length)
theorem fitsA {n : Nat} (h : n ≤ 2000000) : fitsIn tt 52 n := by
  have e : (tinfo tt 52).bytes = 32 := by kernel_rfl
  refine ⟨?_, ?_⟩
  · rw [e]; omega
  · simp only [maxLen]; omega
theorem gset {α : Type} {l : List α} {i : Nat} {x : α} (h : i < l.length) : (l.set i x)[i]? = some x := by simp [h]
theorem c_probe_Tick (d : Det) (hv : d.view.mem.length ≤ maxLen) (he : d.edges.length ≤ maxLen) (hb : ∀ e ∈ d.edges, 0 ≤ e.win.bits) : Ret Try.prog 19 [.agg (detE d)] (.tup [.agg (detE (tickR d).1), .lst 4 ((tickR d).2.map alE) false]) := by
  have e1 := c_probe_Valid d hv he
  refine ret_of_body (fn := Try.f19) (c := Try.f19.body.getD .skip) hm hT (by kernel_rfl) Try.func19 (by kernel_rfl) (by kernel_rfl) (by kernel_rfl) (by kernel_rfl) ?_
  repeat' ((conv => whnf); first | refine And.intro (fun h => h) ?_ | refine dcond_t (by assumption) ?_ | refine dcond_f (by assumption) ?_ | (refine dcond_intro ?_ ?_ <;> intro h) | exact .refl | refine And.intro (by kernel_rfl) ?_ | refine And.intro ⟨fun h => h, fun h => h⟩ ?_ | refine .inl ⟨_, _, DleAll_refl _, e1, ?_⟩ | refine ⟨_, _, DleAll_refl _, fun _ => e1, ?_⟩ | refine ⟨_, _, DleAll_refl _, e1, ?_⟩ | (refine And.intro ?_ ?_; focus (simp; done)) | fail)
  all_goals (conv => whnf)
  · rw [tickR, h]
    exact dle_tupA ⟨dle_aggA ⟨.refl, .refl, .nl, .nl, trivial⟩, .nl, trivial⟩
  · have hdt : detB d = true := by simpa using h
    have hl := det_len hdt
    rw [tickR, h, cond_false]
    refine .inr ⟨[], [], _, [], _, _, m_probe_clone d (by omega) (by omega), by rfl, trivial, ⟨.refl, trivial⟩, ?_⟩
    clear h
    repeat' ((conv => whnf); first | refine And.intro (fun h => h) ?_ | refine dcond_t (by assumption) ?_ | refine dcond_f (by assumption) ?_ | (refine dcond_intro ?_ ?_ <;> intro h) | exact .refl | refine And.intro (by kernel_rfl) ?_ | refine And.intro ⟨fun h => h, fun h => h⟩ ?_ | (refine And.intro ?_ ?_; focus (simp; done)) | fail)
    all_goals (conv => whnf)
    refine ⟨Nat, fun i => ⟨[(2, .lp 1 0), (4, .lp 6 0), (5, .own 7), (16, i64 d.edges.length), (17, i64 i)], [.cells 36 (detE d), .cells 36 [i64 0, i64 0, .nl, .nl], .dead, .dead, .row 3 1 (d.view.mem.map intE), .row 58 6 ((mapTo tickE d.edges i).map edgeE), .cells 36 [i64 d.self, i64 d.view.num, .own 4, .own 5], .row 52 4 ((alsAt d i).map alE)]⟩, fun i => i ≤ d.edges.length, fun i => d.edges.length - i, [.slot 5 52 4], ⟨0, Nat.zero_le _, ?_⟩, ?_⟩
    · conv => whnf
      exact ⟨⟨.refl, .refl, .refl, dle_int (by simp), .refl, trivial⟩, ⟨.refl, .refl, .refl, .refl, .refl, .refl, .refl, .refl, trivial⟩, by rfl⟩
    · intro i hi
      repeat' ((conv => whnf); first | refine And.intro (fun h => h) ?_ | refine dcond_t (by assumption) ?_ | refine dcond_f (by assumption) ?_ | (refine dcond_intro ?_ ?_ <;> intro h) | exact .refl | refine And.intro (by kernel_rfl) ?_ | refine And.intro ⟨fun h => h, fun h => h⟩ ?_ | (refine And.intro ?_ ?_; focus (simp; done)) | fail)
      · have hlt : i < d.edges.length := by simpa using h
        clear h
        have hlm : i < (mapTo tickE d.edges i).length := by rw [mapTo_len]; exact hlt
        have hge := mapTo_get (f := tickE) hlt
        have hse := mapTo_set (f := tickE) hlt
        have hsa := alsAt_succ d i hlt
        have hla := alsAt_len d i
        have hgm : ((mapTo tickE d.edges i).map edgeE)[i]? = some (edgeE d.edges[i]) := by rw [← hge]; exact get_map hlm
        have hfa : ((alsAt d i).map alE).length + 1 ≤ 2000000 := by rw [List.length_map]; omega
        have hl2 : i < ((mapTo tickE d.edges i).map edgeE).length := by rw [List.length_map]; exact hlm
        have hbi := hb d.edges[i] (List.getElem_mem hlt)
        have hbr := rec_rng (w := d.edges[i].win) hbi d.edges[i].heard
        have er := c_probe_Record d.edges[i].win hbi d.edges[i].heard
        have ef := c_probe_Failing (recR d.edges[i].win d.edges[i].heard) hbr
        have htk : tickE d.edges[i] = ⟨d.edges[i].ring, d.edges[i].subj, false, d.edges[i].rep || failR (recR d.edges[i].win d.edges[i].heard), recR d.edges[i].win d.edges[i].heard⟩ := rfl
        have hht : hitE d.edges[i] = (failR (recR d.edges[i].win d.edges[i].heard) && !d.edges[i].rep) := rfl
        have hal : alrOf d d.edges[i] = ⟨d.view.num, d.edges[i].ring, d.self, d.edges[i].subj⟩ := rfl
        generalize hx : d.edges[i] = x at *
        obtain ⟨xr, xs, xh, xp, xw⟩ := x
        simp only [] at hgm hbi hbr er ef htk hht hal
        generalize recR xw xh = w at *
        generalize failR w = fl at *
        repeat' ((conv => whnf); first | refine And.intro (fun h => h) ?_ | refine dcond_t (by assumption) ?_ | refine dcond_f (by assumption) ?_ | (refine dcond_intro ?_ ?_ <;> intro h) | exact .refl | refine And.intro (by kernel_rfl) ?_ | refine And.intro ⟨fun h => h, fun h => h⟩ ?_ | refine ⟨i, And.intro ⟨rfl, hl2⟩ ?_⟩ | refine ⟨edgeE ⟨xr, xs, xh, xp, xw⟩, And.intro hgm ?_⟩ | refine ⟨edgeE ⟨xr, xs, xh, xp, xw⟩, hgm, ?_⟩ | refine ⟨edgeE ⟨xr, xs, xh, xp, w⟩, gset hl2, ?_⟩ | refine ⟨edgeE ⟨xr, xs, xh, xp, w⟩, And.intro (gset hl2) ?_⟩ | refine ⟨edgeE ⟨xr, xs, false, xp, w⟩, And.intro (gset (by simpa using hl2)) ?_⟩ | refine ⟨edgeE ⟨xr, xs, false, xp, w⟩, gset (by simpa using hl2), ?_⟩ | refine ⟨edgeE ⟨xr, xs, false, true, w⟩, And.intro (gset (by simpa using hl2)) ?_⟩ | refine ⟨edgeE ⟨xr, xs, false, xp, w⟩, And.intro ⟨fun h => h, fun _ => gset (by simpa using hl2)⟩ ?_⟩ | refine ⟨edgeE ⟨xr, xs, false, xp, w⟩, And.intro (fun _ => gset (by simpa using hl2)) ?_⟩ | refine And.intro (fitsA hfa) ?_ | refine .inl ⟨_, _, DleAll_refl _, er, ?_⟩ | refine ⟨_, _, DleAll_refl _, fun _ => er, ?_⟩ | refine ⟨_, _, DleAll_refl _, er, ?_⟩ | refine .inl ⟨_, _, DleAll_refl _, ef, ?_⟩ | refine ⟨_, _, DleAll_refl _, fun _ => ef, ?_⟩ | refine ⟨_, _, DleAll_refl _, ef, ?_⟩ | (refine And.intro ?_ ?_; focus (simp; done)) | fail)
        all_goals (conv => whnf)
        all_goals refine ⟨i + 1, hlt, by simp only []; omega, ?_⟩
        all_goals (conv => whnf)
        all_goals refine ⟨⟨.refl, .refl, .refl, .refl, dle_int (wrap_succ (by omega)), trivial⟩, ⟨.refl, .refl, .refl, .refl, .refl, ole_row ?_, .refl, ole_row ?_, trivial⟩, by rfl⟩
        · rw [List.set_set, List.set_set, ← hse, htk, List.map_set]
          have hpf : (xp || fl) = true := by
            cases xp <;> cases fl <;> simp_all
          rw [hpf]
          rfl
        · rw [hsa, hht, h, cond_true, List.map_append, hal]
          rfl
        · rw [List.set_set, ← hse, htk, List.map_set]
          have hpf : (xp || fl) = xp := by
            cases xp <;> cases fl <;> simp_all
          rw [hpf]
          rfl
        · rw [hsa, hht, h, cond_false, List.append_nil]
      · have : i = d.edges.length := by
          simp at h
          omega
        subst this
        rw [mapTo_all]
        repeat' ((conv => whnf); first | refine And.intro (fun h => h) ?_ | refine dcond_t (by assumption) ?_ | refine dcond_f (by assumption) ?_ | (refine dcond_intro ?_ ?_ <;> intro h) | exact .refl | refine And.intro (by kernel_rfl) ?_ | refine And.intro ⟨fun h => h, fun h => h⟩ ?_ | (refine And.intro ?_ ?_; focus (simp; done)) | fail)
end Go.Proofs.Ytdajfimollbnlaa

set_option linter.unusedSimpArgs false
set_option linter.unusedVariables false
namespace Go.Proofs.Ytdajfimollbnlaa
open Go.Lift
  deriving instance DecidableEq for Win, Edge, View, Det
def awV : View := ⟨3, [1, 2]⟩
theorem pair12 {cf : Int → Int → Int} : sortL cf [1, 2] = [1, 2] ∨ sortL cf [1, 2] = [2, 1] := by
  have p := sortL_perm cf [1, 2]
  generalize sortL cf [1, 2] = s at p
  have hl := p.length_eq
  match s, hl with
  | [a, b], _ =>
    have ha : a ∈ [(1 : Int), 2] := p.mem_iff.1 (by simp)
    have hb : b ∈ [(1 : Int), 2] := p.mem_iff.1 (by simp)
    have hn : ([a, b] : List Int).Nodup := p.nodup_iff.2 (by decide)
    simp only [List.mem_cons, List.not_mem_nil, or_false] at ha hb
    simp only [List.nodup_cons, List.mem_cons, List.not_mem_nil, or_false] at hn
    rcases ha with rfl | rfl <;> rcases hb with rfl | rfl <;> simp_all
theorem nxt12 (r : Nat) (h : r < 5) : nxtR (orderR [1, 2] r) 1 = 2 := by
  rw [order_in (by kernel_rfl) (by omega) (by omega)]
  rcases pair12 (cf := cmpPos r) with e | e <;> rw [e] <;> kernel_rfl
theorem subj12 : subjR [1, 2] 1 = [2, 2, 2, 2, 2] := by
  have hg : (!idsB [1, 2] 16 || !inB [1, 2] 1 || decide ((([1, 2] : List Int).length : Int) = 1)) = false := by kernel_rfl
  rw [subjR, hg, cond_false, subjAt]
  have e : (List.range 5) = [0, 1, 2, 3, 4] := by kernel_rfl
  rw [e]
  simp only [List.map_cons, List.map_nil]
  rw [nxt12 0 (by decide), nxt12 1 (by decide), nxt12 2 (by decide), nxt12 3 (by decide), nxt12 4 (by decide)]
def awN (i : Nat) : Det := ⟨1, awV, (List.range 5).map fun (k : Nat) => ⟨(k : Nat), 2, false, decide (i = 10), ⟨2 ^ i - 1, i⟩⟩⟩
theorem aw_new : newR awV 1 = (awN 0, 0) := by
  have hg : (!viewB awV || !inB awV.mem 1) = false := by kernel_rfl
  rw [newR, hg, cond_false]
  show ((⟨1, awV, edgesAt (subjR [1, 2] 1) (subjR [1, 2] 1).length⟩ : Det), (0 : Int)) = _
  rw [subj12]
  kernel_rfl
theorem det_aw (E : List Edge) : detB ⟨1, awV, E⟩ = bif !decide ((E.length : Int) = 5) then false else allB (okEd E (awN 0).edges) E.length := by
  unfold detB
  show (bif !decide ((newR awV 1).2 = 0) || !decide ((E.length : Int) = ((newR awV 1).1.edges.length : Int)) then false else allB (okEd E (newR awV 1).1.edges) E.length) = _
  have : (awN 0).edges.length = 5 := by kernel_rfl
  simp only [aw_new, this]
  rfl
theorem aw_ok : ∀ i : Fin 11, (bif !decide (((awN i.1).edges.length : Int) = 5) then false else allB (okEd (awN i.1).edges (awN 0).edges) (awN i.1).edges.length) = true := by decide +kernel
theorem aw_tick0 : ∀ i : Fin 10, ((awN i.1).edges.map tickE = (awN (i.1 + 1)).edges) ∧ (alsAt (awN i.1) (awN i.1).edges.length).length = if i.1 = 9 then 5 else 0 := by decide +kernel
theorem aw_tick {i : Nat} (h : i < 10) : (tickR (awN i)).1 = awN (i + 1) ∧ (tickR (awN i)).2.length = if i = 9 then 5 else 0 := by
  have h1 := aw_ok ⟨i, by omega⟩
  have h2 := aw_tick0 ⟨i, h⟩
  have hd : detB (awN i) = true := (det_aw (awN i).edges).trans h1
  rw [tickR, hd, Bool.not_true, cond_false]
  refine ⟨?_, h2.2⟩
  show (⟨1, awV, _⟩ : Det) = _
  rw [h2.1]
  rfl
theorem aw_bits {i : Nat} (h : i ≤ 10) : ∀ e ∈ (awN i).edges, 0 ≤ e.win.bits := by
  have : ∀ i : Fin 11, ∀ e ∈ (awN i.1).edges, 0 ≤ e.win.bits := by decide +kernel
  exact this ⟨i, by omega⟩
theorem c_awake : Ret Try.prog 9 [] (.v (.bool true)) := by
  have e1 := c_probe_New awV (by decide) 1
  have hN := aw_new
  generalize newR awV 1 = N at e1 hN
  obtain ⟨n, e⟩ := N
  simp only [] at e1
  injection hN with hn he
  refine ret_of_body (fn := Try.f9) (c := Try.f9.body.getD .skip) hm hT (by kernel_rfl) Try.func9 (by kernel_rfl) (by kernel_rfl) (by kernel_rfl) (by kernel_rfl) ?_
  repeat' ((conv => whnf); first | refine And.intro (fun h => h) ?_ | refine dcond_t (by assumption) ?_ | refine dcond_f (by assumption) ?_ | (refine dcond_intro ?_ ?_ <;> intro h) | exact .refl | refine And.intro (by kernel_rfl) ?_ | refine And.intro ⟨fun h => h, fun h => h⟩ ?_ | refine .inl ⟨_, _, DleAll_refl _, e1, ?_⟩ | refine ⟨_, _, DleAll_refl _, fun _ => e1, ?_⟩ | refine ⟨_, _, DleAll_refl _, e1, ?_⟩ | (refine And.intro ?_ ?_; focus (simp; done)) | fail)
  · subst hn he
    have : (awN 0).edges.length = 5 := by kernel_rfl
    simp [this] at h
  · clear h
    subst hn
    repeat' ((conv => whnf); first | refine And.intro (fun h => h) ?_ | refine dcond_t (by assumption) ?_ | refine dcond_f (by assumption) ?_ | (refine dcond_intro ?_ ?_ <;> intro h) | exact .refl | refine And.intro (by kernel_rfl) ?_ | refine And.intro ⟨fun h => h, fun h => h⟩ ?_ | (refine And.intro ?_ ?_; focus (simp; done)) | fail)
    all_goals (conv => whnf)
    refine ⟨Nat, fun i => ⟨[(1, .lp 1 0), (3, i64 (if i = 10 then 5 else 0)), (4, i64 i)], [.dead, .cells 36 (detE (awN i))]⟩, fun i => i ≤ 10, fun i => 10 - i, [], ⟨0, Nat.zero_le _, ?_⟩, ?_⟩
    · conv => whnf
      exact ⟨⟨.refl, .refl, .refl, trivial⟩, ⟨.refl, .refl, trivial⟩, by rfl⟩
    · intro i hi
      have hvl : (awN i).view.mem.length ≤ maxLen := by
        show 2 ≤ maxLen
        decide
      have hel : (awN i).edges.length = 5 := by simp [awN]
      have et := c_probe_Tick (awN i) hvl (by rw [hel]; decide) (aw_bits hi)
      by_cases hc : i < 10
      · have ht := aw_tick hc
        rw [ht.1] at et
        generalize (tickR (awN i)).2 = A at et ht
        have hl : A.length = if i = 9 then 5 else 0 := ht.2
        repeat' ((conv => whnf); first | refine And.intro (fun h => h) ?_ | refine dcond_t (by assumption) ?_ | refine dcond_f (by assumption) ?_ | (refine dcond_intro ?_ ?_ <;> intro h) | exact .refl | refine And.intro (by kernel_rfl) ?_ | refine And.intro ⟨fun h => h, fun h => h⟩ ?_ | refine .inl ⟨_, _, DleAll_refl _, et, ?_⟩ | refine ⟨_, _, DleAll_refl _, fun _ => et, ?_⟩ | refine ⟨_, _, DleAll_refl _, et, ?_⟩ | (refine And.intro ?_ ?_; focus (simp; done)) | fail)
        · exfalso
          simp only [Bool.and_eq_true, decide_eq_true_eq, List.length_map] at h
          rw [hl, if_neg (by omega)] at h
          omega
        · conv => whnf
          refine ⟨i + 1, by simp only []; omega, by simp only []; omega, ?_⟩
          conv => whnf
          refine ⟨⟨.refl, dle_int ?_, dle_int (wrap_succ (by omega)), trivial⟩, ⟨.refl, .refl, trivial⟩, by rfl⟩
          rw [List.length_map, hl]
          clear h
          by_cases h9 : i = 9
          · subst h9
            decide
          · rw [if_neg h9, if_neg (by omega), if_neg (by omega)]
            decide
        · exfalso
          simp at h
          omega
      · have : i = 10 := by omega
        subst this
        have ef1 := c_probe_Failing ⟨15, 10⟩ (by decide)
        have ef2 := c_probe_Failing ⟨7, 10⟩ (by decide)
        have v1 : failR ⟨15, 10⟩ = true := by kernel_rfl
        have v2 : failR ⟨7, 10⟩ = false := by kernel_rfl
        rw [v1] at ef1
        rw [v2] at ef2
        have he0 : ((awN 10).edges.map edgeE)[0]? = some (edgeE ⟨0, 2, false, true, ⟨1023, 10⟩⟩) := by kernel_rfl
        repeat' ((conv => whnf); first | refine And.intro (fun h => h) ?_ | refine dcond_t (by assumption) ?_ | refine dcond_f (by assumption) ?_ | (refine dcond_intro ?_ ?_ <;> intro h) | exact .refl | refine And.intro (by kernel_rfl) ?_ | refine And.intro ⟨fun h => h, fun h => h⟩ ?_ | refine .inl ⟨_, _, DleAll_refl _, ef1, ?_⟩ | refine ⟨_, _, DleAll_refl _, fun _ => ef1, ?_⟩ | refine ⟨_, _, DleAll_refl _, ef1, ?_⟩ | refine .inl ⟨_, _, DleAll_refl _, ef2, ?_⟩ | refine ⟨_, _, DleAll_refl _, fun _ => ef2, ?_⟩ | refine ⟨_, _, DleAll_refl _, ef2, ?_⟩ | refine ⟨0, edgeE ⟨0, 2, false, true, ⟨1023, 10⟩⟩, And.intro ⟨fun h => h, fun _ => ⟨rfl, he0⟩⟩ ?_⟩ | refine ⟨0, edgeE ⟨0, 2, false, true, ⟨1023, 10⟩⟩, And.intro ⟨⟨fun h => h, fun h => h⟩, fun _ => ⟨rfl, he0⟩⟩ ?_⟩ | (refine And.intro ?_ ?_; focus (simp; done)) | fail)
        all_goals (conv => whnf)
end Go.Proofs.Ytdajfimollbnlaa

set_option linter.unusedSimpArgs false
set_option linter.unusedVariables false
namespace Go.Proofs.Ytdajfimollbnlaa
open Go.Lift
theorem r3 (w : Win) (hb : 0 ≤ w.bits) (ok : Bool) : Ret Try.prog 3 [.agg (winE w), .v (.bool ok)] (.v (.bool true)) := by
  have e1 := c_probe_ValidWindow w
  have e2 := c_ref5_ValidWindow w
  have e3 := c_probe_Record w hb ok
  have e4 := c_ref5_Record w hb ok
  have e5 := c_probe_Failing w hb
  have e6 := c_ref5_Failing w hb
  generalize winB w = b1 at *
  generalize recR w ok = b2 at *
  generalize failR w = b3 at *
  refine ret_of_body (fn := Try.f3) (c := Try.f3.body.getD .skip) hm hT (by kernel_rfl) Try.func3 (by kernel_rfl) (by kernel_rfl) (by kernel_rfl) (by kernel_rfl) ?_
  repeat' ((conv => whnf); first | refine And.intro (fun h => h) ?_ | refine dcond_t (by assumption) ?_ | refine dcond_f (by assumption) ?_ | (refine dcond_intro ?_ ?_ <;> intro h) | exact .refl | refine And.intro (by kernel_rfl) ?_ | refine And.intro ⟨fun h => h, fun h => h⟩ ?_ | refine .inl ⟨_, _, DleAll_refl _, c_awake, ?_⟩ | refine ⟨_, _, DleAll_refl _, fun _ => c_awake, ?_⟩ | refine ⟨_, _, DleAll_refl _, c_awake, ?_⟩ | refine .inl ⟨_, _, DleAll_refl _, e1, ?_⟩ | refine ⟨_, _, DleAll_refl _, fun _ => e1, ?_⟩ | refine ⟨_, _, DleAll_refl _, e1, ?_⟩ | refine .inl ⟨_, _, DleAll_refl _, e2, ?_⟩ | refine ⟨_, _, DleAll_refl _, fun _ => e2, ?_⟩ | refine ⟨_, _, DleAll_refl _, e2, ?_⟩ | refine .inl ⟨_, _, DleAll_refl _, e3, ?_⟩ | refine ⟨_, _, DleAll_refl _, fun _ => e3, ?_⟩ | refine ⟨_, _, DleAll_refl _, e3, ?_⟩ | refine .inl ⟨_, _, DleAll_refl _, e4, ?_⟩ | refine ⟨_, _, DleAll_refl _, fun _ => e4, ?_⟩ | refine ⟨_, _, DleAll_refl _, e4, ?_⟩ | refine .inl ⟨_, _, DleAll_refl _, e5, ?_⟩ | refine ⟨_, _, DleAll_refl _, fun _ => e5, ?_⟩ | refine ⟨_, _, DleAll_refl _, e5, ?_⟩ | refine .inl ⟨_, _, DleAll_refl _, e6, ?_⟩ | refine ⟨_, _, DleAll_refl _, fun _ => e6, ?_⟩ | refine ⟨_, _, DleAll_refl _, e6, ?_⟩ | (refine And.intro ?_ ?_; focus (simp; done)) | fail)
  all_goals (conv => whnf)
  all_goals refine dle_bool ?_
  all_goals simp [winE]
def bE (b : Bool) : List DV := [.v (.bool b)]
def vN (l : List Bool) : Nat → Nat
  | 0 => 0
  | i + 1 => vN l i * 2 % 1024 + bif l.getD i false then 0 else 1
def wN (l : List Bool) (i : Nat) : Win := ⟨(vN l i : Nat), (min i 10 : Nat)⟩
theorem vN_lt (l : List Bool) : ∀ i, vN l i < 2 ^ (min i 10) ∧ vN l i < 1024
  | 0 => by simp [vN]
  | i + 1 => by
    obtain ⟨h1, h2⟩ := vN_lt l i
    have hf : (bif l.getD i false then 0 else 1) ≤ 1 := by cases l.getD i false <;> simp
    unfold vN
    generalize (bif l.getD i false then 0 else 1) = f at *
    by_cases h : i < 10
    · have e1 : min i 10 = i := by omega
      have e2 : min (i + 1) 10 = i + 1 := by omega
      have hp : 2 ^ (i + 1) ≤ 2 ^ 10 := Nat.pow_le_pow_right (by decide) (by omega)
      rw [e1] at h1
      rw [e2]
      rw [Nat.pow_succ] at hp ⊢
      have hm : vN l i * 2 % 1024 ≤ vN l i * 2 := Nat.mod_le _ _
      omega
    · have e2 : min (i + 1) 10 = 10 := by omega
      rw [e2]
      omega
theorem win_ok (l : List Bool) (i : Nat) : winB (wN l i) = true := by
  have h := (vN_lt l i).1
  have hc : ∀ c : Fin 11, IntKind.u32.wrap (1 * 2 ^ (min ((c.1 : Nat) : Int).toNat 32)) = ((2 ^ c.1 : Nat) : Int) := by decide +kernel
  have hc := hc ⟨min i 10, by omega⟩
  have a1 : (0 : Int) ≤ ((min i 10 : Nat) : Int) := by omega
  have a2 : ((min i 10 : Nat) : Int) ≤ 10 := by omega
  have a3 : ((vN l i : Nat) : Int) < IntKind.u32.wrap (1 * 2 ^ (min ((min i 10 : Nat) : Int).toNat 32)) := by
    simp only [] at hc
    rw [hc]
    exact Int.ofNat_lt.2 h
  show ((decide ((0 : Int) ≤ ((min i 10 : Nat) : Int)) && decide (((min i 10 : Nat) : Int) ≤ 10)) && decide (((vN l i : Nat) : Int) < IntKind.u32.wrap (1 * 2 ^ (min ((min i 10 : Nat) : Int).toNat 32)))) = true
  rw [decide_eq_true a1, decide_eq_true a2, decide_eq_true a3]
  rfl
theorem rec_N (l : List Bool) (i : Nat) : recR (wN l i) (l.getD i false) = wN l (i + 1) := by
  unfold recR
  rw [win_ok, Bool.not_true, cond_false]
  simp only [wN, vN, Win.mk.injEq]
  refine ⟨?_, ?_⟩
  · cases l.getD i false <;> simp
  · show (if (10 : Int) < ((min i 10 : Nat) : Int) + 1 then (10 : Int) else ((min i 10 : Nat) : Int) + 1) = ((min (i + 1) 10 : Nat) : Int)
    rcases Nat.lt_or_ge i 10 with h | h
    · rw [Nat.min_eq_left (by omega), if_neg (by omega), Nat.min_eq_left (by omega)]
      omega
    · rw [Nat.min_eq_right h, Nat.min_eq_right (by omega)]
      decide
theorem bit_up {v f k : Nat} (hv : v < 1024) (hf : f ≤ 1) (hk : k < 9) : (v * 2 % 1024 + f) / 2 ^ (k + 1) % 2 = v / 2 ^ k % 2 := by
  match k, hk with
  | 0, _ | 1, _ | 2, _ | 3, _ | 4, _ | 5, _ | 6, _ | 7, _ | 8, _ => simp only [Nat.reduceAdd, Nat.reducePow]; omega
theorem bit_N (l : List Bool) : ∀ (i k : Nat), k < 10 → vN l i / 2 ^ k % 2 = if k < i ∧ l.getD (i - 1 - k) false = false then 1 else 0
  | 0, k, _ => by simp [vN]
  | i + 1, 0, _ => by
    unfold vN
    have e : i + 1 - 1 - 0 = i := by omega
    rw [e, Nat.pow_zero, Nat.div_one]
    cases h : l.getD i false
    · rw [if_pos ⟨by omega, rfl⟩, cond_false]
      omega
    · rw [if_neg (by simp), cond_true]
      omega
  | i + 1, k + 1, hk => by
    have ih := bit_N l i k (by omega)
    have hb := bit_up (v := vN l i) (f := bif l.getD i false then 0 else 1) (k := k) (vN_lt l i).2 (by cases l.getD i false <;> simp) (by omega)
    unfold vN
    rw [hb, ih]
    have e : i + 1 - 1 - (k + 1) = i - 1 - k := by omega
    rw [e]
    simp only [Nat.add_lt_add_iff_right]
def cf (l : List Bool) (lo i : Nat) : Nat := ((l.take i).drop lo).countP (fun b => !b)
theorem cf_succ {l : List Bool} {lo i : Nat} (h : i < l.length) (hlo : lo ≤ i) : cf l lo (i + 1) = cf l lo i + if l[i] = false then 1 else 0 := by
  unfold cf
  rw [List.take_succ_eq_append_getElem h, List.drop_append_of_le_length (by simp; omega), List.countP_append]
  cases hl : l[i] <;> simp [List.countP_cons]
theorem cf_le (l : List Bool) (lo i : Nat) : cf l lo i ≤ i := by
  unfold cf
  exact Nat.le_trans List.countP_le_length (by simp; omega)
theorem fdiv2 {v k : Nat} (hv : v < 1024) (hk : k < 10) : Int.tmod ((v : Int).fdiv (2 ^ k)) 2 = ((v / 2 ^ k % 2 : Nat) : Int) := by
  have : ((2 : Int) ^ k) = ((2 ^ k : Nat) : Int) := by norm_cast
  rw [this, ← Int.ofNat_fdiv]
  exact (Int.ofNat_tmod _ 2).symm
theorem pop_N (l : List Bool) : ∀ k, k ≤ 10 → popN (vN l l.length : Nat) k = ((l.drop (l.length - k)).countP (fun b => !b) : Nat)
  | 0, _ => by simp [popN]
  | k + 1, hk => by
    have ih := pop_N l k (by omega)
    have hb := bit_N l l.length k (by omega)
    unfold popN
    rw [fdiv2 (vN_lt l _).2 (by omega), ih, hb]
    by_cases h : k < l.length
    · have h2 : l.length - (k + 1) < l.length := by omega
      have e : l.length - (k + 1) + 1 = l.length - k := by omega
      have e2 : l.length - 1 - k = l.length - (k + 1) := by omega
      rw [List.drop_eq_getElem_cons h2, e, List.countP_cons, e2]
      have hg : l.getD (l.length - (k + 1)) false = l[l.length - (k + 1)] := by simp [h2]
      rw [hg]
      cases l[l.length - (k + 1)] <;> simp [h]
    · have e : l.length - (k + 1) = l.length - k := by omega
      rw [e]
      simp [h]
theorem fail_N (l : List Bool) : failR (wN l l.length) = (decide (10 ≤ (l.length : Int)) && decide ((4 : Int) ≤ (cf l (l.length - 10) l.length : Nat))) := by
  have hp := pop_N l 10 (by omega)
  have e : cf l (l.length - 10) l.length = (l.drop (l.length - 10)).countP (fun b => !b) := by unfold cf; rw [List.take_length]
  unfold failR
  rw [win_ok, Bool.true_and, e]
  show (decide (((min l.length 10 : Nat) : Int) = 10) && decide (4 ≤ popN (vN l l.length : Nat) 10)) = _
  rw [hp]
  congr 1
  exact decide_eq_decide.2 (by omega)
theorem r4 (l : List Bool) (hl : l.length ≤ maxLen) : Ret Try.prog 4 [.lst 1 (l.map bE) false] (.v (.bool true)) := by
  have hl' : l.length ≤ 9223372036854775807 := hl
  refine ret_of_body (fn := Try.f4) (c := Try.f4.body.getD .skip) hm hT (by kernel_rfl) Try.func4 (by kernel_rfl) (by kernel_rfl) (by kernel_rfl) (by kernel_rfl) ?_
  repeat' ((conv => whnf); first | refine And.intro (fun h => h) ?_ | refine dcond_t (by assumption) ?_ | refine dcond_f (by assumption) ?_ | (refine dcond_intro ?_ ?_ <;> intro h) | exact .refl | refine And.intro (by kernel_rfl) ?_ | refine And.intro ⟨fun h => h, fun h => h⟩ ?_ | refine .inl ⟨_, _, DleAll_refl _, c_awake, ?_⟩ | refine ⟨_, _, DleAll_refl _, fun _ => c_awake, ?_⟩ | refine ⟨_, _, DleAll_refl _, c_awake, ?_⟩ | (refine And.intro ?_ ?_; focus (simp; done)) | fail)
  all_goals (conv => whnf)
  · have h2 : l.length ≤ 200 := by
      simp at h
      omega
    clear h
    refine ⟨Nat, fun i => ⟨[(0, .lst 1 (l.map bE) false), (3, .lp 0 0), (4, i64 i)], [.cells 24 (winE (wN l i))]⟩, fun i => i ≤ l.length, fun i => l.length - i, [], ⟨0, Nat.zero_le _, ?_⟩, ?_⟩
    · conv => whnf
      exact ⟨⟨.refl, .refl, .refl, trivial⟩, ⟨.refl, trivial⟩, by rfl⟩
    · intro i hi
      repeat' ((conv => whnf); first | refine And.intro (fun h => h) ?_ | refine dcond_t (by assumption) ?_ | refine dcond_f (by assumption) ?_ | (refine dcond_intro ?_ ?_ <;> intro h) | exact .refl | refine And.intro (by kernel_rfl) ?_ | refine And.intro ⟨fun h => h, fun h => h⟩ ?_ | (refine And.intro ?_ ?_; focus (simp; done)) | fail)
      · have hlt : i < l.length := by simpa using h
        clear h
        have er := c_probe_Record (wN l i) (Int.natCast_nonneg _) (l.getD i false)
        have hg : l.getD i false = l[i] := by simp [hlt]
        rw [rec_N, hg] at er
        repeat' ((conv => whnf); first | refine And.intro (fun h => h) ?_ | refine dcond_t (by assumption) ?_ | refine dcond_f (by assumption) ?_ | (refine dcond_intro ?_ ?_ <;> intro h) | exact .refl | refine And.intro (by kernel_rfl) ?_ | refine And.intro ⟨fun h => h, fun h => h⟩ ?_ | refine ⟨_, _, And.intro ⟨rfl, get_map hlt⟩ ?_⟩ | refine .inl ⟨_, _, DleAll_refl _, er, ?_⟩ | refine ⟨_, _, DleAll_refl _, fun _ => er, ?_⟩ | refine ⟨_, _, DleAll_refl _, er, ?_⟩ | (refine And.intro ?_ ?_; focus (simp; done)) | fail)
        all_goals (conv => whnf)
        refine ⟨i + 1, hlt, by simp only []; omega, ?_⟩
        conv => whnf
        exact ⟨⟨.refl, .refl, dle_int (wrap_succ (by omega)), trivial⟩, ⟨.refl, trivial⟩, by rfl⟩
      · have : i = l.length := by
          simp at h
          omega
        subst this
        clear h
        repeat' ((conv => whnf); first | refine And.intro (fun h => h) ?_ | refine dcond_t (by assumption) ?_ | refine dcond_f (by assumption) ?_ | (refine dcond_intro ?_ ?_ <;> intro h) | exact .refl | refine And.intro (by kernel_rfl) ?_ | refine And.intro ⟨fun h => h, fun h => h⟩ ?_ | (refine And.intro ?_ ?_; focus (simp; done)) | fail)
        all_goals (conv => whnf)
        refine ⟨Nat, fun i => ⟨[(0, .lst 1 (l.map bE) false), (3, .lp 0 0), (5, i64 (cf l (l.length - 10) i : Nat)), (6, i64 i)], [.cells 24 (winE (wN l l.length))]⟩, fun i => l.length - 10 ≤ i ∧ i ≤ l.length, fun i => l.length - i, [], ⟨l.length - 10, ⟨Nat.le_refl _, by omega⟩, ?_⟩, ?_⟩
        · conv => whnf
          refine ⟨⟨.refl, .refl, dle_int ?_, dle_int ?_, trivial⟩, ⟨.refl, trivial⟩, by rfl⟩
          · have : cf l (l.length - 10) (l.length - 10) = 0 := by simp [cf]
            rw [this]
            rfl
          · rw [List.length_map, wrap_i64 (by omega) (by omega)]
            split <;> omega
        · intro i ⟨hlo, hi⟩
          repeat' ((conv => whnf); first | refine And.intro (fun h => h) ?_ | refine dcond_t (by assumption) ?_ | refine dcond_f (by assumption) ?_ | (refine dcond_intro ?_ ?_ <;> intro h) | exact .refl | refine And.intro (by kernel_rfl) ?_ | refine And.intro ⟨fun h => h, fun h => h⟩ ?_ | (refine And.intro ?_ ?_; focus (simp; done)) | fail)
          · have hlt : i < l.length := by simpa using h
            clear h
            have hs := cf_succ hlt hlo
            have hc := cf_le l (l.length - 10) i
            repeat' ((conv => whnf); first | refine And.intro (fun h => h) ?_ | refine dcond_t (by assumption) ?_ | refine dcond_f (by assumption) ?_ | (refine dcond_intro ?_ ?_ <;> intro h) | exact .refl | refine And.intro (by kernel_rfl) ?_ | refine And.intro ⟨fun h => h, fun h => h⟩ ?_ | refine ⟨_, _, And.intro ⟨rfl, get_map hlt⟩ ?_⟩ | (refine And.intro ?_ ?_; focus (simp; done)) | fail)
            all_goals (conv => whnf)
            all_goals refine ⟨i + 1, ⟨by omega, hlt⟩, by simp only []; omega, ?_⟩
            all_goals (conv => whnf)
            all_goals refine ⟨⟨.refl, .refl, dle_int ?_, dle_int (wrap_succ (by omega)), trivial⟩, ⟨.refl, trivial⟩, by rfl⟩
            · have h : l[i] = false := by simpa using h
              rw [hs, if_pos h, wrap_i64 (by omega) (by omega)]
              omega
            · have h : l[i] = true := by simpa using h
              rw [hs, h, if_neg (by simp)]
              rfl
          · have : i = l.length := by
              simp at h
              omega
            subst this
            clear h
            have ev := c_probe_ValidWindow (wN l l.length)
            have ef := c_probe_Failing (wN l l.length) (Int.natCast_nonneg _)
            rw [win_ok] at ev
            rw [fail_N] at ef
            repeat' ((conv => whnf); first | refine And.intro (fun h => h) ?_ | refine dcond_t (by assumption) ?_ | refine dcond_f (by assumption) ?_ | (refine dcond_intro ?_ ?_ <;> intro h) | exact .refl | refine And.intro (by kernel_rfl) ?_ | refine And.intro ⟨fun h => h, fun h => h⟩ ?_ | refine .inl ⟨_, _, DleAll_refl _, ev, ?_⟩ | refine ⟨_, _, DleAll_refl _, fun _ => ev, ?_⟩ | refine ⟨_, _, DleAll_refl _, ev, ?_⟩ | refine .inl ⟨_, _, DleAll_refl _, ef, ?_⟩ | refine ⟨_, _, DleAll_refl _, fun _ => ef, ?_⟩ | refine ⟨_, _, DleAll_refl _, ef, ?_⟩ | (refine And.intro ?_ ?_; focus (simp; done)) | fail)
            all_goals (conv => whnf)
            refine dle_bool ?_
            rw [List.length_map]
            have hw : (wN l l.length).cnt = if (10 : Int) < (l.length : Int) then 10 else (l.length : Int) := by
              show ((min l.length 10 : Nat) : Int) = _
              split <;> omega
            rw [decide_eq_true hw]
            simp
theorem dat_bools {n : Nat} {r : List DV} (h : Dat tt (n + 2) 29 r) : ∃ l : List Bool, r = [.lst 1 (l.map bE) false] ∧ l.length ≤ maxLen := by
  obtain ⟨es, rfl, hl, hes⟩ := h
  obtain ⟨d, rfl, _⟩ := list_data (f := bE) (Q := fun _ => True) (fun r hr => by
    obtain ⟨i, rfl⟩ := hes r hr
    exact ⟨i, rfl, trivial⟩)
  exact ⟨d, rfl, by simpa using hl⟩
theorem dat_win {n : Nat} {r : List DV} (h : Dat tt (n + 2) 24 r) : ∃ w : Win, r = winE w ∧ 0 ≤ w.bits := by
  obtain ⟨p, q, rfl, ⟨b, rfl, hb⟩, s, t, rfl, ⟨c, rfl, _⟩, rfl⟩ := h
  have hb := bounds_u32 (by exact hb)
  exact ⟨⟨b, c⟩, rfl, hb.1⟩
theorem law3 (dvs : List DV) (h : DatAll tt 4 [24, 4] dvs) : Ret Try.prog 3 dvs (.v (.bool true)) := by
  obtain ⟨a, _, rfl, ha, b, _, rfl, ⟨i, rfl⟩, rfl⟩ := h
  obtain ⟨w, rfl, hw⟩ := dat_win (n := 2) ha
  exact r3 w hw i
theorem law4 (dvs : List DV) (h : DatAll tt 4 [29] dvs) : Ret Try.prog 4 dvs (.v (.bool true)) := by
  obtain ⟨a, _, rfl, ha, rfl⟩ := h
  obtain ⟨l, rfl, hl⟩ := dat_bools (n := 2) ha
  exact r4 l hl
end Go.Proofs.Ytdajfimollbnlaa
