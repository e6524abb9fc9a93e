/- The laws of this seat, part OwA: contracts of the functions, plain laws. No conditions. -/
import Derived.Shelf.SlLaysF0
import Derived.Test.YtejmeihfdddnmaaProg
import Derived.Test.YtejmeihfdddnmaaRows
import Derived.Test.YtejmeihfdddnmaaLfD
/-
  DERIVED: THE SHELF's CONTRACTS AT THIS DUMP, IN PLAIN WORDS (tools/lay-plain.mjs out of 'YtejmeihfdddnmaaShelf.lean', which tools/lay-shelf.mjs wrote): THE SAME DECLARATIONS UNDER THE SAME NAMES: 'import', 'namespace', 'open', 'def', 'theorem' AND NOTHING ELSE: no command of the shelf's: FOR A HAND-IN. Each laying: the table of numbers ('.._ren') and one theorem, a field a fact of the dump's own or the kernel's comparison; each contract: ONE APPLICATION.
-/
namespace Go.Proofs
open Go.Shelf
def Try.sortTok_ren : Go.Shelf.Ren := ⟨fun | 6 => 23 | 15 => 35 | 14 => 34 | 28 => 49 | 29 => 50 | 20 => 41 | 21 => 42 | 22 => 43 | 23 => 44 | 24 => 45 | 25 => 46 | 26 => 47 | 27 => 48 | 46 => 51 | 47 => 52 | 48 => 53 | 49 => 54 | 50 => 55 | 57 => 56 | n => n, fun | 22 => 37 | 24 => 40 | 25 => 53 | 3 => 3 | 39 => 60 | 0 => 0 | 53 => 76 | 55 => 24 | 4 => 4 | 46 => 69 | 45 => 68 | 50 => 73 | 5 => 5 | 9 => 9 | 66 => 78 | 70 => 82 | 76 => 84 | 77 => 85 | n => n, fun | n => n⟩
theorem Try.sortTok : Go.Proofs.SlLaysF0.n6 Try.prog Try.sortTok_ren := {
  mixed := by kernel_rfl
  f6 := ⟨Try.f23.name, by decide, Try.func23.trans (congrArg some (by kernel_rfl))⟩
  f14 := ⟨Try.f34.name, by decide, Try.func34.trans (congrArg some (by kernel_rfl))⟩
  f15 := Try.func35.trans (congrArg some (by kernel_rfl))
  f20 := ⟨Try.f41.name, by decide, Try.func41.trans (congrArg some (by kernel_rfl))⟩
  f21 := ⟨Try.f42.name, by decide, Try.func42.trans (congrArg some (by kernel_rfl))⟩
  f22 := ⟨Try.f43.name, by decide, Try.func43.trans (congrArg some (by kernel_rfl))⟩
  f23 := ⟨Try.f44.name, by decide, Try.func44.trans (congrArg some (by kernel_rfl))⟩
  f24 := ⟨Try.f45.name, by decide, Try.func45.trans (congrArg some (by kernel_rfl))⟩
  f25 := ⟨Try.f46.name, by decide, Try.func46.trans (congrArg some (by kernel_rfl))⟩
  f26 := ⟨Try.f47.name, by decide, Try.func47.trans (congrArg some (by kernel_rfl))⟩
  f27 := ⟨Try.f48.name, by decide, Try.func48.trans (congrArg some (by kernel_rfl))⟩
  f28 := Try.func49.trans (congrArg some (by kernel_rfl))
  f29 := Try.func50.trans (congrArg some (by kernel_rfl))
  f46 := ⟨Try.f51.name, by decide, Try.func51.trans (congrArg some (by kernel_rfl))⟩
  f47 := Try.func52.trans (congrArg some (by kernel_rfl))
  f48 := Try.func53.trans (congrArg some (by kernel_rfl))
  f49 := ⟨Try.f54.name, by decide, Try.func54.trans (congrArg some (by kernel_rfl))⟩
  f50 := ⟨Try.f55.name, by decide, Try.func55.trans (congrArg some (by kernel_rfl))⟩
  f57 := ⟨Try.f56.name, by decide, Try.func56.trans (congrArg some (by kernel_rfl))⟩
  t0 := Try.underlying0
  a0 := Try.isAgg0
  z0 := Try.sizeOf0
  v0 := Try.zeroValue0
  t3 := Try.underlying3
  a3 := Try.isAgg3
  z3 := Try.sizeOf3
  v3 := Try.zeroValue3
  t4 := Try.underlying4
  a4 := Try.isAgg4
  z4 := Try.sizeOf4
  v4 := Try.zeroValue4
  t5 := Try.underlying5
  a5 := Try.isAgg5
  z5 := Try.sizeOf5
  v5 := Try.zeroValue5
  t9 := Try.underlying9
  a9 := Try.isAgg9
  z9 := Try.sizeOf9
  v9 := Try.zeroValue9
  t22 := Try.underlying37
  a22 := Try.isAgg37
  z22 := Try.sizeOf37
  v22 := Try.zeroValue37
  t25 := Try.underlying53
  a25 := Try.isAgg53
  z25 := Try.sizeOf53
  v25 := Try.zeroValue53
  t39 := Try.underlying60
  a39 := Try.isAgg60
  z39 := Try.sizeOf60
  v39 := Try.zeroValue60
  t45 := Try.underlying68
  a45 := Try.isAgg68
  z45 := Try.sizeOf68
  v45 := Try.zeroValue68
  t46 := Try.underlying69
  a46 := Try.isAgg69
  z46 := Try.sizeOf69
  v46 := Try.zeroValue69
  t50 := Try.underlying73
  a50 := Try.isAgg73
  z50 := Try.sizeOf73
  v50 := Try.zeroValue73
  t53 := Try.underlying76
  a53 := Try.isAgg76
  z53 := Try.sizeOf76
  v53 := Try.zeroValue76
  t55 := Try.underlying24
  a55 := Try.isAgg24
  z55 := Try.sizeOf24
  v55 := Try.zeroValue24
  t66 := Try.underlying78
  a66 := Try.isAgg78
  z66 := Try.sizeOf78
  v66 := Try.zeroValue78
  t70 := Try.underlying82
  a70 := Try.isAgg82
  z70 := Try.sizeOf82
  v70 := Try.zeroValue82
  t76 := Try.underlying84
  a76 := Try.isAgg84
  z76 := Try.sizeOf84
  v76 := Try.zeroValue84
  t77 := Try.underlying85
  a77 := Try.isAgg85
  z77 := Try.sizeOf85
  v77 := Try.zeroValue85 }
end Go.Proofs

set_option linter.unusedSimpArgs false
set_option linter.unusedVariables false
namespace Go.Proofs.Ytejmeihfdddnmaa
open Go.Lift
def tt : TT := [(2, ⟨1, 8, false, [.v (.int .i64 0)], .int .i64⟩),
  (3, ⟨1, 8, false, [.v (.int .i64 0)], .int .i64⟩),
  (4, ⟨1, 1, false, [.v (.bool false)], .bool⟩),
  (5, ⟨1, 1, false, [.v (.int .u8 0)], .int .u8⟩),
  (9, ⟨1, 16, false, [.v (.string ⟨#[]⟩)], .str⟩),
  (21, ⟨1, 4, false, [.v (.int .i32 0)], .int .i32⟩),
  (22, ⟨1, 24, false, [.nl], .slc 3⟩),
  (23, ⟨1, 2, false, [.v (.int .u16 0)], .int .u16⟩),
  (24, ⟨1, 8, false, [.v (.int .u64 0)], .int .u64⟩),
  (37, ⟨1, 24, false, [.nl], .slc 40⟩),
  (39, ⟨3, 24, true, [.v (.int .u64 0), .v (.int .i64 0), .v (.int .i64 0)], .st [(24, 0), (3, 1), (3, 2)]⟩),
  (40, ⟨3, 24, true, [.v (.int .u64 0), .v (.int .i64 0), .v (.int .i64 0)], .st [(24, 0), (3, 1), (3, 2)]⟩),
  (43, ⟨2, 32, true, [.v (.int .i64 0), .nl], .st [(3, 0), (22, 1)]⟩),
  (44, ⟨2, 32, true, [.v (.int .i64 0), .nl], .st [(3, 0), (22, 1)]⟩),
  (45, ⟨2, 32, true, [.v (.string ⟨#[]⟩), .v (.string ⟨#[]⟩)], .st [(9, 0), (9, 1)]⟩),
  (46, ⟨2, 32, true, [.v (.string ⟨#[]⟩), .v (.string ⟨#[]⟩)], .st [(9, 0), (9, 1)]⟩),
  (60, ⟨1, 8, false, [.v (.int .u64 0)], .int .u64⟩),
  (63, ⟨3, 24, true, [.v (.int .u64 0), .v (.int .u64 0), .v (.int .u64 0)], .arr 3 60⟩),
  (65, ⟨2, 16, true, [.v (.int .u64 0), .v (.int .u64 0)], .arr 2 24⟩),
  (68, ⟨1, 8, false, [.v (.int .i64 0)], .int .i64⟩),
  (76, ⟨1, 4, false, [.v (.int .u32 0)], .int .u32⟩),
  (78, ⟨1, 8, false, [.v (.int .u64 0)], .int .u64⟩)]
theorem hm : Try.prog.follows .mixedOrders = true := by kernel_rfl
theorem hT : tabOk Try.prog tt = true := by kernel_rfl
def i64 (n : Int) : DV := .v (.int .i64 n)
def intE (n : Int) : List DV := [.v (.int .i64 n)]
def byteI (n : Nat) : List DV := [.v (.int .u8 n)]
theorem fitsI {n : Nat} (h : n ≤ 2000000) : fitsIn tt 3 n := by
  have e : (tinfo tt 3).bytes = 8 := by kernel_rfl
  refine ⟨?_, ?_⟩
  · rw [e]; omega
  · simp only [maxLen]; omega
theorem ole_row {e : TypeId} {sz : Nat} {es es' : List (List DV)} (h : es = es') : ole (.row e sz es) (.row e sz es') := by subst h; exact .refl
def okAt (l : List Int) (i : Nat) : Bool := !(decide (l.getD i 0 ≤ (0 :: l).getD i 0) || decide (1000 < l.getD i 0))
def idsB (l : List Int) (most : Int) : Bool := !(decide ((l.length : Int) < 1) || decide (most < (l.length : Int))) && allB (okAt l) l.length
theorem c_view_identifiers (l : List Int) (hl : l.length ≤ maxLen) (m : Int) : Ret Try.prog 33 [.lst 1 (l.map intE) false, .v (.int .i64 m)] (.v (.bool (idsB l m))) := by
  have hl' : l.length ≤ 9223372036854775807 := hl
  refine ret_of_body (fn := Try.f33) (c := Try.f33.body.getD .skip) hm hT (by kernel_rfl) Try.func33 (by kernel_rfl) (by kernel_rfl) (by kernel_rfl) (by kernel_rfl) ?_
  repeat' ((conv => whnf); first | refine And.intro (fun h => h) ?_ | refine dcond_t (by assumption) ?_ | refine dcond_f (by assumption) ?_ | (refine dcond_intro ?_ ?_ <;> intro h) | exact .refl | refine And.intro (by kernel_rfl) ?_ | refine And.intro ⟨fun h => h, fun h => h⟩ ?_ | (refine And.intro ?_ ?_; focus (simp; done)) | fail)
  · skip
    refine dle_bool ?_
    simp only [List.length_map] at h
    simp only [idsB, h]
    rfl
  · skip
    simp only [List.length_map] at h
    have h0 := h
    clear h
    conv => whnf
    refine ⟨Nat, fun i => ⟨[(5, i64 ((0 :: l).getD i 0)), (17, .lst 1 (l.map intE) false), (18, i64 (l.map intE).length), (19, i64 i)], []⟩, fun i => i ≤ l.length ∧ ∀ j, j < i → okAt l j = true, fun i => l.length - i, [], ⟨0, ⟨Nat.zero_le _, by omega⟩, ?_⟩, ?_⟩
    · exact ⟨by repeat' ((conv => whnf); first | exact trivial | refine And.intro (by (conv => arg 1; whnf); first | (with_reducible exact .refl) | exact dle_int (wrap_succ (by omega)) | exact .refl) ?_), by repeat' ((conv => whnf); first | exact trivial | refine And.intro ?_ ?_ | exact .refl), rfl⟩
    · intro i ⟨hi, hall⟩
      repeat' ((conv => whnf); first | refine And.intro (fun h => h) ?_ | refine dcond_t (by assumption) ?_ | refine dcond_f (by assumption) ?_ | (refine dcond_intro ?_ ?_ <;> intro h) | exact .refl | refine And.intro (by kernel_rfl) ?_ | refine And.intro ⟨fun h => h, fun h => h⟩ ?_ | (refine And.intro ?_ ?_; focus (simp; done)) | fail)
      · have h1 := h
        have hlt : i < l.length := by simpa using h1
        have hg : l.getD i 0 = l[i] := by simp [hlt]
        repeat' ((conv => whnf); first | refine And.intro (fun h => h) ?_ | refine dcond_t (by assumption) ?_ | refine dcond_f (by assumption) ?_ | (refine dcond_intro ?_ ?_ <;> intro h) | exact .refl | refine And.intro (by kernel_rfl) ?_ | refine And.intro ⟨fun h => h, fun h => h⟩ ?_ | refine ⟨_, _, And.intro ⟨rfl, get_map hlt⟩ ?_⟩ | (refine And.intro ?_ ?_; focus (simp; done)) | fail)
        · have h2 := h
          refine dle_bool ?_
          have : okAt l i = false := by simp only [okAt, hg, h2]; rfl
          rw [idsB, allB_false hlt this, Bool.and_false]
        · have h2 := h
          conv => whnf
          refine ⟨i + 1, ⟨hlt, fun j hj => ?_⟩, by simp only []; omega, ?_⟩
          · rcases Nat.lt_succ_iff_lt_or_eq.1 hj with hj | rfl
            · exact hall j hj
            · simp only [okAt, hg, h2]; rfl
          · refine ⟨⟨?_, .refl, .refl, dle_int (wrap_succ (by omega)), trivial⟩, trivial, rfl⟩
            refine dle_int ?_
            simp [hlt]
      · have h1 := h
        have hge : ¬ i < l.length := by simpa using h1
        conv => whnf
        refine dle_bool ?_
        rw [idsB, h0, allB_true.2 (fun j hj => hall j (by omega))]
        rfl
def sameI (a b : List Int) : Bool := decide ((a.length : Int) = (b.length : Int)) && allB (fun i => decide (a.getD i 0 = b.getD i 0)) a.length
structure View where
  num : Int
  mem : List Int
def viewE (v : View) : List DV := [.v (.int .i64 v.num), .lst 1 (v.mem.map intE) false]
def placeB (l : List Int) (x : Int) : Int := findB (fun i => decide (l[i]? = some x)) l.length
def inB (l : List Int) (x : Int) : Bool := decide (0 ≤ placeB l x)
theorem c_view_ValidMembers (l : List Int) (hl : l.length ≤ maxLen) : Ret Try.prog 22 [.lst 1 (l.map intE) false] (.v (.bool (idsB l 16))) := by
  refine ret_of_body (fn := Try.f22) (c := Try.f22.body.getD .skip) hm hT (by kernel_rfl) Try.func22 (by kernel_rfl) (by kernel_rfl) (by kernel_rfl) (by kernel_rfl) ?_
  repeat' ((conv => whnf); first | refine And.intro (fun h => h) ?_ | refine dcond_t (by assumption) ?_ | refine dcond_f (by assumption) ?_ | (refine dcond_intro ?_ ?_ <;> intro h) | exact .refl | refine And.intro (by kernel_rfl) ?_ | refine And.intro ⟨fun h => h, fun h => h⟩ ?_ | refine .inl ⟨_, _, DleAll_refl _, c_view_identifiers _ hl _, ?_⟩ | refine ⟨_, _, DleAll_refl _, fun _ => c_view_identifiers _ hl _, ?_⟩ | refine ⟨_, _, DleAll_refl _, c_view_identifiers _ hl _, ?_⟩ | (refine And.intro ?_ ?_; focus (simp; done)) | fail)
def viewB (v : View) : Bool := (decide (0 ≤ v.num) && decide (v.num ≤ 1099511627776)) && idsB v.mem 16
theorem c_view_Valid (v : View) (hl : v.mem.length ≤ maxLen) : Ret Try.prog 28 [.agg (viewE v)] (.v (.bool (viewB v))) := by
  refine ret_of_body (fn := Try.f28) (c := Try.f28.body.getD .skip) hm hT (by kernel_rfl) Try.func28 (by kernel_rfl) (by kernel_rfl) (by kernel_rfl) (by kernel_rfl) ?_
  repeat' ((conv => whnf); first | refine And.intro (fun h => h) ?_ | refine dcond_t (by assumption) ?_ | refine dcond_f (by assumption) ?_ | (refine dcond_intro ?_ ?_ <;> intro h) | exact .refl | refine And.intro (by kernel_rfl) ?_ | refine And.intro ⟨fun h => h, fun h => h⟩ ?_ | refine .inl ⟨_, _, DleAll_refl _, c_view_ValidMembers _ hl, ?_⟩ | refine ⟨_, _, DleAll_refl _, fun _ => c_view_ValidMembers _ hl, ?_⟩ | refine ⟨_, _, DleAll_refl _, c_view_ValidMembers _ hl, ?_⟩ | (refine And.intro ?_ ?_; focus (simp; done)) | fail)
def splitR (v : View) (cut l other : List Int) : List Int × List Int :=
  bif !viewB v || !idsB cut 32 then ([], []) else (l.filter (inB other), l.filter (fun x => !inB other x))
def partA (other l : List Int) (i : Nat) : List (List DV) := ((l.take i).filter (inB other)).map intE
def partB (other l : List Int) (i : Nat) : List (List DV) := ((l.take i).filter (fun x => !inB other x)).map intE
theorem partA_len (other l : List Int) (i : Nat) : (partA other l i).length ≤ i := by
  simp only [partA, List.length_map]
  exact Nat.le_trans (List.length_filter_le _ _) (by simp; omega)
theorem partB_len (other l : List Int) (i : Nat) : (partB other l i).length ≤ i := by
  simp only [partB, List.length_map]
  exact Nat.le_trans (List.length_filter_le _ _) (by simp; omega)
theorem part_in {other l : List Int} {i : Nat} (hlt : i < l.length) (h : inB other (l[i]'hlt) = true) : partA other l i ++ [intE (l[i]'hlt)] = partA other l (i + 1) ∧ partB other l i = partB other l (i + 1) := by
  simp only [partA, partB, List.take_succ_eq_append_getElem hlt, List.filter_append]
  simp [h]
theorem part_out {other l : List Int} {i : Nat} (hlt : i < l.length) (h : inB other (l[i]'hlt) = false) : partA other l i = partA other l (i + 1) ∧ partB other l i ++ [intE (l[i]'hlt)] = partB other l (i + 1) := by
  simp only [partA, partB, List.take_succ_eq_append_getElem hlt, List.filter_append]
  simp [h]
def mergeL : List Int → List Int → List Int
  | a, [] => a
  | a, x :: b => a.takeWhile (fun y => !decide (x < y)) ++ x :: mergeL (a.dropWhile (fun y => !decide (x < y))) b
theorem merge_gt {y x : Int} {a b : List Int} (h : x < y) : mergeL (y :: a) (x :: b) = x :: mergeL (y :: a) b := by simp [mergeL, h]
theorem merge_le {y x : Int} {a b : List Int} (h : ¬ x < y) : mergeL (y :: a) (x :: b) = y :: mergeL a (x :: b) := by simp [mergeL, h]
theorem merge_nil {x : Int} {b : List Int} : mergeL [] (x :: b) = x :: mergeL [] b := by simp [mergeL]
theorem split_len (v : View) (cut l o : List Int) : (splitR v cut l o).2.length ≤ l.length := by
  unfold splitR
  cases (!viewB v || !idsB cut 32)
  · exact List.length_filter_le _ _
  · simp
def stayL (v : View) (cut : List Int) : List Int := (splitR v cut v.mem cut).2
def comeL (v : View) (cut : List Int) : List Int := (splitR v cut cut v.mem).2
def nextR (v : View) (cut : List Int) : View × Int :=
  bif !viewB v || !idsB cut 32 then (⟨0, []⟩, 1)
  else bif decide (2 * ((stayL v cut).length : Int) ≤ (v.mem.length : Int)) then (⟨0, []⟩, 9)
  else bif decide (v.num = 1099511627776) || decide (16 < ((stayL v cut).length : Int) + ((comeL v cut).length : Int)) then (⟨0, []⟩, 5)
  else (⟨IntKind.i64.wrap (v.num + 1), mergeL (stayL v cut) (comeL v cut)⟩, 0)
/-! reference 3, first part: identifiers, lists, views (expects: intE, i64, idsB, sameI, viewE, viewB, placeB, inB) -/
theorem c_ref3_IsID (n : Int) : Ret Try.prog 30 [.v (.int .i64 n)] (.v (.bool (decide (1 ≤ n) && decide (n ≤ 1000)))) := by
  refine ret_of_body (fn := Try.f30) (c := Try.f30.body.getD .skip) hm hT (by kernel_rfl) Try.func30 (by kernel_rfl) (by kernel_rfl) (by kernel_rfl) (by kernel_rfl) ?_
  repeat' ((conv => whnf); first | refine And.intro (fun h => h) ?_ | refine dcond_t (by assumption) ?_ | refine dcond_f (by assumption) ?_ | (refine dcond_intro ?_ ?_ <;> intro h) | exact .refl | refine And.intro (by kernel_rfl) ?_ | refine And.intro ⟨fun h => h, fun h => h⟩ ?_ | (refine And.intro ?_ ?_; focus (simp; done)) | fail)
def riseAt (l : List Int) (i : Nat) : Bool := !(!(decide (1 ≤ l.getD i 0) && decide (l.getD i 0 ≤ 1000)) || (decide (0 < (i : Int)) && decide (l.getD i 0 ≤ l.getD (i - 1) 0)))
def riseB (l : List Int) : Bool := allB (riseAt l) l.length
theorem c_ref3_Rising (l : List Int) (hl : l.length ≤ maxLen) : Ret Try.prog 18 [.lst 1 (l.map intE) false] (.v (.bool (riseB l))) := by
  have hl' : l.length ≤ 9223372036854775807 := hl
  refine ret_of_body (fn := Try.f18) (c := Try.f18.body.getD .skip) hm hT (by kernel_rfl) Try.func18 (by kernel_rfl) (by kernel_rfl) (by kernel_rfl) (by kernel_rfl) ?_
  repeat' ((conv => whnf); first | refine And.intro (fun h => h) ?_ | refine dcond_t (by assumption) ?_ | refine dcond_f (by assumption) ?_ | (refine dcond_intro ?_ ?_ <;> intro h) | exact .refl | refine And.intro (by kernel_rfl) ?_ | refine And.intro ⟨fun h => h, fun h => h⟩ ?_ | (refine And.intro ?_ ?_; focus (simp; done)) | fail)
  refine ⟨Nat, fun i => ⟨[(0, .lst 1 (l.map intE) false), (3, i64 i)], []⟩, fun i => i ≤ l.length ∧ ∀ j, j < i → riseAt l j = true, fun i => l.length - i, [], ⟨0, ⟨Nat.zero_le _, by omega⟩, ?_⟩, ?_⟩
  · exact ⟨by repeat' ((conv => whnf); first | exact trivial | refine And.intro (by (conv => arg 1; whnf); first | (with_reducible exact .refl) | exact dle_int (wrap_succ (by omega)) | exact .refl) ?_), by repeat' ((conv => whnf); first | exact trivial | refine And.intro ?_ ?_ | exact .refl), rfl⟩
  · intro i ⟨hi, hall⟩
    repeat' ((conv => whnf); first | refine And.intro (fun h => h) ?_ | refine dcond_t (by assumption) ?_ | refine dcond_f (by assumption) ?_ | (refine dcond_intro ?_ ?_ <;> intro h) | exact .refl | refine And.intro (by kernel_rfl) ?_ | refine And.intro ⟨fun h => h, fun h => h⟩ ?_ | (refine And.intro ?_ ?_; focus (simp; done)) | fail)
    · have hlt : i < l.length := by simpa using h
      clear h
      have hg : l.getD i 0 = l[i] := by simp [hlt]
      repeat' ((conv => whnf); first | refine And.intro (fun h => h) ?_ | refine dcond_t (by assumption) ?_ | refine dcond_f (by assumption) ?_ | (refine dcond_intro ?_ ?_ <;> intro h) | exact .refl | refine And.intro (by kernel_rfl) ?_ | refine And.intro ⟨fun h => h, fun h => h⟩ ?_ | refine ⟨_, _, And.intro ⟨rfl, get_map hlt⟩ ?_⟩ | refine .inl ⟨_, _, DleAll_refl _, c_ref3_IsID _, ?_⟩ | refine ⟨_, _, DleAll_refl _, fun _ => c_ref3_IsID _, ?_⟩ | refine ⟨_, _, DleAll_refl _, c_ref3_IsID _, ?_⟩ | refine ⟨i, intE (l[i]'hlt), And.intro ⟨⟨fun h => h, fun h => h⟩, fun hg => ⟨rfl, get_map hlt⟩⟩ ?_⟩ | (refine And.intro ?_ ?_; focus (simp; done)) | fail)
      have hp : ∀ (hg : (!(decide (1 ≤ l[i]) && decide (l[i] ≤ 1000))) = false ∧ 0 < i), (IntKind.i64.wrap ((i : Int) - 1)) = ((i - 1 : Nat) : Int) ∧ (l.map intE)[i - 1]? = some (intE (l.getD (i - 1) 0)) := by
        rintro ⟨_, h0⟩
        refine ⟨by rw [wrap_i64 (by omega) (by omega)]; omega, ?_⟩
        have : i - 1 < l.length := by omega
        simp [this]
      refine ⟨i - 1, intE (l.getD (i - 1) 0), And.intro ⟨⟨fun h => h, fun h => h⟩, fun hg => hp ?_⟩ ?_⟩
      · simp only [Bool.and_eq_true, Bool.not_eq_true', decide_eq_true_eq] at hg
        refine ⟨?_, by omega⟩
        have := hg.1
        simpa using this
      repeat' ((conv => whnf); first | refine And.intro (fun h => h) ?_ | refine dcond_t (by assumption) ?_ | refine dcond_f (by assumption) ?_ | (refine dcond_intro ?_ ?_ <;> intro h) | exact .refl | refine And.intro (by kernel_rfl) ?_ | refine And.intro ⟨fun h => h, fun h => h⟩ ?_ | (refine And.intro ?_ ?_; focus (simp; done)) | fail)
      all_goals (conv => whnf)
      · refine dle_bool ?_
        have : riseAt l i = false := by simp only [riseAt, hg, h]; rfl
        rw [riseB, allB_false hlt this]
      · refine ⟨i + 1, ⟨hlt, fun j hj => ?_⟩, by simp only []; omega, ?_⟩
        · rcases Nat.lt_succ_iff_lt_or_eq.1 hj with hj | rfl
          · exact hall j hj
          · simp only [riseAt, hg, h]; rfl
        · exact ⟨by repeat' ((conv => whnf); first | exact trivial | refine And.intro (by (conv => arg 1; whnf); first | (with_reducible exact .refl) | exact dle_int (wrap_succ (by omega)) | exact .refl) ?_), by repeat' ((conv => whnf); first | exact trivial | refine And.intro ?_ ?_ | exact .refl), rfl⟩
    · have hge : ¬ i < l.length := by simpa using h
      conv => whnf
      refine dle_bool ?_
      rw [riseB, allB_true.2 (fun j hj => hall j (by omega))]
def cutRB (l : List Int) : Bool := (decide (1 ≤ (l.length : Int)) && decide ((l.length : Int) ≤ 32)) && riseB l
/-- the checks of lists: the two say the same -/
theorem rise_iff {l : List Int} : riseB l = true ↔ ∀ i, (h : i < l.length) → 1 ≤ l[i] ∧ l[i] ≤ 1000 ∧ (0 < i → l.getD (i - 1) 0 < l[i]) := by
  rw [riseB, allB_true]
  refine forall_congr' fun i => ?_
  constructor
  · intro h hi
    have h := h hi
    have hg : l.getD i 0 = l[i] := by simp [hi]
    simp only [riseAt, hg, Bool.not_eq_true', Bool.or_eq_false_iff, Bool.not_eq_false', Bool.and_eq_true, decide_eq_true_eq, Bool.and_eq_false_iff, decide_eq_false_iff_not] at h
    omega
  · intro h hi
    have h := h hi
    have hg : l.getD i 0 = l[i] := by simp [hi]
    simp only [riseAt, hg, Bool.not_eq_true', Bool.or_eq_false_iff, Bool.not_eq_false', Bool.and_eq_true, decide_eq_true_eq, Bool.and_eq_false_iff, decide_eq_false_iff_not]
    omega
theorem oks_iff {l : List Int} : allB (okAt l) l.length = true ↔ ∀ i, (h : i < l.length) → (0 :: l).getD i 0 < l[i] ∧ l[i] ≤ 1000 := by
  rw [allB_true]
  refine forall_congr' fun i => ?_
  constructor
  · intro h hi
    have h := h hi
    have hg : l.getD i 0 = l[i] := by simp [hi]
    simp only [okAt, hg, Bool.not_eq_true', Bool.or_eq_false_iff, decide_eq_false_iff_not] at h
    omega
  · intro h hi
    have h := h hi
    have hg : l.getD i 0 = l[i] := by simp [hi]
    simp only [okAt, hg, Bool.not_eq_true', Bool.or_eq_false_iff, decide_eq_false_iff_not]
    omega
theorem rise_oks (l : List Int) : riseB l = allB (okAt l) l.length := by
  rw [Bool.eq_iff_iff, rise_iff, oks_iff]
  constructor
  · intro h i hi
    have h1 := h i hi
    cases i with
    | zero => simp; omega
    | succ i => exact ⟨by simpa using h1.2.2 (by omega), h1.2.1⟩
  · intro h i
    induction i with
    | zero => intro hi; have h1 := h 0 hi; simp at h1; exact ⟨by omega, h1.2, fun h => by omega⟩
    | succ i ih =>
      intro hi
      have h1 := h (i + 1) hi
      have h2 := ih (by omega)
      have e : (0 :: l).getD (i + 1) 0 = l[i] := by simp [show i < l.length by omega]
      rw [e] at h1
      exact ⟨by omega, h1.2, fun _ => by simp [show i < l.length by omega]; omega⟩
theorem ids_eq (l : List Int) (m : Int) : idsB l m = ((decide (1 ≤ (l.length : Int)) && decide ((l.length : Int) ≤ m)) && riseB l) := by
  rw [idsB, rise_oks]
  congr 1
  rw [Bool.eq_iff_iff]
  simp only [Bool.not_eq_true', Bool.or_eq_false_iff, decide_eq_false_iff_not, Bool.and_eq_true, decide_eq_true_eq]
  omega
theorem cutRB_eq (l : List Int) : cutRB l = idsB l 32 := by rw [ids_eq, cutRB]
/-! reference 3, second part (expects: splitR, nextR, fitsI, ole_row and the first part) -/
theorem c_ref3_Place (l : List Int) (hl : l.length ≤ maxLen) (x : Int) : Ret Try.prog 14 [.lst 1 (l.map intE) false, .v (.int .i64 x)] (.v (.int .i64 (placeB l x))) := by
  have hl' : l.length ≤ 9223372036854775807 := hl
  refine ret_of_body (fn := Try.f14) (c := Try.f14.body.getD .skip) hm hT (by kernel_rfl) Try.func14 (by kernel_rfl) (by kernel_rfl) (by kernel_rfl) (by kernel_rfl) ?_
  repeat' ((conv => whnf); first | refine And.intro (fun h => h) ?_ | refine dcond_t (by assumption) ?_ | refine dcond_f (by assumption) ?_ | (refine dcond_intro ?_ ?_ <;> intro h) | exact .refl | refine And.intro (by kernel_rfl) ?_ | refine And.intro ⟨fun h => h, fun h => h⟩ ?_ | (refine And.intro ?_ ?_; focus (simp; done)) | fail)
  refine ⟨Nat, fun i => ⟨[(0, .lst 1 (l.map intE) false), (1, .v (.int .i64 x)), (5, i64 i)], []⟩, fun i => i ≤ l.length ∧ ∀ j, j < i → decide (l[j]? = some x) = false, fun i => l.length - i, [], ⟨0, ⟨Nat.zero_le _, by omega⟩, ?_⟩, ?_⟩
  · exact ⟨by repeat' ((conv => whnf); first | exact trivial | refine And.intro (by (conv => arg 1; whnf); first | (with_reducible exact .refl) | exact dle_int (wrap_succ (by omega)) | exact .refl) ?_), by repeat' ((conv => whnf); first | exact trivial | refine And.intro ?_ ?_ | exact .refl), rfl⟩
  · intro i ⟨hi, hall⟩
    repeat' ((conv => whnf); first | refine And.intro (fun h => h) ?_ | refine dcond_t (by assumption) ?_ | refine dcond_f (by assumption) ?_ | (refine dcond_intro ?_ ?_ <;> intro h) | exact .refl | refine And.intro (by kernel_rfl) ?_ | refine And.intro ⟨fun h => h, fun h => h⟩ ?_ | (refine And.intro ?_ ?_; focus (simp; done)) | fail)
    · have hlt : i < l.length := by simpa using h
      repeat' ((conv => whnf); first | refine And.intro (fun h => h) ?_ | refine dcond_t (by assumption) ?_ | refine dcond_f (by assumption) ?_ | (refine dcond_intro ?_ ?_ <;> intro h) | exact .refl | refine And.intro (by kernel_rfl) ?_ | refine And.intro ⟨fun h => h, fun h => h⟩ ?_ | refine ⟨_, _, And.intro ⟨rfl, get_map hlt⟩ ?_⟩ | (refine And.intro ?_ ?_; focus (simp; done)) | fail)
      · have h2 := h
        refine dle_int (findB_at hlt ?_ hall).symm
        simpa [hlt] using h2
      · have h2 := h
        conv => whnf
        refine ⟨i + 1, ⟨hlt, fun j hj => ?_⟩, by simp only []; omega, ?_⟩
        · rcases Nat.lt_succ_iff_lt_or_eq.1 hj with hj | rfl
          · exact hall j hj
          · simpa [hlt] using h2
        · exact ⟨by repeat' ((conv => whnf); first | exact trivial | refine And.intro (by (conv => arg 1; whnf); first | (with_reducible exact .refl) | exact dle_int (wrap_succ (by omega)) | exact .refl) ?_), by repeat' ((conv => whnf); first | exact trivial | refine And.intro ?_ ?_ | exact .refl), rfl⟩
    · have hge : ¬ i < l.length := by simpa using h
      conv => whnf
      refine dle_int (findB_none (fun j hj => hall j (by omega))).symm
theorem c_ref3_Contains (l : List Int) (hl : l.length ≤ maxLen) (x : Int) : Ret Try.prog 8 [.lst 1 (l.map intE) false, .v (.int .i64 x)] (.v (.bool (inB l x))) := by
  refine ret_of_body (fn := Try.f8) (c := Try.f8.body.getD .skip) hm hT (by kernel_rfl) Try.func8 (by kernel_rfl) (by kernel_rfl) (by kernel_rfl) (by kernel_rfl) ?_
  repeat' ((conv => whnf); first | refine And.intro (fun h => h) ?_ | refine dcond_t (by assumption) ?_ | refine dcond_f (by assumption) ?_ | (refine dcond_intro ?_ ?_ <;> intro h) | exact .refl | refine And.intro (by kernel_rfl) ?_ | refine And.intro ⟨fun h => h, fun h => h⟩ ?_ | refine .inl ⟨_, _, DleAll_refl _, c_ref3_Place _ hl _, ?_⟩ | refine ⟨_, _, DleAll_refl _, fun _ => c_ref3_Place _ hl _, ?_⟩ | refine ⟨_, _, DleAll_refl _, c_ref3_Place _ hl _, ?_⟩ | (refine And.intro ?_ ?_; focus (simp; done)) | fail)
def memRB (l : List Int) : Bool := (decide (1 ≤ (l.length : Int)) && decide ((l.length : Int) ≤ 16)) && riseB l
theorem memRB_eq (l : List Int) : memRB l = idsB l 16 := by rw [ids_eq, memRB]
theorem c_ref3_ValidMembers (l : List Int) (hl : l.length ≤ maxLen) : Ret Try.prog 7 [.lst 1 (l.map intE) false] (.v (.bool (idsB l 16))) := by
  rw [← memRB_eq]
  refine ret_of_body (fn := Try.f7) (c := Try.f7.body.getD .skip) hm hT (by kernel_rfl) Try.func7 (by kernel_rfl) (by kernel_rfl) (by kernel_rfl) (by kernel_rfl) ?_
  repeat' ((conv => whnf); first | refine And.intro (fun h => h) ?_ | refine dcond_t (by assumption) ?_ | refine dcond_f (by assumption) ?_ | (refine dcond_intro ?_ ?_ <;> intro h) | exact .refl | refine And.intro (by kernel_rfl) ?_ | refine And.intro ⟨fun h => h, fun h => h⟩ ?_ | refine .inl ⟨_, _, DleAll_refl _, c_ref3_Rising _ hl, ?_⟩ | refine ⟨_, _, DleAll_refl _, fun _ => c_ref3_Rising _ hl, ?_⟩ | refine ⟨_, _, DleAll_refl _, c_ref3_Rising _ hl, ?_⟩ | (refine And.intro ?_ ?_; focus (simp; done)) | fail)
  all_goals (conv => whnf)
  refine dle_bool ?_
  simp only [memRB, List.length_map]
def amongB (m : List Int) (b : Bool) (x : Int) : Bool := inB m x == b
def amongP (l m : List Int) (b : Bool) (i : Nat) : List (List DV) := ((l.take i).filter (amongB m b)).map intE
theorem amongP_len (l m : List Int) (b : Bool) (i : Nat) : (amongP l m b i).length ≤ i := by
  simp only [amongP, List.length_map]
  exact Nat.le_trans (List.length_filter_le _ _) (by simp; omega)
theorem c_ref3_Among (l m : List Int) (hl : l.length ≤ 1000000) (hm' : m.length ≤ maxLen) (b : Bool) : Ret Try.prog 11 [.lst 1 (l.map intE) false, .lst 1 (m.map intE) false, .v (.bool b)] (.lst 1 ((l.filter (amongB m b)).map intE) false) := by
  refine ret_of_body (fn := Try.f11) (c := Try.f11.body.getD .skip) hm hT (by kernel_rfl) Try.func11 (by kernel_rfl) (by kernel_rfl) (by kernel_rfl) (by kernel_rfl) ?_
  repeat' ((conv => whnf); first | refine And.intro (fun h => h) ?_ | refine dcond_t (by assumption) ?_ | refine dcond_f (by assumption) ?_ | (refine dcond_intro ?_ ?_ <;> intro h) | exact .refl | refine And.intro (by kernel_rfl) ?_ | refine And.intro ⟨fun h => h, fun h => h⟩ ?_ | (refine And.intro ?_ ?_; focus (simp; done)) | fail)
  refine ⟨Nat, fun i => ⟨[(0, .lst 1 (l.map intE) false), (1, .lst 1 (m.map intE) false), (2, .v (.bool b)), (7, .own 0), (8, i64 i)], [.row 3 1 (amongP l m b i)]⟩, fun i => i ≤ l.length, fun i => l.length - i, [.slot 7 3 1], ⟨0, Nat.zero_le _, ?_⟩, ?_⟩
  · conv => whnf
    exact ⟨by repeat' ((conv => whnf); first | exact trivial | refine And.intro (by (conv => arg 1; whnf); first | (with_reducible exact .refl) | exact dle_int (wrap_succ (by omega)) | exact .refl) ?_), by repeat' ((conv => whnf); first | exact trivial | refine And.intro ?_ ?_ | exact .refl), rfl⟩
  · intro i hi
    repeat' ((conv => whnf); first | refine And.intro (fun h => h) ?_ | refine dcond_t (by assumption) ?_ | refine dcond_f (by assumption) ?_ | (refine dcond_intro ?_ ?_ <;> intro h) | exact .refl | refine And.intro (by kernel_rfl) ?_ | refine And.intro ⟨fun h => h, fun h => h⟩ ?_ | (refine And.intro ?_ ?_; focus (simp; done)) | fail)
    · have hlt : i < l.length := by simpa using h
      clear h
      repeat' ((conv => whnf); first | refine And.intro (fun h => h) ?_ | refine dcond_t (by assumption) ?_ | refine dcond_f (by assumption) ?_ | (refine dcond_intro ?_ ?_ <;> intro h) | exact .refl | refine And.intro (by kernel_rfl) ?_ | refine And.intro ⟨fun h => h, fun h => h⟩ ?_ | refine ⟨_, _, And.intro ⟨rfl, get_map hlt⟩ ?_⟩ | refine .inl ⟨_, _, DleAll_refl _, c_ref3_Contains _ hm' _, ?_⟩ | refine ⟨_, _, DleAll_refl _, fun _ => c_ref3_Contains _ hm' _, ?_⟩ | refine ⟨_, _, DleAll_refl _, c_ref3_Contains _ hm' _, ?_⟩ | (refine And.intro ?_ ?_; focus (simp; done)) | fail)
      all_goals (conv => whnf)
      · have hA := amongP_len l m b i
        refine And.intro (fitsI (by simp; omega)) ?_
        repeat' ((conv => whnf); first | refine And.intro (fun h => h) ?_ | refine dcond_t (by assumption) ?_ | refine dcond_f (by assumption) ?_ | (refine dcond_intro ?_ ?_ <;> intro h) | exact .refl | refine And.intro (by kernel_rfl) ?_ | refine And.intro ⟨fun h => h, fun h => h⟩ ?_ | (refine And.intro ?_ ?_; focus (simp; done)) | fail)
        all_goals (conv => whnf)
        refine ⟨i + 1, hlt, by simp only []; omega, ?_⟩
        refine ⟨⟨.refl, .refl, .refl, .refl, dle_int (wrap_succ (by omega)), trivial⟩, ⟨ole_row ?_, trivial⟩, rfl⟩
        simp only [amongP, List.take_succ_eq_append_getElem hlt, List.filter_append, List.map_append]
        have h' : amongB m b l[i] = true := h
        simp [List.filter_cons, h', intE, dcells]
      · refine ⟨i + 1, hlt, by simp only []; omega, ?_⟩
        refine ⟨⟨.refl, .refl, .refl, .refl, dle_int (wrap_succ (by omega)), trivial⟩, ⟨ole_row ?_, trivial⟩, rfl⟩
        simp only [amongP, List.take_succ_eq_append_getElem hlt, List.filter_append, List.map_append]
        have h' : amongB m b l[i] = false := h
        simp [List.filter_cons, h']
    · have hge : ¬ i < l.length := by simpa using h
      have : i = l.length := by omega
      subst this
      repeat' ((conv => whnf); first | refine And.intro (fun h => h) ?_ | refine dcond_t (by assumption) ?_ | refine dcond_f (by assumption) ?_ | (refine dcond_intro ?_ ?_ <;> intro h) | exact .refl | refine And.intro (by kernel_rfl) ?_ | refine And.intro ⟨fun h => h, fun h => h⟩ ?_ | (refine And.intro ?_ ?_; focus (simp; done)) | fail)
      all_goals (conv => whnf)
      refine dle_lst ?_
      simp [amongP]
/-- the list so far, and whether the new element is in -/
def insA (l : List Int) (x : Int) : Nat → List Int × Bool
  | 0 => ([], false)
  | i + 1 => bif !(insA l x i).2 && decide (x < l.getD i 0) then ((insA l x i).1 ++ [x] ++ [l.getD i 0], true) else ((insA l x i).1 ++ [l.getD i 0], (insA l x i).2)
def insL (l : List Int) (x : Int) : List Int := bif (insA l x l.length).2 then (insA l x l.length).1 else (insA l x l.length).1 ++ [x]
theorem insA_len (l : List Int) (x : Int) : ∀ i, (insA l x i).1.length ≤ i + 1 ∧ ((insA l x i).2 = false → (insA l x i).1.length ≤ i)
  | 0 => by simp [insA]
  | i + 1 => by
    have ih := insA_len l x i
    simp only [insA]
    cases h : (insA l x i).2 <;> cases h2 : decide (x < l.getD i 0) <;> simp_all <;> omega
theorem insL_len (l : List Int) (x : Int) : (insL l x).length ≤ l.length + 1 := by
  have := insA_len l x l.length
  unfold insL
  cases h : (insA l x l.length).2 <;> simp_all
theorem c_ref3_Insert (l : List Int) (hl : l.length ≤ 1000000) (x : Int) : Ret Try.prog 10 [.lst 1 (l.map intE) false, .v (.int .i64 x)] (.lst 1 ((insL l x).map intE) false) := by
  refine ret_of_body (fn := Try.f10) (c := Try.f10.body.getD .skip) hm hT (by kernel_rfl) Try.func10 (by kernel_rfl) (by kernel_rfl) (by kernel_rfl) (by kernel_rfl) ?_
  repeat' ((conv => whnf); first | refine And.intro (fun h => h) ?_ | refine dcond_t (by assumption) ?_ | refine dcond_f (by assumption) ?_ | (refine dcond_intro ?_ ?_ <;> intro h) | exact .refl | refine And.intro (by kernel_rfl) ?_ | refine And.intro ⟨fun h => h, fun h => h⟩ ?_ | (refine And.intro ?_ ?_; focus (simp; done)) | fail)
  refine ⟨Nat, fun i => ⟨[(0, .lst 1 (l.map intE) false), (1, .v (.int .i64 x)), (5, .own 0), (6, .v (.bool (insA l x i).2)), (7, i64 i)], [.row 3 1 ((insA l x i).1.map intE)]⟩, fun i => i ≤ l.length, fun i => l.length - i, [.slot 5 3 1], ⟨0, Nat.zero_le _, ?_⟩, ?_⟩
  · conv => whnf
    exact ⟨by repeat' ((conv => whnf); first | exact trivial | refine And.intro (by (conv => arg 1; whnf); first | (with_reducible exact .refl) | exact dle_int (wrap_succ (by omega)) | exact .refl) ?_), by repeat' ((conv => whnf); first | exact trivial | refine And.intro ?_ ?_ | exact .refl), rfl⟩
  · intro i hi
    have hA := insA_len l x i
    repeat' ((conv => whnf); first | refine And.intro (fun h => h) ?_ | refine dcond_t (by assumption) ?_ | refine dcond_f (by assumption) ?_ | (refine dcond_intro ?_ ?_ <;> intro h) | exact .refl | refine And.intro (by kernel_rfl) ?_ | refine And.intro ⟨fun h => h, fun h => h⟩ ?_ | (refine And.intro ?_ ?_; focus (simp; done)) | fail)
    · have hlt : i < l.length := by simpa using h
      clear h
      have hg : l.getD i 0 = l[i] := by simp [hlt]
      repeat' ((conv => whnf); first | refine And.intro (fun h => h) ?_ | refine dcond_t (by assumption) ?_ | refine dcond_f (by assumption) ?_ | (refine dcond_intro ?_ ?_ <;> intro h) | exact .refl | refine And.intro (by kernel_rfl) ?_ | refine And.intro ⟨fun h => h, fun h => h⟩ ?_ | refine ⟨_, _, And.intro ⟨rfl, get_map hlt⟩ ?_⟩ | refine ⟨i, intE (l[i]'hlt), And.intro ⟨⟨fun h => h, fun h => h⟩, fun hg => ⟨rfl, get_map hlt⟩⟩ ?_⟩ | (refine And.intro ?_ ?_; focus (simp; done)) | fail)
      all_goals (conv => whnf)
      · have e : insA l x (i + 1) = ((insA l x i).1 ++ [x] ++ [l[i]], true) := by simp only [insA, hg, h, cond_true]
        refine And.intro (fitsI (by simp; omega)) ?_
        repeat' ((conv => whnf); first | refine And.intro (fun h => h) ?_ | refine dcond_t (by assumption) ?_ | refine dcond_f (by assumption) ?_ | (refine dcond_intro ?_ ?_ <;> intro h) | exact .refl | refine And.intro (by kernel_rfl) ?_ | refine And.intro ⟨fun h => h, fun h => h⟩ ?_ | refine ⟨_, _, And.intro ⟨rfl, get_map hlt⟩ ?_⟩ | (refine And.intro ?_ ?_; focus (simp; done)) | fail)
        all_goals (conv => whnf)
        refine And.intro (fitsI (by simp; omega)) ?_
        repeat' ((conv => whnf); first | refine And.intro (fun h => h) ?_ | refine dcond_t (by assumption) ?_ | refine dcond_f (by assumption) ?_ | (refine dcond_intro ?_ ?_ <;> intro h) | exact .refl | refine And.intro (by kernel_rfl) ?_ | refine And.intro ⟨fun h => h, fun h => h⟩ ?_ | (refine And.intro ?_ ?_; focus (simp; done)) | fail)
        all_goals (conv => whnf)
        refine ⟨i + 1, hlt, by simp only []; omega, ?_⟩
        refine ⟨⟨.refl, .refl, .refl, dle_bool (by rw [e]), dle_int (wrap_succ (by omega)), trivial⟩, ⟨ole_row ?_, trivial⟩, rfl⟩
        rw [e]
        simp [intE, dcells]
      · have e : insA l x (i + 1) = ((insA l x i).1 ++ [l[i]], (insA l x i).2) := by simp only [insA, hg, h, cond_false]
        repeat' ((conv => whnf); first | refine And.intro (fun h => h) ?_ | refine dcond_t (by assumption) ?_ | refine dcond_f (by assumption) ?_ | (refine dcond_intro ?_ ?_ <;> intro h) | exact .refl | refine And.intro (by kernel_rfl) ?_ | refine And.intro ⟨fun h => h, fun h => h⟩ ?_ | refine ⟨_, _, And.intro ⟨rfl, get_map hlt⟩ ?_⟩ | (refine And.intro ?_ ?_; focus (simp; done)) | fail)
        all_goals (conv => whnf)
        refine And.intro (fitsI (by simp; omega)) ?_
        repeat' ((conv => whnf); first | refine And.intro (fun h => h) ?_ | refine dcond_t (by assumption) ?_ | refine dcond_f (by assumption) ?_ | (refine dcond_intro ?_ ?_ <;> intro h) | exact .refl | refine And.intro (by kernel_rfl) ?_ | refine And.intro ⟨fun h => h, fun h => h⟩ ?_ | (refine And.intro ?_ ?_; focus (simp; done)) | fail)
        all_goals (conv => whnf)
        refine ⟨i + 1, hlt, by simp only []; omega, ?_⟩
        refine ⟨⟨.refl, .refl, .refl, dle_bool (by rw [e]), dle_int (wrap_succ (by omega)), trivial⟩, ⟨ole_row ?_, trivial⟩, rfl⟩
        rw [e]
        simp [intE, dcells]
    · rename_i hge0
      have hge : ¬ i < l.length := by simpa using hge0
      have : i = l.length := by omega
      subst this
      clear hge0
      have h : (insA l x l.length).2 = false := by simpa using h
      conv => whnf
      refine And.intro (fitsI (by simp; omega)) ?_
      repeat' ((conv => whnf); first | refine And.intro (fun h => h) ?_ | refine dcond_t (by assumption) ?_ | refine dcond_f (by assumption) ?_ | (refine dcond_intro ?_ ?_ <;> intro h) | exact .refl | refine And.intro (by kernel_rfl) ?_ | refine And.intro ⟨fun h => h, fun h => h⟩ ?_ | (refine And.intro ?_ ?_; focus (simp; done)) | fail)
      all_goals (conv => whnf)
      refine dle_lst ?_
      simp only [insL, h, cond_false]
      simp [intE, dcells]
    · rename_i hge0
      have hge : ¬ i < l.length := by simpa using hge0
      have : i = l.length := by omega
      subst this
      clear hge0
      have h : (insA l x l.length).2 = true := by simpa using h
      repeat' ((conv => whnf); first | refine And.intro (fun h => h) ?_ | refine dcond_t (by assumption) ?_ | refine dcond_f (by assumption) ?_ | (refine dcond_intro ?_ ?_ <;> intro h) | exact .refl | refine And.intro (by kernel_rfl) ?_ | refine And.intro ⟨fun h => h, fun h => h⟩ ?_ | (refine And.intro ?_ ?_; focus (simp; done)) | fail)
      all_goals (conv => whnf)
      refine dle_lst ?_
      simp only [insL, h, cond_true]
def insAll : List Int → List Int → List Int
  | l, [] => l
  | l, x :: r => insAll (insL l x) r
def insTo (l j : List Int) : Nat → List Int
  | 0 => l
  | i + 1 => insL (insTo l j i) (j.getD i 0)
theorem insTo_len (l j : List Int) : ∀ i, (insTo l j i).length ≤ l.length + i
  | 0 => Nat.le_refl _
  | i + 1 => by
    have := insTo_len l j i
    have h2 := insL_len (insTo l j i) (j.getD i 0)
    simp only [insTo]
    omega
def nextRR (v : View) (cut : List Int) : View × Int :=
  bif !viewB v || !idsB cut 32 then (⟨0, []⟩, 1)
  else bif decide (2 * ((stayL v cut).length : Int) ≤ (v.mem.length : Int)) then (⟨0, []⟩, 9)
  else bif decide (v.num = 1099511627776) || decide (16 < ((stayL v cut).length : Int) + ((comeL v cut).length : Int)) then (⟨0, []⟩, 5)
  else (⟨IntKind.i64.wrap (v.num + 1), insTo (stayL v cut) (comeL v cut) (comeL v cut).length⟩, 0)
theorem nextRR_err (v : View) (cut : List Int) : (nextRR v cut).2 = (nextR v cut).2 := by
  unfold nextRR nextR
  cases (!viewB v || !idsB cut 32) <;> simp only [cond_true, cond_false]
  cases decide (2 * ((stayL v cut).length : Int) ≤ (v.mem.length : Int)) <;> simp only [cond_true, cond_false]
  cases (decide (v.num = 1099511627776) || decide (16 < ((stayL v cut).length : Int) + ((comeL v cut).length : Int))) <;> simp only [cond_true, cond_false]
theorem view_ids {v : View} (hv : viewB v = true) : idsB v.mem 16 = true := by
  simp only [viewB, Bool.and_eq_true] at hv
  exact hv.2
theorem view_len {v : View} (hv : viewB v = true) : 1 ≤ v.mem.length ∧ v.mem.length ≤ 16 := by
  have hid := view_ids hv
  rw [ids_eq] at hid
  simp only [Bool.and_eq_true, decide_eq_true_eq] at hid
  omega
theorem mem_rise {v : View} (hv : viewB v = true) : 0 < v.mem.length ∧ ∀ i (h : i < v.mem.length), 1 ≤ v.mem[i] ∧ v.mem[i] ≤ 1000 ∧ (0 :: v.mem).getD i 0 < v.mem[i] := by
  have hid := view_ids hv
  have ho := hid
  rw [ids_eq] at hid
  simp only [Bool.and_eq_true, decide_eq_true_eq] at hid
  simp only [idsB, Bool.and_eq_true] at ho
  refine ⟨by omega, fun i h => ?_⟩
  have h1 := rise_iff.1 hid.2 i h
  have h2 := oks_iff.1 ho.2 i h
  exact ⟨h1.1, h1.2.1, h2.1⟩
theorem mem_in {l : List Int} {i : Nat} (h : i < l.length) : inB l l[i] = true := by
  rcases hf : (List.range l.length).find? (fun j => decide (l[j]? = some l[i])) with _ | n
  · have := List.find?_eq_none.1 hf i (List.mem_range.2 h)
    simp [h] at this
  · simp only [inB, placeB, findB, hf]
    exact decide_eq_true (by omega)
theorem in_iff {l : List Int} {x : Int} : inB l x = true ↔ x ∈ l := by
  constructor
  · intro h
    rcases hf : (List.range l.length).find? (fun i => decide (l[i]? = some x)) with _ | n
    · simp only [inB, placeB, findB, hf] at h
      cases h
    · have hp := List.find?_some hf
      simp only [decide_eq_true_eq] at hp
      exact List.mem_of_getElem? hp
  · intro h
    obtain ⟨i, hi, rfl⟩ := List.getElem_of_mem h
    exact mem_in hi
theorem sameI_refl (l : List Int) : sameI l l = true := by
  simp only [sameI, decide_true, Bool.true_and]
  exact allB_true.2 (fun j _ => by simp)
theorem sameI_iff {a b : List Int} : sameI a b = true ↔ a = b := by
  constructor
  · intro h
    simp only [sameI, Bool.and_eq_true, decide_eq_true_eq, allB_true] at h
    refine List.ext_getElem (by omega) fun i h1 h2 => ?_
    have := h.2 i h1
    simpa [h1, h2] using this
  · rintro rfl
    exact sameI_refl a
theorem dat_ints {n : Nat} {r : List DV} (h : Dat tt (n + 2) 22 r) : ∃ l : List Int, r = [.lst 1 (l.map intE) false] ∧ l.length ≤ maxLen := by
  obtain ⟨es, rfl, hl, hes⟩ := h
  obtain ⟨d, rfl, _⟩ := list_data (f := intE) (Q := fun _ => True) (fun r hr => by
    obtain ⟨i, rfl, _⟩ := hes r hr
    exact ⟨i, rfl, trivial⟩)
  exact ⟨d, rfl, by simpa using hl⟩
theorem dat_view {n : Nat} {r : List DV} (h : Dat tt (n + 3) 44 r) : ∃ a : View, r = viewE a ∧ a.mem.length ≤ maxLen := by
  obtain ⟨p, q, rfl, ⟨np, rfl, _⟩, l, s, rfl, hl, rfl⟩ := h
  obtain ⟨l, rfl, hll⟩ := dat_ints (n := n) hl
  exact ⟨⟨np, l⟩, rfl, hll⟩
end Go.Proofs.Ytejmeihfdddnmaa

set_option linter.unusedSimpArgs false
set_option linter.unusedVariables false
namespace Go.Proofs.Ytejmeihfdddnmaa
open Go.Lift
/-! package cmp, at integers -/
def cmpI (a b : Int) : Int := bif decide (a < b) then -1 else bif decide (b < a) then 1 else 0
theorem cmp_iff (a b : Int) : (cmpI a b < 0 ↔ a < b) ∧ (cmpI a b = 0 ↔ a = b) ∧ (cmpI a b = -1 ∨ cmpI a b = 0 ∨ cmpI a b = 1) := by
  unfold cmpI
  by_cases h1 : a < b
  · simp [h1]; omega
  · by_cases h2 : b < a
    · simp [h1, h2]; omega
    · simp [h1, h2]; omega
theorem c_isNaN_u64 (a : Int) : Ret Try.prog 36 [.v (.int .u64 a)] (.v (.bool false)) := by
  refine ret_of_body (fn := Try.f36) (c := Try.f36.body.getD .skip) hm hT (by kernel_rfl) Try.func36 (by kernel_rfl) (by kernel_rfl) (by kernel_rfl) (by kernel_rfl) ?_
  repeat' ((conv => whnf); first | refine And.intro (fun h => h) ?_ | refine dcond_t (by assumption) ?_ | refine dcond_f (by assumption) ?_ | (refine dcond_intro ?_ ?_ <;> intro h) | exact .refl | refine And.intro (by kernel_rfl) ?_ | refine And.intro ⟨fun h => h, fun h => h⟩ ?_ | (refine And.intro ?_ ?_; focus (simp; done)) | fail)
  all_goals (conv => whnf)
  refine dle_bool ?_
  simp
theorem c_isNaN_int (a : Int) : Ret Try.prog 37 [.v (.int .i64 a)] (.v (.bool false)) := by
  refine ret_of_body (fn := Try.f37) (c := Try.f37.body.getD .skip) hm hT (by kernel_rfl) Try.func37 (by kernel_rfl) (by kernel_rfl) (by kernel_rfl) (by kernel_rfl) ?_
  repeat' ((conv => whnf); first | refine And.intro (fun h => h) ?_ | refine dcond_t (by assumption) ?_ | refine dcond_f (by assumption) ?_ | (refine dcond_intro ?_ ?_ <;> intro h) | exact .refl | refine And.intro (by kernel_rfl) ?_ | refine And.intro ⟨fun h => h, fun h => h⟩ ?_ | (refine And.intro ?_ ?_; focus (simp; done)) | fail)
  all_goals (conv => whnf)
  refine dle_bool ?_
  simp
theorem c_Compare_u64 (a b : Int) : Ret Try.prog 26 [.v (.int .u64 a), .v (.int .u64 b)] (.v (.int .i64 (cmpI a b))) := by
  refine ret_of_body (fn := Try.f26) (c := Try.f26.body.getD .skip) hm hT (by kernel_rfl) Try.func26 (by kernel_rfl) (by kernel_rfl) (by kernel_rfl) (by kernel_rfl) ?_
  repeat' ((conv => whnf); first | refine And.intro (fun h => h) ?_ | refine dcond_t (by assumption) ?_ | refine dcond_f (by assumption) ?_ | (refine dcond_intro ?_ ?_ <;> intro h) | exact .refl | refine And.intro (by kernel_rfl) ?_ | refine And.intro ⟨fun h => h, fun h => h⟩ ?_ | refine .inl ⟨_, _, DleAll_refl _, c_isNaN_u64 _, ?_⟩ | refine ⟨_, _, DleAll_refl _, fun _ => c_isNaN_u64 _, ?_⟩ | refine ⟨_, _, DleAll_refl _, c_isNaN_u64 _, ?_⟩ | (refine And.intro ?_ ?_; focus (simp; done)) | fail)
  all_goals (conv => whnf)
  all_goals refine dle_int ?_
  all_goals simp only [cmpI, *, cond_true, cond_false]
theorem c_Compare_int (a b : Int) : Ret Try.prog 27 [.v (.int .i64 a), .v (.int .i64 b)] (.v (.int .i64 (cmpI a b))) := by
  refine ret_of_body (fn := Try.f27) (c := Try.f27.body.getD .skip) hm hT (by kernel_rfl) Try.func27 (by kernel_rfl) (by kernel_rfl) (by kernel_rfl) (by kernel_rfl) ?_
  repeat' ((conv => whnf); first | refine And.intro (fun h => h) ?_ | refine dcond_t (by assumption) ?_ | refine dcond_f (by assumption) ?_ | (refine dcond_intro ?_ ?_ <;> intro h) | exact .refl | refine And.intro (by kernel_rfl) ?_ | refine And.intro ⟨fun h => h, fun h => h⟩ ?_ | refine .inl ⟨_, _, DleAll_refl _, c_isNaN_int _, ?_⟩ | refine ⟨_, _, DleAll_refl _, fun _ => c_isNaN_int _, ?_⟩ | refine ⟨_, _, DleAll_refl _, c_isNaN_int _, ?_⟩ | (refine And.intro ?_ ?_; focus (simp; done)) | fail)
  all_goals (conv => whnf)
  all_goals refine dle_int ?_
  all_goals simp only [cmpI, *, cond_true, cond_false]
end Go.Proofs.Ytejmeihfdddnmaa

set_option linter.unusedSimpArgs false
set_option linter.unusedVariables false
namespace Go.Proofs.Ytejmeihfdddnmaa
open Go.Lift
/-! package hashing -/
def u64 (n : Int) : DV := .v (.int .u64 n)
def mix1 (x s f : Int) : Int := IntKind.u64.wrap (bits .xor .u64 x (x.fdiv (2 ^ (min s.toNat 64))) * f)
def mixAt (x : Int) : Nat → Int
  | 0 => x
  | 1 => mix1 x 30 13787848793156543929
  | _ => mix1 (mix1 x 30 13787848793156543929) 27 10723151780598845931
def mixR (x : Int) : Int := bits .xor .u64 (mixAt x 2) ((mixAt x 2).fdiv (2 ^ (min (31 : Int).toNat 64)))
theorem c_shifts : Ret Try.prog 39 [] (.agg [u64 30, u64 27, u64 31]) := by
  refine ret_of_body (fn := Try.f39) (c := Try.f39.body.getD .skip) hm hT (by kernel_rfl) Try.func39 (by kernel_rfl) (by kernel_rfl) (by kernel_rfl) (by kernel_rfl) ?_
  repeat' ((conv => whnf); first | refine And.intro (fun h => h) ?_ | refine dcond_t (by assumption) ?_ | refine dcond_f (by assumption) ?_ | (refine dcond_intro ?_ ?_ <;> intro h) | exact .refl | refine And.intro (by kernel_rfl) ?_ | refine And.intro ⟨fun h => h, fun h => h⟩ ?_ | (refine And.intro ?_ ?_; focus (simp; done)) | fail)
theorem c_factors : Ret Try.prog 40 [] (.agg [u64 13787848793156543929, u64 10723151780598845931]) := by
  refine ret_of_body (fn := Try.f40) (c := Try.f40.body.getD .skip) hm hT (by kernel_rfl) Try.func40 (by kernel_rfl) (by kernel_rfl) (by kernel_rfl) (by kernel_rfl) ?_
  repeat' ((conv => whnf); first | refine And.intro (fun h => h) ?_ | refine dcond_t (by assumption) ?_ | refine dcond_f (by assumption) ?_ | (refine dcond_intro ?_ ?_ <;> intro h) | exact .refl | refine And.intro (by kernel_rfl) ?_ | refine And.intro ⟨fun h => h, fun h => h⟩ ?_ | (refine And.intro ?_ ?_; focus (simp; done)) | fail)
theorem c_Mix (x : Int) : Ret Try.prog 32 [u64 x] (u64 (mixR x)) := by
  refine ret_of_body (fn := Try.f32) (c := Try.f32.body.getD .skip) hm hT (by kernel_rfl) Try.func32 (by kernel_rfl) (by kernel_rfl) (by kernel_rfl) (by kernel_rfl) ?_
  repeat' ((conv => whnf); first | refine And.intro (fun h => h) ?_ | refine dcond_t (by assumption) ?_ | refine dcond_f (by assumption) ?_ | (refine dcond_intro ?_ ?_ <;> intro h) | exact .refl | refine And.intro (by kernel_rfl) ?_ | refine And.intro ⟨fun h => h, fun h => h⟩ ?_ | refine .inl ⟨_, _, DleAll_refl _, c_shifts, ?_⟩ | refine ⟨_, _, DleAll_refl _, fun _ => c_shifts, ?_⟩ | refine ⟨_, _, DleAll_refl _, c_shifts, ?_⟩ | refine .inl ⟨_, _, DleAll_refl _, c_factors, ?_⟩ | refine ⟨_, _, DleAll_refl _, fun _ => c_factors, ?_⟩ | refine ⟨_, _, DleAll_refl _, c_factors, ?_⟩ | (refine And.intro ?_ ?_; focus (simp; done)) | fail)
  refine ⟨Nat, fun i => ⟨[(0, u64 (mixAt x i)), (3, .lp 0 0), (4, .lp 1 0), (8, i64 i)], [.cells 63 [u64 30, u64 27, u64 31], .cells 65 [u64 13787848793156543929, u64 10723151780598845931]]⟩, fun i => i ≤ 2, fun i => 2 - i, [], ⟨0, Nat.zero_le _, ?_⟩, ?_⟩
  · exact ⟨by repeat' ((conv => whnf); first | exact trivial | refine And.intro (by (conv => arg 1; whnf); first | (with_reducible exact .refl) | exact dle_int (wrap_succ (by omega)) | exact .refl) ?_), by repeat' ((conv => whnf); first | exact trivial | refine And.intro ?_ ?_ | exact .refl), rfl⟩
  · intro i hi
    repeat' ((conv => whnf); first | refine And.intro (fun h => h) ?_ | refine dcond_t (by assumption) ?_ | refine dcond_f (by assumption) ?_ | (refine dcond_intro ?_ ?_ <;> intro h) | exact .refl | refine And.intro (by kernel_rfl) ?_ | refine And.intro ⟨fun h => h, fun h => h⟩ ?_ | (refine And.intro ?_ ?_; focus (simp; done)) | fail)
    · have hlt : i < 2 := by
        simp at h
        omega
      clear h
      have hc : i = 0 ∨ i = 1 := by omega
      rcases hc with rfl | rfl
      · repeat' ((conv => whnf); first | refine And.intro (fun h => h) ?_ | refine dcond_t (by assumption) ?_ | refine dcond_f (by assumption) ?_ | (refine dcond_intro ?_ ?_ <;> intro h) | exact .refl | refine And.intro (by kernel_rfl) ?_ | refine And.intro ⟨fun h => h, fun h => h⟩ ?_ | refine ⟨0, And.intro ⟨rfl, by decide⟩ ?_⟩ | refine ⟨.v (.int .u64 30), And.intro rfl ?_⟩ | refine ⟨.v (.int .u64 13787848793156543929), And.intro rfl ?_⟩ | (refine And.intro ?_ ?_; focus (simp; done)) | fail)
        all_goals (conv => whnf)
        refine ⟨1, by omega, by decide, ?_⟩
        exact ⟨⟨dle_int rfl, .refl, .refl, .refl, trivial⟩, ⟨.refl, .refl, trivial⟩, rfl⟩
      · repeat' ((conv => whnf); first | refine And.intro (fun h => h) ?_ | refine dcond_t (by assumption) ?_ | refine dcond_f (by assumption) ?_ | (refine dcond_intro ?_ ?_ <;> intro h) | exact .refl | refine And.intro (by kernel_rfl) ?_ | refine And.intro ⟨fun h => h, fun h => h⟩ ?_ | refine ⟨1, And.intro ⟨rfl, by decide⟩ ?_⟩ | refine ⟨.v (.int .u64 27), And.intro rfl ?_⟩ | refine ⟨.v (.int .u64 10723151780598845931), And.intro rfl ?_⟩ | (refine And.intro ?_ ?_; focus (simp; done)) | fail)
        all_goals (conv => whnf)
        refine ⟨2, by omega, by decide, ?_⟩
        exact ⟨⟨dle_int rfl, .refl, .refl, .refl, trivial⟩, ⟨.refl, .refl, trivial⟩, rfl⟩
    · have : i = 2 := by
        simp at h
        omega
      subst this
      repeat' ((conv => whnf); first | refine And.intro (fun h => h) ?_ | refine dcond_t (by assumption) ?_ | refine dcond_f (by assumption) ?_ | (refine dcond_intro ?_ ?_ <;> intro h) | exact .refl | refine And.intro (by kernel_rfl) ?_ | refine And.intro ⟨fun h => h, fun h => h⟩ ?_ | (refine And.intro ?_ ?_; focus (simp; done)) | fail)
      all_goals (conv => whnf)
      all_goals trace_state
def combR (h x : Int) : Int := mixR (IntKind.u64.wrap (h + IntKind.u64.wrap (11400714819323198485 * IntKind.u64.wrap (x + 1))))
theorem c_Combine (h x : Int) : Ret Try.prog 21 [u64 h, u64 x] (u64 (combR h x)) := by
  refine ret_of_body (fn := Try.f21) (c := Try.f21.body.getD .skip) hm hT (by kernel_rfl) Try.func21 (by kernel_rfl) (by kernel_rfl) (by kernel_rfl) (by kernel_rfl) ?_
  repeat' ((conv => whnf); first | refine And.intro (fun h => h) ?_ | refine dcond_t (by assumption) ?_ | refine dcond_f (by assumption) ?_ | (refine dcond_intro ?_ ?_ <;> intro h) | exact .refl | refine And.intro (by kernel_rfl) ?_ | refine And.intro ⟨fun h => h, fun h => h⟩ ?_ | refine .inl ⟨_, _, DleAll_refl _, c_Mix _, ?_⟩ | refine ⟨_, _, DleAll_refl _, fun _ => c_Mix _, ?_⟩ | refine ⟨_, _, DleAll_refl _, c_Mix _, ?_⟩ | (refine And.intro ?_ ?_; focus (simp; done)) | fail)
def tokR (m i : Int) : Int := combR (combR 500085515630 (IntKind.u64.wrap m)) (IntKind.u64.wrap i)
theorem c_Token (m i : Int) : Ret Try.prog 15 [i64 m, i64 i] (u64 (tokR m i)) := by
  refine ret_of_body (fn := Try.f15) (c := Try.f15.body.getD .skip) hm hT (by kernel_rfl) Try.func15 (by kernel_rfl) (by kernel_rfl) (by kernel_rfl) (by kernel_rfl) ?_
  repeat' ((conv => whnf); first | refine And.intro (fun h => h) ?_ | refine dcond_t (by assumption) ?_ | refine dcond_f (by assumption) ?_ | (refine dcond_intro ?_ ?_ <;> intro h) | exact .refl | refine And.intro (by kernel_rfl) ?_ | refine And.intro ⟨fun h => h, fun h => h⟩ ?_ | refine .inl ⟨_, _, DleAll_refl _, c_Combine _ _, ?_⟩ | refine ⟨_, _, DleAll_refl _, fun _ => c_Combine _ _, ?_⟩ | refine ⟨_, _, DleAll_refl _, c_Combine _ _, ?_⟩ | (refine And.intro ?_ ?_; focus (simp; done)) | fail)
def posR (r m : Int) : Int := combR (IntKind.u64.wrap r) (IntKind.u64.wrap m)
end Go.Proofs.Ytejmeihfdddnmaa

set_option linter.unusedSimpArgs false
set_option linter.unusedVariables false
namespace Go.Proofs.Ytejmeihfdddnmaa
open Go.Lift
open Go.Sort (SWO)
/-- a sorted list of a strict weak order -/
def sortL {β : Type} (cf : β → β → Int) (l : List β) : List β := l.mergeSort fun x y => !Go.Proofs.ltOf cf y x
theorem sortL_perm {β : Type} (cf : β → β → Int) (l : List β) : (sortL cf l).Perm l := List.mergeSort_perm _ _
theorem sortL_sorted {β : Type} {cf : β → β → Int} (hO : SWO (Go.Proofs.ltOf cf)) (l : List β) : (sortL cf l).Pairwise fun x y => Go.Proofs.ltOf cf y x = false := by
  have h := List.pairwise_mergeSort (le := fun x y => !Go.Proofs.ltOf cf y x) (fun a b c h1 h2 => by
    simp only [Bool.not_eq_true'] at *
    exact hO.ntrans _ _ _ h2 h1) (fun a b => by
    cases h : Go.Proofs.ltOf cf b a
    · simp
    · cases h2 : Go.Proofs.ltOf cf a b
      · simp
      · have := hO.trans _ _ _ h h2
        rw [hO.irrefl] at this
        cases this) l
  exact h.imp fun h => by simpa using h
theorem sortL_mem {β : Type} {cf : β → β → Int} {l : List β} {x : β} : x ∈ sortL cf l ↔ x ∈ l := (sortL_perm cf l).mem_iff
theorem sortL_len {β : Type} (cf : β → β → Int) (l : List β) : (sortL cf l).length = l.length := (sortL_perm cf l).length_eq
theorem sorted_eq {β : Type} {cf : β → β → Int} (hanti : ∀ x y, Go.Proofs.ltOf cf x y = false → Go.Proofs.ltOf cf y x = false → x = y) {l l' : List β} (hp : l.Perm l') (h1 : l.Pairwise fun x y => Go.Proofs.ltOf cf y x = false) (h2 : l'.Pairwise fun x y => Go.Proofs.ltOf cf y x = false) : l = l' :=
  List.Perm.eq_of_pairwise (le := fun x y => Go.Proofs.ltOf cf y x = false) (fun a b _ _ h1 h2 => hanti a b h2 h1) h1 h2 hp
end Go.Proofs.Ytejmeihfdddnmaa

set_option linter.unusedSimpArgs false
set_option linter.unusedVariables false
namespace Go.Proofs.Ytejmeihfdddnmaa
open Go.Lift
open Go.Sort (SWO)
/-! package ring -/
structure Tok where
  pos : Int
  mem : Int
  ix : Int
def tok0 : Tok := ⟨0, 0, 0⟩
def tokE (t : Tok) : List DV := [u64 t.pos, i64 t.mem, i64 t.ix]
def orI (l : List Int) : Int := (l.find? fun x => !decide (x = 0)).getD 0
theorem orI_at {l : List Int} {i : Nat} (hi : i < l.length) (h : l[i] ≠ 0) (hall : ∀ j, j < i → l.getD j 0 = 0) : orI l = l[i] := by
  have : l.find? (fun x => !decide (x = 0)) = some l[i] := List.find?_eq_some_iff_getElem.2 ⟨by simp [h], i, hi, rfl, fun j hj => by
    have := hall j hj
    have hjl : j < l.length := by omega
    simp [hjl] at this
    simp [this]⟩
  simp [orI, this]
theorem orI_none {l : List Int} (hall : ∀ j, j < l.length → l.getD j 0 = 0) : orI l = 0 := by
  have : l.find? (fun x => !decide (x = 0)) = none := List.find?_eq_none.2 fun x hx => by
    obtain ⟨j, hj, rfl⟩ := List.getElem_of_mem hx
    have := hall j hj
    simp [hj] at this
    simp [this]
  simp [orI, this]
theorem c_cmp_Or (l : List Int) (hl : l.length ≤ maxLen) : Ret Try.prog 25 [.lst 1 (l.map intE) false] (i64 (orI l)) := by
  have hl' : l.length ≤ 9223372036854775807 := hl
  refine ret_of_body (fn := Try.f25) (c := Try.f25.body.getD .skip) hm hT (by kernel_rfl) Try.func25 (by kernel_rfl) (by kernel_rfl) (by kernel_rfl) (by kernel_rfl) ?_
  repeat' ((conv => whnf); first | refine And.intro (fun h => h) ?_ | refine dcond_t (by assumption) ?_ | refine dcond_f (by assumption) ?_ | (refine dcond_intro ?_ ?_ <;> intro h) | exact .refl | refine And.intro (by kernel_rfl) ?_ | refine And.intro ⟨fun h => h, fun h => h⟩ ?_ | (refine And.intro ?_ ?_; focus (simp; done)) | fail)
  refine ⟨Nat, fun i => ⟨[(3, i64 0), (6, .lst 1 (l.map intE) false), (7, i64 l.length), (8, i64 i)], []⟩, fun i => i ≤ l.length ∧ ∀ j, j < i → l.getD j 0 = 0, fun i => l.length - i, [], ⟨0, ⟨Nat.zero_le _, by omega⟩, ?_⟩, ?_⟩
  · exact ⟨⟨.refl, .refl, dle_int (by simp), .refl, trivial⟩, trivial, rfl⟩
  · intro i ⟨hi, hall⟩
    repeat' ((conv => whnf); first | refine And.intro (fun h => h) ?_ | refine dcond_t (by assumption) ?_ | refine dcond_f (by assumption) ?_ | (refine dcond_intro ?_ ?_ <;> intro h) | exact .refl | refine And.intro (by kernel_rfl) ?_ | refine And.intro ⟨fun h => h, fun h => h⟩ ?_ | (refine And.intro ?_ ?_; focus (simp; done)) | fail)
    · have hlt : i < l.length := by simpa using h
      clear h
      repeat' ((conv => whnf); first | refine And.intro (fun h => h) ?_ | refine dcond_t (by assumption) ?_ | refine dcond_f (by assumption) ?_ | (refine dcond_intro ?_ ?_ <;> intro h) | exact .refl | refine And.intro (by kernel_rfl) ?_ | refine And.intro ⟨fun h => h, fun h => h⟩ ?_ | refine ⟨_, _, And.intro ⟨rfl, get_map hlt⟩ ?_⟩ | (refine And.intro ?_ ?_; focus (simp; done)) | fail)
      all_goals (conv => whnf)
      · refine dle_int ?_
        rw [orI_at hlt (by simpa using h) hall]
      · refine ⟨i + 1, ⟨hlt, fun j hj => ?_⟩, by simp only []; omega, ?_⟩
        · rcases Nat.lt_succ_iff_lt_or_eq.1 hj with hj | rfl
          · exact hall j hj
          · simp [hlt]
            simpa using h
        · exact ⟨by repeat' ((conv => whnf); first | exact trivial | refine And.intro (by (conv => arg 1; whnf); first | (with_reducible exact .refl) | exact dle_int (wrap_succ (by omega)) | exact .refl) ?_), by repeat' ((conv => whnf); first | exact trivial | refine And.intro ?_ ?_ | exact .refl), rfl⟩
    · have hge : ¬ i < l.length := by simpa using h
      conv => whnf
      refine dle_int ?_
      rw [orI_none (fun j hj => hall j (by omega))]
def cmpTok (a b : Tok) : Int := orI [cmpI a.pos b.pos, cmpI a.mem b.mem, cmpI a.ix b.ix]
theorem cmpTok_eq (a b : Tok) : cmpTok a b = if cmpI a.pos b.pos = 0 then (if cmpI a.mem b.mem = 0 then cmpI a.ix b.ix else cmpI a.mem b.mem) else cmpI a.pos b.pos := by
  unfold cmpTok orI
  by_cases h1 : cmpI a.pos b.pos = 0
  · by_cases h2 : cmpI a.mem b.mem = 0
    · by_cases h3 : cmpI a.ix b.ix = 0 <;> simp [h1, h2, h3]
    · simp [h1, h2]
  · simp [h1]
def ltTok (a b : Tok) : Prop := a.pos < b.pos ∨ a.pos = b.pos ∧ (a.mem < b.mem ∨ a.mem = b.mem ∧ a.ix < b.ix)
theorem ltTok_iff (a b : Tok) : Go.Proofs.ltOf cmpTok a b = true ↔ ltTok a b := by
  have h1 := cmp_iff a.pos b.pos
  have h2 := cmp_iff a.mem b.mem
  have h3 := cmp_iff a.ix b.ix
  simp only [Go.Proofs.ltOf, decide_eq_true_eq, cmpTok_eq, ltTok]
  split
  · split <;> omega
  · omega
theorem tok_swo : SWO (Go.Proofs.ltOf cmpTok) where
  irrefl x := by
    cases h : Go.Proofs.ltOf cmpTok x x
    · rfl
    · rw [ltTok_iff] at h; simp only [ltTok] at h; omega
  trans x y z h1 h2 := by
    rw [ltTok_iff] at *
    simp only [ltTok] at *
    omega
  ntrans x y z h1 h2 := by
    cases h : Go.Proofs.ltOf cmpTok x z
    · rfl
    · rw [← Bool.not_eq_true, ltTok_iff] at h1 h2
      rw [ltTok_iff] at h
      simp only [ltTok] at *
      omega
theorem tok_anti (x y : Tok) (h1 : Go.Proofs.ltOf cmpTok x y = false) (h2 : Go.Proofs.ltOf cmpTok y x = false) : x = y := by
  rw [← Bool.not_eq_true, ltTok_iff] at h1 h2
  simp only [ltTok] at *
  obtain ⟨a, b, c⟩ := x
  obtain ⟨a', b', c'⟩ := y
  simp only at *
  have : a = a' := by omega
  have : b = b' := by omega
  have : c = c' := by omega
  subst_vars
  rfl
theorem c_ring_Table_1 (a b : Tok) : Ret Try.prog 24 [.agg (tokE a), .agg (tokE b)] (i64 (cmpTok a b)) := by
  have e := c_cmp_Or [cmpI a.pos b.pos, cmpI a.mem b.mem, cmpI a.ix b.ix] (by simp only [List.length_cons, List.length_nil]; decide)
  refine ret_of_body (fn := Try.f24) (c := Try.f24.body.getD .skip) hm hT (by kernel_rfl) Try.func24 (by kernel_rfl) (by kernel_rfl) (by kernel_rfl) (by kernel_rfl) ?_
  repeat' ((conv => whnf); first | refine And.intro (fun h => h) ?_ | refine dcond_t (by assumption) ?_ | refine dcond_f (by assumption) ?_ | (refine dcond_intro ?_ ?_ <;> intro h) | exact .refl | refine And.intro (by kernel_rfl) ?_ | refine And.intro ⟨fun h => h, fun h => h⟩ ?_ | refine .inl ⟨_, _, DleAll_refl _, c_Compare_u64 _ _, ?_⟩ | refine ⟨_, _, DleAll_refl _, fun _ => c_Compare_u64 _ _, ?_⟩ | refine ⟨_, _, DleAll_refl _, c_Compare_u64 _ _, ?_⟩ | refine .inl ⟨_, _, DleAll_refl _, c_Compare_int _ _, ?_⟩ | refine ⟨_, _, DleAll_refl _, fun _ => c_Compare_int _ _, ?_⟩ | refine ⟨_, _, DleAll_refl _, c_Compare_int _ _, ?_⟩ | refine .inl ⟨_, _, DleAll_refl _, e, ?_⟩ | refine ⟨_, _, DleAll_refl _, fun _ => e, ?_⟩ | refine ⟨_, _, DleAll_refl _, e, ?_⟩ | (refine And.intro ?_ ?_; focus (simp; done)) | fail)
def tokM (m : Int) : List Tok := (List.range 8).map fun (i : Nat) => (⟨tokR m (i : Int), m, (i : Int)⟩ : Tok)
def toksOf (ms : List Int) : List Tok := ms.flatMap tokM
theorem toks_len (ms : List Int) : (toksOf ms).length = 8 * ms.length := by
  induction ms with
  | nil => rfl
  | cons m ms ih =>
    have : toksOf (m :: ms) = tokM m ++ toksOf ms := rfl
    rw [this, List.length_append, ih]
    simp [tokM]
    omega
def tableR (ms : List Int) : List Tok := bif idsB ms 16 then sortL cmpTok (toksOf ms) else []
theorem sort_ok (l : List Tok) (hl : l.length ≤ 1000000) : RetM Try.prog 23 [.row 40 3 (l.map tokE)] [.own 0, .fn (.func 24) []] [true] [.row 40 3 ((sortL cmpTok l).map tokE)] (.tup []) :=
  sort_retM (agg := true) (fun vs w => Try.sortTok.f6.enters rfl vs w) (sortC_k Try.sortTok Try.isAgg40 Try.sizeOf40 _) (fun p cap fv w => AnyF.slices_SortFunc_none Try.sortTok p cap fv w)
    tokE l (sortL cmpTok l) cmpTok tok_swo (fun x _ y _ => tok_anti x y) (sortL_perm _ _) (sortL_sorted tok_swo _) (by omega) [] (by simp) (fun h => by cases h) (fun x _ y _ => c_ring_Table_1 x y)
end Go.Proofs.Ytejmeihfdddnmaa

set_option linter.unusedSimpArgs false
set_option linter.unusedVariables false
namespace Go.Proofs.Ytejmeihfdddnmaa
open Go.Lift
theorem fitsT {n : Nat} (h : n ≤ 2000000) : fitsIn tt 40 n := by
  have e : (tinfo tt 40).bytes = 24 := by kernel_rfl
  refine ⟨?_, ?_⟩
  · rw [e]; omega
  · simp only [maxLen]; omega
theorem toks_take {ms : List Int} {i : Nat} (h : i < ms.length) : toksOf (ms.take (i + 1)) = toksOf (ms.take i) ++ tokM ms[i] := by
  unfold toksOf
  rw [List.take_succ_eq_append_getElem h, List.flatMap_append, List.flatMap_cons, List.flatMap_nil, List.append_nil]
theorem tokM_take (m : Int) {i : Nat} (h : i < 8) : (tokM m).take (i + 1) = (tokM m).take i ++ [⟨tokR m i, m, i⟩] := by
  have hl : i < (tokM m).length := by simp [tokM, h]
  rw [List.take_succ_eq_append_getElem hl]
  simp [tokM]
set_option maxRecDepth 100000 in
theorem c_ring_Table (ms : List Int) (hl : ms.length ≤ maxLen) : Ret Try.prog 16 [.lst 1 (ms.map intE) false] (.lst 3 ((tableR ms).map tokE) false) := by
  have hl' : ms.length ≤ 9223372036854775807 := hl
  refine ret_of_body (fn := Try.f16) (c := Try.f16.body.getD .skip) hm hT (by kernel_rfl) Try.func16 (by kernel_rfl) (by kernel_rfl) (by kernel_rfl) (by kernel_rfl) ?_
  repeat' ((conv => whnf); first | refine And.intro (fun h => h) ?_ | refine dcond_t (by assumption) ?_ | refine dcond_f (by assumption) ?_ | (refine dcond_intro ?_ ?_ <;> intro h) | exact .refl | refine And.intro (by kernel_rfl) ?_ | refine And.intro ⟨fun h => h, fun h => h⟩ ?_ | refine .inl ⟨_, _, DleAll_refl _, c_view_ValidMembers ms hl, ?_⟩ | refine ⟨_, _, DleAll_refl _, fun _ => c_view_ValidMembers ms hl, ?_⟩ | refine ⟨_, _, DleAll_refl _, c_view_ValidMembers ms hl, ?_⟩ | (refine And.intro ?_ ?_; focus (simp; done)) | fail)
  · have h : idsB ms 16 = false := by simpa using h
    simp only [tableR, h, cond_false]
    exact .nl
  · have hv : idsB ms 16 = true := by simpa using h
    clear h
    have h16 : ms.length ≤ 16 := by
      have := hv
      rw [ids_eq] at this
      simp only [Bool.and_eq_true, decide_eq_true_eq] at this
      omega
    conv => whnf
    refine ⟨Nat, fun i => ⟨[(3, .own 0), (10, .lst 1 (ms.map intE) false), (11, i64 ms.length), (12, i64 i)], [.row 40 3 ((toksOf (ms.take i)).map tokE)]⟩, fun i => i ≤ ms.length, fun i => ms.length - i, [.slot 3 40 3], ⟨0, Nat.zero_le _, ?_⟩, ?_⟩
    · conv => whnf
      exact ⟨⟨.refl, .refl, dle_int (by simp), .refl, trivial⟩, ⟨.refl, trivial⟩, rfl⟩
    · intro i hi
      repeat' ((conv => whnf); first | refine And.intro (fun h => h) ?_ | refine dcond_t (by assumption) ?_ | refine dcond_f (by assumption) ?_ | (refine dcond_intro ?_ ?_ <;> intro h) | exact .refl | refine And.intro (by kernel_rfl) ?_ | refine And.intro ⟨fun h => h, fun h => h⟩ ?_ | (refine And.intro ?_ ?_; focus (simp; done)) | fail)
      · have hlt : i < ms.length := by simpa using h
        clear h
        have htl := toks_len (ms.take i)
        rw [List.length_take, Nat.min_eq_left hi] at htl
        repeat' ((conv => whnf); first | refine And.intro (fun h => h) ?_ | refine dcond_t (by assumption) ?_ | refine dcond_f (by assumption) ?_ | (refine dcond_intro ?_ ?_ <;> intro h) | exact .refl | refine And.intro (by kernel_rfl) ?_ | refine And.intro ⟨fun h => h, fun h => h⟩ ?_ | refine ⟨_, _, And.intro ⟨rfl, get_map hlt⟩ ?_⟩ | (refine And.intro ?_ ?_; focus (simp; done)) | fail)
        all_goals (conv => whnf)
        refine ⟨Nat, fun j => ⟨[(3, .own 0), (5, i64 (ms[i]'hlt)), (10, .lst 1 (ms.map intE) false), (11, i64 ms.length), (12, i64 i), (16, i64 j)], [.row 40 3 ((toksOf (ms.take i) ++ (tokM (ms[i]'hlt)).take j).map tokE)]⟩, fun j => j ≤ 8, fun j => 8 - j, [], ⟨0, Nat.zero_le _, ?_⟩, ?_⟩
        · refine ⟨⟨.refl, .refl, .refl, .refl, .refl, .refl, trivial⟩, ⟨ole_row (by simp), trivial⟩, rfl⟩
        · intro j hj
          have hjl : ((tokM (ms[i]'hlt)).take j).length ≤ 8 := by
            rw [List.length_take]; omega
          repeat' ((conv => whnf); first | refine And.intro (fun h => h) ?_ | refine dcond_t (by assumption) ?_ | refine dcond_f (by assumption) ?_ | (refine dcond_intro ?_ ?_ <;> intro h) | exact .refl | refine And.intro (by kernel_rfl) ?_ | refine And.intro ⟨fun h => h, fun h => h⟩ ?_ | (refine And.intro ?_ ?_; focus (simp; done)) | fail)
          · have hjlt : j < 8 := by
              simp at h
              omega
            clear h
            repeat' ((conv => whnf); first | refine And.intro (fun h => h) ?_ | refine dcond_t (by assumption) ?_ | refine dcond_f (by assumption) ?_ | (refine dcond_intro ?_ ?_ <;> intro h) | exact .refl | refine And.intro (by kernel_rfl) ?_ | refine And.intro ⟨fun h => h, fun h => h⟩ ?_ | refine .inl ⟨_, _, DleAll_refl _, c_Token _ _, ?_⟩ | refine ⟨_, _, DleAll_refl _, fun _ => c_Token _ _, ?_⟩ | refine ⟨_, _, DleAll_refl _, c_Token _ _, ?_⟩ | (refine And.intro ?_ ?_; focus (simp; done)) | fail)
            all_goals (conv => whnf)
            refine And.intro (fitsT (by simp only [List.length_map, List.length_append, List.length_cons, List.length_nil]; simp; omega)) ?_
            repeat' ((conv => whnf); first | refine And.intro (fun h => h) ?_ | refine dcond_t (by assumption) ?_ | refine dcond_f (by assumption) ?_ | (refine dcond_intro ?_ ?_ <;> intro h) | exact .refl | refine And.intro (by kernel_rfl) ?_ | refine And.intro ⟨fun h => h, fun h => h⟩ ?_ | (refine And.intro ?_ ?_; focus (simp; done)) | fail)
            all_goals (conv => whnf)
            refine ⟨j + 1, hjlt, by simp only []; omega, ?_⟩
            refine ⟨⟨.refl, .refl, .refl, .refl, .refl, dle_int (wrap_succ (by omega)), trivial⟩, ⟨ole_row ?_, trivial⟩, rfl⟩
            rw [tokM_take _ hjlt, ← List.append_assoc]
            simp only [List.map_append]
            rfl
          · have : j = 8 := by
              simp at h
              omega
            subst this
            clear h
            conv => whnf
            refine ⟨i + 1, hlt, by simp only []; omega, ?_⟩
            refine ⟨⟨.refl, .refl, .refl, dle_int (wrap_succ (by omega)), trivial⟩, ⟨ole_row ?_, trivial⟩, rfl⟩
            rw [toks_take hlt]
            congr 2
      · have hge : ¬ i < ms.length := by simpa using h
        have : i = ms.length := by omega
        subst this
        clear h
        rw [List.take_length]
        have htl := toks_len ms
        have hso := sort_ok (toksOf ms) (by omega)
        have ht : tableR ms = sortL cmpTok (toksOf ms) := by simp only [tableR, hv, cond_true]
        rw [← ht] at hso
        generalize tableR ms = T at hso
        repeat' ((conv => whnf); first | refine And.intro (fun h => h) ?_ | refine dcond_t (by assumption) ?_ | refine dcond_f (by assumption) ?_ | (refine dcond_intro ?_ ?_ <;> intro h) | exact .refl | refine And.intro (by kernel_rfl) ?_ | refine And.intro ⟨fun h => h, fun h => h⟩ ?_ | refine .inr ⟨[0], _, _, _, _, _, hso, by rfl, ⟨.refl, trivial⟩, ⟨.refl, .refl, trivial⟩, ?_⟩ | (refine And.intro ?_ ?_; focus (simp; done)) | fail)
end Go.Proofs.Ytejmeihfdddnmaa

set_option linter.unusedSimpArgs false
set_option linter.unusedVariables false
namespace Go.Proofs.Ytejmeihfdddnmaa
open Go.Lift
/-! package slices, at lists of integers -/
theorem c_slices_Index_int (l : List Int) (hl : l.length ≤ maxLen) (x : Int) : Ret Try.prog 31 [.lst 1 (l.map intE) false, .v (.int .i64 x)] (.v (.int .i64 (placeB l x))) := by
  have hl' : l.length ≤ 9223372036854775807 := hl
  refine ret_of_body (fn := Try.f31) (c := Try.f31.body.getD .skip) hm hT (by kernel_rfl) Try.func31 (by kernel_rfl) (by kernel_rfl) (by kernel_rfl) (by kernel_rfl) ?_
  repeat' ((conv => whnf); first | refine And.intro (fun h => h) ?_ | refine dcond_t (by assumption) ?_ | refine dcond_f (by assumption) ?_ | (refine dcond_intro ?_ ?_ <;> intro h) | exact .refl | refine And.intro (by kernel_rfl) ?_ | refine And.intro ⟨fun h => h, fun h => h⟩ ?_ | (refine And.intro ?_ ?_; focus (simp; done)) | fail)
  refine ⟨Nat, fun i => ⟨[(0, .lst 1 (l.map intE) false), (1, .v (.int .i64 x)), (7, i64 l.length), (8, i64 i)], []⟩, fun i => i ≤ l.length ∧ ∀ j, j < i → decide (l[j]? = some x) = false, fun i => l.length - i, [], ⟨0, ⟨Nat.zero_le _, by omega⟩, ?_⟩, ?_⟩
  · exact ⟨⟨.refl, .refl, dle_int (by simp), .refl, trivial⟩, trivial, rfl⟩
  · intro i ⟨hi, hall⟩
    repeat' ((conv => whnf); first | refine And.intro (fun h => h) ?_ | refine dcond_t (by assumption) ?_ | refine dcond_f (by assumption) ?_ | (refine dcond_intro ?_ ?_ <;> intro h) | exact .refl | refine And.intro (by kernel_rfl) ?_ | refine And.intro ⟨fun h => h, fun h => h⟩ ?_ | (refine And.intro ?_ ?_; focus (simp; done)) | fail)
    · have hlt : i < l.length := by simpa using h
      repeat' ((conv => whnf); first | refine And.intro (fun h => h) ?_ | refine dcond_t (by assumption) ?_ | refine dcond_f (by assumption) ?_ | (refine dcond_intro ?_ ?_ <;> intro h) | exact .refl | refine And.intro (by kernel_rfl) ?_ | refine And.intro ⟨fun h => h, fun h => h⟩ ?_ | refine ⟨_, _, And.intro ⟨rfl, get_map hlt⟩ ?_⟩ | (refine And.intro ?_ ?_; focus (simp; done)) | fail)
      · have h2 := h
        refine dle_int (findB_at hlt ?_ hall).symm
        simp [hlt]
        simpa using (of_decide_eq_true h2).symm
      · have h2 := h
        conv => whnf
        refine ⟨i + 1, ⟨hlt, fun j hj => ?_⟩, by simp only []; omega, ?_⟩
        · rcases Nat.lt_succ_iff_lt_or_eq.1 hj with hj | rfl
          · exact hall j hj
          · simp [hlt]
            exact fun e => of_decide_eq_false h2 e.symm
        · exact ⟨by repeat' ((conv => whnf); first | exact trivial | refine And.intro (by (conv => arg 1; whnf); first | (with_reducible exact .refl) | exact dle_int (wrap_succ (by omega)) | exact .refl) ?_), by repeat' ((conv => whnf); first | exact trivial | refine And.intro ?_ ?_ | exact .refl), rfl⟩
    · have hge : ¬ i < l.length := by simpa using h
      conv => whnf
      refine dle_int (findB_none (fun j hj => hall j (by omega))).symm
theorem c_slices_Contains_int (l : List Int) (hl : l.length ≤ maxLen) (x : Int) : Ret Try.prog 20 [.lst 1 (l.map intE) false, .v (.int .i64 x)] (.v (.bool (inB l x))) := by
  refine ret_of_body (fn := Try.f20) (c := Try.f20.body.getD .skip) hm hT (by kernel_rfl) Try.func20 (by kernel_rfl) (by kernel_rfl) (by kernel_rfl) (by kernel_rfl) ?_
  repeat' ((conv => whnf); first | refine And.intro (fun h => h) ?_ | refine dcond_t (by assumption) ?_ | refine dcond_f (by assumption) ?_ | (refine dcond_intro ?_ ?_ <;> intro h) | exact .refl | refine And.intro (by kernel_rfl) ?_ | refine And.intro ⟨fun h => h, fun h => h⟩ ?_ | refine .inl ⟨_, _, DleAll_refl _, c_slices_Index_int _ hl _, ?_⟩ | refine ⟨_, _, DleAll_refl _, fun _ => c_slices_Index_int _ hl _, ?_⟩ | refine ⟨_, _, DleAll_refl _, c_slices_Index_int _ hl _, ?_⟩ | (refine And.intro ?_ ?_; focus (simp; done)) | fail)
end Go.Proofs.Ytejmeihfdddnmaa

set_option linter.unusedSimpArgs false
set_option linter.unusedVariables false
namespace Go.Proofs.Ytejmeihfdddnmaa
open Go.Lift
def geAt (t : List Tok) (key : Int) (i : Nat) : Bool := decide (key ≤ (t.getD i tok0).pos)
def firstR (t : List Tok) (key : Int) : Nat := match (List.range t.length).find? (geAt t key) with
  | some i => i
  | none => 0
theorem first_at {t : List Tok} {key : Int} {i : Nat} (hi : i < t.length) (hp : geAt t key i = true) (hall : ∀ j, j < i → geAt t key j = false) : firstR t key = i := by
  have : (List.range t.length).find? (geAt t key) = some i := List.find?_eq_some_iff_getElem.2 ⟨hp, i, by simpa using hi, by simp, fun j hj => by simp [hall j hj]⟩
  simp only [firstR, this]
theorem first_none {t : List Tok} {key : Int} (hall : ∀ j, j < t.length → geAt t key j = false) : firstR t key = 0 := by
  have : (List.range t.length).find? (geAt t key) = none := List.find?_eq_none.2 fun x hx => by simp [hall x (List.mem_range.1 hx)]
  simp only [firstR, this]
theorem first_cases (t : List Tok) (key : Int) : (firstR t key < t.length ∧ geAt t key (firstR t key) = true ∧ ∀ j, j < firstR t key → geAt t key j = false) ∨ (firstR t key = 0 ∧ ∀ j, j < t.length → geAt t key j = false) := by
  rcases hf : (List.range t.length).find? (geAt t key) with _ | n
  · refine .inr ⟨by simp only [firstR, hf], fun j hj => ?_⟩
    have := List.find?_eq_none.1 hf j (List.mem_range.2 hj)
    simpa using this
  · obtain ⟨h1, i, hi, he, hall⟩ := List.find?_eq_some_iff_getElem.1 hf
    simp at hi he
    subst he
    refine .inl ⟨by simp only [firstR, hf]; exact hi, by simp only [firstR, hf]; exact h1, fun j hj => ?_⟩
    simp only [firstR, hf] at hj
    simpa using hall j hj
theorem first_lt {t : List Tok} {key : Int} (h : 0 < t.length) : firstR t key < t.length := by
  rcases first_cases t key with h1 | h1
  · exact h1.1
  · omega
theorem c_ring_first (t : List Tok) (hl : t.length ≤ maxLen) (key : Int) : Ret Try.prog 19 [.lst 3 (t.map tokE) false, u64 key] (i64 (firstR t key)) := by
  have hl' : t.length ≤ 9223372036854775807 := hl
  refine ret_of_body (fn := Try.f19) (c := Try.f19.body.getD .skip) hm hT (by kernel_rfl) Try.func19 (by kernel_rfl) (by kernel_rfl) (by kernel_rfl) (by kernel_rfl) ?_
  repeat' ((conv => whnf); first | refine And.intro (fun h => h) ?_ | refine dcond_t (by assumption) ?_ | refine dcond_f (by assumption) ?_ | (refine dcond_intro ?_ ?_ <;> intro h) | exact .refl | refine And.intro (by kernel_rfl) ?_ | refine And.intro ⟨fun h => h, fun h => h⟩ ?_ | (refine And.intro ?_ ?_; focus (simp; done)) | fail)
  refine ⟨Nat, fun i => ⟨[(1, u64 key), (7, .lst 3 (t.map tokE) false), (8, i64 t.length), (9, i64 i)], []⟩, fun i => i ≤ t.length ∧ ∀ j, j < i → geAt t key j = false, fun i => t.length - i, [], ⟨0, ⟨Nat.zero_le _, by omega⟩, ?_⟩, ?_⟩
  · exact ⟨⟨.refl, .refl, dle_int (by simp), .refl, trivial⟩, trivial, rfl⟩
  · intro i ⟨hi, hall⟩
    repeat' ((conv => whnf); first | refine And.intro (fun h => h) ?_ | refine dcond_t (by assumption) ?_ | refine dcond_f (by assumption) ?_ | (refine dcond_intro ?_ ?_ <;> intro h) | exact .refl | refine And.intro (by kernel_rfl) ?_ | refine And.intro ⟨fun h => h, fun h => h⟩ ?_ | (refine And.intro ?_ ?_; focus (simp; done)) | fail)
    · have hlt : i < t.length := by simpa using h
      have hg : t.getD i tok0 = t[i] := by simp [hlt]
      clear h
      repeat' ((conv => whnf); first | refine And.intro (fun h => h) ?_ | refine dcond_t (by assumption) ?_ | refine dcond_f (by assumption) ?_ | (refine dcond_intro ?_ ?_ <;> intro h) | exact .refl | refine And.intro (by kernel_rfl) ?_ | refine And.intro ⟨fun h => h, fun h => h⟩ ?_ | refine ⟨_, _, And.intro ⟨rfl, get_map hlt⟩ ?_⟩ | (refine And.intro ?_ ?_; focus (simp; done)) | fail)
      all_goals (conv => whnf)
      · refine dle_int ?_
        rw [first_at hlt (by simp only [geAt, hg]; exact h) hall]
      · refine ⟨i + 1, ⟨hlt, fun j hj => ?_⟩, by simp only []; omega, ?_⟩
        · rcases Nat.lt_succ_iff_lt_or_eq.1 hj with hj | rfl
          · exact hall j hj
          · simp only [geAt, hg]; exact h
        · exact ⟨by repeat' ((conv => whnf); first | exact trivial | refine And.intro (by (conv => arg 1; whnf); first | (with_reducible exact .refl) | exact dle_int (wrap_succ (by omega)) | exact .refl) ?_), by repeat' ((conv => whnf); first | exact trivial | refine And.intro ?_ ?_ | exact .refl), rfl⟩
    · have hge : ¬ i < t.length := by simpa using h
      conv => whnf
      refine dle_int ?_
      rw [first_none (fun j hj => hall j (by omega))]
      rfl
theorem table_len (ms : List Int) : (tableR ms).length ≤ 128 := by
  unfold tableR
  cases hv : idsB ms 16
  · simp
  · rw [ids_eq] at hv
    simp only [Bool.and_eq_true, decide_eq_true_eq] at hv
    simp only [cond_true, sortL_len, toks_len]
    omega
def ownerR (ms : List Int) (key : Int) : Int := bif decide (((tableR ms).length : Int) = 0) then 0 else ((tableR ms).getD (firstR (tableR ms) key) tok0).mem
theorem c_ring_Owner (ms : List Int) (hl : ms.length ≤ maxLen) (key : Int) : Ret Try.prog 9 [.lst 1 (ms.map intE) false, u64 key] (i64 (ownerR ms key)) := by
  have hlen := table_len ms
  have et := c_ring_Table ms hl
  have ho : ownerR ms key = bif decide (((tableR ms).length : Int) = 0) then 0 else ((tableR ms).getD (firstR (tableR ms) key) tok0).mem := rfl
  have hml : (tableR ms).length ≤ maxLen := Nat.le_trans hlen (by decide)
  generalize tableR ms = T at hlen et ho hml
  have ef := c_ring_first T hml key
  refine ret_of_body (fn := Try.f9) (c := Try.f9.body.getD .skip) hm hT (by kernel_rfl) Try.func9 (by kernel_rfl) (by kernel_rfl) (by kernel_rfl) (by kernel_rfl) ?_
  repeat' ((conv => whnf); first | refine And.intro (fun h => h) ?_ | refine dcond_t (by assumption) ?_ | refine dcond_f (by assumption) ?_ | (refine dcond_intro ?_ ?_ <;> intro h) | exact .refl | refine And.intro (by kernel_rfl) ?_ | refine And.intro ⟨fun h => h, fun h => h⟩ ?_ | refine .inl ⟨_, _, DleAll_refl _, et, ?_⟩ | refine ⟨_, _, DleAll_refl _, fun _ => et, ?_⟩ | refine ⟨_, _, DleAll_refl _, et, ?_⟩ | (refine And.intro ?_ ?_; focus (simp; done)) | fail)
  all_goals (conv => whnf)
  · simp only [List.length_map] at h
    rw [ho, h]
    exact .refl
  · simp only [List.length_map] at h
    have hp : 0 < T.length := by
      have := of_decide_eq_false h
      omega
    have hlt := first_lt (key := key) hp
    have hg : T.getD (firstR T key) tok0 = T[firstR T key] := by simp [hlt]
    repeat' ((conv => whnf); first | refine And.intro (fun h => h) ?_ | refine dcond_t (by assumption) ?_ | refine dcond_f (by assumption) ?_ | (refine dcond_intro ?_ ?_ <;> intro h) | exact .refl | refine And.intro (by kernel_rfl) ?_ | refine And.intro ⟨fun h => h, fun h => h⟩ ?_ | refine .inl ⟨_, _, DleAll_refl _, ef, ?_⟩ | refine ⟨_, _, DleAll_refl _, fun _ => ef, ?_⟩ | refine ⟨_, _, DleAll_refl _, ef, ?_⟩ | refine ⟨_, _, And.intro ⟨rfl, get_map hlt⟩ ?_⟩ | (refine And.intro ?_ ?_; focus (simp; done)) | fail)
    all_goals (conv => whnf)
    rw [ho, h, hg]
    exact .refl
def rotM (t : List Tok) (s i : Nat) : Int := (t.getD ((s + i) % t.length) tok0).mem
def ownAt (t : List Tok) (s : Nat) (n : Int) : Nat → List Int
  | 0 => []
  | i + 1 => bif decide (n ≤ ((ownAt t s n i).length : Int)) then ownAt t s n i else bif !inB (ownAt t s n i) (rotM t s i) then ownAt t s n i ++ [rotM t s i] else ownAt t s n i
theorem own_stop {t : List Tok} {s : Nat} {n : Int} {i : Nat} (h : n ≤ ((ownAt t s n i).length : Int)) : ∀ d, ownAt t s n (i + d) = ownAt t s n i
  | 0 => rfl
  | d + 1 => by
    have e : ownAt t s n (i + (d + 1)) = bif decide (n ≤ ((ownAt t s n (i + d)).length : Int)) then ownAt t s n (i + d) else bif !inB (ownAt t s n (i + d)) (rotM t s (i + d)) then ownAt t s n (i + d) ++ [rotM t s (i + d)] else ownAt t s n (i + d) := rfl
    rw [e, own_stop h d, decide_eq_true h]
    rfl
theorem own_len (t : List Tok) (s : Nat) (n : Int) : ∀ i, (ownAt t s n i).length ≤ i
  | 0 => Nat.le_refl _
  | i + 1 => by
    have := own_len t s n i
    unfold ownAt
    cases decide (n ≤ ((ownAt t s n i).length : Int)) <;> cases !inB (ownAt t s n i) (rotM t s i) <;> simp <;> omega
def ownersR (ms : List Int) (key n : Int) : List Int := ownAt (tableR ms) (firstR (tableR ms) key) n (tableR ms).length
theorem c_ring_Owners (ms : List Int) (hl : ms.length ≤ maxLen) (key n : Int) : Ret Try.prog 12 [.lst 1 (ms.map intE) false, u64 key, i64 n] (.lst 1 ((ownersR ms key n).map intE) false) := by
  have hlen := table_len ms
  have et := c_ring_Table ms hl
  have hml : (tableR ms).length ≤ maxLen := Nat.le_trans hlen (by decide)
  unfold ownersR
  generalize tableR ms = T at hlen et hml
  have ef := c_ring_first T hml key
  have hfl := first_lt (t := T) (key := key)
  generalize firstR T key = s at ef hfl
  refine ret_of_body (fn := Try.f12) (c := Try.f12.body.getD .skip) hm hT (by kernel_rfl) Try.func12 (by kernel_rfl) (by kernel_rfl) (by kernel_rfl) (by kernel_rfl) ?_
  repeat' ((conv => whnf); first | refine And.intro (fun h => h) ?_ | refine dcond_t (by assumption) ?_ | refine dcond_f (by assumption) ?_ | (refine dcond_intro ?_ ?_ <;> intro h) | exact .refl | refine And.intro (by kernel_rfl) ?_ | refine And.intro ⟨fun h => h, fun h => h⟩ ?_ | refine .inl ⟨_, _, DleAll_refl _, et, ?_⟩ | refine ⟨_, _, DleAll_refl _, fun _ => et, ?_⟩ | refine ⟨_, _, DleAll_refl _, et, ?_⟩ | refine .inl ⟨_, _, DleAll_refl _, ef, ?_⟩ | refine ⟨_, _, DleAll_refl _, fun _ => ef, ?_⟩ | refine ⟨_, _, DleAll_refl _, ef, ?_⟩ | (refine And.intro ?_ ?_; focus (simp; done)) | fail)
  refine ⟨Nat, fun i => ⟨[(2, i64 n), (7, .lst 3 (T.map tokE) false), (8, i64 s), (9, .own 0), (18, i64 T.length), (19, i64 i)], [.row 3 1 ((ownAt T s n i).map intE)]⟩, fun i => i ≤ T.length, fun i => T.length - i, [.slot 9 3 1], ⟨0, Nat.zero_le _, ?_⟩, ?_⟩
  · conv => whnf
    exact ⟨⟨.refl, .refl, .refl, .refl, dle_int (by simp), .refl, trivial⟩, ⟨.refl, trivial⟩, rfl⟩
  · intro i hi
    have hol := own_len T s n i
    repeat' ((conv => whnf); first | refine And.intro (fun h => h) ?_ | refine dcond_t (by assumption) ?_ | refine dcond_f (by assumption) ?_ | (refine dcond_intro ?_ ?_ <;> intro h) | exact .refl | refine And.intro (by kernel_rfl) ?_ | refine And.intro ⟨fun h => h, fun h => h⟩ ?_ | (refine And.intro ?_ ?_; focus (simp; done)) | fail)
    · rename_i h0
      have hlt : i < T.length := by simpa using h0
      simp only [List.length_map] at h
      have hs := own_stop (of_decide_eq_true h) (T.length - i)
      rw [show i + (T.length - i) = T.length by omega] at hs
      refine dle_lst ?_
      rw [hs]
    · rename_i h0
      have hlt : i < T.length := by simpa using h0
      clear h0
      simp only [List.length_map] at h
      have hsl := hfl (by omega)
      have hr : (s + i) % T.length < T.length := Nat.mod_lt _ (by omega)
      have hne : ((T.map tokE).length : Int) ≠ 0 := by
        rw [List.length_map]; omega
      have hix : Int.tmod (IntKind.i64.wrap ((s : Int) + (i : Int))) ((T.map tokE).length : Int) = (((s + i) % T.length : Nat) : Int) := by
        rw [wrap_i64 (by omega) (by omega), List.length_map]
        rfl
      have hg : rotM T s i = (T[(s + i) % T.length]).mem := by simp only [rotM]; simp [hr]
      have hn1 : ownAt T s n (i + 1) = bif !inB (ownAt T s n i) (rotM T s i) then ownAt T s n i ++ [rotM T s i] else ownAt T s n i := by
        simp only [ownAt, h, cond_false]
      have ec := c_slices_Contains_int (ownAt T s n i) (Nat.le_trans hol (by exact Nat.le_trans hi hml)) (rotM T s i)
      rw [hg] at ec hn1
      generalize inB (ownAt T s n i) (T[(s + i) % T.length]).mem = b at ec hn1
      repeat' ((conv => whnf); first | refine And.intro (fun h => h) ?_ | refine dcond_t (by assumption) ?_ | refine dcond_f (by assumption) ?_ | (refine dcond_intro ?_ ?_ <;> intro h) | exact .refl | refine And.intro (by kernel_rfl) ?_ | refine And.intro ⟨fun h => h, fun h => h⟩ ?_ | refine And.intro hne ?_ | refine ⟨(s + i) % T.length, _, And.intro ⟨hix, get_map hr⟩ ?_⟩ | refine .inl ⟨_, _, DleAll_refl _, ec, ?_⟩ | refine ⟨_, _, DleAll_refl _, fun _ => ec, ?_⟩ | refine ⟨_, _, DleAll_refl _, ec, ?_⟩ | (refine And.intro ?_ ?_; focus (simp; done)) | fail)
      all_goals (conv => whnf)
      · refine And.intro (fitsI (by simp; omega)) ?_
        repeat' ((conv => whnf); first | refine And.intro (fun h => h) ?_ | refine dcond_t (by assumption) ?_ | refine dcond_f (by assumption) ?_ | (refine dcond_intro ?_ ?_ <;> intro h) | exact .refl | refine And.intro (by kernel_rfl) ?_ | refine And.intro ⟨fun h => h, fun h => h⟩ ?_ | (refine And.intro ?_ ?_; focus (simp; done)) | fail)
        all_goals (conv => whnf)
        refine ⟨i + 1, hlt, by simp only []; omega, ?_⟩
        refine ⟨⟨.refl, .refl, .refl, .refl, .refl, dle_int (wrap_succ (by omega)), trivial⟩, ⟨ole_row ?_, trivial⟩, rfl⟩
        rw [hn1, h]
        simp only [cond_true, List.map_append]
        rfl
      · skip
        refine ⟨i + 1, hlt, by simp only []; omega, ?_⟩
        refine ⟨⟨.refl, .refl, .refl, .refl, .refl, dle_int (wrap_succ (by omega)), trivial⟩, ⟨ole_row ?_, trivial⟩, rfl⟩
        rw [hn1, h]
        rfl
    · have hge : ¬ i < T.length := by simpa using h
      have : i = T.length := by omega
      subst this
      conv => whnf
      exact .refl
end Go.Proofs.Ytejmeihfdddnmaa

set_option linter.unusedSimpArgs false
set_option linter.unusedVariables false
namespace Go.Proofs.Ytejmeihfdddnmaa
open Go.Lift
/-! plain facts: rising lists, insertion -/
theorem rise_pw {l : List Int} : riseB l = true ↔ l.Pairwise (· < ·) ∧ ∀ x ∈ l, 1 ≤ x ∧ x ≤ 1000 := by
  rw [rise_iff]
  constructor
  · intro h
    have hstep : ∀ i (hi : i + 1 < l.length), l[i] < l[i + 1] := fun i hi => by
      have := (h (i + 1) hi).2.2 (by omega)
      simpa [show i < l.length by omega] using this
    refine ⟨?_, fun x hx => ?_⟩
    · rw [List.pairwise_iff_getElem]
      intro i j hi hj hij
      have key : ∀ d (hd : i + (d + 1) < l.length), l[i] < l[i + (d + 1)] := by
        intro d
        induction d with
        | zero => intro hd; exact hstep i hd
        | succ d ih =>
          intro hd
          have h1 := ih (by omega)
          have h2 := hstep (i + (d + 1)) hd
          exact Int.lt_trans h1 h2
      have := key (j - i - 1) (by omega)
      simpa [show i + (j - i - 1 + 1) = j by omega] using this
    · obtain ⟨i, hi, rfl⟩ := List.getElem_of_mem hx
      have := h i hi
      exact ⟨this.1, this.2.1⟩
  · intro ⟨h1, h2⟩ i hi
    have := h2 _ (List.getElem_mem hi)
    refine ⟨this.1, this.2, fun h0 => ?_⟩
    have h3 := List.pairwise_iff_getElem.1 h1 (i - 1) i (by omega) hi (by omega)
    simpa [show i - 1 < l.length by omega] using h3
theorem ids_pw {l : List Int} {m : Int} : idsB l m = true ↔ (1 ≤ (l.length : Int) ∧ (l.length : Int) ≤ m) ∧ l.Pairwise (· < ·) ∧ ∀ x ∈ l, 1 ≤ x ∧ x ≤ 1000 := by
  rw [ids_eq]
  simp only [Bool.and_eq_true, decide_eq_true_eq, rise_pw]
theorem pw_nodup {l : List Int} (h : l.Pairwise (· < ·)) : l.Nodup := h.imp (fun h => by omega)
/-- insertion, by its definition -/
def insW (l : List Int) (x : Int) : List Int := l.takeWhile (fun y => !decide (x < y)) ++ x :: l.dropWhile (fun y => !decide (x < y))
theorem insW_perm (l : List Int) (x : Int) : (insW l x).Perm (x :: l) := by
  unfold insW
  refine List.perm_middle.trans ?_
  rw [List.takeWhile_append_dropWhile]
theorem insA_eq (l : List Int) (x : Int) : ∀ i, i ≤ l.length → insA l x i = if i ≤ (l.takeWhile (fun y => !decide (x < y))).length then (l.take i, false) else (l.takeWhile (fun y => !decide (x < y)) ++ x :: (l.take i).drop (l.takeWhile (fun y => !decide (x < y))).length, true)
  | 0, _ => by simp [insA]
  | i + 1, hi => by
    have ih := insA_eq l x i (by omega)
    have hg : l.getD i 0 = l[i] := by simp [show i < l.length by omega]
    generalize hA : l.takeWhile (fun y => !decide (x < y)) = A at ih
    have hlen : A.length ≤ l.length := by rw [← hA]; exact (List.takeWhile_prefix _).length_le
    have hpre : ∀ j (hj : j < A.length), ¬ x < l[j]'(by omega) := fun j hj => by
      have h1 : A[j] ∈ l.takeWhile (fun y => !decide (x < y)) := by rw [hA]; exact List.getElem_mem hj
      have h2 := List.all_eq_true.1 (List.all_takeWhile (p := fun y => !decide (x < y)) (l := l)) _ h1
      have h3 : A[j] = l[j]'(by omega) := by
        have hp : A <+: l := by rw [← hA]; exact List.takeWhile_prefix _
        exact hp.getElem hj
      rw [h3] at h2
      simpa using h2
    have hat : ∀ (hj : A.length < l.length), x < l[A.length] := fun hj => by
      have h1 : l.dropWhile (fun y => !decide (x < y)) ≠ [] := by
        intro h
        have := List.takeWhile_append_dropWhile (p := fun y => !decide (x < y)) (l := l)
        rw [h, List.append_nil, hA] at this
        rw [this] at hj
        omega
      have h2 := List.head_dropWhile_not (fun y => !decide (x < y)) h1
      have h3 : (l.dropWhile (fun y => !decide (x < y))).head h1 = l[A.length] := by
        have h4 := List.takeWhile_append_dropWhile (p := fun y => !decide (x < y)) (l := l)
        rw [hA] at h4
        rw [List.head_eq_getElem]
        have : l[A.length] = (A ++ l.dropWhile (fun y => !decide (x < y)))[A.length]'(by rw [h4]; exact hj) := by
          simp only [h4]
        rw [this, List.getElem_append_right (Nat.le_refl _)]
        simp
      rw [h3] at h2
      simpa using h2
    simp only [insA, ih, hg]
    by_cases h1 : i + 1 ≤ A.length
    · have h2 : i ≤ A.length := by omega
      simp only [h1, h2, if_true]
      have hn := hpre i (by omega)
      have hd : decide (x < l[i]'(by omega)) = false := decide_eq_false hn
      simp only [hd, Bool.and_false, cond_false, Prod.mk.injEq, and_true]
      rw [List.take_succ_eq_append_getElem (show i < l.length by omega)]
    · simp only [h1, if_false]
      by_cases h2 : i ≤ A.length
      · have h3 : i = A.length := by omega
        have h4 := hat (by omega)
        simp only [h2, if_true]
        have h5 : x < l[i] := by simpa [h3] using h4
        have h6 : l.take i = A := by
          have hp : A <+: l := by rw [← hA]; exact List.takeWhile_prefix _
          rw [h3]
          exact (List.prefix_iff_eq_take.1 hp).symm
        simp only [h5, decide_true, Bool.not_false, Bool.and_self, cond_true, Prod.mk.injEq, and_true]
        rw [List.take_succ_eq_append_getElem (show i < l.length by omega), h6, List.drop_append_of_le_length (Nat.le_refl _), List.drop_length]
        simp
      · simp only [h2, if_false]
        simp only [Bool.not_true, Bool.false_and, cond_false, Prod.mk.injEq, and_true]
        rw [List.take_succ_eq_append_getElem (show i < l.length by omega), List.drop_append_of_le_length (by rw [List.length_take]; omega)]
        simp
theorem insL_eq (l : List Int) (x : Int) : insL l x = insW l x := by
  have h := insA_eq l x l.length (Nat.le_refl _)
  have ht := List.takeWhile_append_dropWhile (p := fun y => !decide (x < y)) (l := l)
  unfold insL insW
  rw [h]
  generalize hA : l.takeWhile (fun y => !decide (x < y)) = A at ht
  generalize l.dropWhile (fun y => !decide (x < y)) = B at ht
  subst ht
  by_cases hB : (A ++ B).length ≤ A.length
  · have : B = [] := by
      rw [List.length_append] at hB
      exact List.length_eq_zero_iff.1 (by omega)
    subst this
    rw [List.append_nil]
    simp
  · rw [if_neg hB]
    simp only [cond_true]
    rw [List.take_of_length_le (Nat.le_refl _)]
    simp
theorem insW_pw {l : List Int} {x : Int} (h : l.Pairwise (· < ·)) (hx : x ∉ l) : (insW l x).Pairwise (· < ·) := by
  have ht := List.takeWhile_append_dropWhile (p := fun y => !decide (x < y)) (l := l)
  have h1 : ∀ y ∈ l.takeWhile (fun y => !decide (x < y)), y < x := fun y hy => by
    have h2 := List.all_eq_true.1 (List.all_takeWhile (p := fun y => !decide (x < y)) (l := l)) _ hy
    have h3 : y ∈ l := (List.takeWhile_prefix _).subset hy
    simp at h2
    rcases Int.lt_or_eq_of_le h2 with h2 | h2
    · exact h2
    · subst h2; exact absurd h3 hx
  have h2 : ∀ y ∈ l.dropWhile (fun y => !decide (x < y)), x < y := fun y hy => by
    have h3 : l.dropWhile (fun y => !decide (x < y)) ≠ [] := List.ne_nil_of_mem hy
    have h4 := List.head_dropWhile_not (fun y => !decide (x < y)) h3
    simp at h4
    have h5 : (l.dropWhile (fun y => !decide (x < y))).Pairwise (· < ·) := h.sublist (List.dropWhile_sublist _)
    obtain ⟨a, r, hr⟩ := List.exists_cons_of_ne_nil h3
    simp only [hr, List.head_cons] at h4 hy h5 ⊢
    rcases List.mem_cons.1 hy with rfl | hy
    · exact h4
    · have := (List.pairwise_cons.1 h5).1 y hy
      omega
  unfold insW
  generalize l.takeWhile (fun y => !decide (x < y)) = A at *
  generalize l.dropWhile (fun y => !decide (x < y)) = B at *
  subst ht
  rw [List.pairwise_append] at h ⊢
  refine ⟨h.1, List.pairwise_cons.2 ⟨h2, h.2.1⟩, fun a ha b hb => ?_⟩
  rcases List.mem_cons.1 hb with rfl | hb
  · exact h1 a ha
  · exact h.2.2 a ha b hb
theorem ins_ids {l : List Int} {x : Int} {m : Int} (h : idsB l m = true) (hx : x ∉ l) (h1 : 1 ≤ x) (h2 : x ≤ 1000) (hm : (l.length : Int) < m) : idsB (insL l x) m = true := by
  rw [ids_pw] at *
  have hp := insW_perm l x
  rw [insL_eq]
  refine ⟨?_, insW_pw h.2.1 hx, fun y hy => ?_⟩
  · have := hp.length_eq
    simp only [List.length_cons] at this
    omega
  · rcases List.mem_cons.1 (hp.mem_iff.1 hy) with rfl | hy
    · exact ⟨h1, h2⟩
    · exact h.2.2 y hy
theorem filter_ids {l : List Int} {p : Int → Bool} {m : Int} (h : idsB l m = true) (hne : l.filter p ≠ []) : idsB (l.filter p) m = true := by
  rw [ids_pw] at *
  refine ⟨?_, h.2.1.sublist List.filter_sublist, fun y hy => h.2.2 y (List.mem_filter.1 hy).1⟩
  have h1 := List.length_filter_le p l
  have h2 := List.length_pos_iff.2 hne
  omega
/-- each element once, in the order of their first places -/
def uniqL (l : List Int) : List Int := l.foldl (fun o m => if m ∈ o then o else o ++ [m]) []
theorem uniq_snoc (l : List Int) (m : Int) : uniqL (l ++ [m]) = if m ∈ uniqL l then uniqL l else uniqL l ++ [m] := by
  unfold uniqL
  rw [List.foldl_append]
  rfl
theorem uniq_ind {P : List Int → Prop} (h0 : P []) (h1 : ∀ l m, P l → P (l ++ [m])) (l : List Int) : P l := by
  have : ∀ r : List Int, P r.reverse := fun r => by
    induction r with
    | nil => exact h0
    | cons a r ih => rw [List.reverse_cons]; exact h1 _ _ ih
  have h := this l.reverse
  rwa [List.reverse_reverse] at h
theorem uniq_mem {l : List Int} {x : Int} : x ∈ uniqL l ↔ x ∈ l := by
  refine uniq_ind (P := fun l => x ∈ uniqL l ↔ x ∈ l) (by simp [uniqL]) (fun l m ih => ?_) l
  rw [uniq_snoc]
  split
  · rename_i hm
    simp only [ih, List.mem_append, List.mem_singleton]
    constructor
    · exact .inl
    · rintro (h | rfl)
      · exact h
      · exact ih.1 hm
  · simp [ih]
theorem uniq_nodup (l : List Int) : (uniqL l).Nodup := by
  refine uniq_ind (P := fun l => (uniqL l).Nodup) (by simp [uniqL]) (fun l m ih => ?_) l
  rw [uniq_snoc]
  split
  · exact ih
  · rename_i hm
    rw [List.nodup_append]
    exact ⟨ih, by simp, fun a ha b hb => by simp at hb; subst hb; exact fun e => hm (e ▸ ha)⟩
theorem uniq_filter (l : List Int) (p : Int → Bool) : uniqL (l.filter p) = (uniqL l).filter p := by
  refine uniq_ind (P := fun l => uniqL (l.filter p) = (uniqL l).filter p) (by simp [uniqL]) (fun l m ih => ?_) l
  rw [List.filter_append, uniq_snoc]
  cases hp : p m
  · simp only [List.filter_cons, hp, Bool.false_eq_true, if_false, List.filter_nil, List.append_nil, ih]
    split
    · rfl
    · simp [hp]
  · simp only [List.filter_cons, hp, if_true, List.filter_nil]
    rw [uniq_snoc, ih]
    by_cases hm : m ∈ uniqL l
    · simp [hm, hp]
    · simp [hm, hp]
theorem uniq_head (l : List Int) : (uniqL l).head? = l.head? := by
  refine uniq_ind (P := fun l => (uniqL l).head? = l.head?) (by simp [uniqL]) (fun l m ih => ?_) l
  rw [uniq_snoc]
  cases l with
  | nil => simp [uniqL]
  | cons a r =>
    have hne : uniqL (a :: r) ≠ [] := fun h => by
      have : a ∈ uniqL (a :: r) := uniq_mem.2 (by simp)
      rw [h] at this
      cases this
    split
    · rw [ih]; simp
    · rw [List.head?_append, ih]; simp
end Go.Proofs.Ytejmeihfdddnmaa

set_option linter.unusedSimpArgs false
set_option linter.unusedVariables false
namespace Go.Proofs.Ytejmeihfdddnmaa
open Go.Lift
/-! the ring of tokens: plain laws -/
theorem tokM_mem {m : Int} {t : Tok} : t ∈ tokM m ↔ ∃ i : Nat, i < 8 ∧ t = ⟨tokR m i, m, i⟩ := by
  simp only [tokM, List.mem_map, List.mem_range]
  constructor
  · rintro ⟨i, hi, rfl⟩; exact ⟨i, hi, rfl⟩
  · rintro ⟨i, hi, rfl⟩; exact ⟨i, hi, rfl⟩
theorem toks_mem {ms : List Int} {t : Tok} : t ∈ toksOf ms ↔ t.mem ∈ ms ∧ t ∈ tokM t.mem := by
  simp only [toksOf, List.mem_flatMap]
  constructor
  · rintro ⟨m, hm, ht⟩
    have : t.mem = m := by
      obtain ⟨i, _, rfl⟩ := tokM_mem.1 ht
      rfl
    rw [this]
    exact ⟨hm, ht⟩
  · rintro ⟨h1, h2⟩
    exact ⟨_, h1, h2⟩
theorem tokM_mem' {m : Int} {t : Tok} (h : t ∈ tokM m) : t.mem = m := by
  obtain ⟨i, _, rfl⟩ := tokM_mem.1 h
  rfl
theorem toks_filter (ms : List Int) (p : Int → Bool) : (toksOf ms).filter (fun t => p t.mem) = toksOf (ms.filter p) := by
  induction ms with
  | nil => rfl
  | cons m ms ih =>
    have e : toksOf (m :: ms) = tokM m ++ toksOf ms := by simp [toksOf]
    rw [e, List.filter_append, ih]
    cases hp : p m
    · have : (tokM m).filter (fun t => p t.mem) = [] := List.filter_eq_nil_iff.2 fun t ht => by rw [tokM_mem' ht, hp]; simp
      rw [this, List.filter_cons]
      simp [hp]
    · have : (tokM m).filter (fun t => p t.mem) = tokM m := List.filter_eq_self.2 fun t ht => by rw [tokM_mem' ht, hp]
      rw [this, List.filter_cons]
      simp [hp, toksOf]
theorem toks_perm {a b : List Int} (h : a.Perm b) : (toksOf a).Perm (toksOf b) := h.flatMap_right _
abbrev sortedT (T : List Tok) : Prop := T.Pairwise fun x y => Go.Proofs.ltOf cmpTok y x = false
theorem table_in {ms : List Int} (h : idsB ms 16 = true) : tableR ms = sortL cmpTok (toksOf ms) := by simp only [tableR, h, cond_true]
theorem table_sorted (ms : List Int) : sortedT (tableR ms) := by
  unfold tableR
  cases idsB ms 16
  · exact List.Pairwise.nil
  · exact sortL_sorted tok_swo _
theorem table_mem {ms : List Int} (h : idsB ms 16 = true) {t : Tok} : t ∈ tableR ms ↔ t.mem ∈ ms ∧ t ∈ tokM t.mem := by
  rw [table_in h, sortL_mem, toks_mem]
theorem sorted_pos {T : List Tok} (h : sortedT T) : T.Pairwise fun x y => x.pos ≤ y.pos := h.imp fun {a b} hab => by
  rw [← Bool.not_eq_true, ltTok_iff] at hab
  simp only [ltTok] at hab
  omega
/-- the table of fewer members -/
theorem table_filter {ms ms' : List Int} (h : idsB ms 16 = true) (h' : idsB ms' 16 = true) {p : Int → Bool} (hp : (ms.filter p).Perm ms') : (tableR ms).filter (fun t => p t.mem) = tableR ms' := by
  refine sorted_eq (cf := cmpTok) tok_anti ?_ ((table_sorted ms).sublist List.filter_sublist) (table_sorted ms')
  rw [table_in h, table_in h']
  refine ((sortL_perm cmpTok (toksOf ms)).filter _).trans ?_
  rw [toks_filter]
  exact (toks_perm hp).trans (sortL_perm cmpTok _).symm
/-- the table from the owner of a key on -/
def rotL (T : List Tok) (key : Int) : List Tok := T.filter (fun t => decide (key ≤ t.pos)) ++ T.filter (fun t => !decide (key ≤ t.pos))
theorem rot_filter (T : List Tok) (key : Int) (p : Tok → Bool) : rotL (T.filter p) key = (rotL T key).filter p := by
  simp only [rotL, List.filter_append, List.filter_filter]
  congr 1
  · exact List.filter_congr fun x _ => Bool.and_comm _ _
  · exact List.filter_congr fun x _ => Bool.and_comm _ _
theorem rot_perm (T : List Tok) (key : Int) : (rotL T key).Perm T := List.filter_append_perm _ _
theorem rot_split {T : List Tok} (h : sortedT T) (key : Int) : T.drop (firstR T key) ++ T.take (firstR T key) = rotL T key := by
  have hs := List.pairwise_iff_getElem.1 (sorted_pos h)
  rcases first_cases T key with ⟨h1, h2, h3⟩ | ⟨h1, h2⟩
  · generalize firstR T key = s at h1 h2 h3
    have ga : ∀ j (hj : j < T.length), geAt T key j = decide (key ≤ T[j].pos) := fun j hj => by simp [geAt, hj]
    have hd : T.filter (fun t => decide (key ≤ t.pos)) = T.drop s := by
      conv => lhs; rw [← List.take_append_drop s T]
      rw [List.filter_append]
      have e1 : (T.take s).filter (fun t => decide (key ≤ t.pos)) = [] := List.filter_eq_nil_iff.2 fun t ht => by
        obtain ⟨j, hj, rfl⟩ := List.getElem_of_mem ht
        simp only [List.length_take] at hj
        have := h3 j (by omega)
        rw [ga j (by omega)] at this
        simp only [List.getElem_take]
        rw [this]; simp
      have e2 : (T.drop s).filter (fun t => decide (key ≤ t.pos)) = T.drop s := List.filter_eq_self.2 fun t ht => by
        obtain ⟨j, hj, rfl⟩ := List.getElem_of_mem ht
        simp only [List.length_drop] at hj
        simp only [List.getElem_drop]
        rw [ga s h1] at h2
        have := of_decide_eq_true h2
        rcases Nat.eq_zero_or_pos j with rfl | hj0
        · simpa using h2
        · have := hs s (s + j) h1 (by omega) (by omega)
          exact decide_eq_true (by omega)
      rw [e1, e2, List.nil_append]
    have ht : T.filter (fun t => !decide (key ≤ t.pos)) = T.take s := by
      conv => lhs; rw [← List.take_append_drop s T]
      rw [List.filter_append]
      have e1 : (T.take s).filter (fun t => !decide (key ≤ t.pos)) = T.take s := List.filter_eq_self.2 fun t ht => by
        obtain ⟨j, hj, rfl⟩ := List.getElem_of_mem ht
        simp only [List.length_take] at hj
        have := h3 j (by omega)
        rw [ga j (by omega)] at this
        simp only [List.getElem_take]
        rw [this]; rfl
      have e2 : (T.drop s).filter (fun t => !decide (key ≤ t.pos)) = [] := List.filter_eq_nil_iff.2 fun t ht => by
        obtain ⟨j, hj, rfl⟩ := List.getElem_of_mem ht
        simp only [List.length_drop] at hj
        simp only [List.getElem_drop]
        rw [ga s h1] at h2
        have h4 := of_decide_eq_true h2
        rcases Nat.eq_zero_or_pos j with rfl | hj0
        · simp; exact h4
        · have := hs s (s + j) h1 (by omega) (by omega)
          have : decide (key ≤ T[s + j].pos) = true := decide_eq_true (by omega)
          rw [this]; simp
      rw [e1, e2, List.append_nil]
    rw [rotL, hd, ht]
  · rw [h1]
    have hall : ∀ t ∈ T, decide (key ≤ t.pos) = false := fun t ht => by
      obtain ⟨j, hj, rfl⟩ := List.getElem_of_mem ht
      have := h2 j hj
      simpa [geAt, hj] using this
    have e1 : T.filter (fun t => decide (key ≤ t.pos)) = [] := List.filter_eq_nil_iff.2 fun t ht => by rw [hall t ht]; simp
    have e2 : T.filter (fun t => !decide (key ≤ t.pos)) = T := List.filter_eq_self.2 fun t ht => by rw [hall t ht]; rfl
    rw [rotL, e1, e2]
    simp
theorem rotM_get {T : List Tok} {s i : Nat} (hs : s < T.length) (hi : i < T.length) : rotM T s i = ((T.drop s ++ T.take s).map (·.mem)).getD i 0 := by
  have hr : (s + i) % T.length < T.length := Nat.mod_lt _ (by omega)
  unfold rotM
  rw [List.getD_eq_getElem?_getD, List.getD_eq_getElem?_getD, List.getElem?_map, List.getElem?_eq_getElem hr]
  by_cases h : s + i < T.length
  · rw [List.getElem?_append_left (by rw [List.length_drop]; omega), List.getElem?_drop]
    have : (s + i) % T.length = s + i := Nat.mod_eq_of_lt h
    simp [this, h]
  · have e : (s + i) % T.length = s + i - T.length := by
      rw [Nat.mod_eq_sub_mod (by omega), Nat.mod_eq_of_lt (by omega)]
    rw [List.getElem?_append_right (by rw [List.length_drop]; omega), List.length_drop]
    have e2 : i - (T.length - s) = s + i - T.length := by omega
    rw [e2, List.getElem?_take, if_pos (by omega)]
    simp [e, show s + i - T.length < T.length by omega]
def memsL (T : List Tok) (key : Int) : List Int := (rotL T key).map (·.mem)
theorem mems_len (T : List Tok) (key : Int) : (memsL T key).length = T.length := by
  simp [memsL, (rot_perm T key).length_eq]
theorem own_uniq {T : List Tok} {s : Nat} {n : Int} {M : List Int} (hM : M.length = T.length) (hr : ∀ i, i < T.length → rotM T s i = M.getD i 0) : ∀ i, i ≤ T.length → ownAt T s n i = (uniqL (M.take i)).take n.toNat
  | 0, _ => by simp [ownAt, uniqL]
  | i + 1, hi => by
    have ih := own_uniq (n := n) hM hr i (by omega)
    have hg : M.getD i 0 = M[i]'(by omega) := by simp [show i < M.length by omega]
    rw [List.take_succ_eq_append_getElem (show i < M.length by omega), uniq_snoc]
    simp only [ownAt, ih, hr i (by omega), hg]
    generalize uniqL (M.take i) = U
    generalize M[i]'(by omega) = m
    rw [List.length_take]
    by_cases hn : n.toNat ≤ U.length
    · have h1 : decide (n ≤ ((min n.toNat U.length : Nat) : Int)) = true := decide_eq_true (by omega)
      rw [h1]
      simp only [cond_true]
      split
      · rfl
      · rw [List.take_append_of_le_length hn]
    · have h1 : decide (n ≤ ((min n.toNat U.length : Nat) : Int)) = false := decide_eq_false (by omega)
      have h2 : U.take n.toNat = U := List.take_of_length_le (by omega)
      rw [h1, h2]
      simp only [cond_false]
      by_cases hm : m ∈ U
      · have : inB U m = true := in_iff.2 hm
        simp only [this, Bool.not_true, cond_false, hm, if_true]
        rw [h2]
      · have : inB U m = false := by
          cases h : inB U m
          · rfl
          · exact absurd (in_iff.1 h) hm
        simp only [this, Bool.not_false, cond_true, hm, if_false]
        rw [List.take_of_length_le (by rw [List.length_append, List.length_singleton]; omega)]
theorem owners_eq (ms : List Int) (key n : Int) : ownersR ms key n = (uniqL (memsL (tableR ms) key)).take n.toNat := by
  have hs := table_sorted ms
  unfold ownersR
  generalize tableR ms = T at hs
  rcases Nat.eq_zero_or_pos T.length with h0 | h0
  · have : T = [] := List.length_eq_zero_iff.1 h0
    subst this
    simp [ownAt, memsL, rotL, uniqL]
  · have hf := first_lt (key := key) h0
    have := own_uniq (T := T) (s := firstR T key) (n := n) (M := memsL T key) (mems_len T key) (fun i hi => by rw [rotM_get hf hi, rot_split hs]; rfl) T.length (Nat.le_refl _)
    rw [this, ← mems_len T key, List.take_length]
theorem owner_eq (ms : List Int) (key : Int) : ownerR ms key = (memsL (tableR ms) key).head?.getD 0 := by
  have hs := table_sorted ms
  unfold ownerR
  generalize tableR ms = T at hs
  rcases Nat.eq_zero_or_pos T.length with h0 | h0
  · have : T = [] := List.length_eq_zero_iff.1 h0
    subst this
    simp [memsL, rotL]
  · have hf := first_lt (key := key) h0
    have h1 : decide ((T.length : Int) = 0) = false := decide_eq_false (by omega)
    rw [h1, cond_false, memsL, ← rot_split hs, List.drop_eq_getElem_cons hf]
    simp [hf]
theorem mems_mem {ms : List Int} (h : idsB ms 16 = true) (key : Int) {m : Int} : m ∈ memsL (tableR ms) key ↔ m ∈ ms := by
  simp only [memsL, List.mem_map]
  constructor
  · rintro ⟨t, ht, rfl⟩
    exact ((table_mem h).1 ((rot_perm _ _).mem_iff.1 ht)).1
  · intro hm
    exact ⟨⟨tokR m (0 : Nat), m, (0 : Nat)⟩, (rot_perm _ _).mem_iff.2 ((table_mem h).2 ⟨hm, tokM_mem.2 ⟨0, by omega, rfl⟩⟩), rfl⟩
theorem mems_filter {ms ms' : List Int} (h : idsB ms 16 = true) (h' : idsB ms' 16 = true) {p : Int → Bool} (hp : (ms.filter p).Perm ms') (key : Int) : memsL (tableR ms') key = (memsL (tableR ms) key).filter p := by
  rw [← table_filter h h' hp, memsL, rot_filter, memsL, List.filter_map]
  rfl
/-- the owners of a key, all of them -/
theorem owners_perm {ms : List Int} (h : idsB ms 16 = true) (key : Int) : (uniqL (memsL (tableR ms) key)).Perm ms := by
  refine (List.perm_ext_iff_of_nodup (uniq_nodup _) (pw_nodup (ids_pw.1 h).2.1)).2 fun m => ?_
  rw [uniq_mem, mems_mem h]
theorem owner_in_ring {ms : List Int} (h : idsB ms 16 = true) (key : Int) : ownerR ms key ∈ ms := by
  rw [owner_eq]
  have h1 := owners_perm h key
  have h2 := (ids_pw.1 h).1.1
  have h3 := uniq_head (memsL (tableR ms) key)
  cases hm : memsL (tableR ms) key with
  | nil =>
    rw [hm] at h1
    have := h1.length_eq
    simp [uniqL] at this
    omega
  | cons a r =>
    simp only [List.head?_cons, Option.getD_some]
    exact (mems_mem h key).1 (by rw [hm]; simp)
end Go.Proofs.Ytejmeihfdddnmaa

set_option linter.unusedSimpArgs false
set_option linter.unusedVariables false
namespace Go.Proofs.Ytejmeihfdddnmaa
open Go.Lift
theorem wrap_u8 {n : Int} (h1 : 0 ≤ n) (h2 : n < 256) : IntKind.u8.wrap n = n := by
  simp only [IntKind.wrap, IntKind.bits, IntKind.signed]
  have := Int.emod_eq_of_lt h1 (show n < 2 ^ 8 by omega)
  simp at *
  omega
def textAt (s : ByteArray) : Nat → Int
  | 0 => 14695981039346656037
  | i + 1 => IntKind.u64.wrap (bits .xor .u64 (textAt s i) (IntKind.u64.wrap ((s.data.getD i 0).toNat : Int)) * 1099511628211)

theorem c_hash_Text (s : ByteArray) (hl : s.size ≤ maxLen) : Ret Try.prog 38 [.v (.string s)] (u64 (mixR (textAt s s.size))) := by
  have hl' : s.size ≤ 9223372036854775807 := hl
  refine ret_of_body (fn := Try.f38) (c := Try.f38.body.getD .skip) hm hT (by kernel_rfl) Try.func38 (by kernel_rfl) (by kernel_rfl) (by kernel_rfl) (by kernel_rfl) ?_
  repeat' ((conv => whnf); first | refine And.intro (fun h => h) ?_ | refine dcond_t (by assumption) ?_ | refine dcond_f (by assumption) ?_ | (refine dcond_intro ?_ ?_ <;> intro h) | exact .refl | refine And.intro (by kernel_rfl) ?_ | refine And.intro ⟨fun h => h, fun h => h⟩ ?_ | (refine And.intro ?_ ?_; focus (simp; done)) | fail)
  refine ⟨Nat, fun i => ⟨[(0, .v (.string s)), (3, u64 (textAt s i)), (6, i64 s.size), (7, i64 i)], []⟩, fun i => i ≤ s.size, fun i => s.size - i, [], ⟨0, Nat.zero_le _, ?_⟩, ?_⟩
  · exact ⟨by repeat' ((conv => whnf); first | exact trivial | refine And.intro (by (conv => arg 1; whnf); first | (with_reducible exact .refl) | exact dle_int (wrap_succ (by omega)) | exact .refl) ?_), by repeat' ((conv => whnf); first | exact trivial | refine And.intro ?_ ?_ | exact .refl), rfl⟩
  · intro i hi
    repeat' ((conv => whnf); first | refine And.intro (fun h => h) ?_ | refine dcond_t (by assumption) ?_ | refine dcond_f (by assumption) ?_ | (refine dcond_intro ?_ ?_ <;> intro h) | exact .refl | refine And.intro (by kernel_rfl) ?_ | refine And.intro ⟨fun h => h, fun h => h⟩ ?_ | (refine And.intro ?_ ?_; focus (simp; done)) | fail)
    · have hlt : i < s.size := by
        simp at h
        omega
      clear h
      have ht : textAt s (i + 1) = IntKind.u64.wrap (bits .xor .u64 (textAt s i) (IntKind.u64.wrap ((s.data.getD i 0).toNat : Int)) * 1099511628211) := rfl
      generalize textAt s i = z at ht
      repeat' ((conv => whnf); first | refine And.intro (fun h => h) ?_ | refine dcond_t (by assumption) ?_ | refine dcond_f (by assumption) ?_ | (refine dcond_intro ?_ ?_ <;> intro h) | exact .refl | refine And.intro (by kernel_rfl) ?_ | refine And.intro ⟨fun h => h, fun h => h⟩ ?_ | refine ⟨i, And.intro ⟨rfl, hlt⟩ ?_⟩ | (refine And.intro ?_ ?_; focus (simp; done)) | fail)
      all_goals (conv => whnf)
      refine ⟨i + 1, hlt, by simp only []; omega, ?_⟩
      exact ⟨⟨.refl, dle_int ht.symm, .refl, dle_int (wrap_succ (by omega)), trivial⟩, trivial, rfl⟩
    · have : i = s.size := by
        simp at h
        omega
      subst this
      generalize textAt s s.size = z
      repeat' ((conv => whnf); first | refine And.intro (fun h => h) ?_ | refine dcond_t (by assumption) ?_ | refine dcond_f (by assumption) ?_ | (refine dcond_intro ?_ ?_ <;> intro h) | exact .refl | refine And.intro (by kernel_rfl) ?_ | refine And.intro ⟨fun h => h, fun h => h⟩ ?_ | refine .inl ⟨_, _, DleAll_refl _, c_Mix _, ?_⟩ | refine ⟨_, _, DleAll_refl _, fun _ => c_Mix _, ?_⟩ | refine ⟨_, _, DleAll_refl _, c_Mix _, ?_⟩ | (refine And.intro ?_ ?_; focus (simp; done)) | fail)
structure Ref where
  typ : ByteArray
  key : ByteArray
def refE (r : Ref) : List DV := [.v (.string r.typ), .v (.string r.key)]
def actorR (r : Ref) : Int := combR (mixR (textAt r.typ r.typ.size)) (mixR (textAt r.key r.key.size))
theorem c_hash_Actor (r : Ref) (h1 : r.typ.size ≤ maxLen) (h2 : r.key.size ≤ maxLen) : Ret Try.prog 29 [.agg (refE r)] (u64 (actorR r)) := by
  have e1 := c_hash_Text r.typ h1
  have e2 := c_hash_Text r.key h2
  unfold actorR
  generalize mixR (textAt r.typ r.typ.size) = a at e1
  generalize mixR (textAt r.key r.key.size) = b at e2
  refine ret_of_body (fn := Try.f29) (c := Try.f29.body.getD .skip) hm hT (by kernel_rfl) Try.func29 (by kernel_rfl) (by kernel_rfl) (by kernel_rfl) (by kernel_rfl) ?_
  repeat' ((conv => whnf); first | refine And.intro (fun h => h) ?_ | refine dcond_t (by assumption) ?_ | refine dcond_f (by assumption) ?_ | (refine dcond_intro ?_ ?_ <;> intro h) | exact .refl | refine And.intro (by kernel_rfl) ?_ | refine And.intro ⟨fun h => h, fun h => h⟩ ?_ | refine .inl ⟨_, _, DleAll_refl _, e1, ?_⟩ | refine ⟨_, _, DleAll_refl _, fun _ => e1, ?_⟩ | refine ⟨_, _, DleAll_refl _, e1, ?_⟩ | refine .inl ⟨_, _, DleAll_refl _, e2, ?_⟩ | refine ⟨_, _, DleAll_refl _, fun _ => e2, ?_⟩ | refine ⟨_, _, DleAll_refl _, e2, ?_⟩ | refine .inl ⟨_, _, DleAll_refl _, c_Combine _ _, ?_⟩ | refine ⟨_, _, DleAll_refl _, fun _ => c_Combine _ _, ?_⟩ | refine ⟨_, _, DleAll_refl _, c_Combine _ _, ?_⟩ | (refine And.intro ?_ ?_; focus (simp; done)) | fail)
def homeR (v : View) (r : Ref) : Int := bif !viewB v then 0 else ownerR v.mem (actorR r)
theorem c_ring_Home (v : View) (hv : v.mem.length ≤ maxLen) (r : Ref) (h1 : r.typ.size ≤ maxLen) (h2 : r.key.size ≤ maxLen) : Ret Try.prog 17 [.agg (viewE v), .agg (refE r)] (i64 (homeR v r)) := by
  have e1 := c_hash_Actor r h1 h2
  have e2 := c_ring_Owner v.mem hv (actorR r)
  have hh : homeR v r = bif !viewB v then 0 else ownerR v.mem (actorR r) := rfl
  generalize ownerR v.mem (actorR r) = o at e2 hh
  generalize actorR r = k at e1 e2
  refine ret_of_body (fn := Try.f17) (c := Try.f17.body.getD .skip) hm hT (by kernel_rfl) Try.func17 (by kernel_rfl) (by kernel_rfl) (by kernel_rfl) (by kernel_rfl) ?_
  repeat' ((conv => whnf); first | refine And.intro (fun h => h) ?_ | refine dcond_t (by assumption) ?_ | refine dcond_f (by assumption) ?_ | (refine dcond_intro ?_ ?_ <;> intro h) | exact .refl | refine And.intro (by kernel_rfl) ?_ | refine And.intro ⟨fun h => h, fun h => h⟩ ?_ | refine .inl ⟨_, _, DleAll_refl _, c_view_Valid v hv, ?_⟩ | refine ⟨_, _, DleAll_refl _, fun _ => c_view_Valid v hv, ?_⟩ | refine ⟨_, _, DleAll_refl _, c_view_Valid v hv, ?_⟩ | refine .inl ⟨_, _, DleAll_refl _, e1, ?_⟩ | refine ⟨_, _, DleAll_refl _, fun _ => e1, ?_⟩ | refine ⟨_, _, DleAll_refl _, e1, ?_⟩ | refine .inl ⟨_, _, DleAll_refl _, e2, ?_⟩ | refine ⟨_, _, DleAll_refl _, fun _ => e2, ?_⟩ | refine ⟨_, _, DleAll_refl _, e2, ?_⟩ | (refine And.intro ?_ ?_; focus (simp; done)) | fail)
  all_goals (conv => whnf)
  all_goals refine dle_int ?_
  all_goals rw [hh, h]
  all_goals rfl
end Go.Proofs.Ytejmeihfdddnmaa

set_option linter.unusedSimpArgs false
set_option linter.unusedVariables false
namespace Go.Proofs.Ytejmeihfdddnmaa
open Go.Lift
theorem r13 (a b : List Int) (ha : a.length ≤ maxLen) : Ret Try.prog 13 [.lst 1 (a.map intE) false, .lst 1 (b.map intE) false] (.v (.bool (sameI a b))) := by
  have hl' : a.length ≤ 9223372036854775807 := ha
  refine ret_of_body (fn := Try.f13) (c := Try.f13.body.getD .skip) hm hT (by kernel_rfl) Try.func13 (by kernel_rfl) (by kernel_rfl) (by kernel_rfl) (by kernel_rfl) ?_
  repeat' ((conv => whnf); first | refine And.intro (fun h => h) ?_ | refine dcond_t (by assumption) ?_ | refine dcond_f (by assumption) ?_ | (refine dcond_intro ?_ ?_ <;> intro h) | exact .refl | refine And.intro (by kernel_rfl) ?_ | refine And.intro ⟨fun h => h, fun h => h⟩ ?_ | (refine And.intro ?_ ?_; focus (simp; done)) | fail)
  · refine dle_bool ?_
    simp only [List.length_map] at h
    have h : decide ((a.length : Int) = (b.length : Int)) = false := by simpa using h
    simp only [sameI, h, Bool.false_and]
  · have h0 : a.length = b.length := by
      simp at h
      omega
    clear h
    conv => whnf
    refine ⟨Nat, fun i => ⟨[(0, .lst 1 (a.map intE) false), (1, .lst 1 (b.map intE) false), (5, i64 i)], []⟩, fun i => i ≤ a.length ∧ ∀ j, j < i → decide (a.getD j 0 = b.getD j 0) = true, fun i => a.length - i, [], ⟨0, ⟨Nat.zero_le _, by omega⟩, ?_⟩, ?_⟩
    · exact ⟨by repeat' ((conv => whnf); first | exact trivial | refine And.intro (by (conv => arg 1; whnf); first | (with_reducible exact .refl) | exact dle_int (wrap_succ (by omega)) | exact .refl) ?_), by repeat' ((conv => whnf); first | exact trivial | refine And.intro ?_ ?_ | exact .refl), rfl⟩
    · intro i ⟨hi, hall⟩
      repeat' ((conv => whnf); first | refine And.intro (fun h => h) ?_ | refine dcond_t (by assumption) ?_ | refine dcond_f (by assumption) ?_ | (refine dcond_intro ?_ ?_ <;> intro h) | exact .refl | refine And.intro (by kernel_rfl) ?_ | refine And.intro ⟨fun h => h, fun h => h⟩ ?_ | (refine And.intro ?_ ?_; focus (simp; done)) | fail)
      · have hlt : i < a.length := by simpa using h
        have hlt2 : i < b.length := by omega
        clear h
        have hg : a.getD i 0 = a[i] := by simp [hlt]
        have hg2 : b.getD i 0 = b[i] := by simp [hlt2]
        repeat' ((conv => whnf); first | refine And.intro (fun h => h) ?_ | refine dcond_t (by assumption) ?_ | refine dcond_f (by assumption) ?_ | (refine dcond_intro ?_ ?_ <;> intro h) | exact .refl | refine And.intro (by kernel_rfl) ?_ | refine And.intro ⟨fun h => h, fun h => h⟩ ?_ | refine ⟨_, _, And.intro ⟨rfl, get_map hlt⟩ ?_⟩ | refine ⟨_, _, And.intro ⟨rfl, get_map hlt2⟩ ?_⟩ | (refine And.intro ?_ ?_; focus (simp; done)) | fail)
        · refine dle_bool ?_
          rw [sameI, allB_false hlt (i := i), Bool.and_false]
          rw [hg, hg2]
          simpa using h
        · conv => whnf
          refine ⟨i + 1, ⟨hlt, fun j hj => ?_⟩, by simp only []; omega, ?_⟩
          · rcases Nat.lt_succ_iff_lt_or_eq.1 hj with hj | rfl
            · exact hall j hj
            · rw [hg, hg2]
              simpa using h
          · exact ⟨by repeat' ((conv => whnf); first | exact trivial | refine And.intro (by (conv => arg 1; whnf); first | (with_reducible exact .refl) | exact dle_int (wrap_succ (by omega)) | exact .refl) ?_), by repeat' ((conv => whnf); first | exact trivial | refine And.intro ?_ ?_ | exact .refl), rfl⟩
      · have hge : ¬ i < a.length := by simpa using h
        conv => whnf
        refine dle_bool ?_
        rw [sameI, allB_true.2 (fun j hj => hall j (by omega)), h0]
        simp
theorem joins_law {ms : List Int} (h : idsB ms 16 = true) (hlen : ms.length < 16) {x : Int} (h1 : 1 ≤ x) (h2 : x ≤ 1000) (hx : x ∉ ms) (key : Int) : ownerR ms key ∈ ms ∧ (ownerR (insL ms x) key = ownerR ms key ∨ ownerR (insL ms x) key = x) := by
  refine ⟨owner_in_ring h key, ?_⟩
  have h' := ins_ids h hx h1 h2 (by omega)
  have hp : ((insL ms x).filter (fun y => !decide (y = x))).Perm ms := by
    rw [insL_eq]
    refine ((insW_perm ms x).filter _).trans ?_
    rw [List.filter_cons]
    simp only [decide_true, Bool.not_true, Bool.false_eq_true, if_false]
    rw [List.filter_eq_self.2 fun y hy => by
      have : y ≠ x := fun e => hx (e ▸ hy)
      simp [this]]
  have hf := mems_filter h' h hp key
  rw [owner_eq, owner_eq, hf]
  cases hm : memsL (tableR (insL ms x)) key with
  | nil => exact .inl rfl
  | cons b r =>
    by_cases hb : b = x
    · exact .inr (by simp [hb])
    · exact .inl (by simp [List.filter_cons, hb])
theorem owners_all {ms : List Int} (h : idsB ms 16 = true) (key : Int) : ownersR ms key ms.length = uniqL (memsL (tableR ms) key) := by
  rw [owners_eq]
  exact List.take_of_length_le (by rw [(owners_perm h key).length_eq]; simp)
theorem owners_head {ms : List Int} (key : Int) : ownerR ms key = (uniqL (memsL (tableR ms) key)).head?.getD 0 := by
  rw [owner_eq, uniq_head]
theorem leaves_law {ms : List Int} (h : idsB ms 16 = true) (h2 : 2 ≤ ms.length) {x : Int} (hx : x ∈ ms) (key : Int) :
    (ownersR ms key ms.length).length = ms.length ∧ (ownersR ms key ms.length).getD 0 0 = ownerR ms key ∧
    ownerR (ms.filter (amongB [x] false)) key = (if (ownersR ms key ms.length).getD 0 0 = x then (ownersR ms key ms.length).getD 1 0 else (ownersR ms key ms.length).getD 0 0) ∧
    ownersR (ms.filter (amongB [x] false)) key (ms.filter (amongB [x] false)).length = (ownersR ms key ms.length).filter (amongB [x] false) := by
  have hp : ∀ y, amongB [x] false y = !decide (y = x) := fun y => by
    have h : inB [x] y = decide (y = x) := by
      cases hi : inB [x] y
      · cases hd : decide (y = x)
        · rfl
        · have := of_decide_eq_true hd
          rw [in_iff.2 (by simp [this])] at hi
          cases hi
      · have := in_iff.1 hi
        simp at this
        simp [this]
    unfold amongB
    rw [h]
    cases decide (y = x) <;> rfl
  rw [owners_all h]
  have hperm := owners_perm h key
  have hnd := uniq_nodup (memsL (tableR ms) key)
  have hne : ms.filter (amongB [x] false) ≠ [] := fun he => by
    have hnm := pw_nodup (ids_pw.1 h).2.1
    match ms, h2, hx, hnm, he with
    | a :: b :: r, _, hx, hnm, he =>
      have h3 := List.filter_eq_nil_iff.1 he a (by simp)
      have h4 := List.filter_eq_nil_iff.1 he b (by simp)
      simp only [hp, Bool.not_eq_true', decide_eq_false_iff_not, Classical.not_not] at h3 h4
      simp only [List.nodup_cons, List.mem_cons, not_or] at hnm
      exact hnm.1.1 (h3.trans h4.symm)
  have h' := filter_ids h hne
  have hf := mems_filter h h' (List.Perm.refl _) key
  refine ⟨hperm.length_eq, ?_, ?_, ?_⟩
  · rw [owners_head]
    cases uniqL (memsL (tableR ms) key) <;> rfl
  · rw [owners_head, hf, uniq_filter]
    have hlen := hperm.length_eq
    match hU : uniqL (memsL (tableR ms) key), hnd with
    | [], _ => rw [hU] at hlen; simp at hlen; omega
    | [a], _ => rw [hU] at hlen; simp at hlen; omega
    | a :: b :: r, hnd =>
      by_cases ha : a = x
      · have hb : b ≠ x := fun e => by
          simp only [List.nodup_cons, List.mem_cons, not_or] at hnd
          exact hnd.1.1 (ha.trans e.symm)
        simp [List.filter_cons, hp, ha, hb]
      · simp [List.filter_cons, hp, ha]
  · rw [owners_all h', hf, uniq_filter]
theorem place_at {l : List Int} (h : l.Nodup) {i : Nat} (hi : i < l.length) : placeB l l[i] = i := by
  refine findB_at hi (by simp [hi]) (fun j hj => ?_)
  refine decide_eq_false fun e => ?_
  have hjl : j < l.length := by omega
  rw [List.getElem?_eq_getElem hjl] at e
  simp only [Option.some.injEq] at e
  have := (List.getElem_inj h).1 e
  omega
/-- the first token at a position is its owner -/
theorem owner_at {T : List Tok} (hs : sortedT T) {p : Int} {i : Nat} (hi : i < T.length) (he : T[i].pos = p) (hall : ∀ j (hj : j < T.length), j < i → T[j].pos ≠ p) : firstR T p = i := by
  refine first_at hi (by simp [geAt, hi, he]) (fun j hj => ?_)
  have hjl : j < T.length := by omega
  have h1 := List.pairwise_iff_getElem.1 (sorted_pos hs) j i hjl hi hj
  have h2 := hall j hjl hj
  simp only [geAt, List.getD_eq_getElem?_getD, List.getElem?_eq_getElem hjl, Option.getD_some]
  exact decide_eq_false (by omega)
def vA : View := ⟨0, [5]⟩
def rA : Ref := ⟨⟨#[97]⟩, ⟨#[]⟩⟩
theorem ids5 : idsB [5] 16 = true := by decide +kernel
theorem ids259 : idsB [2, 5, 9] 16 = true := by decide +kernel
theorem ownF5 (key : Int) : ownerR [5] key = 5 := by
  have := owner_in_ring ids5 key
  simpa using this
theorem ownN0 (key : Int) : ownerR [] key = 0 := by
  have : tableR [] = [] := by
    have : idsB [] 16 = false := by decide +kernel
    simp only [tableR, this, cond_false]
  simp [ownerR, this]
set_option maxRecDepth 100000 in
theorem r6 : Ret Try.prog 6 [] (.v (.bool true)) := by
  have e1 := c_ring_Table [5] (by decide)
  have l1 : (tableR [5]).length = 8 := by rw [table_in ids5, sortL_len, toks_len]; rfl
  have e2 := c_ring_Owners [2, 5, 9] (by decide) 1099511627776 7
  have l2 : (ownersR [2, 5, 9] 1099511627776 7).length = 3 ∧ (ownersR [2, 5, 9] 1099511627776 7).getD 0 0 = ownerR [2, 5, 9] 1099511627776 := by
    have hp := (owners_perm ids259 1099511627776).length_eq
    rw [owners_eq, owners_head]
    generalize uniqL (memsL (tableR [2, 5, 9]) 1099511627776) = U at hp
    match U, hp with
    | [a, b, c], _ => exact ⟨rfl, rfl⟩
  have e3 := c_ring_Owner [5] (by decide) 77
  rw [ownF5] at e3
  have e4 := c_ring_Owner [] (by decide) 77
  rw [ownN0] at e4
  have e5 := c_ring_Owner [2, 5, 9] (by decide) 1099511627776
  have e6 := c_ring_Home vA (by decide) rA (by decide) (by decide)
  have h6 : homeR vA rA = 5 := by
    have : viewB vA = true := by decide +kernel
    simp only [homeR, this, Bool.not_true, cond_false]
    exact ownF5 _
  rw [h6] at e6
  generalize ownerR [2, 5, 9] 1099511627776 = o at e5 l2
  generalize ownersR [2, 5, 9] 1099511627776 7 = O at e2 l2
  generalize tableR [5] = T at e1 l1
  match O, l2 with
  | [a, b, c], ⟨_, h0⟩ =>
  simp at h0
  subst h0
  refine ret_of_body (fn := Try.f6) (c := Try.f6.body.getD .skip) hm hT (by kernel_rfl) Try.func6 (by kernel_rfl) (by kernel_rfl) (by kernel_rfl) (by kernel_rfl) ?_
  repeat' ((conv => whnf); first | refine And.intro (fun h => h) ?_ | refine dcond_t (by assumption) ?_ | refine dcond_f (by assumption) ?_ | (refine dcond_intro ?_ ?_ <;> intro h) | exact .refl | refine And.intro (by kernel_rfl) ?_ | refine And.intro ⟨fun h => h, fun h => h⟩ ?_ | refine .inl ⟨_, _, DleAll_refl _, e1, ?_⟩ | refine ⟨_, _, DleAll_refl _, fun _ => e1, ?_⟩ | refine ⟨_, _, DleAll_refl _, e1, ?_⟩ | refine .inl ⟨_, _, DleAll_refl _, e2, ?_⟩ | refine ⟨_, _, DleAll_refl _, fun _ => e2, ?_⟩ | refine ⟨_, _, DleAll_refl _, e2, ?_⟩ | refine .inl ⟨_, _, DleAll_refl _, e3, ?_⟩ | refine ⟨_, _, DleAll_refl _, fun _ => e3, ?_⟩ | refine ⟨_, _, DleAll_refl _, e3, ?_⟩ | refine .inl ⟨_, _, DleAll_refl _, e5, ?_⟩ | refine ⟨_, _, DleAll_refl _, fun _ => e5, ?_⟩ | refine ⟨_, _, DleAll_refl _, e5, ?_⟩ | refine .inl ⟨_, _, DleAll_refl _, e6, ?_⟩ | refine ⟨_, _, DleAll_refl _, fun _ => e6, ?_⟩ | refine ⟨_, _, DleAll_refl _, e6, ?_⟩ | refine ⟨[.lst 1 (([] : List Int).map intE) false, u64 77], _, ⟨.nl, .refl, trivial⟩, fun _ => e4, ?_⟩ | refine ⟨0, intE a, And.intro ⟨⟨fun h => h, fun h => h⟩, fun hg => ⟨rfl, by rfl⟩⟩ ?_⟩ | refine ⟨0, intE a, And.intro ⟨fun h => h, fun hg => ⟨rfl, by rfl⟩⟩ ?_⟩ | (refine And.intro ?_ ?_; focus (simp; done)) | fail)
  all_goals (conv => whnf)
  all_goals first
    | (exfalso; simp [l1] at h; done)
    | (refine dle_bool ?_; simp [l1]; done)
    | trace_state
theorem u16_x {id : Int} (h1 : 0 ≤ id) (h2 : id ≤ 65535) : 1 ≤ IntKind.i64.wrap (1 + Int.tmod (IntKind.i64.wrap id) 1000) ∧ IntKind.i64.wrap (1 + Int.tmod (IntKind.i64.wrap id) 1000) ≤ 1000 := by
  rw [wrap_i64 (n := id) (by omega) (by omega)]
  have h3 : 0 ≤ Int.tmod id 1000 := Int.tmod_nonneg _ h1
  have h4 : Int.tmod id 1000 < 1000 := Int.tmod_lt_of_pos _ (by decide)
  rw [wrap_i64 (by omega) (by omega)]
  omega
set_option maxRecDepth 100000 in
theorem r3 (ms : List Int) (hl : ms.length ≤ maxLen) (id : Int) (hi1 : 0 ≤ id) (hi2 : id ≤ 65535) (key : Int) : Ret Try.prog 3 [.lst 1 (ms.map intE) false, .v (.int .u16 id), u64 key] (.v (.bool true)) := by
  have hx := u16_x hi1 hi2
  have e8 := c_ref3_Contains ms hl (IntKind.i64.wrap (1 + Int.tmod (IntKind.i64.wrap id) 1000))
  have e7 := c_ref3_ValidMembers ms hl
  refine ret_of_body (fn := Try.f3) (c := Try.f3.body.getD .skip) hm hT (by kernel_rfl) Try.func3 (by kernel_rfl) (by kernel_rfl) (by kernel_rfl) (by kernel_rfl) ?_
  repeat' ((conv => whnf); first | refine And.intro (fun h => h) ?_ | refine dcond_t (by assumption) ?_ | refine dcond_f (by assumption) ?_ | (refine dcond_intro ?_ ?_ <;> intro h) | exact .refl | refine And.intro (by kernel_rfl) ?_ | refine And.intro ⟨fun h => h, fun h => h⟩ ?_ | refine .inl ⟨_, _, DleAll_refl _, r6, ?_⟩ | refine ⟨_, _, DleAll_refl _, fun _ => r6, ?_⟩ | refine ⟨_, _, DleAll_refl _, r6, ?_⟩ | refine .inl ⟨_, _, DleAll_refl _, e7, ?_⟩ | refine ⟨_, _, DleAll_refl _, fun _ => e7, ?_⟩ | refine ⟨_, _, DleAll_refl _, e7, ?_⟩ | refine .inl ⟨_, _, DleAll_refl _, e8, ?_⟩ | refine ⟨_, _, DleAll_refl _, fun _ => e8, ?_⟩ | refine ⟨_, _, DleAll_refl _, e8, ?_⟩ | (refine And.intro ?_ ?_; focus (simp; done)) | fail)
  all_goals (conv => whnf)
  have hs : idsB ms 16 = true ∧ ms.length < 16 ∧ IntKind.i64.wrap (1 + Int.tmod (IntKind.i64.wrap id) 1000) ∉ ms := by
    simp only [List.length_map, Bool.or_eq_false_iff, decide_eq_false_iff_not, Bool.not_eq_false'] at h
    obtain ⟨⟨h1, h2⟩, h3⟩ := h
    exact ⟨h1, by omega, fun hm => by rw [in_iff.2 hm] at h3; cases h3⟩
  clear h
  obtain ⟨h1, h2, h3⟩ := hs
  obtain ⟨hl1, hl2⟩ := joins_law h1 h2 hx.1 hx.2 h3 key
  have e10 := c_ref3_Insert ms (by omega) (IntKind.i64.wrap (1 + Int.tmod (IntKind.i64.wrap id) 1000))
  have hil := insL_len ms (IntKind.i64.wrap (1 + Int.tmod (IntKind.i64.wrap id) 1000))
  have e9a := c_ring_Owner ms hl key
  have e9b := c_ring_Owner (insL ms (IntKind.i64.wrap (1 + Int.tmod (IntKind.i64.wrap id) 1000))) (by simp only [maxLen]; omega) key
  have e8b := c_ref3_Contains ms hl (ownerR ms key)
  rw [in_iff.2 hl1] at e8b
  generalize ownerR ms key = a at *
  generalize ownerR (insL ms (IntKind.i64.wrap (1 + Int.tmod (IntKind.i64.wrap id) 1000))) key = b at *
  repeat' ((conv => whnf); first | refine And.intro (fun h => h) ?_ | refine dcond_t (by assumption) ?_ | refine dcond_f (by assumption) ?_ | (refine dcond_intro ?_ ?_ <;> intro h) | exact .refl | refine And.intro (by kernel_rfl) ?_ | refine And.intro ⟨fun h => h, fun h => h⟩ ?_ | refine .inl ⟨_, _, DleAll_refl _, e9a, ?_⟩ | refine ⟨_, _, DleAll_refl _, fun _ => e9a, ?_⟩ | refine ⟨_, _, DleAll_refl _, e9a, ?_⟩ | refine .inl ⟨_, _, DleAll_refl _, e10, ?_⟩ | refine ⟨_, _, DleAll_refl _, fun _ => e10, ?_⟩ | refine ⟨_, _, DleAll_refl _, e10, ?_⟩ | refine .inl ⟨_, _, DleAll_refl _, e9b, ?_⟩ | refine ⟨_, _, DleAll_refl _, fun _ => e9b, ?_⟩ | refine ⟨_, _, DleAll_refl _, e9b, ?_⟩ | refine .inl ⟨_, _, DleAll_refl _, e8b, ?_⟩ | refine ⟨_, _, DleAll_refl _, fun _ => e8b, ?_⟩ | refine ⟨_, _, DleAll_refl _, e8b, ?_⟩ | (refine And.intro ?_ ?_; focus (simp; done)) | fail)
  all_goals (conv => whnf)
  all_goals first
    | (refine dle_bool ?_; rcases hl2 with h | h <;> simp [h]; done)
    | trace_state
end Go.Proofs.Ytejmeihfdddnmaa

set_option linter.unusedSimpArgs false
set_option linter.unusedVariables false
namespace Go.Proofs.Ytejmeihfdddnmaa
open Go.Lift
theorem getI {l : List Int} {i : Nat} (h : i < l.length) : (l.map intE)[i]? = some (intE (l.getD i 0)) := by simp [h]
set_option maxRecDepth 100000 in
set_option maxHeartbeats 1000000 in
theorem r4 (ms : List Int) (hl : ms.length ≤ maxLen) (w : Nat) (hw : w ≤ 255) (key : Int) : Ret Try.prog 4 [.lst 1 (ms.map intE) false, .v (.int .u8 w), u64 key] (.v (.bool true)) := by
  have e7 := c_ref3_ValidMembers ms hl
  refine ret_of_body (fn := Try.f4) (c := Try.f4.body.getD .skip) hm hT (by kernel_rfl) Try.func4 (by kernel_rfl) (by kernel_rfl) (by kernel_rfl) (by kernel_rfl) ?_
  repeat' ((conv => whnf); first | refine And.intro (fun h => h) ?_ | refine dcond_t (by assumption) ?_ | refine dcond_f (by assumption) ?_ | (refine dcond_intro ?_ ?_ <;> intro h) | exact .refl | refine And.intro (by kernel_rfl) ?_ | refine And.intro ⟨fun h => h, fun h => h⟩ ?_ | refine .inl ⟨_, _, DleAll_refl _, r6, ?_⟩ | refine ⟨_, _, DleAll_refl _, fun _ => r6, ?_⟩ | refine ⟨_, _, DleAll_refl _, r6, ?_⟩ | refine .inl ⟨_, _, DleAll_refl _, e7, ?_⟩ | refine ⟨_, _, DleAll_refl _, fun _ => e7, ?_⟩ | refine ⟨_, _, DleAll_refl _, e7, ?_⟩ | (refine And.intro ?_ ?_; focus (simp; done)) | fail)
  all_goals (conv => whnf)
  have hs : idsB ms 16 = true ∧ 2 ≤ ms.length := by
    simp only [List.length_map, Bool.or_eq_false_iff, decide_eq_false_iff_not, Bool.not_eq_false'] at h
    obtain ⟨h1, h2⟩ := h
    exact ⟨h1, by omega⟩
  clear h
  obtain ⟨h1, h2⟩ := hs
  have h16 : ms.length ≤ 16 := by have := (ids_pw.1 h1).1; omega
  have hne : ((ms.map intE).length : Int) ≠ 0 := by
    rw [List.length_map]; omega
  have hlt : w % ms.length < ms.length := Nat.mod_lt _ (by omega)
  have hix : Int.tmod (IntKind.i64.wrap (w : Int)) ((ms.map intE).length : Int) = ((w % ms.length : Nat) : Int) := by
    rw [wrap_i64 (by omega) (by omega), List.length_map]
    rfl
  have hxm : ms[w % ms.length] ∈ ms := List.getElem_mem hlt
  have hgx := get_map (f := intE) hlt
  generalize ms[w % ms.length] = x at hxm hgx
  obtain ⟨k1, k2, k3, k4⟩ := leaves_law h1 h2 hxm key
  have h1m : ([x] : List Int).length ≤ maxLen := by
    simp only [List.length_cons, List.length_nil]
    decide
  have e11 := c_ref3_Among ms [x] (by omega) h1m false
  have e12 := c_ring_Owners ms hl key (ms.length : Nat)
  have e9 := c_ring_Owner ms hl key
  generalize hL : ownersR ms key (ms.length : Nat) = L at e12 k1 k2 k3 k4
  generalize ownerR ms key = o at e9 k2
  have hrl : (ms.filter (amongB [x] false)).length ≤ 16 := Nat.le_trans (List.length_filter_le _ _) h16
  generalize ms.filter (amongB [x] false) = rest at e11 k3 k4 hrl
  have hrm : rest.length ≤ maxLen := Nat.le_trans hrl (by decide)
  have e9b := c_ring_Owner rest hrm key
  have e12b := c_ring_Owners rest hrm key (rest.length : Nat)
  rw [k4] at e12b
  have e11b := c_ref3_Among L [x] (by omega) h1m false
  have e13 := r13 (L.filter (amongB [x] false)) (L.filter (amongB [x] false)) (Nat.le_trans (List.length_filter_le _ _) (by rw [k1]; exact hl))
  rw [sameI_refl] at e13
  generalize L.filter (amongB [x] false) = L' at e11b e12b e13
  rw [k3] at e9b
  have hg0 := getI (l := L) (i := 0) (by omega)
  have hg1 := getI (l := L) (i := 1) (by omega)
  rw [k2] at e9b hg0
  have hll : i64 ((ms.map intE).length : Nat) = i64 (ms.length : Nat) := by rw [List.length_map]
  have hlr : i64 ((rest.map intE).length : Nat) = i64 (rest.length : Nat) := by rw [List.length_map]
  rw [← hll] at e12
  rw [← hlr] at e12b
  repeat' ((conv => whnf); first | refine And.intro (fun h => h) ?_ | refine dcond_t (by assumption) ?_ | refine dcond_f (by assumption) ?_ | (refine dcond_intro ?_ ?_ <;> intro h) | exact .refl | refine And.intro (by kernel_rfl) ?_ | refine And.intro ⟨fun h => h, fun h => h⟩ ?_ | refine And.intro hne ?_ | refine ⟨w % ms.length, _, And.intro ⟨hix, hgx⟩ ?_⟩ | refine .inl ⟨_, _, DleAll_refl _, e11, ?_⟩ | refine ⟨_, _, DleAll_refl _, fun _ => e11, ?_⟩ | refine ⟨_, _, DleAll_refl _, e11, ?_⟩ | refine .inl ⟨_, _, DleAll_refl _, e12, ?_⟩ | refine ⟨_, _, DleAll_refl _, fun _ => e12, ?_⟩ | refine ⟨_, _, DleAll_refl _, e12, ?_⟩ | refine .inl ⟨_, _, DleAll_refl _, e9, ?_⟩ | refine ⟨_, _, DleAll_refl _, fun _ => e9, ?_⟩ | refine ⟨_, _, DleAll_refl _, e9, ?_⟩ | refine ⟨0, _, And.intro ⟨⟨fun h => h, fun h => h⟩, fun hg => ⟨rfl, hg0⟩⟩ ?_⟩ | refine ⟨0, _, And.intro ⟨fun h => h, fun hg => ⟨rfl, hg0⟩⟩ ?_⟩ | refine ⟨0, _, And.intro ⟨rfl, hg0⟩ ?_⟩ | refine ⟨1, _, And.intro ⟨rfl, hg1⟩ ?_⟩ | (refine And.intro ?_ ?_; focus (simp; done)) | fail)
  all_goals (conv => whnf)
  · exfalso
    simp [k1] at h
  all_goals rename_i h0
  all_goals clear h0
  · rw [if_pos (of_decide_eq_true h)] at e9b
    repeat' ((conv => whnf); first | refine And.intro (fun h => h) ?_ | refine dcond_t (by assumption) ?_ | refine dcond_f (by assumption) ?_ | (refine dcond_intro ?_ ?_ <;> intro h) | exact .refl | refine And.intro (by kernel_rfl) ?_ | refine And.intro ⟨fun h => h, fun h => h⟩ ?_ | refine .inl ⟨_, _, DleAll_refl _, e9b, ?_⟩ | refine ⟨_, _, DleAll_refl _, fun _ => e9b, ?_⟩ | refine ⟨_, _, DleAll_refl _, e9b, ?_⟩ | refine .inl ⟨_, _, DleAll_refl _, e12b, ?_⟩ | refine ⟨_, _, DleAll_refl _, fun _ => e12b, ?_⟩ | refine ⟨_, _, DleAll_refl _, e12b, ?_⟩ | refine .inl ⟨_, _, DleAll_refl _, e11b, ?_⟩ | refine ⟨_, _, DleAll_refl _, fun _ => e11b, ?_⟩ | refine ⟨_, _, DleAll_refl _, e11b, ?_⟩ | refine .inl ⟨_, _, DleAll_refl _, e13, ?_⟩ | refine ⟨_, _, DleAll_refl _, fun _ => e13, ?_⟩ | refine ⟨_, _, DleAll_refl _, e13, ?_⟩ | refine And.intro (fun hb => ?_) (fun hb => ?_) | (refine And.intro ?_ ?_; focus (simp; done)) | fail)
    all_goals (conv => whnf)
    all_goals first
      | (refine dle_bool ?_; simp; done)
      | (exfalso; simp at hb; done)
      | trace_state
  · rw [if_neg (of_decide_eq_false h)] at e9b
    repeat' ((conv => whnf); first | refine And.intro (fun h => h) ?_ | refine dcond_t (by assumption) ?_ | refine dcond_f (by assumption) ?_ | (refine dcond_intro ?_ ?_ <;> intro h) | exact .refl | refine And.intro (by kernel_rfl) ?_ | refine And.intro ⟨fun h => h, fun h => h⟩ ?_ | refine .inl ⟨_, _, DleAll_refl _, e9b, ?_⟩ | refine ⟨_, _, DleAll_refl _, fun _ => e9b, ?_⟩ | refine ⟨_, _, DleAll_refl _, e9b, ?_⟩ | refine .inl ⟨_, _, DleAll_refl _, e12b, ?_⟩ | refine ⟨_, _, DleAll_refl _, fun _ => e12b, ?_⟩ | refine ⟨_, _, DleAll_refl _, e12b, ?_⟩ | refine .inl ⟨_, _, DleAll_refl _, e11b, ?_⟩ | refine ⟨_, _, DleAll_refl _, fun _ => e11b, ?_⟩ | refine ⟨_, _, DleAll_refl _, e11b, ?_⟩ | refine .inl ⟨_, _, DleAll_refl _, e13, ?_⟩ | refine ⟨_, _, DleAll_refl _, fun _ => e13, ?_⟩ | refine ⟨_, _, DleAll_refl _, e13, ?_⟩ | refine And.intro (fun hb => ?_) (fun hb => ?_) | (refine And.intro ?_ ?_; focus (simp; done)) | fail)
    all_goals (conv => whnf)
    all_goals first
      | (refine dle_bool ?_; simp; done)
      | (exfalso; simp at hb; done)
      | trace_state
end Go.Proofs.Ytejmeihfdddnmaa

set_option linter.unusedSimpArgs false
set_option linter.unusedVariables false
namespace Go.Proofs.Ytejmeihfdddnmaa
open Go.Lift
theorem owner_getD {ms : List Int} (h : idsB ms 16 = true) {p : Int} {i : Nat} (hi : i < (tableR ms).length) (he : (tableR ms)[i].pos = p) (hall : ∀ j (hj : j < (tableR ms).length), j < i → (tableR ms)[j].pos ≠ p) : ownerR ms p = (tableR ms)[i].mem := by
  have hf := owner_at (table_sorted ms) hi he hall
  have h0 : decide (((tableR ms).length : Int) = 0) = false := decide_eq_false (by omega)
  rw [ownerR, h0, cond_false, hf]
  simp [hi]
set_option maxRecDepth 100000 in
set_option maxHeartbeats 2000000 in
theorem r5 (ms : List Int) (hl : ms.length ≤ maxLen) (key : Int) (n : Nat) (hn : n ≤ 255) (w : Nat) (hw : w ≤ 255) : Ret Try.prog 5 [.lst 1 (ms.map intE) false, u64 key, .v (.int .u8 n), .v (.int .u8 w)] (.v (.bool true)) := by
  have e7 := c_ref3_ValidMembers ms hl
  refine ret_of_body (fn := Try.f5) (c := Try.f5.body.getD .skip) hm hT (by kernel_rfl) Try.func5 (by kernel_rfl) (by kernel_rfl) (by kernel_rfl) (by kernel_rfl) ?_
  repeat' ((conv => whnf); first | refine And.intro (fun h => h) ?_ | refine dcond_t (by assumption) ?_ | refine dcond_f (by assumption) ?_ | (refine dcond_intro ?_ ?_ <;> intro h) | exact .refl | refine And.intro (by kernel_rfl) ?_ | refine And.intro ⟨fun h => h, fun h => h⟩ ?_ | refine .inl ⟨_, _, DleAll_refl _, r6, ?_⟩ | refine ⟨_, _, DleAll_refl _, fun _ => r6, ?_⟩ | refine ⟨_, _, DleAll_refl _, r6, ?_⟩ | refine .inl ⟨_, _, DleAll_refl _, e7, ?_⟩ | refine ⟨_, _, DleAll_refl _, fun _ => e7, ?_⟩ | refine ⟨_, _, DleAll_refl _, e7, ?_⟩ | (refine And.intro ?_ ?_; focus (simp; done)) | fail)
  all_goals (conv => whnf)
  have h1 : idsB ms 16 = true := by simpa using h
  clear h
  have h16 : 1 ≤ ms.length ∧ ms.length ≤ 16 := by have := (ids_pw.1 h1).1; omega
  have hA : IntKind.i64.wrap (Int.tmod (n : Int) 20) = ((n % 20 : Nat) : Int) := by
    have : Int.tmod (n : Int) 20 = ((n % 20 : Nat) : Int) := rfl
    rw [this, wrap_i64 (by omega) (by omega)]
  have hA1 : IntKind.i64.wrap (((n % 20 : Nat) : Int) + 1) = ((n % 20 + 1 : Nat) : Int) := wrap_succ (by omega)
  have e12a := c_ring_Owners ms hl key (IntKind.i64.wrap (Int.tmod (n : Int) 20))
  have e12b := c_ring_Owners ms hl key (IntKind.i64.wrap (IntKind.i64.wrap (Int.tmod (n : Int) 20) + 1))
  rw [owners_eq] at e12a e12b
  have hU := owners_perm h1 key
  have hUn := uniq_nodup (memsL (tableR ms) key)
  generalize uniqL (memsL (tableR ms) key) = U at hU hUn e12a e12b
  have hUl := hU.length_eq
  have hLl : (U.take (IntKind.i64.wrap (Int.tmod (n : Int) 20)).toNat).length = min (n % 20) ms.length := by
    rw [hA, List.length_take, Int.toNat_natCast, hUl]
  have hMl : (U.take (IntKind.i64.wrap (IntKind.i64.wrap (Int.tmod (n : Int) 20) + 1)).toNat).length = min (n % 20 + 1) ms.length := by
    rw [hA, hA1, List.length_take, Int.toNat_natCast, hUl]
  have hML : (((U.take (IntKind.i64.wrap (IntKind.i64.wrap (Int.tmod (n : Int) 20) + 1)).toNat).map intE).take ((U.take (IntKind.i64.wrap (Int.tmod (n : Int) 20)).toNat).map intE).length).drop 0 = (U.take (IntKind.i64.wrap (Int.tmod (n : Int) 20)).toNat).map intE := by
    rw [List.drop_zero, List.length_map, hLl, hA, hA1, Int.toNat_natCast, Int.toNat_natCast, ← List.map_take, List.take_take]
    congr 1
    rw [show min (min (n % 20) ms.length) (n % 20 + 1) = min (n % 20) ms.length by omega]
    by_cases hc : n % 20 ≤ ms.length
    · rw [Nat.min_eq_left hc]
    · rw [Nat.min_eq_right (by omega), List.take_of_length_le (by omega), List.take_of_length_le (by omega)]
  have hLin : ∀ x ∈ U.take (IntKind.i64.wrap (Int.tmod (n : Int) 20)).toNat, x ∈ ms := fun x hx => hU.mem_iff.1 (List.mem_of_mem_take hx)
  have hLnd : (U.take (IntKind.i64.wrap (Int.tmod (n : Int) 20)).toNat).Nodup := hUn.sublist (List.take_sublist _ _)
  generalize U.take (IntKind.i64.wrap (Int.tmod (n : Int) 20)).toNat = L at e12a hLl hML hLin hLnd
  generalize U.take (IntKind.i64.wrap (IntKind.i64.wrap (Int.tmod (n : Int) 20) + 1)).toNat = M at e12b hMl hML
  have e13 := r13 L L (by simp only [maxLen]; omega)
  rw [sameI_refl] at e13
  repeat' ((conv => whnf); first | refine And.intro (fun h => h) ?_ | refine dcond_t (by assumption) ?_ | refine dcond_f (by assumption) ?_ | (refine dcond_intro ?_ ?_ <;> intro h) | exact .refl | refine And.intro (by kernel_rfl) ?_ | refine And.intro ⟨fun h => h, fun h => h⟩ ?_ | refine .inl ⟨_, _, DleAll_refl _, e12a, ?_⟩ | refine ⟨_, _, DleAll_refl _, fun _ => e12a, ?_⟩ | refine ⟨_, _, DleAll_refl _, e12a, ?_⟩ | refine .inl ⟨_, _, DleAll_refl _, e12b, ?_⟩ | refine ⟨_, _, DleAll_refl _, fun _ => e12b, ?_⟩ | refine ⟨_, _, DleAll_refl _, e12b, ?_⟩ | refine ⟨0, (L.map intE).length, And.intro ⟨⟨fun h => h, fun h => h⟩, fun hg => ⟨rfl, ⟨_, rfl⟩, Nat.zero_le _, by simp only [List.length_map] <;> omega⟩⟩ ?_⟩ | refine ⟨[.lst 1 (L.map intE) false, .lst 1 (L.map intE) false], _, ⟨dle_lst hML, .refl, trivial⟩, fun _ => e13, ?_⟩ | (refine And.intro ?_ ?_; focus (simp; done)) | fail)
  all_goals (conv => whnf)
  · exfalso
    have hf : (!decide (((L.map intE).length : Int) = if ((ms.map intE).length : Int) < IntKind.i64.wrap (Int.tmod (n : Int) 20) then ((ms.map intE).length : Int) else IntKind.i64.wrap (Int.tmod (n : Int) 20)) || decide (((M.map intE).length : Int) < ((L.map intE).length : Int)) || !true) = false := by
      rw [hA]
      simp only [List.length_map, Bool.or_eq_false_iff, Bool.not_eq_false', decide_eq_true_eq, decide_eq_false_iff_not, Bool.not_true, and_true]
      constructor
      · split <;> omega
      · omega
    rw [hf] at h
    cases h
  clear h
  refine ⟨Nat, fun i => ⟨[(0, .lst 1 (ms.map intE) false), (3, .v (.int .u8 w)), (9, .lst 1 (L.map intE) false), (11, i64 i)], []⟩, fun i => i ≤ L.length, fun i => L.length - i, [], ⟨0, Nat.zero_le _, ?_⟩, ?_⟩
  · exact ⟨by repeat' ((conv => whnf); first | exact trivial | refine And.intro (by (conv => arg 1; whnf); first | (with_reducible exact .refl) | exact dle_int (wrap_succ (by omega)) | exact .refl) ?_), by repeat' ((conv => whnf); first | exact trivial | refine And.intro ?_ ?_ | exact .refl), rfl⟩
  · intro i hi
    repeat' ((conv => whnf); first | refine And.intro (fun h => h) ?_ | refine dcond_t (by assumption) ?_ | refine dcond_f (by assumption) ?_ | (refine dcond_intro ?_ ?_ <;> intro h) | exact .refl | refine And.intro (by kernel_rfl) ?_ | refine And.intro ⟨fun h => h, fun h => h⟩ ?_ | (refine And.intro ?_ ?_; focus (simp; done)) | fail)
    · have hlt : i < L.length := by simpa using h
      clear h
      have e8 := c_ref3_Contains ms hl L[i]
      rw [in_iff.2 (hLin _ (List.getElem_mem hlt))] at e8
      have e14 := c_ref3_Place L (by simp only [maxLen]; omega) L[i]
      rw [place_at hLnd hlt] at e14
      repeat' ((conv => whnf); first | refine And.intro (fun h => h) ?_ | refine dcond_t (by assumption) ?_ | refine dcond_f (by assumption) ?_ | (refine dcond_intro ?_ ?_ <;> intro h) | exact .refl | refine And.intro (by kernel_rfl) ?_ | refine And.intro ⟨fun h => h, fun h => h⟩ ?_ | refine ⟨_, _, And.intro ⟨rfl, get_map hlt⟩ ?_⟩ | refine .inl ⟨_, _, DleAll_refl _, e8, ?_⟩ | refine ⟨_, _, DleAll_refl _, fun _ => e8, ?_⟩ | refine ⟨_, _, DleAll_refl _, e8, ?_⟩ | refine ⟨i, intE (L[i]'hlt), And.intro ⟨⟨fun h => h, fun h => h⟩, fun hg => ⟨rfl, get_map hlt⟩⟩ ?_⟩ | refine .inl ⟨_, _, DleAll_refl _, e14, ?_⟩ | refine ⟨_, _, DleAll_refl _, fun _ => e14, ?_⟩ | refine ⟨_, _, DleAll_refl _, e14, ?_⟩ | (refine And.intro ?_ ?_; focus (simp; done)) | fail)
      all_goals (conv => whnf)
      · exfalso
        simp at h
      · refine ⟨i + 1, hlt, by simp only []; omega, ?_⟩
        exact ⟨by repeat' ((conv => whnf); first | exact trivial | refine And.intro (by (conv => arg 1; whnf); first | (with_reducible exact .refl) | exact dle_int (wrap_succ (by omega)) | exact .refl) ?_), by repeat' ((conv => whnf); first | exact trivial | refine And.intro ?_ ?_ | exact .refl), rfl⟩
    · clear h
      have hlt : w % ms.length < ms.length := Nat.mod_lt _ (by omega)
      have hne : ((ms.map intE).length : Int) ≠ 0 := by
        rw [List.length_map]; omega
      have hix : Int.tmod (IntKind.i64.wrap (w : Int)) ((ms.map intE).length : Int) = ((w % ms.length : Nat) : Int) := by
        rw [wrap_i64 (by omega) (by omega), List.length_map]
        rfl
      have hw8 : Int.tmod (IntKind.i64.wrap (w : Int)) 8 = ((w % 8 : Nat) : Int) := by
        rw [wrap_i64 (by omega) (by omega)]
        rfl
      have hxm : ms[w % ms.length] ∈ ms := List.getElem_mem hlt
      have hgx := get_map (f := intE) hlt
      generalize ms[w % ms.length] = x at hxm hgx
      have e15 := c_Token x (Int.tmod (IntKind.i64.wrap (w : Int)) 8)
      have hin : (⟨tokR x (Int.tmod (IntKind.i64.wrap (w : Int)) 8), x, ((w % 8 : Nat) : Int)⟩ : Tok) ∈ tableR ms := by
        rw [hw8]
        exact (table_mem h1).2 ⟨hxm, tokM_mem.2 ⟨w % 8, Nat.mod_lt _ (by decide), rfl⟩⟩
      generalize tokR x (Int.tmod (IntKind.i64.wrap (w : Int)) 8) = p at e15 hin
      have e16 := c_ring_Table ms hl
      have e9 := c_ring_Owner ms hl p
      have hTl : (tableR ms).length = 8 * ms.length := by rw [table_in h1, sortL_len, toks_len]
      have hTs := List.pairwise_iff_getElem.1 (sorted_pos (table_sorted ms))
      have hat := fun i hi he hall => owner_getD h1 (p := p) (i := i) hi he hall
      have hlm : IntKind.i64.wrap (8 * ((ms.map intE).length : Int)) = ((8 * ms.length : Nat) : Int) := by
        rw [List.length_map, wrap_i64 (by omega) (by omega)]
        omega
      generalize ownerR ms p = o at e9 hat
      generalize tableR ms = T at e16 hin hTl hTs hat
      repeat' ((conv => whnf); first | refine And.intro (fun h => h) ?_ | refine dcond_t (by assumption) ?_ | refine dcond_f (by assumption) ?_ | (refine dcond_intro ?_ ?_ <;> intro h) | exact .refl | refine And.intro (by kernel_rfl) ?_ | refine And.intro ⟨fun h => h, fun h => h⟩ ?_ | refine And.intro hne ?_ | refine ⟨w % ms.length, _, And.intro ⟨hix, hgx⟩ ?_⟩ | refine .inl ⟨_, _, DleAll_refl _, e15, ?_⟩ | refine ⟨_, _, DleAll_refl _, fun _ => e15, ?_⟩ | refine ⟨_, _, DleAll_refl _, e15, ?_⟩ | refine .inl ⟨_, _, DleAll_refl _, e16, ?_⟩ | refine ⟨_, _, DleAll_refl _, fun _ => e16, ?_⟩ | refine ⟨_, _, DleAll_refl _, e16, ?_⟩ | (refine And.intro ?_ ?_; focus (simp; done)) | fail)
      all_goals (conv => whnf)
      · exfalso
        rw [hlm, List.length_map, hTl] at h
        simp at h
      clear h
      refine ⟨Nat, fun i => ⟨[(0, .lst 1 (ms.map intE) false), (13, u64 p), (14, .lst 3 (T.map tokE) false), (15, i64 i)], []⟩, fun i => i ≤ T.length ∧ ∀ j (hj : j < T.length), j < i → T[j].pos ≠ p, fun i => T.length - i, [], ⟨0, ⟨Nat.zero_le _, by omega⟩, ?_⟩, ?_⟩
      · exact ⟨by repeat' ((conv => whnf); first | exact trivial | refine And.intro (by (conv => arg 1; whnf); first | (with_reducible exact .refl) | exact dle_int (wrap_succ (by omega)) | exact .refl) ?_), by repeat' ((conv => whnf); first | exact trivial | refine And.intro ?_ ?_ | exact .refl), rfl⟩
      · intro i ⟨hi, hall⟩
        repeat' ((conv => whnf); first | refine And.intro (fun h => h) ?_ | refine dcond_t (by assumption) ?_ | refine dcond_f (by assumption) ?_ | (refine dcond_intro ?_ ?_ <;> intro h) | exact .refl | refine And.intro (by kernel_rfl) ?_ | refine And.intro ⟨fun h => h, fun h => h⟩ ?_ | (refine And.intro ?_ ?_; focus (simp; done)) | fail)
        · have hlt : i < T.length := by simpa using h
          clear h
          have hp : decide ((i : Int) > 0) = true → (IntKind.i64.wrap ((i : Int) - 1)) = ((i - 1 : Nat) : Int) ∧ (T.map tokE)[i - 1]? = some (tokE (T.getD (i - 1) tok0)) := by
            intro h0
            have h0 := of_decide_eq_true h0
            refine ⟨by rw [wrap_i64 (by omega) (by omega)]; omega, ?_⟩
            have : i - 1 < T.length := by omega
            simp [this]
          have hle : (decide ((0 : Int) < (i : Int)) && decide (T[i].pos < (T.getD (i - 1) tok0).pos)) = false := by
            cases i with
            | zero => rfl
            | succ k =>
              have h2 := hTs k (k + 1) (by omega) hlt (by omega)
              simp only [Nat.add_sub_cancel, List.getD_eq_getElem?_getD, List.getElem?_eq_getElem (show k < T.length by omega), Option.getD_some]
              rw [decide_eq_false (show ¬ T[k + 1].pos < T[k].pos by omega), Bool.and_false]
          repeat' ((conv => whnf); first | refine And.intro (fun h => h) ?_ | refine dcond_t (by assumption) ?_ | refine dcond_f (by assumption) ?_ | (refine dcond_intro ?_ ?_ <;> intro h) | exact .refl | refine And.intro (by kernel_rfl) ?_ | refine And.intro ⟨fun h => h, fun h => h⟩ ?_ | refine ⟨i, tokE (T[i]'hlt), And.intro ⟨⟨fun h => h, fun h => h⟩, fun hg => ⟨rfl, get_map hlt⟩⟩ ?_⟩ | refine ⟨i - 1, tokE (T.getD (i - 1) tok0), And.intro ⟨⟨fun h => h, fun h => h⟩, fun hg => hp hg⟩ ?_⟩ | refine ⟨_, _, And.intro ⟨rfl, get_map hlt⟩ ?_⟩ | refine .inl ⟨_, _, DleAll_refl _, e9, ?_⟩ | refine ⟨_, _, DleAll_refl _, fun _ => e9, ?_⟩ | refine ⟨_, _, DleAll_refl _, e9, ?_⟩ | (refine And.intro ?_ ?_; focus (simp; done)) | fail)
          all_goals (conv => whnf)
          · have he := of_decide_eq_true h
            rw [hat i hlt he hall]
            refine dle_bool ?_
            simp
          · refine ⟨i + 1, ⟨hlt, fun j hj hji => ?_⟩, by simp only []; omega, ?_⟩
            · rcases Nat.lt_succ_iff_lt_or_eq.1 hji with hji | rfl
              · exact hall j hj hji
              · exact of_decide_eq_false h
            · exact ⟨by repeat' ((conv => whnf); first | exact trivial | refine And.intro (by (conv => arg 1; whnf); first | (with_reducible exact .refl) | exact dle_int (wrap_succ (by omega)) | exact .refl) ?_), by repeat' ((conv => whnf); first | exact trivial | refine And.intro ?_ ?_ | exact .refl), rfl⟩
        · exfalso
          have hge : ¬ i < T.length := by simpa using h
          obtain ⟨j, hj, he⟩ := List.getElem_of_mem hin
          exact hall j hj (by omega) (by rw [he])
theorem law3 (dvs : List DV) (h : DatAll tt 4 [22, 23, 24] dvs) : Ret Try.prog 3 dvs (.v (.bool true)) := by
  obtain ⟨a, _, rfl, ha, b, _, rfl, ⟨i, rfl, hi⟩, c, _, rfl, ⟨k, rfl, _⟩, rfl⟩ := h
  obtain ⟨a, rfl, hal⟩ := dat_ints (n := 2) ha
  have hb := bounds_u16 (by exact hi)
  exact r3 a hal i (by omega) (by omega) k
theorem law4 (dvs : List DV) (h : DatAll tt 4 [22, 5, 24] dvs) : Ret Try.prog 4 dvs (.v (.bool true)) := by
  obtain ⟨a, _, rfl, ha, b, _, rfl, ⟨i, rfl, hi⟩, c, _, rfl, ⟨k, rfl, _⟩, rfl⟩ := h
  obtain ⟨a, rfl, hal⟩ := dat_ints (n := 2) ha
  have hb := bounds_u8 (by exact hi)
  obtain ⟨i, rfl⟩ := Int.eq_ofNat_of_zero_le (a := i) (by omega)
  exact r4 a hal i (by omega) k
theorem law5 (dvs : List DV) (h : DatAll tt 4 [22, 24, 5, 5] dvs) : Ret Try.prog 5 dvs (.v (.bool true)) := by
  obtain ⟨a, _, rfl, ha, c, _, rfl, ⟨k, rfl, _⟩, b, _, rfl, ⟨i, rfl, hi⟩, d, _, rfl, ⟨j, rfl, hj⟩, rfl⟩ := h
  obtain ⟨a, rfl, hal⟩ := dat_ints (n := 2) ha
  have hb := bounds_u8 (by exact hi)
  have hd := bounds_u8 (by exact hj)
  obtain ⟨i, rfl⟩ := Int.eq_ofNat_of_zero_le (a := i) (by omega)
  obtain ⟨j, rfl⟩ := Int.eq_ofNat_of_zero_le (a := j) (by omega)
  exact r5 a hal k i (by omega) j (by omega)
end Go.Proofs.Ytejmeihfdddnmaa
