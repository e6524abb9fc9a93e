/- The laws of this seat, part OwA: contracts of the functions, plain laws. No conditions. -/
import Derived.Test.YthdpjinchanceaaRows
import Derived.Test.YthdpjinchanceaaLfD
import Derived.Shelf.SlLaysF0
import Derived.Test.YthdpjinchanceaaProg
set_option linter.unusedSimpArgs false
set_option linter.unusedVariables false
set_option maxRecDepth 100000
namespace Go.Proofs.Ythdpjinchanceaa
open Go.Lift
def tt : TT := [(2, ⟨1, 8, false, [.v (.int .i64 0)], .int .i64⟩),
  (3, ⟨1, 8, false, [.v (.int .i64 0)], .int .i64⟩),
  (4, ⟨1, 1, false, [.v (.bool false)], .bool⟩),
  (5, ⟨1, 1, false, [.v (.int .u8 0)], .int .u8⟩),
  (9, ⟨1, 16, false, [.v (.string ⟨#[]⟩)], .str⟩),
  (21, ⟨1, 4, false, [.v (.int .i32 0)], .int .i32⟩),
  (22, ⟨1, 24, false, [.nl], .slc 36⟩),
  (23, ⟨1, 24, false, [.nl], .slc 3⟩),
  (24, ⟨2, 32, true, [.v (.int .i64 0), .nl], .st [(3, 0), (23, 1)]⟩),
  (25, ⟨2, 32, true, [.v (.int .i64 0), .nl], .st [(3, 0), (23, 1)]⟩),
  (26, ⟨2, 32, true, [.v (.string ⟨#[]⟩), .v (.string ⟨#[]⟩)], .st [(9, 0), (9, 1)]⟩),
  (27, ⟨2, 32, true, [.v (.string ⟨#[]⟩), .v (.string ⟨#[]⟩)], .st [(9, 0), (9, 1)]⟩),
  (28, ⟨5, 56, true, [.v (.int .i64 0), .v (.string ⟨#[]⟩), .v (.string ⟨#[]⟩), .v (.int .i64 0), .v (.int .i64 0)], .st [(3, 0), (27, 1), (3, 3), (3, 4)]⟩),
  (29, ⟨5, 56, true, [.v (.int .i64 0), .v (.string ⟨#[]⟩), .v (.string ⟨#[]⟩), .v (.int .i64 0), .v (.int .i64 0)], .st [(3, 0), (27, 1), (3, 3), (3, 4)]⟩),
  (32, ⟨1, 8, false, [.v (.int .i64 0)], .int .i64⟩),
  (35, ⟨5, 56, true, [.v (.string ⟨#[]⟩), .v (.string ⟨#[]⟩), .v (.int .i64 0), .v (.int .i64 0), .v (.int .i64 0)], .st [(27, 0), (3, 2), (3, 3), (3, 4)]⟩),
  (36, ⟨5, 56, true, [.v (.string ⟨#[]⟩), .v (.string ⟨#[]⟩), .v (.int .i64 0), .v (.int .i64 0), .v (.int .i64 0)], .st [(27, 0), (3, 2), (3, 3), (3, 4)]⟩),
  (40, ⟨1, 24, false, [.nl], .slc 48⟩),
  (42, ⟨64, 512, true, (List.replicate 64 (.v (.int .i64 0))), .arr 64 3⟩),
  (43, ⟨64, 512, true, (List.replicate 64 (.v (.int .i64 0))), .arr 64 3⟩),
  (44, ⟨256, 2048, true, [.v (.int .i64 0), .v (.int .i64 0), .v (.int .i64 0), .v (.int .i64 0), .v (.int .i64 0), .v (.int .i64 0), .v (.int .i64 0), .v (.int .i64 0), .v (.int .i64 0), .v (.int .i64 0), .v (.int .i64 0), .v (.int .i64 0), .v (.int .i64 0), .v (.int .i64 0), .v (.int .i64 0), .v (.int .i64 0), .v (.int .i64 0), .v (.int .i64 0), .v (.int .i64 0), .v (.int .i64 0), .v (.int .i64 0), .v (.int .i64 0), .v (.int .i64 0), .v (.int .i64 0), .v (.int .i64 0), .v (.int .i64 0), .v (.int .i64 0), .v (.int .i64 0), .v (.int .i64 0), .v (.int .i64 0), .v (.int .i64 0), .v (.int .i64 0), .v (.int .i64 0), .v (.int .i64 0), .v (.int .i64 0), .v (.int .i64 0), .v (.int .i64 0), .v (.int .i64 0), .v (.int .i64 0), .v (.int .i64 0), .v (.int .i64 0), .v (.int .i64 0), .v (.int .i64 0), .v (.int .i64 0), .v (.int .i64 0), .v (.int .i64 0), .v (.int .i64 0), .v (.int .i64 0), .v (.int .i64 0), .v (.int .i64 0), .v (.int .i64 0), .v (.int .i64 0), .v (.int .i64 0), .v (.int .i64 0), .v (.int .i64 0), .v (.int .i64 0), .v (.int .i64 0), .v (.int .i64 0), .v (.int .i64 0), .v (.int .i64 0), .v (.int .i64 0), .v (.int .i64 0), .v (.int .i64 0), .v (.int .i64 0), .v (.int .i64 0), .v (.int .i64 0), .v (.int .i64 0), .v (.int .i64 0), .v (.int .i64 0), .v (.int .i64 0), .v (.int .i64 0), .v (.int .i64 0), .v (.int .i64 0), .v (.int .i64 0), .v (.int .i64 0), .v (.int .i64 0), .v (.int .i64 0), .v (.int .i64 0), .v (.int .i64 0), .v (.int .i64 0), .v (.int .i64 0), .v (.int .i64 0), .v (.int .i64 0), .v (.int .i64 0), .v (.int .i64 0), .v (.int .i64 0), .v (.int .i64 0), .v (.int .i64 0), .v (.int .i64 0), .v (.int .i64 0), .v (.int .i64 0), .v (.int .i64 0), .v (.int .i64 0), .v (.int .i64 0), .v (.int .i64 0), .v (.int .i64 0), .v (.int .i64 0), .v (.int .i64 0), .v (.int .i64 0), .v (.int .i64 0), .v (.int .i64 0), .v (.int .i64 0), .v (.int .i64 0), .v (.int .i64 0), .v (.int .i64 0), .v (.int .i64 0), .v (.int .i64 0), .v (.int .i64 0), .v (.int .i64 0), .v (.int .i64 0), .v (.int .i64 0), .v (.int .i64 0), .v (.int .i64 0), .v (.int .i64 0), .v (.int .i64 0), .v (.int .i64 0), .v (.int .i64 0), .v (.int .i64 0), .v (.int .i64 0), .v (.int .i64 0), .v (.int .i64 0), .v (.int .i64 0), .v (.int .i64 0), .v (.int .i64 0), .v (.int .i64 0), .v (.int .i64 0), .v (.int .i64 0), .v (.int .i64 0), .v (.int .i64 0), .v (.int .i64 0), .v (.int .i64 0), .v (.int .i64 0), .v (.int .i64 0), .v (.int .i64 0), .v (.int .i64 0), .v (.int .i64 0), .v (.int .i64 0), .v (.int .i64 0), .v (.int .i64 0), .v (.int .i64 0), .v (.int .i64 0), .v (.int .i64 0), .v (.int .i64 0), .v (.int .i64 0), .v (.int .i64 0), .v (.int .i64 0), .v (.int .i64 0), .v (.int .i64 0), .v (.int .i64 0), .v (.int .i64 0), .v (.int .i64 0), .v (.int .i64 0), .v (.int .i64 0), .v (.int .i64 0), .v (.int .i64 0), .v (.int .i64 0), .v (.int .i64 0), .v (.int .i64 0), .v (.int .i64 0), .v (.int .i64 0), .v (.int .i64 0), .v (.int .i64 0), .v (.int .i64 0), .v (.int .i64 0), .v (.int .i64 0), .v (.int .i64 0), .v (.int .i64 0), .v (.int .i64 0), .v (.int .i64 0), .v (.int .i64 0), .v (.int .i64 0), .v (.int .i64 0), .v (.int .i64 0), .v (.int .i64 0), .v (.int .i64 0), .v (.int .i64 0), .v (.int .i64 0), .v (.int .i64 0), .v (.int .i64 0), .v (.int .i64 0), .v (.int .i64 0), .v (.int .i64 0), .v (.int .i64 0), .v (.int .i64 0), .v (.int .i64 0), .v (.int .i64 0), .v (.int .i64 0), .v (.int .i64 0), .v (.int .i64 0), .v (.int .i64 0), .v (.int .i64 0), .v (.int .i64 0), .v (.int .i64 0), .v (.int .i64 0), .v (.int .i64 0), .v (.int .i64 0), .v (.int .i64 0), .v (.int .i64 0), .v (.int .i64 0), .v (.int .i64 0), .v (.int .i64 0), .v (.int .i64 0), .v (.int .i64 0), .v (.int .i64 0), .v (.int .i64 0), .v (.int .i64 0), .v (.int .i64 0), .v (.int .i64 0), .v (.int .i64 0), .v (.int .i64 0), .v (.int .i64 0), .v (.int .i64 0), .v (.int .i64 0), .v (.int .i64 0), .v (.int .i64 0), .v (.int .i64 0), .v (.int .i64 0), .v (.int .i64 0), .v (.int .i64 0), .v (.int .i64 0), .v (.int .i64 0), .v (.int .i64 0), .v (.int .i64 0), .v (.int .i64 0), .v (.int .i64 0), .v (.int .i64 0), .v (.int .i64 0), .v (.int .i64 0), .v (.int .i64 0), .v (.int .i64 0), .v (.int .i64 0), .v (.int .i64 0), .v (.int .i64 0), .v (.int .i64 0), .v (.int .i64 0), .v (.int .i64 0), .v (.int .i64 0), .v (.int .i64 0), .v (.int .i64 0), .v (.int .i64 0), .v (.int .i64 0), .v (.int .i64 0), .v (.int .i64 0), .v (.int .i64 0), .v (.int .i64 0), .v (.int .i64 0), .v (.int .i64 0), .v (.int .i64 0), .v (.int .i64 0), .v (.int .i64 0), .v (.int .i64 0), .v (.int .i64 0), .v (.int .i64 0), .v (.int .i64 0), .v (.int .i64 0), .v (.int .i64 0)], .arr 4 43⟩),
  (45, ⟨4, 32, true, [.v (.int .i64 0), .v (.int .i64 0), .v (.int .i64 0), .v (.int .i64 0)], .arr 4 3⟩),
  (47, ⟨4, 4, true, [.v (.int .u8 0), .v (.int .u8 0), .v (.int .u8 0), .v (.int .u8 0)], .st [(5, 0), (5, 1), (5, 2), (5, 3)]⟩),
  (48, ⟨4, 4, true, [.v (.int .u8 0), .v (.int .u8 0), .v (.int .u8 0), .v (.int .u8 0)], .st [(5, 0), (5, 1), (5, 2), (5, 3)]⟩),
  (63, ⟨1, 24, false, [.nl], .slc 5⟩),
  (71, ⟨1, 8, false, [.v (.int .u64 0)], .int .u64⟩),
  (73, ⟨1, 24, false, [.nl], .slc 76⟩),
  (75, ⟨3, 24, true, [.v (.int .u64 0), .v (.int .i64 0), .v (.int .i64 0)], .st [(71, 0), (3, 1), (3, 2)]⟩),
  (76, ⟨3, 24, true, [.v (.int .u64 0), .v (.int .i64 0), .v (.int .i64 0)], .st [(71, 0), (3, 1), (3, 2)]⟩),
  (90, ⟨1, 8, false, [.v (.int .u64 0)], .int .u64⟩),
  (92, ⟨3, 24, true, [.v (.int .u64 0), .v (.int .u64 0), .v (.int .u64 0)], .arr 3 90⟩),
  (94, ⟨2, 16, true, [.v (.int .u64 0), .v (.int .u64 0)], .arr 2 71⟩),
  (98, ⟨1, 8, false, [.v (.int .i64 0)], .int .i64⟩),
  (106, ⟨1, 4, false, [.v (.int .u32 0)], .int .u32⟩),
  (108, ⟨1, 8, false, [.v (.int .u64 0)], .int .u64⟩)]
theorem hm : Try.prog.follows .mixedOrders = true := by kernel_rfl
theorem hT : tabOk Try.prog tt = true := by kernel_rfl
def i64 (n : Int) : DV := .v (.int .i64 n)
def intE (n : Int) : List DV := [.v (.int .i64 n)]
def byteI (n : Nat) : List DV := [.v (.int .u8 n)]
theorem fitsI {n : Nat} (h : n ≤ 2000000) : fitsIn tt 3 n := by
  have e : (tinfo tt 3).bytes = 8 := by kernel_rfl
  refine ⟨?_, ?_⟩
  · rw [e]; omega
  · simp only [maxLen]; omega
theorem ole_row {e : TypeId} {sz : Nat} {es es' : List (List DV)} (h : es = es') : ole (.row e sz es) (.row e sz es') := by subst h; exact .refl
def okAt (l : List Int) (i : Nat) : Bool := !(decide (l.getD i 0 ≤ (0 :: l).getD i 0) || decide (1000 < l.getD i 0))
def idsB (l : List Int) (most : Int) : Bool := !(decide ((l.length : Int) < 1) || decide (most < (l.length : Int))) && allB (okAt l) l.length
theorem c_view_identifiers (l : List Int) (hl : l.length ≤ maxLen) (m : Int) : Ret Try.prog 49 [.lst 1 (l.map intE) false, .v (.int .i64 m)] (.v (.bool (idsB l m))) := by
  have hl' : l.length ≤ 9223372036854775807 := hl
  refine ret_of_body (fn := Try.f49) (c := Try.f49.body.getD .skip) hm hT (by kernel_rfl) Try.func49 (by kernel_rfl) (by kernel_rfl) (by kernel_rfl) (by kernel_rfl) ?_
  repeat' ((conv => whnf); first | refine And.intro (fun h => h) ?_ | refine dcond_t (by assumption) ?_ | refine dcond_f (by assumption) ?_ | (refine dcond_intro ?_ ?_ <;> intro h) | exact .refl | refine And.intro (by kernel_rfl) ?_ | refine And.intro ⟨fun h => h, fun h => h⟩ ?_ | refine Exists.intro false ?_ | (refine And.intro ?_ ?_; focus (simp; done)) | fail)
  · skip
    refine dle_bool ?_
    simp only [List.length_map] at h
    simp only [idsB, h]
    rfl
  · skip
    simp only [List.length_map] at h
    have h0 := h
    clear h
    conv => whnf
    refine ⟨Nat, fun i => ⟨[(5, i64 ((0 :: l).getD i 0)), (17, .lst 1 (l.map intE) false), (18, i64 (l.map intE).length), (19, i64 i)], []⟩, fun i => i ≤ l.length ∧ ∀ j, j < i → okAt l j = true, fun i => l.length - i, [], ⟨0, ⟨Nat.zero_le _, by omega⟩, ?_⟩, ?_⟩
    · exact ⟨by repeat' ((conv => whnf); first | exact trivial | refine And.intro (by (conv => arg 1; whnf); first | (with_reducible exact .refl) | exact dle_int (wrap_succ (by omega)) | exact .refl) ?_), by repeat' ((conv => whnf); first | exact trivial | refine And.intro ?_ ?_ | exact .refl), rfl⟩
    · intro i ⟨hi, hall⟩
      repeat' ((conv => whnf); first | refine And.intro (fun h => h) ?_ | refine dcond_t (by assumption) ?_ | refine dcond_f (by assumption) ?_ | (refine dcond_intro ?_ ?_ <;> intro h) | exact .refl | refine And.intro (by kernel_rfl) ?_ | refine And.intro ⟨fun h => h, fun h => h⟩ ?_ | refine Exists.intro false ?_ | (refine And.intro ?_ ?_; focus (simp; done)) | fail)
      · have h1 := h
        have hlt : i < l.length := by simpa using h1
        have hg : l.getD i 0 = l[i] := by simp [hlt]
        repeat' ((conv => whnf); first | refine And.intro (fun h => h) ?_ | refine dcond_t (by assumption) ?_ | refine dcond_f (by assumption) ?_ | (refine dcond_intro ?_ ?_ <;> intro h) | exact .refl | refine And.intro (by kernel_rfl) ?_ | refine And.intro ⟨fun h => h, fun h => h⟩ ?_ | refine ⟨_, _, And.intro ⟨rfl, get_map hlt⟩ ?_⟩ | refine Exists.intro false ?_ | (refine And.intro ?_ ?_; focus (simp; done)) | fail)
        · have h2 := h
          refine dle_bool ?_
          have : okAt l i = false := by simp only [okAt, hg, h2]; rfl
          rw [idsB, allB_false hlt this, Bool.and_false]
        · have h2 := h
          conv => whnf
          refine ⟨i + 1, ⟨hlt, fun j hj => ?_⟩, by simp only []; omega, ?_⟩
          · rcases Nat.lt_succ_iff_lt_or_eq.1 hj with hj | rfl
            · exact hall j hj
            · simp only [okAt, hg, h2]; rfl
          · refine ⟨⟨?_, .refl, .refl, dle_int (wrap_succ (by omega)), trivial⟩, trivial, rfl⟩
            refine dle_int ?_
            simp [hlt]
      · have h1 := h
        have hge : ¬ i < l.length := by simpa using h1
        conv => whnf
        refine dle_bool ?_
        rw [idsB, h0, allB_true.2 (fun j hj => hall j (by omega))]
        rfl
def sameI (a b : List Int) : Bool := decide ((a.length : Int) = (b.length : Int)) && allB (fun i => decide (a.getD i 0 = b.getD i 0)) a.length
structure View where
  num : Int
  mem : List Int
def viewE (v : View) : List DV := [.v (.int .i64 v.num), .lst 1 (v.mem.map intE) false]
def placeB (l : List Int) (x : Int) : Int := findB (fun i => decide (l[i]? = some x)) l.length
theorem c_view_Place (l : List Int) (hl : l.length ≤ maxLen) (x : Int) : Ret Try.prog 42 [.lst 1 (l.map intE) false, .v (.int .i64 x)] (.v (.int .i64 (placeB l x))) := by
  have hl' : l.length ≤ 9223372036854775807 := hl
  refine ret_of_body (fn := Try.f42) (c := Try.f42.body.getD .skip) hm hT (by kernel_rfl) Try.func42 (by kernel_rfl) (by kernel_rfl) (by kernel_rfl) (by kernel_rfl) ?_
  repeat' ((conv => whnf); first | refine And.intro (fun h => h) ?_ | refine dcond_t (by assumption) ?_ | refine dcond_f (by assumption) ?_ | (refine dcond_intro ?_ ?_ <;> intro h) | exact .refl | refine And.intro (by kernel_rfl) ?_ | refine And.intro ⟨fun h => h, fun h => h⟩ ?_ | refine Exists.intro false ?_ | (refine And.intro ?_ ?_; focus (simp; done)) | fail)
  refine ⟨Nat, fun i => ⟨[(1, .v (.int .i64 x)), (7, .lst 1 (l.map intE) false), (8, i64 (l.map intE).length), (9, i64 i)], []⟩, fun i => i ≤ l.length ∧ ∀ j, j < i → decide (l[j]? = some x) = false, fun i => l.length - i, [], ⟨0, ⟨Nat.zero_le _, by omega⟩, ?_⟩, ?_⟩
  · exact ⟨by repeat' ((conv => whnf); first | exact trivial | refine And.intro (by (conv => arg 1; whnf); first | (with_reducible exact .refl) | exact dle_int (wrap_succ (by omega)) | exact .refl) ?_), by repeat' ((conv => whnf); first | exact trivial | refine And.intro ?_ ?_ | exact .refl), rfl⟩
  · intro i ⟨hi, hall⟩
    repeat' ((conv => whnf); first | refine And.intro (fun h => h) ?_ | refine dcond_t (by assumption) ?_ | refine dcond_f (by assumption) ?_ | (refine dcond_intro ?_ ?_ <;> intro h) | exact .refl | refine And.intro (by kernel_rfl) ?_ | refine And.intro ⟨fun h => h, fun h => h⟩ ?_ | refine Exists.intro false ?_ | (refine And.intro ?_ ?_; focus (simp; done)) | fail)
    · have hlt : i < l.length := by simpa using h
      repeat' ((conv => whnf); first | refine And.intro (fun h => h) ?_ | refine dcond_t (by assumption) ?_ | refine dcond_f (by assumption) ?_ | (refine dcond_intro ?_ ?_ <;> intro h) | exact .refl | refine And.intro (by kernel_rfl) ?_ | refine And.intro ⟨fun h => h, fun h => h⟩ ?_ | refine ⟨_, _, And.intro ⟨rfl, get_map hlt⟩ ?_⟩ | refine Exists.intro false ?_ | (refine And.intro ?_ ?_; focus (simp; done)) | fail)
      · have h2 := h
        refine dle_int (findB_at hlt ?_ hall).symm
        simpa [hlt] using h2
      · have h2 := h
        conv => whnf
        refine ⟨i + 1, ⟨hlt, fun j hj => ?_⟩, by simp only []; omega, ?_⟩
        · rcases Nat.lt_succ_iff_lt_or_eq.1 hj with hj | rfl
          · exact hall j hj
          · simpa [hlt] using h2
        · exact ⟨by repeat' ((conv => whnf); first | exact trivial | refine And.intro (by (conv => arg 1; whnf); first | (with_reducible exact .refl) | exact dle_int (wrap_succ (by omega)) | exact .refl) ?_), by repeat' ((conv => whnf); first | exact trivial | refine And.intro ?_ ?_ | exact .refl), rfl⟩
    · have hge : ¬ i < l.length := by simpa using h
      conv => whnf
      refine dle_int (findB_none (fun j hj => hall j (by omega))).symm
def inB (l : List Int) (x : Int) : Bool := decide (0 ≤ placeB l x)
theorem c_view_Contains (l : List Int) (hl : l.length ≤ maxLen) (x : Int) : Ret Try.prog 30 [.lst 1 (l.map intE) false, .v (.int .i64 x)] (.v (.bool (inB l x))) := by
  refine ret_of_body (fn := Try.f30) (c := Try.f30.body.getD .skip) hm hT (by kernel_rfl) Try.func30 (by kernel_rfl) (by kernel_rfl) (by kernel_rfl) (by kernel_rfl) ?_
  repeat' ((conv => whnf); first | refine And.intro (fun h => h) ?_ | refine dcond_t (by assumption) ?_ | refine dcond_f (by assumption) ?_ | (refine dcond_intro ?_ ?_ <;> intro h) | exact .refl | refine And.intro (by kernel_rfl) ?_ | refine And.intro ⟨fun h => h, fun h => h⟩ ?_ | refine .inl ⟨_, _, DleAll_refl _, c_view_Place _ hl _, ?_⟩ | refine ⟨_, _, DleAll_refl _, fun _ => c_view_Place _ hl _, ?_⟩ | refine ⟨_, _, DleAll_refl _, c_view_Place _ hl _, ?_⟩ | refine Exists.intro false ?_ | (refine And.intro ?_ ?_; focus (simp; done)) | fail)
theorem c_view_ValidMembers (l : List Int) (hl : l.length ≤ maxLen) : Ret Try.prog 40 [.lst 1 (l.map intE) false] (.v (.bool (idsB l 16))) := by
  refine ret_of_body (fn := Try.f40) (c := Try.f40.body.getD .skip) hm hT (by kernel_rfl) Try.func40 (by kernel_rfl) (by kernel_rfl) (by kernel_rfl) (by kernel_rfl) ?_
  repeat' ((conv => whnf); first | refine And.intro (fun h => h) ?_ | refine dcond_t (by assumption) ?_ | refine dcond_f (by assumption) ?_ | (refine dcond_intro ?_ ?_ <;> intro h) | exact .refl | refine And.intro (by kernel_rfl) ?_ | refine And.intro ⟨fun h => h, fun h => h⟩ ?_ | refine .inl ⟨_, _, DleAll_refl _, c_view_identifiers _ hl _, ?_⟩ | refine ⟨_, _, DleAll_refl _, fun _ => c_view_identifiers _ hl _, ?_⟩ | refine ⟨_, _, DleAll_refl _, c_view_identifiers _ hl _, ?_⟩ | refine Exists.intro false ?_ | (refine And.intro ?_ ?_; focus (simp; done)) | fail)
def viewB (v : View) : Bool := (decide (0 ≤ v.num) && decide (v.num ≤ 1099511627776)) && idsB v.mem 16
theorem c_view_Valid (v : View) (hl : v.mem.length ≤ maxLen) : Ret Try.prog 23 [.agg (viewE v)] (.v (.bool (viewB v))) := by
  refine ret_of_body (fn := Try.f23) (c := Try.f23.body.getD .skip) hm hT (by kernel_rfl) Try.func23 (by kernel_rfl) (by kernel_rfl) (by kernel_rfl) (by kernel_rfl) ?_
  repeat' ((conv => whnf); first | refine And.intro (fun h => h) ?_ | refine dcond_t (by assumption) ?_ | refine dcond_f (by assumption) ?_ | (refine dcond_intro ?_ ?_ <;> intro h) | exact .refl | refine And.intro (by kernel_rfl) ?_ | refine And.intro ⟨fun h => h, fun h => h⟩ ?_ | refine .inl ⟨_, _, DleAll_refl _, c_view_ValidMembers _ hl, ?_⟩ | refine ⟨_, _, DleAll_refl _, fun _ => c_view_ValidMembers _ hl, ?_⟩ | refine ⟨_, _, DleAll_refl _, c_view_ValidMembers _ hl, ?_⟩ | refine Exists.intro false ?_ | (refine And.intro ?_ ?_; focus (simp; done)) | fail)
def splitR (v : View) (cut l other : List Int) : List Int × List Int :=
  bif !viewB v || !idsB cut 32 then ([], []) else (l.filter (inB other), l.filter (fun x => !inB other x))
def partA (other l : List Int) (i : Nat) : List (List DV) := ((l.take i).filter (inB other)).map intE
def partB (other l : List Int) (i : Nat) : List (List DV) := ((l.take i).filter (fun x => !inB other x)).map intE
theorem partA_len (other l : List Int) (i : Nat) : (partA other l i).length ≤ i := by
  simp only [partA, List.length_map]
  exact Nat.le_trans (List.length_filter_le _ _) (by simp; omega)
theorem partB_len (other l : List Int) (i : Nat) : (partB other l i).length ≤ i := by
  simp only [partB, List.length_map]
  exact Nat.le_trans (List.length_filter_le _ _) (by simp; omega)
theorem part_in {other l : List Int} {i : Nat} (hlt : i < l.length) (h : inB other (l[i]'hlt) = true) : partA other l i ++ [intE (l[i]'hlt)] = partA other l (i + 1) ∧ partB other l i = partB other l (i + 1) := by
  simp only [partA, partB, List.take_succ_eq_append_getElem hlt, List.filter_append]
  simp [h]
theorem part_out {other l : List Int} {i : Nat} (hlt : i < l.length) (h : inB other (l[i]'hlt) = false) : partA other l i = partA other l (i + 1) ∧ partB other l i ++ [intE (l[i]'hlt)] = partB other l (i + 1) := by
  simp only [partA, partB, List.take_succ_eq_append_getElem hlt, List.filter_append]
  simp [h]
def mergeL : List Int → List Int → List Int
  | a, [] => a
  | a, x :: b => a.takeWhile (fun y => !decide (x < y)) ++ x :: mergeL (a.dropWhile (fun y => !decide (x < y))) b
theorem merge_gt {y x : Int} {a b : List Int} (h : x < y) : mergeL (y :: a) (x :: b) = x :: mergeL (y :: a) b := by simp [mergeL, h]
theorem merge_le {y x : Int} {a b : List Int} (h : ¬ x < y) : mergeL (y :: a) (x :: b) = y :: mergeL a (x :: b) := by simp [mergeL, h]
theorem merge_nil {x : Int} {b : List Int} : mergeL [] (x :: b) = x :: mergeL [] b := by simp [mergeL]
theorem split_len (v : View) (cut l o : List Int) : (splitR v cut l o).2.length ≤ l.length := by
  unfold splitR
  cases (!viewB v || !idsB cut 32)
  · exact List.length_filter_le _ _
  · simp
def stayL (v : View) (cut : List Int) : List Int := (splitR v cut v.mem cut).2
def comeL (v : View) (cut : List Int) : List Int := (splitR v cut cut v.mem).2
def nextR (v : View) (cut : List Int) : View × Int :=
  bif !viewB v || !idsB cut 32 then (⟨0, []⟩, 1)
  else bif decide (2 * ((stayL v cut).length : Int) ≤ (v.mem.length : Int)) then (⟨0, []⟩, 9)
  else bif decide (v.num = 1099511627776) || decide (16 < ((stayL v cut).length : Int) + ((comeL v cut).length : Int)) then (⟨0, []⟩, 5)
  else (⟨IntKind.i64.wrap (v.num + 1), mergeL (stayL v cut) (comeL v cut)⟩, 0)
/-! reference 3, first part: identifiers, lists, views (expects: intE, i64, idsB, sameI, viewE, viewB, placeB, inB) -/
theorem c_ref3_IsID (n : Int) : Ret Try.prog 41 [.v (.int .i64 n)] (.v (.bool (decide (1 ≤ n) && decide (n ≤ 1000)))) := by
  refine ret_of_body (fn := Try.f41) (c := Try.f41.body.getD .skip) hm hT (by kernel_rfl) Try.func41 (by kernel_rfl) (by kernel_rfl) (by kernel_rfl) (by kernel_rfl) ?_
  repeat' ((conv => whnf); first | refine And.intro (fun h => h) ?_ | refine dcond_t (by assumption) ?_ | refine dcond_f (by assumption) ?_ | (refine dcond_intro ?_ ?_ <;> intro h) | exact .refl | refine And.intro (by kernel_rfl) ?_ | refine And.intro ⟨fun h => h, fun h => h⟩ ?_ | refine Exists.intro false ?_ | (refine And.intro ?_ ?_; focus (simp; done)) | fail)
def riseAt (l : List Int) (i : Nat) : Bool := !(!(decide (1 ≤ l.getD i 0) && decide (l.getD i 0 ≤ 1000)) || (decide (0 < (i : Int)) && decide (l.getD i 0 ≤ l.getD (i - 1) 0)))
def riseB (l : List Int) : Bool := allB (riseAt l) l.length
theorem c_ref3_Rising (l : List Int) (hl : l.length ≤ maxLen) : Ret Try.prog 29 [.lst 1 (l.map intE) false] (.v (.bool (riseB l))) := by
  have hl' : l.length ≤ 9223372036854775807 := hl
  refine ret_of_body (fn := Try.f29) (c := Try.f29.body.getD .skip) hm hT (by kernel_rfl) Try.func29 (by kernel_rfl) (by kernel_rfl) (by kernel_rfl) (by kernel_rfl) ?_
  repeat' ((conv => whnf); first | refine And.intro (fun h => h) ?_ | refine dcond_t (by assumption) ?_ | refine dcond_f (by assumption) ?_ | (refine dcond_intro ?_ ?_ <;> intro h) | exact .refl | refine And.intro (by kernel_rfl) ?_ | refine And.intro ⟨fun h => h, fun h => h⟩ ?_ | refine Exists.intro false ?_ | (refine And.intro ?_ ?_; focus (simp; done)) | fail)
  refine ⟨Nat, fun i => ⟨[(0, .lst 1 (l.map intE) false), (3, i64 i)], []⟩, fun i => i ≤ l.length ∧ ∀ j, j < i → riseAt l j = true, fun i => l.length - i, [], ⟨0, ⟨Nat.zero_le _, by omega⟩, ?_⟩, ?_⟩
  · exact ⟨by repeat' ((conv => whnf); first | exact trivial | refine And.intro (by (conv => arg 1; whnf); first | (with_reducible exact .refl) | exact dle_int (wrap_succ (by omega)) | exact .refl) ?_), by repeat' ((conv => whnf); first | exact trivial | refine And.intro ?_ ?_ | exact .refl), rfl⟩
  · intro i ⟨hi, hall⟩
    repeat' ((conv => whnf); first | refine And.intro (fun h => h) ?_ | refine dcond_t (by assumption) ?_ | refine dcond_f (by assumption) ?_ | (refine dcond_intro ?_ ?_ <;> intro h) | exact .refl | refine And.intro (by kernel_rfl) ?_ | refine And.intro ⟨fun h => h, fun h => h⟩ ?_ | refine Exists.intro false ?_ | (refine And.intro ?_ ?_; focus (simp; done)) | fail)
    · have hlt : i < l.length := by simpa using h
      clear h
      have hg : l.getD i 0 = l[i] := by simp [hlt]
      repeat' ((conv => whnf); first | refine And.intro (fun h => h) ?_ | refine dcond_t (by assumption) ?_ | refine dcond_f (by assumption) ?_ | (refine dcond_intro ?_ ?_ <;> intro h) | exact .refl | refine And.intro (by kernel_rfl) ?_ | refine And.intro ⟨fun h => h, fun h => h⟩ ?_ | refine ⟨_, _, And.intro ⟨rfl, get_map hlt⟩ ?_⟩ | refine .inl ⟨_, _, DleAll_refl _, c_ref3_IsID _, ?_⟩ | refine ⟨_, _, DleAll_refl _, fun _ => c_ref3_IsID _, ?_⟩ | refine ⟨_, _, DleAll_refl _, c_ref3_IsID _, ?_⟩ | refine ⟨i, intE (l[i]'hlt), And.intro ⟨⟨fun h => h, fun h => h⟩, fun hg => ⟨rfl, get_map hlt⟩⟩ ?_⟩ | refine Exists.intro false ?_ | (refine And.intro ?_ ?_; focus (simp; done)) | fail)
      have hp : ∀ (hg : (!(decide (1 ≤ l[i]) && decide (l[i] ≤ 1000))) = false ∧ 0 < i), (IntKind.i64.wrap ((i : Int) - 1)) = ((i - 1 : Nat) : Int) ∧ (l.map intE)[i - 1]? = some (intE (l.getD (i - 1) 0)) := by
        rintro ⟨_, h0⟩
        refine ⟨by rw [wrap_i64 (by omega) (by omega)]; omega, ?_⟩
        have : i - 1 < l.length := by omega
        simp [this]
      refine ⟨i - 1, intE (l.getD (i - 1) 0), And.intro ⟨⟨fun h => h, fun h => h⟩, fun hg => hp ?_⟩ ?_⟩
      · simp only [Bool.and_eq_true, Bool.not_eq_true', decide_eq_true_eq] at hg
        refine ⟨?_, by omega⟩
        have := hg.1
        simpa using this
      repeat' ((conv => whnf); first | refine And.intro (fun h => h) ?_ | refine dcond_t (by assumption) ?_ | refine dcond_f (by assumption) ?_ | (refine dcond_intro ?_ ?_ <;> intro h) | exact .refl | refine And.intro (by kernel_rfl) ?_ | refine And.intro ⟨fun h => h, fun h => h⟩ ?_ | refine Exists.intro false ?_ | (refine And.intro ?_ ?_; focus (simp; done)) | fail)
      all_goals (conv => whnf)
      · refine dle_bool ?_
        have : riseAt l i = false := by simp only [riseAt, hg, h]; rfl
        rw [riseB, allB_false hlt this]
      · refine ⟨i + 1, ⟨hlt, fun j hj => ?_⟩, by simp only []; omega, ?_⟩
        · rcases Nat.lt_succ_iff_lt_or_eq.1 hj with hj | rfl
          · exact hall j hj
          · simp only [riseAt, hg, h]; rfl
        · exact ⟨by repeat' ((conv => whnf); first | exact trivial | refine And.intro (by (conv => arg 1; whnf); first | (with_reducible exact .refl) | exact dle_int (wrap_succ (by omega)) | exact .refl) ?_), by repeat' ((conv => whnf); first | exact trivial | refine And.intro ?_ ?_ | exact .refl), rfl⟩
    · have hge : ¬ i < l.length := by simpa using h
      conv => whnf
      refine dle_bool ?_
      rw [riseB, allB_true.2 (fun j hj => hall j (by omega))]
def cutRB (l : List Int) : Bool := (decide (1 ≤ (l.length : Int)) && decide ((l.length : Int) ≤ 32)) && riseB l
/-- the checks of lists: the two say the same -/
theorem rise_iff {l : List Int} : riseB l = true ↔ ∀ i, (h : i < l.length) → 1 ≤ l[i] ∧ l[i] ≤ 1000 ∧ (0 < i → l.getD (i - 1) 0 < l[i]) := by
  rw [riseB, allB_true]
  refine forall_congr' fun i => ?_
  constructor
  · intro h hi
    have h := h hi
    have hg : l.getD i 0 = l[i] := by simp [hi]
    simp only [riseAt, hg, Bool.not_eq_true', Bool.or_eq_false_iff, Bool.not_eq_false', Bool.and_eq_true, decide_eq_true_eq, Bool.and_eq_false_iff, decide_eq_false_iff_not] at h
    omega
  · intro h hi
    have h := h hi
    have hg : l.getD i 0 = l[i] := by simp [hi]
    simp only [riseAt, hg, Bool.not_eq_true', Bool.or_eq_false_iff, Bool.not_eq_false', Bool.and_eq_true, decide_eq_true_eq, Bool.and_eq_false_iff, decide_eq_false_iff_not]
    omega
theorem oks_iff {l : List Int} : allB (okAt l) l.length = true ↔ ∀ i, (h : i < l.length) → (0 :: l).getD i 0 < l[i] ∧ l[i] ≤ 1000 := by
  rw [allB_true]
  refine forall_congr' fun i => ?_
  constructor
  · intro h hi
    have h := h hi
    have hg : l.getD i 0 = l[i] := by simp [hi]
    simp only [okAt, hg, Bool.not_eq_true', Bool.or_eq_false_iff, decide_eq_false_iff_not] at h
    omega
  · intro h hi
    have h := h hi
    have hg : l.getD i 0 = l[i] := by simp [hi]
    simp only [okAt, hg, Bool.not_eq_true', Bool.or_eq_false_iff, decide_eq_false_iff_not]
    omega
theorem rise_oks (l : List Int) : riseB l = allB (okAt l) l.length := by
  rw [Bool.eq_iff_iff, rise_iff, oks_iff]
  constructor
  · intro h i hi
    have h1 := h i hi
    cases i with
    | zero => simp; omega
    | succ i => exact ⟨by simpa using h1.2.2 (by omega), h1.2.1⟩
  · intro h i
    induction i with
    | zero => intro hi; have h1 := h 0 hi; simp at h1; exact ⟨by omega, h1.2, fun h => by omega⟩
    | succ i ih =>
      intro hi
      have h1 := h (i + 1) hi
      have h2 := ih (by omega)
      have e : (0 :: l).getD (i + 1) 0 = l[i] := by simp [show i < l.length by omega]
      rw [e] at h1
      exact ⟨by omega, h1.2, fun _ => by simp [show i < l.length by omega]; omega⟩
theorem ids_eq (l : List Int) (m : Int) : idsB l m = ((decide (1 ≤ (l.length : Int)) && decide ((l.length : Int) ≤ m)) && riseB l) := by
  rw [idsB, rise_oks]
  congr 1
  rw [Bool.eq_iff_iff]
  simp only [Bool.not_eq_true', Bool.or_eq_false_iff, decide_eq_false_iff_not, Bool.and_eq_true, decide_eq_true_eq]
  omega
theorem cutRB_eq (l : List Int) : cutRB l = idsB l 32 := by rw [ids_eq, cutRB]
/-! reference 3, second part (expects: splitR, nextR, fitsI, ole_row and the first part) -/
theorem c_ref3_Place (l : List Int) (hl : l.length ≤ maxLen) (x : Int) : Ret Try.prog 34 [.lst 1 (l.map intE) false, .v (.int .i64 x)] (.v (.int .i64 (placeB l x))) := by
  have hl' : l.length ≤ 9223372036854775807 := hl
  refine ret_of_body (fn := Try.f34) (c := Try.f34.body.getD .skip) hm hT (by kernel_rfl) Try.func34 (by kernel_rfl) (by kernel_rfl) (by kernel_rfl) (by kernel_rfl) ?_
  repeat' ((conv => whnf); first | refine And.intro (fun h => h) ?_ | refine dcond_t (by assumption) ?_ | refine dcond_f (by assumption) ?_ | (refine dcond_intro ?_ ?_ <;> intro h) | exact .refl | refine And.intro (by kernel_rfl) ?_ | refine And.intro ⟨fun h => h, fun h => h⟩ ?_ | refine Exists.intro false ?_ | (refine And.intro ?_ ?_; focus (simp; done)) | fail)
  refine ⟨Nat, fun i => ⟨[(0, .lst 1 (l.map intE) false), (1, .v (.int .i64 x)), (5, i64 i)], []⟩, fun i => i ≤ l.length ∧ ∀ j, j < i → decide (l[j]? = some x) = false, fun i => l.length - i, [], ⟨0, ⟨Nat.zero_le _, by omega⟩, ?_⟩, ?_⟩
  · exact ⟨by repeat' ((conv => whnf); first | exact trivial | refine And.intro (by (conv => arg 1; whnf); first | (with_reducible exact .refl) | exact dle_int (wrap_succ (by omega)) | exact .refl) ?_), by repeat' ((conv => whnf); first | exact trivial | refine And.intro ?_ ?_ | exact .refl), rfl⟩
  · intro i ⟨hi, hall⟩
    repeat' ((conv => whnf); first | refine And.intro (fun h => h) ?_ | refine dcond_t (by assumption) ?_ | refine dcond_f (by assumption) ?_ | (refine dcond_intro ?_ ?_ <;> intro h) | exact .refl | refine And.intro (by kernel_rfl) ?_ | refine And.intro ⟨fun h => h, fun h => h⟩ ?_ | refine Exists.intro false ?_ | (refine And.intro ?_ ?_; focus (simp; done)) | fail)
    · have hlt : i < l.length := by simpa using h
      repeat' ((conv => whnf); first | refine And.intro (fun h => h) ?_ | refine dcond_t (by assumption) ?_ | refine dcond_f (by assumption) ?_ | (refine dcond_intro ?_ ?_ <;> intro h) | exact .refl | refine And.intro (by kernel_rfl) ?_ | refine And.intro ⟨fun h => h, fun h => h⟩ ?_ | refine ⟨_, _, And.intro ⟨rfl, get_map hlt⟩ ?_⟩ | refine Exists.intro false ?_ | (refine And.intro ?_ ?_; focus (simp; done)) | fail)
      · have h2 := h
        refine dle_int (findB_at hlt ?_ hall).symm
        simpa [hlt] using h2
      · have h2 := h
        conv => whnf
        refine ⟨i + 1, ⟨hlt, fun j hj => ?_⟩, by simp only []; omega, ?_⟩
        · rcases Nat.lt_succ_iff_lt_or_eq.1 hj with hj | rfl
          · exact hall j hj
          · simpa [hlt] using h2
        · exact ⟨by repeat' ((conv => whnf); first | exact trivial | refine And.intro (by (conv => arg 1; whnf); first | (with_reducible exact .refl) | exact dle_int (wrap_succ (by omega)) | exact .refl) ?_), by repeat' ((conv => whnf); first | exact trivial | refine And.intro ?_ ?_ | exact .refl), rfl⟩
    · have hge : ¬ i < l.length := by simpa using h
      conv => whnf
      refine dle_int (findB_none (fun j hj => hall j (by omega))).symm
theorem c_ref3_Contains (l : List Int) (hl : l.length ≤ maxLen) (x : Int) : Ret Try.prog 15 [.lst 1 (l.map intE) false, .v (.int .i64 x)] (.v (.bool (inB l x))) := by
  refine ret_of_body (fn := Try.f15) (c := Try.f15.body.getD .skip) hm hT (by kernel_rfl) Try.func15 (by kernel_rfl) (by kernel_rfl) (by kernel_rfl) (by kernel_rfl) ?_
  repeat' ((conv => whnf); first | refine And.intro (fun h => h) ?_ | refine dcond_t (by assumption) ?_ | refine dcond_f (by assumption) ?_ | (refine dcond_intro ?_ ?_ <;> intro h) | exact .refl | refine And.intro (by kernel_rfl) ?_ | refine And.intro ⟨fun h => h, fun h => h⟩ ?_ | refine .inl ⟨_, _, DleAll_refl _, c_ref3_Place _ hl _, ?_⟩ | refine ⟨_, _, DleAll_refl _, fun _ => c_ref3_Place _ hl _, ?_⟩ | refine ⟨_, _, DleAll_refl _, c_ref3_Place _ hl _, ?_⟩ | refine Exists.intro false ?_ | (refine And.intro ?_ ?_; focus (simp; done)) | fail)
def memRB (l : List Int) : Bool := (decide (1 ≤ (l.length : Int)) && decide ((l.length : Int) ≤ 16)) && riseB l
theorem memRB_eq (l : List Int) : memRB l = idsB l 16 := by rw [ids_eq, memRB]
theorem c_ref3_ValidMembers (l : List Int) (hl : l.length ≤ maxLen) : Ret Try.prog 11 [.lst 1 (l.map intE) false] (.v (.bool (idsB l 16))) := by
  rw [← memRB_eq]
  refine ret_of_body (fn := Try.f11) (c := Try.f11.body.getD .skip) hm hT (by kernel_rfl) Try.func11 (by kernel_rfl) (by kernel_rfl) (by kernel_rfl) (by kernel_rfl) ?_
  repeat' ((conv => whnf); first | refine And.intro (fun h => h) ?_ | refine dcond_t (by assumption) ?_ | refine dcond_f (by assumption) ?_ | (refine dcond_intro ?_ ?_ <;> intro h) | exact .refl | refine And.intro (by kernel_rfl) ?_ | refine And.intro ⟨fun h => h, fun h => h⟩ ?_ | refine .inl ⟨_, _, DleAll_refl _, c_ref3_Rising _ hl, ?_⟩ | refine ⟨_, _, DleAll_refl _, fun _ => c_ref3_Rising _ hl, ?_⟩ | refine ⟨_, _, DleAll_refl _, c_ref3_Rising _ hl, ?_⟩ | refine Exists.intro false ?_ | (refine And.intro ?_ ?_; focus (simp; done)) | fail)
  all_goals (conv => whnf)
  refine dle_bool ?_
  simp only [memRB, List.length_map]
theorem c_ref3_Valid (v : View) (hl : v.mem.length ≤ maxLen) : Ret Try.prog 17 [.agg (viewE v)] (.v (.bool (viewB v))) := by
  refine ret_of_body (fn := Try.f17) (c := Try.f17.body.getD .skip) hm hT (by kernel_rfl) Try.func17 (by kernel_rfl) (by kernel_rfl) (by kernel_rfl) (by kernel_rfl) ?_
  repeat' ((conv => whnf); first | refine And.intro (fun h => h) ?_ | refine dcond_t (by assumption) ?_ | refine dcond_f (by assumption) ?_ | (refine dcond_intro ?_ ?_ <;> intro h) | exact .refl | refine And.intro (by kernel_rfl) ?_ | refine And.intro ⟨fun h => h, fun h => h⟩ ?_ | refine .inl ⟨_, _, DleAll_refl _, c_ref3_ValidMembers _ hl, ?_⟩ | refine ⟨_, _, DleAll_refl _, fun _ => c_ref3_ValidMembers _ hl, ?_⟩ | refine ⟨_, _, DleAll_refl _, c_ref3_ValidMembers _ hl, ?_⟩ | refine Exists.intro false ?_ | (refine And.intro ?_ ?_; focus (simp; done)) | fail)
def amongB (m : List Int) (b : Bool) (x : Int) : Bool := inB m x == b
def amongP (l m : List Int) (b : Bool) (i : Nat) : List (List DV) := ((l.take i).filter (amongB m b)).map intE
theorem amongP_len (l m : List Int) (b : Bool) (i : Nat) : (amongP l m b i).length ≤ i := by
  simp only [amongP, List.length_map]
  exact Nat.le_trans (List.length_filter_le _ _) (by simp; omega)
/-- the list so far, and whether the new element is in -/
def insA (l : List Int) (x : Int) : Nat → List Int × Bool
  | 0 => ([], false)
  | i + 1 => bif !(insA l x i).2 && decide (x < l.getD i 0) then ((insA l x i).1 ++ [x] ++ [l.getD i 0], true) else ((insA l x i).1 ++ [l.getD i 0], (insA l x i).2)
def insL (l : List Int) (x : Int) : List Int := bif (insA l x l.length).2 then (insA l x l.length).1 else (insA l x l.length).1 ++ [x]
theorem insA_len (l : List Int) (x : Int) : ∀ i, (insA l x i).1.length ≤ i + 1 ∧ ((insA l x i).2 = false → (insA l x i).1.length ≤ i)
  | 0 => by simp [insA]
  | i + 1 => by
    have ih := insA_len l x i
    simp only [insA]
    cases h : (insA l x i).2 <;> cases h2 : decide (x < l.getD i 0) <;> simp_all <;> omega
theorem insL_len (l : List Int) (x : Int) : (insL l x).length ≤ l.length + 1 := by
  have := insA_len l x l.length
  unfold insL
  cases h : (insA l x l.length).2 <;> simp_all
def insAll : List Int → List Int → List Int
  | l, [] => l
  | l, x :: r => insAll (insL l x) r
def insTo (l j : List Int) : Nat → List Int
  | 0 => l
  | i + 1 => insL (insTo l j i) (j.getD i 0)
theorem insTo_len (l j : List Int) : ∀ i, (insTo l j i).length ≤ l.length + i
  | 0 => Nat.le_refl _
  | i + 1 => by
    have := insTo_len l j i
    have h2 := insL_len (insTo l j i) (j.getD i 0)
    simp only [insTo]
    omega
def nextRR (v : View) (cut : List Int) : View × Int :=
  bif !viewB v || !idsB cut 32 then (⟨0, []⟩, 1)
  else bif decide (2 * ((stayL v cut).length : Int) ≤ (v.mem.length : Int)) then (⟨0, []⟩, 9)
  else bif decide (v.num = 1099511627776) || decide (16 < ((stayL v cut).length : Int) + ((comeL v cut).length : Int)) then (⟨0, []⟩, 5)
  else (⟨IntKind.i64.wrap (v.num + 1), insTo (stayL v cut) (comeL v cut) (comeL v cut).length⟩, 0)
theorem nextRR_err (v : View) (cut : List Int) : (nextRR v cut).2 = (nextR v cut).2 := by
  unfold nextRR nextR
  cases (!viewB v || !idsB cut 32) <;> simp only [cond_true, cond_false]
  cases decide (2 * ((stayL v cut).length : Int) ≤ (v.mem.length : Int)) <;> simp only [cond_true, cond_false]
  cases (decide (v.num = 1099511627776) || decide (16 < ((stayL v cut).length : Int) + ((comeL v cut).length : Int))) <;> simp only [cond_true, cond_false]
theorem view_ids {v : View} (hv : viewB v = true) : idsB v.mem 16 = true := by
  simp only [viewB, Bool.and_eq_true] at hv
  exact hv.2
theorem view_len {v : View} (hv : viewB v = true) : 1 ≤ v.mem.length ∧ v.mem.length ≤ 16 := by
  have hid := view_ids hv
  rw [ids_eq] at hid
  simp only [Bool.and_eq_true, decide_eq_true_eq] at hid
  omega
theorem mem_rise {v : View} (hv : viewB v = true) : 0 < v.mem.length ∧ ∀ i (h : i < v.mem.length), 1 ≤ v.mem[i] ∧ v.mem[i] ≤ 1000 ∧ (0 :: v.mem).getD i 0 < v.mem[i] := by
  have hid := view_ids hv
  have ho := hid
  rw [ids_eq] at hid
  simp only [Bool.and_eq_true, decide_eq_true_eq] at hid
  simp only [idsB, Bool.and_eq_true] at ho
  refine ⟨by omega, fun i h => ?_⟩
  have h1 := rise_iff.1 hid.2 i h
  have h2 := oks_iff.1 ho.2 i h
  exact ⟨h1.1, h1.2.1, h2.1⟩
theorem mem_in {l : List Int} {i : Nat} (h : i < l.length) : inB l l[i] = true := by
  rcases hf : (List.range l.length).find? (fun j => decide (l[j]? = some l[i])) with _ | n
  · have := List.find?_eq_none.1 hf i (List.mem_range.2 h)
    simp [h] at this
  · simp only [inB, placeB, findB, hf]
    exact decide_eq_true (by omega)
theorem in_iff {l : List Int} {x : Int} : inB l x = true ↔ x ∈ l := by
  constructor
  · intro h
    rcases hf : (List.range l.length).find? (fun i => decide (l[i]? = some x)) with _ | n
    · simp only [inB, placeB, findB, hf] at h
      cases h
    · have hp := List.find?_some hf
      simp only [decide_eq_true_eq] at hp
      exact List.mem_of_getElem? hp
  · intro h
    obtain ⟨i, hi, rfl⟩ := List.getElem_of_mem h
    exact mem_in hi
theorem sameI_refl (l : List Int) : sameI l l = true := by
  simp only [sameI, decide_true, Bool.true_and]
  exact allB_true.2 (fun j _ => by simp)
theorem sameI_iff {a b : List Int} : sameI a b = true ↔ a = b := by
  constructor
  · intro h
    simp only [sameI, Bool.and_eq_true, decide_eq_true_eq, allB_true] at h
    refine List.ext_getElem (by omega) fun i h1 h2 => ?_
    have := h.2 i h1
    simpa [h1, h2] using this
  · rintro rfl
    exact sameI_refl a
theorem dat_ints {n : Nat} {r : List DV} (h : Dat tt (n + 2) 23 r) : ∃ l : List Int, r = [.lst 1 (l.map intE) false] ∧ l.length ≤ maxLen := by
  obtain ⟨es, rfl, hl, hes⟩ := h
  obtain ⟨d, rfl, _⟩ := list_data (f := intE) (Q := fun _ => True) (fun r hr => by
    obtain ⟨i, rfl, _⟩ := hes r hr
    exact ⟨i, rfl, trivial⟩)
  exact ⟨d, rfl, by simpa using hl⟩
theorem dat_view {n : Nat} {r : List DV} (h : Dat tt (n + 3) 25 r) : ∃ a : View, r = viewE a ∧ a.mem.length ≤ maxLen := by
  obtain ⟨p, q, rfl, ⟨np, rfl, _⟩, l, s, rfl, hl, rfl⟩ := h
  obtain ⟨l, rfl, hll⟩ := dat_ints (n := n) hl
  exact ⟨⟨np, l⟩, rfl, hll⟩
theorem dat_u8b {n : Nat} {r : List DV} (h : Dat tt (n + 2) 63 r) : ∃ l : List Nat, r = [.lst 1 (l.map byteI) false] ∧ l.length ≤ maxLen ∧ ∀ x ∈ l, x ≤ 255 := by
  obtain ⟨es, rfl, hl, hes⟩ := h
  obtain ⟨d, rfl, hd⟩ := list_data (f := byteI) (Q := fun x => x ≤ 255) (fun r hr => by
    obtain ⟨i, rfl, hi⟩ := hes r hr
    have hb := bounds_u8 (by exact hi)
    exact ⟨i.toNat, by simp only [byteI]; rw [Int.toNat_of_nonneg (by omega)], by omega⟩)
  exact ⟨d, rfl, by simpa using hl, hd⟩
end Go.Proofs.Ythdpjinchanceaa

set_option linter.unusedSimpArgs false
set_option linter.unusedVariables false
set_option maxRecDepth 100000
namespace Go.Proofs.Ythdpjinchanceaa
open Go.Lift
/-! package cmp, at integers -/
def cmpI (a b : Int) : Int := bif decide (a < b) then -1 else bif decide (b < a) then 1 else 0
theorem cmp_iff (a b : Int) : (cmpI a b < 0 ↔ a < b) ∧ (cmpI a b = 0 ↔ a = b) ∧ (cmpI a b = -1 ∨ cmpI a b = 0 ∨ cmpI a b = 1) := by
  unfold cmpI
  by_cases h1 : a < b
  · simp [h1]; omega
  · by_cases h2 : b < a
    · simp [h1, h2]; omega
    · simp [h1, h2]; omega
theorem c_isNaN_u64 (a : Int) : Ret Try.prog 68 [.v (.int .u64 a)] (.v (.bool false)) := by
  refine ret_of_body (fn := Try.f68) (c := Try.f68.body.getD .skip) hm hT (by kernel_rfl) Try.func68 (by kernel_rfl) (by kernel_rfl) (by kernel_rfl) (by kernel_rfl) ?_
  repeat' ((conv => whnf); first | refine And.intro (fun h => h) ?_ | refine dcond_t (by assumption) ?_ | refine dcond_f (by assumption) ?_ | (refine dcond_intro ?_ ?_ <;> intro h) | exact .refl | refine And.intro (by kernel_rfl) ?_ | refine And.intro ⟨fun h => h, fun h => h⟩ ?_ | refine Exists.intro false ?_ | (refine And.intro ?_ ?_; focus (simp; done)) | fail)
  all_goals (conv => whnf)
  refine dle_bool ?_
  simp
theorem c_isNaN_int (a : Int) : Ret Try.prog 69 [.v (.int .i64 a)] (.v (.bool false)) := by
  refine ret_of_body (fn := Try.f69) (c := Try.f69.body.getD .skip) hm hT (by kernel_rfl) Try.func69 (by kernel_rfl) (by kernel_rfl) (by kernel_rfl) (by kernel_rfl) ?_
  repeat' ((conv => whnf); first | refine And.intro (fun h => h) ?_ | refine dcond_t (by assumption) ?_ | refine dcond_f (by assumption) ?_ | (refine dcond_intro ?_ ?_ <;> intro h) | exact .refl | refine And.intro (by kernel_rfl) ?_ | refine And.intro ⟨fun h => h, fun h => h⟩ ?_ | refine Exists.intro false ?_ | (refine And.intro ?_ ?_; focus (simp; done)) | fail)
  all_goals (conv => whnf)
  refine dle_bool ?_
  simp
theorem c_Compare_u64 (a b : Int) : Ret Try.prog 61 [.v (.int .u64 a), .v (.int .u64 b)] (.v (.int .i64 (cmpI a b))) := by
  refine ret_of_body (fn := Try.f61) (c := Try.f61.body.getD .skip) hm hT (by kernel_rfl) Try.func61 (by kernel_rfl) (by kernel_rfl) (by kernel_rfl) (by kernel_rfl) ?_
  repeat' ((conv => whnf); first | refine And.intro (fun h => h) ?_ | refine dcond_t (by assumption) ?_ | refine dcond_f (by assumption) ?_ | (refine dcond_intro ?_ ?_ <;> intro h) | exact .refl | refine And.intro (by kernel_rfl) ?_ | refine And.intro ⟨fun h => h, fun h => h⟩ ?_ | refine .inl ⟨_, _, DleAll_refl _, c_isNaN_u64 _, ?_⟩ | refine ⟨_, _, DleAll_refl _, fun _ => c_isNaN_u64 _, ?_⟩ | refine ⟨_, _, DleAll_refl _, c_isNaN_u64 _, ?_⟩ | refine Exists.intro false ?_ | (refine And.intro ?_ ?_; focus (simp; done)) | fail)
  all_goals (conv => whnf)
  all_goals refine dle_int ?_
  all_goals simp only [cmpI, *, cond_true, cond_false]
theorem c_Compare_int (a b : Int) : Ret Try.prog 62 [.v (.int .i64 a), .v (.int .i64 b)] (.v (.int .i64 (cmpI a b))) := by
  refine ret_of_body (fn := Try.f62) (c := Try.f62.body.getD .skip) hm hT (by kernel_rfl) Try.func62 (by kernel_rfl) (by kernel_rfl) (by kernel_rfl) (by kernel_rfl) ?_
  repeat' ((conv => whnf); first | refine And.intro (fun h => h) ?_ | refine dcond_t (by assumption) ?_ | refine dcond_f (by assumption) ?_ | (refine dcond_intro ?_ ?_ <;> intro h) | exact .refl | refine And.intro (by kernel_rfl) ?_ | refine And.intro ⟨fun h => h, fun h => h⟩ ?_ | refine .inl ⟨_, _, DleAll_refl _, c_isNaN_int _, ?_⟩ | refine ⟨_, _, DleAll_refl _, fun _ => c_isNaN_int _, ?_⟩ | refine ⟨_, _, DleAll_refl _, c_isNaN_int _, ?_⟩ | refine Exists.intro false ?_ | (refine And.intro ?_ ?_; focus (simp; done)) | fail)
  all_goals (conv => whnf)
  all_goals refine dle_int ?_
  all_goals simp only [cmpI, *, cond_true, cond_false]
end Go.Proofs.Ythdpjinchanceaa

set_option linter.unusedSimpArgs false
set_option linter.unusedVariables false
set_option maxRecDepth 100000
namespace Go.Proofs.Ythdpjinchanceaa
open Go.Lift
/-! package hashing -/
def u64 (n : Int) : DV := .v (.int .u64 n)
def mix1 (x s f : Int) : Int := IntKind.u64.wrap (bits .xor .u64 x (x.fdiv (2 ^ (min s.toNat 64))) * f)
def mixAt (x : Int) : Nat → Int
  | 0 => x
  | 1 => mix1 x 30 13787848793156543929
  | _ => mix1 (mix1 x 30 13787848793156543929) 27 10723151780598845931
def mixR (x : Int) : Int := bits .xor .u64 (mixAt x 2) ((mixAt x 2).fdiv (2 ^ (min (31 : Int).toNat 64)))
theorem c_shifts : Ret Try.prog 70 [] (.agg [u64 30, u64 27, u64 31]) := by
  refine ret_of_body (fn := Try.f70) (c := Try.f70.body.getD .skip) hm hT (by kernel_rfl) Try.func70 (by kernel_rfl) (by kernel_rfl) (by kernel_rfl) (by kernel_rfl) ?_
  repeat' ((conv => whnf); first | refine And.intro (fun h => h) ?_ | refine dcond_t (by assumption) ?_ | refine dcond_f (by assumption) ?_ | (refine dcond_intro ?_ ?_ <;> intro h) | exact .refl | refine And.intro (by kernel_rfl) ?_ | refine And.intro ⟨fun h => h, fun h => h⟩ ?_ | refine Exists.intro false ?_ | (refine And.intro ?_ ?_; focus (simp; done)) | fail)
theorem c_factors : Ret Try.prog 71 [] (.agg [u64 13787848793156543929, u64 10723151780598845931]) := by
  refine ret_of_body (fn := Try.f71) (c := Try.f71.body.getD .skip) hm hT (by kernel_rfl) Try.func71 (by kernel_rfl) (by kernel_rfl) (by kernel_rfl) (by kernel_rfl) ?_
  repeat' ((conv => whnf); first | refine And.intro (fun h => h) ?_ | refine dcond_t (by assumption) ?_ | refine dcond_f (by assumption) ?_ | (refine dcond_intro ?_ ?_ <;> intro h) | exact .refl | refine And.intro (by kernel_rfl) ?_ | refine And.intro ⟨fun h => h, fun h => h⟩ ?_ | refine Exists.intro false ?_ | (refine And.intro ?_ ?_; focus (simp; done)) | fail)
theorem c_Mix (x : Int) : Ret Try.prog 63 [u64 x] (u64 (mixR x)) := by
  refine ret_of_body (fn := Try.f63) (c := Try.f63.body.getD .skip) hm hT (by kernel_rfl) Try.func63 (by kernel_rfl) (by kernel_rfl) (by kernel_rfl) (by kernel_rfl) ?_
  repeat' ((conv => whnf); first | refine And.intro (fun h => h) ?_ | refine dcond_t (by assumption) ?_ | refine dcond_f (by assumption) ?_ | (refine dcond_intro ?_ ?_ <;> intro h) | exact .refl | refine And.intro (by kernel_rfl) ?_ | refine And.intro ⟨fun h => h, fun h => h⟩ ?_ | refine .inl ⟨_, _, DleAll_refl _, c_shifts, ?_⟩ | refine ⟨_, _, DleAll_refl _, fun _ => c_shifts, ?_⟩ | refine ⟨_, _, DleAll_refl _, c_shifts, ?_⟩ | refine .inl ⟨_, _, DleAll_refl _, c_factors, ?_⟩ | refine ⟨_, _, DleAll_refl _, fun _ => c_factors, ?_⟩ | refine ⟨_, _, DleAll_refl _, c_factors, ?_⟩ | refine Exists.intro false ?_ | (refine And.intro ?_ ?_; focus (simp; done)) | fail)
  refine ⟨Nat, fun i => ⟨[(0, u64 (mixAt x i)), (3, .lp 0 0), (4, .lp 1 0), (8, i64 i)], [.cells 92 [u64 30, u64 27, u64 31], .cells 94 [u64 13787848793156543929, u64 10723151780598845931]]⟩, fun i => i ≤ 2, fun i => 2 - i, [], ⟨0, Nat.zero_le _, ?_⟩, ?_⟩
  · exact ⟨by repeat' ((conv => whnf); first | exact trivial | refine And.intro (by (conv => arg 1; whnf); first | (with_reducible exact .refl) | exact dle_int (wrap_succ (by omega)) | exact .refl) ?_), by repeat' ((conv => whnf); first | exact trivial | refine And.intro ?_ ?_ | exact .refl), rfl⟩
  · intro i hi
    repeat' ((conv => whnf); first | refine And.intro (fun h => h) ?_ | refine dcond_t (by assumption) ?_ | refine dcond_f (by assumption) ?_ | (refine dcond_intro ?_ ?_ <;> intro h) | exact .refl | refine And.intro (by kernel_rfl) ?_ | refine And.intro ⟨fun h => h, fun h => h⟩ ?_ | refine Exists.intro false ?_ | (refine And.intro ?_ ?_; focus (simp; done)) | fail)
    · have hlt : i < 2 := by
        simp at h
        omega
      clear h
      have hc : i = 0 ∨ i = 1 := by omega
      rcases hc with rfl | rfl
      · repeat' ((conv => whnf); first | refine And.intro (fun h => h) ?_ | refine dcond_t (by assumption) ?_ | refine dcond_f (by assumption) ?_ | (refine dcond_intro ?_ ?_ <;> intro h) | exact .refl | refine And.intro (by kernel_rfl) ?_ | refine And.intro ⟨fun h => h, fun h => h⟩ ?_ | refine ⟨0, And.intro ⟨rfl, by decide⟩ ?_⟩ | refine ⟨.v (.int .u64 30), And.intro rfl ?_⟩ | refine ⟨.v (.int .u64 13787848793156543929), And.intro rfl ?_⟩ | refine Exists.intro false ?_ | (refine And.intro ?_ ?_; focus (simp; done)) | fail)
        all_goals (conv => whnf)
        refine ⟨1, by omega, by decide, ?_⟩
        exact ⟨⟨dle_int rfl, .refl, .refl, .refl, trivial⟩, ⟨.refl, .refl, trivial⟩, rfl⟩
      · repeat' ((conv => whnf); first | refine And.intro (fun h => h) ?_ | refine dcond_t (by assumption) ?_ | refine dcond_f (by assumption) ?_ | (refine dcond_intro ?_ ?_ <;> intro h) | exact .refl | refine And.intro (by kernel_rfl) ?_ | refine And.intro ⟨fun h => h, fun h => h⟩ ?_ | refine ⟨1, And.intro ⟨rfl, by decide⟩ ?_⟩ | refine ⟨.v (.int .u64 27), And.intro rfl ?_⟩ | refine ⟨.v (.int .u64 10723151780598845931), And.intro rfl ?_⟩ | refine Exists.intro false ?_ | (refine And.intro ?_ ?_; focus (simp; done)) | fail)
        all_goals (conv => whnf)
        refine ⟨2, by omega, by decide, ?_⟩
        exact ⟨⟨dle_int rfl, .refl, .refl, .refl, trivial⟩, ⟨.refl, .refl, trivial⟩, rfl⟩
    · have : i = 2 := by
        simp at h
        omega
      subst this
      repeat' ((conv => whnf); first | refine And.intro (fun h => h) ?_ | refine dcond_t (by assumption) ?_ | refine dcond_f (by assumption) ?_ | (refine dcond_intro ?_ ?_ <;> intro h) | exact .refl | refine And.intro (by kernel_rfl) ?_ | refine And.intro ⟨fun h => h, fun h => h⟩ ?_ | refine Exists.intro false ?_ | (refine And.intro ?_ ?_; focus (simp; done)) | fail)
      all_goals (conv => whnf)
      all_goals trace_state
def combR (h x : Int) : Int := mixR (IntKind.u64.wrap (h + IntKind.u64.wrap (11400714819323198485 * IntKind.u64.wrap (x + 1))))
theorem c_Combine (h x : Int) : Ret Try.prog 52 [u64 h, u64 x] (u64 (combR h x)) := by
  refine ret_of_body (fn := Try.f52) (c := Try.f52.body.getD .skip) hm hT (by kernel_rfl) Try.func52 (by kernel_rfl) (by kernel_rfl) (by kernel_rfl) (by kernel_rfl) ?_
  repeat' ((conv => whnf); first | refine And.intro (fun h => h) ?_ | refine dcond_t (by assumption) ?_ | refine dcond_f (by assumption) ?_ | (refine dcond_intro ?_ ?_ <;> intro h) | exact .refl | refine And.intro (by kernel_rfl) ?_ | refine And.intro ⟨fun h => h, fun h => h⟩ ?_ | refine .inl ⟨_, _, DleAll_refl _, c_Mix _, ?_⟩ | refine ⟨_, _, DleAll_refl _, fun _ => c_Mix _, ?_⟩ | refine ⟨_, _, DleAll_refl _, c_Mix _, ?_⟩ | refine Exists.intro false ?_ | (refine And.intro ?_ ?_; focus (simp; done)) | fail)
def tokR (m i : Int) : Int := combR (combR 500085515630 (IntKind.u64.wrap m)) (IntKind.u64.wrap i)
theorem c_Token (m i : Int) : Ret Try.prog 57 [i64 m, i64 i] (u64 (tokR m i)) := by
  refine ret_of_body (fn := Try.f57) (c := Try.f57.body.getD .skip) hm hT (by kernel_rfl) Try.func57 (by kernel_rfl) (by kernel_rfl) (by kernel_rfl) (by kernel_rfl) ?_
  repeat' ((conv => whnf); first | refine And.intro (fun h => h) ?_ | refine dcond_t (by assumption) ?_ | refine dcond_f (by assumption) ?_ | (refine dcond_intro ?_ ?_ <;> intro h) | exact .refl | refine And.intro (by kernel_rfl) ?_ | refine And.intro ⟨fun h => h, fun h => h⟩ ?_ | refine .inl ⟨_, _, DleAll_refl _, c_Combine _ _, ?_⟩ | refine ⟨_, _, DleAll_refl _, fun _ => c_Combine _ _, ?_⟩ | refine ⟨_, _, DleAll_refl _, c_Combine _ _, ?_⟩ | refine Exists.intro false ?_ | (refine And.intro ?_ ?_; focus (simp; done)) | fail)
def posR (r m : Int) : Int := combR (IntKind.u64.wrap r) (IntKind.u64.wrap m)
end Go.Proofs.Ythdpjinchanceaa

set_option linter.unusedSimpArgs false
set_option linter.unusedVariables false
set_option maxRecDepth 100000
namespace Go.Proofs.Ythdpjinchanceaa
open Go.Lift
open Go.Sort (SWO)
/-- a sorted list of a strict weak order -/
def sortL {β : Type} (cf : β → β → Int) (l : List β) : List β := l.mergeSort fun x y => !Go.Proofs.ltOf cf y x
theorem sortL_perm {β : Type} (cf : β → β → Int) (l : List β) : (sortL cf l).Perm l := List.mergeSort_perm _ _
theorem sortL_sorted {β : Type} {cf : β → β → Int} (hO : SWO (Go.Proofs.ltOf cf)) (l : List β) : (sortL cf l).Pairwise fun x y => Go.Proofs.ltOf cf y x = false := by
  have h := List.pairwise_mergeSort (le := fun x y => !Go.Proofs.ltOf cf y x) (fun a b c h1 h2 => by
    simp only [Bool.not_eq_true'] at *
    exact hO.ntrans _ _ _ h2 h1) (fun a b => by
    cases h : Go.Proofs.ltOf cf b a
    · simp
    · cases h2 : Go.Proofs.ltOf cf a b
      · simp
      · have := hO.trans _ _ _ h h2
        rw [hO.irrefl] at this
        cases this) l
  exact h.imp fun h => by simpa using h
theorem sortL_mem {β : Type} {cf : β → β → Int} {l : List β} {x : β} : x ∈ sortL cf l ↔ x ∈ l := (sortL_perm cf l).mem_iff
theorem sortL_len {β : Type} (cf : β → β → Int) (l : List β) : (sortL cf l).length = l.length := (sortL_perm cf l).length_eq
theorem sorted_eq {β : Type} {cf : β → β → Int} (hanti : ∀ x y, Go.Proofs.ltOf cf x y = false → Go.Proofs.ltOf cf y x = false → x = y) {l l' : List β} (hp : l.Perm l') (h1 : l.Pairwise fun x y => Go.Proofs.ltOf cf y x = false) (h2 : l'.Pairwise fun x y => Go.Proofs.ltOf cf y x = false) : l = l' :=
  List.Perm.eq_of_pairwise (le := fun x y => Go.Proofs.ltOf cf y x = false) (fun a b _ _ h1 h2 => hanti a b h2 h1) h1 h2 hp
end Go.Proofs.Ythdpjinchanceaa

set_option linter.unusedSimpArgs false
set_option linter.unusedVariables false
set_option maxRecDepth 100000
namespace Go.Proofs.Ythdpjinchanceaa
open Go.Lift
/-! package directory -/
structure Ref where
  ty : ByteArray
  key : ByteArray
structure Rec where
  ref : Ref
  mem : Int
  ep : Int
  tgt : Int
structure Cmd where
  kind : Int
  ref : Ref
  mem : Int
  ep : Int
def refE (r : Ref) : List DV := [.v (.string r.ty), .v (.string r.key)]
def recE (a : Rec) : List DV := [.v (.string a.ref.ty), .v (.string a.ref.key), .v (.int .i64 a.mem), .v (.int .i64 a.ep), .v (.int .i64 a.tgt)]
def cmdE (c : Cmd) : List DV := [.v (.int .i64 c.kind), .v (.string c.ref.ty), .v (.string c.ref.key), .v (.int .i64 c.mem), .v (.int .i64 c.ep)]

def identB (n : Int) : Bool := decide (1 ≤ n) && decide (n ≤ 1000)
def numB (n : Int) : Bool := decide (1 ≤ n) && decide (n ≤ 1099511627776)
def refB (r : Ref) : Bool := decide (1 ≤ (r.ty.size : Int)) && decide ((r.ty.size : Int) ≤ 32) && decide ((r.key.size : Int) ≤ 32)
def lessB (a b : Ref) : Bool := Op.bytesLess a.ty.toList b.ty.toList || (decide (a.ty = b.ty) && Op.bytesLess a.key.toList b.key.toList)

theorem c_directory_identifier (n : Int) : Ret Try.prog 33 [.v (.int .i64 n)] (.v (.bool (identB n))) := by
  refine ret_of_body (fn := Try.f33) (c := Try.f33.body.getD .skip) hm hT (by kernel_rfl) Try.func33 (by kernel_rfl) (by kernel_rfl) (by kernel_rfl) (by kernel_rfl) ?_
  repeat' ((conv => whnf); first | refine And.intro (fun h => h) ?_ | refine dcond_t (by assumption) ?_ | refine dcond_f (by assumption) ?_ | (refine dcond_intro ?_ ?_ <;> intro h) | exact .refl | refine And.intro (by kernel_rfl) ?_ | refine And.intro ⟨fun h => h, fun h => h⟩ ?_ | refine Exists.intro false ?_ | (refine And.intro ?_ ?_; focus (simp; done)) | fail)
theorem c_directory_number (n : Int) : Ret Try.prog 32 [.v (.int .i64 n)] (.v (.bool (numB n))) := by
  refine ret_of_body (fn := Try.f32) (c := Try.f32.body.getD .skip) hm hT (by kernel_rfl) Try.func32 (by kernel_rfl) (by kernel_rfl) (by kernel_rfl) (by kernel_rfl) ?_
  repeat' ((conv => whnf); first | refine And.intro (fun h => h) ?_ | refine dcond_t (by assumption) ?_ | refine dcond_f (by assumption) ?_ | (refine dcond_intro ?_ ?_ <;> intro h) | exact .refl | refine And.intro (by kernel_rfl) ?_ | refine And.intro ⟨fun h => h, fun h => h⟩ ?_ | refine Exists.intro false ?_ | (refine And.intro ?_ ?_; focus (simp; done)) | fail)
theorem c_directory_ValidRef (r : Ref) : Ret Try.prog 31 [.agg [.v (.string r.ty), .v (.string r.key)]] (.v (.bool (refB r))) := by
  refine ret_of_body (fn := Try.f31) (c := Try.f31.body.getD .skip) hm hT (by kernel_rfl) Try.func31 (by kernel_rfl) (by kernel_rfl) (by kernel_rfl) (by kernel_rfl) ?_
  repeat' ((conv => whnf); first | refine And.intro (fun h => h) ?_ | refine dcond_t (by assumption) ?_ | refine dcond_f (by assumption) ?_ | (refine dcond_intro ?_ ?_ <;> intro h) | exact .refl | refine And.intro (by kernel_rfl) ?_ | refine And.intro ⟨fun h => h, fun h => h⟩ ?_ | refine Exists.intro false ?_ | (refine And.intro ?_ ?_; focus (simp; done)) | fail)
theorem c_directory_Less (a b : Ref) : Ret Try.prog 26 [.agg [.v (.string a.ty), .v (.string a.key)], .agg [.v (.string b.ty), .v (.string b.key)]] (.v (.bool (lessB a b))) := by
  refine ret_of_body (fn := Try.f26) (c := Try.f26.body.getD .skip) hm hT (by kernel_rfl) Try.func26 (by kernel_rfl) (by kernel_rfl) (by kernel_rfl) (by kernel_rfl) ?_
  repeat' ((conv => whnf); first | refine And.intro (fun h => h) ?_ | refine dcond_t (by assumption) ?_ | refine dcond_f (by assumption) ?_ | (refine dcond_intro ?_ ?_ <;> intro h) | exact .refl | refine And.intro (by kernel_rfl) ?_ | refine And.intro ⟨fun h => h, fun h => h⟩ ?_ | refine Exists.intro false ?_ | (refine And.intro ?_ ?_; focus (simp; done)) | fail)
def refEq (a b : Ref) : Bool := decide (a.ty = b.ty) && (decide (a.key = b.key) && true)
theorem refEq_iff {a b : Ref} : refEq a b = true ↔ a = b := by
  cases a; cases b; simp [refEq]
def idxO (d : List Rec) (r : Ref) : Option Nat := d.findIdx? fun x => refEq x.ref r
def idxB (d : List Rec) (r : Ref) : Int := match idxO d r with
  | some i => (i : Nat)
  | none => -1
theorem c_directory_index (d : List Rec) (hl : d.length ≤ maxLen) (r : Ref) : Ret Try.prog 28 [.lst 5 (d.map recE) false, .agg [.v (.string r.ty), .v (.string r.key)]] (.v (.int .i64 (idxB d r))) := by
  have hl' : d.length ≤ 9223372036854775807 := hl
  refine ret_of_body (fn := Try.f28) (c := Try.f28.body.getD .skip) hm hT (by kernel_rfl) Try.func28 (by kernel_rfl) (by kernel_rfl) (by kernel_rfl) (by kernel_rfl) ?_
  repeat' ((conv => whnf); first | refine And.intro (fun h => h) ?_ | refine dcond_t (by assumption) ?_ | refine dcond_f (by assumption) ?_ | (refine dcond_intro ?_ ?_ <;> intro h) | exact .refl | refine And.intro (by kernel_rfl) ?_ | refine And.intro ⟨fun h => h, fun h => h⟩ ?_ | refine Exists.intro false ?_ | (refine And.intro ?_ ?_; focus (simp; done)) | fail)
  refine ⟨Nat, fun i => ⟨[(3, .lp 0 0), (7, .lst 5 (d.map recE) false), (8, i64 (d.map recE).length), (9, i64 i)], [.cells 27 [.v (.string r.ty), .v (.string r.key)]]⟩, fun i => i ≤ d.length ∧ ∀ j (h : j < d.length), j < i → refEq (d[j].ref) r = false, fun i => d.length - i, [], ⟨0, ⟨Nat.zero_le _, by omega⟩, ?_⟩, ?_⟩
  · exact ⟨by repeat' ((conv => whnf); first | exact trivial | refine And.intro (by (conv => arg 1; whnf); first | (with_reducible exact .refl) | exact dle_int (wrap_succ (by omega)) | exact .refl) ?_), by repeat' ((conv => whnf); first | exact trivial | refine And.intro ?_ ?_ | exact .refl), rfl⟩
  · intro i ⟨hi, hall⟩
    repeat' ((conv => whnf); first | refine And.intro (fun h => h) ?_ | refine dcond_t (by assumption) ?_ | refine dcond_f (by assumption) ?_ | (refine dcond_intro ?_ ?_ <;> intro h) | exact .refl | refine And.intro (by kernel_rfl) ?_ | refine And.intro ⟨fun h => h, fun h => h⟩ ?_ | refine Exists.intro false ?_ | (refine And.intro ?_ ?_; focus (simp; done)) | fail)
    · skip
      have hlt : i < d.length := by simpa using h
      repeat' ((conv => whnf); first | refine And.intro (fun h => h) ?_ | refine dcond_t (by assumption) ?_ | refine dcond_f (by assumption) ?_ | (refine dcond_intro ?_ ?_ <;> intro h) | exact .refl | refine And.intro (by kernel_rfl) ?_ | refine And.intro ⟨fun h => h, fun h => h⟩ ?_ | refine ⟨_, _, And.intro ⟨rfl, get_map hlt⟩ ?_⟩ | refine Exists.intro false ?_ | (refine And.intro ?_ ?_; focus (simp; done)) | fail)
      · have h2 := h
        refine dle_int ?_
        have : idxO d r = some i := List.findIdx?_eq_some_iff_getElem.2 ⟨hlt, h2, fun j hj => by simp [hall j (by omega) hj]⟩
        simp [idxB, this]
      · have h2 := h
        conv => whnf
        refine ⟨i + 1, ⟨hlt, fun j hj hji => ?_⟩, by simp only []; omega, ?_⟩
        · rcases Nat.lt_succ_iff_lt_or_eq.1 hji with hji | rfl
          · exact hall j hj hji
          · exact h2
        · exact ⟨by repeat' ((conv => whnf); first | exact trivial | refine And.intro (by (conv => arg 1; whnf); first | (with_reducible exact .refl) | exact dle_int (wrap_succ (by omega)) | exact .refl) ?_), by repeat' ((conv => whnf); first | exact trivial | refine And.intro ?_ ?_ | exact .refl), rfl⟩
    · skip
      have hge : ¬ i < d.length := by simpa using h
      conv => whnf
      refine dle_int ?_
      have : idxO d r = none := List.findIdx?_eq_none_iff.2 (fun x hx => by
        obtain ⟨j, hj, rfl⟩ := List.getElem_of_mem hx
        exact hall j hj (by omega))
      simp [idxB, this]
def cmdB (c : Cmd) : Bool := !(decide (c.kind < 1) || decide (5 < c.kind) || !refB c.ref) && (!((decide (c.kind = 1) || decide (c.kind = 3)) && !identB c.mem || !(decide (c.kind = 1) || decide (c.kind = 3)) && !decide (c.mem = 0)) && (decide (c.kind = 1) && decide (c.ep = 0) || !decide (c.kind = 1) && numB c.ep))
theorem c_directory_ValidCommand (c : Cmd) : Ret Try.prog 24 [.agg (cmdE c)] (.v (.bool (cmdB c))) := by
  refine ret_of_body (fn := Try.f24) (c := Try.f24.body.getD .skip) hm hT (by kernel_rfl) Try.func24 (by kernel_rfl) (by kernel_rfl) (by kernel_rfl) (by kernel_rfl) ?_
  repeat' ((conv => whnf); first | refine And.intro (fun h => h) ?_ | refine dcond_t (by assumption) ?_ | refine dcond_f (by assumption) ?_ | (refine dcond_intro ?_ ?_ <;> intro h) | exact .refl | refine And.intro (by kernel_rfl) ?_ | refine And.intro ⟨fun h => h, fun h => h⟩ ?_ | refine .inl ⟨_, _, DleAll_refl _, c_directory_ValidRef ⟨_, _⟩, ?_⟩ | refine ⟨_, _, DleAll_refl _, fun _ => c_directory_ValidRef ⟨_, _⟩, ?_⟩ | refine ⟨_, _, DleAll_refl _, c_directory_ValidRef ⟨_, _⟩, ?_⟩ | refine .inl ⟨_, _, DleAll_refl _, c_directory_number _, ?_⟩ | refine ⟨_, _, DleAll_refl _, fun _ => c_directory_number _, ?_⟩ | refine ⟨_, _, DleAll_refl _, c_directory_number _, ?_⟩ | refine .inl ⟨_, _, DleAll_refl _, c_directory_identifier _, ?_⟩ | refine ⟨_, _, DleAll_refl _, fun _ => c_directory_identifier _, ?_⟩ | refine ⟨_, _, DleAll_refl _, c_directory_identifier _, ?_⟩ | refine Exists.intro false ?_ | (refine And.intro ?_ ?_; focus (simp; done)) | fail)
  all_goals (conv => whnf)
  all_goals refine dle_bool ?_
  all_goals simp only [cmdB, *]
  all_goals rfl
def vacB (r : Rec) (found : Bool) : Bool := !found || decide (r.mem = 0)
def checkE (n : Nat) (v : View) (c : Cmd) (r : Rec) (found : Bool) : Int :=
  bif !decide (c.mem = 0) && !inB v.mem c.mem || !decide (c.kind = 1) && (!found || decide (r.mem = 0)) then 6
  else bif decide (c.kind = 1) && !(!found || decide (r.mem = 0)) then 7
  else bif !decide (c.kind = 1) && !decide (r.ep = c.ep) then 8
  else bif decide (c.kind = 3) && (!decide (r.tgt = 0) || decide (r.mem = c.mem)) then 11
  else bif (decide (c.kind = 4) || decide (c.kind = 5)) && decide (r.tgt = 0) then 11
  else bif decide (c.kind = 4) && !inB v.mem r.tgt then 11
  else bif (decide (c.kind = 1) || decide (c.kind = 4)) && decide (r.ep = 1099511627776) then 5
  else bif !found && decide ((n : Int) = 200) then 5
  else 0
theorem c_directory_check (d : List Rec) (v : View) (hv : v.mem.length ≤ maxLen) (c : Cmd) (r : Rec) (found : Bool) : Ret Try.prog 25 [.lst 5 (d.map recE) false, .agg (viewE v), .agg (cmdE c), .agg (recE r), .v (.bool found)] (.v (.int .i64 (checkE d.length v c r found))) := by
  refine ret_of_body (fn := Try.f25) (c := Try.f25.body.getD .skip) hm hT (by kernel_rfl) Try.func25 (by kernel_rfl) (by kernel_rfl) (by kernel_rfl) (by kernel_rfl) ?_
  repeat' ((conv => whnf); first | refine And.intro (fun h => h) ?_ | refine dcond_t (by assumption) ?_ | refine dcond_f (by assumption) ?_ | (refine dcond_intro ?_ ?_ <;> intro h) | exact .refl | refine And.intro (by kernel_rfl) ?_ | refine And.intro ⟨fun h => h, fun h => h⟩ ?_ | refine .inl ⟨_, _, DleAll_refl _, c_view_Contains _ hv _, ?_⟩ | refine ⟨_, _, DleAll_refl _, fun _ => c_view_Contains _ hv _, ?_⟩ | refine ⟨_, _, DleAll_refl _, c_view_Contains _ hv _, ?_⟩ | refine Exists.intro false ?_ | (refine And.intro ?_ ?_; focus (simp; done)) | fail)
  all_goals (conv => whnf)
  all_goals refine dle_int ?_
  all_goals (try simp only [List.length_map] at *)
  all_goals simp only [checkE, *]
  all_goals rfl
def chgR (r : Rec) (c : Cmd) : Rec :=
  bif decide (c.kind = 1) then ⟨c.ref, c.mem, IntKind.i64.wrap (r.ep + 1), 0⟩
  else bif decide (c.kind = 2) then ⟨c.ref, 0, r.ep, 0⟩
  else bif decide (c.kind = 3) then ⟨c.ref, r.mem, r.ep, c.mem⟩
  else bif decide (c.kind = 4) then ⟨c.ref, r.tgt, IntKind.i64.wrap (r.ep + 1), 0⟩
  else bif decide (c.kind = 5) then ⟨c.ref, r.mem, r.ep, 0⟩
  else ⟨c.ref, r.mem, r.ep, r.tgt⟩
theorem c_directory_changed (r : Rec) (c : Cmd) : Ret Try.prog 27 [.agg (recE r), .agg (cmdE c)] (.agg (recE (chgR r c))) := by
  refine ret_of_body (fn := Try.f27) (c := Try.f27.body.getD .skip) hm hT (by kernel_rfl) Try.func27 (by kernel_rfl) (by kernel_rfl) (by kernel_rfl) (by kernel_rfl) ?_
  repeat' ((conv => whnf); first | refine And.intro (fun h => h) ?_ | refine dcond_t (by assumption) ?_ | refine dcond_f (by assumption) ?_ | (refine dcond_intro ?_ ?_ <;> intro h) | exact .refl | refine And.intro (by kernel_rfl) ?_ | refine And.intro ⟨fun h => h, fun h => h⟩ ?_ | refine Exists.intro false ?_ | (refine And.intro ?_ ?_; focus (simp; done)) | fail)
  all_goals (conv => whnf)
  all_goals simp only [chgR, *]
  all_goals exact .refl
def findR (d : List Rec) (r : Ref) : Rec × Bool := match idxO d r with
  | some i => (d.getD i ⟨⟨⟨#[]⟩, ⟨#[]⟩⟩, 0, 0, 0⟩, true)
  | none => (⟨⟨⟨#[]⟩, ⟨#[]⟩⟩, 0, 0, 0⟩, false)
theorem c_directory_Find (d : List Rec) (hl : d.length ≤ maxLen) (r : Ref) : Ret Try.prog 10 [.lst 5 (d.map recE) false, .agg [.v (.string r.ty), .v (.string r.key)]] (.tup [.agg (recE (findR d r).1), .v (.bool (findR d r).2)]) := by
  have h28 := c_directory_index d hl r
  cases hi : idxO d r with
  | none =>
    have e1 : findR d r = (⟨⟨⟨#[]⟩, ⟨#[]⟩⟩, 0, 0, 0⟩, false) := by simp [findR, hi]
    rw [e1]
    simp only [idxB, hi] at h28
    refine ret_of_body (fn := Try.f10) (c := Try.f10.body.getD .skip) hm hT (by kernel_rfl) Try.func10 (by kernel_rfl) (by kernel_rfl) (by kernel_rfl) (by kernel_rfl) ?_
    repeat' ((conv => whnf); first | refine And.intro (fun h => h) ?_ | refine dcond_t (by assumption) ?_ | refine dcond_f (by assumption) ?_ | (refine dcond_intro ?_ ?_ <;> intro h) | exact .refl | refine And.intro (by kernel_rfl) ?_ | refine And.intro ⟨fun h => h, fun h => h⟩ ?_ | refine .inl ⟨_, _, DleAll_refl _, h28, ?_⟩ | refine ⟨_, _, DleAll_refl _, fun _ => h28, ?_⟩ | refine ⟨_, _, DleAll_refl _, h28, ?_⟩ | refine Exists.intro false ?_ | (refine And.intro ?_ ?_; focus (simp; done)) | fail)
  | some i =>
    have hlt : i < d.length := by
      obtain ⟨h, _⟩ := List.findIdx?_eq_some_iff_getElem.1 hi
      exact h
    have e1 : findR d r = (d[i], true) := by simp [findR, hi, hlt]
    rw [e1]
    simp only [idxB, hi] at h28
    refine ret_of_body (fn := Try.f10) (c := Try.f10.body.getD .skip) hm hT (by kernel_rfl) Try.func10 (by kernel_rfl) (by kernel_rfl) (by kernel_rfl) (by kernel_rfl) ?_
    repeat' ((conv => whnf); first | refine And.intro (fun h => h) ?_ | refine dcond_t (by assumption) ?_ | refine dcond_f (by assumption) ?_ | (refine dcond_intro ?_ ?_ <;> intro h) | exact .refl | refine And.intro (by kernel_rfl) ?_ | refine And.intro ⟨fun h => h, fun h => h⟩ ?_ | refine .inl ⟨_, _, DleAll_refl _, h28, ?_⟩ | refine ⟨_, _, DleAll_refl _, fun _ => h28, ?_⟩ | refine ⟨_, _, DleAll_refl _, h28, ?_⟩ | refine ⟨_, _, And.intro ⟨rfl, get_map hlt⟩ ?_⟩ | refine Exists.intro false ?_ | (refine And.intro ?_ ?_; focus (simp; done)) | fail)
def recOk (x : Rec) : Bool := refB x.ref && (numB x.ep && (!(!decide (x.mem = 0) && !identB x.mem) && !(!decide (x.tgt = 0) && (decide (x.mem = 0) || !identB x.tgt || decide (x.tgt = x.mem)))))
def zeroR : Rec := ⟨⟨⟨#[]⟩, ⟨#[]⟩⟩, 0, 0, 0⟩
def okAtR (d : List Rec) (i : Nat) : Bool := recOk (d.getD i zeroR) && !(decide (0 < (i : Int)) && !lessB (d.getD (i - 1) zeroR).ref (d.getD i zeroR).ref)
def validB (d : List Rec) : Bool := !decide (200 < (d.length : Int)) && allB (okAtR d) d.length
theorem c_directory_Valid (d : List Rec) (hl : d.length ≤ maxLen) : Ret Try.prog 14 [.lst 5 (d.map recE) false] (.v (.bool (validB d))) := by
  have hl' : d.length ≤ 9223372036854775807 := hl
  refine ret_of_body (fn := Try.f14) (c := Try.f14.body.getD .skip) hm hT (by kernel_rfl) Try.func14 (by kernel_rfl) (by kernel_rfl) (by kernel_rfl) (by kernel_rfl) ?_
  repeat' ((conv => whnf); first | refine And.intro (fun h => h) ?_ | refine dcond_t (by assumption) ?_ | refine dcond_f (by assumption) ?_ | (refine dcond_intro ?_ ?_ <;> intro h) | exact .refl | refine And.intro (by kernel_rfl) ?_ | refine And.intro ⟨fun h => h, fun h => h⟩ ?_ | refine Exists.intro false ?_ | (refine And.intro ?_ ?_; focus (simp; done)) | fail)
  · refine dle_bool ?_
    simp only [List.length_map] at h
    simp only [validB, h]
    rfl
  · have h0 := h
    simp only [List.length_map] at h0
    clear h
    conv => whnf
    refine ⟨Nat, fun i => ⟨[(0, .lst 5 (d.map recE) false), (8, .lst 5 (d.map recE) false), (9, i64 (d.map recE).length), (10, i64 i)], []⟩, fun i => i ≤ d.length ∧ ∀ j, j < i → okAtR d j = true, fun i => d.length - i, [], ⟨0, ⟨Nat.zero_le _, by omega⟩, ?_⟩, ?_⟩
    · exact ⟨by repeat' ((conv => whnf); first | exact trivial | refine And.intro (by (conv => arg 1; whnf); first | (with_reducible exact .refl) | exact dle_int (wrap_succ (by omega)) | exact .refl) ?_), by repeat' ((conv => whnf); first | exact trivial | refine And.intro ?_ ?_ | exact .refl), rfl⟩
    · intro i ⟨hi, hall⟩
      repeat' ((conv => whnf); first | refine And.intro (fun h => h) ?_ | refine dcond_t (by assumption) ?_ | refine dcond_f (by assumption) ?_ | (refine dcond_intro ?_ ?_ <;> intro h) | exact .refl | refine And.intro (by kernel_rfl) ?_ | refine And.intro ⟨fun h => h, fun h => h⟩ ?_ | refine Exists.intro false ?_ | (refine And.intro ?_ ?_; focus (simp; done)) | fail)
      · have hlt : i < d.length := by simpa using h
        have h1 := h
        clear h
        have hg : d.getD i zeroR = d[i] := by simp [hlt]
        have bad : recOk d[i] = false → false = validB d := fun hr => by
          rw [validB, allB_false hlt (by simp only [okAtR, hg, hr, Bool.false_and]), Bool.and_false]
        repeat' ((conv => whnf); first | refine And.intro (fun h => h) ?_ | refine dcond_t (by assumption) ?_ | refine dcond_f (by assumption) ?_ | (refine dcond_intro ?_ ?_ <;> intro h) | exact .refl | refine And.intro (by kernel_rfl) ?_ | refine And.intro ⟨fun h => h, fun h => h⟩ ?_ | refine ⟨_, _, And.intro ⟨rfl, get_map hlt⟩ ?_⟩ | refine .inl ⟨_, _, DleAll_refl _, c_directory_ValidRef _, ?_⟩ | refine ⟨_, _, DleAll_refl _, fun _ => c_directory_ValidRef _, ?_⟩ | refine ⟨_, _, DleAll_refl _, c_directory_ValidRef _, ?_⟩ | refine .inl ⟨_, _, DleAll_refl _, c_directory_number _, ?_⟩ | refine ⟨_, _, DleAll_refl _, fun _ => c_directory_number _, ?_⟩ | refine ⟨_, _, DleAll_refl _, c_directory_number _, ?_⟩ | refine .inl ⟨_, _, DleAll_refl _, c_directory_identifier _, ?_⟩ | refine ⟨_, _, DleAll_refl _, fun _ => c_directory_identifier _, ?_⟩ | refine ⟨_, _, DleAll_refl _, c_directory_identifier _, ?_⟩ | refine .inl ⟨_, _, DleAll_refl _, c_directory_Less _ _, ?_⟩ | refine ⟨_, _, DleAll_refl _, fun _ => c_directory_Less _ _, ?_⟩ | refine ⟨_, _, DleAll_refl _, c_directory_Less _ _, ?_⟩ | refine ⟨i - 1, recE (d[i - 1]'(by omega)), And.intro ⟨⟨fun h => h, fun h => h⟩, fun hg => ⟨wrap_pred (by omega) hg, get_map (by omega)⟩⟩ ?_⟩ | refine Exists.intro false ?_ | (refine And.intro ?_ ?_; focus (simp; done)) | fail)
        · refine dle_bool (bad ?_)
          have h2 : (!refB d[i].ref) = true := h
          simp at h2
          simp [recOk, h2]
        · refine dle_bool (bad ?_)
          simp at h
          simp [recOk, h]
        · refine dle_bool (bad ?_)
          simp only [recOk, h]
          simp
        · refine dle_bool (bad ?_)
          simp only [recOk, h]
          simp
        · refine dle_bool ?_
          rw [validB, allB_false hlt (i := i) ?_, Bool.and_false]
          have hg2 : d.getD (i - 1) zeroR = d[i - 1] := by simp [show i - 1 < d.length by omega]
          simp only [okAtR, hg, hg2, h]
          simp
        · conv => whnf
          refine ⟨i + 1, ⟨hlt, fun j hj => ?_⟩, by simp only []; omega, ?_⟩
          · rcases Nat.lt_succ_iff_lt_or_eq.1 hj with hj | rfl
            · exact hall j hj
            · rename_i e1 e2 e3 e4
              have hg2 : d.getD (j - 1) zeroR = d[j - 1] := by simp [show j - 1 < d.length by omega]
              have e1 : (!refB d[j].ref) = false := e1
              simp at e1 e2
              simp only [okAtR, hg, hg2, h, recOk, e1, e2, e3, e4]
              rfl
          · exact ⟨by repeat' ((conv => whnf); first | exact trivial | refine And.intro (by (conv => arg 1; whnf); first | (with_reducible exact .refl) | exact dle_int (wrap_succ (by omega)) | exact .refl) ?_), by repeat' ((conv => whnf); first | exact trivial | refine And.intro ?_ ?_ | exact .refl), rfl⟩
      · have hge : ¬ i < d.length := by simpa using h
        conv => whnf
        refine dle_bool ?_
        rw [validB, h0, allB_true.2 (fun j hj => hall j (by omega))]
        rfl
/-! ## the order of names -/
theorem bl_irrefl : ∀ l : List UInt8, Op.bytesLess l l = false
  | [] => rfl
  | x :: r => by simp [Op.bytesLess, bl_irrefl r]
theorem bl_trans : ∀ {a b c : List UInt8}, Op.bytesLess a b = true → Op.bytesLess b c = true → Op.bytesLess a c = true
  | a, [], c, h, _ => by cases a <;> simp [Op.bytesLess] at h
  | a, _ :: _, [], _, h => by simp [Op.bytesLess] at h
  | [], _ :: _, _ :: _, _, _ => by simp [Op.bytesLess]
  | x :: a, y :: b, z :: c, h1, h2 => by
    simp only [Op.bytesLess, Bool.or_eq_true, Bool.and_eq_true, decide_eq_true_eq, beq_iff_eq] at h1 h2 ⊢
    rcases h1 with h1 | ⟨rfl, h1⟩ <;> rcases h2 with h2 | ⟨rfl, h2⟩
    · exact .inl (UInt8.lt_trans h1 h2)
    · exact .inl h1
    · exact .inl h2
    · exact .inr ⟨rfl, bl_trans h1 h2⟩
theorem less_irrefl (a : Ref) : lessB a a = false := by simp [lessB, bl_irrefl]
theorem less_trans {a b c : Ref} (h1 : lessB a b = true) (h2 : lessB b c = true) : lessB a c = true := by
  simp only [lessB, Bool.or_eq_true, Bool.and_eq_true, decide_eq_true_eq] at h1 h2 ⊢
  rcases h1 with h1 | ⟨e1, h1⟩ <;> rcases h2 with h2 | ⟨e2, h2⟩
  · exact .inl (bl_trans h1 h2)
  · exact .inl (by rw [← e2]; exact h1)
  · exact .inl (by rw [e1]; exact h2)
  · exact .inr ⟨e1.trans e2, bl_trans h1 h2⟩
theorem valid_len {d : List Rec} (h : validB d = true) : d.length ≤ 200 := by
  simp only [validB, Bool.and_eq_true] at h
  have := h.1
  simp at this
  omega
theorem sorted {d : List Rec} (h : validB d = true) : ∀ j, j < d.length → ∀ i, i < j → lessB (d.getD i zeroR).ref (d.getD j zeroR).ref = true := by
  simp only [validB, Bool.and_eq_true] at h
  have hall := allB_true.1 h.2
  intro j
  induction j with
  | zero => intro _ i hi; omega
  | succ j ih =>
    intro hj i hi
    have h1 := hall (j + 1) hj
    simp only [okAtR, Bool.and_eq_true, Bool.not_eq_true', Bool.and_eq_false_iff] at h1
    have h2 : lessB (d.getD j zeroR).ref (d.getD (j + 1) zeroR).ref = true := by
      rcases h1.2 with h1 | h1
      · simp at h1
      · simpa using h1
    rcases Nat.lt_succ_iff_lt_or_eq.1 hi with hi | rfl
    · exact less_trans (ih (by omega) i hi) h2
    · exact h2
theorem idx_some {d : List Rec} {r : Ref} {i : Nat} (h : idxO d r = some i) : ∃ hi : i < d.length, d[i].ref = r := by
  obtain ⟨h1, h2, _⟩ := List.findIdx?_eq_some_iff_getElem.1 h
  exact ⟨h1, refEq_iff.1 h2⟩
def kOf (d : List Rec) (r : Ref) : Nat := d.findIdx fun x => !lessB x.ref r
theorem kOf_found {d : List Rec} {r : Ref} {i : Nat} (hv : validB d = true) (h : idxO d r = some i) : kOf d r = i := by
  obtain ⟨hi, hr⟩ := idx_some h
  refine (List.findIdx_eq hi).2 ⟨by simp [hr, less_irrefl], fun j hj => ?_⟩
  have := sorted hv i hi j hj
  rw [List.getD_eq_getElem?_getD, List.getD_eq_getElem?_getD, List.getElem?_eq_getElem hi, List.getElem?_eq_getElem (by omega : j < d.length)] at this
  simp only [Option.getD_some, hr] at this
  simp [this]
theorem kOf_le (d : List Rec) (r : Ref) : kOf d r ≤ d.length := List.findIdx_le_length
/-- the first index of a record is the only one -/
theorem idx_only {d : List Rec} (hv : validB d = true) {i : Nat} (hi : i < d.length) : idxO d d[i].ref = some i := by
  refine List.findIdx?_eq_some_iff_getElem.2 ⟨hi, refEq_iff.2 rfl, fun j hj hc => ?_⟩
  have := sorted hv i hi j hj
  rw [List.getD_eq_getElem?_getD, List.getD_eq_getElem?_getD, List.getElem?_eq_getElem hi, List.getElem?_eq_getElem (by omega : j < d.length)] at this
  simp only [Option.getD_some, refEq_iff.1 hc, less_irrefl] at this
  cases this
theorem dle_tup2 {a b a' b' : DV} (h1 : dle a a') (h2 : dle b b') : dle (.tup [a, b]) (.tup [a', b']) := by
  refine .tup rfl (fun i c d hc hd => ?_)
  match i, hc, hd with
  | 0, hc, hd => simp at hc hd; subst hc; subst hd; exact h1
  | 1, hc, hd => simp at hc hd; subst hc; subst hd; exact h2
  | _ + 2, hc, _ => simp at hc
def dropAt (d : List Rec) (r : Ref) : Nat := bif (findR d r).2 then kOf d r + 1 else kOf d r
def applyR (d : List Rec) (v : View) (c : Cmd) : List Rec × Int :=
  bif !validB d || !viewB v || !cmdB c then ([], 1)
  else bif !decide (checkE d.length v c (findR d c.ref).1 (findR d c.ref).2 = 0) then ([], checkE d.length v c (findR d c.ref).1 (findR d c.ref).2)
  else (d.take (kOf d c.ref) ++ [chgR (findR d c.ref).1 c] ++ d.drop (dropAt d c.ref), 0)
theorem fits {n : Nat} (h : n ≤ 402) : fitsIn tt 36 n := by
  have e : (tinfo tt 36).bytes = 56 := by kernel_rfl
  refine ⟨?_, ?_⟩
  · rw [e]; omega
  · simp only [maxLen]; omega
set_option maxHeartbeats 1000000 in
theorem c_directory_Apply (d : List Rec) (hl : d.length ≤ maxLen) (v : View) (hv : v.mem.length ≤ maxLen) (c : Cmd) : Ret Try.prog 9 [.lst 5 (d.map recE) false, .agg (viewE v), .agg (cmdE c)] (.tup [.lst 5 ((applyR d v c).1.map recE) false, .v (.int .i64 (applyR d v c).2)]) := by
  have hl' : d.length ≤ 9223372036854775807 := hl
  refine ret_of_body (fn := Try.f9) (c := Try.f9.body.getD .skip) hm hT (by kernel_rfl) Try.func9 (by kernel_rfl) (by kernel_rfl) (by kernel_rfl) (by kernel_rfl) ?_
  repeat' ((conv => whnf); first | refine And.intro (fun h => h) ?_ | refine dcond_t (by assumption) ?_ | refine dcond_f (by assumption) ?_ | (refine dcond_intro ?_ ?_ <;> intro h) | exact .refl | refine And.intro (by kernel_rfl) ?_ | refine And.intro ⟨fun h => h, fun h => h⟩ ?_ | refine .inl ⟨_, _, DleAll_refl _, c_directory_Valid _ hl, ?_⟩ | refine ⟨_, _, DleAll_refl _, fun _ => c_directory_Valid _ hl, ?_⟩ | refine ⟨_, _, DleAll_refl _, c_directory_Valid _ hl, ?_⟩ | refine .inl ⟨_, _, DleAll_refl _, c_view_Valid _ hv, ?_⟩ | refine ⟨_, _, DleAll_refl _, fun _ => c_view_Valid _ hv, ?_⟩ | refine ⟨_, _, DleAll_refl _, c_view_Valid _ hv, ?_⟩ | refine .inl ⟨_, _, DleAll_refl _, c_directory_ValidCommand _, ?_⟩ | refine ⟨_, _, DleAll_refl _, fun _ => c_directory_ValidCommand _, ?_⟩ | refine ⟨_, _, DleAll_refl _, c_directory_ValidCommand _, ?_⟩ | refine .inl ⟨_, _, DleAll_refl _, c_directory_Find _ hl _, ?_⟩ | refine ⟨_, _, DleAll_refl _, fun _ => c_directory_Find _ hl _, ?_⟩ | refine ⟨_, _, DleAll_refl _, c_directory_Find _ hl _, ?_⟩ | refine .inl ⟨_, _, DleAll_refl _, c_directory_check _ _ hv _ _ _, ?_⟩ | refine ⟨_, _, DleAll_refl _, fun _ => c_directory_check _ _ hv _ _ _, ?_⟩ | refine ⟨_, _, DleAll_refl _, c_directory_check _ _ hv _ _ _, ?_⟩ | refine Exists.intro false ?_ | (refine And.intro ?_ ?_; focus (simp; done)) | fail)
  · simp only [applyR, h, cond_true]
    exact dle_tup2 .nl .refl
  · rename_i h0
    simp only [applyR, h, h0, cond_true, cond_false]
    exact dle_tup2 .nl .refl
  · rename_i h0
    have hval : validB d = true := by
      cases hq : validB d with
      | true => rfl
      | false => simp [hq] at h0
    have hlen := valid_len hval
    have hres : applyR d v c = (d.take (kOf d c.ref) ++ [chgR (findR d c.ref).1 c] ++ d.drop (dropAt d c.ref), 0) := by
      simp only [applyR, h, h0, cond_false]
    rw [hres]
    clear h0 h hres
    conv => whnf
    refine ⟨Nat, fun i => ⟨[(0, .lst 5 (d.map recE) false), (5, .lp 1 0), (8, .lp 2 0), (9, .v (.bool (findR d c.ref).2)), (11, i64 i)], [.cells 25 (viewE v), .cells 29 (cmdE c), .cells 36 (recE (findR d c.ref).1)]⟩, fun i => i ≤ d.length ∧ ∀ j (hj : j < d.length), j < i → lessB d[j].ref c.ref = true, fun i => d.length - i, [], ⟨0, ⟨Nat.zero_le _, by omega⟩, ?_⟩, ?_⟩
    · exact ⟨by repeat' ((conv => whnf); first | exact trivial | refine And.intro (by (conv => arg 1; whnf); first | (with_reducible exact .refl) | exact dle_int (wrap_succ (by omega)) | exact .refl) ?_), by repeat' ((conv => whnf); first | exact trivial | refine And.intro ?_ ?_ | exact .refl), rfl⟩
    · intro i ⟨hi, hall⟩
      repeat' ((conv => whnf); first | refine And.intro (fun h => h) ?_ | refine dcond_t (by assumption) ?_ | refine dcond_f (by assumption) ?_ | (refine dcond_intro ?_ ?_ <;> intro h) | exact .refl | refine And.intro (by kernel_rfl) ?_ | refine And.intro ⟨fun h => h, fun h => h⟩ ?_ | refine .inl ⟨_, _, DleAll_refl _, c_directory_Less _ _, ?_⟩ | refine ⟨_, _, DleAll_refl _, fun _ => c_directory_Less _ _, ?_⟩ | refine ⟨_, _, DleAll_refl _, c_directory_Less _ _, ?_⟩ | refine ⟨i, recE (d.getD i zeroR), And.intro ⟨⟨fun h => h, fun h => h⟩, fun hg => ⟨rfl, ?gi⟩⟩ ?_⟩ | refine Exists.intro false ?_ | (refine And.intro ?_ ?_; focus (simp; done)) | fail)
      case gi =>
        have hlt : i < d.length := by simpa using hg
        simp [hlt]
      · conv => whnf
        have hlt : i < d.length := by
          simp only [Bool.and_eq_true] at h
          simpa using h.1
        have hg : d.getD i zeroR = d[i] := by simp [hlt]
        refine ⟨i + 1, ⟨hlt, fun j hj hji => ?_⟩, by simp only []; omega, ?_⟩
        · rcases Nat.lt_succ_iff_lt_or_eq.1 hji with hji | rfl
          · exact hall j hj hji
          · simp only [hg, Bool.and_eq_true] at h
            exact h.2
        · exact ⟨by repeat' ((conv => whnf); first | exact trivial | refine And.intro (by (conv => arg 1; whnf); first | (with_reducible exact .refl) | exact dle_int (wrap_succ (by omega)) | exact .refl) ?_), by repeat' ((conv => whnf); first | exact trivial | refine And.intro ?_ ?_ | exact .refl), rfl⟩
      · have hk : kOf d c.ref = i := by
          by_cases hlt : i < d.length
          · refine (List.findIdx_eq hlt).2 ⟨?_, fun j hj => by simp [hall j (by omega) hj]⟩
            have hg : d.getD i zeroR = d[i] := by simp [hlt]
            simp [hlt] at h
            simp [h]
          · have : i = d.length := by omega
            subst this
            refine List.findIdx_eq_length.2 (fun x hx => ?_)
            obtain ⟨j, hj, rfl⟩ := List.getElem_of_mem hx
            simp [hall j hj (by omega)]
        clear h
        have hwl : IntKind.i64.wrap (((d.map recE).length : Int) + 1) = ((d.length + 1 : Nat) : Int) := by
          rw [List.length_map]
          exact wrap_succ (by omega)
        have hby : (d.length + 1) * 56 ≤ 140737488355328 := by omega
        have hmx : d.length + 1 ≤ maxLen := by simp only [maxLen]; omega
        have hil : i ≤ (d.map recE).length := by simpa using hi
        have hfi : (findR d c.ref).2 = true → i + 1 ≤ (d.map recE).length := by
          intro hf
          unfold findR at hf
          split at hf
          · rename_i i0 h0
            have := kOf_found hval h0
            obtain ⟨h1, _⟩ := idx_some h0
            simp only [List.length_map]
            omega
          · cases hf
        have hf1 : fitsIn tt 36 (((((d.map recE).take i).drop 0).take (List.replicate i (tinfo tt 36).zero).length ++ (List.replicate i (tinfo tt 36).zero).drop (((d.map recE).take i).drop 0).length).length + 1) := by
          exact fits (by simp; omega)
        have hf2 : ∀ l, fitsIn tt 36 (((((d.map recE).take i).drop 0).take (List.replicate i (tinfo tt 36).zero).length ++ (List.replicate i (tinfo tt 36).zero).drop (((d.map recE).take i).drop 0).length ++ [recE (chgR (findR d c.ref).1 c)]).length + ((d.map recE).drop l).length) := by
          intro l
          exact fits (by simp; omega)
        repeat' ((conv => whnf); first | refine And.intro (fun h => h) ?_ | refine dcond_t (by assumption) ?_ | refine dcond_f (by assumption) ?_ | (refine dcond_intro ?_ ?_ <;> intro h) | exact .refl | refine And.intro (by kernel_rfl) ?_ | refine And.intro ⟨fun h => h, fun h => h⟩ ?_ | refine ⟨i, d.length + 1, rfl, hwl, by omega, hby, hmx, ?_⟩ | refine ⟨0, i, And.intro ⟨rfl, ⟨_, rfl⟩, Nat.zero_le _, hil⟩ ?_⟩ | refine .inl ⟨_, _, DleAll_refl _, c_directory_changed _ _, ?_⟩ | refine ⟨_, _, DleAll_refl _, fun _ => c_directory_changed _ _, ?_⟩ | refine ⟨_, _, DleAll_refl _, c_directory_changed _ _, ?_⟩ | refine And.intro hf1 ?_ | refine Exists.intro false ?_ | (refine And.intro ?_ ?_; focus (simp; done)) | fail)
        · have hf := h
          clear h
          conv => whnf
          refine ⟨i + 1, And.intro ⟨⟨.i64, congrArg (fun z => DV.v (.int .i64 z)) (wrap_succ (by omega))⟩, hfi hf⟩ ?_⟩
          repeat' ((conv => whnf); first | refine And.intro (fun h => h) ?_ | refine dcond_t (by assumption) ?_ | refine dcond_f (by assumption) ?_ | (refine dcond_intro ?_ ?_ <;> intro h) | exact .refl | refine And.intro (by kernel_rfl) ?_ | refine And.intro ⟨fun h => h, fun h => h⟩ ?_ | refine And.intro (hf2 _) ?_ | refine Exists.intro false ?_ | (refine And.intro ?_ ?_; focus (simp; done)) | fail)
          refine dle_tup2 (dle_lst ?_) .refl
          have : dropAt d c.ref = i + 1 := by simp [dropAt, hf, hk]
          rw [this, hk]
          simp
          rw [show i - min i d.length = 0 by omega, List.take_take, Nat.min_self]
          rfl
        · have hf := h
          clear h
          conv => whnf
          refine ⟨i, And.intro ⟨⟨_, rfl⟩, hil⟩ ?_⟩
          repeat' ((conv => whnf); first | refine And.intro (fun h => h) ?_ | refine dcond_t (by assumption) ?_ | refine dcond_f (by assumption) ?_ | (refine dcond_intro ?_ ?_ <;> intro h) | exact .refl | refine And.intro (by kernel_rfl) ?_ | refine And.intro ⟨fun h => h, fun h => h⟩ ?_ | refine And.intro (hf2 _) ?_ | refine Exists.intro false ?_ | (refine And.intro ?_ ?_; focus (simp; done)) | fail)
          refine dle_tup2 (dle_lst ?_) .refl
          have : dropAt d c.ref = i := by simp [dropAt, hf, hk]
          rw [this, hk]
          simp
          rw [show i - min i d.length = 0 by omega, List.take_take, Nat.min_self]
          rfl
def bigAt (d : List Rec) (i : Nat) : Bool := decide (100 < ((d.getD i zeroR).ref.ty.size : Int)) || decide (100 < ((d.getD i zeroR).ref.key.size : Int))
def smallB (d : List Rec) : Bool := allB (fun i => !bigAt d i) d.length && decide ((d.length : Int) ≤ 260)
theorem c_law14_Small (d : List Rec) (hl : d.length ≤ maxLen) : Ret Try.prog 8 [.lst 5 (d.map recE) false] (.v (.bool (smallB d))) := by
  have hl' : d.length ≤ 9223372036854775807 := hl
  refine ret_of_body (fn := Try.f8) (c := Try.f8.body.getD .skip) hm hT (by kernel_rfl) Try.func8 (by kernel_rfl) (by kernel_rfl) (by kernel_rfl) (by kernel_rfl) ?_
  repeat' ((conv => whnf); first | refine And.intro (fun h => h) ?_ | refine dcond_t (by assumption) ?_ | refine dcond_f (by assumption) ?_ | (refine dcond_intro ?_ ?_ <;> intro h) | exact .refl | refine And.intro (by kernel_rfl) ?_ | refine And.intro ⟨fun h => h, fun h => h⟩ ?_ | refine Exists.intro false ?_ | (refine And.intro ?_ ?_; focus (simp; done)) | fail)
  refine ⟨Nat, fun i => ⟨[(0, .lst 5 (d.map recE) false), (3, i64 i)], []⟩, fun i => i ≤ d.length ∧ ∀ j, j < i → (!bigAt d j) = true, fun i => d.length - i, [], ⟨0, ⟨Nat.zero_le _, by omega⟩, ?_⟩, ?_⟩
  · exact ⟨by repeat' ((conv => whnf); first | exact trivial | refine And.intro (by (conv => arg 1; whnf); first | (with_reducible exact .refl) | exact dle_int (wrap_succ (by omega)) | exact .refl) ?_), by repeat' ((conv => whnf); first | exact trivial | refine And.intro ?_ ?_ | exact .refl), rfl⟩
  · intro i ⟨hi, hall⟩
    repeat' ((conv => whnf); first | refine And.intro (fun h => h) ?_ | refine dcond_t (by assumption) ?_ | refine dcond_f (by assumption) ?_ | (refine dcond_intro ?_ ?_ <;> intro h) | exact .refl | refine And.intro (by kernel_rfl) ?_ | refine And.intro ⟨fun h => h, fun h => h⟩ ?_ | refine Exists.intro false ?_ | (refine And.intro ?_ ?_; focus (simp; done)) | fail)
    · have hlt : i < d.length := by simpa using h
      clear h
      have hg : d.getD i zeroR = d[i] := by simp [hlt]
      repeat' ((conv => whnf); first | refine And.intro (fun h => h) ?_ | refine dcond_t (by assumption) ?_ | refine dcond_f (by assumption) ?_ | (refine dcond_intro ?_ ?_ <;> intro h) | exact .refl | refine And.intro (by kernel_rfl) ?_ | refine And.intro ⟨fun h => h, fun h => h⟩ ?_ | refine ⟨_, _, And.intro ⟨rfl, get_map hlt⟩ ?_⟩ | refine ⟨i, recE (d[i]'hlt), And.intro ⟨⟨fun h => h, fun h => h⟩, fun hg => ⟨rfl, get_map hlt⟩⟩ ?_⟩ | refine Exists.intro false ?_ | (refine And.intro ?_ ?_; focus (simp; done)) | fail)
      · refine dle_bool ?_
        have : (!bigAt d i) = false := by simp only [bigAt, hg, h]; rfl
        rw [smallB, allB_false (p := fun i => !bigAt d i) hlt this, Bool.false_and]
      · conv => whnf
        refine ⟨i + 1, ⟨hlt, fun j hj => ?_⟩, by simp only []; omega, ?_⟩
        · rcases Nat.lt_succ_iff_lt_or_eq.1 hj with hj | rfl
          · exact hall j hj
          · simp only [bigAt, hg, h]; rfl
        · exact ⟨by repeat' ((conv => whnf); first | exact trivial | refine And.intro (by (conv => arg 1; whnf); first | (with_reducible exact .refl) | exact dle_int (wrap_succ (by omega)) | exact .refl) ?_), by repeat' ((conv => whnf); first | exact trivial | refine And.intro ?_ ?_ | exact .refl), rfl⟩
    · have hge : ¬ i < d.length := by simpa using h
      conv => whnf
      refine dle_bool ?_
      rw [smallB, allB_true.2 (fun j hj => hall j (by omega)), List.length_map]
      rfl
def fenceE (d : List Rec) (r : Ref) (m ep : Int) : Int :=
  bif !validB d || !refB r then 1
  else bif !(findR d r).2 || decide ((findR d r).1.mem = 0) then 6
  else bif !decide ((findR d r).1.mem = m) then 10
  else bif !decide ((findR d r).1.ep = ep) then 8
  else 0
theorem c_directory_Fence (d : List Rec) (hl : d.length ≤ maxLen) (r : Ref) (m ep : Int) : Ret Try.prog 16 [.lst 5 (d.map recE) false, .agg [.v (.string r.ty), .v (.string r.key)], .v (.int .i64 m), .v (.int .i64 ep)] (.v (.int .i64 (fenceE d r m ep))) := by
  refine ret_of_body (fn := Try.f16) (c := Try.f16.body.getD .skip) hm hT (by kernel_rfl) Try.func16 (by kernel_rfl) (by kernel_rfl) (by kernel_rfl) (by kernel_rfl) ?_
  repeat' ((conv => whnf); first | refine And.intro (fun h => h) ?_ | refine dcond_t (by assumption) ?_ | refine dcond_f (by assumption) ?_ | (refine dcond_intro ?_ ?_ <;> intro h) | exact .refl | refine And.intro (by kernel_rfl) ?_ | refine And.intro ⟨fun h => h, fun h => h⟩ ?_ | refine .inl ⟨_, _, DleAll_refl _, c_directory_Find _ hl _, ?_⟩ | refine ⟨_, _, DleAll_refl _, fun _ => c_directory_Find _ hl _, ?_⟩ | refine ⟨_, _, DleAll_refl _, c_directory_Find _ hl _, ?_⟩ | refine .inl ⟨_, _, DleAll_refl _, c_directory_Valid _ hl, ?_⟩ | refine ⟨_, _, DleAll_refl _, fun _ => c_directory_Valid _ hl, ?_⟩ | refine ⟨_, _, DleAll_refl _, c_directory_Valid _ hl, ?_⟩ | refine .inl ⟨_, _, DleAll_refl _, c_directory_ValidRef _, ?_⟩ | refine ⟨_, _, DleAll_refl _, fun _ => c_directory_ValidRef _, ?_⟩ | refine ⟨_, _, DleAll_refl _, c_directory_ValidRef _, ?_⟩ | refine Exists.intro false ?_ | (refine And.intro ?_ ?_; focus (simp; done)) | fail)
  all_goals (conv => whnf)
  all_goals refine dle_int ?_
  all_goals simp only [fenceE, *]
  all_goals rfl
def V0 : View := ⟨0, [3, 5]⟩
def R0 : Ref := ⟨⟨#[65, 99, 99, 111, 117, 110, 116]⟩, ⟨#[97]⟩⟩
theorem c_law14_awake : Ret Try.prog 7 [] (.v (.bool true)) := by
  refine ret_of_body (fn := Try.f7) (c := Try.f7.body.getD .skip) hm hT (by kernel_rfl) Try.func7 (by kernel_rfl) (by kernel_rfl) (by kernel_rfl) (by kernel_rfl) ?_
  repeat' ((conv => whnf); first | refine And.intro (fun h => h) ?_ | refine dcond_t (by assumption) ?_ | refine dcond_f (by assumption) ?_ | (refine dcond_intro ?_ ?_ <;> intro h) | exact .refl | refine And.intro (by kernel_rfl) ?_ | refine And.intro ⟨fun h => h, fun h => h⟩ ?_ | refine Exists.intro false ?_ | (refine And.intro ?_ ?_; focus (simp; done)) | fail)
  all_goals (conv => whnf)
  refine .inl ⟨[.lst 5 (([] : List Rec).map recE) false, .agg (viewE V0), .agg (cmdE ⟨1, R0, 3, 0⟩)], _, ⟨.nl, .refl, .refl, trivial⟩, c_directory_Apply [] (by decide +kernel) V0 (by decide +kernel) ⟨1, R0, 3, 0⟩, ?_⟩
  repeat' ((conv => whnf); first | refine And.intro (fun h => h) ?_ | refine dcond_t (by assumption) ?_ | refine dcond_f (by assumption) ?_ | (refine dcond_intro ?_ ?_ <;> intro h) | exact .refl | refine And.intro (by kernel_rfl) ?_ | refine And.intro ⟨fun h => h, fun h => h⟩ ?_ | refine .inl ⟨[.lst 5 (List.map recE _) false, .agg (viewE V0), .agg (cmdE ⟨_, R0, _, _⟩)], _, ⟨.refl, .refl, .refl, trivial⟩, c_directory_Apply _ (by decide +kernel) V0 (by decide +kernel) ⟨_, R0, _, _⟩, ?_⟩ | refine .inl ⟨_, _, DleAll_refl _, c_directory_Find _ (by decide +kernel) R0, ?_⟩ | refine ⟨_, _, DleAll_refl _, fun _ => c_directory_Find _ (by decide +kernel) R0, ?_⟩ | refine ⟨_, _, DleAll_refl _, c_directory_Find _ (by decide +kernel) R0, ?_⟩ | refine .inl ⟨_, _, DleAll_refl _, c_directory_Fence _ (by decide +kernel) R0 _ _, ?_⟩ | refine ⟨_, _, DleAll_refl _, fun _ => c_directory_Fence _ (by decide +kernel) R0 _ _, ?_⟩ | refine ⟨_, _, DleAll_refl _, c_directory_Fence _ (by decide +kernel) R0 _ _, ?_⟩ | refine Exists.intro false ?_ | (refine And.intro ?_ ?_; focus (simp; done)) | fail)
  all_goals (conv => whnf)
  refine dle_bool ?_
  kernel_rfl
theorem apply_err {d : List Rec} {v : View} {c : Cmd} (h : (applyR d v c).2 ≠ 0) : (applyR d v c).1 = [] := by
  unfold applyR at h ⊢
  cases h1 : (!validB d || !viewB v || !cmdB c) with
  | true => simp
  | false =>
    cases h2 : (!decide (checkE d.length v c (findR d c.ref).1 (findR d c.ref).2 = 0)) with
    | true => simp
    | false => simp [h1, h2] at h
theorem apply_ok {d : List Rec} {v : View} {c : Cmd} (h : (applyR d v c).2 = 0) : validB d = true ∧ (applyR d v c).1 = d.take (kOf d c.ref) ++ [chgR (findR d c.ref).1 c] ++ d.drop (dropAt d c.ref) := by
  unfold applyR at h ⊢
  cases h1 : (!validB d || !viewB v || !cmdB c) with
  | true => simp [h1] at h
  | false =>
    cases h2 : (!decide (checkE d.length v c (findR d c.ref).1 (findR d c.ref).2 = 0)) with
    | true =>
      simp only [h1, h2, cond_true, cond_false] at h
      simp [h] at h2
    | false =>
      refine ⟨?_, by simp⟩
      cases hv : validB d with
      | true => rfl
      | false => simp [hv] at h1
theorem apply_len (d : List Rec) (v : View) (c : Cmd) : (applyR d v c).1.length ≤ maxLen := by
  by_cases h : (applyR d v c).2 = 0
  · obtain ⟨h1, h2⟩ := apply_ok h
    have := valid_len h1
    rw [h2]
    simp [maxLen]
    omega
  · rw [apply_err h]
    simp
theorem findR_only {x : List Rec} {y : Rec} {q : Ref} (hy : y ∈ x) (hq : y.ref = q) (h : ∀ z ∈ x, z.ref = q → z = y) : findR x q = (y, true) := by
  unfold findR
  cases hi : idxO x q with
  | none =>
    have := List.findIdx?_eq_none_iff.1 hi y hy
    rw [refEq_iff.2 hq] at this
    cases this
  | some i =>
    obtain ⟨h1, h2⟩ := idx_some hi
    have := h _ (List.getElem_mem h1) h2
    simp [h1, this]
theorem chg_ref (r : Rec) (c : Cmd) : (chgR r c).ref = c.ref := by
  unfold chgR
  cases decide (c.kind = 1) <;> cases decide (c.kind = 2) <;> cases decide (c.kind = 3) <;> cases decide (c.kind = 4) <;> cases decide (c.kind = 5) <;> rfl
theorem chg_ep {r : Rec} (c : Cmd) (h1 : 1 ≤ r.ep) (h2 : r.ep ≤ 1099511627776) : r.ep ≤ (chgR r c).ep := by
  have hw : IntKind.i64.wrap (r.ep + 1) = r.ep + 1 := wrap_i64 (by omega) (by omega)
  unfold chgR
  cases decide (c.kind = 1) <;> cases decide (c.kind = 2) <;> cases decide (c.kind = 3) <;> cases decide (c.kind = 4) <;> cases decide (c.kind = 5) <;> simp [hw] <;> omega
theorem one_of {d : List Rec} (hv : validB d = true) {y z : Rec} (hy : y ∈ d) (hz : z ∈ d) (h : y.ref = z.ref) : y = z := by
  obtain ⟨i, hi, rfl⟩ := List.getElem_of_mem hy
  obtain ⟨j, hj, rfl⟩ := List.getElem_of_mem hz
  have h1 := idx_only hv hi
  have h2 := idx_only hv hj
  rw [h, h2] at h1
  cases h1
  rfl
theorem ep_of {d : List Rec} (hv : validB d = true) {y : Rec} (hy : y ∈ d) : 1 ≤ y.ep ∧ y.ep ≤ 1099511627776 := by
  obtain ⟨i, hi, rfl⟩ := List.getElem_of_mem hy
  simp only [validB, Bool.and_eq_true] at hv
  have h := allB_true.1 hv.2 i hi
  have hg : d.getD i zeroR = d[i] := by simp [hi]
  simp only [okAtR, hg, recOk, numB, Bool.and_eq_true, decide_eq_true_eq] at h
  exact h.1.2.1
theorem others_same {d : List Rec} {v : View} {c : Cmd} {i : Nat} (hi : i < d.length) (hok : (applyR d v c).2 = 0) (he : d[i].ref = c.ref) : ∃ y, findR (applyR d v c).1 d[i].ref = (y, true) ∧ d[i].ep ≤ y.ep := by
  obtain ⟨hv, hx⟩ := apply_ok hok
  have hidx : idxO d c.ref = some i := by rw [← he]; exact idx_only hv hi
  have hk := kOf_found hv hidx
  have hf : findR d c.ref = (d[i], true) := by simp [findR, hidx, hi]
  have hd : dropAt d c.ref = i + 1 := by simp [dropAt, hf, hk]
  rw [hx, hf, hk, hd]
  refine ⟨chgR d[i] c, findR_only (by simp) (by rw [chg_ref, he]) (fun z hz hr => ?_), ?_⟩
  · have no : ∀ j (hj : j < d.length), d[j].ref = d[i].ref → j = i := fun j hj h => by
      have h1 := idx_only hv hj
      rw [h, idx_only hv hi] at h1
      cases h1; rfl
    simp only [List.mem_append, List.mem_singleton] at hz
    rcases hz with (hz | hz) | hz
    · obtain ⟨j, hj, rfl⟩ := List.getElem_of_mem hz
      simp only [List.length_take] at hj
      rw [List.getElem_take] at hr
      have := no j (by omega) hr
      omega
    · exact hz
    · obtain ⟨j, hj, rfl⟩ := List.getElem_of_mem hz
      simp only [List.length_drop] at hj
      rw [List.getElem_drop] at hr
      have := no (i + 1 + j) (by omega) hr
      omega
  · have := ep_of hv (List.getElem_mem hi)
    exact chg_ep c this.1 this.2
theorem others_else {d : List Rec} {v : View} {c : Cmd} {i : Nat} (hi : i < d.length) (hok : (applyR d v c).2 = 0) (he : d[i].ref ≠ c.ref) :
    findR (applyR d v c).1 d[i].ref = (d[i], true) ∧ d.length ≤ (applyR d v c).1.length ∧ (applyR d v c).1.length ≤ d.length + 1 := by
  obtain ⟨hv, hx⟩ := apply_ok hok
  rw [hx]
  have hkl := kOf_le d c.ref
  have hcase : (∃ j, ∃ hj : j < d.length, d[j].ref = c.ref ∧ kOf d c.ref = j ∧ dropAt d c.ref = j + 1) ∨ dropAt d c.ref = kOf d c.ref := by
    cases hidx : idxO d c.ref with
    | none => right; simp [dropAt, findR, hidx]
    | some j =>
      left
      obtain ⟨hj, hr⟩ := idx_some hidx
      have hk := kOf_found hv hidx
      exact ⟨j, hj, hr, hk, by simp [dropAt, findR, hidx, hk]⟩
  have hmem : d[i] ∈ d.take (kOf d c.ref) ++ [chgR (findR d c.ref).1 c] ++ d.drop (dropAt d c.ref) := by
    simp only [List.mem_append]
    by_cases hlt : i < kOf d c.ref
    · exact .inl (.inl (List.mem_iff_getElem.2 ⟨i, by simp; omega, by simp⟩))
    · right
      have hge : dropAt d c.ref ≤ i := by
        rcases hcase with ⟨j, hj, hr, hk, hd⟩ | hd
        · have : i ≠ j := fun e => by subst e; exact he hr
          omega
        · omega
      exact List.mem_iff_getElem.2 ⟨i - dropAt d c.ref, by simp; omega, by simp [show dropAt d c.ref + (i - dropAt d c.ref) = i by omega]⟩
  refine ⟨findR_only hmem rfl (fun z hz hr => ?_), ?_, ?_⟩
  · simp only [List.mem_append, List.mem_singleton] at hz
    rcases hz with (hz | hz) | hz
    · exact one_of hv (List.mem_of_mem_take hz) (List.getElem_mem hi) hr
    · exact absurd (by rw [← hr, hz, chg_ref]) he
    · exact one_of hv (List.mem_of_mem_drop hz) (List.getElem_mem hi) hr
  · simp
    rcases hcase with ⟨j, hj, hr, hk, hd⟩ | hd <;> omega
  · simp
    rcases hcase with ⟨j, hj, hr, hk, hd⟩ | hd <;> omega
def actR (n : Nat) : Ref := ⟨⟨#[84]⟩, ⟨#[UInt8.ofNat (97 + n % 4)]⟩⟩
theorem c_law14_actor (n : Nat) (hn : n ≤ 255) : Ret Try.prog 12 [.v (.int .u8 n)] (.agg (refE (actR n))) := by
  have h4 : n % 4 < 4 := Nat.mod_lt _ (by omega)
  have hw : IntKind.u8.wrap (97 + Int.tmod (n : Int) 4) = ((UInt8.ofNat (97 + n % 4)).toNat : Int) := by
    have : Int.tmod (n : Int) 4 = ((n % 4 : Nat) : Int) := rfl
    rw [this, wrap_u8 (by omega) (by omega)]
    simp
    omega
  refine ret_of_body (fn := Try.f12) (c := Try.f12.body.getD .skip) hm hT (by kernel_rfl) Try.func12 (by kernel_rfl) (by kernel_rfl) (by kernel_rfl) (by kernel_rfl) ?_
  repeat' ((conv => whnf); first | refine And.intro (fun h => h) ?_ | refine dcond_t (by assumption) ?_ | refine dcond_f (by assumption) ?_ | (refine dcond_intro ?_ ?_ <;> intro h) | exact .refl | refine And.intro (by kernel_rfl) ?_ | refine And.intro ⟨fun h => h, fun h => h⟩ ?_ | refine Exists.intro false ?_ | (refine And.intro ?_ ?_; focus (simp; done)) | fail)
  conv => whnf
  refine ⟨[UInt8.ofNat (97 + n % 4)], And.intro ?_ ?_⟩
  · show [[DV.v (.int .u8 _)]] = [[DV.v (.int .u8 _)]]
    rw [hw]
  · repeat' ((conv => whnf); first | refine And.intro (fun h => h) ?_ | refine dcond_t (by assumption) ?_ | refine dcond_f (by assumption) ?_ | (refine dcond_intro ?_ ?_ <;> intro h) | exact .refl | refine And.intro (by kernel_rfl) ?_ | refine And.intro ⟨fun h => h, fun h => h⟩ ?_ | refine Exists.intro false ?_ | (refine And.intro ?_ ?_; focus (simp; done)) | fail)
def recEq (a b : Rec) : Bool := decide (a.ref.ty = b.ref.ty) && (decide (a.ref.key = b.ref.key) && (decide (a.mem = b.mem) && (decide (a.ep = b.ep) && (decide (a.tgt = b.tgt) && true))))
def sameB (a b : List Rec) : Bool := decide ((a.length : Int) = (b.length : Int)) && allB (fun i => recEq (a.getD i zeroR) (b.getD i zeroR)) a.length
theorem c_ref14_Same (a b : List Rec) (ha : a.length ≤ maxLen) : Ret Try.prog 18 [.lst 5 (a.map recE) false, .lst 5 (b.map recE) false] (.v (.bool (sameB a b))) := by
  have hl' : a.length ≤ 9223372036854775807 := ha
  refine ret_of_body (fn := Try.f18) (c := Try.f18.body.getD .skip) hm hT (by kernel_rfl) Try.func18 (by kernel_rfl) (by kernel_rfl) (by kernel_rfl) (by kernel_rfl) ?_
  repeat' ((conv => whnf); first | refine And.intro (fun h => h) ?_ | refine dcond_t (by assumption) ?_ | refine dcond_f (by assumption) ?_ | (refine dcond_intro ?_ ?_ <;> intro h) | exact .refl | refine And.intro (by kernel_rfl) ?_ | refine And.intro ⟨fun h => h, fun h => h⟩ ?_ | refine Exists.intro false ?_ | (refine And.intro ?_ ?_; focus (simp; done)) | fail)
  · refine dle_bool ?_
    simp only [List.length_map] at h
    have h : decide ((a.length : Int) = (b.length : Int)) = false := by simpa using h
    simp only [sameB, h, Bool.false_and]
  · have h0 : a.length = b.length := by
      simp at h
      omega
    clear h
    conv => whnf
    refine ⟨Nat, fun i => ⟨[(0, .lst 5 (a.map recE) false), (1, .lst 5 (b.map recE) false), (5, i64 i)], []⟩, fun i => i ≤ a.length ∧ ∀ j, j < i → recEq (a.getD j zeroR) (b.getD j zeroR) = true, fun i => a.length - i, [], ⟨0, ⟨Nat.zero_le _, by omega⟩, ?_⟩, ?_⟩
    · exact ⟨by repeat' ((conv => whnf); first | exact trivial | refine And.intro (by (conv => arg 1; whnf); first | (with_reducible exact .refl) | exact dle_int (wrap_succ (by omega)) | exact .refl) ?_), by repeat' ((conv => whnf); first | exact trivial | refine And.intro ?_ ?_ | exact .refl), rfl⟩
    · intro i ⟨hi, hall⟩
      repeat' ((conv => whnf); first | refine And.intro (fun h => h) ?_ | refine dcond_t (by assumption) ?_ | refine dcond_f (by assumption) ?_ | (refine dcond_intro ?_ ?_ <;> intro h) | exact .refl | refine And.intro (by kernel_rfl) ?_ | refine And.intro ⟨fun h => h, fun h => h⟩ ?_ | refine Exists.intro false ?_ | (refine And.intro ?_ ?_; focus (simp; done)) | fail)
      · have hlt : i < a.length := by simpa using h
        have hlt2 : i < b.length := by omega
        clear h
        have hg : a.getD i zeroR = a[i] := by simp [hlt]
        have hg2 : b.getD i zeroR = b[i] := by simp [hlt2]
        repeat' ((conv => whnf); first | refine And.intro (fun h => h) ?_ | refine dcond_t (by assumption) ?_ | refine dcond_f (by assumption) ?_ | (refine dcond_intro ?_ ?_ <;> intro h) | exact .refl | refine And.intro (by kernel_rfl) ?_ | refine And.intro ⟨fun h => h, fun h => h⟩ ?_ | refine ⟨_, _, And.intro ⟨rfl, get_map hlt⟩ ?_⟩ | refine ⟨_, _, And.intro ⟨rfl, get_map hlt2⟩ ?_⟩ | refine Exists.intro false ?_ | (refine And.intro ?_ ?_; focus (simp; done)) | fail)
        · refine dle_bool ?_
          have h : (!recEq a[i] b[i]) = true := h
          rw [sameB, allB_false hlt (i := i), Bool.and_false]
          rw [hg, hg2]
          simpa using h
        · conv => whnf
          refine ⟨i + 1, ⟨hlt, fun j hj => ?_⟩, by simp only []; omega, ?_⟩
          · rcases Nat.lt_succ_iff_lt_or_eq.1 hj with hj | rfl
            · exact hall j hj
            · have h : (!recEq a[j] b[j]) = false := h
              rw [hg, hg2]
              simpa using h
          · exact ⟨by repeat' ((conv => whnf); first | exact trivial | refine And.intro (by (conv => arg 1; whnf); first | (with_reducible exact .refl) | exact dle_int (wrap_succ (by omega)) | exact .refl) ?_), by repeat' ((conv => whnf); first | exact trivial | refine And.intro ?_ ?_ | exact .refl), rfl⟩
      · have hge : ¬ i < a.length := by simpa using h
        conv => whnf
        refine dle_bool ?_
        rw [sameB, allB_true.2 (fun j hj => hall j (by omega)), h0]
        simp
def recFix (v : View) (x : Rec) : Rec :=
  let y : Rec := bif !inB v.mem x.mem then ⟨x.ref, 0, x.ep, 0⟩ else x
  bif !inB v.mem y.tgt then ⟨y.ref, y.mem, y.ep, 0⟩ else y
def recoR (d : List Rec) (v : View) : List Rec := bif !validB d || !viewB v then [] else d.map (recFix v)
def esAt (d : List Rec) (v : View) (i : Nat) : List (List DV) := ((d.take i).map (recFix v) ++ d.drop i).map recE
theorem es_step {d : List Rec} {v : View} {i : Nat} (h : i < d.length) : (esAt d v i).set i (recE (recFix v (d[i]'h))) = esAt d v (i + 1) := by
  have e : i = ((d.take i).map (recFix v)).length := by simp; omega
  have e2 : d.drop i = d[i] :: d.drop (i + 1) := List.drop_eq_getElem_cons h
  simp only [esAt]
  rw [← List.map_set, e2]
  congr 1
  rw [List.set_append_right _ _ (by simp only [List.length_map, List.length_take]; omega)]
  simp only [List.length_map, List.length_take, Nat.min_eq_left (Nat.le_of_lt h), Nat.sub_self, List.set_cons_zero]
  rw [List.take_succ_eq_append_getElem h]
  simp only [List.map_append, List.map_cons, List.map_nil, List.append_assoc, List.cons_append, List.nil_append]
theorem es_same {l : List (List DV)} {i : Nat} {x : List DV} (h : l[i]? = some x) : l.set i x = l := by
  obtain ⟨h1, rfl⟩ := List.getElem?_eq_some_iff.1 h
  simp
theorem c_directory_Reconcile (d : List Rec) (hl : d.length ≤ maxLen) (v : View) (hv : v.mem.length ≤ maxLen) : Ret Try.prog 13 [.lst 5 (d.map recE) false, .agg (viewE v)] (.lst 5 ((recoR d v).map recE) false) := by
  have hl' : d.length ≤ 9223372036854775807 := hl
  refine ret_of_body (fn := Try.f13) (c := Try.f13.body.getD .skip) hm hT (by kernel_rfl) Try.func13 (by kernel_rfl) (by kernel_rfl) (by kernel_rfl) (by kernel_rfl) ?_
  repeat' ((conv => whnf); first | refine And.intro (fun h => h) ?_ | refine dcond_t (by assumption) ?_ | refine dcond_f (by assumption) ?_ | (refine dcond_intro ?_ ?_ <;> intro h) | exact .refl | refine And.intro (by kernel_rfl) ?_ | refine And.intro ⟨fun h => h, fun h => h⟩ ?_ | refine .inl ⟨_, _, DleAll_refl _, c_directory_Valid _ hl, ?_⟩ | refine ⟨_, _, DleAll_refl _, fun _ => c_directory_Valid _ hl, ?_⟩ | refine ⟨_, _, DleAll_refl _, c_directory_Valid _ hl, ?_⟩ | refine .inl ⟨_, _, DleAll_refl _, c_view_Valid _ hv, ?_⟩ | refine ⟨_, _, DleAll_refl _, fun _ => c_view_Valid _ hv, ?_⟩ | refine ⟨_, _, DleAll_refl _, c_view_Valid _ hv, ?_⟩ | refine Exists.intro false ?_ | (refine And.intro ?_ ?_; focus (simp; done)) | fail)
  · simp only [recoR, h, cond_true]
    exact .nl
  · have hval : validB d = true := by
      cases hq : validB d with
      | true => rfl
      | false => simp [hq] at h
    have hlen := valid_len hval
    have hres : recoR d v = d.map (recFix v) := by simp only [recoR, h, cond_false]
    rw [hres]
    clear h hres
    have hby : (d.map recE).length * (tinfo tt 36).bytes ≤ 140737488355328 := by
      have e : (tinfo tt 36).bytes = 56 := by kernel_rfl
      rw [e]; simp; omega
    have hmx : (d.map recE).length ≤ maxLen := by simpa using hl
    conv => whnf
    refine ⟨(d.map recE).length, (d.map recE).length, rfl, rfl, Nat.le_refl _, hby, hmx, ?_⟩
    repeat' ((conv => whnf); first | refine And.intro (fun h => h) ?_ | refine dcond_t (by assumption) ?_ | refine dcond_f (by assumption) ?_ | (refine dcond_intro ?_ ?_ <;> intro h) | exact .refl | refine And.intro (by kernel_rfl) ?_ | refine And.intro ⟨fun h => h, fun h => h⟩ ?_ | refine Exists.intro false ?_ | (refine And.intro ?_ ?_; focus (simp; done)) | fail)
    conv => whnf
    refine ⟨Nat, fun i => ⟨[(3, .lp 0 0), (5, .own 1), (23, i64 d.length), (24, i64 i)], [.cells 25 (viewE v), .row 36 5 (esAt d v i)]⟩, fun i => i ≤ d.length, fun i => d.length - i, [], ⟨0, Nat.zero_le _, ?_⟩, ?_⟩
    · refine ⟨⟨.refl, .refl, dle_int (by simp), .refl, trivial⟩, ⟨.refl, ole_row ?_, trivial⟩, rfl⟩
      simp [esAt]
      exact List.take_of_length_le (by simp)
    · intro i hi
      repeat' ((conv => whnf); first | refine And.intro (fun h => h) ?_ | refine dcond_t (by assumption) ?_ | refine dcond_f (by assumption) ?_ | (refine dcond_intro ?_ ?_ <;> intro h) | exact .refl | refine And.intro (by kernel_rfl) ?_ | refine And.intro ⟨fun h => h, fun h => h⟩ ?_ | refine Exists.intro false ?_ | (refine And.intro ?_ ?_; focus (simp; done)) | fail)
      · have hlt : i < d.length := by simpa using h
        clear h
        have hlt3 : i < (esAt d v i).length := by simp [esAt]; omega
        have hes : (esAt d v i)[i]? = some (recE (d[i]'hlt)) := by
          simp [esAt, List.getElem?_append_right, Nat.min_eq_left hi, hlt]
        have hs : ∀ {l : List (List DV)} {x : List DV}, l.length = (esAt d v i).length → (l.set i x)[i]? = some x := fun e => List.getElem?_set_self (by omega)
        repeat' ((conv => whnf); first | refine And.intro (fun h => h) ?_ | refine dcond_t (by assumption) ?_ | refine dcond_f (by assumption) ?_ | (refine dcond_intro ?_ ?_ <;> intro h) | exact .refl | refine And.intro (by kernel_rfl) ?_ | refine And.intro ⟨fun h => h, fun h => h⟩ ?_ | refine .inl ⟨_, _, DleAll_refl _, c_view_Contains _ hv _, ?_⟩ | refine ⟨_, _, DleAll_refl _, fun _ => c_view_Contains _ hv _, ?_⟩ | refine ⟨_, _, DleAll_refl _, c_view_Contains _ hv _, ?_⟩ | refine ⟨i, And.intro ⟨rfl, hlt3⟩ ?_⟩ | refine ⟨recE (d[i]'hlt), And.intro hes ?_⟩ | refine ⟨recE ⟨d[i].ref, 0, d[i].ep, 0⟩, And.intro (hs (by simp)) ?_⟩ | refine ⟨_, And.intro (hs (by simp)) ?_⟩ | refine Exists.intro false ?_ | (refine And.intro ?_ ?_; focus (simp; done)) | fail)
        all_goals (conv => whnf)
        all_goals refine ⟨i + 1, hlt, by simp only []; omega, ?_⟩
        all_goals refine ⟨⟨.refl, .refl, .refl, dle_int (wrap_succ (by omega)), trivial⟩, ⟨.refl, ole_row ?_, trivial⟩, rfl⟩
        all_goals rw [← es_step hlt]
        · rename_i h1
          have h : (!inB v.mem 0) = true := h
          have hf : recFix v d[i] = ⟨d[i].ref, 0, d[i].ep, 0⟩ := by simp only [recFix, h1, h, cond_true]
          rw [hf, List.set_set, List.set_set]
          rfl
        · rename_i h1
          have h : (!inB v.mem 0) = false := h
          have hf : recFix v d[i] = ⟨d[i].ref, 0, d[i].ep, 0⟩ := by simp only [recFix, h1, h, cond_true, cond_false]
          rw [hf, List.set_set]
          rfl
        · rename_i h1
          have hf : recFix v d[i] = ⟨d[i].ref, d[i].mem, d[i].ep, 0⟩ := by simp only [recFix, h1, h, cond_true, cond_false]
          rw [hf]
          rfl
        · rename_i h1
          have hf : recFix v d[i] = d[i] := by simp only [recFix, h1, h, cond_false]
          rw [hf, es_same hes]
      · have hge : ¬ i < d.length := by simpa using h
        have : i = d.length := by omega
        subst this
        conv => whnf
        refine dle_lst ?_
        simp [esAt]
theorem fix_ref (v : View) (x : Rec) : (recFix v x).ref = x.ref := by
  unfold recFix
  cases h1 : inB v.mem x.mem <;> cases h2 : inB v.mem x.tgt <;> cases h3 : inB v.mem 0 <;> simp [h1, h2, h3]
theorem fix_fix (v : View) (x : Rec) : recFix v (recFix v x) = recFix v x := by
  unfold recFix
  cases h1 : inB v.mem x.mem <;> cases h2 : inB v.mem x.tgt <;> cases h3 : inB v.mem 0 <;> simp [h1, h2, h3]
theorem fix_rec {v : View} {x : Rec} (h : recOk x = true) : recOk (recFix v x) = true := by
  simp only [recOk, Bool.and_eq_true] at h
  obtain ⟨h4, h5, h6, h7⟩ := h
  unfold recFix
  cases h1 : inB v.mem x.mem <;> cases h2 : inB v.mem x.tgt <;> cases h3 : inB v.mem 0 <;> simp [h1, h2, h3, recOk, h4, h5, h6, h7]
  all_goals simpa using h6
theorem fix_valid {d : List Rec} {v : View} (h : validB d = true) : validB (d.map (recFix v)) = true := by
  simp only [validB, Bool.and_eq_true] at h ⊢
  refine ⟨by simpa using h.1, allB_true.2 (fun i hi => ?_)⟩
  have hi : i < d.length := by simpa using hi
  have h2 := allB_true.1 h.2 i hi
  have e1 : (d.map (recFix v)).getD i zeroR = recFix v (d.getD i zeroR) := by simp [hi]
  have e2 : (d.map (recFix v)).getD (i - 1) zeroR = recFix v (d.getD (i - 1) zeroR) := by simp [show i - 1 < d.length by omega]
  simp only [okAtR, Bool.and_eq_true] at h2 ⊢
  rw [e1, e2, fix_ref, fix_ref]
  exact ⟨fix_rec h2.1, h2.2⟩
theorem same_refl (a : List Rec) : sameB a a = true := by
  simp only [sameB, decide_true, Bool.true_and]
  exact allB_true.2 (fun i _ => by simp [recEq])
end Go.Proofs.Ythdpjinchanceaa

/-
  DERIVED: THE SHELF's CONTRACTS AT THIS DUMP, IN PLAIN WORDS (tools/lay-plain.mjs out of 'YthdpjinchanceaaShelf.lean', which tools/lay-shelf.mjs wrote): THE SAME DECLARATIONS UNDER THE SAME NAMES: 'import', 'namespace', 'open', 'def', 'theorem' AND NOTHING ELSE: no command of the shelf's: FOR A HAND-IN. Each laying: the table of numbers ('.._ren') and one theorem, a field a fact of the dump's own or the kernel's comparison; each contract: ONE APPLICATION.
-/
namespace Go.Proofs
open Go.Shelf
def Try.sortTok_ren : Go.Shelf.Ren := ⟨fun | 6 => 58 | 15 => 67 | 14 => 66 | 28 => 82 | 29 => 83 | 20 => 74 | 21 => 75 | 22 => 76 | 23 => 77 | 24 => 78 | 25 => 79 | 26 => 80 | 27 => 81 | 46 => 84 | 47 => 85 | 48 => 86 | 49 => 87 | 50 => 88 | 57 => 89 | n => n, fun | 22 => 73 | 24 => 76 | 25 => 86 | 3 => 3 | 39 => 90 | 0 => 0 | 53 => 106 | 55 => 71 | 4 => 4 | 46 => 99 | 45 => 98 | 50 => 103 | 5 => 5 | 9 => 9 | 66 => 108 | 70 => 112 | 76 => 114 | 77 => 115 | n => n, fun | n => n⟩
theorem Try.sortTok : Go.Proofs.SlLaysF0.n6 Try.prog Try.sortTok_ren := {
  mixed := by kernel_rfl
  f6 := ⟨Try.f58.name, by decide, Try.func58.trans (congrArg some (by kernel_rfl))⟩
  f14 := ⟨Try.f66.name, by decide, Try.func66.trans (congrArg some (by kernel_rfl))⟩
  f15 := Try.func67.trans (congrArg some (by kernel_rfl))
  f20 := ⟨Try.f74.name, by decide, Try.func74.trans (congrArg some (by kernel_rfl))⟩
  f21 := ⟨Try.f75.name, by decide, Try.func75.trans (congrArg some (by kernel_rfl))⟩
  f22 := ⟨Try.f76.name, by decide, Try.func76.trans (congrArg some (by kernel_rfl))⟩
  f23 := ⟨Try.f77.name, by decide, Try.func77.trans (congrArg some (by kernel_rfl))⟩
  f24 := ⟨Try.f78.name, by decide, Try.func78.trans (congrArg some (by kernel_rfl))⟩
  f25 := ⟨Try.f79.name, by decide, Try.func79.trans (congrArg some (by kernel_rfl))⟩
  f26 := ⟨Try.f80.name, by decide, Try.func80.trans (congrArg some (by kernel_rfl))⟩
  f27 := ⟨Try.f81.name, by decide, Try.func81.trans (congrArg some (by kernel_rfl))⟩
  f28 := Try.func82.trans (congrArg some (by kernel_rfl))
  f29 := Try.func83.trans (congrArg some (by kernel_rfl))
  f46 := ⟨Try.f84.name, by decide, Try.func84.trans (congrArg some (by kernel_rfl))⟩
  f47 := Try.func85.trans (congrArg some (by kernel_rfl))
  f48 := Try.func86.trans (congrArg some (by kernel_rfl))
  f49 := ⟨Try.f87.name, by decide, Try.func87.trans (congrArg some (by kernel_rfl))⟩
  f50 := ⟨Try.f88.name, by decide, Try.func88.trans (congrArg some (by kernel_rfl))⟩
  f57 := ⟨Try.f89.name, by decide, Try.func89.trans (congrArg some (by kernel_rfl))⟩
  t0 := Try.underlying0
  a0 := Try.isAgg0
  z0 := Try.sizeOf0
  v0 := Try.zeroValue0
  t3 := Try.underlying3
  a3 := Try.isAgg3
  z3 := Try.sizeOf3
  v3 := Try.zeroValue3
  t4 := Try.underlying4
  a4 := Try.isAgg4
  z4 := Try.sizeOf4
  v4 := Try.zeroValue4
  t5 := Try.underlying5
  a5 := Try.isAgg5
  z5 := Try.sizeOf5
  v5 := Try.zeroValue5
  t9 := Try.underlying9
  a9 := Try.isAgg9
  z9 := Try.sizeOf9
  v9 := Try.zeroValue9
  t22 := Try.underlying73
  a22 := Try.isAgg73
  z22 := Try.sizeOf73
  v22 := Try.zeroValue73
  t25 := Try.underlying86
  a25 := Try.isAgg86
  z25 := Try.sizeOf86
  v25 := Try.zeroValue86
  t39 := Try.underlying90
  a39 := Try.isAgg90
  z39 := Try.sizeOf90
  v39 := Try.zeroValue90
  t45 := Try.underlying98
  a45 := Try.isAgg98
  z45 := Try.sizeOf98
  v45 := Try.zeroValue98
  t46 := Try.underlying99
  a46 := Try.isAgg99
  z46 := Try.sizeOf99
  v46 := Try.zeroValue99
  t50 := Try.underlying103
  a50 := Try.isAgg103
  z50 := Try.sizeOf103
  v50 := Try.zeroValue103
  t53 := Try.underlying106
  a53 := Try.isAgg106
  z53 := Try.sizeOf106
  v53 := Try.zeroValue106
  t55 := Try.underlying71
  a55 := Try.isAgg71
  z55 := Try.sizeOf71
  v55 := Try.zeroValue71
  t66 := Try.underlying108
  a66 := Try.isAgg108
  z66 := Try.sizeOf108
  v66 := Try.zeroValue108
  t70 := Try.underlying112
  a70 := Try.isAgg112
  z70 := Try.sizeOf112
  v70 := Try.zeroValue112
  t76 := Try.underlying114
  a76 := Try.isAgg114
  z76 := Try.sizeOf114
  v76 := Try.zeroValue114
  t77 := Try.underlying115
  a77 := Try.isAgg115
  z77 := Try.sizeOf115
  v77 := Try.zeroValue115 }
end Go.Proofs

set_option linter.unusedSimpArgs false
set_option linter.unusedVariables false
set_option maxRecDepth 100000
namespace Go.Proofs.Ythdpjinchanceaa
open Go.Lift
open Go.Sort (SWO)
/-! package ring -/
structure Tok where
  pos : Int
  mem : Int
  ix : Int
def tok0 : Tok := ⟨0, 0, 0⟩
def tokE (t : Tok) : List DV := [u64 t.pos, i64 t.mem, i64 t.ix]
def orI (l : List Int) : Int := (l.find? fun x => !decide (x = 0)).getD 0
theorem orI_at {l : List Int} {i : Nat} (hi : i < l.length) (h : l[i] ≠ 0) (hall : ∀ j, j < i → l.getD j 0 = 0) : orI l = l[i] := by
  have : l.find? (fun x => !decide (x = 0)) = some l[i] := List.find?_eq_some_iff_getElem.2 ⟨by simp [h], i, hi, rfl, fun j hj => by
    have := hall j hj
    have hjl : j < l.length := by omega
    simp [hjl] at this
    simp [this]⟩
  simp [orI, this]
theorem orI_none {l : List Int} (hall : ∀ j, j < l.length → l.getD j 0 = 0) : orI l = 0 := by
  have : l.find? (fun x => !decide (x = 0)) = none := List.find?_eq_none.2 fun x hx => by
    obtain ⟨j, hj, rfl⟩ := List.getElem_of_mem hx
    have := hall j hj
    simp [hj] at this
    simp [this]
  simp [orI, this]
theorem c_cmp_Or (l : List Int) (hl : l.length ≤ maxLen) : Ret Try.prog 60 [.lst 1 (l.map intE) false] (i64 (orI l)) := by
  have hl' : l.length ≤ 9223372036854775807 := hl
  refine ret_of_body (fn := Try.f60) (c := Try.f60.body.getD .skip) hm hT (by kernel_rfl) Try.func60 (by kernel_rfl) (by kernel_rfl) (by kernel_rfl) (by kernel_rfl) ?_
  repeat' ((conv => whnf); first | refine And.intro (fun h => h) ?_ | refine dcond_t (by assumption) ?_ | refine dcond_f (by assumption) ?_ | (refine dcond_intro ?_ ?_ <;> intro h) | exact .refl | refine And.intro (by kernel_rfl) ?_ | refine And.intro ⟨fun h => h, fun h => h⟩ ?_ | refine Exists.intro false ?_ | (refine And.intro ?_ ?_; focus (simp; done)) | fail)
  refine ⟨Nat, fun i => ⟨[(3, i64 0), (6, .lst 1 (l.map intE) false), (7, i64 l.length), (8, i64 i)], []⟩, fun i => i ≤ l.length ∧ ∀ j, j < i → l.getD j 0 = 0, fun i => l.length - i, [], ⟨0, ⟨Nat.zero_le _, by omega⟩, ?_⟩, ?_⟩
  · exact ⟨⟨.refl, .refl, dle_int (by simp), .refl, trivial⟩, trivial, rfl⟩
  · intro i ⟨hi, hall⟩
    repeat' ((conv => whnf); first | refine And.intro (fun h => h) ?_ | refine dcond_t (by assumption) ?_ | refine dcond_f (by assumption) ?_ | (refine dcond_intro ?_ ?_ <;> intro h) | exact .refl | refine And.intro (by kernel_rfl) ?_ | refine And.intro ⟨fun h => h, fun h => h⟩ ?_ | refine Exists.intro false ?_ | (refine And.intro ?_ ?_; focus (simp; done)) | fail)
    · have hlt : i < l.length := by simpa using h
      clear h
      repeat' ((conv => whnf); first | refine And.intro (fun h => h) ?_ | refine dcond_t (by assumption) ?_ | refine dcond_f (by assumption) ?_ | (refine dcond_intro ?_ ?_ <;> intro h) | exact .refl | refine And.intro (by kernel_rfl) ?_ | refine And.intro ⟨fun h => h, fun h => h⟩ ?_ | refine ⟨_, _, And.intro ⟨rfl, get_map hlt⟩ ?_⟩ | refine Exists.intro false ?_ | (refine And.intro ?_ ?_; focus (simp; done)) | fail)
      all_goals (conv => whnf)
      · refine dle_int ?_
        rw [orI_at hlt (by simpa using h) hall]
      · refine ⟨i + 1, ⟨hlt, fun j hj => ?_⟩, by simp only []; omega, ?_⟩
        · rcases Nat.lt_succ_iff_lt_or_eq.1 hj with hj | rfl
          · exact hall j hj
          · simp [hlt]
            simpa using h
        · exact ⟨by repeat' ((conv => whnf); first | exact trivial | refine And.intro (by (conv => arg 1; whnf); first | (with_reducible exact .refl) | exact dle_int (wrap_succ (by omega)) | exact .refl) ?_), by repeat' ((conv => whnf); first | exact trivial | refine And.intro ?_ ?_ | exact .refl), rfl⟩
    · have hge : ¬ i < l.length := by simpa using h
      conv => whnf
      refine dle_int ?_
      rw [orI_none (fun j hj => hall j (by omega))]
def cmpTok (a b : Tok) : Int := orI [cmpI a.pos b.pos, cmpI a.mem b.mem, cmpI a.ix b.ix]
theorem cmpTok_eq (a b : Tok) : cmpTok a b = if cmpI a.pos b.pos = 0 then (if cmpI a.mem b.mem = 0 then cmpI a.ix b.ix else cmpI a.mem b.mem) else cmpI a.pos b.pos := by
  unfold cmpTok orI
  by_cases h1 : cmpI a.pos b.pos = 0
  · by_cases h2 : cmpI a.mem b.mem = 0
    · by_cases h3 : cmpI a.ix b.ix = 0 <;> simp [h1, h2, h3]
    · simp [h1, h2]
  · simp [h1]
def ltTok (a b : Tok) : Prop := a.pos < b.pos ∨ a.pos = b.pos ∧ (a.mem < b.mem ∨ a.mem = b.mem ∧ a.ix < b.ix)
theorem ltTok_iff (a b : Tok) : Go.Proofs.ltOf cmpTok a b = true ↔ ltTok a b := by
  have h1 := cmp_iff a.pos b.pos
  have h2 := cmp_iff a.mem b.mem
  have h3 := cmp_iff a.ix b.ix
  simp only [Go.Proofs.ltOf, decide_eq_true_eq, cmpTok_eq, ltTok]
  split
  · split <;> omega
  · omega
theorem tok_swo : SWO (Go.Proofs.ltOf cmpTok) where
  irrefl x := by
    cases h : Go.Proofs.ltOf cmpTok x x
    · rfl
    · rw [ltTok_iff] at h; simp only [ltTok] at h; omega
  trans x y z h1 h2 := by
    rw [ltTok_iff] at *
    simp only [ltTok] at *
    omega
  ntrans x y z h1 h2 := by
    cases h : Go.Proofs.ltOf cmpTok x z
    · rfl
    · rw [← Bool.not_eq_true, ltTok_iff] at h1 h2
      rw [ltTok_iff] at h
      simp only [ltTok] at *
      omega
theorem tok_anti (x y : Tok) (h1 : Go.Proofs.ltOf cmpTok x y = false) (h2 : Go.Proofs.ltOf cmpTok y x = false) : x = y := by
  rw [← Bool.not_eq_true, ltTok_iff] at h1 h2
  simp only [ltTok] at *
  obtain ⟨a, b, c⟩ := x
  obtain ⟨a', b', c'⟩ := y
  simp only at *
  have : a = a' := by omega
  have : b = b' := by omega
  have : c = c' := by omega
  subst_vars
  rfl
theorem c_ring_Table_1 (a b : Tok) : Ret Try.prog 59 [.agg (tokE a), .agg (tokE b)] (i64 (cmpTok a b)) := by
  have e := c_cmp_Or [cmpI a.pos b.pos, cmpI a.mem b.mem, cmpI a.ix b.ix] (by simp only [List.length_cons, List.length_nil]; decide)
  refine ret_of_body (fn := Try.f59) (c := Try.f59.body.getD .skip) hm hT (by kernel_rfl) Try.func59 (by kernel_rfl) (by kernel_rfl) (by kernel_rfl) (by kernel_rfl) ?_
  repeat' ((conv => whnf); first | refine And.intro (fun h => h) ?_ | refine dcond_t (by assumption) ?_ | refine dcond_f (by assumption) ?_ | (refine dcond_intro ?_ ?_ <;> intro h) | exact .refl | refine And.intro (by kernel_rfl) ?_ | refine And.intro ⟨fun h => h, fun h => h⟩ ?_ | refine .inl ⟨_, _, DleAll_refl _, c_Compare_u64 _ _, ?_⟩ | refine ⟨_, _, DleAll_refl _, fun _ => c_Compare_u64 _ _, ?_⟩ | refine ⟨_, _, DleAll_refl _, c_Compare_u64 _ _, ?_⟩ | refine .inl ⟨_, _, DleAll_refl _, c_Compare_int _ _, ?_⟩ | refine ⟨_, _, DleAll_refl _, fun _ => c_Compare_int _ _, ?_⟩ | refine ⟨_, _, DleAll_refl _, c_Compare_int _ _, ?_⟩ | refine .inl ⟨_, _, DleAll_refl _, e, ?_⟩ | refine ⟨_, _, DleAll_refl _, fun _ => e, ?_⟩ | refine ⟨_, _, DleAll_refl _, e, ?_⟩ | refine Exists.intro false ?_ | (refine And.intro ?_ ?_; focus (simp; done)) | fail)
def tokM (m : Int) : List Tok := (List.range 8).map fun (i : Nat) => (⟨tokR m (i : Int), m, (i : Int)⟩ : Tok)
def toksOf (ms : List Int) : List Tok := ms.flatMap tokM
theorem toks_len (ms : List Int) : (toksOf ms).length = 8 * ms.length := by
  induction ms with
  | nil => rfl
  | cons m ms ih =>
    have : toksOf (m :: ms) = tokM m ++ toksOf ms := rfl
    rw [this, List.length_append, ih]
    simp [tokM]
    omega
def tableR (ms : List Int) : List Tok := bif idsB ms 16 then sortL cmpTok (toksOf ms) else []
theorem sort_ok (l : List Tok) (hl : l.length ≤ 1000000) : RetM Try.prog 58 [.row 76 3 (l.map tokE)] [.own 0, .fn (.func 59) []] [true] [.row 76 3 ((sortL cmpTok l).map tokE)] (.tup []) :=
  sort_retM (agg := true) (fun vs w => Try.sortTok.f6.enters rfl vs w) (sortC_k Try.sortTok Try.isAgg76 Try.sizeOf76 _) (fun p cap fv w => AnyF.slices_SortFunc_none Try.sortTok p cap fv w)
    tokE l (sortL cmpTok l) cmpTok tok_swo (fun x _ y _ => tok_anti x y) (sortL_perm _ _) (sortL_sorted tok_swo _) (by omega) [] (by simp) (fun h => by cases h) (fun x _ y _ => c_ring_Table_1 x y)
end Go.Proofs.Ythdpjinchanceaa

set_option linter.unusedSimpArgs false
set_option linter.unusedVariables false
set_option maxRecDepth 100000
namespace Go.Proofs.Ythdpjinchanceaa
open Go.Lift
theorem fitsT {n : Nat} (h : n ≤ 2000000) : fitsIn tt 76 n := by
  have e : (tinfo tt 76).bytes = 24 := by kernel_rfl
  refine ⟨?_, ?_⟩
  · rw [e]; omega
  · simp only [maxLen]; omega
theorem toks_take {ms : List Int} {i : Nat} (h : i < ms.length) : toksOf (ms.take (i + 1)) = toksOf (ms.take i) ++ tokM ms[i] := by
  unfold toksOf
  rw [List.take_succ_eq_append_getElem h, List.flatMap_append, List.flatMap_cons, List.flatMap_nil, List.append_nil]
theorem tokM_take (m : Int) {i : Nat} (h : i < 8) : (tokM m).take (i + 1) = (tokM m).take i ++ [⟨tokR m i, m, i⟩] := by
  have hl : i < (tokM m).length := by simp [tokM, h]
  rw [List.take_succ_eq_append_getElem hl]
  simp [tokM]
set_option maxRecDepth 100000 in
theorem c_ring_Table (ms : List Int) (hl : ms.length ≤ maxLen) : Ret Try.prog 50 [.lst 1 (ms.map intE) false] (.lst 3 ((tableR ms).map tokE) false) := by
  have hl' : ms.length ≤ 9223372036854775807 := hl
  refine ret_of_body (fn := Try.f50) (c := Try.f50.body.getD .skip) hm hT (by kernel_rfl) Try.func50 (by kernel_rfl) (by kernel_rfl) (by kernel_rfl) (by kernel_rfl) ?_
  repeat' ((conv => whnf); first | refine And.intro (fun h => h) ?_ | refine dcond_t (by assumption) ?_ | refine dcond_f (by assumption) ?_ | (refine dcond_intro ?_ ?_ <;> intro h) | exact .refl | refine And.intro (by kernel_rfl) ?_ | refine And.intro ⟨fun h => h, fun h => h⟩ ?_ | refine .inl ⟨_, _, DleAll_refl _, c_view_ValidMembers ms hl, ?_⟩ | refine ⟨_, _, DleAll_refl _, fun _ => c_view_ValidMembers ms hl, ?_⟩ | refine ⟨_, _, DleAll_refl _, c_view_ValidMembers ms hl, ?_⟩ | refine Exists.intro false ?_ | (refine And.intro ?_ ?_; focus (simp; done)) | fail)
  · have h : idsB ms 16 = false := by simpa using h
    simp only [tableR, h, cond_false]
    exact .nl
  · have hv : idsB ms 16 = true := by simpa using h
    clear h
    have h16 : ms.length ≤ 16 := by
      have := hv
      rw [ids_eq] at this
      simp only [Bool.and_eq_true, decide_eq_true_eq] at this
      omega
    conv => whnf
    refine ⟨Nat, fun i => ⟨[(3, .own 0), (10, .lst 1 (ms.map intE) false), (11, i64 ms.length), (12, i64 i)], [.row 76 3 ((toksOf (ms.take i)).map tokE)]⟩, fun i => i ≤ ms.length, fun i => ms.length - i, [.slot 3 76 3], ⟨0, Nat.zero_le _, ?_⟩, ?_⟩
    · conv => whnf
      exact ⟨⟨.refl, .refl, dle_int (by simp), .refl, trivial⟩, ⟨.refl, trivial⟩, rfl⟩
    · intro i hi
      repeat' ((conv => whnf); first | refine And.intro (fun h => h) ?_ | refine dcond_t (by assumption) ?_ | refine dcond_f (by assumption) ?_ | (refine dcond_intro ?_ ?_ <;> intro h) | exact .refl | refine And.intro (by kernel_rfl) ?_ | refine And.intro ⟨fun h => h, fun h => h⟩ ?_ | refine Exists.intro false ?_ | (refine And.intro ?_ ?_; focus (simp; done)) | fail)
      · have hlt : i < ms.length := by simpa using h
        clear h
        have htl := toks_len (ms.take i)
        rw [List.length_take, Nat.min_eq_left hi] at htl
        repeat' ((conv => whnf); first | refine And.intro (fun h => h) ?_ | refine dcond_t (by assumption) ?_ | refine dcond_f (by assumption) ?_ | (refine dcond_intro ?_ ?_ <;> intro h) | exact .refl | refine And.intro (by kernel_rfl) ?_ | refine And.intro ⟨fun h => h, fun h => h⟩ ?_ | refine ⟨_, _, And.intro ⟨rfl, get_map hlt⟩ ?_⟩ | refine Exists.intro false ?_ | (refine And.intro ?_ ?_; focus (simp; done)) | fail)
        all_goals (conv => whnf)
        refine ⟨Nat, fun j => ⟨[(3, .own 0), (5, i64 (ms[i]'hlt)), (10, .lst 1 (ms.map intE) false), (11, i64 ms.length), (12, i64 i), (16, i64 j)], [.row 76 3 ((toksOf (ms.take i) ++ (tokM (ms[i]'hlt)).take j).map tokE)]⟩, fun j => j ≤ 8, fun j => 8 - j, [], ⟨0, Nat.zero_le _, ?_⟩, ?_⟩
        · refine ⟨⟨.refl, .refl, .refl, .refl, .refl, .refl, trivial⟩, ⟨ole_row (by simp), trivial⟩, rfl⟩
        · intro j hj
          have hjl : ((tokM (ms[i]'hlt)).take j).length ≤ 8 := by
            rw [List.length_take]; omega
          repeat' ((conv => whnf); first | refine And.intro (fun h => h) ?_ | refine dcond_t (by assumption) ?_ | refine dcond_f (by assumption) ?_ | (refine dcond_intro ?_ ?_ <;> intro h) | exact .refl | refine And.intro (by kernel_rfl) ?_ | refine And.intro ⟨fun h => h, fun h => h⟩ ?_ | refine Exists.intro false ?_ | (refine And.intro ?_ ?_; focus (simp; done)) | fail)
          · have hjlt : j < 8 := by
              simp at h
              omega
            clear h
            repeat' ((conv => whnf); first | refine And.intro (fun h => h) ?_ | refine dcond_t (by assumption) ?_ | refine dcond_f (by assumption) ?_ | (refine dcond_intro ?_ ?_ <;> intro h) | exact .refl | refine And.intro (by kernel_rfl) ?_ | refine And.intro ⟨fun h => h, fun h => h⟩ ?_ | refine .inl ⟨_, _, DleAll_refl _, c_Token _ _, ?_⟩ | refine ⟨_, _, DleAll_refl _, fun _ => c_Token _ _, ?_⟩ | refine ⟨_, _, DleAll_refl _, c_Token _ _, ?_⟩ | refine Exists.intro false ?_ | (refine And.intro ?_ ?_; focus (simp; done)) | fail)
            all_goals (conv => whnf)
            refine And.intro (fitsT (by simp only [List.length_map, List.length_append, List.length_cons, List.length_nil]; simp; omega)) ?_
            repeat' ((conv => whnf); first | refine And.intro (fun h => h) ?_ | refine dcond_t (by assumption) ?_ | refine dcond_f (by assumption) ?_ | (refine dcond_intro ?_ ?_ <;> intro h) | exact .refl | refine And.intro (by kernel_rfl) ?_ | refine And.intro ⟨fun h => h, fun h => h⟩ ?_ | refine Exists.intro false ?_ | (refine And.intro ?_ ?_; focus (simp; done)) | fail)
            all_goals (conv => whnf)
            refine ⟨j + 1, hjlt, by simp only []; omega, ?_⟩
            refine ⟨⟨.refl, .refl, .refl, .refl, .refl, dle_int (wrap_succ (by omega)), trivial⟩, ⟨ole_row ?_, trivial⟩, rfl⟩
            rw [tokM_take _ hjlt, ← List.append_assoc]
            simp only [List.map_append]
            rfl
          · have : j = 8 := by
              simp at h
              omega
            subst this
            clear h
            conv => whnf
            refine ⟨i + 1, hlt, by simp only []; omega, ?_⟩
            refine ⟨⟨.refl, .refl, .refl, dle_int (wrap_succ (by omega)), trivial⟩, ⟨ole_row ?_, trivial⟩, rfl⟩
            rw [toks_take hlt]
            congr 2
      · have hge : ¬ i < ms.length := by simpa using h
        have : i = ms.length := by omega
        subst this
        clear h
        rw [List.take_length]
        have htl := toks_len ms
        have hso := sort_ok (toksOf ms) (by omega)
        have ht : tableR ms = sortL cmpTok (toksOf ms) := by simp only [tableR, hv, cond_true]
        rw [← ht] at hso
        generalize tableR ms = T at hso
        repeat' ((conv => whnf); first | refine And.intro (fun h => h) ?_ | refine dcond_t (by assumption) ?_ | refine dcond_f (by assumption) ?_ | (refine dcond_intro ?_ ?_ <;> intro h) | exact .refl | refine And.intro (by kernel_rfl) ?_ | refine And.intro ⟨fun h => h, fun h => h⟩ ?_ | refine .inr ⟨[0], _, _, _, _, _, hso, by rfl, ⟨.refl, trivial⟩, ⟨.refl, .refl, trivial⟩, ?_⟩ | refine Exists.intro false ?_ | (refine And.intro ?_ ?_; focus (simp; done)) | fail)
end Go.Proofs.Ythdpjinchanceaa

set_option linter.unusedSimpArgs false
set_option linter.unusedVariables false
set_option maxRecDepth 100000
namespace Go.Proofs.Ythdpjinchanceaa
open Go.Lift
/-! package slices, at lists of integers -/
end Go.Proofs.Ythdpjinchanceaa

set_option linter.unusedSimpArgs false
set_option linter.unusedVariables false
set_option maxRecDepth 100000
namespace Go.Proofs.Ythdpjinchanceaa
open Go.Lift
def geAt (t : List Tok) (key : Int) (i : Nat) : Bool := decide (key ≤ (t.getD i tok0).pos)
def firstR (t : List Tok) (key : Int) : Nat := match (List.range t.length).find? (geAt t key) with
  | some i => i
  | none => 0
theorem first_at {t : List Tok} {key : Int} {i : Nat} (hi : i < t.length) (hp : geAt t key i = true) (hall : ∀ j, j < i → geAt t key j = false) : firstR t key = i := by
  have : (List.range t.length).find? (geAt t key) = some i := List.find?_eq_some_iff_getElem.2 ⟨hp, i, by simpa using hi, by simp, fun j hj => by simp [hall j hj]⟩
  simp only [firstR, this]
theorem first_none {t : List Tok} {key : Int} (hall : ∀ j, j < t.length → geAt t key j = false) : firstR t key = 0 := by
  have : (List.range t.length).find? (geAt t key) = none := List.find?_eq_none.2 fun x hx => by simp [hall x (List.mem_range.1 hx)]
  simp only [firstR, this]
theorem first_cases (t : List Tok) (key : Int) : (firstR t key < t.length ∧ geAt t key (firstR t key) = true ∧ ∀ j, j < firstR t key → geAt t key j = false) ∨ (firstR t key = 0 ∧ ∀ j, j < t.length → geAt t key j = false) := by
  rcases hf : (List.range t.length).find? (geAt t key) with _ | n
  · refine .inr ⟨by simp only [firstR, hf], fun j hj => ?_⟩
    have := List.find?_eq_none.1 hf j (List.mem_range.2 hj)
    simpa using this
  · obtain ⟨h1, i, hi, he, hall⟩ := List.find?_eq_some_iff_getElem.1 hf
    simp at hi he
    subst he
    refine .inl ⟨by simp only [firstR, hf]; exact hi, by simp only [firstR, hf]; exact h1, fun j hj => ?_⟩
    simp only [firstR, hf] at hj
    simpa using hall j hj
theorem first_lt {t : List Tok} {key : Int} (h : 0 < t.length) : firstR t key < t.length := by
  rcases first_cases t key with h1 | h1
  · exact h1.1
  · omega
theorem c_ring_first (t : List Tok) (hl : t.length ≤ maxLen) (key : Int) : Ret Try.prog 51 [.lst 3 (t.map tokE) false, u64 key] (i64 (firstR t key)) := by
  have hl' : t.length ≤ 9223372036854775807 := hl
  refine ret_of_body (fn := Try.f51) (c := Try.f51.body.getD .skip) hm hT (by kernel_rfl) Try.func51 (by kernel_rfl) (by kernel_rfl) (by kernel_rfl) (by kernel_rfl) ?_
  repeat' ((conv => whnf); first | refine And.intro (fun h => h) ?_ | refine dcond_t (by assumption) ?_ | refine dcond_f (by assumption) ?_ | (refine dcond_intro ?_ ?_ <;> intro h) | exact .refl | refine And.intro (by kernel_rfl) ?_ | refine And.intro ⟨fun h => h, fun h => h⟩ ?_ | refine Exists.intro false ?_ | (refine And.intro ?_ ?_; focus (simp; done)) | fail)
  refine ⟨Nat, fun i => ⟨[(1, u64 key), (7, .lst 3 (t.map tokE) false), (8, i64 t.length), (9, i64 i)], []⟩, fun i => i ≤ t.length ∧ ∀ j, j < i → geAt t key j = false, fun i => t.length - i, [], ⟨0, ⟨Nat.zero_le _, by omega⟩, ?_⟩, ?_⟩
  · exact ⟨⟨.refl, .refl, dle_int (by simp), .refl, trivial⟩, trivial, rfl⟩
  · intro i ⟨hi, hall⟩
    repeat' ((conv => whnf); first | refine And.intro (fun h => h) ?_ | refine dcond_t (by assumption) ?_ | refine dcond_f (by assumption) ?_ | (refine dcond_intro ?_ ?_ <;> intro h) | exact .refl | refine And.intro (by kernel_rfl) ?_ | refine And.intro ⟨fun h => h, fun h => h⟩ ?_ | refine Exists.intro false ?_ | (refine And.intro ?_ ?_; focus (simp; done)) | fail)
    · have hlt : i < t.length := by simpa using h
      have hg : t.getD i tok0 = t[i] := by simp [hlt]
      clear h
      repeat' ((conv => whnf); first | refine And.intro (fun h => h) ?_ | refine dcond_t (by assumption) ?_ | refine dcond_f (by assumption) ?_ | (refine dcond_intro ?_ ?_ <;> intro h) | exact .refl | refine And.intro (by kernel_rfl) ?_ | refine And.intro ⟨fun h => h, fun h => h⟩ ?_ | refine ⟨_, _, And.intro ⟨rfl, get_map hlt⟩ ?_⟩ | refine Exists.intro false ?_ | (refine And.intro ?_ ?_; focus (simp; done)) | fail)
      all_goals (conv => whnf)
      · refine dle_int ?_
        rw [first_at hlt (by simp only [geAt, hg]; exact h) hall]
      · refine ⟨i + 1, ⟨hlt, fun j hj => ?_⟩, by simp only []; omega, ?_⟩
        · rcases Nat.lt_succ_iff_lt_or_eq.1 hj with hj | rfl
          · exact hall j hj
          · simp only [geAt, hg]; exact h
        · exact ⟨by repeat' ((conv => whnf); first | exact trivial | refine And.intro (by (conv => arg 1; whnf); first | (with_reducible exact .refl) | exact dle_int (wrap_succ (by omega)) | exact .refl) ?_), by repeat' ((conv => whnf); first | exact trivial | refine And.intro ?_ ?_ | exact .refl), rfl⟩
    · have hge : ¬ i < t.length := by simpa using h
      conv => whnf
      refine dle_int ?_
      rw [first_none (fun j hj => hall j (by omega))]
      rfl
theorem table_len (ms : List Int) : (tableR ms).length ≤ 128 := by
  unfold tableR
  cases hv : idsB ms 16
  · simp
  · rw [ids_eq] at hv
    simp only [Bool.and_eq_true, decide_eq_true_eq] at hv
    simp only [cond_true, sortL_len, toks_len]
    omega
def ownerR (ms : List Int) (key : Int) : Int := bif decide (((tableR ms).length : Int) = 0) then 0 else ((tableR ms).getD (firstR (tableR ms) key) tok0).mem
theorem c_ring_Owner (ms : List Int) (hl : ms.length ≤ maxLen) (key : Int) : Ret Try.prog 45 [.lst 1 (ms.map intE) false, u64 key] (i64 (ownerR ms key)) := by
  have hlen := table_len ms
  have et := c_ring_Table ms hl
  have ho : ownerR ms key = bif decide (((tableR ms).length : Int) = 0) then 0 else ((tableR ms).getD (firstR (tableR ms) key) tok0).mem := rfl
  have hml : (tableR ms).length ≤ maxLen := Nat.le_trans hlen (by decide)
  generalize tableR ms = T at hlen et ho hml
  have ef := c_ring_first T hml key
  refine ret_of_body (fn := Try.f45) (c := Try.f45.body.getD .skip) hm hT (by kernel_rfl) Try.func45 (by kernel_rfl) (by kernel_rfl) (by kernel_rfl) (by kernel_rfl) ?_
  repeat' ((conv => whnf); first | refine And.intro (fun h => h) ?_ | refine dcond_t (by assumption) ?_ | refine dcond_f (by assumption) ?_ | (refine dcond_intro ?_ ?_ <;> intro h) | exact .refl | refine And.intro (by kernel_rfl) ?_ | refine And.intro ⟨fun h => h, fun h => h⟩ ?_ | refine .inl ⟨_, _, DleAll_refl _, et, ?_⟩ | refine ⟨_, _, DleAll_refl _, fun _ => et, ?_⟩ | refine ⟨_, _, DleAll_refl _, et, ?_⟩ | refine Exists.intro false ?_ | (refine And.intro ?_ ?_; focus (simp; done)) | fail)
  all_goals (conv => whnf)
  · simp only [List.length_map] at h
    rw [ho, h]
    exact .refl
  · simp only [List.length_map] at h
    have hp : 0 < T.length := by
      have := of_decide_eq_false h
      omega
    have hlt := first_lt (key := key) hp
    have hg : T.getD (firstR T key) tok0 = T[firstR T key] := by simp [hlt]
    repeat' ((conv => whnf); first | refine And.intro (fun h => h) ?_ | refine dcond_t (by assumption) ?_ | refine dcond_f (by assumption) ?_ | (refine dcond_intro ?_ ?_ <;> intro h) | exact .refl | refine And.intro (by kernel_rfl) ?_ | refine And.intro ⟨fun h => h, fun h => h⟩ ?_ | refine .inl ⟨_, _, DleAll_refl _, ef, ?_⟩ | refine ⟨_, _, DleAll_refl _, fun _ => ef, ?_⟩ | refine ⟨_, _, DleAll_refl _, ef, ?_⟩ | refine ⟨_, _, And.intro ⟨rfl, get_map hlt⟩ ?_⟩ | refine Exists.intro false ?_ | (refine And.intro ?_ ?_; focus (simp; done)) | fail)
    all_goals (conv => whnf)
    rw [ho, h, hg]
    exact .refl
def rotM (t : List Tok) (s i : Nat) : Int := (t.getD ((s + i) % t.length) tok0).mem
def ownAt (t : List Tok) (s : Nat) (n : Int) : Nat → List Int
  | 0 => []
  | i + 1 => bif decide (n ≤ ((ownAt t s n i).length : Int)) then ownAt t s n i else bif !inB (ownAt t s n i) (rotM t s i) then ownAt t s n i ++ [rotM t s i] else ownAt t s n i
theorem own_stop {t : List Tok} {s : Nat} {n : Int} {i : Nat} (h : n ≤ ((ownAt t s n i).length : Int)) : ∀ d, ownAt t s n (i + d) = ownAt t s n i
  | 0 => rfl
  | d + 1 => by
    have e : ownAt t s n (i + (d + 1)) = bif decide (n ≤ ((ownAt t s n (i + d)).length : Int)) then ownAt t s n (i + d) else bif !inB (ownAt t s n (i + d)) (rotM t s (i + d)) then ownAt t s n (i + d) ++ [rotM t s (i + d)] else ownAt t s n (i + d) := rfl
    rw [e, own_stop h d, decide_eq_true h]
    rfl
theorem own_len (t : List Tok) (s : Nat) (n : Int) : ∀ i, (ownAt t s n i).length ≤ i
  | 0 => Nat.le_refl _
  | i + 1 => by
    have := own_len t s n i
    unfold ownAt
    cases decide (n ≤ ((ownAt t s n i).length : Int)) <;> cases !inB (ownAt t s n i) (rotM t s i) <;> simp <;> omega
def ownersR (ms : List Int) (key n : Int) : List Int := ownAt (tableR ms) (firstR (tableR ms) key) n (tableR ms).length
end Go.Proofs.Ythdpjinchanceaa

set_option linter.unusedSimpArgs false
set_option linter.unusedVariables false
set_option maxRecDepth 100000
namespace Go.Proofs.Ythdpjinchanceaa
open Go.Lift
/-! plain facts: rising lists, insertion -/
theorem rise_pw {l : List Int} : riseB l = true ↔ l.Pairwise (· < ·) ∧ ∀ x ∈ l, 1 ≤ x ∧ x ≤ 1000 := by
  rw [rise_iff]
  constructor
  · intro h
    have hstep : ∀ i (hi : i + 1 < l.length), l[i] < l[i + 1] := fun i hi => by
      have := (h (i + 1) hi).2.2 (by omega)
      simpa [show i < l.length by omega] using this
    refine ⟨?_, fun x hx => ?_⟩
    · rw [List.pairwise_iff_getElem]
      intro i j hi hj hij
      have key : ∀ d (hd : i + (d + 1) < l.length), l[i] < l[i + (d + 1)] := by
        intro d
        induction d with
        | zero => intro hd; exact hstep i hd
        | succ d ih =>
          intro hd
          have h1 := ih (by omega)
          have h2 := hstep (i + (d + 1)) hd
          exact Int.lt_trans h1 h2
      have := key (j - i - 1) (by omega)
      simpa [show i + (j - i - 1 + 1) = j by omega] using this
    · obtain ⟨i, hi, rfl⟩ := List.getElem_of_mem hx
      have := h i hi
      exact ⟨this.1, this.2.1⟩
  · intro ⟨h1, h2⟩ i hi
    have := h2 _ (List.getElem_mem hi)
    refine ⟨this.1, this.2, fun h0 => ?_⟩
    have h3 := List.pairwise_iff_getElem.1 h1 (i - 1) i (by omega) hi (by omega)
    simpa [show i - 1 < l.length by omega] using h3
theorem ids_pw {l : List Int} {m : Int} : idsB l m = true ↔ (1 ≤ (l.length : Int) ∧ (l.length : Int) ≤ m) ∧ l.Pairwise (· < ·) ∧ ∀ x ∈ l, 1 ≤ x ∧ x ≤ 1000 := by
  rw [ids_eq]
  simp only [Bool.and_eq_true, decide_eq_true_eq, rise_pw]
theorem pw_nodup {l : List Int} (h : l.Pairwise (· < ·)) : l.Nodup := h.imp (fun h => by omega)
/-- insertion, by its definition -/
def insW (l : List Int) (x : Int) : List Int := l.takeWhile (fun y => !decide (x < y)) ++ x :: l.dropWhile (fun y => !decide (x < y))
theorem insW_perm (l : List Int) (x : Int) : (insW l x).Perm (x :: l) := by
  unfold insW
  refine List.perm_middle.trans ?_
  rw [List.takeWhile_append_dropWhile]
theorem insA_eq (l : List Int) (x : Int) : ∀ i, i ≤ l.length → insA l x i = if i ≤ (l.takeWhile (fun y => !decide (x < y))).length then (l.take i, false) else (l.takeWhile (fun y => !decide (x < y)) ++ x :: (l.take i).drop (l.takeWhile (fun y => !decide (x < y))).length, true)
  | 0, _ => by simp [insA]
  | i + 1, hi => by
    have ih := insA_eq l x i (by omega)
    have hg : l.getD i 0 = l[i] := by simp [show i < l.length by omega]
    generalize hA : l.takeWhile (fun y => !decide (x < y)) = A at ih
    have hlen : A.length ≤ l.length := by rw [← hA]; exact (List.takeWhile_prefix _).length_le
    have hpre : ∀ j (hj : j < A.length), ¬ x < l[j]'(by omega) := fun j hj => by
      have h1 : A[j] ∈ l.takeWhile (fun y => !decide (x < y)) := by rw [hA]; exact List.getElem_mem hj
      have h2 := List.all_eq_true.1 (List.all_takeWhile (p := fun y => !decide (x < y)) (l := l)) _ h1
      have h3 : A[j] = l[j]'(by omega) := by
        have hp : A <+: l := by rw [← hA]; exact List.takeWhile_prefix _
        exact hp.getElem hj
      rw [h3] at h2
      simpa using h2
    have hat : ∀ (hj : A.length < l.length), x < l[A.length] := fun hj => by
      have h1 : l.dropWhile (fun y => !decide (x < y)) ≠ [] := by
        intro h
        have := List.takeWhile_append_dropWhile (p := fun y => !decide (x < y)) (l := l)
        rw [h, List.append_nil, hA] at this
        rw [this] at hj
        omega
      have h2 := List.head_dropWhile_not (fun y => !decide (x < y)) h1
      have h3 : (l.dropWhile (fun y => !decide (x < y))).head h1 = l[A.length] := by
        have h4 := List.takeWhile_append_dropWhile (p := fun y => !decide (x < y)) (l := l)
        rw [hA] at h4
        rw [List.head_eq_getElem]
        have : l[A.length] = (A ++ l.dropWhile (fun y => !decide (x < y)))[A.length]'(by rw [h4]; exact hj) := by
          simp only [h4]
        rw [this, List.getElem_append_right (Nat.le_refl _)]
        simp
      rw [h3] at h2
      simpa using h2
    simp only [insA, ih, hg]
    by_cases h1 : i + 1 ≤ A.length
    · have h2 : i ≤ A.length := by omega
      simp only [h1, h2, if_true]
      have hn := hpre i (by omega)
      have hd : decide (x < l[i]'(by omega)) = false := decide_eq_false hn
      simp only [hd, Bool.and_false, cond_false, Prod.mk.injEq, and_true]
      rw [List.take_succ_eq_append_getElem (show i < l.length by omega)]
    · simp only [h1, if_false]
      by_cases h2 : i ≤ A.length
      · have h3 : i = A.length := by omega
        have h4 := hat (by omega)
        simp only [h2, if_true]
        have h5 : x < l[i] := by simpa [h3] using h4
        have h6 : l.take i = A := by
          have hp : A <+: l := by rw [← hA]; exact List.takeWhile_prefix _
          rw [h3]
          exact (List.prefix_iff_eq_take.1 hp).symm
        simp only [h5, decide_true, Bool.not_false, Bool.and_self, cond_true, Prod.mk.injEq, and_true]
        rw [List.take_succ_eq_append_getElem (show i < l.length by omega), h6, List.drop_append_of_le_length (Nat.le_refl _), List.drop_length]
        simp
      · simp only [h2, if_false]
        simp only [Bool.not_true, Bool.false_and, cond_false, Prod.mk.injEq, and_true]
        rw [List.take_succ_eq_append_getElem (show i < l.length by omega), List.drop_append_of_le_length (by rw [List.length_take]; omega)]
        simp
theorem insL_eq (l : List Int) (x : Int) : insL l x = insW l x := by
  have h := insA_eq l x l.length (Nat.le_refl _)
  have ht := List.takeWhile_append_dropWhile (p := fun y => !decide (x < y)) (l := l)
  unfold insL insW
  rw [h]
  generalize hA : l.takeWhile (fun y => !decide (x < y)) = A at ht
  generalize l.dropWhile (fun y => !decide (x < y)) = B at ht
  subst ht
  by_cases hB : (A ++ B).length ≤ A.length
  · have : B = [] := by
      rw [List.length_append] at hB
      exact List.length_eq_zero_iff.1 (by omega)
    subst this
    rw [List.append_nil]
    simp
  · rw [if_neg hB]
    simp only [cond_true]
    rw [List.take_of_length_le (Nat.le_refl _)]
    simp
theorem insW_pw {l : List Int} {x : Int} (h : l.Pairwise (· < ·)) (hx : x ∉ l) : (insW l x).Pairwise (· < ·) := by
  have ht := List.takeWhile_append_dropWhile (p := fun y => !decide (x < y)) (l := l)
  have h1 : ∀ y ∈ l.takeWhile (fun y => !decide (x < y)), y < x := fun y hy => by
    have h2 := List.all_eq_true.1 (List.all_takeWhile (p := fun y => !decide (x < y)) (l := l)) _ hy
    have h3 : y ∈ l := (List.takeWhile_prefix _).subset hy
    simp at h2
    rcases Int.lt_or_eq_of_le h2 with h2 | h2
    · exact h2
    · subst h2; exact absurd h3 hx
  have h2 : ∀ y ∈ l.dropWhile (fun y => !decide (x < y)), x < y := fun y hy => by
    have h3 : l.dropWhile (fun y => !decide (x < y)) ≠ [] := List.ne_nil_of_mem hy
    have h4 := List.head_dropWhile_not (fun y => !decide (x < y)) h3
    simp at h4
    have h5 : (l.dropWhile (fun y => !decide (x < y))).Pairwise (· < ·) := h.sublist (List.dropWhile_sublist _)
    obtain ⟨a, r, hr⟩ := List.exists_cons_of_ne_nil h3
    simp only [hr, List.head_cons] at h4 hy h5 ⊢
    rcases List.mem_cons.1 hy with rfl | hy
    · exact h4
    · have := (List.pairwise_cons.1 h5).1 y hy
      omega
  unfold insW
  generalize l.takeWhile (fun y => !decide (x < y)) = A at *
  generalize l.dropWhile (fun y => !decide (x < y)) = B at *
  subst ht
  rw [List.pairwise_append] at h ⊢
  refine ⟨h.1, List.pairwise_cons.2 ⟨h2, h.2.1⟩, fun a ha b hb => ?_⟩
  rcases List.mem_cons.1 hb with rfl | hb
  · exact h1 a ha
  · exact h.2.2 a ha b hb
theorem ins_ids {l : List Int} {x : Int} {m : Int} (h : idsB l m = true) (hx : x ∉ l) (h1 : 1 ≤ x) (h2 : x ≤ 1000) (hm : (l.length : Int) < m) : idsB (insL l x) m = true := by
  rw [ids_pw] at *
  have hp := insW_perm l x
  rw [insL_eq]
  refine ⟨?_, insW_pw h.2.1 hx, fun y hy => ?_⟩
  · have := hp.length_eq
    simp only [List.length_cons] at this
    omega
  · rcases List.mem_cons.1 (hp.mem_iff.1 hy) with rfl | hy
    · exact ⟨h1, h2⟩
    · exact h.2.2 y hy
theorem filter_ids {l : List Int} {p : Int → Bool} {m : Int} (h : idsB l m = true) (hne : l.filter p ≠ []) : idsB (l.filter p) m = true := by
  rw [ids_pw] at *
  refine ⟨?_, h.2.1.sublist List.filter_sublist, fun y hy => h.2.2 y (List.mem_filter.1 hy).1⟩
  have h1 := List.length_filter_le p l
  have h2 := List.length_pos_iff.2 hne
  omega
/-- each element once, in the order of their first places -/
def uniqL (l : List Int) : List Int := l.foldl (fun o m => if m ∈ o then o else o ++ [m]) []
theorem uniq_snoc (l : List Int) (m : Int) : uniqL (l ++ [m]) = if m ∈ uniqL l then uniqL l else uniqL l ++ [m] := by
  unfold uniqL
  rw [List.foldl_append]
  rfl
theorem uniq_ind {P : List Int → Prop} (h0 : P []) (h1 : ∀ l m, P l → P (l ++ [m])) (l : List Int) : P l := by
  have : ∀ r : List Int, P r.reverse := fun r => by
    induction r with
    | nil => exact h0
    | cons a r ih => rw [List.reverse_cons]; exact h1 _ _ ih
  have h := this l.reverse
  rwa [List.reverse_reverse] at h
theorem uniq_mem {l : List Int} {x : Int} : x ∈ uniqL l ↔ x ∈ l := by
  refine uniq_ind (P := fun l => x ∈ uniqL l ↔ x ∈ l) (by simp [uniqL]) (fun l m ih => ?_) l
  rw [uniq_snoc]
  split
  · rename_i hm
    simp only [ih, List.mem_append, List.mem_singleton]
    constructor
    · exact .inl
    · rintro (h | rfl)
      · exact h
      · exact ih.1 hm
  · simp [ih]
theorem uniq_nodup (l : List Int) : (uniqL l).Nodup := by
  refine uniq_ind (P := fun l => (uniqL l).Nodup) (by simp [uniqL]) (fun l m ih => ?_) l
  rw [uniq_snoc]
  split
  · exact ih
  · rename_i hm
    rw [List.nodup_append]
    exact ⟨ih, by simp, fun a ha b hb => by simp at hb; subst hb; exact fun e => hm (e ▸ ha)⟩
theorem uniq_filter (l : List Int) (p : Int → Bool) : uniqL (l.filter p) = (uniqL l).filter p := by
  refine uniq_ind (P := fun l => uniqL (l.filter p) = (uniqL l).filter p) (by simp [uniqL]) (fun l m ih => ?_) l
  rw [List.filter_append, uniq_snoc]
  cases hp : p m
  · simp only [List.filter_cons, hp, Bool.false_eq_true, if_false, List.filter_nil, List.append_nil, ih]
    split
    · rfl
    · simp [hp]
  · simp only [List.filter_cons, hp, if_true, List.filter_nil]
    rw [uniq_snoc, ih]
    by_cases hm : m ∈ uniqL l
    · simp [hm, hp]
    · simp [hm, hp]
theorem uniq_head (l : List Int) : (uniqL l).head? = l.head? := by
  refine uniq_ind (P := fun l => (uniqL l).head? = l.head?) (by simp [uniqL]) (fun l m ih => ?_) l
  rw [uniq_snoc]
  cases l with
  | nil => simp [uniqL]
  | cons a r =>
    have hne : uniqL (a :: r) ≠ [] := fun h => by
      have : a ∈ uniqL (a :: r) := uniq_mem.2 (by simp)
      rw [h] at this
      cases this
    split
    · rw [ih]; simp
    · rw [List.head?_append, ih]; simp
end Go.Proofs.Ythdpjinchanceaa

set_option linter.unusedSimpArgs false
set_option linter.unusedVariables false
set_option maxRecDepth 100000
namespace Go.Proofs.Ythdpjinchanceaa
open Go.Lift
/-! the ring of tokens: plain laws -/
theorem tokM_mem {m : Int} {t : Tok} : t ∈ tokM m ↔ ∃ i : Nat, i < 8 ∧ t = ⟨tokR m i, m, i⟩ := by
  simp only [tokM, List.mem_map, List.mem_range]
  constructor
  · rintro ⟨i, hi, rfl⟩; exact ⟨i, hi, rfl⟩
  · rintro ⟨i, hi, rfl⟩; exact ⟨i, hi, rfl⟩
theorem toks_mem {ms : List Int} {t : Tok} : t ∈ toksOf ms ↔ t.mem ∈ ms ∧ t ∈ tokM t.mem := by
  simp only [toksOf, List.mem_flatMap]
  constructor
  · rintro ⟨m, hm, ht⟩
    have : t.mem = m := by
      obtain ⟨i, _, rfl⟩ := tokM_mem.1 ht
      rfl
    rw [this]
    exact ⟨hm, ht⟩
  · rintro ⟨h1, h2⟩
    exact ⟨_, h1, h2⟩
theorem tokM_mem' {m : Int} {t : Tok} (h : t ∈ tokM m) : t.mem = m := by
  obtain ⟨i, _, rfl⟩ := tokM_mem.1 h
  rfl
theorem toks_filter (ms : List Int) (p : Int → Bool) : (toksOf ms).filter (fun t => p t.mem) = toksOf (ms.filter p) := by
  induction ms with
  | nil => rfl
  | cons m ms ih =>
    have e : toksOf (m :: ms) = tokM m ++ toksOf ms := by simp [toksOf]
    rw [e, List.filter_append, ih]
    cases hp : p m
    · have : (tokM m).filter (fun t => p t.mem) = [] := List.filter_eq_nil_iff.2 fun t ht => by rw [tokM_mem' ht, hp]; simp
      rw [this, List.filter_cons]
      simp [hp]
    · have : (tokM m).filter (fun t => p t.mem) = tokM m := List.filter_eq_self.2 fun t ht => by rw [tokM_mem' ht, hp]
      rw [this, List.filter_cons]
      simp [hp, toksOf]
theorem toks_perm {a b : List Int} (h : a.Perm b) : (toksOf a).Perm (toksOf b) := h.flatMap_right _
abbrev sortedT (T : List Tok) : Prop := T.Pairwise fun x y => Go.Proofs.ltOf cmpTok y x = false
theorem table_in {ms : List Int} (h : idsB ms 16 = true) : tableR ms = sortL cmpTok (toksOf ms) := by simp only [tableR, h, cond_true]
theorem table_sorted (ms : List Int) : sortedT (tableR ms) := by
  unfold tableR
  cases idsB ms 16
  · exact List.Pairwise.nil
  · exact sortL_sorted tok_swo _
theorem table_mem {ms : List Int} (h : idsB ms 16 = true) {t : Tok} : t ∈ tableR ms ↔ t.mem ∈ ms ∧ t ∈ tokM t.mem := by
  rw [table_in h, sortL_mem, toks_mem]
theorem sorted_pos {T : List Tok} (h : sortedT T) : T.Pairwise fun x y => x.pos ≤ y.pos := h.imp fun {a b} hab => by
  rw [← Bool.not_eq_true, ltTok_iff] at hab
  simp only [ltTok] at hab
  omega
/-- the table of fewer members -/
theorem table_filter {ms ms' : List Int} (h : idsB ms 16 = true) (h' : idsB ms' 16 = true) {p : Int → Bool} (hp : (ms.filter p).Perm ms') : (tableR ms).filter (fun t => p t.mem) = tableR ms' := by
  refine sorted_eq (cf := cmpTok) tok_anti ?_ ((table_sorted ms).sublist List.filter_sublist) (table_sorted ms')
  rw [table_in h, table_in h']
  refine ((sortL_perm cmpTok (toksOf ms)).filter _).trans ?_
  rw [toks_filter]
  exact (toks_perm hp).trans (sortL_perm cmpTok _).symm
/-- the table from the owner of a key on -/
def rotL (T : List Tok) (key : Int) : List Tok := T.filter (fun t => decide (key ≤ t.pos)) ++ T.filter (fun t => !decide (key ≤ t.pos))
theorem rot_filter (T : List Tok) (key : Int) (p : Tok → Bool) : rotL (T.filter p) key = (rotL T key).filter p := by
  simp only [rotL, List.filter_append, List.filter_filter]
  congr 1
  · exact List.filter_congr fun x _ => Bool.and_comm _ _
  · exact List.filter_congr fun x _ => Bool.and_comm _ _
theorem rot_perm (T : List Tok) (key : Int) : (rotL T key).Perm T := List.filter_append_perm _ _
theorem rot_split {T : List Tok} (h : sortedT T) (key : Int) : T.drop (firstR T key) ++ T.take (firstR T key) = rotL T key := by
  have hs := List.pairwise_iff_getElem.1 (sorted_pos h)
  rcases first_cases T key with ⟨h1, h2, h3⟩ | ⟨h1, h2⟩
  · generalize firstR T key = s at h1 h2 h3
    have ga : ∀ j (hj : j < T.length), geAt T key j = decide (key ≤ T[j].pos) := fun j hj => by simp [geAt, hj]
    have hd : T.filter (fun t => decide (key ≤ t.pos)) = T.drop s := by
      conv => lhs; rw [← List.take_append_drop s T]
      rw [List.filter_append]
      have e1 : (T.take s).filter (fun t => decide (key ≤ t.pos)) = [] := List.filter_eq_nil_iff.2 fun t ht => by
        obtain ⟨j, hj, rfl⟩ := List.getElem_of_mem ht
        simp only [List.length_take] at hj
        have := h3 j (by omega)
        rw [ga j (by omega)] at this
        simp only [List.getElem_take]
        rw [this]; simp
      have e2 : (T.drop s).filter (fun t => decide (key ≤ t.pos)) = T.drop s := List.filter_eq_self.2 fun t ht => by
        obtain ⟨j, hj, rfl⟩ := List.getElem_of_mem ht
        simp only [List.length_drop] at hj
        simp only [List.getElem_drop]
        rw [ga s h1] at h2
        have := of_decide_eq_true h2
        rcases Nat.eq_zero_or_pos j with rfl | hj0
        · simpa using h2
        · have := hs s (s + j) h1 (by omega) (by omega)
          exact decide_eq_true (by omega)
      rw [e1, e2, List.nil_append]
    have ht : T.filter (fun t => !decide (key ≤ t.pos)) = T.take s := by
      conv => lhs; rw [← List.take_append_drop s T]
      rw [List.filter_append]
      have e1 : (T.take s).filter (fun t => !decide (key ≤ t.pos)) = T.take s := List.filter_eq_self.2 fun t ht => by
        obtain ⟨j, hj, rfl⟩ := List.getElem_of_mem ht
        simp only [List.length_take] at hj
        have := h3 j (by omega)
        rw [ga j (by omega)] at this
        simp only [List.getElem_take]
        rw [this]; rfl
      have e2 : (T.drop s).filter (fun t => !decide (key ≤ t.pos)) = [] := List.filter_eq_nil_iff.2 fun t ht => by
        obtain ⟨j, hj, rfl⟩ := List.getElem_of_mem ht
        simp only [List.length_drop] at hj
        simp only [List.getElem_drop]
        rw [ga s h1] at h2
        have h4 := of_decide_eq_true h2
        rcases Nat.eq_zero_or_pos j with rfl | hj0
        · simp; exact h4
        · have := hs s (s + j) h1 (by omega) (by omega)
          have : decide (key ≤ T[s + j].pos) = true := decide_eq_true (by omega)
          rw [this]; simp
      rw [e1, e2, List.append_nil]
    rw [rotL, hd, ht]
  · rw [h1]
    have hall : ∀ t ∈ T, decide (key ≤ t.pos) = false := fun t ht => by
      obtain ⟨j, hj, rfl⟩ := List.getElem_of_mem ht
      have := h2 j hj
      simpa [geAt, hj] using this
    have e1 : T.filter (fun t => decide (key ≤ t.pos)) = [] := List.filter_eq_nil_iff.2 fun t ht => by rw [hall t ht]; simp
    have e2 : T.filter (fun t => !decide (key ≤ t.pos)) = T := List.filter_eq_self.2 fun t ht => by rw [hall t ht]; rfl
    rw [rotL, e1, e2]
    simp
theorem rotM_get {T : List Tok} {s i : Nat} (hs : s < T.length) (hi : i < T.length) : rotM T s i = ((T.drop s ++ T.take s).map (·.mem)).getD i 0 := by
  have hr : (s + i) % T.length < T.length := Nat.mod_lt _ (by omega)
  unfold rotM
  rw [List.getD_eq_getElem?_getD, List.getD_eq_getElem?_getD, List.getElem?_map, List.getElem?_eq_getElem hr]
  by_cases h : s + i < T.length
  · rw [List.getElem?_append_left (by rw [List.length_drop]; omega), List.getElem?_drop]
    have : (s + i) % T.length = s + i := Nat.mod_eq_of_lt h
    simp [this, h]
  · have e : (s + i) % T.length = s + i - T.length := by
      rw [Nat.mod_eq_sub_mod (by omega), Nat.mod_eq_of_lt (by omega)]
    rw [List.getElem?_append_right (by rw [List.length_drop]; omega), List.length_drop]
    have e2 : i - (T.length - s) = s + i - T.length := by omega
    rw [e2, List.getElem?_take, if_pos (by omega)]
    simp [e, show s + i - T.length < T.length by omega]
def memsL (T : List Tok) (key : Int) : List Int := (rotL T key).map (·.mem)
theorem mems_len (T : List Tok) (key : Int) : (memsL T key).length = T.length := by
  simp [memsL, (rot_perm T key).length_eq]
theorem own_uniq {T : List Tok} {s : Nat} {n : Int} {M : List Int} (hM : M.length = T.length) (hr : ∀ i, i < T.length → rotM T s i = M.getD i 0) : ∀ i, i ≤ T.length → ownAt T s n i = (uniqL (M.take i)).take n.toNat
  | 0, _ => by simp [ownAt, uniqL]
  | i + 1, hi => by
    have ih := own_uniq (n := n) hM hr i (by omega)
    have hg : M.getD i 0 = M[i]'(by omega) := by simp [show i < M.length by omega]
    rw [List.take_succ_eq_append_getElem (show i < M.length by omega), uniq_snoc]
    simp only [ownAt, ih, hr i (by omega), hg]
    generalize uniqL (M.take i) = U
    generalize M[i]'(by omega) = m
    rw [List.length_take]
    by_cases hn : n.toNat ≤ U.length
    · have h1 : decide (n ≤ ((min n.toNat U.length : Nat) : Int)) = true := decide_eq_true (by omega)
      rw [h1]
      simp only [cond_true]
      split
      · rfl
      · rw [List.take_append_of_le_length hn]
    · have h1 : decide (n ≤ ((min n.toNat U.length : Nat) : Int)) = false := decide_eq_false (by omega)
      have h2 : U.take n.toNat = U := List.take_of_length_le (by omega)
      rw [h1, h2]
      simp only [cond_false]
      by_cases hm : m ∈ U
      · have : inB U m = true := in_iff.2 hm
        simp only [this, Bool.not_true, cond_false, hm, if_true]
        rw [h2]
      · have : inB U m = false := by
          cases h : inB U m
          · rfl
          · exact absurd (in_iff.1 h) hm
        simp only [this, Bool.not_false, cond_true, hm, if_false]
        rw [List.take_of_length_le (by rw [List.length_append, List.length_singleton]; omega)]
theorem owners_eq (ms : List Int) (key n : Int) : ownersR ms key n = (uniqL (memsL (tableR ms) key)).take n.toNat := by
  have hs := table_sorted ms
  unfold ownersR
  generalize tableR ms = T at hs
  rcases Nat.eq_zero_or_pos T.length with h0 | h0
  · have : T = [] := List.length_eq_zero_iff.1 h0
    subst this
    simp [ownAt, memsL, rotL, uniqL]
  · have hf := first_lt (key := key) h0
    have := own_uniq (T := T) (s := firstR T key) (n := n) (M := memsL T key) (mems_len T key) (fun i hi => by rw [rotM_get hf hi, rot_split hs]; rfl) T.length (Nat.le_refl _)
    rw [this, ← mems_len T key, List.take_length]
theorem owner_eq (ms : List Int) (key : Int) : ownerR ms key = (memsL (tableR ms) key).head?.getD 0 := by
  have hs := table_sorted ms
  unfold ownerR
  generalize tableR ms = T at hs
  rcases Nat.eq_zero_or_pos T.length with h0 | h0
  · have : T = [] := List.length_eq_zero_iff.1 h0
    subst this
    simp [memsL, rotL]
  · have hf := first_lt (key := key) h0
    have h1 : decide ((T.length : Int) = 0) = false := decide_eq_false (by omega)
    rw [h1, cond_false, memsL, ← rot_split hs, List.drop_eq_getElem_cons hf]
    simp [hf]
theorem mems_mem {ms : List Int} (h : idsB ms 16 = true) (key : Int) {m : Int} : m ∈ memsL (tableR ms) key ↔ m ∈ ms := by
  simp only [memsL, List.mem_map]
  constructor
  · rintro ⟨t, ht, rfl⟩
    exact ((table_mem h).1 ((rot_perm _ _).mem_iff.1 ht)).1
  · intro hm
    exact ⟨⟨tokR m (0 : Nat), m, (0 : Nat)⟩, (rot_perm _ _).mem_iff.2 ((table_mem h).2 ⟨hm, tokM_mem.2 ⟨0, by omega, rfl⟩⟩), rfl⟩
theorem mems_filter {ms ms' : List Int} (h : idsB ms 16 = true) (h' : idsB ms' 16 = true) {p : Int → Bool} (hp : (ms.filter p).Perm ms') (key : Int) : memsL (tableR ms') key = (memsL (tableR ms) key).filter p := by
  rw [← table_filter h h' hp, memsL, rot_filter, memsL, List.filter_map]
  rfl
/-- the owners of a key, all of them -/
theorem owners_perm {ms : List Int} (h : idsB ms 16 = true) (key : Int) : (uniqL (memsL (tableR ms) key)).Perm ms := by
  refine (List.perm_ext_iff_of_nodup (uniq_nodup _) (pw_nodup (ids_pw.1 h).2.1)).2 fun m => ?_
  rw [uniq_mem, mems_mem h]
theorem owner_in_ring {ms : List Int} (h : idsB ms 16 = true) (key : Int) : ownerR ms key ∈ ms := by
  rw [owner_eq]
  have h1 := owners_perm h key
  have h2 := (ids_pw.1 h).1.1
  have h3 := uniq_head (memsL (tableR ms) key)
  cases hm : memsL (tableR ms) key with
  | nil =>
    rw [hm] at h1
    have := h1.length_eq
    simp [uniqL] at this
    omega
  | cons a r =>
    simp only [List.head?_cons, Option.getD_some]
    exact (mems_mem h key).1 (by rw [hm]; simp)
end Go.Proofs.Ythdpjinchanceaa

set_option linter.unusedSimpArgs false
set_option linter.unusedVariables false
set_option maxRecDepth 100000
namespace Go.Proofs.Ythdpjinchanceaa
open Go.Lift
/-! the home of an actor; the reference of the ring -/
def txtAt (s : ByteArray) : Nat → Int
  | 0 => 14695981039346656037
  | i + 1 => IntKind.u64.wrap (bits .xor .u64 (txtAt s i) (IntKind.u64.wrap ((s.data.getD i 0).toNat : Int)) * 1099511628211)
def txtR (s : ByteArray) : Int := mixR (txtAt s s.size)
def actH (r : Ref) : Int := combR (txtR r.ty) (txtR r.key)
theorem c_hash_Text (s : ByteArray) (hs : s.size ≤ 1000000) : Ret Try.prog 53 [.v (.string s)] (u64 (txtR s)) := by
  have em := c_Mix (txtAt s s.size)
  have hsucc : ∀ i, txtAt s (i + 1) = IntKind.u64.wrap (bits .xor .u64 (txtAt s i) (IntKind.u64.wrap ((s.data.getD i 0).toNat : Int)) * 1099511628211) := fun i => rfl
  unfold txtR
  refine ret_of_body (fn := Try.f53) (c := Try.f53.body.getD .skip) hm hT (by kernel_rfl) Try.func53 (by kernel_rfl) (by kernel_rfl) (by kernel_rfl) (by kernel_rfl) ?_
  repeat' ((conv => whnf); first | refine And.intro (fun h => h) ?_ | refine dcond_t (by assumption) ?_ | refine dcond_f (by assumption) ?_ | (refine dcond_intro ?_ ?_ <;> intro h) | exact .refl | refine And.intro (by kernel_rfl) ?_ | refine And.intro ⟨fun h => h, fun h => h⟩ ?_ | refine Exists.intro false ?_ | (refine And.intro ?_ ?_; focus (simp; done)) | fail)
  all_goals (conv => whnf)
  refine ⟨Nat, fun i => ⟨[(0, .v (.string s)), (3, u64 (txtAt s i)), (6, i64 s.size), (7, i64 i)], []⟩, fun i => i ≤ s.size, fun i => s.size - i, [], ⟨0, Nat.zero_le _, ?_⟩, ?_⟩
  · conv => whnf
    exact ⟨⟨.refl, .refl, .refl, .refl, trivial⟩, trivial, by rfl⟩
  · intro i hi
    repeat' ((conv => whnf); first | refine And.intro (fun h => h) ?_ | refine dcond_t (by assumption) ?_ | refine dcond_f (by assumption) ?_ | (refine dcond_intro ?_ ?_ <;> intro h) | exact .refl | refine And.intro (by kernel_rfl) ?_ | refine And.intro ⟨fun h => h, fun h => h⟩ ?_ | refine Exists.intro false ?_ | (refine And.intro ?_ ?_; focus (simp; done)) | fail)
    · have hlt : i < s.size := by simpa using h
      clear h
      have hs := hsucc i
      repeat' ((conv => whnf); first | refine And.intro (fun h => h) ?_ | refine dcond_t (by assumption) ?_ | refine dcond_f (by assumption) ?_ | (refine dcond_intro ?_ ?_ <;> intro h) | exact .refl | refine And.intro (by kernel_rfl) ?_ | refine And.intro ⟨fun h => h, fun h => h⟩ ?_ | refine ⟨i, And.intro ⟨rfl, hlt⟩ ?_⟩ | refine Exists.intro false ?_ | (refine And.intro ?_ ?_; focus (simp; done)) | fail)
      all_goals (conv => whnf)
      refine ⟨i + 1, hlt, by simp only []; omega, ?_⟩
      conv => whnf
      exact ⟨⟨.refl, dle_int hs.symm, .refl, dle_int (wrap_succ (by omega)), trivial⟩, trivial, by rfl⟩
    · have : i = s.size := by
        simp at h
        omega
      subst this
      repeat' ((conv => whnf); first | refine And.intro (fun h => h) ?_ | refine dcond_t (by assumption) ?_ | refine dcond_f (by assumption) ?_ | (refine dcond_intro ?_ ?_ <;> intro h) | exact .refl | refine And.intro (by kernel_rfl) ?_ | refine And.intro ⟨fun h => h, fun h => h⟩ ?_ | refine .inl ⟨_, _, DleAll_refl _, em, ?_⟩ | refine ⟨_, _, DleAll_refl _, fun _ => em, ?_⟩ | refine ⟨_, _, DleAll_refl _, em, ?_⟩ | refine Exists.intro false ?_ | (refine And.intro ?_ ?_; focus (simp; done)) | fail)
theorem c_hash_Actor (r : Ref) (h1 : r.ty.size ≤ 1000000) (h2 : r.key.size ≤ 1000000) : Ret Try.prog 46 [.agg (refE r)] (u64 (actH r)) := by
  refine ret_of_body (fn := Try.f46) (c := Try.f46.body.getD .skip) hm hT (by kernel_rfl) Try.func46 (by kernel_rfl) (by kernel_rfl) (by kernel_rfl) (by kernel_rfl) ?_
  repeat' ((conv => whnf); first | refine And.intro (fun h => h) ?_ | refine dcond_t (by assumption) ?_ | refine dcond_f (by assumption) ?_ | (refine dcond_intro ?_ ?_ <;> intro h) | exact .refl | refine And.intro (by kernel_rfl) ?_ | refine And.intro ⟨fun h => h, fun h => h⟩ ?_ | refine .inl ⟨_, _, DleAll_refl _, c_hash_Text _ h1, ?_⟩ | refine ⟨_, _, DleAll_refl _, fun _ => c_hash_Text _ h1, ?_⟩ | refine ⟨_, _, DleAll_refl _, c_hash_Text _ h1, ?_⟩ | refine .inl ⟨_, _, DleAll_refl _, c_hash_Text _ h2, ?_⟩ | refine ⟨_, _, DleAll_refl _, fun _ => c_hash_Text _ h2, ?_⟩ | refine ⟨_, _, DleAll_refl _, c_hash_Text _ h2, ?_⟩ | refine .inl ⟨_, _, DleAll_refl _, c_Combine _ _, ?_⟩ | refine ⟨_, _, DleAll_refl _, fun _ => c_Combine _ _, ?_⟩ | refine ⟨_, _, DleAll_refl _, c_Combine _ _, ?_⟩ | refine Exists.intro false ?_ | (refine And.intro ?_ ?_; focus (simp; done)) | fail)
def homeR (v : View) (r : Ref) : Int := bif !viewB v then 0 else ownerR v.mem (actH r)
theorem c_ring_Home (v : View) (hv : v.mem.length ≤ maxLen) (r : Ref) (h1 : r.ty.size ≤ 1000000) (h2 : r.key.size ≤ 1000000) : Ret Try.prog 38 [.agg (viewE v), .agg (refE r)] (i64 (homeR v r)) := by
  have e1 := c_view_Valid v hv
  have e2 := c_hash_Actor r h1 h2
  have e3 := c_ring_Owner v.mem hv (actH r)
  have hd : homeR v r = bif !viewB v then 0 else ownerR v.mem (actH r) := rfl
  generalize ownerR v.mem (actH r) = ow at *
  generalize homeR v r = res at *
  generalize actH r = ah at *
  generalize viewB v = vb at *
  refine ret_of_body (fn := Try.f38) (c := Try.f38.body.getD .skip) hm hT (by kernel_rfl) Try.func38 (by kernel_rfl) (by kernel_rfl) (by kernel_rfl) (by kernel_rfl) ?_
  repeat' ((conv => whnf); first | refine And.intro (fun h => h) ?_ | refine dcond_t (by assumption) ?_ | refine dcond_f (by assumption) ?_ | (refine dcond_intro ?_ ?_ <;> intro h) | exact .refl | refine And.intro (by kernel_rfl) ?_ | refine And.intro ⟨fun h => h, fun h => h⟩ ?_ | refine .inl ⟨_, _, DleAll_refl _, e1, ?_⟩ | refine ⟨_, _, DleAll_refl _, fun _ => e1, ?_⟩ | refine ⟨_, _, DleAll_refl _, e1, ?_⟩ | refine .inl ⟨_, _, DleAll_refl _, e2, ?_⟩ | refine ⟨_, _, DleAll_refl _, fun _ => e2, ?_⟩ | refine ⟨_, _, DleAll_refl _, e2, ?_⟩ | refine .inl ⟨_, _, DleAll_refl _, e3, ?_⟩ | refine ⟨_, _, DleAll_refl _, fun _ => e3, ?_⟩ | refine ⟨_, _, DleAll_refl _, e3, ?_⟩ | refine Exists.intro false ?_ | (refine And.intro ?_ ?_; focus (simp; done)) | fail)
  all_goals (conv => whnf)
  · rw [hd, h]
    exact .refl
  · rw [hd, h]
    exact .refl
theorem c_r2_Mix (x : Int) : Ret Try.prog 65 [u64 x] (u64 (mixR x)) := by
  refine ret_of_body (fn := Try.f65) (c := Try.f65.body.getD .skip) hm hT (by kernel_rfl) Try.func65 (by kernel_rfl) (by kernel_rfl) (by kernel_rfl) (by kernel_rfl) ?_
  repeat' ((conv => whnf); first | refine And.intro (fun h => h) ?_ | refine dcond_t (by assumption) ?_ | refine dcond_f (by assumption) ?_ | (refine dcond_intro ?_ ?_ <;> intro h) | exact .refl | refine And.intro (by kernel_rfl) ?_ | refine And.intro ⟨fun h => h, fun h => h⟩ ?_ | refine Exists.intro false ?_ | (refine And.intro ?_ ?_; focus (simp; done)) | fail)
theorem c_r2_Combine (h x : Int) : Ret Try.prog 55 [u64 h, u64 x] (u64 (combR h x)) := by
  refine ret_of_body (fn := Try.f55) (c := Try.f55.body.getD .skip) hm hT (by kernel_rfl) Try.func55 (by kernel_rfl) (by kernel_rfl) (by kernel_rfl) (by kernel_rfl) ?_
  repeat' ((conv => whnf); first | refine And.intro (fun h => h) ?_ | refine dcond_t (by assumption) ?_ | refine dcond_f (by assumption) ?_ | (refine dcond_intro ?_ ?_ <;> intro h) | exact .refl | refine And.intro (by kernel_rfl) ?_ | refine And.intro ⟨fun h => h, fun h => h⟩ ?_ | refine .inl ⟨_, _, DleAll_refl _, c_r2_Mix _, ?_⟩ | refine ⟨_, _, DleAll_refl _, fun _ => c_r2_Mix _, ?_⟩ | refine ⟨_, _, DleAll_refl _, c_r2_Mix _, ?_⟩ | refine Exists.intro false ?_ | (refine And.intro ?_ ?_; focus (simp; done)) | fail)
theorem c_r2_Token (m i : Int) : Ret Try.prog 72 [i64 m, i64 i] (u64 (tokR m i)) := by
  refine ret_of_body (fn := Try.f72) (c := Try.f72.body.getD .skip) hm hT (by kernel_rfl) Try.func72 (by kernel_rfl) (by kernel_rfl) (by kernel_rfl) (by kernel_rfl) ?_
  repeat' ((conv => whnf); first | refine And.intro (fun h => h) ?_ | refine dcond_t (by assumption) ?_ | refine dcond_f (by assumption) ?_ | (refine dcond_intro ?_ ?_ <;> intro h) | exact .refl | refine And.intro (by kernel_rfl) ?_ | refine And.intro ⟨fun h => h, fun h => h⟩ ?_ | refine .inl ⟨_, _, DleAll_refl _, c_r2_Combine _ _, ?_⟩ | refine ⟨_, _, DleAll_refl _, fun _ => c_r2_Combine _ _, ?_⟩ | refine ⟨_, _, DleAll_refl _, c_r2_Combine _ _, ?_⟩ | refine Exists.intro false ?_ | (refine And.intro ?_ ?_; focus (simp; done)) | fail)
theorem c_r2_Text (s : ByteArray) (hs : s.size ≤ 1000000) : Ret Try.prog 56 [.v (.string s)] (u64 (txtR s)) := by
  have em := c_r2_Mix (txtAt s s.size)
  have hsucc : ∀ i, txtAt s (i + 1) = IntKind.u64.wrap (bits .xor .u64 (txtAt s i) (IntKind.u64.wrap ((s.data.getD i 0).toNat : Int)) * 1099511628211) := fun i => rfl
  unfold txtR
  refine ret_of_body (fn := Try.f56) (c := Try.f56.body.getD .skip) hm hT (by kernel_rfl) Try.func56 (by kernel_rfl) (by kernel_rfl) (by kernel_rfl) (by kernel_rfl) ?_
  repeat' ((conv => whnf); first | refine And.intro (fun h => h) ?_ | refine dcond_t (by assumption) ?_ | refine dcond_f (by assumption) ?_ | (refine dcond_intro ?_ ?_ <;> intro h) | exact .refl | refine And.intro (by kernel_rfl) ?_ | refine And.intro ⟨fun h => h, fun h => h⟩ ?_ | refine Exists.intro false ?_ | (refine And.intro ?_ ?_; focus (simp; done)) | fail)
  all_goals (conv => whnf)
  refine ⟨Nat, fun i => ⟨[(0, .v (.string s)), (3, u64 (txtAt s i)), (4, i64 i)], []⟩, fun i => i ≤ s.size, fun i => s.size - i, [], ⟨0, Nat.zero_le _, ?_⟩, ?_⟩
  · conv => whnf
    exact ⟨⟨.refl, .refl, .refl, trivial⟩, trivial, by rfl⟩
  · intro i hi
    repeat' ((conv => whnf); first | refine And.intro (fun h => h) ?_ | refine dcond_t (by assumption) ?_ | refine dcond_f (by assumption) ?_ | (refine dcond_intro ?_ ?_ <;> intro h) | exact .refl | refine And.intro (by kernel_rfl) ?_ | refine And.intro ⟨fun h => h, fun h => h⟩ ?_ | refine Exists.intro false ?_ | (refine And.intro ?_ ?_; focus (simp; done)) | fail)
    · have hlt : i < s.size := by simpa using h
      clear h
      have hs := hsucc i
      repeat' ((conv => whnf); first | refine And.intro (fun h => h) ?_ | refine dcond_t (by assumption) ?_ | refine dcond_f (by assumption) ?_ | (refine dcond_intro ?_ ?_ <;> intro h) | exact .refl | refine And.intro (by kernel_rfl) ?_ | refine And.intro ⟨fun h => h, fun h => h⟩ ?_ | refine ⟨i, And.intro ⟨rfl, hlt⟩ ?_⟩ | refine Exists.intro false ?_ | (refine And.intro ?_ ?_; focus (simp; done)) | fail)
      all_goals (conv => whnf)
      refine ⟨i + 1, hlt, by simp only []; omega, ?_⟩
      conv => whnf
      exact ⟨⟨.refl, dle_int hs.symm, dle_int (wrap_succ (by omega)), trivial⟩, trivial, by rfl⟩
    · have : i = s.size := by
        simp at h
        omega
      subst this
      repeat' ((conv => whnf); first | refine And.intro (fun h => h) ?_ | refine dcond_t (by assumption) ?_ | refine dcond_f (by assumption) ?_ | (refine dcond_intro ?_ ?_ <;> intro h) | exact .refl | refine And.intro (by kernel_rfl) ?_ | refine And.intro ⟨fun h => h, fun h => h⟩ ?_ | refine .inl ⟨_, _, DleAll_refl _, em, ?_⟩ | refine ⟨_, _, DleAll_refl _, fun _ => em, ?_⟩ | refine ⟨_, _, DleAll_refl _, em, ?_⟩ | refine Exists.intro false ?_ | (refine And.intro ?_ ?_; focus (simp; done)) | fail)
theorem c_r2_Actor (r : Ref) (h1 : r.ty.size ≤ 1000000) (h2 : r.key.size ≤ 1000000) : Ret Try.prog 48 [.agg (refE r)] (u64 (actH r)) := by
  refine ret_of_body (fn := Try.f48) (c := Try.f48.body.getD .skip) hm hT (by kernel_rfl) Try.func48 (by kernel_rfl) (by kernel_rfl) (by kernel_rfl) (by kernel_rfl) ?_
  repeat' ((conv => whnf); first | refine And.intro (fun h => h) ?_ | refine dcond_t (by assumption) ?_ | refine dcond_f (by assumption) ?_ | (refine dcond_intro ?_ ?_ <;> intro h) | exact .refl | refine And.intro (by kernel_rfl) ?_ | refine And.intro ⟨fun h => h, fun h => h⟩ ?_ | refine .inl ⟨_, _, DleAll_refl _, c_r2_Text _ h1, ?_⟩ | refine ⟨_, _, DleAll_refl _, fun _ => c_r2_Text _ h1, ?_⟩ | refine ⟨_, _, DleAll_refl _, c_r2_Text _ h1, ?_⟩ | refine .inl ⟨_, _, DleAll_refl _, c_r2_Text _ h2, ?_⟩ | refine ⟨_, _, DleAll_refl _, fun _ => c_r2_Text _ h2, ?_⟩ | refine ⟨_, _, DleAll_refl _, c_r2_Text _ h2, ?_⟩ | refine .inl ⟨_, _, DleAll_refl _, c_r2_Combine _ _, ?_⟩ | refine ⟨_, _, DleAll_refl _, fun _ => c_r2_Combine _ _, ?_⟩ | refine ⟨_, _, DleAll_refl _, c_r2_Combine _ _, ?_⟩ | refine Exists.intro false ?_ | (refine And.intro ?_ ?_; focus (simp; done)) | fail)
end Go.Proofs.Ythdpjinchanceaa
