/- The laws of this seat, part OwA: contracts of the functions, plain laws. No conditions. -/
import Derived.Test.YtdcfooeoaoahjaaGreatRows
import Derived.Test.YtdcfooeoaoahjaaGreatLfD
import Derived.Test.YtdcfooeoaoahjaaGreatLfE
import Derived.Shelf.SlLaysF
import Derived.Shelf.Lays
import Derived.Shelf.Lays2
import Derived.Test.YtdcfooeoaoahjaaGreatProg
set_option linter.unusedSimpArgs false
set_option linter.unusedVariables false
set_option maxRecDepth 100000
namespace Go.Proofs.YtdcfooeoaoahjaaGreat
open Go.Lift
def tt : TT := [(2, ⟨1, 8, false, [.v (.int .i64 0)], .int .i64⟩),
  (3, ⟨1, 8, false, [.v (.int .i64 0)], .int .i64⟩),
  (4, ⟨1, 1, false, [.v (.bool false)], .bool⟩),
  (5, ⟨1, 1, false, [.v (.int .u8 0)], .int .u8⟩),
  (9, ⟨1, 16, false, [.v (.string ⟨#[]⟩)], .str⟩),
  (21, ⟨1, 4, false, [.v (.int .i32 0)], .int .i32⟩),
  (22, ⟨1, 24, false, [.nl], .slc 3⟩),
  (23, ⟨2, 32, true, [.v (.int .i64 0), .nl], .st [(3, 0), (22, 1)]⟩),
  (24, ⟨2, 32, true, [.v (.int .i64 0), .nl], .st [(3, 0), (22, 1)]⟩),
  (25, ⟨1, 24, false, [.nl], .slc 36⟩),
  (28, ⟨1, 24, false, [.nl], .slc 55⟩),
  (29, ⟨1, 24, false, [.nl], .slc 4⟩),
  (30, ⟨1, 24, false, [.nl], .slc 82⟩),
  (31, ⟨3, 72, true, [.nl, .nl, .nl], .st [(28, 0), (29, 1), (30, 2)]⟩),
  (32, ⟨3, 72, true, [.nl, .nl, .nl], .st [(28, 0), (29, 1), (30, 2)]⟩),
  (34, ⟨1, 8, false, [.v (.int .u64 0)], .int .u64⟩),
  (35, ⟨4, 16, true, [.v (.int .u8 0), .v (.int .u8 0), .v (.int .u8 0), .v (.int .u64 0)], .st [(5, 0), (5, 1), (5, 2), (34, 3)]⟩),
  (36, ⟨4, 16, true, [.v (.int .u8 0), .v (.int .u8 0), .v (.int .u8 0), .v (.int .u64 0)], .st [(5, 0), (5, 1), (5, 2), (34, 3)]⟩),
  (40, ⟨1, 8, false, [.v (.int .u64 0)], .int .u64⟩),
  (42, ⟨1, 24, false, [.nl], .slc 22⟩),
  (43, ⟨1, 24, false, [.nl], .slc 96⟩),
  (44, ⟨4, 64, true, [.v (.int .i64 0), .v (.int .i64 0), .nl, .nl], .st [(3, 0), (24, 1), (43, 3)]⟩),
  (45, ⟨4, 64, true, [.v (.int .i64 0), .v (.int .i64 0), .nl, .nl], .st [(3, 0), (24, 1), (43, 3)]⟩),
  (46, ⟨1, 24, false, [.nl], .slc 147⟩),
  (47, ⟨1, 24, false, [.nl], .slc 150⟩),
  (48, ⟨3, 40, true, [.v (.int .i64 0), .v (.int .i64 0), .nl], .st [(3, 0), (3, 1), (22, 2)]⟩),
  (49, ⟨3, 40, true, [.v (.int .i64 0), .v (.int .i64 0), .nl], .st [(3, 0), (3, 1), (22, 2)]⟩),
  (50, ⟨1, 24, false, [.nl], .slc 201⟩),
  (51, ⟨1, 24, false, [.nl], .slc 179⟩),
  (52, ⟨15, 248, true, [.v (.int .i64 0), .v (.int .i64 0), .nl, .v (.int .i64 0), .v (.int .i64 0), .nl, .nl, .nl, .v (.int .i64 0), .v (.int .i64 0), .nl, .nl, .nl, .nl, .v (.int .i64 0)], .st [(3, 0), (24, 1), (49, 3), (22, 6), (50, 7), (3, 8), (3, 9), (51, 10), (22, 11), (51, 12), (22, 13), (3, 14)]⟩),
  (53, ⟨15, 248, true, [.v (.int .i64 0), .v (.int .i64 0), .nl, .v (.int .i64 0), .v (.int .i64 0), .nl, .nl, .nl, .v (.int .i64 0), .v (.int .i64 0), .nl, .nl, .nl, .nl, .v (.int .i64 0)], .st [(3, 0), (24, 1), (49, 3), (22, 6), (50, 7), (3, 8), (3, 9), (51, 10), (22, 11), (51, 12), (22, 13), (3, 14)]⟩),
  (54, ⟨29, 488, true, [.v (.int .i64 0), .v (.int .i64 0), .nl, .v (.int .i64 0), .nl, .nl, .v (.int .i64 0), .nl, .v (.int .i64 0), .v (.int .i64 0), .nl, .nl, .nl, .nl, .v (.int .i64 0), .v (.int .i64 0), .nl, .v (.int .i64 0), .v (.int .i64 0), .nl, .nl, .nl, .v (.int .i64 0), .v (.int .i64 0), .nl, .nl, .nl, .nl, .v (.int .i64 0)], .st [(3, 0), (3, 1), (22, 2), (24, 3), (42, 5), (24, 6), (45, 8), (46, 12), (47, 13), (53, 14)]⟩),
  (55, ⟨29, 488, true, [.v (.int .i64 0), .v (.int .i64 0), .nl, .v (.int .i64 0), .nl, .nl, .v (.int .i64 0), .nl, .v (.int .i64 0), .v (.int .i64 0), .nl, .nl, .nl, .nl, .v (.int .i64 0), .v (.int .i64 0), .nl, .v (.int .i64 0), .v (.int .i64 0), .nl, .nl, .nl, .v (.int .i64 0), .v (.int .i64 0), .nl, .nl, .nl, .nl, .v (.int .i64 0)], .st [(3, 0), (3, 1), (22, 2), (24, 3), (42, 5), (24, 6), (45, 8), (46, 12), (47, 13), (53, 14)]⟩),
  (57, ⟨1, 8, false, [.v (.int .u64 0)], .int .u64⟩),
  (63, ⟨1, 2, false, [.v (.int .u16 0)], .int .u16⟩),
  (65, ⟨1, 8, false, [.v (.int .i64 0)], .int .i64⟩),
  (69, ⟨1, 24, false, [.nl], .slc 5⟩),
  (71, ⟨1, 24, false, [.nl], .slc 121⟩),
  (76, ⟨1, 24, false, [.nl], .slc 24⟩),
  (81, ⟨3, 40, true, [.v (.int .i64 0), .v (.int .i64 0), .nl], .st [(3, 0), (3, 1), (69, 2)]⟩),
  (82, ⟨3, 40, true, [.v (.int .i64 0), .v (.int .i64 0), .nl], .st [(3, 0), (3, 1), (69, 2)]⟩),
  (92, ⟨1, 4, false, [.v (.int .u32 0)], .int .u32⟩),
  (93, ⟨2, 16, true, [.v (.int .u32 0), .v (.int .i64 0)], .st [(92, 0), (3, 1)]⟩),
  (94, ⟨2, 16, true, [.v (.int .u32 0), .v (.int .i64 0)], .st [(92, 0), (3, 1)]⟩),
  (95, ⟨6, 40, true, [.v (.int .i64 0), .v (.int .i64 0), .v (.bool false), .v (.bool false), .v (.int .u32 0), .v (.int .i64 0)], .st [(3, 0), (3, 1), (4, 2), (4, 3), (94, 4)]⟩),
  (96, ⟨6, 40, true, [.v (.int .i64 0), .v (.int .i64 0), .v (.bool false), .v (.bool false), .v (.int .u32 0), .v (.int .i64 0)], .st [(3, 0), (3, 1), (4, 2), (4, 3), (94, 4)]⟩),
  (107, ⟨6, 64, true, [.v (.int .i64 0), .v (.int .i64 0), .v (.int .i64 0), .v (.int .i64 0), .v (.int .i64 0), .nl], .st [(3, 0), (3, 1), (3, 2), (3, 3), (3, 4), (22, 5)]⟩),
  (108, ⟨6, 64, true, [.v (.int .i64 0), .v (.int .i64 0), .v (.int .i64 0), .v (.int .i64 0), .v (.int .i64 0), .nl], .st [(3, 0), (3, 1), (3, 2), (3, 3), (3, 4), (22, 5)]⟩),
  (109, ⟨12, 160, true, [.v (.int .i64 0), .v (.int .i64 0), .nl, .v (.int .i64 0), .v (.int .i64 0), .v (.int .i64 0), .v (.int .i64 0), .v (.int .i64 0), .nl, .v (.int .i64 0), .nl, .nl], .st [(3, 0), (3, 1), (46, 2), (108, 3), (24, 9), (42, 11)]⟩),
  (110, ⟨12, 160, true, [.v (.int .i64 0), .v (.int .i64 0), .nl, .v (.int .i64 0), .v (.int .i64 0), .v (.int .i64 0), .v (.int .i64 0), .v (.int .i64 0), .nl, .v (.int .i64 0), .nl, .nl], .st [(3, 0), (3, 1), (46, 2), (108, 3), (24, 9), (42, 11)]⟩),
  (115, ⟨30, 512, true, [.v (.int .i64 0), .v (.int .i64 0), .nl, .v (.int .i64 0), .nl, .nl, .v (.int .i64 0), .nl, .v (.int .i64 0), .v (.int .i64 0), .nl, .nl, .nl, .nl, .v (.int .i64 0), .v (.int .i64 0), .nl, .v (.int .i64 0), .v (.int .i64 0), .nl, .nl, .nl, .v (.int .i64 0), .v (.int .i64 0), .nl, .nl, .nl, .nl, .v (.int .i64 0), .nl], .st [(55, 0), (71, 29)]⟩),
  (116, ⟨30, 512, true, [.v (.int .i64 0), .v (.int .i64 0), .nl, .v (.int .i64 0), .nl, .nl, .v (.int .i64 0), .nl, .v (.int .i64 0), .v (.int .i64 0), .nl, .nl, .nl, .nl, .v (.int .i64 0), .v (.int .i64 0), .nl, .v (.int .i64 0), .v (.int .i64 0), .nl, .nl, .nl, .v (.int .i64 0), .v (.int .i64 0), .nl, .nl, .nl, .nl, .v (.int .i64 0), .nl], .st [(55, 0), (71, 29)]⟩),
  (120, ⟨2, 32, true, [.v (.int .i64 0), .nl], .st [(3, 0), (69, 1)]⟩),
  (121, ⟨2, 32, true, [.v (.int .i64 0), .nl], .st [(3, 0), (69, 1)]⟩),
  (134, ⟨2, 32, true, [.nl, .v (.bool false)], .st [(69, 0), (4, 1)]⟩),
  (135, ⟨2, 32, true, [.nl, .v (.bool false)], .st [(69, 0), (4, 1)]⟩),
  (146, ⟨4, 32, true, [.v (.int .i64 0), .v (.int .i64 0), .v (.int .i64 0), .v (.int .i64 0)], .st [(3, 0), (3, 1), (3, 2), (3, 3)]⟩),
  (147, ⟨4, 32, true, [.v (.int .i64 0), .v (.int .i64 0), .v (.int .i64 0), .v (.int .i64 0)], .st [(3, 0), (3, 1), (3, 2), (3, 3)]⟩),
  (149, ⟨2, 16, true, [.v (.int .i64 0), .v (.int .i64 0)], .st [(3, 0), (3, 1)]⟩),
  (150, ⟨2, 16, true, [.v (.int .i64 0), .v (.int .i64 0)], .st [(3, 0), (3, 1)]⟩),
  (156, ⟨1, 24, false, [.nl], .slc 218⟩),
  (178, ⟨3, 40, true, [.v (.int .i64 0), .v (.int .i64 0), .nl], .st [(3, 0), (3, 1), (22, 2)]⟩),
  (179, ⟨3, 40, true, [.v (.int .i64 0), .v (.int .i64 0), .nl], .st [(3, 0), (3, 1), (22, 2)]⟩),
  (200, ⟨2, 32, true, [.v (.int .i64 0), .nl], .st [(3, 0), (22, 1)]⟩),
  (201, ⟨2, 32, true, [.v (.int .i64 0), .nl], .st [(3, 0), (22, 1)]⟩),
  (209, ⟨16, 272, true, [.v (.int .i64 0), .v (.int .i64 0), .nl, .v (.int .i64 0), .v (.int .i64 0), .nl, .nl, .nl, .v (.int .i64 0), .v (.int .i64 0), .nl, .nl, .nl, .nl, .v (.int .i64 0), .nl], .st [(53, 0), (156, 15)]⟩),
  (210, ⟨16, 272, true, [.v (.int .i64 0), .v (.int .i64 0), .nl, .v (.int .i64 0), .v (.int .i64 0), .nl, .nl, .nl, .v (.int .i64 0), .v (.int .i64 0), .nl, .nl, .nl, .nl, .v (.int .i64 0), .nl], .st [(53, 0), (156, 15)]⟩),
  (217, ⟨7, 72, true, [.v (.int .i64 0), .v (.int .i64 0), .v (.int .i64 0), .v (.int .i64 0), .v (.int .i64 0), .v (.int .i64 0), .nl], .st [(3, 0), (108, 1)]⟩),
  (218, ⟨7, 72, true, [.v (.int .i64 0), .v (.int .i64 0), .v (.int .i64 0), .v (.int .i64 0), .v (.int .i64 0), .v (.int .i64 0), .nl], .st [(3, 0), (108, 1)]⟩),
  (219, ⟨4, 32, true, [.v (.int .i64 0), .v (.int .i64 0), .v (.int .i64 0), .v (.int .i64 0)], .arr 4 3⟩),
  (255, ⟨1, 8, false, [.v (.int .i64 0)], .int .i64⟩),
  (264, ⟨1, 24, false, [.nl], .slc 267⟩),
  (266, ⟨3, 24, true, [.v (.int .i64 0), .v (.int .i64 0), .v (.int .i64 0)], .st [(3, 0), (3, 1), (3, 2)]⟩),
  (267, ⟨3, 24, true, [.v (.int .i64 0), .v (.int .i64 0), .v (.int .i64 0)], .st [(3, 0), (3, 1), (3, 2)]⟩),
  (274, ⟨1, 8, false, [.v (.int .u64 0)], .int .u64⟩),
  (285, ⟨3, 24, true, [.v (.int .u64 0), .v (.int .u64 0), .v (.int .u64 0)], .arr 3 57⟩),
  (287, ⟨2, 16, true, [.v (.int .u64 0), .v (.int .u64 0)], .arr 2 34⟩)]
theorem hm : Tryz.prog.follows .mixedOrders = true := by kernel_rfl
theorem hT : tabOk Tryz.prog tt = true := by kernel_rfl
def i64 (n : Int) : DV := .v (.int .i64 n)
def intE (n : Int) : List DV := [.v (.int .i64 n)]
def byteI (n : Nat) : List DV := [.v (.int .u8 n)]
theorem fitsI {n : Nat} (h : n ≤ 2000000) : fitsIn tt 3 n := by
  have e : (tinfo tt 3).bytes = 8 := by kernel_rfl
  refine ⟨?_, ?_⟩
  · rw [e]; omega
  · simp only [maxLen]; omega
theorem ole_row {e : TypeId} {sz : Nat} {es es' : List (List DV)} (h : es = es') : ole (.row e sz es) (.row e sz es') := by subst h; exact .refl
def okAt (l : List Int) (i : Nat) : Bool := !(decide (l.getD i 0 ≤ (0 :: l).getD i 0) || decide (1000 < l.getD i 0))
def idsB (l : List Int) (most : Int) : Bool := !(decide ((l.length : Int) < 1) || decide (most < (l.length : Int))) && allB (okAt l) l.length
theorem c_view_identifiers (l : List Int) (hl : l.length ≤ maxLen) (m : Int) : Ret Tryz.prog 58 [.lst 1 (l.map intE) false, .v (.int .i64 m)] (.v (.bool (idsB l m))) := by
  have hl' : l.length ≤ 9223372036854775807 := hl
  refine ret_of_body (fn := Tryz.f58) (c := Tryz.f58.body.getD .skip) hm hT (by kernel_rfl) Tryz.func58 (by kernel_rfl) (by kernel_rfl) (by kernel_rfl) (by kernel_rfl) ?_
  repeat' ((conv => whnf); first | refine And.intro (fun h => h) ?_ | refine dcond_t (by assumption) ?_ | refine dcond_f (by assumption) ?_ | (refine dcond_intro ?_ ?_ <;> intro h) | exact .refl | refine And.intro (by kernel_rfl) ?_ | refine And.intro ⟨fun h => h, fun h => h⟩ ?_ | refine Exists.intro false ?_ | (refine And.intro ?_ ?_; focus (simp; done)) | fail)
  · skip
    refine dle_bool ?_
    simp only [List.length_map] at h
    simp only [idsB, h]
    rfl
  · skip
    simp only [List.length_map] at h
    have h0 := h
    clear h
    conv => whnf
    refine ⟨Nat, fun i => ⟨[(5, i64 ((0 :: l).getD i 0)), (17, .lst 1 (l.map intE) false), (18, i64 (l.map intE).length), (19, i64 i)], []⟩, fun i => i ≤ l.length ∧ ∀ j, j < i → okAt l j = true, fun i => l.length - i, [], ⟨0, ⟨Nat.zero_le _, by omega⟩, ?_⟩, ?_⟩
    · exact ⟨by repeat' ((conv => whnf); first | exact trivial | refine And.intro (by (conv => arg 1; whnf); first | (with_reducible exact .refl) | exact dle_int (wrap_succ (by omega)) | exact .refl) ?_), by repeat' ((conv => whnf); first | exact trivial | refine And.intro ?_ ?_ | exact .refl), rfl⟩
    · intro i ⟨hi, hall⟩
      repeat' ((conv => whnf); first | refine And.intro (fun h => h) ?_ | refine dcond_t (by assumption) ?_ | refine dcond_f (by assumption) ?_ | (refine dcond_intro ?_ ?_ <;> intro h) | exact .refl | refine And.intro (by kernel_rfl) ?_ | refine And.intro ⟨fun h => h, fun h => h⟩ ?_ | refine Exists.intro false ?_ | (refine And.intro ?_ ?_; focus (simp; done)) | fail)
      · have h1 := h
        have hlt : i < l.length := by simpa using h1
        have hg : l.getD i 0 = l[i] := by simp [hlt]
        repeat' ((conv => whnf); first | refine And.intro (fun h => h) ?_ | refine dcond_t (by assumption) ?_ | refine dcond_f (by assumption) ?_ | (refine dcond_intro ?_ ?_ <;> intro h) | exact .refl | refine And.intro (by kernel_rfl) ?_ | refine And.intro ⟨fun h => h, fun h => h⟩ ?_ | refine ⟨_, _, And.intro ⟨rfl, get_map hlt⟩ ?_⟩ | refine Exists.intro false ?_ | (refine And.intro ?_ ?_; focus (simp; done)) | fail)
        · have h2 := h
          refine dle_bool ?_
          have : okAt l i = false := by simp only [okAt, hg, h2]; rfl
          rw [idsB, allB_false hlt this, Bool.and_false]
        · have h2 := h
          conv => whnf
          refine ⟨i + 1, ⟨hlt, fun j hj => ?_⟩, by simp only []; omega, ?_⟩
          · rcases Nat.lt_succ_iff_lt_or_eq.1 hj with hj | rfl
            · exact hall j hj
            · simp only [okAt, hg, h2]; rfl
          · refine ⟨⟨?_, .refl, .refl, dle_int (wrap_succ (by omega)), trivial⟩, trivial, rfl⟩
            refine dle_int ?_
            simp [hlt]
      · have h1 := h
        have hge : ¬ i < l.length := by simpa using h1
        conv => whnf
        refine dle_bool ?_
        rw [idsB, h0, allB_true.2 (fun j hj => hall j (by omega))]
        rfl
theorem c_view_ValidCut (l : List Int) (hl : l.length ≤ maxLen) : Ret Tryz.prog 106 [.lst 1 (l.map intE) false] (.v (.bool (idsB l 32))) := by
  refine ret_of_body (fn := Tryz.f106) (c := Tryz.f106.body.getD .skip) hm hT (by kernel_rfl) Tryz.func106 (by kernel_rfl) (by kernel_rfl) (by kernel_rfl) (by kernel_rfl) ?_
  repeat' ((conv => whnf); first | refine And.intro (fun h => h) ?_ | refine dcond_t (by assumption) ?_ | refine dcond_f (by assumption) ?_ | (refine dcond_intro ?_ ?_ <;> intro h) | exact .refl | refine And.intro (by kernel_rfl) ?_ | refine And.intro ⟨fun h => h, fun h => h⟩ ?_ | refine .inl ⟨_, _, DleAll_refl _, c_view_identifiers _ hl _, ?_⟩ | refine ⟨_, _, DleAll_refl _, fun _ => c_view_identifiers _ hl _, ?_⟩ | refine ⟨_, _, DleAll_refl _, c_view_identifiers _ hl _, ?_⟩ | refine Exists.intro false ?_ | (refine And.intro ?_ ?_; focus (simp; done)) | fail)
def sameI (a b : List Int) : Bool := decide ((a.length : Int) = (b.length : Int)) && allB (fun i => decide (a.getD i 0 = b.getD i 0)) a.length
theorem c_slices_Equal_int (a b : List Int) (ha : a.length ≤ maxLen) : Ret Tryz.prog 60 [.lst 1 (a.map intE) false, .lst 1 (b.map intE) false] (.v (.bool (sameI a b))) := by
  have hl' : a.length ≤ 9223372036854775807 := ha
  refine ret_of_body (fn := Tryz.f60) (c := Tryz.f60.body.getD .skip) hm hT (by kernel_rfl) Tryz.func60 (by kernel_rfl) (by kernel_rfl) (by kernel_rfl) (by kernel_rfl) ?_
  repeat' ((conv => whnf); first | refine And.intro (fun h => h) ?_ | refine dcond_t (by assumption) ?_ | refine dcond_f (by assumption) ?_ | (refine dcond_intro ?_ ?_ <;> intro h) | exact .refl | refine And.intro (by kernel_rfl) ?_ | refine And.intro ⟨fun h => h, fun h => h⟩ ?_ | refine Exists.intro false ?_ | (refine And.intro ?_ ?_; focus (simp; done)) | fail)
  · refine dle_bool ?_
    simp only [List.length_map] at h
    have h : decide ((a.length : Int) = (b.length : Int)) = false := by simpa using h
    simp only [sameI, h, Bool.false_and]
  · have h0 : a.length = b.length := by
      simp at h
      omega
    clear h
    conv => whnf
    refine ⟨Nat, fun i => ⟨[(0, .lst 1 (a.map intE) false), (1, .lst 1 (b.map intE) false), (12, i64 (a.map intE).length), (13, i64 i)], []⟩, fun i => i ≤ a.length ∧ ∀ j, j < i → decide (a.getD j 0 = b.getD j 0) = true, fun i => a.length - i, [], ⟨0, ⟨Nat.zero_le _, by omega⟩, ?_⟩, ?_⟩
    · exact ⟨by repeat' ((conv => whnf); first | exact trivial | refine And.intro (by (conv => arg 1; whnf); first | (with_reducible exact .refl) | exact dle_int (wrap_succ (by omega)) | exact .refl) ?_), by repeat' ((conv => whnf); first | exact trivial | refine And.intro ?_ ?_ | exact .refl), rfl⟩
    · intro i ⟨hi, hall⟩
      repeat' ((conv => whnf); first | refine And.intro (fun h => h) ?_ | refine dcond_t (by assumption) ?_ | refine dcond_f (by assumption) ?_ | (refine dcond_intro ?_ ?_ <;> intro h) | exact .refl | refine And.intro (by kernel_rfl) ?_ | refine And.intro ⟨fun h => h, fun h => h⟩ ?_ | refine Exists.intro false ?_ | (refine And.intro ?_ ?_; focus (simp; done)) | fail)
      · have hlt : i < a.length := by simpa using h
        have hlt2 : i < b.length := by omega
        clear h
        have hg : a.getD i 0 = a[i] := by simp [hlt]
        have hg2 : b.getD i 0 = b[i] := by simp [hlt2]
        repeat' ((conv => whnf); first | refine And.intro (fun h => h) ?_ | refine dcond_t (by assumption) ?_ | refine dcond_f (by assumption) ?_ | (refine dcond_intro ?_ ?_ <;> intro h) | exact .refl | refine And.intro (by kernel_rfl) ?_ | refine And.intro ⟨fun h => h, fun h => h⟩ ?_ | refine ⟨_, _, And.intro ⟨rfl, get_map hlt⟩ ?_⟩ | refine ⟨_, _, And.intro ⟨rfl, get_map hlt2⟩ ?_⟩ | refine Exists.intro false ?_ | (refine And.intro ?_ ?_; focus (simp; done)) | fail)
        · refine dle_bool ?_
          rw [sameI, allB_false hlt (i := i), Bool.and_false]
          rw [hg, hg2]
          simpa using h
        · conv => whnf
          refine ⟨i + 1, ⟨hlt, fun j hj => ?_⟩, by simp only []; omega, ?_⟩
          · rcases Nat.lt_succ_iff_lt_or_eq.1 hj with hj | rfl
            · exact hall j hj
            · rw [hg, hg2]
              simpa using h
          · exact ⟨by repeat' ((conv => whnf); first | exact trivial | refine And.intro (by (conv => arg 1; whnf); first | (with_reducible exact .refl) | exact dle_int (wrap_succ (by omega)) | exact .refl) ?_), by repeat' ((conv => whnf); first | exact trivial | refine And.intro ?_ ?_ | exact .refl), rfl⟩
      · have hge : ¬ i < a.length := by simpa using h
        conv => whnf
        refine dle_bool ?_
        rw [sameI, allB_true.2 (fun j hj => hall j (by omega)), h0]
        simp
theorem c_fastvote_Same (a b : List Int) (ha : a.length ≤ maxLen) : Ret Tryz.prog 116 [.lst 1 (a.map intE) false, .lst 1 (b.map intE) false] (.v (.bool (sameI a b))) := by
  refine ret_of_body (fn := Tryz.f116) (c := Tryz.f116.body.getD .skip) hm hT (by kernel_rfl) Tryz.func116 (by kernel_rfl) (by kernel_rfl) (by kernel_rfl) (by kernel_rfl) ?_
  repeat' ((conv => whnf); first | refine And.intro (fun h => h) ?_ | refine dcond_t (by assumption) ?_ | refine dcond_f (by assumption) ?_ | (refine dcond_intro ?_ ?_ <;> intro h) | exact .refl | refine And.intro (by kernel_rfl) ?_ | refine And.intro ⟨fun h => h, fun h => h⟩ ?_ | refine .inl ⟨_, _, DleAll_refl _, c_slices_Equal_int _ _ ha, ?_⟩ | refine ⟨_, _, DleAll_refl _, fun _ => c_slices_Equal_int _ _ ha, ?_⟩ | refine ⟨_, _, DleAll_refl _, c_slices_Equal_int _ _ ha, ?_⟩ | refine Exists.intro false ?_ | (refine And.intro ?_ ?_; focus (simp; done)) | fail)
structure View where
  num : Int
  mem : List Int
def viewE (v : View) : List DV := [.v (.int .i64 v.num), .lst 1 (v.mem.map intE) false]
def placeB (l : List Int) (x : Int) : Int := findB (fun i => decide (l[i]? = some x)) l.length
theorem c_view_Place (l : List Int) (hl : l.length ≤ maxLen) (x : Int) : Ret Tryz.prog 59 [.lst 1 (l.map intE) false, .v (.int .i64 x)] (.v (.int .i64 (placeB l x))) := by
  have hl' : l.length ≤ 9223372036854775807 := hl
  refine ret_of_body (fn := Tryz.f59) (c := Tryz.f59.body.getD .skip) hm hT (by kernel_rfl) Tryz.func59 (by kernel_rfl) (by kernel_rfl) (by kernel_rfl) (by kernel_rfl) ?_
  repeat' ((conv => whnf); first | refine And.intro (fun h => h) ?_ | refine dcond_t (by assumption) ?_ | refine dcond_f (by assumption) ?_ | (refine dcond_intro ?_ ?_ <;> intro h) | exact .refl | refine And.intro (by kernel_rfl) ?_ | refine And.intro ⟨fun h => h, fun h => h⟩ ?_ | refine Exists.intro false ?_ | (refine And.intro ?_ ?_; focus (simp; done)) | fail)
  refine ⟨Nat, fun i => ⟨[(1, .v (.int .i64 x)), (7, .lst 1 (l.map intE) false), (8, i64 (l.map intE).length), (9, i64 i)], []⟩, fun i => i ≤ l.length ∧ ∀ j, j < i → decide (l[j]? = some x) = false, fun i => l.length - i, [], ⟨0, ⟨Nat.zero_le _, by omega⟩, ?_⟩, ?_⟩
  · exact ⟨by repeat' ((conv => whnf); first | exact trivial | refine And.intro (by (conv => arg 1; whnf); first | (with_reducible exact .refl) | exact dle_int (wrap_succ (by omega)) | exact .refl) ?_), by repeat' ((conv => whnf); first | exact trivial | refine And.intro ?_ ?_ | exact .refl), rfl⟩
  · intro i ⟨hi, hall⟩
    repeat' ((conv => whnf); first | refine And.intro (fun h => h) ?_ | refine dcond_t (by assumption) ?_ | refine dcond_f (by assumption) ?_ | (refine dcond_intro ?_ ?_ <;> intro h) | exact .refl | refine And.intro (by kernel_rfl) ?_ | refine And.intro ⟨fun h => h, fun h => h⟩ ?_ | refine Exists.intro false ?_ | (refine And.intro ?_ ?_; focus (simp; done)) | fail)
    · have hlt : i < l.length := by simpa using h
      repeat' ((conv => whnf); first | refine And.intro (fun h => h) ?_ | refine dcond_t (by assumption) ?_ | refine dcond_f (by assumption) ?_ | (refine dcond_intro ?_ ?_ <;> intro h) | exact .refl | refine And.intro (by kernel_rfl) ?_ | refine And.intro ⟨fun h => h, fun h => h⟩ ?_ | refine ⟨_, _, And.intro ⟨rfl, get_map hlt⟩ ?_⟩ | refine Exists.intro false ?_ | (refine And.intro ?_ ?_; focus (simp; done)) | fail)
      · have h2 := h
        refine dle_int (findB_at hlt ?_ hall).symm
        simpa [hlt] using h2
      · have h2 := h
        conv => whnf
        refine ⟨i + 1, ⟨hlt, fun j hj => ?_⟩, by simp only []; omega, ?_⟩
        · rcases Nat.lt_succ_iff_lt_or_eq.1 hj with hj | rfl
          · exact hall j hj
          · simpa [hlt] using h2
        · exact ⟨by repeat' ((conv => whnf); first | exact trivial | refine And.intro (by (conv => arg 1; whnf); first | (with_reducible exact .refl) | exact dle_int (wrap_succ (by omega)) | exact .refl) ?_), by repeat' ((conv => whnf); first | exact trivial | refine And.intro ?_ ?_ | exact .refl), rfl⟩
    · have hge : ¬ i < l.length := by simpa using h
      conv => whnf
      refine dle_int (findB_none (fun j hj => hall j (by omega))).symm
def inB (l : List Int) (x : Int) : Bool := decide (0 ≤ placeB l x)
theorem c_view_Contains (l : List Int) (hl : l.length ≤ maxLen) (x : Int) : Ret Tryz.prog 33 [.lst 1 (l.map intE) false, .v (.int .i64 x)] (.v (.bool (inB l x))) := by
  refine ret_of_body (fn := Tryz.f33) (c := Tryz.f33.body.getD .skip) hm hT (by kernel_rfl) Tryz.func33 (by kernel_rfl) (by kernel_rfl) (by kernel_rfl) (by kernel_rfl) ?_
  repeat' ((conv => whnf); first | refine And.intro (fun h => h) ?_ | refine dcond_t (by assumption) ?_ | refine dcond_f (by assumption) ?_ | (refine dcond_intro ?_ ?_ <;> intro h) | exact .refl | refine And.intro (by kernel_rfl) ?_ | refine And.intro ⟨fun h => h, fun h => h⟩ ?_ | refine .inl ⟨_, _, DleAll_refl _, c_view_Place _ hl _, ?_⟩ | refine ⟨_, _, DleAll_refl _, fun _ => c_view_Place _ hl _, ?_⟩ | refine ⟨_, _, DleAll_refl _, c_view_Place _ hl _, ?_⟩ | refine Exists.intro false ?_ | (refine And.intro ?_ ?_; focus (simp; done)) | fail)
theorem c_view_ValidMembers (l : List Int) (hl : l.length ≤ maxLen) : Ret Tryz.prog 32 [.lst 1 (l.map intE) false] (.v (.bool (idsB l 16))) := by
  refine ret_of_body (fn := Tryz.f32) (c := Tryz.f32.body.getD .skip) hm hT (by kernel_rfl) Tryz.func32 (by kernel_rfl) (by kernel_rfl) (by kernel_rfl) (by kernel_rfl) ?_
  repeat' ((conv => whnf); first | refine And.intro (fun h => h) ?_ | refine dcond_t (by assumption) ?_ | refine dcond_f (by assumption) ?_ | (refine dcond_intro ?_ ?_ <;> intro h) | exact .refl | refine And.intro (by kernel_rfl) ?_ | refine And.intro ⟨fun h => h, fun h => h⟩ ?_ | refine .inl ⟨_, _, DleAll_refl _, c_view_identifiers _ hl _, ?_⟩ | refine ⟨_, _, DleAll_refl _, fun _ => c_view_identifiers _ hl _, ?_⟩ | refine ⟨_, _, DleAll_refl _, c_view_identifiers _ hl _, ?_⟩ | refine Exists.intro false ?_ | (refine And.intro ?_ ?_; focus (simp; done)) | fail)
def viewB (v : View) : Bool := (decide (0 ≤ v.num) && decide (v.num ≤ 1099511627776)) && idsB v.mem 16
theorem c_view_Valid (v : View) (hl : v.mem.length ≤ maxLen) : Ret Tryz.prog 43 [.agg (viewE v)] (.v (.bool (viewB v))) := by
  refine ret_of_body (fn := Tryz.f43) (c := Tryz.f43.body.getD .skip) hm hT (by kernel_rfl) Tryz.func43 (by kernel_rfl) (by kernel_rfl) (by kernel_rfl) (by kernel_rfl) ?_
  repeat' ((conv => whnf); first | refine And.intro (fun h => h) ?_ | refine dcond_t (by assumption) ?_ | refine dcond_f (by assumption) ?_ | (refine dcond_intro ?_ ?_ <;> intro h) | exact .refl | refine And.intro (by kernel_rfl) ?_ | refine And.intro ⟨fun h => h, fun h => h⟩ ?_ | refine .inl ⟨_, _, DleAll_refl _, c_view_ValidMembers _ hl, ?_⟩ | refine ⟨_, _, DleAll_refl _, fun _ => c_view_ValidMembers _ hl, ?_⟩ | refine ⟨_, _, DleAll_refl _, c_view_ValidMembers _ hl, ?_⟩ | refine Exists.intro false ?_ | (refine And.intro ?_ ?_; focus (simp; done)) | fail)
def splitR (v : View) (cut l other : List Int) : List Int × List Int :=
  bif !viewB v || !idsB cut 32 then ([], []) else (l.filter (inB other), l.filter (fun x => !inB other x))
def partA (other l : List Int) (i : Nat) : List (List DV) := ((l.take i).filter (inB other)).map intE
def partB (other l : List Int) (i : Nat) : List (List DV) := ((l.take i).filter (fun x => !inB other x)).map intE
theorem partA_len (other l : List Int) (i : Nat) : (partA other l i).length ≤ i := by
  simp only [partA, List.length_map]
  exact Nat.le_trans (List.length_filter_le _ _) (by simp; omega)
theorem partB_len (other l : List Int) (i : Nat) : (partB other l i).length ≤ i := by
  simp only [partB, List.length_map]
  exact Nat.le_trans (List.length_filter_le _ _) (by simp; omega)
theorem part_in {other l : List Int} {i : Nat} (hlt : i < l.length) (h : inB other (l[i]'hlt) = true) : partA other l i ++ [intE (l[i]'hlt)] = partA other l (i + 1) ∧ partB other l i = partB other l (i + 1) := by
  simp only [partA, partB, List.take_succ_eq_append_getElem hlt, List.filter_append]
  simp [h]
theorem part_out {other l : List Int} {i : Nat} (hlt : i < l.length) (h : inB other (l[i]'hlt) = false) : partA other l i = partA other l (i + 1) ∧ partB other l i ++ [intE (l[i]'hlt)] = partB other l (i + 1) := by
  simp only [partA, partB, List.take_succ_eq_append_getElem hlt, List.filter_append]
  simp [h]
set_option maxRecDepth 100000 in
theorem c_view_split (v : View) (hv : v.mem.length ≤ maxLen) (cut l other : List Int) (hc : cut.length ≤ maxLen) (hl : l.length ≤ 1000000) (ho : other.length ≤ maxLen) :
    Ret Tryz.prog 176 [.agg (viewE v), .lst 1 (cut.map intE) false, .lst 1 (l.map intE) false, .lst 1 (other.map intE) false] (.tup [.lst 1 ((splitR v cut l other).1.map intE) false, .lst 1 ((splitR v cut l other).2.map intE) false]) := by
  refine ret_of_body (fn := Tryz.f176) (c := Tryz.f176.body.getD .skip) hm hT (by kernel_rfl) Tryz.func176 (by kernel_rfl) (by kernel_rfl) (by kernel_rfl) (by kernel_rfl) ?_
  repeat' ((conv => whnf); first | refine And.intro (fun h => h) ?_ | refine dcond_t (by assumption) ?_ | refine dcond_f (by assumption) ?_ | (refine dcond_intro ?_ ?_ <;> intro h) | exact .refl | refine And.intro (by kernel_rfl) ?_ | refine And.intro ⟨fun h => h, fun h => h⟩ ?_ | refine .inl ⟨_, _, DleAll_refl _, c_view_Valid _ hv, ?_⟩ | refine ⟨_, _, DleAll_refl _, fun _ => c_view_Valid _ hv, ?_⟩ | refine ⟨_, _, DleAll_refl _, c_view_Valid _ hv, ?_⟩ | refine .inl ⟨_, _, DleAll_refl _, c_view_ValidCut _ hc, ?_⟩ | refine ⟨_, _, DleAll_refl _, fun _ => c_view_ValidCut _ hc, ?_⟩ | refine ⟨_, _, DleAll_refl _, c_view_ValidCut _ hc, ?_⟩ | refine Exists.intro false ?_ | (refine And.intro ?_ ?_; focus (simp; done)) | fail)
  all_goals (conv => whnf)
  · simp only [splitR, h, cond_true]
    exact dle_tupA ⟨.nl, .nl, trivial⟩
  · simp only [splitR, h, cond_false]
    clear h
    refine ⟨Nat, fun i => ⟨[(3, .lst 1 (other.map intE) false), (8, .own 1), (9, .own 2), (20, .lst 1 (l.map intE) false), (21, i64 (l.map intE).length), (22, i64 i)], [.cells 24 (viewE v), .row 3 1 (partA other l i), .row 3 1 (partB other l i)]⟩, fun i => i ≤ l.length, fun i => l.length - i, [.slot 8 3 1, .slot 9 3 1], ⟨0, Nat.zero_le _, ?_⟩, ?_⟩
    · conv => whnf
      exact ⟨by repeat' ((conv => whnf); first | exact trivial | refine And.intro (by (conv => arg 1; whnf); first | (with_reducible exact .refl) | exact dle_int (wrap_succ (by omega)) | exact .refl) ?_), by repeat' ((conv => whnf); first | exact trivial | refine And.intro ?_ ?_ | exact .refl), rfl⟩
    · intro i hi
      repeat' ((conv => whnf); first | refine And.intro (fun h => h) ?_ | refine dcond_t (by assumption) ?_ | refine dcond_f (by assumption) ?_ | (refine dcond_intro ?_ ?_ <;> intro h) | exact .refl | refine And.intro (by kernel_rfl) ?_ | refine And.intro ⟨fun h => h, fun h => h⟩ ?_ | refine Exists.intro false ?_ | (refine And.intro ?_ ?_; focus (simp; done)) | fail)
      · have hlt : i < l.length := by simpa using h
        clear h
        repeat' ((conv => whnf); first | refine And.intro (fun h => h) ?_ | refine dcond_t (by assumption) ?_ | refine dcond_f (by assumption) ?_ | (refine dcond_intro ?_ ?_ <;> intro h) | exact .refl | refine And.intro (by kernel_rfl) ?_ | refine And.intro ⟨fun h => h, fun h => h⟩ ?_ | refine ⟨_, _, And.intro ⟨rfl, get_map hlt⟩ ?_⟩ | refine .inl ⟨_, _, DleAll_refl _, c_view_Contains _ ho _, ?_⟩ | refine ⟨_, _, DleAll_refl _, fun _ => c_view_Contains _ ho _, ?_⟩ | refine ⟨_, _, DleAll_refl _, c_view_Contains _ ho _, ?_⟩ | refine Exists.intro false ?_ | (refine And.intro ?_ ?_; focus (simp; done)) | fail)
        · have hA := partA_len other l i
          have hp := part_in hlt h
          conv => whnf
          refine And.intro (fitsI (by simp; omega)) ?_
          repeat' ((conv => whnf); first | refine And.intro (fun h => h) ?_ | refine dcond_t (by assumption) ?_ | refine dcond_f (by assumption) ?_ | (refine dcond_intro ?_ ?_ <;> intro h) | exact .refl | refine And.intro (by kernel_rfl) ?_ | refine And.intro ⟨fun h => h, fun h => h⟩ ?_ | refine Exists.intro false ?_ | (refine And.intro ?_ ?_; focus (simp; done)) | fail)
          all_goals (conv => whnf)
          refine ⟨i + 1, hlt, by simp only []; omega, ?_⟩
          exact ⟨⟨.refl, .refl, .refl, .refl, .refl, dle_int (wrap_succ (by omega)), trivial⟩, ⟨.refl, ole_row hp.1, ole_row hp.2, trivial⟩, rfl⟩
        · have hB := partB_len other l i
          have hp := part_out hlt h
          conv => whnf
          refine And.intro (fitsI (by simp; omega)) ?_
          repeat' ((conv => whnf); first | refine And.intro (fun h => h) ?_ | refine dcond_t (by assumption) ?_ | refine dcond_f (by assumption) ?_ | (refine dcond_intro ?_ ?_ <;> intro h) | exact .refl | refine And.intro (by kernel_rfl) ?_ | refine And.intro ⟨fun h => h, fun h => h⟩ ?_ | refine Exists.intro false ?_ | (refine And.intro ?_ ?_; focus (simp; done)) | fail)
          all_goals (conv => whnf)
          refine ⟨i + 1, hlt, by simp only []; omega, ?_⟩
          exact ⟨⟨.refl, .refl, .refl, .refl, .refl, dle_int (wrap_succ (by omega)), trivial⟩, ⟨.refl, ole_row hp.1, ole_row hp.2, trivial⟩, rfl⟩
      · have hge : ¬ i < l.length := by simpa using h
        have : i = l.length := by omega
        subst this
        conv => whnf
        refine dle_tupA ⟨dle_lst ?_, dle_lst ?_, trivial⟩
        · simp [partA]
        · simp [partB]
theorem c_view_Survivors (v : View) (hv : v.mem.length ≤ 1000000) (cut : List Int) (hc : cut.length ≤ 1000000) : Ret Tryz.prog 107 [.agg (viewE v), .lst 1 (cut.map intE) false] (.lst 1 ((splitR v cut v.mem cut).2.map intE) false) := by
  have h1 : v.mem.length ≤ maxLen := Nat.le_trans hv (by decide)
  have h2 : cut.length ≤ maxLen := Nat.le_trans hc (by decide)
  refine ret_of_body (fn := Tryz.f107) (c := Tryz.f107.body.getD .skip) hm hT (by kernel_rfl) Tryz.func107 (by kernel_rfl) (by kernel_rfl) (by kernel_rfl) (by kernel_rfl) ?_
  repeat' ((conv => whnf); first | refine And.intro (fun h => h) ?_ | refine dcond_t (by assumption) ?_ | refine dcond_f (by assumption) ?_ | (refine dcond_intro ?_ ?_ <;> intro h) | exact .refl | refine And.intro (by kernel_rfl) ?_ | refine And.intro ⟨fun h => h, fun h => h⟩ ?_ | refine .inl ⟨_, _, DleAll_refl _, c_view_split _ h1 _ _ _ h2 hv h2, ?_⟩ | refine ⟨_, _, DleAll_refl _, fun _ => c_view_split _ h1 _ _ _ h2 hv h2, ?_⟩ | refine ⟨_, _, DleAll_refl _, c_view_split _ h1 _ _ _ h2 hv h2, ?_⟩ | refine Exists.intro false ?_ | (refine And.intro ?_ ?_; focus (simp; done)) | fail)
theorem c_view_Joiners (v : View) (hv : v.mem.length ≤ 1000000) (cut : List Int) (hc : cut.length ≤ 1000000) : Ret Tryz.prog 108 [.agg (viewE v), .lst 1 (cut.map intE) false] (.lst 1 ((splitR v cut cut v.mem).2.map intE) false) := by
  have h1 : v.mem.length ≤ maxLen := Nat.le_trans hv (by decide)
  have h2 : cut.length ≤ maxLen := Nat.le_trans hc (by decide)
  refine ret_of_body (fn := Tryz.f108) (c := Tryz.f108.body.getD .skip) hm hT (by kernel_rfl) Tryz.func108 (by kernel_rfl) (by kernel_rfl) (by kernel_rfl) (by kernel_rfl) ?_
  repeat' ((conv => whnf); first | refine And.intro (fun h => h) ?_ | refine dcond_t (by assumption) ?_ | refine dcond_f (by assumption) ?_ | (refine dcond_intro ?_ ?_ <;> intro h) | exact .refl | refine And.intro (by kernel_rfl) ?_ | refine And.intro ⟨fun h => h, fun h => h⟩ ?_ | refine .inl ⟨_, _, DleAll_refl _, c_view_split _ h1 _ _ _ h2 hc h1, ?_⟩ | refine ⟨_, _, DleAll_refl _, fun _ => c_view_split _ h1 _ _ _ h2 hc h1, ?_⟩ | refine ⟨_, _, DleAll_refl _, c_view_split _ h1 _ _ _ h2 hc h1, ?_⟩ | refine Exists.intro false ?_ | (refine And.intro ?_ ?_; focus (simp; done)) | fail)
theorem c_view_counted (n : Int) : Ret Tryz.prog 220 [.v (.int .i64 n)] (.v (.bool (decide (1 ≤ n) && decide (n ≤ 16)))) := by
  refine ret_of_body (fn := Tryz.f220) (c := Tryz.f220.body.getD .skip) hm hT (by kernel_rfl) Tryz.func220 (by kernel_rfl) (by kernel_rfl) (by kernel_rfl) (by kernel_rfl) ?_
  repeat' ((conv => whnf); first | refine And.intro (fun h => h) ?_ | refine dcond_t (by assumption) ?_ | refine dcond_f (by assumption) ?_ | (refine dcond_intro ?_ ?_ <;> intro h) | exact .refl | refine And.intro (by kernel_rfl) ?_ | refine And.intro ⟨fun h => h, fun h => h⟩ ?_ | refine Exists.intro false ?_ | (refine And.intro ?_ ?_; focus (simp; done)) | fail)
def mergeL : List Int → List Int → List Int
  | a, [] => a
  | a, x :: b => a.takeWhile (fun y => !decide (x < y)) ++ x :: mergeL (a.dropWhile (fun y => !decide (x < y))) b
theorem merge_gt {y x : Int} {a b : List Int} (h : x < y) : mergeL (y :: a) (x :: b) = x :: mergeL (y :: a) b := by simp [mergeL, h]
theorem merge_le {y x : Int} {a b : List Int} (h : ¬ x < y) : mergeL (y :: a) (x :: b) = y :: mergeL a (x :: b) := by simp [mergeL, h]
theorem merge_nil {x : Int} {b : List Int} : mergeL [] (x :: b) = x :: mergeL [] b := by simp [mergeL]
theorem c_view_merge (a b : List Int) (ha : a.length ≤ 500000) (hb : b.length ≤ 500000) : Ret Tryz.prog 109 [.lst 1 (a.map intE) false, .lst 1 (b.map intE) false] (.lst 1 ((mergeL a b).map intE) false) := by
  refine ret_of_body (fn := Tryz.f109) (c := Tryz.f109.body.getD .skip) hm hT (by kernel_rfl) Tryz.func109 (by kernel_rfl) (by kernel_rfl) (by kernel_rfl) (by kernel_rfl) ?_
  repeat' ((conv => whnf); first | refine And.intro (fun h => h) ?_ | refine dcond_t (by assumption) ?_ | refine dcond_f (by assumption) ?_ | (refine dcond_intro ?_ ?_ <;> intro h) | exact .refl | refine And.intro (by kernel_rfl) ?_ | refine And.intro ⟨fun h => h, fun h => h⟩ ?_ | refine Exists.intro false ?_ | (refine And.intro ?_ ?_; focus (simp; done)) | fail)
  refine ⟨Nat × Nat × List Int, fun s => ⟨[(0, .lst 1 (a.map intE) false), (5, .own 0), (6, i64 s.2.1), (9, .lst 1 (b.map intE) false), (10, i64 (b.map intE).length), (11, i64 s.1)], [.row 3 1 (s.2.2.map intE)]⟩,
    fun s => s.1 ≤ b.length ∧ s.2.1 ≤ a.length ∧ s.2.2.length ≤ s.1 + s.2.1 ∧ s.2.2 ++ mergeL (a.drop s.2.1) (b.drop s.1) = mergeL a b, fun s => b.length - s.1, [.slot 5 3 1], ⟨(0, 0, []), ⟨Nat.zero_le _, Nat.zero_le _, Nat.zero_le _, rfl⟩, ?_⟩, ?_⟩
  · conv => whnf
    exact ⟨by repeat' ((conv => whnf); first | exact trivial | refine And.intro (by (conv => arg 1; whnf); first | (with_reducible exact .refl) | exact dle_int (wrap_succ (by omega)) | exact .refl) ?_), by repeat' ((conv => whnf); first | exact trivial | refine And.intro ?_ ?_ | exact .refl), rfl⟩
  · intro ⟨j, i, out⟩ ⟨hj, hi, ho, hm⟩
    simp only at hj hi ho hm
    repeat' ((conv => whnf); first | refine And.intro (fun h => h) ?_ | refine dcond_t (by assumption) ?_ | refine dcond_f (by assumption) ?_ | (refine dcond_intro ?_ ?_ <;> intro h) | exact .refl | refine And.intro (by kernel_rfl) ?_ | refine And.intro ⟨fun h => h, fun h => h⟩ ?_ | refine Exists.intro false ?_ | (refine And.intro ?_ ?_; focus (simp; done)) | fail)
    · have hlt : j < b.length := by simpa using h
      clear h
      have hd : b.drop j = b[j] :: b.drop (j + 1) := List.drop_eq_getElem_cons hlt
      repeat' ((conv => whnf); first | refine And.intro (fun h => h) ?_ | refine dcond_t (by assumption) ?_ | refine dcond_f (by assumption) ?_ | (refine dcond_intro ?_ ?_ <;> intro h) | exact .refl | refine And.intro (by kernel_rfl) ?_ | refine And.intro ⟨fun h => h, fun h => h⟩ ?_ | refine ⟨_, _, And.intro ⟨rfl, get_map hlt⟩ ?_⟩ | refine Exists.intro false ?_ | (refine And.intro ?_ ?_; focus (simp; done)) | fail)
      conv => whnf
      refine ⟨Nat × List Int, fun s => ⟨[(0, .lst 1 (a.map intE) false), (5, .own 0), (6, i64 s.1), (8, .v (.int .i64 b[j])), (9, .lst 1 (b.map intE) false), (10, i64 (b.map intE).length), (11, i64 j)], [.row 3 1 (s.2.map intE)]⟩,
        fun s => s.1 ≤ a.length ∧ s.2.length ≤ j + s.1 ∧ s.2 ++ mergeL (a.drop s.1) (b.drop j) = mergeL a b, fun s => a.length - s.1, [], ⟨(i, out), ⟨hi, ho, hm⟩, ?_⟩, ?_⟩
      · exact ⟨by repeat' ((conv => whnf); first | exact trivial | refine And.intro (by (conv => arg 1; whnf); first | (with_reducible exact .refl) | exact dle_int (wrap_succ (by omega)) | exact .refl) ?_), by repeat' ((conv => whnf); first | exact trivial | refine And.intro ?_ ?_ | exact .refl), rfl⟩
      · intro ⟨i, out⟩ ⟨hi, ho, hm⟩
        simp only at hi ho hm
        repeat' ((conv => whnf); first | refine And.intro (fun h => h) ?_ | refine dcond_t (by assumption) ?_ | refine dcond_f (by assumption) ?_ | (refine dcond_intro ?_ ?_ <;> intro h) | exact .refl | refine And.intro (by kernel_rfl) ?_ | refine And.intro ⟨fun h => h, fun h => h⟩ ?_ | refine Exists.intro false ?_ | (refine And.intro ?_ ?_; focus (simp; done)) | fail)
        · have hlt2 : i < a.length := by simpa using h
          clear h
          have hd2 : a.drop i = a[i] :: a.drop (i + 1) := List.drop_eq_getElem_cons hlt2
          repeat' ((conv => whnf); first | refine And.intro (fun h => h) ?_ | refine dcond_t (by assumption) ?_ | refine dcond_f (by assumption) ?_ | (refine dcond_intro ?_ ?_ <;> intro h) | exact .refl | refine And.intro (by kernel_rfl) ?_ | refine And.intro ⟨fun h => h, fun h => h⟩ ?_ | refine ⟨_, _, And.intro ⟨rfl, get_map hlt2⟩ ?_⟩ | refine Exists.intro false ?_ | (refine And.intro ?_ ?_; focus (simp; done)) | fail)
          · conv => whnf
            refine And.intro (fitsI (by simp; omega)) ?_
            repeat' ((conv => whnf); first | refine And.intro (fun h => h) ?_ | refine dcond_t (by assumption) ?_ | refine dcond_f (by assumption) ?_ | (refine dcond_intro ?_ ?_ <;> intro h) | exact .refl | refine And.intro (by kernel_rfl) ?_ | refine And.intro ⟨fun h => h, fun h => h⟩ ?_ | refine Exists.intro false ?_ | (refine And.intro ?_ ?_; focus (simp; done)) | fail)
            all_goals (conv => whnf)
            refine ⟨(j + 1, i, out ++ [b[j]]), ⟨hlt, hi, by simp; omega, ?_⟩, by simp only []; omega, ?_⟩
            · have h : b[j] < a[i] := by simpa using h
              rw [hd, hd2, merge_gt h] at hm
              rw [← hm, hd2]
              simp
            · refine ⟨by repeat' ((conv => whnf); first | exact trivial | refine And.intro (by (conv => arg 1; whnf); first | (with_reducible exact .refl) | exact dle_int (wrap_succ (by omega)) | exact .refl) ?_), ⟨ole_row ?_, trivial⟩, rfl⟩
              simp
              rfl
          · conv => whnf
            refine And.intro (fitsI (by simp; omega)) ?_
            repeat' ((conv => whnf); first | refine And.intro (fun h => h) ?_ | refine dcond_t (by assumption) ?_ | refine dcond_f (by assumption) ?_ | (refine dcond_intro ?_ ?_ <;> intro h) | exact .refl | refine And.intro (by kernel_rfl) ?_ | refine And.intro ⟨fun h => h, fun h => h⟩ ?_ | refine Exists.intro false ?_ | (refine And.intro ?_ ?_; focus (simp; done)) | fail)
            all_goals (conv => whnf)
            refine ⟨(i + 1, out ++ [a[i]]), ⟨hlt2, by simp; omega, ?_⟩, by simp only []; omega, ?_⟩
            · have h : ¬ b[j] < a[i] := by simpa using h
              rw [hd, hd2, merge_le h] at hm
              rw [← hm, hd]
              simp
            · refine ⟨by repeat' ((conv => whnf); first | exact trivial | refine And.intro (by (conv => arg 1; whnf); first | (with_reducible exact .refl) | exact dle_int (wrap_succ (by omega)) | exact .refl) ?_), ⟨ole_row ?_, trivial⟩, rfl⟩
              simp
              rfl
        · have hge : ¬ i < a.length := by simpa using h
          have : i = a.length := by omega
          subst this
          conv => whnf
          refine And.intro (fitsI (by simp; omega)) ?_
          repeat' ((conv => whnf); first | refine And.intro (fun h => h) ?_ | refine dcond_t (by assumption) ?_ | refine dcond_f (by assumption) ?_ | (refine dcond_intro ?_ ?_ <;> intro h) | exact .refl | refine And.intro (by kernel_rfl) ?_ | refine And.intro ⟨fun h => h, fun h => h⟩ ?_ | refine Exists.intro false ?_ | (refine And.intro ?_ ?_; focus (simp; done)) | fail)
          all_goals (conv => whnf)
          refine ⟨(j + 1, a.length, out ++ [b[j]]), ⟨hlt, hi, by simp; omega, ?_⟩, by simp only []; omega, ?_⟩
          · rw [hd, List.drop_length, merge_nil] at hm
            rw [← hm]
            simp
          · refine ⟨by repeat' ((conv => whnf); first | exact trivial | refine And.intro (by (conv => arg 1; whnf); first | (with_reducible exact .refl) | exact dle_int (wrap_succ (by omega)) | exact .refl) ?_), ⟨ole_row ?_, trivial⟩, rfl⟩
            simp
            rfl
    · have hge : ¬ j < b.length := by simpa using h
      have : j = b.length := by omega
      subst this
      conv => whnf
      refine ⟨i, And.intro ⟨⟨_, rfl⟩, by simpa using hi⟩ ?_⟩
      conv => whnf
      refine And.intro (fitsI (by simp; omega)) ?_
      repeat' ((conv => whnf); first | refine And.intro (fun h => h) ?_ | refine dcond_t (by assumption) ?_ | refine dcond_f (by assumption) ?_ | (refine dcond_intro ?_ ?_ <;> intro h) | exact .refl | refine And.intro (by kernel_rfl) ?_ | refine And.intro ⟨fun h => h, fun h => h⟩ ?_ | refine Exists.intro false ?_ | (refine And.intro ?_ ?_; focus (simp; done)) | fail)
      all_goals (conv => whnf)
      refine dle_lst ?_
      rw [List.drop_length] at hm
      rw [← hm]
      simp [mergeL]
theorem split_len (v : View) (cut l o : List Int) : (splitR v cut l o).2.length ≤ l.length := by
  unfold splitR
  cases (!viewB v || !idsB cut 32)
  · exact List.length_filter_le _ _
  · simp
def stayL (v : View) (cut : List Int) : List Int := (splitR v cut v.mem cut).2
def comeL (v : View) (cut : List Int) : List Int := (splitR v cut cut v.mem).2
def nextR (v : View) (cut : List Int) : View × Int :=
  bif !viewB v || !idsB cut 32 then (⟨0, []⟩, 1)
  else bif decide (2 * ((stayL v cut).length : Int) ≤ (v.mem.length : Int)) then (⟨0, []⟩, 9)
  else bif decide (v.num = 1099511627776) || decide (16 < ((stayL v cut).length : Int) + ((comeL v cut).length : Int)) then (⟨0, []⟩, 5)
  else (⟨IntKind.i64.wrap (v.num + 1), mergeL (stayL v cut) (comeL v cut)⟩, 0)
set_option maxRecDepth 100000 in
theorem c_view_Next (v : View) (hv : v.mem.length ≤ 500000) (cut : List Int) (hc : cut.length ≤ 500000) : Ret Tryz.prog 61 [.agg (viewE v), .lst 1 (cut.map intE) false] (.tup [.agg (viewE (nextR v cut).1), .v (.int .i64 (nextR v cut).2)]) := by
  have h1 : v.mem.length ≤ maxLen := Nat.le_trans hv (by decide)
  have h2 : cut.length ≤ maxLen := Nat.le_trans hc (by decide)
  have h3 : (stayL v cut).length ≤ 500000 := Nat.le_trans (split_len _ _ _ _) hv
  have h4 : (comeL v cut).length ≤ 500000 := Nat.le_trans (split_len _ _ _ _) hc
  have e71 : Ret Tryz.prog 107 [.agg (viewE v), .lst 1 (cut.map intE) false] (.lst 1 ((stayL v cut).map intE) false) := c_view_Survivors v (by omega) cut (by omega)
  have e72 : Ret Tryz.prog 108 [.agg (viewE v), .lst 1 (cut.map intE) false] (.lst 1 ((comeL v cut).map intE) false) := c_view_Joiners v (by omega) cut (by omega)
  have w1 : IntKind.i64.wrap (2 * ((stayL v cut).length : Int)) = 2 * ((stayL v cut).length : Int) := wrap_i64 (by omega) (by omega)
  have w2 : IntKind.i64.wrap (((stayL v cut).length : Int) + ((comeL v cut).length : Int)) = ((stayL v cut).length : Int) + ((comeL v cut).length : Int) := wrap_i64 (by omega) (by omega)
  refine ret_of_body (fn := Tryz.f61) (c := Tryz.f61.body.getD .skip) hm hT (by kernel_rfl) Tryz.func61 (by kernel_rfl) (by kernel_rfl) (by kernel_rfl) (by kernel_rfl) ?_
  repeat' ((conv => whnf); first | refine And.intro (fun h => h) ?_ | refine dcond_t (by assumption) ?_ | refine dcond_f (by assumption) ?_ | (refine dcond_intro ?_ ?_ <;> intro h) | exact .refl | refine And.intro (by kernel_rfl) ?_ | refine And.intro ⟨fun h => h, fun h => h⟩ ?_ | refine .inl ⟨_, _, DleAll_refl _, c_view_Valid _ h1, ?_⟩ | refine ⟨_, _, DleAll_refl _, fun _ => c_view_Valid _ h1, ?_⟩ | refine ⟨_, _, DleAll_refl _, c_view_Valid _ h1, ?_⟩ | refine .inl ⟨_, _, DleAll_refl _, c_view_ValidCut _ h2, ?_⟩ | refine ⟨_, _, DleAll_refl _, fun _ => c_view_ValidCut _ h2, ?_⟩ | refine ⟨_, _, DleAll_refl _, c_view_ValidCut _ h2, ?_⟩ | refine .inl ⟨_, _, DleAll_refl _, e71, ?_⟩ | refine ⟨_, _, DleAll_refl _, fun _ => e71, ?_⟩ | refine ⟨_, _, DleAll_refl _, e71, ?_⟩ | refine .inl ⟨_, _, DleAll_refl _, e72, ?_⟩ | refine ⟨_, _, DleAll_refl _, fun _ => e72, ?_⟩ | refine ⟨_, _, DleAll_refl _, e72, ?_⟩ | refine .inl ⟨_, _, DleAll_refl _, c_view_merge _ _ h3 h4, ?_⟩ | refine ⟨_, _, DleAll_refl _, fun _ => c_view_merge _ _ h3 h4, ?_⟩ | refine ⟨_, _, DleAll_refl _, c_view_merge _ _ h3 h4, ?_⟩ | refine Exists.intro false ?_ | (refine And.intro ?_ ?_; focus (simp; done)) | fail)
  all_goals (conv => whnf)
  all_goals clear e71 e72
  all_goals (try simp only [List.length_map, w1, w2] at *)
  all_goals simp only [nextR, *, cond_true, cond_false]
  · exact dle_tupA ⟨dle_aggA ⟨.refl, .nl, trivial⟩, .refl, trivial⟩
  · exact dle_tupA ⟨dle_aggA ⟨.refl, .nl, trivial⟩, .refl, trivial⟩
  · exact dle_tupA ⟨dle_aggA ⟨.refl, .nl, trivial⟩, .refl, trivial⟩
  · exact .refl
theorem c_ref3_IsID (n : Int) : Ret Tryz.prog 105 [.v (.int .i64 n)] (.v (.bool (decide (1 ≤ n) && decide (n ≤ 1000)))) := by
  refine ret_of_body (fn := Tryz.f105) (c := Tryz.f105.body.getD .skip) hm hT (by kernel_rfl) Tryz.func105 (by kernel_rfl) (by kernel_rfl) (by kernel_rfl) (by kernel_rfl) ?_
  repeat' ((conv => whnf); first | refine And.intro (fun h => h) ?_ | refine dcond_t (by assumption) ?_ | refine dcond_f (by assumption) ?_ | (refine dcond_intro ?_ ?_ <;> intro h) | exact .refl | refine And.intro (by kernel_rfl) ?_ | refine And.intro ⟨fun h => h, fun h => h⟩ ?_ | refine Exists.intro false ?_ | (refine And.intro ?_ ?_; focus (simp; done)) | fail)
def riseAt (l : List Int) (i : Nat) : Bool := !(!(decide (1 ≤ l.getD i 0) && decide (l.getD i 0 ≤ 1000)) || (decide (0 < (i : Int)) && decide (l.getD i 0 ≤ l.getD (i - 1) 0)))
def riseB (l : List Int) : Bool := allB (riseAt l) l.length
theorem c_ref3_Rising (l : List Int) (hl : l.length ≤ maxLen) : Ret Tryz.prog 57 [.lst 1 (l.map intE) false] (.v (.bool (riseB l))) := by
  have hl' : l.length ≤ 9223372036854775807 := hl
  refine ret_of_body (fn := Tryz.f57) (c := Tryz.f57.body.getD .skip) hm hT (by kernel_rfl) Tryz.func57 (by kernel_rfl) (by kernel_rfl) (by kernel_rfl) (by kernel_rfl) ?_
  repeat' ((conv => whnf); first | refine And.intro (fun h => h) ?_ | refine dcond_t (by assumption) ?_ | refine dcond_f (by assumption) ?_ | (refine dcond_intro ?_ ?_ <;> intro h) | exact .refl | refine And.intro (by kernel_rfl) ?_ | refine And.intro ⟨fun h => h, fun h => h⟩ ?_ | refine Exists.intro false ?_ | (refine And.intro ?_ ?_; focus (simp; done)) | fail)
  refine ⟨Nat, fun i => ⟨[(0, .lst 1 (l.map intE) false), (3, i64 i)], []⟩, fun i => i ≤ l.length ∧ ∀ j, j < i → riseAt l j = true, fun i => l.length - i, [], ⟨0, ⟨Nat.zero_le _, by omega⟩, ?_⟩, ?_⟩
  · exact ⟨by repeat' ((conv => whnf); first | exact trivial | refine And.intro (by (conv => arg 1; whnf); first | (with_reducible exact .refl) | exact dle_int (wrap_succ (by omega)) | exact .refl) ?_), by repeat' ((conv => whnf); first | exact trivial | refine And.intro ?_ ?_ | exact .refl), rfl⟩
  · intro i ⟨hi, hall⟩
    repeat' ((conv => whnf); first | refine And.intro (fun h => h) ?_ | refine dcond_t (by assumption) ?_ | refine dcond_f (by assumption) ?_ | (refine dcond_intro ?_ ?_ <;> intro h) | exact .refl | refine And.intro (by kernel_rfl) ?_ | refine And.intro ⟨fun h => h, fun h => h⟩ ?_ | refine Exists.intro false ?_ | (refine And.intro ?_ ?_; focus (simp; done)) | fail)
    · have hlt : i < l.length := by simpa using h
      clear h
      have hg : l.getD i 0 = l[i] := by simp [hlt]
      repeat' ((conv => whnf); first | refine And.intro (fun h => h) ?_ | refine dcond_t (by assumption) ?_ | refine dcond_f (by assumption) ?_ | (refine dcond_intro ?_ ?_ <;> intro h) | exact .refl | refine And.intro (by kernel_rfl) ?_ | refine And.intro ⟨fun h => h, fun h => h⟩ ?_ | refine ⟨_, _, And.intro ⟨rfl, get_map hlt⟩ ?_⟩ | refine .inl ⟨_, _, DleAll_refl _, c_ref3_IsID _, ?_⟩ | refine ⟨_, _, DleAll_refl _, fun _ => c_ref3_IsID _, ?_⟩ | refine ⟨_, _, DleAll_refl _, c_ref3_IsID _, ?_⟩ | refine ⟨i, intE (l[i]'hlt), And.intro ⟨⟨fun h => h, fun h => h⟩, fun hg => ⟨rfl, get_map hlt⟩⟩ ?_⟩ | refine Exists.intro false ?_ | (refine And.intro ?_ ?_; focus (simp; done)) | fail)
      have hp : ∀ (hg : (!(decide (1 ≤ l[i]) && decide (l[i] ≤ 1000))) = false ∧ 0 < i), (IntKind.i64.wrap ((i : Int) - 1)) = ((i - 1 : Nat) : Int) ∧ (l.map intE)[i - 1]? = some (intE (l.getD (i - 1) 0)) := by
        rintro ⟨_, h0⟩
        refine ⟨by rw [wrap_i64 (by omega) (by omega)]; omega, ?_⟩
        have : i - 1 < l.length := by omega
        simp [this]
      refine ⟨i - 1, intE (l.getD (i - 1) 0), And.intro ⟨⟨fun h => h, fun h => h⟩, fun hg => hp ?_⟩ ?_⟩
      · simp only [Bool.and_eq_true, Bool.not_eq_true', decide_eq_true_eq] at hg
        refine ⟨?_, by omega⟩
        have := hg.1
        simpa using this
      repeat' ((conv => whnf); first | refine And.intro (fun h => h) ?_ | refine dcond_t (by assumption) ?_ | refine dcond_f (by assumption) ?_ | (refine dcond_intro ?_ ?_ <;> intro h) | exact .refl | refine And.intro (by kernel_rfl) ?_ | refine And.intro ⟨fun h => h, fun h => h⟩ ?_ | refine Exists.intro false ?_ | (refine And.intro ?_ ?_; focus (simp; done)) | fail)
      all_goals (conv => whnf)
      · refine dle_bool ?_
        have : riseAt l i = false := by simp only [riseAt, hg, h]; rfl
        rw [riseB, allB_false hlt this]
      · refine ⟨i + 1, ⟨hlt, fun j hj => ?_⟩, by simp only []; omega, ?_⟩
        · rcases Nat.lt_succ_iff_lt_or_eq.1 hj with hj | rfl
          · exact hall j hj
          · simp only [riseAt, hg, h]; rfl
        · exact ⟨by repeat' ((conv => whnf); first | exact trivial | refine And.intro (by (conv => arg 1; whnf); first | (with_reducible exact .refl) | exact dle_int (wrap_succ (by omega)) | exact .refl) ?_), by repeat' ((conv => whnf); first | exact trivial | refine And.intro ?_ ?_ | exact .refl), rfl⟩
    · have hge : ¬ i < l.length := by simpa using h
      conv => whnf
      refine dle_bool ?_
      rw [riseB, allB_true.2 (fun j hj => hall j (by omega))]
theorem c_ref1_SameInts (a b : List Int) (ha : a.length ≤ maxLen) : Ret Tryz.prog 42 [.lst 1 (a.map intE) false, .lst 1 (b.map intE) false] (.v (.bool (sameI a b))) := by
  have hl' : a.length ≤ 9223372036854775807 := ha
  refine ret_of_body (fn := Tryz.f42) (c := Tryz.f42.body.getD .skip) hm hT (by kernel_rfl) Tryz.func42 (by kernel_rfl) (by kernel_rfl) (by kernel_rfl) (by kernel_rfl) ?_
  repeat' ((conv => whnf); first | refine And.intro (fun h => h) ?_ | refine dcond_t (by assumption) ?_ | refine dcond_f (by assumption) ?_ | (refine dcond_intro ?_ ?_ <;> intro h) | exact .refl | refine And.intro (by kernel_rfl) ?_ | refine And.intro ⟨fun h => h, fun h => h⟩ ?_ | refine Exists.intro false ?_ | (refine And.intro ?_ ?_; focus (simp; done)) | fail)
  · refine dle_bool ?_
    simp only [List.length_map] at h
    have h : decide ((a.length : Int) = (b.length : Int)) = false := by simpa using h
    simp only [sameI, h, Bool.false_and]
  · have h0 : a.length = b.length := by
      simp at h
      omega
    clear h
    conv => whnf
    refine ⟨Nat, fun i => ⟨[(0, .lst 1 (a.map intE) false), (1, .lst 1 (b.map intE) false), (5, i64 i)], []⟩, fun i => i ≤ a.length ∧ ∀ j, j < i → decide (a.getD j 0 = b.getD j 0) = true, fun i => a.length - i, [], ⟨0, ⟨Nat.zero_le _, by omega⟩, ?_⟩, ?_⟩
    · exact ⟨by repeat' ((conv => whnf); first | exact trivial | refine And.intro (by (conv => arg 1; whnf); first | (with_reducible exact .refl) | exact dle_int (wrap_succ (by omega)) | exact .refl) ?_), by repeat' ((conv => whnf); first | exact trivial | refine And.intro ?_ ?_ | exact .refl), rfl⟩
    · intro i ⟨hi, hall⟩
      repeat' ((conv => whnf); first | refine And.intro (fun h => h) ?_ | refine dcond_t (by assumption) ?_ | refine dcond_f (by assumption) ?_ | (refine dcond_intro ?_ ?_ <;> intro h) | exact .refl | refine And.intro (by kernel_rfl) ?_ | refine And.intro ⟨fun h => h, fun h => h⟩ ?_ | refine Exists.intro false ?_ | (refine And.intro ?_ ?_; focus (simp; done)) | fail)
      · have hlt : i < a.length := by simpa using h
        have hlt2 : i < b.length := by omega
        clear h
        have hg : a.getD i 0 = a[i] := by simp [hlt]
        have hg2 : b.getD i 0 = b[i] := by simp [hlt2]
        repeat' ((conv => whnf); first | refine And.intro (fun h => h) ?_ | refine dcond_t (by assumption) ?_ | refine dcond_f (by assumption) ?_ | (refine dcond_intro ?_ ?_ <;> intro h) | exact .refl | refine And.intro (by kernel_rfl) ?_ | refine And.intro ⟨fun h => h, fun h => h⟩ ?_ | refine ⟨_, _, And.intro ⟨rfl, get_map hlt⟩ ?_⟩ | refine ⟨_, _, And.intro ⟨rfl, get_map hlt2⟩ ?_⟩ | refine Exists.intro false ?_ | (refine And.intro ?_ ?_; focus (simp; done)) | fail)
        · refine dle_bool ?_
          rw [sameI, allB_false hlt (i := i), Bool.and_false]
          rw [hg, hg2]
          simpa using h
        · conv => whnf
          refine ⟨i + 1, ⟨hlt, fun j hj => ?_⟩, by simp only []; omega, ?_⟩
          · rcases Nat.lt_succ_iff_lt_or_eq.1 hj with hj | rfl
            · exact hall j hj
            · rw [hg, hg2]
              simpa using h
          · exact ⟨by repeat' ((conv => whnf); first | exact trivial | refine And.intro (by (conv => arg 1; whnf); first | (with_reducible exact .refl) | exact dle_int (wrap_succ (by omega)) | exact .refl) ?_), by repeat' ((conv => whnf); first | exact trivial | refine And.intro ?_ ?_ | exact .refl), rfl⟩
      · have hge : ¬ i < a.length := by simpa using h
        conv => whnf
        refine dle_bool ?_
        rw [sameI, allB_true.2 (fun j hj => hall j (by omega)), h0]
        simp
theorem rise_iff {l : List Int} : riseB l = true ↔ ∀ i, (h : i < l.length) → 1 ≤ l[i] ∧ l[i] ≤ 1000 ∧ (0 < i → l.getD (i - 1) 0 < l[i]) := by
  rw [riseB, allB_true]
  refine forall_congr' fun i => ?_
  constructor
  · intro h hi
    have h := h hi
    have hg : l.getD i 0 = l[i] := by simp [hi]
    simp only [riseAt, hg, Bool.not_eq_true', Bool.or_eq_false_iff, Bool.not_eq_false', Bool.and_eq_true, decide_eq_true_eq, Bool.and_eq_false_iff, decide_eq_false_iff_not] at h
    omega
  · intro h hi
    have h := h hi
    have hg : l.getD i 0 = l[i] := by simp [hi]
    simp only [riseAt, hg, Bool.not_eq_true', Bool.or_eq_false_iff, Bool.not_eq_false', Bool.and_eq_true, decide_eq_true_eq, Bool.and_eq_false_iff, decide_eq_false_iff_not]
    omega
theorem oks_iff {l : List Int} : allB (okAt l) l.length = true ↔ ∀ i, (h : i < l.length) → (0 :: l).getD i 0 < l[i] ∧ l[i] ≤ 1000 := by
  rw [allB_true]
  refine forall_congr' fun i => ?_
  constructor
  · intro h hi
    have h := h hi
    have hg : l.getD i 0 = l[i] := by simp [hi]
    simp only [okAt, hg, Bool.not_eq_true', Bool.or_eq_false_iff, decide_eq_false_iff_not] at h
    omega
  · intro h hi
    have h := h hi
    have hg : l.getD i 0 = l[i] := by simp [hi]
    simp only [okAt, hg, Bool.not_eq_true', Bool.or_eq_false_iff, decide_eq_false_iff_not]
    omega
theorem rise_oks (l : List Int) : riseB l = allB (okAt l) l.length := by
  rw [Bool.eq_iff_iff, rise_iff, oks_iff]
  constructor
  · intro h i hi
    have h1 := h i hi
    cases i with
    | zero => simp; omega
    | succ i => exact ⟨by simpa using h1.2.2 (by omega), h1.2.1⟩
  · intro h i
    induction i with
    | zero => intro hi; have h1 := h 0 hi; simp at h1; exact ⟨by omega, h1.2, fun h => by omega⟩
    | succ i ih =>
      intro hi
      have h1 := h (i + 1) hi
      have h2 := ih (by omega)
      have e : (0 :: l).getD (i + 1) 0 = l[i] := by simp [show i < l.length by omega]
      rw [e] at h1
      exact ⟨by omega, h1.2, fun _ => by simp [show i < l.length by omega]; omega⟩
theorem ids_eq (l : List Int) (m : Int) : idsB l m = ((decide (1 ≤ (l.length : Int)) && decide ((l.length : Int) ≤ m)) && riseB l) := by
  rw [idsB, rise_oks]
  congr 1
  rw [Bool.eq_iff_iff]
  simp only [Bool.not_eq_true', Bool.or_eq_false_iff, decide_eq_false_iff_not, Bool.and_eq_true, decide_eq_true_eq]
  omega
def memRB (l : List Int) : Bool := (decide (1 ≤ (l.length : Int)) && decide ((l.length : Int) ≤ 16)) && riseB l
theorem memRB_eq (l : List Int) : memRB l = idsB l 16 := by rw [ids_eq, memRB]
theorem c_ref3_ValidMembers (l : List Int) (hl : l.length ≤ maxLen) : Ret Tryz.prog 26 [.lst 1 (l.map intE) false] (.v (.bool (idsB l 16))) := by
  rw [← memRB_eq]
  refine ret_of_body (fn := Tryz.f26) (c := Tryz.f26.body.getD .skip) hm hT (by kernel_rfl) Tryz.func26 (by kernel_rfl) (by kernel_rfl) (by kernel_rfl) (by kernel_rfl) ?_
  repeat' ((conv => whnf); first | refine And.intro (fun h => h) ?_ | refine dcond_t (by assumption) ?_ | refine dcond_f (by assumption) ?_ | (refine dcond_intro ?_ ?_ <;> intro h) | exact .refl | refine And.intro (by kernel_rfl) ?_ | refine And.intro ⟨fun h => h, fun h => h⟩ ?_ | refine .inl ⟨_, _, DleAll_refl _, c_ref3_Rising _ hl, ?_⟩ | refine ⟨_, _, DleAll_refl _, fun _ => c_ref3_Rising _ hl, ?_⟩ | refine ⟨_, _, DleAll_refl _, c_ref3_Rising _ hl, ?_⟩ | refine Exists.intro false ?_ | (refine And.intro ?_ ?_; focus (simp; done)) | fail)
  all_goals (conv => whnf)
  refine dle_bool ?_
  simp only [memRB, List.length_map]
theorem c_ref3_Valid (v : View) (hl : v.mem.length ≤ maxLen) : Ret Tryz.prog 8 [.agg (viewE v)] (.v (.bool (viewB v))) := by
  refine ret_of_body (fn := Tryz.f8) (c := Tryz.f8.body.getD .skip) hm hT (by kernel_rfl) Tryz.func8 (by kernel_rfl) (by kernel_rfl) (by kernel_rfl) (by kernel_rfl) ?_
  repeat' ((conv => whnf); first | refine And.intro (fun h => h) ?_ | refine dcond_t (by assumption) ?_ | refine dcond_f (by assumption) ?_ | (refine dcond_intro ?_ ?_ <;> intro h) | exact .refl | refine And.intro (by kernel_rfl) ?_ | refine And.intro ⟨fun h => h, fun h => h⟩ ?_ | refine .inl ⟨_, _, DleAll_refl _, c_ref3_ValidMembers _ hl, ?_⟩ | refine ⟨_, _, DleAll_refl _, fun _ => c_ref3_ValidMembers _ hl, ?_⟩ | refine ⟨_, _, DleAll_refl _, c_ref3_ValidMembers _ hl, ?_⟩ | refine Exists.intro false ?_ | (refine And.intro ?_ ?_; focus (simp; done)) | fail)
theorem view_ids {v : View} (hv : viewB v = true) : idsB v.mem 16 = true := by
  simp only [viewB, Bool.and_eq_true] at hv
  exact hv.2
theorem view_len {v : View} (hv : viewB v = true) : 1 ≤ v.mem.length ∧ v.mem.length ≤ 16 := by
  have hid := view_ids hv
  rw [ids_eq] at hid
  simp only [Bool.and_eq_true, decide_eq_true_eq] at hid
  omega
theorem mem_in {l : List Int} {i : Nat} (h : i < l.length) : inB l l[i] = true := by
  rcases hf : (List.range l.length).find? (fun j => decide (l[j]? = some l[i])) with _ | n
  · have := List.find?_eq_none.1 hf i (List.mem_range.2 h)
    simp [h] at this
  · simp only [inB, placeB, findB, hf]
    exact decide_eq_true (by omega)
theorem in_iff {l : List Int} {x : Int} : inB l x = true ↔ x ∈ l := by
  constructor
  · intro h
    rcases hf : (List.range l.length).find? (fun i => decide (l[i]? = some x)) with _ | n
    · simp only [inB, placeB, findB, hf] at h
      cases h
    · have hp := List.find?_some hf
      simp only [decide_eq_true_eq] at hp
      exact List.mem_of_getElem? hp
  · intro h
    obtain ⟨i, hi, rfl⟩ := List.getElem_of_mem h
    exact mem_in hi
theorem sameI_refl (l : List Int) : sameI l l = true := by
  simp only [sameI, decide_true, Bool.true_and]
  exact allB_true.2 (fun j _ => by simp)
theorem sameI_iff {a b : List Int} : sameI a b = true ↔ a = b := by
  constructor
  · intro h
    simp only [sameI, Bool.and_eq_true, decide_eq_true_eq, allB_true] at h
    refine List.ext_getElem (by omega) fun i h1 h2 => ?_
    have := h.2 i h1
    simpa [h1, h2] using this
  · rintro rfl
    exact sameI_refl a
theorem dat_ints {n : Nat} {r : List DV} (h : Dat tt (n + 2) 22 r) : ∃ l : List Int, r = [.lst 1 (l.map intE) false] ∧ l.length ≤ maxLen := by
  obtain ⟨es, rfl, hl, hes⟩ := h
  obtain ⟨d, rfl, _⟩ := list_data (f := intE) (Q := fun _ => True) (fun r hr => by
    obtain ⟨i, rfl, _⟩ := hes r hr
    exact ⟨i, rfl, trivial⟩)
  exact ⟨d, rfl, by simpa using hl⟩
theorem dat_view {n : Nat} {r : List DV} (h : Dat tt (n + 3) 24 r) : ∃ a : View, r = viewE a ∧ a.mem.length ≤ maxLen := by
  obtain ⟨p, q, rfl, ⟨np, rfl, _⟩, l, s, rfl, hl, rfl⟩ := h
  obtain ⟨l, rfl, hll⟩ := dat_ints (n := n) hl
  exact ⟨⟨np, l⟩, rfl, hll⟩
end Go.Proofs.YtdcfooeoaoahjaaGreat

set_option maxRecDepth 100000
namespace Go.Proofs.YtdcfooeoaoahjaaGreat
open Go.Lift
def cmpI (a b : Int) : Int := bif decide (a < b) then -1 else bif decide (b < a) then 1 else 0
theorem cmp_iff (a b : Int) : (cmpI a b < 0 ↔ a < b) ∧ (cmpI a b = 0 ↔ a = b) ∧ (cmpI a b = -1 ∨ cmpI a b = 0 ∨ cmpI a b = 1) := by
  unfold cmpI
  by_cases h1 : a < b
  · simp [h1]; omega
  · by_cases h2 : b < a
    · simp [h1, h2]; omega
    · simp [h1, h2]; omega
theorem c_isNaN_u64 (a : Int) : Ret Tryz.prog 206 [.v (.int .u64 a)] (.v (.bool false)) := by
  refine ret_of_body (fn := Tryz.f206) (c := Tryz.f206.body.getD .skip) hm hT (by kernel_rfl) Tryz.func206 (by kernel_rfl) (by kernel_rfl) (by kernel_rfl) (by kernel_rfl) ?_
  repeat' ((conv => whnf); first | refine And.intro (fun h => h) ?_ | refine dcond_t (by assumption) ?_ | refine dcond_f (by assumption) ?_ | (refine dcond_intro ?_ ?_ <;> intro h) | exact .refl | refine And.intro (by kernel_rfl) ?_ | refine And.intro ⟨fun h => h, fun h => h⟩ ?_ | refine Exists.intro false ?_ | (refine And.intro ?_ ?_; focus (simp; done)) | fail)
  all_goals (conv => whnf)
  refine dle_bool ?_
  simp
theorem c_Compare_u64 (a b : Int) : Ret Tryz.prog 171 [.v (.int .u64 a), .v (.int .u64 b)] (.v (.int .i64 (cmpI a b))) := by
  refine ret_of_body (fn := Tryz.f171) (c := Tryz.f171.body.getD .skip) hm hT (by kernel_rfl) Tryz.func171 (by kernel_rfl) (by kernel_rfl) (by kernel_rfl) (by kernel_rfl) ?_
  repeat' ((conv => whnf); first | refine And.intro (fun h => h) ?_ | refine dcond_t (by assumption) ?_ | refine dcond_f (by assumption) ?_ | (refine dcond_intro ?_ ?_ <;> intro h) | exact .refl | refine And.intro (by kernel_rfl) ?_ | refine And.intro ⟨fun h => h, fun h => h⟩ ?_ | refine .inl ⟨_, _, DleAll_refl _, c_isNaN_u64 _, ?_⟩ | refine ⟨_, _, DleAll_refl _, fun _ => c_isNaN_u64 _, ?_⟩ | refine ⟨_, _, DleAll_refl _, c_isNaN_u64 _, ?_⟩ | refine Exists.intro false ?_ | (refine And.intro ?_ ?_; focus (simp; done)) | fail)
  all_goals (conv => whnf)
  all_goals refine dle_int ?_
  all_goals simp only [cmpI, *, cond_true, cond_false]
end Go.Proofs.YtdcfooeoaoahjaaGreat

set_option maxRecDepth 100000
namespace Go.Proofs.YtdcfooeoaoahjaaGreat
open Go.Lift
def u64 (n : Int) : DV := .v (.int .u64 n)
def mix1 (x s f : Int) : Int := IntKind.u64.wrap (bits .xor .u64 x (x.fdiv (2 ^ (min s.toNat 64))) * f)
def mixAt (x : Int) : Nat → Int
  | 0 => x
  | 1 => mix1 x 30 13787848793156543929
  | _ => mix1 (mix1 x 30 13787848793156543929) 27 10723151780598845931
def mixR (x : Int) : Int := bits .xor .u64 (mixAt x 2) ((mixAt x 2).fdiv (2 ^ (min (31 : Int).toNat 64)))
theorem c_shifts : Ret Tryz.prog 244 [] (.agg [u64 30, u64 27, u64 31]) := by
  refine ret_of_body (fn := Tryz.f244) (c := Tryz.f244.body.getD .skip) hm hT (by kernel_rfl) Tryz.func244 (by kernel_rfl) (by kernel_rfl) (by kernel_rfl) (by kernel_rfl) ?_
  repeat' ((conv => whnf); first | refine And.intro (fun h => h) ?_ | refine dcond_t (by assumption) ?_ | refine dcond_f (by assumption) ?_ | (refine dcond_intro ?_ ?_ <;> intro h) | exact .refl | refine And.intro (by kernel_rfl) ?_ | refine And.intro ⟨fun h => h, fun h => h⟩ ?_ | refine Exists.intro false ?_ | (refine And.intro ?_ ?_; focus (simp; done)) | fail)
theorem c_factors : Ret Tryz.prog 245 [] (.agg [u64 13787848793156543929, u64 10723151780598845931]) := by
  refine ret_of_body (fn := Tryz.f245) (c := Tryz.f245.body.getD .skip) hm hT (by kernel_rfl) Tryz.func245 (by kernel_rfl) (by kernel_rfl) (by kernel_rfl) (by kernel_rfl) ?_
  repeat' ((conv => whnf); first | refine And.intro (fun h => h) ?_ | refine dcond_t (by assumption) ?_ | refine dcond_f (by assumption) ?_ | (refine dcond_intro ?_ ?_ <;> intro h) | exact .refl | refine And.intro (by kernel_rfl) ?_ | refine And.intro ⟨fun h => h, fun h => h⟩ ?_ | refine Exists.intro false ?_ | (refine And.intro ?_ ?_; focus (simp; done)) | fail)
theorem c_Mix (x : Int) : Ret Tryz.prog 231 [u64 x] (u64 (mixR x)) := by
  refine ret_of_body (fn := Tryz.f231) (c := Tryz.f231.body.getD .skip) hm hT (by kernel_rfl) Tryz.func231 (by kernel_rfl) (by kernel_rfl) (by kernel_rfl) (by kernel_rfl) ?_
  repeat' ((conv => whnf); first | refine And.intro (fun h => h) ?_ | refine dcond_t (by assumption) ?_ | refine dcond_f (by assumption) ?_ | (refine dcond_intro ?_ ?_ <;> intro h) | exact .refl | refine And.intro (by kernel_rfl) ?_ | refine And.intro ⟨fun h => h, fun h => h⟩ ?_ | refine .inl ⟨_, _, DleAll_refl _, c_shifts, ?_⟩ | refine ⟨_, _, DleAll_refl _, fun _ => c_shifts, ?_⟩ | refine ⟨_, _, DleAll_refl _, c_shifts, ?_⟩ | refine .inl ⟨_, _, DleAll_refl _, c_factors, ?_⟩ | refine ⟨_, _, DleAll_refl _, fun _ => c_factors, ?_⟩ | refine ⟨_, _, DleAll_refl _, c_factors, ?_⟩ | refine Exists.intro false ?_ | (refine And.intro ?_ ?_; focus (simp; done)) | fail)
  refine ⟨Nat, fun i => ⟨[(0, u64 (mixAt x i)), (3, .lp 0 0), (4, .lp 1 0), (8, i64 i)], [.cells 285 [u64 30, u64 27, u64 31], .cells 287 [u64 13787848793156543929, u64 10723151780598845931]]⟩, fun i => i ≤ 2, fun i => 2 - i, [], ⟨0, Nat.zero_le _, ?_⟩, ?_⟩
  · exact ⟨by repeat' ((conv => whnf); first | exact trivial | refine And.intro (by (conv => arg 1; whnf); first | (with_reducible exact .refl) | exact dle_int (wrap_succ (by omega)) | exact .refl) ?_), by repeat' ((conv => whnf); first | exact trivial | refine And.intro ?_ ?_ | exact .refl), rfl⟩
  · intro i hi
    repeat' ((conv => whnf); first | refine And.intro (fun h => h) ?_ | refine dcond_t (by assumption) ?_ | refine dcond_f (by assumption) ?_ | (refine dcond_intro ?_ ?_ <;> intro h) | exact .refl | refine And.intro (by kernel_rfl) ?_ | refine And.intro ⟨fun h => h, fun h => h⟩ ?_ | refine Exists.intro false ?_ | (refine And.intro ?_ ?_; focus (simp; done)) | fail)
    · have hlt : i < 2 := by
        simp at h
        omega
      clear h
      have hc : i = 0 ∨ i = 1 := by omega
      rcases hc with rfl | rfl
      · repeat' ((conv => whnf); first | refine And.intro (fun h => h) ?_ | refine dcond_t (by assumption) ?_ | refine dcond_f (by assumption) ?_ | (refine dcond_intro ?_ ?_ <;> intro h) | exact .refl | refine And.intro (by kernel_rfl) ?_ | refine And.intro ⟨fun h => h, fun h => h⟩ ?_ | refine ⟨0, And.intro ⟨rfl, by decide⟩ ?_⟩ | refine ⟨.v (.int .u64 30), And.intro rfl ?_⟩ | refine ⟨.v (.int .u64 13787848793156543929), And.intro rfl ?_⟩ | refine Exists.intro false ?_ | (refine And.intro ?_ ?_; focus (simp; done)) | fail)
        all_goals (conv => whnf)
        refine ⟨1, by omega, by decide, ?_⟩
        exact ⟨⟨dle_int rfl, .refl, .refl, .refl, trivial⟩, ⟨.refl, .refl, trivial⟩, rfl⟩
      · repeat' ((conv => whnf); first | refine And.intro (fun h => h) ?_ | refine dcond_t (by assumption) ?_ | refine dcond_f (by assumption) ?_ | (refine dcond_intro ?_ ?_ <;> intro h) | exact .refl | refine And.intro (by kernel_rfl) ?_ | refine And.intro ⟨fun h => h, fun h => h⟩ ?_ | refine ⟨1, And.intro ⟨rfl, by decide⟩ ?_⟩ | refine ⟨.v (.int .u64 27), And.intro rfl ?_⟩ | refine ⟨.v (.int .u64 10723151780598845931), And.intro rfl ?_⟩ | refine Exists.intro false ?_ | (refine And.intro ?_ ?_; focus (simp; done)) | fail)
        all_goals (conv => whnf)
        refine ⟨2, by omega, by decide, ?_⟩
        exact ⟨⟨dle_int rfl, .refl, .refl, .refl, trivial⟩, ⟨.refl, .refl, trivial⟩, rfl⟩
    · have : i = 2 := by
        simp at h
        omega
      subst this
      repeat' ((conv => whnf); first | refine And.intro (fun h => h) ?_ | refine dcond_t (by assumption) ?_ | refine dcond_f (by assumption) ?_ | (refine dcond_intro ?_ ?_ <;> intro h) | exact .refl | refine And.intro (by kernel_rfl) ?_ | refine And.intro ⟨fun h => h, fun h => h⟩ ?_ | refine Exists.intro false ?_ | (refine And.intro ?_ ?_; focus (simp; done)) | fail)
      all_goals (conv => whnf)
      all_goals trace_state
def combR (h x : Int) : Int := mixR (IntKind.u64.wrap (h + IntKind.u64.wrap (11400714819323198485 * IntKind.u64.wrap (x + 1))))
theorem c_Combine (h x : Int) : Ret Tryz.prog 205 [u64 h, u64 x] (u64 (combR h x)) := by
  refine ret_of_body (fn := Tryz.f205) (c := Tryz.f205.body.getD .skip) hm hT (by kernel_rfl) Tryz.func205 (by kernel_rfl) (by kernel_rfl) (by kernel_rfl) (by kernel_rfl) ?_
  repeat' ((conv => whnf); first | refine And.intro (fun h => h) ?_ | refine dcond_t (by assumption) ?_ | refine dcond_f (by assumption) ?_ | (refine dcond_intro ?_ ?_ <;> intro h) | exact .refl | refine And.intro (by kernel_rfl) ?_ | refine And.intro ⟨fun h => h, fun h => h⟩ ?_ | refine .inl ⟨_, _, DleAll_refl _, c_Mix _, ?_⟩ | refine ⟨_, _, DleAll_refl _, fun _ => c_Mix _, ?_⟩ | refine ⟨_, _, DleAll_refl _, c_Mix _, ?_⟩ | refine Exists.intro false ?_ | (refine And.intro ?_ ?_; focus (simp; done)) | fail)
def posR (r m : Int) : Int := combR (IntKind.u64.wrap r) (IntKind.u64.wrap m)
theorem c_Position (r m : Int) : Ret Tryz.prog 168 [i64 r, i64 m] (u64 (posR r m)) := by
  refine ret_of_body (fn := Tryz.f168) (c := Tryz.f168.body.getD .skip) hm hT (by kernel_rfl) Tryz.func168 (by kernel_rfl) (by kernel_rfl) (by kernel_rfl) (by kernel_rfl) ?_
  repeat' ((conv => whnf); first | refine And.intro (fun h => h) ?_ | refine dcond_t (by assumption) ?_ | refine dcond_f (by assumption) ?_ | (refine dcond_intro ?_ ?_ <;> intro h) | exact .refl | refine And.intro (by kernel_rfl) ?_ | refine And.intro ⟨fun h => h, fun h => h⟩ ?_ | refine .inl ⟨_, _, DleAll_refl _, c_Combine _ _, ?_⟩ | refine ⟨_, _, DleAll_refl _, fun _ => c_Combine _ _, ?_⟩ | refine ⟨_, _, DleAll_refl _, c_Combine _ _, ?_⟩ | refine Exists.intro false ?_ | (refine And.intro ?_ ?_; focus (simp; done)) | fail)
end Go.Proofs.YtdcfooeoaoahjaaGreat

set_option maxRecDepth 100000
namespace Go.Proofs.YtdcfooeoaoahjaaGreat
open Go.Lift
open Go.Sort (SWO)
def sortL {β : Type} (cf : β → β → Int) (l : List β) : List β := l.mergeSort fun x y => !Go.Proofs.ltOf cf y x
theorem sortL_perm {β : Type} (cf : β → β → Int) (l : List β) : (sortL cf l).Perm l := List.mergeSort_perm _ _
theorem sortL_sorted {β : Type} {cf : β → β → Int} (hO : SWO (Go.Proofs.ltOf cf)) (l : List β) : (sortL cf l).Pairwise fun x y => Go.Proofs.ltOf cf y x = false := by
  have h := List.pairwise_mergeSort (le := fun x y => !Go.Proofs.ltOf cf y x) (fun a b c h1 h2 => by
    simp only [Bool.not_eq_true'] at *
    exact hO.ntrans _ _ _ h2 h1) (fun a b => by
    cases h : Go.Proofs.ltOf cf b a
    · simp
    · cases h2 : Go.Proofs.ltOf cf a b
      · simp
      · have := hO.trans _ _ _ h h2
        rw [hO.irrefl] at this
        cases this) l
  exact h.imp fun h => by simpa using h
theorem sortL_mem {β : Type} {cf : β → β → Int} {l : List β} {x : β} : x ∈ sortL cf l ↔ x ∈ l := (sortL_perm cf l).mem_iff
theorem sortL_len {β : Type} (cf : β → β → Int) (l : List β) : (sortL cf l).length = l.length := (sortL_perm cf l).length_eq
end Go.Proofs.YtdcfooeoaoahjaaGreat

set_option maxRecDepth 100000
namespace Go.Proofs.YtdcfooeoaoahjaaGreat
open Go.Lift
theorem c_slices_Index_int (l : List Int) (hl : l.length ≤ maxLen) (x : Int) : Ret Tryz.prog 185 [.lst 1 (l.map intE) false, .v (.int .i64 x)] (.v (.int .i64 (placeB l x))) := by
  have hl' : l.length ≤ 9223372036854775807 := hl
  refine ret_of_body (fn := Tryz.f185) (c := Tryz.f185.body.getD .skip) hm hT (by kernel_rfl) Tryz.func185 (by kernel_rfl) (by kernel_rfl) (by kernel_rfl) (by kernel_rfl) ?_
  repeat' ((conv => whnf); first | refine And.intro (fun h => h) ?_ | refine dcond_t (by assumption) ?_ | refine dcond_f (by assumption) ?_ | (refine dcond_intro ?_ ?_ <;> intro h) | exact .refl | refine And.intro (by kernel_rfl) ?_ | refine And.intro ⟨fun h => h, fun h => h⟩ ?_ | refine Exists.intro false ?_ | (refine And.intro ?_ ?_; focus (simp; done)) | fail)
  refine ⟨Nat, fun i => ⟨[(0, .lst 1 (l.map intE) false), (1, .v (.int .i64 x)), (7, i64 l.length), (8, i64 i)], []⟩, fun i => i ≤ l.length ∧ ∀ j, j < i → decide (l[j]? = some x) = false, fun i => l.length - i, [], ⟨0, ⟨Nat.zero_le _, by omega⟩, ?_⟩, ?_⟩
  · exact ⟨⟨.refl, .refl, dle_int (by simp), .refl, trivial⟩, trivial, rfl⟩
  · intro i ⟨hi, hall⟩
    repeat' ((conv => whnf); first | refine And.intro (fun h => h) ?_ | refine dcond_t (by assumption) ?_ | refine dcond_f (by assumption) ?_ | (refine dcond_intro ?_ ?_ <;> intro h) | exact .refl | refine And.intro (by kernel_rfl) ?_ | refine And.intro ⟨fun h => h, fun h => h⟩ ?_ | refine Exists.intro false ?_ | (refine And.intro ?_ ?_; focus (simp; done)) | fail)
    · have hlt : i < l.length := by simpa using h
      repeat' ((conv => whnf); first | refine And.intro (fun h => h) ?_ | refine dcond_t (by assumption) ?_ | refine dcond_f (by assumption) ?_ | (refine dcond_intro ?_ ?_ <;> intro h) | exact .refl | refine And.intro (by kernel_rfl) ?_ | refine And.intro ⟨fun h => h, fun h => h⟩ ?_ | refine ⟨_, _, And.intro ⟨rfl, get_map hlt⟩ ?_⟩ | refine Exists.intro false ?_ | (refine And.intro ?_ ?_; focus (simp; done)) | fail)
      · have h2 := h
        refine dle_int (findB_at hlt ?_ hall).symm
        simp [hlt]
        simpa using (of_decide_eq_true h2).symm
      · have h2 := h
        conv => whnf
        refine ⟨i + 1, ⟨hlt, fun j hj => ?_⟩, by simp only []; omega, ?_⟩
        · rcases Nat.lt_succ_iff_lt_or_eq.1 hj with hj | rfl
          · exact hall j hj
          · simp [hlt]
            exact fun e => of_decide_eq_false h2 e.symm
        · exact ⟨by repeat' ((conv => whnf); first | exact trivial | refine And.intro (by (conv => arg 1; whnf); first | (with_reducible exact .refl) | exact dle_int (wrap_succ (by omega)) | exact .refl) ?_), by repeat' ((conv => whnf); first | exact trivial | refine And.intro ?_ ?_ | exact .refl), rfl⟩
    · have hge : ¬ i < l.length := by simpa using h
      conv => whnf
      refine dle_int (findB_none (fun j hj => hall j (by omega))).symm
theorem c_slices_Contains_int (l : List Int) (hl : l.length ≤ maxLen) (x : Int) : Ret Tryz.prog 122 [.lst 1 (l.map intE) false, .v (.int .i64 x)] (.v (.bool (inB l x))) := by
  refine ret_of_body (fn := Tryz.f122) (c := Tryz.f122.body.getD .skip) hm hT (by kernel_rfl) Tryz.func122 (by kernel_rfl) (by kernel_rfl) (by kernel_rfl) (by kernel_rfl) ?_
  repeat' ((conv => whnf); first | refine And.intro (fun h => h) ?_ | refine dcond_t (by assumption) ?_ | refine dcond_f (by assumption) ?_ | (refine dcond_intro ?_ ?_ <;> intro h) | exact .refl | refine And.intro (by kernel_rfl) ?_ | refine And.intro ⟨fun h => h, fun h => h⟩ ?_ | refine .inl ⟨_, _, DleAll_refl _, c_slices_Index_int _ hl _, ?_⟩ | refine ⟨_, _, DleAll_refl _, fun _ => c_slices_Index_int _ hl _, ?_⟩ | refine ⟨_, _, DleAll_refl _, c_slices_Index_int _ hl _, ?_⟩ | refine Exists.intro false ?_ | (refine And.intro ?_ ?_; focus (simp; done)) | fail)
end Go.Proofs.YtdcfooeoaoahjaaGreat

set_option maxRecDepth 100000
namespace Go.Proofs.YtdcfooeoaoahjaaGreat
open Go.Lift
theorem rise_pw {l : List Int} : riseB l = true ↔ l.Pairwise (· < ·) ∧ ∀ x ∈ l, 1 ≤ x ∧ x ≤ 1000 := by
  rw [rise_iff]
  constructor
  · intro h
    have hstep : ∀ i (hi : i + 1 < l.length), l[i] < l[i + 1] := fun i hi => by
      have := (h (i + 1) hi).2.2 (by omega)
      simpa [show i < l.length by omega] using this
    refine ⟨?_, fun x hx => ?_⟩
    · rw [List.pairwise_iff_getElem]
      intro i j hi hj hij
      have key : ∀ d (hd : i + (d + 1) < l.length), l[i] < l[i + (d + 1)] := by
        intro d
        induction d with
        | zero => intro hd; exact hstep i hd
        | succ d ih =>
          intro hd
          have h1 := ih (by omega)
          have h2 := hstep (i + (d + 1)) hd
          exact Int.lt_trans h1 h2
      have := key (j - i - 1) (by omega)
      simpa [show i + (j - i - 1 + 1) = j by omega] using this
    · obtain ⟨i, hi, rfl⟩ := List.getElem_of_mem hx
      have := h i hi
      exact ⟨this.1, this.2.1⟩
  · intro ⟨h1, h2⟩ i hi
    have := h2 _ (List.getElem_mem hi)
    refine ⟨this.1, this.2, fun h0 => ?_⟩
    have h3 := List.pairwise_iff_getElem.1 h1 (i - 1) i (by omega) hi (by omega)
    simpa [show i - 1 < l.length by omega] using h3
theorem ids_pw {l : List Int} {m : Int} : idsB l m = true ↔ (1 ≤ (l.length : Int) ∧ (l.length : Int) ≤ m) ∧ l.Pairwise (· < ·) ∧ ∀ x ∈ l, 1 ≤ x ∧ x ≤ 1000 := by
  rw [ids_eq]
  simp only [Bool.and_eq_true, decide_eq_true_eq, rise_pw]
theorem pw_nodup {l : List Int} (h : l.Pairwise (· < ·)) : l.Nodup := h.imp (fun h => by omega)
end Go.Proofs.YtdcfooeoaoahjaaGreat

set_option maxRecDepth 100000
namespace Go.Proofs.YtdcfooeoaoahjaaGreat
open Go.Lift
theorem wrap_u64 (n : Int) : IntKind.u64.wrap n = n % 18446744073709551616 := by
  simp [IntKind.wrap, IntKind.bits, IntKind.signed]
theorem u64_rng (n : Int) : 0 ≤ IntKind.u64.wrap n ∧ IntKind.u64.wrap n < 18446744073709551616 := by
  rw [wrap_u64]; omega
theorem u64_id {n : Int} (h1 : 0 ≤ n) (h2 : n < 18446744073709551616) : IntKind.u64.wrap n = n := by
  rw [wrap_u64]; omega
def xs (s x : Nat) : Nat := x ^^^ (x >>> s)
theorem xs_lt {s x : Nat} (h : x < 2 ^ 64) : xs s x < 2 ^ 64 := by
  unfold xs
  refine Nat.xor_lt_two_pow h ?_
  rw [Nat.shiftRight_eq_div_pow]
  exact Nat.lt_of_le_of_lt (Nat.div_le_self _ _) h
theorem xs_inj {s x y : Nat} (hs : 0 < s) (hx : x < 2 ^ 64) (hy : y < 2 ^ 64) (h : xs s x = xs s y) : x = y := by
  have key : ∀ d i, i + d = 64 ∨ 64 ≤ i → x.testBit i = y.testBit i := by
    intro d
    induction d using Nat.strongRecOn with
    | ind d ih =>
      intro i hi
      rcases Nat.lt_or_ge i 64 with h6 | h6
      · have hb := congrArg (fun n => n.testBit i) h
        simp only [xs, Nat.testBit_xor, Nat.testBit_shiftRight] at hb
        have hn : x.testBit (s + i) = y.testBit (s + i) := by
          rcases Nat.lt_or_ge (s + i) 64 with h7 | h7
          · exact ih (64 - (s + i)) (by omega) (s + i) (.inl (by omega))
          · exact ih 0 (by omega) (s + i) (.inr h7)
        rw [hn] at hb
        cases hxi : x.testBit i <;> cases hyi : y.testBit i <;> cases hsi : y.testBit (s + i) <;> rw [hxi, hyi, hsi] at hb <;> simp at hb <;> rfl
      · rw [Nat.testBit_lt_two_pow (Nat.lt_of_lt_of_le hx (Nat.pow_le_pow_right (by decide) h6)), Nat.testBit_lt_two_pow (Nat.lt_of_lt_of_le hy (Nat.pow_le_pow_right (by decide) h6))]
  refine Nat.eq_of_testBit_eq fun i => ?_
  rcases Nat.lt_or_ge i 64 with h6 | h6
  · exact key (64 - i) i (.inl (by omega))
  · exact key 0 i (.inr h6)
theorem bits_xs {x : Nat} (h : x < 2 ^ 64) (s : Nat) : bits .xor .u64 (x : Int) ((x : Int).fdiv (2 ^ s)) = ((xs s x : Nat) : Int) := by
  have hd : (x : Int).fdiv (2 ^ s) = ((x >>> s : Nat) : Int) := by
    rw [Int.fdiv_eq_ediv_of_nonneg _ (Int.pow_nonneg (by decide)), Nat.shiftRight_eq_div_pow]
    norm_cast
  rw [hd]
  have h2 : x >>> s < 2 ^ 64 := by
    rw [Nat.shiftRight_eq_div_pow]
    exact Nat.lt_of_le_of_lt (Nat.div_le_self _ _) h
  have e : (BitVec.ofInt 64 (x : Int) ^^^ BitVec.ofInt 64 ((x >>> s : Nat) : Int)).toNat = xs s x := by
    rw [BitVec.toNat_xor, BitVec.ofInt_natCast, BitVec.ofInt_natCast, BitVec.toNat_ofNat, BitVec.toNat_ofNat, Nat.mod_eq_of_lt h, Nat.mod_eq_of_lt h2]
    rfl
  show IntKind.u64.wrap ((BitVec.ofInt 64 (x : Int) ^^^ BitVec.ofInt 64 ((x >>> s : Nat) : Int)).toNat : Int) = _
  rw [e]
  have := xs_lt (s := s) h
  exact u64_id (by omega) (by omega)
theorem mul_inj {c ci a b : Int} (hc : c * ci % 18446744073709551616 = 1) (ha : 0 ≤ a ∧ a < 18446744073709551616) (hb : 0 ≤ b ∧ b < 18446744073709551616) (h : IntKind.u64.wrap (a * c) = IntKind.u64.wrap (b * c)) : a = b := by
  rw [wrap_u64, wrap_u64] at h
  have h1 : (a * c * ci) % 18446744073709551616 = (b * c * ci) % 18446744073709551616 := by
    rw [Int.mul_emod, h, ← Int.mul_emod]
  rw [Int.mul_assoc, Int.mul_assoc, Int.mul_emod a, Int.mul_emod b, hc] at h1
  simp only [Int.mul_one, Int.emod_emod_of_dvd _ (Int.dvd_refl _)] at h1
  omega
def mixN (x : Nat) : Nat := xs 31 ((IntKind.u64.wrap ((xs 27 ((IntKind.u64.wrap ((xs 30 x : Nat) * 13787848793156543929)).toNat) : Nat) * 10723151780598845931)).toNat)
theorem w_nat (n : Int) : (((IntKind.u64.wrap n).toNat : Nat) : Int) = IntKind.u64.wrap n := Int.toNat_of_nonneg (u64_rng n).1
theorem w_lt (n : Int) : (IntKind.u64.wrap n).toNat < 2 ^ 64 := by
  have := u64_rng n
  omega
theorem mix_nat {x : Nat} (h : x < 2 ^ 64) : mixR (x : Int) = ((mixN x : Nat) : Int) := by
  have m30 : min (30 : Int).toNat 64 = 30 := rfl
  have m27 : min (27 : Int).toNat 64 = 27 := rfl
  have m31 : min (31 : Int).toNat 64 = 31 := rfl
  unfold mixR
  simp only [mixAt, mix1, m30, m27, m31]
  rw [bits_xs h]
  rw [← w_nat ((xs 30 x : Nat) * 13787848793156543929)]
  rw [bits_xs (w_lt _)]
  rw [← w_nat (((xs 27 _ : Nat) : Int) * 10723151780598845931)]
  rw [bits_xs (w_lt _)]
  rfl
theorem mixN_inj {x y : Nat} (hx : x < 2 ^ 64) (hy : y < 2 ^ 64) (h : mixN x = mixN y) : x = y := by
  unfold mixN at h
  have h1 := xs_inj (by decide) (w_lt _) (w_lt _) h
  have h2 : IntKind.u64.wrap (((xs 27 ((IntKind.u64.wrap ((xs 30 x : Nat) * 13787848793156543929)).toNat) : Nat) : Int) * 10723151780598845931) = IntKind.u64.wrap (((xs 27 ((IntKind.u64.wrap ((xs 30 y : Nat) * 13787848793156543929)).toNat) : Nat) : Int) * 10723151780598845931) := by
    rw [← w_nat, ← w_nat (((xs 27 ((IntKind.u64.wrap ((xs 30 y : Nat) * 13787848793156543929)).toNat) : Nat) : Int) * 10723151780598845931), h1]
  have b1 := xs_lt (s := 27) (w_lt ((xs 30 x : Nat) * 13787848793156543929))
  have b2 := xs_lt (s := 27) (w_lt ((xs 30 y : Nat) * 13787848793156543929))
  have h3 := mul_inj (ci := 3573116690164977347) (by decide) (by omega) (by omega) h2
  have h4 := xs_inj (by decide) (w_lt _) (w_lt _) (Int.ofNat_inj.1 h3)
  have h5 : IntKind.u64.wrap (((xs 30 x : Nat) : Int) * 13787848793156543929) = IntKind.u64.wrap (((xs 30 y : Nat) : Int) * 13787848793156543929) := by
    rw [← w_nat, ← w_nat (((xs 30 y : Nat) : Int) * 13787848793156543929), h4]
  have b3 := xs_lt (s := 30) hx
  have b4 := xs_lt (s := 30) hy
  have h6 := mul_inj (ci := 10871156337175269513) (by decide) (by omega) (by omega) h5
  exact xs_inj (by decide) hx hy (Int.ofNat_inj.1 h6)
theorem mixR_rng {a : Int} (h1 : 0 ≤ a) (h2 : a < 18446744073709551616) : 0 ≤ mixR a ∧ mixR a < 18446744073709551616 := by
  obtain ⟨x, rfl⟩ := Int.eq_ofNat_of_zero_le h1
  have := mix_nat (x := x) (by omega)
  have h3 : mixN x < 2 ^ 64 := xs_lt (w_lt _)
  omega
theorem mixR_inj {a b : Int} (h1 : 0 ≤ a) (h2 : a < 18446744073709551616) (h3 : 0 ≤ b) (h4 : b < 18446744073709551616) (h : mixR a = mixR b) : a = b := by
  obtain ⟨x, rfl⟩ := Int.eq_ofNat_of_zero_le h1
  obtain ⟨y, rfl⟩ := Int.eq_ofNat_of_zero_le h3
  rw [mix_nat (x := x) (by omega), mix_nat (x := y) (by omega)] at h
  rw [mixN_inj (by omega) (by omega) (Int.ofNat_inj.1 h)]
theorem posR_rng (r m : Int) : 0 ≤ posR r m ∧ posR r m < 18446744073709551616 := mixR_rng (u64_rng _).1 (u64_rng _).2
theorem posR_inj {r a b : Int} (ha : 1 ≤ a ∧ a ≤ 1000) (hb : 1 ≤ b ∧ b ≤ 1000) (h : posR r a = posR r b) : a = b := by
  unfold posR combR at h
  have h1 := mixR_inj (u64_rng _).1 (u64_rng _).2 (u64_rng _).1 (u64_rng _).2 h
  rw [u64_id (n := a) (by omega) (by omega), u64_id (n := b) (by omega) (by omega), u64_id (n := a + 1) (by omega) (by omega), u64_id (n := b + 1) (by omega) (by omega)] at h1
  have r1 := u64_rng (11400714819323198485 * (a + 1))
  have r2 := u64_rng (11400714819323198485 * (b + 1))
  have h2 : IntKind.u64.wrap (11400714819323198485 * (a + 1)) = IntKind.u64.wrap (11400714819323198485 * (b + 1)) := by
    generalize IntKind.u64.wrap (11400714819323198485 * (a + 1)) = p at *
    generalize IntKind.u64.wrap (11400714819323198485 * (b + 1)) = q at *
    have r0 := u64_rng r
    generalize IntKind.u64.wrap r = R at h1 r0
    rw [wrap_u64 (R + p), wrap_u64 (R + q)] at h1
    omega
  rw [Int.mul_comm, Int.mul_comm 11400714819323198485] at h2
  have := mul_inj (ci := 17428512612931826493) (by decide) (by omega) (by omega) h2
  omega
end Go.Proofs.YtdcfooeoaoahjaaGreat

namespace Go.Proofs
open Go.Shelf
def Tryz.sortInt_ren : Go.Shelf.Ren := ⟨fun | 6 => 223 | 15 => 173 | 14 => 242 | 28 => 216 | 29 => 217 | 20 => 247 | 21 => 248 | 22 => 249 | 23 => 250 | 24 => 251 | 25 => 252 | 26 => 253 | 27 => 254 | 46 => 255 | 47 => 233 | 48 => 234 | 49 => 256 | 50 => 257 | 57 => 258 | n => n, fun | 22 => 22 | 24 => 3 | 25 => 231 | 3 => 3 | 39 => 57 | 0 => 0 | 53 => 92 | 55 => 34 | 4 => 4 | 46 => 256 | 45 => 255 | 50 => 260 | 5 => 5 | 9 => 9 | 66 => 274 | 70 => 278 | 76 => 289 | 77 => 290 | n => n, fun | n => n⟩
theorem Tryz.sortInt : Go.Proofs.SlLaysF.n6 Tryz.prog Tryz.sortInt_ren := {
  mixed := by kernel_rfl
  f6 := ⟨Tryz.f223.name, by decide, Tryz.func223.trans (congrArg some (by kernel_rfl))⟩
  f14 := ⟨Tryz.f242.name, by decide, Tryz.func242.trans (congrArg some (by kernel_rfl))⟩
  f15 := Tryz.func173.trans (congrArg some (by kernel_rfl))
  f20 := ⟨Tryz.f247.name, by decide, Tryz.func247.trans (congrArg some (by kernel_rfl))⟩
  f21 := ⟨Tryz.f248.name, by decide, Tryz.func248.trans (congrArg some (by kernel_rfl))⟩
  f22 := ⟨Tryz.f249.name, by decide, Tryz.func249.trans (congrArg some (by kernel_rfl))⟩
  f23 := ⟨Tryz.f250.name, by decide, Tryz.func250.trans (congrArg some (by kernel_rfl))⟩
  f24 := ⟨Tryz.f251.name, by decide, Tryz.func251.trans (congrArg some (by kernel_rfl))⟩
  f25 := ⟨Tryz.f252.name, by decide, Tryz.func252.trans (congrArg some (by kernel_rfl))⟩
  f26 := ⟨Tryz.f253.name, by decide, Tryz.func253.trans (congrArg some (by kernel_rfl))⟩
  f27 := ⟨Tryz.f254.name, by decide, Tryz.func254.trans (congrArg some (by kernel_rfl))⟩
  f28 := Tryz.func216.trans (congrArg some (by kernel_rfl))
  f29 := Tryz.func217.trans (congrArg some (by kernel_rfl))
  f46 := ⟨Tryz.f255.name, by decide, Tryz.func255.trans (congrArg some (by kernel_rfl))⟩
  f47 := Tryz.func233.trans (congrArg some (by kernel_rfl))
  f48 := Tryz.func234.trans (congrArg some (by kernel_rfl))
  f49 := ⟨Tryz.f256.name, by decide, Tryz.func256.trans (congrArg some (by kernel_rfl))⟩
  f50 := ⟨Tryz.f257.name, by decide, Tryz.func257.trans (congrArg some (by kernel_rfl))⟩
  f57 := ⟨Tryz.f258.name, by decide, Tryz.func258.trans (congrArg some (by kernel_rfl))⟩
  t0 := Tryz.underlying0
  a0 := Tryz.isAgg0
  z0 := Tryz.sizeOf0
  v0 := Tryz.zeroValue0
  t3 := Tryz.underlying3
  a3 := Tryz.isAgg3
  z3 := Tryz.sizeOf3
  v3 := Tryz.zeroValue3
  t4 := Tryz.underlying4
  a4 := Tryz.isAgg4
  z4 := Tryz.sizeOf4
  v4 := Tryz.zeroValue4
  t5 := Tryz.underlying5
  a5 := Tryz.isAgg5
  z5 := Tryz.sizeOf5
  v5 := Tryz.zeroValue5
  t9 := Tryz.underlying9
  a9 := Tryz.isAgg9
  z9 := Tryz.sizeOf9
  v9 := Tryz.zeroValue9
  t22 := Tryz.underlying22
  a22 := Tryz.isAgg22
  z22 := Tryz.sizeOf22
  v22 := Tryz.zeroValue22
  a24 := Tryz.isAgg3
  z24 := Tryz.sizeOf3
  t25 := Tryz.underlying231
  a25 := Tryz.isAgg231
  z25 := Tryz.sizeOf231
  v25 := Tryz.zeroValue231
  t39 := Tryz.underlying57
  a39 := Tryz.isAgg57
  z39 := Tryz.sizeOf57
  v39 := Tryz.zeroValue57
  t45 := Tryz.underlying255
  a45 := Tryz.isAgg255
  z45 := Tryz.sizeOf255
  v45 := Tryz.zeroValue255
  t46 := Tryz.underlying256
  a46 := Tryz.isAgg256
  z46 := Tryz.sizeOf256
  v46 := Tryz.zeroValue256
  t50 := Tryz.underlying260
  a50 := Tryz.isAgg260
  z50 := Tryz.sizeOf260
  v50 := Tryz.zeroValue260
  t53 := Tryz.underlying92
  a53 := Tryz.isAgg92
  z53 := Tryz.sizeOf92
  v53 := Tryz.zeroValue92
  t55 := Tryz.underlying34
  a55 := Tryz.isAgg34
  z55 := Tryz.sizeOf34
  v55 := Tryz.zeroValue34
  t66 := Tryz.underlying274
  a66 := Tryz.isAgg274
  z66 := Tryz.sizeOf274
  v66 := Tryz.zeroValue274
  t70 := Tryz.underlying278
  a70 := Tryz.isAgg278
  z70 := Tryz.sizeOf278
  v70 := Tryz.zeroValue278
  t76 := Tryz.underlying289
  a76 := Tryz.isAgg289
  z76 := Tryz.sizeOf289
  v76 := Tryz.zeroValue289
  t77 := Tryz.underlying290
  a77 := Tryz.isAgg290
  z77 := Tryz.sizeOf290
  v77 := Tryz.zeroValue290 }
def Tryz.srtI_ren : Go.Shelf.Ren := ⟨fun | 189 => 101 | 125 => 173 | 257 => 172 | 128 => 216 | 129 => 217 | 294 => 207 | 295 => 208 | 296 => 209 | 297 => 210 | 298 => 211 | 299 => 212 | 216 => 213 | 300 => 214 | 301 => 215 | 328 => 232 | 329 => 233 | 330 => 234 | 331 => 235 | 332 => 236 | 215 => 237 | 343 => 246 | n => n, fun | 28 => 22 | 3 => 3 | 46 => 57 | 0 => 0 | 51 => 92 | 53 => 34 | 4 => 4 | 183 => 256 | 182 => 255 | 131 => 260 | 5 => 5 | 9 => 9 | 218 => 274 | 222 => 278 | 228 => 289 | 229 => 290 | n => n, fun | n => n⟩
theorem Tryz.srtI : Go.Proofs.Lays.n189 Tryz.prog Tryz.srtI_ren := {
  mixed := by kernel_rfl
  f125 := Tryz.func173.trans (congrArg some (by kernel_rfl))
  f128 := Tryz.func216.trans (congrArg some (by kernel_rfl))
  f129 := Tryz.func217.trans (congrArg some (by kernel_rfl))
  f189 := Tryz.func101.trans (congrArg some (by kernel_rfl))
  f215 := Tryz.func237.trans (congrArg some (by kernel_rfl))
  f216 := Tryz.func213.trans (congrArg some (by kernel_rfl))
  f257 := Tryz.func172.trans (congrArg some (by kernel_rfl))
  f294 := Tryz.func207.trans (congrArg some (by kernel_rfl))
  f295 := Tryz.func208.trans (congrArg some (by kernel_rfl))
  f296 := Tryz.func209.trans (congrArg some (by kernel_rfl))
  f297 := Tryz.func210.trans (congrArg some (by kernel_rfl))
  f298 := Tryz.func211.trans (congrArg some (by kernel_rfl))
  f299 := Tryz.func212.trans (congrArg some (by kernel_rfl))
  f300 := Tryz.func214.trans (congrArg some (by kernel_rfl))
  f301 := Tryz.func215.trans (congrArg some (by kernel_rfl))
  f328 := Tryz.func232.trans (congrArg some (by kernel_rfl))
  f329 := Tryz.func233.trans (congrArg some (by kernel_rfl))
  f330 := Tryz.func234.trans (congrArg some (by kernel_rfl))
  f331 := Tryz.func235.trans (congrArg some (by kernel_rfl))
  f332 := Tryz.func236.trans (congrArg some (by kernel_rfl))
  f343 := Tryz.func246.trans (congrArg some (by kernel_rfl))
  t0 := Tryz.underlying0
  a0 := Tryz.isAgg0
  z0 := Tryz.sizeOf0
  v0 := Tryz.zeroValue0
  t3 := Tryz.underlying3
  a3 := Tryz.isAgg3
  z3 := Tryz.sizeOf3
  v3 := Tryz.zeroValue3
  t4 := Tryz.underlying4
  a4 := Tryz.isAgg4
  z4 := Tryz.sizeOf4
  v4 := Tryz.zeroValue4
  t5 := Tryz.underlying5
  a5 := Tryz.isAgg5
  z5 := Tryz.sizeOf5
  v5 := Tryz.zeroValue5
  t9 := Tryz.underlying9
  a9 := Tryz.isAgg9
  z9 := Tryz.sizeOf9
  v9 := Tryz.zeroValue9
  t28 := Tryz.underlying22
  a28 := Tryz.isAgg22
  z28 := Tryz.sizeOf22
  v28 := Tryz.zeroValue22
  t46 := Tryz.underlying57
  a46 := Tryz.isAgg57
  z46 := Tryz.sizeOf57
  v46 := Tryz.zeroValue57
  t51 := Tryz.underlying92
  a51 := Tryz.isAgg92
  z51 := Tryz.sizeOf92
  v51 := Tryz.zeroValue92
  t53 := Tryz.underlying34
  a53 := Tryz.isAgg34
  z53 := Tryz.sizeOf34
  v53 := Tryz.zeroValue34
  t131 := Tryz.underlying260
  a131 := Tryz.isAgg260
  z131 := Tryz.sizeOf260
  v131 := Tryz.zeroValue260
  t182 := Tryz.underlying255
  a182 := Tryz.isAgg255
  z182 := Tryz.sizeOf255
  v182 := Tryz.zeroValue255
  t183 := Tryz.underlying256
  a183 := Tryz.isAgg256
  z183 := Tryz.sizeOf256
  v183 := Tryz.zeroValue256
  t218 := Tryz.underlying274
  a218 := Tryz.isAgg274
  z218 := Tryz.sizeOf274
  v218 := Tryz.zeroValue274
  t222 := Tryz.underlying278
  a222 := Tryz.isAgg278
  z222 := Tryz.sizeOf278
  v222 := Tryz.zeroValue278
  t228 := Tryz.underlying289
  a228 := Tryz.isAgg289
  z228 := Tryz.sizeOf289
  v228 := Tryz.zeroValue289
  t229 := Tryz.underlying290
  a229 := Tryz.isAgg290
  z229 := Tryz.sizeOf290
  v229 := Tryz.zeroValue290 }
def Tryz.cmpI_ren : Go.Shelf.Ren := ⟨fun | 20 => 102 | n => n, fun | 22 => 22 | 3 => 3 | 4 => 4 | 0 => 0 | n => n, fun | n => n⟩
theorem Tryz.cmpI : Go.Proofs.Lays2.n20 Tryz.prog Tryz.cmpI_ren := {
  mixed := by kernel_rfl
  f20 := Tryz.func102.trans (congrArg some (by kernel_rfl))
  t0 := Tryz.underlying0
  a0 := Tryz.isAgg0
  z0 := Tryz.sizeOf0
  v0 := Tryz.zeroValue0
  t3 := Tryz.underlying3
  a3 := Tryz.isAgg3
  z3 := Tryz.sizeOf3
  v3 := Tryz.zeroValue3
  t4 := Tryz.underlying4
  a4 := Tryz.isAgg4
  z4 := Tryz.sizeOf4
  v4 := Tryz.zeroValue4
  t22 := Tryz.underlying22
  a22 := Tryz.isAgg22
  z22 := Tryz.sizeOf22
  v22 := Tryz.zeroValue22
  i3 := by kernel_rfl }
end Go.Proofs

set_option maxRecDepth 100000
namespace Go.Proofs.YtdcfooeoaoahjaaGreat
open Go.Lift
open Go.Sort (SWO)
def cmpPos (r a b : Int) : Int := cmpI (posR r a) (posR r b)
theorem pos_swo (r : Int) : SWO (Go.Proofs.ltOf (cmpPos r)) where
  irrefl x := by
    have := (cmp_iff (posR r x) (posR r x)).1
    simp only [Go.Proofs.ltOf, cmpPos, decide_eq_false_iff_not, this]
    omega
  trans x y z h1 h2 := by
    simp only [Go.Proofs.ltOf, cmpPos, decide_eq_true_eq, (cmp_iff _ _).1] at *
    omega
  ntrans x y z h1 h2 := by
    simp only [Go.Proofs.ltOf, cmpPos, decide_eq_false_iff_not, (cmp_iff _ _).1] at *
    omega
theorem ltPos (r a b : Int) : Go.Proofs.ltOf (cmpPos r) a b = decide (posR r a < posR r b) := by
  simp only [Go.Proofs.ltOf, cmpPos, (cmp_iff _ _).1]
theorem pos_anti {r a b : Int} (ha : 1 ≤ a ∧ a ≤ 1000) (hb : 1 ≤ b ∧ b ≤ 1000) (h1 : Go.Proofs.ltOf (cmpPos r) a b = false) (h2 : Go.Proofs.ltOf (cmpPos r) b a = false) : a = b := by
  rw [ltPos, decide_eq_false_iff_not] at h1 h2
  have h : posR r a = posR r b := by omega
  exact posR_inj ha hb h
theorem c_slices_Clone_int (l : List Int) (hl : l.length ≤ 1000000) : Ret Tryz.prog 46 [.lst 1 (l.map intE) false] (.lst 1 (l.map intE) false) := by
  refine ret_of_body (fn := Tryz.f46) (c := Tryz.f46.body.getD .skip) hm hT (by kernel_rfl) Tryz.func46 (by kernel_rfl) (by kernel_rfl) (by kernel_rfl) (by kernel_rfl) ?_
  repeat' ((conv => whnf); first | refine And.intro (fun h => h) ?_ | refine dcond_t (by assumption) ?_ | refine dcond_f (by assumption) ?_ | (refine dcond_intro ?_ ?_ <;> intro h) | exact .refl | refine And.intro (by kernel_rfl) ?_ | refine And.intro ⟨fun h => h, fun h => h⟩ ?_ | refine Exists.intro false ?_ | (refine And.intro ?_ ?_; focus (simp; done)) | fail)
  refine And.intro (fun hnil => ?_) ?_
  · repeat' ((conv => whnf); first | refine And.intro (fun h => h) ?_ | refine dcond_t (by assumption) ?_ | refine dcond_f (by assumption) ?_ | (refine dcond_intro ?_ ?_ <;> intro h) | exact .refl | refine And.intro (by kernel_rfl) ?_ | refine And.intro ⟨fun h => h, fun h => h⟩ ?_ | refine Exists.intro false ?_ | (refine And.intro ?_ ?_; focus (simp; done)) | fail)
    all_goals (conv => whnf)
    rw [hnil]
    exact .nl
  · repeat' ((conv => whnf); first | refine And.intro (fun h => h) ?_ | refine dcond_t (by assumption) ?_ | refine dcond_f (by assumption) ?_ | (refine dcond_intro ?_ ?_ <;> intro h) | exact .refl | refine And.intro (by kernel_rfl) ?_ | refine And.intro ⟨fun h => h, fun h => h⟩ ?_ | refine Exists.intro false ?_ | (refine And.intro ?_ ?_; focus (simp; done)) | fail)
    all_goals (conv => whnf)
    refine And.intro (fitsI (by simp; omega)) ?_
    repeat' ((conv => whnf); first | refine And.intro (fun h => h) ?_ | refine dcond_t (by assumption) ?_ | refine dcond_f (by assumption) ?_ | (refine dcond_intro ?_ ?_ <;> intro h) | exact .refl | refine And.intro (by kernel_rfl) ?_ | refine And.intro ⟨fun h => h, fun h => h⟩ ?_ | refine Exists.intro false ?_ | (refine And.intro ?_ ?_; focus (simp; done)) | fail)
theorem m_slices_Clone_int (l : List Int) (hl : l.length ≤ 1000000) (hne : l ≠ []) : RetM Tryz.prog 46 [] [.lst 1 (l.map intE) false] [] [.row 3 1 (l.map intE)] (.own 0) := by
  refine retM_of_body (fn := Tryz.f46) (c := Tryz.f46.body.getD .skip) hm hT (by kernel_rfl) Tryz.func46 (by kernel_rfl) (by kernel_rfl) (by kernel_rfl) (by kernel_rfl) (by kernel_rfl) ?_
  repeat' ((conv => whnf); first | refine And.intro (fun h => h) ?_ | refine dcond_t (by assumption) ?_ | refine dcond_f (by assumption) ?_ | (refine dcond_intro ?_ ?_ <;> intro h) | exact .refl | refine And.intro (by kernel_rfl) ?_ | refine And.intro ⟨fun h => h, fun h => h⟩ ?_ | refine Exists.intro false ?_ | (refine And.intro ?_ ?_; focus (simp; done)) | fail)
  refine And.intro (fun hnil => ?_) ?_
  · exact absurd (List.map_eq_nil_iff.1 hnil) hne
  · repeat' ((conv => whnf); first | refine And.intro (fun h => h) ?_ | refine dcond_t (by assumption) ?_ | refine dcond_f (by assumption) ?_ | (refine dcond_intro ?_ ?_ <;> intro h) | exact .refl | refine And.intro (by kernel_rfl) ?_ | refine And.intro ⟨fun h => h, fun h => h⟩ ?_ | refine Exists.intro false ?_ | (refine And.intro ?_ ?_; focus (simp; done)) | fail)
    all_goals (conv => whnf)
    refine And.intro (fitsI (by simp; omega)) ?_
    repeat' ((conv => whnf); first | refine And.intro (fun h => h) ?_ | refine dcond_t (by assumption) ?_ | refine dcond_f (by assumption) ?_ | (refine dcond_intro ?_ ?_ <;> intro h) | exact .refl | refine And.intro (by kernel_rfl) ?_ | refine And.intro ⟨fun h => h, fun h => h⟩ ?_ | refine Exists.intro false ?_ | (refine And.intro ?_ ?_; focus (simp; done)) | fail)
    all_goals (conv => whnf)
    exact ⟨.refl, ⟨.refl, trivial⟩, by rfl⟩
theorem c_overlay_Order_1 (r a b : Int) : Ret Tryz.prog 224 [i64 a, i64 b, .ip [i64 r]] (i64 (cmpPos r a b)) := by
  unfold cmpPos
  refine ret_of_body (fn := Tryz.f224) (c := Tryz.f224.body.getD .skip) hm hT (by kernel_rfl) Tryz.func224 (by kernel_rfl) (by kernel_rfl) (by kernel_rfl) (by kernel_rfl) ?_
  repeat' ((conv => whnf); first | refine And.intro (fun h => h) ?_ | refine dcond_t (by assumption) ?_ | refine dcond_f (by assumption) ?_ | (refine dcond_intro ?_ ?_ <;> intro h) | exact .refl | refine And.intro (by kernel_rfl) ?_ | refine And.intro ⟨fun h => h, fun h => h⟩ ?_ | refine .inl ⟨_, _, DleAll_refl _, c_Position _ _, ?_⟩ | refine ⟨_, _, DleAll_refl _, fun _ => c_Position _ _, ?_⟩ | refine ⟨_, _, DleAll_refl _, c_Position _ _, ?_⟩ | refine .inl ⟨_, _, DleAll_refl _, c_Compare_u64 _ _, ?_⟩ | refine ⟨_, _, DleAll_refl _, fun _ => c_Compare_u64 _ _, ?_⟩ | refine ⟨_, _, DleAll_refl _, c_Compare_u64 _ _, ?_⟩ | refine Exists.intro false ?_ | (refine And.intro ?_ ?_; focus (simp; done)) | fail)
theorem sortPos_ok (r : Int) (l : List Int) (hl : l.length ≤ 1000000) (hb : ∀ x ∈ l, 1 ≤ x ∧ x ≤ 1000) : RetM Tryz.prog 223 [.row 3 1 (l.map intE)] [.own 0, .fn (.func 224) [.ip [i64 r]]] [true] [.row 3 1 ((sortL (cmpPos r) l).map intE)] (.tup []) :=
  sort_retM (agg := false) (fun vs w => Tryz.sortInt.f6.enters rfl vs w) (sortC_1 Tryz.sortInt _) (fun p cap fv w => AnyF.slices_SortFunc_none { Tryz.sortInt with } p cap fv w)
    intE l (sortL (cmpPos r) l) (cmpPos r) (pos_swo r) (fun x hx y hy => pos_anti (hb x hx) (hb y hy)) (sortL_perm _ _) (sortL_sorted (pos_swo r) _) (by omega) [.ip [i64 r]] (fun d hd => by simp at hd; subst hd; rfl) (fun _ => rfl) (fun x _ y _ => c_overlay_Order_1 r x y)
def orderR (ms : List Int) (r : Int) : List Int := bif !idsB ms 16 || decide (r < 0) || decide (5 ≤ r) then [] else sortL (cmpPos r) ms
theorem order_in {ms : List Int} {r : Int} (h : idsB ms 16 = true) (h1 : 0 ≤ r) (h2 : r < 5) : orderR ms r = sortL (cmpPos r) ms := by
  have e1 : decide (r < 0) = false := decide_eq_false (by omega)
  have e2 : decide (5 ≤ r) = false := decide_eq_false (by omega)
  simp only [orderR, h, e1, e2, Bool.not_true, Bool.or_self, cond_false]
theorem c_overlay_Order (ms : List Int) (hl : ms.length ≤ maxLen) (r : Int) : Ret Tryz.prog 187 [.lst 1 (ms.map intE) false, i64 r] (.lst 1 ((orderR ms r).map intE) false) := by
  have e1 := c_view_ValidMembers ms hl
  have ho : orderR ms r = bif !idsB ms 16 || decide (r < 0) || decide (5 ≤ r) then [] else sortL (cmpPos r) ms := rfl
  refine ret_of_body (fn := Tryz.f187) (c := Tryz.f187.body.getD .skip) hm hT (by kernel_rfl) Tryz.func187 (by kernel_rfl) (by kernel_rfl) (by kernel_rfl) (by kernel_rfl) ?_
  repeat' ((conv => whnf); first | refine And.intro (fun h => h) ?_ | refine dcond_t (by assumption) ?_ | refine dcond_f (by assumption) ?_ | (refine dcond_intro ?_ ?_ <;> intro h) | exact .refl | refine And.intro (by kernel_rfl) ?_ | refine And.intro ⟨fun h => h, fun h => h⟩ ?_ | refine .inl ⟨_, _, DleAll_refl _, e1, ?_⟩ | refine ⟨_, _, DleAll_refl _, fun _ => e1, ?_⟩ | refine ⟨_, _, DleAll_refl _, e1, ?_⟩ | refine Exists.intro false ?_ | (refine And.intro ?_ ?_; focus (simp; done)) | fail)
  all_goals (conv => whnf)
  · rw [ho, h]
    exact .nl
  · have hv : idsB ms 16 = true := by
      simp only [Bool.or_eq_false_iff, Bool.not_eq_false'] at h
      exact h.1.1
    have h16 := (ids_pw.1 hv)
    rw [h, cond_false] at ho
    have hso := sortPos_ok r ms (by omega) h16.2.2
    rw [← ho] at hso
    generalize orderR ms r = O at hso
    have hcl := m_slices_Clone_int ms (by omega) (by intro e; rw [e] at h16; simp at h16)
    repeat' ((conv => whnf); first | refine And.intro (fun h => h) ?_ | refine dcond_t (by assumption) ?_ | refine dcond_f (by assumption) ?_ | (refine dcond_intro ?_ ?_ <;> intro h) | exact .refl | refine And.intro (by kernel_rfl) ?_ | refine And.intro ⟨fun h => h, fun h => h⟩ ?_ | refine .inr ⟨[], [], _, [], _, _, hcl, by rfl, trivial, ⟨.refl, trivial⟩, ?_⟩ | refine .inr ⟨[1], _, _, _, _, _, hso, by rfl, ⟨.refl, trivial⟩, ⟨.refl, .refl, trivial⟩, ?_⟩ | refine Exists.intro false ?_ | (refine And.intro ?_ ?_; focus (simp; done)) | fail)
def nxtR (o : List Int) (id : Int) : Int := o.getD (((placeB o id).toNat + 1) % o.length) 0
def subjAt (ms : List Int) (id : Int) (i : Nat) : List Int := (List.range i).map fun (r : Nat) => nxtR (orderR ms r) id
def subjR (ms : List Int) (id : Int) : List Int := bif !idsB ms 16 || !inB ms id || decide ((ms.length : Int) = 1) then [] else subjAt ms id 5
theorem place_of {l : List Int} {x : Int} (h : x ∈ l) : ∃ k : Nat, placeB l x = k ∧ k < l.length := by
  rcases hf : (List.range l.length).find? (fun i => decide (l[i]? = some x)) with _ | n
  · obtain ⟨i, hi, rfl⟩ := List.getElem_of_mem h
    have := List.find?_eq_none.1 hf i (List.mem_range.2 hi)
    simp [hi] at this
  · refine ⟨n, by simp only [placeB, findB, hf], ?_⟩
    have := List.mem_range.1 (List.mem_of_find?_eq_some hf)
    exact this
theorem sub_bad {ms : List Int} {id : Int} (h : (!idsB ms 16 || !inB ms id || decide ((ms.length : Int) = 1)) = true) : subjR ms id = [] := by
  simp only [subjR, h, cond_true]
theorem sub_good {ms : List Int} {id : Int} (h : (!idsB ms 16 || !inB ms id || decide ((ms.length : Int) = 1)) = false) : idsB ms 16 = true ∧ inB ms id = true ∧ (2 ≤ ms.length ∧ ms.length ≤ 16) ∧ subjR ms id = subjAt ms id 5 := by
  have h' := h
  simp only [Bool.or_eq_false_iff, Bool.not_eq_false', decide_eq_false_iff_not] at h'
  have := (ids_pw.1 h'.1.1).1
  exact ⟨h'.1.1, h'.1.2, by omega, by simp only [subjR, h, cond_false]⟩
theorem c_overlay_Subjects (ms : List Int) (hl : ms.length ≤ maxLen) (id : Int) : Ret Tryz.prog 124 [.lst 1 (ms.map intE) false, i64 id] (.lst 1 ((subjR ms id).map intE) false) := by
  have e1 := c_view_ValidMembers ms hl
  have e2 := c_view_Contains ms hl id
  refine ret_of_body (fn := Tryz.f124) (c := Tryz.f124.body.getD .skip) hm hT (by kernel_rfl) Tryz.func124 (by kernel_rfl) (by kernel_rfl) (by kernel_rfl) (by kernel_rfl) ?_
  repeat' ((conv => whnf); first | refine And.intro (fun h => h) ?_ | refine dcond_t (by assumption) ?_ | refine dcond_f (by assumption) ?_ | (refine dcond_intro ?_ ?_ <;> intro h) | exact .refl | refine And.intro (by kernel_rfl) ?_ | refine And.intro ⟨fun h => h, fun h => h⟩ ?_ | refine .inl ⟨_, _, DleAll_refl _, e1, ?_⟩ | refine ⟨_, _, DleAll_refl _, fun _ => e1, ?_⟩ | refine ⟨_, _, DleAll_refl _, e1, ?_⟩ | refine .inl ⟨_, _, DleAll_refl _, e2, ?_⟩ | refine ⟨_, _, DleAll_refl _, fun _ => e2, ?_⟩ | refine ⟨_, _, DleAll_refl _, e2, ?_⟩ | refine Exists.intro false ?_ | (refine And.intro ?_ ?_; focus (simp; done)) | fail)
  all_goals (conv => whnf)
  · rw [List.length_map] at h
    rw [sub_bad h]
    exact .nl
  · rw [List.length_map] at h
    obtain ⟨hv, hin, hlen, hS⟩ := sub_good h
    clear h
    refine ⟨Nat, fun i => ⟨[(0, .lst 1 (ms.map intE) false), (1, i64 id), (5, .own 0), (22, i64 i)], [.row 3 1 ((subjAt ms id i).map intE)]⟩, fun i => i ≤ 5, fun i => 5 - i, [.slot 5 3 1], ⟨0, Nat.zero_le _, ?_⟩, ?_⟩
    · exact ⟨by repeat' ((conv => whnf); first | exact trivial | refine And.intro (by (conv => arg 1; whnf); first | (with_reducible exact .refl) | exact dle_int (wrap_succ (by omega)) | exact .refl) ?_), by repeat' ((conv => whnf); first | exact trivial | refine And.intro ?_ ?_ | exact .refl), rfl⟩
    · intro i hi
      repeat' ((conv => whnf); first | refine And.intro (fun h => h) ?_ | refine dcond_t (by assumption) ?_ | refine dcond_f (by assumption) ?_ | (refine dcond_intro ?_ ?_ <;> intro h) | exact .refl | refine And.intro (by kernel_rfl) ?_ | refine And.intro ⟨fun h => h, fun h => h⟩ ?_ | refine Exists.intro false ?_ | (refine And.intro ?_ ?_; focus (simp; done)) | fail)
      · have hlt : i < 5 := by
          simp at h
          omega
        clear h
        have ho := order_in (ms := ms) (r := (i : Nat)) hv (by omega) (by omega)
        have hol : (orderR ms (i : Nat)).length = ms.length := by rw [ho, sortL_len]
        have hom : id ∈ orderR ms (i : Nat) := by rw [ho, sortL_mem]; exact in_iff.1 hin
        have eo := c_overlay_Order ms hl (i : Nat)
        have hsn : subjAt ms id (i + 1) = subjAt ms id i ++ [nxtR (orderR ms (i : Nat)) id] := by
          unfold subjAt
          rw [List.range_succ, List.map_append]
          rfl
        have hsl : (subjAt ms id i).length = i := by simp [subjAt]
        generalize orderR ms (i : Nat) = O at hol hom eo hsn
        have ep := c_view_Place O (by rw [hol]; exact hl) id
        obtain ⟨k, hk, hkl⟩ := place_of hom
        rw [hk] at ep
        have hr : (k + 1) % O.length < O.length := Nat.mod_lt _ (by omega)
        have hne : ((O.map intE).length : Int) ≠ 0 := by
          rw [List.length_map]; omega
        have hix : Int.tmod (IntKind.i64.wrap ((k : Int) + 1)) ((O.map intE).length : Int) = (((k + 1) % O.length : Nat) : Int) := by
          rw [wrap_i64 (by omega) (by omega), List.length_map]
          rfl
        have hg : nxtR O id = O[(k + 1) % O.length] := by
          simp only [nxtR, hk, Int.toNat_natCast]
          simp [hr]
        repeat' ((conv => whnf); first | refine And.intro (fun h => h) ?_ | refine dcond_t (by assumption) ?_ | refine dcond_f (by assumption) ?_ | (refine dcond_intro ?_ ?_ <;> intro h) | exact .refl | refine And.intro (by kernel_rfl) ?_ | refine And.intro ⟨fun h => h, fun h => h⟩ ?_ | refine .inl ⟨_, _, DleAll_refl _, eo, ?_⟩ | refine ⟨_, _, DleAll_refl _, fun _ => eo, ?_⟩ | refine ⟨_, _, DleAll_refl _, eo, ?_⟩ | refine .inl ⟨_, _, DleAll_refl _, ep, ?_⟩ | refine ⟨_, _, DleAll_refl _, fun _ => ep, ?_⟩ | refine ⟨_, _, DleAll_refl _, ep, ?_⟩ | refine And.intro hne ?_ | refine ⟨(k + 1) % O.length, _, And.intro ⟨hix, get_map hr⟩ ?_⟩ | refine Exists.intro false ?_ | (refine And.intro ?_ ?_; focus (simp; done)) | fail)
        all_goals (conv => whnf)
        refine And.intro (fitsI (by simp; omega)) ?_
        repeat' ((conv => whnf); first | refine And.intro (fun h => h) ?_ | refine dcond_t (by assumption) ?_ | refine dcond_f (by assumption) ?_ | (refine dcond_intro ?_ ?_ <;> intro h) | exact .refl | refine And.intro (by kernel_rfl) ?_ | refine And.intro ⟨fun h => h, fun h => h⟩ ?_ | refine Exists.intro false ?_ | (refine And.intro ?_ ?_; focus (simp; done)) | fail)
        all_goals (conv => whnf)
        refine ⟨i + 1, hlt, by simp only []; omega, ?_⟩
        refine ⟨⟨.refl, .refl, .refl, dle_int (wrap_succ (by omega)), trivial⟩, ⟨ole_row ?_, trivial⟩, rfl⟩
        rw [hsn, hg, List.map_append]
        rfl
      · have : i = 5 := by
          simp at h
          omega
        subst this
        clear h
        conv => whnf
        rw [hS]
        exact .refl
end Go.Proofs.YtdcfooeoaoahjaaGreat

set_option maxRecDepth 100000
namespace Go.Proofs.YtdcfooeoaoahjaaGreat
open Go.Lift
end Go.Proofs.YtdcfooeoaoahjaaGreat

set_option maxRecDepth 100000
namespace Go.Proofs.YtdcfooeoaoahjaaGreat
open Go.Lift
theorem order_lt {ms : List Int} {r : Int} (hv : idsB ms 16 = true) (h1 : 0 ≤ r) (h2 : r < 5) : (orderR ms r).Pairwise fun a b => posR r a < posR r b := by
  rw [order_in hv h1 h2]
  have hb := (ids_pw.1 hv).2.2
  have hn : (sortL (cmpPos r) ms).Nodup := (sortL_perm _ _).nodup_iff.2 (pw_nodup (ids_pw.1 hv).2.1)
  have hs := sortL_sorted (pos_swo r) ms
  refine (List.pairwise_iff_getElem.2 fun i j hi hj hij => ?_)
  have h3 := List.pairwise_iff_getElem.1 hs i j hi hj hij
  rw [ltPos, decide_eq_false_iff_not] at h3
  have hne : (sortL (cmpPos r) ms)[i] ≠ (sortL (cmpPos r) ms)[j] := (List.pairwise_iff_getElem.1 hn) i j hi hj hij
  have ha := hb _ (sortL_mem.1 (List.getElem_mem hi))
  have hb' := hb _ (sortL_mem.1 (List.getElem_mem hj))
  rcases Int.lt_or_eq_of_le (Int.not_lt.1 h3) with h | h
  · exact h
  · exact absurd (posR_inj ha hb' h) hne
def ahd (r : Int) (O : List Int) (x : Int) : Nat → Int
  | 0 => O.getD (O.length - 1) 0
  | i + 1 => if posR r (O.getD i 0) < posR r x then O.getD i 0 else ahd r O x i
theorem ahd_at {r : Int} {O : List Int} (hp : O.Pairwise fun a b => posR r a < posR r b) {k : Nat} (hk : k < O.length) : ∀ i, i ≤ O.length → ahd r O O[k] i = O.getD (if i = 0 ∨ k = 0 then O.length - 1 else min i k - 1) 0
  | 0, _ => by simp [ahd]
  | i + 1, hi => by
    have ih := ahd_at hp hk i (by omega)
    have hil : i < O.length := by omega
    have hg : O.getD i 0 = O[i] := by simp [hil]
    have hlt : posR r O[i] < posR r O[k] ↔ i < k := by
      constructor
      · intro h
        rcases Nat.lt_or_ge i k with h2 | h2
        · exact h2
        · rcases Nat.lt_or_eq_of_le h2 with h2 | h2
          · have := List.pairwise_iff_getElem.1 hp k i hk hil h2
            omega
          · subst h2
            omega
      · intro h
        exact List.pairwise_iff_getElem.1 hp i k hil hk h
    unfold ahd
    rw [hg, ih]
    by_cases h : i < k
    · rw [if_pos (hlt.2 h), if_neg (by omega)]
      have : min (i + 1) k - 1 = i := by omega
      rw [this, hg]
    · rw [if_neg (fun h' => h (hlt.1 h'))]
      congr 1
      by_cases hk0 : k = 0
      · rw [if_pos (.inr hk0), if_pos (.inr hk0)]
      · rw [if_neg (by omega), if_neg (by omega)]
        omega
def prvR (ms : List Int) (x : Int) (r : Nat) : Int := ahd r (orderR ms r) x (orderR ms r).length
theorem place_val {l : List Int} {x : Int} (h : x ∈ l) : ∃ (k : Nat) (hk : k < l.length), placeB l x = k ∧ l[k] = x := by
  rcases hf : (List.range l.length).find? (fun i => decide (l[i]? = some x)) with _ | n
  · obtain ⟨i, hi, rfl⟩ := List.getElem_of_mem h
    have := List.find?_eq_none.1 hf i (List.mem_range.2 hi)
    simp [hi] at this
  · have h1 := List.mem_range.1 (List.mem_of_find?_eq_some hf)
    refine ⟨n, h1, by simp only [placeB, findB, hf], ?_⟩
    have h2 : decide (l[n]? = some x) = true := List.find?_some (p := fun i => decide (l[i]? = some x)) hf
    have h2 := of_decide_eq_true h2
    rw [List.getElem?_eq_getElem h1] at h2
    exact Option.some.inj h2
theorem prv_nxt {ms : List Int} {a b : Int} {r : Nat} (hv : idsB ms 16 = true) (hr : r < 5) (ha : a ∈ ms) (hb : b ∈ ms) (hab : a ≠ b) : prvR ms b r = a ↔ nxtR (orderR ms r) a = b := by
  have hO := order_lt (r := (r : Nat)) hv (by omega) (by omega)
  have ho := order_in (ms := ms) (r := (r : Nat)) hv (by omega) (by omega)
  have hnd : (orderR ms r).Nodup := by
    rw [ho]
    exact (sortL_perm _ _).nodup_iff.2 (pw_nodup (ids_pw.1 hv).2.1)
  have hma : a ∈ orderR ms r := by rw [ho, sortL_mem]; exact ha
  have hmb : b ∈ orderR ms r := by rw [ho, sortL_mem]; exact hb
  unfold prvR nxtR
  generalize orderR ms r = O at hO hnd hma hmb
  obtain ⟨k, hkl, hk, hka⟩ := place_val hma
  obtain ⟨j, hj, rfl⟩ := List.getElem_of_mem hmb
  rw [ahd_at hO hj _ (Nat.le_refl _), hk, Int.toNat_natCast]
  have hmod : (k + 1) % O.length < O.length := Nat.mod_lt _ (by omega)
  have hg2 : O.getD ((k + 1) % O.length) 0 = O[(k + 1) % O.length] := by simp [hmod]
  have hkj : k ≠ j := fun e => hab (by subst e; exact hka.symm)
  rw [hg2]
  have hinj : ∀ (p q : Nat) (hp : p < O.length) (hq : q < O.length), O[p] = O[q] ↔ p = q := fun p q hp hq => by
    constructor
    · intro h
      exact (List.getElem_inj hnd).1 h
    · intro h
      subst h
      rfl
  rw [hinj _ _ hmod hj]
  have hm2 : (k + 1) % O.length = if k + 1 = O.length then 0 else k + 1 := by
    split
    · rename_i h
      rw [h, Nat.mod_self]
    · exact Nat.mod_eq_of_lt (by omega)
  rw [hm2]
  have hP : (if O.length = 0 ∨ j = 0 then O.length - 1 else min O.length j - 1) < O.length := by split <;> omega
  have hg3 : O.getD (if O.length = 0 ∨ j = 0 then O.length - 1 else min O.length j - 1) 0 = O[if O.length = 0 ∨ j = 0 then O.length - 1 else min O.length j - 1]'hP := by
    rw [List.getD_eq_getElem?_getD, List.getElem?_eq_getElem hP, Option.getD_some]
  rw [hg3, ← hka, hinj _ _ hP hkl]
  split <;> split <;> omega
def obsR (ms : List Int) (x : Int) : List Int := bif !idsB ms 16 || !(decide (1 ≤ x) && decide (x ≤ 1000)) || (decide ((ms.length : Int) = 1) && decide (ms.getD 0 0 = x)) then [] else (List.range 5).map (prvR ms x)
theorem obs_len (ms : List Int) (x : Int) : (obsR ms x).length ≤ 5 := by
  unfold obsR
  cases (!idsB ms 16 || !(decide (1 ≤ x) && decide (x ≤ 1000)) || (decide ((ms.length : Int) = 1) && decide (ms.getD 0 0 = x))) <;> simp
end Go.Proofs.YtdcfooeoaoahjaaGreat

set_option maxRecDepth 100000
namespace Go.Proofs.YtdcfooeoaoahjaaGreat
open Go.Lift
def dstR (r x m : Int) : Int := IntKind.u64.wrap (IntKind.u64.wrap (posR r x - posR r m) - 1)
def minAt (cf : Int → Int → Int) (l : List Int) : Nat → Int
  | 0 => l.getD 0 0
  | i + 1 => if cf (l.getD i 0) (minAt cf l i) < 0 then l.getD i 0 else minAt cf l i
theorem min_one (cf : Int → Int → Int) (l : List Int) : minAt cf l 1 = l.getD 0 0 := by
  rw [minAt, minAt]
  split <;> rfl
theorem c_overlay_identifier (x : Int) : Ret Tryz.prog 167 [i64 x] (.v (.bool (decide (1 ≤ x) && decide (x ≤ 1000)))) := by
  refine ret_of_body (fn := Tryz.f167) (c := Tryz.f167.body.getD .skip) hm hT (by kernel_rfl) Tryz.func167 (by kernel_rfl) (by kernel_rfl) (by kernel_rfl) (by kernel_rfl) ?_
  repeat' ((conv => whnf); first | refine And.intro (fun h => h) ?_ | refine dcond_t (by assumption) ?_ | refine dcond_f (by assumption) ?_ | (refine dcond_intro ?_ ?_ <;> intro h) | exact .refl | refine And.intro (by kernel_rfl) ?_ | refine And.intro ⟨fun h => h, fun h => h⟩ ?_ | refine Exists.intro false ?_ | (refine And.intro ?_ ?_; focus (simp; done)) | fail)
theorem c_overlay_Observers_1 (r x a b : Int) : Ret Tryz.prog 170 [i64 a, i64 b, .ip [u64 (posR r x)], .ip [i64 r]] (i64 (cmpI (dstR r x a) (dstR r x b))) := by
  have e1 := c_Position r a
  have e2 := c_Position r b
  have e3 := c_Compare_u64 (dstR r x a) (dstR r x b)
  unfold dstR at e3 ⊢
  generalize posR r a = p1 at *
  generalize posR r b = p2 at *
  generalize posR r x = p0 at *
  refine ret_of_body (fn := Tryz.f170) (c := Tryz.f170.body.getD .skip) hm hT (by kernel_rfl) Tryz.func170 (by kernel_rfl) (by kernel_rfl) (by kernel_rfl) (by kernel_rfl) ?_
  repeat' ((conv => whnf); first | refine And.intro (fun h => h) ?_ | refine dcond_t (by assumption) ?_ | refine dcond_f (by assumption) ?_ | (refine dcond_intro ?_ ?_ <;> intro h) | exact .refl | refine And.intro (by kernel_rfl) ?_ | refine And.intro ⟨fun h => h, fun h => h⟩ ?_ | refine .inl ⟨_, _, DleAll_refl _, e1, ?_⟩ | refine ⟨_, _, DleAll_refl _, fun _ => e1, ?_⟩ | refine ⟨_, _, DleAll_refl _, e1, ?_⟩ | refine .inl ⟨_, _, DleAll_refl _, e2, ?_⟩ | refine ⟨_, _, DleAll_refl _, fun _ => e2, ?_⟩ | refine ⟨_, _, DleAll_refl _, e2, ?_⟩ | refine .inl ⟨_, _, DleAll_refl _, e3, ?_⟩ | refine ⟨_, _, DleAll_refl _, fun _ => e3, ?_⟩ | refine ⟨_, _, DleAll_refl _, e3, ?_⟩ | refine Exists.intro false ?_ | (refine And.intro ?_ ?_; focus (simp; done)) | fail)
theorem w_MinFunc (l : List Int) (hl1 : 1 ≤ l.length) (hl : l.length ≤ maxLen) (caps : List DV) (cf : Int → Int → Int) (A : Nat → Int) (h1 : A 1 = l.getD 0 0) (hs : ∀ i, A (i + 1) = if cf (l.getD i 0) (A i) < 0 then l.getD i 0 else A i)
    (p q : DV) (hc : ∀ a b, Ret Tryz.prog 170 [i64 a, i64 b, p, q] (i64 (cf a b))) (hp : ∃ a, p = .ip [u64 a]) (hq : ∃ a, q = .ip [i64 a]) : Ret Tryz.prog 169 [.lst 1 (l.map intE) false, .fn (.func 170) [p, q]] (i64 (A l.length)) := by
  have hl' : l.length ≤ 9223372036854775807 := hl
  obtain ⟨pa, rfl⟩ := hp
  obtain ⟨qa, rfl⟩ := hq
  refine ret_of_body (fn := Tryz.f169) (c := Tryz.f169.body.getD .skip) hm hT (by kernel_rfl) Tryz.func169 (by kernel_rfl) (by kernel_rfl) (by kernel_rfl) (by kernel_rfl) ?_
  repeat' ((conv => whnf); first | refine And.intro (fun h => h) ?_ | refine dcond_t (by assumption) ?_ | refine dcond_f (by assumption) ?_ | (refine dcond_intro ?_ ?_ <;> intro h) | exact .refl | refine And.intro (by kernel_rfl) ?_ | refine And.intro ⟨fun h => h, fun h => h⟩ ?_ | refine Exists.intro false ?_ | (refine And.intro ?_ ?_; focus (simp; done)) | fail)
  · exfalso
    simp at h
    omega
  · clear h
    have hg0 : (l.map intE)[0]? = some (intE (A 1)) := by
      rw [h1]
      have : 0 < l.length := by omega
      simp [this]
    repeat' ((conv => whnf); first | refine And.intro (fun h => h) ?_ | refine dcond_t (by assumption) ?_ | refine dcond_f (by assumption) ?_ | (refine dcond_intro ?_ ?_ <;> intro h) | exact .refl | refine And.intro (by kernel_rfl) ?_ | refine And.intro ⟨fun h => h, fun h => h⟩ ?_ | refine ⟨0, intE (A 1), And.intro ⟨rfl, hg0⟩ ?_⟩ | refine Exists.intro false ?_ | (refine And.intro ?_ ?_; focus (simp; done)) | fail)
    all_goals (conv => whnf)
    refine ⟨Nat, fun i => ⟨[(0, .lst 1 (l.map intE) false), (1, .fn (.func 170) [.ip [u64 pa], .ip [i64 qa]]), (5, i64 (A i)), (6, i64 i)], []⟩, fun i => 1 ≤ i ∧ i ≤ l.length, fun i => l.length - i, [], ⟨1, ⟨Nat.le_refl _, hl1⟩, ?_⟩, ?_⟩
    · conv => whnf
      exact ⟨⟨.refl, .refl, .refl, .refl, trivial⟩, trivial, by rfl⟩
    · intro i ⟨hi1, hi⟩
      repeat' ((conv => whnf); first | refine And.intro (fun h => h) ?_ | refine dcond_t (by assumption) ?_ | refine dcond_f (by assumption) ?_ | (refine dcond_intro ?_ ?_ <;> intro h) | exact .refl | refine And.intro (by kernel_rfl) ?_ | refine And.intro ⟨fun h => h, fun h => h⟩ ?_ | refine Exists.intro false ?_ | (refine And.intro ?_ ?_; focus (simp; done)) | fail)
      · have hlt : i < l.length := by simpa using h
        clear h
        have hg : l.getD i 0 = l[i] := by simp [hlt]
        have hs := hs i
        rw [hg] at hs
        have e := hc l[i] (A i)
        repeat' ((conv => whnf); first | refine And.intro (fun h => h) ?_ | refine dcond_t (by assumption) ?_ | refine dcond_f (by assumption) ?_ | (refine dcond_intro ?_ ?_ <;> intro h) | exact .refl | refine And.intro (by kernel_rfl) ?_ | refine And.intro ⟨fun h => h, fun h => h⟩ ?_ | refine ⟨_, _, And.intro ⟨rfl, get_map hlt⟩ ?_⟩ | refine .inl ⟨_, _, DleAll_refl _, e, ?_⟩ | refine ⟨_, _, DleAll_refl _, fun _ => e, ?_⟩ | refine ⟨_, _, DleAll_refl _, e, ?_⟩ | refine Exists.intro false ?_ | (refine And.intro ?_ ?_; focus (simp; done)) | fail)
        all_goals (conv => whnf)
        all_goals refine ⟨i + 1, ⟨by omega, hlt⟩, by simp only []; omega, ?_⟩
        all_goals (conv => whnf)
        all_goals refine ⟨⟨.refl, .refl, dle_int ?_, dle_int (wrap_succ (by omega)), trivial⟩, trivial, by rfl⟩
        · rw [hs, if_pos (of_decide_eq_true h)]
        · rw [hs, if_neg (of_decide_eq_false h)]
      · have : i = l.length := by
          simp at h
          omega
        subst this
        clear h
        repeat' ((conv => whnf); first | refine And.intro (fun h => h) ?_ | refine dcond_t (by assumption) ?_ | refine dcond_f (by assumption) ?_ | (refine dcond_intro ?_ ?_ <;> intro h) | exact .refl | refine And.intro (by kernel_rfl) ?_ | refine And.intro ⟨fun h => h, fun h => h⟩ ?_ | refine Exists.intro false ?_ | (refine And.intro ?_ ?_; focus (simp; done)) | fail)
end Go.Proofs.YtdcfooeoaoahjaaGreat

set_option maxRecDepth 100000
namespace Go.Proofs.YtdcfooeoaoahjaaGreat
open Go.Lift
theorem dst_lt {r x m : Int} (h : posR r m < posR r x) : dstR r x m = posR r x - posR r m - 1 := by
  have h1 := posR_rng r m
  have h2 := posR_rng r x
  unfold dstR
  generalize posR r m = p at *
  generalize posR r x = q at *
  rw [u64_id (n := q - p) (by omega) (by omega), u64_id (by omega) (by omega)]
theorem dst_ge {r x m : Int} (h : ¬ posR r m < posR r x) : dstR r x m = posR r x - posR r m - 1 + 18446744073709551616 := by
  have h1 := posR_rng r m
  have h2 := posR_rng r x
  unfold dstR
  generalize posR r m = p at *
  generalize posR r x = q at *
  rw [wrap_u64, wrap_u64]
  omega
theorem min_mem {cf : Int → Int → Int} {l : List Int} (hl : 1 ≤ l.length) : ∀ i, i ≤ l.length → minAt cf l i ∈ l
  | 0, _ => by
    rw [minAt]
    have : 0 < l.length := by omega
    simp [this]
  | i + 1, hi => by
    have ih := min_mem (cf := cf) hl i (by omega)
    rw [minAt]
    split
    · have : i < l.length := by omega
      simp [this]
    · exact ih
theorem min_le {d : Int → Int} {l : List Int} : ∀ i, i ≤ l.length → ∀ j, j < i → d (minAt (fun a b => cmpI (d a) (d b)) l i) ≤ d (l.getD j 0)
  | 0, _, j, hj => by omega
  | i + 1, hi, j, hj => by
    have ih := min_le (d := d) (l := l) i (by omega)
    rw [minAt]
    have hc := (cmp_iff (d (l.getD i 0)) (d (minAt (fun a b => cmpI (d a) (d b)) l i))).1
    split
    · rename_i h
      have h := hc.1 h
      rcases Nat.lt_succ_iff_lt_or_eq.1 hj with hj | rfl
      · have := ih j hj
        omega
      · exact Int.le_refl _
    · rename_i h
      have h := fun h2 => h (hc.2 h2)
      rcases Nat.lt_succ_iff_lt_or_eq.1 hj with hj | rfl
      · exact ih j hj
      · omega
theorem ahd_min {r x : Int} {O : List Int} (hp : O.Pairwise fun a b => posR r a < posR r b) (hO : 1 ≤ O.length) : ∀ i, i ≤ O.length → ahd r O x i ∈ O ∧ (ahd r O x i = O.getD (O.length - 1) 0 ∨ posR r (ahd r O x i) < posR r x) ∧ ∀ j, j < i → dstR r x (ahd r O x i) ≤ dstR r x (O.getD j 0)
  | 0, _ => by
    rw [ahd]
    have : O.length - 1 < O.length := by omega
    exact ⟨by simp [this], .inl rfl, fun j hj => by omega⟩
  | i + 1, hi => by
    obtain ⟨h1, h2, h3⟩ := ahd_min (x := x) hp hO i (by omega)
    have hil : i < O.length := by omega
    have hg : O.getD i 0 = O[i] := by simp [hil]
    have hlt : ∀ a b (ha : a < O.length) (hb : b < O.length), a ≤ b → posR r O[a] ≤ posR r O[b] := by
      intro a b ha hb hab
      rcases Nat.lt_or_eq_of_le hab with h | h
      · exact Int.le_of_lt (List.pairwise_iff_getElem.1 hp a b ha hb h)
      · subst h
        exact Int.le_refl _
    rw [ahd]
    split
    · rename_i h
      refine ⟨by rw [hg]; exact List.getElem_mem _, .inr h, fun j hj => ?_⟩
      have hjl : j < O.length := by omega
      have hgj : O.getD j 0 = O[j] := by simp [hjl]
      have := hlt j i hjl hil (by omega)
      rw [hg] at h ⊢
      rw [hgj, dst_lt h, dst_lt (by omega)]
      omega
    · rename_i h
      refine ⟨h1, h2, fun j hj => ?_⟩
      rcases Nat.lt_succ_iff_lt_or_eq.1 hj with hj | rfl
      · exact h3 j hj
      · rcases h2 with h2 | h2
        · have hl : O.length - 1 < O.length := by omega
          have hgl : O.getD (O.length - 1) 0 = O[O.length - 1] := by simp [hl]
          have := hlt j (O.length - 1) hil hl (by omega)
          rw [h2, hgl]
          rw [hg] at h ⊢
          rw [dst_ge h, dst_ge (by omega)]
          omega
        · have r1 := posR_rng r (ahd r O x j)
          have r2 := posR_rng r (O.getD j 0)
          rw [dst_lt h2, dst_ge h]
          omega
theorem dst_inj {r x a b : Int} (ha : 1 ≤ a ∧ a ≤ 1000) (hb : 1 ≤ b ∧ b ≤ 1000) (h : dstR r x a = dstR r x b) : a = b := by
  refine posR_inj (r := r) ha hb ?_
  have r1 := posR_rng r a
  have r2 := posR_rng r b
  by_cases h1 : posR r a < posR r x <;> by_cases h2 : posR r b < posR r x
  · rw [dst_lt h1, dst_lt h2] at h
    omega
  · rw [dst_lt h1, dst_ge h2] at h
    omega
  · rw [dst_ge h1, dst_lt h2] at h
    omega
  · rw [dst_ge h1, dst_ge h2] at h
    omega
theorem min_prv {ms : List Int} {x : Int} {r : Nat} (hv : idsB ms 16 = true) (hr : r < 5) : minAt (fun a b => cmpI (dstR r x a) (dstR r x b)) ms ms.length = prvR ms x r := by
  have hO := order_lt (r := (r : Nat)) hv (by omega) (by omega)
  have ho := order_in (ms := ms) (r := (r : Nat)) hv (by omega) (by omega)
  have hol : (orderR ms (r : Nat)).length = ms.length := by rw [ho, sortL_len]
  have h16 := (ids_pw.1 hv).1
  have hb := (ids_pw.1 hv).2.2
  have hmem : ∀ m, m ∈ orderR ms (r : Nat) ↔ m ∈ ms := fun m => by rw [ho, sortL_mem]
  unfold prvR
  generalize orderR ms (r : Nat) = O at *
  obtain ⟨a1, _, a3⟩ := ahd_min (x := x) hO (by omega) O.length (Nat.le_refl _)
  have b1 := min_mem (cf := fun a b => cmpI (dstR r x a) (dstR r x b)) (l := ms) (by omega) ms.length (Nat.le_refl _)
  have b2 := min_le (d := dstR r x) (l := ms) ms.length (Nat.le_refl _)
  refine dst_inj (r := r) (x := x) (hb _ b1) (hb _ ((hmem _).1 a1)) ?_
  obtain ⟨j, hj, hje⟩ := List.getElem_of_mem ((hmem _).1 a1)
  obtain ⟨k, hk, hke⟩ := List.getElem_of_mem ((hmem _).2 b1)
  have c1 := b2 j hj
  have c2 := a3 k hk
  have g1 : ms.getD j 0 = ms[j] := by simp [hj]
  have g2 : O.getD k 0 = O[k] := by simp [hk]
  rw [g1, hje] at c1
  rw [g2, hke] at c2
  exact Int.le_antisymm c1 c2
theorem min_ex (r x : Int) (l : List Int) : ∃ A : Nat → Int, A 1 = l.getD 0 0 ∧ (∀ i, A (i + 1) = if cmpI (dstR r x (l.getD i 0)) (dstR r x (A i)) < 0 then l.getD i 0 else A i) ∧ minAt (fun a b => cmpI (dstR r x a) (dstR r x b)) l l.length = A l.length :=
  ⟨minAt (fun a b => cmpI (dstR r x a) (dstR r x b)) l, min_one _ _, fun i => by rw [minAt], rfl⟩
theorem c_MinFunc (ms : List Int) (hv : idsB ms 16 = true) (r : Nat) (hr : r < 5) (x : Int) : Ret Tryz.prog 169 [.lst 1 (ms.map intE) false, .fn (.func 170) [.ip [u64 (posR r x)], .ip [i64 r]]] (i64 (prvR ms x r)) := by
  have h16 := (ids_pw.1 hv).1
  obtain ⟨A, h1, hs, he⟩ := min_ex r x ms
  have hp := min_prv (x := x) hv hr
  rw [he] at hp
  rw [← hp]
  exact w_MinFunc ms (by omega) (by simp only [maxLen]; omega) [] (fun a b => cmpI (dstR r x a) (dstR r x b)) A h1 hs _ _ (fun a b => c_overlay_Observers_1 r x a b) ⟨_, rfl⟩ ⟨_, rfl⟩
theorem c_overlay_Observers (ms : List Int) (hl : ms.length ≤ maxLen) (x : Int) : Ret Tryz.prog 100 [.lst 1 (ms.map intE) false, i64 x] (.lst 1 ((obsR ms x).map intE) false) := by
  have e1 := c_view_ValidMembers ms hl
  have e2 := c_overlay_identifier x
  have ea : idsB ms 16 = true → ∀ r : Nat, r < 5 → Ret Tryz.prog 169 [.lst 1 (ms.map intE) false, .fn (.func 170) [.ip [u64 (posR r x)], .ip [i64 r]]] (i64 (prvR ms x r)) := fun hv r hr => c_MinFunc ms hv r hr x
  have ep : ∀ r : Nat, Ret Tryz.prog 168 [i64 r, i64 x] (u64 (posR r x)) := fun r => c_Position r x
  have ho : obsR ms x = bif !idsB ms 16 || !(decide (1 ≤ x) && decide (x ≤ 1000)) || (decide ((ms.length : Int) = 1) && decide (ms.getD 0 0 = x)) then [] else (List.range 5).map (prvR ms x) := rfl
  have hg : ∀ c : Bool, (c && decide (((ms.map intE).length : Int) = 1)) = true → (ms.map intE)[0]? = some (intE (ms.getD 0 0)) := fun c h => by
    simp only [Bool.and_eq_true, decide_eq_true_eq, List.length_map] at h
    have : 0 < ms.length := by omega
    simp [this]
  generalize prvR ms x = A at ea ho
  generalize obsR ms x = R at ho ⊢
  generalize idsB ms 16 = b1 at *
  generalize (decide (1 ≤ x) && decide (x ≤ 1000)) = b2 at *
  generalize hP : (fun r : Nat => posR r x) = P
  have hP : ∀ r : Nat, posR r x = P r := fun r => by rw [← hP]
  simp only [hP] at ea ep
  clear hP
  refine ret_of_body (fn := Tryz.f100) (c := Tryz.f100.body.getD .skip) hm hT (by kernel_rfl) Tryz.func100 (by kernel_rfl) (by kernel_rfl) (by kernel_rfl) (by kernel_rfl) ?_
  repeat' ((conv => whnf); first | refine And.intro (fun h => h) ?_ | refine dcond_t (by assumption) ?_ | refine dcond_f (by assumption) ?_ | (refine dcond_intro ?_ ?_ <;> intro h) | exact .refl | refine And.intro (by kernel_rfl) ?_ | refine And.intro ⟨fun h => h, fun h => h⟩ ?_ | refine .inl ⟨_, _, DleAll_refl _, e1, ?_⟩ | refine ⟨_, _, DleAll_refl _, fun _ => e1, ?_⟩ | refine ⟨_, _, DleAll_refl _, e1, ?_⟩ | refine .inl ⟨_, _, DleAll_refl _, e2, ?_⟩ | refine ⟨_, _, DleAll_refl _, fun _ => e2, ?_⟩ | refine ⟨_, _, DleAll_refl _, e2, ?_⟩ | refine ⟨0, intE (ms.getD 0 0), And.intro ⟨fun h => h, fun h => ⟨rfl, hg _ h⟩⟩ ?_⟩ | refine Exists.intro false ?_ | (refine And.intro ?_ ?_; focus (simp; done)) | fail)
  all_goals (conv => whnf)
  · rw [List.length_map] at h
    rw [ho, h]
    exact .nl
  · rw [List.length_map] at h
    rw [h, cond_false] at ho
    have hb : b1 = true := by
      simp only [Bool.or_eq_false_iff, Bool.not_eq_false'] at h
      exact h.1.1
    have ea := ea hb
    clear h hg
    subst ho
    refine ⟨Nat, fun i => ⟨[(0, .lst 1 (ms.map intE) false), (1, i64 x), (5, .own 0), (28, i64 i)], [.row 3 1 (((List.range i).map A).map intE)]⟩, fun i => i ≤ 5, fun i => 5 - i, [.slot 5 3 1], ⟨0, Nat.zero_le _, ?_⟩, ?_⟩
    · exact ⟨by repeat' ((conv => whnf); first | exact trivial | refine And.intro (by (conv => arg 1; whnf); first | (with_reducible exact .refl) | exact dle_int (wrap_succ (by omega)) | exact .refl) ?_), by repeat' ((conv => whnf); first | exact trivial | refine And.intro ?_ ?_ | exact .refl), rfl⟩
    · intro i hi
      repeat' ((conv => whnf); first | refine And.intro (fun h => h) ?_ | refine dcond_t (by assumption) ?_ | refine dcond_f (by assumption) ?_ | (refine dcond_intro ?_ ?_ <;> intro h) | exact .refl | refine And.intro (by kernel_rfl) ?_ | refine And.intro ⟨fun h => h, fun h => h⟩ ?_ | refine Exists.intro false ?_ | (refine And.intro ?_ ?_; focus (simp; done)) | fail)
      · have hlt : i < 5 := by
          simp at h
          omega
        clear h
        have e := ea i hlt
        have e2 := ep i
        have hfi : (((List.range i).map A).map intE).length + 1 ≤ 2000000 := by
          simp
          omega
        repeat' ((conv => whnf); first | refine And.intro (fun h => h) ?_ | refine dcond_t (by assumption) ?_ | refine dcond_f (by assumption) ?_ | (refine dcond_intro ?_ ?_ <;> intro h) | exact .refl | refine And.intro (by kernel_rfl) ?_ | refine And.intro ⟨fun h => h, fun h => h⟩ ?_ | refine .inl ⟨_, _, DleAll_refl _, e2, ?_⟩ | refine ⟨_, _, DleAll_refl _, fun _ => e2, ?_⟩ | refine ⟨_, _, DleAll_refl _, e2, ?_⟩ | refine .inl ⟨_, _, DleAll_refl _, e, ?_⟩ | refine ⟨_, _, DleAll_refl _, fun _ => e, ?_⟩ | refine ⟨_, _, DleAll_refl _, e, ?_⟩ | refine And.intro (fitsI hfi) ?_ | refine Exists.intro false ?_ | (refine And.intro ?_ ?_; focus (simp; done)) | fail)
        all_goals (conv => whnf)
        refine ⟨i + 1, hlt, by simp only []; omega, ?_⟩
        conv => whnf
        refine ⟨⟨.refl, .refl, .refl, dle_int (wrap_succ (by omega)), trivial⟩, ⟨ole_row ?_, trivial⟩, by rfl⟩
        rw [List.range_succ, List.map_append, List.map_append]
        rfl
      · have : i = 5 := by
          simp at h
          omega
        subst this
        repeat' ((conv => whnf); first | refine And.intro (fun h => h) ?_ | refine dcond_t (by assumption) ?_ | refine dcond_f (by assumption) ?_ | (refine dcond_intro ?_ ?_ <;> intro h) | exact .refl | refine And.intro (by kernel_rfl) ?_ | refine And.intro ⟨fun h => h, fun h => h⟩ ?_ | refine Exists.intro false ?_ | (refine And.intro ?_ ?_; focus (simp; done)) | fail)
end Go.Proofs.YtdcfooeoaoahjaaGreat

set_option maxRecDepth 100000
namespace Go.Proofs.YtdcfooeoaoahjaaGreat
open Go.Lift
structure Win where
  bits : Int
  cnt : Int
def u32 (n : Int) : DV := .v (.int .u32 n)
def winE (w : Win) : List DV := [u32 w.bits, i64 w.cnt]
def winB (w : Win) : Bool := (decide (0 ≤ w.cnt) && decide (w.cnt ≤ 10)) && decide (w.bits < IntKind.u32.wrap (1 * 2 ^ (min w.cnt.toNat 32)))
theorem wrap_u32 (n : Int) : IntKind.u32.wrap n = n % 4294967296 := by
  simp [IntKind.wrap, IntKind.bits, IntKind.signed]
theorem cnt_ok {c : Int} (h : (decide (0 ≤ c) && decide (c ≤ 10)) = true) : 0 ≤ c := by
  simp only [Bool.and_eq_true, decide_eq_true_eq] at h
  exact h.1
theorem win_in {w : Win} (h : winB w = true) (hb : 0 ≤ w.bits) : 0 ≤ w.cnt ∧ w.cnt ≤ 10 ∧ w.bits < 2 ^ w.cnt.toNat ∧ w.bits < 1024 := by
  simp only [winB, Bool.and_eq_true, decide_eq_true_eq] at h
  obtain ⟨⟨h1, h2⟩, h3⟩ := h
  obtain ⟨c, hc⟩ := Int.eq_ofNat_of_zero_le h1
  rw [hc] at h3 h2 ⊢
  have hc10 : c ≤ 10 := by omega
  have e : min ((c : Int)).toNat 32 = c := by omega
  have hp : (2 : Nat) ^ c ≤ 2 ^ 10 := Nat.pow_le_pow_right (by decide) hc10
  have hp' : ((2 : Int) ^ c) = ((2 ^ c : Nat) : Int) := by norm_cast
  rw [e, Int.one_mul, wrap_u32, hp'] at h3
  rw [show ((c : Nat) : Int).toNat = c from Int.toNat_natCast c, hp']
  generalize (2 : Nat) ^ c = q at *
  omega
theorem c_probe_ValidWindow (w : Win) : Ret Tryz.prog 110 [.agg (winE w)] (.v (.bool (winB w))) := by
  refine ret_of_body (fn := Tryz.f110) (c := Tryz.f110.body.getD .skip) hm hT (by kernel_rfl) Tryz.func110 (by kernel_rfl) (by kernel_rfl) (by kernel_rfl) (by kernel_rfl) ?_
  repeat' ((conv => whnf); first | refine And.intro (fun h => h) ?_ | refine dcond_t (by assumption) ?_ | refine dcond_f (by assumption) ?_ | (refine dcond_intro ?_ ?_ <;> intro h) | exact .refl | refine And.intro (by kernel_rfl) ?_ | refine And.intro ⟨fun h => h, fun h => h⟩ ?_ | refine And.intro ⟨⟨fun h => h, fun h => h⟩, fun hg => cnt_ok hg⟩ ?_ | refine And.intro ⟨fun h => h, fun hg => cnt_ok hg⟩ ?_ | refine And.intro (fun hg => cnt_ok hg) ?_ | refine Exists.intro false ?_ | (refine And.intro ?_ ?_; focus (simp; done)) | fail)
def recR (w : Win) (ok : Bool) : Win := bif !winB w then ⟨0, 0⟩ else ⟨w.bits * 2 % 1024 + (bif ok then 0 else 1), if 10 < w.cnt + 1 then 10 else w.cnt + 1⟩
theorem rec_bits0 : ∀ b : Fin 1024, bits .and .u32 (IntKind.u32.wrap ((b.1 : Int) * 2 ^ (min 1 32))) 1023 = (b.1 : Int) * 2 % 1024 ∧ bits .and .u32 (bits .or .u32 (IntKind.u32.wrap ((b.1 : Int) * 2 ^ (min 1 32))) 1) 1023 = (b.1 : Int) * 2 % 1024 + 1 ∧
    Int.tmod (IntKind.u32.wrap ((b.1 : Int) * 2)) 1024 = (b.1 : Int) * 2 % 1024 ∧ IntKind.u32.wrap (Int.tmod (IntKind.u32.wrap ((b.1 : Int) * 2)) 1024 + 1) = (b.1 : Int) * 2 % 1024 + 1 := by decide +kernel
theorem rec_bits {b : Int} (h1 : 0 ≤ b) (h2 : b < 1024) : bits .and .u32 (IntKind.u32.wrap (b * 2 ^ (min (1 : Int).toNat 32))) 1023 = b * 2 % 1024 ∧ bits .and .u32 (bits .or .u32 (IntKind.u32.wrap (b * 2 ^ (min (1 : Int).toNat 32))) 1) 1023 = b * 2 % 1024 + 1 ∧
    Int.tmod (IntKind.u32.wrap (b * 2)) 1024 = b * 2 % 1024 ∧ IntKind.u32.wrap (Int.tmod (IntKind.u32.wrap (b * 2)) 1024 + 1) = b * 2 % 1024 + 1 := by
  obtain ⟨n, rfl⟩ := Int.eq_ofNat_of_zero_le h1
  exact rec_bits0 ⟨n, by omega⟩
theorem rec_rng {w : Win} (hb : 0 ≤ w.bits) (ok : Bool) : 0 ≤ (recR w ok).bits := by
  unfold recR
  cases !winB w
  · simp only [cond_false]
    have := Int.emod_nonneg (w.bits * 2) (b := 1024) (by decide)
    cases ok <;> simp <;> omega
  · simp
theorem c_probe_Record (w : Win) (hb : 0 ≤ w.bits) (ok : Bool) : Ret Tryz.prog 159 [.agg (winE w), .v (.bool ok)] (.agg (winE (recR w ok))) := by
  refine ret_of_body (fn := Tryz.f159) (c := Tryz.f159.body.getD .skip) hm hT (by kernel_rfl) Tryz.func159 (by kernel_rfl) (by kernel_rfl) (by kernel_rfl) (by kernel_rfl) ?_
  repeat' ((conv => whnf); first | refine And.intro (fun h => h) ?_ | refine dcond_t (by assumption) ?_ | refine dcond_f (by assumption) ?_ | (refine dcond_intro ?_ ?_ <;> intro h) | exact .refl | refine And.intro (by kernel_rfl) ?_ | refine And.intro ⟨fun h => h, fun h => h⟩ ?_ | refine .inl ⟨_, _, DleAll_refl _, c_probe_ValidWindow w, ?_⟩ | refine ⟨_, _, DleAll_refl _, fun _ => c_probe_ValidWindow w, ?_⟩ | refine ⟨_, _, DleAll_refl _, c_probe_ValidWindow w, ?_⟩ | refine And.intro (by decide) ?_ | refine Exists.intro false ?_ | (refine And.intro ?_ ?_; focus (simp; done)) | fail)
  all_goals (conv => whnf)
  · rw [recR, h]
    exact .refl
  all_goals
    rename_i h0
    have hv : winB w = true := by simpa using h0
    obtain ⟨k1, k2, _, k3⟩ := win_in hv hb
    obtain ⟨q1, q2, _, _⟩ := rec_bits hb k3
    rw [recR, h0, cond_false]
    refine dle_aggA ⟨dle_int ?_, dle_int ?_, trivial⟩
  · have hok : ok = false := by simpa using h
    subst hok
    exact q2
  · rw [wrap_i64 (by omega) (by omega)]
  · have hok : ok = true := by simpa using h
    subst hok
    exact q1.trans (Int.add_zero _).symm
  · rw [wrap_i64 (by omega) (by omega)]
def popN (b : Int) : Nat → Int
  | 0 => 0
  | k + 1 => bif decide (Int.tmod (b.fdiv (2 ^ k)) 2 = 1) then popN b k + 1 else popN b k
def failR (w : Win) : Bool := winB w && decide (w.cnt = 10) && decide (4 ≤ popN w.bits 10)
set_option maxRecDepth 100000 in
theorem c_OnesCount32 (n : Nat) (hn : n < 1024) : Ret Tryz.prog 201 [u32 n] (i64 (popN n 10)) := by
  have hix : (n : Int).fdiv (2 ^ (min (24 : Int).toNat 32)) = ((0 : Nat) : Int) ∧ bits .and .u32 ((n : Int).fdiv (2 ^ (min (16 : Int).toNat 32))) 255 = ((0 : Nat) : Int) ∧ bits .and .u32 ((n : Int).fdiv (2 ^ (min (8 : Int).toNat 32))) 255 = ((n / 256 : Nat) : Int) ∧ bits .and .u32 (n : Int) 255 = ((n % 256 : Nat) : Int) := by
    have : ∀ n : Nat, n < 1024 → (n : Int).fdiv (2 ^ (min (24 : Int).toNat 32)) = ((0 : Nat) : Int) ∧ bits .and .u32 ((n : Int).fdiv (2 ^ (min (16 : Int).toNat 32))) 255 = ((0 : Nat) : Int) ∧ bits .and .u32 ((n : Int).fdiv (2 ^ (min (8 : Int).toNat 32))) 255 = ((n / 256 : Nat) : Int) ∧ bits .and .u32 (n : Int) 255 = ((n % 256 : Nat) : Int) := by decide +kernel
    exact this n hn
  obtain ⟨i1, i2, i3, i4⟩ := hix
  have b3 : n / 256 < 256 := by omega
  have b4 : n % 256 < 256 := by omega
  refine ret_of_body (fn := Tryz.f201) (c := Tryz.f201.body.getD .skip) hm hT (by kernel_rfl) Tryz.func201 (by kernel_rfl) (by kernel_rfl) (by kernel_rfl) (by kernel_rfl) ?_
  repeat' ((conv => whnf); first | refine And.intro (fun h => h) ?_ | refine dcond_t (by assumption) ?_ | refine dcond_f (by assumption) ?_ | (refine dcond_intro ?_ ?_ <;> intro h) | exact .refl | refine And.intro (by kernel_rfl) ?_ | refine And.intro ⟨fun h => h, fun h => h⟩ ?_ | refine And.intro (by decide) ?_ | refine ⟨0, And.intro ⟨i1, by decide⟩ ?_⟩ | refine ⟨0, And.intro ⟨i2, by decide⟩ ?_⟩ | refine ⟨n / 256, And.intro ⟨i3, b3⟩ ?_⟩ | refine ⟨n % 256, And.intro ⟨i4, b4⟩ ?_⟩ | refine Exists.intro false ?_ | (refine And.intro ?_ ?_; focus (simp; done)) | fail)
  all_goals (conv => whnf)
  refine dle_int ?_
  clear i1 i2 i3 i4 b3 b4
  revert n
  decide +kernel
theorem c_probe_Failing (w : Win) (hb : 0 ≤ w.bits) : Ret Tryz.prog 160 [.agg (winE w)] (.v (.bool (failR w))) := by
  have e : (winB w && decide (w.cnt = 10)) = true → Ret Tryz.prog 201 [u32 w.bits] (i64 (popN w.bits 10)) := fun h => by
    simp only [Bool.and_eq_true] at h
    obtain ⟨_, _, _, k⟩ := win_in h.1 hb
    obtain ⟨n, hn⟩ := Int.eq_ofNat_of_zero_le hb
    rw [hn]
    exact c_OnesCount32 n (by omega)
  unfold failR
  generalize popN w.bits 10 = p at e
  refine ret_of_body (fn := Tryz.f160) (c := Tryz.f160.body.getD .skip) hm hT (by kernel_rfl) Tryz.func160 (by kernel_rfl) (by kernel_rfl) (by kernel_rfl) (by kernel_rfl) ?_
  repeat' ((conv => whnf); first | refine And.intro (fun h => h) ?_ | refine dcond_t (by assumption) ?_ | refine dcond_f (by assumption) ?_ | (refine dcond_intro ?_ ?_ <;> intro h) | exact .refl | refine And.intro (by kernel_rfl) ?_ | refine And.intro ⟨fun h => h, fun h => h⟩ ?_ | refine .inl ⟨_, _, DleAll_refl _, c_probe_ValidWindow w, ?_⟩ | refine ⟨_, _, DleAll_refl _, fun _ => c_probe_ValidWindow w, ?_⟩ | refine ⟨_, _, DleAll_refl _, c_probe_ValidWindow w, ?_⟩ | refine ⟨_, _, DleAll_refl _, e, ?_⟩ | refine Exists.intro false ?_ | (refine And.intro ?_ ?_; focus (simp; done)) | fail)
end Go.Proofs.YtdcfooeoaoahjaaGreat

set_option maxRecDepth 100000
namespace Go.Proofs.YtdcfooeoaoahjaaGreat
open Go.Lift
structure Edge where
  ring : Int
  subj : Int
  heard : Bool
  rep : Bool
  win : Win
def edgeE (e : Edge) : List DV := [i64 e.ring, i64 e.subj, .v (.bool e.heard), .v (.bool e.rep), u32 e.win.bits, i64 e.win.cnt]
structure Det where
  self : Int
  view : View
  edges : List Edge
def detE (d : Det) : List DV := [i64 d.self, i64 d.view.num, .lst 1 (d.view.mem.map intE) false, .lst 6 (d.edges.map edgeE) false]
structure Alr where
  view : Int
  ring : Int
  obs : Int
  subj : Int
def alE (a : Alr) : List DV := [i64 a.view, i64 a.ring, i64 a.obs, i64 a.subj]
def edge0 (r : Nat) (s : Int) : Edge := ⟨r, s, false, false, ⟨0, 0⟩⟩
def edgeZ : Edge := ⟨0, 0, false, false, ⟨0, 0⟩⟩
def edgesAt (S : List Int) (i : Nat) : List Edge := (List.range i).map fun k => edge0 k (S.getD k 0)
theorem edgesAt_len (S : List Int) (i : Nat) : (edgesAt S i).length = i := by simp [edgesAt]
theorem edgesAt_succ (S : List Int) (i : Nat) : edgesAt S (i + 1) = edgesAt S i ++ [edge0 i (S.getD i 0)] := by
  unfold edgesAt
  rw [List.range_succ, List.map_append]
  rfl
def det0 : Det := ⟨0, ⟨0, []⟩, []⟩
def newR (v : View) (self : Int) : Det × Int := bif !viewB v || !inB v.mem self then (det0, 1) else (⟨self, v, edgesAt (subjR v.mem self) (subjR v.mem self).length⟩, 0)
theorem fitsE {n : Nat} (h : n ≤ 2000000) : fitsIn tt 96 n := by
  have e : (tinfo tt 96).bytes = 40 := by kernel_rfl
  refine ⟨?_, ?_⟩
  · rw [e]; omega
  · simp only [maxLen]; omega
theorem subj_len (ms : List Int) (id : Int) : (subjR ms id).length ≤ 5 := by
  unfold subjR
  cases (!idsB ms 16 || !inB ms id || decide ((ms.length : Int) = 1)) <;> simp [subjAt]
theorem c_probe_New (v : View) (hv : v.mem.length ≤ maxLen) (self : Int) : Ret Tryz.prog 69 [.agg (viewE v), i64 self] (.tup [.agg (detE (newR v self).1), i64 (newR v self).2]) := by
  have e1 := c_view_Valid v hv
  have e2 := c_view_Contains v.mem hv self
  have hn : newR v self = bif !viewB v || !inB v.mem self then (det0, 1) else (⟨self, v, edgesAt (subjR v.mem self) (subjR v.mem self).length⟩, 0) := rfl
  refine ret_of_body (fn := Tryz.f69) (c := Tryz.f69.body.getD .skip) hm hT (by kernel_rfl) Tryz.func69 (by kernel_rfl) (by kernel_rfl) (by kernel_rfl) (by kernel_rfl) ?_
  repeat' ((conv => whnf); first | refine And.intro (fun h => h) ?_ | refine dcond_t (by assumption) ?_ | refine dcond_f (by assumption) ?_ | (refine dcond_intro ?_ ?_ <;> intro h) | exact .refl | refine And.intro (by kernel_rfl) ?_ | refine And.intro ⟨fun h => h, fun h => h⟩ ?_ | refine .inl ⟨_, _, DleAll_refl _, e1, ?_⟩ | refine ⟨_, _, DleAll_refl _, fun _ => e1, ?_⟩ | refine ⟨_, _, DleAll_refl _, e1, ?_⟩ | refine .inl ⟨_, _, DleAll_refl _, e2, ?_⟩ | refine ⟨_, _, DleAll_refl _, fun _ => e2, ?_⟩ | refine ⟨_, _, DleAll_refl _, e2, ?_⟩ | refine Exists.intro false ?_ | (refine And.intro ?_ ?_; focus (simp; done)) | fail)
  all_goals (conv => whnf)
  · rw [hn, h]
    exact dle_tupA ⟨dle_aggA ⟨.refl, .refl, .nl, .nl, trivial⟩, .refl, trivial⟩
  · have hvw : viewB v = true := by
      simp only [Bool.or_eq_false_iff, Bool.not_eq_false'] at h
      exact h.1
    have h16 := view_len hvw
    rw [h, cond_false] at hn
    rw [hn]
    have es := c_overlay_Subjects v.mem hv self
    have hsl := subj_len v.mem self
    generalize subjR v.mem self = S at es hsl
    clear h hn
    refine And.intro (fitsI (by simp; omega)) ?_
    repeat' ((conv => whnf); first | refine And.intro (fun h => h) ?_ | refine dcond_t (by assumption) ?_ | refine dcond_f (by assumption) ?_ | (refine dcond_intro ?_ ?_ <;> intro h) | exact .refl | refine And.intro (by kernel_rfl) ?_ | refine And.intro ⟨fun h => h, fun h => h⟩ ?_ | refine .inl ⟨_, _, DleAll_refl _, es, ?_⟩ | refine ⟨_, _, DleAll_refl _, fun _ => es, ?_⟩ | refine ⟨_, _, DleAll_refl _, es, ?_⟩ | refine Exists.intro false ?_ | (refine And.intro ?_ ?_; focus (simp; done)) | fail)
    all_goals (conv => whnf)
    refine ⟨Nat, fun i => ⟨[(4, .lp 1 0), (6, .lp 3 0), (31, .lst 1 (S.map intE) false), (32, i64 S.length), (33, i64 i)], [.cells 24 (viewE v), .cells 45 [i64 0, i64 0, .nl, .nl], .row 3 1 (v.mem.map intE), .cells 45 [i64 self, i64 v.num, .own 2, .own 4], .row 96 6 ((edgesAt S i).map edgeE)]⟩, fun i => i ≤ S.length, fun i => S.length - i, [.cell 3 3 96 6], ⟨0, Nat.zero_le _, ?_⟩, ?_⟩
    · conv => whnf
      exact ⟨⟨.refl, .refl, .refl, dle_int (by simp), .refl, trivial⟩, ⟨.refl, .refl, .refl, .refl, .refl, trivial⟩, by rfl⟩
    · intro i hi
      have hel := edgesAt_len S i
      repeat' ((conv => whnf); first | refine And.intro (fun h => h) ?_ | refine dcond_t (by assumption) ?_ | refine dcond_f (by assumption) ?_ | (refine dcond_intro ?_ ?_ <;> intro h) | exact .refl | refine And.intro (by kernel_rfl) ?_ | refine And.intro ⟨fun h => h, fun h => h⟩ ?_ | refine Exists.intro false ?_ | (refine And.intro ?_ ?_; focus (simp; done)) | fail)
      · have hlt : i < S.length := by simpa using h
        clear h
        have hg : S.getD i 0 = S[i] := by simp [hlt]
        have hsn := edgesAt_succ S i
        rw [hg] at hsn
        repeat' ((conv => whnf); first | refine And.intro (fun h => h) ?_ | refine dcond_t (by assumption) ?_ | refine dcond_f (by assumption) ?_ | (refine dcond_intro ?_ ?_ <;> intro h) | exact .refl | refine And.intro (by kernel_rfl) ?_ | refine And.intro ⟨fun h => h, fun h => h⟩ ?_ | refine ⟨_, _, And.intro ⟨rfl, get_map hlt⟩ ?_⟩ | refine Exists.intro false ?_ | (refine And.intro ?_ ?_; focus (simp; done)) | fail)
        all_goals (conv => whnf)
        refine And.intro (fitsE (by simp; omega)) ?_
        repeat' ((conv => whnf); first | refine And.intro (fun h => h) ?_ | refine dcond_t (by assumption) ?_ | refine dcond_f (by assumption) ?_ | (refine dcond_intro ?_ ?_ <;> intro h) | exact .refl | refine And.intro (by kernel_rfl) ?_ | refine And.intro ⟨fun h => h, fun h => h⟩ ?_ | refine Exists.intro false ?_ | (refine And.intro ?_ ?_; focus (simp; done)) | fail)
        all_goals (conv => whnf)
        refine ⟨i + 1, hlt, by simp only []; omega, ?_⟩
        conv => whnf
        refine ⟨⟨.refl, .refl, .refl, .refl, dle_int (wrap_succ (by omega)), trivial⟩, ⟨.refl, .refl, .refl, .refl, ole_row ?_, trivial⟩, by rfl⟩
        rw [hsn, List.map_append]
        rfl
      · have : i = S.length := by
          simp at h
          omega
        subst this
        repeat' ((conv => whnf); first | refine And.intro (fun h => h) ?_ | refine dcond_t (by assumption) ?_ | refine dcond_f (by assumption) ?_ | (refine dcond_intro ?_ ?_ <;> intro h) | exact .refl | refine And.intro (by kernel_rfl) ?_ | refine And.intro ⟨fun h => h, fun h => h⟩ ?_ | refine Exists.intro false ?_ | (refine And.intro ?_ ?_; focus (simp; done)) | fail)
def okEd (E W : List Edge) (i : Nat) : Bool := !(!decide ((E.getD i edgeZ).ring = (W.getD i edgeZ).ring) || !decide ((E.getD i edgeZ).subj = (W.getD i edgeZ).subj) || !winB (E.getD i edgeZ).win)
def detB (d : Det) : Bool := bif !decide ((newR d.view d.self).2 = 0) || !decide ((d.edges.length : Int) = ((newR d.view d.self).1.edges.length : Int)) then false else allB (okEd d.edges (newR d.view d.self).1.edges) d.edges.length
theorem c_probe_Valid (d : Det) (hv : d.view.mem.length ≤ maxLen) (he : d.edges.length ≤ maxLen) : Ret Tryz.prog 62 [.agg (detE d)] (.v (.bool (detB d))) := by
  have he' : d.edges.length ≤ 9223372036854775807 := he
  have en := c_probe_New d.view hv d.self
  have hd : detB d = bif !decide ((newR d.view d.self).2 = 0) || !decide ((d.edges.length : Int) = ((newR d.view d.self).1.edges.length : Int)) then false else allB (okEd d.edges (newR d.view d.self).1.edges) d.edges.length := rfl
  generalize newR d.view d.self = N at en hd
  obtain ⟨n, e⟩ := N
  refine ret_of_body (fn := Tryz.f62) (c := Tryz.f62.body.getD .skip) hm hT (by kernel_rfl) Tryz.func62 (by kernel_rfl) (by kernel_rfl) (by kernel_rfl) (by kernel_rfl) ?_
  repeat' ((conv => whnf); first | refine And.intro (fun h => h) ?_ | refine dcond_t (by assumption) ?_ | refine dcond_f (by assumption) ?_ | (refine dcond_intro ?_ ?_ <;> intro h) | exact .refl | refine And.intro (by kernel_rfl) ?_ | refine And.intro ⟨fun h => h, fun h => h⟩ ?_ | refine .inl ⟨_, _, DleAll_refl _, en, ?_⟩ | refine ⟨_, _, DleAll_refl _, fun _ => en, ?_⟩ | refine ⟨_, _, DleAll_refl _, en, ?_⟩ | refine Exists.intro false ?_ | (refine And.intro ?_ ?_; focus (simp; done)) | fail)
  all_goals (conv => whnf)
  · rw [List.length_map, List.length_map] at h
    rw [hd, h]
    exact .refl
  · rw [List.length_map, List.length_map] at h
    rw [h, cond_false] at hd
    have hl : d.edges.length = n.edges.length := by
      simp only [Bool.or_eq_false_iff, Bool.not_eq_false', decide_eq_true_eq] at h
      have := h.2
      omega
    clear h
    refine ⟨Nat, fun i => ⟨[(3, .lp 1 0), (27, .lst 6 (d.edges.map edgeE) false), (28, i64 d.edges.length), (29, i64 i)], [.cells 45 (detE d), .cells 45 (detE n)]⟩, fun i => i ≤ d.edges.length ∧ ∀ j, j < i → okEd d.edges n.edges j = true, fun i => d.edges.length - i, [], ⟨0, ⟨Nat.zero_le _, by omega⟩, ?_⟩, ?_⟩
    · exact ⟨⟨.refl, .refl, dle_int (by simp), .refl, trivial⟩, ⟨.refl, .refl, trivial⟩, rfl⟩
    · intro i ⟨hi, hall⟩
      repeat' ((conv => whnf); first | refine And.intro (fun h => h) ?_ | refine dcond_t (by assumption) ?_ | refine dcond_f (by assumption) ?_ | (refine dcond_intro ?_ ?_ <;> intro h) | exact .refl | refine And.intro (by kernel_rfl) ?_ | refine And.intro ⟨fun h => h, fun h => h⟩ ?_ | refine Exists.intro false ?_ | (refine And.intro ?_ ?_; focus (simp; done)) | fail)
      · have hlt : i < d.edges.length := by simpa using h
        clear h
        have hlt2 : i < n.edges.length := by omega
        have hg : d.edges.getD i edgeZ = d.edges[i] := by simp [hlt]
        have hg2 : n.edges.getD i edgeZ = n.edges[i] := by simp [hlt2]
        have hok : okEd d.edges n.edges i = !(!decide (d.edges[i].ring = n.edges[i].ring) || !decide (d.edges[i].subj = n.edges[i].subj) || !winB d.edges[i].win) := by
          simp only [okEd, hg, hg2]
        have ew := c_probe_ValidWindow d.edges[i].win
        generalize winB d.edges[i].win = wb at ew hok
        repeat' ((conv => whnf); first | refine And.intro (fun h => h) ?_ | refine dcond_t (by assumption) ?_ | refine dcond_f (by assumption) ?_ | (refine dcond_intro ?_ ?_ <;> intro h) | exact .refl | refine And.intro (by kernel_rfl) ?_ | refine And.intro ⟨fun h => h, fun h => h⟩ ?_ | refine ⟨_, _, And.intro ⟨rfl, get_map hlt⟩ ?_⟩ | refine ⟨_, _, And.intro ⟨rfl, get_map hlt2⟩ ?_⟩ | refine .inl ⟨_, _, DleAll_refl _, ew, ?_⟩ | refine ⟨_, _, DleAll_refl _, fun _ => ew, ?_⟩ | refine ⟨_, _, DleAll_refl _, ew, ?_⟩ | refine ⟨i, edgeE (n.edges[i]'hlt2), And.intro ⟨⟨fun h => h, fun h => h⟩, fun hg => ⟨rfl, get_map hlt2⟩⟩ ?_⟩ | refine Exists.intro false ?_ | (refine And.intro ?_ ?_; focus (simp; done)) | fail)
        all_goals (conv => whnf)
        · rw [hd, allB_false hlt (by rw [hok, h]; rfl)]
          exact .refl
        · refine ⟨i + 1, ⟨hlt, fun j hj => ?_⟩, by simp only []; omega, ?_⟩
          · rcases Nat.lt_succ_iff_lt_or_eq.1 hj with hj | rfl
            · exact hall j hj
            · rw [hok, h]; rfl
          · exact ⟨⟨.refl, .refl, .refl, dle_int (wrap_succ (by omega)), trivial⟩, ⟨.refl, .refl, trivial⟩, rfl⟩
      · have hge : ¬ i < d.edges.length := by simpa using h
        conv => whnf
        refine dle_bool ?_
        rw [hd, allB_true.2 (fun j hj => hall j (by omega))]
end Go.Proofs.YtdcfooeoaoahjaaGreat

set_option maxRecDepth 100000
namespace Go.Proofs.YtdcfooeoaoahjaaGreat
open Go.Lift
def mapTo {α : Type} (f : α → α) (l : List α) (i : Nat) : List α := (l.take i).map f ++ l.drop i
theorem mapTo_len {α : Type} (f : α → α) (l : List α) (i : Nat) : (mapTo f l i).length = l.length := by
  simp [mapTo]; omega
theorem mapTo_get {α : Type} {f : α → α} {l : List α} {i : Nat} (h : i < l.length) : (mapTo f l i)[i]'(by rw [mapTo_len]; exact h) = l[i] := by
  have hl : ((l.take i).map f).length = i := by simp; omega
  simp only [mapTo]
  rw [List.getElem_append_right (by omega)]
  simp only [hl, Nat.sub_self, List.getElem_drop, Nat.add_zero]
theorem mapTo_set {α : Type} {f : α → α} {l : List α} {i : Nat} (h : i < l.length) : (mapTo f l i).set i (f l[i]) = mapTo f l (i + 1) := by
  have hl : ((l.take i).map f).length = i := by simp; omega
  unfold mapTo
  rw [List.set_append_right _ _ (by omega), hl, Nat.sub_self, List.drop_eq_getElem_cons h, List.set_cons_zero, List.take_succ_eq_append_getElem h, List.map_append]
  simp
theorem mapTo_all {α : Type} (f : α → α) (l : List α) : mapTo f l l.length = l.map f := by simp [mapTo]
theorem fitsE' {n : Nat} (h : n ≤ 2000000) : n * (tinfo tt 96).bytes ≤ 140737488355328 ∧ n ≤ maxLen := fitsE h
theorem fitsI' {n : Nat} (h : n ≤ 2000000) : n * (tinfo tt 3).bytes ≤ 140737488355328 ∧ n ≤ maxLen := fitsI h
theorem copy_all {l : List (List DV)} {z : List DV} : l.take (List.replicate l.length z).length ++ (List.replicate l.length z).drop l.length = l := by
  rw [List.length_replicate, List.drop_of_length_le (Nat.le_of_eq (List.length_replicate ..)), List.append_nil, List.take_of_length_le (Nat.le_refl _)]
theorem m_probe_clone (d : Det) (hv : d.view.mem.length ≤ 1000000) (he : d.edges.length ≤ 1000000) :
    RetM Tryz.prog 144 [] [.agg (detE d)] [] [.dead, .dead, .row 3 1 (d.view.mem.map intE), .row 96 6 (d.edges.map edgeE)] (.agg [i64 d.self, i64 d.view.num, .own 2, .own 3]) := by
  have f1 := fitsI' (n := (d.view.mem.map intE).length) (by simp; omega)
  have f2 := fitsE' (n := (d.edges.map edgeE).length) (by simp; omega)
  refine retM_of_body (fn := Tryz.f144) (c := Tryz.f144.body.getD .skip) hm hT (by kernel_rfl) Tryz.func144 (by kernel_rfl) (by kernel_rfl) (by kernel_rfl) (by kernel_rfl) (by kernel_rfl) ?_
  repeat' ((conv => whnf); first | refine And.intro (fun h => h) ?_ | refine dcond_t (by assumption) ?_ | refine dcond_f (by assumption) ?_ | (refine dcond_intro ?_ ?_ <;> intro h) | exact .refl | refine And.intro (by kernel_rfl) ?_ | refine And.intro ⟨fun h => h, fun h => h⟩ ?_ | refine ⟨(d.view.mem.map intE).length, (d.view.mem.map intE).length, rfl, rfl, Nat.le_refl _, f1.1, f1.2, ?_⟩ | refine ⟨(d.edges.map edgeE).length, (d.edges.map edgeE).length, rfl, rfl, Nat.le_refl _, f2.1, f2.2, ?_⟩ | refine Exists.intro false ?_ | (refine And.intro ?_ ?_; focus (simp; done)) | fail)
  all_goals (conv => whnf)
  exact ⟨.refl, ⟨.dead, .dead, ole_row copy_all, ole_row copy_all, trivial⟩, by rfl⟩
end Go.Proofs.YtdcfooeoaoahjaaGreat

set_option maxRecDepth 100000
namespace Go.Proofs.YtdcfooeoaoahjaaGreat
open Go.Lift
theorem det_in {d : Det} (h : detB d = true) : viewB d.view = true ∧ inB d.view.mem d.self = true ∧ d.edges.length = (subjR d.view.mem d.self).length := by
  unfold detB at h
  rw [newR] at h
  cases hc : (!viewB d.view || !inB d.view.mem d.self)
  · rw [hc] at h
    simp only [cond_false] at h
    simp only [Bool.or_eq_false_iff, Bool.not_eq_false'] at hc
    refine ⟨hc.1, hc.2, ?_⟩
    simp only [edgesAt_len] at h
    by_cases hd : d.edges.length = (subjR d.view.mem d.self).length
    · exact hd
    · have : decide ((d.edges.length : Int) = ((subjR d.view.mem d.self).length : Int)) = false := decide_eq_false (by omega)
      rw [this, Bool.not_false, Bool.or_true] at h
      exact absurd h (by simp)
  · rw [hc] at h
    simp at h
theorem det_len {d : Det} (h : detB d = true) : d.view.mem.length ≤ 16 ∧ d.edges.length ≤ 5 := by
  have a := det_in h
  have b := subj_len d.view.mem d.self
  exact ⟨(view_len a.1).2, by omega⟩
def heardE (i : Int) (e : Edge) : Edge := bif decide (e.subj = i) then ⟨e.ring, e.subj, true, e.rep, e.win⟩ else e
def heardR (d : Det) (i : Int) : Det := bif !detB d then det0 else ⟨d.self, d.view, d.edges.map (heardE i)⟩
theorem c_probe_Heard (d : Det) (hv : d.view.mem.length ≤ maxLen) (he : d.edges.length ≤ maxLen) (id : Int) : Ret Tryz.prog 86 [.agg (detE d), i64 id] (.agg (detE (heardR d id))) := by
  have e1 := c_probe_Valid d hv he
  refine ret_of_body (fn := Tryz.f86) (c := Tryz.f86.body.getD .skip) hm hT (by kernel_rfl) Tryz.func86 (by kernel_rfl) (by kernel_rfl) (by kernel_rfl) (by kernel_rfl) ?_
  repeat' ((conv => whnf); first | refine And.intro (fun h => h) ?_ | refine dcond_t (by assumption) ?_ | refine dcond_f (by assumption) ?_ | (refine dcond_intro ?_ ?_ <;> intro h) | exact .refl | refine And.intro (by kernel_rfl) ?_ | refine And.intro ⟨fun h => h, fun h => h⟩ ?_ | refine .inl ⟨_, _, DleAll_refl _, e1, ?_⟩ | refine ⟨_, _, DleAll_refl _, fun _ => e1, ?_⟩ | refine ⟨_, _, DleAll_refl _, e1, ?_⟩ | refine Exists.intro false ?_ | (refine And.intro ?_ ?_; focus (simp; done)) | fail)
  all_goals (conv => whnf)
  · rw [heardR, h]
    exact dle_aggA ⟨.refl, .refl, .nl, .nl, trivial⟩
  · have hdt : detB d = true := by simpa using h
    have hl := det_len hdt
    rw [heardR, h, cond_false]
    refine .inr ⟨[], [], _, [], _, _, m_probe_clone d (by omega) (by omega), by rfl, trivial, ⟨.refl, trivial⟩, ?_⟩
    clear h
    repeat' ((conv => whnf); first | refine And.intro (fun h => h) ?_ | refine dcond_t (by assumption) ?_ | refine dcond_f (by assumption) ?_ | (refine dcond_intro ?_ ?_ <;> intro h) | exact .refl | refine And.intro (by kernel_rfl) ?_ | refine And.intro ⟨fun h => h, fun h => h⟩ ?_ | refine Exists.intro false ?_ | (refine And.intro ?_ ?_; focus (simp; done)) | fail)
    all_goals (conv => whnf)
    refine ⟨Nat, fun i => ⟨[(1, i64 id), (4, .lp 1 0), (5, .lp 6 0), (15, i64 d.edges.length), (16, i64 i)], [.cells 45 (detE d), .cells 45 [i64 0, i64 0, .nl, .nl], .dead, .dead, .row 3 1 (d.view.mem.map intE), .row 96 6 ((mapTo (heardE id) d.edges i).map edgeE), .cells 45 [i64 d.self, i64 d.view.num, .own 4, .own 5]]⟩, fun i => i ≤ d.edges.length, fun i => d.edges.length - i, [], ⟨0, Nat.zero_le _, ?_⟩, ?_⟩
    · conv => whnf
      exact ⟨⟨.refl, .refl, .refl, dle_int (by simp), .refl, trivial⟩, ⟨.refl, .refl, .refl, .refl, .refl, .refl, .refl, trivial⟩, by rfl⟩
    · intro i hi
      repeat' ((conv => whnf); first | refine And.intro (fun h => h) ?_ | refine dcond_t (by assumption) ?_ | refine dcond_f (by assumption) ?_ | (refine dcond_intro ?_ ?_ <;> intro h) | exact .refl | refine And.intro (by kernel_rfl) ?_ | refine And.intro ⟨fun h => h, fun h => h⟩ ?_ | refine Exists.intro false ?_ | (refine And.intro ?_ ?_; focus (simp; done)) | fail)
      · have hlt : i < d.edges.length := by simpa using h
        clear h
        have hlm : i < (mapTo (heardE id) d.edges i).length := by rw [mapTo_len]; exact hlt
        have hge := mapTo_get (f := heardE id) hlt
        have hse := mapTo_set (f := heardE id) hlt
        have hgm : ((mapTo (heardE id) d.edges i).map edgeE)[i]? = some (edgeE d.edges[i]) := by rw [← hge]; exact get_map hlm
        have hl2 : i < ((mapTo (heardE id) d.edges i).map edgeE).length := by rw [List.length_map]; exact hlm
        have hf : heardE id d.edges[i] = bif decide (d.edges[i].subj = id) then ⟨d.edges[i].ring, d.edges[i].subj, true, d.edges[i].rep, d.edges[i].win⟩ else d.edges[i] := rfl
        repeat' ((conv => whnf); first | refine And.intro (fun h => h) ?_ | refine dcond_t (by assumption) ?_ | refine dcond_f (by assumption) ?_ | (refine dcond_intro ?_ ?_ <;> intro h) | exact .refl | refine And.intro (by kernel_rfl) ?_ | refine And.intro ⟨fun h => h, fun h => h⟩ ?_ | refine ⟨i, And.intro ⟨rfl, hl2⟩ ?_⟩ | refine ⟨edgeE d.edges[i], And.intro hgm ?_⟩ | refine ⟨edgeE d.edges[i], hgm, ?_⟩ | refine Exists.intro false ?_ | (refine And.intro ?_ ?_; focus (simp; done)) | fail)
        all_goals (conv => whnf)
        all_goals refine ⟨i + 1, hlt, by simp only []; omega, ?_⟩
        all_goals (conv => whnf)
        all_goals refine ⟨⟨.refl, .refl, .refl, .refl, dle_int (wrap_succ (by omega)), trivial⟩, ⟨.refl, .refl, .refl, .refl, .refl, ole_row ?_, .refl, trivial⟩, by rfl⟩
        all_goals rw [← hse, hf, h]
        · rw [cond_true, List.map_set]
          rfl
        · rw [cond_false]
          conv => rhs; rw [← hge, List.set_getElem_self]
      · have : i = d.edges.length := by
          simp at h
          omega
        subst this
        rw [mapTo_all]
        repeat' ((conv => whnf); first | refine And.intro (fun h => h) ?_ | refine dcond_t (by assumption) ?_ | refine dcond_f (by assumption) ?_ | (refine dcond_intro ?_ ?_ <;> intro h) | exact .refl | refine And.intro (by kernel_rfl) ?_ | refine And.intro ⟨fun h => h, fun h => h⟩ ?_ | refine Exists.intro false ?_ | (refine And.intro ?_ ?_; focus (simp; done)) | fail)
def tickE (e : Edge) : Edge := ⟨e.ring, e.subj, false, e.rep || failR (recR e.win e.heard), recR e.win e.heard⟩
def hitE (e : Edge) : Bool := failR (recR e.win e.heard) && !e.rep
def alrOf (d : Det) (e : Edge) : Alr := ⟨d.view.num, e.ring, d.self, e.subj⟩
def alsAt (d : Det) (i : Nat) : List Alr := ((d.edges.take i).filter hitE).map (alrOf d)
theorem alsAt_succ (d : Det) (i : Nat) (h : i < d.edges.length) : alsAt d (i + 1) = alsAt d i ++ bif hitE d.edges[i] then [alrOf d d.edges[i]] else [] := by
  unfold alsAt
  rw [List.take_succ_eq_append_getElem h, List.filter_append, List.map_append]
  cases hh : hitE d.edges[i] <;> simp [hh]
theorem alsAt_len (d : Det) (i : Nat) : (alsAt d i).length ≤ i := by
  unfold alsAt
  rw [List.length_map]
  exact Nat.le_trans (List.length_filter_le ..) (by simp; omega)
def tickR (d : Det) : Det × List Alr := bif !detB d then (det0, []) else (⟨d.self, d.view, d.edges.map tickE⟩, alsAt d d.edges.length)
theorem fitsA {n : Nat} (h : n ≤ 2000000) : fitsIn tt 147 n := by
  have e : (tinfo tt 147).bytes = 32 := by kernel_rfl
  refine ⟨?_, ?_⟩
  · rw [e]; omega
  · simp only [maxLen]; omega
theorem gset {α : Type} {l : List α} {i : Nat} {x : α} (h : i < l.length) : (l.set i x)[i]? = some x := by simp [h]
theorem c_probe_Tick (d : Det) (hv : d.view.mem.length ≤ maxLen) (he : d.edges.length ≤ maxLen) (hb : ∀ e ∈ d.edges, 0 ≤ e.win.bits) : Ret Tryz.prog 93 [.agg (detE d)] (.tup [.agg (detE (tickR d).1), .lst 4 ((tickR d).2.map alE) false]) := by
  have e1 := c_probe_Valid d hv he
  refine ret_of_body (fn := Tryz.f93) (c := Tryz.f93.body.getD .skip) hm hT (by kernel_rfl) Tryz.func93 (by kernel_rfl) (by kernel_rfl) (by kernel_rfl) (by kernel_rfl) ?_
  repeat' ((conv => whnf); first | refine And.intro (fun h => h) ?_ | refine dcond_t (by assumption) ?_ | refine dcond_f (by assumption) ?_ | (refine dcond_intro ?_ ?_ <;> intro h) | exact .refl | refine And.intro (by kernel_rfl) ?_ | refine And.intro ⟨fun h => h, fun h => h⟩ ?_ | refine .inl ⟨_, _, DleAll_refl _, e1, ?_⟩ | refine ⟨_, _, DleAll_refl _, fun _ => e1, ?_⟩ | refine ⟨_, _, DleAll_refl _, e1, ?_⟩ | refine Exists.intro false ?_ | (refine And.intro ?_ ?_; focus (simp; done)) | fail)
  all_goals (conv => whnf)
  · rw [tickR, h]
    exact dle_tupA ⟨dle_aggA ⟨.refl, .refl, .nl, .nl, trivial⟩, .nl, trivial⟩
  · have hdt : detB d = true := by simpa using h
    have hl := det_len hdt
    rw [tickR, h, cond_false]
    refine .inr ⟨[], [], _, [], _, _, m_probe_clone d (by omega) (by omega), by rfl, trivial, ⟨.refl, trivial⟩, ?_⟩
    clear h
    repeat' ((conv => whnf); first | refine And.intro (fun h => h) ?_ | refine dcond_t (by assumption) ?_ | refine dcond_f (by assumption) ?_ | (refine dcond_intro ?_ ?_ <;> intro h) | exact .refl | refine And.intro (by kernel_rfl) ?_ | refine And.intro ⟨fun h => h, fun h => h⟩ ?_ | refine Exists.intro false ?_ | (refine And.intro ?_ ?_; focus (simp; done)) | fail)
    all_goals (conv => whnf)
    refine ⟨Nat, fun i => ⟨[(2, .lp 1 0), (4, .lp 6 0), (5, .own 7), (16, i64 d.edges.length), (17, i64 i)], [.cells 45 (detE d), .cells 45 [i64 0, i64 0, .nl, .nl], .dead, .dead, .row 3 1 (d.view.mem.map intE), .row 96 6 ((mapTo tickE d.edges i).map edgeE), .cells 45 [i64 d.self, i64 d.view.num, .own 4, .own 5], .row 147 4 ((alsAt d i).map alE)]⟩, fun i => i ≤ d.edges.length, fun i => d.edges.length - i, [.slot 5 147 4], ⟨0, Nat.zero_le _, ?_⟩, ?_⟩
    · conv => whnf
      exact ⟨⟨.refl, .refl, .refl, dle_int (by simp), .refl, trivial⟩, ⟨.refl, .refl, .refl, .refl, .refl, .refl, .refl, .refl, trivial⟩, by rfl⟩
    · intro i hi
      repeat' ((conv => whnf); first | refine And.intro (fun h => h) ?_ | refine dcond_t (by assumption) ?_ | refine dcond_f (by assumption) ?_ | (refine dcond_intro ?_ ?_ <;> intro h) | exact .refl | refine And.intro (by kernel_rfl) ?_ | refine And.intro ⟨fun h => h, fun h => h⟩ ?_ | refine Exists.intro false ?_ | (refine And.intro ?_ ?_; focus (simp; done)) | fail)
      · have hlt : i < d.edges.length := by simpa using h
        clear h
        have hlm : i < (mapTo tickE d.edges i).length := by rw [mapTo_len]; exact hlt
        have hge := mapTo_get (f := tickE) hlt
        have hse := mapTo_set (f := tickE) hlt
        have hsa := alsAt_succ d i hlt
        have hla := alsAt_len d i
        have hgm : ((mapTo tickE d.edges i).map edgeE)[i]? = some (edgeE d.edges[i]) := by rw [← hge]; exact get_map hlm
        have hfa : ((alsAt d i).map alE).length + 1 ≤ 2000000 := by rw [List.length_map]; omega
        have hl2 : i < ((mapTo tickE d.edges i).map edgeE).length := by rw [List.length_map]; exact hlm
        have hbi := hb d.edges[i] (List.getElem_mem hlt)
        have hbr := rec_rng (w := d.edges[i].win) hbi d.edges[i].heard
        have er := c_probe_Record d.edges[i].win hbi d.edges[i].heard
        have ef := c_probe_Failing (recR d.edges[i].win d.edges[i].heard) hbr
        have htk : tickE d.edges[i] = ⟨d.edges[i].ring, d.edges[i].subj, false, d.edges[i].rep || failR (recR d.edges[i].win d.edges[i].heard), recR d.edges[i].win d.edges[i].heard⟩ := rfl
        have hht : hitE d.edges[i] = (failR (recR d.edges[i].win d.edges[i].heard) && !d.edges[i].rep) := rfl
        have hal : alrOf d d.edges[i] = ⟨d.view.num, d.edges[i].ring, d.self, d.edges[i].subj⟩ := rfl
        generalize hx : d.edges[i] = x at *
        obtain ⟨xr, xs, xh, xp, xw⟩ := x
        simp only [] at hgm hbi hbr er ef htk hht hal
        generalize recR xw xh = w at *
        generalize failR w = fl at *
        repeat' ((conv => whnf); first | refine And.intro (fun h => h) ?_ | refine dcond_t (by assumption) ?_ | refine dcond_f (by assumption) ?_ | (refine dcond_intro ?_ ?_ <;> intro h) | exact .refl | refine And.intro (by kernel_rfl) ?_ | refine And.intro ⟨fun h => h, fun h => h⟩ ?_ | refine ⟨i, And.intro ⟨rfl, hl2⟩ ?_⟩ | refine ⟨edgeE ⟨xr, xs, xh, xp, xw⟩, And.intro hgm ?_⟩ | refine ⟨edgeE ⟨xr, xs, xh, xp, xw⟩, hgm, ?_⟩ | refine ⟨edgeE ⟨xr, xs, xh, xp, w⟩, gset hl2, ?_⟩ | refine ⟨edgeE ⟨xr, xs, xh, xp, w⟩, And.intro (gset hl2) ?_⟩ | refine ⟨edgeE ⟨xr, xs, false, xp, w⟩, And.intro (gset (by simpa using hl2)) ?_⟩ | refine ⟨edgeE ⟨xr, xs, false, xp, w⟩, gset (by simpa using hl2), ?_⟩ | refine ⟨edgeE ⟨xr, xs, false, true, w⟩, And.intro (gset (by simpa using hl2)) ?_⟩ | refine ⟨edgeE ⟨xr, xs, false, xp, w⟩, And.intro ⟨fun h => h, fun _ => gset (by simpa using hl2)⟩ ?_⟩ | refine ⟨edgeE ⟨xr, xs, false, xp, w⟩, And.intro (fun _ => gset (by simpa using hl2)) ?_⟩ | refine And.intro (fitsA hfa) ?_ | refine .inl ⟨_, _, DleAll_refl _, er, ?_⟩ | refine ⟨_, _, DleAll_refl _, fun _ => er, ?_⟩ | refine ⟨_, _, DleAll_refl _, er, ?_⟩ | refine .inl ⟨_, _, DleAll_refl _, ef, ?_⟩ | refine ⟨_, _, DleAll_refl _, fun _ => ef, ?_⟩ | refine ⟨_, _, DleAll_refl _, ef, ?_⟩ | refine Exists.intro false ?_ | (refine And.intro ?_ ?_; focus (simp; done)) | fail)
        all_goals (conv => whnf)
        all_goals refine ⟨i + 1, hlt, by simp only []; omega, ?_⟩
        all_goals (conv => whnf)
        all_goals refine ⟨⟨.refl, .refl, .refl, .refl, dle_int (wrap_succ (by omega)), trivial⟩, ⟨.refl, .refl, .refl, .refl, .refl, ole_row ?_, .refl, ole_row ?_, trivial⟩, by rfl⟩
        · rw [List.set_set, List.set_set, ← hse, htk, List.map_set]
          have hpf : (xp || fl) = true := by
            cases xp <;> cases fl <;> simp_all
          rw [hpf]
          rfl
        · rw [hsa, hht, h, cond_true, List.map_append, hal]
          rfl
        · rw [List.set_set, ← hse, htk, List.map_set]
          have hpf : (xp || fl) = xp := by
            cases xp <;> cases fl <;> simp_all
          rw [hpf]
          rfl
        · rw [hsa, hht, h, cond_false, List.append_nil]
      · have : i = d.edges.length := by
          simp at h
          omega
        subst this
        rw [mapTo_all]
        repeat' ((conv => whnf); first | refine And.intro (fun h => h) ?_ | refine dcond_t (by assumption) ?_ | refine dcond_f (by assumption) ?_ | (refine dcond_intro ?_ ?_ <;> intro h) | exact .refl | refine And.intro (by kernel_rfl) ?_ | refine And.intro ⟨fun h => h, fun h => h⟩ ?_ | refine Exists.intro false ?_ | (refine And.intro ?_ ?_; focus (simp; done)) | fail)
end Go.Proofs.YtdcfooeoaoahjaaGreat

set_option maxRecDepth 100000
namespace Go.Proofs.YtdcfooeoaoahjaaGreat
open Go.Lift
def alr0 : Alr := ⟨0, 0, 0, 0⟩
def ranB (a : Alr) : Bool := decide (0 ≤ a.ring) && decide (a.ring < 5) && decide (1 ≤ a.obs) && decide (a.obs ≤ 1000) && decide (1 ≤ a.subj) && decide (a.subj ≤ 1000)
def lessB (a b : Alr) : Bool := decide (a.subj < b.subj) || (decide (a.subj = b.subj) && decide (a.ring < b.ring))
theorem c_ranged (a : Alr) : Ret Tryz.prog 183 [.agg (alE a)] (.v (.bool (ranB a))) := by
  refine ret_of_body (fn := Tryz.f183) (c := Tryz.f183.body.getD .skip) hm hT (by kernel_rfl) Tryz.func183 (by kernel_rfl) (by kernel_rfl) (by kernel_rfl) (by kernel_rfl) ?_
  repeat' ((conv => whnf); first | refine And.intro (fun h => h) ?_ | refine dcond_t (by assumption) ?_ | refine dcond_f (by assumption) ?_ | (refine dcond_intro ?_ ?_ <;> intro h) | exact .refl | refine And.intro (by kernel_rfl) ?_ | refine And.intro ⟨fun h => h, fun h => h⟩ ?_ | refine Exists.intro false ?_ | (refine And.intro ?_ ?_; focus (simp; done)) | fail)
theorem c_Less (a b : Alr) : Ret Tryz.prog 120 [.agg (alE a), .agg (alE b)] (.v (.bool (lessB a b))) := by
  refine ret_of_body (fn := Tryz.f120) (c := Tryz.f120.body.getD .skip) hm hT (by kernel_rfl) Tryz.func120 (by kernel_rfl) (by kernel_rfl) (by kernel_rfl) (by kernel_rfl) ?_
  repeat' ((conv => whnf); first | refine And.intro (fun h => h) ?_ | refine dcond_t (by assumption) ?_ | refine dcond_f (by assumption) ?_ | (refine dcond_intro ?_ ?_ <;> intro h) | exact .refl | refine And.intro (by kernel_rfl) ?_ | refine And.intro ⟨fun h => h, fun h => h⟩ ?_ | refine Exists.intro false ?_ | (refine And.intro ?_ ?_; focus (simp; done)) | fail)
def valA (v : View) (a : Alr) : Bool := bif !viewB v || !decide (a.view = v.num) || !ranB a then false else decide (a.ring < ((obsR v.mem a.subj).length : Int)) && decide ((obsR v.mem a.subj).getD a.ring.toNat 0 = a.obs)
theorem c_ValidAlert (v : View) (hv : v.mem.length ≤ maxLen) (a : Alr) : Ret Tryz.prog 119 [.agg (viewE v), .agg (alE a)] (.v (.bool (valA v a))) := by
  have e1 := c_view_Valid v hv
  have e2 := c_ranged a
  have e3 := c_overlay_Observers v.mem hv a.subj
  have hd : valA v a = bif !viewB v || !decide (a.view = v.num) || !ranB a then false else decide (a.ring < ((obsR v.mem a.subj).length : Int)) && decide ((obsR v.mem a.subj).getD a.ring.toNat 0 = a.obs) := rfl
  have hr : ranB a = true → 0 ≤ a.ring := fun h => by
    simp only [ranB, Bool.and_eq_true, decide_eq_true_eq] at h
    exact h.1.1.1.1.1
  generalize obsR v.mem a.subj = R at e3 hd
  generalize ranB a = rb at *
  generalize viewB v = vb at *
  generalize valA v a = res at *
  refine ret_of_body (fn := Tryz.f119) (c := Tryz.f119.body.getD .skip) hm hT (by kernel_rfl) Tryz.func119 (by kernel_rfl) (by kernel_rfl) (by kernel_rfl) (by kernel_rfl) ?_
  repeat' ((conv => whnf); first | refine And.intro (fun h => h) ?_ | refine dcond_t (by assumption) ?_ | refine dcond_f (by assumption) ?_ | (refine dcond_intro ?_ ?_ <;> intro h) | exact .refl | refine And.intro (by kernel_rfl) ?_ | refine And.intro ⟨fun h => h, fun h => h⟩ ?_ | refine .inl ⟨_, _, DleAll_refl _, e1, ?_⟩ | refine ⟨_, _, DleAll_refl _, fun _ => e1, ?_⟩ | refine ⟨_, _, DleAll_refl _, e1, ?_⟩ | refine .inl ⟨_, _, DleAll_refl _, e2, ?_⟩ | refine ⟨_, _, DleAll_refl _, fun _ => e2, ?_⟩ | refine ⟨_, _, DleAll_refl _, e2, ?_⟩ | refine Exists.intro false ?_ | (refine And.intro ?_ ?_; focus (simp; done)) | fail)
  · rw [hd, h]
    exact .refl
  · have hrb : rb = true := by
      simp only [Bool.or_eq_false_iff, Bool.not_eq_false'] at h
      exact h.2
    have h0 := hr hrb
    rw [h, cond_false] at hd
    clear h
    have hix : decide (a.ring < ((R.map intE).length : Int)) = true → a.ring = ((a.ring.toNat : Nat) : Int) ∧ (R.map intE)[a.ring.toNat]? = some (intE (R.getD a.ring.toNat 0)) := fun h => by
      have h := of_decide_eq_true h
      rw [List.length_map] at h
      have : a.ring.toNat < R.length := by omega
      refine ⟨by omega, ?_⟩
      simp [this]
    repeat' ((conv => whnf); first | refine And.intro (fun h => h) ?_ | refine dcond_t (by assumption) ?_ | refine dcond_f (by assumption) ?_ | (refine dcond_intro ?_ ?_ <;> intro h) | exact .refl | refine And.intro (by kernel_rfl) ?_ | refine And.intro ⟨fun h => h, fun h => h⟩ ?_ | refine .inl ⟨_, _, DleAll_refl _, e3, ?_⟩ | refine ⟨_, _, DleAll_refl _, fun _ => e3, ?_⟩ | refine ⟨_, _, DleAll_refl _, e3, ?_⟩ | refine ⟨a.ring.toNat, intE (R.getD a.ring.toNat 0), And.intro ⟨⟨fun h => h, fun h => h⟩, fun h => hix h⟩ ?_⟩ | refine ⟨a.ring.toNat, intE (R.getD a.ring.toNat 0), And.intro ⟨fun h => h, fun h => hix h⟩ ?_⟩ | refine ⟨a.ring.toNat, intE (R.getD a.ring.toNat 0), And.intro (fun h => hix h) ?_⟩ | refine Exists.intro false ?_ | (refine And.intro ?_ ?_; focus (simp; done)) | fail)
    all_goals (conv => whnf)
    refine dle_bool ?_
    rw [hd, List.length_map]
def okS (v : View) (l : List Alr) (i : Nat) : Bool := valA v (l.getD i alr0) && !(decide (0 < (i : Int)) && !lessB (l.getD (i - 1) alr0) (l.getD i alr0))
def valS (v : View) (l : List Alr) : Bool := bif !viewB v then false else allB (okS v l) l.length
theorem c_alerts_Valid (v : View) (hv : v.mem.length ≤ maxLen) (l : List Alr) (hl : l.length ≤ maxLen) : Ret Tryz.prog 64 [.agg (viewE v), .lst 4 (l.map alE) false] (.v (.bool (valS v l))) := by
  have hl' : l.length ≤ 9223372036854775807 := hl
  have e1 := c_view_Valid v hv
  have hd : valS v l = bif !viewB v then false else allB (okS v l) l.length := rfl
  have ea := c_ValidAlert v hv
  generalize valS v l = res at *
  generalize viewB v = vb at *
  refine ret_of_body (fn := Tryz.f64) (c := Tryz.f64.body.getD .skip) hm hT (by kernel_rfl) Tryz.func64 (by kernel_rfl) (by kernel_rfl) (by kernel_rfl) (by kernel_rfl) ?_
  repeat' ((conv => whnf); first | refine And.intro (fun h => h) ?_ | refine dcond_t (by assumption) ?_ | refine dcond_f (by assumption) ?_ | (refine dcond_intro ?_ ?_ <;> intro h) | exact .refl | refine And.intro (by kernel_rfl) ?_ | refine And.intro ⟨fun h => h, fun h => h⟩ ?_ | refine .inl ⟨_, _, DleAll_refl _, e1, ?_⟩ | refine ⟨_, _, DleAll_refl _, fun _ => e1, ?_⟩ | refine ⟨_, _, DleAll_refl _, e1, ?_⟩ | refine Exists.intro false ?_ | (refine And.intro ?_ ?_; focus (simp; done)) | fail)
  all_goals (conv => whnf)
  · rw [hd, h]
    exact .refl
  · rw [h, cond_false] at hd
    clear h
    subst hd
    refine ⟨Nat, fun i => ⟨[(1, .lst 4 (l.map alE) false), (2, .lp 0 0), (10, .lst 4 (l.map alE) false), (11, i64 l.length), (12, i64 i)], [.cells 24 (viewE v)]⟩, fun i => i ≤ l.length ∧ ∀ j, j < i → okS v l j = true, fun i => l.length - i, [], ⟨0, ⟨Nat.zero_le _, by omega⟩, ?_⟩, ?_⟩
    · conv => whnf
      exact ⟨⟨.refl, .refl, .refl, dle_int (by simp), .refl, trivial⟩, ⟨.refl, trivial⟩, by rfl⟩
    · intro i ⟨hi, hall⟩
      repeat' ((conv => whnf); first | refine And.intro (fun h => h) ?_ | refine dcond_t (by assumption) ?_ | refine dcond_f (by assumption) ?_ | (refine dcond_intro ?_ ?_ <;> intro h) | exact .refl | refine And.intro (by kernel_rfl) ?_ | refine And.intro ⟨fun h => h, fun h => h⟩ ?_ | refine Exists.intro false ?_ | (refine And.intro ?_ ?_; focus (simp; done)) | fail)
      · have hlt : i < l.length := by simpa using h
        clear h
        have hg : l.getD i alr0 = l[i] := by simp [hlt]
        have hok : okS v l i = (valA v l[i] && !(decide (0 < (i : Int)) && !lessB (l.getD (i - 1) alr0) l[i])) := by
          unfold okS
          rw [hg]
        have e4 := ea l[i]
        have e5 := c_Less (l.getD (i - 1) alr0) l[i]
        have hix : decide ((i : Int) > 0) = true → IntKind.i64.wrap ((i : Int) - 1) = ((i - 1 : Nat) : Int) ∧ (l.map alE)[i - 1]? = some (alE (l.getD (i - 1) alr0)) := fun h => by
          have h := of_decide_eq_true h
          have : i - 1 < l.length := by omega
          refine ⟨by rw [wrap_i64 (by omega) (by omega)]; omega, ?_⟩
          simp [this]
        have hix2 : ∀ c : Bool, (c && decide ((0 : Int) < (i : Int))) = true → IntKind.i64.wrap ((i : Int) - 1) = ((i - 1 : Nat) : Int) ∧ (l.map alE)[i - 1]? = some (alE (l.getD (i - 1) alr0)) := fun c h => by
          rw [Bool.and_eq_true] at h
          exact hix h.2
        generalize valA v l[i] = va at e4 hok
        generalize lessB (l.getD (i - 1) alr0) l[i] = lb at e5 hok
        generalize l.getD (i - 1) alr0 = lp at e5 hix2
        repeat' ((conv => whnf); first | refine And.intro (fun h => h) ?_ | refine dcond_t (by assumption) ?_ | refine dcond_f (by assumption) ?_ | (refine dcond_intro ?_ ?_ <;> intro h) | exact .refl | refine And.intro (by kernel_rfl) ?_ | refine And.intro ⟨fun h => h, fun h => h⟩ ?_ | refine ⟨_, _, And.intro ⟨rfl, get_map hlt⟩ ?_⟩ | refine .inl ⟨_, _, DleAll_refl _, e4, ?_⟩ | refine ⟨_, _, DleAll_refl _, fun _ => e4, ?_⟩ | refine ⟨_, _, DleAll_refl _, e4, ?_⟩ | refine ⟨i - 1, alE lp, And.intro ⟨⟨fun h => h, fun h => h⟩, fun h => hix2 _ h⟩ ?_⟩ | refine ⟨i - 1, alE lp, And.intro ⟨fun h => h, fun h => hix2 _ h⟩ ?_⟩ | refine ⟨i - 1, alE lp, And.intro (fun h => hix2 _ h) ?_⟩ | refine .inl ⟨_, _, DleAll_refl _, e5, ?_⟩ | refine ⟨_, _, DleAll_refl _, fun _ => e5, ?_⟩ | refine ⟨_, _, DleAll_refl _, e5, ?_⟩ | refine Exists.intro false ?_ | (refine And.intro ?_ ?_; focus (simp; done)) | fail)
        all_goals (conv => whnf)
        have hb : okS v l i = !(!va || (decide ((0 : Int) < (i : Int)) && !lb)) := by
          rw [hok, Bool.not_or, Bool.not_not]
        · rw [allB_false hlt (by rw [hb, h]; rfl)]
          exact .refl
        · have hb : okS v l i = !(!va || (decide ((0 : Int) < (i : Int)) && !lb)) := by
            rw [hok, Bool.not_or, Bool.not_not]
          refine ⟨i + 1, ⟨hlt, fun j hj => ?_⟩, by simp only []; omega, ?_⟩
          · rcases Nat.lt_succ_iff_lt_or_eq.1 hj with hj | rfl
            · exact hall j hj
            · rw [hb, h]
              rfl
          · conv => whnf
            exact ⟨⟨.refl, .refl, .refl, .refl, dle_int (wrap_succ (by omega)), trivial⟩, ⟨.refl, trivial⟩, by rfl⟩
      · have hge : ¬ i < l.length := by simpa using h
        conv => whnf
        refine dle_bool ?_
        rw [allB_true.2 (fun j hj => hall j (by omega))]
theorem c_Clone_alr (l : List Alr) (hl : l.length ≤ 1000000) : Ret Tryz.prog 81 [.lst 4 (l.map alE) false] (.lst 4 (l.map alE) false) := by
  refine ret_of_body (fn := Tryz.f81) (c := Tryz.f81.body.getD .skip) hm hT (by kernel_rfl) Tryz.func81 (by kernel_rfl) (by kernel_rfl) (by kernel_rfl) (by kernel_rfl) ?_
  repeat' ((conv => whnf); first | refine And.intro (fun h => h) ?_ | refine dcond_t (by assumption) ?_ | refine dcond_f (by assumption) ?_ | (refine dcond_intro ?_ ?_ <;> intro h) | exact .refl | refine And.intro (by kernel_rfl) ?_ | refine And.intro ⟨fun h => h, fun h => h⟩ ?_ | refine Exists.intro false ?_ | (refine And.intro ?_ ?_; focus (simp; done)) | fail)
  refine And.intro (fun hnil => ?_) ?_
  · repeat' ((conv => whnf); first | refine And.intro (fun h => h) ?_ | refine dcond_t (by assumption) ?_ | refine dcond_f (by assumption) ?_ | (refine dcond_intro ?_ ?_ <;> intro h) | exact .refl | refine And.intro (by kernel_rfl) ?_ | refine And.intro ⟨fun h => h, fun h => h⟩ ?_ | refine Exists.intro false ?_ | (refine And.intro ?_ ?_; focus (simp; done)) | fail)
    all_goals (conv => whnf)
    rw [hnil]
    exact .nl
  · repeat' ((conv => whnf); first | refine And.intro (fun h => h) ?_ | refine dcond_t (by assumption) ?_ | refine dcond_f (by assumption) ?_ | (refine dcond_intro ?_ ?_ <;> intro h) | exact .refl | refine And.intro (by kernel_rfl) ?_ | refine And.intro ⟨fun h => h, fun h => h⟩ ?_ | refine Exists.intro false ?_ | (refine And.intro ?_ ?_; focus (simp; done)) | fail)
    all_goals (conv => whnf)
    refine And.intro (fitsA (by simp; omega)) ?_
    repeat' ((conv => whnf); first | refine And.intro (fun h => h) ?_ | refine dcond_t (by assumption) ?_ | refine dcond_f (by assumption) ?_ | (refine dcond_intro ?_ ?_ <;> intro h) | exact .refl | refine And.intro (by kernel_rfl) ?_ | refine And.intro ⟨fun h => h, fun h => h⟩ ?_ | refine Exists.intro false ?_ | (refine And.intro ?_ ?_; focus (simp; done)) | fail)
end Go.Proofs.YtdcfooeoaoahjaaGreat
