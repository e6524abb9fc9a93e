/- The laws of this seat, part A9: contracts of the functions, plain laws. No conditions. -/
import Derived.Test.YtmfgjjnmfahcjaaRows
import Derived.Test.YtmfgjjnmfahcjaaLiftU
set_option linter.unusedSimpArgs false
set_option linter.unusedVariables false
namespace Go.Proofs.Ytmfgjjnmfahcjaa
open Go.Lift
def tt : TT := [(2, ⟨1, 8, false, [.v (.int .i64 0)], .int .i64⟩),
  (3, ⟨1, 8, false, [.v (.int .i64 0)], .int .i64⟩),
  (4, ⟨1, 1, false, [.v (.bool false)], .bool⟩),
  (5, ⟨1, 1, false, [.v (.int .u8 0)], .int .u8⟩),
  (9, ⟨1, 16, false, [.v (.string ⟨#[]⟩)], .str⟩),
  (21, ⟨1, 4, false, [.v (.int .i32 0)], .int .i32⟩),
  (26, ⟨1, 24, false, [.nl], .slc 3⟩),
  (27, ⟨3, 40, true, [.v (.int .i64 0), .v (.int .i64 0), .nl], .st [(3, 0), (3, 1), (26, 2)]⟩),
  (28, ⟨3, 40, true, [.v (.int .i64 0), .v (.int .i64 0), .nl], .st [(3, 0), (3, 1), (26, 2)]⟩),
  (31, ⟨3, 40, true, [.v (.int .i64 0), .v (.int .i64 0), .nl], .st [(3, 0), (3, 1), (26, 2)]⟩),
  (32, ⟨3, 40, true, [.v (.int .i64 0), .v (.int .i64 0), .nl], .st [(3, 0), (3, 1), (26, 2)]⟩),
  (41, ⟨1, 24, false, [.nl], .slc 5⟩),
  (43, ⟨2, 32, true, [.v (.int .i64 0), .nl], .st [(3, 0), (26, 1)]⟩),
  (44, ⟨2, 32, true, [.v (.int .i64 0), .nl], .st [(3, 0), (26, 1)]⟩),
  (45, ⟨1, 24, false, [.nl], .slc 26⟩),
  (48, ⟨1, 24, false, [.nl], .slc 32⟩),
  (58, ⟨1, 24, false, [.nl], .slc 67⟩),
  (59, ⟨1, 24, false, [.nl], .slc 28⟩),
  (60, ⟨2, 48, true, [.nl, .nl], .st [(48, 0), (26, 1)]⟩),
  (61, ⟨2, 48, true, [.nl, .nl], .st [(48, 0), (26, 1)]⟩),
  (62, ⟨32, 768, true, [.nl, .nl, .nl, .nl, .nl, .nl, .nl, .nl, .nl, .nl, .nl, .nl, .nl, .nl, .nl, .nl, .nl, .nl, .nl, .nl, .nl, .nl, .nl, .nl, .nl, .nl, .nl, .nl, .nl, .nl, .nl, .nl], .arr 16 61⟩),
  (63, ⟨128, 3072, true, [.nl, .nl, .nl, .nl, .nl, .nl, .nl, .nl, .nl, .nl, .nl, .nl, .nl, .nl, .nl, .nl, .nl, .nl, .nl, .nl, .nl, .nl, .nl, .nl, .nl, .nl, .nl, .nl, .nl, .nl, .nl, .nl, .nl, .nl, .nl, .nl, .nl, .nl, .nl, .nl, .nl, .nl, .nl, .nl, .nl, .nl, .nl, .nl, .nl, .nl, .nl, .nl, .nl, .nl, .nl, .nl, .nl, .nl, .nl, .nl, .nl, .nl, .nl, .nl, .nl, .nl, .nl, .nl, .nl, .nl, .nl, .nl, .nl, .nl, .nl, .nl, .nl, .nl, .nl, .nl, .nl, .nl, .nl, .nl, .nl, .nl, .nl, .nl, .nl, .nl, .nl, .nl, .nl, .nl, .nl, .nl, .nl, .nl, .nl, .nl, .nl, .nl, .nl, .nl, .nl, .nl, .nl, .nl, .nl, .nl, .nl, .nl, .nl, .nl, .nl, .nl, .nl, .nl, .nl, .nl, .nl, .nl, .nl, .nl, .nl, .nl, .nl, .nl], .arr 4 62⟩),
  (64, ⟨16, 128, true, [.v (.int .i64 0), .v (.int .i64 0), .v (.int .i64 0), .v (.int .i64 0), .v (.int .i64 0), .v (.int .i64 0), .v (.int .i64 0), .v (.int .i64 0), .v (.int .i64 0), .v (.int .i64 0), .v (.int .i64 0), .v (.int .i64 0), .v (.int .i64 0), .v (.int .i64 0), .v (.int .i64 0), .v (.int .i64 0)], .arr 16 3⟩),
  (65, ⟨64, 512, true, [.v (.int .i64 0), .v (.int .i64 0), .v (.int .i64 0), .v (.int .i64 0), .v (.int .i64 0), .v (.int .i64 0), .v (.int .i64 0), .v (.int .i64 0), .v (.int .i64 0), .v (.int .i64 0), .v (.int .i64 0), .v (.int .i64 0), .v (.int .i64 0), .v (.int .i64 0), .v (.int .i64 0), .v (.int .i64 0), .v (.int .i64 0), .v (.int .i64 0), .v (.int .i64 0), .v (.int .i64 0), .v (.int .i64 0), .v (.int .i64 0), .v (.int .i64 0), .v (.int .i64 0), .v (.int .i64 0), .v (.int .i64 0), .v (.int .i64 0), .v (.int .i64 0), .v (.int .i64 0), .v (.int .i64 0), .v (.int .i64 0), .v (.int .i64 0), .v (.int .i64 0), .v (.int .i64 0), .v (.int .i64 0), .v (.int .i64 0), .v (.int .i64 0), .v (.int .i64 0), .v (.int .i64 0), .v (.int .i64 0), .v (.int .i64 0), .v (.int .i64 0), .v (.int .i64 0), .v (.int .i64 0), .v (.int .i64 0), .v (.int .i64 0), .v (.int .i64 0), .v (.int .i64 0), .v (.int .i64 0), .v (.int .i64 0), .v (.int .i64 0), .v (.int .i64 0), .v (.int .i64 0), .v (.int .i64 0), .v (.int .i64 0), .v (.int .i64 0), .v (.int .i64 0), .v (.int .i64 0), .v (.int .i64 0), .v (.int .i64 0), .v (.int .i64 0), .v (.int .i64 0), .v (.int .i64 0), .v (.int .i64 0)], .arr 4 64⟩),
  (66, ⟨5, 5, true, [.v (.int .u8 0), .v (.int .u8 0), .v (.int .u8 0), .v (.int .u8 0), .v (.int .u8 0)], .st [(5, 0), (5, 1), (5, 2), (5, 3), (5, 4)]⟩),
  (67, ⟨5, 5, true, [.v (.int .u8 0), .v (.int .u8 0), .v (.int .u8 0), .v (.int .u8 0), .v (.int .u8 0)], .st [(5, 0), (5, 1), (5, 2), (5, 3), (5, 4)]⟩),
  (76, ⟨1, 24, false, [.nl], .slc 78⟩),
  (77, ⟨2, 32, true, [.v (.int .i64 0), .nl], .st [(3, 0), (26, 1)]⟩),
  (78, ⟨2, 32, true, [.v (.int .i64 0), .nl], .st [(3, 0), (26, 1)]⟩),
  (84, ⟨1, 8, false, [.v (.int .i64 0)], .int .i64⟩),
  (101, ⟨1, 4, false, [.v (.int .u32 0)], .int .u32⟩)]
theorem hm : Try.prog.follows .mixedOrders = true := by kernel_rfl
theorem hT : tabOk Try.prog tt = true := by kernel_rfl
def i64 (n : Int) : DV := .v (.int .i64 n)
def intE (n : Int) : List DV := [.v (.int .i64 n)]
structure Acc where
  pro : Int
  rank : Int
  cut : List Int
structure Rpt where
  mem : Int
  rank : Int
  cut : List Int
def accE (a : Acc) : List DV := [.v (.int .i64 a.pro), .v (.int .i64 a.rank), .lst 1 (a.cut.map intE) false]
def rptE (a : Rpt) : List DV := [.v (.int .i64 a.mem), .v (.int .i64 a.rank), .lst 1 (a.cut.map intE) false]
def rankOf (a m : Int) : Int := bif decide (a < 1) || decide (1048575 < a) || decide (m < 1) || decide (1000 < m) then 0 else IntKind.i64.wrap (IntKind.i64.wrap (1024 * a) + m)
def ownerOf (r : Int) : Int := bif decide (r ≤ 1024) || decide (1073741824 ≤ r) || decide (1000 < r.tmod 1024) then 0 else r.tmod 1024
theorem r10 (a m : Int) : Ret Try.prog 10 [.v (.int .i64 a), .v (.int .i64 m)] (.v (.int .i64 (rankOf a m))) := by
  refine ret_of_body (fn := Try.f10) (c := Try.f10.body.getD .skip) hm hT (by kernel_rfl) Try.func10 (by kernel_rfl) (by kernel_rfl) (by kernel_rfl) (by kernel_rfl) ?_
  repeat' ((conv => whnf); first | refine And.intro (fun h => h) ?_ | refine dcond_t (by assumption) ?_ | refine dcond_f (by assumption) ?_ | (refine dcond_intro ?_ ?_ <;> intro h) | exact .refl | refine And.intro (by kernel_rfl) ?_ | refine And.intro ⟨fun h => h, fun h => h⟩ ?_ | (refine And.intro ?_ ?_; focus (simp; done)) | fail)
  all_goals (conv => whnf)
  all_goals refine dle_int ?_
  all_goals simp only [rankOf, h, cond_true, cond_false]
theorem r12 (r : Int) : Ret Try.prog 12 [.v (.int .i64 r)] (.v (.int .i64 (ownerOf r))) := by
  refine ret_of_body (fn := Try.f12) (c := Try.f12.body.getD .skip) hm hT (by kernel_rfl) Try.func12 (by kernel_rfl) (by kernel_rfl) (by kernel_rfl) (by kernel_rfl) ?_
  repeat' ((conv => whnf); first | refine And.intro (fun h => h) ?_ | refine dcond_t (by assumption) ?_ | refine dcond_f (by assumption) ?_ | (refine dcond_intro ?_ ?_ <;> intro h) | exact .refl | refine And.intro (by kernel_rfl) ?_ | refine And.intro ⟨fun h => h, fun h => h⟩ ?_ | (refine And.intro ?_ ?_; focus (simp; done)) | fail)
  all_goals (conv => whnf)
  all_goals refine dle_int ?_
  all_goals simp only [ownerOf, h, cond_true, cond_false]
theorem r36 (n : Int) : Ret Try.prog 36 [.v (.int .i64 n)] (.v (.bool (decide (1 ≤ n) && decide (n ≤ 1000)))) := by
  refine ret_of_body (fn := Try.f36) (c := Try.f36.body.getD .skip) hm hT (by kernel_rfl) Try.func36 (by kernel_rfl) (by kernel_rfl) (by kernel_rfl) (by kernel_rfl) ?_
  repeat' ((conv => whnf); first | refine And.intro (fun h => h) ?_ | refine dcond_t (by assumption) ?_ | refine dcond_f (by assumption) ?_ | (refine dcond_intro ?_ ?_ <;> intro h) | exact .refl | refine And.intro (by kernel_rfl) ?_ | refine And.intro ⟨fun h => h, fun h => h⟩ ?_ | (refine And.intro ?_ ?_; focus (simp; done)) | fail)
def rankRef (a m : Int) : Int := bif decide (a < 1) || decide (1048575 < a) || !(decide (1 ≤ m) && decide (m ≤ 1000)) then 0 else IntKind.i64.wrap (IntKind.i64.wrap (1024 * a) + m)
theorem r11 (a m : Int) : Ret Try.prog 11 [.v (.int .i64 a), .v (.int .i64 m)] (.v (.int .i64 (rankRef a m))) := by
  refine ret_of_body (fn := Try.f11) (c := Try.f11.body.getD .skip) hm hT (by kernel_rfl) Try.func11 (by kernel_rfl) (by kernel_rfl) (by kernel_rfl) (by kernel_rfl) ?_
  repeat' ((conv => whnf); first | refine And.intro (fun h => h) ?_ | refine dcond_t (by assumption) ?_ | refine dcond_f (by assumption) ?_ | (refine dcond_intro ?_ ?_ <;> intro h) | exact .refl | refine And.intro (by kernel_rfl) ?_ | refine And.intro ⟨fun h => h, fun h => h⟩ ?_ | refine .inl ⟨_, _, DleAll_refl _, r36 _, ?_⟩ | refine ⟨_, _, DleAll_refl _, r36 _, ?_⟩ | refine ⟨_, _, DleAll_refl _, fun _ => r36 _, ?_⟩ | (refine And.intro ?_ ?_; focus (simp; done)) | fail)
  all_goals (conv => whnf)
  all_goals refine dle_int ?_
  all_goals simp only [rankRef, h, cond_true, cond_false]
def ownerRef (r : Int) : Int := bif decide (r < 1025) || decide (1073741823 < r) || !(decide (1 ≤ r.tmod 1024) && decide (r.tmod 1024 ≤ 1000)) then 0 else r.tmod 1024
theorem r13 (r : Int) : Ret Try.prog 13 [.v (.int .i64 r)] (.v (.int .i64 (ownerRef r))) := by
  refine ret_of_body (fn := Try.f13) (c := Try.f13.body.getD .skip) hm hT (by kernel_rfl) Try.func13 (by kernel_rfl) (by kernel_rfl) (by kernel_rfl) (by kernel_rfl) ?_
  repeat' ((conv => whnf); first | refine And.intro (fun h => h) ?_ | refine dcond_t (by assumption) ?_ | refine dcond_f (by assumption) ?_ | (refine dcond_intro ?_ ?_ <;> intro h) | exact .refl | refine And.intro (by kernel_rfl) ?_ | refine And.intro ⟨fun h => h, fun h => h⟩ ?_ | refine .inl ⟨_, _, DleAll_refl _, r36 _, ?_⟩ | refine ⟨_, _, DleAll_refl _, r36 _, ?_⟩ | refine ⟨_, _, DleAll_refl _, fun _ => r36 _, ?_⟩ | (refine And.intro ?_ ?_; focus (simp; done)) | fail)
  all_goals (conv => whnf)
  all_goals refine dle_int ?_
  all_goals simp only [ownerRef, h, cond_true, cond_false]
def usableB (r : Int) : Bool := !decide (ownerOf r = 0)
theorem r41 (r : Int) : Ret Try.prog 41 [.v (.int .i64 r)] (.v (.bool (usableB r))) := by
  refine ret_of_body (fn := Try.f41) (c := Try.f41.body.getD .skip) hm hT (by kernel_rfl) Try.func41 (by kernel_rfl) (by kernel_rfl) (by kernel_rfl) (by kernel_rfl) ?_
  repeat' ((conv => whnf); first | refine And.intro (fun h => h) ?_ | refine dcond_t (by assumption) ?_ | refine dcond_f (by assumption) ?_ | (refine dcond_intro ?_ ?_ <;> intro h) | exact .refl | refine And.intro (by kernel_rfl) ?_ | refine And.intro ⟨fun h => h, fun h => h⟩ ?_ | refine .inl ⟨_, _, DleAll_refl _, r12 _, ?_⟩ | refine ⟨_, _, DleAll_refl _, r12 _, ?_⟩ | refine ⟨_, _, DleAll_refl _, fun _ => r12 _, ?_⟩ | (refine And.intro ?_ ?_; focus (simp; done)) | fail)
theorem r39 (l : List Int) (hl : l.length ≤ 1000000) : Ret Try.prog 39 [.lst 1 (l.map intE) false] (.lst 1 (l.map intE) false) := by
  have hby : (l.map intE).length * (tinfo tt 3).bytes ≤ 140737488355328 := by
    have e : (tinfo tt 3).bytes = 8 := by kernel_rfl
    rw [e]; simp; omega
  have hmx : (l.map intE).length ≤ maxLen := by simp only [maxLen]; simp; omega
  refine ret_of_body (fn := Try.f39) (c := Try.f39.body.getD .skip) hm hT (by kernel_rfl) Try.func39 (by kernel_rfl) (by kernel_rfl) (by kernel_rfl) (by kernel_rfl) ?_
  repeat' ((conv => whnf); first | refine And.intro (fun h => h) ?_ | refine dcond_t (by assumption) ?_ | refine dcond_f (by assumption) ?_ | (refine dcond_intro ?_ ?_ <;> intro h) | exact .refl | refine And.intro (by kernel_rfl) ?_ | refine And.intro ⟨fun h => h, fun h => h⟩ ?_ | refine ⟨(l.map intE).length, (l.map intE).length, rfl, rfl, Nat.le_refl _, hby, hmx, ?_⟩ | (refine And.intro ?_ ?_; focus (simp; done)) | fail)
  all_goals (conv => whnf)
  refine dle_lst ?_
  simp
  exact List.take_of_length_le (by simp)
theorem r38 (a : Acc) (hl : a.cut.length ≤ 1000000) : Ret Try.prog 38 [.agg (accE a)] (.agg (accE a)) := by
  refine ret_of_body (fn := Try.f38) (c := Try.f38.body.getD .skip) hm hT (by kernel_rfl) Try.func38 (by kernel_rfl) (by kernel_rfl) (by kernel_rfl) (by kernel_rfl) ?_
  repeat' ((conv => whnf); first | refine And.intro (fun h => h) ?_ | refine dcond_t (by assumption) ?_ | refine dcond_f (by assumption) ?_ | (refine dcond_intro ?_ ?_ <;> intro h) | exact .refl | refine And.intro (by kernel_rfl) ?_ | refine And.intro ⟨fun h => h, fun h => h⟩ ?_ | refine .inl ⟨_, _, DleAll_refl _, r39 _ hl, ?_⟩ | refine ⟨_, _, DleAll_refl _, r39 _ hl, ?_⟩ | refine ⟨_, _, DleAll_refl _, fun _ => r39 _ hl, ?_⟩ | (refine And.intro ?_ ?_; focus (simp; done)) | fail)
theorem r24 : Ret Try.prog 24 [] (.agg (accE ⟨0, -1, []⟩)) := by
  refine ret_of_body (fn := Try.f24) (c := Try.f24.body.getD .skip) hm hT (by kernel_rfl) Try.func24 (by kernel_rfl) (by kernel_rfl) (by kernel_rfl) (by kernel_rfl) ?_
  repeat' ((conv => whnf); first | refine And.intro (fun h => h) ?_ | refine dcond_t (by assumption) ?_ | refine dcond_f (by assumption) ?_ | (refine dcond_intro ?_ ?_ <;> intro h) | exact .refl | refine And.intro (by kernel_rfl) ?_ | refine And.intro ⟨fun h => h, fun h => h⟩ ?_ | (refine And.intro ?_ ?_; focus (simp; done)) | fail)
  all_goals (conv => whnf)
  exact dle_aggA ⟨.refl, .refl, .nl, trivial⟩
end Go.Proofs.Ytmfgjjnmfahcjaa
