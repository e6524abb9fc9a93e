/- The laws of this seat, part OwA: contracts of the functions, plain laws. No conditions. -/
import Derived.Test.YtmbniilpgbjcfaaRows
import Derived.Test.YtmbniilpgbjcfaaLfD
set_option linter.unusedSimpArgs false
set_option linter.unusedVariables false
set_option maxRecDepth 100000
namespace Go.Proofs.Ytmbniilpgbjcfaa
open Go.Lift
def tt : TT := [(2, ⟨1, 8, false, [.v (.int .i64 0)], .int .i64⟩),
  (3, ⟨1, 8, false, [.v (.int .i64 0)], .int .i64⟩),
  (4, ⟨1, 1, false, [.v (.bool false)], .bool⟩),
  (5, ⟨1, 1, false, [.v (.int .u8 0)], .int .u8⟩),
  (9, ⟨1, 16, false, [.v (.string ⟨#[]⟩)], .str⟩),
  (21, ⟨1, 4, false, [.v (.int .i32 0)], .int .i32⟩),
  (22, ⟨1, 24, false, [.nl], .slc 3⟩),
  (23, ⟨2, 32, true, [.v (.int .i64 0), .nl], .st [(3, 0), (22, 1)]⟩),
  (24, ⟨2, 32, true, [.v (.int .i64 0), .nl], .st [(3, 0), (22, 1)]⟩),
  (25, ⟨3, 40, true, [.v (.int .i64 0), .v (.int .i64 0), .nl], .st [(3, 0), (3, 1), (22, 2)]⟩),
  (26, ⟨3, 40, true, [.v (.int .i64 0), .v (.int .i64 0), .nl], .st [(3, 0), (3, 1), (22, 2)]⟩),
  (27, ⟨1, 24, false, [.nl], .slc 88⟩),
  (28, ⟨1, 24, false, [.nl], .slc 73⟩),
  (29, ⟨15, 248, true, [.v (.int .i64 0), .v (.int .i64 0), .nl, .v (.int .i64 0), .v (.int .i64 0), .nl, .nl, .nl, .v (.int .i64 0), .v (.int .i64 0), .nl, .nl, .nl, .nl, .v (.int .i64 0)], .st [(3, 0), (24, 1), (26, 3), (22, 6), (27, 7), (3, 8), (3, 9), (28, 10), (22, 11), (28, 12), (22, 13), (3, 14)]⟩),
  (30, ⟨15, 248, true, [.v (.int .i64 0), .v (.int .i64 0), .nl, .v (.int .i64 0), .v (.int .i64 0), .nl, .nl, .nl, .v (.int .i64 0), .v (.int .i64 0), .nl, .nl, .nl, .nl, .v (.int .i64 0)], .st [(3, 0), (24, 1), (26, 3), (22, 6), (27, 7), (3, 8), (3, 9), (28, 10), (22, 11), (28, 12), (22, 13), (3, 14)]⟩),
  (31, ⟨6, 64, true, [.v (.int .i64 0), .v (.int .i64 0), .v (.int .i64 0), .v (.int .i64 0), .v (.int .i64 0), .nl], .st [(3, 0), (3, 1), (3, 2), (3, 3), (3, 4), (22, 5)]⟩),
  (32, ⟨6, 64, true, [.v (.int .i64 0), .v (.int .i64 0), .v (.int .i64 0), .v (.int .i64 0), .v (.int .i64 0), .nl], .st [(3, 0), (3, 1), (3, 2), (3, 3), (3, 4), (22, 5)]⟩),
  (35, ⟨1, 8, false, [.v (.int .i64 0)], .int .i64⟩),
  (41, ⟨1, 24, false, [.nl], .slc 48⟩),
  (47, ⟨7, 72, true, [.v (.int .i64 0), .v (.int .i64 0), .v (.int .i64 0), .v (.int .i64 0), .v (.int .i64 0), .v (.int .i64 0), .nl], .st [(3, 0), (32, 1)]⟩),
  (48, ⟨7, 72, true, [.v (.int .i64 0), .v (.int .i64 0), .v (.int .i64 0), .v (.int .i64 0), .v (.int .i64 0), .v (.int .i64 0), .nl], .st [(3, 0), (32, 1)]⟩),
  (51, ⟨1, 24, false, [.nl], .slc 59⟩),
  (52, ⟨1, 24, false, [.nl], .slc 22⟩),
  (55, ⟨1, 24, false, [.nl], .slc 30⟩),
  (56, ⟨1, 24, false, [.nl], .slc 62⟩),
  (57, ⟨1, 2, false, [.v (.int .u16 0)], .int .u16⟩),
  (58, ⟨4, 6, true, [.v (.int .u8 0), .v (.int .u8 0), .v (.int .u8 0), .v (.int .u16 0)], .st [(5, 0), (5, 1), (5, 2), (57, 3)]⟩),
  (59, ⟨4, 6, true, [.v (.int .u8 0), .v (.int .u8 0), .v (.int .u8 0), .v (.int .u16 0)], .st [(5, 0), (5, 1), (5, 2), (57, 3)]⟩),
  (61, ⟨7, 72, true, [.v (.int .i64 0), .v (.int .i64 0), .v (.int .i64 0), .v (.int .i64 0), .v (.int .i64 0), .v (.int .i64 0), .nl], .st [(3, 0), (32, 1)]⟩),
  (62, ⟨7, 72, true, [.v (.int .i64 0), .v (.int .i64 0), .v (.int .i64 0), .v (.int .i64 0), .v (.int .i64 0), .v (.int .i64 0), .nl], .st [(3, 0), (32, 1)]⟩),
  (66, ⟨1, 24, false, [.nl], .slc 5⟩),
  (67, ⟨1, 8, false, [.v (.int .u64 0)], .int .u64⟩),
  (72, ⟨3, 40, true, [.v (.int .i64 0), .v (.int .i64 0), .nl], .st [(3, 0), (3, 1), (22, 2)]⟩),
  (73, ⟨3, 40, true, [.v (.int .i64 0), .v (.int .i64 0), .nl], .st [(3, 0), (3, 1), (22, 2)]⟩),
  (87, ⟨2, 32, true, [.v (.int .i64 0), .nl], .st [(3, 0), (22, 1)]⟩),
  (88, ⟨2, 32, true, [.v (.int .i64 0), .nl], .st [(3, 0), (22, 1)]⟩),
  (94, ⟨16, 272, true, [.v (.int .i64 0), .v (.int .i64 0), .nl, .v (.int .i64 0), .v (.int .i64 0), .nl, .nl, .nl, .v (.int .i64 0), .v (.int .i64 0), .nl, .nl, .nl, .nl, .v (.int .i64 0), .nl], .st [(30, 0), (41, 15)]⟩),
  (95, ⟨16, 272, true, [.v (.int .i64 0), .v (.int .i64 0), .nl, .v (.int .i64 0), .v (.int .i64 0), .nl, .nl, .nl, .v (.int .i64 0), .v (.int .i64 0), .nl, .nl, .nl, .nl, .v (.int .i64 0), .nl], .st [(30, 0), (41, 15)]⟩),
  (137, ⟨1, 4, false, [.v (.int .u32 0)], .int .u32⟩)]
theorem hm : Try.prog.follows .mixedOrders = true := by kernel_rfl
theorem hT : tabOk Try.prog tt = true := by kernel_rfl
def i64 (n : Int) : DV := .v (.int .i64 n)
def intE (n : Int) : List DV := [.v (.int .i64 n)]
structure Acc where
  pro : Int
  rank : Int
  cut : List Int
structure Rpt where
  mem : Int
  rank : Int
  cut : List Int
def accE (a : Acc) : List DV := [.v (.int .i64 a.pro), .v (.int .i64 a.rank), .lst 1 (a.cut.map intE) false]
def rptE (a : Rpt) : List DV := [.v (.int .i64 a.mem), .v (.int .i64 a.rank), .lst 1 (a.cut.map intE) false]
def rankOf (a m : Int) : Int := bif decide (a < 1) || decide (1048575 < a) || decide (m < 1) || decide (1000 < m) then 0 else IntKind.i64.wrap (IntKind.i64.wrap (1024 * a) + m)
def ownerOf (r : Int) : Int := bif decide (r ≤ 1024) || decide (1073741824 ≤ r) || decide (1000 < r.tmod 1024) then 0 else r.tmod 1024
theorem c_paxos_RankOf (a m : Int) : Ret Try.prog 96 [.v (.int .i64 a), .v (.int .i64 m)] (.v (.int .i64 (rankOf a m))) := by
  refine ret_of_body (fn := Try.f96) (c := Try.f96.body.getD .skip) hm hT (by kernel_rfl) Try.func96 (by kernel_rfl) (by kernel_rfl) (by kernel_rfl) (by kernel_rfl) ?_
  repeat' ((conv => whnf); first | refine And.intro (fun h => h) ?_ | refine dcond_t (by assumption) ?_ | refine dcond_f (by assumption) ?_ | (refine dcond_intro ?_ ?_ <;> intro h) | exact .refl | refine And.intro (by kernel_rfl) ?_ | refine And.intro ⟨fun h => h, fun h => h⟩ ?_ | refine Exists.intro false ?_ | (refine And.intro ?_ ?_; focus (simp; done)) | fail)
  all_goals (conv => whnf)
  all_goals refine dle_int ?_
  all_goals simp only [rankOf, h, cond_true, cond_false]
theorem c_paxos_Owner (r : Int) : Ret Try.prog 56 [.v (.int .i64 r)] (.v (.int .i64 (ownerOf r))) := by
  refine ret_of_body (fn := Try.f56) (c := Try.f56.body.getD .skip) hm hT (by kernel_rfl) Try.func56 (by kernel_rfl) (by kernel_rfl) (by kernel_rfl) (by kernel_rfl) ?_
  repeat' ((conv => whnf); first | refine And.intro (fun h => h) ?_ | refine dcond_t (by assumption) ?_ | refine dcond_f (by assumption) ?_ | (refine dcond_intro ?_ ?_ <;> intro h) | exact .refl | refine And.intro (by kernel_rfl) ?_ | refine And.intro ⟨fun h => h, fun h => h⟩ ?_ | refine Exists.intro false ?_ | (refine And.intro ?_ ?_; focus (simp; done)) | fail)
  all_goals (conv => whnf)
  all_goals refine dle_int ?_
  all_goals simp only [ownerOf, h, cond_true, cond_false]
theorem c_ref3_IsID (n : Int) : Ret Try.prog 80 [.v (.int .i64 n)] (.v (.bool (decide (1 ≤ n) && decide (n ≤ 1000)))) := by
  refine ret_of_body (fn := Try.f80) (c := Try.f80.body.getD .skip) hm hT (by kernel_rfl) Try.func80 (by kernel_rfl) (by kernel_rfl) (by kernel_rfl) (by kernel_rfl) ?_
  repeat' ((conv => whnf); first | refine And.intro (fun h => h) ?_ | refine dcond_t (by assumption) ?_ | refine dcond_f (by assumption) ?_ | (refine dcond_intro ?_ ?_ <;> intro h) | exact .refl | refine And.intro (by kernel_rfl) ?_ | refine And.intro ⟨fun h => h, fun h => h⟩ ?_ | refine Exists.intro false ?_ | (refine And.intro ?_ ?_; focus (simp; done)) | fail)
def usableB (r : Int) : Bool := !decide (ownerOf r = 0)
theorem c_paxos_usable (r : Int) : Ret Try.prog 72 [.v (.int .i64 r)] (.v (.bool (usableB r))) := by
  refine ret_of_body (fn := Try.f72) (c := Try.f72.body.getD .skip) hm hT (by kernel_rfl) Try.func72 (by kernel_rfl) (by kernel_rfl) (by kernel_rfl) (by kernel_rfl) ?_
  repeat' ((conv => whnf); first | refine And.intro (fun h => h) ?_ | refine dcond_t (by assumption) ?_ | refine dcond_f (by assumption) ?_ | (refine dcond_intro ?_ ?_ <;> intro h) | exact .refl | refine And.intro (by kernel_rfl) ?_ | refine And.intro ⟨fun h => h, fun h => h⟩ ?_ | refine .inl ⟨_, _, DleAll_refl _, c_paxos_Owner _, ?_⟩ | refine ⟨_, _, DleAll_refl _, fun _ => c_paxos_Owner _, ?_⟩ | refine ⟨_, _, DleAll_refl _, c_paxos_Owner _, ?_⟩ | refine Exists.intro false ?_ | (refine And.intro ?_ ?_; focus (simp; done)) | fail)
theorem c_paxos_clone (l : List Int) (hl : l.length ≤ 1000000) : Ret Try.prog 86 [.lst 1 (l.map intE) false] (.lst 1 (l.map intE) false) := by
  have hby : (l.map intE).length * (tinfo tt 3).bytes ≤ 140737488355328 := by
    have e : (tinfo tt 3).bytes = 8 := by kernel_rfl
    rw [e]; simp; omega
  have hmx : (l.map intE).length ≤ maxLen := by simp only [maxLen]; simp; omega
  refine ret_of_body (fn := Try.f86) (c := Try.f86.body.getD .skip) hm hT (by kernel_rfl) Try.func86 (by kernel_rfl) (by kernel_rfl) (by kernel_rfl) (by kernel_rfl) ?_
  repeat' ((conv => whnf); first | refine And.intro (fun h => h) ?_ | refine dcond_t (by assumption) ?_ | refine dcond_f (by assumption) ?_ | (refine dcond_intro ?_ ?_ <;> intro h) | exact .refl | refine And.intro (by kernel_rfl) ?_ | refine And.intro ⟨fun h => h, fun h => h⟩ ?_ | refine ⟨(l.map intE).length, (l.map intE).length, rfl, rfl, Nat.le_refl _, hby, hmx, ?_⟩ | refine Exists.intro false ?_ | (refine And.intro ?_ ?_; focus (simp; done)) | fail)
  all_goals (conv => whnf)
  refine dle_lst ?_
  simp
  exact List.take_of_length_le (by simp)
theorem c_paxos_copied (a : Acc) (hl : a.cut.length ≤ 1000000) : Ret Try.prog 85 [.agg (accE a)] (.agg (accE a)) := by
  refine ret_of_body (fn := Try.f85) (c := Try.f85.body.getD .skip) hm hT (by kernel_rfl) Try.func85 (by kernel_rfl) (by kernel_rfl) (by kernel_rfl) (by kernel_rfl) ?_
  repeat' ((conv => whnf); first | refine And.intro (fun h => h) ?_ | refine dcond_t (by assumption) ?_ | refine dcond_f (by assumption) ?_ | (refine dcond_intro ?_ ?_ <;> intro h) | exact .refl | refine And.intro (by kernel_rfl) ?_ | refine And.intro ⟨fun h => h, fun h => h⟩ ?_ | refine .inl ⟨_, _, DleAll_refl _, c_paxos_clone _ hl, ?_⟩ | refine ⟨_, _, DleAll_refl _, fun _ => c_paxos_clone _ hl, ?_⟩ | refine ⟨_, _, DleAll_refl _, c_paxos_clone _ hl, ?_⟩ | refine Exists.intro false ?_ | (refine And.intro ?_ ?_; focus (simp; done)) | fail)
theorem c_paxos_Fresh : Ret Try.prog 30 [] (.agg (accE ⟨0, -1, []⟩)) := by
  refine ret_of_body (fn := Try.f30) (c := Try.f30.body.getD .skip) hm hT (by kernel_rfl) Try.func30 (by kernel_rfl) (by kernel_rfl) (by kernel_rfl) (by kernel_rfl) ?_
  repeat' ((conv => whnf); first | refine And.intro (fun h => h) ?_ | refine dcond_t (by assumption) ?_ | refine dcond_f (by assumption) ?_ | (refine dcond_intro ?_ ?_ <;> intro h) | exact .refl | refine And.intro (by kernel_rfl) ?_ | refine And.intro ⟨fun h => h, fun h => h⟩ ?_ | refine Exists.intro false ?_ | (refine And.intro ?_ ?_; focus (simp; done)) | fail)
  all_goals (conv => whnf)
  exact dle_aggA ⟨.refl, .refl, .nl, trivial⟩
def okAt (l : List Int) (i : Nat) : Bool := !(decide (l.getD i 0 ≤ (0 :: l).getD i 0) || decide (1000 < l.getD i 0))
def idsB (l : List Int) (most : Int) : Bool := !(decide ((l.length : Int) < 1) || decide (most < (l.length : Int))) && allB (okAt l) l.length
theorem c_view_identifiers (l : List Int) (hl : l.length ≤ maxLen) (m : Int) : Ret Try.prog 98 [.lst 1 (l.map intE) false, .v (.int .i64 m)] (.v (.bool (idsB l m))) := by
  have hl' : l.length ≤ 9223372036854775807 := hl
  refine ret_of_body (fn := Try.f98) (c := Try.f98.body.getD .skip) hm hT (by kernel_rfl) Try.func98 (by kernel_rfl) (by kernel_rfl) (by kernel_rfl) (by kernel_rfl) ?_
  repeat' ((conv => whnf); first | refine And.intro (fun h => h) ?_ | refine dcond_t (by assumption) ?_ | refine dcond_f (by assumption) ?_ | (refine dcond_intro ?_ ?_ <;> intro h) | exact .refl | refine And.intro (by kernel_rfl) ?_ | refine And.intro ⟨fun h => h, fun h => h⟩ ?_ | refine Exists.intro false ?_ | (refine And.intro ?_ ?_; focus (simp; done)) | fail)
  · skip
    refine dle_bool ?_
    simp only [List.length_map] at h
    simp only [idsB, h]
    rfl
  · skip
    simp only [List.length_map] at h
    have h0 := h
    clear h
    conv => whnf
    refine ⟨Nat, fun i => ⟨[(5, i64 ((0 :: l).getD i 0)), (17, .lst 1 (l.map intE) false), (18, i64 (l.map intE).length), (19, i64 i)], []⟩, fun i => i ≤ l.length ∧ ∀ j, j < i → okAt l j = true, fun i => l.length - i, [], ⟨0, ⟨Nat.zero_le _, by omega⟩, ?_⟩, ?_⟩
    · exact ⟨by repeat' ((conv => whnf); first | exact trivial | refine And.intro (by (conv => arg 1; whnf); first | (with_reducible exact .refl) | exact dle_int (wrap_succ (by omega)) | exact .refl) ?_), by repeat' ((conv => whnf); first | exact trivial | refine And.intro ?_ ?_ | exact .refl), rfl⟩
    · intro i ⟨hi, hall⟩
      repeat' ((conv => whnf); first | refine And.intro (fun h => h) ?_ | refine dcond_t (by assumption) ?_ | refine dcond_f (by assumption) ?_ | (refine dcond_intro ?_ ?_ <;> intro h) | exact .refl | refine And.intro (by kernel_rfl) ?_ | refine And.intro ⟨fun h => h, fun h => h⟩ ?_ | refine Exists.intro false ?_ | (refine And.intro ?_ ?_; focus (simp; done)) | fail)
      · have h1 := h
        have hlt : i < l.length := by simpa using h1
        have hg : l.getD i 0 = l[i] := by simp [hlt]
        repeat' ((conv => whnf); first | refine And.intro (fun h => h) ?_ | refine dcond_t (by assumption) ?_ | refine dcond_f (by assumption) ?_ | (refine dcond_intro ?_ ?_ <;> intro h) | exact .refl | refine And.intro (by kernel_rfl) ?_ | refine And.intro ⟨fun h => h, fun h => h⟩ ?_ | refine ⟨_, _, And.intro ⟨rfl, get_map hlt⟩ ?_⟩ | refine Exists.intro false ?_ | (refine And.intro ?_ ?_; focus (simp; done)) | fail)
        · have h2 := h
          refine dle_bool ?_
          have : okAt l i = false := by simp only [okAt, hg, h2]; rfl
          rw [idsB, allB_false hlt this, Bool.and_false]
        · have h2 := h
          conv => whnf
          refine ⟨i + 1, ⟨hlt, fun j hj => ?_⟩, by simp only []; omega, ?_⟩
          · rcases Nat.lt_succ_iff_lt_or_eq.1 hj with hj | rfl
            · exact hall j hj
            · simp only [okAt, hg, h2]; rfl
          · refine ⟨⟨?_, .refl, .refl, dle_int (wrap_succ (by omega)), trivial⟩, trivial, rfl⟩
            refine dle_int ?_
            simp [hlt]
      · have h1 := h
        have hge : ¬ i < l.length := by simpa using h1
        conv => whnf
        refine dle_bool ?_
        rw [idsB, h0, allB_true.2 (fun j hj => hall j (by omega))]
        rfl
theorem c_view_ValidCut (l : List Int) (hl : l.length ≤ maxLen) : Ret Try.prog 73 [.lst 1 (l.map intE) false] (.v (.bool (idsB l 32))) := by
  refine ret_of_body (fn := Try.f73) (c := Try.f73.body.getD .skip) hm hT (by kernel_rfl) Try.func73 (by kernel_rfl) (by kernel_rfl) (by kernel_rfl) (by kernel_rfl) ?_
  repeat' ((conv => whnf); first | refine And.intro (fun h => h) ?_ | refine dcond_t (by assumption) ?_ | refine dcond_f (by assumption) ?_ | (refine dcond_intro ?_ ?_ <;> intro h) | exact .refl | refine And.intro (by kernel_rfl) ?_ | refine And.intro ⟨fun h => h, fun h => h⟩ ?_ | refine .inl ⟨_, _, DleAll_refl _, c_view_identifiers _ hl _, ?_⟩ | refine ⟨_, _, DleAll_refl _, fun _ => c_view_identifiers _ hl _, ?_⟩ | refine ⟨_, _, DleAll_refl _, c_view_identifiers _ hl _, ?_⟩ | refine Exists.intro false ?_ | (refine And.intro ?_ ?_; focus (simp; done)) | fail)
def accB (a : Acc) : Bool :=
  bif !decide (a.pro = 0) && !usableB a.pro || decide (a.pro < a.rank) then false
  else bif decide (a.rank = -1) then decide ((a.cut.length : Int) = 0)
  else (decide (a.rank = 0) || usableB a.rank) && idsB a.cut 32
theorem c_paxos_Valid (a : Acc) (hl : a.cut.length ≤ maxLen) : Ret Try.prog 37 [.agg (accE a)] (.v (.bool (accB a))) := by
  refine ret_of_body (fn := Try.f37) (c := Try.f37.body.getD .skip) hm hT (by kernel_rfl) Try.func37 (by kernel_rfl) (by kernel_rfl) (by kernel_rfl) (by kernel_rfl) ?_
  repeat' ((conv => whnf); first | refine And.intro (fun h => h) ?_ | refine dcond_t (by assumption) ?_ | refine dcond_f (by assumption) ?_ | (refine dcond_intro ?_ ?_ <;> intro h) | exact .refl | refine And.intro (by kernel_rfl) ?_ | refine And.intro ⟨fun h => h, fun h => h⟩ ?_ | refine .inl ⟨_, _, DleAll_refl _, c_paxos_usable _, ?_⟩ | refine ⟨_, _, DleAll_refl _, fun _ => c_paxos_usable _, ?_⟩ | refine ⟨_, _, DleAll_refl _, c_paxos_usable _, ?_⟩ | refine .inl ⟨_, _, DleAll_refl _, c_view_ValidCut _ hl, ?_⟩ | refine ⟨_, _, DleAll_refl _, fun _ => c_view_ValidCut _ hl, ?_⟩ | refine ⟨_, _, DleAll_refl _, c_view_ValidCut _ hl, ?_⟩ | refine Exists.intro false ?_ | (refine And.intro ?_ ?_; focus (simp; done)) | fail)
  all_goals (conv => whnf)
  all_goals refine dle_bool ?_
  all_goals (try simp only [List.length_map] at *)
  all_goals simp only [accB, *, cond_true, cond_false]
def voteR (a : Acc) (cut : List Int) : Acc × Bool :=
  bif !accB a then (⟨0, 0, []⟩, false)
  else bif !decide (a.pro = 0) || !decide (a.rank = -1) || !idsB cut 32 then (a, false)
  else (⟨0, 0, cut⟩, true)
theorem c_paxos_OnVote (a : Acc) (hl : a.cut.length ≤ 1000000) (cut : List Int) (hc : cut.length ≤ 1000000) : Ret Try.prog 59 [.agg (accE a), .lst 1 (cut.map intE) false] (.tup [.agg (accE (voteR a cut).1), .v (.bool (voteR a cut).2)]) := by
  have h1 : a.cut.length ≤ maxLen := Nat.le_trans hl (by decide)
  have h2 : cut.length ≤ maxLen := Nat.le_trans hc (by decide)
  refine ret_of_body (fn := Try.f59) (c := Try.f59.body.getD .skip) hm hT (by kernel_rfl) Try.func59 (by kernel_rfl) (by kernel_rfl) (by kernel_rfl) (by kernel_rfl) ?_
  repeat' ((conv => whnf); first | refine And.intro (fun h => h) ?_ | refine dcond_t (by assumption) ?_ | refine dcond_f (by assumption) ?_ | (refine dcond_intro ?_ ?_ <;> intro h) | exact .refl | refine And.intro (by kernel_rfl) ?_ | refine And.intro ⟨fun h => h, fun h => h⟩ ?_ | refine .inl ⟨_, _, DleAll_refl _, c_paxos_Valid _ h1, ?_⟩ | refine ⟨_, _, DleAll_refl _, fun _ => c_paxos_Valid _ h1, ?_⟩ | refine ⟨_, _, DleAll_refl _, c_paxos_Valid _ h1, ?_⟩ | refine .inl ⟨_, _, DleAll_refl _, c_view_ValidCut _ h2, ?_⟩ | refine ⟨_, _, DleAll_refl _, fun _ => c_view_ValidCut _ h2, ?_⟩ | refine ⟨_, _, DleAll_refl _, c_view_ValidCut _ h2, ?_⟩ | refine .inl ⟨_, _, DleAll_refl _, c_paxos_copied _ hl, ?_⟩ | refine ⟨_, _, DleAll_refl _, fun _ => c_paxos_copied _ hl, ?_⟩ | refine ⟨_, _, DleAll_refl _, c_paxos_copied _ hl, ?_⟩ | refine .inl ⟨_, _, DleAll_refl _, c_paxos_clone _ hc, ?_⟩ | refine ⟨_, _, DleAll_refl _, fun _ => c_paxos_clone _ hc, ?_⟩ | refine ⟨_, _, DleAll_refl _, c_paxos_clone _ hc, ?_⟩ | refine Exists.intro false ?_ | (refine And.intro ?_ ?_; focus (simp; done)) | fail)
  all_goals (conv => whnf)
  all_goals simp only [voteR, *, cond_true, cond_false]
  · exact dle_tupA ⟨dle_aggA ⟨.refl, .refl, .nl, trivial⟩, .refl, trivial⟩
  · exact .refl
  · exact .refl
def prepR (a : Acc) (rank : Int) : Acc × Rpt × Bool :=
  bif !accB a then (⟨0, 0, []⟩, ⟨0, 0, []⟩, false)
  else bif !usableB rank || decide (rank < a.pro) then (a, ⟨0, 0, []⟩, false)
  else (⟨rank, a.rank, a.cut⟩, ⟨0, a.rank, a.cut⟩, true)
theorem c_paxos_OnPrepare (a : Acc) (hl : a.cut.length ≤ 1000000) (rank : Int) : Ret Try.prog 91 [.agg (accE a), .v (.int .i64 rank)] (.tup [.agg (accE (prepR a rank).1), .agg (rptE (prepR a rank).2.1), .v (.bool (prepR a rank).2.2)]) := by
  have h1 : a.cut.length ≤ maxLen := Nat.le_trans hl (by decide)
  refine ret_of_body (fn := Try.f91) (c := Try.f91.body.getD .skip) hm hT (by kernel_rfl) Try.func91 (by kernel_rfl) (by kernel_rfl) (by kernel_rfl) (by kernel_rfl) ?_
  repeat' ((conv => whnf); first | refine And.intro (fun h => h) ?_ | refine dcond_t (by assumption) ?_ | refine dcond_f (by assumption) ?_ | (refine dcond_intro ?_ ?_ <;> intro h) | exact .refl | refine And.intro (by kernel_rfl) ?_ | refine And.intro ⟨fun h => h, fun h => h⟩ ?_ | refine .inl ⟨_, _, DleAll_refl _, c_paxos_Valid _ h1, ?_⟩ | refine ⟨_, _, DleAll_refl _, fun _ => c_paxos_Valid _ h1, ?_⟩ | refine ⟨_, _, DleAll_refl _, c_paxos_Valid _ h1, ?_⟩ | refine .inl ⟨_, _, DleAll_refl _, c_paxos_usable _, ?_⟩ | refine ⟨_, _, DleAll_refl _, fun _ => c_paxos_usable _, ?_⟩ | refine ⟨_, _, DleAll_refl _, c_paxos_usable _, ?_⟩ | refine .inl ⟨_, _, DleAll_refl _, c_paxos_copied _ hl, ?_⟩ | refine ⟨_, _, DleAll_refl _, fun _ => c_paxos_copied _ hl, ?_⟩ | refine ⟨_, _, DleAll_refl _, c_paxos_copied _ hl, ?_⟩ | refine .inl ⟨_, _, DleAll_refl _, c_paxos_clone _ hl, ?_⟩ | refine ⟨_, _, DleAll_refl _, fun _ => c_paxos_clone _ hl, ?_⟩ | refine ⟨_, _, DleAll_refl _, c_paxos_clone _ hl, ?_⟩ | refine Exists.intro false ?_ | (refine And.intro ?_ ?_; focus (simp; done)) | fail)
  all_goals (conv => whnf)
  all_goals simp only [prepR, *, cond_true, cond_false]
  · exact dle_tupA ⟨dle_aggA ⟨.refl, .refl, .nl, trivial⟩, dle_aggA ⟨.refl, .refl, .nl, trivial⟩, .refl, trivial⟩
  · exact dle_tupA ⟨.refl, dle_aggA ⟨.refl, .refl, .nl, trivial⟩, .refl, trivial⟩
  · exact .refl
def sameI (a b : List Int) : Bool := decide ((a.length : Int) = (b.length : Int)) && allB (fun i => decide (a.getD i 0 = b.getD i 0)) a.length
theorem c_slices_Equal_int (a b : List Int) (ha : a.length ≤ maxLen) : Ret Try.prog 75 [.lst 1 (a.map intE) false, .lst 1 (b.map intE) false] (.v (.bool (sameI a b))) := by
  have hl' : a.length ≤ 9223372036854775807 := ha
  refine ret_of_body (fn := Try.f75) (c := Try.f75.body.getD .skip) hm hT (by kernel_rfl) Try.func75 (by kernel_rfl) (by kernel_rfl) (by kernel_rfl) (by kernel_rfl) ?_
  repeat' ((conv => whnf); first | refine And.intro (fun h => h) ?_ | refine dcond_t (by assumption) ?_ | refine dcond_f (by assumption) ?_ | (refine dcond_intro ?_ ?_ <;> intro h) | exact .refl | refine And.intro (by kernel_rfl) ?_ | refine And.intro ⟨fun h => h, fun h => h⟩ ?_ | refine Exists.intro false ?_ | (refine And.intro ?_ ?_; focus (simp; done)) | fail)
  · refine dle_bool ?_
    simp only [List.length_map] at h
    have h : decide ((a.length : Int) = (b.length : Int)) = false := by simpa using h
    simp only [sameI, h, Bool.false_and]
  · have h0 : a.length = b.length := by
      simp at h
      omega
    clear h
    conv => whnf
    refine ⟨Nat, fun i => ⟨[(0, .lst 1 (a.map intE) false), (1, .lst 1 (b.map intE) false), (12, i64 (a.map intE).length), (13, i64 i)], []⟩, fun i => i ≤ a.length ∧ ∀ j, j < i → decide (a.getD j 0 = b.getD j 0) = true, fun i => a.length - i, [], ⟨0, ⟨Nat.zero_le _, by omega⟩, ?_⟩, ?_⟩
    · exact ⟨by repeat' ((conv => whnf); first | exact trivial | refine And.intro (by (conv => arg 1; whnf); first | (with_reducible exact .refl) | exact dle_int (wrap_succ (by omega)) | exact .refl) ?_), by repeat' ((conv => whnf); first | exact trivial | refine And.intro ?_ ?_ | exact .refl), rfl⟩
    · intro i ⟨hi, hall⟩
      repeat' ((conv => whnf); first | refine And.intro (fun h => h) ?_ | refine dcond_t (by assumption) ?_ | refine dcond_f (by assumption) ?_ | (refine dcond_intro ?_ ?_ <;> intro h) | exact .refl | refine And.intro (by kernel_rfl) ?_ | refine And.intro ⟨fun h => h, fun h => h⟩ ?_ | refine Exists.intro false ?_ | (refine And.intro ?_ ?_; focus (simp; done)) | fail)
      · have hlt : i < a.length := by simpa using h
        have hlt2 : i < b.length := by omega
        clear h
        have hg : a.getD i 0 = a[i] := by simp [hlt]
        have hg2 : b.getD i 0 = b[i] := by simp [hlt2]
        repeat' ((conv => whnf); first | refine And.intro (fun h => h) ?_ | refine dcond_t (by assumption) ?_ | refine dcond_f (by assumption) ?_ | (refine dcond_intro ?_ ?_ <;> intro h) | exact .refl | refine And.intro (by kernel_rfl) ?_ | refine And.intro ⟨fun h => h, fun h => h⟩ ?_ | refine ⟨_, _, And.intro ⟨rfl, get_map hlt⟩ ?_⟩ | refine ⟨_, _, And.intro ⟨rfl, get_map hlt2⟩ ?_⟩ | refine Exists.intro false ?_ | (refine And.intro ?_ ?_; focus (simp; done)) | fail)
        · refine dle_bool ?_
          rw [sameI, allB_false hlt (i := i), Bool.and_false]
          rw [hg, hg2]
          simpa using h
        · conv => whnf
          refine ⟨i + 1, ⟨hlt, fun j hj => ?_⟩, by simp only []; omega, ?_⟩
          · rcases Nat.lt_succ_iff_lt_or_eq.1 hj with hj | rfl
            · exact hall j hj
            · rw [hg, hg2]
              simpa using h
          · exact ⟨by repeat' ((conv => whnf); first | exact trivial | refine And.intro (by (conv => arg 1; whnf); first | (with_reducible exact .refl) | exact dle_int (wrap_succ (by omega)) | exact .refl) ?_), by repeat' ((conv => whnf); first | exact trivial | refine And.intro ?_ ?_ | exact .refl), rfl⟩
      · have hge : ¬ i < a.length := by simpa using h
        conv => whnf
        refine dle_bool ?_
        rw [sameI, allB_true.2 (fun j hj => hall j (by omega)), h0]
        simp
theorem c_fastvote_Same (a b : List Int) (ha : a.length ≤ maxLen) : Ret Try.prog 42 [.lst 1 (a.map intE) false, .lst 1 (b.map intE) false] (.v (.bool (sameI a b))) := by
  refine ret_of_body (fn := Try.f42) (c := Try.f42.body.getD .skip) hm hT (by kernel_rfl) Try.func42 (by kernel_rfl) (by kernel_rfl) (by kernel_rfl) (by kernel_rfl) ?_
  repeat' ((conv => whnf); first | refine And.intro (fun h => h) ?_ | refine dcond_t (by assumption) ?_ | refine dcond_f (by assumption) ?_ | (refine dcond_intro ?_ ?_ <;> intro h) | exact .refl | refine And.intro (by kernel_rfl) ?_ | refine And.intro ⟨fun h => h, fun h => h⟩ ?_ | refine .inl ⟨_, _, DleAll_refl _, c_slices_Equal_int _ _ ha, ?_⟩ | refine ⟨_, _, DleAll_refl _, fun _ => c_slices_Equal_int _ _ ha, ?_⟩ | refine ⟨_, _, DleAll_refl _, c_slices_Equal_int _ _ ha, ?_⟩ | refine Exists.intro false ?_ | (refine And.intro ?_ ?_; focus (simp; done)) | fail)
def acceptR (a : Acc) (rank : Int) (cut : List Int) : Acc × Bool :=
  bif !accB a then (⟨0, 0, []⟩, false)
  else bif !usableB rank || decide (rank < a.pro) || !idsB cut 32 || decide (a.rank = rank) && !sameI a.cut cut then (a, false)
  else (⟨rank, rank, cut⟩, true)
theorem c_paxos_OnAccept (a : Acc) (hl : a.cut.length ≤ 1000000) (rank : Int) (cut : List Int) (hc : cut.length ≤ 1000000) : Ret Try.prog 95 [.agg (accE a), .v (.int .i64 rank), .lst 1 (cut.map intE) false] (.tup [.agg (accE (acceptR a rank cut).1), .v (.bool (acceptR a rank cut).2)]) := by
  have h1 : a.cut.length ≤ maxLen := Nat.le_trans hl (by decide)
  have h2 : cut.length ≤ maxLen := Nat.le_trans hc (by decide)
  refine ret_of_body (fn := Try.f95) (c := Try.f95.body.getD .skip) hm hT (by kernel_rfl) Try.func95 (by kernel_rfl) (by kernel_rfl) (by kernel_rfl) (by kernel_rfl) ?_
  repeat' ((conv => whnf); first | refine And.intro (fun h => h) ?_ | refine dcond_t (by assumption) ?_ | refine dcond_f (by assumption) ?_ | (refine dcond_intro ?_ ?_ <;> intro h) | exact .refl | refine And.intro (by kernel_rfl) ?_ | refine And.intro ⟨fun h => h, fun h => h⟩ ?_ | refine .inl ⟨_, _, DleAll_refl _, c_paxos_Valid _ h1, ?_⟩ | refine ⟨_, _, DleAll_refl _, fun _ => c_paxos_Valid _ h1, ?_⟩ | refine ⟨_, _, DleAll_refl _, c_paxos_Valid _ h1, ?_⟩ | refine .inl ⟨_, _, DleAll_refl _, c_paxos_usable _, ?_⟩ | refine ⟨_, _, DleAll_refl _, fun _ => c_paxos_usable _, ?_⟩ | refine ⟨_, _, DleAll_refl _, c_paxos_usable _, ?_⟩ | refine .inl ⟨_, _, DleAll_refl _, c_view_ValidCut _ h2, ?_⟩ | refine ⟨_, _, DleAll_refl _, fun _ => c_view_ValidCut _ h2, ?_⟩ | refine ⟨_, _, DleAll_refl _, c_view_ValidCut _ h2, ?_⟩ | refine .inl ⟨_, _, DleAll_refl _, c_fastvote_Same _ _ h1, ?_⟩ | refine ⟨_, _, DleAll_refl _, fun _ => c_fastvote_Same _ _ h1, ?_⟩ | refine ⟨_, _, DleAll_refl _, c_fastvote_Same _ _ h1, ?_⟩ | refine .inl ⟨_, _, DleAll_refl _, c_paxos_copied _ hl, ?_⟩ | refine ⟨_, _, DleAll_refl _, fun _ => c_paxos_copied _ hl, ?_⟩ | refine ⟨_, _, DleAll_refl _, c_paxos_copied _ hl, ?_⟩ | refine .inl ⟨_, _, DleAll_refl _, c_paxos_clone _ hc, ?_⟩ | refine ⟨_, _, DleAll_refl _, fun _ => c_paxos_clone _ hc, ?_⟩ | refine ⟨_, _, DleAll_refl _, c_paxos_clone _ hc, ?_⟩ | refine Exists.intro false ?_ | (refine And.intro ?_ ?_; focus (simp; done)) | fail)
  all_goals (conv => whnf)
  all_goals simp only [acceptR, *, cond_true, cond_false]
  · exact dle_tupA ⟨dle_aggA ⟨.refl, .refl, .nl, trivial⟩, .refl, trivial⟩
  · exact .refl
  · exact .refl
structure View where
  num : Int
  mem : List Int
def viewE (v : View) : List DV := [.v (.int .i64 v.num), .lst 1 (v.mem.map intE) false]
def placeB (l : List Int) (x : Int) : Int := findB (fun i => decide (l[i]? = some x)) l.length
theorem c_view_Place (l : List Int) (hl : l.length ≤ maxLen) (x : Int) : Ret Try.prog 67 [.lst 1 (l.map intE) false, .v (.int .i64 x)] (.v (.int .i64 (placeB l x))) := by
  have hl' : l.length ≤ 9223372036854775807 := hl
  refine ret_of_body (fn := Try.f67) (c := Try.f67.body.getD .skip) hm hT (by kernel_rfl) Try.func67 (by kernel_rfl) (by kernel_rfl) (by kernel_rfl) (by kernel_rfl) ?_
  repeat' ((conv => whnf); first | refine And.intro (fun h => h) ?_ | refine dcond_t (by assumption) ?_ | refine dcond_f (by assumption) ?_ | (refine dcond_intro ?_ ?_ <;> intro h) | exact .refl | refine And.intro (by kernel_rfl) ?_ | refine And.intro ⟨fun h => h, fun h => h⟩ ?_ | refine Exists.intro false ?_ | (refine And.intro ?_ ?_; focus (simp; done)) | fail)
  refine ⟨Nat, fun i => ⟨[(1, .v (.int .i64 x)), (7, .lst 1 (l.map intE) false), (8, i64 (l.map intE).length), (9, i64 i)], []⟩, fun i => i ≤ l.length ∧ ∀ j, j < i → decide (l[j]? = some x) = false, fun i => l.length - i, [], ⟨0, ⟨Nat.zero_le _, by omega⟩, ?_⟩, ?_⟩
  · exact ⟨by repeat' ((conv => whnf); first | exact trivial | refine And.intro (by (conv => arg 1; whnf); first | (with_reducible exact .refl) | exact dle_int (wrap_succ (by omega)) | exact .refl) ?_), by repeat' ((conv => whnf); first | exact trivial | refine And.intro ?_ ?_ | exact .refl), rfl⟩
  · intro i ⟨hi, hall⟩
    repeat' ((conv => whnf); first | refine And.intro (fun h => h) ?_ | refine dcond_t (by assumption) ?_ | refine dcond_f (by assumption) ?_ | (refine dcond_intro ?_ ?_ <;> intro h) | exact .refl | refine And.intro (by kernel_rfl) ?_ | refine And.intro ⟨fun h => h, fun h => h⟩ ?_ | refine Exists.intro false ?_ | (refine And.intro ?_ ?_; focus (simp; done)) | fail)
    · have hlt : i < l.length := by simpa using h
      repeat' ((conv => whnf); first | refine And.intro (fun h => h) ?_ | refine dcond_t (by assumption) ?_ | refine dcond_f (by assumption) ?_ | (refine dcond_intro ?_ ?_ <;> intro h) | exact .refl | refine And.intro (by kernel_rfl) ?_ | refine And.intro ⟨fun h => h, fun h => h⟩ ?_ | refine ⟨_, _, And.intro ⟨rfl, get_map hlt⟩ ?_⟩ | refine Exists.intro false ?_ | (refine And.intro ?_ ?_; focus (simp; done)) | fail)
      · have h2 := h
        refine dle_int (findB_at hlt ?_ hall).symm
        simpa [hlt] using h2
      · have h2 := h
        conv => whnf
        refine ⟨i + 1, ⟨hlt, fun j hj => ?_⟩, by simp only []; omega, ?_⟩
        · rcases Nat.lt_succ_iff_lt_or_eq.1 hj with hj | rfl
          · exact hall j hj
          · simpa [hlt] using h2
        · exact ⟨by repeat' ((conv => whnf); first | exact trivial | refine And.intro (by (conv => arg 1; whnf); first | (with_reducible exact .refl) | exact dle_int (wrap_succ (by omega)) | exact .refl) ?_), by repeat' ((conv => whnf); first | exact trivial | refine And.intro ?_ ?_ | exact .refl), rfl⟩
    · have hge : ¬ i < l.length := by simpa using h
      conv => whnf
      refine dle_int (findB_none (fun j hj => hall j (by omega))).symm
def inB (l : List Int) (x : Int) : Bool := decide (0 ≤ placeB l x)
theorem c_view_Contains (l : List Int) (hl : l.length ≤ maxLen) (x : Int) : Ret Try.prog 28 [.lst 1 (l.map intE) false, .v (.int .i64 x)] (.v (.bool (inB l x))) := by
  refine ret_of_body (fn := Try.f28) (c := Try.f28.body.getD .skip) hm hT (by kernel_rfl) Try.func28 (by kernel_rfl) (by kernel_rfl) (by kernel_rfl) (by kernel_rfl) ?_
  repeat' ((conv => whnf); first | refine And.intro (fun h => h) ?_ | refine dcond_t (by assumption) ?_ | refine dcond_f (by assumption) ?_ | (refine dcond_intro ?_ ?_ <;> intro h) | exact .refl | refine And.intro (by kernel_rfl) ?_ | refine And.intro ⟨fun h => h, fun h => h⟩ ?_ | refine .inl ⟨_, _, DleAll_refl _, c_view_Place _ hl _, ?_⟩ | refine ⟨_, _, DleAll_refl _, fun _ => c_view_Place _ hl _, ?_⟩ | refine ⟨_, _, DleAll_refl _, c_view_Place _ hl _, ?_⟩ | refine Exists.intro false ?_ | (refine And.intro ?_ ?_; focus (simp; done)) | fail)
theorem c_view_ValidMembers (l : List Int) (hl : l.length ≤ maxLen) : Ret Try.prog 71 [.lst 1 (l.map intE) false] (.v (.bool (idsB l 16))) := by
  refine ret_of_body (fn := Try.f71) (c := Try.f71.body.getD .skip) hm hT (by kernel_rfl) Try.func71 (by kernel_rfl) (by kernel_rfl) (by kernel_rfl) (by kernel_rfl) ?_
  repeat' ((conv => whnf); first | refine And.intro (fun h => h) ?_ | refine dcond_t (by assumption) ?_ | refine dcond_f (by assumption) ?_ | (refine dcond_intro ?_ ?_ <;> intro h) | exact .refl | refine And.intro (by kernel_rfl) ?_ | refine And.intro ⟨fun h => h, fun h => h⟩ ?_ | refine .inl ⟨_, _, DleAll_refl _, c_view_identifiers _ hl _, ?_⟩ | refine ⟨_, _, DleAll_refl _, fun _ => c_view_identifiers _ hl _, ?_⟩ | refine ⟨_, _, DleAll_refl _, c_view_identifiers _ hl _, ?_⟩ | refine Exists.intro false ?_ | (refine And.intro ?_ ?_; focus (simp; done)) | fail)
def viewB (v : View) : Bool := (decide (0 ≤ v.num) && decide (v.num ≤ 1099511627776)) && idsB v.mem 16
theorem c_view_Valid (v : View) (hl : v.mem.length ≤ maxLen) : Ret Try.prog 27 [.agg (viewE v)] (.v (.bool (viewB v))) := by
  refine ret_of_body (fn := Try.f27) (c := Try.f27.body.getD .skip) hm hT (by kernel_rfl) Try.func27 (by kernel_rfl) (by kernel_rfl) (by kernel_rfl) (by kernel_rfl) ?_
  repeat' ((conv => whnf); first | refine And.intro (fun h => h) ?_ | refine dcond_t (by assumption) ?_ | refine dcond_f (by assumption) ?_ | (refine dcond_intro ?_ ?_ <;> intro h) | exact .refl | refine And.intro (by kernel_rfl) ?_ | refine And.intro ⟨fun h => h, fun h => h⟩ ?_ | refine .inl ⟨_, _, DleAll_refl _, c_view_ValidMembers _ hl, ?_⟩ | refine ⟨_, _, DleAll_refl _, fun _ => c_view_ValidMembers _ hl, ?_⟩ | refine ⟨_, _, DleAll_refl _, c_view_ValidMembers _ hl, ?_⟩ | refine Exists.intro false ?_ | (refine And.intro ?_ ?_; focus (simp; done)) | fail)
def splitR (v : View) (cut l other : List Int) : List Int × List Int :=
  bif !viewB v || !idsB cut 32 then ([], []) else (l.filter (inB other), l.filter (fun x => !inB other x))
def partA (other l : List Int) (i : Nat) : List (List DV) := ((l.take i).filter (inB other)).map intE
def partB (other l : List Int) (i : Nat) : List (List DV) := ((l.take i).filter (fun x => !inB other x)).map intE
theorem fitsI {n : Nat} (h : n ≤ 2000000) : fitsIn tt 3 n := by
  have e : (tinfo tt 3).bytes = 8 := by kernel_rfl
  refine ⟨?_, ?_⟩
  · rw [e]; omega
  · simp only [maxLen]; omega
theorem ole_row {e : TypeId} {sz : Nat} {es es' : List (List DV)} (h : es = es') : ole (.row e sz es) (.row e sz es') := by subst h; exact .refl
theorem partA_len (other l : List Int) (i : Nat) : (partA other l i).length ≤ i := by
  simp only [partA, List.length_map]
  exact Nat.le_trans (List.length_filter_le _ _) (by simp; omega)
theorem partB_len (other l : List Int) (i : Nat) : (partB other l i).length ≤ i := by
  simp only [partB, List.length_map]
  exact Nat.le_trans (List.length_filter_le _ _) (by simp; omega)
theorem part_in {other l : List Int} {i : Nat} (hlt : i < l.length) (h : inB other (l[i]'hlt) = true) : partA other l i ++ [intE (l[i]'hlt)] = partA other l (i + 1) ∧ partB other l i = partB other l (i + 1) := by
  simp only [partA, partB, List.take_succ_eq_append_getElem hlt, List.filter_append]
  simp [h]
theorem part_out {other l : List Int} {i : Nat} (hlt : i < l.length) (h : inB other (l[i]'hlt) = false) : partA other l i = partA other l (i + 1) ∧ partB other l i ++ [intE (l[i]'hlt)] = partB other l (i + 1) := by
  simp only [partA, partB, List.take_succ_eq_append_getElem hlt, List.filter_append]
  simp [h]
theorem c_view_split (v : View) (hv : v.mem.length ≤ maxLen) (cut l other : List Int) (hc : cut.length ≤ maxLen) (hl : l.length ≤ 1000000) (ho : other.length ≤ maxLen) :
    Ret Try.prog 112 [.agg (viewE v), .lst 1 (cut.map intE) false, .lst 1 (l.map intE) false, .lst 1 (other.map intE) false] (.tup [.lst 1 ((splitR v cut l other).1.map intE) false, .lst 1 ((splitR v cut l other).2.map intE) false]) := by
  refine ret_of_body (fn := Try.f112) (c := Try.f112.body.getD .skip) hm hT (by kernel_rfl) Try.func112 (by kernel_rfl) (by kernel_rfl) (by kernel_rfl) (by kernel_rfl) ?_
  repeat' ((conv => whnf); first | refine And.intro (fun h => h) ?_ | refine dcond_t (by assumption) ?_ | refine dcond_f (by assumption) ?_ | (refine dcond_intro ?_ ?_ <;> intro h) | exact .refl | refine And.intro (by kernel_rfl) ?_ | refine And.intro ⟨fun h => h, fun h => h⟩ ?_ | refine .inl ⟨_, _, DleAll_refl _, c_view_Valid _ hv, ?_⟩ | refine ⟨_, _, DleAll_refl _, fun _ => c_view_Valid _ hv, ?_⟩ | refine ⟨_, _, DleAll_refl _, c_view_Valid _ hv, ?_⟩ | refine .inl ⟨_, _, DleAll_refl _, c_view_ValidCut _ hc, ?_⟩ | refine ⟨_, _, DleAll_refl _, fun _ => c_view_ValidCut _ hc, ?_⟩ | refine ⟨_, _, DleAll_refl _, c_view_ValidCut _ hc, ?_⟩ | refine Exists.intro false ?_ | (refine And.intro ?_ ?_; focus (simp; done)) | fail)
  all_goals (conv => whnf)
  · simp only [splitR, h, cond_true]
    exact dle_tupA ⟨.nl, .nl, trivial⟩
  · simp only [splitR, h, cond_false]
    clear h
    refine ⟨Nat, fun i => ⟨[(3, .lst 1 (other.map intE) false), (8, .own 1), (9, .own 2), (20, .lst 1 (l.map intE) false), (21, i64 (l.map intE).length), (22, i64 i)], [.cells 24 (viewE v), .row 3 1 (partA other l i), .row 3 1 (partB other l i)]⟩, fun i => i ≤ l.length, fun i => l.length - i, [.slot 8 3 1, .slot 9 3 1], ⟨0, Nat.zero_le _, ?_⟩, ?_⟩
    · conv => whnf
      exact ⟨by repeat' ((conv => whnf); first | exact trivial | refine And.intro (by (conv => arg 1; whnf); first | (with_reducible exact .refl) | exact dle_int (wrap_succ (by omega)) | exact .refl) ?_), by repeat' ((conv => whnf); first | exact trivial | refine And.intro ?_ ?_ | exact .refl), rfl⟩
    · intro i hi
      repeat' ((conv => whnf); first | refine And.intro (fun h => h) ?_ | refine dcond_t (by assumption) ?_ | refine dcond_f (by assumption) ?_ | (refine dcond_intro ?_ ?_ <;> intro h) | exact .refl | refine And.intro (by kernel_rfl) ?_ | refine And.intro ⟨fun h => h, fun h => h⟩ ?_ | refine Exists.intro false ?_ | (refine And.intro ?_ ?_; focus (simp; done)) | fail)
      · have hlt : i < l.length := by simpa using h
        clear h
        repeat' ((conv => whnf); first | refine And.intro (fun h => h) ?_ | refine dcond_t (by assumption) ?_ | refine dcond_f (by assumption) ?_ | (refine dcond_intro ?_ ?_ <;> intro h) | exact .refl | refine And.intro (by kernel_rfl) ?_ | refine And.intro ⟨fun h => h, fun h => h⟩ ?_ | refine ⟨_, _, And.intro ⟨rfl, get_map hlt⟩ ?_⟩ | refine .inl ⟨_, _, DleAll_refl _, c_view_Contains _ ho _, ?_⟩ | refine ⟨_, _, DleAll_refl _, fun _ => c_view_Contains _ ho _, ?_⟩ | refine ⟨_, _, DleAll_refl _, c_view_Contains _ ho _, ?_⟩ | refine Exists.intro false ?_ | (refine And.intro ?_ ?_; focus (simp; done)) | fail)
        · have hA := partA_len other l i
          have hp := part_in hlt h
          conv => whnf
          refine And.intro (fitsI (by simp; omega)) ?_
          repeat' ((conv => whnf); first | refine And.intro (fun h => h) ?_ | refine dcond_t (by assumption) ?_ | refine dcond_f (by assumption) ?_ | (refine dcond_intro ?_ ?_ <;> intro h) | exact .refl | refine And.intro (by kernel_rfl) ?_ | refine And.intro ⟨fun h => h, fun h => h⟩ ?_ | refine Exists.intro false ?_ | (refine And.intro ?_ ?_; focus (simp; done)) | fail)
          all_goals (conv => whnf)
          refine ⟨i + 1, hlt, by simp only []; omega, ?_⟩
          exact ⟨⟨.refl, .refl, .refl, .refl, .refl, dle_int (wrap_succ (by omega)), trivial⟩, ⟨.refl, ole_row hp.1, ole_row hp.2, trivial⟩, rfl⟩
        · have hB := partB_len other l i
          have hp := part_out hlt h
          conv => whnf
          refine And.intro (fitsI (by simp; omega)) ?_
          repeat' ((conv => whnf); first | refine And.intro (fun h => h) ?_ | refine dcond_t (by assumption) ?_ | refine dcond_f (by assumption) ?_ | (refine dcond_intro ?_ ?_ <;> intro h) | exact .refl | refine And.intro (by kernel_rfl) ?_ | refine And.intro ⟨fun h => h, fun h => h⟩ ?_ | refine Exists.intro false ?_ | (refine And.intro ?_ ?_; focus (simp; done)) | fail)
          all_goals (conv => whnf)
          refine ⟨i + 1, hlt, by simp only []; omega, ?_⟩
          exact ⟨⟨.refl, .refl, .refl, .refl, .refl, dle_int (wrap_succ (by omega)), trivial⟩, ⟨.refl, ole_row hp.1, ole_row hp.2, trivial⟩, rfl⟩
      · have hge : ¬ i < l.length := by simpa using h
        have : i = l.length := by omega
        subst this
        conv => whnf
        refine dle_tupA ⟨dle_lst ?_, dle_lst ?_, trivial⟩
        · simp [partA]
        · simp [partB]
theorem c_view_Survivors (v : View) (hv : v.mem.length ≤ 1000000) (cut : List Int) (hc : cut.length ≤ 1000000) : Ret Try.prog 101 [.agg (viewE v), .lst 1 (cut.map intE) false] (.lst 1 ((splitR v cut v.mem cut).2.map intE) false) := by
  have h1 : v.mem.length ≤ maxLen := Nat.le_trans hv (by decide)
  have h2 : cut.length ≤ maxLen := Nat.le_trans hc (by decide)
  refine ret_of_body (fn := Try.f101) (c := Try.f101.body.getD .skip) hm hT (by kernel_rfl) Try.func101 (by kernel_rfl) (by kernel_rfl) (by kernel_rfl) (by kernel_rfl) ?_
  repeat' ((conv => whnf); first | refine And.intro (fun h => h) ?_ | refine dcond_t (by assumption) ?_ | refine dcond_f (by assumption) ?_ | (refine dcond_intro ?_ ?_ <;> intro h) | exact .refl | refine And.intro (by kernel_rfl) ?_ | refine And.intro ⟨fun h => h, fun h => h⟩ ?_ | refine .inl ⟨_, _, DleAll_refl _, c_view_split _ h1 _ _ _ h2 hv h2, ?_⟩ | refine ⟨_, _, DleAll_refl _, fun _ => c_view_split _ h1 _ _ _ h2 hv h2, ?_⟩ | refine ⟨_, _, DleAll_refl _, c_view_split _ h1 _ _ _ h2 hv h2, ?_⟩ | refine Exists.intro false ?_ | (refine And.intro ?_ ?_; focus (simp; done)) | fail)
theorem c_view_Joiners (v : View) (hv : v.mem.length ≤ 1000000) (cut : List Int) (hc : cut.length ≤ 1000000) : Ret Try.prog 102 [.agg (viewE v), .lst 1 (cut.map intE) false] (.lst 1 ((splitR v cut cut v.mem).2.map intE) false) := by
  have h1 : v.mem.length ≤ maxLen := Nat.le_trans hv (by decide)
  have h2 : cut.length ≤ maxLen := Nat.le_trans hc (by decide)
  refine ret_of_body (fn := Try.f102) (c := Try.f102.body.getD .skip) hm hT (by kernel_rfl) Try.func102 (by kernel_rfl) (by kernel_rfl) (by kernel_rfl) (by kernel_rfl) ?_
  repeat' ((conv => whnf); first | refine And.intro (fun h => h) ?_ | refine dcond_t (by assumption) ?_ | refine dcond_f (by assumption) ?_ | (refine dcond_intro ?_ ?_ <;> intro h) | exact .refl | refine And.intro (by kernel_rfl) ?_ | refine And.intro ⟨fun h => h, fun h => h⟩ ?_ | refine .inl ⟨_, _, DleAll_refl _, c_view_split _ h1 _ _ _ h2 hc h1, ?_⟩ | refine ⟨_, _, DleAll_refl _, fun _ => c_view_split _ h1 _ _ _ h2 hc h1, ?_⟩ | refine ⟨_, _, DleAll_refl _, c_view_split _ h1 _ _ _ h2 hc h1, ?_⟩ | refine Exists.intro false ?_ | (refine And.intro ?_ ?_; focus (simp; done)) | fail)
theorem c_view_counted (n : Int) : Ret Try.prog 100 [.v (.int .i64 n)] (.v (.bool (decide (1 ≤ n) && decide (n ≤ 16)))) := by
  refine ret_of_body (fn := Try.f100) (c := Try.f100.body.getD .skip) hm hT (by kernel_rfl) Try.func100 (by kernel_rfl) (by kernel_rfl) (by kernel_rfl) (by kernel_rfl) ?_
  repeat' ((conv => whnf); first | refine And.intro (fun h => h) ?_ | refine dcond_t (by assumption) ?_ | refine dcond_f (by assumption) ?_ | (refine dcond_intro ?_ ?_ <;> intro h) | exact .refl | refine And.intro (by kernel_rfl) ?_ | refine And.intro ⟨fun h => h, fun h => h⟩ ?_ | refine Exists.intro false ?_ | (refine And.intro ?_ ?_; focus (simp; done)) | fail)
def mergeL : List Int → List Int → List Int
  | a, [] => a
  | a, x :: b => a.takeWhile (fun y => !decide (x < y)) ++ x :: mergeL (a.dropWhile (fun y => !decide (x < y))) b
theorem merge_gt {y x : Int} {a b : List Int} (h : x < y) : mergeL (y :: a) (x :: b) = x :: mergeL (y :: a) b := by simp [mergeL, h]
theorem merge_le {y x : Int} {a b : List Int} (h : ¬ x < y) : mergeL (y :: a) (x :: b) = y :: mergeL a (x :: b) := by simp [mergeL, h]
theorem merge_nil {x : Int} {b : List Int} : mergeL [] (x :: b) = x :: mergeL [] b := by simp [mergeL]
theorem c_view_merge (a b : List Int) (ha : a.length ≤ 500000) (hb : b.length ≤ 500000) : Ret Try.prog 103 [.lst 1 (a.map intE) false, .lst 1 (b.map intE) false] (.lst 1 ((mergeL a b).map intE) false) := by
  refine ret_of_body (fn := Try.f103) (c := Try.f103.body.getD .skip) hm hT (by kernel_rfl) Try.func103 (by kernel_rfl) (by kernel_rfl) (by kernel_rfl) (by kernel_rfl) ?_
  repeat' ((conv => whnf); first | refine And.intro (fun h => h) ?_ | refine dcond_t (by assumption) ?_ | refine dcond_f (by assumption) ?_ | (refine dcond_intro ?_ ?_ <;> intro h) | exact .refl | refine And.intro (by kernel_rfl) ?_ | refine And.intro ⟨fun h => h, fun h => h⟩ ?_ | refine Exists.intro false ?_ | (refine And.intro ?_ ?_; focus (simp; done)) | fail)
  refine ⟨Nat × Nat × List Int, fun s => ⟨[(0, .lst 1 (a.map intE) false), (5, .own 0), (6, i64 s.2.1), (9, .lst 1 (b.map intE) false), (10, i64 (b.map intE).length), (11, i64 s.1)], [.row 3 1 (s.2.2.map intE)]⟩,
    fun s => s.1 ≤ b.length ∧ s.2.1 ≤ a.length ∧ s.2.2.length ≤ s.1 + s.2.1 ∧ s.2.2 ++ mergeL (a.drop s.2.1) (b.drop s.1) = mergeL a b, fun s => b.length - s.1, [.slot 5 3 1], ⟨(0, 0, []), ⟨Nat.zero_le _, Nat.zero_le _, Nat.zero_le _, rfl⟩, ?_⟩, ?_⟩
  · conv => whnf
    exact ⟨by repeat' ((conv => whnf); first | exact trivial | refine And.intro (by (conv => arg 1; whnf); first | (with_reducible exact .refl) | exact dle_int (wrap_succ (by omega)) | exact .refl) ?_), by repeat' ((conv => whnf); first | exact trivial | refine And.intro ?_ ?_ | exact .refl), rfl⟩
  · intro ⟨j, i, out⟩ ⟨hj, hi, ho, hm⟩
    simp only at hj hi ho hm
    repeat' ((conv => whnf); first | refine And.intro (fun h => h) ?_ | refine dcond_t (by assumption) ?_ | refine dcond_f (by assumption) ?_ | (refine dcond_intro ?_ ?_ <;> intro h) | exact .refl | refine And.intro (by kernel_rfl) ?_ | refine And.intro ⟨fun h => h, fun h => h⟩ ?_ | refine Exists.intro false ?_ | (refine And.intro ?_ ?_; focus (simp; done)) | fail)
    · have hlt : j < b.length := by simpa using h
      clear h
      have hd : b.drop j = b[j] :: b.drop (j + 1) := List.drop_eq_getElem_cons hlt
      repeat' ((conv => whnf); first | refine And.intro (fun h => h) ?_ | refine dcond_t (by assumption) ?_ | refine dcond_f (by assumption) ?_ | (refine dcond_intro ?_ ?_ <;> intro h) | exact .refl | refine And.intro (by kernel_rfl) ?_ | refine And.intro ⟨fun h => h, fun h => h⟩ ?_ | refine ⟨_, _, And.intro ⟨rfl, get_map hlt⟩ ?_⟩ | refine Exists.intro false ?_ | (refine And.intro ?_ ?_; focus (simp; done)) | fail)
      conv => whnf
      refine ⟨Nat × List Int, fun s => ⟨[(0, .lst 1 (a.map intE) false), (5, .own 0), (6, i64 s.1), (8, .v (.int .i64 b[j])), (9, .lst 1 (b.map intE) false), (10, i64 (b.map intE).length), (11, i64 j)], [.row 3 1 (s.2.map intE)]⟩,
        fun s => s.1 ≤ a.length ∧ s.2.length ≤ j + s.1 ∧ s.2 ++ mergeL (a.drop s.1) (b.drop j) = mergeL a b, fun s => a.length - s.1, [], ⟨(i, out), ⟨hi, ho, hm⟩, ?_⟩, ?_⟩
      · exact ⟨by repeat' ((conv => whnf); first | exact trivial | refine And.intro (by (conv => arg 1; whnf); first | (with_reducible exact .refl) | exact dle_int (wrap_succ (by omega)) | exact .refl) ?_), by repeat' ((conv => whnf); first | exact trivial | refine And.intro ?_ ?_ | exact .refl), rfl⟩
      · intro ⟨i, out⟩ ⟨hi, ho, hm⟩
        simp only at hi ho hm
        repeat' ((conv => whnf); first | refine And.intro (fun h => h) ?_ | refine dcond_t (by assumption) ?_ | refine dcond_f (by assumption) ?_ | (refine dcond_intro ?_ ?_ <;> intro h) | exact .refl | refine And.intro (by kernel_rfl) ?_ | refine And.intro ⟨fun h => h, fun h => h⟩ ?_ | refine Exists.intro false ?_ | (refine And.intro ?_ ?_; focus (simp; done)) | fail)
        · have hlt2 : i < a.length := by simpa using h
          clear h
          have hd2 : a.drop i = a[i] :: a.drop (i + 1) := List.drop_eq_getElem_cons hlt2
          repeat' ((conv => whnf); first | refine And.intro (fun h => h) ?_ | refine dcond_t (by assumption) ?_ | refine dcond_f (by assumption) ?_ | (refine dcond_intro ?_ ?_ <;> intro h) | exact .refl | refine And.intro (by kernel_rfl) ?_ | refine And.intro ⟨fun h => h, fun h => h⟩ ?_ | refine ⟨_, _, And.intro ⟨rfl, get_map hlt2⟩ ?_⟩ | refine Exists.intro false ?_ | (refine And.intro ?_ ?_; focus (simp; done)) | fail)
          · conv => whnf
            refine And.intro (fitsI (by simp; omega)) ?_
            repeat' ((conv => whnf); first | refine And.intro (fun h => h) ?_ | refine dcond_t (by assumption) ?_ | refine dcond_f (by assumption) ?_ | (refine dcond_intro ?_ ?_ <;> intro h) | exact .refl | refine And.intro (by kernel_rfl) ?_ | refine And.intro ⟨fun h => h, fun h => h⟩ ?_ | refine Exists.intro false ?_ | (refine And.intro ?_ ?_; focus (simp; done)) | fail)
            all_goals (conv => whnf)
            refine ⟨(j + 1, i, out ++ [b[j]]), ⟨hlt, hi, by simp; omega, ?_⟩, by simp only []; omega, ?_⟩
            · have h : b[j] < a[i] := by simpa using h
              rw [hd, hd2, merge_gt h] at hm
              rw [← hm, hd2]
              simp
            · refine ⟨by repeat' ((conv => whnf); first | exact trivial | refine And.intro (by (conv => arg 1; whnf); first | (with_reducible exact .refl) | exact dle_int (wrap_succ (by omega)) | exact .refl) ?_), ⟨ole_row ?_, trivial⟩, rfl⟩
              simp
              rfl
          · conv => whnf
            refine And.intro (fitsI (by simp; omega)) ?_
            repeat' ((conv => whnf); first | refine And.intro (fun h => h) ?_ | refine dcond_t (by assumption) ?_ | refine dcond_f (by assumption) ?_ | (refine dcond_intro ?_ ?_ <;> intro h) | exact .refl | refine And.intro (by kernel_rfl) ?_ | refine And.intro ⟨fun h => h, fun h => h⟩ ?_ | refine Exists.intro false ?_ | (refine And.intro ?_ ?_; focus (simp; done)) | fail)
            all_goals (conv => whnf)
            refine ⟨(i + 1, out ++ [a[i]]), ⟨hlt2, by simp; omega, ?_⟩, by simp only []; omega, ?_⟩
            · have h : ¬ b[j] < a[i] := by simpa using h
              rw [hd, hd2, merge_le h] at hm
              rw [← hm, hd]
              simp
            · refine ⟨by repeat' ((conv => whnf); first | exact trivial | refine And.intro (by (conv => arg 1; whnf); first | (with_reducible exact .refl) | exact dle_int (wrap_succ (by omega)) | exact .refl) ?_), ⟨ole_row ?_, trivial⟩, rfl⟩
              simp
              rfl
        · have hge : ¬ i < a.length := by simpa using h
          have : i = a.length := by omega
          subst this
          conv => whnf
          refine And.intro (fitsI (by simp; omega)) ?_
          repeat' ((conv => whnf); first | refine And.intro (fun h => h) ?_ | refine dcond_t (by assumption) ?_ | refine dcond_f (by assumption) ?_ | (refine dcond_intro ?_ ?_ <;> intro h) | exact .refl | refine And.intro (by kernel_rfl) ?_ | refine And.intro ⟨fun h => h, fun h => h⟩ ?_ | refine Exists.intro false ?_ | (refine And.intro ?_ ?_; focus (simp; done)) | fail)
          all_goals (conv => whnf)
          refine ⟨(j + 1, a.length, out ++ [b[j]]), ⟨hlt, hi, by simp; omega, ?_⟩, by simp only []; omega, ?_⟩
          · rw [hd, List.drop_length, merge_nil] at hm
            rw [← hm]
            simp
          · refine ⟨by repeat' ((conv => whnf); first | exact trivial | refine And.intro (by (conv => arg 1; whnf); first | (with_reducible exact .refl) | exact dle_int (wrap_succ (by omega)) | exact .refl) ?_), ⟨ole_row ?_, trivial⟩, rfl⟩
            simp
            rfl
    · have hge : ¬ j < b.length := by simpa using h
      have : j = b.length := by omega
      subst this
      conv => whnf
      refine ⟨i, And.intro ⟨⟨_, rfl⟩, by simpa using hi⟩ ?_⟩
      conv => whnf
      refine And.intro (fitsI (by simp; omega)) ?_
      repeat' ((conv => whnf); first | refine And.intro (fun h => h) ?_ | refine dcond_t (by assumption) ?_ | refine dcond_f (by assumption) ?_ | (refine dcond_intro ?_ ?_ <;> intro h) | exact .refl | refine And.intro (by kernel_rfl) ?_ | refine And.intro ⟨fun h => h, fun h => h⟩ ?_ | refine Exists.intro false ?_ | (refine And.intro ?_ ?_; focus (simp; done)) | fail)
      all_goals (conv => whnf)
      refine dle_lst ?_
      rw [List.drop_length] at hm
      rw [← hm]
      simp [mergeL]
theorem split_len (v : View) (cut l o : List Int) : (splitR v cut l o).2.length ≤ l.length := by
  unfold splitR
  cases (!viewB v || !idsB cut 32)
  · exact List.length_filter_le _ _
  · simp
def stayL (v : View) (cut : List Int) : List Int := (splitR v cut v.mem cut).2
def comeL (v : View) (cut : List Int) : List Int := (splitR v cut cut v.mem).2
def nextR (v : View) (cut : List Int) : View × Int :=
  bif !viewB v || !idsB cut 32 then (⟨0, []⟩, 1)
  else bif decide (2 * ((stayL v cut).length : Int) ≤ (v.mem.length : Int)) then (⟨0, []⟩, 9)
  else bif decide (v.num = 1099511627776) || decide (16 < ((stayL v cut).length : Int) + ((comeL v cut).length : Int)) then (⟨0, []⟩, 5)
  else (⟨IntKind.i64.wrap (v.num + 1), mergeL (stayL v cut) (comeL v cut)⟩, 0)
theorem c_view_Next (v : View) (hv : v.mem.length ≤ 500000) (cut : List Int) (hc : cut.length ≤ 500000) : Ret Try.prog 82 [.agg (viewE v), .lst 1 (cut.map intE) false] (.tup [.agg (viewE (nextR v cut).1), .v (.int .i64 (nextR v cut).2)]) := by
  have h1 : v.mem.length ≤ maxLen := Nat.le_trans hv (by decide)
  have h2 : cut.length ≤ maxLen := Nat.le_trans hc (by decide)
  have h3 : (stayL v cut).length ≤ 500000 := Nat.le_trans (split_len _ _ _ _) hv
  have h4 : (comeL v cut).length ≤ 500000 := Nat.le_trans (split_len _ _ _ _) hc
  have e71 : Ret Try.prog 101 [.agg (viewE v), .lst 1 (cut.map intE) false] (.lst 1 ((stayL v cut).map intE) false) := c_view_Survivors v (by omega) cut (by omega)
  have e72 : Ret Try.prog 102 [.agg (viewE v), .lst 1 (cut.map intE) false] (.lst 1 ((comeL v cut).map intE) false) := c_view_Joiners v (by omega) cut (by omega)
  have w1 : IntKind.i64.wrap (2 * ((stayL v cut).length : Int)) = 2 * ((stayL v cut).length : Int) := wrap_i64 (by omega) (by omega)
  have w2 : IntKind.i64.wrap (((stayL v cut).length : Int) + ((comeL v cut).length : Int)) = ((stayL v cut).length : Int) + ((comeL v cut).length : Int) := wrap_i64 (by omega) (by omega)
  refine ret_of_body (fn := Try.f82) (c := Try.f82.body.getD .skip) hm hT (by kernel_rfl) Try.func82 (by kernel_rfl) (by kernel_rfl) (by kernel_rfl) (by kernel_rfl) ?_
  repeat' ((conv => whnf); first | refine And.intro (fun h => h) ?_ | refine dcond_t (by assumption) ?_ | refine dcond_f (by assumption) ?_ | (refine dcond_intro ?_ ?_ <;> intro h) | exact .refl | refine And.intro (by kernel_rfl) ?_ | refine And.intro ⟨fun h => h, fun h => h⟩ ?_ | refine .inl ⟨_, _, DleAll_refl _, c_view_Valid _ h1, ?_⟩ | refine ⟨_, _, DleAll_refl _, fun _ => c_view_Valid _ h1, ?_⟩ | refine ⟨_, _, DleAll_refl _, c_view_Valid _ h1, ?_⟩ | refine .inl ⟨_, _, DleAll_refl _, c_view_ValidCut _ h2, ?_⟩ | refine ⟨_, _, DleAll_refl _, fun _ => c_view_ValidCut _ h2, ?_⟩ | refine ⟨_, _, DleAll_refl _, c_view_ValidCut _ h2, ?_⟩ | refine .inl ⟨_, _, DleAll_refl _, e71, ?_⟩ | refine ⟨_, _, DleAll_refl _, fun _ => e71, ?_⟩ | refine ⟨_, _, DleAll_refl _, e71, ?_⟩ | refine .inl ⟨_, _, DleAll_refl _, e72, ?_⟩ | refine ⟨_, _, DleAll_refl _, fun _ => e72, ?_⟩ | refine ⟨_, _, DleAll_refl _, e72, ?_⟩ | refine .inl ⟨_, _, DleAll_refl _, c_view_merge _ _ h3 h4, ?_⟩ | refine ⟨_, _, DleAll_refl _, fun _ => c_view_merge _ _ h3 h4, ?_⟩ | refine ⟨_, _, DleAll_refl _, c_view_merge _ _ h3 h4, ?_⟩ | refine Exists.intro false ?_ | (refine And.intro ?_ ?_; focus (simp; done)) | fail)
  all_goals (conv => whnf)
  all_goals clear e71 e72
  all_goals (try simp only [List.length_map, w1, w2] at *)
  all_goals simp only [nextR, *, cond_true, cond_false]
  · exact dle_tupA ⟨dle_aggA ⟨.refl, .nl, trivial⟩, .refl, trivial⟩
  · exact dle_tupA ⟨dle_aggA ⟨.refl, .nl, trivial⟩, .refl, trivial⟩
  · exact dle_tupA ⟨dle_aggA ⟨.refl, .nl, trivial⟩, .refl, trivial⟩
  · exact .refl
theorem c_paxos_applicable (v : View) (hv : v.mem.length ≤ 500000) (cut : List Int) (hc : cut.length ≤ 500000) : Ret Try.prog 99 [.agg (viewE v), .lst 1 (cut.map intE) false] (.v (.bool (decide ((nextR v cut).2 = 0)))) := by
  refine ret_of_body (fn := Try.f99) (c := Try.f99.body.getD .skip) hm hT (by kernel_rfl) Try.func99 (by kernel_rfl) (by kernel_rfl) (by kernel_rfl) (by kernel_rfl) ?_
  repeat' ((conv => whnf); first | refine And.intro (fun h => h) ?_ | refine dcond_t (by assumption) ?_ | refine dcond_f (by assumption) ?_ | (refine dcond_intro ?_ ?_ <;> intro h) | exact .refl | refine And.intro (by kernel_rfl) ?_ | refine And.intro ⟨fun h => h, fun h => h⟩ ?_ | refine .inl ⟨_, _, DleAll_refl _, c_view_Next _ hv _ hc, ?_⟩ | refine ⟨_, _, DleAll_refl _, fun _ => c_view_Next _ hv _ hc, ?_⟩ | refine ⟨_, _, DleAll_refl _, c_view_Next _ hv _ hc, ?_⟩ | refine Exists.intro false ?_ | (refine And.intro ?_ ?_; focus (simp; done)) | fail)
end Go.Proofs.Ytmbniilpgbjcfaa

set_option maxRecDepth 100000
namespace Go.Proofs.Ytmbniilpgbjcfaa
open Go.Lift
def majB (n : Int) : Int := bif !(decide (1 ≤ n) && decide (n ≤ 16)) then 0 else IntKind.i64.wrap (IntKind.i64.wrap (n.tdiv 2) + 1)
theorem c_view_Majority (n : Int) : Ret Try.prog 77 [.v (.int .i64 n)] (.v (.int .i64 (majB n))) := by
  refine ret_of_body (fn := Try.f77) (c := Try.f77.body.getD .skip) hm hT (by kernel_rfl) Try.func77 (by kernel_rfl) (by kernel_rfl) (by kernel_rfl) (by kernel_rfl) ?_
  repeat' ((conv => whnf); first | refine And.intro (fun h => h) ?_ | refine dcond_t (by assumption) ?_ | refine dcond_f (by assumption) ?_ | (refine dcond_intro ?_ ?_ <;> intro h) | exact .refl | refine And.intro (by kernel_rfl) ?_ | refine And.intro ⟨fun h => h, fun h => h⟩ ?_ | refine .inl ⟨_, _, DleAll_refl _, c_view_counted _, ?_⟩ | refine ⟨_, _, DleAll_refl _, fun _ => c_view_counted _, ?_⟩ | refine ⟨_, _, DleAll_refl _, c_view_counted _, ?_⟩ | refine Exists.intro false ?_ | (refine And.intro ?_ ?_; focus (simp; done)) | fail)
  all_goals (conv => whnf)
  all_goals refine dle_int ?_
  all_goals simp only [majB, h, cond_true, cond_false]
def fastB (n : Int) : Int := bif !(decide (1 ≤ n) && decide (n ≤ 16)) then 0 else IntKind.i64.wrap (n - IntKind.i64.wrap ((IntKind.i64.wrap (n - 1)).tdiv 4))
theorem c_view_FastQuorum (n : Int) : Ret Try.prog 108 [.v (.int .i64 n)] (.v (.int .i64 (fastB n))) := by
  refine ret_of_body (fn := Try.f108) (c := Try.f108.body.getD .skip) hm hT (by kernel_rfl) Try.func108 (by kernel_rfl) (by kernel_rfl) (by kernel_rfl) (by kernel_rfl) ?_
  repeat' ((conv => whnf); first | refine And.intro (fun h => h) ?_ | refine dcond_t (by assumption) ?_ | refine dcond_f (by assumption) ?_ | (refine dcond_intro ?_ ?_ <;> intro h) | exact .refl | refine And.intro (by kernel_rfl) ?_ | refine And.intro ⟨fun h => h, fun h => h⟩ ?_ | refine .inl ⟨_, _, DleAll_refl _, c_view_counted _, ?_⟩ | refine ⟨_, _, DleAll_refl _, fun _ => c_view_counted _, ?_⟩ | refine ⟨_, _, DleAll_refl _, c_view_counted _, ?_⟩ | refine Exists.intro false ?_ | (refine And.intro ?_ ?_; focus (simp; done)) | fail)
  all_goals (conv => whnf)
  all_goals refine dle_int ?_
  all_goals simp only [fastB, h, cond_true, cond_false]
def rpt0 : Rpt := ⟨0, 0, []⟩
def prevM (l : List Rpt) (i : Nat) : Int := (0 :: l.map (·.mem)).getD i 0
def okRep (v : View) (l : List Rpt) (i : Nat) : Bool :=
  !(decide ((l.getD i rpt0).mem ≤ prevM l i) || !inB v.mem (l.getD i rpt0).mem) &&
    (decide ((l.getD i rpt0).rank = -1) && decide (((l.getD i rpt0).cut.length : Int) = 0) ||
      (decide ((l.getD i rpt0).rank = 0) || usableB (l.getD i rpt0).rank) && decide ((nextR v (l.getD i rpt0).cut).2 = 0))
def repsB (v : View) (l : List Rpt) : Bool := viewB v && allB (okRep v l) l.length
theorem c_paxos_ValidReports (v : View) (hv : v.mem.length ≤ 500000) (l : List Rpt) (hl : l.length ≤ maxLen) (hc : ∀ r ∈ l, r.cut.length ≤ 500000) : Ret Try.prog 76 [.agg (viewE v), .lst 3 (l.map rptE) false] (.v (.bool (repsB v l))) := by
  have hl' : l.length ≤ 9223372036854775807 := hl
  have h1 : v.mem.length ≤ maxLen := Nat.le_trans hv (by decide)
  refine ret_of_body (fn := Try.f76) (c := Try.f76.body.getD .skip) hm hT (by kernel_rfl) Try.func76 (by kernel_rfl) (by kernel_rfl) (by kernel_rfl) (by kernel_rfl) ?_
  repeat' ((conv => whnf); first | refine And.intro (fun h => h) ?_ | refine dcond_t (by assumption) ?_ | refine dcond_f (by assumption) ?_ | (refine dcond_intro ?_ ?_ <;> intro h) | exact .refl | refine And.intro (by kernel_rfl) ?_ | refine And.intro ⟨fun h => h, fun h => h⟩ ?_ | refine .inl ⟨_, _, DleAll_refl _, c_view_Valid _ h1, ?_⟩ | refine ⟨_, _, DleAll_refl _, fun _ => c_view_Valid _ h1, ?_⟩ | refine ⟨_, _, DleAll_refl _, c_view_Valid _ h1, ?_⟩ | refine Exists.intro false ?_ | (refine And.intro ?_ ?_; focus (simp; done)) | fail)
  · refine dle_bool ?_
    have h : viewB v = false := by simpa using h
    simp [repsB, h]
  · have hvw : viewB v = true := by simpa using h
    clear h
    conv => whnf
    refine ⟨Nat, fun i => ⟨[(2, .lp 0 0), (5, i64 (prevM l i)), (11, .lst 3 (l.map rptE) false), (12, i64 (l.map rptE).length), (13, i64 i)], [.cells 24 (viewE v)]⟩, fun i => i ≤ l.length ∧ ∀ j, j < i → okRep v l j = true, fun i => l.length - i, [], ⟨0, ⟨Nat.zero_le _, by omega⟩, ?_⟩, ?_⟩
    · exact ⟨by repeat' ((conv => whnf); first | exact trivial | refine And.intro (by (conv => arg 1; whnf); first | (with_reducible exact .refl) | exact dle_int (wrap_succ (by omega)) | exact .refl) ?_), by repeat' ((conv => whnf); first | exact trivial | refine And.intro ?_ ?_ | exact .refl), rfl⟩
    · intro i ⟨hi, hall⟩
      repeat' ((conv => whnf); first | refine And.intro (fun h => h) ?_ | refine dcond_t (by assumption) ?_ | refine dcond_f (by assumption) ?_ | (refine dcond_intro ?_ ?_ <;> intro h) | exact .refl | refine And.intro (by kernel_rfl) ?_ | refine And.intro ⟨fun h => h, fun h => h⟩ ?_ | refine Exists.intro false ?_ | (refine And.intro ?_ ?_; focus (simp; done)) | fail)
      · have hlt : i < l.length := by simpa using h
        clear h
        have hg : l.getD i rpt0 = l[i] := by simp [hlt]
        have hcc : (l[i]).cut.length ≤ 500000 := hc _ (List.getElem_mem hlt)
        have bad : okRep v l i = false → false = repsB v l := fun hb => by rw [repsB, allB_false hlt hb, Bool.and_false]
        have good : okRep v l i = true → ∃ x', (fun i => i ≤ l.length ∧ ∀ j, j < i → okRep v l j = true) x' ∧ (fun i => l.length - i) x' < (fun i => l.length - i) i ∧ x' = i + 1 := fun hb =>
          ⟨i + 1, ⟨hlt, fun j hj => by
            rcases Nat.lt_succ_iff_lt_or_eq.1 hj with hj | rfl
            · exact hall j hj
            · exact hb⟩, by simp only []; omega, rfl⟩
        have hp : prevM l (i + 1) = l[i].mem := by simp [prevM, hlt]
        repeat' ((conv => whnf); first | refine And.intro (fun h => h) ?_ | refine dcond_t (by assumption) ?_ | refine dcond_f (by assumption) ?_ | (refine dcond_intro ?_ ?_ <;> intro h) | exact .refl | refine And.intro (by kernel_rfl) ?_ | refine And.intro ⟨fun h => h, fun h => h⟩ ?_ | refine ⟨_, _, And.intro ⟨rfl, get_map hlt⟩ ?_⟩ | refine .inl ⟨_, _, DleAll_refl _, c_view_Contains _ h1 _, ?_⟩ | refine ⟨_, _, DleAll_refl _, fun _ => c_view_Contains _ h1 _, ?_⟩ | refine ⟨_, _, DleAll_refl _, c_view_Contains _ h1 _, ?_⟩ | refine .inl ⟨_, _, DleAll_refl _, c_paxos_usable _, ?_⟩ | refine ⟨_, _, DleAll_refl _, fun _ => c_paxos_usable _, ?_⟩ | refine ⟨_, _, DleAll_refl _, c_paxos_usable _, ?_⟩ | refine .inl ⟨_, _, DleAll_refl _, c_paxos_applicable _ hv _ hcc, ?_⟩ | refine ⟨_, _, DleAll_refl _, fun _ => c_paxos_applicable _ hv _ hcc, ?_⟩ | refine ⟨_, _, DleAll_refl _, c_paxos_applicable _ hv _ hcc, ?_⟩ | refine Exists.intro false ?_ | (refine And.intro ?_ ?_; focus (simp; done)) | fail)
        all_goals (conv => whnf)
        · refine dle_bool (bad ?_)
          simp only [okRep, hg, h]
          rfl
        · rename_i h0
          rw [List.length_map] at h
          obtain ⟨x', k1, k2, rfl⟩ := good (by simp only [okRep, hg, h0, h]; rfl)
          refine ⟨i + 1, k1, k2, ?_⟩
          refine ⟨⟨.refl, ?_, .refl, .refl, dle_int (wrap_succ (by omega)), trivial⟩, ⟨.refl, trivial⟩, rfl⟩
          exact dle_int hp.symm
        · rename_i h0 h2
          rw [List.length_map] at h2
          obtain ⟨x', k1, k2, rfl⟩ := good (by simp only [okRep, hg, h0, h2, h]; rfl)
          refine ⟨i + 1, k1, k2, ?_⟩
          refine ⟨⟨.refl, ?_, .refl, .refl, dle_int (wrap_succ (by omega)), trivial⟩, ⟨.refl, trivial⟩, rfl⟩
          exact dle_int hp.symm
        · rename_i h0 h2
          rw [List.length_map] at h2
          refine dle_bool (bad ?_)
          simp only [okRep, hg, h0, h2, h]
          rfl
      · have hge : ¬ i < l.length := by simpa using h
        conv => whnf
        refine dle_bool ?_
        rw [repsB, hvw, allB_true.2 (fun j hj => hall j (by omega))]
        rfl
structure Bal where
  mem : Int
  cut : List Int
def balE (b : Bal) : List DV := [.v (.int .i64 b.mem), .lst 1 (b.cut.map intE) false]
def votesN (l : List Bal) (cut : List Int) : Nat := (l.filter fun b => sameI b.cut cut).length
theorem votes_in {l : List Bal} {cut : List Int} {i : Nat} (h : i < l.length) (hs : sameI (l[i]'h).cut cut = true) : votesN (l.take (i + 1)) cut = votesN (l.take i) cut + 1 := by
  simp only [votesN, List.take_succ_eq_append_getElem h, List.filter_append]
  simp [hs]
theorem votes_out {l : List Bal} {cut : List Int} {i : Nat} (h : i < l.length) (hs : sameI (l[i]'h).cut cut = false) : votesN (l.take (i + 1)) cut = votesN (l.take i) cut := by
  simp only [votesN, List.take_succ_eq_append_getElem h, List.filter_append]
  simp [hs]
theorem votes_le (l : List Bal) (cut : List Int) (i : Nat) : votesN (l.take i) cut ≤ i :=
  Nat.le_trans (List.length_filter_le _ _) (by simp; omega)
theorem c_fastvote_Votes (l : List Bal) (hl : l.length ≤ 500000) (hc : ∀ b ∈ l, b.cut.length ≤ maxLen) (cut : List Int) : Ret Try.prog 114 [.lst 2 (l.map balE) false, .lst 1 (cut.map intE) false] (.v (.int .i64 (votesN l cut))) := by
  refine ret_of_body (fn := Try.f114) (c := Try.f114.body.getD .skip) hm hT (by kernel_rfl) Try.func114 (by kernel_rfl) (by kernel_rfl) (by kernel_rfl) (by kernel_rfl) ?_
  repeat' ((conv => whnf); first | refine And.intro (fun h => h) ?_ | refine dcond_t (by assumption) ?_ | refine dcond_f (by assumption) ?_ | (refine dcond_intro ?_ ?_ <;> intro h) | exact .refl | refine And.intro (by kernel_rfl) ?_ | refine And.intro ⟨fun h => h, fun h => h⟩ ?_ | refine Exists.intro false ?_ | (refine And.intro ?_ ?_; focus (simp; done)) | fail)
  refine ⟨Nat, fun i => ⟨[(1, .lst 1 (cut.map intE) false), (5, i64 (votesN (l.take i) cut)), (8, .lst 2 (l.map balE) false), (9, i64 (l.map balE).length), (10, i64 i)], []⟩, fun i => i ≤ l.length, fun i => l.length - i, [], ⟨0, Nat.zero_le _, ?_⟩, ?_⟩
  · exact ⟨by repeat' ((conv => whnf); first | exact trivial | refine And.intro (by (conv => arg 1; whnf); first | (with_reducible exact .refl) | exact dle_int (wrap_succ (by omega)) | exact .refl) ?_), by repeat' ((conv => whnf); first | exact trivial | refine And.intro ?_ ?_ | exact .refl), rfl⟩
  · intro i hi
    repeat' ((conv => whnf); first | refine And.intro (fun h => h) ?_ | refine dcond_t (by assumption) ?_ | refine dcond_f (by assumption) ?_ | (refine dcond_intro ?_ ?_ <;> intro h) | exact .refl | refine And.intro (by kernel_rfl) ?_ | refine And.intro ⟨fun h => h, fun h => h⟩ ?_ | refine Exists.intro false ?_ | (refine And.intro ?_ ?_; focus (simp; done)) | fail)
    · have hlt : i < l.length := by simpa using h
      clear h
      have hcc := hc _ (List.getElem_mem hlt)
      have hle := votes_le l cut i
      repeat' ((conv => whnf); first | refine And.intro (fun h => h) ?_ | refine dcond_t (by assumption) ?_ | refine dcond_f (by assumption) ?_ | (refine dcond_intro ?_ ?_ <;> intro h) | exact .refl | refine And.intro (by kernel_rfl) ?_ | refine And.intro ⟨fun h => h, fun h => h⟩ ?_ | refine ⟨_, _, And.intro ⟨rfl, get_map hlt⟩ ?_⟩ | refine .inl ⟨_, _, DleAll_refl _, c_fastvote_Same _ _ hcc, ?_⟩ | refine ⟨_, _, DleAll_refl _, fun _ => c_fastvote_Same _ _ hcc, ?_⟩ | refine ⟨_, _, DleAll_refl _, c_fastvote_Same _ _ hcc, ?_⟩ | refine Exists.intro false ?_ | (refine And.intro ?_ ?_; focus (simp; done)) | fail)
      all_goals (conv => whnf)
      all_goals refine ⟨i + 1, hlt, by simp only []; omega, ?_⟩
      · refine ⟨⟨.refl, ?_, .refl, .refl, dle_int (wrap_succ (by omega)), trivial⟩, trivial, rfl⟩
        rw [votes_in hlt h]
        exact dle_int (wrap_succ (by omega))
      · refine ⟨⟨.refl, ?_, .refl, .refl, dle_int (wrap_succ (by omega)), trivial⟩, trivial, rfl⟩
        rw [votes_out hlt h]
        exact .refl
    · have hge : ¬ i < l.length := by simpa using h
      have : i = l.length := by omega
      subst this
      conv => whnf
      rw [List.take_length]
      exact .refl
def hiAt (l : List Rpt) : Nat → Nat
  | 0 => 0
  | i + 1 => bif decide ((l.getD (hiAt l i) rpt0).rank < (l.getD i rpt0).rank) then i else hiAt l i
theorem hiAt_le (l : List Rpt) : ∀ i, hiAt l i ≤ i
  | 0 => Nat.le_refl _
  | i + 1 => by
    have := hiAt_le l i
    unfold hiAt
    cases decide ((l.getD (hiAt l i) rpt0).rank < (l.getD i rpt0).rank) <;> simp <;> omega
def boxOf (l : List Rpt) : List Bal := (l.filter fun r => decide (r.rank = 0)).map fun r => ⟨r.mem, r.cut⟩
def thrB (v : View) (l : List Rpt) : Int := IntKind.i64.wrap (IntKind.i64.wrap (fastB v.mem.length + (l.length : Int)) - (v.mem.length : Int))
def gateB (v : View) (l : List Rpt) (own : List Int) : Bool := !repsB v l || decide ((l.length : Int) < majB v.mem.length) || decide (0 < (own.length : Int)) && !decide ((nextR v own).2 = 0)
def chooseR (v : View) (l : List Rpt) (own : List Int) : List Int × Bool :=
  bif gateB v l own then ([], false)
  else bif decide (0 < (l.getD (hiAt l l.length) rpt0).rank) then ((l.getD (hiAt l l.length) rpt0).cut, true)
  else match (boxOf l).find? (fun b => decide (thrB v l ≤ (votesN (boxOf l) b.cut : Int))) with
    | some b => (b.cut, true)
    | none => bif decide ((own.length : Int) = 0) then ([], false) else (own, true)
theorem hi_in {l : List Rpt} {i : Nat} (h1 : i < l.length) (h2 : hiAt l i < l.length) (h : decide ((l[hiAt l i]'h2).rank < (l[i]'h1).rank) = true) : hiAt l (i + 1) = i := by
  have e1 : l.getD (hiAt l i) rpt0 = l[hiAt l i] := by simp [h2]
  have e2 : l.getD i rpt0 = l[i] := by simp [h1]
  simp only [hiAt, e1, e2, h, cond_true]
theorem hi_out {l : List Rpt} {i : Nat} (h1 : i < l.length) (h2 : hiAt l i < l.length) (h : decide ((l[hiAt l i]'h2).rank < (l[i]'h1).rank) = false) : hiAt l (i + 1) = hiAt l i := by
  have e1 : l.getD (hiAt l i) rpt0 = l[hiAt l i] := by simp [h2]
  have e2 : l.getD i rpt0 = l[i] := by simp [h1]
  simp only [hiAt, e1, e2, h, cond_false]
theorem box_len (l : List Rpt) (i : Nat) : (boxOf (l.take i)).length ≤ i := by
  simp only [boxOf, List.length_map]
  exact Nat.le_trans (List.length_filter_le _ _) (by simp; omega)
theorem box_in {l : List Rpt} {i : Nat} (h1 : i < l.length) (h : decide ((l[i]'h1).rank = 0) = true) : (boxOf (l.take i)).map balE ++ [balE ⟨(l[i]'h1).mem, (l[i]'h1).cut⟩] = (boxOf (l.take (i + 1))).map balE := by
  simp only [boxOf, List.take_succ_eq_append_getElem h1, List.filter_append, List.map_append]
  simp only [List.filter_cons, h, if_true, List.filter_nil, List.map_cons, List.map_nil]
theorem box_out {l : List Rpt} {i : Nat} (h1 : i < l.length) (h : decide ((l[i]'h1).rank = 0) = false) : (boxOf (l.take i)).map balE = (boxOf (l.take (i + 1))).map balE := by
  simp only [boxOf, List.take_succ_eq_append_getElem h1, List.filter_append, List.map_append]
  simp [List.filter_cons, h]
theorem hiAt_lt (l : List Rpt) {n : Nat} (h : 0 < n) : hiAt l n < n := by
  obtain ⟨i, rfl⟩ : ∃ i, n = i + 1 := ⟨n - 1, by omega⟩
  have := hiAt_le l i
  unfold hiAt
  cases decide ((l.getD (hiAt l i) rpt0).rank < (l.getD i rpt0).rank) <;> simp <;> omega
theorem maj_pos {n : Nat} (h1 : 1 ≤ n) (h2 : n ≤ 16) : 1 ≤ majB n := by
  have e : (!(decide (1 ≤ (n : Int)) && decide ((n : Int) ≤ 16))) = false := by simp; omega
  have e2 : Int.tdiv (n : Int) 2 = ((n / 2 : Nat) : Int) := rfl
  simp only [majB, e, cond_false, e2]
  rw [wrap_i64 (n := ((n / 2 : Nat) : Int)) (by omega) (by omega), wrap_i64 (by omega) (by omega)]
  omega
theorem gate_pos {v : View} {l : List Rpt} {own : List Int} (h : gateB v l own = false) : 0 < l.length ∧ 1 ≤ v.mem.length ∧ v.mem.length ≤ 16 := by
  simp only [gateB, Bool.or_eq_false_iff, Bool.not_eq_false', decide_eq_false_iff_not] at h
  obtain ⟨⟨h1, h2⟩, _⟩ := h
  simp only [repsB, viewB, idsB, Bool.and_eq_true, Bool.not_eq_true', Bool.or_eq_false_iff, decide_eq_false_iff_not] at h1
  have h3 := h1.1.2.1
  have := maj_pos (n := v.mem.length) (by omega) (by omega)
  omega
theorem box_cut {l : List Rpt} {N : Nat} (hc : ∀ r ∈ l, r.cut.length ≤ N) : ∀ b ∈ boxOf l, b.cut.length ≤ N := by
  intro b hb
  simp only [boxOf, List.mem_map, List.mem_filter] at hb
  obtain ⟨r, ⟨hr, _⟩, rfl⟩ := hb
  exact hc r hr
theorem fits2 {n : Nat} (h : n ≤ 2000000) : fitsIn tt 88 n := by
  have e : (tinfo tt 88).bytes = 32 := by kernel_rfl
  refine ⟨?_, ?_⟩
  · rw [e]; omega
  · simp only [maxLen]; omega
theorem c_paxos_Choose (v : View) (hv : v.mem.length ≤ 500000) (l : List Rpt) (hl : l.length ≤ 500000) (hc : ∀ r ∈ l, r.cut.length ≤ 500000) (own : List Int) (ho : own.length ≤ 500000) :
    Ret Try.prog 111 [.agg (viewE v), .lst 3 (l.map rptE) false, .lst 1 (own.map intE) false] (.tup [.lst 1 ((chooseR v l own).1.map intE) false, .v (.bool (chooseR v l own).2)]) := by
  have hl' : l.length ≤ maxLen := Nat.le_trans hl (by decide)
  refine ret_of_body (fn := Try.f111) (c := Try.f111.body.getD .skip) hm hT (by kernel_rfl) Try.func111 (by kernel_rfl) (by kernel_rfl) (by kernel_rfl) (by kernel_rfl) ?_
  repeat' ((conv => whnf); first | refine And.intro (fun h => h) ?_ | refine dcond_t (by assumption) ?_ | refine dcond_f (by assumption) ?_ | (refine dcond_intro ?_ ?_ <;> intro h) | exact .refl | refine And.intro (by kernel_rfl) ?_ | refine And.intro ⟨fun h => h, fun h => h⟩ ?_ | refine .inl ⟨_, _, DleAll_refl _, c_paxos_ValidReports _ hv _ hl' hc, ?_⟩ | refine ⟨_, _, DleAll_refl _, fun _ => c_paxos_ValidReports _ hv _ hl' hc, ?_⟩ | refine ⟨_, _, DleAll_refl _, c_paxos_ValidReports _ hv _ hl' hc, ?_⟩ | refine .inl ⟨_, _, DleAll_refl _, c_view_Majority _, ?_⟩ | refine ⟨_, _, DleAll_refl _, fun _ => c_view_Majority _, ?_⟩ | refine ⟨_, _, DleAll_refl _, c_view_Majority _, ?_⟩ | refine .inl ⟨_, _, DleAll_refl _, c_paxos_applicable _ hv _ ho, ?_⟩ | refine ⟨_, _, DleAll_refl _, fun _ => c_paxos_applicable _ hv _ ho, ?_⟩ | refine ⟨_, _, DleAll_refl _, c_paxos_applicable _ hv _ ho, ?_⟩ | refine Exists.intro false ?_ | (refine And.intro ?_ ?_; focus (simp; done)) | fail)
  all_goals (conv => whnf)
  · have h : gateB v l own = true := by
      simp only [List.length_map] at h
      exact h
    simp only [chooseR, h, cond_true]
    exact dle_tupA ⟨.nl, .refl, trivial⟩
  · have h0 := h
    clear h
    refine ⟨Nat, fun i => ⟨[(1, .lst 3 (l.map rptE) false), (2, .lst 1 (own.map intE) false), (8, i64 (v.mem.map intE).length), (9, i64 (hiAt l i)), (10, .own 1), (40, .lst 3 (l.map rptE) false), (41, i64 (l.map rptE).length), (42, i64 i)], [.cells 24 (viewE v), .row 88 2 ((boxOf (l.take i)).map balE)]⟩, fun i => i ≤ l.length, fun i => l.length - i, [.slot 10 88 2], ⟨0, Nat.zero_le _, ?_⟩, ?_⟩
    · conv => whnf
      exact ⟨by repeat' ((conv => whnf); first | exact trivial | refine And.intro (by (conv => arg 1; whnf); first | (with_reducible exact .refl) | exact dle_int (wrap_succ (by omega)) | exact .refl) ?_), by repeat' ((conv => whnf); first | exact trivial | refine And.intro ?_ ?_ | exact .refl), rfl⟩
    · intro i hi
      repeat' ((conv => whnf); first | refine And.intro (fun h => h) ?_ | refine dcond_t (by assumption) ?_ | refine dcond_f (by assumption) ?_ | (refine dcond_intro ?_ ?_ <;> intro h) | exact .refl | refine And.intro (by kernel_rfl) ?_ | refine And.intro ⟨fun h => h, fun h => h⟩ ?_ | refine Exists.intro false ?_ | (refine And.intro ?_ ?_; focus (simp; done)) | fail)
      · have hlt : i < l.length := by simpa using h
        clear h
        have hle := hiAt_le l i
        have hlt2 : hiAt l i < l.length := by omega
        repeat' ((conv => whnf); first | refine And.intro (fun h => h) ?_ | refine dcond_t (by assumption) ?_ | refine dcond_f (by assumption) ?_ | (refine dcond_intro ?_ ?_ <;> intro h) | exact .refl | refine And.intro (by kernel_rfl) ?_ | refine And.intro ⟨fun h => h, fun h => h⟩ ?_ | refine ⟨_, _, And.intro ⟨rfl, get_map hlt⟩ ?_⟩ | refine ⟨_, _, And.intro ⟨rfl, get_map hlt2⟩ ?_⟩ | refine Exists.intro false ?_ | (refine And.intro ?_ ?_; focus (simp; done)) | fail)
        all_goals (conv => whnf)
        · rename_i hr
          have hb := box_len l i
          refine And.intro (fits2 (by simp; omega)) ?_
          repeat' ((conv => whnf); first | refine And.intro (fun h => h) ?_ | refine dcond_t (by assumption) ?_ | refine dcond_f (by assumption) ?_ | (refine dcond_intro ?_ ?_ <;> intro h) | exact .refl | refine And.intro (by kernel_rfl) ?_ | refine And.intro ⟨fun h => h, fun h => h⟩ ?_ | refine Exists.intro false ?_ | (refine And.intro ?_ ?_; focus (simp; done)) | fail)
          all_goals (conv => whnf)
          refine ⟨i + 1, hlt, by simp only []; omega, ?_⟩
          refine ⟨⟨.refl, .refl, .refl, dle_int (by rw [hi_in hlt hlt2 hr]), .refl, .refl, .refl, dle_int (wrap_succ (by omega)), trivial⟩, ⟨.refl, ole_row (box_in hlt h), trivial⟩, rfl⟩
        · rename_i hr
          refine ⟨i + 1, hlt, by simp only []; omega, ?_⟩
          refine ⟨⟨.refl, .refl, .refl, dle_int (by rw [hi_in hlt hlt2 hr]), .refl, .refl, .refl, dle_int (wrap_succ (by omega)), trivial⟩, ⟨.refl, ole_row (box_out hlt h), trivial⟩, rfl⟩
        · rename_i hr
          have hb := box_len l i
          refine And.intro (fits2 (by simp; omega)) ?_
          repeat' ((conv => whnf); first | refine And.intro (fun h => h) ?_ | refine dcond_t (by assumption) ?_ | refine dcond_f (by assumption) ?_ | (refine dcond_intro ?_ ?_ <;> intro h) | exact .refl | refine And.intro (by kernel_rfl) ?_ | refine And.intro ⟨fun h => h, fun h => h⟩ ?_ | refine Exists.intro false ?_ | (refine And.intro ?_ ?_; focus (simp; done)) | fail)
          all_goals (conv => whnf)
          refine ⟨i + 1, hlt, by simp only []; omega, ?_⟩
          refine ⟨⟨.refl, .refl, .refl, dle_int (by rw [hi_out hlt hlt2 hr]), .refl, .refl, .refl, dle_int (wrap_succ (by omega)), trivial⟩, ⟨.refl, ole_row (box_in hlt h), trivial⟩, rfl⟩
        · rename_i hr
          refine ⟨i + 1, hlt, by simp only []; omega, ?_⟩
          refine ⟨⟨.refl, .refl, .refl, dle_int (by rw [hi_out hlt hlt2 hr]), .refl, .refl, .refl, dle_int (wrap_succ (by omega)), trivial⟩, ⟨.refl, ole_row (box_out hlt h), trivial⟩, rfl⟩
      · have hge : ¬ i < l.length := by simpa using h
        have : i = l.length := by omega
        subst this
        clear h
        have h0 : gateB v l own = false := by
          simp only [List.length_map] at h0
          exact h0
        obtain ⟨hpos, hm1, hm2⟩ := gate_pos h0
        have hlt := hiAt_lt l hpos
        have hg : l.getD (hiAt l l.length) rpt0 = l[hiAt l l.length] := by simp [hlt]
        have hcc := hc _ (List.getElem_mem hlt)
        conv => whnf
        repeat' ((conv => whnf); first | refine And.intro (fun h => h) ?_ | refine dcond_t (by assumption) ?_ | refine dcond_f (by assumption) ?_ | (refine dcond_intro ?_ ?_ <;> intro h) | exact .refl | refine And.intro (by kernel_rfl) ?_ | refine And.intro ⟨fun h => h, fun h => h⟩ ?_ | refine ⟨_, _, And.intro ⟨rfl, get_map hlt⟩ ?_⟩ | refine .inl ⟨_, _, DleAll_refl _, c_paxos_clone _ (Nat.le_trans hcc (by decide)), ?_⟩ | refine ⟨_, _, DleAll_refl _, fun _ => c_paxos_clone _ (Nat.le_trans hcc (by decide)), ?_⟩ | refine ⟨_, _, DleAll_refl _, c_paxos_clone _ (Nat.le_trans hcc (by decide)), ?_⟩ | refine Exists.intro false ?_ | (refine And.intro ?_ ?_; focus (simp; done)) | fail)
        all_goals (conv => whnf)
        · simp only [chooseR, h0, hg, h, cond_true, cond_false]
          exact .refl
        · have h1 := h
          clear h
          have hbl : (boxOf l).length ≤ 500000 := by
            have := box_len l l.length
            rw [List.take_length] at this
            omega
          have hbc := box_cut hc
          have e49 := fun cut => c_fastvote_Votes (boxOf l) hbl (fun b hb => Nat.le_trans (hbc b hb) (by decide)) cut
          have htk : l.take l.length = l := List.take_length
          rw [htk]
          refine ⟨Nat, fun i => ⟨[(1, .lst 3 (l.map rptE) false), (2, .lst 1 (own.map intE) false), (8, i64 (v.mem.map intE).length), (10, .own 1), (80, .own 1), (81, i64 (boxOf l).length), (82, i64 i)], [.cells 24 (viewE v), .row 88 2 ((boxOf l).map balE)]⟩, fun i => i ≤ (boxOf l).length ∧ ∀ j (hj : j < (boxOf l).length), j < i → decide (thrB v l ≤ (votesN (boxOf l) (boxOf l)[j].cut : Int)) = false, fun i => (boxOf l).length - i, [], ⟨0, ⟨Nat.zero_le _, by omega⟩, ?_⟩, ?_⟩
          · refine ⟨⟨.refl, .refl, .refl, .refl, .refl, dle_int (by simp), .refl, trivial⟩, ⟨.refl, .refl, trivial⟩, rfl⟩
          · intro i ⟨hi, hall⟩
            repeat' ((conv => whnf); first | refine And.intro (fun h => h) ?_ | refine dcond_t (by assumption) ?_ | refine dcond_f (by assumption) ?_ | (refine dcond_intro ?_ ?_ <;> intro h) | exact .refl | refine And.intro (by kernel_rfl) ?_ | refine And.intro ⟨fun h => h, fun h => h⟩ ?_ | refine .inl ⟨_, _, DleAll_refl _, c_paxos_clone _ (Nat.le_trans ho (by decide)), ?_⟩ | refine ⟨_, _, DleAll_refl _, fun _ => c_paxos_clone _ (Nat.le_trans ho (by decide)), ?_⟩ | refine ⟨_, _, DleAll_refl _, c_paxos_clone _ (Nat.le_trans ho (by decide)), ?_⟩ | refine Exists.intro false ?_ | (refine And.intro ?_ ?_; focus (simp; done)) | fail)
            · have hlt : i < (boxOf l).length := by simpa using h
              clear h
              have hlt3 : i < ((boxOf l).map balE).length := by simpa using hlt
              have hes : ((boxOf l).map balE)[i]? = some (balE ((boxOf l)[i]'hlt)) := get_map hlt
              have hcc := hbc _ (List.getElem_mem hlt)
              repeat' ((conv => whnf); first | refine And.intro (fun h => h) ?_ | refine dcond_t (by assumption) ?_ | refine dcond_f (by assumption) ?_ | (refine dcond_intro ?_ ?_ <;> intro h) | exact .refl | refine And.intro (by kernel_rfl) ?_ | refine And.intro ⟨fun h => h, fun h => h⟩ ?_ | refine .inl ⟨_, _, DleAll_refl _, e49 _, ?_⟩ | refine ⟨_, _, DleAll_refl _, fun _ => e49 _, ?_⟩ | refine ⟨_, _, DleAll_refl _, e49 _, ?_⟩ | refine .inl ⟨_, _, DleAll_refl _, c_view_FastQuorum _, ?_⟩ | refine ⟨_, _, DleAll_refl _, fun _ => c_view_FastQuorum _, ?_⟩ | refine ⟨_, _, DleAll_refl _, c_view_FastQuorum _, ?_⟩ | refine .inl ⟨_, _, DleAll_refl _, c_paxos_clone _ (Nat.le_trans hcc (by decide)), ?_⟩ | refine ⟨_, _, DleAll_refl _, fun _ => c_paxos_clone _ (Nat.le_trans hcc (by decide)), ?_⟩ | refine ⟨_, _, DleAll_refl _, c_paxos_clone _ (Nat.le_trans hcc (by decide)), ?_⟩ | refine ⟨i, And.intro ⟨rfl, hlt3⟩ ?_⟩ | refine ⟨balE ((boxOf l)[i]'hlt), And.intro hes ?_⟩ | refine Exists.intro false ?_ | (refine And.intro ?_ ?_; focus (simp; done)) | fail)
              all_goals (conv => whnf)
              · have h : decide (thrB v l ≤ (votesN (boxOf l) (boxOf l)[i].cut : Int)) = true := by
                  simp only [List.length_map] at h
                  exact h
                have hf : (boxOf l).find? (fun b => decide (thrB v l ≤ (votesN (boxOf l) b.cut : Int))) = some (boxOf l)[i] :=
                  List.find?_eq_some_iff_getElem.2 ⟨h, i, hlt, rfl, fun j hj => by simpa using hall j (by omega) hj⟩
                simp only [chooseR, h0, hg, h1, hf, cond_true, cond_false]
                exact .refl
              · have h : decide (thrB v l ≤ (votesN (boxOf l) (boxOf l)[i].cut : Int)) = false := by
                  simp only [List.length_map] at h
                  exact h
                refine ⟨i + 1, ⟨hlt, fun j hj hji => ?_⟩, by simp only []; omega, ?_⟩
                · rcases Nat.lt_succ_iff_lt_or_eq.1 hji with hji | rfl
                  · exact hall j hj hji
                  · exact h
                · exact ⟨⟨.refl, .refl, .refl, .refl, .refl, .refl, dle_int (wrap_succ (by omega)), trivial⟩, ⟨.refl, .refl, trivial⟩, rfl⟩
            all_goals (conv => whnf)
            all_goals rename_i hx
            all_goals have hge : ¬ i < (boxOf l).length := by simpa using hx
            all_goals have hf : (boxOf l).find? (fun b => decide (thrB v l ≤ (votesN (boxOf l) b.cut : Int))) = none := List.find?_eq_none.2 (fun b hb => by
              obtain ⟨j, hj, rfl⟩ := List.getElem_of_mem hb
              simpa using hall j hj (by omega))
            all_goals rw [List.length_map] at h
            all_goals simp only [chooseR, h0, hg, h1, hf, h, cond_true, cond_false]
            · exact dle_tupA ⟨.nl, .refl, trivial⟩
            · exact .refl
theorem rankOf_in {a m : Int} (h1 : 1 ≤ a) (h2 : a ≤ 1048575) (h3 : 1 ≤ m) (h4 : m ≤ 1000) : rankOf a m = 1024 * a + m := by
  have e : (decide (a < 1) || decide (1048575 < a) || decide (m < 1) || decide (1000 < m)) = false := by
    simp only [Bool.or_eq_false_iff, decide_eq_false_iff_not]; omega
  simp only [rankOf, e, cond_false]
  rw [wrap_i64 (n := 1024 * a) (by omega) (by omega), wrap_i64 (by omega) (by omega)]
theorem rankOf_out {a m : Int} (h : ¬ (1 ≤ a ∧ a ≤ 1048575 ∧ 1 ≤ m ∧ m ≤ 1000)) : rankOf a m = 0 := by
  have e : (decide (a < 1) || decide (1048575 < a) || decide (m < 1) || decide (1000 < m)) = true := by
    simp only [Bool.or_eq_true, decide_eq_true_eq]; omega
  simp only [rankOf, e, cond_true]
theorem owner_in {r : Int} (h1 : 1024 < r) (h2 : r < 1073741824) (h3 : r % 1024 ≤ 1000) : ownerOf r = r % 1024 := by
  have em : r.tmod 1024 = r % 1024 := Int.tmod_eq_emod_of_nonneg (by omega)
  have e : (decide (r ≤ 1024) || decide (1073741824 ≤ r) || decide (1000 < r.tmod 1024)) = false := by
    rw [em]
    simp only [Bool.or_eq_false_iff, decide_eq_false_iff_not]; omega
  simp only [ownerOf]
  rw [e, cond_false, em]
theorem owner_out {r : Int} (h : ¬ (1024 < r ∧ r < 1073741824 ∧ r % 1024 ≤ 1000)) : ownerOf r = 0 := by
  have e : (decide (r ≤ 1024) || decide (1073741824 ≤ r) || decide (1000 < r.tmod 1024)) = true := by
    simp only [Bool.or_eq_true, decide_eq_true_eq]
    by_cases hp : 0 ≤ r
    · rw [Int.tmod_eq_emod_of_nonneg hp]; omega
    · omega
  simp only [ownerOf, e, cond_true]
end Go.Proofs.Ytmbniilpgbjcfaa

set_option maxRecDepth 100000
namespace Go.Proofs.Ytmbniilpgbjcfaa
open Go.Lift
def riseAt (l : List Int) (i : Nat) : Bool := !(!(decide (1 ≤ l.getD i 0) && decide (l.getD i 0 ≤ 1000)) || (decide (0 < (i : Int)) && decide (l.getD i 0 ≤ l.getD (i - 1) 0)))
def riseB (l : List Int) : Bool := allB (riseAt l) l.length
theorem c_ref3_Rising (l : List Int) (hl : l.length ≤ maxLen) : Ret Try.prog 97 [.lst 1 (l.map intE) false] (.v (.bool (riseB l))) := by
  have hl' : l.length ≤ 9223372036854775807 := hl
  refine ret_of_body (fn := Try.f97) (c := Try.f97.body.getD .skip) hm hT (by kernel_rfl) Try.func97 (by kernel_rfl) (by kernel_rfl) (by kernel_rfl) (by kernel_rfl) ?_
  repeat' ((conv => whnf); first | refine And.intro (fun h => h) ?_ | refine dcond_t (by assumption) ?_ | refine dcond_f (by assumption) ?_ | (refine dcond_intro ?_ ?_ <;> intro h) | exact .refl | refine And.intro (by kernel_rfl) ?_ | refine And.intro ⟨fun h => h, fun h => h⟩ ?_ | refine Exists.intro false ?_ | (refine And.intro ?_ ?_; focus (simp; done)) | fail)
  refine ⟨Nat, fun i => ⟨[(0, .lst 1 (l.map intE) false), (3, i64 i)], []⟩, fun i => i ≤ l.length ∧ ∀ j, j < i → riseAt l j = true, fun i => l.length - i, [], ⟨0, ⟨Nat.zero_le _, by omega⟩, ?_⟩, ?_⟩
  · exact ⟨by repeat' ((conv => whnf); first | exact trivial | refine And.intro (by (conv => arg 1; whnf); first | (with_reducible exact .refl) | exact dle_int (wrap_succ (by omega)) | exact .refl) ?_), by repeat' ((conv => whnf); first | exact trivial | refine And.intro ?_ ?_ | exact .refl), rfl⟩
  · intro i ⟨hi, hall⟩
    repeat' ((conv => whnf); first | refine And.intro (fun h => h) ?_ | refine dcond_t (by assumption) ?_ | refine dcond_f (by assumption) ?_ | (refine dcond_intro ?_ ?_ <;> intro h) | exact .refl | refine And.intro (by kernel_rfl) ?_ | refine And.intro ⟨fun h => h, fun h => h⟩ ?_ | refine Exists.intro false ?_ | (refine And.intro ?_ ?_; focus (simp; done)) | fail)
    · have hlt : i < l.length := by simpa using h
      clear h
      have hg : l.getD i 0 = l[i] := by simp [hlt]
      repeat' ((conv => whnf); first | refine And.intro (fun h => h) ?_ | refine dcond_t (by assumption) ?_ | refine dcond_f (by assumption) ?_ | (refine dcond_intro ?_ ?_ <;> intro h) | exact .refl | refine And.intro (by kernel_rfl) ?_ | refine And.intro ⟨fun h => h, fun h => h⟩ ?_ | refine ⟨_, _, And.intro ⟨rfl, get_map hlt⟩ ?_⟩ | refine .inl ⟨_, _, DleAll_refl _, c_ref3_IsID _, ?_⟩ | refine ⟨_, _, DleAll_refl _, fun _ => c_ref3_IsID _, ?_⟩ | refine ⟨_, _, DleAll_refl _, c_ref3_IsID _, ?_⟩ | refine ⟨i, intE (l[i]'hlt), And.intro ⟨⟨fun h => h, fun h => h⟩, fun hg => ⟨rfl, get_map hlt⟩⟩ ?_⟩ | refine Exists.intro false ?_ | (refine And.intro ?_ ?_; focus (simp; done)) | fail)
      have hp : ∀ (hg : (!(decide (1 ≤ l[i]) && decide (l[i] ≤ 1000))) = false ∧ 0 < i), (IntKind.i64.wrap ((i : Int) - 1)) = ((i - 1 : Nat) : Int) ∧ (l.map intE)[i - 1]? = some (intE (l.getD (i - 1) 0)) := by
        rintro ⟨_, h0⟩
        refine ⟨by rw [wrap_i64 (by omega) (by omega)]; omega, ?_⟩
        have : i - 1 < l.length := by omega
        simp [this]
      refine ⟨i - 1, intE (l.getD (i - 1) 0), And.intro ⟨⟨fun h => h, fun h => h⟩, fun hg => hp ?_⟩ ?_⟩
      · simp only [Bool.and_eq_true, Bool.not_eq_true', decide_eq_true_eq] at hg
        refine ⟨?_, by omega⟩
        have := hg.1
        simpa using this
      repeat' ((conv => whnf); first | refine And.intro (fun h => h) ?_ | refine dcond_t (by assumption) ?_ | refine dcond_f (by assumption) ?_ | (refine dcond_intro ?_ ?_ <;> intro h) | exact .refl | refine And.intro (by kernel_rfl) ?_ | refine And.intro ⟨fun h => h, fun h => h⟩ ?_ | refine Exists.intro false ?_ | (refine And.intro ?_ ?_; focus (simp; done)) | fail)
      all_goals (conv => whnf)
      · refine dle_bool ?_
        have : riseAt l i = false := by simp only [riseAt, hg, h]; rfl
        rw [riseB, allB_false hlt this]
      · refine ⟨i + 1, ⟨hlt, fun j hj => ?_⟩, by simp only []; omega, ?_⟩
        · rcases Nat.lt_succ_iff_lt_or_eq.1 hj with hj | rfl
          · exact hall j hj
          · simp only [riseAt, hg, h]; rfl
        · exact ⟨by repeat' ((conv => whnf); first | exact trivial | refine And.intro (by (conv => arg 1; whnf); first | (with_reducible exact .refl) | exact dle_int (wrap_succ (by omega)) | exact .refl) ?_), by repeat' ((conv => whnf); first | exact trivial | refine And.intro ?_ ?_ | exact .refl), rfl⟩
    · have hge : ¬ i < l.length := by simpa using h
      conv => whnf
      refine dle_bool ?_
      rw [riseB, allB_true.2 (fun j hj => hall j (by omega))]
def cutRB (l : List Int) : Bool := (decide (1 ≤ (l.length : Int)) && decide ((l.length : Int) ≤ 32)) && riseB l
theorem c_ref3_ValidCut (l : List Int) (hl : l.length ≤ maxLen) : Ret Try.prog 79 [.lst 1 (l.map intE) false] (.v (.bool (cutRB l))) := by
  refine ret_of_body (fn := Try.f79) (c := Try.f79.body.getD .skip) hm hT (by kernel_rfl) Try.func79 (by kernel_rfl) (by kernel_rfl) (by kernel_rfl) (by kernel_rfl) ?_
  repeat' ((conv => whnf); first | refine And.intro (fun h => h) ?_ | refine dcond_t (by assumption) ?_ | refine dcond_f (by assumption) ?_ | (refine dcond_intro ?_ ?_ <;> intro h) | exact .refl | refine And.intro (by kernel_rfl) ?_ | refine And.intro ⟨fun h => h, fun h => h⟩ ?_ | refine .inl ⟨_, _, DleAll_refl _, c_ref3_Rising _ hl, ?_⟩ | refine ⟨_, _, DleAll_refl _, fun _ => c_ref3_Rising _ hl, ?_⟩ | refine ⟨_, _, DleAll_refl _, c_ref3_Rising _ hl, ?_⟩ | refine Exists.intro false ?_ | (refine And.intro ?_ ?_; focus (simp; done)) | fail)
  all_goals (conv => whnf)
  refine dle_bool ?_
  simp only [cutRB, List.length_map]
theorem rise_iff {l : List Int} : riseB l = true ↔ ∀ i, (h : i < l.length) → 1 ≤ l[i] ∧ l[i] ≤ 1000 ∧ (0 < i → l.getD (i - 1) 0 < l[i]) := by
  rw [riseB, allB_true]
  refine forall_congr' fun i => ?_
  constructor
  · intro h hi
    have h := h hi
    have hg : l.getD i 0 = l[i] := by simp [hi]
    simp only [riseAt, hg, Bool.not_eq_true', Bool.or_eq_false_iff, Bool.not_eq_false', Bool.and_eq_true, decide_eq_true_eq, Bool.and_eq_false_iff, decide_eq_false_iff_not] at h
    omega
  · intro h hi
    have h := h hi
    have hg : l.getD i 0 = l[i] := by simp [hi]
    simp only [riseAt, hg, Bool.not_eq_true', Bool.or_eq_false_iff, Bool.not_eq_false', Bool.and_eq_true, decide_eq_true_eq, Bool.and_eq_false_iff, decide_eq_false_iff_not]
    omega
theorem oks_iff {l : List Int} : allB (okAt l) l.length = true ↔ ∀ i, (h : i < l.length) → (0 :: l).getD i 0 < l[i] ∧ l[i] ≤ 1000 := by
  rw [allB_true]
  refine forall_congr' fun i => ?_
  constructor
  · intro h hi
    have h := h hi
    have hg : l.getD i 0 = l[i] := by simp [hi]
    simp only [okAt, hg, Bool.not_eq_true', Bool.or_eq_false_iff, decide_eq_false_iff_not] at h
    omega
  · intro h hi
    have h := h hi
    have hg : l.getD i 0 = l[i] := by simp [hi]
    simp only [okAt, hg, Bool.not_eq_true', Bool.or_eq_false_iff, decide_eq_false_iff_not]
    omega
theorem rise_oks (l : List Int) : riseB l = allB (okAt l) l.length := by
  rw [Bool.eq_iff_iff, rise_iff, oks_iff]
  constructor
  · intro h i hi
    have h1 := h i hi
    cases i with
    | zero => simp; omega
    | succ i => exact ⟨by simpa using h1.2.2 (by omega), h1.2.1⟩
  · intro h i
    induction i with
    | zero => intro hi; have h1 := h 0 hi; simp at h1; exact ⟨by omega, h1.2, fun h => by omega⟩
    | succ i ih =>
      intro hi
      have h1 := h (i + 1) hi
      have h2 := ih (by omega)
      have e : (0 :: l).getD (i + 1) 0 = l[i] := by simp [show i < l.length by omega]
      rw [e] at h1
      exact ⟨by omega, h1.2, fun _ => by simp [show i < l.length by omega]; omega⟩
theorem ids_eq (l : List Int) (m : Int) : idsB l m = ((decide (1 ≤ (l.length : Int)) && decide ((l.length : Int) ≤ m)) && riseB l) := by
  rw [idsB, rise_oks]
  congr 1
  rw [Bool.eq_iff_iff]
  simp only [Bool.not_eq_true', Bool.or_eq_false_iff, decide_eq_false_iff_not, Bool.and_eq_true, decide_eq_true_eq]
  omega
theorem cutRB_eq (l : List Int) : cutRB l = idsB l 32 := by rw [ids_eq, cutRB]
end Go.Proofs.Ytmbniilpgbjcfaa

set_option maxRecDepth 100000
namespace Go.Proofs.Ytmbniilpgbjcfaa
open Go.Lift
theorem owner_low {r : Int} (h : ownerOf r ≠ 0) : 1024 < r := by
  by_cases h1 : 1024 < r ∧ r < 1073741824 ∧ r % 1024 ≤ 1000
  · exact h1.1
  · exact absurd (owner_out h1) h
theorem sameI_refl (l : List Int) : sameI l l = true := by
  simp only [sameI, decide_true, Bool.true_and]
  exact allB_true.2 (fun j _ => by simp)
theorem vote_len {a : Acc} {cut : List Int} {N : Nat} (h1 : a.cut.length ≤ N) (h2 : cut.length ≤ N) : (voteR a cut).1.cut.length ≤ N := by
  unfold voteR
  cases !accB a <;> simp only [cond_true, cond_false]
  · cases (!decide (a.pro = 0) || !decide (a.rank = -1) || !idsB cut 32) <;> simp only [cond_true, cond_false] <;> assumption
  · simp
theorem prep_len {a : Acc} {rank : Int} {N : Nat} (h1 : a.cut.length ≤ N) : (prepR a rank).1.cut.length ≤ N ∧ (prepR a rank).2.1.cut.length ≤ N := by
  unfold prepR
  cases !accB a <;> simp only [cond_true, cond_false]
  · cases (!usableB rank || decide (rank < a.pro)) <;> simp only [cond_true, cond_false]
    · exact ⟨h1, h1⟩
    · exact ⟨h1, by simp⟩
  · simp
theorem accept_len {a : Acc} {rank : Int} {cut : List Int} {N : Nat} (h1 : a.cut.length ≤ N) (h2 : cut.length ≤ N) : (acceptR a rank cut).1.cut.length ≤ N := by
  unfold acceptR
  cases !accB a <;> simp only [cond_true, cond_false]
  · cases (!usableB rank || decide (rank < a.pro) || !idsB cut 32 || decide (a.rank = rank) && !sameI a.cut cut) <;> simp only [cond_true, cond_false] <;> assumption
  · simp
theorem dat_ints {n : Nat} {r : List DV} (h : Dat tt (n + 2) 22 r) : ∃ l : List Int, r = [.lst 1 (l.map intE) false] ∧ l.length ≤ maxLen := by
  obtain ⟨es, rfl, hl, hes⟩ := h
  obtain ⟨d, rfl, _⟩ := list_data (f := intE) (Q := fun _ => True) (fun r hr => by
    obtain ⟨i, rfl, _⟩ := hes r hr
    exact ⟨i, rfl, trivial⟩)
  exact ⟨d, rfl, by simpa using hl⟩
theorem accB_iff (a : Acc) : accB a = true ↔ (a.pro = 0 ∨ ownerOf a.pro ≠ 0) ∧ a.rank ≤ a.pro ∧ ((a.rank = -1 ∧ a.cut = []) ∨ ((a.rank = 0 ∨ ownerOf a.rank ≠ 0) ∧ a.rank ≠ -1 ∧ idsB a.cut 32 = true)) := by
  simp only [accB, usableB]
  by_cases h1 : a.pro = 0 <;> by_cases h2 : ownerOf a.pro = 0 <;> by_cases h3 : a.rank = -1 <;> by_cases h4 : a.rank = 0 <;> by_cases h5 : ownerOf a.rank = 0 <;> by_cases h6 : a.pro < a.rank <;> simp [*]
  all_goals (try omega)
  all_goals (try (intro; omega))
end Go.Proofs.Ytmbniilpgbjcfaa

set_option maxRecDepth 100000
namespace Go.Proofs.Ytmbniilpgbjcfaa
open Go.Lift
theorem c_ref3_Place (l : List Int) (hl : l.length ≤ maxLen) (x : Int) : Ret Try.prog 22 [.lst 1 (l.map intE) false, .v (.int .i64 x)] (.v (.int .i64 (placeB l x))) := by
  have hl' : l.length ≤ 9223372036854775807 := hl
  refine ret_of_body (fn := Try.f22) (c := Try.f22.body.getD .skip) hm hT (by kernel_rfl) Try.func22 (by kernel_rfl) (by kernel_rfl) (by kernel_rfl) (by kernel_rfl) ?_
  repeat' ((conv => whnf); first | refine And.intro (fun h => h) ?_ | refine dcond_t (by assumption) ?_ | refine dcond_f (by assumption) ?_ | (refine dcond_intro ?_ ?_ <;> intro h) | exact .refl | refine And.intro (by kernel_rfl) ?_ | refine And.intro ⟨fun h => h, fun h => h⟩ ?_ | refine Exists.intro false ?_ | (refine And.intro ?_ ?_; focus (simp; done)) | fail)
  refine ⟨Nat, fun i => ⟨[(0, .lst 1 (l.map intE) false), (1, .v (.int .i64 x)), (5, i64 i)], []⟩, fun i => i ≤ l.length ∧ ∀ j, j < i → decide (l[j]? = some x) = false, fun i => l.length - i, [], ⟨0, ⟨Nat.zero_le _, by omega⟩, ?_⟩, ?_⟩
  · exact ⟨by repeat' ((conv => whnf); first | exact trivial | refine And.intro (by (conv => arg 1; whnf); first | (with_reducible exact .refl) | exact dle_int (wrap_succ (by omega)) | exact .refl) ?_), by repeat' ((conv => whnf); first | exact trivial | refine And.intro ?_ ?_ | exact .refl), rfl⟩
  · intro i ⟨hi, hall⟩
    repeat' ((conv => whnf); first | refine And.intro (fun h => h) ?_ | refine dcond_t (by assumption) ?_ | refine dcond_f (by assumption) ?_ | (refine dcond_intro ?_ ?_ <;> intro h) | exact .refl | refine And.intro (by kernel_rfl) ?_ | refine And.intro ⟨fun h => h, fun h => h⟩ ?_ | refine Exists.intro false ?_ | (refine And.intro ?_ ?_; focus (simp; done)) | fail)
    · have hlt : i < l.length := by simpa using h
      repeat' ((conv => whnf); first | refine And.intro (fun h => h) ?_ | refine dcond_t (by assumption) ?_ | refine dcond_f (by assumption) ?_ | (refine dcond_intro ?_ ?_ <;> intro h) | exact .refl | refine And.intro (by kernel_rfl) ?_ | refine And.intro ⟨fun h => h, fun h => h⟩ ?_ | refine ⟨_, _, And.intro ⟨rfl, get_map hlt⟩ ?_⟩ | refine Exists.intro false ?_ | (refine And.intro ?_ ?_; focus (simp; done)) | fail)
      · have h2 := h
        refine dle_int (findB_at hlt ?_ hall).symm
        simpa [hlt] using h2
      · have h2 := h
        conv => whnf
        refine ⟨i + 1, ⟨hlt, fun j hj => ?_⟩, by simp only []; omega, ?_⟩
        · rcases Nat.lt_succ_iff_lt_or_eq.1 hj with hj | rfl
          · exact hall j hj
          · simpa [hlt] using h2
        · exact ⟨by repeat' ((conv => whnf); first | exact trivial | refine And.intro (by (conv => arg 1; whnf); first | (with_reducible exact .refl) | exact dle_int (wrap_succ (by omega)) | exact .refl) ?_), by repeat' ((conv => whnf); first | exact trivial | refine And.intro ?_ ?_ | exact .refl), rfl⟩
    · have hge : ¬ i < l.length := by simpa using h
      conv => whnf
      refine dle_int (findB_none (fun j hj => hall j (by omega))).symm
theorem c_ref3_Contains (l : List Int) (hl : l.length ≤ maxLen) (x : Int) : Ret Try.prog 19 [.lst 1 (l.map intE) false, .v (.int .i64 x)] (.v (.bool (inB l x))) := by
  refine ret_of_body (fn := Try.f19) (c := Try.f19.body.getD .skip) hm hT (by kernel_rfl) Try.func19 (by kernel_rfl) (by kernel_rfl) (by kernel_rfl) (by kernel_rfl) ?_
  repeat' ((conv => whnf); first | refine And.intro (fun h => h) ?_ | refine dcond_t (by assumption) ?_ | refine dcond_f (by assumption) ?_ | (refine dcond_intro ?_ ?_ <;> intro h) | exact .refl | refine And.intro (by kernel_rfl) ?_ | refine And.intro ⟨fun h => h, fun h => h⟩ ?_ | refine .inl ⟨_, _, DleAll_refl _, c_ref3_Place _ hl _, ?_⟩ | refine ⟨_, _, DleAll_refl _, fun _ => c_ref3_Place _ hl _, ?_⟩ | refine ⟨_, _, DleAll_refl _, c_ref3_Place _ hl _, ?_⟩ | refine Exists.intro false ?_ | (refine And.intro ?_ ?_; focus (simp; done)) | fail)
def memRB (l : List Int) : Bool := (decide (1 ≤ (l.length : Int)) && decide ((l.length : Int) ≤ 16)) && riseB l
theorem memRB_eq (l : List Int) : memRB l = idsB l 16 := by rw [ids_eq, memRB]
theorem c_ref3_ValidMembers (l : List Int) (hl : l.length ≤ maxLen) : Ret Try.prog 70 [.lst 1 (l.map intE) false] (.v (.bool (idsB l 16))) := by
  rw [← memRB_eq]
  refine ret_of_body (fn := Try.f70) (c := Try.f70.body.getD .skip) hm hT (by kernel_rfl) Try.func70 (by kernel_rfl) (by kernel_rfl) (by kernel_rfl) (by kernel_rfl) ?_
  repeat' ((conv => whnf); first | refine And.intro (fun h => h) ?_ | refine dcond_t (by assumption) ?_ | refine dcond_f (by assumption) ?_ | (refine dcond_intro ?_ ?_ <;> intro h) | exact .refl | refine And.intro (by kernel_rfl) ?_ | refine And.intro ⟨fun h => h, fun h => h⟩ ?_ | refine .inl ⟨_, _, DleAll_refl _, c_ref3_Rising _ hl, ?_⟩ | refine ⟨_, _, DleAll_refl _, fun _ => c_ref3_Rising _ hl, ?_⟩ | refine ⟨_, _, DleAll_refl _, c_ref3_Rising _ hl, ?_⟩ | refine Exists.intro false ?_ | (refine And.intro ?_ ?_; focus (simp; done)) | fail)
  all_goals (conv => whnf)
  refine dle_bool ?_
  simp only [memRB, List.length_map]
theorem c_ref3_Valid (v : View) (hl : v.mem.length ≤ maxLen) : Ret Try.prog 21 [.agg (viewE v)] (.v (.bool (viewB v))) := by
  refine ret_of_body (fn := Try.f21) (c := Try.f21.body.getD .skip) hm hT (by kernel_rfl) Try.func21 (by kernel_rfl) (by kernel_rfl) (by kernel_rfl) (by kernel_rfl) ?_
  repeat' ((conv => whnf); first | refine And.intro (fun h => h) ?_ | refine dcond_t (by assumption) ?_ | refine dcond_f (by assumption) ?_ | (refine dcond_intro ?_ ?_ <;> intro h) | exact .refl | refine And.intro (by kernel_rfl) ?_ | refine And.intro ⟨fun h => h, fun h => h⟩ ?_ | refine .inl ⟨_, _, DleAll_refl _, c_ref3_ValidMembers _ hl, ?_⟩ | refine ⟨_, _, DleAll_refl _, fun _ => c_ref3_ValidMembers _ hl, ?_⟩ | refine ⟨_, _, DleAll_refl _, c_ref3_ValidMembers _ hl, ?_⟩ | refine Exists.intro false ?_ | (refine And.intro ?_ ?_; focus (simp; done)) | fail)
def amongB (m : List Int) (b : Bool) (x : Int) : Bool := inB m x == b
def amongP (l m : List Int) (b : Bool) (i : Nat) : List (List DV) := ((l.take i).filter (amongB m b)).map intE
theorem amongP_len (l m : List Int) (b : Bool) (i : Nat) : (amongP l m b i).length ≤ i := by
  simp only [amongP, List.length_map]
  exact Nat.le_trans (List.length_filter_le _ _) (by simp; omega)
theorem c_ref3_Among (l m : List Int) (hl : l.length ≤ 1000000) (hm' : m.length ≤ maxLen) (b : Bool) : Ret Try.prog 113 [.lst 1 (l.map intE) false, .lst 1 (m.map intE) false, .v (.bool b)] (.lst 1 ((l.filter (amongB m b)).map intE) false) := by
  refine ret_of_body (fn := Try.f113) (c := Try.f113.body.getD .skip) hm hT (by kernel_rfl) Try.func113 (by kernel_rfl) (by kernel_rfl) (by kernel_rfl) (by kernel_rfl) ?_
  repeat' ((conv => whnf); first | refine And.intro (fun h => h) ?_ | refine dcond_t (by assumption) ?_ | refine dcond_f (by assumption) ?_ | (refine dcond_intro ?_ ?_ <;> intro h) | exact .refl | refine And.intro (by kernel_rfl) ?_ | refine And.intro ⟨fun h => h, fun h => h⟩ ?_ | refine Exists.intro false ?_ | (refine And.intro ?_ ?_; focus (simp; done)) | fail)
  refine ⟨Nat, fun i => ⟨[(0, .lst 1 (l.map intE) false), (1, .lst 1 (m.map intE) false), (2, .v (.bool b)), (7, .own 0), (8, i64 i)], [.row 3 1 (amongP l m b i)]⟩, fun i => i ≤ l.length, fun i => l.length - i, [.slot 7 3 1], ⟨0, Nat.zero_le _, ?_⟩, ?_⟩
  · conv => whnf
    exact ⟨by repeat' ((conv => whnf); first | exact trivial | refine And.intro (by (conv => arg 1; whnf); first | (with_reducible exact .refl) | exact dle_int (wrap_succ (by omega)) | exact .refl) ?_), by repeat' ((conv => whnf); first | exact trivial | refine And.intro ?_ ?_ | exact .refl), rfl⟩
  · intro i hi
    repeat' ((conv => whnf); first | refine And.intro (fun h => h) ?_ | refine dcond_t (by assumption) ?_ | refine dcond_f (by assumption) ?_ | (refine dcond_intro ?_ ?_ <;> intro h) | exact .refl | refine And.intro (by kernel_rfl) ?_ | refine And.intro ⟨fun h => h, fun h => h⟩ ?_ | refine Exists.intro false ?_ | (refine And.intro ?_ ?_; focus (simp; done)) | fail)
    · have hlt : i < l.length := by simpa using h
      clear h
      repeat' ((conv => whnf); first | refine And.intro (fun h => h) ?_ | refine dcond_t (by assumption) ?_ | refine dcond_f (by assumption) ?_ | (refine dcond_intro ?_ ?_ <;> intro h) | exact .refl | refine And.intro (by kernel_rfl) ?_ | refine And.intro ⟨fun h => h, fun h => h⟩ ?_ | refine ⟨_, _, And.intro ⟨rfl, get_map hlt⟩ ?_⟩ | refine .inl ⟨_, _, DleAll_refl _, c_ref3_Contains _ hm' _, ?_⟩ | refine ⟨_, _, DleAll_refl _, fun _ => c_ref3_Contains _ hm' _, ?_⟩ | refine ⟨_, _, DleAll_refl _, c_ref3_Contains _ hm' _, ?_⟩ | refine Exists.intro false ?_ | (refine And.intro ?_ ?_; focus (simp; done)) | fail)
      all_goals (conv => whnf)
      · have hA := amongP_len l m b i
        refine And.intro (fitsI (by simp; omega)) ?_
        repeat' ((conv => whnf); first | refine And.intro (fun h => h) ?_ | refine dcond_t (by assumption) ?_ | refine dcond_f (by assumption) ?_ | (refine dcond_intro ?_ ?_ <;> intro h) | exact .refl | refine And.intro (by kernel_rfl) ?_ | refine And.intro ⟨fun h => h, fun h => h⟩ ?_ | refine Exists.intro false ?_ | (refine And.intro ?_ ?_; focus (simp; done)) | fail)
        all_goals (conv => whnf)
        refine ⟨i + 1, hlt, by simp only []; omega, ?_⟩
        refine ⟨⟨.refl, .refl, .refl, .refl, dle_int (wrap_succ (by omega)), trivial⟩, ⟨ole_row ?_, trivial⟩, rfl⟩
        simp only [amongP, List.take_succ_eq_append_getElem hlt, List.filter_append, List.map_append]
        have h' : amongB m b l[i] = true := h
        simp [List.filter_cons, h', intE, dcells]
      · refine ⟨i + 1, hlt, by simp only []; omega, ?_⟩
        refine ⟨⟨.refl, .refl, .refl, .refl, dle_int (wrap_succ (by omega)), trivial⟩, ⟨ole_row ?_, trivial⟩, rfl⟩
        simp only [amongP, List.take_succ_eq_append_getElem hlt, List.filter_append, List.map_append]
        have h' : amongB m b l[i] = false := h
        simp [List.filter_cons, h']
    · have hge : ¬ i < l.length := by simpa using h
      have : i = l.length := by omega
      subst this
      repeat' ((conv => whnf); first | refine And.intro (fun h => h) ?_ | refine dcond_t (by assumption) ?_ | refine dcond_f (by assumption) ?_ | (refine dcond_intro ?_ ?_ <;> intro h) | exact .refl | refine And.intro (by kernel_rfl) ?_ | refine And.intro ⟨fun h => h, fun h => h⟩ ?_ | refine Exists.intro false ?_ | (refine And.intro ?_ ?_; focus (simp; done)) | fail)
      all_goals (conv => whnf)
      refine dle_lst ?_
      simp [amongP]
theorem c_ref3_Survivors (v : View) (hv : v.mem.length ≤ 1000000) (cut : List Int) (hc : cut.length ≤ 1000000) : Ret Try.prog 104 [.agg (viewE v), .lst 1 (cut.map intE) false] (.lst 1 ((splitR v cut v.mem cut).2.map intE) false) := by
  have h1 : v.mem.length ≤ maxLen := Nat.le_trans hv (by decide)
  have h2 : cut.length ≤ maxLen := Nat.le_trans hc (by decide)
  refine ret_of_body (fn := Try.f104) (c := Try.f104.body.getD .skip) hm hT (by kernel_rfl) Try.func104 (by kernel_rfl) (by kernel_rfl) (by kernel_rfl) (by kernel_rfl) ?_
  repeat' ((conv => whnf); first | refine And.intro (fun h => h) ?_ | refine dcond_t (by assumption) ?_ | refine dcond_f (by assumption) ?_ | (refine dcond_intro ?_ ?_ <;> intro h) | exact .refl | refine And.intro (by kernel_rfl) ?_ | refine And.intro ⟨fun h => h, fun h => h⟩ ?_ | refine .inl ⟨_, _, DleAll_refl _, c_ref3_Valid _ h1, ?_⟩ | refine ⟨_, _, DleAll_refl _, fun _ => c_ref3_Valid _ h1, ?_⟩ | refine ⟨_, _, DleAll_refl _, c_ref3_Valid _ h1, ?_⟩ | refine .inl ⟨_, _, DleAll_refl _, c_ref3_ValidCut _ h2, ?_⟩ | refine ⟨_, _, DleAll_refl _, fun _ => c_ref3_ValidCut _ h2, ?_⟩ | refine ⟨_, _, DleAll_refl _, c_ref3_ValidCut _ h2, ?_⟩ | refine .inl ⟨_, _, DleAll_refl _, c_ref3_Among _ _ hv h2 _, ?_⟩ | refine ⟨_, _, DleAll_refl _, fun _ => c_ref3_Among _ _ hv h2 _, ?_⟩ | refine ⟨_, _, DleAll_refl _, c_ref3_Among _ _ hv h2 _, ?_⟩ | refine Exists.intro false ?_ | (refine And.intro ?_ ?_; focus (simp; done)) | fail)
  all_goals (conv => whnf)
  all_goals (try simp only [cutRB_eq] at *)
  all_goals simp only [splitR, *, cond_true, cond_false]
  · exact .nl
  · refine dle_lst ?_
    congr 1
    apply List.filter_congr
    intro x _
    simp [amongB]
theorem c_ref3_Joiners (v : View) (hv : v.mem.length ≤ 1000000) (cut : List Int) (hc : cut.length ≤ 1000000) : Ret Try.prog 105 [.agg (viewE v), .lst 1 (cut.map intE) false] (.lst 1 ((splitR v cut cut v.mem).2.map intE) false) := by
  have h1 : v.mem.length ≤ maxLen := Nat.le_trans hv (by decide)
  have h2 : cut.length ≤ maxLen := Nat.le_trans hc (by decide)
  refine ret_of_body (fn := Try.f105) (c := Try.f105.body.getD .skip) hm hT (by kernel_rfl) Try.func105 (by kernel_rfl) (by kernel_rfl) (by kernel_rfl) (by kernel_rfl) ?_
  repeat' ((conv => whnf); first | refine And.intro (fun h => h) ?_ | refine dcond_t (by assumption) ?_ | refine dcond_f (by assumption) ?_ | (refine dcond_intro ?_ ?_ <;> intro h) | exact .refl | refine And.intro (by kernel_rfl) ?_ | refine And.intro ⟨fun h => h, fun h => h⟩ ?_ | refine .inl ⟨_, _, DleAll_refl _, c_ref3_Valid _ h1, ?_⟩ | refine ⟨_, _, DleAll_refl _, fun _ => c_ref3_Valid _ h1, ?_⟩ | refine ⟨_, _, DleAll_refl _, c_ref3_Valid _ h1, ?_⟩ | refine .inl ⟨_, _, DleAll_refl _, c_ref3_ValidCut _ h2, ?_⟩ | refine ⟨_, _, DleAll_refl _, fun _ => c_ref3_ValidCut _ h2, ?_⟩ | refine ⟨_, _, DleAll_refl _, c_ref3_ValidCut _ h2, ?_⟩ | refine .inl ⟨_, _, DleAll_refl _, c_ref3_Among _ _ hc h1 _, ?_⟩ | refine ⟨_, _, DleAll_refl _, fun _ => c_ref3_Among _ _ hc h1 _, ?_⟩ | refine ⟨_, _, DleAll_refl _, c_ref3_Among _ _ hc h1 _, ?_⟩ | refine Exists.intro false ?_ | (refine And.intro ?_ ?_; focus (simp; done)) | fail)
  all_goals (conv => whnf)
  all_goals (try simp only [cutRB_eq] at *)
  all_goals simp only [splitR, *, cond_true, cond_false]
  · exact .nl
  · refine dle_lst ?_
    congr 1
    apply List.filter_congr
    intro x _
    simp [amongB]
def insA (l : List Int) (x : Int) : Nat → List Int × Bool
  | 0 => ([], false)
  | i + 1 => bif !(insA l x i).2 && decide (x < l.getD i 0) then ((insA l x i).1 ++ [x] ++ [l.getD i 0], true) else ((insA l x i).1 ++ [l.getD i 0], (insA l x i).2)
def insL (l : List Int) (x : Int) : List Int := bif (insA l x l.length).2 then (insA l x l.length).1 else (insA l x l.length).1 ++ [x]
theorem insA_len (l : List Int) (x : Int) : ∀ i, (insA l x i).1.length ≤ i + 1 ∧ ((insA l x i).2 = false → (insA l x i).1.length ≤ i)
  | 0 => by simp [insA]
  | i + 1 => by
    have ih := insA_len l x i
    simp only [insA]
    cases h : (insA l x i).2 <;> cases h2 : decide (x < l.getD i 0) <;> simp_all <;> omega
theorem insL_len (l : List Int) (x : Int) : (insL l x).length ≤ l.length + 1 := by
  have := insA_len l x l.length
  unfold insL
  cases h : (insA l x l.length).2 <;> simp_all
theorem c_ref3_Insert (l : List Int) (hl : l.length ≤ 1000000) (x : Int) : Ret Try.prog 106 [.lst 1 (l.map intE) false, .v (.int .i64 x)] (.lst 1 ((insL l x).map intE) false) := by
  refine ret_of_body (fn := Try.f106) (c := Try.f106.body.getD .skip) hm hT (by kernel_rfl) Try.func106 (by kernel_rfl) (by kernel_rfl) (by kernel_rfl) (by kernel_rfl) ?_
  repeat' ((conv => whnf); first | refine And.intro (fun h => h) ?_ | refine dcond_t (by assumption) ?_ | refine dcond_f (by assumption) ?_ | (refine dcond_intro ?_ ?_ <;> intro h) | exact .refl | refine And.intro (by kernel_rfl) ?_ | refine And.intro ⟨fun h => h, fun h => h⟩ ?_ | refine Exists.intro false ?_ | (refine And.intro ?_ ?_; focus (simp; done)) | fail)
  refine ⟨Nat, fun i => ⟨[(0, .lst 1 (l.map intE) false), (1, .v (.int .i64 x)), (5, .own 0), (6, .v (.bool (insA l x i).2)), (7, i64 i)], [.row 3 1 ((insA l x i).1.map intE)]⟩, fun i => i ≤ l.length, fun i => l.length - i, [.slot 5 3 1], ⟨0, Nat.zero_le _, ?_⟩, ?_⟩
  · conv => whnf
    exact ⟨by repeat' ((conv => whnf); first | exact trivial | refine And.intro (by (conv => arg 1; whnf); first | (with_reducible exact .refl) | exact dle_int (wrap_succ (by omega)) | exact .refl) ?_), by repeat' ((conv => whnf); first | exact trivial | refine And.intro ?_ ?_ | exact .refl), rfl⟩
  · intro i hi
    have hA := insA_len l x i
    repeat' ((conv => whnf); first | refine And.intro (fun h => h) ?_ | refine dcond_t (by assumption) ?_ | refine dcond_f (by assumption) ?_ | (refine dcond_intro ?_ ?_ <;> intro h) | exact .refl | refine And.intro (by kernel_rfl) ?_ | refine And.intro ⟨fun h => h, fun h => h⟩ ?_ | refine Exists.intro false ?_ | (refine And.intro ?_ ?_; focus (simp; done)) | fail)
    · have hlt : i < l.length := by simpa using h
      clear h
      have hg : l.getD i 0 = l[i] := by simp [hlt]
      repeat' ((conv => whnf); first | refine And.intro (fun h => h) ?_ | refine dcond_t (by assumption) ?_ | refine dcond_f (by assumption) ?_ | (refine dcond_intro ?_ ?_ <;> intro h) | exact .refl | refine And.intro (by kernel_rfl) ?_ | refine And.intro ⟨fun h => h, fun h => h⟩ ?_ | refine ⟨_, _, And.intro ⟨rfl, get_map hlt⟩ ?_⟩ | refine ⟨i, intE (l[i]'hlt), And.intro ⟨⟨fun h => h, fun h => h⟩, fun hg => ⟨rfl, get_map hlt⟩⟩ ?_⟩ | refine Exists.intro false ?_ | (refine And.intro ?_ ?_; focus (simp; done)) | fail)
      all_goals (conv => whnf)
      · have e : insA l x (i + 1) = ((insA l x i).1 ++ [x] ++ [l[i]], true) := by simp only [insA, hg, h, cond_true]
        refine And.intro (fitsI (by simp; omega)) ?_
        repeat' ((conv => whnf); first | refine And.intro (fun h => h) ?_ | refine dcond_t (by assumption) ?_ | refine dcond_f (by assumption) ?_ | (refine dcond_intro ?_ ?_ <;> intro h) | exact .refl | refine And.intro (by kernel_rfl) ?_ | refine And.intro ⟨fun h => h, fun h => h⟩ ?_ | refine ⟨_, _, And.intro ⟨rfl, get_map hlt⟩ ?_⟩ | refine Exists.intro false ?_ | (refine And.intro ?_ ?_; focus (simp; done)) | fail)
        all_goals (conv => whnf)
        refine And.intro (fitsI (by simp; omega)) ?_
        repeat' ((conv => whnf); first | refine And.intro (fun h => h) ?_ | refine dcond_t (by assumption) ?_ | refine dcond_f (by assumption) ?_ | (refine dcond_intro ?_ ?_ <;> intro h) | exact .refl | refine And.intro (by kernel_rfl) ?_ | refine And.intro ⟨fun h => h, fun h => h⟩ ?_ | refine Exists.intro false ?_ | (refine And.intro ?_ ?_; focus (simp; done)) | fail)
        all_goals (conv => whnf)
        refine ⟨i + 1, hlt, by simp only []; omega, ?_⟩
        refine ⟨⟨.refl, .refl, .refl, dle_bool (by rw [e]), dle_int (wrap_succ (by omega)), trivial⟩, ⟨ole_row ?_, trivial⟩, rfl⟩
        rw [e]
        simp [intE, dcells]
      · have e : insA l x (i + 1) = ((insA l x i).1 ++ [l[i]], (insA l x i).2) := by simp only [insA, hg, h, cond_false]
        repeat' ((conv => whnf); first | refine And.intro (fun h => h) ?_ | refine dcond_t (by assumption) ?_ | refine dcond_f (by assumption) ?_ | (refine dcond_intro ?_ ?_ <;> intro h) | exact .refl | refine And.intro (by kernel_rfl) ?_ | refine And.intro ⟨fun h => h, fun h => h⟩ ?_ | refine ⟨_, _, And.intro ⟨rfl, get_map hlt⟩ ?_⟩ | refine Exists.intro false ?_ | (refine And.intro ?_ ?_; focus (simp; done)) | fail)
        all_goals (conv => whnf)
        refine And.intro (fitsI (by simp; omega)) ?_
        repeat' ((conv => whnf); first | refine And.intro (fun h => h) ?_ | refine dcond_t (by assumption) ?_ | refine dcond_f (by assumption) ?_ | (refine dcond_intro ?_ ?_ <;> intro h) | exact .refl | refine And.intro (by kernel_rfl) ?_ | refine And.intro ⟨fun h => h, fun h => h⟩ ?_ | refine Exists.intro false ?_ | (refine And.intro ?_ ?_; focus (simp; done)) | fail)
        all_goals (conv => whnf)
        refine ⟨i + 1, hlt, by simp only []; omega, ?_⟩
        refine ⟨⟨.refl, .refl, .refl, dle_bool (by rw [e]), dle_int (wrap_succ (by omega)), trivial⟩, ⟨ole_row ?_, trivial⟩, rfl⟩
        rw [e]
        simp [intE, dcells]
    · rename_i hge0
      have hge : ¬ i < l.length := by simpa using hge0
      have : i = l.length := by omega
      subst this
      clear hge0
      have h : (insA l x l.length).2 = false := by simpa using h
      conv => whnf
      refine And.intro (fitsI (by simp; omega)) ?_
      repeat' ((conv => whnf); first | refine And.intro (fun h => h) ?_ | refine dcond_t (by assumption) ?_ | refine dcond_f (by assumption) ?_ | (refine dcond_intro ?_ ?_ <;> intro h) | exact .refl | refine And.intro (by kernel_rfl) ?_ | refine And.intro ⟨fun h => h, fun h => h⟩ ?_ | refine Exists.intro false ?_ | (refine And.intro ?_ ?_; focus (simp; done)) | fail)
      all_goals (conv => whnf)
      refine dle_lst ?_
      simp only [insL, h, cond_false]
      simp [intE, dcells]
    · rename_i hge0
      have hge : ¬ i < l.length := by simpa using hge0
      have : i = l.length := by omega
      subst this
      clear hge0
      have h : (insA l x l.length).2 = true := by simpa using h
      repeat' ((conv => whnf); first | refine And.intro (fun h => h) ?_ | refine dcond_t (by assumption) ?_ | refine dcond_f (by assumption) ?_ | (refine dcond_intro ?_ ?_ <;> intro h) | exact .refl | refine And.intro (by kernel_rfl) ?_ | refine And.intro ⟨fun h => h, fun h => h⟩ ?_ | refine Exists.intro false ?_ | (refine And.intro ?_ ?_; focus (simp; done)) | fail)
      all_goals (conv => whnf)
      refine dle_lst ?_
      simp only [insL, h, cond_true]
def insTo (l j : List Int) : Nat → List Int
  | 0 => l
  | i + 1 => insL (insTo l j i) (j.getD i 0)
theorem insTo_len (l j : List Int) : ∀ i, (insTo l j i).length ≤ l.length + i
  | 0 => Nat.le_refl _
  | i + 1 => by
    have := insTo_len l j i
    have h2 := insL_len (insTo l j i) (j.getD i 0)
    simp only [insTo]
    omega
def nextRR (v : View) (cut : List Int) : View × Int :=
  bif !viewB v || !idsB cut 32 then (⟨0, []⟩, 1)
  else bif decide (2 * ((stayL v cut).length : Int) ≤ (v.mem.length : Int)) then (⟨0, []⟩, 9)
  else bif decide (v.num = 1099511627776) || decide (16 < ((stayL v cut).length : Int) + ((comeL v cut).length : Int)) then (⟨0, []⟩, 5)
  else (⟨IntKind.i64.wrap (v.num + 1), insTo (stayL v cut) (comeL v cut) (comeL v cut).length⟩, 0)
theorem nextRR_err (v : View) (cut : List Int) : (nextRR v cut).2 = (nextR v cut).2 := by
  unfold nextRR nextR
  cases (!viewB v || !idsB cut 32) <;> simp only [cond_true, cond_false]
  cases decide (2 * ((stayL v cut).length : Int) ≤ (v.mem.length : Int)) <;> simp only [cond_true, cond_false]
  cases (decide (v.num = 1099511627776) || decide (16 < ((stayL v cut).length : Int) + ((comeL v cut).length : Int))) <;> simp only [cond_true, cond_false]
theorem c_ref3_Next (v : View) (hv : v.mem.length ≤ 500000) (cut : List Int) (hc : cut.length ≤ 500000) : Ret Try.prog 83 [.agg (viewE v), .lst 1 (cut.map intE) false] (.tup [.agg (viewE (nextRR v cut).1), .v (.int .i64 (nextRR v cut).2)]) := by
  have h1 : v.mem.length ≤ maxLen := Nat.le_trans hv (by decide)
  have h2 : cut.length ≤ maxLen := Nat.le_trans hc (by decide)
  have h3 : (stayL v cut).length ≤ 500000 := Nat.le_trans (split_len _ _ _ _) hv
  have h4 : (comeL v cut).length ≤ 500000 := Nat.le_trans (split_len _ _ _ _) hc
  have es : Ret Try.prog 104 [.agg (viewE v), .lst 1 (cut.map intE) false] (.lst 1 ((stayL v cut).map intE) false) := c_ref3_Survivors v (by omega) cut (by omega)
  have ej : Ret Try.prog 105 [.agg (viewE v), .lst 1 (cut.map intE) false] (.lst 1 ((comeL v cut).map intE) false) := c_ref3_Joiners v (by omega) cut (by omega)
  have w1 : IntKind.i64.wrap (2 * ((stayL v cut).length : Int)) = 2 * ((stayL v cut).length : Int) := wrap_i64 (by omega) (by omega)
  have w2 : IntKind.i64.wrap (((stayL v cut).length : Int) + ((comeL v cut).length : Int)) = ((stayL v cut).length : Int) + ((comeL v cut).length : Int) := wrap_i64 (by omega) (by omega)
  refine ret_of_body (fn := Try.f83) (c := Try.f83.body.getD .skip) hm hT (by kernel_rfl) Try.func83 (by kernel_rfl) (by kernel_rfl) (by kernel_rfl) (by kernel_rfl) ?_
  repeat' ((conv => whnf); first | refine And.intro (fun h => h) ?_ | refine dcond_t (by assumption) ?_ | refine dcond_f (by assumption) ?_ | (refine dcond_intro ?_ ?_ <;> intro h) | exact .refl | refine And.intro (by kernel_rfl) ?_ | refine And.intro ⟨fun h => h, fun h => h⟩ ?_ | refine .inl ⟨_, _, DleAll_refl _, c_ref3_Valid _ h1, ?_⟩ | refine ⟨_, _, DleAll_refl _, fun _ => c_ref3_Valid _ h1, ?_⟩ | refine ⟨_, _, DleAll_refl _, c_ref3_Valid _ h1, ?_⟩ | refine .inl ⟨_, _, DleAll_refl _, c_ref3_ValidCut _ h2, ?_⟩ | refine ⟨_, _, DleAll_refl _, fun _ => c_ref3_ValidCut _ h2, ?_⟩ | refine ⟨_, _, DleAll_refl _, c_ref3_ValidCut _ h2, ?_⟩ | refine .inl ⟨_, _, DleAll_refl _, es, ?_⟩ | refine ⟨_, _, DleAll_refl _, fun _ => es, ?_⟩ | refine ⟨_, _, DleAll_refl _, es, ?_⟩ | refine .inl ⟨_, _, DleAll_refl _, ej, ?_⟩ | refine ⟨_, _, DleAll_refl _, fun _ => ej, ?_⟩ | refine ⟨_, _, DleAll_refl _, ej, ?_⟩ | refine Exists.intro false ?_ | (refine And.intro ?_ ?_; focus (simp; done)) | fail)
  all_goals (conv => whnf)
  all_goals (try simp only [List.length_map, w1, w2, cutRB_eq] at *)
  · simp only [nextRR, *, cond_true, cond_false]
    exact dle_tupA ⟨dle_aggA ⟨.refl, .nl, trivial⟩, .refl, trivial⟩
  · simp only [nextRR, *, cond_true, cond_false]
    exact dle_tupA ⟨dle_aggA ⟨.refl, .nl, trivial⟩, .refl, trivial⟩
  · simp only [nextRR, *, cond_true, cond_false]
    exact dle_tupA ⟨dle_aggA ⟨.refl, .nl, trivial⟩, .refl, trivial⟩
  · have e : nextRR v cut = (⟨IntKind.i64.wrap (v.num + 1), insTo (stayL v cut) (comeL v cut) (comeL v cut).length⟩, 0) := by simp only [nextRR, *, cond_true, cond_false]
    rw [e]
    refine ⟨Nat, fun i => ⟨[(2, .lp 0 0), (4, .lp 1 0), (6, .lst 1 ((insTo (stayL v cut) (comeL v cut) i).map intE) false), (7, .lst 1 ((comeL v cut).map intE) false), (8, i64 i)], [.cells 24 (viewE v), .cells 24 [.v (.int .i64 0), .nl]]⟩, fun i => i ≤ (comeL v cut).length, fun i => (comeL v cut).length - i, [], ⟨0, Nat.zero_le _, ?_⟩, ?_⟩
    · exact ⟨by repeat' ((conv => whnf); first | exact trivial | refine And.intro (by (conv => arg 1; whnf); first | (with_reducible exact .refl) | exact dle_int (wrap_succ (by omega)) | exact .refl) ?_), by repeat' ((conv => whnf); first | exact trivial | refine And.intro ?_ ?_ | exact .refl), rfl⟩
    · intro i hi
      have hl := insTo_len (stayL v cut) (comeL v cut) i
      repeat' ((conv => whnf); first | refine And.intro (fun h => h) ?_ | refine dcond_t (by assumption) ?_ | refine dcond_f (by assumption) ?_ | (refine dcond_intro ?_ ?_ <;> intro h) | exact .refl | refine And.intro (by kernel_rfl) ?_ | refine And.intro ⟨fun h => h, fun h => h⟩ ?_ | refine Exists.intro false ?_ | (refine And.intro ?_ ?_; focus (simp; done)) | fail)
      · have hlt : i < (comeL v cut).length := by simpa using h
        repeat' ((conv => whnf); first | refine And.intro (fun h => h) ?_ | refine dcond_t (by assumption) ?_ | refine dcond_f (by assumption) ?_ | (refine dcond_intro ?_ ?_ <;> intro h) | exact .refl | refine And.intro (by kernel_rfl) ?_ | refine And.intro ⟨fun h => h, fun h => h⟩ ?_ | refine ⟨_, _, And.intro ⟨rfl, get_map hlt⟩ ?_⟩ | refine .inl ⟨_, _, DleAll_refl _, c_ref3_Insert _ (by omega) _, ?_⟩ | refine ⟨_, _, DleAll_refl _, fun _ => c_ref3_Insert _ (by omega) _, ?_⟩ | refine ⟨_, _, DleAll_refl _, c_ref3_Insert _ (by omega) _, ?_⟩ | refine Exists.intro false ?_ | (refine And.intro ?_ ?_; focus (simp; done)) | fail)
        all_goals (conv => whnf)
        refine ⟨i + 1, hlt, by simp only []; omega, ?_⟩
        refine ⟨⟨.refl, .refl, dle_lst ?_, .refl, dle_int (wrap_succ (by omega)), trivial⟩, ⟨.refl, .refl, trivial⟩, rfl⟩
        have hg : (comeL v cut).getD i 0 = (comeL v cut)[i] := by simp [hlt]
        simp only [insTo, hg]
      · have hge : ¬ i < (comeL v cut).length := by simpa using h
        have : i = (comeL v cut).length := by omega
        subst this
        repeat' ((conv => whnf); first | refine And.intro (fun h => h) ?_ | refine dcond_t (by assumption) ?_ | refine dcond_f (by assumption) ?_ | (refine dcond_intro ?_ ?_ <;> intro h) | exact .refl | refine And.intro (by kernel_rfl) ?_ | refine And.intro ⟨fun h => h, fun h => h⟩ ?_ | refine Exists.intro false ?_ | (refine And.intro ?_ ?_; focus (simp; done)) | fail)
theorem c_ref3_Applicable (v : View) (hv : v.mem.length ≤ 500000) (cut : List Int) (hc : cut.length ≤ 500000) : Ret Try.prog 57 [.agg (viewE v), .lst 1 (cut.map intE) false] (.v (.bool (decide ((nextR v cut).2 = 0)))) := by
  rw [← nextRR_err]
  refine ret_of_body (fn := Try.f57) (c := Try.f57.body.getD .skip) hm hT (by kernel_rfl) Try.func57 (by kernel_rfl) (by kernel_rfl) (by kernel_rfl) (by kernel_rfl) ?_
  repeat' ((conv => whnf); first | refine And.intro (fun h => h) ?_ | refine dcond_t (by assumption) ?_ | refine dcond_f (by assumption) ?_ | (refine dcond_intro ?_ ?_ <;> intro h) | exact .refl | refine And.intro (by kernel_rfl) ?_ | refine And.intro ⟨fun h => h, fun h => h⟩ ?_ | refine .inl ⟨_, _, DleAll_refl _, c_ref3_Next _ hv _ hc, ?_⟩ | refine ⟨_, _, DleAll_refl _, fun _ => c_ref3_Next _ hv _ hc, ?_⟩ | refine ⟨_, _, DleAll_refl _, c_ref3_Next _ hv _ hc, ?_⟩ | refine Exists.intro false ?_ | (refine And.intro ?_ ?_; focus (simp; done)) | fail)
end Go.Proofs.Ytmbniilpgbjcfaa

set_option maxRecDepth 100000
namespace Go.Proofs.Ytmbniilpgbjcfaa
open Go.Lift
theorem m51 (l : List Rpt) (hl : l.length ≤ 500000) (hc : ∀ r ∈ l, r.cut.length ≤ 1000000) : RetM Try.prog 110 [] [.lst 3 (l.map rptE) false] [] [.row 73 3 (l.map rptE)] (.own 0) := by
  have hby : (l.map rptE).length * (tinfo tt 73).bytes ≤ 140737488355328 := by
    have e : (tinfo tt 73).bytes = 40 := by kernel_rfl
    rw [e]; simp; omega
  have hmx : (l.map rptE).length ≤ maxLen := by simp only [maxLen]; simp; omega
  refine retM_of_body (fn := Try.f110) (c := Try.f110.body.getD .skip) hm hT (by kernel_rfl) Try.func110 (by kernel_rfl) (by kernel_rfl) (by kernel_rfl) (by kernel_rfl) (by kernel_rfl) ?_
  repeat' ((conv => whnf); first | refine And.intro (fun h => h) ?_ | refine dcond_t (by assumption) ?_ | refine dcond_f (by assumption) ?_ | (refine dcond_intro ?_ ?_ <;> intro h) | exact .refl | refine And.intro (by kernel_rfl) ?_ | refine And.intro ⟨fun h => h, fun h => h⟩ ?_ | refine ⟨(l.map rptE).length, (l.map rptE).length, rfl, rfl, Nat.le_refl _, hby, hmx, ?_⟩ | refine Exists.intro false ?_ | (refine And.intro ?_ ?_; focus (simp; done)) | fail)
  all_goals (conv => whnf)
  have e0 : (l.map rptE).take (List.replicate (l.map rptE).length (tinfo tt 73).zero).length ++ (List.replicate (l.map rptE).length (tinfo tt 73).zero).drop (l.map rptE).length = l.map rptE := by
    simp only [List.length_replicate, List.drop_of_length_le (Nat.le_of_eq (List.length_replicate ..)), List.append_nil]
    exact List.take_of_length_le (Nat.le_refl _)
  rw [e0]
  refine ⟨Nat, fun i => ⟨[(3, .own 0), (12, i64 (l.map rptE).length), (13, i64 i)], [.row 73 3 (l.map rptE)]⟩, fun i => i ≤ l.length, fun i => l.length - i, [], ⟨0, Nat.zero_le _, ?_⟩, ?_⟩
  · exact ⟨⟨.refl, .refl, .refl, trivial⟩, ⟨.refl, trivial⟩, rfl⟩
  · intro i hi
    repeat' ((conv => whnf); first | refine And.intro (fun h => h) ?_ | refine dcond_t (by assumption) ?_ | refine dcond_f (by assumption) ?_ | (refine dcond_intro ?_ ?_ <;> intro h) | exact .refl | refine And.intro (by kernel_rfl) ?_ | refine And.intro ⟨fun h => h, fun h => h⟩ ?_ | refine Exists.intro false ?_ | (refine And.intro ?_ ?_; focus (simp; done)) | fail)
    · have hlt : i < l.length := by simpa using h
      have hlt2 : i < (l.map rptE).length := by simpa using hlt
      have hcc := hc _ (List.getElem_mem hlt)
      repeat' ((conv => whnf); first | refine And.intro (fun h => h) ?_ | refine dcond_t (by assumption) ?_ | refine dcond_f (by assumption) ?_ | (refine dcond_intro ?_ ?_ <;> intro h) | exact .refl | refine And.intro (by kernel_rfl) ?_ | refine And.intro ⟨fun h => h, fun h => h⟩ ?_ | refine .inl ⟨_, _, DleAll_refl _, c_paxos_clone _ hcc, ?_⟩ | refine ⟨_, _, DleAll_refl _, fun _ => c_paxos_clone _ hcc, ?_⟩ | refine ⟨_, _, DleAll_refl _, c_paxos_clone _ hcc, ?_⟩ | refine ⟨i, And.intro ⟨rfl, hlt2⟩ ?_⟩ | refine ⟨rptE (l[i]'hlt), And.intro (get_map hlt) ?_⟩ | refine Exists.intro false ?_ | (refine And.intro ?_ ?_; focus (simp; done)) | fail)
      all_goals (conv => whnf)
      refine ⟨i + 1, hlt, by simp only []; omega, ?_⟩
      refine ⟨⟨.refl, .refl, dle_int (wrap_succ (by omega)), trivial⟩, ⟨ole_row ?_, trivial⟩, rfl⟩
      apply List.ext_getElem?
      intro j
      rw [List.getElem?_set]
      split
      · rename_i hj
        subst hj
        first
          | rw [if_pos hlt2, get_map hlt]; rfl
          | rw [get_map hlt]; rfl
      · rfl
    · have hge : ¬ i < l.length := by simpa using h
      repeat' ((conv => whnf); first | refine And.intro (fun h => h) ?_ | refine dcond_t (by assumption) ?_ | refine dcond_f (by assumption) ?_ | (refine dcond_intro ?_ ?_ <;> intro h) | exact .refl | refine And.intro (by kernel_rfl) ?_ | refine And.intro ⟨fun h => h, fun h => h⟩ ?_ | refine Exists.intro false ?_ | (refine And.intro ?_ ?_; focus (simp; done)) | fail)
      all_goals (conv => whnf)
      exact ⟨.refl, ⟨.refl, trivial⟩, rfl⟩
theorem c_paxos_copies (l : List Rpt) (hl : l.length ≤ 500000) (hc : ∀ r ∈ l, r.cut.length ≤ 1000000) : Ret Try.prog 110 [.lst 3 (l.map rptE) false] (.lst 3 (l.map rptE) false) :=
  ret_of_retM (m51 l hl hc) .refl
def frontN : List Rpt → Int → Nat
  | [], _ => 0
  | r :: l, m => if r.mem < m then frontN l m + 1 else 0
theorem frontN_le (l : List Rpt) (m : Int) : frontN l m ≤ l.length := by
  induction l with
  | nil => exact Nat.le_refl _
  | cons r l ih => simp only [frontN, List.length_cons]; split <;> omega
theorem frontN_at {m : Int} : ∀ {l : List Rpt} {i : Nat} (hl : i < l.length), (∀ j, (hj : j < i) → (l[j]'(by omega)).mem < m) → ¬ l[i].mem < m → frontN l m = i
  | r :: l, 0, hl, h, hn => by simp only [frontN]; exact if_neg hn
  | r :: l, i + 1, hl, h, hn => by
    have h0 : r.mem < m := h 0 (by omega)
    simp only [frontN, if_pos h0]
    exact congrArg (· + 1) (frontN_at (l := l) (by simpa using hl) (fun j hj => h (j + 1) (by omega)) hn)
theorem frontN_all {m : Int} : ∀ {l : List Rpt}, (∀ j, (hj : j < l.length) → l[j].mem < m) → frontN l m = l.length
  | [], _ => rfl
  | r :: l, h => by
    have h0 : r.mem < m := h 0 (by simp)
    simp only [frontN, if_pos h0, List.length_cons]
    exact congrArg (· + 1) (frontN_all (l := l) fun j hj => h (j + 1) (by simpa using hj))
def insR (l : List Rpt) (r : Rpt) : List Rpt := l.take (frontN l r.mem) ++ [r] ++ l.drop (frontN l r.mem)
def addR (v : View) (l : List Rpt) (r : Rpt) : List Rpt × Bool :=
  bif !repsB v l then ([], false) else bif !repsB v (insR l r) then (l, false) else (insR l r, true)
theorem insR_len (l : List Rpt) (r : Rpt) : (insR l r).length = l.length + 1 := by
  have := frontN_le l r.mem
  simp [insR]; omega
theorem insR_mem {l : List Rpt} {r x : Rpt} (h : x ∈ insR l r) : x = r ∨ x ∈ l := by
  simp only [insR, List.mem_append, List.mem_singleton] at h
  rcases h with (h | h) | h
  · exact .inr (List.mem_of_mem_take h)
  · exact .inl h
  · exact .inr (List.mem_of_mem_drop h)
theorem fitsR {n : Nat} (h : n ≤ 2000000) : fitsIn tt 73 n := by
  have e : (tinfo tt 73).bytes = 40 := by kernel_rfl
  refine ⟨?_, ?_⟩
  · rw [e]; omega
  · simp only [maxLen]; omega
set_option maxRecDepth 100000 in
theorem c_paxos_AddReport (v : View) (hv : v.mem.length ≤ 400000) (l : List Rpt) (hl : l.length ≤ 400000) (hc : ∀ r ∈ l, r.cut.length ≤ 400000) (r : Rpt) (hr : r.cut.length ≤ 400000) :
    Ret Try.prog 93 [.agg (viewE v), .lst 3 (l.map rptE) false, .agg (rptE r)] (.tup [.lst 3 ((addR v l r).1.map rptE) false, .v (.bool (addR v l r).2)]) := by
  have hlm : l.length ≤ maxLen := Nat.le_trans hl (by decide)
  have e33 := c_paxos_ValidReports v (Nat.le_trans hv (by omega)) l hlm (fun x hx => Nat.le_trans (hc x hx) (by omega))
  have hil := insR_len l r
  have e33b := c_paxos_ValidReports v (Nat.le_trans hv (by omega)) (insR l r) (by simp only [maxLen]; omega) (fun x hx => by
    rcases insR_mem hx with rfl | hx
    · omega
    · exact Nat.le_trans (hc x hx) (by omega))
  have e51 := c_paxos_copies l (by omega) (fun x hx => Nat.le_trans (hc x hx) (by omega))
  have e51b := c_paxos_copies (insR l r) (by omega) (fun x hx => by
    rcases insR_mem hx with rfl | hx
    · omega
    · exact Nat.le_trans (hc x hx) (by omega))
  refine ret_of_body (fn := Try.f93) (c := Try.f93.body.getD .skip) hm hT (by kernel_rfl) Try.func93 (by kernel_rfl) (by kernel_rfl) (by kernel_rfl) (by kernel_rfl) ?_
  repeat' ((conv => whnf); first | refine And.intro (fun h => h) ?_ | refine dcond_t (by assumption) ?_ | refine dcond_f (by assumption) ?_ | (refine dcond_intro ?_ ?_ <;> intro h) | exact .refl | refine And.intro (by kernel_rfl) ?_ | refine And.intro ⟨fun h => h, fun h => h⟩ ?_ | refine .inl ⟨_, _, DleAll_refl _, e33, ?_⟩ | refine ⟨_, _, DleAll_refl _, fun _ => e33, ?_⟩ | refine ⟨_, _, DleAll_refl _, e33, ?_⟩ | refine Exists.intro false ?_ | (refine And.intro ?_ ?_; focus (simp; done)) | fail)
  all_goals (conv => whnf)
  · simp only [addR, h, cond_true]
    exact dle_tupA ⟨.nl, .refl, trivial⟩
  · have h0 := h
    clear h
    refine ⟨Nat, fun i => ⟨[(1, .lst 3 (l.map rptE) false), (3, .lp 0 0), (5, .lp 1 0), (8, i64 i)], [.cells 24 (viewE v), .cells 73 (rptE r)]⟩, fun i => i ≤ l.length ∧ ∀ j, (hj : j < l.length) → j < i → l[j].mem < r.mem, fun i => l.length - i, [], ⟨0, ⟨Nat.zero_le _, fun j _ hj => by omega⟩, ?_⟩, ?_⟩
    · exact ⟨by repeat' ((conv => whnf); first | exact trivial | refine And.intro (by (conv => arg 1; whnf); first | (with_reducible exact .refl) | exact dle_int (wrap_succ (by omega)) | exact .refl) ?_), by repeat' ((conv => whnf); first | exact trivial | refine And.intro ?_ ?_ | exact .refl), rfl⟩
    · intro i ⟨hi, hall⟩
      have hix : ∃ x : Rpt, (i < l.length → (l.map rptE)[i]? = some (rptE x)) ∧ ∀ (hil : i < l.length), x = l[i] := by
        by_cases hil : i < l.length
        · exact ⟨l[i], fun _ => get_map hil, fun _ => rfl⟩
        · exact ⟨r, fun hn => absurd hn hil, fun hn => absurd hn hil⟩
      obtain ⟨x, hx1, hx2⟩ := hix
      repeat' ((conv => whnf); first | refine And.intro (fun h => h) ?_ | refine dcond_t (by assumption) ?_ | refine dcond_f (by assumption) ?_ | (refine dcond_intro ?_ ?_ <;> intro h) | exact .refl | refine And.intro (by kernel_rfl) ?_ | refine And.intro ⟨fun h => h, fun h => h⟩ ?_ | refine ⟨i, rptE x, And.intro ⟨⟨fun h => h, fun h => h⟩, fun hg => ⟨rfl, hx1 (by simpa using hg)⟩⟩ ?_⟩ | refine Exists.intro false ?_ | (refine And.intro ?_ ?_; focus (simp; done)) | fail)
      · have hil : i < l.length := by simpa using ((Bool.and_eq_true ..).mp h).1
        have hlt : l[i].mem < r.mem := by
          have := ((Bool.and_eq_true ..).mp h).2
          rw [hx2 hil] at this
          simpa using this
        clear h
        repeat' ((conv => whnf); first | refine And.intro (fun h => h) ?_ | refine dcond_t (by assumption) ?_ | refine dcond_f (by assumption) ?_ | (refine dcond_intro ?_ ?_ <;> intro h) | exact .refl | refine And.intro (by kernel_rfl) ?_ | refine And.intro ⟨fun h => h, fun h => h⟩ ?_ | refine Exists.intro false ?_ | (refine And.intro ?_ ?_; focus (simp; done)) | fail)
        all_goals (conv => whnf)
        refine ⟨i + 1, ⟨hil, fun j hj hji => ?_⟩, by simp only []; omega, ?_⟩
        · rcases Nat.lt_succ_iff_lt_or_eq.mp hji with h1 | rfl
          · exact hall j hj h1
          · exact hlt
        · exact ⟨⟨.refl, .refl, .refl, dle_int (wrap_succ (by omega)), trivial⟩, ⟨.refl, .refl, trivial⟩, rfl⟩
      · have hf : frontN l r.mem = i := by
          rcases Nat.lt_or_ge i l.length with hil | hil
          · refine frontN_at hil (fun j hj => hall j (by omega) hj) ?_
            intro hlt
            rw [hx2 hil] at h
            simp [hil, hlt] at h
          · have : i = l.length := by omega
            subst this
            exact frontN_all fun j hj => hall j hj hj
        clear h
        have m51i : RetM Try.prog 110 [] [DV.lst 3 (((l.map rptE).take i).drop 0) false] [] [LObj.row 73 3 ((l.take i).map rptE)] (DV.own 0) := by
          have := m51 (l.take i) (by simp; omega) (fun x hx => Nat.le_trans (hc x (List.mem_of_mem_take hx)) (by omega))
          rw [← List.map_take]
          exact this
        have hlen : (l.take i).length = i := by simp; omega
        have hlm : i ≤ (l.map rptE).length := by simpa using hi
        repeat' ((conv => whnf); first | refine And.intro (fun h => h) ?_ | refine dcond_t (by assumption) ?_ | refine dcond_f (by assumption) ?_ | (refine dcond_intro ?_ ?_ <;> intro h) | exact .refl | refine And.intro (by kernel_rfl) ?_ | refine And.intro ⟨fun h => h, fun h => h⟩ ?_ | refine ⟨0, i, And.intro ⟨rfl, ⟨_, rfl⟩, Nat.zero_le _, hlm⟩ ?_⟩ | refine .inr ⟨[], [], _, [], _, _, m51i, by rfl, trivial, ⟨.refl, trivial⟩, ?_⟩ | refine And.intro (fitsR (by simp <;> omega)) ?_ | refine ⟨i, And.intro ⟨⟨_, rfl⟩, hlm⟩ ?_⟩ | refine Exists.intro false ?_ | (refine And.intro ?_ ?_; focus (simp; done)) | fail)
        have hins : List.map rptE (List.take i l) ++ (List.replicate 1 (tinfo tt 73).zero).set 0 (dcells (.agg [.v (.int .i64 r.mem), .v (.int .i64 r.rank), .lst 1 (List.map intE r.cut) false])) ++ List.drop i (List.map rptE l) = (insR l r).map rptE := by
          simp [insR, hf, rptE, dcells]
        refine .inl ⟨[.agg (viewE v), .lst 3 ((insR l r).map rptE) false], _, ⟨.refl, dle_lst hins, trivial⟩, e33b, ?_⟩
        repeat' ((conv => whnf); first | refine And.intro (fun h => h) ?_ | refine dcond_t (by assumption) ?_ | refine dcond_f (by assumption) ?_ | (refine dcond_intro ?_ ?_ <;> intro h) | exact .refl | refine And.intro (by kernel_rfl) ?_ | refine And.intro ⟨fun h => h, fun h => h⟩ ?_ | refine .inl ⟨_, _, DleAll_refl _, e51, ?_⟩ | refine ⟨_, _, DleAll_refl _, fun _ => e51, ?_⟩ | refine ⟨_, _, DleAll_refl _, e51, ?_⟩ | refine .inl ⟨[.lst 3 ((insR l r).map rptE) false], _, ⟨dle_lst hins, trivial⟩, e51b, ?_⟩ | refine Exists.intro false ?_ | (refine And.intro ?_ ?_; focus (simp; done)) | fail)
        all_goals (conv => whnf)
        · simp only [addR, h0, h, cond_true, cond_false]
          exact .refl
        · simp only [addR, h0, h, cond_true, cond_false]
          exact .refl
def vrB (v : View) (r : Rpt) : Bool := inB v.mem r.mem &&
    (decide (r.rank = -1) && decide ((r.cut.length : Int) = 0) || (decide (r.rank = 0) || usableB r.rank) && decide ((nextR v r.cut).2 = 0))
def ofB (l : List Rpt) (x : Int) : Int := findB (fun i => decide ((l.getD i rpt0).mem = x)) l.length
theorem of_neg {l : List Rpt} {x : Int} (h : decide (0 ≤ ofB l x) = false) : ∀ r ∈ l, r.mem ≠ x := by
  intro r hr e
  obtain ⟨i, hi, rfl⟩ := List.getElem_of_mem hr
  have hp : ∃ n, findB (fun i => decide ((l.getD i rpt0).mem = x)) l.length = ((n : Nat) : Int) := by
    rcases hf : (List.range l.length).find? (fun i => decide ((l.getD i rpt0).mem = x)) with _ | n
    · have := List.find?_eq_none.1 hf i (List.mem_range.2 hi)
      simp [hi, e] at this
    · exact ⟨n, by simp only [findB, hf]⟩
  obtain ⟨n, hn⟩ := hp
  simp only [ofB, hn, decide_eq_false_iff_not] at h
  omega
theorem of_pos {l : List Rpt} {x : Int} (h : decide (0 ≤ ofB l x) = true) : ∃ r ∈ l, r.mem = x := by
  refine Classical.byContradiction fun hn => ?_
  have hall : ∀ j, j < l.length → decide ((l.getD j rpt0).mem = x) = false := fun j hj => by
    simp only [List.getD_eq_getElem?_getD, List.getElem?_eq_getElem hj, Option.getD_some, decide_eq_false_iff_not]
    exact fun e => hn ⟨_, List.getElem_mem hj, e⟩
  rw [ofB, findB_none hall] at h
  cases h
def okRef (v : View) (l : List Rpt) (i : Nat) : Bool := !(!vrB v (l.getD i rpt0) || decide (0 < (i : Int)) && decide ((l.getD i rpt0).mem ≤ (l.getD (i - 1) rpt0).mem))
theorem in_pos {v : View} {x : Int} (hv : viewB v = true) (h : inB v.mem x = true) : 1 ≤ x := by
  have hid : idsB v.mem 16 = true := by
    simp only [viewB, Bool.and_eq_true] at hv
    exact hv.2
  rw [ids_eq] at hid
  simp only [Bool.and_eq_true] at hid
  have hr := rise_iff.1 hid.2
  rcases hf : (List.range v.mem.length).find? (fun i => decide (v.mem[i]? = some x)) with _ | n
  · simp only [inB, placeB, findB, hf] at h
    cases h
  · have hm := List.mem_of_find?_eq_some hf
    have hp := List.find?_some hf
    simp only [decide_eq_true_eq] at hp
    obtain ⟨hn, rfl⟩ := List.getElem?_eq_some_iff.1 hp
    exact (hr n hn).1
theorem ok_ref {v : View} (hv : viewB v = true) (l : List Rpt) {i : Nat} (hi : i < l.length) : okRef v l i = okRep v l i := by
  simp only [okRef, okRep, vrB]
  cases hin : inB v.mem (l.getD i rpt0).mem
  · simp
  · have hp := in_pos hv hin
    have e : (decide (0 < (i : Int)) && decide ((l.getD i rpt0).mem ≤ (l.getD (i - 1) rpt0).mem)) = decide ((l.getD i rpt0).mem ≤ prevM l i) := by
      cases i with
      | zero => simp [prevM]; simp at hp; omega
      | succ j =>
        have hj : j < l.length := by omega
        simp [prevM, hj, hi]
    rw [e]
    cases decide ((l.getD i rpt0).mem ≤ prevM l i) <;> simp
theorem reps_iff {v : View} (hv : viewB v = true) {l : List Rpt} : repsB v l = true ↔ (∀ r ∈ l, vrB v r = true) ∧ List.Pairwise (fun a b : Rpt => a.mem < b.mem) l := by
  have e : repsB v l = allB (okRef v l) l.length := by
    rw [repsB, hv, Bool.true_and]
    cases h : allB (okRef v l) l.length
    · cases h2 : allB (okRep v l) l.length
      · rfl
      · have := allB_true.2 (fun i hi => (ok_ref hv l hi).trans (allB_true.1 h2 i hi))
        rw [h] at this
        cases this
    · exact allB_true.2 (fun i hi => (ok_ref hv l hi).symm.trans (allB_true.1 h i hi))
  rw [e, allB_true]
  have hok : ∀ i (hi : i < l.length), okRef v l i = true ↔ vrB v l[i] = true ∧ (0 < i → (l.getD (i - 1) rpt0).mem < l[i].mem) := by
    intro i hi
    have hg : l.getD i rpt0 = l[i] := by simp [hi]
    simp only [okRef, hg, Bool.not_eq_true', Bool.or_eq_false_iff, Bool.not_eq_false', Bool.and_eq_false_iff, decide_eq_false_iff_not]
    constructor
    · rintro ⟨h1, h2⟩
      refine ⟨h1, fun h0 => ?_⟩
      rcases h2 with h2 | h2
      · omega
      · omega
    · rintro ⟨h1, h2⟩
      refine ⟨h1, ?_⟩
      by_cases h0 : 0 < i
      · have := h2 h0
        right; omega
      · left; omega
  constructor
  · intro h
    have h1 : ∀ i (hi : i < l.length), vrB v l[i] = true ∧ (0 < i → (l.getD (i - 1) rpt0).mem < l[i].mem) := fun i hi => (hok i hi).1 (h i hi)
    refine ⟨fun r hr => ?_, ?_⟩
    · obtain ⟨i, hi, rfl⟩ := List.getElem_of_mem hr
      exact (h1 i hi).1
    · rw [List.pairwise_iff_getElem]
      intro i j hi hj hij
      obtain ⟨d, rfl⟩ : ∃ d, j = i + 1 + d := ⟨j - (i + 1), by omega⟩
      clear hij
      induction d with
      | zero =>
        have := (h1 (i + 1) hj).2 (by omega)
        simpa [hi] using this
      | succ d ih =>
        have hj2 : i + 1 + d < l.length := by omega
        have k1 := ih hj2
        have k2 := (h1 (i + 1 + (d + 1)) hj).2 (by omega)
        have e2 : l.getD (i + 1 + (d + 1) - 1) rpt0 = l[i + 1 + d] := by
          have : i + 1 + (d + 1) - 1 = i + 1 + d := by omega
          rw [this]; simp [hj2]
        rw [e2] at k2
        omega
  · rintro ⟨h1, h2⟩ i hi
    refine (hok i hi).2 ⟨h1 _ (List.getElem_mem hi), fun h0 => ?_⟩
    have hi2 : i - 1 < l.length := by omega
    have := List.pairwise_iff_getElem.1 h2 (i - 1) i hi2 hi (by omega)
    simpa [hi2] using this
theorem ins_pair {l : List Rpt} {r : Rpt} (hp : List.Pairwise (fun a b : Rpt => a.mem < b.mem) l) : List.Pairwise (fun a b : Rpt => a.mem < b.mem) (insR l r) ↔ ∀ x ∈ l, x.mem ≠ r.mem := by
  induction l with
  | nil => simp [insR]
  | cons y l ih =>
    rw [List.pairwise_cons] at hp
    by_cases hy : y.mem < r.mem
    · have e : insR (y :: l) r = y :: insR l r := by simp [insR, frontN, hy]
      have hm : ∀ z, z ∈ insR l r ↔ z = r ∨ z ∈ l := fun z => by
        constructor
        · exact insR_mem
        · intro h
          simp only [insR, List.mem_append, List.mem_singleton]
          rcases h with rfl | h
          · exact .inl (.inr rfl)
          · rw [← List.take_append_drop (frontN l r.mem) l, List.mem_append] at h
            rcases h with h | h
            · exact .inl (.inl h)
            · exact .inr h
      rw [e, List.pairwise_cons, ih hp.2]
      constructor
      · rintro ⟨h1, h2⟩ x hx
        rcases List.mem_cons.1 hx with rfl | hx
        · omega
        · exact h2 x hx
      · intro h
        refine ⟨fun z hz => ?_, fun x hx => h x (List.mem_cons_of_mem _ hx)⟩
        rcases (hm z).1 hz with rfl | hz
        · exact hy
        · exact hp.1 z hz
    · have e : insR (y :: l) r = r :: y :: l := by simp [insR, frontN, hy]
      rw [e, List.pairwise_cons]
      constructor
      · rintro ⟨h1, h2⟩ x hx he
        have := h1 x hx
        omega
      · intro h
        refine ⟨fun z hz => ?_, List.pairwise_cons.2 hp⟩
        have h0 := h y (by simp)
        rcases List.mem_cons.1 hz with rfl | hz
        · omega
        · have := hp.1 z hz
          omega
theorem hi_succ (l : List Rpt) (i : Nat) : hiAt l (i + 1) = bif decide ((l.getD (hiAt l i) rpt0).rank < (l.getD i rpt0).rank) then i else hiAt l i := rfl
theorem box_find (l : List Rpt) (p : Bal → Bool) : (boxOf l).find? p = (l.find? fun r => decide (r.rank = 0) && p ⟨r.mem, r.cut⟩).map fun r => ⟨r.mem, r.cut⟩ := by
  induction l with
  | nil => rfl
  | cons y l ih =>
    by_cases hy : y.rank = 0
    · have e : boxOf (y :: l) = ⟨y.mem, y.cut⟩ :: boxOf l := by simp [boxOf, hy]
      rw [e, List.find?_cons, List.find?_cons, ih]
      cases hp : p ⟨y.mem, y.cut⟩ <;> simp [hy]
    · have e : boxOf (y :: l) = boxOf l := by simp [boxOf, hy]
      rw [e, List.find?_cons, ih]
      simp [hy]
def fastQ (v : View) (l : List Rpt) (r : Rpt) : Bool := decide (r.rank = 0) && decide (thrB v l ≤ (votesN (boxOf l) r.cut : Int))
theorem choose_fast {v : View} {l : List Rpt} {own : List Int} (h0 : gateB v l own = false) (h1 : decide (0 < (l.getD (hiAt l l.length) rpt0).rank) = false) {i : Nat} (hi : i < l.length) (h : fastQ v l l[i] = true) (hall : ∀ j (hj : j < l.length), j < i → fastQ v l l[j] = false) : chooseR v l own = (l[i].cut, true) := by
  have hf : (l.find? fun r => decide (r.rank = 0) && decide (thrB v l ≤ (votesN (boxOf l) r.cut : Int))) = some l[i] :=
    List.find?_eq_some_iff_getElem.2 ⟨h, i, hi, rfl, fun j hj => by
      have := hall j (by omega) hj
      simp only [fastQ] at this
      rw [this]; rfl⟩
  simp only [chooseR, h0, h1, cond_false, box_find, hf, Option.map_some]
theorem choose_own {v : View} {l : List Rpt} {own : List Int} (h0 : gateB v l own = false) (h1 : decide (0 < (l.getD (hiAt l l.length) rpt0).rank) = false) (hall : ∀ j (hj : j < l.length), fastQ v l l[j] = false) : chooseR v l own = (own, decide (0 < (own.length : Int))) := by
  have hf : (l.find? fun r => decide (r.rank = 0) && decide (thrB v l ≤ (votesN (boxOf l) r.cut : Int))) = none :=
    List.find?_eq_none.2 fun r hr => by
      obtain ⟨j, hj, rfl⟩ := List.getElem_of_mem hr
      have := hall j hj
      simp only [fastQ] at this
      simp [this]
  simp only [chooseR, h0, h1, cond_false, box_find, hf, Option.map_none]
  cases own with
  | nil => rfl
  | cons x l =>
    have e1 : decide (((x :: l).length : Int) = 0) = false := decide_eq_false (by simp only [List.length_cons]; omega)
    have e2 : decide (0 < ((x :: l).length : Int)) = true := decide_eq_true (by simp only [List.length_cons]; omega)
    rw [e1, e2]; rfl
theorem choose_hi {v : View} {l : List Rpt} {own : List Int} (h0 : gateB v l own = false) (h1 : decide (0 < (l.getD (hiAt l l.length) rpt0).rank) = true) : chooseR v l own = ((l.getD (hiAt l l.length) rpt0).cut, true) := by
  simp only [chooseR, h0, h1, cond_false, cond_true]
theorem dat_view {n : Nat} {r : List DV} (h : Dat tt (n + 3) 24 r) : ∃ a : View, r = viewE a ∧ a.mem.length ≤ maxLen := by
  obtain ⟨p, q, rfl, ⟨np, rfl, _⟩, l, s, rfl, hl, rfl⟩ := h
  obtain ⟨l, rfl, hll⟩ := dat_ints (n := n) hl
  exact ⟨⟨np, l⟩, rfl, hll⟩
end Go.Proofs.Ytmbniilpgbjcfaa

set_option maxRecDepth 100000
namespace Go.Proofs.Ytmbniilpgbjcfaa
open Go.Lift
structure Agr where
  self : Int
  view : View
  acc : Acc
  prop : List Int
  box : List Bal
  rank : Int
  phase : Int
  reps : List Rpt
  cho : List Int
  accs : List Rpt
  dec : List Int
  wait : Int
structure Msg where
  kind : Int
  view : Int
  src : Int
  rank : Int
  last : Int
  cut : List Int
structure Pkt where
  to : Int
  m : Msg
def agrE (s : Agr) : List DV := [i64 s.self, i64 s.view.num, .lst 1 (s.view.mem.map intE) false, i64 s.acc.pro, i64 s.acc.rank, .lst 1 (s.acc.cut.map intE) false, .lst 1 (s.prop.map intE) false, .lst 2 (s.box.map balE) false, i64 s.rank, i64 s.phase, .lst 3 (s.reps.map rptE) false, .lst 1 (s.cho.map intE) false, .lst 3 (s.accs.map rptE) false, .lst 1 (s.dec.map intE) false, i64 s.wait]
def msgE (m : Msg) : List DV := [i64 m.kind, i64 m.view, i64 m.src, i64 m.rank, i64 m.last, .lst 1 (m.cut.map intE) false]
def pktE (p : Pkt) : List DV := [i64 p.to, i64 p.m.kind, i64 p.m.view, i64 p.m.src, i64 p.m.rank, i64 p.m.last, .lst 1 (p.m.cut.map intE) false]
def appB (v : View) (c : List Int) : Bool := decide ((nextR v c).2 = 0)
def properB (v : View) (r : Int) : Bool := !decide (ownerOf r = 0) && inB v.mem (ownerOf r)
def goodB (v : View) (c : List Int) : Bool := decide ((c.length : Int) = 0) || appB v c
theorem c_agreement_proper (v : View) (hv : v.mem.length ≤ maxLen) (r : Int) : Ret Try.prog 38 [.agg (viewE v), i64 r] (.v (.bool (properB v r))) := by
  refine ret_of_body (fn := Try.f38) (c := Try.f38.body.getD .skip) hm hT (by kernel_rfl) Try.func38 (by kernel_rfl) (by kernel_rfl) (by kernel_rfl) (by kernel_rfl) ?_
  repeat' ((conv => whnf); first | refine And.intro (fun h => h) ?_ | refine dcond_t (by assumption) ?_ | refine dcond_f (by assumption) ?_ | (refine dcond_intro ?_ ?_ <;> intro h) | exact .refl | refine And.intro (by kernel_rfl) ?_ | refine And.intro ⟨fun h => h, fun h => h⟩ ?_ | refine .inl ⟨_, _, DleAll_refl _, c_paxos_Owner _, ?_⟩ | refine ⟨_, _, DleAll_refl _, fun _ => c_paxos_Owner _, ?_⟩ | refine ⟨_, _, DleAll_refl _, c_paxos_Owner _, ?_⟩ | refine .inl ⟨_, _, DleAll_refl _, c_view_Contains _ hv _, ?_⟩ | refine ⟨_, _, DleAll_refl _, fun _ => c_view_Contains _ hv _, ?_⟩ | refine ⟨_, _, DleAll_refl _, c_view_Contains _ hv _, ?_⟩ | refine Exists.intro false ?_ | (refine And.intro ?_ ?_; focus (simp; done)) | fail)
theorem c_agreement_applicable (v : View) (hv : v.mem.length ≤ 500000) (cut : List Int) (hc : cut.length ≤ 500000) : Ret Try.prog 55 [.agg (viewE v), .lst 1 (cut.map intE) false] (.v (.bool (appB v cut))) := by
  refine ret_of_body (fn := Try.f55) (c := Try.f55.body.getD .skip) hm hT (by kernel_rfl) Try.func55 (by kernel_rfl) (by kernel_rfl) (by kernel_rfl) (by kernel_rfl) ?_
  repeat' ((conv => whnf); first | refine And.intro (fun h => h) ?_ | refine dcond_t (by assumption) ?_ | refine dcond_f (by assumption) ?_ | (refine dcond_intro ?_ ?_ <;> intro h) | exact .refl | refine And.intro (by kernel_rfl) ?_ | refine And.intro ⟨fun h => h, fun h => h⟩ ?_ | refine .inl ⟨_, _, DleAll_refl _, c_view_Next _ hv _ hc, ?_⟩ | refine ⟨_, _, DleAll_refl _, fun _ => c_view_Next _ hv _ hc, ?_⟩ | refine ⟨_, _, DleAll_refl _, c_view_Next _ hv _ hc, ?_⟩ | refine Exists.intro false ?_ | (refine And.intro ?_ ?_; focus (simp; done)) | fail)
theorem c_fastvote_applicable (v : View) (hv : v.mem.length ≤ 500000) (cut : List Int) (hc : cut.length ≤ 500000) : Ret Try.prog 74 [.agg (viewE v), .lst 1 (cut.map intE) false] (.v (.bool (appB v cut))) := by
  refine ret_of_body (fn := Try.f74) (c := Try.f74.body.getD .skip) hm hT (by kernel_rfl) Try.func74 (by kernel_rfl) (by kernel_rfl) (by kernel_rfl) (by kernel_rfl) ?_
  repeat' ((conv => whnf); first | refine And.intro (fun h => h) ?_ | refine dcond_t (by assumption) ?_ | refine dcond_f (by assumption) ?_ | (refine dcond_intro ?_ ?_ <;> intro h) | exact .refl | refine And.intro (by kernel_rfl) ?_ | refine And.intro ⟨fun h => h, fun h => h⟩ ?_ | refine .inl ⟨_, _, DleAll_refl _, c_view_Next _ hv _ hc, ?_⟩ | refine ⟨_, _, DleAll_refl _, fun _ => c_view_Next _ hv _ hc, ?_⟩ | refine ⟨_, _, DleAll_refl _, c_view_Next _ hv _ hc, ?_⟩ | refine Exists.intro false ?_ | (refine And.intro ?_ ?_; focus (simp; done)) | fail)
theorem c_agreement_optional (v : View) (hv : v.mem.length ≤ 500000) (cut : List Int) (hc : cut.length ≤ 500000) : Ret Try.prog 39 [.agg (viewE v), .lst 1 (cut.map intE) false] (.v (.bool (goodB v cut))) := by
  have e : goodB v cut = (decide (((cut.map intE).length : Int) = 0) || appB v cut) := by rw [List.length_map]; rfl
  rw [e]
  refine ret_of_body (fn := Try.f39) (c := Try.f39.body.getD .skip) hm hT (by kernel_rfl) Try.func39 (by kernel_rfl) (by kernel_rfl) (by kernel_rfl) (by kernel_rfl) ?_
  repeat' ((conv => whnf); first | refine And.intro (fun h => h) ?_ | refine dcond_t (by assumption) ?_ | refine dcond_f (by assumption) ?_ | (refine dcond_intro ?_ ?_ <;> intro h) | exact .refl | refine And.intro (by kernel_rfl) ?_ | refine And.intro ⟨fun h => h, fun h => h⟩ ?_ | refine .inl ⟨_, _, DleAll_refl _, c_agreement_applicable _ hv _ hc, ?_⟩ | refine ⟨_, _, DleAll_refl _, fun _ => c_agreement_applicable _ hv _ hc, ?_⟩ | refine ⟨_, _, DleAll_refl _, c_agreement_applicable _ hv _ hc, ?_⟩ | refine Exists.intro false ?_ | (refine And.intro ?_ ?_; focus (simp; done)) | fail)
theorem c_agreement_clone (l : List Int) (hl : l.length ≤ 1000000) : Ret Try.prog 29 [.lst 1 (l.map intE) false] (.lst 1 (l.map intE) false) := by
  have hby : (l.map intE).length * (tinfo tt 3).bytes ≤ 140737488355328 := by
    have e : (tinfo tt 3).bytes = 8 := by kernel_rfl
    rw [e]; simp; omega
  have hmx : (l.map intE).length ≤ maxLen := by simp only [maxLen]; simp; omega
  refine ret_of_body (fn := Try.f29) (c := Try.f29.body.getD .skip) hm hT (by kernel_rfl) Try.func29 (by kernel_rfl) (by kernel_rfl) (by kernel_rfl) (by kernel_rfl) ?_
  repeat' ((conv => whnf); first | refine And.intro (fun h => h) ?_ | refine dcond_t (by assumption) ?_ | refine dcond_f (by assumption) ?_ | (refine dcond_intro ?_ ?_ <;> intro h) | exact .refl | refine And.intro (by kernel_rfl) ?_ | refine And.intro ⟨fun h => h, fun h => h⟩ ?_ | refine ⟨(l.map intE).length, (l.map intE).length, rfl, rfl, Nat.le_refl _, hby, hmx, ?_⟩ | refine Exists.intro false ?_ | (refine And.intro ?_ ?_; focus (simp; done)) | fail)
  all_goals (conv => whnf)
  refine dle_lst ?_
  simp
  exact List.take_of_length_le (by simp)
def agr0 : Agr := ⟨0, ⟨0, []⟩, ⟨0, 0, []⟩, [], [], 0, 0, [], [], [], [], 0⟩
def newA (v : View) (self : Int) : Agr × Int := bif !viewB v || !inB v.mem self then (agr0, 1) else (⟨self, v, ⟨0, -1, []⟩, [], [], 0, 0, [], [], [], [], 0⟩, 0)
theorem c_agreement_New (v : View) (hv : v.mem.length ≤ 500000) (self : Int) : Ret Try.prog 9 [.agg (viewE v), i64 self] (.tup [.agg (agrE (newA v self).1), i64 (newA v self).2]) := by
  have h1 : v.mem.length ≤ maxLen := Nat.le_trans hv (by decide)
  refine ret_of_body (fn := Try.f9) (c := Try.f9.body.getD .skip) hm hT (by kernel_rfl) Try.func9 (by kernel_rfl) (by kernel_rfl) (by kernel_rfl) (by kernel_rfl) ?_
  repeat' ((conv => whnf); first | refine And.intro (fun h => h) ?_ | refine dcond_t (by assumption) ?_ | refine dcond_f (by assumption) ?_ | (refine dcond_intro ?_ ?_ <;> intro h) | exact .refl | refine And.intro (by kernel_rfl) ?_ | refine And.intro ⟨fun h => h, fun h => h⟩ ?_ | refine .inl ⟨_, _, DleAll_refl _, c_view_Valid _ h1, ?_⟩ | refine ⟨_, _, DleAll_refl _, fun _ => c_view_Valid _ h1, ?_⟩ | refine ⟨_, _, DleAll_refl _, c_view_Valid _ h1, ?_⟩ | refine .inl ⟨_, _, DleAll_refl _, c_view_Contains _ h1 _, ?_⟩ | refine ⟨_, _, DleAll_refl _, fun _ => c_view_Contains _ h1 _, ?_⟩ | refine ⟨_, _, DleAll_refl _, c_view_Contains _ h1 _, ?_⟩ | refine .inl ⟨_, _, DleAll_refl _, c_agreement_clone _ (by omega), ?_⟩ | refine ⟨_, _, DleAll_refl _, fun _ => c_agreement_clone _ (by omega), ?_⟩ | refine ⟨_, _, DleAll_refl _, c_agreement_clone _ (by omega), ?_⟩ | refine .inl ⟨_, _, DleAll_refl _, c_paxos_Fresh, ?_⟩ | refine ⟨_, _, DleAll_refl _, fun _ => c_paxos_Fresh, ?_⟩ | refine ⟨_, _, DleAll_refl _, c_paxos_Fresh, ?_⟩ | refine Exists.intro false ?_ | (refine And.intro ?_ ?_; focus (simp; done)) | fail)
  all_goals (conv => whnf)
  all_goals simp only [newA, h, cond_true, cond_false]
  · exact dle_tupA ⟨dle_aggA ⟨.refl, .refl, .nl, .refl, .refl, .nl, .nl, .nl, .refl, .refl, .nl, .nl, .nl, .nl, .refl, trivial⟩, .refl, trivial⟩
  · exact dle_tupA ⟨dle_aggA ⟨.refl, .refl, .refl, .refl, .refl, .refl, .nl, .nl, .refl, .refl, .nl, .nl, .nl, .nl, .refl, trivial⟩, .refl, trivial⟩
def vmB (v : View) (m : Msg) : Bool :=
  bif !viewB v || !inB v.mem m.src || !decide (m.view = v.num) then false
  else bif decide (m.kind = 1) || decide (m.kind = 6) then decide (m.rank = 0) && decide (m.last = 0) && appB v m.cut
  else bif decide (m.kind = 2) then properB v m.rank && decide (ownerOf m.rank = m.src) && decide (m.last = 0) && decide ((m.cut.length : Int) = 0)
  else bif decide (m.kind = 3) then properB v m.rank && !decide (m.rank < m.last) && (decide (m.last = -1) && decide ((m.cut.length : Int) = 0) || (decide (m.last = 0) || properB v m.last) && appB v m.cut)
  else bif decide (m.kind = 4) then properB v m.rank && decide (ownerOf m.rank = m.src) && decide (m.last = 0) && appB v m.cut
  else bif decide (m.kind = 5) then properB v m.rank && decide (m.last = 0) && appB v m.cut
  else false

theorem c_agreement_ValidMessage (v : View) (hv : v.mem.length ≤ 500000) (m : Msg) (hc : m.cut.length ≤ 500000) : Ret Try.prog 14 [.agg (viewE v), .agg (msgE m)] (.v (.bool (vmB v m))) := by
  have h1 : v.mem.length ≤ maxLen := Nat.le_trans hv (by decide)
  have e0 : ((m.cut.map intE).length : Int) = (m.cut.length : Int) := by rw [List.length_map]
  refine ret_of_body (fn := Try.f14) (c := Try.f14.body.getD .skip) hm hT (by kernel_rfl) Try.func14 (by kernel_rfl) (by kernel_rfl) (by kernel_rfl) (by kernel_rfl) ?_
  repeat' ((conv => whnf); first | refine And.intro (fun h => h) ?_ | refine dcond_t (by assumption) ?_ | refine dcond_f (by assumption) ?_ | (refine dcond_intro ?_ ?_ <;> intro h) | exact .refl | refine And.intro (by kernel_rfl) ?_ | refine And.intro ⟨fun h => h, fun h => h⟩ ?_ | refine .inl ⟨_, _, DleAll_refl _, c_view_Valid _ h1, ?_⟩ | refine ⟨_, _, DleAll_refl _, fun _ => c_view_Valid _ h1, ?_⟩ | refine ⟨_, _, DleAll_refl _, c_view_Valid _ h1, ?_⟩ | refine .inl ⟨_, _, DleAll_refl _, c_view_Contains _ h1 _, ?_⟩ | refine ⟨_, _, DleAll_refl _, fun _ => c_view_Contains _ h1 _, ?_⟩ | refine ⟨_, _, DleAll_refl _, c_view_Contains _ h1 _, ?_⟩ | refine .inl ⟨_, _, DleAll_refl _, c_agreement_applicable _ hv _ hc, ?_⟩ | refine ⟨_, _, DleAll_refl _, fun _ => c_agreement_applicable _ hv _ hc, ?_⟩ | refine ⟨_, _, DleAll_refl _, c_agreement_applicable _ hv _ hc, ?_⟩ | refine .inl ⟨_, _, DleAll_refl _, c_agreement_proper _ h1 _, ?_⟩ | refine ⟨_, _, DleAll_refl _, fun _ => c_agreement_proper _ h1 _, ?_⟩ | refine ⟨_, _, DleAll_refl _, c_agreement_proper _ h1 _, ?_⟩ | refine .inl ⟨_, _, DleAll_refl _, c_paxos_Owner _, ?_⟩ | refine ⟨_, _, DleAll_refl _, fun _ => c_paxos_Owner _, ?_⟩ | refine ⟨_, _, DleAll_refl _, c_paxos_Owner _, ?_⟩ | refine Exists.intro false ?_ | (refine And.intro ?_ ?_; focus (simp; done)) | fail)
  all_goals (conv => whnf)
  all_goals (refine dle_bool ?_)
  all_goals (try rw [e0])
  all_goals (try rw [e0] at *)
  all_goals (simp only [vmB, *, cond_true, cond_false, Bool.true_or, Bool.or_true, Bool.or_self, Bool.false_or])
  · have h9 : (properB v m.rank && !decide (m.rank < m.last)) = false := by
      cases hp : properB v m.rank <;> cases hd : decide (m.rank < m.last) <;> simp_all
    rw [h9, Bool.false_and]
  · have h9 : (properB v m.rank && !decide (m.rank < m.last)) = true := by
      cases hp : properB v m.rank <;> cases hd : decide (m.rank < m.last) <;> simp_all
    rw [h9, Bool.true_and]
end Go.Proofs.Ytmbniilpgbjcfaa

set_option maxRecDepth 100000
namespace Go.Proofs.Ytmbniilpgbjcfaa
open Go.Lift
def bal0 : Bal := ⟨0, []⟩
def okBal (v : View) (l : List Bal) (i : Nat) : Bool := !(!inB v.mem (l.getD i bal0).mem || decide (0 < (i : Int)) && decide ((l.getD i bal0).mem ≤ (l.getD (i - 1) bal0).mem) || !appB v (l.getD i bal0).cut)
def boxB (v : View) (l : List Bal) : Bool := viewB v && allB (okBal v l) l.length
theorem box_iff {v : View} (hv : viewB v = true) {l : List Bal} : boxB v l = true ↔ (∀ b ∈ l, inB v.mem b.mem = true ∧ appB v b.cut = true) ∧ List.Pairwise (fun a b : Bal => a.mem < b.mem) l := by
  rw [boxB, hv, Bool.true_and, allB_true]
  have hok : ∀ i (hi : i < l.length), okBal v l i = true ↔ (inB v.mem l[i].mem = true ∧ appB v l[i].cut = true) ∧ (0 < i → (l.getD (i - 1) bal0).mem < l[i].mem) := by
    intro i hi
    have hg : l.getD i bal0 = l[i] := by simp [hi]
    simp only [okBal, hg, Bool.not_eq_true', Bool.or_eq_false_iff, Bool.not_eq_false', Bool.and_eq_false_iff, decide_eq_false_iff_not]
    constructor
    · rintro ⟨⟨h1, h2⟩, h3⟩
      refine ⟨⟨h1, h3⟩, fun h0 => ?_⟩
      rcases h2 with h2 | h2 <;> omega
    · rintro ⟨⟨h1, h3⟩, h2⟩
      refine ⟨⟨h1, ?_⟩, h3⟩
      by_cases h0 : 0 < i
      · have := h2 h0
        right; omega
      · left; omega
  constructor
  · intro h
    have h1 : ∀ i (hi : i < l.length), (inB v.mem l[i].mem = true ∧ appB v l[i].cut = true) ∧ (0 < i → (l.getD (i - 1) bal0).mem < l[i].mem) := fun i hi => (hok i hi).1 (h i hi)
    refine ⟨fun r hr => ?_, ?_⟩
    · obtain ⟨i, hi, rfl⟩ := List.getElem_of_mem hr
      exact (h1 i hi).1
    · rw [List.pairwise_iff_getElem]
      intro i j hi hj hij
      obtain ⟨d, rfl⟩ : ∃ d, j = i + 1 + d := ⟨j - (i + 1), by omega⟩
      clear hij
      induction d with
      | zero =>
        have := (h1 (i + 1) hj).2 (by omega)
        simpa [hi] using this
      | succ d ih =>
        have hj2 : i + 1 + d < l.length := by omega
        have k1 := ih hj2
        have k2 := (h1 (i + 1 + (d + 1)) hj).2 (by omega)
        have e2 : l.getD (i + 1 + (d + 1) - 1) bal0 = l[i + 1 + d] := by
          have : i + 1 + (d + 1) - 1 = i + 1 + d := by omega
          rw [this]; simp [hj2]
        rw [e2] at k2
        omega
  · rintro ⟨h1, h2⟩ i hi
    refine (hok i hi).2 ⟨h1 _ (List.getElem_mem hi), fun h0 => ?_⟩
    have hi2 : i - 1 < l.length := by omega
    have := List.pairwise_iff_getElem.1 h2 (i - 1) i hi2 hi (by omega)
    simpa [hi2] using this
def frontB : List Bal → Int → Nat
  | [], _ => 0
  | r :: l, m => if r.mem < m then frontB l m + 1 else 0
def insB (l : List Bal) (r : Bal) : List Bal := l.take (frontB l r.mem) ++ [r] ++ l.drop (frontB l r.mem)
def ofBal (l : List Bal) (x : Int) : Int := findB (fun i => decide ((l.getD i bal0).mem = x)) l.length
theorem frontB_le (l : List Bal) (m : Int) : frontB l m ≤ l.length := by
  induction l with
  | nil => exact Nat.le_refl _
  | cons r l ih => simp only [frontB, List.length_cons]; split <;> omega
theorem frontB_lt {m : Int} : ∀ {l : List Bal} {i : Nat}, i < frontB l m → (hl : i < l.length) → l[i].mem < m
  | r :: l, i, h, hl => by
    simp only [frontB] at h
    split at h
    · rename_i hr
      cases i with
      | zero => exact hr
      | succ i => exact frontB_lt (l := l) (by omega) (by simpa using hl)
    · omega
theorem insB_len (l : List Bal) (r : Bal) : (insB l r).length = l.length + 1 := by
  have := frontB_le l r.mem
  simp [insB]; omega
theorem insB_mem {l : List Bal} {r x : Bal} (h : x ∈ insB l r) : x = r ∨ x ∈ l := by
  simp only [insB, List.mem_append, List.mem_singleton] at h
  rcases h with (h | h) | h
  · exact .inr (List.mem_of_mem_take h)
  · exact .inl h
  · exact .inr (List.mem_of_mem_drop h)
def putB (l : List Bal) (r : Bal) (i : Nat) : List Bal := bif decide (frontB l r.mem < i) then l.take (frontB l r.mem) ++ [r] ++ (l.take i).drop (frontB l r.mem) else l.take i
theorem putb_len (l : List Bal) (r : Bal) (i : Nat) : (putB l r i).length ≤ i + 1 := by
  have := frontB_le l r.mem
  unfold putB
  cases h : decide (frontB l r.mem < i) <;> simp at h <;> simp <;> omega
theorem frontb_ge {m : Int} : ∀ {l : List Bal} (h : frontB l m < l.length), m ≤ l[frontB l m].mem
  | r :: l, h => by
    by_cases hr : r.mem < m
    · have e : frontB (r :: l) m = frontB l m + 1 := by simp [frontB, hr]
      have h2 : frontB l m < l.length := by rw [e] at h; simpa using h
      have := frontb_ge h2
      simp only [e]
      simpa using this
    · have e : frontB (r :: l) m = 0 := by simp [frontB, hr]
      simp only [e]
      simpa using hr
theorem putb_now {l : List Bal} {r : Bal} {i : Nat} (hi : i < l.length) (h : (!decide (frontB l r.mem < i) && decide (r.mem ≤ l[i].mem)) = true) : frontB l r.mem = i := by
  simp only [Bool.and_eq_true, Bool.not_eq_true', decide_eq_false_iff_not, decide_eq_true_eq] at h
  rcases Nat.lt_or_ge i (frontB l r.mem) with h1 | h1
  · have := frontB_lt h1 hi
    omega
  · omega
theorem putb_not {l : List Bal} {r : Bal} {i : Nat} (hi : i < l.length) (h : (!decide (frontB l r.mem < i) && decide (r.mem ≤ l[i].mem)) = false) : frontB l r.mem ≠ i := by
  intro e
  have h1 := frontb_ge (l := l) (m := r.mem) (by omega)
  simp only [Bool.and_eq_false_iff, Bool.not_eq_false', decide_eq_false_iff_not, decide_eq_true_eq] at h
  rcases h with h | h
  · omega
  · subst e; exact h h1
theorem putb_step1 {l : List Bal} {r : Bal} {i : Nat} (hi : i < l.length) (h : frontB l r.mem = i) : putB l r i ++ [r] ++ [l[i]] = putB l r (i + 1) := by
  have e1 : decide (frontB l r.mem < i) = false := by simp; omega
  have e2 : decide (frontB l r.mem < i + 1) = true := by simp; omega
  simp only [putB, e1, e2, cond_true, cond_false, h]
  rw [List.take_succ_eq_append_getElem hi, List.drop_append_of_le_length (by simp; omega)]
  simp
theorem putb_step2 {l : List Bal} {r : Bal} {i : Nat} (hi : i < l.length) (h : frontB l r.mem ≠ i) : putB l r i ++ [l[i]] = putB l r (i + 1) := by
  rcases Nat.lt_or_ge (frontB l r.mem) i with h1 | h1
  · have e1 : decide (frontB l r.mem < i) = true := by simp; omega
    have e2 : decide (frontB l r.mem < i + 1) = true := by simp; omega
    simp only [putB, e1, e2, cond_true]
    rw [List.take_succ_eq_append_getElem hi, List.drop_append_of_le_length (by simp; omega)]
    simp
  · have e1 : decide (frontB l r.mem < i) = false := by simp; omega
    have e2 : decide (frontB l r.mem < i + 1) = false := by simp; omega
    simp only [putB, e1, e2, cond_false]
    rw [List.take_succ_eq_append_getElem hi]
theorem putb_end1 {l : List Bal} {r : Bal} (h : decide (frontB l r.mem < l.length) = true) : putB l r l.length = insB l r := by
  simp only [putB, h, cond_true, insB, List.take_length]
theorem putb_end2 {l : List Bal} {r : Bal} (h : decide (frontB l r.mem < l.length) = false) : putB l r l.length ++ [r] = insB l r := by
  have := frontB_le l r.mem
  have e : frontB l r.mem = l.length := by simp at h; omega
  simp only [putB, h, cond_false, insB]
  simp [e]
theorem putb_flag {l : List Bal} {r : Bal} {i : Nat} (h : frontB l r.mem ≠ i) : decide (frontB l r.mem < i) = decide (frontB l r.mem < i + 1) := by
  by_cases h1 : frontB l r.mem < i
  · have h2 : frontB l r.mem < i + 1 := by omega
    simp [h1, h2]
  · have h2 : ¬ frontB l r.mem < i + 1 := by omega
    simp [h1, h2]
theorem insb_pair {l : List Bal} {r : Bal} (hp : List.Pairwise (fun a b : Bal => a.mem < b.mem) l) : List.Pairwise (fun a b : Bal => a.mem < b.mem) (insB l r) ↔ ∀ x ∈ l, x.mem ≠ r.mem := by
  induction l with
  | nil => simp [insB]
  | cons y l ih =>
    rw [List.pairwise_cons] at hp
    by_cases hy : y.mem < r.mem
    · have e : insB (y :: l) r = y :: insB l r := by simp [insB, frontB, hy]
      have hm : ∀ z, z ∈ insB l r ↔ z = r ∨ z ∈ l := fun z => by
        constructor
        · exact insB_mem
        · intro h
          simp only [insB, List.mem_append, List.mem_singleton]
          rcases h with rfl | h
          · exact .inl (.inr rfl)
          · rw [← List.take_append_drop (frontB l r.mem) l, List.mem_append] at h
            rcases h with h | h
            · exact .inl (.inl h)
            · exact .inr h
      rw [e, List.pairwise_cons, ih hp.2]
      constructor
      · rintro ⟨h1, h2⟩ x hx
        rcases List.mem_cons.1 hx with rfl | hx
        · omega
        · exact h2 x hx
      · intro h
        refine ⟨fun z hz => ?_, fun x hx => h x (List.mem_cons_of_mem _ hx)⟩
        rcases (hm z).1 hz with rfl | hz
        · exact hy
        · exact hp.1 z hz
    · have e : insB (y :: l) r = r :: y :: l := by simp [insB, frontB, hy]
      rw [e, List.pairwise_cons]
      constructor
      · rintro ⟨h1, h2⟩ x hx he
        have := h1 x hx
        omega
      · intro h
        refine ⟨fun z hz => ?_, List.pairwise_cons.2 hp⟩
        have h0 := h y (by simp)
        rcases List.mem_cons.1 hz with rfl | hz
        · omega
        · have := hp.1 z hz
          omega
theorem ofb_neg {l : List Bal} {x : Int} (h : decide (0 ≤ ofBal l x) = false) : ∀ r ∈ l, r.mem ≠ x := by
  intro r hr e
  obtain ⟨i, hi, rfl⟩ := List.getElem_of_mem hr
  have hp : ∃ n, findB (fun i => decide ((l.getD i bal0).mem = x)) l.length = ((n : Nat) : Int) := by
    rcases hf : (List.range l.length).find? (fun i => decide ((l.getD i bal0).mem = x)) with _ | n
    · have := List.find?_eq_none.1 hf i (List.mem_range.2 hi)
      simp [hi, e] at this
    · exact ⟨n, by simp only [findB, hf]⟩
  obtain ⟨n, hn⟩ := hp
  simp only [ofBal, hn, decide_eq_false_iff_not] at h
  omega
theorem ofb_pos {l : List Bal} {x : Int} (h : decide (0 ≤ ofBal l x) = true) : ∃ r ∈ l, r.mem = x := by
  refine Classical.byContradiction fun hn => ?_
  have hall : ∀ j, j < l.length → decide ((l.getD j bal0).mem = x) = false := fun j hj => by
    simp only [List.getD_eq_getElem?_getD, List.getElem?_eq_getElem hj, Option.getD_some, decide_eq_false_iff_not]
    exact fun e => hn ⟨_, List.getElem_mem hj, e⟩
  rw [ofBal, findB_none hall] at h
  cases h
def castR (v : View) (l : List Bal) (b : Bal) : List Bal × Int :=
  bif !boxB v l || !appB v b.cut then ([], 1)
  else bif !inB v.mem b.mem then ([], 6)
  else bif decide (0 ≤ ofBal l b.mem) then ([], 7)
  else (insB l b, 0)
def winR (v : View) (l : List Bal) : List Int × Bool :=
  bif !boxB v l then ([], false)
  else match l.find? (fun b => decide (fastB v.mem.length ≤ (votesN l b.cut : Int))) with
    | some b => (b.cut, true)
    | none => ([], false)
end Go.Proofs.Ytmbniilpgbjcfaa

set_option maxRecDepth 100000
namespace Go.Proofs.Ytmbniilpgbjcfaa
open Go.Lift
theorem c_slices_Clone_int (l : List Int) (hl : l.length ≤ 1000000) : Ret Try.prog 88 [.lst 1 (l.map intE) false] (.lst 1 (l.map intE) false) := by
  refine ret_of_body (fn := Try.f88) (c := Try.f88.body.getD .skip) hm hT (by kernel_rfl) Try.func88 (by kernel_rfl) (by kernel_rfl) (by kernel_rfl) (by kernel_rfl) ?_
  repeat' ((conv => whnf); first | refine And.intro (fun h => h) ?_ | refine dcond_t (by assumption) ?_ | refine dcond_f (by assumption) ?_ | (refine dcond_intro ?_ ?_ <;> intro h) | exact .refl | refine And.intro (by kernel_rfl) ?_ | refine And.intro ⟨fun h => h, fun h => h⟩ ?_ | refine Exists.intro false ?_ | (refine And.intro ?_ ?_; focus (simp; done)) | fail)
  refine And.intro (fun hnil => ?_) ?_
  · repeat' ((conv => whnf); first | refine And.intro (fun h => h) ?_ | refine dcond_t (by assumption) ?_ | refine dcond_f (by assumption) ?_ | (refine dcond_intro ?_ ?_ <;> intro h) | exact .refl | refine And.intro (by kernel_rfl) ?_ | refine And.intro ⟨fun h => h, fun h => h⟩ ?_ | refine Exists.intro false ?_ | (refine And.intro ?_ ?_; focus (simp; done)) | fail)
    all_goals (conv => whnf)
    rw [hnil]
    exact .nl
  · repeat' ((conv => whnf); first | refine And.intro (fun h => h) ?_ | refine dcond_t (by assumption) ?_ | refine dcond_f (by assumption) ?_ | (refine dcond_intro ?_ ?_ <;> intro h) | exact .refl | refine And.intro (by kernel_rfl) ?_ | refine And.intro ⟨fun h => h, fun h => h⟩ ?_ | refine Exists.intro false ?_ | (refine And.intro ?_ ?_; focus (simp; done)) | fail)
    all_goals (conv => whnf)
    refine And.intro (fitsI (by simp; omega)) ?_
    repeat' ((conv => whnf); first | refine And.intro (fun h => h) ?_ | refine dcond_t (by assumption) ?_ | refine dcond_f (by assumption) ?_ | (refine dcond_intro ?_ ?_ <;> intro h) | exact .refl | refine And.intro (by kernel_rfl) ?_ | refine And.intro ⟨fun h => h, fun h => h⟩ ?_ | refine Exists.intro false ?_ | (refine And.intro ?_ ?_; focus (simp; done)) | fail)
theorem c_fastvote_Valid (v : View) (hv : v.mem.length ≤ 500000) (l : List Bal) (hl : l.length ≤ maxLen) (hc : ∀ r ∈ l, r.cut.length ≤ 500000) : Ret Try.prog 40 [.agg (viewE v), .lst 2 (l.map balE) false] (.v (.bool (boxB v l))) := by
  have hl' : l.length ≤ 9223372036854775807 := hl
  have h1 : v.mem.length ≤ maxLen := Nat.le_trans hv (by decide)
  refine ret_of_body (fn := Try.f40) (c := Try.f40.body.getD .skip) hm hT (by kernel_rfl) Try.func40 (by kernel_rfl) (by kernel_rfl) (by kernel_rfl) (by kernel_rfl) ?_
  repeat' ((conv => whnf); first | refine And.intro (fun h => h) ?_ | refine dcond_t (by assumption) ?_ | refine dcond_f (by assumption) ?_ | (refine dcond_intro ?_ ?_ <;> intro h) | exact .refl | refine And.intro (by kernel_rfl) ?_ | refine And.intro ⟨fun h => h, fun h => h⟩ ?_ | refine .inl ⟨_, _, DleAll_refl _, c_view_Valid _ h1, ?_⟩ | refine ⟨_, _, DleAll_refl _, fun _ => c_view_Valid _ h1, ?_⟩ | refine ⟨_, _, DleAll_refl _, c_view_Valid _ h1, ?_⟩ | refine Exists.intro false ?_ | (refine And.intro ?_ ?_; focus (simp; done)) | fail)
  · refine dle_bool ?_
    have h : viewB v = false := by simpa using h
    simp [boxB, h]
  · have hvw : viewB v = true := by simpa using h
    clear h
    conv => whnf
    refine ⟨Nat, fun i => ⟨[(1, .lst 2 (l.map balE) false), (2, .lp 0 0), (10, .lst 2 (l.map balE) false), (11, i64 (l.map balE).length), (12, i64 i)], [.cells 24 (viewE v)]⟩, fun i => i ≤ l.length ∧ ∀ j, j < i → okBal v l j = true, fun i => l.length - i, [], ⟨0, ⟨Nat.zero_le _, by omega⟩, ?_⟩, ?_⟩
    · exact ⟨by repeat' ((conv => whnf); first | exact trivial | refine And.intro (by (conv => arg 1; whnf); first | (with_reducible exact .refl) | exact dle_int (wrap_succ (by omega)) | exact .refl) ?_), by repeat' ((conv => whnf); first | exact trivial | refine And.intro ?_ ?_ | exact .refl), rfl⟩
    · intro i ⟨hi, hall⟩
      repeat' ((conv => whnf); first | refine And.intro (fun h => h) ?_ | refine dcond_t (by assumption) ?_ | refine dcond_f (by assumption) ?_ | (refine dcond_intro ?_ ?_ <;> intro h) | exact .refl | refine And.intro (by kernel_rfl) ?_ | refine And.intro ⟨fun h => h, fun h => h⟩ ?_ | refine Exists.intro false ?_ | (refine And.intro ?_ ?_; focus (simp; done)) | fail)
      · have hlt : i < l.length := by simpa using h
        clear h
        have hg : l.getD i bal0 = l[i] := by simp [hlt]
        have e74 := c_fastvote_applicable v hv (l[i].cut) (hc _ (List.getElem_mem hlt))
        have hok : okBal v l i = !(!inB v.mem l[i].mem || decide (0 < (i : Int)) && decide (l[i].mem ≤ (l.getD (i - 1) bal0).mem) || !appB v l[i].cut) := by rw [okBal, hg]
        have hp : 0 < i → (IntKind.i64.wrap ((i : Int) - 1)) = ((i - 1 : Nat) : Int) ∧ (l.map balE)[i - 1]? = some (balE (l.getD (i - 1) bal0)) := by
          intro h0
          refine ⟨by rw [wrap_i64 (by omega) (by omega)]; omega, ?_⟩
          have : i - 1 < l.length := by omega
          simp [this]
        repeat' ((conv => whnf); first | refine And.intro (fun h => h) ?_ | refine dcond_t (by assumption) ?_ | refine dcond_f (by assumption) ?_ | (refine dcond_intro ?_ ?_ <;> intro h) | exact .refl | refine And.intro (by kernel_rfl) ?_ | refine And.intro ⟨fun h => h, fun h => h⟩ ?_ | refine ⟨_, _, And.intro ⟨rfl, get_map hlt⟩ ?_⟩ | refine .inl ⟨_, _, DleAll_refl _, c_view_Contains _ h1 _, ?_⟩ | refine ⟨_, _, DleAll_refl _, fun _ => c_view_Contains _ h1 _, ?_⟩ | refine ⟨_, _, DleAll_refl _, c_view_Contains _ h1 _, ?_⟩ | refine .inl ⟨_, _, DleAll_refl _, e74, ?_⟩ | refine ⟨_, _, DleAll_refl _, fun _ => e74, ?_⟩ | refine ⟨_, _, DleAll_refl _, e74, ?_⟩ | refine ⟨i - 1, balE (l.getD (i - 1) bal0), And.intro ⟨⟨fun h => h, fun h => h⟩, fun hg => hp (by have := ((Bool.and_eq_true ..).mp hg).2 <;> simpa using this)⟩ ?_⟩ | refine Exists.intro false ?_ | (refine And.intro ?_ ?_; focus (simp; done)) | fail)
        all_goals (conv => whnf)
        · refine dle_bool ?_
          have : okBal v l i = false := by rw [hok, h]; rfl
          rw [boxB, allB_false hlt this, Bool.and_false]
        · refine ⟨i + 1, ⟨hlt, fun j hj => ?_⟩, by simp only []; omega, ?_⟩
          · rcases Nat.lt_succ_iff_lt_or_eq.1 hj with hj | rfl
            · exact hall j hj
            · rw [hok, h]; rfl
          · exact ⟨by repeat' ((conv => whnf); first | exact trivial | refine And.intro (by (conv => arg 1; whnf); first | (with_reducible exact .refl) | exact dle_int (wrap_succ (by omega)) | exact .refl) ?_), by repeat' ((conv => whnf); first | exact trivial | refine And.intro ?_ ?_ | exact .refl), rfl⟩
      · have hge : ¬ i < l.length := by simpa using h
        conv => whnf
        refine dle_bool ?_
        rw [boxB, hvw, allB_true.2 (fun j hj => hall j (by omega))]
        rfl
def cutOf (l : List Bal) (x : Int) : List Int × Bool := bif decide (0 ≤ ofBal l x) then ((l.getD (ofBal l x).toNat bal0).cut, true) else ([], false)
theorem cutOf_at {l : List Bal} {x : Int} {i : Nat} (hlt : i < l.length) (h : decide (l[i].mem = x) = true) (hall : ∀ j, j < i → decide ((l.getD j bal0).mem = x) = false) : cutOf l x = (l[i].cut, true) := by
  have e : ofBal l x = (i : Int) := findB_at hlt (by simpa [hlt] using h) hall
  have e2 : decide (0 ≤ (i : Int)) = true := by simp
  simp only [cutOf, e, e2, cond_true, Int.toNat_natCast]
  simp [hlt]
theorem cutOf_none {l : List Bal} {x : Int} (hall : ∀ j, j < l.length → decide ((l.getD j bal0).mem = x) = false) : cutOf l x = ([], false) := by
  have e : ofBal l x = -1 := findB_none hall
  simp only [cutOf, e]
  rfl
theorem c_agreement_ballotOf (l : List Bal) (hl : l.length ≤ maxLen) (x : Int) : Ret Try.prog 41 [.lst 2 (l.map balE) false, .v (.int .i64 x)] (.tup [.lst 1 ((cutOf l x).1.map intE) false, .v (.bool (cutOf l x).2)]) := by
  have hl' : l.length ≤ 9223372036854775807 := hl
  refine ret_of_body (fn := Try.f41) (c := Try.f41.body.getD .skip) hm hT (by kernel_rfl) Try.func41 (by kernel_rfl) (by kernel_rfl) (by kernel_rfl) (by kernel_rfl) ?_
  repeat' ((conv => whnf); first | refine And.intro (fun h => h) ?_ | refine dcond_t (by assumption) ?_ | refine dcond_f (by assumption) ?_ | (refine dcond_intro ?_ ?_ <;> intro h) | exact .refl | refine And.intro (by kernel_rfl) ?_ | refine And.intro ⟨fun h => h, fun h => h⟩ ?_ | refine Exists.intro false ?_ | (refine And.intro ?_ ?_; focus (simp; done)) | fail)
  refine ⟨Nat, fun i => ⟨[(1, .v (.int .i64 x)), (8, .lst 2 (l.map balE) false), (9, i64 (l.map balE).length), (10, i64 i)], []⟩, fun i => i ≤ l.length ∧ ∀ j, j < i → decide ((l.getD j bal0).mem = x) = false, fun i => l.length - i, [], ⟨0, ⟨Nat.zero_le _, by omega⟩, ?_⟩, ?_⟩
  · exact ⟨by repeat' ((conv => whnf); first | exact trivial | refine And.intro (by (conv => arg 1; whnf); first | (with_reducible exact .refl) | exact dle_int (wrap_succ (by omega)) | exact .refl) ?_), by repeat' ((conv => whnf); first | exact trivial | refine And.intro ?_ ?_ | exact .refl), rfl⟩
  · intro i ⟨hi, hall⟩
    repeat' ((conv => whnf); first | refine And.intro (fun h => h) ?_ | refine dcond_t (by assumption) ?_ | refine dcond_f (by assumption) ?_ | (refine dcond_intro ?_ ?_ <;> intro h) | exact .refl | refine And.intro (by kernel_rfl) ?_ | refine And.intro ⟨fun h => h, fun h => h⟩ ?_ | refine Exists.intro false ?_ | (refine And.intro ?_ ?_; focus (simp; done)) | fail)
    · have hlt : i < l.length := by simpa using h
      clear h
      repeat' ((conv => whnf); first | refine And.intro (fun h => h) ?_ | refine dcond_t (by assumption) ?_ | refine dcond_f (by assumption) ?_ | (refine dcond_intro ?_ ?_ <;> intro h) | exact .refl | refine And.intro (by kernel_rfl) ?_ | refine And.intro ⟨fun h => h, fun h => h⟩ ?_ | refine ⟨_, _, And.intro ⟨rfl, get_map hlt⟩ ?_⟩ | refine Exists.intro false ?_ | (refine And.intro ?_ ?_; focus (simp; done)) | fail)
      all_goals (conv => whnf)
      · rw [cutOf_at hlt h hall]
        exact .refl
      · have h2 := h
        refine ⟨i + 1, ⟨hlt, fun j hj => ?_⟩, by simp only []; omega, ?_⟩
        · rcases Nat.lt_succ_iff_lt_or_eq.1 hj with hj | rfl
          · exact hall j hj
          · simpa [hlt] using h2
        · exact ⟨by repeat' ((conv => whnf); first | exact trivial | refine And.intro (by (conv => arg 1; whnf); first | (with_reducible exact .refl) | exact dle_int (wrap_succ (by omega)) | exact .refl) ?_), by repeat' ((conv => whnf); first | exact trivial | refine And.intro ?_ ?_ | exact .refl), rfl⟩
    · have hge : ¬ i < l.length := by simpa using h
      conv => whnf
      rw [cutOf_none (fun j hj => hall j (by omega))]
      exact dle_tupA ⟨.nl, .refl, trivial⟩
end Go.Proofs.Ytmbniilpgbjcfaa
