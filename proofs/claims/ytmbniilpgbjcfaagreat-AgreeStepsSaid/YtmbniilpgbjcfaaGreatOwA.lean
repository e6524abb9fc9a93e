/- The laws of this seat, part OwA: contracts of the functions, plain laws. No conditions. -/
import Derived.Test.YtmbniilpgbjcfaaGreatRows
import Derived.Test.YtmbniilpgbjcfaaGreatLfD
set_option maxRecDepth 100000
namespace Go.Proofs.YtmbniilpgbjcfaaGreat
open Go.Lift
def tt : TT := [(2, ⟨1, 8, false, [.v (.int .i64 0)], .int .i64⟩),
  (3, ⟨1, 8, false, [.v (.int .i64 0)], .int .i64⟩),
  (4, ⟨1, 1, false, [.v (.bool false)], .bool⟩),
  (5, ⟨1, 1, false, [.v (.int .u8 0)], .int .u8⟩),
  (9, ⟨1, 16, false, [.v (.string ⟨#[]⟩)], .str⟩),
  (21, ⟨1, 4, false, [.v (.int .i32 0)], .int .i32⟩),
  (22, ⟨1, 24, false, [.nl], .slc 3⟩),
  (23, ⟨2, 32, true, [.v (.int .i64 0), .nl], .st [(3, 0), (22, 1)]⟩),
  (24, ⟨2, 32, true, [.v (.int .i64 0), .nl], .st [(3, 0), (22, 1)]⟩),
  (25, ⟨3, 40, true, [.v (.int .i64 0), .v (.int .i64 0), .nl], .st [(3, 0), (3, 1), (22, 2)]⟩),
  (26, ⟨3, 40, true, [.v (.int .i64 0), .v (.int .i64 0), .nl], .st [(3, 0), (3, 1), (22, 2)]⟩),
  (27, ⟨1, 24, false, [.nl], .slc 63⟩),
  (28, ⟨1, 24, false, [.nl], .slc 51⟩),
  (29, ⟨15, 248, true, [.v (.int .i64 0), .v (.int .i64 0), .nl, .v (.int .i64 0), .v (.int .i64 0), .nl, .nl, .nl, .v (.int .i64 0), .v (.int .i64 0), .nl, .nl, .nl, .nl, .v (.int .i64 0)], .st [(3, 0), (24, 1), (26, 3), (22, 6), (27, 7), (3, 8), (3, 9), (28, 10), (22, 11), (28, 12), (22, 13), (3, 14)]⟩),
  (30, ⟨15, 248, true, [.v (.int .i64 0), .v (.int .i64 0), .nl, .v (.int .i64 0), .v (.int .i64 0), .nl, .nl, .nl, .v (.int .i64 0), .v (.int .i64 0), .nl, .nl, .nl, .nl, .v (.int .i64 0)], .st [(3, 0), (24, 1), (26, 3), (22, 6), (27, 7), (3, 8), (3, 9), (28, 10), (22, 11), (28, 12), (22, 13), (3, 14)]⟩),
  (31, ⟨6, 64, true, [.v (.int .i64 0), .v (.int .i64 0), .v (.int .i64 0), .v (.int .i64 0), .v (.int .i64 0), .nl], .st [(3, 0), (3, 1), (3, 2), (3, 3), (3, 4), (22, 5)]⟩),
  (32, ⟨6, 64, true, [.v (.int .i64 0), .v (.int .i64 0), .v (.int .i64 0), .v (.int .i64 0), .v (.int .i64 0), .nl], .st [(3, 0), (3, 1), (3, 2), (3, 3), (3, 4), (22, 5)]⟩),
  (35, ⟨1, 24, false, [.nl], .slc 48⟩),
  (36, ⟨1, 8, false, [.v (.int .i64 0)], .int .i64⟩),
  (47, ⟨7, 72, true, [.v (.int .i64 0), .v (.int .i64 0), .v (.int .i64 0), .v (.int .i64 0), .v (.int .i64 0), .v (.int .i64 0), .nl], .st [(3, 0), (32, 1)]⟩),
  (48, ⟨7, 72, true, [.v (.int .i64 0), .v (.int .i64 0), .v (.int .i64 0), .v (.int .i64 0), .v (.int .i64 0), .v (.int .i64 0), .nl], .st [(3, 0), (32, 1)]⟩),
  (50, ⟨3, 40, true, [.v (.int .i64 0), .v (.int .i64 0), .nl], .st [(3, 0), (3, 1), (22, 2)]⟩),
  (51, ⟨3, 40, true, [.v (.int .i64 0), .v (.int .i64 0), .nl], .st [(3, 0), (3, 1), (22, 2)]⟩),
  (55, ⟨16, 272, true, [.v (.int .i64 0), .v (.int .i64 0), .nl, .v (.int .i64 0), .v (.int .i64 0), .nl, .nl, .nl, .v (.int .i64 0), .v (.int .i64 0), .nl, .nl, .nl, .nl, .v (.int .i64 0), .nl], .st [(30, 0), (35, 15)]⟩),
  (56, ⟨16, 272, true, [.v (.int .i64 0), .v (.int .i64 0), .nl, .v (.int .i64 0), .v (.int .i64 0), .nl, .nl, .nl, .v (.int .i64 0), .v (.int .i64 0), .nl, .nl, .nl, .nl, .v (.int .i64 0), .nl], .st [(30, 0), (35, 15)]⟩),
  (62, ⟨2, 32, true, [.v (.int .i64 0), .nl], .st [(3, 0), (22, 1)]⟩),
  (63, ⟨2, 32, true, [.v (.int .i64 0), .nl], .st [(3, 0), (22, 1)]⟩),
  (126, ⟨1, 4, false, [.v (.int .u32 0)], .int .u32⟩)]
theorem hm : Tryz.prog.follows .mixedOrders = true := by kernel_rfl
theorem hT : tabOk Tryz.prog tt = true := by kernel_rfl
def i64 (n : Int) : DV := .v (.int .i64 n)
def intE (n : Int) : List DV := [.v (.int .i64 n)]
structure Acc where
  pro : Int
  rank : Int
  cut : List Int
structure Rpt where
  mem : Int
  rank : Int
  cut : List Int
def accE (a : Acc) : List DV := [.v (.int .i64 a.pro), .v (.int .i64 a.rank), .lst 1 (a.cut.map intE) false]
def rptE (a : Rpt) : List DV := [.v (.int .i64 a.mem), .v (.int .i64 a.rank), .lst 1 (a.cut.map intE) false]
def rankOf (a m : Int) : Int := bif decide (a < 1) || decide (1048575 < a) || decide (m < 1) || decide (1000 < m) then 0 else IntKind.i64.wrap (IntKind.i64.wrap (1024 * a) + m)
def ownerOf (r : Int) : Int := bif decide (r ≤ 1024) || decide (1073741824 ≤ r) || decide (1000 < r.tmod 1024) then 0 else r.tmod 1024
theorem c_paxos_RankOf (a m : Int) : Ret Tryz.prog 100 [.v (.int .i64 a), .v (.int .i64 m)] (.v (.int .i64 (rankOf a m))) := by
  refine ret_of_body (fn := Tryz.f100) (c := Tryz.f100.body.getD .skip) hm hT (by kernel_rfl) Tryz.func100 (by kernel_rfl) (by kernel_rfl) (by kernel_rfl) (by kernel_rfl) ?_
  repeat' ((conv => whnf); first | refine And.intro (fun h => h) ?_ | refine dcond_t (by assumption) ?_ | refine dcond_f (by assumption) ?_ | (refine dcond_intro ?_ ?_ <;> intro h) | exact .refl | refine And.intro (by kernel_rfl) ?_ | refine And.intro ⟨fun h => h, fun h => h⟩ ?_ | refine Exists.intro false ?_ | (refine And.intro ?_ ?_; focus (simp; done)) | fail)
  all_goals (conv => whnf)
  all_goals refine dle_int ?_
  all_goals simp only [rankOf, h, cond_true, cond_false]
theorem c_paxos_Owner (r : Int) : Ret Tryz.prog 90 [.v (.int .i64 r)] (.v (.int .i64 (ownerOf r))) := by
  refine ret_of_body (fn := Tryz.f90) (c := Tryz.f90.body.getD .skip) hm hT (by kernel_rfl) Tryz.func90 (by kernel_rfl) (by kernel_rfl) (by kernel_rfl) (by kernel_rfl) ?_
  repeat' ((conv => whnf); first | refine And.intro (fun h => h) ?_ | refine dcond_t (by assumption) ?_ | refine dcond_f (by assumption) ?_ | (refine dcond_intro ?_ ?_ <;> intro h) | exact .refl | refine And.intro (by kernel_rfl) ?_ | refine And.intro ⟨fun h => h, fun h => h⟩ ?_ | refine Exists.intro false ?_ | (refine And.intro ?_ ?_; focus (simp; done)) | fail)
  all_goals (conv => whnf)
  all_goals refine dle_int ?_
  all_goals simp only [ownerOf, h, cond_true, cond_false]
theorem c_ref3_IsID (n : Int) : Ret Tryz.prog 101 [.v (.int .i64 n)] (.v (.bool (decide (1 ≤ n) && decide (n ≤ 1000)))) := by
  refine ret_of_body (fn := Tryz.f101) (c := Tryz.f101.body.getD .skip) hm hT (by kernel_rfl) Tryz.func101 (by kernel_rfl) (by kernel_rfl) (by kernel_rfl) (by kernel_rfl) ?_
  repeat' ((conv => whnf); first | refine And.intro (fun h => h) ?_ | refine dcond_t (by assumption) ?_ | refine dcond_f (by assumption) ?_ | (refine dcond_intro ?_ ?_ <;> intro h) | exact .refl | refine And.intro (by kernel_rfl) ?_ | refine And.intro ⟨fun h => h, fun h => h⟩ ?_ | refine Exists.intro false ?_ | (refine And.intro ?_ ?_; focus (simp; done)) | fail)
def rankRef (a m : Int) : Int := bif decide (a < 1) || decide (1048575 < a) || !(decide (1 ≤ m) && decide (m ≤ 1000)) then 0 else IntKind.i64.wrap (IntKind.i64.wrap (1024 * a) + m)
theorem c_ref9_RankOf (a m : Int) : Ret Tryz.prog 47 [.v (.int .i64 a), .v (.int .i64 m)] (.v (.int .i64 (rankRef a m))) := by
  refine ret_of_body (fn := Tryz.f47) (c := Tryz.f47.body.getD .skip) hm hT (by kernel_rfl) Tryz.func47 (by kernel_rfl) (by kernel_rfl) (by kernel_rfl) (by kernel_rfl) ?_
  repeat' ((conv => whnf); first | refine And.intro (fun h => h) ?_ | refine dcond_t (by assumption) ?_ | refine dcond_f (by assumption) ?_ | (refine dcond_intro ?_ ?_ <;> intro h) | exact .refl | refine And.intro (by kernel_rfl) ?_ | refine And.intro ⟨fun h => h, fun h => h⟩ ?_ | refine .inl ⟨_, _, DleAll_refl _, c_ref3_IsID _, ?_⟩ | refine ⟨_, _, DleAll_refl _, fun _ => c_ref3_IsID _, ?_⟩ | refine ⟨_, _, DleAll_refl _, c_ref3_IsID _, ?_⟩ | refine Exists.intro false ?_ | (refine And.intro ?_ ?_; focus (simp; done)) | fail)
  all_goals (conv => whnf)
  all_goals refine dle_int ?_
  all_goals simp only [rankRef, h, cond_true, cond_false]
def ownerRef (r : Int) : Int := bif decide (r < 1025) || decide (1073741823 < r) || !(decide (1 ≤ r.tmod 1024) && decide (r.tmod 1024 ≤ 1000)) then 0 else r.tmod 1024
theorem c_ref9_Owner (r : Int) : Ret Tryz.prog 83 [.v (.int .i64 r)] (.v (.int .i64 (ownerRef r))) := by
  refine ret_of_body (fn := Tryz.f83) (c := Tryz.f83.body.getD .skip) hm hT (by kernel_rfl) Tryz.func83 (by kernel_rfl) (by kernel_rfl) (by kernel_rfl) (by kernel_rfl) ?_
  repeat' ((conv => whnf); first | refine And.intro (fun h => h) ?_ | refine dcond_t (by assumption) ?_ | refine dcond_f (by assumption) ?_ | (refine dcond_intro ?_ ?_ <;> intro h) | exact .refl | refine And.intro (by kernel_rfl) ?_ | refine And.intro ⟨fun h => h, fun h => h⟩ ?_ | refine .inl ⟨_, _, DleAll_refl _, c_ref3_IsID _, ?_⟩ | refine ⟨_, _, DleAll_refl _, fun _ => c_ref3_IsID _, ?_⟩ | refine ⟨_, _, DleAll_refl _, c_ref3_IsID _, ?_⟩ | refine Exists.intro false ?_ | (refine And.intro ?_ ?_; focus (simp; done)) | fail)
  all_goals (conv => whnf)
  all_goals refine dle_int ?_
  all_goals simp only [ownerRef, h, cond_true, cond_false]
def usableB (r : Int) : Bool := !decide (ownerOf r = 0)
theorem c_paxos_usable (r : Int) : Ret Tryz.prog 103 [.v (.int .i64 r)] (.v (.bool (usableB r))) := by
  refine ret_of_body (fn := Tryz.f103) (c := Tryz.f103.body.getD .skip) hm hT (by kernel_rfl) Tryz.func103 (by kernel_rfl) (by kernel_rfl) (by kernel_rfl) (by kernel_rfl) ?_
  repeat' ((conv => whnf); first | refine And.intro (fun h => h) ?_ | refine dcond_t (by assumption) ?_ | refine dcond_f (by assumption) ?_ | (refine dcond_intro ?_ ?_ <;> intro h) | exact .refl | refine And.intro (by kernel_rfl) ?_ | refine And.intro ⟨fun h => h, fun h => h⟩ ?_ | refine .inl ⟨_, _, DleAll_refl _, c_paxos_Owner _, ?_⟩ | refine ⟨_, _, DleAll_refl _, fun _ => c_paxos_Owner _, ?_⟩ | refine ⟨_, _, DleAll_refl _, c_paxos_Owner _, ?_⟩ | refine Exists.intro false ?_ | (refine And.intro ?_ ?_; focus (simp; done)) | fail)
theorem c_paxos_clone (l : List Int) (hl : l.length ≤ 1000000) : Ret Tryz.prog 71 [.lst 1 (l.map intE) false] (.lst 1 (l.map intE) false) := by
  have hby : (l.map intE).length * (tinfo tt 3).bytes ≤ 140737488355328 := by
    have e : (tinfo tt 3).bytes = 8 := by kernel_rfl
    rw [e]; simp; omega
  have hmx : (l.map intE).length ≤ maxLen := by simp only [maxLen]; simp; omega
  refine ret_of_body (fn := Tryz.f71) (c := Tryz.f71.body.getD .skip) hm hT (by kernel_rfl) Tryz.func71 (by kernel_rfl) (by kernel_rfl) (by kernel_rfl) (by kernel_rfl) ?_
  repeat' ((conv => whnf); first | refine And.intro (fun h => h) ?_ | refine dcond_t (by assumption) ?_ | refine dcond_f (by assumption) ?_ | (refine dcond_intro ?_ ?_ <;> intro h) | exact .refl | refine And.intro (by kernel_rfl) ?_ | refine And.intro ⟨fun h => h, fun h => h⟩ ?_ | refine ⟨(l.map intE).length, (l.map intE).length, rfl, rfl, Nat.le_refl _, hby, hmx, ?_⟩ | refine Exists.intro false ?_ | (refine And.intro ?_ ?_; focus (simp; done)) | fail)
  all_goals (conv => whnf)
  refine dle_lst ?_
  simp
  exact List.take_of_length_le (by simp)
theorem c_paxos_copied (a : Acc) (hl : a.cut.length ≤ 1000000) : Ret Tryz.prog 70 [.agg (accE a)] (.agg (accE a)) := by
  refine ret_of_body (fn := Tryz.f70) (c := Tryz.f70.body.getD .skip) hm hT (by kernel_rfl) Tryz.func70 (by kernel_rfl) (by kernel_rfl) (by kernel_rfl) (by kernel_rfl) ?_
  repeat' ((conv => whnf); first | refine And.intro (fun h => h) ?_ | refine dcond_t (by assumption) ?_ | refine dcond_f (by assumption) ?_ | (refine dcond_intro ?_ ?_ <;> intro h) | exact .refl | refine And.intro (by kernel_rfl) ?_ | refine And.intro ⟨fun h => h, fun h => h⟩ ?_ | refine .inl ⟨_, _, DleAll_refl _, c_paxos_clone _ hl, ?_⟩ | refine ⟨_, _, DleAll_refl _, fun _ => c_paxos_clone _ hl, ?_⟩ | refine ⟨_, _, DleAll_refl _, c_paxos_clone _ hl, ?_⟩ | refine Exists.intro false ?_ | (refine And.intro ?_ ?_; focus (simp; done)) | fail)
theorem c_paxos_Fresh : Ret Tryz.prog 58 [] (.agg (accE ⟨0, -1, []⟩)) := by
  refine ret_of_body (fn := Tryz.f58) (c := Tryz.f58.body.getD .skip) hm hT (by kernel_rfl) Tryz.func58 (by kernel_rfl) (by kernel_rfl) (by kernel_rfl) (by kernel_rfl) ?_
  repeat' ((conv => whnf); first | refine And.intro (fun h => h) ?_ | refine dcond_t (by assumption) ?_ | refine dcond_f (by assumption) ?_ | (refine dcond_intro ?_ ?_ <;> intro h) | exact .refl | refine And.intro (by kernel_rfl) ?_ | refine And.intro ⟨fun h => h, fun h => h⟩ ?_ | refine Exists.intro false ?_ | (refine And.intro ?_ ?_; focus (simp; done)) | fail)
  all_goals (conv => whnf)
  exact dle_aggA ⟨.refl, .refl, .nl, trivial⟩
def okAt (l : List Int) (i : Nat) : Bool := !(decide (l.getD i 0 ≤ (0 :: l).getD i 0) || decide (1000 < l.getD i 0))
def idsB (l : List Int) (most : Int) : Bool := !(decide ((l.length : Int) < 1) || decide (most < (l.length : Int))) && allB (okAt l) l.length
theorem c_view_identifiers (l : List Int) (hl : l.length ≤ maxLen) (m : Int) : Ret Tryz.prog 110 [.lst 1 (l.map intE) false, .v (.int .i64 m)] (.v (.bool (idsB l m))) := by
  have hl' : l.length ≤ 9223372036854775807 := hl
  refine ret_of_body (fn := Tryz.f110) (c := Tryz.f110.body.getD .skip) hm hT (by kernel_rfl) Tryz.func110 (by kernel_rfl) (by kernel_rfl) (by kernel_rfl) (by kernel_rfl) ?_
  repeat' ((conv => whnf); first | refine And.intro (fun h => h) ?_ | refine dcond_t (by assumption) ?_ | refine dcond_f (by assumption) ?_ | (refine dcond_intro ?_ ?_ <;> intro h) | exact .refl | refine And.intro (by kernel_rfl) ?_ | refine And.intro ⟨fun h => h, fun h => h⟩ ?_ | refine Exists.intro false ?_ | (refine And.intro ?_ ?_; focus (simp; done)) | fail)
  · skip
    refine dle_bool ?_
    simp only [List.length_map] at h
    simp only [idsB, h]
    rfl
  · skip
    simp only [List.length_map] at h
    have h0 := h
    clear h
    conv => whnf
    refine ⟨Nat, fun i => ⟨[(5, i64 ((0 :: l).getD i 0)), (17, .lst 1 (l.map intE) false), (18, i64 (l.map intE).length), (19, i64 i)], []⟩, fun i => i ≤ l.length ∧ ∀ j, j < i → okAt l j = true, fun i => l.length - i, [], ⟨0, ⟨Nat.zero_le _, by omega⟩, ?_⟩, ?_⟩
    · exact ⟨by repeat' ((conv => whnf); first | exact trivial | refine And.intro (by (conv => arg 1; whnf); first | (with_reducible exact .refl) | exact dle_int (wrap_succ (by omega)) | exact .refl) ?_), by repeat' ((conv => whnf); first | exact trivial | refine And.intro ?_ ?_ | exact .refl), rfl⟩
    · intro i ⟨hi, hall⟩
      repeat' ((conv => whnf); first | refine And.intro (fun h => h) ?_ | refine dcond_t (by assumption) ?_ | refine dcond_f (by assumption) ?_ | (refine dcond_intro ?_ ?_ <;> intro h) | exact .refl | refine And.intro (by kernel_rfl) ?_ | refine And.intro ⟨fun h => h, fun h => h⟩ ?_ | refine Exists.intro false ?_ | (refine And.intro ?_ ?_; focus (simp; done)) | fail)
      · have h1 := h
        have hlt : i < l.length := by simpa using h1
        have hg : l.getD i 0 = l[i] := by simp [hlt]
        repeat' ((conv => whnf); first | refine And.intro (fun h => h) ?_ | refine dcond_t (by assumption) ?_ | refine dcond_f (by assumption) ?_ | (refine dcond_intro ?_ ?_ <;> intro h) | exact .refl | refine And.intro (by kernel_rfl) ?_ | refine And.intro ⟨fun h => h, fun h => h⟩ ?_ | refine ⟨_, _, And.intro ⟨rfl, get_map hlt⟩ ?_⟩ | refine Exists.intro false ?_ | (refine And.intro ?_ ?_; focus (simp; done)) | fail)
        · have h2 := h
          refine dle_bool ?_
          have : okAt l i = false := by simp only [okAt, hg, h2]; rfl
          rw [idsB, allB_false hlt this, Bool.and_false]
        · have h2 := h
          conv => whnf
          refine ⟨i + 1, ⟨hlt, fun j hj => ?_⟩, by simp only []; omega, ?_⟩
          · rcases Nat.lt_succ_iff_lt_or_eq.1 hj with hj | rfl
            · exact hall j hj
            · simp only [okAt, hg, h2]; rfl
          · refine ⟨⟨?_, .refl, .refl, dle_int (wrap_succ (by omega)), trivial⟩, trivial, rfl⟩
            refine dle_int ?_
            simp [hlt]
      · have h1 := h
        have hge : ¬ i < l.length := by simpa using h1
        conv => whnf
        refine dle_bool ?_
        rw [idsB, h0, allB_true.2 (fun j hj => hall j (by omega))]
        rfl
theorem c_view_ValidCut (l : List Int) (hl : l.length ≤ maxLen) : Ret Tryz.prog 69 [.lst 1 (l.map intE) false] (.v (.bool (idsB l 32))) := by
  refine ret_of_body (fn := Tryz.f69) (c := Tryz.f69.body.getD .skip) hm hT (by kernel_rfl) Tryz.func69 (by kernel_rfl) (by kernel_rfl) (by kernel_rfl) (by kernel_rfl) ?_
  repeat' ((conv => whnf); first | refine And.intro (fun h => h) ?_ | refine dcond_t (by assumption) ?_ | refine dcond_f (by assumption) ?_ | (refine dcond_intro ?_ ?_ <;> intro h) | exact .refl | refine And.intro (by kernel_rfl) ?_ | refine And.intro ⟨fun h => h, fun h => h⟩ ?_ | refine .inl ⟨_, _, DleAll_refl _, c_view_identifiers _ hl _, ?_⟩ | refine ⟨_, _, DleAll_refl _, fun _ => c_view_identifiers _ hl _, ?_⟩ | refine ⟨_, _, DleAll_refl _, c_view_identifiers _ hl _, ?_⟩ | refine Exists.intro false ?_ | (refine And.intro ?_ ?_; focus (simp; done)) | fail)
def accB (a : Acc) : Bool :=
  bif !decide (a.pro = 0) && !usableB a.pro || decide (a.pro < a.rank) then false
  else bif decide (a.rank = -1) then decide ((a.cut.length : Int) = 0)
  else (decide (a.rank = 0) || usableB a.rank) && idsB a.cut 32
theorem c_paxos_Valid (a : Acc) (hl : a.cut.length ≤ maxLen) : Ret Tryz.prog 59 [.agg (accE a)] (.v (.bool (accB a))) := by
  refine ret_of_body (fn := Tryz.f59) (c := Tryz.f59.body.getD .skip) hm hT (by kernel_rfl) Tryz.func59 (by kernel_rfl) (by kernel_rfl) (by kernel_rfl) (by kernel_rfl) ?_
  repeat' ((conv => whnf); first | refine And.intro (fun h => h) ?_ | refine dcond_t (by assumption) ?_ | refine dcond_f (by assumption) ?_ | (refine dcond_intro ?_ ?_ <;> intro h) | exact .refl | refine And.intro (by kernel_rfl) ?_ | refine And.intro ⟨fun h => h, fun h => h⟩ ?_ | refine .inl ⟨_, _, DleAll_refl _, c_paxos_usable _, ?_⟩ | refine ⟨_, _, DleAll_refl _, fun _ => c_paxos_usable _, ?_⟩ | refine ⟨_, _, DleAll_refl _, c_paxos_usable _, ?_⟩ | refine .inl ⟨_, _, DleAll_refl _, c_view_ValidCut _ hl, ?_⟩ | refine ⟨_, _, DleAll_refl _, fun _ => c_view_ValidCut _ hl, ?_⟩ | refine ⟨_, _, DleAll_refl _, c_view_ValidCut _ hl, ?_⟩ | refine Exists.intro false ?_ | (refine And.intro ?_ ?_; focus (simp; done)) | fail)
  all_goals (conv => whnf)
  all_goals refine dle_bool ?_
  all_goals (try simp only [List.length_map] at *)
  all_goals simp only [accB, *, cond_true, cond_false]
def voteR (a : Acc) (cut : List Int) : Acc × Bool :=
  bif !accB a then (⟨0, 0, []⟩, false)
  else bif !decide (a.pro = 0) || !decide (a.rank = -1) || !idsB cut 32 then (a, false)
  else (⟨0, 0, cut⟩, true)
theorem c_paxos_OnVote (a : Acc) (hl : a.cut.length ≤ 1000000) (cut : List Int) (hc : cut.length ≤ 1000000) : Ret Tryz.prog 20 [.agg (accE a), .lst 1 (cut.map intE) false] (.tup [.agg (accE (voteR a cut).1), .v (.bool (voteR a cut).2)]) := by
  have h1 : a.cut.length ≤ maxLen := Nat.le_trans hl (by decide)
  have h2 : cut.length ≤ maxLen := Nat.le_trans hc (by decide)
  refine ret_of_body (fn := Tryz.f20) (c := Tryz.f20.body.getD .skip) hm hT (by kernel_rfl) Tryz.func20 (by kernel_rfl) (by kernel_rfl) (by kernel_rfl) (by kernel_rfl) ?_
  repeat' ((conv => whnf); first | refine And.intro (fun h => h) ?_ | refine dcond_t (by assumption) ?_ | refine dcond_f (by assumption) ?_ | (refine dcond_intro ?_ ?_ <;> intro h) | exact .refl | refine And.intro (by kernel_rfl) ?_ | refine And.intro ⟨fun h => h, fun h => h⟩ ?_ | refine .inl ⟨_, _, DleAll_refl _, c_paxos_Valid _ h1, ?_⟩ | refine ⟨_, _, DleAll_refl _, fun _ => c_paxos_Valid _ h1, ?_⟩ | refine ⟨_, _, DleAll_refl _, c_paxos_Valid _ h1, ?_⟩ | refine .inl ⟨_, _, DleAll_refl _, c_view_ValidCut _ h2, ?_⟩ | refine ⟨_, _, DleAll_refl _, fun _ => c_view_ValidCut _ h2, ?_⟩ | refine ⟨_, _, DleAll_refl _, c_view_ValidCut _ h2, ?_⟩ | refine .inl ⟨_, _, DleAll_refl _, c_paxos_copied _ hl, ?_⟩ | refine ⟨_, _, DleAll_refl _, fun _ => c_paxos_copied _ hl, ?_⟩ | refine ⟨_, _, DleAll_refl _, c_paxos_copied _ hl, ?_⟩ | refine .inl ⟨_, _, DleAll_refl _, c_paxos_clone _ hc, ?_⟩ | refine ⟨_, _, DleAll_refl _, fun _ => c_paxos_clone _ hc, ?_⟩ | refine ⟨_, _, DleAll_refl _, c_paxos_clone _ hc, ?_⟩ | refine Exists.intro false ?_ | (refine And.intro ?_ ?_; focus (simp; done)) | fail)
  all_goals (conv => whnf)
  all_goals simp only [voteR, *, cond_true, cond_false]
  · exact dle_tupA ⟨dle_aggA ⟨.refl, .refl, .nl, trivial⟩, .refl, trivial⟩
  · exact .refl
  · exact .refl
def prepR (a : Acc) (rank : Int) : Acc × Rpt × Bool :=
  bif !accB a then (⟨0, 0, []⟩, ⟨0, 0, []⟩, false)
  else bif !usableB rank || decide (rank < a.pro) then (a, ⟨0, 0, []⟩, false)
  else (⟨rank, a.rank, a.cut⟩, ⟨0, a.rank, a.cut⟩, true)
theorem c_paxos_OnPrepare (a : Acc) (hl : a.cut.length ≤ 1000000) (rank : Int) : Ret Tryz.prog 91 [.agg (accE a), .v (.int .i64 rank)] (.tup [.agg (accE (prepR a rank).1), .agg (rptE (prepR a rank).2.1), .v (.bool (prepR a rank).2.2)]) := by
  have h1 : a.cut.length ≤ maxLen := Nat.le_trans hl (by decide)
  refine ret_of_body (fn := Tryz.f91) (c := Tryz.f91.body.getD .skip) hm hT (by kernel_rfl) Tryz.func91 (by kernel_rfl) (by kernel_rfl) (by kernel_rfl) (by kernel_rfl) ?_
  repeat' ((conv => whnf); first | refine And.intro (fun h => h) ?_ | refine dcond_t (by assumption) ?_ | refine dcond_f (by assumption) ?_ | (refine dcond_intro ?_ ?_ <;> intro h) | exact .refl | refine And.intro (by kernel_rfl) ?_ | refine And.intro ⟨fun h => h, fun h => h⟩ ?_ | refine .inl ⟨_, _, DleAll_refl _, c_paxos_Valid _ h1, ?_⟩ | refine ⟨_, _, DleAll_refl _, fun _ => c_paxos_Valid _ h1, ?_⟩ | refine ⟨_, _, DleAll_refl _, c_paxos_Valid _ h1, ?_⟩ | refine .inl ⟨_, _, DleAll_refl _, c_paxos_usable _, ?_⟩ | refine ⟨_, _, DleAll_refl _, fun _ => c_paxos_usable _, ?_⟩ | refine ⟨_, _, DleAll_refl _, c_paxos_usable _, ?_⟩ | refine .inl ⟨_, _, DleAll_refl _, c_paxos_copied _ hl, ?_⟩ | refine ⟨_, _, DleAll_refl _, fun _ => c_paxos_copied _ hl, ?_⟩ | refine ⟨_, _, DleAll_refl _, c_paxos_copied _ hl, ?_⟩ | refine .inl ⟨_, _, DleAll_refl _, c_paxos_clone _ hl, ?_⟩ | refine ⟨_, _, DleAll_refl _, fun _ => c_paxos_clone _ hl, ?_⟩ | refine ⟨_, _, DleAll_refl _, c_paxos_clone _ hl, ?_⟩ | refine Exists.intro false ?_ | (refine And.intro ?_ ?_; focus (simp; done)) | fail)
  all_goals (conv => whnf)
  all_goals simp only [prepR, *, cond_true, cond_false]
  · exact dle_tupA ⟨dle_aggA ⟨.refl, .refl, .nl, trivial⟩, dle_aggA ⟨.refl, .refl, .nl, trivial⟩, .refl, trivial⟩
  · exact dle_tupA ⟨.refl, dle_aggA ⟨.refl, .refl, .nl, trivial⟩, .refl, trivial⟩
  · exact .refl
def sameI (a b : List Int) : Bool := decide ((a.length : Int) = (b.length : Int)) && allB (fun i => decide (a.getD i 0 = b.getD i 0)) a.length
theorem c_slices_Equal_int (a b : List Int) (ha : a.length ≤ maxLen) : Ret Tryz.prog 104 [.lst 1 (a.map intE) false, .lst 1 (b.map intE) false] (.v (.bool (sameI a b))) := by
  have hl' : a.length ≤ 9223372036854775807 := ha
  refine ret_of_body (fn := Tryz.f104) (c := Tryz.f104.body.getD .skip) hm hT (by kernel_rfl) Tryz.func104 (by kernel_rfl) (by kernel_rfl) (by kernel_rfl) (by kernel_rfl) ?_
  repeat' ((conv => whnf); first | refine And.intro (fun h => h) ?_ | refine dcond_t (by assumption) ?_ | refine dcond_f (by assumption) ?_ | (refine dcond_intro ?_ ?_ <;> intro h) | exact .refl | refine And.intro (by kernel_rfl) ?_ | refine And.intro ⟨fun h => h, fun h => h⟩ ?_ | refine Exists.intro false ?_ | (refine And.intro ?_ ?_; focus (simp; done)) | fail)
  · refine dle_bool ?_
    simp only [List.length_map] at h
    have h : decide ((a.length : Int) = (b.length : Int)) = false := by simpa using h
    simp only [sameI, h, Bool.false_and]
  · have h0 : a.length = b.length := by
      simp at h
      omega
    clear h
    conv => whnf
    refine ⟨Nat, fun i => ⟨[(0, .lst 1 (a.map intE) false), (1, .lst 1 (b.map intE) false), (12, i64 (a.map intE).length), (13, i64 i)], []⟩, fun i => i ≤ a.length ∧ ∀ j, j < i → decide (a.getD j 0 = b.getD j 0) = true, fun i => a.length - i, [], ⟨0, ⟨Nat.zero_le _, by omega⟩, ?_⟩, ?_⟩
    · exact ⟨by repeat' ((conv => whnf); first | exact trivial | refine And.intro (by (conv => arg 1; whnf); first | (with_reducible exact .refl) | exact dle_int (wrap_succ (by omega)) | exact .refl) ?_), by repeat' ((conv => whnf); first | exact trivial | refine And.intro ?_ ?_ | exact .refl), rfl⟩
    · intro i ⟨hi, hall⟩
      repeat' ((conv => whnf); first | refine And.intro (fun h => h) ?_ | refine dcond_t (by assumption) ?_ | refine dcond_f (by assumption) ?_ | (refine dcond_intro ?_ ?_ <;> intro h) | exact .refl | refine And.intro (by kernel_rfl) ?_ | refine And.intro ⟨fun h => h, fun h => h⟩ ?_ | refine Exists.intro false ?_ | (refine And.intro ?_ ?_; focus (simp; done)) | fail)
      · have hlt : i < a.length := by simpa using h
        have hlt2 : i < b.length := by omega
        clear h
        have hg : a.getD i 0 = a[i] := by simp [hlt]
        have hg2 : b.getD i 0 = b[i] := by simp [hlt2]
        repeat' ((conv => whnf); first | refine And.intro (fun h => h) ?_ | refine dcond_t (by assumption) ?_ | refine dcond_f (by assumption) ?_ | (refine dcond_intro ?_ ?_ <;> intro h) | exact .refl | refine And.intro (by kernel_rfl) ?_ | refine And.intro ⟨fun h => h, fun h => h⟩ ?_ | refine ⟨_, _, And.intro ⟨rfl, get_map hlt⟩ ?_⟩ | refine ⟨_, _, And.intro ⟨rfl, get_map hlt2⟩ ?_⟩ | refine Exists.intro false ?_ | (refine And.intro ?_ ?_; focus (simp; done)) | fail)
        · refine dle_bool ?_
          rw [sameI, allB_false hlt (i := i), Bool.and_false]
          rw [hg, hg2]
          simpa using h
        · conv => whnf
          refine ⟨i + 1, ⟨hlt, fun j hj => ?_⟩, by simp only []; omega, ?_⟩
          · rcases Nat.lt_succ_iff_lt_or_eq.1 hj with hj | rfl
            · exact hall j hj
            · rw [hg, hg2]
              simpa using h
          · exact ⟨by repeat' ((conv => whnf); first | exact trivial | refine And.intro (by (conv => arg 1; whnf); first | (with_reducible exact .refl) | exact dle_int (wrap_succ (by omega)) | exact .refl) ?_), by repeat' ((conv => whnf); first | exact trivial | refine And.intro ?_ ?_ | exact .refl), rfl⟩
      · have hge : ¬ i < a.length := by simpa using h
        conv => whnf
        refine dle_bool ?_
        rw [sameI, allB_true.2 (fun j hj => hall j (by omega)), h0]
        simp
theorem c_fastvote_Same (a b : List Int) (ha : a.length ≤ maxLen) : Ret Tryz.prog 64 [.lst 1 (a.map intE) false, .lst 1 (b.map intE) false] (.v (.bool (sameI a b))) := by
  refine ret_of_body (fn := Tryz.f64) (c := Tryz.f64.body.getD .skip) hm hT (by kernel_rfl) Tryz.func64 (by kernel_rfl) (by kernel_rfl) (by kernel_rfl) (by kernel_rfl) ?_
  repeat' ((conv => whnf); first | refine And.intro (fun h => h) ?_ | refine dcond_t (by assumption) ?_ | refine dcond_f (by assumption) ?_ | (refine dcond_intro ?_ ?_ <;> intro h) | exact .refl | refine And.intro (by kernel_rfl) ?_ | refine And.intro ⟨fun h => h, fun h => h⟩ ?_ | refine .inl ⟨_, _, DleAll_refl _, c_slices_Equal_int _ _ ha, ?_⟩ | refine ⟨_, _, DleAll_refl _, fun _ => c_slices_Equal_int _ _ ha, ?_⟩ | refine ⟨_, _, DleAll_refl _, c_slices_Equal_int _ _ ha, ?_⟩ | refine Exists.intro false ?_ | (refine And.intro ?_ ?_; focus (simp; done)) | fail)
def acceptR (a : Acc) (rank : Int) (cut : List Int) : Acc × Bool :=
  bif !accB a then (⟨0, 0, []⟩, false)
  else bif !usableB rank || decide (rank < a.pro) || !idsB cut 32 || decide (a.rank = rank) && !sameI a.cut cut then (a, false)
  else (⟨rank, rank, cut⟩, true)
theorem c_paxos_OnAccept (a : Acc) (hl : a.cut.length ≤ 1000000) (rank : Int) (cut : List Int) (hc : cut.length ≤ 1000000) : Ret Tryz.prog 95 [.agg (accE a), .v (.int .i64 rank), .lst 1 (cut.map intE) false] (.tup [.agg (accE (acceptR a rank cut).1), .v (.bool (acceptR a rank cut).2)]) := by
  have h1 : a.cut.length ≤ maxLen := Nat.le_trans hl (by decide)
  have h2 : cut.length ≤ maxLen := Nat.le_trans hc (by decide)
  refine ret_of_body (fn := Tryz.f95) (c := Tryz.f95.body.getD .skip) hm hT (by kernel_rfl) Tryz.func95 (by kernel_rfl) (by kernel_rfl) (by kernel_rfl) (by kernel_rfl) ?_
  repeat' ((conv => whnf); first | refine And.intro (fun h => h) ?_ | refine dcond_t (by assumption) ?_ | refine dcond_f (by assumption) ?_ | (refine dcond_intro ?_ ?_ <;> intro h) | exact .refl | refine And.intro (by kernel_rfl) ?_ | refine And.intro ⟨fun h => h, fun h => h⟩ ?_ | refine .inl ⟨_, _, DleAll_refl _, c_paxos_Valid _ h1, ?_⟩ | refine ⟨_, _, DleAll_refl _, fun _ => c_paxos_Valid _ h1, ?_⟩ | refine ⟨_, _, DleAll_refl _, c_paxos_Valid _ h1, ?_⟩ | refine .inl ⟨_, _, DleAll_refl _, c_paxos_usable _, ?_⟩ | refine ⟨_, _, DleAll_refl _, fun _ => c_paxos_usable _, ?_⟩ | refine ⟨_, _, DleAll_refl _, c_paxos_usable _, ?_⟩ | refine .inl ⟨_, _, DleAll_refl _, c_view_ValidCut _ h2, ?_⟩ | refine ⟨_, _, DleAll_refl _, fun _ => c_view_ValidCut _ h2, ?_⟩ | refine ⟨_, _, DleAll_refl _, c_view_ValidCut _ h2, ?_⟩ | refine .inl ⟨_, _, DleAll_refl _, c_fastvote_Same _ _ h1, ?_⟩ | refine ⟨_, _, DleAll_refl _, fun _ => c_fastvote_Same _ _ h1, ?_⟩ | refine ⟨_, _, DleAll_refl _, c_fastvote_Same _ _ h1, ?_⟩ | refine .inl ⟨_, _, DleAll_refl _, c_paxos_copied _ hl, ?_⟩ | refine ⟨_, _, DleAll_refl _, fun _ => c_paxos_copied _ hl, ?_⟩ | refine ⟨_, _, DleAll_refl _, c_paxos_copied _ hl, ?_⟩ | refine .inl ⟨_, _, DleAll_refl _, c_paxos_clone _ hc, ?_⟩ | refine ⟨_, _, DleAll_refl _, fun _ => c_paxos_clone _ hc, ?_⟩ | refine ⟨_, _, DleAll_refl _, c_paxos_clone _ hc, ?_⟩ | refine Exists.intro false ?_ | (refine And.intro ?_ ?_; focus (simp; done)) | fail)
  all_goals (conv => whnf)
  all_goals simp only [acceptR, *, cond_true, cond_false]
  · exact dle_tupA ⟨dle_aggA ⟨.refl, .refl, .nl, trivial⟩, .refl, trivial⟩
  · exact .refl
  · exact .refl
structure View where
  num : Int
  mem : List Int
def viewE (v : View) : List DV := [.v (.int .i64 v.num), .lst 1 (v.mem.map intE) false]
def placeB (l : List Int) (x : Int) : Int := findB (fun i => decide (l[i]? = some x)) l.length
theorem c_view_Place (l : List Int) (hl : l.length ≤ maxLen) (x : Int) : Ret Tryz.prog 44 [.lst 1 (l.map intE) false, .v (.int .i64 x)] (.v (.int .i64 (placeB l x))) := by
  have hl' : l.length ≤ 9223372036854775807 := hl
  refine ret_of_body (fn := Tryz.f44) (c := Tryz.f44.body.getD .skip) hm hT (by kernel_rfl) Tryz.func44 (by kernel_rfl) (by kernel_rfl) (by kernel_rfl) (by kernel_rfl) ?_
  repeat' ((conv => whnf); first | refine And.intro (fun h => h) ?_ | refine dcond_t (by assumption) ?_ | refine dcond_f (by assumption) ?_ | (refine dcond_intro ?_ ?_ <;> intro h) | exact .refl | refine And.intro (by kernel_rfl) ?_ | refine And.intro ⟨fun h => h, fun h => h⟩ ?_ | refine Exists.intro false ?_ | (refine And.intro ?_ ?_; focus (simp; done)) | fail)
  refine ⟨Nat, fun i => ⟨[(1, .v (.int .i64 x)), (7, .lst 1 (l.map intE) false), (8, i64 (l.map intE).length), (9, i64 i)], []⟩, fun i => i ≤ l.length ∧ ∀ j, j < i → decide (l[j]? = some x) = false, fun i => l.length - i, [], ⟨0, ⟨Nat.zero_le _, by omega⟩, ?_⟩, ?_⟩
  · exact ⟨by repeat' ((conv => whnf); first | exact trivial | refine And.intro (by (conv => arg 1; whnf); first | (with_reducible exact .refl) | exact dle_int (wrap_succ (by omega)) | exact .refl) ?_), by repeat' ((conv => whnf); first | exact trivial | refine And.intro ?_ ?_ | exact .refl), rfl⟩
  · intro i ⟨hi, hall⟩
    repeat' ((conv => whnf); first | refine And.intro (fun h => h) ?_ | refine dcond_t (by assumption) ?_ | refine dcond_f (by assumption) ?_ | (refine dcond_intro ?_ ?_ <;> intro h) | exact .refl | refine And.intro (by kernel_rfl) ?_ | refine And.intro ⟨fun h => h, fun h => h⟩ ?_ | refine Exists.intro false ?_ | (refine And.intro ?_ ?_; focus (simp; done)) | fail)
    · have hlt : i < l.length := by simpa using h
      repeat' ((conv => whnf); first | refine And.intro (fun h => h) ?_ | refine dcond_t (by assumption) ?_ | refine dcond_f (by assumption) ?_ | (refine dcond_intro ?_ ?_ <;> intro h) | exact .refl | refine And.intro (by kernel_rfl) ?_ | refine And.intro ⟨fun h => h, fun h => h⟩ ?_ | refine ⟨_, _, And.intro ⟨rfl, get_map hlt⟩ ?_⟩ | refine Exists.intro false ?_ | (refine And.intro ?_ ?_; focus (simp; done)) | fail)
      · have h2 := h
        refine dle_int (findB_at hlt ?_ hall).symm
        simpa [hlt] using h2
      · have h2 := h
        conv => whnf
        refine ⟨i + 1, ⟨hlt, fun j hj => ?_⟩, by simp only []; omega, ?_⟩
        · rcases Nat.lt_succ_iff_lt_or_eq.1 hj with hj | rfl
          · exact hall j hj
          · simpa [hlt] using h2
        · exact ⟨by repeat' ((conv => whnf); first | exact trivial | refine And.intro (by (conv => arg 1; whnf); first | (with_reducible exact .refl) | exact dle_int (wrap_succ (by omega)) | exact .refl) ?_), by repeat' ((conv => whnf); first | exact trivial | refine And.intro ?_ ?_ | exact .refl), rfl⟩
    · have hge : ¬ i < l.length := by simpa using h
      conv => whnf
      refine dle_int (findB_none (fun j hj => hall j (by omega))).symm
def inB (l : List Int) (x : Int) : Bool := decide (0 ≤ placeB l x)
theorem c_view_Contains (l : List Int) (hl : l.length ≤ maxLen) (x : Int) : Ret Tryz.prog 57 [.lst 1 (l.map intE) false, .v (.int .i64 x)] (.v (.bool (inB l x))) := by
  refine ret_of_body (fn := Tryz.f57) (c := Tryz.f57.body.getD .skip) hm hT (by kernel_rfl) Tryz.func57 (by kernel_rfl) (by kernel_rfl) (by kernel_rfl) (by kernel_rfl) ?_
  repeat' ((conv => whnf); first | refine And.intro (fun h => h) ?_ | refine dcond_t (by assumption) ?_ | refine dcond_f (by assumption) ?_ | (refine dcond_intro ?_ ?_ <;> intro h) | exact .refl | refine And.intro (by kernel_rfl) ?_ | refine And.intro ⟨fun h => h, fun h => h⟩ ?_ | refine .inl ⟨_, _, DleAll_refl _, c_view_Place _ hl _, ?_⟩ | refine ⟨_, _, DleAll_refl _, fun _ => c_view_Place _ hl _, ?_⟩ | refine ⟨_, _, DleAll_refl _, c_view_Place _ hl _, ?_⟩ | refine Exists.intro false ?_ | (refine And.intro ?_ ?_; focus (simp; done)) | fail)
theorem c_view_ValidMembers (l : List Int) (hl : l.length ≤ maxLen) : Ret Tryz.prog 102 [.lst 1 (l.map intE) false] (.v (.bool (idsB l 16))) := by
  refine ret_of_body (fn := Tryz.f102) (c := Tryz.f102.body.getD .skip) hm hT (by kernel_rfl) Tryz.func102 (by kernel_rfl) (by kernel_rfl) (by kernel_rfl) (by kernel_rfl) ?_
  repeat' ((conv => whnf); first | refine And.intro (fun h => h) ?_ | refine dcond_t (by assumption) ?_ | refine dcond_f (by assumption) ?_ | (refine dcond_intro ?_ ?_ <;> intro h) | exact .refl | refine And.intro (by kernel_rfl) ?_ | refine And.intro ⟨fun h => h, fun h => h⟩ ?_ | refine .inl ⟨_, _, DleAll_refl _, c_view_identifiers _ hl _, ?_⟩ | refine ⟨_, _, DleAll_refl _, fun _ => c_view_identifiers _ hl _, ?_⟩ | refine ⟨_, _, DleAll_refl _, c_view_identifiers _ hl _, ?_⟩ | refine Exists.intro false ?_ | (refine And.intro ?_ ?_; focus (simp; done)) | fail)
def viewB (v : View) : Bool := (decide (0 ≤ v.num) && decide (v.num ≤ 1099511627776)) && idsB v.mem 16
theorem c_view_Valid (v : View) (hl : v.mem.length ≤ maxLen) : Ret Tryz.prog 56 [.agg (viewE v)] (.v (.bool (viewB v))) := by
  refine ret_of_body (fn := Tryz.f56) (c := Tryz.f56.body.getD .skip) hm hT (by kernel_rfl) Tryz.func56 (by kernel_rfl) (by kernel_rfl) (by kernel_rfl) (by kernel_rfl) ?_
  repeat' ((conv => whnf); first | refine And.intro (fun h => h) ?_ | refine dcond_t (by assumption) ?_ | refine dcond_f (by assumption) ?_ | (refine dcond_intro ?_ ?_ <;> intro h) | exact .refl | refine And.intro (by kernel_rfl) ?_ | refine And.intro ⟨fun h => h, fun h => h⟩ ?_ | refine .inl ⟨_, _, DleAll_refl _, c_view_ValidMembers _ hl, ?_⟩ | refine ⟨_, _, DleAll_refl _, fun _ => c_view_ValidMembers _ hl, ?_⟩ | refine ⟨_, _, DleAll_refl _, c_view_ValidMembers _ hl, ?_⟩ | refine Exists.intro false ?_ | (refine And.intro ?_ ?_; focus (simp; done)) | fail)
def splitR (v : View) (cut l other : List Int) : List Int × List Int :=
  bif !viewB v || !idsB cut 32 then ([], []) else (l.filter (inB other), l.filter (fun x => !inB other x))
def partA (other l : List Int) (i : Nat) : List (List DV) := ((l.take i).filter (inB other)).map intE
def partB (other l : List Int) (i : Nat) : List (List DV) := ((l.take i).filter (fun x => !inB other x)).map intE
theorem fitsI {n : Nat} (h : n ≤ 2000000) : fitsIn tt 3 n := by
  have e : (tinfo tt 3).bytes = 8 := by kernel_rfl
  refine ⟨?_, ?_⟩
  · rw [e]; omega
  · simp only [maxLen]; omega
theorem ole_row {e : TypeId} {sz : Nat} {es es' : List (List DV)} (h : es = es') : ole (.row e sz es) (.row e sz es') := by subst h; exact .refl
theorem partA_len (other l : List Int) (i : Nat) : (partA other l i).length ≤ i := by
  simp only [partA, List.length_map]
  exact Nat.le_trans (List.length_filter_le _ _) (by simp; omega)
theorem partB_len (other l : List Int) (i : Nat) : (partB other l i).length ≤ i := by
  simp only [partB, List.length_map]
  exact Nat.le_trans (List.length_filter_le _ _) (by simp; omega)
theorem part_in {other l : List Int} {i : Nat} (hlt : i < l.length) (h : inB other (l[i]'hlt) = true) : partA other l i ++ [intE (l[i]'hlt)] = partA other l (i + 1) ∧ partB other l i = partB other l (i + 1) := by
  simp only [partA, partB, List.take_succ_eq_append_getElem hlt, List.filter_append]
  simp [h]
theorem part_out {other l : List Int} {i : Nat} (hlt : i < l.length) (h : inB other (l[i]'hlt) = false) : partA other l i = partA other l (i + 1) ∧ partB other l i ++ [intE (l[i]'hlt)] = partB other l (i + 1) := by
  simp only [partA, partB, List.take_succ_eq_append_getElem hlt, List.filter_append]
  simp [h]
theorem c_view_split (v : View) (hv : v.mem.length ≤ maxLen) (cut l other : List Int) (hc : cut.length ≤ maxLen) (hl : l.length ≤ 1000000) (ho : other.length ≤ maxLen) :
    Ret Tryz.prog 125 [.agg (viewE v), .lst 1 (cut.map intE) false, .lst 1 (l.map intE) false, .lst 1 (other.map intE) false] (.tup [.lst 1 ((splitR v cut l other).1.map intE) false, .lst 1 ((splitR v cut l other).2.map intE) false]) := by
  refine ret_of_body (fn := Tryz.f125) (c := Tryz.f125.body.getD .skip) hm hT (by kernel_rfl) Tryz.func125 (by kernel_rfl) (by kernel_rfl) (by kernel_rfl) (by kernel_rfl) ?_
  repeat' ((conv => whnf); first | refine And.intro (fun h => h) ?_ | refine dcond_t (by assumption) ?_ | refine dcond_f (by assumption) ?_ | (refine dcond_intro ?_ ?_ <;> intro h) | exact .refl | refine And.intro (by kernel_rfl) ?_ | refine And.intro ⟨fun h => h, fun h => h⟩ ?_ | refine .inl ⟨_, _, DleAll_refl _, c_view_Valid _ hv, ?_⟩ | refine ⟨_, _, DleAll_refl _, fun _ => c_view_Valid _ hv, ?_⟩ | refine ⟨_, _, DleAll_refl _, c_view_Valid _ hv, ?_⟩ | refine .inl ⟨_, _, DleAll_refl _, c_view_ValidCut _ hc, ?_⟩ | refine ⟨_, _, DleAll_refl _, fun _ => c_view_ValidCut _ hc, ?_⟩ | refine ⟨_, _, DleAll_refl _, c_view_ValidCut _ hc, ?_⟩ | refine Exists.intro false ?_ | (refine And.intro ?_ ?_; focus (simp; done)) | fail)
  all_goals (conv => whnf)
  · simp only [splitR, h, cond_true]
    exact dle_tupA ⟨.nl, .nl, trivial⟩
  · simp only [splitR, h, cond_false]
    clear h
    refine ⟨Nat, fun i => ⟨[(3, .lst 1 (other.map intE) false), (8, .own 1), (9, .own 2), (20, .lst 1 (l.map intE) false), (21, i64 (l.map intE).length), (22, i64 i)], [.cells 24 (viewE v), .row 3 1 (partA other l i), .row 3 1 (partB other l i)]⟩, fun i => i ≤ l.length, fun i => l.length - i, [.slot 8 3 1, .slot 9 3 1], ⟨0, Nat.zero_le _, ?_⟩, ?_⟩
    · conv => whnf
      exact ⟨by repeat' ((conv => whnf); first | exact trivial | refine And.intro (by (conv => arg 1; whnf); first | (with_reducible exact .refl) | exact dle_int (wrap_succ (by omega)) | exact .refl) ?_), by repeat' ((conv => whnf); first | exact trivial | refine And.intro ?_ ?_ | exact .refl), rfl⟩
    · intro i hi
      repeat' ((conv => whnf); first | refine And.intro (fun h => h) ?_ | refine dcond_t (by assumption) ?_ | refine dcond_f (by assumption) ?_ | (refine dcond_intro ?_ ?_ <;> intro h) | exact .refl | refine And.intro (by kernel_rfl) ?_ | refine And.intro ⟨fun h => h, fun h => h⟩ ?_ | refine Exists.intro false ?_ | (refine And.intro ?_ ?_; focus (simp; done)) | fail)
      · have hlt : i < l.length := by simpa using h
        clear h
        repeat' ((conv => whnf); first | refine And.intro (fun h => h) ?_ | refine dcond_t (by assumption) ?_ | refine dcond_f (by assumption) ?_ | (refine dcond_intro ?_ ?_ <;> intro h) | exact .refl | refine And.intro (by kernel_rfl) ?_ | refine And.intro ⟨fun h => h, fun h => h⟩ ?_ | refine ⟨_, _, And.intro ⟨rfl, get_map hlt⟩ ?_⟩ | refine .inl ⟨_, _, DleAll_refl _, c_view_Contains _ ho _, ?_⟩ | refine ⟨_, _, DleAll_refl _, fun _ => c_view_Contains _ ho _, ?_⟩ | refine ⟨_, _, DleAll_refl _, c_view_Contains _ ho _, ?_⟩ | refine Exists.intro false ?_ | (refine And.intro ?_ ?_; focus (simp; done)) | fail)
        · have hA := partA_len other l i
          have hp := part_in hlt h
          conv => whnf
          refine And.intro (fitsI (by simp; omega)) ?_
          repeat' ((conv => whnf); first | refine And.intro (fun h => h) ?_ | refine dcond_t (by assumption) ?_ | refine dcond_f (by assumption) ?_ | (refine dcond_intro ?_ ?_ <;> intro h) | exact .refl | refine And.intro (by kernel_rfl) ?_ | refine And.intro ⟨fun h => h, fun h => h⟩ ?_ | refine Exists.intro false ?_ | (refine And.intro ?_ ?_; focus (simp; done)) | fail)
          all_goals (conv => whnf)
          refine ⟨i + 1, hlt, by simp only []; omega, ?_⟩
          exact ⟨⟨.refl, .refl, .refl, .refl, .refl, dle_int (wrap_succ (by omega)), trivial⟩, ⟨.refl, ole_row hp.1, ole_row hp.2, trivial⟩, rfl⟩
        · have hB := partB_len other l i
          have hp := part_out hlt h
          conv => whnf
          refine And.intro (fitsI (by simp; omega)) ?_
          repeat' ((conv => whnf); first | refine And.intro (fun h => h) ?_ | refine dcond_t (by assumption) ?_ | refine dcond_f (by assumption) ?_ | (refine dcond_intro ?_ ?_ <;> intro h) | exact .refl | refine And.intro (by kernel_rfl) ?_ | refine And.intro ⟨fun h => h, fun h => h⟩ ?_ | refine Exists.intro false ?_ | (refine And.intro ?_ ?_; focus (simp; done)) | fail)
          all_goals (conv => whnf)
          refine ⟨i + 1, hlt, by simp only []; omega, ?_⟩
          exact ⟨⟨.refl, .refl, .refl, .refl, .refl, dle_int (wrap_succ (by omega)), trivial⟩, ⟨.refl, ole_row hp.1, ole_row hp.2, trivial⟩, rfl⟩
      · have hge : ¬ i < l.length := by simpa using h
        have : i = l.length := by omega
        subst this
        conv => whnf
        refine dle_tupA ⟨dle_lst ?_, dle_lst ?_, trivial⟩
        · simp [partA]
        · simp [partB]
theorem c_view_Survivors (v : View) (hv : v.mem.length ≤ 1000000) (cut : List Int) (hc : cut.length ≤ 1000000) : Ret Tryz.prog 107 [.agg (viewE v), .lst 1 (cut.map intE) false] (.lst 1 ((splitR v cut v.mem cut).2.map intE) false) := by
  have h1 : v.mem.length ≤ maxLen := Nat.le_trans hv (by decide)
  have h2 : cut.length ≤ maxLen := Nat.le_trans hc (by decide)
  refine ret_of_body (fn := Tryz.f107) (c := Tryz.f107.body.getD .skip) hm hT (by kernel_rfl) Tryz.func107 (by kernel_rfl) (by kernel_rfl) (by kernel_rfl) (by kernel_rfl) ?_
  repeat' ((conv => whnf); first | refine And.intro (fun h => h) ?_ | refine dcond_t (by assumption) ?_ | refine dcond_f (by assumption) ?_ | (refine dcond_intro ?_ ?_ <;> intro h) | exact .refl | refine And.intro (by kernel_rfl) ?_ | refine And.intro ⟨fun h => h, fun h => h⟩ ?_ | refine .inl ⟨_, _, DleAll_refl _, c_view_split _ h1 _ _ _ h2 hv h2, ?_⟩ | refine ⟨_, _, DleAll_refl _, fun _ => c_view_split _ h1 _ _ _ h2 hv h2, ?_⟩ | refine ⟨_, _, DleAll_refl _, c_view_split _ h1 _ _ _ h2 hv h2, ?_⟩ | refine Exists.intro false ?_ | (refine And.intro ?_ ?_; focus (simp; done)) | fail)
theorem c_view_Joiners (v : View) (hv : v.mem.length ≤ 1000000) (cut : List Int) (hc : cut.length ≤ 1000000) : Ret Tryz.prog 108 [.agg (viewE v), .lst 1 (cut.map intE) false] (.lst 1 ((splitR v cut cut v.mem).2.map intE) false) := by
  have h1 : v.mem.length ≤ maxLen := Nat.le_trans hv (by decide)
  have h2 : cut.length ≤ maxLen := Nat.le_trans hc (by decide)
  refine ret_of_body (fn := Tryz.f108) (c := Tryz.f108.body.getD .skip) hm hT (by kernel_rfl) Tryz.func108 (by kernel_rfl) (by kernel_rfl) (by kernel_rfl) (by kernel_rfl) ?_
  repeat' ((conv => whnf); first | refine And.intro (fun h => h) ?_ | refine dcond_t (by assumption) ?_ | refine dcond_f (by assumption) ?_ | (refine dcond_intro ?_ ?_ <;> intro h) | exact .refl | refine And.intro (by kernel_rfl) ?_ | refine And.intro ⟨fun h => h, fun h => h⟩ ?_ | refine .inl ⟨_, _, DleAll_refl _, c_view_split _ h1 _ _ _ h2 hc h1, ?_⟩ | refine ⟨_, _, DleAll_refl _, fun _ => c_view_split _ h1 _ _ _ h2 hc h1, ?_⟩ | refine ⟨_, _, DleAll_refl _, c_view_split _ h1 _ _ _ h2 hc h1, ?_⟩ | refine Exists.intro false ?_ | (refine And.intro ?_ ?_; focus (simp; done)) | fail)
theorem c_view_counted (n : Int) : Ret Tryz.prog 124 [.v (.int .i64 n)] (.v (.bool (decide (1 ≤ n) && decide (n ≤ 16)))) := by
  refine ret_of_body (fn := Tryz.f124) (c := Tryz.f124.body.getD .skip) hm hT (by kernel_rfl) Tryz.func124 (by kernel_rfl) (by kernel_rfl) (by kernel_rfl) (by kernel_rfl) ?_
  repeat' ((conv => whnf); first | refine And.intro (fun h => h) ?_ | refine dcond_t (by assumption) ?_ | refine dcond_f (by assumption) ?_ | (refine dcond_intro ?_ ?_ <;> intro h) | exact .refl | refine And.intro (by kernel_rfl) ?_ | refine And.intro ⟨fun h => h, fun h => h⟩ ?_ | refine Exists.intro false ?_ | (refine And.intro ?_ ?_; focus (simp; done)) | fail)
def mergeL : List Int → List Int → List Int
  | a, [] => a
  | a, x :: b => a.takeWhile (fun y => !decide (x < y)) ++ x :: mergeL (a.dropWhile (fun y => !decide (x < y))) b
theorem merge_gt {y x : Int} {a b : List Int} (h : x < y) : mergeL (y :: a) (x :: b) = x :: mergeL (y :: a) b := by simp [mergeL, h]
theorem merge_le {y x : Int} {a b : List Int} (h : ¬ x < y) : mergeL (y :: a) (x :: b) = y :: mergeL a (x :: b) := by simp [mergeL, h]
theorem merge_nil {x : Int} {b : List Int} : mergeL [] (x :: b) = x :: mergeL [] b := by simp [mergeL]
theorem c_view_merge (a b : List Int) (ha : a.length ≤ 500000) (hb : b.length ≤ 500000) : Ret Tryz.prog 109 [.lst 1 (a.map intE) false, .lst 1 (b.map intE) false] (.lst 1 ((mergeL a b).map intE) false) := by
  refine ret_of_body (fn := Tryz.f109) (c := Tryz.f109.body.getD .skip) hm hT (by kernel_rfl) Tryz.func109 (by kernel_rfl) (by kernel_rfl) (by kernel_rfl) (by kernel_rfl) ?_
  repeat' ((conv => whnf); first | refine And.intro (fun h => h) ?_ | refine dcond_t (by assumption) ?_ | refine dcond_f (by assumption) ?_ | (refine dcond_intro ?_ ?_ <;> intro h) | exact .refl | refine And.intro (by kernel_rfl) ?_ | refine And.intro ⟨fun h => h, fun h => h⟩ ?_ | refine Exists.intro false ?_ | (refine And.intro ?_ ?_; focus (simp; done)) | fail)
  refine ⟨Nat × Nat × List Int, fun s => ⟨[(0, .lst 1 (a.map intE) false), (5, .own 0), (6, i64 s.2.1), (9, .lst 1 (b.map intE) false), (10, i64 (b.map intE).length), (11, i64 s.1)], [.row 3 1 (s.2.2.map intE)]⟩,
    fun s => s.1 ≤ b.length ∧ s.2.1 ≤ a.length ∧ s.2.2.length ≤ s.1 + s.2.1 ∧ s.2.2 ++ mergeL (a.drop s.2.1) (b.drop s.1) = mergeL a b, fun s => b.length - s.1, [.slot 5 3 1], ⟨(0, 0, []), ⟨Nat.zero_le _, Nat.zero_le _, Nat.zero_le _, rfl⟩, ?_⟩, ?_⟩
  · conv => whnf
    exact ⟨by repeat' ((conv => whnf); first | exact trivial | refine And.intro (by (conv => arg 1; whnf); first | (with_reducible exact .refl) | exact dle_int (wrap_succ (by omega)) | exact .refl) ?_), by repeat' ((conv => whnf); first | exact trivial | refine And.intro ?_ ?_ | exact .refl), rfl⟩
  · intro ⟨j, i, out⟩ ⟨hj, hi, ho, hm⟩
    simp only at hj hi ho hm
    repeat' ((conv => whnf); first | refine And.intro (fun h => h) ?_ | refine dcond_t (by assumption) ?_ | refine dcond_f (by assumption) ?_ | (refine dcond_intro ?_ ?_ <;> intro h) | exact .refl | refine And.intro (by kernel_rfl) ?_ | refine And.intro ⟨fun h => h, fun h => h⟩ ?_ | refine Exists.intro false ?_ | (refine And.intro ?_ ?_; focus (simp; done)) | fail)
    · have hlt : j < b.length := by simpa using h
      clear h
      have hd : b.drop j = b[j] :: b.drop (j + 1) := List.drop_eq_getElem_cons hlt
      repeat' ((conv => whnf); first | refine And.intro (fun h => h) ?_ | refine dcond_t (by assumption) ?_ | refine dcond_f (by assumption) ?_ | (refine dcond_intro ?_ ?_ <;> intro h) | exact .refl | refine And.intro (by kernel_rfl) ?_ | refine And.intro ⟨fun h => h, fun h => h⟩ ?_ | refine ⟨_, _, And.intro ⟨rfl, get_map hlt⟩ ?_⟩ | refine Exists.intro false ?_ | (refine And.intro ?_ ?_; focus (simp; done)) | fail)
      conv => whnf
      refine ⟨Nat × List Int, fun s => ⟨[(0, .lst 1 (a.map intE) false), (5, .own 0), (6, i64 s.1), (8, .v (.int .i64 b[j])), (9, .lst 1 (b.map intE) false), (10, i64 (b.map intE).length), (11, i64 j)], [.row 3 1 (s.2.map intE)]⟩,
        fun s => s.1 ≤ a.length ∧ s.2.length ≤ j + s.1 ∧ s.2 ++ mergeL (a.drop s.1) (b.drop j) = mergeL a b, fun s => a.length - s.1, [], ⟨(i, out), ⟨hi, ho, hm⟩, ?_⟩, ?_⟩
      · exact ⟨by repeat' ((conv => whnf); first | exact trivial | refine And.intro (by (conv => arg 1; whnf); first | (with_reducible exact .refl) | exact dle_int (wrap_succ (by omega)) | exact .refl) ?_), by repeat' ((conv => whnf); first | exact trivial | refine And.intro ?_ ?_ | exact .refl), rfl⟩
      · intro ⟨i, out⟩ ⟨hi, ho, hm⟩
        simp only at hi ho hm
        repeat' ((conv => whnf); first | refine And.intro (fun h => h) ?_ | refine dcond_t (by assumption) ?_ | refine dcond_f (by assumption) ?_ | (refine dcond_intro ?_ ?_ <;> intro h) | exact .refl | refine And.intro (by kernel_rfl) ?_ | refine And.intro ⟨fun h => h, fun h => h⟩ ?_ | refine Exists.intro false ?_ | (refine And.intro ?_ ?_; focus (simp; done)) | fail)
        · have hlt2 : i < a.length := by simpa using h
          clear h
          have hd2 : a.drop i = a[i] :: a.drop (i + 1) := List.drop_eq_getElem_cons hlt2
          repeat' ((conv => whnf); first | refine And.intro (fun h => h) ?_ | refine dcond_t (by assumption) ?_ | refine dcond_f (by assumption) ?_ | (refine dcond_intro ?_ ?_ <;> intro h) | exact .refl | refine And.intro (by kernel_rfl) ?_ | refine And.intro ⟨fun h => h, fun h => h⟩ ?_ | refine ⟨_, _, And.intro ⟨rfl, get_map hlt2⟩ ?_⟩ | refine Exists.intro false ?_ | (refine And.intro ?_ ?_; focus (simp; done)) | fail)
          · conv => whnf
            refine And.intro (fitsI (by simp; omega)) ?_
            repeat' ((conv => whnf); first | refine And.intro (fun h => h) ?_ | refine dcond_t (by assumption) ?_ | refine dcond_f (by assumption) ?_ | (refine dcond_intro ?_ ?_ <;> intro h) | exact .refl | refine And.intro (by kernel_rfl) ?_ | refine And.intro ⟨fun h => h, fun h => h⟩ ?_ | refine Exists.intro false ?_ | (refine And.intro ?_ ?_; focus (simp; done)) | fail)
            all_goals (conv => whnf)
            refine ⟨(j + 1, i, out ++ [b[j]]), ⟨hlt, hi, by simp; omega, ?_⟩, by simp only []; omega, ?_⟩
            · have h : b[j] < a[i] := by simpa using h
              rw [hd, hd2, merge_gt h] at hm
              rw [← hm, hd2]
              simp
            · refine ⟨by repeat' ((conv => whnf); first | exact trivial | refine And.intro (by (conv => arg 1; whnf); first | (with_reducible exact .refl) | exact dle_int (wrap_succ (by omega)) | exact .refl) ?_), ⟨ole_row ?_, trivial⟩, rfl⟩
              simp
              rfl
          · conv => whnf
            refine And.intro (fitsI (by simp; omega)) ?_
            repeat' ((conv => whnf); first | refine And.intro (fun h => h) ?_ | refine dcond_t (by assumption) ?_ | refine dcond_f (by assumption) ?_ | (refine dcond_intro ?_ ?_ <;> intro h) | exact .refl | refine And.intro (by kernel_rfl) ?_ | refine And.intro ⟨fun h => h, fun h => h⟩ ?_ | refine Exists.intro false ?_ | (refine And.intro ?_ ?_; focus (simp; done)) | fail)
            all_goals (conv => whnf)
            refine ⟨(i + 1, out ++ [a[i]]), ⟨hlt2, by simp; omega, ?_⟩, by simp only []; omega, ?_⟩
            · have h : ¬ b[j] < a[i] := by simpa using h
              rw [hd, hd2, merge_le h] at hm
              rw [← hm, hd]
              simp
            · refine ⟨by repeat' ((conv => whnf); first | exact trivial | refine And.intro (by (conv => arg 1; whnf); first | (with_reducible exact .refl) | exact dle_int (wrap_succ (by omega)) | exact .refl) ?_), ⟨ole_row ?_, trivial⟩, rfl⟩
              simp
              rfl
        · have hge : ¬ i < a.length := by simpa using h
          have : i = a.length := by omega
          subst this
          conv => whnf
          refine And.intro (fitsI (by simp; omega)) ?_
          repeat' ((conv => whnf); first | refine And.intro (fun h => h) ?_ | refine dcond_t (by assumption) ?_ | refine dcond_f (by assumption) ?_ | (refine dcond_intro ?_ ?_ <;> intro h) | exact .refl | refine And.intro (by kernel_rfl) ?_ | refine And.intro ⟨fun h => h, fun h => h⟩ ?_ | refine Exists.intro false ?_ | (refine And.intro ?_ ?_; focus (simp; done)) | fail)
          all_goals (conv => whnf)
          refine ⟨(j + 1, a.length, out ++ [b[j]]), ⟨hlt, hi, by simp; omega, ?_⟩, by simp only []; omega, ?_⟩
          · rw [hd, List.drop_length, merge_nil] at hm
            rw [← hm]
            simp
          · refine ⟨by repeat' ((conv => whnf); first | exact trivial | refine And.intro (by (conv => arg 1; whnf); first | (with_reducible exact .refl) | exact dle_int (wrap_succ (by omega)) | exact .refl) ?_), ⟨ole_row ?_, trivial⟩, rfl⟩
            simp
            rfl
    · have hge : ¬ j < b.length := by simpa using h
      have : j = b.length := by omega
      subst this
      conv => whnf
      refine ⟨i, And.intro ⟨⟨_, rfl⟩, by simpa using hi⟩ ?_⟩
      conv => whnf
      refine And.intro (fitsI (by simp; omega)) ?_
      repeat' ((conv => whnf); first | refine And.intro (fun h => h) ?_ | refine dcond_t (by assumption) ?_ | refine dcond_f (by assumption) ?_ | (refine dcond_intro ?_ ?_ <;> intro h) | exact .refl | refine And.intro (by kernel_rfl) ?_ | refine And.intro ⟨fun h => h, fun h => h⟩ ?_ | refine Exists.intro false ?_ | (refine And.intro ?_ ?_; focus (simp; done)) | fail)
      all_goals (conv => whnf)
      refine dle_lst ?_
      rw [List.drop_length] at hm
      rw [← hm]
      simp [mergeL]
theorem split_len (v : View) (cut l o : List Int) : (splitR v cut l o).2.length ≤ l.length := by
  unfold splitR
  cases (!viewB v || !idsB cut 32)
  · exact List.length_filter_le _ _
  · simp
def stayL (v : View) (cut : List Int) : List Int := (splitR v cut v.mem cut).2
def comeL (v : View) (cut : List Int) : List Int := (splitR v cut cut v.mem).2
def nextR (v : View) (cut : List Int) : View × Int :=
  bif !viewB v || !idsB cut 32 then (⟨0, []⟩, 1)
  else bif decide (2 * ((stayL v cut).length : Int) ≤ (v.mem.length : Int)) then (⟨0, []⟩, 9)
  else bif decide (v.num = 1099511627776) || decide (16 < ((stayL v cut).length : Int) + ((comeL v cut).length : Int)) then (⟨0, []⟩, 5)
  else (⟨IntKind.i64.wrap (v.num + 1), mergeL (stayL v cut) (comeL v cut)⟩, 0)
theorem c_view_Next (v : View) (hv : v.mem.length ≤ 500000) (cut : List Int) (hc : cut.length ≤ 500000) : Ret Tryz.prog 67 [.agg (viewE v), .lst 1 (cut.map intE) false] (.tup [.agg (viewE (nextR v cut).1), .v (.int .i64 (nextR v cut).2)]) := by
  have h1 : v.mem.length ≤ maxLen := Nat.le_trans hv (by decide)
  have h2 : cut.length ≤ maxLen := Nat.le_trans hc (by decide)
  have h3 : (stayL v cut).length ≤ 500000 := Nat.le_trans (split_len _ _ _ _) hv
  have h4 : (comeL v cut).length ≤ 500000 := Nat.le_trans (split_len _ _ _ _) hc
  have e71 : Ret Tryz.prog 107 [.agg (viewE v), .lst 1 (cut.map intE) false] (.lst 1 ((stayL v cut).map intE) false) := c_view_Survivors v (by omega) cut (by omega)
  have e72 : Ret Tryz.prog 108 [.agg (viewE v), .lst 1 (cut.map intE) false] (.lst 1 ((comeL v cut).map intE) false) := c_view_Joiners v (by omega) cut (by omega)
  have w1 : IntKind.i64.wrap (2 * ((stayL v cut).length : Int)) = 2 * ((stayL v cut).length : Int) := wrap_i64 (by omega) (by omega)
  have w2 : IntKind.i64.wrap (((stayL v cut).length : Int) + ((comeL v cut).length : Int)) = ((stayL v cut).length : Int) + ((comeL v cut).length : Int) := wrap_i64 (by omega) (by omega)
  refine ret_of_body (fn := Tryz.f67) (c := Tryz.f67.body.getD .skip) hm hT (by kernel_rfl) Tryz.func67 (by kernel_rfl) (by kernel_rfl) (by kernel_rfl) (by kernel_rfl) ?_
  repeat' ((conv => whnf); first | refine And.intro (fun h => h) ?_ | refine dcond_t (by assumption) ?_ | refine dcond_f (by assumption) ?_ | (refine dcond_intro ?_ ?_ <;> intro h) | exact .refl | refine And.intro (by kernel_rfl) ?_ | refine And.intro ⟨fun h => h, fun h => h⟩ ?_ | refine .inl ⟨_, _, DleAll_refl _, c_view_Valid _ h1, ?_⟩ | refine ⟨_, _, DleAll_refl _, fun _ => c_view_Valid _ h1, ?_⟩ | refine ⟨_, _, DleAll_refl _, c_view_Valid _ h1, ?_⟩ | refine .inl ⟨_, _, DleAll_refl _, c_view_ValidCut _ h2, ?_⟩ | refine ⟨_, _, DleAll_refl _, fun _ => c_view_ValidCut _ h2, ?_⟩ | refine ⟨_, _, DleAll_refl _, c_view_ValidCut _ h2, ?_⟩ | refine .inl ⟨_, _, DleAll_refl _, e71, ?_⟩ | refine ⟨_, _, DleAll_refl _, fun _ => e71, ?_⟩ | refine ⟨_, _, DleAll_refl _, e71, ?_⟩ | refine .inl ⟨_, _, DleAll_refl _, e72, ?_⟩ | refine ⟨_, _, DleAll_refl _, fun _ => e72, ?_⟩ | refine ⟨_, _, DleAll_refl _, e72, ?_⟩ | refine .inl ⟨_, _, DleAll_refl _, c_view_merge _ _ h3 h4, ?_⟩ | refine ⟨_, _, DleAll_refl _, fun _ => c_view_merge _ _ h3 h4, ?_⟩ | refine ⟨_, _, DleAll_refl _, c_view_merge _ _ h3 h4, ?_⟩ | refine Exists.intro false ?_ | (refine And.intro ?_ ?_; focus (simp; done)) | fail)
  all_goals (conv => whnf)
  all_goals clear e71 e72
  all_goals (try simp only [List.length_map, w1, w2] at *)
  all_goals simp only [nextR, *, cond_true, cond_false]
  · exact dle_tupA ⟨dle_aggA ⟨.refl, .nl, trivial⟩, .refl, trivial⟩
  · exact dle_tupA ⟨dle_aggA ⟨.refl, .nl, trivial⟩, .refl, trivial⟩
  · exact dle_tupA ⟨dle_aggA ⟨.refl, .nl, trivial⟩, .refl, trivial⟩
  · exact .refl
theorem c_paxos_applicable (v : View) (hv : v.mem.length ≤ 500000) (cut : List Int) (hc : cut.length ≤ 500000) : Ret Tryz.prog 123 [.agg (viewE v), .lst 1 (cut.map intE) false] (.v (.bool (decide ((nextR v cut).2 = 0)))) := by
  refine ret_of_body (fn := Tryz.f123) (c := Tryz.f123.body.getD .skip) hm hT (by kernel_rfl) Tryz.func123 (by kernel_rfl) (by kernel_rfl) (by kernel_rfl) (by kernel_rfl) ?_
  repeat' ((conv => whnf); first | refine And.intro (fun h => h) ?_ | refine dcond_t (by assumption) ?_ | refine dcond_f (by assumption) ?_ | (refine dcond_intro ?_ ?_ <;> intro h) | exact .refl | refine And.intro (by kernel_rfl) ?_ | refine And.intro ⟨fun h => h, fun h => h⟩ ?_ | refine .inl ⟨_, _, DleAll_refl _, c_view_Next _ hv _ hc, ?_⟩ | refine ⟨_, _, DleAll_refl _, fun _ => c_view_Next _ hv _ hc, ?_⟩ | refine ⟨_, _, DleAll_refl _, c_view_Next _ hv _ hc, ?_⟩ | refine Exists.intro false ?_ | (refine And.intro ?_ ?_; focus (simp; done)) | fail)
end Go.Proofs.YtmbniilpgbjcfaaGreat

set_option maxRecDepth 100000
namespace Go.Proofs.YtmbniilpgbjcfaaGreat
open Go.Lift
def majB (n : Int) : Int := bif !(decide (1 ≤ n) && decide (n ≤ 16)) then 0 else IntKind.i64.wrap (IntKind.i64.wrap (n.tdiv 2) + 1)
theorem c_view_Majority (n : Int) : Ret Tryz.prog 106 [.v (.int .i64 n)] (.v (.int .i64 (majB n))) := by
  refine ret_of_body (fn := Tryz.f106) (c := Tryz.f106.body.getD .skip) hm hT (by kernel_rfl) Tryz.func106 (by kernel_rfl) (by kernel_rfl) (by kernel_rfl) (by kernel_rfl) ?_
  repeat' ((conv => whnf); first | refine And.intro (fun h => h) ?_ | refine dcond_t (by assumption) ?_ | refine dcond_f (by assumption) ?_ | (refine dcond_intro ?_ ?_ <;> intro h) | exact .refl | refine And.intro (by kernel_rfl) ?_ | refine And.intro ⟨fun h => h, fun h => h⟩ ?_ | refine .inl ⟨_, _, DleAll_refl _, c_view_counted _, ?_⟩ | refine ⟨_, _, DleAll_refl _, fun _ => c_view_counted _, ?_⟩ | refine ⟨_, _, DleAll_refl _, c_view_counted _, ?_⟩ | refine Exists.intro false ?_ | (refine And.intro ?_ ?_; focus (simp; done)) | fail)
  all_goals (conv => whnf)
  all_goals refine dle_int ?_
  all_goals simp only [majB, h, cond_true, cond_false]
def fastB (n : Int) : Int := bif !(decide (1 ≤ n) && decide (n ≤ 16)) then 0 else IntKind.i64.wrap (n - IntKind.i64.wrap ((IntKind.i64.wrap (n - 1)).tdiv 4))
theorem c_view_FastQuorum (n : Int) : Ret Tryz.prog 112 [.v (.int .i64 n)] (.v (.int .i64 (fastB n))) := by
  refine ret_of_body (fn := Tryz.f112) (c := Tryz.f112.body.getD .skip) hm hT (by kernel_rfl) Tryz.func112 (by kernel_rfl) (by kernel_rfl) (by kernel_rfl) (by kernel_rfl) ?_
  repeat' ((conv => whnf); first | refine And.intro (fun h => h) ?_ | refine dcond_t (by assumption) ?_ | refine dcond_f (by assumption) ?_ | (refine dcond_intro ?_ ?_ <;> intro h) | exact .refl | refine And.intro (by kernel_rfl) ?_ | refine And.intro ⟨fun h => h, fun h => h⟩ ?_ | refine .inl ⟨_, _, DleAll_refl _, c_view_counted _, ?_⟩ | refine ⟨_, _, DleAll_refl _, fun _ => c_view_counted _, ?_⟩ | refine ⟨_, _, DleAll_refl _, c_view_counted _, ?_⟩ | refine Exists.intro false ?_ | (refine And.intro ?_ ?_; focus (simp; done)) | fail)
  all_goals (conv => whnf)
  all_goals refine dle_int ?_
  all_goals simp only [fastB, h, cond_true, cond_false]
def rpt0 : Rpt := ⟨0, 0, []⟩
def prevM (l : List Rpt) (i : Nat) : Int := (0 :: l.map (·.mem)).getD i 0
def okRep (v : View) (l : List Rpt) (i : Nat) : Bool :=
  !(decide ((l.getD i rpt0).mem ≤ prevM l i) || !inB v.mem (l.getD i rpt0).mem) &&
    (decide ((l.getD i rpt0).rank = -1) && decide (((l.getD i rpt0).cut.length : Int) = 0) ||
      (decide ((l.getD i rpt0).rank = 0) || usableB (l.getD i rpt0).rank) && decide ((nextR v (l.getD i rpt0).cut).2 = 0))
def repsB (v : View) (l : List Rpt) : Bool := viewB v && allB (okRep v l) l.length
theorem c_paxos_ValidReports (v : View) (hv : v.mem.length ≤ 500000) (l : List Rpt) (hl : l.length ≤ maxLen) (hc : ∀ r ∈ l, r.cut.length ≤ 500000) : Ret Tryz.prog 105 [.agg (viewE v), .lst 3 (l.map rptE) false] (.v (.bool (repsB v l))) := by
  have hl' : l.length ≤ 9223372036854775807 := hl
  have h1 : v.mem.length ≤ maxLen := Nat.le_trans hv (by decide)
  refine ret_of_body (fn := Tryz.f105) (c := Tryz.f105.body.getD .skip) hm hT (by kernel_rfl) Tryz.func105 (by kernel_rfl) (by kernel_rfl) (by kernel_rfl) (by kernel_rfl) ?_
  repeat' ((conv => whnf); first | refine And.intro (fun h => h) ?_ | refine dcond_t (by assumption) ?_ | refine dcond_f (by assumption) ?_ | (refine dcond_intro ?_ ?_ <;> intro h) | exact .refl | refine And.intro (by kernel_rfl) ?_ | refine And.intro ⟨fun h => h, fun h => h⟩ ?_ | refine .inl ⟨_, _, DleAll_refl _, c_view_Valid _ h1, ?_⟩ | refine ⟨_, _, DleAll_refl _, fun _ => c_view_Valid _ h1, ?_⟩ | refine ⟨_, _, DleAll_refl _, c_view_Valid _ h1, ?_⟩ | refine Exists.intro false ?_ | (refine And.intro ?_ ?_; focus (simp; done)) | fail)
  · refine dle_bool ?_
    have h : viewB v = false := by simpa using h
    simp [repsB, h]
  · have hvw : viewB v = true := by simpa using h
    clear h
    conv => whnf
    refine ⟨Nat, fun i => ⟨[(2, .lp 0 0), (5, i64 (prevM l i)), (11, .lst 3 (l.map rptE) false), (12, i64 (l.map rptE).length), (13, i64 i)], [.cells 24 (viewE v)]⟩, fun i => i ≤ l.length ∧ ∀ j, j < i → okRep v l j = true, fun i => l.length - i, [], ⟨0, ⟨Nat.zero_le _, by omega⟩, ?_⟩, ?_⟩
    · exact ⟨by repeat' ((conv => whnf); first | exact trivial | refine And.intro (by (conv => arg 1; whnf); first | (with_reducible exact .refl) | exact dle_int (wrap_succ (by omega)) | exact .refl) ?_), by repeat' ((conv => whnf); first | exact trivial | refine And.intro ?_ ?_ | exact .refl), rfl⟩
    · intro i ⟨hi, hall⟩
      repeat' ((conv => whnf); first | refine And.intro (fun h => h) ?_ | refine dcond_t (by assumption) ?_ | refine dcond_f (by assumption) ?_ | (refine dcond_intro ?_ ?_ <;> intro h) | exact .refl | refine And.intro (by kernel_rfl) ?_ | refine And.intro ⟨fun h => h, fun h => h⟩ ?_ | refine Exists.intro false ?_ | (refine And.intro ?_ ?_; focus (simp; done)) | fail)
      · have hlt : i < l.length := by simpa using h
        clear h
        have hg : l.getD i rpt0 = l[i] := by simp [hlt]
        have hcc : (l[i]).cut.length ≤ 500000 := hc _ (List.getElem_mem hlt)
        have bad : okRep v l i = false → false = repsB v l := fun hb => by rw [repsB, allB_false hlt hb, Bool.and_false]
        have good : okRep v l i = true → ∃ x', (fun i => i ≤ l.length ∧ ∀ j, j < i → okRep v l j = true) x' ∧ (fun i => l.length - i) x' < (fun i => l.length - i) i ∧ x' = i + 1 := fun hb =>
          ⟨i + 1, ⟨hlt, fun j hj => by
            rcases Nat.lt_succ_iff_lt_or_eq.1 hj with hj | rfl
            · exact hall j hj
            · exact hb⟩, by simp only []; omega, rfl⟩
        have hp : prevM l (i + 1) = l[i].mem := by simp [prevM, hlt]
        repeat' ((conv => whnf); first | refine And.intro (fun h => h) ?_ | refine dcond_t (by assumption) ?_ | refine dcond_f (by assumption) ?_ | (refine dcond_intro ?_ ?_ <;> intro h) | exact .refl | refine And.intro (by kernel_rfl) ?_ | refine And.intro ⟨fun h => h, fun h => h⟩ ?_ | refine ⟨_, _, And.intro ⟨rfl, get_map hlt⟩ ?_⟩ | refine .inl ⟨_, _, DleAll_refl _, c_view_Contains _ h1 _, ?_⟩ | refine ⟨_, _, DleAll_refl _, fun _ => c_view_Contains _ h1 _, ?_⟩ | refine ⟨_, _, DleAll_refl _, c_view_Contains _ h1 _, ?_⟩ | refine .inl ⟨_, _, DleAll_refl _, c_paxos_usable _, ?_⟩ | refine ⟨_, _, DleAll_refl _, fun _ => c_paxos_usable _, ?_⟩ | refine ⟨_, _, DleAll_refl _, c_paxos_usable _, ?_⟩ | refine .inl ⟨_, _, DleAll_refl _, c_paxos_applicable _ hv _ hcc, ?_⟩ | refine ⟨_, _, DleAll_refl _, fun _ => c_paxos_applicable _ hv _ hcc, ?_⟩ | refine ⟨_, _, DleAll_refl _, c_paxos_applicable _ hv _ hcc, ?_⟩ | refine Exists.intro false ?_ | (refine And.intro ?_ ?_; focus (simp; done)) | fail)
        all_goals (conv => whnf)
        · refine dle_bool (bad ?_)
          simp only [okRep, hg, h]
          rfl
        · rename_i h0
          rw [List.length_map] at h
          obtain ⟨x', k1, k2, rfl⟩ := good (by simp only [okRep, hg, h0, h]; rfl)
          refine ⟨i + 1, k1, k2, ?_⟩
          refine ⟨⟨.refl, ?_, .refl, .refl, dle_int (wrap_succ (by omega)), trivial⟩, ⟨.refl, trivial⟩, rfl⟩
          exact dle_int hp.symm
        · rename_i h0 h2
          rw [List.length_map] at h2
          obtain ⟨x', k1, k2, rfl⟩ := good (by simp only [okRep, hg, h0, h2, h]; rfl)
          refine ⟨i + 1, k1, k2, ?_⟩
          refine ⟨⟨.refl, ?_, .refl, .refl, dle_int (wrap_succ (by omega)), trivial⟩, ⟨.refl, trivial⟩, rfl⟩
          exact dle_int hp.symm
        · rename_i h0 h2
          rw [List.length_map] at h2
          refine dle_bool (bad ?_)
          simp only [okRep, hg, h0, h2, h]
          rfl
      · have hge : ¬ i < l.length := by simpa using h
        conv => whnf
        refine dle_bool ?_
        rw [repsB, hvw, allB_true.2 (fun j hj => hall j (by omega))]
        rfl
structure Bal where
  mem : Int
  cut : List Int
def balE (b : Bal) : List DV := [.v (.int .i64 b.mem), .lst 1 (b.cut.map intE) false]
def votesN (l : List Bal) (cut : List Int) : Nat := (l.filter fun b => sameI b.cut cut).length
theorem votes_in {l : List Bal} {cut : List Int} {i : Nat} (h : i < l.length) (hs : sameI (l[i]'h).cut cut = true) : votesN (l.take (i + 1)) cut = votesN (l.take i) cut + 1 := by
  simp only [votesN, List.take_succ_eq_append_getElem h, List.filter_append]
  simp [hs]
theorem votes_out {l : List Bal} {cut : List Int} {i : Nat} (h : i < l.length) (hs : sameI (l[i]'h).cut cut = false) : votesN (l.take (i + 1)) cut = votesN (l.take i) cut := by
  simp only [votesN, List.take_succ_eq_append_getElem h, List.filter_append]
  simp [hs]
theorem votes_le (l : List Bal) (cut : List Int) (i : Nat) : votesN (l.take i) cut ≤ i :=
  Nat.le_trans (List.length_filter_le _ _) (by simp; omega)
theorem c_fastvote_Votes (l : List Bal) (hl : l.length ≤ 500000) (hc : ∀ b ∈ l, b.cut.length ≤ maxLen) (cut : List Int) : Ret Tryz.prog 126 [.lst 2 (l.map balE) false, .lst 1 (cut.map intE) false] (.v (.int .i64 (votesN l cut))) := by
  refine ret_of_body (fn := Tryz.f126) (c := Tryz.f126.body.getD .skip) hm hT (by kernel_rfl) Tryz.func126 (by kernel_rfl) (by kernel_rfl) (by kernel_rfl) (by kernel_rfl) ?_
  repeat' ((conv => whnf); first | refine And.intro (fun h => h) ?_ | refine dcond_t (by assumption) ?_ | refine dcond_f (by assumption) ?_ | (refine dcond_intro ?_ ?_ <;> intro h) | exact .refl | refine And.intro (by kernel_rfl) ?_ | refine And.intro ⟨fun h => h, fun h => h⟩ ?_ | refine Exists.intro false ?_ | (refine And.intro ?_ ?_; focus (simp; done)) | fail)
  refine ⟨Nat, fun i => ⟨[(1, .lst 1 (cut.map intE) false), (5, i64 (votesN (l.take i) cut)), (8, .lst 2 (l.map balE) false), (9, i64 (l.map balE).length), (10, i64 i)], []⟩, fun i => i ≤ l.length, fun i => l.length - i, [], ⟨0, Nat.zero_le _, ?_⟩, ?_⟩
  · exact ⟨by repeat' ((conv => whnf); first | exact trivial | refine And.intro (by (conv => arg 1; whnf); first | (with_reducible exact .refl) | exact dle_int (wrap_succ (by omega)) | exact .refl) ?_), by repeat' ((conv => whnf); first | exact trivial | refine And.intro ?_ ?_ | exact .refl), rfl⟩
  · intro i hi
    repeat' ((conv => whnf); first | refine And.intro (fun h => h) ?_ | refine dcond_t (by assumption) ?_ | refine dcond_f (by assumption) ?_ | (refine dcond_intro ?_ ?_ <;> intro h) | exact .refl | refine And.intro (by kernel_rfl) ?_ | refine And.intro ⟨fun h => h, fun h => h⟩ ?_ | refine Exists.intro false ?_ | (refine And.intro ?_ ?_; focus (simp; done)) | fail)
    · have hlt : i < l.length := by simpa using h
      clear h
      have hcc := hc _ (List.getElem_mem hlt)
      have hle := votes_le l cut i
      repeat' ((conv => whnf); first | refine And.intro (fun h => h) ?_ | refine dcond_t (by assumption) ?_ | refine dcond_f (by assumption) ?_ | (refine dcond_intro ?_ ?_ <;> intro h) | exact .refl | refine And.intro (by kernel_rfl) ?_ | refine And.intro ⟨fun h => h, fun h => h⟩ ?_ | refine ⟨_, _, And.intro ⟨rfl, get_map hlt⟩ ?_⟩ | refine .inl ⟨_, _, DleAll_refl _, c_fastvote_Same _ _ hcc, ?_⟩ | refine ⟨_, _, DleAll_refl _, fun _ => c_fastvote_Same _ _ hcc, ?_⟩ | refine ⟨_, _, DleAll_refl _, c_fastvote_Same _ _ hcc, ?_⟩ | refine Exists.intro false ?_ | (refine And.intro ?_ ?_; focus (simp; done)) | fail)
      all_goals (conv => whnf)
      all_goals refine ⟨i + 1, hlt, by simp only []; omega, ?_⟩
      · refine ⟨⟨.refl, ?_, .refl, .refl, dle_int (wrap_succ (by omega)), trivial⟩, trivial, rfl⟩
        rw [votes_in hlt h]
        exact dle_int (wrap_succ (by omega))
      · refine ⟨⟨.refl, ?_, .refl, .refl, dle_int (wrap_succ (by omega)), trivial⟩, trivial, rfl⟩
        rw [votes_out hlt h]
        exact .refl
    · have hge : ¬ i < l.length := by simpa using h
      have : i = l.length := by omega
      subst this
      conv => whnf
      rw [List.take_length]
      exact .refl
def hiAt (l : List Rpt) : Nat → Nat
  | 0 => 0
  | i + 1 => bif decide ((l.getD (hiAt l i) rpt0).rank < (l.getD i rpt0).rank) then i else hiAt l i
theorem hiAt_le (l : List Rpt) : ∀ i, hiAt l i ≤ i
  | 0 => Nat.le_refl _
  | i + 1 => by
    have := hiAt_le l i
    unfold hiAt
    cases decide ((l.getD (hiAt l i) rpt0).rank < (l.getD i rpt0).rank) <;> simp <;> omega
def boxOf (l : List Rpt) : List Bal := (l.filter fun r => decide (r.rank = 0)).map fun r => ⟨r.mem, r.cut⟩
def thrB (v : View) (l : List Rpt) : Int := IntKind.i64.wrap (IntKind.i64.wrap (fastB v.mem.length + (l.length : Int)) - (v.mem.length : Int))
def gateB (v : View) (l : List Rpt) (own : List Int) : Bool := !repsB v l || decide ((l.length : Int) < majB v.mem.length) || decide (0 < (own.length : Int)) && !decide ((nextR v own).2 = 0)
def chooseR (v : View) (l : List Rpt) (own : List Int) : List Int × Bool :=
  bif gateB v l own then ([], false)
  else bif decide (0 < (l.getD (hiAt l l.length) rpt0).rank) then ((l.getD (hiAt l l.length) rpt0).cut, true)
  else match (boxOf l).find? (fun b => decide (thrB v l ≤ (votesN (boxOf l) b.cut : Int))) with
    | some b => (b.cut, true)
    | none => bif decide ((own.length : Int) = 0) then ([], false) else (own, true)
theorem hi_in {l : List Rpt} {i : Nat} (h1 : i < l.length) (h2 : hiAt l i < l.length) (h : decide ((l[hiAt l i]'h2).rank < (l[i]'h1).rank) = true) : hiAt l (i + 1) = i := by
  have e1 : l.getD (hiAt l i) rpt0 = l[hiAt l i] := by simp [h2]
  have e2 : l.getD i rpt0 = l[i] := by simp [h1]
  simp only [hiAt, e1, e2, h, cond_true]
theorem hi_out {l : List Rpt} {i : Nat} (h1 : i < l.length) (h2 : hiAt l i < l.length) (h : decide ((l[hiAt l i]'h2).rank < (l[i]'h1).rank) = false) : hiAt l (i + 1) = hiAt l i := by
  have e1 : l.getD (hiAt l i) rpt0 = l[hiAt l i] := by simp [h2]
  have e2 : l.getD i rpt0 = l[i] := by simp [h1]
  simp only [hiAt, e1, e2, h, cond_false]
theorem box_len (l : List Rpt) (i : Nat) : (boxOf (l.take i)).length ≤ i := by
  simp only [boxOf, List.length_map]
  exact Nat.le_trans (List.length_filter_le _ _) (by simp; omega)
theorem box_in {l : List Rpt} {i : Nat} (h1 : i < l.length) (h : decide ((l[i]'h1).rank = 0) = true) : (boxOf (l.take i)).map balE ++ [balE ⟨(l[i]'h1).mem, (l[i]'h1).cut⟩] = (boxOf (l.take (i + 1))).map balE := by
  simp only [boxOf, List.take_succ_eq_append_getElem h1, List.filter_append, List.map_append]
  simp only [List.filter_cons, h, if_true, List.filter_nil, List.map_cons, List.map_nil]
theorem box_out {l : List Rpt} {i : Nat} (h1 : i < l.length) (h : decide ((l[i]'h1).rank = 0) = false) : (boxOf (l.take i)).map balE = (boxOf (l.take (i + 1))).map balE := by
  simp only [boxOf, List.take_succ_eq_append_getElem h1, List.filter_append, List.map_append]
  simp [List.filter_cons, h]
theorem hiAt_lt (l : List Rpt) {n : Nat} (h : 0 < n) : hiAt l n < n := by
  obtain ⟨i, rfl⟩ : ∃ i, n = i + 1 := ⟨n - 1, by omega⟩
  have := hiAt_le l i
  unfold hiAt
  cases decide ((l.getD (hiAt l i) rpt0).rank < (l.getD i rpt0).rank) <;> simp <;> omega
theorem maj_pos {n : Nat} (h1 : 1 ≤ n) (h2 : n ≤ 16) : 1 ≤ majB n := by
  have e : (!(decide (1 ≤ (n : Int)) && decide ((n : Int) ≤ 16))) = false := by simp; omega
  have e2 : Int.tdiv (n : Int) 2 = ((n / 2 : Nat) : Int) := rfl
  simp only [majB, e, cond_false, e2]
  rw [wrap_i64 (n := ((n / 2 : Nat) : Int)) (by omega) (by omega), wrap_i64 (by omega) (by omega)]
  omega
theorem gate_pos {v : View} {l : List Rpt} {own : List Int} (h : gateB v l own = false) : 0 < l.length ∧ 1 ≤ v.mem.length ∧ v.mem.length ≤ 16 := by
  simp only [gateB, Bool.or_eq_false_iff, Bool.not_eq_false', decide_eq_false_iff_not] at h
  obtain ⟨⟨h1, h2⟩, _⟩ := h
  simp only [repsB, viewB, idsB, Bool.and_eq_true, Bool.not_eq_true', Bool.or_eq_false_iff, decide_eq_false_iff_not] at h1
  have h3 := h1.1.2.1
  have := maj_pos (n := v.mem.length) (by omega) (by omega)
  omega
theorem box_cut {l : List Rpt} {N : Nat} (hc : ∀ r ∈ l, r.cut.length ≤ N) : ∀ b ∈ boxOf l, b.cut.length ≤ N := by
  intro b hb
  simp only [boxOf, List.mem_map, List.mem_filter] at hb
  obtain ⟨r, ⟨hr, _⟩, rfl⟩ := hb
  exact hc r hr
theorem fits2 {n : Nat} (h : n ≤ 2000000) : fitsIn tt 63 n := by
  have e : (tinfo tt 63).bytes = 32 := by kernel_rfl
  refine ⟨?_, ?_⟩
  · rw [e]; omega
  · simp only [maxLen]; omega
theorem c_paxos_Choose (v : View) (hv : v.mem.length ≤ 500000) (l : List Rpt) (hl : l.length ≤ 500000) (hc : ∀ r ∈ l, r.cut.length ≤ 500000) (own : List Int) (ho : own.length ≤ 500000) :
    Ret Tryz.prog 121 [.agg (viewE v), .lst 3 (l.map rptE) false, .lst 1 (own.map intE) false] (.tup [.lst 1 ((chooseR v l own).1.map intE) false, .v (.bool (chooseR v l own).2)]) := by
  have hl' : l.length ≤ maxLen := Nat.le_trans hl (by decide)
  refine ret_of_body (fn := Tryz.f121) (c := Tryz.f121.body.getD .skip) hm hT (by kernel_rfl) Tryz.func121 (by kernel_rfl) (by kernel_rfl) (by kernel_rfl) (by kernel_rfl) ?_
  repeat' ((conv => whnf); first | refine And.intro (fun h => h) ?_ | refine dcond_t (by assumption) ?_ | refine dcond_f (by assumption) ?_ | (refine dcond_intro ?_ ?_ <;> intro h) | exact .refl | refine And.intro (by kernel_rfl) ?_ | refine And.intro ⟨fun h => h, fun h => h⟩ ?_ | refine .inl ⟨_, _, DleAll_refl _, c_paxos_ValidReports _ hv _ hl' hc, ?_⟩ | refine ⟨_, _, DleAll_refl _, fun _ => c_paxos_ValidReports _ hv _ hl' hc, ?_⟩ | refine ⟨_, _, DleAll_refl _, c_paxos_ValidReports _ hv _ hl' hc, ?_⟩ | refine .inl ⟨_, _, DleAll_refl _, c_view_Majority _, ?_⟩ | refine ⟨_, _, DleAll_refl _, fun _ => c_view_Majority _, ?_⟩ | refine ⟨_, _, DleAll_refl _, c_view_Majority _, ?_⟩ | refine .inl ⟨_, _, DleAll_refl _, c_paxos_applicable _ hv _ ho, ?_⟩ | refine ⟨_, _, DleAll_refl _, fun _ => c_paxos_applicable _ hv _ ho, ?_⟩ | refine ⟨_, _, DleAll_refl _, c_paxos_applicable _ hv _ ho, ?_⟩ | refine Exists.intro false ?_ | (refine And.intro ?_ ?_; focus (simp; done)) | fail)
  all_goals (conv => whnf)
  · have h : gateB v l own = true := by
      simp only [List.length_map] at h
      exact h
    simp only [chooseR, h, cond_true]
    exact dle_tupA ⟨.nl, .refl, trivial⟩
  · have h0 := h
    clear h
    refine ⟨Nat, fun i => ⟨[(1, .lst 3 (l.map rptE) false), (2, .lst 1 (own.map intE) false), (8, i64 (v.mem.map intE).length), (9, i64 (hiAt l i)), (10, .own 1), (40, .lst 3 (l.map rptE) false), (41, i64 (l.map rptE).length), (42, i64 i)], [.cells 24 (viewE v), .row 63 2 ((boxOf (l.take i)).map balE)]⟩, fun i => i ≤ l.length, fun i => l.length - i, [.slot 10 63 2], ⟨0, Nat.zero_le _, ?_⟩, ?_⟩
    · conv => whnf
      exact ⟨by repeat' ((conv => whnf); first | exact trivial | refine And.intro (by (conv => arg 1; whnf); first | (with_reducible exact .refl) | exact dle_int (wrap_succ (by omega)) | exact .refl) ?_), by repeat' ((conv => whnf); first | exact trivial | refine And.intro ?_ ?_ | exact .refl), rfl⟩
    · intro i hi
      repeat' ((conv => whnf); first | refine And.intro (fun h => h) ?_ | refine dcond_t (by assumption) ?_ | refine dcond_f (by assumption) ?_ | (refine dcond_intro ?_ ?_ <;> intro h) | exact .refl | refine And.intro (by kernel_rfl) ?_ | refine And.intro ⟨fun h => h, fun h => h⟩ ?_ | refine Exists.intro false ?_ | (refine And.intro ?_ ?_; focus (simp; done)) | fail)
      · have hlt : i < l.length := by simpa using h
        clear h
        have hle := hiAt_le l i
        have hlt2 : hiAt l i < l.length := by omega
        repeat' ((conv => whnf); first | refine And.intro (fun h => h) ?_ | refine dcond_t (by assumption) ?_ | refine dcond_f (by assumption) ?_ | (refine dcond_intro ?_ ?_ <;> intro h) | exact .refl | refine And.intro (by kernel_rfl) ?_ | refine And.intro ⟨fun h => h, fun h => h⟩ ?_ | refine ⟨_, _, And.intro ⟨rfl, get_map hlt⟩ ?_⟩ | refine ⟨_, _, And.intro ⟨rfl, get_map hlt2⟩ ?_⟩ | refine Exists.intro false ?_ | (refine And.intro ?_ ?_; focus (simp; done)) | fail)
        all_goals (conv => whnf)
        · rename_i hr
          have hb := box_len l i
          refine And.intro (fits2 (by simp; omega)) ?_
          repeat' ((conv => whnf); first | refine And.intro (fun h => h) ?_ | refine dcond_t (by assumption) ?_ | refine dcond_f (by assumption) ?_ | (refine dcond_intro ?_ ?_ <;> intro h) | exact .refl | refine And.intro (by kernel_rfl) ?_ | refine And.intro ⟨fun h => h, fun h => h⟩ ?_ | refine Exists.intro false ?_ | (refine And.intro ?_ ?_; focus (simp; done)) | fail)
          all_goals (conv => whnf)
          refine ⟨i + 1, hlt, by simp only []; omega, ?_⟩
          refine ⟨⟨.refl, .refl, .refl, dle_int (by rw [hi_in hlt hlt2 hr]), .refl, .refl, .refl, dle_int (wrap_succ (by omega)), trivial⟩, ⟨.refl, ole_row (box_in hlt h), trivial⟩, rfl⟩
        · rename_i hr
          refine ⟨i + 1, hlt, by simp only []; omega, ?_⟩
          refine ⟨⟨.refl, .refl, .refl, dle_int (by rw [hi_in hlt hlt2 hr]), .refl, .refl, .refl, dle_int (wrap_succ (by omega)), trivial⟩, ⟨.refl, ole_row (box_out hlt h), trivial⟩, rfl⟩
        · rename_i hr
          have hb := box_len l i
          refine And.intro (fits2 (by simp; omega)) ?_
          repeat' ((conv => whnf); first | refine And.intro (fun h => h) ?_ | refine dcond_t (by assumption) ?_ | refine dcond_f (by assumption) ?_ | (refine dcond_intro ?_ ?_ <;> intro h) | exact .refl | refine And.intro (by kernel_rfl) ?_ | refine And.intro ⟨fun h => h, fun h => h⟩ ?_ | refine Exists.intro false ?_ | (refine And.intro ?_ ?_; focus (simp; done)) | fail)
          all_goals (conv => whnf)
          refine ⟨i + 1, hlt, by simp only []; omega, ?_⟩
          refine ⟨⟨.refl, .refl, .refl, dle_int (by rw [hi_out hlt hlt2 hr]), .refl, .refl, .refl, dle_int (wrap_succ (by omega)), trivial⟩, ⟨.refl, ole_row (box_in hlt h), trivial⟩, rfl⟩
        · rename_i hr
          refine ⟨i + 1, hlt, by simp only []; omega, ?_⟩
          refine ⟨⟨.refl, .refl, .refl, dle_int (by rw [hi_out hlt hlt2 hr]), .refl, .refl, .refl, dle_int (wrap_succ (by omega)), trivial⟩, ⟨.refl, ole_row (box_out hlt h), trivial⟩, rfl⟩
      · have hge : ¬ i < l.length := by simpa using h
        have : i = l.length := by omega
        subst this
        clear h
        have h0 : gateB v l own = false := by
          simp only [List.length_map] at h0
          exact h0
        obtain ⟨hpos, hm1, hm2⟩ := gate_pos h0
        have hlt := hiAt_lt l hpos
        have hg : l.getD (hiAt l l.length) rpt0 = l[hiAt l l.length] := by simp [hlt]
        have hcc := hc _ (List.getElem_mem hlt)
        conv => whnf
        repeat' ((conv => whnf); first | refine And.intro (fun h => h) ?_ | refine dcond_t (by assumption) ?_ | refine dcond_f (by assumption) ?_ | (refine dcond_intro ?_ ?_ <;> intro h) | exact .refl | refine And.intro (by kernel_rfl) ?_ | refine And.intro ⟨fun h => h, fun h => h⟩ ?_ | refine ⟨_, _, And.intro ⟨rfl, get_map hlt⟩ ?_⟩ | refine .inl ⟨_, _, DleAll_refl _, c_paxos_clone _ (Nat.le_trans hcc (by decide)), ?_⟩ | refine ⟨_, _, DleAll_refl _, fun _ => c_paxos_clone _ (Nat.le_trans hcc (by decide)), ?_⟩ | refine ⟨_, _, DleAll_refl _, c_paxos_clone _ (Nat.le_trans hcc (by decide)), ?_⟩ | refine Exists.intro false ?_ | (refine And.intro ?_ ?_; focus (simp; done)) | fail)
        all_goals (conv => whnf)
        · simp only [chooseR, h0, hg, h, cond_true, cond_false]
          exact .refl
        · have h1 := h
          clear h
          have hbl : (boxOf l).length ≤ 500000 := by
            have := box_len l l.length
            rw [List.take_length] at this
            omega
          have hbc := box_cut hc
          have e49 := fun cut => c_fastvote_Votes (boxOf l) hbl (fun b hb => Nat.le_trans (hbc b hb) (by decide)) cut
          have htk : l.take l.length = l := List.take_length
          rw [htk]
          refine ⟨Nat, fun i => ⟨[(1, .lst 3 (l.map rptE) false), (2, .lst 1 (own.map intE) false), (8, i64 (v.mem.map intE).length), (10, .own 1), (80, .own 1), (81, i64 (boxOf l).length), (82, i64 i)], [.cells 24 (viewE v), .row 63 2 ((boxOf l).map balE)]⟩, fun i => i ≤ (boxOf l).length ∧ ∀ j (hj : j < (boxOf l).length), j < i → decide (thrB v l ≤ (votesN (boxOf l) (boxOf l)[j].cut : Int)) = false, fun i => (boxOf l).length - i, [], ⟨0, ⟨Nat.zero_le _, by omega⟩, ?_⟩, ?_⟩
          · refine ⟨⟨.refl, .refl, .refl, .refl, .refl, dle_int (by simp), .refl, trivial⟩, ⟨.refl, .refl, trivial⟩, rfl⟩
          · intro i ⟨hi, hall⟩
            repeat' ((conv => whnf); first | refine And.intro (fun h => h) ?_ | refine dcond_t (by assumption) ?_ | refine dcond_f (by assumption) ?_ | (refine dcond_intro ?_ ?_ <;> intro h) | exact .refl | refine And.intro (by kernel_rfl) ?_ | refine And.intro ⟨fun h => h, fun h => h⟩ ?_ | refine .inl ⟨_, _, DleAll_refl _, c_paxos_clone _ (Nat.le_trans ho (by decide)), ?_⟩ | refine ⟨_, _, DleAll_refl _, fun _ => c_paxos_clone _ (Nat.le_trans ho (by decide)), ?_⟩ | refine ⟨_, _, DleAll_refl _, c_paxos_clone _ (Nat.le_trans ho (by decide)), ?_⟩ | refine Exists.intro false ?_ | (refine And.intro ?_ ?_; focus (simp; done)) | fail)
            · have hlt : i < (boxOf l).length := by simpa using h
              clear h
              have hlt3 : i < ((boxOf l).map balE).length := by simpa using hlt
              have hes : ((boxOf l).map balE)[i]? = some (balE ((boxOf l)[i]'hlt)) := get_map hlt
              have hcc := hbc _ (List.getElem_mem hlt)
              repeat' ((conv => whnf); first | refine And.intro (fun h => h) ?_ | refine dcond_t (by assumption) ?_ | refine dcond_f (by assumption) ?_ | (refine dcond_intro ?_ ?_ <;> intro h) | exact .refl | refine And.intro (by kernel_rfl) ?_ | refine And.intro ⟨fun h => h, fun h => h⟩ ?_ | refine .inl ⟨_, _, DleAll_refl _, e49 _, ?_⟩ | refine ⟨_, _, DleAll_refl _, fun _ => e49 _, ?_⟩ | refine ⟨_, _, DleAll_refl _, e49 _, ?_⟩ | refine .inl ⟨_, _, DleAll_refl _, c_view_FastQuorum _, ?_⟩ | refine ⟨_, _, DleAll_refl _, fun _ => c_view_FastQuorum _, ?_⟩ | refine ⟨_, _, DleAll_refl _, c_view_FastQuorum _, ?_⟩ | refine .inl ⟨_, _, DleAll_refl _, c_paxos_clone _ (Nat.le_trans hcc (by decide)), ?_⟩ | refine ⟨_, _, DleAll_refl _, fun _ => c_paxos_clone _ (Nat.le_trans hcc (by decide)), ?_⟩ | refine ⟨_, _, DleAll_refl _, c_paxos_clone _ (Nat.le_trans hcc (by decide)), ?_⟩ | refine ⟨i, And.intro ⟨rfl, hlt3⟩ ?_⟩ | refine ⟨balE ((boxOf l)[i]'hlt), And.intro hes ?_⟩ | refine Exists.intro false ?_ | (refine And.intro ?_ ?_; focus (simp; done)) | fail)
              all_goals (conv => whnf)
              · have h : decide (thrB v l ≤ (votesN (boxOf l) (boxOf l)[i].cut : Int)) = true := by
                  simp only [List.length_map] at h
                  exact h
                have hf : (boxOf l).find? (fun b => decide (thrB v l ≤ (votesN (boxOf l) b.cut : Int))) = some (boxOf l)[i] :=
                  List.find?_eq_some_iff_getElem.2 ⟨h, i, hlt, rfl, fun j hj => by simpa using hall j (by omega) hj⟩
                simp only [chooseR, h0, hg, h1, hf, cond_true, cond_false]
                exact .refl
              · have h : decide (thrB v l ≤ (votesN (boxOf l) (boxOf l)[i].cut : Int)) = false := by
                  simp only [List.length_map] at h
                  exact h
                refine ⟨i + 1, ⟨hlt, fun j hj hji => ?_⟩, by simp only []; omega, ?_⟩
                · rcases Nat.lt_succ_iff_lt_or_eq.1 hji with hji | rfl
                  · exact hall j hj hji
                  · exact h
                · exact ⟨⟨.refl, .refl, .refl, .refl, .refl, .refl, dle_int (wrap_succ (by omega)), trivial⟩, ⟨.refl, .refl, trivial⟩, rfl⟩
            all_goals (conv => whnf)
            all_goals rename_i hx
            all_goals have hge : ¬ i < (boxOf l).length := by simpa using hx
            all_goals have hf : (boxOf l).find? (fun b => decide (thrB v l ≤ (votesN (boxOf l) b.cut : Int))) = none := List.find?_eq_none.2 (fun b hb => by
              obtain ⟨j, hj, rfl⟩ := List.getElem_of_mem hb
              simpa using hall j hj (by omega))
            all_goals rw [List.length_map] at h
            all_goals simp only [chooseR, h0, hg, h1, hf, h, cond_true, cond_false]
            · exact dle_tupA ⟨.nl, .refl, trivial⟩
            · exact .refl
theorem rankOf_in {a m : Int} (h1 : 1 ≤ a) (h2 : a ≤ 1048575) (h3 : 1 ≤ m) (h4 : m ≤ 1000) : rankOf a m = 1024 * a + m := by
  have e : (decide (a < 1) || decide (1048575 < a) || decide (m < 1) || decide (1000 < m)) = false := by
    simp only [Bool.or_eq_false_iff, decide_eq_false_iff_not]; omega
  simp only [rankOf, e, cond_false]
  rw [wrap_i64 (n := 1024 * a) (by omega) (by omega), wrap_i64 (by omega) (by omega)]
theorem rankOf_out {a m : Int} (h : ¬ (1 ≤ a ∧ a ≤ 1048575 ∧ 1 ≤ m ∧ m ≤ 1000)) : rankOf a m = 0 := by
  have e : (decide (a < 1) || decide (1048575 < a) || decide (m < 1) || decide (1000 < m)) = true := by
    simp only [Bool.or_eq_true, decide_eq_true_eq]; omega
  simp only [rankOf, e, cond_true]
theorem rankRef_eq (a m : Int) : rankRef a m = rankOf a m := by
  have e : (decide (a < 1) || decide (1048575 < a) || !(decide (1 ≤ m) && decide (m ≤ 1000))) = (decide (a < 1) || decide (1048575 < a) || decide (m < 1) || decide (1000 < m)) := by
    rw [Bool.eq_iff_iff]
    simp only [Bool.or_eq_true, decide_eq_true_eq, Bool.not_eq_true', Bool.and_eq_false_iff, decide_eq_false_iff_not]
    omega
  simp only [rankRef, rankOf, e]
theorem owner_in {r : Int} (h1 : 1024 < r) (h2 : r < 1073741824) (h3 : r % 1024 ≤ 1000) : ownerOf r = r % 1024 := by
  have em : r.tmod 1024 = r % 1024 := Int.tmod_eq_emod_of_nonneg (by omega)
  have e : (decide (r ≤ 1024) || decide (1073741824 ≤ r) || decide (1000 < r.tmod 1024)) = false := by
    rw [em]
    simp only [Bool.or_eq_false_iff, decide_eq_false_iff_not]; omega
  simp only [ownerOf]
  rw [e, cond_false, em]
theorem owner_out {r : Int} (h : ¬ (1024 < r ∧ r < 1073741824 ∧ r % 1024 ≤ 1000)) : ownerOf r = 0 := by
  have e : (decide (r ≤ 1024) || decide (1073741824 ≤ r) || decide (1000 < r.tmod 1024)) = true := by
    simp only [Bool.or_eq_true, decide_eq_true_eq]
    by_cases hp : 0 ≤ r
    · rw [Int.tmod_eq_emod_of_nonneg hp]; omega
    · omega
  simp only [ownerOf, e, cond_true]
theorem ownerRef_eq (r : Int) : ownerRef r = ownerOf r := by
  by_cases h : 1024 < r ∧ r < 1073741824
  · have em : r.tmod 1024 = r % 1024 := Int.tmod_eq_emod_of_nonneg (by omega)
    by_cases h3 : r % 1024 ≤ 1000
    · rw [owner_in h.1 h.2 h3]
      by_cases h4 : 1 ≤ r % 1024
      · have e : (decide (r < 1025) || decide (1073741823 < r) || !(decide (1 ≤ r.tmod 1024) && decide (r.tmod 1024 ≤ 1000))) = false := by
          rw [em]
          simp only [Bool.or_eq_false_iff, decide_eq_false_iff_not, Bool.not_eq_false', Bool.and_eq_true, decide_eq_true_eq]; omega
        simp only [ownerRef]
        rw [e, cond_false, em]
      · have e : (decide (r < 1025) || decide (1073741823 < r) || !(decide (1 ≤ r.tmod 1024) && decide (r.tmod 1024 ≤ 1000))) = true := by
          rw [em]
          simp only [Bool.or_eq_true, decide_eq_true_eq, Bool.not_eq_true', Bool.and_eq_false_iff, decide_eq_false_iff_not]; omega
        simp only [ownerRef, e, cond_true]
        omega
    · rw [owner_out (by omega)]
      have e : (decide (r < 1025) || decide (1073741823 < r) || !(decide (1 ≤ r.tmod 1024) && decide (r.tmod 1024 ≤ 1000))) = true := by
        rw [em]
        simp only [Bool.or_eq_true, decide_eq_true_eq, Bool.not_eq_true', Bool.and_eq_false_iff, decide_eq_false_iff_not]; omega
      simp only [ownerRef, e, cond_true]
  · rw [owner_out (by omega)]
    have e : (decide (r < 1025) || decide (1073741823 < r)) = true := by
      simp only [Bool.or_eq_true, decide_eq_true_eq]; omega
    simp only [ownerRef, e, Bool.true_or, cond_true]
end Go.Proofs.YtmbniilpgbjcfaaGreat

set_option maxRecDepth 100000
namespace Go.Proofs.YtmbniilpgbjcfaaGreat
open Go.Lift
def riseAt (l : List Int) (i : Nat) : Bool := !(!(decide (1 ≤ l.getD i 0) && decide (l.getD i 0 ≤ 1000)) || (decide (0 < (i : Int)) && decide (l.getD i 0 ≤ l.getD (i - 1) 0)))
def riseB (l : List Int) : Bool := allB (riseAt l) l.length
theorem c_ref3_Rising (l : List Int) (hl : l.length ≤ maxLen) : Ret Tryz.prog 118 [.lst 1 (l.map intE) false] (.v (.bool (riseB l))) := by
  have hl' : l.length ≤ 9223372036854775807 := hl
  refine ret_of_body (fn := Tryz.f118) (c := Tryz.f118.body.getD .skip) hm hT (by kernel_rfl) Tryz.func118 (by kernel_rfl) (by kernel_rfl) (by kernel_rfl) (by kernel_rfl) ?_
  repeat' ((conv => whnf); first | refine And.intro (fun h => h) ?_ | refine dcond_t (by assumption) ?_ | refine dcond_f (by assumption) ?_ | (refine dcond_intro ?_ ?_ <;> intro h) | exact .refl | refine And.intro (by kernel_rfl) ?_ | refine And.intro ⟨fun h => h, fun h => h⟩ ?_ | refine Exists.intro false ?_ | (refine And.intro ?_ ?_; focus (simp; done)) | fail)
  refine ⟨Nat, fun i => ⟨[(0, .lst 1 (l.map intE) false), (3, i64 i)], []⟩, fun i => i ≤ l.length ∧ ∀ j, j < i → riseAt l j = true, fun i => l.length - i, [], ⟨0, ⟨Nat.zero_le _, by omega⟩, ?_⟩, ?_⟩
  · exact ⟨by repeat' ((conv => whnf); first | exact trivial | refine And.intro (by (conv => arg 1; whnf); first | (with_reducible exact .refl) | exact dle_int (wrap_succ (by omega)) | exact .refl) ?_), by repeat' ((conv => whnf); first | exact trivial | refine And.intro ?_ ?_ | exact .refl), rfl⟩
  · intro i ⟨hi, hall⟩
    repeat' ((conv => whnf); first | refine And.intro (fun h => h) ?_ | refine dcond_t (by assumption) ?_ | refine dcond_f (by assumption) ?_ | (refine dcond_intro ?_ ?_ <;> intro h) | exact .refl | refine And.intro (by kernel_rfl) ?_ | refine And.intro ⟨fun h => h, fun h => h⟩ ?_ | refine Exists.intro false ?_ | (refine And.intro ?_ ?_; focus (simp; done)) | fail)
    · have hlt : i < l.length := by simpa using h
      clear h
      have hg : l.getD i 0 = l[i] := by simp [hlt]
      repeat' ((conv => whnf); first | refine And.intro (fun h => h) ?_ | refine dcond_t (by assumption) ?_ | refine dcond_f (by assumption) ?_ | (refine dcond_intro ?_ ?_ <;> intro h) | exact .refl | refine And.intro (by kernel_rfl) ?_ | refine And.intro ⟨fun h => h, fun h => h⟩ ?_ | refine ⟨_, _, And.intro ⟨rfl, get_map hlt⟩ ?_⟩ | refine .inl ⟨_, _, DleAll_refl _, c_ref3_IsID _, ?_⟩ | refine ⟨_, _, DleAll_refl _, fun _ => c_ref3_IsID _, ?_⟩ | refine ⟨_, _, DleAll_refl _, c_ref3_IsID _, ?_⟩ | refine ⟨i, intE (l[i]'hlt), And.intro ⟨⟨fun h => h, fun h => h⟩, fun hg => ⟨rfl, get_map hlt⟩⟩ ?_⟩ | refine Exists.intro false ?_ | (refine And.intro ?_ ?_; focus (simp; done)) | fail)
      have hp : ∀ (hg : (!(decide (1 ≤ l[i]) && decide (l[i] ≤ 1000))) = false ∧ 0 < i), (IntKind.i64.wrap ((i : Int) - 1)) = ((i - 1 : Nat) : Int) ∧ (l.map intE)[i - 1]? = some (intE (l.getD (i - 1) 0)) := by
        rintro ⟨_, h0⟩
        refine ⟨by rw [wrap_i64 (by omega) (by omega)]; omega, ?_⟩
        have : i - 1 < l.length := by omega
        simp [this]
      refine ⟨i - 1, intE (l.getD (i - 1) 0), And.intro ⟨⟨fun h => h, fun h => h⟩, fun hg => hp ?_⟩ ?_⟩
      · simp only [Bool.and_eq_true, Bool.not_eq_true', decide_eq_true_eq] at hg
        refine ⟨?_, by omega⟩
        have := hg.1
        simpa using this
      repeat' ((conv => whnf); first | refine And.intro (fun h => h) ?_ | refine dcond_t (by assumption) ?_ | refine dcond_f (by assumption) ?_ | (refine dcond_intro ?_ ?_ <;> intro h) | exact .refl | refine And.intro (by kernel_rfl) ?_ | refine And.intro ⟨fun h => h, fun h => h⟩ ?_ | refine Exists.intro false ?_ | (refine And.intro ?_ ?_; focus (simp; done)) | fail)
      all_goals (conv => whnf)
      · refine dle_bool ?_
        have : riseAt l i = false := by simp only [riseAt, hg, h]; rfl
        rw [riseB, allB_false hlt this]
      · refine ⟨i + 1, ⟨hlt, fun j hj => ?_⟩, by simp only []; omega, ?_⟩
        · rcases Nat.lt_succ_iff_lt_or_eq.1 hj with hj | rfl
          · exact hall j hj
          · simp only [riseAt, hg, h]; rfl
        · exact ⟨by repeat' ((conv => whnf); first | exact trivial | refine And.intro (by (conv => arg 1; whnf); first | (with_reducible exact .refl) | exact dle_int (wrap_succ (by omega)) | exact .refl) ?_), by repeat' ((conv => whnf); first | exact trivial | refine And.intro ?_ ?_ | exact .refl), rfl⟩
    · have hge : ¬ i < l.length := by simpa using h
      conv => whnf
      refine dle_bool ?_
      rw [riseB, allB_true.2 (fun j hj => hall j (by omega))]
def cutRB (l : List Int) : Bool := (decide (1 ≤ (l.length : Int)) && decide ((l.length : Int) ≤ 32)) && riseB l
theorem c_ref3_ValidCut (l : List Int) (hl : l.length ≤ maxLen) : Ret Tryz.prog 88 [.lst 1 (l.map intE) false] (.v (.bool (cutRB l))) := by
  refine ret_of_body (fn := Tryz.f88) (c := Tryz.f88.body.getD .skip) hm hT (by kernel_rfl) Tryz.func88 (by kernel_rfl) (by kernel_rfl) (by kernel_rfl) (by kernel_rfl) ?_
  repeat' ((conv => whnf); first | refine And.intro (fun h => h) ?_ | refine dcond_t (by assumption) ?_ | refine dcond_f (by assumption) ?_ | (refine dcond_intro ?_ ?_ <;> intro h) | exact .refl | refine And.intro (by kernel_rfl) ?_ | refine And.intro ⟨fun h => h, fun h => h⟩ ?_ | refine .inl ⟨_, _, DleAll_refl _, c_ref3_Rising _ hl, ?_⟩ | refine ⟨_, _, DleAll_refl _, fun _ => c_ref3_Rising _ hl, ?_⟩ | refine ⟨_, _, DleAll_refl _, c_ref3_Rising _ hl, ?_⟩ | refine Exists.intro false ?_ | (refine And.intro ?_ ?_; focus (simp; done)) | fail)
  all_goals (conv => whnf)
  refine dle_bool ?_
  simp only [cutRB, List.length_map]
theorem c_ref1_SameInts (a b : List Int) (ha : a.length ≤ maxLen) : Ret Tryz.prog 52 [.lst 1 (a.map intE) false, .lst 1 (b.map intE) false] (.v (.bool (sameI a b))) := by
  have hl' : a.length ≤ 9223372036854775807 := ha
  refine ret_of_body (fn := Tryz.f52) (c := Tryz.f52.body.getD .skip) hm hT (by kernel_rfl) Tryz.func52 (by kernel_rfl) (by kernel_rfl) (by kernel_rfl) (by kernel_rfl) ?_
  repeat' ((conv => whnf); first | refine And.intro (fun h => h) ?_ | refine dcond_t (by assumption) ?_ | refine dcond_f (by assumption) ?_ | (refine dcond_intro ?_ ?_ <;> intro h) | exact .refl | refine And.intro (by kernel_rfl) ?_ | refine And.intro ⟨fun h => h, fun h => h⟩ ?_ | refine Exists.intro false ?_ | (refine And.intro ?_ ?_; focus (simp; done)) | fail)
  · refine dle_bool ?_
    simp only [List.length_map] at h
    have h : decide ((a.length : Int) = (b.length : Int)) = false := by simpa using h
    simp only [sameI, h, Bool.false_and]
  · have h0 : a.length = b.length := by
      simp at h
      omega
    clear h
    conv => whnf
    refine ⟨Nat, fun i => ⟨[(0, .lst 1 (a.map intE) false), (1, .lst 1 (b.map intE) false), (5, i64 i)], []⟩, fun i => i ≤ a.length ∧ ∀ j, j < i → decide (a.getD j 0 = b.getD j 0) = true, fun i => a.length - i, [], ⟨0, ⟨Nat.zero_le _, by omega⟩, ?_⟩, ?_⟩
    · exact ⟨by repeat' ((conv => whnf); first | exact trivial | refine And.intro (by (conv => arg 1; whnf); first | (with_reducible exact .refl) | exact dle_int (wrap_succ (by omega)) | exact .refl) ?_), by repeat' ((conv => whnf); first | exact trivial | refine And.intro ?_ ?_ | exact .refl), rfl⟩
    · intro i ⟨hi, hall⟩
      repeat' ((conv => whnf); first | refine And.intro (fun h => h) ?_ | refine dcond_t (by assumption) ?_ | refine dcond_f (by assumption) ?_ | (refine dcond_intro ?_ ?_ <;> intro h) | exact .refl | refine And.intro (by kernel_rfl) ?_ | refine And.intro ⟨fun h => h, fun h => h⟩ ?_ | refine Exists.intro false ?_ | (refine And.intro ?_ ?_; focus (simp; done)) | fail)
      · have hlt : i < a.length := by simpa using h
        have hlt2 : i < b.length := by omega
        clear h
        have hg : a.getD i 0 = a[i] := by simp [hlt]
        have hg2 : b.getD i 0 = b[i] := by simp [hlt2]
        repeat' ((conv => whnf); first | refine And.intro (fun h => h) ?_ | refine dcond_t (by assumption) ?_ | refine dcond_f (by assumption) ?_ | (refine dcond_intro ?_ ?_ <;> intro h) | exact .refl | refine And.intro (by kernel_rfl) ?_ | refine And.intro ⟨fun h => h, fun h => h⟩ ?_ | refine ⟨_, _, And.intro ⟨rfl, get_map hlt⟩ ?_⟩ | refine ⟨_, _, And.intro ⟨rfl, get_map hlt2⟩ ?_⟩ | refine Exists.intro false ?_ | (refine And.intro ?_ ?_; focus (simp; done)) | fail)
        · refine dle_bool ?_
          rw [sameI, allB_false hlt (i := i), Bool.and_false]
          rw [hg, hg2]
          simpa using h
        · conv => whnf
          refine ⟨i + 1, ⟨hlt, fun j hj => ?_⟩, by simp only []; omega, ?_⟩
          · rcases Nat.lt_succ_iff_lt_or_eq.1 hj with hj | rfl
            · exact hall j hj
            · rw [hg, hg2]
              simpa using h
          · exact ⟨by repeat' ((conv => whnf); first | exact trivial | refine And.intro (by (conv => arg 1; whnf); first | (with_reducible exact .refl) | exact dle_int (wrap_succ (by omega)) | exact .refl) ?_), by repeat' ((conv => whnf); first | exact trivial | refine And.intro ?_ ?_ | exact .refl), rfl⟩
      · have hge : ¬ i < a.length := by simpa using h
        conv => whnf
        refine dle_bool ?_
        rw [sameI, allB_true.2 (fun j hj => hall j (by omega)), h0]
        simp
theorem rise_iff {l : List Int} : riseB l = true ↔ ∀ i, (h : i < l.length) → 1 ≤ l[i] ∧ l[i] ≤ 1000 ∧ (0 < i → l.getD (i - 1) 0 < l[i]) := by
  rw [riseB, allB_true]
  refine forall_congr' fun i => ?_
  constructor
  · intro h hi
    have h := h hi
    have hg : l.getD i 0 = l[i] := by simp [hi]
    simp only [riseAt, hg, Bool.not_eq_true', Bool.or_eq_false_iff, Bool.not_eq_false', Bool.and_eq_true, decide_eq_true_eq, Bool.and_eq_false_iff, decide_eq_false_iff_not] at h
    omega
  · intro h hi
    have h := h hi
    have hg : l.getD i 0 = l[i] := by simp [hi]
    simp only [riseAt, hg, Bool.not_eq_true', Bool.or_eq_false_iff, Bool.not_eq_false', Bool.and_eq_true, decide_eq_true_eq, Bool.and_eq_false_iff, decide_eq_false_iff_not]
    omega
theorem oks_iff {l : List Int} : allB (okAt l) l.length = true ↔ ∀ i, (h : i < l.length) → (0 :: l).getD i 0 < l[i] ∧ l[i] ≤ 1000 := by
  rw [allB_true]
  refine forall_congr' fun i => ?_
  constructor
  · intro h hi
    have h := h hi
    have hg : l.getD i 0 = l[i] := by simp [hi]
    simp only [okAt, hg, Bool.not_eq_true', Bool.or_eq_false_iff, decide_eq_false_iff_not] at h
    omega
  · intro h hi
    have h := h hi
    have hg : l.getD i 0 = l[i] := by simp [hi]
    simp only [okAt, hg, Bool.not_eq_true', Bool.or_eq_false_iff, decide_eq_false_iff_not]
    omega
theorem rise_oks (l : List Int) : riseB l = allB (okAt l) l.length := by
  rw [Bool.eq_iff_iff, rise_iff, oks_iff]
  constructor
  · intro h i hi
    have h1 := h i hi
    cases i with
    | zero => simp; omega
    | succ i => exact ⟨by simpa using h1.2.2 (by omega), h1.2.1⟩
  · intro h i
    induction i with
    | zero => intro hi; have h1 := h 0 hi; simp at h1; exact ⟨by omega, h1.2, fun h => by omega⟩
    | succ i ih =>
      intro hi
      have h1 := h (i + 1) hi
      have h2 := ih (by omega)
      have e : (0 :: l).getD (i + 1) 0 = l[i] := by simp [show i < l.length by omega]
      rw [e] at h1
      exact ⟨by omega, h1.2, fun _ => by simp [show i < l.length by omega]; omega⟩
theorem ids_eq (l : List Int) (m : Int) : idsB l m = ((decide (1 ≤ (l.length : Int)) && decide ((l.length : Int) ≤ m)) && riseB l) := by
  rw [idsB, rise_oks]
  congr 1
  rw [Bool.eq_iff_iff]
  simp only [Bool.not_eq_true', Bool.or_eq_false_iff, decide_eq_false_iff_not, Bool.and_eq_true, decide_eq_true_eq]
  omega
theorem cutRB_eq (l : List Int) : cutRB l = idsB l 32 := by rw [ids_eq, cutRB]
end Go.Proofs.YtmbniilpgbjcfaaGreat

set_option maxRecDepth 100000
namespace Go.Proofs.YtmbniilpgbjcfaaGreat
open Go.Lift
theorem owner_low {r : Int} (h : ownerOf r ≠ 0) : 1024 < r := by
  by_cases h1 : 1024 < r ∧ r < 1073741824 ∧ r % 1024 ≤ 1000
  · exact h1.1
  · exact absurd (owner_out h1) h
theorem accB_ref (a : Acc) : (bif (!decide (a.pro = 0) && decide (ownerRef a.pro = 0) || !decide (a.rank = -1) && !decide (a.rank = 0) && decide (ownerRef a.rank = 0) || decide (a.pro < a.rank)) then false
    else bif decide (a.rank < 0) then decide ((a.cut.length : Int) = 0) else cutRB a.cut) = accB a := by
  have ho := @owner_low a.rank
  simp only [accB, cutRB_eq, ownerRef_eq, usableB]
  by_cases h5 : ownerOf a.rank = 0
  · by_cases h1 : a.pro = 0 <;> by_cases h2 : ownerOf a.pro = 0 <;> by_cases h3 : a.rank = -1 <;> by_cases h4 : a.rank = 0 <;> by_cases h6 : a.pro < a.rank <;> by_cases h7 : a.rank < 0 <;> simp [*]
    all_goals try omega
  · have ho := ho h5
    have h3 : ¬ a.rank = -1 := by omega
    have h4 : ¬ a.rank = 0 := by omega
    have h7 : ¬ a.rank < 0 := by omega
    by_cases h1 : a.pro = 0 <;> by_cases h2 : ownerOf a.pro = 0 <;> by_cases h6 : a.pro < a.rank <;> simp [*]
theorem c_ref9_Valid (a : Acc) (hl : a.cut.length ≤ maxLen) : Ret Tryz.prog 79 [.agg (accE a)] (.v (.bool (accB a))) := by
  refine ret_of_body (fn := Tryz.f79) (c := Tryz.f79.body.getD .skip) hm hT (by kernel_rfl) Tryz.func79 (by kernel_rfl) (by kernel_rfl) (by kernel_rfl) (by kernel_rfl) ?_
  repeat' ((conv => whnf); first | refine And.intro (fun h => h) ?_ | refine dcond_t (by assumption) ?_ | refine dcond_f (by assumption) ?_ | (refine dcond_intro ?_ ?_ <;> intro h) | exact .refl | refine And.intro (by kernel_rfl) ?_ | refine And.intro ⟨fun h => h, fun h => h⟩ ?_ | refine .inl ⟨_, _, DleAll_refl _, c_ref9_Owner _, ?_⟩ | refine ⟨_, _, DleAll_refl _, fun _ => c_ref9_Owner _, ?_⟩ | refine ⟨_, _, DleAll_refl _, c_ref9_Owner _, ?_⟩ | refine .inl ⟨_, _, DleAll_refl _, c_ref3_ValidCut _ hl, ?_⟩ | refine ⟨_, _, DleAll_refl _, fun _ => c_ref3_ValidCut _ hl, ?_⟩ | refine ⟨_, _, DleAll_refl _, c_ref3_ValidCut _ hl, ?_⟩ | refine Exists.intro false ?_ | (refine And.intro ?_ ?_; focus (simp; done)) | fail)
  all_goals (conv => whnf)
  all_goals refine dle_bool ?_
  all_goals (try simp only [List.length_map])
  all_goals rw [← accB_ref]
  all_goals simp only [*, cond_true, cond_false]
def sameA (a b : Acc) : Bool := decide (a.pro = b.pro) && decide (a.rank = b.rank) && sameI a.cut b.cut
theorem c_ref9_Same (a b : Acc) (hl : a.cut.length ≤ maxLen) : Ret Tryz.prog 51 [.agg (accE a), .agg (accE b)] (.v (.bool (sameA a b))) := by
  refine ret_of_body (fn := Tryz.f51) (c := Tryz.f51.body.getD .skip) hm hT (by kernel_rfl) Tryz.func51 (by kernel_rfl) (by kernel_rfl) (by kernel_rfl) (by kernel_rfl) ?_
  repeat' ((conv => whnf); first | refine And.intro (fun h => h) ?_ | refine dcond_t (by assumption) ?_ | refine dcond_f (by assumption) ?_ | (refine dcond_intro ?_ ?_ <;> intro h) | exact .refl | refine And.intro (by kernel_rfl) ?_ | refine And.intro ⟨fun h => h, fun h => h⟩ ?_ | refine .inl ⟨_, _, DleAll_refl _, c_ref1_SameInts _ _ hl, ?_⟩ | refine ⟨_, _, DleAll_refl _, fun _ => c_ref1_SameInts _ _ hl, ?_⟩ | refine ⟨_, _, DleAll_refl _, c_ref1_SameInts _ _ hl, ?_⟩ | refine Exists.intro false ?_ | (refine And.intro ?_ ?_; focus (simp; done)) | fail)
theorem c_ref9_OnVote (a : Acc) (hl : a.cut.length ≤ maxLen) (cut : List Int) (hc : cut.length ≤ maxLen) : Ret Tryz.prog 26 [.agg (accE a), .lst 1 (cut.map intE) false] (.tup [.agg (accE (voteR a cut).1), .v (.bool (voteR a cut).2)]) := by
  refine ret_of_body (fn := Tryz.f26) (c := Tryz.f26.body.getD .skip) hm hT (by kernel_rfl) Tryz.func26 (by kernel_rfl) (by kernel_rfl) (by kernel_rfl) (by kernel_rfl) ?_
  repeat' ((conv => whnf); first | refine And.intro (fun h => h) ?_ | refine dcond_t (by assumption) ?_ | refine dcond_f (by assumption) ?_ | (refine dcond_intro ?_ ?_ <;> intro h) | exact .refl | refine And.intro (by kernel_rfl) ?_ | refine And.intro ⟨fun h => h, fun h => h⟩ ?_ | refine .inl ⟨_, _, DleAll_refl _, c_ref9_Valid _ hl, ?_⟩ | refine ⟨_, _, DleAll_refl _, fun _ => c_ref9_Valid _ hl, ?_⟩ | refine ⟨_, _, DleAll_refl _, c_ref9_Valid _ hl, ?_⟩ | refine .inl ⟨_, _, DleAll_refl _, c_ref3_ValidCut _ hc, ?_⟩ | refine ⟨_, _, DleAll_refl _, fun _ => c_ref3_ValidCut _ hc, ?_⟩ | refine ⟨_, _, DleAll_refl _, c_ref3_ValidCut _ hc, ?_⟩ | refine Exists.intro false ?_ | (refine And.intro ?_ ?_; focus (simp; done)) | fail)
  all_goals (conv => whnf)
  all_goals (try simp only [cutRB_eq] at *)
  all_goals simp only [voteR, *, cond_true, cond_false]
  · exact dle_tupA ⟨dle_aggA ⟨.refl, .refl, .nl, trivial⟩, .refl, trivial⟩
  · exact .refl
  · exact .refl
theorem c_ref9_OnPrepare (a : Acc) (hl : a.cut.length ≤ maxLen) (rank : Int) : Ret Tryz.prog 38 [.agg (accE a), .v (.int .i64 rank)] (.tup [.agg (accE (prepR a rank).1), .agg (rptE (prepR a rank).2.1), .v (.bool (prepR a rank).2.2)]) := by
  refine ret_of_body (fn := Tryz.f38) (c := Tryz.f38.body.getD .skip) hm hT (by kernel_rfl) Tryz.func38 (by kernel_rfl) (by kernel_rfl) (by kernel_rfl) (by kernel_rfl) ?_
  repeat' ((conv => whnf); first | refine And.intro (fun h => h) ?_ | refine dcond_t (by assumption) ?_ | refine dcond_f (by assumption) ?_ | (refine dcond_intro ?_ ?_ <;> intro h) | exact .refl | refine And.intro (by kernel_rfl) ?_ | refine And.intro ⟨fun h => h, fun h => h⟩ ?_ | refine .inl ⟨_, _, DleAll_refl _, c_ref9_Valid _ hl, ?_⟩ | refine ⟨_, _, DleAll_refl _, fun _ => c_ref9_Valid _ hl, ?_⟩ | refine ⟨_, _, DleAll_refl _, c_ref9_Valid _ hl, ?_⟩ | refine .inl ⟨_, _, DleAll_refl _, c_ref9_Owner _, ?_⟩ | refine ⟨_, _, DleAll_refl _, fun _ => c_ref9_Owner _, ?_⟩ | refine ⟨_, _, DleAll_refl _, c_ref9_Owner _, ?_⟩ | refine Exists.intro false ?_ | (refine And.intro ?_ ?_; focus (simp; done)) | fail)
  all_goals (conv => whnf)
  all_goals (try simp only [ownerRef_eq] at *)
  all_goals simp only [prepR, usableB, Bool.not_not, *, cond_true, cond_false]
  · exact dle_tupA ⟨dle_aggA ⟨.refl, .refl, .nl, trivial⟩, dle_aggA ⟨.refl, .refl, .nl, trivial⟩, .refl, trivial⟩
  · exact dle_tupA ⟨.refl, dle_aggA ⟨.refl, .refl, .nl, trivial⟩, .refl, trivial⟩
  · exact .refl
theorem c_ref9_OnAccept (a : Acc) (hl : a.cut.length ≤ maxLen) (rank : Int) (cut : List Int) (hc : cut.length ≤ maxLen) : Ret Tryz.prog 43 [.agg (accE a), .v (.int .i64 rank), .lst 1 (cut.map intE) false] (.tup [.agg (accE (acceptR a rank cut).1), .v (.bool (acceptR a rank cut).2)]) := by
  refine ret_of_body (fn := Tryz.f43) (c := Tryz.f43.body.getD .skip) hm hT (by kernel_rfl) Tryz.func43 (by kernel_rfl) (by kernel_rfl) (by kernel_rfl) (by kernel_rfl) ?_
  repeat' ((conv => whnf); first | refine And.intro (fun h => h) ?_ | refine dcond_t (by assumption) ?_ | refine dcond_f (by assumption) ?_ | (refine dcond_intro ?_ ?_ <;> intro h) | exact .refl | refine And.intro (by kernel_rfl) ?_ | refine And.intro ⟨fun h => h, fun h => h⟩ ?_ | refine .inl ⟨_, _, DleAll_refl _, c_ref9_Valid _ hl, ?_⟩ | refine ⟨_, _, DleAll_refl _, fun _ => c_ref9_Valid _ hl, ?_⟩ | refine ⟨_, _, DleAll_refl _, c_ref9_Valid _ hl, ?_⟩ | refine .inl ⟨_, _, DleAll_refl _, c_ref9_Owner _, ?_⟩ | refine ⟨_, _, DleAll_refl _, fun _ => c_ref9_Owner _, ?_⟩ | refine ⟨_, _, DleAll_refl _, c_ref9_Owner _, ?_⟩ | refine .inl ⟨_, _, DleAll_refl _, c_ref3_ValidCut _ hc, ?_⟩ | refine ⟨_, _, DleAll_refl _, fun _ => c_ref3_ValidCut _ hc, ?_⟩ | refine ⟨_, _, DleAll_refl _, c_ref3_ValidCut _ hc, ?_⟩ | refine .inl ⟨_, _, DleAll_refl _, c_ref1_SameInts _ _ hl, ?_⟩ | refine ⟨_, _, DleAll_refl _, fun _ => c_ref1_SameInts _ _ hl, ?_⟩ | refine ⟨_, _, DleAll_refl _, c_ref1_SameInts _ _ hl, ?_⟩ | refine Exists.intro false ?_ | (refine And.intro ?_ ?_; focus (simp; done)) | fail)
  all_goals (conv => whnf)
  all_goals (try simp only [ownerRef_eq, cutRB_eq] at *)
  all_goals simp only [acceptR, usableB, Bool.not_not, *, cond_true, cond_false]
  · exact dle_tupA ⟨dle_aggA ⟨.refl, .refl, .nl, trivial⟩, .refl, trivial⟩
  · exact .refl
  · exact .refl
theorem sameI_refl (l : List Int) : sameI l l = true := by
  simp only [sameI, decide_true, Bool.true_and]
  exact allB_true.2 (fun j _ => by simp)
theorem vote_len {a : Acc} {cut : List Int} {N : Nat} (h1 : a.cut.length ≤ N) (h2 : cut.length ≤ N) : (voteR a cut).1.cut.length ≤ N := by
  unfold voteR
  cases !accB a <;> simp only [cond_true, cond_false]
  · cases (!decide (a.pro = 0) || !decide (a.rank = -1) || !idsB cut 32) <;> simp only [cond_true, cond_false] <;> assumption
  · simp
theorem prep_len {a : Acc} {rank : Int} {N : Nat} (h1 : a.cut.length ≤ N) : (prepR a rank).1.cut.length ≤ N ∧ (prepR a rank).2.1.cut.length ≤ N := by
  unfold prepR
  cases !accB a <;> simp only [cond_true, cond_false]
  · cases (!usableB rank || decide (rank < a.pro)) <;> simp only [cond_true, cond_false]
    · exact ⟨h1, h1⟩
    · exact ⟨h1, by simp⟩
  · simp
theorem accept_len {a : Acc} {rank : Int} {cut : List Int} {N : Nat} (h1 : a.cut.length ≤ N) (h2 : cut.length ≤ N) : (acceptR a rank cut).1.cut.length ≤ N := by
  unfold acceptR
  cases !accB a <;> simp only [cond_true, cond_false]
  · cases (!usableB rank || decide (rank < a.pro) || !idsB cut 32 || decide (a.rank = rank) && !sameI a.cut cut) <;> simp only [cond_true, cond_false] <;> assumption
  · simp
theorem dat_ints {n : Nat} {r : List DV} (h : Dat tt (n + 2) 22 r) : ∃ l : List Int, r = [.lst 1 (l.map intE) false] ∧ l.length ≤ maxLen := by
  obtain ⟨es, rfl, hl, hes⟩ := h
  obtain ⟨d, rfl, _⟩ := list_data (f := intE) (Q := fun _ => True) (fun r hr => by
    obtain ⟨i, rfl, _⟩ := hes r hr
    exact ⟨i, rfl, trivial⟩)
  exact ⟨d, rfl, by simpa using hl⟩
theorem dat_acc {n : Nat} {r : List DV} (h : Dat tt (n + 3) 26 r) : ∃ a : Acc, r = accE a ∧ a.cut.length ≤ maxLen := by
  obtain ⟨_, _, rfl, ⟨p, rfl, _⟩, _, _, rfl, ⟨k, rfl, _⟩, _, _, rfl, hl, rfl⟩ := h
  obtain ⟨l, rfl, hll⟩ := dat_ints (n := n) hl
  exact ⟨⟨p, k, l⟩, rfl, hll⟩
theorem accB_iff (a : Acc) : accB a = true ↔ (a.pro = 0 ∨ ownerOf a.pro ≠ 0) ∧ a.rank ≤ a.pro ∧ ((a.rank = -1 ∧ a.cut = []) ∨ ((a.rank = 0 ∨ ownerOf a.rank ≠ 0) ∧ a.rank ≠ -1 ∧ idsB a.cut 32 = true)) := by
  simp only [accB, usableB]
  by_cases h1 : a.pro = 0 <;> by_cases h2 : ownerOf a.pro = 0 <;> by_cases h3 : a.rank = -1 <;> by_cases h4 : a.rank = 0 <;> by_cases h5 : ownerOf a.rank = 0 <;> by_cases h6 : a.pro < a.rank <;> simp [*]
  all_goals (try omega)
  all_goals (try (intro; omega))
end Go.Proofs.YtmbniilpgbjcfaaGreat

set_option maxRecDepth 100000
namespace Go.Proofs.YtmbniilpgbjcfaaGreat
open Go.Lift
theorem c_ref3_Place (l : List Int) (hl : l.length ≤ maxLen) (x : Int) : Ret Tryz.prog 48 [.lst 1 (l.map intE) false, .v (.int .i64 x)] (.v (.int .i64 (placeB l x))) := by
  have hl' : l.length ≤ 9223372036854775807 := hl
  refine ret_of_body (fn := Tryz.f48) (c := Tryz.f48.body.getD .skip) hm hT (by kernel_rfl) Tryz.func48 (by kernel_rfl) (by kernel_rfl) (by kernel_rfl) (by kernel_rfl) ?_
  repeat' ((conv => whnf); first | refine And.intro (fun h => h) ?_ | refine dcond_t (by assumption) ?_ | refine dcond_f (by assumption) ?_ | (refine dcond_intro ?_ ?_ <;> intro h) | exact .refl | refine And.intro (by kernel_rfl) ?_ | refine And.intro ⟨fun h => h, fun h => h⟩ ?_ | refine Exists.intro false ?_ | (refine And.intro ?_ ?_; focus (simp; done)) | fail)
  refine ⟨Nat, fun i => ⟨[(0, .lst 1 (l.map intE) false), (1, .v (.int .i64 x)), (5, i64 i)], []⟩, fun i => i ≤ l.length ∧ ∀ j, j < i → decide (l[j]? = some x) = false, fun i => l.length - i, [], ⟨0, ⟨Nat.zero_le _, by omega⟩, ?_⟩, ?_⟩
  · exact ⟨by repeat' ((conv => whnf); first | exact trivial | refine And.intro (by (conv => arg 1; whnf); first | (with_reducible exact .refl) | exact dle_int (wrap_succ (by omega)) | exact .refl) ?_), by repeat' ((conv => whnf); first | exact trivial | refine And.intro ?_ ?_ | exact .refl), rfl⟩
  · intro i ⟨hi, hall⟩
    repeat' ((conv => whnf); first | refine And.intro (fun h => h) ?_ | refine dcond_t (by assumption) ?_ | refine dcond_f (by assumption) ?_ | (refine dcond_intro ?_ ?_ <;> intro h) | exact .refl | refine And.intro (by kernel_rfl) ?_ | refine And.intro ⟨fun h => h, fun h => h⟩ ?_ | refine Exists.intro false ?_ | (refine And.intro ?_ ?_; focus (simp; done)) | fail)
    · have hlt : i < l.length := by simpa using h
      repeat' ((conv => whnf); first | refine And.intro (fun h => h) ?_ | refine dcond_t (by assumption) ?_ | refine dcond_f (by assumption) ?_ | (refine dcond_intro ?_ ?_ <;> intro h) | exact .refl | refine And.intro (by kernel_rfl) ?_ | refine And.intro ⟨fun h => h, fun h => h⟩ ?_ | refine ⟨_, _, And.intro ⟨rfl, get_map hlt⟩ ?_⟩ | refine Exists.intro false ?_ | (refine And.intro ?_ ?_; focus (simp; done)) | fail)
      · have h2 := h
        refine dle_int (findB_at hlt ?_ hall).symm
        simpa [hlt] using h2
      · have h2 := h
        conv => whnf
        refine ⟨i + 1, ⟨hlt, fun j hj => ?_⟩, by simp only []; omega, ?_⟩
        · rcases Nat.lt_succ_iff_lt_or_eq.1 hj with hj | rfl
          · exact hall j hj
          · simpa [hlt] using h2
        · exact ⟨by repeat' ((conv => whnf); first | exact trivial | refine And.intro (by (conv => arg 1; whnf); first | (with_reducible exact .refl) | exact dle_int (wrap_succ (by omega)) | exact .refl) ?_), by repeat' ((conv => whnf); first | exact trivial | refine And.intro ?_ ?_ | exact .refl), rfl⟩
    · have hge : ¬ i < l.length := by simpa using h
      conv => whnf
      refine dle_int (findB_none (fun j hj => hall j (by omega))).symm
theorem c_ref3_Contains (l : List Int) (hl : l.length ≤ maxLen) (x : Int) : Ret Tryz.prog 78 [.lst 1 (l.map intE) false, .v (.int .i64 x)] (.v (.bool (inB l x))) := by
  refine ret_of_body (fn := Tryz.f78) (c := Tryz.f78.body.getD .skip) hm hT (by kernel_rfl) Tryz.func78 (by kernel_rfl) (by kernel_rfl) (by kernel_rfl) (by kernel_rfl) ?_
  repeat' ((conv => whnf); first | refine And.intro (fun h => h) ?_ | refine dcond_t (by assumption) ?_ | refine dcond_f (by assumption) ?_ | (refine dcond_intro ?_ ?_ <;> intro h) | exact .refl | refine And.intro (by kernel_rfl) ?_ | refine And.intro ⟨fun h => h, fun h => h⟩ ?_ | refine .inl ⟨_, _, DleAll_refl _, c_ref3_Place _ hl _, ?_⟩ | refine ⟨_, _, DleAll_refl _, fun _ => c_ref3_Place _ hl _, ?_⟩ | refine ⟨_, _, DleAll_refl _, c_ref3_Place _ hl _, ?_⟩ | refine Exists.intro false ?_ | (refine And.intro ?_ ?_; focus (simp; done)) | fail)
def memRB (l : List Int) : Bool := (decide (1 ≤ (l.length : Int)) && decide ((l.length : Int) ≤ 16)) && riseB l
theorem memRB_eq (l : List Int) : memRB l = idsB l 16 := by rw [ids_eq, memRB]
theorem c_ref3_ValidMembers (l : List Int) (hl : l.length ≤ maxLen) : Ret Tryz.prog 114 [.lst 1 (l.map intE) false] (.v (.bool (idsB l 16))) := by
  rw [← memRB_eq]
  refine ret_of_body (fn := Tryz.f114) (c := Tryz.f114.body.getD .skip) hm hT (by kernel_rfl) Tryz.func114 (by kernel_rfl) (by kernel_rfl) (by kernel_rfl) (by kernel_rfl) ?_
  repeat' ((conv => whnf); first | refine And.intro (fun h => h) ?_ | refine dcond_t (by assumption) ?_ | refine dcond_f (by assumption) ?_ | (refine dcond_intro ?_ ?_ <;> intro h) | exact .refl | refine And.intro (by kernel_rfl) ?_ | refine And.intro ⟨fun h => h, fun h => h⟩ ?_ | refine .inl ⟨_, _, DleAll_refl _, c_ref3_Rising _ hl, ?_⟩ | refine ⟨_, _, DleAll_refl _, fun _ => c_ref3_Rising _ hl, ?_⟩ | refine ⟨_, _, DleAll_refl _, c_ref3_Rising _ hl, ?_⟩ | refine Exists.intro false ?_ | (refine And.intro ?_ ?_; focus (simp; done)) | fail)
  all_goals (conv => whnf)
  refine dle_bool ?_
  simp only [memRB, List.length_map]
theorem c_ref3_Valid (v : View) (hl : v.mem.length ≤ maxLen) : Ret Tryz.prog 77 [.agg (viewE v)] (.v (.bool (viewB v))) := by
  refine ret_of_body (fn := Tryz.f77) (c := Tryz.f77.body.getD .skip) hm hT (by kernel_rfl) Tryz.func77 (by kernel_rfl) (by kernel_rfl) (by kernel_rfl) (by kernel_rfl) ?_
  repeat' ((conv => whnf); first | refine And.intro (fun h => h) ?_ | refine dcond_t (by assumption) ?_ | refine dcond_f (by assumption) ?_ | (refine dcond_intro ?_ ?_ <;> intro h) | exact .refl | refine And.intro (by kernel_rfl) ?_ | refine And.intro ⟨fun h => h, fun h => h⟩ ?_ | refine .inl ⟨_, _, DleAll_refl _, c_ref3_ValidMembers _ hl, ?_⟩ | refine ⟨_, _, DleAll_refl _, fun _ => c_ref3_ValidMembers _ hl, ?_⟩ | refine ⟨_, _, DleAll_refl _, c_ref3_ValidMembers _ hl, ?_⟩ | refine Exists.intro false ?_ | (refine And.intro ?_ ?_; focus (simp; done)) | fail)
def amongB (m : List Int) (b : Bool) (x : Int) : Bool := inB m x == b
def amongP (l m : List Int) (b : Bool) (i : Nat) : List (List DV) := ((l.take i).filter (amongB m b)).map intE
theorem amongP_len (l m : List Int) (b : Bool) (i : Nat) : (amongP l m b i).length ≤ i := by
  simp only [amongP, List.length_map]
  exact Nat.le_trans (List.length_filter_le _ _) (by simp; omega)
theorem c_ref3_Among (l m : List Int) (hl : l.length ≤ 1000000) (hm' : m.length ≤ maxLen) (b : Bool) : Ret Tryz.prog 127 [.lst 1 (l.map intE) false, .lst 1 (m.map intE) false, .v (.bool b)] (.lst 1 ((l.filter (amongB m b)).map intE) false) := by
  refine ret_of_body (fn := Tryz.f127) (c := Tryz.f127.body.getD .skip) hm hT (by kernel_rfl) Tryz.func127 (by kernel_rfl) (by kernel_rfl) (by kernel_rfl) (by kernel_rfl) ?_
  repeat' ((conv => whnf); first | refine And.intro (fun h => h) ?_ | refine dcond_t (by assumption) ?_ | refine dcond_f (by assumption) ?_ | (refine dcond_intro ?_ ?_ <;> intro h) | exact .refl | refine And.intro (by kernel_rfl) ?_ | refine And.intro ⟨fun h => h, fun h => h⟩ ?_ | refine Exists.intro false ?_ | (refine And.intro ?_ ?_; focus (simp; done)) | fail)
  refine ⟨Nat, fun i => ⟨[(0, .lst 1 (l.map intE) false), (1, .lst 1 (m.map intE) false), (2, .v (.bool b)), (7, .own 0), (8, i64 i)], [.row 3 1 (amongP l m b i)]⟩, fun i => i ≤ l.length, fun i => l.length - i, [.slot 7 3 1], ⟨0, Nat.zero_le _, ?_⟩, ?_⟩
  · conv => whnf
    exact ⟨by repeat' ((conv => whnf); first | exact trivial | refine And.intro (by (conv => arg 1; whnf); first | (with_reducible exact .refl) | exact dle_int (wrap_succ (by omega)) | exact .refl) ?_), by repeat' ((conv => whnf); first | exact trivial | refine And.intro ?_ ?_ | exact .refl), rfl⟩
  · intro i hi
    repeat' ((conv => whnf); first | refine And.intro (fun h => h) ?_ | refine dcond_t (by assumption) ?_ | refine dcond_f (by assumption) ?_ | (refine dcond_intro ?_ ?_ <;> intro h) | exact .refl | refine And.intro (by kernel_rfl) ?_ | refine And.intro ⟨fun h => h, fun h => h⟩ ?_ | refine Exists.intro false ?_ | (refine And.intro ?_ ?_; focus (simp; done)) | fail)
    · have hlt : i < l.length := by simpa using h
      clear h
      repeat' ((conv => whnf); first | refine And.intro (fun h => h) ?_ | refine dcond_t (by assumption) ?_ | refine dcond_f (by assumption) ?_ | (refine dcond_intro ?_ ?_ <;> intro h) | exact .refl | refine And.intro (by kernel_rfl) ?_ | refine And.intro ⟨fun h => h, fun h => h⟩ ?_ | refine ⟨_, _, And.intro ⟨rfl, get_map hlt⟩ ?_⟩ | refine .inl ⟨_, _, DleAll_refl _, c_ref3_Contains _ hm' _, ?_⟩ | refine ⟨_, _, DleAll_refl _, fun _ => c_ref3_Contains _ hm' _, ?_⟩ | refine ⟨_, _, DleAll_refl _, c_ref3_Contains _ hm' _, ?_⟩ | refine Exists.intro false ?_ | (refine And.intro ?_ ?_; focus (simp; done)) | fail)
      all_goals (conv => whnf)
      · have hA := amongP_len l m b i
        refine And.intro (fitsI (by simp; omega)) ?_
        repeat' ((conv => whnf); first | refine And.intro (fun h => h) ?_ | refine dcond_t (by assumption) ?_ | refine dcond_f (by assumption) ?_ | (refine dcond_intro ?_ ?_ <;> intro h) | exact .refl | refine And.intro (by kernel_rfl) ?_ | refine And.intro ⟨fun h => h, fun h => h⟩ ?_ | refine Exists.intro false ?_ | (refine And.intro ?_ ?_; focus (simp; done)) | fail)
        all_goals (conv => whnf)
        refine ⟨i + 1, hlt, by simp only []; omega, ?_⟩
        refine ⟨⟨.refl, .refl, .refl, .refl, dle_int (wrap_succ (by omega)), trivial⟩, ⟨ole_row ?_, trivial⟩, rfl⟩
        simp only [amongP, List.take_succ_eq_append_getElem hlt, List.filter_append, List.map_append]
        have h' : amongB m b l[i] = true := h
        simp [List.filter_cons, h', intE, dcells]
      · refine ⟨i + 1, hlt, by simp only []; omega, ?_⟩
        refine ⟨⟨.refl, .refl, .refl, .refl, dle_int (wrap_succ (by omega)), trivial⟩, ⟨ole_row ?_, trivial⟩, rfl⟩
        simp only [amongP, List.take_succ_eq_append_getElem hlt, List.filter_append, List.map_append]
        have h' : amongB m b l[i] = false := h
        simp [List.filter_cons, h']
    · have hge : ¬ i < l.length := by simpa using h
      have : i = l.length := by omega
      subst this
      repeat' ((conv => whnf); first | refine And.intro (fun h => h) ?_ | refine dcond_t (by assumption) ?_ | refine dcond_f (by assumption) ?_ | (refine dcond_intro ?_ ?_ <;> intro h) | exact .refl | refine And.intro (by kernel_rfl) ?_ | refine And.intro ⟨fun h => h, fun h => h⟩ ?_ | refine Exists.intro false ?_ | (refine And.intro ?_ ?_; focus (simp; done)) | fail)
      all_goals (conv => whnf)
      refine dle_lst ?_
      simp [amongP]
theorem c_ref3_Survivors (v : View) (hv : v.mem.length ≤ 1000000) (cut : List Int) (hc : cut.length ≤ 1000000) : Ret Tryz.prog 115 [.agg (viewE v), .lst 1 (cut.map intE) false] (.lst 1 ((splitR v cut v.mem cut).2.map intE) false) := by
  have h1 : v.mem.length ≤ maxLen := Nat.le_trans hv (by decide)
  have h2 : cut.length ≤ maxLen := Nat.le_trans hc (by decide)
  refine ret_of_body (fn := Tryz.f115) (c := Tryz.f115.body.getD .skip) hm hT (by kernel_rfl) Tryz.func115 (by kernel_rfl) (by kernel_rfl) (by kernel_rfl) (by kernel_rfl) ?_
  repeat' ((conv => whnf); first | refine And.intro (fun h => h) ?_ | refine dcond_t (by assumption) ?_ | refine dcond_f (by assumption) ?_ | (refine dcond_intro ?_ ?_ <;> intro h) | exact .refl | refine And.intro (by kernel_rfl) ?_ | refine And.intro ⟨fun h => h, fun h => h⟩ ?_ | refine .inl ⟨_, _, DleAll_refl _, c_ref3_Valid _ h1, ?_⟩ | refine ⟨_, _, DleAll_refl _, fun _ => c_ref3_Valid _ h1, ?_⟩ | refine ⟨_, _, DleAll_refl _, c_ref3_Valid _ h1, ?_⟩ | refine .inl ⟨_, _, DleAll_refl _, c_ref3_ValidCut _ h2, ?_⟩ | refine ⟨_, _, DleAll_refl _, fun _ => c_ref3_ValidCut _ h2, ?_⟩ | refine ⟨_, _, DleAll_refl _, c_ref3_ValidCut _ h2, ?_⟩ | refine .inl ⟨_, _, DleAll_refl _, c_ref3_Among _ _ hv h2 _, ?_⟩ | refine ⟨_, _, DleAll_refl _, fun _ => c_ref3_Among _ _ hv h2 _, ?_⟩ | refine ⟨_, _, DleAll_refl _, c_ref3_Among _ _ hv h2 _, ?_⟩ | refine Exists.intro false ?_ | (refine And.intro ?_ ?_; focus (simp; done)) | fail)
  all_goals (conv => whnf)
  all_goals (try simp only [cutRB_eq] at *)
  all_goals simp only [splitR, *, cond_true, cond_false]
  · exact .nl
  · refine dle_lst ?_
    congr 1
    apply List.filter_congr
    intro x _
    simp [amongB]
theorem c_ref3_Joiners (v : View) (hv : v.mem.length ≤ 1000000) (cut : List Int) (hc : cut.length ≤ 1000000) : Ret Tryz.prog 116 [.agg (viewE v), .lst 1 (cut.map intE) false] (.lst 1 ((splitR v cut cut v.mem).2.map intE) false) := by
  have h1 : v.mem.length ≤ maxLen := Nat.le_trans hv (by decide)
  have h2 : cut.length ≤ maxLen := Nat.le_trans hc (by decide)
  refine ret_of_body (fn := Tryz.f116) (c := Tryz.f116.body.getD .skip) hm hT (by kernel_rfl) Tryz.func116 (by kernel_rfl) (by kernel_rfl) (by kernel_rfl) (by kernel_rfl) ?_
  repeat' ((conv => whnf); first | refine And.intro (fun h => h) ?_ | refine dcond_t (by assumption) ?_ | refine dcond_f (by assumption) ?_ | (refine dcond_intro ?_ ?_ <;> intro h) | exact .refl | refine And.intro (by kernel_rfl) ?_ | refine And.intro ⟨fun h => h, fun h => h⟩ ?_ | refine .inl ⟨_, _, DleAll_refl _, c_ref3_Valid _ h1, ?_⟩ | refine ⟨_, _, DleAll_refl _, fun _ => c_ref3_Valid _ h1, ?_⟩ | refine ⟨_, _, DleAll_refl _, c_ref3_Valid _ h1, ?_⟩ | refine .inl ⟨_, _, DleAll_refl _, c_ref3_ValidCut _ h2, ?_⟩ | refine ⟨_, _, DleAll_refl _, fun _ => c_ref3_ValidCut _ h2, ?_⟩ | refine ⟨_, _, DleAll_refl _, c_ref3_ValidCut _ h2, ?_⟩ | refine .inl ⟨_, _, DleAll_refl _, c_ref3_Among _ _ hc h1 _, ?_⟩ | refine ⟨_, _, DleAll_refl _, fun _ => c_ref3_Among _ _ hc h1 _, ?_⟩ | refine ⟨_, _, DleAll_refl _, c_ref3_Among _ _ hc h1 _, ?_⟩ | refine Exists.intro false ?_ | (refine And.intro ?_ ?_; focus (simp; done)) | fail)
  all_goals (conv => whnf)
  all_goals (try simp only [cutRB_eq] at *)
  all_goals simp only [splitR, *, cond_true, cond_false]
  · exact .nl
  · refine dle_lst ?_
    congr 1
    apply List.filter_congr
    intro x _
    simp [amongB]
def insA (l : List Int) (x : Int) : Nat → List Int × Bool
  | 0 => ([], false)
  | i + 1 => bif !(insA l x i).2 && decide (x < l.getD i 0) then ((insA l x i).1 ++ [x] ++ [l.getD i 0], true) else ((insA l x i).1 ++ [l.getD i 0], (insA l x i).2)
def insL (l : List Int) (x : Int) : List Int := bif (insA l x l.length).2 then (insA l x l.length).1 else (insA l x l.length).1 ++ [x]
theorem insA_len (l : List Int) (x : Int) : ∀ i, (insA l x i).1.length ≤ i + 1 ∧ ((insA l x i).2 = false → (insA l x i).1.length ≤ i)
  | 0 => by simp [insA]
  | i + 1 => by
    have ih := insA_len l x i
    simp only [insA]
    cases h : (insA l x i).2 <;> cases h2 : decide (x < l.getD i 0) <;> simp_all <;> omega
theorem insL_len (l : List Int) (x : Int) : (insL l x).length ≤ l.length + 1 := by
  have := insA_len l x l.length
  unfold insL
  cases h : (insA l x l.length).2 <;> simp_all
theorem c_ref3_Insert (l : List Int) (hl : l.length ≤ 1000000) (x : Int) : Ret Tryz.prog 117 [.lst 1 (l.map intE) false, .v (.int .i64 x)] (.lst 1 ((insL l x).map intE) false) := by
  refine ret_of_body (fn := Tryz.f117) (c := Tryz.f117.body.getD .skip) hm hT (by kernel_rfl) Tryz.func117 (by kernel_rfl) (by kernel_rfl) (by kernel_rfl) (by kernel_rfl) ?_
  repeat' ((conv => whnf); first | refine And.intro (fun h => h) ?_ | refine dcond_t (by assumption) ?_ | refine dcond_f (by assumption) ?_ | (refine dcond_intro ?_ ?_ <;> intro h) | exact .refl | refine And.intro (by kernel_rfl) ?_ | refine And.intro ⟨fun h => h, fun h => h⟩ ?_ | refine Exists.intro false ?_ | (refine And.intro ?_ ?_; focus (simp; done)) | fail)
  refine ⟨Nat, fun i => ⟨[(0, .lst 1 (l.map intE) false), (1, .v (.int .i64 x)), (5, .own 0), (6, .v (.bool (insA l x i).2)), (7, i64 i)], [.row 3 1 ((insA l x i).1.map intE)]⟩, fun i => i ≤ l.length, fun i => l.length - i, [.slot 5 3 1], ⟨0, Nat.zero_le _, ?_⟩, ?_⟩
  · conv => whnf
    exact ⟨by repeat' ((conv => whnf); first | exact trivial | refine And.intro (by (conv => arg 1; whnf); first | (with_reducible exact .refl) | exact dle_int (wrap_succ (by omega)) | exact .refl) ?_), by repeat' ((conv => whnf); first | exact trivial | refine And.intro ?_ ?_ | exact .refl), rfl⟩
  · intro i hi
    have hA := insA_len l x i
    repeat' ((conv => whnf); first | refine And.intro (fun h => h) ?_ | refine dcond_t (by assumption) ?_ | refine dcond_f (by assumption) ?_ | (refine dcond_intro ?_ ?_ <;> intro h) | exact .refl | refine And.intro (by kernel_rfl) ?_ | refine And.intro ⟨fun h => h, fun h => h⟩ ?_ | refine Exists.intro false ?_ | (refine And.intro ?_ ?_; focus (simp; done)) | fail)
    · have hlt : i < l.length := by simpa using h
      clear h
      have hg : l.getD i 0 = l[i] := by simp [hlt]
      repeat' ((conv => whnf); first | refine And.intro (fun h => h) ?_ | refine dcond_t (by assumption) ?_ | refine dcond_f (by assumption) ?_ | (refine dcond_intro ?_ ?_ <;> intro h) | exact .refl | refine And.intro (by kernel_rfl) ?_ | refine And.intro ⟨fun h => h, fun h => h⟩ ?_ | refine ⟨_, _, And.intro ⟨rfl, get_map hlt⟩ ?_⟩ | refine ⟨i, intE (l[i]'hlt), And.intro ⟨⟨fun h => h, fun h => h⟩, fun hg => ⟨rfl, get_map hlt⟩⟩ ?_⟩ | refine Exists.intro false ?_ | (refine And.intro ?_ ?_; focus (simp; done)) | fail)
      all_goals (conv => whnf)
      · have e : insA l x (i + 1) = ((insA l x i).1 ++ [x] ++ [l[i]], true) := by simp only [insA, hg, h, cond_true]
        refine And.intro (fitsI (by simp; omega)) ?_
        repeat' ((conv => whnf); first | refine And.intro (fun h => h) ?_ | refine dcond_t (by assumption) ?_ | refine dcond_f (by assumption) ?_ | (refine dcond_intro ?_ ?_ <;> intro h) | exact .refl | refine And.intro (by kernel_rfl) ?_ | refine And.intro ⟨fun h => h, fun h => h⟩ ?_ | refine ⟨_, _, And.intro ⟨rfl, get_map hlt⟩ ?_⟩ | refine Exists.intro false ?_ | (refine And.intro ?_ ?_; focus (simp; done)) | fail)
        all_goals (conv => whnf)
        refine And.intro (fitsI (by simp; omega)) ?_
        repeat' ((conv => whnf); first | refine And.intro (fun h => h) ?_ | refine dcond_t (by assumption) ?_ | refine dcond_f (by assumption) ?_ | (refine dcond_intro ?_ ?_ <;> intro h) | exact .refl | refine And.intro (by kernel_rfl) ?_ | refine And.intro ⟨fun h => h, fun h => h⟩ ?_ | refine Exists.intro false ?_ | (refine And.intro ?_ ?_; focus (simp; done)) | fail)
        all_goals (conv => whnf)
        refine ⟨i + 1, hlt, by simp only []; omega, ?_⟩
        refine ⟨⟨.refl, .refl, .refl, dle_bool (by rw [e]), dle_int (wrap_succ (by omega)), trivial⟩, ⟨ole_row ?_, trivial⟩, rfl⟩
        rw [e]
        simp [intE, dcells]
      · have e : insA l x (i + 1) = ((insA l x i).1 ++ [l[i]], (insA l x i).2) := by simp only [insA, hg, h, cond_false]
        repeat' ((conv => whnf); first | refine And.intro (fun h => h) ?_ | refine dcond_t (by assumption) ?_ | refine dcond_f (by assumption) ?_ | (refine dcond_intro ?_ ?_ <;> intro h) | exact .refl | refine And.intro (by kernel_rfl) ?_ | refine And.intro ⟨fun h => h, fun h => h⟩ ?_ | refine ⟨_, _, And.intro ⟨rfl, get_map hlt⟩ ?_⟩ | refine Exists.intro false ?_ | (refine And.intro ?_ ?_; focus (simp; done)) | fail)
        all_goals (conv => whnf)
        refine And.intro (fitsI (by simp; omega)) ?_
        repeat' ((conv => whnf); first | refine And.intro (fun h => h) ?_ | refine dcond_t (by assumption) ?_ | refine dcond_f (by assumption) ?_ | (refine dcond_intro ?_ ?_ <;> intro h) | exact .refl | refine And.intro (by kernel_rfl) ?_ | refine And.intro ⟨fun h => h, fun h => h⟩ ?_ | refine Exists.intro false ?_ | (refine And.intro ?_ ?_; focus (simp; done)) | fail)
        all_goals (conv => whnf)
        refine ⟨i + 1, hlt, by simp only []; omega, ?_⟩
        refine ⟨⟨.refl, .refl, .refl, dle_bool (by rw [e]), dle_int (wrap_succ (by omega)), trivial⟩, ⟨ole_row ?_, trivial⟩, rfl⟩
        rw [e]
        simp [intE, dcells]
    · rename_i hge0
      have hge : ¬ i < l.length := by simpa using hge0
      have : i = l.length := by omega
      subst this
      clear hge0
      have h : (insA l x l.length).2 = false := by simpa using h
      conv => whnf
      refine And.intro (fitsI (by simp; omega)) ?_
      repeat' ((conv => whnf); first | refine And.intro (fun h => h) ?_ | refine dcond_t (by assumption) ?_ | refine dcond_f (by assumption) ?_ | (refine dcond_intro ?_ ?_ <;> intro h) | exact .refl | refine And.intro (by kernel_rfl) ?_ | refine And.intro ⟨fun h => h, fun h => h⟩ ?_ | refine Exists.intro false ?_ | (refine And.intro ?_ ?_; focus (simp; done)) | fail)
      all_goals (conv => whnf)
      refine dle_lst ?_
      simp only [insL, h, cond_false]
      simp [intE, dcells]
    · rename_i hge0
      have hge : ¬ i < l.length := by simpa using hge0
      have : i = l.length := by omega
      subst this
      clear hge0
      have h : (insA l x l.length).2 = true := by simpa using h
      repeat' ((conv => whnf); first | refine And.intro (fun h => h) ?_ | refine dcond_t (by assumption) ?_ | refine dcond_f (by assumption) ?_ | (refine dcond_intro ?_ ?_ <;> intro h) | exact .refl | refine And.intro (by kernel_rfl) ?_ | refine And.intro ⟨fun h => h, fun h => h⟩ ?_ | refine Exists.intro false ?_ | (refine And.intro ?_ ?_; focus (simp; done)) | fail)
      all_goals (conv => whnf)
      refine dle_lst ?_
      simp only [insL, h, cond_true]
def insTo (l j : List Int) : Nat → List Int
  | 0 => l
  | i + 1 => insL (insTo l j i) (j.getD i 0)
theorem insTo_len (l j : List Int) : ∀ i, (insTo l j i).length ≤ l.length + i
  | 0 => Nat.le_refl _
  | i + 1 => by
    have := insTo_len l j i
    have h2 := insL_len (insTo l j i) (j.getD i 0)
    simp only [insTo]
    omega
def nextRR (v : View) (cut : List Int) : View × Int :=
  bif !viewB v || !idsB cut 32 then (⟨0, []⟩, 1)
  else bif decide (2 * ((stayL v cut).length : Int) ≤ (v.mem.length : Int)) then (⟨0, []⟩, 9)
  else bif decide (v.num = 1099511627776) || decide (16 < ((stayL v cut).length : Int) + ((comeL v cut).length : Int)) then (⟨0, []⟩, 5)
  else (⟨IntKind.i64.wrap (v.num + 1), insTo (stayL v cut) (comeL v cut) (comeL v cut).length⟩, 0)
theorem nextRR_err (v : View) (cut : List Int) : (nextRR v cut).2 = (nextR v cut).2 := by
  unfold nextRR nextR
  cases (!viewB v || !idsB cut 32) <;> simp only [cond_true, cond_false]
  cases decide (2 * ((stayL v cut).length : Int) ≤ (v.mem.length : Int)) <;> simp only [cond_true, cond_false]
  cases (decide (v.num = 1099511627776) || decide (16 < ((stayL v cut).length : Int) + ((comeL v cut).length : Int))) <;> simp only [cond_true, cond_false]
theorem c_ref3_Next (v : View) (hv : v.mem.length ≤ 500000) (cut : List Int) (hc : cut.length ≤ 500000) : Ret Tryz.prog 87 [.agg (viewE v), .lst 1 (cut.map intE) false] (.tup [.agg (viewE (nextRR v cut).1), .v (.int .i64 (nextRR v cut).2)]) := by
  have h1 : v.mem.length ≤ maxLen := Nat.le_trans hv (by decide)
  have h2 : cut.length ≤ maxLen := Nat.le_trans hc (by decide)
  have h3 : (stayL v cut).length ≤ 500000 := Nat.le_trans (split_len _ _ _ _) hv
  have h4 : (comeL v cut).length ≤ 500000 := Nat.le_trans (split_len _ _ _ _) hc
  have es : Ret Tryz.prog 115 [.agg (viewE v), .lst 1 (cut.map intE) false] (.lst 1 ((stayL v cut).map intE) false) := c_ref3_Survivors v (by omega) cut (by omega)
  have ej : Ret Tryz.prog 116 [.agg (viewE v), .lst 1 (cut.map intE) false] (.lst 1 ((comeL v cut).map intE) false) := c_ref3_Joiners v (by omega) cut (by omega)
  have w1 : IntKind.i64.wrap (2 * ((stayL v cut).length : Int)) = 2 * ((stayL v cut).length : Int) := wrap_i64 (by omega) (by omega)
  have w2 : IntKind.i64.wrap (((stayL v cut).length : Int) + ((comeL v cut).length : Int)) = ((stayL v cut).length : Int) + ((comeL v cut).length : Int) := wrap_i64 (by omega) (by omega)
  refine ret_of_body (fn := Tryz.f87) (c := Tryz.f87.body.getD .skip) hm hT (by kernel_rfl) Tryz.func87 (by kernel_rfl) (by kernel_rfl) (by kernel_rfl) (by kernel_rfl) ?_
  repeat' ((conv => whnf); first | refine And.intro (fun h => h) ?_ | refine dcond_t (by assumption) ?_ | refine dcond_f (by assumption) ?_ | (refine dcond_intro ?_ ?_ <;> intro h) | exact .refl | refine And.intro (by kernel_rfl) ?_ | refine And.intro ⟨fun h => h, fun h => h⟩ ?_ | refine .inl ⟨_, _, DleAll_refl _, c_ref3_Valid _ h1, ?_⟩ | refine ⟨_, _, DleAll_refl _, fun _ => c_ref3_Valid _ h1, ?_⟩ | refine ⟨_, _, DleAll_refl _, c_ref3_Valid _ h1, ?_⟩ | refine .inl ⟨_, _, DleAll_refl _, c_ref3_ValidCut _ h2, ?_⟩ | refine ⟨_, _, DleAll_refl _, fun _ => c_ref3_ValidCut _ h2, ?_⟩ | refine ⟨_, _, DleAll_refl _, c_ref3_ValidCut _ h2, ?_⟩ | refine .inl ⟨_, _, DleAll_refl _, es, ?_⟩ | refine ⟨_, _, DleAll_refl _, fun _ => es, ?_⟩ | refine ⟨_, _, DleAll_refl _, es, ?_⟩ | refine .inl ⟨_, _, DleAll_refl _, ej, ?_⟩ | refine ⟨_, _, DleAll_refl _, fun _ => ej, ?_⟩ | refine ⟨_, _, DleAll_refl _, ej, ?_⟩ | refine Exists.intro false ?_ | (refine And.intro ?_ ?_; focus (simp; done)) | fail)
  all_goals (conv => whnf)
  all_goals (try simp only [List.length_map, w1, w2, cutRB_eq] at *)
  · simp only [nextRR, *, cond_true, cond_false]
    exact dle_tupA ⟨dle_aggA ⟨.refl, .nl, trivial⟩, .refl, trivial⟩
  · simp only [nextRR, *, cond_true, cond_false]
    exact dle_tupA ⟨dle_aggA ⟨.refl, .nl, trivial⟩, .refl, trivial⟩
  · simp only [nextRR, *, cond_true, cond_false]
    exact dle_tupA ⟨dle_aggA ⟨.refl, .nl, trivial⟩, .refl, trivial⟩
  · have e : nextRR v cut = (⟨IntKind.i64.wrap (v.num + 1), insTo (stayL v cut) (comeL v cut) (comeL v cut).length⟩, 0) := by simp only [nextRR, *, cond_true, cond_false]
    rw [e]
    refine ⟨Nat, fun i => ⟨[(2, .lp 0 0), (4, .lp 1 0), (6, .lst 1 ((insTo (stayL v cut) (comeL v cut) i).map intE) false), (7, .lst 1 ((comeL v cut).map intE) false), (8, i64 i)], [.cells 24 (viewE v), .cells 24 [.v (.int .i64 0), .nl]]⟩, fun i => i ≤ (comeL v cut).length, fun i => (comeL v cut).length - i, [], ⟨0, Nat.zero_le _, ?_⟩, ?_⟩
    · exact ⟨by repeat' ((conv => whnf); first | exact trivial | refine And.intro (by (conv => arg 1; whnf); first | (with_reducible exact .refl) | exact dle_int (wrap_succ (by omega)) | exact .refl) ?_), by repeat' ((conv => whnf); first | exact trivial | refine And.intro ?_ ?_ | exact .refl), rfl⟩
    · intro i hi
      have hl := insTo_len (stayL v cut) (comeL v cut) i
      repeat' ((conv => whnf); first | refine And.intro (fun h => h) ?_ | refine dcond_t (by assumption) ?_ | refine dcond_f (by assumption) ?_ | (refine dcond_intro ?_ ?_ <;> intro h) | exact .refl | refine And.intro (by kernel_rfl) ?_ | refine And.intro ⟨fun h => h, fun h => h⟩ ?_ | refine Exists.intro false ?_ | (refine And.intro ?_ ?_; focus (simp; done)) | fail)
      · have hlt : i < (comeL v cut).length := by simpa using h
        repeat' ((conv => whnf); first | refine And.intro (fun h => h) ?_ | refine dcond_t (by assumption) ?_ | refine dcond_f (by assumption) ?_ | (refine dcond_intro ?_ ?_ <;> intro h) | exact .refl | refine And.intro (by kernel_rfl) ?_ | refine And.intro ⟨fun h => h, fun h => h⟩ ?_ | refine ⟨_, _, And.intro ⟨rfl, get_map hlt⟩ ?_⟩ | refine .inl ⟨_, _, DleAll_refl _, c_ref3_Insert _ (by omega) _, ?_⟩ | refine ⟨_, _, DleAll_refl _, fun _ => c_ref3_Insert _ (by omega) _, ?_⟩ | refine ⟨_, _, DleAll_refl _, c_ref3_Insert _ (by omega) _, ?_⟩ | refine Exists.intro false ?_ | (refine And.intro ?_ ?_; focus (simp; done)) | fail)
        all_goals (conv => whnf)
        refine ⟨i + 1, hlt, by simp only []; omega, ?_⟩
        refine ⟨⟨.refl, .refl, dle_lst ?_, .refl, dle_int (wrap_succ (by omega)), trivial⟩, ⟨.refl, .refl, trivial⟩, rfl⟩
        have hg : (comeL v cut).getD i 0 = (comeL v cut)[i] := by simp [hlt]
        simp only [insTo, hg]
      · have hge : ¬ i < (comeL v cut).length := by simpa using h
        have : i = (comeL v cut).length := by omega
        subst this
        repeat' ((conv => whnf); first | refine And.intro (fun h => h) ?_ | refine dcond_t (by assumption) ?_ | refine dcond_f (by assumption) ?_ | (refine dcond_intro ?_ ?_ <;> intro h) | exact .refl | refine And.intro (by kernel_rfl) ?_ | refine And.intro ⟨fun h => h, fun h => h⟩ ?_ | refine Exists.intro false ?_ | (refine And.intro ?_ ?_; focus (simp; done)) | fail)
theorem c_ref3_Applicable (v : View) (hv : v.mem.length ≤ 500000) (cut : List Int) (hc : cut.length ≤ 500000) : Ret Tryz.prog 25 [.agg (viewE v), .lst 1 (cut.map intE) false] (.v (.bool (decide ((nextR v cut).2 = 0)))) := by
  rw [← nextRR_err]
  refine ret_of_body (fn := Tryz.f25) (c := Tryz.f25.body.getD .skip) hm hT (by kernel_rfl) Tryz.func25 (by kernel_rfl) (by kernel_rfl) (by kernel_rfl) (by kernel_rfl) ?_
  repeat' ((conv => whnf); first | refine And.intro (fun h => h) ?_ | refine dcond_t (by assumption) ?_ | refine dcond_f (by assumption) ?_ | (refine dcond_intro ?_ ?_ <;> intro h) | exact .refl | refine And.intro (by kernel_rfl) ?_ | refine And.intro ⟨fun h => h, fun h => h⟩ ?_ | refine .inl ⟨_, _, DleAll_refl _, c_ref3_Next _ hv _ hc, ?_⟩ | refine ⟨_, _, DleAll_refl _, fun _ => c_ref3_Next _ hv _ hc, ?_⟩ | refine ⟨_, _, DleAll_refl _, c_ref3_Next _ hv _ hc, ?_⟩ | refine Exists.intro false ?_ | (refine And.intro ?_ ?_; focus (simp; done)) | fail)
end Go.Proofs.YtmbniilpgbjcfaaGreat
