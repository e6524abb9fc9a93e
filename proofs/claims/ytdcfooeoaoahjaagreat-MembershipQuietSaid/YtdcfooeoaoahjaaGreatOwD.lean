/- The laws of this seat, part OwD: contracts of the functions, plain laws. No conditions. -/
import Derived.Test.YtdcfooeoaoahjaaGreatOwC
set_option linter.unusedSimpArgs false
set_option linter.unusedVariables false
set_option maxRecDepth 100000
namespace Go.Proofs.YtdcfooeoaoahjaaGreat
open Go.Lift
theorem bits_u32 (op : BinOp) (x y : Int) : ∃ n : Nat, n < 4294967296 ∧ bits op .u32 x y = (n : Int) := by
  obtain ⟨z, hz⟩ : ∃ z : Int, bits op .u32 x y = IntKind.u32.wrap z := ⟨_, rfl⟩
  rw [hz, wrap_u32]
  refine ⟨(z % 4294967296).toNat, ?_, ?_⟩ <;> omega
theorem and1_u32 (n : Nat) (h : n < 4294967296) : bits .and .u32 (n : Int) 1 = ((n % 2 : Nat) : Int) := by
  unfold bits
  simp only [IntKind.bits]
  have hb : (BitVec.ofInt 32 (n : Int) &&& BitVec.ofInt 32 1).toNat = n % 2 := by
    rw [BitVec.toNat_and, BitVec.ofInt_natCast, BitVec.toNat_ofNat, Nat.mod_eq_of_lt (by omega)]
    have : (BitVec.ofInt 32 1).toNat = 1 := by decide
    rw [this, Nat.and_one_is_mod]
  exact (congrArg (fun k : Nat => IntKind.u32.wrap (k : Int)) hb).trans (by rw [wrap_u32]; omega)
theorem xor0_u32 (n : Nat) (h : n < 4294967296) : bits .xor .u32 (n : Int) 0 = (n : Int) := by
  unfold bits
  simp only [IntKind.bits]
  have hb : (BitVec.ofInt 32 (n : Int) ^^^ BitVec.ofInt 32 0).toNat = n := by
    have h0 : BitVec.ofInt 32 0 = 0#32 := by decide
    rw [h0, BitVec.xor_zero, BitVec.ofInt_natCast, BitVec.toNat_ofNat]
    exact Nat.mod_eq_of_lt (by omega)
  exact (congrArg (fun k : Nat => IntKind.u32.wrap (k : Int)) hb).trans (by rw [wrap_u32]; omega)
theorem crcS_step (n : Nat) (h : n < 4294967296) : (bits .and .u32 (n : Int) 1 = 1 → crcS n = bits .xor .u32 ((n : Int).fdiv (2 ^ (min (1 : Int).toNat 32))) 3988292384) ∧ (bits .and .u32 (n : Int) 1 ≠ 1 → crcS n = (n : Int).fdiv (2 ^ (min (1 : Int).toNat 32))) := by
  have hd : (n : Int).fdiv (2 ^ (min (1 : Int).toNat 32)) = ((n / 2 : Nat) : Int) := (Int.ofNat_fdiv n 2).symm
  unfold crcS
  rw [hd, and1_u32 n h]
  constructor
  · intro e
    rw [e]
    have : IntKind.u32.wrap (3988292384 * 1) = 3988292384 := by decide
    rw [this]
  · intro e
    have e0 : ((n % 2 : Nat) : Int) = 0 := by omega
    rw [e0]
    have : IntKind.u32.wrap (3988292384 * 0) = 0 := by decide
    rw [this, xor0_u32 _ (by omega)]
theorem crcS_nat (x : Int) : ∃ n : Nat, n < 4294967296 ∧ crcS x = (n : Int) := bits_u32 _ _ _
theorem crcN_nat {x : Int} (h : ∃ n : Nat, n < 4294967296 ∧ x = (n : Int)) : ∀ k, ∃ n : Nat, n < 4294967296 ∧ crcN x k = (n : Int)
  | 0 => h
  | k + 1 => crcS_nat _
theorem c_ref1_Checksum (l : List Nat) (hl : l.length ≤ 1000000) : Ret Tryz.prog 129 [.lst 1 (l.map byteI) false] (.v (.int .u32 (crcR l))) := by
  refine ret_of_body (fn := Tryz.f129) (c := Tryz.f129.body.getD .skip) hm hT (by kernel_rfl) Tryz.func129 (by kernel_rfl) (by kernel_rfl) (by kernel_rfl) (by kernel_rfl) ?_
  repeat' ((conv => whnf); first | refine And.intro (fun h => h) ?_ | refine dcond_t (by assumption) ?_ | refine dcond_f (by assumption) ?_ | (refine dcond_intro ?_ ?_ <;> intro h) | exact .refl | refine And.intro (by kernel_rfl) ?_ | refine And.intro ⟨fun h => h, fun h => h⟩ ?_ | refine Exists.intro false ?_ | (refine And.intro ?_ ?_; focus (simp; done)) | fail)
  all_goals (conv => whnf)
  refine ⟨Nat, fun i => ⟨[(0, .lst 1 (l.map byteI) false), (3, .v (.int .u32 (crcA l i))), (4, i64 i)], []⟩, fun i => i ≤ l.length, fun i => l.length - i, [], ⟨0, Nat.zero_le _, ?_⟩, ?_⟩
  · conv => whnf
    exact ⟨⟨.refl, .refl, .refl, trivial⟩, trivial, by rfl⟩
  · intro i hi
    repeat' ((conv => whnf); first | refine And.intro (fun h => h) ?_ | refine dcond_t (by assumption) ?_ | refine dcond_f (by assumption) ?_ | (refine dcond_intro ?_ ?_ <;> intro h) | exact .refl | refine And.intro (by kernel_rfl) ?_ | refine And.intro ⟨fun h => h, fun h => h⟩ ?_ | refine Exists.intro false ?_ | (refine And.intro ?_ ?_; focus (simp; done)) | fail)
    all_goals (conv => whnf)
    · have hlt : i < l.length := by simpa using h
      clear h
      have hg : l.getD i 0 = l[i] := by simp [hlt]
      have hnx : crcA l (i + 1) = crcN (bits .xor .u32 (crcA l i) (IntKind.u32.wrap ((l.getD i 0 : Nat) : Int))) 8 := rfl
      rw [hg] at hnx
      generalize crcA l i = a at *
      have hgl : (l.map byteI)[i]? = some (byteI l[i]) := get_map hlt
      obtain ⟨y, hy⟩ : ∃ y, y = l[i] := ⟨_, rfl⟩
      rw [← hy] at hgl hnx
      have hnn := crcN_nat (bits_u32 .xor a (IntKind.u32.wrap (y : Int)))
      repeat' ((conv => whnf); first | refine And.intro (fun h => h) ?_ | refine dcond_t (by assumption) ?_ | refine dcond_f (by assumption) ?_ | (refine dcond_intro ?_ ?_ <;> intro h) | exact .refl | refine And.intro (by kernel_rfl) ?_ | refine And.intro ⟨fun h => h, fun h => h⟩ ?_ | refine ⟨i, byteI y, And.intro ⟨rfl, hgl⟩ ?_⟩ | refine Exists.intro false ?_ | (refine And.intro ?_ ?_; focus (simp; done)) | fail)
      all_goals (conv => whnf)
      refine ⟨Nat, fun k => ⟨[(0, .lst 1 (l.map byteI) false), (3, .v (.int .u32 (crcN (bits .xor .u32 a (IntKind.u32.wrap (y : Int))) k))), (4, i64 i), (5, i64 k)], []⟩, fun k => k ≤ 8, fun k => 8 - k, [], ⟨0, Nat.zero_le _, ?_⟩, ?_⟩
      · conv => whnf
        exact ⟨⟨.refl, .refl, .refl, .refl, trivial⟩, trivial, by rfl⟩
      · intro k hk
        have hnk : crcN (bits .xor .u32 a (IntKind.u32.wrap (y : Int))) (k + 1) = crcS (crcN (bits .xor .u32 a (IntKind.u32.wrap (y : Int))) k) := rfl
        have hk8 : k = 8 → crcN (bits .xor .u32 a (IntKind.u32.wrap (y : Int))) k = crcA l (i + 1) := fun e => by rw [hnx, e]
        obtain ⟨n, hn, hne⟩ := hnn k
        have hst := crcS_step n hn
        rw [← hne] at hst
        rw [← hnk] at hst
        repeat' ((conv => whnf); first | refine And.intro (fun h => h) ?_ | refine dcond_t (by assumption) ?_ | refine dcond_f (by assumption) ?_ | (refine dcond_intro ?_ ?_ <;> intro h) | exact .refl | refine And.intro (by kernel_rfl) ?_ | refine And.intro ⟨fun h => h, fun h => h⟩ ?_ | refine Exists.intro false ?_ | (refine And.intro ?_ ?_; focus (simp; done)) | fail)
        all_goals (conv => whnf)
        · have hk9 : k < 8 := by
            rename_i h9
            have := of_decide_eq_true h9
            omega
          have e1 := hst.1 (of_decide_eq_true h)
          refine ⟨k + 1, hk9, by simp only []; omega, ?_⟩
          conv => whnf
          exact ⟨⟨.refl, dle_int e1.symm, .refl, dle_int (wrap_succ (by omega)), trivial⟩, trivial, by rfl⟩
        · have hk9 : k < 8 := by
            rename_i h9
            have := of_decide_eq_true h9
            omega
          have e1 := hst.2 (of_decide_eq_false h)
          refine ⟨k + 1, hk9, by simp only []; omega, ?_⟩
          conv => whnf
          exact ⟨⟨.refl, dle_int e1.symm, .refl, dle_int (wrap_succ (by omega)), trivial⟩, trivial, by rfl⟩
        · have hk9 : k = 8 := by
            have := of_decide_eq_false h
            omega
          clear h
          refine ⟨i + 1, hlt, by simp only []; omega, ?_⟩
          conv => whnf
          exact ⟨⟨.refl, dle_int (hk8 hk9), dle_int (wrap_succ (by omega)), trivial⟩, trivial, by rfl⟩
    · have hin : i = l.length := by
        have := of_decide_eq_false h
        simp at this
        omega
      subst hin
      exact .refl
theorem c_ref1_Low (n : Int) : Ret Tryz.prog 128 [.v (.int .u32 n)] (.lst 1 ((wordR n).map byteI) false) := by
  rw [← word_eq]
  refine ret_of_body (fn := Tryz.f128) (c := Tryz.f128.body.getD .skip) hm hT (by kernel_rfl) Tryz.func128 (by kernel_rfl) (by kernel_rfl) (by kernel_rfl) (by kernel_rfl) ?_
  repeat' ((conv => whnf); first | refine And.intro (fun h => h) ?_ | refine dcond_t (by assumption) ?_ | refine dcond_f (by assumption) ?_ | (refine dcond_intro ?_ ?_ <;> intro h) | exact .refl | refine And.intro (by kernel_rfl) ?_ | refine And.intro ⟨fun h => h, fun h => h⟩ ?_ | refine Exists.intro false ?_ | (refine And.intro ?_ ?_; focus (simp; done)) | fail)
set_option maxHeartbeats 4000000 in
theorem c_ref1_Seal (k : Nat) (hk1 : 1 ≤ k) (hk : k ≤ 255) (b : List Nat) (hb : b.length ≤ 800000) : Ret Tryz.prog 72 [i64 k, .lst 1 (b.map byteI) false] (.tup [.lst 1 ((sealF k b).map byteI) false, i64 0]) := by
  have hk8 := u8_id hk
  have hrow : [[DV.v (.int .u8 65)], [DV.v (.int .u8 71)], [DV.v (.int .u8 (IntKind.u8.wrap (k : Int)))]] = List.map byteI [65, 71, k] := by rw [hk8]; rfl
  have hll : (leb b.length).length ≤ 10 := leb_len 9 b.length
  have eH : [65, 71, k] ++ leb b.length ++ b = sealH k b := rfl
  have hH : (sealH k b).length ≤ 900000 := by
    unfold sealH
    simp only [List.length_append, List.length_cons, List.length_nil]
    omega
  have e1 := m_ref1_Uint b.length (by omega)
  have e3 := c_ref1_Checksum (sealH k b) (by omega)
  have e4 := c_ref1_Low (crcR (sealH k b))
  have hwl : (wordR (crcR (sealH k b))).length = 4 := rfl
  have hu : IntKind.u64.wrap ((b.map byteI).length : Int) = ((b.length : Nat) : Int) := by
    rw [List.length_map]
    exact u64_id (by omega) (by omega)
  have hcond : (decide ((k : Int) < 1) || decide ((255 : Int) < k) || decide ((16777216 : Int) < ((b.map byteI).length : Int))) = false := by
    rw [decide_eq_false (by omega), decide_eq_false (by omega), List.length_map, decide_eq_false (by omega)]
    rfl
  have hm3 : ([[DV.v (.int .u8 65)], [DV.v (.int .u8 71)], [DV.v (.int .u8 (IntKind.u8.wrap (k : Int)))]] ++ (leb b.length).map byteI) ++ b.map byteI = (sealH k b).map byteI := by
    rw [hrow, ← eH, List.map_append (l₁ := [65, 71, k] ++ leb b.length), List.map_append]
  refine ret_of_body (fn := Tryz.f72) (c := Tryz.f72.body.getD .skip) hm hT (by kernel_rfl) Tryz.func72 (by kernel_rfl) (by kernel_rfl) (by kernel_rfl) (by kernel_rfl) ?_
  repeat' ((conv => whnf); first | refine And.intro (fun h => h) ?_ | refine dcond_t (by assumption) ?_ | refine dcond_f (by assumption) ?_ | (refine dcond_intro ?_ ?_ <;> intro h) | exact .refl | refine And.intro (by kernel_rfl) ?_ | refine And.intro ⟨fun h => h, fun h => h⟩ ?_ | refine dcond_f hcond ?_ | refine .inr ⟨[], [], _, [], _, _, e1, by rfl, trivial, ⟨dle_int hu, trivial⟩, ?_⟩ | refine And.intro (fitsB (by simp <;> omega)) ?_ | refine .inl ⟨[.lst 1 ((sealH k b).map byteI) false], _, ⟨dle_lst hm3, trivial⟩, e3, ?_⟩ | refine .inl ?_ <;> (conv => whnf) <;> refine ⟨[.lst 1 ((sealH k b).map byteI) false], _, ⟨dle_lst hm3, trivial⟩, e3, ?_⟩ | refine .inl ⟨_, _, DleAll_refl _, e4, ?_⟩ | refine ⟨_, _, DleAll_refl _, fun _ => e4, ?_⟩ | refine ⟨_, _, DleAll_refl _, e4, ?_⟩ | refine Exists.intro false ?_ | (refine And.intro ?_ ?_; focus (simp; done)) | fail)
  all_goals (conv => whnf)
  refine dle_tupA ⟨dle_lst ?_, .refl, trivial⟩
  unfold sealF
  rw [List.map_append, ← hm3]
  rfl
theorem c_ref11_seal (k : Nat) (hk1 : 1 ≤ k) (hk : k ≤ 255) (b : List Nat) (hb : b.length ≤ 800000) : Ret Tryz.prog 50 [i64 k, .lst 1 (b.map byteI) false] (.lst 1 ((sealF k b).map byteI) false) := by
  have e1 := c_ref1_Seal k hk1 hk b hb
  generalize sealF k b = W at *
  refine ret_of_body (fn := Tryz.f50) (c := Tryz.f50.body.getD .skip) hm hT (by kernel_rfl) Tryz.func50 (by kernel_rfl) (by kernel_rfl) (by kernel_rfl) (by kernel_rfl) ?_
  repeat' ((conv => whnf); first | refine And.intro (fun h => h) ?_ | refine dcond_t (by assumption) ?_ | refine dcond_f (by assumption) ?_ | (refine dcond_intro ?_ ?_ <;> intro h) | exact .refl | refine And.intro (by kernel_rfl) ?_ | refine And.intro ⟨fun h => h, fun h => h⟩ ?_ | refine .inl ⟨_, _, DleAll_refl _, e1, ?_⟩ | refine ⟨_, _, DleAll_refl _, fun _ => e1, ?_⟩ | refine ⟨_, _, DleAll_refl _, e1, ?_⟩ | refine Exists.intro false ?_ | (refine And.intro ?_ ?_; focus (simp; done)) | fail)
theorem m_ref3_Encode (v : View) (h : viewB v = true) : RetM Tryz.prog 47 [] [.agg (viewE v)] [] [.row 5 1 ((vwB v).map byteI)] (.own 0) := by
  obtain ⟨h1, h2, h3⟩ := view_num h
  obtain ⟨h4, h5⟩ := vw_ints h
  have e1 := c_ref3_Valid v (Nat.le_trans h4 (by decide))
  rw [h] at e1
  have hu := u64_nat h1 h2
  have e2 := m_ref1_Uint v.num.toNat (by omega)
  have e3 := m_ref1_IntList v.mem (by omega) h5
  have hll : (leb v.num.toNat).length ≤ 10 := leb_len 9 _
  have hl2 := vw_len v h
  have hl3 : (intsB v.mem).length ≤ 1000 := by
    unfold vwB at hl2
    rw [List.length_append] at hl2
    omega
  refine retM_of_bodyA (fn := Tryz.f47) (c := Tryz.f47.body.getD .skip) hm hT (by kernel_rfl) Tryz.func47 (by kernel_rfl) (by kernel_rfl) (by kernel_rfl) (by kernel_rfl) (by kernel_rfl) ?_
  repeat' ((conv => whnf); first | refine And.intro (fun h => h) ?_ | refine dcond_t (by assumption) ?_ | refine dcond_f (by assumption) ?_ | (refine dcond_intro ?_ ?_ <;> intro h) | exact .refl | refine And.intro (by kernel_rfl) ?_ | refine And.intro ⟨fun h => h, fun h => h⟩ ?_ | refine .inl ⟨_, _, DleAll_refl _, e1, ?_⟩ | refine ⟨_, _, DleAll_refl _, fun _ => e1, ?_⟩ | refine ⟨_, _, DleAll_refl _, e1, ?_⟩ | refine .inr ⟨[], [], _, [], _, _, e2, by rfl, trivial, ⟨dle_int hu, trivial⟩, ?_⟩ | refine .inr ⟨[], [], _, [], _, _, e3, by rfl, trivial, ⟨.refl, trivial⟩, ?_⟩ | refine And.intro (fitsB (by simp <;> omega)) ?_ | refine Exists.intro false ?_ | (refine And.intro ?_ ?_; focus (simp; done)) | fail)
  all_goals (conv => whnf)
  refine ⟨[.xchg 0 1], ?_⟩
  conv => whnf
  refine ⟨.refl, ⟨ole_row ?_, trivial⟩, by rfl⟩
  unfold vwB
  rw [List.map_append]
theorem c_ref11_HistoryFrame (s : Mem) (hv : viewB s.first = true) (hn : s.hist.length ≤ 400) (hc : ∀ c ∈ s.hist, OkCut c) : Ret Tryz.prog 22 [.agg (memE s)] (.lst 1 ((hiW s.first s.hist).map byteI) false) := by
  have e1 := m_ref3_Encode s.first hv
  have hvl := vw_len s.first hv
  have hhl := hist_len hv hn hc
  have e2 := m_ref1_Uint s.hist.length (by omega)
  have hll : (leb s.hist.length).length ≤ 10 := leb_len 9 _
  have hu : IntKind.u64.wrap ((s.hist.map cutE).length : Int) = ((s.hist.length : Nat) : Int) := by
    rw [List.length_map]
    exact u64_id (by omega) (by omega)
  have e4 := c_ref11_seal 4 (by omega) (by omega) (histB s.first s.hist) (by omega)
  unfold hiW
  generalize sealF 4 (histB s.first s.hist) = W at *
  refine ret_of_body (fn := Tryz.f22) (c := Tryz.f22.body.getD .skip) hm hT (by kernel_rfl) Tryz.func22 (by kernel_rfl) (by kernel_rfl) (by kernel_rfl) (by kernel_rfl) ?_
  repeat' ((conv => whnf); first | refine And.intro (fun h => h) ?_ | refine dcond_t (by assumption) ?_ | refine dcond_f (by assumption) ?_ | (refine dcond_intro ?_ ?_ <;> intro h) | exact .refl | refine And.intro (by kernel_rfl) ?_ | refine And.intro ⟨fun h => h, fun h => h⟩ ?_ | refine .inr ⟨[], [], _, [], _, _, e1, by rfl, trivial, ⟨.refl, trivial⟩, ?_⟩ | refine .inr ⟨[], [], _, [], _, _, e2, by rfl, trivial, ⟨dle_int hu, trivial⟩, ?_⟩ | refine And.intro (fitsB (by simp <;> omega)) ?_ | refine Exists.intro false ?_ | (refine And.intro ?_ ?_; focus (simp; done)) | fail)
  all_goals (conv => whnf)
  refine ⟨Nat, fun i => ⟨[(1, .lp 0 0), (3, .own 1), (4, i64 i)], [.cells 55 (memE s), .row 5 1 ((vwB s.first ++ (leb s.hist.length ++ cutsB (s.hist.take i))).map byteI)]⟩, fun i => i ≤ s.hist.length, fun i => s.hist.length - i, [], ⟨0, Nat.zero_le _, ?_⟩, ?_⟩
  · conv => whnf
    refine ⟨⟨.refl, .refl, .refl, trivial⟩, ⟨.refl, ole_row ?_, trivial⟩, by rfl⟩
    simp [cutsB]
  · intro i hi
    repeat' ((conv => whnf); first | refine And.intro (fun h => h) ?_ | refine dcond_t (by assumption) ?_ | refine dcond_f (by assumption) ?_ | (refine dcond_intro ?_ ?_ <;> intro h) | exact .refl | refine And.intro (by kernel_rfl) ?_ | refine And.intro ⟨fun h => h, fun h => h⟩ ?_ | refine Exists.intro false ?_ | (refine And.intro ?_ ?_; focus (simp; done)) | fail)
    all_goals (conv => whnf)
    · have hlt : i < s.hist.length := by simpa using h
      clear h
      have ho := hc _ (List.getElem_mem hlt)
      have hcb := cut_bytes ho
      have hb2 := cuts_bytes (l := s.hist.take i) (fun c h => hc c (List.mem_of_mem_take h))
      have hti : (s.hist.take i).length = i := by simp; omega
      have m3 := m_ref1_IntList s.hist[i] (by have := ho.1; omega) ho.2
      have hnx : (vwB s.first ++ (leb s.hist.length ++ cutsB (s.hist.take i))).map byteI ++ (intsB s.hist[i]).map byteI = (vwB s.first ++ (leb s.hist.length ++ cutsB (s.hist.take (i + 1)))).map byteI := by
        have e : cutsB (s.hist.take (i + 1)) = cutsB (s.hist.take i) ++ intsB s.hist[i] := by
          unfold cutsB
          rw [List.take_succ_eq_append_getElem hlt, List.flatMap_append]
          simp
        rw [e, ← List.map_append]
        simp only [List.append_assoc]
      repeat' ((conv => whnf); first | refine And.intro (fun h => h) ?_ | refine dcond_t (by assumption) ?_ | refine dcond_f (by assumption) ?_ | (refine dcond_intro ?_ ?_ <;> intro h) | exact .refl | refine And.intro (by kernel_rfl) ?_ | refine And.intro ⟨fun h => h, fun h => h⟩ ?_ | refine ⟨_, _, And.intro ⟨rfl, get_map hlt⟩ ?_⟩ | refine .inr ⟨[], [], _, [], _, _, m3, by rfl, trivial, ⟨.refl, trivial⟩, ?_⟩ | refine And.intro (fitsB (by simp <;> omega)) ?_ | refine Exists.intro false ?_ | (refine And.intro ?_ ?_; focus (simp; done)) | fail)
      all_goals (conv => whnf)
      refine ⟨i + 1, hlt, by simp only []; omega, ?_⟩
      conv => whnf
      exact ⟨⟨.refl, .refl, dle_int (wrap_succ (by omega)), trivial⟩, ⟨.refl, ole_row hnx, trivial⟩, by rfl⟩
    · have hin : i = s.hist.length := by
        have := of_decide_eq_false h
        simp at this
        omega
      subst hin
      rw [List.take_length]
      repeat' ((conv => whnf); first | refine And.intro (fun h => h) ?_ | refine dcond_t (by assumption) ?_ | refine dcond_f (by assumption) ?_ | (refine dcond_intro ?_ ?_ <;> intro h) | exact .refl | refine And.intro (by kernel_rfl) ?_ | refine And.intro ⟨fun h => h, fun h => h⟩ ?_ | refine .inl ⟨_, _, DleAll_refl _, e4, ?_⟩ | refine ⟨_, _, DleAll_refl _, fun _ => e4, ?_⟩ | refine ⟨_, _, DleAll_refl _, e4, ?_⟩ | refine Exists.intro false ?_ | (refine And.intro ?_ ?_; focus (simp; done)) | fail)
end Go.Proofs.YtdcfooeoaoahjaaGreat

set_option maxRecDepth 100000
namespace Go.Proofs.YtdcfooeoaoahjaaGreat
open Go.Lift
def wq : Nat → Win
  | 0 => ⟨0, 0⟩
  | t + 1 => recR (wq t) (decide (0 < t))
theorem wq_succ (t : Nat) : wq (t + 1) = recR (wq t) (decide (0 < t)) := rfl
theorem wq_all0 : ∀ t : Fin 64, winB (wq t.1) = true ∧ 0 ≤ (wq t.1).bits ∧ failR (wq t.1) = false := by decide +kernel
theorem wq_all {t : Nat} (h : t < 64) : winB (wq t) = true ∧ 0 ≤ (wq t).bits ∧ failR (wq t) = false := wq_all0 ⟨t, h⟩
def edK (S : List Int) (W : Win) (H : Int → Bool) (k : Nat) : Edge := ⟨k, S.getD k 0, H (S.getD k 0), false, W⟩
def detQ (v : View) (x : Int) (W : Win) (H : Int → Bool) : Det := ⟨x, v, (List.range (subjR v.mem x).length).map (edK (subjR v.mem x) W H)⟩
theorem newQ {v : View} {x : Int} (hv : viewB v = true) (hi : inB v.mem x = true) : newR v x = (detQ v x ⟨0, 0⟩ (fun _ => false), 0) := by
  rw [newR, hv, hi]
  rfl
theorem detQ_len (v : View) (x : Int) (W : Win) (H : Int → Bool) : (detQ v x W H).edges.length = (subjR v.mem x).length := by simp [detQ]
theorem detQ_ok {v : View} {x : Int} (hv : viewB v = true) (hi : inB v.mem x = true) {W : Win} (hW : winB W = true) (H : Int → Bool) : detB (detQ v x W H) = true := by
  unfold detB
  show (bif !decide ((newR v x).2 = 0) || !decide (((detQ v x W H).edges.length : Int) = ((newR v x).1.edges.length : Int)) then false else allB (okEd (detQ v x W H).edges (newR v x).1.edges) (detQ v x W H).edges.length) = true
  rw [newQ hv hi]
  simp only [detQ_len, decide_true, Bool.not_true, Bool.or_self, cond_false]
  refine allB_true.2 (fun k hk => ?_)
  have hg : ∀ W H, (detQ v x W H).edges.getD k edgeZ = edK (subjR v.mem x) W H k := fun W H => by
    rw [List.getD_eq_getElem?_getD, List.getElem?_eq_getElem (by rw [detQ_len]; exact hk), Option.getD_some]
    simp [detQ]
  unfold okEd
  rw [hg, hg]
  simp [edK, hW]
theorem detQ_bits (v : View) (x : Int) {W : Win} (hW : 0 ≤ W.bits) (H : Int → Bool) : ∀ e ∈ (detQ v x W H).edges, 0 ≤ e.win.bits := by
  intro e he
  simp only [detQ, List.mem_map] at he
  obtain ⟨k, _, rfl⟩ := he
  exact hW
theorem heardQ {v : View} {x : Int} (hv : viewB v = true) (hi : inB v.mem x = true) {W : Win} (hW : winB W = true) (H : Int → Bool) (y : Int) : heardR (detQ v x W H) y = detQ v x W (fun s => H s || decide (s = y)) := by
  unfold heardR
  rw [detQ_ok hv hi hW, Bool.not_true, cond_false]
  simp only [detQ, List.map_map, Det.mk.injEq, true_and]
  refine List.map_congr_left fun k _ => ?_
  generalize subjR v.mem x = S
  show heardE y (edK S W H k) = edK S W (fun s => H s || decide (s = y)) k
  unfold heardE edK
  simp only []
  cases decide (S.getD k 0 = y)
  · rw [cond_false, Bool.or_false]
  · rw [cond_true, Bool.or_true]
theorem tickQ {v : View} {x : Int} (hv : viewB v = true) (hi : inB v.mem x = true) {W : Win} (hW : winB W = true) {H : Int → Bool} (b : Bool) (hH : ∀ s ∈ subjR v.mem x, H s = b) (hf : failR (recR W b) = false) :
    tickR (detQ v x W H) = (detQ v x (recR W b) (fun _ => false), []) := by
  have hk : ∀ k ∈ List.range (subjR v.mem x).length, H ((subjR v.mem x).getD k 0) = b := by
    intro k hk
    have hk := List.mem_range.1 hk
    rw [show (subjR v.mem x).getD k 0 = (subjR v.mem x)[k] by simp [hk]]
    exact hH _ (List.getElem_mem hk)
  unfold tickR
  rw [detQ_ok hv hi hW, Bool.not_true, cond_false]
  refine Prod.ext ?_ ?_
  · simp only [detQ, List.map_map, Det.mk.injEq, true_and]
    refine List.map_congr_left fun k hkk => ?_
    show tickE (edK (subjR v.mem x) W H k) = edK (subjR v.mem x) (recR W b) (fun _ => false) k
    unfold tickE edK
    simp only []
    rw [hk k hkk, hf]
    rfl
  · show alsAt (detQ v x W H) (detQ v x W H).edges.length = []
    unfold alsAt
    rw [List.take_length]
    have : (detQ v x W H).edges.filter hitE = [] := by
      rw [List.filter_eq_nil_iff]
      intro e he
      simp only [detQ, List.mem_map] at he
      obtain ⟨k, hkk, rfl⟩ := he
      have := hk k hkk
      unfold hitE edK
      simp only []
      rw [this, hf]
      decide
    rw [this]
    rfl
theorem subj_memQ {ms : List Int} {id : Int} : ∀ x ∈ subjR ms id, x ∈ ms ∧ x ≠ id ∧ id ∈ obsR ms x := by
  intro x hx
  cases hc : (!idsB ms 16 || !inB ms id || decide ((ms.length : Int) = 1))
  · obtain ⟨hv, hin, hlen, hS⟩ := sub_good hc
    rw [hS] at hx
    simp only [subjAt, List.mem_map, List.mem_range] at hx
    obtain ⟨r, hr, rfl⟩ := hx
    have ho := order_in (ms := ms) (r := (r : Nat)) hv (by omega) (by omega)
    have hl : (orderR ms (r : Nat)).length = ms.length := by rw [ho, sortL_len]
    have hm : ((placeB (orderR ms (r : Nat)) id).toNat + 1) % (orderR ms (r : Nat)).length < (orderR ms (r : Nat)).length := Nat.mod_lt _ (by omega)
    have hin2 : nxtR (orderR ms (r : Nat)) id ∈ ms := by
      unfold nxtR
      rw [List.getD_eq_getElem?_getD, List.getElem?_eq_getElem hm, Option.getD_some]
      have := List.getElem_mem hm
      generalize (orderR ms (r : Nat))[((placeB (orderR ms (r : Nat)) id).toNat + 1) % (orderR ms (r : Nat)).length]'hm = y at this
      rw [ho, sortL_mem] at this
      exact this
    have hne : nxtR (orderR ms (r : Nat)) id ≠ id := by
      intro h
      have hnd : (orderR ms (r : Nat)).Nodup := by
        rw [ho]
        exact (sortL_perm _ _).nodup_iff.2 (pw_nodup (ids_pw.1 hv).2.1)
      have hmm : id ∈ orderR ms (r : Nat) := by rw [ho, sortL_mem]; exact in_iff.1 hin
      unfold nxtR at h
      generalize orderR ms (r : Nat) = O at *
      obtain ⟨j, hj, hp, hv2⟩ := place_val hmm
      rw [hp, Int.toNat_natCast] at h
      have hmod : (j + 1) % O.length < O.length := Nat.mod_lt _ (by omega)
      rw [List.getD_eq_getElem?_getD, List.getElem?_eq_getElem hmod, Option.getD_some] at h
      have h := h.trans hv2.symm
      have := (List.getElem_inj hnd).1 h
      by_cases hjl : j + 1 = O.length
      · rw [hjl, Nat.mod_self] at this
        omega
      · rw [Nat.mod_eq_of_lt (by omega)] at this
        omega
    refine ⟨hin2, hne, ?_⟩
    have hpr := (prv_nxt hv hr (in_iff.1 hin) hin2 (Ne.symm hne)).2 rfl
    have hb := (ids_pw.1 hv).2.2 _ hin2
    have hO : obsR ms (nxtR (orderR ms (r : Nat)) id) = (List.range 5).map (prvR ms (nxtR (orderR ms (r : Nat)) id)) := by
      generalize nxtR (orderR ms (r : Nat)) id = s at *
      unfold obsR
      rw [hv, decide_eq_true hb.1, decide_eq_true hb.2, decide_eq_false (show ¬ ((ms.length : Int) = 1) by omega)]
      rfl
    rw [hO, List.mem_map]
    exact ⟨r, List.mem_range.2 hr, hpr⟩
  · rw [sub_bad hc] at hx
    simp at hx
theorem prv_inQ {ms : List Int} {x : Int} {r : Nat} (hv : idsB ms 16 = true) (hr : r < 5) (hx : x ∈ ms) (h2 : 2 ≤ ms.length) : prvR ms x r ∈ ms ∧ prvR ms x r ≠ x := by
  have hO := order_lt (r := (r : Nat)) hv (by omega) (by omega)
  have ho := order_in (ms := ms) (r := (r : Nat)) hv (by omega) (by omega)
  have hnd : (orderR ms r).Nodup := by
    rw [ho]
    exact (sortL_perm _ _).nodup_iff.2 (pw_nodup (ids_pw.1 hv).2.1)
  have hmb : x ∈ orderR ms r := by rw [ho, sortL_mem]; exact hx
  have hl : (orderR ms (r : Nat)).length = ms.length := by rw [ho, sortL_len]
  have hall : ∀ y, y ∈ orderR ms r → y ∈ ms := fun y hy => by rw [ho, sortL_mem] at hy; exact hy
  unfold prvR
  generalize orderR ms r = O at hO hnd hmb hl hall
  obtain ⟨j, hj, rfl⟩ := List.getElem_of_mem hmb
  rw [ahd_at hO hj _ (Nat.le_refl _)]
  have hP : (if O.length = 0 ∨ j = 0 then O.length - 1 else min O.length j - 1) < O.length := by split <;> omega
  rw [List.getD_eq_getElem?_getD, List.getElem?_eq_getElem hP, Option.getD_some]
  refine ⟨hall _ (List.getElem_mem hP), fun h => ?_⟩
  have := (List.getElem_inj hnd).1 h
  split at this <;> omega
theorem obs_memQ {ms : List Int} {x : Int} (hv : idsB ms 16 = true) (hx : x ∈ ms) : ∀ y ∈ obsR ms x, y ∈ ms ∧ y ≠ x := by
  intro y hy
  unfold obsR at hy
  cases hc : (!idsB ms 16 || !(decide (1 ≤ x) && decide (x ≤ 1000)) || (decide ((ms.length : Int) = 1) && decide (ms.getD 0 0 = x)))
  · rw [hc, cond_false, List.mem_map] at hy
    obtain ⟨r, hr, rfl⟩ := hy
    have hr := List.mem_range.1 hr
    have h2 : 2 ≤ ms.length := by
      obtain ⟨j, hj, rfl⟩ := List.getElem_of_mem hx
      by_cases h : 2 ≤ ms.length
      · exact h
      · exfalso
        have hj0 : j = 0 := by omega
        subst hj0
        have h1 : ms.length = 1 := by omega
        have hg : ms.getD 0 0 = ms[0] := by simp [hj]
        rw [hg, h1] at hc
        simp at hc
    exact prv_inQ hv hr hx h2
  · rw [hc, cond_true] at hy
    simp at hy
def toQ (v : View) (x : Int) : List Int := setI (obsR v.mem x)
def flN (v : View) (n : Nat) : List (Int × Int) := (v.mem.take n).flatMap fun x => (toQ v x).map fun m => (x, m)
theorem flN_succ (v : View) (n : Nat) (h : n < v.mem.length) : flN v (n + 1) = flN v n ++ (toQ v v.mem[n]).map fun m => (v.mem[n], m) := by
  unfold flN
  rw [List.take_succ_eq_append_getElem h, List.flatMap_append]
  simp
def flQ (v : View) : List (Int × Int) := flN v v.mem.length
theorem flQ_mem {v : View} (hv : viewB v = true) {f : Int × Int} (h : f ∈ flQ v) : f.1 ∈ v.mem ∧ f.2 ∈ v.mem ∧ f.1 ≠ f.2 := by
  have h3 : idsB v.mem 16 = true := (view_num hv).2.2
  unfold flQ flN at h
  rw [List.take_length, List.mem_flatMap] at h
  obtain ⟨x, hx, h⟩ := h
  rw [List.mem_map] at h
  obtain ⟨m, hm, rfl⟩ := h
  have := obs_memQ h3 hx m (setI_mem.1 hm)
  exact ⟨hx, this.1, fun e => this.2 e.symm⟩
def Hk (v : View) (k : Nat) (x : Int) (s : Int) : Bool := ((flQ v).take k).any fun f => decide (f.1 = s) && decide (f.2 = x)
theorem Hk_all {v : View} {x : Int} : ∀ s ∈ subjR v.mem x, Hk v (flQ v).length x s = true := by
  intro s hs
  obtain ⟨h1, h2, h3⟩ := subj_memQ s hs
  unfold Hk
  rw [List.take_length, List.any_eq_true]
  refine ⟨(s, x), ?_, by simp⟩
  unfold flQ flN
  rw [List.take_length, List.mem_flatMap]
  exact ⟨s, h1, List.mem_map.2 ⟨x, setI_mem.2 h3, rfl⟩⟩
theorem wq_tick {v : View} {x : Int} (hv : viewB v = true) (hi : inB v.mem x = true) {t : Nat} (ht : t < 60) (H : Int → Bool) (hH : ∀ s ∈ subjR v.mem x, H s = decide (0 < t)) :
    tickR (detQ v x (wq t) H) = (detQ v x (wq (t + 1)) (fun _ => false), []) := by
  have h1 := wq_all (t := t) (by omega)
  have h2 := wq_all (t := t + 1) (by omega)
  rw [wq_succ] at h2 ⊢
  exact tickQ hv hi h1.1 (decide (0 < t)) hH h2.2.2
end Go.Proofs.YtdcfooeoaoahjaaGreat

set_option maxRecDepth 100000
namespace Go.Proofs.YtdcfooeoaoahjaaGreat
open Go.Lift
theorem newA_eq {v : View} {x : Int} (hv : viewB v = true) (hi : inB v.mem x = true) : (newA v x).1 = ⟨x, v, ⟨0, -1, []⟩, [], [], 0, 0, [], [], [], [], 0⟩ := by
  unfold newA
  rw [hv, hi]
  rfl
theorem newA_ok {v : View} {x : Int} (hv : viewB v = true) (hi : inB v.mem x = true) : agrB (newA v x).1 = true := by
  rw [newA_eq hv hi]
  have hg : goodB v [] = true := rfl
  have hb : boxB v [] = true := by
    unfold boxB
    rw [hv]
    rfl
  have hp : prB v [] = true := by
    unfold prB repsB
    rw [hv]
    rfl
  have hph : phaseB ⟨x, v, ⟨0, -1, []⟩, [], [], 0, 0, [], [], [], [], 0⟩ = true := by
    unfold phaseB
    rfl
  have ha : accB ⟨0, -1, []⟩ = true := by kernel_rfl
  unfold agrB
  simp only [hv, hi, hg, hb, hp, hph, ha]
  rfl
theorem newA_calm {v : View} {x : Int} (hv : viewB v = true) (hi : inB v.mem x = true) : CalmA (newA v x).1 := by
  have hok := newA_ok hv hi
  rw [newA_eq hv hi] at *
  have hb : boxB v [] = true := by
    unfold boxB
    rw [hv]
    rfl
  have hw : winR v [] = ([], false) := by
    unfold winR
    rw [hb]
    rfl
  refine ⟨hok, rfl, rfl, rfl, rfl, rfl, ?_⟩
  unfold decR
  simp only [hw]
  rfl
theorem sameV_refl (v : View) : sameV v v = true := by
  unfold sameV
  rw [decide_eq_true rfl, Bool.true_and]
  unfold sameI
  rw [decide_eq_true rfl, Bool.true_and]
  exact allB_true.2 (fun i _ => decide_eq_true rfl)
theorem valS_nil {v : View} (hv : viewB v = true) : valS v [] = true := by
  unfold valS
  first
  | rw [hv]
    rfl
  | rfl
theorem in_id {v : View} {x : Int} (hv : viewB v = true) (hi : inB v.mem x = true) : idB x = true := by
  have := ids_rng (view_num hv).2.2 x (in_iff.1 hi)
  unfold idB
  rw [decide_eq_true this.1, decide_eq_true this.2]
  rfl
structure Quiet (s : Mem) : Prop where
  st : s.status = 1
  ch : (chainR s.first s.hist).2 = true
  last : chV s.first s.hist s.hist.length = s.view
  cont : s.cont = []
  inn : inB s.view.mem s.self = true
  det : detB s.det = true
  dself : s.det.self = s.self
  dview : s.det.view = s.view
  agr : s.agr = (newA s.view s.self).1
  als : s.als = []
  dbts : s.dbts = []
  view : viewB s.view = true
theorem quiet_valid {s : Mem} (h : Quiet s) : validM s = true := by
  have hid := in_id h.view h.inn
  have hsv : sameV (chV s.first s.hist s.hist.length) s.view = true := by rw [h.last]; exact sameV_refl _
  have h0 : decide (s.status = 0) = false := by rw [h.st]; rfl
  have h1 : decide (s.status = 1) = true := by rw [h.st]; rfl
  have hc : decide (0 < (s.cont.length : Int)) = false := by rw [h.cont]; rfl
  have hdb : dbtsB s = true := by
    unfold dbtsB
    rw [h.dbts]
    rfl
  have ha : activeB s = true := by
    unfold activeB
    rw [h.inn, h.det, h.dself, h.dview, h.agr, newA_ok h.view h.inn, newA_eq h.view h.inn, h.als, valS_nil h.view, hdb]
    simp only [sameV_refl]
    simp
  unfold validM
  rw [hid, h0, h.ch, hc, hsv, h1, ha]
  rfl
theorem quiet_calm {s : Mem} (h : Quiet s) (hs : SmM s) : Calm s := by
  refine ⟨hs, h.als, h.dbts, ?_, ?_, ?_, h.view⟩
  · rw [h.agr, newA_eq h.view h.inn]
  · rw [h.agr, newA_eq h.view h.inn]
  · rw [h.agr]
    exact newA_calm h.view h.inn
theorem quiet_enter {s : Mem} {v : View} (hv : viewB v = true) (hi : inB v.mem s.self = true) (hc : s.cont = []) (hch : (chainR s.first s.hist).2 = true) (hl : chV s.first s.hist s.hist.length = v) : Quiet (enterM s v) := by
  rw [enter_in hi]
  rw [newQ hv hi]
  exact ⟨rfl, hch, hl, hc, hi, detQ_ok hv hi (by kernel_rfl) _, rfl, rfl, rfl, rfl, rfl, hv⟩
end Go.Proofs.YtdcfooeoaoahjaaGreat

set_option maxRecDepth 100000
namespace Go.Proofs.YtdcfooeoaoahjaaGreat
open Go.Lift
set_option maxHeartbeats 8000000 in
theorem m_mem_enterN (s : Mem) (v : View) (hv : v.mem.length ≤ 1000) : RetM Tryz.prog 45 [.cells 55 (memF s .nl)] [.lp 0 0, .agg (viewE v)] [true] [.cells 55 (memF (enterM s v) .nl)] (.tup []) := by
  have e1 := c_mem_cloneView v (by omega)
  have e2 := c_view_Contains v.mem (Nat.le_trans hv (by decide)) s.self
  have e3 := c_probe_New v (Nat.le_trans hv (by decide)) s.self
  have e4 := c_agreement_New v (by omega) s.self
  by_cases hin : inB v.mem s.self = true
  · rw [enter_in hin]
    generalize newR v s.self = N at *
    generalize newA v s.self = Q at *
    refine retM_of_body (fn := Tryz.f45) (c := Tryz.f45.body.getD .skip) hm hT (by kernel_rfl) Tryz.func45 (by kernel_rfl) (by kernel_rfl) (by kernel_rfl) (by kernel_rfl) (by kernel_rfl) ?_
    repeat' ((conv => whnf); first | refine And.intro (fun h => h) ?_ | refine dcond_t (by assumption) ?_ | refine dcond_f (by assumption) ?_ | (refine dcond_intro ?_ ?_ <;> intro h) | exact .refl | refine And.intro (by kernel_rfl) ?_ | refine And.intro ⟨fun h => h, fun h => h⟩ ?_ | refine .inl ⟨_, _, DleAll_refl _, e1, ?_⟩ | refine ⟨_, _, DleAll_refl _, fun _ => e1, ?_⟩ | refine ⟨_, _, DleAll_refl _, e1, ?_⟩ | refine .inl ⟨_, _, DleAll_refl _, e2, ?_⟩ | refine ⟨_, _, DleAll_refl _, fun _ => e2, ?_⟩ | refine ⟨_, _, DleAll_refl _, e2, ?_⟩ | refine .inl ⟨_, _, DleAll_refl _, e3, ?_⟩ | refine ⟨_, _, DleAll_refl _, fun _ => e3, ?_⟩ | refine ⟨_, _, DleAll_refl _, e3, ?_⟩ | refine .inl ⟨_, _, DleAll_refl _, e4, ?_⟩ | refine ⟨_, _, DleAll_refl _, fun _ => e4, ?_⟩ | refine ⟨_, _, DleAll_refl _, e4, ?_⟩ | refine Exists.intro false ?_ | (refine And.intro ?_ ?_; focus (simp; done)) | fail)
    all_goals (conv => whnf)
    exact ⟨.refl, ⟨ole_cellsA ⟨.refl, .refl, .refl, .refl, .refl, .refl, .refl, .refl, .refl, .refl, .refl, .refl, .nl, .nl, .refl, .refl, .refl, .refl, .refl, .refl, .refl, .refl, .refl, .refl, .refl, .refl, .refl, .refl, .refl, trivial⟩, .refl, trivial⟩, by rfl⟩
  · have hin : inB v.mem s.self = false := by simpa using hin
    rw [enter_out hin]
    refine retM_of_body (fn := Tryz.f45) (c := Tryz.f45.body.getD .skip) hm hT (by kernel_rfl) Tryz.func45 (by kernel_rfl) (by kernel_rfl) (by kernel_rfl) (by kernel_rfl) (by kernel_rfl) ?_
    repeat' ((conv => whnf); first | refine And.intro (fun h => h) ?_ | refine dcond_t (by assumption) ?_ | refine dcond_f (by assumption) ?_ | (refine dcond_intro ?_ ?_ <;> intro h) | exact .refl | refine And.intro (by kernel_rfl) ?_ | refine And.intro ⟨fun h => h, fun h => h⟩ ?_ | refine .inl ⟨_, _, DleAll_refl _, e1, ?_⟩ | refine ⟨_, _, DleAll_refl _, fun _ => e1, ?_⟩ | refine ⟨_, _, DleAll_refl _, e1, ?_⟩ | refine .inl ⟨_, _, DleAll_refl _, e2, ?_⟩ | refine ⟨_, _, DleAll_refl _, fun _ => e2, ?_⟩ | refine ⟨_, _, DleAll_refl _, e2, ?_⟩ | refine .inl ⟨_, _, DleAll_refl _, e3, ?_⟩ | refine ⟨_, _, DleAll_refl _, fun _ => e3, ?_⟩ | refine ⟨_, _, DleAll_refl _, e3, ?_⟩ | refine .inl ⟨_, _, DleAll_refl _, e4, ?_⟩ | refine ⟨_, _, DleAll_refl _, fun _ => e4, ?_⟩ | refine ⟨_, _, DleAll_refl _, e4, ?_⟩ | refine Exists.intro false ?_ | (refine And.intro ?_ ?_; focus (simp; done)) | fail)
    all_goals (conv => whnf)
    exact ⟨.refl, ⟨ole_cellsA ⟨.refl, .refl, .refl, .refl, .refl, .refl, .refl, .refl, .refl, .refl, .nl, .nl, .nl, .nl, .refl, .refl, .nl, .refl, .refl, .nl, .nl, .nl, .refl, .refl, .nl, .nl, .nl, .nl, .refl, trivial⟩, .refl, trivial⟩, by rfl⟩
set_option maxHeartbeats 8000000 in
theorem c_mem_GenesisN (v : View) (hv : v.mem.length ≤ 1000) (self : Int) (hc : (!viewB v || !inB v.mem self) = false) : Ret Tryz.prog 20 [.agg (viewE v), i64 self] (.tup [.agg (memF (enterM { mem0 with self := self, first := v } v) .nl), i64 0]) := by
  have e1 := c_view_Valid v (Nat.le_trans hv (by decide))
  have e2 := c_view_Contains v.mem (Nat.le_trans hv (by decide)) self
  have e3 := c_mem_cloneView v (by omega)
  have m1 := m_mem_enterN { mem0 with self := self, first := v } v hv
  generalize enterM { mem0 with self := self, first := v } v = E at *
  refine ret_of_body (fn := Tryz.f20) (c := Tryz.f20.body.getD .skip) hm hT (by kernel_rfl) Tryz.func20 (by kernel_rfl) (by kernel_rfl) (by kernel_rfl) (by kernel_rfl) ?_
  repeat' ((conv => whnf); first | refine And.intro (fun h => h) ?_ | refine dcond_t (by assumption) ?_ | refine dcond_f (by assumption) ?_ | (refine dcond_intro ?_ ?_ <;> intro h) | exact .refl | refine And.intro (by kernel_rfl) ?_ | refine And.intro ⟨fun h => h, fun h => h⟩ ?_ | refine .inl ⟨_, _, DleAll_refl _, e1, ?_⟩ | refine ⟨_, _, DleAll_refl _, fun _ => e1, ?_⟩ | refine ⟨_, _, DleAll_refl _, e1, ?_⟩ | refine .inl ⟨_, _, DleAll_refl _, e2, ?_⟩ | refine ⟨_, _, DleAll_refl _, fun _ => e2, ?_⟩ | refine ⟨_, _, DleAll_refl _, e2, ?_⟩ | refine .inl ⟨_, _, DleAll_refl _, e3, ?_⟩ | refine ⟨_, _, DleAll_refl _, fun _ => e3, ?_⟩ | refine ⟨_, _, DleAll_refl _, e3, ?_⟩ | refine .inr ⟨[1], _, _, _, _, _, m1, by rfl, ⟨ole_cellsA ⟨.refl, .refl, .nl, .refl, .refl, .refl, .refl, .nl, .refl, .refl, .nl, .nl, .nl, .nl, .refl, .refl, .nl, .refl, .refl, .nl, .nl, .nl, .refl, .refl, .nl, .nl, .nl, .nl, .refl, trivial⟩, trivial⟩, ⟨.refl, .refl, trivial⟩, ?_⟩ | refine .inr ⟨[2], _, _, _, _, _, m1, by rfl, ⟨ole_cellsA ⟨.refl, .refl, .nl, .refl, .refl, .refl, .refl, .nl, .refl, .refl, .nl, .nl, .nl, .nl, .refl, .refl, .nl, .refl, .refl, .nl, .nl, .nl, .refl, .refl, .nl, .nl, .nl, .nl, .refl, trivial⟩, trivial⟩, ⟨.refl, .refl, trivial⟩, ?_⟩ | refine .inr ⟨[3], _, _, _, _, _, m1, by rfl, ⟨ole_cellsA ⟨.refl, .refl, .nl, .refl, .refl, .refl, .refl, .nl, .refl, .refl, .nl, .nl, .nl, .nl, .refl, .refl, .nl, .refl, .refl, .nl, .nl, .nl, .refl, .refl, .nl, .nl, .nl, .nl, .refl, trivial⟩, trivial⟩, ⟨.refl, .refl, trivial⟩, ?_⟩ | refine Exists.intro false ?_ | (refine And.intro ?_ ?_; focus (simp; done)) | fail)
def vAw : View := ⟨0, [1, 2, 3]⟩
def wAw : View := ⟨1, [1, 2, 9]⟩
def cAw : List (List Int) := [[3, 9]]
def s0Aw : Mem := enterM { mem0 with self := 1, first := vAw } vAw
def j0Aw : Mem := { mem0 with self := 9, cont := [1] }
def s1Aw : Mem := extS s0Aw vAw cAw 1
def j1Aw : Mem := enterM { j0Aw with first := vAw, hist := cAw, cont := [] } wAw
def gAw : Mem := { mem0 with self := 2, first := vAw, hist := cAw }
theorem aw_ok : (chainR vAw cAw).2 = true := by kernel_rfl
theorem aw_V : chV vAw cAw 1 = wAw := by kernel_rfl
theorem aw_cut : ∀ c ∈ cAw, OkCut c := by
  intro c hc
  have : c = [3, 9] := by simpa [cAw] using hc
  subst this
  exact ⟨by simp, fun v hv => by
    have : v = 3 ∨ v = 9 := by simpa using hv
    rcases this with rfl | rfl <;> omega⟩
theorem aw_s0 : Quiet s0Aw := quiet_enter (by kernel_rfl) (by kernel_rfl) rfl (by kernel_rfl) rfl
theorem aw_s0m : SmM s0Aw := enter_sm (by simp [vAw]) (by simp [mem0]) (by simp [vAw]) (by simp [mem0]) (by simp [mem0])
theorem aw_s1e : s1Aw = enterM { s0Aw with hist := cAw } wAw := by
  show enterM { ({ s0Aw with hist := [] } : Mem) with hist := cAw.take 1 } (chV vAw cAw 1) = _
  rw [aw_V]
  rfl
theorem aw_s1 : Quiet s1Aw := by
  rw [aw_s1e]
  exact quiet_enter (by kernel_rfl) (by kernel_rfl) (by kernel_rfl) (by kernel_rfl) (by kernel_rfl)
theorem aw_s1m : SmM s1Aw := by
  rw [aw_s1e]
  refine enter_sm (by simp [wAw]) ?_ ?_ (by simp [cAw]) (by simp [cAw])
  · show s0Aw.cont.length ≤ 1000
    rw [show s0Aw.cont = [] from by kernel_rfl]
    simp
  · show s0Aw.first.mem.length ≤ 1000
    rw [show s0Aw.first = vAw from by kernel_rfl]
    simp [vAw]
theorem aw_j1 : Quiet j1Aw := quiet_enter (by kernel_rfl) (by kernel_rfl) rfl (by kernel_rfl) (by kernel_rfl)
theorem aw_j1m : SmM j1Aw := enter_sm (by simp [wAw]) (by simp) (by simp [vAw]) (by simp [cAw]) (by simp [cAw])
theorem aw_j0 : validM j0Aw = true := by kernel_rfl
theorem aw_j0m : SmM j0Aw := ⟨by simp [j0Aw], by simp [j0Aw, mem0, view0], by simp [j0Aw, mem0], by simp [j0Aw, mem0], by simp [j0Aw, mem0, view0], by simp [j0Aw, mem0, det0], by simp [j0Aw, mem0, det0], by simp [j0Aw, mem0, det0], by simp [j0Aw, mem0], by simp [j0Aw, mem0], ⟨by simp [j0Aw, mem0, agr0], by simp [j0Aw, mem0, agr0], by simp [j0Aw, mem0, agr0], by simp [j0Aw, mem0, agr0], by simp [j0Aw, mem0, agr0], by simp [j0Aw, mem0, agr0], by simp [j0Aw, mem0, agr0], by simp [j0Aw, mem0, agr0], by simp [j0Aw, mem0, agr0], by simp [j0Aw, mem0, agr0], by simp [j0Aw, mem0, agr0]⟩⟩
theorem aw_tick : ∃ D, tickR j1Aw.det = (D, []) := by
  have e : j1Aw.det = detQ wAw 9 ⟨0, 0⟩ (fun _ => false) := by
    unfold j1Aw
    rw [enter_in (by kernel_rfl)]
    simp only []
    rw [newQ (by kernel_rfl) (by kernel_rfl)]
    rfl
  rw [e]
  exact ⟨_, tickQ (by kernel_rfl) (by kernel_rfl) (by kernel_rfl) false (fun _ _ => rfl) (by kernel_rfl)⟩
theorem aw_obs : 0 < (setI (obsR wAw.mem 9)).length := by
  have h : (obsR wAw.mem 9).length = 5 := by
    unfold obsR
    have h1 : idsB wAw.mem 16 = true := by kernel_rfl
    rw [h1]
    simp [wAw]
  have hm : (obsR wAw.mem 9)[0] ∈ setI (obsR wAw.mem 9) := setI_mem.2 (List.getElem_mem (by omega))
  exact List.length_pos_of_mem hm
theorem aw_views : (viewsM s1Aw).length = 2 := by
  unfold viewsM
  rw [quiet_valid aw_s1, aw_s1.st]
  have h := chain_ok (first := s1Aw.first) (cuts := s1Aw.hist) aw_s1.ch
  simp only [Bool.not_true, Bool.false_or]
  rw [decide_eq_false (by omega), cond_false, h.2.2.2]
  simp only [chAll_len]
  have : s1Aw.hist = cAw := ext_hist s0Aw vAw cAw 1
  rw [this]
  rfl
set_option maxHeartbeats 8000000 in
theorem c_law11_awake : Ret Tryz.prog 7 [] (.v (.bool true)) := by
  have e1 := c_mem_GenesisN vAw (by simp [vAw]) 1 (by kernel_rfl)
  have e2 := c_mem_Joiner 9 [1] (by simp)
  rw [show joinM 9 [1] = (j0Aw, 0) from by kernel_rfl] at e2
  have e3 := c_ref11_HistoryFrame gAw (by kernel_rfl) (by simp [gAw, cAw]) aw_cut
  have e4 := c_mem_ReceiveA s0Aw aw_s0m (by kernel_rfl) (quiet_valid aw_s0) 2 (by kernel_rfl) (by rw [show s0Aw.self = 1 from by kernel_rfl]; decide) vAw cAw aw_ok aw_cut aw_s0.st (by kernel_rfl) (by simp [cAw]) (fun i hi => by
    have : i = 0 := by simp [cAw] at hi; exact hi
    subst this
    exact aw_s0.st)
  have e5 := c_mem_ReceiveJ j0Aw aw_j0m aw_j0 2 (by kernel_rfl) (by decide) vAw cAw aw_ok aw_cut rfl (by kernel_rfl)
  obtain ⟨D, hD⟩ := aw_tick
  have e6 := c_mem_TickQ j1Aw (quiet_calm aw_j1 aw_j1m) aw_j1.st (quiet_valid aw_j1) D hD
  have e7 := c_mem_Views s1Aw aw_s1m
  have ho := aw_obs
  have hv := aw_views
  change Ret _ _ _ (.tup [.agg (memE s1Aw), _, _]) at e4
  have hjj : enterM { j0Aw with first := vAw, hist := cAw, cont := [] } (chV vAw cAw cAw.length) = j1Aw := by
    show enterM _ (chV vAw cAw 1) = _
    rw [aw_V]
    rfl
  rw [hjj] at e5
  have hs1v : s1Aw.view = wAw := by rw [aw_s1e]; exact (enter_dec _ _).2.2.2.1
  have hj1v : j1Aw.view = wAw := (enter_dec _ _).2.2.2.1
  have hj1s : j1Aw.self = 9 := by kernel_rfl
  have hj1 := aw_j1.st
  rw [hj1v, hj1s] at e6
  change Ret _ _ _ (.tup [.agg (memF s0Aw .nl), _]) at e1
  change Ret _ _ _ (.lst 1 ((hiW vAw cAw).map byteI) false) at e3
  generalize s0Aw = S0 at *
  generalize s1Aw = S1 at *
  generalize j1Aw = J1 at *
  generalize setI (obsR wAw.mem 9) = O at *
  generalize viewsM S1 = VS at *
  generalize hiW vAw cAw = W at *
  refine ret_of_body (fn := Tryz.f7) (c := Tryz.f7.body.getD .skip) hm hT (by kernel_rfl) Tryz.func7 (by kernel_rfl) (by kernel_rfl) (by kernel_rfl) (by kernel_rfl) ?_
  repeat' ((conv => whnf); first | refine And.intro (fun h => h) ?_ | refine dcond_t (by assumption) ?_ | refine dcond_f (by assumption) ?_ | (refine dcond_intro ?_ ?_ <;> intro h) | exact .refl | refine And.intro (by kernel_rfl) ?_ | refine And.intro ⟨fun h => h, fun h => h⟩ ?_ | refine .inl ?_ <;> (conv => whnf) <;> refine ⟨[.agg (viewE vAw), i64 1], _, ⟨.refl, .refl, trivial⟩, e1, ?_⟩ | refine .inl ⟨_, _, DleAll_refl _, e1, ?_⟩ | refine ⟨_, _, DleAll_refl _, fun _ => e1, ?_⟩ | refine ⟨_, _, DleAll_refl _, e1, ?_⟩ | refine .inl ⟨_, _, DleAll_refl _, e2, ?_⟩ | refine ⟨_, _, DleAll_refl _, fun _ => e2, ?_⟩ | refine ⟨_, _, DleAll_refl _, e2, ?_⟩ | refine .inl ?_ <;> (conv => whnf) <;> refine ⟨[.agg (memE gAw)], _, ⟨dle_aggA ⟨.refl, .refl, .nl, .refl, .refl, .refl, .refl, .nl, .refl, .refl, .nl, .nl, .nl, .nl, .refl, .refl, .nl, .refl, .refl, .nl, .nl, .nl, .refl, .refl, .nl, .nl, .nl, .nl, .refl, trivial⟩, trivial⟩, e3, ?_⟩ | refine .inl ⟨_, _, DleAll_refl _, e4, ?_⟩ | refine ⟨_, _, DleAll_refl _, fun _ => e4, ?_⟩ | refine ⟨_, _, DleAll_refl _, e4, ?_⟩ | refine .inl ⟨_, _, DleAll_refl _, e5, ?_⟩ | refine ⟨_, _, DleAll_refl _, fun _ => e5, ?_⟩ | refine ⟨_, _, DleAll_refl _, e5, ?_⟩ | refine .inl ⟨_, _, DleAll_refl _, e6, ?_⟩ | refine ⟨_, _, DleAll_refl _, fun _ => e6, ?_⟩ | refine ⟨_, _, DleAll_refl _, e6, ?_⟩ | refine .inl ⟨_, _, DleAll_refl _, e7, ?_⟩ | refine ⟨_, _, DleAll_refl _, fun _ => e7, ?_⟩ | refine ⟨_, _, DleAll_refl _, e7, ?_⟩ | refine Exists.intro false ?_ | (refine And.intro ?_ ?_; focus (simp; done)) | fail)
  all_goals (conv => whnf)
  refine dle_bool ?_
  have ho2 : decide (0 < ((O.length : Nat) : Int)) = true := decide_eq_true (by omega)
  simp only [List.length_map, hs1v, hj1, hv, ho2]
  simp [wAw]
end Go.Proofs.YtdcfooeoaoahjaaGreat

set_option maxRecDepth 100000
namespace Go.Proofs.YtdcfooeoaoahjaaGreat
open Go.Lift
structure Flt where
  src : Int
  dst : Int
  frame : List Nat
def fltE (f : Flt) : List DV := [i64 f.src, i64 f.dst, .lst 1 (f.frame.map byteI) false]
def dnE (b : Bool) : List DV := [.v (.bool b)]
def wldE (a b c : Nat) : List DV := [.own a, .own b, .own c]
theorem fitsM {n : Nat} (h : n ≤ 2000000) : fitsIn tt 55 n := by
  have e : (tinfo tt 55).bytes = 488 := by kernel_rfl
  refine ⟨?_, ?_⟩
  · rw [e]; omega
  · simp only [maxLen]; omega
theorem fitsF {n : Nat} (h : n ≤ 2000000) : fitsIn tt 82 n := by
  have e : (tinfo tt 82).bytes = 40 := by kernel_rfl
  refine ⟨?_, ?_⟩
  · rw [e]; omega
  · simp only [maxLen]; omega
theorem fitsBo {n : Nat} (h : n ≤ 2000000) : fitsIn tt 4 n := by
  have e : (tinfo tt 4).bytes = 1 := by kernel_rfl
  refine ⟨?_, ?_⟩
  · rw [e]; omega
  · simp only [maxLen]; omega
theorem c_law11_cut0 (f t : Int) (hf : 0 ≤ f) (ht : 0 ≤ t) : Ret Tryz.prog 29 [u64 0, i64 f, i64 t] (.v (.bool false)) := by
  refine ret_of_body (fn := Tryz.f29) (c := Tryz.f29.body.getD .skip) hm hT (by kernel_rfl) Tryz.func29 (by kernel_rfl) (by kernel_rfl) (by kernel_rfl) (by kernel_rfl) ?_
  repeat' ((conv => whnf); first | refine And.intro (fun h => h) ?_ | refine dcond_t (by assumption) ?_ | refine dcond_f (by assumption) ?_ | (refine dcond_intro ?_ ?_ <;> intro h) | exact .refl | refine And.intro (by kernel_rfl) ?_ | refine And.intro ⟨fun h => h, fun h => h⟩ ?_ | refine And.intro ⟨⟨fun h => h, fun h => h⟩, fun _ => (u64_rng _).1⟩ ?_ | refine Exists.intro false ?_ | (refine And.intro ?_ ?_; focus (simp; done)) | fail)
  all_goals (conv => whnf)
  all_goals refine dle_bool ?_
  all_goals simp
theorem m_w_Index (Ms : List Mem) (hl : Ms.length ≤ 1000) (dn : List Bool) (fl : List Flt) (x : Int) (k : Nat) (hk : k < Ms.length) (hx : Ms[k].self = x) (hne : ∀ j (hj : j < k), Ms[j].self ≠ x) :
    RetM Tryz.prog 28 [.cells 32 (wldE 1 2 3), .row 55 29 (Ms.map memE), .row 4 1 (dn.map dnE), .row 82 3 (fl.map fltE)] [.lp 0 0, i64 x] [true, true, true, true] [.cells 32 (wldE 1 2 3), .row 55 29 (Ms.map memE), .row 4 1 (dn.map dnE), .row 82 3 (fl.map fltE)] (i64 k) := by
  refine retM_of_body (fn := Tryz.f28) (c := Tryz.f28.body.getD .skip) hm hT (by kernel_rfl) Tryz.func28 (by kernel_rfl) (by kernel_rfl) (by kernel_rfl) (by kernel_rfl) (by kernel_rfl) ?_
  repeat' ((conv => whnf); first | refine And.intro (fun h => h) ?_ | refine dcond_t (by assumption) ?_ | refine dcond_f (by assumption) ?_ | (refine dcond_intro ?_ ?_ <;> intro h) | exact .refl | refine And.intro (by kernel_rfl) ?_ | refine And.intro ⟨fun h => h, fun h => h⟩ ?_ | refine Exists.intro false ?_ | (refine And.intro ?_ ?_; focus (simp; done)) | fail)
  all_goals (conv => whnf)
  refine ⟨Nat, fun i => ⟨[(0, .lp 0 0), (1, i64 x), (5, i64 i)], [.cells 32 (wldE 1 2 3), .row 55 29 (Ms.map memE), .row 4 1 (dn.map dnE), .row 82 3 (fl.map fltE), .gh [.lp 0 0, .own 1, .own 2, .own 3]]⟩, fun i => i ≤ k, fun i => k - i, [], ⟨0, Nat.zero_le _, ?_⟩, ?_⟩
  · conv => whnf
    exact ⟨⟨.refl, .refl, .refl, trivial⟩, ⟨.refl, .refl, .refl, .refl, .refl, trivial⟩, by rfl⟩
  · intro i hi
    have hil : i < Ms.length := Nat.lt_of_le_of_lt hi hk
    have hl0 : i < (Ms.map memE).length := by rw [List.length_map]; exact hil
    have hget : (Ms.map memE)[i]? = some (memE Ms[i]) := get_map hil
    repeat' ((conv => whnf); first | refine And.intro (fun h => h) ?_ | refine dcond_t (by assumption) ?_ | refine dcond_f (by assumption) ?_ | (refine dcond_intro ?_ ?_ <;> intro h) | exact .refl | refine And.intro (by kernel_rfl) ?_ | refine And.intro ⟨fun h => h, fun h => h⟩ ?_ | refine ⟨i, And.intro ⟨rfl, hl0⟩ ?_⟩ | refine ⟨memE Ms[i], And.intro hget ?_⟩ | refine Exists.intro false ?_ | (refine And.intro ?_ ?_; focus (simp; done)) | fail)
    all_goals (conv => whnf)
    · have hik : i = k := by
        rcases Nat.lt_or_ge i k with h9 | h9
        · exact absurd (of_decide_eq_true h) (hne i h9)
        · exact Nat.le_antisymm hi h9
      subst hik
      exact ⟨.refl, ⟨.refl, .refl, .refl, .refl, .refl, trivial⟩, by rfl⟩
    · have hik : i < k := by
        rcases Nat.lt_or_ge i k with h9 | h9
        · exact h9
        · have : i = k := Nat.le_antisymm hi h9
          subst this
          exact absurd hx (of_decide_eq_false h)
      refine ⟨i + 1, hik, by simp only []; omega, ?_⟩
      conv => whnf
      exact ⟨⟨.refl, .refl, dle_int (wrap_succ (by omega)), trivial⟩, ⟨.refl, .refl, .refl, .refl, .refl, trivial⟩, by rfl⟩
    · exfalso
      have := of_decide_eq_false h
      rw [List.length_map] at this
      omega
theorem gh4 {a b c d : DV} : ole (.gh [a, b, c, d]) (.gh [a, b, c, .junk]) := .gh rfl fun i x y hx hy => by
  rcases i with _ | _ | _ | _ | i
  · simp at hx hy
    subst hx hy
    exact .refl
  · simp at hx hy
    subst hx hy
    exact .refl
  · simp at hx hy
    subst hx hy
    exact .refl
  · simp at hx hy
    subst hx hy
    exact .junk
  · simp at hx
def flOf (s : Int) (p : Pk) : Flt := ⟨s, p.to, p.frame⟩
theorem m_w_send (Ms : List Mem) (hl : Ms.length ≤ 1000) (dn : List Bool) (fl : List Flt) (hf : fl.length ≤ 500000) (i : Nat) (hi : i < Ms.length) (ps : List Pk) (hp : ps.length ≤ 500000) :
    RetM Tryz.prog 30 [.cells 32 (wldE 1 2 3), .row 55 29 (Ms.map memE), .row 4 1 (dn.map dnE), .row 82 3 (fl.map fltE)] [.lp 0 0, i64 i, .lst 2 (ps.map pkE) false] [true, true, true, false] [.cells 32 (wldE 1 2 3), .row 55 29 (Ms.map memE), .row 4 1 (dn.map dnE), .row 82 3 ((fl ++ ps.map (flOf Ms[i].self)).map fltE)] (.tup []) := by
  refine retM_of_body (fn := Tryz.f30) (c := Tryz.f30.body.getD .skip) hm hT (by kernel_rfl) Tryz.func30 (by kernel_rfl) (by kernel_rfl) (by kernel_rfl) (by kernel_rfl) (by kernel_rfl) ?_
  repeat' ((conv => whnf); first | refine And.intro (fun h => h) ?_ | refine dcond_t (by assumption) ?_ | refine dcond_f (by assumption) ?_ | (refine dcond_intro ?_ ?_ <;> intro h) | exact .refl | refine And.intro (by kernel_rfl) ?_ | refine And.intro ⟨fun h => h, fun h => h⟩ ?_ | refine Exists.intro false ?_ | (refine And.intro ?_ ?_; focus (simp; done)) | fail)
  all_goals (conv => whnf)
  refine ⟨Nat, fun k => ⟨[(0, .lp 0 0), (1, i64 i), (2, .lst 2 (ps.map pkE) false), (6, i64 k)], [.cells 32 (wldE 1 2 3), .row 55 29 (Ms.map memE), .row 4 1 (dn.map dnE), .row 82 3 ((fl ++ (ps.take k).map (flOf Ms[i].self)).map fltE), .gh [.lp 0 0, .own 1, .own 2, .junk]]⟩, fun k => k ≤ ps.length, fun k => ps.length - k, [], ⟨0, Nat.zero_le _, ?_⟩, ?_⟩
  · conv => whnf
    exact ⟨⟨.refl, .refl, .refl, .refl, trivial⟩, ⟨.refl, .refl, .refl, ole_row (by simp), gh4, trivial⟩, by rfl⟩
  · intro k hk
    have hl0 : i < (Ms.map memE).length := by rw [List.length_map]; exact hi
    have hget : (Ms.map memE)[i]? = some (memE Ms[i]) := get_map hi
    repeat' ((conv => whnf); first | refine And.intro (fun h => h) ?_ | refine dcond_t (by assumption) ?_ | refine dcond_f (by assumption) ?_ | (refine dcond_intro ?_ ?_ <;> intro h) | exact .refl | refine And.intro (by kernel_rfl) ?_ | refine And.intro ⟨fun h => h, fun h => h⟩ ?_ | refine Exists.intro false ?_ | (refine And.intro ?_ ?_; focus (simp; done)) | fail)
    all_goals (conv => whnf)
    · have hlt : k < ps.length := by simpa using h
      clear h
      have hgp : (ps.map pkE)[k]? = some (pkE ps[k]) := get_map hlt
      repeat' ((conv => whnf); first | refine And.intro (fun h => h) ?_ | refine dcond_t (by assumption) ?_ | refine dcond_f (by assumption) ?_ | (refine dcond_intro ?_ ?_ <;> intro h) | exact .refl | refine And.intro (by kernel_rfl) ?_ | refine And.intro ⟨fun h => h, fun h => h⟩ ?_ | refine ⟨i, And.intro ⟨rfl, hl0⟩ ?_⟩ | refine ⟨memE Ms[i], And.intro hget ?_⟩ | refine ⟨k, pkE ps[k], And.intro ⟨rfl, hgp⟩ ?_⟩ | refine And.intro (fitsF (by simp <;> omega)) ?_ | refine Exists.intro false ?_ | (refine And.intro ?_ ?_; focus (simp; done)) | fail)
      all_goals (conv => whnf)
      refine ⟨k + 1, hlt, by simp only []; omega, ?_⟩
      conv => whnf
      refine ⟨⟨.refl, .refl, .refl, dle_int (wrap_succ (by omega)), trivial⟩, ⟨.refl, .refl, .refl, ole_row ?_, .refl, trivial⟩, by rfl⟩
      rw [List.take_succ_eq_append_getElem hlt, List.map_append (l₁ := ps.take k), ← List.append_assoc, List.map_append (l₂ := List.map _ [ps[k]])]
      rfl
    · have : k = ps.length := by
        have := of_decide_eq_false h
        simp at this
        exact Nat.le_antisymm hk (by omega)
      subst this
      rw [List.take_length]
      exact ⟨.refl, ⟨.refl, .refl, .refl, .refl, .refl, trivial⟩, by rfl⟩
end Go.Proofs.YtdcfooeoaoahjaaGreat

set_option maxRecDepth 100000
namespace Go.Proofs.YtdcfooeoaoahjaaGreat
open Go.Lift
def noH : Int → Int → Bool := fun _ _ => false
def memQ (v : View) (t : Nat) (H : Int → Int → Bool) (x : Int) : Mem := ⟨x, 1, [], v, [], v, detQ v x (wq t) (H x), [], [], (newA v x).1⟩
theorem genQ {v : View} {x : Int} (hv : viewB v = true) (hi : inB v.mem x = true) : genM v x = (memQ v 0 noH x, 0) := by
  rw [gen_ok (by rw [hv, hi]; rfl), enter_in (by exact hi)]
  simp only []
  rw [newQ hv hi]
  rfl
theorem quietQ {v : View} {x : Int} (hv : viewB v = true) (hi : inB v.mem x = true) {t : Nat} (ht : t < 64) (H : Int → Int → Bool) : Quiet (memQ v t H x) := by
  refine ⟨rfl, ?_, rfl, rfl, hi, detQ_ok hv hi (wq_all ht).1 _, rfl, rfl, rfl, rfl, rfl, hv⟩
  show (chainR v []).2 = true
  unfold chainR
  rw [hv]
  rfl
theorem smQ {v : View} (hv : viewB v = true) (x : Int) {t : Nat} (ht : t < 64) (H : Int → Int → Bool) : SmM (memQ v t H x) := by
  have hl := (view_len hv).2
  have hs := subj_len v.mem x
  have ha := newA_sm (v := v) (by omega) x
  refine ⟨by simp [memQ], ?_, by simp [memQ], by simp [memQ], ?_, ?_, ?_, detQ_bits v x (wq_all ht).2.1 _, by simp [memQ], by simp [memQ], ha⟩
  · show v.mem.length ≤ 1000
    omega
  · show v.mem.length ≤ 1000
    omega
  · show v.mem.length ≤ 1000
    omega
  · show (detQ v x (wq t) (H x)).edges.length ≤ 1000
    rw [detQ_len]
    omega
set_option maxHeartbeats 8000000 in
theorem m_w_Begin (v : View) (hv : viewB v = true) : RetM Tryz.prog 9 [] [.agg (viewE v)] [] [.row 55 29 ((v.mem.map (memQ v 0 noH)).map memE), .row 4 1 ((List.replicate v.mem.length false).map dnE)] (.agg [.own 0, .own 1, .nl]) := by
  have hl := (view_len hv).2
  refine retM_of_bodyA (fn := Tryz.f9) (c := Tryz.f9.body.getD .skip) hm hT (by kernel_rfl) Tryz.func9 (by kernel_rfl) (by kernel_rfl) (by kernel_rfl) (by kernel_rfl) (by kernel_rfl) ?_
  repeat' ((conv => whnf); first | refine And.intro (fun h => h) ?_ | refine dcond_t (by assumption) ?_ | refine dcond_f (by assumption) ?_ | (refine dcond_intro ?_ ?_ <;> intro h) | exact .refl | refine And.intro (by kernel_rfl) ?_ | refine And.intro ⟨fun h => h, fun h => h⟩ ?_ | refine Exists.intro false ?_ | (refine And.intro ?_ ?_; focus (simp; done)) | fail)
  all_goals (conv => whnf)
  refine ⟨Nat, fun i => ⟨[(1, .lp 0 0), (2, .lp 1 0), (3, .lp 2 0), (4, i64 i)], [.cells 24 (viewE v), .cells 32 [.nl, .nl, .nl], .cells 32 [.own 3, .own 4, .nl], .row 55 29 (((v.mem.take i).map (memQ v 0 noH)).map memE), .row 4 1 ((List.replicate i false).map dnE)]⟩, fun i => i ≤ v.mem.length, fun i => v.mem.length - i, [.cell 2 0 55 29, .cell 2 1 4 1], ⟨0, Nat.zero_le _, ?_⟩, ?_⟩
  · conv => whnf
    exact ⟨⟨.refl, .refl, .refl, .refl, trivial⟩, ⟨.refl, .refl, .refl, .refl, .refl, trivial⟩, by rfl⟩
  · intro i hi
    repeat' ((conv => whnf); first | refine And.intro (fun h => h) ?_ | refine dcond_t (by assumption) ?_ | refine dcond_f (by assumption) ?_ | (refine dcond_intro ?_ ?_ <;> intro h) | exact .refl | refine And.intro (by kernel_rfl) ?_ | refine And.intro ⟨fun h => h, fun h => h⟩ ?_ | refine Exists.intro false ?_ | (refine And.intro ?_ ?_; focus (simp; done)) | fail)
    all_goals (conv => whnf)
    · have hlt : i < v.mem.length := by simpa using h
      clear h
      have hin : inB v.mem v.mem[i] = true := in_iff.2 (List.getElem_mem hlt)
      have e1 := c_mem_Genesis v (by omega) v.mem[i]
      rw [genQ hv hin] at e1
      have hgx : (v.mem.map intE)[i]? = some (intE v.mem[i]) := get_map hlt
      have hrow : ((v.mem.take i).map (memQ v 0 noH)).map memE ++ [memE (memQ v 0 noH v.mem[i])] = ((v.mem.take (i + 1)).map (memQ v 0 noH)).map memE := by
        rw [List.take_succ_eq_append_getElem hlt, List.map_append, List.map_append]
        rfl
      have hrow2 : (List.replicate i false).map dnE ++ [dnE false] = (List.replicate (i + 1) false).map dnE := by
        rw [List.replicate_succ', List.map_append]
        rfl
      generalize memQ v 0 noH v.mem[i] = m0 at e1 hrow
      repeat' ((conv => whnf); first | refine And.intro (fun h => h) ?_ | refine dcond_t (by assumption) ?_ | refine dcond_f (by assumption) ?_ | (refine dcond_intro ?_ ?_ <;> intro h) | exact .refl | refine And.intro (by kernel_rfl) ?_ | refine And.intro ⟨fun h => h, fun h => h⟩ ?_ | refine ⟨i, intE v.mem[i], And.intro ⟨rfl, hgx⟩ ?_⟩ | refine .inl ⟨_, _, DleAll_refl _, e1, ?_⟩ | refine ⟨_, _, DleAll_refl _, fun _ => e1, ?_⟩ | refine ⟨_, _, DleAll_refl _, e1, ?_⟩ | refine And.intro (fitsM (by simp <;> omega)) ?_ | refine And.intro (fitsBo (by simp <;> omega)) ?_ | refine Exists.intro false ?_ | (refine And.intro ?_ ?_; focus (simp; done)) | fail)
      all_goals (conv => whnf)
      refine ⟨i + 1, hlt, by simp only []; omega, ?_⟩
      conv => whnf
      exact ⟨⟨.refl, .refl, .refl, dle_int (wrap_succ (by omega)), trivial⟩, ⟨.refl, .refl, .refl, ole_row hrow, ole_row hrow2, trivial⟩, by rfl⟩
    · have hin : i = v.mem.length := by
        have := of_decide_eq_false h
        simp at this
        omega
      subst hin
      rw [List.take_length]
      refine ⟨[.xchg 0 3, .xchg 1 4], ?_⟩
      conv => whnf
      exact ⟨.refl, ⟨.refl, .refl, trivial⟩, by rfl⟩
end Go.Proofs.YtdcfooeoaoahjaaGreat

set_option maxRecDepth 100000
namespace Go.Proofs.YtdcfooeoaoahjaaGreat
open Go.Lift
def flF (num : Int) (f : Int × Int) : Flt := ⟨f.1, f.2, hbW num⟩
def HkF (F : List (Int × Int)) (k : Nat) (x s : Int) : Bool := (F.take k).any fun f => decide (f.1 = s) && decide (f.2 = x)
theorem HkF_succ {F : List (Int × Int)} {k : Nat} (h : k < F.length) (x s : Int) : HkF F (k + 1) x s = (HkF F k x s || (decide (F[k].1 = s) && decide (F[k].2 = x))) := by
  unfold HkF
  rw [List.take_succ_eq_append_getElem h, List.any_append]
  simp
theorem HkF_zero (F : List (Int × Int)) : HkF F 0 = noH := by
  funext x s
  simp [HkF, noH]
theorem memQ_congr {v : View} {t : Nat} {H H' : Int → Int → Bool} {x : Int} (h : H x = H' x) : memQ v t H x = memQ v t H' x := by
  unfold memQ
  rw [h]
theorem idx_of {l : List Int} (hn : l.Nodup) {x : Int} (h : x ∈ l) : ∃ (k : Nat) (hk : k < l.length), l[k] = x ∧ ∀ j (hj : j < k), l[j] ≠ x := by
  obtain ⟨k, hk, hx⟩ := List.getElem_of_mem h
  refine ⟨k, hk, hx, fun j hj he => ?_⟩
  have := (List.getElem_inj hn).1 (he.trans hx.symm)
  omega
theorem set_mapQ {v : View} (hn : v.mem.Nodup) {t : Nat} {H H' : Int → Int → Bool} {b : Nat} (hb : b < v.mem.length) (hne : ∀ x, x ≠ v.mem[b] → H' x = H x) :
    (v.mem.map (memQ v t H)).set b (memQ v t H' v.mem[b]) = v.mem.map (memQ v t H') := by
  refine List.ext_getElem (by simp) fun j h1 h2 => ?_
  rw [List.getElem_set]
  simp only [List.length_map] at h2
  by_cases h : b = j
  · subst h
    rw [if_pos rfl, List.getElem_map]
  · rw [if_neg h, List.getElem_map, List.getElem_map]
    refine memQ_congr (hne _ fun e => h ?_).symm
    exact ((List.getElem_inj hn).1 e).symm
def Fok (v : View) (t : Nat) (F : List (Int × Int)) : Prop := (t = 0 ∧ F = []) ∨ (0 < t ∧ F = flQ v)
theorem fok_mem {v : View} (hv : viewB v = true) {t : Nat} {F : List (Int × Int)} (h : Fok v t F) {f : Int × Int} (hf : f ∈ F) : f.1 ∈ v.mem ∧ f.2 ∈ v.mem ∧ f.1 ≠ f.2 := by
  rcases h with ⟨_, h⟩ | ⟨_, h⟩
  · rw [h] at hf
    simp at hf
  · rw [h] at hf
    exact flQ_mem hv hf
theorem fok_heard {v : View} {t : Nat} {F : List (Int × Int)} (h : Fok v t F) (x : Int) : ∀ s ∈ subjR v.mem x, HkF F F.length x s = decide (0 < t) := by
  intro s hs
  rcases h with ⟨h1, h2⟩ | ⟨h1, h2⟩
  · rw [h1, h2]
    rfl
  · rw [h2, decide_eq_true h1]
    exact Hk_all s hs
theorem flN_len {v : View} : ∀ n, (flN v n).length ≤ 5 * n
  | 0 => by simp [flN]
  | n + 1 => by
    have ih := flN_len (v := v) n
    by_cases h : n < v.mem.length
    · rw [flN_succ v n h, List.length_append, List.length_map]
      have : (toQ v v.mem[n]).length ≤ 5 := Nat.le_trans (setI_len _) (obs_len _ _)
      omega
    · have : v.mem.take (n + 1) = v.mem.take n := by rw [List.take_of_length_le (by omega), List.take_of_length_le (by omega)]
      unfold flN at ih ⊢
      rw [this]
      omega
theorem fok_len {v : View} (hv : viewB v = true) {t : Nat} {F : List (Int × Int)} (h : Fok v t F) : F.length ≤ 100 := by
  have hl := (view_len hv).2
  rcases h with ⟨_, h⟩ | ⟨_, h⟩
  · rw [h]
    simp
  · rw [h]
    have := flN_len (v := v) v.mem.length
    unfold flQ
    omega
theorem rcvQ {v : View} (hv : viewB v = true) {t : Nat} (ht : t < 64) (H : Int → Int → Bool) {x y : Int} (hx : x ∈ v.mem) (hy : y ∈ v.mem) (hne : x ≠ y) :
    Ret Tryz.prog 23 [.agg (memE (memQ v t H y)), i64 x, .lst 1 ((hbW v.num).map byteI) false] (.tup [.agg (memE (memQ v t (fun z s => H z s || (decide (x = s) && decide (y = z))) y)), .lst 2 (([] : List Pk).map pkE) false, i64 0]) := by
  have hiy := in_iff.2 hy
  have hq := quietQ hv hiy ht H
  have e := c_mem_ReceiveHb (memQ v t H y) (quiet_calm hq (smQ hv y ht H)) rfl (quiet_valid hq) x (in_id hv (in_iff.2 hx)) hne (in_iff.2 hx)
  have h1 : heardR (memQ v t H y).det x = detQ v y (wq t) (fun s => H y s || (decide (x = s) && decide (y = y))) := by
    show heardR (detQ v y (wq t) (H y)) x = _
    rw [heardQ hv hiy (wq_all ht).1]
    congr 1
    funext s
    rw [decide_eq_true (rfl : y = y), Bool.and_true]
    congr 1
    exact decide_eq_decide.2 eq_comm
  rw [h1] at e
  exact e
theorem tckQ {v : View} (hv : viewB v = true) {t : Nat} (ht : t < 60) {F : List (Int × Int)} (hF : Fok v t F) {x : Int} (hx : x ∈ v.mem) :
    Ret Tryz.prog 24 [.agg (memE (memQ v t (HkF F F.length) x))] (.tup [.agg (memE (memQ v (t + 1) noH x)), .lst 2 (((toQ v x).map (hbPk v.num)).map pkE) false]) := by
  have hi := in_iff.2 hx
  have hq := quietQ hv hi (t := t) (by omega) (HkF F F.length)
  exact c_mem_TickQ (memQ v t (HkF F F.length) x) (quiet_calm hq (smQ hv x (by omega) _)) rfl (quiet_valid hq) _ (wq_tick hv hi ht _ (fok_heard hF x))
end Go.Proofs.YtdcfooeoaoahjaaGreat

set_option maxRecDepth 100000
namespace Go.Proofs.YtdcfooeoaoahjaaGreat
open Go.Lift
theorem tk_len {α β : Type} {l : List α} {f g : α → β} (i : Nat) : ((l.take i).map f ++ (l.drop i).map g).length = l.length := by
  simp
  omega
theorem tk_get {α β : Type} {l : List α} {f g : α → β} {i : Nat} (h : i < l.length) : ((l.take i).map f ++ (l.drop i).map g)[i]? = some (g l[i]) := by
  have hl : ((l.take i).map f).length = i := by simp; omega
  rw [List.getElem?_append_right (by omega), hl, Nat.sub_self, List.getElem?_map, List.getElem?_drop]
  simp [h]
theorem tk_set {α β : Type} {l : List α} {f g : α → β} {i : Nat} (h : i < l.length) : ((l.take i).map f ++ (l.drop i).map g).set i (f l[i]) = (l.take (i + 1)).map f ++ (l.drop (i + 1)).map g := by
  have hl : ((l.take i).map f).length = i := by simp; omega
  rw [List.set_append_right _ _ (by omega), hl, Nat.sub_self, List.drop_eq_getElem_cons h, List.map_cons, List.set_cons_zero, List.take_succ_eq_append_getElem h, List.map_append]
  simp
set_option maxHeartbeats 16000000 in
theorem m_w_TickQ (v : View) (hv : viewB v = true) (t : Nat) (ht : t < 60) (F : List (Int × Int)) (hF : Fok v t F) (dn : List Bool) (hdn : dn = List.replicate v.mem.length false) :
    RetM Tryz.prog 12 [.cells 32 (wldE 1 2 3), .row 55 29 ((v.mem.map (memQ v t noH)).map memE), .row 4 1 (dn.map dnE), .row 82 3 ((F.map (flF v.num)).map fltE)] [.lp 0 0, u64 0] [true, true, true, false] [.cells 32 (wldE 1 2 3), .row 55 29 ((v.mem.map (memQ v (t + 1) noH)).map memE), .row 4 1 (dn.map dnE), .row 82 3 (((flQ v).map (flF v.num)).map fltE)] (.v (.bool true)) := by
  have hl := (view_len hv).2
  have hFl := fok_len hv hF
  have hnd : v.mem.Nodup := pw_nodup (ids_pw.1 (view_num hv).2.2).2.1
  have hdl : dn.length = v.mem.length := by rw [hdn]; simp
  have hdg : ∀ b, b < v.mem.length → (dn.map dnE)[b]? = some (dnE false) := fun b hb => by
    rw [hdn, List.getElem?_map]
    simp [hb]
  have hH0 := HkF_zero F
  clear hdn
  refine retM_of_bodyA (fn := Tryz.f12) (c := Tryz.f12.body.getD .skip) hm hT (by kernel_rfl) Tryz.func12 (by kernel_rfl) (by kernel_rfl) (by kernel_rfl) (by kernel_rfl) (by kernel_rfl) ?_
  repeat' ((conv => whnf); first | refine And.intro (fun h => h) ?_ | refine dcond_t (by assumption) ?_ | refine dcond_f (by assumption) ?_ | (refine dcond_intro ?_ ?_ <;> intro h) | exact .refl | refine And.intro (by kernel_rfl) ?_ | refine And.intro ⟨fun h => h, fun h => h⟩ ?_ | refine Exists.intro false ?_ | (refine And.intro ?_ ?_; focus (simp; done)) | fail)
  all_goals (conv => whnf)
  refine ⟨Nat, fun k => ⟨[(0, .lp 0 0), (1, u64 0), (5, .own 3), (6, i64 k)], [.cells 32 (wldE 1 2 5), .row 55 29 ((v.mem.map (memQ v t (HkF F k))).map memE), .row 4 1 (dn.map dnE), .row 82 3 ((F.map (flF v.num)).map fltE), .gh [.lp 0 0, .own 1, .own 2, .own 3], .row 82 3 (([] : List Flt).map fltE)]⟩, fun k => k ≤ F.length, fun k => F.length - k, [.cell 0 2 82 3], ⟨0, Nat.zero_le _, ?_⟩, ?_⟩
  · conv => whnf
    refine ⟨⟨.refl, .refl, .refl, .refl, trivial⟩, ⟨.refl, ole_row (by rw [hH0]), .refl, .refl, .refl, .refl, trivial⟩, by rfl⟩
  · intro k hk
    repeat' ((conv => whnf); first | refine And.intro (fun h => h) ?_ | refine dcond_t (by assumption) ?_ | refine dcond_f (by assumption) ?_ | (refine dcond_intro ?_ ?_ <;> intro h) | exact .refl | refine And.intro (by kernel_rfl) ?_ | refine And.intro ⟨fun h => h, fun h => h⟩ ?_ | refine Exists.intro false ?_ | (refine And.intro ?_ ?_; focus (simp; done)) | fail)
    all_goals (conv => whnf)
    · have hlt : k < F.length := by
        have := of_decide_eq_true h
        rw [List.length_map, List.length_map] at this
        omega
      clear h
      have hfm : F[k] ∈ F := List.getElem_mem hlt
      have hgf : ((F.map (flF v.num)).map fltE)[k]? = some (fltE (flF v.num F[k])) := by simp [hlt]
      have hl0 : k < ((F.map (flF v.num)).map fltE).length := by simp [hlt]
      have hsc := HkF_succ hlt
      obtain ⟨f, hf⟩ : ∃ f, f = F[k] := ⟨_, rfl⟩
      rw [← hf] at hfm hgf
      simp only [← hf] at hsc
      clear hf
      obtain ⟨m1, m2, m3⟩ := fok_mem hv hF hfm
      obtain ⟨a, ha, hax, han⟩ := idx_of hnd m1
      obtain ⟨b, hb, hbx, hbn⟩ := idx_of hnd m2
      have hlS : (v.mem.map (memQ v t (HkF F k))).length = v.mem.length := by simp
      have hSa : ∀ j (hj : j < v.mem.length), ((v.mem.map (memQ v t (HkF F k)))[j]'(by rw [hlS]; exact hj)).self = v.mem[j] := fun j hj => by rw [List.getElem_map]; rfl
      have hSb : (v.mem.map (memQ v t (HkF F k)))[b]'(by rw [hlS]; exact hb) = memQ v t (HkF F k) f.2 := by rw [List.getElem_map, hbx]
      have e3 := rcvQ hv (t := t) (by omega) (HkF F k) m1 m2 m3
      have hset := set_mapQ hnd (t := t) (H := HkF F k) (H' := HkF F (k + 1)) hb (fun x hx => by
        funext s
        rw [hsc]
        rw [hbx] at hx
        rw [decide_eq_false (show ¬ f.2 = x from fun e => hx e.symm), Bool.and_false, Bool.or_false])
      rw [hbx] at hset
      have hHH : memQ v t (fun z s => HkF F k z s || (decide (f.1 = s) && decide (f.2 = z))) f.2 = memQ v t (HkF F (k + 1)) f.2 := memQ_congr (by funext s; rw [hsc])
      rw [hHH] at e3
      generalize memQ v t (HkF F (k + 1)) f.2 = mb' at e3 hset
      generalize memQ v t (HkF F k) f.2 = mb at e3 hSb
      generalize v.mem.map (memQ v t (HkF F k)) = S at *
      have hxa : S[a].self = f.1 := by rw [hSa a ha, hax]
      have hxb : S[b].self = f.2 := by rw [hSa b hb, hbx]
      have e1 := m_w_Index S (by omega) dn [] f.1 a (by omega) hxa (fun j hj => by rw [hSa j (by omega)]; exact han j hj)
      have e2 := m_w_Index S (by omega) dn [] f.2 b (by omega) hxb (fun j hj => by rw [hSa j (by omega)]; exact hbn j hj)
      have e4 := c_law11_cut0 a b (by omega) (by omega)
      have e5 := m_w_send (S.set b mb') (by simp; omega) dn [] (by simp) b (by simp; omega) [] (by simp)
      have hlb : b < (dn.map dnE).length := by rw [List.length_map, hdl]; exact hb
      have hgd := hdg b hb
      have hlSb : b < (S.map memE).length := by rw [List.length_map, hlS]; exact hb
      have hgS : (S.map memE)[b]? = some (memE mb) := by rw [← hSb]; exact get_map (by omega)
      have hst : (S.map memE).set b (memE mb') = (S.set b mb').map memE := by rw [List.map_set]
      have hcond : (decide ((a : Int) < 0) || decide ((b : Int) < 0) || false || false) = false := by rw [decide_eq_false (by omega), decide_eq_false (by omega)]; rfl
      repeat' ((conv => whnf); first | refine And.intro (fun h => h) ?_ | refine dcond_t (by assumption) ?_ | refine dcond_f (by assumption) ?_ | (refine dcond_intro ?_ ?_ <;> intro h) | exact .refl | refine And.intro (by kernel_rfl) ?_ | refine And.intro ⟨fun h => h, fun h => h⟩ ?_ | refine ⟨k, And.intro ⟨rfl, hl0⟩ ?_⟩ | refine ⟨fltE (flF v.num f), And.intro hgf ?_⟩ | refine .inr ⟨[0, 1, 2, 5], _, _, _, _, _, e1, by rfl, ⟨.refl, .refl, .refl, .refl, trivial⟩, ⟨.refl, .refl, trivial⟩, ?_⟩ | refine .inr ⟨[0, 1, 2, 5], _, _, _, _, _, e2, by rfl, ⟨.refl, .refl, .refl, .refl, trivial⟩, ⟨.refl, .refl, trivial⟩, ?_⟩ | refine ⟨b, And.intro ⟨⟨fun h => h, fun h => h⟩, fun _ => ⟨rfl, hlb⟩⟩ ?_⟩ | refine ⟨dnE false, And.intro ⟨⟨fun h => h, fun h => h⟩, fun _ => hgd⟩ ?_⟩ | refine ⟨dnE false, And.intro ⟨fun h => h, fun _ => hgd⟩ ?_⟩ | refine ⟨dnE false, And.intro (fun _ => hgd) ?_⟩ | refine .inl ⟨_, _, DleAll_refl _, e4, ?_⟩ | refine ⟨_, _, DleAll_refl _, fun _ => e4, ?_⟩ | refine ⟨_, _, DleAll_refl _, e4, ?_⟩ | refine dcond_f hcond ?_ | refine ⟨b, And.intro ⟨rfl, hlSb⟩ ?_⟩ | refine ⟨memE mb, And.intro hgS ?_⟩ | refine ⟨memE mb, hgS, ?_⟩ | refine .inl ⟨_, _, DleAll_refl _, e3, ?_⟩ | refine ⟨_, _, DleAll_refl _, fun _ => e3, ?_⟩ | refine ⟨_, _, DleAll_refl _, e3, ?_⟩ | refine .inr ⟨[0, 1, 2, 5], _, _, _, _, _, e5, by rfl, ⟨.refl, ole_row hst, .refl, .refl, trivial⟩, ⟨.refl, .refl, .refl, trivial⟩, ?_⟩ | refine Exists.intro false ?_ | (refine And.intro ?_ ?_; focus (simp; done)) | fail)
      all_goals (conv => whnf)
      refine ⟨k + 1, hlt, by simp only []; omega, ?_⟩
      conv => whnf
      exact ⟨⟨.refl, .refl, .refl, dle_int (wrap_succ (by omega)), trivial⟩, ⟨.refl, ole_row (by rw [hset]), .refl, .refl, .refl, .refl, trivial⟩, by rfl⟩
    · have hkl : k = F.length := by
        have := of_decide_eq_false h
        rw [List.length_map, List.length_map] at this
        exact Nat.le_antisymm hk (by omega)
      clear h
      subst hkl
      have htck := fun x hx => tckQ hv ht hF (x := x) hx
      have hrg : ∀ i (h : i < v.mem.length), ((v.mem.take i).map (memQ v (t + 1) noH) ++ (v.mem.drop i).map (memQ v t (HkF F F.length)))[i]? = some (memQ v t (HkF F F.length) v.mem[i]) := fun i h => tk_get h
      have hrs : ∀ i (h : i < v.mem.length), ((v.mem.take i).map (memQ v (t + 1) noH) ++ (v.mem.drop i).map (memQ v t (HkF F F.length))).set i (memQ v (t + 1) noH v.mem[i]) = (v.mem.take (i + 1)).map (memQ v (t + 1) noH) ++ (v.mem.drop (i + 1)).map (memQ v t (HkF F F.length)) := fun i h => tk_set h
      refine ⟨Nat, fun i => ⟨[(0, .lp 0 0), (12, i64 i)], [.cells 32 (wldE 1 2 5), .row 55 29 (((v.mem.take i).map (memQ v (t + 1) noH) ++ (v.mem.drop i).map (memQ v t (HkF F F.length))).map memE), .row 4 1 (dn.map dnE), .row 82 3 ((F.map (flF v.num)).map fltE), .gh [.lp 0 0, .own 1, .own 2, .own 3], .row 82 3 (((flN v i).map (flF v.num)).map fltE)]⟩, fun i => i ≤ v.mem.length, fun i => v.mem.length - i, [], ⟨0, Nat.zero_le _, ?_⟩, ?_⟩
      · conv => whnf
        exact ⟨⟨.refl, .refl, trivial⟩, ⟨.refl, ole_row (by simp), .refl, .refl, .refl, ole_row (by simp [flN]), trivial⟩, by rfl⟩
      · intro i hi
        have hrg := hrg i
        have hrs := hrs i
        have hend : i = v.mem.length → (v.mem.take i).map (memQ v (t + 1) noH) ++ (v.mem.drop i).map (memQ v t (HkF F F.length)) = v.mem.map (memQ v (t + 1) noH) := fun e => by
          subst e
          simp
        have hrl := tk_len (l := v.mem) (f := memQ v (t + 1) noH) (g := memQ v t (HkF F F.length)) i
        repeat' ((conv => whnf); first | refine And.intro (fun h => h) ?_ | refine dcond_t (by assumption) ?_ | refine dcond_f (by assumption) ?_ | (refine dcond_intro ?_ ?_ <;> intro h) | exact .refl | refine And.intro (by kernel_rfl) ?_ | refine And.intro ⟨fun h => h, fun h => h⟩ ?_ | refine Exists.intro false ?_ | (refine And.intro ?_ ?_; focus (simp; done)) | fail)
        all_goals (conv => whnf)
        · have hlt : i < v.mem.length := by
            have := of_decide_eq_true h
            rw [List.length_map, hrl] at this
            omega
          clear h hend
          generalize (v.mem.take i).map (memQ v (t + 1) noH) ++ (v.mem.drop i).map (memQ v t (HkF F F.length)) = S at *
          have hrg := hrg hlt
          have hrs := hrs hlt
          have hfs := flN_succ v i hlt
          have hfn := flN_len (v := v) i
          have htl : (toQ v v.mem[i]).length ≤ 5 := Nat.le_trans (setI_len _) (obs_len _ _)
          have e1 := htck v.mem[i] (List.getElem_mem hlt)
          have hself : (memQ v (t + 1) noH v.mem[i]).self = v.mem[i] := rfl
          have hil : i < S.length := by omega
          have e2 := m_w_send (S.set i (memQ v (t + 1) noH v.mem[i])) (by simp; omega) dn ((flN v i).map (flF v.num)) (by simp; omega) i (by simp; omega) ((toQ v v.mem[i]).map (hbPk v.num)) (by simp; omega)
          have hsf : (S.set i (memQ v (t + 1) noH v.mem[i]))[i]'(by simp; omega) = memQ v (t + 1) noH v.mem[i] := by simp
          rw [hsf, hself] at e2
          have hfl : (flN v i).map (flF v.num) ++ ((toQ v v.mem[i]).map (hbPk v.num)).map (flOf v.mem[i]) = (flN v (i + 1)).map (flF v.num) := by
            rw [hfs, List.map_append, List.map_map, List.map_map]
            rfl
          rw [hfl] at e2
          have hst : (S.map memE).set i (memE (memQ v (t + 1) noH v.mem[i])) = (S.set i (memQ v (t + 1) noH v.mem[i])).map memE := by rw [List.map_set]
          have hlb : i < (dn.map dnE).length := by rw [List.length_map, hdl]; exact hlt
          have hgd := hdg i hlt
          have hlSi : i < (S.map memE).length := by rw [List.length_map]; exact hil
          have hgS : (S.map memE)[i]? = some (memE (memQ v t (HkF F F.length) v.mem[i])) := by rw [List.getElem?_map, hrg]; rfl
          generalize memQ v (t + 1) noH v.mem[i] = m' at *
          generalize memQ v t (HkF F F.length) v.mem[i] = m0 at *
          generalize (toQ v v.mem[i]).map (hbPk v.num) = ps at *
          repeat' ((conv => whnf); first | refine And.intro (fun h => h) ?_ | refine dcond_t (by assumption) ?_ | refine dcond_f (by assumption) ?_ | (refine dcond_intro ?_ ?_ <;> intro h) | exact .refl | refine And.intro (by kernel_rfl) ?_ | refine And.intro ⟨fun h => h, fun h => h⟩ ?_ | refine ⟨i, And.intro ⟨rfl, hlb⟩ ?_⟩ | refine ⟨dnE false, And.intro hgd ?_⟩ | refine ⟨i, And.intro ⟨rfl, hlSi⟩ ?_⟩ | refine ⟨memE m0, And.intro hgS ?_⟩ | refine ⟨memE m0, hgS, ?_⟩ | refine .inl ⟨_, _, DleAll_refl _, e1, ?_⟩ | refine ⟨_, _, DleAll_refl _, fun _ => e1, ?_⟩ | refine ⟨_, _, DleAll_refl _, e1, ?_⟩ | refine .inr ⟨[0, 1, 2, 5], _, _, _, _, _, e2, by rfl, ⟨.refl, ole_row hst, .refl, .refl, trivial⟩, ⟨.refl, .refl, .refl, trivial⟩, ?_⟩ | refine Exists.intro false ?_ | (refine And.intro ?_ ?_; focus (simp; done)) | fail)
          all_goals (conv => whnf)
          refine ⟨i + 1, hlt, by simp only []; omega, ?_⟩
          conv => whnf
          exact ⟨⟨.refl, dle_int (wrap_succ (by omega)), trivial⟩, ⟨.refl, ole_row (by rw [hrs]), .refl, .refl, .refl, .refl, trivial⟩, by rfl⟩
        · have hin : i = v.mem.length := by
            have := of_decide_eq_false h
            rw [List.length_map, hrl] at this
            exact Nat.le_antisymm hi (by omega)
          have hend := hend hin
          rw [hend]
          subst hin
          refine ⟨[.xchg 3 5], ?_⟩
          conv => whnf
          exact ⟨.refl, ⟨.refl, .refl, .refl, .refl, gh4, trivial⟩, by rfl⟩
end Go.Proofs.YtdcfooeoaoahjaaGreat

set_option maxRecDepth 100000
namespace Go.Proofs.YtdcfooeoaoahjaaGreat
open Go.Lift
def fqv (v : View) (t : Nat) : List (Int × Int) := bif decide (t = 0) then [] else flQ v
theorem fqv_ok (v : View) (t : Nat) : Fok v t (fqv v t) := by
  unfold fqv Fok
  by_cases h : t = 0
  · rw [decide_eq_true h]
    exact .inl ⟨h, rfl⟩
  · rw [decide_eq_false h]
    exact .inr ⟨by omega, rfl⟩
theorem fqv_succ (v : View) (t : Nat) : fqv v (t + 1) = flQ v := by
  unfold fqv
  rw [decide_eq_false (by omega)]
  rfl
theorem tick_count (n : Nat) (h : n ≤ 255) : IntKind.i64.wrap ((n : Int).tmod 60) = ((n % 60 : Nat) : Int) := by
  have e : (n : Int).tmod 60 = ((n % 60 : Nat) : Int) := (Int.ofNat_tmod n 60).symm
  rw [e]
  exact wrap_i64 (by omega) (by omega)
set_option maxHeartbeats 16000000 in
theorem r_MembershipQuiet (v : View) (hvl : v.mem.length ≤ maxLen) (n : Nat) (hn : n ≤ 255) : Ret Tryz.prog 6 [.agg (viewE v), .v (.int .u8 n)] (.v (.bool true)) := by
  have e1 := c_ref3_Valid v hvl
  have hcnt := tick_count n hn
  have e3 := c_ref3_Same v v hvl
  have hsame : (decide (v.num = v.num) && sameI v.mem v.mem) = true := sameV_refl v
  rw [hsame] at e3
  refine ret_of_body (fn := Tryz.f6) (c := Tryz.f6.body.getD .skip) hm hT (by kernel_rfl) Tryz.func6 (by kernel_rfl) (by kernel_rfl) (by kernel_rfl) (by kernel_rfl) ?_
  repeat' ((conv => whnf); first | refine And.intro (fun h => h) ?_ | refine dcond_t (by assumption) ?_ | refine dcond_f (by assumption) ?_ | (refine dcond_intro ?_ ?_ <;> intro h) | exact .refl | refine And.intro (by kernel_rfl) ?_ | refine And.intro ⟨fun h => h, fun h => h⟩ ?_ | refine .inl ⟨_, _, DleAll_refl _, c_law11_awake, ?_⟩ | refine ⟨_, _, DleAll_refl _, fun _ => c_law11_awake, ?_⟩ | refine ⟨_, _, DleAll_refl _, c_law11_awake, ?_⟩ | refine .inl ⟨_, _, DleAll_refl _, e1, ?_⟩ | refine ⟨_, _, DleAll_refl _, fun _ => e1, ?_⟩ | refine ⟨_, _, DleAll_refl _, e1, ?_⟩ | refine Exists.intro false ?_ | (refine And.intro ?_ ?_; focus (simp; done)) | fail)
  all_goals (conv => whnf)
  have hv : viewB v = true := by
    simp only [Bool.or_eq_false_iff, Bool.not_eq_false'] at h
    exact h.1
  clear h
  have hl := (view_len hv).2
  have e2 := m_w_Begin v hv
  refine .inr ⟨[], [], _, [], _, _, e2, by rfl, trivial, ⟨.refl, trivial⟩, ?_⟩
  repeat' ((conv => whnf); first | refine And.intro (fun h => h) ?_ | refine dcond_t (by assumption) ?_ | refine dcond_f (by assumption) ?_ | (refine dcond_intro ?_ ?_ <;> intro h) | exact .refl | refine And.intro (by kernel_rfl) ?_ | refine And.intro ⟨fun h => h, fun h => h⟩ ?_ | refine Exists.intro false ?_ | (refine And.intro ?_ ?_; focus (simp; done)) | fail)
  all_goals (conv => whnf)
  refine ⟨Nat, fun i => ⟨[(1, .v (.int .u8 n)), (2, .lp 0 0), (5, .lp 3 0), (6, i64 i)], [.cells 24 (viewE v), .row 55 29 ((v.mem.map (memQ v i noH)).map memE), .row 4 1 ((List.replicate v.mem.length false).map dnE), .cells 32 (wldE 1 2 4), .row 82 3 (((fqv v i).map (flF v.num)).map fltE)]⟩, fun i => i ≤ n % 60, fun i => n % 60 - i, [.cell 3 2 82 3], ⟨0, Nat.zero_le _, ?_⟩, ?_⟩
  · conv => whnf
    exact ⟨⟨.refl, .refl, .refl, .refl, trivial⟩, ⟨.refl, .refl, .refl, .refl, .refl, trivial⟩, by rfl⟩
  · intro i hi
    have h60 : n % 60 < 60 := Nat.mod_lt _ (by decide)
    repeat' ((conv => whnf); first | refine And.intro (fun h => h) ?_ | refine dcond_t (by assumption) ?_ | refine dcond_f (by assumption) ?_ | (refine dcond_intro ?_ ?_ <;> intro h) | exact .refl | refine And.intro (by kernel_rfl) ?_ | refine And.intro ⟨fun h => h, fun h => h⟩ ?_ | refine Exists.intro false ?_ | (refine And.intro ?_ ?_; focus (simp; done)) | fail)
    all_goals (conv => whnf)
    · have hlt : i < n % 60 := by
        have := of_decide_eq_true h
        rw [hcnt] at this
        omega
      clear h
      have e4 := m_w_TickQ v hv i (by omega) (fqv v i) (fqv_ok v i) _ rfl
      rw [← fqv_succ v i] at e4
      repeat' ((conv => whnf); first | refine And.intro (fun h => h) ?_ | refine dcond_t (by assumption) ?_ | refine dcond_f (by assumption) ?_ | (refine dcond_intro ?_ ?_ <;> intro h) | exact .refl | refine And.intro (by kernel_rfl) ?_ | refine And.intro ⟨fun h => h, fun h => h⟩ ?_ | refine .inr ⟨[3, 1, 2, 4], _, _, _, _, _, e4, by rfl, ⟨.refl, .refl, .refl, .refl, trivial⟩, ⟨.refl, .refl, trivial⟩, ?_⟩ | refine Exists.intro false ?_ | (refine And.intro ?_ ?_; focus (simp; done)) | fail)
      all_goals (conv => whnf)
      refine ⟨i + 1, hlt, by simp only []; omega, ?_⟩
      conv => whnf
      exact ⟨⟨.refl, .refl, .refl, dle_int (wrap_succ (by omega)), trivial⟩, ⟨.refl, .refl, .refl, .refl, .refl, trivial⟩, by rfl⟩
    · clear h
      refine ⟨Nat, fun j => ⟨[(2, .lp 0 0), (5, .lp 3 0), (7, i64 j)], [.cells 24 (viewE v), .row 55 29 ((v.mem.map (memQ v i noH)).map memE), .row 4 1 ((List.replicate v.mem.length false).map dnE), .cells 32 (wldE 1 2 4), .row 82 3 (((fqv v i).map (flF v.num)).map fltE)]⟩, fun j => j ≤ v.mem.length, fun j => v.mem.length - j, [], ⟨0, Nat.zero_le _, ?_⟩, ?_⟩
      · conv => whnf
        exact ⟨⟨.refl, .refl, .refl, trivial⟩, ⟨.refl, .refl, .refl, .refl, .refl, trivial⟩, by rfl⟩
      · intro j hj
        repeat' ((conv => whnf); first | refine And.intro (fun h => h) ?_ | refine dcond_t (by assumption) ?_ | refine dcond_f (by assumption) ?_ | (refine dcond_intro ?_ ?_ <;> intro h) | exact .refl | refine And.intro (by kernel_rfl) ?_ | refine And.intro ⟨fun h => h, fun h => h⟩ ?_ | refine Exists.intro false ?_ | (refine And.intro ?_ ?_; focus (simp; done)) | fail)
        all_goals (conv => whnf)
        · have hlt : j < v.mem.length := by
            have := of_decide_eq_true h
            rw [List.length_map, List.length_map] at this
            omega
          clear h
          have hl0 : j < ((v.mem.map (memQ v i noH)).map memE).length := by simp [hlt]
          have hget : ((v.mem.map (memQ v i noH)).map memE)[j]? = some (memE (memQ v i noH v.mem[j])) := by simp [hlt]
          have hcnd : (!decide ((memQ v i noH v.mem[j]).status = 1) || !true || decide (0 < (((memQ v i noH v.mem[j]).als.map alE).length : Int))) = false := rfl
          repeat' ((conv => whnf); first | refine And.intro (fun h => h) ?_ | refine dcond_t (by assumption) ?_ | refine dcond_f (by assumption) ?_ | (refine dcond_intro ?_ ?_ <;> intro h) | exact .refl | refine And.intro (by kernel_rfl) ?_ | refine And.intro ⟨fun h => h, fun h => h⟩ ?_ | refine ⟨j, And.intro ⟨rfl, hl0⟩ ?_⟩ | refine ⟨memE (memQ v i noH v.mem[j]), And.intro hget ?_⟩ | refine .inl ⟨_, _, DleAll_refl _, e3, ?_⟩ | refine ⟨_, _, DleAll_refl _, fun _ => e3, ?_⟩ | refine ⟨_, _, DleAll_refl _, e3, ?_⟩ | refine dcond_f hcnd ?_ | refine Exists.intro false ?_ | (refine And.intro ?_ ?_; focus (simp; done)) | fail)
          all_goals (conv => whnf)
          refine ⟨j + 1, hlt, by simp only []; omega, ?_⟩
          conv => whnf
          exact ⟨⟨.refl, .refl, dle_int (wrap_succ (by omega)), trivial⟩, ⟨.refl, .refl, .refl, .refl, .refl, trivial⟩, by rfl⟩
theorem law_MembershipQuiet (dvs : List DV) (h : DatAll tt 6 [24, 5] dvs) : Ret Tryz.prog 6 dvs (.v (.bool true)) := by
  obtain ⟨a1, _, rfl, h1, a2, _, rfl, ⟨D, rfl, hD⟩, rfl⟩ := h
  obtain ⟨v, rfl, hv⟩ := dat_view (n := 3) h1
  have hb := bounds_u8 (by exact hD)
  obtain ⟨n, rfl⟩ := Int.eq_ofNat_of_zero_le hb.1
  exact r_MembershipQuiet v hv n (by omega)
end Go.Proofs.YtdcfooeoaoahjaaGreat
