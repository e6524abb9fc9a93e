/- The laws of this seat, part OwC: contracts of the functions, plain laws. No conditions. -/
import Derived.Test.YtdcfooeoaoahjaaGreatOwB
set_option linter.unusedSimpArgs false
set_option linter.unusedVariables false
set_option maxRecDepth 100000
namespace Go.Proofs.YtdcfooeoaoahjaaGreat
open Go.Lift
theorem zz_u64 {v : Int} (h2 : v ≤ 1099511627776) : zz v < 18446744073709551616 := zz_lt h2
theorem zz_back {v : Int} (h1 : -1 ≤ v) (h2 : v ≤ 1099511627776) : bits .xor .i64 (IntKind.i64.wrap (((zz v : Nat) : Int).fdiv (2 ^ (min (1 : Int).toNat 64)))) (IntKind.i64.wrap (0 - IntKind.i64.wrap (bits .and .u64 ((zz v : Nat) : Int) 1))) = v := by
  by_cases h : v < 0
  · have e : v = -1 := by omega
    subst e
    decide +kernel
  · have hz : ((zz v : Nat) : Int) = 2 * v := by
      unfold zz
      rw [if_neg h]
      omega
    have e2 : (2 : Int) ^ (min (1 : Int).toNat 64) = 2 := by decide
    have ha : ∀ n : Nat, n < 9223372036854775808 → bits .and .u64 ((2 * n : Nat) : Int) 1 = 0 := fun n hn => by
      unfold bits
      simp only [IntKind.bits, IntKind.signed]
      have hb : (BitVec.ofInt 64 ((2 * n : Nat) : Int) &&& BitVec.ofInt 64 1).toNat = 0 := by
        rw [BitVec.toNat_and, BitVec.ofInt_natCast, BitVec.toNat_ofNat]
        rw [Nat.mod_eq_of_lt (by omega)]
        have : (BitVec.ofInt 64 1).toNat = 1 := by decide
        rw [this, Nat.and_one_is_mod]
        omega
      exact (congrArg (fun k : Nat => IntKind.u64.wrap (k : Int)) hb).trans (by decide)
    have e3 : IntKind.i64.wrap (2 * v) = 2 * v := wrap_i64 (by omega) (by omega)
    have hx : ∀ n : Nat, n < 9223372036854775808 → bits .xor .i64 (n : Int) 0 = (n : Int) := fun n hn => by
      unfold bits
      simp only [IntKind.bits, IntKind.signed]
      have hb : (BitVec.ofInt 64 (n : Int) ^^^ BitVec.ofInt 64 0).toNat = n := by
        have h0 : BitVec.ofInt 64 0 = 0#64 := by decide
        rw [h0, BitVec.xor_zero, BitVec.ofInt_natCast, BitVec.toNat_ofNat]
        exact Nat.mod_eq_of_lt (by omega)
      exact (congrArg (fun k : Nat => IntKind.i64.wrap (k : Int)) hb).trans (wrap_i64 (by omega) (by omega))
    obtain ⟨n, hn⟩ : ∃ n : Nat, v = (n : Int) := ⟨v.toNat, by omega⟩
    have hz2 : ((zz v : Nat) : Int) = ((2 * n : Nat) : Int) := by rw [hz]; omega
    rw [hz2, ha n (by omega), e2, Int.fdiv_eq_ediv_of_nonneg _ (by omega)]
    have hd : ((2 * n : Nat) : Int) / 2 = (n : Int) := by omega
    have w1 : IntKind.i64.wrap (n : Int) = n := wrap_i64 (by omega) (by omega)
    have w0 : IntKind.i64.wrap (0 - IntKind.i64.wrap 0) = 0 := by decide
    rw [hd, w1, w0, hx n (by omega), hn]
theorem c_Int (v : Int) (h1 : -1 ≤ v) (h2 : v ≤ 1099511627776) (r : List Nat) (hr : r.length ≤ 900000) : Ret Tryz.prog 136 [.lst 1 ((leb (zz v) ++ r).map byteI) false] (.tup [i64 v, i64 (leb (zz v)).length, i64 0]) := by
  have hll : (leb (zz v)).length ≤ 10 := leb_len 9 (zz v)
  have e := c_Uint (leb (zz v) ++ r) (by simp only [List.length_append]; omega)
  rw [uint_back (zz_u64 h2)] at e
  have hz := zz_back h1 h2
  refine ret_of_body (fn := Tryz.f136) (c := Tryz.f136.body.getD .skip) hm hT (by kernel_rfl) Tryz.func136 (by kernel_rfl) (by kernel_rfl) (by kernel_rfl) (by kernel_rfl) ?_
  repeat' ((conv => whnf); first | refine And.intro (fun h => h) ?_ | refine dcond_t (by assumption) ?_ | refine dcond_f (by assumption) ?_ | (refine dcond_intro ?_ ?_ <;> intro h) | exact .refl | refine And.intro (by kernel_rfl) ?_ | refine And.intro ⟨fun h => h, fun h => h⟩ ?_ | refine .inl ⟨_, _, DleAll_refl _, e, ?_⟩ | refine ⟨_, _, DleAll_refl _, fun _ => e, ?_⟩ | refine ⟨_, _, DleAll_refl _, e, ?_⟩ | refine Exists.intro false ?_ | (refine And.intro ?_ ?_; focus (simp; done)) | fail)
  all_goals (conv => whnf)
  all_goals exact dle_tupA ⟨dle_int hz, .refl, .refl, trivial⟩
theorem intsT_split (l : List Int) {i : Nat} (h : i < l.length) : intsT l = intsT (l.take i) ++ (leb (zz l[i]) ++ intsT (l.drop (i + 1))) := by
  have e : l = l.take i ++ (l[i] :: l.drop (i + 1)) := by
    rw [← List.drop_eq_getElem_cons h, List.take_append_drop]
  have e2 : intsT l = intsT (l.take i ++ (l[i] :: l.drop (i + 1))) := congrArg intsT e
  rw [e2]
  unfold intsT
  rw [List.flatMap_append, List.flatMap_cons]
theorem intsT_succ (l : List Int) {i : Nat} (h : i < l.length) : (intsT (l.take (i + 1))).length = (intsT (l.take i)).length + (leb (zz l[i])).length := by
  unfold intsT
  rw [List.take_succ_eq_append_getElem h, List.flatMap_append, List.length_append]
  simp
theorem len_ints {l : List Int} (hl : l.length ≤ 1000) {mx : Int} (h : (l.length : Int) ≤ mx) (hmx : mx ≤ 1000000) (r : List Nat) : lenR (intsB l ++ r) mx = ((l.length : Int), (((leb l.length).length : Nat) : Int), 0) := by
  unfold lenR intsB
  rw [List.append_assoc, uint_back (by omega)]
  rw [decide_eq_false (show ¬ mx < 0 by omega)]
  have e : IntKind.u64.wrap mx = mx := u64_id (by omega) (by omega)
  rw [e, decide_eq_false (show ¬ mx < (l.length : Int) by omega), wrap_i64 (by omega) (by omega)]
  rfl
set_option maxHeartbeats 4000000 in
theorem c_list_int (l : List Int) (hl : l.length ≤ 1000) (hr : ∀ v ∈ l, -1 ≤ v ∧ v ≤ 1099511627776) (mx : Int) (hmy : (l.length : Int) ≤ mx) (hmx : mx ≤ 1000000) (r : List Nat) (hrl : r.length ≤ 800000) :
    Ret Tryz.prog 225 [.lst 1 ((intsB l ++ r).map byteI) false, i64 mx, .fn (.func 136) []] (.tup [.lst 1 (l.map intE) false, i64 (intsB l).length, i64 0]) := by
  have hll : (leb l.length).length ≤ 10 := leb_len 9 l.length
  have hil := intsT_len l
  have hBl : (intsB l).length = (leb l.length).length + (intsT l).length := by simp [intsB]
  have e1 := c_length (intsB l ++ r) (by simp only [List.length_append]; omega) mx
  rw [len_ints hl hmy hmx] at e1
  refine ret_of_body (fn := Tryz.f225) (c := Tryz.f225.body.getD .skip) hm hT (by kernel_rfl) Tryz.func225 (by kernel_rfl) (by kernel_rfl) (by kernel_rfl) (by kernel_rfl) ?_
  repeat' ((conv => whnf); first | refine And.intro (fun h => h) ?_ | refine dcond_t (by assumption) ?_ | refine dcond_f (by assumption) ?_ | (refine dcond_intro ?_ ?_ <;> intro h) | exact .refl | refine And.intro (by kernel_rfl) ?_ | refine And.intro ⟨fun h => h, fun h => h⟩ ?_ | refine .inl ⟨_, _, DleAll_refl _, e1, ?_⟩ | refine ⟨_, _, DleAll_refl _, fun _ => e1, ?_⟩ | refine ⟨_, _, DleAll_refl _, e1, ?_⟩ | refine Exists.intro false ?_ | (refine And.intro ?_ ?_; focus (simp; done)) | fail)
  all_goals (conv => whnf)
  obtain ⟨F, hF⟩ : ∃ F : Nat → Nat, ∀ i, F i = (leb l.length).length + (intsT (l.take i)).length := ⟨_, fun _ => rfl⟩
  refine ⟨Nat, fun i => ⟨[(0, .lst 1 ((intsB l ++ r).map byteI) false), (2, .fn (.func 136) []), (6, .own 0), (7, i64 ((F i : Nat) : Int)), (8, i64 0), (9, i64 l.length), (10, i64 i)], [.row 3 1 ((l.take i).map intE)]⟩, fun i => i ≤ l.length, fun i => l.length - i, [.slot 6 3 1], ⟨0, Nat.zero_le _, ?_⟩, ?_⟩
  · conv => whnf
    exact ⟨⟨.refl, .refl, .refl, dle_int (by rw [hF 0]; simp [intsT]), .refl, .refl, .refl, trivial⟩, ⟨.refl, trivial⟩, by rfl⟩
  · intro i hi
    have hA := hF i
    have hA1 := hF (i + 1)
    have hti := intsT_len (l.take i)
    have htl : (l.take i).length = i := by simp; omega
    repeat' ((conv => whnf); first | refine And.intro (fun h => h) ?_ | refine dcond_t (by assumption) ?_ | refine dcond_f (by assumption) ?_ | (refine dcond_intro ?_ ?_ <;> intro h) | exact .refl | refine And.intro (by kernel_rfl) ?_ | refine And.intro ⟨fun h => h, fun h => h⟩ ?_ | refine Exists.intro false ?_ | (refine And.intro ?_ ?_; focus (simp; done)) | fail)
    all_goals (conv => whnf)
    · have h0 := h
      have hlt : i < l.length := by simpa using h0
      clear h0 h
      have hv := hr _ (List.getElem_mem hlt)
      have hsp := intsT_split l hlt
      have hsc := intsT_succ l hlt
      have htr := intsT_len (l.drop (i + 1))
      have hdl : (l.drop (i + 1)).length = l.length - (i + 1) := List.length_drop
      have hlz : (leb (zz l[i])).length ≤ 10 := leb_len 9 _
      have hAle : F i ≤ ((intsB l ++ r).map byteI).length := by
        rw [List.length_map, List.length_append, hBl, hsp]
        simp only [List.length_append]
        omega
      have hdr : ((intsB l ++ r).map byteI).drop (F i) = (leb (zz l[i]) ++ (intsT (l.drop (i + 1)) ++ r)).map byteI := by
        rw [← List.map_drop]
        congr 1
        have e : intsB l ++ r = (leb l.length ++ intsT (l.take i)) ++ (leb (zz l[i]) ++ (intsT (l.drop (i + 1)) ++ r)) := by
          unfold intsB
          rw [hsp]
          simp only [List.append_assoc]
        rw [e, List.drop_append_of_le_length (by rw [List.length_append]; omega), List.drop_of_length_le (by rw [List.length_append]; omega)]
        rfl
      have e2 := c_Int l[i] hv.1 hv.2 (intsT (l.drop (i + 1)) ++ r) (by rw [List.length_append]; omega)
      repeat' ((conv => whnf); first | refine And.intro (fun h => h) ?_ | refine dcond_t (by assumption) ?_ | refine dcond_f (by assumption) ?_ | (refine dcond_intro ?_ ?_ <;> intro h) | exact .refl | refine And.intro (by kernel_rfl) ?_ | refine And.intro ⟨fun h => h, fun h => h⟩ ?_ | refine ⟨F i, And.intro ⟨⟨_, rfl⟩, hAle⟩ ?_⟩ | refine .inl ⟨[.lst 1 ((leb (zz l[i]) ++ (intsT (l.drop (i + 1)) ++ r)).map byteI) false], _, ⟨dle_lst hdr, trivial⟩, e2, ?_⟩ | refine And.intro (fitsI (by simp <;> omega)) ?_ | refine Exists.intro false ?_ | (refine And.intro ?_ ?_; focus (simp; done)) | fail)
      all_goals (conv => whnf)
      refine ⟨i + 1, hlt, by simp only []; omega, ?_⟩
      conv => whnf
      refine ⟨⟨.refl, .refl, .refl, dle_int ?_, .refl, .refl, dle_int (wrap_succ (by omega)), trivial⟩, ⟨ole_row ?_, trivial⟩, by rfl⟩
      · rw [wrap_i64 (by omega) (by omega)]
        omega
      · rw [List.take_succ_eq_append_getElem hlt, List.map_append]
        rfl
    · have h0 := h
      have hin : i = l.length := by
        simp at h0
        omega
      subst hin
      rw [List.take_length] at hA ⊢
      refine dle_tupA ⟨.refl, dle_int ?_, .refl, trivial⟩
      rw [hBl, hA]
theorem c_IntList (l : List Int) (hl : l.length ≤ 1000) (hr : ∀ v ∈ l, -1 ≤ v ∧ v ≤ 1099511627776) (mx : Int) (h : (l.length : Int) ≤ mx) (hmx : mx ≤ 1000000) (r : List Nat) (hrl : r.length ≤ 800000) :
    Ret Tryz.prog 188 [.lst 1 ((intsB l ++ r).map byteI) false, i64 mx] (.tup [.lst 1 (l.map intE) false, i64 (intsB l).length, i64 0]) := by
  refine ret_of_body (fn := Tryz.f188) (c := Tryz.f188.body.getD .skip) hm hT (by kernel_rfl) Tryz.func188 (by kernel_rfl) (by kernel_rfl) (by kernel_rfl) (by kernel_rfl) ?_
  repeat' ((conv => whnf); first | refine And.intro (fun h => h) ?_ | refine dcond_t (by assumption) ?_ | refine dcond_f (by assumption) ?_ | (refine dcond_intro ?_ ?_ <;> intro h) | exact .refl | refine And.intro (by kernel_rfl) ?_ | refine And.intro ⟨fun h => h, fun h => h⟩ ?_ | refine .inl ⟨_, _, DleAll_refl _, c_list_int l hl hr mx h hmx r hrl, ?_⟩ | refine ⟨_, _, DleAll_refl _, fun _ => c_list_int l hl hr mx h hmx r hrl, ?_⟩ | refine ⟨_, _, DleAll_refl _, c_list_int l hl hr mx h hmx r hrl, ?_⟩ | refine Exists.intro false ?_ | (refine And.intro ?_ ?_; focus (simp; done)) | fail)
end Go.Proofs.YtdcfooeoaoahjaaGreat

set_option maxRecDepth 100000
namespace Go.Proofs.YtdcfooeoaoahjaaGreat
open Go.Lift
def vwB (v : View) : List Nat := leb v.num.toNat ++ intsB v.mem
theorem view_num {v : View} (h : viewB v = true) : 0 ≤ v.num ∧ v.num ≤ 1099511627776 ∧ idsB v.mem 16 = true := by
  unfold viewB at h
  simp only [Bool.and_eq_true, decide_eq_true_eq] at h
  exact ⟨h.1.1, h.1.2, h.2⟩
theorem ids_len {l : List Int} {m : Int} (h : idsB l m = true) : 1 ≤ l.length ∧ (l.length : Int) ≤ m := by
  unfold idsB at h
  simp only [Bool.and_eq_true, Bool.not_eq_true', Bool.or_eq_false_iff, decide_eq_false_iff_not] at h
  omega
theorem ids_rng {l : List Int} {m : Int} (h : idsB l m = true) : ∀ x ∈ l, 1 ≤ x ∧ x ≤ 1000 := by
  unfold idsB at h
  simp only [Bool.and_eq_true] at h
  have ha := allB_true.1 h.2
  have key : ∀ i, i < l.length → 1 ≤ l.getD i 0 ∧ l.getD i 0 ≤ 1000 := by
    intro i
    induction i with
    | zero =>
      intro hi
      have := ha 0 hi
      unfold okAt at this
      simp only [Bool.not_eq_true', Bool.or_eq_false_iff, decide_eq_false_iff_not] at this
      have h0 : (0 :: l).getD 0 0 = (0 : Int) := rfl
      rw [h0] at this
      omega
    | succ i ih =>
      intro hi
      have := ha (i + 1) hi
      unfold okAt at this
      simp only [Bool.not_eq_true', Bool.or_eq_false_iff, decide_eq_false_iff_not] at this
      have h0 : (0 :: l).getD (i + 1) 0 = l.getD i 0 := rfl
      rw [h0] at this
      have := ih (by omega)
      omega
  intro x hx
  obtain ⟨i, hi, rfl⟩ := List.getElem_of_mem hx
  have := key i hi
  rw [show l.getD i 0 = l[i] by simp [hi]] at this
  exact this
theorem vw_ints {v : View} (h : viewB v = true) : v.mem.length ≤ 16 ∧ ∀ x ∈ v.mem, -1 ≤ x ∧ x ≤ 1099511627776 := by
  have h3 := (view_num h).2.2
  have := ids_len h3
  refine ⟨by omega, fun x hx => ?_⟩
  have := ids_rng h3 x hx
  omega
theorem u64_nat {n : Int} (h0 : 0 ≤ n) (h1 : n ≤ 1099511627776) : IntKind.u64.wrap n = ((n.toNat : Nat) : Int) := by
  rw [u64_id (by omega) (by omega)]
  omega
theorem vw_len (v : View) (h : viewB v = true) : (vwB v).length ≤ 1000 := by
  obtain ⟨h4, h5⟩ := vw_ints h
  have hll : (leb v.num.toNat).length ≤ 10 := leb_len 9 _
  have hll2 : (leb v.mem.length).length ≤ 10 := leb_len 9 _
  have := intsT_len v.mem
  unfold vwB intsB
  simp only [List.length_append]
  omega
set_option maxHeartbeats 4000000 in
theorem c_view_Decode (v : View) (h : viewB v = true) (r : List Nat) (hr : r.length ≤ 700000) : Ret Tryz.prog 138 [.lst 1 ((vwB v ++ r).map byteI) false] (.tup [.agg (viewE v), i64 (vwB v).length, i64 0]) := by
  obtain ⟨h1, h2, h3⟩ := view_num h
  obtain ⟨h4, h5⟩ := vw_ints h
  have hl := vw_len v h
  have hln : (vwB v).length = (leb v.num.toNat).length + (intsB v.mem).length := by simp [vwB]
  have e1 := c_Uint (vwB v ++ r) (by rw [List.length_append]; omega)
  have hsp : vwB v ++ r = leb v.num.toNat ++ (intsB v.mem ++ r) := by
    unfold vwB
    rw [List.append_assoc]
  have hub : uintG (vwB v ++ r) 0 0 = (((v.num.toNat : Nat) : Int), (((leb v.num.toNat).length : Nat) : Int), 0) := by
    rw [hsp]
    exact uint_back (by omega) _
  rw [hub] at e1
  have hn : ((v.num.toNat : Nat) : Int) = v.num := by omega
  rw [hn] at e1
  have e2 := c_IntList v.mem (by omega) h5 16 (by omega) (by omega) r (by omega)
  have e3 := c_view_ValidMembers v.mem (Nat.le_trans h4 (by decide))
  rw [h3] at e3
  obtain ⟨A, hA⟩ : ∃ A, A = (leb v.num.toNat).length := ⟨_, rfl⟩
  rw [← hA] at e1 hln
  have hdr : ((vwB v ++ r).map byteI).drop A = (intsB v.mem ++ r).map byteI := by
    rw [← List.map_drop, hsp, hA, List.drop_left]
  have hAl : A ≤ ((vwB v ++ r).map byteI).length := by
    rw [List.length_map, List.length_append]
    omega
  have hc : decide ((1099511627776 : Int) < v.num) = false := decide_eq_false (by omega)
  have hw : IntKind.i64.wrap v.num = v.num := wrap_i64 (by omega) (by omega)
  have hw2 : IntKind.i64.wrap ((A : Int) + ((intsB v.mem).length : Int)) = (((vwB v).length : Nat) : Int) := by
    rw [wrap_i64 (by omega) (by omega)]
    omega
  refine ret_of_body (fn := Tryz.f138) (c := Tryz.f138.body.getD .skip) hm hT (by kernel_rfl) Tryz.func138 (by kernel_rfl) (by kernel_rfl) (by kernel_rfl) (by kernel_rfl) ?_
  repeat' ((conv => whnf); first | refine And.intro (fun h => h) ?_ | refine dcond_t (by assumption) ?_ | refine dcond_f (by assumption) ?_ | (refine dcond_intro ?_ ?_ <;> intro h) | exact .refl | refine And.intro (by kernel_rfl) ?_ | refine And.intro ⟨fun h => h, fun h => h⟩ ?_ | refine .inl ⟨_, _, DleAll_refl _, e1, ?_⟩ | refine ⟨_, _, DleAll_refl _, fun _ => e1, ?_⟩ | refine ⟨_, _, DleAll_refl _, e1, ?_⟩ | refine dcond_f hc ?_ | refine ⟨A, And.intro ⟨⟨_, rfl⟩, hAl⟩ ?_⟩ | refine .inl ⟨[.lst 1 ((intsB v.mem ++ r).map byteI) false, _], _, ⟨dle_lst hdr, .refl, trivial⟩, e2, ?_⟩ | refine .inl ⟨_, _, DleAll_refl _, e3, ?_⟩ | refine ⟨_, _, DleAll_refl _, fun _ => e3, ?_⟩ | refine ⟨_, _, DleAll_refl _, e3, ?_⟩ | refine Exists.intro false ?_ | (refine And.intro ?_ ?_; focus (simp; done)) | fail)
  all_goals (conv => whnf)
  all_goals exact dle_tupA ⟨dle_aggA ⟨dle_int hw, .refl, trivial⟩, dle_int hw2, .refl, trivial⟩
end Go.Proofs.YtdcfooeoaoahjaaGreat

set_option maxRecDepth 100000
namespace Go.Proofs.YtdcfooeoaoahjaaGreat
open Go.Lift
def rdE (b : List Nat) : List DV := [.lst 1 (b.map byteI) false, .v (.bool false)]
theorem m_rd_take (b : List Nat) (n : Nat) (h : n ≤ b.length) : RetM Tryz.prog 76 [.cells 135 (rdE b)] [.lp 0 0, i64 n, i64 0] [true] [.cells 135 (rdE (b.drop n))] (.tup []) := by
  have hl : n ≤ (b.map byteI).length := by rw [List.length_map]; exact h
  refine retM_of_body (fn := Tryz.f76) (c := Tryz.f76.body.getD .skip) hm hT (by kernel_rfl) Tryz.func76 (by kernel_rfl) (by kernel_rfl) (by kernel_rfl) (by kernel_rfl) (by kernel_rfl) ?_
  repeat' ((conv => whnf); first | refine And.intro (fun h => h) ?_ | refine dcond_t (by assumption) ?_ | refine dcond_f (by assumption) ?_ | (refine dcond_intro ?_ ?_ <;> intro h) | exact .refl | refine And.intro (by kernel_rfl) ?_ | refine And.intro ⟨fun h => h, fun h => h⟩ ?_ | refine ⟨n, And.intro ⟨⟨_, rfl⟩, hl⟩ ?_⟩ | refine Exists.intro false ?_ | (refine And.intro ?_ ?_; focus (simp; done)) | fail)
  all_goals (conv => whnf)
  refine ⟨.refl, ⟨ole_cellsA ⟨dle_lst ?_, .refl, trivial⟩, .refl, trivial⟩, by rfl⟩
  rw [List.map_drop]
theorem m_rd_number (v : Nat) (hv : (v : Int) ≤ 1099511627776) (r : List Nat) (hr : r.length ≤ 700000) : RetM Tryz.prog 74 [.cells 135 (rdE (leb v ++ r))] [.lp 0 0] [true] [.cells 135 (rdE r)] (i64 v) := by
  have hll : (leb v).length ≤ 10 := leb_len 9 _
  have e1 := c_Uint (leb v ++ r) (by rw [List.length_append]; omega)
  rw [uint_back (by omega)] at e1
  have e2 := m_rd_take (leb v ++ r) (leb v).length (by rw [List.length_append]; omega)
  rw [List.drop_left] at e2
  have hc : decide ((1099511627776 : Int) < (v : Int)) = false := decide_eq_false (by omega)
  have hw : IntKind.i64.wrap (v : Int) = v := wrap_i64 (by omega) (by omega)
  refine retM_of_body (fn := Tryz.f74) (c := Tryz.f74.body.getD .skip) hm hT (by kernel_rfl) Tryz.func74 (by kernel_rfl) (by kernel_rfl) (by kernel_rfl) (by kernel_rfl) (by kernel_rfl) ?_
  repeat' ((conv => whnf); first | refine And.intro (fun h => h) ?_ | refine dcond_t (by assumption) ?_ | refine dcond_f (by assumption) ?_ | (refine dcond_intro ?_ ?_ <;> intro h) | exact .refl | refine And.intro (by kernel_rfl) ?_ | refine And.intro ⟨fun h => h, fun h => h⟩ ?_ | refine .inl ⟨_, _, DleAll_refl _, e1, ?_⟩ | refine ⟨_, _, DleAll_refl _, fun _ => e1, ?_⟩ | refine ⟨_, _, DleAll_refl _, e1, ?_⟩ | refine .inr ⟨[0], _, _, _, _, _, e2, by rfl, ⟨.refl, trivial⟩, ⟨.refl, .refl, .refl, trivial⟩, ?_⟩ | refine dcond_f hc ?_ | refine Exists.intro false ?_ | (refine And.intro ?_ ?_; focus (simp; done)) | fail)
  all_goals (conv => whnf)
  all_goals exact ⟨dle_int hw, ⟨.refl, .refl, trivial⟩, by rfl⟩
theorem m_rd_cut (l : List Int) (hl : l.length ≤ 32) (hi : ∀ v ∈ l, -1 ≤ v ∧ v ≤ 1099511627776) (r : List Nat) (hr : r.length ≤ 700000) : RetM Tryz.prog 137 [.cells 135 (rdE (intsB l ++ r))] [.lp 0 0] [true] [.cells 135 (rdE r)] (.lst 1 (l.map intE) false) := by
  have e1 := c_IntList l (by omega) hi 32 (by omega) (by omega) r (by omega)
  have e2 := m_rd_take (intsB l ++ r) (intsB l).length (by rw [List.length_append]; omega)
  rw [List.drop_left] at e2
  refine retM_of_body (fn := Tryz.f137) (c := Tryz.f137.body.getD .skip) hm hT (by kernel_rfl) Tryz.func137 (by kernel_rfl) (by kernel_rfl) (by kernel_rfl) (by kernel_rfl) (by kernel_rfl) ?_
  repeat' ((conv => whnf); first | refine And.intro (fun h => h) ?_ | refine dcond_t (by assumption) ?_ | refine dcond_f (by assumption) ?_ | (refine dcond_intro ?_ ?_ <;> intro h) | exact .refl | refine And.intro (by kernel_rfl) ?_ | refine And.intro ⟨fun h => h, fun h => h⟩ ?_ | refine .inl ⟨_, _, DleAll_refl _, e1, ?_⟩ | refine ⟨_, _, DleAll_refl _, fun _ => e1, ?_⟩ | refine ⟨_, _, DleAll_refl _, e1, ?_⟩ | refine .inr ⟨[0], _, _, _, _, _, e2, by rfl, ⟨.refl, trivial⟩, ⟨.refl, .refl, .refl, trivial⟩, ?_⟩ | refine Exists.intro false ?_ | (refine And.intro ?_ ?_; focus (simp; done)) | fail)
  all_goals (conv => whnf)
  all_goals exact ⟨.refl, ⟨.refl, .refl, trivial⟩, by rfl⟩
end Go.Proofs.YtdcfooeoaoahjaaGreat

set_option maxRecDepth 100000
namespace Go.Proofs.YtdcfooeoaoahjaaGreat
open Go.Lift
def cutE (c : List Int) : List DV := [.lst 1 (c.map intE) false]
theorem fitsC {n : Nat} (h : n ≤ 2000000) : fitsIn tt 22 n := by
  have e : (tinfo tt 22).bytes = 24 := by kernel_rfl
  refine ⟨?_, ?_⟩
  · rw [e]; omega
  · simp only [maxLen]; omega
structure Dbt where
  subj : Int
  ticks : Int
def dbtE (d : Dbt) : List DV := [i64 d.subj, i64 d.ticks]
structure Mem where
  self : Int
  status : Int
  cont : List Int
  first : View
  hist : List (List Int)
  view : View
  det : Det
  als : List Alr
  dbts : List Dbt
  agr : Agr
def memE (s : Mem) : List DV := [i64 s.self, i64 s.status, .lst 1 (s.cont.map intE) false, i64 s.first.num, .lst 1 (s.first.mem.map intE) false, .lst 1 (s.hist.map cutE) false, i64 s.view.num, .lst 1 (s.view.mem.map intE) false, i64 s.det.self, i64 s.det.view.num, .lst 1 (s.det.view.mem.map intE) false, .lst 6 (s.det.edges.map edgeE) false, .lst 4 (s.als.map alE) false, .lst 2 (s.dbts.map dbtE) false, i64 s.agr.self, i64 s.agr.view.num, .lst 1 (s.agr.view.mem.map intE) false, i64 s.agr.acc.pro, i64 s.agr.acc.rank, .lst 1 (s.agr.acc.cut.map intE) false, .lst 1 (s.agr.prop.map intE) false, .lst 2 (s.agr.box.map balE) false, i64 s.agr.rank, i64 s.agr.phase, .lst 3 (s.agr.reps.map rptE) false, .lst 1 (s.agr.cho.map intE) false, .lst 3 (s.agr.accs.map rptE) false, .lst 1 (s.agr.dec.map intE) false, i64 s.agr.wait]
def view0 : View := ⟨0, []⟩
def sameV (a b : View) : Bool := decide (a.num = b.num) && sameI a.mem b.mem
def idB (x : Int) : Bool := decide (1 ≤ x) && decide (x ≤ 1000)
theorem c_mem_identifier (x : Int) : Ret Tryz.prog 31 [i64 x] (.v (.bool (idB x))) := by
  refine ret_of_body (fn := Tryz.f31) (c := Tryz.f31.body.getD .skip) hm hT (by kernel_rfl) Tryz.func31 (by kernel_rfl) (by kernel_rfl) (by kernel_rfl) (by kernel_rfl) ?_
  repeat' ((conv => whnf); first | refine And.intro (fun h => h) ?_ | refine dcond_t (by assumption) ?_ | refine dcond_f (by assumption) ?_ | (refine dcond_intro ?_ ?_ <;> intro h) | exact .refl | refine And.intro (by kernel_rfl) ?_ | refine And.intro ⟨fun h => h, fun h => h⟩ ?_ | refine Exists.intro false ?_ | (refine And.intro ?_ ?_; focus (simp; done)) | fail)
theorem c_mem_sameView (a b : View) (ha : a.mem.length ≤ maxLen) : Ret Tryz.prog 34 [.agg (viewE a), .agg (viewE b)] (.v (.bool (sameV a b))) := by
  refine ret_of_body (fn := Tryz.f34) (c := Tryz.f34.body.getD .skip) hm hT (by kernel_rfl) Tryz.func34 (by kernel_rfl) (by kernel_rfl) (by kernel_rfl) (by kernel_rfl) ?_
  repeat' ((conv => whnf); first | refine And.intro (fun h => h) ?_ | refine dcond_t (by assumption) ?_ | refine dcond_f (by assumption) ?_ | (refine dcond_intro ?_ ?_ <;> intro h) | exact .refl | refine And.intro (by kernel_rfl) ?_ | refine And.intro ⟨fun h => h, fun h => h⟩ ?_ | refine .inl ⟨_, _, DleAll_refl _, c_slices_Equal_int _ _ ha, ?_⟩ | refine ⟨_, _, DleAll_refl _, fun _ => c_slices_Equal_int _ _ ha, ?_⟩ | refine ⟨_, _, DleAll_refl _, c_slices_Equal_int _ _ ha, ?_⟩ | refine Exists.intro false ?_ | (refine And.intro ?_ ?_; focus (simp; done)) | fail)
theorem c_mem_cloneView (v : View) (hv : v.mem.length ≤ 1000000) : Ret Tryz.prog 44 [.agg (viewE v)] (.agg (viewE v)) := by
  refine ret_of_body (fn := Tryz.f44) (c := Tryz.f44.body.getD .skip) hm hT (by kernel_rfl) Tryz.func44 (by kernel_rfl) (by kernel_rfl) (by kernel_rfl) (by kernel_rfl) ?_
  repeat' ((conv => whnf); first | refine And.intro (fun h => h) ?_ | refine dcond_t (by assumption) ?_ | refine dcond_f (by assumption) ?_ | (refine dcond_intro ?_ ?_ <;> intro h) | exact .refl | refine And.intro (by kernel_rfl) ?_ | refine And.intro ⟨fun h => h, fun h => h⟩ ?_ | refine .inl ⟨_, _, DleAll_refl _, c_slices_Clone_int _ hv, ?_⟩ | refine ⟨_, _, DleAll_refl _, fun _ => c_slices_Clone_int _ hv, ?_⟩ | refine ⟨_, _, DleAll_refl _, c_slices_Clone_int _ hv, ?_⟩ | refine Exists.intro false ?_ | (refine And.intro ?_ ?_; focus (simp; done)) | fail)
def chV (first : View) (cuts : List (List Int)) : Nat → View
  | 0 => first
  | i + 1 => (nextR (chV first cuts i) (cuts.getD i [])).1
def chOk (first : View) (cuts : List (List Int)) (i : Nat) : Bool := decide ((nextR (chV first cuts i) (cuts.getD i [])).2 = 0)
def chAll (first : View) (cuts : List (List Int)) : Nat → List View
  | 0 => [first]
  | i + 1 => chAll first cuts i ++ [chV first cuts (i + 1)]
def chainR (first : View) (cuts : List (List Int)) : List View × Bool :=
  bif !viewB first || decide (400 < (cuts.length : Int)) then ([], false)
  else bif allB (chOk first cuts) cuts.length then (chAll first cuts cuts.length, true) else ([], false)
def enterM (s : Mem) (v : View) : Mem :=
  bif inB v.mem s.self then { s with view := v, als := [], dbts := [], status := 1, det := (newR v s.self).1, agr := (newA v s.self).1 }
  else { s with view := v, als := [], dbts := [], status := 2, det := det0, agr := agr0 }
def mem0 : Mem := ⟨0, 0, [], view0, [], view0, det0, [], [], agr0⟩
def genM (v : View) (self : Int) : Mem × Int := bif !viewB v || !inB v.mem self then (mem0, 1) else (enterM { mem0 with self := self, first := v } v, 0)
def joinM (self : Int) (cont : List Int) : Mem × Int := bif !idB self || !idsB cont 16 || inB cont self then (mem0, 1) else ({ mem0 with self := self, cont := cont }, 0)
end Go.Proofs.YtdcfooeoaoahjaaGreat

set_option maxRecDepth 100000
namespace Go.Proofs.YtdcfooeoaoahjaaGreat
open Go.Lift
structure SmM (s : Mem) : Prop where
  cont : s.cont.length ≤ 1000
  first : s.first.mem.length ≤ 1000
  hist : s.hist.length ≤ 1000
  histc : ∀ c ∈ s.hist, c.length ≤ 1000
  view : s.view.mem.length ≤ 1000
  dview : s.det.view.mem.length ≤ 1000
  edges : s.det.edges.length ≤ 1000
  ebits : ∀ e ∈ s.det.edges, 0 ≤ e.win.bits
  als : s.als.length ≤ 1000
  dbts : s.dbts.length ≤ 1000
  agr : SmA s.agr
theorem fitsD {n : Nat} (h : n ≤ 2000000) : fitsIn tt 150 n := by
  have e : (tinfo tt 150).bytes = 16 := by kernel_rfl
  refine ⟨?_, ?_⟩
  · rw [e]; omega
  · simp only [maxLen]; omega
theorem fitsV {n : Nat} (h : n ≤ 2000000) : fitsIn tt 24 n := by
  have e : (tinfo tt 24).bytes = 32 := by kernel_rfl
  refine ⟨?_, ?_⟩
  · rw [e]; omega
  · simp only [maxLen]; omega
theorem c_Clone_dbt (l : List Dbt) (hl : l.length ≤ 1000000) : Ret Tryz.prog 82 [.lst 2 (l.map dbtE) false] (.lst 2 (l.map dbtE) false) := by
  refine ret_of_body (fn := Tryz.f82) (c := Tryz.f82.body.getD .skip) hm hT (by kernel_rfl) Tryz.func82 (by kernel_rfl) (by kernel_rfl) (by kernel_rfl) (by kernel_rfl) ?_
  repeat' ((conv => whnf); first | refine And.intro (fun h => h) ?_ | refine dcond_t (by assumption) ?_ | refine dcond_f (by assumption) ?_ | (refine dcond_intro ?_ ?_ <;> intro h) | exact .refl | refine And.intro (by kernel_rfl) ?_ | refine And.intro ⟨fun h => h, fun h => h⟩ ?_ | refine Exists.intro false ?_ | (refine And.intro ?_ ?_; focus (simp; done)) | fail)
  refine And.intro (fun hnil => ?_) ?_
  · repeat' ((conv => whnf); first | refine And.intro (fun h => h) ?_ | refine dcond_t (by assumption) ?_ | refine dcond_f (by assumption) ?_ | (refine dcond_intro ?_ ?_ <;> intro h) | exact .refl | refine And.intro (by kernel_rfl) ?_ | refine And.intro ⟨fun h => h, fun h => h⟩ ?_ | refine Exists.intro false ?_ | (refine And.intro ?_ ?_; focus (simp; done)) | fail)
    all_goals (conv => whnf)
    rw [hnil]
    exact .nl
  · repeat' ((conv => whnf); first | refine And.intro (fun h => h) ?_ | refine dcond_t (by assumption) ?_ | refine dcond_f (by assumption) ?_ | (refine dcond_intro ?_ ?_ <;> intro h) | exact .refl | refine And.intro (by kernel_rfl) ?_ | refine And.intro ⟨fun h => h, fun h => h⟩ ?_ | refine Exists.intro false ?_ | (refine And.intro ?_ ?_; focus (simp; done)) | fail)
    all_goals (conv => whnf)
    refine And.intro (fitsD (by simp; omega)) ?_
    repeat' ((conv => whnf); first | refine And.intro (fun h => h) ?_ | refine dcond_t (by assumption) ?_ | refine dcond_f (by assumption) ?_ | (refine dcond_intro ?_ ?_ <;> intro h) | exact .refl | refine And.intro (by kernel_rfl) ?_ | refine And.intro ⟨fun h => h, fun h => h⟩ ?_ | refine Exists.intro false ?_ | (refine And.intro ?_ ?_; focus (simp; done)) | fail)
theorem c_Clone_edg (l : List Edge) (hl : l.length ≤ 1000000) : Ret Tryz.prog 80 [.lst 6 (l.map edgeE) false] (.lst 6 (l.map edgeE) false) := by
  refine ret_of_body (fn := Tryz.f80) (c := Tryz.f80.body.getD .skip) hm hT (by kernel_rfl) Tryz.func80 (by kernel_rfl) (by kernel_rfl) (by kernel_rfl) (by kernel_rfl) ?_
  repeat' ((conv => whnf); first | refine And.intro (fun h => h) ?_ | refine dcond_t (by assumption) ?_ | refine dcond_f (by assumption) ?_ | (refine dcond_intro ?_ ?_ <;> intro h) | exact .refl | refine And.intro (by kernel_rfl) ?_ | refine And.intro ⟨fun h => h, fun h => h⟩ ?_ | refine Exists.intro false ?_ | (refine And.intro ?_ ?_; focus (simp; done)) | fail)
  refine And.intro (fun hnil => ?_) ?_
  · repeat' ((conv => whnf); first | refine And.intro (fun h => h) ?_ | refine dcond_t (by assumption) ?_ | refine dcond_f (by assumption) ?_ | (refine dcond_intro ?_ ?_ <;> intro h) | exact .refl | refine And.intro (by kernel_rfl) ?_ | refine And.intro ⟨fun h => h, fun h => h⟩ ?_ | refine Exists.intro false ?_ | (refine And.intro ?_ ?_; focus (simp; done)) | fail)
    all_goals (conv => whnf)
    rw [hnil]
    exact .nl
  · repeat' ((conv => whnf); first | refine And.intro (fun h => h) ?_ | refine dcond_t (by assumption) ?_ | refine dcond_f (by assumption) ?_ | (refine dcond_intro ?_ ?_ <;> intro h) | exact .refl | refine And.intro (by kernel_rfl) ?_ | refine And.intro ⟨fun h => h, fun h => h⟩ ?_ | refine Exists.intro false ?_ | (refine And.intro ?_ ?_; focus (simp; done)) | fail)
    all_goals (conv => whnf)
    refine And.intro (fitsE (by simp; omega)) ?_
    repeat' ((conv => whnf); first | refine And.intro (fun h => h) ?_ | refine dcond_t (by assumption) ?_ | refine dcond_f (by assumption) ?_ | (refine dcond_intro ?_ ?_ <;> intro h) | exact .refl | refine And.intro (by kernel_rfl) ?_ | refine And.intro ⟨fun h => h, fun h => h⟩ ?_ | refine Exists.intro false ?_ | (refine And.intro ?_ ?_; focus (simp; done)) | fail)
theorem m_Clone_cuts (l : List (List Int)) (hl : l.length ≤ 1000000) (hne : l ≠ []) : RetM Tryz.prog 139 [] [.lst 1 (l.map cutE) false] [] [.row 22 1 (l.map cutE)] (.own 0) := by
  refine retM_of_body (fn := Tryz.f139) (c := Tryz.f139.body.getD .skip) hm hT (by kernel_rfl) Tryz.func139 (by kernel_rfl) (by kernel_rfl) (by kernel_rfl) (by kernel_rfl) (by kernel_rfl) ?_
  repeat' ((conv => whnf); first | refine And.intro (fun h => h) ?_ | refine dcond_t (by assumption) ?_ | refine dcond_f (by assumption) ?_ | (refine dcond_intro ?_ ?_ <;> intro h) | exact .refl | refine And.intro (by kernel_rfl) ?_ | refine And.intro ⟨fun h => h, fun h => h⟩ ?_ | refine Exists.intro false ?_ | (refine And.intro ?_ ?_; focus (simp; done)) | fail)
  refine And.intro (fun hnil => ?_) ?_
  · exact absurd (List.map_eq_nil_iff.1 hnil) hne
  · repeat' ((conv => whnf); first | refine And.intro (fun h => h) ?_ | refine dcond_t (by assumption) ?_ | refine dcond_f (by assumption) ?_ | (refine dcond_intro ?_ ?_ <;> intro h) | exact .refl | refine And.intro (by kernel_rfl) ?_ | refine And.intro ⟨fun h => h, fun h => h⟩ ?_ | refine Exists.intro false ?_ | (refine And.intro ?_ ?_; focus (simp; done)) | fail)
    all_goals (conv => whnf)
    refine And.intro (fitsC (by simp; omega)) ?_
    repeat' ((conv => whnf); first | refine And.intro (fun h => h) ?_ | refine dcond_t (by assumption) ?_ | refine dcond_f (by assumption) ?_ | (refine dcond_intro ?_ ?_ <;> intro h) | exact .refl | refine And.intro (by kernel_rfl) ?_ | refine And.intro ⟨fun h => h, fun h => h⟩ ?_ | refine Exists.intro false ?_ | (refine And.intro ?_ ?_; focus (simp; done)) | fail)
    all_goals (conv => whnf)
    exact ⟨.refl, ⟨.refl, trivial⟩, by rfl⟩
theorem c_Clone_cuts0 : Ret Tryz.prog 139 [.lst 1 (([] : List (List Int)).map cutE) false] (.lst 1 (([] : List (List Int)).map cutE) false) := by
  refine ret_of_body (fn := Tryz.f139) (c := Tryz.f139.body.getD .skip) hm hT (by kernel_rfl) Tryz.func139 (by kernel_rfl) (by kernel_rfl) (by kernel_rfl) (by kernel_rfl) ?_
  repeat' ((conv => whnf); first | refine And.intro (fun h => h) ?_ | refine dcond_t (by assumption) ?_ | refine dcond_f (by assumption) ?_ | (refine dcond_intro ?_ ?_ <;> intro h) | exact .refl | refine And.intro (by kernel_rfl) ?_ | refine And.intro ⟨fun h => h, fun h => h⟩ ?_ | refine Exists.intro false ?_ | (refine And.intro ?_ ?_; focus (simp; done)) | fail)
  refine And.intro (fun hnil => ?_) ?_
  · repeat' ((conv => whnf); first | refine And.intro (fun h => h) ?_ | refine dcond_t (by assumption) ?_ | refine dcond_f (by assumption) ?_ | (refine dcond_intro ?_ ?_ <;> intro h) | exact .refl | refine And.intro (by kernel_rfl) ?_ | refine And.intro ⟨fun h => h, fun h => h⟩ ?_ | refine Exists.intro false ?_ | (refine And.intro ?_ ?_; focus (simp; done)) | fail)
    all_goals (conv => whnf)
    exact .nl
  · repeat' ((conv => whnf); first | refine And.intro (fun h => h) ?_ | refine dcond_t (by assumption) ?_ | refine dcond_f (by assumption) ?_ | (refine dcond_intro ?_ ?_ <;> intro h) | exact .refl | refine And.intro (by kernel_rfl) ?_ | refine And.intro ⟨fun h => h, fun h => h⟩ ?_ | refine Exists.intro false ?_ | (refine And.intro ?_ ?_; focus (simp; done)) | fail)
    all_goals (conv => whnf)
    refine And.intro (fitsC (by simp)) ?_
    repeat' ((conv => whnf); first | refine And.intro (fun h => h) ?_ | refine dcond_t (by assumption) ?_ | refine dcond_f (by assumption) ?_ | (refine dcond_intro ?_ ?_ <;> intro h) | exact .refl | refine And.intro (by kernel_rfl) ?_ | refine And.intro ⟨fun h => h, fun h => h⟩ ?_ | refine Exists.intro false ?_ | (refine And.intro ?_ ?_; focus (simp; done)) | fail)
theorem m_Clone_rpt (l : List Rpt) (hl : l.length ≤ 1000000) (hne : l ≠ []) : RetM Tryz.prog 189 [] [.lst 3 (l.map rptE) false] [] [.row 179 3 (l.map rptE)] (.own 0) := by
  refine retM_of_body (fn := Tryz.f189) (c := Tryz.f189.body.getD .skip) hm hT (by kernel_rfl) Tryz.func189 (by kernel_rfl) (by kernel_rfl) (by kernel_rfl) (by kernel_rfl) (by kernel_rfl) ?_
  repeat' ((conv => whnf); first | refine And.intro (fun h => h) ?_ | refine dcond_t (by assumption) ?_ | refine dcond_f (by assumption) ?_ | (refine dcond_intro ?_ ?_ <;> intro h) | exact .refl | refine And.intro (by kernel_rfl) ?_ | refine And.intro ⟨fun h => h, fun h => h⟩ ?_ | refine Exists.intro false ?_ | (refine And.intro ?_ ?_; focus (simp; done)) | fail)
  refine And.intro (fun hnil => ?_) ?_
  · exact absurd (List.map_eq_nil_iff.1 hnil) hne
  · repeat' ((conv => whnf); first | refine And.intro (fun h => h) ?_ | refine dcond_t (by assumption) ?_ | refine dcond_f (by assumption) ?_ | (refine dcond_intro ?_ ?_ <;> intro h) | exact .refl | refine And.intro (by kernel_rfl) ?_ | refine And.intro ⟨fun h => h, fun h => h⟩ ?_ | refine Exists.intro false ?_ | (refine And.intro ?_ ?_; focus (simp; done)) | fail)
    all_goals (conv => whnf)
    refine And.intro (fitsR (by simp; omega)) ?_
    repeat' ((conv => whnf); first | refine And.intro (fun h => h) ?_ | refine dcond_t (by assumption) ?_ | refine dcond_f (by assumption) ?_ | (refine dcond_intro ?_ ?_ <;> intro h) | exact .refl | refine And.intro (by kernel_rfl) ?_ | refine And.intro ⟨fun h => h, fun h => h⟩ ?_ | refine Exists.intro false ?_ | (refine And.intro ?_ ?_; focus (simp; done)) | fail)
    all_goals (conv => whnf)
    exact ⟨.refl, ⟨.refl, trivial⟩, by rfl⟩
theorem c_Clone_rpt0 : Ret Tryz.prog 189 [.lst 3 (([] : List Rpt).map rptE) false] (.lst 3 (([] : List Rpt).map rptE) false) := by
  refine ret_of_body (fn := Tryz.f189) (c := Tryz.f189.body.getD .skip) hm hT (by kernel_rfl) Tryz.func189 (by kernel_rfl) (by kernel_rfl) (by kernel_rfl) (by kernel_rfl) ?_
  repeat' ((conv => whnf); first | refine And.intro (fun h => h) ?_ | refine dcond_t (by assumption) ?_ | refine dcond_f (by assumption) ?_ | (refine dcond_intro ?_ ?_ <;> intro h) | exact .refl | refine And.intro (by kernel_rfl) ?_ | refine And.intro ⟨fun h => h, fun h => h⟩ ?_ | refine Exists.intro false ?_ | (refine And.intro ?_ ?_; focus (simp; done)) | fail)
  refine And.intro (fun hnil => ?_) ?_
  · repeat' ((conv => whnf); first | refine And.intro (fun h => h) ?_ | refine dcond_t (by assumption) ?_ | refine dcond_f (by assumption) ?_ | (refine dcond_intro ?_ ?_ <;> intro h) | exact .refl | refine And.intro (by kernel_rfl) ?_ | refine And.intro ⟨fun h => h, fun h => h⟩ ?_ | refine Exists.intro false ?_ | (refine And.intro ?_ ?_; focus (simp; done)) | fail)
    all_goals (conv => whnf)
    exact .nl
  · repeat' ((conv => whnf); first | refine And.intro (fun h => h) ?_ | refine dcond_t (by assumption) ?_ | refine dcond_f (by assumption) ?_ | (refine dcond_intro ?_ ?_ <;> intro h) | exact .refl | refine And.intro (by kernel_rfl) ?_ | refine And.intro ⟨fun h => h, fun h => h⟩ ?_ | refine Exists.intro false ?_ | (refine And.intro ?_ ?_; focus (simp; done)) | fail)
    all_goals (conv => whnf)
    refine And.intro (fitsR (by simp)) ?_
    repeat' ((conv => whnf); first | refine And.intro (fun h => h) ?_ | refine dcond_t (by assumption) ?_ | refine dcond_f (by assumption) ?_ | (refine dcond_intro ?_ ?_ <;> intro h) | exact .refl | refine And.intro (by kernel_rfl) ?_ | refine And.intro ⟨fun h => h, fun h => h⟩ ?_ | refine Exists.intro false ?_ | (refine And.intro ?_ ?_; focus (simp; done)) | fail)
theorem set_self {α : Type} {l : List α} {f : α → List DV} {i : Nat} (h : i < l.length) : (l.map f).set i (f l[i]) = l.map f := by
  rw [← List.map_set, List.set_getElem_self]
theorem c_mem_cloneCuts (l : List (List Int)) (hl : l.length ≤ 1000000) (hc : ∀ c ∈ l, c.length ≤ 1000000) : Ret Tryz.prog 79 [.lst 1 (l.map cutE) false] (.lst 1 (l.map cutE) false) := by
  by_cases hne : l = []
  · subst hne
    refine ret_of_body (fn := Tryz.f79) (c := Tryz.f79.body.getD .skip) hm hT (by kernel_rfl) Tryz.func79 (by kernel_rfl) (by kernel_rfl) (by kernel_rfl) (by kernel_rfl) ?_
    repeat' ((conv => whnf); first | refine And.intro (fun h => h) ?_ | refine dcond_t (by assumption) ?_ | refine dcond_f (by assumption) ?_ | (refine dcond_intro ?_ ?_ <;> intro h) | exact .refl | refine And.intro (by kernel_rfl) ?_ | refine And.intro ⟨fun h => h, fun h => h⟩ ?_ | refine .inl ⟨_, _, DleAll_refl _, c_Clone_cuts0, ?_⟩ | refine ⟨_, _, DleAll_refl _, fun _ => c_Clone_cuts0, ?_⟩ | refine ⟨_, _, DleAll_refl _, c_Clone_cuts0, ?_⟩ | refine Exists.intro false ?_ | (refine And.intro ?_ ?_; focus (simp; done)) | fail)
    all_goals (conv => whnf)
    refine ⟨Nat, fun i => ⟨[(3, .lst 1 (([] : List (List Int)).map cutE) false), (8, i64 0), (9, i64 i)], []⟩, fun i => i = 0, fun i => 0, [], ⟨0, rfl, ?_⟩, ?_⟩
    · conv => whnf
      exact ⟨⟨.refl, .refl, .refl, trivial⟩, trivial, by rfl⟩
    · intro i hi
      subst hi
      repeat' ((conv => whnf); first | refine And.intro (fun h => h) ?_ | refine dcond_t (by assumption) ?_ | refine dcond_f (by assumption) ?_ | (refine dcond_intro ?_ ?_ <;> intro h) | exact .refl | refine And.intro (by kernel_rfl) ?_ | refine And.intro ⟨fun h => h, fun h => h⟩ ?_ | refine Exists.intro false ?_ | (refine And.intro ?_ ?_; focus (simp; done)) | fail)
  · refine ret_of_body (fn := Tryz.f79) (c := Tryz.f79.body.getD .skip) hm hT (by kernel_rfl) Tryz.func79 (by kernel_rfl) (by kernel_rfl) (by kernel_rfl) (by kernel_rfl) ?_
    repeat' ((conv => whnf); first | refine And.intro (fun h => h) ?_ | refine dcond_t (by assumption) ?_ | refine dcond_f (by assumption) ?_ | (refine dcond_intro ?_ ?_ <;> intro h) | exact .refl | refine And.intro (by kernel_rfl) ?_ | refine And.intro ⟨fun h => h, fun h => h⟩ ?_ | refine .inr ⟨[], [], _, [], _, _, m_Clone_cuts l (by omega) hne, by rfl, trivial, ⟨.refl, trivial⟩, ?_⟩ | refine Exists.intro false ?_ | (refine And.intro ?_ ?_; focus (simp; done)) | fail)
    all_goals (conv => whnf)
    refine ⟨Nat, fun i => ⟨[(3, .own 0), (8, i64 l.length), (9, i64 i)], [.row 22 1 (l.map cutE)]⟩, fun i => i ≤ l.length, fun i => l.length - i, [], ⟨0, Nat.zero_le _, ?_⟩, ?_⟩
    · conv => whnf
      exact ⟨⟨.refl, dle_int (by simp), .refl, trivial⟩, ⟨.refl, trivial⟩, by rfl⟩
    · intro i hi
      repeat' ((conv => whnf); first | refine And.intro (fun h => h) ?_ | refine dcond_t (by assumption) ?_ | refine dcond_f (by assumption) ?_ | (refine dcond_intro ?_ ?_ <;> intro h) | exact .refl | refine And.intro (by kernel_rfl) ?_ | refine And.intro ⟨fun h => h, fun h => h⟩ ?_ | refine Exists.intro false ?_ | (refine And.intro ?_ ?_; focus (simp; done)) | fail)
      · have hlt : i < l.length := by simpa using h
        clear h
        have hl0 : i < (l.map cutE).length := by rw [List.length_map]; exact hlt
        have hget : (l.map cutE)[i]? = some (cutE l[i]) := by simp [hlt]
        have hset := set_self (f := cutE) hlt
        repeat' ((conv => whnf); first | refine And.intro (fun h => h) ?_ | refine dcond_t (by assumption) ?_ | refine dcond_f (by assumption) ?_ | (refine dcond_intro ?_ ?_ <;> intro h) | exact .refl | refine And.intro (by kernel_rfl) ?_ | refine And.intro ⟨fun h => h, fun h => h⟩ ?_ | refine .inl ⟨_, _, DleAll_refl _, c_slices_Clone_int _ (hc _ (List.getElem_mem hlt)), ?_⟩ | refine ⟨_, _, DleAll_refl _, fun _ => c_slices_Clone_int _ (hc _ (List.getElem_mem hlt)), ?_⟩ | refine ⟨_, _, DleAll_refl _, c_slices_Clone_int _ (hc _ (List.getElem_mem hlt)), ?_⟩ | refine ⟨i, And.intro ⟨rfl, hl0⟩ ?_⟩ | refine ⟨cutE l[i], And.intro hget ?_⟩ | refine ⟨cutE l[i], hget, ?_⟩ | refine Exists.intro false ?_ | (refine And.intro ?_ ?_; focus (simp; done)) | fail)
        all_goals (conv => whnf)
        refine ⟨i + 1, hlt, by simp only []; omega, ?_⟩
        conv => whnf
        refine ⟨⟨.refl, .refl, dle_int (wrap_succ (by omega)), trivial⟩, ⟨ole_row ?_, trivial⟩, by rfl⟩
        exact hset
theorem c_mem_cloneReports (l : List Rpt) (hl : l.length ≤ 1000000) (hc : ∀ r ∈ l, r.cut.length ≤ 1000000) : Ret Tryz.prog 140 [.lst 3 (l.map rptE) false] (.lst 3 (l.map rptE) false) := by
  by_cases hne : l = []
  · subst hne
    refine ret_of_body (fn := Tryz.f140) (c := Tryz.f140.body.getD .skip) hm hT (by kernel_rfl) Tryz.func140 (by kernel_rfl) (by kernel_rfl) (by kernel_rfl) (by kernel_rfl) ?_
    repeat' ((conv => whnf); first | refine And.intro (fun h => h) ?_ | refine dcond_t (by assumption) ?_ | refine dcond_f (by assumption) ?_ | (refine dcond_intro ?_ ?_ <;> intro h) | exact .refl | refine And.intro (by kernel_rfl) ?_ | refine And.intro ⟨fun h => h, fun h => h⟩ ?_ | refine .inl ⟨_, _, DleAll_refl _, c_Clone_rpt0, ?_⟩ | refine ⟨_, _, DleAll_refl _, fun _ => c_Clone_rpt0, ?_⟩ | refine ⟨_, _, DleAll_refl _, c_Clone_rpt0, ?_⟩ | refine Exists.intro false ?_ | (refine And.intro ?_ ?_; focus (simp; done)) | fail)
    all_goals (conv => whnf)
    refine ⟨Nat, fun i => ⟨[(3, .lst 3 (([] : List Rpt).map rptE) false), (8, i64 0), (9, i64 i)], []⟩, fun i => i = 0, fun i => 0, [], ⟨0, rfl, ?_⟩, ?_⟩
    · conv => whnf
      exact ⟨⟨.refl, .refl, .refl, trivial⟩, trivial, by rfl⟩
    · intro i hi
      subst hi
      repeat' ((conv => whnf); first | refine And.intro (fun h => h) ?_ | refine dcond_t (by assumption) ?_ | refine dcond_f (by assumption) ?_ | (refine dcond_intro ?_ ?_ <;> intro h) | exact .refl | refine And.intro (by kernel_rfl) ?_ | refine And.intro ⟨fun h => h, fun h => h⟩ ?_ | refine Exists.intro false ?_ | (refine And.intro ?_ ?_; focus (simp; done)) | fail)
  · refine ret_of_body (fn := Tryz.f140) (c := Tryz.f140.body.getD .skip) hm hT (by kernel_rfl) Tryz.func140 (by kernel_rfl) (by kernel_rfl) (by kernel_rfl) (by kernel_rfl) ?_
    repeat' ((conv => whnf); first | refine And.intro (fun h => h) ?_ | refine dcond_t (by assumption) ?_ | refine dcond_f (by assumption) ?_ | (refine dcond_intro ?_ ?_ <;> intro h) | exact .refl | refine And.intro (by kernel_rfl) ?_ | refine And.intro ⟨fun h => h, fun h => h⟩ ?_ | refine .inr ⟨[], [], _, [], _, _, m_Clone_rpt l (by omega) hne, by rfl, trivial, ⟨.refl, trivial⟩, ?_⟩ | refine Exists.intro false ?_ | (refine And.intro ?_ ?_; focus (simp; done)) | fail)
    all_goals (conv => whnf)
    refine ⟨Nat, fun i => ⟨[(3, .own 0), (8, i64 l.length), (9, i64 i)], [.row 179 3 (l.map rptE)]⟩, fun i => i ≤ l.length, fun i => l.length - i, [], ⟨0, Nat.zero_le _, ?_⟩, ?_⟩
    · conv => whnf
      exact ⟨⟨.refl, dle_int (by simp), .refl, trivial⟩, ⟨.refl, trivial⟩, by rfl⟩
    · intro i hi
      repeat' ((conv => whnf); first | refine And.intro (fun h => h) ?_ | refine dcond_t (by assumption) ?_ | refine dcond_f (by assumption) ?_ | (refine dcond_intro ?_ ?_ <;> intro h) | exact .refl | refine And.intro (by kernel_rfl) ?_ | refine And.intro ⟨fun h => h, fun h => h⟩ ?_ | refine Exists.intro false ?_ | (refine And.intro ?_ ?_; focus (simp; done)) | fail)
      · have hlt : i < l.length := by simpa using h
        clear h
        have hl0 : i < (l.map rptE).length := by rw [List.length_map]; exact hlt
        have hget : (l.map rptE)[i]? = some (rptE l[i]) := by simp [hlt]
        have hset := set_self (f := rptE) hlt
        repeat' ((conv => whnf); first | refine And.intro (fun h => h) ?_ | refine dcond_t (by assumption) ?_ | refine dcond_f (by assumption) ?_ | (refine dcond_intro ?_ ?_ <;> intro h) | exact .refl | refine And.intro (by kernel_rfl) ?_ | refine And.intro ⟨fun h => h, fun h => h⟩ ?_ | refine .inl ⟨_, _, DleAll_refl _, c_slices_Clone_int _ (hc _ (List.getElem_mem hlt)), ?_⟩ | refine ⟨_, _, DleAll_refl _, fun _ => c_slices_Clone_int _ (hc _ (List.getElem_mem hlt)), ?_⟩ | refine ⟨_, _, DleAll_refl _, c_slices_Clone_int _ (hc _ (List.getElem_mem hlt)), ?_⟩ | refine ⟨i, And.intro ⟨rfl, hl0⟩ ?_⟩ | refine ⟨rptE l[i], And.intro hget ?_⟩ | refine ⟨rptE l[i], hget, ?_⟩ | refine Exists.intro false ?_ | (refine And.intro ?_ ?_; focus (simp; done)) | fail)
        all_goals (conv => whnf)
        refine ⟨i + 1, hlt, by simp only []; omega, ?_⟩
        conv => whnf
        refine ⟨⟨.refl, .refl, dle_int (wrap_succ (by omega)), trivial⟩, ⟨ole_row ?_, trivial⟩, by rfl⟩
        exact hset
set_option maxHeartbeats 8000000 in
theorem c_mem_cloneAgreement (s : Agr) (hs : SmA s) : Ret Tryz.prog 83 [.agg (agrE s)] (.agg (agrE s)) := by
  have b1 := hs.mem
  have b2 := hs.acut
  have b3 := hs.prop
  have b4 := hs.cho
  have b5 := hs.dec
  have b6 := hs.reps
  have b7 : ∀ b ∈ s.reps, b.cut.length ≤ 1000000 := fun b hb => by have := hs.repc b hb; omega
  have b8 := hs.accs
  have b9 : ∀ b ∈ s.accs, b.cut.length ≤ 1000000 := fun b hb => by have := hs.accc b hb; omega
  have hbl := hs.box
  have hby := byB (n := (s.box.map balE).length) (by simp; omega)
  refine ret_of_body (fn := Tryz.f83) (c := Tryz.f83.body.getD .skip) hm hT (by kernel_rfl) Tryz.func83 (by kernel_rfl) (by kernel_rfl) (by kernel_rfl) (by kernel_rfl) ?_
  repeat' ((conv => whnf); first | refine And.intro (fun h => h) ?_ | refine dcond_t (by assumption) ?_ | refine dcond_f (by assumption) ?_ | (refine dcond_intro ?_ ?_ <;> intro h) | exact .refl | refine And.intro (by kernel_rfl) ?_ | refine And.intro ⟨fun h => h, fun h => h⟩ ?_ | refine .inl ⟨_, _, DleAll_refl _, c_mem_cloneView _ (by omega), ?_⟩ | refine ⟨_, _, DleAll_refl _, fun _ => c_mem_cloneView _ (by omega), ?_⟩ | refine ⟨_, _, DleAll_refl _, c_mem_cloneView _ (by omega), ?_⟩ | refine .inl ⟨_, _, DleAll_refl _, c_slices_Clone_int _ (by omega), ?_⟩ | refine ⟨_, _, DleAll_refl _, fun _ => c_slices_Clone_int _ (by omega), ?_⟩ | refine ⟨_, _, DleAll_refl _, c_slices_Clone_int _ (by omega), ?_⟩ | refine .inl ⟨_, _, DleAll_refl _, c_mem_cloneReports _ (by omega) (by assumption), ?_⟩ | refine ⟨_, _, DleAll_refl _, fun _ => c_mem_cloneReports _ (by omega) (by assumption), ?_⟩ | refine ⟨_, _, DleAll_refl _, c_mem_cloneReports _ (by omega) (by assumption), ?_⟩ | refine Exists.intro false ?_ | (refine And.intro ?_ ?_; focus (simp; done)) | fail)
  all_goals (conv => whnf)
  refine And.intro (by exact hby) ?_
  repeat' ((conv => whnf); first | refine And.intro (fun h => h) ?_ | refine dcond_t (by assumption) ?_ | refine dcond_f (by assumption) ?_ | (refine dcond_intro ?_ ?_ <;> intro h) | exact .refl | refine And.intro (by kernel_rfl) ?_ | refine And.intro ⟨fun h => h, fun h => h⟩ ?_ | refine Exists.intro false ?_ | (refine And.intro ?_ ?_; focus (simp; done)) | fail)
  all_goals (conv => whnf)
  refine ⟨Nat, fun i => ⟨[(1, .lp 0 0), (2, .lp 1 0), (40, i64 s.box.length), (41, i64 i)], [.cells 53 [i64 s.self, i64 s.view.num, .lst 1 (s.view.mem.map intE) false, i64 s.acc.pro, i64 s.acc.rank, .lst 1 (s.acc.cut.map intE) false, .lst 1 (s.prop.map intE) false, .own 7, i64 s.rank, i64 s.phase, .lst 3 (s.reps.map rptE) false, .lst 1 (s.cho.map intE) false, .lst 3 (s.accs.map rptE) false, .lst 1 (s.dec.map intE) false, i64 s.wait], .cells 53 (tinfo tt 53).zero, .dead, .dead, .dead, .dead, .dead, .row 201 2 (s.box.map balE)]⟩, fun i => i ≤ s.box.length, fun i => s.box.length - i, [], ⟨0, Nat.zero_le _, ?_⟩, ?_⟩
  · conv => whnf
    exact ⟨⟨.refl, .refl, dle_int (by simp), .refl, trivial⟩, ⟨.refl, .refl, .refl, .refl, .refl, .refl, .refl, .refl, trivial⟩, by rfl⟩
  · intro i hi
    repeat' ((conv => whnf); first | refine And.intro (fun h => h) ?_ | refine dcond_t (by assumption) ?_ | refine dcond_f (by assumption) ?_ | (refine dcond_intro ?_ ?_ <;> intro h) | exact .refl | refine And.intro (by kernel_rfl) ?_ | refine And.intro ⟨fun h => h, fun h => h⟩ ?_ | refine Exists.intro false ?_ | (refine And.intro ?_ ?_; focus (simp; done)) | fail)
    · have hlt : i < s.box.length := by simpa using h
      clear h
      have hl0 : i < (s.box.map balE).length := by rw [List.length_map]; exact hlt
      have hget : (s.box.map balE)[i]? = some (balE s.box[i]) := by simp [hlt]
      have hset := set_self (f := balE) hlt
      have hbc := hs.boxc _ (List.getElem_mem hlt)
      repeat' ((conv => whnf); first | refine And.intro (fun h => h) ?_ | refine dcond_t (by assumption) ?_ | refine dcond_f (by assumption) ?_ | (refine dcond_intro ?_ ?_ <;> intro h) | exact .refl | refine And.intro (by kernel_rfl) ?_ | refine And.intro ⟨fun h => h, fun h => h⟩ ?_ | refine .inl ⟨_, _, DleAll_refl _, c_slices_Clone_int _ (by omega), ?_⟩ | refine ⟨_, _, DleAll_refl _, fun _ => c_slices_Clone_int _ (by omega), ?_⟩ | refine ⟨_, _, DleAll_refl _, c_slices_Clone_int _ (by omega), ?_⟩ | refine ⟨i, And.intro ⟨rfl, hl0⟩ ?_⟩ | refine ⟨balE s.box[i], And.intro hget ?_⟩ | refine ⟨balE s.box[i], hget, ?_⟩ | refine Exists.intro false ?_ | (refine And.intro ?_ ?_; focus (simp; done)) | fail)
      all_goals (conv => whnf)
      refine ⟨i + 1, hlt, by simp only []; omega, ?_⟩
      conv => whnf
      refine ⟨⟨.refl, .refl, .refl, dle_int (wrap_succ (by omega)), trivial⟩, ⟨.refl, .refl, .refl, .refl, .refl, .refl, .refl, ole_row ?_, trivial⟩, by rfl⟩
      exact hset
end Go.Proofs.YtdcfooeoaoahjaaGreat

set_option maxRecDepth 100000
namespace Go.Proofs.YtdcfooeoaoahjaaGreat
open Go.Lift
set_option maxHeartbeats 8000000 in
theorem c_mem_clone (s : Mem) (hs : SmM s) : Ret Tryz.prog 52 [.agg (memE s)] (.agg (memE s)) := by
  have b1 := hs.cont
  have b2 := hs.first
  have b3 := hs.hist
  have b4 : ∀ c ∈ s.hist, c.length ≤ 1000000 := fun c hc => by have := hs.histc c hc; omega
  have b5 := hs.view
  have b6 := hs.dview
  have b7 := hs.edges
  have b8 := hs.als
  have b9 := hs.dbts
  refine ret_of_body (fn := Tryz.f52) (c := Tryz.f52.body.getD .skip) hm hT (by kernel_rfl) Tryz.func52 (by kernel_rfl) (by kernel_rfl) (by kernel_rfl) (by kernel_rfl) ?_
  repeat' ((conv => whnf); first | refine And.intro (fun h => h) ?_ | refine dcond_t (by assumption) ?_ | refine dcond_f (by assumption) ?_ | (refine dcond_intro ?_ ?_ <;> intro h) | exact .refl | refine And.intro (by kernel_rfl) ?_ | refine And.intro ⟨fun h => h, fun h => h⟩ ?_ | refine .inl ⟨_, _, DleAll_refl _, c_slices_Clone_int _ (by omega), ?_⟩ | refine ⟨_, _, DleAll_refl _, fun _ => c_slices_Clone_int _ (by omega), ?_⟩ | refine ⟨_, _, DleAll_refl _, c_slices_Clone_int _ (by omega), ?_⟩ | refine .inl ⟨_, _, DleAll_refl _, c_mem_cloneCuts _ (by omega) b4, ?_⟩ | refine ⟨_, _, DleAll_refl _, fun _ => c_mem_cloneCuts _ (by omega) b4, ?_⟩ | refine ⟨_, _, DleAll_refl _, c_mem_cloneCuts _ (by omega) b4, ?_⟩ | refine .inl ⟨_, _, DleAll_refl _, c_mem_cloneView _ (by omega), ?_⟩ | refine ⟨_, _, DleAll_refl _, fun _ => c_mem_cloneView _ (by omega), ?_⟩ | refine ⟨_, _, DleAll_refl _, c_mem_cloneView _ (by omega), ?_⟩ | refine .inl ⟨_, _, DleAll_refl _, c_Clone_edg _ (by omega), ?_⟩ | refine ⟨_, _, DleAll_refl _, fun _ => c_Clone_edg _ (by omega), ?_⟩ | refine ⟨_, _, DleAll_refl _, c_Clone_edg _ (by omega), ?_⟩ | refine .inl ⟨_, _, DleAll_refl _, c_Clone_alr _ (by omega), ?_⟩ | refine ⟨_, _, DleAll_refl _, fun _ => c_Clone_alr _ (by omega), ?_⟩ | refine ⟨_, _, DleAll_refl _, c_Clone_alr _ (by omega), ?_⟩ | refine .inl ⟨_, _, DleAll_refl _, c_Clone_dbt _ (by omega), ?_⟩ | refine ⟨_, _, DleAll_refl _, fun _ => c_Clone_dbt _ (by omega), ?_⟩ | refine ⟨_, _, DleAll_refl _, c_Clone_dbt _ (by omega), ?_⟩ | refine .inl ⟨_, _, DleAll_refl _, c_mem_cloneAgreement _ hs.agr, ?_⟩ | refine ⟨_, _, DleAll_refl _, fun _ => c_mem_cloneAgreement _ hs.agr, ?_⟩ | refine ⟨_, _, DleAll_refl _, c_mem_cloneAgreement _ hs.agr, ?_⟩ | refine Exists.intro false ?_ | (refine And.intro ?_ ?_; focus (simp; done)) | fail)
end Go.Proofs.YtdcfooeoaoahjaaGreat

set_option maxRecDepth 100000
namespace Go.Proofs.YtdcfooeoaoahjaaGreat
open Go.Lift
theorem enter_in {s : Mem} {v : View} (h : inB v.mem s.self = true) : enterM s v = { s with view := v, als := [], dbts := [], status := 1, det := (newR v s.self).1, agr := (newA v s.self).1 } := by
  rw [enterM, h]
  rfl
theorem enter_out {s : Mem} {v : View} (h : inB v.mem s.self = false) : enterM s v = { s with view := v, als := [], dbts := [], status := 2, det := det0, agr := agr0 } := by
  rw [enterM, h]
  rfl
set_option maxHeartbeats 8000000 in
theorem m_mem_enter (s : Mem) (v : View) (hv : v.mem.length ≤ 1000) : RetM Tryz.prog 45 [.cells 55 (memE s)] [.lp 0 0, .agg (viewE v)] [true] [.cells 55 (memE (enterM s v))] (.tup []) := by
  have e1 := c_mem_cloneView v (by omega)
  have e2 := c_view_Contains v.mem (Nat.le_trans hv (by decide)) s.self
  have e3 := c_probe_New v (Nat.le_trans hv (by decide)) s.self
  have e4 := c_agreement_New v (by omega) s.self
  by_cases hin : inB v.mem s.self = true
  · rw [enter_in hin]
    generalize newR v s.self = N at *
    generalize newA v s.self = Q at *
    refine retM_of_body (fn := Tryz.f45) (c := Tryz.f45.body.getD .skip) hm hT (by kernel_rfl) Tryz.func45 (by kernel_rfl) (by kernel_rfl) (by kernel_rfl) (by kernel_rfl) (by kernel_rfl) ?_
    repeat' ((conv => whnf); first | refine And.intro (fun h => h) ?_ | refine dcond_t (by assumption) ?_ | refine dcond_f (by assumption) ?_ | (refine dcond_intro ?_ ?_ <;> intro h) | exact .refl | refine And.intro (by kernel_rfl) ?_ | refine And.intro ⟨fun h => h, fun h => h⟩ ?_ | refine .inl ⟨_, _, DleAll_refl _, e1, ?_⟩ | refine ⟨_, _, DleAll_refl _, fun _ => e1, ?_⟩ | refine ⟨_, _, DleAll_refl _, e1, ?_⟩ | refine .inl ⟨_, _, DleAll_refl _, e2, ?_⟩ | refine ⟨_, _, DleAll_refl _, fun _ => e2, ?_⟩ | refine ⟨_, _, DleAll_refl _, e2, ?_⟩ | refine .inl ⟨_, _, DleAll_refl _, e3, ?_⟩ | refine ⟨_, _, DleAll_refl _, fun _ => e3, ?_⟩ | refine ⟨_, _, DleAll_refl _, e3, ?_⟩ | refine .inl ⟨_, _, DleAll_refl _, e4, ?_⟩ | refine ⟨_, _, DleAll_refl _, fun _ => e4, ?_⟩ | refine ⟨_, _, DleAll_refl _, e4, ?_⟩ | refine Exists.intro false ?_ | (refine And.intro ?_ ?_; focus (simp; done)) | fail)
    all_goals (conv => whnf)
    exact ⟨.refl, ⟨ole_cellsA ⟨.refl, .refl, .refl, .refl, .refl, .refl, .refl, .refl, .refl, .refl, .refl, .refl, .nl, .nl, .refl, .refl, .refl, .refl, .refl, .refl, .refl, .refl, .refl, .refl, .refl, .refl, .refl, .refl, .refl, trivial⟩, .refl, trivial⟩, by rfl⟩
  · have hin : inB v.mem s.self = false := by simpa using hin
    rw [enter_out hin]
    refine retM_of_body (fn := Tryz.f45) (c := Tryz.f45.body.getD .skip) hm hT (by kernel_rfl) Tryz.func45 (by kernel_rfl) (by kernel_rfl) (by kernel_rfl) (by kernel_rfl) (by kernel_rfl) ?_
    repeat' ((conv => whnf); first | refine And.intro (fun h => h) ?_ | refine dcond_t (by assumption) ?_ | refine dcond_f (by assumption) ?_ | (refine dcond_intro ?_ ?_ <;> intro h) | exact .refl | refine And.intro (by kernel_rfl) ?_ | refine And.intro ⟨fun h => h, fun h => h⟩ ?_ | refine .inl ⟨_, _, DleAll_refl _, e1, ?_⟩ | refine ⟨_, _, DleAll_refl _, fun _ => e1, ?_⟩ | refine ⟨_, _, DleAll_refl _, e1, ?_⟩ | refine .inl ⟨_, _, DleAll_refl _, e2, ?_⟩ | refine ⟨_, _, DleAll_refl _, fun _ => e2, ?_⟩ | refine ⟨_, _, DleAll_refl _, e2, ?_⟩ | refine .inl ⟨_, _, DleAll_refl _, e3, ?_⟩ | refine ⟨_, _, DleAll_refl _, fun _ => e3, ?_⟩ | refine ⟨_, _, DleAll_refl _, e3, ?_⟩ | refine .inl ⟨_, _, DleAll_refl _, e4, ?_⟩ | refine ⟨_, _, DleAll_refl _, fun _ => e4, ?_⟩ | refine ⟨_, _, DleAll_refl _, e4, ?_⟩ | refine Exists.intro false ?_ | (refine And.intro ?_ ?_; focus (simp; done)) | fail)
    all_goals (conv => whnf)
    exact ⟨.refl, ⟨ole_cellsA ⟨.refl, .refl, .refl, .refl, .refl, .refl, .refl, .refl, .refl, .refl, .nl, .nl, .nl, .nl, .refl, .refl, .nl, .refl, .refl, .nl, .nl, .nl, .refl, .refl, .nl, .nl, .nl, .nl, .refl, trivial⟩, .refl, trivial⟩, by rfl⟩
set_option maxHeartbeats 8000000 in
theorem m_mem_enterC (s : Mem) (v : View) (hv : v.mem.length ≤ 1000) : RetM Tryz.prog 45 [.cells 116 (memE s ++ [.nl])] [.lp 0 0, .agg (viewE v)] [true] [.cells 116 (memE (enterM s v) ++ [.nl])] (.tup []) := by
  have e1 := c_mem_cloneView v (by omega)
  have e2 := c_view_Contains v.mem (Nat.le_trans hv (by decide)) s.self
  have e3 := c_probe_New v (Nat.le_trans hv (by decide)) s.self
  have e4 := c_agreement_New v (by omega) s.self
  by_cases hin : inB v.mem s.self = true
  · rw [enter_in hin]
    generalize newR v s.self = N at *
    generalize newA v s.self = Q at *
    refine retM_of_body (fn := Tryz.f45) (c := Tryz.f45.body.getD .skip) hm hT (by kernel_rfl) Tryz.func45 (by kernel_rfl) (by kernel_rfl) (by kernel_rfl) (by kernel_rfl) (by kernel_rfl) ?_
    repeat' ((conv => whnf); first | refine And.intro (fun h => h) ?_ | refine dcond_t (by assumption) ?_ | refine dcond_f (by assumption) ?_ | (refine dcond_intro ?_ ?_ <;> intro h) | exact .refl | refine And.intro (by kernel_rfl) ?_ | refine And.intro ⟨fun h => h, fun h => h⟩ ?_ | refine .inl ⟨_, _, DleAll_refl _, e1, ?_⟩ | refine ⟨_, _, DleAll_refl _, fun _ => e1, ?_⟩ | refine ⟨_, _, DleAll_refl _, e1, ?_⟩ | refine .inl ⟨_, _, DleAll_refl _, e2, ?_⟩ | refine ⟨_, _, DleAll_refl _, fun _ => e2, ?_⟩ | refine ⟨_, _, DleAll_refl _, e2, ?_⟩ | refine .inl ⟨_, _, DleAll_refl _, e3, ?_⟩ | refine ⟨_, _, DleAll_refl _, fun _ => e3, ?_⟩ | refine ⟨_, _, DleAll_refl _, e3, ?_⟩ | refine .inl ⟨_, _, DleAll_refl _, e4, ?_⟩ | refine ⟨_, _, DleAll_refl _, fun _ => e4, ?_⟩ | refine ⟨_, _, DleAll_refl _, e4, ?_⟩ | refine Exists.intro false ?_ | (refine And.intro ?_ ?_; focus (simp; done)) | fail)
    all_goals (conv => whnf)
    exact ⟨.refl, ⟨ole_cellsA ⟨.refl, .refl, .refl, .refl, .refl, .refl, .refl, .refl, .refl, .refl, .refl, .refl, .nl, .nl, .refl, .refl, .refl, .refl, .refl, .refl, .refl, .refl, .refl, .refl, .refl, .refl, .refl, .refl, .refl, .refl, trivial⟩, .refl, trivial⟩, by rfl⟩
  · have hin : inB v.mem s.self = false := by simpa using hin
    rw [enter_out hin]
    refine retM_of_body (fn := Tryz.f45) (c := Tryz.f45.body.getD .skip) hm hT (by kernel_rfl) Tryz.func45 (by kernel_rfl) (by kernel_rfl) (by kernel_rfl) (by kernel_rfl) (by kernel_rfl) ?_
    repeat' ((conv => whnf); first | refine And.intro (fun h => h) ?_ | refine dcond_t (by assumption) ?_ | refine dcond_f (by assumption) ?_ | (refine dcond_intro ?_ ?_ <;> intro h) | exact .refl | refine And.intro (by kernel_rfl) ?_ | refine And.intro ⟨fun h => h, fun h => h⟩ ?_ | refine .inl ⟨_, _, DleAll_refl _, e1, ?_⟩ | refine ⟨_, _, DleAll_refl _, fun _ => e1, ?_⟩ | refine ⟨_, _, DleAll_refl _, e1, ?_⟩ | refine .inl ⟨_, _, DleAll_refl _, e2, ?_⟩ | refine ⟨_, _, DleAll_refl _, fun _ => e2, ?_⟩ | refine ⟨_, _, DleAll_refl _, e2, ?_⟩ | refine .inl ⟨_, _, DleAll_refl _, e3, ?_⟩ | refine ⟨_, _, DleAll_refl _, fun _ => e3, ?_⟩ | refine ⟨_, _, DleAll_refl _, e3, ?_⟩ | refine .inl ⟨_, _, DleAll_refl _, e4, ?_⟩ | refine ⟨_, _, DleAll_refl _, fun _ => e4, ?_⟩ | refine ⟨_, _, DleAll_refl _, e4, ?_⟩ | refine Exists.intro false ?_ | (refine And.intro ?_ ?_; focus (simp; done)) | fail)
    all_goals (conv => whnf)
    exact ⟨.refl, ⟨ole_cellsA ⟨.refl, .refl, .refl, .refl, .refl, .refl, .refl, .refl, .refl, .refl, .nl, .nl, .nl, .nl, .refl, .refl, .nl, .refl, .refl, .nl, .nl, .nl, .refl, .refl, .nl, .nl, .nl, .nl, .refl, .refl, trivial⟩, .refl, trivial⟩, by rfl⟩
theorem gen_ok {v : View} {self : Int} (h : (!viewB v || !inB v.mem self) = false) : genM v self = (enterM { mem0 with self := self, first := v } v, 0) := by
  rw [genM, h]
  rfl
set_option maxHeartbeats 8000000 in
theorem c_mem_Genesis (v : View) (hv : v.mem.length ≤ 1000) (self : Int) : Ret Tryz.prog 20 [.agg (viewE v), i64 self] (.tup [.agg (memE (genM v self).1), i64 (genM v self).2]) := by
  have e1 := c_view_Valid v (Nat.le_trans hv (by decide))
  have e2 := c_view_Contains v.mem (Nat.le_trans hv (by decide)) self
  have e3 := c_mem_cloneView v (by omega)
  have m1 := m_mem_enter { mem0 with self := self, first := v } v hv
  cases hc : (!viewB v || !inB v.mem self)
  · rw [gen_ok hc]
    generalize enterM { mem0 with self := self, first := v } v = E at *
    refine ret_of_body (fn := Tryz.f20) (c := Tryz.f20.body.getD .skip) hm hT (by kernel_rfl) Tryz.func20 (by kernel_rfl) (by kernel_rfl) (by kernel_rfl) (by kernel_rfl) ?_
    repeat' ((conv => whnf); first | refine And.intro (fun h => h) ?_ | refine dcond_t (by assumption) ?_ | refine dcond_f (by assumption) ?_ | (refine dcond_intro ?_ ?_ <;> intro h) | exact .refl | refine And.intro (by kernel_rfl) ?_ | refine And.intro ⟨fun h => h, fun h => h⟩ ?_ | refine .inl ⟨_, _, DleAll_refl _, e1, ?_⟩ | refine ⟨_, _, DleAll_refl _, fun _ => e1, ?_⟩ | refine ⟨_, _, DleAll_refl _, e1, ?_⟩ | refine .inl ⟨_, _, DleAll_refl _, e2, ?_⟩ | refine ⟨_, _, DleAll_refl _, fun _ => e2, ?_⟩ | refine ⟨_, _, DleAll_refl _, e2, ?_⟩ | refine .inl ⟨_, _, DleAll_refl _, e3, ?_⟩ | refine ⟨_, _, DleAll_refl _, fun _ => e3, ?_⟩ | refine ⟨_, _, DleAll_refl _, e3, ?_⟩ | refine .inr ⟨[1], _, _, _, _, _, m1, by rfl, ⟨ole_cellsA ⟨.refl, .refl, .nl, .refl, .refl, .nl, .refl, .nl, .refl, .refl, .nl, .nl, .nl, .nl, .refl, .refl, .nl, .refl, .refl, .nl, .nl, .nl, .refl, .refl, .nl, .nl, .nl, .nl, .refl, trivial⟩, trivial⟩, ⟨.refl, .refl, trivial⟩, ?_⟩ | refine .inr ⟨[2], _, _, _, _, _, m1, by rfl, ⟨ole_cellsA ⟨.refl, .refl, .nl, .refl, .refl, .nl, .refl, .nl, .refl, .refl, .nl, .nl, .nl, .nl, .refl, .refl, .nl, .refl, .refl, .nl, .nl, .nl, .refl, .refl, .nl, .nl, .nl, .nl, .refl, trivial⟩, trivial⟩, ⟨.refl, .refl, trivial⟩, ?_⟩ | refine .inr ⟨[3], _, _, _, _, _, m1, by rfl, ⟨ole_cellsA ⟨.refl, .refl, .nl, .refl, .refl, .nl, .refl, .nl, .refl, .refl, .nl, .nl, .nl, .nl, .refl, .refl, .nl, .refl, .refl, .nl, .nl, .nl, .refl, .refl, .nl, .nl, .nl, .nl, .refl, trivial⟩, trivial⟩, ⟨.refl, .refl, trivial⟩, ?_⟩ | refine Exists.intro false ?_ | (refine And.intro ?_ ?_; focus (simp; done)) | fail)
  · have hg : genM v self = (mem0, 1) := by
      rw [genM, hc]
      rfl
    rw [hg]
    refine ret_of_body (fn := Tryz.f20) (c := Tryz.f20.body.getD .skip) hm hT (by kernel_rfl) Tryz.func20 (by kernel_rfl) (by kernel_rfl) (by kernel_rfl) (by kernel_rfl) ?_
    repeat' ((conv => whnf); first | refine And.intro (fun h => h) ?_ | refine dcond_t (by assumption) ?_ | refine dcond_f (by assumption) ?_ | (refine dcond_intro ?_ ?_ <;> intro h) | exact .refl | refine And.intro (by kernel_rfl) ?_ | refine And.intro ⟨fun h => h, fun h => h⟩ ?_ | refine .inl ⟨_, _, DleAll_refl _, e1, ?_⟩ | refine ⟨_, _, DleAll_refl _, fun _ => e1, ?_⟩ | refine ⟨_, _, DleAll_refl _, e1, ?_⟩ | refine .inl ⟨_, _, DleAll_refl _, e2, ?_⟩ | refine ⟨_, _, DleAll_refl _, fun _ => e2, ?_⟩ | refine ⟨_, _, DleAll_refl _, e2, ?_⟩ | refine Exists.intro false ?_ | (refine And.intro ?_ ?_; focus (simp; done)) | fail)
    all_goals (conv => whnf)
    exact dle_tupA ⟨dle_aggA ⟨.refl, .refl, .nl, .refl, .nl, .nl, .refl, .nl, .refl, .refl, .nl, .nl, .nl, .nl, .refl, .refl, .nl, .refl, .refl, .nl, .nl, .nl, .refl, .refl, .nl, .nl, .nl, .nl, .refl, trivial⟩, .refl, trivial⟩
set_option maxHeartbeats 8000000 in
theorem c_mem_Joiner (self : Int) (cont : List Int) (hl : cont.length ≤ 1000) : Ret Tryz.prog 21 [i64 self, .lst 1 (cont.map intE) false] (.tup [.agg (memE (joinM self cont).1), i64 (joinM self cont).2]) := by
  have e1 := c_mem_identifier self
  have e2 := c_view_ValidMembers cont (Nat.le_trans hl (by decide))
  have e3 := c_view_Contains cont (Nat.le_trans hl (by decide)) self
  have e4 := c_slices_Clone_int cont (by omega)
  have hd : joinM self cont = bif !idB self || !idsB cont 16 || inB cont self then (mem0, 1) else ({ mem0 with self := self, cont := cont }, 0) := rfl
  rw [hd]
  refine ret_of_body (fn := Tryz.f21) (c := Tryz.f21.body.getD .skip) hm hT (by kernel_rfl) Tryz.func21 (by kernel_rfl) (by kernel_rfl) (by kernel_rfl) (by kernel_rfl) ?_
  repeat' ((conv => whnf); first | refine And.intro (fun h => h) ?_ | refine dcond_t (by assumption) ?_ | refine dcond_f (by assumption) ?_ | (refine dcond_intro ?_ ?_ <;> intro h) | exact .refl | refine And.intro (by kernel_rfl) ?_ | refine And.intro ⟨fun h => h, fun h => h⟩ ?_ | refine .inl ⟨_, _, DleAll_refl _, e1, ?_⟩ | refine ⟨_, _, DleAll_refl _, fun _ => e1, ?_⟩ | refine ⟨_, _, DleAll_refl _, e1, ?_⟩ | refine .inl ⟨_, _, DleAll_refl _, e2, ?_⟩ | refine ⟨_, _, DleAll_refl _, fun _ => e2, ?_⟩ | refine ⟨_, _, DleAll_refl _, e2, ?_⟩ | refine .inl ⟨_, _, DleAll_refl _, e3, ?_⟩ | refine ⟨_, _, DleAll_refl _, fun _ => e3, ?_⟩ | refine ⟨_, _, DleAll_refl _, e3, ?_⟩ | refine .inl ⟨_, _, DleAll_refl _, e4, ?_⟩ | refine ⟨_, _, DleAll_refl _, fun _ => e4, ?_⟩ | refine ⟨_, _, DleAll_refl _, e4, ?_⟩ | refine Exists.intro false ?_ | (refine And.intro ?_ ?_; focus (simp; done)) | fail)
  all_goals (conv => whnf)
  · rw [h]
    exact dle_tupA ⟨dle_aggA ⟨.refl, .refl, .nl, .refl, .nl, .nl, .refl, .nl, .refl, .refl, .nl, .nl, .nl, .nl, .refl, .refl, .nl, .refl, .refl, .nl, .nl, .nl, .refl, .refl, .nl, .nl, .nl, .nl, .refl, trivial⟩, .refl, trivial⟩
  · rw [h]
    exact dle_tupA ⟨dle_aggA ⟨.refl, .refl, .refl, .refl, .nl, .nl, .refl, .nl, .refl, .refl, .nl, .nl, .nl, .nl, .refl, .refl, .nl, .refl, .refl, .nl, .nl, .nl, .refl, .refl, .nl, .nl, .nl, .nl, .refl, trivial⟩, .refl, trivial⟩
end Go.Proofs.YtdcfooeoaoahjaaGreat

set_option maxRecDepth 100000
namespace Go.Proofs.YtdcfooeoaoahjaaGreat
open Go.Lift
theorem mergeL_len : ∀ b a : List Int, (mergeL a b).length = a.length + b.length
  | [], a => by simp [mergeL]
  | x :: b, a => by
    have ih := mergeL_len b (a.dropWhile fun y => !decide (x < y))
    have e : (a.takeWhile fun y => !decide (x < y)).length + (a.dropWhile fun y => !decide (x < y)).length = a.length := by
      rw [← List.length_append, List.takeWhile_append_dropWhile]
    rw [mergeL, List.length_append, List.length_cons, ih, List.length_cons]
    omega
theorem next_len (v : View) (c : List Int) : (nextR v c).1.mem.length ≤ 16 := by
  unfold nextR
  cases hc : (!viewB v || !idsB c 32)
  · rw [cond_false]
    cases h2 : decide (2 * ((stayL v c).length : Int) ≤ (v.mem.length : Int))
    · rw [cond_false]
      cases h3 : (decide (v.num = 1099511627776) || decide (16 < ((stayL v c).length : Int) + ((comeL v c).length : Int)))
      · rw [cond_false]
        simp only [Bool.or_eq_false_iff, decide_eq_false_iff_not] at h3
        simp only [mergeL_len]
        omega
      · simp
    · simp
  · simp
theorem chV_len {first : View} (h : viewB first = true) (cuts : List (List Int)) : ∀ i, (chV first cuts i).mem.length ≤ 16
  | 0 => (view_len h).2
  | i + 1 => next_len _ _
theorem chAll_len (first : View) (cuts : List (List Int)) : ∀ i, (chAll first cuts i).length = i + 1
  | 0 => rfl
  | i + 1 => by rw [chAll, List.length_append, chAll_len first cuts i]; rfl
theorem chAll_get (first : View) (cuts : List (List Int)) : ∀ n i, i ≤ n → (chAll first cuts n)[i]? = some (chV first cuts i)
  | 0, i, h => by
    have : i = 0 := by omega
    subst this
    rfl
  | n + 1, i, h => by
    rw [chAll]
    by_cases hi : i ≤ n
    · rw [List.getElem?_append_left (by rw [chAll_len]; omega)]
      exact chAll_get first cuts n i hi
    · have : i = n + 1 := by omega
      subst this
      rw [List.getElem?_append_right (by rw [chAll_len]; omega), chAll_len, Nat.sub_self]
      rfl
theorem c_mem_chain (first : View) (hf : first.mem.length ≤ 1000) (cuts : List (List Int)) (hl : cuts.length ≤ 100000) (hc : ∀ c ∈ cuts, c.length ≤ 100000) : Ret Tryz.prog 36 [.agg (viewE first), .lst 1 (cuts.map cutE) false] (.tup [.lst 2 ((chainR first cuts).1.map viewE) false, .v (.bool (chainR first cuts).2)]) := by
  have e1 := c_view_Valid first (Nat.le_trans hf (by decide))
  have hd : chainR first cuts = bif !viewB first || decide (400 < (cuts.length : Int)) then ([], false) else bif allB (chOk first cuts) cuts.length then (chAll first cuts cuts.length, true) else ([], false) := rfl
  refine ret_of_body (fn := Tryz.f36) (c := Tryz.f36.body.getD .skip) hm hT (by kernel_rfl) Tryz.func36 (by kernel_rfl) (by kernel_rfl) (by kernel_rfl) (by kernel_rfl) ?_
  repeat' ((conv => whnf); first | refine And.intro (fun h => h) ?_ | refine dcond_t (by assumption) ?_ | refine dcond_f (by assumption) ?_ | (refine dcond_intro ?_ ?_ <;> intro h) | exact .refl | refine And.intro (by kernel_rfl) ?_ | refine And.intro ⟨fun h => h, fun h => h⟩ ?_ | refine .inl ⟨_, _, DleAll_refl _, e1, ?_⟩ | refine ⟨_, _, DleAll_refl _, fun _ => e1, ?_⟩ | refine ⟨_, _, DleAll_refl _, e1, ?_⟩ | refine .inl ⟨_, _, DleAll_refl _, c_mem_cloneView _ (by omega), ?_⟩ | refine ⟨_, _, DleAll_refl _, fun _ => c_mem_cloneView _ (by omega), ?_⟩ | refine ⟨_, _, DleAll_refl _, c_mem_cloneView _ (by omega), ?_⟩ | refine Exists.intro true ?_ | refine Exists.intro false ?_ | (refine And.intro ?_ ?_; focus (simp; done)) | fail)
  all_goals (conv => whnf)
  · rw [List.length_map] at h
    rw [hd, h]
    exact dle_tupA ⟨.nl, .refl, trivial⟩
  · rw [List.length_map] at h
    rw [h, cond_false] at hd
    rw [hd]
    have hv : viewB first = true := by
      simp only [Bool.or_eq_false_iff, Bool.not_eq_false'] at h
      exact h.1
    clear h
    have h16 := chV_len hv cuts
    have hal := chAll_len first cuts
    have hag := chAll_get first cuts
    have hok : ∀ i, chOk first cuts i = decide ((nextR (chV first cuts i) (cuts.getD i [])).2 = 0) := fun i => rfl
    have hnx : ∀ i, chV first cuts (i + 1) = (nextR (chV first cuts i) (cuts.getD i [])).1 := fun i => rfl
    have has : ∀ i, chAll first cuts (i + 1) = chAll first cuts i ++ [chV first cuts (i + 1)] := fun i => rfl
    have h0 : chAll first cuts 0 = [first] := rfl
    generalize chV first cuts = V at *
    generalize chOk first cuts = K at *
    generalize chAll first cuts = A at *
    refine ⟨Nat, fun i => ⟨[(6, .own 1), (22, .lst 1 (cuts.map cutE) false), (23, i64 cuts.length), (24, i64 i)], [.cells 24 (viewE first), .row 24 2 ((A i).map viewE)]⟩, fun i => i ≤ cuts.length ∧ ∀ j, j < i → K j = true, fun i => cuts.length - i, [], ⟨0, ⟨Nat.zero_le _, by omega⟩, ?_⟩, ?_⟩
    · conv => whnf
      exact ⟨⟨.refl, .refl, dle_int (by simp), .refl, trivial⟩, ⟨.refl, ole_row (by rw [h0]; rfl), trivial⟩, by rfl⟩
    · intro i ⟨hi, hall⟩
      have hai := hal i
      repeat' ((conv => whnf); first | refine And.intro (fun h => h) ?_ | refine dcond_t (by assumption) ?_ | refine dcond_f (by assumption) ?_ | (refine dcond_intro ?_ ?_ <;> intro h) | exact .refl | refine And.intro (by kernel_rfl) ?_ | refine And.intro ⟨fun h => h, fun h => h⟩ ?_ | refine Exists.intro false ?_ | (refine And.intro ?_ ?_; focus (simp; done)) | fail)
      · have hlt : i < cuts.length := by simpa using h
        clear h
        have hg : cuts.getD i [] = cuts[i] := by simp [hlt]
        have hk := hok i
        have hn := hnx i
        rw [hg] at hk hn
        have e2 := c_view_Next (V i) (by have := h16 i; omega) cuts[i] (by have := hc _ (List.getElem_mem hlt); omega)
        have hlen : IntKind.i64.wrap ((((A i).map viewE).length : Int) - 1) = ((i : Nat) : Int) := by
          rw [List.length_map, hal i, wrap_i64 (by omega) (by omega)]
          omega
        have hl0 : i < ((A i).map viewE).length := by rw [List.length_map]; omega
        have hget : ((A i).map viewE)[i]? = some (viewE (V i)) := by
          rw [List.getElem?_map, hag i i (Nat.le_refl _)]
          rfl
        repeat' ((conv => whnf); first | refine And.intro (fun h => h) ?_ | refine dcond_t (by assumption) ?_ | refine dcond_f (by assumption) ?_ | (refine dcond_intro ?_ ?_ <;> intro h) | exact .refl | refine And.intro (by kernel_rfl) ?_ | refine And.intro ⟨fun h => h, fun h => h⟩ ?_ | refine ⟨_, _, And.intro ⟨rfl, get_map hlt⟩ ?_⟩ | refine ⟨i, And.intro ⟨hlen, hl0⟩ ?_⟩ | refine ⟨viewE (V i), And.intro hget ?_⟩ | refine .inl ⟨_, _, DleAll_refl _, e2, ?_⟩ | refine ⟨_, _, DleAll_refl _, fun _ => e2, ?_⟩ | refine ⟨_, _, DleAll_refl _, e2, ?_⟩ | refine And.intro (fitsV (by simp <;> omega)) ?_ | refine Exists.intro false ?_ | (refine And.intro ?_ ?_; focus (simp; done)) | fail)
        all_goals (conv => whnf)
        all_goals (conv => whnf)
        · have hf9 : K i = false := by rw [hk]; simpa using h
          rw [allB_false hlt hf9]
          exact dle_tupA ⟨.nl, .refl, trivial⟩
        · have hk9 : K i = true := by rw [hk]; simpa using h
          refine ⟨i + 1, ⟨hlt, fun j hj => ?_⟩, by simp only []; omega, ?_⟩
          · by_cases hji : j = i
            · subst hji
              exact hk9
            · exact hall j (by omega)
          · conv => whnf
            refine ⟨⟨.refl, .refl, .refl, dle_int (wrap_succ (by omega)), trivial⟩, ⟨.refl, ole_row ?_, trivial⟩, by rfl⟩
            rw [has, List.map_append, hn]
            rfl
      · have : i = cuts.length := by
          simp at h
          omega
        subst this
        clear h
        rw [allB_true.2 (fun j hj => hall j hj), cond_true]
        repeat' ((conv => whnf); first | refine And.intro (fun h => h) ?_ | refine dcond_t (by assumption) ?_ | refine dcond_f (by assumption) ?_ | (refine dcond_intro ?_ ?_ <;> intro h) | exact .refl | refine And.intro (by kernel_rfl) ?_ | refine And.intro ⟨fun h => h, fun h => h⟩ ?_ | refine Exists.intro false ?_ | (refine And.intro ?_ ?_; focus (simp; done)) | fail)
end Go.Proofs.YtdcfooeoaoahjaaGreat

set_option maxRecDepth 100000
namespace Go.Proofs.YtdcfooeoaoahjaaGreat
open Go.Lift
def dbt0 : Dbt := ⟨0, 0⟩
def dbOk (s : Mem) (i : Nat) : Bool := !(decide ((s.dbts.getD i dbt0).subj ≤ (0 :: s.dbts.map (·.subj)).getD i 0) || decide ((s.dbts.getD i dbt0).subj = s.self) || !inB (susR s.view s.als false) (s.dbts.getD i dbt0).subj || decide ((s.dbts.getD i dbt0).ticks < 1) || decide (6 < (s.dbts.getD i dbt0).ticks))
def dbtsB (s : Mem) : Bool := allB (dbOk s) s.dbts.length
theorem c_mem_validDoubts (s : Mem) (hs : SmM s) : Ret Tryz.prog 65 [.agg (memE s)] (.v (.bool (dbtsB s))) := by
  have e1 := c_Unstable s.view (Nat.le_trans hs.view (by decide)) s.als (by have := hs.als; omega)
  have hul : (susR s.view s.als false).length ≤ 1000 := Nat.le_trans (sus_len _ _ _) hs.als
  have hdb := hs.dbts
  have hok : ∀ i, dbOk s i = !(decide ((s.dbts.getD i dbt0).subj ≤ (0 :: s.dbts.map (·.subj)).getD i 0) || decide ((s.dbts.getD i dbt0).subj = s.self) || !inB (susR s.view s.als false) (s.dbts.getD i dbt0).subj || decide ((s.dbts.getD i dbt0).ticks < 1) || decide (6 < (s.dbts.getD i dbt0).ticks)) := fun _ => rfl
  generalize susR s.view s.als false = U at *
  unfold dbtsB
  generalize dbOk s = K at *
  obtain ⟨F, hF⟩ : ∃ F : Nat → Int, ∀ i, F i = (0 :: s.dbts.map (·.subj)).getD i 0 := ⟨_, fun _ => rfl⟩
  refine ret_of_body (fn := Tryz.f65) (c := Tryz.f65.body.getD .skip) hm hT (by kernel_rfl) Tryz.func65 (by kernel_rfl) (by kernel_rfl) (by kernel_rfl) (by kernel_rfl) ?_
  repeat' ((conv => whnf); first | refine And.intro (fun h => h) ?_ | refine dcond_t (by assumption) ?_ | refine dcond_f (by assumption) ?_ | (refine dcond_intro ?_ ?_ <;> intro h) | exact .refl | refine And.intro (by kernel_rfl) ?_ | refine And.intro ⟨fun h => h, fun h => h⟩ ?_ | refine .inl ⟨_, _, DleAll_refl _, e1, ?_⟩ | refine ⟨_, _, DleAll_refl _, fun _ => e1, ?_⟩ | refine ⟨_, _, DleAll_refl _, e1, ?_⟩ | refine Exists.intro false ?_ | (refine And.intro ?_ ?_; focus (simp; done)) | fail)
  all_goals (conv => whnf)
  refine ⟨Nat, fun i => ⟨[(1, .lp 0 0), (3, .lst 1 (U.map intE) false), (4, i64 (F i)), (13, .lst 2 (s.dbts.map dbtE) false), (14, i64 s.dbts.length), (15, i64 i)], [.cells 55 (memE s)]⟩, fun i => i ≤ s.dbts.length ∧ ∀ j, j < i → K j = true, fun i => s.dbts.length - i, [], ⟨0, ⟨Nat.zero_le _, by omega⟩, ?_⟩, ?_⟩
  · conv => whnf
    exact ⟨⟨.refl, .refl, dle_int (by rw [hF]; rfl), .refl, dle_int (by simp), .refl, trivial⟩, ⟨.refl, trivial⟩, by rfl⟩
  · intro i ⟨hi, hall⟩
    repeat' ((conv => whnf); first | refine And.intro (fun h => h) ?_ | refine dcond_t (by assumption) ?_ | refine dcond_f (by assumption) ?_ | (refine dcond_intro ?_ ?_ <;> intro h) | exact .refl | refine And.intro (by kernel_rfl) ?_ | refine And.intro ⟨fun h => h, fun h => h⟩ ?_ | refine Exists.intro false ?_ | (refine And.intro ?_ ?_; focus (simp; done)) | fail)
    · have hlt : i < s.dbts.length := by simpa using h
      clear h
      have hg : s.dbts.getD i dbt0 = s.dbts[i] := by simp [hlt]
      have hk := hok i
      have hf1 : F (i + 1) = s.dbts[i].subj := by
        rw [hF]
        simp [hlt]
      rw [hg, ← hF] at hk
      have e2 := c_slices_Contains_int U (Nat.le_trans hul (by decide)) s.dbts[i].subj
      repeat' ((conv => whnf); first | refine And.intro (fun h => h) ?_ | refine dcond_t (by assumption) ?_ | refine dcond_f (by assumption) ?_ | (refine dcond_intro ?_ ?_ <;> intro h) | exact .refl | refine And.intro (by kernel_rfl) ?_ | refine And.intro ⟨fun h => h, fun h => h⟩ ?_ | refine ⟨_, _, And.intro ⟨rfl, get_map hlt⟩ ?_⟩ | refine .inl ⟨_, _, DleAll_refl _, e2, ?_⟩ | refine ⟨_, _, DleAll_refl _, fun _ => e2, ?_⟩ | refine ⟨_, _, DleAll_refl _, e2, ?_⟩ | refine Exists.intro false ?_ | (refine And.intro ?_ ?_; focus (simp; done)) | fail)
      all_goals (conv => whnf)
      · have hf9 : K i = false := by rw [hk, h]; rfl
        rw [allB_false hlt hf9]
        exact .refl
      · have hk9 : K i = true := by rw [hk, h]; rfl
        refine ⟨i + 1, ⟨hlt, fun j hj => ?_⟩, by simp only []; omega, ?_⟩
        · by_cases hji : j = i
          · subst hji
            exact hk9
          · exact hall j (by omega)
        · conv => whnf
          exact ⟨⟨.refl, .refl, dle_int hf1.symm, .refl, .refl, dle_int (wrap_succ (by omega)), trivial⟩, ⟨.refl, trivial⟩, by rfl⟩
    · have : i = s.dbts.length := by
        simp at h
        omega
      subst this
      clear h
      rw [allB_true.2 (fun j hj => hall j hj)]
      repeat' ((conv => whnf); first | refine And.intro (fun h => h) ?_ | refine dcond_t (by assumption) ?_ | refine dcond_f (by assumption) ?_ | (refine dcond_intro ?_ ?_ <;> intro h) | exact .refl | refine And.intro (by kernel_rfl) ?_ | refine And.intro ⟨fun h => h, fun h => h⟩ ?_ | refine Exists.intro false ?_ | (refine And.intro ?_ ?_; focus (simp; done)) | fail)
def emptyA (a : Agr) : Bool := decide (a.self = 0) && sameV a.view view0 && decide (a.acc.pro = 0) && decide (a.acc.rank = 0) && decide ((a.acc.cut.length : Int) = 0) && decide ((a.prop.length : Int) = 0) && decide ((a.box.length : Int) = 0) && decide (a.rank = 0) && decide (a.phase = 0) && decide ((a.reps.length : Int) = 0) && decide ((a.cho.length : Int) = 0) && decide ((a.accs.length : Int) = 0) && decide ((a.dec.length : Int) = 0) && decide (a.wait = 0)
def emptyM (s : Mem) : Bool := emptyA s.agr && decide (s.det.self = 0) && sameV s.det.view view0 && decide ((s.det.edges.length : Int) = 0) && decide ((s.als.length : Int) = 0) && decide ((s.dbts.length : Int) = 0)
theorem c_mem_empty (s : Mem) (hs : SmM s) : Ret Tryz.prog 35 [.agg (memE s)] (.v (.bool (emptyM s))) := by
  have e1 := c_mem_sameView s.agr.view view0 (Nat.le_trans hs.agr.mem (by decide))
  have e2 := c_mem_sameView s.det.view view0 (Nat.le_trans hs.dview (by decide))
  refine ret_of_body (fn := Tryz.f35) (c := Tryz.f35.body.getD .skip) hm hT (by kernel_rfl) Tryz.func35 (by kernel_rfl) (by kernel_rfl) (by kernel_rfl) (by kernel_rfl) ?_
  repeat' ((conv => whnf); first | refine And.intro (fun h => h) ?_ | refine dcond_t (by assumption) ?_ | refine dcond_f (by assumption) ?_ | (refine dcond_intro ?_ ?_ <;> intro h) | exact .refl | refine And.intro (by kernel_rfl) ?_ | refine And.intro ⟨fun h => h, fun h => h⟩ ?_ | refine ⟨[.agg (viewE s.agr.view), .agg (viewE view0)], _, ⟨.refl, dle_aggA ⟨.refl, .nl, trivial⟩, trivial⟩, fun _ => e1, ?_⟩ | refine ⟨[.agg (viewE s.det.view), .agg (viewE view0)], _, ⟨.refl, dle_aggA ⟨.refl, .nl, trivial⟩, trivial⟩, fun _ => e2, ?_⟩ | refine Exists.intro false ?_ | (refine And.intro ?_ ?_; focus (simp; done)) | fail)
  all_goals (conv => whnf)
  all_goals refine dle_bool ?_
  all_goals simp only [List.length_map]
  all_goals rfl
def activeB (s : Mem) : Bool := inB s.view.mem s.self && detB s.det && decide (s.det.self = s.self) && sameV s.det.view s.view && agrB s.agr && decide (s.agr.self = s.self) && sameV s.agr.view s.view && decide ((s.agr.dec.length : Int) = 0) && valS s.view s.als && dbtsB s
theorem c_mem_validActive (s : Mem) (hs : SmM s) : Ret Tryz.prog 37 [.agg (memE s)] (.v (.bool (activeB s))) := by
  have e1 := c_view_Contains s.view.mem (Nat.le_trans hs.view (by decide)) s.self
  have e2 := c_probe_Valid s.det (Nat.le_trans hs.dview (by decide)) (Nat.le_trans hs.edges (by decide))
  have e3 := c_mem_sameView s.det.view s.view (Nat.le_trans hs.dview (by decide))
  have e4 := c_agreement_Valid s.agr hs.agr
  have e5 := c_mem_sameView s.agr.view s.view (Nat.le_trans hs.agr.mem (by decide))
  have e6 := c_alerts_Valid s.view (Nat.le_trans hs.view (by decide)) s.als (Nat.le_trans hs.als (by decide))
  have e7 := c_mem_validDoubts s hs
  refine ret_of_body (fn := Tryz.f37) (c := Tryz.f37.body.getD .skip) hm hT (by kernel_rfl) Tryz.func37 (by kernel_rfl) (by kernel_rfl) (by kernel_rfl) (by kernel_rfl) ?_
  repeat' ((conv => whnf); first | refine And.intro (fun h => h) ?_ | refine dcond_t (by assumption) ?_ | refine dcond_f (by assumption) ?_ | (refine dcond_intro ?_ ?_ <;> intro h) | exact .refl | refine And.intro (by kernel_rfl) ?_ | refine And.intro ⟨fun h => h, fun h => h⟩ ?_ | refine .inl ⟨_, _, DleAll_refl _, e1, ?_⟩ | refine ⟨_, _, DleAll_refl _, fun _ => e1, ?_⟩ | refine ⟨_, _, DleAll_refl _, e1, ?_⟩ | refine .inl ⟨_, _, DleAll_refl _, e2, ?_⟩ | refine ⟨_, _, DleAll_refl _, fun _ => e2, ?_⟩ | refine ⟨_, _, DleAll_refl _, e2, ?_⟩ | refine .inl ⟨_, _, DleAll_refl _, e3, ?_⟩ | refine ⟨_, _, DleAll_refl _, fun _ => e3, ?_⟩ | refine ⟨_, _, DleAll_refl _, e3, ?_⟩ | refine .inl ⟨_, _, DleAll_refl _, e4, ?_⟩ | refine ⟨_, _, DleAll_refl _, fun _ => e4, ?_⟩ | refine ⟨_, _, DleAll_refl _, e4, ?_⟩ | refine .inl ⟨_, _, DleAll_refl _, e5, ?_⟩ | refine ⟨_, _, DleAll_refl _, fun _ => e5, ?_⟩ | refine ⟨_, _, DleAll_refl _, e5, ?_⟩ | refine .inl ⟨_, _, DleAll_refl _, e6, ?_⟩ | refine ⟨_, _, DleAll_refl _, fun _ => e6, ?_⟩ | refine ⟨_, _, DleAll_refl _, e6, ?_⟩ | refine .inl ⟨_, _, DleAll_refl _, e7, ?_⟩ | refine ⟨_, _, DleAll_refl _, fun _ => e7, ?_⟩ | refine ⟨_, _, DleAll_refl _, e7, ?_⟩ | refine Exists.intro false ?_ | (refine And.intro ?_ ?_; focus (simp; done)) | fail)
  all_goals (conv => whnf)
  all_goals refine dle_bool ?_
  all_goals simp only [List.length_map]
  all_goals rfl
def validM (s : Mem) : Bool :=
  bif !idB s.self then false
  else bif decide (s.status = 0) then idsB s.cont 16 && !inB s.cont s.self && sameV s.first view0 && decide ((s.hist.length : Int) = 0) && sameV s.view view0 && emptyM s
  else bif !(chainR s.first s.hist).2 || decide (0 < (s.cont.length : Int)) || !sameV (chV s.first s.hist s.hist.length) s.view then false
  else bif decide (s.status = 1) then activeB s
  else bif decide (s.status = 2) then !inB s.view.mem s.self && emptyM s
  else false
theorem chain_ok {first : View} {cuts : List (List Int)} (h : (chainR first cuts).2 = true) : viewB first = true ∧ cuts.length ≤ 400 ∧ (∀ i, i < cuts.length → chOk first cuts i = true) ∧ chainR first cuts = (chAll first cuts cuts.length, true) := by
  have hd : chainR first cuts = bif !viewB first || decide (400 < (cuts.length : Int)) then ([], false) else bif allB (chOk first cuts) cuts.length then (chAll first cuts cuts.length, true) else ([], false) := rfl
  cases hc : (!viewB first || decide (400 < (cuts.length : Int)))
  · rw [hc, cond_false] at hd
    cases ha : allB (chOk first cuts) cuts.length
    · rw [ha, cond_false] at hd
      rw [hd] at h
      exact absurd h (by simp)
    · rw [ha, cond_true] at hd
      simp only [Bool.or_eq_false_iff, Bool.not_eq_false', decide_eq_false_iff_not] at hc
      exact ⟨hc.1, by omega, allB_true.1 ha, hd⟩
  · rw [hc, cond_true] at hd
    rw [hd] at h
    exact absurd h (by simp)
theorem c_mem_Valid (s : Mem) (hs : SmM s) : Ret Tryz.prog 14 [.agg (memE s)] (.v (.bool (validM s))) := by
  have e1 := c_mem_identifier s.self
  have e2 := c_view_ValidMembers s.cont (Nat.le_trans hs.cont (by decide))
  have e3 := c_view_Contains s.cont (Nat.le_trans hs.cont (by decide)) s.self
  have e4 := c_mem_sameView s.first view0 (Nat.le_trans hs.first (by decide))
  have e5 := c_mem_sameView s.view view0 (Nat.le_trans hs.view (by decide))
  have e6 := c_mem_empty s hs
  have e7 := c_mem_chain s.first hs.first s.hist (by have := hs.hist; omega) (fun c hc => by have := hs.histc c hc; omega)
  have e8 := c_mem_validActive s hs
  have e9 := c_view_Contains s.view.mem (Nat.le_trans hs.view (by decide)) s.self
  have hd : validM s = bif !idB s.self then false
    else bif decide (s.status = 0) then idsB s.cont 16 && !inB s.cont s.self && sameV s.first view0 && decide ((s.hist.length : Int) = 0) && sameV s.view view0 && emptyM s
    else bif !(chainR s.first s.hist).2 || decide (0 < (s.cont.length : Int)) || !sameV (chV s.first s.hist s.hist.length) s.view then false
    else bif decide (s.status = 1) then activeB s
    else bif decide (s.status = 2) then !inB s.view.mem s.self && emptyM s
    else false := rfl
  have hch := chain_ok (first := s.first) (cuts := s.hist)
  have hcg := chAll_get s.first s.hist s.hist.length s.hist.length (Nat.le_refl _)
  have hcl := chAll_len s.first s.hist s.hist.length
  have hvl : viewB s.first = true → (chV s.first s.hist s.hist.length).mem.length ≤ 16 := fun h => chV_len h _ _
  generalize chV s.first s.hist s.hist.length = L at *
  generalize chAll s.first s.hist s.hist.length = A at *
  generalize chainR s.first s.hist = R at *
  generalize emptyM s = em at *
  generalize activeB s = ac at *
  have hlen : R.2 = true → IntKind.i64.wrap (((R.1.map viewE).length : Int) - 1) = ((s.hist.length : Nat) : Int) ∧ (R.1.map viewE)[s.hist.length]? = some (viewE L) := fun h => by
    obtain ⟨a1, a2, _, a4⟩ := hch h
    rw [a4]
    simp only []
    rw [List.length_map, hcl, wrap_i64 (by omega) (by omega)]
    refine ⟨by omega, ?_⟩
    rw [List.getElem?_map, hcg]
    rfl
  have hR : ∀ {b : Bool}, (!(!R.2 || b)) = true → R.2 = true := fun h => by
    simp only [Bool.not_or, Bool.not_not, Bool.and_eq_true] at h
    exact h.1
  refine ret_of_body (fn := Tryz.f14) (c := Tryz.f14.body.getD .skip) hm hT (by kernel_rfl) Tryz.func14 (by kernel_rfl) (by kernel_rfl) (by kernel_rfl) (by kernel_rfl) ?_
  repeat' ((conv => whnf); first | refine And.intro (fun h => h) ?_ | refine dcond_t (by assumption) ?_ | refine dcond_f (by assumption) ?_ | (refine dcond_intro ?_ ?_ <;> intro h) | exact .refl | refine And.intro (by kernel_rfl) ?_ | refine And.intro ⟨fun h => h, fun h => h⟩ ?_ | refine .inl ⟨_, _, DleAll_refl _, e1, ?_⟩ | refine ⟨_, _, DleAll_refl _, fun _ => e1, ?_⟩ | refine ⟨_, _, DleAll_refl _, e1, ?_⟩ | refine .inl ⟨_, _, DleAll_refl _, e2, ?_⟩ | refine ⟨_, _, DleAll_refl _, fun _ => e2, ?_⟩ | refine ⟨_, _, DleAll_refl _, e2, ?_⟩ | refine .inl ⟨_, _, DleAll_refl _, e3, ?_⟩ | refine ⟨_, _, DleAll_refl _, fun _ => e3, ?_⟩ | refine ⟨_, _, DleAll_refl _, e3, ?_⟩ | refine ⟨[.agg (viewE s.first), .agg (viewE view0)], _, ⟨.refl, dle_aggA ⟨.refl, .nl, trivial⟩, trivial⟩, fun _ => e4, ?_⟩ | refine ⟨[.agg (viewE s.view), .agg (viewE view0)], _, ⟨.refl, dle_aggA ⟨.refl, .nl, trivial⟩, trivial⟩, fun _ => e5, ?_⟩ | refine .inl ⟨_, _, DleAll_refl _, e6, ?_⟩ | refine ⟨_, _, DleAll_refl _, fun _ => e6, ?_⟩ | refine ⟨_, _, DleAll_refl _, e6, ?_⟩ | refine .inl ⟨_, _, DleAll_refl _, e7, ?_⟩ | refine ⟨_, _, DleAll_refl _, fun _ => e7, ?_⟩ | refine ⟨_, _, DleAll_refl _, e7, ?_⟩ | refine .inl ⟨_, _, DleAll_refl _, e8, ?_⟩ | refine ⟨_, _, DleAll_refl _, fun _ => e8, ?_⟩ | refine ⟨_, _, DleAll_refl _, e8, ?_⟩ | refine .inl ⟨_, _, DleAll_refl _, e9, ?_⟩ | refine ⟨_, _, DleAll_refl _, fun _ => e9, ?_⟩ | refine ⟨_, _, DleAll_refl _, e9, ?_⟩ | refine ⟨s.hist.length, viewE L, And.intro ⟨⟨fun h => h, fun h => h⟩, fun hg => hlen (hR hg)⟩ ?_⟩ | refine ⟨_, _, DleAll_refl _, fun hg => c_mem_sameView L s.view (Nat.le_trans (hvl (hch (hR hg)).1) (by decide)), ?_⟩ | refine Exists.intro false ?_ | (refine And.intro ?_ ?_; focus (simp; done)) | fail)
  all_goals (conv => whnf)
  all_goals clear e1 e2 e3 e4 e5 e6 e7 e8 e9 hch hlen hcg hcl hvl hR
  all_goals refine dle_bool ?_
  all_goals (try simp only [List.length_map] at *)
  all_goals rw [hd]
  all_goals simp only [*, cond_true, cond_false]
def viewsM (s : Mem) : List View := bif !validM s || decide (s.status = 0) then [] else (chainR s.first s.hist).1
theorem c_mem_Views (s : Mem) (hs : SmM s) : Ret Tryz.prog 25 [.agg (memE s)] (.lst 2 ((viewsM s).map viewE) false) := by
  have e1 := c_mem_Valid s hs
  have e7 := c_mem_chain s.first hs.first s.hist (by have := hs.hist; omega) (fun c hc => by have := hs.histc c hc; omega)
  have hd : viewsM s = bif !validM s || decide (s.status = 0) then [] else (chainR s.first s.hist).1 := rfl
  generalize chainR s.first s.hist = R at *
  generalize validM s = va at *
  refine ret_of_body (fn := Tryz.f25) (c := Tryz.f25.body.getD .skip) hm hT (by kernel_rfl) Tryz.func25 (by kernel_rfl) (by kernel_rfl) (by kernel_rfl) (by kernel_rfl) ?_
  repeat' ((conv => whnf); first | refine And.intro (fun h => h) ?_ | refine dcond_t (by assumption) ?_ | refine dcond_f (by assumption) ?_ | (refine dcond_intro ?_ ?_ <;> intro h) | exact .refl | refine And.intro (by kernel_rfl) ?_ | refine And.intro ⟨fun h => h, fun h => h⟩ ?_ | refine .inl ⟨_, _, DleAll_refl _, e1, ?_⟩ | refine ⟨_, _, DleAll_refl _, fun _ => e1, ?_⟩ | refine ⟨_, _, DleAll_refl _, e1, ?_⟩ | refine .inl ⟨_, _, DleAll_refl _, e7, ?_⟩ | refine ⟨_, _, DleAll_refl _, fun _ => e7, ?_⟩ | refine ⟨_, _, DleAll_refl _, e7, ?_⟩ | refine Exists.intro false ?_ | (refine And.intro ?_ ?_; focus (simp; done)) | fail)
  all_goals (conv => whnf)
  all_goals rw [hd, h]
  · exact .nl
  · exact .refl
end Go.Proofs.YtdcfooeoaoahjaaGreat

set_option maxRecDepth 100000
namespace Go.Proofs.YtdcfooeoaoahjaaGreat
open Go.Lift
def cutsB (l : List (List Int)) : List Nat := l.flatMap intsB
def histB (first : View) (cuts : List (List Int)) : List Nat := vwB first ++ (leb cuts.length ++ cutsB cuts)
def OkCut (c : List Int) : Prop := c.length ≤ 32 ∧ ∀ v ∈ c, -1 ≤ v ∧ v ≤ 1099511627776
theorem cut_bytes {c : List Int} (h : OkCut c) : (intsB c).length ≤ 330 := by
  have h1 := intsT_len c
  have h2 : (leb c.length).length ≤ 10 := leb_len 9 _
  have := h.1
  unfold intsB
  rw [List.length_append]
  omega
theorem cuts_bytes : ∀ {l : List (List Int)}, (∀ c ∈ l, OkCut c) → (cutsB l).length ≤ 330 * l.length
  | [], _ => by simp [cutsB]
  | c :: l, h => by
    have h1 := cut_bytes (h c (by simp))
    have h2 := cuts_bytes (l := l) (fun c hc => h c (by simp [hc]))
    have e : cutsB (c :: l) = intsB c ++ cutsB l := rfl
    rw [e, List.length_append, List.length_cons]
    omega
theorem cuts_drop {l : List (List Int)} {i : Nat} (h : i < l.length) : cutsB (l.drop i) = intsB l[i] ++ cutsB (l.drop (i + 1)) := by
  rw [List.drop_eq_getElem_cons h]
  rfl
theorem m_rd_history (first : View) (cuts : List (List Int)) (hv : viewB first = true) (hn : cuts.length ≤ 400) (hc : ∀ c ∈ cuts, OkCut c) (hok : (chainR first cuts).2 = true) :
    RetM Tryz.prog 78 [.cells 135 (rdE (histB first cuts))] [.lp 0 0] [true] [.cells 135 (rdE [])] (.tup [.agg (viewE first), .lst 1 (cuts.map cutE) false]) := by
  have h16 := view_len hv
  have hvl := vw_len first hv
  have hcb := cuts_bytes hc
  have hll : (leb cuts.length).length ≤ 10 := leb_len 9 _
  have e1 := c_view_Decode first hv (leb cuts.length ++ cutsB cuts) (by rw [List.length_append]; omega)
  have e2 := m_rd_take (histB first cuts) (vwB first).length (by unfold histB; rw [List.length_append]; omega)
  have e3 := m_rd_number cuts.length (by omega) (cutsB cuts) (by omega)
  have e4 := c_mem_chain first (by omega) cuts (by omega) (fun c h => by have := (hc c h).1; omega)
  have hd : (histB first cuts).drop (vwB first).length = leb cuts.length ++ cutsB cuts := by unfold histB; rw [List.drop_left]
  rw [hd] at e2
  rw [hok] at e4
  unfold histB at *
  refine retM_of_body (fn := Tryz.f78) (c := Tryz.f78.body.getD .skip) hm hT (by kernel_rfl) Tryz.func78 (by kernel_rfl) (by kernel_rfl) (by kernel_rfl) (by kernel_rfl) (by kernel_rfl) ?_
  repeat' ((conv => whnf); first | refine And.intro (fun h => h) ?_ | refine dcond_t (by assumption) ?_ | refine dcond_f (by assumption) ?_ | (refine dcond_intro ?_ ?_ <;> intro h) | exact .refl | refine And.intro (by kernel_rfl) ?_ | refine And.intro ⟨fun h => h, fun h => h⟩ ?_ | refine .inl ⟨_, _, DleAll_refl _, e1, ?_⟩ | refine ⟨_, _, DleAll_refl _, fun _ => e1, ?_⟩ | refine ⟨_, _, DleAll_refl _, e1, ?_⟩ | refine .inr ⟨[0], _, _, _, _, _, e2, by rfl, ⟨.refl, trivial⟩, ⟨.refl, .refl, .refl, trivial⟩, ?_⟩ | refine .inr ⟨[0], _, _, _, _, _, e3, by rfl, ⟨.refl, trivial⟩, ⟨.refl, trivial⟩, ?_⟩ | refine Exists.intro false ?_ | (refine And.intro ?_ ?_; focus (simp; done)) | fail)
  all_goals (conv => whnf)
  refine ⟨Nat, fun i => ⟨[(0, .lp 0 0), (2, .lp 2 0), (4, .lp 3 0), (7, .own 4), (8, i64 ((cuts.length : Int) - i))], [.cells 135 (rdE (cutsB (cuts.drop i))), .gh [.lp 0 0], .cells 24 (viewE view0), .cells 24 (viewE first), .row 22 1 ((cuts.take i).map cutE)]⟩, fun i => i ≤ cuts.length, fun i => cuts.length - i, [.slot 7 22 1], ⟨0, Nat.zero_le _, ?_⟩, ?_⟩
  · conv => whnf
    refine ⟨⟨.refl, .refl, .refl, .refl, dle_int (by simp), trivial⟩, ⟨.refl, .refl, ole_cellsA ⟨.refl, .nl, trivial⟩, .refl, .refl, trivial⟩, by rfl⟩
  · intro i hi
    repeat' ((conv => whnf); first | refine And.intro (fun h => h) ?_ | refine dcond_t (by assumption) ?_ | refine dcond_f (by assumption) ?_ | (refine dcond_intro ?_ ?_ <;> intro h) | exact .refl | refine And.intro (by kernel_rfl) ?_ | refine And.intro ⟨fun h => h, fun h => h⟩ ?_ | refine Exists.intro false ?_ | (refine And.intro ?_ ?_; focus (simp; done)) | fail)
    · have hlt : i < cuts.length := by
        simp at h
        omega
      clear h
      have ho := hc _ (List.getElem_mem hlt)
      have hb2 := cuts_bytes (l := cuts.drop (i + 1)) (fun c h => hc c (List.mem_of_mem_drop h))
      rw [List.length_drop] at hb2
      have e5 := m_rd_cut cuts[i] ho.1 ho.2 (cutsB (cuts.drop (i + 1))) (by omega)
      rw [← cuts_drop hlt] at e5
      repeat' ((conv => whnf); first | refine And.intro (fun h => h) ?_ | refine dcond_t (by assumption) ?_ | refine dcond_f (by assumption) ?_ | (refine dcond_intro ?_ ?_ <;> intro h) | exact .refl | refine And.intro (by kernel_rfl) ?_ | refine And.intro ⟨fun h => h, fun h => h⟩ ?_ | refine .inr ⟨[0], _, _, _, _, _, e5, by rfl, ⟨.refl, trivial⟩, ⟨.refl, trivial⟩, ?_⟩ | refine And.intro (fitsC (by simp <;> omega)) ?_ | refine Exists.intro false ?_ | (refine And.intro ?_ ?_; focus (simp; done)) | fail)
      all_goals (conv => whnf)
      refine ⟨i + 1, hlt, by simp only []; omega, ?_⟩
      conv => whnf
      refine ⟨⟨.refl, .refl, .refl, .refl, dle_int (by rw [wrap_i64 (by omega) (by omega)]; omega), trivial⟩, ⟨.refl, .refl, .refl, .refl, ole_row ?_, trivial⟩, by rfl⟩
      rw [List.take_succ_eq_append_getElem hlt, List.map_append]
      rfl
    · have : i = cuts.length := by
        simp at h
        omega
      subst this
      clear h
      rw [List.take_length, List.drop_length]
      repeat' ((conv => whnf); first | refine And.intro (fun h => h) ?_ | refine dcond_t (by assumption) ?_ | refine dcond_f (by assumption) ?_ | (refine dcond_intro ?_ ?_ <;> intro h) | exact .refl | refine And.intro (by kernel_rfl) ?_ | refine And.intro ⟨fun h => h, fun h => h⟩ ?_ | refine .inl ⟨_, _, DleAll_refl _, e4, ?_⟩ | refine ⟨_, _, DleAll_refl _, fun _ => e4, ?_⟩ | refine ⟨_, _, DleAll_refl _, e4, ?_⟩ | refine Exists.intro false ?_ | (refine And.intro ?_ ?_; focus (simp; done)) | fail)
      all_goals (conv => whnf)
      exact ⟨.refl, ⟨.refl, .refl, trivial⟩, by rfl⟩
structure Frm where
  kind : Int
  num : Int
  set : List Alr
  agr : Msg
  first : View
  cuts : List (List Int)
def frmE (m : Frm) : List DV := [i64 m.kind, i64 m.num, .lst 4 (m.set.map alE) false, i64 m.agr.kind, i64 m.agr.view, i64 m.agr.src, i64 m.agr.rank, i64 m.agr.last, .lst 1 (m.agr.cut.map intE) false, i64 m.first.num, .lst 1 (m.first.mem.map intE) false, .lst 1 (m.cuts.map cutE) false]
def msg0 : Msg := ⟨0, 0, 0, 0, 0, []⟩
def hbF (num : Int) : Frm := ⟨1, num, [], msg0, view0, []⟩
def hiF (first : View) (cuts : List (List Int)) : Frm := ⟨4, 0, [], msg0, first, cuts⟩
def hbW (num : Int) : List Nat := sealF 1 (leb num.toNat)
def hiW (first : View) (cuts : List (List Int)) : List Nat := sealF 4 (histB first cuts)
theorem c_mem_read_hb (s : Mem) (num : Int) (h1 : 0 ≤ num) (h2 : num ≤ 1099511627776) : Ret Tryz.prog 51 [.agg (memE s), .lst 1 ((hbW num).map byteI) false] (.tup [.agg (frmE (hbF num)), .v (.bool true)]) := by
  have hll : (leb num.toNat).length ≤ 10 := leb_len 9 _
  have e1 := c_Open 1 (by omega) (by omega) (leb num.toNat) (by omega)
  have e2 := m_rd_number num.toNat (by omega) [] (by simp)
  rw [List.append_nil] at e2
  have hn : ((num.toNat : Nat) : Int) = num := by omega
  rw [hn] at e2
  have hgd : (!decide ((0 : Int) = 0) || !decide (((sealF 1 (leb num.toNat)).length : Int) = (((sealF 1 (leb num.toNat)).map byteI).length : Int))) = false := by rw [List.length_map]; simp
  unfold hbW
  generalize sealF 1 (leb num.toNat) = W at *
  refine ret_of_body (fn := Tryz.f51) (c := Tryz.f51.body.getD .skip) hm hT (by kernel_rfl) Tryz.func51 (by kernel_rfl) (by kernel_rfl) (by kernel_rfl) (by kernel_rfl) ?_
  repeat' ((conv => whnf); first | refine And.intro (fun h => h) ?_ | refine dcond_t (by assumption) ?_ | refine dcond_f (by assumption) ?_ | (refine dcond_intro ?_ ?_ <;> intro h) | exact .refl | refine And.intro (by kernel_rfl) ?_ | refine And.intro ⟨fun h => h, fun h => h⟩ ?_ | refine .inl ⟨_, _, DleAll_refl _, e1, ?_⟩ | refine ⟨_, _, DleAll_refl _, fun _ => e1, ?_⟩ | refine ⟨_, _, DleAll_refl _, e1, ?_⟩ | refine dcond_f hgd ?_ | refine .inr ⟨[2], _, _, _, _, _, e2, by rfl, ⟨.refl, trivial⟩, ⟨.refl, trivial⟩, ?_⟩ | refine .inr ⟨[3], _, _, _, _, _, e2, by rfl, ⟨.refl, trivial⟩, ⟨.refl, trivial⟩, ?_⟩ | refine .inr ⟨[4], _, _, _, _, _, e2, by rfl, ⟨.refl, trivial⟩, ⟨.refl, trivial⟩, ?_⟩ | refine Exists.intro false ?_ | (refine And.intro ?_ ?_; focus (simp; done)) | fail)
  all_goals (conv => whnf)
  exact dle_tupA ⟨dle_aggA ⟨.refl, .refl, .nl, .refl, .refl, .refl, .refl, .refl, .nl, .refl, .nl, .nl, trivial⟩, dle_bool rfl, trivial⟩
theorem hist_len {first : View} {cuts : List (List Int)} (hv : viewB first = true) (hn : cuts.length ≤ 400) (hc : ∀ c ∈ cuts, OkCut c) : (histB first cuts).length ≤ 200000 := by
  have hvl := vw_len first hv
  have hcb := cuts_bytes hc
  have hll : (leb cuts.length).length ≤ 10 := leb_len 9 _
  unfold histB
  rw [List.length_append, List.length_append]
  omega
theorem c_mem_read_hi (s : Mem) (first : View) (cuts : List (List Int)) (hv : viewB first = true) (hn : cuts.length ≤ 400) (hc : ∀ c ∈ cuts, OkCut c) (hok : (chainR first cuts).2 = true) : Ret Tryz.prog 51 [.agg (memE s), .lst 1 ((hiW first cuts).map byteI) false] (.tup [.agg (frmE (hiF first cuts)), .v (.bool true)]) := by
  have hhl := hist_len hv hn hc
  have e1 := c_Open 4 (by omega) (by omega) (histB first cuts) (by omega)
  have e2 := m_rd_history first cuts hv hn hc hok
  have hgd : (!decide ((0 : Int) = 0) || !decide (((sealF 4 (histB first cuts)).length : Int) = (((sealF 4 (histB first cuts)).map byteI).length : Int))) = false := by rw [List.length_map]; simp
  unfold hiW
  generalize sealF 4 (histB first cuts) = W at *
  refine ret_of_body (fn := Tryz.f51) (c := Tryz.f51.body.getD .skip) hm hT (by kernel_rfl) Tryz.func51 (by kernel_rfl) (by kernel_rfl) (by kernel_rfl) (by kernel_rfl) ?_
  repeat' ((conv => whnf); first | refine And.intro (fun h => h) ?_ | refine dcond_t (by assumption) ?_ | refine dcond_f (by assumption) ?_ | (refine dcond_intro ?_ ?_ <;> intro h) | exact .refl | refine And.intro (by kernel_rfl) ?_ | refine And.intro ⟨fun h => h, fun h => h⟩ ?_ | refine .inl ⟨_, _, DleAll_refl _, e1, ?_⟩ | refine ⟨_, _, DleAll_refl _, fun _ => e1, ?_⟩ | refine ⟨_, _, DleAll_refl _, e1, ?_⟩ | refine dcond_f hgd ?_ | refine .inr ⟨[2], _, _, _, _, _, e2, by rfl, ⟨.refl, trivial⟩, ⟨.refl, trivial⟩, ?_⟩ | refine .inr ⟨[3], _, _, _, _, _, e2, by rfl, ⟨.refl, trivial⟩, ⟨.refl, trivial⟩, ?_⟩ | refine .inr ⟨[4], _, _, _, _, _, e2, by rfl, ⟨.refl, trivial⟩, ⟨.refl, trivial⟩, ?_⟩ | refine Exists.intro false ?_ | (refine And.intro ?_ ?_; focus (simp; done)) | fail)
  all_goals (conv => whnf)
  exact dle_tupA ⟨dle_aggA ⟨.refl, .refl, .nl, .refl, .refl, .refl, .refl, .refl, .nl, .refl, .refl, .refl, trivial⟩, dle_bool rfl, trivial⟩
end Go.Proofs.YtdcfooeoaoahjaaGreat

set_option maxRecDepth 100000
namespace Go.Proofs.YtdcfooeoaoahjaaGreat
open Go.Lift
structure Pk where
  to : Int
  frame : List Nat
def pkE (p : Pk) : List DV := [i64 p.to, .lst 1 (p.frame.map byteI) false]
theorem fitsK {n : Nat} (h : n ≤ 2000000) : fitsIn tt 121 n := by
  have e : (tinfo tt 121).bytes = 32 := by kernel_rfl
  refine ⟨?_, ?_⟩
  · rw [e]; omega
  · simp only [maxLen]; omega
theorem m_mem_send_own (s : Mem) (ps : List Pk) (hps : ps.length ≤ 100000) (to : Int) (k : Nat) (hk1 : 1 ≤ k) (hk : k ≤ 255) (b : List Nat) (hb : b.length ≤ 800000) :
    RetM Tryz.prog 55 [.cells 116 (memE s ++ [.own 1]), .row 121 2 (ps.map pkE)] [.lp 0 0, i64 to, i64 k, .lst 1 (b.map byteI) false] [true, false] [.cells 116 (memE s ++ [.own 1]), .row 121 2 ((ps ++ [Pk.mk to (sealF k b)]).map pkE), .dead] (.tup []) := by
  have e1 := c_Seal k hk1 hk b hb
  generalize sealF k b = W at *
  refine retM_of_body (fn := Tryz.f55) (c := Tryz.f55.body.getD .skip) hm hT (by kernel_rfl) Tryz.func55 (by kernel_rfl) (by kernel_rfl) (by kernel_rfl) (by kernel_rfl) (by kernel_rfl) ?_
  repeat' ((conv => whnf); first | refine And.intro (fun h => h) ?_ | refine dcond_t (by assumption) ?_ | refine dcond_f (by assumption) ?_ | (refine dcond_intro ?_ ?_ <;> intro h) | exact .refl | refine And.intro (by kernel_rfl) ?_ | refine And.intro ⟨fun h => h, fun h => h⟩ ?_ | refine .inl ⟨_, _, DleAll_refl _, e1, ?_⟩ | refine ⟨_, _, DleAll_refl _, fun _ => e1, ?_⟩ | refine ⟨_, _, DleAll_refl _, e1, ?_⟩ | refine And.intro (fitsK (by simp <;> omega)) ?_ | refine Exists.intro false ?_ | (refine And.intro ?_ ?_; focus (simp; done)) | fail)
  all_goals (conv => whnf)
  refine ⟨.refl, ⟨.refl, ole_row ?_, gh2, trivial⟩, by rfl⟩
  rw [List.map_append]
  rfl
theorem c_mem_settle0 (s : Mem) (hd : s.agr.dec = []) : Ret Tryz.prog 90 [.ip (memE s ++ [.nl])] (.v (.bool false)) := by
  have h0 : decide (((s.agr.dec.map intE).length : Int) = 0) = true := by rw [hd]; rfl
  refine ret_of_body (fn := Tryz.f90) (c := Tryz.f90.body.getD .skip) hm hT (by kernel_rfl) Tryz.func90 (by kernel_rfl) (by kernel_rfl) (by kernel_rfl) (by kernel_rfl) ?_
  repeat' ((conv => whnf); first | refine And.intro (fun h => h) ?_ | refine dcond_t (by assumption) ?_ | refine dcond_f (by assumption) ?_ | (refine dcond_intro ?_ ?_ <;> intro h) | exact .refl | refine And.intro (by kernel_rfl) ?_ | refine And.intro ⟨fun h => h, fun h => h⟩ ?_ | refine dcond_t h0 ?_ | refine Exists.intro false ?_ | (refine And.intro ?_ ?_; focus (simp; done)) | fail)
theorem c_IndexFunc0 (U : List Int) : Ret Tryz.prog 200 [.lst 2 (([] : List Dbt).map dbtE) false, .fn (.func 157) [.ip [.lst 1 (U.map intE) false]]] (i64 (-1)) := by
  refine ret_of_body (fn := Tryz.f200) (c := Tryz.f200.body.getD .skip) hm hT (by kernel_rfl) Tryz.func200 (by kernel_rfl) (by kernel_rfl) (by kernel_rfl) (by kernel_rfl) ?_
  repeat' ((conv => whnf); first | refine And.intro (fun h => h) ?_ | refine dcond_t (by assumption) ?_ | refine dcond_f (by assumption) ?_ | (refine dcond_intro ?_ ?_ <;> intro h) | exact .refl | refine And.intro (by kernel_rfl) ?_ | refine And.intro ⟨fun h => h, fun h => h⟩ ?_ | refine Exists.intro false ?_ | (refine And.intro ?_ ?_; focus (simp; done)) | fail)
  all_goals (conv => whnf)
  refine ⟨Nat, fun i => ⟨[(0, .lst 2 (([] : List Dbt).map dbtE) false), (1, .fn (.func 157) [.ip [.lst 1 (U.map intE) false]]), (7, i64 0), (8, i64 i)], []⟩, fun i => i = 0, fun i => 0, [], ⟨0, rfl, ?_⟩, ?_⟩
  · conv => whnf
    exact ⟨⟨.refl, .refl, .refl, .refl, trivial⟩, trivial, by rfl⟩
  · intro i hi
    subst hi
    repeat' ((conv => whnf); first | refine And.intro (fun h => h) ?_ | refine dcond_t (by assumption) ?_ | refine dcond_f (by assumption) ?_ | (refine dcond_intro ?_ ?_ <;> intro h) | exact .refl | refine And.intro (by kernel_rfl) ?_ | refine And.intro ⟨fun h => h, fun h => h⟩ ?_ | refine Exists.intro false ?_ | (refine And.intro ?_ ?_; focus (simp; done)) | fail)
theorem c_DeleteFunc0 (U : List Int) : Ret Tryz.prog 156 [.lst 2 (([] : List Dbt).map dbtE) false, .fn (.func 157) [.ip [.lst 1 (U.map intE) false]]] (.lst 2 (([] : List Dbt).map dbtE) false) := by
  have e1 := c_IndexFunc0 U
  refine ret_of_body (fn := Tryz.f156) (c := Tryz.f156.body.getD .skip) hm hT (by kernel_rfl) Tryz.func156 (by kernel_rfl) (by kernel_rfl) (by kernel_rfl) (by kernel_rfl) ?_
  repeat' ((conv => whnf); first | refine And.intro (fun h => h) ?_ | refine dcond_t (by assumption) ?_ | refine dcond_f (by assumption) ?_ | (refine dcond_intro ?_ ?_ <;> intro h) | exact .refl | refine And.intro (by kernel_rfl) ?_ | refine And.intro ⟨fun h => h, fun h => h⟩ ?_ | refine .inl ⟨_, _, DleAll_refl _, e1, ?_⟩ | refine ⟨_, _, DleAll_refl _, fun _ => e1, ?_⟩ | refine ⟨_, _, DleAll_refl _, e1, ?_⟩ | refine Exists.intro false ?_ | (refine And.intro ?_ ?_; focus (simp; done)) | fail)
theorem m_mem_settleDoubts0 (s : Mem) (hs : SmM s) (hd : s.dbts = []) : RetM Tryz.prog 91 [.cells 116 (memE s ++ [.nl])] [.lp 0 0] [true] [.cells 116 (memE s ++ [.nl])] (.tup []) := by
  have e1 := c_Unstable s.view (Nat.le_trans hs.view (by decide)) s.als (by have := hs.als; omega)
  have hdm : s.dbts.map dbtE = ([] : List Dbt).map dbtE := by rw [hd]
  generalize susR s.view s.als false = U at *
  have e2 := c_DeleteFunc0 U
  rw [← hdm] at e2
  refine retM_of_body (fn := Tryz.f91) (c := Tryz.f91.body.getD .skip) hm hT (by kernel_rfl) Tryz.func91 (by kernel_rfl) (by kernel_rfl) (by kernel_rfl) (by kernel_rfl) (by kernel_rfl) ?_
  repeat' ((conv => whnf); first | refine And.intro (fun h => h) ?_ | refine dcond_t (by assumption) ?_ | refine dcond_f (by assumption) ?_ | (refine dcond_intro ?_ ?_ <;> intro h) | exact .refl | refine And.intro (by kernel_rfl) ?_ | refine And.intro ⟨fun h => h, fun h => h⟩ ?_ | refine .inl ⟨_, _, DleAll_refl _, e1, ?_⟩ | refine ⟨_, _, DleAll_refl _, fun _ => e1, ?_⟩ | refine ⟨_, _, DleAll_refl _, e1, ?_⟩ | refine .inl ⟨_, _, DleAll_refl _, e2, ?_⟩ | refine ⟨_, _, DleAll_refl _, fun _ => e2, ?_⟩ | refine ⟨_, _, DleAll_refl _, e2, ?_⟩ | refine Exists.intro false ?_ | (refine And.intro ?_ ?_; focus (simp; done)) | fail)
  all_goals (conv => whnf)
  exact ⟨.refl, ⟨.refl, .refl, trivial⟩, by rfl⟩
theorem m_mem_renewDoubts0 (s : Mem) (hs : SmM s) (hd : s.dbts = []) (hU : susR s.view s.als false = []) : RetM Tryz.prog 95 [.cells 116 (memE s ++ [.nl])] [.lp 0 0] [true] [.cells 116 (memE s ++ [.nl])] (.tup []) := by
  have e1 := c_Unstable s.view (Nat.le_trans hs.view (by decide)) s.als (by have := hs.als; omega)
  rw [hU] at e1
  have e2 := m_mem_settleDoubts0 s hs hd
  obtain ⟨self, status, cont, first, hist, view, det, als, dbts, agr⟩ := s
  simp only at hd
  subst hd
  refine retM_of_body (fn := Tryz.f95) (c := Tryz.f95.body.getD .skip) hm hT (by kernel_rfl) Tryz.func95 (by kernel_rfl) (by kernel_rfl) (by kernel_rfl) (by kernel_rfl) (by kernel_rfl) ?_
  repeat' ((conv => whnf); first | refine And.intro (fun h => h) ?_ | refine dcond_t (by assumption) ?_ | refine dcond_f (by assumption) ?_ | (refine dcond_intro ?_ ?_ <;> intro h) | exact .refl | refine And.intro (by kernel_rfl) ?_ | refine And.intro ⟨fun h => h, fun h => h⟩ ?_ | refine .inl ⟨_, _, DleAll_refl _, e1, ?_⟩ | refine ⟨_, _, DleAll_refl _, fun _ => e1, ?_⟩ | refine ⟨_, _, DleAll_refl _, e1, ?_⟩ | refine Exists.intro false ?_ | (refine And.intro ?_ ?_; focus (simp; done)) | fail)
  all_goals (conv => whnf)
  refine ⟨Nat, fun i => ⟨[(0, .lp 0 0), (2, .nl), (3, .nl), (22, .lst 1 (([] : List Int).map intE) false), (23, i64 0), (24, i64 i)], [.cells 116 (memE ⟨self, status, cont, first, hist, view, det, als, [], agr⟩ ++ [.nl]), .gh [.lp 0 0]]⟩, fun i => i = 0, fun i => 0, [], ⟨0, rfl, ?_⟩, ?_⟩
  · conv => whnf
    exact ⟨⟨.refl, .refl, .refl, .refl, .refl, .refl, trivial⟩, ⟨.refl, .refl, trivial⟩, by rfl⟩
  · intro i hi
    subst hi
    repeat' ((conv => whnf); first | refine And.intro (fun h => h) ?_ | refine dcond_t (by assumption) ?_ | refine dcond_f (by assumption) ?_ | (refine dcond_intro ?_ ?_ <;> intro h) | exact .refl | refine And.intro (by kernel_rfl) ?_ | refine And.intro ⟨fun h => h, fun h => h⟩ ?_ | refine Exists.intro false ?_ | (refine And.intro ?_ ?_; focus (simp; done)) | fail)
    all_goals (conv => whnf)
    refine ⟨Nat, fun i => ⟨[(0, .lp 0 0), (78, .nl), (79, i64 0), (80, i64 i)], [.cells 116 (memE ⟨self, status, cont, first, hist, view, det, als, [], agr⟩ ++ [.nl]), .gh [.lp 0 0]]⟩, fun i => i = 0, fun i => 0, [], ⟨0, rfl, ?_⟩, ?_⟩
    · conv => whnf
      exact ⟨⟨.refl, .refl, .refl, .refl, trivial⟩, ⟨ole_cellsA ⟨.refl, .refl, .refl, .refl, .refl, .refl, .refl, .refl, .refl, .refl, .refl, .refl, .refl, .nl, .refl, .refl, .refl, .refl, .refl, .refl, .refl, .refl, .refl, .refl, .refl, .refl, .refl, .refl, .refl, .refl, trivial⟩, .refl, trivial⟩, by rfl⟩
    · intro i hi
      subst hi
      repeat' ((conv => whnf); first | refine And.intro (fun h => h) ?_ | refine dcond_t (by assumption) ?_ | refine dcond_f (by assumption) ?_ | (refine dcond_intro ?_ ?_ <;> intro h) | exact .refl | refine And.intro (by kernel_rfl) ?_ | refine And.intro ⟨fun h => h, fun h => h⟩ ?_ | refine .inr ⟨[0], _, _, _, _, _, e2, by rfl, ⟨.refl, trivial⟩, ⟨.refl, trivial⟩, ?_⟩ | refine Exists.intro false ?_ | (refine And.intro ?_ ?_; focus (simp; done)) | fail)
      all_goals (conv => whnf)
      exact ⟨.refl, ⟨.refl, .refl, trivial⟩, by rfl⟩
theorem m_mem_sendAgree0 (s : Mem) : RetM Tryz.prog 89 [.cells 116 (memE s ++ [.nl])] [.lp 0 0, .lst 7 (([] : List Pkt).map pktE) false] [true] [.cells 116 (memE s ++ [.nl])] (.tup []) := by
  refine retM_of_body (fn := Tryz.f89) (c := Tryz.f89.body.getD .skip) hm hT (by kernel_rfl) Tryz.func89 (by kernel_rfl) (by kernel_rfl) (by kernel_rfl) (by kernel_rfl) (by kernel_rfl) ?_
  repeat' ((conv => whnf); first | refine And.intro (fun h => h) ?_ | refine dcond_t (by assumption) ?_ | refine dcond_f (by assumption) ?_ | (refine dcond_intro ?_ ?_ <;> intro h) | exact .refl | refine And.intro (by kernel_rfl) ?_ | refine And.intro ⟨fun h => h, fun h => h⟩ ?_ | refine Exists.intro false ?_ | (refine And.intro ?_ ?_; focus (simp; done)) | fail)
  all_goals (conv => whnf)
  refine ⟨Nat, fun i => ⟨[(0, .lp 0 0), (13, .lst 7 (([] : List Pkt).map pktE) false), (14, i64 0), (15, i64 i)], [.cells 116 (memE s ++ [.nl]), .gh [.lp 0 0]]⟩, fun i => i = 0, fun i => 0, [], ⟨0, rfl, ?_⟩, ?_⟩
  · conv => whnf
    exact ⟨⟨.refl, .refl, .refl, .refl, trivial⟩, ⟨.refl, .refl, trivial⟩, by rfl⟩
  · intro i hi
    subst hi
    repeat' ((conv => whnf); first | refine And.intro (fun h => h) ?_ | refine dcond_t (by assumption) ?_ | refine dcond_f (by assumption) ?_ | (refine dcond_intro ?_ ?_ <;> intro h) | exact .refl | refine And.intro (by kernel_rfl) ?_ | refine And.intro ⟨fun h => h, fun h => h⟩ ?_ | refine Exists.intro false ?_ | (refine And.intro ?_ ?_; focus (simp; done)) | fail)
    all_goals (conv => whnf)
    exact ⟨.refl, ⟨.refl, .refl, trivial⟩, by rfl⟩
end Go.Proofs.YtdcfooeoaoahjaaGreat

set_option maxRecDepth 100000
namespace Go.Proofs.YtdcfooeoaoahjaaGreat
open Go.Lift
theorem m_overlay_Observers (ms : List Int) (hl : ms.length ≤ maxLen) (x : Int) : RetM Tryz.prog 100 [] [.lst 1 (ms.map intE) false, i64 x] [] [.row 3 1 ((obsR ms x).map intE)] (.own 0) := by
  have e1 := c_view_ValidMembers ms hl
  have e2 := c_overlay_identifier x
  have ea : idsB ms 16 = true → ∀ r : Nat, r < 5 → Ret Tryz.prog 169 [.lst 1 (ms.map intE) false, .fn (.func 170) [.ip [u64 (posR r x)], .ip [i64 r]]] (i64 (prvR ms x r)) := fun hv r hr => c_MinFunc ms hv r hr x
  have ep : ∀ r : Nat, Ret Tryz.prog 168 [i64 r, i64 x] (u64 (posR r x)) := fun r => c_Position r x
  have ho : obsR ms x = bif !idsB ms 16 || !(decide (1 ≤ x) && decide (x ≤ 1000)) || (decide ((ms.length : Int) = 1) && decide (ms.getD 0 0 = x)) then [] else (List.range 5).map (prvR ms x) := rfl
  have hg : ∀ c : Bool, (c && decide (((ms.map intE).length : Int) = 1)) = true → (ms.map intE)[0]? = some (intE (ms.getD 0 0)) := fun c h => by
    simp only [Bool.and_eq_true, decide_eq_true_eq, List.length_map] at h
    have : 0 < ms.length := by omega
    simp [this]
  generalize prvR ms x = A at ea ho
  generalize obsR ms x = R at ho ⊢
  generalize idsB ms 16 = b1 at *
  generalize (decide (1 ≤ x) && decide (x ≤ 1000)) = b2 at *
  generalize hP : (fun r : Nat => posR r x) = P
  have hP : ∀ r : Nat, posR r x = P r := fun r => by rw [← hP]
  simp only [hP] at ea ep
  clear hP
  refine retM_of_bodyA (fn := Tryz.f100) (c := Tryz.f100.body.getD .skip) hm hT (by kernel_rfl) Tryz.func100 (by kernel_rfl) (by kernel_rfl) (by kernel_rfl) (by kernel_rfl) (by kernel_rfl) ?_
  repeat' ((conv => whnf); first | refine And.intro (fun h => h) ?_ | refine dcond_t (by assumption) ?_ | refine dcond_f (by assumption) ?_ | (refine dcond_intro ?_ ?_ <;> intro h) | exact .refl | refine And.intro (by kernel_rfl) ?_ | refine And.intro ⟨fun h => h, fun h => h⟩ ?_ | refine .inl ⟨_, _, DleAll_refl _, e1, ?_⟩ | refine ⟨_, _, DleAll_refl _, fun _ => e1, ?_⟩ | refine ⟨_, _, DleAll_refl _, e1, ?_⟩ | refine .inl ⟨_, _, DleAll_refl _, e2, ?_⟩ | refine ⟨_, _, DleAll_refl _, fun _ => e2, ?_⟩ | refine ⟨_, _, DleAll_refl _, e2, ?_⟩ | refine ⟨0, intE (ms.getD 0 0), And.intro ⟨fun h => h, fun h => ⟨rfl, hg _ h⟩⟩ ?_⟩ | refine Exists.intro false ?_ | (refine And.intro ?_ ?_; focus (simp; done)) | fail)
  all_goals (conv => whnf)
  · rw [List.length_map] at h
    rw [ho, h]
    refine ⟨[.slot 4 3 1], ?_⟩
    conv => whnf
    exact ⟨.refl, ⟨.refl, trivial⟩, by rfl⟩
  · rw [List.length_map] at h
    rw [h, cond_false] at ho
    have hb : b1 = true := by
      simp only [Bool.or_eq_false_iff, Bool.not_eq_false'] at h
      exact h.1.1
    have ea := ea hb
    clear h hg
    subst ho
    refine ⟨Nat, fun i => ⟨[(0, .lst 1 (ms.map intE) false), (1, i64 x), (5, .own 0), (28, i64 i)], [.row 3 1 (((List.range i).map A).map intE)]⟩, fun i => i ≤ 5, fun i => 5 - i, [.slot 5 3 1], ⟨0, Nat.zero_le _, ?_⟩, ?_⟩
    · exact ⟨by repeat' ((conv => whnf); first | exact trivial | refine And.intro (by (conv => arg 1; whnf); first | (with_reducible exact .refl) | exact dle_int (wrap_succ (by omega)) | exact .refl) ?_), by repeat' ((conv => whnf); first | exact trivial | refine And.intro ?_ ?_ | exact .refl), rfl⟩
    · intro i hi
      repeat' ((conv => whnf); first | refine And.intro (fun h => h) ?_ | refine dcond_t (by assumption) ?_ | refine dcond_f (by assumption) ?_ | (refine dcond_intro ?_ ?_ <;> intro h) | exact .refl | refine And.intro (by kernel_rfl) ?_ | refine And.intro ⟨fun h => h, fun h => h⟩ ?_ | refine Exists.intro false ?_ | (refine And.intro ?_ ?_; focus (simp; done)) | fail)
      · have hlt : i < 5 := by
          simp at h
          omega
        clear h
        have e := ea i hlt
        have e2 := ep i
        have hfi : (((List.range i).map A).map intE).length + 1 ≤ 2000000 := by
          simp
          omega
        repeat' ((conv => whnf); first | refine And.intro (fun h => h) ?_ | refine dcond_t (by assumption) ?_ | refine dcond_f (by assumption) ?_ | (refine dcond_intro ?_ ?_ <;> intro h) | exact .refl | refine And.intro (by kernel_rfl) ?_ | refine And.intro ⟨fun h => h, fun h => h⟩ ?_ | refine .inl ⟨_, _, DleAll_refl _, e2, ?_⟩ | refine ⟨_, _, DleAll_refl _, fun _ => e2, ?_⟩ | refine ⟨_, _, DleAll_refl _, e2, ?_⟩ | refine .inl ⟨_, _, DleAll_refl _, e, ?_⟩ | refine ⟨_, _, DleAll_refl _, fun _ => e, ?_⟩ | refine ⟨_, _, DleAll_refl _, e, ?_⟩ | refine And.intro (fitsI hfi) ?_ | refine Exists.intro false ?_ | (refine And.intro ?_ ?_; focus (simp; done)) | fail)
        all_goals (conv => whnf)
        refine ⟨i + 1, hlt, by simp only []; omega, ?_⟩
        conv => whnf
        refine ⟨⟨.refl, .refl, .refl, dle_int (wrap_succ (by omega)), trivial⟩, ⟨ole_row ?_, trivial⟩, by rfl⟩
        rw [List.range_succ, List.map_append, List.map_append]
        rfl
      · have : i = 5 := by
          simp at h
          omega
        subst this
        repeat' ((conv => whnf); first | refine And.intro (fun h => h) ?_ | refine dcond_t (by assumption) ?_ | refine dcond_f (by assumption) ?_ | (refine dcond_intro ?_ ?_ <;> intro h) | exact .refl | refine And.intro (by kernel_rfl) ?_ | refine And.intro ⟨fun h => h, fun h => h⟩ ?_ | refine Exists.intro false ?_ | (refine And.intro ?_ ?_; focus (simp; done)) | fail)
        all_goals (conv => whnf)
        refine ⟨[], ?_⟩
        conv => whnf
        exact ⟨.refl, ⟨.refl, trivial⟩, by rfl⟩
end Go.Proofs.YtdcfooeoaoahjaaGreat

set_option maxRecDepth 100000
namespace Go.Proofs.YtdcfooeoaoahjaaGreat
open Go.Lift
structure CalmA (s : Agr) : Prop where
  ok : agrB s = true
  dec : s.dec = []
  prop : s.prop = []
  vote : (cutOf s.box s.self).2 = false
  phase : s.phase = 0
  rep : decide (0 ≤ ofB s.accs s.self) = false
  done : decR s = []
set_option maxHeartbeats 8000000 in
theorem m_resend_calm (s : Agr) (hs : SmA s) (hc : CalmA s) : RetM Tryz.prog 166 [.cells 210 (agrE s ++ [.nl])] [.lp 0 0] [true] [.cells 210 (agrE s ++ [.nl])] (.tup []) := by
  have e1 := c_agreement_ballotOf s.box (Nat.le_trans hs.box (by decide)) s.self
  rw [hc.vote] at e1
  have e2 := c_agreement_reportOf s.accs (Nat.le_trans hs.accs (by decide)) s.self
  have hp1 : decide (s.phase = 1) = false := by rw [hc.phase]; rfl
  have hp2 : decide (s.phase = 2) = false := by rw [hc.phase]; rfl
  have hr : (decide (0 ≤ ofB s.accs s.self) && !decide (s.phase = 2)) = false := by rw [hc.rep]; rfl
  refine retM_of_body (fn := Tryz.f166) (c := Tryz.f166.body.getD .skip) hm hT (by kernel_rfl) Tryz.func166 (by kernel_rfl) (by kernel_rfl) (by kernel_rfl) (by kernel_rfl) (by kernel_rfl) ?_
  repeat' ((conv => whnf); first | refine And.intro (fun h => h) ?_ | refine dcond_t (by assumption) ?_ | refine dcond_f (by assumption) ?_ | (refine dcond_intro ?_ ?_ <;> intro h) | exact .refl | refine And.intro (by kernel_rfl) ?_ | refine And.intro ⟨fun h => h, fun h => h⟩ ?_ | refine .inl ⟨_, _, DleAll_refl _, e1, ?_⟩ | refine ⟨_, _, DleAll_refl _, fun _ => e1, ?_⟩ | refine ⟨_, _, DleAll_refl _, e1, ?_⟩ | refine dcond_f hp1 ?_ | refine dcond_f hp2 ?_ | refine .inl ⟨_, _, DleAll_refl _, e2, ?_⟩ | refine ⟨_, _, DleAll_refl _, fun _ => e2, ?_⟩ | refine ⟨_, _, DleAll_refl _, e2, ?_⟩ | refine dcond_f hr ?_ | refine Exists.intro false ?_ | (refine And.intro ?_ ?_; focus (simp; done)) | fail)
  all_goals (conv => whnf)
  all_goals exact ⟨.refl, ⟨.refl, .refl, trivial⟩, by rfl⟩
set_option maxHeartbeats 8000000 in
theorem c_Tick_calm (s : Agr) (hs : SmA s) (hc : CalmA s) : Ret Tryz.prog 98 [.agg (agrE s)] (.tup [.agg (agrE s), .lst 7 (([] : List Pkt).map pktE) false]) := by
  have e1 := c_agreement_Valid s hs
  rw [hc.ok] at e1
  have e2 := c_agreement_cloneState s hs
  have h5 : decide (0 < ((s.dec.map intE).length : Int)) = false := by rw [hc.dec]; rfl
  have h6 : decide (0 < ((s.prop.map intE).length : Int)) = false := by rw [hc.prop]; rfl
  have e3 := m_resend_calm s hs hc
  have e4 := m_end_nil s hs
  have he : endA s [] = (s, []) := by
    unfold endA
    rw [hc.done]
    simp
  rw [he] at e4
  refine ret_of_body (fn := Tryz.f98) (c := Tryz.f98.body.getD .skip) hm hT (by kernel_rfl) Tryz.func98 (by kernel_rfl) (by kernel_rfl) (by kernel_rfl) (by kernel_rfl) ?_
  repeat' ((conv => whnf); first | refine And.intro (fun h => h) ?_ | refine dcond_t (by assumption) ?_ | refine dcond_f (by assumption) ?_ | (refine dcond_intro ?_ ?_ <;> intro h) | exact .refl | refine And.intro (by kernel_rfl) ?_ | refine And.intro ⟨fun h => h, fun h => h⟩ ?_ | refine .inl ⟨_, _, DleAll_refl _, e1, ?_⟩ | refine ⟨_, _, DleAll_refl _, fun _ => e1, ?_⟩ | refine ⟨_, _, DleAll_refl _, e1, ?_⟩ | refine .inl ⟨_, _, DleAll_refl _, e2, ?_⟩ | refine ⟨_, _, DleAll_refl _, fun _ => e2, ?_⟩ | refine ⟨_, _, DleAll_refl _, e2, ?_⟩ | refine dcond_f h5 ?_ | refine dcond_f h6 ?_ | refine .inr ⟨[1], _, _, _, _, _, e3, by rfl, ⟨.refl, trivial⟩, ⟨.refl, trivial⟩, ?_⟩ | refine .inr ⟨[2], _, _, _, _, _, e3, by rfl, ⟨.refl, trivial⟩, ⟨.refl, trivial⟩, ?_⟩ | refine .inr ⟨[3], _, _, _, _, _, e3, by rfl, ⟨.refl, trivial⟩, ⟨.refl, trivial⟩, ?_⟩ | refine .inr ⟨[1], _, _, _, _, _, e4, by rfl, ⟨.refl, trivial⟩, ⟨.refl, trivial⟩, ?_⟩ | refine .inr ⟨[2], _, _, _, _, _, e4, by rfl, ⟨.refl, trivial⟩, ⟨.refl, trivial⟩, ?_⟩ | refine .inr ⟨[3], _, _, _, _, _, e4, by rfl, ⟨.refl, trivial⟩, ⟨.refl, trivial⟩, ?_⟩ | refine Exists.intro false ?_ | (refine And.intro ?_ ?_; focus (simp; done)) | fail)
end Go.Proofs.YtdcfooeoaoahjaaGreat

set_option maxRecDepth 100000
namespace Go.Proofs.YtdcfooeoaoahjaaGreat
open Go.Lift
theorem sus_nil (v : View) (b : Bool) : susR v [] b = [] := List.length_eq_zero_iff.1 (Nat.le_zero.1 (sus_len v [] b))
theorem next_nilM (v : View) : (nextR v []).2 = 1 := by
  unfold nextR
  have : idsB [] 32 = false := by kernel_rfl
  rw [this]
  simp
theorem propose_nil (v : View) : proposeR v [] = ([], false) := by
  have h : propL v [] = ([], false) := by
    rw [propL, prop_eq, next_nilM]
    rfl
  unfold proposeR
  rw [sus_nil, sus_nil]
  exact h
structure Calm (s : Mem) : Prop where
  sm : SmM s
  als : s.als = []
  dbts : s.dbts = []
  prop : s.agr.prop = []
  dec : s.agr.dec = []
  tick : CalmA s.agr
  view : viewB s.view = true
theorem smM_det {s : Mem} (h : SmM s) {D : Det} {l : List Alr} (ht : tickR s.det = (D, l)) : SmM { s with det := D } := by
  have hD : D = (tickR s.det).1 := by rw [ht]
  have hb := h.ebits
  have he := h.edges
  have hd := h.dview
  refine ⟨h.cont, h.first, h.hist, h.histc, h.view, ?_, ?_, ?_, h.als, h.dbts, h.agr⟩
  all_goals simp only []
  all_goals rw [hD]
  all_goals unfold tickR
  all_goals cases !detB s.det
  · exact hd
  · exact Nat.zero_le _
  · simpa using he
  · exact Nat.zero_le _
  · intro e hm
    simp only [cond_false, List.mem_map] at hm
    obtain ⟨e', hm', rfl⟩ := hm
    exact rec_rng (hb e' hm') _
  · intro e hm
    simp [det0] at hm
def hbPk (num : Int) (m : Int) : Pk := ⟨m, hbW num⟩
set_option maxHeartbeats 8000000 in
theorem m_mem_tickQ (s : Mem) (hs : Calm s) (D : Det) (htd : tickR s.det = (D, [])) :
    RetM Tryz.prog 56 [.cells 116 (memE s ++ [.nl])] [.lp 0 0] [true] [.cells 116 (memE { s with det := D } ++ [.own 5]), .dead, .dead, .dead, .dead, .row 121 2 (((setI (obsR s.view.mem s.self)).map (hbPk s.view.num)).map pkE)] (.tup []) := by
  have hsm := hs.sm
  obtain ⟨h1, h2, h3⟩ := view_num hs.view
  have hll : (leb s.view.num.toNat).length ≤ 10 := leb_len 9 _
  have e1 := c_probe_Tick s.det (Nat.le_trans hsm.dview (by decide)) (Nat.le_trans hsm.edges (by decide)) hsm.ebits
  rw [htd] at e1
  have hsm2 : SmM { s with det := D } := smM_det hsm htd
  have e2 := m_mem_renewDoubts0 { s with det := D } hsm2 hs.dbts (by rw [show ({ s with det := D } : Mem).als = [] from hs.als]; exact sus_nil _ _)
  have e3 := c_Propose s.view (by have := hsm.view; omega) s.als (by rw [hs.als]; simp)
  have hpn : proposeR s.view s.als = ([], false) := by rw [hs.als]; exact propose_nil _
  rw [hpn] at e3
  have e4 := c_Tick_calm s.agr hsm.agr hs.tick
  have e5 := m_mem_sendAgree0 { s with det := D }
  have e6 := c_mem_settle0 { s with det := D } hs.dec
  have e7 := c_AppendUint [] (by simp) s.view.num.toNat (by omega)
  have hu := u64_nat h1 h2
  have e8 := m_overlay_Observers s.view.mem (Nat.le_trans hsm.view (by decide)) s.self
  have hol := obs_len s.view.mem s.self
  have hsl : (setI (obsR s.view.mem s.self)).length ≤ 5 := Nat.le_trans (setI_len _) hol
  have hc : setI (obsR s.view.mem s.self) = Go.Lib.compact (srtI (obsR s.view.mem s.self)) := rfl
  generalize obsR s.view.mem s.self = O at *
  have e9 := m_Sort O (srtI O) (srtI_perm _) (srtI_up _) (by omega)
  have e10 := m_Compact (srtI O) (by rw [(srtI_perm _).length_eq]; omega)
  rw [← hc] at e10
  have hp0 : decide (((s.agr.prop.map intE).length : Int) = 0) = true := by rw [hs.prop]; rfl
  have ha0 : decide (0 < ((s.als.map alE).length : Int)) = false := by rw [hs.als]; rfl
  generalize setI O = C at *
  refine retM_of_body (fn := Tryz.f56) (c := Tryz.f56.body.getD .skip) hm hT (by kernel_rfl) Tryz.func56 (by kernel_rfl) (by kernel_rfl) (by kernel_rfl) (by kernel_rfl) (by kernel_rfl) ?_
  repeat' ((conv => whnf); first | refine And.intro (fun h => h) ?_ | refine dcond_t (by assumption) ?_ | refine dcond_f (by assumption) ?_ | (refine dcond_intro ?_ ?_ <;> intro h) | exact .refl | refine And.intro (by kernel_rfl) ?_ | refine And.intro ⟨fun h => h, fun h => h⟩ ?_ | refine .inl ⟨_, _, DleAll_refl _, e1, ?_⟩ | refine ⟨_, _, DleAll_refl _, fun _ => e1, ?_⟩ | refine ⟨_, _, DleAll_refl _, e1, ?_⟩ | refine Exists.intro false ?_ | (refine And.intro ?_ ?_; focus (simp; done)) | fail)
  all_goals (conv => whnf)
  refine ⟨Nat, fun i => ⟨[(0, .lp 0 0), (34, .lst 4 (([] : List Alr).map alE) false), (35, i64 0), (36, i64 i)], [.cells 116 (memE { s with det := D } ++ [.nl]), .gh [.lp 0 0]]⟩, fun i => i = 0, fun i => 0, [], ⟨0, rfl, ?_⟩, ?_⟩
  · conv => whnf
    exact ⟨⟨.refl, .refl, .refl, .refl, trivial⟩, ⟨.refl, .refl, trivial⟩, by rfl⟩
  · intro i hi
    subst hi
    repeat' ((conv => whnf); first | refine And.intro (fun h => h) ?_ | refine dcond_t (by assumption) ?_ | refine dcond_f (by assumption) ?_ | (refine dcond_intro ?_ ?_ <;> intro h) | exact .refl | refine And.intro (by kernel_rfl) ?_ | refine And.intro ⟨fun h => h, fun h => h⟩ ?_ | refine .inr ⟨[0], _, _, _, _, _, e2, by rfl, ⟨.refl, trivial⟩, ⟨.refl, trivial⟩, ?_⟩ | refine dcond_t hp0 ?_ | refine .inl ⟨_, _, DleAll_refl _, e3, ?_⟩ | refine ⟨_, _, DleAll_refl _, fun _ => e3, ?_⟩ | refine ⟨_, _, DleAll_refl _, e3, ?_⟩ | refine .inl ⟨_, _, DleAll_refl _, e4, ?_⟩ | refine ⟨_, _, DleAll_refl _, fun _ => e4, ?_⟩ | refine ⟨_, _, DleAll_refl _, e4, ?_⟩ | refine .inr ⟨[0], _, _, _, _, _, e5, by rfl, ⟨.refl, trivial⟩, ⟨.refl, .refl, trivial⟩, ?_⟩ | refine .inl ⟨_, _, DleAll_refl _, e6, ?_⟩ | refine ⟨_, _, DleAll_refl _, fun _ => e6, ?_⟩ | refine ⟨_, _, DleAll_refl _, e6, ?_⟩ | refine .inl ⟨[.lst 1 (([] : List Nat).map byteI) false, _], _, ⟨.nl, dle_int hu, trivial⟩, e7, ?_⟩ | refine .inr ⟨[], [], _, [], _, _, e8, by rfl, trivial, ⟨.refl, .refl, trivial⟩, ?_⟩ | refine .inr ⟨[2], _, _, _, _, _, e9, by rfl, ⟨.refl, trivial⟩, ⟨.refl, trivial⟩, ?_⟩ | refine .inr ⟨[3], _, _, _, _, _, e9, by rfl, ⟨.refl, trivial⟩, ⟨.refl, trivial⟩, ?_⟩ | refine .inr ⟨[4], _, _, _, _, _, e9, by rfl, ⟨.refl, trivial⟩, ⟨.refl, trivial⟩, ?_⟩ | refine .inr ⟨[5], _, _, _, _, _, e9, by rfl, ⟨.refl, trivial⟩, ⟨.refl, trivial⟩, ?_⟩ | refine .inr ⟨[6], _, _, _, _, _, e9, by rfl, ⟨.refl, trivial⟩, ⟨.refl, trivial⟩, ?_⟩ | refine .inr ⟨[7], _, _, _, _, _, e9, by rfl, ⟨.refl, trivial⟩, ⟨.refl, trivial⟩, ?_⟩ | refine .inr ⟨[2], _, _, _, _, _, e10, by rfl, ⟨.refl, trivial⟩, ⟨.refl, trivial⟩, ?_⟩ | refine .inr ⟨[3], _, _, _, _, _, e10, by rfl, ⟨.refl, trivial⟩, ⟨.refl, trivial⟩, ?_⟩ | refine .inr ⟨[4], _, _, _, _, _, e10, by rfl, ⟨.refl, trivial⟩, ⟨.refl, trivial⟩, ?_⟩ | refine .inr ⟨[5], _, _, _, _, _, e10, by rfl, ⟨.refl, trivial⟩, ⟨.refl, trivial⟩, ?_⟩ | refine .inr ⟨[6], _, _, _, _, _, e10, by rfl, ⟨.refl, trivial⟩, ⟨.refl, trivial⟩, ?_⟩ | refine .inr ⟨[7], _, _, _, _, _, e10, by rfl, ⟨.refl, trivial⟩, ⟨.refl, trivial⟩, ?_⟩ | refine Exists.intro false ?_ | (refine And.intro ?_ ?_; focus (simp; done)) | fail)
    all_goals (conv => whnf)
    refine ⟨Nat, fun i => ⟨[(0, .lp 0 0), (13, .lst 1 ((leb s.view.num.toNat).map byteI) false), (132, .own 4), (133, i64 C.length), (134, i64 i)], [.cells 116 (memE { s with det := D } ++ [.own 5]), .gh [.lp 0 0], .dead, .dead, .row 3 1 (C.map intE), .row 121 2 (((C.take i).map (hbPk s.view.num)).map pkE)]⟩, fun i => i ≤ C.length, fun i => C.length - i, [.cell 0 29 121 2], ⟨0, Nat.zero_le _, ?_⟩, ?_⟩
    · conv => whnf
      exact ⟨⟨.refl, .refl, .refl, dle_int (by simp), .refl, trivial⟩, ⟨.refl, .refl, .dead, .dead, .refl, .refl, trivial⟩, by rfl⟩
    · intro i hi
      repeat' ((conv => whnf); first | refine And.intro (fun h => h) ?_ | refine dcond_t (by assumption) ?_ | refine dcond_f (by assumption) ?_ | (refine dcond_intro ?_ ?_ <;> intro h) | exact .refl | refine And.intro (by kernel_rfl) ?_ | refine And.intro ⟨fun h => h, fun h => h⟩ ?_ | refine Exists.intro false ?_ | (refine And.intro ?_ ?_; focus (simp; done)) | fail)
      · have hlt : i < C.length := by simpa using h
        clear h
        have e11 := m_mem_send_own { s with det := D } ((C.take i).map (hbPk s.view.num)) (by simp; omega) C[i] 1 (by omega) (by omega) (leb s.view.num.toNat) (by omega)
        have hnx : (C.take i).map (hbPk s.view.num) ++ [Pk.mk C[i] (sealF 1 (leb s.view.num.toNat))] = (C.take (i + 1)).map (hbPk s.view.num) := by
          rw [List.take_succ_eq_append_getElem hlt, List.map_append]
          rfl
        rw [hnx] at e11
        have hl0 : i < (C.map intE).length := by rw [List.length_map]; exact hlt
        have hget : (C.map intE)[i]? = some (intE C[i]) := by simp [hlt]
        repeat' ((conv => whnf); first | refine And.intro (fun h => h) ?_ | refine dcond_t (by assumption) ?_ | refine dcond_f (by assumption) ?_ | (refine dcond_intro ?_ ?_ <;> intro h) | exact .refl | refine And.intro (by kernel_rfl) ?_ | refine And.intro ⟨fun h => h, fun h => h⟩ ?_ | refine ⟨i, And.intro ⟨rfl, hl0⟩ ?_⟩ | refine ⟨intE C[i], And.intro hget ?_⟩ | refine .inr ⟨[0, 5], _, _, _, _, _, e11, by rfl, ⟨.refl, .refl, trivial⟩, ⟨.refl, .refl, .refl, .refl, trivial⟩, ?_⟩ | refine Exists.intro false ?_ | (refine And.intro ?_ ?_; focus (simp; done)) | fail)
        all_goals (conv => whnf)
        refine ⟨i + 1, hlt, by simp only []; omega, ?_⟩
        conv => whnf
        exact ⟨⟨.refl, .refl, .refl, .refl, dle_int (wrap_succ (by omega)), trivial⟩, ⟨.refl, .refl, .refl, .refl, .refl, .refl, trivial⟩, by rfl⟩
      · have : i = C.length := by
          simp at h
          omega
        subst this
        clear h
        rw [List.take_length]
        repeat' ((conv => whnf); first | refine And.intro (fun h => h) ?_ | refine dcond_t (by assumption) ?_ | refine dcond_f (by assumption) ?_ | (refine dcond_intro ?_ ?_ <;> intro h) | exact .refl | refine And.intro (by kernel_rfl) ?_ | refine And.intro ⟨fun h => h, fun h => h⟩ ?_ | refine dcond_f ha0 ?_ | refine Exists.intro false ?_ | (refine And.intro ?_ ?_; focus (simp; done)) | fail)
        all_goals (conv => whnf)
        exact ⟨.refl, ⟨.refl, .refl, .dead, .dead, .dead, .refl, trivial⟩, by rfl⟩
end Go.Proofs.YtdcfooeoaoahjaaGreat

set_option maxRecDepth 100000
namespace Go.Proofs.YtdcfooeoaoahjaaGreat
open Go.Lift
set_option maxHeartbeats 8000000 in
theorem c_mem_TickQ (s : Mem) (hs : Calm s) (hst : s.status = 1) (hv : validM s = true) (D : Det) (htd : tickR s.det = (D, [])) :
    Ret Tryz.prog 24 [.agg (memE s)] (.tup [.agg (memE { s with det := D }), .lst 2 (((setI (obsR s.view.mem s.self)).map (hbPk s.view.num)).map pkE) false]) := by
  have e1 := c_mem_Valid s hs.sm
  rw [hv] at e1
  have e2 := c_mem_clone s hs.sm
  have e3 := m_mem_tickQ s hs D htd
  have h0 : decide (s.status = 0) = false := by rw [hst]; rfl
  have h1 : decide (s.status = 1) = true := by rw [hst]; rfl
  generalize (setI (obsR s.view.mem s.self)).map (hbPk s.view.num) = P at *
  refine ret_of_body (fn := Tryz.f24) (c := Tryz.f24.body.getD .skip) hm hT (by kernel_rfl) Tryz.func24 (by kernel_rfl) (by kernel_rfl) (by kernel_rfl) (by kernel_rfl) ?_
  repeat' ((conv => whnf); first | refine And.intro (fun h => h) ?_ | refine dcond_t (by assumption) ?_ | refine dcond_f (by assumption) ?_ | (refine dcond_intro ?_ ?_ <;> intro h) | exact .refl | refine And.intro (by kernel_rfl) ?_ | refine And.intro ⟨fun h => h, fun h => h⟩ ?_ | refine .inl ⟨_, _, DleAll_refl _, e1, ?_⟩ | refine ⟨_, _, DleAll_refl _, fun _ => e1, ?_⟩ | refine ⟨_, _, DleAll_refl _, e1, ?_⟩ | refine .inl ⟨_, _, DleAll_refl _, e2, ?_⟩ | refine ⟨_, _, DleAll_refl _, fun _ => e2, ?_⟩ | refine ⟨_, _, DleAll_refl _, e2, ?_⟩ | refine dcond_f h0 ?_ | refine dcond_t h1 ?_ | refine .inr ⟨[1], _, _, _, _, _, e3, by rfl, ⟨.refl, trivial⟩, ⟨.refl, trivial⟩, ?_⟩ | refine .inr ⟨[2], _, _, _, _, _, e3, by rfl, ⟨.refl, trivial⟩, ⟨.refl, trivial⟩, ?_⟩ | refine .inr ⟨[3], _, _, _, _, _, e3, by rfl, ⟨.refl, trivial⟩, ⟨.refl, trivial⟩, ?_⟩ | refine Exists.intro false ?_ | (refine And.intro ?_ ?_; focus (simp; done)) | fail)
theorem m_mem_handleHb (s : Mem) (hs : Calm s) (hst : s.status = 1) (from' : Int) (hf : inB s.view.mem from' = true) :
    RetM Tryz.prog 54 [.cells 116 (memE s ++ [.nl])] [.lp 0 0, i64 from', .agg (frmE (hbF s.view.num))] [true] [.cells 116 (memE { s with det := heardR s.det from' } ++ [.nl])] (.tup []) := by
  have hsm := hs.sm
  have e1 := c_view_Contains s.view.mem (Nat.le_trans hsm.view (by decide)) from'
  rw [hf] at e1
  have e2 := c_probe_Heard s.det (Nat.le_trans hsm.dview (by decide)) (Nat.le_trans hsm.edges (by decide)) from'
  have hl : decide (s.view.num < s.view.num) = false := decide_eq_false (by omega)
  have hsm2 : SmM { s with det := heardR s.det from' } := by
    have hb := hsm.ebits
    have he := hsm.edges
    have hd := hsm.dview
    refine ⟨hsm.cont, hsm.first, hsm.hist, hsm.histc, hsm.view, ?_, ?_, ?_, hsm.als, hsm.dbts, hsm.agr⟩
    all_goals simp only []
    all_goals unfold heardR
    all_goals cases !detB s.det
    · exact hd
    · exact Nat.zero_le _
    · simpa using he
    · exact Nat.zero_le _
    · intro e hm
      simp only [cond_false, List.mem_map] at hm
      obtain ⟨e', hm', rfl⟩ := hm
      unfold heardE
      cases decide (e'.subj = from') <;> exact hb e' hm'
    · intro e hm
      simp [det0] at hm
  generalize heardR s.det from' = H at *
  have e3 := c_mem_settle0 { s with det := H } hs.dec
  have e4 := m_mem_settleDoubts0 { s with det := H } hsm2 hs.dbts
  obtain ⟨self, status, cont, first, hist, view, det, als, dbts, agr⟩ := s
  simp only at hst
  subst hst
  refine retM_of_body (fn := Tryz.f54) (c := Tryz.f54.body.getD .skip) hm hT (by kernel_rfl) Tryz.func54 (by kernel_rfl) (by kernel_rfl) (by kernel_rfl) (by kernel_rfl) (by kernel_rfl) ?_
  repeat' ((conv => whnf); first | refine And.intro (fun h => h) ?_ | refine dcond_t (by assumption) ?_ | refine dcond_f (by assumption) ?_ | (refine dcond_intro ?_ ?_ <;> intro h) | exact .refl | refine And.intro (by kernel_rfl) ?_ | refine And.intro ⟨fun h => h, fun h => h⟩ ?_ | refine .inl ⟨_, _, DleAll_refl _, e1, ?_⟩ | refine ⟨_, _, DleAll_refl _, fun _ => e1, ?_⟩ | refine ⟨_, _, DleAll_refl _, e1, ?_⟩ | refine dcond_f hl ?_ | refine .inl ⟨_, _, DleAll_refl _, e2, ?_⟩ | refine ⟨_, _, DleAll_refl _, fun _ => e2, ?_⟩ | refine ⟨_, _, DleAll_refl _, e2, ?_⟩ | refine .inl ⟨_, _, DleAll_refl _, e3, ?_⟩ | refine ⟨_, _, DleAll_refl _, fun _ => e3, ?_⟩ | refine ⟨_, _, DleAll_refl _, e3, ?_⟩ | refine .inr ⟨[0], _, _, _, _, _, e4, by rfl, ⟨.refl, trivial⟩, ⟨.refl, trivial⟩, ?_⟩ | refine Exists.intro false ?_ | (refine And.intro ?_ ?_; focus (simp; done)) | fail)
  all_goals (conv => whnf)
  exact ⟨.refl, ⟨.refl, .refl, trivial⟩, by rfl⟩
set_option maxHeartbeats 8000000 in
theorem c_mem_ReceiveHb (s : Mem) (hs : Calm s) (hst : s.status = 1) (hv : validM s = true) (from' : Int) (hid : idB from' = true) (hne : from' ≠ s.self) (hf : inB s.view.mem from' = true) :
    Ret Tryz.prog 23 [.agg (memE s), i64 from', .lst 1 ((hbW s.view.num).map byteI) false] (.tup [.agg (memE { s with det := heardR s.det from' }), .lst 2 (([] : List Pk).map pkE) false, i64 0]) := by
  have e1 := c_mem_Valid s hs.sm
  rw [hv] at e1
  have e2 := c_mem_identifier from'
  rw [hid] at e2
  have hn := view_num hs.view
  have e3 := c_mem_read_hb s s.view.num hn.1 hn.2.1
  have e4 := c_mem_clone s hs.sm
  have e5 := m_mem_handleHb s hs hst from' hf
  have hd : decide (from' = s.self) = false := decide_eq_false hne
  have h0 : decide (s.status = 0) = false := by rw [hst]; rfl
  have h1 : decide (s.status = 1) = true := by rw [hst]; rfl
  have hg : (!true || !true || decide (from' = s.self)) = false := by rw [hd]; rfl
  have hg2 : (decide (s.status = 0) && decide ((1 : Int) = 4)) = false := by rw [h0]; rfl
  generalize heardR s.det from' = H at *
  refine ret_of_body (fn := Tryz.f23) (c := Tryz.f23.body.getD .skip) hm hT (by kernel_rfl) Tryz.func23 (by kernel_rfl) (by kernel_rfl) (by kernel_rfl) (by kernel_rfl) ?_
  repeat' ((conv => whnf); first | refine And.intro (fun h => h) ?_ | refine dcond_t (by assumption) ?_ | refine dcond_f (by assumption) ?_ | (refine dcond_intro ?_ ?_ <;> intro h) | exact .refl | refine And.intro (by kernel_rfl) ?_ | refine And.intro ⟨fun h => h, fun h => h⟩ ?_ | refine .inl ⟨_, _, DleAll_refl _, e1, ?_⟩ | refine ⟨_, _, DleAll_refl _, fun _ => e1, ?_⟩ | refine ⟨_, _, DleAll_refl _, e1, ?_⟩ | refine .inl ⟨_, _, DleAll_refl _, e2, ?_⟩ | refine ⟨_, _, DleAll_refl _, fun _ => e2, ?_⟩ | refine ⟨_, _, DleAll_refl _, e2, ?_⟩ | refine dcond_f hg ?_ | refine .inl ⟨_, _, DleAll_refl _, e3, ?_⟩ | refine ⟨_, _, DleAll_refl _, fun _ => e3, ?_⟩ | refine ⟨_, _, DleAll_refl _, e3, ?_⟩ | refine .inl ⟨_, _, DleAll_refl _, e4, ?_⟩ | refine ⟨_, _, DleAll_refl _, fun _ => e4, ?_⟩ | refine ⟨_, _, DleAll_refl _, e4, ?_⟩ | refine dcond_f hg2 ?_ | refine dcond_t h1 ?_ | refine .inr ⟨[1], _, _, _, _, _, e5, by rfl, ⟨.refl, trivial⟩, ⟨.refl, .refl, .refl, trivial⟩, ?_⟩ | refine .inr ⟨[2], _, _, _, _, _, e5, by rfl, ⟨.refl, trivial⟩, ⟨.refl, .refl, .refl, trivial⟩, ?_⟩ | refine .inr ⟨[3], _, _, _, _, _, e5, by rfl, ⟨.refl, trivial⟩, ⟨.refl, .refl, .refl, trivial⟩, ?_⟩ | refine .inr ⟨[4], _, _, _, _, _, e5, by rfl, ⟨.refl, trivial⟩, ⟨.refl, .refl, .refl, trivial⟩, ?_⟩ | refine Exists.intro false ?_ | (refine And.intro ?_ ?_; focus (simp; done)) | fail)
  all_goals (conv => whnf)
  exact dle_tupA ⟨.refl, .nl, .refl, trivial⟩
end Go.Proofs.YtdcfooeoaoahjaaGreat

set_option maxRecDepth 100000
namespace Go.Proofs.YtdcfooeoaoahjaaGreat
open Go.Lift
def memF (s : Mem) (h : DV) : List DV := [i64 s.self, i64 s.status, .lst 1 (s.cont.map intE) false, i64 s.first.num, .lst 1 (s.first.mem.map intE) false, h, i64 s.view.num, .lst 1 (s.view.mem.map intE) false, i64 s.det.self, i64 s.det.view.num, .lst 1 (s.det.view.mem.map intE) false, .lst 6 (s.det.edges.map edgeE) false, .lst 4 (s.als.map alE) false, .lst 2 (s.dbts.map dbtE) false, i64 s.agr.self, i64 s.agr.view.num, .lst 1 (s.agr.view.mem.map intE) false, i64 s.agr.acc.pro, i64 s.agr.acc.rank, .lst 1 (s.agr.acc.cut.map intE) false, .lst 1 (s.agr.prop.map intE) false, .lst 2 (s.agr.box.map balE) false, i64 s.agr.rank, i64 s.agr.phase, .lst 3 (s.agr.reps.map rptE) false, .lst 1 (s.agr.cho.map intE) false, .lst 3 (s.agr.accs.map rptE) false, .lst 1 (s.agr.dec.map intE) false, i64 s.agr.wait]
theorem c_Clone_cutsN : Ret Tryz.prog 139 [.nl] .nl := by
  refine ret_of_body (fn := Tryz.f139) (c := Tryz.f139.body.getD .skip) hm hT (by kernel_rfl) Tryz.func139 (by kernel_rfl) (by kernel_rfl) (by kernel_rfl) (by kernel_rfl) ?_
  repeat' ((conv => whnf); first | refine And.intro (fun h => h) ?_ | refine dcond_t (by assumption) ?_ | refine dcond_f (by assumption) ?_ | (refine dcond_intro ?_ ?_ <;> intro h) | exact .refl | refine And.intro (by kernel_rfl) ?_ | refine And.intro ⟨fun h => h, fun h => h⟩ ?_ | refine Exists.intro false ?_ | (refine And.intro ?_ ?_; focus (simp; done)) | fail)
theorem c_mem_cloneCutsN : Ret Tryz.prog 79 [.nl] .nl := by
  refine ret_of_body (fn := Tryz.f79) (c := Tryz.f79.body.getD .skip) hm hT (by kernel_rfl) Tryz.func79 (by kernel_rfl) (by kernel_rfl) (by kernel_rfl) (by kernel_rfl) ?_
  repeat' ((conv => whnf); first | refine And.intro (fun h => h) ?_ | refine dcond_t (by assumption) ?_ | refine dcond_f (by assumption) ?_ | (refine dcond_intro ?_ ?_ <;> intro h) | exact .refl | refine And.intro (by kernel_rfl) ?_ | refine And.intro ⟨fun h => h, fun h => h⟩ ?_ | refine .inl ⟨_, _, DleAll_refl _, c_Clone_cutsN, ?_⟩ | refine ⟨_, _, DleAll_refl _, fun _ => c_Clone_cutsN, ?_⟩ | refine ⟨_, _, DleAll_refl _, c_Clone_cutsN, ?_⟩ | refine Exists.intro false ?_ | (refine And.intro ?_ ?_; focus (simp; done)) | fail)
  all_goals (conv => whnf)
  refine ⟨Nat, fun i => ⟨[(3, .nl), (8, i64 0), (9, i64 i)], []⟩, fun i => i = 0, fun i => 0, [], ⟨0, rfl, ?_⟩, ?_⟩
  · conv => whnf
    exact ⟨⟨.refl, .refl, .refl, trivial⟩, trivial, by rfl⟩
  · intro i hi
    subst hi
    repeat' ((conv => whnf); first | refine And.intro (fun h => h) ?_ | refine dcond_t (by assumption) ?_ | refine dcond_f (by assumption) ?_ | (refine dcond_intro ?_ ?_ <;> intro h) | exact .refl | refine And.intro (by kernel_rfl) ?_ | refine And.intro ⟨fun h => h, fun h => h⟩ ?_ | refine Exists.intro false ?_ | (refine And.intro ?_ ?_; focus (simp; done)) | fail)
set_option maxHeartbeats 8000000 in
theorem c_mem_cloneN (s : Mem) (hs : SmM s) : Ret Tryz.prog 52 [.agg (memF s .nl)] (.agg (memF s .nl)) := by
  have b1 := hs.cont
  have b2 := hs.first
  have b5 := hs.view
  have b6 := hs.dview
  have b7 := hs.edges
  have b8 := hs.als
  have b9 := hs.dbts
  refine ret_of_body (fn := Tryz.f52) (c := Tryz.f52.body.getD .skip) hm hT (by kernel_rfl) Tryz.func52 (by kernel_rfl) (by kernel_rfl) (by kernel_rfl) (by kernel_rfl) ?_
  repeat' ((conv => whnf); first | refine And.intro (fun h => h) ?_ | refine dcond_t (by assumption) ?_ | refine dcond_f (by assumption) ?_ | (refine dcond_intro ?_ ?_ <;> intro h) | exact .refl | refine And.intro (by kernel_rfl) ?_ | refine And.intro ⟨fun h => h, fun h => h⟩ ?_ | refine .inl ⟨_, _, DleAll_refl _, c_slices_Clone_int _ (by omega), ?_⟩ | refine ⟨_, _, DleAll_refl _, fun _ => c_slices_Clone_int _ (by omega), ?_⟩ | refine ⟨_, _, DleAll_refl _, c_slices_Clone_int _ (by omega), ?_⟩ | refine .inl ⟨_, _, DleAll_refl _, c_mem_cloneCutsN, ?_⟩ | refine ⟨_, _, DleAll_refl _, fun _ => c_mem_cloneCutsN, ?_⟩ | refine ⟨_, _, DleAll_refl _, c_mem_cloneCutsN, ?_⟩ | refine .inl ⟨_, _, DleAll_refl _, c_mem_cloneView _ (by omega), ?_⟩ | refine ⟨_, _, DleAll_refl _, fun _ => c_mem_cloneView _ (by omega), ?_⟩ | refine ⟨_, _, DleAll_refl _, c_mem_cloneView _ (by omega), ?_⟩ | refine .inl ⟨_, _, DleAll_refl _, c_Clone_edg _ (by omega), ?_⟩ | refine ⟨_, _, DleAll_refl _, fun _ => c_Clone_edg _ (by omega), ?_⟩ | refine ⟨_, _, DleAll_refl _, c_Clone_edg _ (by omega), ?_⟩ | refine .inl ⟨_, _, DleAll_refl _, c_Clone_alr _ (by omega), ?_⟩ | refine ⟨_, _, DleAll_refl _, fun _ => c_Clone_alr _ (by omega), ?_⟩ | refine ⟨_, _, DleAll_refl _, c_Clone_alr _ (by omega), ?_⟩ | refine .inl ⟨_, _, DleAll_refl _, c_Clone_dbt _ (by omega), ?_⟩ | refine ⟨_, _, DleAll_refl _, fun _ => c_Clone_dbt _ (by omega), ?_⟩ | refine ⟨_, _, DleAll_refl _, c_Clone_dbt _ (by omega), ?_⟩ | refine .inl ⟨_, _, DleAll_refl _, c_mem_cloneAgreement _ hs.agr, ?_⟩ | refine ⟨_, _, DleAll_refl _, fun _ => c_mem_cloneAgreement _ hs.agr, ?_⟩ | refine ⟨_, _, DleAll_refl _, c_mem_cloneAgreement _ hs.agr, ?_⟩ | refine Exists.intro false ?_ | (refine And.intro ?_ ?_; focus (simp; done)) | fail)
set_option maxHeartbeats 8000000 in
theorem m_mem_enterH (s : Mem) (v : View) (hv : v.mem.length ≤ 1000) : RetM Tryz.prog 45 [.cells 116 (memF s (.own 1) ++ [.nl]), .row 22 1 (s.hist.map cutE)] [.lp 0 0, .agg (viewE v)] [true, true] [.cells 116 (memF (enterM s v) (.own 1) ++ [.nl]), .row 22 1 (s.hist.map cutE)] (.tup []) := by
  have e1 := c_mem_cloneView v (by omega)
  have e2 := c_view_Contains v.mem (Nat.le_trans hv (by decide)) s.self
  have e3 := c_probe_New v (Nat.le_trans hv (by decide)) s.self
  have e4 := c_agreement_New v (by omega) s.self
  by_cases hin : inB v.mem s.self = true
  · rw [enter_in hin]
    generalize newR v s.self = N at *
    generalize newA v s.self = Q at *
    refine retM_of_body (fn := Tryz.f45) (c := Tryz.f45.body.getD .skip) hm hT (by kernel_rfl) Tryz.func45 (by kernel_rfl) (by kernel_rfl) (by kernel_rfl) (by kernel_rfl) (by kernel_rfl) ?_
    repeat' ((conv => whnf); first | refine And.intro (fun h => h) ?_ | refine dcond_t (by assumption) ?_ | refine dcond_f (by assumption) ?_ | (refine dcond_intro ?_ ?_ <;> intro h) | exact .refl | refine And.intro (by kernel_rfl) ?_ | refine And.intro ⟨fun h => h, fun h => h⟩ ?_ | refine .inl ⟨_, _, DleAll_refl _, e1, ?_⟩ | refine ⟨_, _, DleAll_refl _, fun _ => e1, ?_⟩ | refine ⟨_, _, DleAll_refl _, e1, ?_⟩ | refine .inl ⟨_, _, DleAll_refl _, e2, ?_⟩ | refine ⟨_, _, DleAll_refl _, fun _ => e2, ?_⟩ | refine ⟨_, _, DleAll_refl _, e2, ?_⟩ | refine .inl ⟨_, _, DleAll_refl _, e3, ?_⟩ | refine ⟨_, _, DleAll_refl _, fun _ => e3, ?_⟩ | refine ⟨_, _, DleAll_refl _, e3, ?_⟩ | refine .inl ⟨_, _, DleAll_refl _, e4, ?_⟩ | refine ⟨_, _, DleAll_refl _, fun _ => e4, ?_⟩ | refine ⟨_, _, DleAll_refl _, e4, ?_⟩ | refine Exists.intro false ?_ | (refine And.intro ?_ ?_; focus (simp; done)) | fail)
    all_goals (conv => whnf)
    exact ⟨.refl, ⟨ole_cellsA ⟨.refl, .refl, .refl, .refl, .refl, .refl, .refl, .refl, .refl, .refl, .refl, .refl, .nl, .nl, .refl, .refl, .refl, .refl, .refl, .refl, .refl, .refl, .refl, .refl, .refl, .refl, .refl, .refl, .refl, .refl, trivial⟩, .refl, .refl, trivial⟩, by rfl⟩
  · have hin : inB v.mem s.self = false := by simpa using hin
    rw [enter_out hin]
    refine retM_of_body (fn := Tryz.f45) (c := Tryz.f45.body.getD .skip) hm hT (by kernel_rfl) Tryz.func45 (by kernel_rfl) (by kernel_rfl) (by kernel_rfl) (by kernel_rfl) (by kernel_rfl) ?_
    repeat' ((conv => whnf); first | refine And.intro (fun h => h) ?_ | refine dcond_t (by assumption) ?_ | refine dcond_f (by assumption) ?_ | (refine dcond_intro ?_ ?_ <;> intro h) | exact .refl | refine And.intro (by kernel_rfl) ?_ | refine And.intro ⟨fun h => h, fun h => h⟩ ?_ | refine .inl ⟨_, _, DleAll_refl _, e1, ?_⟩ | refine ⟨_, _, DleAll_refl _, fun _ => e1, ?_⟩ | refine ⟨_, _, DleAll_refl _, e1, ?_⟩ | refine .inl ⟨_, _, DleAll_refl _, e2, ?_⟩ | refine ⟨_, _, DleAll_refl _, fun _ => e2, ?_⟩ | refine ⟨_, _, DleAll_refl _, e2, ?_⟩ | refine .inl ⟨_, _, DleAll_refl _, e3, ?_⟩ | refine ⟨_, _, DleAll_refl _, fun _ => e3, ?_⟩ | refine ⟨_, _, DleAll_refl _, e3, ?_⟩ | refine .inl ⟨_, _, DleAll_refl _, e4, ?_⟩ | refine ⟨_, _, DleAll_refl _, fun _ => e4, ?_⟩ | refine ⟨_, _, DleAll_refl _, e4, ?_⟩ | refine Exists.intro false ?_ | (refine And.intro ?_ ?_; focus (simp; done)) | fail)
    all_goals (conv => whnf)
    exact ⟨.refl, ⟨ole_cellsA ⟨.refl, .refl, .refl, .refl, .refl, .refl, .refl, .refl, .refl, .refl, .nl, .nl, .nl, .nl, .refl, .refl, .nl, .refl, .refl, .nl, .nl, .nl, .refl, .refl, .nl, .nl, .nl, .nl, .refl, .refl, trivial⟩, .refl, .refl, trivial⟩, by rfl⟩
def extS (s : Mem) (first : View) (cuts : List (List Int)) : Nat → Mem
  | 0 => { s with hist := [] }
  | j + 1 => enterM { extS s first cuts j with hist := cuts.take (j + 1) } (chV first cuts (j + 1))
theorem enter_hist (s : Mem) (v : View) : (enterM s v).hist = s.hist := by
  unfold enterM
  cases inB v.mem s.self <;> rfl
theorem ext_hist (s : Mem) (first : View) (cuts : List (List Int)) : ∀ j, (extS s first cuts j).hist = cuts.take j
  | 0 => by simp [extS]
  | j + 1 => enter_hist _ _
set_option maxHeartbeats 8000000 in
theorem m_mem_catchUpA (s : Mem) (hs : SmM s) (first : View) (cuts : List (List Int)) (hok : (chainR first cuts).2 = true) (hc : ∀ c ∈ cuts, OkCut c) (hst : s.status = 1) (hf : sameV first s.first = true) (hn0 : cuts ≠ [])
    (hall : ∀ i, i < cuts.length → (extS s first cuts i).status = 1) :
    RetM Tryz.prog 53 [.cells 116 (memF s .nl ++ [.nl])] [.lp 0 0, .agg (frmE (hiF first cuts))] [true] [.cells 116 (memE (extS s first cuts cuts.length) ++ [.nl])] (.tup []) := by
  obtain ⟨k1, k2, k3, k4⟩ := chain_ok hok
  have h16 := chV_len k1 cuts
  have hvl := (view_len k1).2
  have e1 := c_mem_chain first (by omega) cuts (by omega) (fun c h => by have := (hc c h).1; omega)
  rw [k4] at e1
  have hal := chAll_len first cuts cuts.length
  have hag := chAll_get first cuts cuts.length
  have hlast : IntKind.i64.wrap ((((chAll first cuts cuts.length).map viewE).length : Int) - 1) = ((cuts.length : Nat) : Int) ∧ ((chAll first cuts cuts.length).map viewE)[cuts.length]? = some (viewE (chV first cuts cuts.length)) := by
    rw [List.length_map, hal, wrap_i64 (by omega) (by omega)]
    refine ⟨by omega, ?_⟩
    rw [List.getElem?_map, hag _ (Nat.le_refl _)]
    rfl
  have hgv : ∀ j, j < cuts.length → ((chAll first cuts cuts.length).map viewE)[j + 1]? = some (viewE (chV first cuts (j + 1))) := fun j hj => by
    rw [List.getElem?_map, hag _ (by omega)]
    rfl
  have e2 := c_mem_sameView first s.first (by exact Nat.le_trans hvl (by decide))
  rw [hf] at e2
  have h0 : decide (s.status = 0) = false := by rw [hst]; rfl
  have hpos : 0 < cuts.length := List.length_pos_iff.2 hn0
  have hx0 : extS s first cuts 0 = { s with hist := [] } := rfl
  have hxs : ∀ j, extS s first cuts (j + 1) = enterM { extS s first cuts j with hist := cuts.take (j + 1) } (chV first cuts (j + 1)) := fun _ => rfl
  have hxh := ext_hist s first cuts
  generalize chV first cuts = V at *
  generalize chAll first cuts cuts.length = A at *
  generalize extS s first cuts = X at *
  have hle : decide (((cuts.map cutE).length : Int) ≤ 0) = false := decide_eq_false (by rw [List.length_map]; omega)
  have hgd : (!true || decide (((cuts.map cutE).length : Int) ≤ 0)) = false := by rw [hle]; rfl
  refine retM_of_bodyA (fn := Tryz.f53) (c := Tryz.f53.body.getD .skip) hm hT (by kernel_rfl) Tryz.func53 (by kernel_rfl) (by kernel_rfl) (by kernel_rfl) (by kernel_rfl) (by kernel_rfl) ?_
  repeat' ((conv => whnf); first | refine And.intro (fun h => h) ?_ | refine dcond_t (by assumption) ?_ | refine dcond_f (by assumption) ?_ | (refine dcond_intro ?_ ?_ <;> intro h) | exact .refl | refine And.intro (by kernel_rfl) ?_ | refine And.intro ⟨fun h => h, fun h => h⟩ ?_ | refine .inl ⟨_, _, DleAll_refl _, e1, ?_⟩ | refine ⟨_, _, DleAll_refl _, fun _ => e1, ?_⟩ | refine ⟨_, _, DleAll_refl _, e1, ?_⟩ | refine ⟨cuts.length, viewE (V cuts.length), And.intro hlast ?_⟩ | refine dcond_f h0 ?_ | refine .inl ⟨_, _, DleAll_refl _, e2, ?_⟩ | refine ⟨_, _, DleAll_refl _, fun _ => e2, ?_⟩ | refine ⟨_, _, DleAll_refl _, e2, ?_⟩ | refine dcond_f hgd ?_ | refine Exists.intro false ?_ | (refine And.intro ?_ ?_; focus (simp; done)) | fail)
  all_goals (conv => whnf)
  refine ⟨Nat, fun i => ⟨[(0, .lp 0 0), (3, .lp 2 0), (4, .lst 2 (A.map viewE) false), (7, i64 0), (96, .nl), (97, i64 0), (98, i64 i)], [.cells 116 (memF s .nl ++ [.nl]), .gh [.lp 0 0], .cells 110 (frmE (hiF first cuts))]⟩, fun i => i = 0, fun i => 0, [], ⟨0, rfl, ?_⟩, ?_⟩
  · conv => whnf
    exact ⟨⟨.refl, .refl, .refl, .refl, .refl, .refl, .refl, trivial⟩, ⟨.refl, .refl, .refl, trivial⟩, by rfl⟩
  · intro i hi
    subst hi
    repeat' ((conv => whnf); first | refine And.intro (fun h => h) ?_ | refine dcond_t (by assumption) ?_ | refine dcond_f (by assumption) ?_ | (refine dcond_intro ?_ ?_ <;> intro h) | exact .refl | refine And.intro (by kernel_rfl) ?_ | refine And.intro ⟨fun h => h, fun h => h⟩ ?_ | refine Exists.intro false ?_ | (refine And.intro ?_ ?_; focus (simp; done)) | fail)
    all_goals (conv => whnf)
    refine ⟨Nat, fun j => ⟨[(0, .lp 0 0), (3, .lp 2 0), (4, .lst 2 (A.map viewE) false), (10, i64 j)], [.cells 116 (memF (X j) (.own 3) ++ [.nl]), .gh [.lp 0 0], .cells 110 (frmE (hiF first cuts)), .row 22 1 ((cuts.take j).map cutE)]⟩, fun j => j ≤ cuts.length, fun j => cuts.length - j, [.cell 0 5 22 1], ⟨0, Nat.zero_le _, ?_⟩, ?_⟩
    · conv => whnf
      have hx0' : memF (X 0) (.own 3) = memF s (.own 3) := by rw [hx0]; rfl
      refine ⟨⟨.refl, .refl, .refl, .refl, trivial⟩, ⟨?_, .refl, .refl, .refl, trivial⟩, by rfl⟩
      show ole _ (.cells _ (memF (X 0) (.own 3) ++ [.nl]))
      rw [hx0']
      exact .refl
    · intro j hj
      repeat' ((conv => whnf); first | refine And.intro (fun h => h) ?_ | refine dcond_t (by assumption) ?_ | refine dcond_f (by assumption) ?_ | (refine dcond_intro ?_ ?_ <;> intro h) | exact .refl | refine And.intro (by kernel_rfl) ?_ | refine And.intro ⟨fun h => h, fun h => h⟩ ?_ | refine Exists.intro false ?_ | (refine And.intro ?_ ?_; focus (simp; done)) | fail)
      · have hlt : j < cuts.length := by
          simp only [List.length_map, Bool.and_eq_true, decide_eq_true_eq] at h
          have := h.1
          change (j : Int) < (cuts.length : Int) at this
          omega
        clear h
        have hgc : (cuts.map cutE)[j]? = some (cutE cuts[j]) := get_map hlt
        have hcl := (hc _ (List.getElem_mem hlt)).1
        have e5 := m_mem_enterH { X j with hist := cuts.take (j + 1) } (V (j + 1)) (by have := h16 (j + 1); omega)
        rw [← hxs] at e5
        have hrow : (cuts.take j).map cutE ++ [cutE cuts[j]] = (cuts.take (j + 1)).map cutE := by
          rw [List.take_succ_eq_append_getElem hlt, List.map_append]
          rfl
        repeat' ((conv => whnf); first | refine And.intro (fun h => h) ?_ | refine dcond_t (by assumption) ?_ | refine dcond_f (by assumption) ?_ | (refine dcond_intro ?_ ?_ <;> intro h) | exact .refl | refine And.intro (by kernel_rfl) ?_ | refine And.intro ⟨fun h => h, fun h => h⟩ ?_ | refine ⟨j, cutE cuts[j], And.intro ⟨rfl, hgc⟩ ?_⟩ | refine .inl ⟨_, _, DleAll_refl _, c_slices_Clone_int _ (by omega), ?_⟩ | refine ⟨_, _, DleAll_refl _, fun _ => c_slices_Clone_int _ (by omega), ?_⟩ | refine ⟨_, _, DleAll_refl _, c_slices_Clone_int _ (by omega), ?_⟩ | refine And.intro (fitsC (by simp <;> omega)) ?_ | refine ⟨j + 1, viewE (V (j + 1)), And.intro ⟨wrap_succ (by omega), hgv j hlt⟩ ?_⟩ | refine .inr ⟨[0, 3], _, _, _, _, _, e5, by rfl, ⟨.refl, ole_row hrow, trivial⟩, ⟨.refl, .refl, trivial⟩, ?_⟩ | refine Exists.intro false ?_ | (refine And.intro ?_ ?_; focus (simp; done)) | fail)
        all_goals (conv => whnf)
        refine ⟨j + 1, hlt, by simp only []; omega, ?_⟩
        conv => whnf
        exact ⟨⟨.refl, .refl, .refl, dle_int (wrap_succ (by omega)), trivial⟩, ⟨.refl, .refl, .refl, .refl, trivial⟩, by rfl⟩
      · have : j = cuts.length := by
          rcases Nat.lt_or_ge j cuts.length with hlt | hge
          · exfalso
            have a1 := hall j hlt
            simp only [List.length_map, a1, decide_true, Bool.and_true, decide_eq_false_iff_not] at h
            change ¬ (j : Int) < (cuts.length : Int) at h
            omega
          · exact Nat.le_antisymm hj hge
        subst this
        clear h
        repeat' ((conv => whnf); first | refine And.intro (fun h => h) ?_ | refine dcond_t (by assumption) ?_ | refine dcond_f (by assumption) ?_ | (refine dcond_intro ?_ ?_ <;> intro h) | exact .refl | refine And.intro (by kernel_rfl) ?_ | refine And.intro ⟨fun h => h, fun h => h⟩ ?_ | refine Exists.intro false ?_ | (refine And.intro ?_ ?_; focus (simp; done)) | fail)
        all_goals (conv => whnf)
        refine ⟨[.shutc 0 5], ?_⟩
        conv => whnf
        refine ⟨.refl, ⟨ole_cellsA ⟨.refl, .refl, .refl, .refl, .refl, ?_, .refl, .refl, .refl, .refl, .refl, .refl, .refl, .refl, .refl, .refl, .refl, .refl, .refl, .refl, .refl, .refl, .refl, .refl, .refl, .refl, .refl, .refl, .refl, .refl, trivial⟩, .refl, trivial⟩, by rfl⟩
        rw [hxh]
        exact .refl
end Go.Proofs.YtdcfooeoaoahjaaGreat

set_option maxRecDepth 100000
namespace Go.Proofs.YtdcfooeoaoahjaaGreat
open Go.Lift
theorem newA_sm {v : View} (hv : v.mem.length ≤ 1000) (self : Int) : SmA (newA v self).1 := by
  unfold newA
  cases (!viewB v || !inB v.mem self)
  · exact ⟨hv, by simp, by simp, by simp, by simp, by simp, by simp, by simp, by simp, by simp, by simp⟩
  · exact ⟨by simp [agr0], by simp [agr0], by simp [agr0], by simp [agr0], by simp [agr0], by simp [agr0], by simp [agr0], by simp [agr0], by simp [agr0], by simp [agr0], by simp [agr0]⟩
theorem newR_sm {v : View} (hv : v.mem.length ≤ 1000) (self : Int) : (newR v self).1.view.mem.length ≤ 1000 ∧ (newR v self).1.edges.length ≤ 1000 ∧ ∀ e ∈ (newR v self).1.edges, 0 ≤ e.win.bits := by
  have hl := subj_len v.mem self
  unfold newR
  cases (!viewB v || !inB v.mem self)
  · refine ⟨hv, by simp [edgesAt_len]; omega, fun e he => ?_⟩
    simp only [cond_false, edgesAt, List.mem_map] at he
    obtain ⟨k, _, rfl⟩ := he
    exact Int.le_refl 0
  · exact ⟨by simp [det0], by simp [det0], by simp [det0]⟩
theorem enter_sm {s : Mem} {v : View} (hv : v.mem.length ≤ 1000) (h1 : s.cont.length ≤ 1000) (h2 : s.first.mem.length ≤ 1000) (h3 : s.hist.length ≤ 1000) (h4 : ∀ c ∈ s.hist, c.length ≤ 1000) : SmM (enterM s v) := by
  have hr := newR_sm hv s.self
  have ha := newA_sm hv s.self
  unfold enterM
  cases inB v.mem s.self
  · exact ⟨h1, h2, h3, h4, hv, by simp [det0], by simp [det0], by simp [det0], by simp, by simp, ⟨by simp [agr0], by simp [agr0], by simp [agr0], by simp [agr0], by simp [agr0], by simp [agr0], by simp [agr0], by simp [agr0], by simp [agr0], by simp [agr0], by simp [agr0]⟩⟩
  · exact ⟨h1, h2, h3, h4, hv, hr.1, hr.2.1, hr.2.2, by simp, by simp, ha⟩
theorem newA_dec (v : View) (x : Int) : (newA v x).1.dec = [] ∧ (newA v x).1.prop = [] := by
  unfold newA
  cases (!viewB v || !inB v.mem x) <;> exact ⟨rfl, rfl⟩
theorem enter_dec (s : Mem) (v : View) : (enterM s v).agr.dec = [] ∧ (enterM s v).dbts = [] ∧ (enterM s v).als = [] ∧ (enterM s v).view = v ∧ (enterM s v).self = s.self ∧ (enterM s v).cont = s.cont ∧ (enterM s v).first = s.first := by
  have h := (newA_dec v s.self).1
  unfold enterM
  generalize newA v s.self = Q at *
  cases inB v.mem s.self
  · exact ⟨rfl, rfl, rfl, rfl, rfl, rfl, rfl⟩
  · exact ⟨h, rfl, rfl, rfl, rfl, rfl, rfl⟩
theorem ext_keep (s : Mem) (first : View) (cuts : List (List Int)) : ∀ j, (extS s first cuts j).cont = s.cont ∧ (extS s first cuts j).first = s.first ∧ (extS s first cuts j).self = s.self
  | 0 => ⟨rfl, rfl, rfl⟩
  | j + 1 => by
    have h := enter_dec { extS s first cuts j with hist := cuts.take (j + 1) } (chV first cuts (j + 1))
    have ih := ext_keep s first cuts j
    exact ⟨h.2.2.2.2.2.1.trans ih.1, h.2.2.2.2.2.2.trans ih.2.1, h.2.2.2.2.1.trans ih.2.2⟩
set_option maxHeartbeats 8000000 in
theorem m_mem_catchUpJ (s : Mem) (hs : SmM s) (first : View) (cuts : List (List Int)) (hok : (chainR first cuts).2 = true) (hc : ∀ c ∈ cuts, OkCut c) (hst : s.status = 0) (hin : inB (chV first cuts cuts.length).mem s.self = true) :
    RetM Tryz.prog 53 [.cells 116 (memE s ++ [.nl])] [.lp 0 0, .agg (frmE (hiF first cuts))] [true] [.cells 116 (memE (enterM { s with first := first, hist := cuts, cont := [] } (chV first cuts cuts.length)) ++ [.nl])] (.tup []) := by
  obtain ⟨k1, k2, k3, k4⟩ := chain_ok hok
  have h16 := chV_len k1 cuts cuts.length
  have hvl := (view_len k1).2
  have e1 := c_mem_chain first (by omega) cuts (by omega) (fun c h => by have := (hc c h).1; omega)
  rw [k4] at e1
  have hal := chAll_len first cuts cuts.length
  have hag := chAll_get first cuts cuts.length
  have hlast : IntKind.i64.wrap ((((chAll first cuts cuts.length).map viewE).length : Int) - 1) = ((cuts.length : Nat) : Int) ∧ ((chAll first cuts cuts.length).map viewE)[cuts.length]? = some (viewE (chV first cuts cuts.length)) := by
    rw [List.length_map, hal, wrap_i64 (by omega) (by omega)]
    refine ⟨by omega, ?_⟩
    rw [List.getElem?_map, hag _ (Nat.le_refl _)]
    rfl
  have h0 : decide (s.status = 0) = true := by rw [hst]; rfl
  have e2 := c_view_Contains (chV first cuts cuts.length).mem (by exact Nat.le_trans h16 (by decide)) s.self
  rw [hin] at e2
  have e3 := c_mem_cloneView first (by omega)
  have e4 := c_mem_cloneCuts cuts (by omega) (fun c h => by have := (hc c h).1; omega)
  have e5 := m_mem_enterC { s with first := first, hist := cuts, cont := [] } (chV first cuts cuts.length) (by omega)
  generalize chV first cuts cuts.length = V at *
  generalize chAll first cuts cuts.length = A at *
  generalize enterM { s with first := first, hist := cuts, cont := [] } V = E at *
  refine retM_of_body (fn := Tryz.f53) (c := Tryz.f53.body.getD .skip) hm hT (by kernel_rfl) Tryz.func53 (by kernel_rfl) (by kernel_rfl) (by kernel_rfl) (by kernel_rfl) (by kernel_rfl) ?_
  repeat' ((conv => whnf); first | refine And.intro (fun h => h) ?_ | refine dcond_t (by assumption) ?_ | refine dcond_f (by assumption) ?_ | (refine dcond_intro ?_ ?_ <;> intro h) | exact .refl | refine And.intro (by kernel_rfl) ?_ | refine And.intro ⟨fun h => h, fun h => h⟩ ?_ | refine .inl ⟨_, _, DleAll_refl _, e1, ?_⟩ | refine ⟨_, _, DleAll_refl _, fun _ => e1, ?_⟩ | refine ⟨_, _, DleAll_refl _, e1, ?_⟩ | refine ⟨cuts.length, viewE V, And.intro hlast ?_⟩ | refine dcond_t h0 ?_ | refine .inl ⟨_, _, DleAll_refl _, e2, ?_⟩ | refine ⟨_, _, DleAll_refl _, fun _ => e2, ?_⟩ | refine ⟨_, _, DleAll_refl _, e2, ?_⟩ | refine .inl ⟨_, _, DleAll_refl _, e3, ?_⟩ | refine ⟨_, _, DleAll_refl _, fun _ => e3, ?_⟩ | refine ⟨_, _, DleAll_refl _, e3, ?_⟩ | refine .inl ⟨_, _, DleAll_refl _, e4, ?_⟩ | refine ⟨_, _, DleAll_refl _, fun _ => e4, ?_⟩ | refine ⟨_, _, DleAll_refl _, e4, ?_⟩ | refine .inr ⟨[0], _, _, _, _, _, e5, by rfl, ⟨ole_cellsA ⟨.refl, .refl, .nl, .refl, .refl, .refl, .refl, .refl, .refl, .refl, .refl, .refl, .refl, .refl, .refl, .refl, .refl, .refl, .refl, .refl, .refl, .refl, .refl, .refl, .refl, .refl, .refl, .refl, .refl, .refl, trivial⟩, trivial⟩, ⟨.refl, .refl, trivial⟩, ?_⟩ | refine Exists.intro false ?_ | (refine And.intro ?_ ?_; focus (simp; done)) | fail)
  all_goals (conv => whnf)
  exact ⟨.refl, ⟨.refl, .refl, trivial⟩, by rfl⟩
set_option maxHeartbeats 8000000 in
theorem m_mem_handleHi (s : Mem) (hs : SmM s) (from' : Int) (first : View) (cuts : List (List Int)) (hok : (chainR first cuts).2 = true) (hc : ∀ c ∈ cuts, OkCut c) (hst : s.status = 1) (hf : sameV first s.first = true) (hn0 : cuts ≠ [])
    (hall : ∀ i, i < cuts.length → (extS s first cuts i).status = 1) :
    RetM Tryz.prog 54 [.cells 116 (memF s .nl ++ [.nl])] [.lp 0 0, i64 from', .agg (frmE (hiF first cuts))] [true] [.cells 116 (memE (extS s first cuts cuts.length) ++ [.nl])] (.tup []) := by
  have k := chain_ok hok
  have h16 := chV_len k.1 cuts cuts.length
  have e1 := c_view_Contains s.view.mem (Nat.le_trans hs.view (by decide)) from'
  have e2 := m_mem_catchUpA s hs first cuts hok hc hst hf hn0 hall
  obtain ⟨n, hn⟩ : ∃ n, cuts.length = n + 1 := ⟨cuts.length - 1, by have := List.length_pos_iff.2 hn0; omega⟩
  have hX : extS s first cuts cuts.length = enterM { extS s first cuts n with hist := cuts.take (n + 1) } (chV first cuts (n + 1)) := by rw [hn]; rfl
  have hk := ext_keep s first cuts n
  have hdec := enter_dec { extS s first cuts n with hist := cuts.take (n + 1) } (chV first cuts (n + 1))
  have hsm : SmM (extS s first cuts cuts.length) := by
    rw [hX]
    refine enter_sm (by rw [← hn]; omega) ?_ ?_ ?_ ?_
    · simp only []
      rw [hk.1]
      exact hs.cont
    · simp only []
      rw [hk.2.1]
      exact hs.first
    · simp only [List.length_take]
      have := k.2.1
      omega
    · intro c hm
      have := (hc c (List.mem_of_mem_take hm)).1
      omega
  rw [← hX] at hdec
  generalize extS s first cuts cuts.length = X at *
  have e3 := c_mem_settle0 X hdec.1
  have e4 := m_mem_settleDoubts0 X hsm hdec.2.1
  refine retM_of_body (fn := Tryz.f54) (c := Tryz.f54.body.getD .skip) hm hT (by kernel_rfl) Tryz.func54 (by kernel_rfl) (by kernel_rfl) (by kernel_rfl) (by kernel_rfl) (by kernel_rfl) ?_
  repeat' ((conv => whnf); first | refine And.intro (fun h => h) ?_ | refine dcond_t (by assumption) ?_ | refine dcond_f (by assumption) ?_ | (refine dcond_intro ?_ ?_ <;> intro h) | exact .refl | refine And.intro (by kernel_rfl) ?_ | refine And.intro ⟨fun h => h, fun h => h⟩ ?_ | refine .inl ⟨_, _, DleAll_refl _, e1, ?_⟩ | refine ⟨_, _, DleAll_refl _, fun _ => e1, ?_⟩ | refine ⟨_, _, DleAll_refl _, e1, ?_⟩ | refine .inr ⟨[0], _, _, _, _, _, e2, by rfl, ⟨.refl, trivial⟩, ⟨.refl, .refl, trivial⟩, ?_⟩ | refine .inl ⟨_, _, DleAll_refl _, e3, ?_⟩ | refine ⟨_, _, DleAll_refl _, fun _ => e3, ?_⟩ | refine ⟨_, _, DleAll_refl _, e3, ?_⟩ | refine .inr ⟨[0], _, _, _, _, _, e4, by rfl, ⟨.refl, trivial⟩, ⟨.refl, trivial⟩, ?_⟩ | refine Exists.intro false ?_ | (refine And.intro ?_ ?_; focus (simp; done)) | fail)
  all_goals (conv => whnf)
  all_goals exact ⟨.refl, ⟨.refl, .refl, trivial⟩, by rfl⟩

set_option maxHeartbeats 8000000 in
theorem c_mem_ReceiveA (s : Mem) (hs : SmM s) (hh : s.hist = []) (hv : validM s = true) (from' : Int) (hid : idB from' = true) (hne : from' ≠ s.self) (first : View) (cuts : List (List Int)) (hok : (chainR first cuts).2 = true) (hc : ∀ c ∈ cuts, OkCut c) (hst : s.status = 1) (hf : sameV first s.first = true) (hn0 : cuts ≠ [])
    (hall : ∀ i, i < cuts.length → (extS s first cuts i).status = 1) :
    Ret Tryz.prog 23 [.agg (memF s .nl), i64 from', .lst 1 ((hiW first cuts).map byteI) false] (.tup [.agg (memE (extS s first cuts cuts.length)), .lst 2 (([] : List Pk).map pkE) false, i64 0]) := by
  have k := chain_ok hok
  have e1 := c_mem_Valid s hs
  rw [hv] at e1
  have e2 := c_mem_identifier from'
  rw [hid] at e2
  have e3 := c_mem_read_hi s first cuts k.1 k.2.1 hc hok
  have e4 := c_mem_cloneN s hs
  have e5 := m_mem_handleHi s hs from' first cuts hok hc hst hf hn0 hall
  have hle : dle (.agg (memF s .nl)) (.agg (memE s)) := dle_aggA ⟨.refl, .refl, .refl, .refl, .refl, by rw [hh]; exact .nl, .refl, .refl, .refl, .refl, .refl, .refl, .refl, .refl, .refl, .refl, .refl, .refl, .refl, .refl, .refl, .refl, .refl, .refl, .refl, .refl, .refl, .refl, .refl, trivial⟩
  have hd : decide (from' = s.self) = false := decide_eq_false hne
  have h0 : decide (s.status = 0) = false := by rw [hst]; rfl
  have h1 : decide (s.status = 1) = true := by rw [hst]; rfl
  have hg : (!true || !true || decide (from' = s.self)) = false := by rw [hd]; rfl
  have hg2 : (decide (s.status = 0) && decide ((4 : Int) = 4)) = false := by rw [h0]; rfl
  generalize extS s first cuts cuts.length = X at *
  generalize hiW first cuts = W at *
  refine ret_of_body (fn := Tryz.f23) (c := Tryz.f23.body.getD .skip) hm hT (by kernel_rfl) Tryz.func23 (by kernel_rfl) (by kernel_rfl) (by kernel_rfl) (by kernel_rfl) ?_
  repeat' ((conv => whnf); first | refine And.intro (fun h => h) ?_ | refine dcond_t (by assumption) ?_ | refine dcond_f (by assumption) ?_ | (refine dcond_intro ?_ ?_ <;> intro h) | exact .refl | refine And.intro (by kernel_rfl) ?_ | refine And.intro ⟨fun h => h, fun h => h⟩ ?_ | refine .inl ⟨[.agg (memE s)], _, ⟨hle, trivial⟩, e1, ?_⟩ | refine .inl ⟨_, _, DleAll_refl _, e2, ?_⟩ | refine ⟨_, _, DleAll_refl _, fun _ => e2, ?_⟩ | refine ⟨_, _, DleAll_refl _, e2, ?_⟩ | refine dcond_f hg ?_ | refine .inl ⟨[.agg (memE s), _], _, ⟨hle, .refl, trivial⟩, e3, ?_⟩ | refine .inl ⟨_, _, DleAll_refl _, e4, ?_⟩ | refine ⟨_, _, DleAll_refl _, fun _ => e4, ?_⟩ | refine ⟨_, _, DleAll_refl _, e4, ?_⟩ | refine dcond_f hg2 ?_ | refine dcond_t h1 ?_ | refine .inr ⟨[1], _, _, _, _, _, e5, by rfl, ⟨.refl, trivial⟩, ⟨.refl, .refl, .refl, trivial⟩, ?_⟩ | refine .inr ⟨[2], _, _, _, _, _, e5, by rfl, ⟨.refl, trivial⟩, ⟨.refl, .refl, .refl, trivial⟩, ?_⟩ | refine .inr ⟨[3], _, _, _, _, _, e5, by rfl, ⟨.refl, trivial⟩, ⟨.refl, .refl, .refl, trivial⟩, ?_⟩ | refine .inr ⟨[4], _, _, _, _, _, e5, by rfl, ⟨.refl, trivial⟩, ⟨.refl, .refl, .refl, trivial⟩, ?_⟩ | refine Exists.intro false ?_ | (refine And.intro ?_ ?_; focus (simp; done)) | fail)
  all_goals (conv => whnf)
  exact dle_tupA ⟨.refl, .nl, .refl, trivial⟩
set_option maxHeartbeats 8000000 in
theorem c_mem_ReceiveJ (s : Mem) (hs : SmM s) (hv : validM s = true) (from' : Int) (hid : idB from' = true) (hne : from' ≠ s.self) (first : View) (cuts : List (List Int)) (hok : (chainR first cuts).2 = true) (hc : ∀ c ∈ cuts, OkCut c) (hst : s.status = 0) (hin : inB (chV first cuts cuts.length).mem s.self = true) :
    Ret Tryz.prog 23 [.agg (memE s), i64 from', .lst 1 ((hiW first cuts).map byteI) false] (.tup [.agg (memE (enterM { s with first := first, hist := cuts, cont := [] } (chV first cuts cuts.length))), .lst 2 (([] : List Pk).map pkE) false, i64 0]) := by
  have k := chain_ok hok
  have e1 := c_mem_Valid s hs
  rw [hv] at e1
  have e2 := c_mem_identifier from'
  rw [hid] at e2
  have e3 := c_mem_read_hi s first cuts k.1 k.2.1 hc hok
  have e4 := c_mem_clone s hs
  have e5 := m_mem_catchUpJ s hs first cuts hok hc hst hin
  have hd : decide (from' = s.self) = false := decide_eq_false hne
  have h0 : decide (s.status = 0) = true := by rw [hst]; rfl
  have hg : (!true || !true || decide (from' = s.self)) = false := by rw [hd]; rfl
  have hg2 : (decide (s.status = 0) && decide ((4 : Int) = 4)) = true := by rw [h0]; rfl
  generalize enterM { s with first := first, hist := cuts, cont := [] } (chV first cuts cuts.length) = X at *
  generalize hiW first cuts = W at *
  refine ret_of_body (fn := Tryz.f23) (c := Tryz.f23.body.getD .skip) hm hT (by kernel_rfl) Tryz.func23 (by kernel_rfl) (by kernel_rfl) (by kernel_rfl) (by kernel_rfl) ?_
  repeat' ((conv => whnf); first | refine And.intro (fun h => h) ?_ | refine dcond_t (by assumption) ?_ | refine dcond_f (by assumption) ?_ | (refine dcond_intro ?_ ?_ <;> intro h) | exact .refl | refine And.intro (by kernel_rfl) ?_ | refine And.intro ⟨fun h => h, fun h => h⟩ ?_ | refine .inl ⟨_, _, DleAll_refl _, e1, ?_⟩ | refine ⟨_, _, DleAll_refl _, fun _ => e1, ?_⟩ | refine ⟨_, _, DleAll_refl _, e1, ?_⟩ | refine .inl ⟨_, _, DleAll_refl _, e2, ?_⟩ | refine ⟨_, _, DleAll_refl _, fun _ => e2, ?_⟩ | refine ⟨_, _, DleAll_refl _, e2, ?_⟩ | refine dcond_f hg ?_ | refine .inl ⟨_, _, DleAll_refl _, e3, ?_⟩ | refine ⟨_, _, DleAll_refl _, fun _ => e3, ?_⟩ | refine ⟨_, _, DleAll_refl _, e3, ?_⟩ | refine .inl ⟨_, _, DleAll_refl _, e4, ?_⟩ | refine ⟨_, _, DleAll_refl _, fun _ => e4, ?_⟩ | refine ⟨_, _, DleAll_refl _, e4, ?_⟩ | refine dcond_t hg2 ?_ | refine .inr ⟨[1], _, _, _, _, _, e5, by rfl, ⟨.refl, trivial⟩, ⟨.refl, .refl, trivial⟩, ?_⟩ | refine .inr ⟨[2], _, _, _, _, _, e5, by rfl, ⟨.refl, trivial⟩, ⟨.refl, .refl, trivial⟩, ?_⟩ | refine .inr ⟨[3], _, _, _, _, _, e5, by rfl, ⟨.refl, trivial⟩, ⟨.refl, .refl, trivial⟩, ?_⟩ | refine .inr ⟨[4], _, _, _, _, _, e5, by rfl, ⟨.refl, trivial⟩, ⟨.refl, .refl, trivial⟩, ?_⟩ | refine Exists.intro false ?_ | (refine And.intro ?_ ?_; focus (simp; done)) | fail)
  all_goals (conv => whnf)
  exact dle_tupA ⟨.refl, .nl, .refl, trivial⟩
end Go.Proofs.YtdcfooeoaoahjaaGreat

set_option maxRecDepth 100000
namespace Go.Proofs.YtdcfooeoaoahjaaGreat
open Go.Lift
theorem wrap_u8 (n : Int) : IntKind.u8.wrap n = n % 256 := by simp [IntKind.wrap, IntKind.bits, IntKind.signed]
theorem rem8 (w : Nat) : IntKind.u8.wrap (IntKind.u8.wrap ((w : Int).tmod 128) + 128) = ((w % 128 + 128 : Nat) : Int) := by
  have e : (w : Int).tmod 128 = ((w % 128 : Nat) : Int) := (Int.ofNat_tmod w 128).symm
  rw [e, wrap_u8, wrap_u8]
  omega
theorem quo8 (w : Nat) (h : w < 18446744073709551616) : IntKind.u64.wrap ((w : Int).tdiv 128) = ((w / 128 : Nat) : Int) := by
  have e : (w : Int).tdiv 128 = ((w / 128 : Nat) : Int) := (Int.ofNat_tdiv w 128).symm
  rw [e]
  exact u64_id (by omega) (by omega)
theorem m_ref1_Uint (v : Nat) (hv : v < 18446744073709551616) : RetM Tryz.prog 48 [] [u64 v] [] [.row 5 1 ((leb v).map byteI)] (.own 0) := by
  refine retM_of_body (fn := Tryz.f48) (c := Tryz.f48.body.getD .skip) hm hT (by kernel_rfl) Tryz.func48 (by kernel_rfl) (by kernel_rfl) (by kernel_rfl) (by kernel_rfl) (by kernel_rfl) ?_
  repeat' ((conv => whnf); first | refine And.intro (fun h => h) ?_ | refine dcond_t (by assumption) ?_ | refine dcond_f (by assumption) ?_ | (refine dcond_intro ?_ ?_ <;> intro h) | exact .refl | refine And.intro (by kernel_rfl) ?_ | refine And.intro ⟨fun h => h, fun h => h⟩ ?_ | refine Exists.intro false ?_ | (refine And.intro ?_ ?_; focus (simp; done)) | fail)
  all_goals (conv => whnf)
  refine ⟨Nat × Nat × List Nat, fun s => ⟨[(0, u64 s.2.1), (3, .own 0)], [.row 5 1 (s.2.2.map byteI)]⟩, fun s => s.2.2 ++ lebF s.1 s.2.1 = leb v ∧ s.2.1 < 2 ^ (7 * s.1 + 1) ∧ s.1 ≤ 9 ∧ s.2.2.length ≤ 9 - s.1, fun s => s.1, [.slot 3 5 1], ⟨(9, v, []), ⟨rfl, hv, by omega, by simp⟩, ?_⟩, ?_⟩
  · conv => whnf
    exact ⟨⟨.refl, .refl, trivial⟩, ⟨.refl, trivial⟩, by rfl⟩
  · rintro ⟨k, w, out⟩ ⟨hinv, hw, hk, hol⟩
    simp only [] at hinv hw hk hol
    have hw64 : w < 18446744073709551616 := Nat.lt_of_lt_of_le hw (by
      have : 2 ^ (7 * k + 1) ≤ 2 ^ 64 := Nat.pow_le_pow_right (by decide) (by omega)
      exact this)
    have hr8 := rem8 w
    have hq8 := quo8 w hw64
    repeat' ((conv => whnf); first | refine And.intro (fun h => h) ?_ | refine dcond_t (by assumption) ?_ | refine dcond_f (by assumption) ?_ | (refine dcond_intro ?_ ?_ <;> intro h) | exact .refl | refine And.intro (by kernel_rfl) ?_ | refine And.intro ⟨fun h => h, fun h => h⟩ ?_ | refine And.intro (fitsB (by simp <;> omega)) ?_ | refine Exists.intro false ?_ | (refine And.intro ?_ ?_; focus (simp; done)) | fail)
    all_goals (conv => whnf)
    · have h128 : 128 ≤ w := by
        have := of_decide_eq_true h
        simp only [] at this
        omega
      clear h
      obtain ⟨k, rfl⟩ : ∃ m, k = m + 1 := by
        cases k with
        | zero => omega
        | succ m => exact ⟨m, rfl⟩
      rw [lebF, if_neg (by omega)] at hinv
      refine ⟨⟨k, w / 128, out ++ [w % 128 + 128]⟩, ⟨by simpa using hinv, ?_, by omega, by simp; omega⟩, by simp only []; omega, ?_⟩
      · simp only []
        refine Nat.div_lt_of_lt_mul ?_
        rw [show 7 * (k + 1) + 1 = 7 + (7 * k + 1) by omega, Nat.pow_add] at hw
        exact hw
      · conv => whnf
        refine ⟨⟨dle_int hq8, .refl, trivial⟩, ⟨ole_row ?_, trivial⟩, by rfl⟩
        show out.map byteI ++ [[.v (.int .u8 (IntKind.u8.wrap (IntKind.u8.wrap ((w : Int).tmod 128) + 128)))]] = _
        rw [hr8, List.map_append]
        rfl
    · have h128 : w < 128 := by
        have := of_decide_eq_false h
        simp only [] at this
        omega
      clear h
      have hl1 : lebF k w = [w] := by
        cases k with
        | zero => rw [lebF, Nat.mod_eq_of_lt (by omega)]
        | succ m => rw [lebF, if_pos h128]
      rw [hl1] at hinv
      have hw8 : IntKind.u8.wrap (w : Int) = (w : Int) := by
        rw [wrap_u8]
        omega
      refine ⟨.refl, ⟨ole_row ?_, trivial⟩, by rfl⟩
      show out.map byteI ++ [[.v (.int .u8 (IntKind.u8.wrap (w : Int)))]] = _
      rw [← hinv, hw8, List.map_append]
      rfl
theorem c_ref1_Zigzag (v : Int) (h1 : -1 ≤ v) (h2 : v ≤ 1099511627776) : Ret Tryz.prog 127 [i64 v] (u64 (zz v)) := by
  have hz : zz v = if v < 0 then 1 else (2 * v).toNat := rfl
  refine ret_of_body (fn := Tryz.f127) (c := Tryz.f127.body.getD .skip) hm hT (by kernel_rfl) Tryz.func127 (by kernel_rfl) (by kernel_rfl) (by kernel_rfl) (by kernel_rfl) ?_
  repeat' ((conv => whnf); first | refine And.intro (fun h => h) ?_ | refine dcond_t (by assumption) ?_ | refine dcond_f (by assumption) ?_ | (refine dcond_intro ?_ ?_ <;> intro h) | exact .refl | refine And.intro (by kernel_rfl) ?_ | refine And.intro ⟨fun h => h, fun h => h⟩ ?_ | refine Exists.intro false ?_ | (refine And.intro ?_ ?_; focus (simp; done)) | fail)
  all_goals (conv => whnf)
  · have hv : v = -1 := by
      have := of_decide_eq_true h
      omega
    subst hv
    exact dle_int (by decide)
  · have hv : ¬ v < 0 := of_decide_eq_false h
    refine dle_int ?_
    rw [hz, if_neg hv, u64_id (n := v) (by omega) (by omega), u64_id (by omega) (by omega)]
    omega
theorem m_ref1_Int (v : Int) (h1 : -1 ≤ v) (h2 : v ≤ 1099511627776) : RetM Tryz.prog 71 [] [i64 v] [] [.row 5 1 ((leb (zz v)).map byteI)] (.own 0) := by
  have e1 := c_ref1_Zigzag v h1 h2
  have e2 := m_ref1_Uint (zz v) (zz_lt h2)
  refine retM_of_body (fn := Tryz.f71) (c := Tryz.f71.body.getD .skip) hm hT (by kernel_rfl) Tryz.func71 (by kernel_rfl) (by kernel_rfl) (by kernel_rfl) (by kernel_rfl) (by kernel_rfl) ?_
  repeat' ((conv => whnf); first | refine And.intro (fun h => h) ?_ | refine dcond_t (by assumption) ?_ | refine dcond_f (by assumption) ?_ | (refine dcond_intro ?_ ?_ <;> intro h) | exact .refl | refine And.intro (by kernel_rfl) ?_ | refine And.intro ⟨fun h => h, fun h => h⟩ ?_ | refine .inl ⟨_, _, DleAll_refl _, e1, ?_⟩ | refine ⟨_, _, DleAll_refl _, fun _ => e1, ?_⟩ | refine ⟨_, _, DleAll_refl _, e1, ?_⟩ | refine .inr ⟨[], [], _, [], _, _, e2, by rfl, trivial, ⟨.refl, trivial⟩, ?_⟩ | refine Exists.intro false ?_ | (refine And.intro ?_ ?_; focus (simp; done)) | fail)
  all_goals (conv => whnf)
  exact ⟨.refl, ⟨.refl, trivial⟩, by rfl⟩
theorem m_ref1_IntList (l : List Int) (hl : l.length ≤ 1000) (hr : ∀ v ∈ l, -1 ≤ v ∧ v ≤ 1099511627776) : RetM Tryz.prog 49 [] [.lst 1 (l.map intE) false] [] [.row 5 1 ((intsB l).map byteI)] (.own 0) := by
  have hu : IntKind.u64.wrap ((l.map intE).length : Int) = ((l.length : Nat) : Int) := by
    rw [List.length_map]
    exact u64_id (by omega) (by omega)
  have e1 := m_ref1_Uint l.length (by omega)
  have hll : (leb l.length).length ≤ 10 := leb_len 9 l.length
  refine retM_of_body (fn := Tryz.f49) (c := Tryz.f49.body.getD .skip) hm hT (by kernel_rfl) Tryz.func49 (by kernel_rfl) (by kernel_rfl) (by kernel_rfl) (by kernel_rfl) (by kernel_rfl) ?_
  repeat' ((conv => whnf); first | refine And.intro (fun h => h) ?_ | refine dcond_t (by assumption) ?_ | refine dcond_f (by assumption) ?_ | (refine dcond_intro ?_ ?_ <;> intro h) | exact .refl | refine And.intro (by kernel_rfl) ?_ | refine And.intro ⟨fun h => h, fun h => h⟩ ?_ | refine .inr ⟨[], [], _, [], _, _, e1, by rfl, trivial, ⟨dle_int hu, trivial⟩, ?_⟩ | refine Exists.intro false ?_ | (refine And.intro ?_ ?_; focus (simp; done)) | fail)
  all_goals (conv => whnf)
  refine ⟨Nat, fun i => ⟨[(0, .lst 1 (l.map intE) false), (3, .own 0), (4, i64 i)], [.row 5 1 ((leb l.length ++ intsT (l.take i)).map byteI)]⟩, fun i => i ≤ l.length, fun i => l.length - i, [], ⟨0, Nat.zero_le _, ?_⟩, ?_⟩
  · conv => whnf
    exact ⟨⟨.refl, .refl, .refl, trivial⟩, ⟨ole_row (by simp [intsT]), trivial⟩, by rfl⟩
  · intro i hi
    repeat' ((conv => whnf); first | refine And.intro (fun h => h) ?_ | refine dcond_t (by assumption) ?_ | refine dcond_f (by assumption) ?_ | (refine dcond_intro ?_ ?_ <;> intro h) | exact .refl | refine And.intro (by kernel_rfl) ?_ | refine And.intro ⟨fun h => h, fun h => h⟩ ?_ | refine Exists.intro false ?_ | (refine And.intro ?_ ?_; focus (simp; done)) | fail)
    all_goals (conv => whnf)
    · have hlt : i < l.length := by simpa using h
      clear h
      have hv := hr _ (List.getElem_mem hlt)
      have hlen := intsT_len (l.take i)
      have hti : (l.take i).length = i := by simp; omega
      have hl2 : (leb (zz l[i])).length ≤ 10 := leb_len 9 _
      have m3 := m_ref1_Int l[i] hv.1 hv.2
      have hnx : (leb l.length ++ intsT (l.take i)).map byteI ++ (leb (zz l[i])).map byteI = (leb l.length ++ intsT (l.take (i + 1))).map byteI := by
        rw [← List.map_append, List.append_assoc]
        congr 2
        unfold intsT
        rw [List.take_succ_eq_append_getElem hlt, List.flatMap_append]
        simp
      repeat' ((conv => whnf); first | refine And.intro (fun h => h) ?_ | refine dcond_t (by assumption) ?_ | refine dcond_f (by assumption) ?_ | (refine dcond_intro ?_ ?_ <;> intro h) | exact .refl | refine And.intro (by kernel_rfl) ?_ | refine And.intro ⟨fun h => h, fun h => h⟩ ?_ | refine ⟨_, _, And.intro ⟨rfl, get_map hlt⟩ ?_⟩ | refine .inr ⟨[], [], _, [], _, _, m3, by rfl, trivial, ⟨.refl, trivial⟩, ?_⟩ | refine And.intro (fitsB (by simp <;> omega)) ?_ | refine Exists.intro false ?_ | (refine And.intro ?_ ?_; focus (simp; done)) | fail)
      all_goals (conv => whnf)
      refine ⟨i + 1, hlt, by simp only []; omega, ?_⟩
      conv => whnf
      exact ⟨⟨.refl, .refl, dle_int (wrap_succ (by omega)), trivial⟩, ⟨ole_row hnx, trivial⟩, by rfl⟩
    · have hin : i = l.length := by
        have := of_decide_eq_false h
        simp at this
        omega
      subst hin
      rw [List.take_length]
      exact ⟨.refl, ⟨.refl, trivial⟩, by rfl⟩
end Go.Proofs.YtdcfooeoaoahjaaGreat
