/- The laws of this seat, part OwB: contracts of the functions, plain laws. No conditions. -/
import Derived.Test.YtdcfooeoaoahjaaGreatOwA
import Derived.Test.YtdcfooeoaoahjaaGreatLfD
import Derived.Test.YtdcfooeoaoahjaaGreatLfE
set_option linter.unusedSimpArgs false
set_option linter.unusedVariables false
set_option maxRecDepth 100000
namespace Go.Proofs.YtdcfooeoaoahjaaGreat
open Go.Lift
theorem wcopy {l : List (List DV)} {z : List DV} : l.take (List.replicate l.length z).length ++ (List.replicate l.length z).drop l.length = l := by
  rw [List.length_replicate, List.drop_of_length_le (Nat.le_of_eq (List.length_replicate ..)), List.append_nil, List.take_of_length_le (Nat.le_refl _)]
theorem fitsB {n : Nat} (h : n ≤ 2000000) : fitsIn tt 5 n := by
  have e : (tinfo tt 5).bytes = 1 := by kernel_rfl
  refine ⟨?_, ?_⟩
  · rw [e]; omega
  · simp only [maxLen]; omega
theorem fitsB' {n : Nat} (h : n ≤ 2000000) : n * (tinfo tt 5).bytes ≤ 140737488355328 ∧ n ≤ maxLen := fitsB h
theorem m_extend (l : List Nat) (hl : l.length ≤ 1000000) : RetM Tryz.prog 133 [] [.lst 1 (l.map byteI) false, i64 10] [] [.row 5 1 (l.map byteI)] (.own 0) := by
  have hc : IntKind.i64.wrap (((l.map byteI).length : Int) + 10) = ((l.length + 10 : Nat) : Int) := by
    rw [List.length_map, wrap_i64 (by omega) (by omega)]
    omega
  have f1 := fitsB' (n := l.length + 10) (by omega)
  refine retM_of_body (fn := Tryz.f133) (c := Tryz.f133.body.getD .skip) hm hT (by kernel_rfl) Tryz.func133 (by kernel_rfl) (by kernel_rfl) (by kernel_rfl) (by kernel_rfl) (by kernel_rfl) ?_
  repeat' ((conv => whnf); first | refine And.intro (fun h => h) ?_ | refine dcond_t (by assumption) ?_ | refine dcond_f (by assumption) ?_ | (refine dcond_intro ?_ ?_ <;> intro h) | exact .refl | refine And.intro (by kernel_rfl) ?_ | refine And.intro ⟨fun h => h, fun h => h⟩ ?_ | refine Exists.intro false ?_ | (refine And.intro ?_ ?_; focus (simp; done)) | fail)
  all_goals (conv => whnf)
  refine ⟨(l.map byteI).length, l.length + 10, rfl, hc, by simp, f1.1, f1.2, ?_⟩
  repeat' ((conv => whnf); first | refine And.intro (fun h => h) ?_ | refine dcond_t (by assumption) ?_ | refine dcond_f (by assumption) ?_ | (refine dcond_intro ?_ ?_ <;> intro h) | exact .refl | refine And.intro (by kernel_rfl) ?_ | refine And.intro ⟨fun h => h, fun h => h⟩ ?_ | refine Exists.intro false ?_ | (refine And.intro ?_ ?_; focus (simp; done)) | fail)
  all_goals (conv => whnf)
  exact ⟨.refl, ⟨ole_row wcopy, trivial⟩, by rfl⟩
def lebF : Nat → Nat → List Nat
  | 0, v => [v % 256]
  | k + 1, v => if v < 128 then [v] else (v % 128 + 128) :: lebF k (v / 128)
def leb (v : Nat) : List Nat := lebF 9 v
theorem or128 (w : Nat) : bits .or .u8 (IntKind.u8.wrap (w : Int)) 128 = ((w % 128 + 128 : Nat) : Int) := by
  have h : ∀ b : Fin 256, bits .or .u8 ((b.1 : Nat) : Int) 128 = ((b.1 % 128 + 128 : Nat) : Int) := by decide +kernel
  have h := h ⟨w % 256, Nat.mod_lt _ (by decide)⟩
  have e : IntKind.u8.wrap (w : Int) = ((w % 256 : Nat) : Int) := by
    simp [IntKind.wrap, IntKind.bits, IntKind.signed]
  rw [e]
  refine h.trans ?_
  simp only []
  omega
theorem shr7 (w : Nat) : (w : Int).fdiv (2 ^ (min (7 : Int).toNat 64)) = ((w / 128 : Nat) : Int) := (Int.ofNat_fdiv w 128).symm
theorem gh_junk {d : DV} : ole (.gh [d]) (.gh [.junk]) := .gh rfl fun i a b ha hb => by
  cases i with
  | zero =>
    simp at ha hb
    subst ha hb
    exact .junk
  | succ n => simp at ha
theorem m_putUint (l : List Nat) (hl : l.length ≤ 1000000) (v : Nat) (hv : v < 18446744073709551616) : RetM Tryz.prog 158 [.row 5 1 (l.map byteI)] [.own 0, u64 v] [false] [.row 5 1 ((l ++ leb v).map byteI), .dead] (.own 0) := by
  refine retM_of_body (fn := Tryz.f158) (c := Tryz.f158.body.getD .skip) hm hT (by kernel_rfl) Tryz.func158 (by kernel_rfl) (by kernel_rfl) (by kernel_rfl) (by kernel_rfl) (by kernel_rfl) ?_
  repeat' ((conv => whnf); first | refine And.intro (fun h => h) ?_ | refine dcond_t (by assumption) ?_ | refine dcond_f (by assumption) ?_ | (refine dcond_intro ?_ ?_ <;> intro h) | exact .refl | refine And.intro (by kernel_rfl) ?_ | refine And.intro ⟨fun h => h, fun h => h⟩ ?_ | refine Exists.intro false ?_ | (refine And.intro ?_ ?_; focus (simp; done)) | fail)
  all_goals (conv => whnf)
  refine ⟨List Nat × Nat × Nat, fun x => ⟨[(0, .own 0), (1, u64 x.2.1)], [.row 5 1 (x.1.map byteI), .gh [.junk]]⟩, fun x => x.1 ++ lebF x.2.2 x.2.1 = l ++ leb v ∧ x.2.1 < 128 ^ (x.2.2 + 1) ∧ x.1.length + x.2.2 ≤ l.length + 9, fun x => x.2.2, [], ⟨⟨l, v, 9⟩, ⟨rfl, by simp only []; omega, Nat.le_refl _⟩, ?_⟩, ?_⟩
  · conv => whnf
    exact ⟨⟨.refl, .refl, trivial⟩, ⟨.refl, gh_junk, trivial⟩, by rfl⟩
  · intro ⟨es, w, k⟩ ⟨hi, hw, hk⟩
    simp only [] at hi hw hk
    have ho := or128 w
    have hs := shr7 w
    have hf : (es.map byteI).length + 1 ≤ 2000000 := by
      rw [List.length_map]
      omega
    repeat' ((conv => whnf); first | refine And.intro (fun h => h) ?_ | refine dcond_t (by assumption) ?_ | refine dcond_f (by assumption) ?_ | (refine dcond_intro ?_ ?_ <;> intro h) | exact .refl | refine And.intro (by kernel_rfl) ?_ | refine And.intro ⟨fun h => h, fun h => h⟩ ?_ | refine And.intro (fitsB hf) ?_ | refine Exists.intro false ?_ | (refine And.intro ?_ ?_; focus (simp; done)) | fail)
    all_goals (conv => whnf)
    · have h128 : 128 ≤ w := by
        have := of_decide_eq_true h
        simp only [] at this
        omega
      clear h
      obtain ⟨k, rfl⟩ : ∃ m, k = m + 1 := by
        cases k with
        | zero => omega
        | succ m => exact ⟨m, rfl⟩
      rw [lebF, if_neg (by omega)] at hi
      refine ⟨⟨es ++ [w % 128 + 128], w / 128, k⟩, ⟨by simpa using hi, ?_, by simp; omega⟩, by simp only []; omega, ?_⟩
      · simp only []
        refine Nat.div_lt_of_lt_mul ?_
        rw [Nat.pow_succ, Nat.mul_comm] at hw
        exact hw
      · conv => whnf
        refine ⟨⟨.refl, dle_int hs, trivial⟩, ⟨ole_row ?_, gh_junk, trivial⟩, by rfl⟩
        show es.map byteI ++ [[.v (.int .u8 (bits .or .u8 (IntKind.u8.wrap (w : Int)) 128))]] = _
        rw [ho, List.map_append]
        rfl
    · have h128 : w < 128 := by
        have := of_decide_eq_false h
        simp only [] at this
        omega
      clear h
      have hl1 : lebF k w = [w] := by
        cases k with
        | zero => rw [lebF, Nat.mod_eq_of_lt (by omega)]
        | succ m => rw [lebF, if_pos h128]
      rw [hl1] at hi
      have hw8 : IntKind.u8.wrap (w : Int) = (w : Int) := by
        simp only [IntKind.wrap, IntKind.bits, IntKind.signed]
        simp
        omega
      refine ⟨.refl, ⟨ole_row ?_, gh_junk, trivial⟩, by rfl⟩
      show es.map byteI ++ [[.v (.int .u8 (IntKind.u8.wrap (w : Int)))]] = _
      rw [← hi, hw8, List.map_append]
      rfl
theorem leb_len : ∀ (k v : Nat), (lebF k v).length ≤ k + 1
  | 0, v => by simp [lebF]
  | k + 1, v => by
    rw [lebF]
    split
    · simp
    · simpa using leb_len k (v / 128)
theorem c_AppendUint (l : List Nat) (hl : l.length ≤ 900000) (v : Nat) (hv : v < 18446744073709551616) : Ret Tryz.prog 99 [.lst 1 (l.map byteI) false, u64 v] (.lst 1 ((l ++ leb v).map byteI) false) := by
  have m1 := m_extend l (by omega)
  have m2 := m_putUint l (by omega) v hv
  refine ret_of_body (fn := Tryz.f99) (c := Tryz.f99.body.getD .skip) hm hT (by kernel_rfl) Tryz.func99 (by kernel_rfl) (by kernel_rfl) (by kernel_rfl) (by kernel_rfl) ?_
  repeat' ((conv => whnf); first | refine And.intro (fun h => h) ?_ | refine dcond_t (by assumption) ?_ | refine dcond_f (by assumption) ?_ | (refine dcond_intro ?_ ?_ <;> intro h) | exact .refl | refine And.intro (by kernel_rfl) ?_ | refine And.intro ⟨fun h => h, fun h => h⟩ ?_ | refine .inr ⟨[], [], _, [], _, _, m1, by rfl, trivial, ⟨.refl, .refl, trivial⟩, ?_⟩ | refine .inr ⟨[0], _, _, _, _, _, m2, by rfl, ⟨.refl, trivial⟩, ⟨.refl, .refl, trivial⟩, ?_⟩ | refine Exists.intro false ?_ | (refine And.intro ?_ ?_; focus (simp; done)) | fail)
end Go.Proofs.YtdcfooeoaoahjaaGreat

set_option maxRecDepth 100000
namespace Go.Proofs.YtdcfooeoaoahjaaGreat
open Go.Lift
def uStep (i : Nat) (b : Nat) (acc : Int) : Int := bits .or .u64 acc (IntKind.u64.wrap (IntKind.u64.wrap (bits .and .u8 (b : Int) 127) * 2 ^ (min (IntKind.i64.wrap (7 * (i : Int))).toNat 64)))
def uBad (i : Nat) (b : Nat) : Bool := (decide ((i : Int) = 9) && decide (1 < (b : Int))) || (decide (0 < (i : Int)) && decide ((b : Int) = 0))
def uintG : List Nat → Nat → Int → Int × Int × Int
  | [], _, _ => (0, 0, 2)
  | b :: r, i, acc => bif uBad i b then (0, 0, 3) else bif decide ((b : Int) < 128) then (uStep i b acc, (i : Int) + 1, 0) else uintG r (i + 1) (uStep i b acc)
theorem uint_at {l : List Nat} {i : Nat} (h : i < l.length) (acc : Int) : uintG (l.drop i) i acc = bif uBad i l[i] then (0, 0, 3) else bif decide ((l[i] : Int) < 128) then (uStep i l[i] acc, (i : Int) + 1, 0) else uintG (l.drop (i + 1)) (i + 1) (uStep i l[i] acc) := by
  rw [List.drop_eq_getElem_cons h, uintG]
set_option maxRecDepth 100000 in
theorem c_Uint (l : List Nat) (hl : l.length ≤ 1000000) : Ret Tryz.prog 134 [.lst 1 (l.map byteI) false] (.tup [u64 (uintG l 0 0).1, i64 (uintG l 0 0).2.1, i64 (uintG l 0 0).2.2]) := by
  have hs : ∀ i (h : i < l.length) acc, uintG (l.drop i) i acc = bif uBad i l[i] then (0, 0, 3) else bif decide ((l[i] : Int) < 128) then (uStep i l[i] acc, (i : Int) + 1, 0) else uintG (l.drop (i + 1)) (i + 1) (uStep i l[i] acc) := fun i h acc => uint_at h acc
  have he : ∀ acc, uintG (l.drop l.length) l.length acc = (0, 0, 2) := fun acc => by rw [List.drop_length, uintG]
  have h0 : uintG (l.drop 0) 0 0 = uintG l 0 0 := rfl
  generalize uintG l 0 0 = R at *
  refine ret_of_body (fn := Tryz.f134) (c := Tryz.f134.body.getD .skip) hm hT (by kernel_rfl) Tryz.func134 (by kernel_rfl) (by kernel_rfl) (by kernel_rfl) (by kernel_rfl) ?_
  repeat' ((conv => whnf); first | refine And.intro (fun h => h) ?_ | refine dcond_t (by assumption) ?_ | refine dcond_f (by assumption) ?_ | (refine dcond_intro ?_ ?_ <;> intro h) | exact .refl | refine And.intro (by kernel_rfl) ?_ | refine And.intro ⟨fun h => h, fun h => h⟩ ?_ | refine Exists.intro false ?_ | (refine And.intro ?_ ?_; focus (simp; done)) | fail)
  all_goals (conv => whnf)
  refine ⟨Nat × Int, fun x => ⟨[(2, u64 x.2), (7, .lst 1 (l.map byteI) false), (8, i64 l.length), (9, i64 x.1)], []⟩, fun x => x.1 ≤ l.length ∧ uintG (l.drop x.1) x.1 x.2 = R, fun x => l.length - x.1, [], ⟨⟨0, 0⟩, ⟨Nat.zero_le _, h0⟩, ?_⟩, ?_⟩
  · conv => whnf
    exact ⟨⟨.refl, .refl, dle_int (by simp), .refl, trivial⟩, trivial, by rfl⟩
  · intro ⟨i, acc⟩ ⟨hi, hR⟩
    simp only [] at hi hR
    repeat' ((conv => whnf); first | refine And.intro (fun h => h) ?_ | refine dcond_t (by assumption) ?_ | refine dcond_f (by assumption) ?_ | (refine dcond_intro ?_ ?_ <;> intro h) | exact .refl | refine And.intro (by kernel_rfl) ?_ | refine And.intro ⟨fun h => h, fun h => h⟩ ?_ | refine Exists.intro false ?_ | (refine And.intro ?_ ?_; focus (simp; done)) | fail)
    · have hlt : i < l.length := by simpa using h
      clear h
      have hs := hs i hlt acc
      rw [hR] at hs
      have hb : uBad i l[i] = ((decide ((i : Int) = 9) && decide (1 < (l[i] : Int))) || (decide (0 < (i : Int)) && decide ((l[i] : Int) = 0))) := rfl
      have hst : uStep i l[i] acc = bits .or .u64 acc (IntKind.u64.wrap (IntKind.u64.wrap (bits .and .u8 (l[i] : Int) 127) * 2 ^ (min (IntKind.i64.wrap (7 * (i : Int))).toNat 64))) := rfl
      have hsh : 0 ≤ IntKind.i64.wrap (7 * (i : Int)) := by rw [wrap_i64 (by omega) (by omega)]; omega
      generalize uStep i l[i] acc = a' at *
      generalize uBad i l[i] = bb at *
      repeat' ((conv => whnf); first | refine And.intro (fun h => h) ?_ | refine dcond_t (by assumption) ?_ | refine dcond_f (by assumption) ?_ | (refine dcond_intro ?_ ?_ <;> intro h) | exact .refl | refine And.intro (by kernel_rfl) ?_ | refine And.intro ⟨fun h => h, fun h => h⟩ ?_ | refine ⟨_, _, And.intro ⟨rfl, get_map hlt⟩ ?_⟩ | refine And.intro hsh ?_ | refine Exists.intro false ?_ | (refine And.intro ?_ ?_; focus (simp; done)) | fail)
      all_goals (conv => whnf)
      · have hbt : bb = true := hb.trans h
        rw [hs, hbt]
        exact .refl
      · rename_i h1
        have hbf : bb = false := hb.trans h1
        rw [hs, hbf, h]
        exact dle_tupA ⟨dle_int hst.symm, dle_int (wrap_succ (by omega)), .refl, trivial⟩
      · rename_i h1
        have hbf : bb = false := hb.trans h1
        rw [hbf, h, cond_false, cond_false] at hs
        refine ⟨⟨i + 1, a'⟩, ⟨hlt, hs.symm⟩, by simp only []; omega, ?_⟩
        conv => whnf
        exact ⟨⟨dle_int hst.symm, .refl, .refl, dle_int (wrap_succ (by omega)), trivial⟩, trivial, by rfl⟩
    · have : i = l.length := by
        simp at h
        omega
      subst this
      rw [he] at hR
      subst hR
      conv => whnf
      exact .refl
theorem or_add {a b k : Nat} (ha : a < 2 ^ k) (hs : a + b * 2 ^ k < 18446744073709551616) : bits .or .u64 (a : Int) ((b * 2 ^ k : Nat) : Int) = ((a + b * 2 ^ k : Nat) : Int) := by
  have h1 : a < 2 ^ 64 := by omega
  have h2 : b * 2 ^ k < 2 ^ 64 := by omega
  have e : (BitVec.ofInt 64 (a : Int) ||| BitVec.ofInt 64 ((b * 2 ^ k : Nat) : Int)).toNat = a + b * 2 ^ k := by
    rw [BitVec.toNat_or, BitVec.ofInt_natCast, BitVec.ofInt_natCast, BitVec.toNat_ofNat, BitVec.toNat_ofNat, Nat.mod_eq_of_lt h1, Nat.mod_eq_of_lt h2]
    rw [Nat.or_comm, Nat.mul_comm b, ← Nat.two_pow_add_eq_or_of_lt ha, Nat.add_comm]
  show IntKind.u64.wrap ((BitVec.ofInt 64 (a : Int) ||| BitVec.ofInt 64 ((b * 2 ^ k : Nat) : Int)).toNat : Int) = _
  rw [e]
  exact u64_id (by omega) (by omega)
theorem and127 {b : Nat} (h : b < 256) : bits .and .u8 (b : Int) 127 = ((b % 128 : Nat) : Int) := by
  have h' : ∀ b : Fin 256, bits .and .u8 ((b.1 : Nat) : Int) 127 = ((b.1 % 128 : Nat) : Int) := by decide +kernel
  exact h' ⟨b, h⟩
theorem step_eq {i b acc : Nat} (hi : i ≤ 9) (hb : b < 256) (ha : acc < 2 ^ (7 * i)) (hs : acc + b % 128 * 2 ^ (7 * i) < 18446744073709551616) : uStep i b acc = ((acc + b % 128 * 2 ^ (7 * i) : Nat) : Int) := by
  unfold uStep
  have hm : min (IntKind.i64.wrap (7 * (i : Int))).toNat 64 = 7 * i := by
    rw [wrap_i64 (by omega) (by omega)]
    omega
  rw [hm, and127 hb, u64_id (n := ((b % 128 : Nat) : Int)) (by omega) (by omega)]
  have hp : ((2 : Int) ^ (7 * i)) = ((2 ^ (7 * i) : Nat) : Int) := (Int.natCast_pow 2 (7 * i)).symm
  rw [hp, ← Int.natCast_mul, u64_id (n := ((b % 128 * 2 ^ (7 * i) : Nat) : Int)) (by omega) (by omega)]
  exact or_add ha hs
theorem uint_leb (rest : List Nat) : ∀ (k v i acc : Nat), v < 128 ^ (k + 1) → i + k = 9 → (0 < i → 0 < v) → acc < 2 ^ (7 * i) → acc + v * 2 ^ (7 * i) < 18446744073709551616 → uintG (lebF k v ++ rest) i (acc : Int) = (((acc + v * 2 ^ (7 * i) : Nat) : Int), ((i + (lebF k v).length : Nat) : Int), 0) := by
  intro k
  have one : ∀ (v i acc : Nat), v < 128 → i ≤ 9 → (0 < i → 0 < v) → acc < 2 ^ (7 * i) → acc + v * 2 ^ (7 * i) < 18446744073709551616 → uintG (v :: rest) i (acc : Int) = (((acc + v * 2 ^ (7 * i) : Nat) : Int), ((i + 1 : Nat) : Int), 0) := by
    intro v i acc hv hi hpos ha hs
    have hbad : uBad i v = false := by
      unfold uBad
      rw [Bool.or_eq_false_iff]
      constructor
      · by_cases h9 : i = 9
        · subst h9
          have : v * 2 ^ 63 < 18446744073709551616 := by
            have : 2 ^ (7 * 9) = 2 ^ 63 := rfl
            omega
          rw [Bool.and_eq_false_iff]
          exact .inr (decide_eq_false (by omega))
        · rw [decide_eq_false (show ¬ ((i : Int) = 9) by omega), Bool.false_and]
      · by_cases h0 : 0 < i
        · have := hpos h0
          rw [decide_eq_false (show ¬ ((v : Int) = 0) by omega), Bool.and_false]
        · rw [decide_eq_false (show ¬ ((0 : Int) < (i : Int)) by omega), Bool.false_and]
    have hm : v % 128 = v := Nat.mod_eq_of_lt hv
    rw [uintG, hbad, cond_false, decide_eq_true (show (v : Int) < 128 by omega), cond_true, step_eq hi (by omega) ha (by rw [hm]; exact hs), hm]
    rfl
  induction k with
  | zero =>
    intro v i acc hv hi hpos ha hs
    have hv : v < 128 := by simpa using hv
    have e : lebF 0 v = [v] := by rw [lebF, Nat.mod_eq_of_lt (by omega)]
    rw [e]
    exact one v i acc hv (by omega) hpos ha hs
  | succ k ih =>
    intro v i acc hv hi hpos ha hs
    rw [lebF]
    by_cases h : v < 128
    · rw [if_pos h]
      exact one v i acc h (by omega) hpos ha hs
    · rw [if_neg h]
      have hp : 0 < 2 ^ (7 * i) := Nat.pow_pos (by decide)
      have hd : v = v % 128 + 128 * (v / 128) := by omega
      have hmul : v * 2 ^ (7 * i) = v % 128 * 2 ^ (7 * i) + v / 128 * 2 ^ (7 * (i + 1)) := by
        have e : 2 ^ (7 * (i + 1)) = 2 ^ (7 * i) * 128 := by
          rw [show 7 * (i + 1) = 7 * i + 7 by omega, Nat.pow_add]
        rw [e]
        conv => lhs; rw [hd]
        rw [Nat.add_mul, Nat.mul_comm 128, Nat.mul_assoc, Nat.mul_comm 128]
      have hbad : uBad i (v % 128 + 128) = false := by
        unfold uBad
        rw [decide_eq_false (show ¬ ((i : Int) = 9) by omega), decide_eq_false (show ¬ (((v % 128 + 128 : Nat) : Int) = 0) by omega)]
        simp
      have hm : (v % 128 + 128) % 128 = v % 128 := by omega
      have hst := step_eq (i := i) (b := v % 128 + 128) (acc := acc) (by omega) (by omega) ha (by rw [hm]; omega)
      rw [hm] at hst
      rw [List.cons_append, uintG, hbad, cond_false, decide_eq_false (show ¬ (((v % 128 + 128 : Nat) : Int) < 128) by omega), cond_false, hst]
      have hacc : acc + v % 128 * 2 ^ (7 * i) < 2 ^ (7 * (i + 1)) := by
        have e : 2 ^ (7 * (i + 1)) = 2 ^ (7 * i) * 128 := by
          rw [show 7 * (i + 1) = 7 * i + 7 by omega, Nat.pow_add]
        rw [e]
        have : v % 128 * 2 ^ (7 * i) ≤ 127 * 2 ^ (7 * i) := Nat.mul_le_mul_right _ (by omega)
        omega
      have hv2 : v / 128 < 128 ^ (k + 1) := by
        refine Nat.div_lt_of_lt_mul ?_
        rw [Nat.pow_succ, Nat.mul_comm] at hv
        exact hv
      rw [ih (v / 128) (i + 1) (acc + v % 128 * 2 ^ (7 * i)) hv2 (by omega) (fun _ => by omega) hacc (by omega)]
      refine Prod.ext ?_ (Prod.ext ?_ rfl)
      · simp only []
        rw [hmul, Nat.add_assoc]
      · simp only [List.length_cons]
        omega
theorem uint_back {v : Nat} (hv : v < 18446744073709551616) (rest : List Nat) : uintG (leb v ++ rest) 0 0 = ((v : Int), (((leb v).length : Nat) : Int), 0) := by
  have h := uint_leb rest 9 v 0 0 (by omega) rfl (fun h => by omega) (by decide) (by omega)
  simp only [Nat.mul_zero, Nat.pow_zero, Nat.mul_one, Nat.zero_add] at h
  exact h
end Go.Proofs.YtdcfooeoaoahjaaGreat

set_option maxRecDepth 100000
namespace Go.Proofs.YtdcfooeoaoahjaaGreat
open Go.Lift
theorem m_extendN (l : List Nat) (hl : l.length ≤ 1000000) (k : Nat) (hk : k ≤ 900000) : RetM Tryz.prog 133 [] [.lst 1 (l.map byteI) false, i64 k] [] [.row 5 1 (l.map byteI)] (.own 0) := by
  have hc : IntKind.i64.wrap (((l.map byteI).length : Int) + (k : Int)) = ((l.length + k : Nat) : Int) := by
    rw [List.length_map, wrap_i64 (by omega) (by omega)]
    omega
  have f1 := fitsB' (n := l.length + k) (by omega)
  refine retM_of_body (fn := Tryz.f133) (c := Tryz.f133.body.getD .skip) hm hT (by kernel_rfl) Tryz.func133 (by kernel_rfl) (by kernel_rfl) (by kernel_rfl) (by kernel_rfl) (by kernel_rfl) ?_
  repeat' ((conv => whnf); first | refine And.intro (fun h => h) ?_ | refine dcond_t (by assumption) ?_ | refine dcond_f (by assumption) ?_ | (refine dcond_intro ?_ ?_ <;> intro h) | exact .refl | refine And.intro (by kernel_rfl) ?_ | refine And.intro ⟨fun h => h, fun h => h⟩ ?_ | refine Exists.intro false ?_ | (refine And.intro ?_ ?_; focus (simp; done)) | fail)
  all_goals (conv => whnf)
  refine ⟨(l.map byteI).length, l.length + k, rfl, hc, by simp, f1.1, f1.2, ?_⟩
  repeat' ((conv => whnf); first | refine And.intro (fun h => h) ?_ | refine dcond_t (by assumption) ?_ | refine dcond_f (by assumption) ?_ | (refine dcond_intro ?_ ?_ <;> intro h) | exact .refl | refine And.intro (by kernel_rfl) ?_ | refine And.intro ⟨fun h => h, fun h => h⟩ ?_ | refine Exists.intro false ?_ | (refine And.intro ?_ ?_; focus (simp; done)) | fail)
  all_goals (conv => whnf)
  exact ⟨.refl, ⟨ole_row wcopy, trivial⟩, by rfl⟩
def crcS (s : Int) : Int := bits .xor .u32 (s.fdiv (2 ^ (min (1 : Int).toNat 32))) (IntKind.u32.wrap (3988292384 * bits .and .u32 s 1))
def crcN (s : Int) : Nat → Int
  | 0 => s
  | k + 1 => crcS (crcN s k)
def crcA (l : List Nat) : Nat → Int
  | 0 => 4294967295
  | i + 1 => crcN (bits .xor .u32 (crcA l i) (IntKind.u32.wrap ((l.getD i 0 : Nat) : Int))) 8
def crcR (l : List Nat) : Int := bits .xor .u32 (if IntKind.u32.signed = true then -1 else IntKind.u32.max) (crcA l l.length)
theorem c_Checksum (l : List Nat) (hl : l.length ≤ 1000000) : Ret Tryz.prog 132 [.lst 1 (l.map byteI) false] (.v (.int .u32 (crcR l))) := by
  refine ret_of_body (fn := Tryz.f132) (c := Tryz.f132.body.getD .skip) hm hT (by kernel_rfl) Tryz.func132 (by kernel_rfl) (by kernel_rfl) (by kernel_rfl) (by kernel_rfl) ?_
  repeat' ((conv => whnf); first | refine And.intro (fun h => h) ?_ | refine dcond_t (by assumption) ?_ | refine dcond_f (by assumption) ?_ | (refine dcond_intro ?_ ?_ <;> intro h) | exact .refl | refine And.intro (by kernel_rfl) ?_ | refine And.intro ⟨fun h => h, fun h => h⟩ ?_ | refine Exists.intro false ?_ | (refine And.intro ?_ ?_; focus (simp; done)) | fail)
  all_goals (conv => whnf)
  refine ⟨Nat, fun i => ⟨[(3, .v (.int .u32 (crcA l i))), (6, .lst 1 (l.map byteI) false), (7, i64 l.length), (8, i64 i)], []⟩, fun i => i ≤ l.length, fun i => l.length - i, [], ⟨0, Nat.zero_le _, ?_⟩, ?_⟩
  · conv => whnf
    exact ⟨⟨.refl, .refl, dle_int (by simp), .refl, trivial⟩, trivial, by rfl⟩
  · intro i hi
    repeat' ((conv => whnf); first | refine And.intro (fun h => h) ?_ | refine dcond_t (by assumption) ?_ | refine dcond_f (by assumption) ?_ | (refine dcond_intro ?_ ?_ <;> intro h) | exact .refl | refine And.intro (by kernel_rfl) ?_ | refine And.intro ⟨fun h => h, fun h => h⟩ ?_ | refine Exists.intro false ?_ | (refine And.intro ?_ ?_; focus (simp; done)) | fail)
    all_goals (conv => whnf)
    · have hlt : i < l.length := by simpa using h
      clear h
      have hg : l.getD i 0 = l[i] := by simp [hlt]
      have hnx : crcA l (i + 1) = crcN (bits .xor .u32 (crcA l i) (IntKind.u32.wrap ((l.getD i 0 : Nat) : Int))) 8 := rfl
      rw [hg] at hnx
      generalize crcA l i = a at *
      have hgl : (l.map byteI)[i]? = some (byteI l[i]) := get_map hlt
      obtain ⟨y, hy⟩ : ∃ y, y = l[i] := ⟨_, rfl⟩
      rw [← hy] at hgl hnx
      repeat' ((conv => whnf); first | refine And.intro (fun h => h) ?_ | refine dcond_t (by assumption) ?_ | refine dcond_f (by assumption) ?_ | (refine dcond_intro ?_ ?_ <;> intro h) | exact .refl | refine And.intro (by kernel_rfl) ?_ | refine And.intro ⟨fun h => h, fun h => h⟩ ?_ | refine ⟨i, byteI y, And.intro ⟨rfl, hgl⟩ ?_⟩ | refine Exists.intro false ?_ | (refine And.intro ?_ ?_; focus (simp; done)) | fail)
      all_goals (conv => whnf)
      refine ⟨Nat, fun k => ⟨[(3, .v (.int .u32 (crcN (bits .xor .u32 a (IntKind.u32.wrap (y : Int))) k))), (6, .lst 1 (l.map byteI) false), (7, i64 l.length), (8, i64 i), (16, i64 k)], []⟩, fun k => k ≤ 8, fun k => 8 - k, [], ⟨0, Nat.zero_le _, ?_⟩, ?_⟩
      · conv => whnf
        exact ⟨⟨.refl, .refl, .refl, .refl, .refl, trivial⟩, trivial, by rfl⟩
      · intro k hk
        have hnk : crcN (bits .xor .u32 a (IntKind.u32.wrap (y : Int))) (k + 1) = crcS (crcN (bits .xor .u32 a (IntKind.u32.wrap (y : Int))) k) := rfl
        unfold crcS at hnk
        have hk8 : k = 8 → crcN (bits .xor .u32 a (IntKind.u32.wrap (y : Int))) k = crcA l (i + 1) := fun e => by rw [hnx, e]
        repeat' ((conv => whnf); first | refine And.intro (fun h => h) ?_ | refine dcond_t (by assumption) ?_ | refine dcond_f (by assumption) ?_ | (refine dcond_intro ?_ ?_ <;> intro h) | exact .refl | refine And.intro (by kernel_rfl) ?_ | refine And.intro ⟨fun h => h, fun h => h⟩ ?_ | refine Exists.intro false ?_ | (refine And.intro ?_ ?_; focus (simp; done)) | fail)
        all_goals (conv => whnf)
        · have hk9 : k < 8 := by
            have := of_decide_eq_true h
            omega
          clear h
          refine ⟨k + 1, hk9, by simp only []; omega, ?_⟩
          conv => whnf
          exact ⟨⟨dle_int hnk.symm, .refl, .refl, .refl, dle_int (wrap_succ (by omega)), trivial⟩, trivial, by rfl⟩
        · have hk9 : k = 8 := by
            have := of_decide_eq_false h
            omega
          clear h
          refine ⟨i + 1, hlt, by simp only []; omega, ?_⟩
          conv => whnf
          exact ⟨⟨dle_int (hk8 hk9), .refl, .refl, dle_int (wrap_succ (by omega)), trivial⟩, trivial, by rfl⟩
    · have hin : i = l.length := by
        have := of_decide_eq_false h
        omega
      subst hin
      exact .refl
def wordI (n : Int) : List Int := [IntKind.u8.wrap n, IntKind.u8.wrap (n.fdiv (2 ^ (min (8 : Int).toNat 32))), IntKind.u8.wrap (n.fdiv (2 ^ (min (16 : Int).toNat 32))), IntKind.u8.wrap (n.fdiv (2 ^ (min (24 : Int).toNat 32)))]
def wordR (n : Int) : List Nat := (wordI n).map (·.toNat)
theorem u8_nat (n : Int) : ((IntKind.u8.wrap n).toNat : Int) = IntKind.u8.wrap n := by
  have e : IntKind.u8.wrap n = n % 256 := by simp [IntKind.wrap, IntKind.bits, IntKind.signed]
  rw [e]
  omega
theorem word_eq (n : Int) : (wordI n).map (fun x => [DV.v (.int .u8 x)]) = (wordR n).map byteI := by
  simp only [wordR, wordI, List.map_cons, List.map_nil, byteI, u8_nat]
theorem c_word_nil (n : Int) : Ret Tryz.prog 131 [.nl, .v (.int .u32 n)] (.lst 1 ((wordR n).map byteI) false) := by
  rw [← word_eq]
  refine ret_of_body (fn := Tryz.f131) (c := Tryz.f131.body.getD .skip) hm hT (by kernel_rfl) Tryz.func131 (by kernel_rfl) (by kernel_rfl) (by kernel_rfl) (by kernel_rfl) ?_
  repeat' ((conv => whnf); first | refine And.intro (fun h => h) ?_ | refine dcond_t (by assumption) ?_ | refine dcond_f (by assumption) ?_ | (refine dcond_intro ?_ ?_ <;> intro h) | exact .refl | refine And.intro (by kernel_rfl) ?_ | refine And.intro ⟨fun h => h, fun h => h⟩ ?_ | refine And.intro (fitsB (by simp <;> omega)) ?_ | refine Exists.intro false ?_ | (refine And.intro ?_ ?_; focus (simp; done)) | fail)
def lenR (l : List Nat) (mx : Int) : Int × Int × Int :=
  bif decide (mx < 0) then (0, 0, 1) else bif !decide ((uintG l 0 0).2.2 = 0) then (0, 0, (uintG l 0 0).2.2) else bif decide (IntKind.u64.wrap mx < (uintG l 0 0).1) then (0, 0, 5) else (IntKind.i64.wrap (uintG l 0 0).1, (uintG l 0 0).2.1, 0)
theorem c_length (l : List Nat) (hl : l.length ≤ 1000000) (mx : Int) : Ret Tryz.prog 130 [.lst 1 (l.map byteI) false, i64 mx] (.tup [i64 (lenR l mx).1, i64 (lenR l mx).2.1, i64 (lenR l mx).2.2]) := by
  have e := c_Uint l hl
  obtain ⟨R, hR⟩ : ∃ R, R = lenR l mx := ⟨_, rfl⟩
  rw [← hR]
  unfold lenR at hR
  generalize uintG l 0 0 = U at *
  refine ret_of_body (fn := Tryz.f130) (c := Tryz.f130.body.getD .skip) hm hT (by kernel_rfl) Tryz.func130 (by kernel_rfl) (by kernel_rfl) (by kernel_rfl) (by kernel_rfl) ?_
  repeat' ((conv => whnf); first | refine And.intro (fun h => h) ?_ | refine dcond_t (by assumption) ?_ | refine dcond_f (by assumption) ?_ | (refine dcond_intro ?_ ?_ <;> intro h) | exact .refl | refine And.intro (by kernel_rfl) ?_ | refine And.intro ⟨fun h => h, fun h => h⟩ ?_ | refine .inl ⟨_, _, DleAll_refl _, e, ?_⟩ | refine ⟨_, _, DleAll_refl _, fun _ => e, ?_⟩ | refine ⟨_, _, DleAll_refl _, e, ?_⟩ | refine Exists.intro false ?_ | (refine And.intro ?_ ?_; focus (simp; done)) | fail)
  all_goals (conv => whnf)
  all_goals (simp only [*, cond_true, cond_false] at hR)
  all_goals subst hR
  all_goals exact .refl
end Go.Proofs.YtdcfooeoaoahjaaGreat

set_option maxRecDepth 100000
namespace Go.Proofs.YtdcfooeoaoahjaaGreat
open Go.Lift
theorem m_word_own (l : List Nat) (hl : l.length ≤ 1900000) (n : Int) : RetM Tryz.prog 131 [.row 5 1 (l.map byteI)] [.own 0, .v (.int .u32 n)] [false] [.row 5 1 ((l ++ wordR n).map byteI)] (.own 0) := by
  rw [List.map_append, ← word_eq]
  refine retM_of_body (fn := Tryz.f131) (c := Tryz.f131.body.getD .skip) hm hT (by kernel_rfl) Tryz.func131 (by kernel_rfl) (by kernel_rfl) (by kernel_rfl) (by kernel_rfl) (by kernel_rfl) ?_
  repeat' ((conv => whnf); first | refine And.intro (fun h => h) ?_ | refine dcond_t (by assumption) ?_ | refine dcond_f (by assumption) ?_ | (refine dcond_intro ?_ ?_ <;> intro h) | exact .refl | refine And.intro (by kernel_rfl) ?_ | refine And.intro ⟨fun h => h, fun h => h⟩ ?_ | refine And.intro (fitsB (by simp <;> omega)) ?_ | refine Exists.intro false ?_ | (refine And.intro ?_ ?_; focus (simp; done)) | fail)
  all_goals (conv => whnf)
  all_goals exact ⟨.refl, ⟨ole_row rfl, gh_junk, trivial⟩, by rfl⟩
def sealH (k : Nat) (b : List Nat) : List Nat := [65, 71, k] ++ leb b.length ++ b
def sealF (k : Nat) (b : List Nat) : List Nat := sealH k b ++ wordR (crcR (sealH k b))
theorem u8_id {k : Nat} (h : k ≤ 255) : IntKind.u8.wrap (k : Int) = (k : Int) := by
  have e : IntKind.u8.wrap (k : Int) = (k : Int) % 256 := by simp [IntKind.wrap, IntKind.bits, IntKind.signed]
  rw [e]
  omega
set_option maxHeartbeats 4000000 in
theorem c_Seal (k : Nat) (hk1 : 1 ≤ k) (hk : k ≤ 255) (b : List Nat) (hb : b.length ≤ 800000) : Ret Tryz.prog 92 [i64 k, .lst 1 (b.map byteI) false] (.tup [.lst 1 ((sealF k b).map byteI) false, i64 0]) := by
  have hk8 := u8_id hk
  have hrow : [[DV.v (.int .u8 65)], [DV.v (.int .u8 71)], [DV.v (.int .u8 (IntKind.u8.wrap (k : Int)))]] = List.map byteI [65, 71, k] := by rw [hk8]; rfl
  have m1 := m_extendN [65, 71, k] (by simp) (b.length + 8) (by omega)
  have m2 := m_putUint [65, 71, k] (by simp) b.length (by omega)
  have hll : (leb b.length).length ≤ 10 := leb_len 9 b.length
  have eH : [65, 71, k] ++ leb b.length ++ b = sealH k b := rfl
  have hH : (sealH k b).length ≤ 900000 := by
    unfold sealH
    simp only [List.length_append, List.length_cons, List.length_nil]
    omega
  have e3 := c_Checksum (sealH k b) (by omega)
  have m4 := m_word_own (sealH k b) (by omega) (crcR (sealH k b))
  have hw : IntKind.i64.wrap (((b.map byteI).length : Int) + 8) = ((b.length + 8 : Nat) : Int) := by
    rw [List.length_map, wrap_i64 (by omega) (by omega)]
    omega
  have hu : IntKind.u64.wrap ((b.map byteI).length : Int) = ((b.length : Nat) : Int) := by
    rw [List.length_map]
    exact u64_id (by omega) (by omega)
  have hcond : (decide ((k : Int) < 1) || decide ((255 : Int) < k) || decide ((16777216 : Int) < ((b.map byteI).length : Int))) = false := by
    rw [decide_eq_false (by omega), decide_eq_false (by omega), List.length_map, decide_eq_false (by omega)]
    rfl
  have hm3 : ([65, 71, k] ++ leb b.length).map byteI ++ b.map byteI = (sealH k b).map byteI := by
    rw [← eH, List.map_append (l₁ := [65, 71, k] ++ leb b.length)]
  refine ret_of_body (fn := Tryz.f92) (c := Tryz.f92.body.getD .skip) hm hT (by kernel_rfl) Tryz.func92 (by kernel_rfl) (by kernel_rfl) (by kernel_rfl) (by kernel_rfl) ?_
  repeat' ((conv => whnf); first | refine And.intro (fun h => h) ?_ | refine dcond_t (by assumption) ?_ | refine dcond_f (by assumption) ?_ | (refine dcond_intro ?_ ?_ <;> intro h) | exact .refl | refine And.intro (by kernel_rfl) ?_ | refine And.intro ⟨fun h => h, fun h => h⟩ ?_ | refine dcond_f hcond ?_ | refine .inr ⟨[], [], _, [], _, _, m1, by rfl, trivial, ⟨dle_lst hrow, dle_int hw, trivial⟩, ?_⟩ | refine .inr ?_ <;> (conv => whnf) <;> refine ⟨[], ?_⟩ <;> (conv => whnf) <;> refine ⟨[], _, [], _, _, m1, by rfl, trivial, ⟨dle_lst hrow, dle_int hw, trivial⟩, ?_⟩ | refine .inr ⟨[1], _, _, _, _, _, m2, by rfl, ⟨.refl, trivial⟩, ⟨.refl, dle_int hu, trivial⟩, ?_⟩ | refine .inr ⟨[2], _, _, _, _, _, m2, by rfl, ⟨.refl, trivial⟩, ⟨.refl, dle_int hu, trivial⟩, ?_⟩ | refine And.intro (fitsB (by simp <;> omega)) ?_ | refine .inl ⟨[.lst 1 ((sealH k b).map byteI) false], _, ⟨dle_lst hm3, trivial⟩, e3, ?_⟩ | refine .inl ?_ <;> (conv => whnf) <;> refine ⟨[.lst 1 ((sealH k b).map byteI) false], _, ⟨dle_lst hm3, trivial⟩, e3, ?_⟩ | refine .inr ⟨[1], _, _, _, _, _, m4, by rfl, ⟨ole_row hm3, trivial⟩, ⟨.refl, .refl, trivial⟩, ?_⟩ | refine .inr ⟨[2], _, _, _, _, _, m4, by rfl, ⟨ole_row hm3, trivial⟩, ⟨.refl, .refl, trivial⟩, ?_⟩ | refine .inr ⟨[3], _, _, _, _, _, m4, by rfl, ⟨ole_row hm3, trivial⟩, ⟨.refl, .refl, trivial⟩, ?_⟩ | refine Exists.intro false ?_ | (refine And.intro ?_ ?_; focus (simp; done)) | fail)
end Go.Proofs.YtdcfooeoaoahjaaGreat

set_option maxRecDepth 100000
namespace Go.Proofs.YtdcfooeoaoahjaaGreat
open Go.Lift
theorem seal_drop (k : Nat) (b : List Nat) : (sealF k b).drop 3 = leb b.length ++ (b ++ wordR (crcR (sealH k b))) := by
  unfold sealF sealH
  simp
theorem seal_len (k : Nat) (b : List Nat) : (sealF k b).length = 3 + (leb b.length).length + b.length + 4 := by
  unfold sealF sealH wordR wordI
  simp
  omega
theorem len_seal (k : Nat) {b : List Nat} (hb : b.length ≤ 800000) : lenR ((sealF k b).drop 3) 16777216 = ((b.length : Int), (((leb b.length).length : Nat) : Int), 0) := by
  unfold lenR
  rw [seal_drop, uint_back (by omega)]
  rw [decide_eq_false (show ¬ (16777216 : Int) < 0 by omega)]
  have e : IntKind.u64.wrap 16777216 = 16777216 := u64_id (by omega) (by omega)
  rw [e, decide_eq_false (show ¬ (16777216 : Int) < (b.length : Int) by omega), wrap_i64 (by omega) (by omega)]
  rfl
set_option maxHeartbeats 4000000 in
theorem c_Open (k : Nat) (hk1 : 1 ≤ k) (hk : k ≤ 255) (b : List Nat) (hb : b.length ≤ 800000) : Ret Tryz.prog 73 [.lst 1 ((sealF k b).map byteI) false] (.tup [i64 k, .lst 1 (b.map byteI) false, i64 (sealF k b).length, i64 0]) := by
  have hll : (leb b.length).length ≤ 10 := leb_len 9 b.length
  have hfl := seal_len k b
  have e130 := c_length ((sealF k b).drop 3) (by rw [List.length_drop]; omega) 16777216
  rw [len_seal k hb] at e130
  have e132 := c_Checksum (sealH k b) (by have : (sealH k b).length = 3 + (leb b.length).length + b.length := (by unfold sealH; simp; omega); omega)
  have e131 := c_word_nil (crcR (sealH k b))
  have g0 : ((sealF k b).map byteI)[0]? = some (byteI 65) := rfl
  have g1 : ((sealF k b).map byteI)[1]? = some (byteI 71) := rfl
  have g2 : ((sealF k b).map byteI)[2]? = some (byteI k) := rfl
  have hlm : ((sealF k b).map byteI).length = 3 + (leb b.length).length + b.length + 4 := by rw [List.length_map, hfl]
  have hc1 : decide (((((sealF k b).map byteI).length : Nat) : Int) < 3) = false := decide_eq_false (by rw [hlm]; omega)
  have hk0 : decide ((k : Int) = 0) = false := decide_eq_false (by omega)
  have hdr : ((sealF k b).map byteI).drop 3 = ((sealF k b).drop 3).map byteI := by rw [List.map_drop]
  have hle3 : 3 ≤ ((sealF k b).map byteI).length := by rw [hlm]; omega
  have hst : IntKind.i64.wrap (3 + (((leb b.length).length : Nat) : Int)) = ((3 + (leb b.length).length : Nat) : Int) := by
    rw [wrap_i64 (by omega) (by omega)]
    omega
  have hc2 : decide (IntKind.i64.wrap ((((sealF k b).map byteI).length : Int) - IntKind.i64.wrap (3 + (((leb b.length).length : Nat) : Int))) < IntKind.i64.wrap ((b.length : Int) + 4)) = false := by
    rw [hst, hlm, wrap_i64 (by omega) (by omega), wrap_i64 (by omega) (by omega)]
    exact decide_eq_false (by omega)
  obtain ⟨E, hEd⟩ : ∃ E, E = 3 + (leb b.length).length + b.length := ⟨_, rfl⟩
  have hE : IntKind.i64.wrap (IntKind.i64.wrap (3 + (((leb b.length).length : Nat) : Int)) + (b.length : Int)) = (E : Int) := by
    rw [hst, wrap_i64 (by omega) (by omega)]
    omega
  have hE4 : IntKind.i64.wrap (IntKind.i64.wrap (IntKind.i64.wrap (3 + (((leb b.length).length : Nat) : Int)) + (b.length : Int)) + 4) = ((E + 4 : Nat) : Int) := by
    rw [hE, wrap_i64 (by omega) (by omega)]
    omega
  have hEl : E ≤ ((sealF k b).map byteI).length := by omega
  have hE4l : E + 4 ≤ ((sealF k b).map byteI).length := by omega
  have hHl : (sealH k b).length = E := by
    unfold sealH
    simp
    omega
  have htk : (((sealF k b).map byteI).take E).drop 0 = (sealH k b).map byteI := by
    rw [List.drop_zero, ← List.map_take]
    unfold sealF
    rw [List.take_append_of_le_length (by omega), List.take_of_length_le (by omega)]
  have hwb : (wordR (crcR (sealH k b))).map byteI = ((wordR (crcR (sealH k b))).map UInt8.ofNat).map byteE := by
    rw [List.map_map]
    apply List.map_congr_left
    intro x hx
    have hx2 : x < 256 := by
      unfold wordR wordI at hx
      simp only [List.map_cons, List.map_nil, List.mem_cons, List.not_mem_nil, or_false] at hx
      have key : ∀ n : Int, (IntKind.u8.wrap n).toNat < 256 := fun n => by
        have e : IntKind.u8.wrap n = n % 256 := by simp [IntKind.wrap, IntKind.bits, IntKind.signed]
        rw [e]
        omega
      rcases hx with h | h | h | h <;> rw [h] <;> exact key _
    show byteI x = byteE (UInt8.ofNat x)
    unfold byteI byteE
    simp [UInt8.toNat_ofNat_of_lt' hx2, Nat.mod_eq_of_lt hx2]
  have hwb2 : (((sealF k b).map byteI).take (E + 4)).drop E = ((wordR (crcR (sealH k b))).map UInt8.ofNat).map byteE := by
    rw [← hwb, ← List.map_take, ← List.map_drop]
    unfold sealF
    rw [List.take_of_length_le (by rw [List.length_append, hHl]; simp [wordR, wordI]), List.drop_append_of_le_length (by omega), List.drop_of_length_le (by omega)]
    rfl
  have hsl : (((sealF k b).map byteI).take E).drop (3 + (leb b.length).length) = b.map byteI := by
    rw [← List.map_take, ← List.map_drop]
    unfold sealF
    rw [List.take_append_of_le_length (by omega), List.take_of_length_le (by omega)]
    unfold sealH
    rw [List.drop_append_of_le_length (by simp; omega), List.drop_of_length_le (by simp; omega)]
    rfl
  have hSE : 3 + (leb b.length).length ≤ E := by omega
  have m0 := m_extendN b (by omega) 0 (by omega)
  have hkk : IntKind.i64.wrap (k : Int) = (k : Int) := wrap_i64 (by omega) (by omega)
  refine ret_of_body (fn := Tryz.f73) (c := Tryz.f73.body.getD .skip) hm hT (by kernel_rfl) Tryz.func73 (by kernel_rfl) (by kernel_rfl) (by kernel_rfl) (by kernel_rfl) ?_
  repeat' ((conv => whnf); first | refine And.intro (fun h => h) ?_ | refine dcond_t (by assumption) ?_ | refine dcond_f (by assumption) ?_ | (refine dcond_intro ?_ ?_ <;> intro h) | exact .refl | refine And.intro (by kernel_rfl) ?_ | refine And.intro ⟨fun h => h, fun h => h⟩ ?_ | refine dcond_f hc1 ?_ | refine ⟨0, byteI 65, And.intro ⟨rfl, g0⟩ ?_⟩ | refine ⟨1, byteI 71, And.intro ⟨⟨fun h => h, fun h => h⟩, fun _ => ⟨rfl, g1⟩⟩ ?_⟩ | refine ⟨2, byteI k, And.intro ⟨⟨fun h => h, fun h => h⟩, fun _ => ⟨rfl, g2⟩⟩ ?_⟩ | refine ⟨2, byteI k, And.intro ⟨rfl, g2⟩ ?_⟩ | refine ⟨1, byteI 71, And.intro ⟨fun h => h, fun _ => ⟨rfl, g1⟩⟩ ?_⟩ | refine ⟨2, byteI k, And.intro ⟨fun h => h, fun _ => ⟨rfl, g2⟩⟩ ?_⟩ | refine ⟨byteI 71, And.intro ⟨fun h => h, fun _ => g1⟩ ?_⟩ | refine ⟨byteI k, And.intro ⟨fun h => h, fun _ => g2⟩ ?_⟩ | refine ⟨byteI k, And.intro g2 ?_⟩ | refine dcond_f hk0 ?_ | refine ⟨3, And.intro ⟨⟨_, rfl⟩, hle3⟩ ?_⟩ | refine .inl ⟨[.lst 1 (((sealF k b).drop 3).map byteI) false, _], _, ⟨dle_lst hdr, .refl, trivial⟩, e130, ?_⟩ | refine dcond_f hc2 ?_ | refine ⟨0, E, And.intro ⟨rfl, ⟨.i64, congrArg (fun z => DV.v (.int .i64 z)) hE⟩, Nat.zero_le _, hEl⟩ ?_⟩ | refine ⟨E, E + 4, And.intro ⟨⟨.i64, congrArg (fun z => DV.v (.int .i64 z)) hE⟩, ⟨.i64, congrArg (fun z => DV.v (.int .i64 z)) hE4⟩, Nat.le_add_right _ _, hE4l⟩ ?_⟩ | refine .inl ⟨[.lst 1 ((sealH k b).map byteI) false], _, ⟨dle_lst htk, trivial⟩, e132, ?_⟩ | refine .inl ⟨_, _, DleAll_refl _, e131, ?_⟩ | refine ⟨_, _, DleAll_refl _, fun _ => e131, ?_⟩ | refine ⟨_, _, DleAll_refl _, e131, ?_⟩ | refine ⟨(wordR (crcR (sealH k b))).map UInt8.ofNat, And.intro hwb ?_⟩ | refine ⟨(wordR (crcR (sealH k b))).map UInt8.ofNat, And.intro hwb2 ?_⟩ | refine ⟨3 + (leb b.length).length, E, And.intro ⟨⟨.i64, congrArg (fun z => DV.v (.int .i64 z)) hst⟩, ⟨.i64, congrArg (fun z => DV.v (.int .i64 z)) hE⟩, hSE, hEl⟩ ?_⟩ | refine .inr ⟨[], [], _, [], _, _, m0, by rfl, trivial, ⟨dle_lst hsl, .refl, trivial⟩, ?_⟩ | refine Exists.intro false ?_ | (refine And.intro ?_ ?_; focus (simp; done)) | fail)
  all_goals (conv => whnf)
  · exfalso
    simp at h
  · refine dle_tupA ⟨dle_int hkk, .refl, dle_int (hE4.trans ?_), .refl, trivial⟩
    rw [hfl]
    omega
end Go.Proofs.YtdcfooeoaoahjaaGreat

set_option maxRecDepth 100000
namespace Go.Proofs.YtdcfooeoaoahjaaGreat
open Go.Lift
def zz (v : Int) : Nat := if v < 0 then 1 else (2 * v).toNat
theorem zz_lt {v : Int} (h : v ≤ 1099511627776) : zz v < 18446744073709551616 := by
  unfold zz
  split <;> omega
end Go.Proofs.YtdcfooeoaoahjaaGreat

set_option maxRecDepth 100000
namespace Go.Proofs.YtdcfooeoaoahjaaGreat
open Go.Lift
end Go.Proofs.YtdcfooeoaoahjaaGreat

set_option maxRecDepth 100000
namespace Go.Proofs.YtdcfooeoaoahjaaGreat
open Go.Lift
def cntS (l : List Alr) (s : Int) (i : Nat) : Nat := (l.take i).countP fun a => decide (a.subj = s)
theorem cnt_succ {l : List Alr} {s : Int} {i : Nat} (h : i < l.length) : cntS l s (i + 1) = cntS l s i + if l[i].subj = s then 1 else 0 := by
  unfold cntS
  rw [List.take_succ_eq_append_getElem h, List.countP_append, List.countP_cons, List.countP_nil]
  simp
theorem cnt_le (l : List Alr) (s : Int) (i : Nat) : cntS l s i ≤ i := Nat.le_trans List.countP_le_length (by simp; omega)
theorem c_alerts_Count (l : List Alr) (hl : l.length ≤ 1000000) (s : Int) : Ret Tryz.prog 239 [.lst 4 (l.map alE) false, i64 s] (i64 (cntS l s l.length : Nat)) := by
  refine ret_of_body (fn := Tryz.f239) (c := Tryz.f239.body.getD .skip) hm hT (by kernel_rfl) Tryz.func239 (by kernel_rfl) (by kernel_rfl) (by kernel_rfl) (by kernel_rfl) ?_
  repeat' ((conv => whnf); first | refine And.intro (fun h => h) ?_ | refine dcond_t (by assumption) ?_ | refine dcond_f (by assumption) ?_ | (refine dcond_intro ?_ ?_ <;> intro h) | exact .refl | refine And.intro (by kernel_rfl) ?_ | refine And.intro ⟨fun h => h, fun h => h⟩ ?_ | refine Exists.intro false ?_ | (refine And.intro ?_ ?_; focus (simp; done)) | fail)
  all_goals (conv => whnf)
  refine ⟨Nat, fun i => ⟨[(1, i64 s), (5, i64 (cntS l s i : Nat)), (8, .lst 4 (l.map alE) false), (9, i64 l.length), (10, i64 i)], []⟩, fun i => i ≤ l.length, fun i => l.length - i, [], ⟨0, Nat.zero_le _, ?_⟩, ?_⟩
  · conv => whnf
    exact ⟨⟨.refl, .refl, .refl, dle_int (by simp), .refl, trivial⟩, trivial, by rfl⟩
  · intro i hi
    repeat' ((conv => whnf); first | refine And.intro (fun h => h) ?_ | refine dcond_t (by assumption) ?_ | refine dcond_f (by assumption) ?_ | (refine dcond_intro ?_ ?_ <;> intro h) | exact .refl | refine And.intro (by kernel_rfl) ?_ | refine And.intro ⟨fun h => h, fun h => h⟩ ?_ | refine Exists.intro false ?_ | (refine And.intro ?_ ?_; focus (simp; done)) | fail)
    · have hlt : i < l.length := by simpa using h
      clear h
      have hs := cnt_succ (s := s) hlt
      have hc := cnt_le l s i
      repeat' ((conv => whnf); first | refine And.intro (fun h => h) ?_ | refine dcond_t (by assumption) ?_ | refine dcond_f (by assumption) ?_ | (refine dcond_intro ?_ ?_ <;> intro h) | exact .refl | refine And.intro (by kernel_rfl) ?_ | refine And.intro ⟨fun h => h, fun h => h⟩ ?_ | refine ⟨_, _, And.intro ⟨rfl, get_map hlt⟩ ?_⟩ | refine Exists.intro false ?_ | (refine And.intro ?_ ?_; focus (simp; done)) | fail)
      all_goals (conv => whnf)
      all_goals refine ⟨i + 1, hlt, by simp only []; omega, ?_⟩
      all_goals (conv => whnf)
      all_goals refine ⟨⟨.refl, dle_int ?_, .refl, .refl, dle_int (wrap_succ (by omega)), trivial⟩, trivial, by rfl⟩
      · rw [hs, if_pos (of_decide_eq_true h), wrap_i64 (by omega) (by omega)]
        omega
      · rw [hs, if_neg (of_decide_eq_false h)]
        rfl
    · have : i = l.length := by
        simp at h
        omega
      subst this
      repeat' ((conv => whnf); first | refine And.intro (fun h => h) ?_ | refine dcond_t (by assumption) ?_ | refine dcond_f (by assumption) ?_ | (refine dcond_intro ?_ ?_ <;> intro h) | exact .refl | refine And.intro (by kernel_rfl) ?_ | refine And.intro ⟨fun h => h, fun h => h⟩ ?_ | refine Exists.intro false ?_ | (refine And.intro ?_ ?_; focus (simp; done)) | fail)
end Go.Proofs.YtdcfooeoaoahjaaGreat

set_option maxRecDepth 100000
namespace Go.Proofs.YtdcfooeoaoahjaaGreat
open Go.Lift
end Go.Proofs.YtdcfooeoaoahjaaGreat

set_option maxRecDepth 100000
namespace Go.Proofs.YtdcfooeoaoahjaaGreat
open Go.Lift
end Go.Proofs.YtdcfooeoaoahjaaGreat

set_option maxRecDepth 100000
namespace Go.Proofs.YtdcfooeoaoahjaaGreat
open Go.Lift

structure Acc where
  pro : Int
  rank : Int
  cut : List Int
structure Rpt where
  mem : Int
  rank : Int
  cut : List Int
def accE (a : Acc) : List DV := [.v (.int .i64 a.pro), .v (.int .i64 a.rank), .lst 1 (a.cut.map intE) false]
def rptE (a : Rpt) : List DV := [.v (.int .i64 a.mem), .v (.int .i64 a.rank), .lst 1 (a.cut.map intE) false]
def ownerOf (r : Int) : Int := bif decide (r ≤ 1024) || decide (1073741824 ≤ r) || decide (1000 < r.tmod 1024) then 0 else r.tmod 1024
theorem c_paxos_Owner (r : Int) : Ret Tryz.prog 178 [.v (.int .i64 r)] (.v (.int .i64 (ownerOf r))) := by
  refine ret_of_body (fn := Tryz.f178) (c := Tryz.f178.body.getD .skip) hm hT (by kernel_rfl) Tryz.func178 (by kernel_rfl) (by kernel_rfl) (by kernel_rfl) (by kernel_rfl) ?_
  repeat' ((conv => whnf); first | refine And.intro (fun h => h) ?_ | refine dcond_t (by assumption) ?_ | refine dcond_f (by assumption) ?_ | (refine dcond_intro ?_ ?_ <;> intro h) | exact .refl | refine And.intro (by kernel_rfl) ?_ | refine And.intro ⟨fun h => h, fun h => h⟩ ?_ | refine Exists.intro false ?_ | (refine And.intro ?_ ?_; focus (simp; done)) | fail)
  all_goals (conv => whnf)
  all_goals refine dle_int ?_
  all_goals simp only [ownerOf, h, cond_true, cond_false]
def usableB (r : Int) : Bool := !decide (ownerOf r = 0)
theorem c_paxos_usable (r : Int) : Ret Tryz.prog 177 [.v (.int .i64 r)] (.v (.bool (usableB r))) := by
  refine ret_of_body (fn := Tryz.f177) (c := Tryz.f177.body.getD .skip) hm hT (by kernel_rfl) Tryz.func177 (by kernel_rfl) (by kernel_rfl) (by kernel_rfl) (by kernel_rfl) ?_
  repeat' ((conv => whnf); first | refine And.intro (fun h => h) ?_ | refine dcond_t (by assumption) ?_ | refine dcond_f (by assumption) ?_ | (refine dcond_intro ?_ ?_ <;> intro h) | exact .refl | refine And.intro (by kernel_rfl) ?_ | refine And.intro ⟨fun h => h, fun h => h⟩ ?_ | refine .inl ⟨_, _, DleAll_refl _, c_paxos_Owner _, ?_⟩ | refine ⟨_, _, DleAll_refl _, fun _ => c_paxos_Owner _, ?_⟩ | refine ⟨_, _, DleAll_refl _, c_paxos_Owner _, ?_⟩ | refine Exists.intro false ?_ | (refine And.intro ?_ ?_; focus (simp; done)) | fail)
theorem c_paxos_Fresh : Ret Tryz.prog 126 [] (.agg (accE ⟨0, -1, []⟩)) := by
  refine ret_of_body (fn := Tryz.f126) (c := Tryz.f126.body.getD .skip) hm hT (by kernel_rfl) Tryz.func126 (by kernel_rfl) (by kernel_rfl) (by kernel_rfl) (by kernel_rfl) ?_
  repeat' ((conv => whnf); first | refine And.intro (fun h => h) ?_ | refine dcond_t (by assumption) ?_ | refine dcond_f (by assumption) ?_ | (refine dcond_intro ?_ ?_ <;> intro h) | exact .refl | refine And.intro (by kernel_rfl) ?_ | refine And.intro ⟨fun h => h, fun h => h⟩ ?_ | refine Exists.intro false ?_ | (refine And.intro ?_ ?_; focus (simp; done)) | fail)
  all_goals (conv => whnf)
  exact dle_aggA ⟨.refl, .refl, .nl, trivial⟩
def accB (a : Acc) : Bool :=
  bif !decide (a.pro = 0) && !usableB a.pro || decide (a.pro < a.rank) then false
  else bif decide (a.rank = -1) then decide ((a.cut.length : Int) = 0)
  else (decide (a.rank = 0) || usableB a.rank) && idsB a.cut 32
theorem c_paxos_Valid (a : Acc) (hl : a.cut.length ≤ maxLen) : Ret Tryz.prog 111 [.agg (accE a)] (.v (.bool (accB a))) := by
  refine ret_of_body (fn := Tryz.f111) (c := Tryz.f111.body.getD .skip) hm hT (by kernel_rfl) Tryz.func111 (by kernel_rfl) (by kernel_rfl) (by kernel_rfl) (by kernel_rfl) ?_
  repeat' ((conv => whnf); first | refine And.intro (fun h => h) ?_ | refine dcond_t (by assumption) ?_ | refine dcond_f (by assumption) ?_ | (refine dcond_intro ?_ ?_ <;> intro h) | exact .refl | refine And.intro (by kernel_rfl) ?_ | refine And.intro ⟨fun h => h, fun h => h⟩ ?_ | refine .inl ⟨_, _, DleAll_refl _, c_paxos_usable _, ?_⟩ | refine ⟨_, _, DleAll_refl _, fun _ => c_paxos_usable _, ?_⟩ | refine ⟨_, _, DleAll_refl _, c_paxos_usable _, ?_⟩ | refine .inl ⟨_, _, DleAll_refl _, c_view_ValidCut _ hl, ?_⟩ | refine ⟨_, _, DleAll_refl _, fun _ => c_view_ValidCut _ hl, ?_⟩ | refine ⟨_, _, DleAll_refl _, c_view_ValidCut _ hl, ?_⟩ | refine Exists.intro false ?_ | (refine And.intro ?_ ?_; focus (simp; done)) | fail)
  all_goals (conv => whnf)
  all_goals refine dle_bool ?_
  all_goals (try simp only [List.length_map] at *)
  all_goals simp only [accB, *, cond_true, cond_false]
theorem c_paxos_applicable (v : View) (hv : v.mem.length ≤ 500000) (cut : List Int) (hc : cut.length ≤ 500000) : Ret Tryz.prog 219 [.agg (viewE v), .lst 1 (cut.map intE) false] (.v (.bool (decide ((nextR v cut).2 = 0)))) := by
  refine ret_of_body (fn := Tryz.f219) (c := Tryz.f219.body.getD .skip) hm hT (by kernel_rfl) Tryz.func219 (by kernel_rfl) (by kernel_rfl) (by kernel_rfl) (by kernel_rfl) ?_
  repeat' ((conv => whnf); first | refine And.intro (fun h => h) ?_ | refine dcond_t (by assumption) ?_ | refine dcond_f (by assumption) ?_ | (refine dcond_intro ?_ ?_ <;> intro h) | exact .refl | refine And.intro (by kernel_rfl) ?_ | refine And.intro ⟨fun h => h, fun h => h⟩ ?_ | refine .inl ⟨_, _, DleAll_refl _, c_view_Next _ hv _ hc, ?_⟩ | refine ⟨_, _, DleAll_refl _, fun _ => c_view_Next _ hv _ hc, ?_⟩ | refine ⟨_, _, DleAll_refl _, c_view_Next _ hv _ hc, ?_⟩ | refine Exists.intro false ?_ | (refine And.intro ?_ ?_; focus (simp; done)) | fail)
end Go.Proofs.YtdcfooeoaoahjaaGreat

set_option maxRecDepth 100000
namespace Go.Proofs.YtdcfooeoaoahjaaGreat
open Go.Lift
def majB (n : Int) : Int := bif !(decide (1 ≤ n) && decide (n ≤ 16)) then 0 else IntKind.i64.wrap (IntKind.i64.wrap (n.tdiv 2) + 1)
theorem c_view_Majority (n : Int) : Ret Tryz.prog 181 [.v (.int .i64 n)] (.v (.int .i64 (majB n))) := by
  refine ret_of_body (fn := Tryz.f181) (c := Tryz.f181.body.getD .skip) hm hT (by kernel_rfl) Tryz.func181 (by kernel_rfl) (by kernel_rfl) (by kernel_rfl) (by kernel_rfl) ?_
  repeat' ((conv => whnf); first | refine And.intro (fun h => h) ?_ | refine dcond_t (by assumption) ?_ | refine dcond_f (by assumption) ?_ | (refine dcond_intro ?_ ?_ <;> intro h) | exact .refl | refine And.intro (by kernel_rfl) ?_ | refine And.intro ⟨fun h => h, fun h => h⟩ ?_ | refine .inl ⟨_, _, DleAll_refl _, c_view_counted _, ?_⟩ | refine ⟨_, _, DleAll_refl _, fun _ => c_view_counted _, ?_⟩ | refine ⟨_, _, DleAll_refl _, c_view_counted _, ?_⟩ | refine Exists.intro false ?_ | (refine And.intro ?_ ?_; focus (simp; done)) | fail)
  all_goals (conv => whnf)
  all_goals refine dle_int ?_
  all_goals simp only [majB, h, cond_true, cond_false]
def fastB (n : Int) : Int := bif !(decide (1 ≤ n) && decide (n ≤ 16)) then 0 else IntKind.i64.wrap (n - IntKind.i64.wrap ((IntKind.i64.wrap (n - 1)).tdiv 4))
theorem c_view_FastQuorum (n : Int) : Ret Tryz.prog 230 [.v (.int .i64 n)] (.v (.int .i64 (fastB n))) := by
  refine ret_of_body (fn := Tryz.f230) (c := Tryz.f230.body.getD .skip) hm hT (by kernel_rfl) Tryz.func230 (by kernel_rfl) (by kernel_rfl) (by kernel_rfl) (by kernel_rfl) ?_
  repeat' ((conv => whnf); first | refine And.intro (fun h => h) ?_ | refine dcond_t (by assumption) ?_ | refine dcond_f (by assumption) ?_ | (refine dcond_intro ?_ ?_ <;> intro h) | exact .refl | refine And.intro (by kernel_rfl) ?_ | refine And.intro ⟨fun h => h, fun h => h⟩ ?_ | refine .inl ⟨_, _, DleAll_refl _, c_view_counted _, ?_⟩ | refine ⟨_, _, DleAll_refl _, fun _ => c_view_counted _, ?_⟩ | refine ⟨_, _, DleAll_refl _, c_view_counted _, ?_⟩ | refine Exists.intro false ?_ | (refine And.intro ?_ ?_; focus (simp; done)) | fail)
  all_goals (conv => whnf)
  all_goals refine dle_int ?_
  all_goals simp only [fastB, h, cond_true, cond_false]
def rpt0 : Rpt := ⟨0, 0, []⟩
def prevM (l : List Rpt) (i : Nat) : Int := (0 :: l.map (·.mem)).getD i 0
def okRep (v : View) (l : List Rpt) (i : Nat) : Bool :=
  !(decide ((l.getD i rpt0).mem ≤ prevM l i) || !inB v.mem (l.getD i rpt0).mem) &&
    (decide ((l.getD i rpt0).rank = -1) && decide (((l.getD i rpt0).cut.length : Int) = 0) ||
      (decide ((l.getD i rpt0).rank = 0) || usableB (l.getD i rpt0).rank) && decide ((nextR v (l.getD i rpt0).cut).2 = 0))
def repsB (v : View) (l : List Rpt) : Bool := viewB v && allB (okRep v l) l.length
theorem c_paxos_ValidReports (v : View) (hv : v.mem.length ≤ 500000) (l : List Rpt) (hl : l.length ≤ maxLen) (hc : ∀ r ∈ l, r.cut.length ≤ 500000) : Ret Tryz.prog 180 [.agg (viewE v), .lst 3 (l.map rptE) false] (.v (.bool (repsB v l))) := by
  have hl' : l.length ≤ 9223372036854775807 := hl
  have h1 : v.mem.length ≤ maxLen := Nat.le_trans hv (by decide)
  refine ret_of_body (fn := Tryz.f180) (c := Tryz.f180.body.getD .skip) hm hT (by kernel_rfl) Tryz.func180 (by kernel_rfl) (by kernel_rfl) (by kernel_rfl) (by kernel_rfl) ?_
  repeat' ((conv => whnf); first | refine And.intro (fun h => h) ?_ | refine dcond_t (by assumption) ?_ | refine dcond_f (by assumption) ?_ | (refine dcond_intro ?_ ?_ <;> intro h) | exact .refl | refine And.intro (by kernel_rfl) ?_ | refine And.intro ⟨fun h => h, fun h => h⟩ ?_ | refine .inl ⟨_, _, DleAll_refl _, c_view_Valid _ h1, ?_⟩ | refine ⟨_, _, DleAll_refl _, fun _ => c_view_Valid _ h1, ?_⟩ | refine ⟨_, _, DleAll_refl _, c_view_Valid _ h1, ?_⟩ | refine Exists.intro false ?_ | (refine And.intro ?_ ?_; focus (simp; done)) | fail)
  · refine dle_bool ?_
    have h : viewB v = false := by simpa using h
    simp [repsB, h]
  · have hvw : viewB v = true := by simpa using h
    clear h
    conv => whnf
    refine ⟨Nat, fun i => ⟨[(2, .lp 0 0), (5, i64 (prevM l i)), (11, .lst 3 (l.map rptE) false), (12, i64 (l.map rptE).length), (13, i64 i)], [.cells 24 (viewE v)]⟩, fun i => i ≤ l.length ∧ ∀ j, j < i → okRep v l j = true, fun i => l.length - i, [], ⟨0, ⟨Nat.zero_le _, by omega⟩, ?_⟩, ?_⟩
    · exact ⟨by repeat' ((conv => whnf); first | exact trivial | refine And.intro (by (conv => arg 1; whnf); first | (with_reducible exact .refl) | exact dle_int (wrap_succ (by omega)) | exact .refl) ?_), by repeat' ((conv => whnf); first | exact trivial | refine And.intro ?_ ?_ | exact .refl), rfl⟩
    · intro i ⟨hi, hall⟩
      repeat' ((conv => whnf); first | refine And.intro (fun h => h) ?_ | refine dcond_t (by assumption) ?_ | refine dcond_f (by assumption) ?_ | (refine dcond_intro ?_ ?_ <;> intro h) | exact .refl | refine And.intro (by kernel_rfl) ?_ | refine And.intro ⟨fun h => h, fun h => h⟩ ?_ | refine Exists.intro false ?_ | (refine And.intro ?_ ?_; focus (simp; done)) | fail)
      · have hlt : i < l.length := by simpa using h
        clear h
        have hg : l.getD i rpt0 = l[i] := by simp [hlt]
        have hcc : (l[i]).cut.length ≤ 500000 := hc _ (List.getElem_mem hlt)
        have bad : okRep v l i = false → false = repsB v l := fun hb => by rw [repsB, allB_false hlt hb, Bool.and_false]
        have good : okRep v l i = true → ∃ x', (fun i => i ≤ l.length ∧ ∀ j, j < i → okRep v l j = true) x' ∧ (fun i => l.length - i) x' < (fun i => l.length - i) i ∧ x' = i + 1 := fun hb =>
          ⟨i + 1, ⟨hlt, fun j hj => by
            rcases Nat.lt_succ_iff_lt_or_eq.1 hj with hj | rfl
            · exact hall j hj
            · exact hb⟩, by simp only []; omega, rfl⟩
        have hp : prevM l (i + 1) = l[i].mem := by simp [prevM, hlt]
        repeat' ((conv => whnf); first | refine And.intro (fun h => h) ?_ | refine dcond_t (by assumption) ?_ | refine dcond_f (by assumption) ?_ | (refine dcond_intro ?_ ?_ <;> intro h) | exact .refl | refine And.intro (by kernel_rfl) ?_ | refine And.intro ⟨fun h => h, fun h => h⟩ ?_ | refine ⟨_, _, And.intro ⟨rfl, get_map hlt⟩ ?_⟩ | refine .inl ⟨_, _, DleAll_refl _, c_view_Contains _ h1 _, ?_⟩ | refine ⟨_, _, DleAll_refl _, fun _ => c_view_Contains _ h1 _, ?_⟩ | refine ⟨_, _, DleAll_refl _, c_view_Contains _ h1 _, ?_⟩ | refine .inl ⟨_, _, DleAll_refl _, c_paxos_usable _, ?_⟩ | refine ⟨_, _, DleAll_refl _, fun _ => c_paxos_usable _, ?_⟩ | refine ⟨_, _, DleAll_refl _, c_paxos_usable _, ?_⟩ | refine .inl ⟨_, _, DleAll_refl _, c_paxos_applicable _ hv _ hcc, ?_⟩ | refine ⟨_, _, DleAll_refl _, fun _ => c_paxos_applicable _ hv _ hcc, ?_⟩ | refine ⟨_, _, DleAll_refl _, c_paxos_applicable _ hv _ hcc, ?_⟩ | refine Exists.intro false ?_ | (refine And.intro ?_ ?_; focus (simp; done)) | fail)
        all_goals (conv => whnf)
        · refine dle_bool (bad ?_)
          simp only [okRep, hg, h]
          rfl
        · rename_i h0
          rw [List.length_map] at h
          obtain ⟨x', k1, k2, rfl⟩ := good (by simp only [okRep, hg, h0, h]; rfl)
          refine ⟨i + 1, k1, k2, ?_⟩
          refine ⟨⟨.refl, ?_, .refl, .refl, dle_int (wrap_succ (by omega)), trivial⟩, ⟨.refl, trivial⟩, rfl⟩
          exact dle_int hp.symm
        · rename_i h0 h2
          rw [List.length_map] at h2
          obtain ⟨x', k1, k2, rfl⟩ := good (by simp only [okRep, hg, h0, h2, h]; rfl)
          refine ⟨i + 1, k1, k2, ?_⟩
          refine ⟨⟨.refl, ?_, .refl, .refl, dle_int (wrap_succ (by omega)), trivial⟩, ⟨.refl, trivial⟩, rfl⟩
          exact dle_int hp.symm
        · rename_i h0 h2
          rw [List.length_map] at h2
          refine dle_bool (bad ?_)
          simp only [okRep, hg, h0, h2, h]
          rfl
      · have hge : ¬ i < l.length := by simpa using h
        conv => whnf
        refine dle_bool ?_
        rw [repsB, hvw, allB_true.2 (fun j hj => hall j (by omega))]
        rfl
structure Bal where
  mem : Int
  cut : List Int
def balE (b : Bal) : List DV := [.v (.int .i64 b.mem), .lst 1 (b.cut.map intE) false]
def votesN (l : List Bal) (cut : List Int) : Nat := (l.filter fun b => sameI b.cut cut).length
theorem votes_in {l : List Bal} {cut : List Int} {i : Nat} (h : i < l.length) (hs : sameI (l[i]'h).cut cut = true) : votesN (l.take (i + 1)) cut = votesN (l.take i) cut + 1 := by
  simp only [votesN, List.take_succ_eq_append_getElem h, List.filter_append]
  simp [hs]
theorem votes_out {l : List Bal} {cut : List Int} {i : Nat} (h : i < l.length) (hs : sameI (l[i]'h).cut cut = false) : votesN (l.take (i + 1)) cut = votesN (l.take i) cut := by
  simp only [votesN, List.take_succ_eq_append_getElem h, List.filter_append]
  simp [hs]
theorem votes_le (l : List Bal) (cut : List Int) (i : Nat) : votesN (l.take i) cut ≤ i :=
  Nat.le_trans (List.length_filter_le _ _) (by simp; omega)
theorem c_fastvote_Votes (l : List Bal) (hl : l.length ≤ 500000) (hc : ∀ b ∈ l, b.cut.length ≤ maxLen) (cut : List Int) : Ret Tryz.prog 243 [.lst 2 (l.map balE) false, .lst 1 (cut.map intE) false] (.v (.int .i64 (votesN l cut))) := by
  refine ret_of_body (fn := Tryz.f243) (c := Tryz.f243.body.getD .skip) hm hT (by kernel_rfl) Tryz.func243 (by kernel_rfl) (by kernel_rfl) (by kernel_rfl) (by kernel_rfl) ?_
  repeat' ((conv => whnf); first | refine And.intro (fun h => h) ?_ | refine dcond_t (by assumption) ?_ | refine dcond_f (by assumption) ?_ | (refine dcond_intro ?_ ?_ <;> intro h) | exact .refl | refine And.intro (by kernel_rfl) ?_ | refine And.intro ⟨fun h => h, fun h => h⟩ ?_ | refine Exists.intro false ?_ | (refine And.intro ?_ ?_; focus (simp; done)) | fail)
  refine ⟨Nat, fun i => ⟨[(1, .lst 1 (cut.map intE) false), (5, i64 (votesN (l.take i) cut)), (8, .lst 2 (l.map balE) false), (9, i64 (l.map balE).length), (10, i64 i)], []⟩, fun i => i ≤ l.length, fun i => l.length - i, [], ⟨0, Nat.zero_le _, ?_⟩, ?_⟩
  · exact ⟨by repeat' ((conv => whnf); first | exact trivial | refine And.intro (by (conv => arg 1; whnf); first | (with_reducible exact .refl) | exact dle_int (wrap_succ (by omega)) | exact .refl) ?_), by repeat' ((conv => whnf); first | exact trivial | refine And.intro ?_ ?_ | exact .refl), rfl⟩
  · intro i hi
    repeat' ((conv => whnf); first | refine And.intro (fun h => h) ?_ | refine dcond_t (by assumption) ?_ | refine dcond_f (by assumption) ?_ | (refine dcond_intro ?_ ?_ <;> intro h) | exact .refl | refine And.intro (by kernel_rfl) ?_ | refine And.intro ⟨fun h => h, fun h => h⟩ ?_ | refine Exists.intro false ?_ | (refine And.intro ?_ ?_; focus (simp; done)) | fail)
    · have hlt : i < l.length := by simpa using h
      clear h
      have hcc := hc _ (List.getElem_mem hlt)
      have hle := votes_le l cut i
      repeat' ((conv => whnf); first | refine And.intro (fun h => h) ?_ | refine dcond_t (by assumption) ?_ | refine dcond_f (by assumption) ?_ | (refine dcond_intro ?_ ?_ <;> intro h) | exact .refl | refine And.intro (by kernel_rfl) ?_ | refine And.intro ⟨fun h => h, fun h => h⟩ ?_ | refine ⟨_, _, And.intro ⟨rfl, get_map hlt⟩ ?_⟩ | refine .inl ⟨_, _, DleAll_refl _, c_fastvote_Same _ _ hcc, ?_⟩ | refine ⟨_, _, DleAll_refl _, fun _ => c_fastvote_Same _ _ hcc, ?_⟩ | refine ⟨_, _, DleAll_refl _, c_fastvote_Same _ _ hcc, ?_⟩ | refine Exists.intro false ?_ | (refine And.intro ?_ ?_; focus (simp; done)) | fail)
      all_goals (conv => whnf)
      all_goals refine ⟨i + 1, hlt, by simp only []; omega, ?_⟩
      · refine ⟨⟨.refl, ?_, .refl, .refl, dle_int (wrap_succ (by omega)), trivial⟩, trivial, rfl⟩
        rw [votes_in hlt h]
        exact dle_int (wrap_succ (by omega))
      · refine ⟨⟨.refl, ?_, .refl, .refl, dle_int (wrap_succ (by omega)), trivial⟩, trivial, rfl⟩
        rw [votes_out hlt h]
        exact .refl
    · have hge : ¬ i < l.length := by simpa using h
      have : i = l.length := by omega
      subst this
      conv => whnf
      rw [List.take_length]
      exact .refl
end Go.Proofs.YtdcfooeoaoahjaaGreat

set_option maxRecDepth 100000
namespace Go.Proofs.YtdcfooeoaoahjaaGreat
open Go.Lift
end Go.Proofs.YtdcfooeoaoahjaaGreat

set_option maxRecDepth 100000
namespace Go.Proofs.YtdcfooeoaoahjaaGreat
open Go.Lift
end Go.Proofs.YtdcfooeoaoahjaaGreat

set_option maxRecDepth 100000
namespace Go.Proofs.YtdcfooeoaoahjaaGreat
open Go.Lift
end Go.Proofs.YtdcfooeoaoahjaaGreat

set_option maxRecDepth 100000
namespace Go.Proofs.YtdcfooeoaoahjaaGreat
open Go.Lift
theorem fitsR {n : Nat} (h : n ≤ 2000000) : fitsIn tt 179 n := by
  have e : (tinfo tt 179).bytes = 40 := by kernel_rfl
  refine ⟨?_, ?_⟩
  · rw [e]; omega
  · simp only [maxLen]; omega
def ofB (l : List Rpt) (x : Int) : Int := findB (fun i => decide ((l.getD i rpt0).mem = x)) l.length
end Go.Proofs.YtdcfooeoaoahjaaGreat

set_option maxRecDepth 100000
namespace Go.Proofs.YtdcfooeoaoahjaaGreat
open Go.Lift
structure Agr where
  self : Int
  view : View
  acc : Acc
  prop : List Int
  box : List Bal
  rank : Int
  phase : Int
  reps : List Rpt
  cho : List Int
  accs : List Rpt
  dec : List Int
  wait : Int
structure Msg where
  kind : Int
  view : Int
  src : Int
  rank : Int
  last : Int
  cut : List Int
structure Pkt where
  to : Int
  m : Msg
def agrE (s : Agr) : List DV := [i64 s.self, i64 s.view.num, .lst 1 (s.view.mem.map intE) false, i64 s.acc.pro, i64 s.acc.rank, .lst 1 (s.acc.cut.map intE) false, .lst 1 (s.prop.map intE) false, .lst 2 (s.box.map balE) false, i64 s.rank, i64 s.phase, .lst 3 (s.reps.map rptE) false, .lst 1 (s.cho.map intE) false, .lst 3 (s.accs.map rptE) false, .lst 1 (s.dec.map intE) false, i64 s.wait]
def pktE (p : Pkt) : List DV := [i64 p.to, i64 p.m.kind, i64 p.m.view, i64 p.m.src, i64 p.m.rank, i64 p.m.last, .lst 1 (p.m.cut.map intE) false]
def appB (v : View) (c : List Int) : Bool := decide ((nextR v c).2 = 0)
def properB (v : View) (r : Int) : Bool := !decide (ownerOf r = 0) && inB v.mem (ownerOf r)
def goodB (v : View) (c : List Int) : Bool := decide ((c.length : Int) = 0) || appB v c
theorem c_agreement_proper (v : View) (hv : v.mem.length ≤ maxLen) (r : Int) : Ret Tryz.prog 112 [.agg (viewE v), i64 r] (.v (.bool (properB v r))) := by
  refine ret_of_body (fn := Tryz.f112) (c := Tryz.f112.body.getD .skip) hm hT (by kernel_rfl) Tryz.func112 (by kernel_rfl) (by kernel_rfl) (by kernel_rfl) (by kernel_rfl) ?_
  repeat' ((conv => whnf); first | refine And.intro (fun h => h) ?_ | refine dcond_t (by assumption) ?_ | refine dcond_f (by assumption) ?_ | (refine dcond_intro ?_ ?_ <;> intro h) | exact .refl | refine And.intro (by kernel_rfl) ?_ | refine And.intro ⟨fun h => h, fun h => h⟩ ?_ | refine .inl ⟨_, _, DleAll_refl _, c_paxos_Owner _, ?_⟩ | refine ⟨_, _, DleAll_refl _, fun _ => c_paxos_Owner _, ?_⟩ | refine ⟨_, _, DleAll_refl _, c_paxos_Owner _, ?_⟩ | refine .inl ⟨_, _, DleAll_refl _, c_view_Contains _ hv _, ?_⟩ | refine ⟨_, _, DleAll_refl _, fun _ => c_view_Contains _ hv _, ?_⟩ | refine ⟨_, _, DleAll_refl _, c_view_Contains _ hv _, ?_⟩ | refine Exists.intro false ?_ | (refine And.intro ?_ ?_; focus (simp; done)) | fail)
theorem c_agreement_applicable (v : View) (hv : v.mem.length ≤ 500000) (cut : List Int) (hc : cut.length ≤ 500000) : Ret Tryz.prog 163 [.agg (viewE v), .lst 1 (cut.map intE) false] (.v (.bool (appB v cut))) := by
  refine ret_of_body (fn := Tryz.f163) (c := Tryz.f163.body.getD .skip) hm hT (by kernel_rfl) Tryz.func163 (by kernel_rfl) (by kernel_rfl) (by kernel_rfl) (by kernel_rfl) ?_
  repeat' ((conv => whnf); first | refine And.intro (fun h => h) ?_ | refine dcond_t (by assumption) ?_ | refine dcond_f (by assumption) ?_ | (refine dcond_intro ?_ ?_ <;> intro h) | exact .refl | refine And.intro (by kernel_rfl) ?_ | refine And.intro ⟨fun h => h, fun h => h⟩ ?_ | refine .inl ⟨_, _, DleAll_refl _, c_view_Next _ hv _ hc, ?_⟩ | refine ⟨_, _, DleAll_refl _, fun _ => c_view_Next _ hv _ hc, ?_⟩ | refine ⟨_, _, DleAll_refl _, c_view_Next _ hv _ hc, ?_⟩ | refine Exists.intro false ?_ | (refine And.intro ?_ ?_; focus (simp; done)) | fail)
theorem c_fastvote_applicable (v : View) (hv : v.mem.length ≤ 500000) (cut : List Int) (hc : cut.length ≤ 500000) : Ret Tryz.prog 179 [.agg (viewE v), .lst 1 (cut.map intE) false] (.v (.bool (appB v cut))) := by
  refine ret_of_body (fn := Tryz.f179) (c := Tryz.f179.body.getD .skip) hm hT (by kernel_rfl) Tryz.func179 (by kernel_rfl) (by kernel_rfl) (by kernel_rfl) (by kernel_rfl) ?_
  repeat' ((conv => whnf); first | refine And.intro (fun h => h) ?_ | refine dcond_t (by assumption) ?_ | refine dcond_f (by assumption) ?_ | (refine dcond_intro ?_ ?_ <;> intro h) | exact .refl | refine And.intro (by kernel_rfl) ?_ | refine And.intro ⟨fun h => h, fun h => h⟩ ?_ | refine .inl ⟨_, _, DleAll_refl _, c_view_Next _ hv _ hc, ?_⟩ | refine ⟨_, _, DleAll_refl _, fun _ => c_view_Next _ hv _ hc, ?_⟩ | refine ⟨_, _, DleAll_refl _, c_view_Next _ hv _ hc, ?_⟩ | refine Exists.intro false ?_ | (refine And.intro ?_ ?_; focus (simp; done)) | fail)
theorem c_agreement_optional (v : View) (hv : v.mem.length ≤ 500000) (cut : List Int) (hc : cut.length ≤ 500000) : Ret Tryz.prog 113 [.agg (viewE v), .lst 1 (cut.map intE) false] (.v (.bool (goodB v cut))) := by
  have e : goodB v cut = (decide (((cut.map intE).length : Int) = 0) || appB v cut) := by rw [List.length_map]; rfl
  rw [e]
  refine ret_of_body (fn := Tryz.f113) (c := Tryz.f113.body.getD .skip) hm hT (by kernel_rfl) Tryz.func113 (by kernel_rfl) (by kernel_rfl) (by kernel_rfl) (by kernel_rfl) ?_
  repeat' ((conv => whnf); first | refine And.intro (fun h => h) ?_ | refine dcond_t (by assumption) ?_ | refine dcond_f (by assumption) ?_ | (refine dcond_intro ?_ ?_ <;> intro h) | exact .refl | refine And.intro (by kernel_rfl) ?_ | refine And.intro ⟨fun h => h, fun h => h⟩ ?_ | refine .inl ⟨_, _, DleAll_refl _, c_agreement_applicable _ hv _ hc, ?_⟩ | refine ⟨_, _, DleAll_refl _, fun _ => c_agreement_applicable _ hv _ hc, ?_⟩ | refine ⟨_, _, DleAll_refl _, c_agreement_applicable _ hv _ hc, ?_⟩ | refine Exists.intro false ?_ | (refine And.intro ?_ ?_; focus (simp; done)) | fail)
theorem c_agreement_clone (l : List Int) (hl : l.length ≤ 1000000) : Ret Tryz.prog 125 [.lst 1 (l.map intE) false] (.lst 1 (l.map intE) false) := by
  have hby : (l.map intE).length * (tinfo tt 3).bytes ≤ 140737488355328 := by
    have e : (tinfo tt 3).bytes = 8 := by kernel_rfl
    rw [e]; simp; omega
  have hmx : (l.map intE).length ≤ maxLen := by simp only [maxLen]; simp; omega
  refine ret_of_body (fn := Tryz.f125) (c := Tryz.f125.body.getD .skip) hm hT (by kernel_rfl) Tryz.func125 (by kernel_rfl) (by kernel_rfl) (by kernel_rfl) (by kernel_rfl) ?_
  repeat' ((conv => whnf); first | refine And.intro (fun h => h) ?_ | refine dcond_t (by assumption) ?_ | refine dcond_f (by assumption) ?_ | (refine dcond_intro ?_ ?_ <;> intro h) | exact .refl | refine And.intro (by kernel_rfl) ?_ | refine And.intro ⟨fun h => h, fun h => h⟩ ?_ | refine ⟨(l.map intE).length, (l.map intE).length, rfl, rfl, Nat.le_refl _, hby, hmx, ?_⟩ | refine Exists.intro false ?_ | (refine And.intro ?_ ?_; focus (simp; done)) | fail)
  all_goals (conv => whnf)
  refine dle_lst ?_
  simp
  exact List.take_of_length_le (by simp)
def agr0 : Agr := ⟨0, ⟨0, []⟩, ⟨0, 0, []⟩, [], [], 0, 0, [], [], [], [], 0⟩
def newA (v : View) (self : Int) : Agr × Int := bif !viewB v || !inB v.mem self then (agr0, 1) else (⟨self, v, ⟨0, -1, []⟩, [], [], 0, 0, [], [], [], [], 0⟩, 0)
theorem c_agreement_New (v : View) (hv : v.mem.length ≤ 500000) (self : Int) : Ret Tryz.prog 70 [.agg (viewE v), i64 self] (.tup [.agg (agrE (newA v self).1), i64 (newA v self).2]) := by
  have h1 : v.mem.length ≤ maxLen := Nat.le_trans hv (by decide)
  refine ret_of_body (fn := Tryz.f70) (c := Tryz.f70.body.getD .skip) hm hT (by kernel_rfl) Tryz.func70 (by kernel_rfl) (by kernel_rfl) (by kernel_rfl) (by kernel_rfl) ?_
  repeat' ((conv => whnf); first | refine And.intro (fun h => h) ?_ | refine dcond_t (by assumption) ?_ | refine dcond_f (by assumption) ?_ | (refine dcond_intro ?_ ?_ <;> intro h) | exact .refl | refine And.intro (by kernel_rfl) ?_ | refine And.intro ⟨fun h => h, fun h => h⟩ ?_ | refine .inl ⟨_, _, DleAll_refl _, c_view_Valid _ h1, ?_⟩ | refine ⟨_, _, DleAll_refl _, fun _ => c_view_Valid _ h1, ?_⟩ | refine ⟨_, _, DleAll_refl _, c_view_Valid _ h1, ?_⟩ | refine .inl ⟨_, _, DleAll_refl _, c_view_Contains _ h1 _, ?_⟩ | refine ⟨_, _, DleAll_refl _, fun _ => c_view_Contains _ h1 _, ?_⟩ | refine ⟨_, _, DleAll_refl _, c_view_Contains _ h1 _, ?_⟩ | refine .inl ⟨_, _, DleAll_refl _, c_agreement_clone _ (by omega), ?_⟩ | refine ⟨_, _, DleAll_refl _, fun _ => c_agreement_clone _ (by omega), ?_⟩ | refine ⟨_, _, DleAll_refl _, c_agreement_clone _ (by omega), ?_⟩ | refine .inl ⟨_, _, DleAll_refl _, c_paxos_Fresh, ?_⟩ | refine ⟨_, _, DleAll_refl _, fun _ => c_paxos_Fresh, ?_⟩ | refine ⟨_, _, DleAll_refl _, c_paxos_Fresh, ?_⟩ | refine Exists.intro false ?_ | (refine And.intro ?_ ?_; focus (simp; done)) | fail)
  all_goals (conv => whnf)
  all_goals simp only [newA, h, cond_true, cond_false]
  · exact dle_tupA ⟨dle_aggA ⟨.refl, .refl, .nl, .refl, .refl, .nl, .nl, .nl, .refl, .refl, .nl, .nl, .nl, .nl, .refl, trivial⟩, .refl, trivial⟩
  · exact dle_tupA ⟨dle_aggA ⟨.refl, .refl, .refl, .refl, .refl, .refl, .nl, .nl, .refl, .refl, .nl, .nl, .nl, .nl, .refl, trivial⟩, .refl, trivial⟩
def vmB (v : View) (m : Msg) : Bool :=
  bif !viewB v || !inB v.mem m.src || !decide (m.view = v.num) then false
  else bif decide (m.kind = 1) || decide (m.kind = 6) then decide (m.rank = 0) && decide (m.last = 0) && appB v m.cut
  else bif decide (m.kind = 2) then properB v m.rank && decide (ownerOf m.rank = m.src) && decide (m.last = 0) && decide ((m.cut.length : Int) = 0)
  else bif decide (m.kind = 3) then properB v m.rank && !decide (m.rank < m.last) && (decide (m.last = -1) && decide ((m.cut.length : Int) = 0) || (decide (m.last = 0) || properB v m.last) && appB v m.cut)
  else bif decide (m.kind = 4) then properB v m.rank && decide (ownerOf m.rank = m.src) && decide (m.last = 0) && appB v m.cut
  else bif decide (m.kind = 5) then properB v m.rank && decide (m.last = 0) && appB v m.cut
  else false

end Go.Proofs.YtdcfooeoaoahjaaGreat

set_option maxRecDepth 100000
namespace Go.Proofs.YtdcfooeoaoahjaaGreat
open Go.Lift
def bal0 : Bal := ⟨0, []⟩
def okBal (v : View) (l : List Bal) (i : Nat) : Bool := !(!inB v.mem (l.getD i bal0).mem || decide (0 < (i : Int)) && decide ((l.getD i bal0).mem ≤ (l.getD (i - 1) bal0).mem) || !appB v (l.getD i bal0).cut)
def boxB (v : View) (l : List Bal) : Bool := viewB v && allB (okBal v l) l.length
theorem box_iff {v : View} (hv : viewB v = true) {l : List Bal} : boxB v l = true ↔ (∀ b ∈ l, inB v.mem b.mem = true ∧ appB v b.cut = true) ∧ List.Pairwise (fun a b : Bal => a.mem < b.mem) l := by
  rw [boxB, hv, Bool.true_and, allB_true]
  have hok : ∀ i (hi : i < l.length), okBal v l i = true ↔ (inB v.mem l[i].mem = true ∧ appB v l[i].cut = true) ∧ (0 < i → (l.getD (i - 1) bal0).mem < l[i].mem) := by
    intro i hi
    have hg : l.getD i bal0 = l[i] := by simp [hi]
    simp only [okBal, hg, Bool.not_eq_true', Bool.or_eq_false_iff, Bool.not_eq_false', Bool.and_eq_false_iff, decide_eq_false_iff_not]
    constructor
    · rintro ⟨⟨h1, h2⟩, h3⟩
      refine ⟨⟨h1, h3⟩, fun h0 => ?_⟩
      rcases h2 with h2 | h2 <;> omega
    · rintro ⟨⟨h1, h3⟩, h2⟩
      refine ⟨⟨h1, ?_⟩, h3⟩
      by_cases h0 : 0 < i
      · have := h2 h0
        right; omega
      · left; omega
  constructor
  · intro h
    have h1 : ∀ i (hi : i < l.length), (inB v.mem l[i].mem = true ∧ appB v l[i].cut = true) ∧ (0 < i → (l.getD (i - 1) bal0).mem < l[i].mem) := fun i hi => (hok i hi).1 (h i hi)
    refine ⟨fun r hr => ?_, ?_⟩
    · obtain ⟨i, hi, rfl⟩ := List.getElem_of_mem hr
      exact (h1 i hi).1
    · rw [List.pairwise_iff_getElem]
      intro i j hi hj hij
      obtain ⟨d, rfl⟩ : ∃ d, j = i + 1 + d := ⟨j - (i + 1), by omega⟩
      clear hij
      induction d with
      | zero =>
        have := (h1 (i + 1) hj).2 (by omega)
        simpa [hi] using this
      | succ d ih =>
        have hj2 : i + 1 + d < l.length := by omega
        have k1 := ih hj2
        have k2 := (h1 (i + 1 + (d + 1)) hj).2 (by omega)
        have e2 : l.getD (i + 1 + (d + 1) - 1) bal0 = l[i + 1 + d] := by
          have : i + 1 + (d + 1) - 1 = i + 1 + d := by omega
          rw [this]; simp [hj2]
        rw [e2] at k2
        omega
  · rintro ⟨h1, h2⟩ i hi
    refine (hok i hi).2 ⟨h1 _ (List.getElem_mem hi), fun h0 => ?_⟩
    have hi2 : i - 1 < l.length := by omega
    have := List.pairwise_iff_getElem.1 h2 (i - 1) i hi2 hi (by omega)
    simpa [hi2] using this
def ofBal (l : List Bal) (x : Int) : Int := findB (fun i => decide ((l.getD i bal0).mem = x)) l.length
def winR (v : View) (l : List Bal) : List Int × Bool :=
  bif !boxB v l then ([], false)
  else match l.find? (fun b => decide (fastB v.mem.length ≤ (votesN l b.cut : Int))) with
    | some b => (b.cut, true)
    | none => ([], false)
end Go.Proofs.YtdcfooeoaoahjaaGreat

set_option maxRecDepth 100000
namespace Go.Proofs.YtdcfooeoaoahjaaGreat
open Go.Lift
theorem c_fastvote_Valid (v : View) (hv : v.mem.length ≤ 500000) (l : List Bal) (hl : l.length ≤ maxLen) (hc : ∀ r ∈ l, r.cut.length ≤ 500000) : Ret Tryz.prog 114 [.agg (viewE v), .lst 2 (l.map balE) false] (.v (.bool (boxB v l))) := by
  have hl' : l.length ≤ 9223372036854775807 := hl
  have h1 : v.mem.length ≤ maxLen := Nat.le_trans hv (by decide)
  refine ret_of_body (fn := Tryz.f114) (c := Tryz.f114.body.getD .skip) hm hT (by kernel_rfl) Tryz.func114 (by kernel_rfl) (by kernel_rfl) (by kernel_rfl) (by kernel_rfl) ?_
  repeat' ((conv => whnf); first | refine And.intro (fun h => h) ?_ | refine dcond_t (by assumption) ?_ | refine dcond_f (by assumption) ?_ | (refine dcond_intro ?_ ?_ <;> intro h) | exact .refl | refine And.intro (by kernel_rfl) ?_ | refine And.intro ⟨fun h => h, fun h => h⟩ ?_ | refine .inl ⟨_, _, DleAll_refl _, c_view_Valid _ h1, ?_⟩ | refine ⟨_, _, DleAll_refl _, fun _ => c_view_Valid _ h1, ?_⟩ | refine ⟨_, _, DleAll_refl _, c_view_Valid _ h1, ?_⟩ | refine Exists.intro false ?_ | (refine And.intro ?_ ?_; focus (simp; done)) | fail)
  · refine dle_bool ?_
    have h : viewB v = false := by simpa using h
    simp [boxB, h]
  · have hvw : viewB v = true := by simpa using h
    clear h
    conv => whnf
    refine ⟨Nat, fun i => ⟨[(1, .lst 2 (l.map balE) false), (2, .lp 0 0), (10, .lst 2 (l.map balE) false), (11, i64 (l.map balE).length), (12, i64 i)], [.cells 24 (viewE v)]⟩, fun i => i ≤ l.length ∧ ∀ j, j < i → okBal v l j = true, fun i => l.length - i, [], ⟨0, ⟨Nat.zero_le _, by omega⟩, ?_⟩, ?_⟩
    · exact ⟨by repeat' ((conv => whnf); first | exact trivial | refine And.intro (by (conv => arg 1; whnf); first | (with_reducible exact .refl) | exact dle_int (wrap_succ (by omega)) | exact .refl) ?_), by repeat' ((conv => whnf); first | exact trivial | refine And.intro ?_ ?_ | exact .refl), rfl⟩
    · intro i ⟨hi, hall⟩
      repeat' ((conv => whnf); first | refine And.intro (fun h => h) ?_ | refine dcond_t (by assumption) ?_ | refine dcond_f (by assumption) ?_ | (refine dcond_intro ?_ ?_ <;> intro h) | exact .refl | refine And.intro (by kernel_rfl) ?_ | refine And.intro ⟨fun h => h, fun h => h⟩ ?_ | refine Exists.intro false ?_ | (refine And.intro ?_ ?_; focus (simp; done)) | fail)
      · have hlt : i < l.length := by simpa using h
        clear h
        have hg : l.getD i bal0 = l[i] := by simp [hlt]
        have e74 := c_fastvote_applicable v hv (l[i].cut) (hc _ (List.getElem_mem hlt))
        have hok : okBal v l i = !(!inB v.mem l[i].mem || decide (0 < (i : Int)) && decide (l[i].mem ≤ (l.getD (i - 1) bal0).mem) || !appB v l[i].cut) := by rw [okBal, hg]
        have hp : 0 < i → (IntKind.i64.wrap ((i : Int) - 1)) = ((i - 1 : Nat) : Int) ∧ (l.map balE)[i - 1]? = some (balE (l.getD (i - 1) bal0)) := by
          intro h0
          refine ⟨by rw [wrap_i64 (by omega) (by omega)]; omega, ?_⟩
          have : i - 1 < l.length := by omega
          simp [this]
        repeat' ((conv => whnf); first | refine And.intro (fun h => h) ?_ | refine dcond_t (by assumption) ?_ | refine dcond_f (by assumption) ?_ | (refine dcond_intro ?_ ?_ <;> intro h) | exact .refl | refine And.intro (by kernel_rfl) ?_ | refine And.intro ⟨fun h => h, fun h => h⟩ ?_ | refine ⟨_, _, And.intro ⟨rfl, get_map hlt⟩ ?_⟩ | refine .inl ⟨_, _, DleAll_refl _, c_view_Contains _ h1 _, ?_⟩ | refine ⟨_, _, DleAll_refl _, fun _ => c_view_Contains _ h1 _, ?_⟩ | refine ⟨_, _, DleAll_refl _, c_view_Contains _ h1 _, ?_⟩ | refine .inl ⟨_, _, DleAll_refl _, e74, ?_⟩ | refine ⟨_, _, DleAll_refl _, fun _ => e74, ?_⟩ | refine ⟨_, _, DleAll_refl _, e74, ?_⟩ | refine ⟨i - 1, balE (l.getD (i - 1) bal0), And.intro ⟨⟨fun h => h, fun h => h⟩, fun hg => hp (by have := ((Bool.and_eq_true ..).mp hg).2 <;> simpa using this)⟩ ?_⟩ | refine Exists.intro false ?_ | (refine And.intro ?_ ?_; focus (simp; done)) | fail)
        all_goals (conv => whnf)
        · refine dle_bool ?_
          have : okBal v l i = false := by rw [hok, h]; rfl
          rw [boxB, allB_false hlt this, Bool.and_false]
        · refine ⟨i + 1, ⟨hlt, fun j hj => ?_⟩, by simp only []; omega, ?_⟩
          · rcases Nat.lt_succ_iff_lt_or_eq.1 hj with hj | rfl
            · exact hall j hj
            · rw [hok, h]; rfl
          · exact ⟨by repeat' ((conv => whnf); first | exact trivial | refine And.intro (by (conv => arg 1; whnf); first | (with_reducible exact .refl) | exact dle_int (wrap_succ (by omega)) | exact .refl) ?_), by repeat' ((conv => whnf); first | exact trivial | refine And.intro ?_ ?_ | exact .refl), rfl⟩
      · have hge : ¬ i < l.length := by simpa using h
        conv => whnf
        refine dle_bool ?_
        rw [boxB, hvw, allB_true.2 (fun j hj => hall j (by omega))]
        rfl
def cutOf (l : List Bal) (x : Int) : List Int × Bool := bif decide (0 ≤ ofBal l x) then ((l.getD (ofBal l x).toNat bal0).cut, true) else ([], false)
theorem cutOf_at {l : List Bal} {x : Int} {i : Nat} (hlt : i < l.length) (h : decide (l[i].mem = x) = true) (hall : ∀ j, j < i → decide ((l.getD j bal0).mem = x) = false) : cutOf l x = (l[i].cut, true) := by
  have e : ofBal l x = (i : Int) := findB_at hlt (by simpa [hlt] using h) hall
  have e2 : decide (0 ≤ (i : Int)) = true := by simp
  simp only [cutOf, e, e2, cond_true, Int.toNat_natCast]
  simp [hlt]
theorem cutOf_none {l : List Bal} {x : Int} (hall : ∀ j, j < l.length → decide ((l.getD j bal0).mem = x) = false) : cutOf l x = ([], false) := by
  have e : ofBal l x = -1 := findB_none hall
  simp only [cutOf, e]
  rfl
theorem c_agreement_ballotOf (l : List Bal) (hl : l.length ≤ maxLen) (x : Int) : Ret Tryz.prog 115 [.lst 2 (l.map balE) false, .v (.int .i64 x)] (.tup [.lst 1 ((cutOf l x).1.map intE) false, .v (.bool (cutOf l x).2)]) := by
  have hl' : l.length ≤ 9223372036854775807 := hl
  refine ret_of_body (fn := Tryz.f115) (c := Tryz.f115.body.getD .skip) hm hT (by kernel_rfl) Tryz.func115 (by kernel_rfl) (by kernel_rfl) (by kernel_rfl) (by kernel_rfl) ?_
  repeat' ((conv => whnf); first | refine And.intro (fun h => h) ?_ | refine dcond_t (by assumption) ?_ | refine dcond_f (by assumption) ?_ | (refine dcond_intro ?_ ?_ <;> intro h) | exact .refl | refine And.intro (by kernel_rfl) ?_ | refine And.intro ⟨fun h => h, fun h => h⟩ ?_ | refine Exists.intro false ?_ | (refine And.intro ?_ ?_; focus (simp; done)) | fail)
  refine ⟨Nat, fun i => ⟨[(1, .v (.int .i64 x)), (8, .lst 2 (l.map balE) false), (9, i64 (l.map balE).length), (10, i64 i)], []⟩, fun i => i ≤ l.length ∧ ∀ j, j < i → decide ((l.getD j bal0).mem = x) = false, fun i => l.length - i, [], ⟨0, ⟨Nat.zero_le _, by omega⟩, ?_⟩, ?_⟩
  · exact ⟨by repeat' ((conv => whnf); first | exact trivial | refine And.intro (by (conv => arg 1; whnf); first | (with_reducible exact .refl) | exact dle_int (wrap_succ (by omega)) | exact .refl) ?_), by repeat' ((conv => whnf); first | exact trivial | refine And.intro ?_ ?_ | exact .refl), rfl⟩
  · intro i ⟨hi, hall⟩
    repeat' ((conv => whnf); first | refine And.intro (fun h => h) ?_ | refine dcond_t (by assumption) ?_ | refine dcond_f (by assumption) ?_ | (refine dcond_intro ?_ ?_ <;> intro h) | exact .refl | refine And.intro (by kernel_rfl) ?_ | refine And.intro ⟨fun h => h, fun h => h⟩ ?_ | refine Exists.intro false ?_ | (refine And.intro ?_ ?_; focus (simp; done)) | fail)
    · have hlt : i < l.length := by simpa using h
      clear h
      repeat' ((conv => whnf); first | refine And.intro (fun h => h) ?_ | refine dcond_t (by assumption) ?_ | refine dcond_f (by assumption) ?_ | (refine dcond_intro ?_ ?_ <;> intro h) | exact .refl | refine And.intro (by kernel_rfl) ?_ | refine And.intro ⟨fun h => h, fun h => h⟩ ?_ | refine ⟨_, _, And.intro ⟨rfl, get_map hlt⟩ ?_⟩ | refine Exists.intro false ?_ | (refine And.intro ?_ ?_; focus (simp; done)) | fail)
      all_goals (conv => whnf)
      · rw [cutOf_at hlt h hall]
        exact .refl
      · have h2 := h
        refine ⟨i + 1, ⟨hlt, fun j hj => ?_⟩, by simp only []; omega, ?_⟩
        · rcases Nat.lt_succ_iff_lt_or_eq.1 hj with hj | rfl
          · exact hall j hj
          · simpa [hlt] using h2
        · exact ⟨by repeat' ((conv => whnf); first | exact trivial | refine And.intro (by (conv => arg 1; whnf); first | (with_reducible exact .refl) | exact dle_int (wrap_succ (by omega)) | exact .refl) ?_), by repeat' ((conv => whnf); first | exact trivial | refine And.intro ?_ ?_ | exact .refl), rfl⟩
    · have hge : ¬ i < l.length := by simpa using h
      conv => whnf
      rw [cutOf_none (fun j hj => hall j (by omega))]
      exact dle_tupA ⟨.nl, .refl, trivial⟩
end Go.Proofs.YtdcfooeoaoahjaaGreat

set_option maxRecDepth 100000
namespace Go.Proofs.YtdcfooeoaoahjaaGreat
open Go.Lift
theorem nodup_len {α : Type} [DecidableEq α] : ∀ {a b : List α}, a.Nodup → (∀ x ∈ a, x ∈ b) → a.length ≤ b.length
  | [], _, _, _ => Nat.zero_le _
  | x :: a, b, hn, hs => by
    rw [List.nodup_cons] at hn
    have hx := hs x (List.mem_cons_self ..)
    have := nodup_len (b := b.erase x) hn.2 (fun y hy => (List.mem_erase_of_ne (fun e => hn.1 (by rw [← e]; exact hy))).2 (hs y (List.mem_cons_of_mem _ hy)))
    rw [List.length_erase_of_mem hx] at this
    have := List.length_pos_of_mem hx
    simp only [List.length_cons]
    omega
theorem filter_two {β : Type} {p q : β → Bool} (h : ∀ x, p x = true → q x = true → False) : ∀ l : List β, (l.filter p).length + (l.filter q).length ≤ l.length
  | [] => Nat.le_refl _
  | x :: l => by
    have ih := filter_two h l
    have hx := h x
    rw [List.filter_cons, List.filter_cons]
    cases hp : p x <;> cases hq : q x <;> simp_all <;> omega
theorem view_n {v : View} (hv : viewB v = true) : 1 ≤ v.mem.length ∧ v.mem.length ≤ 16 := by
  have hid : idsB v.mem 16 = true := by
    simp only [viewB, Bool.and_eq_true] at hv
    exact hv.2
  rw [ids_eq] at hid
  simp only [Bool.and_eq_true, decide_eq_true_eq] at hid
  omega
theorem cnt_in {v : View} (hv : viewB v = true) : (!(decide (1 ≤ (v.mem.length : Int)) && decide ((v.mem.length : Int) ≤ 16))) = false := by
  have hn := view_n hv
  rw [decide_eq_true (by omega), decide_eq_true (by omega)]
  rfl
theorem fast_n {v : View} (hv : viewB v = true) : fastB v.mem.length = ((v.mem.length - (v.mem.length - 1) / 4 : Nat) : Int) := by
  have hn := view_n hv
  unfold fastB
  rw [cnt_in hv]
  show IntKind.i64.wrap _ = _
  rw [wrap_i64 (n := (v.mem.length : Int) - 1) (by omega) (by omega)]
  have h1 : ((v.mem.length : Int) - 1).tdiv 4 = (((v.mem.length - 1) / 4 : Nat) : Int) := by
    have : (v.mem.length : Int) - 1 = ((v.mem.length - 1 : Nat) : Int) := by omega
    rw [this]
    rfl
  rw [h1, wrap_i64 (n := (((v.mem.length - 1) / 4 : Nat) : Int)) (by omega) (by omega), wrap_i64 (by omega) (by omega)]
  omega
theorem in_mem {l : List Int} {x : Int} (h : inB l x = true) : x ∈ l := by
  rcases hf : (List.range l.length).find? (fun i => decide (l[i]? = some x)) with _ | n
  · simp only [inB, placeB, findB, hf] at h
    cases h
  · have hp := List.find?_some hf
    simp only [decide_eq_true_eq] at hp
    exact List.mem_of_getElem? hp
theorem box_le {v : View} {l : List Bal} (h : boxB v l = true) : l.length ≤ v.mem.length := by
  have hv : viewB v = true := by
    simp only [boxB, Bool.and_eq_true] at h
    exact h.1
  have hb := (box_iff hv).1 h
  have := nodup_len (a := l.map (·.mem)) (b := v.mem) (by
    refine List.Pairwise.map _ (fun a b hab => ?_) hb.2
    exact Int.ne_of_lt hab) (fun x hx => by
    obtain ⟨b, hb2, rfl⟩ := List.mem_map.1 hx
    exact in_mem (hb.1 b hb2).1)
  simpa using this
def ldr (l : List Bal) : Nat → List Int × Int
  | 0 => ([], 0)
  | i + 1 => bif decide ((ldr l i).2 < (votesN l (l.getD i bal0).cut : Int)) then ((l.getD i bal0).cut, (votesN l (l.getD i bal0).cut : Int)) else ldr l i
theorem ldr_ge (l : List Bal) : ∀ i j, j < i → (votesN l (l.getD j bal0).cut : Int) ≤ (ldr l i).2
  | i + 1, j, h => by
    unfold ldr
    by_cases hd : (ldr l i).2 < (votesN l (l.getD i bal0).cut : Int)
    · rw [decide_eq_true hd, cond_true]
      rcases Nat.lt_succ_iff_lt_or_eq.1 h with h | rfl
      · have := ldr_ge l i j h
        simp only
        omega
      · exact Int.le_refl _
    · rw [decide_eq_false hd, cond_false]
      rcases Nat.lt_succ_iff_lt_or_eq.1 h with h | rfl
      · exact ldr_ge l i j h
      · omega
theorem ldr_at (l : List Bal) : ∀ i, ldr l i = ([], 0) ∨ ∃ j, j < i ∧ ldr l i = ((l.getD j bal0).cut, (votesN l (l.getD j bal0).cut : Int))
  | 0 => .inl rfl
  | i + 1 => by
    unfold ldr
    by_cases hd : (ldr l i).2 < (votesN l (l.getD i bal0).cut : Int)
    · rw [decide_eq_true hd, cond_true]
      exact .inr ⟨i, Nat.lt_succ_self _, rfl⟩
    · rw [decide_eq_false hd, cond_false]
      rcases ldr_at l i with h | ⟨j, h1, h2⟩
      · exact .inl h
      · exact .inr ⟨j, by omega, h2⟩
theorem votes_two {l : List Bal} {c d : List Int} (h : c ≠ d) : votesN l c + votesN l d ≤ l.length :=
  filter_two (fun x h1 h2 => h ((sameI_iff.1 h1).symm.trans (sameI_iff.1 h2))) l
theorem win_no {v : View} {l : List Bal} (h : decide ((ldr l l.length).2 < fastB v.mem.length) = true) : winR v l = ([], false) := by
  unfold winR
  cases hb : boxB v l
  · rfl
  · have hn : l.find? (fun b => decide (fastB v.mem.length ≤ (votesN l b.cut : Int))) = none := List.find?_eq_none.2 (fun b hb => by
      obtain ⟨j, hj, rfl⟩ := List.getElem_of_mem hb
      have := ldr_ge l l.length j hj
      have hg : l.getD j bal0 = l[j] := by simp [hj]
      rw [hg] at this
      have := of_decide_eq_true h
      simp only [decide_eq_true_eq]
      omega)
    rw [hn]
    rfl
theorem win_yes {v : View} {l : List Bal} (hb : boxB v l = true) (h : decide ((ldr l l.length).2 < fastB v.mem.length) = false) : winR v l = ((ldr l l.length).1, true) := by
  have hv : viewB v = true := by
    simp only [boxB, Bool.and_eq_true] at hb
    exact hb.1
  have hl := box_le hb
  have hn := view_n hv
  have hf := fast_n hv
  have h := of_decide_eq_false h
  rcases ldr_at l l.length with e | ⟨j, hj, e⟩
  · rw [e] at h
    simp only at h
    omega
  · rw [e] at h ⊢
    simp only at h ⊢
    have hg : l.getD j bal0 = l[j] := by simp [hj]
    rw [hg] at h ⊢
    unfold winR
    rw [hb]
    cases hf2 : l.find? (fun b => decide (fastB v.mem.length ≤ (votesN l b.cut : Int))) with
    | none =>
      have := List.find?_eq_none.1 hf2 _ (List.getElem_mem hj)
      simp only [decide_eq_true_eq] at this
      omega
    | some b =>
      have hp := List.find?_some hf2
      simp only [decide_eq_true_eq] at hp
      have : b.cut = l[j].cut := Classical.byContradiction fun hne => by
        have := votes_two (l := l) hne
        omega
      simp only [Bool.not_true, cond_false, this]
theorem ldr_len {l : List Bal} {N : Nat} (hc : ∀ b ∈ l, b.cut.length ≤ N) : (ldr l l.length).1.length ≤ N := by
  rcases ldr_at l l.length with e | ⟨j, hj, e⟩
  · rw [e]
    exact Nat.zero_le _
  · rw [e]
    have hg : l.getD j bal0 = l[j] := by simp [hj]
    rw [hg]
    exact hc _ (List.getElem_mem hj)
theorem c_fastvote_leader (l : List Bal) (hl : l.length ≤ 500000) (hc : ∀ b ∈ l, b.cut.length ≤ 1000000) : Ret Tryz.prog 229 [.lst 2 (l.map balE) false] (.tup [.lst 1 ((ldr l l.length).1.map intE) false, i64 (ldr l l.length).2]) := by
  have hl' : l.length ≤ 9223372036854775807 := by omega
  have hll := ldr_len hc
  refine ret_of_body (fn := Tryz.f229) (c := Tryz.f229.body.getD .skip) hm hT (by kernel_rfl) Tryz.func229 (by kernel_rfl) (by kernel_rfl) (by kernel_rfl) (by kernel_rfl) ?_
  repeat' ((conv => whnf); first | refine And.intro (fun h => h) ?_ | refine dcond_t (by assumption) ?_ | refine dcond_f (by assumption) ?_ | (refine dcond_intro ?_ ?_ <;> intro h) | exact .refl | refine And.intro (by kernel_rfl) ?_ | refine And.intro ⟨fun h => h, fun h => h⟩ ?_ | refine Exists.intro false ?_ | (refine And.intro ?_ ?_; focus (simp; done)) | fail)
  refine ⟨Nat, fun i => ⟨[(0, .lst 2 (l.map balE) false), (2, .lst 1 ((ldr l i).1.map intE) false), (3, i64 (ldr l i).2), (7, i64 (l.map balE).length), (8, i64 i)], []⟩, fun i => i ≤ l.length, fun i => l.length - i, [], ⟨0, Nat.zero_le _, ?_⟩, ?_⟩
  · conv => whnf
    exact ⟨⟨.refl, .nl, .refl, .refl, .refl, trivial⟩, trivial, rfl⟩
  · intro i hi
    repeat' ((conv => whnf); first | refine And.intro (fun h => h) ?_ | refine dcond_t (by assumption) ?_ | refine dcond_f (by assumption) ?_ | (refine dcond_intro ?_ ?_ <;> intro h) | exact .refl | refine And.intro (by kernel_rfl) ?_ | refine And.intro ⟨fun h => h, fun h => h⟩ ?_ | refine .inl ⟨_, _, DleAll_refl _, c_slices_Clone_int _ (by omega), ?_⟩ | refine ⟨_, _, DleAll_refl _, fun _ => c_slices_Clone_int _ (by omega), ?_⟩ | refine ⟨_, _, DleAll_refl _, c_slices_Clone_int _ (by omega), ?_⟩ | refine Exists.intro false ?_ | (refine And.intro ?_ ?_; focus (simp; done)) | fail)
    · have hlt : i < l.length := by simpa using h
      clear h
      have hg : l.getD i bal0 = l[i] := by simp [hlt]
      have e114 := c_fastvote_Votes l hl (fun b hb => Nat.le_trans (hc b hb) (by decide)) l[i].cut
      have hs : ldr l (i + 1) = bif decide ((ldr l i).2 < (votesN l l[i].cut : Int)) then (l[i].cut, (votesN l l[i].cut : Int)) else ldr l i := by
        rw [← hg]
        rfl
      repeat' ((conv => whnf); first | refine And.intro (fun h => h) ?_ | refine dcond_t (by assumption) ?_ | refine dcond_f (by assumption) ?_ | (refine dcond_intro ?_ ?_ <;> intro h) | exact .refl | refine And.intro (by kernel_rfl) ?_ | refine And.intro ⟨fun h => h, fun h => h⟩ ?_ | refine ⟨_, _, And.intro ⟨rfl, get_map hlt⟩ ?_⟩ | refine .inl ⟨_, _, DleAll_refl _, e114, ?_⟩ | refine ⟨_, _, DleAll_refl _, fun _ => e114, ?_⟩ | refine ⟨_, _, DleAll_refl _, e114, ?_⟩ | refine Exists.intro false ?_ | (refine And.intro ?_ ?_; focus (simp; done)) | fail)
      all_goals (conv => whnf)
      · refine ⟨i + 1, hlt, by simp only []; omega, ?_⟩
        conv => whnf
        rw [h, cond_true] at hs
        refine ⟨⟨.refl, dle_lst (by rw [hs]), dle_int (by rw [hs]), .refl, dle_int (wrap_succ (by omega)), trivial⟩, trivial, rfl⟩
      · refine ⟨i + 1, hlt, by simp only []; omega, ?_⟩
        conv => whnf
        rw [h, cond_false] at hs
        refine ⟨⟨.refl, dle_lst (by rw [hs]), dle_int (by rw [hs]), .refl, dle_int (wrap_succ (by omega)), trivial⟩, trivial, rfl⟩
    · have hge : ¬ i < l.length := by simpa using h
      have : i = l.length := by omega
      subst this
      clear h
      repeat' ((conv => whnf); first | refine And.intro (fun h => h) ?_ | refine dcond_t (by assumption) ?_ | refine dcond_f (by assumption) ?_ | (refine dcond_intro ?_ ?_ <;> intro h) | exact .refl | refine And.intro (by kernel_rfl) ?_ | refine And.intro ⟨fun h => h, fun h => h⟩ ?_ | refine .inl ⟨_, _, DleAll_refl _, c_slices_Clone_int _ hll, ?_⟩ | refine ⟨_, _, DleAll_refl _, fun _ => c_slices_Clone_int _ hll, ?_⟩ | refine ⟨_, _, DleAll_refl _, c_slices_Clone_int _ hll, ?_⟩ | refine Exists.intro false ?_ | (refine And.intro ?_ ?_; focus (simp; done)) | fail)
theorem c_fastvote_Winner (v : View) (hv : v.mem.length ≤ 500000) (l : List Bal) (hl : l.length ≤ 500000) (hc : ∀ b ∈ l, b.cut.length ≤ 500000) : Ret Tryz.prog 198 [.agg (viewE v), .lst 2 (l.map balE) false] (.tup [.lst 1 ((winR v l).1.map intE) false, .v (.bool (winR v l).2)]) := by
  have hl' : l.length ≤ maxLen := by simp only [maxLen]; omega
  have e40 := c_fastvote_Valid v hv l hl' hc
  have e107 := c_fastvote_leader l hl (fun b hb => Nat.le_trans (hc b hb) (by omega))
  have e108 := c_view_FastQuorum (v.mem.length : Int)
  have w0 : boxB v l = false → winR v l = ([], false) := fun h => by
    unfold winR
    rw [h]
    rfl
  have w1 := @win_no v l
  have w2 := @win_yes v l
  generalize winR v l = W at *
  generalize ldr l l.length = X at *
  generalize fastB v.mem.length = F at *
  have e108' : Ret Tryz.prog 230 [i64 ((v.mem.map intE).length : Int)] (i64 F) := by
    rw [List.length_map]
    exact e108
  refine ret_of_body (fn := Tryz.f198) (c := Tryz.f198.body.getD .skip) hm hT (by kernel_rfl) Tryz.func198 (by kernel_rfl) (by kernel_rfl) (by kernel_rfl) (by kernel_rfl) ?_
  repeat' ((conv => whnf); first | refine And.intro (fun h => h) ?_ | refine dcond_t (by assumption) ?_ | refine dcond_f (by assumption) ?_ | (refine dcond_intro ?_ ?_ <;> intro h) | exact .refl | refine And.intro (by kernel_rfl) ?_ | refine And.intro ⟨fun h => h, fun h => h⟩ ?_ | refine .inl ⟨_, _, DleAll_refl _, e40, ?_⟩ | refine ⟨_, _, DleAll_refl _, fun _ => e40, ?_⟩ | refine ⟨_, _, DleAll_refl _, e40, ?_⟩ | refine .inl ⟨_, _, DleAll_refl _, e107, ?_⟩ | refine ⟨_, _, DleAll_refl _, fun _ => e107, ?_⟩ | refine ⟨_, _, DleAll_refl _, e107, ?_⟩ | refine .inl ⟨_, _, DleAll_refl _, e108', ?_⟩ | refine ⟨_, _, DleAll_refl _, fun _ => e108', ?_⟩ | refine ⟨_, _, DleAll_refl _, e108', ?_⟩ | refine Exists.intro false ?_ | (refine And.intro ?_ ?_; focus (simp; done)) | fail)
  all_goals (conv => whnf)
  · rw [w0 (by simpa using h)]
    exact dle_tupA ⟨.nl, .refl, trivial⟩
  · rw [w1 h]
    exact dle_tupA ⟨.nl, .refl, trivial⟩
  · rename_i hb
    rw [w2 (by simpa using hb) h]
    exact .refl
end Go.Proofs.YtdcfooeoaoahjaaGreat

set_option maxRecDepth 100000
namespace Go.Proofs.YtdcfooeoaoahjaaGreat
open Go.Lift
end Go.Proofs.YtdcfooeoaoahjaaGreat

set_option maxRecDepth 100000
namespace Go.Proofs.YtdcfooeoaoahjaaGreat
open Go.Lift
def rkP (v : View) (l : List Rpt) (i : Nat) : Bool := !(decide (0 < (l.getD i rpt0).rank) && !properB v (l.getD i rpt0).rank)
def leP (m : Int) (l : List Rpt) (i : Nat) : Bool := !decide ((l.getD i rpt0).rank < m)
def prB (v : View) (l : List Rpt) : Bool := allB (rkP v l) l.length && repsB v l
theorem c_agreement_reportOf (l : List Rpt) (hl : l.length ≤ maxLen) (x : Int) : Ret Tryz.prog 182 [.lst 3 (l.map rptE) false, .v (.int .i64 x)] (.v (.int .i64 (ofB l x))) := by
  have hl' : l.length ≤ 9223372036854775807 := hl
  refine ret_of_body (fn := Tryz.f182) (c := Tryz.f182.body.getD .skip) hm hT (by kernel_rfl) Tryz.func182 (by kernel_rfl) (by kernel_rfl) (by kernel_rfl) (by kernel_rfl) ?_
  repeat' ((conv => whnf); first | refine And.intro (fun h => h) ?_ | refine dcond_t (by assumption) ?_ | refine dcond_f (by assumption) ?_ | (refine dcond_intro ?_ ?_ <;> intro h) | exact .refl | refine And.intro (by kernel_rfl) ?_ | refine And.intro ⟨fun h => h, fun h => h⟩ ?_ | refine Exists.intro false ?_ | (refine And.intro ?_ ?_; focus (simp; done)) | fail)
  refine ⟨Nat, fun i => ⟨[(1, .v (.int .i64 x)), (7, .lst 3 (l.map rptE) false), (8, i64 (l.map rptE).length), (9, i64 i)], []⟩, fun i => i ≤ l.length ∧ ∀ j, j < i → decide ((l.getD j rpt0).mem = x) = false, fun i => l.length - i, [], ⟨0, ⟨Nat.zero_le _, by omega⟩, ?_⟩, ?_⟩
  · exact ⟨by repeat' ((conv => whnf); first | exact trivial | refine And.intro (by (conv => arg 1; whnf); first | (with_reducible exact .refl) | exact dle_int (wrap_succ (by omega)) | exact .refl) ?_), by repeat' ((conv => whnf); first | exact trivial | refine And.intro ?_ ?_ | exact .refl), rfl⟩
  · intro i ⟨hi, hall⟩
    repeat' ((conv => whnf); first | refine And.intro (fun h => h) ?_ | refine dcond_t (by assumption) ?_ | refine dcond_f (by assumption) ?_ | (refine dcond_intro ?_ ?_ <;> intro h) | exact .refl | refine And.intro (by kernel_rfl) ?_ | refine And.intro ⟨fun h => h, fun h => h⟩ ?_ | refine Exists.intro false ?_ | (refine And.intro ?_ ?_; focus (simp; done)) | fail)
    · have hlt : i < l.length := by simpa using h
      repeat' ((conv => whnf); first | refine And.intro (fun h => h) ?_ | refine dcond_t (by assumption) ?_ | refine dcond_f (by assumption) ?_ | (refine dcond_intro ?_ ?_ <;> intro h) | exact .refl | refine And.intro (by kernel_rfl) ?_ | refine And.intro ⟨fun h => h, fun h => h⟩ ?_ | refine ⟨_, _, And.intro ⟨rfl, get_map hlt⟩ ?_⟩ | refine Exists.intro false ?_ | (refine And.intro ?_ ?_; focus (simp; done)) | fail)
      · have h2 := h
        refine dle_int (findB_at hlt ?_ hall).symm
        simpa [hlt] using h2
      · have h2 := h
        conv => whnf
        refine ⟨i + 1, ⟨hlt, fun j hj => ?_⟩, by simp only []; omega, ?_⟩
        · rcases Nat.lt_succ_iff_lt_or_eq.1 hj with hj | rfl
          · exact hall j hj
          · simpa [hlt] using h2
        · exact ⟨by repeat' ((conv => whnf); first | exact trivial | refine And.intro (by (conv => arg 1; whnf); first | (with_reducible exact .refl) | exact dle_int (wrap_succ (by omega)) | exact .refl) ?_), by repeat' ((conv => whnf); first | exact trivial | refine And.intro ?_ ?_ | exact .refl), rfl⟩
    · have hge : ¬ i < l.length := by simpa using h
      conv => whnf
      refine dle_int (findB_none (fun j hj => hall j (by omega))).symm
theorem c_agreement_properReports (v : View) (hv : v.mem.length ≤ 500000) (l : List Rpt) (hl : l.length ≤ maxLen) (hc : ∀ r ∈ l, r.cut.length ≤ 500000) : Ret Tryz.prog 117 [.agg (viewE v), .lst 3 (l.map rptE) false] (.v (.bool (prB v l))) := by
  have hl' : l.length ≤ 9223372036854775807 := hl
  have h1 : v.mem.length ≤ maxLen := Nat.le_trans hv (by decide)
  refine ret_of_body (fn := Tryz.f117) (c := Tryz.f117.body.getD .skip) hm hT (by kernel_rfl) Tryz.func117 (by kernel_rfl) (by kernel_rfl) (by kernel_rfl) (by kernel_rfl) ?_
  repeat' ((conv => whnf); first | refine And.intro (fun h => h) ?_ | refine dcond_t (by assumption) ?_ | refine dcond_f (by assumption) ?_ | (refine dcond_intro ?_ ?_ <;> intro h) | exact .refl | refine And.intro (by kernel_rfl) ?_ | refine And.intro ⟨fun h => h, fun h => h⟩ ?_ | refine Exists.intro false ?_ | (refine And.intro ?_ ?_; focus (simp; done)) | fail)
  refine ⟨Nat, fun i => ⟨[(1, .lst 3 (l.map rptE) false), (2, .lp 0 0), (7, .lst 3 (l.map rptE) false), (8, i64 (l.map rptE).length), (9, i64 i)], [.cells 24 (viewE v)]⟩, fun i => i ≤ l.length ∧ ∀ j, j < i → rkP v l j = true, fun i => l.length - i, [], ⟨0, ⟨Nat.zero_le _, by omega⟩, ?_⟩, ?_⟩
  · exact ⟨by repeat' ((conv => whnf); first | exact trivial | refine And.intro (by (conv => arg 1; whnf); first | (with_reducible exact .refl) | exact dle_int (wrap_succ (by omega)) | exact .refl) ?_), by repeat' ((conv => whnf); first | exact trivial | refine And.intro ?_ ?_ | exact .refl), rfl⟩
  · intro i ⟨hi, hall⟩
    conv => whnf
    refine dcond_intro ?_ ?_ <;> intro h
    · have hlt : i < l.length := by simpa using h
      clear h
      have hg : l.getD i rpt0 = l[i] := by simp [hlt]
      repeat' ((conv => whnf); first | refine And.intro (fun h => h) ?_ | refine dcond_t (by assumption) ?_ | refine dcond_f (by assumption) ?_ | (refine dcond_intro ?_ ?_ <;> intro h) | exact .refl | refine And.intro (by kernel_rfl) ?_ | refine And.intro ⟨fun h => h, fun h => h⟩ ?_ | refine ⟨_, _, And.intro ⟨rfl, get_map hlt⟩ ?_⟩ | refine .inl ⟨_, _, DleAll_refl _, c_agreement_proper _ h1 _, ?_⟩ | refine ⟨_, _, DleAll_refl _, fun _ => c_agreement_proper _ h1 _, ?_⟩ | refine ⟨_, _, DleAll_refl _, c_agreement_proper _ h1 _, ?_⟩ | refine Exists.intro false ?_ | (refine And.intro ?_ ?_; focus (simp; done)) | fail)
      all_goals (conv => whnf)
      · refine dle_bool ?_
        rw [prB, allB_false hlt (by rw [rkP, hg, h]; rfl), Bool.false_and]
      · refine ⟨i + 1, ⟨hlt, fun j hj => ?_⟩, by simp only []; omega, ?_⟩
        · rcases Nat.lt_succ_iff_lt_or_eq.1 hj with hj | rfl
          · exact hall j hj
          · rw [rkP, hg, h]; rfl
        · exact ⟨by repeat' ((conv => whnf); first | exact trivial | refine And.intro (by (conv => arg 1; whnf); first | (with_reducible exact .refl) | exact dle_int (wrap_succ (by omega)) | exact .refl) ?_), by repeat' ((conv => whnf); first | exact trivial | refine And.intro ?_ ?_ | exact .refl), rfl⟩
    · have hge : ¬ i < l.length := by simpa using h
      clear h
      repeat' ((conv => whnf); first | refine And.intro (fun h => h) ?_ | refine dcond_t (by assumption) ?_ | refine dcond_f (by assumption) ?_ | (refine dcond_intro ?_ ?_ <;> intro h) | exact .refl | refine And.intro (by kernel_rfl) ?_ | refine And.intro ⟨fun h => h, fun h => h⟩ ?_ | refine .inl ⟨_, _, DleAll_refl _, c_paxos_ValidReports _ hv _ hl hc, ?_⟩ | refine ⟨_, _, DleAll_refl _, fun _ => c_paxos_ValidReports _ hv _ hl hc, ?_⟩ | refine ⟨_, _, DleAll_refl _, c_paxos_ValidReports _ hv _ hl hc, ?_⟩ | refine Exists.intro false ?_ | (refine And.intro ?_ ?_; focus (simp; done)) | fail)
      all_goals (conv => whnf)
      all_goals (refine dle_bool ?_)
      all_goals (rw [prB, allB_true.2 (fun j hj => hall j (by omega))])
      all_goals rfl
def phaseB (s : Agr) : Bool :=
  bif !decide (s.rank = 0) && (!properB s.view s.rank || !decide (ownerOf s.rank = s.self)) then false
  else bif !(decide (0 < (s.cho.length : Int)) == decide (s.phase = 2)) then false
  else bif decide (s.phase = 0) then decide ((s.reps.length : Int) = 0)
  else bif decide (s.phase = 1) || decide (s.phase = 2) then
    !decide (s.rank = 0) && decide (0 < (s.prop.length : Int)) && decide (0 ≤ ofB s.reps s.self) && (decide ((s.reps.length : Int) < majB s.view.mem.length) || decide (s.phase = 2))
  else false
structure SmA (s : Agr) : Prop where
  mem : s.view.mem.length ≤ 1000
  acut : s.acc.cut.length ≤ 1000
  prop : s.prop.length ≤ 1000
  box : s.box.length ≤ 1000
  boxc : ∀ b ∈ s.box, b.cut.length ≤ 1000
  reps : s.reps.length ≤ 1000
  repc : ∀ b ∈ s.reps, b.cut.length ≤ 1000
  cho : s.cho.length ≤ 1000
  accs : s.accs.length ≤ 1000
  accc : ∀ b ∈ s.accs, b.cut.length ≤ 1000
  dec : s.dec.length ≤ 1000
theorem mx {n : Nat} (h : n ≤ 1000) : n ≤ maxLen := by simp only [maxLen]; omega
theorem c_agreement_validPhase (s : Agr) (hs : SmA s) : Ret Tryz.prog 118 [.agg (agrE s)] (.v (.bool (phaseB s))) := by
  refine ret_of_body (fn := Tryz.f118) (c := Tryz.f118.body.getD .skip) hm hT (by kernel_rfl) Tryz.func118 (by kernel_rfl) (by kernel_rfl) (by kernel_rfl) (by kernel_rfl) ?_
  repeat' ((conv => whnf); first | refine And.intro (fun h => h) ?_ | refine dcond_t (by assumption) ?_ | refine dcond_f (by assumption) ?_ | (refine dcond_intro ?_ ?_ <;> intro h) | exact .refl | refine And.intro (by kernel_rfl) ?_ | refine And.intro ⟨fun h => h, fun h => h⟩ ?_ | refine .inl ⟨_, _, DleAll_refl _, c_agreement_proper _ (mx hs.mem) _, ?_⟩ | refine ⟨_, _, DleAll_refl _, fun _ => c_agreement_proper _ (mx hs.mem) _, ?_⟩ | refine ⟨_, _, DleAll_refl _, c_agreement_proper _ (mx hs.mem) _, ?_⟩ | refine .inl ⟨_, _, DleAll_refl _, c_paxos_Owner _, ?_⟩ | refine ⟨_, _, DleAll_refl _, fun _ => c_paxos_Owner _, ?_⟩ | refine ⟨_, _, DleAll_refl _, c_paxos_Owner _, ?_⟩ | refine .inl ⟨_, _, DleAll_refl _, c_view_Majority _, ?_⟩ | refine ⟨_, _, DleAll_refl _, fun _ => c_view_Majority _, ?_⟩ | refine ⟨_, _, DleAll_refl _, c_view_Majority _, ?_⟩ | refine .inl ⟨_, _, DleAll_refl _, c_agreement_reportOf _ (mx hs.reps) _, ?_⟩ | refine ⟨_, _, DleAll_refl _, fun _ => c_agreement_reportOf _ (mx hs.reps) _, ?_⟩ | refine ⟨_, _, DleAll_refl _, c_agreement_reportOf _ (mx hs.reps) _, ?_⟩ | refine Exists.intro false ?_ | (refine And.intro ?_ ?_; focus (simp; done)) | fail)
  all_goals (conv => whnf)
  all_goals (refine dle_bool ?_)
  all_goals (try simp only [List.length_map] at *)
  all_goals (simp only [phaseB, *, cond_true, cond_false, Bool.true_or, Bool.or_true, Bool.false_or, Bool.or_false, Bool.or_self])
  all_goals (generalize decide (0 < (s.cho.length : Int)) = q at *)
  all_goals (cases q <;> simp_all)
def agrB (s : Agr) : Bool :=
  bif !viewB s.view || !inB s.view.mem s.self || decide (s.wait < 0) || decide (1099511627776 < s.wait) then false
  else bif !accB s.acc || !decide (s.acc.pro = 0) && !properB s.view s.acc.pro || decide (0 < s.acc.rank) && !properB s.view s.acc.rank || !goodB s.view s.acc.cut then false
  else bif !goodB s.view s.prop || !goodB s.view s.cho || !goodB s.view s.dec || !boxB s.view s.box then false
  else bif (cutOf s.box s.self).2 && !sameI (cutOf s.box s.self).1 s.prop then false
  else allB (leP 1 s.accs) s.accs.length && (prB s.view s.reps && prB s.view s.accs && phaseB s)
theorem c_agreement_Valid (s : Agr) (hs : SmA s) : Ret Tryz.prog 63 [.agg (agrE s)] (.v (.bool (agrB s))) := by
  have hvm := mx hs.mem
  have hcut : (cutOf s.box s.self).1.length ≤ maxLen := by
    unfold cutOf
    cases decide (0 ≤ ofBal s.box s.self)
    · exact Nat.zero_le _
    · rcases Nat.lt_or_ge (ofBal s.box s.self).toNat s.box.length with h | h
      · simp only [cond_true, List.getD_eq_getElem?_getD, List.getElem?_eq_getElem h, Option.getD_some]
        exact mx (hs.boxc _ (List.getElem_mem h))
      · simp only [cond_true, List.getD_eq_getElem?_getD, List.getElem?_eq_none h, Option.getD_none]
        exact Nat.zero_le _
  have e1 := c_agreement_ballotOf s.box (mx hs.box) s.self
  have e2 := c_fastvote_Same (cutOf s.box s.self).1 s.prop hcut
  have e3 := c_fastvote_Valid s.view (by have := hs.mem; omega) s.box (mx hs.box) (fun b hb => by have := hs.boxc b hb; omega)
  have e4 := c_agreement_properReports s.view (by have := hs.mem; omega) s.reps (mx hs.reps) (fun b hb => by have := hs.repc b hb; omega)
  have e5 := c_agreement_properReports s.view (by have := hs.mem; omega) s.accs (mx hs.accs) (fun b hb => by have := hs.accc b hb; omega)
  have e6 := c_agreement_validPhase s hs
  have o1 := c_agreement_optional s.view (by have := hs.mem; omega) s.acc.cut (by have := hs.acut; omega)
  have o2 := c_agreement_optional s.view (by have := hs.mem; omega) s.prop (by have := hs.prop; omega)
  have o3 := c_agreement_optional s.view (by have := hs.mem; omega) s.cho (by have := hs.cho; omega)
  have o4 := c_agreement_optional s.view (by have := hs.mem; omega) s.dec (by have := hs.dec; omega)
  have pv := c_paxos_Valid s.acc (mx hs.acut)
  have hal : s.accs.length ≤ 1000 := hs.accs
  unfold agrB
  generalize cutOf s.box s.self = C at *
  generalize boxB s.view s.box = B1 at *
  generalize prB s.view s.reps = B2 at *
  generalize prB s.view s.accs = B3 at *
  generalize phaseB s = B4 at *
  generalize accB s.acc = B5 at *
  generalize goodB s.view s.acc.cut = B6 at *
  refine ret_of_body (fn := Tryz.f63) (c := Tryz.f63.body.getD .skip) hm hT (by kernel_rfl) Tryz.func63 (by kernel_rfl) (by kernel_rfl) (by kernel_rfl) (by kernel_rfl) ?_
  repeat' ((conv => whnf); first | refine And.intro (fun h => h) ?_ | refine dcond_t (by assumption) ?_ | refine dcond_f (by assumption) ?_ | (refine dcond_intro ?_ ?_ <;> intro h) | exact .refl | refine And.intro (by kernel_rfl) ?_ | refine And.intro ⟨fun h => h, fun h => h⟩ ?_ | refine .inl ⟨_, _, DleAll_refl _, c_view_Valid _ hvm, ?_⟩ | refine ⟨_, _, DleAll_refl _, fun _ => c_view_Valid _ hvm, ?_⟩ | refine ⟨_, _, DleAll_refl _, c_view_Valid _ hvm, ?_⟩ | refine .inl ⟨_, _, DleAll_refl _, c_view_Contains _ hvm _, ?_⟩ | refine ⟨_, _, DleAll_refl _, fun _ => c_view_Contains _ hvm _, ?_⟩ | refine ⟨_, _, DleAll_refl _, c_view_Contains _ hvm _, ?_⟩ | refine .inl ⟨_, _, DleAll_refl _, pv, ?_⟩ | refine ⟨_, _, DleAll_refl _, fun _ => pv, ?_⟩ | refine ⟨_, _, DleAll_refl _, pv, ?_⟩ | refine .inl ⟨_, _, DleAll_refl _, c_agreement_proper _ hvm _, ?_⟩ | refine ⟨_, _, DleAll_refl _, fun _ => c_agreement_proper _ hvm _, ?_⟩ | refine ⟨_, _, DleAll_refl _, c_agreement_proper _ hvm _, ?_⟩ | refine .inl ⟨_, _, DleAll_refl _, o1, ?_⟩ | refine ⟨_, _, DleAll_refl _, fun _ => o1, ?_⟩ | refine ⟨_, _, DleAll_refl _, o1, ?_⟩ | refine .inl ⟨_, _, DleAll_refl _, o2, ?_⟩ | refine ⟨_, _, DleAll_refl _, fun _ => o2, ?_⟩ | refine ⟨_, _, DleAll_refl _, o2, ?_⟩ | refine .inl ⟨_, _, DleAll_refl _, o3, ?_⟩ | refine ⟨_, _, DleAll_refl _, fun _ => o3, ?_⟩ | refine ⟨_, _, DleAll_refl _, o3, ?_⟩ | refine .inl ⟨_, _, DleAll_refl _, o4, ?_⟩ | refine ⟨_, _, DleAll_refl _, fun _ => o4, ?_⟩ | refine ⟨_, _, DleAll_refl _, o4, ?_⟩ | refine .inl ⟨_, _, DleAll_refl _, e3, ?_⟩ | refine ⟨_, _, DleAll_refl _, fun _ => e3, ?_⟩ | refine ⟨_, _, DleAll_refl _, e3, ?_⟩ | refine .inl ⟨_, _, DleAll_refl _, e1, ?_⟩ | refine ⟨_, _, DleAll_refl _, fun _ => e1, ?_⟩ | refine ⟨_, _, DleAll_refl _, e1, ?_⟩ | refine .inl ⟨_, _, DleAll_refl _, e2, ?_⟩ | refine ⟨_, _, DleAll_refl _, fun _ => e2, ?_⟩ | refine ⟨_, _, DleAll_refl _, e2, ?_⟩ | refine Exists.intro false ?_ | (refine And.intro ?_ ?_; focus (simp; done)) | fail)
  all_goals (conv => whnf)
  · refine dle_bool ?_
    simp only [h, cond_true]
  · rename_i h1
    refine dle_bool ?_
    simp only [h1, h, cond_true, cond_false]
  · rename_i h1 h2
    refine dle_bool ?_
    simp only [h1, h2, h, cond_true, cond_false]
  · rename_i h1 h2 h3
    refine dle_bool ?_
    simp only [h1, h2, h3, h, cond_true, cond_false]
  · rename_i h1 h2 h3
    simp only [h1, h2, h3, h, cond_false]
    clear h1 h2 h3 h
    refine ⟨Nat, fun i => ⟨[(1, .lp 0 0), (3, .lp 1 0), (111, .lst 3 (s.accs.map rptE) false), (112, i64 s.accs.length), (113, i64 i)], [.cells 53 (agrE s), .cells 24 (viewE s.view)]⟩, fun i => i ≤ s.accs.length ∧ ∀ j, j < i → leP 1 s.accs j = true, fun i => s.accs.length - i, [], ⟨0, ⟨Nat.zero_le _, by omega⟩, ?_⟩, ?_⟩
    · conv => whnf
      exact ⟨⟨.refl, .refl, .refl, dle_int (by simp), .refl, trivial⟩, ⟨.refl, .refl, trivial⟩, by rfl⟩
    · intro i ⟨hi, hall⟩
      conv => whnf
      refine dcond_intro ?_ ?_ <;> intro h
      · have hlt : i < s.accs.length := by simpa using h
        clear h
        have hg : s.accs.getD i rpt0 = s.accs[i] := by simp [hlt]
        repeat' ((conv => whnf); first | refine And.intro (fun h => h) ?_ | refine dcond_t (by assumption) ?_ | refine dcond_f (by assumption) ?_ | (refine dcond_intro ?_ ?_ <;> intro h) | exact .refl | refine And.intro (by kernel_rfl) ?_ | refine And.intro ⟨fun h => h, fun h => h⟩ ?_ | refine ⟨_, _, And.intro ⟨rfl, get_map hlt⟩ ?_⟩ | refine Exists.intro false ?_ | (refine And.intro ?_ ?_; focus (simp; done)) | fail)
        all_goals (conv => whnf)
        · refine dle_bool ?_
          rw [allB_false hlt (by rw [leP, hg, h]; rfl), Bool.false_and]
        · refine ⟨i + 1, ⟨hlt, fun j hj => ?_⟩, by simp only []; omega, ?_⟩
          · rcases Nat.lt_succ_iff_lt_or_eq.1 hj with hj | rfl
            · exact hall j hj
            · rw [leP, hg, h]; rfl
          · conv => whnf
            exact ⟨⟨.refl, .refl, .refl, .refl, dle_int (wrap_succ (by omega)), trivial⟩, ⟨.refl, .refl, trivial⟩, by rfl⟩
      · have hge : ¬ i < s.accs.length := by simpa using h
        clear h
        rw [allB_true.2 (fun j hj => hall j (by omega)), Bool.true_and]
        repeat' ((conv => whnf); first | refine And.intro (fun h => h) ?_ | refine dcond_t (by assumption) ?_ | refine dcond_f (by assumption) ?_ | (refine dcond_intro ?_ ?_ <;> intro h) | exact .refl | refine And.intro (by kernel_rfl) ?_ | refine And.intro ⟨fun h => h, fun h => h⟩ ?_ | refine .inl ⟨_, _, DleAll_refl _, e4, ?_⟩ | refine ⟨_, _, DleAll_refl _, fun _ => e4, ?_⟩ | refine ⟨_, _, DleAll_refl _, e4, ?_⟩ | refine .inl ⟨_, _, DleAll_refl _, e5, ?_⟩ | refine ⟨_, _, DleAll_refl _, fun _ => e5, ?_⟩ | refine ⟨_, _, DleAll_refl _, e5, ?_⟩ | refine .inl ⟨_, _, DleAll_refl _, e6, ?_⟩ | refine ⟨_, _, DleAll_refl _, fun _ => e6, ?_⟩ | refine ⟨_, _, DleAll_refl _, e6, ?_⟩ | refine Exists.intro false ?_ | (refine And.intro ?_ ?_; focus (simp; done)) | fail)
end Go.Proofs.YtdcfooeoaoahjaaGreat

set_option maxRecDepth 100000
namespace Go.Proofs.YtdcfooeoaoahjaaGreat
open Go.Lift
def z3 : List DV := [i64 0, i64 0, .nl]
def z2 : List DV := [i64 0, .nl]
theorem fill_set {α : Type} {f : α → List DV} {z : List DV} {l : List α} {i : Nat} (h : i < l.length) : ((l.take i).map f ++ List.replicate (l.length - i) z).set i (f l[i]) = (l.take (i + 1)).map f ++ List.replicate (l.length - (i + 1)) z := by
  have hl : ((l.take i).map f).length = i := by simp; omega
  rw [List.set_append_right _ _ (by omega), hl, Nat.sub_self]
  obtain ⟨m, hm⟩ : ∃ m, l.length - i = m + 1 := ⟨l.length - i - 1, by omega⟩
  rw [hm, List.replicate_succ, List.set_cons_zero, List.take_succ_eq_append_getElem h, List.map_append, show l.length - (i + 1) = m by omega]
  simp
theorem fill_len {α : Type} {f : α → List DV} {z : List DV} {l : List α} {i : Nat} (h : i ≤ l.length) : ((l.take i).map f ++ List.replicate (l.length - i) z).length = l.length := by
  simp; omega
theorem fill_get {α : Type} {f : α → List DV} {z : List DV} {l : List α} {i : Nat} (h : i < l.length) : ((l.take i).map f ++ List.replicate (l.length - i) z)[i]? = some z := by
  have hl : ((l.take i).map f).length = i := by simp; omega
  rw [List.getElem?_append_right (by omega), hl, Nat.sub_self]
  obtain ⟨m, hm⟩ : ∃ m, l.length - i = m + 1 := ⟨l.length - i - 1, by omega⟩
  rw [hm]
  rfl
theorem fill_end {α : Type} {f : α → List DV} {z : List DV} {l : List α} : (l.take l.length).map f ++ List.replicate (l.length - l.length) z = l.map f := by simp
theorem byR {n : Nat} (h : n ≤ 1000000) : n * (tinfo tt 179).bytes ≤ 140737488355328 ∧ n ≤ maxLen := by
  have e : (tinfo tt 179).bytes = 40 := by kernel_rfl
  refine ⟨?_, ?_⟩
  · rw [e]; omega
  · simp only [maxLen]; omega
theorem byB {n : Nat} (h : n ≤ 1000000) : n * (tinfo tt 201).bytes ≤ 140737488355328 ∧ n ≤ maxLen := by
  have e : (tinfo tt 201).bytes = 32 := by kernel_rfl
  refine ⟨?_, ?_⟩
  · rw [e]; omega
  · simp only [maxLen]; omega
theorem c_agreement_cloneReports (l : List Rpt) (hl : l.length ≤ 1000000) (hc : ∀ r ∈ l, r.cut.length ≤ 1000000) : Ret Tryz.prog 191 [.lst 3 (l.map rptE) false] (.lst 3 (l.map rptE) false) := by
  have hby := byR (n := (l.map rptE).length) (by simp; omega)
  refine ret_of_body (fn := Tryz.f191) (c := Tryz.f191.body.getD .skip) hm hT (by kernel_rfl) Tryz.func191 (by kernel_rfl) (by kernel_rfl) (by kernel_rfl) (by kernel_rfl) ?_
  repeat' ((conv => whnf); first | refine And.intro (fun h => h) ?_ | refine dcond_t (by assumption) ?_ | refine dcond_f (by assumption) ?_ | (refine dcond_intro ?_ ?_ <;> intro h) | exact .refl | refine And.intro (by kernel_rfl) ?_ | refine And.intro ⟨fun h => h, fun h => h⟩ ?_ | refine ⟨(l.map rptE).length, (l.map rptE).length, rfl, rfl, Nat.le_refl _, hby.1, hby.2, ?_⟩ | refine Exists.intro false ?_ | (refine And.intro ?_ ?_; focus (simp; done)) | fail)
  all_goals (conv => whnf)
  refine ⟨Nat, fun i => ⟨[(3, .own 0), (9, .lst 3 (l.map rptE) false), (10, i64 l.length), (11, i64 i)], [.row 179 3 ((l.take i).map rptE ++ List.replicate (l.length - i) z3)]⟩, fun i => i ≤ l.length, fun i => l.length - i, [], ⟨0, Nat.zero_le _, ?_⟩, ?_⟩
  · conv => whnf
    refine ⟨⟨.refl, .refl, dle_int (by simp), .refl, trivial⟩, ⟨ole_row ?_, trivial⟩, by rfl⟩
    rw [List.length_map]
    rfl
  · intro i hi
    conv => whnf
    refine dcond_intro ?_ ?_ <;> intro h
    · have hlt : i < l.length := by simpa using h
      clear h
      have hlen := fill_len (f := rptE) (z := z3) (l := l) (i := i) hi
      have hl0 : i < ((l.take i).map rptE ++ List.replicate (l.length - i) z3).length := by omega
      have hget := fill_get (f := rptE) (z := z3) hlt
      have hset := fill_set (f := rptE) (z := z3) hlt
      repeat' ((conv => whnf); first | refine And.intro (fun h => h) ?_ | refine dcond_t (by assumption) ?_ | refine dcond_f (by assumption) ?_ | (refine dcond_intro ?_ ?_ <;> intro h) | exact .refl | refine And.intro (by kernel_rfl) ?_ | refine And.intro ⟨fun h => h, fun h => h⟩ ?_ | refine ⟨_, _, And.intro ⟨rfl, get_map hlt⟩ ?_⟩ | refine .inl ⟨_, _, DleAll_refl _, c_agreement_clone _ (hc _ (List.getElem_mem hlt)), ?_⟩ | refine ⟨_, _, DleAll_refl _, fun _ => c_agreement_clone _ (hc _ (List.getElem_mem hlt)), ?_⟩ | refine ⟨_, _, DleAll_refl _, c_agreement_clone _ (hc _ (List.getElem_mem hlt)), ?_⟩ | refine ⟨i, And.intro ⟨rfl, hl0⟩ ?_⟩ | refine ⟨z3, And.intro hget ?_⟩ | refine ⟨z3, hget, ?_⟩ | refine Exists.intro false ?_ | (refine And.intro ?_ ?_; focus (simp; done)) | fail)
      all_goals (conv => whnf)
      refine ⟨i + 1, hlt, by simp only []; omega, ?_⟩
      conv => whnf
      refine ⟨⟨.refl, .refl, .refl, dle_int (wrap_succ (by omega)), trivial⟩, ⟨ole_row ?_, trivial⟩, by rfl⟩
      rw [← hset]
      rfl
    · have hge : ¬ i < l.length := by simpa using h
      have : i = l.length := by omega
      subst this
      clear h
      rw [fill_end]
      repeat' ((conv => whnf); first | refine And.intro (fun h => h) ?_ | refine dcond_t (by assumption) ?_ | refine dcond_f (by assumption) ?_ | (refine dcond_intro ?_ ?_ <;> intro h) | exact .refl | refine And.intro (by kernel_rfl) ?_ | refine And.intro ⟨fun h => h, fun h => h⟩ ?_ | refine Exists.intro false ?_ | (refine And.intro ?_ ?_; focus (simp; done)) | fail)
end Go.Proofs.YtdcfooeoaoahjaaGreat

set_option maxRecDepth 100000
namespace Go.Proofs.YtdcfooeoaoahjaaGreat
open Go.Lift
set_option maxHeartbeats 8000000 in
theorem c_agreement_cloneState (s : Agr) (hs : SmA s) : Ret Tryz.prog 147 [.agg (agrE s)] (.agg (agrE s)) := by
  have b1 := hs.mem
  have b2 := hs.acut
  have b3 := hs.prop
  have b4 := hs.cho
  have b5 := hs.dec
  have b6 := hs.reps
  have b7 : ∀ b ∈ s.reps, b.cut.length ≤ 1000000 := fun b hb => by have := hs.repc b hb; omega
  have b8 := hs.accs
  have b9 : ∀ b ∈ s.accs, b.cut.length ≤ 1000000 := fun b hb => by have := hs.accc b hb; omega
  have hbl := hs.box
  have hby := byB (n := (s.box.map balE).length) (by simp; omega)
  refine ret_of_body (fn := Tryz.f147) (c := Tryz.f147.body.getD .skip) hm hT (by kernel_rfl) Tryz.func147 (by kernel_rfl) (by kernel_rfl) (by kernel_rfl) (by kernel_rfl) ?_
  repeat' ((conv => whnf); first | refine And.intro (fun h => h) ?_ | refine dcond_t (by assumption) ?_ | refine dcond_f (by assumption) ?_ | (refine dcond_intro ?_ ?_ <;> intro h) | exact .refl | refine And.intro (by kernel_rfl) ?_ | refine And.intro ⟨fun h => h, fun h => h⟩ ?_ | refine .inl ⟨_, _, DleAll_refl _, c_agreement_clone _ (by omega), ?_⟩ | refine ⟨_, _, DleAll_refl _, fun _ => c_agreement_clone _ (by omega), ?_⟩ | refine ⟨_, _, DleAll_refl _, c_agreement_clone _ (by omega), ?_⟩ | refine .inl ⟨_, _, DleAll_refl _, c_agreement_cloneReports _ (by omega) (by assumption), ?_⟩ | refine ⟨_, _, DleAll_refl _, fun _ => c_agreement_cloneReports _ (by omega) (by assumption), ?_⟩ | refine ⟨_, _, DleAll_refl _, c_agreement_cloneReports _ (by omega) (by assumption), ?_⟩ | refine ⟨(s.box.map balE).length, (s.box.map balE).length, rfl, rfl, Nat.le_refl _, hby.1, hby.2, ?_⟩ | refine Exists.intro false ?_ | (refine And.intro ?_ ?_; focus (simp; done)) | fail)
  all_goals (conv => whnf)
  refine ⟨Nat, fun i => ⟨[(2, .lp 1 0), (3, .lp 3 0), (54, .lst 2 (s.box.map balE) false), (55, i64 s.box.length), (56, i64 i)], [.cells 53 (agrE s), .cells 53 (tinfo tt 53).zero, .row 201 2 ((s.box.take i).map balE ++ List.replicate (s.box.length - i) z2), .cells 53 [i64 s.self, i64 s.view.num, .lst 1 (s.view.mem.map intE) false, i64 s.acc.pro, i64 s.acc.rank, .lst 1 (s.acc.cut.map intE) false, .lst 1 (s.prop.map intE) false, .own 2, i64 s.rank, i64 s.phase, .lst 3 (s.reps.map rptE) false, .lst 1 (s.cho.map intE) false, .lst 3 (s.accs.map rptE) false, .lst 1 (s.dec.map intE) false, i64 s.wait]]⟩, fun i => i ≤ s.box.length, fun i => s.box.length - i, [], ⟨0, Nat.zero_le _, ?_⟩, ?_⟩
  · conv => whnf
    refine ⟨⟨.refl, .refl, .refl, dle_int (by simp), .refl, trivial⟩, ⟨.refl, .refl, ole_row ?_, .refl, trivial⟩, by rfl⟩
    rw [List.length_map]
    rfl
  · intro i hi
    conv => whnf
    refine dcond_intro ?_ ?_ <;> intro h
    · have hlt : i < s.box.length := by simpa using h
      clear h
      have hlen := fill_len (f := balE) (z := z2) (l := s.box) (i := i) hi
      have hl0 : i < ((s.box.take i).map balE ++ List.replicate (s.box.length - i) z2).length := by omega
      have hget := fill_get (f := balE) (z := z2) hlt
      have hset := fill_set (f := balE) (z := z2) hlt
      have hbc := hs.boxc _ (List.getElem_mem hlt)
      repeat' ((conv => whnf); first | refine And.intro (fun h => h) ?_ | refine dcond_t (by assumption) ?_ | refine dcond_f (by assumption) ?_ | (refine dcond_intro ?_ ?_ <;> intro h) | exact .refl | refine And.intro (by kernel_rfl) ?_ | refine And.intro ⟨fun h => h, fun h => h⟩ ?_ | refine ⟨_, _, And.intro ⟨rfl, get_map hlt⟩ ?_⟩ | refine .inl ⟨_, _, DleAll_refl _, c_agreement_clone _ (by omega), ?_⟩ | refine ⟨_, _, DleAll_refl _, fun _ => c_agreement_clone _ (by omega), ?_⟩ | refine ⟨_, _, DleAll_refl _, c_agreement_clone _ (by omega), ?_⟩ | refine ⟨i, And.intro ⟨rfl, hl0⟩ ?_⟩ | refine ⟨z2, And.intro hget ?_⟩ | refine ⟨z2, hget, ?_⟩ | refine Exists.intro false ?_ | (refine And.intro ?_ ?_; focus (simp; done)) | fail)
      all_goals (conv => whnf)
      refine ⟨i + 1, hlt, by simp only []; omega, ?_⟩
      conv => whnf
      refine ⟨⟨.refl, .refl, .refl, .refl, dle_int (wrap_succ (by omega)), trivial⟩, ⟨.refl, .refl, ole_row ?_, .refl, trivial⟩, by rfl⟩
      rw [← hset]
      rfl
    · have hge : ¬ i < s.box.length := by simpa using h
      have : i = s.box.length := by omega
      subst this
      clear h
      rw [fill_end]
      repeat' ((conv => whnf); first | refine And.intro (fun h => h) ?_ | refine dcond_t (by assumption) ?_ | refine dcond_f (by assumption) ?_ | (refine dcond_intro ?_ ?_ <;> intro h) | exact .refl | refine And.intro (by kernel_rfl) ?_ | refine And.intro ⟨fun h => h, fun h => h⟩ ?_ | refine Exists.intro false ?_ | (refine And.intro ?_ ?_; focus (simp; done)) | fail)
      all_goals trace_state
end Go.Proofs.YtdcfooeoaoahjaaGreat

set_option maxRecDepth 100000
namespace Go.Proofs.YtdcfooeoaoahjaaGreat
open Go.Lift
end Go.Proofs.YtdcfooeoaoahjaaGreat

set_option maxRecDepth 100000
namespace Go.Proofs.YtdcfooeoaoahjaaGreat
open Go.Lift
end Go.Proofs.YtdcfooeoaoahjaaGreat

set_option maxRecDepth 100000
namespace Go.Proofs.YtdcfooeoaoahjaaGreat
open Go.Lift
end Go.Proofs.YtdcfooeoaoahjaaGreat

set_option maxRecDepth 100000
namespace Go.Proofs.YtdcfooeoaoahjaaGreat
open Go.Lift
theorem c_majority (s : Agr) (p : DV) : Ret Tryz.prog 227 [.ip (agrE s ++ [p])] (i64 (majB s.view.mem.length)) := by
  have e : Ret Tryz.prog 181 [i64 ((s.view.mem.map intE).length : Int)] (i64 (majB s.view.mem.length)) := by
    rw [List.length_map]
    exact c_view_Majority _
  refine ret_of_body (fn := Tryz.f227) (c := Tryz.f227.body.getD .skip) hm hT (by kernel_rfl) Tryz.func227 (by kernel_rfl) (by kernel_rfl) (by kernel_rfl) (by kernel_rfl) ?_
  repeat' ((conv => whnf); first | refine And.intro (fun h => h) ?_ | refine dcond_t (by assumption) ?_ | refine dcond_f (by assumption) ?_ | (refine dcond_intro ?_ ?_ <;> intro h) | exact .refl | refine And.intro (by kernel_rfl) ?_ | refine And.intro ⟨fun h => h, fun h => h⟩ ?_ | refine .inl ⟨_, _, DleAll_refl _, e, ?_⟩ | refine ⟨_, _, DleAll_refl _, fun _ => e, ?_⟩ | refine ⟨_, _, DleAll_refl _, e, ?_⟩ | refine Exists.intro false ?_ | (refine And.intro ?_ ?_; focus (simp; done)) | fail)
theorem gh2 {a d : DV} : ole (.gh [a, d]) (.gh [a, .junk]) := .gh rfl fun i x y hx hy => by
  rcases i with _ | _ | i
  · simp at hx hy
    subst hx hy
    exact .refl
  · simp at hx hy
    subst hx hy
    exact .junk
  · simp at hx
def pktOf (s : Agr) (to kind rank last : Int) (cut : List Int) : Pkt := ⟨to, ⟨kind, s.view.num, s.self, rank, last, cut⟩⟩
theorem fitsP {n : Nat} (h : n ≤ 1000000) : fitsIn tt 218 n := by
  have e : (tinfo tt 218).bytes = 72 := by kernel_rfl
  refine ⟨?_, ?_⟩
  · rw [e]; omega
  · simp only [maxLen]; omega
theorem m_send_nil (s : Agr) (to kind rank last : Int) (cut : List Int) (hc : cut.length ≤ 1000000) :
    RetM Tryz.prog 148 [.cells 210 (agrE s ++ [.nl])] [.lp 0 0, i64 to, i64 kind, i64 rank, i64 last, .lst 1 (cut.map intE) false] [true] [.cells 210 (agrE s ++ [.own 2]), .dead, .row 218 7 [pktE (pktOf s to kind rank last cut)]] (.tup []) := by
  refine retM_of_body (fn := Tryz.f148) (c := Tryz.f148.body.getD .skip) hm hT (by kernel_rfl) Tryz.func148 (by kernel_rfl) (by kernel_rfl) (by kernel_rfl) (by kernel_rfl) (by kernel_rfl) ?_
  repeat' ((conv => whnf); first | refine And.intro (fun h => h) ?_ | refine dcond_t (by assumption) ?_ | refine dcond_f (by assumption) ?_ | (refine dcond_intro ?_ ?_ <;> intro h) | exact .refl | refine And.intro (by kernel_rfl) ?_ | refine And.intro ⟨fun h => h, fun h => h⟩ ?_ | refine .inl ⟨_, _, DleAll_refl _, c_agreement_clone _ hc, ?_⟩ | refine ⟨_, _, DleAll_refl _, fun _ => c_agreement_clone _ hc, ?_⟩ | refine ⟨_, _, DleAll_refl _, c_agreement_clone _ hc, ?_⟩ | refine And.intro (fitsP (by simp <;> omega)) ?_ | refine Exists.intro false ?_ | (refine And.intro ?_ ?_; focus (simp; done)) | fail)
  all_goals (conv => whnf)
  exact ⟨.refl, ⟨.refl, .refl, .refl, trivial⟩, by rfl⟩
def vA (l : List Rpt) (r : Rpt) (k : Nat) : Nat := ((l.take k).filter fun x => decide (x.rank = r.rank) && sameI x.cut r.cut).length
theorem vA_succ {l : List Rpt} {r : Rpt} {k : Nat} (h : k < l.length) : vA l r (k + 1) = vA l r k + if (decide (l[k].rank = r.rank) && sameI l[k].cut r.cut) = true then 1 else 0 := by
  unfold vA
  rw [List.take_succ_eq_append_getElem h, List.filter_append, List.length_append]
  cases hq : (decide (l[k].rank = r.rank) && sameI l[k].cut r.cut) <;> simp [hq]
theorem vA_le (l : List Rpt) (r : Rpt) (k : Nat) : vA l r k ≤ k :=
  Nat.le_trans (List.length_filter_le _ _) (by simp; omega)
def accAt (l : List Rpt) (m : Int) : Nat → Int × List Int
  | 0 => (0, [])
  | i + 1 => bif decide (m ≤ (vA l (l.getD i rpt0) l.length : Int)) && decide ((accAt l m i).1 < (l.getD i rpt0).rank) then ((l.getD i rpt0).rank, (l.getD i rpt0).cut) else accAt l m i
def accdR (s : Agr) : List Int := (accAt s.accs (majB s.view.mem.length) s.accs.length).2
end Go.Proofs.YtdcfooeoaoahjaaGreat

set_option maxRecDepth 100000
namespace Go.Proofs.YtdcfooeoaoahjaaGreat
open Go.Lift
set_option maxHeartbeats 2000000 in
theorem m_accepted_nil (s : Agr) (hs : SmA s) : RetM Tryz.prog 199 [.cells 210 (agrE s ++ [.nl])] [.lp 0 0] [true] [.cells 210 (agrE s ++ [.nl])] (.lst 1 ((accdR s).map intE) false) := by
  have e109 := c_majority s .nl
  have hal := hs.accs
  refine retM_of_body (fn := Tryz.f199) (c := Tryz.f199.body.getD .skip) hm hT (by kernel_rfl) Tryz.func199 (by kernel_rfl) (by kernel_rfl) (by kernel_rfl) (by kernel_rfl) (by kernel_rfl) ?_
  repeat' ((conv => whnf); first | refine And.intro (fun h => h) ?_ | refine dcond_t (by assumption) ?_ | refine dcond_f (by assumption) ?_ | (refine dcond_intro ?_ ?_ <;> intro h) | exact .refl | refine And.intro (by kernel_rfl) ?_ | refine And.intro ⟨fun h => h, fun h => h⟩ ?_ | refine Exists.intro false ?_ | (refine And.intro ?_ ?_; focus (simp; done)) | fail)
  all_goals (conv => whnf)
  refine ⟨Nat, fun i => ⟨[(0, .lp 0 0), (3, i64 (accAt s.accs (majB s.view.mem.length) i).1), (4, .lst 1 ((accAt s.accs (majB s.view.mem.length) i).2.map intE) false), (14, .lst 3 (s.accs.map rptE) false), (15, i64 s.accs.length), (16, i64 i)], [.cells 210 (agrE s ++ [.nl]), .gh [.lp 0 0]]⟩, fun i => i ≤ s.accs.length, fun i => s.accs.length - i, [], ⟨0, Nat.zero_le _, ?_⟩, ?_⟩
  · conv => whnf
    exact ⟨⟨.refl, .refl, .nl, .refl, dle_int (by simp), .refl, trivial⟩, ⟨.refl, .refl, trivial⟩, by rfl⟩
  · intro i hi
    conv => whnf
    refine dcond_intro ?_ ?_ <;> intro h
    · have hlt : i < s.accs.length := by simpa using h
      clear h
      have hg : s.accs.getD i rpt0 = s.accs[i] := by simp [hlt]
      have hci := hs.accc _ (List.getElem_mem hlt)
      have hacc : accAt s.accs (majB s.view.mem.length) (i + 1) = bif decide (majB s.view.mem.length ≤ (vA s.accs s.accs[i] s.accs.length : Int)) && decide ((accAt s.accs (majB s.view.mem.length) i).1 < s.accs[i].rank) then (s.accs[i].rank, s.accs[i].cut) else accAt s.accs (majB s.view.mem.length) i := by
        rw [← hg]
        rfl
      have hgx : (s.accs.map rptE)[i]? = some (rptE s.accs[i]) := get_map hlt
      obtain ⟨r, hr⟩ : ∃ r, r = s.accs[i] := ⟨_, rfl⟩
      rw [← hr] at hci hacc hgx
      repeat' ((conv => whnf); first | refine And.intro (fun h => h) ?_ | refine dcond_t (by assumption) ?_ | refine dcond_f (by assumption) ?_ | (refine dcond_intro ?_ ?_ <;> intro h) | exact .refl | refine And.intro (by kernel_rfl) ?_ | refine And.intro ⟨fun h => h, fun h => h⟩ ?_ | refine ⟨i, rptE r, And.intro ⟨rfl, hgx⟩ ?_⟩ | refine Exists.intro false ?_ | (refine And.intro ?_ ?_; focus (simp; done)) | fail)
      all_goals (conv => whnf)
      refine ⟨Nat, fun k => ⟨[(0, .lp 0 0), (3, i64 (accAt s.accs (majB s.view.mem.length) i).1), (4, .lst 1 ((accAt s.accs (majB s.view.mem.length) i).2.map intE) false), (6, .lp 2 0), (7, i64 (vA s.accs r k)), (14, .lst 3 (s.accs.map rptE) false), (15, i64 s.accs.length), (16, i64 i), (24, .lst 3 (s.accs.map rptE) false), (25, i64 s.accs.length), (26, i64 k)], [.cells 210 (agrE s ++ [.nl]), .gh [.lp 0 0], .cells 179 (rptE r)]⟩, fun k => k ≤ s.accs.length, fun k => s.accs.length - k, [], ⟨0, Nat.zero_le _, ?_⟩, ?_⟩
      · conv => whnf
        exact ⟨⟨.refl, .refl, .refl, .refl, .refl, .refl, .refl, .refl, .refl, dle_int (by simp), .refl, trivial⟩, ⟨.refl, .refl, .refl, trivial⟩, by rfl⟩
      · intro k hk
        conv => whnf
        refine dcond_intro ?_ ?_ <;> intro h
        · have hltk : k < s.accs.length := by simpa using h
          clear h
          have hvk := vA_succ (r := r) hltk
          have hvl := vA_le s.accs r k
          have e42 := c_fastvote_Same s.accs[k].cut r.cut (by have := hs.accc _ (List.getElem_mem hltk); exact mx this)
          repeat' ((conv => whnf); first | refine And.intro (fun h => h) ?_ | refine dcond_t (by assumption) ?_ | refine dcond_f (by assumption) ?_ | (refine dcond_intro ?_ ?_ <;> intro h) | exact .refl | refine And.intro (by kernel_rfl) ?_ | refine And.intro ⟨fun h => h, fun h => h⟩ ?_ | refine ⟨_, _, And.intro ⟨rfl, get_map hltk⟩ ?_⟩ | refine .inl ⟨_, _, DleAll_refl _, e42, ?_⟩ | refine ⟨_, _, DleAll_refl _, fun _ => e42, ?_⟩ | refine ⟨_, _, DleAll_refl _, e42, ?_⟩ | refine Exists.intro false ?_ | (refine And.intro ?_ ?_; focus (simp; done)) | fail)
          all_goals (conv => whnf)
          · refine ⟨k + 1, hltk, by simp only []; omega, ?_⟩
            conv => whnf
            refine ⟨⟨.refl, .refl, .refl, .refl, ?_, .refl, .refl, .refl, .refl, .refl, dle_int (wrap_succ (by omega)), trivial⟩, ⟨.refl, .refl, .refl, trivial⟩, by rfl⟩
            rw [hvk, if_pos h]
            exact dle_int (wrap_succ (by omega))
          · refine ⟨k + 1, hltk, by simp only []; omega, ?_⟩
            conv => whnf
            refine ⟨⟨.refl, .refl, .refl, .refl, ?_, .refl, .refl, .refl, .refl, .refl, dle_int (wrap_succ (by omega)), trivial⟩, ⟨.refl, .refl, .refl, trivial⟩, by rfl⟩
            rw [hvk, if_neg (by rw [h]; simp)]
            exact .refl
        · have hge : ¬ k < s.accs.length := by simpa using h
          have : k = s.accs.length := by omega
          subst this
          clear h
          repeat' ((conv => whnf); first | refine And.intro (fun h => h) ?_ | refine dcond_t (by assumption) ?_ | refine dcond_f (by assumption) ?_ | (refine dcond_intro ?_ ?_ <;> intro h) | exact .refl | refine And.intro (by kernel_rfl) ?_ | refine And.intro ⟨fun h => h, fun h => h⟩ ?_ | refine .inl ⟨_, _, DleAll_refl _, e109, ?_⟩ | refine ⟨_, _, DleAll_refl _, fun _ => e109, ?_⟩ | refine ⟨_, _, DleAll_refl _, e109, ?_⟩ | refine Exists.intro false ?_ | (refine And.intro ?_ ?_; focus (simp; done)) | fail)
          all_goals (conv => whnf)
          · rw [h, cond_true] at hacc
            refine ⟨i + 1, hlt, by simp only []; omega, ?_⟩
            conv => whnf
            exact ⟨⟨.refl, dle_int (by rw [hacc]), dle_lst (by rw [hacc]), .refl, .refl, dle_int (wrap_succ (by omega)), trivial⟩, ⟨.refl, .refl, trivial⟩, by rfl⟩
          · rw [h, cond_false] at hacc
            refine ⟨i + 1, hlt, by simp only []; omega, ?_⟩
            conv => whnf
            exact ⟨⟨.refl, dle_int (by rw [hacc]), dle_lst (by rw [hacc]), .refl, .refl, dle_int (wrap_succ (by omega)), trivial⟩, ⟨.refl, .refl, trivial⟩, by rfl⟩
    · have hge : ¬ i < s.accs.length := by simpa using h
      have : i = s.accs.length := by omega
      subst this
      clear h
      repeat' ((conv => whnf); first | refine And.intro (fun h => h) ?_ | refine dcond_t (by assumption) ?_ | refine dcond_f (by assumption) ?_ | (refine dcond_intro ?_ ?_ <;> intro h) | exact .refl | refine And.intro (by kernel_rfl) ?_ | refine And.intro ⟨fun h => h, fun h => h⟩ ?_ | refine Exists.intro false ?_ | (refine And.intro ?_ ?_; focus (simp; done)) | fail)
      all_goals (conv => whnf)
      exact ⟨.refl, ⟨.refl, .refl, trivial⟩, by rfl⟩
end Go.Proofs.YtdcfooeoaoahjaaGreat

set_option maxRecDepth 100000
namespace Go.Proofs.YtdcfooeoaoahjaaGreat
open Go.Lift
def decR (s : Agr) : List Int := bif (winR s.view s.box).2 then (winR s.view s.box).1 else accdR s
def endA (s : Agr) (ps : List Pkt) : Agr × List Pkt :=
  bif decide ((s.dec.length : Int) = 0) && decide (0 < ((decR s).length : Int)) then ({ s with dec := decR s }, ps ++ [pktOf s 0 6 0 0 (decR s)]) else (s, ps)
theorem win_len {v : View} {l : List Bal} {N : Nat} (hc : ∀ b ∈ l, b.cut.length ≤ N) : (winR v l).1.length ≤ N := by
  unfold winR
  cases !boxB v l
  · cases hf : l.find? (fun b => decide (fastB v.mem.length ≤ (votesN l b.cut : Int))) with
    | none => exact Nat.zero_le _
    | some b => exact hc b (List.mem_of_find?_eq_some hf)
  · exact Nat.zero_le _
theorem accAt_len {l : List Rpt} {N : Nat} (hc : ∀ b ∈ l, b.cut.length ≤ N) (m : Int) : ∀ i, i ≤ l.length → (accAt l m i).2.length ≤ N
  | 0, _ => Nat.zero_le _
  | i + 1, h => by
    unfold accAt
    cases decide (m ≤ (vA l (l.getD i rpt0) l.length : Int)) && decide ((accAt l m i).1 < (l.getD i rpt0).rank)
    · exact accAt_len hc m i (by omega)
    · have hi : i < l.length := by omega
      have hg : l.getD i rpt0 = l[i] := by simp [hi]
      simp only [cond_true, hg]
      exact hc _ (List.getElem_mem hi)
theorem accd_len {s : Agr} (hs : SmA s) : (accdR s).length ≤ 1000 := accAt_len hs.accc _ _ (Nat.le_refl _)
theorem end_yes {s : Agr} {ps : List Pkt} {c : List Int} (h0 : decide (((s.dec.map intE).length : Int) = 0) = true) (hc : decR s = c) (h : decide (0 < ((c.map intE).length : Int)) = true) : endA s ps = ({ s with dec := c }, ps ++ [pktOf s 0 6 0 0 c]) := by
  rw [List.length_map] at h0 h
  simp only [endA, hc, h0, h, Bool.and_self, cond_true]
theorem end_no {s : Agr} {ps : List Pkt} {c : List Int} (hc : decR s = c) (h : decide (0 < ((c.map intE).length : Int)) = false) : endA s ps = (s, ps) := by
  rw [List.length_map] at h
  simp only [endA, hc, h, Bool.and_false, cond_false]
theorem end_old {s : Agr} {ps : List Pkt} (h0 : decide (((s.dec.map intE).length : Int) = 0) = false) : endA s ps = (s, ps) := by
  rw [List.length_map] at h0
  simp only [endA, h0, Bool.false_and, cond_false]
set_option maxHeartbeats 8000000 in
theorem m_end_nil (s : Agr) (hs : SmA s) : RetM Tryz.prog 154 [.cells 210 (agrE s ++ [.nl])] [.lp 0 0] [false] [.dead] (.tup [.agg (agrE (endA s []).1), .lst 7 ((endA s []).2.map pktE) false]) := by
  have hv := hs.mem
  have e89 := c_fastvote_Winner s.view (by omega) s.box (by have := hs.box; omega) (fun b hb => by have := hs.boxc b hb; omega)
  have e90 := m_accepted_nil s hs
  have hw := win_len (v := s.view) hs.boxc
  have ha := accd_len hs
  have hd1 : (winR s.view s.box).2 = true → decR s = (winR s.view s.box).1 := fun h => by rw [decR, h, cond_true]
  have hd2 : (winR s.view s.box).2 = false → decR s = accdR s := fun h => by rw [decR, h, cond_false]
  generalize winR s.view s.box = W at *
  generalize accdR s = D at *
  have hsend := fun c h => m_send_nil { s with dec := c } 0 6 0 0 c h
  have hy := fun c h0 hc h => @end_yes s [] c h0 hc h
  have hn := fun c hc h => @end_no s [] c hc h
  have ho := fun h => @end_old s [] h
  generalize endA s [] = R at *
  refine retM_of_bodyA (fn := Tryz.f154) (c := Tryz.f154.body.getD .skip) hm hT (by kernel_rfl) Tryz.func154 (by kernel_rfl) (by kernel_rfl) (by kernel_rfl) (by kernel_rfl) (by kernel_rfl) ?_
  repeat' ((conv => whnf); first | refine And.intro (fun h => h) ?_ | refine dcond_t (by assumption) ?_ | refine dcond_f (by assumption) ?_ | (refine dcond_intro ?_ ?_ <;> intro h) | exact .refl | refine And.intro (by kernel_rfl) ?_ | refine And.intro ⟨fun h => h, fun h => h⟩ ?_ | refine .inl ⟨_, _, DleAll_refl _, e89, ?_⟩ | refine ⟨_, _, DleAll_refl _, fun _ => e89, ?_⟩ | refine ⟨_, _, DleAll_refl _, e89, ?_⟩ | refine .inr ⟨[0], _, _, _, _, _, e90, by rfl, ⟨.refl, trivial⟩, ⟨.refl, trivial⟩, ?_⟩ | refine .inl ⟨_, _, DleAll_refl _, c_agreement_clone _ (by omega), ?_⟩ | refine ⟨_, _, DleAll_refl _, fun _ => c_agreement_clone _ (by omega), ?_⟩ | refine ⟨_, _, DleAll_refl _, c_agreement_clone _ (by omega), ?_⟩ | refine .inr ⟨[0], _, _, _, _, _, hsend _ (by omega), by rfl, ⟨.refl, trivial⟩, ⟨.refl, .refl, .refl, .refl, .refl, .refl, trivial⟩, ?_⟩ | refine Exists.intro false ?_ | (refine And.intro ?_ ?_; focus (simp; done)) | fail)
  all_goals (conv => whnf)
  · rename_i h0 hw2
    rw [hy D h0 (hd2 (by simpa using hw2)) h]
    refine ⟨[.shut 3], ?_⟩
    conv => whnf
    exact ⟨.refl, ⟨.dead, gh_junk, trivial⟩, by rfl⟩
  · rename_i h0 hw2
    rw [hn D (hd2 (by simpa using hw2)) h]
    refine ⟨[], ?_⟩
    conv => whnf
    exact ⟨dle_tupA ⟨.refl, .nl, trivial⟩, ⟨.dead, gh_junk, trivial⟩, by rfl⟩
  · rename_i h0 hw2
    rw [hy W.1 h0 (hd1 (by simpa using hw2)) h]
    refine ⟨[.shut 3], ?_⟩
    conv => whnf
    exact ⟨.refl, ⟨.dead, gh_junk, trivial⟩, by rfl⟩
  · rename_i h0 hw2
    rw [hn W.1 (hd1 (by simpa using hw2)) h]
    refine ⟨[], ?_⟩
    conv => whnf
    exact ⟨dle_tupA ⟨.refl, .nl, trivial⟩, ⟨.dead, gh_junk, trivial⟩, by rfl⟩
  · rw [ho h]
    refine ⟨[], ?_⟩
    conv => whnf
    exact ⟨dle_tupA ⟨.refl, .nl, trivial⟩, ⟨.dead, gh_junk, trivial⟩, by rfl⟩
end Go.Proofs.YtdcfooeoaoahjaaGreat

set_option maxRecDepth 100000
namespace Go.Proofs.YtdcfooeoaoahjaaGreat
open Go.Lift
end Go.Proofs.YtdcfooeoaoahjaaGreat

set_option maxRecDepth 100000
namespace Go.Proofs.YtdcfooeoaoahjaaGreat
open Go.Lift
end Go.Proofs.YtdcfooeoaoahjaaGreat

set_option maxRecDepth 100000
namespace Go.Proofs.YtdcfooeoaoahjaaGreat
open Go.Lift
end Go.Proofs.YtdcfooeoaoahjaaGreat

set_option maxRecDepth 100000
namespace Go.Proofs.YtdcfooeoaoahjaaGreat
open Go.Lift
end Go.Proofs.YtdcfooeoaoahjaaGreat

set_option maxRecDepth 100000
namespace Go.Proofs.YtdcfooeoaoahjaaGreat
open Go.Lift
theorem c_ref3_Same (a b : View) (ha : a.mem.length ≤ maxLen) : Ret Tryz.prog 19 [.agg (viewE a), .agg (viewE b)] (.v (.bool (decide (a.num = b.num) && sameI a.mem b.mem))) := by
  refine ret_of_body (fn := Tryz.f19) (c := Tryz.f19.body.getD .skip) hm hT (by kernel_rfl) Tryz.func19 (by kernel_rfl) (by kernel_rfl) (by kernel_rfl) (by kernel_rfl) ?_
  repeat' ((conv => whnf); first | refine And.intro (fun h => h) ?_ | refine dcond_t (by assumption) ?_ | refine dcond_f (by assumption) ?_ | (refine dcond_intro ?_ ?_ <;> intro h) | exact .refl | refine And.intro (by kernel_rfl) ?_ | refine And.intro ⟨fun h => h, fun h => h⟩ ?_ | refine .inl ⟨_, _, DleAll_refl _, c_ref1_SameInts _ _ ha, ?_⟩ | refine ⟨_, _, DleAll_refl _, fun _ => c_ref1_SameInts _ _ ha, ?_⟩ | refine ⟨_, _, DleAll_refl _, c_ref1_SameInts _ _ ha, ?_⟩ | refine Exists.intro false ?_ | (refine And.intro ?_ ?_; focus (simp; done)) | fail)
end Go.Proofs.YtdcfooeoaoahjaaGreat

set_option maxRecDepth 100000
namespace Go.Proofs.YtdcfooeoaoahjaaGreat
open Go.Lift
theorem ole_cellsA {t : TypeId} {cs ds : List DV} (h : DleAll cs ds) : ole (.cells t cs) (.cells t ds) := .cells (dleAll_get h).1 (dleAll_get h).2
end Go.Proofs.YtdcfooeoaoahjaaGreat

set_option maxRecDepth 100000
namespace Go.Proofs.YtdcfooeoaoahjaaGreat
open Go.Lift
end Go.Proofs.YtdcfooeoaoahjaaGreat

set_option maxRecDepth 100000
namespace Go.Proofs.YtdcfooeoaoahjaaGreat
open Go.Lift
end Go.Proofs.YtdcfooeoaoahjaaGreat

set_option maxRecDepth 100000
namespace Go.Proofs.YtdcfooeoaoahjaaGreat
open Go.Lift
end Go.Proofs.YtdcfooeoaoahjaaGreat

set_option maxRecDepth 100000
namespace Go.Proofs.YtdcfooeoaoahjaaGreat
open Go.Lift
end Go.Proofs.YtdcfooeoaoahjaaGreat

set_option maxRecDepth 100000
namespace Go.Proofs.YtdcfooeoaoahjaaGreat
open Go.Lift
end Go.Proofs.YtdcfooeoaoahjaaGreat

set_option maxRecDepth 100000
namespace Go.Proofs.YtdcfooeoaoahjaaGreat
open Go.Lift
end Go.Proofs.YtdcfooeoaoahjaaGreat

set_option maxRecDepth 100000
namespace Go.Proofs.YtdcfooeoaoahjaaGreat
open Go.Lift
end Go.Proofs.YtdcfooeoaoahjaaGreat

set_option maxRecDepth 100000
namespace Go.Proofs.YtdcfooeoaoahjaaGreat
open Go.Lift
end Go.Proofs.YtdcfooeoaoahjaaGreat

set_option maxRecDepth 100000
namespace Go.Proofs.YtdcfooeoaoahjaaGreat
open Go.Lift
end Go.Proofs.YtdcfooeoaoahjaaGreat

set_option maxRecDepth 100000
namespace Go.Proofs.YtdcfooeoaoahjaaGreat
open Go.Lift
end Go.Proofs.YtdcfooeoaoahjaaGreat

set_option maxRecDepth 100000
namespace Go.Proofs.YtdcfooeoaoahjaaGreat
open Go.Lift
end Go.Proofs.YtdcfooeoaoahjaaGreat

set_option maxRecDepth 100000
namespace Go.Proofs.YtdcfooeoaoahjaaGreat
open Go.Lift
structure AW (s : Agr) : Prop where
  v : viewB s.view = true
  self : inB s.view.mem s.self = true
  w0 : 0 ≤ s.wait
  w1 : s.wait ≤ 1099511627776
  acc : accB s.acc = true
  pro : s.acc.pro ≠ 0 → properB s.view s.acc.pro = true
  rk : 0 < s.acc.rank → properB s.view s.acc.rank = true
  acut : goodB s.view s.acc.cut = true
  prop : goodB s.view s.prop = true
  cho : goodB s.view s.cho = true
  dec : goodB s.view s.dec = true
  box : boxB s.view s.box = true
  own : (cutOf s.box s.self).2 = true → (cutOf s.box s.self).1 = s.prop
  reps : repsB s.view s.reps = true
  rpr : ∀ r ∈ s.reps, 0 < r.rank → properB s.view r.rank = true
  accs : repsB s.view s.accs = true
  apr : ∀ r ∈ s.accs, 1 ≤ r.rank ∧ properB s.view r.rank = true
  rank : s.rank ≠ 0 → properB s.view s.rank = true ∧ ownerOf s.rank = s.self
  ph : (s.phase = 0 ∧ s.reps = [] ∧ s.cho = []) ∨ (s.phase = 1 ∧ s.cho = [] ∨ s.phase = 2 ∧ s.cho ≠ []) ∧ s.rank ≠ 0 ∧ s.prop ≠ [] ∧ 0 ≤ ofB s.reps s.self
end Go.Proofs.YtdcfooeoaoahjaaGreat

set_option maxRecDepth 100000
namespace Go.Proofs.YtdcfooeoaoahjaaGreat
open Go.Lift
structure PkOk (s : Agr) (p : Pkt) : Prop where
  vm : vmB s.view p.m = true
  src : p.m.src = s.self
  ne : p.to ≠ s.self
  to : p.to = 0 ∨ inB s.view.mem p.to = true
end Go.Proofs.YtdcfooeoaoahjaaGreat

set_option maxRecDepth 100000
namespace Go.Proofs.YtdcfooeoaoahjaaGreat
open Go.Lift
end Go.Proofs.YtdcfooeoaoahjaaGreat

set_option maxRecDepth 100000
namespace Go.Proofs.YtdcfooeoaoahjaaGreat
open Go.Lift
end Go.Proofs.YtdcfooeoaoahjaaGreat

set_option maxRecDepth 100000
namespace Go.Proofs.YtdcfooeoaoahjaaGreat
open Go.Lift
theorem m_Sort (l l' : List Int) (hp : l'.Perm l) (hs : l'.Pairwise fun x y => x ≤ y) (hlen : l.length < 4611686018427387904) : RetM Tryz.prog 101 [.row 3 1 (l.map intE)] [.own 0] [true] [.row 3 1 (l'.map intE)] (.tup []) :=
  sortI_retM Tryz.srtI rfl (enters_of Tryz.func101 (by kernel_rfl) rfl) l l' hp hs hlen
theorem m_Compact (l : List Int) (hlen : l.length ≤ 9223372036854775807) : RetM Tryz.prog 102 [.row 3 1 (l.map intE)] [.own 0] [false] [.row 3 1 ((Go.Lib.compact l).map intE)] (.own 0) :=
  compactI_retM Tryz.cmpI rfl (enters_of Tryz.func102 (by kernel_rfl) rfl) l hlen
def srtI (l : List Int) : List Int := l.mergeSort fun x y => decide (x ≤ y)
theorem srtI_perm (l : List Int) : (srtI l).Perm l := List.mergeSort_perm _ _
theorem srtI_up (l : List Int) : (srtI l).Pairwise fun x y => x ≤ y := by
  have h1 := List.pairwise_mergeSort (le := fun x y : Int => decide (x ≤ y)) (fun a b c h1 h2 => by simp at *; omega) (fun a b => by simp; omega) l
  exact h1.imp fun h => by simpa using h
def setI (l : List Int) : List Int := Go.Lib.compact (srtI l)
theorem setI_mem {l : List Int} {x : Int} : x ∈ setI l ↔ x ∈ l := ((compact_ok (srtI_up l)).2 x).trans (srtI_perm l).mem_iff
theorem setI_len (l : List Int) : (setI l).length ≤ l.length := by
  have h1 := compact_len (srtI l)
  have h2 := (srtI_perm l).length_eq
  unfold setI
  omega
theorem c_Subjects (l : List Alr) (hl : l.length ≤ 1000000) : Ret Tryz.prog 238 [.lst 4 (l.map alE) false] (.lst 1 ((setI (l.map (·.subj))).map intE) false) := by
  have hfI : ∀ n, n ≤ 2000000 → fitsIn tt 3 n := fun n h => by
    have e : (tinfo tt 3).bytes = 8 := by kernel_rfl
    refine ⟨?_, ?_⟩
    · rw [e]; omega
    · simp only [maxLen]; omega
  have m1 := m_Sort (l.map (·.subj)) (srtI (l.map (·.subj))) (srtI_perm _) (srtI_up _) (by rw [List.length_map]; omega)
  have m2 := m_Compact (srtI (l.map (·.subj))) (by rw [(srtI_perm _).length_eq, List.length_map]; omega)
  refine ret_of_body (fn := Tryz.f238) (c := Tryz.f238.body.getD .skip) hm hT (by kernel_rfl) Tryz.func238 (by kernel_rfl) (by kernel_rfl) (by kernel_rfl) (by kernel_rfl) ?_
  repeat' ((conv => whnf); first | refine And.intro (fun h => h) ?_ | refine dcond_t (by assumption) ?_ | refine dcond_f (by assumption) ?_ | (refine dcond_intro ?_ ?_ <;> intro h) | exact .refl | refine And.intro (by kernel_rfl) ?_ | refine And.intro ⟨fun h => h, fun h => h⟩ ?_ | refine Exists.intro false ?_ | (refine And.intro ?_ ?_; focus (simp; done)) | fail)
  all_goals (conv => whnf)
  refine ⟨Nat, fun i => ⟨[(3, .own 0), (6, .lst 4 (l.map alE) false), (7, i64 l.length), (8, i64 i)], [.row 3 1 (((l.take i).map (·.subj)).map intE)]⟩, fun i => i ≤ l.length, fun i => l.length - i, [.slot 3 3 1], ⟨0, Nat.zero_le _, ?_⟩, ?_⟩
  · conv => whnf
    exact ⟨⟨.refl, .refl, dle_int (by simp), .refl, trivial⟩, ⟨.refl, trivial⟩, by rfl⟩
  · intro i hi
    repeat' ((conv => whnf); first | refine And.intro (fun h => h) ?_ | refine dcond_t (by assumption) ?_ | refine dcond_f (by assumption) ?_ | (refine dcond_intro ?_ ?_ <;> intro h) | exact .refl | refine And.intro (by kernel_rfl) ?_ | refine And.intro ⟨fun h => h, fun h => h⟩ ?_ | refine Exists.intro false ?_ | (refine And.intro ?_ ?_; focus (simp; done)) | fail)
    · have hlt : i < l.length := by simpa using h
      clear h
      repeat' ((conv => whnf); first | refine And.intro (fun h => h) ?_ | refine dcond_t (by assumption) ?_ | refine dcond_f (by assumption) ?_ | (refine dcond_intro ?_ ?_ <;> intro h) | exact .refl | refine And.intro (by kernel_rfl) ?_ | refine And.intro ⟨fun h => h, fun h => h⟩ ?_ | refine ⟨_, _, And.intro ⟨rfl, get_map hlt⟩ ?_⟩ | refine And.intro (hfI _ (by simp <;> omega)) ?_ | refine Exists.intro false ?_ | (refine And.intro ?_ ?_; focus (simp; done)) | fail)
      all_goals (conv => whnf)
      refine ⟨i + 1, hlt, by simp only []; omega, ?_⟩
      conv => whnf
      refine ⟨⟨.refl, .refl, .refl, dle_int (wrap_succ (by omega)), trivial⟩, ⟨ole_row ?_, trivial⟩, by rfl⟩
      rw [List.take_succ_eq_append_getElem hlt, List.map_append, List.map_append]
      rfl
    · have : i = l.length := by
        simp at h
        omega
      subst this
      rw [List.take_length]
      repeat' ((conv => whnf); first | refine And.intro (fun h => h) ?_ | refine dcond_t (by assumption) ?_ | refine dcond_f (by assumption) ?_ | (refine dcond_intro ?_ ?_ <;> intro h) | exact .refl | refine And.intro (by kernel_rfl) ?_ | refine And.intro ⟨fun h => h, fun h => h⟩ ?_ | refine .inr ⟨[0], _, _, _, _, _, m1, by rfl, ⟨.refl, trivial⟩, ⟨.refl, trivial⟩, ?_⟩ | refine .inr ⟨[0], _, _, _, _, _, m2, by rfl, ⟨.refl, trivial⟩, ⟨.refl, trivial⟩, ?_⟩ | refine Exists.intro false ?_ | (refine And.intro ?_ ?_; focus (simp; done)) | fail)
end Go.Proofs.YtdcfooeoaoahjaaGreat

set_option maxRecDepth 100000
namespace Go.Proofs.YtdcfooeoaoahjaaGreat
open Go.Lift
def cntI (S : List Alr) (x : Int) : Nat := cntS S x S.length
theorem cntI_le (S : List Alr) (x : Int) : cntI S x ≤ S.length := cnt_le S x S.length
def hasB (S : List Alr) (x r : Int) : Bool := S.any fun a => decide (a.subj = x) && decide (a.ring = r)
def impB (S : List Alr) (R : List Int) (x : Int) (r : Nat) : Bool := !hasB S x (r : Nat) && decide (2 ≤ cntI S (R.getD r 0))
def impAt (S : List Alr) (R : List Int) (x : Int) (i : Nat) : Nat := (List.range i).countP (impB S R x)
theorem imp_succ (S : List Alr) (R : List Int) (x : Int) (i : Nat) : impAt S R x (i + 1) = impAt S R x i + if impB S R x i = true then 1 else 0 := by
  unfold impAt
  rw [List.range_succ, List.countP_append, List.countP_cons, List.countP_nil]
  simp
theorem imp_le (S : List Alr) (R : List Int) (x : Int) (i : Nat) : impAt S R x i ≤ i := Nat.le_trans List.countP_le_length (by simp)
theorem c_implicit (v : View) (hv : v.mem.length ≤ maxLen) (S : List Alr) (hl : S.length ≤ 1000000) (x : Int) : Ret Tryz.prog 240 [.agg (viewE v), .lst 4 (S.map alE) false, i64 x] (i64 (impAt S (obsR v.mem x) x (obsR v.mem x).length : Nat)) := by
  have e1 := c_overlay_Observers v.mem hv x
  have h5 := obs_len v.mem x
  have hS := imp_succ S
  have hle := imp_le S
  generalize obsR v.mem x = R at *
  refine ret_of_body (fn := Tryz.f240) (c := Tryz.f240.body.getD .skip) hm hT (by kernel_rfl) Tryz.func240 (by kernel_rfl) (by kernel_rfl) (by kernel_rfl) (by kernel_rfl) ?_
  repeat' ((conv => whnf); first | refine And.intro (fun h => h) ?_ | refine dcond_t (by assumption) ?_ | refine dcond_f (by assumption) ?_ | (refine dcond_intro ?_ ?_ <;> intro h) | exact .refl | refine And.intro (by kernel_rfl) ?_ | refine And.intro ⟨fun h => h, fun h => h⟩ ?_ | refine .inl ⟨_, _, DleAll_refl _, e1, ?_⟩ | refine ⟨_, _, DleAll_refl _, fun _ => e1, ?_⟩ | refine ⟨_, _, DleAll_refl _, e1, ?_⟩ | refine Exists.intro false ?_ | (refine And.intro ?_ ?_; focus (simp; done)) | fail)
  all_goals (conv => whnf)
  refine ⟨Nat, fun i => ⟨[(1, .lst 4 (S.map alE) false), (2, i64 x), (7, i64 (impAt S R x i : Nat)), (15, .lst 1 (R.map intE) false), (16, i64 R.length), (17, i64 i)], [.cells 24 (viewE v)]⟩, fun i => i ≤ R.length, fun i => R.length - i, [], ⟨0, Nat.zero_le _, ?_⟩, ?_⟩
  · conv => whnf
    exact ⟨⟨.refl, .refl, .refl, .refl, dle_int (by simp), .refl, trivial⟩, ⟨.refl, trivial⟩, by rfl⟩
  · intro i hi
    repeat' ((conv => whnf); first | refine And.intro (fun h => h) ?_ | refine dcond_t (by assumption) ?_ | refine dcond_f (by assumption) ?_ | (refine dcond_intro ?_ ?_ <;> intro h) | exact .refl | refine And.intro (by kernel_rfl) ?_ | refine And.intro ⟨fun h => h, fun h => h⟩ ?_ | refine Exists.intro false ?_ | (refine And.intro ?_ ?_; focus (simp; done)) | fail)
    · have hlt : i < R.length := by simpa using h
      clear h
      have hs := hS R x i
      have hli := hle R x i
      have hg : R.getD i 0 = R[i] := by simp [hlt]
      repeat' ((conv => whnf); first | refine And.intro (fun h => h) ?_ | refine dcond_t (by assumption) ?_ | refine dcond_f (by assumption) ?_ | (refine dcond_intro ?_ ?_ <;> intro h) | exact .refl | refine And.intro (by kernel_rfl) ?_ | refine And.intro ⟨fun h => h, fun h => h⟩ ?_ | refine ⟨_, _, And.intro ⟨rfl, get_map hlt⟩ ?_⟩ | refine Exists.intro false ?_ | (refine And.intro ?_ ?_; focus (simp; done)) | fail)
      all_goals (conv => whnf)
      refine ⟨Nat, fun j => ⟨[(1, .lst 4 (S.map alE) false), (2, i64 x), (7, i64 (impAt S R x i : Nat)), (8, i64 i), (9, i64 R[i]), (15, .lst 1 (R.map intE) false), (16, i64 R.length), (17, i64 i), (22, .lst 4 (S.map alE) false), (23, i64 S.length), (24, i64 j)], [.cells 24 (viewE v)]⟩, fun j => j ≤ S.length ∧ ((S.take j).any fun a => decide (a.subj = x) && decide (a.ring = (i : Nat))) = false, fun j => S.length - j, [], ⟨0, ⟨Nat.zero_le _, by simp⟩, ?_⟩, ?_⟩
      · conv => whnf
        exact ⟨⟨.refl, .refl, .refl, .refl, .refl, .refl, dle_int (by simp), .refl, .refl, dle_int (by simp), .refl, trivial⟩, ⟨.refl, trivial⟩, by rfl⟩
      · intro j ⟨hj, hno⟩
        repeat' ((conv => whnf); first | refine And.intro (fun h => h) ?_ | refine dcond_t (by assumption) ?_ | refine dcond_f (by assumption) ?_ | (refine dcond_intro ?_ ?_ <;> intro h) | exact .refl | refine And.intro (by kernel_rfl) ?_ | refine And.intro ⟨fun h => h, fun h => h⟩ ?_ | refine Exists.intro false ?_ | (refine And.intro ?_ ?_; focus (simp; done)) | fail)
        · have hjl : j < S.length := by simpa using h
          clear h
          repeat' ((conv => whnf); first | refine And.intro (fun h => h) ?_ | refine dcond_t (by assumption) ?_ | refine dcond_f (by assumption) ?_ | (refine dcond_intro ?_ ?_ <;> intro h) | exact .refl | refine And.intro (by kernel_rfl) ?_ | refine And.intro ⟨fun h => h, fun h => h⟩ ?_ | refine ⟨_, _, And.intro ⟨rfl, get_map hjl⟩ ?_⟩ | refine Exists.intro false ?_ | (refine And.intro ?_ ?_; focus (simp; done)) | fail)
          all_goals (conv => whnf)
          · have hhas : hasB S x (i : Nat) = true := by
              unfold hasB
              rw [List.any_eq_true]
              exact ⟨S[j], List.getElem_mem hjl, h⟩
            have hb : impB S R x i = false := by
              unfold impB
              rw [hhas]
              rfl
            rw [hb, if_neg (by simp), Nat.add_zero] at hs
            refine ⟨i + 1, hlt, by simp only []; omega, ?_⟩
            conv => whnf
            exact ⟨⟨.refl, .refl, dle_int (by rw [hs]; rfl), .refl, .refl, dle_int (wrap_succ (by omega)), trivial⟩, ⟨.refl, trivial⟩, by rfl⟩
          · refine ⟨j + 1, ⟨hjl, ?_⟩, by simp only []; omega, ?_⟩
            · rw [List.take_succ_eq_append_getElem hjl, List.any_append, hno, Bool.false_or]
              simp only [List.any_cons, List.any_nil, Bool.or_false]
              exact h
            · conv => whnf
              exact ⟨⟨.refl, .refl, .refl, .refl, .refl, .refl, .refl, .refl, .refl, .refl, dle_int (wrap_succ (by omega)), trivial⟩, ⟨.refl, trivial⟩, by rfl⟩
        · have : j = S.length := by
            simp at h
            omega
          subst this
          clear h
          rw [List.take_length] at hno
          have hhas : hasB S x (i : Nat) = false := hno
          have hb : impB S R x i = decide (2 ≤ cntI S R[i]) := by
            unfold impB
            rw [hhas, hg]
            rfl
          have ec := c_alerts_Count S hl R[i]
          change Ret _ _ _ (i64 (cntI S R[i] : Nat)) at ec
          repeat' ((conv => whnf); first | refine And.intro (fun h => h) ?_ | refine dcond_t (by assumption) ?_ | refine dcond_f (by assumption) ?_ | (refine dcond_intro ?_ ?_ <;> intro h) | exact .refl | refine And.intro (by kernel_rfl) ?_ | refine And.intro ⟨fun h => h, fun h => h⟩ ?_ | refine .inl ⟨_, _, DleAll_refl _, ec, ?_⟩ | refine ⟨_, _, DleAll_refl _, fun _ => ec, ?_⟩ | refine ⟨_, _, DleAll_refl _, ec, ?_⟩ | refine Exists.intro false ?_ | (refine And.intro ?_ ?_; focus (simp; done)) | fail)
          all_goals (conv => whnf)
          · rw [hb, if_pos (decide_eq_true (by have := of_decide_eq_true h; omega))] at hs
            refine ⟨i + 1, hlt, by simp only []; omega, ?_⟩
            conv => whnf
            refine ⟨⟨.refl, .refl, dle_int ?_, .refl, .refl, dle_int (wrap_succ (by omega)), trivial⟩, ⟨.refl, trivial⟩, by rfl⟩
            rw [hs, wrap_i64 (by omega) (by omega)]
            omega
          · rw [hb, if_neg (by
              have := of_decide_eq_false h
              rw [decide_eq_true_eq]
              omega), Nat.add_zero] at hs
            refine ⟨i + 1, hlt, by simp only []; omega, ?_⟩
            conv => whnf
            exact ⟨⟨.refl, .refl, dle_int (by rw [hs]; rfl), .refl, .refl, dle_int (wrap_succ (by omega)), trivial⟩, ⟨.refl, trivial⟩, by rfl⟩
    · have : i = R.length := by
        simp at h
        omega
      subst this
      repeat' ((conv => whnf); first | refine And.intro (fun h => h) ?_ | refine dcond_t (by assumption) ?_ | refine dcond_f (by assumption) ?_ | (refine dcond_intro ?_ ?_ <;> intro h) | exact .refl | refine And.intro (by kernel_rfl) ?_ | refine And.intro ⟨fun h => h, fun h => h⟩ ?_ | refine Exists.intro false ?_ | (refine And.intro ?_ ?_; focus (simp; done)) | fail)
structure Tal where
  subj : Int
  exp : Nat
  imp : Nat
def talE (t : Tal) : List DV := [i64 t.subj, i64 t.exp, i64 t.imp]
def talOf (v : View) (S : List Alr) (x : Int) : Tal := ⟨x, cntI S x, if 2 ≤ cntI S x then impAt S (obsR v.mem x) x (obsR v.mem x).length else 0⟩
def countsR (v : View) (S : List Alr) : List Tal := bif !valS v S then [] else (setI (S.map (·.subj))).map (talOf v S)
theorem fitsT {n : Nat} (h : n ≤ 2000000) : fitsIn tt 267 n := by
  have e : (tinfo tt 267).bytes = 24 := by kernel_rfl
  refine ⟨?_, ?_⟩
  · rw [e]; omega
  · simp only [maxLen]; omega
theorem talOf_lo {v : View} {S : List Alr} {x : Int} (h : ¬ 2 ≤ cntI S x) : talOf v S x = ⟨x, cntI S x, 0⟩ := by
  unfold talOf
  rw [if_neg h]
theorem talOf_hi {v : View} {S : List Alr} {x : Int} (h : 2 ≤ cntI S x) : talOf v S x = ⟨x, cntI S x, impAt S (obsR v.mem x) x (obsR v.mem x).length⟩ := by
  unfold talOf
  rw [if_pos h]
theorem c_cut_Counts (v : View) (hv : v.mem.length ≤ maxLen) (S : List Alr) (hl : S.length ≤ 1000000) : Ret Tryz.prog 221 [.agg (viewE v), .lst 4 (S.map alE) false] (.lst 3 ((countsR v S).map talE) false) := by
  have e1 := c_alerts_Valid v hv S (by simp only [maxLen]; omega)
  have e2 := c_Subjects S hl
  have hXl := setI_len (S.map (·.subj))
  rw [List.length_map] at hXl
  have hd : countsR v S = bif !valS v S then [] else (setI (S.map (·.subj))).map (talOf v S) := rfl
  have hlo := fun x h => talOf_lo (v := v) (S := S) (x := x) h
  have hhi := fun x h => talOf_hi (v := v) (S := S) (x := x) h
  have ei := c_implicit v hv S hl
  generalize talOf v S = tO at *
  generalize setI (S.map (·.subj)) = X at *
  generalize countsR v S = res at *
  generalize valS v S = vS at *
  refine ret_of_body (fn := Tryz.f221) (c := Tryz.f221.body.getD .skip) hm hT (by kernel_rfl) Tryz.func221 (by kernel_rfl) (by kernel_rfl) (by kernel_rfl) (by kernel_rfl) ?_
  repeat' ((conv => whnf); first | refine And.intro (fun h => h) ?_ | refine dcond_t (by assumption) ?_ | refine dcond_f (by assumption) ?_ | (refine dcond_intro ?_ ?_ <;> intro h) | exact .refl | refine And.intro (by kernel_rfl) ?_ | refine And.intro ⟨fun h => h, fun h => h⟩ ?_ | refine .inl ⟨_, _, DleAll_refl _, e1, ?_⟩ | refine ⟨_, _, DleAll_refl _, fun _ => e1, ?_⟩ | refine ⟨_, _, DleAll_refl _, e1, ?_⟩ | refine .inl ⟨_, _, DleAll_refl _, e2, ?_⟩ | refine ⟨_, _, DleAll_refl _, fun _ => e2, ?_⟩ | refine ⟨_, _, DleAll_refl _, e2, ?_⟩ | refine Exists.intro false ?_ | (refine And.intro ?_ ?_; focus (simp; done)) | fail)
  all_goals (conv => whnf)
  · rw [hd, h]
    exact .nl
  · rw [h, cond_false] at hd
    clear h
    subst hd
    refine ⟨Nat, fun i => ⟨[(1, .lst 4 (S.map alE) false), (2, .lp 0 0), (5, .own 1), (14, .lst 1 (X.map intE) false), (15, i64 X.length), (16, i64 i)], [.cells 24 (viewE v), .row 267 3 (((X.take i).map tO).map talE)]⟩, fun i => i ≤ X.length, fun i => X.length - i, [.slot 5 267 3], ⟨0, Nat.zero_le _, ?_⟩, ?_⟩
    · conv => whnf
      exact ⟨⟨.refl, .refl, .refl, .refl, dle_int (by simp), .refl, trivial⟩, ⟨.refl, .refl, trivial⟩, by rfl⟩
    · intro i hi
      repeat' ((conv => whnf); first | refine And.intro (fun h => h) ?_ | refine dcond_t (by assumption) ?_ | refine dcond_f (by assumption) ?_ | (refine dcond_intro ?_ ?_ <;> intro h) | exact .refl | refine And.intro (by kernel_rfl) ?_ | refine And.intro ⟨fun h => h, fun h => h⟩ ?_ | refine Exists.intro false ?_ | (refine And.intro ?_ ?_; focus (simp; done)) | fail)
      · have hlt : i < X.length := by simpa using h
        clear h
        have ec := c_alerts_Count S hl X[i]
        have ei := ei X[i]
        have hlo := hlo X[i]
        have hhi := hhi X[i]
        change Ret _ _ _ (i64 (cntI S X[i] : Nat)) at ec
        generalize impAt S (obsR v.mem X[i]) X[i] (obsR v.mem X[i]).length = im at *
        generalize cntI S X[i] = cn at *
        repeat' ((conv => whnf); first | refine And.intro (fun h => h) ?_ | refine dcond_t (by assumption) ?_ | refine dcond_f (by assumption) ?_ | (refine dcond_intro ?_ ?_ <;> intro h) | exact .refl | refine And.intro (by kernel_rfl) ?_ | refine And.intro ⟨fun h => h, fun h => h⟩ ?_ | refine ⟨_, _, And.intro ⟨rfl, get_map hlt⟩ ?_⟩ | refine .inl ⟨_, _, DleAll_refl _, ec, ?_⟩ | refine ⟨_, _, DleAll_refl _, fun _ => ec, ?_⟩ | refine ⟨_, _, DleAll_refl _, ec, ?_⟩ | refine .inl ⟨_, _, DleAll_refl _, ei, ?_⟩ | refine ⟨_, _, DleAll_refl _, fun _ => ei, ?_⟩ | refine ⟨_, _, DleAll_refl _, ei, ?_⟩ | refine And.intro (fitsT (by simp <;> omega)) ?_ | refine Exists.intro false ?_ | (refine And.intro ?_ ?_; focus (simp; done)) | fail)
        all_goals (conv => whnf)
        all_goals refine ⟨i + 1, hlt, by simp only []; omega, ?_⟩
        all_goals (conv => whnf)
        all_goals refine ⟨⟨.refl, .refl, .refl, .refl, .refl, dle_int (wrap_succ (by omega)), trivial⟩, ⟨.refl, ole_row ?_, trivial⟩, by rfl⟩
        all_goals rw [List.take_succ_eq_append_getElem hlt, List.map_append, List.map_append, List.map_singleton, List.map_singleton]
        · rw [hhi (by have := of_decide_eq_true h; omega)]
          rfl
        · rw [hlo (by have := of_decide_eq_false h; omega)]
          rfl
      · have : i = X.length := by
          simp at h
          omega
        subst this
        rw [List.take_length]
        repeat' ((conv => whnf); first | refine And.intro (fun h => h) ?_ | refine dcond_t (by assumption) ?_ | refine dcond_f (by assumption) ?_ | (refine dcond_intro ?_ ?_ <;> intro h) | exact .refl | refine And.intro (by kernel_rfl) ?_ | refine And.intro ⟨fun h => h, fun h => h⟩ ?_ | refine Exists.intro false ?_ | (refine And.intro ?_ ?_; focus (simp; done)) | fail)
def susB (b : Bool) (t : Tal) : Bool := decide (2 ≤ t.exp) && (decide (4 ≤ t.exp + t.imp) == b)
def susR (v : View) (S : List Alr) (b : Bool) : List Int := ((countsR v S).filter (susB b)).map (·.subj)
theorem cnt_bnd (v : View) (S : List Alr) : (countsR v S).length ≤ S.length ∧ ∀ t ∈ countsR v S, t.exp ≤ S.length ∧ t.imp ≤ 5 := by
  unfold countsR
  cases !valS v S
  · rw [cond_false]
    have hXl := setI_len (S.map (·.subj))
    rw [List.length_map] at hXl
    refine ⟨by rw [List.length_map]; exact hXl, fun t ht => ?_⟩
    obtain ⟨x, _, rfl⟩ := List.mem_map.1 ht
    unfold talOf
    refine ⟨cntI_le S x, ?_⟩
    split
    · exact Nat.le_trans (imp_le ..) (obs_len v.mem x)
    · exact Nat.zero_le _
  · rw [cond_true]
    simp
theorem c_suspects (v : View) (hv : v.mem.length ≤ maxLen) (S : List Alr) (hl : S.length ≤ 1000000) (b : Bool) : Ret Tryz.prog 184 [.agg (viewE v), .lst 4 (S.map alE) false, .v (.bool b)] (.lst 1 ((susR v S b).map intE) false) := by
  have e1 := c_cut_Counts v hv S hl
  obtain ⟨hb1, hb2⟩ := cnt_bnd v S
  unfold susR
  generalize countsR v S = T at *
  have hfI : ∀ n, n ≤ 2000000 → fitsIn tt 3 n := fun n h => by
    have e : (tinfo tt 3).bytes = 8 := by kernel_rfl
    refine ⟨?_, ?_⟩
    · rw [e]; omega
    · simp only [maxLen]; omega
  refine ret_of_body (fn := Tryz.f184) (c := Tryz.f184.body.getD .skip) hm hT (by kernel_rfl) Tryz.func184 (by kernel_rfl) (by kernel_rfl) (by kernel_rfl) (by kernel_rfl) ?_
  repeat' ((conv => whnf); first | refine And.intro (fun h => h) ?_ | refine dcond_t (by assumption) ?_ | refine dcond_f (by assumption) ?_ | (refine dcond_intro ?_ ?_ <;> intro h) | exact .refl | refine And.intro (by kernel_rfl) ?_ | refine And.intro ⟨fun h => h, fun h => h⟩ ?_ | refine .inl ⟨_, _, DleAll_refl _, e1, ?_⟩ | refine ⟨_, _, DleAll_refl _, fun _ => e1, ?_⟩ | refine ⟨_, _, DleAll_refl _, e1, ?_⟩ | refine Exists.intro false ?_ | (refine And.intro ?_ ?_; focus (simp; done)) | fail)
  all_goals (conv => whnf)
  refine ⟨Nat, fun i => ⟨[(2, .v (.bool b)), (7, .own 1), (12, .lst 3 (T.map talE) false), (13, i64 T.length), (14, i64 i)], [.cells 24 (viewE v), .row 3 1 ((((T.take i).filter (susB b)).map (·.subj)).map intE)]⟩, fun i => i ≤ T.length, fun i => T.length - i, [.slot 7 3 1], ⟨0, Nat.zero_le _, ?_⟩, ?_⟩
  · conv => whnf
    exact ⟨⟨.refl, .refl, .refl, dle_int (by simp), .refl, trivial⟩, ⟨.refl, .refl, trivial⟩, by rfl⟩
  · intro i hi
    repeat' ((conv => whnf); first | refine And.intro (fun h => h) ?_ | refine dcond_t (by assumption) ?_ | refine dcond_f (by assumption) ?_ | (refine dcond_intro ?_ ?_ <;> intro h) | exact .refl | refine And.intro (by kernel_rfl) ?_ | refine And.intro ⟨fun h => h, fun h => h⟩ ?_ | refine Exists.intro false ?_ | (refine And.intro ?_ ?_; focus (simp; done)) | fail)
    · have hlt : i < T.length := by simpa using h
      clear h
      obtain ⟨hx1, hx2⟩ := hb2 T[i] (List.getElem_mem hlt)
      have hflt : ((T.take i).filter (susB b)).length ≤ i := Nat.le_trans (List.length_filter_le ..) (by simp; omega)
      have hs : ((T.take (i + 1)).filter (susB b)).map (·.subj) = ((T.take i).filter (susB b)).map (·.subj) ++ bif susB b T[i] then [T[i].subj] else [] := by
        rw [List.take_succ_eq_append_getElem hlt, List.filter_append, List.map_append]
        cases hb : susB b T[i] <;> simp [hb]
      have hbe : susB b T[i] = (decide (T[i].exp ≥ (2 : Int)) && decide ((decide (IntKind.i64.wrap ((T[i].exp : Int) + (T[i].imp : Int)) ≥ 4)) = b)) := by
        rw [wrap_i64 (by omega) (by omega)]
        unfold susB
        have h1 : decide (2 ≤ T[i].exp) = decide (((T[i].exp : Nat) : Int) ≥ (2 : Int)) := by
          by_cases h : 2 ≤ T[i].exp
          · rw [decide_eq_true h, decide_eq_true (by omega)]
          · rw [decide_eq_false h, decide_eq_false (by omega)]
        have h2 : decide (4 ≤ T[i].exp + T[i].imp) = decide (((T[i].exp : Nat) : Int) + ((T[i].imp : Nat) : Int) ≥ 4) := by
          by_cases h : 4 ≤ T[i].exp + T[i].imp
          · rw [decide_eq_true h, decide_eq_true (by omega)]
          · rw [decide_eq_false h, decide_eq_false (by omega)]
        rw [h1, h2]
        congr 1
      have hlN : (((T.take i).filter (susB b)).map (·.subj)).length ≤ i := by rw [List.length_map]; exact hflt
      generalize ((T.take i).filter (susB b)).map (·.subj) = N0 at *
      generalize susB b T[i] = sb at *
      repeat' ((conv => whnf); first | refine And.intro (fun h => h) ?_ | refine dcond_t (by assumption) ?_ | refine dcond_f (by assumption) ?_ | (refine dcond_intro ?_ ?_ <;> intro h) | exact .refl | refine And.intro (by kernel_rfl) ?_ | refine And.intro ⟨fun h => h, fun h => h⟩ ?_ | refine ⟨_, _, And.intro ⟨rfl, get_map hlt⟩ ?_⟩ | refine And.intro (hfI _ (by simp <;> omega)) ?_ | refine Exists.intro false ?_ | (refine And.intro ?_ ?_; focus (simp; done)) | fail)
      all_goals (conv => whnf)
      all_goals refine ⟨i + 1, hlt, by simp only []; omega, ?_⟩
      all_goals (conv => whnf)
      all_goals refine ⟨⟨.refl, .refl, .refl, .refl, dle_int (wrap_succ (by omega)), trivial⟩, ⟨.refl, ole_row ?_, trivial⟩, by rfl⟩
      · rw [hs, hbe.trans h, cond_true, List.map_append]
        rfl
      · rw [hs, hbe.trans h, cond_false, List.append_nil]
    · have : i = T.length := by
        simp at h
        omega
      subst this
      rw [List.take_length]
      repeat' ((conv => whnf); first | refine And.intro (fun h => h) ?_ | refine dcond_t (by assumption) ?_ | refine dcond_f (by assumption) ?_ | (refine dcond_intro ?_ ?_ <;> intro h) | exact .refl | refine And.intro (by kernel_rfl) ?_ | refine And.intro ⟨fun h => h, fun h => h⟩ ?_ | refine Exists.intro false ?_ | (refine And.intro ?_ ?_; focus (simp; done)) | fail)
theorem c_Unstable (v : View) (hv : v.mem.length ≤ maxLen) (S : List Alr) (hl : S.length ≤ 1000000) : Ret Tryz.prog 121 [.agg (viewE v), .lst 4 (S.map alE) false] (.lst 1 ((susR v S false).map intE) false) := by
  have e1 := c_suspects v hv S hl false
  refine ret_of_body (fn := Tryz.f121) (c := Tryz.f121.body.getD .skip) hm hT (by kernel_rfl) Tryz.func121 (by kernel_rfl) (by kernel_rfl) (by kernel_rfl) (by kernel_rfl) ?_
  repeat' ((conv => whnf); first | refine And.intro (fun h => h) ?_ | refine dcond_t (by assumption) ?_ | refine dcond_f (by assumption) ?_ | (refine dcond_intro ?_ ?_ <;> intro h) | exact .refl | refine And.intro (by kernel_rfl) ?_ | refine And.intro ⟨fun h => h, fun h => h⟩ ?_ | refine .inl ⟨_, _, DleAll_refl _, e1, ?_⟩ | refine ⟨_, _, DleAll_refl _, fun _ => e1, ?_⟩ | refine ⟨_, _, DleAll_refl _, e1, ?_⟩ | refine Exists.intro false ?_ | (refine And.intro ?_ ?_; focus (simp; done)) | fail)
theorem c_Stable (v : View) (hv : v.mem.length ≤ maxLen) (S : List Alr) (hl : S.length ≤ 1000000) : Ret Tryz.prog 162 [.agg (viewE v), .lst 4 (S.map alE) false] (.lst 1 ((susR v S true).map intE) false) := by
  have e1 := c_suspects v hv S hl true
  refine ret_of_body (fn := Tryz.f162) (c := Tryz.f162.body.getD .skip) hm hT (by kernel_rfl) Tryz.func162 (by kernel_rfl) (by kernel_rfl) (by kernel_rfl) (by kernel_rfl) ?_
  repeat' ((conv => whnf); first | refine And.intro (fun h => h) ?_ | refine dcond_t (by assumption) ?_ | refine dcond_f (by assumption) ?_ | (refine dcond_intro ?_ ?_ <;> intro h) | exact .refl | refine And.intro (by kernel_rfl) ?_ | refine And.intro ⟨fun h => h, fun h => h⟩ ?_ | refine .inl ⟨_, _, DleAll_refl _, e1, ?_⟩ | refine ⟨_, _, DleAll_refl _, fun _ => e1, ?_⟩ | refine ⟨_, _, DleAll_refl _, e1, ?_⟩ | refine Exists.intro false ?_ | (refine And.intro ?_ ?_; focus (simp; done)) | fail)
end Go.Proofs.YtdcfooeoaoahjaaGreat

set_option maxRecDepth 100000
namespace Go.Proofs.YtdcfooeoaoahjaaGreat
open Go.Lift
def propF (v : View) : Nat → List Int → List Int × Bool
  | 0, _ => ([], false)
  | n + 1, l => bif decide ((nextR v l).2 = 0) then (l, true) else bif !decide ((nextR v l).2 = 5) || decide (((comeL v l).length : Int) = 0) then ([], false)
    else propF v n (l.take (placeB l ((comeL v l).getD ((comeL v l).length - 1) 0)).toNat ++ l.drop ((placeB l ((comeL v l).getD ((comeL v l).length - 1) 0)).toNat + 1))
def propL (v : View) (l : List Int) : List Int × Bool := propF v (l.length + 1) l
theorem prop_eq (v : View) (l : List Int) : propF v (l.length + 1) l = bif decide ((nextR v l).2 = 0) then (l, true) else bif !decide ((nextR v l).2 = 5) || decide (((comeL v l).length : Int) = 0) then ([], false)
    else propF v l.length (l.take (placeB l ((comeL v l).getD ((comeL v l).length - 1) 0)).toNat ++ l.drop ((placeB l ((comeL v l).getD ((comeL v l).length - 1) 0)).toNat + 1)) := by rw [propF]
theorem come_sub {v : View} {l : List Int} {x : Int} (h : x ∈ comeL v l) : x ∈ l := by
  unfold comeL splitR at h
  cases hc : (!viewB v || !idsB l 32)
  · rw [hc] at h
    exact (List.mem_filter.1 h).1
  · rw [hc] at h
    simp at h
theorem come_last {v : View} {l : List Int} (h : (comeL v l).length ≠ 0) : ∃ (k : Nat) (hk : k < l.length), placeB l ((comeL v l).getD ((comeL v l).length - 1) 0) = k ∧ l[k] = (comeL v l).getD ((comeL v l).length - 1) 0 := by
  refine place_val (come_sub (v := v) ?_)
  have h1 : (comeL v l).length - 1 < (comeL v l).length := by omega
  rw [List.getD_eq_getElem?_getD, List.getElem?_eq_getElem h1, Option.getD_some]
  exact List.getElem_mem h1
def proposeR (v : View) (S : List Alr) : List Int × Bool := bif decide (0 < ((susR v S false).length : Int)) then ([], false) else propL v (susR v S true)
theorem sus_len (v : View) (S : List Alr) (b : Bool) : (susR v S b).length ≤ S.length := by
  unfold susR
  rw [List.length_map]
  exact Nat.le_trans (List.length_filter_le ..) (cnt_bnd v S).1
theorem c_Propose (v : View) (hv : v.mem.length ≤ 500000) (S : List Alr) (hl : S.length ≤ 500000) : Ret Tryz.prog 96 [.agg (viewE v), .lst 4 (S.map alE) false] (.tup [.lst 1 ((proposeR v S).1.map intE) false, .v (.bool (proposeR v S).2)]) := by
  have hv' : v.mem.length ≤ maxLen := by simp only [maxLen]; omega
  have e1 := c_Unstable v hv' S (by omega)
  have e2 := c_Stable v hv' S (by omega)
  have hll := sus_len v S true
  have hd : proposeR v S = bif decide (0 < ((susR v S false).length : Int)) then ([], false) else propF v ((susR v S true).length + 1) (susR v S true) := rfl
  generalize proposeR v S = res at *
  generalize susR v S false = U at *
  generalize susR v S true = L at *
  refine ret_of_body (fn := Tryz.f96) (c := Tryz.f96.body.getD .skip) hm hT (by kernel_rfl) Tryz.func96 (by kernel_rfl) (by kernel_rfl) (by kernel_rfl) (by kernel_rfl) ?_
  repeat' ((conv => whnf); first | refine And.intro (fun h => h) ?_ | refine dcond_t (by assumption) ?_ | refine dcond_f (by assumption) ?_ | (refine dcond_intro ?_ ?_ <;> intro h) | exact .refl | refine And.intro (by kernel_rfl) ?_ | refine And.intro ⟨fun h => h, fun h => h⟩ ?_ | refine .inl ⟨_, _, DleAll_refl _, e1, ?_⟩ | refine ⟨_, _, DleAll_refl _, fun _ => e1, ?_⟩ | refine ⟨_, _, DleAll_refl _, e1, ?_⟩ | refine .inl ⟨_, _, DleAll_refl _, e2, ?_⟩ | refine ⟨_, _, DleAll_refl _, fun _ => e2, ?_⟩ | refine ⟨_, _, DleAll_refl _, e2, ?_⟩ | refine Exists.intro false ?_ | (refine And.intro ?_ ?_; focus (simp; done)) | fail)
  all_goals (conv => whnf)
  · rw [List.length_map] at h
    rw [hd, h]
    exact dle_tupA ⟨.nl, .refl, trivial⟩
  · rw [List.length_map] at h
    rw [h, cond_false] at hd
    clear h
    subst hd
    refine ⟨List Int, fun l => ⟨[(2, .lp 0 0), (6, .lst 1 (l.map intE) false)], [.cells 24 (viewE v)]⟩, fun l => l.length ≤ L.length ∧ propF v (l.length + 1) l = propF v (L.length + 1) L, fun l => l.length, [], ⟨L, ⟨Nat.le_refl _, rfl⟩, ?_⟩, ?_⟩
    · conv => whnf
      exact ⟨⟨.refl, .refl, trivial⟩, ⟨.refl, trivial⟩, by rfl⟩
    · intro l ⟨hlen, hinv⟩
      have en := c_view_Next v hv l (by omega)
      have ej : Ret Tryz.prog 108 [.agg (viewE v), .lst 1 (l.map intE) false] (.lst 1 ((comeL v l).map intE) false) := c_view_Joiners v (by omega) l (by omega)
      rw [prop_eq] at hinv
      have hlast := come_last (v := v) (l := l)
      have hjl : (comeL v l).length ≤ l.length := split_len v l l v.mem
      generalize comeL v l = J at *
      generalize nextR v l = N at *
      obtain ⟨N1, N2⟩ := N
      simp only [] at en hinv
      generalize propF v (L.length + 1) L = res at *
      repeat' ((conv => whnf); first | refine And.intro (fun h => h) ?_ | refine dcond_t (by assumption) ?_ | refine dcond_f (by assumption) ?_ | (refine dcond_intro ?_ ?_ <;> intro h) | exact .refl | refine And.intro (by kernel_rfl) ?_ | refine And.intro ⟨fun h => h, fun h => h⟩ ?_ | refine .inl ⟨_, _, DleAll_refl _, en, ?_⟩ | refine ⟨_, _, DleAll_refl _, fun _ => en, ?_⟩ | refine ⟨_, _, DleAll_refl _, en, ?_⟩ | refine .inl ⟨_, _, DleAll_refl _, ej, ?_⟩ | refine ⟨_, _, DleAll_refl _, fun _ => ej, ?_⟩ | refine ⟨_, _, DleAll_refl _, ej, ?_⟩ | refine Exists.intro false ?_ | (refine And.intro ?_ ?_; focus (simp; done)) | fail)
      all_goals (conv => whnf)
      · rw [h, cond_true] at hinv
        rw [← hinv]
        exact .refl
      · rename_i h1
        rw [List.length_map] at h
        rw [h1, h, cond_true, cond_false] at hinv
        rw [← hinv]
        exact dle_tupA ⟨.nl, .refl, trivial⟩
      · rename_i h1
        rw [List.length_map] at h
        rw [h1, h, cond_false, cond_false] at hinv
        have hJ0 : J.length ≠ 0 := by
          rw [Bool.or_eq_false_iff] at h
          have := of_decide_eq_false h.2
          omega
        obtain ⟨k, hk, hpl, _⟩ := hlast hJ0
        clear h h1 hlast
        have hix : IntKind.i64.wrap (((J.map intE).length : Int) - 1) = ((J.length - 1 : Nat) : Int) := by
          rw [List.length_map, wrap_i64 (by omega) (by omega)]
          omega
        have hgj : (J.map intE)[J.length - 1]? = some (intE (J.getD (J.length - 1) 0)) := by
          have : J.length - 1 < J.length := by omega
          simp [this]
        generalize J.getD (J.length - 1) 0 = y at *
        have ep := c_view_Place l (by simp only [maxLen]; omega) y
        rw [hpl] at ep hinv
        rw [Int.toNat_natCast] at hinv
        have hk1 : IntKind.i64.wrap ((k : Int) + 1) = ((k + 1 : Nat) : Int) := by
          rw [wrap_i64 (by omega) (by omega)]
          omega
        have hkl : k + 1 ≤ (l.map intE).length := by
          rw [List.length_map]
          omega
        have hkl' : k ≤ (l.map intE).length := by omega
        have hfI : ∀ n, n ≤ 2000000 → fitsIn tt 3 n := fun n h => by
          have e : (tinfo tt 3).bytes = 8 := by kernel_rfl
          refine ⟨?_, ?_⟩
          · rw [e]; omega
          · simp only [maxLen]; omega
        repeat' ((conv => whnf); first | refine And.intro (fun h => h) ?_ | refine dcond_t (by assumption) ?_ | refine dcond_f (by assumption) ?_ | (refine dcond_intro ?_ ?_ <;> intro h) | exact .refl | refine And.intro (by kernel_rfl) ?_ | refine And.intro ⟨fun h => h, fun h => h⟩ ?_ | refine ⟨J.length - 1, _, And.intro ⟨hix, hgj⟩ ?_⟩ | refine .inl ⟨_, _, DleAll_refl _, ep, ?_⟩ | refine ⟨_, _, DleAll_refl _, fun _ => ep, ?_⟩ | refine ⟨_, _, DleAll_refl _, ep, ?_⟩ | refine ⟨0, k, And.intro ⟨rfl, ⟨_, rfl⟩, ⟨_, rfl⟩, Nat.zero_le _, hkl'⟩ ?_⟩ | refine ⟨k + 1, And.intro ⟨⟨_, congrArg (fun x => DV.v (Value.int .i64 x)) hk1⟩, hkl⟩ ?_⟩ | refine And.intro (hfI _ (by simp <;> omega)) ?_ | refine .inr ?_ | refine Exists.intro false ?_ | (refine And.intro ?_ ?_; focus (simp; done)) | fail)
        all_goals (conv => whnf)
        have hl1 : (l.take k ++ l.drop (k + 1)).length + 1 = l.length := by
          simp
          omega
        refine ⟨l.take k ++ l.drop (k + 1), ⟨by omega, by rw [hl1]; exact hinv⟩, by simp only []; omega, ?_⟩
        conv => whnf
        refine ⟨⟨.refl, dle_lst ?_, trivial⟩, ⟨.refl, trivial⟩, by rfl⟩
        rw [List.drop_zero, ← List.map_take, ← List.map_drop, List.map_append]
end Go.Proofs.YtdcfooeoaoahjaaGreat

set_option maxRecDepth 100000
namespace Go.Proofs.YtdcfooeoaoahjaaGreat
open Go.Lift
def intsT (l : List Int) : List Nat := l.flatMap fun v => leb (zz v)
def intsB (l : List Int) : List Nat := leb l.length ++ intsT l
theorem intsT_len (l : List Int) : (intsT l).length ≤ 10 * l.length := by
  induction l with
  | nil => simp [intsT]
  | cons x l ih =>
    have h := leb_len 9 (zz x)
    have e : intsT (x :: l) = leb (zz x) ++ intsT l := rfl
    rw [e, List.length_append, List.length_cons]
    have : (leb (zz x)).length ≤ 10 := h
    omega
end Go.Proofs.YtdcfooeoaoahjaaGreat
