/- The laws of this seat, part OwA: contracts of the functions, plain laws. No conditions. -/
import Derived.Test.YtbaapljlalgddaaRows
import Derived.Test.YtbaapljlalgddaaLfE
import Derived.Test.YtbaapljlalgddaaLfD
import Derived.Shelf.SlLaysF
import Derived.Test.YtbaapljlalgddaaProg
set_option linter.unusedSimpArgs false
set_option linter.unusedVariables false
set_option maxRecDepth 100000
namespace Go.Proofs.Ytbaapljlalgddaa
open Go.Lift
def tt : TT := [(2, ⟨1, 8, false, [.v (.int .i64 0)], .int .i64⟩),
  (3, ⟨1, 8, false, [.v (.int .i64 0)], .int .i64⟩),
  (4, ⟨1, 1, false, [.v (.bool false)], .bool⟩),
  (5, ⟨1, 1, false, [.v (.int .u8 0)], .int .u8⟩),
  (9, ⟨1, 16, false, [.v (.string ⟨#[]⟩)], .str⟩),
  (21, ⟨1, 4, false, [.v (.int .i32 0)], .int .i32⟩),
  (22, ⟨1, 24, false, [.nl], .slc 38⟩),
  (23, ⟨2, 32, true, [.v (.string ⟨#[]⟩), .v (.string ⟨#[]⟩)], .st [(9, 0), (9, 1)]⟩),
  (24, ⟨2, 32, true, [.v (.string ⟨#[]⟩), .v (.string ⟨#[]⟩)], .st [(9, 0), (9, 1)]⟩),
  (28, ⟨5, 72, true, [.v (.string ⟨#[]⟩), .v (.string ⟨#[]⟩), .v (.string ⟨#[]⟩), .v (.string ⟨#[]⟩), .v (.int .i64 0)], .st [(24, 0), (24, 2), (3, 4)]⟩),
  (29, ⟨5, 72, true, [.v (.string ⟨#[]⟩), .v (.string ⟨#[]⟩), .v (.string ⟨#[]⟩), .v (.string ⟨#[]⟩), .v (.int .i64 0)], .st [(24, 0), (24, 2), (3, 4)]⟩),
  (34, ⟨1, 24, false, [.nl], .slc 24⟩),
  (37, ⟨6, 80, true, [.v (.string ⟨#[]⟩), .v (.string ⟨#[]⟩), .v (.string ⟨#[]⟩), .v (.string ⟨#[]⟩), .v (.int .i64 0), .v (.bool false)], .st [(24, 0), (24, 2), (3, 4), (4, 5)]⟩),
  (38, ⟨6, 80, true, [.v (.string ⟨#[]⟩), .v (.string ⟨#[]⟩), .v (.string ⟨#[]⟩), .v (.string ⟨#[]⟩), .v (.int .i64 0), .v (.bool false)], .st [(24, 0), (24, 2), (3, 4), (4, 5)]⟩),
  (39, ⟨1, 24, false, [.nl], .slc 34⟩),
  (46, ⟨1, 8, false, [.v .nilFunc], .other⟩),
  (58, ⟨1, 8, false, [.v (.int .u64 0)], .int .u64⟩),
  (61, ⟨1, 8, false, [.v (.int .i64 0)], .int .i64⟩),
  (69, ⟨1, 4, false, [.v (.int .u32 0)], .int .u32⟩),
  (71, ⟨1, 8, false, [.v (.int .u64 0)], .int .u64⟩),
  (72, ⟨1, 8, false, [.v (.int .u64 0)], .int .u64⟩)]
theorem hm : Try.prog.follows .mixedOrders = true := by kernel_rfl
theorem hT : tabOk Try.prog tt = true := by kernel_rfl
def i64 (n : Int) : DV := .v (.int .i64 n)
theorem ole_row {e : TypeId} {sz : Nat} {es es' : List (List DV)} (h : es = es') : ole (.row e sz es) (.row e sz es') := by subst h; exact .refl
theorem ole_cells {t : TypeId} {cs ds : List DV} (h : cs = ds) : ole (.cells t cs) (.cells t ds) := by subst h; exact .refl
/-! names -/
structure Ref where
  ty : ByteArray
  key : ByteArray
  deriving DecidableEq
structure Edge where
  fr : Ref
  to : Ref
  age : Int
  held : Bool
structure Prb where
  st : Ref
  at' : Ref
  n : Int
def refE (r : Ref) : List DV := [.v (.string r.ty), .v (.string r.key)]
def edgE (e : Edge) : List DV := [.v (.string e.fr.ty), .v (.string e.fr.key), .v (.string e.to.ty), .v (.string e.to.key), i64 e.age, .v (.bool e.held)]
def prbE (p : Prb) : List DV := [.v (.string p.st.ty), .v (.string p.st.key), .v (.string p.at'.ty), .v (.string p.at'.key), i64 p.n]
def cycE (c : List Ref) : List DV := [.lst 2 (c.map refE) false]
def zRef : Ref := ⟨⟨#[]⟩, ⟨#[]⟩⟩
def zEdge : Edge := ⟨zRef, zRef, 0, false⟩
def zPrb : Prb := ⟨zRef, zRef, 0⟩
def refB (r : Ref) : Bool := decide (1 ≤ (r.ty.size : Int)) && decide ((r.ty.size : Int) ≤ 32) && decide ((r.key.size : Int) ≤ 32)
def lessB (a b : Ref) : Bool := Op.bytesLess a.ty.data.toList b.ty.data.toList || (decide (a.ty = b.ty) && Op.bytesLess a.key.data.toList b.key.data.toList)
theorem lessB_raw (a b : Ref) : lessB a b = (Op.bytesLess a.ty.toList b.ty.toList || (decide (a.ty = b.ty) && Op.bytesLess a.key.toList b.key.toList)) := by
  simp only [lessB, ByteArray.toList_eq]
def refEq (a b : Ref) : Bool := decide (a.ty = b.ty) && (decide (a.key = b.key) && true)
theorem refEq_iff {a b : Ref} : refEq a b = true ↔ a = b := by
  cases a; cases b; simp [refEq]
theorem refEq_refl (a : Ref) : refEq a a = true := refEq_iff.2 rfl
theorem fitsR {n : Nat} (h : n ≤ 2000000) : fitsIn tt 24 n := by
  have e : (tinfo tt 24).bytes = 32 := by kernel_rfl
  refine ⟨?_, ?_⟩
  · rw [e]; omega
  · simp only [maxLen]; omega
theorem fitsE {n : Nat} (h : n ≤ 200000) : fitsIn tt 38 n := by
  have e : (tinfo tt 38).bytes = 80 := by kernel_rfl
  refine ⟨?_, ?_⟩
  · rw [e]; omega
  · simp only [maxLen]; omega
theorem fitsC {n : Nat} (h : n ≤ 2000000) : fitsIn tt 34 n := by
  have e : (tinfo tt 34).bytes = 24 := by kernel_rfl
  refine ⟨?_, ?_⟩
  · rw [e]; omega
  · simp only [maxLen]; omega
theorem c_dir_ValidRef (r : Ref) : Ret Try.prog 19 [.agg (refE r)] (.v (.bool (refB r))) := by
  refine ret_of_body (fn := Try.f19) (c := Try.f19.body.getD .skip) hm hT (by kernel_rfl) Try.func19 (by kernel_rfl) (by kernel_rfl) (by kernel_rfl) (by kernel_rfl) ?_
  repeat' ((conv => whnf); first | refine And.intro (fun h => h) ?_ | refine dcond_t (by assumption) ?_ | refine dcond_f (by assumption) ?_ | (refine dcond_intro ?_ ?_ <;> intro h) | exact .refl | refine And.intro (by kernel_rfl) ?_ | refine And.intro ⟨fun h => h, fun h => h⟩ ?_ | refine Exists.intro false ?_ | (refine And.intro ?_ ?_; focus (simp; done)) | fail)
theorem c_dir_Less (a b : Ref) : Ret Try.prog 24 [.agg (refE a), .agg (refE b)] (.v (.bool (lessB a b))) := by
  rw [lessB_raw]
  refine ret_of_body (fn := Try.f24) (c := Try.f24.body.getD .skip) hm hT (by kernel_rfl) Try.func24 (by kernel_rfl) (by kernel_rfl) (by kernel_rfl) (by kernel_rfl) ?_
  repeat' ((conv => whnf); first | refine And.intro (fun h => h) ?_ | refine dcond_t (by assumption) ?_ | refine dcond_f (by assumption) ?_ | (refine dcond_intro ?_ ?_ <;> intro h) | exact .refl | refine And.intro (by kernel_rfl) ?_ | refine And.intro ⟨fun h => h, fun h => h⟩ ?_ | refine Exists.intro false ?_ | (refine And.intro ?_ ?_; focus (simp; done)) | fail)
theorem c_r14_ValidRef (r : Ref) : Ret Try.prog 9 [.agg (refE r)] (.v (.bool (refB r))) := by
  refine ret_of_body (fn := Try.f9) (c := Try.f9.body.getD .skip) hm hT (by kernel_rfl) Try.func9 (by kernel_rfl) (by kernel_rfl) (by kernel_rfl) (by kernel_rfl) ?_
  repeat' ((conv => whnf); first | refine And.intro (fun h => h) ?_ | refine dcond_t (by assumption) ?_ | refine dcond_f (by assumption) ?_ | (refine dcond_intro ?_ ?_ <;> intro h) | exact .refl | refine And.intro (by kernel_rfl) ?_ | refine And.intro ⟨fun h => h, fun h => h⟩ ?_ | refine Exists.intro false ?_ | (refine And.intro ?_ ?_; focus (simp; done)) | fail)
theorem c_r14_Less (a b : Ref) : Ret Try.prog 17 [.agg (refE a), .agg (refE b)] (.v (.bool (lessB a b))) := by
  rw [lessB_raw]
  refine ret_of_body (fn := Try.f17) (c := Try.f17.body.getD .skip) hm hT (by kernel_rfl) Try.func17 (by kernel_rfl) (by kernel_rfl) (by kernel_rfl) (by kernel_rfl) ?_
  repeat' ((conv => whnf); first | refine And.intro (fun h => h) ?_ | refine dcond_t (by assumption) ?_ | refine dcond_f (by assumption) ?_ | (refine dcond_intro ?_ ?_ <;> intro h) | exact .refl | refine And.intro (by kernel_rfl) ?_ | refine And.intro ⟨fun h => h, fun h => h⟩ ?_ | refine Exists.intro false ?_ | (refine And.intro ?_ ?_; focus (simp; done)) | fail)
/-! the order of names -/
theorem bl_irrefl : ∀ l : List UInt8, Op.bytesLess l l = false
  | [] => rfl
  | x :: r => by simp [Op.bytesLess, bl_irrefl r]
theorem bl_trans : ∀ {a b c : List UInt8}, Op.bytesLess a b = true → Op.bytesLess b c = true → Op.bytesLess a c = true
  | a, [], c, h, _ => by cases a <;> simp [Op.bytesLess] at h
  | a, _ :: _, [], _, h => by simp [Op.bytesLess] at h
  | [], _ :: _, _ :: _, _, _ => by simp [Op.bytesLess]
  | x :: a, y :: b, z :: c, h1, h2 => by
    simp only [Op.bytesLess, Bool.or_eq_true, Bool.and_eq_true, decide_eq_true_eq, beq_iff_eq] at h1 h2 ⊢
    rcases h1 with h1 | ⟨rfl, h1⟩ <;> rcases h2 with h2 | ⟨rfl, h2⟩
    · exact .inl (UInt8.lt_trans h1 h2)
    · exact .inl h1
    · exact .inl h2
    · exact .inr ⟨rfl, bl_trans h1 h2⟩
theorem less_irrefl (a : Ref) : lessB a a = false := by simp [lessB, bl_irrefl]
theorem less_trans {a b c : Ref} (h1 : lessB a b = true) (h2 : lessB b c = true) : lessB a c = true := by
  simp only [lessB, Bool.or_eq_true, Bool.and_eq_true, decide_eq_true_eq] at h1 h2 ⊢
  rcases h1 with h1 | ⟨e1, h1⟩ <;> rcases h2 with h2 | ⟨e2, h2⟩
  · exact .inl (bl_trans h1 h2)
  · exact .inl (by rw [← e2]; exact h1)
  · exact .inl (by rw [e1]; exact h2)
  · exact .inr ⟨e1.trans e2, bl_trans h1 h2⟩
theorem bl_total : ∀ {a b : List UInt8}, Op.bytesLess a b = false → a ≠ b → Op.bytesLess b a = true
  | [], [], _, h => absurd rfl h
  | [], _ :: _, h, _ => by simp [Op.bytesLess] at h
  | _ :: _, [], _, _ => by simp [Op.bytesLess]
  | x :: a, y :: b, h, hn => by
    simp only [Op.bytesLess, Bool.or_eq_false_iff, Bool.and_eq_false_iff, decide_eq_false_iff_not, beq_eq_false_iff_ne] at h
    simp only [Op.bytesLess, Bool.or_eq_true, Bool.and_eq_true, decide_eq_true_eq, beq_iff_eq]
    by_cases hxy : x = y
    · subst hxy
      refine .inr ⟨rfl, bl_total (h.2.resolve_left (fun h => h rfl)) (fun e => hn (by rw [e]))⟩
    · left
      have h1 := h.1
      rw [UInt8.lt_iff_toNat_lt] at h1 ⊢
      have : x.toNat ≠ y.toNat := fun e => hxy (UInt8.toNat_inj.1 e)
      omega
theorem ba_ext {a b : ByteArray} (h1 : a.data.toList = b.data.toList) : a = b := by
  have h2 : a.data = b.data := Array.toList_inj.1 h1
  cases a
  cases b
  simpa using h2
theorem less_total {a b : Ref} (h : lessB a b = false) (hn : a ≠ b) : lessB b a = true := by
  simp only [lessB, Bool.or_eq_false_iff, Bool.and_eq_false_iff, decide_eq_false_iff_not] at h
  simp only [lessB, Bool.or_eq_true, Bool.and_eq_true, decide_eq_true_eq]
  by_cases ht : a.ty = b.ty
  · right
    refine ⟨ht.symm, bl_total (h.2.resolve_left (fun h => h ht)) (fun e => hn ?_)⟩
    cases a
    cases b
    have := ba_ext e
    simp_all
  · exact .inl (bl_total h.1 (fun e => ht (ba_ext e)))
theorem less_asymm {a b : Ref} (h : lessB a b = true) : lessB b a = false := by
  cases h2 : lessB b a with
  | false => rfl
  | true =>
    have := less_trans h h2
    rw [less_irrefl] at this
    cases this
/-! edges -/
def okE (e : Edge) : Bool := refB e.fr && (refB e.to && (decide (0 ≤ e.age) && decide (e.age ≤ 1099511627776)))
def okAtE (l : List Edge) (i : Nat) : Bool := okE (l.getD i zEdge) && !(decide (0 < (i : Int)) && !lessB (l.getD (i - 1) zEdge).fr (l.getD i zEdge).fr)
def validW (l : List Edge) : Bool := !decide (200 < (l.length : Int)) && allB (okAtE l) l.length
theorem okAt_bad (l : List Edge) (i : Nat) : okAtE l i = !(!refB (l.getD i zEdge).fr || !refB (l.getD i zEdge).to || decide ((l.getD i zEdge).age < 0) || decide (1099511627776 < (l.getD i zEdge).age) || (decide (0 < (i : Int)) && !lessB (l.getD (i - 1) zEdge).fr (l.getD i zEdge).fr)) := by
  unfold okAtE okE
  have h1 : decide (0 ≤ (l.getD i zEdge).age) = !decide ((l.getD i zEdge).age < 0) := by
    rw [← decide_not]
    exact decide_eq_decide.2 (by omega)
  have h2 : decide ((l.getD i zEdge).age ≤ 1099511627776) = !decide (1099511627776 < (l.getD i zEdge).age) := by
    rw [← decide_not]
    exact decide_eq_decide.2 (by omega)
  rw [h1, h2]
  simp only [Bool.not_or, Bool.not_not, Bool.and_assoc]
theorem c_wait_Valid (l : List Edge) (hl : l.length ≤ maxLen) : Ret Try.prog 22 [.lst 6 (l.map edgE) false] (.v (.bool (validW l))) := by
  have hl' : l.length ≤ 9223372036854775807 := hl
  have hd : validW l = (!decide (200 < (l.length : Int)) && allB (okAtE l) l.length) := rfl
  generalize validW l = res at *
  refine ret_of_body (fn := Try.f22) (c := Try.f22.body.getD .skip) hm hT (by kernel_rfl) Try.func22 (by kernel_rfl) (by kernel_rfl) (by kernel_rfl) (by kernel_rfl) ?_
  repeat' ((conv => whnf); first | refine And.intro (fun h => h) ?_ | refine dcond_t (by assumption) ?_ | refine dcond_f (by assumption) ?_ | (refine dcond_intro ?_ ?_ <;> intro h) | exact .refl | refine And.intro (by kernel_rfl) ?_ | refine And.intro ⟨fun h => h, fun h => h⟩ ?_ | refine Exists.intro false ?_ | (refine And.intro ?_ ?_; focus (simp; done)) | fail)
  all_goals (conv => whnf)
  · rw [List.length_map] at h
    have h : decide (200 < (l.length : Int)) = true := h
    rw [hd, h]
    exact .refl
  · rw [List.length_map] at h
    have h : decide (200 < (l.length : Int)) = false := h
    rw [h, Bool.not_false, Bool.true_and] at hd
    clear h
    subst hd
    refine ⟨Nat, fun i => ⟨[(0, .lst 6 (l.map edgE) false), (8, .lst 6 (l.map edgE) false), (9, i64 l.length), (10, i64 i)], []⟩, fun i => i ≤ l.length ∧ ∀ j, j < i → okAtE l j = true, fun i => l.length - i, [], ⟨0, ⟨Nat.zero_le _, by omega⟩, ?_⟩, ?_⟩
    · conv => whnf
      exact ⟨⟨.refl, .refl, dle_int (by simp), .refl, trivial⟩, trivial, by rfl⟩
    · intro i ⟨hi, hall⟩
      repeat' ((conv => whnf); first | refine And.intro (fun h => h) ?_ | refine dcond_t (by assumption) ?_ | refine dcond_f (by assumption) ?_ | (refine dcond_intro ?_ ?_ <;> intro h) | exact .refl | refine And.intro (by kernel_rfl) ?_ | refine And.intro ⟨fun h => h, fun h => h⟩ ?_ | refine Exists.intro false ?_ | (refine And.intro ?_ ?_; focus (simp; done)) | fail)
      · have hlt : i < l.length := by simpa using h
        clear h
        have hg : l.getD i zEdge = l[i] := by simp [hlt]
        have hok := okAt_bad l i
        rw [hg] at hok
        have e1 := c_dir_ValidRef l[i].fr
        have e2 := c_dir_ValidRef l[i].to
        have e5 := c_dir_Less (l.getD (i - 1) zEdge).fr l[i].fr
        have hix : ∀ c : Bool, (c && decide ((0 : Int) < (i : Int))) = true → IntKind.i64.wrap ((i : Int) - 1) = ((i - 1 : Nat) : Int) ∧ (l.map edgE)[i - 1]? = some (edgE (l.getD (i - 1) zEdge)) := fun c h => by
          rw [Bool.and_eq_true, decide_eq_true_eq] at h
          have : i - 1 < l.length := by omega
          refine ⟨by rw [wrap_i64 (by omega) (by omega)]; omega, ?_⟩
          simp [this]
        generalize refB l[i].fr = b1 at e1 hok
        generalize refB l[i].to = b2 at e2 hok
        generalize lessB (l.getD (i - 1) zEdge).fr l[i].fr = lb at e5 hok
        generalize l.getD (i - 1) zEdge = lp at e5 hix
        repeat' ((conv => whnf); first | refine And.intro (fun h => h) ?_ | refine dcond_t (by assumption) ?_ | refine dcond_f (by assumption) ?_ | (refine dcond_intro ?_ ?_ <;> intro h) | exact .refl | refine And.intro (by kernel_rfl) ?_ | refine And.intro ⟨fun h => h, fun h => h⟩ ?_ | refine ⟨_, _, And.intro ⟨rfl, get_map hlt⟩ ?_⟩ | refine .inl ⟨_, _, DleAll_refl _, e1, ?_⟩ | refine ⟨_, _, DleAll_refl _, fun _ => e1, ?_⟩ | refine ⟨_, _, DleAll_refl _, e1, ?_⟩ | refine .inl ⟨_, _, DleAll_refl _, e2, ?_⟩ | refine ⟨_, _, DleAll_refl _, fun _ => e2, ?_⟩ | refine ⟨_, _, DleAll_refl _, e2, ?_⟩ | refine ⟨i - 1, edgE lp, And.intro ⟨⟨fun h => h, fun h => h⟩, fun h => hix _ h⟩ ?_⟩ | refine .inl ⟨_, _, DleAll_refl _, e5, ?_⟩ | refine ⟨_, _, DleAll_refl _, fun _ => e5, ?_⟩ | refine ⟨_, _, DleAll_refl _, e5, ?_⟩ | refine Exists.intro false ?_ | (refine And.intro ?_ ?_; focus (simp; done)) | fail)
        all_goals (conv => whnf)
        · rw [allB_false hlt (by rw [hok, h]; rfl)]
          exact .refl
        · refine ⟨i + 1, ⟨hlt, fun j hj => ?_⟩, by simp only []; omega, ?_⟩
          · rcases Nat.lt_succ_iff_lt_or_eq.1 hj with hj | rfl
            · exact hall j hj
            · rw [hok, h]
              rfl
          · conv => whnf
            exact ⟨⟨.refl, .refl, .refl, dle_int (wrap_succ (by omega)), trivial⟩, trivial, by rfl⟩
      · have hge : ¬ i < l.length := by simpa using h
        conv => whnf
        refine dle_bool ?_
        rw [allB_true.2 (fun j hj => hall j (by omega))]
theorem c_r25_Valid (l : List Edge) (hl : l.length ≤ maxLen) : Ret Try.prog 8 [.lst 6 (l.map edgE) false] (.v (.bool (validW l))) := by
  have hl' : l.length ≤ 9223372036854775807 := hl
  have hd : validW l = (!decide (200 < (l.length : Int)) && allB (okAtE l) l.length) := rfl
  generalize validW l = res at *
  refine ret_of_body (fn := Try.f8) (c := Try.f8.body.getD .skip) hm hT (by kernel_rfl) Try.func8 (by kernel_rfl) (by kernel_rfl) (by kernel_rfl) (by kernel_rfl) ?_
  repeat' ((conv => whnf); first | refine And.intro (fun h => h) ?_ | refine dcond_t (by assumption) ?_ | refine dcond_f (by assumption) ?_ | (refine dcond_intro ?_ ?_ <;> intro h) | exact .refl | refine And.intro (by kernel_rfl) ?_ | refine And.intro ⟨fun h => h, fun h => h⟩ ?_ | refine Exists.intro false ?_ | (refine And.intro ?_ ?_; focus (simp; done)) | fail)
  all_goals (conv => whnf)
  · rw [List.length_map] at h
    have h : decide (200 < (l.length : Int)) = true := h
    rw [hd, h]
    exact .refl
  · rw [List.length_map] at h
    have h : decide (200 < (l.length : Int)) = false := h
    rw [h, Bool.not_false, Bool.true_and] at hd
    clear h
    subst hd
    refine ⟨Nat, fun i => ⟨[(0, .lst 6 (l.map edgE) false), (3, i64 i)], []⟩, fun i => i ≤ l.length ∧ ∀ j, j < i → okAtE l j = true, fun i => l.length - i, [], ⟨0, ⟨Nat.zero_le _, by omega⟩, ?_⟩, ?_⟩
    · conv => whnf
      exact ⟨⟨.refl, .refl, trivial⟩, trivial, by rfl⟩
    · intro i ⟨hi, hall⟩
      repeat' ((conv => whnf); first | refine And.intro (fun h => h) ?_ | refine dcond_t (by assumption) ?_ | refine dcond_f (by assumption) ?_ | (refine dcond_intro ?_ ?_ <;> intro h) | exact .refl | refine And.intro (by kernel_rfl) ?_ | refine And.intro ⟨fun h => h, fun h => h⟩ ?_ | refine Exists.intro false ?_ | (refine And.intro ?_ ?_; focus (simp; done)) | fail)
      · have hlt : i < l.length := by simpa using h
        clear h
        have hg : l.getD i zEdge = l[i] := by simp [hlt]
        have hok := okAt_bad l i
        rw [hg] at hok
        have e1 := c_r14_ValidRef l[i].fr
        have e2 := c_r14_ValidRef l[i].to
        have e5 := c_r14_Less (l.getD (i - 1) zEdge).fr l[i].fr
        have hix : ∀ c : Bool, (c && decide ((0 : Int) < (i : Int))) = true → IntKind.i64.wrap ((i : Int) - 1) = ((i - 1 : Nat) : Int) ∧ (l.map edgE)[i - 1]? = some (edgE (l.getD (i - 1) zEdge)) := fun c h => by
          rw [Bool.and_eq_true, decide_eq_true_eq] at h
          have : i - 1 < l.length := by omega
          refine ⟨by rw [wrap_i64 (by omega) (by omega)]; omega, ?_⟩
          simp [this]
        generalize refB l[i].fr = b1 at e1 hok
        generalize refB l[i].to = b2 at e2 hok
        generalize lessB (l.getD (i - 1) zEdge).fr l[i].fr = lb at e5 hok
        generalize l.getD (i - 1) zEdge = lp at e5 hix
        repeat' ((conv => whnf); first | refine And.intro (fun h => h) ?_ | refine dcond_t (by assumption) ?_ | refine dcond_f (by assumption) ?_ | (refine dcond_intro ?_ ?_ <;> intro h) | exact .refl | refine And.intro (by kernel_rfl) ?_ | refine And.intro ⟨fun h => h, fun h => h⟩ ?_ | refine ⟨_, _, And.intro ⟨rfl, get_map hlt⟩ ?_⟩ | refine .inl ⟨_, _, DleAll_refl _, e1, ?_⟩ | refine ⟨_, _, DleAll_refl _, fun _ => e1, ?_⟩ | refine ⟨_, _, DleAll_refl _, e1, ?_⟩ | refine .inl ⟨_, _, DleAll_refl _, e2, ?_⟩ | refine ⟨_, _, DleAll_refl _, fun _ => e2, ?_⟩ | refine ⟨_, _, DleAll_refl _, e2, ?_⟩ | refine ⟨i - 1, edgE lp, And.intro ⟨⟨fun h => h, fun h => h⟩, fun h => hix _ h⟩ ?_⟩ | refine ⟨i, edgE (l[i]'hlt), And.intro ⟨⟨fun h => h, fun h => h⟩, fun _ => ⟨rfl, get_map hlt⟩⟩ ?_⟩ | refine .inl ⟨_, _, DleAll_refl _, e5, ?_⟩ | refine ⟨_, _, DleAll_refl _, fun _ => e5, ?_⟩ | refine ⟨_, _, DleAll_refl _, e5, ?_⟩ | refine Exists.intro false ?_ | (refine And.intro ?_ ?_; focus (simp; done)) | fail)
        all_goals (conv => whnf)
        · rw [allB_false hlt (by rw [hok, h]; rfl)]
          exact .refl
        · refine ⟨i + 1, ⟨hlt, fun j hj => ?_⟩, by simp only []; omega, ?_⟩
          · rcases Nat.lt_succ_iff_lt_or_eq.1 hj with hj | rfl
            · exact hall j hj
            · rw [hok, h]
              rfl
          · conv => whnf
            exact ⟨⟨.refl, dle_int (wrap_succ (by omega)), trivial⟩, trivial, by rfl⟩
      · have hge : ¬ i < l.length := by simpa using h
        conv => whnf
        refine dle_bool ?_
        rw [allB_true.2 (fun j hj => hall j (by omega))]
end Go.Proofs.Ytbaapljlalgddaa

set_option linter.unusedSimpArgs false
set_option linter.unusedVariables false
set_option maxRecDepth 100000
namespace Go.Proofs.Ytbaapljlalgddaa
open Go.Lift
/-! the edge that leaves an actor -/
def leaveR (l : List Edge) (a : Ref) : Option Edge := l.find? fun e => refEq e.fr a
theorem leave_at {l : List Edge} {a : Ref} {i : Nat} (hi : i < l.length) (h : refEq l[i].fr a = true) (hn : ∀ j (hj : j < l.length), j < i → refEq l[j].fr a = false) : leaveR l a = some l[i] := by
  unfold leaveR
  rw [List.find?_eq_some_iff_getElem]
  exact ⟨h, i, hi, rfl, fun j hj => by simp [hn j (by omega) hj]⟩
theorem leave_none {l : List Edge} {a : Ref} (hn : ∀ j (hj : j < l.length), refEq l[j].fr a = false) : leaveR l a = none := by
  unfold leaveR
  rw [List.find?_eq_none]
  intro x hx
  obtain ⟨j, hj, rfl⟩ := List.getElem_of_mem hx
  simp [hn j hj]
theorem c_wait_leaving (l : List Edge) (hl : l.length ≤ maxLen) (a : Ref) : Ret Try.prog 31 [.lst 6 (l.map edgE) false, .agg (refE a)] (.tup [.agg (edgE ((leaveR l a).getD zEdge)), .v (.bool (leaveR l a).isSome)]) := by
  have hl' : l.length ≤ 9223372036854775807 := hl
  refine ret_of_body (fn := Try.f31) (c := Try.f31.body.getD .skip) hm hT (by kernel_rfl) Try.func31 (by kernel_rfl) (by kernel_rfl) (by kernel_rfl) (by kernel_rfl) ?_
  repeat' ((conv => whnf); first | refine And.intro (fun h => h) ?_ | refine dcond_t (by assumption) ?_ | refine dcond_f (by assumption) ?_ | (refine dcond_intro ?_ ?_ <;> intro h) | exact .refl | refine And.intro (by kernel_rfl) ?_ | refine And.intro ⟨fun h => h, fun h => h⟩ ?_ | refine Exists.intro false ?_ | (refine And.intro ?_ ?_; focus (simp; done)) | fail)
  all_goals (conv => whnf)
  refine ⟨Nat, fun i => ⟨[(3, .lp 0 0), (4, .lp 1 0), (8, .lst 6 (l.map edgE) false), (9, i64 l.length), (10, i64 i)], [.cells 24 (refE a), .cells 38 (edgE zEdge)]⟩, fun i => i ≤ l.length ∧ ∀ j (h : j < l.length), j < i → refEq l[j].fr a = false, fun i => l.length - i, [], ⟨0, ⟨Nat.zero_le _, by omega⟩, ?_⟩, ?_⟩
  · conv => whnf
    exact ⟨⟨.refl, .refl, .refl, dle_int (by simp), .refl, trivial⟩, ⟨.refl, .refl, trivial⟩, by rfl⟩
  · intro i ⟨hi, hall⟩
    repeat' ((conv => whnf); first | refine And.intro (fun h => h) ?_ | refine dcond_t (by assumption) ?_ | refine dcond_f (by assumption) ?_ | (refine dcond_intro ?_ ?_ <;> intro h) | exact .refl | refine And.intro (by kernel_rfl) ?_ | refine And.intro ⟨fun h => h, fun h => h⟩ ?_ | refine Exists.intro false ?_ | (refine And.intro ?_ ?_; focus (simp; done)) | fail)
    · have hlt : i < l.length := by simpa using h
      clear h
      have he : refEq l[i].fr a = (decide (l[i].fr.ty = a.ty) && (decide (l[i].fr.key = a.key) && true)) := rfl
      repeat' ((conv => whnf); first | refine And.intro (fun h => h) ?_ | refine dcond_t (by assumption) ?_ | refine dcond_f (by assumption) ?_ | (refine dcond_intro ?_ ?_ <;> intro h) | exact .refl | refine And.intro (by kernel_rfl) ?_ | refine And.intro ⟨fun h => h, fun h => h⟩ ?_ | refine ⟨_, _, And.intro ⟨rfl, get_map hlt⟩ ?_⟩ | refine Exists.intro false ?_ | (refine And.intro ?_ ?_; focus (simp; done)) | fail)
      all_goals (conv => whnf)
      · rw [leave_at hlt (he.trans h) hall]
        exact .refl
      · refine ⟨i + 1, ⟨hlt, fun j hj hji => ?_⟩, by simp only []; omega, ?_⟩
        · rcases Nat.lt_succ_iff_lt_or_eq.1 hji with hji | rfl
          · exact hall j hj hji
          · exact he.trans h
        · conv => whnf
          exact ⟨⟨.refl, .refl, .refl, .refl, dle_int (wrap_succ (by omega)), trivial⟩, ⟨.refl, .refl, trivial⟩, by rfl⟩
    · have hge : ¬ i < l.length := by simpa using h
      rw [leave_none (fun j hj => hall j hj (by omega))]
      repeat' ((conv => whnf); first | refine And.intro (fun h => h) ?_ | refine dcond_t (by assumption) ?_ | refine dcond_f (by assumption) ?_ | (refine dcond_intro ?_ ?_ <;> intro h) | exact .refl | refine And.intro (by kernel_rfl) ?_ | refine And.intro ⟨fun h => h, fun h => h⟩ ?_ | refine Exists.intro false ?_ | (refine And.intro ?_ ?_; focus (simp; done)) | fail)
def nextR (l : List Edge) (a : Ref) : Option Ref := bif validW l then (leaveR l a).map (·.to) else none
theorem c_wait_Next (l : List Edge) (hl : l.length ≤ maxLen) (a : Ref) : Ret Try.prog 20 [.lst 6 (l.map edgE) false, .agg (refE a)] (.tup [.agg (refE ((nextR l a).getD zRef)), .v (.bool (nextR l a).isSome)]) := by
  have e1 := c_wait_Valid l hl
  have e2 := c_wait_leaving l hl a
  have hd : nextR l a = bif validW l then (leaveR l a).map (·.to) else none := rfl
  generalize nextR l a = res at *
  generalize validW l = b at *
  cases hL : leaveR l a with
  | none =>
    rw [hL] at e2 hd
    have hd : res = none := by cases b <;> exact hd
    subst hd
    refine ret_of_body (fn := Try.f20) (c := Try.f20.body.getD .skip) hm hT (by kernel_rfl) Try.func20 (by kernel_rfl) (by kernel_rfl) (by kernel_rfl) (by kernel_rfl) ?_
    repeat' ((conv => whnf); first | refine And.intro (fun h => h) ?_ | refine dcond_t (by assumption) ?_ | refine dcond_f (by assumption) ?_ | (refine dcond_intro ?_ ?_ <;> intro h) | exact .refl | refine And.intro (by kernel_rfl) ?_ | refine And.intro ⟨fun h => h, fun h => h⟩ ?_ | refine .inl ⟨_, _, DleAll_refl _, e1, ?_⟩ | refine ⟨_, _, DleAll_refl _, fun _ => e1, ?_⟩ | refine ⟨_, _, DleAll_refl _, e1, ?_⟩ | refine .inl ⟨_, _, DleAll_refl _, e2, ?_⟩ | refine ⟨_, _, DleAll_refl _, fun _ => e2, ?_⟩ | refine ⟨_, _, DleAll_refl _, e2, ?_⟩ | refine Exists.intro false ?_ | (refine And.intro ?_ ?_; focus (simp; done)) | fail)
  | some e =>
    rw [hL] at e2 hd
    by_cases hb : b = true
    · rw [hb] at hd
      have hd : res = some e.to := hd
      subst hd
      refine ret_of_body (fn := Try.f20) (c := Try.f20.body.getD .skip) hm hT (by kernel_rfl) Try.func20 (by kernel_rfl) (by kernel_rfl) (by kernel_rfl) (by kernel_rfl) ?_
      repeat' ((conv => whnf); first | refine And.intro (fun h => h) ?_ | refine dcond_t (by assumption) ?_ | refine dcond_f (by assumption) ?_ | (refine dcond_intro ?_ ?_ <;> intro h) | exact .refl | refine And.intro (by kernel_rfl) ?_ | refine And.intro ⟨fun h => h, fun h => h⟩ ?_ | refine .inl ⟨_, _, DleAll_refl _, e1, ?_⟩ | refine ⟨_, _, DleAll_refl _, fun _ => e1, ?_⟩ | refine ⟨_, _, DleAll_refl _, e1, ?_⟩ | refine .inl ⟨_, _, DleAll_refl _, e2, ?_⟩ | refine ⟨_, _, DleAll_refl _, fun _ => e2, ?_⟩ | refine ⟨_, _, DleAll_refl _, e2, ?_⟩ | refine Exists.intro false ?_ | (refine And.intro ?_ ?_; focus (simp; done)) | fail)
      all_goals (conv => whnf)
      rw [hb] at h
      cases h
    · rw [Bool.not_eq_true] at hb
      rw [hb] at hd
      have hd : res = none := hd
      subst hd
      refine ret_of_body (fn := Try.f20) (c := Try.f20.body.getD .skip) hm hT (by kernel_rfl) Try.func20 (by kernel_rfl) (by kernel_rfl) (by kernel_rfl) (by kernel_rfl) ?_
      repeat' ((conv => whnf); first | refine And.intro (fun h => h) ?_ | refine dcond_t (by assumption) ?_ | refine dcond_f (by assumption) ?_ | (refine dcond_intro ?_ ?_ <;> intro h) | exact .refl | refine And.intro (by kernel_rfl) ?_ | refine And.intro ⟨fun h => h, fun h => h⟩ ?_ | refine .inl ⟨_, _, DleAll_refl _, e1, ?_⟩ | refine ⟨_, _, DleAll_refl _, fun _ => e1, ?_⟩ | refine ⟨_, _, DleAll_refl _, e1, ?_⟩ | refine .inl ⟨_, _, DleAll_refl _, e2, ?_⟩ | refine ⟨_, _, DleAll_refl _, fun _ => e2, ?_⟩ | refine ⟨_, _, DleAll_refl _, e2, ?_⟩ | refine Exists.intro false ?_ | (refine And.intro ?_ ?_; focus (simp; done)) | fail)
      all_goals (conv => whnf)
      rw [hb] at h
      cases h
/-! lists of names -/
def hasR (c : List Ref) (a : Ref) : Bool := c.any fun x => refEq x a
theorem has_iff {c : List Ref} {a : Ref} : hasR c a = true ↔ a ∈ c := by
  unfold hasR
  rw [List.any_eq_true]
  constructor
  · rintro ⟨x, hx, h⟩
    rw [← refEq_iff.1 h]
    exact hx
  · intro h
    exact ⟨a, h, refEq_refl a⟩
theorem has_false {c : List Ref} {a : Ref} : hasR c a = false ↔ a ∉ c := by
  rw [← has_iff]
  simp
theorem refEq_comm (a b : Ref) : refEq a b = refEq b a := by
  rw [Bool.eq_iff_iff, refEq_iff, refEq_iff]
  exact eq_comm
def idxRf (c : List Ref) (a : Ref) : Int := findB (fun i => refEq (c.getD i zRef) a) c.length
theorem idx_has (c : List Ref) (a : Ref) : decide (0 ≤ idxRf c a) = hasR c a := by
  unfold idxRf
  cases h : hasR c a with
  | true =>
    obtain ⟨i, hi, he⟩ := List.getElem_of_mem (has_iff.1 h)
    rcases hf : (List.range c.length).find? (fun i => refEq (c.getD i zRef) a) with _ | n
    · have := List.find?_eq_none.1 hf i (List.mem_range.2 hi)
      simp [hi, he, refEq_refl] at this
    · simp only [findB, hf]
      exact decide_eq_true (by omega)
  | false =>
    have hno : ∀ j, j < c.length → refEq (c.getD j zRef) a = false := fun j hj => by
      cases hq : refEq (c.getD j zRef) a with
      | false => rfl
      | true =>
        have : a ∈ c := by
          rw [← refEq_iff.1 hq]
          simp [hj]
        rw [has_iff.2 this] at h
        cases h
    rw [findB_none hno]
    decide
theorem c_slices_Index_ref (c : List Ref) (hl : c.length ≤ maxLen) (a : Ref) : Ret Try.prog 32 [.lst 2 (c.map refE) false, .agg (refE a)] (.v (.int .i64 (idxRf c a))) := by
  have hl' : c.length ≤ 9223372036854775807 := hl
  refine ret_of_body (fn := Try.f32) (c := Try.f32.body.getD .skip) hm hT (by kernel_rfl) Try.func32 (by kernel_rfl) (by kernel_rfl) (by kernel_rfl) (by kernel_rfl) ?_
  repeat' ((conv => whnf); first | refine And.intro (fun h => h) ?_ | refine dcond_t (by assumption) ?_ | refine dcond_f (by assumption) ?_ | (refine dcond_intro ?_ ?_ <;> intro h) | exact .refl | refine And.intro (by kernel_rfl) ?_ | refine And.intro ⟨fun h => h, fun h => h⟩ ?_ | refine Exists.intro false ?_ | (refine And.intro ?_ ?_; focus (simp; done)) | fail)
  all_goals (conv => whnf)
  refine ⟨Nat, fun i => ⟨[(0, .lst 2 (c.map refE) false), (3, .lp 0 0), (7, i64 c.length), (8, i64 i)], [.cells 24 (refE a)]⟩, fun i => i ≤ c.length ∧ ∀ j, j < i → refEq (c.getD j zRef) a = false, fun i => c.length - i, [], ⟨0, ⟨Nat.zero_le _, by omega⟩, ?_⟩, ?_⟩
  · conv => whnf
    exact ⟨⟨.refl, .refl, dle_int (by simp), .refl, trivial⟩, ⟨.refl, trivial⟩, by rfl⟩
  · intro i ⟨hi, hall⟩
    repeat' ((conv => whnf); first | refine And.intro (fun h => h) ?_ | refine dcond_t (by assumption) ?_ | refine dcond_f (by assumption) ?_ | (refine dcond_intro ?_ ?_ <;> intro h) | exact .refl | refine And.intro (by kernel_rfl) ?_ | refine And.intro ⟨fun h => h, fun h => h⟩ ?_ | refine Exists.intro false ?_ | (refine And.intro ?_ ?_; focus (simp; done)) | fail)
    · have hlt : i < c.length := by simpa using h
      clear h
      have hg : c.getD i zRef = c[i] := by simp [hlt]
      have he : refEq c[i] a = (decide (a.ty = c[i].ty) && (decide (a.key = c[i].key) && true)) := by
        rw [refEq_comm]
        rfl
      repeat' ((conv => whnf); first | refine And.intro (fun h => h) ?_ | refine dcond_t (by assumption) ?_ | refine dcond_f (by assumption) ?_ | (refine dcond_intro ?_ ?_ <;> intro h) | exact .refl | refine And.intro (by kernel_rfl) ?_ | refine And.intro ⟨fun h => h, fun h => h⟩ ?_ | refine ⟨_, _, And.intro ⟨rfl, get_map hlt⟩ ?_⟩ | refine Exists.intro false ?_ | (refine And.intro ?_ ?_; focus (simp; done)) | fail)
      all_goals (conv => whnf)
      · refine dle_int (findB_at hlt ?_ hall).symm
        rw [hg, he]
        exact h
      · refine ⟨i + 1, ⟨hlt, fun j hj => ?_⟩, by simp only []; omega, ?_⟩
        · rcases Nat.lt_succ_iff_lt_or_eq.1 hj with hj | rfl
          · exact hall j hj
          · rw [hg, he]
            exact h
        · conv => whnf
          exact ⟨⟨.refl, .refl, .refl, dle_int (wrap_succ (by omega)), trivial⟩, ⟨.refl, trivial⟩, by rfl⟩
    · have hge : ¬ i < c.length := by simpa using h
      conv => whnf
      refine dle_int (findB_none (fun j hj => hall j (by omega))).symm
theorem c_slices_Contains_ref (c : List Ref) (hl : c.length ≤ maxLen) (a : Ref) : Ret Try.prog 21 [.lst 2 (c.map refE) false, .agg (refE a)] (.v (.bool (hasR c a))) := by
  rw [← idx_has]
  refine ret_of_body (fn := Try.f21) (c := Try.f21.body.getD .skip) hm hT (by kernel_rfl) Try.func21 (by kernel_rfl) (by kernel_rfl) (by kernel_rfl) (by kernel_rfl) ?_
  repeat' ((conv => whnf); first | refine And.intro (fun h => h) ?_ | refine dcond_t (by assumption) ?_ | refine dcond_f (by assumption) ?_ | (refine dcond_intro ?_ ?_ <;> intro h) | exact .refl | refine And.intro (by kernel_rfl) ?_ | refine And.intro ⟨fun h => h, fun h => h⟩ ?_ | refine .inl ⟨_, _, DleAll_refl _, c_slices_Index_ref _ hl _, ?_⟩ | refine ⟨_, _, DleAll_refl _, fun _ => c_slices_Index_ref _ hl _, ?_⟩ | refine ⟨_, _, DleAll_refl _, c_slices_Index_ref _ hl _, ?_⟩ | refine Exists.intro false ?_ | (refine And.intro ?_ ?_; focus (simp; done)) | fail)
theorem c_r25_Has (c : List Ref) (hl : c.length ≤ maxLen) (a : Ref) : Ret Try.prog 14 [.lst 2 (c.map refE) false, .agg (refE a)] (.v (.bool (hasR c a))) := by
  have hl' : c.length ≤ 9223372036854775807 := hl
  refine ret_of_body (fn := Try.f14) (c := Try.f14.body.getD .skip) hm hT (by kernel_rfl) Try.func14 (by kernel_rfl) (by kernel_rfl) (by kernel_rfl) (by kernel_rfl) ?_
  repeat' ((conv => whnf); first | refine And.intro (fun h => h) ?_ | refine dcond_t (by assumption) ?_ | refine dcond_f (by assumption) ?_ | (refine dcond_intro ?_ ?_ <;> intro h) | exact .refl | refine And.intro (by kernel_rfl) ?_ | refine And.intro ⟨fun h => h, fun h => h⟩ ?_ | refine Exists.intro false ?_ | (refine And.intro ?_ ?_; focus (simp; done)) | fail)
  all_goals (conv => whnf)
  refine ⟨Nat, fun i => ⟨[(0, .lst 2 (c.map refE) false), (3, .lp 0 0), (5, i64 i)], [.cells 24 (refE a)]⟩, fun i => i ≤ c.length ∧ ∀ j (hj : j < c.length), j < i → refEq c[j] a = false, fun i => c.length - i, [], ⟨0, ⟨Nat.zero_le _, by omega⟩, ?_⟩, ?_⟩
  · conv => whnf
    exact ⟨⟨.refl, .refl, .refl, trivial⟩, ⟨.refl, trivial⟩, by rfl⟩
  · intro i ⟨hi, hall⟩
    repeat' ((conv => whnf); first | refine And.intro (fun h => h) ?_ | refine dcond_t (by assumption) ?_ | refine dcond_f (by assumption) ?_ | (refine dcond_intro ?_ ?_ <;> intro h) | exact .refl | refine And.intro (by kernel_rfl) ?_ | refine And.intro ⟨fun h => h, fun h => h⟩ ?_ | refine Exists.intro false ?_ | (refine And.intro ?_ ?_; focus (simp; done)) | fail)
    · have hlt : i < c.length := by simpa using h
      clear h
      have he : refEq c[i] a = (decide (c[i].ty = a.ty) && (decide (c[i].key = a.key) && true)) := rfl
      repeat' ((conv => whnf); first | refine And.intro (fun h => h) ?_ | refine dcond_t (by assumption) ?_ | refine dcond_f (by assumption) ?_ | (refine dcond_intro ?_ ?_ <;> intro h) | exact .refl | refine And.intro (by kernel_rfl) ?_ | refine And.intro ⟨fun h => h, fun h => h⟩ ?_ | refine ⟨_, _, And.intro ⟨rfl, get_map hlt⟩ ?_⟩ | refine Exists.intro false ?_ | (refine And.intro ?_ ?_; focus (simp; done)) | fail)
      all_goals (conv => whnf)
      · refine dle_bool (has_iff.2 ?_).symm
        rw [← refEq_iff.1 (he.trans h)]
        exact List.getElem_mem hlt
      · refine ⟨i + 1, ⟨hlt, fun j hj hji => ?_⟩, by simp only []; omega, ?_⟩
        · rcases Nat.lt_succ_iff_lt_or_eq.1 hji with hji | rfl
          · exact hall j hj hji
          · exact he.trans h
        · conv => whnf
          exact ⟨⟨.refl, .refl, dle_int (wrap_succ (by omega)), trivial⟩, ⟨.refl, trivial⟩, by rfl⟩
    · have hge : ¬ i < c.length := by simpa using h
      conv => whnf
      refine dle_bool (has_false.2 (fun hm => ?_)).symm
      obtain ⟨j, hj, he⟩ := List.getElem_of_mem hm
      have := hall j hj (by omega)
      rw [he, refEq_refl] at this
      cases this
def eqR (a b : List Ref) : Bool := decide ((a.length : Int) = (b.length : Int)) && allB (fun i => refEq (a.getD i zRef) (b.getD i zRef)) a.length
theorem eqR_iff {a b : List Ref} : eqR a b = true ↔ a = b := by
  constructor
  · intro h
    simp only [eqR, Bool.and_eq_true, decide_eq_true_eq, allB_true] at h
    refine List.ext_getElem (by omega) fun i h1 h2 => ?_
    have := refEq_iff.1 (h.2 i h1)
    simpa [h1, h2] using this
  · rintro rfl
    simp only [eqR, decide_true, Bool.true_and]
    exact allB_true.2 (fun j _ => refEq_refl _)
theorem c_slices_Equal_ref (a b : List Ref) (ha : a.length ≤ maxLen) : Ret Try.prog 30 [.lst 2 (a.map refE) false, .lst 2 (b.map refE) false] (.v (.bool (eqR a b))) := by
  have hl' : a.length ≤ 9223372036854775807 := ha
  refine ret_of_body (fn := Try.f30) (c := Try.f30.body.getD .skip) hm hT (by kernel_rfl) Try.func30 (by kernel_rfl) (by kernel_rfl) (by kernel_rfl) (by kernel_rfl) ?_
  repeat' ((conv => whnf); first | refine And.intro (fun h => h) ?_ | refine dcond_t (by assumption) ?_ | refine dcond_f (by assumption) ?_ | (refine dcond_intro ?_ ?_ <;> intro h) | exact .refl | refine And.intro (by kernel_rfl) ?_ | refine And.intro ⟨fun h => h, fun h => h⟩ ?_ | refine Exists.intro false ?_ | (refine And.intro ?_ ?_; focus (simp; done)) | fail)
  · refine dle_bool ?_
    simp only [List.length_map] at h
    have h : decide ((a.length : Int) = (b.length : Int)) = false := by simpa using h
    simp only [eqR, h, Bool.false_and]
  · have h0 : a.length = b.length := by
      simp at h
      omega
    clear h
    conv => whnf
    refine ⟨Nat, fun i => ⟨[(0, .lst 2 (a.map refE) false), (1, .lst 2 (b.map refE) false), (12, i64 (a.map refE).length), (13, i64 i)], []⟩, fun i => i ≤ a.length ∧ ∀ j, j < i → refEq (a.getD j zRef) (b.getD j zRef) = true, fun i => a.length - i, [], ⟨0, ⟨Nat.zero_le _, by omega⟩, ?_⟩, ?_⟩
    · exact ⟨by repeat' ((conv => whnf); first | exact trivial | refine And.intro (by (conv => arg 1; whnf); first | (with_reducible exact .refl) | exact dle_int (wrap_succ (by omega)) | exact .refl) ?_), by repeat' ((conv => whnf); first | exact trivial | refine And.intro ?_ ?_ | exact .refl), rfl⟩
    · intro i ⟨hi, hall⟩
      repeat' ((conv => whnf); first | refine And.intro (fun h => h) ?_ | refine dcond_t (by assumption) ?_ | refine dcond_f (by assumption) ?_ | (refine dcond_intro ?_ ?_ <;> intro h) | exact .refl | refine And.intro (by kernel_rfl) ?_ | refine And.intro ⟨fun h => h, fun h => h⟩ ?_ | refine Exists.intro false ?_ | (refine And.intro ?_ ?_; focus (simp; done)) | fail)
      · have hlt : i < a.length := by simpa using h
        have hlt2 : i < b.length := by omega
        clear h
        have hg : a.getD i zRef = a[i] := by simp [hlt]
        have hg2 : b.getD i zRef = b[i] := by simp [hlt2]
        repeat' ((conv => whnf); first | refine And.intro (fun h => h) ?_ | refine dcond_t (by assumption) ?_ | refine dcond_f (by assumption) ?_ | (refine dcond_intro ?_ ?_ <;> intro h) | exact .refl | refine And.intro (by kernel_rfl) ?_ | refine And.intro ⟨fun h => h, fun h => h⟩ ?_ | refine ⟨_, _, And.intro ⟨rfl, get_map hlt⟩ ?_⟩ | refine ⟨_, _, And.intro ⟨rfl, get_map hlt2⟩ ?_⟩ | refine Exists.intro false ?_ | (refine And.intro ?_ ?_; focus (simp; done)) | fail)
        · refine dle_bool ?_
          have h : (!refEq a[i] b[i]) = true := h
          rw [eqR, allB_false hlt (i := i), Bool.and_false]
          rw [hg, hg2]
          simpa using h
        · conv => whnf
          refine ⟨i + 1, ⟨hlt, fun j hj => ?_⟩, by simp only []; omega, ?_⟩
          · rcases Nat.lt_succ_iff_lt_or_eq.1 hj with hj | rfl
            · exact hall j hj
            · have h : (!refEq a[j] b[j]) = false := h
              rw [hg, hg2]
              simpa using h
          · exact ⟨by repeat' ((conv => whnf); first | exact trivial | refine And.intro (by (conv => arg 1; whnf); first | (with_reducible exact .refl) | exact dle_int (wrap_succ (by omega)) | exact .refl) ?_), by repeat' ((conv => whnf); first | exact trivial | refine And.intro ?_ ?_ | exact .refl), rfl⟩
      · have hge : ¬ i < a.length := by simpa using h
        conv => whnf
        refine dle_bool ?_
        rw [eqR, allB_true.2 (fun j hj => hall j (by omega)), h0]
        simp
end Go.Proofs.Ytbaapljlalgddaa

set_option linter.unusedSimpArgs false
set_option linter.unusedVariables false
set_option maxRecDepth 100000
namespace Go.Proofs.Ytbaapljlalgddaa
open Go.Lift
theorem nodup_len {α : Type} [DecidableEq α] : ∀ {a b : List α}, a.Nodup → (∀ x ∈ a, x ∈ b) → a.length ≤ b.length
  | [], _, _, _ => Nat.zero_le _
  | x :: a, b, hn, hs => by
    rw [List.nodup_cons] at hn
    have hx := hs x (List.mem_cons_self ..)
    have := nodup_len (b := b.erase x) hn.2 (fun y hy => (List.mem_erase_of_ne (fun e => hn.1 (by rw [← e]; exact hy))).2 (hs y (List.mem_cons_of_mem _ hy)))
    rw [List.length_erase_of_mem hx] at this
    have := List.length_pos_of_mem hx
    simp only [List.length_cons]
    omega
/-! what is reached -/
def goR (l : List Edge) : Nat → List Ref → Edge → Bool → List Ref
  | 0, out, _, _ => out
  | n + 1, out, e, b => bif b && !hasR out e.to then goR l n (out ++ [e.to]) ((leaveR l e.to).getD zEdge) (leaveR l e.to).isSome else out
def reachR (l : List Edge) (a : Ref) : List Ref := bif validW l then goR l (l.length + 1) [] ((leaveR l a).getD zEdge) (leaveR l a).isSome else []
theorem leave_mem {l : List Edge} {a : Ref} (h : (leaveR l a).isSome = true) : (leaveR l a).getD zEdge ∈ l ∧ ((leaveR l a).getD zEdge).fr = a := by
  unfold leaveR at *
  cases hf : l.find? (fun e => refEq e.fr a) with
  | none => rw [hf] at h; cases h
  | some e =>
    have h1 := List.mem_of_find?_eq_some hf
    have h2 := List.find?_some hf
    exact ⟨h1, refEq_iff.1 h2⟩
structure InvG (l : List Edge) (out : List Ref) (e : Edge) (b : Bool) : Prop where
  nd : out.Nodup
  sub : ∀ x ∈ out, x ∈ l.map (·.to)
  mem : b = true → e ∈ l
theorem InvG.len {l : List Edge} {out : List Ref} {e : Edge} {b : Bool} (h : InvG l out e b) : out.length ≤ l.length := by
  have := nodup_len h.nd h.sub
  simpa using this
theorem InvG.step {l : List Edge} {out : List Ref} {e : Edge} {b : Bool} (h : InvG l out e b) (hb : (b && !hasR out e.to) = true) : InvG l (out ++ [e.to]) ((leaveR l e.to).getD zEdge) (leaveR l e.to).isSome ∧ out.length + 1 ≤ l.length := by
  simp only [Bool.and_eq_true, Bool.not_eq_true'] at hb
  have hn := has_false.1 hb.2
  have h1 : InvG l (out ++ [e.to]) ((leaveR l e.to).getD zEdge) (leaveR l e.to).isSome := by
    refine ⟨?_, fun x hx => ?_, fun hs => (leave_mem hs).1⟩
    · rw [List.nodup_append]
      refine ⟨h.nd, by simp, fun x hx y hy hxy => ?_⟩
      simp at hy
      subst hy
      subst hxy
      exact hn hx
    · rw [List.mem_append, List.mem_singleton] at hx
      rcases hx with hx | rfl
      · exact h.sub x hx
      · exact List.mem_map.2 ⟨e, h.mem hb.1, rfl⟩
  have := h1.len
  simp at this
  exact ⟨h1, this⟩
theorem go_len (l : List Edge) : ∀ (n : Nat) (out : List Ref) (e : Edge) (b : Bool), InvG l out e b → (goR l n out e b).length ≤ l.length ∧ (goR l n out e b).Nodup
  | 0, out, e, b, h => ⟨h.len, h.nd⟩
  | n + 1, out, e, b, h => by
    rw [goR]
    cases hb : (b && !hasR out e.to) with
    | false => exact ⟨h.len, h.nd⟩
    | true => exact go_len l n _ _ _ (h.step hb).1
theorem inv0 (l : List Edge) (a : Ref) : InvG l [] ((leaveR l a).getD zEdge) (leaveR l a).isSome := ⟨List.nodup_nil, fun x hx => (by cases hx), fun h => (leave_mem h).1⟩
theorem reach_len (l : List Edge) (a : Ref) : (reachR l a).length ≤ l.length := by
  unfold reachR
  cases validW l with
  | false => exact Nat.zero_le _
  | true => exact (go_len l _ _ _ _ (inv0 l a)).1
theorem c_wait_Reach (l : List Edge) (hl : l.length ≤ 200000) (a : Ref) : Ret Try.prog 18 [.lst 6 (l.map edgE) false, .agg (refE a)] (.lst 2 ((reachR l a).map refE) false) := by
  have hlm : l.length ≤ maxLen := by
    simp only [maxLen]
    omega
  have e1 := c_wait_Valid l hlm
  have e2 := c_wait_leaving l hlm
  have hd : reachR l a = bif validW l then goR l (l.length + 1) [] ((leaveR l a).getD zEdge) (leaveR l a).isSome else [] := rfl
  have hI := inv0 l a
  generalize reachR l a = R at *
  generalize validW l = vb at *
  have e20 := e2 a
  generalize (leaveR l a).getD zEdge = E0 at *
  generalize (leaveR l a).isSome = B0 at *
  refine ret_of_body (fn := Try.f18) (c := Try.f18.body.getD .skip) hm hT (by kernel_rfl) Try.func18 (by kernel_rfl) (by kernel_rfl) (by kernel_rfl) (by kernel_rfl) ?_
  repeat' ((conv => whnf); first | refine And.intro (fun h => h) ?_ | refine dcond_t (by assumption) ?_ | refine dcond_f (by assumption) ?_ | (refine dcond_intro ?_ ?_ <;> intro h) | exact .refl | refine And.intro (by kernel_rfl) ?_ | refine And.intro ⟨fun h => h, fun h => h⟩ ?_ | refine .inl ⟨_, _, DleAll_refl _, e1, ?_⟩ | refine ⟨_, _, DleAll_refl _, fun _ => e1, ?_⟩ | refine ⟨_, _, DleAll_refl _, e1, ?_⟩ | refine .inl ⟨_, _, DleAll_refl _, e20, ?_⟩ | refine ⟨_, _, DleAll_refl _, fun _ => e20, ?_⟩ | refine ⟨_, _, DleAll_refl _, e20, ?_⟩ | refine Exists.intro false ?_ | (refine And.intro ?_ ?_; focus (simp; done)) | fail)
  all_goals (conv => whnf)
  · simp at h
    subst h
    have hd : R = [] := hd
    subst hd
    exact .nl
  · simp at h
    subst h
    have hd : R = goR l (l.length + 1) [] E0 B0 := hd
    refine ⟨List Ref × Edge × Bool, fun y => ⟨[(0, .lst 6 (l.map edgE) false), (5, .own 2), (6, .lp 1 0), (7, .v (.bool y.2.2))], [.cells 24 (refE a), .cells 38 (edgE y.2.1), .row 24 2 (y.1.map refE)]⟩, fun y => InvG l y.1 y.2.1 y.2.2 ∧ R = goR l (l.length + 1 - y.1.length) y.1 y.2.1 y.2.2, fun y => l.length + 1 - y.1.length, [.slot 5 24 2, .swap 1 4], ⟨([], E0, B0), ⟨hI, hd⟩, ?_⟩, ?_⟩
    · conv => whnf
      exact ⟨⟨.refl, .refl, .refl, .refl, trivial⟩, ⟨.refl, .refl, .refl, trivial⟩, by rfl⟩
    · intro ⟨out, E, B⟩ ⟨hG, hR⟩
      simp only at hG hR
      have hol := hG.len
      have eC := c_slices_Contains_ref out (by omega) E.to
      have e3 := e2 E.to
      have hst := hG.step
      obtain ⟨n, hn⟩ : ∃ n, l.length + 1 - out.length = n + 1 := ⟨l.length - out.length, by omega⟩
      rw [hn, goR] at hR
      generalize hasR out E.to = hb at *
      generalize (leaveR l E.to).getD zEdge = E2 at *
      generalize (leaveR l E.to).isSome = B2 at *
      repeat' ((conv => whnf); first | refine And.intro (fun h => h) ?_ | refine dcond_t (by assumption) ?_ | refine dcond_f (by assumption) ?_ | (refine dcond_intro ?_ ?_ <;> intro h) | exact .refl | refine And.intro (by kernel_rfl) ?_ | refine And.intro ⟨fun h => h, fun h => h⟩ ?_ | refine .inl ⟨_, _, DleAll_refl _, eC, ?_⟩ | refine ⟨_, _, DleAll_refl _, fun _ => eC, ?_⟩ | refine ⟨_, _, DleAll_refl _, eC, ?_⟩ | refine Exists.intro false ?_ | (refine And.intro ?_ ?_; focus (simp; done)) | fail)
      all_goals (conv => whnf)
      · have hq := hst h
        have h : (B && !hb) = true := h
        rw [h] at hR
        have hR : R = goR l n (out ++ [E.to]) E2 B2 := hR
        repeat' ((conv => whnf); first | refine And.intro (fun h => h) ?_ | refine dcond_t (by assumption) ?_ | refine dcond_f (by assumption) ?_ | (refine dcond_intro ?_ ?_ <;> intro h) | exact .refl | refine And.intro (by kernel_rfl) ?_ | refine And.intro ⟨fun h => h, fun h => h⟩ ?_ | refine .inl ⟨_, _, DleAll_refl _, e3, ?_⟩ | refine ⟨_, _, DleAll_refl _, fun _ => e3, ?_⟩ | refine ⟨_, _, DleAll_refl _, e3, ?_⟩ | refine And.intro (fitsR (by simp <;> omega)) ?_ | refine Exists.intro false ?_ | (refine And.intro ?_ ?_; focus (simp; done)) | fail)
        all_goals (conv => whnf)
        refine ⟨(out ++ [E.to], E2, B2), ⟨hq.1, ?_⟩, ?_, ?_⟩
        · simp only [List.length_append, List.length_singleton]
          rw [show l.length + 1 - (out.length + 1) = n by omega]
          exact hR
        · simp only [List.length_append, List.length_singleton]
          omega
        · conv => whnf
          refine ⟨⟨.refl, .refl, .refl, .refl, trivial⟩, ⟨ole_cells rfl, ole_cells rfl, ole_row ?_, trivial⟩, by rfl⟩
          rw [List.map_append]
          rfl
      · have h : (B && !hb) = false := h
        rw [h] at hR
        have hR : R = out := hR
        subst hR
        repeat' ((conv => whnf); first | refine And.intro (fun h => h) ?_ | refine dcond_t (by assumption) ?_ | refine dcond_f (by assumption) ?_ | (refine dcond_intro ?_ ?_ <;> intro h) | exact .refl | refine And.intro (by kernel_rfl) ?_ | refine And.intro ⟨fun h => h, fun h => h⟩ ?_ | refine Exists.intro false ?_ | (refine And.intro ?_ ?_; focus (simp; done)) | fail)
theorem c_wait_OnCycle (l : List Edge) (hl : l.length ≤ 200000) (a : Ref) : Ret Try.prog 12 [.lst 6 (l.map edgE) false, .agg (refE a)] (.v (.bool (hasR (reachR l a) a))) := by
  have hr := reach_len l a
  have e1 := c_wait_Reach l hl a
  have e2 := c_slices_Contains_ref (reachR l a) (by simp only [maxLen]; omega) a
  generalize hasR (reachR l a) a = b at *
  generalize reachR l a = R at *
  refine ret_of_body (fn := Try.f12) (c := Try.f12.body.getD .skip) hm hT (by kernel_rfl) Try.func12 (by kernel_rfl) (by kernel_rfl) (by kernel_rfl) (by kernel_rfl) ?_
  repeat' ((conv => whnf); first | refine And.intro (fun h => h) ?_ | refine dcond_t (by assumption) ?_ | refine dcond_f (by assumption) ?_ | (refine dcond_intro ?_ ?_ <;> intro h) | exact .refl | refine And.intro (by kernel_rfl) ?_ | refine And.intro ⟨fun h => h, fun h => h⟩ ?_ | refine .inl ⟨_, _, DleAll_refl _, e1, ?_⟩ | refine ⟨_, _, DleAll_refl _, fun _ => e1, ?_⟩ | refine ⟨_, _, DleAll_refl _, e1, ?_⟩ | refine .inl ⟨_, _, DleAll_refl _, e2, ?_⟩ | refine ⟨_, _, DleAll_refl _, fun _ => e2, ?_⟩ | refine ⟨_, _, DleAll_refl _, e2, ?_⟩ | refine Exists.intro false ?_ | (refine And.intro ?_ ?_; focus (simp; done)) | fail)
theorem c_wait_Begin (a : Ref) : Ret Try.prog 10 [.agg (refE a)] (.agg (prbE ⟨a, a, 0⟩)) := by
  refine ret_of_body (fn := Try.f10) (c := Try.f10.body.getD .skip) hm hT (by kernel_rfl) Try.func10 (by kernel_rfl) (by kernel_rfl) (by kernel_rfl) (by kernel_rfl) ?_
  repeat' ((conv => whnf); first | refine And.intro (fun h => h) ?_ | refine dcond_t (by assumption) ?_ | refine dcond_f (by assumption) ?_ | (refine dcond_intro ?_ ?_ <;> intro h) | exact .refl | refine And.intro (by kernel_rfl) ?_ | refine And.intro ⟨fun h => h, fun h => h⟩ ?_ | refine Exists.intro false ?_ | (refine And.intro ?_ ?_; focus (simp; done)) | fail)
def stepR (l : List Edge) (p : Prb) : Prb × Bool × Bool :=
  bif (!refB p.st || !refB p.at' || decide (p.n < 0) || decide (200 ≤ p.n)) || !(nextR l p.at').isSome then (zPrb, false, false)
  else (⟨p.st, (nextR l p.at').getD zRef, IntKind.i64.wrap (p.n + 1)⟩, refEq ((nextR l p.at').getD zRef) p.st, true)
theorem c_wait_Step (l : List Edge) (hl : l.length ≤ maxLen) (p : Prb) : Ret Try.prog 11 [.lst 6 (l.map edgE) false, .agg (prbE p)] (.tup [.agg (prbE (stepR l p).1), .v (.bool (stepR l p).2.1), .v (.bool (stepR l p).2.2)]) := by
  have e1 := c_dir_ValidRef p.st
  have e2 := c_dir_ValidRef p.at'
  have e3 := c_wait_Next l hl p.at'
  have hd : stepR l p = bif (!refB p.st || !refB p.at' || decide (p.n < 0) || decide (200 ≤ p.n)) || !(nextR l p.at').isSome then (zPrb, false, false)
  else (⟨p.st, (nextR l p.at').getD zRef, IntKind.i64.wrap (p.n + 1)⟩, refEq ((nextR l p.at').getD zRef) p.st, true) := rfl
  generalize stepR l p = S at *
  generalize refB p.st = b1 at *
  generalize refB p.at' = b2 at *
  generalize (nextR l p.at').getD zRef = T at *
  generalize (nextR l p.at').isSome = b3 at *
  refine ret_of_body (fn := Try.f11) (c := Try.f11.body.getD .skip) hm hT (by kernel_rfl) Try.func11 (by kernel_rfl) (by kernel_rfl) (by kernel_rfl) (by kernel_rfl) ?_
  repeat' ((conv => whnf); first | refine And.intro (fun h => h) ?_ | refine dcond_t (by assumption) ?_ | refine dcond_f (by assumption) ?_ | (refine dcond_intro ?_ ?_ <;> intro h) | exact .refl | refine And.intro (by kernel_rfl) ?_ | refine And.intro ⟨fun h => h, fun h => h⟩ ?_ | refine .inl ⟨_, _, DleAll_refl _, e1, ?_⟩ | refine ⟨_, _, DleAll_refl _, fun _ => e1, ?_⟩ | refine ⟨_, _, DleAll_refl _, e1, ?_⟩ | refine .inl ⟨_, _, DleAll_refl _, e2, ?_⟩ | refine ⟨_, _, DleAll_refl _, fun _ => e2, ?_⟩ | refine ⟨_, _, DleAll_refl _, e2, ?_⟩ | refine .inl ⟨_, _, DleAll_refl _, e3, ?_⟩ | refine ⟨_, _, DleAll_refl _, fun _ => e3, ?_⟩ | refine ⟨_, _, DleAll_refl _, e3, ?_⟩ | refine Exists.intro false ?_ | (refine And.intro ?_ ?_; focus (simp; done)) | fail)
  all_goals (conv => whnf)
  · rw [h, Bool.true_or] at hd
    have hd : S = (zPrb, false, false) := hd
    subst hd
    exact .refl
  · rename_i h0
    rw [h0, h] at hd
    have hd : S = (zPrb, false, false) := hd
    subst hd
    exact .refl
  · rename_i h0
    rw [h0, h] at hd
    have hd : S = (⟨p.st, T, IntKind.i64.wrap (p.n + 1)⟩, refEq T p.st, true) := hd
    subst hd
    exact .refl
def bigW (e : Edge) : Bool := decide (100 < (e.fr.ty.size : Int)) || decide (100 < (e.fr.key.size : Int)) || decide (100 < (e.to.ty.size : Int)) || decide (100 < (e.to.key.size : Int))
def smallW (l : List Edge) : Bool := allB (fun i => !bigW (l.getD i zEdge)) l.length && decide ((l.length : Int) ≤ 230)
theorem c_law25_Small (l : List Edge) (hl : l.length ≤ maxLen) : Ret Try.prog 7 [.lst 6 (l.map edgE) false] (.v (.bool (smallW l))) := by
  have hl' : l.length ≤ 9223372036854775807 := hl
  refine ret_of_body (fn := Try.f7) (c := Try.f7.body.getD .skip) hm hT (by kernel_rfl) Try.func7 (by kernel_rfl) (by kernel_rfl) (by kernel_rfl) (by kernel_rfl) ?_
  repeat' ((conv => whnf); first | refine And.intro (fun h => h) ?_ | refine dcond_t (by assumption) ?_ | refine dcond_f (by assumption) ?_ | (refine dcond_intro ?_ ?_ <;> intro h) | exact .refl | refine And.intro (by kernel_rfl) ?_ | refine And.intro ⟨fun h => h, fun h => h⟩ ?_ | refine Exists.intro false ?_ | (refine And.intro ?_ ?_; focus (simp; done)) | fail)
  all_goals (conv => whnf)
  refine ⟨Nat, fun i => ⟨[(0, .lst 6 (l.map edgE) false), (3, i64 i)], []⟩, fun i => i ≤ l.length ∧ ∀ j, j < i → (!bigW (l.getD j zEdge)) = true, fun i => l.length - i, [], ⟨0, ⟨Nat.zero_le _, by omega⟩, ?_⟩, ?_⟩
  · exact ⟨by repeat' ((conv => whnf); first | exact trivial | refine And.intro (by (conv => arg 1; whnf); first | (with_reducible exact .refl) | exact dle_int (wrap_succ (by omega)) | exact .refl) ?_), by repeat' ((conv => whnf); first | exact trivial | refine And.intro ?_ ?_ | exact .refl), rfl⟩
  · intro i ⟨hi, hall⟩
    repeat' ((conv => whnf); first | refine And.intro (fun h => h) ?_ | refine dcond_t (by assumption) ?_ | refine dcond_f (by assumption) ?_ | (refine dcond_intro ?_ ?_ <;> intro h) | exact .refl | refine And.intro (by kernel_rfl) ?_ | refine And.intro ⟨fun h => h, fun h => h⟩ ?_ | refine Exists.intro false ?_ | (refine And.intro ?_ ?_; focus (simp; done)) | fail)
    · have hlt : i < l.length := by simpa using h
      clear h
      have hg : l.getD i zEdge = l[i] := by simp [hlt]
      repeat' ((conv => whnf); first | refine And.intro (fun h => h) ?_ | refine dcond_t (by assumption) ?_ | refine dcond_f (by assumption) ?_ | (refine dcond_intro ?_ ?_ <;> intro h) | exact .refl | refine And.intro (by kernel_rfl) ?_ | refine And.intro ⟨fun h => h, fun h => h⟩ ?_ | refine ⟨_, _, And.intro ⟨rfl, get_map hlt⟩ ?_⟩ | refine ⟨i, edgE (l[i]'hlt), And.intro ⟨⟨fun h => h, fun h => h⟩, fun hg => ⟨rfl, get_map hlt⟩⟩ ?_⟩ | refine Exists.intro false ?_ | (refine And.intro ?_ ?_; focus (simp; done)) | fail)
      all_goals (conv => whnf)
      · refine dle_bool ?_
        have : (!bigW (l.getD i zEdge)) = false := by simp only [bigW, hg, h]; rfl
        rw [smallW, allB_false (p := fun i => !bigW (l.getD i zEdge)) hlt this, Bool.false_and]
      · refine ⟨i + 1, ⟨hlt, fun j hj => ?_⟩, by simp only []; omega, ?_⟩
        · rcases Nat.lt_succ_iff_lt_or_eq.1 hj with hj | rfl
          · exact hall j hj
          · simp only [bigW, hg, h]; rfl
        · exact ⟨by repeat' ((conv => whnf); first | exact trivial | refine And.intro (by (conv => arg 1; whnf); first | (with_reducible exact .refl) | exact dle_int (wrap_succ (by omega)) | exact .refl) ?_), by repeat' ((conv => whnf); first | exact trivial | refine And.intro ?_ ?_ | exact .refl), rfl⟩
    · have hge : ¬ i < l.length := by simpa using h
      conv => whnf
      refine dle_bool ?_
      rw [smallW, allB_true.2 (fun j hj => hall j (by omega)), List.length_map]
      rfl
end Go.Proofs.Ytbaapljlalgddaa

set_option linter.unusedSimpArgs false
set_option linter.unusedVariables false
set_option maxRecDepth 100000
namespace Go.Proofs.Ytbaapljlalgddaa
open Go.Lift
open Go.Sort (SWO)
/-- a sorted list of a strict weak order -/
def sortL {β : Type} (cf : β → β → Int) (l : List β) : List β := l.mergeSort fun x y => !Go.Proofs.ltOf cf y x
theorem sortL_perm {β : Type} (cf : β → β → Int) (l : List β) : (sortL cf l).Perm l := List.mergeSort_perm _ _
theorem sortL_sorted {β : Type} {cf : β → β → Int} (hO : SWO (Go.Proofs.ltOf cf)) (l : List β) : (sortL cf l).Pairwise fun x y => Go.Proofs.ltOf cf y x = false := by
  have h := List.pairwise_mergeSort (le := fun x y => !Go.Proofs.ltOf cf y x) (fun a b c h1 h2 => by
    simp only [Bool.not_eq_true'] at *
    exact hO.ntrans _ _ _ h2 h1) (fun a b => by
    cases h : Go.Proofs.ltOf cf b a
    · simp
    · cases h2 : Go.Proofs.ltOf cf a b
      · simp
      · have := hO.trans _ _ _ h h2
        rw [hO.irrefl] at this
        cases this) l
  exact h.imp fun h => by simpa using h
theorem sortL_mem {β : Type} {cf : β → β → Int} {l : List β} {x : β} : x ∈ sortL cf l ↔ x ∈ l := (sortL_perm cf l).mem_iff
theorem sortL_len {β : Type} (cf : β → β → Int) (l : List β) : (sortL cf l).length = l.length := (sortL_perm cf l).length_eq
theorem sorted_eq {β : Type} {cf : β → β → Int} (hanti : ∀ x y, Go.Proofs.ltOf cf x y = false → Go.Proofs.ltOf cf y x = false → x = y) {l l' : List β} (hp : l.Perm l') (h1 : l.Pairwise fun x y => Go.Proofs.ltOf cf y x = false) (h2 : l'.Pairwise fun x y => Go.Proofs.ltOf cf y x = false) : l = l' :=
  List.Perm.eq_of_pairwise (le := fun x y => Go.Proofs.ltOf cf y x = false) (fun a b _ _ h1 h2 => hanti a b h2 h1) h1 h2 hp
end Go.Proofs.Ytbaapljlalgddaa

/-
  DERIVED: THE SHELF's CONTRACTS AT THIS DUMP, IN PLAIN WORDS (tools/lay-plain.mjs out of 'YtbaapljlalgddaaShelf.lean', which tools/lay-shelf.mjs wrote): THE SAME DECLARATIONS UNDER THE SAME NAMES: 'import', 'namespace', 'open', 'def', 'theorem' AND NOTHING ELSE: no command of the shelf's: FOR A HAND-IN. Each laying: the table of numbers ('.._ren') and one theorem, a field a fact of the dump's own or the kernel's comparison; each contract: ONE APPLICATION.
-/
namespace Go.Proofs
open Go.Shelf
def Try.sortTok_ren : Go.Shelf.Ren := ⟨fun | 6 => 26 | 15 => 34 | 14 => 33 | 28 => 44 | 29 => 45 | 20 => 36 | 21 => 37 | 22 => 38 | 23 => 39 | 24 => 40 | 25 => 41 | 26 => 42 | 27 => 43 | 46 => 46 | 47 => 47 | 48 => 48 | 49 => 49 | 50 => 50 | 57 => 51 | n => n, fun | 22 => 39 | 24 => 34 | 25 => 49 | 3 => 3 | 39 => 58 | 0 => 0 | 53 => 69 | 55 => 71 | 4 => 4 | 46 => 62 | 45 => 61 | 50 => 66 | 5 => 5 | 9 => 9 | 66 => 72 | 70 => 76 | 76 => 78 | 77 => 79 | n => n, fun | n => n⟩
theorem Try.sortTok : Go.Proofs.SlLaysF.n6 Try.prog Try.sortTok_ren := {
  mixed := by kernel_rfl
  f6 := ⟨Try.f26.name, by decide, Try.func26.trans (congrArg some (by kernel_rfl))⟩
  f14 := ⟨Try.f33.name, by decide, Try.func33.trans (congrArg some (by kernel_rfl))⟩
  f15 := Try.func34.trans (congrArg some (by kernel_rfl))
  f20 := ⟨Try.f36.name, by decide, Try.func36.trans (congrArg some (by kernel_rfl))⟩
  f21 := ⟨Try.f37.name, by decide, Try.func37.trans (congrArg some (by kernel_rfl))⟩
  f22 := ⟨Try.f38.name, by decide, Try.func38.trans (congrArg some (by kernel_rfl))⟩
  f23 := ⟨Try.f39.name, by decide, Try.func39.trans (congrArg some (by kernel_rfl))⟩
  f24 := ⟨Try.f40.name, by decide, Try.func40.trans (congrArg some (by kernel_rfl))⟩
  f25 := ⟨Try.f41.name, by decide, Try.func41.trans (congrArg some (by kernel_rfl))⟩
  f26 := ⟨Try.f42.name, by decide, Try.func42.trans (congrArg some (by kernel_rfl))⟩
  f27 := ⟨Try.f43.name, by decide, Try.func43.trans (congrArg some (by kernel_rfl))⟩
  f28 := Try.func44.trans (congrArg some (by kernel_rfl))
  f29 := Try.func45.trans (congrArg some (by kernel_rfl))
  f46 := ⟨Try.f46.name, by decide, Try.func46.trans (congrArg some (by kernel_rfl))⟩
  f47 := Try.func47.trans (congrArg some (by kernel_rfl))
  f48 := Try.func48.trans (congrArg some (by kernel_rfl))
  f49 := ⟨Try.f49.name, by decide, Try.func49.trans (congrArg some (by kernel_rfl))⟩
  f50 := ⟨Try.f50.name, by decide, Try.func50.trans (congrArg some (by kernel_rfl))⟩
  f57 := ⟨Try.f51.name, by decide, Try.func51.trans (congrArg some (by kernel_rfl))⟩
  t0 := Try.underlying0
  a0 := Try.isAgg0
  z0 := Try.sizeOf0
  v0 := Try.zeroValue0
  t3 := Try.underlying3
  a3 := Try.isAgg3
  z3 := Try.sizeOf3
  v3 := Try.zeroValue3
  t4 := Try.underlying4
  a4 := Try.isAgg4
  z4 := Try.sizeOf4
  v4 := Try.zeroValue4
  t5 := Try.underlying5
  a5 := Try.isAgg5
  z5 := Try.sizeOf5
  v5 := Try.zeroValue5
  t9 := Try.underlying9
  a9 := Try.isAgg9
  z9 := Try.sizeOf9
  v9 := Try.zeroValue9
  t22 := Try.underlying39
  a22 := Try.isAgg39
  z22 := Try.sizeOf39
  v22 := Try.zeroValue39
  a24 := Try.isAgg34
  z24 := Try.sizeOf34
  t25 := Try.underlying49
  a25 := Try.isAgg49
  z25 := Try.sizeOf49
  v25 := Try.zeroValue49
  t39 := Try.underlying58
  a39 := Try.isAgg58
  z39 := Try.sizeOf58
  v39 := Try.zeroValue58
  t45 := Try.underlying61
  a45 := Try.isAgg61
  z45 := Try.sizeOf61
  v45 := Try.zeroValue61
  t46 := Try.underlying62
  a46 := Try.isAgg62
  z46 := Try.sizeOf62
  v46 := Try.zeroValue62
  t50 := Try.underlying66
  a50 := Try.isAgg66
  z50 := Try.sizeOf66
  v50 := Try.zeroValue66
  t53 := Try.underlying69
  a53 := Try.isAgg69
  z53 := Try.sizeOf69
  v53 := Try.zeroValue69
  t55 := Try.underlying71
  a55 := Try.isAgg71
  z55 := Try.sizeOf71
  v55 := Try.zeroValue71
  t66 := Try.underlying72
  a66 := Try.isAgg72
  z66 := Try.sizeOf72
  v66 := Try.zeroValue72
  t70 := Try.underlying76
  a70 := Try.isAgg76
  z70 := Try.sizeOf76
  v70 := Try.zeroValue76
  t76 := Try.underlying78
  a76 := Try.isAgg78
  z76 := Try.sizeOf78
  v76 := Try.zeroValue78
  t77 := Try.underlying79
  a77 := Try.isAgg79
  z77 := Try.sizeOf79
  v77 := Try.zeroValue79 }
end Go.Proofs

set_option linter.unusedSimpArgs false
set_option linter.unusedVariables false
set_option maxRecDepth 100000
namespace Go.Proofs.Ytbaapljlalgddaa
open Go.Lift
open Go.Sort (SWO)
/-! the least of a list, and sorting of cycles -/
def cmpR (a b : Ref) : Int := bif lessB a b then -1 else bif lessB b a then 1 else 0
theorem cmpR_lt (a b : Ref) : decide (cmpR a b < 0) = lessB a b := by
  unfold cmpR
  cases lessB a b <;> cases lessB b a <;> rfl
theorem c_wait_cmp (a b : Ref) : Ret Try.prog 23 [.agg (refE a), .agg (refE b)] (.v (.int .i64 (cmpR a b))) := by
  have e1 := c_dir_Less a b
  have e2 := c_dir_Less b a
  unfold cmpR
  generalize lessB a b = b1 at *
  generalize lessB b a = b2 at *
  refine ret_of_body (fn := Try.f23) (c := Try.f23.body.getD .skip) hm hT (by kernel_rfl) Try.func23 (by kernel_rfl) (by kernel_rfl) (by kernel_rfl) (by kernel_rfl) ?_
  repeat' ((conv => whnf); first | refine And.intro (fun h => h) ?_ | refine dcond_t (by assumption) ?_ | refine dcond_f (by assumption) ?_ | (refine dcond_intro ?_ ?_ <;> intro h) | exact .refl | refine And.intro (by kernel_rfl) ?_ | refine And.intro ⟨fun h => h, fun h => h⟩ ?_ | refine .inl ⟨_, _, DleAll_refl _, e1, ?_⟩ | refine ⟨_, _, DleAll_refl _, fun _ => e1, ?_⟩ | refine ⟨_, _, DleAll_refl _, e1, ?_⟩ | refine .inl ⟨_, _, DleAll_refl _, e2, ?_⟩ | refine ⟨_, _, DleAll_refl _, fun _ => e2, ?_⟩ | refine ⟨_, _, DleAll_refl _, e2, ?_⟩ | refine Exists.intro false ?_ | (refine And.intro ?_ ?_; focus (simp; done)) | fail)
  all_goals (conv => whnf)
  · rw [h]
    exact .refl
  · rename_i h0
    rw [h0, h]
    exact .refl
  · rename_i h0
    rw [h0, h]
    exact .refl
def cmpC (x y : List Ref) : Int := cmpR (x.getD 0 zRef) (y.getD 0 zRef)
theorem ltC (x y : List Ref) : Go.Proofs.ltOf cmpC x y = lessB (x.getD 0 zRef) (y.getD 0 zRef) := by
  rw [← cmpR_lt]
  rfl
theorem less_ntrans {a b c : Ref} (h1 : lessB a b = false) (h2 : lessB b c = false) : lessB a c = false := by
  cases h : lessB a c with
  | false => rfl
  | true =>
    by_cases hab : a = b
    · rw [hab, h2] at h
      cases h
    · have := less_trans (less_total h1 hab) h
      rw [this] at h2
      cases h2
theorem cyc_swo : SWO (Go.Proofs.ltOf cmpC) where
  irrefl x := by rw [ltC, less_irrefl]
  trans x y z h1 h2 := by
    rw [ltC] at *
    exact less_trans h1 h2
  ntrans x y z h1 h2 := by
    rw [ltC] at *
    exact less_ntrans h1 h2
theorem c_wait_cmpC (x y : List Ref) (hx : 0 < x.length) (hy : 0 < y.length) : Ret Try.prog 27 [.lst 2 (x.map refE) false, .lst 2 (y.map refE) false, .ip [.fn (.func 23) []]] (.v (.int .i64 (cmpC x y))) := by
  have e := c_wait_cmp (x.getD 0 zRef) (y.getD 0 zRef)
  have hgx : (x.map refE)[0]? = some (refE (x.getD 0 zRef)) := by simp [hx]
  have hgy : (y.map refE)[0]? = some (refE (y.getD 0 zRef)) := by simp [hy]
  unfold cmpC
  generalize x.getD 0 zRef = a at *
  generalize y.getD 0 zRef = b at *
  refine ret_of_body (fn := Try.f27) (c := Try.f27.body.getD .skip) hm hT (by kernel_rfl) Try.func27 (by kernel_rfl) (by kernel_rfl) (by kernel_rfl) (by kernel_rfl) ?_
  repeat' ((conv => whnf); first | refine And.intro (fun h => h) ?_ | refine dcond_t (by assumption) ?_ | refine dcond_f (by assumption) ?_ | (refine dcond_intro ?_ ?_ <;> intro h) | exact .refl | refine And.intro (by kernel_rfl) ?_ | refine And.intro ⟨fun h => h, fun h => h⟩ ?_ | refine ⟨0, refE a, And.intro ⟨rfl, hgx⟩ ?_⟩ | refine ⟨0, refE b, And.intro ⟨rfl, hgy⟩ ?_⟩ | refine .inl ⟨_, _, DleAll_refl _, e, ?_⟩ | refine ⟨_, _, DleAll_refl _, fun _ => e, ?_⟩ | refine ⟨_, _, DleAll_refl _, e, ?_⟩ | refine Exists.intro false ?_ | (refine And.intro ?_ ?_; focus (simp; done)) | fail)
theorem sortC_ok (l : List (List Ref)) (hl : l.length ≤ 1000000) (hne : ∀ x ∈ l, 0 < x.length) (hs : l.Pairwise fun x y => lessB (x.getD 0 zRef) (y.getD 0 zRef) = true) : RetM Try.prog 26 [.row 34 1 (l.map cycE)] [.own 0, .fn (.func 27) [.ip [.fn (.func 23) []]]] [true] [.row 34 1 (l.map cycE)] (.tup []) :=
  sort_retM (agg := false) (fun vs w => Try.sortTok.f6.enters rfl vs w) (sortC_1 Try.sortTok _) (fun p cap fv w => AnyF.slices_SortFunc_none { Try.sortTok with } p cap fv w)
    cycE l l cmpC cyc_swo (fun x hx y hy h1 h2 => by
      rw [ltC] at h1 h2
      obtain ⟨i, hi, rfl⟩ := List.getElem_of_mem hx
      obtain ⟨j, hj, rfl⟩ := List.getElem_of_mem hy
      rw [List.pairwise_iff_getElem] at hs
      rcases Nat.lt_trichotomy i j with hij | hij | hij
      · rw [hs i j hi hj hij] at h1
        cases h1
      · subst hij
        rfl
      · rw [hs j i hj hi hij] at h2
        cases h2) (.refl _) (hs.imp fun h => by rw [ltC]; exact less_asymm h) (by omega) [.ip [.fn (.func 23) []]] (fun d hd => by simp at hd; subst hd; rfl) (fun _ => rfl) (fun x hx y hy => c_wait_cmpC x y (hne x hx) (hne y hy))
def minA (c : List Ref) : Nat → Ref
  | 0 => c.getD 0 zRef
  | i + 1 => bif lessB (c.getD i zRef) (minA c i) then c.getD i zRef else minA c i
def minL (c : List Ref) : Ref := minA c c.length
theorem c_wait_MinFunc (c : List Ref) (hl : c.length ≤ 1000000) (h1 : 0 < c.length) : Ret Try.prog 25 [.lst 2 (c.map refE) false, .fn (.func 23) []] (.agg (refE (minL c))) := by
  refine ret_of_body (fn := Try.f25) (c := Try.f25.body.getD .skip) hm hT (by kernel_rfl) Try.func25 (by kernel_rfl) (by kernel_rfl) (by kernel_rfl) (by kernel_rfl) ?_
  repeat' ((conv => whnf); first | refine And.intro (fun h => h) ?_ | refine dcond_t (by assumption) ?_ | refine dcond_f (by assumption) ?_ | (refine dcond_intro ?_ ?_ <;> intro h) | exact .refl | refine And.intro (by kernel_rfl) ?_ | refine And.intro ⟨fun h => h, fun h => h⟩ ?_ | refine Exists.intro false ?_ | (refine And.intro ?_ ?_; focus (simp; done)) | fail)
  all_goals (conv => whnf)
  · exfalso
    simp at h
    omega
  · clear h
    have hg0 : (c.map refE)[0]? = some (refE (c.getD 0 zRef)) := by simp [h1]
    have hm1 : minA c 1 = c.getD 0 zRef := by
      simp only [minA, less_irrefl]
      rfl
    rw [← hm1] at hg0
    repeat' ((conv => whnf); first | refine And.intro (fun h => h) ?_ | refine dcond_t (by assumption) ?_ | refine dcond_f (by assumption) ?_ | (refine dcond_intro ?_ ?_ <;> intro h) | exact .refl | refine And.intro (by kernel_rfl) ?_ | refine And.intro ⟨fun h => h, fun h => h⟩ ?_ | refine ⟨0, refE (minA c 1), And.intro ⟨rfl, hg0⟩ ?_⟩ | refine Exists.intro false ?_ | (refine And.intro ?_ ?_; focus (simp; done)) | fail)
    all_goals (conv => whnf)
    refine ⟨Nat, fun i => ⟨[(0, .lst 2 (c.map refE) false), (1, .fn (.func 23) []), (4, .lp 0 0), (5, .lp 1 0), (6, i64 i)], [.cells 24 (refE zRef), .cells 24 (refE (minA c i))]⟩, fun i => 1 ≤ i ∧ i ≤ c.length, fun i => c.length - i, [], ⟨1, ⟨Nat.le_refl _, h1⟩, ?_⟩, ?_⟩
    · conv => whnf
      exact ⟨⟨.refl, .refl, .refl, .refl, .refl, trivial⟩, ⟨.refl, .refl, trivial⟩, by rfl⟩
    · intro i ⟨hi1, hi⟩
      repeat' ((conv => whnf); first | refine And.intro (fun h => h) ?_ | refine dcond_t (by assumption) ?_ | refine dcond_f (by assumption) ?_ | (refine dcond_intro ?_ ?_ <;> intro h) | exact .refl | refine And.intro (by kernel_rfl) ?_ | refine And.intro ⟨fun h => h, fun h => h⟩ ?_ | refine Exists.intro false ?_ | (refine And.intro ?_ ?_; focus (simp; done)) | fail)
      · have hlt : i < c.length := by simpa using h
        clear h
        have hg : c.getD i zRef = c[i] := by simp [hlt]
        have hs : minA c (i + 1) = bif lessB (c.getD i zRef) (minA c i) then c.getD i zRef else minA c i := rfl
        rw [hg, ← cmpR_lt] at hs
        have e := c_wait_cmp c[i] (minA c i)
        generalize cmpR c[i] (minA c i) = q at *
        generalize hM2 : minA c (i + 1) = M2 at *
        generalize minA c i = M at *
        repeat' ((conv => whnf); first | refine And.intro (fun h => h) ?_ | refine dcond_t (by assumption) ?_ | refine dcond_f (by assumption) ?_ | (refine dcond_intro ?_ ?_ <;> intro h) | exact .refl | refine And.intro (by kernel_rfl) ?_ | refine And.intro ⟨fun h => h, fun h => h⟩ ?_ | refine ⟨_, _, And.intro ⟨rfl, get_map hlt⟩ ?_⟩ | refine .inl ⟨_, _, DleAll_refl _, e, ?_⟩ | refine ⟨_, _, DleAll_refl _, fun _ => e, ?_⟩ | refine ⟨_, _, DleAll_refl _, e, ?_⟩ | refine Exists.intro false ?_ | (refine And.intro ?_ ?_; focus (simp; done)) | fail)
        all_goals (conv => whnf)
        · rw [h] at hs
          have hs : M2 = c[i] := hs
          repeat' ((conv => whnf); first | refine And.intro (fun h => h) ?_ | refine dcond_t (by assumption) ?_ | refine dcond_f (by assumption) ?_ | (refine dcond_intro ?_ ?_ <;> intro h) | exact .refl | refine And.intro (by kernel_rfl) ?_ | refine And.intro ⟨fun h => h, fun h => h⟩ ?_ | refine ⟨_, _, And.intro ⟨rfl, get_map hlt⟩ ?_⟩ | refine Exists.intro false ?_ | (refine And.intro ?_ ?_; focus (simp; done)) | fail)
          all_goals (conv => whnf)
          refine ⟨i + 1, ⟨by omega, hlt⟩, by simp only []; omega, ?_⟩
          conv => whnf
          refine ⟨⟨.refl, .refl, .refl, .refl, dle_int (wrap_succ (by omega)), trivial⟩, ⟨.refl, ole_cells ?_, trivial⟩, by rfl⟩
          rw [hM2, hs]
          rfl
        · rw [h] at hs
          have hs : M2 = M := hs
          refine ⟨i + 1, ⟨by omega, hlt⟩, by simp only []; omega, ?_⟩
          conv => whnf
          refine ⟨⟨.refl, .refl, .refl, .refl, dle_int (wrap_succ (by omega)), trivial⟩, ⟨.refl, ole_cells ?_, trivial⟩, by rfl⟩
          rw [hM2, hs]
      · have : i = c.length := by
          simp at h
          omega
        subst this
        clear h
        unfold minL
        repeat' ((conv => whnf); first | refine And.intro (fun h => h) ?_ | refine dcond_t (by assumption) ?_ | refine dcond_f (by assumption) ?_ | (refine dcond_intro ?_ ?_ <;> intro h) | exact .refl | refine And.intro (by kernel_rfl) ?_ | refine And.intro ⟨fun h => h, fun h => h⟩ ?_ | refine Exists.intro false ?_ | (refine And.intro ?_ ?_; focus (simp; done)) | fail)
/-! all cycles -/
def cyc1 (l : List Edge) (e : Edge) : Option (List Ref) := bif hasR (reachR l e.fr) e.fr && refEq (minL (reachR l e.fr)) e.fr then some (e.fr :: (reachR l e.fr).take ((reachR l e.fr).length - 1)) else none
def cycK (l : List Edge) (k : Nat) : List (List Ref) := (l.take k).filterMap (cyc1 l)
def cyclesR (l : List Edge) : List (List Ref) := bif validW l then l.filterMap (cyc1 l) else []
theorem cyc1_head {l : List Edge} {e : Edge} {c : List Ref} (h : cyc1 l e = some c) : c.getD 0 zRef = e.fr ∧ 0 < c.length := by
  unfold cyc1 at h
  cases hb : (hasR (reachR l e.fr) e.fr && refEq (minL (reachR l e.fr)) e.fr) with
  | false => rw [hb] at h; cases h
  | true =>
    rw [hb] at h
    have h : some (e.fr :: (reachR l e.fr).take ((reachR l e.fr).length - 1)) = some c := h
    cases h
    simp
theorem validW_pw {l : List Edge} (h : validW l = true) : l.length ≤ 200 ∧ (∀ e ∈ l, okE e = true) ∧ l.Pairwise fun a b => lessB a.fr b.fr = true := by
  simp only [validW, Bool.and_eq_true] at h
  obtain ⟨h1, h2⟩ := h
  have h2 := allB_true.1 h2
  have hl : l.length ≤ 200 := by
    simp at h1
    omega
  refine ⟨hl, fun e he => ?_, ?_⟩
  · obtain ⟨i, hi, rfl⟩ := List.getElem_of_mem he
    have := h2 i hi
    have hg : l.getD i zEdge = l[i] := by simp [hi]
    simp only [okAtE, hg, Bool.and_eq_true] at this
    exact this.1
  · rw [List.pairwise_iff_getElem]
    have key : ∀ j (hj : j < l.length), ∀ i (hij : i < j), lessB (l[i]'(by omega)).fr l[j].fr = true := by
      intro j
      induction j with
      | zero => intro _ i hi; omega
      | succ j ih =>
        intro hj i hi
        have h3 := h2 (j + 1) hj
        have hg : l.getD (j + 1) zEdge = l[j + 1] := by simp [hj]
        have hg2 : l.getD j zEdge = l[j] := by simp [show j < l.length by omega]
        simp only [okAtE, Bool.and_eq_true, Bool.not_eq_true', Bool.and_eq_false_iff, Nat.add_sub_cancel, hg, hg2] at h3
        have h4 : lessB l[j].fr l[j + 1].fr = true := by
          rcases h3.2 with h3 | h3
          · simp at h3
          · simpa using h3
        rcases Nat.lt_succ_iff_lt_or_eq.1 hi with hi | rfl
        · exact less_trans (ih (by omega) i hi) h4
        · exact h4
    exact fun i j hi hj hij => key j hj i hij
theorem cyc_sorted {l : List Edge} (h : l.Pairwise fun a b => lessB a.fr b.fr = true) (m : List Edge) : (l.filterMap (cyc1 m)).Pairwise fun x y => lessB (x.getD 0 zRef) (y.getD 0 zRef) = true := by
  rw [List.pairwise_filterMap]
  exact h.imp fun {a b} hab x hx y hy => by
    rw [(cyc1_head hx).1, (cyc1_head hy).1]
    exact hab
theorem cyc_pos {l m : List Edge} : ∀ x ∈ l.filterMap (cyc1 m), 0 < x.length := fun x hx => by
  obtain ⟨e, _, he⟩ := List.mem_filterMap.1 hx
  exact (cyc1_head he).2
theorem cycK_len (l : List Edge) (k : Nat) : (cycK l k).length ≤ k := by
  have := List.length_filterMap_le (cyc1 l) (l.take k)
  unfold cycK
  rw [List.length_take] at this
  omega
theorem cycK_succ {l : List Edge} {i : Nat} (h : i < l.length) : cycK l (i + 1) = cycK l i ++ (cyc1 l l[i]).toList := by
  unfold cycK
  rw [List.take_succ_eq_append_getElem h, List.filterMap_append]
  cases he : cyc1 l l[i] <;> simp [he]
theorem reach_ne {l : List Edge} {a : Ref} (h : hasR (reachR l a) a = true) : 0 < (reachR l a).length := List.length_pos_of_mem (has_iff.1 h)
set_option maxHeartbeats 1000000 in
theorem c_wait_Cycles (l : List Edge) (hl : l.length ≤ 200000) : Ret Try.prog 15 [.lst 6 (l.map edgE) false] (.lst 1 ((cyclesR l).map cycE) false) := by
  have hlm : l.length ≤ maxLen := by
    simp only [maxLen]
    omega
  have e1 := c_wait_Valid l hlm
  have hd : cyclesR l = bif validW l then l.filterMap (cyc1 l) else [] := rfl
  generalize cyclesR l = R at *
  by_cases hv : validW l = true
  case neg =>
    rw [Bool.not_eq_true] at hv
    rw [hv] at hd
    have hd : R = [] := hd
    subst hd
    generalize validW l = vb at *
    refine ret_of_body (fn := Try.f15) (c := Try.f15.body.getD .skip) hm hT (by kernel_rfl) Try.func15 (by kernel_rfl) (by kernel_rfl) (by kernel_rfl) (by kernel_rfl) ?_
    repeat' ((conv => whnf); first | refine And.intro (fun h => h) ?_ | refine dcond_t (by assumption) ?_ | refine dcond_f (by assumption) ?_ | (refine dcond_intro ?_ ?_ <;> intro h) | exact .refl | refine And.intro (by kernel_rfl) ?_ | refine And.intro ⟨fun h => h, fun h => h⟩ ?_ | refine .inl ⟨_, _, DleAll_refl _, e1, ?_⟩ | refine ⟨_, _, DleAll_refl _, fun _ => e1, ?_⟩ | refine ⟨_, _, DleAll_refl _, e1, ?_⟩ | refine Exists.intro false ?_ | (refine And.intro ?_ ?_; focus (simp; done)) | fail)
    all_goals (conv => whnf)
    · exact .nl
    · rw [hv] at h
      cases h
  case pos =>
    have hpw := validW_pw hv
    rw [hv] at hd
    have hd : R = l.filterMap (cyc1 l) := hd
    subst hd
    have hs := sortC_ok (l.filterMap (cyc1 l)) (by have := List.length_filterMap_le (cyc1 l) l; omega) cyc_pos (cyc_sorted hpw.2.2 l)
    have hall : cycK l l.length = l.filterMap (cyc1 l) := by
      unfold cycK
      rw [List.take_length]
    rw [← hall] at hs ⊢
    clear hall
    generalize validW l = vb at *
    refine ret_of_body (fn := Try.f15) (c := Try.f15.body.getD .skip) hm hT (by kernel_rfl) Try.func15 (by kernel_rfl) (by kernel_rfl) (by kernel_rfl) (by kernel_rfl) ?_
    repeat' ((conv => whnf); first | refine And.intro (fun h => h) ?_ | refine dcond_t (by assumption) ?_ | refine dcond_f (by assumption) ?_ | (refine dcond_intro ?_ ?_ <;> intro h) | exact .refl | refine And.intro (by kernel_rfl) ?_ | refine And.intro ⟨fun h => h, fun h => h⟩ ?_ | refine .inl ⟨_, _, DleAll_refl _, e1, ?_⟩ | refine ⟨_, _, DleAll_refl _, fun _ => e1, ?_⟩ | refine ⟨_, _, DleAll_refl _, e1, ?_⟩ | refine Exists.intro false ?_ | (refine And.intro ?_ ?_; focus (simp; done)) | fail)
    all_goals (conv => whnf)
    · rw [hv] at h
      cases h
    · clear h
      refine ⟨Nat, fun i => ⟨[(0, .lst 6 (l.map edgE) false), (3, .own 1), (4, .lp 0 0), (11, .lst 6 (l.map edgE) false), (12, i64 l.length), (13, i64 i)], [.cells 46 [.fn (.func 23) []], .row 34 1 ((cycK l i).map cycE)]⟩, fun i => i ≤ l.length, fun i => l.length - i, [.slot 3 34 1], ⟨0, Nat.zero_le _, ?_⟩, ?_⟩
      · conv => whnf
        exact ⟨⟨.refl, .refl, .refl, .refl, dle_int (by simp), .refl, trivial⟩, ⟨.refl, .refl, trivial⟩, by rfl⟩
      · intro i hi
        have hcl := cycK_len l i
        repeat' ((conv => whnf); first | refine And.intro (fun h => h) ?_ | refine dcond_t (by assumption) ?_ | refine dcond_f (by assumption) ?_ | (refine dcond_intro ?_ ?_ <;> intro h) | exact .refl | refine And.intro (by kernel_rfl) ?_ | refine And.intro ⟨fun h => h, fun h => h⟩ ?_ | refine Exists.intro false ?_ | (refine And.intro ?_ ?_; focus (simp; done)) | fail)
        all_goals (conv => whnf)
        · have hlt : i < l.length := by simpa using h
          clear h
          have hsu := cycK_succ hlt
          have hrl := reach_len l l[i].fr
          have er := c_wait_Reach l hl l[i].fr
          have ec := c_slices_Contains_ref (reachR l l[i].fr) (by simp only [maxLen]; omega) l[i].fr
          have em : hasR (reachR l l[i].fr) l[i].fr = true → Ret Try.prog 25 [.lst 2 ((reachR l l[i].fr).map refE) false, .fn (.func 23) []] (.agg (refE (minL (reachR l l[i].fr)))) := fun h => c_wait_MinFunc _ (by omega) (reach_ne h)
          have hne : hasR (reachR l l[i].fr) l[i].fr = true → 0 < (reachR l l[i].fr).length := reach_ne
          have hcy : cyc1 l l[i] = bif hasR (reachR l l[i].fr) l[i].fr && refEq (minL (reachR l l[i].fr)) l[i].fr then some (l[i].fr :: (reachR l l[i].fr).take ((reachR l l[i].fr).length - 1)) else none := rfl
          generalize cyc1 l l[i] = C at *
          generalize hasR (reachR l l[i].fr) l[i].fr = hb at *
          generalize minL (reachR l l[i].fr) = M at *
          generalize reachR l l[i].fr = A at *
          repeat' ((conv => whnf); first | refine And.intro (fun h => h) ?_ | refine dcond_t (by assumption) ?_ | refine dcond_f (by assumption) ?_ | (refine dcond_intro ?_ ?_ <;> intro h) | exact .refl | refine And.intro (by kernel_rfl) ?_ | refine And.intro ⟨fun h => h, fun h => h⟩ ?_ | refine ⟨_, _, And.intro ⟨rfl, get_map hlt⟩ ?_⟩ | refine .inl ⟨_, _, DleAll_refl _, er, ?_⟩ | refine ⟨_, _, DleAll_refl _, fun _ => er, ?_⟩ | refine ⟨_, _, DleAll_refl _, er, ?_⟩ | refine .inl ⟨_, _, DleAll_refl _, ec, ?_⟩ | refine ⟨_, _, DleAll_refl _, fun _ => ec, ?_⟩ | refine ⟨_, _, DleAll_refl _, ec, ?_⟩ | refine ⟨_, _, DleAll_refl _, fun hg => em hg, ?_⟩ | refine Exists.intro false ?_ | (refine And.intro ?_ ?_; focus (simp; done)) | fail)
          all_goals (conv => whnf)
          · have h : (hb && refEq M l[i].fr) = true := h
            rw [h] at hcy
            have hcy : C = some (l[i].fr :: A.take (A.length - 1)) := hcy
            subst hcy
            have hne := hne (by
              rw [Bool.and_eq_true] at h
              exact h.1)
            have hsl : IntKind.i64.wrap (((A.map refE).length : Int) - 1) = ((A.length - 1 : Nat) : Int) := by
              rw [List.length_map, wrap_i64 (by omega) (by omega)]
              omega
            repeat' ((conv => whnf); first | refine And.intro (fun h => h) ?_ | refine dcond_t (by assumption) ?_ | refine dcond_f (by assumption) ?_ | (refine dcond_intro ?_ ?_ <;> intro h) | exact .refl | refine And.intro (by kernel_rfl) ?_ | refine And.intro ⟨fun h => h, fun h => h⟩ ?_ | refine ⟨0, A.length - 1, And.intro ⟨rfl, ⟨.i64, congrArg (fun n => DV.v (.int .i64 n)) hsl⟩, Nat.zero_le _, by simp <;> omega⟩ ?_⟩ | refine And.intro (fitsR (by simp <;> omega)) (Or.inr ?_) | refine And.intro (fitsC (by simp <;> omega)) ?_ | refine Exists.intro false ?_ | (refine And.intro ?_ ?_; focus (simp; done)) | fail)
            all_goals (conv => whnf)
            refine ⟨i + 1, hlt, by simp only []; omega, ?_⟩
            conv => whnf
            refine ⟨⟨.refl, .refl, .refl, .refl, .refl, dle_int (wrap_succ (by omega)), trivial⟩, ⟨.refl, ole_row ?_, trivial⟩, by rfl⟩
            rw [hsu, List.map_append]
            show _ ++ [[DV.lst 2 (_ ++ _) false]] = _
            congr 1
            show _ = [[DV.lst 2 ((l[i].fr :: A.take (A.length - 1)).map refE) false]]
            rw [List.map_cons, List.map_take]
            rfl
          · have h : (hb && refEq M l[i].fr) = false := h
            rw [h] at hcy
            have hcy : C = none := hcy
            subst hcy
            refine ⟨i + 1, hlt, by simp only []; omega, ?_⟩
            conv => whnf
            refine ⟨⟨.refl, .refl, .refl, .refl, .refl, dle_int (wrap_succ (by omega)), trivial⟩, ⟨.refl, ole_row ?_, trivial⟩, by rfl⟩
            rw [hsu]
            simp
        · have : i = l.length := by
            simp at h
            omega
          subst this
          clear h
          generalize cycK l l.length = R at *
          repeat' ((conv => whnf); first | refine And.intro (fun h => h) ?_ | refine dcond_t (by assumption) ?_ | refine dcond_f (by assumption) ?_ | (refine dcond_intro ?_ ?_ <;> intro h) | exact .refl | refine And.intro (by kernel_rfl) ?_ | refine And.intro ⟨fun h => h, fun h => h⟩ ?_ | refine .inr ⟨[1], _, _, _, _, _, hs, by rfl, ⟨.refl, trivial⟩, ⟨.refl, .refl, trivial⟩, ?_⟩ | refine Exists.intro false ?_ | (refine And.intro ?_ ?_; focus (simp; done)) | fail)
end Go.Proofs.Ytbaapljlalgddaa

set_option linter.unusedSimpArgs false
set_option linter.unusedVariables false
set_option maxRecDepth 100000
namespace Go.Proofs.Ytbaapljlalgddaa
open Go.Lift
/-! victims -/
def hasC (cs : List (List Ref)) (q : List Ref) : Bool := decide (0 ≤ findB (fun i => eqR (cs.getD i []) q) cs.length)
theorem hasC_iff {cs : List (List Ref)} {q : List Ref} : hasC cs q = true ↔ q ∈ cs := by
  unfold hasC
  rw [decide_eq_true_eq]
  constructor
  · intro h
    rcases hf : (List.range cs.length).find? (fun i => eqR (cs.getD i []) q) with _ | n
    · simp only [findB, hf] at h
      omega
    · have h1 := List.find?_some hf
      have h2 := List.mem_range.1 (List.mem_of_find?_eq_some hf)
      rw [← eqR_iff.1 h1]
      simp [h2]
  · intro h
    obtain ⟨i, hi, rfl⟩ := List.getElem_of_mem h
    rcases hf : (List.range cs.length).find? (fun j => eqR (cs.getD j []) cs[i]) with _ | n
    · have := List.find?_eq_none.1 hf i (List.mem_range.2 hi)
      simp [hi, eqR_iff] at this
    · simp only [findB, hf]
      omega
theorem c_wait_Victim_1 (c q : List Ref) (hc : c.length ≤ maxLen) : Ret Try.prog 29 [.lst 2 (c.map refE) false, .ip [.lst 2 (q.map refE) false]] (.v (.bool (eqR c q))) := by
  have e := c_slices_Equal_ref c q hc
  generalize eqR c q = b at *
  refine ret_of_body (fn := Try.f29) (c := Try.f29.body.getD .skip) hm hT (by kernel_rfl) Try.func29 (by kernel_rfl) (by kernel_rfl) (by kernel_rfl) (by kernel_rfl) ?_
  repeat' ((conv => whnf); first | refine And.intro (fun h => h) ?_ | refine dcond_t (by assumption) ?_ | refine dcond_f (by assumption) ?_ | (refine dcond_intro ?_ ?_ <;> intro h) | exact .refl | refine And.intro (by kernel_rfl) ?_ | refine And.intro ⟨fun h => h, fun h => h⟩ ?_ | refine .inl ⟨_, _, DleAll_refl _, e, ?_⟩ | refine ⟨_, _, DleAll_refl _, fun _ => e, ?_⟩ | refine ⟨_, _, DleAll_refl _, e, ?_⟩ | refine Exists.intro false ?_ | (refine And.intro ?_ ?_; focus (simp; done)) | fail)
theorem c_wait_IndexFunc (cs : List (List Ref)) (q : List Ref) (hcs : cs.length ≤ maxLen) (hc : ∀ c ∈ cs, c.length ≤ maxLen) : Ret Try.prog 35 [.lst 1 (cs.map cycE) false, .fn (.func 29) [.ip [.lst 2 (q.map refE) false]]] (i64 (findB (fun i => eqR (cs.getD i []) q) cs.length)) := by
  have hl' : cs.length ≤ 9223372036854775807 := hcs
  refine ret_of_body (fn := Try.f35) (c := Try.f35.body.getD .skip) hm hT (by kernel_rfl) Try.func35 (by kernel_rfl) (by kernel_rfl) (by kernel_rfl) (by kernel_rfl) ?_
  repeat' ((conv => whnf); first | refine And.intro (fun h => h) ?_ | refine dcond_t (by assumption) ?_ | refine dcond_f (by assumption) ?_ | (refine dcond_intro ?_ ?_ <;> intro h) | exact .refl | refine And.intro (by kernel_rfl) ?_ | refine And.intro ⟨fun h => h, fun h => h⟩ ?_ | refine Exists.intro false ?_ | (refine And.intro ?_ ?_; focus (simp; done)) | fail)
  all_goals (conv => whnf)
  refine ⟨Nat, fun i => ⟨[(0, .lst 1 (cs.map cycE) false), (1, .fn (.func 29) [.ip [.lst 2 (q.map refE) false]]), (7, i64 cs.length), (8, i64 i)], []⟩, fun i => i ≤ cs.length ∧ ∀ j, j < i → eqR (cs.getD j []) q = false, fun i => cs.length - i, [], ⟨0, ⟨Nat.zero_le _, by omega⟩, ?_⟩, ?_⟩
  · conv => whnf
    exact ⟨⟨.refl, .refl, dle_int (by simp), .refl, trivial⟩, trivial, by rfl⟩
  · intro i ⟨hi, hall⟩
    repeat' ((conv => whnf); first | refine And.intro (fun h => h) ?_ | refine dcond_t (by assumption) ?_ | refine dcond_f (by assumption) ?_ | (refine dcond_intro ?_ ?_ <;> intro h) | exact .refl | refine And.intro (by kernel_rfl) ?_ | refine And.intro ⟨fun h => h, fun h => h⟩ ?_ | refine Exists.intro false ?_ | (refine And.intro ?_ ?_; focus (simp; done)) | fail)
    · have hlt : i < cs.length := by simpa using h
      clear h
      have hg : cs.getD i [] = cs[i] := by simp [hlt]
      have e := c_wait_Victim_1 cs[i] q (hc _ (List.getElem_mem hlt))
      have hq : eqR (cs.getD i []) q = eqR cs[i] q := by rw [hg]
      have ha := fun hh => findB_at (p := fun i => eqR (cs.getD i []) q) hlt hh hall
      rw [hq] at ha
      generalize hb : eqR cs[i] q = b at *
      repeat' ((conv => whnf); first | refine And.intro (fun h => h) ?_ | refine dcond_t (by assumption) ?_ | refine dcond_f (by assumption) ?_ | (refine dcond_intro ?_ ?_ <;> intro h) | exact .refl | refine And.intro (by kernel_rfl) ?_ | refine And.intro ⟨fun h => h, fun h => h⟩ ?_ | refine ⟨_, _, And.intro ⟨rfl, get_map hlt⟩ ?_⟩ | refine .inl ⟨_, _, DleAll_refl _, e, ?_⟩ | refine ⟨_, _, DleAll_refl _, fun _ => e, ?_⟩ | refine ⟨_, _, DleAll_refl _, e, ?_⟩ | refine Exists.intro false ?_ | (refine And.intro ?_ ?_; focus (simp; done)) | fail)
      all_goals (conv => whnf)
      · exact dle_int (ha h).symm
      · refine ⟨i + 1, ⟨hlt, fun j hj => ?_⟩, by simp only []; omega, ?_⟩
        · rcases Nat.lt_succ_iff_lt_or_eq.1 hj with hj | rfl
          · exact hall j hj
          · rw [hq, h]
        · conv => whnf
          exact ⟨⟨.refl, .refl, .refl, dle_int (wrap_succ (by omega)), trivial⟩, trivial, by rfl⟩
    · have hge : ¬ i < cs.length := by simpa using h
      conv => whnf
      refine dle_int (findB_none (fun j hj => hall j (by omega))).symm
theorem c_wait_ContainsFunc (cs : List (List Ref)) (q : List Ref) (hcs : cs.length ≤ maxLen) (hc : ∀ c ∈ cs, c.length ≤ maxLen) : Ret Try.prog 28 [.lst 1 (cs.map cycE) false, .fn (.func 29) [.ip [.lst 2 (q.map refE) false]]] (.v (.bool (hasC cs q))) := by
  have e := c_wait_IndexFunc cs q hcs hc
  unfold hasC
  generalize findB (fun i => eqR (cs.getD i []) q) cs.length = n at *
  refine ret_of_body (fn := Try.f28) (c := Try.f28.body.getD .skip) hm hT (by kernel_rfl) Try.func28 (by kernel_rfl) (by kernel_rfl) (by kernel_rfl) (by kernel_rfl) ?_
  repeat' ((conv => whnf); first | refine And.intro (fun h => h) ?_ | refine dcond_t (by assumption) ?_ | refine dcond_f (by assumption) ?_ | (refine dcond_intro ?_ ?_ <;> intro h) | exact .refl | refine And.intro (by kernel_rfl) ?_ | refine And.intro ⟨fun h => h, fun h => h⟩ ?_ | refine .inl ⟨_, _, DleAll_refl _, e, ?_⟩ | refine ⟨_, _, DleAll_refl _, fun _ => e, ?_⟩ | refine ⟨_, _, DleAll_refl _, e, ?_⟩ | refine Exists.intro false ?_ | (refine And.intro ?_ ?_; focus (simp; done)) | fail)
theorem cyc_len (l : List Edge) : (cyclesR l).length ≤ l.length ∧ ∀ c ∈ cyclesR l, c.length ≤ l.length + 1 := by
  unfold cyclesR
  cases validW l with
  | false => simp
  | true =>
    refine ⟨List.length_filterMap_le _ _, fun c hc => ?_⟩
    obtain ⟨e, _, he⟩ := List.mem_filterMap.1 hc
    unfold cyc1 at he
    have hr := reach_len l e.fr
    cases hb : (hasR (reachR l e.fr) e.fr && refEq (minL (reachR l e.fr)) e.fr) with
    | false => rw [hb] at he; cases he
    | true =>
      rw [hb] at he
      have he : some (e.fr :: (reachR l e.fr).take ((reachR l e.fr).length - 1)) = some c := he
      cases he
      simp
      omega
def bestA (l : List Edge) (q : List Ref) : Nat → Edge × Bool
  | 0 => (zEdge, false)
  | k + 1 => bif (!(l.getD k zEdge).held && hasR q (l.getD k zEdge).fr) && (!(bestA l q k).2 || decide ((bestA l q k).1.age < (l.getD k zEdge).age)) then (l.getD k zEdge, true) else bestA l q k
def vicR (l : List Edge) (q : List Ref) : Ref × Bool := bif hasC (cyclesR l) q then ((bestA l q l.length).1.fr, (bestA l q l.length).2) else (zRef, false)
theorem c_wait_Victim (l : List Edge) (hl : l.length ≤ 200000) (q : List Ref) (hq : q.length ≤ maxLen) : Ret Try.prog 16 [.lst 6 (l.map edgE) false, .lst 2 (q.map refE) false] (.tup [.agg (refE (vicR l q).1), .v (.bool (vicR l q).2)]) := by
  have hcl := cyc_len l
  have e1 := c_wait_Cycles l hl
  have e2 := c_wait_ContainsFunc (cyclesR l) q (by simp only [maxLen]; omega) (fun c hc => by have := hcl.2 c hc; simp only [maxLen]; omega)
  have hd : vicR l q = bif hasC (cyclesR l) q then ((bestA l q l.length).1.fr, (bestA l q l.length).2) else (zRef, false) := rfl
  generalize vicR l q = V at *
  generalize hasC (cyclesR l) q = b at *
  generalize cyclesR l = C at *
  refine ret_of_body (fn := Try.f16) (c := Try.f16.body.getD .skip) hm hT (by kernel_rfl) Try.func16 (by kernel_rfl) (by kernel_rfl) (by kernel_rfl) (by kernel_rfl) ?_
  repeat' ((conv => whnf); first | refine And.intro (fun h => h) ?_ | refine dcond_t (by assumption) ?_ | refine dcond_f (by assumption) ?_ | (refine dcond_intro ?_ ?_ <;> intro h) | exact .refl | refine And.intro (by kernel_rfl) ?_ | refine And.intro ⟨fun h => h, fun h => h⟩ ?_ | refine .inl ⟨_, _, DleAll_refl _, e1, ?_⟩ | refine ⟨_, _, DleAll_refl _, fun _ => e1, ?_⟩ | refine ⟨_, _, DleAll_refl _, e1, ?_⟩ | refine .inl ⟨_, _, DleAll_refl _, e2, ?_⟩ | refine ⟨_, _, DleAll_refl _, fun _ => e2, ?_⟩ | refine ⟨_, _, DleAll_refl _, e2, ?_⟩ | refine Exists.intro false ?_ | (refine And.intro ?_ ?_; focus (simp; done)) | fail)
  all_goals (conv => whnf)
  · have h : b = false := by simpa using h
    rw [h] at hd
    have hd : V = (zRef, false) := hd
    subst hd
    exact .refl
  · have h : b = true := by simpa using h
    rw [h] at hd
    have hd : V = ((bestA l q l.length).1.fr, (bestA l q l.length).2) := hd
    subst hd
    refine ⟨Nat, fun i => ⟨[(3, .lp 0 0), (4, .lp 1 0), (6, .lp 2 0), (7, .v (.bool (bestA l q i).2)), (17, .lst 6 (l.map edgE) false), (18, i64 l.length), (19, i64 i)], [.cells 34 [.lst 2 (q.map refE) false], .cells 24 (refE zRef), .cells 38 (edgE (bestA l q i).1)]⟩, fun i => i ≤ l.length, fun i => l.length - i, [], ⟨0, Nat.zero_le _, ?_⟩, ?_⟩
    · conv => whnf
      exact ⟨⟨.refl, .refl, .refl, .refl, .refl, dle_int (by simp), .refl, trivial⟩, ⟨.refl, .refl, .refl, trivial⟩, by rfl⟩
    · intro i hi
      repeat' ((conv => whnf); first | refine And.intro (fun h => h) ?_ | refine dcond_t (by assumption) ?_ | refine dcond_f (by assumption) ?_ | (refine dcond_intro ?_ ?_ <;> intro h) | exact .refl | refine And.intro (by kernel_rfl) ?_ | refine And.intro ⟨fun h => h, fun h => h⟩ ?_ | refine Exists.intro false ?_ | (refine And.intro ?_ ?_; focus (simp; done)) | fail)
      · have hlt : i < l.length := by simpa using h
        clear h
        have hg : l.getD i zEdge = l[i] := by simp [hlt]
        have hs : bestA l q (i + 1) = bif (!(l.getD i zEdge).held && hasR q (l.getD i zEdge).fr) && (!(bestA l q i).2 || decide ((bestA l q i).1.age < (l.getD i zEdge).age)) then (l.getD i zEdge, true) else bestA l q i := rfl
        rw [hg] at hs
        have e3 := c_slices_Contains_ref q hq l[i].fr
        generalize hasR q l[i].fr = hb at *
        generalize hN : bestA l q (i + 1) = N at *
        generalize bestA l q i = B at *
        obtain ⟨B1, B2⟩ := B
        simp only at hs
        repeat' ((conv => whnf); first | refine And.intro (fun h => h) ?_ | refine dcond_t (by assumption) ?_ | refine dcond_f (by assumption) ?_ | (refine dcond_intro ?_ ?_ <;> intro h) | exact .refl | refine And.intro (by kernel_rfl) ?_ | refine And.intro ⟨fun h => h, fun h => h⟩ ?_ | refine ⟨_, _, And.intro ⟨rfl, get_map hlt⟩ ?_⟩ | refine .inl ⟨_, _, DleAll_refl _, e3, ?_⟩ | refine ⟨_, _, DleAll_refl _, fun _ => e3, ?_⟩ | refine ⟨_, _, DleAll_refl _, e3, ?_⟩ | refine Exists.intro false ?_ | (refine And.intro ?_ ?_; focus (simp; done)) | fail)
        all_goals (conv => whnf)
        · have h : (!l[i].held && hb && (!B2 || decide (B1.age < l[i].age))) = true := h
          rw [h] at hs
          have hs : N = (l[i], true) := hs
          refine ⟨i + 1, hlt, by simp only []; omega, ?_⟩
          conv => whnf
          refine ⟨⟨.refl, .refl, .refl, dle_bool (show true = (bestA l q (i + 1)).2 by rw [hN, hs]), .refl, .refl, dle_int (wrap_succ (by omega)), trivial⟩, ⟨.refl, .refl, ole_cells (show edgE l[i] = edgE (bestA l q (i + 1)).1 by rw [hN, hs]), trivial⟩, by rfl⟩
        · have h : (!l[i].held && hb && (!B2 || decide (B1.age < l[i].age))) = false := h
          rw [h] at hs
          have hs : N = (B1, B2) := hs
          refine ⟨i + 1, hlt, by simp only []; omega, ?_⟩
          conv => whnf
          refine ⟨⟨.refl, .refl, .refl, dle_bool (show B2 = (bestA l q (i + 1)).2 by rw [hN, hs]), .refl, .refl, dle_int (wrap_succ (by omega)), trivial⟩, ⟨.refl, .refl, ole_cells (show edgE B1 = edgE (bestA l q (i + 1)).1 by rw [hN, hs]), trivial⟩, by rfl⟩
      · have : i = l.length := by
          simp at h
          omega
        subst this
        clear h
        repeat' ((conv => whnf); first | refine And.intro (fun h => h) ?_ | refine dcond_t (by assumption) ?_ | refine dcond_f (by assumption) ?_ | (refine dcond_intro ?_ ?_ <;> intro h) | exact .refl | refine And.intro (by kernel_rfl) ?_ | refine And.intro ⟨fun h => h, fun h => h⟩ ?_ | refine Exists.intro false ?_ | (refine And.intro ?_ ?_; focus (simp; done)) | fail)
def vic1 (l : List Edge) (c : List Ref) : Option Ref := bif (vicR l c).2 then some (vicR l c).1 else none
def vicK (l : List Edge) (k : Nat) : List Ref := ((cyclesR l).take k).filterMap (vic1 l)
def vicsR (l : List Edge) : List Ref := (cyclesR l).filterMap (vic1 l)
theorem vicK_len (l : List Edge) (k : Nat) : (vicK l k).length ≤ k := by
  have := List.length_filterMap_le (vic1 l) ((cyclesR l).take k)
  unfold vicK
  rw [List.length_take] at this
  omega
theorem vicK_succ {l : List Edge} {i : Nat} (h : i < (cyclesR l).length) : vicK l (i + 1) = vicK l i ++ (vic1 l (cyclesR l)[i]).toList := by
  unfold vicK
  rw [List.take_succ_eq_append_getElem h, List.filterMap_append]
  cases he : vic1 l (cyclesR l)[i] <;> simp [he]
theorem c_wait_Victims (l : List Edge) (hl : l.length ≤ 200000) : Ret Try.prog 13 [.lst 6 (l.map edgE) false] (.lst 2 ((vicsR l).map refE) false) := by
  have hcl := cyc_len l
  have e1 := c_wait_Cycles l hl
  have ev := fun (q : List Ref) hq => c_wait_Victim l hl q hq
  have hsu : ∀ i (h : i < (cyclesR l).length), vicK l (i + 1) = vicK l i ++ (vic1 l (cyclesR l)[i]).toList := fun i h => vicK_succ h
  have hall : vicK l (cyclesR l).length = vicsR l := by
    unfold vicK vicsR
    rw [List.take_length]
  have hvl := vicK_len l
  have hv1 : ∀ c, vic1 l c = bif (vicR l c).2 then some (vicR l c).1 else none := fun c => rfl
  rw [← hall]
  clear hall
  generalize cyclesR l = C at *
  refine ret_of_body (fn := Try.f13) (c := Try.f13.body.getD .skip) hm hT (by kernel_rfl) Try.func13 (by kernel_rfl) (by kernel_rfl) (by kernel_rfl) (by kernel_rfl) ?_
  repeat' ((conv => whnf); first | refine And.intro (fun h => h) ?_ | refine dcond_t (by assumption) ?_ | refine dcond_f (by assumption) ?_ | (refine dcond_intro ?_ ?_ <;> intro h) | exact .refl | refine And.intro (by kernel_rfl) ?_ | refine And.intro ⟨fun h => h, fun h => h⟩ ?_ | refine .inl ⟨_, _, DleAll_refl _, e1, ?_⟩ | refine ⟨_, _, DleAll_refl _, fun _ => e1, ?_⟩ | refine ⟨_, _, DleAll_refl _, e1, ?_⟩ | refine Exists.intro false ?_ | (refine And.intro ?_ ?_; focus (simp; done)) | fail)
  all_goals (conv => whnf)
  refine ⟨Nat, fun i => ⟨[(0, .lst 6 (l.map edgE) false), (3, .own 0), (9, .lst 1 (C.map cycE) false), (10, i64 C.length), (11, i64 i)], [.row 24 2 ((vicK l i).map refE)]⟩, fun i => i ≤ C.length, fun i => C.length - i, [.slot 3 24 2], ⟨0, Nat.zero_le _, ?_⟩, ?_⟩
  · conv => whnf
    exact ⟨⟨.refl, .refl, .refl, dle_int (by simp), .refl, trivial⟩, ⟨.refl, trivial⟩, by rfl⟩
  · intro i hi
    repeat' ((conv => whnf); first | refine And.intro (fun h => h) ?_ | refine dcond_t (by assumption) ?_ | refine dcond_f (by assumption) ?_ | (refine dcond_intro ?_ ?_ <;> intro h) | exact .refl | refine And.intro (by kernel_rfl) ?_ | refine And.intro ⟨fun h => h, fun h => h⟩ ?_ | refine Exists.intro false ?_ | (refine And.intro ?_ ?_; focus (simp; done)) | fail)
    · have hlt : i < C.length := by simpa using h
      clear h
      have hsu := hsu i hlt
      have hvl := hvl i
      have ev := ev C[i] (by have := hcl.2 _ (List.getElem_mem hlt); simp only [maxLen]; omega)
      have hv1 := hv1 C[i]
      rw [hv1] at hsu
      generalize vicR l C[i] = V at *
      obtain ⟨V1, V2⟩ := V
      simp only at hsu ev
      repeat' ((conv => whnf); first | refine And.intro (fun h => h) ?_ | refine dcond_t (by assumption) ?_ | refine dcond_f (by assumption) ?_ | (refine dcond_intro ?_ ?_ <;> intro h) | exact .refl | refine And.intro (by kernel_rfl) ?_ | refine And.intro ⟨fun h => h, fun h => h⟩ ?_ | refine ⟨_, _, And.intro ⟨rfl, get_map hlt⟩ ?_⟩ | refine .inl ⟨_, _, DleAll_refl _, ev, ?_⟩ | refine ⟨_, _, DleAll_refl _, fun _ => ev, ?_⟩ | refine ⟨_, _, DleAll_refl _, ev, ?_⟩ | refine And.intro (fitsR (by simp <;> omega)) ?_ | refine Exists.intro false ?_ | (refine And.intro ?_ ?_; focus (simp; done)) | fail)
      all_goals (conv => whnf)
      all_goals refine ⟨i + 1, hlt, by simp only []; omega, ?_⟩
      all_goals (conv => whnf)
      all_goals refine ⟨⟨.refl, .refl, .refl, .refl, dle_int (wrap_succ (by omega)), trivial⟩, ⟨ole_row ?_, trivial⟩, by rfl⟩
      · have h : V2 = true := h
        rw [hsu, h, List.map_append]
        rfl
      · have h : V2 = false := h
        rw [hsu, h]
        simp
    · have : i = C.length := by
        simp at h
        omega
      subst this
      clear h
      repeat' ((conv => whnf); first | refine And.intro (fun h => h) ?_ | refine dcond_t (by assumption) ?_ | refine dcond_f (by assumption) ?_ | (refine dcond_intro ?_ ?_ <;> intro h) | exact .refl | refine And.intro (by kernel_rfl) ?_ | refine And.intro ⟨fun h => h, fun h => h⟩ ?_ | refine Exists.intro false ?_ | (refine And.intro ?_ ?_; focus (simp; done)) | fail)
/-! the sanity check -/
def Aa : Ref := ⟨⟨#[65]⟩, ⟨#[]⟩⟩
def Bb : Ref := ⟨⟨#[66]⟩, ⟨#[]⟩⟩
def Cc : Ref := ⟨⟨#[67]⟩, ⟨#[]⟩⟩
def L0 : List Edge := [⟨Aa, Bb, 3, false⟩, ⟨Bb, Aa, 5, false⟩, ⟨Cc, Aa, 9, false⟩]
theorem L0_facts : cyclesR L0 = [[Aa, Bb]] ∧ vicsR L0 = [Bb] ∧ stepR L0 ⟨Aa, Aa, 0⟩ = (⟨Aa, Bb, 1⟩, false, true) ∧ stepR L0 ⟨Aa, Bb, 1⟩ = (⟨Aa, Aa, 2⟩, true, true) ∧ reachR L0 Bb = [Aa, Bb] ∧ reachR L0 Cc = [Aa, Bb] := by
  refine ⟨by kernel_rfl, by kernel_rfl, by kernel_rfl, by kernel_rfl, by kernel_rfl, by kernel_rfl⟩
end Go.Proofs.Ytbaapljlalgddaa

set_option linter.unusedSimpArgs false
set_option linter.unusedVariables false
set_option maxRecDepth 100000
namespace Go.Proofs.Ytbaapljlalgddaa
open Go.Lift
set_option maxHeartbeats 1000000 in
theorem c_law25_awake : Ret Try.prog 6 [] (.v (.bool true)) := by
  obtain ⟨f1, f2, f3, f4, f5, f6⟩ := L0_facts
  have e1 := c_wait_Cycles L0 (by decide)
  have e2 := c_wait_Victims L0 (by decide)
  have e3 := c_wait_Step L0 (by decide) ⟨Aa, Aa, 0⟩
  have e4 := c_wait_Step L0 (by decide) ⟨Aa, Bb, 1⟩
  have e5 := c_wait_OnCycle L0 (by decide) Bb
  have e6 := c_wait_OnCycle L0 (by decide) Cc
  have e7 := c_wait_Reach L0 (by decide) Cc
  have e8 := c_wait_Begin Aa
  rw [f3] at e3
  rw [f4] at e4
  obtain ⟨b5, h5, h5'⟩ : ∃ b, b = hasR (reachR L0 Bb) Bb ∧ b = true := ⟨_, rfl, by rw [f5]; kernel_rfl⟩
  obtain ⟨b6, h6, h6'⟩ : ∃ b, b = hasR (reachR L0 Cc) Cc ∧ b = false := ⟨_, rfl, by rw [f6]; kernel_rfl⟩
  rw [← h5] at e5
  rw [← h6] at e6
  clear h5 h6 f3 f4 f5
  generalize cyclesR L0 = C at *
  generalize vicsR L0 = V at *
  generalize reachR L0 Cc = R at *
  obtain ⟨t1, ht1⟩ : ∃ b : Bool, b = false := ⟨false, rfl⟩
  obtain ⟨t2, ht2⟩ : ∃ b : Bool, b = true := ⟨true, rfl⟩
  have hC0 : (C.map cycE)[0]? = some (cycE [Aa, Bb]) := by rw [f1]; rfl
  have hV0 : (V.map refE)[0]? = some (refE Bb) := by rw [f2]; rfl
  have hA0 : ([Aa, Bb].map refE)[0]? = some (refE Aa) := rfl
  simp only at e3 e4
  refine ret_of_body (fn := Try.f6) (c := Try.f6.body.getD .skip) hm hT (by kernel_rfl) Try.func6 (by kernel_rfl) (by kernel_rfl) (by kernel_rfl) (by kernel_rfl) ?_
  repeat' ((conv => whnf); first | refine And.intro (fun h => h) ?_ | refine dcond_t (by assumption) ?_ | refine dcond_f (by assumption) ?_ | (refine dcond_intro ?_ ?_ <;> intro h) | exact .refl | refine And.intro (by kernel_rfl) ?_ | refine And.intro ⟨fun h => h, fun h => h⟩ ?_ | refine .inl ⟨_, _, DleAll_refl _, e1, ?_⟩ | refine ⟨_, _, DleAll_refl _, fun _ => e1, ?_⟩ | refine ⟨_, _, DleAll_refl _, e1, ?_⟩ | refine .inl ⟨_, _, DleAll_refl _, e2, ?_⟩ | refine ⟨_, _, DleAll_refl _, fun _ => e2, ?_⟩ | refine ⟨_, _, DleAll_refl _, e2, ?_⟩ | refine .inl ⟨_, _, DleAll_refl _, e3, ?_⟩ | refine ⟨_, _, DleAll_refl _, fun _ => e3, ?_⟩ | refine ⟨_, _, DleAll_refl _, e3, ?_⟩ | refine .inl ⟨_, _, DleAll_refl _, e4, ?_⟩ | refine ⟨_, _, DleAll_refl _, fun _ => e4, ?_⟩ | refine ⟨_, _, DleAll_refl _, e4, ?_⟩ | refine .inl ⟨_, _, DleAll_refl _, e5, ?_⟩ | refine ⟨_, _, DleAll_refl _, fun _ => e5, ?_⟩ | refine ⟨_, _, DleAll_refl _, e5, ?_⟩ | refine .inl ⟨_, _, DleAll_refl _, e6, ?_⟩ | refine ⟨_, _, DleAll_refl _, fun _ => e6, ?_⟩ | refine ⟨_, _, DleAll_refl _, e6, ?_⟩ | refine .inl ⟨_, _, DleAll_refl _, e7, ?_⟩ | refine ⟨_, _, DleAll_refl _, fun _ => e7, ?_⟩ | refine ⟨_, _, DleAll_refl _, e7, ?_⟩ | refine .inl ⟨_, _, DleAll_refl _, e8, ?_⟩ | refine ⟨_, _, DleAll_refl _, fun _ => e8, ?_⟩ | refine ⟨_, _, DleAll_refl _, e8, ?_⟩ | refine ⟨0, cycE [Aa, Bb], And.intro ⟨fun h => h, fun _ => ⟨rfl, hC0⟩⟩ ?_⟩ | refine ⟨0, cycE [Aa, Bb], And.intro ⟨⟨fun h => h, fun h => h⟩, fun _ => ⟨rfl, hC0⟩⟩ ?_⟩ | refine ⟨0, refE Bb, And.intro ⟨fun h => h, fun _ => ⟨rfl, hV0⟩⟩ ?_⟩ | refine ⟨0, refE Bb, And.intro ⟨⟨fun h => h, fun h => h⟩, fun _ => ⟨rfl, hV0⟩⟩ ?_⟩ | refine ⟨0, refE Aa, And.intro ⟨fun h => h, fun _ => ⟨rfl, hA0⟩⟩ ?_⟩ | refine ⟨0, refE Aa, And.intro ⟨⟨fun h => h, fun h => h⟩, fun _ => ⟨rfl, hA0⟩⟩ ?_⟩ | refine Exists.intro false ?_ | (refine And.intro ?_ ?_; focus (simp; done)) | fail)
  all_goals (conv => whnf)
  refine dle_bool ?_
  subst f1
  subst f2
  subst f6
  subst h5'
  subst h6'
  kernel_rfl
end Go.Proofs.Ytbaapljlalgddaa

set_option linter.unusedSimpArgs false
set_option linter.unusedVariables false
set_option maxRecDepth 100000
namespace Go.Proofs.Ytbaapljlalgddaa
open Go.Lift
/-! following the edges -/
def nx (l : List Edge) (a : Ref) : Option Ref := (leaveR l a).map (·.to)
def itR (l : List Edge) (a : Ref) : Nat → Option Ref
  | 0 => some a
  | k + 1 => (itR l a k).bind (nx l)
theorem it_add (l : List Edge) (a : Ref) (i : Nat) : ∀ m, itR l a (i + m) = (itR l a i).bind fun y => itR l y m
  | 0 => by cases h : itR l a i <;> simp [itR, h]
  | m + 1 => by
    rw [← Nat.add_assoc, itR, it_add l a i m]
    cases h : itR l a i <;> simp [itR]
theorem it_one (l : List Edge) (a : Ref) : itR l a 1 = nx l a := rfl
theorem nx_some {l : List Edge} {a : Ref} (h : (leaveR l a).isSome = true) : nx l a = some ((leaveR l a).getD zEdge).to := by
  unfold nx
  cases hL : leaveR l a with
  | none => rw [hL] at h; cases h
  | some e => rfl
theorem nx_none {l : List Edge} {a : Ref} (h : (leaveR l a).isSome = false) : nx l a = none := by
  unfold nx
  cases hL : leaveR l a with
  | none => rfl
  | some e => rw [hL] at h; cases h
theorem nx_if (l : List Edge) (a : Ref) : nx l a = if (leaveR l a).isSome then some ((leaveR l a).getD zEdge).to else none := by
  cases h : (leaveR l a).isSome with
  | true => rw [nx_some h]; rfl
  | false => rw [nx_none h]; rfl
theorem go_spec {l : List Edge} {a : Ref} : ∀ (n : Nat) (out : List Ref) (e : Edge) (b : Bool), InvG l out e b → l.length + 1 - out.length ≤ n → (∀ j (h : j < out.length), itR l a (j + 1) = some out[j]) → (itR l a (out.length + 1) = if b then some e.to else none) →
    (∀ j (h : j < (goR l n out e b).length), itR l a (j + 1) = some (goR l n out e b)[j]) ∧ (itR l a ((goR l n out e b).length + 1) = none ∨ ∃ x ∈ goR l n out e b, itR l a ((goR l n out e b).length + 1) = some x)
  | 0, out, e, b, hI, hn, _, _ => by
    have := hI.len
    omega
  | n + 1, out, e, b, hI, hn, h1, h2 => by
    cases hb : (b && !hasR out e.to) with
    | true =>
      have he : goR l (n + 1) out e b = goR l n (out ++ [e.to]) ((leaveR l e.to).getD zEdge) (leaveR l e.to).isSome := by rw [goR, hb]; rfl
      rw [he]
      obtain ⟨hI2, hl2⟩ := hI.step hb
      simp only [Bool.and_eq_true, Bool.not_eq_true'] at hb
      rw [hb.1] at h2
      have h2 : itR l a (out.length + 1) = some e.to := h2
      refine go_spec n _ _ _ hI2 (by simp; omega) (fun j hj => ?_) ?_
      · simp only [List.length_append, List.length_singleton] at hj
        rcases Nat.lt_succ_iff_lt_or_eq.1 hj with hj | rfl
        · rw [List.getElem_append_left hj]
          exact h1 j hj
        · rw [h2]
          simp
      · simp only [List.length_append, List.length_singleton]
        rw [itR, h2, ← nx_if]
        rfl
    | false =>
      have he : goR l (n + 1) out e b = out := by rw [goR, hb]; rfl
      simp only [he]
      refine ⟨h1, ?_⟩
      rw [h2]
      cases b with
      | false => exact .inl rfl
      | true =>
        simp only [Bool.true_and, Bool.not_eq_false'] at hb
        exact .inr ⟨e.to, has_iff.1 hb, rfl⟩
theorem reach_spec {l : List Edge} (hv : validW l = true) (a : Ref) : (∀ j (h : j < (reachR l a).length), itR l a (j + 1) = some (reachR l a)[j]) ∧ (itR l a ((reachR l a).length + 1) = none ∨ ∃ x ∈ reachR l a, itR l a ((reachR l a).length + 1) = some x) := by
  have he : reachR l a = goR l (l.length + 1) [] ((leaveR l a).getD zEdge) (leaveR l a).isSome := by rw [reachR, hv]; rfl
  rw [he]
  exact go_spec (l.length + 1) [] _ _ (inv0 l a) (Nat.le_refl _) (fun j hj => absurd hj (Nat.not_lt_zero _)) (by
    show (itR l a 0).bind (nx l) = _
    rw [← nx_if]
    rfl)
theorem reach_nodup (l : List Edge) (a : Ref) : (reachR l a).Nodup := by
  unfold reachR
  cases validW l with
  | false => exact List.nodup_nil
  | true => exact (go_len l _ _ _ _ (inv0 l a)).2
/-- whatever is reached is in the list -/
theorem reach_all {l : List Edge} (hv : validW l = true) (a : Ref) : ∀ (j : Nat) (x : Ref), itR l a (j + 1) = some x → x ∈ reachR l a := by
  obtain ⟨h1, h2⟩ := reach_spec hv a
  intro j
  induction j using Nat.strongRecOn with
  | ind j ih =>
    intro x hx
    rcases Nat.lt_or_ge j (reachR l a).length with hj | hj
    · rw [h1 j hj] at hx
      cases hx
      exact List.getElem_mem hj
    · obtain ⟨m, rfl⟩ : ∃ m, j = (reachR l a).length + m := ⟨j - (reachR l a).length, by omega⟩
      rw [show (reachR l a).length + m + 1 = ((reachR l a).length + 1) + m by omega, it_add] at hx
      rcases h2 with h2 | ⟨y, hy, h2⟩
      · rw [h2] at hx
        cases hx
      · rw [h2] at hx
        have hx : itR l y m = some x := hx
        obtain ⟨i, hi, rfl⟩ := List.getElem_of_mem hy
        have h3 := it_add l a (i + 1) m
        rw [h1 i hi] at h3
        have h3 : itR l a (i + 1 + m) = itR l (reachR l a)[i] m := h3
        rw [hx] at h3
        exact ih (i + m) (by omega) x (by rw [← h3]; congr 1; omega)
theorem reach_iff {l : List Edge} (hv : validW l = true) {a x : Ref} : x ∈ reachR l a ↔ ∃ k, itR l a (k + 1) = some x := by
  constructor
  · intro h
    obtain ⟨i, hi, rfl⟩ := List.getElem_of_mem h
    exact ⟨i, (reach_spec hv a).1 i hi⟩
  · rintro ⟨k, hk⟩
    exact reach_all hv a k x hk
theorem next_nx {l : List Edge} (hv : validW l = true) (a : Ref) : nextR l a = nx l a := by
  rw [nextR, hv]
  rfl
theorem nx_ok {l : List Edge} (hv : validW l = true) {a b : Ref} (h : nx l a = some b) : refB a = true ∧ refB b = true ∧ ∃ e ∈ l, e.fr = a ∧ e.to = b := by
  unfold nx at h
  cases hL : leaveR l a with
  | none => rw [hL] at h; cases h
  | some e =>
    rw [hL] at h
    have hm := leave_mem (l := l) (a := a) (by rw [hL]; rfl)
    rw [hL] at hm
    have hm : e ∈ l ∧ e.fr = a := hm
    have he : e.to = b := by
      simpa using h
    have ho := (validW_pw hv).2.1 e hm.1
    simp only [okE, Bool.and_eq_true] at ho
    rw [hm.2, he] at ho
    exact ⟨ho.1, ho.2.1, e, hm.1, hm.2, he⟩
theorem step_dead {l : List Edge} (hv : validW l = true) {a x : Ref} {i : Nat} (h : 200 ≤ i ∨ nx l x = none) : stepR l ⟨a, x, i⟩ = (zPrb, false, false) := by
  unfold stepR
  rcases h with h | h
  · rw [show decide ((200 : Int) ≤ ((⟨a, x, i⟩ : Prb)).n) = true from decide_eq_true (by simp only []; omega)]
    simp
  · rw [next_nx hv, h]
    simp
theorem step_live {l : List Edge} (hv : validW l = true) {a x y : Ref} {i : Nat} (ha : refB a = true) (hi : i < 200) (h : nx l x = some y) : stepR l ⟨a, x, i⟩ = (⟨a, y, ((i + 1 : Nat) : Int)⟩, refEq y a, true) := by
  unfold stepR
  have hw : IntKind.i64.wrap ((i : Int) + 1) = ((i + 1 : Nat) : Int) := wrap_succ (by omega)
  simp only [next_nx hv, h, ha, (nx_ok hv h).1, hw]
  rw [decide_eq_false (show ¬ (i : Int) < 0 by omega), decide_eq_false (show ¬ (200 : Int) ≤ (i : Int) by omega)]
  rfl
/-! WaitFinds -/
set_option maxHeartbeats 1000000 in
theorem r3 (l : List Edge) (hl : l.length ≤ maxLen) (a : Ref) : Ret Try.prog 3 [.lst 6 (l.map edgE) false, .agg (refE a)] (.v (.bool true)) := by
  have e1 := c_law25_Small l hl
  have e2 := c_r25_Valid l hl
  have e3 := c_r14_ValidRef a
  have e4 := c_wait_Begin a
  generalize hb1 : smallW l = b1 at *
  generalize hb2 : validW l = b2 at *
  generalize hb3 : refB a = b3 at *
  refine ret_of_body (fn := Try.f3) (c := Try.f3.body.getD .skip) hm hT (by kernel_rfl) Try.func3 (by kernel_rfl) (by kernel_rfl) (by kernel_rfl) (by kernel_rfl) ?_
  repeat' ((conv => whnf); first | refine And.intro (fun h => h) ?_ | refine dcond_t (by assumption) ?_ | refine dcond_f (by assumption) ?_ | (refine dcond_intro ?_ ?_ <;> intro h) | exact .refl | refine And.intro (by kernel_rfl) ?_ | refine And.intro ⟨fun h => h, fun h => h⟩ ?_ | refine .inl ⟨_, _, DleAll_refl _, c_law25_awake, ?_⟩ | refine ⟨_, _, DleAll_refl _, fun _ => c_law25_awake, ?_⟩ | refine ⟨_, _, DleAll_refl _, c_law25_awake, ?_⟩ | refine .inl ⟨_, _, DleAll_refl _, e1, ?_⟩ | refine ⟨_, _, DleAll_refl _, fun _ => e1, ?_⟩ | refine ⟨_, _, DleAll_refl _, e1, ?_⟩ | refine .inl ⟨_, _, DleAll_refl _, e2, ?_⟩ | refine ⟨_, _, DleAll_refl _, fun _ => e2, ?_⟩ | refine ⟨_, _, DleAll_refl _, e2, ?_⟩ | refine .inl ⟨_, _, DleAll_refl _, e3, ?_⟩ | refine ⟨_, _, DleAll_refl _, fun _ => e3, ?_⟩ | refine ⟨_, _, DleAll_refl _, e3, ?_⟩ | refine .inl ⟨_, _, DleAll_refl _, e4, ?_⟩ | refine ⟨_, _, DleAll_refl _, fun _ => e4, ?_⟩ | refine ⟨_, _, DleAll_refl _, e4, ?_⟩ | refine Exists.intro false ?_ | (refine And.intro ?_ ?_; focus (simp; done)) | fail)
  all_goals (conv => whnf)
  simp only [Bool.or_eq_false_iff, Bool.not_eq_false'] at h
  obtain ⟨⟨_, hv⟩, ha⟩ := h
  rw [← hb2] at hv
  rw [← hb3] at ha
  clear hb1 hb2 hb3 e1 e2 e3 e4
  have hlen := (validW_pw hv).1
  have hsp := (reach_spec hv a).1
  have hrl := reach_len l a
  have hri := reach_iff hv (a := a) (x := a)
  have eo := c_wait_OnCycle l (by omega) a
  refine ⟨Nat × Ref, fun y => ⟨[(0, .lst 6 (l.map edgE) false), (3, .lp 0 0), (5, .lp 1 0), (6, i64 y.1)], [.cells 24 (refE a), .cells 29 (prbE ⟨a, y.2, y.1⟩)]⟩, fun y => y.1 ≤ 200 ∧ itR l a y.1 = some y.2 ∧ ∀ j, j < y.1 → itR l a (j + 1) ≠ some a, fun y => 201 - y.1, [], ⟨(0, a), ⟨Nat.zero_le _, rfl, fun j hj => absurd hj (Nat.not_lt_zero _)⟩, ?_⟩, ?_⟩
  · conv => whnf
    exact ⟨⟨.refl, .refl, .refl, .refl, trivial⟩, ⟨.refl, .refl, trivial⟩, by rfl⟩
  · intro ⟨i, x⟩ ⟨hi, hx, hno⟩
    simp only at hi hx hno
    have es := c_wait_Step l hl ⟨a, x, i⟩
    have hnext : itR l a (i + 1) = nx l x := by
      rw [itR, hx]
      rfl
    by_cases hdead : 200 ≤ i ∨ nx l x = none
    · rw [step_dead hv hdead] at es
      have hoc : hasR (reachR l a) a = false := by
        rw [has_false]
        intro hm
        obtain ⟨k, hk, he⟩ := List.getElem_of_mem hm
        have h1 := hsp k hk
        rw [he] at h1
        rcases Nat.lt_or_ge k i with hki | hki
        · exact hno k hki h1
        · rcases hdead with hd | hd
          · omega
          · rw [hd] at hnext
            obtain ⟨m, rfl⟩ : ∃ m, k = i + m := ⟨k - i, by omega⟩
            rw [show i + m + 1 = (i + 1) + m by omega, it_add, hnext] at h1
            cases h1
      generalize hasR (reachR l a) a = oc at *
      obtain ⟨f1, hf1⟩ : ∃ b : Bool, b = false := ⟨false, rfl⟩
      have es : Ret Try.prog 11 [.lst 6 (l.map edgE) false, .agg (prbE ⟨a, x, i⟩)] (.tup [.agg (prbE zPrb), .v (.bool f1), .v (.bool f1)]) := by
        rw [hf1]
        exact es
      repeat' ((conv => whnf); first | refine And.intro (fun h => h) ?_ | refine dcond_t (by assumption) ?_ | refine dcond_f (by assumption) ?_ | (refine dcond_intro ?_ ?_ <;> intro h) | exact .refl | refine And.intro (by kernel_rfl) ?_ | refine And.intro ⟨fun h => h, fun h => h⟩ ?_ | refine .inl ⟨_, _, DleAll_refl _, es, ?_⟩ | refine ⟨_, _, DleAll_refl _, fun _ => es, ?_⟩ | refine ⟨_, _, DleAll_refl _, es, ?_⟩ | refine .inl ⟨_, _, DleAll_refl _, eo, ?_⟩ | refine ⟨_, _, DleAll_refl _, fun _ => eo, ?_⟩ | refine ⟨_, _, DleAll_refl _, eo, ?_⟩ | refine Exists.intro false ?_ | (refine And.intro ?_ ?_; focus (simp; done)) | fail)
      all_goals (conv => whnf)
      · refine dle_bool ?_
        rw [hf1, hoc]
        rfl
      · rw [hf1] at h
        simp at h
      · simp at h
        omega
    · obtain ⟨y, hy⟩ : ∃ y, nx l x = some y := by
        cases hq : nx l x with
        | none => exact absurd (.inr hq) hdead
        | some y => exact ⟨y, rfl⟩
      have hi2 : i < 200 := Nat.lt_of_not_le fun e => hdead (.inl e)
      rw [step_live hv ha hi2 hy] at es
      rw [hy] at hnext
      have hoc : refEq y a = true → hasR (reachR l a) a = true := fun h => by
        rw [has_iff, hri]
        refine ⟨i, ?_⟩
        rw [hnext, refEq_iff.1 h]
      have hnf : refEq y a = false → y ≠ a := fun h e => by
        rw [e, refEq_refl] at h
        cases h
      generalize hasR (reachR l a) a = oc at *
      generalize refEq y a = fd at *
      obtain ⟨t1, ht1⟩ : ∃ b : Bool, b = true := ⟨true, rfl⟩
      have es : Ret Try.prog 11 [.lst 6 (l.map edgE) false, .agg (prbE ⟨a, x, i⟩)] (.tup [.agg (prbE ⟨a, y, ((i + 1 : Nat) : Int)⟩), .v (.bool fd), .v (.bool t1)]) := by
        rw [ht1]
        exact es
      repeat' ((conv => whnf); first | refine And.intro (fun h => h) ?_ | refine dcond_t (by assumption) ?_ | refine dcond_f (by assumption) ?_ | (refine dcond_intro ?_ ?_ <;> intro h) | exact .refl | refine And.intro (by kernel_rfl) ?_ | refine And.intro ⟨fun h => h, fun h => h⟩ ?_ | refine .inl ⟨_, _, DleAll_refl _, es, ?_⟩ | refine ⟨_, _, DleAll_refl _, fun _ => es, ?_⟩ | refine ⟨_, _, DleAll_refl _, es, ?_⟩ | refine .inl ⟨_, _, DleAll_refl _, eo, ?_⟩ | refine ⟨_, _, DleAll_refl _, fun _ => eo, ?_⟩ | refine ⟨_, _, DleAll_refl _, eo, ?_⟩ | refine Exists.intro false ?_ | (refine And.intro ?_ ?_; focus (simp; done)) | fail)
      all_goals (conv => whnf)
      · rw [ht1] at h
        have h : fd = true := by simpa using h
        refine dle_bool ?_
        rw [ht1, hoc h, h]
        rfl
      · rw [ht1] at h
        have hfd : fd = false := by simpa using h
        have hya := hnf hfd
        refine ⟨(i + 1, y), ⟨hi2, hnext, fun j hj => ?_⟩, by simp only []; omega, ?_⟩
        · rcases Nat.lt_succ_iff_lt_or_eq.1 hj with hj | rfl
          · exact hno j hj
          · rw [hnext]
            intro e
            exact hya (by injection e)
        · conv => whnf
          exact ⟨⟨.refl, .refl, .refl, dle_int (wrap_succ (by omega)), trivial⟩, ⟨.refl, .refl, trivial⟩, by rfl⟩
      · simp at h
        omega
end Go.Proofs.Ytbaapljlalgddaa

set_option linter.unusedSimpArgs false
set_option linter.unusedVariables false
set_option maxRecDepth 100000
namespace Go.Proofs.Ytbaapljlalgddaa
open Go.Lift
/-! the victim is the youngest -/
def cand (c : List Ref) (e : Edge) : Bool := !e.held && hasR c e.fr
theorem best_succ (l : List Edge) (c : List Ref) (k : Nat) : bestA l c (k + 1) = bif cand c (l.getD k zEdge) && (!(bestA l c k).2 || decide ((bestA l c k).1.age < (l.getD k zEdge).age)) then (l.getD k zEdge, true) else bestA l c k := rfl
theorem best_spec (l : List Edge) (c : List Ref) : ∀ k, k ≤ l.length → ((bestA l c k).2 = false → ∀ j (h : j < l.length), j < k → cand c l[j] = false) ∧ ((bestA l c k).2 = true → ∃ i, ∃ hi : i < l.length, i < k ∧ (bestA l c k).1 = l[i] ∧ cand c l[i] = true ∧ ∀ j (h : j < l.length), j < k → cand c l[j] = true → l[j].age ≤ l[i].age ∧ (l[j].age = l[i].age → i ≤ j))
  | 0, _ => ⟨fun _ j _ hj => absurd hj (Nat.not_lt_zero _), fun h => by cases h⟩
  | k + 1, hk => by
    obtain ⟨h1, h2⟩ := best_spec l c k (by omega)
    have hlt : k < l.length := by omega
    have hg : l.getD k zEdge = l[k] := by simp [hlt]
    rw [best_succ, hg]
    generalize bestA l c k = B at *
    obtain ⟨B, f⟩ := B
    simp only at h1 h2 ⊢
    cases hc : cand c l[k] with
    | false =>
      simp only [Bool.false_and, cond_false]
      refine ⟨fun hf j hj hjk => ?_, fun hf => ?_⟩
      · rcases Nat.lt_succ_iff_lt_or_eq.1 hjk with hjk | rfl
        · exact h1 hf j hj hjk
        · exact hc
      · obtain ⟨i, hi, hik, hB, hci, hall⟩ := h2 hf
        refine ⟨i, hi, by omega, hB, hci, fun j hj hjk hcj => ?_⟩
        rcases Nat.lt_succ_iff_lt_or_eq.1 hjk with hjk | rfl
        · exact hall j hj hjk hcj
        · rw [hc] at hcj
          cases hcj
    | true =>
      simp only [Bool.true_and]
      cases hf : f with
      | false =>
        simp only [Bool.not_false, Bool.true_or, cond_true]
        refine ⟨fun h => (by cases h), fun _ => ⟨k, hlt, by omega, rfl, hc, fun j hj hjk hcj => ?_⟩⟩
        rcases Nat.lt_succ_iff_lt_or_eq.1 hjk with hjk | rfl
        · rw [h1 hf j hj hjk] at hcj
          cases hcj
        · exact ⟨Int.le_refl _, fun _ => Nat.le_refl _⟩
      | true =>
        obtain ⟨i, hi, hik, hB, hci, hall⟩ := h2 hf
        subst hB
        by_cases hlt2 : l[i].age < l[k].age
        · rw [decide_eq_true hlt2]
          simp only [Bool.or_true, cond_true]
          refine ⟨fun h => (by cases h), fun _ => ⟨k, hlt, by omega, rfl, hc, fun j hj hjk hcj => ?_⟩⟩
          rcases Nat.lt_succ_iff_lt_or_eq.1 hjk with hjk | rfl
          · have := hall j hj hjk hcj
            exact ⟨by omega, fun e => by omega⟩
          · exact ⟨Int.le_refl _, fun _ => Nat.le_refl _⟩
        · rw [decide_eq_false hlt2]
          simp only [Bool.not_true, Bool.or_self, cond_false]
          refine ⟨fun h => (by cases h), fun _ => ⟨i, hi, by omega, rfl, hci, fun j hj hjk hcj => ?_⟩⟩
          rcases Nat.lt_succ_iff_lt_or_eq.1 hjk with hjk | rfl
          · exact hall j hj hjk hcj
          · exact ⟨by omega, fun _ => by omega⟩
theorem fr_inj {l : List Edge} (h : l.Pairwise fun a b => lessB a.fr b.fr = true) {i j : Nat} (hi : i < l.length) (hj : j < l.length) (he : l[i].fr = l[j].fr) : i = j := by
  rw [List.pairwise_iff_getElem] at h
  rcases Nat.lt_trichotomy i j with hij | hij | hij
  · have := h i j hi hj hij
    rw [he, less_irrefl] at this
    cases this
  · exact hij
  · have := h j i hj hi hij
    rw [he, less_irrefl] at this
    cases this
/-- the law's look at the victim: its age, whether it is held, whether any edge may be refused -/
def yA (l : List Edge) (c : List Ref) (v : Ref) : Nat → Int × Bool × Bool
  | 0 => (0, false, false)
  | k + 1 => (bif refEq (l.getD k zEdge).fr v then (l.getD k zEdge).age else (yA l c v k).1, bif refEq (l.getD k zEdge).fr v then (l.getD k zEdge).held else (yA l c v k).2.1, (yA l c v k).2.2 || (hasR c (l.getD k zEdge).fr && !(l.getD k zEdge).held))
theorem yA_any (l : List Edge) (c : List Ref) (v : Ref) : ∀ k, k ≤ l.length → ((yA l c v k).2.2 = true ↔ ∃ j, ∃ h : j < l.length, j < k ∧ cand c l[j] = true)
  | 0, _ => ⟨fun h => (by cases h), fun ⟨j, _, hj, _⟩ => absurd hj (Nat.not_lt_zero _)⟩
  | k + 1, hk => by
    have ih := yA_any l c v k (by omega)
    have hlt : k < l.length := by omega
    have hg : l.getD k zEdge = l[k] := by simp [hlt]
    have hc : (hasR c l[k].fr && !l[k].held) = cand c l[k] := by
      unfold cand
      exact Bool.and_comm _ _
    simp only [yA, hg, hc, Bool.or_eq_true, ih]
    constructor
    · rintro (⟨j, hj, hjk, hcj⟩ | h)
      · exact ⟨j, hj, by omega, hcj⟩
      · exact ⟨k, hlt, by omega, h⟩
    · rintro ⟨j, hj, hjk, hcj⟩
      rcases Nat.lt_succ_iff_lt_or_eq.1 hjk with hjk | rfl
      · exact .inl ⟨j, hj, hjk, hcj⟩
      · exact .inr hcj
theorem yA_at {l : List Edge} (hp : l.Pairwise fun a b => lessB a.fr b.fr = true) (c : List Ref) {i : Nat} (hi : i < l.length) : ∀ k, k ≤ l.length → i < k → (yA l c l[i].fr k).1 = l[i].age ∧ (yA l c l[i].fr k).2.1 = l[i].held
  | 0, _, h => absurd h (Nat.not_lt_zero _)
  | k + 1, hk, hik => by
    have hlt : k < l.length := by omega
    have hg : l.getD k zEdge = l[k] := by simp [hlt]
    simp only [yA, hg]
    by_cases he : k = i
    · subst he
      rw [refEq_refl]
      exact ⟨rfl, rfl⟩
    · have hne : refEq l[k].fr l[i].fr = false := by
        cases hq : refEq l[k].fr l[i].fr with
        | false => rfl
        | true => exact absurd (fr_inj hp hlt hi (refEq_iff.1 hq)) he
      rw [hne]
      exact yA_at hp c hi k (by omega) (by omega)
/-- the third check: no edge is younger -/
def younger (c : List Ref) (v : Ref) (age : Int) (e : Edge) : Bool := (hasR c e.fr && !e.held) && (decide (age < e.age) || (decide (e.age = age) && lessB e.fr v))
theorem young_ok {l : List Edge} (hv : validW l = true) {c : List Ref} (hc : c ∈ cyclesR l) {V : Ref × Bool} (hV : V = vicR l c) {Y : Int × Bool × Bool} (hY : Y = yA l c V.1 l.length) :
    V.2 = Y.2.2 ∧ (V.2 = true → Y.2.1 = false ∧ hasR c V.1 = true ∧ ∀ j (h : j < l.length), younger c V.1 Y.1 l[j] = false) := by
  have hpw := (validW_pw hv).2.2
  have hV2 : V = ((bestA l c l.length).1.fr, (bestA l c l.length).2) := by
    rw [hV, vicR, hasC_iff.2 hc]
    rfl
  obtain ⟨b1, b2⟩ := best_spec l c l.length (Nat.le_refl _)
  generalize bestA l c l.length = B at *
  obtain ⟨B, f⟩ := B
  simp only at b1 b2 hV2
  subst hV2
  simp only at hY ⊢
  have hany := yA_any l c B.fr l.length (Nat.le_refl _)
  rw [← hY] at hany
  cases hf : f with
  | false =>
    refine ⟨?_, fun h => by cases h⟩
    cases hq : Y.2.2 with
    | false => rfl
    | true =>
      obtain ⟨j, hj, _, hcj⟩ := hany.1 hq
      rw [b1 hf j hj hj] at hcj
      cases hcj
  | true =>
    obtain ⟨i, hi, _, rfl, hci, hall⟩ := b2 hf
    refine ⟨(hany.2 ⟨i, hi, hi, hci⟩).symm, fun _ => ?_⟩
    have hy := yA_at hpw c hi l.length (Nat.le_refl _) hi
    rw [← hY] at hy
    have hci2 := hci
    simp only [cand, Bool.and_eq_true, Bool.not_eq_true'] at hci2
    refine ⟨hy.2.trans hci2.1, hci2.2, fun j hj => ?_⟩
    unfold younger
    rw [Bool.and_comm (hasR c l[j].fr)]
    cases hcj : cand c l[j] with
    | false =>
      have : (!l[j].held && hasR c l[j].fr) = false := hcj
      rw [this]
      rfl
    | true =>
      have : (!l[j].held && hasR c l[j].fr) = true := hcj
      rw [this, Bool.true_and, hy.1]
      obtain ⟨g1, g2⟩ := hall j hj hj hcj
      rw [decide_eq_false (by omega), Bool.false_or]
      by_cases he : l[j].age = l[i].age
      · rw [decide_eq_true he, Bool.true_and]
        rcases Nat.lt_or_eq_of_le (g2 he) with hij | rfl
        · rw [List.pairwise_iff_getElem] at hpw
          exact less_asymm (hpw i j hi hj hij)
        · exact less_irrefl _
      · rw [decide_eq_false he, Bool.false_and]
/-! WaitYoungest -/
set_option maxHeartbeats 4000000 in
theorem r5 (l : List Edge) (hl : l.length ≤ maxLen) : Ret Try.prog 5 [.lst 6 (l.map edgE) false] (.v (.bool true)) := by
  have e1 := c_law25_Small l hl
  have e2 := c_r25_Valid l hl
  generalize hb1 : smallW l = b1 at *
  generalize hb2 : validW l = b2 at *
  refine ret_of_body (fn := Try.f5) (c := Try.f5.body.getD .skip) hm hT (by kernel_rfl) Try.func5 (by kernel_rfl) (by kernel_rfl) (by kernel_rfl) (by kernel_rfl) ?_
  repeat' ((conv => whnf); first | refine And.intro (fun h => h) ?_ | refine dcond_t (by assumption) ?_ | refine dcond_f (by assumption) ?_ | (refine dcond_intro ?_ ?_ <;> intro h) | exact .refl | refine And.intro (by kernel_rfl) ?_ | refine And.intro ⟨fun h => h, fun h => h⟩ ?_ | refine .inl ⟨_, _, DleAll_refl _, c_law25_awake, ?_⟩ | refine ⟨_, _, DleAll_refl _, fun _ => c_law25_awake, ?_⟩ | refine ⟨_, _, DleAll_refl _, c_law25_awake, ?_⟩ | refine .inl ⟨_, _, DleAll_refl _, e1, ?_⟩ | refine ⟨_, _, DleAll_refl _, fun _ => e1, ?_⟩ | refine ⟨_, _, DleAll_refl _, e1, ?_⟩ | refine .inl ⟨_, _, DleAll_refl _, e2, ?_⟩ | refine ⟨_, _, DleAll_refl _, fun _ => e2, ?_⟩ | refine ⟨_, _, DleAll_refl _, e2, ?_⟩ | refine Exists.intro false ?_ | (refine And.intro ?_ ?_; focus (simp; done)) | fail)
  all_goals (conv => whnf)
  simp only [Bool.or_eq_false_iff, Bool.not_eq_false', decide_eq_false_iff_not, List.length_map] at h
  obtain ⟨⟨_, h60⟩, hv⟩ := h
  rw [← hb2] at hv
  clear hb1 hb2 e1 e2
  have h60 : l.length ≤ 60 := by omega
  have hcl := cyc_len l
  have eC := c_wait_Cycles l (by omega)
  have eV := fun (q : List Ref) hq => c_wait_Victim l (by omega) q hq
  have hyo := fun (c : List Ref) (hc : c ∈ cyclesR l) => young_ok hv hc rfl rfl
  generalize cyclesR l = C at *
  have hCl : C.length ≤ 60 := by omega
  repeat' ((conv => whnf); first | refine And.intro (fun h => h) ?_ | refine dcond_t (by assumption) ?_ | refine dcond_f (by assumption) ?_ | (refine dcond_intro ?_ ?_ <;> intro h) | exact .refl | refine And.intro (by kernel_rfl) ?_ | refine And.intro ⟨fun h => h, fun h => h⟩ ?_ | refine .inl ⟨_, _, DleAll_refl _, eC, ?_⟩ | refine ⟨_, _, DleAll_refl _, fun _ => eC, ?_⟩ | refine ⟨_, _, DleAll_refl _, eC, ?_⟩ | refine Exists.intro false ?_ | (refine And.intro ?_ ?_; focus (simp; done)) | fail)
  all_goals (conv => whnf)
  refine ⟨Nat, fun i => ⟨[(0, .lst 6 (l.map edgE) false), (3, .lst 1 (C.map cycE) false), (4, i64 i)], []⟩, fun i => i ≤ C.length, fun i => C.length - i, [], ⟨0, Nat.zero_le _, ?_⟩, ?_⟩
  · conv => whnf
    exact ⟨⟨.refl, .refl, .refl, trivial⟩, trivial, by rfl⟩
  · intro i hi
    repeat' ((conv => whnf); first | refine And.intro (fun h => h) ?_ | refine dcond_t (by assumption) ?_ | refine dcond_f (by assumption) ?_ | (refine dcond_intro ?_ ?_ <;> intro h) | exact .refl | refine And.intro (by kernel_rfl) ?_ | refine And.intro ⟨fun h => h, fun h => h⟩ ?_ | refine Exists.intro false ?_ | (refine And.intro ?_ ?_; focus (simp; done)) | fail)
    · have hlt : i < C.length := by simpa using h
      clear h
      have hmem := List.getElem_mem hlt
      have hcm : C[i].length ≤ maxLen := by
        have := hcl.2 _ hmem
        simp only [maxLen]
        omega
      have hyo := hyo C[i] hmem
      have eV := eV C[i] hcm
      generalize vicR l C[i] = V at *
      obtain ⟨v, ok⟩ := V
      simp only at hyo eV
      repeat' ((conv => whnf); first | refine And.intro (fun h => h) ?_ | refine dcond_t (by assumption) ?_ | refine dcond_f (by assumption) ?_ | (refine dcond_intro ?_ ?_ <;> intro h) | exact .refl | refine And.intro (by kernel_rfl) ?_ | refine And.intro ⟨fun h => h, fun h => h⟩ ?_ | refine ⟨_, _, And.intro ⟨rfl, get_map hlt⟩ ?_⟩ | refine .inl ⟨_, _, DleAll_refl _, eV, ?_⟩ | refine ⟨_, _, DleAll_refl _, fun _ => eV, ?_⟩ | refine ⟨_, _, DleAll_refl _, eV, ?_⟩ | refine Exists.intro false ?_ | (refine And.intro ?_ ?_; focus (simp; done)) | fail)
      all_goals (conv => whnf)
      refine ⟨Nat, fun k => ⟨[(0, .lst 6 (l.map edgE) false), (3, .lst 1 (C.map cycE) false), (4, i64 i), (5, .lp 0 0), (6, .v (.bool ok)), (7, i64 (yA l C[i] v k).1), (8, .v (.bool (yA l C[i] v k).2.1)), (9, .v (.bool (yA l C[i] v k).2.2)), (10, i64 k)], [.cells 24 (refE v)]⟩, fun k => k ≤ l.length, fun k => l.length - k, [], ⟨0, Nat.zero_le _, ?_⟩, ?_⟩
      · conv => whnf
        exact ⟨⟨.refl, .refl, .refl, .refl, .refl, .refl, .refl, .refl, .refl, trivial⟩, ⟨.refl, trivial⟩, by rfl⟩
      · intro k hk
        repeat' ((conv => whnf); first | refine And.intro (fun h => h) ?_ | refine dcond_t (by assumption) ?_ | refine dcond_f (by assumption) ?_ | (refine dcond_intro ?_ ?_ <;> intro h) | exact .refl | refine And.intro (by kernel_rfl) ?_ | refine And.intro ⟨fun h => h, fun h => h⟩ ?_ | refine Exists.intro false ?_ | (refine And.intro ?_ ?_; focus (simp; done)) | fail)
        · have hltk : k < l.length := by simpa using h
          clear h
          have hg : l.getD k zEdge = l[k] := by simp [hltk]
          have eH := c_r25_Has C[i] hcm l[k].fr
          have hy : yA l C[i] v (k + 1) = (bif refEq (l.getD k zEdge).fr v then (l.getD k zEdge).age else (yA l C[i] v k).1, bif refEq (l.getD k zEdge).fr v then (l.getD k zEdge).held else (yA l C[i] v k).2.1, (yA l C[i] v k).2.2 || (hasR C[i] (l.getD k zEdge).fr && !(l.getD k zEdge).held)) := rfl
          rw [hg] at hy
          have hre : refEq l[k].fr v = (decide (l[k].fr.ty = v.ty) && (decide (l[k].fr.key = v.key) && true)) := rfl
          generalize hasR C[i] l[k].fr = hs at *
          generalize hN : yA l C[i] v (k + 1) = N at *
          generalize hY : yA l C[i] v k = Y at *
          obtain ⟨y1, y2, y3⟩ := Y
          simp only at hy
          repeat' ((conv => whnf); first | refine And.intro (fun h => h) ?_ | refine dcond_t (by assumption) ?_ | refine dcond_f (by assumption) ?_ | (refine dcond_intro ?_ ?_ <;> intro h) | exact .refl | refine And.intro (by kernel_rfl) ?_ | refine And.intro ⟨fun h => h, fun h => h⟩ ?_ | refine ⟨_, _, And.intro ⟨rfl, get_map hltk⟩ ?_⟩ | refine ⟨k, edgE (l[k]'hltk), And.intro ⟨⟨fun h => h, fun h => h⟩, fun _ => ⟨rfl, get_map hltk⟩⟩ ?_⟩ | refine ⟨i, cycE (C[i]'hlt), And.intro ⟨⟨fun h => h, fun h => h⟩, fun _ => ⟨rfl, get_map hlt⟩⟩ ?_⟩ | refine .inl ⟨_, _, DleAll_refl _, eH, ?_⟩ | refine ⟨_, _, DleAll_refl _, fun _ => eH, ?_⟩ | refine ⟨_, _, DleAll_refl _, eH, ?_⟩ | refine Exists.intro false ?_ | (refine And.intro ?_ ?_; focus (simp; done)) | fail)
          all_goals (conv => whnf)
          all_goals refine ⟨k + 1, hltk, by simp only []; omega, ?_⟩
          all_goals (conv => whnf)
          · rw [hre, h] at hy
            have hy : N = (l[k].age, l[k].held, y3 || hs && !l[k].held) := hy
            rw [hy] at hN
            exact ⟨⟨.refl, .refl, .refl, .refl, .refl, dle_int (show l[k].age = (yA l C[i] v (k + 1)).1 by rw [hN]), dle_bool (show l[k].held = (yA l C[i] v (k + 1)).2.1 by rw [hN]), dle_bool (show _ = (yA l C[i] v (k + 1)).2.2 by rw [hN]), dle_int (wrap_succ (by omega)), trivial⟩, ⟨.refl, trivial⟩, by rfl⟩
          · rw [hre, h] at hy
            have hy : N = (y1, y2, y3 || hs && !l[k].held) := hy
            rw [hy] at hN
            exact ⟨⟨.refl, .refl, .refl, .refl, .refl, dle_int (show y1 = (yA l C[i] v (k + 1)).1 by rw [hN]), dle_bool (show y2 = (yA l C[i] v (k + 1)).2.1 by rw [hN]), dle_bool (show _ = (yA l C[i] v (k + 1)).2.2 by rw [hN]), dle_int (wrap_succ (by omega)), trivial⟩, ⟨.refl, trivial⟩, by rfl⟩
        · have hk2 : k = l.length := by
            simp at h
            omega
          subst hk2
          clear h
          have eHv := c_r25_Has C[i] hcm v
          obtain ⟨hy1, hy2⟩ := hyo
          generalize yA l C[i] v l.length = Y at *
          obtain ⟨y1, y2, y3⟩ := Y
          simp only at hy1 hy2
          generalize hhv : hasR C[i] v = hcv at *
          repeat' ((conv => whnf); first | refine And.intro (fun h => h) ?_ | refine dcond_t (by assumption) ?_ | refine dcond_f (by assumption) ?_ | (refine dcond_intro ?_ ?_ <;> intro h) | exact .refl | refine And.intro (by kernel_rfl) ?_ | refine And.intro ⟨fun h => h, fun h => h⟩ ?_ | refine ⟨i, cycE (C[i]'hlt), And.intro ⟨⟨fun h => h, fun h => h⟩, fun _ => ⟨rfl, get_map hlt⟩⟩ ?_⟩ | refine .inl ⟨_, _, DleAll_refl _, eHv, ?_⟩ | refine ⟨_, _, DleAll_refl _, fun _ => eHv, ?_⟩ | refine ⟨_, _, DleAll_refl _, eHv, ?_⟩ | refine Exists.intro false ?_ | (refine And.intro ?_ ?_; focus (simp; done)) | fail)
          all_goals (conv => whnf)
          · exfalso
            have h : ((!ok == y3) || ok && (y2 || !hcv)) = true := h
            cases ok with
            | false => simp [← hy1] at h
            | true =>
              obtain ⟨g1, g2, _⟩ := hy2 rfl
              simp [← hy1, g1, g2] at h
          · clear h
            refine ⟨Nat, fun k => ⟨[(0, .lst 6 (l.map edgE) false), (3, .lst 1 (C.map cycE) false), (4, i64 i), (5, .lp 0 0), (6, .v (.bool ok)), (7, i64 y1), (11, i64 k)], [.cells 24 (refE v)]⟩, fun k => k ≤ l.length, fun k => l.length - k, [], ⟨0, Nat.zero_le _, ?_⟩, ?_⟩
            · conv => whnf
              exact ⟨⟨.refl, .refl, .refl, .refl, .refl, .refl, .refl, trivial⟩, ⟨.refl, trivial⟩, by rfl⟩
            · intro k hk
              repeat' ((conv => whnf); first | refine And.intro (fun h => h) ?_ | refine dcond_t (by assumption) ?_ | refine dcond_f (by assumption) ?_ | (refine dcond_intro ?_ ?_ <;> intro h) | exact .refl | refine And.intro (by kernel_rfl) ?_ | refine And.intro ⟨fun h => h, fun h => h⟩ ?_ | refine Exists.intro false ?_ | (refine And.intro ?_ ?_; focus (simp; done)) | fail)
              all_goals (conv => whnf)
              · have h : (decide ((k : Int) < ((l.map edgE).length : Int)) && ok) = true := h
                rw [Bool.and_eq_true, decide_eq_true_eq, List.length_map] at h
                have hltk : k < l.length := by omega
                have hyk := (hy2 h.2).2.2 k hltk
                clear h
                have eH := c_r25_Has C[i] hcm l[k].fr
                have eL := c_r14_Less l[k].fr v
                unfold younger at hyk
                generalize hasR C[i] l[k].fr = hs at *
                generalize lessB l[k].fr v = hls at *
                repeat' ((conv => whnf); first | refine And.intro (fun h => h) ?_ | refine dcond_t (by assumption) ?_ | refine dcond_f (by assumption) ?_ | (refine dcond_intro ?_ ?_ <;> intro h) | exact .refl | refine And.intro (by kernel_rfl) ?_ | refine And.intro ⟨fun h => h, fun h => h⟩ ?_ | refine ⟨_, _, And.intro ⟨rfl, get_map hltk⟩ ?_⟩ | refine ⟨_, _, And.intro ⟨rfl, get_map hlt⟩ ?_⟩ | refine ⟨k, edgE (l[k]'hltk), And.intro ⟨⟨fun h => h, fun h => h⟩, fun _ => ⟨rfl, get_map hltk⟩⟩ ?_⟩ | refine .inl ⟨_, _, DleAll_refl _, eH, ?_⟩ | refine ⟨_, _, DleAll_refl _, fun _ => eH, ?_⟩ | refine ⟨_, _, DleAll_refl _, eH, ?_⟩ | refine .inl ⟨_, _, DleAll_refl _, eL, ?_⟩ | refine ⟨_, _, DleAll_refl _, fun _ => eL, ?_⟩ | refine ⟨_, _, DleAll_refl _, eL, ?_⟩ | refine Exists.intro false ?_ | (refine And.intro ?_ ?_; focus (simp; done)) | fail)
                all_goals (conv => whnf)
                · refine ⟨k + 1, hltk, by simp only []; omega, ?_⟩
                  conv => whnf
                  exact ⟨⟨.refl, .refl, .refl, .refl, .refl, .refl, dle_int (wrap_succ (by omega)), trivial⟩, ⟨.refl, trivial⟩, by rfl⟩
              · refine ⟨i + 1, hlt, by simp only []; omega, ?_⟩
                conv => whnf
                exact ⟨⟨.refl, .refl, dle_int (wrap_succ (by omega)), trivial⟩, trivial, by rfl⟩
end Go.Proofs.Ytbaapljlalgddaa

set_option linter.unusedSimpArgs false
set_option linter.unusedVariables false
set_option maxRecDepth 100000
namespace Go.Proofs.Ytbaapljlalgddaa
open Go.Lift
/-! without the victims' edges -/
theorem validW_of {l : List Edge} (h1 : l.length ≤ 200) (h2 : ∀ e ∈ l, okE e = true) (h3 : l.Pairwise fun a b => lessB a.fr b.fr = true) : validW l = true := by
  rw [List.pairwise_iff_getElem] at h3
  simp only [validW, Bool.and_eq_true]
  refine ⟨by simp; omega, allB_true.2 (fun i hi => ?_)⟩
  have hg : l.getD i zEdge = l[i] := by simp [hi]
  simp only [okAtE, hg, Bool.and_eq_true]
  refine ⟨h2 _ (List.getElem_mem hi), ?_⟩
  by_cases h0 : 0 < i
  · have hg2 : l.getD (i - 1) zEdge = l[i - 1] := by simp [show i - 1 < l.length by omega]
    rw [hg2, h3 (i - 1) i (by omega) hi (by omega)]
    simp
  · simp [h0]
theorem valid_sub {l l' : List Edge} (h : validW l = true) (hs : l'.Sublist l) : validW l' = true := by
  obtain ⟨h1, h2, h3⟩ := validW_pw h
  exact validW_of (Nat.le_trans hs.length_le h1) (fun e he => h2 e (hs.subset he)) (h3.sublist hs)
def restR (l : List Edge) (v : List Ref) : List Edge := l.filter fun e => !hasR v e.fr
theorem leave_rest (l : List Edge) (v : List Ref) (a : Ref) : leaveR (restR l v) a = if hasR v a then none else leaveR l a := by
  unfold leaveR restR
  induction l with
  | nil => simp
  | cons e l ih =>
    rw [List.filter_cons]
    by_cases he : refEq e.fr a = true
    · have := refEq_iff.1 he
      cases hv : hasR v a with
      | true =>
        rw [this, hv]
        rw [hv] at ih
        simpa using ih
      | false =>
        rw [this, hv]
        simp [this, refEq_refl]
    · rw [Bool.not_eq_true] at he
      cases hv2 : hasR v e.fr with
      | true => simpa [List.find?_cons, he] using ih
      | false => simpa [List.find?_cons, he] using ih
theorem nx_rest (l : List Edge) (v : List Ref) (a : Ref) : nx (restR l v) a = if hasR v a then none else nx l a := by
  unfold nx
  rw [leave_rest]
  cases hasR v a <;> rfl
theorem it_none {l : List Edge} {a : Ref} {j : Nat} (h : itR l a j = none) (m : Nat) : itR l a (j + m) = none := by
  rw [it_add, h]
  rfl
theorem it_period {l : List Edge} {a : Ref} {p : Nat} (h : itR l a p = some a) : ∀ N, itR l a (N * p) = some a
  | 0 => by rw [Nat.zero_mul]; rfl
  | N + 1 => by
    rw [Nat.succ_mul, it_add, it_period h N]
    exact h
theorem cyc_never {l : List Edge} {a : Ref} {p : Nat} (h : itR l a (p + 1) = some a) (j : Nat) : ∃ x, itR l a j = some x := by
  cases hj : itR l a j with
  | some x => exact ⟨x, rfl⟩
  | none =>
    have h1 := it_none hj (j * p)
    have h2 := it_period h j
    rw [show j * (p + 1) = j + j * p by rw [Nat.mul_succ, Nat.add_comm], h1] at h2
    cases h2
theorem reach_same {l : List Edge} (hv : validW l = true) {a x : Ref} {p k : Nat} (hp : itR l a (p + 1) = some a) (hx : itR l a (k + 1) = some x) (y : Ref) : y ∈ reachR l x ↔ y ∈ reachR l a := by
  rw [reach_iff hv, reach_iff hv]
  constructor
  · rintro ⟨m, hm⟩
    refine ⟨k + 1 + m, ?_⟩
    rw [show k + 1 + m + 1 = (k + 1) + (m + 1) by omega, it_add, hx]
    exact hm
  · rintro ⟨m, hm⟩
    have h1 := it_period hp (k + 1)
    rw [show (k + 1) * (p + 1) = (k + 1) + (k + 1) * p by rw [Nat.mul_succ, Nat.add_comm], it_add, hx] at h1
    have h1 : itR l x ((k + 1) * p) = some a := h1
    refine ⟨(k + 1) * p + m, ?_⟩
    rw [Nat.add_assoc, it_add, h1]
    exact hm
theorem minA_spec (c : List Ref) : ∀ k, k + 1 ≤ c.length → minA c (k + 1) ∈ c ∧ ∀ j (h : j < c.length), j < k + 1 → lessB c[j] (minA c (k + 1)) = false
  | 0, hk => by
    have hg : c.getD 0 zRef = c[0] := by simp [show 0 < c.length by omega]
    have hm : minA c 1 = c[0] := by
      simp only [minA, hg, less_irrefl]
      rfl
    rw [hm]
    refine ⟨List.getElem_mem _, fun j hj hj1 => ?_⟩
    have : j = 0 := by omega
    subst this
    exact less_irrefl _
  | k + 1, hk => by
    obtain ⟨h1, h2⟩ := minA_spec c k (by omega)
    have hlt : k + 1 < c.length := by omega
    have hg : c.getD (k + 1) zRef = c[k + 1] := by simp [hlt]
    have hm : minA c (k + 1 + 1) = bif lessB c[k + 1] (minA c (k + 1)) then c[k + 1] else minA c (k + 1) := by
      rw [← hg]
      rfl
    rw [hm]
    cases hl : lessB c[k + 1] (minA c (k + 1)) with
    | true =>
      refine ⟨List.getElem_mem _, fun j hj hjk => ?_⟩
      show lessB c[j] c[k + 1] = false
      rcases Nat.lt_succ_iff_lt_or_eq.1 hjk with hjk | rfl
      · cases hq : lessB c[j] c[k + 1] with
        | false => rfl
        | true =>
          have := h2 j hj hjk
          rw [less_trans hq hl] at this
          cases this
      · exact less_irrefl _
    | false =>
      refine ⟨h1, fun j hj hjk => ?_⟩
      show lessB c[j] (minA c (k + 1)) = false
      rcases Nat.lt_succ_iff_lt_or_eq.1 hjk with hjk | rfl
      · exact h2 j hj hjk
      · exact hl
theorem min_spec {c : List Ref} (h : 0 < c.length) : minL c ∈ c ∧ ∀ x ∈ c, lessB x (minL c) = false := by
  obtain ⟨h1, h2⟩ := minA_spec c (c.length - 1) (by omega)
  rw [show c.length - 1 + 1 = c.length by omega] at h1 h2
  refine ⟨h1, fun x hx => ?_⟩
  obtain ⟨j, hj, rfl⟩ := List.getElem_of_mem hx
  exact h2 j hj hj
theorem min_ext {c d : List Ref} (h : 0 < c.length) (hcd : ∀ x, x ∈ c ↔ x ∈ d) : minL c = minL d := by
  have hd : 0 < d.length := by
    obtain ⟨h1, _⟩ := min_spec h
    exact List.length_pos_of_mem ((hcd _).1 h1)
  obtain ⟨a1, a2⟩ := min_spec h
  obtain ⟨b1, b2⟩ := min_spec hd
  by_cases he : minL c = minL d
  · exact he
  · have h1 := a2 _ ((hcd _).2 b1)
    have h2 := b2 _ ((hcd _).1 a1)
    rw [less_total h1 (fun e => he e.symm)] at h2
    cases h2
theorem cyc1_some {l : List Edge} {e : Edge} {c : List Ref} (h : cyc1 l e = some c) : e.fr ∈ reachR l e.fr ∧ minL (reachR l e.fr) = e.fr ∧ c = e.fr :: (reachR l e.fr).take ((reachR l e.fr).length - 1) := by
  unfold cyc1 at h
  cases hb : (hasR (reachR l e.fr) e.fr && refEq (minL (reachR l e.fr)) e.fr) with
  | false => rw [hb] at h; cases h
  | true =>
    rw [hb] at h
    have h : some (e.fr :: (reachR l e.fr).take ((reachR l e.fr).length - 1)) = some c := h
    rw [Bool.and_eq_true] at hb
    exact ⟨has_iff.1 hb.1, refEq_iff.1 hb.2, by injection h with h; exact h.symm⟩
theorem cyc1_of {l : List Edge} {e : Edge} (h1 : e.fr ∈ reachR l e.fr) (h2 : minL (reachR l e.fr) = e.fr) : cyc1 l e = some (e.fr :: (reachR l e.fr).take ((reachR l e.fr).length - 1)) := by
  unfold cyc1
  rw [has_iff.2 h1, h2, refEq_refl]
  rfl
theorem cyc1_sub {l : List Edge} {e : Edge} {c : List Ref} (h : cyc1 l e = some c) : ∀ x ∈ c, x ∈ reachR l e.fr := by
  obtain ⟨h1, _, rfl⟩ := cyc1_some h
  intro x hx
  rcases List.mem_cons.1 hx with rfl | hx
  · exact h1
  · exact List.mem_of_mem_take hx
theorem cyc1_fr {l : List Edge} {e e' : Edge} (h : e.fr = e'.fr) : cyc1 l e = cyc1 l e' := by
  unfold cyc1
  rw [h]
theorem cyc_disj {l : List Edge} (hv : validW l = true) {e e' : Edge} {c c' : List Ref} {x : Ref} (h : cyc1 l e = some c) (h' : cyc1 l e' = some c') (hx : x ∈ reachR l e.fr) (hx' : x ∈ reachR l e'.fr) : e.fr = e'.fr ∧ c = c' := by
  obtain ⟨a1, a2, a3⟩ := cyc1_some h
  obtain ⟨b1, b2, b3⟩ := cyc1_some h'
  have ha := List.length_pos_of_mem a1
  have key : e.fr = e'.fr := by
    rw [← a2, ← b2]
    refine min_ext ha (fun y => ?_)
    rw [reach_iff hv] at a1 b1 hx hx'
    obtain ⟨p, hp⟩ := a1
    obtain ⟨p', hp'⟩ := b1
    obtain ⟨k, hk⟩ := hx
    obtain ⟨k', hk'⟩ := hx'
    rw [← reach_same hv hp hk, ← reach_same hv hp' hk']
  refine ⟨key, ?_⟩
  rw [cyc1_fr key, h'] at h
  injection h with h
  exact h.symm
/-- lists of what is reached are told by the steps -/
theorem reach_congr {l l' : List Edge} (hv : validW l = true) (hv' : validW l' = true) {a : Ref} (h : ∀ j, itR l a j = itR l' a j) : reachR l a = reachR l' a := by
  obtain ⟨a1, a2⟩ := reach_spec hv a
  obtain ⟨b1, b2⟩ := reach_spec hv' a
  have an := reach_nodup l a
  have bn := reach_nodup l' a
  have key : ∀ {R R' : List Ref}, R'.Nodup → (∀ j (h : j < R.length), itR l a (j + 1) = some R[j]) → (∀ j (h : j < R'.length), itR l a (j + 1) = some R'[j]) → (itR l a (R.length + 1) = none ∨ ∃ x ∈ R, itR l a (R.length + 1) = some x) → R'.length ≤ R.length := by
    intro R R' hn h1 h2 h3
    rcases Nat.lt_or_ge R.length R'.length with hlt | hge
    · exfalso
      have h4 := h2 _ hlt
      rcases h3 with h3 | ⟨x, hx, h3⟩
      · rw [h3] at h4
        cases h4
      · obtain ⟨i, hi, rfl⟩ := List.getElem_of_mem hx
        have h5 := h1 i hi
        have h6 := h2 i (by omega)
        rw [h3] at h4
        rw [h5] at h6
        injection h4 with h4
        injection h6 with h6
        have := (List.getElem_inj (h₀ := by omega) (h₁ := hlt) hn).1 (h6.symm.trans h4)
        omega
    · exact hge
  have hb1 : ∀ j (h : j < (reachR l' a).length), itR l a (j + 1) = some (reachR l' a)[j] := fun j hj => by
    rw [h]
    exact b1 j hj
  have hb2 : itR l a ((reachR l' a).length + 1) = none ∨ ∃ x ∈ reachR l' a, itR l a ((reachR l' a).length + 1) = some x := by
    rw [h]
    exact b2
  have l1 := key bn a1 hb1 a2
  have l2 := key an hb1 a1 hb2
  refine List.ext_getElem (by omega) fun i h1 h2 => ?_
  have := a1 i h1
  rw [hb1 i h2] at this
  injection this with this
  exact this.symm
theorem it_keep {l : List Edge} (hv : validW l = true) {v : List Ref} {a : Ref} (ha : a ∉ v) (h : ∀ x ∈ reachR l a, x ∉ v) : ∀ j, itR l a j = itR (restR l v) a j
  | 0 => rfl
  | j + 1 => by
    rw [itR, itR, ← it_keep hv ha h j]
    cases hj : itR l a j with
    | none => rfl
    | some x =>
      have hx : x ∉ v := by
        cases j with
        | zero =>
          have : a = x := by injection hj
          rw [← this]
          exact ha
        | succ j => exact h x (reach_all hv a j x hj)
      show nx l x = nx (restR l v) x
      rw [nx_rest, has_false.2 hx]
      rfl
theorem it_back {l : List Edge} {v : List Ref} {a : Ref} {p : Nat} (hp : itR (restR l v) a (p + 1) = some a) : ∀ j, itR l a j = itR (restR l v) a j
  | 0 => rfl
  | j + 1 => by
    obtain ⟨x, hx⟩ := cyc_never hp j
    obtain ⟨y, hy⟩ := cyc_never hp (j + 1)
    have h1 : nx (restR l v) x = some y := by
      rw [itR, hx] at hy
      exact hy
    rw [hy, itR, it_back hp j, hx]
    show nx l x = some y
    rw [nx_rest] at h1
    cases hh : hasR v x with
    | true => rw [hh] at h1; cases h1
    | false => rw [hh] at h1; exact h1
theorem rest_alive {l : List Edge} {v : List Ref} {a : Ref} {p : Nat} (hp : itR (restR l v) a (p + 1) = some a) {x : Ref} {j : Nat} (hx : itR (restR l v) a j = some x) : x ∉ v := by
  obtain ⟨y, hy⟩ := cyc_never hp (j + 1)
  rw [itR, hx] at hy
  have h1 : nx (restR l v) x = some y := hy
  rw [nx_rest] at h1
  cases hh : hasR v x with
  | true => rw [hh] at h1; cases h1
  | false => exact has_false.1 hh
/-! victims of cycles -/
theorem vic1_eq {l : List Edge} {c : List Ref} (hc : c ∈ cyclesR l) : vic1 l c = bif (bestA l c l.length).2 then some (bestA l c l.length).1.fr else none := by
  unfold vic1 vicR
  rw [hasC_iff.2 hc]
  rfl
theorem vic_some {l : List Edge} {c : List Ref} {w : Ref} (hc : c ∈ cyclesR l) (h : vic1 l c = some w) : ∃ i, ∃ hi : i < l.length, l[i].fr = w ∧ cand c l[i] = true := by
  rw [vic1_eq hc] at h
  have h2 := (best_spec l c l.length (Nat.le_refl _)).2
  cases hf : (bestA l c l.length).2 with
  | false => rw [hf] at h; cases h
  | true =>
    rw [hf] at h
    have h : some (bestA l c l.length).1.fr = some w := h
    obtain ⟨i, hi, _, hB, hci, _⟩ := h2 hf
    refine ⟨i, hi, ?_, hci⟩
    rw [hB] at h
    injection h
theorem vic_none {l : List Edge} {c : List Ref} (hc : c ∈ cyclesR l) (h : vic1 l c = none) : ∀ j (hj : j < l.length), cand c l[j] = false := by
  rw [vic1_eq hc] at h
  have h1 := (best_spec l c l.length (Nat.le_refl _)).1
  cases hf : (bestA l c l.length).2 with
  | false => exact fun j hj => h1 hf j hj hj
  | true => rw [hf] at h; cases h
theorem vic_no {l : List Edge} {c : List Ref} (hc : c ∈ cyclesR l) (h : ∀ j (hj : j < l.length), cand c l[j] = false) : vic1 l c = none := by
  cases hv : vic1 l c with
  | none => rfl
  | some w =>
    obtain ⟨i, hi, _, h2⟩ := vic_some hc hv
    rw [h i hi] at h2
    cases h2
theorem cyc_mem {l : List Edge} (hv : validW l = true) {c : List Ref} : c ∈ cyclesR l ↔ ∃ e ∈ l, cyc1 l e = some c := by
  rw [cyclesR, hv]
  exact List.mem_filterMap
theorem vics_mem {l : List Edge} (hv : validW l = true) {w : Ref} : w ∈ vicsR l ↔ ∃ e ∈ l, ∃ c, cyc1 l e = some c ∧ vic1 l c = some w := by
  unfold vicsR
  rw [List.mem_filterMap]
  constructor
  · rintro ⟨c, hc, hw⟩
    obtain ⟨e, he, hce⟩ := (cyc_mem hv).1 hc
    exact ⟨e, he, c, hce, hw⟩
  · rintro ⟨e, he, c, hce, hw⟩
    exact ⟨c, (cyc_mem hv).2 ⟨e, he, hce⟩, hw⟩
theorem vic_in {l : List Edge} (hv : validW l = true) {e : Edge} (he : e ∈ l) {c : List Ref} {w : Ref} (hc : cyc1 l e = some c) (hw : vic1 l c = some w) : w ∈ c ∧ ∃ f ∈ l, f.fr = w ∧ f.held = false := by
  obtain ⟨i, hi, h1, h2⟩ := vic_some ((cyc_mem hv).2 ⟨e, he, hc⟩) hw
  simp only [cand, Bool.and_eq_true, Bool.not_eq_true'] at h2
  rw [h1] at h2
  exact ⟨has_iff.1 h2.2, l[i], List.getElem_mem hi, h1, h2.1⟩
end Go.Proofs.Ytbaapljlalgddaa

set_option linter.unusedSimpArgs false
set_option linter.unusedVariables false
set_option maxRecDepth 100000
namespace Go.Proofs.Ytbaapljlalgddaa
open Go.Lift
theorem rest_valid {l : List Edge} (hv : validW l = true) (v : List Ref) : validW (restR l v) = true := valid_sub hv List.filter_sublist
theorem rest_cyc {l : List Edge} (hv : validW l = true) {e : Edge} (he : e ∈ l) {c : List Ref} (h : cyc1 (restR l (vicsR l)) e = some c) : cyc1 l e = some c ∧ vic1 l c = none := by
  have hvr := rest_valid hv (vicsR l)
  obtain ⟨h1, h2, h3⟩ := cyc1_some h
  have h1' := h1
  rw [reach_iff hvr] at h1'
  obtain ⟨p, hp⟩ := h1'
  have hR := reach_congr hv hvr (fun j => it_back hp j)
  have hc : cyc1 l e = some c := by
    rw [h3, ← hR]
    exact cyc1_of (by rw [hR]; exact h1) (by rw [hR]; exact h2)
  refine ⟨hc, ?_⟩
  cases hw : vic1 l c with
  | none => rfl
  | some w =>
    have h4 := cyc1_sub h w (vic_in hv he hc hw).1
    rw [reach_iff hvr] at h4
    obtain ⟨k, hk⟩ := h4
    exact absurd ((vics_mem hv).2 ⟨e, he, c, hc, hw⟩) (rest_alive hp hk)
theorem cyc_rest {l : List Edge} (hv : validW l = true) {e : Edge} {c : List Ref} (h : cyc1 l e = some c) (hn : vic1 l c = none) : cyc1 (restR l (vicsR l)) e = some c ∧ e.fr ∉ vicsR l := by
  have hvr := rest_valid hv (vicsR l)
  obtain ⟨h1, h2, h3⟩ := cyc1_some h
  have hno : ∀ x ∈ reachR l e.fr, x ∉ vicsR l := fun x hx hm => by
    obtain ⟨e', he', c', hc', hw⟩ := (vics_mem hv).1 hm
    have h4 := cyc1_sub hc' x (vic_in hv he' hc' hw).1
    obtain ⟨_, rfl⟩ := cyc_disj hv h hc' hx h4
    rw [hn] at hw
    cases hw
  have hR := reach_congr hv hvr (fun j => it_keep hv (hno _ h1) hno j)
  refine ⟨?_, hno _ h1⟩
  rw [h3, hR]
  exact cyc1_of (by rw [← hR]; exact h1) (by rw [← hR]; exact h2)
theorem cycles_rest {l : List Edge} (hv : validW l = true) : cyclesR (restR l (vicsR l)) = (cyclesR l).filter fun c => (vic1 l c).isNone := by
  rw [cyclesR, cyclesR, hv, rest_valid hv]
  show (restR l (vicsR l)).filterMap (cyc1 (restR l (vicsR l))) = (l.filterMap (cyc1 l)).filter fun c => (vic1 l c).isNone
  have key : ∀ m : List Edge, (∀ e ∈ m, e ∈ l) → (m.filter fun e => !hasR (vicsR l) e.fr).filterMap (cyc1 (restR l (vicsR l))) = (m.filterMap (cyc1 l)).filter fun c => (vic1 l c).isNone := by
    intro m
    induction m with
    | nil => intro _; rfl
    | cons e m ih =>
      intro hm
      have ih := ih (fun x hx => hm x (List.mem_cons_of_mem _ hx))
      have he := hm e (List.mem_cons_self ..)
      rw [List.filter_cons, List.filterMap_cons]
      cases hc : cyc1 l e with
      | none =>
        have hn : cyc1 (restR l (vicsR l)) e = none := by
          cases hq : cyc1 (restR l (vicsR l)) e with
          | none => rfl
          | some c =>
            rw [(rest_cyc hv he hq).1] at hc
            cases hc
        simp only
        split
        · rw [List.filterMap_cons, hn]
          exact ih
        · exact ih
      | some c =>
        simp only
        rw [List.filter_cons]
        cases hw : vic1 l c with
        | none =>
          obtain ⟨g1, g2⟩ := cyc_rest hv hc hw
          rw [has_false.2 g2]
          simp only [Bool.not_false, if_true, Option.isNone_none]
          rw [List.filterMap_cons, g1]
          simp only
          rw [ih]
        | some w =>
          have hn : cyc1 (restR l (vicsR l)) e = none := by
            cases hq : cyc1 (restR l (vicsR l)) e with
            | none => rfl
            | some c' =>
              obtain ⟨g1, g2⟩ := rest_cyc hv he hq
              rw [hc] at g1
              injection g1 with g1
              rw [← g1, hw] at g2
              cases g2
          simp only [Option.isNone_some, Bool.false_eq_true, if_false]
          split
          · rw [List.filterMap_cons, hn]
            exact ih
          · exact ih
  exact key l (fun _ h => h)
theorem count_none {β γ : Type} (f : β → Option γ) : ∀ l : List β, (l.filter fun c => (f c).isNone).length + (l.filterMap f).length = l.length
  | [] => rfl
  | x :: l => by
    have ih := count_none f l
    rw [List.filter_cons, List.filterMap_cons]
    cases h : f x with
    | none =>
      simp only [Option.isNone_none, if_true, List.length_cons]
      omega
    | some y =>
      simp only [Option.isNone_some, Bool.false_eq_true, if_false, List.length_cons]
      omega
theorem vics_nodup {l : List Edge} (hv : validW l = true) : (vicsR l).Nodup := by
  have hpw := (validW_pw hv).2.2
  have hC : cyclesR l = l.filterMap (cyc1 l) := by rw [cyclesR, hv]; rfl
  have hs := cyc_sorted hpw l
  rw [← hC] at hs
  unfold vicsR List.Nodup
  rw [List.pairwise_filterMap]
  refine List.Pairwise.imp_of_mem (fun {c c'} hc hc' hlt => ?_) hs
  intro w hw w' hw' he
  subst he
  obtain ⟨e, hel, hce⟩ := (cyc_mem hv).1 hc
  obtain ⟨e', hel', hce'⟩ := (cyc_mem hv).1 hc'
  have h1 := cyc1_sub hce w (vic_in hv hel hce hw).1
  have h2 := cyc1_sub hce' w (vic_in hv hel' hce' hw').1
  obtain ⟨_, rfl⟩ := cyc_disj hv hce hce' h1 h2
  rw [less_irrefl] at hlt
  cases hlt
theorem vics_count {l : List Edge} (hv : validW l = true) : (l.filter fun e => hasR (vicsR l) e.fr).length = (vicsR l).length := by
  have hpw := (validW_pw hv).2.2
  have hn : ((l.filter fun e => hasR (vicsR l) e.fr).map (·.fr)).Nodup := by
    unfold List.Nodup
    rw [List.pairwise_map]
    refine (hpw.sublist List.filter_sublist).imp fun {a b} hab he => ?_
    rw [he, less_irrefl] at hab
    cases hab
  have h1 := nodup_len (b := vicsR l) hn (fun x hx => by
    obtain ⟨e, he, rfl⟩ := List.mem_map.1 hx
    exact has_iff.1 (List.mem_filter.1 he).2)
  have h2 := nodup_len (b := (l.filter fun e => hasR (vicsR l) e.fr).map (·.fr)) (vics_nodup hv) (fun w hw => by
    obtain ⟨e, he, c, hc, hwc⟩ := (vics_mem hv).1 hw
    obtain ⟨_, f, hf, hfr, _⟩ := vic_in hv he hc hwc
    exact List.mem_map.2 ⟨f, List.mem_filter.2 ⟨hf, has_iff.2 (by rw [hfr]; exact hw)⟩, hfr⟩)
  rw [List.length_map] at h1 h2
  omega
theorem vics_unheld {l : List Edge} (hv : validW l = true) {e : Edge} (he : e ∈ l) (h : hasR (vicsR l) e.fr = true) : e.held = false := by
  obtain ⟨e', he', c, hc, hwc⟩ := (vics_mem hv).1 (has_iff.1 h)
  obtain ⟨_, f, hf, hfr, hh⟩ := vic_in hv he' hc hwc
  obtain ⟨i, hi, rfl⟩ := List.getElem_of_mem he
  obtain ⟨j, hj, rfl⟩ := List.getElem_of_mem hf
  have := fr_inj (validW_pw hv).2.2 hj hi hfr
  subst this
  exact hh
theorem rest_held {l : List Edge} (hv : validW l = true) {c : List Ref} (hc : c ∈ cyclesR (restR l (vicsR l))) {e : Edge} (he : e ∈ l) : cand c e = false := by
  rw [cycles_rest hv, List.mem_filter] at hc
  have hn : vic1 l c = none := by
    have := hc.2
    cases h : vic1 l c with
    | none => rfl
    | some w => rw [h] at this; cases this
  obtain ⟨i, hi, rfl⟩ := List.getElem_of_mem he
  exact vic_none hc.1 hn i hi
theorem rest_vics {l : List Edge} (hv : validW l = true) : vicsR (restR l (vicsR l)) = [] := by
  rw [vicsR]
  refine List.filterMap_eq_nil_iff.2 (fun c hc => ?_)
  exact vic_no hc (fun j hj => rest_held hv hc (List.mem_filter.1 (List.getElem_mem hj)).1)
theorem rest_count {l : List Edge} (hv : validW l = true) : (cyclesR (restR l (vicsR l))).length + (vicsR l).length = (cyclesR l).length := by
  rw [cycles_rest hv]
  exact count_none (vic1 l) (cyclesR l)
def remK (l : List Edge) (v : List Ref) (k : Nat) : Nat := ((l.take k).filter fun e => hasR v e.fr).length
def resK (l : List Edge) (v : List Ref) (k : Nat) : List Edge := restR (l.take k) v
theorem remK_succ {l : List Edge} {v : List Ref} {i : Nat} (h : i < l.length) : remK l v (i + 1) = remK l v i + if hasR v l[i].fr then 1 else 0 := by
  unfold remK
  rw [List.take_succ_eq_append_getElem h, List.filter_append, List.length_append]
  cases hh : hasR v l[i].fr <;> simp [hh]
theorem resK_succ {l : List Edge} {v : List Ref} {i : Nat} (h : i < l.length) : resK l v (i + 1) = resK l v i ++ if hasR v l[i].fr then [] else [l[i]] := by
  unfold resK restR
  rw [List.take_succ_eq_append_getElem h, List.filter_append]
  cases hh : hasR v l[i].fr <;> simp [hh]
theorem remK_le (l : List Edge) (v : List Ref) (k : Nat) : remK l v k ≤ k ∧ (resK l v k).length ≤ k := by
  have h1 := List.length_filter_le (fun e => hasR v e.fr) (l.take k)
  have h2 := List.length_filter_le (fun e => !hasR v e.fr) (l.take k)
  rw [List.length_take] at h1 h2
  unfold remK resK restR
  omega
/-! WaitBreaks -/
set_option maxHeartbeats 4000000 in
theorem r4 (l : List Edge) (hl : l.length ≤ maxLen) : Ret Try.prog 4 [.lst 6 (l.map edgE) false] (.v (.bool true)) := by
  have e1 := c_law25_Small l hl
  have e2 := c_r25_Valid l hl
  generalize hb1 : smallW l = b1 at *
  generalize hb2 : validW l = b2 at *
  refine ret_of_body (fn := Try.f4) (c := Try.f4.body.getD .skip) hm hT (by kernel_rfl) Try.func4 (by kernel_rfl) (by kernel_rfl) (by kernel_rfl) (by kernel_rfl) ?_
  repeat' ((conv => whnf); first | refine And.intro (fun h => h) ?_ | refine dcond_t (by assumption) ?_ | refine dcond_f (by assumption) ?_ | (refine dcond_intro ?_ ?_ <;> intro h) | exact .refl | refine And.intro (by kernel_rfl) ?_ | refine And.intro ⟨fun h => h, fun h => h⟩ ?_ | refine .inl ⟨_, _, DleAll_refl _, c_law25_awake, ?_⟩ | refine ⟨_, _, DleAll_refl _, fun _ => c_law25_awake, ?_⟩ | refine ⟨_, _, DleAll_refl _, c_law25_awake, ?_⟩ | refine .inl ⟨_, _, DleAll_refl _, e1, ?_⟩ | refine ⟨_, _, DleAll_refl _, fun _ => e1, ?_⟩ | refine ⟨_, _, DleAll_refl _, e1, ?_⟩ | refine .inl ⟨_, _, DleAll_refl _, e2, ?_⟩ | refine ⟨_, _, DleAll_refl _, fun _ => e2, ?_⟩ | refine ⟨_, _, DleAll_refl _, e2, ?_⟩ | refine Exists.intro false ?_ | (refine And.intro ?_ ?_; focus (simp; done)) | fail)
  all_goals (conv => whnf)
  simp only [Bool.or_eq_false_iff, Bool.not_eq_false', decide_eq_false_iff_not, List.length_map] at h
  obtain ⟨⟨_, h60⟩, hv⟩ := h
  rw [← hb2] at hv
  clear hb1 hb2 e1 e2
  have h60 : l.length ≤ 60 := by omega
  have hcl := cyc_len l
  have eC := c_wait_Cycles l (by omega)
  have eV := c_wait_Victims l (by omega)
  have eCr := c_wait_Cycles (restR l (vicsR l))
  have eVr := c_wait_Victims (restR l (vicsR l))
  have hcr := cyc_len (restR l (vicsR l))
  have hrl : (restR l (vicsR l)).length ≤ l.length := List.length_filter_le _ _
  have q1 := vics_count hv
  have q2 := fun e (he : e ∈ l) => vics_unheld hv he
  have q3 := fun c (hc : c ∈ cyclesR (restR l (vicsR l))) e (he : e ∈ l) => rest_held hv hc he
  have q4 := rest_count hv
  rw [rest_vics hv] at eVr
  have hall : resK l (vicsR l) l.length = restR l (vicsR l) ∧ remK l (vicsR l) l.length = (vicsR l).length := by
    unfold resK remK
    rw [List.take_length]
    exact ⟨rfl, q1⟩
  have hsub : ∀ e ∈ restR l (vicsR l), e ∈ l := fun e he => (List.mem_filter.1 he).1
  have hvl : (vicsR l).length ≤ 60 := by omega
  have eCr := eCr (by omega)
  have eVr := eVr (by omega)
  generalize cyclesR (restR l (vicsR l)) = D at *
  generalize hRR : restR l (vicsR l) = R at *
  clear hRR
  generalize cyclesR l = C at *
  generalize vicsR l = V at *
  repeat' ((conv => whnf); first | refine And.intro (fun h => h) ?_ | refine dcond_t (by assumption) ?_ | refine dcond_f (by assumption) ?_ | (refine dcond_intro ?_ ?_ <;> intro h) | exact .refl | refine And.intro (by kernel_rfl) ?_ | refine And.intro ⟨fun h => h, fun h => h⟩ ?_ | refine .inl ⟨_, _, DleAll_refl _, eV, ?_⟩ | refine ⟨_, _, DleAll_refl _, fun _ => eV, ?_⟩ | refine ⟨_, _, DleAll_refl _, eV, ?_⟩ | refine Exists.intro false ?_ | (refine And.intro ?_ ?_; focus (simp; done)) | fail)
  all_goals (conv => whnf)
  refine ⟨Nat, fun i => ⟨[(0, .lst 6 (l.map edgE) false), (3, .lst 2 (V.map refE) false), (4, .own 0), (5, i64 (remK l V i)), (6, i64 i)], [.row 38 6 ((resK l V i).map edgE)]⟩, fun i => i ≤ l.length, fun i => l.length - i, [.slot 4 38 6], ⟨0, Nat.zero_le _, ?_⟩, ?_⟩
  · conv => whnf
    exact ⟨⟨.refl, .refl, .refl, .refl, .refl, trivial⟩, ⟨.refl, trivial⟩, by rfl⟩
  · intro i hi
    have hkl := remK_le l V i
    repeat' ((conv => whnf); first | refine And.intro (fun h => h) ?_ | refine dcond_t (by assumption) ?_ | refine dcond_f (by assumption) ?_ | (refine dcond_intro ?_ ?_ <;> intro h) | exact .refl | refine And.intro (by kernel_rfl) ?_ | refine And.intro ⟨fun h => h, fun h => h⟩ ?_ | refine Exists.intro false ?_ | (refine And.intro ?_ ?_; focus (simp; done)) | fail)
    · have hlt : i < l.length := by simpa using h
      clear h
      have eH := c_r25_Has V (by simp only [maxLen]; omega) l[i].fr
      have hs1 := remK_succ (v := V) hlt
      have hs2 := resK_succ (v := V) hlt
      have q2 := q2 l[i] (List.getElem_mem hlt)
      generalize hasR V l[i].fr = hb at *
      repeat' ((conv => whnf); first | refine And.intro (fun h => h) ?_ | refine dcond_t (by assumption) ?_ | refine dcond_f (by assumption) ?_ | (refine dcond_intro ?_ ?_ <;> intro h) | exact .refl | refine And.intro (by kernel_rfl) ?_ | refine And.intro ⟨fun h => h, fun h => h⟩ ?_ | refine ⟨_, _, And.intro ⟨rfl, get_map hlt⟩ ?_⟩ | refine .inl ⟨_, _, DleAll_refl _, eH, ?_⟩ | refine ⟨_, _, DleAll_refl _, fun _ => eH, ?_⟩ | refine ⟨_, _, DleAll_refl _, eH, ?_⟩ | refine And.intro (fitsE (by simp <;> omega)) ?_ | refine Exists.intro false ?_ | (refine And.intro ?_ ?_; focus (simp; done)) | fail)
      all_goals (conv => whnf)
      · rename_i h1
        rw [q2 h1] at h
        cases h
      · rename_i h1
        refine ⟨i + 1, hlt, by simp only []; omega, ?_⟩
        conv => whnf
        rw [h1] at hs1 hs2
        refine ⟨⟨.refl, .refl, .refl, dle_int ?_, dle_int (wrap_succ (by omega)), trivial⟩, ⟨ole_row ?_, trivial⟩, by rfl⟩
        · rw [wrap_i64 (by omega) (by omega), hs1]
          rfl
        · rw [hs2]
          simp
      · refine ⟨i + 1, hlt, by simp only []; omega, ?_⟩
        conv => whnf
        rw [h] at hs1 hs2
        refine ⟨⟨.refl, .refl, .refl, dle_int ?_, dle_int (wrap_succ (by omega)), trivial⟩, ⟨ole_row ?_, trivial⟩, by rfl⟩
        · rw [hs1]
          rfl
        · rw [hs2, List.map_append]
          rfl
    · have : i = l.length := by
        simp at h
        omega
      subst this
      clear h
      rw [hall.1, hall.2]
      have hg : (!(!decide ((V.length : Int) = ((V.map refE).length : Int)) || decide (((C.map cycE).length : Int) < ((V.map refE).length : Int)))) = true := by
        simp only [List.length_map]
        rw [decide_eq_false (p := (C.length : Int) < (V.length : Int)) (by omega), Bool.or_false, Bool.not_not]
        exact decide_eq_true trivial
      repeat' ((conv => whnf); first | refine And.intro (fun h => h) ?_ | refine dcond_t (by assumption) ?_ | refine dcond_f (by assumption) ?_ | (refine dcond_intro ?_ ?_ <;> intro h) | exact .refl | refine And.intro (by kernel_rfl) ?_ | refine And.intro ⟨fun h => h, fun h => h⟩ ?_ | refine .inl ⟨_, _, DleAll_refl _, eC, ?_⟩ | refine ⟨_, _, DleAll_refl _, fun _ => eC, ?_⟩ | refine ⟨_, _, DleAll_refl _, eC, ?_⟩ | refine And.intro (fun _ => ?_) (fun hgf => absurd (hg.symm.trans hgf) (by decide)) | refine .inl ⟨_, _, DleAll_refl _, eVr, ?_⟩ | refine ⟨_, _, DleAll_refl _, fun _ => eVr, ?_⟩ | refine ⟨_, _, DleAll_refl _, eVr, ?_⟩ | refine .inl ⟨_, _, DleAll_refl _, eCr, ?_⟩ | refine ⟨_, _, DleAll_refl _, fun _ => eCr, ?_⟩ | refine ⟨_, _, DleAll_refl _, eCr, ?_⟩ | refine Exists.intro false ?_ | (refine And.intro ?_ ?_; focus (simp; done)) | fail)
      all_goals (conv => whnf)
      · exfalso
        rw [Bool.not_eq_true'] at hg
        rw [hg] at h
        simp at h
      · clear h
        refine ⟨Nat, fun i => ⟨[(0, .lst 6 (l.map edgE) false), (3, .lst 2 (V.map refE) false), (4, .lst 6 (R.map edgE) false), (7, .lst 1 (D.map cycE) false), (8, i64 i)], []⟩, fun i => i ≤ D.length, fun i => D.length - i, [], ⟨0, Nat.zero_le _, ?_⟩, ?_⟩
        · conv => whnf
          exact ⟨⟨.refl, .refl, .refl, .refl, .refl, trivial⟩, trivial, by rfl⟩
        · intro i hi
          repeat' ((conv => whnf); first | refine And.intro (fun h => h) ?_ | refine dcond_t (by assumption) ?_ | refine dcond_f (by assumption) ?_ | (refine dcond_intro ?_ ?_ <;> intro h) | exact .refl | refine And.intro (by kernel_rfl) ?_ | refine And.intro ⟨fun h => h, fun h => h⟩ ?_ | refine Exists.intro false ?_ | (refine And.intro ?_ ?_; focus (simp; done)) | fail)
          all_goals (conv => whnf)
          · have hlt : i < D.length := by simpa using h
            clear h
            refine ⟨Nat, fun k => ⟨[(0, .lst 6 (l.map edgE) false), (3, .lst 2 (V.map refE) false), (4, .lst 6 (R.map edgE) false), (7, .lst 1 (D.map cycE) false), (8, i64 i), (9, i64 k)], []⟩, fun k => k ≤ R.length, fun k => R.length - k, [], ⟨0, Nat.zero_le _, ?_⟩, ?_⟩
            · conv => whnf
              exact ⟨⟨.refl, .refl, .refl, .refl, .refl, .refl, trivial⟩, trivial, by rfl⟩
            · intro k hk
              repeat' ((conv => whnf); first | refine And.intro (fun h => h) ?_ | refine dcond_t (by assumption) ?_ | refine dcond_f (by assumption) ?_ | (refine dcond_intro ?_ ?_ <;> intro h) | exact .refl | refine And.intro (by kernel_rfl) ?_ | refine And.intro ⟨fun h => h, fun h => h⟩ ?_ | refine Exists.intro false ?_ | (refine And.intro ?_ ?_; focus (simp; done)) | fail)
              all_goals (conv => whnf)
              · have hltk : k < R.length := by simpa using h
                clear h
                have hcd := hcr.2 _ (List.getElem_mem hlt)
                have eH := c_r25_Has D[i] (by simp only [maxLen]; omega) R[k].fr
                have hq := q3 D[i] (List.getElem_mem hlt) R[k] (hsub _ (List.getElem_mem hltk))
                unfold cand at hq
                rw [Bool.and_comm] at hq
                generalize hasR D[i] R[k].fr = hb at *
                repeat' ((conv => whnf); first | refine And.intro (fun h => h) ?_ | refine dcond_t (by assumption) ?_ | refine dcond_f (by assumption) ?_ | (refine dcond_intro ?_ ?_ <;> intro h) | exact .refl | refine And.intro (by kernel_rfl) ?_ | refine And.intro ⟨fun h => h, fun h => h⟩ ?_ | refine ⟨_, _, And.intro ⟨rfl, get_map hltk⟩ ?_⟩ | refine ⟨_, _, And.intro ⟨rfl, get_map hlt⟩ ?_⟩ | refine ⟨k, edgE (R[k]'hltk), And.intro ⟨⟨fun h => h, fun h => h⟩, fun _ => ⟨rfl, get_map hltk⟩⟩ ?_⟩ | refine .inl ⟨_, _, DleAll_refl _, eH, ?_⟩ | refine ⟨_, _, DleAll_refl _, fun _ => eH, ?_⟩ | refine ⟨_, _, DleAll_refl _, eH, ?_⟩ | refine Exists.intro false ?_ | (refine And.intro ?_ ?_; focus (simp; done)) | fail)
                all_goals (conv => whnf)
                refine ⟨k + 1, hltk, by simp only []; omega, ?_⟩
                conv => whnf
                exact ⟨⟨.refl, .refl, .refl, .refl, .refl, dle_int (wrap_succ (by omega)), trivial⟩, trivial, by rfl⟩
              · refine ⟨i + 1, hlt, by simp only []; omega, ?_⟩
                conv => whnf
                exact ⟨⟨.refl, .refl, .refl, .refl, dle_int (wrap_succ (by omega)), trivial⟩, trivial, by rfl⟩
          · repeat' ((conv => whnf); first | refine And.intro (fun h => h) ?_ | refine dcond_t (by assumption) ?_ | refine dcond_f (by assumption) ?_ | (refine dcond_intro ?_ ?_ <;> intro h) | exact .refl | refine And.intro (by kernel_rfl) ?_ | refine And.intro ⟨fun h => h, fun h => h⟩ ?_ | refine .inl ⟨_, _, DleAll_refl _, eC, ?_⟩ | refine ⟨_, _, DleAll_refl _, fun _ => eC, ?_⟩ | refine ⟨_, _, DleAll_refl _, eC, ?_⟩ | refine Exists.intro false ?_ | (refine And.intro ?_ ?_; focus (simp; done)) | fail)
            all_goals (conv => whnf)
            refine dle_bool ?_
            simp only [List.length_map]
            rw [wrap_i64 (by omega) (by omega)]
            exact decide_eq_true (by omega)
end Go.Proofs.Ytbaapljlalgddaa
