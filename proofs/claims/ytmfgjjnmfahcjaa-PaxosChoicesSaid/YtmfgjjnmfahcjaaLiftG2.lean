/- A data-level logic for the model: what a body does to data; its soundness (part LiftG2). No conditions. -/
import Derived.Test.YtmfgjjnmfahcjaaLiftK
set_option linter.unusedSimpArgs false
set_option linter.unusedVariables false
namespace Go.Lift
open Go

/-! # What is told of a value is told once and for all -/
def Gen (F : (Option Prop → DV → Prop) → Prop) : Prop := ∀ Q, F Q → ∃ c d, Q c d ∧ ∀ Q', Q' c d → F Q'
section
variable {P : Program} {tt : TT} {s : DS} {ρ : Operand → DV} {loc : List LObj}

theorem gen_ret (c : Option Prop) (d : DV) : Gen (fun Q => Q c d) := fun Q h => ⟨c, d, h, fun _ h' => h'⟩
theorem gen_no : Gen (fun _ => False) := fun Q h => h.elim
theorem gen_ex {α : Type} {F : α → (Option Prop → DV → Prop) → Prop} (h : ∀ k, Gen (F k)) : Gen (fun Q => ∃ k, F k Q) := fun Q ⟨k, hk⟩ => by
  obtain ⟨c, d, h1, h2⟩ := h k Q hk
  exact ⟨c, d, h1, fun Q' h' => ⟨k, h2 Q' h'⟩⟩
theorem gen_map {F : (Option Prop → DV → Prop) → Prop} {g : (Option Prop → DV → Prop) → (Option Prop → DV → Prop)} (hF : Gen F) (hg : ∀ c d, Gen (fun Q => g Q c d)) : Gen (fun Q => F (g Q)) := fun Q h => by
  obtain ⟨c, d, h1, h2⟩ := hF _ h
  obtain ⟨c', d', h3, h4⟩ := hg c d Q h1
  exact ⟨c', d', h3, fun Q' h' => h2 _ (h4 _ h')⟩
theorem gen_frc {F : DV → (Option Prop → DV → Prop) → Prop} {d : DV} (h : Gen (F d)) : Gen (fun Q => frc d fun d => F d Q) := by cases d <;> exact h
theorem gen_takeK : ∀ {n : Nat} {l : List DV} {F : List DV → (Option Prop → DV → Prop) → Prop}, (∀ l, Gen (F l)) → Gen (fun Q => takeK n l fun l => F l Q)
  | 0, l, F, h => h []
  | n + 1, [], F, h => gen_no
  | n + 1, d :: r, F, h => gen_frc (F := fun d Q => takeK n r fun l => F (d :: l) Q) (gen_takeK (F := fun l Q => F (d :: l) Q) (fun l => h (d :: l)))
theorem gen_dropK : ∀ {n : Nat} {l : List DV} {F : List DV → (Option Prop → DV → Prop) → Prop}, (∀ l, Gen (F l)) → Gen (fun Q => dropK n l fun l => F l Q)
  | 0, l, F, h => h l
  | n + 1, [], F, h => gen_no
  | n + 1, d :: r, F, h => gen_dropK (l := r) h
theorem gen_take {agg : Bool} {size : Nat} {l : List DV} {F : DV → (Option Prop → DV → Prop) → Prop} (h : ∀ d, Gen (F d)) : Gen (fun Q => dTake agg size l fun d => F d Q) := by
  cases agg
  · cases l
    · exact gen_no
    · exact gen_frc (h _)
  · exact gen_takeK (F := fun l Q => F (.agg l) Q) (fun l => h _)
theorem gen_buildK {place : Nat → Nat × Nat} {F : List DV → (Option Prop → DV → Prop) → Prop} (h : ∀ l, Gen (F l)) : ∀ {parts : List (Nat × Operand)} {cs : List DV}, Gen (fun Q => buildK ρ place parts cs fun l => F l Q)
  | [], cs => h cs
  | (i, x) :: r, cs => by
    refine gen_frc (F := fun d Q => match d with
      | .wh _ _ => False
      | .tup _ => False
      | .junk => False
      | d => match Nat.beq (dcells d).length (place i).2 && Nat.ble ((place i).1 + (dcells d).length) cs.length && Nat.blt 0 (place i).2 with
        | true => buildK ρ place r (dsplice cs (place i).1 (dcells d)) fun l => F l Q
        | false => False) ?_
    have key : ∀ d, Gen (fun Q => match Nat.beq (dcells d).length (place i).2 && Nat.ble ((place i).1 + (dcells d).length) cs.length && Nat.blt 0 (place i).2 with
        | true => buildK ρ place r (dsplice cs (place i).1 (dcells d)) fun l => F l Q
        | false => False) := by
      intro d
      generalize (Nat.beq (dcells d).length (place i).2 && Nat.ble ((place i).1 + (dcells d).length) cs.length && Nat.blt 0 (place i).2) = b
      cases b
      · exact gen_no
      · exact gen_buildK h
    generalize ρ x = d
    cases d <;> first | exact gen_no | exact key _
theorem gen_evL {F : List DV → (Option Prop → DV → Prop) → Prop} : ∀ {l : List Operand} {F : List DV → (Option Prop → DV → Prop) → Prop}, (∀ l, Gen (F l)) → Gen (fun Q => evL ρ l fun l => F l Q)
  | [], F, h => h []
  | x :: r, F, h => gen_frc (F := fun d Q => evL ρ r fun l => F (d :: l) Q) (gen_evL (F := fun l Q => F (ρ x :: l) Q) (fun l => h _))
theorem gen_obl {b : Bool} {d : DV} {F : Option Prop → DV → (Option Prop → DV → Prop) → Prop} (h : ∀ c d, Gen (F c d)) : Gen (fun Q => obl b d fun c d => F c d Q) := by
  cases d <;> exact h _ _
theorem gen_dpickV {c ka kb : Bool} {x y : DV} {F : DV → (Option Prop → DV → Prop) → Prop} (h : ∀ d, Gen (F d)) : Gen (fun Q => dpickV c x y ka kb fun d => F d Q) := by
  cases x
  case v x =>
    cases x
    case bool p =>
      cases y
      case v y =>
        cases y
        case bool q => cases ka <;> cases kb <;> exact h _
        all_goals exact gen_no
      all_goals exact gen_no
    all_goals exact gen_no
  all_goals exact gen_no
theorem gen_pick {c a b : Operand} : Gen (dPick ρ c a b) := by
  unfold dPick
  generalize ρ c = x
  cases x
  case v x =>
    cases x
    case bool t =>
      exact gen_obl (F := fun c1 x Q => obl (!t) (ρ b) fun c2 y => frc x fun x => frc y fun y => dpickV t x y (isConstTrue a) (isConstFalse b) fun d => Q (andO c1 c2) d)
        (fun c1 x => gen_obl (F := fun c2 y Q => frc x fun x => frc y fun y => dpickV t x y (isConstTrue a) (isConstFalse b) fun d => Q (andO c1 c2) d)
        (fun c2 y => gen_frc (F := fun x Q => frc y fun y => dpickV t x y (isConstTrue a) (isConstFalse b) fun d => Q (andO c1 c2) d)
        (gen_frc (F := fun y Q => dpickV t x y (isConstTrue a) (isConstFalse b) fun d => Q (andO c1 c2) d) (gen_dpickV (F := fun d Q => Q (andO c1 c2) d) (fun d => gen_ret _ _)))))
    all_goals exact gen_no
  all_goals exact gen_no
theorem gen_eqCells {F : Bool → (Option Prop → DV → Prop) → Prop} : ∀ {ks : List SK} {xs ys : List DV} {F : Bool → (Option Prop → DV → Prop) → Prop}, (∀ b, Gen (F b)) → Gen (fun Q => eqCells ks xs ys fun b => F b Q)
  | [], [], [], F, h => h true
  | k :: ks, x :: r, y :: r', F, h => by
    have ih : ∀ e, Gen (fun Q => eqCells ks r r' fun z => F (e && z) Q) := fun e => gen_eqCells (F := fun z Q => F (e && z) Q) (fun z => h _)
    show Gen (fun Q => eq1K k x y fun e => eqCells ks r r' fun z => F (e && z) Q)
    unfold eq1K
    cases k <;> cases x
    all_goals first | exact gen_no | skip
    all_goals rename_i p
    all_goals cases p
    all_goals first | exact gen_no | skip
    all_goals cases y
    all_goals first | exact gen_no | skip
    all_goals rename_i q
    all_goals cases q
    all_goals first | exact gen_no | exact ih _ | skip
    rename_i k k1 a k2 b
    show Gen (fun Q => match ikEq k k1 && ikEq k k2 with
      | true => eqCells ks r r' fun z => F (decide (a = b) && z) Q
      | false => False)
    generalize (ikEq k k1 && ikEq k k2) = e
    cases e
    · exact gen_no
    · exact ih _
  | [], [], _ :: _, F, h => gen_no
  | [], _ :: _, [], F, h => gen_no
  | [], _ :: _, _ :: _, F, h => gen_no
  | _ :: _, [], [], F, h => gen_no
  | _ :: _, [], _ :: _, F, h => gen_no
  | _ :: _, _ :: _, [], F, h => gen_no
theorem gen_bin {t : TypeId} {op : BinOp} {x y : DV} : Gen (dbin tt t op x y) := by
  unfold dbin
  cases x
  case v x =>
    cases x
    case int k a =>
      cases y
      case v y =>
        cases y
        case int k' b =>
          show Gen (fun Q => match isShift op with
            | true => dShift op k a b Q
            | false => match ikEq k k' with
              | true => dInt op k a b Q
              | false => False)
          cases op
          all_goals first | exact gen_ret _ _ | skip
          all_goals generalize ikEq k k' = e
          all_goals cases e
          all_goals first | exact gen_no | exact gen_ret _ _
        all_goals exact gen_no
      all_goals exact gen_no
    case string a =>
      cases y
      case v y =>
        cases y
        case string b =>
          cases op
          all_goals first | exact gen_ret _ _ | exact gen_no
        all_goals exact gen_no
      all_goals exact gen_no
    case bool a =>
      cases y
      case v y =>
        cases y
        case bool b =>
          show Gen (fun Q => match (tinfo tt t).k with
            | .bool => dBool op a b Q
            | _ => False)
          generalize (tinfo tt t).k = k
          cases k
          case bool => cases op <;> first | exact gen_ret _ _ | exact gen_no
          all_goals exact gen_no
        all_goals exact gen_no
      all_goals exact gen_no
    all_goals exact gen_no
  case agg a =>
    cases y
    case agg b =>
      show Gen (fun Q => dAgg tt t op a b Q)
      unfold dAgg
      generalize flatK tt 5 t = f
      generalize (tinfo tt t).agg = g
      cases f
      · exact gen_no
      · cases g
        · exact gen_no
        · cases op
          case eql => exact gen_eqCells (F := fun r Q => Q none (.v (.bool r))) (fun _ => gen_ret _ _)
          case neq => exact gen_eqCells (F := fun r Q => Q none (.v (.bool (!r)))) (fun _ => gen_ret _ _)
          all_goals exact gen_no
    all_goals exact gen_no
  all_goals exact gen_no
theorem gen_convert {ks k : TK} {d : DV} : Gen (dConvert tt ks k d) := by
  unfold dConvert
  cases ks
  case int =>
    cases k
    case int =>
      cases d
      case v x => cases x <;> first | exact gen_ret _ _ | exact gen_no
      all_goals exact gen_no
    all_goals exact gen_no
  case str =>
    cases k
    case str =>
      cases d
      case v x => cases x <;> first | exact gen_ret _ _ | exact gen_no
      all_goals exact gen_no
    all_goals exact gen_no
  case slc e =>
    cases k
    case str =>
      cases d
      case lst sz es f =>
        show Gen (fun Q => match (tinfo tt e).k, Nat.beq sz 1 with
          | .int .u8, true => ∃ bs : List UInt8, Q (some (es = bs.map byteE)) (.v (.string ⟨bs.toArray⟩))
          | _, _ => False)
        generalize (tinfo tt e).k = k
        generalize Nat.beq sz 1 = b
        cases k
        case int k =>
          cases k
          case u8 =>
            cases b
            · exact gen_no
            · exact gen_ex (fun _ => gen_ret _ _)
          all_goals exact gen_no
        all_goals exact gen_no
      all_goals exact gen_no
    all_goals exact gen_no
  all_goals exact gen_no
theorem gen_fieldAddr {t : TypeId} {f : Nat} {d : DV} : Gen (dFieldAddr tt loc t f d) := by
  unfold dFieldAddr
  generalize (tinfo tt t).k = k
  cases k
  case st fs =>
    show Gen (fun Q => match (tinfo tt (fieldOf fs f).1).size with
      | 0 => False
      | _ => match d with
        | .lp i o => Q none (.lp i (o + (fieldOf fs f).2))
        | .ap i o => Q none (.ap i (o + (fieldOf fs f).2))
        | .rp i k o => match isRow (lget loc i) with
          | true => Q none (.rp i k (o + (fieldOf fs f).2))
          | false => False
        | .ip cs => dropK (fieldOf fs f).2 cs fun l => Q none (.ip l)
        | _ => False)
    generalize (tinfo tt (fieldOf fs f).1).size = z
    cases z
    · exact gen_no
    · cases d
      case ip cs => exact gen_dropK (F := fun l Q => Q none (.ip l)) (fun l => gen_ret _ _)
      case rp i k o =>
        show Gen (fun Q => match isRow (lget loc i) with
          | true => Q none (.rp i k (o + (fieldOf fs f).2))
          | false => False)
        generalize isRow (lget loc i) = b
        cases b
        · exact gen_no
        · exact gen_ret _ _
      all_goals first | exact gen_ret _ _ | exact gen_no
  all_goals exact gen_no
theorem gen_field {t : TypeId} {f : Nat} {d : DV} : Gen (dField tt t f d) := by
  unfold dField
  generalize (tinfo tt t).k = k
  cases k
  case st fs =>
    show Gen (fun Q => match (tinfo tt (fieldOf fs f).1).size with
      | 0 => False
      | _ => match d with
        | .agg cs => dropK (fieldOf fs f).2 cs fun l => dTake (tinfo tt (fieldOf fs f).1).agg (tinfo tt (fieldOf fs f).1).size l fun d => Q none d
        | _ => False)
    generalize (tinfo tt (fieldOf fs f).1).size = z
    cases z
    · exact gen_no
    · cases d
      case agg cs => exact gen_dropK (F := fun l Q => dTake _ _ l fun d => Q none d) (fun l => gen_take (F := fun d Q => Q none d) (fun d => gen_ret _ _))
      all_goals exact gen_no
  all_goals exact gen_no
theorem gen_indexSlc {size : Nat} {ix : Int} {d : DV} : Gen (dIndexSlc loc size ix d) := by
  unfold dIndexSlc
  cases d
  case lst sz es f =>
    show Gen (fun Q => match Nat.beq sz size with
      | true => ∃ (k : Nat) (ed : List DV), Q (some (ix = k ∧ es[k]? = some ed)) (.ip ed)
      | false => False)
    generalize Nat.beq sz size = b
    cases b
    · exact gen_no
    · exact gen_ex (fun k => gen_ex (fun ed => gen_ret _ _))
  case own j =>
    show Gen (fun Q => match lget loc j with
      | .row _ sz es => match Nat.beq sz size with
        | true => ∃ k : Nat, Q (some (ix = k ∧ k < es.length)) (.rp j k 0)
        | false => False
      | _ => False)
    generalize lget loc j = ob
    cases ob
    case row e sz es =>
      show Gen (fun Q => match Nat.beq sz size with
        | true => ∃ k : Nat, Q (some (ix = k ∧ k < es.length)) (.rp j k 0)
        | false => False)
      generalize Nat.beq sz size = b
      cases b
      · exact gen_no
      · exact gen_ex (fun k => gen_ret _ _)
    all_goals exact gen_no
  all_goals exact gen_no
theorem gen_indexArr {n size : Nat} {lit : Option Nat} {ix : Int} {d : DV} : Gen (dIndexArr n size lit ix d) := by
  unfold dIndexArr
  cases lit
  · cases d
    case lp => exact gen_ex (fun k => gen_ret _ _)
    case ap => exact gen_ex (fun k => gen_ret _ _)
    all_goals exact gen_no
  · cases d <;> first | exact gen_ret _ _ | exact gen_no
theorem gen_indexAddr {t : TypeId} {i : Operand} {x y : DV} : Gen (dIndexAddr tt loc t i x y) := by
  unfold dIndexAddr
  generalize (tinfo tt t).k = k
  cases k
  case slc e =>
    cases y
    case v y =>
      cases y
      case int ik ix =>
        show Gen (fun Q => match (tinfo tt e).size with
          | 0 => False
          | _ => dIndexSlc loc (tinfo tt e).size ix x Q)
        generalize (tinfo tt e).size = z
        cases z
        · exact gen_no
        · exact gen_indexSlc
      all_goals exact gen_no
    all_goals exact gen_no
  case arr n e =>
    cases y
    case v y =>
      cases y
      case int ik ix =>
        show Gen (fun Q => match (tinfo tt e).size with
          | 0 => False
          | _ => dIndexArr n (tinfo tt e).size (natLit i) ix x Q)
        generalize (tinfo tt e).size = z
        cases z
        · exact gen_no
        · exact gen_indexArr
      all_goals exact gen_no
    all_goals exact gen_no
  all_goals exact gen_no
theorem gen_index {t : TypeId} {x y : DV} : Gen (dIndex tt t x y) := by
  unfold dIndex
  cases y
  case v y =>
    cases y
    case int ik ix =>
      show Gen (fun Q => match (tinfo tt t).k, x with
        | .str, .v (.string s) => ∃ k : Nat, Q (some (ix = k ∧ k < s.size)) (.v (.int .u8 (s.data.getD k 0).toNat))
        | .arr n e, .agg cs => match (tinfo tt e).agg, Nat.beq (tinfo tt e).size 1 with
          | false, true => ∃ (k : Nat) (d : DV), frc d fun d => Q (some (ix = k ∧ k < n ∧ cs[k]? = some d)) d
          | _, _ => False
        | _, _ => False)
      generalize (tinfo tt t).k = k
      cases k
      case str =>
        cases x
        case v x => cases x <;> first | exact gen_ex (fun k => gen_ret _ _) | exact gen_no
        all_goals exact gen_no
      case arr n e =>
        cases x
        case agg cs =>
          show Gen (fun Q => match (tinfo tt e).agg, Nat.beq (tinfo tt e).size 1 with
            | false, true => ∃ (k : Nat) (d : DV), frc d fun d => Q (some (ix = k ∧ k < n ∧ cs[k]? = some d)) d
            | _, _ => False)
          generalize (tinfo tt e).agg = g
          generalize Nat.beq (tinfo tt e).size 1 = b
          cases g
          · cases b
            · exact gen_no
            · exact gen_ex (fun k => gen_ex (fun d => gen_frc (F := fun d Q => Q (some (ix = k ∧ k < n ∧ cs[k]? = some d)) d) (gen_ret _ _)))
          · exact gen_no
        all_goals exact gen_no
      all_goals exact gen_no
    all_goals exact gen_no
  all_goals exact gen_no
theorem gen_load {t : TypeId} {d : DV} : Gen (dLoad tt loc t d) := by
  unfold dLoad
  generalize (tinfo tt t).size = z
  generalize (tinfo tt t).agg = g
  cases z
  · exact gen_no
  · cases d
    case ip cs => exact gen_take (F := fun d Q => Q none d) (fun d => gen_ret _ _)
    case lp i o =>
      show Gen (fun Q => match lget loc i with
        | .cells _ cs => dropK o cs fun l => dTake g _ l fun d => Q none d
        | _ => False)
      generalize lget loc i = ob
      cases ob
      case cells t' cs => exact gen_dropK (F := fun l Q => dTake _ _ l fun d => Q none d) (fun l => gen_take (F := fun d Q => Q none d) (fun d => gen_ret _ _))
      all_goals exact gen_no
    case ap i o =>
      rename_i z
      show Gen (fun Q => match lget loc i with
        | .cells _ cs => match g with
          | true => ∃ ds : List DV, Q (some ((cs.drop o).take (z + 1) = ds ∧ ds.length = z + 1)) (.agg ds)
          | false => ∃ d : DV, frc d fun d => Q (some (cs[o]? = some d)) d
        | _ => False)
      generalize lget loc i = ob
      cases ob
      case cells t' cs =>
        cases g
        · exact gen_ex (fun d => gen_frc (F := fun d Q => Q (some (cs[o]? = some d)) d) (gen_ret _ _))
        · exact gen_ex (fun d => gen_ret _ _)
      all_goals exact gen_no
    case rp i k o =>
      rename_i z
      show Gen (fun Q => match lget loc i with
        | .row _ _ es => ∃ ed : List DV, dropK o ed fun l => dTake g (z + 1) l fun d => Q (some (es[k]? = some ed)) d
        | _ => False)
      generalize lget loc i = ob
      cases ob
      case row e sz es =>
        exact gen_ex (fun ed => gen_dropK (F := fun l Q => dTake g (z + 1) l fun d => Q (some (es[k]? = some ed)) d) (fun l => gen_take (F := fun d Q => Q (some (es[k]? = some ed)) d) (fun d => gen_ret _ _)))
      all_goals exact gen_no
    all_goals exact gen_no
theorem gen_extract {n : Nat} {d : DV} : Gen (dExtract n d) := by
  unfold dExtract
  cases d
  case tup ds =>
    refine gen_dropK (F := fun l Q => match l with
      | d :: _ => frc d fun d => Q none d
      | [] => False) (fun l => ?_)
    cases l
    · exact gen_no
    · exact gen_frc (F := fun d Q => Q none d) (gen_ret _ _)
  all_goals exact gen_no
theorem gen_slice {t : TypeId} {d : DV} {lo hi mx : Option Operand} : Gen (dSlice tt t ρ d lo hi mx) := by
  unfold dSlice
  generalize (tinfo tt t).k = k
  cases k
  case str =>
    cases d
    case v x =>
      cases x
      case string s =>
        cases mx
        · exact gen_ex (fun l => gen_ex (fun h => gen_ret _ _))
        · exact gen_no
      all_goals exact gen_no
    all_goals exact gen_no
  case slc e =>
    cases d
    case nl =>
      show Gen (fun Q => match (tinfo tt e).size, mx with
        | 0, _ => False
        | _, some _ => False
        | _, none => Q (some (bndIs ρ lo 0 0 ∧ bndIs ρ hi 0 0)) .nl)
      generalize (tinfo tt e).size = z
      cases z <;> cases mx <;> first | exact gen_no | exact gen_ret _ _
    case lst sz es full =>
      show Gen (fun Q => match (tinfo tt e).size, Nat.beq sz (tinfo tt e).size with
        | 0, _ => False
        | _, false => False
        | _, true => match hi, mx with
          | none, none => ∃ l : Nat, Q (some (bndIs ρ lo l 0 ∧ l ≤ es.length)) (.lst sz (es.drop l) full)
          | some ho, none => ∃ l h : Nat, Q (some (bndIs ρ lo l 0 ∧ bndIs ρ (some ho) h 0 ∧ l ≤ h ∧ h ≤ es.length)) (.lst sz ((es.take h).drop l) false)
          | some ho, some mo => ∃ l h : Nat, Q (some (bndIs ρ lo l 0 ∧ bndIs ρ (some ho) h 0 ∧ bndIs ρ (some mo) h 0 ∧ l ≤ h ∧ h ≤ es.length)) (.lst sz ((es.take h).drop l) true)
          | none, some _ => False)
      generalize Nat.beq sz (tinfo tt e).size = b
      generalize (tinfo tt e).size = z
      cases z
      · exact gen_no
      · cases b
        · exact gen_no
        · cases hi <;> cases mx
          · exact gen_ex (fun l => gen_ret _ _)
          · exact gen_no
          · exact gen_ex (fun l => gen_ex (fun h => gen_ret _ _))
          · exact gen_ex (fun l => gen_ex (fun h => gen_ret _ _))
    all_goals exact gen_no
  all_goals exact gen_no
theorem gen_build {t : TypeId} {parts : List (Nat × Operand)} : Gen (dBuild tt t ρ parts) := by
  unfold dBuild
  generalize (tinfo tt t).k = k
  generalize (tinfo tt t).zero = z0
  generalize (tinfo tt t).size = z
  cases k
  case st fs =>
    show Gen (fun Q => match allIn tt fs, z with
      | true, _ + 1 => buildK ρ _ parts z0 fun l => Q none (.agg l)
      | _, _ => False)
    generalize allIn tt fs = b
    cases b
    · exact gen_no
    · cases z
      · exact gen_no
      · exact gen_buildK (F := fun l Q => Q none (.agg l)) (fun l => gen_ret _ _)
  case arr n e =>
    show Gen (fun Q => match (tinfo tt e).size, z with
      | _ + 1, _ + 1 => buildK ρ (fun i => (i * (tinfo tt e).size, (tinfo tt e).size)) parts z0 fun l => Q none (.agg l)
      | _, _ => False)
    generalize (tinfo tt e).size = y
    cases y
    · exact gen_no
    · cases z
      · exact gen_no
      · exact gen_buildK (F := fun l Q => Q none (.agg l)) (fun l => gen_ret _ _)
  all_goals exact gen_no
theorem gen_dval {op : Op} : Gen (dval tt loc op ρ) := by
  cases op
  case move x => exact gen_frc (F := fun d Q => Q none d) (gen_ret _ _)
  case assign x => exact gen_frc (F := fun d Q => Q none d) (gen_ret _ _)
  case pick => exact gen_pick
  case nilCheck x =>
    show Gen (fun Q => dNilCheck loc (ρ x) Q)
    generalize ρ x = d
    unfold dNilCheck
    cases d
    case fn f c => cases f <;> first | exact gen_ret _ _ | exact gen_no
    case rp i k o =>
      show Gen (fun Q => match isRow (lget loc i) with
        | true => Q none (.rp i k o)
        | false => False)
      generalize isRow (lget loc i) = b
      cases b
      · exact gen_no
      · exact gen_ret _ _
    all_goals first | exact gen_ret _ _ | exact gen_no
  case binOp => exact gen_bin
  case unOp op t x =>
    show Gen (fun Q => dUn op (ρ x) Q)
    generalize ρ x = d
    unfold dUn
    cases op <;> cases d
    all_goals first | exact gen_no | skip
    all_goals rename_i y
    all_goals cases y
    all_goals first | exact gen_ret _ _ | exact gen_no
  case convert => exact gen_convert
  case fieldAddr => exact gen_fieldAddr
  case field => exact gen_field
  case indexAddr => exact gen_indexAddr
  case index => exact gen_index
  case load => exact gen_load
  case extract => exact gen_extract
  case slice => exact gen_slice
  case makeFunc f first caps =>
    show Gen (fun Q => match first.toList with
      | [] => evL ρ caps.toList fun l => match l.all isCap with
        | true => Q none (.fn f l)
        | false => False
      | _ => False)
    generalize first.toList = l
    cases l
    · refine gen_evL (F := fun l Q => match l.all isCap with
        | true => Q none (.fn f l)
        | false => False) (fun l => ?_)
      generalize l.all isCap = b
      cases b <;> first | exact gen_ret _ _ | exact gen_no
    · exact gen_no
  case build => exact gen_build
  case call c =>
    obtain ⟨callee, args, ats⟩ := c
    cases callee
    case builtin b =>
      cases b
      case len =>
        show Gen (fun Q => match args.toList, ats.toList with
          | [x], [t] => dLen tt loc t (ρ x) Q
          | _, _ => False)
        generalize args.toList = l
        generalize ats.toList = l'
        cases l with
        | nil => exact gen_no
        | cons x r =>
          cases r with
          | cons _ _ => exact gen_no
          | nil =>
            cases l' with
            | nil => exact gen_no
            | cons t r' =>
              cases r' with
              | cons _ _ => exact gen_no
              | nil =>
                show Gen (fun Q => dLen tt loc t (ρ x) Q)
                generalize ρ x = d
                unfold dLen
                generalize (tinfo tt t).k = k
                cases k
                case slc e =>
                  cases d
                  case own j =>
                    show Gen (fun Q => match lget loc j with
                      | .row _ _ es => Q none (.v (.int .i64 es.length))
                      | _ => False)
                    generalize lget loc j = ob
                    cases ob <;> first | exact gen_ret _ _ | exact gen_no
                  all_goals first | exact gen_ret _ _ | exact gen_no
                case str =>
                  cases d
                  case v x => cases x <;> first | exact gen_ret _ _ | exact gen_no
                  all_goals exact gen_no
                all_goals first | exact gen_ret _ _ | exact gen_no
      case min =>
        show Gen (fun Q => match args.toList with
          | [x, y] => dMin (ρ x) (ρ y) Q
          | _ => False)
        generalize args.toList = l
        rcases l with _ | ⟨x, _ | ⟨y, _ | _⟩⟩
        · exact gen_no
        · exact gen_no
        · show Gen (fun Q => dMin (ρ x) (ρ y) Q)
          generalize ρ x = d
          generalize ρ y = e
          unfold dMin
          cases d
          case v d =>
            cases d
            case int =>
              cases e
              case v e => cases e <;> first | exact gen_ret _ _ | exact gen_no
              all_goals exact gen_no
            all_goals exact gen_no
          all_goals exact gen_no
        · exact gen_no
      case max =>
        show Gen (fun Q => match args.toList with
          | [x, y] => dMax (ρ x) (ρ y) Q
          | _ => False)
        generalize args.toList = l
        rcases l with _ | ⟨x, _ | ⟨y, _ | _⟩⟩
        · exact gen_no
        · exact gen_no
        · show Gen (fun Q => dMax (ρ x) (ρ y) Q)
          generalize ρ x = d
          generalize ρ y = e
          unfold dMax
          cases d
          case v d =>
            cases d
            case int =>
              cases e
              case v e => cases e <;> first | exact gen_ret _ _ | exact gen_no
              all_goals exact gen_no
            all_goals exact gen_no
          all_goals exact gen_no
        · exact gen_no
      all_goals exact gen_no
    all_goals exact gen_no
  all_goals exact gen_no
theorem gen_dgPick {g : Bool} {c a b : Operand} : Gen (dgPick s g c a b) := by
  have gob : ∀ {l : List Operand} {F : Option Prop → (Option Prop → DV → Prop) → Prop}, (∀ c, Gen (F c)) → Gen (fun Q => oblAll g s l fun c => F c Q) := by
    intro l
    induction l with
    | nil => intro F h; exact h _
    | cons x r ih =>
      intro F h
      show Gen (fun Q => match ev s x with
        | .wh g' _ => oblAll g s r fun c => F (andO (some (g = true → g' = true)) c) Q
        | _ => oblAll g s r fun c => F c Q)
      generalize ev s x = d
      cases d
      case wh g' d => exact ih (F := fun c Q => F (andO (some (g = true → g' = true)) c) Q) (fun c => h _)
      all_goals exact ih h
  unfold dgPick
  refine gob (F := fun c0 Q => match bare s c with
    | .v (.bool t) => obl (g && t) (ev s a) fun c1 x => obl (g && !t) (ev s b) fun c2 y => frc x fun x => frc y fun y => dpickV t x y (isConstTrue a) (isConstFalse b) fun d => Q (andO c0 (andO c1 c2)) d
    | _ => False) (fun c0 => ?_)
  generalize bare s c = x
  cases x
  case v x =>
    cases x
    case bool t =>
      exact gen_obl (F := fun c1 x Q => obl (g && !t) (ev s b) fun c2 y => frc x fun x => frc y fun y => dpickV t x y (isConstTrue a) (isConstFalse b) fun d => Q (andO c0 (andO c1 c2)) d)
        (fun c1 x => gen_obl (F := fun c2 y Q => frc x fun x => frc y fun y => dpickV t x y (isConstTrue a) (isConstFalse b) fun d => Q (andO c0 (andO c1 c2)) d)
        (fun c2 y => gen_frc (F := fun x Q => frc y fun y => dpickV t x y (isConstTrue a) (isConstFalse b) fun d => Q (andO c0 (andO c1 c2)) d)
        (gen_frc (F := fun y Q => dpickV t x y (isConstTrue a) (isConstFalse b) fun d => Q (andO c0 (andO c1 c2)) d) (gen_dpickV (F := fun d Q => Q (andO c0 (andO c1 c2)) d) (fun d => gen_ret _ _)))))
    all_goals exact gen_no
  all_goals exact gen_no
end
end Go.Lift
