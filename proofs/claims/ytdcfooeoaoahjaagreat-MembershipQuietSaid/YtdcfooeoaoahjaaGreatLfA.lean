/- A data-level logic for the model: what a body does to data; its soundness (part LfA). No conditions. -/
import Derived.WalkKit
set_option linter.unusedSimpArgs false
set_option linter.unusedVariables false
namespace Go.Lift


inductive DV where
  | v (x : Value)
  | lst (sz : Nat) (es : List (List DV)) (full : Bool)
  | agg (cs : List DV)
  | tup (ds : List DV)
  | ip (cs : List DV)
  | lp (i off : Nat)
  | ap (i off : Nat)
  | rp (i k off : Nat)
  | own (i : Nat)
  | fn (f : Fn) (caps : List DV)
  | wh (b : Bool) (d : DV)
  | nl
  | junk

inductive LObj where
  | cells (t : TypeId) (cs : List DV)
  | row (e : TypeId) (sz : Nat) (es : List (List DV))
  | dead
  | gone
  | gh (cs : List DV)

structure DS where
  env : List (Nat × DV)
  loc : List LObj

def look : List (Nat × DV) → Nat → DV
  | [], _ => .junk
  | p :: r, t => match Nat.beq p.1 t with
    | true => p.2
    | false => look r t

def DS.put (s : DS) (dst : Option Tmp) (d : DV) : DS :=
  match dst with
  | some t => ⟨(t, d) :: s.env, s.loc⟩
  | none => s
def forceL : List LObj → (List LObj → Prop) → Prop
  | [], K => K []
  | o :: r, K => forceL r fun r => K (o :: r)
def forceC : List DV → (List DV → Prop) → Prop
  | [], K => K []
  | c :: r, K => forceC r fun r => K (c :: r)
theorem forceC_iff : ∀ {l : List DV} {K : List DV → Prop}, forceC l K ↔ K l
  | [], _ => Iff.rfl
  | _ :: r, _ => forceC_iff (l := r)
def putK (s : DS) (dst : Option Tmp) (d : DV) (K : DS → Prop) : Prop :=
  match s with
  | ⟨e, l⟩ => forceL l fun l => match dst with
    | some t => K ⟨(t, d) :: e, l⟩
    | none => K ⟨e, l⟩

def andO : Option Prop → Option Prop → Option Prop
  | none, c => c
  | some a, none => some a
  | some a, some b => some (a ∧ b)
def needs (c : Option Prop) (p : Prop) : Prop :=
  match c with
  | none => p
  | some a => a ∧ p

def lget : List LObj → Nat → LObj
  | [], _ => .dead
  | o :: _, 0 => o
  | _ :: r, n + 1 => lget r n
def lset : List LObj → Nat → LObj → List LObj
  | [], _, _ => []
  | _ :: r, 0, x => x :: r
  | o :: r, n + 1, x => o :: lset r n x
def isRow : LObj → Bool
  | .row .. => true
  | _ => false
def isCells : LObj → Bool
  | .cells .. => true
  | _ => false
def isGone : LObj → Bool
  | .gone => true
  | _ => false
def dset : List DV → Nat → DV → List DV
  | [], _, _ => []
  | _ :: r, 0, x => x :: r
  | o :: r, n + 1, x => o :: dset r n x
def dovr : List DV → List DV → List DV
  | l, [] => l
  | [], _ :: _ => []
  | _ :: l, x :: r => x :: dovr l r
def dspl : List DV → Nat → List DV → List DV
  | l, 0, r => dovr l r
  | [], _ + 1, _ => []
  | c :: l, n + 1, r => c :: dspl l n r
def dsplice : List DV → Nat → List DV → List DV
  | l, _, [] => l
  | l, o, [x] => dset l o x
  | l, o, x :: y :: r => dspl l o (x :: y :: r)

inductive TK where
  | int (k : IntKind) | bool | str | slc (e : TypeId) | st (fs : List (TypeId × Nat)) | arr (n : Nat) (e : TypeId) | other
structure TI where
  size : Nat
  bytes : Nat
  agg : Bool
  zero : List DV
  k : TK
abbrev TT := List (Nat × TI)
def tinfo : TT → TypeId → TI
  | [], _ => ⟨0, 0, false, [], .other⟩
  | p :: r, t => match Nat.beq p.1 t with
    | true => p.2
    | false => tinfo r t

def cdv : Value → DV
  | .slice none 0 0 => .nl
  | .slice _ _ _ => .junk
  | .agg _ => .junk
  | .tuple _ => .junk
  | x => .v x

def ev (s : DS) : Operand → DV
  | .tmp t => look s.env t
  | .const v => cdv v
  | .global _ => .junk
  | .func f => .fn (.func f) []

def frc (d : DV) (K : DV → Prop) : Prop :=
  match d with
  | .v x => K (.v x)
  | .lst sz es f => K (.lst sz es f)
  | .agg cs => K (.agg cs)
  | .tup ds => K (.tup ds)
  | .ip cs => K (.ip cs)
  | .lp i o => K (.lp i o)
  | .ap i o => K (.ap i o)
  | .rp i k o => K (.rp i k o)
  | .own i => K (.own i)
  | .fn f c => K (.fn f c)
  | .wh b d => K (.wh b d)
  | .nl => K .nl
  | .junk => K .junk

def takeK : Nat → List DV → (List DV → Prop) → Prop
  | 0, _, K => K []
  | _ + 1, [], _ => False
  | n + 1, d :: r, K => frc d fun d => takeK n r fun l => K (d :: l)
def dropK : Nat → List DV → (List DV → Prop) → Prop
  | 0, l, K => K l
  | _ + 1, [], _ => False
  | n + 1, _ :: r, K => dropK n r K

def isConstTrue : Operand → Bool
  | .const (.bool b) => b
  | _ => false
def isConstFalse : Operand → Bool
  | .const (.bool b) => !b
  | _ => false

def obl (b : Bool) (d : DV) (K : Option Prop → DV → Prop) : Prop :=
  match d with
  | .wh g d => K (some (b = true → g = true)) d
  | d => K none d

def dpickV (c : Bool) (x y : DV) (ka kb : Bool) (K : DV → Prop) : Prop :=
  match x, y with
  | .v (.bool a), .v (.bool b) => match ka, kb with
    | true, _ => K (.v (.bool (c || b)))
    | _, true => K (.v (.bool (c && a)))
    | _, _ => K (.v (.bool (bif c then a else b)))
  | _, _ => False

def ikEq : IntKind → IntKind → Bool
  | .i8, .i8 | .i16, .i16 | .i32, .i32 | .i64, .i64 | .u8, .u8 | .u16, .u16 | .u32, .u32 | .u64, .u64 => true
  | _, _ => false

def dcells : DV → List DV
  | .agg cs => cs
  | d => [d]

inductive SK where
  | int (k : IntKind) | bool | str
def flatFs (g : TypeId → Option (List SK)) : List (TypeId × Nat) → Nat → Option (List SK)
  | [], _ => some []
  | f :: r, o => match Nat.beq f.2 o with
    | false => none
    | true => match g f.1 with
      | none => none
      | some ks => match flatFs g r (o + ks.length) with
        | none => none
        | some l => some (ks ++ l)
def flatK (tt : TT) : Nat → TypeId → Option (List SK)
  | 0, _ => none
  | n + 1, t => match (tinfo tt t).k with
    | .int k => some [.int k]
    | .bool => some [.bool]
    | .str => some [.str]
    | .st fs => match flatFs (flatK tt n) fs 0 with
      | some ks => match Nat.beq ks.length (tinfo tt t).size, (tinfo tt t).size with
        | true, _ + 1 => some ks
        | _, _ => none
      | none => none
    | _ => none
def eq1K (k : SK) (x y : DV) (K : Bool → Prop) : Prop :=
  match k, x, y with
  | .int k, .v (.int k1 a), .v (.int k2 b) => match ikEq k k1 && ikEq k k2 with
    | true => K (decide (a = b))
    | false => False
  | .str, .v (.string a), .v (.string b) => K (decide (a = b))
  | .bool, .v (.bool a), .v (.bool b) => K (a == b)
  | _, _, _ => False
def eqCells : List SK → List DV → List DV → (Bool → Prop) → Prop
  | [], [], [], K => K true
  | k :: ks, x :: r, y :: r', K => eq1K k x y fun e => eqCells ks r r' fun z => K (e && z)
  | _, _, _, _ => False

def dInt (op : BinOp) (k : IntKind) (a b : Int) (K : Option Prop → DV → Prop) : Prop :=
  match op with
  | .add => K none (.v (.int k (k.wrap (a + b))))
  | .sub => K none (.v (.int k (k.wrap (a - b))))
  | .mul => K none (.v (.int k (k.wrap (a * b))))
  | .quo => K (some (b ≠ 0)) (.v (.int k (k.wrap (a.tdiv b))))
  | .rem => K (some (b ≠ 0)) (.v (.int k (a.tmod b)))
  | .and => K none (.v (.int k (bits .and k a b)))
  | .or => K none (.v (.int k (bits .or k a b)))
  | .xor => K none (.v (.int k (bits .xor k a b)))
  | .andNot => K none (.v (.int k (bits .andNot k a b)))
  | .eql => K none (.v (.bool (decide (a = b))))
  | .neq => K none (.v (.bool (!decide (a = b))))
  | .lss => K none (.v (.bool (decide (a < b))))
  | .leq => K none (.v (.bool (decide (a ≤ b))))
  | .gtr => K none (.v (.bool (decide (b < a))))
  | .geq => K none (.v (.bool (decide (b ≤ a))))
  | _ => False
def isShift : BinOp → Bool
  | .shl | .shr => true
  | _ => false
def dShift (op : BinOp) (k : IntKind) (a b : Int) (K : Option Prop → DV → Prop) : Prop :=
  match op with
  | .shl => K (some (0 ≤ b)) (.v (.int k (k.wrap (a * 2 ^ (min b.toNat k.bits)))))
  | .shr => K (some (0 ≤ b)) (.v (.int k (a.fdiv (2 ^ (min b.toNat k.bits)))))
  | _ => False
def dStr (op : BinOp) (a b : ByteArray) (K : Option Prop → DV → Prop) : Prop :=
  match op with
  | .eql => K none (.v (.bool (decide (a = b))))
  | .neq => K none (.v (.bool (!decide (a = b))))
  | .lss => K none (.v (.bool (Op.bytesLess a.toList b.toList)))
  | _ => False
def dBool (op : BinOp) (a b : Bool) (K : Option Prop → DV → Prop) : Prop :=
  match op with
  | .eql => K none (.v (.bool (a == b)))
  | .neq => K none (.v (.bool (!(a == b))))
  | _ => False
def dAgg (tt : TT) (t : TypeId) (op : BinOp) (a b : List DV) (K : Option Prop → DV → Prop) : Prop :=
  match flatK tt 5 t, (tinfo tt t).agg with
  | some ks, true => match op with
    | .eql => eqCells ks a b fun r => K none (.v (.bool r))
    | .neq => eqCells ks a b fun r => K none (.v (.bool (!r)))
    | _ => False
  | _, _ => False
def dbin (tt : TT) (t : TypeId) (op : BinOp) (x y : DV) (K : Option Prop → DV → Prop) : Prop :=
  match x, y with
  | .v (.int k a), .v (.int k' b) => match isShift op with
    | true => dShift op k a b K
    | false => match ikEq k k' with
      | true => dInt op k a b K
      | false => False
  | .v (.string a), .v (.string b) => dStr op a b K
  | .v (.bool a), .v (.bool b) => match (tinfo tt t).k with
    | .bool => dBool op a b K
    | _ => False
  | .agg a, .agg b => dAgg tt t op a b K
  | _, _ => False

def fieldOf : List (TypeId × Nat) → Nat → TypeId × Nat
  | [], _ => (0, 0)
  | x :: _, 0 => x
  | _ :: r, n + 1 => fieldOf r n

def natLit : Operand → Option Nat
  | .const (.int _ (.ofNat n)) => some n
  | _ => none

def byteE (b : UInt8) : List DV := [.v (.int .u8 b.toNat)]

def buildK (ρ : Operand → DV) (place : Nat → Nat × Nat) : List (Nat × Operand) → List DV → (List DV → Prop) → Prop
  | [], cs, K => K cs
  | (i, x) :: r, cs, K => frc (ρ x) fun d => match d with
    | .wh _ _ => False
    | .tup _ => False
    | .junk => False
    | d => match Nat.beq (dcells d).length (place i).2 && Nat.ble ((place i).1 + (dcells d).length) cs.length && Nat.blt 0 (place i).2 with
      | true => forceC (dsplice cs (place i).1 (dcells d)) fun cs' => buildK ρ place r cs' K
      | false => False

def evL (ρ : Operand → DV) : List Operand → (List DV → Prop) → Prop
  | [], K => K []
  | x :: r, K => frc (ρ x) fun d => evL ρ r fun l => K (d :: l)

def plainCap : DV → Bool
  | .v _ | .lst .. | .nl | .ip _ | .fn _ [] => true
  | _ => false
def isLp : DV → Bool
  | .lp _ _ => true
  | _ => false
def isCap : DV → Bool
  | .lp _ _ => true
  | d => plainCap d
def isPlain0 : DV → Bool
  | .v _ | .lst .. | .nl => true
  | .fn _ caps => caps.all plainCap
  | _ => false
def plainAll : List DV → Bool
  | [] => true
  | d :: r => match isPlain0 d with
    | true => plainAll r
    | false => false
def dNilCheck (loc : List LObj) (d : DV) (K : Option Prop → DV → Prop) : Prop :=
  match d with
  | .lp i o => K none (.lp i o)
  | .ap i o => K none (.ap i o)
  | .rp i k o => match isRow (lget loc i) with
    | true => K none (.rp i k o)
    | false => False
  | .ip cs => K none (.ip cs)
  | .fn (.func f) c => K none (.fn (.func f) c)
  | _ => False
def dPick (ρ : Operand → DV) (c a b : Operand) (K : Option Prop → DV → Prop) : Prop :=
  match ρ c with
  | .v (.bool t) => obl t (ρ a) fun c1 x => obl (!t) (ρ b) fun c2 y => frc x fun x => frc y fun y => dpickV t x y (isConstTrue a) (isConstFalse b) fun d => K (andO c1 c2) d
  | _ => False
def dUn (op : UnOp) (d : DV) (K : Option Prop → DV → Prop) : Prop :=
  match op, d with
  | .not, .v (.bool b) => K none (.v (.bool !b))
  | .neg, .v (.int k n) => K none (.v (.int k (k.wrap (0 - n))))
  | .xor, .v (.int k n) => K none (.v (.int k (bits .xor k (if k.signed then -1 else k.max) n)))
  | _, _ => False
def dConvert (tt : TT) (ks k : TK) (d : DV) (K : Option Prop → DV → Prop) : Prop :=
  match ks, k, d with
  | .int _, .int k, .v (.int _ n) => K none (.v (.int k (k.wrap n)))
  | .str, .str, .v (.string s) => K none (.v (.string s))
  | .slc e, .str, .lst sz es _ => match (tinfo tt e).k, Nat.beq sz 1 with
    | .int .u8, true => ∃ bs : List UInt8, K (some (es = bs.map byteE)) (.v (.string ⟨bs.toArray⟩))
    | _, _ => False
  | _, _, _ => False
def dFieldAddr (tt : TT) (loc : List LObj) (t : TypeId) (f : Nat) (d : DV) (K : Option Prop → DV → Prop) : Prop :=
  match (tinfo tt t).k with
  | .st fs => match (tinfo tt (fieldOf fs f).1).size with
    | 0 => False
    | _ => match d with
      | .lp i o => K none (.lp i (o + (fieldOf fs f).2))
      | .ap i o => K none (.ap i (o + (fieldOf fs f).2))
      | .rp i k o => match isRow (lget loc i) with
        | true => K none (.rp i k (o + (fieldOf fs f).2))
        | false => False
      | .ip cs => dropK (fieldOf fs f).2 cs fun l => K none (.ip l)
      | _ => False
  | _ => False
def dTake (agg : Bool) (size : Nat) (l : List DV) (K : DV → Prop) : Prop :=
  match agg with
  | true => takeK size l fun l => K (.agg l)
  | false => match l with
    | d :: _ => frc d fun d => K d
    | [] => False
def dField (tt : TT) (t : TypeId) (f : Nat) (d : DV) (K : Option Prop → DV → Prop) : Prop :=
  match (tinfo tt t).k with
  | .st fs => match (tinfo tt (fieldOf fs f).1).size with
    | 0 => False
    | _ => match d with
      | .agg cs => dropK (fieldOf fs f).2 cs fun l => dTake (tinfo tt (fieldOf fs f).1).agg (tinfo tt (fieldOf fs f).1).size l fun d => K none d
      | _ => False
  | _ => False
def dIndexSlc (loc : List LObj) (size : Nat) (ix : Int) (d : DV) (K : Option Prop → DV → Prop) : Prop :=
  match d with
  | .lst sz es _ => match Nat.beq sz size with
    | true => ∃ (k : Nat) (ed : List DV), K (some (ix = k ∧ es[k]? = some ed)) (.ip ed)
    | false => False
  | .own j => match lget loc j with
    | .row _ sz es => match Nat.beq sz size with
      | true => ∃ k : Nat, K (some (ix = k ∧ k < es.length)) (.rp j k 0)
      | false => False
    | _ => False
  | _ => False
def dIndexArr (n size : Nat) (lit : Option Nat) (ix : Int) (d : DV) (K : Option Prop → DV → Prop) : Prop :=
  match lit with
  | some m => match d with
    | .lp j o => K (some (m < n)) (.lp j (o + m * size))
    | .ap j o => K (some (m < n)) (.ap j (o + m * size))
    | _ => False
  | none => match d with
    | .lp j o => ∃ k : Nat, K (some (ix = k ∧ k < n)) (.ap j (o + k * size))
    | .ap j o => ∃ k : Nat, K (some (ix = k ∧ k < n)) (.ap j (o + k * size))
    | _ => False
def dIndexAddr (tt : TT) (loc : List LObj) (t : TypeId) (i : Operand) (x y : DV) (K : Option Prop → DV → Prop) : Prop :=
  match (tinfo tt t).k, y with
  | .slc e, .v (.int _ ix) => match (tinfo tt e).size with
    | 0 => False
    | _ => dIndexSlc loc (tinfo tt e).size ix x K
  | .arr n e, .v (.int _ ix) => match (tinfo tt e).size with
    | 0 => False
    | _ => dIndexArr n (tinfo tt e).size (natLit i) ix x K
  | _, _ => False
def dIndex (tt : TT) (t : TypeId) (x y : DV) (K : Option Prop → DV → Prop) : Prop :=
  match y with
  | .v (.int _ ix) => match (tinfo tt t).k, x with
    | .str, .v (.string s) => ∃ k : Nat, K (some (ix = k ∧ k < s.size)) (.v (.int .u8 (s.data.getD k 0).toNat))
    | .arr n e, .agg cs => match (tinfo tt e).agg, Nat.beq (tinfo tt e).size 1 with
      | false, true => ∃ (k : Nat) (d : DV), frc d fun d => K (some (ix = k ∧ k < n ∧ cs[k]? = some d)) d
      | _, _ => False
    | _, _ => False
  | _ => False
def dLoad (tt : TT) (loc : List LObj) (t : TypeId) (d : DV) (K : Option Prop → DV → Prop) : Prop :=
  match (tinfo tt t).size with
  | 0 => False
  | _ => match d with
    | .ip cs => dTake (tinfo tt t).agg (tinfo tt t).size cs fun d => K none d
    | .lp i o => match lget loc i with
      | .cells _ cs => dropK o cs fun l => dTake (tinfo tt t).agg (tinfo tt t).size l fun d => K none d
      | _ => False
    | .ap i o => match lget loc i with
      | .cells _ cs => match (tinfo tt t).agg with
        | true => ∃ ds : List DV, K (some ((cs.drop o).take (tinfo tt t).size = ds ∧ ds.length = (tinfo tt t).size)) (.agg ds)
        | false => ∃ d : DV, frc d fun d => K (some (cs[o]? = some d)) d
      | _ => False
    | .rp i k o => match lget loc i with
      | .row _ _ es => ∃ ed : List DV, dropK o ed fun l => dTake (tinfo tt t).agg (tinfo tt t).size l fun d => K (some (es[k]? = some ed)) d
      | _ => False
    | _ => False
def dExtract (n : Nat) (d : DV) (K : Option Prop → DV → Prop) : Prop :=
  match d with
  | .tup ds => dropK n ds fun l => match l with
    | d :: _ => frc d fun d => K none d
    | [] => False
  | _ => False
def bndIs (ρ : Operand → DV) (o : Option Operand) (n : Nat) (other : Nat) : Prop :=
  match o with
  | some o => ∃ k, ρ o = .v (.int k n)
  | none => n = other
def dSlice (tt : TT) (t : TypeId) (ρ : Operand → DV) (d : DV) (lo hi mx : Option Operand) (K : Option Prop → DV → Prop) : Prop :=
  match (tinfo tt t).k, d with
  | .str, .v (.string s) => match mx with
    | none => ∃ l h : Nat, K (some (bndIs ρ lo l 0 ∧ bndIs ρ hi h s.size ∧ l ≤ h ∧ h ≤ s.size)) (.v (.string (s.extract l h)))
    | some _ => False
  | .slc e, .nl => match (tinfo tt e).size, mx with
    | 0, _ => False
    | _, some _ => False
    | _, none => K (some (bndIs ρ lo 0 0 ∧ bndIs ρ hi 0 0)) .nl
  | .slc e, .lst sz es full => match (tinfo tt e).size, Nat.beq sz (tinfo tt e).size with
    | 0, _ => False
    | _, false => False
    | _, true => match hi, mx with
      | none, none => ∃ l : Nat, K (some (bndIs ρ lo l 0 ∧ l ≤ es.length)) (.lst sz (es.drop l) full)
      | some ho, none => ∃ l h : Nat, K (some (bndIs ρ lo l 0 ∧ bndIs ρ (some ho) h 0 ∧ l ≤ h ∧ h ≤ es.length)) (.lst sz ((es.take h).drop l) false)
      | some ho, some mo => ∃ l h : Nat, K (some (bndIs ρ lo l 0 ∧ bndIs ρ (some ho) h 0 ∧ bndIs ρ (some mo) h 0 ∧ l ≤ h ∧ h ≤ es.length)) (.lst sz ((es.take h).drop l) true)
      | none, some _ => False
  | _, _ => False
def dLen (tt : TT) (loc : List LObj) (t : TypeId) (d : DV) (K : Option Prop → DV → Prop) : Prop :=
  match (tinfo tt t).k with
  | .slc _ => match d with
    | .lst _ es _ => K none (.v (.int .i64 es.length))
    | .nl => K none (.v (.int .i64 (0 : Nat)))
    | .own j => match lget loc j with
      | .row _ _ es => K none (.v (.int .i64 es.length))
      | _ => False
    | _ => False
  | .str => match d with
    | .v (.string s) => K none (.v (.int .i64 s.size))
    | _ => False
  | .arr n _ => K none (.v (.int .i64 n))
  | _ => False
def dMin (a b : DV) (K : Option Prop → DV → Prop) : Prop :=
  match a, b with
  | .v (.int k a), .v (.int _ b) => K none (.v (.int k (if b < a then b else a)))
  | _, _ => False
def dMax (a b : DV) (K : Option Prop → DV → Prop) : Prop :=
  match a, b with
  | .v (.int k a), .v (.int _ b) => K none (.v (.int k (if a < b then b else a)))
  | _, _ => False
def allIn (tt : TT) : List (TypeId × Nat) → Bool
  | [] => true
  | f :: r => match (tinfo tt f.1).size with
    | 0 => false
    | _ => allIn tt r
def dBuild (tt : TT) (t : TypeId) (ρ : Operand → DV) (parts : List (Nat × Operand)) (K : Option Prop → DV → Prop) : Prop :=
  match (tinfo tt t).k with
  | .st fs => match allIn tt fs, (tinfo tt t).size with
    | true, _ + 1 => buildK ρ (fun i => match Nat.blt i fs.length with
      | true => ((fieldOf fs i).2, (tinfo tt (fieldOf fs i).1).size)
      | false => (0, 0)) parts (tinfo tt t).zero fun l => K none (.agg l)
    | _, _ => False
  | .arr _ e => match (tinfo tt e).size, (tinfo tt t).size with
    | _ + 1, _ + 1 => buildK ρ (fun i => (i * (tinfo tt e).size, (tinfo tt e).size)) parts (tinfo tt t).zero fun l => K none (.agg l)
    | _, _ => False
  | _ => False

def dval (tt : TT) (loc : List LObj) (o : Op) (ρ : Operand → DV) (K : Option Prop → DV → Prop) : Prop :=
  match o with
  | .move x | .assign x => frc (ρ x) fun d => K none d
  | .pick c a b => dPick ρ c a b K
  | .nilCheck x => dNilCheck loc (ρ x) K
  | .binOp op t x y _ => dbin tt t op (ρ x) (ρ y) K
  | .unOp op _ x => dUn op (ρ x) K
  | .convert src dst x => dConvert tt (tinfo tt src).k (tinfo tt dst).k (ρ x) K
  | .fieldAddr t x f => dFieldAddr tt loc t f (ρ x) K
  | .field t x f => dField tt t f (ρ x) K
  | .indexAddr t x i => dIndexAddr tt loc t i (ρ x) (ρ i) K
  | .index t x i => dIndex tt t (ρ x) (ρ i) K
  | .load t x => dLoad tt loc t (ρ x) K
  | .extract x n => dExtract n (ρ x) K
  | .slice t x lo hi mx => dSlice tt t ρ (ρ x) lo hi mx K
  | .makeFunc f first caps => match first.toList with
    | [] => evL ρ caps.toList fun l => match l.all isCap with
      | true => K none (.fn f l)
      | false => False
    | _ => False
  | .build t parts => dBuild tt t ρ parts.toList K
  | .call { callee := .builtin .len, args, argTypes } => match args.toList, argTypes.toList with
    | [x], [t] => dLen tt loc t (ρ x) K
    | _, _ => False
  | .call { callee := .builtin .min, args, .. } => match args.toList with
    | [x, y] => dMin (ρ x) (ρ y) K
    | _ => False
  | .call { callee := .builtin .max, args, .. } => match args.toList with
    | [x, y] => dMax (ρ x) (ρ y) K
    | _ => False
  | _ => False

def isVal (o : Op) (ρ : Operand → DV) : Bool :=
  match o with
  | .binOp _ _ x _ _ => match ρ x with
    | .own _ => false
    | .lst .. => false
    | .nl => false
    | _ => true
  | .move _ | .assign _ | .pick .. | .nilCheck _ | .unOp .. | .fieldAddr .. | .field .. | .indexAddr .. | .index .. | .load .. | .extract .. | .makeFunc .. | .build .. => true
  | .convert _ _ x => match ρ x with
    | .own _ => false
    | _ => true
  | .slice _ x _ _ _ => match ρ x with
    | .own _ => false
    | _ => true
  | .call { callee := .builtin .len, .. } | .call { callee := .builtin .min, .. } | .call { callee := .builtin .max, .. } => true
  | _ => false

def isOwn : DV → Bool
  | .own _ => true
  | _ => false
def tupJ (ds : List DV) : DV :=
  match ds.any isOwn with
  | false => .tup ds
  | true => .junk
def sub0 (i : Nat) (r : DV) : DV → DV
  | .own j => match Nat.beq i j with | true => r | false => .own j
  | .rp j k o => match Nat.beq i j with | true => .junk | false => .rp j k o
  | .wh b d => .wh b (sub0 i r d)
  | d => d
def subD (i : Nat) (r : DV) : DV → DV
  | .agg cs => .agg (cs.map (sub0 i r))
  | .tup ds => tupJ ds
  | .wh b d => .wh b (subD i r d)
  | d => sub0 i r d
def mapE (f : DV → DV) : List (Nat × DV) → List (Nat × DV)
  | [] => []
  | p :: r => (p.1, f p.2) :: mapE f r
def mapL (f : DV → DV) : List LObj → List LObj
  | [] => []
  | .cells t cs :: r => .cells t (cs.map f) :: mapL f r
  | .gh cs :: r => .gh (cs.map f) :: mapL f r
  | o :: r => o :: mapL f r
def DS.grow (s : DS) (i : Nat) (e : TypeId) (sz : Nat) (es : List (List DV)) : DS :=
  ⟨mapE (subD i .junk) s.env, lset (mapL (sub0 i .junk) s.loc) i (.row e sz es)⟩
def DS.shut (s : DS) (i sz : Nat) (es : List (List DV)) : DS :=
  ⟨mapE (subD i (.lst sz es false)) s.env, lset (mapL (sub0 i (.lst sz es false)) s.loc) i .dead⟩

def subCc (i : Nat) (cs : List DV) : DV → DV
  | .lp j o => match Nat.beq i j with | true => .ip (cs.drop o) | false => .lp j o
  | d => d
def subC0 (i : Nat) (cs : List DV) : DV → DV
  | .lp j o => match Nat.beq i j with | true => .ip (cs.drop o) | false => .lp j o
  | .ap j o => match Nat.beq i j with | true => .ip (cs.drop o) | false => .ap j o
  | .fn f caps => .fn f (caps.map (subCc i cs))
  | .wh b d => .wh b (subC0 i cs d)
  | d => d
def subCT (i : Nat) (cs : List DV) : DV → DV
  | .agg l => .agg (l.map (subC0 i cs))
  | .tup ds => tupJ ds
  | .wh b d => .wh b (subCT i cs d)
  | d => subC0 i cs d
def DS.shutC (s : DS) (i : Nat) (cs : List DV) : DS :=
  ⟨mapE (subCT i cs) s.env, lset (mapL (subC0 i cs) s.loc) i .dead⟩

def shutIn (ds : List DV) (s : DS) (K : DS → Prop) : Prop :=
  match ds with
  | [] => K s
  | .own j :: r => match lget s.loc j with
    | .row _ sz es => shutIn r (s.shut j sz es) K
    | .cells _ _ => False
    | _ => shutIn r s K
  | .lp j _ :: r => match lget s.loc j with
    | .cells _ cs => match plainAll cs with
      | true => shutIn r (s.shutC j cs) K
      | false => False
    | .row .. => False
    | _ => shutIn r s K
  | _ :: r => shutIn r s K

def scalar0 : DV → Bool
  | .v _ => true
  | _ => false
def scalar : DV → Bool
  | .v _ => true
  | .agg cs => cs.all scalar0
  | .tup ds => ds.all fun d => match d with | .v _ => true | .agg cs => cs.all scalar0 | _ => false
  | _ => false

def lendC (loc : List LObj) (d : DV) (K : DV → Prop) : Prop :=
  match d with
  | .lp j o => match lget loc j with
    | .cells _ cs => match plainAll cs with
      | true => K (.ip (cs.drop o))
      | false => False
    | _ => False
  | d => K d
def lendCs (loc : List LObj) : List DV → (List DV → Prop) → Prop
  | [], K => K []
  | d :: r, K => lendC loc d fun d => lendCs loc r fun l => K (d :: l)
def lend0 (loc : List LObj) (d : DV) (K : DV → Prop) : Prop :=
  match d with
  | .own j => match lget loc j with
    | .row _ sz es => K (.lst sz es false)
    | _ => False
  | .lp j o => match lget loc j with
    | .cells _ cs => match plainAll cs with
      | true => K (.ip (cs.drop o))
      | false => False
    | _ => False
  | .fn f caps => lendCs loc caps fun l => K (.fn f l)
  | .ap .. | .rp .. | .wh .. => False
  | .agg _ => False
  | .tup _ => False
  | d => K d
def lendL (loc : List LObj) : List DV → (List DV → Prop) → Prop
  | [], K => K []
  | d :: r, K => lend0 loc d fun d => lendL loc r fun l => K (d :: l)
def lend (loc : List LObj) (d : DV) (K : DV → Prop) : Prop :=
  match d with
  | .agg cs => lendL loc cs fun l => K (.agg l)
  | .tup ds => match ds.any isOwn with
    | false => K (.tup ds)
    | true => False
  | d => lend0 loc d K
def lendA (loc : List LObj) : List DV → (List DV → Prop) → Prop
  | [], K => K []
  | d :: r, K => lend loc d fun d => lendA loc r fun l => K (d :: l)
def lendable (loc : List LObj) (d : DV) : Bool :=
  match d with
  | .lp j _ => match lget loc j with
    | .cells _ cs => plainAll cs
    | _ => true
  | _ => true
def own0 : DV → List DV
  | .own j => [.own j]
  | .lp j o => [.lp j o]
  | .fn _ caps => caps.filter isLp
  | _ => []
def owns : List DV → List DV
  | [] => []
  | .agg cs :: r => cs.flatMap own0 ++ owns r
  | d :: r => own0 d ++ owns r

inductive dle : DV → DV → Prop
  | refl {d : DV} : dle d d
  | nil {sz sz' : Nat} {f f' : Bool} (h : f' = true → f = true) : dle (.lst sz [] f) (.lst sz' [] f')
  | nl {sz : Nat} {f : Bool} : dle .nl (.lst sz [] f)
  | lst {sz : Nat} {es : List (List DV)} {f : Bool} : dle (.lst sz es f) (.lst sz es false)
  | rows {sz : Nat} {es es' : List (List DV)} {f : Bool} (hl : es.length = es'.length) (hr : ∀ (i : Nat) r r', es[i]? = some r → es'[i]? = some r' → r.length = r'.length)
      (h : ∀ (i j : Nat) r r' c d, es[i]? = some r → es'[i]? = some r' → r[j]? = some c → r'[j]? = some d → dle c d) : dle (.lst sz es f) (.lst sz es' f)
  | agg {cs ds : List DV} (hl : cs.length = ds.length) (h : ∀ (i : Nat) c d, cs[i]? = some c → ds[i]? = some d → dle c d) : dle (.agg cs) (.agg ds)
  | tup {cs ds : List DV} (hl : cs.length = ds.length) (h : ∀ (i : Nat) c d, cs[i]? = some c → ds[i]? = some d → dle c d) : dle (.tup cs) (.tup ds)
  | junk {d : DV} : dle d .junk

def DleAll : List DV → List DV → Prop
  | [], [] => True
  | x :: r, y :: r' => dle x y ∧ DleAll r r'
  | _, _ => False
theorem DleAll_refl : ∀ l : List DV, DleAll l l
  | [] => trivial
  | _ :: r => ⟨.refl, DleAll_refl r⟩

inductive Imm (A : Nat → Prop) (w : World) : Value → DV → Prop
  | v {x : Value} (h : x.oneCell' = true) : Imm A w x (.v x)
  | lst {a : Addr} {n c sz : Nat} {es : List (List DV)} {full : Bool} (xs : Nat → Nat → Value) (hn : es.length = n) (hc : n ≤ c) (hm : c ≤ maxLen) (hf : full = true → c = n) (hsz : ∀ e ∈ es, e.length = sz)
      (hA : es ≠ [] → ¬ A a.block) (hb : es ≠ [] → a.block < w.heap.size) (hone : ∀ i j, (xs i j).oneCell' = true)
      (hcell : ∀ (i j : Nat) e d, es[i]? = some e → e[j]? = some d → w.cell? (a.add (i * sz + j)) = some (xs i j))
      (hx : ∀ (i j : Nat) e d, es[i]? = some e → e[j]? = some d → Imm A w (xs i j) d) : Imm A w (.slice (some a) n c) (.lst sz es full)
  | nil {sz : Nat} {full : Bool} : Imm A w (.slice none 0 0) (.lst sz [] full)
  | nl : Imm A w (.slice none 0 0) .nl
  | agg {vs : List Value} {ds : List DV} (hl : vs.length = ds.length) (hone : ∀ v ∈ vs, v.oneCell' = true) (h : ∀ (i : Nat) v d, vs[i]? = some v → ds[i]? = some d → Imm A w v d) : Imm A w (.agg vs.toArray) (.agg ds)
  | tup {vs : List Value} {ds : List DV} (hl : vs.length = ds.length) (h : ∀ (i : Nat) v d, vs[i]? = some v → ds[i]? = some d → Imm A w v d) : Imm A w (.tuple vs.toArray) (.tup ds)
  | ip {a : Addr} {cs : List DV} (xs : Nat → Value) (hA : ¬ A a.block) (hb : a.block < w.heap.size) (hone : ∀ i, (xs i).oneCell' = true) (hcell : ∀ (j : Nat) d, cs[j]? = some d → w.cell? (a.add j) = some (xs j)) (hx : ∀ (j : Nat) d, cs[j]? = some d → Imm A w (xs j) d) :
      Imm A w (.pointer (some a)) (.ip cs)
  | fn {f : Fn} {vs : List Value} {ds : List DV} (hl : vs.length = ds.length) (h : ∀ (i : Nat) v d, vs[i]? = some v → ds[i]? = some d → Imm A w v d) : Imm A w (.func f #[] vs.toArray) (.fn f ds)
  | wh {b : Bool} {d : DV} {x : Value} (h : b = true → Imm A w x d) (h0 : b = false → x = undef) : Imm A w x (.wh b d)
  | junk {x : Value} : Imm A w x .junk

def ImmAll (A : Nat → Prop) (w : World) : List Value → List DV → Prop
  | [], [] => True
  | v :: vs, d :: ds => Imm A w v d ∧ ImmAll A w vs ds
  | _, _ => False

def blk : Value → Option Nat
  | .pointer (some a) => some a.block
  | .slice (some a) _ _ => some a.block
  | _ => none
structure Home where
  w : World
  M : Nat → Prop
  gs : List Value
def Home.mine (h : Home) (b : Nat) : Prop := h.w.heap.size ≤ b ∨ h.M b
structure Grown (M : Nat → Prop) (w w' : World) : Prop where
  os : w'.os = w.os
  tape : w'.tape = w.tape
  output : w'.output = w.output
  size : w.heap.size ≤ w'.heap.size
  block : ∀ k, k < w.heap.size → ¬ M k → w'.heap[k]? = w.heap[k]?

abbrev Objs := List (Value × LObj)
inductive RepV (A : Nat → Prop) (os : Objs) (w : World) : Value → DV → Prop
  | imm {x : Value} {d : DV} (h : Imm A w x d) : RepV A os w x d
  | lp {i off g : Nat} {t : TypeId} {cs : List DV} (h : os[i]? = some (.pointer (some ⟨g, 0, none⟩), .cells t cs)) : RepV A os w (.pointer (some ⟨g, off, none⟩)) (.lp i off)
  | ap {i off g : Nat} {t : TypeId} {cs : List DV} (h : os[i]? = some (.pointer (some ⟨g, 0, none⟩), .cells t cs)) : RepV A os w (.pointer (some ⟨g, off, none⟩)) (.ap i off)
  | rp {i k off g n c : Nat} {e : TypeId} {sz : Nat} {es : List (List DV)} (h : os[i]? = some (.slice (some ⟨g, 0, none⟩) n c, .row e sz es)) : RepV A os w (.pointer (some ⟨g, k * sz + off, none⟩)) (.rp i k off)
  | own {i : Nat} {x : Value} {e : TypeId} {sz : Nat} {es : List (List DV)} (h : os[i]? = some (x, .row e sz es)) (h1 : x.oneCell' = true) : RepV A os w x (.own i)
  | stale {i : Nat} {x y : Value} {d : DV} (h : os[i]? = some (y, .gone)) (hd : d = .own i ∨ ∃ k off, d = .rp i k off) (h1 : x.oneCell' = true) : RepV A os w x d
  | agg {vs : List Value} {ds : List DV} (hl : vs.length = ds.length) (hone : ∀ v ∈ vs, v.oneCell' = true) (h : ∀ (i : Nat) v d, vs[i]? = some v → ds[i]? = some d → RepV A os w v d) : RepV A os w (.agg vs.toArray) (.agg ds)
  | fn {f : Fn} {vs : List Value} {ds : List DV} (hl : vs.length = ds.length) (hcap : ∀ d ∈ ds, isCap d = true) (h : ∀ (i : Nat) v d, vs[i]? = some v → ds[i]? = some d → RepV A os w v d) : RepV A os w (.func f #[] vs.toArray) (.fn f ds)
  | tup {vs : List Value} {ds : List DV} (hl : vs.length = ds.length) (hown : ∀ (i : Nat) v d, vs[i]? = some v → ds[i]? = some d → isOwn d = true ∨ Imm A w v d) (h : ∀ (i : Nat) v d, vs[i]? = some v → ds[i]? = some d → RepV A os w v d) : RepV A os w (.tuple vs.toArray) (.tup ds)
  | wh {b : Bool} {d : DV} {x : Value} (h : b = true → RepV A os w x d) (h0 : b = false → x = undef) : RepV A os w x (.wh b d)

def ObjOk (A : Nat → Prop) (os : Objs) (B : Home) (w : World) (x : Value) (o : LObj) : Prop :=
  match o with
  | .dead => True
  | .gone => blk x = none
  | .gh ds => x = .tuple B.gs.toArray ∧ B.gs.length = ds.length ∧ (∀ v ∈ B.gs, v.oneCell' = true) ∧ ∀ (i : Nat) v d, B.gs[i]? = some v → ds[i]? = some d → RepV A os w v d
  | .cells t cs => ∃ g arr, x = .pointer (some ⟨g, 0, none⟩) ∧ B.mine g ∧ w.heap[g]? = some (.cells arr t (0, 0)) ∧ arr.size = cs.length ∧ (∀ v ∈ arr.toList, v.oneCell' = true) ∧
      ∀ (j : Nat) v d, arr[j]? = some v → cs[j]? = some d → RepV A os w v d
  | .row e sz es => (∀ b, blk x = some b → B.mine b) ∧ ∃ xs, w.ownsRow 0 e sz x es.length xs ∧ 0 < sz ∧ (∀ r ∈ es, r.length = sz) ∧ (∀ v ∈ xs, v.oneCell' = true) ∧
      ∀ (k j : Nat) r d, es[k]? = some r → r[j]? = some d → ∃ v, xs[k * sz + j]? = some v ∧ Imm A w v d
def ObjsOk (A : Nat → Prop) (os : Objs) (B : Home) (w : World) : Prop := ∀ (i : Nat) x o, os[i]? = some (x, o) → ObjOk A os B w x o

def avoid (A0 : Nat → Prop) (os : Objs) (b : Nat) : Prop := A0 b ∨ ∃ (i : Nat) (x : Value) (o : LObj), os[i]? = some (x, o) ∧ o ≠ .dead ∧ blk x = some b


def ofOs (os : Objs) (b : Nat) : Prop := ∃ (i : Nat) (x : Value) (o : LObj), os[i]? = some (x, o) ∧ o ≠ .dead ∧ blk x = some b
def anyHome (w : World) : Home := ⟨w, fun _ => True, []⟩
structure Laid (A : Nat → Prop) (os : Objs) (L : List LObj) (w : World) : Prop where
  loc : os.map (·.2) = L
  obj : ObjsOk (avoid A os) os (anyHome w) w
  inj : ∀ (i j : Nat) x o y o' b, os[i]? = some (x, o) → os[j]? = some (y, o') → o ≠ .dead → o' ≠ .dead → blk x = some b → blk y = some b → i = j
  out : ∀ b, A b → ¬ ofOs os b
def RepAll (A : Nat → Prop) (os : Objs) (w : World) : List Value → List DV → Prop
  | [], [] => True
  | v :: vs, d :: ds => RepV A os w v d ∧ RepAll A os w vs ds
  | _, _ => False
def RetM (P : Program) (f : FuncId) (L : List LObj) (args : List DV) (kept : List Bool) (L' : List LObj) (d : DV) : Prop :=
  (∀ (vs : Array Value) (w : World), (callFunc f vs).run P w = .ok (.enter f vs) w) ∧ ∀ (A : Nat → Prop) (w : World) (os : Objs) (vals : List Value), (∀ b, A b → b < w.heap.size) → Laid A os L w → RepAll (avoid A os) os w vals args →
    Calls P f vals.toArray w fun e w' => ∃ v os', e = .returned v ∧ Laid A os' L' w' ∧ RepV (avoid A os') os' w' v d ∧ Grown (ofOs os) w w' ∧ (∀ b, ofOs os' b → ofOs os b ∨ w.heap.size ≤ b) ∧
      ∀ (i : Nat) x o, kept[i]? = some true → os[i]? = some (x, o) → ∃ o', os'[i]? = some (x, o')

inductive ole : LObj → LObj → Prop
  | refl {o : LObj} : ole o o
  | cells {t : TypeId} {cs ds : List DV} (hl : cs.length = ds.length) (h : ∀ (i : Nat) c d, cs[i]? = some c → ds[i]? = some d → dle c d) : ole (.cells t cs) (.cells t ds)
  | gh {cs ds : List DV} (hl : cs.length = ds.length) (h : ∀ (i : Nat) c d, cs[i]? = some c → ds[i]? = some d → dle c d) : ole (.gh cs) (.gh ds)
  | dead {o : LObj} : ole o .dead
def bnd0 (l : List LObj) : DV → Bool
  | .own i | .rp i _ _ => isRow (lget l i)
  | .lp i _ | .ap i _ => isCells (lget l i)
  | .fn _ caps => caps.all fun d => match d with
    | .lp i _ => isCells (lget l i)
    | _ => true
  | .agg _ | .tup _ | .wh .. => false
  | _ => true
def bnd (l : List LObj) : DV → Bool
  | .agg cs => cs.all (bnd0 l)
  | d => bnd0 l d
def bndE (l : List LObj) : List (Nat × DV) → Bool
  | [] => true
  | p :: r => bnd l p.2 && bndE l r
def bndL (l : List LObj) : List LObj → Bool
  | [] => true
  | .cells _ cs :: r => cs.all (bnd0 l) && bndL l r
  | .gh cs :: r => cs.all (bnd0 l) && bndL l r
  | _ :: r => bndL l r
def nth : List Nat → Nat → Nat
  | [], _ => 0
  | i :: _, 0 => i
  | _ :: r, k + 1 => nth r k
def mvC (ρ : Nat → Nat) : DV → DV
  | .lp j o => .lp (ρ j) o
  | d => d
def mv0 (ρ : Nat → Nat) : DV → DV
  | .own j => .own (ρ j)
  | .lp j o => .lp (ρ j) o
  | .ap j o => .ap (ρ j) o
  | .rp j k o => .rp (ρ j) k o
  | .fn f caps => .fn f (caps.map (mvC ρ))
  | .wh b d => .wh b (mv0 ρ d)
  | d => d
def mvT (ρ : Nat → Nat) : DV → DV
  | .agg cs => .agg (cs.map (mv0 ρ))
  | .tup ds => .tup (ds.map (mv0 ρ))
  | .wh b d => .wh b (mvT ρ d)
  | d => mv0 ρ d
def mvO (ρ : Nat → Nat) : LObj → LObj
  | .cells t cs => .cells t (cs.map (mv0 ρ))
  | .gh _ => .dead
  | o => o
def mvG (ρ : Nat → Nat) : LObj → LObj
  | .cells t cs => .cells t (cs.map (mv0 ρ))
  | .gh ds => .gh (ds.map (mv0 ρ))
  | o => o
def dn (m k : Nat) : Nat :=
  match Nat.blt m k with
  | true => k - 1
  | false => k
def jkC (J : List Nat) : DV → Bool
  | .lp j _ => J.contains j
  | _ => false
def jk0 (J : List Nat) : DV → DV
  | .own j => match J.contains j with | true => .junk | false => .own j
  | .lp j o => match J.contains j with | true => .junk | false => .lp j o
  | .ap j o => match J.contains j with | true => .junk | false => .ap j o
  | .rp j k o => match J.contains j with | true => .junk | false => .rp j k o
  | .fn f caps => match caps.any (jkC J) with | true => .junk | false => .fn f caps
  | .wh b d => .wh b (jk0 J d)
  | d => d
def jkT (J : List Nat) : DV → DV
  | .agg cs => .agg (cs.map (jk0 J))
  | .tup ds => .tup (ds.map (jk0 J))
  | .wh b d => .wh b (jkT J d)
  | d => jk0 J d
def notKept : List Nat → List Bool → List Nat
  | i :: r, true :: k => notKept r k
  | i :: r, _ :: k => i :: notKept r k
  | r, [] => r
  | [], _ => []
def setAll : List LObj → List Nat → List LObj → List LObj
  | l, i :: r, o :: r' => setAll (lset l i o) r r'
  | l, _, _ => l
def voidE (J : List Nat) (e : List (Nat × DV)) : List (Nat × DV) :=
  match J with
  | [] => e
  | _ => mapE (jkT J) e
def voidL (J : List Nat) (l : List LObj) : List LObj :=
  match J with
  | [] => l
  | _ => mapL (jk0 J) l
def afterC (s : DS) (tgt : List Nat) (J : List Nat) (L' : List LObj) : DS :=
  ⟨voidE J s.env, setAll (voidL J s.loc) tgt (L'.map (mvO (nth tgt)))⟩
def sameKind : LObj → LObj → Bool
  | .row e sz _, .row e' sz' _ => Nat.beq e e' && Nat.beq sz sz'
  | .cells t _, .cells t' _ => Nat.beq t t'
  | _, _ => false
def keptOk : List Bool → List LObj → List LObj → Bool
  | [], [], _ => true
  | k :: r, o :: l, o' :: l' => (!k || sameKind o o') && keptOk r l l'
  | _, _, _ => false
def goneOk : List Bool → List LObj → List LObj → Bool
  | true :: k, _ :: l, _ :: l' => goneOk k l l'
  | false :: k, .row _ _ _ :: l, .gone :: l' => goneOk k l l'
  | [], _, _ => true
  | _, _, _ => false
def nodupB : List Nat → Bool
  | [] => true
  | i :: r => !r.contains i && nodupB r
def noGh : List LObj → Bool
  | [] => true
  | .gh _ :: _ => false
  | _ :: r => noGh r
def objsM (loc : List LObj) (ρ : Nat → Nat) : List Nat → List LObj → Prop
  | [], [] => True
  | i :: r, o :: r' => ole (lget loc i) (mvO ρ o) ∧ objsM loc ρ r r'
  | _, _ => False
def from' : Nat → Nat → List Nat
  | _, 0 => []
  | i, q + 1 => i :: from' (i + 1) q
def lendX0 (pass : List Nat) (loc : List LObj) (d : DV) (K : DV → Prop) : Prop :=
  match d with
  | .own j => match pass.contains j with
    | true => K (.own j)
    | false => lend0 loc (.own j) K
  | .lp j o => match pass.contains j with
    | true => K (.lp j o)
    | false => lend0 loc (.lp j o) K
  | .ap j o => match pass.contains j with
    | true => K (.ap j o)
    | false => False
  | .rp j k o => match pass.contains j with
    | true => K (.rp j k o)
    | false => False
  | .fn f caps => match caps.any (jkC pass) with
    | true => False
    | false => lend0 loc (.fn f caps) K
  | d => lend0 loc d K
def lendXL (pass : List Nat) (loc : List LObj) : List DV → (List DV → Prop) → Prop
  | [], K => K []
  | d :: r, K => lendX0 pass loc d fun d => lendXL pass loc r fun l => K (d :: l)
def lendX (pass : List Nat) (loc : List LObj) (d : DV) (K : DV → Prop) : Prop :=
  match d with
  | .agg cs => lendXL pass loc cs fun l => K (.agg l)
  | d => lendX0 pass loc d K
def lendXA (pass : List Nat) (loc : List LObj) : List DV → (List DV → Prop) → Prop
  | [], K => K []
  | d :: r, K => lendX pass loc d fun d => lendXA pass loc r fun l => K (d :: l)
def ownsX (pass : List Nat) (args : List DV) : List DV := (owns args).filter fun d => match d with
  | .own j | .lp j _ => !pass.contains j
  | _ => true
def Ret (P : Program) (f : FuncId) (args : List DV) (d : DV) : Prop :=
  (∀ (vs : Array Value) (w : World), (callFunc f vs).run P w = .ok (.enter f vs) w) ∧ ∀ (A : Nat → Prop) (w : World) (vals : List Value), (∀ b, A b → b < w.heap.size) → ImmAll A w vals args →
    Calls P f vals.toArray w fun e w' => ∃ v, e = .returned v ∧ Imm A w' v d ∧ w.grownBy w' none

def dcall (P : Program) (f : FuncId) (args : List DV) (s : DS) (K : DV → DS → Prop) : Prop :=
  lendA s.loc args fun l => ∃ l' r, DleAll l l' ∧ Ret P f l' r ∧ match owns args with
    | [] => K r s
    | os => match scalar r with
      | true => K r s
      | false => shutIn os s fun s => K r s

def dcallM (P : Program) (f : FuncId) (args : List DV) (s : DS) (K : DV → DS → Prop) : Prop :=
  ∃ pass : List Nat, lendXA pass s.loc args fun l => shutIn (ownsX pass args) s fun s => ∃ (L : List LObj) (args0 : List DV) (kept : List Bool) (L' : List LObj) (d : DV),
    RetM P f L args0 kept L' d ∧ (keptOk kept L L' && noGh L && nodupB pass && pass.all (fun i => Nat.blt i s.loc.length) && args0.all (bnd L) && bndL L L) = true ∧
    objsM s.loc (nth (pass ++ from' s.loc.length (L'.length - L.length))) pass L ∧ DleAll l (args0.map (mvT (nth (pass ++ from' s.loc.length (L'.length - L.length))))) ∧
    K (mvT (nth (pass ++ from' s.loc.length (L'.length - L.length))) d) (afterC ⟨s.env, s.loc ++ List.replicate (L'.length - L.length) .dead⟩ (pass ++ from' s.loc.length (L'.length - L.length)) (notKept pass kept) L')

def elemsK (ρ : Operand → DV) (size : Nat) : List (Nat × Operand) → List (List DV) → (List (List DV) → Prop) → Prop
  | [], es, K => K es
  | (i, x) :: r, es, K => frc (ρ x) fun d => match Nat.beq (dcells d).length size && Nat.blt i es.length && plainAll (dcells d) with
    | true => elemsK ρ size r (es.set i (dcells d)) K
    | false => False

def shutOps (s : DS) : List Operand → (DS → Prop) → Prop
  | [], K => K s
  | x :: r, K => frc (ev s x) fun d => shutIn (owns [d]) s fun s' => shutOps s' r K

def dNews (tt : TT) (e : TypeId) (loc : List LObj) (d : DV) (K : List (List DV) → Bool → Prop) : Prop :=
  match d with
  | .nl => K [] false
  | .lst sz es _ => match Nat.beq sz (tinfo tt e).size with
    | true => K es false
    | false => False
  | .own j => match lget loc j with
    | .row _ sz es => match Nat.beq sz (tinfo tt e).size with
      | true => K es true
      | false => False
    | _ => False
  | _ => False
def fitsIn (tt : TT) (e : TypeId) (n : Nat) : Prop := n * (tinfo tt e).bytes ≤ 140737488355328 ∧ n ≤ maxLen
def dAppend (tt : TT) (e : TypeId) (s : DS) (dst : Option Tmp) (x y : DV) (K : DS → Prop) : Prop :=
  dNews tt e s.loc y fun ys some => match x with
    | .nl => fitsIn tt e ys.length ∧ putK ⟨s.env, s.loc ++ [.row e (tinfo tt e).size ys]⟩ dst (.own s.loc.length) K
    | .own i => match lget s.loc i with
      | .row e' sz es => match Nat.beq e' e && Nat.beq sz (tinfo tt e).size with
        | true => fitsIn tt e (es.length + ys.length) ∧ putK (s.grow i e sz (es ++ ys)) dst (.own i) K
        | false => False
      | _ => False
    | .lst sz es true => match Nat.beq sz (tinfo tt e).size with
      | true => fitsIn tt e (es.length + ys.length) ∧ match some with
        | true => 0 < ys.length ∧ putK ⟨s.env, s.loc ++ [.row e sz (es ++ ys)]⟩ dst (.own s.loc.length) K
        | false => putK s dst (.lst sz (es ++ ys) false) K
      | false => False
    | _ => False
def dCopy (tt : TT) (e : TypeId) (s : DS) (dst : Option Tmp) (x y : DV) (K : DS → Prop) : Prop :=
  dNews tt e s.loc y fun ys _ => match x with
    | .nl => putK s dst (.v (.int .i64 (0 : Nat))) K
    | .own i => match lget s.loc i with
      | .row e' sz es => match Nat.beq e' e && Nat.beq sz (tinfo tt e).size with
        | true => putK ⟨s.env, lset s.loc i (.row e sz (ys.take es.length ++ es.drop ys.length))⟩ dst (.v (.int .i64 (Nat.min ys.length es.length : Nat))) K
        | false => False
      | _ => False
    | _ => False

def dStoreRow (tt : TT) (s : DS) (dst : Option Tmp) (t : TypeId) (x d : DV) (K : DS → Prop) : Prop :=
  match x with
  | .rp i k off => match plainAll (dcells d), lget s.loc i with
    | true, .row e sz es => ∃ ed, es[k]? = some ed ∧ match Nat.beq (dcells d).length (tinfo tt t).size && Nat.ble (off + (dcells d).length) sz with
      | true => putK ⟨s.env, lset s.loc i (.row e sz (es.set k (dsplice ed off (dcells d))))⟩ dst (.wh false (.v (.bool false))) K
      | false => False
    | _, _ => False
  | _ => False
def dStore (tt : TT) (s : DS) (dst : Option Tmp) (t : TypeId) (a y : Operand) (d : DV) (K : DS → Prop) : Prop :=
  match (tinfo tt t).size with
  | 0 => False
  | _ => match ev s a with
    | .lp i off => match lget s.loc i with
      | .cells t' cs => match Nat.beq (dcells d).length (tinfo tt t).size && Nat.ble (off + (dcells d).length) cs.length with
        | false => False
        | true => forceC (dsplice cs off (dcells d)) fun cs' => putK ⟨s.env, lset s.loc i (.cells t' cs')⟩ dst (.wh false (.v (.bool false))) K
      | _ => False
    | .ap i off => match lget s.loc i with
      | .cells t' cs => match Nat.beq (dcells d).length (tinfo tt t).size with
        | true => off + (dcells d).length ≤ cs.length ∧ putK ⟨s.env, lset s.loc i (.cells t' (dsplice cs off (dcells d)))⟩ dst (.wh false (.v (.bool false))) K
        | false => False
      | _ => False
    | .rp _ _ _ => shutIn (owns [d]) s fun s => frc (ev s y) fun d => dStoreRow tt s dst t (ev s a) d K
    | _ => False

def dIsNil (loc : List LObj) (d : DV) (K : Bool → Prop) : Prop :=
  match d with
  | .nl => K true
  | .lst _ es _ => (es = [] → K true) ∧ K false
  | .own j => match lget loc j with
    | .row _ _ es => (es = [] → K true) ∧ K false
    | _ => False
  | _ => False
def dNil (loc : List LObj) (op : BinOp) (d : DV) (K : Bool → Prop) : Prop :=
  match op with
  | .eql => dIsNil loc d fun b => K b
  | .neq => dIsNil loc d fun b => K (!b)
  | _ => False

def dop (tt : TT) (P : Program) (o : Oper) (s : DS) (K : DS → Prop) : Prop :=
  match isVal o.op (ev s) with
  | true => dval tt s.loc o.op (ev s) fun c d => needs c (putK s o.dst d K)
  | false => match o.op with
    | .alloc t => match (tinfo tt t).size with
      | 0 => False
      | _ => putK ⟨s.env, s.loc ++ [.cells t (tinfo tt t).zero]⟩ o.dst (.lp s.loc.length 0) K
    | .box t x => frc (ev s x) fun d => match d with
      | .agg cs => forceC cs fun cs => putK ⟨s.env, s.loc ++ [.cells t cs]⟩ o.dst (.lp s.loc.length 0) K
      | .wh .. | .tup _ | .junk => False
      | d => putK ⟨s.env, s.loc ++ [.cells t [d]]⟩ o.dst (.lp s.loc.length 0) K
    | .store t a x => frc (ev s x) fun d => match d with
      | .wh .. | .tup _ | .junk => False
      | d => dStore tt s o.dst t a x d K
    | .buildSlice t n parts => match (tinfo tt t).k with
      | .slc e => match (tinfo tt e).size, Nat.ble (n * (tinfo tt e).size) 16777216 with
        | _ + 1, true => shutOps s (parts.toList.map (·.2)) fun s => elemsK (ev s) (tinfo tt e).size parts.toList (List.replicate n (tinfo tt e).zero) fun es =>
          putK ⟨s.env, s.loc ++ [.row e (tinfo tt e).size es]⟩ o.dst (.own s.loc.length) K
        | _, _ => False
      | _ => False
    | .makeSlice t l c => match (tinfo tt t).k with
      | .slc e => match (tinfo tt e).size, ev s l, ev s c with
        | _ + 1, .v (.int _ l), .v (.int _ c) => ∃ n m : Nat, l = n ∧ c = m ∧ n ≤ m ∧ m * (tinfo tt e).bytes ≤ 140737488355328 ∧ m ≤ maxLen ∧
            putK ⟨s.env, s.loc ++ [.row e (tinfo tt e).size (List.replicate n (tinfo tt e).zero)]⟩ o.dst (.own s.loc.length) K
        | _, _, _ => False
      | _ => False
    | .slice t x lo hi mx => match ev s x with
      | .own j => match lget s.loc j with
        | .row _ sz es => dval tt (s.shut j sz es).loc (.slice t x lo hi mx) (ev (s.shut j sz es)) fun c d => needs c (putK (s.shut j sz es) o.dst d K)
        | _ => False
      | _ => False
    | .convert src dst x => match ev s x with
      | .own j => match lget s.loc j with
        | .row _ sz es => dval tt (s.shut j sz es).loc (.convert src dst x) (ev (s.shut j sz es)) fun c d => needs c (putK (s.shut j sz es) o.dst d K)
        | _ => False
      | _ => False
    | .binOp op t x y _ => match (tinfo tt t).k, ev s y with
      | .slc _, .nl => dNil s.loc op (ev s x) fun b => putK s o.dst (.v (.bool b)) K
      | _, _ => False
    | .call { callee := .builtin .append, args, argTypes } => match args.toList, argTypes.toList with
      | [x, y], [t, t'] => match Nat.beq t t', (tinfo tt t).k with
        | true, .slc e => match (tinfo tt e).size with
          | 0 => False
          | _ => dAppend tt e s o.dst (ev s x) (ev s y) K
        | _, _ => False
      | _, _ => False
    | .call { callee := .builtin .copy, args, argTypes } => match args.toList, argTypes.toList with
      | [x, y], [t, t'] => match Nat.beq t t', (tinfo tt t).k with
        | true, .slc e => match (tinfo tt e).size with
          | 0 => False
          | _ => dCopy tt e s o.dst (ev s x) (ev s y) K
        | _, _ => False
      | _, _ => False
    | .call { callee := .value f, args, .. } => match ev s f with
      | .fn (.func n) caps => evL (ev s) args.toList fun l => dcall P n (l ++ caps) s (fun r s => putK s o.dst r K) ∨ dcallM P n (l ++ caps) s (fun r s => putK s o.dst r K)
      | _ => False
    | _ => False

def oblAll (b : Bool) (s : DS) : List Operand → (Option Prop → Prop) → Prop
  | [], K => K none
  | x :: r, K => match ev s x with
    | .wh g _ => oblAll b s r fun c => K (andO (some (b = true → g = true)) c)
    | _ => oblAll b s r K
def under (g : Bool) : Option Prop → Option Prop
  | none => none
  | some c => some (g = true → c)
def strip (d : DV) : DV :=
  match d with
  | .wh _ d => d
  | d => d
def bare (s : DS) (x : Operand) : DV := strip (ev s x)

def openK (g : Bool) : List Operand → DS → (DS → Prop) → Prop
  | [], s, K => K s
  | .tmp t :: r, s, K => match look s.env t with
    | .wh g' d => (g = true → g' = true) ∧ openK g r ⟨(t, d) :: s.env, s.loc⟩ K
    | _ => openK g r s K
  | _ :: r, s, K => openK g r s K
def dguard0 (tt : TT) (P : Program) (o : Oper) (g : Bool) (s : DS) (K : DS → Prop) : Prop :=
  match isVal o.op (bare s) with
  | true => oblAll g s o.op.operands.toList fun c0 => dval tt s.loc o.op (bare s) fun c d => needs (andO c0 (under g c)) (putK s o.dst (.wh g d) K)
  | false => match o.op with
    | .call { callee := .value f, args, .. } => match bare s f with
      | .fn (.func n) caps => oblAll g s o.op.operands.toList fun c0 => evL (bare s) args.toList fun l => lendA s.loc (l ++ caps) fun l1 => ∃ l' r, DleAll l1 l' ∧ (g = true → Ret P n l' r) ∧ needs c0 (match owns (l ++ caps) with
        | [] => putK s o.dst (.wh g r) K
        | _ => match scalar r with
          | true => putK s o.dst (.wh g r) K
          | false => (g = true → openK g o.op.operands.toList s fun s => dop tt P o s K) ∧ (g = false → putK s o.dst (.wh false (.v (.bool false))) K))
      | _ => False
    | _ => (g = true → openK g o.op.operands.toList s fun s => dop tt P o s K) ∧ (g = false → putK s o.dst (.wh false (.v (.bool false))) K)

def dgPick (s : DS) (g : Bool) (c a b : Operand) (K : Option Prop → DV → Prop) : Prop :=
  oblAll g s [c] fun c0 => match bare s c with
  | .v (.bool t) => obl (g && t) (ev s a) fun c1 x => obl (g && !t) (ev s b) fun c2 y => frc x fun x => frc y fun y => dpickV t x y (isConstTrue a) (isConstFalse b) fun d => K (andO c0 (andO c1 c2)) d
  | _ => False
def dguard (tt : TT) (P : Program) (o : Oper) (g : Bool) (s : DS) (K : DS → Prop) : Prop :=
  match o.op with
  | .pick c a b => dgPick s g c a b fun c d => needs c (putK s o.dst (.wh g d) K)
  | _ => dguard0 tt P o g s K

def guardOf (all : List Oper) (s : DS) (j : Nat) : DV :=
  match all[j]? with
  | some o => match o.dst with
    | some t => look s.env t
    | none => .junk
  | none => .junk
def wantK (b want : Bool) (K : Bool → Prop) : Prop :=
  match want with
  | true => K b
  | false => K (!b)

def dops (tt : TT) (P : Program) (all : List Oper) : List Oper → (DS → Prop) → DS → Prop
  | [], K, s => K s
  | o :: r, K, s => match o.guard with
    | none => dop tt P o s fun s => dops tt P all r K s
    | some (j, want) => match guardOf all s j with
      | .v (.bool b) => wantK b want fun g => dguard tt P o g s fun s => dops tt P all r K s
      | .wh g (.v (.bool b)) => wantK b want fun g' => dguard tt P o (g && g') s fun s => dops tt P all r K s
      | _ => False

def dcond (b : Bool) (x y : Prop) : Prop :=
  match b with
  | true => x
  | false => y
theorem dcond_intro {b : Bool} {x y : Prop} (h : b = true → x) (h' : b = false → y) : dcond b x y := by
  cases b
  · exact h' rfl
  · exact h rfl

structure TE where
  puts : List (Nat × DV)
  rd : List Nat
  wr : List (Nat × LObj)
  mv : List (Nat × Nat)
def lsets : List LObj → List (Nat × LObj) → List LObj
  | l, [] => l
  | l, p :: r => lsets (lset l p.1 p.2) r
def TE.app (te : TE) (s : DS) : DS := ⟨te.puts ++ s.env, lsets s.loc te.wr⟩
def consK : List (Nat × DV) → List (Nat × DV) → (List (Nat × DV) → Prop) → Prop
  | [], e, K => K e
  | p :: r, e, K => consK r e fun e => K (p :: e)
def TE.appK (te : TE) (s : DS) (K : DS → Prop) : Prop :=
  match te, s with
  | ⟨puts, _, wr, _⟩, ⟨e, l⟩ => consK puts e fun e => match wr with
    | [] => K ⟨e, l⟩
    | _ => forceL (lsets l wr) fun l => K ⟨e, l⟩
def refsC : DV → List Nat
  | .lp i _ => [i]
  | _ => []
def refs0 : DV → List Nat
  | .lp i _ | .ap i _ | .rp i _ _ | .own i => [i]
  | .fn _ caps => caps.flatMap refsC
  | _ => []
def refs : DV → List Nat
  | .agg cs => cs.flatMap refs0
  | .tup ds => ds.flatMap refs0
  | .wh _ d => refs d
  | d => refs0 d
def opRefs (ρ : Operand → DV) (l : List Operand) : List Nat := l.flatMap fun x => refs (ρ x)
def dputs (dst : Option Tmp) (d : DV) : List (Nat × DV) :=
  match dst with
  | some t => [(t, d)]
  | none => []
def isDead : LObj → Bool
  | .dead => true
  | _ => false
def freeAt (l : List LObj) (i : Nat) : Bool := Nat.blt i l.length && isDead (lget l i)

def rStore (tt : TT) (s : DS) (dst : Option Tmp) (t : TypeId) (a : Operand) (d : DV) (K : TE → Prop) : Prop :=
  match (tinfo tt t).size with
  | 0 => False
  | _ => match ev s a with
    | .lp i off => match lget s.loc i with
      | .cells t' cs => match Nat.beq (dcells d).length (tinfo tt t).size && Nat.ble (off + (dcells d).length) cs.length with
        | false => False
        | true => forceC (dsplice cs off (dcells d)) fun cs' => K ⟨dputs dst (.wh false (.v (.bool false))), i :: refs d, [(i, .cells t' cs')], []⟩
      | _ => False
    | .ap i off => match lget s.loc i with
      | .cells t' cs => match Nat.beq (dcells d).length (tinfo tt t).size with
        | true => off + (dcells d).length ≤ cs.length ∧ K ⟨dputs dst (.wh false (.v (.bool false))), i :: refs d, [(i, .cells t' (dsplice cs off (dcells d)))], []⟩
        | false => False
      | _ => False
    | .rp i k off => match plainAll (dcells d), lget s.loc i with
      | true, .row e sz es => ∃ ed, es[k]? = some ed ∧ match Nat.beq (dcells d).length (tinfo tt t).size && Nat.ble (off + (dcells d).length) sz with
        | true => K ⟨dputs dst (.wh false (.v (.bool false))), i :: refs d, [(i, .row e sz (es.set k (dsplice ed off (dcells d))))], []⟩
        | false => False
      | _, _ => False
    | _ => False

def rAppend (tt : TT) (e : TypeId) (s : DS) (idx : Nat) (dst : Option Tmp) (x y : DV) (K : TE → Nat → Prop) : Prop :=
  dNews tt e s.loc y fun ys some => match x with
    | .nl => match freeAt s.loc idx with
      | true => fitsIn tt e ys.length ∧ K ⟨dputs dst (.own idx), refs y, [(idx, .row e (tinfo tt e).size ys)], []⟩ (idx + 1)
      | false => False
    | .own i => match lget s.loc i with
      | .row e' sz es => match Nat.beq e' e && Nat.beq sz (tinfo tt e).size && freeAt s.loc idx with
        | true => fitsIn tt e (es.length + ys.length) ∧ K ⟨dputs dst (.own idx), i :: refs y, [(i, .gone), (idx, .row e sz (es ++ ys))], [(idx, i)]⟩ (idx + 1)
        | false => False
      | _ => False
    | .lst sz es true => match Nat.beq sz (tinfo tt e).size with
      | true => fitsIn tt e (es.length + ys.length) ∧ match some with
        | true => match freeAt s.loc idx with
          | true => 0 < ys.length ∧ K ⟨dputs dst (.own idx), refs y, [(idx, .row e sz (es ++ ys))], []⟩ (idx + 1)
          | false => False
        | false => (0 < ys.length ∧ match freeAt s.loc idx with
          | true => K ⟨dputs dst (.own idx), refs y, [(idx, .row e sz (es ++ ys))], []⟩ (idx + 1)
          | false => False) ∨ K ⟨dputs dst (.lst sz (es ++ ys) false), refs y, [], []⟩ idx
      | false => False
    | _ => False
def rCopy (tt : TT) (e : TypeId) (s : DS) (dst : Option Tmp) (x y : DV) (K : TE → Prop) : Prop :=
  dNews tt e s.loc y fun ys _ => match x with
    | .nl => K ⟨dputs dst (.v (.int .i64 (0 : Nat))), refs y, [], []⟩
    | .own i => match lget s.loc i with
      | .row e' sz es => match Nat.beq e' e && Nat.beq sz (tinfo tt e).size with
        | true => K ⟨dputs dst (.v (.int .i64 (Nat.min ys.length es.length : Nat))), i :: refs y, [(i, .row e sz (ys.take es.length ++ es.drop ys.length))], []⟩
        | false => False
      | _ => False
    | _ => False

def ropM (P : Program) (f : FuncId) (args : List DV) (s : DS) (idx : Nat) (dst : Option Tmp) (rd : List Nat) (K : TE → Nat → Prop) : Prop :=
  ∃ (pass : List Nat) (L : List LObj) (args0 : List DV) (kept : List Bool) (L' : List LObj) (d : DV),
    RetM P f L args0 kept L' d ∧ (keptOk kept L L' && noGh L && nodupB (pass ++ from' idx (L'.length - L.length)) && pass.all (fun i => Nat.blt i s.loc.length) && args0.all (bnd L) && bndL L L && goneOk kept L L' && (from' idx (L'.length - L.length)).all (freeAt s.loc)) = true ∧
    objsM s.loc (nth (pass ++ from' idx (L'.length - L.length))) pass L ∧ DleAll args (args0.map (mvT (nth (pass ++ from' idx (L'.length - L.length))))) ∧
    K ⟨dputs dst (mvT (nth (pass ++ from' idx (L'.length - L.length))) d), rd ++ pass, (pass ++ from' idx (L'.length - L.length)).zip (L'.map (mvO (nth (pass ++ from' idx (L'.length - L.length))))), []⟩ (idx + (L'.length - L.length))
def ropMG (P : Program) (f : FuncId) (args : List DV) (s : DS) (idx : Nat) (dst : Option Tmp) (rd : List Nat) (K : TE → Nat → Prop) : Prop :=
  match owns args with
  | [.own j] => match isRow (lget s.loc j) with
    | true => lendA s.loc args fun l1 => ∃ (args0 : List DV) (L' : List LObj) (d : DV), RetM P f [] args0 [] L' d ∧ (keptOk [] [] L' && args0.all (bnd []) && nodupB (from' idx L'.length) && (from' idx L'.length).all (freeAt s.loc)) = true ∧ DleAll l1 args0 ∧
        K ⟨dputs dst (mvT (nth (from' idx L'.length)) d), rd, (j, .gone) :: (from' idx L'.length).zip (L'.map (mvO (nth (from' idx L'.length)))), []⟩ (idx + L'.length)
    | false => False
  | _ => False
def valRefs (o : Op) (ρ : Operand → DV) : List Nat :=
  match o with
  | .move _ | .assign _ => []
  | _ => opRefs ρ o.operands.toList
def rop1 (tt : TT) (P : Program) (o : Oper) (idx : Nat) (s : DS) (K : TE → Nat → Prop) : Prop :=
  match isVal o.op (ev s) with
  | true => dval tt s.loc o.op (ev s) fun c d => needs c (K ⟨dputs o.dst d, valRefs o.op (ev s), [], []⟩ idx)
  | false => match o.op with
    | .alloc t => match (tinfo tt t).size, freeAt s.loc idx with
      | _ + 1, true => K ⟨dputs o.dst (.lp idx 0), [], [(idx, .cells t (tinfo tt t).zero)], []⟩ (idx + 1)
      | _, _ => False
    | .box t x => match freeAt s.loc idx with
      | true => frc (ev s x) fun d => match d with
        | .agg cs => forceC cs fun cs => K ⟨dputs o.dst (.lp idx 0), refs (.agg cs), [(idx, .cells t cs)], []⟩ (idx + 1)
        | .wh .. | .tup _ | .junk => False
        | d => K ⟨dputs o.dst (.lp idx 0), refs d, [(idx, .cells t [d])], []⟩ (idx + 1)
      | false => False
    | .call { callee := .builtin .append, args, argTypes } => match args.toList, argTypes.toList with
      | [x, y], [t, t'] => match Nat.beq t t', (tinfo tt t).k with
        | true, .slc e => match (tinfo tt e).size with
          | 0 => False
          | _ => rAppend tt e s idx o.dst (ev s x) (ev s y) K
        | _, _ => False
      | _, _ => False
    | .call { callee := .builtin .copy, args, argTypes } => match args.toList, argTypes.toList with
      | [x, y], [t, t'] => match Nat.beq t t', (tinfo tt t).k with
        | true, .slc e => match (tinfo tt e).size with
          | 0 => False
          | _ => rCopy tt e s o.dst (ev s x) (ev s y) fun te => K te idx
        | _, _ => False
      | _, _ => False
    | .store t a x => frc (ev s x) fun d => match d with
      | .wh .. | .tup _ | .junk => False
      | d => rStore tt s o.dst t a d fun te => K te idx
    | .buildSlice t n parts => match (tinfo tt t).k with
      | .slc e => match (tinfo tt e).size, Nat.ble (n * (tinfo tt e).size) 16777216 with
        | _ + 1, true => match n with
          | 0 => match freeAt s.loc idx with
            | true => elemsK (ev s) (tinfo tt e).size parts.toList (List.replicate 0 (tinfo tt e).zero) fun es =>
              K ⟨dputs o.dst (.own idx), [], [(idx, .row e (tinfo tt e).size es)], []⟩ (idx + 1)
            | false => False
          | n + 1 => ∃ w : Bool, match w with
            | true => match freeAt s.loc idx with
              | true => elemsK (ev s) (tinfo tt e).size parts.toList (List.replicate (n + 1) (tinfo tt e).zero) fun es =>
                K ⟨dputs o.dst (.own idx), [], [(idx, .row e (tinfo tt e).size es)], []⟩ (idx + 1)
              | false => False
            | false => elemsK (ev s) (tinfo tt e).size parts.toList (List.replicate (n + 1) (tinfo tt e).zero) fun es =>
              K ⟨dputs o.dst (.lst (tinfo tt e).size es (Nat.beq n 0)), [], [], []⟩ idx
        | _, _ => False
      | _ => False
    | .makeSlice t l c => match (tinfo tt t).k with
      | .slc e => match (tinfo tt e).size, ev s l, ev s c, freeAt s.loc idx with
        | _ + 1, .v (.int _ l), .v (.int _ c), true => ∃ n m : Nat, l = n ∧ c = m ∧ n ≤ m ∧ m * (tinfo tt e).bytes ≤ 140737488355328 ∧ m ≤ maxLen ∧
            K ⟨dputs o.dst (.own idx), [], [(idx, .row e (tinfo tt e).size (List.replicate n (tinfo tt e).zero))], []⟩ (idx + 1)
        | _, _, _, _ => False
      | _ => False
    | .call { callee := .value f, args, .. } => match ev s f with
      | .fn (.func n) caps => evL (ev s) args.toList fun l => (lendA s.loc (l ++ caps) fun l1 => ∃ l' r, DleAll l1 l' ∧ Ret P n l' r ∧ match owns (l ++ caps) with
        | [] => K ⟨dputs o.dst r, opRefs (ev s) o.op.operands.toList ++ caps.flatMap refs, [], []⟩ idx
        | os => match scalar r with
          | true => K ⟨dputs o.dst r, opRefs (ev s) o.op.operands.toList ++ caps.flatMap refs, [], []⟩ idx
          | false => match os with
            | [.own j] => match isRow (lget s.loc j) with
              | true => K ⟨dputs o.dst r, opRefs (ev s) o.op.operands.toList ++ caps.flatMap refs, [(j, .gone)], []⟩ idx
              | false => False
            | _ => False) ∨ match owns (l ++ caps) with
              | [.own _] => ropM P n (l ++ caps) s idx o.dst (opRefs (ev s) o.op.operands.toList) K ∨ ropMG P n (l ++ caps) s idx o.dst (opRefs (ev s) o.op.operands.toList ++ caps.flatMap refs) K
              | _ => ropM P n (l ++ caps) s idx o.dst (opRefs (ev s) o.op.operands.toList) K
      | _ => False
    | _ => False
def objsE (loc : List LObj) (ρ : Nat → Nat) : List Nat → List LObj → Prop
  | [], [] => True
  | i :: r, o :: r' => lget loc i = mvO ρ o ∧ objsE loc ρ r r'
  | _, _ => False
def ropR (P : Program) (o : Oper) (idx : Nat) (s : DS) (K : TE → Nat → Prop) : Prop :=
  match o.op with
  | .call { callee := .value f, args, .. } => match ev s f with
    | .fn (.func k) caps => evL (ev s) args.toList fun l => ∃ (pass : List Nat) (L : List LObj) (args0 : List DV) (kept : List Bool) (d : DV),
        RetM P k L args0 kept L d ∧ (keptOk kept L L && noGh L && nodupB pass && pass.all (fun i => Nat.blt i s.loc.length) && args0.all (bnd L) && bndL L L && kept.all (fun b => b)) = true ∧
        objsE s.loc (nth pass) pass L ∧ DleAll (l ++ caps) (args0.map (mvT (nth pass))) ∧
        K ⟨dputs o.dst (mvT (nth pass) d), opRefs (ev s) o.op.operands.toList ++ pass, [], []⟩ idx
    | _ => False
  | _ => False
def ropG (tt : TT) (P : Program) (o : Oper) (g : Bool) (idx : Nat) (s : DS) (K : TE → Nat → Prop) : Prop :=
  match o.op with
  | .pick c a b => dgPick s g c a b fun c d => needs c (K ⟨dputs o.dst (.wh g d), opRefs (ev s) o.op.operands.toList, [], []⟩ idx)
  | _ => match isVal o.op (bare s) with
    | true => oblAll g s o.op.operands.toList fun c0 => dval tt s.loc o.op (bare s) fun c d => needs (andO c0 (under g c)) (K ⟨dputs o.dst (.wh g d), opRefs (bare s) o.op.operands.toList, [], []⟩ idx)
    | false => match o.op with
      | .call { callee := .value f, args, .. } => match bare s f with
        | .fn (.func n) caps => match (args.toList.map (bare s)).all (lendable s.loc) with
          | true => oblAll g s o.op.operands.toList fun c0 => evL (bare s) args.toList fun l => lendA s.loc (l ++ caps) fun l1 => ∃ l' r, DleAll l1 l' ∧ (g = true → Ret P n l' r) ∧ needs c0 (match owns (l ++ caps) with
            | [] => K ⟨dputs o.dst (.wh g r), opRefs (bare s) o.op.operands.toList ++ caps.flatMap refs, [], []⟩ idx
            | _ => match scalar r with
              | true => K ⟨dputs o.dst (.wh g r), opRefs (bare s) o.op.operands.toList ++ caps.flatMap refs, [], []⟩ idx
              | false => False)
          | false => dcond g (openK g o.op.operands.toList s fun s => ropR P o idx s K ∨ rop1 tt P o idx s K) (∃ d : DV, K ⟨dputs o.dst (.wh false d), [], [], []⟩ idx)
        | _ => False
      | _ => dcond g (rop1 tt P o idx s K) (K ⟨dputs o.dst (.wh false (.v (.bool false))), [], [], []⟩ idx)
def rop (tt : TT) (P : Program) (all : List Oper) (o : Oper) (idx : Nat) (s : DS) (K : TE → Nat → Prop) : Prop :=
  match o.guard with
  | none => rop1 tt P o idx s K
  | some (j, want) => match guardOf all s j with
    | .v (.bool b) => wantK b want fun g => ropG tt P o g idx s K
    | .wh g (.v (.bool b)) => wantK b want fun g' => ropG tt P o (g && g') idx s K
    | _ => False
def mvK : List (Nat × Nat) → List (Nat × Nat) → (List (Nat × Nat) → Prop) → Prop
  | mvs, [], K => K mvs
  | mvs, p :: r, K => mvK (p :: mvs) r K
def drops (tt : TT) (P : Program) (all : List Oper) : List Oper → Nat → List TE → List (Nat × Nat) → (List TE → List (Nat × Nat) → DS → Prop) → DS → Prop
  | [], _, acc, mvs, K, s => K acc mvs s
  | o :: r, idx, acc, mvs, K, s => rop tt P all o idx s fun te idx' => te.appK s fun s => mvK mvs te.mv fun mvs => drops tt P all r idx' (acc ++ [te]) mvs K s

def maskOf (acc : List Nat) : List Edge → Nat → Nat
  | [], m => m
  | e :: r, m => match Region.binds .any e with
    | true => maskOf acc r (Nat.lor m (Nat.lor (2 ^ e.on) (acc.getD e.on 0)))
    | false => maskOf acc r m
def masks : List Oper → List Nat → List Nat
  | [], acc => acc
  | o :: r, acc => masks r (acc ++ [maskOf acc o.after.toList 0])
def edgesDown : List Oper → Nat → Bool
  | [], _ => true
  | o :: r, i => o.after.toList.all (fun e => !Region.binds .any e || Nat.blt e.on i) && edgesDown r (i + 1)
def meets (l r : List Nat) : Bool := l.any fun x => r.any fun y => Nat.beq x y
structure Foot where
  ls : List Nat
  ps : List Nat
  rd : List Nat
  wr : List Nat
def footOf (all : Array Oper) (o : Oper) (te : TE) : Foot :=
  ⟨o.looksAt all, te.puts.map (·.1), te.rd, te.wr.map (·.1)⟩
def clash (f g : Foot) : Bool := meets f.ps (g.ls ++ g.ps) || meets f.ls g.ps || meets f.wr (g.rd ++ g.wr) || meets f.rd g.wr
def rowOk (f : Foot) (i : Nat) : List Foot → List Nat → Bool
  | g :: r, m :: ms => (!clash f g || Nat.testBit m i) && rowOk f i r ms
  | _, _ => true
def pairsOk : Nat → List Foot → List Nat → Bool
  | i, f :: r, _ :: ms => rowOk f i r ms && pairsOk (i + 1) r ms
  | _, _, _ => true
def feet (all : Array Oper) : List Oper → List TE → List Foot
  | o :: r, te :: tr => footOf all o te :: feet all r tr
  | _, _ => []
def regOk (ops : Array Oper) (tr : List TE) : Bool :=
  edgesDown ops.toList 0 && pairsOk 0 (feet ops ops.toList tr) (masks ops.toList [])
def creators : List Oper → Nat
  | [] => 0
  | o :: r => match o.op with
    | .alloc _ | .makeSlice .. | .box .. => creators r + 1
    | .buildSlice .. => creators r + 1
    | .call { callee := .builtin .append, .. } => creators r + 1
    | .call { callee := .value _, .. } => creators r + 1
    | _ => creators r
def ren0 (a b : Nat) : DV → DV
  | .own j => match Nat.beq j a with
    | true => .own b
    | false => match Nat.beq j b with
      | true => .junk
      | false => .own j
  | .rp j k o => match Nat.beq j a with
    | true => .rp b k o
    | false => match Nat.beq j b with
      | true => .junk
      | false => .rp j k o
  | .wh c d => .wh c (ren0 a b d)
  | d => d
def renT (a b : Nat) : DV → DV
  | .agg cs => .agg (cs.map (ren0 a b))
  | .tup ds => tupJ ds
  | .wh c d => .wh c (renT a b d)
  | d => ren0 a b d
def norm1 (s : DS) (p : Nat × Nat) : DS :=
  match isRow (lget s.loc p.1), isGone (lget s.loc p.2) with
  | true, true => ⟨mapE (renT p.1 p.2) s.env, lset (lset (mapL (ren0 p.1 p.2) s.loc) p.2 (lget s.loc p.1)) p.1 .dead⟩
  | _, _ => s
def normR : List (Nat × Nat) → DS → DS
  | [], s => s
  | p :: r, s => normR r (norm1 s p)
def movedFrom : List Oper → Tmp → Option Operand
  | [], _ => none
  | o :: r, t => match o.dst, o.op with
    | some d, .move y => match Nat.beq d t with
      | true => some y
      | false => movedFrom r t
    | _, _ => movedFrom r t
def cutSrc (all : List Oper) (s : DS) (x : Operand) : DV :=
  match x with
  | .tmp t => match movedFrom all t with
    | some y => ev s y
    | none => ev s x
  | _ => ev s x
def shutCuts (all : List Oper) : List Oper → DS → (DS → Prop) → Prop
  | [], s, K => K s
  | o :: r, s, K => match o.op with
    | .slice _ x _ _ _ => match cutSrc all s x with
      | .own j => shutIn [.own j] s fun s => shutCuts all r s K
      | _ => shutCuts all r s K
    | _ => shutCuts all r s K
def drawK0 (tt : TT) (P : Program) (ops : Array Oper) (K : DS → Prop) (s : DS) : Prop :=
  forceL (s.loc ++ List.replicate (creators ops.toList) .dead) fun loc0 => drops tt P ops.toList ops.toList s.loc.length [] [] (fun tr mvs s' => regOk ops tr = true ∧ match mvs with
    | [] => K s'
    | mv => K (normR mv s')) ⟨s.env, loc0⟩
def drawK (tt : TT) (P : Program) (ops : Array Oper) (K : DS → Prop) (s : DS) : Prop :=
  shutCuts ops.toList ops.toList s fun s => drawK0 tt P ops K s

def EnvLe (s : List (Nat × DV)) : List (Nat × DV) → Prop
  | [] => True
  | p :: r => dle (look s p.1) p.2 ∧ EnvLe s r
def LocLe : List LObj → List LObj → Prop
  | _, [] => True
  | o :: r, o' :: r' => ole o o' ∧ LocLe r r'
  | [], _ :: _ => False

def DS.le (s t : DS) : Prop := EnvLe s.env t.env ∧ LocLe s.loc t.loc ∧ (bndE t.loc t.env && bndL t.loc t.loc) = true

inductive Ad where
  | slot (t : Nat) (e : TypeId) (sz : Nat)
  | cell (i off : Nat) (e : TypeId) (sz : Nat)
  | shut (t : Nat)
  | swap (i j : Nat)
  | shutc (i off : Nat)
  | fresh (e : TypeId) (sz : Nat)
  | xchg (i j : Nat)
  | bury (i : Nat)
  | home (t i : Nat)
def swp (i j k : Nat) : Nat :=
  match Nat.beq k i with
  | true => j
  | false => match Nat.beq k j with
    | true => i
    | false => k
def mapLO (f : LObj → LObj) : List LObj → List LObj
  | [] => []
  | o :: r => f o :: mapLO f r
def swapL (l : List LObj) (i j : Nat) : List LObj := lset (lset l i (lget l j)) j (lget l i)
def swapK (i j : Nat) (s : DS) (K : DS → Prop) : Prop :=
  match Nat.blt i s.loc.length && Nat.blt j s.loc.length with
  | true => K ⟨mapE (mvT (swp i j)) s.env, swapL (mapLO (mvG (swp i j)) s.loc) i j⟩
  | false => False
def shutK (t : Nat) (s : DS) (K : DS → Prop) : Prop :=
  match look s.env t with
  | .own j => match lget s.loc j with
    | .row _ sz es => K (s.shut j sz es)
    | _ => K s
  | _ => K s
def endK : List Ad → DS → (DS → Prop) → Prop
  | [], s, K => K s
  | .shut t :: r, s, K => shutK t s fun s => endK r s K
  | .slot _ _ _ :: r, s, K => endK r s K
  | .cell _ _ _ _ :: r, s, K => endK r s K
  | .swap i j :: r, s, K => swapK i j s fun s => endK r s K
  | .shutc _ _ :: r, s, K => endK r s K
  | .fresh _ _ :: r, s, K => endK r s K
  | .xchg _ _ :: r, s, K => endK r s K
  | .bury _ :: r, s, K => endK r s K
  | .home t i :: r, s, K => match look s.env t with
    | .own j => swapK i j s fun s => endK r s K
    | _ => endK r s K
def adoptK : List Ad → DS → (DS → Prop) → Prop
  | [], s, K => K s
  | .swap _ _ :: r, s, K => adoptK r s K
  | .home _ _ :: r, s, K => adoptK r s K
  | .xchg i j :: r, s, K => swapK i j s fun s => adoptK r s K
  | .bury i :: r, s, K => match freeAt s.loc i || isRow (lget s.loc i) with
    | true => adoptK r ⟨s.env, lset s.loc i .gone⟩ K
    | false => False
  | .shutc i off :: r, s, K => match lget s.loc i with
    | .cells _ cs => match cs[off]? with
      | some (.own j) => shutIn [.own j] s fun s => adoptK r s K
      | _ => False
    | _ => False
  | .fresh e sz :: r, s, K => match sz with
    | m + 1 => adoptK r ⟨s.env, s.loc ++ [.row e (m + 1) []]⟩ K
    | 0 => False
  | .shut t :: r, s, K => shutK t s fun s => adoptK r s K
  | .slot t e sz :: r, s, K => match look s.env t, sz with
    | .nl, _ + 1 => adoptK r ⟨(t, .own s.loc.length) :: s.env, s.loc ++ [.row e sz []]⟩ K
    | _, _ => False
  | .cell i off e sz :: r, s, K => match lget s.loc i, sz with
    | .cells t cs, _ + 1 => match cs[off]? with
      | some .nl => adoptK r ⟨s.env, lset s.loc i (.cells t (dset cs off (.own s.loc.length))) ++ [.row e sz []]⟩ K
      | _ => False
    | _, _ => False
def DLoop (body : (Exit → DS → Prop) → DS → Prop) (K : Exit → DS → Prop) (s : DS) : Prop :=
  ∃ (S : Type) (enc : S → DS) (I : S → Prop) (μ : S → Nat) (ads : List Ad), (∃ x, I x ∧ adoptK ads s fun s => s.le (enc x)) ∧
    ∀ x, I x → body (fun e s' => match e with
      | .normal => ∃ x', I x' ∧ μ x' < μ x ∧ endK ads s' fun s' => s'.le (enc x')
      | e => K e s') (enc x)

def dcode (tt : TT) (P : Program) : Code → (Exit → DS → Prop) → DS → Prop
  | .skip, K, s => K .normal s
  | .region _ ops draw, K, s => match draw with
    | false => dops tt P ops.toList ops.toList (fun s => K .normal s) s
    | true => drawK tt P ops (fun s => K .normal s) s
  | .seq a b, K, s => dcode tt P a (fun e s' => match e with
      | .normal => dcode tt P b K s'
      | e => K e s') s
  | .cond c a b, K, s => match ev s c with
    | .v (.bool t) => dcond t (dcode tt P a K s) (dcode tt P b K s)
    | _ => False
  | .block id c, K, s => dcode tt P c (fun e s' => match e with
      | .exit j => match Nat.beq j id with
        | true => K .normal s'
        | false => K (.exit j) s'
      | e => K e s') s
  | .loop c, K, s => DLoop (dcode tt P c) K s
  | .exit id, K, s => K (.exit id) s
  | .ret, K, s => K .ret s
  | .label _, K, s => K .normal s
  | .scope c, K, s => dcode tt P c (fun e s' => match e with
      | .goto _ => False
      | e => K e s') s
  | _, _, _ => False

def resK (tt : TT) (s : DS) : List ResultVar → (List DV → Prop) → Prop
  | [], K => K []
  | .tmp t :: r, K => frc (look s.env t) fun d => lend s.loc d fun d => resK tt s r fun l => K (d :: l)
  | .cell p ty :: r, K => match look s.env p with
    | .lp i o => match lget s.loc i with
      | .cells _ cs => match (tinfo tt ty).size with
        | 0 => False
        | _ => dropK o cs fun l => dTake (tinfo tt ty).agg (tinfo tt ty).size l fun d => lend s.loc d fun d => resK tt s r fun l => K (d :: l)
      | _ => False
    | _ => False

def dpost (tt : TT) (rs : List ResultVar) (d : DV) (s : DS) : Prop :=
  resK tt s rs fun l => match l with
    | [x] => dle x d
    | l => dle (.tup l) d

def enum : Nat → List DV → List (Nat × DV)
  | _, [] => []
  | n, d :: r => (n, d) :: enum (n + 1) r

def dbody (tt : TT) (P : Program) (c : Code) (rs : List ResultVar) (args : List DV) (d : DV) : Prop :=
  dcode tt P c (fun e s => match e with
    | .normal | .ret => dpost tt rs d s
    | _ => False) ⟨enum 0 args, []⟩

def hdl (k : Nat) : LObj → DV
  | .row .. => .own k
  | .cells .. => .lp k 0
  | _ => .junk
def hdls : Nat → List LObj → List DV
  | _, [] => []
  | k, o :: r => hdl k o :: hdls (k + 1) r
def ghOf (L : List LObj) : List LObj :=
  match L with
  | [] => []
  | _ => [.gh (hdls 0 L)]
def keptG : Nat → List Bool → List LObj → List DV
  | k, true :: r, o :: l => hdl k o :: keptG (k + 1) r l
  | k, false :: r, _ :: l => .junk :: keptG (k + 1) r l
  | _, _, _ => []
def finL (L : List LObj) (kept : List Bool) (L' : List LObj) : List LObj :=
  match L with
  | [] => L'
  | _ => L'.take L.length ++ .gh (keptG 0 kept L') :: L'.drop (L.length + 1)
def deadAt : Nat → List LObj → Bool
  | _, [] => true
  | 0, .dead :: _ => true
  | 0, _ :: _ => false
  | n + 1, _ :: r => deadAt n r
def deadM (L L' : List LObj) : Bool :=
  match L with
  | [] => true
  | _ => deadAt L.length L'
def resP (tt : TT) (s : DS) : List ResultVar → (List DV → Prop) → Prop
  | [], K => K []
  | .tmp t :: r, K => frc (look s.env t) fun d => match isOwn d || plainAll (dcells d) with
    | true => resP tt s r fun l => K (d :: l)
    | false => False
  | .cell p ty :: r, K => match look s.env p with
    | .lp i o => match lget s.loc i with
      | .cells _ cs => match (tinfo tt ty).size with
        | 0 => False
        | _ => dropK o cs fun l => dTake (tinfo tt ty).agg (tinfo tt ty).size l fun d => match plainAll (dcells d) with
          | true => resP tt s r fun l => K (d :: l)
          | false => False
      | _ => False
    | _ => False
def resM (tt : TT) (s : DS) (rs : List ResultVar) (K : DV → Prop) : Prop :=
  match rs with
  | [.tmp t] => frc (look s.env t) fun d => K d
  | [.cell p ty] => match look s.env p with
    | .lp i o => match lget s.loc i with
      | .cells _ cs => match (tinfo tt ty).size with
        | 0 => False
        | _ => dropK o cs fun l => dTake (tinfo tt ty).agg (tinfo tt ty).size l fun d => K d
      | _ => False
    | _ => False
  | rs => resP tt s rs fun l => K (.tup l)
def dpostM (tt : TT) (rs : List ResultVar) (L : List LObj) (kept : List Bool) (L' : List LObj) (d : DV) (s : DS) : Prop :=
  resM tt s rs fun x => dle x d ∧ LocLe s.loc (finL L kept L') ∧ (keptOk kept L L' && noGh L' && deadM L L' && (match d with | .tup ds => ds.all (fun e => !isOwn e || bnd L' e) | d => bnd L' d) && bndL L' L' && bndL (finL L kept L') (finL L kept L')) = true
def dbodyM (tt : TT) (P : Program) (c : Code) (rs : List ResultVar) (L : List LObj) (args : List DV) (kept : List Bool) (L' : List LObj) (d : DV) : Prop :=
  dcode tt P c (fun e s => match e with
    | .normal | .ret => dpostM tt rs L kept L' d s
    | _ => False) ⟨enum 0 args, L ++ ghOf L⟩

end Go.Lift

namespace Go.Lift


theorem frc_iff {d : DV} {K : DV → Prop} : frc d K ↔ K d := by cases d <;> exact Iff.rfl
theorem takeK_elim : ∀ {n : Nat} {l : List DV} {K : List DV → Prop}, takeK n l K → n ≤ l.length ∧ K (l.take n)
  | 0, l, K, h => ⟨Nat.zero_le _, h⟩
  | n + 1, [], K, h => h.elim
  | n + 1, d :: r, K, h => by
    have h := frc_iff.1 h
    obtain ⟨h1, h2⟩ := takeK_elim h
    exact ⟨by simp; omega, by simpa using h2⟩
theorem dropK_elim : ∀ {n : Nat} {l : List DV} {K : List DV → Prop}, dropK n l K → n ≤ l.length ∧ K (l.drop n)
  | 0, l, K, h => ⟨Nat.zero_le _, h⟩
  | n + 1, [], K, h => h.elim
  | n + 1, d :: r, K, h => by
    obtain ⟨h1, h2⟩ := dropK_elim (l := r) h
    exact ⟨by simp; omega, by simpa using h2⟩
theorem ikEq_iff {a b : IntKind} : ikEq a b = true ↔ a = b := by cases a <;> cases b <;> simp [ikEq]
theorem lget_eq : ∀ (l : List LObj) (i : Nat), lget l i = (l[i]?).getD .dead
  | [], i => by cases i <;> rfl
  | o :: r, 0 => rfl
  | o :: r, i + 1 => by rw [lget]; simpa using lget_eq r i
theorem lset_eq : ∀ (l : List LObj) (i : Nat) (x : LObj), lset l i x = l.set i x
  | [], i, x => by cases i <;> rfl
  | o :: r, 0, x => rfl
  | o :: r, i + 1, x => by rw [lset, lset_eq r i x]; rfl
theorem dset_eq : ∀ (l : List DV) (i : Nat) (x : DV), dset l i x = l.set i x
  | [], i, x => by cases i <;> rfl
  | o :: r, 0, x => rfl
  | o :: r, i + 1, x => by rw [dset, dset_eq r i x]; rfl
theorem length_dovr : ∀ (r l : List DV), (dovr l r).length = l.length
  | [], l => by rw [dovr]
  | _ :: _, [] => by rw [dovr]
  | x :: r, c :: l => by rw [dovr, List.length_cons, length_dovr r l, List.length_cons]
theorem get_dovr : ∀ (r l : List DV) (j : Nat), r.length ≤ l.length → (dovr l r)[j]? = if j < r.length then r[j]? else l[j]?
  | [], l, j, _ => by rw [dovr, if_neg (by simp)]
  | _ :: _, [], _, h => by simp at h
  | x :: r, c :: l, 0, h => by simp [dovr]
  | x :: r, c :: l, j + 1, h => by
    simp only [List.length_cons] at h
    rw [dovr, List.getElem?_cons_succ, get_dovr r l j (by omega)]
    by_cases hj : j < r.length
    · rw [if_pos hj, if_pos (by simp; omega), List.getElem?_cons_succ]
    · rw [if_neg hj, if_neg (by simp; omega), List.getElem?_cons_succ]
theorem length_dspl : ∀ (l : List DV) (o : Nat) (r : List DV), (dspl l o r).length = l.length
  | l, 0, r => by cases l <;> rw [dspl, length_dovr]
  | [], o + 1, r => by rw [dspl]
  | c :: l, o + 1, r => by rw [dspl, List.length_cons, length_dspl l o r, List.length_cons]
theorem get_dspl : ∀ (l : List DV) (o : Nat) (r : List DV) (j : Nat), o + r.length ≤ l.length → (dspl l o r)[j]? = if o ≤ j ∧ j < o + r.length then r[j - o]? else l[j]?
  | l, 0, r, j, h => by
    have e : dspl l 0 r = dovr l r := by cases l <;> rw [dspl]
    rw [e, get_dovr r l j (by omega)]
    by_cases hj : j < r.length
    · rw [if_pos hj, if_pos (by omega), Nat.sub_zero]
    · rw [if_neg hj, if_neg (by omega)]
  | [], o + 1, r, j, h => by simp at h
  | c :: l, o + 1, r, 0, h => by
    rw [dspl, if_neg (by omega)]
    rfl
  | c :: l, o + 1, r, j + 1, h => by
    simp only [List.length_cons] at h
    rw [dspl, List.getElem?_cons_succ, get_dspl l o r j (by omega), List.getElem?_cons_succ]
    by_cases hj : o ≤ j ∧ j < o + r.length
    · rw [if_pos hj, if_pos (by omega), show j + 1 - (o + 1) = j - o by omega]
    · rw [if_neg hj, if_neg (by omega)]
theorem length_dsplice : ∀ (r l : List DV) (o : Nat), (dsplice l o r).length = l.length
  | [], l, o => by rw [dsplice]
  | [x], l, o => by rw [dsplice, dset_eq, List.length_set]
  | x :: y :: r, l, o => by rw [dsplice, length_dspl]
theorem get_dsplice : ∀ (r l : List DV) (o j : Nat), o + r.length ≤ l.length → (dsplice l o r)[j]? = if o ≤ j ∧ j < o + r.length then r[j - o]? else l[j]?
  | [], l, o, j, _ => by
    rw [dsplice, if_neg (by simp)]
  | [x], l, o, j, h => by
    simp only [List.length_cons, List.length_nil] at h
    rw [dsplice, dset_eq]
    by_cases h2 : j = o
    · subst h2
      rw [if_pos (by simp)]
      simp [List.getElem?_set]
      omega
    · rw [if_neg (by simp; omega), List.getElem?_set_ne (by omega)]
  | x :: y :: r, l, o, j, h => by
    rw [dsplice, get_dspl _ _ _ _ h]
theorem look_mapE (f : DV → DV) (hf : f .junk = .junk) : ∀ (e : List (Nat × DV)) (t : Nat), look (mapE f e) t = f (look e t)
  | [], t => by simp [mapE, look, hf]
  | p :: r, t => by
    simp only [mapE, look]
    split
    · rfl
    · exact look_mapE f hf r t

theorem cell_same {w w' : World} {a : Addr} (h : w'.heap[a.block]? = w.heap[a.block]?) : w'.cell? a = w.cell? a := by simp [World.cell?, h]
theorem Addr.block_add (a : Addr) (n : Nat) : (a.add n).block = a.block := by unfold Addr.add; split <;> rfl
theorem Addr.add_add (a : Addr) (i j : Nat) : (a.add i).add j = a.add (i + j) := by
  unfold Addr.add
  by_cases hi : i = 0 <;> by_cases hj : j = 0 <;> simp [hi, hj, Nat.add_assoc]
theorem Addr.add_mk (b o n : Nat) : Addr.add ⟨b, o, none⟩ n = ⟨b, o + n, none⟩ := by
  unfold Addr.add
  split
  · subst_vars; rfl
  · rfl

structure Keeps (A A' : Nat → Prop) (w w' : World) : Prop where
  size : w.heap.size ≤ w'.heap.size
  out : ∀ b, b < w.heap.size → A' b → A b
  same : ∀ b, b < w.heap.size → ¬ A b → w'.heap[b]? = w.heap[b]?
theorem Imm.keep {A A' : Nat → Prop} {w w' : World} (k : Keeps A A' w w') {x : Value} {d : DV} (h : Imm A w x d) : Imm A' w' x d := by
  induction h with
  | v h => exact .v h
  | @lst a n c sz es full xs hn hc hm hf hsz hA hb hone hcell _ ih =>
    refine .lst xs hn hc hm hf hsz (fun hne h => hA hne (k.out _ (hb hne) h)) (fun hne => Nat.lt_of_lt_of_le (hb hne) k.size) hone (fun i j e d he hd => ?_) ih
    have hne : es ≠ [] := fun e0 => by rw [e0] at he; simp at he
    have := hcell i j e d he hd
    rwa [← cell_same (w := w) (w' := w') (by rw [Addr.block_add]; exact k.same _ (hb hne) (hA hne))] at this
  | nil => exact .nil
  | nl => exact .nl
  | agg hl hone _ ih => exact .agg hl hone ih
  | tup hl _ ih => exact .tup hl ih
  | @ip a cs xs hA hb hone hcell _ ih =>
    refine .ip xs (fun h => hA (k.out _ hb h)) (Nat.lt_of_lt_of_le hb k.size) hone (fun j d hd => ?_) ih
    have := hcell j d hd
    rwa [← cell_same (w := w) (w' := w') (by rw [Addr.block_add]; exact k.same _ hb hA)] at this
  | fn hl _ ih => exact .fn hl ih
  | wh _ h0 ih => exact .wh ih h0
  | junk => exact .junk
theorem Keeps.refl (A : Nat → Prop) (w : World) : Keeps A A w w := ⟨Nat.le_refl _, fun _ _ h => h, fun _ _ _ => rfl⟩
theorem Keeps.less {A A' : Nat → Prop} {w : World} (h : ∀ b, A' b → A b) : Keeps A A' w w := ⟨Nat.le_refl _, fun _ _ h' => h _ h', fun _ _ _ => rfl⟩
theorem Keeps.grown {A A' : Nat → Prop} {w w' : World} (hg : w.grownBy w' none) (h : ∀ b, b < w.heap.size → A' b → A b) : Keeps A A' w w' :=
  ⟨hg.size, h, fun b hb _ => hg.block b hb (by simp)⟩

section
variable {A : Nat → Prop} {os : Objs} {w : World} {x : Value}
theorem RepV.v_inv {y : Value} (h : RepV A os w x (.v y)) : x = y ∧ y.oneCell' = true := by
  cases h with
  | imm h => cases h with
    | v h => exact ⟨rfl, h⟩
  | stale h hd h1 => rcases hd with hd | ⟨_, _, hd⟩ <;> cases hd
theorem RepV.lst_inv {sz : Nat} {es : List (List DV)} {f : Bool} (h : RepV A os w x (.lst sz es f)) : Imm A w x (.lst sz es f) := by
  cases h with
  | imm h => exact h
  | stale h hd h1 => rcases hd with hd | ⟨_, _, hd⟩ <;> cases hd
theorem RepV.nl_inv (h : RepV A os w x .nl) : x = .slice none 0 0 := by
  cases h with
  | imm h => cases h; rfl
  | stale h hd h1 => rcases hd with hd | ⟨_, _, hd⟩ <;> cases hd
theorem RepV.ip_inv {cs : List DV} (h : RepV A os w x (.ip cs)) : Imm A w x (.ip cs) := by
  cases h with
  | imm h => exact h
  | stale h hd h1 => rcases hd with hd | ⟨_, _, hd⟩ <;> cases hd
theorem RepV.tup_imm {ds : List DV} (h : RepV A os w x (.tup ds)) (hn : ds.any isOwn = false) : Imm A w x (.tup ds) := by
  cases h with
  | imm h => exact h
  | tup hl hown _ =>
    refine .tup hl fun i v d hv hd => ?_
    rcases hown i v d hv hd with h1 | h1
    · rw [List.any_eq_false] at hn
      exact absurd h1 (hn d (List.mem_of_getElem? hd))
    · exact h1
  | stale h hd h1 => rcases hd with hd | ⟨_, _, hd⟩ <;> cases hd
theorem RepV.tup_inv {ds : List DV} (h : RepV A os w x (.tup ds)) : ∃ vs : List Value, x = .tuple vs.toArray ∧ vs.length = ds.length ∧ (∀ (i : Nat) v d, vs[i]? = some v → ds[i]? = some d → isOwn d = true ∨ Imm A w v d) ∧ ∀ (i : Nat) v d, vs[i]? = some v → ds[i]? = some d → RepV A os w v d := by
  cases h with
  | imm h => cases h with
    | tup hl hp => exact ⟨_, rfl, hl, fun i v d hv hd => .inr (hp i v d hv hd), fun i v d hv hd => .imm (hp i v d hv hd)⟩
  | tup hl hown hp => exact ⟨_, rfl, hl, hown, hp⟩
  | stale h hd h1 => rcases hd with hd | ⟨_, _, hd⟩ <;> cases hd
theorem RepV.tupJ {ds : List DV} (h : RepV A os w x (.tup ds)) : Imm A w x (Go.Lift.tupJ ds) := by
  unfold Go.Lift.tupJ
  split
  · exact h.tup_imm (by assumption)
  · exact .junk
theorem RepV.fn_inv {f : Fn} {ds : List DV} (h : RepV A os w x (.fn f ds)) : ∃ vs : List Value, x = .func f #[] vs.toArray ∧ vs.length = ds.length ∧ ∀ (i : Nat) v d, vs[i]? = some v → ds[i]? = some d → RepV A os w v d := by
  cases h with
  | imm h => cases h with
    | fn hl hp => exact ⟨_, rfl, hl, fun i v d hv hd => .imm (hp i v d hv hd)⟩
  | fn hl hcap hp => exact ⟨_, rfl, hl, hp⟩
  | stale h hd h1 => rcases hd with hd | ⟨_, _, hd⟩ <;> cases hd
theorem RepV.agg_inv {ds : List DV} (h : RepV A os w x (.agg ds)) : ∃ vs : List Value, x = .agg vs.toArray ∧ vs.length = ds.length ∧ (∀ v ∈ vs, v.oneCell' = true) ∧
    ∀ (i : Nat) v d, vs[i]? = some v → ds[i]? = some d → RepV A os w v d := by
  cases h with
  | imm h => cases h with
    | agg hl hone h => exact ⟨_, rfl, hl, hone, fun i v d hv hd => .imm (h i v d hv hd)⟩
  | agg hl hone h => exact ⟨_, rfl, hl, hone, h⟩
  | stale h hd h1 => rcases hd with hd | ⟨_, _, hd⟩ <;> cases hd
theorem RepV.wh_inv {b : Bool} {d : DV} (h : RepV A os w x (.wh b d)) : (b = true → RepV A os w x d) ∧ (b = false → x = undef) := by
  cases h with
  | imm h => cases h with
    | wh h h0 => exact ⟨fun hb => .imm (h hb), h0⟩
  | wh h h0 => exact ⟨h, h0⟩
  | stale h hd h1 => rcases hd with hd | ⟨_, _, hd⟩ <;> cases hd
theorem RepV.lp_inv {i off : Nat} (h : RepV A os w x (.lp i off)) : ∃ g t cs, os[i]? = some (.pointer (some ⟨g, 0, none⟩), .cells t cs) ∧ x = .pointer (some ⟨g, off, none⟩) := by
  cases h with
  | imm h => cases h
  | lp h => exact ⟨_, _, _, h, rfl⟩
  | stale h hd h1 => rcases hd with hd | ⟨_, _, hd⟩ <;> cases hd
theorem RepV.ap_inv {i off : Nat} (h : RepV A os w x (.ap i off)) : ∃ g t cs, os[i]? = some (.pointer (some ⟨g, 0, none⟩), .cells t cs) ∧ x = .pointer (some ⟨g, off, none⟩) := by
  cases h with
  | imm h => cases h
  | ap h => exact ⟨_, _, _, h, rfl⟩
  | stale h hd h1 => rcases hd with hd | ⟨_, _, hd⟩ <;> cases hd
theorem RepV.rp_inv {i k off : Nat} (h : RepV A os w x (.rp i k off)) : x.oneCell' = true ∧ ((∃ g n c e sz es, os[i]? = some (.slice (some ⟨g, 0, none⟩) n c, .row e sz es) ∧ x = .pointer (some ⟨g, k * sz + off, none⟩)) ∨ ∃ y, os[i]? = some (y, .gone)) := by
  cases h with
  | imm h => cases h
  | rp h => exact ⟨rfl, .inl ⟨_, _, _, _, _, _, h, rfl⟩⟩
  | stale h hd h1 => rcases hd with hd | ⟨_, _, hd⟩ <;> cases hd; exact ⟨h1, .inr ⟨_, h⟩⟩
theorem RepV.own_inv {i : Nat} (h : RepV A os w x (.own i)) : x.oneCell' = true ∧ ((∃ e sz es, os[i]? = some (x, .row e sz es)) ∨ ∃ y, os[i]? = some (y, .gone)) := by
  cases h with
  | imm h => cases h
  | own h h1 => exact ⟨h1, .inl ⟨_, _, _, h⟩⟩
  | stale h hd h1 => rcases hd with hd | ⟨_, _, hd⟩ <;> cases hd; exact ⟨h1, .inr ⟨_, h⟩⟩
theorem RepV.own_row {i : Nat} {y : Value} {e : TypeId} {sz : Nat} {es : List (List DV)} (h : RepV A os w x (.own i)) (hi : os[i]? = some (y, .row e sz es)) : x = y := by
  rcases h.own_inv.2 with ⟨_, _, _, h⟩ | ⟨_, h⟩
  · rw [hi] at h; cases h; rfl
  · rw [hi] at h; cases h
theorem RepV.rp_row {i k off : Nat} {y : Value} {e : TypeId} {sz : Nat} {es : List (List DV)} (h : RepV A os w x (.rp i k off)) (hi : os[i]? = some (y, .row e sz es)) : ∃ g n c, y = .slice (some ⟨g, 0, none⟩) n c ∧ x = .pointer (some ⟨g, k * sz + off, none⟩) := by
  rcases h.rp_inv.2 with ⟨g, n, c, _, _, _, h, hx⟩ | ⟨_, h⟩
  · rw [hi] at h; cases h; exact ⟨g, n, c, rfl, hx⟩
  · rw [hi] at h; cases h
def kindIs (o o' : LObj) : Prop :=
  match o, o' with
  | .cells t _, .cells t' _ => t = t'
  | .row e sz _, .row e' sz' _ => e = e' ∧ sz = sz'
  | .dead, _ => True
  | .gone, .gone => True
  | .gh _, .gh _ => True
  | _, _ => False
def Alike (os os' : Objs) : Prop := ∀ (i : Nat) (x : Value) (o : LObj), os[i]? = some (x, o) → ∃ o', os'[i]? = some (x, o') ∧ kindIs o o'
theorem Alike.refl (os : Objs) : Alike os os := fun i x o h => ⟨o, h, by cases o <;> simp [kindIs]⟩
theorem RepV.keep {A' : Nat → Prop} {os' : Objs} {w' : World} (k : Keeps A A' w w') (ha : Alike os os') {d : DV} (h : RepV A os w x d) : RepV A' os' w' x d := by
  induction h with
  | imm h => exact .imm (h.keep k)
  | lp h =>
    obtain ⟨o', h', hk⟩ := ha _ _ _ h
    cases o' <;> simp [kindIs] at hk
    exact .lp h'
  | ap h =>
    obtain ⟨o', h', hk⟩ := ha _ _ _ h
    cases o' <;> simp [kindIs] at hk
    exact .ap h'
  | rp h =>
    obtain ⟨o', h', hk⟩ := ha _ _ _ h
    cases o' <;> simp [kindIs] at hk
    obtain ⟨rfl, rfl⟩ := hk
    exact .rp h'
  | own h h1 =>
    obtain ⟨o', h', hk⟩ := ha _ _ _ h
    cases o' <;> simp [kindIs] at hk
    exact .own h' h1
  | stale h hd h1 =>
    obtain ⟨o', h', hk⟩ := ha _ _ _ h
    cases o' <;> simp [kindIs] at hk
    exact .stale h' hd h1
  | agg hl hone _ ih => exact .agg hl hone ih
  | tup hl hown _ ih => exact .tup hl (fun i v d hv hd => by
    rcases hown i v d hv hd with h | h
    · exact .inl h
    · exact .inr (h.keep k)) ih
  | fn hl hcap _ ih => exact .fn hl hcap ih
  | wh _ h0 ih => exact .wh ih h0
theorem RepV.cells {d : DV} (h : RepV A os w x d) (hd : ∀ b d', d ≠ .wh b d') (ht : ∀ l, d ≠ .tup l) (hj : d ≠ .junk) :
    x.cells.toList.length = (dcells d).length ∧ (∀ v ∈ x.cells.toList, v.oneCell' = true) ∧ ∀ (i : Nat) v e, x.cells.toList[i]? = some v → (dcells d)[i]? = some e → RepV A os w v e := by
  have one : ∀ {y : Value} {e : DV}, y.oneCell' = true → (∀ l, e ≠ .agg l) → RepV A os w y e → y.cells.toList.length = (dcells e).length ∧ (∀ v ∈ y.cells.toList, v.oneCell' = true) ∧ ∀ (i : Nat) v e', y.cells.toList[i]? = some v → (dcells e)[i]? = some e' → RepV A os w v e' := by
    intro y e hy he hr
    have h1 : y.cells = #[y] := by cases y <;> first | rfl | simp [Value.oneCell'] at hy
    have h2 : dcells e = [e] := by cases e <;> first | rfl | exact absurd rfl (he _)
    rw [h1, h2]
    refine ⟨rfl, by simpa using hy, fun i v e' hv he' => ?_⟩
    cases i with
    | zero => simp at hv he'; subst hv he'; exact hr
    | succ i => simp at hv
  cases d with
  | v y => obtain ⟨rfl, hy⟩ := h.v_inv; exact one hy (by simp) h
  | lst => have h' := h.lst_inv; cases h' <;> exact one rfl (by simp) h
  | agg ds => obtain ⟨vs, rfl, hl, hone, hp⟩ := h.agg_inv; exact ⟨by simpa [Value.cells, dcells] using hl, by simpa [Value.cells] using hone, by simpa [Value.cells, dcells] using hp⟩
  | tup l => exact absurd rfl (ht l)
  | ip => have h' := h.ip_inv; cases h'; exact one rfl (by simp) h
  | lp => obtain ⟨_, _, _, _, rfl⟩ := h.lp_inv; exact one rfl (by simp) h
  | ap => obtain ⟨_, _, _, _, rfl⟩ := h.ap_inv; exact one rfl (by simp) h
  | rp => exact one h.rp_inv.1 (by simp) h
  | own => exact one h.own_inv.1 (by simp) h
  | fn => obtain ⟨_, rfl, _⟩ := h.fn_inv; exact one rfl (by simp) h
  | nl => cases h.nl_inv; exact one rfl (by simp) (.imm .nl)
  | wh b d' => exact absurd rfl (hd b d')
  | junk => exact absurd rfl hj
end
end Go.Lift

namespace Go.Lift

def fsOk : List Field → List (TypeId × Nat) → Bool
  | [], [] => true
  | f :: r, x :: r' => Nat.beq f.type x.1 && Nat.beq f.offset x.2 && f.name != "_" && fsOk r r'
  | _, _ => false
def kOk : TypeDesc → TK → Bool
  | .int k, .int k' => ikEq k k'
  | .bool, .bool => true
  | .string, .str => true
  | .slice e, .slc e' => Nat.beq e e'
  | .array n e, .arr n' e' => Nat.beq n n' && Nat.beq e e'
  | .struct F, .st fs => fsOk F.toList fs
  | .struct _, _ | .array _ _, _ => false
  | _, .other => true
  | _, _ => false
def aggD : TypeDesc → Bool
  | .struct _ | .array _ _ => true
  | _ => false
def z1 : Value → DV → Bool
  | .int k n, .v (.int k' m) => ikEq k k' && n == m
  | .bool b, .v (.bool b') => b == b'
  | .string s, .v (.string s') => s.data.toList == s'.data.toList
  | .pointer none, .v (.pointer none) => true
  | .slice none 0 0, .nl => true
  | .nilFunc, .v .nilFunc => true
  | _, _ => false
def zOk : List Value → List DV → Bool
  | [], [] => true
  | v :: r, d :: r' => z1 v d && zOk r r'
  | _, _ => false
def entryOk (P : Program) (t : TypeId) (ti : TI) : Bool :=
  match P.info? t, P.underlying t with
  | some i, some d => Nat.beq i.size ti.size && Nat.beq i.bytes ti.bytes && (match i.zero with
    | some z => zOk z.cells.toList ti.zero && Nat.beq ti.zero.length ti.size
    | none => false) && kOk d ti.k && (aggD d == ti.agg) && (ti.agg || Nat.beq ti.size 1) && (!ti.agg || (!P.stoodInHeld t && !P.eqGuardType P.depth t))
  | _, _ => false
def tabOk (P : Program) : TT → Bool
  | [] => true
  | p :: r => entryOk P p.1 p.2 && tabOk P r

structure Entry (P : Program) (t : TypeId) (ti : TI) : Prop where
  info : ∃ i, P.info? t = some i ∧ i.size = ti.size ∧ i.bytes = ti.bytes ∧ ∃ z, i.zero = some z ∧ zOk z.cells.toList ti.zero = true ∧ ti.zero.length = ti.size
  kind : ∃ d, P.underlying t = some d ∧ kOk d ti.k = true ∧ aggD d = ti.agg
  one : ti.agg = false → ti.size = 1
  held : ti.agg = true → P.stoodInHeld t = false ∧ P.eqGuardType P.depth t = false
theorem entry_of {P : Program} {t : TypeId} {ti : TI} (h : entryOk P t ti = true) : Entry P t ti := by
  unfold entryOk at h
  split at h
  · rename_i i d hi hd
    simp only [Bool.and_eq_true, Bool.or_eq_true, Bool.not_eq_true', beq_iff_eq] at h
    obtain ⟨⟨⟨⟨⟨⟨h1, h2⟩, h3⟩, h4⟩, h5⟩, h7⟩, h6⟩ := h
    refine ⟨⟨i, hi, Nat.eq_of_beq_eq_true h1, Nat.eq_of_beq_eq_true h2, ?_⟩, ⟨d, hd, h4, h5⟩, fun ha => ?_, fun ha => ?_⟩
    · split at h3
      · rename_i z hz
        simp only [Bool.and_eq_true] at h3
        exact ⟨z, hz, h3.1, Nat.eq_of_beq_eq_true h3.2⟩
      · exact absurd h3 (by simp)
    · rcases h7 with h7 | h7
      · rw [ha] at h7; exact absurd h7 (by simp)
      · exact Nat.eq_of_beq_eq_true h7
    · rcases h6 with h6 | h6
      · rw [ha] at h6; exact absurd h6 (by simp)
      · exact h6
  · exact absurd h (by simp)
theorem tab_entry {P : Program} : ∀ {tt : TT} {t : TypeId}, tabOk P tt = true → ((tinfo tt t).size ≠ 0 ∨ (tinfo tt t).k ≠ .other) → Entry P t (tinfo tt t)
  | [], t, _, h => by rcases h with h | h <;> exact absurd rfl h
  | p :: r, t, hT, h => by
    simp only [tabOk, Bool.and_eq_true] at hT
    simp only [tinfo] at h ⊢
    split
    · rename_i hb
      have := Nat.eq_of_beq_eq_true hb
      subst this
      exact entry_of hT.1
    · rename_i hb
      simp only [hb] at h
      exact tab_entry hT.2 h

section
variable {P : Program} {tt : TT} {t : TypeId}
theorem tab_size (hT : tabOk P tt = true) (h : (tinfo tt t).size ≠ 0) : ∃ i, P.info? t = some i ∧ i.size = (tinfo tt t).size ∧ i.bytes = (tinfo tt t).bytes ∧ ∃ z, i.zero = some z ∧ zOk z.cells.toList (tinfo tt t).zero = true ∧ (tinfo tt t).zero.length = (tinfo tt t).size :=
  (tab_entry hT (.inl h)).info
theorem run_sizeOf_tab (hT : tabOk P tt = true) (h : (tinfo tt t).size ≠ 0) (w : World) : (sizeOf t).run P w = .ok (tinfo tt t).size w := by
  obtain ⟨i, hi, hs, _⟩ := tab_size hT h
  simp [sizeOf, typeInfo, hi, hs]
theorem run_isAgg_tab (hT : tabOk P tt = true) (h : (tinfo tt t).size ≠ 0) (w : World) : (isAgg t).run P w = .ok (tinfo tt t).agg w := by
  obtain ⟨d, hd, _, ha⟩ := (tab_entry hT (.inl h)).kind
  rw [← ha]
  simp only [isAgg, Sem.run_bind, run_underlying hd, Result.andThen_ok]
  cases d <;> rfl
theorem tab_int (hT : tabOk P tt = true) {k : IntKind} (h : (tinfo tt t).k = .int k) : P.underlying t = some (.int k) := by
  obtain ⟨d, hd, hk, _⟩ := (tab_entry hT (.inr (by rw [h]; simp))).kind
  rw [h] at hk
  cases d <;> simp [kOk] at hk
  rw [ikEq_iff.1 hk] at hd
  exact hd
theorem tab_bool (hT : tabOk P tt = true) (h : (tinfo tt t).k = .bool) : P.underlying t = some .bool := by
  obtain ⟨d, hd, hk, _⟩ := (tab_entry hT (.inr (by rw [h]; simp))).kind
  rw [h] at hk
  cases d <;> simp [kOk] at hk
  exact hd
theorem tab_str (hT : tabOk P tt = true) (h : (tinfo tt t).k = .str) : P.underlying t = some .string := by
  obtain ⟨d, hd, hk, _⟩ := (tab_entry hT (.inr (by rw [h]; simp))).kind
  rw [h] at hk
  cases d <;> simp [kOk] at hk
  exact hd
theorem tab_slc (hT : tabOk P tt = true) {e : TypeId} (h : (tinfo tt t).k = .slc e) : P.underlying t = some (.slice e) := by
  obtain ⟨d, hd, hk, _⟩ := (tab_entry hT (.inr (by rw [h]; simp))).kind
  rw [h] at hk
  cases d <;> simp [kOk] at hk
  rw [hk] at hd
  exact hd
theorem tab_arr (hT : tabOk P tt = true) {n : Nat} {e : TypeId} (h : (tinfo tt t).k = .arr n e) : P.underlying t = some (.array n e) := by
  obtain ⟨d, hd, hk, _⟩ := (tab_entry hT (.inr (by rw [h]; simp))).kind
  rw [h] at hk
  cases d <;> simp [kOk] at hk
  rw [hk.1, hk.2] at hd
  exact hd
theorem tab_st (hT : tabOk P tt = true) {fs : List (TypeId × Nat)} (h : (tinfo tt t).k = .st fs) : ∃ F : Array Field, P.underlying t = some (.struct F) ∧ fsOk F.toList fs = true ∧ (tinfo tt t).agg = true := by
  obtain ⟨d, hd, hk, ha⟩ := (tab_entry hT (.inr (by rw [h]; simp))).kind
  rw [h] at hk
  cases d <;> simp [kOk] at hk
  exact ⟨_, hd, hk, ha.symm⟩
end
theorem fsOk_field : ∀ {F : List Field} {fs : List (TypeId × Nat)} {f : Nat}, fsOk F fs = true → (fieldOf fs f).1 ≠ 0 ∨ f < fs.length → f < fs.length → ∃ x, F[f]? = some x ∧ x.type = (fieldOf fs f).1 ∧ x.offset = (fieldOf fs f).2 ∧ x.name ≠ "_"
  | [], [], f, _, _, hf => by simp at hf
  | [], _ :: _, f, h, _, _ => by simp [fsOk] at h
  | _ :: _, [], f, h, _, _ => by simp [fsOk] at h
  | x :: r, y :: r', 0, h, _, _ => by
    simp only [fsOk, Bool.and_eq_true, bne_iff_ne] at h
    exact ⟨x, rfl, Nat.eq_of_beq_eq_true h.1.1.1, Nat.eq_of_beq_eq_true h.1.1.2, h.1.2⟩
  | x :: r, y :: r', f + 1, h, _, hf => by
    simp only [fsOk, Bool.and_eq_true, bne_iff_ne] at h
    simp only [List.length_cons, Nat.add_lt_add_iff_right] at hf
    simpa [fieldOf] using fsOk_field (f := f) h.2 (.inr hf) hf
theorem fieldOf_far : ∀ {fs : List (TypeId × Nat)} {f : Nat}, fs.length ≤ f → fieldOf fs f = (0, 0)
  | [], f, _ => by simp [fieldOf]
  | _ :: r, 0, h => by simp at h
  | _ :: r, f + 1, h => by simp only [fieldOf]; exact fieldOf_far (by simpa using h)
theorem zOk_all {A : Nat → Prop} {w : World} : ∀ {vs : List Value} {ds : List DV}, zOk vs ds = true → vs.length = ds.length ∧ (∀ v ∈ vs, v.oneCell' = true) ∧ ∀ (i : Nat) v d, vs[i]? = some v → ds[i]? = some d → Imm A w v d
  | [], [], _ => ⟨rfl, by simp, by simp⟩
  | [], _ :: _, h => by simp [zOk] at h
  | _ :: _, [], h => by simp [zOk] at h
  | v :: r, d :: r', h => by
    simp only [zOk, Bool.and_eq_true] at h
    obtain ⟨hl, hone, hp⟩ := zOk_all (A := A) (w := w) h.2
    have h1 : v.oneCell' = true ∧ Imm A w v d := by
      have h := h.1
      unfold z1 at h
      split at h
      · simp only [Bool.and_eq_true, beq_iff_eq] at h
        obtain ⟨hk, rfl⟩ := h
        obtain rfl := ikEq_iff.1 hk
        exact ⟨rfl, .v rfl⟩
      · simp only [beq_iff_eq] at h
        subst h
        exact ⟨rfl, .v rfl⟩
      · rename_i s s' _
        have : s = s' := by
          obtain ⟨⟨x⟩⟩ := s
          obtain ⟨⟨y⟩⟩ := s'
          simpa using h
        subst this
        exact ⟨rfl, .v rfl⟩
      · exact ⟨rfl, .v rfl⟩
      · exact ⟨rfl, .nl⟩
      · exact ⟨rfl, .v rfl⟩
      · exact absurd h (by simp)
    refine ⟨by simpa using hl, by simpa using ⟨h1.1, hone⟩, fun i v' d' hv hd => ?_⟩
    cases i with
    | zero => simp at hv hd; subst hv hd; exact h1.2
    | succ i => exact hp i v' d' (by simpa using hv) (by simpa using hd)
end Go.Lift

namespace Go.Lift
open Go

def Holds (c : Option Prop) : Prop := ∀ p, c = some p → p
theorem Holds.none' : Holds none := fun _ h => by cases h
theorem Holds.some_iff {p : Prop} : Holds (some p) ↔ p := ⟨fun h => h p rfl, fun h q e => by cases e; exact h⟩
theorem Holds.none_iff : Holds none ↔ True := ⟨fun _ => trivial, fun _ => Holds.none'⟩
theorem Holds.andO {c c' : Option Prop} : Holds (andO c c') ↔ Holds c ∧ Holds c' := by
  cases c <;> cases c' <;> simp only [Lift.andO, Holds.some_iff, Holds.none_iff, true_and, and_true]
theorem needs_iff {c : Option Prop} {p : Prop} : needs c p ↔ Holds c ∧ p := by
  cases c <;> simp only [needs, Holds.some_iff, Holds.none_iff, true_and]
theorem isConstTrue_eval {x : Operand} {a : Act} (h : isConstTrue x = true) : a.eval x = .bool true := by
  unfold isConstTrue at h
  split at h
  · subst h; rfl
  · exact absurd h (by simp)
theorem isConstFalse_eval {x : Operand} {a : Act} (h : isConstFalse x = true) : a.eval x = .bool false := by
  unfold isConstFalse at h
  split at h
  · rename_i b
    cases b
    · rfl
    · exact absurd h (by simp)
  · exact absurd h (by simp)

section
variable {P : Program} {tt : TT} {A : Nat → Prop} {os : Objs} {w : World} {a : Act} {o : Oper} {ρ : Operand → DV}

def Gives (P : Program) (A : Nat → Prop) (os : Objs) (w : World) (a : Act) (o : Oper) (c : Option Prop) (d : DV) : Prop :=
  Holds c → ∃ x, (execOp a.eval o).run P w = .ok (.value x) w ∧ RepV A os w x d
def GivesSome (P : Program) (A : Nat → Prop) (os : Objs) (w : World) (a : Act) (o : Oper) (K : Option Prop → DV → Prop) : Prop :=
  ∃ c d, K c d ∧ Gives P A os w a o c d
abbrev Has (A : Nat → Prop) (os : Objs) (w : World) (a : Act) (ρ : Operand → DV) (x : Operand) : Prop := RepV A os w (a.eval x) (ρ x)
theorem Has.v {x : Operand} {y : Value} (h : Has A os w a ρ x) (e : ρ x = .v y) : a.eval x = y := by
  unfold Has at h; rw [e] at h; exact h.v_inv.1

theorem move_ok {x : Operand} {K : Option Prop → DV → Prop} (ho : o.op = .move x ∨ o.op = .assign x) (hx : Has A os w a ρ x) (h : frc (ρ x) fun d => K none d) : GivesSome P A os w a o K := by
  refine ⟨none, _, frc_iff.1 h, fun _ => ⟨_, ?_, hx⟩⟩
  rcases ho with ho | ho <;> simp [execOp, ho]

theorem obl_elim {b : Bool} {d : DV} {K : Option Prop → DV → Prop} (h : obl b d K) : ∃ c d', K c d' ∧ ∀ x, Holds c → b = true → RepV A os w x d → RepV A os w x d' := by
  cases d
  case wh g d =>
    refine ⟨_, _, h, fun x hc hb hr => ?_⟩
    exact hr.wh_inv.1 (Holds.some_iff.1 hc hb)
  all_goals exact ⟨_, _, h, fun x _ _ hr => hr⟩
theorem dpickV_elim {c : Bool} {x y : DV} {ka kb : Bool} {K : DV → Prop} (h : dpickV c x y ka kb K) :
    ∃ p q r, x = .v (.bool p) ∧ y = .v (.bool q) ∧ K (.v (.bool r)) ∧ ((ka = true → c = true → p = true) → (kb = true → c = false → q = false) → r = if c then p else q) := by
  unfold dpickV at h
  split at h
  · rename_i p q
    split at h
    · refine ⟨p, q, _, rfl, rfl, h, fun h1 _ => ?_⟩
      cases c
      · simp
      · simp [h1 rfl rfl]
    · refine ⟨p, q, _, rfl, rfl, h, fun _ h2 => ?_⟩
      cases c
      · simp [h2 rfl rfl]
      · simp
    · exact ⟨p, q, _, rfl, rfl, h, fun _ _ => by cases c <;> rfl⟩
  · exact h.elim
theorem pick_ok {c x y : Operand} {K : Option Prop → DV → Prop} (ho : o.op = .pick c x y) (hc : Has A os w a ρ c) (hx : Has A os w a ρ x) (hy : Has A os w a ρ y) (h : dPick ρ c x y K) : GivesSome P A os w a o K := by
  unfold dPick at h
  split at h
  · rename_i t et
    obtain ⟨c1, x', h, k1⟩ := obl_elim (A := A) (os := os) (w := w) h
    obtain ⟨c2, y', h, k2⟩ := obl_elim (A := A) (os := os) (w := w) h
    obtain ⟨p, q, r, e1, e2, h, hr⟩ := dpickV_elim (frc_iff.1 (frc_iff.1 h))
    refine ⟨_, _, h, fun hh => ?_⟩
    obtain ⟨hc1, hc2⟩ := Holds.andO.1 hh
    have ec := hc.v et
    have hxv : t = true → a.eval x = .bool p := fun ht => by have := k1 _ hc1 ht hx; rw [e1] at this; exact this.v_inv.1
    have hyv : t = false → a.eval y = .bool q := fun ht => by have := k2 _ hc2 (by simp [ht]) hy; rw [e2] at this; exact this.v_inv.1
    have hr' := hr (fun hk ht => by
      have := hxv ht
      rw [isConstTrue_eval hk] at this
      injection this with this
      exact this.symm) (fun hk ht => by
      have := hyv ht
      rw [isConstFalse_eval hk] at this
      injection this with this
      exact this.symm)
    refine ⟨.bool r, ?_, .imm (.v rfl)⟩
    simp only [execOp, ho, ec, asBool, Sem.run_bind, Sem.run_pure, Result.andThen_ok]
    rw [hr']
    cases t
    · simp [hyv rfl]
    · simp [hxv rfl]
  · exact h.elim

theorem isRow_os {os : Objs} {i : Nat} (h : isRow (lget (os.map (·.2)) i) = true) : ∃ x e sz es, os[i]? = some (x, .row e sz es) := by
  rw [lget_eq, List.getElem?_map] at h
  cases hi : os[i]? with
  | none => rw [hi] at h; simp [isRow] at h
  | some p =>
    obtain ⟨x, o⟩ := p
    rw [hi] at h
    cases o <;> simp [isRow] at h
    exact ⟨_, _, _, _, rfl⟩
theorem isCells_os {os : Objs} {i : Nat} (h : isCells (lget (os.map (·.2)) i) = true) : ∃ x t cs, os[i]? = some (x, .cells t cs) := by
  rw [lget_eq, List.getElem?_map] at h
  cases hi : os[i]? with
  | none => rw [hi] at h; simp [isCells] at h
  | some p =>
    obtain ⟨x, o⟩ := p
    rw [hi] at h
    cases o <;> simp [isCells] at h
    exact ⟨_, _, _, rfl⟩
theorem nilCheck_ok {x : Operand} {K : Option Prop → DV → Prop} (ho : o.op = .nilCheck x) (hx : Has A os w a ρ x) (h : dNilCheck (os.map (·.2)) (ρ x) K) : GivesSome P A os w a o K := by
  unfold Has at hx
  unfold dNilCheck at h
  split at h
  · rename_i e
    rw [e] at hx
    refine ⟨_, _, h, fun _ => ⟨a.eval x, ?_, hx⟩⟩
    obtain ⟨g, t, cs, _, ex⟩ := hx.lp_inv
    simp [execOp, ho, ex]
  · rename_i e
    rw [e] at hx
    refine ⟨_, _, h, fun _ => ⟨a.eval x, ?_, hx⟩⟩
    obtain ⟨g, t, cs, _, ex⟩ := hx.ap_inv
    simp [execOp, ho, ex]
  · rename_i e
    rw [e] at hx
    split at h
    · rename_i hr
      refine ⟨_, _, h, fun _ => ⟨a.eval x, ?_, hx⟩⟩
      obtain ⟨_, _, _, _, hi⟩ := isRow_os hr
      obtain ⟨g, n, c, _, ex⟩ := hx.rp_row hi
      simp [execOp, ho, ex]
    · exact h.elim
  · rename_i e
    rw [e] at hx
    refine ⟨_, _, h, fun _ => ⟨a.eval x, ?_, hx⟩⟩
    have hi := hx.ip_inv
    generalize hy : a.eval x = y at *
    cases hi
    simp [execOp, ho, hy]
  · rename_i e
    rw [e] at hx
    refine ⟨_, _, h, fun _ => ⟨a.eval x, ?_, hx⟩⟩
    obtain ⟨vs, hy, _⟩ := hx.fn_inv
    simp [execOp, ho, hy]
  · exact h.elim

theorem un_ok {op : UnOp} {t : TypeId} {x : Operand} {K : Option Prop → DV → Prop} (ho : o.op = .unOp op t x) (hx : Has A os w a ρ x) (h : dUn op (ρ x) K) : GivesSome P A os w a o K := by
  unfold dUn at h
  split at h
  · rename_i e
    exact ⟨_, _, h, fun _ => ⟨_, by simp [execOp, ho, hx.v e, Op.unary], .imm (.v rfl)⟩⟩
  · rename_i e
    exact ⟨_, _, h, fun _ => ⟨_, by simp [execOp, ho, hx.v e, Op.unary, Op.intArith], .imm (.v rfl)⟩⟩
  · rename_i e
    exact ⟨_, _, h, fun _ => ⟨_, by simp only [execOp, ho, hx.v e, Op.unary, intBits_xor, Sem.run_bind, Sem.run_pure, Result.andThen_ok], .imm (.v rfl)⟩⟩
  · exact h.elim

theorem beq_bytes (x y : ByteArray) : (x.toList == y.toList) = decide (x = y) := by
  rw [ByteArray.toList_eq, ByteArray.toList_eq, Bool.eq_iff_iff]
  obtain ⟨⟨x⟩⟩ := x
  obtain ⟨⟨y⟩⟩ := y
  simp

theorem dInt_ok {op : BinOp} {t u : TypeId} {x y : Operand} {k : IntKind} {p q : Int} {K : Option Prop → DV → Prop} (ho : o.op = .binOp op t x y u) (hx : a.eval x = .int k p) (hy : a.eval y = .int k q) (h : dInt op k p q K) : GivesSome P A os w a o K := by
  cases op <;> simp only [dInt] at h <;> first
    | exact h.elim
    | (refine ⟨_, _, h, fun hc => ⟨_, ?_, .imm (.v rfl)⟩⟩
       simp only [execOp, ho, hx, hy, eqGuard_at_int, binOp, ne_eq, not_true_eq_false, if_false, Op.intArith, Op.intDiv, Op.intCmp, intBits_and, intBits_or, intBits_xor, intBits_andNot, Sem.run_bind, Sem.run_pure, Result.andThen_ok]
       try (rw [if_neg (Holds.some_iff.1 hc)])
       try simp only [Sem.run_pure, Result.andThen_ok]
       try rfl)
theorem dShift_ok {op : BinOp} {t u : TypeId} {x y : Operand} {k k' : IntKind} {p q : Int} {K : Option Prop → DV → Prop} (ho : o.op = .binOp op t x y u) (hx : a.eval x = .int k p) (hy : a.eval y = .int k' q) (h : dShift op k p q K) : GivesSome P A os w a o K := by
  cases op <;> simp only [dShift] at h <;> first
    | exact h.elim
    | (refine ⟨_, _, h, fun hc => ⟨_, ?_, .imm (.v rfl)⟩⟩
       have hq : ¬ q < 0 := by have := Holds.some_iff.1 hc; omega
       simp only [execOp, ho, hx, hy, eqGuard_at_int, binOp, Op.shift, if_neg hq, Sem.run_bind, Sem.run_pure, Result.andThen_ok])
theorem dStr_ok {op : BinOp} {t u : TypeId} {x y : Operand} {p q : ByteArray} {K : Option Prop → DV → Prop} (ho : o.op = .binOp op t x y u) (hx : a.eval x = .string p) (hy : a.eval y = .string q) (h : dStr op p q K) : GivesSome P A os w a o K := by
  cases op <;> simp only [dStr] at h <;> first
    | exact h.elim
    | (refine ⟨_, _, h, fun hc => ⟨_, ?_, .imm (.v rfl)⟩⟩
       simp only [execOp, ho, hx, hy, eqGuard_at_string, binOp, Op.stringOp, beq_bytes, Sem.run_bind, Sem.run_pure, Result.andThen_ok])
theorem dBool_ok (hT : tabOk P tt = true) {op : BinOp} {t u : TypeId} {x y : Operand} {p q : Bool} {K : Option Prop → DV → Prop} (ho : o.op = .binOp op t x y u) (hx : a.eval x = .bool p) (hy : a.eval y = .bool q) (ht : (tinfo tt t).k = .bool) (h : dBool op p q K) : GivesSome P A os w a o K := by
  have hu := tab_bool hT ht
  cases op <;> simp only [dBool] at h <;> first
    | exact h.elim
    | (refine ⟨_, _, h, fun hc => ⟨_, ?_, .imm (.v rfl)⟩⟩
       simp only [execOp, ho, hx, hy, eqGuard_at_bool, run_eql_bool w t p q hu, run_neq_bool w t p q hu, Sem.run_bind, Sem.run_pure, Result.andThen_ok])
end
end Go.Lift

namespace Go.Lift
open Go
section
variable {P : Program} {tt : TT} {A : Nat → Prop} {os : Objs} {w : World} {a : Act} {o : Oper} {ρ : Operand → DV}

def kindOf : SK → Value → Prop
  | .int k, .int k' _ => k = k'
  | .bool, .bool _ => True
  | .str, .string _ => True
  | _, _ => False
def kinds : List SK → List Value → Prop
  | [], [] => True
  | k :: ks, v :: vs => kindOf k v ∧ kinds ks vs
  | _, _ => False
def veq : Value → Value → Bool
  | .int _ a, .int _ b => decide (a = b)
  | .bool a, .bool b => a == b
  | .string a, .string b => decide (a = b)
  | _, _ => false
def veqs : List Value → List Value → Bool
  | v :: vs, u :: us => veq v u && veqs vs us
  | _, _ => true
theorem kinds_length : ∀ {ks : List SK} {vs : List Value}, kinds ks vs → vs.length = ks.length
  | [], [], _ => rfl
  | [], _ :: _, h => h.elim
  | _ :: _, [], h => h.elim
  | _ :: ks, _ :: vs, h => by simp [kinds_length h.2]
theorem kinds_append : ∀ {ks ls : List SK} {vs : List Value}, kinds (ks ++ ls) vs → kinds ks (vs.take ks.length) ∧ kinds ls (vs.drop ks.length)
  | [], ls, vs, h => ⟨by simp [kinds], by simpa using h⟩
  | k :: ks, ls, [], h => h.elim
  | k :: ks, ls, v :: vs, h => by
    obtain ⟨h1, h2⟩ := kinds_append (ks := ks) h.2
    exact ⟨⟨h.1, by simpa using h1⟩, by simpa using h2⟩
theorem veqs_append : ∀ {n : Nat} {vs us : List Value}, vs.length = us.length → veqs vs us = (veqs (vs.take n) (us.take n) && veqs (vs.drop n) (us.drop n))
  | 0, vs, us, _ => by simp [veqs]
  | n + 1, [], us, h => by cases us <;> simp [veqs] at h ⊢
  | n + 1, v :: vs, [], h => by simp at h
  | n + 1, v :: vs, u :: us, h => by
    simp only [List.take_succ_cons, List.drop_succ_cons, veqs, Bool.and_assoc]
    rw [veqs_append (n := n) (by simpa using h)]
theorem eq1K_elim {k : SK} {x y : DV} {K : Bool → Prop} (h : eq1K k x y K) : ∃ v u, x = .v v ∧ y = .v u ∧ kindOf k v ∧ kindOf k u ∧ K (veq v u) := by
  unfold eq1K at h
  split at h
  · split at h
    · rename_i hk
      simp only [Bool.and_eq_true] at hk
      exact ⟨_, _, rfl, rfl, ikEq_iff.1 hk.1, ikEq_iff.1 hk.2, h⟩
    · exact h.elim
  · exact ⟨_, _, rfl, rfl, trivial, trivial, h⟩
  · exact ⟨_, _, rfl, rfl, trivial, trivial, h⟩
  · exact h.elim
theorem eqCells_elim : ∀ {ks : List SK} {xs ys : List DV} {K : Bool → Prop}, eqCells ks xs ys K → ∃ vs us, xs = vs.map .v ∧ ys = us.map .v ∧ kinds ks vs ∧ kinds ks us ∧ K (veqs vs us)
  | [], [], [], K, h => ⟨[], [], rfl, rfl, trivial, trivial, h⟩
  | k :: ks, x :: xs, y :: ys, K, h => by
    obtain ⟨v, u, rfl, rfl, k1, k2, h⟩ := eq1K_elim h
    obtain ⟨vs, us, rfl, rfl, l1, l2, hK⟩ := eqCells_elim h
    exact ⟨v :: vs, u :: us, rfl, rfl, ⟨k1, l1⟩, ⟨k2, l2⟩, hK⟩
  | [], [], _ :: _, K, h => by simp [eqCells] at h
  | [], _ :: _, [], K, h => by simp [eqCells] at h
  | [], _ :: _, _ :: _, K, h => by simp [eqCells] at h
  | _ :: _, [], [], K, h => by simp [eqCells] at h
  | _ :: _, [], _ :: _, K, h => by simp [eqCells] at h
  | _ :: _, _ :: _, [], K, h => by simp [eqCells] at h

def shapeV (agg : Bool) (vs : List Value) : Value :=
  match agg with
  | true => .agg vs.toArray
  | false => vs.headD undef
theorem run_part_tab (hT : tabOk P tt = true) {t : TypeId} (hs : (tinfo tt t).size ≠ 0) (vs : List Value) (off : Nat) (h : off + (tinfo tt t).size ≤ vs.length) (h1 : (tinfo tt t).agg = false → (tinfo tt t).size = 1) :
    (part t vs.toArray off).run P w = .ok (shapeV (tinfo tt t).agg ((vs.drop off).take (tinfo tt t).size)) w := by
  unfold part
  simp only [Sem.run_bind, run_isAgg_tab hT hs, Result.andThen_ok]
  cases ha : (tinfo tt t).agg
  · have h1 := h1 ha
    rw [h1] at h ⊢
    have hg : vs.toArray[off]? = some (vs[off]'(by omega)) := by simp [List.getElem?_eq_getElem (show off < vs.length by omega)]
    rw [if_neg (by simp)]
    simp only [hg, Sem.run_pure, shapeV]
    rw [List.drop_eq_getElem_cons (by omega)]
    rfl
  · rw [if_pos rfl]
    simp only [Sem.run_bind, run_sizeOf_tab hT hs, Result.andThen_ok, Sem.run_pure, shapeV, Sem.run_map]
    congr 2
    apply Array.ext'
    simp

def EqT (P : Program) (tt : TT) (t : TypeId) (ks : List SK) (d : Nat) : Prop :=
  (tinfo tt t).size = ks.length ∧ (tinfo tt t).size ≠ 0 ∧ ((tinfo tt t).agg = false → (tinfo tt t).size = 1) ∧
    ∀ (vs us : List Value) (w : World), kinds ks vs → kinds ks us → (Op.equalIn d t (shapeV (tinfo tt t).agg vs) (shapeV (tinfo tt t).agg us)).run P w = .ok (veqs vs us) w

theorem flatFs_ok (hT : tabOk P tt = true) {g : TypeId → Option (List SK)} {d : Nat} (hg : ∀ t ks, g t = some ks → EqT P tt t ks d) :
    ∀ (F : List Field) (fs : List (TypeId × Nat)) (o : Nat) (ks : List SK) (vs us : List Value) (w : World), fsOk F fs = true → flatFs g fs o = some ks → kinds ks (vs.drop o) → kinds ks (us.drop o) → vs.length = us.length →
      (Op.eqFields d vs.toArray us.toArray F).run P w = .ok (veqs (vs.drop o) (us.drop o)) w
  | [], [], o, ks, vs, us, w, hF, h, k1, k2, hl => by
    simp only [flatFs, Option.some.injEq] at h
    subst h
    cases hv : vs.drop o with
    | cons x r => rw [hv] at k1; exact k1.elim
    | nil => simp [Op.eqFields, veqs]
  | [], _ :: _, o, ks, vs, us, w, hF, h, k1, k2, hl => by simp [fsOk] at hF
  | _ :: _, [], o, ks, vs, us, w, hF, h, k1, k2, hl => by simp [fsOk] at hF
  | f :: F, x :: fs, o, ks, vs, us, w, hF, h, k1, k2, hl => by
    simp only [fsOk, Bool.and_eq_true, bne_iff_ne] at hF
    obtain ⟨⟨⟨ht, ho⟩, hn⟩, hF⟩ := hF
    have ht := Nat.eq_of_beq_eq_true ht
    have ho := Nat.eq_of_beq_eq_true ho
    unfold flatFs at h
    split at h
    · exact absurd h (by simp)
    · rename_i hb
      have hb := Nat.eq_of_beq_eq_true hb
      split at h
      · exact absurd h (by simp)
      · rename_i k1s hk1
        split at h
        · exact absurd h (by simp)
        · rename_i l hl2
          simp only [Option.some.injEq] at h
          subst h
          obtain ⟨hs, hs0, hs1, heq⟩ := hg _ _ hk1
          obtain ⟨a1, a2⟩ := kinds_append k1
          obtain ⟨b1, b2⟩ := kinds_append k2
          have lv := kinds_length k1
          have lu := kinds_length k2
          simp only [List.length_drop, List.length_append] at lv lu
          have hof : f.offset = o := ho.trans hb
          have p1 := run_part_tab (w := w) hT hs0 vs o (by omega) hs1
          have p2 := run_part_tab (w := w) hT hs0 us o (by omega) hs1
          rw [hs] at p1 p2
          have e1 := heq _ _ w a1 b1
          simp only [Op.eqFields, if_pos hn, Sem.run_bind, ht, hof, p1, p2, Result.andThen_ok, e1]
          rw [veqs_append (n := k1s.length) (vs := vs.drop o) (us := us.drop o) (by simp [hl])]
          have ih := flatFs_ok hT hg F fs (o + k1s.length) l vs us w hF hl2 (by simpa [Nat.add_comm] using a2) (by simpa [Nat.add_comm] using b2) hl
          cases hr : veqs ((vs.drop o).take k1s.length) ((us.drop o).take k1s.length)
          · simp
          · simp only [Bool.not_true, Bool.false_eq_true, if_false, ih, Bool.true_and, List.drop_drop]
theorem eqT_flat (hT : tabOk P tt = true) : ∀ (n : Nat) (t : TypeId) (ks : List SK), flatK tt n t = some ks → ∀ d, n ≤ d → EqT P tt t ks d
  | 0, t, ks, h, d, hd => by simp [flatK] at h
  | n + 1, t, ks, h, 0, hd => by omega
  | n + 1, t, ks, h, d + 1, hd => by
    unfold flatK at h
    split at h
    · rename_i k hk
      have he := tab_entry hT (t := t) (.inr (by rw [hk]; simp))
      obtain ⟨dd, hdd, hko, ha⟩ := he.kind
      have hu := tab_int hT hk
      rw [hu] at hdd
      cases hdd
      have h1 := he.one ha.symm
      cases h
      refine ⟨by simp [h1], by simp [h1], fun _ => h1, fun vs us w k1 k2 => ?_⟩
      rw [← ha]
      match vs, us, k1, k2 with
      | [.int q p], [.int q' p'], k1, k2 =>
        have e1 : k = q := k1.1
        have e2 : k = q' := k2.1
        subst e1; subst e2
        simp [shapeV, aggD, run_equalIn_int w d t k k p p' hu, veqs, veq, Bool.beq_eq_decide_eq]
    · rename_i hk
      have he := tab_entry hT (t := t) (.inr (by rw [hk]; simp))
      obtain ⟨dd, hdd, hko, ha⟩ := he.kind
      have hu := tab_bool hT hk
      rw [hu] at hdd
      cases hdd
      have h1 := he.one ha.symm
      cases h
      refine ⟨by simp [h1], by simp [h1], fun _ => h1, fun vs us w k1 k2 => ?_⟩
      rw [← ha]
      match vs, us, k1, k2 with
      | [.bool p], [.bool p'], k1, k2 => simp [shapeV, aggD, run_equalIn_bool w d t p p' hu, veqs, veq]
    · rename_i hk
      have he := tab_entry hT (t := t) (.inr (by rw [hk]; simp))
      obtain ⟨dd, hdd, hko, ha⟩ := he.kind
      have hu := tab_str hT hk
      rw [hu] at hdd
      cases hdd
      have h1 := he.one ha.symm
      cases h
      refine ⟨by simp [h1], by simp [h1], fun _ => h1, fun vs us w k1 k2 => ?_⟩
      rw [← ha]
      match vs, us, k1, k2 with
      | [.string p], [.string p'], k1, k2 => simp [shapeV, aggD, run_equalIn_string w d t p p' hu, veqs, veq, beq_bytes]
    · rename_i fs hk
      split at h
      · rename_i ks' hf
        split at h
        · rename_i m hz hm
          cases h
          have hz := Nat.eq_of_beq_eq_true hz
          obtain ⟨F, hu, hF, hagg⟩ := tab_st hT hk
          have he := tab_entry hT (t := t) (.inr (by rw [hk]; simp))
          refine ⟨hz.symm, by omega, fun ha => absurd (ha.symm.trans hagg) (by simp), fun vs us w k1 k2 => ?_⟩
          have hfo : P.fieldsOf t = F := by simp [Program.fieldsOf, hu]
          rw [hagg]
          have := flatFs_ok hT (g := flatK tt n) (d := d) (fun t ks hh => eqT_flat hT n t ks hh d (by omega)) F.toList fs 0 ks vs us w hF hf (by simpa using k1) (by simpa using k2) (by rw [kinds_length k1, kinds_length k2])
          simp only [shapeV]
          rw [run_equalIn_struct w d t _ _ (by rw [hfo]; exact hu) (he.held hagg).1, hfo, this]
          simp
        · exact absurd h (by simp)
      · exact absurd h (by simp)
    · exact absurd h (by simp)

theorem dAgg_ok (hT : tabOk P tt = true) {op : BinOp} {t u : TypeId} {x y : Operand} {xs ys : List DV} {K : Option Prop → DV → Prop} (ho : o.op = .binOp op t x y u) (hx : Has A os w a ρ x) (hy : Has A os w a ρ y) (ex : ρ x = .agg xs) (ey : ρ y = .agg ys) (h : dAgg tt t op xs ys K) : GivesSome P A os w a o K := by
  unfold dAgg at h
  unfold Has at hx hy
  rw [ex] at hx
  rw [ey] at hy
  obtain ⟨vs, hvx, hl, _, hp⟩ := hx.agg_inv
  obtain ⟨us, hvy, hl', _, hp'⟩ := hy.agg_inv
  have same : ∀ {zs : List Value} {ds : List DV} {ts : List Value}, zs.length = ds.length → (∀ (i : Nat) v d, zs[i]? = some v → ds[i]? = some d → RepV A os w v d) → ds = ts.map .v → zs = ts := by
    intro zs ds ts h1 h2 h3
    subst h3
    apply List.ext_getElem?
    intro i
    by_cases hi : i < zs.length
    · have hi' : i < ts.length := by simpa [h1] using hi
      have := (h2 i zs[i] (.v ts[i]) (List.getElem?_eq_getElem hi) (by simp [hi'])).v_inv.1
      simp [hi, hi', this]
    · have hi' : ¬ i < ts.length := by simpa [h1] using hi
      simp [List.getElem?_eq_none (Nat.le_of_not_lt hi), List.getElem?_eq_none (Nat.le_of_not_lt hi')]
  split at h
  · rename_i ks hks hag
    obtain ⟨h1, h2, h3, h4⟩ := eqT_flat hT 5 t ks hks Op.maxDepth (by decide)
    have key : ∀ {K' : Bool → Prop}, eqCells ks xs ys K' → ∃ r, K' r ∧ (eqGuard op t x y (.agg vs.toArray) (.agg us.toArray)).run P w = .ok () w ∧ (Op.equal t (.agg vs.toArray) (.agg us.toArray)).run P w = .ok r w := by
      intro K' h
      obtain ⟨ts, ts', e1, e2, k1, k2, hK⟩ := eqCells_elim h
      obtain rfl := same hl hp e1
      obtain rfl := same hl' hp' e2
      have he := tab_entry hT (t := t) (.inl h2)
      refine ⟨_, hK, ?_, ?_⟩
      · cases op <;> first | rfl | simp [eqGuard, (he.held hag).2]
      · have := h4 _ _ w k1 k2
        rw [hag] at this
        exact this
    cases op <;> simp only at h <;> first
      | exact h.elim
      | (obtain ⟨r, hK, hg, he⟩ := key h
         refine ⟨_, _, hK, fun _ => ⟨_, ?_, .imm (.v rfl)⟩⟩
         simp only [execOp, ho, hvx, hvy, Sem.run_bind, hg, Result.andThen_ok, binOp, he, Sem.run_pure])
  · exact h.elim
end
end Go.Lift

namespace Go.Lift
open Go

theorem list_of {α : Type} {Q : Nat → α → Prop} : ∀ (n : Nat), (∀ j, j < n → ∃ v, Q j v) → ∃ vs : List α, vs.length = n ∧ ∀ (j : Nat) v, vs[j]? = some v → Q j v
  | 0, _ => ⟨[], rfl, by simp⟩
  | n + 1, h => by
    obtain ⟨vs, hl, hq⟩ := list_of n (fun j hj => h j (by omega))
    obtain ⟨v, hv⟩ := h n (by omega)
    refine ⟨vs ++ [v], by simp [hl], fun j u hu => ?_⟩
    by_cases hj : j < n
    · rw [List.getElem?_append_left (by omega)] at hu
      exact hq j u hu
    · have : j < n + 1 := by
        have := (List.getElem?_eq_some_iff.1 hu).1
        simpa [hl] using this
      obtain rfl : j = n := by omega
      rw [List.getElem?_append_right (by omega)] at hu
      simp [hl] at hu
      subst hu
      exact hv

theorem lget_os {os : Objs} {i : Nat} {o : LObj} (h : lget (os.map (·.2)) i = o) (hd : o ≠ .dead) : ∃ x, os[i]? = some (x, o) := by
  rw [lget_eq, List.getElem?_map] at h
  cases hi : os[i]? with
  | none => rw [hi] at h; exact absurd h.symm hd
  | some p => rw [hi] at h; obtain ⟨x, o'⟩ := p; simp at h; subst h; exact ⟨x, rfl⟩

section
variable {P : Program} {tt : TT} {A : Nat → Prop} {os : Objs} {B : Home} {w : World} {a : Act} {o : Oper} {ρ : Operand → DV}

theorem load_take (hT : tabOk P tt = true) {t : TypeId} (hs : (tinfo tt t).size ≠ 0) {ad : Addr} {ds : List DV} {K : DV → Prop}
    (hc : ∀ (j : Nat) d, ds[j]? = some d → ∃ v, w.cell? (ad.add j) = some v ∧ v.oneCell' = true ∧ RepV A os w v d) (h : dTake (tinfo tt t).agg (tinfo tt t).size ds K) :
    ∃ d x, K d ∧ (loadVar t ad).run P w = .ok x w ∧ RepV A os w x d := by
  unfold dTake at h
  split at h
  · rename_i hag
    obtain ⟨hl, h⟩ := takeK_elim h
    obtain ⟨vs, hvl, hv⟩ := list_of (Q := fun j v => w.cell? (ad.add j) = some v ∧ v.oneCell' = true ∧ ∃ d, ds[j]? = some d ∧ RepV A os w v d) (tinfo tt t).size (fun j hj => by
      obtain ⟨v, h1, h2, h3⟩ := hc j ds[j] (List.getElem?_eq_getElem (by omega))
      exact ⟨v, h1, h2, _, List.getElem?_eq_getElem (by omega), h3⟩)
    have hrun := run_loadCells_list (P := P) w ad vs (fun j v hj => (hv j v hj).1)
    refine ⟨_, .agg vs.toArray, h, ?_, .agg (by simp [hvl]; omega) (fun v hm => ?_) (fun i v d hi hd => ?_)⟩
    · simp only [loadVar, Sem.run_bind, run_isAgg_tab hT hs, Result.andThen_ok, hag, if_true, run_sizeOf_tab hT hs, ← hvl, hrun, Sem.run_pure, Sem.run_map]
    · obtain ⟨j, hj, rfl⟩ := List.getElem_of_mem hm
      exact (hv j _ (List.getElem?_eq_getElem hj)).2.1
    · obtain ⟨_, _, d', hd', hr⟩ := hv i v hi
      have hlt : i < (tinfo tt t).size := by
        have := (List.getElem?_eq_some_iff.1 hi).1
        omega
      rw [List.getElem?_take, if_pos hlt, hd'] at hd
      cases hd
      exact hr
  · rename_i hag
    split at h
    · rename_i d r
      have h := frc_iff.1 h
      obtain ⟨v, h1, h2, h3⟩ := hc 0 d rfl
      refine ⟨_, v, h, ?_, h3⟩
      have h0 : ad.add 0 = ad := by simp [Addr.add]
      rw [h0] at h1
      simp only [loadVar, Sem.run_bind, run_isAgg_tab hT hs, Result.andThen_ok, hag, Bool.false_eq_true, if_false, run_load, h1]
    · exact h.elim

theorem ip_cells {x : Value} {cs : List DV} (h : RepV A os w x (.ip cs)) : ∃ ad, x = .pointer (some ad) ∧ ¬ A ad.block ∧ ad.block < w.heap.size ∧
    ∀ (j : Nat) d, cs[j]? = some d → ∃ v, w.cell? (ad.add j) = some v ∧ v.oneCell' = true ∧ Imm A w v d := by
  have h := h.ip_inv
  cases h with
  | ip xs hA hb hone hcell hx => exact ⟨_, rfl, hA, hb, fun j d hd => ⟨_, hcell j d hd, hone j, hx j d hd⟩⟩
theorem ip_mk {ad : Addr} {cs : List DV} (hA : ¬ A ad.block) (hb : ad.block < w.heap.size) (hc : ∀ (j : Nat) d, cs[j]? = some d → ∃ v, w.cell? (ad.add j) = some v ∧ v.oneCell' = true ∧ Imm A w v d) : Imm A w (.pointer (some ad)) (.ip cs) := by
  have : ∀ j, ∃ v : Value, v.oneCell' = true ∧ ∀ d, cs[j]? = some d → w.cell? (ad.add j) = some v ∧ Imm A w v d := by
    intro j
    cases hj : cs[j]? with
    | none => exact ⟨.nilFunc, rfl, by simp⟩
    | some d =>
      obtain ⟨v, h1, h2, h3⟩ := hc j d hj
      exact ⟨v, h2, fun d' hd' => by cases hd'; exact ⟨h1, h3⟩⟩
  exact .ip (fun j => (this j).choose) hA hb (fun j => (this j).choose_spec.1) (fun j d hd => ((this j).choose_spec.2 d hd).1) (fun j d hd => ((this j).choose_spec.2 d hd).2)
theorem obj_cells (hO : ObjsOk A os B w) {i g : Nat} {t : TypeId} {cs : List DV} (h : os[i]? = some (.pointer (some ⟨g, 0, none⟩), .cells t cs)) :
    ∃ arr, w.heap[g]? = some (.cells arr t (0, 0)) ∧ arr.size = cs.length ∧ B.mine g ∧ (∀ v ∈ arr.toList, v.oneCell' = true) ∧ (∀ (j : Nat) v d, arr[j]? = some v → cs[j]? = some d → RepV A os w v d) ∧
      ∀ (j : Nat) d, cs[j]? = some d → ∃ v, w.cell? ⟨g, j, none⟩ = some v ∧ v.oneCell' = true ∧ RepV A os w v d := by
  obtain ⟨g', arr, e, hB, hh, hs, hone, hr⟩ := hO _ _ _ h
  cases e
  refine ⟨arr, hh, hs, hB, hone, hr, fun j d hd => ?_⟩
  have hj : j < arr.size := by have := (List.getElem?_eq_some_iff.1 hd).1; omega
  refine ⟨arr[j], ?_, hone _ (by simp), hr j _ d (by simp [hj]) hd⟩
  rw [cell_of_row w g j arr t (0, 0) hh]
  simp [hj]

theorem load_ok (hT : tabOk P tt = true) (hO : ObjsOk A os B w) {t : TypeId} {x : Operand} {K : Option Prop → DV → Prop} (ho : o.op = .load t x) (hx : Has A os w a ρ x) (h : dLoad tt (os.map (·.2)) t (ρ x) K) : GivesSome P A os w a o K := by
  unfold Has at hx
  unfold dLoad at h
  have fin : ∀ {ad : Addr} {y : Value} {c : Option Prop} {d : DV}, a.eval x = .pointer (some ad) → K c d → (Holds c → (loadVar t ad).run P w = .ok y w ∧ RepV A os w y d) → GivesSome P A os w a o K := by
    intro ad y c d he hK hh
    refine ⟨_, _, hK, fun hc => ⟨y, ?_, (hh hc).2⟩⟩
    simp only [execOp, ho, he, Instr.loadAt, Instr.sureAddr, Sem.run_bind, Sem.run_pure, Result.andThen_ok, (hh hc).1]
  split at h
  · exact h.elim
  · rename_i hs0
    have hs : (tinfo tt t).size ≠ 0 := hs0
    split at h
    · rename_i cs e
      rw [e] at hx
      obtain ⟨ad, he, _, _, hc⟩ := ip_cells hx
      obtain ⟨d, y, hK, h1, h2⟩ := load_take (os := os) hT hs (fun j d hd => by obtain ⟨v, h1, h2, h3⟩ := hc j d hd; exact ⟨v, h1, h2, .imm h3⟩) h
      exact fin he hK (fun _ => ⟨h1, h2⟩)
    · rename_i i off e
      rw [e] at hx
      obtain ⟨g, t', cs', hi, he⟩ := hx.lp_inv
      split at h
      · rename_i t2 cs hl
        obtain ⟨x', hi'⟩ := lget_os hl (by simp)
        rw [hi] at hi'
        cases hi'
        obtain ⟨_, _, _, _, _, _, hcell⟩ := obj_cells hO hi
        obtain ⟨_, h⟩ := dropK_elim h
        obtain ⟨d, y, hK, h1, h2⟩ := load_take hT hs (ad := ⟨g, off, none⟩) (fun j d hd => by rw [List.getElem?_drop] at hd; rw [Addr.add_mk]; exact hcell _ d hd) h
        exact fin he hK (fun _ => ⟨h1, h2⟩)
      · exact h.elim
    · rename_i i off e
      rw [e] at hx
      obtain ⟨g, t', cs', hi, he⟩ := hx.ap_inv
      split at h
      · rename_i t2 cs hl
        obtain ⟨x', hi'⟩ := lget_os hl (by simp)
        rw [hi] at hi'
        cases hi'
        obtain ⟨_, _, _, _, _, _, hcell⟩ := obj_cells hO hi
        split at h
        · rename_i hag
          obtain ⟨ds, hK⟩ := h
          by_cases hc : (cs'.drop off).take (tinfo tt t).size = ds ∧ ds.length = (tinfo tt t).size
          · obtain ⟨d, y, e, h1, h2⟩ := load_take hT hs (ad := ⟨g, off, none⟩) (K := fun d => d = .agg ds) (fun j d hd => by rw [List.getElem?_drop] at hd; rw [Addr.add_mk]; exact hcell _ d hd) (ds := cs'.drop off) (by
              unfold dTake
              rw [hag]
              have : ∀ (n : Nat) (l : List DV) (Q : List DV → Prop), n ≤ l.length → Q (l.take n) → takeK n l Q := by
                intro n
                induction n with
                | zero => intro l Q _ hq; simpa [takeK] using hq
                | succ n ih =>
                  intro l Q hn hq
                  cases l with
                  | nil => simp at hn
                  | cons d r => exact frc_iff.2 (ih r _ (by simpa using hn) (by simpa using hq))
              refine this _ _ _ ?_ (by rw [hc.1])
              have := hc.2
              rw [← hc.1, List.length_take] at this
              omega)
            subst e
            exact fin he hK (fun _ => ⟨h1, h2⟩)
          · exact ⟨_, _, hK, fun hh => absurd (Holds.some_iff.1 hh) hc⟩
        · rename_i hag
          obtain ⟨d, h⟩ := h
          have hK := frc_iff.1 h
          by_cases hc : cs'[off]? = some d
          · obtain ⟨v, h1, h2, h3⟩ := hcell off d hc
            refine fin he hK (fun _ => ⟨?_, h3⟩)
            simp only [loadVar, Sem.run_bind, run_isAgg_tab hT hs, Result.andThen_ok, hag, Bool.false_eq_true, if_false, run_load, h1]
          · exact ⟨_, _, hK, fun hh => absurd (Holds.some_iff.1 hh) hc⟩
      · exact h.elim
    · rename_i i k off e
      rw [e] at hx
      split at h
      · rename_i e' sz es' hl
        obtain ⟨x', hi⟩ := lget_os hl (by simp)
        obtain ⟨g, n, c, rfl, he⟩ := hx.rp_row hi
        obtain ⟨ed, h⟩ := h
        obtain ⟨_, h⟩ := dropK_elim h
        obtain ⟨hmine, xs, hown, hsz, hrl, hone, hrow⟩ := hO _ _ _ hi
        have hdt : ∃ d, K (some (es'[k]? = some ed)) d ∧ dTake (tinfo tt t).agg (tinfo tt t).size (ed.drop off) (fun d' => d' = d ∧ K (some (es'[k]? = some ed)) d) := by
          unfold dTake at h ⊢
          split at h
          · obtain ⟨hl, hh⟩ := takeK_elim h
            refine ⟨_, hh, ?_⟩
            have : ∀ (n : Nat) (l : List DV) (Q : List DV → Prop), n ≤ l.length → Q (l.take n) → takeK n l Q := by
              intro n
              induction n with
              | zero => intro l Q _ hq; simpa [takeK] using hq
              | succ n ih =>
                intro l Q hn hq
                cases l with
                | nil => simp at hn
                | cons d r => exact frc_iff.2 (ih r _ (by simpa using hn) (by simpa using hq))
            exact this _ _ _ hl ⟨rfl, hh⟩
          · split at h
            · have hh := frc_iff.1 h
              exact ⟨_, hh, frc_iff.2 ⟨rfl, hh⟩⟩
            · exact h.elim
        obtain ⟨d, hK, h⟩ := hdt
        by_cases hc : es'[k]? = some ed
        · have hcell : ∀ (j : Nat) d, (ed.drop off)[j]? = some d → ∃ v, w.cell? (Addr.add ⟨g, k * sz + off, none⟩ j) = some v ∧ v.oneCell' = true ∧ RepV A os w v d := by
            intro j d hd
            rw [List.getElem?_drop] at hd
            obtain ⟨v, hv, hi⟩ := hrow k (off + j) ed d hc hd
            refine ⟨v, ?_, hone v (List.mem_of_getElem? hv), .imm hi⟩
            have := hown.cells (g := g) rfl _ _ hv
            rw [Addr.add_mk] at this ⊢
            rw [← this]
            congr 2
            omega
          obtain ⟨d', y, ⟨rfl, _⟩, h1, h2⟩ := load_take hT hs hcell h
          exact fin he hK (fun _ => ⟨h1, h2⟩)
        · exact ⟨_, _, hK, fun hh => absurd (Holds.some_iff.1 hh) hc⟩
      · exact h.elim
    · exact h.elim
end
end Go.Lift

namespace Go.Lift
open Go
section
variable {P : Program} {tt : TT} {A : Nat → Prop} {os : Objs} {B : Home} {w : World} {a : Act} {o : Oper} {ρ : Operand → DV}

theorem lst_elem {x : Value} {sz : Nat} {es : List (List DV)} {f : Bool} {k : Nat} {ed : List DV} (h : Imm A w x (.lst sz es f)) (hk : es[k]? = some ed) :
    ∃ ad n c, x = .slice (some ad) n c ∧ n = es.length ∧ k < n ∧ ed.length = sz ∧ ¬ A ad.block ∧ ad.block < w.heap.size ∧ ∀ (j : Nat) d, ed[j]? = some d → ∃ v, w.cell? (ad.add (k * sz + j)) = some v ∧ v.oneCell' = true ∧ Imm A w v d := by
  cases h with
  | lst xs hn hc hm hf hsz hA hb hone hcell hx =>
    have hlt := (List.getElem?_eq_some_iff.1 hk).1
    exact ⟨_, _, _, rfl, hn.symm, by omega, hsz ed (List.mem_of_getElem? hk), hA (fun e0 => by rw [e0] at hk; simp at hk), hb (fun e0 => by rw [e0] at hk; simp at hk), fun j d hd => ⟨_, hcell k j ed d hk hd, hone k j, hx k j ed d hk hd⟩⟩
  | nil => simp at hk

theorem Imm.v_inv {A : Nat → Prop} {w : World} {x y : Value} (h : Imm A w x (.v y)) : x = y := by
  cases h; rfl
theorem foldl_push : ∀ (l : List UInt8) (s : ByteArray), (l.map (fun b => (b.toNat : Int))).foldl (fun r n => r.push (UInt8.ofNat n.toNat)) s = ⟨(s.data.toList ++ l).toArray⟩
  | [], s => by obtain ⟨⟨l⟩⟩ := s; simp
  | b :: r, s => by
    simp only [List.map_cons, List.foldl_cons, Int.toNat_natCast]
    rw [foldl_push r]
    have : UInt8.ofNat b.toNat = b := by simp
    rw [this]
    obtain ⟨⟨l⟩⟩ := s
    simp [ByteArray.push]
theorem convert_ok (hT : tabOk P tt = true) {src dst : TypeId} {x : Operand} {K : Option Prop → DV → Prop} (ho : o.op = .convert src dst x) (hx : Has A os w a ρ x) (h : dConvert tt (tinfo tt src).k (tinfo tt dst).k (ρ x) K) : GivesSome P A os w a o K := by
  unfold dConvert at h
  split at h
  · rename_i ks k k' n e1 e2 e3
    refine ⟨_, _, h, fun _ => ⟨_, ?_, .imm (.v rfl)⟩⟩
    simp only [execOp, ho, hx.v e3, convert, Sem.run_bind, run_underlying (tab_int hT e1), run_underlying (tab_int hT e2), Result.andThen_ok, Conv.intToInt, Sem.run_pure]
  · rename_i s e1 e2 e3
    refine ⟨_, _, h, fun _ => ⟨_, ?_, .imm (.v rfl)⟩⟩
    simp only [execOp, ho, hx.v e3, convert, Sem.run_bind, run_underlying (tab_str hT e1), run_underlying (tab_str hT e2), Result.andThen_ok, Sem.run_pure]
  · rename_i e sz es f e1 e2 e3
    split at h
    · rename_i h8 h1
      obtain ⟨bs, hK⟩ := h
      have h1 := Nat.eq_of_beq_eq_true h1
      subst h1
      refine ⟨_, _, hK, fun hc => ⟨_, ?_, .imm (.v rfl)⟩⟩
      have hc := Holds.some_iff.1 hc
      unfold Has at hx
      rw [e3] at hx
      have hi := hx.lst_inv
      have hrun : (Conv.bytesToString (a.eval x)).run P w = .ok (.string ⟨bs.toArray⟩) w := by
        generalize a.eval x = y at hi
        cases hi with
        | nil =>
          have : bs = [] := by cases bs <;> simp at hc ⊢
          subst this
          simp [Conv.bytesToString]
          rfl
        | @lst ad n c _ _ _ xs hn hc' hm hf hsz hA hb hone hcell hxx =>
          have hl : bs.length = n := by rw [← hn, hc]; simp
          have hbytes : ∀ j v, (bs.map (fun b : UInt8 => Value.int .u8 b.toNat))[j]? = some v → w.cell? (ad.add j) = some v := by
            intro j v hv
            rw [List.getElem?_map] at hv
            cases hb : bs[j]? with
            | none => rw [hb] at hv; simp at hv
            | some b =>
              rw [hb] at hv
              simp at hv
              subst hv
              have he : es[j]? = some (byteE b) := by rw [hc]; simp [hb]
              have h1 := hcell j 0 _ _ he rfl
              have h2 := hxx j 0 _ _ he rfl
              rw [Nat.mul_one, Nat.add_zero] at h1
              rw [h1, h2.v_inv]
          have hload := run_loadCells_list (P := P) w ad _ hbytes
          rw [List.length_map, hl] at hload
          have := run_bytesToString (P := P) w ad n c (bs.map (fun b : UInt8 => (b.toNat : Int))) (by rw [List.map_map]; exact hload)
          rw [this, foldl_push]
          simp
      have : (convert src dst (a.eval x)).run P w = .ok (.string ⟨bs.toArray⟩) w := by
        generalize a.eval x = y at hi hrun
        cases hi with
        | nil => rw [run_convert_bytes_string w src dst e _ _ _ (tab_slc hT e1) (tab_int hT h8) (tab_str hT e2)]; exact hrun
        | lst => rw [run_convert_bytes_string w src dst e _ _ _ (tab_slc hT e1) (tab_int hT h8) (tab_str hT e2)]; exact hrun
      simp only [execOp, ho, Sem.run_bind, this, Result.andThen_ok, Sem.run_pure]
    · exact h.elim
  · exact h.elim

theorem field_lt (hT : tabOk P tt = true) {t : TypeId} {f : Nat} {fs : List (TypeId × Nat)} (hk : (tinfo tt t).k = .st fs) (hs : (tinfo tt (fieldOf fs f).1).size ≠ 0) (h0 : (tinfo tt 0).size = 0) :
    ∃ (F : Array Field) (fd : Field), P.underlying t = some (.struct F) ∧ F[f]? = some fd ∧ fd.type = (fieldOf fs f).1 ∧ fd.offset = (fieldOf fs f).2 := by
  obtain ⟨F, hu, hF, _⟩ := tab_st hT hk
  have hf : f < fs.length := by
    rcases Nat.lt_or_ge f fs.length with h | h
    · exact h
    · rw [fieldOf_far h] at hs
      exact absurd h0 hs
  obtain ⟨fd, h1, h2, h3, _⟩ := fsOk_field hF (.inr hf) hf
  exact ⟨F, fd, hu, by simpa using h1, h2, h3⟩
theorem fieldAddr_ok (hT : tabOk P tt = true) (h0 : (tinfo tt 0).size = 0) {t : TypeId} {f : Nat} {x : Operand} {K : Option Prop → DV → Prop} (ho : o.op = .fieldAddr t x f) (hx : Has A os w a ρ x) (h : dFieldAddr tt (os.map (·.2)) t f (ρ x) K) : GivesSome P A os w a o K := by
  unfold Has at hx
  unfold dFieldAddr at h
  split at h
  · rename_i fs hk
    split at h
    · exact h.elim
    · rename_i hs
      obtain ⟨F, fd, hu, hF, ht, hof⟩ := field_lt hT hk hs h0
      have run : ∀ ad : Addr, a.eval x = .pointer (some ad) → (execOp a.eval o).run P w = .ok (.value (.pointer (some (ad.add (fieldOf fs f).2)))) w := by
        intro ad he
        have hne : ¬ ((tinfo tt (fieldOf fs f).1).size = 0) := hs
        simp only [execOp, ho, he, Instr.fieldAt, Sem.run_bind, run_underlying hu, Result.andThen_ok, hF, Instr.sureAddr, Sem.run_pure, fieldPlace, ht, run_sizeOf_tab hT hs, if_neg hne, hof]
      split at h
      · rename_i i off e
        rw [e] at hx
        obtain ⟨g, t', cs, hi, he⟩ := hx.lp_inv
        refine ⟨_, _, h, fun _ => ⟨_, run _ he, ?_⟩⟩
        rw [Addr.add_mk]
        exact .lp hi
      · rename_i i off e
        rw [e] at hx
        obtain ⟨g, t', cs, hi, he⟩ := hx.ap_inv
        refine ⟨_, _, h, fun _ => ⟨_, run _ he, ?_⟩⟩
        rw [Addr.add_mk]
        exact .ap hi
      · rename_i i k off e
        rw [e] at hx
        split at h
        · rename_i hr
          obtain ⟨_, _, _, _, hi⟩ := isRow_os hr
          obtain ⟨g, n, c, rfl, he⟩ := hx.rp_row hi
          refine ⟨_, _, h, fun _ => ⟨_, run _ he, ?_⟩⟩
          rw [Addr.add_mk, Nat.add_assoc]
          exact .rp hi
        · exact h.elim
      · rename_i cs e
        rw [e] at hx
        obtain ⟨ad, he, hA, hb, hc⟩ := ip_cells hx
        obtain ⟨_, h⟩ := dropK_elim h
        refine ⟨_, _, h, fun _ => ⟨_, run _ he, .imm (ip_mk (by rwa [Addr.block_add]) (by rwa [Addr.block_add]) (fun j d hd => ?_))⟩⟩
        rw [List.getElem?_drop] at hd
        rw [Addr.add_add]
        exact hc _ d hd
      · exact h.elim
  · exact h.elim

theorem shape_rep {t : TypeId} {vs : List Value} {ds : List DV} {off : Nat} {K : DV → Prop} (hl : vs.length = ds.length) (hone : ∀ v ∈ vs, v.oneCell' = true) (hp : ∀ (i : Nat) v d, vs[i]? = some v → ds[i]? = some d → RepV A os w v d)
    (h : dTake (tinfo tt t).agg (tinfo tt t).size (ds.drop off) K) (h1 : (tinfo tt t).agg = false → (tinfo tt t).size = 1) (hz : (tinfo tt t).size ≠ 0) : ∃ d, K d ∧ off + (tinfo tt t).size ≤ vs.length ∧ RepV A os w (shapeV (tinfo tt t).agg ((vs.drop off).take (tinfo tt t).size)) d := by
  unfold dTake at h
  split at h
  · rename_i hag
    obtain ⟨hle, h⟩ := takeK_elim h
    rw [List.length_drop] at hle
    refine ⟨_, h, by omega, ?_⟩
    rw [hag]
    refine .agg (by simp [hl]) (fun v hv => hone v (List.mem_of_mem_drop (List.mem_of_mem_take hv))) (fun i v d hv hd => ?_)
    rw [List.getElem?_take] at hv hd
    split at hv
    · rename_i hi
      rw [if_pos hi] at hd
      rw [List.getElem?_drop] at hv hd
      exact hp _ v d hv hd
    · cases hv
  · rename_i hag
    split at h
    · rename_i d r hdr
      have h := frc_iff.1 h
      have h1 := h1 hag
      have hd : ds[off]? = some d := by
        have : (ds.drop off)[0]? = some d := by rw [hdr]; rfl
        rwa [List.getElem?_drop, Nat.add_zero] at this
      have hlt := (List.getElem?_eq_some_iff.1 hd).1
      refine ⟨_, h, by omega, ?_⟩
      rw [hag, h1]
      have hv : off < vs.length := by omega
      rw [List.drop_eq_getElem_cons hv]
      exact hp off _ d (List.getElem?_eq_getElem hv) hd
    · exact h.elim

theorem field_ok (hT : tabOk P tt = true) (h0 : (tinfo tt 0).size = 0) {t : TypeId} {f : Nat} {x : Operand} {K : Option Prop → DV → Prop} (ho : o.op = .field t x f) (hx : Has A os w a ρ x) (h : dField tt t f (ρ x) K) : GivesSome P A os w a o K := by
  unfold Has at hx
  unfold dField at h
  split at h
  · rename_i fs hk
    split at h
    · exact h.elim
    · rename_i hs
      obtain ⟨F, fd, hu, hF, ht, hof⟩ := field_lt hT hk hs h0
      split at h
      · rename_i cs e
        rw [e] at hx
        obtain ⟨vs, he, hl, hone, hp⟩ := hx.agg_inv
        obtain ⟨_, h⟩ := dropK_elim h
        have hone' := (tab_entry hT (t := (fieldOf fs f).1) (.inl hs)).one
        obtain ⟨d, hK, hle, hr⟩ := shape_rep hl hone hp h hone' hs
        refine ⟨_, _, hK, fun _ => ⟨_, ?_, hr⟩⟩
        have := run_part_tab (w := w) hT hs vs (fieldOf fs f).2 hle hone'
        simp only [execOp, ho, he, Instr.field, Sem.run_bind, run_underlying hu, Result.andThen_ok, hF, asAgg, Sem.run_pure, ht, hof, this]
      · exact h.elim
  · exact h.elim

theorem natLit_eq {i : Operand} {m : Nat} (h : natLit i = some m) : ∃ k, a.eval i = .int k m := by
  unfold natLit at h
  split at h
  · cases h; exact ⟨_, rfl⟩
  · cases h
theorem indexAddr_ok (hT : tabOk P tt = true) (hO : ObjsOk A os B w) {t : TypeId} {x i : Operand} {K : Option Prop → DV → Prop} (ho : o.op = .indexAddr t x i) (hx : Has A os w a ρ x) (hi : Has A os w a ρ i) (h : dIndexAddr tt (os.map (·.2)) t i (ρ x) (ρ i) K) : GivesSome P A os w a o K := by
  unfold dIndexAddr at h
  split at h
  · rename_i e ik ix hk ei
    have hi := hi.v ei
    have hu := tab_slc hT hk
    unfold Has at hx
    split at h
    · exact h.elim
    · rename_i hs
      have run : ∀ (ad : Addr) (n c k : Nat), a.eval x = .slice (some ad) n c → ix = k → k < n → (execOp a.eval o).run P w = .ok (.value (.pointer (some (ad.add (k * (tinfo tt e).size))))) w := by
        intro ad n c k he hik hkn
        subst hik
        have hb : (0 : Int) ≤ k ∧ (k : Int) < n := by omega
        simp only [execOp, ho, he, hi, Instr.indexAt, asIntOf, Sem.run_bind, Sem.run_pure, Result.andThen_ok, run_underlying hu, if_pos hb, run_sizeOf_tab hT hs, Int.toNat_natCast]
      unfold dIndexSlc at h
      split at h
      · rename_i sz es f ex
        split at h
        · rename_i hz
          have hz := Nat.eq_of_beq_eq_true hz
          obtain ⟨k, ed, hK⟩ := h
          refine ⟨_, _, hK, fun hc => ?_⟩
          obtain ⟨hik, hke⟩ := Holds.some_iff.1 hc
          rw [ex] at hx
          obtain ⟨ad, n, c, he, _, hkn, _, hA, hb, hcell⟩ := lst_elem hx.lst_inv hke
          refine ⟨_, run ad n c k he hik hkn, .imm (ip_mk (by rwa [Addr.block_add]) (by rwa [Addr.block_add]) (fun j d hd => ?_))⟩
          rw [Addr.add_add, ← hz]
          exact hcell j d hd
        · exact h.elim
      · rename_i j ex
        split at h
        · rename_i e2 sz es hl
          split at h
          · rename_i hz
            have hz := Nat.eq_of_beq_eq_true hz
            obtain ⟨k, hK⟩ := h
            refine ⟨_, _, hK, fun hc => ?_⟩
            obtain ⟨hik, hke⟩ := Holds.some_iff.1 hc
            rw [ex] at hx
            obtain ⟨x', ho'⟩ := lget_os hl (by simp)
            have hxe := hx.own_row ho'
            subst hxe
            obtain ⟨_, xs, hown, _⟩ := hO _ _ _ ho'
            rcases hown.2 with ⟨_, hn⟩ | ⟨g, cap, cur, hv, _⟩
            · omega
            · rw [hv] at ho'
              refine ⟨_, run ⟨g, 0, none⟩ es.length cap k hv hik hke, ?_⟩
              rw [Addr.add_mk, ← hz]
              have := RepV.rp (A := A) (w := w) (k := k) (off := 0) ho'
              simpa using this
          · exact h.elim
        · exact h.elim
      · exact h.elim
  · rename_i n e ik ix hk ei
    have hi' := hi
    have hi := hi.v ei
    have hu := tab_arr hT hk
    unfold Has at hx
    split at h
    · exact h.elim
    · rename_i hs
      have run : ∀ (ad : Addr) (k : Nat), a.eval x = .pointer (some ad) → ix = k → k < n → (execOp a.eval o).run P w = .ok (.value (.pointer (some (ad.add (k * (tinfo tt e).size))))) w := by
        intro ad k he hik hkn
        subst hik
        have hb : (0 : Int) ≤ k ∧ (k : Int) < n := by omega
        simp only [execOp, ho, he, hi, Instr.indexAt, asIntOf, Sem.run_bind, Sem.run_pure, Result.andThen_ok, run_underlying hu, Instr.sureAddr, if_pos hb, run_sizeOf_tab hT hs, Int.toNat_natCast]
      unfold dIndexArr at h
      split at h
      · rename_i m hm
        obtain ⟨k', hk'⟩ := natLit_eq (a := a) hm
        rw [hi] at hk'
        have hix : ix = m := by injection hk'
        split at h
        · rename_i j off ex
          rw [ex] at hx
          obtain ⟨g, t', cs, hos, he⟩ := hx.lp_inv
          refine ⟨_, _, h, fun hc => ⟨_, run _ m he hix (Holds.some_iff.1 hc), ?_⟩⟩
          rw [Addr.add_mk]
          exact .lp hos
        · rename_i j off ex
          rw [ex] at hx
          obtain ⟨g, t', cs, hos, he⟩ := hx.ap_inv
          refine ⟨_, _, h, fun hc => ⟨_, run _ m he hix (Holds.some_iff.1 hc), ?_⟩⟩
          rw [Addr.add_mk]
          exact .ap hos
        · exact h.elim
      · split at h
        · rename_i j off ex
          rw [ex] at hx
          obtain ⟨g, t', cs, hos, he⟩ := hx.lp_inv
          obtain ⟨k, h⟩ := h
          refine ⟨_, _, h, fun hc => ⟨_, run _ k he (Holds.some_iff.1 hc).1 (Holds.some_iff.1 hc).2, ?_⟩⟩
          rw [Addr.add_mk]
          exact .ap hos
        · rename_i j off ex
          rw [ex] at hx
          obtain ⟨g, t', cs, hos, he⟩ := hx.ap_inv
          obtain ⟨k, h⟩ := h
          refine ⟨_, _, h, fun hc => ⟨_, run _ k he (Holds.some_iff.1 hc).1 (Holds.some_iff.1 hc).2, ?_⟩⟩
          rw [Addr.add_mk]
          exact .ap hos
        · exact h.elim
  · exact h.elim

theorem index_ok (hT : tabOk P tt = true) {t : TypeId} {x i : Operand} {K : Option Prop → DV → Prop} (ho : o.op = .index t x i) (hx : Has A os w a ρ x) (hi : Has A os w a ρ i) (h : dIndex tt t (ρ x) (ρ i) K) : GivesSome P A os w a o K := by
  unfold dIndex at h
  split at h
  · rename_i ik ix ei
    have hi := hi.v ei
    split at h
    · rename_i s hk ex
      have hx := hx.v ex
      obtain ⟨k, hK⟩ := h
      refine ⟨_, _, hK, fun hc => ⟨_, ?_, .imm (.v rfl)⟩⟩
      obtain ⟨rfl, hlt⟩ := Holds.some_iff.1 hc
      have h1 : s[k]? = some s[k] := ByteArray.getElem?_lt' s k hlt
      have h2 : s.data.getD k 0 = s[k] := by
        have : k < s.data.size := hlt
        simp only [Array.getD, dif_pos this]
        rfl
      simp only [execOp, ho, hx, hi, Instr.index, asIntOf, Sem.run_bind, Sem.run_pure, Result.andThen_ok, run_underlying (tab_str hT hk), Int.natCast_nonneg, if_true, Int.toNat_natCast, h1, h2]
    · rename_i n e cs hk ex
      split at h
      · rename_i hag hsz
        have hsz := Nat.eq_of_beq_eq_true hsz
        obtain ⟨k, d, h⟩ := h
        have hK := frc_iff.1 h
        refine ⟨_, _, hK, fun hc => ?_⟩
        obtain ⟨rfl, hlt, hd⟩ := Holds.some_iff.1 hc
        unfold Has at hx
        rw [ex] at hx
        obtain ⟨vs, he, hl, hone, hp⟩ := hx.agg_inv
        have hkl := (List.getElem?_eq_some_iff.1 hd).1
        have hkv : k < vs.length := by omega
        refine ⟨vs[k], ?_, hp k _ d (List.getElem?_eq_getElem hkv) hd⟩
        have hb : (0 : Int) ≤ k ∧ (k : Int) < n := by omega
        have hp := run_part_tab (P := P) (w := w) hT (t := e) (by omega) vs k (by omega) (fun _ => hsz)
        rw [hag, hsz] at hp
        rw [List.drop_eq_getElem_cons hkv] at hp
        simp only [execOp, ho, he, hi, Instr.index, asIntOf, Sem.run_bind, Sem.run_pure, Result.andThen_ok, run_underlying (tab_arr hT hk), if_pos hb, run_sizeOf_tab hT (t := e) (by omega), hsz, Int.toNat_natCast, Nat.mul_one, hp]
        rfl
      · exact h.elim
    · exact h.elim
  · exact h.elim

theorem extract_ok {x : Operand} {n : Nat} {K : Option Prop → DV → Prop} (ho : o.op = .extract x n) (hx : Has A os w a ρ x) (h : dExtract n (ρ x) K) : GivesSome P A os w a o K := by
  unfold Has at hx
  unfold dExtract at h
  split at h
  · rename_i ds e
    rw [e] at hx
    obtain ⟨vs, hxe, hl, _, hp⟩ := hx.tup_inv
    obtain ⟨_, h⟩ := dropK_elim h
    split at h
    · rename_i d r hdr
      have hK := frc_iff.1 h
      refine ⟨_, _, hK, fun _ => ?_⟩
      have hd : ds[n]? = some d := by
        have : (ds.drop n)[0]? = some d := by rw [hdr]; rfl
        rwa [List.getElem?_drop, Nat.add_zero] at this
      have hlt := (List.getElem?_eq_some_iff.1 hd).1
      have hv : n < vs.length := by omega
      refine ⟨vs[n], ?_, hp n _ d (List.getElem?_eq_getElem hv) hd⟩
      simp [execOp, ho, hxe, Instr.extract, hv]
    · exact h.elim
  · exact h.elim
end
end Go.Lift

namespace Go.Lift
open Go
section
variable {P : Program} {tt : TT} {A : Nat → Prop} {os : Objs} {B : Home} {w : World} {a : Act} {o : Oper} {ρ : Operand → DV}

theorem bnd_eval {lo : Option Operand} {n other : Nat} (hl : ∀ x, lo = some x → Has A os w a ρ x) (h : bndIs ρ lo n other) : (lo = none ∧ n = other) ∨ ∃ x k, lo = some x ∧ a.eval x = .int k n := by
  cases lo with
  | none => exact .inl ⟨rfl, h⟩
  | some x =>
    obtain ⟨k, e⟩ := h
    exact .inr ⟨x, k, rfl, (hl x rfl).v e⟩
theorem lst_part {x : Value} {sz : Nat} {es : List (List DV)} {f : Bool} {l h : Nat} (hi : Imm A w x (.lst sz es f)) (hlh : l ≤ h) (hhn : h ≤ es.length) :
    ∃ (ad : Option Addr) (n c : Nat), x = .slice ad n c ∧ n = es.length ∧ h ≤ c ∧ (f = true → c = n) ∧
      (∀ c', h ≤ c' → c' ≤ c → ∀ f', (f' = true → c' = h) → Imm A w (.slice (if c' = l then ad else ad.map (·.add (l * sz))) (h - l) (c' - l)) (.lst sz ((es.take h).drop l) f')) := by
  cases hi with
  | @lst ad n c _ _ _ xs hn hc hm hf hsz hA hb hone hcell hx =>
    refine ⟨some ad, n, c, rfl, hn.symm, by omega, hf, fun c' h1 h2 f' hf' => ?_⟩
    have key : ∀ ad' : Addr, ad'.block = ad.block → (∀ j, j < (h - l) * sz → ad'.add j = (ad.add (l * sz)).add j) → Imm A w (.slice (some ad') (h - l) (c' - l)) (.lst sz ((es.take h).drop l) f') := by
      intro ad' hbl had
      refine .lst (fun i j => xs (l + i) j) (by simp; omega) (by omega) (by omega) (fun e => by have := hf' e; omega) (fun e he => hsz e (List.mem_of_mem_take (List.mem_of_mem_drop he))) (fun hne => by rw [hbl]; exact hA (fun e0 => hne (by rw [e0]; simp))) (fun hne => by rw [hbl]; exact hb (fun e0 => hne (by rw [e0]; simp))) (fun i j => hone _ _) (fun i j e d he hd => ?_) (fun i j e d he hd => ?_)
      · rw [List.getElem?_drop, List.getElem?_take] at he
        split at he
        · rename_i hlt
          have hlen := hsz e (List.mem_of_getElem? he)
          have hj := (List.getElem?_eq_some_iff.1 hd).1
          have := hcell (l + i) j e d he hd
          rw [had _ (by
            have h3 : i + 1 ≤ h - l := by omega
            have h4 : (i + 1) * sz ≤ (h - l) * sz := Nat.mul_le_mul_right _ h3
            rw [Nat.add_mul] at h4
            omega), Addr.add_add]
          rw [show l * sz + (i * sz + j) = (l + i) * sz + j by rw [Nat.add_mul]; omega]
          exact this
        · cases he
      · rw [List.getElem?_drop, List.getElem?_take] at he
        split at he
        · exact hx (l + i) j e d he hd
        · cases he
    split
    · rename_i hcl
      exact key ad rfl (fun j hj => by
        have : h - l = 0 := by omega
        rw [this] at hj
        omega)
    · exact key (ad.add (l * sz)) (Addr.block_add _ _) (fun j _ => rfl)
  | nil =>
    simp at hhn
    subst hhn
    obtain rfl : l = 0 := by omega
    refine ⟨none, 0, 0, rfl, rfl, by omega, fun _ => rfl, fun c' h1 h2 f' hf' => ?_⟩
    obtain rfl : c' = 0 := by omega
    simpa using Imm.nil

theorem run_bound {l y : Nat} (h : l ≤ y) (k : IntKind) (code : BoundsCode) : (Instr.sliceBound (.int k (l : Int)) y code).run P w = .ok l w := by
  have := run_sliceBound (P := P) w k l y code (by omega) (by omega)
  simpa using this
theorem slice_ok (hT : tabOk P tt = true) {t : TypeId} {x : Operand} {lo hi mx : Option Operand} {K : Option Prop → DV → Prop} (ho : o.op = .slice t x lo hi mx) (hx : Has A os w a ρ x)
    (hlo : ∀ y, lo = some y → Has A os w a ρ y) (hhi : ∀ y, hi = some y → Has A os w a ρ y) (hmx : ∀ y, mx = some y → Has A os w a ρ y) (h : dSlice tt t ρ (ρ x) lo hi mx K) : GivesSome P A os w a o K := by
  unfold dSlice at h
  split at h
  · rename_i s hk ex
    have hxv := hx.v ex
    have hu := tab_str hT hk
    split at h
    · obtain ⟨l, hh, hK⟩ := h
      refine ⟨_, _, hK, fun hc => ⟨_, ?_, .imm (.v rfl)⟩⟩
      obtain ⟨b1, b2, h1, h2⟩ := Holds.some_iff.1 hc
      have e1 := bnd_eval hlo b1
      have e2 := bnd_eval hhi b2
      have r1 := run_bound (P := P) (w := w) h1
      have r2 := run_bound (P := P) (w := w) h2
      rcases e1 with ⟨rfl, rfl⟩ | ⟨x1, k1, rfl, e1⟩ <;> rcases e2 with ⟨rfl, rfl⟩ | ⟨x2, k2, rfl, e2⟩ <;>
        first
          | simp only [execOp, ho, hxv, Option.map_some, Option.map_none, e1, e2, Instr.sliceAt, Sem.run_bind, run_underlying hu, Result.andThen_ok, Instr.slice, Instr.sliceBounds, Option.isSome_none, Bool.false_eq_true, if_false, Sem.run_pure, r1, r2]
          | simp only [execOp, ho, hxv, Option.map_some, Option.map_none, e1, Instr.sliceAt, Sem.run_bind, run_underlying hu, Result.andThen_ok, Instr.slice, Instr.sliceBounds, Option.isSome_none, Bool.false_eq_true, if_false, Sem.run_pure, r1, r2]
          | simp only [execOp, ho, hxv, Option.map_some, Option.map_none, e2, Instr.sliceAt, Sem.run_bind, run_underlying hu, Result.andThen_ok, Instr.slice, Instr.sliceBounds, Option.isSome_none, Bool.false_eq_true, if_false, Sem.run_pure, r1, r2]
          | simp only [execOp, ho, hxv, Option.map_some, Option.map_none, Instr.sliceAt, Sem.run_bind, run_underlying hu, Result.andThen_ok, Instr.slice, Instr.sliceBounds, Option.isSome_none, Bool.false_eq_true, if_false, Sem.run_pure, r1, r2]
    · exact h.elim
  · rename_i e hk ex
    have hu := tab_slc hT hk
    unfold Has at hx
    rw [ex] at hx
    split at h
    · exact h.elim
    · exact h.elim
    · rename_i hs
      refine ⟨_, _, h, fun hc => ?_⟩
      obtain ⟨b1, b2⟩ := Holds.some_iff.1 hc
      have e1 := bnd_eval hlo b1
      have e2 := bnd_eval hhi b2
      have he : a.eval x = .slice none 0 0 := hx.nl_inv
      have r1 := run_bound (P := P) (w := w) (Nat.le_refl 0)
      refine ⟨.slice none 0 0, ?_, .imm .nl⟩
      rcases e1 with ⟨rfl, _⟩ | ⟨x1, k1, rfl, e1⟩ <;> rcases e2 with ⟨rfl, _⟩ | ⟨x2, k2, rfl, e2⟩ <;> first
        | (simp [execOp, ho, he, Instr.sliceAt, run_underlying hu, Instr.slice, Instr.sliceBounds, run_sizeOf_tab hT hs]; done)
        | (simp [execOp, ho, he, e1, Instr.sliceAt, run_underlying hu, Instr.slice, Instr.sliceBounds, run_sizeOf_tab hT hs, Instr.sliceBound, asIntOf]; done)
        | (simp [execOp, ho, he, e2, Instr.sliceAt, run_underlying hu, Instr.slice, Instr.sliceBounds, run_sizeOf_tab hT hs, Instr.sliceBound, asIntOf]; done)
        | (simp [execOp, ho, he, e1, e2, Instr.sliceAt, run_underlying hu, Instr.slice, Instr.sliceBounds, run_sizeOf_tab hT hs, Instr.sliceBound, asIntOf]; done)
  · rename_i e sz es f hk ex
    have hu := tab_slc hT hk
    unfold Has at hx
    rw [ex] at hx
    have him := hx.lst_inv
    split at h
    · exact h.elim
    · exact h.elim
    · rename_i hb hs
      have hz := Nat.eq_of_beq_eq_true hb
      split at h
      · obtain ⟨l, hK⟩ := h
        refine ⟨_, _, hK, fun hc => ?_⟩
        obtain ⟨b1, h1⟩ := Holds.some_iff.1 hc
        have e1 := bnd_eval hlo b1
        obtain ⟨ad, n, c, he, hn, hle, hf, hp⟩ := lst_part (l := l) (h := es.length) him h1 (Nat.le_refl _)
        have hp := hp c hle (Nat.le_refl _) f (fun hh => by rw [hf hh, hn])
        rw [List.take_length, hz] at hp
        refine ⟨_, ?_, .imm (by rw [hz]; exact hp)⟩
        have r1 := run_bound (P := P) (w := w) h1
        rcases e1 with ⟨rfl, rfl⟩ | ⟨x1, k1, rfl, e1⟩ <;>
          first
            | simp only [execOp, ho, he, hn, Option.map_some, Option.map_none, e1, Instr.sliceAt, Sem.run_bind, run_underlying hu, Result.andThen_ok, Instr.slice, Instr.sliceBounds, Sem.run_pure, r1, run_sizeOf_tab hT hs]
            | simp only [execOp, ho, he, hn, Option.map_some, Option.map_none, Instr.sliceAt, Sem.run_bind, run_underlying hu, Result.andThen_ok, Instr.slice, Instr.sliceBounds, Sem.run_pure, r1, run_sizeOf_tab hT hs]
      · rename_i ho1
        obtain ⟨l, hh, hK⟩ := h
        refine ⟨_, _, hK, fun hc => ?_⟩
        obtain ⟨b1, b2, h1, h2⟩ := Holds.some_iff.1 hc
        have e1 := bnd_eval hlo b1
        have e2 := bnd_eval hhi b2
        obtain ⟨ad, n, c, he, hn, hle, hf, hp⟩ := lst_part (l := l) (h := hh) him h1 h2
        have hp := hp c hle (Nat.le_refl _) false (by simp)
        rw [hz] at hp
        refine ⟨_, ?_, .imm (by rw [hz]; exact hp)⟩
        have r1 := run_bound (P := P) (w := w) h1
        have r2 := run_bound (P := P) (w := w) hle
        rcases e2 with ⟨e2, _⟩ | ⟨x2, k2, e2', e2⟩
        · cases e2
        · cases e2'
          rcases e1 with ⟨rfl, rfl⟩ | ⟨x1, k1, rfl, e1⟩ <;>
            first
              | simp only [execOp, ho, he, hn, Option.map_some, Option.map_none, e1, e2, Instr.sliceAt, Sem.run_bind, run_underlying hu, Result.andThen_ok, Instr.slice, Instr.sliceBounds, Sem.run_pure, r1, r2, run_sizeOf_tab hT hs]
              | simp only [execOp, ho, he, hn, Option.map_some, Option.map_none, e2, Instr.sliceAt, Sem.run_bind, run_underlying hu, Result.andThen_ok, Instr.slice, Instr.sliceBounds, Sem.run_pure, r1, r2, run_sizeOf_tab hT hs]
      · rename_i ho1 mo1
        obtain ⟨l, hh, hK⟩ := h
        refine ⟨_, _, hK, fun hc => ?_⟩
        obtain ⟨b1, b2, b3, h1, h2⟩ := Holds.some_iff.1 hc
        have e1 := bnd_eval hlo b1
        have e2 := bnd_eval hhi b2
        have e3 := bnd_eval hmx b3
        obtain ⟨ad, n, c, he, hn, hle, hf, hp⟩ := lst_part (l := l) (h := hh) him h1 h2
        have hp := hp hh (Nat.le_refl _) hle true (fun _ => rfl)
        rw [hz] at hp
        refine ⟨_, ?_, .imm (by rw [hz]; exact hp)⟩
        have r1 := run_bound (P := P) (w := w) h1
        have r2 := run_bound (P := P) (w := w) hle
        have r3 := run_bound (P := P) (w := w) (Nat.le_refl hh)
        rcases e2 with ⟨e2, _⟩ | ⟨x2, k2, e2', e2⟩
        · cases e2
        · cases e2'
          rcases e3 with ⟨e3, _⟩ | ⟨x3, k3, e3', e3⟩
          · cases e3
          · cases e3'
            rcases e1 with ⟨rfl, rfl⟩ | ⟨x1, k1, rfl, e1⟩ <;>
              first
                | simp only [execOp, ho, he, hn, Option.map_some, Option.map_none, e1, e2, e3, Instr.sliceAt, Sem.run_bind, run_underlying hu, Result.andThen_ok, Instr.slice, Instr.sliceBounds, Sem.run_pure, r1, r2, r3, run_sizeOf_tab hT hs]
                | simp only [execOp, ho, he, hn, Option.map_some, Option.map_none, e2, e3, Instr.sliceAt, Sem.run_bind, run_underlying hu, Result.andThen_ok, Instr.slice, Instr.sliceBounds, Sem.run_pure, r1, r2, r3, run_sizeOf_tab hT hs]
      · exact h.elim
  · exact h.elim
end
end Go.Lift

namespace Go.Lift
open Go
section
variable {P : Program} {tt : TT} {A : Nat → Prop} {os : Objs} {B : Home} {w : World} {a : Act} {o : Oper} {ρ : Operand → DV}

theorem len_ok (hT : tabOk P tt = true) (hO : ObjsOk A os B w) {t : TypeId} {x : Operand} {args : Array Operand} {ats : Array TypeId} {K : Option Prop → DV → Prop} (ho : o.op = .call { callee := .builtin .len, args := args, argTypes := ats })
    (ha : args.toList = [x]) (hat : ats.toList = [t]) (hx : Has A os w a ρ x) (h : dLen tt (os.map (·.2)) t (ρ x) K) : GivesSome P A os w a o K := by
  obtain rfl : args = #[x] := by cases args; simp at ha; simp [ha]
  obtain rfl : ats = #[t] := by cases ats; simp at hat; simp [hat]
  have fin : ∀ {n : Nat}, (Builtin.len_ #[t] o.type #[a.eval x]).run P w = .ok (.int .i64 n) w → K none (.v (.int .i64 n)) → GivesSome P A os w a o K := by
    intro n hr hK
    refine ⟨_, _, hK, fun _ => ⟨_, ?_, .imm (.v rfl)⟩⟩
    simp only [execOp, ho, resolve, invoke, builtin, Sem.run_bind, Sem.run_pure, Result.andThen_ok, List.map_toArray, List.map_cons, List.map_nil, hr]
  unfold dLen at h
  split at h
  · rename_i e hk
    have hu := tab_slc hT hk
    have run : ∀ ad n c, (Builtin.len_ #[t] o.type #[.slice ad n c]).run P w = .ok (.int .i64 n) w := by
      intro ad n c
      simp [Builtin.len_, run_underlying hu, goInt]
    unfold Has at hx
    split at h
    · rename_i sz es f ex
      rw [ex] at hx
      have hi := hx.lst_inv
      generalize hy : a.eval x = y at hi
      cases hi with
      | lst xs hn => exact fin (by rw [hy, run, hn]) h
      | nil => exact fin (n := 0) (by rw [hy, run]) h
    · rename_i ex
      rw [ex] at hx
      exact fin (n := 0) (by rw [hx.nl_inv, run]) h
    · rename_i j ex
      split at h
      · rename_i e2 sz es hl
        rw [ex] at hx
        obtain ⟨x', ho'⟩ := lget_os hl (by simp)
        have hxe := hx.own_row ho'
        subst hxe
        obtain ⟨_, xs, hown, _⟩ := hO _ _ _ ho'
        rcases hown.2 with ⟨hv, hn⟩ | ⟨g, cap, cur, hv, _⟩
        · exact fin (by rw [hv, run]; simp [hn]) h
        · exact fin (by rw [hv, run]) h
      · exact h.elim
    · exact h.elim
  · rename_i hk
    have hu := tab_str hT hk
    split at h
    · rename_i s ex
      exact fin (by rw [hx.v ex]; simp [Builtin.len_, run_underlying hu, goInt]) h
    · exact h.elim
  · rename_i n e hk
    have hu := tab_arr hT hk
    exact fin (by simp [Builtin.len_, run_underlying hu, goInt]) h
  · exact h.elim

theorem min_ok {x y : Operand} {args : Array Operand} {ats : Array TypeId} {K : Option Prop → DV → Prop} (ho : o.op = .call { callee := .builtin .min, args := args, argTypes := ats })
    (ha : args.toList = [x, y]) (hx : Has A os w a ρ x) (hy : Has A os w a ρ y) (h : dMin (ρ x) (ρ y) K) : GivesSome P A os w a o K := by
  obtain rfl : args = #[x, y] := by cases args; simp at ha; simp [ha]
  unfold dMin at h
  split at h
  · rename_i k p k' q e1 e2
    refine ⟨_, _, h, fun _ => ⟨_, ?_, .imm (.v rfl)⟩⟩
    simp only [execOp, ho, resolve, invoke, builtin, Sem.run_bind, Sem.run_pure, Result.andThen_ok, List.map_toArray, List.map_cons, List.map_nil, hx.v e1, hy.v e2, run_min_int2]
  · exact h.elim
theorem max_ok {x y : Operand} {args : Array Operand} {ats : Array TypeId} {K : Option Prop → DV → Prop} (ho : o.op = .call { callee := .builtin .max, args := args, argTypes := ats })
    (ha : args.toList = [x, y]) (hx : Has A os w a ρ x) (hy : Has A os w a ρ y) (h : dMax (ρ x) (ρ y) K) : GivesSome P A os w a o K := by
  obtain rfl : args = #[x, y] := by cases args; simp at ha; simp [ha]
  unfold dMax at h
  split at h
  · rename_i k p k' q e1 e2
    refine ⟨_, _, h, fun _ => ⟨_, ?_, .imm (.v rfl)⟩⟩
    simp only [execOp, ho, resolve, invoke, builtin, Sem.run_bind, Sem.run_pure, Result.andThen_ok, List.map_toArray, List.map_cons, List.map_nil, hx.v e1, hy.v e2, run_max_int2, GT.gt]
  · exact h.elim

theorem evL_elim : ∀ {l : List Operand} {K : List DV → Prop}, evL ρ l K → K (l.map ρ)
  | [], K, h => h
  | x :: r, K, h => by
    have := evL_elim (frc_iff.1 h)
    simpa using this
theorem RepV.plain {d : DV} {x : Value} (h : RepV A os w x d) (hp : isPlain0 d = true) : x.oneCell' = true ∧ Imm A w x d := by
  cases d <;> simp only [isPlain0, List.all_eq_true, Bool.false_eq_true] at hp
  all_goals try exact hp.elim
  · obtain ⟨rfl, h1⟩ := h.v_inv; exact ⟨h1, .v h1⟩
  · have h' := h.lst_inv
    refine ⟨?_, h'⟩
    cases h' <;> rfl
  · have hp0 := hp
    clear hp
    obtain ⟨vs, rfl, hl, hp⟩ := h.fn_inv
    refine ⟨rfl, .fn hl (fun i v d hv hd => ?_)⟩
    have hc := hp i v d hv hd
    have hpc := hp0 d (List.mem_of_getElem? hd)
    cases d <;> simp [plainCap] at hpc
    · obtain ⟨rfl, h1⟩ := hc.v_inv; exact .v h1
    · exact hc.lst_inv
    · exact hc.ip_inv
    · rename_i g caps
      have : caps = [] := by cases caps <;> simp_all [plainCap]
      subst this
      obtain ⟨us, rfl, hl2, _⟩ := hc.fn_inv
      have : us = [] := List.eq_nil_of_length_eq_zero (by simpa using hl2)
      subst this
      exact .fn (vs := []) rfl (by simp)
    · rw [hc.nl_inv]; exact .nl
  · rw [h.nl_inv]; exact ⟨rfl, .nl⟩
theorem plainAll_mem : ∀ {l : List DV}, plainAll l = true → ∀ d ∈ l, isPlain0 d = true
  | [], _, d, hd => by simp at hd
  | x :: r, h, d, hd => by
    unfold plainAll at h
    split at h
    · rename_i hx
      rcases List.mem_cons.1 hd with rfl | hd
      · exact hx
      · exact plainAll_mem h d hd
    · exact absurd h (by simp)
theorem makeFunc_ok {f : Fn} {first caps : Array Operand} {K : Option Prop → DV → Prop} (ho : o.op = .makeFunc f first caps) (hf : first.toList = [])
    (hx : ∀ x ∈ caps.toList, Has A os w a ρ x) (h : evL ρ caps.toList fun l => match l.all isCap with
      | true => K none (.fn f l)
      | false => False) : GivesSome P A os w a o K := by
  obtain rfl : first = #[] := by cases first; simp at hf; simp [hf]
  have h := evL_elim h
  split at h
  · rename_i hpl
    have hm := List.all_eq_true.1 hpl
    refine ⟨_, _, h, fun _ => ⟨.func f #[] (caps.map a.eval), ?_, ?_⟩⟩
    · simp [execOp, ho, Instr.makeFunc]
    · have : caps.map a.eval = (caps.toList.map a.eval).toArray := by cases caps; simp
      rw [this]
      refine .fn (by simp) hm (fun i v d hv hd => ?_)
      rw [List.getElem?_map] at hv hd
      cases hc : caps.toList[i]? with
      | none => rw [hc] at hv; cases hv
      | some x =>
        rw [hc] at hv hd
        simp at hv hd
        subst hv hd
        exact hx x (List.mem_of_getElem? hc)
  · exact h.elim

theorem get_fold : ∀ (vs : List Value) (k off : Nat) (cells : Array Value) (i : Nat), off + k + vs.length ≤ cells.size →
    ((vs.zipIdx k).foldl (fun (cs : Array Value) (p : Value × Nat) => cs.setIfInBounds (off + p.2) p.1) cells)[i]? = (if off + k ≤ i ∧ i < off + k + vs.length then vs[i - (off + k)]? else cells[i]?) ∧
    ((vs.zipIdx k).foldl (fun (cs : Array Value) (p : Value × Nat) => cs.setIfInBounds (off + p.2) p.1) cells).size = cells.size
  | [], k, off, cells, i, _ => by
    refine ⟨?_, by simp⟩
    rw [if_neg (by simp only [List.length_nil]; omega)]
    simp
  | v :: r, k, off, cells, i, h => by
    simp only [List.length_cons] at h
    obtain ⟨h1, h2⟩ := get_fold r (k + 1) off (cells.setIfInBounds (off + k) v) i (by simp; omega)
    simp only [List.zipIdx_cons, List.foldl_cons]
    refine ⟨h1.trans ?_, by simpa using h2⟩
    by_cases c1 : off + (k + 1) ≤ i ∧ i < off + (k + 1) + r.length
    · rw [if_pos c1, if_pos (by simp; omega)]
      rw [show i - (off + k) = (i - (off + (k + 1))) + 1 by omega]
      simp
    · rw [if_neg c1]
      by_cases c2 : i = off + k
      · subst c2
        rw [if_pos (by simp)]
        simp [Array.getElem?_setIfInBounds]
        omega
      · rw [if_neg (by simp; omega), Array.getElem?_setIfInBounds_ne (by omega)]

structure CellsRep (A : Nat → Prop) (os : Objs) (w : World) (cells : Array Value) (cs : List DV) : Prop where
  size : cells.size = cs.length
  one : ∀ v ∈ cells.toList, v.oneCell' = true
  rep : ∀ (i : Nat) v d, cells[i]? = some v → cs[i]? = some d → RepV A os w v d
theorem build_loop {place : Nat → Nat × Nat} {pl : Nat → Option (Nat × Nat)} (hpl : ∀ i, (place i).2 ≠ 0 → pl i = some (place i)) {K : List DV → Prop} :
    ∀ (parts : List (Nat × Operand)) (cs : List DV) (cells : Array Value), CellsRep A os w cells cs → (∀ p ∈ parts, Has A os w a ρ p.2) → buildK ρ place parts cs K →
      ∃ cells' cs', K cs' ∧ Instr.fill pl cells (parts.map fun p => (p.1, a.eval p.2)) = some cells' ∧ CellsRep A os w cells' cs'
  | [], cs, cells, hr, _, h => ⟨cells, cs, h, by simp [Instr.fill], hr⟩
  | (i, x) :: r, cs, cells, hr, hx, h => by
    have hxx := hx (i, x) (by simp)
    have h := frc_iff.1 h
    unfold Has at hxx
    have key : ∀ (d : DV), ρ x = d → (∀ b d', d ≠ .wh b d') → (∀ l, d ≠ .tup l) → d ≠ .junk →
        (match Nat.beq (dcells d).length (place i).2 && Nat.ble ((place i).1 + (dcells d).length) cs.length && Nat.blt 0 (place i).2 with
          | true => forceC (dsplice cs (place i).1 (dcells d)) fun cs' => buildK ρ place r cs' K
          | false => False) → ∃ cells' cs', K cs' ∧ Instr.fill pl cells (((i, x) :: r).map fun p => (p.1, a.eval p.2)) = some cells' ∧ CellsRep A os w cells' cs' := by
      intro d e h1 h2 h3 hm
      split at hm
      · rename_i hb
        have hm := forceC_iff.1 hm
        simp only [Bool.and_eq_true] at hb
        obtain ⟨⟨b1, b2⟩, b3⟩ := hb
        have b1 := Nat.eq_of_beq_eq_true b1
        have b2 := Nat.le_of_ble_eq_true b2
        have b3 : 0 < (place i).2 := Nat.le_of_ble_eq_true b3
        rw [e] at hxx
        obtain ⟨hl, hone, hp⟩ := hxx.cells h1 h2 h3
        have hsz : (a.eval x).cells.size = (place i).2 := by rw [← b1, ← hl]; simp
        have hfit : (place i).1 + 0 + (a.eval x).cells.toList.length ≤ cells.size := by
          rw [hr.size]
          simp only [Array.length_toList] at hl ⊢
          omega
        have hf : ∀ j, ((a.eval x).cells.zipIdx.foldl (fun (cs : Array Value) (p : Value × Nat) => cs.setIfInBounds ((place i).1 + p.2) p.1) cells)[j]? = (if (place i).1 ≤ j ∧ j < (place i).1 + (a.eval x).cells.toList.length then (a.eval x).cells.toList[j - (place i).1]? else cells[j]?) := by
          intro j
          have := (get_fold (a.eval x).cells.toList 0 (place i).1 cells j hfit).1
          simp only [Nat.add_zero] at this
          rw [← this]
          rw [← Array.foldl_toList]
          simp
        have hsf : ((a.eval x).cells.zipIdx.foldl (fun (cs : Array Value) (p : Value × Nat) => cs.setIfInBounds ((place i).1 + p.2) p.1) cells).size = cells.size := by
          have := (get_fold (a.eval x).cells.toList 0 (place i).1 cells 0 hfit).2
          rw [← this]
          rw [← Array.foldl_toList]
          simp
        have hlc : (a.eval x).cells.toList.length = (dcells d).length := hl
        have hr' : CellsRep A os w ((a.eval x).cells.zipIdx.foldl (fun (cs : Array Value) (p : Value × Nat) => cs.setIfInBounds ((place i).1 + p.2) p.1) cells) (dsplice cs (place i).1 (dcells d)) := by
          refine ⟨by rw [hsf, length_dsplice, hr.size], fun v hv => ?_, fun j v d' hv hd => ?_⟩
          · obtain ⟨j, hj, rfl⟩ := List.getElem_of_mem hv
            have : (((a.eval x).cells.zipIdx.foldl (fun (cs : Array Value) (p : Value × Nat) => cs.setIfInBounds ((place i).1 + p.2) p.1) cells))[j]? = some (((a.eval x).cells.zipIdx.foldl (fun (cs : Array Value) (p : Value × Nat) => cs.setIfInBounds ((place i).1 + p.2) p.1) cells).toList[j]) := by
              rw [← Array.getElem?_toList]; exact List.getElem?_eq_getElem hj
            rw [hf j] at this
            split at this
            · exact hone _ (List.mem_of_getElem? this)
            · rw [← Array.getElem?_toList] at this
              exact hr.one _ (List.mem_of_getElem? this)
          · rw [hf j] at hv
            rw [get_dsplice _ _ _ _ b2, ← hlc] at hd
            split at hv
            · rename_i hc
              rw [if_pos hc] at hd
              exact hp _ v d' hv hd
            · rename_i hc
              rw [if_neg hc] at hd
              exact hr.rep j v d' hv hd
        obtain ⟨cells', cs', hK, hfill, hrep⟩ := build_loop hpl r _ _ hr' (fun p hp => hx p (by simp [hp])) hm
        refine ⟨cells', cs', hK, ?_, hrep⟩
        simp only [List.map_cons, Instr.fill, hpl i (by omega)]
        rw [if_neg (by
          simp only [hsz, ne_eq, not_true_eq_false, decide_false, Bool.false_or, gt_iff_lt, decide_eq_true_eq, Bool.or_eq_true, or_false, false_or]
          rw [hr.size, ← b1]
          omega)]
        exact hfill
      · exact hm.elim
    split at h
    · exact h.elim
    · exact h.elim
    · exact h.elim
    · rename_i d e1 e2 e3
      exact key _ rfl (fun b d' e => e1 b d' e) (fun l e => e2 l e) (fun e => e3 e) h
theorem zero_run (hT : tabOk P tt = true) {t : TypeId} (hs : (tinfo tt t).size ≠ 0) : ∃ z, (zeroValue t).run P w = .ok z w ∧ CellsRep A os w z.cells (tinfo tt t).zero ∧ (tinfo tt t).zero.length = (tinfo tt t).size := by
  obtain ⟨i, hi, _, _, z, hz, hzo, hl⟩ := tab_size hT hs
  obtain ⟨h1, h2, h3⟩ := zOk_all (A := A) (w := w) hzo
  refine ⟨z, by simp [zeroValue, typeInfo, hi, hz], ⟨by simpa using h1, h2, fun i v d hv hd => .imm (h3 i v d (by simpa using hv) hd)⟩, hl⟩
theorem allIn_mem : ∀ {fs : List (TypeId × Nat)}, allIn tt fs = true → ∀ f ∈ fs, (tinfo tt f.1).size ≠ 0
  | [], _, f, hf => by simp at hf
  | x :: r, h, f, hf => by
    unfold allIn at h
    split at h
    · exact absurd h (by simp)
    · rename_i hs
      rcases List.mem_cons.1 hf with rfl | hf
      · exact hs
      · exact allIn_mem h f hf
theorem places_run (hT : tabOk P tt = true) : ∀ (F : List Field) (fs : List (TypeId × Nat)), fsOk F fs = true → (∀ f ∈ fs, (tinfo tt f.1).size ≠ 0) →
    (F.mapM fun f => (do pure (f.offset, ← sizeOf f.type) : Sem (Nat × Nat))).run P w = .ok (fs.map fun f => (f.2, (tinfo tt f.1).size)) w
  | [], [], _, _ => by simp
  | [], _ :: _, h, _ => by simp [fsOk] at h
  | _ :: _, [], h, _ => by simp [fsOk] at h
  | x :: F, y :: fs, h, hs => by
    simp only [fsOk, Bool.and_eq_true, bne_iff_ne] at h
    have ih := places_run hT F fs h.2 (fun f hf => hs f (by simp [hf]))
    have e1 := Nat.eq_of_beq_eq_true h.1.1.1
    have e2 := Nat.eq_of_beq_eq_true h.1.1.2
    simp only [List.mapM_cons, Sem.run_bind, e1, e2, run_sizeOf_tab hT (hs y (by simp)), Result.andThen_ok, Sem.run_pure, ih, List.map_cons]
theorem fieldOf_get : ∀ {fs : List (TypeId × Nat)} {i : Nat}, i < fs.length → fs[i]? = some (fieldOf fs i)
  | [], i, h => by simp at h
  | _ :: _, 0, _ => rfl
  | _ :: r, i + 1, h => by simpa [fieldOf] using fieldOf_get (fs := r) (i := i) (by simpa using h)
theorem build_ok (hT : tabOk P tt = true) {t : TypeId} {parts : Array (Nat × Operand)} {K : Option Prop → DV → Prop} (ho : o.op = .build t parts)
    (hx : ∀ p ∈ parts.toList, Has A os w a ρ p.2) (h : dBuild tt t ρ parts.toList K) : GivesSome P A os w a o K := by
  unfold dBuild at h
  have hparts : (parts.map fun (i, x) => (i, a.eval x)).toList = parts.toList.map fun p => (p.1, a.eval p.2) := by cases parts; simp
  split at h
  · rename_i fs hk
    split at h
    · rename_i m hal hm
      have hs : (tinfo tt t).size ≠ 0 := by omega
      obtain ⟨F, hu, hF, _⟩ := tab_st hT hk
      obtain ⟨z, hz, hrep, _⟩ := zero_run (A := A) (os := os) (w := w) hT hs
      have hin := allIn_mem hal
      have hpl := places_run (w := w) hT F.toList fs hF hin
      obtain ⟨cells', cs', hK, hfill, hr⟩ := build_loop (pl := fun i => (fs.map fun f => (f.2, (tinfo tt f.1).size))[i]?) (fun i hi => by
        cases hb : Nat.blt i fs.length with
        | true =>
          have hb' : i < fs.length := Nat.le_of_ble_eq_true hb
          simp only [List.getElem?_map, fieldOf_get hb']
          rfl
        | false => rw [hb] at hi; exact absurd rfl hi) parts.toList _ _ hrep hx h
      refine ⟨_, _, hK, fun _ => ⟨.agg cells', ?_, ?_⟩⟩
      · have hmap : (F.mapM fun f => (do pure (f.offset, ← sizeOf f.type) : Sem (Nat × Nat))).run P w = .ok (fs.map fun f => (f.2, (tinfo tt f.1).size)).toArray w := by
          rw [Array.mapM_eq_mapM_toList, Sem.run_map, hpl]
          rfl
        simp only [execOp, ho, Instr.build, Sem.run_bind, hz, Result.andThen_ok, Sem.run_pure, run_underlying hu, hmap, hparts]
        have hfill' : Instr.fill (fun x => (fs.map fun f => (f.2, (tinfo tt f.1).size)).toArray[x]?) z.cells (parts.toList.map fun p => (p.1, a.eval p.2)) = some cells' := by
          simpa using hfill
        simp only [hfill', Sem.run_pure, Result.andThen_ok]
      · have : cells' = cells'.toList.toArray := by simp
        rw [this]
        exact .agg (by simpa using hr.size) hr.one (fun i v d hv hd => hr.rep i v d (by simpa using hv) hd)
    · exact h.elim
  · rename_i n e hk
    split at h
    · rename_i m1 m2 h1 h2
      have hs : (tinfo tt t).size ≠ 0 := by omega
      have hse : (tinfo tt e).size ≠ 0 := by omega
      have hu := tab_arr hT hk
      obtain ⟨z, hz, hrep, _⟩ := zero_run (A := A) (os := os) (w := w) hT hs
      obtain ⟨cells', cs', hK, hfill, hr⟩ := build_loop (pl := fun i => some (i * (tinfo tt e).size, (tinfo tt e).size)) (fun i hi => rfl) parts.toList _ _ hrep hx h
      refine ⟨_, _, hK, fun _ => ⟨.agg cells', ?_, ?_⟩⟩
      · simp only [execOp, ho, Instr.build, Sem.run_bind, hz, Result.andThen_ok, Sem.run_pure, run_underlying hu, run_sizeOf_tab hT hse, hparts, hfill]
      · have : cells' = cells'.toList.toArray := by simp
        rw [this]
        exact .agg (by simpa using hr.size) hr.one (fun i v d hv hd => hr.rep i v d (by simpa using hv) hd)
    · exact h.elim
  · exact h.elim

theorem dval_ok (hT : tabOk P tt = true) (h0 : (tinfo tt 0).size = 0) (hO : ObjsOk A os B w) {K : Option Prop → DV → Prop} (hx : ∀ x ∈ o.op.operands.toList, Has A os w a ρ x)
    (h : dval tt (os.map (·.2)) o.op ρ K) : GivesSome P A os w a o K := by
  generalize ho : o.op = op at h hx
  unfold dval at h
  split at h
  · exact move_ok (.inl ho) (hx _ (by simp [Op.operands])) h
  · exact move_ok (.inr ho) (hx _ (by simp [Op.operands])) h
  · exact pick_ok ho (hx _ (by simp [Op.operands])) (hx _ (by simp [Op.operands])) (hx _ (by simp [Op.operands])) h
  · exact nilCheck_ok ho (hx _ (by simp [Op.operands])) h
  · rename_i op t x y u
    have hxx := hx x (by simp [Op.operands])
    have hyy := hx y (by simp [Op.operands])
    unfold dbin at h
    split at h
    · rename_i k p k' q e1 e2
      split at h
      · exact dShift_ok ho (hxx.v e1) (hyy.v e2) h
      · split at h
        · rename_i hk
          obtain rfl := ikEq_iff.1 hk
          exact dInt_ok ho (hxx.v e1) (hyy.v e2) h
        · exact h.elim
    · rename_i e1 e2
      exact dStr_ok ho (hxx.v e1) (hyy.v e2) h
    · rename_i e1 e2
      split at h
      · rename_i hk
        exact dBool_ok hT ho (hxx.v e1) (hyy.v e2) hk h
      · exact h.elim
    · rename_i e1 e2
      exact dAgg_ok hT ho hxx hyy e1 e2 h
    · exact h.elim
  · exact un_ok ho (hx _ (by simp [Op.operands])) h
  · exact convert_ok hT ho (hx _ (by simp [Op.operands])) h
  · exact fieldAddr_ok hT h0 ho (hx _ (by simp [Op.operands])) h
  · exact field_ok hT h0 ho (hx _ (by simp [Op.operands])) h
  · exact indexAddr_ok hT hO ho (hx _ (by simp [Op.operands])) (hx _ (by simp [Op.operands])) h
  · exact index_ok hT ho (hx _ (by simp [Op.operands])) (hx _ (by simp [Op.operands])) h
  · exact load_ok hT hO ho (hx _ (by simp [Op.operands])) h
  · exact extract_ok ho (hx _ (by simp [Op.operands])) h
  · exact slice_ok hT ho (hx _ (by simp [Op.operands])) (fun y hy => hx y (by simp [Op.operands, hy])) (fun y hy => hx y (by simp [Op.operands, hy])) (fun y hy => hx y (by simp [Op.operands, hy])) h
  · split at h
    · rename_i hf
      exact makeFunc_ok ho hf (fun x hm => hx x (by simp [Op.operands] at hm ⊢; exact .inr hm)) h
    · exact h.elim
  · rename_i t parts
    exact build_ok hT ho (fun p hp => hx p.2 (by
      simp only [Op.operands]
      simp only [List.mem_map]
      exact ⟨p, hp, rfl⟩)) h
  · rename_i args ats
    split at h
    · rename_i x t e1 e2
      exact len_ok hT hO ho e1 e2 (hx x (by simp [Op.operands, Call.operands]; rw [← Array.mem_toList_iff, e1]; simp)) h
    · exact h.elim
  · split at h
    · rename_i x y e1
      exact min_ok ho e1 (hx x (by simp [Op.operands, Call.operands]; rw [← Array.mem_toList_iff, e1]; simp)) (hx y (by simp [Op.operands, Call.operands]; rw [← Array.mem_toList_iff, e1]; simp)) h
    · exact h.elim
  · split at h
    · rename_i x y e1
      exact max_ok ho e1 (hx x (by simp [Op.operands, Call.operands]; rw [← Array.mem_toList_iff, e1]; simp)) (hx y (by simp [Op.operands, Call.operands]; rw [← Array.mem_toList_iff, e1]; simp)) h
    · exact h.elim
  · exact h.elim
end
end Go.Lift
