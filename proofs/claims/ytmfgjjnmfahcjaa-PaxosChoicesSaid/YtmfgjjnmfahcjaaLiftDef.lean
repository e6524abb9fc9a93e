/- A data-level logic for the model: what a body does to data; its soundness (part LiftDef). No conditions. -/
import Derived.WalkKit
namespace Go.Lift

/-! # The data-level view: definitions -/

inductive DV where
  | v (x : Value)
  | lst (sz : Nat) (es : List (List DV)) (full : Bool)
  | agg (cs : List DV)
  | tup (ds : List DV)
  | ip (cs : List DV)
  | lp (i off : Nat)
  | ap (i off : Nat)
  | rp (i k off : Nat)
  | own (i : Nat)
  | fn (f : Fn) (caps : List DV)
  | wh (b : Bool) (d : DV)
  | nl
  | junk

inductive LObj where
  | cells (t : TypeId) (cs : List DV)
  | row (e : TypeId) (sz : Nat) (es : List (List DV))
  | dead
  | gone
  | gh (cs : List DV)

structure DS where
  env : List (Nat × DV)
  loc : List LObj

def look : List (Nat × DV) → Nat → DV
  | [], _ => .junk
  | p :: r, t => match Nat.beq p.1 t with
    | true => p.2
    | false => look r t

def DS.put (s : DS) (dst : Option Tmp) (d : DV) : DS :=
  match dst with
  | some t => ⟨(t, d) :: s.env, s.loc⟩
  | none => s
/-- the objects' list handed on cell by cell -/
def forceL : List LObj → (List LObj → Prop) → Prop
  | [], K => K []
  | o :: r, K => forceL r fun r => K (o :: r)
/-- the same, the state handed on in head form -/
def putK (s : DS) (dst : Option Tmp) (d : DV) (K : DS → Prop) : Prop :=
  match s with
  | ⟨e, l⟩ => forceL l fun l => match dst with
    | some t => K ⟨(t, d) :: e, l⟩
    | none => K ⟨e, l⟩

/-- conditions: none, or one -/
def andO : Option Prop → Option Prop → Option Prop
  | none, c => c
  | some a, none => some a
  | some a, some b => some (a ∧ b)
def needs (c : Option Prop) (p : Prop) : Prop :=
  match c with
  | none => p
  | some a => a ∧ p

def lget : List LObj → Nat → LObj
  | [], _ => .dead
  | o :: _, 0 => o
  | _ :: r, n + 1 => lget r n
def lset : List LObj → Nat → LObj → List LObj
  | [], _, _ => []
  | _ :: r, 0, x => x :: r
  | o :: r, n + 1, x => o :: lset r n x
def isRow : LObj → Bool
  | .row .. => true
  | _ => false
def isCells : LObj → Bool
  | .cells .. => true
  | _ => false
def isGone : LObj → Bool
  | .gone => true
  | _ => false
def dset : List DV → Nat → DV → List DV
  | [], _, _ => []
  | _ :: r, 0, x => x :: r
  | o :: r, n + 1, x => o :: dset r n x
def dsplice : List DV → Nat → List DV → List DV
  | l, _, [] => l
  | l, o, x :: r => dsplice (dset l o x) (o + 1) r

/-- what the table knows of a type -/
inductive TK where
  | int (k : IntKind) | bool | str | slc (e : TypeId) | st (fs : List (TypeId × Nat)) | arr (n : Nat) (e : TypeId) | other
structure TI where
  size : Nat
  bytes : Nat
  agg : Bool
  zero : List DV
  k : TK
abbrev TT := List (Nat × TI)
def tinfo : TT → TypeId → TI
  | [], _ => ⟨0, 0, false, [], .other⟩
  | p :: r, t => match Nat.beq p.1 t with
    | true => p.2
    | false => tinfo r t

def cdv : Value → DV
  | .slice none 0 0 => .nl
  | .slice _ _ _ => .junk
  | .agg _ => .junk
  | .tuple _ => .junk
  | x => .v x

def ev (s : DS) : Operand → DV
  | .tmp t => look s.env t
  | .const v => cdv v
  | .global _ => .junk
  | .func f => .fn (.func f) []

/-- hand a value on in head form -/
def frc (d : DV) (K : DV → Prop) : Prop :=
  match d with
  | .v x => K (.v x)
  | .lst sz es f => K (.lst sz es f)
  | .agg cs => K (.agg cs)
  | .tup ds => K (.tup ds)
  | .ip cs => K (.ip cs)
  | .lp i o => K (.lp i o)
  | .ap i o => K (.ap i o)
  | .rp i k o => K (.rp i k o)
  | .own i => K (.own i)
  | .fn f c => K (.fn f c)
  | .wh b d => K (.wh b d)
  | .nl => K .nl
  | .junk => K .junk

def takeK : Nat → List DV → (List DV → Prop) → Prop
  | 0, _, K => K []
  | _ + 1, [], _ => False
  | n + 1, d :: r, K => frc d fun d => takeK n r fun l => K (d :: l)
def dropK : Nat → List DV → (List DV → Prop) → Prop
  | 0, l, K => K l
  | _ + 1, [], _ => False
  | n + 1, _ :: r, K => dropK n r K

def isConstTrue : Operand → Bool
  | .const (.bool b) => b
  | _ => false
def isConstFalse : Operand → Bool
  | .const (.bool b) => !b
  | _ => false

def obl (b : Bool) (d : DV) (K : Option Prop → DV → Prop) : Prop :=
  match d with
  | .wh g d => K (some (b = true → g = true)) d
  | d => K none d

def dpickV (c : Bool) (x y : DV) (ka kb : Bool) (K : DV → Prop) : Prop :=
  match x, y with
  | .v (.bool a), .v (.bool b) => match ka, kb with
    | true, _ => K (.v (.bool (c || b)))
    | _, true => K (.v (.bool (c && a)))
    | _, _ => K (.v (.bool (bif c then a else b)))
  | _, _ => False

def ikEq : IntKind → IntKind → Bool
  | .i8, .i8 | .i16, .i16 | .i32, .i32 | .i64, .i64 | .u8, .u8 | .u16, .u16 | .u32, .u32 | .u64, .u64 => true
  | _, _ => false

def dcells : DV → List DV
  | .agg cs => cs
  | d => [d]

inductive SK where
  | int (k : IntKind) | bool | str
/-- the kinds of the cells of a type that '==' looks at cell by cell -/
def flatFs (g : TypeId → Option (List SK)) : List (TypeId × Nat) → Nat → Option (List SK)
  | [], _ => some []
  | f :: r, o => match Nat.beq f.2 o with
    | false => none
    | true => match g f.1 with
      | none => none
      | some ks => match flatFs g r (o + ks.length) with
        | none => none
        | some l => some (ks ++ l)
def flatK (tt : TT) : Nat → TypeId → Option (List SK)
  | 0, _ => none
  | n + 1, t => match (tinfo tt t).k with
    | .int k => some [.int k]
    | .bool => some [.bool]
    | .str => some [.str]
    | .st fs => match flatFs (flatK tt n) fs 0 with
      | some ks => match Nat.beq ks.length (tinfo tt t).size, (tinfo tt t).size with
        | true, _ + 1 => some ks
        | _, _ => none
      | none => none
    | _ => none
/-- equality of two rows of one-cell data -/
def eq1K (k : SK) (x y : DV) (K : Bool → Prop) : Prop :=
  match k, x, y with
  | .int k, .v (.int k1 a), .v (.int k2 b) => match ikEq k k1 && ikEq k k2 with
    | true => K (decide (a = b))
    | false => False
  | .str, .v (.string a), .v (.string b) => K (decide (a = b))
  | .bool, .v (.bool a), .v (.bool b) => K (a == b)
  | _, _, _ => False
def eqCells : List SK → List DV → List DV → (Bool → Prop) → Prop
  | [], [], [], K => K true
  | k :: ks, x :: r, y :: r', K => eq1K k x y fun e => eqCells ks r r' fun z => K (e && z)
  | _, _, _, _ => False

def dInt (op : BinOp) (k : IntKind) (a b : Int) (K : Option Prop → DV → Prop) : Prop :=
  match op with
  | .add => K none (.v (.int k (k.wrap (a + b))))
  | .sub => K none (.v (.int k (k.wrap (a - b))))
  | .mul => K none (.v (.int k (k.wrap (a * b))))
  | .quo => K (some (b ≠ 0)) (.v (.int k (k.wrap (a.tdiv b))))
  | .rem => K (some (b ≠ 0)) (.v (.int k (a.tmod b)))
  | .and => K none (.v (.int k (bits .and k a b)))
  | .or => K none (.v (.int k (bits .or k a b)))
  | .xor => K none (.v (.int k (bits .xor k a b)))
  | .andNot => K none (.v (.int k (bits .andNot k a b)))
  | .eql => K none (.v (.bool (decide (a = b))))
  | .neq => K none (.v (.bool (!decide (a = b))))
  | .lss => K none (.v (.bool (decide (a < b))))
  | .leq => K none (.v (.bool (decide (a ≤ b))))
  | .gtr => K none (.v (.bool (decide (b < a))))
  | .geq => K none (.v (.bool (decide (b ≤ a))))
  | _ => False
def isShift : BinOp → Bool
  | .shl | .shr => true
  | _ => false
def dShift (op : BinOp) (k : IntKind) (a b : Int) (K : Option Prop → DV → Prop) : Prop :=
  match op with
  | .shl => K (some (0 ≤ b)) (.v (.int k (k.wrap (a * 2 ^ (min b.toNat k.bits)))))
  | .shr => K (some (0 ≤ b)) (.v (.int k (a.fdiv (2 ^ (min b.toNat k.bits)))))
  | _ => False
def dStr (op : BinOp) (a b : ByteArray) (K : Option Prop → DV → Prop) : Prop :=
  match op with
  | .eql => K none (.v (.bool (decide (a = b))))
  | .neq => K none (.v (.bool (!decide (a = b))))
  | .lss => K none (.v (.bool (Op.bytesLess a.toList b.toList)))
  | _ => False
def dBool (op : BinOp) (a b : Bool) (K : Option Prop → DV → Prop) : Prop :=
  match op with
  | .eql => K none (.v (.bool (a == b)))
  | .neq => K none (.v (.bool (!(a == b))))
  | _ => False
def dAgg (tt : TT) (t : TypeId) (op : BinOp) (a b : List DV) (K : Option Prop → DV → Prop) : Prop :=
  match flatK tt 5 t, (tinfo tt t).agg with
  | some ks, true => match op with
    | .eql => eqCells ks a b fun r => K none (.v (.bool r))
    | .neq => eqCells ks a b fun r => K none (.v (.bool (!r)))
    | _ => False
  | _, _ => False
def dbin (tt : TT) (t : TypeId) (op : BinOp) (x y : DV) (K : Option Prop → DV → Prop) : Prop :=
  match x, y with
  | .v (.int k a), .v (.int k' b) => match isShift op with
    | true => dShift op k a b K
    | false => match ikEq k k' with
      | true => dInt op k a b K
      | false => False
  | .v (.string a), .v (.string b) => dStr op a b K
  | .v (.bool a), .v (.bool b) => match (tinfo tt t).k with
    | .bool => dBool op a b K
    | _ => False
  | .agg a, .agg b => dAgg tt t op a b K
  | _, _ => False

def fieldOf : List (TypeId × Nat) → Nat → TypeId × Nat
  | [], _ => (0, 0)
  | x :: _, 0 => x
  | _ :: r, n + 1 => fieldOf r n

def natLit : Operand → Option Nat
  | .const (.int _ (.ofNat n)) => some n
  | _ => none

def byteE (b : UInt8) : List DV := [.v (.int .u8 b.toNat)]

/-- the cells of a struct or array that is built: parts laid over the zero -/
def buildK (ρ : Operand → DV) (place : Nat → Nat × Nat) : List (Nat × Operand) → List DV → (List DV → Prop) → Prop
  | [], cs, K => K cs
  | (i, x) :: r, cs, K => frc (ρ x) fun d => match d with
    | .wh _ _ => False
    | .tup _ => False
    | .junk => False
    | d => match Nat.beq (dcells d).length (place i).2 && Nat.ble ((place i).1 + (dcells d).length) cs.length && Nat.blt 0 (place i).2 with
      | true => buildK ρ place r (dsplice cs (place i).1 (dcells d)) K
      | false => False

def evL (ρ : Operand → DV) : List Operand → (List DV → Prop) → Prop
  | [], K => K []
  | x :: r, K => frc (ρ x) fun d => evL ρ r fun l => K (d :: l)

def plainCap : DV → Bool
  | .v _ | .lst .. | .nl | .ip _ | .fn _ [] => true
  | _ => false
def isLp : DV → Bool
  | .lp _ _ => true
  | _ => false
/-- what a closure may hold -/
def isCap : DV → Bool
  | .lp _ _ => true
  | d => plainCap d
def isPlain0 : DV → Bool
  | .v _ | .lst .. | .nl => true
  | .fn _ caps => caps.all plainCap
  | _ => false
def plainAll : List DV → Bool
  | [] => true
  | d :: r => match isPlain0 d with
    | true => plainAll r
    | false => false
def plainRows : List (List DV) → Bool
  | [] => true
  | d :: r => match plainAll d with
    | true => plainRows r
    | false => false

def dNilCheck (loc : List LObj) (d : DV) (K : Option Prop → DV → Prop) : Prop :=
  match d with
  | .lp i o => K none (.lp i o)
  | .ap i o => K none (.ap i o)
  | .rp i k o => match isRow (lget loc i) with
    | true => K none (.rp i k o)
    | false => False
  | .ip cs => K none (.ip cs)
  | .fn (.func f) c => K none (.fn (.func f) c)
  | _ => False
def dPick (ρ : Operand → DV) (c a b : Operand) (K : Option Prop → DV → Prop) : Prop :=
  match ρ c with
  | .v (.bool t) => obl t (ρ a) fun c1 x => obl (!t) (ρ b) fun c2 y => frc x fun x => frc y fun y => dpickV t x y (isConstTrue a) (isConstFalse b) fun d => K (andO c1 c2) d
  | _ => False
def dUn (op : UnOp) (d : DV) (K : Option Prop → DV → Prop) : Prop :=
  match op, d with
  | .not, .v (.bool b) => K none (.v (.bool !b))
  | .neg, .v (.int k n) => K none (.v (.int k (k.wrap (0 - n))))
  | .xor, .v (.int k n) => K none (.v (.int k (bits .xor k (if k.signed then -1 else k.max) n)))
  | _, _ => False
def dConvert (tt : TT) (ks k : TK) (d : DV) (K : Option Prop → DV → Prop) : Prop :=
  match ks, k, d with
  | .int _, .int k, .v (.int _ n) => K none (.v (.int k (k.wrap n)))
  | .str, .str, .v (.string s) => K none (.v (.string s))
  | .slc e, .str, .lst sz es _ => match (tinfo tt e).k, Nat.beq sz 1 with
    | .int .u8, true => ∃ bs : List UInt8, K (some (es = bs.map byteE)) (.v (.string ⟨bs.toArray⟩))
    | _, _ => False
  | _, _, _ => False
def dFieldAddr (tt : TT) (loc : List LObj) (t : TypeId) (f : Nat) (d : DV) (K : Option Prop → DV → Prop) : Prop :=
  match (tinfo tt t).k with
  | .st fs => match (tinfo tt (fieldOf fs f).1).size with
    | 0 => False
    | _ => match d with
      | .lp i o => K none (.lp i (o + (fieldOf fs f).2))
      | .ap i o => K none (.ap i (o + (fieldOf fs f).2))
      | .rp i k o => match isRow (lget loc i) with
        | true => K none (.rp i k (o + (fieldOf fs f).2))
        | false => False
      | .ip cs => dropK (fieldOf fs f).2 cs fun l => K none (.ip l)
      | _ => False
  | _ => False
/-- a value of a type out of its cells -/
def dTake (agg : Bool) (size : Nat) (l : List DV) (K : DV → Prop) : Prop :=
  match agg with
  | true => takeK size l fun l => K (.agg l)
  | false => match l with
    | d :: _ => frc d fun d => K d
    | [] => False
def dField (tt : TT) (t : TypeId) (f : Nat) (d : DV) (K : Option Prop → DV → Prop) : Prop :=
  match (tinfo tt t).k with
  | .st fs => match (tinfo tt (fieldOf fs f).1).size with
    | 0 => False
    | _ => match d with
      | .agg cs => dropK (fieldOf fs f).2 cs fun l => dTake (tinfo tt (fieldOf fs f).1).agg (tinfo tt (fieldOf fs f).1).size l fun d => K none d
      | _ => False
  | _ => False
def dIndexSlc (loc : List LObj) (size : Nat) (ix : Int) (d : DV) (K : Option Prop → DV → Prop) : Prop :=
  match d with
  | .lst sz es _ => match Nat.beq sz size with
    | true => ∃ (k : Nat) (ed : List DV), K (some (ix = k ∧ es[k]? = some ed)) (.ip ed)
    | false => False
  | .own j => match lget loc j with
    | .row _ sz es => match Nat.beq sz size with
      | true => ∃ k : Nat, K (some (ix = k ∧ k < es.length)) (.rp j k 0)
      | false => False
    | _ => False
  | _ => False
def dIndexArr (n size : Nat) (lit : Option Nat) (ix : Int) (d : DV) (K : Option Prop → DV → Prop) : Prop :=
  match lit with
  | some m => match d with
    | .lp j o => K (some (m < n)) (.lp j (o + m * size))
    | .ap j o => K (some (m < n)) (.ap j (o + m * size))
    | _ => False
  | none => match d with
    | .lp j o => ∃ k : Nat, K (some (ix = k ∧ k < n)) (.ap j (o + k * size))
    | .ap j o => ∃ k : Nat, K (some (ix = k ∧ k < n)) (.ap j (o + k * size))
    | _ => False
def dIndexAddr (tt : TT) (loc : List LObj) (t : TypeId) (i : Operand) (x y : DV) (K : Option Prop → DV → Prop) : Prop :=
  match (tinfo tt t).k, y with
  | .slc e, .v (.int _ ix) => match (tinfo tt e).size with
    | 0 => False
    | _ => dIndexSlc loc (tinfo tt e).size ix x K
  | .arr n e, .v (.int _ ix) => match (tinfo tt e).size with
    | 0 => False
    | _ => dIndexArr n (tinfo tt e).size (natLit i) ix x K
  | _, _ => False
def dIndex (tt : TT) (t : TypeId) (x y : DV) (K : Option Prop → DV → Prop) : Prop :=
  match y with
  | .v (.int _ ix) => match (tinfo tt t).k, x with
    | .str, .v (.string s) => ∃ k : Nat, K (some (ix = k ∧ k < s.size)) (.v (.int .u8 (s.data.getD k 0).toNat))
    | .arr n e, .agg cs => match (tinfo tt e).agg, Nat.beq (tinfo tt e).size 1 with
      | false, true => ∃ (k : Nat) (d : DV), frc d fun d => K (some (ix = k ∧ k < n ∧ cs[k]? = some d)) d
      | _, _ => False
    | _, _ => False
  | _ => False
def dLoad (tt : TT) (loc : List LObj) (t : TypeId) (d : DV) (K : Option Prop → DV → Prop) : Prop :=
  match (tinfo tt t).size with
  | 0 => False
  | _ => match d with
    | .ip cs => dTake (tinfo tt t).agg (tinfo tt t).size cs fun d => K none d
    | .lp i o => match lget loc i with
      | .cells _ cs => dropK o cs fun l => dTake (tinfo tt t).agg (tinfo tt t).size l fun d => K none d
      | _ => False
    | .ap i o => match lget loc i with
      | .cells _ cs => match (tinfo tt t).agg with
        | true => ∃ ds : List DV, K (some ((cs.drop o).take (tinfo tt t).size = ds ∧ ds.length = (tinfo tt t).size)) (.agg ds)
        | false => ∃ d : DV, frc d fun d => K (some (cs[o]? = some d)) d
      | _ => False
    | .rp i k o => match lget loc i with
      | .row _ _ es => ∃ ed : List DV, dropK o ed fun l => dTake (tinfo tt t).agg (tinfo tt t).size l fun d => K (some (es[k]? = some ed)) d
      | _ => False
    | _ => False
def dExtract (n : Nat) (d : DV) (K : Option Prop → DV → Prop) : Prop :=
  match d with
  | .tup ds => dropK n ds fun l => match l with
    | d :: _ => frc d fun d => K none d
    | [] => False
  | _ => False
/-- a bound of a cut -/
def bndIs (ρ : Operand → DV) (o : Option Operand) (n : Nat) (other : Nat) : Prop :=
  match o with
  | some o => ∃ k, ρ o = .v (.int k n)
  | none => n = other
def dSlice (tt : TT) (t : TypeId) (ρ : Operand → DV) (d : DV) (lo hi mx : Option Operand) (K : Option Prop → DV → Prop) : Prop :=
  match (tinfo tt t).k, d with
  | .str, .v (.string s) => match mx with
    | none => ∃ l h : Nat, K (some (bndIs ρ lo l 0 ∧ bndIs ρ hi h s.size ∧ l ≤ h ∧ h ≤ s.size)) (.v (.string (s.extract l h)))
    | some _ => False
  | .slc e, .nl => match (tinfo tt e).size, mx with
    | 0, _ => False
    | _, some _ => False
    | _, none => K (some (bndIs ρ lo 0 0 ∧ bndIs ρ hi 0 0)) .nl
  | .slc e, .lst sz es full => match (tinfo tt e).size, Nat.beq sz (tinfo tt e).size with
    | 0, _ => False
    | _, false => False
    | _, true => match hi, mx with
      | none, none => ∃ l : Nat, K (some (bndIs ρ lo l 0 ∧ l ≤ es.length)) (.lst sz (es.drop l) full)
      | some ho, none => ∃ l h : Nat, K (some (bndIs ρ lo l 0 ∧ bndIs ρ (some ho) h 0 ∧ l ≤ h ∧ h ≤ es.length)) (.lst sz ((es.take h).drop l) false)
      | some ho, some mo => ∃ l h : Nat, K (some (bndIs ρ lo l 0 ∧ bndIs ρ (some ho) h 0 ∧ bndIs ρ (some mo) h 0 ∧ l ≤ h ∧ h ≤ es.length)) (.lst sz ((es.take h).drop l) true)
      | none, some _ => False
  | _, _ => False
def dLen (tt : TT) (loc : List LObj) (t : TypeId) (d : DV) (K : Option Prop → DV → Prop) : Prop :=
  match (tinfo tt t).k with
  | .slc _ => match d with
    | .lst _ es _ => K none (.v (.int .i64 es.length))
    | .nl => K none (.v (.int .i64 (0 : Nat)))
    | .own j => match lget loc j with
      | .row _ _ es => K none (.v (.int .i64 es.length))
      | _ => False
    | _ => False
  | .str => match d with
    | .v (.string s) => K none (.v (.int .i64 s.size))
    | _ => False
  | .arr n _ => K none (.v (.int .i64 n))
  | _ => False
def dMin (a b : DV) (K : Option Prop → DV → Prop) : Prop :=
  match a, b with
  | .v (.int k a), .v (.int _ b) => K none (.v (.int k (if b < a then b else a)))
  | _, _ => False
def dMax (a b : DV) (K : Option Prop → DV → Prop) : Prop :=
  match a, b with
  | .v (.int k a), .v (.int _ b) => K none (.v (.int k (if a < b then b else a)))
  | _, _ => False
def allIn (tt : TT) : List (TypeId × Nat) → Bool
  | [] => true
  | f :: r => match (tinfo tt f.1).size with
    | 0 => false
    | _ => allIn tt r
def dBuild (tt : TT) (t : TypeId) (ρ : Operand → DV) (parts : List (Nat × Operand)) (K : Option Prop → DV → Prop) : Prop :=
  match (tinfo tt t).k with
  | .st fs => match allIn tt fs, (tinfo tt t).size with
    | true, _ + 1 => buildK ρ (fun i => match Nat.blt i fs.length with
      | true => ((fieldOf fs i).2, (tinfo tt (fieldOf fs i).1).size)
      | false => (0, 0)) parts (tinfo tt t).zero fun l => K none (.agg l)
    | _, _ => False
  | .arr _ e => match (tinfo tt e).size, (tinfo tt t).size with
    | _ + 1, _ + 1 => buildK ρ (fun i => (i * (tinfo tt e).size, (tinfo tt e).size)) parts (tinfo tt t).zero fun l => K none (.agg l)
    | _, _ => False
  | _ => False

/-- an operation that only makes a value -/
def dval (tt : TT) (loc : List LObj) (o : Op) (ρ : Operand → DV) (K : Option Prop → DV → Prop) : Prop :=
  match o with
  | .move x | .assign x => frc (ρ x) fun d => K none d
  | .pick c a b => dPick ρ c a b K
  | .nilCheck x => dNilCheck loc (ρ x) K
  | .binOp op t x y _ => dbin tt t op (ρ x) (ρ y) K
  | .unOp op _ x => dUn op (ρ x) K
  | .convert src dst x => dConvert tt (tinfo tt src).k (tinfo tt dst).k (ρ x) K
  | .fieldAddr t x f => dFieldAddr tt loc t f (ρ x) K
  | .field t x f => dField tt t f (ρ x) K
  | .indexAddr t x i => dIndexAddr tt loc t i (ρ x) (ρ i) K
  | .index t x i => dIndex tt t (ρ x) (ρ i) K
  | .load t x => dLoad tt loc t (ρ x) K
  | .extract x n => dExtract n (ρ x) K
  | .slice t x lo hi mx => dSlice tt t ρ (ρ x) lo hi mx K
  | .makeFunc f first caps => match first.toList with
    | [] => evL ρ caps.toList fun l => match l.all isCap with
      | true => K none (.fn f l)
      | false => False
    | _ => False
  | .build t parts => dBuild tt t ρ parts.toList K
  | .call { callee := .builtin .len, args, argTypes } => match args.toList, argTypes.toList with
    | [x], [t] => dLen tt loc t (ρ x) K
    | _, _ => False
  | .call { callee := .builtin .min, args, .. } => match args.toList with
    | [x, y] => dMin (ρ x) (ρ y) K
    | _ => False
  | .call { callee := .builtin .max, args, .. } => match args.toList with
    | [x, y] => dMax (ρ x) (ρ y) K
    | _ => False
  | _ => False

/-- does 'dval' serve this operation? -/
def isVal (o : Op) (ρ : Operand → DV) : Bool :=
  match o with
  | .move _ | .assign _ | .pick .. | .nilCheck _ | .binOp .. | .unOp .. | .fieldAddr .. | .field .. | .indexAddr .. | .index .. | .load .. | .extract .. | .makeFunc .. | .build .. => true
  | .convert _ _ x => match ρ x with
    | .own _ => false
    | _ => true
  | .slice _ x _ _ _ => match ρ x with
    | .own _ => false
    | _ => true
  | .call { callee := .builtin .len, .. } | .call { callee := .builtin .min, .. } | .call { callee := .builtin .max, .. } => true
  | _ => false

/-! ## rows of the call's own -/
/-- 'own i' is read as r from now on -/
def sub0 (i : Nat) (r : DV) : DV → DV
  | .own j => match Nat.beq i j with | true => r | false => .own j
  | .rp j k o => match Nat.beq i j with | true => .junk | false => .rp j k o
  | .wh b d => .wh b (sub0 i r d)
  | d => d
def subD (i : Nat) (r : DV) : DV → DV
  | .agg cs => .agg (cs.map (sub0 i r))
  | .wh b d => .wh b (subD i r d)
  | d => sub0 i r d
def mapE (f : DV → DV) : List (Nat × DV) → List (Nat × DV)
  | [] => []
  | p :: r => (p.1, f p.2) :: mapE f r
def mapL (f : DV → DV) : List LObj → List LObj
  | [] => []
  | .cells t cs :: r => .cells t (cs.map f) :: mapL f r
  | .gh cs :: r => .gh (cs.map f) :: mapL f r
  | o :: r => o :: mapL f r
/-- the row's other handles are void; its contents are these from now on -/
def DS.grow (s : DS) (i : Nat) (e : TypeId) (sz : Nat) (es : List (List DV)) : DS :=
  ⟨mapE (subD i .junk) s.env, lset (mapL (sub0 i .junk) s.loc) i (.row e sz es)⟩
/-- the row is no more the call's own: it is a list that nobody will write -/
def DS.shut (s : DS) (i sz : Nat) (es : List (List DV)) : DS :=
  ⟨mapE (subD i (.lst sz es false)) s.env, lset (mapL (sub0 i (.lst sz es false)) s.loc) i .dead⟩

/-- an object of the call's own is no more written: pointers to it are pointers to data -/
def subCc (i : Nat) (cs : List DV) : DV → DV
  | .lp j o => match Nat.beq i j with | true => .ip (cs.drop o) | false => .lp j o
  | d => d
def subC0 (i : Nat) (cs : List DV) : DV → DV
  | .lp j o => match Nat.beq i j with | true => .ip (cs.drop o) | false => .lp j o
  | .ap j o => match Nat.beq i j with | true => .ip (cs.drop o) | false => .ap j o
  | .fn f caps => .fn f (caps.map (subCc i cs))
  | .wh b d => .wh b (subC0 i cs d)
  | d => d
def subCT (i : Nat) (cs : List DV) : DV → DV
  | .agg l => .agg (l.map (subC0 i cs))
  | .wh b d => .wh b (subCT i cs d)
  | d => subC0 i cs d
def DS.shutC (s : DS) (i : Nat) (cs : List DV) : DS :=
  ⟨mapE (subCT i cs) s.env, lset (mapL (subC0 i cs) s.loc) i .dead⟩

def shutIn (ds : List DV) (s : DS) (K : DS → Prop) : Prop :=
  match ds with
  | [] => K s
  | .own j :: r => match lget s.loc j with
    | .row _ sz es => shutIn r (s.shut j sz es) K
    | .cells _ _ => False
    | _ => shutIn r s K
  | .lp j _ :: r => match lget s.loc j with
    | .cells _ cs => match plainAll cs with
      | true => shutIn r (s.shutC j cs) K
      | false => False
    | .row .. => False
    | _ => shutIn r s K
  | _ :: r => shutIn r s K

def scalar0 : DV → Bool
  | .v _ => true
  | _ => false
def scalar : DV → Bool
  | .v _ => true
  | .agg cs => cs.all scalar0
  | .tup ds => ds.all fun d => match d with | .v _ => true | .agg cs => cs.all scalar0 | _ => false
  | _ => false

/-- what a closure holds, as it is handed to a callee -/
def lendC (loc : List LObj) (d : DV) (K : DV → Prop) : Prop :=
  match d with
  | .lp j o => match lget loc j with
    | .cells _ cs => match plainAll cs with
      | true => K (.ip (cs.drop o))
      | false => False
    | _ => False
  | d => K d
def lendCs (loc : List LObj) : List DV → (List DV → Prop) → Prop
  | [], K => K []
  | d :: r, K => lendC loc d fun d => lendCs loc r fun l => K (d :: l)
/-- a value as it is handed to a callee: a row of one's own is read as a list -/
def lend0 (loc : List LObj) (d : DV) (K : DV → Prop) : Prop :=
  match d with
  | .own j => match lget loc j with
    | .row _ sz es => K (.lst sz es false)
    | _ => False
  | .lp j o => match lget loc j with
    | .cells _ cs => match plainAll cs with
      | true => K (.ip (cs.drop o))
      | false => False
    | _ => False
  | .fn f caps => lendCs loc caps fun l => K (.fn f l)
  | .ap .. | .rp .. | .wh .. => False
  | .agg _ => False
  | d => K d
def lendL (loc : List LObj) : List DV → (List DV → Prop) → Prop
  | [], K => K []
  | d :: r, K => lend0 loc d fun d => lendL loc r fun l => K (d :: l)
def lend (loc : List LObj) (d : DV) (K : DV → Prop) : Prop :=
  match d with
  | .agg cs => lendL loc cs fun l => K (.agg l)
  | d => lend0 loc d K
def lendA (loc : List LObj) : List DV → (List DV → Prop) → Prop
  | [], K => K []
  | d :: r, K => lend loc d fun d => lendA loc r fun l => K (d :: l)
def own0 : DV → List DV
  | .own j => [.own j]
  | .lp j o => [.lp j o]
  | .fn _ caps => caps.filter isLp
  | _ => []
def owns : List DV → List DV
  | [] => []
  | .agg cs :: r => cs.flatMap own0 ++ owns r
  | d :: r => own0 d ++ owns r

/-- what may stand in place of what: 'd' tells less than 'd0' -/
inductive dle : DV → DV → Prop
  | refl {d : DV} : dle d d
  | nil {sz sz' : Nat} {f f' : Bool} (h : f' = true → f = true) : dle (.lst sz [] f) (.lst sz' [] f')
  | nl {sz : Nat} {f : Bool} : dle .nl (.lst sz [] f)
  | lst {sz : Nat} {es : List (List DV)} {f : Bool} : dle (.lst sz es f) (.lst sz es false)
  | rows {sz : Nat} {es es' : List (List DV)} {f : Bool} (hl : es.length = es'.length) (hr : ∀ (i : Nat) r r', es[i]? = some r → es'[i]? = some r' → r.length = r'.length)
      (h : ∀ (i j : Nat) r r' c d, es[i]? = some r → es'[i]? = some r' → r[j]? = some c → r'[j]? = some d → dle c d) : dle (.lst sz es f) (.lst sz es' f)
  | agg {cs ds : List DV} (hl : cs.length = ds.length) (h : ∀ (i : Nat) c d, cs[i]? = some c → ds[i]? = some d → dle c d) : dle (.agg cs) (.agg ds)
  | tup {cs ds : List DV} (hl : cs.length = ds.length) (h : ∀ (i : Nat) c d, cs[i]? = some c → ds[i]? = some d → dle c d) : dle (.tup cs) (.tup ds)
  | junk {d : DV} : dle d .junk

def DleAll : List DV → List DV → Prop
  | [], [] => True
  | x :: r, y :: r' => dle x y ∧ DleAll r r'
  | _, _ => False
theorem DleAll_refl : ∀ l : List DV, DleAll l l
  | [] => trivial
  | _ :: r => ⟨.refl, DleAll_refl r⟩

/-! ## what a call answers -/
/-- data that nobody writes: the blocks in 'A' are shut out -/
inductive Imm (A : Nat → Prop) (w : World) : Value → DV → Prop
  | v {x : Value} (h : x.oneCell' = true) : Imm A w x (.v x)
  | lst {a : Addr} {n c sz : Nat} {es : List (List DV)} {full : Bool} (xs : Nat → Nat → Value) (hn : es.length = n) (hc : n ≤ c) (hm : c ≤ maxLen) (hf : full = true → c = n) (hsz : ∀ e ∈ es, e.length = sz)
      (hA : es ≠ [] → ¬ A a.block) (hb : es ≠ [] → a.block < w.heap.size) (hone : ∀ i j, (xs i j).oneCell' = true)
      (hcell : ∀ (i j : Nat) e d, es[i]? = some e → e[j]? = some d → w.cell? (a.add (i * sz + j)) = some (xs i j))
      (hx : ∀ (i j : Nat) e d, es[i]? = some e → e[j]? = some d → Imm A w (xs i j) d) : Imm A w (.slice (some a) n c) (.lst sz es full)
  | nil {sz : Nat} {full : Bool} : Imm A w (.slice none 0 0) (.lst sz [] full)
  | nl : Imm A w (.slice none 0 0) .nl
  | agg {vs : List Value} {ds : List DV} (hl : vs.length = ds.length) (hone : ∀ v ∈ vs, v.oneCell' = true) (h : ∀ (i : Nat) v d, vs[i]? = some v → ds[i]? = some d → Imm A w v d) : Imm A w (.agg vs.toArray) (.agg ds)
  | tup {vs : List Value} {ds : List DV} (hl : vs.length = ds.length) (h : ∀ (i : Nat) v d, vs[i]? = some v → ds[i]? = some d → Imm A w v d) : Imm A w (.tuple vs.toArray) (.tup ds)
  | ip {a : Addr} {cs : List DV} (xs : Nat → Value) (hA : ¬ A a.block) (hb : a.block < w.heap.size) (hone : ∀ i, (xs i).oneCell' = true) (hcell : ∀ (j : Nat) d, cs[j]? = some d → w.cell? (a.add j) = some (xs j)) (hx : ∀ (j : Nat) d, cs[j]? = some d → Imm A w (xs j) d) :
      Imm A w (.pointer (some a)) (.ip cs)
  | fn {f : Fn} {vs : List Value} {ds : List DV} (hl : vs.length = ds.length) (h : ∀ (i : Nat) v d, vs[i]? = some v → ds[i]? = some d → Imm A w v d) : Imm A w (.func f #[] vs.toArray) (.fn f ds)
  | wh {b : Bool} {d : DV} {x : Value} (h : b = true → Imm A w x d) (h0 : b = false → x = undef) : Imm A w x (.wh b d)
  | junk {x : Value} : Imm A w x .junk

def ImmAll (A : Nat → Prop) (w : World) : List Value → List DV → Prop
  | [], [] => True
  | v :: vs, d :: ds => Imm A w v d ∧ ImmAll A w vs ds
  | _, _ => False

/-! ## whose a block is -/
def blk : Value → Option Nat
  | .pointer (some a) => some a.block
  | .slice (some a) _ _ => some a.block
  | _ => none
/-- where a call starts: the world, the old blocks that it may write, the headers of the objects that it was handed -/
structure Home where
  w : World
  M : Nat → Prop
  gs : List Value
def Home.mine (h : Home) (b : Nat) : Prop := h.w.heap.size ≤ b ∨ h.M b
/-- of the old blocks none turns but those in 'M' -/
structure Grown (M : Nat → Prop) (w w' : World) : Prop where
  os : w'.os = w.os
  tape : w'.tape = w.tape
  output : w'.output = w.output
  size : w.heap.size ≤ w'.heap.size
  block : ∀ k, k < w.heap.size → ¬ M k → w'.heap[k]? = w.heap[k]?

abbrev Objs := List (Value × LObj)
inductive RepV (A : Nat → Prop) (os : Objs) (w : World) : Value → DV → Prop
  | imm {x : Value} {d : DV} (h : Imm A w x d) : RepV A os w x d
  | lp {i off g : Nat} {t : TypeId} {cs : List DV} (h : os[i]? = some (.pointer (some ⟨g, 0, none⟩), .cells t cs)) : RepV A os w (.pointer (some ⟨g, off, none⟩)) (.lp i off)
  | ap {i off g : Nat} {t : TypeId} {cs : List DV} (h : os[i]? = some (.pointer (some ⟨g, 0, none⟩), .cells t cs)) : RepV A os w (.pointer (some ⟨g, off, none⟩)) (.ap i off)
  | rp {i k off g n c : Nat} {e : TypeId} {sz : Nat} {es : List (List DV)} (h : os[i]? = some (.slice (some ⟨g, 0, none⟩) n c, .row e sz es)) : RepV A os w (.pointer (some ⟨g, k * sz + off, none⟩)) (.rp i k off)
  | own {i : Nat} {x : Value} {e : TypeId} {sz : Nat} {es : List (List DV)} (h : os[i]? = some (x, .row e sz es)) (h1 : x.oneCell' = true) : RepV A os w x (.own i)
  | stale {i : Nat} {x y : Value} {d : DV} (h : os[i]? = some (y, .gone)) (hd : d = .own i ∨ ∃ k off, d = .rp i k off) (h1 : x.oneCell' = true) : RepV A os w x d
  | agg {vs : List Value} {ds : List DV} (hl : vs.length = ds.length) (hone : ∀ v ∈ vs, v.oneCell' = true) (h : ∀ (i : Nat) v d, vs[i]? = some v → ds[i]? = some d → RepV A os w v d) : RepV A os w (.agg vs.toArray) (.agg ds)
  | fn {f : Fn} {vs : List Value} {ds : List DV} (hl : vs.length = ds.length) (hcap : ∀ d ∈ ds, isCap d = true) (h : ∀ (i : Nat) v d, vs[i]? = some v → ds[i]? = some d → RepV A os w v d) : RepV A os w (.func f #[] vs.toArray) (.fn f ds)
  | wh {b : Bool} {d : DV} {x : Value} (h : b = true → RepV A os w x d) (h0 : b = false → x = undef) : RepV A os w x (.wh b d)

def ObjOk (A : Nat → Prop) (os : Objs) (B : Home) (w : World) (x : Value) (o : LObj) : Prop :=
  match o with
  | .dead => True
  | .gone => blk x = none
  | .gh ds => x = .tuple B.gs.toArray ∧ B.gs.length = ds.length ∧ (∀ v ∈ B.gs, v.oneCell' = true) ∧ ∀ (i : Nat) v d, B.gs[i]? = some v → ds[i]? = some d → RepV A os w v d
  | .cells t cs => ∃ g arr, x = .pointer (some ⟨g, 0, none⟩) ∧ B.mine g ∧ w.heap[g]? = some (.cells arr t (0, 0)) ∧ arr.size = cs.length ∧ (∀ v ∈ arr.toList, v.oneCell' = true) ∧
      ∀ (j : Nat) v d, arr[j]? = some v → cs[j]? = some d → RepV A os w v d
  | .row e sz es => (∀ b, blk x = some b → B.mine b) ∧ ∃ xs, w.ownsRow 0 e sz x es.length xs ∧ 0 < sz ∧ (∀ r ∈ es, r.length = sz) ∧ (∀ v ∈ xs, v.oneCell' = true) ∧
      ∀ (k j : Nat) r d, es[k]? = some r → r[j]? = some d → ∃ v, xs[k * sz + j]? = some v ∧ Imm A w v d
def ObjsOk (A : Nat → Prop) (os : Objs) (B : Home) (w : World) : Prop := ∀ (i : Nat) x o, os[i]? = some (x, o) → ObjOk A os B w x o

def avoid (A0 : Nat → Prop) (os : Objs) (b : Nat) : Prop := A0 b ∨ ∃ (i : Nat) (x : Value) (o : LObj), os[i]? = some (x, o) ∧ o ≠ .dead ∧ blk x = some b


/-! ## a call that is handed objects -/
def ofOs (os : Objs) (b : Nat) : Prop := ∃ (i : Nat) (x : Value) (o : LObj), os[i]? = some (x, o) ∧ o ≠ .dead ∧ blk x = some b
def anyHome (w : World) : Home := ⟨w, fun _ => True, []⟩
/-- objects lie in a world -/
structure Laid (A : Nat → Prop) (os : Objs) (L : List LObj) (w : World) : Prop where
  loc : os.map (·.2) = L
  obj : ObjsOk (avoid A os) os (anyHome w) w
  inj : ∀ (i j : Nat) x o y o' b, os[i]? = some (x, o) → os[j]? = some (y, o') → o ≠ .dead → o' ≠ .dead → blk x = some b → blk y = some b → i = j
  out : ∀ b, A b → ¬ ofOs os b
def RepAll (A : Nat → Prop) (os : Objs) (w : World) : List Value → List DV → Prop
  | [], [] => True
  | v :: vs, d :: ds => RepV A os w v d ∧ RepAll A os w vs ds
  | _, _ => False
/-- THE CONTRACT OF A CALL THAT IS HANDED OBJECTS: of the blocks that were there none turns but those of the objects 'L'; behind it they are 'L'' (and new ones); where 'kept' says so an object's header is the same. -/
def RetM (P : Program) (f : FuncId) (L : List LObj) (args : List DV) (kept : List Bool) (L' : List LObj) (d : DV) : Prop :=
  (∀ (vs : Array Value) (w : World), (callFunc f vs).run P w = .ok (.enter f vs) w) ∧ ∀ (A : Nat → Prop) (w : World) (os : Objs) (vals : List Value), (∀ b, A b → b < w.heap.size) → Laid A os L w → RepAll (avoid A os) os w vals args →
    Calls P f vals.toArray w fun e w' => ∃ v os', e = .returned v ∧ Laid A os' L' w' ∧ RepV (avoid A os') os' w' v d ∧ Grown (ofOs os) w w' ∧ (∀ b, ofOs os' b → ofOs os b ∨ w.heap.size ≤ b) ∧
      ∀ (i : Nat) x o, kept[i]? = some true → os[i]? = some (x, o) → ∃ o', os'[i]? = some (x, o')

inductive ole : LObj → LObj → Prop
  | refl {o : LObj} : ole o o
  | cells {t : TypeId} {cs ds : List DV} (hl : cs.length = ds.length) (h : ∀ (i : Nat) c d, cs[i]? = some c → ds[i]? = some d → dle c d) : ole (.cells t cs) (.cells t ds)
  | gh {cs ds : List DV} (hl : cs.length = ds.length) (h : ∀ (i : Nat) c d, cs[i]? = some c → ds[i]? = some d → dle c d) : ole (.gh cs) (.gh ds)
  | dead {o : LObj} : ole o .dead
def bnd0 (l : List LObj) : DV → Bool
  | .own i | .rp i _ _ => isRow (lget l i)
  | .lp i _ | .ap i _ => isCells (lget l i)
  | .fn _ caps => caps.all fun d => match d with
    | .lp i _ => isCells (lget l i)
    | _ => true
  | .agg _ | .tup _ | .wh .. => false
  | _ => true
def bnd (l : List LObj) : DV → Bool
  | .agg cs => cs.all (bnd0 l)
  | d => bnd0 l d
def bndE (l : List LObj) : List (Nat × DV) → Bool
  | [] => true
  | p :: r => bnd l p.2 && bndE l r
def bndL (l : List LObj) : List LObj → Bool
  | [] => true
  | .cells _ cs :: r => cs.all (bnd0 l) && bndL l r
  | .gh cs :: r => cs.all (bnd0 l) && bndL l r
  | _ :: r => bndL l r
def nth : List Nat → Nat → Nat
  | [], _ => 0
  | i :: _, 0 => i
  | _ :: r, k + 1 => nth r k
/-- the callee's names of objects turned into the caller's -/
def mvC (ρ : Nat → Nat) : DV → DV
  | .lp j o => .lp (ρ j) o
  | d => d
def mv0 (ρ : Nat → Nat) : DV → DV
  | .own j => .own (ρ j)
  | .lp j o => .lp (ρ j) o
  | .ap j o => .ap (ρ j) o
  | .rp j k o => .rp (ρ j) k o
  | .fn f caps => .fn f (caps.map (mvC ρ))
  | .wh b d => .wh b (mv0 ρ d)
  | d => d
def mvT (ρ : Nat → Nat) : DV → DV
  | .agg cs => .agg (cs.map (mv0 ρ))
  | .wh b d => .wh b (mvT ρ d)
  | d => mv0 ρ d
def mvO (ρ : Nat → Nat) : LObj → LObj
  | .cells t cs => .cells t (cs.map (mv0 ρ))
  | .gh _ => .dead
  | o => o
/-- handles to these objects are void -/
def jkC (J : List Nat) : DV → Bool
  | .lp j _ => J.contains j
  | _ => false
def jk0 (J : List Nat) : DV → DV
  | .own j => match J.contains j with | true => .junk | false => .own j
  | .lp j o => match J.contains j with | true => .junk | false => .lp j o
  | .ap j o => match J.contains j with | true => .junk | false => .ap j o
  | .rp j k o => match J.contains j with | true => .junk | false => .rp j k o
  | .fn f caps => match caps.any (jkC J) with | true => .junk | false => .fn f caps
  | .wh b d => .wh b (jk0 J d)
  | d => d
def jkT (J : List Nat) : DV → DV
  | .agg cs => .agg (cs.map (jk0 J))
  | .wh b d => .wh b (jkT J d)
  | d => jk0 J d
def notKept : List Nat → List Bool → List Nat
  | i :: r, true :: k => notKept r k
  | i :: r, _ :: k => i :: notKept r k
  | r, [] => r
  | [], _ => []
def setAll : List LObj → List Nat → List LObj → List LObj
  | l, i :: r, o :: r' => setAll (lset l i o) r r'
  | l, _, _ => l
def voidE (J : List Nat) (e : List (Nat × DV)) : List (Nat × DV) :=
  match J with
  | [] => e
  | _ => mapE (jkT J) e
def voidL (J : List Nat) (l : List LObj) : List LObj :=
  match J with
  | [] => l
  | _ => mapL (jk0 J) l
def afterC (s : DS) (tgt : List Nat) (J : List Nat) (L' : List LObj) : DS :=
  ⟨voidE J s.env, setAll (voidL J s.loc) tgt (L'.map (mvO (nth tgt)))⟩
def sameKind : LObj → LObj → Bool
  | .row e sz _, .row e' sz' _ => Nat.beq e e' && Nat.beq sz sz'
  | .cells t _, .cells t' _ => Nat.beq t t'
  | _, _ => false
def keptOk : List Bool → List LObj → List LObj → Bool
  | [], [], _ => true
  | k :: r, o :: l, o' :: l' => (!k || sameKind o o') && keptOk r l l'
  | _, _, _ => false
def nodupB : List Nat → Bool
  | [] => true
  | i :: r => !r.contains i && nodupB r
def noGh : List LObj → Bool
  | [] => true
  | .gh _ :: _ => false
  | _ :: r => noGh r
def objsM (loc : List LObj) (ρ : Nat → Nat) : List Nat → List LObj → Prop
  | [], [] => True
  | i :: r, o :: r' => ole (lget loc i) (mvO ρ o) ∧ objsM loc ρ r r'
  | _, _ => False
def from' : Nat → Nat → List Nat
  | _, 0 => []
  | i, q + 1 => i :: from' (i + 1) q
def lendX0 (pass : List Nat) (loc : List LObj) (d : DV) (K : DV → Prop) : Prop :=
  match d with
  | .own j => match pass.contains j with
    | true => K (.own j)
    | false => lend0 loc (.own j) K
  | .lp j o => match pass.contains j with
    | true => K (.lp j o)
    | false => lend0 loc (.lp j o) K
  | .ap j o => match pass.contains j with
    | true => K (.ap j o)
    | false => False
  | .rp j k o => match pass.contains j with
    | true => K (.rp j k o)
    | false => False
  | .fn f caps => match caps.any (jkC pass) with
    | true => False
    | false => lend0 loc (.fn f caps) K
  | d => lend0 loc d K
def lendXL (pass : List Nat) (loc : List LObj) : List DV → (List DV → Prop) → Prop
  | [], K => K []
  | d :: r, K => lendX0 pass loc d fun d => lendXL pass loc r fun l => K (d :: l)
def lendX (pass : List Nat) (loc : List LObj) (d : DV) (K : DV → Prop) : Prop :=
  match d with
  | .agg cs => lendXL pass loc cs fun l => K (.agg l)
  | d => lendX0 pass loc d K
def lendXA (pass : List Nat) (loc : List LObj) : List DV → (List DV → Prop) → Prop
  | [], K => K []
  | d :: r, K => lendX pass loc d fun d => lendXA pass loc r fun l => K (d :: l)
def ownsX (pass : List Nat) (args : List DV) : List DV := (owns args).filter fun d => match d with
  | .own j | .lp j _ => !pass.contains j
  | _ => true
/-- THE CONTRACT: called with values that read as 'args' the function returns, what it hands back reads as 'd', and of what was there nothing turns. -/
def Ret (P : Program) (f : FuncId) (args : List DV) (d : DV) : Prop :=
  (∀ (vs : Array Value) (w : World), (callFunc f vs).run P w = .ok (.enter f vs) w) ∧ ∀ (A : Nat → Prop) (w : World) (vals : List Value), (∀ b, A b → b < w.heap.size) → ImmAll A w vals args →
    Calls P f vals.toArray w fun e w' => ∃ v, e = .returned v ∧ Imm A w' v d ∧ w.grownBy w' none

/-! ## the stateful operations -/
def dcall (P : Program) (f : FuncId) (args : List DV) (s : DS) (K : DV → DS → Prop) : Prop :=
  lendA s.loc args fun l => ∃ l' r, DleAll l l' ∧ Ret P f l' r ∧ match owns args with
    | [] => K r s
    | os => match scalar r with
      | true => K r s
      | false => shutIn os s fun s => K r s

/-- the same, handed objects: 'pass' says which -/
def dcallM (P : Program) (f : FuncId) (args : List DV) (s : DS) (K : DV → DS → Prop) : Prop :=
  ∃ pass : List Nat, lendXA pass s.loc args fun l => shutIn (ownsX pass args) s fun s => ∃ (L : List LObj) (args0 : List DV) (kept : List Bool) (L' : List LObj) (d : DV),
    RetM P f L args0 kept L' d ∧ (keptOk kept L L' && noGh L && nodupB pass && pass.all (fun i => Nat.blt i s.loc.length) && args0.all (bnd L) && bndL L L) = true ∧
    objsM s.loc (nth (pass ++ from' s.loc.length (L'.length - L.length))) pass L ∧ DleAll l (args0.map (mvT (nth (pass ++ from' s.loc.length (L'.length - L.length))))) ∧
    K (mvT (nth (pass ++ from' s.loc.length (L'.length - L.length))) d) (afterC ⟨s.env, s.loc ++ List.replicate (L'.length - L.length) .dead⟩ (pass ++ from' s.loc.length (L'.length - L.length)) (notKept pass kept) L')

def elemsK (ρ : Operand → DV) (size : Nat) : List (Nat × Operand) → List (List DV) → (List (List DV) → Prop) → Prop
  | [], es, K => K es
  | (i, x) :: r, es, K => frc (ρ x) fun d => match Nat.beq (dcells d).length size && Nat.blt i es.length && plainAll (dcells d) with
    | true => elemsK ρ size r (es.set i (dcells d)) K
    | false => False

/-- the operands' own rows become lists -/
def shutOps (s : DS) : List Operand → (DS → Prop) → Prop
  | [], K => K s
  | x :: r, K => frc (ev s x) fun d => shutIn (owns [d]) s fun s' => shutOps s' r K

/-- the elements that an append takes over; the second word: does the operand tell that there are some? -/
def dNews (tt : TT) (e : TypeId) (loc : List LObj) (d : DV) (K : List (List DV) → Bool → Prop) : Prop :=
  match d with
  | .nl => K [] false
  | .lst sz es _ => match Nat.beq sz (tinfo tt e).size with
    | true => K es false
    | false => False
  | .own j => match lget loc j with
    | .row _ sz es => match Nat.beq sz (tinfo tt e).size with
      | true => K es true
      | false => False
    | _ => False
  | _ => False
def fitsIn (tt : TT) (e : TypeId) (n : Nat) : Prop := n * (tinfo tt e).bytes ≤ 140737488355328 ∧ n ≤ maxLen
def dAppend (tt : TT) (e : TypeId) (s : DS) (dst : Option Tmp) (x y : DV) (K : DS → Prop) : Prop :=
  dNews tt e s.loc y fun ys some => match x with
    | .nl => fitsIn tt e ys.length ∧ putK ⟨s.env, s.loc ++ [.row e (tinfo tt e).size ys]⟩ dst (.own s.loc.length) K
    | .own i => match lget s.loc i with
      | .row e' sz es => match Nat.beq e' e && Nat.beq sz (tinfo tt e).size with
        | true => fitsIn tt e (es.length + ys.length) ∧ putK (s.grow i e sz (es ++ ys)) dst (.own i) K
        | false => False
      | _ => False
    | .lst sz es true => match Nat.beq sz (tinfo tt e).size with
      | true => fitsIn tt e (es.length + ys.length) ∧ match some with
        | true => 0 < ys.length ∧ putK ⟨s.env, s.loc ++ [.row e sz (es ++ ys)]⟩ dst (.own s.loc.length) K
        | false => putK s dst (.lst sz (es ++ ys) false) K
      | false => False
    | _ => False
def dCopy (tt : TT) (e : TypeId) (s : DS) (dst : Option Tmp) (x y : DV) (K : DS → Prop) : Prop :=
  dNews tt e s.loc y fun ys _ => match x with
    | .nl => putK s dst (.v (.int .i64 (0 : Nat))) K
    | .own i => match lget s.loc i with
      | .row e' sz es => match Nat.beq e' e && Nat.beq sz (tinfo tt e).size with
        | true => putK ⟨s.env, lset s.loc i (.row e sz (ys.take es.length ++ es.drop ys.length))⟩ dst (.v (.int .i64 (Nat.min ys.length es.length : Nat))) K
        | false => False
      | _ => False
    | _ => False

def dStoreRow (tt : TT) (s : DS) (dst : Option Tmp) (t : TypeId) (x d : DV) (K : DS → Prop) : Prop :=
  match x with
  | .rp i k off => match plainAll (dcells d), lget s.loc i with
    | true, .row e sz es => ∃ ed, es[k]? = some ed ∧ match Nat.beq (dcells d).length (tinfo tt t).size && Nat.ble (off + (dcells d).length) sz with
      | true => putK ⟨s.env, lset s.loc i (.row e sz (es.set k (dsplice ed off (dcells d))))⟩ dst (.wh false (.v (.bool false))) K
      | false => False
    | _, _ => False
  | _ => False
def dStore (tt : TT) (s : DS) (dst : Option Tmp) (t : TypeId) (a y : Operand) (d : DV) (K : DS → Prop) : Prop :=
  match (tinfo tt t).size with
  | 0 => False
  | _ => match ev s a with
    | .lp i off => match lget s.loc i with
      | .cells t' cs => match Nat.beq (dcells d).length (tinfo tt t).size && Nat.ble (off + (dcells d).length) cs.length with
        | false => False
        | true => putK ⟨s.env, lset s.loc i (.cells t' (dsplice cs off (dcells d)))⟩ dst (.wh false (.v (.bool false))) K
      | _ => False
    | .ap i off => match lget s.loc i with
      | .cells t' cs => match Nat.beq (dcells d).length (tinfo tt t).size with
        | true => off + (dcells d).length ≤ cs.length ∧ putK ⟨s.env, lset s.loc i (.cells t' (dsplice cs off (dcells d)))⟩ dst (.wh false (.v (.bool false))) K
        | false => False
      | _ => False
    | .rp _ _ _ => shutIn (owns [d]) s fun s => frc (ev s y) fun d => dStoreRow tt s dst t (ev s a) d K
    | _ => False

def dop (tt : TT) (P : Program) (o : Oper) (s : DS) (K : DS → Prop) : Prop :=
  match isVal o.op (ev s) with
  | true => dval tt s.loc o.op (ev s) fun c d => needs c (putK s o.dst d K)
  | false => match o.op with
    | .alloc t => match (tinfo tt t).size with
      | 0 => False
      | _ => putK ⟨s.env, s.loc ++ [.cells t (tinfo tt t).zero]⟩ o.dst (.lp s.loc.length 0) K
    | .box t x => frc (ev s x) fun d => match d with
      | .agg cs => putK ⟨s.env, s.loc ++ [.cells t cs]⟩ o.dst (.lp s.loc.length 0) K
      | .wh .. | .tup _ | .junk => False
      | d => putK ⟨s.env, s.loc ++ [.cells t [d]]⟩ o.dst (.lp s.loc.length 0) K
    | .store t a x => frc (ev s x) fun d => match d with
      | .wh .. | .tup _ | .junk => False
      | d => dStore tt s o.dst t a x d K
    | .buildSlice t n parts => match (tinfo tt t).k with
      | .slc e => match (tinfo tt e).size, Nat.ble (n * (tinfo tt e).size) 16777216 with
        | _ + 1, true => shutOps s (parts.toList.map (·.2)) fun s => elemsK (ev s) (tinfo tt e).size parts.toList (List.replicate n (tinfo tt e).zero) fun es =>
          putK ⟨s.env, s.loc ++ [.row e (tinfo tt e).size es]⟩ o.dst (.own s.loc.length) K
        | _, _ => False
      | _ => False
    | .makeSlice t l c => match (tinfo tt t).k with
      | .slc e => match (tinfo tt e).size, ev s l, ev s c with
        | _ + 1, .v (.int _ l), .v (.int _ c) => ∃ n m : Nat, l = n ∧ c = m ∧ n ≤ m ∧ m * (tinfo tt e).bytes ≤ 140737488355328 ∧ m ≤ maxLen ∧
            putK ⟨s.env, s.loc ++ [.row e (tinfo tt e).size (List.replicate n (tinfo tt e).zero)]⟩ o.dst (.own s.loc.length) K
        | _, _, _ => False
      | _ => False
    | .slice t x lo hi mx => match ev s x with
      | .own j => match lget s.loc j with
        | .row _ sz es => dval tt (s.shut j sz es).loc (.slice t x lo hi mx) (ev (s.shut j sz es)) fun c d => needs c (putK (s.shut j sz es) o.dst d K)
        | _ => False
      | _ => False
    | .convert src dst x => match ev s x with
      | .own j => match lget s.loc j with
        | .row _ sz es => dval tt (s.shut j sz es).loc (.convert src dst x) (ev (s.shut j sz es)) fun c d => needs c (putK (s.shut j sz es) o.dst d K)
        | _ => False
      | _ => False
    | .call { callee := .builtin .append, args, argTypes } => match args.toList, argTypes.toList with
      | [x, y], [t, t'] => match Nat.beq t t', (tinfo tt t).k with
        | true, .slc e => match (tinfo tt e).size with
          | 0 => False
          | _ => dAppend tt e s o.dst (ev s x) (ev s y) K
        | _, _ => False
      | _, _ => False
    | .call { callee := .builtin .copy, args, argTypes } => match args.toList, argTypes.toList with
      | [x, y], [t, t'] => match Nat.beq t t', (tinfo tt t).k with
        | true, .slc e => match (tinfo tt e).size with
          | 0 => False
          | _ => dCopy tt e s o.dst (ev s x) (ev s y) K
        | _, _ => False
      | _, _ => False
    | .call { callee := .value f, args, .. } => match ev s f with
      | .fn (.func n) caps => evL (ev s) args.toList fun l => dcall P n (l ++ caps) s (fun r s => putK s o.dst r K) ∨ dcallM P n (l ++ caps) s (fun r s => putK s o.dst r K)
      | _ => False
    | _ => False

/-- the conditions under which guarded operands are there -/
def oblAll (b : Bool) (s : DS) : List Operand → (Option Prop → Prop) → Prop
  | [], K => K none
  | x :: r, K => match ev s x with
    | .wh g _ => oblAll b s r fun c => K (andO (some (b = true → g = true)) c)
    | _ => oblAll b s r K
def under (g : Bool) : Option Prop → Option Prop
  | none => none
  | some c => some (g = true → c)
def strip (d : DV) : DV :=
  match d with
  | .wh _ d => d
  | d => d
def bare (s : DS) (x : Operand) : DV := strip (ev s x)

def dguard0 (tt : TT) (P : Program) (o : Oper) (g : Bool) (s : DS) (K : DS → Prop) : Prop :=
  match isVal o.op (bare s) with
  | true => oblAll g s o.op.operands.toList fun c0 => dval tt s.loc o.op (bare s) fun c d => needs (andO c0 (under g c)) (putK s o.dst (.wh g d) K)
  | false => match o.op with
    | .call { callee := .value f, args, .. } => match bare s f with
      | .fn (.func n) caps => oblAll g s o.op.operands.toList fun c0 => evL (bare s) args.toList fun l => lendA s.loc (l ++ caps) fun l1 => ∃ l' r, DleAll l1 l' ∧ (g = true → Ret P n l' r) ∧ needs c0 (match owns (l ++ caps) with
        | [] => putK s o.dst (.wh g r) K
        | _ => match scalar r with
          | true => putK s o.dst (.wh g r) K
          | false => False)
      | _ => False
    | _ => (g = true → dop tt P o s K) ∧ (g = false → putK s o.dst (.wh false (.v (.bool false))) K)

/-- a choice under a guard: each side is wanted only where it is chosen -/
def dgPick (s : DS) (g : Bool) (c a b : Operand) (K : Option Prop → DV → Prop) : Prop :=
  oblAll g s [c] fun c0 => match bare s c with
  | .v (.bool t) => obl (g && t) (ev s a) fun c1 x => obl (g && !t) (ev s b) fun c2 y => frc x fun x => frc y fun y => dpickV t x y (isConstTrue a) (isConstFalse b) fun d => K (andO c0 (andO c1 c2)) d
  | _ => False
def dguard (tt : TT) (P : Program) (o : Oper) (g : Bool) (s : DS) (K : DS → Prop) : Prop :=
  match o.op with
  | .pick c a b => dgPick s g c a b fun c d => needs c (putK s o.dst (.wh g d) K)
  | _ => dguard0 tt P o g s K

def guardOf (all : List Oper) (s : DS) (j : Nat) : DV :=
  match all[j]? with
  | some o => match o.dst with
    | some t => look s.env t
    | none => .junk
  | none => .junk
def wantK (b want : Bool) (K : Bool → Prop) : Prop :=
  match want with
  | true => K b
  | false => K (!b)

def dops (tt : TT) (P : Program) (all : List Oper) : List Oper → (DS → Prop) → DS → Prop
  | [], K, s => K s
  | o :: r, K, s => match o.guard with
    | none => dop tt P o s fun s => dops tt P all r K s
    | some (j, want) => match guardOf all s j with
      | .v (.bool b) => wantK b want fun g => dguard tt P o g s fun s => dops tt P all r K s
      | .wh g (.v (.bool b)) => wantK b want fun g' => dguard tt P o (g && g') s fun s => dops tt P all r K s
      | _ => False

def dcond (b : Bool) (x y : Prop) : Prop :=
  match b with
  | true => x
  | false => y
theorem dcond_intro {b : Bool} {x y : Prop} (h : b = true → x) (h' : b = false → y) : dcond b x y := by
  cases b
  · exact h' rfl
  · exact h rfl

/-! ## regions whose order is drawn: every operation with what it reads and what it writes -/
structure TE where
  puts : List (Nat × DV)
  rd : List Nat
  wr : List (Nat × LObj)
  mv : List (Nat × Nat)
def lsets : List LObj → List (Nat × LObj) → List LObj
  | l, [] => l
  | l, p :: r => lsets (lset l p.1 p.2) r
def TE.app (te : TE) (s : DS) : DS := ⟨te.puts ++ s.env, lsets s.loc te.wr⟩
def consK : List (Nat × DV) → List (Nat × DV) → (List (Nat × DV) → Prop) → Prop
  | [], e, K => K e
  | p :: r, e, K => consK r e fun e => K (p :: e)
/-- the same, the state handed on in head form -/
def TE.appK (te : TE) (s : DS) (K : DS → Prop) : Prop :=
  match te, s with
  | ⟨puts, _, wr, _⟩, ⟨e, l⟩ => consK puts e fun e => match wr with
    | [] => K ⟨e, l⟩
    | _ => forceL (lsets l wr) fun l => K ⟨e, l⟩
def refsC : DV → List Nat
  | .lp i _ => [i]
  | _ => []
def refs0 : DV → List Nat
  | .lp i _ | .ap i _ | .rp i _ _ | .own i => [i]
  | .fn _ caps => caps.flatMap refsC
  | _ => []
def refs : DV → List Nat
  | .agg cs => cs.flatMap refs0
  | .wh _ d => refs d
  | d => refs0 d
def opRefs (ρ : Operand → DV) (l : List Operand) : List Nat := l.flatMap fun x => refs (ρ x)
def dputs (dst : Option Tmp) (d : DV) : List (Nat × DV) :=
  match dst with
  | some t => [(t, d)]
  | none => []
def isDead : LObj → Bool
  | .dead => true
  | _ => false
def freeAt (l : List LObj) (i : Nat) : Bool := Nat.blt i l.length && isDead (lget l i)

def rStore (tt : TT) (s : DS) (dst : Option Tmp) (t : TypeId) (a : Operand) (d : DV) (K : TE → Prop) : Prop :=
  match (tinfo tt t).size with
  | 0 => False
  | _ => match ev s a with
    | .lp i off => match lget s.loc i with
      | .cells t' cs => match Nat.beq (dcells d).length (tinfo tt t).size && Nat.ble (off + (dcells d).length) cs.length with
        | false => False
        | true => K ⟨dputs dst (.wh false (.v (.bool false))), i :: refs d, [(i, .cells t' (dsplice cs off (dcells d)))], []⟩
      | _ => False
    | .ap i off => match lget s.loc i with
      | .cells t' cs => match Nat.beq (dcells d).length (tinfo tt t).size with
        | true => off + (dcells d).length ≤ cs.length ∧ K ⟨dputs dst (.wh false (.v (.bool false))), i :: refs d, [(i, .cells t' (dsplice cs off (dcells d)))], []⟩
        | false => False
      | _ => False
    | .rp i k off => match plainAll (dcells d), lget s.loc i with
      | true, .row e sz es => ∃ ed, es[k]? = some ed ∧ match Nat.beq (dcells d).length (tinfo tt t).size && Nat.ble (off + (dcells d).length) sz with
        | true => K ⟨dputs dst (.wh false (.v (.bool false))), i :: refs d, [(i, .row e sz (es.set k (dsplice ed off (dcells d))))], []⟩
        | false => False
      | _, _ => False
    | _ => False

def rAppend (tt : TT) (e : TypeId) (s : DS) (idx : Nat) (dst : Option Tmp) (x y : DV) (K : TE → Nat → Prop) : Prop :=
  dNews tt e s.loc y fun ys some => match x with
    | .nl => match freeAt s.loc idx with
      | true => fitsIn tt e ys.length ∧ K ⟨dputs dst (.own idx), refs y, [(idx, .row e (tinfo tt e).size ys)], []⟩ (idx + 1)
      | false => False
    | .own i => match lget s.loc i with
      | .row e' sz es => match Nat.beq e' e && Nat.beq sz (tinfo tt e).size && freeAt s.loc idx with
        | true => fitsIn tt e (es.length + ys.length) ∧ K ⟨dputs dst (.own idx), i :: refs y, [(i, .gone), (idx, .row e sz (es ++ ys))], [(idx, i)]⟩ (idx + 1)
        | false => False
      | _ => False
    | .lst sz es true => match Nat.beq sz (tinfo tt e).size with
      | true => fitsIn tt e (es.length + ys.length) ∧ match some with
        | true => match freeAt s.loc idx with
          | true => 0 < ys.length ∧ K ⟨dputs dst (.own idx), refs y, [(idx, .row e sz (es ++ ys))], []⟩ (idx + 1)
          | false => False
        | false => K ⟨dputs dst (.lst sz (es ++ ys) false), refs y, [], []⟩ idx
      | false => False
    | _ => False
def rCopy (tt : TT) (e : TypeId) (s : DS) (dst : Option Tmp) (x y : DV) (K : TE → Prop) : Prop :=
  dNews tt e s.loc y fun ys _ => match x with
    | .nl => K ⟨dputs dst (.v (.int .i64 (0 : Nat))), refs y, [], []⟩
    | .own i => match lget s.loc i with
      | .row e' sz es => match Nat.beq e' e && Nat.beq sz (tinfo tt e).size with
        | true => K ⟨dputs dst (.v (.int .i64 (Nat.min ys.length es.length : Nat))), i :: refs y, [(i, .row e sz (ys.take es.length ++ es.drop ys.length))], []⟩
        | false => False
      | _ => False
    | _ => False

/-- a call that is handed objects, all of whose headers it leaves as they were -/
def ropM (P : Program) (f : FuncId) (args : List DV) (s : DS) (idx : Nat) (dst : Option Tmp) (rd : List Nat) (K : TE → Nat → Prop) : Prop :=
  ∃ (pass : List Nat) (L : List LObj) (args0 : List DV) (kept : List Bool) (L' : List LObj) (d : DV),
    RetM P f L args0 kept L' d ∧ (keptOk kept L L' && noGh L && nodupB (pass ++ from' idx (L'.length - L.length)) && pass.all (fun i => Nat.blt i s.loc.length) && args0.all (bnd L) && bndL L L && kept.all (fun b => b) && (from' idx (L'.length - L.length)).all (freeAt s.loc)) = true ∧
    objsM s.loc (nth (pass ++ from' idx (L'.length - L.length))) pass L ∧ DleAll args (args0.map (mvT (nth (pass ++ from' idx (L'.length - L.length))))) ∧
    K ⟨dputs dst (mvT (nth (pass ++ from' idx (L'.length - L.length))) d), rd ++ pass, (pass ++ from' idx (L'.length - L.length)).zip (L'.map (mvO (nth (pass ++ from' idx (L'.length - L.length))))), []⟩ (idx + (L'.length - L.length))
def rop1 (tt : TT) (P : Program) (o : Oper) (idx : Nat) (s : DS) (K : TE → Nat → Prop) : Prop :=
  match isVal o.op (ev s) with
  | true => dval tt s.loc o.op (ev s) fun c d => needs c (K ⟨dputs o.dst d, opRefs (ev s) o.op.operands.toList, [], []⟩ idx)
  | false => match o.op with
    | .alloc t => match (tinfo tt t).size, freeAt s.loc idx with
      | _ + 1, true => K ⟨dputs o.dst (.lp idx 0), [], [(idx, .cells t (tinfo tt t).zero)], []⟩ (idx + 1)
      | _, _ => False
    | .box t x => match freeAt s.loc idx with
      | true => frc (ev s x) fun d => match d with
        | .agg cs => K ⟨dputs o.dst (.lp idx 0), refs (.agg cs), [(idx, .cells t cs)], []⟩ (idx + 1)
        | .wh .. | .tup _ | .junk => False
        | d => K ⟨dputs o.dst (.lp idx 0), refs d, [(idx, .cells t [d])], []⟩ (idx + 1)
      | false => False
    | .call { callee := .builtin .append, args, argTypes } => match args.toList, argTypes.toList with
      | [x, y], [t, t'] => match Nat.beq t t', (tinfo tt t).k with
        | true, .slc e => match (tinfo tt e).size with
          | 0 => False
          | _ => rAppend tt e s idx o.dst (ev s x) (ev s y) K
        | _, _ => False
      | _, _ => False
    | .call { callee := .builtin .copy, args, argTypes } => match args.toList, argTypes.toList with
      | [x, y], [t, t'] => match Nat.beq t t', (tinfo tt t).k with
        | true, .slc e => match (tinfo tt e).size with
          | 0 => False
          | _ => rCopy tt e s o.dst (ev s x) (ev s y) fun te => K te idx
        | _, _ => False
      | _, _ => False
    | .store t a x => frc (ev s x) fun d => match d with
      | .wh .. | .tup _ | .junk => False
      | d => rStore tt s o.dst t a d fun te => K te idx
    | .buildSlice t n parts => match (tinfo tt t).k with
      | .slc e => match (tinfo tt e).size, Nat.ble (n * (tinfo tt e).size) 16777216 with
        | _ + 1, true => elemsK (ev s) (tinfo tt e).size parts.toList (List.replicate n (tinfo tt e).zero) fun es =>
          K ⟨dputs o.dst (.lst (tinfo tt e).size es false), [], [], []⟩ idx
        | _, _ => False
      | _ => False
    | .makeSlice t l c => match (tinfo tt t).k with
      | .slc e => match (tinfo tt e).size, ev s l, ev s c, freeAt s.loc idx with
        | _ + 1, .v (.int _ l), .v (.int _ c), true => ∃ n m : Nat, l = n ∧ c = m ∧ n ≤ m ∧ m * (tinfo tt e).bytes ≤ 140737488355328 ∧ m ≤ maxLen ∧
            K ⟨dputs o.dst (.own idx), [], [(idx, .row e (tinfo tt e).size (List.replicate n (tinfo tt e).zero))], []⟩ (idx + 1)
        | _, _, _, _ => False
      | _ => False
    | .call { callee := .value f, args, .. } => match ev s f with
      | .fn (.func n) caps => evL (ev s) args.toList fun l => (lendA s.loc (l ++ caps) fun l1 => ∃ l' r, DleAll l1 l' ∧ Ret P n l' r ∧ match owns (l ++ caps) with
        | [] => K ⟨dputs o.dst r, opRefs (ev s) o.op.operands.toList ++ caps.flatMap refs, [], []⟩ idx
        | _ => match scalar r with
          | true => K ⟨dputs o.dst r, opRefs (ev s) o.op.operands.toList ++ caps.flatMap refs, [], []⟩ idx
          | false => False) ∨ ropM P n (l ++ caps) s idx o.dst (opRefs (ev s) o.op.operands.toList) K
      | _ => False
    | _ => False
def ropG (tt : TT) (P : Program) (o : Oper) (g : Bool) (idx : Nat) (s : DS) (K : TE → Nat → Prop) : Prop :=
  match o.op with
  | .pick c a b => dgPick s g c a b fun c d => needs c (K ⟨dputs o.dst (.wh g d), opRefs (ev s) o.op.operands.toList, [], []⟩ idx)
  | _ => match isVal o.op (bare s) with
    | true => oblAll g s o.op.operands.toList fun c0 => dval tt s.loc o.op (bare s) fun c d => needs (andO c0 (under g c)) (K ⟨dputs o.dst (.wh g d), opRefs (bare s) o.op.operands.toList, [], []⟩ idx)
    | false => match o.op with
      | .call { callee := .value f, args, .. } => match bare s f with
        | .fn (.func n) caps => oblAll g s o.op.operands.toList fun c0 => evL (bare s) args.toList fun l => lendA s.loc (l ++ caps) fun l1 => ∃ l' r, DleAll l1 l' ∧ (g = true → Ret P n l' r) ∧ needs c0 (match owns (l ++ caps) with
          | [] => K ⟨dputs o.dst (.wh g r), opRefs (bare s) o.op.operands.toList ++ caps.flatMap refs, [], []⟩ idx
          | _ => match scalar r with
            | true => K ⟨dputs o.dst (.wh g r), opRefs (bare s) o.op.operands.toList ++ caps.flatMap refs, [], []⟩ idx
            | false => False)
        | _ => False
      | _ => dcond g (rop1 tt P o idx s K) (K ⟨dputs o.dst (.wh false (.v (.bool false))), [], [], []⟩ idx)
def rop (tt : TT) (P : Program) (all : List Oper) (o : Oper) (idx : Nat) (s : DS) (K : TE → Nat → Prop) : Prop :=
  match o.guard with
  | none => rop1 tt P o idx s K
  | some (j, want) => match guardOf all s j with
    | .v (.bool b) => wantK b want fun g => ropG tt P o g idx s K
    | .wh g (.v (.bool b)) => wantK b want fun g' => ropG tt P o (g && g') idx s K
    | _ => False
def mvK : List (Nat × Nat) → List (Nat × Nat) → (List (Nat × Nat) → Prop) → Prop
  | mvs, [], K => K mvs
  | mvs, p :: r, K => mvK (p :: mvs) r K
def drops (tt : TT) (P : Program) (all : List Oper) : List Oper → Nat → List TE → List (Nat × Nat) → (List TE → List (Nat × Nat) → DS → Prop) → DS → Prop
  | [], _, acc, mvs, K, s => K acc mvs s
  | o :: r, idx, acc, mvs, K, s => rop tt P all o idx s fun te idx' => te.appK s fun s => mvK mvs te.mv fun mvs => drops tt P all r idx' (acc ++ [te]) mvs K s

def maskOf (acc : List Nat) : List Edge → Nat → Nat
  | [], m => m
  | e :: r, m => match Region.binds .any e with
    | true => maskOf acc r (Nat.lor m (Nat.lor (2 ^ e.on) (acc.getD e.on 0)))
    | false => maskOf acc r m
def masks : List Oper → List Nat → List Nat
  | [], acc => acc
  | o :: r, acc => masks r (acc ++ [maskOf acc o.after.toList 0])
def edgesDown : List Oper → Nat → Bool
  | [], _ => true
  | o :: r, i => o.after.toList.all (fun e => !Region.binds .any e || Nat.blt e.on i) && edgesDown r (i + 1)
def meets (l r : List Nat) : Bool := l.any fun x => r.any fun y => Nat.beq x y
/-- what an operation looks at and writes: slots, and the call's own objects -/
structure Foot where
  ls : List Nat
  ps : List Nat
  rd : List Nat
  wr : List Nat
def footOf (all : Array Oper) (o : Oper) (te : TE) : Foot :=
  ⟨o.looksAt all, te.puts.map (·.1), te.rd, te.wr.map (·.1)⟩
def clash (f g : Foot) : Bool := meets f.ps (g.ls ++ g.ps) || meets f.ls g.ps || meets f.wr (g.rd ++ g.wr) || meets f.rd g.wr
/-- of two that clash the later one waits for the earlier one -/
def rowOk (f : Foot) (i : Nat) : List Foot → List Nat → Bool
  | g :: r, m :: ms => (!clash f g || Nat.testBit m i) && rowOk f i r ms
  | _, _ => true
def pairsOk : Nat → List Foot → List Nat → Bool
  | i, f :: r, _ :: ms => rowOk f i r ms && pairsOk (i + 1) r ms
  | _, _, _ => true
def feet (all : Array Oper) : List Oper → List TE → List Foot
  | o :: r, te :: tr => footOf all o te :: feet all r tr
  | _, _ => []
def regOk (ops : Array Oper) (tr : List TE) : Bool :=
  edgesDown ops.toList 0 && pairsOk 0 (feet ops ops.toList tr) (masks ops.toList [])
def creators : List Oper → Nat
  | [] => 0
  | o :: r => match o.op with
    | .alloc _ | .makeSlice .. | .box .. => creators r + 1
    | .call { callee := .builtin .append, .. } => creators r + 1
    | .call { callee := .value _, .. } => creators r + 1
    | _ => creators r
/-- object 'a' takes the place of 'b', which is gone -/
def ren0 (a b : Nat) : DV → DV
  | .own j => match Nat.beq j a with
    | true => .own b
    | false => match Nat.beq j b with
      | true => .junk
      | false => .own j
  | .rp j k o => match Nat.beq j a with
    | true => .rp b k o
    | false => match Nat.beq j b with
      | true => .junk
      | false => .rp j k o
  | .wh c d => .wh c (ren0 a b d)
  | d => d
def renT (a b : Nat) : DV → DV
  | .agg cs => .agg (cs.map (ren0 a b))
  | .wh c d => .wh c (renT a b d)
  | d => ren0 a b d
def norm1 (s : DS) (p : Nat × Nat) : DS :=
  match isRow (lget s.loc p.1), isGone (lget s.loc p.2) with
  | true, true => ⟨mapE (renT p.1 p.2) s.env, lset (lset (mapL (ren0 p.1 p.2) s.loc) p.2 (lget s.loc p.1)) p.1 .dead⟩
  | _, _ => s
def normR : List (Nat × Nat) → DS → DS
  | [], s => s
  | p :: r, s => normR r (norm1 s p)
/-- rows that are cut in the region become lists first -/
def shutCuts : List Oper → DS → (DS → Prop) → Prop
  | [], s, K => K s
  | o :: r, s, K => match o.op with
    | .slice _ x _ _ _ => match ev s x with
      | .own j => shutIn [.own j] s fun s => shutCuts r s K
      | _ => shutCuts r s K
    | _ => shutCuts r s K
def drawK0 (tt : TT) (P : Program) (ops : Array Oper) (K : DS → Prop) (s : DS) : Prop :=
  forceL (s.loc ++ List.replicate (creators ops.toList) .dead) fun loc0 => drops tt P ops.toList ops.toList s.loc.length [] [] (fun tr mvs s' => regOk ops tr = true ∧ match mvs with
    | [] => K s'
    | mv => K (normR mv s')) ⟨s.env, loc0⟩
def drawK (tt : TT) (P : Program) (ops : Array Oper) (K : DS → Prop) (s : DS) : Prop :=
  shutCuts ops.toList s fun s => drawK0 tt P ops K s

def EnvLe (s : List (Nat × DV)) : List (Nat × DV) → Prop
  | [] => True
  | p :: r => dle (look s p.1) p.2 ∧ EnvLe s r
def LocLe : List LObj → List LObj → Prop
  | _, [] => True
  | o :: r, o' :: r' => ole o o' ∧ LocLe r r'
  | [], _ :: _ => False

def DS.le (s t : DS) : Prop := EnvLe s.env t.env ∧ LocLe s.loc t.loc ∧ (bndE t.loc t.env && bndL t.loc t.loc) = true

/-- a nil slice becomes a row of the call's own: in a slot, or in a cell of an object -/
inductive Ad where
  | slot (t : Nat) (e : TypeId) (sz : Nat)
  | cell (i off : Nat) (e : TypeId) (sz : Nat)
def adoptK : List Ad → DS → (DS → Prop) → Prop
  | [], s, K => K s
  | .slot t e sz :: r, s, K => match look s.env t, sz with
    | .nl, _ + 1 => adoptK r ⟨(t, .own s.loc.length) :: s.env, s.loc ++ [.row e sz []]⟩ K
    | _, _ => False
  | .cell i off e sz :: r, s, K => match lget s.loc i, sz with
    | .cells t cs, _ + 1 => match cs[off]? with
      | some .nl => adoptK r ⟨s.env, lset s.loc i (.cells t (dset cs off (.own s.loc.length))) ++ [.row e sz []]⟩ K
      | _ => False
    | _, _ => False
def DLoop (body : (Exit → DS → Prop) → DS → Prop) (K : Exit → DS → Prop) (s : DS) : Prop :=
  ∃ (S : Type) (enc : S → DS) (I : S → Prop) (μ : S → Nat) (ads : List Ad), (∃ x, I x ∧ adoptK ads s fun s => s.le (enc x)) ∧
    ∀ x, I x → body (fun e s' => match e with
      | .normal => ∃ x', I x' ∧ μ x' < μ x ∧ s'.le (enc x')
      | e => K e s') (enc x)

def dcode (tt : TT) (P : Program) : Code → (Exit → DS → Prop) → DS → Prop
  | .skip, K, s => K .normal s
  | .region _ ops draw, K, s => match draw with
    | false => dops tt P ops.toList ops.toList (fun s => K .normal s) s
    | true => drawK tt P ops (fun s => K .normal s) s
  | .seq a b, K, s => dcode tt P a (fun e s' => match e with
      | .normal => dcode tt P b K s'
      | e => K e s') s
  | .cond c a b, K, s => match ev s c with
    | .v (.bool t) => dcond t (dcode tt P a K s) (dcode tt P b K s)
    | _ => False
  | .block id c, K, s => dcode tt P c (fun e s' => match e with
      | .exit j => match Nat.beq j id with
        | true => K .normal s'
        | false => K (.exit j) s'
      | e => K e s') s
  | .loop c, K, s => DLoop (dcode tt P c) K s
  | .exit id, K, s => K (.exit id) s
  | .ret, K, s => K .ret s
  | .label _, K, s => K .normal s
  | .scope c, K, s => dcode tt P c (fun e s' => match e with
      | .goto _ => False
      | e => K e s') s
  | _, _, _ => False

def resK (tt : TT) (s : DS) : List ResultVar → (List DV → Prop) → Prop
  | [], K => K []
  | .tmp t :: r, K => frc (look s.env t) fun d => lend s.loc d fun d => resK tt s r fun l => K (d :: l)
  | .cell p ty :: r, K => match look s.env p with
    | .lp i o => match lget s.loc i with
      | .cells _ cs => match (tinfo tt ty).size with
        | 0 => False
        | _ => dropK o cs fun l => dTake (tinfo tt ty).agg (tinfo tt ty).size l fun d => lend s.loc d fun d => resK tt s r fun l => K (d :: l)
      | _ => False
    | _ => False

def dpost (tt : TT) (rs : List ResultVar) (d : DV) (s : DS) : Prop :=
  resK tt s rs fun l => match l with
    | [x] => dle x d
    | l => dle (.tup l) d

def enum : Nat → List DV → List (Nat × DV)
  | _, [] => []
  | n, d :: r => (n, d) :: enum (n + 1) r

def dbody (tt : TT) (P : Program) (c : Code) (rs : List ResultVar) (args : List DV) (d : DV) : Prop :=
  dcode tt P c (fun e s => match e with
    | .normal | .ret => dpost tt rs d s
    | _ => False) ⟨enum 0 args, []⟩

/-! ## the body of a function that is handed objects -/
def hdl (k : Nat) : LObj → DV
  | .row .. => .own k
  | .cells .. => .lp k 0
  | _ => .junk
def hdls : Nat → List LObj → List DV
  | _, [] => []
  | k, o :: r => hdl k o :: hdls (k + 1) r
def ghOf (L : List LObj) : List LObj :=
  match L with
  | [] => []
  | _ => [.gh (hdls 0 L)]
def keptG : Nat → List Bool → List LObj → List DV
  | k, true :: r, o :: l => hdl k o :: keptG (k + 1) r l
  | k, false :: r, _ :: l => .junk :: keptG (k + 1) r l
  | _, _, _ => []
def finL (L : List LObj) (kept : List Bool) (L' : List LObj) : List LObj :=
  match L with
  | [] => L'
  | _ => L'.take L.length ++ .gh (keptG 0 kept L') :: L'.drop (L.length + 1)
def deadAt : Nat → List LObj → Bool
  | _, [] => true
  | 0, .dead :: _ => true
  | 0, _ :: _ => false
  | n + 1, _ :: r => deadAt n r
def deadM (L L' : List LObj) : Bool :=
  match L with
  | [] => true
  | _ => deadAt L.length L'
def resP (tt : TT) (s : DS) : List ResultVar → (List DV → Prop) → Prop
  | [], K => K []
  | .tmp t :: r, K => frc (look s.env t) fun d => match plainAll (dcells d) with
    | true => resP tt s r fun l => K (d :: l)
    | false => False
  | .cell p ty :: r, K => match look s.env p with
    | .lp i o => match lget s.loc i with
      | .cells _ cs => match (tinfo tt ty).size with
        | 0 => False
        | _ => dropK o cs fun l => dTake (tinfo tt ty).agg (tinfo tt ty).size l fun d => match plainAll (dcells d) with
          | true => resP tt s r fun l => K (d :: l)
          | false => False
      | _ => False
    | _ => False
def resM (tt : TT) (s : DS) (rs : List ResultVar) (K : DV → Prop) : Prop :=
  match rs with
  | [.tmp t] => frc (look s.env t) fun d => K d
  | [.cell p ty] => match look s.env p with
    | .lp i o => match lget s.loc i with
      | .cells _ cs => match (tinfo tt ty).size with
        | 0 => False
        | _ => dropK o cs fun l => dTake (tinfo tt ty).agg (tinfo tt ty).size l fun d => K d
      | _ => False
    | _ => False
  | rs => resP tt s rs fun l => K (.tup l)
def dpostM (tt : TT) (rs : List ResultVar) (L : List LObj) (kept : List Bool) (L' : List LObj) (d : DV) (s : DS) : Prop :=
  resM tt s rs fun x => dle x d ∧ LocLe s.loc (finL L kept L') ∧ (keptOk kept L L' && noGh L' && deadM L L' && (match d with | .tup _ => true | d => bnd L' d) && bndL L' L' && bndL (finL L kept L') (finL L kept L')) = true
def dbodyM (tt : TT) (P : Program) (c : Code) (rs : List ResultVar) (L : List LObj) (args : List DV) (kept : List Bool) (L' : List LObj) (d : DV) : Prop :=
  dcode tt P c (fun e s => match e with
    | .normal | .ret => dpostM tt rs L kept L' d s
    | _ => False) ⟨enum 0 args, L ++ ghOf L⟩

end Go.Lift
