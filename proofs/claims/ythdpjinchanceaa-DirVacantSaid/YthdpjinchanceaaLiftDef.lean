/- A data-level logic for the model: what a body does to data; its soundness (part LiftDef). No conditions. -/
import Derived.WalkKit
namespace Go.Lift

/-! # The data-level view: definitions -/

inductive DV where
  | v (x : Value)
  | lst (sz : Nat) (es : List (List DV)) (full : Bool)
  | agg (cs : List DV)
  | tup (ds : List DV)
  | ip (cs : List DV)
  | lp (i off : Nat)
  | ap (i off : Nat)
  | rp (i k off : Nat)
  | own (i : Nat)
  | fn (f : Fn) (caps : List DV)
  | wh (b : Bool) (d : DV)
  | nl
  | junk

inductive LObj where
  | cells (t : TypeId) (cs : List DV)
  | row (e : TypeId) (sz : Nat) (es : List (List DV))
  | dead

structure DS where
  env : List (Nat × DV)
  loc : List LObj

def look : List (Nat × DV) → Nat → DV
  | [], _ => .junk
  | p :: r, t => match Nat.beq p.1 t with
    | true => p.2
    | false => look r t

def DS.put (s : DS) (dst : Option Tmp) (d : DV) : DS :=
  match dst with
  | some t => ⟨(t, d) :: s.env, s.loc⟩
  | none => s
/-- the same, the state handed on in head form -/
def putK (s : DS) (dst : Option Tmp) (d : DV) (K : DS → Prop) : Prop :=
  match s with
  | ⟨e, l⟩ => match dst with
    | some t => K ⟨(t, d) :: e, l⟩
    | none => K ⟨e, l⟩

/-- conditions: none, or one -/
def andO : Option Prop → Option Prop → Option Prop
  | none, c => c
  | some a, none => some a
  | some a, some b => some (a ∧ b)
def needs (c : Option Prop) (p : Prop) : Prop :=
  match c with
  | none => p
  | some a => a ∧ p

def lget : List LObj → Nat → LObj
  | [], _ => .dead
  | o :: _, 0 => o
  | _ :: r, n + 1 => lget r n
def lset : List LObj → Nat → LObj → List LObj
  | [], _, _ => []
  | _ :: r, 0, x => x :: r
  | o :: r, n + 1, x => o :: lset r n x
def dset : List DV → Nat → DV → List DV
  | [], _, _ => []
  | _ :: r, 0, x => x :: r
  | o :: r, n + 1, x => o :: dset r n x
def dsplice : List DV → Nat → List DV → List DV
  | l, _, [] => l
  | l, o, x :: r => dsplice (dset l o x) (o + 1) r

/-- what the table knows of a type -/
inductive TK where
  | int (k : IntKind) | bool | str | slc (e : TypeId) | st (fs : List (TypeId × Nat)) | arr (n : Nat) (e : TypeId) | other
structure TI where
  size : Nat
  bytes : Nat
  agg : Bool
  zero : List DV
  k : TK
abbrev TT := List (Nat × TI)
def tinfo : TT → TypeId → TI
  | [], _ => ⟨0, 0, false, [], .other⟩
  | p :: r, t => match Nat.beq p.1 t with
    | true => p.2
    | false => tinfo r t

def cdv : Value → DV
  | .slice none 0 0 => .nl
  | .slice _ _ _ => .junk
  | .agg _ => .junk
  | .tuple _ => .junk
  | x => .v x

def ev (s : DS) : Operand → DV
  | .tmp t => look s.env t
  | .const v => cdv v
  | .global _ => .junk
  | .func f => .fn (.func f) []

/-- hand a value on in head form -/
def frc (d : DV) (K : DV → Prop) : Prop :=
  match d with
  | .v x => K (.v x)
  | .lst sz es f => K (.lst sz es f)
  | .agg cs => K (.agg cs)
  | .tup ds => K (.tup ds)
  | .ip cs => K (.ip cs)
  | .lp i o => K (.lp i o)
  | .ap i o => K (.ap i o)
  | .rp i k o => K (.rp i k o)
  | .own i => K (.own i)
  | .fn f c => K (.fn f c)
  | .wh b d => K (.wh b d)
  | .nl => K .nl
  | .junk => K .junk

def takeK : Nat → List DV → (List DV → Prop) → Prop
  | 0, _, K => K []
  | _ + 1, [], _ => False
  | n + 1, d :: r, K => frc d fun d => takeK n r fun l => K (d :: l)
def dropK : Nat → List DV → (List DV → Prop) → Prop
  | 0, l, K => K l
  | _ + 1, [], _ => False
  | n + 1, _ :: r, K => dropK n r K

def isConstTrue : Operand → Bool
  | .const (.bool b) => b
  | _ => false
def isConstFalse : Operand → Bool
  | .const (.bool b) => !b
  | _ => false

def obl (b : Bool) (d : DV) (K : Option Prop → DV → Prop) : Prop :=
  match d with
  | .wh g d => K (some (b = true → g = true)) d
  | d => K none d

def dpickV (c : Bool) (x y : DV) (ka kb : Bool) (K : DV → Prop) : Prop :=
  match x, y with
  | .v (.bool a), .v (.bool b) => match ka, kb with
    | true, _ => K (.v (.bool (c || b)))
    | _, true => K (.v (.bool (c && a)))
    | _, _ => K (.v (.bool (bif c then a else b)))
  | _, _ => False

def ikEq : IntKind → IntKind → Bool
  | .i8, .i8 | .i16, .i16 | .i32, .i32 | .i64, .i64 | .u8, .u8 | .u16, .u16 | .u32, .u32 | .u64, .u64 => true
  | _, _ => false

def dcells : DV → List DV
  | .agg cs => cs
  | d => [d]

inductive SK where
  | int (k : IntKind) | bool | str
/-- the kinds of the cells of a type that '==' looks at cell by cell -/
def flatFs (g : TypeId → Option (List SK)) : List (TypeId × Nat) → Nat → Option (List SK)
  | [], _ => some []
  | f :: r, o => match Nat.beq f.2 o with
    | false => none
    | true => match g f.1 with
      | none => none
      | some ks => match flatFs g r (o + ks.length) with
        | none => none
        | some l => some (ks ++ l)
def flatK (tt : TT) : Nat → TypeId → Option (List SK)
  | 0, _ => none
  | n + 1, t => match (tinfo tt t).k with
    | .int k => some [.int k]
    | .bool => some [.bool]
    | .str => some [.str]
    | .st fs => match flatFs (flatK tt n) fs 0 with
      | some ks => match Nat.beq ks.length (tinfo tt t).size, (tinfo tt t).size with
        | true, _ + 1 => some ks
        | _, _ => none
      | none => none
    | _ => none
/-- equality of two rows of one-cell data -/
def eq1K (k : SK) (x y : DV) (K : Bool → Prop) : Prop :=
  match k, x, y with
  | .int k, .v (.int k1 a), .v (.int k2 b) => match ikEq k k1 && ikEq k k2 with
    | true => K (decide (a = b))
    | false => False
  | .str, .v (.string a), .v (.string b) => K (decide (a = b))
  | .bool, .v (.bool a), .v (.bool b) => K (a == b)
  | _, _, _ => False
def eqCells : List SK → List DV → List DV → (Bool → Prop) → Prop
  | [], [], [], K => K true
  | k :: ks, x :: r, y :: r', K => eq1K k x y fun e => eqCells ks r r' fun z => K (e && z)
  | _, _, _, _ => False

def dInt (op : BinOp) (k : IntKind) (a b : Int) (K : Option Prop → DV → Prop) : Prop :=
  match op with
  | .add => K none (.v (.int k (k.wrap (a + b))))
  | .sub => K none (.v (.int k (k.wrap (a - b))))
  | .mul => K none (.v (.int k (k.wrap (a * b))))
  | .quo => K (some (b ≠ 0)) (.v (.int k (k.wrap (a.tdiv b))))
  | .rem => K (some (b ≠ 0)) (.v (.int k (a.tmod b)))
  | .and => K none (.v (.int k (bits .and k a b)))
  | .or => K none (.v (.int k (bits .or k a b)))
  | .xor => K none (.v (.int k (bits .xor k a b)))
  | .andNot => K none (.v (.int k (bits .andNot k a b)))
  | .eql => K none (.v (.bool (decide (a = b))))
  | .neq => K none (.v (.bool (!decide (a = b))))
  | .lss => K none (.v (.bool (decide (a < b))))
  | .leq => K none (.v (.bool (decide (a ≤ b))))
  | .gtr => K none (.v (.bool (decide (b < a))))
  | .geq => K none (.v (.bool (decide (b ≤ a))))
  | _ => False
def isShift : BinOp → Bool
  | .shl | .shr => true
  | _ => false
def dShift (op : BinOp) (k : IntKind) (a b : Int) (K : Option Prop → DV → Prop) : Prop :=
  match op with
  | .shl => K (some (0 ≤ b)) (.v (.int k (k.wrap (a * 2 ^ (min b.toNat k.bits)))))
  | .shr => K (some (0 ≤ b)) (.v (.int k (a.fdiv (2 ^ (min b.toNat k.bits)))))
  | _ => False
def dStr (op : BinOp) (a b : ByteArray) (K : Option Prop → DV → Prop) : Prop :=
  match op with
  | .eql => K none (.v (.bool (decide (a = b))))
  | .neq => K none (.v (.bool (!decide (a = b))))
  | .lss => K none (.v (.bool (Op.bytesLess a.toList b.toList)))
  | _ => False
def dBool (op : BinOp) (a b : Bool) (K : Option Prop → DV → Prop) : Prop :=
  match op with
  | .eql => K none (.v (.bool (a == b)))
  | .neq => K none (.v (.bool (!(a == b))))
  | _ => False
def dAgg (tt : TT) (t : TypeId) (op : BinOp) (a b : List DV) (K : Option Prop → DV → Prop) : Prop :=
  match flatK tt 5 t, (tinfo tt t).agg with
  | some ks, true => match op with
    | .eql => eqCells ks a b fun r => K none (.v (.bool r))
    | .neq => eqCells ks a b fun r => K none (.v (.bool (!r)))
    | _ => False
  | _, _ => False
def dbin (tt : TT) (t : TypeId) (op : BinOp) (x y : DV) (K : Option Prop → DV → Prop) : Prop :=
  match x, y with
  | .v (.int k a), .v (.int k' b) => match isShift op with
    | true => dShift op k a b K
    | false => match ikEq k k' with
      | true => dInt op k a b K
      | false => False
  | .v (.string a), .v (.string b) => dStr op a b K
  | .v (.bool a), .v (.bool b) => match (tinfo tt t).k with
    | .bool => dBool op a b K
    | _ => False
  | .agg a, .agg b => dAgg tt t op a b K
  | _, _ => False

def fieldOf : List (TypeId × Nat) → Nat → TypeId × Nat
  | [], _ => (0, 0)
  | x :: _, 0 => x
  | _ :: r, n + 1 => fieldOf r n

def natLit : Operand → Option Nat
  | .const (.int _ (.ofNat n)) => some n
  | _ => none

def byteE (b : UInt8) : List DV := [.v (.int .u8 b.toNat)]

/-- the cells of a struct or array that is built: parts laid over the zero -/
def buildK (ρ : Operand → DV) (place : Nat → Nat × Nat) : List (Nat × Operand) → List DV → (List DV → Prop) → Prop
  | [], cs, K => K cs
  | (i, x) :: r, cs, K => frc (ρ x) fun d => match d with
    | .wh _ _ => False
    | .tup _ => False
    | .junk => False
    | d => match Nat.beq (dcells d).length (place i).2 && Nat.ble ((place i).1 + (dcells d).length) cs.length && Nat.blt 0 (place i).2 with
      | true => buildK ρ place r (dsplice cs (place i).1 (dcells d)) K
      | false => False

def evL (ρ : Operand → DV) : List Operand → (List DV → Prop) → Prop
  | [], K => K []
  | x :: r, K => frc (ρ x) fun d => evL ρ r fun l => K (d :: l)

def isPlain0 : DV → Bool
  | .v _ | .lst .. | .fn .. | .nl => true
  | _ => false
def plainAll : List DV → Bool
  | [] => true
  | d :: r => match isPlain0 d with
    | true => plainAll r
    | false => false
def plainRows : List (List DV) → Bool
  | [] => true
  | d :: r => match plainAll d with
    | true => plainRows r
    | false => false

def dNilCheck (d : DV) (K : Option Prop → DV → Prop) : Prop :=
  match d with
  | .lp i o => K none (.lp i o)
  | .ap i o => K none (.ap i o)
  | .rp i k o => K none (.rp i k o)
  | .ip cs => K none (.ip cs)
  | .fn (.func f) c => K none (.fn (.func f) c)
  | _ => False
def dPick (ρ : Operand → DV) (c a b : Operand) (K : Option Prop → DV → Prop) : Prop :=
  match ρ c with
  | .v (.bool t) => obl t (ρ a) fun c1 x => obl (!t) (ρ b) fun c2 y => frc x fun x => frc y fun y => dpickV t x y (isConstTrue a) (isConstFalse b) fun d => K (andO c1 c2) d
  | _ => False
def dUn (op : UnOp) (d : DV) (K : Option Prop → DV → Prop) : Prop :=
  match op, d with
  | .not, .v (.bool b) => K none (.v (.bool !b))
  | .neg, .v (.int k n) => K none (.v (.int k (k.wrap (0 - n))))
  | .xor, .v (.int k n) => K none (.v (.int k (bits .xor k (if k.signed then -1 else k.max) n)))
  | _, _ => False
def dConvert (tt : TT) (ks k : TK) (d : DV) (K : Option Prop → DV → Prop) : Prop :=
  match ks, k, d with
  | .int _, .int k, .v (.int _ n) => K none (.v (.int k (k.wrap n)))
  | .str, .str, .v (.string s) => K none (.v (.string s))
  | .slc e, .str, .lst sz es _ => match (tinfo tt e).k, Nat.beq sz 1 with
    | .int .u8, true => ∃ bs : List UInt8, K (some (es = bs.map byteE)) (.v (.string ⟨bs.toArray⟩))
    | _, _ => False
  | _, _, _ => False
def dFieldAddr (tt : TT) (t : TypeId) (f : Nat) (d : DV) (K : Option Prop → DV → Prop) : Prop :=
  match (tinfo tt t).k with
  | .st fs => match (tinfo tt (fieldOf fs f).1).size with
    | 0 => False
    | _ => match d with
      | .lp i o => K none (.lp i (o + (fieldOf fs f).2))
      | .ap i o => K none (.ap i (o + (fieldOf fs f).2))
      | .rp i k o => K none (.rp i k (o + (fieldOf fs f).2))
      | .ip cs => dropK (fieldOf fs f).2 cs fun l => K none (.ip l)
      | _ => False
  | _ => False
/-- a value of a type out of its cells -/
def dTake (agg : Bool) (size : Nat) (l : List DV) (K : DV → Prop) : Prop :=
  match agg with
  | true => takeK size l fun l => K (.agg l)
  | false => match l with
    | d :: _ => frc d fun d => K d
    | [] => False
def dField (tt : TT) (t : TypeId) (f : Nat) (d : DV) (K : Option Prop → DV → Prop) : Prop :=
  match (tinfo tt t).k with
  | .st fs => match (tinfo tt (fieldOf fs f).1).size with
    | 0 => False
    | _ => match d with
      | .agg cs => dropK (fieldOf fs f).2 cs fun l => dTake (tinfo tt (fieldOf fs f).1).agg (tinfo tt (fieldOf fs f).1).size l fun d => K none d
      | _ => False
  | _ => False
def dIndexSlc (loc : List LObj) (size : Nat) (ix : Int) (d : DV) (K : Option Prop → DV → Prop) : Prop :=
  match d with
  | .lst sz es _ => match Nat.beq sz size with
    | true => ∃ (k : Nat) (ed : List DV), K (some (ix = k ∧ es[k]? = some ed)) (.ip ed)
    | false => False
  | .own j => match lget loc j with
    | .row _ sz es => match Nat.beq sz size with
      | true => ∃ k : Nat, K (some (ix = k ∧ k < es.length)) (.rp j k 0)
      | false => False
    | _ => False
  | _ => False
def dIndexArr (n size : Nat) (lit : Option Nat) (ix : Int) (d : DV) (K : Option Prop → DV → Prop) : Prop :=
  match lit with
  | some m => match d with
    | .lp j o => K (some (m < n)) (.lp j (o + m * size))
    | .ap j o => K (some (m < n)) (.ap j (o + m * size))
    | _ => False
  | none => match d with
    | .lp j o => ∃ k : Nat, K (some (ix = k ∧ k < n)) (.ap j (o + k * size))
    | .ap j o => ∃ k : Nat, K (some (ix = k ∧ k < n)) (.ap j (o + k * size))
    | _ => False
def dIndexAddr (tt : TT) (loc : List LObj) (t : TypeId) (i : Operand) (x y : DV) (K : Option Prop → DV → Prop) : Prop :=
  match (tinfo tt t).k, y with
  | .slc e, .v (.int _ ix) => match (tinfo tt e).size with
    | 0 => False
    | _ => dIndexSlc loc (tinfo tt e).size ix x K
  | .arr n e, .v (.int _ ix) => match (tinfo tt e).size with
    | 0 => False
    | _ => dIndexArr n (tinfo tt e).size (natLit i) ix x K
  | _, _ => False
def dIndex (tt : TT) (t : TypeId) (x y : DV) (K : Option Prop → DV → Prop) : Prop :=
  match y with
  | .v (.int _ ix) => match (tinfo tt t).k, x with
    | .str, .v (.string s) => ∃ k : Nat, K (some (ix = k ∧ k < s.size)) (.v (.int .u8 (s.data.getD k 0).toNat))
    | .arr n e, .agg cs => match (tinfo tt e).agg, Nat.beq (tinfo tt e).size 1 with
      | false, true => ∃ (k : Nat) (d : DV), frc d fun d => K (some (ix = k ∧ k < n ∧ cs[k]? = some d)) d
      | _, _ => False
    | _, _ => False
  | _ => False
def dLoad (tt : TT) (loc : List LObj) (t : TypeId) (d : DV) (K : Option Prop → DV → Prop) : Prop :=
  match (tinfo tt t).size with
  | 0 => False
  | _ => match d with
    | .ip cs => dTake (tinfo tt t).agg (tinfo tt t).size cs fun d => K none d
    | .lp i o => match lget loc i with
      | .cells _ cs => dropK o cs fun l => dTake (tinfo tt t).agg (tinfo tt t).size l fun d => K none d
      | _ => False
    | .ap i o => match lget loc i with
      | .cells _ cs => match (tinfo tt t).agg with
        | true => ∃ ds : List DV, K (some ((cs.drop o).take (tinfo tt t).size = ds ∧ ds.length = (tinfo tt t).size)) (.agg ds)
        | false => ∃ d : DV, frc d fun d => K (some (cs[o]? = some d)) d
      | _ => False
    | .rp i k o => match lget loc i with
      | .row _ _ es => ∃ ed : List DV, dropK o ed fun l => dTake (tinfo tt t).agg (tinfo tt t).size l fun d => K (some (es[k]? = some ed)) d
      | _ => False
    | _ => False
def dExtract (n : Nat) (d : DV) (K : Option Prop → DV → Prop) : Prop :=
  match d with
  | .tup ds => dropK n ds fun l => match l with
    | d :: _ => frc d fun d => K none d
    | [] => False
  | _ => False
/-- a bound of a cut -/
def bndIs (ρ : Operand → DV) (o : Option Operand) (n : Nat) (other : Nat) : Prop :=
  match o with
  | some o => ∃ k, ρ o = .v (.int k n)
  | none => n = other
def dSlice (tt : TT) (t : TypeId) (ρ : Operand → DV) (d : DV) (lo hi mx : Option Operand) (K : Option Prop → DV → Prop) : Prop :=
  match (tinfo tt t).k, d with
  | .str, .v (.string s) => match mx with
    | none => ∃ l h : Nat, K (some (bndIs ρ lo l 0 ∧ bndIs ρ hi h s.size ∧ l ≤ h ∧ h ≤ s.size)) (.v (.string (s.extract l h)))
    | some _ => False
  | .slc e, .nl => match (tinfo tt e).size, mx with
    | 0, _ => False
    | _, some _ => False
    | _, none => K (some (bndIs ρ lo 0 0 ∧ bndIs ρ hi 0 0)) .nl
  | .slc e, .lst sz es full => match (tinfo tt e).size, Nat.beq sz (tinfo tt e).size with
    | 0, _ => False
    | _, false => False
    | _, true => match hi, mx with
      | none, none => ∃ l : Nat, K (some (bndIs ρ lo l 0 ∧ l ≤ es.length)) (.lst sz (es.drop l) full)
      | some ho, none => ∃ l h : Nat, K (some (bndIs ρ lo l 0 ∧ bndIs ρ (some ho) h 0 ∧ l ≤ h ∧ h ≤ es.length)) (.lst sz ((es.take h).drop l) false)
      | some ho, some mo => ∃ l h : Nat, K (some (bndIs ρ lo l 0 ∧ bndIs ρ (some ho) h 0 ∧ bndIs ρ (some mo) h 0 ∧ l ≤ h ∧ h ≤ es.length)) (.lst sz ((es.take h).drop l) true)
      | none, some _ => False
  | _, _ => False
def dLen (tt : TT) (loc : List LObj) (t : TypeId) (d : DV) (K : Option Prop → DV → Prop) : Prop :=
  match (tinfo tt t).k with
  | .slc _ => match d with
    | .lst _ es _ => K none (.v (.int .i64 es.length))
    | .nl => K none (.v (.int .i64 (0 : Nat)))
    | .own j => match lget loc j with
      | .row _ _ es => K none (.v (.int .i64 es.length))
      | _ => False
    | _ => False
  | .str => match d with
    | .v (.string s) => K none (.v (.int .i64 s.size))
    | _ => False
  | .arr n _ => K none (.v (.int .i64 n))
  | _ => False
def dMin (a b : DV) (K : Option Prop → DV → Prop) : Prop :=
  match a, b with
  | .v (.int k a), .v (.int _ b) => K none (.v (.int k (if b < a then b else a)))
  | _, _ => False
def dMax (a b : DV) (K : Option Prop → DV → Prop) : Prop :=
  match a, b with
  | .v (.int k a), .v (.int _ b) => K none (.v (.int k (if a < b then b else a)))
  | _, _ => False
def allIn (tt : TT) : List (TypeId × Nat) → Bool
  | [] => true
  | f :: r => match (tinfo tt f.1).size with
    | 0 => false
    | _ => allIn tt r
def dBuild (tt : TT) (t : TypeId) (ρ : Operand → DV) (parts : List (Nat × Operand)) (K : Option Prop → DV → Prop) : Prop :=
  match (tinfo tt t).k with
  | .st fs => match allIn tt fs, (tinfo tt t).size with
    | true, _ + 1 => buildK ρ (fun i => match Nat.blt i fs.length with
      | true => ((fieldOf fs i).2, (tinfo tt (fieldOf fs i).1).size)
      | false => (0, 0)) parts (tinfo tt t).zero fun l => K none (.agg l)
    | _, _ => False
  | .arr _ e => match (tinfo tt e).size, (tinfo tt t).size with
    | _ + 1, _ + 1 => buildK ρ (fun i => (i * (tinfo tt e).size, (tinfo tt e).size)) parts (tinfo tt t).zero fun l => K none (.agg l)
    | _, _ => False
  | _ => False

/-- an operation that only makes a value -/
def dval (tt : TT) (loc : List LObj) (o : Op) (ρ : Operand → DV) (K : Option Prop → DV → Prop) : Prop :=
  match o with
  | .move x | .assign x => frc (ρ x) fun d => K none d
  | .pick c a b => dPick ρ c a b K
  | .nilCheck x => dNilCheck (ρ x) K
  | .binOp op t x y _ => dbin tt t op (ρ x) (ρ y) K
  | .unOp op _ x => dUn op (ρ x) K
  | .convert src dst x => dConvert tt (tinfo tt src).k (tinfo tt dst).k (ρ x) K
  | .fieldAddr t x f => dFieldAddr tt t f (ρ x) K
  | .field t x f => dField tt t f (ρ x) K
  | .indexAddr t x i => dIndexAddr tt loc t i (ρ x) (ρ i) K
  | .index t x i => dIndex tt t (ρ x) (ρ i) K
  | .load t x => dLoad tt loc t (ρ x) K
  | .extract x n => dExtract n (ρ x) K
  | .slice t x lo hi mx => dSlice tt t ρ (ρ x) lo hi mx K
  | .makeFunc f first caps => match first.toList with
    | [] => evL ρ caps.toList fun l => match plainAll l with
      | true => K none (.fn f l)
      | false => False
    | _ => False
  | .build t parts => dBuild tt t ρ parts.toList K
  | .call { callee := .builtin .len, args, argTypes } => match args.toList, argTypes.toList with
    | [x], [t] => dLen tt loc t (ρ x) K
    | _, _ => False
  | .call { callee := .builtin .min, args, .. } => match args.toList with
    | [x, y] => dMin (ρ x) (ρ y) K
    | _ => False
  | .call { callee := .builtin .max, args, .. } => match args.toList with
    | [x, y] => dMax (ρ x) (ρ y) K
    | _ => False
  | _ => False

/-- does 'dval' serve this operation? -/
def isVal (o : Op) (ρ : Operand → DV) : Bool :=
  match o with
  | .move _ | .assign _ | .pick .. | .nilCheck _ | .binOp .. | .unOp .. | .fieldAddr .. | .field .. | .indexAddr .. | .index .. | .load .. | .extract .. | .makeFunc .. | .build .. | .convert .. => true
  | .slice _ x _ _ _ => match ρ x with
    | .own _ => false
    | _ => true
  | .call { callee := .builtin .len, .. } | .call { callee := .builtin .min, .. } | .call { callee := .builtin .max, .. } => true
  | _ => false

/-! ## rows of the call's own -/
/-- 'own i' is read as r from now on -/
def sub0 (i : Nat) (r : DV) : DV → DV
  | .own j => match Nat.beq i j with | true => r | false => .own j
  | .rp j k o => match Nat.beq i j with | true => .junk | false => .rp j k o
  | .wh b d => .wh b (sub0 i r d)
  | d => d
def subD (i : Nat) (r : DV) : DV → DV
  | .agg cs => .agg (cs.map (sub0 i r))
  | .wh b d => .wh b (subD i r d)
  | d => sub0 i r d
def mapE (f : DV → DV) : List (Nat × DV) → List (Nat × DV)
  | [] => []
  | p :: r => (p.1, f p.2) :: mapE f r
def mapL (f : DV → DV) : List LObj → List LObj
  | [] => []
  | .cells t cs :: r => .cells t (cs.map f) :: mapL f r
  | o :: r => o :: mapL f r
/-- the row's other handles are void; its contents are these from now on -/
def DS.grow (s : DS) (i : Nat) (e : TypeId) (sz : Nat) (es : List (List DV)) : DS :=
  ⟨mapE (subD i .junk) s.env, lset (mapL (sub0 i .junk) s.loc) i (.row e sz es)⟩
/-- the row is no more the call's own: it is a list that nobody will write -/
def DS.shut (s : DS) (i sz : Nat) (es : List (List DV)) : DS :=
  ⟨mapE (subD i (.lst sz es false)) s.env, lset (mapL (sub0 i (.lst sz es false)) s.loc) i .dead⟩

def shutIn (ds : List DV) (s : DS) (K : DS → Prop) : Prop :=
  match ds with
  | [] => K s
  | .own j :: r => match lget s.loc j with
    | .row _ sz es => shutIn r (s.shut j sz es) K
    | .dead => shutIn r s K
    | .cells _ _ => False
  | _ :: r => shutIn r s K

def scalar0 : DV → Bool
  | .v _ => true
  | _ => false
def scalar : DV → Bool
  | .v _ => true
  | .agg cs => cs.all scalar0
  | .tup ds => ds.all fun d => match d with | .v _ => true | .agg cs => cs.all scalar0 | _ => false
  | _ => false

/-- a value as it is handed to a callee: a row of one's own is read as a list -/
def lend0 (loc : List LObj) (d : DV) (K : DV → Prop) : Prop :=
  match d with
  | .own j => match lget loc j with
    | .row _ sz es => K (.lst sz es false)
    | _ => False
  | .lp .. | .ap .. | .rp .. | .wh .. => False
  | .agg _ => False
  | d => K d
def lendL (loc : List LObj) : List DV → (List DV → Prop) → Prop
  | [], K => K []
  | d :: r, K => lend0 loc d fun d => lendL loc r fun l => K (d :: l)
def lend (loc : List LObj) (d : DV) (K : DV → Prop) : Prop :=
  match d with
  | .agg cs => lendL loc cs fun l => K (.agg l)
  | d => lend0 loc d K
def lendA (loc : List LObj) : List DV → (List DV → Prop) → Prop
  | [], K => K []
  | d :: r, K => lend loc d fun d => lendA loc r fun l => K (d :: l)
def owns : List DV → List DV
  | [] => []
  | .own j :: r => .own j :: owns r
  | .agg cs :: r => cs.filter (fun d => match d with | .own _ => true | _ => false) ++ owns r
  | _ :: r => owns r

/-- what may stand in place of what: 'd' tells less than 'd0' -/
inductive dle : DV → DV → Prop
  | refl {d : DV} : dle d d
  | nil {sz sz' : Nat} {f f' : Bool} (h : f' = true → f = true) : dle (.lst sz [] f) (.lst sz' [] f')
  | nl {sz : Nat} {f : Bool} : dle .nl (.lst sz [] f)
  | lst {sz : Nat} {es : List (List DV)} {f : Bool} : dle (.lst sz es f) (.lst sz es false)
  | agg {cs ds : List DV} (hl : cs.length = ds.length) (h : ∀ (i : Nat) c d, cs[i]? = some c → ds[i]? = some d → dle c d) : dle (.agg cs) (.agg ds)
  | tup {cs ds : List DV} (hl : cs.length = ds.length) (h : ∀ (i : Nat) c d, cs[i]? = some c → ds[i]? = some d → dle c d) : dle (.tup cs) (.tup ds)
  | junk {d : DV} : dle d .junk

def DleAll : List DV → List DV → Prop
  | [], [] => True
  | x :: r, y :: r' => dle x y ∧ DleAll r r'
  | _, _ => False
theorem DleAll_refl : ∀ l : List DV, DleAll l l
  | [] => trivial
  | _ :: r => ⟨.refl, DleAll_refl r⟩

/-! ## what a call answers -/
/-- data that nobody writes: the blocks in 'A' are shut out -/
inductive Imm (A : Nat → Prop) (w : World) : Value → DV → Prop
  | v {x : Value} (h : x.oneCell' = true) : Imm A w x (.v x)
  | lst {a : Addr} {n c sz : Nat} {es : List (List DV)} {full : Bool} (xs : Nat → Nat → Value) (hn : es.length = n) (hc : n ≤ c) (hm : c ≤ maxLen) (hf : full = true → c = n) (hsz : ∀ e ∈ es, e.length = sz)
      (hA : es ≠ [] → ¬ A a.block) (hb : es ≠ [] → a.block < w.heap.size) (hone : ∀ i j, (xs i j).oneCell' = true)
      (hcell : ∀ (i j : Nat) e d, es[i]? = some e → e[j]? = some d → w.cell? (a.add (i * sz + j)) = some (xs i j))
      (hx : ∀ (i j : Nat) e d, es[i]? = some e → e[j]? = some d → Imm A w (xs i j) d) : Imm A w (.slice (some a) n c) (.lst sz es full)
  | nil {sz : Nat} {full : Bool} : Imm A w (.slice none 0 0) (.lst sz [] full)
  | nl : Imm A w (.slice none 0 0) .nl
  | agg {vs : List Value} {ds : List DV} (hl : vs.length = ds.length) (hone : ∀ v ∈ vs, v.oneCell' = true) (h : ∀ (i : Nat) v d, vs[i]? = some v → ds[i]? = some d → Imm A w v d) : Imm A w (.agg vs.toArray) (.agg ds)
  | tup {vs : List Value} {ds : List DV} (hl : vs.length = ds.length) (h : ∀ (i : Nat) v d, vs[i]? = some v → ds[i]? = some d → Imm A w v d) : Imm A w (.tuple vs.toArray) (.tup ds)
  | ip {a : Addr} {cs : List DV} (xs : Nat → Value) (hA : ¬ A a.block) (hb : a.block < w.heap.size) (hone : ∀ i, (xs i).oneCell' = true) (hcell : ∀ (j : Nat) d, cs[j]? = some d → w.cell? (a.add j) = some (xs j)) (hx : ∀ (j : Nat) d, cs[j]? = some d → Imm A w (xs j) d) :
      Imm A w (.pointer (some a)) (.ip cs)
  | fn {f : Fn} {vs : List Value} {ds : List DV} (hl : vs.length = ds.length) (h : ∀ (i : Nat) v d, vs[i]? = some v → ds[i]? = some d → Imm A w v d) : Imm A w (.func f #[] vs.toArray) (.fn f ds)
  | wh {b : Bool} {d : DV} {x : Value} (h : b = true → Imm A w x d) (h0 : b = false → x = undef) : Imm A w x (.wh b d)
  | junk {x : Value} : Imm A w x .junk

def ImmAll (A : Nat → Prop) (w : World) : List Value → List DV → Prop
  | [], [] => True
  | v :: vs, d :: ds => Imm A w v d ∧ ImmAll A w vs ds
  | _, _ => False

/-- THE CONTRACT: called with values that read as 'args' the function returns, what it hands back reads as 'd', and of what was there nothing turns. -/
def Ret (P : Program) (f : FuncId) (args : List DV) (d : DV) : Prop :=
  (∀ (vs : Array Value) (w : World), (callFunc f vs).run P w = .ok (.enter f vs) w) ∧ ∀ (A : Nat → Prop) (w : World) (vals : List Value), (∀ b, A b → b < w.heap.size) → ImmAll A w vals args →
    Calls P f vals.toArray w fun e w' => ∃ v, e = .returned v ∧ Imm A w' v d ∧ w.grownBy w' none

/-! ## the stateful operations -/
def dcall (P : Program) (f : FuncId) (args : List DV) (s : DS) (K : DV → DS → Prop) : Prop :=
  lendA s.loc args fun l => ∃ l' r, DleAll l l' ∧ Ret P f l' r ∧ match owns args with
    | [] => K r s
    | os => match scalar r with
      | true => K r s
      | false => shutIn os s fun s => K r s

def elemsK (ρ : Operand → DV) (size : Nat) : List (Nat × Operand) → List (List DV) → (List (List DV) → Prop) → Prop
  | [], es, K => K es
  | (i, x) :: r, es, K => frc (ρ x) fun d => match Nat.beq (dcells d).length size && Nat.blt i es.length && plainAll (dcells d) with
    | true => elemsK ρ size r (es.set i (dcells d)) K
    | false => False

/-- the operands' own rows become lists -/
def shutOps (s : DS) : List Operand → (DS → Prop) → Prop
  | [], K => K s
  | x :: r, K => frc (ev s x) fun d => shutIn (owns [d]) s fun s' => shutOps s' r K

/-- the elements that an append takes over; the second word: does the operand tell that there are some? -/
def dNews (tt : TT) (e : TypeId) (loc : List LObj) (d : DV) (K : List (List DV) → Bool → Prop) : Prop :=
  match d with
  | .nl => K [] false
  | .lst sz es _ => match Nat.beq sz (tinfo tt e).size with
    | true => K es false
    | false => False
  | .own j => match lget loc j with
    | .row _ sz es => match Nat.beq sz (tinfo tt e).size with
      | true => K es true
      | false => False
    | _ => False
  | _ => False
def fitsIn (tt : TT) (e : TypeId) (n : Nat) : Prop := n * (tinfo tt e).bytes ≤ 140737488355328 ∧ n ≤ maxLen
def dAppend (tt : TT) (e : TypeId) (s : DS) (dst : Option Tmp) (x y : DV) (K : DS → Prop) : Prop :=
  dNews tt e s.loc y fun ys some => match x with
    | .nl => fitsIn tt e ys.length ∧ putK ⟨s.env, s.loc ++ [.row e (tinfo tt e).size ys]⟩ dst (.own s.loc.length) K
    | .own i => match lget s.loc i with
      | .row e' sz es => match Nat.beq e' e && Nat.beq sz (tinfo tt e).size with
        | true => fitsIn tt e (es.length + ys.length) ∧ putK (s.grow i e sz (es ++ ys)) dst (.own i) K
        | false => False
      | _ => False
    | .lst sz es true => match Nat.beq sz (tinfo tt e).size with
      | true => fitsIn tt e (es.length + ys.length) ∧ match some with
        | true => 0 < ys.length ∧ putK ⟨s.env, s.loc ++ [.row e sz (es ++ ys)]⟩ dst (.own s.loc.length) K
        | false => putK s dst (.lst sz (es ++ ys) false) K
      | false => False
    | _ => False
def dCopy (tt : TT) (e : TypeId) (s : DS) (dst : Option Tmp) (x y : DV) (K : DS → Prop) : Prop :=
  dNews tt e s.loc y fun ys _ => match x with
    | .nl => putK s dst (.v (.int .i64 (0 : Nat))) K
    | .own i => match lget s.loc i with
      | .row e' sz es => match Nat.beq e' e && Nat.beq sz (tinfo tt e).size with
        | true => putK ⟨s.env, lset s.loc i (.row e sz (ys.take es.length ++ es.drop ys.length))⟩ dst (.v (.int .i64 (Nat.min ys.length es.length : Nat))) K
        | false => False
      | _ => False
    | _ => False

def dStoreRow (tt : TT) (s : DS) (dst : Option Tmp) (t : TypeId) (x d : DV) (K : DS → Prop) : Prop :=
  match x with
  | .rp i k off => match plainAll (dcells d), lget s.loc i with
    | true, .row e sz es => ∃ ed, es[k]? = some ed ∧ match Nat.beq (dcells d).length (tinfo tt t).size && Nat.ble (off + (dcells d).length) sz with
      | true => putK ⟨s.env, lset s.loc i (.row e sz (es.set k (dsplice ed off (dcells d))))⟩ dst (.wh false (.v (.bool false))) K
      | false => False
    | _, _ => False
  | _ => False
def dStore (tt : TT) (s : DS) (dst : Option Tmp) (t : TypeId) (a y : Operand) (d : DV) (K : DS → Prop) : Prop :=
  match (tinfo tt t).size with
  | 0 => False
  | _ => match ev s a with
    | .lp i off => match lget s.loc i with
      | .cells t' cs => match Nat.beq (dcells d).length (tinfo tt t).size && Nat.ble (off + (dcells d).length) cs.length with
        | false => False
        | true => putK ⟨s.env, lset s.loc i (.cells t' (dsplice cs off (dcells d)))⟩ dst (.wh false (.v (.bool false))) K
      | _ => False
    | .ap i off => match lget s.loc i with
      | .cells t' cs => match Nat.beq (dcells d).length (tinfo tt t).size with
        | true => off + (dcells d).length ≤ cs.length ∧ putK ⟨s.env, lset s.loc i (.cells t' (dsplice cs off (dcells d)))⟩ dst (.wh false (.v (.bool false))) K
        | false => False
      | _ => False
    | .rp _ _ _ => shutIn (owns [d]) s fun s => frc (ev s y) fun d => dStoreRow tt s dst t (ev s a) d K
    | _ => False

def dop (tt : TT) (P : Program) (o : Oper) (s : DS) (K : DS → Prop) : Prop :=
  match isVal o.op (ev s) with
  | true => dval tt s.loc o.op (ev s) fun c d => needs c (putK s o.dst d K)
  | false => match o.op with
    | .alloc t => match (tinfo tt t).size with
      | 0 => False
      | _ => putK ⟨s.env, s.loc ++ [.cells t (tinfo tt t).zero]⟩ o.dst (.lp s.loc.length 0) K
    | .box t x => frc (ev s x) fun d => match d with
      | .agg cs => putK ⟨s.env, s.loc ++ [.cells t cs]⟩ o.dst (.lp s.loc.length 0) K
      | .wh .. | .tup _ | .junk => False
      | d => putK ⟨s.env, s.loc ++ [.cells t [d]]⟩ o.dst (.lp s.loc.length 0) K
    | .store t a x => frc (ev s x) fun d => match d with
      | .wh .. | .tup _ | .junk => False
      | d => dStore tt s o.dst t a x d K
    | .buildSlice t n parts => match (tinfo tt t).k with
      | .slc e => match (tinfo tt e).size, Nat.ble (n * (tinfo tt e).size) 16777216 with
        | _ + 1, true => shutOps s (parts.toList.map (·.2)) fun s => elemsK (ev s) (tinfo tt e).size parts.toList (List.replicate n (tinfo tt e).zero) fun es =>
          putK ⟨s.env, s.loc ++ [.row e (tinfo tt e).size es]⟩ o.dst (.own s.loc.length) K
        | _, _ => False
      | _ => False
    | .makeSlice t l c => match (tinfo tt t).k with
      | .slc e => match (tinfo tt e).size, ev s l, ev s c with
        | _ + 1, .v (.int _ l), .v (.int _ c) => ∃ n m : Nat, l = n ∧ c = m ∧ n ≤ m ∧ m * (tinfo tt e).bytes ≤ 140737488355328 ∧ m ≤ maxLen ∧
            putK ⟨s.env, s.loc ++ [.row e (tinfo tt e).size (List.replicate n (tinfo tt e).zero)]⟩ o.dst (.own s.loc.length) K
        | _, _, _ => False
      | _ => False
    | .slice t x lo hi mx => match ev s x with
      | .own j => match lget s.loc j with
        | .row _ sz es => dval tt (s.shut j sz es).loc (.slice t x lo hi mx) (ev (s.shut j sz es)) fun c d => needs c (putK (s.shut j sz es) o.dst d K)
        | _ => False
      | _ => False
    | .call { callee := .builtin .append, args, argTypes } => match args.toList, argTypes.toList with
      | [x, y], [t, t'] => match Nat.beq t t', (tinfo tt t).k with
        | true, .slc e => match (tinfo tt e).size with
          | 0 => False
          | _ => dAppend tt e s o.dst (ev s x) (ev s y) K
        | _, _ => False
      | _, _ => False
    | .call { callee := .builtin .copy, args, argTypes } => match args.toList, argTypes.toList with
      | [x, y], [t, t'] => match Nat.beq t t', (tinfo tt t).k with
        | true, .slc e => match (tinfo tt e).size with
          | 0 => False
          | _ => dCopy tt e s o.dst (ev s x) (ev s y) K
        | _, _ => False
      | _, _ => False
    | .call { callee := .value f, args, .. } => match ev s f with
      | .fn (.func n) caps => evL (ev s) args.toList fun l => dcall P n (l ++ caps) s fun r s => putK s o.dst r K
      | _ => False
    | _ => False

/-- the conditions under which guarded operands are there -/
def oblAll (b : Bool) (s : DS) : List Operand → (Option Prop → Prop) → Prop
  | [], K => K none
  | x :: r, K => match ev s x with
    | .wh g _ => oblAll b s r fun c => K (andO (some (b = true → g = true)) c)
    | _ => oblAll b s r K
def under (g : Bool) : Option Prop → Option Prop
  | none => none
  | some c => some (g = true → c)
def strip (d : DV) : DV :=
  match d with
  | .wh _ d => d
  | d => d
def bare (s : DS) (x : Operand) : DV := strip (ev s x)

def dguard0 (tt : TT) (P : Program) (o : Oper) (g : Bool) (s : DS) (K : DS → Prop) : Prop :=
  match isVal o.op (bare s) with
  | true => oblAll g s o.op.operands.toList fun c0 => dval tt s.loc o.op (bare s) fun c d => needs (andO c0 (under g c)) (putK s o.dst (.wh g d) K)
  | false => match o.op with
    | .call { callee := .value f, args, .. } => match bare s f with
      | .fn (.func n) caps => oblAll g s o.op.operands.toList fun c0 => evL (bare s) args.toList fun l => lendA s.loc (l ++ caps) fun l1 => ∃ l' r, DleAll l1 l' ∧ (g = true → Ret P n l' r) ∧ needs c0 (match owns (l ++ caps) with
        | [] => putK s o.dst (.wh g r) K
        | _ => match scalar r with
          | true => putK s o.dst (.wh g r) K
          | false => False)
      | _ => False
    | _ => (g = true → dop tt P o s K) ∧ (g = false → putK s o.dst (.wh false (.v (.bool false))) K)

/-- a choice under a guard: each side is wanted only where it is chosen -/
def dgPick (s : DS) (g : Bool) (c a b : Operand) (K : Option Prop → DV → Prop) : Prop :=
  oblAll g s [c] fun c0 => match bare s c with
  | .v (.bool t) => obl (g && t) (ev s a) fun c1 x => obl (g && !t) (ev s b) fun c2 y => frc x fun x => frc y fun y => dpickV t x y (isConstTrue a) (isConstFalse b) fun d => K (andO c0 (andO c1 c2)) d
  | _ => False
def dguard (tt : TT) (P : Program) (o : Oper) (g : Bool) (s : DS) (K : DS → Prop) : Prop :=
  match o.op with
  | .pick c a b => dgPick s g c a b fun c d => needs c (putK s o.dst (.wh g d) K)
  | _ => dguard0 tt P o g s K

def guardOf (all : List Oper) (s : DS) (j : Nat) : DV :=
  match all[j]? with
  | some o => match o.dst with
    | some t => look s.env t
    | none => .junk
  | none => .junk
def wantK (b want : Bool) (K : Bool → Prop) : Prop :=
  match want with
  | true => K b
  | false => K (!b)

def dops (tt : TT) (P : Program) (all : List Oper) : List Oper → (DS → Prop) → DS → Prop
  | [], K, s => K s
  | o :: r, K, s => match o.guard with
    | none => dop tt P o s fun s => dops tt P all r K s
    | some (j, want) => match guardOf all s j with
      | .v (.bool b) => wantK b want fun g => dguard tt P o g s fun s => dops tt P all r K s
      | .wh g (.v (.bool b)) => wantK b want fun g' => dguard tt P o (g && g') s fun s => dops tt P all r K s
      | _ => False

def dcond (b : Bool) (x y : Prop) : Prop :=
  match b with
  | true => x
  | false => y
theorem dcond_intro {b : Bool} {x y : Prop} (h : b = true → x) (h' : b = false → y) : dcond b x y := by
  cases b
  · exact h' rfl
  · exact h rfl

/-! ## regions whose order is drawn: every operation with what it reads and what it writes -/
structure TE where
  puts : List (Nat × DV)
  rd : List Nat
  wr : Option (Nat × LObj)
def TE.app (te : TE) (s : DS) : DS :=
  ⟨te.puts ++ s.env, match te.wr with
    | some (k, ob) => lset s.loc k ob
    | none => s.loc⟩
def refs0 : DV → List Nat
  | .lp i _ | .ap i _ | .rp i _ _ | .own i => [i]
  | _ => []
def refs : DV → List Nat
  | .agg cs => cs.flatMap refs0
  | .wh _ d => refs d
  | d => refs0 d
def opRefs (ρ : Operand → DV) (l : List Operand) : List Nat := l.flatMap fun x => refs (ρ x)
def dputs (dst : Option Tmp) (d : DV) : List (Nat × DV) :=
  match dst with
  | some t => [(t, d)]
  | none => []
def isDead : LObj → Bool
  | .dead => true
  | _ => false
def freeAt (l : List LObj) (i : Nat) : Bool := Nat.blt i l.length && isDead (lget l i)

def rStore (tt : TT) (s : DS) (dst : Option Tmp) (t : TypeId) (a : Operand) (d : DV) (K : TE → Prop) : Prop :=
  match (tinfo tt t).size with
  | 0 => False
  | _ => match ev s a with
    | .lp i off => match lget s.loc i with
      | .cells t' cs => match Nat.beq (dcells d).length (tinfo tt t).size && Nat.ble (off + (dcells d).length) cs.length with
        | false => False
        | true => K ⟨dputs dst (.wh false (.v (.bool false))), i :: refs d, some (i, .cells t' (dsplice cs off (dcells d)))⟩
      | _ => False
    | .ap i off => match lget s.loc i with
      | .cells t' cs => match Nat.beq (dcells d).length (tinfo tt t).size with
        | true => off + (dcells d).length ≤ cs.length ∧ K ⟨dputs dst (.wh false (.v (.bool false))), i :: refs d, some (i, .cells t' (dsplice cs off (dcells d)))⟩
        | false => False
      | _ => False
    | .rp i k off => match plainAll (dcells d), lget s.loc i with
      | true, .row e sz es => ∃ ed, es[k]? = some ed ∧ match Nat.beq (dcells d).length (tinfo tt t).size && Nat.ble (off + (dcells d).length) sz with
        | true => K ⟨dputs dst (.wh false (.v (.bool false))), i :: refs d, some (i, .row e sz (es.set k (dsplice ed off (dcells d))))⟩
        | false => False
      | _, _ => False
    | _ => False

def rop1 (tt : TT) (P : Program) (o : Oper) (idx : Nat) (s : DS) (K : TE → Nat → Prop) : Prop :=
  match isVal o.op (ev s) with
  | true => dval tt s.loc o.op (ev s) fun c d => needs c (K ⟨dputs o.dst d, opRefs (ev s) o.op.operands.toList, none⟩ idx)
  | false => match o.op with
    | .alloc t => match (tinfo tt t).size, freeAt s.loc idx with
      | _ + 1, true => K ⟨dputs o.dst (.lp idx 0), [], some (idx, .cells t (tinfo tt t).zero)⟩ (idx + 1)
      | _, _ => False
    | .store t a x => frc (ev s x) fun d => match d with
      | .wh .. | .tup _ | .junk => False
      | d => rStore tt s o.dst t a d fun te => K te idx
    | .buildSlice t n parts => match (tinfo tt t).k with
      | .slc e => match (tinfo tt e).size, Nat.ble (n * (tinfo tt e).size) 16777216, freeAt s.loc idx with
        | _ + 1, true, true => elemsK (ev s) (tinfo tt e).size parts.toList (List.replicate n (tinfo tt e).zero) fun es =>
          K ⟨dputs o.dst (.own idx), [], some (idx, .row e (tinfo tt e).size es)⟩ (idx + 1)
        | _, _, _ => False
      | _ => False
    | .makeSlice t l c => match (tinfo tt t).k with
      | .slc e => match (tinfo tt e).size, ev s l, ev s c, freeAt s.loc idx with
        | _ + 1, .v (.int _ l), .v (.int _ c), true => ∃ n m : Nat, l = n ∧ c = m ∧ n ≤ m ∧ m * (tinfo tt e).bytes ≤ 140737488355328 ∧ m ≤ maxLen ∧
            K ⟨dputs o.dst (.own idx), [], some (idx, .row e (tinfo tt e).size (List.replicate n (tinfo tt e).zero))⟩ (idx + 1)
        | _, _, _, _ => False
      | _ => False
    | .call { callee := .value f, args, .. } => match ev s f with
      | .fn (.func n) caps => evL (ev s) args.toList fun l => lendA s.loc (l ++ caps) fun l1 => ∃ l' r, DleAll l1 l' ∧ Ret P n l' r ∧ match owns (l ++ caps) with
        | [] => K ⟨dputs o.dst r, opRefs (ev s) o.op.operands.toList ++ caps.flatMap refs, none⟩ idx
        | _ => match scalar r with
          | true => K ⟨dputs o.dst r, opRefs (ev s) o.op.operands.toList ++ caps.flatMap refs, none⟩ idx
          | false => False
      | _ => False
    | _ => False
def ropG (tt : TT) (P : Program) (o : Oper) (g : Bool) (idx : Nat) (s : DS) (K : TE → Nat → Prop) : Prop :=
  match o.op with
  | .pick c a b => dgPick s g c a b fun c d => needs c (K ⟨dputs o.dst (.wh g d), opRefs (ev s) o.op.operands.toList, none⟩ idx)
  | _ => match isVal o.op (bare s) with
    | true => oblAll g s o.op.operands.toList fun c0 => dval tt s.loc o.op (bare s) fun c d => needs (andO c0 (under g c)) (K ⟨dputs o.dst (.wh g d), opRefs (bare s) o.op.operands.toList, none⟩ idx)
    | false => match o.op with
      | .call { callee := .value f, args, .. } => match bare s f with
        | .fn (.func n) caps => oblAll g s o.op.operands.toList fun c0 => evL (bare s) args.toList fun l => lendA s.loc (l ++ caps) fun l1 => ∃ l' r, DleAll l1 l' ∧ (g = true → Ret P n l' r) ∧ needs c0 (match owns (l ++ caps) with
          | [] => K ⟨dputs o.dst (.wh g r), opRefs (bare s) o.op.operands.toList ++ caps.flatMap refs, none⟩ idx
          | _ => match scalar r with
            | true => K ⟨dputs o.dst (.wh g r), opRefs (bare s) o.op.operands.toList ++ caps.flatMap refs, none⟩ idx
            | false => False)
        | _ => False
      | _ => dcond g (rop1 tt P o idx s K) (K ⟨dputs o.dst (.wh false (.v (.bool false))), [], none⟩ idx)
def rop (tt : TT) (P : Program) (all : List Oper) (o : Oper) (idx : Nat) (s : DS) (K : TE → Nat → Prop) : Prop :=
  match o.guard with
  | none => rop1 tt P o idx s K
  | some (j, want) => match guardOf all s j with
    | .v (.bool b) => wantK b want fun g => ropG tt P o g idx s K
    | .wh g (.v (.bool b)) => wantK b want fun g' => ropG tt P o (g && g') idx s K
    | _ => False
def drops (tt : TT) (P : Program) (all : List Oper) : List Oper → Nat → List TE → (List TE → DS → Prop) → DS → Prop
  | [], _, acc, K, s => K acc s
  | o :: r, idx, acc, K, s => rop tt P all o idx s fun te idx' => drops tt P all r idx' (acc ++ [te]) K (te.app s)

def maskOf (acc : List Nat) : List Edge → Nat → Nat
  | [], m => m
  | e :: r, m => match Region.binds .any e with
    | true => maskOf acc r (Nat.lor m (Nat.lor (2 ^ e.on) (acc.getD e.on 0)))
    | false => maskOf acc r m
def masks : List Oper → List Nat → List Nat
  | [], acc => acc
  | o :: r, acc => masks r (acc ++ [maskOf acc o.after.toList 0])
def edgesDown : List Oper → Nat → Bool
  | [], _ => true
  | o :: r, i => o.after.toList.all (fun e => !Region.binds .any e || Nat.blt e.on i) && edgesDown r (i + 1)
def meets (l r : List Nat) : Bool := l.any fun x => r.any fun y => Nat.beq x y
/-- what an operation looks at and writes: slots, and the call's own objects -/
structure Foot where
  ls : List Nat
  ps : List Nat
  rd : List Nat
  wr : List Nat
def footOf (all : Array Oper) (o : Oper) (te : TE) : Foot :=
  ⟨o.looksAt all, te.puts.map (·.1), te.rd, match te.wr with
    | some (k, _) => [k]
    | none => []⟩
def clash (f g : Foot) : Bool := meets f.ps (g.ls ++ g.ps) || meets f.ls g.ps || meets f.wr (g.rd ++ g.wr) || meets f.rd g.wr
/-- of two that clash the later one waits for the earlier one -/
def rowOk (f : Foot) (i : Nat) : List Foot → List Nat → Bool
  | g :: r, m :: ms => (!clash f g || Nat.testBit m i) && rowOk f i r ms
  | _, _ => true
def pairsOk : Nat → List Foot → List Nat → Bool
  | i, f :: r, _ :: ms => rowOk f i r ms && pairsOk (i + 1) r ms
  | _, _, _ => true
def feet (all : Array Oper) : List Oper → List TE → List Foot
  | o :: r, te :: tr => footOf all o te :: feet all r tr
  | _, _ => []
def regOk (ops : Array Oper) (tr : List TE) : Bool :=
  edgesDown ops.toList 0 && pairsOk 0 (feet ops ops.toList tr) (masks ops.toList [])
def creators : List Oper → Nat
  | [] => 0
  | o :: r => match o.op with
    | .alloc _ | .buildSlice .. | .makeSlice .. => creators r + 1
    | _ => creators r
def drawK (tt : TT) (P : Program) (ops : Array Oper) (K : DS → Prop) (s : DS) : Prop :=
  drops tt P ops.toList ops.toList s.loc.length [] (fun tr s' => regOk ops tr = true ∧ K s') ⟨s.env, s.loc ++ List.replicate (creators ops.toList) .dead⟩

def EnvLe (s : List (Nat × DV)) : List (Nat × DV) → Prop
  | [] => True
  | p :: r => dle (look s p.1) p.2 ∧ EnvLe s r
inductive ole : LObj → LObj → Prop
  | refl {o : LObj} : ole o o
  | cells {t : TypeId} {cs ds : List DV} (hl : cs.length = ds.length) (h : ∀ (i : Nat) c d, cs[i]? = some c → ds[i]? = some d → dle c d) : ole (.cells t cs) (.cells t ds)
def LocLe : List LObj → List LObj → Prop
  | _, [] => True
  | o :: r, o' :: r' => ole o o' ∧ LocLe r r'
  | [], _ :: _ => False

def bnd0 (n : Nat) : DV → Bool
  | .own i | .lp i _ | .ap i _ | .rp i _ _ => Nat.ble (i + 1) n
  | .agg _ | .tup _ | .wh .. => false
  | _ => true
def bnd (n : Nat) : DV → Bool
  | .agg cs => cs.all (bnd0 n)
  | d => bnd0 n d
def bndE (n : Nat) : List (Nat × DV) → Bool
  | [] => true
  | p :: r => bnd n p.2 && bndE n r
def bndL (n : Nat) : List LObj → Bool
  | [] => true
  | .cells _ cs :: r => cs.all (bnd0 n) && bndL n r
  | _ :: r => bndL n r
def DS.le (s t : DS) : Prop := EnvLe s.env t.env ∧ LocLe s.loc t.loc ∧ (bndE t.loc.length t.env && bndL t.loc.length t.loc) = true

/-- a nil slice becomes a row of the call's own: in a slot, or in a cell of an object -/
inductive Ad where
  | slot (t : Nat) (e : TypeId) (sz : Nat)
  | cell (i off : Nat) (e : TypeId) (sz : Nat)
def adoptK : List Ad → DS → (DS → Prop) → Prop
  | [], s, K => K s
  | .slot t e sz :: r, s, K => match look s.env t, sz with
    | .nl, _ + 1 => adoptK r ⟨(t, .own s.loc.length) :: s.env, s.loc ++ [.row e sz []]⟩ K
    | _, _ => False
  | .cell i off e sz :: r, s, K => match lget s.loc i, sz with
    | .cells t cs, _ + 1 => match cs[off]? with
      | some .nl => adoptK r ⟨s.env, lset s.loc i (.cells t (dset cs off (.own s.loc.length))) ++ [.row e sz []]⟩ K
      | _ => False
    | _, _ => False
def DLoop (body : (Exit → DS → Prop) → DS → Prop) (K : Exit → DS → Prop) (s : DS) : Prop :=
  ∃ (S : Type) (enc : S → DS) (I : S → Prop) (μ : S → Nat) (ads : List Ad), (∃ x, I x ∧ adoptK ads s fun s => s.le (enc x)) ∧
    ∀ x, I x → body (fun e s' => match e with
      | .normal => ∃ x', I x' ∧ μ x' < μ x ∧ s'.le (enc x')
      | e => K e s') (enc x)

def dcode (tt : TT) (P : Program) : Code → (Exit → DS → Prop) → DS → Prop
  | .skip, K, s => K .normal s
  | .region _ ops draw, K, s => match draw with
    | false => dops tt P ops.toList ops.toList (fun s => K .normal s) s
    | true => drawK tt P ops (fun s => K .normal s) s
  | .seq a b, K, s => dcode tt P a (fun e s' => match e with
      | .normal => dcode tt P b K s'
      | e => K e s') s
  | .cond c a b, K, s => match ev s c with
    | .v (.bool t) => dcond t (dcode tt P a K s) (dcode tt P b K s)
    | _ => False
  | .block id c, K, s => dcode tt P c (fun e s' => match e with
      | .exit j => match Nat.beq j id with
        | true => K .normal s'
        | false => K (.exit j) s'
      | e => K e s') s
  | .loop c, K, s => DLoop (dcode tt P c) K s
  | .exit id, K, s => K (.exit id) s
  | .ret, K, s => K .ret s
  | .label _, K, s => K .normal s
  | _, _, _ => False

def resK (tt : TT) (s : DS) : List ResultVar → (List DV → Prop) → Prop
  | [], K => K []
  | .tmp t :: r, K => frc (look s.env t) fun d => lend s.loc d fun d => resK tt s r fun l => K (d :: l)
  | .cell p ty :: r, K => match look s.env p with
    | .lp i o => match lget s.loc i with
      | .cells _ cs => match (tinfo tt ty).size with
        | 0 => False
        | _ => dropK o cs fun l => dTake (tinfo tt ty).agg (tinfo tt ty).size l fun d => lend s.loc d fun d => resK tt s r fun l => K (d :: l)
      | _ => False
    | _ => False

def dpost (tt : TT) (rs : List ResultVar) (d : DV) (s : DS) : Prop :=
  resK tt s rs fun l => match l with
    | [x] => dle x d
    | l => dle (.tup l) d

def enum : Nat → List DV → List (Nat × DV)
  | _, [] => []
  | n, d :: r => (n, d) :: enum (n + 1) r

def dbody (tt : TT) (P : Program) (c : Code) (rs : List ResultVar) (args : List DV) (d : DV) : Prop :=
  dcode tt P c (fun e s => match e with
    | .normal | .ret => dpost tt rs d s
    | _ => False) ⟨enum 0 args, []⟩

end Go.Lift
