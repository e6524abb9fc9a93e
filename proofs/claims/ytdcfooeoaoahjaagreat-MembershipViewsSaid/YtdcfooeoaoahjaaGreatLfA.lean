/- A data-level logic for the model: what a body does to data; its soundness (part LfA). No conditions. -/
import Derived.WalkKit
set_option linter.unusedSimpArgs false
set_option linter.unusedVariables false
set_option maxRecDepth 100000
set_option maxHeartbeats 16000000
namespace Go.Lift
theorem bc{a b:Prop}(h:b):(a->a)/\b:=⟨fun h=>h,h⟩
inductive aj where
 |v(x:Value)
 |aq(av:Nat)(es:List (List aj))(pW:Bool)
 |agg(cs:List aj)
 |a1(ds:List aj)
 |cD(cs:List aj)
 |aP(i off:Nat)
 |dc(i off:Nat)
 |cF(i k off:Nat)
 |own(i:Nat)
 |fn(f:Fn)(b2:List aj)
 |bP(b:Bool)(d:aj)
 |ar
 |aW
inductive aU where
 |cells(t:TypeId)(cs:List aj)
 |row(e:TypeId)(av:Nat)(es:List (List aj))
 |bd
 |gone
 |b6(cs:List aj)
structure bu where
 env:List (Nat×aj)
 loc:List aU
def look:List (Nat×aj)->Nat->aj
 | [],_=>.aW
 |p::r,t=>match Nat.beq p.1 t with
  |true=>p.2
  |false=>look r t
def bu.put(s:bu)(dst:Option Tmp)(d:aj):bu:=
 match dst with
 |some t=>⟨(t,d)::s.env,s.loc⟩
 |none=>s
def z8:List aU->(List aU->Prop)->Prop
 | [],K=>K []
 |o::r,K=>z8 r fun r=>K (o::r)
def pX:List aj->(List aj->Prop)->Prop
 | [],K=>K []
 |c::r,K=>pX r fun r=>K (c::r)
theorem sV:∀ {l:List aj} {K:List aj->Prop},pX l K↔K l
 | [],_=>Iff.rfl
 |_::r,_=>sV (l:=r)
def e0(s:bu)(dst:Option Tmp)(d:aj)(K:bu->Prop):Prop:=
 match s with
 | ⟨e,l⟩=>z8 l fun l=>match dst with
  |some t=>K ⟨(t,d)::e,l⟩
  |none=>K ⟨e,l⟩
def andO:Option Prop->Option Prop->Option Prop
 |none,c=>c
 |some a,none=>some a
 |some a,some b=>some (a/\b)
def pY(c:Option Prop)(p:Prop):Prop:=
 match c with
 |none=>p
 |some a=>a/\p
def bB:List aU->Nat->aU
 | [],_=>.bd
 |o::_,0=>o
 |_::r,n+1=>bB r n
def e1:List aU->Nat->aU->List aU
 | [],_,_=>[]
 |_::r,0,x=>x::r
 |o::r,n+1,x=>o::e1 r n x
def hJ:aU->Bool
 | .row .. =>true
 |_=>false
def ow:aU->Bool
 | .cells .. =>true
 |_=>false
def Hg:aU->Bool
 | .gone=>true
 |_=>false
def qT:List aj->Nat->aj->List aj
 | [],_,_=>[]
 |_::r,0,x=>x::r
 |o::r,n+1,x=>o::qT r n x
def qU:List aj->List aj->List aj
 |l,[]=>l
 | [],_::_=>[]
 |_::l,x::r=>x::qU l r
def qV:List aj->Nat->List aj->List aj
 |l,0,r=>qU l r
 | [],_+1,_=>[]
 |c::l,n+1,r=>c::qV l n r
def hl:List aj->Nat->List aj->List aj
 |l,_,[]=>l
 |l,o,[x]=>qT l o x
 |l,o,x::y::r=>qV l o (x::y::r)
inductive Dp where
 |int(k:IntKind)|bool|str|dW (e:TypeId)|cr (fs:List (TypeId×Nat))|arr (n:Nat) (e:TypeId)|e2
structure Aa where
 size:Nat
 bytes:Nat
 agg:Bool
 zero:List aj
 k:Dp
abbrev c4:=List (Nat×Aa)
def ay:c4->TypeId->Aa
 | [],_=>⟨0,0,false,[],.e2⟩
 |p::r,t=>match Nat.beq p.1 t with
  |true=>p.2
  |false=>ay r t
def Hh:Value->aj
 | .slice none 0 0=>.ar
 | .slice _ _ _=>.aW
 | .agg _=>.aW
 | .tuple _=>.aW
 |x=>.v x
def bq(s:bu):Operand->aj
 | .tmp t=>look s.env t
 | .const v=>Hh v
 | .global _=>.aW
 | .func f=>.fn (.func f) []
def fl(d:aj)(K:aj->Prop):Prop:=
 match d with
 | .v x=>K (.v x)
 | .aq av es f=>K (.aq av es f)
 | .agg cs=>K (.agg cs)
 | .a1 ds=>K (.a1 ds)
 | .cD cs=>K (.cD cs)
 | .aP i o=>K (.aP i o)
 | .dc i o=>K (.dc i o)
 | .cF i k o=>K (.cF i k o)
 | .own i=>K (.own i)
 | .fn f c=>K (.fn f c)
 | .bP b d=>K (.bP b d)
 | .ar=>K .ar
 | .aW=>K .aW
def sW:Nat->List aj->(List aj->Prop)->Prop
 |0,_,K=>K []
 |_+1,[],_=>False
 |n+1,d::r,K=>fl d fun d=>sW n r fun l=>K (d::l)
def nK:Nat->List aj->(List aj->Prop)->Prop
 |0,l,K=>K l
 |_+1,[],_=>False
 |n+1,_::r,K=>nK n r K
def pd:Operand->Bool
 | .const (.bool b)=>b
 |_=>false
def pe:Operand->Bool
 | .const (.bool b)=> !b
 |_=>false
def pZ(b:Bool)(d:aj)(K:Option Prop->aj->Prop):Prop:=
 match d with
 | .bP g d=>K (some (b=true->g=true)) d
 |d=>K none d
def ox(c:Bool)(x y:aj)(sX vZ:Bool)(K:aj->Prop):Prop:=
 match x,y with
 | .v (.bool a),.v (.bool b)=>match sX,vZ with
  |true,_=>K (.v (.bool (c||b)))
  |_,true=>K (.v (.bool (c&&a)))
  |_,_=>K (.v (.bool (bif c then a else b)))
 |_,_=>False
def pf:IntKind->IntKind->Bool
 | .i8,.i8| .i16,.i16| .i32,.i32| .i64,.i64| .u8,.u8| .u16,.u16| .u32,.u32| .u64,.u64=>true
 |_,_=>false
def cN:aj->List aj
 | .agg cs=>cs
 |d=>[d]
inductive nm where
 |int(k:IntKind)|bool|str
def Ab(g:TypeId->Option (List nm)):List (TypeId×Nat)->Nat->Option (List nm)
 | [],_=>some []
 |f::r,o=>match Nat.beq f.2 o with
  |false=>none
  |true=>match g f.1 with
   |none=>none
   |some cA=>match Ab g r (o+cA.length)with
    |none=>none
    |some l=>some (cA++l)
def flatK(ah:c4):Nat->TypeId->Option (List nm)
 |0,_=>none
 |n+1,t=>match (ay ah t).k with
  | .int k=>some [.int k]
  | .bool=>some [.bool]
  | .str=>some [.str]
  | .cr fs=>match Ab (flatK ah n) fs 0 with
   |some cA=>match Nat.beq cA.length (ay ah t).size,(ay ah t).size with
    |true,_+1=>some cA
    |_,_=>none
   |none=>none
  |_=>none
def Ac(k:nm)(x y:aj)(K:Bool->Prop):Prop:=
 match k,x,y with
 | .int k,.v (.int cx a),.v (.int cM b)=>match pf k cx&&pf k cM with
  |true=>K (decide (a=b))
  |false=>False
 | .str,.v (.string a),.v (.string b)=>K (decide (a=b))
 | .bool,.v (.bool a),.v (.bool b)=>K (a==b)
 |_,_,_=>False
def nL:List nm->List aj->List aj->(Bool->Prop)->Prop
 | [],[],[],K=>K true
 |k::cA,x::r,y::dZ,K=>Ac k x y fun e=>nL cA r dZ fun z=>K (e&&z)
 |_,_,_,_=>False
def Ad(op:BinOp)(k:IntKind)(a b:Int)(K:Option Prop->aj->Prop):Prop:=
 match op with
 | .add=>K none (.v (.int k (k.wrap (a+b))))
 | .sub=>K none (.v (.int k (k.wrap (a-b))))
 | .mul=>K none (.v (.int k (k.wrap (a*b))))
 | .quo=>K (some (b≠0)) (.v (.int k (k.wrap (a.tdiv b))))
 | .rem=>K (some (b≠0)) (.v (.int k (a.tmod b)))
 | .and=>K none (.v (.int k (bits .and k a b)))
 | .or=>K none (.v (.int k (bits .or k a b)))
 | .xor=>K none (.v (.int k (bits .xor k a b)))
 | .andNot=>K none (.v (.int k (bits .andNot k a b)))
 | .eql=>K none (.v (.bool (decide (a=b))))
 | .neq=>K none (.v (.bool (!decide (a=b))))
 | .lss=>K none (.v (.bool (decide (a<b))))
 | .leq=>K none (.v (.bool (decide (a<=b))))
 | .gtr=>K none (.v (.bool (decide (b<a))))
 | .geq=>K none (.v (.bool (decide (b<=a))))
 |_=>False
def M3:BinOp->Bool
 | .shl| .shr=>true
 |_=>false
def Ae(op:BinOp)(k:IntKind)(a b:Int)(K:Option Prop->aj->Prop):Prop:=
 match op with
 | .shl=>K (some (0<=b)) (.v (.int k (k.wrap (a*2^ (min b.toNat k.bits)))))
 | .shr=>K (some (0<=b)) (.v (.int k (a.fdiv (2^ (min b.toNat k.bits)))))
 |_=>False
def Dq(op:BinOp)(a b:ByteArray)(K:Option Prop->aj->Prop):Prop:=
 match op with
 | .eql=>K none (.v (.bool (decide (a=b))))
 | .neq=>K none (.v (.bool (!decide (a=b))))
 | .lss=>K none (.v (.bool (Op.bytesLess a.toList b.toList)))
 |_=>False
def Af(op:BinOp)(a b:Bool)(K:Option Prop->aj->Prop):Prop:=
 match op with
 | .eql=>K none (.v (.bool (a==b)))
 | .neq=>K none (.v (.bool (!(a==b))))
 |_=>False
def xZ(ah:c4)(t:TypeId)(op:BinOp)(a b:List aj)(K:Option Prop->aj->Prop):Prop:=
 match flatK ah 5 t,(ay ah t).agg with
 |some cA,true=>match op with
  | .eql=>nL cA a b fun r=>K none (.v (.bool r))
  | .neq=>nL cA a b fun r=>K none (.v (.bool (!r)))
  |_=>False
 |_,_=>False
def x0(ah:c4)(t:TypeId)(op:BinOp)(x y:aj)(K:Option Prop->aj->Prop):Prop:=
 match x,y with
 | .v (.int k a),.v (.int dv b)=>match M3 op with
  |true=>Ae op k a b K
  |false=>match pf k dv with
   |true=>Ad op k a b K
   |false=>False
 | .v (.string a),.v (.string b)=>Dq op a b K
 | .v (.bool a),.v (.bool b)=>match (ay ah t).k with
  | .bool=>Af op a b K
  |_=>False
 | .agg a,.agg b=>xZ ah t op a b K
 |_,_=>False
def fO:List (TypeId×Nat)->Nat->TypeId×Nat
 | [],_=>(0,0)
 |x::_,0=>x
 |_::r,n+1=>fO r n
def Dr:Operand->Option Nat
 | .const (.int _ (.ofNat n))=>some n
 |_=>none
def v1(b:UInt8):List aj:=[.v (.int .u8 b.toNat)]
def oy(ρ:Operand->aj)(place:Nat->Nat×Nat):List (Nat×Operand)->List aj->(List aj->Prop)->Prop
 | [],cs,K=>K cs
 | (i,x)::r,cs,K=>fl (ρ x) fun d=>match d with
  | .bP _ _=>False
  | .a1 _=>False
  | .aW=>False
  |d=>match Nat.beq (cN d).length (place i).2&&Nat.ble ((place i).1+(cN d).length) cs.length&&Nat.blt 0 (place i).2 with
   |true=>pX (hl cs (place i).1 (cN d)) fun cY=>oy ρ place r cY K
   |false=>False
def p0(ρ:Operand->aj):List Operand->(List aj->Prop)->Prop
 | [],K=>K []
 |x::r,K=>fl (ρ x) fun d=>p0 ρ r fun l=>K (d::l)
def kf:aj->Bool
 | .v _| .aq .. | .ar| .cD _| .fn _ []=>true
 |_=>false
def Hi:aj->Bool
 | .aP _ _=>true
 |_=>false
def j0:aj->Bool
 | .aP _ _=>true
 |d=>kf d
def nM:aj->Bool
 | .v _| .aq .. | .ar| .cD _=>true
 | .fn _ b2=>b2.all kf
 |_=>false
def mH:List aj->Bool
 | []=>true
 |d::r=>match nM d with
  |true=>mH r
  |false=>false
def sY(loc:List aU)(d:aj)(K:Option Prop->aj->Prop):Prop:=
 match d with
 | .aP i o=>K none (.aP i o)
 | .dc i o=>K none (.dc i o)
 | .cF i k o=>match hJ (bB loc i)with
  |true=>K none (.cF i k o)
  |false=>False
 | .cD cs=>K none (.cD cs)
 | .fn (.func f) c=>K none (.fn (.func f) c)
 |_=>False
def v2(ρ:Operand->aj)(c a b:Operand)(K:Option Prop->aj->Prop):Prop:=
 match ρ c with
 | .v (.bool t)=>pZ t (ρ a) fun dX x=>pZ (!t) (ρ b) fun de y=>fl x fun x=>fl y fun y=>ox t x y (pd a) (pe b) fun d=>K (andO dX de) d
 |_=>False
def x1(op:UnOp)(d:aj)(K:Option Prop->aj->Prop):Prop:=
 match op,d with
 | .not,.v (.bool b)=>K none (.v (.bool !b))
 | .neg,.v (.int k n)=>K none (.v (.int k (k.wrap (0-n))))
 | .xor,.v (.int k n)=>K none (.v (.int k (bits .xor k (if k.signed then -1 else k.max) n)))
 |_,_=>False
def x2(ah:c4)(cA k:Dp)(d:aj)(K:Option Prop->aj->Prop):Prop:=
 match cA,k,d with
 | .int _,.int k,.v (.int _ n)=>K none (.v (.int k (k.wrap n)))
 | .str,.str,.v (.string s)=>K none (.v (.string s))
 | .dW e,.str,.aq av es _=>match (ay ah e).k,Nat.beq av 1 with
  | .int .u8,true=>∃oz:List UInt8,K (some (es=oz.map v1)) (.v (.string ⟨oz.toArray⟩))
  |_,_=>False
 |_,_,_=>False
def sZ(ah:c4)(loc:List aU)(t:TypeId)(f:Nat)(d:aj)(K:Option Prop->aj->Prop):Prop:=
 match (ay ah t).k with
 | .cr fs=>match (ay ah (fO fs f).1).size with
  |0=>False
  |_=>match d with
   | .aP i o=>K none (.aP i (o+(fO fs f).2))
   | .dc i o=>K none (.dc i (o+(fO fs f).2))
   | .cF i k o=>match hJ (bB loc i)with
    |true=>K none (.cF i k (o+(fO fs f).2))
    |false=>False
   | .cD cs=>nK (fO fs f).2 cs fun l=>K none (.cD l)
   |_=>False
 |_=>False
def kg(agg:Bool)(size:Nat)(l:List aj)(K:aj->Prop):Prop:=
 match agg with
 |true=>sW size l fun l=>K (.agg l)
 |false=>match l with
  |d::_=>fl d fun d=>K d
  | []=>False
def x3(ah:c4)(t:TypeId)(f:Nat)(d:aj)(K:Option Prop->aj->Prop):Prop:=
 match (ay ah t).k with
 | .cr fs=>match (ay ah (fO fs f).1).size with
  |0=>False
  |_=>match d with
   | .agg cs=>nK (fO fs f).2 cs fun l=>kg (ay ah (fO fs f).1).agg (ay ah (fO fs f).1).size l fun d=>K none d
   |_=>False
 |_=>False
def v7(loc:List aU)(size:Nat)(gS:Int)(d:aj)(K:Option Prop->aj->Prop):Prop:=
 match d with
 | .aq av es _=>match Nat.beq av size with
  |true=>∃ (k:Nat) (ez:List aj),K (some (gS=k/\es[k]?=some ez)) (.cD ez)
  |false=>False
 | .own j=>match bB loc j with
  | .row _ av es=>match Nat.beq av size with
   |true=>∃k:Nat,K (some (gS=k/\k<es.length)) (.cF j k 0)
   |false=>False
  |_=>False
 |_=>False
def x4(n size:Nat)(lit:Option Nat)(gS:Int)(d:aj)(K:Option Prop->aj->Prop):Prop:=
 match lit with
 |some m=>match d with
  | .aP j o=>K (some (m<n)) (.aP j (o+m*size))
  | .dc j o=>K (some (m<n)) (.dc j (o+m*size))
  |_=>False
 |none=>match d with
  | .aP j o=>∃k:Nat,K (some (gS=k/\k<n)) (.dc j (o+k*size))
  | .dc j o=>∃k:Nat,K (some (gS=k/\k<n)) (.dc j (o+k*size))
  |_=>False
def s0(ah:c4)(loc:List aU)(t:TypeId)(i:Operand)(x y:aj)(K:Option Prop->aj->Prop):Prop:=
 match (ay ah t).k,y with
 | .dW e,.v (.int _ gS)=>match (ay ah e).size with
  |0=>False
  |_=>v7 loc (ay ah e).size gS x K
 | .arr n e,.v (.int _ gS)=>match (ay ah e).size with
  |0=>False
  |_=>x4 n (ay ah e).size (Dr i) gS x K
 |_,_=>False
def x5(ah:c4)(t:TypeId)(x y:aj)(K:Option Prop->aj->Prop):Prop:=
 match y with
 | .v (.int _ gS)=>match (ay ah t).k,x with
  | .str,.v (.string s)=>∃k:Nat,K (some (gS=k/\k<s.size)) (.v (.int .u8 (s.data.getD k 0).toNat))
  | .arr n e,.agg cs=>match (ay ah e).agg,Nat.beq (ay ah e).size 1 with
   |false,true=>∃ (k:Nat) (d:aj),fl d fun d=>K (some (gS=k/\k<n/\cs[k]?=some d)) d
   |_,_=>False
  |_,_=>False
 |_=>False
def qW(ah:c4)(loc:List aU)(t:TypeId)(d:aj)(K:Option Prop->aj->Prop):Prop:=
 match (ay ah t).size with
 |0=>False
 |_=>match d with
  | .cD cs=>kg (ay ah t).agg (ay ah t).size cs fun d=>K none d
  | .aP i o=>match bB loc i with
   | .cells _ cs=>nK o cs fun l=>kg (ay ah t).agg (ay ah t).size l fun d=>K none d
   |_=>False
  | .dc i o=>match bB loc i with
   | .cells _ cs=>match (ay ah t).agg with
    |true=>∃ds:List aj,K (some ((cs.drop o).take (ay ah t).size=ds/\ds.length=(ay ah t).size)) (.agg ds)
    |false=>∃d:aj,fl d fun d=>K (some (cs[o]?=some d)) d
   |_=>False
  | .cF i k o=>match bB loc i with
   | .row _ _ es=>∃ez:List aj,nK o ez fun l=>kg (ay ah t).agg (ay ah t).size l fun d=>K (some (es[k]?=some ez)) d
   |_=>False
  |_=>False
def x6(n:Nat)(d:aj)(K:Option Prop->aj->Prop):Prop:=
 match d with
 | .a1 ds=>nK n ds fun l=>match l with
  |d::_=>fl d fun d=>K none d
  | []=>False
 |_=>False
def lF(ρ:Operand->aj)(o:Option Operand)(n:Nat)(e2:Nat):Prop:=
 match o with
 |some o=>∃k,ρ o= .v (.int k n)
 |none=>n=e2
def x7(ah:c4)(t:TypeId)(ρ:Operand->aj)(d:aj)(gE ab dF:Option Operand)(K:Option Prop->aj->Prop):Prop:=
 match (ay ah t).k,d with
 | .str,.v (.string s)=>match dF with
  |none=>∃l h:Nat,K (some (lF ρ gE l 0/\lF ρ ab h s.size/\l<=h/\h<=s.size)) (.v (.string (s.extract l h)))
  |some _=>False
 | .dW e,.ar=>match (ay ah e).size,dF with
  |0,_=>False
  |_,some _=>False
  |_,none=>K (some (lF ρ gE 0 0/\lF ρ ab 0 0)) .ar
 | .dW e,.aq av es pW=>match (ay ah e).size,Nat.beq av (ay ah e).size with
  |0,_=>False
  |_,false=>False
  |_,true=>match ab,dF with
   |none,none=>∃l:Nat,K (some (lF ρ gE l 0/\l<=es.length)) (.aq av (es.drop l) pW)
   |some aF,none=>∃l h:Nat,K (some (lF ρ gE l 0/\lF ρ (some aF) h 0/\l<=h/\h<=es.length)) (.aq av ((es.take h).drop l) false)
   |some aF,some Hj=>∃l h:Nat,K (some (lF ρ gE l 0/\lF ρ (some aF) h 0/\lF ρ (some Hj) h 0/\l<=h/\h<=es.length)) (.aq av ((es.take h).drop l) true)
   |none,some _=>False
 |_,_=>False
def rR(ah:c4)(loc:List aU)(t:TypeId)(d:aj)(K:Option Prop->aj->Prop):Prop:=
 match (ay ah t).k with
 | .dW _=>match d with
  | .aq _ es _=>K none (.v (.int .i64 es.length))
  | .ar=>K none (.v (.int .i64 (0:Nat)))
  | .own j=>match bB loc j with
   | .row _ _ es=>K none (.v (.int .i64 es.length))
   |_=>False
  |_=>False
 | .str=>match d with
  | .v (.string s)=>K none (.v (.int .i64 s.size))
  |_=>False
 | .arr n _=>K none (.v (.int .i64 n))
 |_=>False
def v8(a b:aj)(K:Option Prop->aj->Prop):Prop:=
 match a,b with
 | .v (.int k a),.v (.int _ b)=>K none (.v (.int k (if b<a then b else a)))
 |_,_=>False
def wa(a b:aj)(K:Option Prop->aj->Prop):Prop:=
 match a,b with
 | .v (.int k a),.v (.int _ b)=>K none (.v (.int k (if a<b then b else a)))
 |_,_=>False
def x8(ah:c4):List (TypeId×Nat)->Bool
 | []=>true
 |f::r=>match (ay ah f.1).size with
  |0=>false
  |_=>x8 ah r
def x9(ah:c4)(t:TypeId)(ρ:Operand->aj)(parts:List (Nat×Operand))(K:Option Prop->aj->Prop):Prop:=
 match (ay ah t).k with
 | .cr fs=>match x8 ah fs,(ay ah t).size with
  |true,_+1=>oy ρ (fun i=>match Nat.blt i fs.length with
   |true=>((fO fs i).2,(ay ah (fO fs i).1).size)
   |false=>(0,0)) parts (ay ah t).zero fun l=>K none (.agg l)
  |_,_=>False
 | .arr _ e=>match (ay ah e).size,(ay ah t).size with
  |_+1,_+1=>oy ρ (fun i=>(i* (ay ah e).size,(ay ah e).size)) parts (ay ah t).zero fun l=>K none (.agg l)
  |_,_=>False
 |_=>False
def lG(ah:c4)(loc:List aU)(o:Op)(ρ:Operand->aj)(K:Option Prop->aj->Prop):Prop:=
 match o with
 | .move x| .assign x=>fl (ρ x) fun d=>K none d
 | .pick c a b=>v2 ρ c a b K
 | .nilCheck x=>sY loc (ρ x) K
 | .binOp op t x y _=>x0 ah t op (ρ x) (ρ y) K
 | .unOp op _ x=>x1 op (ρ x) K
 | .convert src dst x=>x2 ah (ay ah src).k (ay ah dst).k (ρ x) K
 | .fieldAddr t x f=>sZ ah loc t f (ρ x) K
 | .field t x f=>x3 ah t f (ρ x) K
 | .indexAddr t x i=>s0 ah loc t i (ρ x) (ρ i) K
 | .index t x i=>x5 ah t (ρ x) (ρ i) K
 | .load t x=>qW ah loc t (ρ x) K
 | .extract x n=>x6 n (ρ x) K
 | .slice t x gE ab dF=>x7 ah t ρ (ρ x) gE ab dF K
 | .makeFunc f first b2=>match first.toList with
  | []=>p0 ρ b2.toList fun l=>match l.all j0 with
   |true=>K none (.fn f l)
   |false=>False
  |_=>False
 | .build t parts=>x9 ah t ρ parts.toList K
 | .call {callee:=.builtin .len,args,argTypes}=>match args.toList,argTypes.toList with
  | [x],[t]=>rR ah loc t (ρ x) K
  |_,_=>False
 | .call {callee:=.builtin .min,args,..}=>match args.toList with
  | [x,y]=>v8 (ρ x) (ρ y) K
  |_=>False
 | .call {callee:=.builtin .max,args,..}=>match args.toList with
  | [x,y]=>wa (ρ x) (ρ y) K
  |_=>False
 |_=>False
def Ds(o:Op)(ρ:Operand->aj):Bool:=
 match o with
 | .binOp _ _ x _ _=>match ρ x with
  | .own _=>false
  | .aq .. =>false
  | .ar=>false
  |_=>true
 | .move _| .assign _| .pick .. | .nilCheck _| .unOp .. | .fieldAddr .. | .field .. | .indexAddr .. | .index .. | .load .. | .extract .. | .makeFunc .. | .build .. =>true
 | .convert _ _ x=>match ρ x with
  | .own _=>false
  |_=>true
 | .slice _ x _ _ _=>match ρ x with
  | .own _=>false
  |_=>true
 | .call {callee:=.builtin .len,..}| .call {callee:=.builtin .min,..}| .call {callee:=.builtin .max,..}=>true
 |_=>false
def kh:aj->Bool
 | .own _=>true
 |_=>false
def nN(ds:List aj):aj:=
 match ds.any kh with
 |false=>.a1 ds
 |true=>.aW
def iH(i:Nat)(r:aj):aj->aj
 | .own j=>match Nat.beq i j with|true=>r|false=>.own j
 | .cF j k o=>match Nat.beq i j with|true=>.aW|false=>.cF j k o
 | .bP b d=>.bP b (iH i r d)
 |d=>d
def pg(i:Nat)(r:aj):aj->aj
 | .agg cs=>.agg (cs.map (iH i r))
 | .a1 ds=>nN ds
 | .bP b d=>.bP b (pg i r d)
 |d=>iH i r d
def mI(f:aj->aj):List (Nat×aj)->List (Nat×aj)
 | []=>[]
 |p::r=>(p.1,f p.2)::mI f r
def mh(f:aj->aj):List aU->List aU
 | []=>[]
 | .cells t cs::r=>.cells t (cs.map f)::mh f r
 | .b6 cs::r=>.b6 (cs.map f)::mh f r
 |o::r=>o::mh f r
def bu.grow(s:bu)(i:Nat)(e:TypeId)(av:Nat)(es:List (List aj)):bu:=
 ⟨mI (pg i .aW) s.env,e1 (mh (iH i .aW) s.loc) i (.row e av es)⟩
def bu.hZ(s:bu)(i av:Nat)(es:List (List aj)):bu:=
 ⟨mI (pg i (.aq av es false)) s.env,e1 (mh (iH i (.aq av es false)) s.loc) i .bd⟩
def Ag(i:Nat)(cs:List aj):aj->aj
 | .aP j o=>match Nat.beq i j with|true=>.cD (cs.drop o)|false=>.aP j o
 |d=>d
def kA(i:Nat)(cs:List aj):aj->aj
 | .aP j o=>match Nat.beq i j with|true=>.cD (cs.drop o)|false=>.aP j o
 | .dc j o=>match Nat.beq i j with|true=>.cD (cs.drop o)|false=>.dc j o
 | .fn f b2=>.fn f (b2.map (Ag i cs))
 | .bP b d=>.bP b (kA i cs d)
 |d=>d
def ya(i:Nat)(cs:List aj):aj->aj
 | .agg l=>.agg (l.map (kA i cs))
 | .a1 ds=>nN ds
 | .bP b d=>.bP b (ya i cs d)
 |d=>kA i cs d
def bu.Dt(s:bu)(i:Nat)(cs:List aj):bu:=
 ⟨mI (ya i cs) s.env,e1 (mh (kA i cs) s.loc) i .bd⟩
def mi(ds:List aj)(s:bu)(K:bu->Prop):Prop:=
 match ds with
 | []=>K s
 | .own j::r=>match bB s.loc j with
  | .row _ av es=>mi r (s.hZ j av es) K
  | .cells _ _=>False
  |_=>mi r s K
 | .aP j _::r=>match bB s.loc j with
  | .cells _ cs=>match mH cs with
   |true=>mi r (s.Dt j cs) K
   |false=>False
  | .row .. =>False
  |_=>mi r s K
 |_::r=>mi r s K
def Ah:aj->Bool
 | .v _=>true
 |_=>false
def s3:aj->Bool
 | .v _=>true
 | .agg cs=>cs.all Ah
 | .a1 ds=>ds.all fun d=>match d with| .v _=>true| .agg cs=>cs.all Ah|_=>false
 |_=>false
def rS(loc:List aU)(d:aj)(K:aj->Prop):Prop:=
 match d with
 | .aP j o=>match bB loc j with
  | .cells _ cs=>match mH cs with
   |true=>K (.cD (cs.drop o))
   |false=>False
  |_=>False
 |d=>K d
def uv(loc:List aU):List aj->(List aj->Prop)->Prop
 | [],K=>K []
 |d::r,K=>rS loc d fun d=>uv loc r fun l=>K (d::l)
def lH(loc:List aU)(d:aj)(K:aj->Prop):Prop:=
 match d with
 | .own j=>match bB loc j with
  | .row _ av es=>K (.aq av es false)
  |_=>False
 | .aP j o=>match bB loc j with
  | .cells _ cs=>match mH cs with
   |true=>K (.cD (cs.drop o))
   |false=>False
  |_=>False
 | .fn f b2=>uv loc b2 fun l=>K (.fn f l)
 | .dc .. | .cF .. | .bP .. =>False
 | .agg _=>False
 | .a1 _=>False
 |d=>K d
def yb(loc:List aU):List aj->(List aj->Prop)->Prop
 | [],K=>K []
 |d::r,K=>lH loc d fun d=>yb loc r fun l=>K (d::l)
def qX(loc:List aU)(d:aj)(K:aj->Prop):Prop:=
 match d with
 | .agg cs=>yb loc cs fun l=>K (.agg l)
 | .a1 ds=>match ds.any kh with
  |false=>K (.a1 ds)
  |true=>False
 |d=>lH loc d K
def p1(loc:List aU):List aj->(List aj->Prop)->Prop
 | [],K=>K []
 |d::r,K=>qX loc d fun d=>p1 loc r fun l=>K (d::l)
def M4(loc:List aU)(d:aj):Bool:=
 match d with
 | .aP j _=>match bB loc j with
  | .cells _ cs=>mH cs
  |_=>true
 |_=>true
def kS:aj->List aj
 | .own j=>[.own j]
 | .aP j o=>[.aP j o]
 | .fn _ b2=>b2.filter Hi
 |_=>[]
def fm:List aj->List aj
 | []=>[]
 | .agg cs::r=>cs.flatMap kS++fm r
 |d::r=>kS d++fm r
inductive fP:aj->aj->Prop
 |refl{d:aj}:fP d d
 |nil{av ki:Nat}{f jk:Bool}(h:jk=true->f=true):fP (.aq av [] f) (.aq ki [] jk)
 |ar{av:Nat}{f:Bool}:fP .ar (.aq av [] f)
 |aq{av:Nat}{es:List (List aj)}{f:Bool}:fP (.aq av es f) (.aq av es false)
 |hK{av:Nat}{es er:List (List aj)}{f:Bool}(af:es.length=er.length)(ao:∀ (i:Nat) r dZ,es[i]?=some r->er[i]?=some dZ->r.length=dZ.length)
   (h:∀ (i j:Nat) r dZ c d,es[i]?=some r->er[i]?=some dZ->r[j]?=some c->dZ[j]?=some d->fP c d):fP (.aq av es f) (.aq av er f)
 |agg{cs ds:List aj}(af:cs.length=ds.length)(h:∀ (i:Nat) c d,cs[i]?=some c->ds[i]?=some d->fP c d):fP (.agg cs) (.agg ds)
 |a1{cs ds:List aj}(af:cs.length=ds.length)(h:∀ (i:Nat) c d,cs[i]?=some c->ds[i]?=some d->fP c d):fP (.a1 cs) (.a1 ds)
 |aW{d:aj}:fP d .aW
theorem fP.r{d:aj}:fP d d:=.refl
def lI:List aj->List aj->Prop
 | [],[]=>True
 |x::r,y::dZ=>fP x y/\lI r dZ
 |_,_=>False
theorem aD:∀l:List aj,lI l l
 | []=>trivial
 |_::r=>⟨.r,aD r⟩
inductive bO(A:Nat->Prop)(w:World):Value->aj->Prop
 |v{x:Value}(h:x.oneCell'=true):bO A w x (.v x)
 |aq{a:Addr}{n c av:Nat}{es:List (List aj)}{pW:Bool}(xs:Nat->Nat->Value)(aS:es.length=n)(al:n<=c)(aT:c<=maxLen)(aI:pW=true->c=n)(bZ:∀e∈es,e.length=av)
   (aw:es≠ []->¬A a.block) (ae:es≠ []->a.block<w.heap.size) (bf:∀i j,(xs i j).oneCell'=true)
   (cP:∀ (i j:Nat) e d,es[i]?=some e->e[j]?=some d->w.cell? (a.add (i*av+j))=some (xs i j))
   (an:∀ (i j:Nat) e d,es[i]?=some e->e[j]?=some d->bO A w (xs i j) d):bO A w (.slice (some a) n c) (.aq av es pW)
 |nil{av:Nat}{pW:Bool}:bO A w (.slice none 0 0) (.aq av [] pW)
 |ar:bO A w (.slice none 0 0) .ar
 |agg{vs:List Value}{ds:List aj}(af:vs.length=ds.length)(bf:∀v∈vs,v.oneCell'=true)(h:∀ (i:Nat) v d,vs[i]?=some v->ds[i]?=some d->bO A w v d):bO A w (.agg vs.toArray) (.agg ds)
 |a1{vs:List Value}{ds:List aj}(af:vs.length=ds.length)(h:∀ (i:Nat) v d,vs[i]?=some v->ds[i]?=some d->bO A w v d):bO A w (.tuple vs.toArray) (.a1 ds)
 |cD{a:Addr}{cs:List aj}(xs:Nat->Value)(aw:¬A a.block)(ae:a.block<w.heap.size)(bf:∀i,(xs i).oneCell'=true)(cP:∀ (j:Nat) d,cs[j]?=some d->w.cell? (a.add j)=some (xs j))(an:∀ (j:Nat) d,cs[j]?=some d->bO A w (xs j) d):
   bO A w (.pointer (some a)) (.cD cs)
 |fn{f:Fn}{vs:List Value}{ds:List aj}(af:vs.length=ds.length)(h:∀ (i:Nat) v d,vs[i]?=some v->ds[i]?=some d->bO A w v d):bO A w (.func f #[] vs.toArray) (.fn f ds)
 |bP{b:Bool}{d:aj}{x:Value}(h:b=true->bO A w x d)(aH:b=false->x=undef):bO A w x (.bP b d)
 |aW{x:Value}:bO A w x .aW
def ph(A:Nat->Prop)(w:World):List Value->List aj->Prop
 | [],[]=>True
 |v::vs,d::ds=>bO A w v d/\ph A w vs ds
 |_,_=>False
def bs:Value->Option Nat
 | .pointer (some a)=>some a.block
 | .slice (some a) _ _=>some a.block
 |_=>none
structure dP where
 w:World
 M:Nat->Prop
 gs:List Value
def dP.mine(h:dP)(b:Nat):Prop:=h.w.heap.size<=b\/h.M b
structure mJ(M:Nat->Prop)(w w':World):Prop where
 os:w'.os=w.os
 tape:w'.tape=w.tape
 output:w'.output=w.output
 size:w.heap.size<=w'.heap.size
 block:∀k,k<w.heap.size->¬M k->w'.heap[k]?=w.heap[k]?
abbrev cu:=List (Value×aU)
inductive a6(A:Nat->Prop)(os:cu)(w:World):Value->aj->Prop
 |bA{x:Value}{d:aj}(h:bO A w x d):a6 A os w x d
 |aP{i off g:Nat}{t:TypeId}{cs:List aj}(h:os[i]?=some (.pointer (some ⟨g,0,none⟩),.cells t cs)):a6 A os w (.pointer (some ⟨g,off,none⟩)) (.aP i off)
 |dc{i off g:Nat}{t:TypeId}{cs:List aj}(h:os[i]?=some (.pointer (some ⟨g,0,none⟩),.cells t cs)):a6 A os w (.pointer (some ⟨g,off,none⟩)) (.dc i off)
 |cF{i k off g n c:Nat}{e:TypeId}{av:Nat}{es:List (List aj)}(h:os[i]?=some (.slice (some ⟨g,0,none⟩) n c,.row e av es)):a6 A os w (.pointer (some ⟨g,k*av+off,none⟩)) (.cF i k off)
 |own{i:Nat}{x:Value}{e:TypeId}{av:Nat}{es:List (List aj)}(h:os[i]?=some (x,.row e av es))(h1:x.oneCell'=true):a6 A os w x (.own i)
 |dK{i:Nat}{x y:Value}{d:aj}(h:os[i]?=some (y,.gone))(aa:d= .own i\/∃k off,d= .cF i k off)(h1:x.oneCell'=true):a6 A os w x d
 |agg{vs:List Value}{ds:List aj}(af:vs.length=ds.length)(bf:∀v∈vs,v.oneCell'=true)(h:∀ (i:Nat) v d,vs[i]?=some v->ds[i]?=some d->a6 A os w v d):a6 A os w (.agg vs.toArray) (.agg ds)
 |fn{f:Fn}{vs:List Value}{ds:List aj}(af:vs.length=ds.length)(gu:∀d∈ds,j0 d=true)(h:∀ (i:Nat) v d,vs[i]?=some v->ds[i]?=some d->a6 A os w v d):a6 A os w (.func f #[] vs.toArray) (.fn f ds)
 |a1{vs:List Value}{ds:List aj}(af:vs.length=ds.length)(bJ:∀ (i:Nat) v d,vs[i]?=some v->ds[i]?=some d->kh d=true\/bO A w v d)(h:∀ (i:Nat) v d,vs[i]?=some v->ds[i]?=some d->a6 A os w v d):a6 A os w (.tuple vs.toArray) (.a1 ds)
 |bP{b:Bool}{d:aj}{x:Value}(h:b=true->a6 A os w x d)(aH:b=false->x=undef):a6 A os w x (.bP b d)
def jH(A:Nat->Prop)(os:cu)(B:dP)(w:World)(x:Value)(o:aU):Prop:=
 match o with
 | .bd=>True
 | .gone=>bs x=none
 | .b6 ds=>x= .tuple B.gs.toArray/\B.gs.length=ds.length/\(∀v∈B.gs,v.oneCell'=true)/\∀ (i:Nat) v d,B.gs[i]?=some v->ds[i]?=some d->a6 A os w v d
 | .cells t cs=>∃g arr,x= .pointer (some ⟨g,0,none⟩)/\B.mine g/\w.heap[g]?=some (.cells arr t (0,0))/\arr.size=cs.length/\(∀v∈arr.toList,v.oneCell'=true)/\
   ∀ (j:Nat) v d,arr[j]?=some v->cs[j]?=some d->a6 A os w v d
 | .row e av es=>(∀b,bs x=some b->B.mine b)/\∃xs,w.ownsRow 0 e av x es.length xs/\0<av/\(∀r∈es,r.length=av)/\(∀v∈xs,v.oneCell'=true)/\
   ∀ (k j:Nat) r d,es[k]?=some r->r[j]?=some d->∃v,xs[k*av+j]?=some v/\bO A w v d
def uw(A:Nat->Prop)(os:cu)(B:dP)(w:World):Prop:=∀ (i:Nat) x o,os[i]?=some (x,o)->jH A os B w x o
def a8(aA:Nat->Prop)(os:cu)(b:Nat):Prop:=aA b\/∃ (i:Nat) (x:Value) (o:aU),os[i]?=some (x,o)/\o≠ .bd/\bs x=some b
def fv(os:cu)(b:Nat):Prop:=∃ (i:Nat) (x:Value) (o:aU),os[i]?=some (x,o)/\o≠ .bd/\bs x=some b
def M5(w:World):dP:=⟨w,fun _=>True,[]⟩
structure qY(A:Nat->Prop)(os:cu)(L:List aU)(w:World):Prop where
 loc:os.map (·.2)=L
 cp:uw (a8 A os) os (M5 w) w
 inj:∀ (i j:Nat) x o y aK b,os[i]?=some (x,o)->os[j]?=some (y,aK)->o≠ .bd->aK≠ .bd->bs x=some b->bs y=some b->i=j
 out:∀b,A b->¬fv os b
def s4(A:Nat->Prop)(os:cu)(w:World):List Value->List aj->Prop
 | [],[]=>True
 |v::vs,d::ds=>a6 A os w v d/\s4 A os w vs ds
 |_,_=>False
def b0(P:Program)(f:FuncId)(L:List aU)(args:List aj)(kept:List Bool)(bC:List aU)(d:aj):Prop:=
 (∀ (vs:Array Value) (w:World),(callFunc f vs).run P w= .ok (.enter f vs) w)/\∀ (A:Nat->Prop) (w:World) (os:cu) (et:List Value),(∀b,A b->b<w.heap.size)->qY A os L w->s4 (a8 A os) os w et args->
  Calls P f et.toArray w fun e w'=>∃v aJ,e= .returned v/\qY A aJ bC w'/\a6 (a8 A aJ) aJ w' v d/\mJ (fv os) w w'/\(∀b,fv aJ b->fv os b\/w.heap.size<=b)/\
   ∀ (i:Nat) x o,kept[i]?=some true->os[i]?=some (x,o)->∃aK,aJ[i]?=some (x,aK)
inductive fF:aU->aU->Prop
 |refl{o:aU}:fF o o
 |cells{t:TypeId}{cs ds:List aj}(af:cs.length=ds.length)(h:∀ (i:Nat) c d,cs[i]?=some c->ds[i]?=some d->fP c d):fF (.cells t cs) (.cells t ds)
 |b6{cs ds:List aj}(af:cs.length=ds.length)(h:∀ (i:Nat) c d,cs[i]?=some c->ds[i]?=some d->fP c d):fF (.b6 cs) (.b6 ds)
 |bd{o:aU}:fF o .bd
theorem fF.r{d:aU}:fF d d:=.refl
def il(l:List aU):aj->Bool
 | .own i| .cF i _ _=>hJ (bB l i)
 | .aP i _| .dc i _=>ow (bB l i)
 | .fn _ b2=>b2.all fun d=>match d with
  | .aP i _=>ow (bB l i)
  |_=>true
 | .agg _| .a1 _| .bP .. =>false
 |_=>true
def iI(l:List aU):aj->Bool
 | .agg cs=>cs.all (il l)
 |d=>il l d
def yc(l:List aU):List (Nat×aj)->Bool
 | []=>true
 |p::r=>iI l p.2&&yc l r
def mj(l:List aU):List aU->Bool
 | []=>true
 | .cells _ cs::r=>cs.all (il l)&&mj l r
 | .b6 cs::r=>cs.all (il l)&&mj l r
 |_::r=>mj l r
def cO:List Nat->Nat->Nat
 | [],_=>0
 |i::_,0=>i
 |_::r,k+1=>cO r k
def pj(ρ:Nat->Nat):aj->aj
 | .aP j o=>.aP (ρ j) o
 |d=>d
def oA(ρ:Nat->Nat):aj->aj
 | .own j=>.own (ρ j)
 | .aP j o=>.aP (ρ j) o
 | .dc j o=>.dc (ρ j) o
 | .cF j k o=>.cF (ρ j) k o
 | .fn f b2=>.fn f (b2.map (pj ρ))
 | .bP b d=>.bP b (oA ρ d)
 |d=>d
def jI(ρ:Nat->Nat):aj->aj
 | .agg cs=>.agg (cs.map (oA ρ))
 | .a1 ds=>.a1 (ds.map (oA ρ))
 | .bP b d=>.bP b (jI ρ d)
 |d=>oA ρ d
def fw(ρ:Nat->Nat):aU->aU
 | .cells t cs=>.cells t (cs.map (oA ρ))
 | .b6 _=>.bd
 |o=>o
def p2(ρ:Nat->Nat):aU->aU
 | .cells t cs=>.cells t (cs.map (oA ρ))
 | .b6 ds=>.b6 (ds.map (oA ρ))
 |o=>o
def ba(m k:Nat):Nat:=
 match Nat.blt m k with
 |true=>k-1
 |false=>k
def wb(J:List Nat):aj->Bool
 | .aP j _=>J.contains j
 |_=>false
def fQ(J:List Nat):aj->aj
 | .own j=>match J.contains j with|true=>.aW|false=>.own j
 | .aP j o=>match J.contains j with|true=>.aW|false=>.aP j o
 | .dc j o=>match J.contains j with|true=>.aW|false=>.dc j o
 | .cF j k o=>match J.contains j with|true=>.aW|false=>.cF j k o
 | .fn f b2=>match b2.any (wb J)with|true=>.aW|false=>.fn f b2
 | .bP b d=>.bP b (fQ J d)
 |d=>d
def qZ(J:List Nat):aj->aj
 | .agg cs=>.agg (cs.map (fQ J))
 | .a1 ds=>.a1 (ds.map (fQ J))
 | .bP b d=>.bP b (qZ J d)
 |d=>fQ J d
def ux:List Nat->List Bool->List Nat
 |i::r,true::k=>ux r k
 |i::r,_::k=>i::ux r k
 |r,[]=>r
 | [],_=>[]
def mK:List aU->List Nat->List aU->List aU
 |l,i::r,o::dZ=>mK (e1 l i o) r dZ
 |l,_,_=>l
def Du(J:List Nat)(e:List (Nat×aj)):List (Nat×aj):=
 match J with
 | []=>e
 |_=>mI (qZ J) e
def wc(J:List Nat)(l:List aU):List aU:=
 match J with
 | []=>l
 |_=>mh (fQ J) l
def Ai(s:bu)(cm:List Nat)(J:List Nat)(bC:List aU):bu:=
 ⟨Du J s.env,mK (wc J s.loc) cm (bC.map (fw (cO cm)))⟩
def Dv:aU->aU->Bool
 | .row e av _,.row cd ki _=>Nat.beq e cd&&Nat.beq av ki
 | .cells t _,.cells c1 _=>Nat.beq t c1
 |_,_=>false
def p3:List Bool->List aU->List aU->Bool
 | [],[],_=>true
 |k::r,o::l,aK::ck=>(!k||Dv o aK)&&p3 r l ck
 |_,_,_=>false
def uy:List Bool->List aU->List aU->Bool
 |true::k,_::l,_::ck=>uy k l ck
 |false::k,.row _ _ _::l,.gone::ck=>uy k l ck
 | [],_,_=>true
 |_,_,_=>false
def we:List Nat->Bool
 | []=>true
 |i::r=> !r.contains i&&we r
def nO:List aU->Bool
 | []=>true
 | .b6 _::_=>false
 |_::r=>nO r
def q0(loc:List aU)(ρ:Nat->Nat):List Nat->List aU->Prop
 | [],[]=>True
 |i::r,o::dZ=>fF (bB loc i) (fw ρ o)/\q0 loc ρ r dZ
 |_,_=>False
def bz:Nat->Nat->List Nat
 |_,0=>[]
 |i,q+1=>i::bz (i+1) q
def s5(pass:List Nat)(loc:List aU)(d:aj)(K:aj->Prop):Prop:=
 match d with
 | .own j=>match pass.contains j with
  |true=>K (.own j)
  |false=>lH loc (.own j) K
 | .aP j o=>match pass.contains j with
  |true=>K (.aP j o)
  |false=>lH loc (.aP j o) K
 | .dc j o=>match pass.contains j with
  |true=>K (.dc j o)
  |false=>False
 | .cF j k o=>match pass.contains j with
  |true=>K (.cF j k o)
  |false=>False
 | .fn f b2=>match b2.any (wb pass)with
  |true=>False
  |false=>lH loc (.fn f b2) K
 |d=>lH loc d K
def Hk(pass:List Nat)(loc:List aU):List aj->(List aj->Prop)->Prop
 | [],K=>K []
 |d::r,K=>s5 pass loc d fun d=>Hk pass loc r fun l=>K (d::l)
def Hl(pass:List Nat)(loc:List aU)(d:aj)(K:aj->Prop):Prop:=
 match d with
 | .agg cs=>Hk pass loc cs fun l=>K (.agg l)
 |d=>s5 pass loc d K
def Hm(pass:List Nat)(loc:List aU):List aj->(List aj->Prop)->Prop
 | [],K=>K []
 |d::r,K=>Hl pass loc d fun d=>Hm pass loc r fun l=>K (d::l)
def yd(pass:List Nat)(args:List aj):List aj:=(fm args).filter fun d=>match d with
 | .own j| .aP j _=> !pass.contains j
 |_=>true
def bg(P:Program)(f:FuncId)(args:List aj)(d:aj):Prop:=
 (∀ (vs:Array Value) (w:World),(callFunc f vs).run P w= .ok (.enter f vs) w)/\∀ (A:Nat->Prop) (w:World) (et:List Value),(∀b,A b->b<w.heap.size)->ph A w et args->
  Calls P f et.toArray w fun e w'=>∃v,e= .returned v/\bO A w' v d/\w.grownBy w' none
def Dw(P:Program)(f:FuncId)(args:List aj)(s:bu)(K:aj->bu->Prop):Prop:=
 p1 s.loc args fun l=>∃ck r,lI l ck/\bg P f ck r/\match fm args with
  | []=>K r s
  |os=>match s3 r with
   |true=>K r s
   |false=>mi os s fun s=>K r s
def M6(P:Program)(f:FuncId)(args:List aj)(s:bu)(K:aj->bu->Prop):Prop:=
 ∃pass:List Nat,Hm pass s.loc args fun l=>mi (yd pass args) s fun s=>∃ (L:List aU) (im:List aj) (kept:List Bool) (bC:List aU) (d:aj),
  b0 P f L im kept bC d/\(p3 kept L bC&&nO L&&we pass&&pass.all (fun i=>Nat.blt i s.loc.length)&&im.all (iI L)&&mj L L)=true/\
  q0 s.loc (cO (pass++bz s.loc.length (bC.length-L.length))) pass L/\lI l (im.map (jI (cO (pass++bz s.loc.length (bC.length-L.length)))))/\
  K (jI (cO (pass++bz s.loc.length (bC.length-L.length))) d) (Ai ⟨s.env,s.loc++List.replicate (bC.length-L.length) .bd⟩ (pass++bz s.loc.length (bC.length-L.length)) (ux pass kept) bC)
def p4(ρ:Operand->aj)(size:Nat):List (Nat×Operand)->List (List aj)->(List (List aj)->Prop)->Prop
 | [],es,K=>K es
 | (i,x)::r,es,K=>fl (ρ x) fun d=>match Nat.beq (cN d).length size&&Nat.blt i es.length&&mH (cN d)with
  |true=>p4 ρ size r (es.set i (cN d)) K
  |false=>False
def Hn(s:bu):List Operand->(bu->Prop)->Prop
 | [],K=>K s
 |x::r,K=>fl (bq s x) fun d=>mi (fm [d]) s fun s'=>Hn s' r K
def p5(ah:c4)(e:TypeId)(loc:List aU)(d:aj)(K:List (List aj)->Bool->Prop):Prop:=
 match d with
 | .ar=>K [] false
 | .aq av es _=>match Nat.beq av (ay ah e).size with
  |true=>K es false
  |false=>False
 | .own j=>match bB loc j with
  | .row _ av es=>match Nat.beq av (ay ah e).size with
   |true=>K es true
   |false=>False
  |_=>False
 |_=>False
def iJ(ah:c4)(e:TypeId)(n:Nat):Prop:=n* (ay ah e).bytes<=140737488355328/\n<=maxLen
def Dx(ah:c4)(e:TypeId)(s:bu)(dst:Option Tmp)(x y:aj)(K:bu->Prop):Prop:=
 p5 ah e s.loc y fun ys some=>match x with
  | .ar=>iJ ah e ys.length/\e0 ⟨s.env,s.loc++ [.row e (ay ah e).size ys]⟩ dst (.own s.loc.length) K
  | .own i=>match bB s.loc i with
   | .row cd av es=>match Nat.beq cd e&&Nat.beq av (ay ah e).size with
    |true=>iJ ah e (es.length+ys.length)/\e0 (s.grow i e av (es++ys)) dst (.own i) K
    |false=>False
   |_=>False
  | .aq av es true=>match Nat.beq av (ay ah e).size with
   |true=>iJ ah e (es.length+ys.length)/\match some with
    |true=>0<ys.length/\e0 ⟨s.env,s.loc++ [.row e av (es++ys)]⟩ dst (.own s.loc.length) K
    |false=>e0 s dst (.aq av (es++ys) false) K
   |false=>False
  |_=>False
def Aj(ah:c4)(e:TypeId)(s:bu)(dst:Option Tmp)(x y:aj)(K:bu->Prop):Prop:=
 p5 ah e s.loc y fun ys _=>match x with
  | .ar=>e0 s dst (.v (.int .i64 (0:Nat))) K
  | .own i=>match bB s.loc i with
   | .row cd av es=>match Nat.beq cd e&&Nat.beq av (ay ah e).size with
    |true=>e0 ⟨s.env,e1 s.loc i (.row e av (ys.take es.length++es.drop ys.length))⟩ dst (.v (.int .i64 (Nat.min ys.length es.length:Nat))) K
    |false=>False
   |_=>False
  |_=>False
def Ak(ah:c4)(s:bu)(dst:Option Tmp)(t:TypeId)(x d:aj)(K:bu->Prop):Prop:=
 match x with
 | .cF i k off=>match mH (cN d),bB s.loc i with
  |true,.row e av es=>∃ez,es[k]?=some ez/\match Nat.beq (cN d).length (ay ah t).size&&Nat.ble (off+(cN d).length) av with
   |true=>e0 ⟨s.env,e1 s.loc i (.row e av (es.set k (hl ez off (cN d))))⟩ dst (.bP false (.v (.bool false))) K
   |false=>False
  |_,_=>False
 |_=>False
def wg(ah:c4)(s:bu)(dst:Option Tmp)(t:TypeId)(a y:Operand)(d:aj)(K:bu->Prop):Prop:=
 match (ay ah t).size with
 |0=>False
 |_=>match bq s a with
  | .aP i off=>match bB s.loc i with
   | .cells c1 cs=>match Nat.beq (cN d).length (ay ah t).size&&Nat.ble (off+(cN d).length) cs.length with
    |false=>False
    |true=>pX (hl cs off (cN d)) fun cY=>e0 ⟨s.env,e1 s.loc i (.cells c1 cY)⟩ dst (.bP false (.v (.bool false))) K
   |_=>False
  | .dc i off=>match bB s.loc i with
   | .cells c1 cs=>match Nat.beq (cN d).length (ay ah t).size with
    |true=>off+(cN d).length<=cs.length/\e0 ⟨s.env,e1 s.loc i (.cells c1 (hl cs off (cN d)))⟩ dst (.bP false (.v (.bool false))) K
    |false=>False
   |_=>False
  | .cF _ _ _=>mi (fm [d]) s fun s=>fl (bq s y) fun d=>Ak ah s dst t (bq s a) d K
  |_=>False
def Dy(loc:List aU)(d:aj)(K:Bool->Prop):Prop:=
 match d with
 | .ar=>K true
 | .aq _ es _=>(es=[]->K true)/\K false
 | .own j=>match bB loc j with
  | .row _ _ es=>(es=[]->K true)/\K false
  |_=>False
 |_=>False
def M7(loc:List aU)(op:BinOp)(d:aj)(K:Bool->Prop):Prop:=
 match op with
 | .eql=>Dy loc d fun b=>K b
 | .neq=>Dy loc d fun b=>K (!b)
 |_=>False
def ye(ah:c4)(P:Program)(o:Oper)(s:bu)(K:bu->Prop):Prop:=
 match Ds o.op (bq s)with
 |true=>lG ah s.loc o.op (bq s) fun c d=>pY c (e0 s o.dst d K)
 |false=>match o.op with
  | .alloc t=>match (ay ah t).size with
   |0=>False
   |_=>e0 ⟨s.env,s.loc++ [.cells t (ay ah t).zero]⟩ o.dst (.aP s.loc.length 0) K
  | .box t x=>fl (bq s x) fun d=>match d with
   | .agg cs=>pX cs fun cs=>e0 ⟨s.env,s.loc++ [.cells t cs]⟩ o.dst (.aP s.loc.length 0) K
   | .bP .. | .a1 _| .aW=>False
   |d=>e0 ⟨s.env,s.loc++ [.cells t [d]]⟩ o.dst (.aP s.loc.length 0) K
  | .store t a x=>fl (bq s x) fun d=>match d with
   | .bP .. | .a1 _| .aW=>False
   |d=>wg ah s o.dst t a x d K
  | .buildSlice t n parts=>match (ay ah t).k with
   | .dW e=>match (ay ah e).size,Nat.ble (n* (ay ah e).size) 16777216 with
    |_+1,true=>Hn s (parts.toList.map (·.2)) fun s=>p4 (bq s) (ay ah e).size parts.toList (List.replicate n (ay ah e).zero) fun es=>
     e0 ⟨s.env,s.loc++ [.row e (ay ah e).size es]⟩ o.dst (.own s.loc.length) K
    |_,_=>False
   |_=>False
  | .makeSlice t l c=>match (ay ah t).k with
   | .dW e=>match (ay ah e).size,bq s l,bq s c with
    |_+1,.v (.int _ l),.v (.int _ c)=>∃n m:Nat,l=n/\c=m/\n<=m/\m* (ay ah e).bytes<=140737488355328/\m<=maxLen/\
      e0 ⟨s.env,s.loc++ [.row e (ay ah e).size (List.replicate n (ay ah e).zero)]⟩ o.dst (.own s.loc.length) K
    |_,_,_=>False
   |_=>False
  | .slice t x gE ab dF=>match bq s x with
   | .own j=>match bB s.loc j with
    | .row e av es=>match gE,ab,dF with
     |none,some h,none=>match (ay ah t).k with
      | .dW cd=>match Nat.beq (ay ah cd).size av with
       |true=>∃k:Nat,((∃q1,bq s h= .v (.int q1 (k:Int)))/\k<=es.length)/\e0 (s.grow j e av (es.take k)) o.dst (.own j) K
       |false=>False
      |_=>False
     |gE,ab,dF=>lG ah (s.hZ j av es).loc (.slice t x gE ab dF) (bq (s.hZ j av es)) fun c d=>pY c (e0 (s.hZ j av es) o.dst d K)
    |_=>False
   |_=>False
  | .convert src dst x=>match bq s x with
   | .own j=>match bB s.loc j with
    | .row _ av es=>lG ah (s.hZ j av es).loc (.convert src dst x) (bq (s.hZ j av es)) fun c d=>pY c (e0 (s.hZ j av es) o.dst d K)
    |_=>False
   |_=>False
  | .binOp op t x y _=>match (ay ah t).k,bq s y with
   | .dW _,.ar=>M7 s.loc op (bq s x) fun b=>e0 s o.dst (.v (.bool b)) K
   |_,_=>False
  | .call {callee:=.builtin .append,args,argTypes}=>match args.toList,argTypes.toList with
   | [x,y],[t,c1]=>match Nat.beq t c1,(ay ah t).k with
    |true,.dW e=>match (ay ah e).size with
     |0=>False
     |_=>Dx ah e s o.dst (bq s x) (bq s y) K
    |_,_=>False
   |_,_=>False
  | .call {callee:=.builtin .copy,args,argTypes}=>match args.toList,argTypes.toList with
   | [x,y],[t,c1]=>match Nat.beq t c1,(ay ah t).k with
    |true,.dW e=>match (ay ah e).size with
     |0=>False
     |_=>Aj ah e s o.dst (bq s x) (bq s y) K
    |_,_=>False
   |_,_=>False
  | .call {callee:=.value f,args,..}=>match bq s f with
   | .fn (.func n) b2=>p0 (bq s) args.toList fun l=>Dw P n (l++b2) s (fun r s=>e0 s o.dst r K)\/M6 P n (l++b2) s (fun r s=>e0 s o.dst r K)
   |_=>False
  |_=>False
def mL(b:Bool)(s:bu):List Operand->(Option Prop->Prop)->Prop
 | [],K=>K none
 |x::r,K=>match bq s x with
  | .bP g _=>mL b s r fun c=>K (andO (some (b=true->g=true)) c)
  |_=>mL b s r K
def under(g:Bool):Option Prop->Option Prop
 |none=>none
 |some c=>some (g=true->c)
def VL(d:aj):aj:=
 match d with
 | .bP _ d=>d
 |d=>d
def hz(s:bu)(x:Operand):aj:=VL (bq s x)
def mM(g:Bool):List Operand->bu->(bu->Prop)->Prop
 | [],s,K=>K s
 | .tmp t::r,s,K=>match look s.env t with
  | .bP c5 d=>(g=true->c5=true)/\mM g r ⟨(t,d)::s.env,s.loc⟩ K
  |_=>mM g r s K
 |_::r,s,K=>mM g r s K
def Al(ah:c4)(P:Program)(o:Oper)(g:Bool)(s:bu)(K:bu->Prop):Prop:=
 match Ds o.op (hz s)with
 |true=>mL g s o.op.operands.toList fun h0=>lG ah s.loc o.op (hz s) fun c d=>pY (andO h0 (under g c)) (e0 s o.dst (.bP g d) K)
 |false=>match o.op with
  | .call {callee:=.value f,args,..}=>match hz s f with
   | .fn (.func n) b2=>match (args.toList.map (hz s)).all (M4 s.loc)with
    |true=>mL g s o.op.operands.toList fun h0=>p0 (hz s) args.toList fun l=>p1 s.loc (l++b2) fun iY=>∃ck r,lI iY ck/\(g=true->bg P n ck r)/\pY h0 (match fm (l++b2)with
     | []=>e0 s o.dst (.bP g r) K
     |_=>match s3 r with
      |true=>e0 s o.dst (.bP g r) K
      |false=>(g=true->mM g o.op.operands.toList s fun s=>ye ah P o s K)/\(g=false->e0 s o.dst (.bP false (.v (.bool false))) K))
    |false=>(g=true->mM g o.op.operands.toList s fun s=>ye ah P o s K)/\(g=false->e0 s o.dst (.bP false (.v (.bool false))) K)
   |_=>False
  |_=>(g=true->mM g o.op.operands.toList s fun s=>ye ah P o s K)/\(g=false->e0 s o.dst (.bP false (.v (.bool false))) K)
def uz(s:bu)(g:Bool)(c a b:Operand)(K:Option Prop->aj->Prop):Prop:=
 mL g s [c] fun h0=>match hz s c with
 | .v (.bool t)=>pZ (g&&t) (bq s a) fun dX x=>pZ (g&& !t) (bq s b) fun de y=>fl x fun x=>fl y fun y=>ox t x y (pd a) (pe b) fun d=>K (andO h0 (andO dX de)) d
 |_=>False
def yf(ah:c4)(P:Program)(o:Oper)(g:Bool)(s:bu)(K:bu->Prop):Prop:=
 match o.op with
 | .pick c a b=>uz s g c a b fun c d=>pY c (e0 s o.dst (.bP g d) K)
 |_=>Al ah P o g s K
def q2(all:List Oper)(s:bu)(j:Nat):aj:=
 match all[j]? with
 |some o=>match o.dst with
  |some t=>look s.env t
  |none=>.aW
 |none=>.aW
def Am(b want:Bool)(K:Bool->Prop):Prop:=
 match want with
 |true=>K b
 |false=>K (!b)
def Dz(ah:c4)(P:Program)(all:List Oper)(o:Oper)(s:bu)(K:bu->Prop):Prop:=
 match o.guard with
 |none=>ye ah P o s K
 |some (j,want)=>match q2 all s j with
  | .v (.bool b)=>Am b want fun g=>yf ah P o g s K
  | .bP g (.v (.bool b))=>Am b want fun c5=>yf ah P o (g&&c5) s K
  |_=>False
def VM(o eI:Oper):Bool:=
 match o.op,eI.op with
 | .slice _ _ (some _) none none,.call {callee:=.builtin .clear,..}=>match o.guard,eI.guard,o.dst,eI.dst with
  |none,none,some _,none=>true
  |_,_,_,_=>false
 |_,_=>false
def M8(ah:c4)(s:bu)(o eI:Oper)(K:bu->Prop):Prop:=
 match o.op,eI.op,o.guard,eI.guard,o.dst,eI.dst with
 | .slice t x (some gE) none none,.call {callee:=.builtin .clear,args,argTypes},none,none,some d1,none=>match args.toList,argTypes.toList,(ay ah t).k,bq s x with
  | [.tmp d2],[t2],.dW cd,.own j=>match bB s.loc j with
   | .row e av es=>match Nat.beq d1 d2&&Nat.beq t t2&&Nat.beq (ay ah cd).size av with
    |true=>∃k:Nat,((∃q1,bq s gE= .v (.int q1 (k:Int)))/\k<=es.length)/\K ⟨(d1,.aW)::s.env,e1 s.loc j (.row e av (es.take k++List.replicate (es.length-k) (List.replicate av .aW)))⟩
    |false=>False
   |_=>False
  |_,_,_,_=>False
 |_,_,_,_,_,_=>False
def wh(ah:c4)(P:Program)(all:List Oper):List Oper->(bu->Prop)->bu->Prop
 | [],K,s=>K s
 | [o],K,s=>Dz ah P all o s K
 |o::eI::r,K,s=>match VM o eI with
  |true=>M8 ah s o eI fun s=>wh ah P all r K s
  |false=>Dz ah P all o s fun s=>wh ah P all (eI::r) K s
def wi(b:Bool)(x y:Prop):Prop:=
 match b with
 |true=>x
 |false=>y
theorem be{b:Bool}{x y:Prop}(h:b=true->x)(bb:b=false->y):wi b x y:=by
 cases b
 ·exact bb rfl
 ·exact h rfl
structure dY where
 wj:List (Nat×aj)
 ip:List Nat
 kB:List (Nat×aU)
 rT:List (Nat×Nat)
def nP:List aU->List (Nat×aU)->List aU
 |l,[]=>l
 |l,p::r=>nP (e1 l p.1 p.2) r
def dY.iK(bl:dY)(s:bu):bu:=⟨bl.wj++s.env,nP s.loc bl.kB⟩
def DA:List (Nat×aj)->List (Nat×aj)->(List (Nat×aj)->Prop)->Prop
 | [],e,K=>K e
 |p::r,e,K=>DA r e fun e=>K (p::e)
def dY.M9(bl:dY)(s:bu)(K:bu->Prop):Prop:=
 match bl,s with
 | ⟨wj,_,kB,_⟩,⟨e,l⟩=>DA wj e fun e=>match kB with
  | []=>K ⟨e,l⟩
  |_=>z8 (nP l kB) fun l=>K ⟨e,l⟩
def DB:aj->List Nat
 | .aP i _=>[i]
 |_=>[]
def nn:aj->List Nat
 | .aP i _| .dc i _| .cF i _ _| .own i=>[i]
 | .fn _ b2=>b2.flatMap DB
 |_=>[]
def fR:aj->List Nat
 | .agg cs=>cs.flatMap nn
 | .a1 ds=>ds.flatMap nn
 | .bP _ d=>fR d
 |d=>nn d
def ml(ρ:Operand->aj)(l:List Operand):List Nat:=l.flatMap fun x=>fR (ρ x)
def fa(dst:Option Tmp)(d:aj):List (Nat×aj):=
 match dst with
 |some t=>[(t,d)]
 |none=>[]
def Ho:aU->Bool
 | .bd=>true
 |_=>false
def lJ(l:List aU)(i:Nat):Bool:=Nat.blt i l.length&&Ho (bB l i)
def Hp(ah:c4)(s:bu)(dst:Option Tmp)(t:TypeId)(a:Operand)(d:aj)(K:dY->Prop):Prop:=
 match (ay ah t).size with
 |0=>False
 |_=>match bq s a with
  | .aP i off=>match bB s.loc i with
   | .cells c1 cs=>match Nat.beq (cN d).length (ay ah t).size&&Nat.ble (off+(cN d).length) cs.length with
    |false=>False
    |true=>pX (hl cs off (cN d)) fun cY=>K ⟨fa dst (.bP false (.v (.bool false))),i::fR d,[(i,.cells c1 cY)],[]⟩
   |_=>False
  | .dc i off=>match bB s.loc i with
   | .cells c1 cs=>match Nat.beq (cN d).length (ay ah t).size with
    |true=>off+(cN d).length<=cs.length/\K ⟨fa dst (.bP false (.v (.bool false))),i::fR d,[(i,.cells c1 (hl cs off (cN d)))],[]⟩
    |false=>False
   |_=>False
  | .cF i k off=>match mH (cN d),bB s.loc i with
   |true,.row e av es=>∃ez,es[k]?=some ez/\match Nat.beq (cN d).length (ay ah t).size&&Nat.ble (off+(cN d).length) av with
    |true=>K ⟨fa dst (.bP false (.v (.bool false))),i::fR d,[(i,.row e av (es.set k (hl ez off (cN d))))],[]⟩
    |false=>False
   |_,_=>False
  |_=>False
def Hq(ah:c4)(e:TypeId)(s:bu)(idx:Nat)(dst:Option Tmp)(x y:aj)(K:dY->Nat->Prop):Prop:=
 p5 ah e s.loc y fun ys some=>match x with
  | .ar=>match lJ s.loc idx with
   |true=>iJ ah e ys.length/\K ⟨fa dst (.own idx),fR y,[(idx,.row e (ay ah e).size ys)],[]⟩ (idx+1)
   |false=>False
  | .own i=>match bB s.loc i with
   | .row cd av es=>match Nat.beq cd e&&Nat.beq av (ay ah e).size&&lJ s.loc idx with
    |true=>iJ ah e (es.length+ys.length)/\K ⟨fa dst (.own idx),i::fR y,[(i,.gone),(idx,.row e av (es++ys))],[(idx,i)]⟩ (idx+1)
    |false=>False
   |_=>False
  | .aq av es true=>match Nat.beq av (ay ah e).size with
   |true=>iJ ah e (es.length+ys.length)/\match some with
    |true=>match lJ s.loc idx with
     |true=>0<ys.length/\K ⟨fa dst (.own idx),fR y,[(idx,.row e av (es++ys))],[]⟩ (idx+1)
     |false=>False
    |false=>(0<ys.length/\match lJ s.loc idx with
     |true=>K ⟨fa dst (.own idx),fR y,[(idx,.row e av (es++ys))],[]⟩ (idx+1)
     |false=>False)\/K ⟨fa dst (.aq av (es++ys) false),fR y,[],[]⟩ idx
   |false=>False
  |_=>False
def Hr(ah:c4)(e:TypeId)(s:bu)(dst:Option Tmp)(x y:aj)(K:dY->Prop):Prop:=
 p5 ah e s.loc y fun ys _=>match x with
  | .ar=>K ⟨fa dst (.v (.int .i64 (0:Nat))),fR y,[],[]⟩
  | .own i=>match bB s.loc i with
   | .row cd av es=>match Nat.beq cd e&&Nat.beq av (ay ah e).size with
    |true=>K ⟨fa dst (.v (.int .i64 (Nat.min ys.length es.length:Nat))),i::fR y,[(i,.row e av (ys.take es.length++es.drop ys.length))],[]⟩
    |false=>False
   |_=>False
  |_=>False
def Hs(P:Program)(f:FuncId)(args:List aj)(s:bu)(idx:Nat)(dst:Option Tmp)(ip:List Nat)(K:dY->Nat->Prop):Prop:=
 ∃ (pass:List Nat) (L:List aU) (im:List aj) (kept:List Bool) (bC:List aU) (d:aj),
  b0 P f L im kept bC d/\(p3 kept L bC&&nO L&&we (pass++bz idx (bC.length-L.length))&&pass.all (fun i=>Nat.blt i s.loc.length)&&im.all (iI L)&&mj L L&&uy kept L bC&& (bz idx (bC.length-L.length)).all (lJ s.loc))=true/\
  q0 s.loc (cO (pass++bz idx (bC.length-L.length))) pass L/\lI args (im.map (jI (cO (pass++bz idx (bC.length-L.length)))))/\
  K ⟨fa dst (jI (cO (pass++bz idx (bC.length-L.length))) d),ip++pass,(pass++bz idx (bC.length-L.length)).zip (bC.map (fw (cO (pass++bz idx (bC.length-L.length))))),[]⟩ (idx+(bC.length-L.length))
def Ht(P:Program)(f:FuncId)(args:List aj)(s:bu)(idx:Nat)(dst:Option Tmp)(ip:List Nat)(K:dY->Nat->Prop):Prop:=
 match fm args with
 | [.own j]=>match hJ (bB s.loc j)with
  |true=>p1 s.loc args fun iY=>∃ (im:List aj) (bC:List aU) (d:aj),b0 P f [] im [] bC d/\(p3 [] [] bC&&im.all (iI [])&&we (bz idx bC.length)&& (bz idx bC.length).all (lJ s.loc))=true/\lI iY im/\
    K ⟨fa dst (jI (cO (bz idx bC.length)) d),ip,(j,.gone):: (bz idx bC.length).zip (bC.map (fw (cO (bz idx bC.length)))),[]⟩ (idx+bC.length)
  |false=>False
 |_=>False
def Hu(o:Op)(ρ:Operand->aj):List Nat:=
 match o with
 | .move _| .assign _=>[]
 |_=>ml ρ o.operands.toList
def An(ah:c4)(P:Program)(o:Oper)(idx:Nat)(s:bu)(K:dY->Nat->Prop):Prop:=
 match Ds o.op (bq s)with
 |true=>lG ah s.loc o.op (bq s) fun c d=>pY c (K ⟨fa o.dst d,Hu o.op (bq s),[],[]⟩ idx)
 |false=>match o.op with
  | .alloc t=>match (ay ah t).size,lJ s.loc idx with
   |_+1,true=>K ⟨fa o.dst (.aP idx 0),[],[(idx,.cells t (ay ah t).zero)],[]⟩ (idx+1)
   |_,_=>False
  | .box t x=>match lJ s.loc idx with
   |true=>fl (bq s x) fun d=>match d with
    | .agg cs=>pX cs fun cs=>K ⟨fa o.dst (.aP idx 0),fR (.agg cs),[(idx,.cells t cs)],[]⟩ (idx+1)
    | .bP .. | .a1 _| .aW=>False
    |d=>K ⟨fa o.dst (.aP idx 0),fR d,[(idx,.cells t [d])],[]⟩ (idx+1)
   |false=>False
  | .call {callee:=.builtin .append,args,argTypes}=>match args.toList,argTypes.toList with
   | [x,y],[t,c1]=>match Nat.beq t c1,(ay ah t).k with
    |true,.dW e=>match (ay ah e).size with
     |0=>False
     |_=>Hq ah e s idx o.dst (bq s x) (bq s y) K
    |_,_=>False
   |_,_=>False
  | .call {callee:=.builtin .copy,args,argTypes}=>match args.toList,argTypes.toList with
   | [x,y],[t,c1]=>match Nat.beq t c1,(ay ah t).k with
    |true,.dW e=>match (ay ah e).size with
     |0=>False
     |_=>Hr ah e s o.dst (bq s x) (bq s y) fun bl=>K bl idx
    |_,_=>False
   |_,_=>False
  | .store t a x=>fl (bq s x) fun d=>match d with
   | .bP .. | .a1 _| .aW=>False
   |d=>Hp ah s o.dst t a d fun bl=>K bl idx
  | .buildSlice t n parts=>match (ay ah t).k with
   | .dW e=>match (ay ah e).size,Nat.ble (n* (ay ah e).size) 16777216 with
    |_+1,true=>match n with
     |0=>match lJ s.loc idx with
      |true=>p4 (bq s) (ay ah e).size parts.toList (List.replicate 0 (ay ah e).zero) fun es=>
       K ⟨fa o.dst (.own idx),[],[(idx,.row e (ay ah e).size es)],[]⟩ (idx+1)
      |false=>False
     |n+1=>∃w:Bool,match w with
      |true=>match lJ s.loc idx with
       |true=>p4 (bq s) (ay ah e).size parts.toList (List.replicate (n+1) (ay ah e).zero) fun es=>
        K ⟨fa o.dst (.own idx),[],[(idx,.row e (ay ah e).size es)],[]⟩ (idx+1)
       |false=>False
      |false=>p4 (bq s) (ay ah e).size parts.toList (List.replicate (n+1) (ay ah e).zero) fun es=>
       K ⟨fa o.dst (.aq (ay ah e).size es (Nat.beq n 0)),[],[],[]⟩ idx
    |_,_=>False
   |_=>False
  | .makeSlice t l c=>match (ay ah t).k with
   | .dW e=>match (ay ah e).size,bq s l,bq s c,lJ s.loc idx with
    |_+1,.v (.int _ l),.v (.int _ c),true=>∃n m:Nat,l=n/\c=m/\n<=m/\m* (ay ah e).bytes<=140737488355328/\m<=maxLen/\
      K ⟨fa o.dst (.own idx),[],[(idx,.row e (ay ah e).size (List.replicate n (ay ah e).zero))],[]⟩ (idx+1)
    |_,_,_,_=>False
   |_=>False
  | .call {callee:=.value f,args,..}=>match bq s f with
   | .fn (.func n) b2=>p0 (bq s) args.toList fun l=>(p1 s.loc (l++b2) fun iY=>∃ck r,lI iY ck/\bg P n ck r/\match fm (l++b2)with
    | []=>K ⟨fa o.dst r,ml (bq s) o.op.operands.toList++b2.flatMap fR,[],[]⟩ idx
    |os=>match s3 r with
     |true=>K ⟨fa o.dst r,ml (bq s) o.op.operands.toList++b2.flatMap fR,[],[]⟩ idx
     |false=>match os with
      | [.own j]=>match hJ (bB s.loc j)with
       |true=>K ⟨fa o.dst r,ml (bq s) o.op.operands.toList++b2.flatMap fR,[(j,.gone)],[]⟩ idx
       |false=>False
      |_=>False)\/match fm (l++b2)with
       | [.own _]=>Hs P n (l++b2) s idx o.dst (ml (bq s) o.op.operands.toList) K\/Ht P n (l++b2) s idx o.dst (ml (bq s) o.op.operands.toList++b2.flatMap fR) K
       |_=>Hs P n (l++b2) s idx o.dst (ml (bq s) o.op.operands.toList) K
   |_=>False
  |_=>False
def yg(loc:List aU)(ρ:Nat->Nat):List Nat->List aU->Prop
 | [],[]=>True
 |i::r,o::dZ=>bB loc i=fw ρ o/\yg loc ρ r dZ
 |_,_=>False
def Hv(P:Program)(o:Oper)(idx:Nat)(s:bu)(K:dY->Nat->Prop):Prop:=
 match o.op with
 | .call {callee:=.value f,args,..}=>match bq s f with
  | .fn (.func k) b2=>p0 (bq s) args.toList fun l=>∃ (pass:List Nat) (L:List aU) (im:List aj) (kept:List Bool) (d:aj),
    b0 P k L im kept L d/\(p3 kept L L&&nO L&&we pass&&pass.all (fun i=>Nat.blt i s.loc.length)&&im.all (iI L)&&mj L L&&kept.all (fun b=>b))=true/\
    yg s.loc (cO pass) pass L/\lI (l++b2) (im.map (jI (cO pass)))/\
    K ⟨fa o.dst (jI (cO pass) d),ml (bq s) o.op.operands.toList++pass,[],[]⟩ idx
  |_=>False
 |_=>False
def DC(ah:c4)(P:Program)(o:Oper)(g:Bool)(idx:Nat)(s:bu)(K:dY->Nat->Prop):Prop:=
 match o.op with
 | .pick c a b=>uz s g c a b fun c d=>pY c (K ⟨fa o.dst (.bP g d),ml (bq s) o.op.operands.toList,[],[]⟩ idx)
 |_=>match Ds o.op (hz s)with
  |true=>mL g s o.op.operands.toList fun h0=>lG ah s.loc o.op (hz s) fun c d=>pY (andO h0 (under g c)) (K ⟨fa o.dst (.bP g d),ml (hz s) o.op.operands.toList,[],[]⟩ idx)
  |false=>match o.op with
   | .call {callee:=.value f,args,..}=>match hz s f with
    | .fn (.func n) b2=>match (args.toList.map (hz s)).all (M4 s.loc)with
     |true=>mL g s o.op.operands.toList fun h0=>p0 (hz s) args.toList fun l=>p1 s.loc (l++b2) fun iY=>∃ck r,lI iY ck/\(g=true->bg P n ck r)/\pY h0 (match fm (l++b2)with
      | []=>K ⟨fa o.dst (.bP g r),ml (hz s) o.op.operands.toList++b2.flatMap fR,[],[]⟩ idx
      |_=>match s3 r with
       |true=>K ⟨fa o.dst (.bP g r),ml (hz s) o.op.operands.toList++b2.flatMap fR,[],[]⟩ idx
       |false=>False)
     |false=>wi g (mM g o.op.operands.toList s fun s=>Hv P o idx s K\/An ah P o idx s K) (∃d:aj,K ⟨fa o.dst (.bP false d),[],[],[]⟩ idx)
    |_=>False
   |_=>wi g (An ah P o idx s K) (K ⟨fa o.dst (.bP false (.v (.bool false))),[],[],[]⟩ idx)
def Hw(ah:c4)(P:Program)(all:List Oper)(o:Oper)(idx:Nat)(s:bu)(K:dY->Nat->Prop):Prop:=
 match o.guard with
 |none=>An ah P o idx s K
 |some (j,want)=>match q2 all s j with
  | .v (.bool b)=>Am b want fun g=>DC ah P o g idx s K
  | .bP g (.v (.bool b))=>Am b want fun c5=>DC ah P o (g&&c5) idx s K
  |_=>False
def Hx:List (Nat×Nat)->List (Nat×Nat)->(List (Nat×Nat)->Prop)->Prop
 |jl,[],K=>K jl
 |jl,p::r,K=>Hx (p::jl) r K
def DD(ah:c4)(P:Program)(all:List Oper):List Oper->Nat->List dY->List (Nat×Nat)->(List dY->List (Nat×Nat)->bu->Prop)->bu->Prop
 | [],_,aL,jl,K,s=>K aL jl s
 |o::r,idx,aL,jl,K,s=>Hw ah P all o idx s fun bl uA=>bl.M9 s fun s=>Hx jl bl.rT fun jl=>DD ah P all r uA (aL++ [bl]) jl K s
def uB(aL:List Nat):List Edge->Nat->Nat
 | [],m=>m
 |e::r,m=>match Region.binds .any e with
  |true=>uB aL r (Nat.lor m (Nat.lor (2^e.on) (aL.getD e.on 0)))
  |false=>uB aL r m
def uC:List Oper->List Nat->List Nat
 | [],aL=>aL
 |o::r,aL=>uC r (aL++ [uB aL o.after.toList 0])
def wk:List Oper->Nat->Bool
 | [],_=>true
 |o::r,i=>o.after.toList.all (fun e=> !Region.binds .any e||Nat.blt e.on i)&&wk r (i+1)
def yh(l r:List Nat):Bool:=l.any fun x=>r.any fun y=>Nat.beq x y
structure q3 where
 s6:List Nat
 aX:List Nat
 ip:List Nat
 kB:List Nat
def rU(all:Array Oper)(o:Oper)(bl:dY):q3:=
 ⟨o.looksAt all,bl.wj.map (·.1),bl.ip,bl.kB.map (·.1)⟩
def s7(f g:q3):Bool:=yh f.aX (g.s6++g.aX)||yh f.s6 g.aX||yh f.kB (g.ip++g.kB)||yh f.ip g.kB
def Ao(f:q3)(i:Nat):List q3->List Nat->Bool
 |g::r,m::ms=>(!s7 f g||Nat.testBit m i)&&Ao f i r ms
 |_,_=>true
def Ap:Nat->List q3->List Nat->Bool
 |i,f::r,_::ms=>Ao f i r ms&&Ap (i+1) r ms
 |_,_,_=>true
def DE(all:Array Oper):List Oper->List dY->List q3
 |o::r,bl::cK=>rU all o bl::DE all r cK
 |_,_=>[]
def DF(ops:Array Oper)(cK:List dY):Bool:=
 wk ops.toList 0&&Ap 0 (DE ops ops.toList cK) (uC ops.toList [])
def q4:List Oper->Nat
 | []=>0
 |o::r=>match o.op with
  | .alloc _| .makeSlice .. | .box .. =>q4 r+1
  | .buildSlice .. =>q4 r+1
  | .call {callee:=.builtin .append,..}=>q4 r+1
  | .call {callee:=.value _,..}=>q4 r+1
  |_=>q4 r
def jm(a b:Nat):aj->aj
 | .own j=>match Nat.beq j a with
  |true=>.own b
  |false=>match Nat.beq j b with
   |true=>.aW
   |false=>.own j
 | .cF j k o=>match Nat.beq j a with
  |true=>.cF b k o
  |false=>match Nat.beq j b with
   |true=>.aW
   |false=>.cF j k o
 | .bP c d=>.bP c (jm a b d)
 |d=>d
def s8(a b:Nat):aj->aj
 | .agg cs=>.agg (cs.map (jm a b))
 | .a1 ds=>nN ds
 | .bP c d=>.bP c (s8 a b d)
 |d=>jm a b d
def Hy(s:bu)(p:Nat×Nat):bu:=
 match hJ (bB s.loc p.1),Hg (bB s.loc p.2)with
 |true,true=>⟨mI (s8 p.1 p.2) s.env,e1 (e1 (mh (jm p.1 p.2) s.loc) p.2 (bB s.loc p.1)) p.1 .bd⟩
 |_,_=>s
def yi:List (Nat×Nat)->bu->bu
 | [],s=>s
 |p::r,s=>yi r (Hy s p)
def Hz:List Oper->Tmp->Option Operand
 | [],_=>none
 |o::r,t=>match o.dst,o.op with
  |some d,.move y=>match Nat.beq d t with
   |true=>some y
   |false=>Hz r t
  |_,_=>Hz r t
def VN(all:List Oper)(s:bu)(x:Operand):aj:=
 match x with
 | .tmp t=>match Hz all t with
  |some y=>bq s y
  |none=>bq s x
 |_=>bq s x
def yj(all:List Oper):List Oper->bu->(bu->Prop)->Prop
 | [],s,K=>K s
 |o::r,s,K=>match o.op with
  | .slice _ x _ _ _=>match VN all s x with
   | .own j=>mi [.own j] s fun s=>yj all r s K
   |_=>yj all r s K
  |_=>yj all r s K
def Na(ah:c4)(P:Program)(ops:Array Oper)(K:bu->Prop)(s:bu):Prop:=
 z8 (s.loc++List.replicate (q4 ops.toList) .bd) fun VO=>DD ah P ops.toList ops.toList s.loc.length [] [] (fun cK jl s'=>DF ops cK=true/\match jl with
  | []=>K s'
  |rT=>K (yi rT s')) ⟨s.env,VO⟩
def HA(ah:c4)(P:Program)(ops:Array Oper)(K:bu->Prop)(s:bu):Prop:=
 yj ops.toList ops.toList s fun s=>Na ah P ops K s
def HB(s:List (Nat×aj)):List (Nat×aj)->Prop
 | []=>True
 |p::r=>fP (look s p.1) p.2/\HB s r
def yk:List aU->List aU->Prop
 |_,[]=>True
 |o::r,aK::dZ=>fF o aK/\yk r dZ
 | [],_::_=>False
def bu.le(s t:bu):Prop:=HB s.env t.env/\yk s.loc t.loc/\(yc t.loc t.env&&mj t.loc t.loc)=true
inductive Aq where
 |fS(t:Nat)(e:TypeId)(av:Nat)
 |cell(i off:Nat)(e:TypeId)(av:Nat)
 |hZ(t:Nat)
 |swap(i j:Nat)
 |np(i off:Nat)
 |fresh(e:TypeId)(av:Nat)
 |dQ(i j:Nat)
 |mm(i:Nat)
 |uD(t i:Nat)
def hL(i j k:Nat):Nat:=
 match Nat.beq k i with
 |true=>j
 |false=>match Nat.beq k j with
  |true=>i
  |false=>k
def uE(f:aU->aU):List aU->List aU
 | []=>[]
 |o::r=>f o::uE f r
def HC(l:List aU)(i j:Nat):List aU:=e1 (e1 l i (bB l j)) j (bB l i)
def Ar(i j:Nat)(s:bu)(K:bu->Prop):Prop:=
 match Nat.blt i s.loc.length&&Nat.blt j s.loc.length with
 |true=>K ⟨mI (jI (hL i j)) s.env,HC (uE (p2 (hL i j)) s.loc) i j⟩
 |false=>False
def DG(t:Nat)(s:bu)(K:bu->Prop):Prop:=
 match look s.env t with
 | .own j=>match bB s.loc j with
  | .row _ av es=>K (s.hZ j av es)
  |_=>K s
 |_=>K s
def pk:List Aq->bu->(bu->Prop)->Prop
 | [],s,K=>K s
 | .hZ t::r,s,K=>DG t s fun s=>pk r s K
 | .fS _ _ _::r,s,K=>pk r s K
 | .cell _ _ _ _::r,s,K=>pk r s K
 | .swap i j::r,s,K=>Ar i j s fun s=>pk r s K
 | .np _ _::r,s,K=>pk r s K
 | .fresh _ _::r,s,K=>pk r s K
 | .dQ _ _::r,s,K=>pk r s K
 | .mm _::r,s,K=>pk r s K
 | .uD t i::r,s,K=>match look s.env t with
  | .own j=>Ar i j s fun s=>pk r s K
  |_=>pk r s K
def mn:List Aq->bu->(bu->Prop)->Prop
 | [],s,K=>K s
 | .swap _ _::r,s,K=>mn r s K
 | .uD _ _::r,s,K=>mn r s K
 | .dQ i j::r,s,K=>Ar i j s fun s=>mn r s K
 | .mm i::r,s,K=>match lJ s.loc i||hJ (bB s.loc i)with
  |true=>mn r ⟨s.env,e1 s.loc i .gone⟩ K
  |false=>False
 | .np i off::r,s,K=>match bB s.loc i with
  | .cells _ cs=>match cs[off]? with
   |some (.own j)=>mi [.own j] s fun s=>mn r s K
   |_=>False
  |_=>False
 | .fresh e av::r,s,K=>match av with
  |m+1=>mn r ⟨s.env,s.loc++ [.row e (m+1) []]⟩ K
  |0=>False
 | .hZ t::r,s,K=>DG t s fun s=>mn r s K
 | .fS t e av::r,s,K=>match look s.env t,av with
  | .ar,_+1=>mn r ⟨(t,.own s.loc.length)::s.env,s.loc++ [.row e av []]⟩ K
  |_,_=>False
 | .cell i off e av::r,s,K=>match bB s.loc i,av with
  | .cells t cs,_+1=>match cs[off]? with
   |some .ar=>mn r ⟨s.env,e1 s.loc i (.cells t (qT cs off (.own s.loc.length)))++ [.row e av []]⟩ K
   |_=>False
  |_,_=>False
def VP(body: (Exit->bu->Prop)->bu->Prop)(K:Exit->bu->Prop)(s:bu):Prop:=
 ∃ (S:Type) (enc:S->bu) (I:S->Prop) (μ:S->Nat) (nQ:List Aq),(∃x,I x/\mn nQ s fun s=>s.le (enc x))/\
  ∀x,I x->body (fun e s'=>match e with
   | .normal=>∃x',I x'/\μ x'<μ x/\pk nQ s' fun s'=>s'.le (enc x')
   |e=>K e s') (enc x)
def oB(ah:c4)(P:Program):Code->(Exit->bu->Prop)->bu->Prop
 | .skip,K,s=>K .normal s
 | .region _ ops draw,K,s=>match draw with
  |false=>wh ah P ops.toList ops.toList (fun s=>K .normal s) s
  |true=>HA ah P ops (fun s=>K .normal s) s
 | .seq a b,K,s=>oB ah P a (fun e s'=>match e with
   | .normal=>oB ah P b K s'
   |e=>K e s') s
 | .cond c a b,K,s=>match bq s c with
  | .v (.bool t)=>wi t (oB ah P a K s) (oB ah P b K s)
  |_=>False
 | .block id c,K,s=>oB ah P c (fun e s'=>match e with
   | .exit j=>match Nat.beq j id with
    |true=>K .normal s'
    |false=>K (.exit j) s'
   |e=>K e s') s
 | .loop c,K,s=>VP (oB ah P c) K s
 | .exit id,K,s=>K (.exit id) s
 | .ret,K,s=>K .ret s
 | .label _,K,s=>K .normal s
 | .scope c,K,s=>oB ah P c (fun e s'=>match e with
   | .goto _=>False
   |e=>K e s') s
 |_,_,_=>False
def As(ah:c4)(s:bu):List ResultVar->(List aj->Prop)->Prop
 | [],K=>K []
 | .tmp t::r,K=>fl (look s.env t) fun d=>qX s.loc d fun d=>As ah s r fun l=>K (d::l)
 | .cell p ty::r,K=>match look s.env p with
  | .aP i o=>match bB s.loc i with
   | .cells _ cs=>match (ay ah ty).size with
    |0=>False
    |_=>nK o cs fun l=>kg (ay ah ty).agg (ay ah ty).size l fun d=>qX s.loc d fun d=>As ah s r fun l=>K (d::l)
   |_=>False
  |_=>False
def Nb(ah:c4)(j1:List ResultVar)(d:aj)(s:bu):Prop:=
 As ah s j1 fun l=>match l with
  | [x]=>fP x d
  |l=>fP (.a1 l) d
def rV:Nat->List aj->List (Nat×aj)
 |_,[]=>[]
 |n,d::r=>(n,d)::rV (n+1) r
def Nc(ah:c4)(P:Program)(c:Code)(j1:List ResultVar)(args:List aj)(d:aj):Prop:=
 oB ah P c (fun e s=>match e with
  | .normal| .ret=>Nb ah j1 d s
  |_=>False) ⟨rV 0 args,[]⟩
def iL(k:Nat):aU->aj
 | .row .. =>.own k
 | .cells .. =>.aP k 0
 |_=>.aW
def rW:Nat->List aU->List aj
 |_,[]=>[]
 |k,o::r=>iL k o::rW (k+1) r
def yl(L:List aU):List aU:=
 match L with
 | []=>[]
 |_=>[.b6 (rW 0 L)]
def wm:Nat->List Bool->List aU->List aj
 |k,true::r,o::l=>iL k o::wm (k+1) r l
 |k,false::r,_::l=>.aW::wm (k+1) r l
 |_,_,_=>[]
def kC(L:List aU)(kept:List Bool)(bC:List aU):List aU:=
 match L with
 | []=>bC
 |_=>bC.take L.length++ .b6 (wm 0 kept bC)::bC.drop (L.length+1)
def Au:Nat->List aU->Bool
 |_,[]=>true
 |0,.bd::_=>true
 |0,_::_=>false
 |n+1,_::r=>Au n r
def HD(L bC:List aU):Bool:=
 match L with
 | []=>true
 |_=>Au L.length bC
def ym(ah:c4)(s:bu):List ResultVar->(List aj->Prop)->Prop
 | [],K=>K []
 | .tmp t::r,K=>fl (look s.env t) fun d=>match kh d||mH (cN d)with
  |true=>ym ah s r fun l=>K (d::l)
  |false=>False
 | .cell p ty::r,K=>match look s.env p with
  | .aP i o=>match bB s.loc i with
   | .cells _ cs=>match (ay ah ty).size with
    |0=>False
    |_=>nK o cs fun l=>kg (ay ah ty).agg (ay ah ty).size l fun d=>match mH (cN d)with
     |true=>ym ah s r fun l=>K (d::l)
     |false=>False
   |_=>False
  |_=>False
def HE(ah:c4)(s:bu)(j1:List ResultVar)(K:aj->Prop):Prop:=
 match j1 with
 | [.tmp t]=>fl (look s.env t) fun d=>K d
 | [.cell p ty]=>match look s.env p with
  | .aP i o=>match bB s.loc i with
   | .cells _ cs=>match (ay ah ty).size with
    |0=>False
    |_=>nK o cs fun l=>kg (ay ah ty).agg (ay ah ty).size l fun d=>K d
   |_=>False
  |_=>False
 |j1=>ym ah s j1 fun l=>K (.a1 l)
def yn(ah:c4)(j1:List ResultVar)(L:List aU)(kept:List Bool)(bC:List aU)(d:aj)(s:bu):Prop:=
 HE ah s j1 fun x=>fP x d/\yk s.loc (kC L kept bC)/\(p3 kept L bC&&nO bC&&HD L bC&& (match d with| .a1 ds=>ds.all (fun e=> !kh e||iI bC e)|d=>iI bC d)&&mj bC bC&&mj (kC L kept bC) (kC L kept bC))=true
def Nd(ah:c4)(P:Program)(c:Code)(j1:List ResultVar)(L:List aU)(args:List aj)(kept:List Bool)(bC:List aU)(d:aj):Prop:=
 oB ah P c (fun e s=>match e with
  | .normal| .ret=>yn ah j1 L kept bC d s
  |_=>False) ⟨rV 0 args,L++yl L⟩
theorem gv{d:aj}{K:aj->Prop}:fl d K↔K d:=by cases d<;>exact Iff.rfl
theorem Av:∀ {n:Nat} {l:List aj} {K:List aj->Prop},sW n l K->n<=l.length/\K (l.take n)
 |0,l,K,h=>⟨Nat.zero_le _,h⟩
 |n+1,[],K,h=>h.elim
 |n+1,d::r,K,h=>by
  have h:=gv.1 h;obtain⟨h1,ad⟩:=Av h;exact⟨by simp;omega,by simpa using ad⟩
theorem oC:∀ {n:Nat} {l:List aj} {K:List aj->Prop},nK n l K->n<=l.length/\K (l.drop n)
 |0,l,K,h=>⟨Nat.zero_le _,h⟩
 |n+1,[],K,h=>h.elim
 |n+1,d::r,K,h=>by
  obtain⟨h1,ad⟩:=oC (l:=r) h;exact⟨by simp;omega,by simpa using ad⟩
theorem Aw{a b:IntKind}:pf a b=true↔a=b:=by cases a<;>cases b<;>simp[pf]
theorem jn:∀ (l:List aU) (i:Nat),bB l i=(l[i]?).getD .bd
 | [],i=>by cases i<;>rfl
 |o::r,0=>rfl
 |o::r,i+1=>by rw[bB];simpa using jn r i
theorem kj:∀ (l:List aU) (i:Nat) (x:aU),e1 l i x=l.set i x
 | [],i,x=>by cases i<;>rfl
 |o::r,0,x=>rfl
 |o::r,i+1,x=>by rw[e1,kj r i x];rfl
theorem Ax:∀ (l:List aj) (i:Nat) (x:aj),qT l i x=l.set i x
 | [],i,x=>by cases i<;>rfl
 |o::r,0,x=>rfl
 |o::r,i+1,x=>by rw[qT,Ax r i x];rfl
theorem Nf:∀ (r l:List aj),(qU l r).length=l.length
 | [],l=>by rw[qU]
 |_::_,[]=>by rw[qU]
 |x::r,c::l=>by rw[qU,List.length_cons,Nf r l,List.length_cons]
theorem Ng:∀ (r l:List aj) (j:Nat),r.length<=l.length->(qU l r)[j]?=if j<r.length then r[j]? else l[j]?
 | [],l,j,_=>by rw[qU,if_neg (by simp)]
 |_::_,[],_,h=>by simp at h
 |x::r,c::l,0,h=>by simp[qU]
 |x::r,c::l,j+1,h=>by
  simp only[List.length_cons]at h;rw[qU,List.getElem?_cons_succ,Ng r l j (by omega)];by_cases ai:j<r.length
  ·rw[if_pos ai,if_pos (by simp;omega),List.getElem?_cons_succ]
  ·rw[if_neg ai,if_neg (by simp;omega),List.getElem?_cons_succ]
theorem Nh:∀ (l:List aj) (o:Nat) (r:List aj),(qV l o r).length=l.length
 |l,0,r=>by cases l<;>rw[qV,Nf]
 | [],o+1,r=>by rw[qV]
 |c::l,o+1,r=>by rw[qV,List.length_cons,Nh l o r,List.length_cons]
theorem Ni:∀ (l:List aj) (o:Nat) (r:List aj) (j:Nat),o+r.length<=l.length->(qV l o r)[j]?=if o<=j/\j<o+r.length then r[j-o]? else l[j]?
 |l,0,r,j,h=>by
  have e:qV l 0 r=qU l r:=by cases l<;>rw[qV]
  rw[e,Ng r l j (by omega)];by_cases ai:j<r.length
  ·rw[if_pos ai,if_pos (by omega),Nat.sub_zero]
  ·rw[if_neg ai,if_neg (by omega)]
 | [],o+1,r,j,h=>by simp at h
 |c::l,o+1,r,0,h=>by
  rw[qV,if_neg (by omega)];rfl
 |c::l,o+1,r,j+1,h=>by
  simp only[List.length_cons]at h;rw[qV,List.getElem?_cons_succ,Ni l o r j (by omega),List.getElem?_cons_succ];by_cases ai:o<=j/\j<o+r.length
  ·rw[if_pos ai,if_pos (by omega),show j+1- (o+1)=j-o by omega]
  ·rw[if_neg ai,if_neg (by omega)]
theorem DH:∀ (r l:List aj) (o:Nat),(hl l o r).length=l.length
 | [],l,o=>by rw[hl]
 | [x],l,o=>by rw[hl,Ax,List.length_set]
 |x::y::r,l,o=>by rw[hl,Nh]
theorem DI:∀ (r l:List aj) (o j:Nat),o+r.length<=l.length->(hl l o r)[j]?=if o<=j/\j<o+r.length then r[j-o]? else l[j]?
 | [],l,o,j,_=>by
  rw[hl,if_neg (by simp)]
 | [x],l,o,j,h=>by
  simp only[List.length_cons,List.length_nil]at h;rw[hl,Ax];by_cases ad:j=o
  ·subst ad;rw[if_pos (by simp)];simp[List.getElem?_set];omega
  ·rw[if_neg (by simp;omega),List.getElem?_set_ne (by omega)]
 |x::y::r,l,o,j,h=>by
  rw[hl,Ni _ _ _ _ h]
theorem yo(f:aj->aj)(aI:f .aW= .aW):∀ (e:List (Nat×aj)) (t:Nat),look (mI f e) t=f (look e t)
 | [],t=>by simp[mI,look,aI]
 |p::r,t=>by
  simp only[mI,look];split
  ·rfl
  ·exact yo f aI r t
theorem Nj{w w':World}{a:Addr}(h:w'.heap[a.block]?=w.heap[a.block]?):w'.cell? a=w.cell? a:=by simp[World.cell?,h]
theorem Addr.uF(a:Addr)(n:Nat): (a.add n).block=a.block:=by unfold Addr.add;split<;>rfl
theorem Addr.DJ(a:Addr)(i j:Nat): (a.add i).add j=a.add (i+j):=by
 unfold Addr.add;by_cases ab:i=0<;>by_cases ai:j=0<;>simp[ab,ai,Nat.add_assoc]
theorem Addr.mN(b o n:Nat):Addr.add ⟨b,o,none⟩ n= ⟨b,o+n,none⟩:=by
 unfold Addr.add;split
 ·subst_vars;rfl
 ·rfl
structure cT(A cU:Nat->Prop)(w w':World):Prop where
 size:w.heap.size<=w'.heap.size
 out:∀b,b<w.heap.size->cU b->A b
 wo:∀b,b<w.heap.size->¬A b->w'.heap[b]?=w.heap[b]?
theorem bO.b9{A cU:Nat->Prop}{w w':World}(k:cT A cU w w'){x:Value}{d:aj}(h:bO A w x d):bO cU w' x d:=by
 induction h with
 |v h=>exact .v h
 | @aq a n c av es pW xs aS al aT aI bZ aw ae bf cP _ aN=>
  refine .aq xs aS al aT aI bZ (fun bx h=>aw bx (k.out _ (ae bx) h)) (fun bx=>Nat.lt_of_lt_of_le (ae bx) k.size) bf (fun i j e d he aa=> ?_) aN;have bx:es≠ []:=fun iq=>by rw[iq]at he;simp at he
  have:=cP i j e d he aa;rwa[<-Nj (w:=w) (w':=w') (by rw[Addr.uF];exact k.wo _ (ae bx) (aw bx))]at this
 |nil=>exact .nil
 |ar=>exact .ar
 |agg af bf _ aN=>exact .agg af bf aN
 |a1 af _ aN=>exact .a1 af aN
 | @cD a cs xs aw ae bf cP _ aN=>
  refine .cD xs (fun h=>aw (k.out _ ae h)) (Nat.lt_of_lt_of_le ae k.size) bf (fun j d aa=> ?_) aN;have:=cP j d aa;rwa[<-Nj (w:=w) (w':=w') (by rw[Addr.uF];exact k.wo _ ae aw)]at this
 |fn af _ aN=>exact .fn af aN
 |bP _ aH aN=>exact .bP aN aH
 |aW=>exact .aW
theorem cT.refl(A:Nat->Prop)(w:World):cT A A w w:=⟨Nat.le_refl _,fun _ _ h=>h,fun _ _ _=>rfl⟩
theorem cT.gk{A cU:Nat->Prop}{w:World}(h:∀b,cU b->A b):cT A cU w w:=⟨Nat.le_refl _,fun _ _ bb=>h _ bb,fun _ _ _=>rfl⟩
theorem cT.nq{A cU:Nat->Prop}{w w':World}(ax:w.grownBy w' none)(h:∀b,b<w.heap.size->cU b->A b):cT A cU w w':=
 ⟨ax.size,h,fun b ae _=>ax.block b ae (by simp)⟩
section
variable {A:Nat->Prop} {os:cu} {w:World} {x:Value}
theorem a6.h2{y:Value}(h:a6 A os w x (.v y)):x=y/\y.oneCell'=true:=by
 cases h with
 |bA h=>cases h with
  |v h=>exact⟨rfl,h⟩
 |dK h aa h1=>rcases aa with aa| ⟨_,_,aa⟩<;>cases aa
theorem a6.kT{av:Nat}{es:List (List aj)}{f:Bool}(h:a6 A os w x (.aq av es f)):bO A w x (.aq av es f):=by
 cases h with
 |bA h=>exact h
 |dK h aa h1=>rcases aa with aa| ⟨_,_,aa⟩<;>cases aa
theorem a6.mo(h:a6 A os w x .ar):x= .slice none 0 0:=by
 cases h with
 |bA h=>cases h;rfl
 |dK h aa h1=>rcases aa with aa| ⟨_,_,aa⟩<;>cases aa
theorem a6.rX{cs:List aj}(h:a6 A os w x (.cD cs)):bO A w x (.cD cs):=by
 cases h with
 |bA h=>exact h
 |dK h aa h1=>rcases aa with aa| ⟨_,_,aa⟩<;>cases aa
theorem a6.Nk{ds:List aj}(h:a6 A os w x (.a1 ds))(aS:ds.any kh=false):bO A w x (.a1 ds):=by
 cases h with
 |bA h=>exact h
 |a1 af bJ _=>
  refine .a1 af fun i v d ac aa=> ?_;rcases bJ i v d ac aa with h1|h1
  ·rw[List.any_eq_false]at aS;exact absurd h1 (aS d (List.mem_of_getElem? aa))
  ·exact h1
 |dK h aa h1=>rcases aa with aa| ⟨_,_,aa⟩<;>cases aa
theorem a6.HF{ds:List aj}(h:a6 A os w x (.a1 ds)):∃vs:List Value,x= .tuple vs.toArray/\vs.length=ds.length/\(∀ (i:Nat) v d,vs[i]?=some v->ds[i]?=some d->kh d=true\/bO A w v d)/\∀ (i:Nat) v d,vs[i]?=some v->ds[i]?=some d->a6 A os w v d:=by
 cases h with
 |bA h=>cases h with
  |a1 af au=>exact⟨_,rfl,af,fun i v d ac aa=>.inr (au i v d ac aa),fun i v d ac aa=>.bA (au i v d ac aa)⟩
 |a1 af bJ au=>exact⟨_,rfl,af,bJ,au⟩
 |dK h aa h1=>rcases aa with aa| ⟨_,_,aa⟩<;>cases aa
theorem a6.nN{ds:List aj}(h:a6 A os w x (.a1 ds)):bO A w x (Go.Lift.nN ds):=by
 unfold Go.Lift.nN;split
 ·exact h.Nk (by assumption)
 ·exact .aW
theorem a6.p6{f:Fn}{ds:List aj}(h:a6 A os w x (.fn f ds)):∃vs:List Value,x= .func f #[] vs.toArray/\vs.length=ds.length/\∀ (i:Nat) v d,vs[i]?=some v->ds[i]?=some d->a6 A os w v d:=by
 cases h with
 |bA h=>cases h with
  |fn af au=>exact⟨_,rfl,af,fun i v d ac aa=>.bA (au i v d ac aa)⟩
 |fn af gu au=>exact⟨_,rfl,af,au⟩
 |dK h aa h1=>rcases aa with aa| ⟨_,_,aa⟩<;>cases aa
theorem a6.s9{ds:List aj}(h:a6 A os w x (.agg ds)):∃vs:List Value,x= .agg vs.toArray/\vs.length=ds.length/\(∀v∈vs,v.oneCell'=true)/\
  ∀ (i:Nat) v d,vs[i]?=some v->ds[i]?=some d->a6 A os w v d:=by
 cases h with
 |bA h=>cases h with
  |agg af bf h=>exact⟨_,rfl,af,bf,fun i v d ac aa=>.bA (h i v d ac aa)⟩
 |agg af bf h=>exact⟨_,rfl,af,bf,h⟩
 |dK h aa h1=>rcases aa with aa| ⟨_,_,aa⟩<;>cases aa
theorem a6.uG{b:Bool}{d:aj}(h:a6 A os w x (.bP b d)): (b=true->a6 A os w x d)/\(b=false->x=undef):=by
 cases h with
 |bA h=>cases h with
  |bP h aH=>exact⟨fun ae=>.bA (h ae),aH⟩
 |bP h aH=>exact⟨h,aH⟩
 |dK h aa h1=>rcases aa with aa| ⟨_,_,aa⟩<;>cases aa
theorem a6.nR{i off:Nat}(h:a6 A os w x (.aP i off)):∃g t cs,os[i]?=some (.pointer (some ⟨g,0,none⟩),.cells t cs)/\x= .pointer (some ⟨g,off,none⟩):=by
 cases h with
 |bA h=>cases h
 |aP h=>exact⟨_,_,_,h,rfl⟩
 |dK h aa h1=>rcases aa with aa| ⟨_,_,aa⟩<;>cases aa
theorem a6.uH{i off:Nat}(h:a6 A os w x (.dc i off)):∃g t cs,os[i]?=some (.pointer (some ⟨g,0,none⟩),.cells t cs)/\x= .pointer (some ⟨g,off,none⟩):=by
 cases h with
 |bA h=>cases h
 |dc h=>exact⟨_,_,_,h,rfl⟩
 |dK h aa h1=>rcases aa with aa| ⟨_,_,aa⟩<;>cases aa
theorem a6.Nl{i k off:Nat}(h:a6 A os w x (.cF i k off)):x.oneCell'=true/\((∃g n c e av es,os[i]?=some (.slice (some ⟨g,0,none⟩) n c,.row e av es)/\x= .pointer (some ⟨g,k*av+off,none⟩))\/∃y,os[i]?=some (y,.gone)):=by
 cases h with
 |bA h=>cases h
 |cF h=>exact⟨rfl,.inl ⟨_,_,_,_,_,_,h,rfl⟩⟩
 |dK h aa h1=>rcases aa with aa| ⟨_,_,aa⟩<;>cases aa;exact⟨h1,.inr ⟨_,h⟩⟩
theorem a6.yp{i:Nat}(h:a6 A os w x (.own i)):x.oneCell'=true/\((∃e av es,os[i]?=some (x,.row e av es))\/∃y,os[i]?=some (y,.gone)):=by
 cases h with
 |bA h=>cases h
 |own h h1=>exact⟨h1,.inl ⟨_,_,_,h⟩⟩
 |dK h aa h1=>rcases aa with aa| ⟨_,_,aa⟩<;>cases aa;exact⟨h1,.inr ⟨_,h⟩⟩
theorem a6.nS{i:Nat}{y:Value}{e:TypeId}{av:Nat}{es:List (List aj)}(h:a6 A os w x (.own i))(ab:os[i]?=some (y,.row e av es)):x=y:=by
 rcases h.yp.2 with⟨_,_,_,h⟩| ⟨_,h⟩
 ·rw[ab]at h;cases h;rfl
 ·rw[ab]at h;cases h
theorem a6.Ay{i k off:Nat}{y:Value}{e:TypeId}{av:Nat}{es:List (List aj)}(h:a6 A os w x (.cF i k off))(ab:os[i]?=some (y,.row e av es)):∃g n c,y= .slice (some ⟨g,0,none⟩) n c/\x= .pointer (some ⟨g,k*av+off,none⟩):=by
 rcases h.Nl.2 with⟨g,n,c,_,_,_,h,an⟩| ⟨_,h⟩
 ·rw[ab]at h;cases h;exact⟨g,n,c,rfl,an⟩
 ·rw[ab]at h;cases h
def di(o aK:aU):Prop:=
 match o,aK with
 | .cells t _,.cells c1 _=>t=c1
 | .row e av _,.row cd ki _=>e=cd/\av=ki
 | .bd,_=>True
 | .gone,.gone=>True
 | .b6 _,.b6 _=>True
 |_,_=>False
def q5(os aJ:cu):Prop:=∀ (i:Nat) (x:Value) (o:aU),os[i]?=some (x,o)->∃aK,aJ[i]?=some (x,aK)/\di o aK
theorem q5.refl(os:cu):q5 os os:=fun i x o h=>⟨o,h,by cases o<;>simp[di]⟩
theorem a6.b9{cU:Nat->Prop}{aJ:cu}{w':World}(k:cT A cU w w')(aZ:q5 os aJ){d:aj}(h:a6 A os w x d):a6 cU aJ w' x d:=by
 induction h with
 |bA h=>exact .bA (h.b9 k)
 |aP h=>
  obtain⟨aK,bb,hk⟩:=aZ _ _ _ h;cases aK<;>simp[di]at hk
  exact .aP bb
 |dc h=>
  obtain⟨aK,bb,hk⟩:=aZ _ _ _ h;cases aK<;>simp[di]at hk
  exact .dc bb
 |cF h=>
  obtain⟨aK,bb,hk⟩:=aZ _ _ _ h;cases aK<;>simp[di]at hk
  obtain⟨rfl,rfl⟩:=hk;exact .cF bb
 |own h h1=>
  obtain⟨aK,bb,hk⟩:=aZ _ _ _ h;cases aK<;>simp[di]at hk
  exact .own bb h1
 |dK h aa h1=>
  obtain⟨aK,bb,hk⟩:=aZ _ _ _ h;cases aK<;>simp[di]at hk
  exact .dK bb aa h1
 |agg af bf _ aN=>exact .agg af bf aN
 |a1 af bJ _ aN=>exact .a1 af (fun i v d ac aa=>by
  rcases bJ i v d ac aa with h|h
  ·exact .inl h
  ·exact .inr (h.b9 k)) aN
 |fn af gu _ aN=>exact .fn af gu aN
 |bP _ aH aN=>exact .bP aN aH
theorem a6.cells{d:aj}(h:a6 A os w x d)(aa:∀b bD,d≠ .bP b bD)(bW:∀l,d≠ .a1 l)(ai:d≠ .aW):
  x.cells.toList.length=(cN d).length/\(∀v∈x.cells.toList,v.oneCell'=true)/\∀ (i:Nat) v e,x.cells.toList[i]?=some v->(cN d)[i]?=some e->a6 A os w v e:=by
 have dD:∀ {y:Value} {e:aj},y.oneCell'=true->(∀l,e≠ .agg l)->a6 A os w y e->y.cells.toList.length=(cN e).length/\(∀v∈y.cells.toList,v.oneCell'=true)/\∀ (i:Nat) v cd,y.cells.toList[i]?=some v->(cN e)[i]?=some cd->a6 A os w v cd:=by
  intro y e bt he ao;have h1:y.cells= #[y]:=by cases y<;>first|rfl|simp[Value.oneCell']at bt
  have ad:cN e=[e]:=by cases e<;>first|rfl|exact absurd rfl (he _)
  rw[h1,ad];refine⟨rfl,by simpa using bt,fun i v cd ac rY=> ?_⟩;cases i with
  |zero=>simp at ac rY;subst ac rY;exact ao
  |succ i=>simp at ac
 cases d with
 |v y=>obtain⟨rfl,bt⟩:=h.h2;exact dD bt (by simp) h
 |aq=>have bb:=h.kT;cases bb<;>exact dD rfl (by simp) h
 |agg ds=>obtain⟨vs,rfl,af,bf,au⟩:=h.s9;exact⟨by simpa[Value.cells,cN]using af,by simpa[Value.cells]using bf,by simpa[Value.cells,cN]using au⟩
 |a1 l=>exact absurd rfl (bW l)
 |cD=>have bb:=h.rX;cases bb;exact dD rfl (by simp) h
 |aP=>obtain⟨_,_,_,_,rfl⟩:=h.nR;exact dD rfl (by simp) h
 |dc=>obtain⟨_,_,_,_,rfl⟩:=h.uH;exact dD rfl (by simp) h
 |cF=>exact dD h.Nl.1 (by simp) h
 |own=>exact dD h.yp.1 (by simp) h
 |fn=>obtain⟨_,rfl,_⟩:=h.p6;exact dD rfl (by simp) h
 |ar=>cases h.mo;exact dD rfl (by simp) (.bA .ar)
 |bP b bD=>exact absurd rfl (aa b bD)
 |aW=>exact absurd rfl ai
end
def lK:List Field->List (TypeId×Nat)->Bool
 | [],[]=>true
 |f::r,x::dZ=>Nat.beq f.type x.1&&Nat.beq f.offset x.2&&f.name != "_" &&lK r dZ
 |_,_=>false
def uI:TypeDesc->Dp->Bool
 | .int k,.int dv=>pf k dv
 | .bool,.bool=>true
 | .string,.str=>true
 | .slice e,.dW cd=>Nat.beq e cd
 | .array n e,.arr DK cd=>Nat.beq n DK&&Nat.beq e cd
 | .struct F,.cr fs=>lK F.toList fs
 | .struct _,_| .array _ _,_=>false
 |_,.e2=>true
 |_,_=>false
def yq:TypeDesc->Bool
 | .struct _| .array _ _=>true
 |_=>false
def Nn:Value->aj->Bool
 | .int k n,.v (.int dv m)=>pf k dv&&n==m
 | .bool b,.v (.bool VQ)=>b==VQ
 | .string s,.v (.string s')=>s.data.toList==s'.data.toList
 | .pointer none,.v (.pointer none)=>true
 | .slice none 0 0,.ar=>true
 | .nilFunc,.v .nilFunc=>true
 |_,_=>false
def uJ:List Value->List aj->Bool
 | [],[]=>true
 |v::r,d::dZ=>Nn v d&&uJ r dZ
 |_,_=>false
def HG(P:Program)(t:TypeId)(j2:Aa):Bool:=
 match P.info? t,P.underlying t with
 |some i,some d=>Nat.beq i.size j2.size&&Nat.beq i.bytes j2.bytes&& (match i.zero with
  |some z=>uJ z.cells.toList j2.zero&&Nat.beq j2.zero.length j2.size
  |none=>false)&&uI d j2.k&& (yq d==j2.agg)&& (j2.agg||Nat.beq j2.size 1)&& (!j2.agg|| (!P.stoodInHeld t&& !P.eqGuardType P.depth t))
 |_,_=>false
def cS(P:Program):c4->Bool
 | []=>true
 |p::r=>HG P p.1 p.2&&cS P r
structure No(P:Program)(t:TypeId)(j2:Aa):Prop where
 VR:∃i,P.info? t=some i/\i.size=j2.size/\i.bytes=j2.bytes/\∃z,i.zero=some z/\uJ z.cells.toList j2.zero=true/\j2.zero.length=j2.size
 kind:∃d,P.underlying t=some d/\uI d j2.k=true/\yq d=j2.agg
 dD:j2.agg=false->j2.size=1
 held:j2.agg=true->P.stoodInHeld t=false/\P.eqGuardType P.depth t=false
theorem VS{P:Program}{t:TypeId}{j2:Aa}(h:HG P t j2=true):No P t j2:=by
 unfold HG at h;split at h
 ·rename_i i d ab aa;simp only[Bool.and_eq_true,Bool.or_eq_true,Bool.not_eq_true',beq_iff_eq]at h;obtain⟨⟨⟨⟨⟨⟨h1,ad⟩,aC⟩,bh⟩,bL⟩,fo⟩,c0⟩:=h;refine⟨⟨i,ab,Nat.eq_of_beq_eq_true h1,Nat.eq_of_beq_eq_true ad,?_⟩,⟨d,aa,bh,bL⟩,fun aZ=> ?_,fun aZ=> ?_⟩
  ·split at aC
   ·rename_i z bE;simp only[Bool.and_eq_true]at aC;exact⟨z,bE,aC.1,Nat.eq_of_beq_eq_true aC.2⟩
   ·exact absurd aC (by simp)
  ·rcases fo with fo|fo
   ·rw[aZ]at fo;exact absurd fo (by simp)
   ·exact Nat.eq_of_beq_eq_true fo
  ·rcases c0 with c0|c0
   ·rw[aZ]at c0;exact absurd c0 (by simp)
   ·exact c0
 ·exact absurd h (by simp)
theorem nr{P:Program}:∀ {ah:c4} {t:TypeId},cS P ah=true->((ay ah t).size≠0\/(ay ah t).k≠ .e2)->No P t (ay ah t)
 | [],t,_,h=>by rcases h with h|h<;>exact absurd rfl h
 |p::r,t,aO,h=>by
  simp only[cS,Bool.and_eq_true]at aO;simp only[ay]at h⊢;split
  ·rename_i ae;have:=Nat.eq_of_beq_eq_true ae;subst this;exact VS aO.1
  ·rename_i ae;simp only[ae]at h;exact nr aO.2 h
section
variable {P:Program} {ah:c4} {t:TypeId}
theorem oD(aO:cS P ah=true)(h: (ay ah t).size≠0):∃i,P.info? t=some i/\i.size=(ay ah t).size/\i.bytes=(ay ah t).bytes/\∃z,i.zero=some z/\uJ z.cells.toList (ay ah t).zero=true/\(ay ah t).zero.length=(ay ah t).size:=
 (nr aO (.inl h)).VR
theorem hM(aO:cS P ah=true)(h: (ay ah t).size≠0)(w:World): (sizeOf t).run P w= .ok (ay ah t).size w:=by
 obtain⟨i,ab,ag,_⟩:=oD aO h;simp[sizeOf,typeInfo,ab,ag]
theorem DL(aO:cS P ah=true)(h: (ay ah t).size≠0)(w:World): (isAgg t).run P w= .ok (ay ah t).agg w:=by
 obtain⟨d,aa,_,aZ⟩:=(nr aO (.inl h)).kind;rw[<-aZ];simp only[isAgg,Sem.run_bind,run_underlying aa,Result.andThen_ok];cases d<;>rfl
theorem wq(aO:cS P ah=true){k:IntKind}(h: (ay ah t).k= .int k):P.underlying t=some (.int k):=by
 obtain⟨d,aa,hk,_⟩:=(nr aO (.inr (by rw[h];simp))).kind;rw[h]at hk;cases d<;>simp[uI]at hk
 rw[Aw.1 hk]at aa;exact aa
theorem DM(aO:cS P ah=true)(h: (ay ah t).k= .bool):P.underlying t=some .bool:=by
 obtain⟨d,aa,hk,_⟩:=(nr aO (.inr (by rw[h];simp))).kind;rw[h]at hk;cases d<;>simp[uI]at hk
 exact aa
theorem rZ(aO:cS P ah=true)(h: (ay ah t).k= .str):P.underlying t=some .string:=by
 obtain⟨d,aa,hk,_⟩:=(nr aO (.inr (by rw[h];simp))).kind;rw[h]at hk;cases d<;>simp[uI]at hk
 exact aa
theorem jJ(aO:cS P ah=true){e:TypeId}(h: (ay ah t).k= .dW e):P.underlying t=some (.slice e):=by
 obtain⟨d,aa,hk,_⟩:=(nr aO (.inr (by rw[h];simp))).kind;rw[h]at hk;cases d<;>simp[uI]at hk
 rw[hk]at aa;exact aa
theorem DN(aO:cS P ah=true){n:Nat}{e:TypeId}(h: (ay ah t).k= .arr n e):P.underlying t=some (.array n e):=by
 obtain⟨d,aa,hk,_⟩:=(nr aO (.inr (by rw[h];simp))).kind;rw[h]at hk;cases d<;>simp[uI]at hk
 rw[hk.1,hk.2]at aa;exact aa
theorem Az(aO:cS P ah=true){fs:List (TypeId×Nat)}(h: (ay ah t).k= .cr fs):∃F:Array Field,P.underlying t=some (.struct F)/\lK F.toList fs=true/\(ay ah t).agg=true:=by
 obtain⟨d,aa,hk,aZ⟩:=(nr aO (.inr (by rw[h];simp))).kind;rw[h]at hk;cases d<;>simp[uI]at hk
 exact⟨_,aa,hk,aZ.symm⟩
end
theorem Np:∀ {F:List Field} {fs:List (TypeId×Nat)} {f:Nat},lK F fs=true->(fO fs f).1≠0\/f<fs.length->f<fs.length->∃x,F[f]?=some x/\x.type=(fO fs f).1/\x.offset=(fO fs f).2/\x.name≠ "_"
 | [],[],f,_,_,aI=>by simp at aI
 | [],_::_,f,h,_,_=>by simp[lK]at h
 |_::_,[],f,h,_,_=>by simp[lK]at h
 |x::r,y::dZ,0,h,_,_=>by
  simp only[lK,Bool.and_eq_true,bne_iff_ne]at h;exact⟨x,rfl,Nat.eq_of_beq_eq_true h.1.1.1,Nat.eq_of_beq_eq_true h.1.1.2,h.1.2⟩
 |x::r,y::dZ,f+1,h,_,aI=>by
  simp only[lK,Bool.and_eq_true,bne_iff_ne]at h;simp only[List.length_cons,Nat.add_lt_add_iff_right]at aI;simpa[fO]using Np (f:=f) h.2 (.inr aI) aI
theorem Nq:∀ {fs:List (TypeId×Nat)} {f:Nat},fs.length<=f->fO fs f=(0,0)
 | [],f,_=>by simp[fO]
 |_::r,0,h=>by simp at h
 |_::r,f+1,h=>by simp only[fO];exact Nq (by simpa using h)
theorem q6{A:Nat->Prop}{w:World}:∀ {vs:List Value} {ds:List aj},uJ vs ds=true->vs.length=ds.length/\(∀v∈vs,v.oneCell'=true)/\∀ (i:Nat) v d,vs[i]?=some v->ds[i]?=some d->bO A w v d
 | [],[],_=>⟨rfl,by simp,by simp⟩
 | [],_::_,h=>by simp[uJ]at h
 |_::_,[],h=>by simp[uJ]at h
 |v::r,d::dZ,h=>by
  simp only[uJ,Bool.and_eq_true]at h;obtain⟨af,bf,au⟩:=q6 (A:=A) (w:=w) h.2;have h1:v.oneCell'=true/\bO A w v d:=by
   have h:=h.1;unfold Nn at h;split at h
   ·simp only[Bool.and_eq_true,beq_iff_eq]at h;obtain⟨hk,rfl⟩:=h;obtain rfl:=Aw.1 hk;exact⟨rfl,.v rfl⟩
   ·simp only[beq_iff_eq]at h;subst h;exact⟨rfl,.v rfl⟩
   ·rename_i s s' _;have:s=s':=by
     obtain⟨⟨x⟩⟩:=s;obtain⟨⟨y⟩⟩:=s';simpa using h
    subst this;exact⟨rfl,.v rfl⟩
   ·exact⟨rfl,.v rfl⟩
   ·exact⟨rfl,.ar⟩
   ·exact⟨rfl,.v rfl⟩
   ·exact absurd h (by simp)
  refine⟨by simpa using af,by simpa using⟨h1.1,bf⟩,fun i v' bD ac aa=> ?_⟩;cases i with
  |zero=>simp at ac aa;subst ac aa;exact h1.2
  |succ i=>exact au i v' bD (by simpa using ac) (by simpa using aa)
open Go
def Holds(c:Option Prop):Prop:=∀p,c=some p->p
theorem Holds.HH:Holds none:=fun _ h=>by cases h
theorem Holds.h3{p:Prop}:Holds (some p)↔p:=⟨fun h=>h p rfl,fun h q e=>by cases e;exact h⟩
theorem Holds.Nr:Holds none↔True:=⟨fun _=>trivial,fun _=>Holds.HH⟩
theorem Holds.andO{c eA:Option Prop}:Holds (andO c eA)↔Holds c/\Holds eA:=by
 cases c<;>cases eA<;>simp only[Lift.andO,Holds.h3,Holds.Nr,true_and,and_true]
theorem nT{c:Option Prop}{p:Prop}:pY c p↔Holds c/\p:=by
 cases c<;>simp only[pY,Holds.h3,Holds.Nr,true_and]
theorem Ns{x:Operand}{a:Act}(h:pd x=true):a.eval x= .bool true:=by
 unfold pd at h;split at h
 ·subst h;rfl
 ·exact absurd h (by simp)
theorem Nt{x:Operand}{a:Act}(h:pe x=true):a.eval x= .bool false:=by
 unfold pe at h;split at h
 ·rename_i b;cases b
  ·rfl
  ·exact absurd h (by simp)
 ·exact absurd h (by simp)
section
variable {P:Program} {ah:c4} {A:Nat->Prop} {os:cu} {w:World} {a:Act} {o:Oper} {ρ:Operand->aj}
def VT(P:Program)(A:Nat->Prop)(os:cu)(w:World)(a:Act)(o:Oper)(c:Option Prop)(d:aj):Prop:=
 Holds c->∃x,(execOp a.eval o).run P w= .ok (.value x) w/\a6 A os w x d
def jo(P:Program)(A:Nat->Prop)(os:cu)(w:World)(a:Act)(o:Oper)(K:Option Prop->aj->Prop):Prop:=
 ∃c d,K c d/\VT P A os w a o c d
abbrev e3(A:Nat->Prop)(os:cu)(w:World)(a:Act)(ρ:Operand->aj)(x:Operand):Prop:=a6 A os w (a.eval x) (ρ x)
theorem e3.v{x:Operand}{y:Value}(h:e3 A os w a ρ x)(e:ρ x= .v y):a.eval x=y:=by
 unfold e3 at h;rw[e]at h;exact h.h2.1
theorem Nu{x:Operand}{K:Option Prop->aj->Prop}(aF:o.op= .move x\/o.op= .assign x)(an:e3 A os w a ρ x)(h:fl (ρ x) fun d=>K none d):jo P A os w a o K:=by
 refine⟨none,_,gv.1 h,fun _=>⟨_,?_,an⟩⟩;rcases aF with aF|aF<;>simp[execOp,aF]
theorem DO{b:Bool}{d:aj}{K:Option Prop->aj->Prop}(h:pZ b d K):∃c bD,K c bD/\∀x,Holds c->b=true->a6 A os w x d->a6 A os w x bD:=by
 cases d
 case bP g d=>
  refine⟨_,_,h,fun x al ae ao=> ?_⟩;exact ao.uG.1 (Holds.h3.1 al ae)
 all_goals exact⟨_,_,h,fun x _ _ ao=>ao⟩
theorem DP{c:Bool}{x y:aj}{sX vZ:Bool}{K:aj->Prop}(h:ox c x y sX vZ K):
  ∃p q r,x= .v (.bool p)/\y= .v (.bool q)/\K (.v (.bool r))/\((sX=true->c=true->p=true)->(vZ=true->c=false->q=false)->r=if c then p else q):=by
 unfold ox at h;split at h
 ·rename_i p q;split at h
  ·refine⟨p,q,_,rfl,rfl,h,fun h1 _=> ?_⟩;cases c
   ·simp
   ·simp[h1 rfl rfl]
  ·refine⟨p,q,_,rfl,rfl,h,fun _ ad=> ?_⟩;cases c
   ·simp[ad rfl rfl]
   ·simp
  ·exact⟨p,q,_,rfl,rfl,h,fun _ _=>by cases c<;>rfl⟩
 ·exact h.elim
theorem VU{c x y:Operand}{K:Option Prop->aj->Prop}(aF:o.op= .pick c x y)(al:e3 A os w a ρ c)(an:e3 A os w a ρ x)(bt:e3 A os w a ρ y)(h:v2 ρ c x y K):jo P A os w a o K:=by
 unfold v2 at h;split at h
 ·rename_i t HI;obtain⟨dX,x',h,cx⟩:=DO (A:=A) (os:=os) (w:=w) h;obtain⟨de,nU,h,cM⟩:=DO (A:=A) (os:=os) (w:=w) h;obtain⟨p,q,r,az,aG,h,ao⟩:=DP (gv.1 (gv.1 h));refine⟨_,_,h,fun bp=> ?_⟩;obtain⟨pn,q7⟩:=Holds.andO.1 bp;have h4:=al.v HI;have hN:t=true->a.eval x= .bool p:=fun bW=>by have:=cx _ pn bW an;rw[az]at this;exact this.h2.1
  have gd:t=false->a.eval y= .bool q:=fun bW=>by have:=cM _ q7 (by simp[bW]) bt;rw[aG]at this;exact this.h2.1
  have iZ:=ao (fun hk bW=>by
   have:=hN bW;rw[Ns hk]at this;injection this with this;exact this.symm) (fun hk bW=>by
   have:=gd bW;rw[Nt hk]at this;injection this with this;exact this.symm)
  refine⟨.bool r,?_,.bA (.v rfl)⟩;simp only[execOp,aF,h4,asBool,Sem.run_bind,Sem.run_pure,Result.andThen_ok];rw[iZ];cases t
  ·simp[gd rfl]
  ·simp[hN rfl]
 ·exact h.elim
theorem DQ{os:cu}{i:Nat}(h:hJ (bB (os.map (·.2)) i)=true):∃x e av es,os[i]?=some (x,.row e av es):=by
 rw[jn,List.getElem?_map]at h;cases ab:os[i]? with
 |none=>rw[ab]at h;simp[hJ]at h
 |some p=>
  obtain⟨x,o⟩:=p;rw[ab]at h;cases o<;>simp[hJ]at h
  exact⟨_,_,_,_,rfl⟩
theorem VV{os:cu}{i:Nat}(h:ow (bB (os.map (·.2)) i)=true):∃x t cs,os[i]?=some (x,.cells t cs):=by
 rw[jn,List.getElem?_map]at h;cases ab:os[i]? with
 |none=>rw[ab]at h;simp[ow]at h
 |some p=>
  obtain⟨x,o⟩:=p;rw[ab]at h;cases o<;>simp[ow]at h
  exact⟨_,_,_,rfl⟩
theorem VW{x:Operand}{K:Option Prop->aj->Prop}(aF:o.op= .nilCheck x)(an:e3 A os w a ρ x)(h:sY (os.map (·.2)) (ρ x) K):jo P A os w a o K:=by
 unfold e3 at an;unfold sY at h;split at h
 ·rename_i e;rw[e]at an;refine⟨_,_,h,fun _=>⟨a.eval x,?_,an⟩⟩;obtain⟨g,t,cs,_,ex⟩:=an.nR;simp[execOp,aF,ex]
 ·rename_i e;rw[e]at an;refine⟨_,_,h,fun _=>⟨a.eval x,?_,an⟩⟩;obtain⟨g,t,cs,_,ex⟩:=an.uH;simp[execOp,aF,ex]
 ·rename_i e;rw[e]at an;split at h
  ·rename_i ao;refine⟨_,_,h,fun _=>⟨a.eval x,?_,an⟩⟩;obtain⟨_,_,_,_,ab⟩:=DQ ao;obtain⟨g,n,c,_,ex⟩:=an.Ay ab;simp[execOp,aF,ex]
  ·exact h.elim
 ·rename_i e;rw[e]at an;refine⟨_,_,h,fun _=>⟨a.eval x,?_,an⟩⟩;have ab:=an.rX;generalize bt:a.eval x=y at *;cases ab;simp[execOp,aF,bt]
 ·rename_i e;rw[e]at an;refine⟨_,_,h,fun _=>⟨a.eval x,?_,an⟩⟩;obtain⟨vs,bt,_⟩:=an.p6;simp[execOp,aF,bt]
 ·exact h.elim
theorem VX{op:UnOp}{t:TypeId}{x:Operand}{K:Option Prop->aj->Prop}(aF:o.op= .unOp op t x)(an:e3 A os w a ρ x)(h:x1 op (ρ x) K):jo P A os w a o K:=by
 unfold x1 at h;split at h
 ·rename_i e;exact⟨_,_,h,fun _=>⟨_,by simp[execOp,aF,an.v e,Op.unary],.bA (.v rfl)⟩⟩
 ·rename_i e;exact⟨_,_,h,fun _=>⟨_,by simp[execOp,aF,an.v e,Op.unary,Op.intArith],.bA (.v rfl)⟩⟩
 ·rename_i e;exact⟨_,_,h,fun _=>⟨_,by simp only[execOp,aF,an.v e,Op.unary,intBits_xor,Sem.run_bind,Sem.run_pure,Result.andThen_ok],.bA (.v rfl)⟩⟩
 ·exact h.elim
theorem Nv(x y:ByteArray): (x.toList==y.toList)=decide (x=y):=by
 rw[ByteArray.toList_eq,ByteArray.toList_eq,Bool.eq_iff_iff];obtain⟨⟨x⟩⟩:=x;obtain⟨⟨y⟩⟩:=y;simp
theorem VY{op:BinOp}{t u:TypeId}{x y:Operand}{k:IntKind}{p q:Int}{K:Option Prop->aj->Prop}(aF:o.op= .binOp op t x y u)(an:a.eval x= .int k p)(bt:a.eval y= .int k q)(h:Ad op k p q K):jo P A os w a o K:=by
 cases op<;>simp only[Ad]at h<;>first
  |exact h.elim
  | (refine⟨_,_,h,fun al=>⟨_,?_,.bA (.v rfl)⟩⟩
     simp only[execOp,aF,an,bt,eqGuard_at_int,binOp,ne_eq,not_true_eq_false,if_false,Op.intArith,Op.intDiv,Op.intCmp,intBits_and,intBits_or,intBits_xor,intBits_andNot,Sem.run_bind,Sem.run_pure,Result.andThen_ok];try(rw[if_neg (Holds.h3.1 al)])
     try simp only[Sem.run_pure,Result.andThen_ok]
     try rfl)
theorem VZ{op:BinOp}{t u:TypeId}{x y:Operand}{k dv:IntKind}{p q:Int}{K:Option Prop->aj->Prop}(aF:o.op= .binOp op t x y u)(an:a.eval x= .int k p)(bt:a.eval y= .int dv q)(h:Ae op k p q K):jo P A os w a o K:=by
 cases op<;>simp only[Ae]at h<;>first
  |exact h.elim
  | (refine⟨_,_,h,fun al=>⟨_,?_,.bA (.v rfl)⟩⟩
     have bF:¬q<0:=by have:=Holds.h3.1 al;omega
     simp only[execOp,aF,an,bt,eqGuard_at_int,binOp,Op.shift,if_neg bF,Sem.run_bind,Sem.run_pure,Result.andThen_ok])
theorem V0{op:BinOp}{t u:TypeId}{x y:Operand}{p q:ByteArray}{K:Option Prop->aj->Prop}(aF:o.op= .binOp op t x y u)(an:a.eval x= .string p)(bt:a.eval y= .string q)(h:Dq op p q K):jo P A os w a o K:=by
 cases op<;>simp only[Dq]at h<;>first
  |exact h.elim
  | (refine⟨_,_,h,fun al=>⟨_,?_,.bA (.v rfl)⟩⟩
     simp only[execOp,aF,an,bt,eqGuard_at_string,binOp,Op.stringOp,Nv,Sem.run_bind,Sem.run_pure,Result.andThen_ok])
theorem V1(aO:cS P ah=true){op:BinOp}{t u:TypeId}{x y:Operand}{p q:Bool}{K:Option Prop->aj->Prop}(aF:o.op= .binOp op t x y u)(an:a.eval x= .bool p)(bt:a.eval y= .bool q)(bW: (ay ah t).k= .bool)(h:Af op p q K):jo P A os w a o K:=by
 have hu:=DM aO bW;cases op<;>simp only[Af]at h<;>first
  |exact h.elim
  | (refine⟨_,_,h,fun al=>⟨_,?_,.bA (.v rfl)⟩⟩
     simp only[execOp,aF,an,bt,eqGuard_at_bool,run_eql_bool w t p q hu,run_neq_bool w t p q hu,Sem.run_bind,Sem.run_pure,Result.andThen_ok])
end
open Go
section
variable {P:Program} {ah:c4} {A:Nat->Prop} {os:cu} {w:World} {a:Act} {o:Oper} {ρ:Operand->aj}
def HJ:nm->Value->Prop
 | .int k,.int dv _=>k=dv
 | .bool,.bool _=>True
 | .str,.string _=>True
 |_,_=>False
def kinds:List nm->List Value->Prop
 | [],[]=>True
 |k::cA,v::vs=>HJ k v/\kinds cA vs
 |_,_=>False
def AA:Value->Value->Bool
 | .int _ a,.int _ b=>decide (a=b)
 | .bool a,.bool b=>a==b
 | .string a,.string b=>decide (a=b)
 |_,_=>false
def nV:List Value->List Value->Bool
 |v::vs,u::us=>AA v u&&nV vs us
 |_,_=>true
theorem AB:∀ {cA:List nm} {vs:List Value},kinds cA vs->vs.length=cA.length
 | [],[],_=>rfl
 | [],_::_,h=>h.elim
 |_::_,[],h=>h.elim
 |_::cA,_::vs,h=>by simp[AB h.2]
theorem HK:∀ {cA s6:List nm} {vs:List Value},kinds (cA++s6) vs->kinds cA (vs.take cA.length)/\kinds s6 (vs.drop cA.length)
 | [],s6,vs,h=>⟨by simp[kinds],by simpa using h⟩
 |k::cA,s6,[],h=>h.elim
 |k::cA,s6,v::vs,h=>by
  obtain⟨h1,ad⟩:=HK (cA:=cA) h.2;exact⟨⟨h.1,by simpa using h1⟩,by simpa using ad⟩
theorem Nw:∀ {n:Nat} {vs us:List Value},vs.length=us.length->nV vs us=(nV (vs.take n) (us.take n)&&nV (vs.drop n) (us.drop n))
 |0,vs,us,_=>by simp[nV]
 |n+1,[],us,h=>by cases us<;>simp[nV]at h⊢
 |n+1,v::vs,[],h=>by simp at h
 |n+1,v::vs,u::us,h=>by
  simp only[List.take_succ_cons,List.drop_succ_cons,nV,Bool.and_assoc];rw[Nw (n:=n) (by simpa using h)]
theorem V2{k:nm}{x y:aj}{K:Bool->Prop}(h:Ac k x y K):∃v u,x= .v v/\y= .v u/\HJ k v/\HJ k u/\K (AA v u):=by
 unfold Ac at h;split at h
 ·split at h
  ·rename_i hk;simp only[Bool.and_eq_true]at hk;exact⟨_,_,rfl,rfl,Aw.1 hk.1,Aw.1 hk.2,h⟩
  ·exact h.elim
 ·exact⟨_,_,rfl,rfl,trivial,trivial,h⟩
 ·exact⟨_,_,rfl,rfl,trivial,trivial,h⟩
 ·exact h.elim
theorem DR:∀ {cA:List nm} {xs ys:List aj} {K:Bool->Prop},nL cA xs ys K->∃vs us,xs=vs.map .v/\ys=us.map .v/\kinds cA vs/\kinds cA us/\K (nV vs us)
 | [],[],[],K,h=>⟨[],[],rfl,rfl,trivial,trivial,h⟩
 |k::cA,x::xs,y::ys,K,h=>by
  obtain⟨v,u,rfl,rfl,cx,cM,h⟩:=V2 h;obtain⟨vs,us,rfl,rfl,iY,AC,ak⟩:=DR h;exact⟨v::vs,u::us,rfl,rfl,⟨cx,iY⟩,⟨cM,AC⟩,ak⟩
 | [],[],_::_,K,h=>by simp[nL]at h
 | [],_::_,[],K,h=>by simp[nL]at h
 | [],_::_,_::_,K,h=>by simp[nL]at h
 |_::_,[],[],K,h=>by simp[nL]at h
 |_::_,[],_::_,K,h=>by simp[nL]at h
 |_::_,_::_,[],K,h=>by simp[nL]at h
def r0(agg:Bool)(vs:List Value):Value:=
 match agg with
 |true=>.agg vs.toArray
 |false=>vs.headD undef
theorem DS(aO:cS P ah=true){t:TypeId}(ag: (ay ah t).size≠0)(vs:List Value)(off:Nat)(h:off+(ay ah t).size<=vs.length)(h1: (ay ah t).agg=false->(ay ah t).size=1):
  (part t vs.toArray off).run P w= .ok (r0 (ay ah t).agg ((vs.drop off).take (ay ah t).size)) w:=by
 unfold part;simp only[Sem.run_bind,DL aO ag,Result.andThen_ok];cases aZ: (ay ah t).agg
 ·have h1:=h1 aZ;rw[h1]at h⊢;have ax:vs.toArray[off]?=some (vs[off]'(by omega)):=by simp[List.getElem?_eq_getElem (show off<vs.length by omega)]
  rw[if_neg (by simp)];simp only[ax,Sem.run_pure,r0];rw[List.drop_eq_getElem_cons (by omega)];rfl
 ·rw[if_pos rfl];simp only[Sem.run_bind,hM aO ag,Result.andThen_ok,Sem.run_pure,r0,Sem.run_map];congr 2;apply Array.ext';simp
def Nx(P:Program)(ah:c4)(t:TypeId)(cA:List nm)(d:Nat):Prop:=
 (ay ah t).size=cA.length/\(ay ah t).size≠0/\((ay ah t).agg=false->(ay ah t).size=1)/\
  ∀ (vs us:List Value) (w:World),kinds cA vs->kinds cA us->(Op.equalIn d t (r0 (ay ah t).agg vs) (r0 (ay ah t).agg us)).run P w= .ok (nV vs us) w
theorem Ny(aO:cS P ah=true){g:TypeId->Option (List nm)}{d:Nat}(ax:∀t cA,g t=some cA->Nx P ah t cA d):
  ∀ (F:List Field) (fs:List (TypeId×Nat)) (o:Nat) (cA:List nm) (vs us:List Value) (w:World),lK F fs=true->Ab g fs o=some cA->kinds cA (vs.drop o)->kinds cA (us.drop o)->vs.length=us.length->
   (Op.eqFields d vs.toArray us.toArray F).run P w= .ok (nV (vs.drop o) (us.drop o)) w
 | [],[],o,cA,vs,us,w,dA,h,cx,cM,af=>by
  simp only[Ab,Option.some.injEq]at h;subst h;cases ac:vs.drop o with
  |cons x r=>rw[ac]at cx;exact cx.elim
  |nil=>simp[Op.eqFields,nV]
 | [],_::_,o,cA,vs,us,w,dA,h,cx,cM,af=>by simp[lK]at dA
 |_::_,[],o,cA,vs,us,w,dA,h,cx,cM,af=>by simp[lK]at dA
 |f::F,x::fs,o,cA,vs,us,w,dA,h,cx,cM,af=>by
  simp only[lK,Bool.and_eq_true,bne_iff_ne]at dA;obtain⟨⟨⟨bW,aF⟩,aS⟩,dA⟩:=dA;have bW:=Nat.eq_of_beq_eq_true bW;have aF:=Nat.eq_of_beq_eq_true aF;unfold Ab at h;split at h
  ·exact absurd h (by simp)
  ·rename_i ae;have ae:=Nat.eq_of_beq_eq_true ae;split at h
   ·exact absurd h (by simp)
   ·rename_i DT fT;split at h
    ·exact absurd h (by simp)
    ·rename_i l fh;simp only[Option.some.injEq]at h;subst h;obtain⟨ag,yr,uK,heq⟩:=ax _ _ fT;obtain⟨dl,a2⟩:=HK cx;obtain⟨cC,cH⟩:=HK cM;have HL:=AB cx;have V3:=AB cM;simp only[List.length_drop,List.length_append]at HL V3;have h5:f.offset=o:=aF.trans ae;have hP:=DS (w:=w) aO yr vs o (by omega) uK;have ir:=DS (w:=w) aO yr us o (by omega) uK;rw[ag]at hP ir;have az:=heq _ _ w dl cC;simp only[Op.eqFields,if_pos aS,Sem.run_bind,bW,h5,hP,ir,Result.andThen_ok,az];rw[Nw (n:=DT.length) (vs:=vs.drop o) (us:=us.drop o) (by simp[af])];have aN:=Ny aO ax F fs (o+DT.length) l vs us w dA fh (by simpa[Nat.add_comm]using a2) (by simpa[Nat.add_comm]using cH) af;cases ao:nV ((vs.drop o).take DT.length) ((us.drop o).take DT.length)
     ·simp
     ·simp only[Bool.not_true,Bool.false_eq_true,if_false,aN,Bool.true_and,List.drop_drop]
theorem Nz(aO:cS P ah=true):∀ (n:Nat) (t:TypeId) (cA:List nm),flatK ah n t=some cA->∀d,n<=d->Nx P ah t cA d
 |0,t,cA,h,d,aa=>by simp[flatK]at h
 |n+1,t,cA,h,0,aa=>by omega
 |n+1,t,cA,h,d+1,aa=>by
  unfold flatK at h;split at h
  ·rename_i k hk;have he:=nr aO (t:=t) (.inr (by rw[hk];simp));obtain⟨mO,c2,yt,aZ⟩:=he.kind;have hu:=wq aO hk;rw[hu]at c2;cases c2;have h1:=he.dD aZ.symm;cases h;refine⟨by simp[h1],by simp[h1],fun _=>h1,fun vs us w cx cM=> ?_⟩;rw[<-aZ]
   match vs,us,cx,cM with
   | [.int q p],[.int V4 AD],cx,cM=>
    have az:k=q:=cx.1;have aG:k=V4:=cM.1;subst az;subst aG;simp[r0,yq,run_equalIn_int w d t k k p AD hu,nV,AA,Bool.beq_eq_decide_eq]
  ·rename_i hk;have he:=nr aO (t:=t) (.inr (by rw[hk];simp));obtain⟨mO,c2,yt,aZ⟩:=he.kind;have hu:=DM aO hk;rw[hu]at c2;cases c2;have h1:=he.dD aZ.symm;cases h;refine⟨by simp[h1],by simp[h1],fun _=>h1,fun vs us w cx cM=> ?_⟩;rw[<-aZ]
   match vs,us,cx,cM with
   | [.bool p],[.bool AD],cx,cM=>simp[r0,yq,run_equalIn_bool w d t p AD hu,nV,AA]
  ·rename_i hk;have he:=nr aO (t:=t) (.inr (by rw[hk];simp));obtain⟨mO,c2,yt,aZ⟩:=he.kind;have hu:=rZ aO hk;rw[hu]at c2;cases c2;have h1:=he.dD aZ.symm;cases h;refine⟨by simp[h1],by simp[h1],fun _=>h1,fun vs us w cx cM=> ?_⟩;rw[<-aZ]
   match vs,us,cx,cM with
   | [.string p],[.string AD],cx,cM=>simp[r0,yq,run_equalIn_string w d t p AD hu,nV,AA,Nv]
  ·rename_i fs hk;split at h
   ·rename_i ajF aI;split at h
    ·rename_i m bE aT;cases h;have bE:=Nat.eq_of_beq_eq_true bE;obtain⟨F,hu,dA,uL⟩:=Az aO hk;have he:=nr aO (t:=t) (.inr (by rw[hk];simp));refine⟨bE.symm,by omega,fun aZ=>absurd (aZ.symm.trans uL) (by simp),fun vs us w cx cM=> ?_⟩;have NA:P.fieldsOf t=F:=by simp[Program.fieldsOf,hu]
     rw[uL];have:=Ny aO (g:=flatK ah n) (d:=d) (fun t cA bp=>Nz aO n t cA bp d (by omega)) F.toList fs 0 cA vs us w dA aI (by simpa using cx) (by simpa using cM) (by rw[AB cx,AB cM]);simp only[r0];rw[run_equalIn_struct w d t _ _ (by rw[NA];exact hu) (he.held uL).1,NA,this];simp
    ·exact absurd h (by simp)
   ·exact absurd h (by simp)
  ·exact absurd h (by simp)
theorem V5(aO:cS P ah=true){op:BinOp}{t u:TypeId}{x y:Operand}{xs ys:List aj}{K:Option Prop->aj->Prop}(aF:o.op= .binOp op t x y u)(an:e3 A os w a ρ x)(bt:e3 A os w a ρ y)(ex:ρ x= .agg xs)(HM:ρ y= .agg ys)(h:xZ ah t op xs ys K):jo P A os w a o K:=by
 unfold xZ at h;unfold e3 at an bt;rw[ex]at an;rw[HM]at bt;obtain⟨vs,V6,af,_,au⟩:=an.s9;obtain⟨us,V7,fG,_,ta⟩:=bt.s9;have wo:∀ {da:List Value} {ds:List aj} {lL:List Value},da.length=ds.length->(∀ (i:Nat) v d,da[i]?=some v->ds[i]?=some d->a6 A os w v d)->ds=lL.map .v->da=lL:=by
  intro da ds lL h1 ad aC;subst aC;apply List.ext_getElem?;intro i;by_cases ab:i<da.length
  ·have cV:i<lL.length:=by simpa[h1]using ab
   have:=(ad i da[i] (.v lL[i]) (List.getElem?_eq_getElem ab) (by simp[cV])).h2.1;simp[ab,cV,this]
  ·have cV:¬i<lL.length:=by simpa[h1]using ab
   simp[List.getElem?_eq_none (Nat.le_of_not_lt ab),List.getElem?_eq_none (Nat.le_of_not_lt cV)]
 split at h
 ·rename_i cA q8 fx;obtain⟨h1,ad,aC,bh⟩:=Nz aO 5 t cA q8 Op.maxDepth (by decide);have key:∀ {ns:Bool->Prop},nL cA xs ys ns->∃r,ns r/\(eqGuard op t x y (.agg vs.toArray) (.agg us.toArray)).run P w= .ok () w/\(Op.equal t (.agg vs.toArray) (.agg us.toArray)).run P w= .ok r w:=by
   intro ns h;obtain⟨lL,ajG,az,aG,cx,cM,ak⟩:=DR h;obtain rfl:=wo af au az;obtain rfl:=wo fG ta aG;have he:=nr aO (t:=t) (.inl ad);refine⟨_,ak,?_,?_⟩
   ·cases op<;>first|rfl|simp[eqGuard,(he.held fx).2]
   ·have:=bh _ _ w cx cM;rw[fx]at this;exact this
  cases op<;>simp only at h<;>first
   |exact h.elim
   | (obtain⟨r,ak,ax,he⟩:=key h
      refine⟨_,_,ak,fun _=>⟨_,?_,.bA (.v rfl)⟩⟩;simp only[execOp,aF,V6,V7,Sem.run_bind,ax,Result.andThen_ok,binOp,he,Sem.run_pure])
 ·exact h.elim
end
open Go
theorem DU{α:Type}{Q:Nat->α->Prop}:∀ (n:Nat),(∀j,j<n->∃v,Q j v)->∃vs:List α,vs.length=n/\∀ (j:Nat) v,vs[j]?=some v->Q j v
 |0,_=>⟨[],rfl,by simp⟩
 |n+1,h=>by
  obtain⟨vs,af,bF⟩:=DU n (fun j ai=>h j (by omega));obtain⟨v,ac⟩:=h n (by omega);refine⟨vs++ [v],by simp[af],fun j u hu=> ?_⟩;by_cases ai:j<n
  ·rw[List.getElem?_append_left (by omega)]at hu;exact bF j u hu
  ·have:j<n+1:=by
    have:=(List.getElem?_eq_some_iff.1 hu).1;simpa[af]using this
   obtain rfl:j=n:=by omega
   rw[List.getElem?_append_right (by omega)]at hu;simp[af]at hu;subst hu;exact ac
theorem iM{os:cu}{i:Nat}{o:aU}(h:bB (os.map (·.2)) i=o)(aa:o≠ .bd):∃x,os[i]?=some (x,o):=by
 rw[jn,List.getElem?_map]at h;cases ab:os[i]? with
 |none=>rw[ab]at h;exact absurd h.symm aa
 |some p=>rw[ab]at h;obtain⟨x,aK⟩:=p;simp at h;subst h;exact⟨x,rfl⟩
section
variable {P:Program} {ah:c4} {A:Nat->Prop} {os:cu} {B:dP} {w:World} {a:Act} {o:Oper} {ρ:Operand->aj}
theorem wr(aO:cS P ah=true){t:TypeId}(ag: (ay ah t).size≠0){b3:Addr}{ds:List aj}{K:aj->Prop}
  (al:∀ (j:Nat) d,ds[j]?=some d->∃v,w.cell? (b3.add j)=some v/\v.oneCell'=true/\a6 A os w v d) (h:kg (ay ah t).agg (ay ah t).size ds K):
  ∃d x,K d/\(loadVar t b3).run P w= .ok x w/\a6 A os w x d:=by
 unfold kg at h;split at h
 ·rename_i fx;obtain⟨af,h⟩:=Av h;obtain⟨vs,gT,ac⟩:=DU (Q:=fun j v=>w.cell? (b3.add j)=some v/\v.oneCell'=true/\∃d,ds[j]?=some d/\a6 A os w v d) (ay ah t).size (fun j ai=>by
   obtain⟨v,h1,ad,aC⟩:=al j ds[j] (List.getElem?_eq_getElem (by omega));exact⟨v,h1,ad,_,List.getElem?_eq_getElem (by omega),aC⟩)
  have cW:=run_loadCells_list (P:=P) w b3 vs (fun j v ai=>(ac j v ai).1);refine⟨_,.agg vs.toArray,h,?_,.agg (by simp[gT];omega) (fun v aT=> ?_) (fun i v d ab aa=> ?_)⟩
  ·simp only[loadVar,Sem.run_bind,DL aO ag,Result.andThen_ok,fx,if_true,hM aO ag,<-gT,cW,Sem.run_pure,Sem.run_map]
  ·obtain⟨j,ai,rfl⟩:=List.getElem_of_mem aT;exact(ac j _ (List.getElem?_eq_getElem ai)).2.1
  ·obtain⟨_,_,bD,p7,ao⟩:=ac i v ab;have ap:i<(ay ah t).size:=by
    have:=(List.getElem?_eq_some_iff.1 ab).1;omega
   rw[List.getElem?_take,if_pos ap,p7]at aa;cases aa;exact ao
 ·rename_i fx;split at h
  ·rename_i d r;have h:=gv.1 h;obtain⟨v,h1,ad,aC⟩:=al 0 d rfl;refine⟨_,v,h,?_,aC⟩;have aH:b3.add 0=b3:=by simp[Addr.add]
   rw[aH]at h1;simp only[loadVar,Sem.run_bind,DL aO ag,Result.andThen_ok,fx,Bool.false_eq_true,if_false,run_load,h1]
  ·exact h.elim
theorem NB{x:Value}{cs:List aj}(h:a6 A os w x (.cD cs)):∃b3,x= .pointer (some b3)/\¬A b3.block/\b3.block<w.heap.size/\
  ∀ (j:Nat) d,cs[j]?=some d->∃v,w.cell? (b3.add j)=some v/\v.oneCell'=true/\bO A w v d:=by
 have h:=h.rX;cases h with
 |cD xs aw ae bf cP an=>exact⟨_,rfl,aw,ae,fun j d aa=>⟨_,cP j d aa,bf j,an j d aa⟩⟩
theorem AE{b3:Addr}{cs:List aj}(aw:¬A b3.block)(ae:b3.block<w.heap.size)(al:∀ (j:Nat) d,cs[j]?=some d->∃v,w.cell? (b3.add j)=some v/\v.oneCell'=true/\bO A w v d):bO A w (.pointer (some b3)) (.cD cs):=by
 have:∀j,∃v:Value,v.oneCell'=true/\∀d,cs[j]?=some d->w.cell? (b3.add j)=some v/\bO A w v d:=by
  intro j;cases ai:cs[j]? with
  |none=>exact⟨.nilFunc,rfl,by simp⟩
  |some d=>
   obtain⟨v,h1,ad,aC⟩:=al j d ai;exact⟨v,ad,fun bD p7=>by cases p7;exact⟨h1,aC⟩⟩
 exact .cD (fun j=>(this j).choose) aw ae (fun j=>(this j).choose_spec.1) (fun j d aa=>((this j).choose_spec.2 d aa).1) (fun j d aa=>((this j).choose_spec.2 d aa).2)
theorem tb(hO:uw A os B w){i g:Nat}{t:TypeId}{cs:List aj}(h:os[i]?=some (.pointer (some ⟨g,0,none⟩),.cells t cs)):
  ∃arr,w.heap[g]?=some (.cells arr t (0,0))/\arr.size=cs.length/\B.mine g/\(∀v∈arr.toList,v.oneCell'=true)/\(∀ (j:Nat) v d,arr[j]?=some v->cs[j]?=some d->a6 A os w v d)/\
   ∀ (j:Nat) d,cs[j]?=some d->∃v,w.cell? ⟨g,j,none⟩=some v/\v.oneCell'=true/\a6 A os w v d:=by
 obtain⟨c5,arr,e,cR,bp,ag,bf,ao⟩:=hO _ _ _ h;cases e;refine⟨arr,bp,ag,cR,bf,ao,fun j d aa=> ?_⟩;have ai:j<arr.size:=by have:=(List.getElem?_eq_some_iff.1 aa).1;omega
 refine⟨arr[j],?_,bf _ (by simp),ao j _ d (by simp[ai]) aa⟩;rw[cell_of_row w g j arr t (0,0) bp];simp[ai]
theorem V8(aO:cS P ah=true)(hO:uw A os B w){t:TypeId}{x:Operand}{K:Option Prop->aj->Prop}(aF:o.op= .load t x)(an:e3 A os w a ρ x)(h:qW ah (os.map (·.2)) t (ρ x) K):jo P A os w a o K:=by
 unfold e3 at an;unfold qW at h;have fin:∀ {b3:Addr} {y:Value} {c:Option Prop} {d:aj},a.eval x= .pointer (some b3)->K c d->(Holds c->(loadVar t b3).run P w= .ok y w/\a6 A os w y d)->jo P A os w a o K:=by
  intro b3 y c d he ak bp;refine⟨_,_,ak,fun al=>⟨y,?_,(bp al).2⟩⟩;simp only[execOp,aF,he,Instr.loadAt,Instr.sureAddr,Sem.run_bind,Sem.run_pure,Result.andThen_ok,(bp al).1]
 split at h
 ·exact h.elim
 ·rename_i yr;have ag: (ay ah t).size≠0:=yr;split at h
  ·rename_i cs e;rw[e]at an;obtain⟨b3,he,_,_,al⟩:=NB an;obtain⟨d,y,ak,h1,ad⟩:=wr (os:=os) aO ag (fun j d aa=>by obtain⟨v,h1,ad,aC⟩:=al j d aa;exact⟨v,h1,ad,.bA aC⟩) h;exact fin he ak (fun _=>⟨h1,ad⟩)
  ·rename_i i off e;rw[e]at an;obtain⟨g,c1,cY,ab,he⟩:=an.nR;split at h
   ·rename_i t2 cs af;obtain⟨x',cV⟩:=iM af (by simp);rw[ab]at cV;cases cV;obtain⟨_,_,_,_,_,_,cP⟩:=tb hO ab;obtain⟨_,h⟩:=oC h;obtain⟨d,y,ak,h1,ad⟩:=wr aO ag (b3:=⟨g,off,none⟩) (fun j d aa=>by rw[List.getElem?_drop]at aa;rw[Addr.mN];exact cP _ d aa) h;exact fin he ak (fun _=>⟨h1,ad⟩)
   ·exact h.elim
  ·rename_i i off e;rw[e]at an;obtain⟨g,c1,cY,ab,he⟩:=an.uH;split at h
   ·rename_i t2 cs af;obtain⟨x',cV⟩:=iM af (by simp);rw[ab]at cV;cases cV;obtain⟨_,_,_,_,_,_,cP⟩:=tb hO ab;split at h
    ·rename_i fx;obtain⟨ds,ak⟩:=h;by_cases al: (cY.drop off).take (ay ah t).size=ds/\ds.length=(ay ah t).size
     ·obtain⟨d,y,e,h1,ad⟩:=wr aO ag (b3:=⟨g,off,none⟩) (K:=fun d=>d= .agg ds) (fun j d aa=>by rw[List.getElem?_drop]at aa;rw[Addr.mN];exact cP _ d aa) (ds:=cY.drop off) (by
       unfold kg;rw[fx];have:∀ (n:Nat) (l:List aj) (Q:List aj->Prop),n<=l.length->Q (l.take n)->sW n l Q:=by
        intro n;induction n with
        |zero=>intro l Q _ bF;simpa[sW]using bF
        |succ n aN=>
         intro l Q aS bF;cases l with
         |nil=>simp at aS
         |cons d r=>exact gv.2 (aN r _ (by simpa using aS) (by simpa using bF))
       refine this _ _ _ ?_ (by rw[al.1]);have:=al.2;rw[<-al.1,List.length_take]at this;omega)
      subst e;exact fin he ak (fun _=>⟨h1,ad⟩)
     ·exact⟨_,_,ak,fun bp=>absurd (Holds.h3.1 bp) al⟩
    ·rename_i fx;obtain⟨d,h⟩:=h;have ak:=gv.1 h;by_cases al:cY[off]?=some d
     ·obtain⟨v,h1,ad,aC⟩:=cP off d al;refine fin he ak (fun _=>⟨?_,aC⟩);simp only[loadVar,Sem.run_bind,DL aO ag,Result.andThen_ok,fx,Bool.false_eq_true,if_false,run_load,h1]
     ·exact⟨_,_,ak,fun bp=>absurd (Holds.h3.1 bp) al⟩
   ·exact h.elim
  ·rename_i i k off e;rw[e]at an;split at h
   ·rename_i cd av er af;obtain⟨x',ab⟩:=iM af (by simp);obtain⟨g,n,c,rfl,he⟩:=an.Ay ab;obtain⟨ez,h⟩:=h;obtain⟨_,h⟩:=oC h;obtain⟨gI,xs,bJ,bZ,fp,bf,dR⟩:=hO _ _ _ ab;have wt:∃d,K (some (er[k]?=some ez)) d/\kg (ay ah t).agg (ay ah t).size (ez.drop off) (fun bD=>bD=d/\K (some (er[k]?=some ez)) d):=by
     unfold kg at h⊢;split at h
     ·obtain⟨af,bp⟩:=Av h;refine⟨_,bp,?_⟩;have:∀ (n:Nat) (l:List aj) (Q:List aj->Prop),n<=l.length->Q (l.take n)->sW n l Q:=by
       intro n;induction n with
       |zero=>intro l Q _ bF;simpa[sW]using bF
       |succ n aN=>
        intro l Q aS bF;cases l with
        |nil=>simp at aS
        |cons d r=>exact gv.2 (aN r _ (by simpa using aS) (by simpa using bF))
      exact this _ _ _ af ⟨rfl,bp⟩
     ·split at h
      ·have bp:=gv.1 h;exact⟨_,bp,gv.2 ⟨rfl,bp⟩⟩
      ·exact h.elim
    obtain⟨d,ak,h⟩:=wt;by_cases al:er[k]?=some ez
    ·have cP:∀ (j:Nat) d,(ez.drop off)[j]?=some d->∃v,w.cell? (Addr.add ⟨g,k*av+off,none⟩ j)=some v/\v.oneCell'=true/\a6 A os w v d:=by
      intro j d aa;rw[List.getElem?_drop]at aa;obtain⟨v,ac,ab⟩:=dR k (off+j) ez d al aa;refine⟨v,?_,bf v (List.mem_of_getElem? ac),.bA ab⟩;have:=bJ.cells (g:=g) rfl _ _ ac;rw[Addr.mN]at this⊢;rw[<-this];congr 2;omega
     obtain⟨bD,y,⟨rfl,_⟩,h1,ad⟩:=wr aO ag cP h;exact fin he ak (fun _=>⟨h1,ad⟩)
    ·exact⟨_,_,ak,fun bp=>absurd (Holds.h3.1 bp) al⟩
   ·exact h.elim
  ·exact h.elim
end
open Go
section
variable {P:Program} {ah:c4} {A:Nat->Prop} {os:cu} {B:dP} {w:World} {a:Act} {o:Oper} {ρ:Operand->aj}
theorem V9{x:Value}{av:Nat}{es:List (List aj)}{f:Bool}{k:Nat}{ez:List aj}(h:bO A w x (.aq av es f))(hk:es[k]?=some ez):
  ∃b3 n c,x= .slice (some b3) n c/\n=es.length/\k<n/\ez.length=av/\¬A b3.block/\b3.block<w.heap.size/\∀ (j:Nat) d,ez[j]?=some d->∃v,w.cell? (b3.add (k*av+j))=some v/\v.oneCell'=true/\bO A w v d:=by
 cases h with
 |aq xs aS al aT aI bZ aw ae bf cP an=>
  have ap:=(List.getElem?_eq_some_iff.1 hk).1;exact⟨_,_,_,rfl,aS.symm,by omega,bZ ez (List.mem_of_getElem? hk),aw (fun iq=>by rw[iq]at hk;simp at hk),ae (fun iq=>by rw[iq]at hk;simp at hk),fun j d aa=>⟨_,cP k j ez d hk aa,bf k j,an k j ez d hk aa⟩⟩
 |nil=>simp at hk
theorem bO.h2{A:Nat->Prop}{w:World}{x y:Value}(h:bO A w x (.v y)):x=y:=by
 cases h;rfl
theorem NC:∀ (l:List UInt8) (s:ByteArray),(l.map (fun b=>(b.toNat:Int))).foldl (fun r n=>r.push (UInt8.ofNat n.toNat)) s= ⟨(s.data.toList++l).toArray⟩
 | [],s=>by obtain⟨⟨l⟩⟩:=s;simp
 |b::r,s=>by
  simp only[List.map_cons,List.foldl_cons,Int.toNat_natCast];rw[NC r];have:UInt8.ofNat b.toNat=b:=by simp
  rw[this];obtain⟨⟨l⟩⟩:=s;simp[ByteArray.push]
theorem Wa(aO:cS P ah=true){src dst:TypeId}{x:Operand}{K:Option Prop->aj->Prop}(aF:o.op= .convert src dst x)(an:e3 A os w a ρ x)(h:x2 ah (ay ah src).k (ay ah dst).k (ρ x) K):jo P A os w a o K:=by
 unfold x2 at h;split at h
 ·rename_i cA k dv n az aG a7;refine⟨_,_,h,fun _=>⟨_,?_,.bA (.v rfl)⟩⟩;simp only[execOp,aF,an.v a7,convert,Sem.run_bind,run_underlying (wq aO az),run_underlying (wq aO aG),Result.andThen_ok,Conv.intToInt,Sem.run_pure]
 ·rename_i s az aG a7;refine⟨_,_,h,fun _=>⟨_,?_,.bA (.v rfl)⟩⟩;simp only[execOp,aF,an.v a7,convert,Sem.run_bind,run_underlying (rZ aO az),run_underlying (rZ aO aG),Result.andThen_ok,Sem.run_pure]
 ·rename_i e av es f az aG a7;split at h
  ·rename_i r1 h1;obtain⟨oz,ak⟩:=h;have h1:=Nat.eq_of_beq_eq_true h1;subst h1;refine⟨_,_,ak,fun al=>⟨_,?_,.bA (.v rfl)⟩⟩;have al:=Holds.h3.1 al;unfold e3 at an;rw[a7]at an;have ab:=an.kT;have cW: (Conv.bytesToString (a.eval x)).run P w= .ok (.string ⟨oz.toArray⟩) w:=by
    generalize a.eval x=y at ab;cases ab with
    |nil=>
     have:oz=[]:=by cases oz<;>simp at al⊢
     subst this;simp[Conv.bytesToString];rfl
    | @aq b3 n c _ _ _ xs aS ll aT aI bZ aw ae bf cP lM=>
     have af:oz.length=n:=by rw[<-aS,al];simp
     have Wb:∀j v,(oz.map (fun b:UInt8=>Value.int .u8 b.toNat))[j]?=some v->w.cell? (b3.add j)=some v:=by
      intro j v ac;rw[List.getElem?_map]at ac;cases ae:oz[j]? with
      |none=>rw[ae]at ac;simp at ac
      |some b=>
       rw[ae]at ac;simp at ac;subst ac;have he:es[j]?=some (v1 b):=by rw[al];simp[ae]
       have h1:=cP j 0 _ _ he rfl;have ad:=lM j 0 _ _ he rfl;rw[Nat.mul_one,Nat.add_zero]at h1;rw[h1,ad.h2]
     have ND:=run_loadCells_list (P:=P) w b3 _ Wb;rw[List.length_map,af]at ND;have:=run_bytesToString (P:=P) w b3 n c (oz.map (fun b:UInt8=>(b.toNat:Int))) (by rw[List.map_map];exact ND);rw[this,NC];simp
   have: (convert src dst (a.eval x)).run P w= .ok (.string ⟨oz.toArray⟩) w:=by
    generalize a.eval x=y at ab cW;cases ab with
    |nil=>rw[run_convert_bytes_string w src dst e _ _ _ (jJ aO az) (wq aO r1) (rZ aO aG)];exact cW
    |aq=>rw[run_convert_bytes_string w src dst e _ _ _ (jJ aO az) (wq aO r1) (rZ aO aG)];exact cW
   simp only[execOp,aF,Sem.run_bind,this,Result.andThen_ok,Sem.run_pure]
  ·exact h.elim
 ·exact h.elim
theorem NE(aO:cS P ah=true){t:TypeId}{f:Nat}{fs:List (TypeId×Nat)}(hk: (ay ah t).k= .cr fs)(ag: (ay ah (fO fs f).1).size≠0)(aH: (ay ah 0).size=0):
  ∃ (F:Array Field) (fd:Field),P.underlying t=some (.struct F)/\F[f]?=some fd/\fd.type=(fO fs f).1/\fd.offset=(fO fs f).2:=by
 obtain⟨F,hu,dA,_⟩:=Az aO hk;have aI:f<fs.length:=by
  rcases Nat.lt_or_ge f fs.length with h|h
  ·exact h
  ·rw[Nq h]at ag;exact absurd aH ag
 obtain⟨fd,h1,ad,aC,_⟩:=Np dA (.inr aI) aI;exact⟨F,fd,hu,by simpa using h1,ad,aC⟩
theorem Wc(aO:cS P ah=true)(aH: (ay ah 0).size=0){t:TypeId}{f:Nat}{x:Operand}{K:Option Prop->aj->Prop}(aF:o.op= .fieldAddr t x f)(an:e3 A os w a ρ x)(h:sZ ah (os.map (·.2)) t f (ρ x) K):jo P A os w a o K:=by
 unfold e3 at an;unfold sZ at h;split at h
 ·rename_i fs hk;split at h
  ·exact h.elim
  ·rename_i ag;obtain⟨F,fd,hu,dA,bW,h5⟩:=NE aO hk ag aH;have run:∀b3:Addr,a.eval x= .pointer (some b3)->(execOp a.eval o).run P w= .ok (.value (.pointer (some (b3.add (fO fs f).2)))) w:=by
    intro b3 he;have bx:¬((ay ah (fO fs f).1).size=0):=ag;simp only[execOp,aF,he,Instr.fieldAt,Sem.run_bind,run_underlying hu,Result.andThen_ok,dA,Instr.sureAddr,Sem.run_pure,fieldPlace,bW,hM aO ag,if_neg bx,h5]
   split at h
   ·rename_i i off e;rw[e]at an;obtain⟨g,c1,cs,ab,he⟩:=an.nR;refine⟨_,_,h,fun _=>⟨_,run _ he,?_⟩⟩;rw[Addr.mN];exact .aP ab
   ·rename_i i off e;rw[e]at an;obtain⟨g,c1,cs,ab,he⟩:=an.uH;refine⟨_,_,h,fun _=>⟨_,run _ he,?_⟩⟩;rw[Addr.mN];exact .dc ab
   ·rename_i i k off e;rw[e]at an;split at h
    ·rename_i ao;obtain⟨_,_,_,_,ab⟩:=DQ ao;obtain⟨g,n,c,rfl,he⟩:=an.Ay ab;refine⟨_,_,h,fun _=>⟨_,run _ he,?_⟩⟩;rw[Addr.mN,Nat.add_assoc];exact .cF ab
    ·exact h.elim
   ·rename_i cs e;rw[e]at an;obtain⟨b3,he,aw,ae,al⟩:=NB an;obtain⟨_,h⟩:=oC h;refine⟨_,_,h,fun _=>⟨_,run _ he,.bA (AE (by rwa[Addr.uF]) (by rwa[Addr.uF]) (fun j d aa=> ?_))⟩⟩;rw[List.getElem?_drop]at aa;rw[Addr.DJ];exact al _ d aa
   ·exact h.elim
 ·exact h.elim
theorem Wd{t:TypeId}{vs:List Value}{ds:List aj}{off:Nat}{K:aj->Prop}(af:vs.length=ds.length)(bf:∀v∈vs,v.oneCell'=true)(au:∀ (i:Nat) v d,vs[i]?=some v->ds[i]?=some d->a6 A os w v d)
  (h:kg (ay ah t).agg (ay ah t).size (ds.drop off) K) (h1: (ay ah t).agg=false->(ay ah t).size=1) (bE: (ay ah t).size≠0):∃d,K d/\off+(ay ah t).size<=vs.length/\a6 A os w (r0 (ay ah t).agg ((vs.drop off).take (ay ah t).size)) d:=by
 unfold kg at h;split at h
 ·rename_i fx;obtain⟨hle,h⟩:=Av h;rw[List.length_drop]at hle;refine⟨_,h,by omega,?_⟩;rw[fx];refine .agg (by simp[af]) (fun v ac=>bf v (List.mem_of_mem_drop (List.mem_of_mem_take ac))) (fun i v d ac aa=> ?_);rw[List.getElem?_take]at ac aa;split at ac
  ·rename_i ab;rw[if_pos ab]at aa;rw[List.getElem?_drop]at ac aa;exact au _ v d ac aa
  ·cases ac
 ·rename_i fx;split at h
  ·rename_i d r iN;have h:=gv.1 h;have h1:=h1 fx;have aa:ds[off]?=some d:=by
    have: (ds.drop off)[0]?=some d:=by rw[iN];rfl
    rwa[List.getElem?_drop,Nat.add_zero]at this
   have ap:=(List.getElem?_eq_some_iff.1 aa).1;refine⟨_,h,by omega,?_⟩;rw[fx,h1];have ac:off<vs.length:=by omega
   rw[List.drop_eq_getElem_cons ac];exact au off _ d (List.getElem?_eq_getElem ac) aa
  ·exact h.elim
theorem We(aO:cS P ah=true)(aH: (ay ah 0).size=0){t:TypeId}{f:Nat}{x:Operand}{K:Option Prop->aj->Prop}(aF:o.op= .field t x f)(an:e3 A os w a ρ x)(h:x3 ah t f (ρ x) K):jo P A os w a o K:=by
 unfold e3 at an;unfold x3 at h;split at h
 ·rename_i fs hk;split at h
  ·exact h.elim
  ·rename_i ag;obtain⟨F,fd,hu,dA,bW,h5⟩:=NE aO hk ag aH;split at h
   ·rename_i cs e;rw[e]at an;obtain⟨vs,he,af,bf,au⟩:=an.s9;obtain⟨_,h⟩:=oC h;have yu:=(nr aO (t:=(fO fs f).1) (.inl ag)).dD;obtain⟨d,ak,hle,ao⟩:=Wd af bf au h yu ag;refine⟨_,_,ak,fun _=>⟨_,?_,ao⟩⟩;have:=DS (w:=w) aO ag vs (fO fs f).2 hle yu;simp only[execOp,aF,he,Instr.field,Sem.run_bind,run_underlying hu,Result.andThen_ok,dA,asAgg,Sem.run_pure,bW,h5,this]
   ·exact h.elim
 ·exact h.elim
theorem Wf{i:Operand}{m:Nat}(h:Dr i=some m):∃k,a.eval i= .int k m:=by
 unfold Dr at h;split at h
 ·cases h;exact⟨_,rfl⟩
 ·cases h
theorem Wg(aO:cS P ah=true)(hO:uw A os B w){t:TypeId}{x i:Operand}{K:Option Prop->aj->Prop}(aF:o.op= .indexAddr t x i)(an:e3 A os w a ρ x)(ab:e3 A os w a ρ i)(h:s0 ah (os.map (·.2)) t i (ρ x) (ρ i) K):jo P A os w a o K:=by
 unfold s0 at h;split at h
 ·rename_i e AF gS hk oE;have ab:=ab.v oE;have hu:=jJ aO hk;unfold e3 at an;split at h
  ·exact h.elim
  ·rename_i ag;have run:∀ (b3:Addr) (n c k:Nat),a.eval x= .slice (some b3) n c->gS=k->k<n->(execOp a.eval o).run P w= .ok (.value (.pointer (some (b3.add (k* (ay ah e).size))))) w:=by
    intro b3 n c k he q9 uM;subst q9;have ae: (0:Int)<=k/\(k:Int)<n:=by omega
    simp only[execOp,aF,he,ab,Instr.indexAt,asIntOf,Sem.run_bind,Sem.run_pure,Result.andThen_ok,run_underlying hu,if_pos ae,hM aO ag,Int.toNat_natCast]
   unfold v7 at h;split at h
   ·rename_i av es f ex;split at h
    ·rename_i bE;have bE:=Nat.eq_of_beq_eq_true bE;obtain⟨k,ez,ak⟩:=h;refine⟨_,_,ak,fun al=> ?_⟩;obtain⟨q9,wu⟩:=Holds.h3.1 al;rw[ex]at an;obtain⟨b3,n,c,he,_,uM,_,aw,ae,cP⟩:=V9 an.kT wu;refine⟨_,run b3 n c k he q9 uM,.bA (AE (by rwa[Addr.uF]) (by rwa[Addr.uF]) (fun j d aa=> ?_))⟩;rw[Addr.DJ,<-bE];exact cP j d aa
    ·exact h.elim
   ·rename_i j ex;split at h
    ·rename_i aG av es af;split at h
     ·rename_i bE;have bE:=Nat.eq_of_beq_eq_true bE;obtain⟨k,ak⟩:=h;refine⟨_,_,ak,fun al=> ?_⟩;obtain⟨q9,wu⟩:=Holds.h3.1 al;rw[ex]at an;obtain⟨x',gU⟩:=iM af (by simp);have kk:=an.nS gU;subst kk;obtain⟨_,xs,bJ,_⟩:=hO _ _ _ gU;rcases bJ.2 with⟨_,aS⟩| ⟨g,cap,cur,ac,_⟩
      ·omega
      ·rw[ac]at gU;refine⟨_,run ⟨g,0,none⟩ es.length cap k ac q9 wu,?_⟩;rw[Addr.mN,<-bE];have:=a6.cF (A:=A) (w:=w) (k:=k) (off:=0) gU;simpa using this
     ·exact h.elim
    ·exact h.elim
   ·exact h.elim
 ·rename_i n e AF gS hk oE;have cV:=ab;have ab:=ab.v oE;have hu:=DN aO hk;unfold e3 at an;split at h
  ·exact h.elim
  ·rename_i ag;have run:∀ (b3:Addr) (k:Nat),a.eval x= .pointer (some b3)->gS=k->k<n->(execOp a.eval o).run P w= .ok (.value (.pointer (some (b3.add (k* (ay ah e).size))))) w:=by
    intro b3 k he q9 uM;subst q9;have ae: (0:Int)<=k/\(k:Int)<n:=by omega
    simp only[execOp,aF,he,ab,Instr.indexAt,asIntOf,Sem.run_bind,Sem.run_pure,Result.andThen_ok,run_underlying hu,Instr.sureAddr,if_pos ae,hM aO ag,Int.toNat_natCast]
   unfold x4 at h;split at h
   ·rename_i m aT;obtain⟨dv,fi⟩:=Wf (a:=a) aT;rw[ab]at fi;have h6:gS=m:=by injection fi
    split at h
    ·rename_i j off ex;rw[ex]at an;obtain⟨g,c1,cs,gV,he⟩:=an.nR;refine⟨_,_,h,fun al=>⟨_,run _ m he h6 (Holds.h3.1 al),?_⟩⟩;rw[Addr.mN];exact .aP gV
    ·rename_i j off ex;rw[ex]at an;obtain⟨g,c1,cs,gV,he⟩:=an.uH;refine⟨_,_,h,fun al=>⟨_,run _ m he h6 (Holds.h3.1 al),?_⟩⟩;rw[Addr.mN];exact .dc gV
    ·exact h.elim
   ·split at h
    ·rename_i j off ex;rw[ex]at an;obtain⟨g,c1,cs,gV,he⟩:=an.nR;obtain⟨k,h⟩:=h;refine⟨_,_,h,fun al=>⟨_,run _ k he (Holds.h3.1 al).1 (Holds.h3.1 al).2,?_⟩⟩;rw[Addr.mN];exact .dc gV
    ·rename_i j off ex;rw[ex]at an;obtain⟨g,c1,cs,gV,he⟩:=an.uH;obtain⟨k,h⟩:=h;refine⟨_,_,h,fun al=>⟨_,run _ k he (Holds.h3.1 al).1 (Holds.h3.1 al).2,?_⟩⟩;rw[Addr.mN];exact .dc gV
    ·exact h.elim
 ·exact h.elim
theorem Wh(aO:cS P ah=true){t:TypeId}{x i:Operand}{K:Option Prop->aj->Prop}(aF:o.op= .index t x i)(an:e3 A os w a ρ x)(ab:e3 A os w a ρ i)(h:x5 ah t (ρ x) (ρ i) K):jo P A os w a o K:=by
 unfold x5 at h;split at h
 ·rename_i AF gS oE;have ab:=ab.v oE;split at h
  ·rename_i s hk ex;have an:=an.v ex;obtain⟨k,ak⟩:=h;refine⟨_,_,ak,fun al=>⟨_,?_,.bA (.v rfl)⟩⟩;obtain⟨rfl,ap⟩:=Holds.h3.1 al;have h1:s[k]?=some s[k]:=ByteArray.getElem?_lt' s k ap;have ad:s.data.getD k 0=s[k]:=by
    have:k<s.data.size:=ap;simp only[Array.getD,dif_pos this];rfl
   simp only[execOp,aF,an,ab,Instr.index,asIntOf,Sem.run_bind,Sem.run_pure,Result.andThen_ok,run_underlying (rZ aO hk),Int.natCast_nonneg,if_true,Int.toNat_natCast,h1,ad]
  ·rename_i n e cs hk ex;split at h
   ·rename_i fx bZ;have bZ:=Nat.eq_of_beq_eq_true bZ;obtain⟨k,d,h⟩:=h;have ak:=gv.1 h;refine⟨_,_,ak,fun al=> ?_⟩;obtain⟨rfl,ap,aa⟩:=Holds.h3.1 al;unfold e3 at an;rw[ex]at an;obtain⟨vs,he,af,bf,au⟩:=an.s9;have e8:=(List.getElem?_eq_some_iff.1 aa).1;have NF:k<vs.length:=by omega
    refine⟨vs[k],?_,au k _ d (List.getElem?_eq_getElem NF) aa⟩;have ae: (0:Int)<=k/\(k:Int)<n:=by omega
    have au:=DS (P:=P) (w:=w) aO (t:=e) (by omega) vs k (by omega) (fun _=>bZ);rw[fx,bZ]at au;rw[List.drop_eq_getElem_cons NF]at au;simp only[execOp,aF,he,ab,Instr.index,asIntOf,Sem.run_bind,Sem.run_pure,Result.andThen_ok,run_underlying (DN aO hk),if_pos ae,hM aO (t:=e) (by omega),bZ,Int.toNat_natCast,Nat.mul_one,au];rfl
   ·exact h.elim
  ·exact h.elim
 ·exact h.elim
theorem Wi{x:Operand}{n:Nat}{K:Option Prop->aj->Prop}(aF:o.op= .extract x n)(an:e3 A os w a ρ x)(h:x6 n (ρ x) K):jo P A os w a o K:=by
 unfold e3 at an;unfold x6 at h;split at h
 ·rename_i ds e;rw[e]at an;obtain⟨vs,kk,af,_,au⟩:=an.HF;obtain⟨_,h⟩:=oC h;split at h
  ·rename_i d r iN;have ak:=gv.1 h;refine⟨_,_,ak,fun _=> ?_⟩;have aa:ds[n]?=some d:=by
    have: (ds.drop n)[0]?=some d:=by rw[iN];rfl
    rwa[List.getElem?_drop,Nat.add_zero]at this
   have ap:=(List.getElem?_eq_some_iff.1 aa).1;have ac:n<vs.length:=by omega
   refine⟨vs[n],?_,au n _ d (List.getElem?_eq_getElem ac) aa⟩;simp[execOp,aF,kk,Instr.extract,ac]
  ·exact h.elim
 ·exact h.elim
end
open Go
section
variable {P:Program} {ah:c4} {A:Nat->Prop} {os:cu} {B:dP} {w:World} {a:Act} {o:Oper} {ρ:Operand->aj}
theorem r2{gE:Option Operand}{n e2:Nat}(af:∀x,gE=some x->e3 A os w a ρ x)(h:lF ρ gE n e2): (gE=none/\n=e2)\/∃x k,gE=some x/\a.eval x= .int k n:=by
 cases gE with
 |none=>exact .inl ⟨rfl,h⟩
 |some x=>
  obtain⟨k,e⟩:=h;exact .inr ⟨x,k,rfl,(af x rfl).v e⟩
theorem HN{x:Value}{av:Nat}{es:List (List aj)}{f:Bool}{l h:Nat}(ab:bO A w x (.aq av es f))(ajH:l<=h)(NG:h<=es.length):
  ∃ (b3:Option Addr) (n c:Nat),x= .slice b3 n c/\n=es.length/\h<=c/\(f=true->c=n)/\
   (∀eA,h<=eA->eA<=c->∀jk,(jk=true->eA=h)->bO A w (.slice (if eA=l then b3 else b3.map (·.add (l*av))) (h-l) (eA-l)) (.aq av ((es.take h).drop l) jk)):=by
 cases ab with
 | @aq b3 n c _ _ _ xs aS al aT aI bZ aw ae bf cP an=>
  refine⟨some b3,n,c,rfl,aS.symm,by omega,aI,fun eA h1 ad jk DV=> ?_⟩;have key:∀jK:Addr,jK.block=b3.block->(∀j,j<(h-l) *av->jK.add j=(b3.add (l*av)).add j)->bO A w (.slice (some jK) (h-l) (eA-l)) (.aq av ((es.take h).drop l) jk):=by
   intro jK iO HO;refine .aq (fun i j=>xs (l+i) j) (by simp;omega) (by omega) (by omega) (fun e=>by have:=DV e;omega) (fun e he=>bZ e (List.mem_of_mem_take (List.mem_of_mem_drop he))) (fun bx=>by rw[iO];exact aw (fun iq=>bx (by rw[iq];simp))) (fun bx=>by rw[iO];exact ae (fun iq=>bx (by rw[iq];simp))) (fun i j=>bf _ _) (fun i j e d he aa=> ?_) (fun i j e d he aa=> ?_)
   ·rw[List.getElem?_drop,List.getElem?_take]at he;split at he
    ·rename_i ap;have hlen:=bZ e (List.mem_of_getElem? he);have ai:=(List.getElem?_eq_some_iff.1 aa).1;have:=cP (l+i) j e d he aa;rw[HO _ (by
      have aC:i+1<=h-l:=by omega
      have bh: (i+1) *av<=(h-l) *av:=Nat.mul_le_mul_right _ aC;rw[Nat.add_mul]at bh;omega),Addr.DJ]
     rw[show l*av+(i*av+j)=(l+i) *av+j by rw[Nat.add_mul];omega];exact this
    ·cases he
   ·rw[List.getElem?_drop,List.getElem?_take]at he;split at he
    ·exact an (l+i) j e d he aa
    ·cases he
  split
  ·rename_i fU;exact key b3 rfl (fun j ai=>by
    have:h-l=0:=by omega
    rw[this]at ai;omega)
  ·exact key (b3.add (l*av)) (Addr.uF _ _) (fun j _=>rfl)
 |nil=>
  simp at NG;subst NG;obtain rfl:l=0:=by omega
  refine⟨none,0,0,rfl,rfl,by omega,fun _=>rfl,fun eA h1 ad jk DV=> ?_⟩;obtain rfl:eA=0:=by omega
  simpa using bO.nil
theorem po{l y:Nat}(h:l<=y)(k:IntKind)(code:BoundsCode): (Instr.sliceBound (.int k (l:Int)) y code).run P w= .ok l w:=by
 have:=run_sliceBound (P:=P) w k l y code (by omega) (by omega);simpa using this
theorem Wj(aO:cS P ah=true){t:TypeId}{x:Operand}{gE ab dF:Option Operand}{K:Option Prop->aj->Prop}(aF:o.op= .slice t x gE ab dF)(an:e3 A os w a ρ x)
  (mP:∀y,gE=some y->e3 A os w a ρ y) (nt:∀y,ab=some y->e3 A os w a ρ y) (p8:∀y,dF=some y->e3 A os w a ρ y) (h:x7 ah t ρ (ρ x) gE ab dF K):jo P A os w a o K:=by
 unfold x7 at h;split at h
 ·rename_i s hk ex;have hN:=an.v ex;have hu:=rZ aO hk;split at h
  ·obtain⟨l,bp,ak⟩:=h;refine⟨_,_,ak,fun al=>⟨_,?_,.bA (.v rfl)⟩⟩;obtain⟨cC,cH,h1,ad⟩:=Holds.h3.1 al;have az:=r2 mP cC;have aG:=r2 nt cH;have gf:=po (P:=P) (w:=w) h1;have iu:=po (P:=P) (w:=w) ad;rcases az with⟨rfl,rfl⟩| ⟨wv,cx,rfl,az⟩<;>rcases aG with⟨rfl,rfl⟩| ⟨HP,cM,rfl,aG⟩<;>
    first
     |simp only[execOp,aF,hN,Option.map_some,Option.map_none,az,aG,Instr.sliceAt,Sem.run_bind,run_underlying hu,Result.andThen_ok,Instr.slice,Instr.sliceBounds,Option.isSome_none,Bool.false_eq_true,if_false,Sem.run_pure,gf,iu]
     |simp only[execOp,aF,hN,Option.map_some,Option.map_none,az,Instr.sliceAt,Sem.run_bind,run_underlying hu,Result.andThen_ok,Instr.slice,Instr.sliceBounds,Option.isSome_none,Bool.false_eq_true,if_false,Sem.run_pure,gf,iu]
     |simp only[execOp,aF,hN,Option.map_some,Option.map_none,aG,Instr.sliceAt,Sem.run_bind,run_underlying hu,Result.andThen_ok,Instr.slice,Instr.sliceBounds,Option.isSome_none,Bool.false_eq_true,if_false,Sem.run_pure,gf,iu]
     |simp only[execOp,aF,hN,Option.map_some,Option.map_none,Instr.sliceAt,Sem.run_bind,run_underlying hu,Result.andThen_ok,Instr.slice,Instr.sliceBounds,Option.isSome_none,Bool.false_eq_true,if_false,Sem.run_pure,gf,iu]
  ·exact h.elim
 ·rename_i e hk ex;have hu:=jJ aO hk;unfold e3 at an;rw[ex]at an;split at h
  ·exact h.elim
  ·exact h.elim
  ·rename_i ag;refine⟨_,_,h,fun al=> ?_⟩;obtain⟨cC,cH⟩:=Holds.h3.1 al;have az:=r2 mP cC;have aG:=r2 nt cH;have he:a.eval x= .slice none 0 0:=an.mo;have gf:=po (P:=P) (w:=w) (Nat.le_refl 0);refine⟨.slice none 0 0,?_,.bA .ar⟩;rcases az with⟨rfl,_⟩| ⟨wv,cx,rfl,az⟩<;>rcases aG with⟨rfl,_⟩| ⟨HP,cM,rfl,aG⟩<;>first
    | (simp[execOp,aF,he,Instr.sliceAt,run_underlying hu,Instr.slice,Instr.sliceBounds,hM aO ag];done)
    | (simp[execOp,aF,he,az,Instr.sliceAt,run_underlying hu,Instr.slice,Instr.sliceBounds,hM aO ag,Instr.sliceBound,asIntOf];done)
    | (simp[execOp,aF,he,aG,Instr.sliceAt,run_underlying hu,Instr.slice,Instr.sliceBounds,hM aO ag,Instr.sliceBound,asIntOf];done)
    | (simp[execOp,aF,he,az,aG,Instr.sliceAt,run_underlying hu,Instr.slice,Instr.sliceBounds,hM aO ag,Instr.sliceBound,asIntOf];done)
 ·rename_i e av es f hk ex;have hu:=jJ aO hk;unfold e3 at an;rw[ex]at an;have jL:=an.kT;split at h
  ·exact h.elim
  ·exact h.elim
  ·rename_i ae ag;have bE:=Nat.eq_of_beq_eq_true ae;split at h
   ·obtain⟨l,ak⟩:=h;refine⟨_,_,ak,fun al=> ?_⟩;obtain⟨cC,h1⟩:=Holds.h3.1 al;have az:=r2 mP cC;obtain⟨b3,n,c,he,aS,hle,aI,au⟩:=HN (l:=l) (h:=es.length) jL h1 (Nat.le_refl _);have au:=au c hle (Nat.le_refl _) f (fun bp=>by rw[aI bp,aS]);rw[List.take_length,bE]at au;refine⟨_,?_,.bA (by rw[bE];exact au)⟩;have gf:=po (P:=P) (w:=w) h1;rcases az with⟨rfl,rfl⟩| ⟨wv,cx,rfl,az⟩<;>
     first
      |simp only[execOp,aF,he,aS,Option.map_some,Option.map_none,az,Instr.sliceAt,Sem.run_bind,run_underlying hu,Result.andThen_ok,Instr.slice,Instr.sliceBounds,Sem.run_pure,gf,hM aO ag]
      |simp only[execOp,aF,he,aS,Option.map_some,Option.map_none,Instr.sliceAt,Sem.run_bind,run_underlying hu,Result.andThen_ok,Instr.slice,Instr.sliceBounds,Sem.run_pure,gf,hM aO ag]
   ·rename_i hQ;obtain⟨l,bp,ak⟩:=h;refine⟨_,_,ak,fun al=> ?_⟩;obtain⟨cC,cH,h1,ad⟩:=Holds.h3.1 al;have az:=r2 mP cC;have aG:=r2 nt cH;obtain⟨b3,n,c,he,aS,hle,aI,au⟩:=HN (l:=l) (h:=bp) jL h1 ad;have au:=au c hle (Nat.le_refl _) false (by simp);rw[bE]at au;refine⟨_,?_,.bA (by rw[bE];exact au)⟩;have gf:=po (P:=P) (w:=w) h1;have iu:=po (P:=P) (w:=w) hle;rcases aG with⟨aG,_⟩| ⟨HP,cM,AG,aG⟩
    ·cases aG
    ·cases AG;rcases az with⟨rfl,rfl⟩| ⟨wv,cx,rfl,az⟩<;>
      first
       |simp only[execOp,aF,he,aS,Option.map_some,Option.map_none,az,aG,Instr.sliceAt,Sem.run_bind,run_underlying hu,Result.andThen_ok,Instr.slice,Instr.sliceBounds,Sem.run_pure,gf,iu,hM aO ag]
       |simp only[execOp,aF,he,aS,Option.map_some,Option.map_none,aG,Instr.sliceAt,Sem.run_bind,run_underlying hu,Result.andThen_ok,Instr.slice,Instr.sliceBounds,Sem.run_pure,gf,iu,hM aO ag]
   ·rename_i hQ ajI;obtain⟨l,bp,ak⟩:=h;refine⟨_,_,ak,fun al=> ?_⟩;obtain⟨cC,cH,j3,h1,ad⟩:=Holds.h3.1 al;have az:=r2 mP cC;have aG:=r2 nt cH;have a7:=r2 p8 j3;obtain⟨b3,n,c,he,aS,hle,aI,au⟩:=HN (l:=l) (h:=bp) jL h1 ad;have au:=au bp (Nat.le_refl _) hle true (fun _=>rfl);rw[bE]at au;refine⟨_,?_,.bA (by rw[bE];exact au)⟩;have gf:=po (P:=P) (w:=w) h1;have iu:=po (P:=P) (w:=w) hle;have pq:=po (P:=P) (w:=w) (Nat.le_refl bp);rcases aG with⟨aG,_⟩| ⟨HP,cM,AG,aG⟩
    ·cases aG
    ·cases AG;rcases a7 with⟨a7,_⟩| ⟨ajJ,gl,HQ,a7⟩
     ·cases a7
     ·cases HQ;rcases az with⟨rfl,rfl⟩| ⟨wv,cx,rfl,az⟩<;>
       first
        |simp only[execOp,aF,he,aS,Option.map_some,Option.map_none,az,aG,a7,Instr.sliceAt,Sem.run_bind,run_underlying hu,Result.andThen_ok,Instr.slice,Instr.sliceBounds,Sem.run_pure,gf,iu,pq,hM aO ag]
        |simp only[execOp,aF,he,aS,Option.map_some,Option.map_none,aG,a7,Instr.sliceAt,Sem.run_bind,run_underlying hu,Result.andThen_ok,Instr.slice,Instr.sliceBounds,Sem.run_pure,gf,iu,pq,hM aO ag]
   ·exact h.elim
 ·exact h.elim
end
open Go
section
variable {P:Program} {ah:c4} {A:Nat->Prop} {os:cu} {B:dP} {w:World} {a:Act} {o:Oper} {ρ:Operand->aj}
theorem Wk(aO:cS P ah=true)(hO:uw A os B w){t:TypeId}{x:Operand}{args:Array Operand}{dL:Array TypeId}{K:Option Prop->aj->Prop}(aF:o.op= .call {callee:=.builtin .len,args:=args,argTypes:=dL})
  (aZ:args.toList=[x]) (gJ:dL.toList=[t]) (an:e3 A os w a ρ x) (h:rR ah (os.map (·.2)) t (ρ x) K):jo P A os w a o K:=by
 obtain rfl:args= #[x]:=by cases args;simp at aZ;simp[aZ]
 obtain rfl:dL= #[t]:=by cases dL;simp at gJ;simp[gJ]
 have fin:∀ {n:Nat},(Builtin.len_ #[t] o.type #[a.eval x]).run P w= .ok (.int .i64 n) w->K none (.v (.int .i64 n))->jo P A os w a o K:=by
  intro n ao ak;refine⟨_,_,ak,fun _=>⟨_,?_,.bA (.v rfl)⟩⟩;simp only[execOp,aF,resolve,invoke,builtin,Sem.run_bind,Sem.run_pure,Result.andThen_ok,List.map_toArray,List.map_cons,List.map_nil,ao]
 unfold rR at h;split at h
 ·rename_i e hk;have hu:=jJ aO hk;have run:∀b3 n c,(Builtin.len_ #[t] o.type #[.slice b3 n c]).run P w= .ok (.int .i64 n) w:=by
   intro b3 n c;simp[Builtin.len_,run_underlying hu,goInt]
  unfold e3 at an;split at h
  ·rename_i av es f ex;rw[ex]at an;have ab:=an.kT;generalize bt:a.eval x=y at ab;cases ab with
   |aq xs aS=>exact fin (by rw[bt,run,aS]) h
   |nil=>exact fin (n:=0) (by rw[bt,run]) h
  ·rename_i ex;rw[ex]at an;exact fin (n:=0) (by rw[an.mo,run]) h
  ·rename_i j ex;split at h
   ·rename_i aG av es af;rw[ex]at an;obtain⟨x',gU⟩:=iM af (by simp);have kk:=an.nS gU;subst kk;obtain⟨_,xs,bJ,_⟩:=hO _ _ _ gU;rcases bJ.2 with⟨ac,aS⟩| ⟨g,cap,cur,ac,_⟩
    ·exact fin (by rw[ac,run];simp[aS]) h
    ·exact fin (by rw[ac,run]) h
   ·exact h.elim
  ·exact h.elim
 ·rename_i hk;have hu:=rZ aO hk;split at h
  ·rename_i s ex;exact fin (by rw[an.v ex];simp[Builtin.len_,run_underlying hu,goInt]) h
  ·exact h.elim
 ·rename_i n e hk;have hu:=DN aO hk;exact fin (by simp[Builtin.len_,run_underlying hu,goInt]) h
 ·exact h.elim
theorem Wl{x y:Operand}{args:Array Operand}{dL:Array TypeId}{K:Option Prop->aj->Prop}(aF:o.op= .call {callee:=.builtin .min,args:=args,argTypes:=dL})
  (aZ:args.toList=[x,y]) (an:e3 A os w a ρ x) (bt:e3 A os w a ρ y) (h:v8 (ρ x) (ρ y) K):jo P A os w a o K:=by
 obtain rfl:args= #[x,y]:=by cases args;simp at aZ;simp[aZ]
 unfold v8 at h;split at h
 ·rename_i k p dv q az aG;refine⟨_,_,h,fun _=>⟨_,?_,.bA (.v rfl)⟩⟩;simp only[execOp,aF,resolve,invoke,builtin,Sem.run_bind,Sem.run_pure,Result.andThen_ok,List.map_toArray,List.map_cons,List.map_nil,an.v az,bt.v aG,run_min_int2]
 ·exact h.elim
theorem Wm{x y:Operand}{args:Array Operand}{dL:Array TypeId}{K:Option Prop->aj->Prop}(aF:o.op= .call {callee:=.builtin .max,args:=args,argTypes:=dL})
  (aZ:args.toList=[x,y]) (an:e3 A os w a ρ x) (bt:e3 A os w a ρ y) (h:wa (ρ x) (ρ y) K):jo P A os w a o K:=by
 obtain rfl:args= #[x,y]:=by cases args;simp at aZ;simp[aZ]
 unfold wa at h;split at h
 ·rename_i k p dv q az aG;refine⟨_,_,h,fun _=>⟨_,?_,.bA (.v rfl)⟩⟩;simp only[execOp,aF,resolve,invoke,builtin,Sem.run_bind,Sem.run_pure,Result.andThen_ok,List.map_toArray,List.map_cons,List.map_nil,an.v az,bt.v aG,run_max_int2,GT.gt]
 ·exact h.elim
theorem tc:∀ {l:List Operand} {K:List aj->Prop},p0 ρ l K->K (l.map ρ)
 | [],K,h=>h
 |x::r,K,h=>by
  have:=tc (gv.1 h);simpa using this
theorem a6.plain{d:aj}{x:Value}(h:a6 A os w x d)(au:nM d=true):x.oneCell'=true/\bO A w x d:=by
 cases d<;>simp only[nM,List.all_eq_true,Bool.false_eq_true]at au
 all_goals try exact au.elim
 ·obtain⟨rfl,h1⟩:=h.h2;exact⟨h1,.v h1⟩
 ·have bb:=h.kT;refine⟨?_,bb⟩;cases bb<;>rfl
 ·have bb:=h.rX;refine⟨?_,bb⟩;cases bb<;>rfl
 ·have HR:=au;clear au;obtain⟨vs,rfl,af,au⟩:=h.p6;refine⟨rfl,.fn af (fun i v d ac aa=> ?_)⟩;have al:=au i v d ac aa;have Wn:=HR d (List.mem_of_getElem? aa);cases d<;>simp[kf]at Wn
  ·obtain⟨rfl,h1⟩:=al.h2;exact .v h1
  ·exact al.kT
  ·exact al.rX
  ·rename_i g b2;have:b2=[]:=by cases b2<;>simp_all[kf]
   subst this;obtain⟨us,rfl,fh,_⟩:=al.p6;have:us=[]:=List.eq_nil_of_length_eq_zero (by simpa using fh);subst this;exact .fn (vs:=[]) rfl (by simp)
  ·rw[al.mo];exact .ar
 ·rw[h.mo];exact⟨rfl,.ar⟩
theorem ww:∀ {l:List aj},mH l=true->∀d∈l,nM d=true
 | [],_,d,aa=>by simp at aa
 |x::r,h,d,aa=>by
  unfold mH at h;split at h
  ·rename_i an;rcases List.mem_cons.1 aa with rfl|aa
   ·exact an
   ·exact ww h d aa
  ·exact absurd h (by simp)
theorem Wo{f:Fn}{first b2:Array Operand}{K:Option Prop->aj->Prop}(aF:o.op= .makeFunc f first b2)(aI:first.toList=[])
  (an:∀x∈b2.toList,e3 A os w a ρ x) (h:p0 ρ b2.toList fun l=>match l.all j0 with
   |true=>K none (.fn f l)
   |false=>False):jo P A os w a o K:=by
 obtain rfl:first= #[]:=by cases first;simp at aI;simp[aI]
 have h:=tc h;split at h
 ·rename_i dk;have aT:=List.all_eq_true.1 dk;refine⟨_,_,h,fun _=>⟨.func f #[] (b2.map a.eval),?_,?_⟩⟩
  ·simp[execOp,aF,Instr.makeFunc]
  ·have:b2.map a.eval=(b2.toList.map a.eval).toArray:=by cases b2;simp
   rw[this];refine .fn (by simp) aT (fun i v d ac aa=> ?_);rw[List.getElem?_map]at ac aa;cases al:b2.toList[i]? with
   |none=>rw[al]at ac;cases ac
   |some x=>
    rw[al]at ac aa;simp at ac aa;subst ac aa;exact an x (List.mem_of_getElem? al)
 ·exact h.elim
theorem AH:∀ (vs:List Value) (k off:Nat) (cells:Array Value) (i:Nat),off+k+vs.length<=cells.size->
  ((vs.zipIdx k).foldl (fun(cs:Array Value) (p:Value×Nat)=>cs.setIfInBounds (off+p.2) p.1) cells)[i]?=(if off+k<=i/\i<off+k+vs.length then vs[i- (off+k)]? else cells[i]?)/\
  ((vs.zipIdx k).foldl (fun(cs:Array Value) (p:Value×Nat)=>cs.setIfInBounds (off+p.2) p.1) cells).size=cells.size
 | [],k,off,cells,i,_=>by
  refine⟨?_,by simp⟩;rw[if_neg (by simp only[List.length_nil];omega)];simp
 |v::r,k,off,cells,i,h=>by
  simp only[List.length_cons]at h;obtain⟨h1,ad⟩:=AH r (k+1) off (cells.setIfInBounds (off+k) v) i (by simp;omega);simp only[List.zipIdx_cons,List.foldl_cons];refine⟨h1.trans ?_,by simpa using ad⟩;by_cases dX:off+(k+1)<=i/\i<off+(k+1)+r.length
  ·rw[if_pos dX,if_pos (by simp;omega)];rw[show i- (off+k)=(i- (off+(k+1)))+1 by omega];simp
  ·rw[if_neg dX];by_cases de:i=off+k
   ·subst de;rw[if_pos (by simp)];simp[Array.getElem?_setIfInBounds];omega
   ·rw[if_neg (by simp;omega),Array.getElem?_setIfInBounds_ne (by omega)]
structure nW(A:Nat->Prop)(os:cu)(w:World)(cells:Array Value)(cs:List aj):Prop where
 size:cells.size=cs.length
 dD:∀v∈cells.toList,v.oneCell'=true
 gw:∀ (i:Nat) v d,cells[i]?=some v->cs[i]?=some d->a6 A os w v d
theorem HS{place:Nat->Nat×Nat}{pl:Nat->Option (Nat×Nat)}(dk:∀i,(place i).2≠0->pl i=some (place i)){K:List aj->Prop}:
  ∀ (parts:List (Nat×Operand)) (cs:List aj) (cells:Array Value),nW A os w cells cs->(∀p∈parts,e3 A os w a ρ p.2)->oy ρ place parts cs K->
   ∃cells' cY,K cY/\Instr.fill pl cells (parts.map fun p=>(p.1,a.eval p.2))=some cells'/\nW A os w cells' cY
 | [],cs,cells,ao,_,h=>⟨cells,cs,h,by simp[Instr.fill],ao⟩
 | (i,x)::r,cs,cells,ao,an,h=>by
  have lM:=an (i,x) (by simp);have h:=gv.1 h;unfold e3 at lM;have key:∀ (d:aj),ρ x=d->(∀b bD,d≠ .bP b bD)->(∀l,d≠ .a1 l)->d≠ .aW->
    (match Nat.beq (cN d).length (place i).2&&Nat.ble ((place i).1+(cN d).length) cs.length&&Nat.blt 0 (place i).2 with
     |true=>pX (hl cs (place i).1 (cN d)) fun cY=>oy ρ place r cY K
     |false=>False)->∃cells' cY,K cY/\Instr.fill pl cells (((i,x)::r).map fun p=>(p.1,a.eval p.2))=some cells'/\nW A os w cells' cY:=by
   intro d e h1 ad aC aT;split at aT
   ·rename_i ae;have aT:=sV.1 aT;simp only[Bool.and_eq_true]at ae;obtain⟨⟨cC,cH⟩,j3⟩:=ae;have cC:=Nat.eq_of_beq_eq_true cC;have cH:=Nat.le_of_ble_eq_true cH;have j3:0<(place i).2:=Nat.le_of_ble_eq_true j3;rw[e]at lM;obtain⟨af,bf,au⟩:=lM.cells h1 ad aC;have bZ: (a.eval x).cells.size=(place i).2:=by rw[<-cC,<-af];simp
    have eO: (place i).1+0+(a.eval x).cells.toList.length<=cells.size:=by
     rw[ao.size];simp only[Array.length_toList]at af⊢;omega
    have aI:∀j,((a.eval x).cells.zipIdx.foldl (fun(cs:Array Value) (p:Value×Nat)=>cs.setIfInBounds ((place i).1+p.2) p.1) cells)[j]?=(if(place i).1<=j/\j<(place i).1+(a.eval x).cells.toList.length then(a.eval x).cells.toList[j- (place i).1]? else cells[j]?):=by
     intro j;have:=(AH (a.eval x).cells.toList 0 (place i).1 cells j eO).1;simp only[Nat.add_zero]at this;rw[<-this];rw[<-Array.foldl_toList];simp
    have Wp: ((a.eval x).cells.zipIdx.foldl (fun(cs:Array Value) (p:Value×Nat)=>cs.setIfInBounds ((place i).1+p.2) p.1) cells).size=cells.size:=by
     have:=(AH (a.eval x).cells.toList 0 (place i).1 cells 0 eO).2;rw[<-this];rw[<-Array.foldl_toList];simp
    have DW: (a.eval x).cells.toList.length=(cN d).length:=af;have iZ:nW A os w ((a.eval x).cells.zipIdx.foldl (fun(cs:Array Value) (p:Value×Nat)=>cs.setIfInBounds ((place i).1+p.2) p.1) cells) (hl cs (place i).1 (cN d)):=by
     refine⟨by rw[Wp,DH,ao.size],fun v ac=> ?_,fun j v bD ac aa=> ?_⟩
     ·obtain⟨j,ai,rfl⟩:=List.getElem_of_mem ac;have: (((a.eval x).cells.zipIdx.foldl (fun(cs:Array Value) (p:Value×Nat)=>cs.setIfInBounds ((place i).1+p.2) p.1) cells))[j]?=some (((a.eval x).cells.zipIdx.foldl (fun(cs:Array Value) (p:Value×Nat)=>cs.setIfInBounds ((place i).1+p.2) p.1) cells).toList[j]):=by
       rw[<-Array.getElem?_toList];exact List.getElem?_eq_getElem ai
      rw[aI j]at this;split at this
      ·exact bf _ (List.mem_of_getElem? this)
      ·rw[<-Array.getElem?_toList]at this;exact ao.dD _ (List.mem_of_getElem? this)
     ·rw[aI j]at ac;rw[DI _ _ _ _ cH,<-DW]at aa;split at ac
      ·rename_i al;rw[if_pos al]at aa;exact au _ v bD ac aa
      ·rename_i al;rw[if_neg al]at aa;exact ao.gw j v bD ac aa
    obtain⟨cells',cY,ak,lN,iP⟩:=HS dk r _ _ iZ (fun p au=>an p (by simp[au])) aT;refine⟨cells',cY,ak,?_,iP⟩;simp only[List.map_cons,Instr.fill,dk i (by omega)];rw[if_neg (by
     simp only[bZ,ne_eq,not_true_eq_false,decide_false,Bool.false_or,gt_iff_lt,decide_eq_true_eq,Bool.or_eq_true,or_false,false_or];rw[ao.size,<-cC];omega)]
    exact lN
   ·exact aT.elim
  split at h
  ·exact h.elim
  ·exact h.elim
  ·exact h.elim
  ·rename_i d az aG a7;exact key _ rfl (fun b bD e=>az b bD e) (fun l e=>aG l e) (fun e=>a7 e) h
theorem DX(aO:cS P ah=true){t:TypeId}(ag: (ay ah t).size≠0):∃z,(zeroValue t).run P w= .ok z w/\nW A os w z.cells (ay ah t).zero/\(ay ah t).zero.length=(ay ah t).size:=by
 obtain⟨i,ab,_,_,z,bE,kU,af⟩:=oD aO ag;obtain⟨h1,ad,aC⟩:=q6 (A:=A) (w:=w) kU;refine⟨z,by simp[zeroValue,typeInfo,ab,bE],⟨by simpa using h1,ad,fun i v d ac aa=>.bA (aC i v d (by simpa using ac) aa)⟩,af⟩
theorem NH:∀ {fs:List (TypeId×Nat)},x8 ah fs=true->∀f∈fs,(ay ah f.1).size≠0
 | [],_,f,aI=>by simp at aI
 |x::r,h,f,aI=>by
  unfold x8 at h;split at h
  ·exact absurd h (by simp)
  ·rename_i ag;rcases List.mem_cons.1 aI with rfl|aI
   ·exact ag
   ·exact NH h f aI
theorem NI(aO:cS P ah=true):∀ (F:List Field) (fs:List (TypeId×Nat)),lK F fs=true->(∀f∈fs,(ay ah f.1).size≠0)->
  (F.mapM fun f=>(do pure (f.offset,<-sizeOf f.type):Sem (Nat×Nat))).run P w= .ok (fs.map fun f=>(f.2,(ay ah f.1).size)) w
 | [],[],_,_=>by simp
 | [],_::_,h,_=>by simp[lK]at h
 |_::_,[],h,_=>by simp[lK]at h
 |x::F,y::fs,h,ag=>by
  simp only[lK,Bool.and_eq_true,bne_iff_ne]at h;have aN:=NI aO F fs h.2 (fun f aI=>ag f (by simp[aI]));have az:=Nat.eq_of_beq_eq_true h.1.1.1;have aG:=Nat.eq_of_beq_eq_true h.1.1.2;simp only[List.mapM_cons,Sem.run_bind,az,aG,hM aO (ag y (by simp)),Result.andThen_ok,Sem.run_pure,aN,List.map_cons]
theorem NJ:∀ {fs:List (TypeId×Nat)} {i:Nat},i<fs.length->fs[i]?=some (fO fs i)
 | [],i,h=>by simp at h
 |_::_,0,_=>rfl
 |_::r,i+1,h=>by simpa[fO]using NJ (fs:=r) (i:=i) (by simpa using h)
theorem Wq(aO:cS P ah=true){t:TypeId}{parts:Array (Nat×Operand)}{K:Option Prop->aj->Prop}(aF:o.op= .build t parts)
  (an:∀p∈parts.toList,e3 A os w a ρ p.2) (h:x9 ah t ρ parts.toList K):jo P A os w a o K:=by
 unfold x9 at h;have ra: (parts.map fun(i,x)=>(i,a.eval x)).toList=parts.toList.map fun p=>(p.1,a.eval p.2):=by cases parts;simp
 split at h
 ·rename_i fs hk;split at h
  ·rename_i m h7 aT;have ag: (ay ah t).size≠0:=by omega
   obtain⟨F,hu,dA,_⟩:=Az aO hk;obtain⟨z,bE,iP,_⟩:=DX (A:=A) (os:=os) (w:=w) aO ag;have cw:=NH h7;have dk:=NI (w:=w) aO F.toList fs dA cw;obtain⟨cells',cY,ak,lN,ao⟩:=HS (pl:=fun i=>(fs.map fun f=>(f.2,(ay ah f.1).size))[i]?) (fun i ab=>by
    cases ae:Nat.blt i fs.length with
    |true=>
     have nu:i<fs.length:=Nat.le_of_ble_eq_true ae;simp only[List.getElem?_map,NJ nu];rfl
    |false=>rw[ae]at ab;exact absurd rfl ab) parts.toList _ _ iP an h
   refine⟨_,_,ak,fun _=>⟨.agg cells',?_,?_⟩⟩
   ·have rb: (F.mapM fun f=>(do pure (f.offset,<-sizeOf f.type):Sem (Nat×Nat))).run P w= .ok (fs.map fun f=>(f.2,(ay ah f.1).size)).toArray w:=by
     rw[Array.mapM_eq_mapM_toList,Sem.run_map,dk];rfl
    simp only[execOp,aF,Instr.build,Sem.run_bind,bE,Result.andThen_ok,Sem.run_pure,run_underlying hu,rb,ra];have Wr:Instr.fill (fun x=>(fs.map fun f=>(f.2,(ay ah f.1).size)).toArray[x]?) z.cells (parts.toList.map fun p=>(p.1,a.eval p.2))=some cells':=by
     simpa using lN
    simp only[Wr,Sem.run_pure,Result.andThen_ok]
   ·have:cells'=cells'.toList.toArray:=by simp
    rw[this];exact .agg (by simpa using ao.size) ao.dD (fun i v d ac aa=>ao.gw i v d (by simpa using ac) aa)
  ·exact h.elim
 ·rename_i n e hk;split at h
  ·rename_i m1 m2 h1 ad;have ag: (ay ah t).size≠0:=by omega
   have td: (ay ah e).size≠0:=by omega
   have hu:=DN aO hk;obtain⟨z,bE,iP,_⟩:=DX (A:=A) (os:=os) (w:=w) aO ag;obtain⟨cells',cY,ak,lN,ao⟩:=HS (pl:=fun i=>some (i* (ay ah e).size,(ay ah e).size)) (fun i ab=>rfl) parts.toList _ _ iP an h;refine⟨_,_,ak,fun _=>⟨.agg cells',?_,?_⟩⟩
   ·simp only[execOp,aF,Instr.build,Sem.run_bind,bE,Result.andThen_ok,Sem.run_pure,run_underlying hu,hM aO td,ra,lN]
   ·have:cells'=cells'.toList.toArray:=by simp
    rw[this];exact .agg (by simpa using ao.size) ao.dD (fun i v d ac aa=>ao.gw i v d (by simpa using ac) aa)
  ·exact h.elim
 ·exact h.elim
theorem AI(aO:cS P ah=true)(aH: (ay ah 0).size=0)(hO:uw A os B w){K:Option Prop->aj->Prop}(an:∀x∈o.op.operands.toList,e3 A os w a ρ x)
  (h:lG ah (os.map (·.2)) o.op ρ K):jo P A os w a o K:=by
 generalize aF:o.op=op at h an;unfold lG at h;split at h
 ·exact Nu (.inl aF) (an _ (by simp[Op.operands])) h
 ·exact Nu (.inr aF) (an _ (by simp[Op.operands])) h
 ·exact VU aF (an _ (by simp[Op.operands])) (an _ (by simp[Op.operands])) (an _ (by simp[Op.operands])) h
 ·exact VW aF (an _ (by simp[Op.operands])) h
 ·rename_i op t x y u;have lM:=an x (by simp[Op.operands]);have AJ:=an y (by simp[Op.operands]);unfold x0 at h;split at h
  ·rename_i k p dv q az aG;split at h
   ·exact VZ aF (lM.v az) (AJ.v aG) h
   ·split at h
    ·rename_i hk;obtain rfl:=Aw.1 hk;exact VY aF (lM.v az) (AJ.v aG) h
    ·exact h.elim
  ·rename_i az aG;exact V0 aF (lM.v az) (AJ.v aG) h
  ·rename_i az aG;split at h
   ·rename_i hk;exact V1 aO aF (lM.v az) (AJ.v aG) hk h
   ·exact h.elim
  ·rename_i az aG;exact V5 aO aF lM AJ az aG h
  ·exact h.elim
 ·exact VX aF (an _ (by simp[Op.operands])) h
 ·exact Wa aO aF (an _ (by simp[Op.operands])) h
 ·exact Wc aO aH aF (an _ (by simp[Op.operands])) h
 ·exact We aO aH aF (an _ (by simp[Op.operands])) h
 ·exact Wg aO hO aF (an _ (by simp[Op.operands])) (an _ (by simp[Op.operands])) h
 ·exact Wh aO aF (an _ (by simp[Op.operands])) (an _ (by simp[Op.operands])) h
 ·exact V8 aO hO aF (an _ (by simp[Op.operands])) h
 ·exact Wi aF (an _ (by simp[Op.operands])) h
 ·exact Wj aO aF (an _ (by simp[Op.operands])) (fun y bt=>an y (by simp[Op.operands,bt])) (fun y bt=>an y (by simp[Op.operands,bt])) (fun y bt=>an y (by simp[Op.operands,bt])) h
 ·split at h
  ·rename_i aI;exact Wo aF aI (fun x aT=>an x (by simp[Op.operands]at aT⊢;exact .inr aT)) h
  ·exact h.elim
 ·rename_i t parts;exact Wq aO aF (fun p au=>an p.2 (by
   simp only[Op.operands];simp only[List.mem_map];exact⟨p,au,rfl⟩)) h
 ·rename_i args dL;split at h
  ·rename_i x t az aG;exact Wk aO hO aF az aG (an x (by simp[Op.operands,Call.operands];rw[<-Array.mem_toList_iff,az];simp)) h
  ·exact h.elim
 ·split at h
  ·rename_i x y az;exact Wl aF az (an x (by simp[Op.operands,Call.operands];rw[<-Array.mem_toList_iff,az];simp)) (an y (by simp[Op.operands,Call.operands];rw[<-Array.mem_toList_iff,az];simp)) h
  ·exact h.elim
 ·split at h
  ·rename_i x y az;exact Wm aF az (an x (by simp[Op.operands,Call.operands];rw[<-Array.mem_toList_iff,az];simp)) (an y (by simp[Op.operands,Call.operands];rw[<-Array.mem_toList_iff,az];simp)) h
  ·exact h.elim
 ·exact h.elim
end
open Go
structure bT(aA:Nat->Prop)(aY:dP)(n:Nat)(os:cu)(s:bu)(a:Act)(w:World):Prop where
 size:a.tmps.size=n
 defers:a.defers=[]
 fH:mJ aY.M aY.w w
 a0:∀b,aA b->¬aY.mine b
 loc:s.loc=os.map (·.2)
 env:∀t,a6 (a8 aA os) os w (a.tmps.getD t undef) (look s.env t)
 cp:uw (a8 aA os) os aY w
 inj:∀ (i j:Nat) x o y aK b,os[i]?=some (x,o)->os[j]?=some (y,aK)->o≠ .bd->aK≠ .bd->bs x=some b->bs y=some b->i=j
section
variable {P:Program} {ah:c4} {aA:Nat->Prop} {aY:dP} {n:Nat} {os:cu} {s:bu} {a:Act} {w:World} {o:Oper}
theorem mJ.yv{h:dP}{b c:World}{r:Option Nat}(ax:mJ h.M h.w b)(bb:b.grownBy c r)(ao:∀g,r=some g->h.mine g):mJ h.M h.w c:=
 ⟨bb.os.trans ax.os,bb.tape.trans ax.tape,bb.output.trans ax.output,Nat.le_trans ax.size bb.size,fun k hk aS=>
  (bb.block k (Nat.lt_of_lt_of_le hk ax.size) (fun e=>by
   rcases ao k e.symm with h1|h1
   ·omega
   ·exact aS h1)).trans (ax.block k hk aS)⟩
theorem dP.pr{h:dP}{b:World}(ax:mJ h.M h.w b){k:Nat}(hk:b.heap.size<=k):h.mine k:=.inl (Nat.le_trans ax.size hk)
theorem grownBy.rd(w:World)(r:Option Nat):w.grownBy w r:=⟨rfl,rfl,rfl,Nat.le_refl _,fun _ _ _=>rfl⟩
theorem bT.yw(h:bT aA aY n os s a w){b:Nat}(ae:aA b):b<w.heap.size:=by
 have h1:=h.a0 b ae;have ad:=h.fH.size;rcases Nat.lt_or_ge b w.heap.size with aC|aC
 ·exact aC
 ·exact absurd (.inl (by omega)) h1
theorem bT.bq(h:bT aA aY n os s a w)(x:Operand):a6 (a8 aA os) os w (a.eval x) (bq s x):=by
 cases x with
 |tmp t=>exact h.env t
 |const v=>
  show a6 _ _ _ v (Hh v);unfold Hh;split
  ·exact .bA .ar
  ·exact .bA .aW
  ·exact .bA .aW
  ·exact .bA .aW
  ·rename_i h1 ad aC bh;refine .bA (.v ?_);cases v<;>first|rfl|exact absurd rfl (aC _)|exact absurd rfl (bh _)
 |global g=>exact .bA .aW
 |func f=>exact .bA (.fn (vs:=[]) rfl (by simp))
theorem NK{t u:Nat}{x:Value}(bW:t<a.tmps.size): (a.put (some t) x).tmps.getD u undef=if u=t then x else a.tmps.getD u undef:=by
 simp only[Act.put,Array.getD_eq_getD_getElem?,Array.getElem?_setIfInBounds];by_cases h:u=t
 ·subst h;simp[bW]
 ·rw[if_neg (fun e=>h e.symm),if_neg h]
theorem bT.put(h:bT aA aY n os s a w){dst:Option Tmp}{x:Value}{d:aj}(aa:∀t,dst=some t->t<n)(ao:a6 (a8 aA os) os w x d):bT aA aY n os (s.put dst d) (a.put dst x) w:=by
 cases dst with
 |none=>exact h
 |some t=>
  have bW:t<a.tmps.size:=by rw[h.size];exact aa t rfl
  refine⟨by simpa[Act.put]using h.size,h.defers,h.fH,h.a0,h.loc,fun u=> ?_,h.cp,h.inj⟩;rw[NK bW];simp only[bu.put,look];by_cases e:u=t
  ·subst e;simpa using ao
  ·rw[if_neg e];have:Nat.beq t u=false:=by
    cases ae:Nat.beq t u
    ·rfl
    ·exact absurd (Nat.eq_of_beq_eq_true ae).symm e
   rw[this];exact h.env u
theorem DY:∀ {l:List aU} {K:List aU->Prop},z8 l K↔K l
 | [],K=>Iff.rfl
 |o::r,K=>DY (l:=r)
theorem wx{dst:Option Tmp}{d:aj}{K:bu->Prop}:e0 s dst d K↔K (s.put dst d):=by
 cases s;cases dst<;>exact DY
theorem jH.gW{A:Nat->Prop}{B:dP}{x:Value}{bm:aU}(h:jH A os B w x bm)(aa:bm≠ .bd){b:Nat}(ae:bs x=some b):B.mine b/\b<w.heap.size:=by
 cases bm with
 |bd=>exact absurd rfl aa
 |gone=>have h:bs x=none:=h;rw[h]at ae;cases ae
 |b6 ds=>obtain⟨rfl,_⟩:=h;simp[bs]at ae
 |cells t cs=>
  obtain⟨g,arr,rfl,cR,bp,_⟩:=h;simp[bs]at ae;subst ae;exact⟨cR,(Array.getElem?_eq_some_iff.1 bp).1⟩
 |row e av es=>
  obtain⟨gI,xs,bJ,_⟩:=h;refine⟨gI b ae,?_⟩;rcases bJ.2 with⟨rfl,_⟩| ⟨g,cap,cur,rfl,cR,bp,_⟩
  ·simp[bs]at ae
  ·simp[bs]at ae;subst ae;exact(Array.getElem?_eq_some_iff.1 bp).1
theorem jH.b9{A cU:Nat->Prop}{os aJ:cu}{B:dP}{w w':World}{x:Value}{bm:aU}(h:jH A os B w x bm)(k:cT A cU w w')(aZ:q5 os aJ)(ae:∀b,bm≠ .bd->bs x=some b->w'.heap[b]?=w.heap[b]?):jH cU aJ B w' x bm:=by
 cases bm with
 |bd=>exact trivial
 |gone=>exact h
 |b6 ds=>exact⟨h.1,h.2.1,h.2.2.1,fun i v d ac aa=>(h.2.2.2 i v d ac aa).b9 k aZ⟩
 |cells t cs=>
  obtain⟨g,arr,rfl,cR,bp,ag,bf,ao⟩:=h;exact⟨g,arr,rfl,cR,(ae g (by simp) rfl).trans bp,ag,bf,fun j v d ac aa=>(ao j v d ac aa).b9 k aZ⟩
 |row e av es=>
  obtain⟨gI,xs,bJ,bZ,fp,bf,ao⟩:=h;refine⟨gI,xs,⟨bJ.1,?_⟩,bZ,fp,bf,fun dv j r d h1 ad=> ?_⟩
  ·rcases bJ.2 with aS| ⟨g,cap,cur,rfl,cR,bp,rest⟩
   ·exact .inl aS
   ·exact .inr ⟨g,cap,cur,rfl,cR,(ae g (by simp) rfl).trans bp,rest⟩
  ·obtain⟨v,ac,ab⟩:=ao dv j r d h1 ad;exact⟨v,ac,ab.b9 k⟩
theorem bT.nq{w':World}(h:bT aA aY n os s a w)(ax:w.grownBy w' none):bT aA aY n os s a w':=
 have k:cT (a8 aA os) (a8 aA os) w w':=.nq ax (fun _ _ h=>h)
 ⟨h.size,h.defers,mJ.yv h.fH ax (fun _ e=>by cases e),h.a0,h.loc,fun t=>(h.env t).b9 k (.refl _),
  fun i x bm ab=>(h.cp i x bm ab).b9 k (.refl _) (fun b aa ae=>ax.block b ((h.cp i x bm ab).gW aa ae).2 (by simp)),h.inj⟩
theorem NL{x:Value}{bm:aU}{b:Nat}(h:a8 aA (os++ [(x,bm)]) b):a8 aA os b\/(bm≠ .bd/\bs x=some b):=by
 rcases h with h| ⟨i,y,aK,ab,aa,ae⟩
 ·exact .inl (.inl h)
 ·by_cases ap:i<os.length
  ·rw[List.getElem?_append_left ap]at ab;exact .inl (.inr ⟨i,y,aK,ab,aa,ae⟩)
  ·rw[List.getElem?_append_right (by omega)]at ab;cases bE:i-os.length with
   |zero=>rw[bE]at ab;simp at ab;obtain⟨rfl,rfl⟩:=ab;exact .inr ⟨aa,ae⟩
   |succ m=>rw[bE]at ab;simp at ab
theorem HT(x:Value)(bm:aU):q5 os (os++ [(x,bm)]):=fun i y aK ab=>by
 refine⟨aK,?_,by cases aK<;>simp[di]⟩;rw[List.getElem?_append_left (List.getElem?_eq_some_iff.1 ab).1];exact ab
theorem bT.push{w':World}{x:Value}{bm:aU}(h:bT aA aY n os s a w)(ax:w.grownBy w' none)(kl:∀b,bs x=some b->w.heap.size<=b)(eg:jH (a8 aA (os++ [(x,bm)])) (os++ [(x,bm)]) aY w' x bm):
  bT aA aY n (os++ [(x,bm)]) ⟨s.env,s.loc++ [bm]⟩ a w':=by
 have k:cT (a8 aA os) (a8 aA (os++ [(x,bm)])) w w':=.nq ax (fun b ae ac=>by
  rcases NL ac with ac| ⟨_,ac⟩
  ·exact ac
  ·have:=kl b ac;omega)
 refine⟨h.size,h.defers,mJ.yv h.fH ax (fun _ e=>by cases e),h.a0,by simp[h.loc],fun t=>(h.env t).b9 k (HT x bm),fun i y aK ab=> ?_,fun i j y cQ z eI b ab ai d1 d2 cC cH=> ?_⟩
 ·by_cases ap:i<os.length
  ·rw[List.getElem?_append_left ap]at ab;exact(h.cp i y aK ab).b9 k (HT x bm) (fun b aa ae=>ax.block b ((h.cp i y aK ab).gW aa ae).2 (by simp))
  ·rw[List.getElem?_append_right (by omega)]at ab;cases bE:i-os.length with
   |zero=>rw[bE]at ab;simp at ab;obtain⟨rfl,rfl⟩:=ab;exact eg
   |succ m=>rw[bE]at ab;simp at ab
 ·have cs:∀ {i:Nat} {y:Value} {aK:aU},(os++ [(x,bm)])[i]?=some (y,aK)->(os[i]?=some (y,aK)/\i<os.length)\/(i=os.length/\y=x/\aK=bm):=by
   intro i y aK ab;by_cases ap:i<os.length
   ·rw[List.getElem?_append_left ap]at ab;exact .inl ⟨ab,ap⟩
   ·rw[List.getElem?_append_right (by omega)]at ab;cases bE:i-os.length with
    |zero=>rw[bE]at ab;simp at ab;exact .inr ⟨by omega,ab.1.symm,ab.2.symm⟩
    |succ m=>rw[bE]at ab;simp at ab
  rcases cs ab with⟨gX,_⟩| ⟨rfl,rfl,rfl⟩<;>rcases cs ai with⟨oF,_⟩| ⟨rfl,rfl,rfl⟩
  ·exact h.inj i j _ _ _ _ b gX oF d1 d2 cC cH
  ·have:=((h.cp i _ _ gX).gW d1 cC).2;have:=kl b cH;omega
  ·have:=((h.cp j _ _ oF).gW d2 cH).2;have:=kl b cC;omega
  ·rfl
theorem bT.AK{w':World}{i:Nat}{x:Value}{bm e9:aU}(h:bT aA aY n os s a w)(ab:os[i]?=some (x,bm))(hk:di bm e9)(aa:bm≠ .bd)(p7:e9≠ .bd)(ax:w.grownBy w' (bs x))
  (eg:jH (a8 aA (os.set i (x,e9))) (os.set i (x,e9)) aY w' x e9):bT aA aY n (os.set i (x,e9)) ⟨s.env,e1 s.loc i e9⟩ a w':=by
 have ap:=(List.getElem?_eq_some_iff.1 ab).1;have b7:∀ {j:Nat} {y:Value} {aK:aU},(os.set i (x,e9))[j]?=some (y,aK)->(j=i/\y=x/\aK=e9)\/(j≠i/\os[j]?=some (y,aK)):=by
  intro j y aK ai;by_cases e:j=i
  ·subst e;rw[List.getElem?_set_self ap]at ai;cases ai;exact .inl ⟨rfl,rfl,rfl⟩
  ·rw[List.getElem?_set_ne (fun cd=>e cd.symm)]at ai;exact .inr ⟨e,ai⟩
 have fV:∀b,a8 aA (os.set i (x,e9)) b->a8 aA os b:=by
  intro b ae;rcases ae with ae| ⟨j,y,aK,ai,c2,b4⟩
  ·exact .inl ae
  ·rcases b7 ai with⟨rfl,rfl,rfl⟩| ⟨_,ai⟩
   ·exact .inr ⟨_,_,_,ab,aa,b4⟩
   ·exact .inr ⟨_,_,_,ai,c2,b4⟩
 have nv:q5 os (os.set i (x,e9)):=by
  intro j y aK ai;by_cases e:j=i
  ·subst e;rw[ab]at ai;cases ai;exact⟨e9,List.getElem?_set_self ap,hk⟩
  ·exact⟨aK,by rw[List.getElem?_set_ne (fun cd=>e cd.symm)];exact ai,by cases aK<;>simp[di]⟩
 have k:cT (a8 aA os) (a8 aA (os.set i (x,e9))) w w':=⟨ax.size,fun b _ ae=>fV b ae,fun b ae aS=>ax.block b ae (fun e=>aS (.inr ⟨i,x,bm,ab,aa,e.symm⟩))⟩
 refine⟨h.size,h.defers,mJ.yv h.fH ax (fun g e=>((h.cp i x bm ab).gW aa e).1),h.a0,by rw[kj,h.loc,List.map_set],fun t=>(h.env t).b9 k nv,fun j y aK ai=> ?_,fun ps r3 y cQ z eI b h1 ad d1 d2 cC cH=> ?_⟩
 ·rcases b7 ai with⟨rfl,rfl,rfl⟩| ⟨bx,ai⟩
  ·exact eg
  ·exact(h.cp j y aK ai).b9 k nv (fun b c2 ae=>ax.block b ((h.cp j y aK ai).gW c2 ae).2 (fun e=>bx (h.inj j i _ _ _ _ b ai ab c2 aa ae e.symm)))
 ·rcases b7 h1 with⟨rfl,rfl,rfl⟩| ⟨_,g1⟩<;>rcases b7 ad with⟨rfl,rfl,rfl⟩| ⟨_,g2⟩
  ·rfl
  ·exact h.inj _ _ _ _ _ _ b ab g2 aa d2 cC cH
  ·exact h.inj _ _ _ _ _ _ b g1 ab d1 aa cC cH
  ·exact h.inj _ _ _ _ _ _ b g1 g2 d1 d2 cC cH
def e4(f:aj->aj):aU->aU
 | .cells t cs=>.cells t (cs.map f)
 | .b6 cs=>.b6 (cs.map f)
 |bm=>bm
theorem r4(f:aj->aj):∀l:List aU,mh f l=l.map (e4 f)
 | []=>rfl
 | .cells t cs::r=>by simp[mh,e4,r4 f r]
 | .row e av es::r=>by simp[mh,e4,r4 f r]
 | .bd::r=>by simp[mh,e4,r4 f r]
 | .gone::r=>by simp[mh,e4,r4 f r]
 | .b6 cs::r=>by simp[mh,e4,r4 f r]
theorem bO.sub{A:Nat->Prop}{w:World}{x:Value}{d:aj}(i:Nat)(r:aj)(h:bO A w x d):bO A w x (iH i r d)/\bO A w x (pg i r d):=by
 induction h with
 |v h=>exact⟨.v h,.v h⟩
 |aq xs aS al aT aI bZ aw ae bf cP an _=>exact⟨.aq xs aS al aT aI bZ aw ae bf cP an,.aq xs aS al aT aI bZ aw ae bf cP an⟩
 |nil=>exact⟨.nil,.nil⟩
 |ar=>exact⟨.ar,.ar⟩
 |agg af bf h aN=>
  refine⟨.agg af bf h,.agg (by simpa using af) bf (fun j v d ac aa=> ?_)⟩;rw[List.getElem?_map]at aa;rename_i ds;cases ai:ds[j]? with
  |none=>rw[ai]at aa;cases aa
  |some e=>rw[ai]at aa;simp at aa;subst aa;exact(aN j v e ac ai).1
 | @a1 vs ds af h _=>
  refine⟨.a1 af h,?_⟩;show bO A w _ (nN ds);unfold nN;split
  ·exact .a1 af h
  ·exact .aW
 |cD xs aw ae bf cP an _=>exact⟨.cD xs aw ae bf cP an,.cD xs aw ae bf cP an⟩
 |fn af h _=>exact⟨.fn af h,.fn af h⟩
 |bP _ aH aN=>exact⟨.bP (fun ae=>(aN ae).1) aH,.bP (fun ae=>(aN ae).2) aH⟩
 |aW=>exact⟨.aW,.aW⟩
def NM(i:Nat)(os aJ:cu):Prop:=∀ (j:Nat) (x:Value) (bm:aU),j≠i->os[j]?=some (x,bm)->∃e9,aJ[j]?=some (x,e9)/\di bm e9
theorem NN{i j:Nat}(h:Nat.beq i j=false):j≠i:=fun e=>by subst e;simp at h
theorem a6.sub{A cU:Nat->Prop}{aJ:cu}{w':World}{i:Nat}{HU:Value}{e:TypeId}{av:Nat}{es:List (List aj)}{r:aj}(k:cT A cU w w')(aZ:NM i os aJ)(ab:os[i]?=some (HU,.row e av es))(ao:a6 cU aJ w' HU r)
  {x:Value} {d:aj} (h:a6 A os w x d): (x.oneCell'=true->a6 cU aJ w' x (iH i r d))/\a6 cU aJ w' x (pg i r d):=by
 induction h with
 |bA h=>exact⟨fun _=>.bA ((h.b9 k).sub i r).1,.bA ((h.b9 k).sub i r).2⟩
 | @aP j _ _ _ _ h=>
  have bx:j≠i:=fun e=>by subst e;rw[ab]at h;cases h
  obtain⟨aK,bb,hk⟩:=aZ _ _ _ bx h;cases aK<;>simp[di]at hk
  exact⟨fun _=>.aP bb,.aP bb⟩
 | @dc j _ _ _ _ h=>
  have bx:j≠i:=fun e=>by subst e;rw[ab]at h;cases h
  obtain⟨aK,bb,hk⟩:=aZ _ _ _ bx h;cases aK<;>simp[di]at hk
  exact⟨fun _=>.dc bb,.dc bb⟩
 | @cF j hA off g n c cd ki er h=>
  have key:a6 cU aJ w' (.pointer (some ⟨g,hA*ki+off,none⟩)) (iH i r (.cF j hA off)):=by
   simp only[iH];split
   ·exact .bA .aW
   ·rename_i ae;obtain⟨aK,bb,hk⟩:=aZ _ _ _ (NN ae) h;cases aK<;>simp[di]at hk
    obtain⟨rfl,rfl⟩:=hk;exact .cF bb
  exact⟨fun _=>key,key⟩
 | @own j x _ _ _ h h1=>
  have key:a6 cU aJ w' x (iH i r (.own j)):=by
   simp only[iH];split
   ·rename_i ae;have:=Nat.eq_of_beq_eq_true ae;subst this;rw[ab]at h;cases h;exact ao
   ·rename_i ae;obtain⟨aK,bb,hk⟩:=aZ _ _ _ (NN ae) h;cases aK<;>simp[di]at hk
    exact .own bb h1
  exact⟨fun _=>key,key⟩
 | @dK j x y d h aa h1=>
  have bx:j≠i:=fun e=>by subst e;rw[ab]at h;cases h
  obtain⟨aK,bb,hk⟩:=aZ _ _ _ bx h;have ae:Nat.beq i j=false:=by
   cases ae:Nat.beq i j
   ·rfl
   ·exact absurd (Nat.eq_of_beq_eq_true ae).symm bx
  have hk:aK= .gone:=by cases aK<;>simp[di]at hk;rfl
  subst hk;rcases aa with rfl| ⟨hA,off,rfl⟩
  ·have az:iH i r (.own j)= .own j:=by simp[iH,ae]
   have aG:pg i r (.own j)= .own j:=by simp[pg,az]
   rw[az,aG];exact⟨fun _=>.dK bb (.inl rfl) h1,.dK bb (.inl rfl) h1⟩
  ·have az:iH i r (.cF j hA off)= .cF j hA off:=by simp[iH,ae]
   have aG:pg i r (.cF j hA off)= .cF j hA off:=by simp[pg,az]
   rw[az,aG];exact⟨fun _=>.dK bb (.inr ⟨_,_,rfl⟩) h1,.dK bb (.inr ⟨_,_,rfl⟩) h1⟩
 | @agg vs ds af bf _ aN=>
  refine⟨fun h=>by simp[Value.oneCell']at h,.agg (by simpa using af) bf (fun j v d ac aa=> ?_)⟩;rw[List.getElem?_map]at aa;cases ai:ds[j]? with
  |none=>rw[ai]at aa;cases aa
  |some e=>rw[ai]at aa;simp at aa;subst aa;exact(aN j v e ac ai).1 (bf v (List.mem_of_getElem? ac))
 | @a1 vs ds af bJ h aN=>
  exact⟨fun h1=>by simp[Value.oneCell']at h1,.bA (((a6.a1 af bJ h).nN).b9 k)⟩
 | @fn f vs ds af gu _ aN=>
  have key:a6 cU aJ w' (.func f #[] vs.toArray) (.fn f ds):=.fn af gu (fun j v d ac aa=>by
   have al:=gu d (List.mem_of_getElem? aa);have ad:=(aN j v d ac aa).2;cases d<;>simp[j0,kf]at al<;>exact ad)
  exact⟨fun _=>key,key⟩
 |bP _ aH aN=>exact⟨fun h1=>.bP (fun ae=>(aN ae).1 h1) aH,.bP (fun ae=>(aN ae).2) aH⟩
theorem bT.sub{w':World}{i:Nat}{x x':Value}{e:TypeId}{av:Nat}{es:List (List aj)}{e9:aU}{r:aj}(h:bT aA aY n os s a w)(ab:os[i]?=some (x,.row e av es))(ax:w.grownBy w' (bs x))
  (te:∀b,e9≠ .bd->bs x'=some b->bs x=some b\/w.heap.size<=b)
  (eg:∀aJ,aJ=(os.map fun p=>(p.1,e4 (iH i r) p.2)).set i (x',e9)->jH (a8 aA aJ) aJ aY w' x' e9)
  (ao:∀aJ,aJ=(os.map fun p=>(p.1,e4 (iH i r) p.2)).set i (x',e9)->a6 (a8 aA aJ) aJ w' x r):
  bT aA aY n ((os.map fun p=>(p.1,e4 (iH i r) p.2)).set i (x',e9)) ⟨mI (pg i r) s.env,e1 (mh (iH i r) s.loc) i e9⟩ a w':=by
 have NO:=eg _ rfl;have r5:=ao _ rfl;clear eg ao;generalize gV: (os.map fun p=>(p.1,e4 (iH i r) p.2)).set i (x',e9)=aJ at NO r5⊢;have ap:=(List.getElem?_eq_some_iff.1 ab).1;have eB: (aU.row e av es)≠ .bd:=by simp
 have b7:∀ {j:Nat} {y:Value} {aK:aU},aJ[j]?=some (y,aK)->(j=i/\y=x'/\aK=e9)\/(j≠i/\∃cQ,os[j]?=some (y,cQ)/\aK=e4 (iH i r) cQ):=by
  intro j y aK ai;rw[<-gV]at ai;by_cases e:j=i
  ·subst e;rw[List.getElem?_set_self (by simpa using ap)]at ai;cases ai;exact .inl ⟨rfl,rfl,rfl⟩
  ·rw[List.getElem?_set_ne (fun cd=>e cd.symm),List.getElem?_map]at ai;cases hR:os[j]? with
   |none=>rw[hR]at ai;cases ai
   |some p=>rw[hR]at ai;cases ai;exact .inr ⟨e,_,rfl,rfl⟩
 have c2:∀cQ:aU,e4 (iH i r) cQ≠ .bd↔cQ≠ .bd:=by intro cQ;cases cQ<;>simp[e4]
 have aZ:NM i os aJ:=by
  intro j y cQ bx ai;refine⟨e4 (iH i r) cQ,?_,by cases cQ<;>simp[di,e4]⟩;rw[<-gV,List.getElem?_set_ne (fun cd=>bx cd.symm),List.getElem?_map,ai];rfl
 have fV:∀b,b<w.heap.size->a8 aA aJ b->a8 aA os b:=by
  intro b ae ac;rcases ac with ac| ⟨j,y,aK,ai,aa,b4⟩
  ·exact .inl ac
  ·rcases b7 ai with⟨rfl,rfl,rfl⟩| ⟨_,cQ,hR,rfl⟩
   ·rcases te b aa b4 with ad|ad
    ·exact .inr ⟨_,_,_,ab,eB,ad⟩
    ·omega
   ·exact .inr ⟨_,_,_,hR,(c2 _).1 aa,b4⟩
 have k:cT (a8 aA os) (a8 aA aJ) w w':=⟨ax.size,fV,fun b ae aS=>ax.block b ae (fun e=>aS (.inr ⟨i,x,_,ab,eB,e.symm⟩))⟩
 have AL:∀ {y:Value} {d:aj},a6 (a8 aA os) os w y d->_:=fun bt=>a6.sub (aJ:=aJ) k aZ ab r5 bt;refine⟨h.size,h.defers,mJ.yv h.fH ax (fun g e=>((h.cp i x _ ab).gW eB e).1),h.a0,?_,fun t=> ?_,fun j y aK ai=> ?_,fun ps r3 y cQ z eI b h1 ad d1 d2 cC cH=> ?_⟩
 ·rw[<-gV,kj,r4,h.loc,List.map_set,List.map_map,List.map_map];rfl
 ·show a6 _ _ _ _ (look (mI (pg i r) s.env) t);rw[yo _ (by rfl)];exact(AL (h.env t)).2
 ·rcases b7 ai with⟨rfl,rfl,rfl⟩| ⟨bx,cQ,hR,rfl⟩
  ·exact NO
  ·have hQ:=h.cp j y cQ hR;have NP:∀b,cQ≠ .bd->bs y=some b->w'.heap[b]?=w.heap[b]?:=fun b aa ae=>ax.block b (hQ.gW aa ae).2 (fun e=>bx (h.inj j i _ _ _ _ b hR ab aa eB ae e.symm));cases cQ with
   |bd=>exact trivial
   |gone=>exact hQ
   |b6 ds=>
    obtain⟨az,aG,a7,b5⟩:=hQ;refine⟨az,by simpa using aG,a7,fun nX v d ac aa=> ?_⟩;rw[List.getElem?_map]at aa;cases ai:ds[nX]? with
    |none=>rw[ai]at aa;cases aa
    |some bD=>
     rw[ai]at aa;simp at aa;subst aa;exact(AL (b5 nX v bD ac ai)).1 (a7 v (List.mem_of_getElem? ac))
   |cells t cs=>
    obtain⟨g,arr,rfl,cR,bp,ag,bf,gY⟩:=hQ;refine⟨g,arr,rfl,cR,(NP g (by simp) rfl).trans bp,by simpa using ag,bf,fun j v d ac aa=> ?_⟩;rw[List.getElem?_map]at aa;cases ai:cs[j]? with
    |none=>rw[ai]at aa;cases aa
    |some bD=>
     rw[ai]at aa;simp at aa;subst aa;refine(AL (gY j v bD ac ai)).1 (bf v ?_);rw[<-Array.getElem?_toList]at ac;exact List.mem_of_getElem? ac
   |row aG p9 r6=>
    obtain⟨gI,xs,bJ,bZ,fp,bf,gY⟩:=hQ;refine⟨gI,xs,⟨bJ.1,?_⟩,bZ,fp,bf,fun dv j r d h1 ad=> ?_⟩
    ·rcases bJ.2 with aS| ⟨g,cap,cur,rfl,cR,bp,rest⟩
     ·exact .inl aS
     ·exact .inr ⟨g,cap,cur,rfl,cR,(NP g (by simp) rfl).trans bp,rest⟩
    ·obtain⟨v,ac,ab⟩:=gY dv j r d h1 ad;exact⟨v,ac,ab.b9 k⟩
 ·rcases b7 h1 with⟨rfl,rfl,rfl⟩| ⟨jM,hP,g1,rfl⟩<;>rcases b7 ad with⟨rfl,rfl,rfl⟩| ⟨j4,ir,g2,rfl⟩
  ·rfl
  ·have nw:=((h.cp _ _ _ g2).gW ((c2 _).1 d2) cH).2;rcases te b d1 cC with aC|aC
   ·exact h.inj _ _ _ _ _ _ b ab g2 eB ((c2 _).1 d2) aC cH
   ·omega
  ·have jN:=((h.cp _ _ _ g1).gW ((c2 _).1 d1) cC).2;rcases te b d2 cH with aC|aC
   ·exact h.inj _ _ _ _ _ _ b g1 ab ((c2 _).1 d1) eB cC aC
   ·omega
  ·exact h.inj _ _ _ _ _ _ b g1 g2 ((c2 _).1 d1) ((c2 _).1 d2) cC cH
end
open Go
section
variable {P:Program} {ah:c4} {aA:Nat->Prop} {aY:dP} {n:Nat} {os:cu} {s:bu} {a:Act} {w:World} {o:Oper} {K:bu->Prop}
def c8(aA:Nat->Prop)(aY:dP)(n:Nat)(K:bu->Prop)(a:Act)(w:World):Prop:=∃os s,bT aA aY n os s a w/\K s
theorem hB{next:Act->World->Prop}{Q:Exit->Act->World->Prop}{x:Value}{w':World}(cW: (execOp a.eval o).run P w= .ok (.value x) w')(h:next (a.put o.dst x) w'):o.wp P a w next Q:=by
 unfold Oper.wp;rw[cW];exact h
theorem NQ{next:Act->World->Prop}{Q:Exit->Act->World->Prop}{w':World}(cW: (execOp a.eval o).run P w= .ok .skip w')(h:next (a.put o.dst undef) w'):o.wp P a w next Q:=by
 unfold Oper.wp;rw[cW];exact h
theorem c8.put{dst:Option Tmp}{x:Value}{d:aj}(h:bT aA aY n os s a w)(aa:∀t,dst=some t->t<n)(ao:a6 (a8 aA os) os w x d)(ak:e0 s dst d K):c8 aA aY n K (a.put dst x) w:=
 ⟨os,_,h.put aa ao,wx.1 ak⟩
theorem AM{A:Nat->Prop}{d:aj}:a6 A os w undef (.bP false d):=.bP (fun h=>by cases h) (fun _=>rfl)
theorem nW.b9{A cU:Nat->Prop}{os aJ:cu}{w w':World}{arr:Array Value}{cs:List aj}(h:nW A os w arr cs)(k:cT A cU w w')(aZ:q5 os aJ):nW cU aJ w' arr cs:=
 ⟨h.size,h.dD,fun i v d ac aa=>(h.gw i v d ac aa).b9 k aZ⟩
theorem tf{x:Value}{bm:aU}: (os++ [(x,bm)])[os.length]?=some (x,bm):=by simp
theorem bT.len(h:bT aA aY n os s a w):s.loc.length=os.length:=by rw[h.loc];simp
theorem NR{w':World}{x:Value}{bm:aU}(h:bT aA aY n os s a w)(ax:w.grownBy w' none)(kl:∀b,bs x=some b->w.heap.size<=b):cT (a8 aA os) (a8 aA (os++ [(x,bm)])) w w':=
 .nq ax (fun b ae ac=>by
  rcases NL ac with ac| ⟨_,ac⟩
  ·exact ac
  ·have:=kl b ac;omega)
theorem NS{t:TypeId}{arr:Array Value}{cs:List aj}(h:bT aA aY n os s a w)(ao:nW (a8 aA os) os w arr cs):
  bT aA aY n (os++ [(.pointer (some ⟨w.heap.size,0,none⟩),.cells t cs)]) ⟨s.env,s.loc++ [.cells t cs]⟩ a (w.alloc (.cells arr t)):=by
 have kl:∀b,bs (.pointer (some ⟨w.heap.size,0,none⟩))=some b->w.heap.size<=b:=by
  intro b ae;simp[bs]at ae;omega
 refine h.push (World.grownBy_alloc w _ none) kl ?_;have iZ:=ao.b9 (NR (bm:=.cells t cs) h (World.grownBy_alloc w (.cells arr t) none) kl) (HT (.pointer (some ⟨w.heap.size,0,none⟩)) (.cells t cs));exact⟨w.heap.size,arr,rfl,dP.pr h.fH (Nat.le_refl _),heap_alloc_new w _,iZ.size,iZ.dD,iZ.gw⟩
theorem Ws(aO:cS P ah=true){t:TypeId}{Q:Exit->Act->World->Prop}(aF:o.op= .alloc t)(h:bT aA aY n os s a w)(aa:∀t,o.dst=some t->t<n)(ag: (ay ah t).size≠0)
  (ak:e0 ⟨s.env,s.loc++ [.cells t (ay ah t).zero]⟩ o.dst (.aP s.loc.length 0) K):o.wp P a w (c8 aA aY n K) Q:=by
 obtain⟨z,bE,ao,_⟩:=DX (A:=a8 aA os) (os:=os) (w:=w) aO ag;have au:=NS (t:=t) h ao;refine hB (x:=.pointer (some ⟨w.heap.size,0,none⟩)) (w':=w.alloc (.cells z.cells t)) ?_ (c8.put au aa ?_ ak)
 ·simp only[execOp,aF,Instr.alloc,Sem.run_bind,bE,Result.andThen_ok,newVar,newRow,run_newObj,Sem.run_pure,World.alloc_eq]
 ·rw[h.len];exact .aP tf
theorem NT{t:TypeId}{x:Operand}{d:aj}{Q:Exit->Act->World->Prop}(aF:o.op= .box t x)(h:bT aA aY n os s a w)(aa:∀t,o.dst=some t->t<n)(e:bq s x=d)(h1:∀b bD,d≠ .bP b bD)(ad:∀l,d≠ .a1 l)(aC:d≠ .aW)
  (ak:e0 ⟨s.env,s.loc++ [.cells t (cN d)]⟩ o.dst (.aP s.loc.length 0) K):o.wp P a w (c8 aA aY n K) Q:=by
 have an:=h.bq x;rw[e]at an;obtain⟨af,bf,au⟩:=an.cells h1 ad aC;have au:=NS (t:=t) h (arr:=(a.eval x).cells) (cs:=cN d) ⟨by simpa using af,bf,fun i v d ac aa=>au i v d (by simpa using ac) aa⟩;refine hB (x:=.pointer (some ⟨w.heap.size,0,none⟩)) (w':=w.alloc (.cells (a.eval x).cells t)) ?_ (c8.put au aa ?_ ak)
 ·simp only[execOp,aF,Instr.box,Sem.run_bind,Result.andThen_ok,newVar,newRow,run_newObj,Sem.run_pure,World.alloc_eq]
 ·rw[h.len];exact .aP tf
theorem DZ{g:Nat}{cs:Array Value}:w.grownBy (w.setRow g cs) (some g):=
 ⟨rfl,rfl,rfl,by simp,fun k hk bx=>setRow_other w g k cs (fun e=>bx (by rw[e]))⟩
theorem yx{vs cur:List Value}{off j:Nat}(h:off+vs.length<=cur.length): (cur.take off++vs++cur.drop (off+vs.length))[j]?=if off<=j/\j<off+vs.length then vs[j-off]? else cur[j]?:=by
 have h1: (cur.take off).length=off:=by simp;omega
 by_cases dX:j<off
 ·rw[if_neg (by omega),List.append_assoc,List.getElem?_append_left (by omega),List.getElem?_take,if_pos dX]
 ·by_cases de:j<off+vs.length
  ·rw[if_pos ⟨by omega,de⟩,List.getElem?_append_left (by simp;omega),List.getElem?_append_right (by omega),h1]
  ·rw[if_neg (by omega),List.getElem?_append_right (by simp;omega),List.getElem?_drop];congr 1;simp;omega
theorem D0{vs cur:List Value}{off:Nat}(h:off+vs.length<=cur.length): (cur.take off++vs++cur.drop (off+vs.length)).length=cur.length:=by simp;omega
theorem NU(aO:cS P ah=true){t:TypeId}{x y:Operand}{g off:Nat}{cur:Array Value}{ty:TypeId}(aF:o.op= .store t x y)(ag: (ay ah t).size≠0)(an:a.eval x= .pointer (some ⟨g,off,none⟩))(bZ: (a.eval y).cells.size=(ay ah t).size)(bf:∀v∈ (a.eval y).cells.toList,v.oneCell'=true)
  (ax:w.heap[g]?=some (.cells cur ty (0,0))) (eO:off+(a.eval y).cells.size<=cur.size):
  (execOp a.eval o).run P w= .ok .skip (w.setRow g (cur.toList.take off++(a.eval y).cells.toList++cur.toList.drop (off+(a.eval y).cells.toList.length)).toArray):=by
 have:=run_storeCells_at P g off ty (a.eval y).cells.toList 0 cur w ax (by simpa using eO) bf;simp only[Nat.add_zero]at this;have bx:¬((a.eval y).cells.size≠ (ay ah t).size):=fun h=>h bZ;simp only[execOp,aF,Instr.storeAt,an,Instr.sureAddr,storeVar,Sem.run_bind,Sem.run_pure,Result.andThen_ok,hM aO ag,if_neg bx,this]
theorem NV(aO:cS P ah=true){t ty:TypeId}{x y:Operand}{i off g:Nat}{cs:List aj}{d:aj}{Q:Exit->Act->World->Prop}(aF:o.op= .store t x y)(h:bT aA aY n os s a w)(aa:∀t,o.dst=some t->t<n)
  (ag: (ay ah t).size≠0) (an:a.eval x= .pointer (some ⟨g,off,none⟩)) (ab:os[i]?=some (.pointer (some ⟨g,0,none⟩),.cells ty cs)) (e:bq s y=d) (h1:∀b bD,d≠ .bP b bD) (ad:∀l,d≠ .a1 l) (aC:d≠ .aW)
  (bZ: (cN d).length=(ay ah t).size) (eO:off+(cN d).length<=cs.length) (ak:e0 ⟨s.env,e1 s.loc i (.cells ty (hl cs off (cN d)))⟩ o.dst (.bP false (.v (.bool false))) K):o.wp P a w (c8 aA aY n K) Q:=by
 have bt:=h.bq y;rw[e]at bt;obtain⟨af,bf,au⟩:=bt.cells h1 ad aC;obtain⟨arr,bp,Wt,cR,Wu,Wv,_⟩:=tb h.cp ab;have fG: (a.eval y).cells.size=(cN d).length:=by simpa using af
 have tg:off+(a.eval y).cells.toList.length<=arr.toList.length:=by simp only[Array.length_toList];omega
 have cW:=NU (P:=P) (w:=w) aO aF ag an (by omega) bf bp (by omega);refine NQ cW (c8.put (os:=os.set i (.pointer (some ⟨g,0,none⟩),.cells ty (hl cs off (cN d)))) (h.AK ab (e9:=.cells ty (hl cs off (cN d))) rfl (by simp) (by simp) DZ ?_) aa AM ak);have nv:q5 os (os.set i (.pointer (some ⟨g,0,none⟩),.cells ty (hl cs off (cN d)))):=by
  intro j z aK ai;by_cases e:j=i
  ·subst e;rw[ab]at ai;cases ai;exact⟨_,List.getElem?_set_self (List.getElem?_eq_some_iff.1 ab).1,rfl⟩
  ·exact⟨aK,by rw[List.getElem?_set_ne (fun cd=>e cd.symm)];exact ai,by cases aK<;>simp[di]⟩
 have jq:cT (a8 aA os) (a8 aA (os.set i (.pointer (some ⟨g,0,none⟩),.cells ty (hl cs off (cN d))))) w (w.setRow g (arr.toList.take off++(a.eval y).cells.toList++arr.toList.drop (off+(a.eval y).cells.toList.length)).toArray):=by
  refine⟨by simp,fun b ae ac=> ?_,fun b ae aS=>setRow_other w g b _ (fun e=>aS (.inr ⟨i,_,_,ab,by simp,by simp[bs,e]⟩))⟩;rcases ac with ac| ⟨j,z,aK,ai,c2,b4⟩
  ·exact .inl ac
  ·by_cases e:j=i
   ·subst e;rw[List.getElem?_set_self (List.getElem?_eq_some_iff.1 ab).1]at ai;cases ai;exact .inr ⟨_,_,_,ab,by simp,b4⟩
   ·rw[List.getElem?_set_ne (fun cd=>e cd.symm)]at ai;exact .inr ⟨j,z,aK,ai,c2,b4⟩
 refine⟨g,_,rfl,cR,setRow_heap w g arr _ ty _ bp,?_,fun v ac=> ?_,fun j v bD ac p7=> ?_⟩
 ·rw[List.size_toArray,D0 tg,DH];simpa using Wt
 ·obtain⟨j,ai,rfl⟩:=List.getElem_of_mem ac;have gK:=List.getElem?_eq_getElem ai;simp only[]at gK;rw[yx tg]at gK;split at gK
  ·exact bf _ (List.mem_of_getElem? gK)
  ·exact Wu _ (List.mem_of_getElem? gK)
 ·rw[List.getElem?_toArray,yx tg]at ac;rw[DI _ _ _ _ eO,<-af]at p7;split at ac
  ·rename_i al;rw[if_pos al]at p7;exact(au _ v bD ac p7).b9 jq nv
  ·rename_i al;rw[if_neg al]at p7;exact(Wv j v bD (by simpa using ac) p7).b9 jq nv
end
open Go
structure fW(A:Nat->Prop)(w:World)(xs:List Value)(es:List (List aj))(av:Nat):Prop where
 len:xs.length=es.length*av
 hK:∀r∈es,r.length=av
 dD:∀v∈xs,v.oneCell'=true
 gw:∀ (k j:Nat) r d,es[k]?=some r->r[j]?=some d->∃v,xs[k*av+j]?=some v/\bO A w v d
theorem fW.b9{A cU:Nat->Prop}{w w':World}{xs:List Value}{es:List (List aj)}{av:Nat}(h:fW A w xs es av)(k:cT A cU w w'):fW cU w' xs es av:=
 ⟨h.len,h.hK,h.dD,fun dv j r d h1 ad=>by obtain⟨v,ac,ab⟩:=h.gw dv j r d h1 ad;exact⟨v,ac,ab.b9 k⟩⟩
theorem fW.append{A:Nat->Prop}{w:World}{xs ys:List Value}{es fs:List (List aj)}{av:Nat}(h:fW A w xs es av)(bb:fW A w ys fs av):fW A w (xs++ys) (es++fs) av:=by
 refine⟨by rw[List.length_append,List.length_append,h.len,bb.len,Nat.add_mul],fun r ao=> ?_,fun v ac=> ?_,fun k j r d hk ai=> ?_⟩
 ·rcases List.mem_append.1 ao with ao|ao
  ·exact h.hK r ao
  ·exact bb.hK r ao
 ·rcases List.mem_append.1 ac with ac|ac
  ·exact h.dD v ac
  ·exact bb.dD v ac
 ·by_cases ap:k<es.length
  ·rw[List.getElem?_append_left ap]at hk;obtain⟨v,ac,ab⟩:=h.gw k j r d hk ai;exact⟨v,by rw[List.getElem?_append_left (List.getElem?_eq_some_iff.1 ac).1];exact ac,ab⟩
  ·rw[List.getElem?_append_right (by omega)]at hk;obtain⟨v,ac,ab⟩:=bb.gw _ j r d hk ai;have hle:es.length*av<=k*av:=Nat.mul_le_mul_right _ (by omega);refine⟨v,?_,ab⟩;rw[List.getElem?_append_right (by rw[h.len];omega),h.len];rw[Nat.sub_mul]at ac;rw[<-ac];congr 1;omega
theorem fW.nil{A:Nat->Prop}{w:World}{av:Nat}:fW A w [] [] av:=⟨by simp,by simp,by simp,by simp⟩
section
variable {P:Program} {ah:c4} {aA:Nat->Prop} {aY:dP} {n:Nat} {os:cu} {s:bu} {a:Act} {w:World} {o:Oper} {K:bu->Prop} {A:Nat->Prop} {B:Nat} {H:dP}
theorem oG{w':World}{x:Value}{e:TypeId}{av:Nat}{es:List (List aj)}{xs:List Value}(gI:∀b,bs x=some b->H.mine b)(bJ:w'.ownsRow 0 e av x es.length xs)(bZ:0<av)(ao:fW A w' xs es av):jH A os H w' x (.row e av es):=
 ⟨gI,xs,bJ,bZ,ao.hK,ao.dD,ao.gw⟩
theorem yy{x:Value}{e:TypeId}{av:Nat}{es:List (List aj)}(h:jH A os H w x (.row e av es)):∀b,bs x=some b->H.mine b:=h.1
theorem r7{x:Value}{e:TypeId}{av:Nat}{es:List (List aj)}(h:jH A os H w x (.row e av es)):∃xs,w.ownsRow 0 e av x es.length xs/\0<av/\fW A w xs es av:=by
 obtain⟨_,xs,bJ,bZ,ao,bf,iP⟩:=h;exact⟨xs,bJ,bZ,⟨bJ.1,ao,bf,iP⟩⟩
theorem HV{x:Value}{av:Nat}{es:List (List aj)}{f:Bool}(bZ:0<av)(h:bO A w x (.aq av es f)): (x= .slice none 0 0/\es=[])\/
  ∃b3 c xs,x= .slice (some b3) es.length c/\es.length<=c/\c<=maxLen/\(f=true->c=es.length)/\(es≠ []->¬A b3.block)/\(es≠ []->b3.block<w.heap.size)/\fW A w xs es av/\∀ (j:Nat) v,xs[j]?=some v->w.cell? (b3.add j)=some v:=by
 cases h with
 |nil=>exact .inl ⟨rfl,rfl⟩
 | @aq b3 n c _ _ _ xs aS al aT aI HW aw ae bf cP an=>
  subst aS;obtain⟨vs,af,ac⟩:=DU (Q:=fun j v=>w.cell? (b3.add j)=some v/\v.oneCell'=true/\∀d r,es[j/av]?=some r->r[j%av]?=some d->bO A w v d) (es.length*av) (fun j ai=>by
   have bF:j/av<es.length:=(Nat.div_lt_iff_lt_mul bZ).2 ai;have ao:=HW _ (List.getElem_mem bF);have aT:=Nat.mod_lt j bZ;have h1:=List.getElem?_eq_getElem bF;have ad:es[j/av][j%av]?=some (es[j/av][j%av]'(by omega)):=List.getElem?_eq_getElem (by omega);refine⟨xs (j/av) (j%av),?_,bf _ _,fun d r az aG=>an _ _ _ _ az aG⟩;have:=cP _ _ _ _ h1 ad;rwa[show j/av*av+j%av=j by rw[Nat.mul_comm];exact Nat.div_add_mod j av]at this)
  refine .inr ⟨b3,c,vs,rfl,al,aT,aI,aw,ae,⟨af,HW,fun v D1=> ?_,fun k j r d hk ai=> ?_⟩,fun j v ai=>(ac j v ai).1⟩
  ·obtain⟨j,ai,rfl⟩:=List.getElem_of_mem D1;exact(ac j _ (List.getElem?_eq_getElem ai)).2.1
  ·have e8:=(List.getElem?_eq_some_iff.1 hk).1;have fp:=HW _ (List.mem_of_getElem? hk);have fX:=(List.getElem?_eq_some_iff.1 ai).1;have ap:k*av+j<vs.length:=by
    rw[af];have: (k+1) *av<=es.length*av:=Nat.mul_le_mul_right _ (by omega);rw[Nat.add_mul]at this;omega
   refine⟨vs[k*av+j],List.getElem?_eq_getElem ap,?_⟩;have aC: (k*av+j)/av=k:=by
    rw[Nat.mul_comm,Nat.mul_add_div bZ,Nat.div_eq_of_lt (by omega)];omega
   have bh: (k*av+j)%av=j:=by
    rw[Nat.mul_comm,Nat.mul_add_mod,Nat.mod_eq_of_lt (by omega)]
   exact(ac _ _ (List.getElem?_eq_getElem ap)).2.2 d r (by rw[aC];exact hk) (by rw[bh];exact ai)
theorem wy{x:Value}{e:TypeId}{av:Nat}{es:List (List aj)}{xs:List Value}(bJ:w.ownsRow B e av x es.length xs): (x= .slice none 0 0/\es=[]/\xs=[])\/
  ∃g c,x= .slice (some ⟨g,0,none⟩) es.length c/\es.length<=c/\c<=maxLen/\B<=g/\g<w.heap.size/\∀ (j:Nat) v,xs[j]?=some v->w.cell? (Addr.add ⟨g,0,none⟩ j)=some v:=by
 rcases bJ.2 with⟨rfl,aS⟩| ⟨g,cap,cur,rfl,cR,bp,h1,ad,_⟩
 ·have:es=[]:=List.eq_nil_of_length_eq_zero aS;subst this;exact .inl ⟨rfl,rfl,List.eq_nil_of_length_eq_zero (by simpa using bJ.1)⟩
 ·exact .inr ⟨g,cap,rfl,h1,ad,cR,(Array.getElem?_eq_some_iff.1 bp).1,bJ.cells (g:=g) rfl⟩
theorem HX{x:Value}{d:aj}{e:TypeId}{K:List (List aj)->Bool->Prop}(ag: (ay ah e).size≠0)(hO:uw A os H w)(an:a6 A os w x d)(h:p5 ah e (os.map (·.2)) d K):
  ∃ys km,K ys km/\((x= .slice none 0 0/\ys=[])\/∃b3 c xs,x= .slice (some b3) ys.length c/\fW A w xs ys (ay ah e).size/\∀ (j:Nat) v,xs[j]?=some v->w.cell? (b3.add j)=some v):=by
 unfold p5 at h;split at h
 ·exact⟨_,_,h,.inl ⟨an.mo,rfl⟩⟩
 ·rename_i av es f;split at h
  ·rename_i ae;have ae:=Nat.eq_of_beq_eq_true ae;subst ae;rcases HV (Nat.pos_of_ne_zero ag) an.kT with⟨rfl,rfl⟩| ⟨b3,c,xs,rfl,_,_,_,_,_,ao,al⟩
   ·exact⟨_,_,h,.inl ⟨rfl,rfl⟩⟩
   ·exact⟨_,_,h,.inr ⟨b3,c,xs,rfl,ao,al⟩⟩
  ·exact h.elim
 ·rename_i j;split at h
  ·rename_i aG av es af;split at h
   ·rename_i ae;have ae:=Nat.eq_of_beq_eq_true ae;subst ae;obtain⟨x',gU⟩:=iM af (by simp);have kk:=an.nS gU;subst kk;obtain⟨xs,bJ,_,ao⟩:=r7 (hO _ _ _ gU);rcases wy bJ with⟨rfl,rfl,rfl⟩| ⟨g,c,rfl,_,_,_,_,al⟩
    ·exact⟨_,_,h,.inl ⟨rfl,rfl⟩⟩
    ·exact⟨_,_,h,.inr ⟨_,c,xs,rfl,ao,al⟩⟩
   ·exact h.elim
  ·exact h.elim
 ·exact h.elim
theorem AN(aO:cS P ah=true){t ty e:TypeId}(hk: (ay ah t).k= .dW e)(ag: (ay ah e).size≠0){base:Nat}{v:Value}{m:Nat}{xs news:List Value}(bJ:w.ownsRow base e (ay ah e).size v m xs)
  {b3:Addr} {k c:Nat} (af:news.length=k* (ay ah e).size) (lO:∀ (j:Nat) u,news[j]?=some u->w.cell? (b3.add j)=some u) (h1:∀u∈news,u.oneCell'=true) (aI:iJ ah e (m+k)) (Ww:base<=w.heap.size):
  ∃v' w',(Builtin.append_ #[t,t] ty #[v,.slice (some b3) k c]).run P w= .ok v' w'/\w'.ownsRow base e (ay ah e).size v' (m+k) (xs++news)/\w.grownBy w' (bs v)/\(∀b,bs v'=some b->bs v=some b\/w.heap.size<=b):=by
 obtain⟨i,ab,bZ,gx,z,bE,kU,jO⟩:=oD aO ag;have hu:=jJ aO hk;have wz:z.cells.size=(ay ah e).size:=by rw[<-jO];simpa using(q6 (A:=fun _=>False) (w:=w) kU).1
 have iO:v.ownBlock=bs v:=by
  rcases bJ.2 with⟨rfl,_⟩| ⟨g,cap,cur,rfl,_⟩<;>rfl
 obtain⟨v',w',ao,aF,ax,_⟩:=run_append_own (P:=P) w base t ty e i z _ _ hu ab bE bZ gx wz (Nat.pos_of_ne_zero ag) v m xs bJ b3 k c news af lO h1 aI.2 aI.1 Ww;rw[iO]at ax;refine⟨v',w',ao,aF,ax,?_⟩;rcases bJ.2 with⟨rfl,rfl⟩| ⟨g,cap,cur,rfl,Wx,bp,mq,mr,hC,th⟩
 ·by_cases ti:k=0
  ·subst ti;rcases aF.2 with⟨rfl,_⟩| ⟨g,cap,cur,rfl,Wx,bp,mq,mr,hC,th⟩
   ·simp[bs]
   ·exfalso;have cW: (Builtin.append_ #[t,t] ty #[.slice none 0 0,.slice (some b3) 0 c]).run P w= .ok (.slice none 0 0) w:=by
     simp[Builtin.append_,run_underlying hu,sizeOf,typeInfo,ab,Builtin.lenOf,Builtin.firstCells,loadCells,loadCellsFrom]
    rw[cW]at ao;cases ao
  ·have:=run_append_nil (P:=P) w t ty e i z hu ab bE b3 k c news (by rw[af,bZ]) lO (by omega) (by have:=aI.2;simp only[maxLen]at this;omega) (by have:=aI.1;rw[gx];simp only[Nat.zero_add]at this;omega);rw[this]at ao;cases ao;intro b ae;simp[bs]at ae;exact .inr (by omega)
 ·by_cases NW:m+k<=cap
  ·have eO:m*i.size+news.length<=cur.size:=by rw[af,hC,bZ,<-Nat.add_mul];exact Nat.mul_le_mul_right _ NW
   have:=run_append_room (P:=P) w t ty e i hu ab g m cap cur bp b3 k c news (by rw[af,bZ]) lO h1 NW eO;rw[this]at ao;cases ao;intro b ae;exact .inl ae
  ·have holds:∀ (j:Nat) u,xs[j]?=some u->w.cell? ((⟨g,0,none⟩:Addr).add j)=some u:=bJ.cells (g:=g) rfl;have:=run_append_grow (P:=P) w t ty e i z hu ab bE ⟨g,0,none⟩ m cap xs (by rw[bJ.1,bZ]) holds b3 k c news (by rw[af,bZ]) lO (by omega) (by have:=aI.2;simp only[maxLen]at this;omega) (by rw[gx];exact growslice_fits (by omega) aI.1);rw[this]at ao;cases ao;intro b ae;simp[bs]at ae;exact .inr (by omega)
theorem yz{w':World}{x:Value}{e:TypeId}{av:Nat}{es:List (List aj)}{xs:List Value}(h:bT aA aY n os s a w)(ax:w.grownBy w' none)(kl:∀b,bs x=some b->w.heap.size<=b)
  (bJ:w'.ownsRow 0 e av x es.length xs) (bZ:0<av) (ao:fW (a8 aA os) w xs es av):bT aA aY n (os++ [(x,.row e av es)]) ⟨s.env,s.loc++ [.row e av es]⟩ a w':=
 h.push ax kl (oG (fun b ae=>dP.pr h.fH (kl b ae)) bJ bZ (ao.b9 (NR (bm:=.row e av es) h ax kl)))
theorem r8{v:Value}{m:Nat}{e:TypeId}{av:Nat}{xs:List Value}(bJ:w.ownsRow B e av v m xs):v.oneCell'=true:=by
 rcases bJ.2 with⟨rfl,_⟩| ⟨g,cap,cur,rfl,_⟩<;>rfl
theorem Wy{v:Value}{m yA:Nat}{e:TypeId}{av:Nat}{xs:List Value}(bJ:w.ownsRow B e av v m xs)(h:yA<=B):w.ownsRow yA e av v m xs:=by
 refine⟨bJ.1,?_⟩;rcases bJ.2 with aS| ⟨g,cap,cur,e,cR,rest⟩
 ·exact .inl aS
 ·exact .inr ⟨g,cap,cur,e,Nat.le_trans h cR,rest⟩
theorem NX{t c1:TypeId}{x y:Operand}{args:Array Operand}{dL:Array TypeId}(aF:o.op= .call {callee:=.builtin .append,args:=args,argTypes:=dL})(aZ:args.toList=[x,y])(gJ:dL.toList=[t,c1])(jP:t=c1){r:Value}{w':World}
  (ao: (Builtin.append_ #[t,t] o.type #[a.eval x,a.eval y]).run P w= .ok r w'): (execOp a.eval o).run P w= .ok (.value r) w':=by
 obtain rfl:args= #[x,y]:=by cases args;simp at aZ;simp[aZ]
 subst jP;obtain rfl:dL= #[t,t]:=by cases dL;simp at gJ;simp[gJ]
 simp only[execOp,aF,resolve,invoke,builtin,Sem.run_bind,Sem.run_pure,Result.andThen_ok,List.map_toArray,List.map_cons,List.map_nil,ao]
theorem yB{t ty e:TypeId}(aO:cS P ah=true)(hk: (ay ah t).k= .dW e)(ag: (ay ah e).size≠0){b3:Option Addr}{m c:Nat}(HY:m<=c):
  (Builtin.append_ #[t,t] ty #[.slice b3 m c,.slice none 0 0]).run P w= .ok (.slice b3 m c) w:=by
 obtain⟨i,ab,bZ,_⟩:=oD aO ag;have hu:=jJ aO hk;cases b3<;>simp[Builtin.append_,run_underlying hu,sizeOf,typeInfo,ab,Builtin.lenOf,Builtin.firstCells,HY,storeCells]
theorem NY{t ty e:TypeId}(aO:cS P ah=true)(hk: (ay ah t).k= .dW e)(ag: (ay ah e).size≠0){b3 jK:Option Addr}{m c eA:Nat}(HY:m<=c):
  (Builtin.append_ #[t,t] ty #[.slice b3 m c,.slice jK 0 eA]).run P w= .ok (.slice b3 m c) w:=by
 obtain⟨i,ab,bZ,_⟩:=oD aO ag;have hu:=jJ aO hk;cases b3<;>cases jK<;>simp[Builtin.append_,run_underlying hu,sizeOf,typeInfo,ab,Builtin.lenOf,Builtin.firstCells,HY,storeCells,loadCells,loadCellsFrom]
abbrev D3(A:Nat->Prop)(w:World)(av:Nat)(y:Value)(ys:List (List aj)):Prop:=
 (y= .slice none 0 0/\ys=[])\/∃b3 c xs,y= .slice (some b3) ys.length c/\fW A w xs ys av/\∀ (j:Nat) v,xs[j]?=some v->w.cell? (b3.add j)=some v
theorem NZ(aO:cS P ah=true){t ty e:TypeId}(hk: (ay ah t).k= .dW e)(ag: (ay ah e).size≠0){y:Value}{ys:List (List aj)}(eO:iJ ah e ys.length)(bt:D3 A w (ay ah e).size y ys):
  ∃v' w' xs,(Builtin.append_ #[t,t] ty #[.slice none 0 0,y]).run P w= .ok v' w'/\w'.ownsRow 0 e (ay ah e).size v' ys.length xs/\w.grownBy w' none/\(∀b,bs v'=some b->w.heap.size<=b)/\fW A w xs ys (ay ah e).size:=by
 rcases bt with⟨rfl,rfl⟩| ⟨b3,c,news,rfl,ao,al⟩
 ·exact⟨_,_,[],yB aO hk ag (Nat.le_refl 0),⟨by simp,.inl ⟨rfl,rfl⟩⟩,grownBy.rd w none,by simp[bs],.nil⟩
 ·obtain⟨v',w',cW,bJ,ax,ae⟩:=AN (P:=P) (ty:=ty) aO hk ag (World.ownsRow_nil w 0 e (ay ah e).size) ao.len al ao.dD (by simpa using eO) (Nat.zero_le _);rw[Nat.zero_add,List.nil_append]at bJ;exact⟨v',w',news,cW,bJ,ax,fun b nu=>by rcases ae b nu with h1|h1;simp[bs]at h1;exact h1,ao⟩
theorem Wz(aO:cS P ah=true){t ty e:TypeId}(hk: (ay ah t).k= .dW e)(ag: (ay ah e).size≠0){x y:Value}{es ys:List (List aj)}{xs:List Value}(bJ:w.ownsRow 0 e (ay ah e).size x es.length xs)(gY:fW A w xs es (ay ah e).size)
  (eO:iJ ah e (es.length+ys.length)) (bt:D3 A w (ay ah e).size y ys):
  ∃v' w' HZ,(Builtin.append_ #[t,t] ty #[x,y]).run P w= .ok v' w'/\w'.ownsRow 0 e (ay ah e).size v' (es++ys).length HZ/\w.grownBy w' (bs x)/\(∀b,bs v'=some b->bs x=some b\/w.heap.size<=b)/\fW A w HZ (es++ys) (ay ah e).size:=by
 rcases bt with⟨rfl,rfl⟩| ⟨b3,c,news,rfl,ao,al⟩
 ·have cW: (Builtin.append_ #[t,t] ty #[x,.slice none 0 0]).run P w= .ok x w:=by
   rcases wy bJ with⟨ac,_,_⟩| ⟨g,D4,ac,hle,_⟩
   ·rw[ac];exact yB aO hk ag (Nat.le_refl 0)
   ·rw[ac];exact yB aO hk ag hle
  exact⟨x,w,xs,cW,by simpa using bJ,grownBy.rd _ _,fun b ae=>.inl ae,by simpa using gY⟩
 ·obtain⟨v',w',cW,qa,ax,ae⟩:=AN (P:=P) (ty:=ty) aO hk ag bJ ao.len al ao.dD eO (Nat.zero_le _);exact⟨v',w',xs++news,cW,by rw[List.length_append];exact qa,ax,ae,gY.append ao⟩
theorem N0(aO:cS P ah=true){t ty e:TypeId}(hk: (ay ah t).k= .dW e)(ag: (ay ah e).size≠0){x y:Value}{es ys:List (List aj)}(an:bO A w x (.aq (ay ah e).size es true))
  (eO:iJ ah e (es.length+ys.length)) (bt:D3 A w (ay ah e).size y ys) (oH:0<ys.length):
  ∃v' w' xs,(Builtin.append_ #[t,t] ty #[x,y]).run P w= .ok v' w'/\w'.ownsRow 0 e (ay ah e).size v' (es++ys).length xs/\w.grownBy w' none/\(∀b,bs v'=some b->w.heap.size<=b)/\fW A w xs (es++ys) (ay ah e).size:=by
 have eh:=Nat.pos_of_ne_zero ag;rcases bt with⟨rfl,rfl⟩| ⟨b3,c,news,rfl,ao,al⟩
 ·simp at oH
 ·rcases HV eh an with⟨rfl,rfl⟩| ⟨jK,eA,xs,rfl,hle,aT,aI,_,_,gY,tj⟩
  ·obtain⟨v',w',xs,h1,ad,aC,bh,bL⟩:=NZ (P:=P) (ty:=ty) (A:=A) (w:=w) aO hk ag (ys:=ys) (y:=.slice (some b3) ys.length c) (by simpa using eO) (.inr ⟨b3,c,news,rfl,ao,al⟩);exact⟨v',w',xs,h1,by simpa using ad,aC,bh,by simpa using bL⟩
  ·have wA:=aI rfl;obtain⟨i,ab,bZ,gx,z,bE,kU,jO⟩:=oD aO ag;have hu:=jJ aO hk;have wz:z.cells.size=(ay ah e).size:=by rw[<-jO];simpa using(q6 (A:=fun _=>False) (w:=w) kU).1
   have cW:=run_append_grow (P:=P) w t ty e i z hu ab bE jK es.length eA xs (by rw[gY.len,bZ]) tj b3 ys.length c news (by rw[ao.len,bZ]) al (by omega) (by have:=eO.2;simp only[maxLen]at this;omega) (by rw[gx];exact growslice_fits (by omega) eO.1);refine⟨_,_,xs++news,cW,⟨by rw[(gY.append ao).len],.inr ⟨w.heap.size,_,_,by rw[List.length_append],Nat.zero_le _,heap_alloc_new w.drew _,?_,?_,?_,?_⟩⟩,⟨rfl,rfl,rfl,by simp,fun cM lm _=>(World.grownBy_alloc w.drew _ none).block cM lm (by simp)⟩,fun b ae=>by simp[bs]at ae;omega,gY.append ao⟩
   ·rw[List.length_append];exact grownCap_ge w _ _ e
   ·exact grownCap_le_maxLen w _ _ e eO.2
   ·have dB:=grownCap_ge w (es.length+ys.length) eA e;simp only[Array.size_append,List.size_toArray,size_zeroCells,wz,gY.len,ao.len,<-Nat.add_mul];congr 1;omega
   ·simp only[Array.toList_append,List.append_assoc];rw[<-List.append_assoc,<-(gY.append ao).len];exact List.take_left
theorem N1(aO:cS P ah=true){t c1 e:TypeId}{x y:Operand}{args:Array Operand}{dL:Array TypeId}{Q:Exit->Act->World->Prop}(aF:o.op= .call {callee:=.builtin .append,args:=args,argTypes:=dL})(aZ:args.toList=[x,y])(gJ:dL.toList=[t,c1])(jP:t=c1)
  (hk: (ay ah t).k= .dW e) (ag: (ay ah e).size≠0) (h:bT aA aY n os s a w) (aa:∀t,o.dst=some t->t<n) (ak:Dx ah e s o.dst (bq s x) (bq s y) K):o.wp P a w (c8 aA aY n K) Q:=by
 unfold Dx at ak;rw[h.loc]at ak;obtain⟨ys,km,ak,bt⟩:=HX ag h.cp (h.bq y) ak;have an:=h.bq x;have eh:=Nat.pos_of_ne_zero ag;have exec:=fun {r:Value} {w':World}=>NX (P:=P) (w:=w) (a:=a) (r:=r) (w':=w') aF aZ gJ jP;split at ak
 ·-- nil base
  rename_i ex;rw[ex]at an;have hN:=an.mo;obtain⟨eO,ak⟩:=ak;rcases bt with⟨gd,rfl⟩| ⟨b3,c,news,gd,ao,al⟩
  ·have cW:=yB (w:=w) (ty:=o.type) aO hk ag (b3:=none) (Nat.le_refl 0);refine hB (exec (by rw[hN,gd];exact cW)) ?_;have au:=yz (x:=.slice none 0 0) (e:=e) (av:=(ay ah e).size) (es:=[]) (xs:=[]) h (grownBy.rd w none) (by simp[bs]) ⟨by simp,.inl ⟨rfl,rfl⟩⟩ eh .nil;rw[<-h.loc]at ak;exact c8.put au aa (by rw[h.len];exact .own tf rfl) ak
  ·obtain⟨v',w',cW,bJ,ax,ae⟩:=AN (P:=P) (ty:=o.type) aO hk ag (World.ownsRow_nil w 0 e (ay ah e).size) ao.len al ao.dD (by simpa using eO) (Nat.zero_le _);rw[Nat.zero_add,List.nil_append]at bJ;refine hB (exec (by rw[hN,gd];exact cW)) ?_;have au:=yz (es:=ys) h ax (fun b nu=>by rcases ae b nu with h1|h1;simp[bs]at h1;exact h1) bJ eh ao;rw[<-h.loc]at ak;exact c8.put au aa (by rw[h.len];exact .own tf (r8 bJ)) ak
 ·-- a row of yC WA own
  rename_i i ex;rw[ex]at an;split at ak
  ·rename_i a7 av eP af;split at ak
   ·rename_i ae;simp only[Bool.and_eq_true]at ae;have kD:=Nat.eq_of_beq_eq_true ae.1;have fq:=Nat.eq_of_beq_eq_true ae.2;subst kD;subst fq;obtain⟨x',ab⟩:=iM af (by simp);have kk:=an.nS ab;subst kk;obtain⟨eO,ak⟩:=ak;obtain⟨xs,bJ,_,gY⟩:=r7 (h.cp _ _ _ ab);have fin:∀ {v':Value} {w':World} {news:List Value},(Builtin.append_ #[t,t] o.type #[a.eval x,a.eval y]).run P w= .ok v' w'->w'.ownsRow 0 a7 (ay ah a7).size v' (eP.length+ys.length) (xs++news)->w.grownBy w' (bs (a.eval x))->
      (∀b,bs v'=some b->bs (a.eval x)=some b\/w.heap.size<=b)->fW (a8 aA os) w news ys (ay ah a7).size->o.wp P a w (c8 aA aY n K) Q:=by
     intro v' w' news cW qa ax ae ao;refine hB (exec cW) ?_;have iv:=h.sub (i:=i) (r:=.aW) (x':=v') (e9:=.row a7 (ay ah a7).size (eP++ys)) ab ax (fun b _ b4=>ae b b4) (fun aJ H0=> ?_) (fun aJ _=>.bA .aW)
     ·have jr:e0 ⟨mI (pg i .aW) s.env,e1 (mh (iH i .aW) s.loc) i (.row a7 (ay ah a7).size (eP++ys))⟩ o.dst (.own i) K:=ak;refine c8.put iv aa (.own (e:=a7) (av:=(ay ah a7).size) (es:=eP++ys) ?_ (r8 qa)) jr;rw[List.getElem?_set_self (by simpa using(List.getElem?_eq_some_iff.1 ab).1)]
     ·have jq:cT (a8 aA os) (a8 aA aJ) w w':=by
       refine⟨ax.size,fun b iO ac=> ?_,fun b iO aS=>ax.block b iO (fun e=>aS (.inr ⟨i,_,_,ab,by simp,e.symm⟩))⟩;rcases ac with ac| ⟨j,z,aK,ai,c2,b4⟩
       ·exact .inl ac
       ·rw[H0]at ai;by_cases e:j=i
        ·subst e;rw[List.getElem?_set_self (by simpa using(List.getElem?_eq_some_iff.1 ab).1)]at ai;cases ai;rcases ae b b4 with ad|ad
         ·exact .inr ⟨_,_,_,ab,by simp,ad⟩
         ·omega
        ·rw[List.getElem?_set_ne (fun cd=>e cd.symm),List.getElem?_map]at ai;cases hR:os[j]? with
         |none=>rw[hR]at ai;cases ai
         |some p=>
          rw[hR]at ai;cases ai;exact .inr ⟨j,_,_,hR,fun e=>c2 (by rw[e];rfl),b4⟩
      exact oG (es:=eP++ys) (fun b b4=>(ae b b4).elim (yy (h.cp _ _ _ ab) b) (dP.pr h.fH)) (by rw[List.length_append];exact qa) eh ((gY.append ao).b9 jq)
    rcases bt with⟨gd,rfl⟩| ⟨b3,c,news,gd,ao,al⟩
    ·have cW: (Builtin.append_ #[t,t] o.type #[a.eval x,a.eval y]).run P w= .ok (a.eval x) w:=by
      rw[gd];rcases wy bJ with⟨ac,_,_⟩| ⟨g,D4,ac,hle,_⟩
      ·rw[ac];exact yB aO hk ag (Nat.le_refl 0)
      ·rw[ac];exact yB aO hk ag hle
     exact fin (news:=[]) cW (by simpa using bJ) (grownBy.rd _ _) (fun b ae=>.inl ae) .nil
    ·obtain⟨v',w',cW,qa,ax,ae⟩:=AN (P:=P) (ty:=o.type) aO hk ag bJ ao.len al ao.dD eO (Nat.zero_le _);exact fin (by rw[gd];exact cW) qa ax ae ao
   ·exact ak.elim
  ·exact ak.elim
 ·-- a list WB spare room
  rename_i av es ex;rw[ex]at an;split at ak
  ·rename_i ae;have ae:=Nat.eq_of_beq_eq_true ae;subst ae;obtain⟨eO,ak⟩:=ak;have kV:=HV eh an.kT;have N2:∀ {b3:Addr} {c:Nat} {news:List Value},a.eval y= .slice (some b3) ys.length c->fW (a8 aA os) w news ys (ay ah e).size->(∀ (j:Nat) v,news[j]?=some v->w.cell? (b3.add j)=some v)->0<ys.length->
     ∃v' w' xs,(Builtin.append_ #[t,t] o.type #[a.eval x,a.eval y]).run P w= .ok v' w'/\w'.ownsRow w.heap.size e (ay ah e).size v' (es++ys).length xs/\w.grownBy w' none/\fW (a8 aA os) w xs (es++ys) (ay ah e).size:=by
    intro b3 c news gd ao al oH;rcases kV with⟨hN,rfl⟩| ⟨jK,eA,xs,hN,hle,aT,aI,_,_,gY,tj⟩
    ·obtain⟨v',w',cW,bJ,ax,ae⟩:=AN (P:=P) (ty:=o.type) aO hk ag (World.ownsRow_nil w w.heap.size e (ay ah e).size) ao.len al ao.dD (by simpa using eO) (Nat.le_refl _);rw[Nat.zero_add,List.nil_append]at bJ;exact⟨v',w',news,by rw[hN,gd];exact cW,bJ,ax,ao⟩
    ·have wA:=aI rfl;obtain⟨i,ab,bZ,gx,z,bE,kU,jO⟩:=oD aO ag;have hu:=jJ aO hk;have wz:z.cells.size=(ay ah e).size:=by rw[<-jO];simpa using(q6 (A:=fun _=>False) (w:=w) kU).1
     have cW:=run_append_grow (P:=P) w t o.type e i z hu ab bE jK es.length eA xs (by rw[gY.len,bZ]) tj b3 ys.length c news (by rw[ao.len,bZ]) al (by omega) (by have:=eO.2;simp only[maxLen]at this;omega) (by rw[gx];exact growslice_fits (by omega) eO.1);refine⟨_,_,xs++news,by rw[hN,gd];exact cW,⟨by rw[(gY.append ao).len],.inr ⟨w.heap.size,_,_,by rw[List.length_append],Nat.le_refl _,heap_alloc_new w.drew _,?_,?_,?_,?_⟩⟩,⟨rfl,rfl,rfl,by simp,fun cM lm _=>(World.grownBy_alloc w.drew _ none).block cM lm (by simp)⟩,gY.append ao⟩
     ·rw[List.length_append];exact grownCap_ge w _ _ e
     ·exact grownCap_le_maxLen w _ _ e eO.2
     ·have dB:=grownCap_ge w (es.length+ys.length) eA e;simp only[Array.size_append,List.size_toArray,size_zeroCells,wz,gY.len,ao.len,<-Nat.add_mul];congr 1;omega
     ·simp only[Array.toList_append,List.append_assoc];rw[<-List.append_assoc,<-(gY.append ao).len];exact List.take_left
   split at ak
   ·obtain⟨oH,ak⟩:=ak;rcases bt with⟨gd,rfl⟩| ⟨b3,c,news,gd,ao,al⟩
    ·simp at oH
    ·obtain⟨v',w',xs,cW,bJ,ax,tk⟩:=N2 gd ao al oH;refine hB (exec cW) ?_;have au:=yz (es:=es++ys) h ax (fun b nu=>by
      rcases wy bJ with⟨rfl,_⟩| ⟨g,D4,rfl,_,_,cR,_⟩
      ·simp[bs]at nu
      ·simp[bs]at nu;omega) (Wy bJ (Nat.zero_le _)) eh tk
     rw[<-h.loc]at ak;exact c8.put au aa (by rw[h.len];exact .own tf (r8 bJ)) ak
   ·by_cases oH:ys=[]
    ·subst oH;have cW: (Builtin.append_ #[t,t] o.type #[a.eval x,a.eval y]).run P w= .ok (a.eval x) w:=by
      have D5:∃jK eA,a.eval y= .slice jK 0 eA:=by
       rcases bt with⟨gd,_⟩| ⟨b3,c,news,gd,_⟩
       ·exact⟨_,_,gd⟩
       ·exact⟨_,_,gd⟩
      obtain⟨jK,eA,gd⟩:=D5;rw[gd];rcases kV with⟨hN,_⟩| ⟨ajK,de,xs,hN,hle,_⟩
      ·rw[hN];exact NY aO hk ag (Nat.le_refl 0)
      ·rw[hN];exact NY aO hk ag hle
     refine hB (exec cW) (c8.put h aa ?_ ak);rw[List.append_nil];have jL:=an.kT;generalize a.eval x=H2 at jL;cases jL with
     |aq xs aS al aT aI bZ aw ae bf cP lM=>exact .bA (.aq xs aS al aT (by simp) bZ aw ae bf cP lM)
     |nil=>exact .bA .nil
    ·rcases bt with⟨gd,aS⟩| ⟨b3,c,news,gd,ao,al⟩
     ·exact absurd aS oH
     ·obtain⟨v',w',xs,cW,bJ,ax,tk⟩:=N2 gd ao al (List.length_pos_iff.2 oH);refine hB (exec cW) (c8.put (h.nq ax) aa ?_ ak);have N3:=tk.b9 (cT.nq (A:=a8 aA os) (cU:=a8 aA os) ax (fun _ _ h=>h));rcases wy bJ with⟨rfl,kn,_⟩| ⟨g,D4,rfl,hle,aT,cR,WC,cP⟩
      ·simp[oH]at kn
      ·have aw:¬a8 aA os g:=by
        rintro(h1| ⟨j,z,aK,ai,c2,b4⟩)
        ·have:=h.yw h1;omega
        ·have:=((h.cp j z aK ai).gW c2 b4).2;omega
       refine .bA (.aq (fun k j=>xs.getD (k* (ay ah e).size+j) .nilFunc) rfl hle aT (by simp) tk.hK (fun _=>aw) (fun _=>WC) (fun k j=> ?_) (fun k j r d h1 ad=> ?_) (fun k j r d h1 ad=> ?_))
       ·cases bF:xs[k* (ay ah e).size+j]? with
        |none=>simp[List.getD,bF];rfl
        |some v=>simp[List.getD,bF];exact tk.dD v (List.mem_of_getElem? bF)
       ·obtain⟨v,ac,_⟩:=N3.gw k j r d h1 ad;rw[cP _ v ac];simp[List.getD,ac]
       ·obtain⟨v,ac,ab⟩:=N3.gw k j r d h1 ad;simp only[List.getD,ac];exact ab
  ·exact ak.elim
 ·exact ak.elim
end
end Go.Lift
