/- A data-level logic for the model: what a body does to data; its soundness (part LfA). No conditions. -/
import Derived.WalkKit
set_option linter.unusedSimpArgs false
set_option linter.unusedVariables false
set_option maxRecDepth 100000
set_option maxHeartbeats 16000000
set_option linter.defProp false
namespace Go
def aO:=@And.intro
def Ob:=@Array.foldl_toList
def pA:=@Array.getD_eq_getD_getElem?
def FC:=@Array.getElem?_append_left
def vT:=@Array.getElem?_eq_getElem
def Oc:=@Array.getElem?_eq_none
def xa:=@Array.getElem?_eq_some_iff
def Vv:=@Array.getElem?_mapIdx
def Od:=@Array.getElem?_modify
def Vw:=@Array.getElem?_setIfInBounds
def xb:=@Array.getElem?_toList
def Jq:=@Array.getElem_toList
def CW:=@Array.length_toList
def Oe:=@Array.mapM_eq_mapM_toList
def vU:=@Array.mem_toList_iff
def vV:=@Array.toList_append
def FD:=@BitVec.ofInt_natCast
def FE:=@BitVec.toNat_ofNat
def uD:=@Bool.and_eq_false_iff
def cq:=@Bool.and_eq_true
def oj:=@Bool.and_false
def Of:=@Bool.and_self
def uE:=@Bool.and_true
def Og:=@Bool.eq_iff_iff
def vW:=@Bool.false_and
def tk:=@Bool.false_eq_true
def CX:=@Bool.false_or
def l3:=@Bool.not_eq_false'
def Oh:=@Bool.not_eq_true
def mV:=@Bool.not_eq_true'
def tl:=@Bool.not_false
def kY:=@Bool.not_true
def iK:=@Bool.or_eq_false_iff
def oR:=@Bool.or_eq_true
def Ap:=@Bool.or_self
def FF:=@Bool.or_true
def rH:=@Bool.true_and
def Oi:=@Bool.true_or
def qg:=@Classical.byContradiction
def Jr:=@Except.ok.injEq
def CY:=@Iff.rfl
def qU:=@Int.eq_ofNat_of_zero_le
def Vx:=@Int.fdiv_eq_ediv_of_nonneg
def FG:=@Int.le_of_eq
def lk:=@Int.le_refl
def xc:=@Int.le_trans
def FH:=@Int.lt_irrefl
def Oj:=@Int.lt_or_eq_of_le
def Js:=@Int.mul_emod
def Ol:=@Int.ofNat_inj
def Vy:=@Int.tdiv_eq_ediv_of_nonneg
def lH:=@Int.toNat_natCast
def Om:=@List.Perm.eq_of_pairwise
def FI:=@List.all_cons
def l4:=@List.all_eq_true
def km:=@List.append_assoc
def jM:=@List.append_nil
def rI:=@List.cons_append
def On:=@List.countP_append
def Oo:=@List.countP_cons
def Vz:=@List.countP_eq_length_filter
def Oq:=@List.countP_le_length
def VA:=@List.countP_mono_left
def Ot:=@List.countP_nil
def Ou:=@List.dropWhile_sublist
def FJ:=@List.drop_append_of_le_length
def vX:=@List.drop_drop
def vY:=@List.drop_eq_getElem_cons
def FK:=@List.drop_left
def CZ:=@List.drop_length
def Jt:=@List.drop_of_length_le
def VB:=@List.drop_set_of_lt
def Ov:=@List.eq_nil_of_length_eq_zero
def VC:=@List.eq_of_mem_replicate
def xd:=@List.exists_mem_of_length_pos
def FL:=@List.ext_getElem
def rJ:=@List.ext_getElem?
def nx:=@List.filter_append
def Ju:=@List.filter_congr
def yC:=@List.filter_cons
def VD:=@List.filter_eq_nil_iff
def Aq:=@List.filter_eq_self
def FM:=@List.filter_nil
def vZ:=@List.filter_sublist
def Ar:=@List.find?_eq_none
def Jv:=@List.find?_eq_some_iff_getElem
def Jw:=@List.find?_some
def As:=@List.flatMap_append
def Ow:=@List.foldl_append
def sn:=@List.getD_eq_getElem?_getD
def so:=@List.getElem?_append_left
def xe:=@List.getElem?_append_right
def C0:=@List.getElem?_cons_succ
def C1:=@List.getElem?_cons_zero
def qV:=@List.getElem?_drop
def eP:=@List.getElem?_eq_getElem
def xf:=@List.getElem?_eq_none
def eL:=@List.getElem?_eq_some_iff
def VE:=@List.getElem?_eraseIdx
def e7:=@List.getElem?_map
def C2:=@List.getElem?_set
def v1:=@List.getElem?_set_ne
def oS:=@List.getElem?_set_self
def rK:=@List.getElem?_take
def VF:=@List.getElem?_zip_eq_some
def yD:=@List.getElem_inj
def yE:=@List.getElem_map
def eM:=@List.getElem_mem
def e8:=@List.getElem_of_mem
def VG:=@List.getElem_set_self
def FN:=@List.getElem_take
def Ox:=@List.idxOf_lt_length_of_mem
def fv:=@List.length_append
def lI:=@List.length_cons
def sp:=@List.length_drop
def Jx:=@List.length_eq_one_iff
def v2:=@List.length_eq_zero_iff
def sq:=@List.length_filter_le
def bF:=@List.length_map
def yF:=@List.length_nil
def Au:=@List.length_pos_iff
def VH:=@List.length_pos_of_mem
def FO:=@List.length_replicate
def Oy:=@List.length_set
def kZ:=@List.length_take
def FP:=@List.mapM_cons
def ef:=@List.map_append
def C3:=@List.map_congr_left
def om:=@List.map_cons
def yG:=@List.map_drop
def C4:=@List.map_id
def oT:=@List.map_map
def xg:=@List.map_nil
def nQ:=@List.map_set
def yH:=@List.map_take
def C5:=@List.map_toArray
def eo:=@List.mem_append
def C6:=@List.mem_append_left
def mW:=@List.mem_append_right
def ny:=@List.mem_cons
def FQ:=@List.mem_cons_of_mem
def tm:=@List.mem_cons_self
def h2:=@List.mem_filter
def Oz:=@List.mem_filterMap
def Jy:=@List.mem_flatMap
def fT:=@List.mem_map
def VI:=@List.mem_map_of_mem
def Jz:=@List.mem_of_find?_eq_some
def fo:=@List.mem_of_getElem?
def C7:=@List.mem_of_mem_drop
def nR:=@List.mem_of_mem_take
def uF:=@List.mem_range
def eX:=@List.mem_singleton
def OA:=@List.mergeSort_perm
def nS:=@List.nil_append
def C8:=@List.nodup_cons
def FR:=@List.pairwise_append
def rL:=@List.pairwise_cons
def OB:=@List.pairwise_iff_forall_sublist
def mz:=@List.pairwise_iff_getElem
def yI:=@List.pairwise_map
def OC:=@List.pairwise_mergeSort
def Av:=@List.range_succ
def OD:=@List.replicate_succ'
def VJ:=@List.set_append_right
def FT:=@List.set_getElem_self
def OE:=@List.set_set
def JA:=@List.singleton_append
def JB:=@List.size_toArray
def OF:=@List.takeWhile_append_dropWhile
def VK:=@List.takeWhile_cons
def FU:=@List.takeWhile_prefix
def VL:=@List.takeWhile_sublist
def Aw:=@List.take_append_drop
def JC:=@List.take_append_of_le_length
def fU:=@List.take_length
def sr:=@List.take_of_length_le
def VM:=@List.take_set_of_le
def e4:=@List.take_succ_eq_append_getElem
def OG:=@List.take_zero
def JD:=@Nat.add_assoc
def OH:=@Nat.add_comm
def uG:=@Nat.add_mul
def xh:=@Nat.add_zero
def Ax:=@Nat.beq_refl
def fz:=@Nat.eq_of_beq_eq_true
def nz:=@Nat.le_of_ble_eq_true
def JE:=@Nat.le_of_eq
def bP:=@Nat.le_refl
def OI:=@Nat.le_succ_of_le
def bQ:=@Nat.le_trans
def OJ:=@Nat.lt_of_le_of_lt
def Ay:=@Nat.lt_of_lt_of_le
def l5:=@Nat.lt_or_ge
def yJ:=@Nat.lt_succ_iff_lt_or_eq
def JF:=@Nat.lt_trichotomy
def ss:=@Nat.mod_eq_of_lt
def uH:=@Nat.mod_lt
def Az:=@Nat.mul_comm
def JG:=@Nat.mul_le_mul_left
def kJ:=@Nat.mul_le_mul_right
def C9:=@Nat.mul_one
def OK:=@Nat.not_lt_zero
def FV:=@Nat.one_mul
def tn:=@Nat.pos_of_ne_zero
def JH:=@Nat.pow_le_pow_right
def OL:=@Nat.shiftRight_eq_div_pow
def OM:=@Nat.sub_mul
def AA:=@Nat.sub_self
def ON:=@Nat.sub_zero
def OO:=@Nat.succ_pos
def VN:=@Nat.testBit_lt_two_pow
def uI:=@Nat.zero_add
def bX:=@Nat.zero_le
def JI:=@Option.getD_none
def qW:=@Option.getD_some
def JJ:=@Option.isSome_none
def st:=@Option.map_none
def qh:=@Option.map_some
def v7:=@Option.some.inj
def v8:=@Option.some.injEq
def OP:=@Prod.mk.injEq
def dT:=@Go.Result.andThen_ok
def Da:=@Go.Sem.runT_eq
def dY:=@Go.Sem.run_bind
def FW:=@Go.Sem.run_map
def ey:=@Go.Sem.run_pure
def to:=@Go.Stepped.next.injEq
def wa:=@Go.World.alloc_eq
def uJ:=@Go.World.grownBy_alloc
def OQ:=@Go.World.ownsRow_lit
def JK:=@Go.World.ownsRow_nil
def JL:=@beq_iff_eq
def JM:=@bne_iff_ne
def bs:=@cond_false
def bY:=@cond_true
def e9:=@congrArg
def cX:=@decide_eq_false
def hG:=@decide_eq_false_iff_not
def ep:=@decide_eq_true
def fr:=@decide_eq_true_eq
def wb:=@decide_true
def su:=@getElem!_pos
def JN:=@Go.grownCap_ge
def OR:=@Go.growslice_fits
def AB:=@Go.heap_alloc_new
def uK:=@if_false
def bo:=@if_neg
def b6:=@if_pos
def qX:=@of_decide_eq_false
def fi:=@of_decide_eq_true
def OS:=@Go.run_append_grow
def VO:=@Go.run_convert_bytes_string
def OT:=@Go.run_loadCells_list
def wc:=@Go.run_newObj
def OU:=@Go.run_storeCells_at
def gE:=@Go.run_underlying
def JO:=@Go.setRow_heap
def Db:=@Go.size_madeCells
def ai:=@trivial
end Go
namespace Go.Lift
theorem auJ{a b:Prop}(h:b):(a->a)/\b:=⟨λh=>h,h⟩
inductive ak where
 |v(x:Value)
 |ar(aB:Nat)(es:List (List ak))(tp:Bool)
 |agg(cs:List ak)
 |bd(ds:List ak)
 |c9(cs:List ak)
 |aV(i off:Nat)
 |dU(i off:Nat)
 |db(i k off:Nat)
 |own(i:Nat)
 |fn(f:Fn)(cu:List ak)
 |ca(b:Bool)(d:ak)
 |av
 |a1
inductive aZ where
 |cells(t:TypeId)(cs:List ak)
 |row(e:TypeId)(aB:Nat)(es:List (List ak))
 |bm
 |gone
 |cD(cs:List ak)
structure bK where
 env:List (Nat×ak)
 loc:List aZ
def look:List (Nat×ak)->Nat->ak
 | [],_=>.a1
 |p::r,t=>match Nat.beq p.1 t with
  |true=>p.2
  |false=>look r t
def bK.put(s:bK)(dst:Option Tmp)(d:ak):bK:=
 match dst with
 |some t=>⟨(t,d)::s.env,s.loc⟩
 |none=>s
def FX:List aZ->(List aZ->Prop)->Prop
 | [],K=>K []
 |o::r,K=>FX r λr=>K (o::r)
def tq:List ak->(List ak->Prop)->Prop
 | [],K=>K []
 |c::r,K=>tq r λr=>K (c::r)
theorem xi:∀ {l:List ak} {K:List ak->Prop},tq l K↔K l
 | [],_=>CY
 |_::r,_=>xi (l:=r)
def gq(s:bK)(dst:Option Tmp)(d:ak)(K:bK->Prop):Prop:=
 match s with
 | ⟨e,l⟩=>FX l λl=>match dst with
  |some t=>K ⟨(t,d)::e,l⟩
  |none=>K ⟨e,l⟩
def andO:Option Prop->Option Prop->Option Prop
 |none,c=>c
 |some a,none=>some a
 |some a,some b=>some (a/\b)
def tr(c:Option Prop)(p:Prop):Prop:=
 match c with
 |none=>p
 |some a=>a/\p
def bR:List aZ->Nat->aZ
 | [],_=>.bm
 |o::_,0=>o
 |_::r,n+1=>bR r n
def gr:List aZ->Nat->aZ->List aZ
 | [],_,_=>[]
 |_::r,0,x=>x::r
 |o::r,n+1,x=>o::gr r n x
def jN:aZ->Bool
 | .row .. =>true
 |_=>false
def rM:aZ->Bool
 | .cells .. =>true
 |_=>false
def OV:aZ->Bool
 | .gone=>true
 |_=>false
def uL:List ak->Nat->ak->List ak
 | [],_,_=>[]
 |_::r,0,x=>x::r
 |o::r,n+1,x=>o::uL r n x
def xj:List ak->List ak->List ak
 |l,[]=>l
 | [],_::_=>[]
 |_::l,x::r=>x::xj l r
def xk:List ak->Nat->List ak->List ak
 |l,0,r=>xj l r
 | [],_+1,_=>[]
 |c::l,n+1,r=>c::xk l n r
def jz:List ak->Nat->List ak->List ak
 |l,_,[]=>l
 |l,o,[x]=>uL l o x
 |l,o,x::y::r=>xk l o (x::y::r)
inductive JP where
 |int(k:IntKind)|bool|str|fc (e:TypeId)|b7 (fs:List (TypeId×Nat))|arr (n:Nat) (e:TypeId)|gu
structure FY where
 size:Nat
 bytes:Nat
 agg:Bool
 zero:List ak
 k:JP
abbrev dH:=List (Nat×FY)
def aF:dH->TypeId->FY
 | [],_=>⟨0,0,false,[],.gu⟩
 |p::r,t=>match Nat.beq p.1 t with
  |true=>p.2
  |false=>aF r t
def OW:Value->ak
 | .slice none 0 0=>.av
 | .slice _ _ _=>.a1
 | .agg _=>.a1
 | .tuple _=>.a1
 |x=>.v x
def bG(s:bK):Operand->ak
 | .tmp t=>look s.env t
 | .const v=>OW v
 | .global _=>.a1
 | .func f=>.fn (.func f) []
def ha(d:ak)(K:ak->Prop):Prop:=
 match d with
 | .v x=>K (.v x)
 | .ar aB es f=>K (.ar aB es f)
 | .agg cs=>K (.agg cs)
 | .bd ds=>K (.bd ds)
 | .c9 cs=>K (.c9 cs)
 | .aV i o=>K (.aV i o)
 | .dU i o=>K (.dU i o)
 | .db i k o=>K (.db i k o)
 | .own i=>K (.own i)
 | .fn f c=>K (.fn f c)
 | .ca b d=>K (.ca b d)
 | .av=>K .av
 | .a1=>K .a1
def xl:Nat->List ak->(List ak->Prop)->Prop
 |0,_,K=>K []
 |_+1,[],_=>False
 |n+1,d::r,K=>ha d λd=>xl n r λl=>K (d::l)
def qY:Nat->List ak->(List ak->Prop)->Prop
 |0,l,K=>K l
 |_+1,[],_=>False
 |n+1,_::r,K=>qY n r K
def sv:Operand->Bool
 | .const (.bool b)=>b
 |_=>false
def sw:Operand->Bool
 | .const (.bool b)=> !b
 |_=>false
def ts(b:Bool)(d:ak)(K:Option Prop->ak->Prop):Prop:=
 match d with
 | .ca g d=>K (some (b=true->g=true)) d
 |d=>K none d
def rN(c:Bool)(x y:ak)(xm AD:Bool)(K:ak->Prop):Prop:=
 match x,y with
 | .v (.bool a),.v (.bool b)=>match xm,AD with
  |true,_=>K (.v (.bool (c||b)))
  |_,true=>K (.v (.bool (c&&a)))
  |_,_=>K (.v (.bool (bif c then a else b)))
 |_,_=>False
def sx:IntKind->IntKind->Bool
 | .i8,.i8| .i16,.i16| .i32,.i32| .i64,.i64| .u8,.u8| .u16,.u16| .u32,.u32| .u64,.u64=>true
 |_,_=>false
def dc:ak->List ak
 | .agg cs=>cs
 |d=>[d]
inductive qi where
 |int(k:IntKind)|bool|str
def FZ(g:TypeId->Option (List qi)):List (TypeId×Nat)->Nat->Option (List qi)
 | [],_=>some []
 |f::r,o=>match Nat.beq f.2 o with
  |false=>none
  |true=>match g f.1 with
   |none=>none
   |some c7=>match FZ g r (o+c7.length)with
    |none=>none
    |some l=>some (c7++l)
def flatK(ag:dH):Nat->TypeId->Option (List qi)
 |0,_=>none
 |n+1,t=>match (aF ag t).k with
  | .int k=>some [.int k]
  | .bool=>some [.bool]
  | .str=>some [.str]
  | .b7 fs=>match FZ (flatK ag n) fs 0 with
   |some c7=>match Nat.beq c7.length (aF ag t).size,(aF ag t).size with
    |true,_+1=>some c7
    |_,_=>none
   |none=>none
  |_=>none
def F0(k:qi)(x y:ak)(K:Bool->Prop):Prop:=
 match k,x,y with
 | .int k,.v (.int cU a),.v (.int dh b)=>match sx k cU&&sx k dh with
  |true=>K (decide (a=b))
  |false=>False
 | .str,.v (.string a),.v (.string b)=>K (decide (a=b))
 | .bool,.v (.bool a),.v (.bool b)=>K (a==b)
 |_,_,_=>False
def qZ:List qi->List ak->List ak->(Bool->Prop)->Prop
 | [],[],[],K=>K true
 |k::c7,x::r,y::eH,K=>F0 k x y λe=>qZ c7 r eH λz=>K (e&&z)
 |_,_,_,_=>False
def F1(op:BinOp)(k:IntKind)(a b:Int)(K:Option Prop->ak->Prop):Prop:=
 match op with
 | .add=>K none (.v (.int k (k.wrap (a+b))))
 | .sub=>K none (.v (.int k (k.wrap (a-b))))
 | .mul=>K none (.v (.int k (k.wrap (a*b))))
 | .quo=>K (some (b≠0)) (.v (.int k (k.wrap (a.tdiv b))))
 | .rem=>K (some (b≠0)) (.v (.int k (a.tmod b)))
 | .and=>K none (.v (.int k (bits .and k a b)))
 | .or=>K none (.v (.int k (bits .or k a b)))
 | .xor=>K none (.v (.int k (bits .xor k a b)))
 | .andNot=>K none (.v (.int k (bits .andNot k a b)))
 | .eql=>K none (.v (.bool (decide (a=b))))
 | .neq=>K none (.v (.bool (!decide (a=b))))
 | .lss=>K none (.v (.bool (decide (a<b))))
 | .leq=>K none (.v (.bool (decide (a<=b))))
 | .gtr=>K none (.v (.bool (decide (b<a))))
 | .geq=>K none (.v (.bool (decide (b<=a))))
 |_=>False
def VP:BinOp->Bool
 | .shl| .shr=>true
 |_=>false
def F2(op:BinOp)(k:IntKind)(a b:Int)(K:Option Prop->ak->Prop):Prop:=
 match op with
 | .shl=>K (some (0<=b)) (.v (.int k (k.wrap (a*2^ (min b.toNat k.bits)))))
 | .shr=>K (some (0<=b)) (.v (.int k (a.fdiv (2^ (min b.toNat k.bits)))))
 |_=>False
def JQ(op:BinOp)(a b:ByteArray)(K:Option Prop->ak->Prop):Prop:=
 match op with
 | .eql=>K none (.v (.bool (decide (a=b))))
 | .neq=>K none (.v (.bool (!decide (a=b))))
 | .lss=>K none (.v (.bool (Op.bytesLess a.toList b.toList)))
 |_=>False
def F3(op:BinOp)(a b:Bool)(K:Option Prop->ak->Prop):Prop:=
 match op with
 | .eql=>K none (.v (.bool (a==b)))
 | .neq=>K none (.v (.bool (!(a==b))))
 |_=>False
def Dc(ag:dH)(t:TypeId)(op:BinOp)(a b:List ak)(K:Option Prop->ak->Prop):Prop:=
 match flatK ag 5 t,(aF ag t).agg with
 |some c7,true=>match op with
  | .eql=>qZ c7 a b λr=>K none (.v (.bool r))
  | .neq=>qZ c7 a b λr=>K none (.v (.bool (!r)))
  |_=>False
 |_,_=>False
def Dd(ag:dH)(t:TypeId)(op:BinOp)(x y:ak)(K:Option Prop->ak->Prop):Prop:=
 match x,y with
 | .v (.int k a),.v (.int eQ b)=>match VP op with
  |true=>F2 op k a b K
  |false=>match sx k eQ with
   |true=>F1 op k a b K
   |false=>False
 | .v (.string a),.v (.string b)=>JQ op a b K
 | .v (.bool a),.v (.bool b)=>match (aF ag t).k with
  | .bool=>F3 op a b K
  |_=>False
 | .agg a,.agg b=>Dc ag t op a b K
 |_,_=>False
def h3:List (TypeId×Nat)->Nat->TypeId×Nat
 | [],_=>(0,0)
 |x::_,0=>x
 |_::r,n+1=>h3 r n
def JR:Operand->Option Nat
 | .const (.int _ (.ofNat n))=>some n
 |_=>none
def AE(b:UInt8):List ak:=[.v (.int .u8 b.toNat)]
def rO(ρ:Operand->ak)(place:Nat->Nat×Nat):List (Nat×Operand)->List ak->(List ak->Prop)->Prop
 | [],cs,K=>K cs
 | (i,x)::r,cs,K=>ha (ρ x) λd=>match d with
  | .ca _ _=>False
  | .bd _=>False
  | .a1=>False
  |d=>match Nat.beq (dc d).length (place i).2&&Nat.ble ((place i).1+(dc d).length) cs.length&&Nat.blt 0 (place i).2 with
   |true=>tq (jz cs (place i).1 (dc d)) λdG=>rO ρ place r dG K
   |false=>False
def tt(ρ:Operand->ak):List Operand->(List ak->Prop)->Prop
 | [],K=>K []
 |x::r,K=>ha (ρ x) λd=>tt ρ r λl=>K (d::l)
def mA:ak->Bool
 | .v _| .ar .. | .av| .c9 _| .fn _ []=>true
 |_=>false
def OX:ak->Bool
 | .aV _ _=>true
 |_=>false
def l6:ak->Bool
 | .aV _ _=>true
 |d=>mA d
def q0:ak->Bool
 | .v _| .ar .. | .av| .c9 _=>true
 | .fn _ cu=>cu.all mA
 |_=>false
def pB:List ak->Bool
 | []=>true
 |d::r=>match q0 d with
  |true=>pB r
  |false=>false
def xn(loc:List aZ)(d:ak)(K:Option Prop->ak->Prop):Prop:=
 match d with
 | .aV i o=>K none (.aV i o)
 | .dU i o=>K none (.dU i o)
 | .db i k o=>match jN (bR loc i)with
  |true=>K none (.db i k o)
  |false=>False
 | .c9 cs=>K none (.c9 cs)
 | .fn (.func f) c=>K none (.fn (.func f) c)
 |_=>False
def AF(ρ:Operand->ak)(c a b:Operand)(K:Option Prop->ak->Prop):Prop:=
 match ρ c with
 | .v (.bool t)=>ts t (ρ a) λfF x=>ts (!t) (ρ b) λeR y=>ha x λx=>ha y λy=>rN t x y (sv a) (sw b) λd=>K (andO fF eR) d
 |_=>False
def De(op:UnOp)(d:ak)(K:Option Prop->ak->Prop):Prop:=
 match op,d with
 | .not,.v (.bool b)=>K none (.v (.bool !b))
 | .neg,.v (.int k n)=>K none (.v (.int k (k.wrap (0-n))))
 | .xor,.v (.int k n)=>K none (.v (.int k (bits .xor k (if k.signed then -1 else k.max) n)))
 |_,_=>False
def Df(ag:dH)(c7 k:JP)(d:ak)(K:Option Prop->ak->Prop):Prop:=
 match c7,k,d with
 | .int _,.int k,.v (.int _ n)=>K none (.v (.int k (k.wrap n)))
 | .str,.str,.v (.string s)=>K none (.v (.string s))
 | .fc e,.str,.ar aB es _=>match (aF ag e).k,Nat.beq aB 1 with
  | .int .u8,true=>∃rP:List UInt8,K (some (es=rP.map AE)) (.v (.string ⟨rP.toArray⟩))
  |_,_=>False
 |_,_,_=>False
def xo(ag:dH)(loc:List aZ)(t:TypeId)(f:Nat)(d:ak)(K:Option Prop->ak->Prop):Prop:=
 match (aF ag t).k with
 | .b7 fs=>match (aF ag (h3 fs f).1).size with
  |0=>False
  |_=>match d with
   | .aV i o=>K none (.aV i (o+(h3 fs f).2))
   | .dU i o=>K none (.dU i (o+(h3 fs f).2))
   | .db i k o=>match jN (bR loc i)with
    |true=>K none (.db i k (o+(h3 fs f).2))
    |false=>False
   | .c9 cs=>qY (h3 fs f).2 cs λl=>K none (.c9 l)
   |_=>False
 |_=>False
def mB(agg:Bool)(size:Nat)(l:List ak)(K:ak->Prop):Prop:=
 match agg with
 |true=>xl size l λl=>K (.agg l)
 |false=>match l with
  |d::_=>ha d λd=>K d
  | []=>False
def Dg(ag:dH)(t:TypeId)(f:Nat)(d:ak)(K:Option Prop->ak->Prop):Prop:=
 match (aF ag t).k with
 | .b7 fs=>match (aF ag (h3 fs f).1).size with
  |0=>False
  |_=>match d with
   | .agg cs=>qY (h3 fs f).2 cs λl=>mB (aF ag (h3 fs f).1).agg (aF ag (h3 fs f).1).size l λd=>K none d
   |_=>False
 |_=>False
def AG(loc:List aZ)(size:Nat)(iU:Int)(d:ak)(K:Option Prop->ak->Prop):Prop:=
 match d with
 | .ar aB es _=>match Nat.beq aB size with
  |true=>∃ (k:Nat) (gd:List ak),K (some (iU=k/\es[k]?=some gd)) (.c9 gd)
  |false=>False
 | .own j=>match bR loc j with
  | .row _ aB es=>match Nat.beq aB size with
   |true=>∃k:Nat,K (some (iU=k/\k<es.length)) (.db j k 0)
   |false=>False
  |_=>False
 |_=>False
def Dh(n size:Nat)(lit:Option Nat)(iU:Int)(d:ak)(K:Option Prop->ak->Prop):Prop:=
 match lit with
 |some m=>match d with
  | .aV j o=>K (some (m<n)) (.aV j (o+m*size))
  | .dU j o=>K (some (m<n)) (.dU j (o+m*size))
  |_=>False
 |none=>match d with
  | .aV j o=>∃k:Nat,K (some (iU=k/\k<n)) (.dU j (o+k*size))
  | .dU j o=>∃k:Nat,K (some (iU=k/\k<n)) (.dU j (o+k*size))
  |_=>False
def xp(ag:dH)(loc:List aZ)(t:TypeId)(i:Operand)(x y:ak)(K:Option Prop->ak->Prop):Prop:=
 match (aF ag t).k,y with
 | .fc e,.v (.int _ iU)=>match (aF ag e).size with
  |0=>False
  |_=>AG loc (aF ag e).size iU x K
 | .arr n e,.v (.int _ iU)=>match (aF ag e).size with
  |0=>False
  |_=>Dh n (aF ag e).size (JR i) iU x K
 |_,_=>False
def Di(ag:dH)(t:TypeId)(x y:ak)(K:Option Prop->ak->Prop):Prop:=
 match y with
 | .v (.int _ iU)=>match (aF ag t).k,x with
  | .str,.v (.string s)=>∃k:Nat,K (some (iU=k/\k<s.size)) (.v (.int .u8 (s.data.getD k 0).toNat))
  | .arr n e,.agg cs=>match (aF ag e).agg,Nat.beq (aF ag e).size 1 with
   |false,true=>∃ (k:Nat) (d:ak),ha d λd=>K (some (iU=k/\k<n/\cs[k]?=some d)) d
   |_,_=>False
  |_,_=>False
 |_=>False
def uM(ag:dH)(loc:List aZ)(t:TypeId)(d:ak)(K:Option Prop->ak->Prop):Prop:=
 match (aF ag t).size with
 |0=>False
 |_=>match d with
  | .c9 cs=>mB (aF ag t).agg (aF ag t).size cs λd=>K none d
  | .aV i o=>match bR loc i with
   | .cells _ cs=>qY o cs λl=>mB (aF ag t).agg (aF ag t).size l λd=>K none d
   |_=>False
  | .dU i o=>match bR loc i with
   | .cells _ cs=>match (aF ag t).agg with
    |true=>∃ds:List ak,K (some ((cs.drop o).take (aF ag t).size=ds/\ds.length=(aF ag t).size)) (.agg ds)
    |false=>∃d:ak,ha d λd=>K (some (cs[o]?=some d)) d
   |_=>False
  | .db i k o=>match bR loc i with
   | .row _ _ es=>∃gd:List ak,qY o gd λl=>mB (aF ag t).agg (aF ag t).size l λd=>K (some (es[k]?=some gd)) d
   |_=>False
  |_=>False
def Dj(n:Nat)(d:ak)(K:Option Prop->ak->Prop):Prop:=
 match d with
 | .bd ds=>qY n ds λl=>match l with
  |d::_=>ha d λd=>K none d
  | []=>False
 |_=>False
def oo(ρ:Operand->ak)(o:Option Operand)(n:Nat)(gu:Nat):Prop:=
 match o with
 |some o=>∃k,ρ o= .v (.int k n)
 |none=>n=gu
def Dk(ag:dH)(t:TypeId)(ρ:Operand->ak)(d:ak)(dK hi eU:Option Operand)(K:Option Prop->ak->Prop):Prop:=
 match (aF ag t).k,d with
 | .str,.v (.string s)=>match eU with
  |none=>∃l h:Nat,K (some (oo ρ dK l 0/\oo ρ hi h s.size/\l<=h/\h<=s.size)) (.v (.string (s.extract l h)))
  |some _=>False
 | .fc e,.av=>match (aF ag e).size,eU with
  |0,_=>False
  |_,some _=>False
  |_,none=>K (some (oo ρ dK 0 0/\oo ρ hi 0 0)) .av
 | .fc e,.ar aB es tp=>match (aF ag e).size,Nat.beq aB (aF ag e).size with
  |0,_=>False
  |_,false=>False
  |_,true=>match hi,eU with
   |none,none=>∃l:Nat,K (some (oo ρ dK l 0/\l<=es.length)) (.ar aB (es.drop l) tp)
   |some aH,none=>∃l h:Nat,K (some (oo ρ dK l 0/\oo ρ (some aH) h 0/\l<=h/\h<=es.length)) (.ar aB ((es.take h).drop l) false)
   |some aH,some OY=>∃l h:Nat,K (some (oo ρ dK l 0/\oo ρ (some aH) h 0/\oo ρ (some OY) h 0/\l<=h/\h<=es.length)) (.ar aB ((es.take h).drop l) true)
   |none,some _=>False
 |_,_=>False
def we(ag:dH)(loc:List aZ)(t:TypeId)(d:ak)(K:Option Prop->ak->Prop):Prop:=
 match (aF ag t).k with
 | .fc _=>match d with
  | .ar _ es _=>K none (.v (.int .i64 es.length))
  | .av=>K none (.v (.int .i64 (0:Nat)))
  | .own j=>match bR loc j with
   | .row _ _ es=>K none (.v (.int .i64 es.length))
   |_=>False
  |_=>False
 | .str=>match d with
  | .v (.string s)=>K none (.v (.int .i64 s.size))
  |_=>False
 | .arr n _=>K none (.v (.int .i64 n))
 |_=>False
def AH(a b:ak)(K:Option Prop->ak->Prop):Prop:=
 match a,b with
 | .v (.int k a),.v (.int _ b)=>K none (.v (.int k (if b<a then b else a)))
 |_,_=>False
def AI(a b:ak)(K:Option Prop->ak->Prop):Prop:=
 match a,b with
 | .v (.int k a),.v (.int _ b)=>K none (.v (.int k (if a<b then b else a)))
 |_,_=>False
def Dl(ag:dH):List (TypeId×Nat)->Bool
 | []=>true
 |f::r=>match (aF ag f.1).size with
  |0=>false
  |_=>Dl ag r
def Dm(ag:dH)(t:TypeId)(ρ:Operand->ak)(parts:List (Nat×Operand))(K:Option Prop->ak->Prop):Prop:=
 match (aF ag t).k with
 | .b7 fs=>match Dl ag fs,(aF ag t).size with
  |true,_+1=>rO ρ (λi=>match Nat.blt i fs.length with
   |true=>((h3 fs i).2,(aF ag (h3 fs i).1).size)
   |false=>(0,0)) parts (aF ag t).zero λl=>K none (.agg l)
  |_,_=>False
 | .arr _ e=>match (aF ag e).size,(aF ag t).size with
  |_+1,_+1=>rO ρ (λi=>(i* (aF ag e).size,(aF ag e).size)) parts (aF ag t).zero λl=>K none (.agg l)
  |_,_=>False
 |_=>False
def oq(ag:dH)(loc:List aZ)(o:Op)(ρ:Operand->ak)(K:Option Prop->ak->Prop):Prop:=
 match o with
 | .move x| .assign x=>ha (ρ x) λd=>K none d
 | .pick c a b=>AF ρ c a b K
 | .nilCheck x=>xn loc (ρ x) K
 | .binOp op t x y _=>Dd ag t op (ρ x) (ρ y) K
 | .unOp op _ x=>De op (ρ x) K
 | .convert src dst x=>Df ag (aF ag src).k (aF ag dst).k (ρ x) K
 | .fieldAddr t x f=>xo ag loc t f (ρ x) K
 | .field t x f=>Dg ag t f (ρ x) K
 | .indexAddr t x i=>xp ag loc t i (ρ x) (ρ i) K
 | .index t x i=>Di ag t (ρ x) (ρ i) K
 | .load t x=>uM ag loc t (ρ x) K
 | .extract x n=>Dj n (ρ x) K
 | .slice t x dK hi eU=>Dk ag t ρ (ρ x) dK hi eU K
 | .makeFunc f first cu=>match first.toList with
  | []=>tt ρ cu.toList λl=>match l.all l6 with
   |true=>K none (.fn f l)
   |false=>False
  |_=>False
 | .build t parts=>Dm ag t ρ parts.toList K
 | .call {callee:=.builtin .len,args,argTypes}=>match args.toList,argTypes.toList with
  | [x],[t]=>we ag loc t (ρ x) K
  |_,_=>False
 | .call {callee:=.builtin .min,args,..}=>match args.toList with
  | [x,y]=>AH (ρ x) (ρ y) K
  |_=>False
 | .call {callee:=.builtin .max,args,..}=>match args.toList with
  | [x,y]=>AI (ρ x) (ρ y) K
  |_=>False
 |_=>False
def JS(o:Op)(ρ:Operand->ak):Bool:=
 match o with
 | .binOp _ _ x _ _=>match ρ x with
  | .own _=>false
  | .ar .. =>false
  | .av=>false
  |_=>true
 | .move _| .assign _| .pick .. | .nilCheck _| .unOp .. | .fieldAddr .. | .field .. | .indexAddr .. | .index .. | .load .. | .extract .. | .makeFunc .. | .build .. =>true
 | .convert _ _ x=>match ρ x with
  | .own _=>false
  |_=>true
 | .slice _ x _ _ _=>match ρ x with
  | .own _=>false
  |_=>true
 | .call {callee:=.builtin .len,..}| .call {callee:=.builtin .min,..}| .call {callee:=.builtin .max,..}=>true
 |_=>false
def mX:ak->Bool
 | .own _=>true
 |_=>false
def q1(ds:List ak):ak:=
 match ds.any mX with
 |false=>.bd ds
 |true=>.a1
def kK(i:Nat)(r:ak):ak->ak
 | .own j=>match Nat.beq i j with|true=>r|false=>.own j
 | .db j k o=>match Nat.beq i j with|true=>.a1|false=>.db j k o
 | .ca b d=>.ca b (kK i r d)
 |d=>d
def sy(i:Nat)(r:ak):ak->ak
 | .agg cs=>.agg (cs.map (kK i r))
 | .bd ds=>q1 ds
 | .ca b d=>.ca b (sy i r d)
 |d=>kK i r d
def pC(f:ak->ak):List (Nat×ak)->List (Nat×ak)
 | []=>[]
 |p::r=>(p.1,f p.2)::pC f r
def oU(f:ak->ak):List aZ->List aZ
 | []=>[]
 | .cells t cs::r=>.cells t (cs.map f)::oU f r
 | .cD cs::r=>.cD (cs.map f)::oU f r
 |o::r=>o::oU f r
def bK.grow(s:bK)(i:Nat)(e:TypeId)(aB:Nat)(es:List (List ak)):bK:=
 ⟨pC (sy i .a1) s.env,gr (oU (kK i .a1) s.loc) i (.row e aB es)⟩
def bK.jO(s:bK)(i aB:Nat)(es:List (List ak)):bK:=
 ⟨pC (sy i (.ar aB es false)) s.env,gr (oU (kK i (.ar aB es false)) s.loc) i .bm⟩
def F4(i:Nat)(cs:List ak):ak->ak
 | .aV j o=>match Nat.beq i j with|true=>.c9 (cs.drop o)|false=>.aV j o
 |d=>d
def mY(i:Nat)(cs:List ak):ak->ak
 | .aV j o=>match Nat.beq i j with|true=>.c9 (cs.drop o)|false=>.aV j o
 | .dU j o=>match Nat.beq i j with|true=>.c9 (cs.drop o)|false=>.dU j o
 | .fn f cu=>.fn f (cu.map (F4 i cs))
 | .ca b d=>.ca b (mY i cs d)
 |d=>d
def Dn(i:Nat)(cs:List ak):ak->ak
 | .agg l=>.agg (l.map (mY i cs))
 | .bd ds=>q1 ds
 | .ca b d=>.ca b (Dn i cs d)
 |d=>mY i cs d
def bK.JT(s:bK)(i:Nat)(cs:List ak):bK:=
 ⟨pC (Dn i cs) s.env,gr (oU (mY i cs) s.loc) i .bm⟩
def oV(ds:List ak)(s:bK)(K:bK->Prop):Prop:=
 match ds with
 | []=>K s
 | .own j::r=>match bR s.loc j with
  | .row _ aB es=>oV r (s.jO j aB es) K
  | .cells _ _=>False
  |_=>oV r s K
 | .aV j _::r=>match bR s.loc j with
  | .cells _ cs=>match pB cs with
   |true=>oV r (s.JT j cs) K
   |false=>False
  | .row .. =>False
  |_=>oV r s K
 |_::r=>oV r s K
def F5:ak->Bool
 | .v _=>true
 |_=>false
def xq:ak->Bool
 | .v _=>true
 | .agg cs=>cs.all F5
 | .bd ds=>ds.all λd=>match d with| .v _=>true| .agg cs=>cs.all F5|_=>false
 |_=>false
def wg(loc:List aZ)(d:ak)(K:ak->Prop):Prop:=
 match d with
 | .aV j o=>match bR loc j with
  | .cells _ cs=>match pB cs with
   |true=>K (.c9 (cs.drop o))
   |false=>False
  |_=>False
 |d=>K d
def yK(loc:List aZ):List ak->(List ak->Prop)->Prop
 | [],K=>K []
 |d::r,K=>wg loc d λd=>yK loc r λl=>K (d::l)
def ot(loc:List aZ)(d:ak)(K:ak->Prop):Prop:=
 match d with
 | .own j=>match bR loc j with
  | .row _ aB es=>K (.ar aB es false)
  |_=>False
 | .aV j o=>match bR loc j with
  | .cells _ cs=>match pB cs with
   |true=>K (.c9 (cs.drop o))
   |false=>False
  |_=>False
 | .fn f cu=>yK loc cu λl=>K (.fn f l)
 | .dU .. | .db .. | .ca .. =>False
 | .agg _=>False
 | .bd _=>False
 |d=>K d
def Dp(loc:List aZ):List ak->(List ak->Prop)->Prop
 | [],K=>K []
 |d::r,K=>ot loc d λd=>Dp loc r λl=>K (d::l)
def uN(loc:List aZ)(d:ak)(K:ak->Prop):Prop:=
 match d with
 | .agg cs=>Dp loc cs λl=>K (.agg l)
 | .bd ds=>match ds.any mX with
  |false=>K (.bd ds)
  |true=>False
 |d=>ot loc d K
def tu(loc:List aZ):List ak->(List ak->Prop)->Prop
 | [],K=>K []
 |d::r,K=>uN loc d λd=>tu loc r λl=>K (d::l)
def VQ(loc:List aZ)(d:ak):Bool:=
 match d with
 | .aV j _=>match bR loc j with
  | .cells _ cs=>pB cs
  |_=>true
 |_=>true
def nA:ak->List ak
 | .own j=>[.own j]
 | .aV j o=>[.aV j o]
 | .fn _ cu=>cu.filter OX
 |_=>[]
def hb:List ak->List ak
 | []=>[]
 | .agg cs::r=>cs.flatMap nA++hb r
 |d::r=>nA d++hb r
inductive hP:ak->ak->Prop
 |refl{d:ak}:hP d d
 |nil{aB mC:Nat}{f lJ:Bool}(h:lJ=true->f=true):hP (.ar aB [] f) (.ar mC [] lJ)
 |av{aB:Nat}{f:Bool}:hP .av (.ar aB [] f)
 |ar{aB:Nat}{es:List (List ak)}{f:Bool}:hP (.ar aB es f) (.ar aB es false)
 |jP{aB:Nat}{es fG:List (List ak)}{f:Bool}(af:es.length=fG.length)(ao:∀ (i:Nat) r eH,es[i]?=some r->fG[i]?=some eH->r.length=eH.length)
   (h:∀ (i j:Nat) r eH c d,es[i]?=some r->fG[i]?=some eH->r[j]?=some c->eH[j]?=some d->hP c d):hP (.ar aB es f) (.ar aB fG f)
 |agg{cs ds:List ak}(af:cs.length=ds.length)(h:∀ (i:Nat) c d,cs[i]?=some c->ds[i]?=some d->hP c d):hP (.agg cs) (.agg ds)
 |bd{cs ds:List ak}(af:cs.length=ds.length)(h:∀ (i:Nat) c d,cs[i]?=some c->ds[i]?=some d->hP c d):hP (.bd cs) (.bd ds)
 |a1{d:ak}:hP d .a1
variable{d:ak}
theorem hP.r:hP d d:=.refl
def mZ:List ak->List ak->Prop
 | [],[]=>True
 |x::r,y::eH=>hP x y/\mZ r eH
 |_,_=>False
theorem AJ:∀l:List ak,mZ l l
 | []=>trivial
 |_::r=>⟨.r,AJ r⟩
inductive b8(A:Nat->Prop)(w:World):Value->ak->Prop
 |v{x:Value}(h:x.oneCell'=true):b8 A w x (.v x)
 |ar{a:Addr}{n c aB:Nat}{es:List (List ak)}{tp:Bool}(xs:Nat->Nat->Value)(aW:es.length=n)(aj:n<=c)(aA:c<=maxLen)(az:tp=true->c=n)(cE:∀e∈es,e.length=aB)
   (al:es≠ []->¬A a.block) (ac:es≠ []->a.block<w.heap.size) (br:∀i j,(xs i j).oneCell'=true)
   (dD:∀ (i j:Nat) e d,es[i]?=some e->e[j]?=some d->w.cell? (a.add (i*aB+j))=some (xs i j))
   (ah:∀ (i j:Nat) e d,es[i]?=some e->e[j]?=some d->b8 A w (xs i j) d):b8 A w (.slice (some a) n c) (.ar aB es tp)
 |nil{aB:Nat}{tp:Bool}:b8 A w (.slice none 0 0) (.ar aB [] tp)
 |av:b8 A w (.slice none 0 0) .av
 |agg{vs:List Value}{ds:List ak}(af:vs.length=ds.length)(br:∀v∈vs,v.oneCell'=true)(h:∀ (i:Nat) v d,vs[i]?=some v->ds[i]?=some d->b8 A w v d):b8 A w (.agg vs.toArray) (.agg ds)
 |bd{vs:List Value}{ds:List ak}(af:vs.length=ds.length)(h:∀ (i:Nat) v d,vs[i]?=some v->ds[i]?=some d->b8 A w v d):b8 A w (.tuple vs.toArray) (.bd ds)
 |c9{a:Addr}{cs:List ak}(xs:Nat->Value)(al:¬A a.block)(ac:a.block<w.heap.size)(br:∀i,(xs i).oneCell'=true)(dD:∀ (j:Nat) d,cs[j]?=some d->w.cell? (a.add j)=some (xs j))(ah:∀ (j:Nat) d,cs[j]?=some d->b8 A w (xs j) d):
   b8 A w (.pointer (some a)) (.c9 cs)
 |fn{f:Fn}{vs:List Value}{ds:List ak}(af:vs.length=ds.length)(h:∀ (i:Nat) v d,vs[i]?=some v->ds[i]?=some d->b8 A w v d):b8 A w (.func f #[] vs.toArray) (.fn f ds)
 |ca{b:Bool}{d:ak}{x:Value}(h:b=true->b8 A w x d)(aR:b=false->x=undef):b8 A w x (.ca b d)
 |a1{x:Value}:b8 A w x .a1
def sz(A:Nat->Prop)(w:World):List Value->List ak->Prop
 | [],[]=>True
 |v::vs,d::ds=>b8 A w v d/\sz A w vs ds
 |_,_=>False
def bJ:Value->Option Nat
 | .pointer (some a)=>some a.block
 | .slice (some a) _ _=>some a.block
 |_=>none
structure e5 where
 w:World
 M:Nat->Prop
 gs:List Value
def e5.mine(h:e5)(b:Nat):Prop:=h.w.heap.size<=b\/h.M b
structure pD(M:Nat->Prop)(w w':World):Prop where
 os:w'.os=w.os
 tape:w'.tape=w.tape
 output:w'.output=w.output
 size:w.heap.size<=w'.heap.size
 block:∀k,k<w.heap.size->¬M k->w'.heap[k]?=w.heap[k]?
abbrev c2:=List (Value×aZ)
inductive bg(A:Nat->Prop)(os:c2)(w:World):Value->ak->Prop
 |bT{x:Value}{d:ak}(h:b8 A w x d):bg A os w x d
 |aV{i off g:Nat}{t:TypeId}{cs:List ak}(h:os[i]?=some (.pointer (some ⟨g,0,none⟩),.cells t cs)):bg A os w (.pointer (some ⟨g,off,none⟩)) (.aV i off)
 |dU{i off g:Nat}{t:TypeId}{cs:List ak}(h:os[i]?=some (.pointer (some ⟨g,0,none⟩),.cells t cs)):bg A os w (.pointer (some ⟨g,off,none⟩)) (.dU i off)
 |db{i k off g n c:Nat}{e:TypeId}{aB:Nat}{es:List (List ak)}(h:os[i]?=some (.slice (some ⟨g,0,none⟩) n c,.row e aB es)):bg A os w (.pointer (some ⟨g,k*aB+off,none⟩)) (.db i k off)
 |own{i:Nat}{x:Value}{e:TypeId}{aB:Nat}{es:List (List ak)}(h:os[i]?=some (x,.row e aB es))(h1:x.oneCell'=true):bg A os w x (.own i)
 |e2{i:Nat}{x y:Value}{d:ak}(h:os[i]?=some (y,.gone))(aa:d= .own i\/∃k off,d= .db i k off)(h1:x.oneCell'=true):bg A os w x d
 |agg{vs:List Value}{ds:List ak}(af:vs.length=ds.length)(br:∀v∈vs,v.oneCell'=true)(h:∀ (i:Nat) v d,vs[i]?=some v->ds[i]?=some d->bg A os w v d):bg A os w (.agg vs.toArray) (.agg ds)
 |fn{f:Fn}{vs:List Value}{ds:List ak}(af:vs.length=ds.length)(iL:∀d∈ds,l6 d=true)(h:∀ (i:Nat) v d,vs[i]?=some v->ds[i]?=some d->bg A os w v d):bg A os w (.func f #[] vs.toArray) (.fn f ds)
 |bd{vs:List Value}{ds:List ak}(af:vs.length=ds.length)(b2:∀ (i:Nat) v d,vs[i]?=some v->ds[i]?=some d->mX d=true\/b8 A w v d)(h:∀ (i:Nat) v d,vs[i]?=some v->ds[i]?=some d->bg A os w v d):bg A os w (.tuple vs.toArray) (.bd ds)
 |ca{b:Bool}{d:ak}{x:Value}(h:b=true->bg A os w x d)(aR:b=false->x=undef):bg A os w x (.ca b d)
def lK(A:Nat->Prop)(os:c2)(B:e5)(w:World)(x:Value)(o:aZ):Prop:=
 match o with
 | .bm=>True
 | .gone=>bJ x=none
 | .cD ds=>x= .tuple B.gs.toArray/\B.gs.length=ds.length/\(∀v∈B.gs,v.oneCell'=true)/\∀ (i:Nat) v d,B.gs[i]?=some v->ds[i]?=some d->bg A os w v d
 | .cells t cs=>∃g arr,x= .pointer (some ⟨g,0,none⟩)/\B.mine g/\w.heap[g]?=some (.cells arr t (0,0))/\arr.size=cs.length/\(∀v∈arr.toList,v.oneCell'=true)/\
   ∀ (j:Nat) v d,arr[j]?=some v->cs[j]?=some d->bg A os w v d
 | .row e aB es=>(∀b,bJ x=some b->B.mine b)/\∃xs,w.ownsRow 0 e aB x es.length xs/\0<aB/\(∀r∈es,r.length=aB)/\(∀v∈xs,v.oneCell'=true)/\
   ∀ (k j:Nat) r d,es[k]?=some r->r[j]?=some d->∃v,xs[k*aB+j]?=some v/\b8 A w v d
def yL(A:Nat->Prop)(os:c2)(B:e5)(w:World):Prop:=∀ (i:Nat) x o,os[i]?=some (x,o)->lK A os B w x o
def bi(aE:Nat->Prop)(os:c2)(b:Nat):Prop:=aE b\/∃ (i:Nat) (x:Value) (o:aZ),os[i]?=some (x,o)/\o≠ .bm/\bJ x=some b
def hn(os:c2)(b:Nat):Prop:=∃ (i:Nat) (x:Value) (o:aZ),os[i]?=some (x,o)/\o≠ .bm/\bJ x=some b
def VR(w:World):e5:=⟨w,λ_=>True,[]⟩
structure uO(A:Nat->Prop)(os:c2)(L:List aZ)(w:World):Prop where
 loc:os.map (·.2)=L
 cV:yL (bi A os) os (VR w) w
 inj:∀ (i j:Nat) x o y aU b,os[i]?=some (x,o)->os[j]?=some (y,aU)->o≠ .bm->aU≠ .bm->bJ x=some b->bJ y=some b->i=j
 out:∀b,A b->¬hn os b
def xr(A:Nat->Prop)(os:c2)(w:World):List Value->List ak->Prop
 | [],[]=>True
 |v::vs,d::ds=>bg A os w v d/\xr A os w vs ds
 |_,_=>False
def cm(P:Program)(f:FuncId)(L:List aZ)(args:List ak)(kept:List Bool)(bL:List aZ)(d:ak):Prop:=
 (∀ (vs:Array Value) (w:World),(callFunc f vs).run P w= .ok (.enter f vs) w)/\∀ (A:Nat->Prop) (w:World) (os:c2) (fH:List Value),(∀b,A b->b<w.heap.size)->uO A os L w->xr (bi A os) os w fH args->
  Calls P f fH.toArray w λe w'=>∃v aT,e= .returned v/\uO A aT bL w'/\bg (bi A aT) aT w' v d/\pD (hn os) w w'/\(∀b,hn aT b->hn os b\/w.heap.size<=b)/\
   ∀ (i:Nat) x o,kept[i]?=some true->os[i]?=some (x,o)->∃aU,aT[i]?=some (x,aU)
inductive hr:aZ->aZ->Prop
 |refl{o:aZ}:hr o o
 |cells{t:TypeId}{cs ds:List ak}(af:cs.length=ds.length)(h:∀ (i:Nat) c d,cs[i]?=some c->ds[i]?=some d->hP c d):hr (.cells t cs) (.cells t ds)
 |cD{cs ds:List ak}(af:cs.length=ds.length)(h:∀ (i:Nat) c d,cs[i]?=some c->ds[i]?=some d->hP c d):hr (.cD cs) (.cD ds)
 |bm{o:aZ}:hr o .bm
theorem hr.r{d:aZ}:hr d d:=.refl
def kn(l:List aZ):ak->Bool
 | .own i| .db i _ _=>jN (bR l i)
 | .aV i _| .dU i _=>rM (bR l i)
 | .fn _ cu=>cu.all λd=>match d with
  | .aV i _=>rM (bR l i)
  |_=>true
 | .agg _| .bd _| .ca .. =>false
 |_=>true
def kL(l:List aZ):ak->Bool
 | .agg cs=>cs.all (kn l)
 |d=>kn l d
def Dq(l:List aZ):List (Nat×ak)->Bool
 | []=>true
 |p::r=>kL l p.2&&Dq l r
def oW(l:List aZ):List aZ->Bool
 | []=>true
 | .cells _ cs::r=>cs.all (kn l)&&oW l r
 | .cD cs::r=>cs.all (kn l)&&oW l r
 |_::r=>oW l r
def dn:List Nat->Nat->Nat
 | [],_=>0
 |i::_,0=>i
 |_::r,k+1=>dn r k
def sA(ρ:Nat->Nat):ak->ak
 | .aV j o=>.aV (ρ j) o
 |d=>d
def rQ(ρ:Nat->Nat):ak->ak
 | .own j=>.own (ρ j)
 | .aV j o=>.aV (ρ j) o
 | .dU j o=>.dU (ρ j) o
 | .db j k o=>.db (ρ j) k o
 | .fn f cu=>.fn f (cu.map (sA ρ))
 | .ca b d=>.ca b (rQ ρ d)
 |d=>d
def k0(ρ:Nat->Nat):ak->ak
 | .agg cs=>.agg (cs.map (rQ ρ))
 | .bd ds=>.bd (ds.map (rQ ρ))
 | .ca b d=>.ca b (k0 ρ d)
 |d=>rQ ρ d
def gP(ρ:Nat->Nat):aZ->aZ
 | .cells t cs=>.cells t (cs.map (rQ ρ))
 | .cD _=>.bm
 |o=>o
def tv(ρ:Nat->Nat):aZ->aZ
 | .cells t cs=>.cells t (cs.map (rQ ρ))
 | .cD ds=>.cD (ds.map (rQ ρ))
 |o=>o
def au(m k:Nat):Nat:=
 match Nat.blt m k with
 |true=>k-1
 |false=>k
def Dr(J:List Nat):ak->Bool
 | .aV j _=>J.contains j
 |_=>false
def h4(J:List Nat):ak->ak
 | .own j=>match J.contains j with|true=>.a1|false=>.own j
 | .aV j o=>match J.contains j with|true=>.a1|false=>.aV j o
 | .dU j o=>match J.contains j with|true=>.a1|false=>.dU j o
 | .db j k o=>match J.contains j with|true=>.a1|false=>.db j k o
 | .fn f cu=>match cu.any (Dr J)with|true=>.a1|false=>.fn f cu
 | .ca b d=>.ca b (h4 J d)
 |d=>d
def uP(J:List Nat):ak->ak
 | .agg cs=>.agg (cs.map (h4 J))
 | .bd ds=>.bd (ds.map (h4 J))
 | .ca b d=>.ca b (uP J d)
 |d=>h4 J d
def yM:List Nat->List Bool->List Nat
 |i::r,true::k=>yM r k
 |i::r,_::k=>i::yM r k
 |r,[]=>r
 | [],_=>[]
def pE:List aZ->List Nat->List aZ->List aZ
 |l,i::r,o::eH=>pE (gr l i o) r eH
 |l,_,_=>l
def JU(J:List Nat)(e:List (Nat×ak)):List (Nat×ak):=
 match J with
 | []=>e
 |_=>pC (uP J) e
def AK(J:List Nat)(l:List aZ):List aZ:=
 match J with
 | []=>l
 |_=>oU (h4 J) l
def F6(s:bK)(cS:List Nat)(J:List Nat)(bL:List aZ):bK:=
 ⟨JU J s.env,pE (AK J s.loc) cS (bL.map (gP (dn cS)))⟩
def JV:aZ->aZ->Bool
 | .row e aB _,.row e' mC _=>Nat.beq e e'&&Nat.beq aB mC
 | .cells t _,.cells eD _=>Nat.beq t eD
 |_,_=>false
def tw:List Bool->List aZ->List aZ->Bool
 | [],[],_=>true
 |k::r,o::l,aU::cO=>(!k||JV o aU)&&tw r l cO
 |_,_,_=>false
def yN:List Bool->List aZ->List aZ->Bool
 |true::k,_::l,_::cO=>yN k l cO
 |false::k,.row _ _ _::l,.gone::cO=>yN k l cO
 | [],_,_=>true
 |_,_,_=>false
def AL:List Nat->Bool
 | []=>true
 |i::r=> !r.contains i&&AL r
def q2:List aZ->Bool
 | []=>true
 | .cD _::_=>false
 |_::r=>q2 r
def sB(loc:List aZ)(ρ:Nat->Nat):List Nat->List aZ->Prop
 | [],[]=>True
 |i::r,o::eH=>hr (bR loc i) (gP ρ o)/\sB loc ρ r eH
 |_,_=>False
def bO:Nat->Nat->List Nat
 |_,0=>[]
 |i,q+1=>i::bO (i+1) q
def xt(pass:List Nat)(loc:List aZ)(d:ak)(K:ak->Prop):Prop:=
 match d with
 | .own j=>match pass.contains j with
  |true=>K (.own j)
  |false=>ot loc (.own j) K
 | .aV j o=>match pass.contains j with
  |true=>K (.aV j o)
  |false=>ot loc (.aV j o) K
 | .dU j o=>match pass.contains j with
  |true=>K (.dU j o)
  |false=>False
 | .db j k o=>match pass.contains j with
  |true=>K (.db j k o)
  |false=>False
 | .fn f cu=>match cu.any (Dr pass)with
  |true=>False
  |false=>ot loc (.fn f cu) K
 |d=>ot loc d K
def OZ(pass:List Nat)(loc:List aZ):List ak->(List ak->Prop)->Prop
 | [],K=>K []
 |d::r,K=>xt pass loc d λd=>OZ pass loc r λl=>K (d::l)
def O0(pass:List Nat)(loc:List aZ)(d:ak)(K:ak->Prop):Prop:=
 match d with
 | .agg cs=>OZ pass loc cs λl=>K (.agg l)
 |d=>xt pass loc d K
def O1(pass:List Nat)(loc:List aZ):List ak->(List ak->Prop)->Prop
 | [],K=>K []
 |d::r,K=>O0 pass loc d λd=>O1 pass loc r λl=>K (d::l)
def Ds(pass:List Nat)(args:List ak):List ak:=(hb args).filter λd=>match d with
 | .own j| .aV j _=> !pass.contains j
 |_=>true
def bl(P:Program)(f:FuncId)(args:List ak)(d:ak):Prop:=
 (∀ (vs:Array Value) (w:World),(callFunc f vs).run P w= .ok (.enter f vs) w)/\∀ (A:Nat->Prop) (w:World) (fH:List Value),(∀b,A b->b<w.heap.size)->sz A w fH args->
  Calls P f fH.toArray w λe w'=>∃v,e= .returned v/\b8 A w' v d/\w.grownBy w' none
def JW(P:Program)(f:FuncId)(args:List ak)(s:bK)(K:ak->bK->Prop):Prop:=
 tu s.loc args λl=>∃cO r,mZ l cO/\bl P f cO r/\match hb args with
  | []=>K r s
  |os=>match xq r with
   |true=>K r s
   |false=>oV os s λs=>K r s
def VS(P:Program)(f:FuncId)(args:List ak)(s:bK)(K:ak->bK->Prop):Prop:=
 ∃pass:List Nat,O1 pass s.loc args λl=>oV (Ds pass args) s λs=>∃ (L:List aZ) (ko:List ak) (kept:List Bool) (bL:List aZ) (d:ak),
  cm P f L ko kept bL d/\(tw kept L bL&&q2 L&&AL pass&&pass.all (λi=>Nat.blt i s.loc.length)&&ko.all (kL L)&&oW L L)=true/\
  sB s.loc (dn (pass++bO s.loc.length (bL.length-L.length))) pass L/\mZ l (ko.map (k0 (dn (pass++bO s.loc.length (bL.length-L.length)))))/\
  K (k0 (dn (pass++bO s.loc.length (bL.length-L.length))) d) (F6 ⟨s.env,s.loc++List.replicate (bL.length-L.length) .bm⟩ (pass++bO s.loc.length (bL.length-L.length)) (yM pass kept) bL)
def tx(ρ:Operand->ak)(size:Nat):List (Nat×Operand)->List (List ak)->(List (List ak)->Prop)->Prop
 | [],es,K=>K es
 | (i,x)::r,es,K=>ha (ρ x) λd=>match Nat.beq (dc d).length size&&Nat.blt i es.length&&pB (dc d)with
  |true=>tx ρ size r (es.set i (dc d)) K
  |false=>False
def O2(s:bK):List Operand->(bK->Prop)->Prop
 | [],K=>K s
 |x::r,K=>ha (bG s x) λd=>oV (hb [d]) s λs'=>O2 s' r K
def tz(ag:dH)(e:TypeId)(loc:List aZ)(d:ak)(K:List (List ak)->Bool->Prop):Prop:=
 match d with
 | .av=>K [] false
 | .ar aB es _=>match Nat.beq aB (aF ag e).size with
  |true=>K es false
  |false=>False
 | .own j=>match bR loc j with
  | .row _ aB es=>match Nat.beq aB (aF ag e).size with
   |true=>K es true
   |false=>False
  |_=>False
 |_=>False
def kp(ag:dH)(e:TypeId)(n:Nat):Prop:=n* (aF ag e).bytes<=140737488355328/\n<=maxLen
def JX(ag:dH)(e:TypeId)(s:bK)(dst:Option Tmp)(x y:ak)(K:bK->Prop):Prop:=
 tz ag e s.loc y λys some=>match x with
  | .av=>kp ag e ys.length/\gq ⟨s.env,s.loc++ [.row e (aF ag e).size ys]⟩ dst (.own s.loc.length) K
  | .own i=>match bR s.loc i with
   | .row e' aB es=>match Nat.beq e' e&&Nat.beq aB (aF ag e).size with
    |true=>kp ag e (es.length+ys.length)/\gq (s.grow i e aB (es++ys)) dst (.own i) K
    |false=>False
   |_=>False
  | .ar aB es true=>match Nat.beq aB (aF ag e).size with
   |true=>kp ag e (es.length+ys.length)/\match some with
    |true=>0<ys.length/\gq ⟨s.env,s.loc++ [.row e aB (es++ys)]⟩ dst (.own s.loc.length) K
    |false=>gq s dst (.ar aB (es++ys) false) K
   |false=>False
  |_=>False
def F7(ag:dH)(e:TypeId)(s:bK)(dst:Option Tmp)(x y:ak)(K:bK->Prop):Prop:=
 tz ag e s.loc y λys _=>match x with
  | .av=>gq s dst (.v (.int .i64 (0:Nat))) K
  | .own i=>match bR s.loc i with
   | .row e' aB es=>match Nat.beq e' e&&Nat.beq aB (aF ag e).size with
    |true=>gq ⟨s.env,gr s.loc i (.row e aB (ys.take es.length++es.drop ys.length))⟩ dst (.v (.int .i64 (Nat.min ys.length es.length:Nat))) K
    |false=>False
   |_=>False
  |_=>False
def F8(ag:dH)(s:bK)(dst:Option Tmp)(t:TypeId)(x d:ak)(K:bK->Prop):Prop:=
 match x with
 | .db i k off=>match pB (dc d),bR s.loc i with
  |true,.row e aB es=>∃gd,es[k]?=some gd/\match Nat.beq (dc d).length (aF ag t).size&&Nat.ble (off+(dc d).length) aB with
   |true=>gq ⟨s.env,gr s.loc i (.row e aB (es.set k (jz gd off (dc d))))⟩ dst (.ca false (.v (.bool false))) K
   |false=>False
  |_,_=>False
 |_=>False
def AM(ag:dH)(s:bK)(dst:Option Tmp)(t:TypeId)(a y:Operand)(d:ak)(K:bK->Prop):Prop:=
 match (aF ag t).size with
 |0=>False
 |_=>match bG s a with
  | .aV i off=>match bR s.loc i with
   | .cells eD cs=>match Nat.beq (dc d).length (aF ag t).size&&Nat.ble (off+(dc d).length) cs.length with
    |false=>False
    |true=>tq (jz cs off (dc d)) λdG=>gq ⟨s.env,gr s.loc i (.cells eD dG)⟩ dst (.ca false (.v (.bool false))) K
   |_=>False
  | .dU i off=>match bR s.loc i with
   | .cells eD cs=>match Nat.beq (dc d).length (aF ag t).size with
    |true=>off+(dc d).length<=cs.length/\gq ⟨s.env,gr s.loc i (.cells eD (jz cs off (dc d)))⟩ dst (.ca false (.v (.bool false))) K
    |false=>False
   |_=>False
  | .db _ _ _=>oV (hb [d]) s λs=>ha (bG s y) λd=>F8 ag s dst t (bG s a) d K
  |_=>False
def JY(loc:List aZ)(d:ak)(K:Bool->Prop):Prop:=
 match d with
 | .av=>K true
 | .ar _ es _=>(es=[]->K true)/\K false
 | .own j=>match bR loc j with
  | .row _ _ es=>(es=[]->K true)/\K false
  |_=>False
 |_=>False
def VT(loc:List aZ)(op:BinOp)(d:ak)(K:Bool->Prop):Prop:=
 match op with
 | .eql=>JY loc d λb=>K b
 | .neq=>JY loc d λb=>K (!b)
 |_=>False
def Dt(ag:dH)(P:Program)(o:Oper)(s:bK)(K:bK->Prop):Prop:=
 match JS o.op (bG s)with
 |true=>oq ag s.loc o.op (bG s) λc d=>tr c (gq s o.dst d K)
 |false=>match o.op with
  | .alloc t=>match (aF ag t).size with
   |0=>False
   |_=>gq ⟨s.env,s.loc++ [.cells t (aF ag t).zero]⟩ o.dst (.aV s.loc.length 0) K
  | .box t x=>ha (bG s x) λd=>match d with
   | .agg cs=>tq cs λcs=>gq ⟨s.env,s.loc++ [.cells t cs]⟩ o.dst (.aV s.loc.length 0) K
   | .ca .. | .bd _| .a1=>False
   |d=>gq ⟨s.env,s.loc++ [.cells t [d]]⟩ o.dst (.aV s.loc.length 0) K
  | .store t a x=>ha (bG s x) λd=>match d with
   | .ca .. | .bd _| .a1=>False
   |d=>AM ag s o.dst t a x d K
  | .buildSlice t n parts=>match (aF ag t).k with
   | .fc e=>match (aF ag e).size,Nat.ble (n* (aF ag e).size) 16777216 with
    |_+1,true=>O2 s (parts.toList.map (·.2)) λs=>tx (bG s) (aF ag e).size parts.toList (List.replicate n (aF ag e).zero) λes=>
     gq ⟨s.env,s.loc++ [.row e (aF ag e).size es]⟩ o.dst (.own s.loc.length) K
    |_,_=>False
   |_=>False
  | .makeSlice t l c=>match (aF ag t).k with
   | .fc e=>match (aF ag e).size,bG s l,bG s c with
    |_+1,.v (.int _ l),.v (.int _ c)=>∃n m:Nat,l=n/\c=m/\n<=m/\m* (aF ag e).bytes<=140737488355328/\m<=maxLen/\
      gq ⟨s.env,s.loc++ [.row e (aF ag e).size (List.replicate n (aF ag e).zero)]⟩ o.dst (.own s.loc.length) K
    |_,_,_=>False
   |_=>False
  | .slice t x dK hi eU=>match bG s x with
   | .own j=>match bR s.loc j with
    | .row e aB es=>match dK,hi,eU with
     |none,some h,none=>match (aF ag t).k with
      | .fc e'=>match Nat.beq (aF ag e').size aB with
       |true=>∃k:Nat,((∃uQ,bG s h= .v (.int uQ (k:Int)))/\k<=es.length)/\gq (s.grow j e aB (es.take k)) o.dst (.own j) K
       |false=>False
      |_=>False
     |dK,hi,eU=>oq ag (s.jO j aB es).loc (.slice t x dK hi eU) (bG (s.jO j aB es)) λc d=>tr c (gq (s.jO j aB es) o.dst d K)
    |_=>False
   |_=>False
  | .convert src dst x=>match bG s x with
   | .own j=>match bR s.loc j with
    | .row _ aB es=>oq ag (s.jO j aB es).loc (.convert src dst x) (bG (s.jO j aB es)) λc d=>tr c (gq (s.jO j aB es) o.dst d K)
    |_=>False
   |_=>False
  | .binOp op t x y _=>match (aF ag t).k,bG s y with
   | .fc _,.av=>VT s.loc op (bG s x) λb=>gq s o.dst (.v (.bool b)) K
   |_,_=>False
  | .call {callee:=.builtin .append,args,argTypes}=>match args.toList,argTypes.toList with
   | [x,y],[t,eD]=>match Nat.beq t eD,(aF ag t).k with
    |true,.fc e=>match (aF ag e).size with
     |0=>False
     |_=>JX ag e s o.dst (bG s x) (bG s y) K
    |_,_=>False
   |_,_=>False
  | .call {callee:=.builtin .copy,args,argTypes}=>match args.toList,argTypes.toList with
   | [x,y],[t,eD]=>match Nat.beq t eD,(aF ag t).k with
    |true,.fc e=>match (aF ag e).size with
     |0=>False
     |_=>F7 ag e s o.dst (bG s x) (bG s y) K
    |_,_=>False
   |_,_=>False
  | .call {callee:=.value f,args,..}=>match bG s f with
   | .fn (.func n) cu=>tt (bG s) args.toList λl=>JW P n (l++cu) s (λr s=>gq s o.dst r K)\/VS P n (l++cu) s (λr s=>gq s o.dst r K)
   |_=>False
  |_=>False
def pF(b:Bool)(s:bK):List Operand->(Option Prop->Prop)->Prop
 | [],K=>K none
 |x::r,K=>match bG s x with
  | .ca g _=>pF b s r λc=>K (andO (some (b=true->g=true)) c)
  |_=>pF b s r K
def under(g:Bool):Option Prop->Option Prop
 |none=>none
 |some c=>some (g=true->c)
def ae7(d:ak):ak:=
 match d with
 | .ca _ d=>d
 |d=>d
def jA(s:bK)(x:Operand):ak:=ae7 (bG s x)
def pG(g:Bool):List Operand->bK->(bK->Prop)->Prop
 | [],s,K=>K s
 | .tmp t::r,s,K=>match look s.env t with
  | .ca dV d=>(g=true->dV=true)/\pG g r ⟨(t,d)::s.env,s.loc⟩ K
  |_=>pG g r s K
 |_::r,s,K=>pG g r s K
def F9(ag:dH)(P:Program)(o:Oper)(g:Bool)(s:bK)(K:bK->Prop):Prop:=
 match JS o.op (jA s)with
 |true=>pF g s o.op.operands.toList λkq=>oq ag s.loc o.op (jA s) λc d=>tr (andO kq (under g c)) (gq s o.dst (.ca g d) K)
 |false=>match o.op with
  | .call {callee:=.value f,args,..}=>match jA s f with
   | .fn (.func n) cu=>match (args.toList.map (jA s)).all (VQ s.loc)with
    |true=>pF g s o.op.operands.toList λkq=>tt (jA s) args.toList λl=>tu s.loc (l++cu) λk1=>∃cO r,mZ k1 cO/\(g=true->bl P n cO r)/\tr kq (match hb (l++cu)with
     | []=>gq s o.dst (.ca g r) K
     |_=>match xq r with
      |true=>gq s o.dst (.ca g r) K
      |false=>(g=true->pG g o.op.operands.toList s λs=>Dt ag P o s K)/\(g=false->gq s o.dst (.ca false (.v (.bool false))) K))
    |false=>(g=true->pG g o.op.operands.toList s λs=>Dt ag P o s K)/\(g=false->gq s o.dst (.ca false (.v (.bool false))) K)
   |_=>False
  |_=>(g=true->pG g o.op.operands.toList s λs=>Dt ag P o s K)/\(g=false->gq s o.dst (.ca false (.v (.bool false))) K)
def yO(s:bK)(g:Bool)(c a b:Operand)(K:Option Prop->ak->Prop):Prop:=
 pF g s [c] λkq=>match jA s c with
 | .v (.bool t)=>ts (g&&t) (bG s a) λfF x=>ts (g&& !t) (bG s b) λeR y=>ha x λx=>ha y λy=>rN t x y (sv a) (sw b) λd=>K (andO kq (andO fF eR)) d
 |_=>False
def Du(ag:dH)(P:Program)(o:Oper)(g:Bool)(s:bK)(K:bK->Prop):Prop:=
 match o.op with
 | .pick c a b=>yO s g c a b λc d=>tr c (gq s o.dst (.ca g d) K)
 |_=>F9 ag P o g s K
def uR(all:List Oper)(s:bK)(j:Nat):ak:=
 match all[j]? with
 |some o=>match o.dst with
  |some t=>look s.env t
  |none=>.a1
 |none=>.a1
def Ga(b want:Bool)(K:Bool->Prop):Prop:=
 match want with
 |true=>K b
 |false=>K (!b)
def JZ(ag:dH)(P:Program)(all:List Oper)(o:Oper)(s:bK)(K:bK->Prop):Prop:=
 match o.guard with
 |none=>Dt ag P o s K
 |some (j,want)=>match uR all s j with
  | .v (.bool b)=>Ga b want λg=>Du ag P o g s K
  | .ca g (.v (.bool b))=>Ga b want λdV=>Du ag P o (g&&dV) s K
  |_=>False
def ae8(o fV:Oper):Bool:=
 match o.op,fV.op with
 | .slice _ _ (some _) none none,.call {callee:=.builtin .clear,..}=>match o.guard,fV.guard,o.dst,fV.dst with
  |none,none,some _,none=>true
  |_,_,_,_=>false
 |_,_=>false
def VU(ag:dH)(s:bK)(o fV:Oper)(K:bK->Prop):Prop:=
 match o.op,fV.op,o.guard,fV.guard,o.dst,fV.dst with
 | .slice t x (some dK) none none,.call {callee:=.builtin .clear,args,argTypes},none,none,some d1,none=>match args.toList,argTypes.toList,(aF ag t).k,bG s x with
  | [.tmp d2],[t2],.fc e',.own j=>match bR s.loc j with
   | .row e aB es=>match Nat.beq d1 d2&&Nat.beq t t2&&Nat.beq (aF ag e').size aB with
    |true=>∃k:Nat,((∃uQ,bG s dK= .v (.int uQ (k:Int)))/\k<=es.length)/\K ⟨(d1,.a1)::s.env,gr s.loc j (.row e aB (es.take k++List.replicate (es.length-k) (List.replicate aB .a1)))⟩
    |false=>False
   |_=>False
  |_,_,_,_=>False
 |_,_,_,_,_,_=>False
def AN(ag:dH)(P:Program)(all:List Oper):List Oper->(bK->Prop)->bK->Prop
 | [],K,s=>K s
 | [o],K,s=>JZ ag P all o s K
 |o::fV::r,K,s=>match ae8 o fV with
  |true=>VU ag s o fV λs=>AN ag P all r K s
  |false=>JZ ag P all o s λs=>AN ag P all (fV::r) K s
def AO(b:Bool)(x y:Prop):Prop:=
 match b with
 |true=>x
 |false=>y
variable{b:Bool}
theorem bh{x y:Prop}(h:b=true->x)(bp:b=false->y):AO b x y:=by
 cases b
 ·exact bp rfl
 ·exact h rfl
structure fe where
 AP:List (Nat×ak)
 kr:List Nat
 m4:List (Nat×aZ)
 qj:List (Nat×Nat)
def q3:List aZ->List (Nat×aZ)->List aZ
 |l,[]=>l
 |l,p::r=>q3 (gr l p.1 p.2) r
def fe.kM(bA:fe)(s:bK):bK:=⟨bA.AP++s.env,q3 s.loc bA.m4⟩
def J0:List (Nat×ak)->List (Nat×ak)->(List (Nat×ak)->Prop)->Prop
 | [],e,K=>K e
 |p::r,e,K=>J0 r e λe=>K (p::e)
def fe.VV(bA:fe)(s:bK)(K:bK->Prop):Prop:=
 match bA,s with
 | ⟨AP,_,m4,_⟩,⟨e,l⟩=>J0 AP e λe=>match m4 with
  | []=>K ⟨e,l⟩
  |_=>FX (q3 l m4) λl=>K ⟨e,l⟩
def J1:ak->List Nat
 | .aV i _=>[i]
 |_=>[]
def qk:ak->List Nat
 | .aV i _| .dU i _| .db i _ _| .own i=>[i]
 | .fn _ cu=>cu.flatMap J1
 |_=>[]
def hQ:ak->List Nat
 | .agg cs=>cs.flatMap qk
 | .bd ds=>ds.flatMap qk
 | .ca _ d=>hQ d
 |d=>qk d
def oX(ρ:Operand->ak)(l:List Operand):List Nat:=l.flatMap λx=>hQ (ρ x)
def gL(dst:Option Tmp)(d:ak):List (Nat×ak):=
 match dst with
 |some t=>[(t,d)]
 |none=>[]
def O3:aZ->Bool
 | .bm=>true
 |_=>false
def ou(l:List aZ)(i:Nat):Bool:=Nat.blt i l.length&&O3 (bR l i)
def O4(ag:dH)(s:bK)(dst:Option Tmp)(t:TypeId)(a:Operand)(d:ak)(K:fe->Prop):Prop:=
 match (aF ag t).size with
 |0=>False
 |_=>match bG s a with
  | .aV i off=>match bR s.loc i with
   | .cells eD cs=>match Nat.beq (dc d).length (aF ag t).size&&Nat.ble (off+(dc d).length) cs.length with
    |false=>False
    |true=>tq (jz cs off (dc d)) λdG=>K ⟨gL dst (.ca false (.v (.bool false))),i::hQ d,[(i,.cells eD dG)],[]⟩
   |_=>False
  | .dU i off=>match bR s.loc i with
   | .cells eD cs=>match Nat.beq (dc d).length (aF ag t).size with
    |true=>off+(dc d).length<=cs.length/\K ⟨gL dst (.ca false (.v (.bool false))),i::hQ d,[(i,.cells eD (jz cs off (dc d)))],[]⟩
    |false=>False
   |_=>False
  | .db i k off=>match pB (dc d),bR s.loc i with
   |true,.row e aB es=>∃gd,es[k]?=some gd/\match Nat.beq (dc d).length (aF ag t).size&&Nat.ble (off+(dc d).length) aB with
    |true=>K ⟨gL dst (.ca false (.v (.bool false))),i::hQ d,[(i,.row e aB (es.set k (jz gd off (dc d))))],[]⟩
    |false=>False
   |_,_=>False
  |_=>False
def O5(ag:dH)(e:TypeId)(s:bK)(idx:Nat)(dst:Option Tmp)(x y:ak)(K:fe->Nat->Prop):Prop:=
 tz ag e s.loc y λys some=>match x with
  | .av=>match ou s.loc idx with
   |true=>kp ag e ys.length/\K ⟨gL dst (.own idx),hQ y,[(idx,.row e (aF ag e).size ys)],[]⟩ (idx+1)
   |false=>False
  | .own i=>match bR s.loc i with
   | .row e' aB es=>match Nat.beq e' e&&Nat.beq aB (aF ag e).size&&ou s.loc idx with
    |true=>kp ag e (es.length+ys.length)/\K ⟨gL dst (.own idx),i::hQ y,[(i,.gone),(idx,.row e aB (es++ys))],[(idx,i)]⟩ (idx+1)
    |false=>False
   |_=>False
  | .ar aB es true=>match Nat.beq aB (aF ag e).size with
   |true=>kp ag e (es.length+ys.length)/\match some with
    |true=>match ou s.loc idx with
     |true=>0<ys.length/\K ⟨gL dst (.own idx),hQ y,[(idx,.row e aB (es++ys))],[]⟩ (idx+1)
     |false=>False
    |false=>(0<ys.length/\match ou s.loc idx with
     |true=>K ⟨gL dst (.own idx),hQ y,[(idx,.row e aB (es++ys))],[]⟩ (idx+1)
     |false=>False)\/K ⟨gL dst (.ar aB (es++ys) false),hQ y,[],[]⟩ idx
   |false=>False
  |_=>False
def O6(ag:dH)(e:TypeId)(s:bK)(dst:Option Tmp)(x y:ak)(K:fe->Prop):Prop:=
 tz ag e s.loc y λys _=>match x with
  | .av=>K ⟨gL dst (.v (.int .i64 (0:Nat))),hQ y,[],[]⟩
  | .own i=>match bR s.loc i with
   | .row e' aB es=>match Nat.beq e' e&&Nat.beq aB (aF ag e).size with
    |true=>K ⟨gL dst (.v (.int .i64 (Nat.min ys.length es.length:Nat))),i::hQ y,[(i,.row e aB (ys.take es.length++es.drop ys.length))],[]⟩
    |false=>False
   |_=>False
  |_=>False
def O7(P:Program)(f:FuncId)(args:List ak)(s:bK)(idx:Nat)(dst:Option Tmp)(kr:List Nat)(K:fe->Nat->Prop):Prop:=
 ∃ (pass:List Nat) (L:List aZ) (ko:List ak) (kept:List Bool) (bL:List aZ) (d:ak),
  cm P f L ko kept bL d/\(tw kept L bL&&q2 L&&AL (pass++bO idx (bL.length-L.length))&&pass.all (λi=>Nat.blt i s.loc.length)&&ko.all (kL L)&&oW L L&&yN kept L bL&& (bO idx (bL.length-L.length)).all (ou s.loc))=true/\
  sB s.loc (dn (pass++bO idx (bL.length-L.length))) pass L/\mZ args (ko.map (k0 (dn (pass++bO idx (bL.length-L.length)))))/\
  K ⟨gL dst (k0 (dn (pass++bO idx (bL.length-L.length))) d),kr++pass,(pass++bO idx (bL.length-L.length)).zip (bL.map (gP (dn (pass++bO idx (bL.length-L.length))))),[]⟩ (idx+(bL.length-L.length))
def O8(P:Program)(f:FuncId)(args:List ak)(s:bK)(idx:Nat)(dst:Option Tmp)(kr:List Nat)(K:fe->Nat->Prop):Prop:=
 match hb args with
 | [.own j]=>match jN (bR s.loc j)with
  |true=>tu s.loc args λk1=>∃ (ko:List ak) (bL:List aZ) (d:ak),cm P f [] ko [] bL d/\(tw [] [] bL&&ko.all (kL [])&&AL (bO idx bL.length)&& (bO idx bL.length).all (ou s.loc))=true/\mZ k1 ko/\
    K ⟨gL dst (k0 (dn (bO idx bL.length)) d),kr,(j,.gone):: (bO idx bL.length).zip (bL.map (gP (dn (bO idx bL.length)))),[]⟩ (idx+bL.length)
  |false=>False
 |_=>False
def O9(o:Op)(ρ:Operand->ak):List Nat:=
 match o with
 | .move _| .assign _=>[]
 |_=>oX ρ o.operands.toList
def Gb(ag:dH)(P:Program)(o:Oper)(idx:Nat)(s:bK)(K:fe->Nat->Prop):Prop:=
 match JS o.op (bG s)with
 |true=>oq ag s.loc o.op (bG s) λc d=>tr c (K ⟨gL o.dst d,O9 o.op (bG s),[],[]⟩ idx)
 |false=>match o.op with
  | .alloc t=>match (aF ag t).size,ou s.loc idx with
   |_+1,true=>K ⟨gL o.dst (.aV idx 0),[],[(idx,.cells t (aF ag t).zero)],[]⟩ (idx+1)
   |_,_=>False
  | .box t x=>match ou s.loc idx with
   |true=>ha (bG s x) λd=>match d with
    | .agg cs=>tq cs λcs=>K ⟨gL o.dst (.aV idx 0),hQ (.agg cs),[(idx,.cells t cs)],[]⟩ (idx+1)
    | .ca .. | .bd _| .a1=>False
    |d=>K ⟨gL o.dst (.aV idx 0),hQ d,[(idx,.cells t [d])],[]⟩ (idx+1)
   |false=>False
  | .call {callee:=.builtin .append,args,argTypes}=>match args.toList,argTypes.toList with
   | [x,y],[t,eD]=>match Nat.beq t eD,(aF ag t).k with
    |true,.fc e=>match (aF ag e).size with
     |0=>False
     |_=>O5 ag e s idx o.dst (bG s x) (bG s y) K
    |_,_=>False
   |_,_=>False
  | .call {callee:=.builtin .copy,args,argTypes}=>match args.toList,argTypes.toList with
   | [x,y],[t,eD]=>match Nat.beq t eD,(aF ag t).k with
    |true,.fc e=>match (aF ag e).size with
     |0=>False
     |_=>O6 ag e s o.dst (bG s x) (bG s y) λbA=>K bA idx
    |_,_=>False
   |_,_=>False
  | .store t a x=>ha (bG s x) λd=>match d with
   | .ca .. | .bd _| .a1=>False
   |d=>O4 ag s o.dst t a d λbA=>K bA idx
  | .buildSlice t n parts=>match (aF ag t).k with
   | .fc e=>match (aF ag e).size,Nat.ble (n* (aF ag e).size) 16777216 with
    |_+1,true=>match n with
     |0=>match ou s.loc idx with
      |true=>tx (bG s) (aF ag e).size parts.toList (List.replicate 0 (aF ag e).zero) λes=>
       K ⟨gL o.dst (.own idx),[],[(idx,.row e (aF ag e).size es)],[]⟩ (idx+1)
      |false=>False
     |n+1=>∃w:Bool,match w with
      |true=>match ou s.loc idx with
       |true=>tx (bG s) (aF ag e).size parts.toList (List.replicate (n+1) (aF ag e).zero) λes=>
        K ⟨gL o.dst (.own idx),[],[(idx,.row e (aF ag e).size es)],[]⟩ (idx+1)
       |false=>False
      |false=>tx (bG s) (aF ag e).size parts.toList (List.replicate (n+1) (aF ag e).zero) λes=>
       K ⟨gL o.dst (.ar (aF ag e).size es (Nat.beq n 0)),[],[],[]⟩ idx
    |_,_=>False
   |_=>False
  | .makeSlice t l c=>match (aF ag t).k with
   | .fc e=>match (aF ag e).size,bG s l,bG s c,ou s.loc idx with
    |_+1,.v (.int _ l),.v (.int _ c),true=>∃n m:Nat,l=n/\c=m/\n<=m/\m* (aF ag e).bytes<=140737488355328/\m<=maxLen/\
      K ⟨gL o.dst (.own idx),[],[(idx,.row e (aF ag e).size (List.replicate n (aF ag e).zero))],[]⟩ (idx+1)
    |_,_,_,_=>False
   |_=>False
  | .call {callee:=.value f,args,..}=>match bG s f with
   | .fn (.func n) cu=>tt (bG s) args.toList λl=>(tu s.loc (l++cu) λk1=>∃cO r,mZ k1 cO/\bl P n cO r/\match hb (l++cu)with
    | []=>K ⟨gL o.dst r,oX (bG s) o.op.operands.toList++cu.flatMap hQ,[],[]⟩ idx
    |os=>match xq r with
     |true=>K ⟨gL o.dst r,oX (bG s) o.op.operands.toList++cu.flatMap hQ,[],[]⟩ idx
     |false=>match os with
      | [.own j]=>match jN (bR s.loc j)with
       |true=>K ⟨gL o.dst r,oX (bG s) o.op.operands.toList++cu.flatMap hQ,[(j,.gone)],[]⟩ idx
       |false=>False
      |_=>False)\/match hb (l++cu)with
       | [.own _]=>O7 P n (l++cu) s idx o.dst (oX (bG s) o.op.operands.toList) K\/O8 P n (l++cu) s idx o.dst (oX (bG s) o.op.operands.toList++cu.flatMap hQ) K
       |_=>O7 P n (l++cu) s idx o.dst (oX (bG s) o.op.operands.toList) K
   |_=>False
  |_=>False
def Dv(loc:List aZ)(ρ:Nat->Nat):List Nat->List aZ->Prop
 | [],[]=>True
 |i::r,o::eH=>bR loc i=gP ρ o/\Dv loc ρ r eH
 |_,_=>False
def Pa(P:Program)(o:Oper)(idx:Nat)(s:bK)(K:fe->Nat->Prop):Prop:=
 match o.op with
 | .call {callee:=.value f,args,..}=>match bG s f with
  | .fn (.func k) cu=>tt (bG s) args.toList λl=>∃ (pass:List Nat) (L:List aZ) (ko:List ak) (kept:List Bool) (d:ak),
    cm P k L ko kept L d/\(tw kept L L&&q2 L&&AL pass&&pass.all (λi=>Nat.blt i s.loc.length)&&ko.all (kL L)&&oW L L&&kept.all (λb=>b))=true/\
    Dv s.loc (dn pass) pass L/\mZ (l++cu) (ko.map (k0 (dn pass)))/\
    K ⟨gL o.dst (k0 (dn pass) d),oX (bG s) o.op.operands.toList++pass,[],[]⟩ idx
  |_=>False
 |_=>False
def J2(ag:dH)(P:Program)(o:Oper)(g:Bool)(idx:Nat)(s:bK)(K:fe->Nat->Prop):Prop:=
 match o.op with
 | .pick c a b=>yO s g c a b λc d=>tr c (K ⟨gL o.dst (.ca g d),oX (bG s) o.op.operands.toList,[],[]⟩ idx)
 |_=>match JS o.op (jA s)with
  |true=>pF g s o.op.operands.toList λkq=>oq ag s.loc o.op (jA s) λc d=>tr (andO kq (under g c)) (K ⟨gL o.dst (.ca g d),oX (jA s) o.op.operands.toList,[],[]⟩ idx)
  |false=>match o.op with
   | .call {callee:=.value f,args,..}=>match jA s f with
    | .fn (.func n) cu=>match (args.toList.map (jA s)).all (VQ s.loc)with
     |true=>pF g s o.op.operands.toList λkq=>tt (jA s) args.toList λl=>tu s.loc (l++cu) λk1=>∃cO r,mZ k1 cO/\(g=true->bl P n cO r)/\tr kq (match hb (l++cu)with
      | []=>K ⟨gL o.dst (.ca g r),oX (jA s) o.op.operands.toList++cu.flatMap hQ,[],[]⟩ idx
      |_=>match xq r with
       |true=>K ⟨gL o.dst (.ca g r),oX (jA s) o.op.operands.toList++cu.flatMap hQ,[],[]⟩ idx
       |false=>False)
     |false=>AO g (pG g o.op.operands.toList s λs=>Pa P o idx s K\/Gb ag P o idx s K) (∃d:ak,K ⟨gL o.dst (.ca false d),[],[],[]⟩ idx)
    |_=>False
   |_=>AO g (Gb ag P o idx s K) (K ⟨gL o.dst (.ca false (.v (.bool false))),[],[],[]⟩ idx)
def Pb(ag:dH)(P:Program)(all:List Oper)(o:Oper)(idx:Nat)(s:bK)(K:fe->Nat->Prop):Prop:=
 match o.guard with
 |none=>Gb ag P o idx s K
 |some (j,want)=>match uR all s j with
  | .v (.bool b)=>Ga b want λg=>J2 ag P o g idx s K
  | .ca g (.v (.bool b))=>Ga b want λdV=>J2 ag P o (g&&dV) idx s K
  |_=>False
def Pc:List (Nat×Nat)->List (Nat×Nat)->(List (Nat×Nat)->Prop)->Prop
 |ll,[],K=>K ll
 |ll,p::r,K=>Pc (p::ll) r K
def J3(ag:dH)(P:Program)(all:List Oper):List Oper->Nat->List fe->List (Nat×Nat)->(List fe->List (Nat×Nat)->bK->Prop)->bK->Prop
 | [],_,aP,ll,K,s=>K aP ll s
 |o::r,idx,aP,ll,K,s=>Pb ag P all o idx s λbA yP=>bA.VV s λs=>Pc ll bA.qj λll=>J3 ag P all r yP (aP++ [bA]) ll K s
def AQ(aP:List Nat):List Edge->Nat->Nat
 | [],m=>m
 |e::r,m=>match Region.binds .any e with
  |true=>AQ aP r (Nat.lor m (Nat.lor (2^e.on) (aP.getD e.on 0)))
  |false=>AQ aP r m
def AR:List Oper->List Nat->List Nat
 | [],aP=>aP
 |o::r,aP=>AR r (aP++ [AQ aP o.after.toList 0])
def AS:List Oper->Nat->Bool
 | [],_=>true
 |o::r,i=>o.after.toList.all (λe=> !Region.binds .any e||Nat.blt e.on i)&&AS r (i+1)
def Dw(l r:List Nat):Bool:=l.any λx=>r.any λy=>Nat.beq x y
structure uS where
 xu:List Nat
 a6:List Nat
 kr:List Nat
 m4:List Nat
def wh(all:Array Oper)(o:Oper)(bA:fe):uS:=
 ⟨o.looksAt all,bA.AP.map (·.1),bA.kr,bA.m4.map (·.1)⟩
def xv(f g:uS):Bool:=Dw f.a6 (g.xu++g.a6)||Dw f.xu g.a6||Dw f.m4 (g.kr++g.m4)||Dw f.kr g.m4
def Gc(f:uS)(i:Nat):List uS->List Nat->Bool
 |g::r,m::ms=>(!xv f g||Nat.testBit m i)&&Gc f i r ms
 |_,_=>true
def Gd:Nat->List uS->List Nat->Bool
 |i,f::r,_::ms=>Gc f i r ms&&Gd (i+1) r ms
 |_,_,_=>true
def J4(all:Array Oper):List Oper->List fe->List uS
 |o::r,bA::di=>wh all o bA::J4 all r di
 |_,_=>[]
def J5(ops:Array Oper)(di:List fe):Bool:=
 AS ops.toList 0&&Gd 0 (J4 ops ops.toList di) (AR ops.toList [])
def uT:List Oper->Nat
 | []=>0
 |o::r=>match o.op with
  | .alloc _| .makeSlice .. | .box .. =>uT r+1
  | .buildSlice .. =>uT r+1
  | .call {callee:=.builtin .append,..}=>uT r+1
  | .call {callee:=.value _,..}=>uT r+1
  |_=>uT r
def lm(a b:Nat):ak->ak
 | .own j=>match Nat.beq j a with
  |true=>.own b
  |false=>match Nat.beq j b with
   |true=>.a1
   |false=>.own j
 | .db j k o=>match Nat.beq j a with
  |true=>.db b k o
  |false=>match Nat.beq j b with
   |true=>.a1
   |false=>.db j k o
 | .ca c d=>.ca c (lm a b d)
 |d=>d
def xw(a b:Nat):ak->ak
 | .agg cs=>.agg (cs.map (lm a b))
 | .bd ds=>q1 ds
 | .ca c d=>.ca c (xw a b d)
 |d=>lm a b d
def Pd(s:bK)(p:Nat×Nat):bK:=
 match jN (bR s.loc p.1),OV (bR s.loc p.2)with
 |true,true=>⟨pC (xw p.1 p.2) s.env,gr (gr (oU (lm p.1 p.2) s.loc) p.2 (bR s.loc p.1)) p.1 .bm⟩
 |_,_=>s
def Dx:List (Nat×Nat)->bK->bK
 | [],s=>s
 |p::r,s=>Dx r (Pd s p)
def Pe:List Oper->Tmp->Option Operand
 | [],_=>none
 |o::r,t=>match o.dst,o.op with
  |some d,.move y=>match Nat.beq d t with
   |true=>some y
   |false=>Pe r t
  |_,_=>Pe r t
def ae9(all:List Oper)(s:bK)(x:Operand):ak:=
 match x with
 | .tmp t=>match Pe all t with
  |some y=>bG s y
  |none=>bG s x
 |_=>bG s x
def Dy(all:List Oper):List Oper->bK->(bK->Prop)->Prop
 | [],s,K=>K s
 |o::r,s,K=>match o.op with
  | .slice _ x _ _ _=>match ae9 all s x with
   | .own j=>oV [.own j] s λs=>Dy all r s K
   |_=>Dy all r s K
  |_=>Dy all r s K
def VW(ag:dH)(P:Program)(ops:Array Oper)(K:bK->Prop)(s:bK):Prop:=
 FX (s.loc++List.replicate (uT ops.toList) .bm) λafa=>J3 ag P ops.toList ops.toList s.loc.length [] [] (λdi ll s'=>J5 ops di=true/\match ll with
  | []=>K s'
  |qj=>K (Dx qj s')) ⟨s.env,afa⟩
def Pf(ag:dH)(P:Program)(ops:Array Oper)(K:bK->Prop)(s:bK):Prop:=
 Dy ops.toList ops.toList s λs=>VW ag P ops K s
def Pg(s:List (Nat×ak)):List (Nat×ak)->Prop
 | []=>True
 |p::r=>hP (look s p.1) p.2/\Pg s r
def Dz:List aZ->List aZ->Prop
 |_,[]=>True
 |o::r,aU::eH=>hr o aU/\Dz r eH
 | [],_::_=>False
def bK.le(s t:bK):Prop:=Pg s.env t.env/\Dz s.loc t.loc/\(Dq t.loc t.env&&oW t.loc t.loc)=true
inductive Ge where
 |ho(t:Nat)(e:TypeId)(aB:Nat)
 |cell(i off:Nat)(e:TypeId)(aB:Nat)
 |jO(t:Nat)
 |swap(i j:Nat)
 |ql(i off:Nat)
 |fresh(e:TypeId)(aB:Nat)
 |fa(i j:Nat)
 |oY(i:Nat)
 |yQ(t i:Nat)
def ks(i j k:Nat):Nat:=
 match Nat.beq k i with
 |true=>j
 |false=>match Nat.beq k j with
  |true=>i
  |false=>k
def yR(f:aZ->aZ):List aZ->List aZ
 | []=>[]
 |o::r=>f o::yR f r
def Ph(l:List aZ)(i j:Nat):List aZ:=gr (gr l i (bR l j)) j (bR l i)
def Gf(i j:Nat)(s:bK)(K:bK->Prop):Prop:=
 match Nat.blt i s.loc.length&&Nat.blt j s.loc.length with
 |true=>K ⟨pC (k0 (ks i j)) s.env,Ph (yR (tv (ks i j)) s.loc) i j⟩
 |false=>False
def J6(t:Nat)(s:bK)(K:bK->Prop):Prop:=
 match look s.env t with
 | .own j=>match bR s.loc j with
  | .row _ aB es=>K (s.jO j aB es)
  |_=>K s
 |_=>K s
def sC:List Ge->bK->(bK->Prop)->Prop
 | [],s,K=>K s
 | .jO t::r,s,K=>J6 t s λs=>sC r s K
 | .ho _ _ _::r,s,K=>sC r s K
 | .cell _ _ _ _::r,s,K=>sC r s K
 | .swap i j::r,s,K=>Gf i j s λs=>sC r s K
 | .ql _ _::r,s,K=>sC r s K
 | .fresh _ _::r,s,K=>sC r s K
 | .fa _ _::r,s,K=>sC r s K
 | .oY _::r,s,K=>sC r s K
 | .yQ t i::r,s,K=>match look s.env t with
  | .own j=>Gf i j s λs=>sC r s K
  |_=>sC r s K
def oZ:List Ge->bK->(bK->Prop)->Prop
 | [],s,K=>K s
 | .swap _ _::r,s,K=>oZ r s K
 | .yQ _ _::r,s,K=>oZ r s K
 | .fa i j::r,s,K=>Gf i j s λs=>oZ r s K
 | .oY i::r,s,K=>match ou s.loc i||jN (bR s.loc i)with
  |true=>oZ r ⟨s.env,gr s.loc i .gone⟩ K
  |false=>False
 | .ql i off::r,s,K=>match bR s.loc i with
  | .cells _ cs=>match cs[off]? with
   |some (.own j)=>oV [.own j] s λs=>oZ r s K
   |_=>False
  |_=>False
 | .fresh e aB::r,s,K=>match aB with
  |m+1=>oZ r ⟨s.env,s.loc++ [.row e (m+1) []]⟩ K
  |0=>False
 | .jO t::r,s,K=>J6 t s λs=>oZ r s K
 | .ho t e aB::r,s,K=>match look s.env t,aB with
  | .av,_+1=>oZ r ⟨(t,.own s.loc.length)::s.env,s.loc++ [.row e aB []]⟩ K
  |_,_=>False
 | .cell i off e aB::r,s,K=>match bR s.loc i,aB with
  | .cells t cs,_+1=>match cs[off]? with
   |some .av=>oZ r ⟨s.env,gr s.loc i (.cells t (uL cs off (.own s.loc.length)))++ [.row e aB []]⟩ K
   |_=>False
  |_,_=>False
def afb(body: (Exit->bK->Prop)->bK->Prop)(K:Exit->bK->Prop)(s:bK):Prop:=
 ∃ (S:Type) (enc:S->bK) (I:S->Prop) (μ:S->Nat) (q4:List Ge),(∃x,I x/\oZ q4 s λs=>s.le (enc x))/\
  ∀x,I x->body (λe s'=>match e with
   | .normal=>∃x',I x'/\μ x'<μ x/\sC q4 s' λs'=>s'.le (enc x')
   |e=>K e s') (enc x)
def rR(ag:dH)(P:Program):Code->(Exit->bK->Prop)->bK->Prop
 | .skip,K,s=>K .normal s
 | .region _ ops draw,K,s=>match draw with
  |false=>AN ag P ops.toList ops.toList (λs=>K .normal s) s
  |true=>Pf ag P ops (λs=>K .normal s) s
 | .seq a b,K,s=>rR ag P a (λe s'=>match e with
   | .normal=>rR ag P b K s'
   |e=>K e s') s
 | .cond c a b,K,s=>match bG s c with
  | .v (.bool t)=>AO t (rR ag P a K s) (rR ag P b K s)
  |_=>False
 | .block id c,K,s=>rR ag P c (λe s'=>match e with
   | .exit j=>match Nat.beq j id with
    |true=>K .normal s'
    |false=>K (.exit j) s'
   |e=>K e s') s
 | .loop c,K,s=>afb (rR ag P c) K s
 | .exit id,K,s=>K (.exit id) s
 | .ret,K,s=>K .ret s
 | .label _,K,s=>K .normal s
 | .scope c,K,s=>rR ag P c (λe s'=>match e with
   | .goto _=>False
   |e=>K e s') s
 |_,_,_=>False
def Gg(ag:dH)(s:bK):List ResultVar->(List ak->Prop)->Prop
 | [],K=>K []
 | .tmp t::r,K=>ha (look s.env t) λd=>uN s.loc d λd=>Gg ag s r λl=>K (d::l)
 | .cell p ty::r,K=>match look s.env p with
  | .aV i o=>match bR s.loc i with
   | .cells _ cs=>match (aF ag ty).size with
    |0=>False
    |_=>qY o cs λl=>mB (aF ag ty).agg (aF ag ty).size l λd=>uN s.loc d λd=>Gg ag s r λl=>K (d::l)
   |_=>False
  |_=>False
def VX(ag:dH)(l7:List ResultVar)(d:ak)(s:bK):Prop:=
 Gg ag s l7 λl=>match l with
  | [x]=>hP x d
  |l=>hP (.bd l) d
def wi:Nat->List ak->List (Nat×ak)
 |_,[]=>[]
 |n,d::r=>(n,d)::wi (n+1) r
def VY(ag:dH)(P:Program)(c:Code)(l7:List ResultVar)(args:List ak)(d:ak):Prop:=
 rR ag P c (λe s=>match e with
  | .normal| .ret=>VX ag l7 d s
  |_=>False) ⟨wi 0 args,[]⟩
def na(k:Nat):aZ->ak
 | .row .. =>.own k
 | .cells .. =>.aV k 0
 |_=>.a1
def wj:Nat->List aZ->List ak
 |_,[]=>[]
 |k,o::r=>na k o::wj (k+1) r
def DA(L:List aZ):List aZ:=
 match L with
 | []=>[]
 |_=>[.cD (wj 0 L)]
def AT:Nat->List Bool->List aZ->List ak
 |k,true::r,o::l=>na k o::AT (k+1) r l
 |k,false::r,_::l=>.a1::AT (k+1) r l
 |_,_,_=>[]
def nb(L:List aZ)(kept:List Bool)(bL:List aZ):List aZ:=
 match L with
 | []=>bL
 |_=>bL.take L.length++ .cD (AT 0 kept bL)::bL.drop (L.length+1)
def Gh:Nat->List aZ->Bool
 |_,[]=>true
 |0,.bm::_=>true
 |0,_::_=>false
 |n+1,_::r=>Gh n r
def Pj(L bL:List aZ):Bool:=
 match L with
 | []=>true
 |_=>Gh L.length bL
def DB(ag:dH)(s:bK):List ResultVar->(List ak->Prop)->Prop
 | [],K=>K []
 | .tmp t::r,K=>ha (look s.env t) λd=>match mX d||pB (dc d)with
  |true=>DB ag s r λl=>K (d::l)
  |false=>False
 | .cell p ty::r,K=>match look s.env p with
  | .aV i o=>match bR s.loc i with
   | .cells _ cs=>match (aF ag ty).size with
    |0=>False
    |_=>qY o cs λl=>mB (aF ag ty).agg (aF ag ty).size l λd=>match pB (dc d)with
     |true=>DB ag s r λl=>K (d::l)
     |false=>False
   |_=>False
  |_=>False
def Pk(ag:dH)(s:bK)(l7:List ResultVar)(K:ak->Prop):Prop:=
 match l7 with
 | [.tmp t]=>ha (look s.env t) λd=>K d
 | [.cell p ty]=>match look s.env p with
  | .aV i o=>match bR s.loc i with
   | .cells _ cs=>match (aF ag ty).size with
    |0=>False
    |_=>qY o cs λl=>mB (aF ag ty).agg (aF ag ty).size l λd=>K d
   |_=>False
  |_=>False
 |l7=>DB ag s l7 λl=>K (.bd l)
def DC(ag:dH)(l7:List ResultVar)(L:List aZ)(kept:List Bool)(bL:List aZ)(d:ak)(s:bK):Prop:=
 Pk ag s l7 λx=>hP x d/\Dz s.loc (nb L kept bL)/\(tw kept L bL&&q2 bL&&Pj L bL&& (match d with| .bd ds=>ds.all (λe=> !mX e||kL bL e)|d=>kL bL d)&&oW bL bL&&oW (nb L kept bL) (nb L kept bL))=true
def VZ(ag:dH)(P:Program)(c:Code)(l7:List ResultVar)(L:List aZ)(args:List ak)(kept:List Bool)(bL:List aZ)(d:ak):Prop:=
 rR ag P c (λe s=>match e with
  | .normal| .ret=>DC ag l7 L kept bL d s
  |_=>False) ⟨wi 0 args,L++DA L⟩
variable{K:ak->Prop}
theorem iv:ha d K↔K d:=by cases d<;>exact CY
theorem Gi:∀ {n:Nat} {l:List ak} {K:List ak->Prop},xl n l K->n<=l.length/\K (l.take n)
 |0,l,K,h=>⟨bX _,h⟩
 |n+1,[],K,h=>h.elim
 |n+1,d::r,K,h=>by
  have h:=iv.1 h;obtain⟨h1,ad⟩:=Gi h
  grind
theorem rS:∀ {n:Nat} {l:List ak} {K:List ak->Prop},qY n l K->n<=l.length/\K (l.drop n)
 |0,l,K,h=>⟨bX _,h⟩
 |n+1,[],K,h=>h.elim
 |n+1,d::r,K,h=>by
  obtain⟨h1,ad⟩:=rS (l:=r) h
  grind
theorem Gj{a b:IntKind}:sx a b=true↔a=b:=by cases a<;>cases b<;>simp[sx]
theorem ln:∀ (l:List aZ) (i:Nat),bR l i=(l[i]?).getD .bm
 | [],i=>by cases i<;>rfl
 |o::r,0=>rfl
 |o::r,i+1=>by rw[bR];simpa using ln r i
theorem mD:∀ (l:List aZ) (i:Nat) (x:aZ),gr l i x=l.set i x
 | [],i,x=>by cases i<;>rfl
 |o::r,0,x=>rfl
 |o::r,i+1,x=>by rw[gr,mD r i x];rfl
theorem Gk:∀ (l:List ak) (i:Nat) (x:ak),uL l i x=l.set i x
 | [],i,x=>by cases i<;>rfl
 |o::r,0,x=>rfl
 |o::r,i+1,x=>by rw[uL,Gk r i x];rfl
theorem V0:∀ (r l:List ak),(xj l r).length=l.length
 | [],l=>by rw[xj]
 |_::_,[]=>by rfl
 |x::r,c::l=>by rw[xj,lI,V0 r l,lI]
theorem V1:∀ (r l:List ak) (j:Nat),r.length<=l.length->(xj l r)[j]?=if j<r.length then r[j]? else l[j]?
 | [],l,j,_=>by rw[xj,bo (by simp)]
 |_::_,[],_,h=>by grind
 |x::r,c::l,0,h=>by rfl
 |x::r,c::l,j+1,h=>by
  simp only[lI]at h;rw[xj,C0,V1 r l j (by omega)];simp
theorem V2:∀ (l:List ak) (o:Nat) (r:List ak),(xk l o r).length=l.length
 |l,0,r=>by cases l<;>rw[xk,V0]
 | [],o+1,r=>by rfl
 |c::l,o+1,r=>by rw[xk,lI,V2 l o r,lI]
theorem V3:∀ (l:List ak) (o:Nat) (r:List ak) (j:Nat),o+r.length<=l.length->(xk l o r)[j]?=if o<=j/\j<o+r.length then r[j-o]? else l[j]?
 |l,0,r,j,h=>by
  have e:xk l 0 r=xj l r:=by cases l<;>rw[xk]
  rw[e,V1 r l j (by omega)];simp
 | [],o+1,r,j,h=>by grind
 |c::l,o+1,r,0,h=>by
  rfl
 |c::l,o+1,r,j+1,h=>by
  simp only[lI]at h;rw[xk,C0,V3 l o r j (by omega),C0]
  grind
theorem J7:∀ (r l:List ak) (o:Nat),(jz l o r).length=l.length
 | [],l,o=>by rfl
 | [x],l,o=>by rw[jz,Gk,Oy]
 |x::y::r,l,o=>by rw[jz,V2]
theorem J8:∀ (r l:List ak) (o j:Nat),o+r.length<=l.length->(jz l o r)[j]?=if o<=j/\j<o+r.length then r[j-o]? else l[j]?
 | [],l,o,j,_=>by
  rw[jz,bo (by simp)]
 | [x],l,o,j,h=>by
  simp only[lI,yF]at h;rw[jz,Gk]
  grind
 |x::y::r,l,o,j,h=>by
  rw[jz,V3 _ _ _ _ h]
theorem DD(f:ak->ak)(az:f .a1= .a1):∀ (e:List (Nat×ak)) (t:Nat),look (pC f e) t=f (look e t)
 | [],t=>by simp[pC,look,az]
 |p::r,t=>by
  simp only[pC,look];split
  ·rfl
  ·exact DD f az r t
variable{w w':World}
theorem V4{a:Addr}(h:w'.heap[a.block]?=w.heap[a.block]?):w'.cell? a=w.cell? a:=by simp[World.cell?,h]
theorem Addr.yS(a:Addr)(n:Nat): (a.add n).block=a.block:=by unfold Addr.add;split<;>rfl
theorem Addr.J9(a:Addr)(i j:Nat): (a.add i).add j=a.add (i+j):=by
 unfold Addr.add;by_cases hi:i=0<;>by_cases aq:j=0<;>simp[hi,aq,JD]
theorem Addr.pH(b o n:Nat):Addr.add ⟨b,o,none⟩ n= ⟨b,o+n,none⟩:=by
 unfold Addr.add;simp
structure dx(A dy:Nat->Prop)(w w':World):Prop where
 size:w.heap.size<=w'.heap.size
 out:∀b,b<w.heap.size->dy b->A b
 DE:∀b,b<w.heap.size->¬A b->w'.heap[b]?=w.heap[b]?
variable{A dy:Nat->Prop}
theorem b8.cC{w w':World}(k:dx A dy w w'){x:Value}{d:ak}(h:b8 A w x d):b8 dy w' x d:=by
 induction h with
 |v h=>exact .v h
 | @ar a n c aB es tp xs aW aj aA az cE al ac br dD _ aY=>
  refine .ar xs aW aj aA az cE (λbu h=>al bu (k.out _ (ac bu) h)) (λbu=>Ay (ac bu) k.size) br (λi j e d he aa=> ?_) aY;have bu:es≠ []:=λfw=>by grind
  have:=dD i j e d he aa;rwa[<-V4 (w:=w) (w':=w') (by rw[Addr.yS];exact k.DE _ (ac bu) (al bu))]at this
 |nil=>exact .nil
 |av=>exact .av
 |agg af br _ aY=>exact .agg af br aY
 |bd af _ aY=>exact .bd af aY
 | @c9 a cs xs al ac br dD _ aY=>
  refine .c9 xs (λh=>al (k.out _ ac h)) (Ay ac k.size) br (λj d aa=> ?_) aY;have:=dD j d aa;rwa[<-V4 (w:=w) (w':=w') (by rw[Addr.yS];exact k.DE _ ac al)]at this
 |fn af _ aY=>exact .fn af aY
 |ca _ aR aY=>exact .ca aY aR
 |a1=>exact .a1
theorem dx.refl(A:Nat->Prop)(w:World):dx A A w w:=⟨bP _,λ_ _ h=>h,λ_ _ _=>rfl⟩
theorem dx.ib{w:World}(h:∀b,dy b->A b):dx A dy w w:=⟨bP _,λ_ _ bp=>h _ bp,λ_ _ _=>rfl⟩
theorem dx.qm{w w':World}(aw:w.grownBy w' none)(h:∀b,b<w.heap.size->dy b->A b):dx A dy w w':=
 ⟨aw.size,h,λb ac _=>aw.block b ac (by simp)⟩
section
variable {A:Nat->Prop} {os:c2} {w:World} {x:Value}
variable{y:Value}
theorem bg.j1(h:bg A os w x (.v y)):x=y/\y.oneCell'=true:=by
 cases h with
 |bT h=>cases h with
  |v h=>grind
 |e2 h aa h1=>rcases aa with aa| ⟨_,_,aa⟩<;>cases aa
variable{aB:Nat}{es:List (List ak)}
theorem bg.nB{f:Bool}(h:bg A os w x (.ar aB es f)):b8 A w x (.ar aB es f):=by
 cases h with
 |bT h=>exact h
 |e2 h aa h1=>rcases aa with aa| ⟨_,_,aa⟩<;>cases aa
theorem bg.o0(h:bg A os w x .av):x= .slice none 0 0:=by
 cases h with
 |bT h=>cases h;rfl
 |e2 h aa h1=>rcases aa with aa| ⟨_,_,aa⟩<;>cases aa
theorem bg.wk{cs:List ak}(h:bg A os w x (.c9 cs)):b8 A w x (.c9 cs):=by
 cases h with
 |bT h=>exact h
 |e2 h aa h1=>rcases aa with aa| ⟨_,_,aa⟩<;>cases aa
variable{ds:List ak}
theorem bg.V5(h:bg A os w x (.bd ds))(aW:ds.any mX=false):b8 A w x (.bd ds):=by
 cases h with
 |bT h=>exact h
 |bd af b2 _=>
  refine .bd af λi v d ab aa=> ?_
  grind
 |e2 h aa h1=>rcases aa with aa| ⟨_,_,aa⟩<;>cases aa
theorem bg.Pl(h:bg A os w x (.bd ds)):∃vs:List Value,x= .tuple vs.toArray/\vs.length=ds.length/\(∀ (i:Nat) v d,vs[i]?=some v->ds[i]?=some d->mX d=true\/b8 A w v d)/\∀ (i:Nat) v d,vs[i]?=some v->ds[i]?=some d->bg A os w v d:=by
 cases h with
 |bT h=>cases h with
  |bd af an=>exact⟨_,rfl,af,λi v d ab aa=>.inr (an i v d ab aa),λi v d ab aa=>.bT (an i v d ab aa)⟩
 |bd af b2 an=>grind
 |e2 h aa h1=>rcases aa with aa| ⟨_,_,aa⟩<;>cases aa
theorem bg.q1(h:bg A os w x (.bd ds)):b8 A w x (Go.Lift.q1 ds):=by
 unfold Go.Lift.q1;split
 ·exact h.V5 (by omega)
 ·exact .a1
theorem bg.tA{f:Fn}{ds:List ak}(h:bg A os w x (.fn f ds)):∃vs:List Value,x= .func f #[] vs.toArray/\vs.length=ds.length/\∀ (i:Nat) v d,vs[i]?=some v->ds[i]?=some d->bg A os w v d:=by
 cases h with
 |bT h=>cases h with
  |fn af an=>exact⟨_,rfl,af,λi v d ab aa=>.bT (an i v d ab aa)⟩
 |fn af iL an=>grind
 |e2 h aa h1=>rcases aa with aa| ⟨_,_,aa⟩<;>cases aa
theorem bg.xx(h:bg A os w x (.agg ds)):∃vs:List Value,x= .agg vs.toArray/\vs.length=ds.length/\(∀v∈vs,v.oneCell'=true)/\
  ∀ (i:Nat) v d,vs[i]?=some v->ds[i]?=some d->bg A os w v d:=by
 cases h with
 |bT h=>cases h with
  |agg af br h=>exact⟨_,rfl,af,br,λi v d ab aa=>.bT (h i v d ab aa)⟩
 |agg af br h=>grind
 |e2 h aa h1=>rcases aa with aa| ⟨_,_,aa⟩<;>cases aa
theorem bg.yT{d:ak}(h:bg A os w x (.ca b d)): (b=true->bg A os w x d)/\(b=false->x=undef):=by
 cases h with
 |bT h=>cases h with
  |ca h aR=>exact⟨λac=>.bT (h ac),aR⟩
 |ca h aR=>grind
 |e2 h aa h1=>rcases aa with aa| ⟨_,_,aa⟩<;>cases aa
variable{i off:Nat}
theorem bg.q5(h:bg A os w x (.aV i off)):∃g t cs,os[i]?=some (.pointer (some ⟨g,0,none⟩),.cells t cs)/\x= .pointer (some ⟨g,off,none⟩):=by
 cases h with
 |bT h=>cases h
 |aV h=>grind
 |e2 h aa h1=>rcases aa with aa| ⟨_,_,aa⟩<;>cases aa
theorem bg.yU(h:bg A os w x (.dU i off)):∃g t cs,os[i]?=some (.pointer (some ⟨g,0,none⟩),.cells t cs)/\x= .pointer (some ⟨g,off,none⟩):=by
 cases h with
 |bT h=>cases h
 |dU h=>grind
 |e2 h aa h1=>rcases aa with aa| ⟨_,_,aa⟩<;>cases aa
theorem bg.V6{k off:Nat}(h:bg A os w x (.db i k off)):x.oneCell'=true/\((∃g n c e aB es,os[i]?=some (.slice (some ⟨g,0,none⟩) n c,.row e aB es)/\x= .pointer (some ⟨g,k*aB+off,none⟩))\/∃y,os[i]?=some (y,.gone)):=by
 cases h with
 |bT h=>cases h
 |db h=>exact⟨rfl,.inl ⟨_,_,_,_,_,_,h,rfl⟩⟩
 |e2 h aa h1=>rcases aa with aa| ⟨_,_,aa⟩<;>cases aa;grind
theorem bg.DF(h:bg A os w x (.own i)):x.oneCell'=true/\((∃e aB es,os[i]?=some (x,.row e aB es))\/∃y,os[i]?=some (y,.gone)):=by
 cases h with
 |bT h=>cases h
 |own h h1=>grind
 |e2 h aa h1=>rcases aa with aa| ⟨_,_,aa⟩<;>cases aa;grind
theorem bg.q6{y:Value}{e:TypeId}{aB:Nat}{es:List (List ak)}(h:bg A os w x (.own i))(hi:os[i]?=some (y,.row e aB es)):x=y:=by
 rcases h.DF.2 with⟨_,_,_,h⟩| ⟨_,h⟩;all_goals grind
theorem bg.Gl{k off:Nat}{y:Value}{e:TypeId}{aB:Nat}{es:List (List ak)}(h:bg A os w x (.db i k off))(hi:os[i]?=some (y,.row e aB es)):∃g n c,y= .slice (some ⟨g,0,none⟩) n c/\x= .pointer (some ⟨g,k*aB+off,none⟩):=by
 rcases h.V6.2 with⟨g,n,c,_,_,_,h,ah⟩| ⟨_,h⟩;all_goals grind
def er(o aU:aZ):Prop:=
 match o,aU with
 | .cells t _,.cells eD _=>t=eD
 | .row e aB _,.row e' mC _=>e=e'/\aB=mC
 | .bm,_=>True
 | .gone,.gone=>True
 | .cD _,.cD _=>True
 |_,_=>False
def uU(os aT:c2):Prop:=∀ (i:Nat) (x:Value) (o:aZ),os[i]?=some (x,o)->∃aU,aT[i]?=some (x,aU)/\er o aU
theorem uU.refl(os:c2):uU os os:=λi x o h=>⟨o,h,by cases o<;>simp[er]⟩
theorem bg.cC{aT:c2}{w':World}(k:dx A dy w w')(bb:uU os aT){d:ak}(h:bg A os w x d):bg dy aT w' x d:=by
 induction h with
 |bT h=>exact .bT (h.cC k)
 |aV h=>
  obtain⟨aU,bp,hk⟩:=bb _ _ _ h;cases aU<;>simp[er]at hk
  exact .aV bp
 |dU h=>
  obtain⟨aU,bp,hk⟩:=bb _ _ _ h;cases aU<;>simp[er]at hk
  exact .dU bp
 |db h=>
  obtain⟨aU,bp,hk⟩:=bb _ _ _ h;cases aU<;>simp[er]at hk
  obtain⟨rfl,rfl⟩:=hk;exact .db bp
 |own h h1=>
  obtain⟨aU,bp,hk⟩:=bb _ _ _ h;cases aU<;>simp[er]at hk
  exact .own bp h1
 |e2 h aa h1=>
  obtain⟨aU,bp,hk⟩:=bb _ _ _ h;cases aU<;>simp[er]at hk
  exact .e2 bp aa h1
 |agg af br _ aY=>exact .agg af br aY
 |bd af b2 _ aY=>exact .bd af (λi v d ab aa=>by
  rcases b2 i v d ab aa with h|h
  ·grind
  ·exact .inr (h.cC k)) aY
 |fn af iL _ aY=>exact .fn af iL aY
 |ca _ aR aY=>exact .ca aY aR
theorem bg.cells(h:bg A os w x d)(aa:∀b ck,d≠ .ca b ck)(cH:∀l,d≠ .bd l)(aq:d≠ .a1):
  x.cells.toList.length=(dc d).length/\(∀v∈x.cells.toList,v.oneCell'=true)/\∀ (i:Nat) v e,x.cells.toList[i]?=some v->(dc d)[i]?=some e->bg A os w v e:=by
 have eg:∀ {y:Value} {e:ak},y.oneCell'=true->(∀l,e≠ .agg l)->bg A os w y e->y.cells.toList.length=(dc e).length/\(∀v∈y.cells.toList,v.oneCell'=true)/\∀ (i:Nat) v e',y.cells.toList[i]?=some v->(dc e)[i]?=some e'->bg A os w v e':=by
  intro y e bn he ao;have h1:y.cells= #[y]:=by cases y<;>first|rfl|simp[Value.oneCell']at bn
  have ad:dc e=[e]:=by cases e<;>first|rfl|exact absurd rfl (he _)
  grind
 cases d with
 |v y=>obtain⟨rfl,bn⟩:=h.j1;grind
 |ar=>have bp:=h.nB;cases bp<;>exact eg rfl (by simp) h
 |agg ds=>obtain⟨vs,rfl,af,br,an⟩:=h.xx;exact⟨by simpa[Value.cells,dc]using af,by simpa[Value.cells]using br,by simpa[Value.cells,dc]using an⟩
 |bd l=>grind
 |c9=>have bp:=h.wk;cases bp;exact eg rfl (by simp) h
 |aV=>obtain⟨_,_,_,_,rfl⟩:=h.q5;exact eg rfl (by simp) h
 |dU=>obtain⟨_,_,_,_,rfl⟩:=h.yU;exact eg rfl (by simp) h
 |db=>exact eg h.V6.1 (by simp) h
 |own=>exact eg h.DF.1 (by simp) h
 |fn=>obtain⟨_,rfl,_⟩:=h.tA;exact eg rfl (by simp) h
 |av=>cases h.o0;exact eg rfl (by simp) (.bT .av)
 |ca b ck=>grind
 |a1=>grind
end
def o1:List Field->List (TypeId×Nat)->Bool
 | [],[]=>true
 |f::r,x::eH=>Nat.beq f.type x.1&&Nat.beq f.offset x.2&&f.name != "_" &&o1 r eH
 |_,_=>false
def yV:TypeDesc->JP->Bool
 | .int k,.int eQ=>sx k eQ
 | .bool,.bool=>true
 | .string,.str=>true
 | .slice e,.fc e'=>Nat.beq e e'
 | .array n e,.arr Ka e'=>Nat.beq n Ka&&Nat.beq e e'
 | .struct F,.b7 fs=>o1 F.toList fs
 | .struct _,_| .array _ _,_=>false
 |_,.gu=>true
 |_,_=>false
def DG:TypeDesc->Bool
 | .struct _| .array _ _=>true
 |_=>false
def xy:Value->ak->Bool
 | .int k n,.v (.int eQ m)=>sx k eQ&&n==m
 | .bool b,.v (.bool b')=>b==b'
 | .string s,.v (.string s')=>s.data.toList==s'.data.toList
 | .pointer none,.v (.pointer none)=>true
 | .slice none 0 0,.av=>true
 | .nilFunc,.v .nilFunc=>true
 |_,_=>false
def yW:List Value->List ak->Bool
 | [],[]=>true
 |v::r,d::eH=>xy v d&&yW r eH
 |_,_=>false
def Pm(P:Program)(t:TypeId)(l8:FY):Bool:=
 match P.info? t,P.underlying t with
 |some i,some d=>Nat.beq i.size l8.size&&Nat.beq i.bytes l8.bytes&& (match i.zero with
  |some z=>yW z.cells.toList l8.zero&&Nat.beq l8.zero.length l8.size
  |none=>false)&&yV d l8.k&& (DG d==l8.agg)&& (l8.agg||Nat.beq l8.size 1)&& (!l8.agg|| (!P.stoodInHeld t&& !P.eqGuardType P.depth t))
 |_,_=>false
def dv(P:Program):dH->Bool
 | []=>true
 |p::r=>Pm P p.1 p.2&&dv P r
structure V7(P:Program)(t:TypeId)(l8:FY):Prop where
 afc:∃i,P.info? t=some i/\i.size=l8.size/\i.bytes=l8.bytes/\∃z,i.zero=some z/\yW z.cells.toList l8.zero=true/\l8.zero.length=l8.size
 kind:∃d,P.underlying t=some d/\yV d l8.k=true/\DG d=l8.agg
 eg:l8.agg=false->l8.size=1
 held:l8.agg=true->P.stoodInHeld t=false/\P.eqGuardType P.depth t=false
theorem afd{P:Program}{t:TypeId}{l8:FY}(h:Pm P t l8=true):V7 P t l8:=by
 unfold Pm at h;split at h
 ·rename_i i d hi aa;simp only[cq,oR,mV,JL]at h;obtain⟨⟨⟨⟨⟨⟨h1,ad⟩,aN⟩,bt⟩,b5⟩,iV⟩,eN⟩:=h;refine⟨⟨i,hi,fz h1,fz ad,?_⟩,⟨d,aa,bt,b5⟩,λbb=> ?_,λbb=> ?_⟩
  ·split at aN;all_goals simp_all
  all_goals simp_all
 grind
theorem qn{P:Program}:∀ {ag:dH} {t:TypeId},dv P ag=true->((aF ag t).size≠0\/(aF ag t).k≠ .gu)->V7 P t (aF ag t)
 | [],t,_,h=>by rcases h with h|h<;>exact absurd rfl h
 |p::r,t,ay,h=>by
  simp only[dv,cq]at ay;simp only[aF]at h⊢;split
  ·rename_i ac;have:=fz ac;subst this;exact afd ay.1
  ·rename_i ac;simp only[ac]at h;exact qn ay.2 h
section
variable {P:Program} {ag:dH} {t:TypeId}
theorem rT(ay:dv P ag=true)(h: (aF ag t).size≠0):∃i,P.info? t=some i/\i.size=(aF ag t).size/\i.bytes=(aF ag t).bytes/\∃z,i.zero=some z/\yW z.cells.toList (aF ag t).zero=true/\(aF ag t).zero.length=(aF ag t).size:=
 (qn ay (.inl h)).afc
theorem jQ(ay:dv P ag=true)(h: (aF ag t).size≠0)(w:World): (sizeOf t).run P w= .ok (aF ag t).size w:=by
 obtain⟨i,hi,ae,_⟩:=rT ay h;simp[sizeOf,typeInfo,hi,ae]
theorem Kb(ay:dv P ag=true)(h: (aF ag t).size≠0)(w:World): (isAgg t).run P w= .ok (aF ag t).agg w:=by
 obtain⟨d,aa,_,bb⟩:=(qn ay (.inl h)).kind;rw[<-bb];simp only[isAgg,dY,gE aa,dT];cases d<;>rfl
theorem AU(ay:dv P ag=true){k:IntKind}(h: (aF ag t).k= .int k):P.underlying t=some (.int k):=by
 obtain⟨d,aa,hk,_⟩:=(qn ay (.inr (by rw[h];simp))).kind;rw[h]at hk;cases d<;>simp[yV]at hk
 rw[Gj.1 hk]at aa;exact aa
theorem Kc(ay:dv P ag=true)(h: (aF ag t).k= .bool):P.underlying t=some .bool:=by
 obtain⟨d,aa,hk,_⟩:=(qn ay (.inr (by rw[h];simp))).kind;rw[h]at hk;cases d<;>simp[yV]at hk
 exact aa
theorem wm(ay:dv P ag=true)(h: (aF ag t).k= .str):P.underlying t=some .string:=by
 obtain⟨d,aa,hk,_⟩:=(qn ay (.inr (by rw[h];simp))).kind;rw[h]at hk;cases d<;>simp[yV]at hk
 exact aa
theorem lL(ay:dv P ag=true){e:TypeId}(h: (aF ag t).k= .fc e):P.underlying t=some (.slice e):=by
 obtain⟨d,aa,hk,_⟩:=(qn ay (.inr (by rw[h];simp))).kind;rw[h]at hk;cases d<;>simp[yV]at hk
 grind
theorem Kd(ay:dv P ag=true){n:Nat}{e:TypeId}(h: (aF ag t).k= .arr n e):P.underlying t=some (.array n e):=by
 obtain⟨d,aa,hk,_⟩:=(qn ay (.inr (by rw[h];simp))).kind;rw[h]at hk;cases d<;>simp[yV]at hk
 grind
theorem Gm(ay:dv P ag=true){fs:List (TypeId×Nat)}(h: (aF ag t).k= .b7 fs):∃F:Array Field,P.underlying t=some (.struct F)/\o1 F.toList fs=true/\(aF ag t).agg=true:=by
 obtain⟨d,aa,hk,bb⟩:=(qn ay (.inr (by rw[h];simp))).kind;rw[h]at hk;cases d<;>simp[yV]at hk
 exact⟨_,aa,hk,bb.symm⟩
end
theorem V8:∀ {F:List Field} {fs:List (TypeId×Nat)} {f:Nat},o1 F fs=true->(h3 fs f).1≠0\/f<fs.length->f<fs.length->∃x,F[f]?=some x/\x.type=(h3 fs f).1/\x.offset=(h3 fs f).2/\x.name≠ "_"
 | [],[],f,_,_,az=>by grind
 | [],_::_,f,h,_,_=>by simp[o1]at h
 |_::_,[],f,h,_,_=>by grind
 |x::r,y::eH,0,h,_,_=>by
  simp only[o1,cq,JM]at h;exact⟨x,rfl,fz h.1.1.1,fz h.1.1.2,h.1.2⟩
 |x::r,y::eH,f+1,h,_,az=>by
  simp only[o1,cq,JM]at h;simp only[lI,Nat.add_lt_add_iff_right]at az;simpa[h3]using V8 (f:=f) h.2 (.inr az) az
theorem V9:∀ {fs:List (TypeId×Nat)} {f:Nat},fs.length<=f->h3 fs f=(0,0)
 | [],f,_=>by rfl
 |_::r,0,h=>by grind
 |_::r,f+1,h=>by simp only[h3];exact V9 (by grind)
theorem uV{A:Nat->Prop}{w:World}:∀ {vs:List Value} {ds:List ak},yW vs ds=true->vs.length=ds.length/\(∀v∈vs,v.oneCell'=true)/\∀ (i:Nat) v d,vs[i]?=some v->ds[i]?=some d->b8 A w v d
 | [],[],_=>⟨rfl,by simp,by simp⟩
 | [],_::_,h=>by simp[yW]at h
 |_::_,[],h=>by simp[yW]at h
 |v::r,d::eH,h=>by
  simp only[yW,cq]at h;obtain⟨af,br,an⟩:=uV (A:=A) (w:=w) h.2;have h1:v.oneCell'=true/\b8 A w v d:=by
   have h:=h.1;unfold xy at h;split at h
   ·simp only[cq,JL]at h;obtain⟨hk,rfl⟩:=h;obtain rfl:=Gj.1 hk;exact⟨rfl,.v rfl⟩
   ·simp only[JL]at h;subst h;exact⟨rfl,.v rfl⟩
   ·rename_i s s' _;have:s=s':=by
     obtain⟨⟨x⟩⟩:=s
     simp_all
    subst this;exact⟨rfl,.v rfl⟩
   ·exact⟨rfl,.v rfl⟩
   ·exact⟨rfl,.av⟩
   ·exact⟨rfl,.v rfl⟩
   grind
  grind
open Go
def Holds(c:Option Prop):Prop:=∀p,c=some p->p
theorem Holds.Pn:Holds none:=λ_ h=>by cases h
theorem Holds.j2{p:Prop}:Holds (some p)↔p:=⟨λh=>h p rfl,λh q e=>by grind⟩
theorem Holds.Wa:Holds none↔True:=⟨λ_=>trivial,λ_=>Holds.Pn⟩
theorem Holds.andO{c fA:Option Prop}:Holds (andO c fA)↔Holds c/\Holds fA:=by
 cases c<;>cases fA<;>simp only[Lift.andO,Holds.j2,Holds.Wa,true_and,and_true]
theorem q7{c:Option Prop}{p:Prop}:tr c p↔Holds c/\p:=by
 cases c<;>simp only[tr,Holds.j2,Holds.Wa,true_and]
variable{x:Operand}
theorem Wb{a:Act}(h:sv x=true):a.eval x= .bool true:=by
 unfold sv at h;split at h
 ·subst h;rfl
 grind
theorem Wc{a:Act}(h:sw x=true):a.eval x= .bool false:=by
 unfold sw at h;split at h
 ·rename_i b;cases b
  ·rfl
  grind
 grind
section
variable {P:Program} {ag:dH} {A:Nat->Prop} {os:c2} {w:World} {a:Act} {o:Oper} {ρ:Operand->ak}
def afe(P:Program)(A:Nat->Prop)(os:c2)(w:World)(a:Act)(o:Oper)(c:Option Prop)(d:ak):Prop:=
 Holds c->∃x,(execOp a.eval o).run P w= .ok (.value x) w/\bg A os w x d
def lo(P:Program)(A:Nat->Prop)(os:c2)(w:World)(a:Act)(o:Oper)(K:Option Prop->ak->Prop):Prop:=
 ∃c d,K c d/\afe P A os w a o c d
abbrev gv(A:Nat->Prop)(os:c2)(w:World)(a:Act)(ρ:Operand->ak)(x:Operand):Prop:=bg A os w (a.eval x) (ρ x)
theorem gv.v{y:Value}(h:gv A os w a ρ x)(e:ρ x= .v y):a.eval x=y:=by
 unfold gv at h;rw[e]at h;exact h.j1.1
variable{K:Option Prop->ak->Prop}
theorem Wd(aH:o.op= .move x\/o.op= .assign x)(ah:gv A os w a ρ x)(h:ha (ρ x) λd=>K none d):lo P A os w a o K:=by
 refine⟨none,_,iv.1 h,λ_=>⟨_,?_,ah⟩⟩;rcases aH with aH|aH<;>simp[execOp,aH]
theorem Ke{d:ak}{K:Option Prop->ak->Prop}(h:ts b d K):∃c ck,K c ck/\∀x,Holds c->b=true->bg A os w x d->bg A os w x ck:=by
 cases d
 case ca g d=>
  refine⟨_,_,h,λx aj ac ao=> ?_⟩;exact ao.yT.1 (Holds.j2.1 aj ac)
 all_goals exact⟨_,_,h,λx _ _ ao=>ao⟩
theorem Kf{c:Bool}{x y:ak}{xm AD:Bool}{K:ak->Prop}(h:rN c x y xm AD K):
  ∃p q r,x= .v (.bool p)/\y= .v (.bool q)/\K (.v (.bool r))/\((xm=true->c=true->p=true)->(AD=true->c=false->q=false)->r=if c then p else q):=by
 unfold rN at h
 grind
theorem aff{c x y:Operand}{K:Option Prop->ak->Prop}(aH:o.op= .pick c x y)(aj:gv A os w a ρ c)(ah:gv A os w a ρ x)(bn:gv A os w a ρ y)(h:AF ρ c x y K):lo P A os w a o K:=by
 unfold AF at h;split at h
 ·rename_i t Po;obtain⟨fF,x',h,cU⟩:=Ke (A:=A) (os:=os) (w:=w) h;obtain⟨eR,pI,h,dh⟩:=Ke (A:=A) (os:=os) (w:=w) h;obtain⟨p,q,r,aC,aG,h,ao⟩:=Kf (iv.1 (iv.1 h));refine⟨_,_,h,λbC=> ?_⟩;obtain⟨sD,xz⟩:=Holds.andO.1 bC;have iM:=aj.v Po;have kN:t=true->a.eval x= .bool p:=λcH=>by have:=cU _ sD cH ah;rw[aC]at this;exact this.j1.1
  have k2:t=false->a.eval y= .bool q:=λcH=>by have:=dh _ xz (by grind) bn;rw[aG]at this;exact this.j1.1
  have l9:=ao (λhk cH=>by
   have:=kN cH;rw[Wb hk]at this
   grind) (λhk cH=>by
   have:=k2 cH;rw[Wc hk]at this
   grind)
  refine⟨.bool r,?_,.bT (.v rfl)⟩;simp only[execOp,aH,iM,asBool,dY,ey,dT]
  grind
 grind
theorem Kg{i:Nat}(h:jN (bR (os.map (·.2)) i)=true):∃x e aB es,os[i]?=some (x,.row e aB es):=by
 rw[ln,e7]at h;cases hi:os[i]? with
 |none=>rw[hi]at h;simp[jN]at h
 |some p=>
  obtain⟨x,o⟩:=p;rw[hi]at h;cases o<;>simp[jN]at h
  simp
theorem afg{i:Nat}(h:rM (bR (os.map (·.2)) i)=true):∃x t cs,os[i]?=some (x,.cells t cs):=by
 rw[ln,e7]at h;cases hi:os[i]? with
 |none=>rw[hi]at h;simp[rM]at h
 |some p=>
  obtain⟨x,o⟩:=p;rw[hi]at h;cases o<;>simp[rM]at h
  simp
theorem afh(aH:o.op= .nilCheck x)(ah:gv A os w a ρ x)(h:xn (os.map (·.2)) (ρ x) K):lo P A os w a o K:=by
 unfold gv at ah;unfold xn at h;split at h
 ·rename_i e;rw[e]at ah;refine⟨_,_,h,λ_=>⟨a.eval x,?_,ah⟩⟩;obtain⟨g,t,cs,_,eb⟩:=ah.q5;simp[execOp,aH,eb]
 ·rename_i e;rw[e]at ah;refine⟨_,_,h,λ_=>⟨a.eval x,?_,ah⟩⟩;obtain⟨g,t,cs,_,eb⟩:=ah.yU;simp[execOp,aH,eb]
 ·rename_i e;rw[e]at ah;split at h
  ·rename_i ao;refine⟨_,_,h,λ_=>⟨a.eval x,?_,ah⟩⟩;obtain⟨_,_,_,_,hi⟩:=Kg ao;obtain⟨g,n,c,_,eb⟩:=ah.Gl hi;simp[execOp,aH,eb]
  grind
 ·rename_i e;rw[e]at ah;refine⟨_,_,h,λ_=>⟨a.eval x,?_,ah⟩⟩;have hi:=ah.wk;generalize bn:a.eval x=y at *;cases hi;simp[execOp,aH,bn]
 ·rename_i e;rw[e]at ah;refine⟨_,_,h,λ_=>⟨a.eval x,?_,ah⟩⟩;obtain⟨vs,bn,_⟩:=ah.tA;simp[execOp,aH,bn]
 grind
theorem afi{op:UnOp}{t:TypeId}{x:Operand}{K:Option Prop->ak->Prop}(aH:o.op= .unOp op t x)(ah:gv A os w a ρ x)(h:De op (ρ x) K):lo P A os w a o K:=by
 unfold De at h;split at h
 ·rename_i e;exact⟨_,_,h,λ_=>⟨_,by simp[execOp,aH,ah.v e,Op.unary],.bT (.v rfl)⟩⟩
 ·rename_i e;exact⟨_,_,h,λ_=>⟨_,by simp[execOp,aH,ah.v e,Op.unary,Op.intArith],.bT (.v rfl)⟩⟩
 ·rename_i e;exact⟨_,_,h,λ_=>⟨_,by simp only[execOp,aH,ah.v e,Op.unary,intBits_xor,dY,ey,dT],.bT (.v rfl)⟩⟩
 grind
theorem We(x y:ByteArray): (x.toList==y.toList)=decide (x=y):=by
 rw[ByteArray.toList_eq,ByteArray.toList_eq,Og];obtain⟨⟨x⟩⟩:=x;obtain⟨⟨y⟩⟩:=y;simp
variable{op:BinOp}{t u:TypeId}
theorem afj{x y:Operand}{k:IntKind}{p q:Int}{K:Option Prop->ak->Prop}(aH:o.op= .binOp op t x y u)(ah:a.eval x= .int k p)(bn:a.eval y= .int k q)(h:F1 op k p q K):lo P A os w a o K:=by
 cases op<;>simp only[F1]at h<;>first
  |exact h.elim
  | (refine⟨_,_,h,λaj=>⟨_,?_,.bT (.v rfl)⟩⟩
     simp only[execOp,aH,ah,bn,eqGuard_at_int,binOp,ne_eq,not_true_eq_false,uK,Op.intArith,Op.intDiv,Op.intCmp,intBits_and,intBits_or,intBits_xor,intBits_andNot,dY,ey,dT];try(rw[bo (Holds.j2.1 aj)])
     try simp only[ey,dT]
     try rfl)
theorem afk{x y:Operand}{k eQ:IntKind}{p q:Int}{K:Option Prop->ak->Prop}(aH:o.op= .binOp op t x y u)(ah:a.eval x= .int k p)(bn:a.eval y= .int eQ q)(h:F2 op k p q K):lo P A os w a o K:=by
 cases op<;>simp only[F2]at h<;>first
  |exact h.elim
  | (refine⟨_,_,h,λaj=>⟨_,?_,.bT (.v rfl)⟩⟩
     have bV:¬q<0:=by have:=Holds.j2.1 aj;omega
     simp only[execOp,aH,ah,bn,eqGuard_at_int,binOp,Op.shift,bo bV,dY,ey,dT])
theorem afl{x y:Operand}{p q:ByteArray}{K:Option Prop->ak->Prop}(aH:o.op= .binOp op t x y u)(ah:a.eval x= .string p)(bn:a.eval y= .string q)(h:JQ op p q K):lo P A os w a o K:=by
 cases op<;>simp only[JQ]at h<;>first
  |exact h.elim
  | (refine⟨_,_,h,λaj=>⟨_,?_,.bT (.v rfl)⟩⟩
     simp only[execOp,aH,ah,bn,eqGuard_at_string,binOp,Op.stringOp,We,dY,ey,dT])
theorem afm(ay:dv P ag=true){op:BinOp}{t u:TypeId}{x y:Operand}{p q:Bool}{K:Option Prop->ak->Prop}(aH:o.op= .binOp op t x y u)(ah:a.eval x= .bool p)(bn:a.eval y= .bool q)(cH: (aF ag t).k= .bool)(h:F3 op p q K):lo P A os w a o K:=by
 have hu:=Kc ay cH;cases op<;>simp only[F3]at h<;>first
  |exact h.elim
  | (refine⟨_,_,h,λaj=>⟨_,?_,.bT (.v rfl)⟩⟩
     simp only[execOp,aH,ah,bn,eqGuard_at_bool,run_eql_bool w t p q hu,run_neq_bool w t p q hu,dY,ey,dT])
end
open Go
section
variable {P:Program} {ag:dH} {A:Nat->Prop} {os:c2} {w:World} {a:Act} {o:Oper} {ρ:Operand->ak}
def Pp:qi->Value->Prop
 | .int k,.int eQ _=>k=eQ
 | .bool,.bool _=>True
 | .str,.string _=>True
 |_,_=>False
def kinds:List qi->List Value->Prop
 | [],[]=>True
 |k::c7,v::vs=>Pp k v/\kinds c7 vs
 |_,_=>False
def Gn:Value->Value->Bool
 | .int _ a,.int _ b=>decide (a=b)
 | .bool a,.bool b=>a==b
 | .string a,.string b=>decide (a=b)
 |_,_=>false
def sE:List Value->List Value->Bool
 |v::vs,u::us=>Gn v u&&sE vs us
 |_,_=>true
theorem Gp:∀ {c7:List qi} {vs:List Value},kinds c7 vs->vs.length=c7.length
 | [],[],_=>rfl
 | [],_::_,h=>h.elim
 |_::_,[],h=>h.elim
 |_::c7,_::vs,h=>by simp[Gp h.2]
theorem Pq:∀ {c7 xu:List qi} {vs:List Value},kinds (c7++xu) vs->kinds c7 (vs.take c7.length)/\kinds xu (vs.drop c7.length)
 | [],xu,vs,h=>⟨by simp[kinds],by grind⟩
 |k::c7,xu,[],h=>h.elim
 |k::c7,xu,v::vs,h=>by
  obtain⟨h1,ad⟩:=Pq (c7:=c7) h.2;exact⟨⟨h.1,by omega⟩,by grind⟩
theorem Wf:∀ {n:Nat} {vs us:List Value},vs.length=us.length->sE vs us=(sE (vs.take n) (us.take n)&&sE (vs.drop n) (us.drop n))
 |0,vs,us,_=>by rfl
 |n+1,[],us,h=>by cases us<;>simp[sE]at h⊢
 |n+1,v::vs,[],h=>by grind
 |n+1,v::vs,u::us,h=>by
  simp only[List.take_succ_cons,List.drop_succ_cons,sE,Bool.and_assoc];rw[Wf (n:=n) (by grind)]
theorem afn{k:qi}{x y:ak}{K:Bool->Prop}(h:F0 k x y K):∃v u,x= .v v/\y= .v u/\Pp k v/\Pp k u/\K (Gn v u):=by
 unfold F0 at h;split at h
 ·split at h
  ·rename_i hk;simp only[cq]at hk;exact⟨_,_,rfl,rfl,Gj.1 hk.1,Gj.1 hk.2,h⟩
  grind
 ·exact⟨_,_,rfl,rfl,ai,ai,h⟩
 ·exact⟨_,_,rfl,rfl,ai,ai,h⟩
 grind
theorem Kh:∀ {c7:List qi} {xs ys:List ak} {K:Bool->Prop},qZ c7 xs ys K->∃vs us,xs=vs.map .v/\ys=us.map .v/\kinds c7 vs/\kinds c7 us/\K (sE vs us)
 | [],[],[],K,h=>⟨[],[],rfl,rfl,ai,ai,h⟩
 |k::c7,x::xs,y::ys,K,h=>by
  obtain⟨v,u,rfl,rfl,cU,dh,h⟩:=afn h;obtain⟨vs,us,rfl,rfl,k1,Gq,ap⟩:=Kh h;exact⟨v::vs,u::us,rfl,rfl,⟨cU,k1⟩,⟨dh,Gq⟩,ap⟩
 | [],[],_::_,K,h=>by simp[qZ]at h
 | [],_::_,[],K,h=>by simp[qZ]at h
 | [],_::_,_::_,K,h=>by simp[qZ]at h
 |_::_,[],[],K,h=>by simp[qZ]at h
 |_::_,[],_::_,K,h=>by simp[qZ]at h
 |_::_,_::_,[],K,h=>by simp[qZ]at h
def wo(agg:Bool)(vs:List Value):Value:=
 match agg with
 |true=>.agg vs.toArray
 |false=>vs.headD undef
theorem Ki(ay:dv P ag=true){t:TypeId}(ae: (aF ag t).size≠0)(vs:List Value)(off:Nat)(h:off+(aF ag t).size<=vs.length)(h1: (aF ag t).agg=false->(aF ag t).size=1):
  (part t vs.toArray off).run P w= .ok (wo (aF ag t).agg ((vs.drop off).take (aF ag t).size)) w:=by
 unfold part;simp only[dY,Kb ay ae,dT];cases bb: (aF ag t).agg
 ·have h1:=h1 bb;rw[h1]at h⊢;have aw:vs.toArray[off]?=some (vs[off]'(by omega)):=by simp
  rw[bo (by simp)];simp only[aw,ey,wo];rw[vY (by omega)];rfl
 ·rw[b6 rfl];simp only[dY,jQ ay ae,dT,ey,wo,FW];simp
def Wg(P:Program)(ag:dH)(t:TypeId)(c7:List qi)(d:Nat):Prop:=
 (aF ag t).size=c7.length/\(aF ag t).size≠0/\((aF ag t).agg=false->(aF ag t).size=1)/\
  ∀ (vs us:List Value) (w:World),kinds c7 vs->kinds c7 us->(Op.equalIn d t (wo (aF ag t).agg vs) (wo (aF ag t).agg us)).run P w= .ok (sE vs us) w
theorem Wh(ay:dv P ag=true){g:TypeId->Option (List qi)}{d:Nat}(aw:∀t c7,g t=some c7->Wg P ag t c7 d):
  ∀ (F:List Field) (fs:List (TypeId×Nat)) (o:Nat) (c7:List qi) (vs us:List Value) (w:World),o1 F fs=true->FZ g fs o=some c7->kinds c7 (vs.drop o)->kinds c7 (us.drop o)->vs.length=us.length->
   (Op.eqFields d vs.toArray us.toArray F).run P w= .ok (sE (vs.drop o) (us.drop o)) w
 | [],[],o,c7,vs,us,w,ec,h,cU,dh,af=>by
  simp only[FZ,v8]at h;subst h;cases ab:vs.drop o with
  |cons x r=>rw[ab]at cU;exact cU.elim
  |nil=>rfl
 | [],_::_,o,c7,vs,us,w,ec,h,cU,dh,af=>by simp[o1]at ec
 |_::_,[],o,c7,vs,us,w,ec,h,cU,dh,af=>by simp[o1]at ec
 |f::F,x::fs,o,c7,vs,us,w,ec,h,cU,dh,af=>by
  simp only[o1,cq,JM]at ec;obtain⟨⟨⟨cH,aH⟩,aW⟩,ec⟩:=ec;have cH:=fz cH;have aH:=fz aH;unfold FZ at h;split at h
  ·grind
  ·rename_i ac;have ac:=fz ac;split at h
   ·grind
   ·rename_i Kj iW;split at h
    ·grind
    ·rename_i l gQ;simp only[v8]at h;subst h;obtain⟨ae,yX,wq,heq⟩:=aw _ _ iW;obtain⟨cP,a2⟩:=Pq cU;obtain⟨cY,cZ⟩:=Pq dh;have Pr:=Gp cU;have afo:=Gp dh;simp only[sp,fv]at Pr afo;have kt:f.offset=o:=aH.trans ac;have ff:=Ki (w:=w) ay yX vs o (by omega) wq;have fB:=Ki (w:=w) ay yX us o (by omega) wq;rw[ae]at ff fB;have aC:=heq _ _ w cP cY;simp only[Op.eqFields,b6 aW,dY,cH,kt,ff,fB,dT,aC];rw[Wf (n:=Kj.length) (vs:=vs.drop o) (us:=us.drop o) (by grind)];have aY:=Wh ay aw F fs (o+Kj.length) l vs us w ec gQ (by simp_all) (by simp_all) af;cases ao:sE ((vs.drop o).take Kj.length) ((us.drop o).take Kj.length);all_goals simp_all
theorem Wi(ay:dv P ag=true):∀ (n:Nat) (t:TypeId) (c7:List qi),flatK ag n t=some c7->∀d,n<=d->Wg P ag t c7 d
 |0,t,c7,h,d,aa=>by simp[flatK]at h
 |n+1,t,c7,h,0,aa=>by omega
 |n+1,t,c7,h,d+1,aa=>by
  unfold flatK at h;split at h
  ·rename_i k hk;have he:=qn ay (t:=t) (.inr (by grind));obtain⟨pJ,dp,DH,bb⟩:=he.kind;have hu:=AU ay hk;rw[hu]at dp;cases dp;have h1:=he.eg bb.symm;cases h;refine⟨by omega,by omega,λ_=>h1,λvs us w cU dh=> ?_⟩;rw[<-bb]
   match vs,us,cU,dh with
   | [.int q p],[.int afp Gr],cU,dh=>
    have aC:k=q:=cU.1;have aG:k=afp:=dh.1;subst aC;subst aG;simp[wo,DG,run_equalIn_int w d t k k p Gr hu,sE,Gn,Bool.beq_eq_decide_eq]
  ·rename_i hk;have he:=qn ay (t:=t) (.inr (by grind));obtain⟨pJ,dp,DH,bb⟩:=he.kind;have hu:=Kc ay hk;rw[hu]at dp;cases dp;have h1:=he.eg bb.symm;cases h;refine⟨by omega,by omega,λ_=>h1,λvs us w cU dh=> ?_⟩;rw[<-bb]
   match vs,us,cU,dh with
   | [.bool p],[.bool Gr],cU,dh=>simp[wo,DG,run_equalIn_bool w d t p Gr hu,sE,Gn]
  ·rename_i hk;have he:=qn ay (t:=t) (.inr (by grind));obtain⟨pJ,dp,DH,bb⟩:=he.kind;have hu:=wm ay hk;rw[hu]at dp;cases dp;have h1:=he.eg bb.symm;cases h;refine⟨by omega,by omega,λ_=>h1,λvs us w cU dh=> ?_⟩;rw[<-bb]
   match vs,us,cU,dh with
   | [.string p],[.string Gr],cU,dh=>simp[wo,DG,run_equalIn_string w d t p Gr hu,sE,Gn,We]
  ·rename_i fs hk;split at h
   ·rename_i auK az;split at h
    ·rename_i m bx aA;cases h;have bx:=fz bx;obtain⟨F,hu,ec,yY⟩:=Gm ay hk;have he:=qn ay (t:=t) (.inr (by grind));refine⟨bx.symm,by omega,λbb=>absurd (bb.symm.trans yY) (by simp),λvs us w cU dh=> ?_⟩;have afq:P.fieldsOf t=F:=by simp[Program.fieldsOf,hu]
     rw[yY];have:=Wh ay (g:=flatK ag n) (d:=d) (λt c7 bC=>Wi ay n t c7 bC d (by omega)) F.toList fs 0 c7 vs us w ec az (by grind) (by grind) (by rw[Gp cU,Gp dh]);simp only[wo];rw[run_equalIn_struct w d t _ _ (by grind) (he.held yY).1,afq,this];simp
    grind
   grind
  grind
theorem afr(ay:dv P ag=true){op:BinOp}{t u:TypeId}{x y:Operand}{xs ys:List ak}{K:Option Prop->ak->Prop}(aH:o.op= .binOp op t x y u)(ah:gv A os w a ρ x)(bn:gv A os w a ρ y)(eb:ρ x= .agg xs)(Ps:ρ y= .agg ys)(h:Dc ag t op xs ys K):lo P A os w a o K:=by
 unfold Dc at h;unfold gv at ah bn;rw[eb]at ah;rw[Ps]at bn;obtain⟨vs,afs,af,_,an⟩:=ah.xx;obtain⟨us,aft,hs,_,yZ⟩:=bn.xx;have DE:∀ {dZ:List Value} {ds:List ak} {o2:List Value},dZ.length=ds.length->(∀ (i:Nat) v d,dZ[i]?=some v->ds[i]?=some d->bg A os w v d)->ds=o2.map .v->dZ=o2:=by
  intro dZ ds o2 h1 ad aN;subst aN;apply rJ;intro i;by_cases hi:i<dZ.length
  ·have df:i<o2.length:=by grind
   have:=(ad i dZ[i] (.v o2[i]) (eP hi) (by simp)).j1.1
   grind
  grind
 split at h
 ·rename_i c7 xA gk;obtain⟨h1,ad,aN,bt⟩:=Wi ay 5 t c7 xA Op.maxDepth (by decide);have key:∀ {q8:Bool->Prop},qZ c7 xs ys q8->∃r,q8 r/\(eqGuard op t x y (.agg vs.toArray) (.agg us.toArray)).run P w= .ok () w/\(Op.equal t (.agg vs.toArray) (.agg us.toArray)).run P w= .ok r w:=by
   intro q8 h;obtain⟨o2,auL,aC,aG,cU,dh,ap⟩:=Kh h;obtain rfl:=DE af an aC;obtain rfl:=DE hs yZ aG;have he:=qn ay (t:=t) (.inl ad);refine⟨_,ap,?_,?_⟩
   ·cases op<;>first|rfl|simp[eqGuard,(he.held gk).2]
   ·have:=bt _ _ w cU dh;rw[gk]at this;exact this
  cases op<;>simp only at h<;>first
   |exact h.elim
   | (obtain⟨r,ap,aw,he⟩:=key h
      refine⟨_,_,ap,λ_=>⟨_,?_,.bT (.v rfl)⟩⟩;simp only[execOp,aH,afs,aft,dY,aw,dT,binOp,he,ey])
 grind
end
open Go
theorem Kk{α:Type}{Q:Nat->α->Prop}:∀ (n:Nat),(∀j,j<n->∃v,Q j v)->∃vs:List α,vs.length=n/\∀ (j:Nat) v,vs[j]?=some v->Q j v
 |0,_=>⟨[],rfl,by simp⟩
 |n+1,h=>by
  obtain⟨vs,af,bV⟩:=Kk n (λj aq=>h j (by omega));obtain⟨v,ab⟩:=h n (by omega);refine⟨vs++ [v],by grind,λj u hu=> ?_⟩
  grind
variable{os:c2}{i:Nat}
theorem kO{o:aZ}(h:bR (os.map (·.2)) i=o)(aa:o≠ .bm):∃x,os[i]?=some (x,o):=by
 rw[ln,e7]at h
 grind
section
variable {P:Program} {ag:dH} {A:Nat->Prop} {os:c2} {B:e5} {w:World} {a:Act} {o:Oper} {ρ:Operand->ak}
theorem AV(ay:dv P ag=true){t:TypeId}(ae: (aF ag t).size≠0){cI:Addr}{ds:List ak}{K:ak->Prop}
  (aj:∀ (j:Nat) d,ds[j]?=some d->∃v,w.cell? (cI.add j)=some v/\v.oneCell'=true/\bg A os w v d) (h:mB (aF ag t).agg (aF ag t).size ds K):
  ∃d x,K d/\(loadVar t cI).run P w= .ok x w/\bg A os w x d:=by
 unfold mB at h;split at h
 ·rename_i gk;obtain⟨af,h⟩:=Gi h;obtain⟨vs,ji,ab⟩:=Kk (Q:=λj v=>w.cell? (cI.add j)=some v/\v.oneCell'=true/\∃d,ds[j]?=some d/\bg A os w v d) (aF ag t).size (λj aq=>by
   obtain⟨v,h1,ad,aN⟩:=aj j ds[j] (eP (by omega))
   grind)
  have et:=OT (P:=P) w cI vs (λj v aq=>(ab j v aq).1);refine⟨_,.agg vs.toArray,h,?_,.agg (by grind) (λv aA=> ?_) (λi v d hi aa=> ?_)⟩
  ·simp only[loadVar,dY,Kb ay ae,dT,gk,if_true,jQ ay ae,<-ji,et,ey,FW]
  ·obtain⟨j,aq,rfl⟩:=e8 aA;exact(ab j _ (eP aq)).2.1
  grind
 ·rename_i gk;split at h
  ·rename_i d r;have h:=iv.1 h;obtain⟨v,h1,ad,aN⟩:=aj 0 d rfl;refine⟨_,v,h,?_,aN⟩;have aR:cI.add 0=cI:=by rfl
   rw[aR]at h1;simp only[loadVar,dY,Kb ay ae,dT,gk,tk,uK,run_load,h1]
  grind
theorem Wj{x:Value}{cs:List ak}(h:bg A os w x (.c9 cs)):∃cI,x= .pointer (some cI)/\¬A cI.block/\cI.block<w.heap.size/\
  ∀ (j:Nat) d,cs[j]?=some d->∃v,w.cell? (cI.add j)=some v/\v.oneCell'=true/\b8 A w v d:=by
 have h:=h.wk;cases h with
 |c9 xs al ac br dD ah=>grind
theorem Gs{cI:Addr}{cs:List ak}(al:¬A cI.block)(ac:cI.block<w.heap.size)(aj:∀ (j:Nat) d,cs[j]?=some d->∃v,w.cell? (cI.add j)=some v/\v.oneCell'=true/\b8 A w v d):b8 A w (.pointer (some cI)) (.c9 cs):=by
 have:∀j,∃v:Value,v.oneCell'=true/\∀d,cs[j]?=some d->w.cell? (cI.add j)=some v/\b8 A w v d:=by
  intro j;cases aq:cs[j]? with
  |none=>exact⟨.nilFunc,rfl,by simp⟩
  |some d=>
   grind
 exact .c9 (λj=>(this j).choose) al ac (λj=>(this j).choose_spec.1) (λj d aa=>((this j).choose_spec.2 d aa).1) (λj d aa=>((this j).choose_spec.2 d aa).2)
theorem xB(hO:yL A os B w){i g:Nat}{t:TypeId}{cs:List ak}(h:os[i]?=some (.pointer (some ⟨g,0,none⟩),.cells t cs)):
  ∃arr,w.heap[g]?=some (.cells arr t (0,0))/\arr.size=cs.length/\B.mine g/\(∀v∈arr.toList,v.oneCell'=true)/\(∀ (j:Nat) v d,arr[j]?=some v->cs[j]?=some d->bg A os w v d)/\
   ∀ (j:Nat) d,cs[j]?=some d->∃v,w.cell? ⟨g,j,none⟩=some v/\v.oneCell'=true/\bg A os w v d:=by
 obtain⟨dV,arr,e,cr,bC,ae,br,ao⟩:=hO _ _ _ h;cases e;refine⟨arr,bC,ae,cr,br,ao,λj d aa=> ?_⟩;have aq:j<arr.size:=by grind
 refine⟨arr[j],?_,br _ (by simp),ao j _ d (by simp) aa⟩;rw[cell_of_row w g j arr t (0,0) bC];simp
theorem afu(ay:dv P ag=true)(hO:yL A os B w){t:TypeId}{x:Operand}{K:Option Prop->ak->Prop}(aH:o.op= .load t x)(ah:gv A os w a ρ x)(h:uM ag (os.map (·.2)) t (ρ x) K):lo P A os w a o K:=by
 unfold gv at ah;unfold uM at h;have nc:∀ {cI:Addr} {y:Value} {c:Option Prop} {d:ak},a.eval x= .pointer (some cI)->K c d->(Holds c->(loadVar t cI).run P w= .ok y w/\bg A os w y d)->lo P A os w a o K:=by
  intro cI y c d he ap bC;refine⟨_,_,ap,λaj=>⟨y,?_,(bC aj).2⟩⟩;simp only[execOp,aH,he,Instr.loadAt,Instr.sureAddr,dY,ey,dT,(bC aj).1]
 split at h
 ·grind
 ·rename_i yX;have ae: (aF ag t).size≠0:=yX;split at h
  ·rename_i cs e;rw[e]at ah;obtain⟨cI,he,_,_,aj⟩:=Wj ah;obtain⟨d,y,ap,h1,ad⟩:=AV (os:=os) ay ae (λj d aa=>by obtain⟨v,h1,ad,aN⟩:=aj j d aa;exact⟨v,h1,ad,.bT aN⟩) h
   grind
  ·rename_i i off e;rw[e]at ah;obtain⟨g,eD,dG,hi,he⟩:=ah.q5;split at h
   ·rename_i t2 cs af;obtain⟨x',df⟩:=kO af (by simp);rw[hi]at df;cases df;obtain⟨_,_,_,_,_,_,dD⟩:=xB hO hi;obtain⟨_,h⟩:=rS h;obtain⟨d,y,ap,h1,ad⟩:=AV ay ae (cI:=⟨g,off,none⟩) (λj d aa=>by rw[qV]at aa;rw[Addr.pH];exact dD _ d aa) h
    grind
   grind
  ·rename_i i off e;rw[e]at ah;obtain⟨g,eD,dG,hi,he⟩:=ah.yU;split at h
   ·rename_i t2 cs af;obtain⟨x',df⟩:=kO af (by simp);rw[hi]at df;cases df;obtain⟨_,_,_,_,_,_,dD⟩:=xB hO hi;split at h
    ·rename_i gk;obtain⟨ds,ap⟩:=h;by_cases aj: (dG.drop off).take (aF ag t).size=ds/\ds.length=(aF ag t).size
     ·obtain⟨d,y,e,h1,ad⟩:=AV ay ae (cI:=⟨g,off,none⟩) (K:=λd=>d= .agg ds) (λj d aa=>by rw[qV]at aa;rw[Addr.pH];exact dD _ d aa) (ds:=dG.drop off) (by
       unfold mB;rw[gk];have:∀ (n:Nat) (l:List ak) (Q:List ak->Prop),n<=l.length->Q (l.take n)->xl n l Q:=by
        intro n;induction n with
        |zero=>intro l Q _ bV;simpa[xl]using bV
        |succ n aY=>
         intro l Q aW bV;cases l with
         |nil=>grind
         |cons d r=>exact iv.2 (aY r _ (by grind) (by grind))
       grind)
      grind
     ·exact⟨_,_,ap,λbC=>absurd (Holds.j2.1 bC) aj⟩
    ·rename_i gk;obtain⟨d,h⟩:=h;have ap:=iv.1 h;by_cases aj:dG[off]?=some d
     ·obtain⟨v,h1,ad,aN⟩:=dD off d aj;refine nc he ap (λ_=>⟨?_,aN⟩);simp only[loadVar,dY,Kb ay ae,dT,gk,tk,uK,run_load,h1]
     ·exact⟨_,_,ap,λbC=>absurd (Holds.j2.1 bC) aj⟩
   grind
  ·rename_i i k off e;rw[e]at ah;split at h
   ·rename_i e' aB fG af;obtain⟨x',hi⟩:=kO af (by simp);obtain⟨g,n,c,rfl,he⟩:=ah.Gl hi;obtain⟨gd,h⟩:=h;obtain⟨_,h⟩:=rS h;obtain⟨jB,xs,b2,cE,hc,br,fj⟩:=hO _ _ _ hi;have AW:∃d,K (some (fG[k]?=some gd)) d/\mB (aF ag t).agg (aF ag t).size (gd.drop off) (λck=>ck=d/\K (some (fG[k]?=some gd)) d):=by
     unfold mB at h⊢;split at h
     ·obtain⟨af,bC⟩:=Gi h;refine⟨_,bC,?_⟩;have:∀ (n:Nat) (l:List ak) (Q:List ak->Prop),n<=l.length->Q (l.take n)->xl n l Q:=by
       intro n;induction n with
       |zero=>intro l Q _ bV;simpa[xl]using bV
       |succ n aY=>
        intro l Q aW bV;cases l with
        |nil=>grind
        |cons d r=>exact iv.2 (aY r _ (by grind) (by grind))
      grind
     ·split at h
      ·have bC:=iv.1 h;exact⟨_,bC,iv.2 ⟨rfl,bC⟩⟩
      grind
    obtain⟨d,ap,h⟩:=AW;by_cases aj:fG[k]?=some gd
    ·have dD:∀ (j:Nat) d,(gd.drop off)[j]?=some d->∃v,w.cell? (Addr.add ⟨g,k*aB+off,none⟩ j)=some v/\v.oneCell'=true/\bg A os w v d:=by
      intro j d aa;rw[qV]at aa;obtain⟨v,ab,hi⟩:=fj k (off+j) gd d aj aa;refine⟨v,?_,br v (fo ab),.bT hi⟩;have:=b2.cells (g:=g) rfl _ _ ab;rw[Addr.pH]at this⊢
      grind
     obtain⟨ck,y,⟨rfl,_⟩,h1,ad⟩:=AV ay ae dD h
     grind
    ·exact⟨_,_,ap,λbC=>absurd (Holds.j2.1 bC) aj⟩
   grind
  grind
end
open Go
section
variable {P:Program} {ag:dH} {A:Nat->Prop} {os:c2} {B:e5} {w:World} {a:Act} {o:Oper} {ρ:Operand->ak}
theorem afv{x:Value}{aB:Nat}{es:List (List ak)}{f:Bool}{k:Nat}{gd:List ak}(h:b8 A w x (.ar aB es f))(hk:es[k]?=some gd):
  ∃cI n c,x= .slice (some cI) n c/\n=es.length/\k<n/\gd.length=aB/\¬A cI.block/\cI.block<w.heap.size/\∀ (j:Nat) d,gd[j]?=some d->∃v,w.cell? (cI.add (k*aB+j))=some v/\v.oneCell'=true/\b8 A w v d:=by
 cases h with
 |ar xs aW aj aA az cE al ac br dD ah=>
  grind
 |nil=>grind
theorem b8.j1{x y:Value}(h:b8 A w x (.v y)):x=y:=by
 cases h;rfl
theorem Wk:∀ (l:List UInt8) (s:ByteArray),(l.map (λb=>(b.toNat:Int))).foldl (λr n=>r.push (UInt8.ofNat n.toNat)) s= ⟨(s.data.toList++l).toArray⟩
 | [],s=>by simp
 |b::r,s=>by
  simp only[om,List.foldl_cons,lH];rw[Wk r];simp
theorem afw(ay:dv P ag=true){src dst:TypeId}{x:Operand}{K:Option Prop->ak->Prop}(aH:o.op= .convert src dst x)(ah:gv A os w a ρ x)(h:Df ag (aF ag src).k (aF ag dst).k (ρ x) K):lo P A os w a o K:=by
 unfold Df at h;split at h
 ·rename_i c7 k eQ n aC aG bc;refine⟨_,_,h,λ_=>⟨_,?_,.bT (.v rfl)⟩⟩;simp only[execOp,aH,ah.v bc,convert,dY,gE (AU ay aC),gE (AU ay aG),dT,Conv.intToInt,ey]
 ·rename_i s aC aG bc;refine⟨_,_,h,λ_=>⟨_,?_,.bT (.v rfl)⟩⟩;simp only[execOp,aH,ah.v bc,convert,dY,gE (wm ay aC),gE (wm ay aG),dT,ey]
 ·rename_i e aB es f aC aG bc;split at h
  ·rename_i AX h1;obtain⟨rP,ap⟩:=h;have h1:=fz h1;subst h1;refine⟨_,_,ap,λaj=>⟨_,?_,.bT (.v rfl)⟩⟩;have aj:=Holds.j2.1 aj;unfold gv at ah;rw[bc]at ah;have hi:=ah.nB;have et: (Conv.bytesToString (a.eval x)).run P w= .ok (.string ⟨rP.toArray⟩) w:=by
    generalize a.eval x=y at hi;cases hi with
    |nil=>
     have:rP=[]:=by cases rP<;>simp at aj⊢
     subst this;rfl
    | @ar cI n c _ _ _ xs aW pK aA az cE al ac br dD pL=>
     have af:rP.length=n:=by grind
     have afx:∀j v,(rP.map (λb:UInt8=>Value.int .u8 b.toNat))[j]?=some v->w.cell? (cI.add j)=some v:=by
      intro j v ab;rw[e7]at ab;cases ac:rP[j]? with
      |none=>grind
      |some b=>
       rw[ac]at ab;simp at ab;subst ab;have he:es[j]?=some (AE b):=by grind
       have h1:=dD j 0 _ _ he rfl;have ad:=pL j 0 _ _ he rfl;rw[C9,xh]at h1;rw[h1,ad.j1]
     have afy:=OT (P:=P) w cI _ afx;rw[bF,af]at afy;have:=run_bytesToString (P:=P) w cI n c (rP.map (λb:UInt8=>(b.toNat:Int))) (by simp_all);rw[this,Wk];simp
   have: (convert src dst (a.eval x)).run P w= .ok (.string ⟨rP.toArray⟩) w:=by
    generalize a.eval x=y at hi et;cases hi with
    |nil=>rw[VO w src dst e _ _ _ (lL ay aC) (AU ay AX) (wm ay aG)];omega
    |ar=>rw[VO w src dst e _ _ _ (lL ay aC) (AU ay AX) (wm ay aG)];omega
   simp only[execOp,aH,dY,this,dT,ey]
  grind
 grind
theorem Wl(ay:dv P ag=true){t:TypeId}{f:Nat}{fs:List (TypeId×Nat)}(hk: (aF ag t).k= .b7 fs)(ae: (aF ag (h3 fs f).1).size≠0)(aR: (aF ag 0).size=0):
  ∃ (F:Array Field) (fd:Field),P.underlying t=some (.struct F)/\F[f]?=some fd/\fd.type=(h3 fs f).1/\fd.offset=(h3 fs f).2:=by
 obtain⟨F,hu,ec,_⟩:=Gm ay hk;have az:f<fs.length:=by
  rcases l5 f fs.length with h|h
  ·exact h
  ·rw[V9 h]at ae
   grind
 obtain⟨fd,h1,ad,aN,_⟩:=V8 ec (.inr az) az
 grind
theorem afz(ay:dv P ag=true)(aR: (aF ag 0).size=0){t:TypeId}{f:Nat}{x:Operand}{K:Option Prop->ak->Prop}(aH:o.op= .fieldAddr t x f)(ah:gv A os w a ρ x)(h:xo ag (os.map (·.2)) t f (ρ x) K):lo P A os w a o K:=by
 unfold gv at ah;unfold xo at h;split at h
 ·rename_i fs hk;split at h
  ·grind
  ·rename_i ae;obtain⟨F,fd,hu,ec,cH,kt⟩:=Wl ay hk ae aR;have run:∀cI:Addr,a.eval x= .pointer (some cI)->(execOp a.eval o).run P w= .ok (.value (.pointer (some (cI.add (h3 fs f).2)))) w:=by
    intro cI he;have bu:¬((aF ag (h3 fs f).1).size=0):=ae;simp only[execOp,aH,he,Instr.fieldAt,dY,gE hu,dT,ec,Instr.sureAddr,ey,fieldPlace,cH,jQ ay ae,bo bu,kt]
   split at h
   ·rename_i i off e;rw[e]at ah;obtain⟨g,eD,cs,hi,he⟩:=ah.q5;refine⟨_,_,h,λ_=>⟨_,run _ he,?_⟩⟩;rw[Addr.pH];exact .aV hi
   ·rename_i i off e;rw[e]at ah;obtain⟨g,eD,cs,hi,he⟩:=ah.yU;refine⟨_,_,h,λ_=>⟨_,run _ he,?_⟩⟩;rw[Addr.pH];exact .dU hi
   ·rename_i i k off e;rw[e]at ah;split at h
    ·rename_i ao;obtain⟨_,_,_,_,hi⟩:=Kg ao;obtain⟨g,n,c,rfl,he⟩:=ah.Gl hi;refine⟨_,_,h,λ_=>⟨_,run _ he,?_⟩⟩;rw[Addr.pH,JD];exact .db hi
    grind
   ·rename_i cs e;rw[e]at ah;obtain⟨cI,he,al,ac,aj⟩:=Wj ah;obtain⟨_,h⟩:=rS h;refine⟨_,_,h,λ_=>⟨_,run _ he,.bT (Gs (by rwa[Addr.yS]) (by rwa[Addr.yS]) (λj d aa=> ?_))⟩⟩;rw[qV]at aa;rw[Addr.J9]
    grind
   grind
 grind
theorem afA{t:TypeId}{vs:List Value}{ds:List ak}{off:Nat}{K:ak->Prop}(af:vs.length=ds.length)(br:∀v∈vs,v.oneCell'=true)(an:∀ (i:Nat) v d,vs[i]?=some v->ds[i]?=some d->bg A os w v d)
  (h:mB (aF ag t).agg (aF ag t).size (ds.drop off) K) (h1: (aF ag t).agg=false->(aF ag t).size=1) (bx: (aF ag t).size≠0):∃d,K d/\off+(aF ag t).size<=vs.length/\bg A os w (wo (aF ag t).agg ((vs.drop off).take (aF ag t).size)) d:=by
 unfold mB at h;split at h
 ·rename_i gk;obtain⟨hle,h⟩:=Gi h;rw[sp]at hle;refine⟨_,h,by omega,?_⟩;rw[gk];refine .agg (by grind) (λv ab=>br v (C7 (nR ab))) (λi v d ab aa=> ?_)
  grind
 ·rename_i gk;split at h
  ·rename_i d r jC;have h:=iv.1 h;have h1:=h1 gk;have aa:ds[off]?=some d:=by
    have: (ds.drop off)[0]?=some d:=by grind
    grind
   have ax:=(eL.1 aa).1;refine⟨_,h,by omega,?_⟩;rw[gk,h1];have ab:off<vs.length:=by omega
   rw[vY ab];exact an off _ d (eP ab) aa
  grind
theorem afB(ay:dv P ag=true)(aR: (aF ag 0).size=0){t:TypeId}{f:Nat}{x:Operand}{K:Option Prop->ak->Prop}(aH:o.op= .field t x f)(ah:gv A os w a ρ x)(h:Dg ag t f (ρ x) K):lo P A os w a o K:=by
 unfold gv at ah;unfold Dg at h;split at h
 ·rename_i fs hk;split at h
  ·grind
  ·rename_i ae;obtain⟨F,fd,hu,ec,cH,kt⟩:=Wl ay hk ae aR;split at h
   ·rename_i cs e;rw[e]at ah;obtain⟨vs,he,af,br,an⟩:=ah.xx;obtain⟨_,h⟩:=rS h;have DI:=(qn ay (t:=(h3 fs f).1) (.inl ae)).eg;obtain⟨d,ap,hle,ao⟩:=afA af br an h DI ae;refine⟨_,_,ap,λ_=>⟨_,?_,ao⟩⟩;have:=Ki (w:=w) ay ae vs (h3 fs f).2 hle DI;simp only[execOp,aH,he,Instr.field,dY,gE hu,dT,ec,asAgg,ey,cH,kt,this]
   grind
 grind
theorem afC{i:Operand}{m:Nat}(h:JR i=some m):∃k,a.eval i= .int k m:=by
 unfold JR at h;split at h
 ·cases h;exact⟨_,rfl⟩
 grind
theorem afD(ay:dv P ag=true)(hO:yL A os B w){t:TypeId}{x i:Operand}{K:Option Prop->ak->Prop}(aH:o.op= .indexAddr t x i)(ah:gv A os w a ρ x)(hi:gv A os w a ρ i)(h:xp ag (os.map (·.2)) t i (ρ x) (ρ i) K):lo P A os w a o K:=by
 unfold xp at h;split at h
 ·rename_i e Gt iU hk qo;have hi:=hi.v qo;have hu:=lL ay hk;unfold gv at ah;split at h
  ·grind
  ·rename_i ae;have run:∀ (cI:Addr) (n c k:Nat),a.eval x= .slice (some cI) n c->iU=k->k<n->(execOp a.eval o).run P w= .ok (.value (.pointer (some (cI.add (k* (aF ag e).size))))) w:=by
    intro cI n c k he uW AY;subst uW;have ac: (0:Int)<=k/\(k:Int)<n:=by omega
    simp only[execOp,aH,he,hi,Instr.indexAt,asIntOf,dY,ey,dT,gE hu,b6 ac,jQ ay ae,lH]
   unfold AG at h;split at h
   ·rename_i aB es f eb;split at h
    ·rename_i bx;have bx:=fz bx;obtain⟨k,gd,ap⟩:=h;refine⟨_,_,ap,λaj=> ?_⟩;obtain⟨uW,y0⟩:=Holds.j2.1 aj;rw[eb]at ah;obtain⟨cI,n,c,he,_,AY,_,al,ac,dD⟩:=afv ah.nB y0;refine⟨_,run cI n c k he uW AY,.bT (Gs (by rwa[Addr.yS]) (by rwa[Addr.yS]) (λj d aa=> ?_))⟩;rw[Addr.J9,<-bx]
     grind
    grind
   ·rename_i j eb;split at h
    ·rename_i aG aB es af;split at h
     ·rename_i bx;have bx:=fz bx;obtain⟨k,ap⟩:=h;refine⟨_,_,ap,λaj=> ?_⟩;obtain⟨uW,y0⟩:=Holds.j2.1 aj;rw[eb]at ah;obtain⟨x',ku⟩:=kO af (by simp);have nd:=ah.q6 ku;subst nd;obtain⟨_,xs,b2,_⟩:=hO _ _ _ ku;rcases b2.2 with⟨_,aW⟩| ⟨g,cap,cur,ab,_⟩
      ·omega
      ·rw[ab]at ku;refine⟨_,run ⟨g,0,none⟩ es.length cap k ab uW y0,?_⟩;rw[Addr.pH,<-bx];have:=bg.db (A:=A) (w:=w) (k:=k) (off:=0) ku
       grind
     grind
    grind
   grind
 ·rename_i n e Gt iU hk qo;have df:=hi;have hi:=hi.v qo;have hu:=Kd ay hk;unfold gv at ah;split at h
  ·grind
  ·rename_i ae;have run:∀ (cI:Addr) (k:Nat),a.eval x= .pointer (some cI)->iU=k->k<n->(execOp a.eval o).run P w= .ok (.value (.pointer (some (cI.add (k* (aF ag e).size))))) w:=by
    intro cI k he uW AY;subst uW;have ac: (0:Int)<=k/\(k:Int)<n:=by omega
    simp only[execOp,aH,he,hi,Instr.indexAt,asIntOf,dY,ey,dT,gE hu,Instr.sureAddr,b6 ac,jQ ay ae,lH]
   unfold Dh at h;split at h
   ·rename_i m aA;obtain⟨eQ,hp⟩:=afC (a:=a) aA;rw[hi]at hp;have jR:iU=m:=by grind
    split at h
    ·rename_i j off eb;rw[eb]at ah;obtain⟨g,eD,cs,mE,he⟩:=ah.q5;refine⟨_,_,h,λaj=>⟨_,run _ m he jR (Holds.j2.1 aj),?_⟩⟩;rw[Addr.pH];exact .aV mE
    ·rename_i j off eb;rw[eb]at ah;obtain⟨g,eD,cs,mE,he⟩:=ah.yU;refine⟨_,_,h,λaj=>⟨_,run _ m he jR (Holds.j2.1 aj),?_⟩⟩;rw[Addr.pH];exact .dU mE
    grind
   ·split at h
    ·rename_i j off eb;rw[eb]at ah;obtain⟨g,eD,cs,mE,he⟩:=ah.q5;obtain⟨k,h⟩:=h;refine⟨_,_,h,λaj=>⟨_,run _ k he (Holds.j2.1 aj).1 (Holds.j2.1 aj).2,?_⟩⟩;rw[Addr.pH];exact .dU mE
    ·rename_i j off eb;rw[eb]at ah;obtain⟨g,eD,cs,mE,he⟩:=ah.yU;obtain⟨k,h⟩:=h;refine⟨_,_,h,λaj=>⟨_,run _ k he (Holds.j2.1 aj).1 (Holds.j2.1 aj).2,?_⟩⟩;rw[Addr.pH];exact .dU mE
    grind
 grind
theorem afE(ay:dv P ag=true){t:TypeId}{x i:Operand}{K:Option Prop->ak->Prop}(aH:o.op= .index t x i)(ah:gv A os w a ρ x)(hi:gv A os w a ρ i)(h:Di ag t (ρ x) (ρ i) K):lo P A os w a o K:=by
 unfold Di at h;split at h
 ·rename_i Gt iU qo;have hi:=hi.v qo;split at h
  ·rename_i s hk eb;have ah:=ah.v eb;obtain⟨k,ap⟩:=h;refine⟨_,_,ap,λaj=>⟨_,?_,.bT (.v rfl)⟩⟩;obtain⟨rfl,ax⟩:=Holds.j2.1 aj;have h1:s[k]?=some s[k]:=ByteArray.getElem?_lt' s k ax;have ad:s.data.getD k 0=s[k]:=by
    have:k<s.data.size:=ax;simp only[Array.getD,dif_pos this];rfl
   simp only[execOp,aH,ah,hi,Instr.index,asIntOf,dY,ey,dT,gE (wm ay hk),Int.natCast_nonneg,if_true,lH,h1,ad]
  ·rename_i n e cs hk eb;split at h
   ·rename_i gk cE;have cE:=fz cE;obtain⟨k,d,h⟩:=h;have ap:=iv.1 h;refine⟨_,_,ap,λaj=> ?_⟩;obtain⟨rfl,ax,aa⟩:=Holds.j2.1 aj;unfold gv at ah;rw[eb]at ah;obtain⟨vs,he,af,br,an⟩:=ah.xx;have gl:=(eL.1 aa).1;have Wm:k<vs.length:=by omega
    refine⟨vs[k],?_,an k _ d (eP Wm) aa⟩;have ac: (0:Int)<=k/\(k:Int)<n:=by omega
    have an:=Ki (P:=P) (w:=w) ay (t:=e) (by omega) vs k (by omega) (λ_=>cE);rw[gk,cE]at an;rw[vY Wm]at an;simp only[execOp,aH,he,hi,Instr.index,asIntOf,dY,ey,dT,gE (Kd ay hk),b6 ac,jQ ay (t:=e) (by omega),cE,lH,C9,an];rfl
   grind
  grind
 grind
theorem afF{n:Nat}{K:Option Prop->ak->Prop}(aH:o.op= .extract x n)(ah:gv A os w a ρ x)(h:Dj n (ρ x) K):lo P A os w a o K:=by
 unfold gv at ah;unfold Dj at h;split at h
 ·rename_i ds e;rw[e]at ah;obtain⟨vs,nd,af,_,an⟩:=ah.Pl;obtain⟨_,h⟩:=rS h;split at h
  ·rename_i d r jC;have ap:=iv.1 h;refine⟨_,_,ap,λ_=> ?_⟩;have aa:ds[n]?=some d:=by
    have: (ds.drop n)[0]?=some d:=by grind
    grind
   have ax:=(eL.1 aa).1;have ab:n<vs.length:=by omega
   refine⟨vs[n],?_,an n _ d (eP ab) aa⟩;simp[execOp,aH,nd,Instr.extract,ab]
  grind
 grind
end
open Go
section
variable {P:Program} {ag:dH} {A:Nat->Prop} {os:c2} {B:e5} {w:World} {a:Act} {o:Oper} {ρ:Operand->ak}
theorem wr{dK:Option Operand}{n gu:Nat}(af:∀x,dK=some x->gv A os w a ρ x)(h:oo ρ dK n gu): (dK=none/\n=gu)\/∃x k,dK=some x/\a.eval x= .int k n:=by
 cases dK with
 |none=>exact .inl ⟨rfl,h⟩
 |some x=>
  obtain⟨k,e⟩:=h;exact .inr ⟨x,k,rfl,(af x rfl).v e⟩
theorem Pt{x:Value}{aB:Nat}{es:List (List ak)}{f:Bool}{l h:Nat}(hi:b8 A w x (.ar aB es f))(Gu:l<=h)(Wn:h<=es.length):
  ∃ (cI:Option Addr) (n c:Nat),x= .slice cI n c/\n=es.length/\h<=c/\(f=true->c=n)/\
   (∀fA,h<=fA->fA<=c->∀lJ,(lJ=true->fA=h)->b8 A w (.slice (if fA=l then cI else cI.map (·.add (l*aB))) (h-l) (fA-l)) (.ar aB ((es.take h).drop l) lJ)):=by
 cases hi with
 | @ar cI n c _ _ _ xs aW aj aA az cE al ac br dD ah=>
  refine⟨some cI,n,c,rfl,aW.symm,by omega,az,λfA h1 ad lJ Wo=> ?_⟩;have key:∀lM:Addr,lM.block=cI.block->(∀j,j<(h-l) *aB->lM.add j=(cI.add (l*aB)).add j)->b8 A w (.slice (some lM) (h-l) (fA-l)) (.ar aB ((es.take h).drop l) lJ):=by
   intro lM lp Pu;refine .ar (λi j=>xs (l+i) j) (by grind) (by omega) (by omega) (λe=>by grind) (λe he=>cE e (nR (C7 he))) (λbu=>by grind) (λbu=>by grind) (λi j=>br _ _) (λi j e d he aa=> ?_) (λi j e d he aa=> ?_)
   ·rw[qV,rK]at he;split at he
    ·rename_i ax;have hlen:=cE e (fo he);have aq:=(eL.1 aa).1;have:=dD (l+i) j e d he aa;rw[Pu _ (by
      have aN:i+1<=h-l:=by omega
      have bt: (i+1) *aB<=(h-l) *aB:=kJ _ aN
      grind),Addr.J9]
     grind
    grind
   grind
  split
  ·grind
  ·exact key (cI.add (l*aB)) (Addr.yS _ _) (λj _=>rfl)
 |nil=>
  simp at Wn;subst Wn;obtain rfl:l=0:=by omega
  refine⟨none,0,0,rfl,rfl,by omega,λ_=>rfl,λfA h1 ad lJ Wo=> ?_⟩;obtain rfl:fA=0:=by omega
  simpa using b8.nil
theorem sF{l y:Nat}(h:l<=y)(k:IntKind)(code:BoundsCode): (Instr.sliceBound (.int k (l:Int)) y code).run P w= .ok l w:=by
 have:=run_sliceBound (P:=P) w k l y code (by omega) (by omega)
 grind
theorem afG(ay:dv P ag=true){t:TypeId}{x:Operand}{dK hi eU:Option Operand}{K:Option Prop->ak->Prop}(aH:o.op= .slice t x dK hi eU)(ah:gv A os w a ρ x)
  (o3:∀y,dK=some y->gv A os w a ρ y) (qp:∀y,hi=some y->gv A os w a ρ y) (tB:∀y,eU=some y->gv A os w a ρ y) (h:Dk ag t ρ (ρ x) dK hi eU K):lo P A os w a o K:=by
 unfold Dk at h;split at h
 ·rename_i s hk eb;have kN:=ah.v eb;have hu:=wm ay hk;split at h
  ·obtain⟨l,bC,ap⟩:=h;refine⟨_,_,ap,λaj=>⟨_,?_,.bT (.v rfl)⟩⟩;obtain⟨cY,cZ,h1,ad⟩:=Holds.j2.1 aj;have aC:=wr o3 cY;have aG:=wr qp cZ;have dE:=sF (P:=P) (w:=w) h1;have dL:=sF (P:=P) (w:=w) ad;rcases aC with⟨rfl,rfl⟩| ⟨wt,cU,rfl,aC⟩<;>rcases aG with⟨rfl,rfl⟩| ⟨Kl,dh,rfl,aG⟩<;>
    first
     |simp only[execOp,aH,kN,qh,st,aC,aG,Instr.sliceAt,dY,gE hu,dT,Instr.slice,Instr.sliceBounds,JJ,tk,uK,ey,dE,dL]
     |simp only[execOp,aH,kN,qh,st,aC,Instr.sliceAt,dY,gE hu,dT,Instr.slice,Instr.sliceBounds,JJ,tk,uK,ey,dE,dL]
     |simp only[execOp,aH,kN,qh,st,aG,Instr.sliceAt,dY,gE hu,dT,Instr.slice,Instr.sliceBounds,JJ,tk,uK,ey,dE,dL]
     |simp only[execOp,aH,kN,qh,st,Instr.sliceAt,dY,gE hu,dT,Instr.slice,Instr.sliceBounds,JJ,tk,uK,ey,dE,dL]
  grind
 ·rename_i e hk eb;have hu:=lL ay hk;unfold gv at ah;rw[eb]at ah;split at h
  ·grind
  ·grind
  ·rename_i ae;refine⟨_,_,h,λaj=> ?_⟩;obtain⟨cY,cZ⟩:=Holds.j2.1 aj;have aC:=wr o3 cY;have aG:=wr qp cZ;have he:a.eval x= .slice none 0 0:=ah.o0;have dE:=sF (P:=P) (w:=w) (bP 0);refine⟨.slice none 0 0,?_,.bT .av⟩;rcases aC with⟨rfl,_⟩| ⟨wt,cU,rfl,aC⟩<;>rcases aG with⟨rfl,_⟩| ⟨Kl,dh,rfl,aG⟩<;>first
    | (simp[execOp,aH,he,Instr.sliceAt,gE hu,Instr.slice,Instr.sliceBounds,jQ ay ae];done)
    | (simp[execOp,aH,he,aC,Instr.sliceAt,gE hu,Instr.slice,Instr.sliceBounds,jQ ay ae,Instr.sliceBound,asIntOf];done)
    | (simp[execOp,aH,he,aG,Instr.sliceAt,gE hu,Instr.slice,Instr.sliceBounds,jQ ay ae,Instr.sliceBound,asIntOf];done)
    | (simp[execOp,aH,he,aC,aG,Instr.sliceAt,gE hu,Instr.slice,Instr.sliceBounds,jQ ay ae,Instr.sliceBound,asIntOf];done)
 ·rename_i e aB es f hk eb;have hu:=lL ay hk;unfold gv at ah;rw[eb]at ah;have lq:=ah.nB;split at h
  ·grind
  ·grind
  ·rename_i ac ae;have bx:=fz ac;split at h
   ·obtain⟨l,ap⟩:=h;refine⟨_,_,ap,λaj=> ?_⟩;obtain⟨cY,h1⟩:=Holds.j2.1 aj;have aC:=wr o3 cY;obtain⟨cI,n,c,he,aW,hle,az,an⟩:=Pt (l:=l) (h:=es.length) lq h1 (bP _);have an:=an c hle (bP _) f (λbC=>by grind);rw[fU,bx]at an;refine⟨_,?_,.bT (by rw[bx];exact an)⟩;have dE:=sF (P:=P) (w:=w) h1;rcases aC with⟨rfl,rfl⟩| ⟨wt,cU,rfl,aC⟩<;>
     first
      |simp only[execOp,aH,he,aW,qh,st,aC,Instr.sliceAt,dY,gE hu,dT,Instr.slice,Instr.sliceBounds,ey,dE,jQ ay ae]
      |simp only[execOp,aH,he,aW,qh,st,Instr.sliceAt,dY,gE hu,dT,Instr.slice,Instr.sliceBounds,ey,dE,jQ ay ae]
   ·rename_i j3;obtain⟨l,bC,ap⟩:=h;refine⟨_,_,ap,λaj=> ?_⟩;obtain⟨cY,cZ,h1,ad⟩:=Holds.j2.1 aj;have aC:=wr o3 cY;have aG:=wr qp cZ;obtain⟨cI,n,c,he,aW,hle,az,an⟩:=Pt (l:=l) (h:=bC) lq h1 ad;have an:=an c hle (bP _) false (by simp);rw[bx]at an;refine⟨_,?_,.bT (by rw[bx];exact an)⟩;have dE:=sF (P:=P) (w:=w) h1;have dL:=sF (P:=P) (w:=w) hle;rcases aG with⟨aG,_⟩| ⟨Kl,dh,Km,aG⟩
    ·cases aG
    ·cases Km;rcases aC with⟨rfl,rfl⟩| ⟨wt,cU,rfl,aC⟩<;>
      first
       |simp only[execOp,aH,he,aW,qh,st,aC,aG,Instr.sliceAt,dY,gE hu,dT,Instr.slice,Instr.sliceBounds,ey,dE,dL,jQ ay ae]
       |simp only[execOp,aH,he,aW,qh,st,aG,Instr.sliceAt,dY,gE hu,dT,Instr.slice,Instr.sliceBounds,ey,dE,dL,jQ ay ae]
   ·rename_i j3 auM;obtain⟨l,bC,ap⟩:=h;refine⟨_,_,ap,λaj=> ?_⟩;obtain⟨cY,cZ,iN,h1,ad⟩:=Holds.j2.1 aj;have aC:=wr o3 cY;have aG:=wr qp cZ;have bc:=wr tB iN;obtain⟨cI,n,c,he,aW,hle,az,an⟩:=Pt (l:=l) (h:=bC) lq h1 ad;have an:=an bC (bP _) hle true (λ_=>rfl);rw[bx]at an;refine⟨_,?_,.bT (by rw[bx];exact an)⟩;have dE:=sF (P:=P) (w:=w) h1;have dL:=sF (P:=P) (w:=w) hle;have eY:=sF (P:=P) (w:=w) (bP bC);rcases aG with⟨aG,_⟩| ⟨Kl,dh,Km,aG⟩
    ·cases aG
    ·cases Km;rcases bc with⟨bc,_⟩| ⟨Pv,hR,Pw,bc⟩
     ·cases bc
     ·cases Pw;rcases aC with⟨rfl,rfl⟩| ⟨wt,cU,rfl,aC⟩<;>
       first
        |simp only[execOp,aH,he,aW,qh,st,aC,aG,bc,Instr.sliceAt,dY,gE hu,dT,Instr.slice,Instr.sliceBounds,ey,dE,dL,eY,jQ ay ae]
        |simp only[execOp,aH,he,aW,qh,st,aG,bc,Instr.sliceAt,dY,gE hu,dT,Instr.slice,Instr.sliceBounds,ey,dE,dL,eY,jQ ay ae]
   grind
 grind
end
open Go
section
variable {P:Program} {ag:dH} {A:Nat->Prop} {os:c2} {B:e5} {w:World} {a:Act} {o:Oper} {ρ:Operand->ak}
theorem afH(ay:dv P ag=true)(hO:yL A os B w){t:TypeId}{x:Operand}{args:Array Operand}{fg:Array TypeId}{K:Option Prop->ak->Prop}(aH:o.op= .call {callee:=.builtin .len,args:=args,argTypes:=fg})
  (bb:args.toList=[x]) (iO:fg.toList=[t]) (ah:gv A os w a ρ x) (h:we ag (os.map (·.2)) t (ρ x) K):lo P A os w a o K:=by
 obtain rfl:args= #[x]:=by grind
 obtain rfl:fg= #[t]:=by grind
 have nc:∀ {n:Nat},(Builtin.len_ #[t] o.type #[a.eval x]).run P w= .ok (.int .i64 n) w->K none (.v (.int .i64 n))->lo P A os w a o K:=by
  intro n ao ap;refine⟨_,_,ap,λ_=>⟨_,?_,.bT (.v rfl)⟩⟩;simp only[execOp,aH,resolve,invoke,builtin,dY,ey,dT,C5,om,xg,ao]
 unfold we at h;split at h
 ·rename_i e hk;have hu:=lL ay hk;have run:∀cI n c,(Builtin.len_ #[t] o.type #[.slice cI n c]).run P w= .ok (.int .i64 n) w:=by
   intro cI n c;simp[Builtin.len_,gE hu,goInt]
  unfold gv at ah;split at h
  ·rename_i aB es f eb;rw[eb]at ah;have hi:=ah.nB;generalize bn:a.eval x=y at hi;cases hi with
   |ar xs aW=>grind
   |nil=>grind
  ·rename_i eb;rw[eb]at ah;exact nc (n:=0) (by rw[ah.o0,run]) h
  ·rename_i j eb;split at h
   ·rename_i aG aB es af;rw[eb]at ah;obtain⟨x',ku⟩:=kO af (by simp);have nd:=ah.q6 ku;subst nd;obtain⟨_,xs,b2,_⟩:=hO _ _ _ ku;rcases b2.2 with⟨ab,aW⟩| ⟨g,cap,cur,ab,_⟩;all_goals grind
   grind
  grind
 ·rename_i hk;have hu:=wm ay hk;split at h
  ·rename_i s eb;exact nc (by rw[ah.v eb];simp[Builtin.len_,gE hu,goInt]) h
  grind
 ·rename_i n e hk;have hu:=Kd ay hk;exact nc (by simp[Builtin.len_,gE hu,goInt]) h
 grind
theorem afI{y:Operand}{args:Array Operand}{fg:Array TypeId}{K:Option Prop->ak->Prop}(aH:o.op= .call {callee:=.builtin .min,args:=args,argTypes:=fg})
  (bb:args.toList=[x,y]) (ah:gv A os w a ρ x) (bn:gv A os w a ρ y) (h:AH (ρ x) (ρ y) K):lo P A os w a o K:=by
 obtain rfl:args= #[x,y]:=by grind
 unfold AH at h;split at h
 ·rename_i k p eQ q aC aG;refine⟨_,_,h,λ_=>⟨_,?_,.bT (.v rfl)⟩⟩;simp only[execOp,aH,resolve,invoke,builtin,dY,ey,dT,C5,om,xg,ah.v aC,bn.v aG,run_min_int2]
 grind
theorem afJ{y:Operand}{args:Array Operand}{fg:Array TypeId}{K:Option Prop->ak->Prop}(aH:o.op= .call {callee:=.builtin .max,args:=args,argTypes:=fg})
  (bb:args.toList=[x,y]) (ah:gv A os w a ρ x) (bn:gv A os w a ρ y) (h:AI (ρ x) (ρ y) K):lo P A os w a o K:=by
 obtain rfl:args= #[x,y]:=by grind
 unfold AI at h;split at h
 ·rename_i k p eQ q aC aG;refine⟨_,_,h,λ_=>⟨_,?_,.bT (.v rfl)⟩⟩;simp only[execOp,aH,resolve,invoke,builtin,dY,ey,dT,C5,om,xg,ah.v aC,bn.v aG,run_max_int2,GT.gt]
 grind
theorem xC:∀ {l:List Operand} {K:List ak->Prop},tt ρ l K->K (l.map ρ)
 | [],K,h=>h
 |x::r,K,h=>by
  have:=xC (iv.1 h)
  grind
theorem bg.plain{x:Value}(h:bg A os w x d)(an:q0 d=true):x.oneCell'=true/\b8 A w x d:=by
 cases d<;>simp only[q0,l4,tk]at an
 all_goals try exact an.elim
 ·obtain⟨rfl,h1⟩:=h.j1;exact⟨h1,.v h1⟩
 ·have bp:=h.nB;refine⟨?_,bp⟩;cases bp<;>rfl
 ·have bp:=h.wk;refine⟨?_,bp⟩;cases bp<;>rfl
 ·have AZ:=an;clear an;obtain⟨vs,rfl,af,an⟩:=h.tA;refine⟨rfl,.fn af (λi v d ab aa=> ?_)⟩;have aj:=an i v d ab aa;have afK:=AZ d (fo aa);cases d<;>simp[mA]at afK
  ·obtain⟨rfl,h1⟩:=aj.j1;exact .v h1
  ·exact aj.nB
  ·exact aj.wk
  ·rename_i g cu;have:cu=[]:=by cases cu<;>simp_all[mA]
   subst this;obtain⟨us,rfl,gQ,_⟩:=aj.tA;have:us=[]:=Ov (by omega);subst this;exact .fn (vs:=[]) rfl (by simp)
  ·rw[aj.o0];exact .av
 ·rw[h.o0];exact⟨rfl,.av⟩
theorem A0:∀ {l:List ak},pB l=true->∀d∈l,q0 d=true
 | [],_,d,aa=>by grind
 |x::r,h,d,aa=>by
  unfold pB at h;split at h
  ·rename_i ah;rcases ny.1 aa with rfl|aa
   ·exact ah
   ·exact A0 h d aa
  grind
theorem afL{f:Fn}{first cu:Array Operand}{K:Option Prop->ak->Prop}(aH:o.op= .makeFunc f first cu)(az:first.toList=[])
  (ah:∀x∈cu.toList,gv A os w a ρ x) (h:tt ρ cu.toList λl=>match l.all l6 with
   |true=>K none (.fn f l)
   |false=>False):lo P A os w a o K:=by
 obtain rfl:first= #[]:=by grind
 have h:=xC h;split at h
 ·rename_i ez;have aA:=l4.1 ez;refine⟨_,_,h,λ_=>⟨.func f #[] (cu.map a.eval),?_,?_⟩⟩
  ·simp[execOp,aH,Instr.makeFunc]
  ·have:cu.map a.eval=(cu.toList.map a.eval).toArray:=by grind
   rw[this];refine .fn (by simp) aA (λi v d ab aa=> ?_)
   grind
 grind
theorem Gv:∀ (vs:List Value) (k off:Nat) (cells:Array Value) (i:Nat),off+k+vs.length<=cells.size->
  ((vs.zipIdx k).foldl (λ(cs:Array Value) (p:Value×Nat)=>cs.setIfInBounds (off+p.2) p.1) cells)[i]?=(if off+k<=i/\i<off+k+vs.length then vs[i- (off+k)]? else cells[i]?)/\
  ((vs.zipIdx k).foldl (λ(cs:Array Value) (p:Value×Nat)=>cs.setIfInBounds (off+p.2) p.1) cells).size=cells.size
 | [],k,off,cells,i,_=>by
  refine⟨?_,by simp⟩;rw[bo (by simp)];simp
 |v::r,k,off,cells,i,h=>by
  simp only[lI]at h;obtain⟨h1,ad⟩:=Gv r (k+1) off (cells.setIfInBounds (off+k) v) i (by grind);simp only[List.zipIdx_cons,List.foldl_cons]
  grind
structure q9(A:Nat->Prop)(os:c2)(w:World)(cells:Array Value)(cs:List ak):Prop where
 size:cells.size=cs.length
 eg:∀v∈cells.toList,v.oneCell'=true
 hq:∀ (i:Nat) v d,cells[i]?=some v->cs[i]?=some d->bg A os w v d
theorem Px{place:Nat->Nat×Nat}{y1:Nat->Option (Nat×Nat)}(ez:∀i,(place i).2≠0->y1 i=some (place i)){K:List ak->Prop}:
  ∀ (parts:List (Nat×Operand)) (cs:List ak) (cells:Array Value),q9 A os w cells cs->(∀p∈parts,gv A os w a ρ p.2)->rO ρ place parts cs K->
   ∃cells' dG,K dG/\Instr.fill y1 cells (parts.map λp=>(p.1,a.eval p.2))=some cells'/\q9 A os w cells' dG
 | [],cs,cells,ao,_,h=>⟨cells,cs,h,by rfl,ao⟩
 | (i,x)::r,cs,cells,ao,ah,h=>by
  have pL:=ah (i,x) (by simp);have h:=iv.1 h;unfold gv at pL;have key:∀ (d:ak),ρ x=d->(∀b ck,d≠ .ca b ck)->(∀l,d≠ .bd l)->d≠ .a1->
    (match Nat.beq (dc d).length (place i).2&&Nat.ble ((place i).1+(dc d).length) cs.length&&Nat.blt 0 (place i).2 with
     |true=>tq (jz cs (place i).1 (dc d)) λdG=>rO ρ place r dG K
     |false=>False)->∃cells' dG,K dG/\Instr.fill y1 cells (((i,x)::r).map λp=>(p.1,a.eval p.2))=some cells'/\q9 A os w cells' dG:=by
   intro d e h1 ad aN aA;split at aA
   ·rename_i ac;have aA:=xi.1 aA;simp only[cq]at ac;obtain⟨⟨cY,cZ⟩,iN⟩:=ac;have cY:=fz cY;have cZ:=nz cZ;have iN:0<(place i).2:=nz iN;rw[e]at pL;obtain⟨af,br,an⟩:=pL.cells h1 ad aN;have cE: (a.eval x).cells.size=(place i).2:=by grind
    have ht: (place i).1+0+(a.eval x).cells.toList.length<=cells.size:=by
     rw[ao.size]
     grind
    have az:∀j,((a.eval x).cells.zipIdx.foldl (λ(cs:Array Value) (p:Value×Nat)=>cs.setIfInBounds ((place i).1+p.2) p.1) cells)[j]?=(if(place i).1<=j/\j<(place i).1+(a.eval x).cells.toList.length then(a.eval x).cells.toList[j- (place i).1]? else cells[j]?):=by
     intro j;have:=(Gv (a.eval x).cells.toList 0 (place i).1 cells j ht).1;simp only[xh]at this;rw[<-this];rw[<-Ob];simp
    have Gw: ((a.eval x).cells.zipIdx.foldl (λ(cs:Array Value) (p:Value×Nat)=>cs.setIfInBounds ((place i).1+p.2) p.1) cells).size=cells.size:=by
     have:=(Gv (a.eval x).cells.toList 0 (place i).1 cells 0 ht).2;rw[<-this];rw[<-Ob];simp
    have Wp: (a.eval x).cells.toList.length=(dc d).length:=af;have l9:q9 A os w ((a.eval x).cells.zipIdx.foldl (λ(cs:Array Value) (p:Value×Nat)=>cs.setIfInBounds ((place i).1+p.2) p.1) cells) (jz cs (place i).1 (dc d)):=by
     refine⟨by rw[Gw,J7,ao.size],λv ab=> ?_,λj v ck ab aa=> ?_⟩
     ·obtain⟨j,aq,rfl⟩:=e8 ab;have: (((a.eval x).cells.zipIdx.foldl (λ(cs:Array Value) (p:Value×Nat)=>cs.setIfInBounds ((place i).1+p.2) p.1) cells))[j]?=some (((a.eval x).cells.zipIdx.foldl (λ(cs:Array Value) (p:Value×Nat)=>cs.setIfInBounds ((place i).1+p.2) p.1) cells).toList[j]):=by
       simp
      rw[az j]at this;split at this
      ·grind
      ·rw[<-xb]at this;exact ao.eg _ (fo this)
     ·rw[az j]at ab;rw[J8 _ _ _ _ cZ,<-Wp]at aa;split at ab
      ·grind
      ·rename_i aj;rw[bo aj]at aa;exact ao.hq j v ck ab aa
    obtain⟨cells',dG,ap,qq,kP⟩:=Px ez r _ _ l9 (λp an=>ah p (by grind)) aA;refine⟨cells',dG,ap,?_,kP⟩;simp only[om,Instr.fill,ez i (by omega)]
    grind
   grind
  grind
theorem Kn(ay:dv P ag=true){t:TypeId}(ae: (aF ag t).size≠0):∃z,(zeroValue t).run P w= .ok z w/\q9 A os w z.cells (aF ag t).zero/\(aF ag t).zero.length=(aF ag t).size:=by
 obtain⟨i,hi,_,_,z,bx,nT,af⟩:=rT ay ae;obtain⟨h1,ad,aN⟩:=uV (A:=A) (w:=w) nT;refine⟨z,by simp[zeroValue,typeInfo,hi,bx],⟨by omega,ad,λi v d ab aa=>.bT (aN i v d (by grind) aa)⟩,af⟩
theorem Wq:∀ {fs:List (TypeId×Nat)},Dl ag fs=true->∀f∈fs,(aF ag f.1).size≠0
 | [],_,f,az=>by grind
 |x::r,h,f,az=>by
  unfold Dl at h;split at h
  ·grind
  ·rename_i ae;rcases ny.1 az with rfl|az
   ·exact ae
   ·exact Wq h f az
theorem Wr(ay:dv P ag=true):∀ (F:List Field) (fs:List (TypeId×Nat)),o1 F fs=true->(∀f∈fs,(aF ag f.1).size≠0)->
  (F.mapM λf=>(do pure (f.offset,<-sizeOf f.type):Sem (Nat×Nat))).run P w= .ok (fs.map λf=>(f.2,(aF ag f.1).size)) w
 | [],[],_,_=>by simp
 | [],_::_,h,_=>by simp[o1]at h
 |_::_,[],h,_=>by simp[o1]at h
 |x::F,y::fs,h,ae=>by
  simp only[o1,cq,JM]at h;have aY:=Wr ay F fs h.2 (λf az=>ae f (by grind));have aC:=fz h.1.1.1;have aG:=fz h.1.1.2;simp only[FP,dY,aC,aG,jQ ay (ae y (by simp)),dT,ey,aY,om]
theorem Ws:∀ {fs:List (TypeId×Nat)} {i:Nat},i<fs.length->fs[i]?=some (h3 fs i)
 | [],i,h=>by grind
 |_::_,0,_=>rfl
 |_::r,i+1,h=>by simpa[h3]using Ws (fs:=r) (i:=i) (by grind)
theorem afM(ay:dv P ag=true){t:TypeId}{parts:Array (Nat×Operand)}{K:Option Prop->ak->Prop}(aH:o.op= .build t parts)
  (ah:∀p∈parts.toList,gv A os w a ρ p.2) (h:Dm ag t ρ parts.toList K):lo P A os w a o K:=by
 unfold Dm at h;have uX: (parts.map λ(i,x)=>(i,a.eval x)).toList=parts.toList.map λp=>(p.1,a.eval p.2):=by simp
 split at h
 ·rename_i fs hk;split at h
  ·rename_i m jj aA;have ae: (aF ag t).size≠0:=by omega
   obtain⟨F,hu,ec,_⟩:=Gm ay hk;obtain⟨z,bx,kP,_⟩:=Kn (A:=A) (os:=os) (w:=w) ay ae;have cL:=Wq jj;have ez:=Wr (w:=w) ay F.toList fs ec cL;obtain⟨cells',dG,ap,qq,ao⟩:=Px (y1:=λi=>(fs.map λf=>(f.2,(aF ag f.1).size))[i]?) (λi hi=>by
    cases ac:Nat.blt i fs.length with
    |true=>
     have sG:i<fs.length:=nz ac;simp only[e7,Ws sG];rfl
    |false=>grind) parts.toList _ _ kP ah h
   refine⟨_,_,ap,λ_=>⟨.agg cells',?_,?_⟩⟩
   ·have A1: (F.mapM λf=>(do pure (f.offset,<-sizeOf f.type):Sem (Nat×Nat))).run P w= .ok (fs.map λf=>(f.2,(aF ag f.1).size)).toArray w:=by
     rw[Oe,FW,ez];rfl
    simp only[execOp,aH,Instr.build,dY,bx,dT,ey,gE hu,A1,uX]
    simp_all
   ·have:cells'=cells'.toList.toArray:=by simp
    rw[this];exact .agg (by simpa using ao.size) ao.eg (λi v d ab aa=>ao.hq i v d (by grind) aa)
  grind
 ·rename_i n e hk;split at h
  ·rename_i m1 m2 h1 ad;have ae: (aF ag t).size≠0:=by omega
   have xD: (aF ag e).size≠0:=by omega
   have hu:=Kd ay hk;obtain⟨z,bx,kP,_⟩:=Kn (A:=A) (os:=os) (w:=w) ay ae;obtain⟨cells',dG,ap,qq,ao⟩:=Px (y1:=λi=>some (i* (aF ag e).size,(aF ag e).size)) (λi hi=>rfl) parts.toList _ _ kP ah h;refine⟨_,_,ap,λ_=>⟨.agg cells',?_,?_⟩⟩
   ·simp only[execOp,aH,Instr.build,dY,bx,dT,ey,gE hu,jQ ay xD,uX,qq]
   ·have:cells'=cells'.toList.toArray:=by simp
    rw[this];exact .agg (by simpa using ao.size) ao.eg (λi v d ab aa=>ao.hq i v d (by grind) aa)
  grind
 grind
theorem Gx(ay:dv P ag=true)(aR: (aF ag 0).size=0)(hO:yL A os B w){K:Option Prop->ak->Prop}(ah:∀x∈o.op.operands.toList,gv A os w a ρ x)
  (h:oq ag (os.map (·.2)) o.op ρ K):lo P A os w a o K:=by
 generalize aH:o.op=op at h ah;unfold oq at h;split at h
 ·exact Wd (.inl aH) (ah _ (by simp[Op.operands])) h
 ·exact Wd (.inr aH) (ah _ (by simp[Op.operands])) h
 ·exact aff aH (ah _ (by simp[Op.operands])) (ah _ (by simp[Op.operands])) (ah _ (by simp[Op.operands])) h
 ·exact afh aH (ah _ (by simp[Op.operands])) h
 ·rename_i op t x y u;have pL:=ah x (by simp[Op.operands]);have Gy:=ah y (by simp[Op.operands]);unfold Dd at h;split at h
  ·rename_i k p eQ q aC aG;split at h
   ·exact afk aH (pL.v aC) (Gy.v aG) h
   ·split at h
    ·rename_i hk;obtain rfl:=Gj.1 hk;exact afj aH (pL.v aC) (Gy.v aG) h
    grind
  ·rename_i aC aG;exact afl aH (pL.v aC) (Gy.v aG) h
  ·rename_i aC aG;split at h
   ·rename_i hk;exact afm ay aH (pL.v aC) (Gy.v aG) hk h
   grind
  ·rename_i aC aG;exact afr ay aH pL Gy aC aG h
  grind
 ·exact afi aH (ah _ (by simp[Op.operands])) h
 ·exact afw ay aH (ah _ (by simp[Op.operands])) h
 ·exact afz ay aR aH (ah _ (by simp[Op.operands])) h
 ·exact afB ay aR aH (ah _ (by simp[Op.operands])) h
 ·exact afD ay hO aH (ah _ (by simp[Op.operands])) (ah _ (by simp[Op.operands])) h
 ·exact afE ay aH (ah _ (by simp[Op.operands])) (ah _ (by simp[Op.operands])) h
 ·exact afu ay hO aH (ah _ (by simp[Op.operands])) h
 ·exact afF aH (ah _ (by simp[Op.operands])) h
 ·exact afG ay aH (ah _ (by simp[Op.operands])) (λy bn=>ah y (by simp[Op.operands,bn])) (λy bn=>ah y (by simp[Op.operands,bn])) (λy bn=>ah y (by simp[Op.operands,bn])) h
 ·split at h
  ·rename_i az;exact afL aH az (λx aA=>ah x (by simp[Op.operands]at aA⊢;grind)) h
  grind
 ·rename_i t parts;exact afM ay aH (λp an=>ah p.2 (by
   simp only[Op.operands]
   grind)) h
 ·rename_i args fg;split at h
  ·rename_i x t aC aG;exact afH ay hO aH aC aG (ah x (by simp[Op.operands,Call.operands];rw[<-vU,aC];simp)) h
  grind
 ·split at h
  ·rename_i x y aC;exact afI aH aC (ah x (by simp[Op.operands,Call.operands];rw[<-vU,aC];simp)) (ah y (by simp[Op.operands,Call.operands];rw[<-vU,aC];simp)) h
  grind
 ·split at h
  ·rename_i x y aC;exact afJ aH aC (ah x (by simp[Op.operands,Call.operands];rw[<-vU,aC];simp)) (ah y (by simp[Op.operands,Call.operands];rw[<-vU,aC];simp)) h
  grind
 grind
end
open Go
structure ch(aE:Nat->Prop)(a8:e5)(n:Nat)(os:c2)(s:bK)(a:Act)(w:World):Prop where
 size:a.tmps.size=n
 defers:a.defers=[]
 hv:pD a8.M a8.w w
 a0:∀b,aE b->¬a8.mine b
 loc:s.loc=os.map (·.2)
 env:∀t,bg (bi aE os) os w (a.tmps.getD t undef) (look s.env t)
 cV:yL (bi aE os) os a8 w
 inj:∀ (i j:Nat) x o y aU b,os[i]?=some (x,o)->os[j]?=some (y,aU)->o≠ .bm->aU≠ .bm->bJ x=some b->bJ y=some b->i=j
section
variable {P:Program} {ag:dH} {aE:Nat->Prop} {a8:e5} {n:Nat} {os:c2} {s:bK} {a:Act} {w:World} {o:Oper}
theorem pD.DJ{h:e5}{b c:World}{r:Option Nat}(aw:pD h.M h.w b)(bp:b.grownBy c r)(ao:∀g,r=some g->h.mine g):pD h.M h.w c:=
 ⟨bp.os.trans aw.os,bp.tape.trans aw.tape,bp.output.trans aw.output,bQ aw.size bp.size,λk hk aW=>
  (bp.block k (Ay hk aw.size) (λe=>by
   rcases ao k e.symm with h1|h1;all_goals grind)).trans (aw.block k hk aW)⟩
theorem e5.sH{h:e5}{b:World}(aw:pD h.M h.w b){k:Nat}(hk:b.heap.size<=k):h.mine k:=.inl (bQ aw.size hk)
theorem grownBy.uY(w:World)(r:Option Nat):w.grownBy w r:=⟨rfl,rfl,rfl,bP _,λ_ _ _=>rfl⟩
theorem ch.DK(h:ch aE a8 n os s a w){b:Nat}(ac:aE b):b<w.heap.size:=by
 have h1:=h.a0 b ac;have ad:=h.hv.size;rcases l5 b w.heap.size with aN|aN
 ·exact aN
 ·exact absurd (.inl (by omega)) h1
theorem ch.bG(h:ch aE a8 n os s a w)(x:Operand):bg (bi aE os) os w (a.eval x) (bG s x):=by
 cases x with
 |tmp t=>exact h.env t
 |const v=>
  show bg _ _ _ v (OW v);unfold OW;split
  ·exact .bT .av
  ·exact .bT .a1
  ·exact .bT .a1
  ·exact .bT .a1
  ·rename_i h1 ad aN bt;refine .bT (.v ?_);cases v<;>first|rfl|exact absurd rfl (aN _)|exact absurd rfl (bt _)
 |global g=>exact .bT .a1
 |func f=>exact .bT (.fn (vs:=[]) rfl (by simp))
theorem Wt{t u:Nat}{x:Value}(cH:t<a.tmps.size): (a.put (some t) x).tmps.getD u undef=if u=t then x else a.tmps.getD u undef:=by
 simp only[Act.put,pA,Vw]
 grind
theorem ch.put(h:ch aE a8 n os s a w){dst:Option Tmp}{x:Value}{d:ak}(aa:∀t,dst=some t->t<n)(ao:bg (bi aE os) os w x d):ch aE a8 n os (s.put dst d) (a.put dst x) w:=by
 cases dst with
 |none=>exact h
 |some t=>
  have cH:t<a.tmps.size:=by rw[h.size];grind
  refine⟨by simpa[Act.put]using h.size,h.defers,h.hv,h.a0,h.loc,λu=> ?_,h.cV,h.inj⟩;rw[Wt cH];simp only[bK.put,look];by_cases e:u=t
  ·simp_all
  ·rw[bo e];have:Nat.beq t u=false:=by
    cases ac:Nat.beq t u;all_goals simp_all
   rw[this];exact h.env u
theorem Ko:∀ {l:List aZ} {K:List aZ->Prop},FX l K↔K l
 | [],K=>CY
 |o::r,K=>Ko (l:=r)
theorem A2{dst:Option Tmp}{d:ak}{K:bK->Prop}:gq s dst d K↔K (s.put dst d):=by
 cases s;cases dst<;>exact Ko
theorem lK.iX{B:e5}{x:Value}{bD:aZ}(h:lK A os B w x bD)(aa:bD≠ .bm){b:Nat}(ac:bJ x=some b):B.mine b/\b<w.heap.size:=by
 cases bD with
 |bm=>grind
 |gone=>have h:bJ x=none:=h;grind
 |cD ds=>obtain⟨rfl,_⟩:=h;simp[bJ]at ac
 |cells t cs=>
  obtain⟨g,arr,rfl,cr,bC,_⟩:=h;simp[bJ]at ac
  grind
 |row e aB es=>
  obtain⟨jB,xs,b2,_⟩:=h;refine⟨jB b ac,?_⟩;rcases b2.2 with⟨rfl,_⟩| ⟨g,cap,cur,rfl,cr,bC,_⟩
  ·simp[bJ]at ac
  ·simp[bJ]at ac
   grind
theorem lK.cC{dy:Nat->Prop}{os aT:c2}{B:e5}{w w':World}{x:Value}{bD:aZ}(h:lK A os B w x bD)(k:dx A dy w w')(bb:uU os aT)(ac:∀b,bD≠ .bm->bJ x=some b->w'.heap[b]?=w.heap[b]?):lK dy aT B w' x bD:=by
 cases bD with
 |bm=>exact trivial
 |gone=>exact h
 |cD ds=>exact⟨h.1,h.2.1,h.2.2.1,λi v d ab aa=>(h.2.2.2 i v d ab aa).cC k bb⟩
 |cells t cs=>
  obtain⟨g,arr,rfl,cr,bC,ae,br,ao⟩:=h;exact⟨g,arr,rfl,cr,(ac g (by simp) rfl).trans bC,ae,br,λj v d ab aa=>(ao j v d ab aa).cC k bb⟩
 |row e aB es=>
  obtain⟨jB,xs,b2,cE,hc,br,ao⟩:=h;refine⟨jB,xs,⟨b2.1,?_⟩,cE,hc,br,λeQ j r d h1 ad=> ?_⟩
  ·rcases b2.2 with aW| ⟨g,cap,cur,rfl,cr,bC,rest⟩
   ·grind
   ·exact .inr ⟨g,cap,cur,rfl,cr,(ac g (by simp) rfl).trans bC,rest⟩
  ·obtain⟨v,ab,hi⟩:=ao eQ j r d h1 ad;exact⟨v,ab,hi.cC k⟩
theorem ch.qm(h:ch aE a8 n os s a w)(aw:w.grownBy w' none):ch aE a8 n os s a w':=
 have k:dx (bi aE os) (bi aE os) w w':=.qm aw (λ_ _ h=>h)
 ⟨h.size,h.defers,pD.DJ h.hv aw (λ_ e=>by cases e),h.a0,h.loc,λt=>(h.env t).cC k (.refl _),
  λi x bD hi=>(h.cV i x bD hi).cC k (.refl _) (λb aa ac=>aw.block b ((h.cV i x bD hi).iX aa ac).2 (by simp)),h.inj⟩
variable{x:Value}{bD:aZ}
theorem Wu{b:Nat}(h:bi aE (os++ [(x,bD)]) b):bi aE os b\/(bD≠ .bm/\bJ x=some b):=by
 rcases h with h| ⟨i,y,aU,hi,aa,ac⟩
 ·exact .inl (.inl h)
 ·by_cases ax:i<os.length
  ·rw[so ax]at hi;exact .inl (.inr ⟨i,y,aU,hi,aa,ac⟩)
  grind
theorem Py(x:Value)(bD:aZ):uU os (os++ [(x,bD)]):=λi y aU hi=>by
 refine⟨aU,?_,by cases aU<;>simp[er]⟩
 grind
theorem ch.push(h:ch aE a8 n os s a w)(aw:w.grownBy w' none)(pM:∀b,bJ x=some b->w.heap.size<=b)(fI:lK (bi aE (os++ [(x,bD)])) (os++ [(x,bD)]) a8 w' x bD):
  ch aE a8 n (os++ [(x,bD)]) ⟨s.env,s.loc++ [bD]⟩ a w':=by
 have k:dx (bi aE os) (bi aE (os++ [(x,bD)])) w w':=.qm aw (λb ac ab=>by
  rcases Wu ab with ab| ⟨_,ab⟩;all_goals grind)
 refine⟨h.size,h.defers,pD.DJ h.hv aw (λ_ e=>by cases e),h.a0,by simp[h.loc],λt=>(h.env t).cC k (Py x bD),λi y aU hi=> ?_,λi j y dw z fV b hi aq d1 d2 cY cZ=> ?_⟩
 ·by_cases ax:i<os.length
  ·rw[so ax]at hi;exact(h.cV i y aU hi).cC k (Py x bD) (λb aa ac=>aw.block b ((h.cV i y aU hi).iX aa ac).2 (by simp))
  grind
 ·have cs:∀ {i:Nat} {y:Value} {aU:aZ},(os++ [(x,bD)])[i]?=some (y,aU)->(os[i]?=some (y,aU)/\i<os.length)\/(i=os.length/\y=x/\aU=bD):=by
   grind
  rcases cs hi with⟨hd,_⟩| ⟨rfl,rfl,rfl⟩<;>rcases cs aq with⟨DL,_⟩| ⟨rfl,rfl,rfl⟩
  ·exact h.inj i j _ _ _ _ b hd DL d1 d2 cY cZ
  ·have:=((h.cV i _ _ hd).iX d1 cY).2
   grind
  ·have:=((h.cV j _ _ DL).iX d2 cZ).2
   grind
  ·rfl
theorem ch.Gz{gR:aZ}(h:ch aE a8 n os s a w)(hi:os[i]?=some (x,bD))(hk:er bD gR)(aa:bD≠ .bm)(y2:gR≠ .bm)(aw:w.grownBy w' (bJ x))
  (fI:lK (bi aE (os.set i (x,gR))) (os.set i (x,gR)) a8 w' x gR):ch aE a8 n (os.set i (x,gR)) ⟨s.env,gr s.loc i gR⟩ a w':=by
 have ax:=(eL.1 hi).1;have cM:∀ {j:Nat} {y:Value} {aU:aZ},(os.set i (x,gR))[j]?=some (y,aU)->(j=i/\y=x/\aU=gR)\/(j≠i/\os[j]?=some (y,aU)):=by
  grind
 have fK:∀b,bi aE (os.set i (x,gR)) b->bi aE os b:=by
  intro b ac;rcases ac with ac| ⟨j,y,aU,aq,dp,cy⟩
  ·exact .inl ac
  ·rcases cM aq with⟨rfl,rfl,rfl⟩| ⟨_,aq⟩
   ·exact .inr ⟨_,_,_,hi,aa,cy⟩
   ·exact .inr ⟨_,_,_,aq,dp,cy⟩
 have ra:uU os (os.set i (x,gR)):=by
  intro j y aU aq;by_cases e:j=i
  ·grind
  ·exact⟨aU,by grind,by cases aU<;>simp[er]⟩
 have k:dx (bi aE os) (bi aE (os.set i (x,gR))) w w':=⟨aw.size,λb _ ac=>fK b ac,λb ac aW=>aw.block b ac (λe=>aW (.inr ⟨i,x,bD,hi,aa,e.symm⟩))⟩
 refine⟨h.size,h.defers,pD.DJ h.hv aw (λg e=>((h.cV i x bD hi).iX aa e).1),h.a0,by rw[mD,h.loc,nQ],λt=>(h.env t).cC k ra,λj y aU aq=> ?_,λnC uZ y dw z fV b h1 ad d1 d2 cY cZ=> ?_⟩
 ·rcases cM aq with⟨rfl,rfl,rfl⟩| ⟨bu,aq⟩
  ·omega
  ·exact(h.cV j y aU aq).cC k ra (λb dp ac=>aw.block b ((h.cV j y aU aq).iX dp ac).2 (λe=>bu (h.inj j i _ _ _ _ b aq hi dp aa ac e.symm)))
 ·rcases cM h1 with⟨rfl,rfl,rfl⟩| ⟨_,g1⟩<;>rcases cM ad with⟨rfl,rfl,rfl⟩| ⟨_,g2⟩
  ·rfl
  ·exact h.inj _ _ _ _ _ _ b hi g2 aa d2 cY cZ
  ·exact h.inj _ _ _ _ _ _ b g1 hi d1 aa cY cZ
  ·exact h.inj _ _ _ _ _ _ b g1 g2 d1 d2 cY cZ
def gw(f:ak->ak):aZ->aZ
 | .cells t cs=>.cells t (cs.map f)
 | .cD cs=>.cD (cs.map f)
 |bD=>bD
theorem wu(f:ak->ak):∀l:List aZ,oU f l=l.map (gw f)
 | []=>rfl
 | .cells t cs::r=>by simp[oU,gw,wu f r]
 | .row e aB es::r=>by simp[oU,gw,wu f r]
 | .bm::r=>by simp[oU,gw,wu f r]
 | .gone::r=>by simp[oU,gw,wu f r]
 | .cD cs::r=>by simp[oU,gw,wu f r]
theorem b8.sub{d:ak}(i:Nat)(r:ak)(h:b8 A w x d):b8 A w x (kK i r d)/\b8 A w x (sy i r d):=by
 induction h with
 |v h=>exact⟨.v h,.v h⟩
 |ar xs aW aj aA az cE al ac br dD ah _=>exact⟨.ar xs aW aj aA az cE al ac br dD ah,.ar xs aW aj aA az cE al ac br dD ah⟩
 |nil=>exact⟨.nil,.nil⟩
 |av=>exact⟨.av,.av⟩
 |agg af br h aY=>
  refine⟨.agg af br h,.agg (by grind) br (λj v d ab aa=> ?_)⟩
  grind
 | @bd vs ds af h _=>
  refine⟨.bd af h,?_⟩;show b8 A w _ (q1 ds);unfold q1;split
  ·exact .bd af h
  ·exact .a1
 |c9 xs al ac br dD ah _=>exact⟨.c9 xs al ac br dD ah,.c9 xs al ac br dD ah⟩
 |fn af h _=>exact⟨.fn af h,.fn af h⟩
 |ca _ aR aY=>exact⟨.ca (λac=>(aY ac).1) aR,.ca (λac=>(aY ac).2) aR⟩
 |a1=>exact⟨.a1,.a1⟩
def Wv(i:Nat)(os aT:c2):Prop:=∀ (j:Nat) (x:Value) (bD:aZ),j≠i->os[j]?=some (x,bD)->∃gR,aT[j]?=some (x,gR)/\er bD gR
theorem Ww{j:Nat}(h:Nat.beq i j=false):j≠i:=λe=>by simp_all
theorem bg.sub{dy:Nat->Prop}{aT:c2}{w':World}{i:Nat}{Pz:Value}{e:TypeId}{aB:Nat}{es:List (List ak)}{r:ak}(k:dx A dy w w')(bb:Wv i os aT)(hi:os[i]?=some (Pz,.row e aB es))(ao:bg dy aT w' Pz r)
  {x:Value} {d:ak} (h:bg A os w x d): (x.oneCell'=true->bg dy aT w' x (kK i r d))/\bg dy aT w' x (sy i r d):=by
 induction h with
 |bT h=>exact⟨λ_=>.bT ((h.cC k).sub i r).1,.bT ((h.cC k).sub i r).2⟩
 | @aV j _ _ _ _ h=>
  have bu:j≠i:=λe=>by grind
  obtain⟨aU,bp,hk⟩:=bb _ _ _ bu h;cases aU<;>simp[er]at hk
  exact⟨λ_=>.aV bp,.aV bp⟩
 | @dU j _ _ _ _ h=>
  have bu:j≠i:=λe=>by grind
  obtain⟨aU,bp,hk⟩:=bb _ _ _ bu h;cases aU<;>simp[er]at hk
  exact⟨λ_=>.dU bp,.dU bp⟩
 | @db j gS off g n c e' mC fG h=>
  have key:bg dy aT w' (.pointer (some ⟨g,gS*mC+off,none⟩)) (kK i r (.db j gS off)):=by
   simp only[kK];split
   ·exact .bT .a1
   ·rename_i ac;obtain⟨aU,bp,hk⟩:=bb _ _ _ (Ww ac) h;cases aU<;>simp[er]at hk
    obtain⟨rfl,rfl⟩:=hk;exact .db bp
  exact⟨λ_=>key,key⟩
 | @own j x _ _ _ h h1=>
  have key:bg dy aT w' x (kK i r (.own j)):=by
   simp only[kK];split
   ·simp_all
   ·rename_i ac;obtain⟨aU,bp,hk⟩:=bb _ _ _ (Ww ac) h;cases aU<;>simp[er]at hk
    exact .own bp h1
  exact⟨λ_=>key,key⟩
 | @e2 j x y d h aa h1=>
  have bu:j≠i:=λe=>by grind
  obtain⟨aU,bp,hk⟩:=bb _ _ _ bu h;have ac:Nat.beq i j=false:=by
   cases ac:Nat.beq i j;all_goals simp_all
  have hk:aU= .gone:=by cases aU<;>simp[er]at hk;rfl
  subst hk;rcases aa with rfl| ⟨gS,off,rfl⟩
  ·have aC:kK i r (.own j)= .own j:=by simp[kK,ac]
   have aG:sy i r (.own j)= .own j:=by simp[sy,aC]
   rw[aC,aG];exact⟨λ_=>.e2 bp (.inl rfl) h1,.e2 bp (.inl rfl) h1⟩
  ·have aC:kK i r (.db j gS off)= .db j gS off:=by simp[kK,ac]
   have aG:sy i r (.db j gS off)= .db j gS off:=by simp[sy,aC]
   rw[aC,aG];exact⟨λ_=>.e2 bp (.inr ⟨_,_,rfl⟩) h1,.e2 bp (.inr ⟨_,_,rfl⟩) h1⟩
 | @agg vs ds af br _ aY=>
  refine⟨λh=>by simp[Value.oneCell']at h,.agg (by grind) br (λj v d ab aa=> ?_)⟩
  grind
 | @bd vs ds af b2 h aY=>
  exact⟨λh1=>by simp[Value.oneCell']at h1,.bT (((bg.bd af b2 h).q1).cC k)⟩
 | @fn f vs ds af iL _ aY=>
  have key:bg dy aT w' (.func f #[] vs.toArray) (.fn f ds):=.fn af iL (λj v d ab aa=>by
   have aj:=iL d (fo aa);have ad:=(aY j v d ab aa).2;cases d<;>simp[l6,mA]at aj<;>exact ad)
  exact⟨λ_=>key,key⟩
 |ca _ aR aY=>exact⟨λh1=>.ca (λac=>(aY ac).1 h1) aR,.ca (λac=>(aY ac).2) aR⟩
theorem ch.sub{x':Value}{e:TypeId}{aB:Nat}{es:List (List ak)}{gR:aZ}{r:ak}(h:ch aE a8 n os s a w)(hi:os[i]?=some (x,.row e aB es))(aw:w.grownBy w' (bJ x))
  (xE:∀b,gR≠ .bm->bJ x'=some b->bJ x=some b\/w.heap.size<=b)
  (fI:∀aT,aT=(os.map λp=>(p.1,gw (kK i r) p.2)).set i (x',gR)->lK (bi aE aT) aT a8 w' x' gR)
  (ao:∀aT,aT=(os.map λp=>(p.1,gw (kK i r) p.2)).set i (x',gR)->bg (bi aE aT) aT w' x r):
  ch aE a8 n ((os.map λp=>(p.1,gw (kK i r) p.2)).set i (x',gR)) ⟨pC (sy i r) s.env,gr (oU (kK i r) s.loc) i gR⟩ a w':=by
 have afN:=fI _ rfl;have tC:=ao _ rfl;clear fI ao;generalize mE: (os.map λp=>(p.1,gw (kK i r) p.2)).set i (x',gR)=aT at afN tC⊢;have ax:=(eL.1 hi).1;have fL: (aZ.row e aB es)≠ .bm:=by simp
 have cM:∀ {j:Nat} {y:Value} {aU:aZ},aT[j]?=some (y,aU)->(j=i/\y=x'/\aU=gR)\/(j≠i/\∃dw,os[j]?=some (y,dw)/\aU=gw (kK i r) dw):=by
  grind
 have dp:∀dw:aZ,gw (kK i r) dw≠ .bm↔dw≠ .bm:=by intro dw;cases dw<;>simp[gw]
 have bb:Wv i os aT:=by
  intro j y dw bu aq;refine⟨gw (kK i r) dw,?_,by cases dw<;>simp[er,gw]⟩
  grind
 have fK:∀b,b<w.heap.size->bi aE aT b->bi aE os b:=by
  intro b ac ab;rcases ab with ab| ⟨j,y,aU,aq,aa,cy⟩
  ·exact .inl ab
  ·rcases cM aq with⟨rfl,rfl,rfl⟩| ⟨_,dw,ne,rfl⟩
   ·rcases xE b aa cy with ad|ad
    ·exact .inr ⟨_,_,_,hi,fL,ad⟩
    ·omega
   ·exact .inr ⟨_,_,_,ne,(dp _).1 aa,cy⟩
 have k:dx (bi aE os) (bi aE aT) w w':=⟨aw.size,fK,λb ac aW=>aw.block b ac (λe=>aW (.inr ⟨i,x,_,hi,fL,e.symm⟩))⟩
 have nU:∀ {y:Value} {d:ak},bg (bi aE os) os w y d->_:=λbn=>bg.sub (aT:=aT) k bb hi tC bn;refine⟨h.size,h.defers,pD.DJ h.hv aw (λg e=>((h.cV i x _ hi).iX fL e).1),h.a0,?_,λt=> ?_,λj y aU aq=> ?_,λnC uZ y dw z fV b h1 ad d1 d2 cY cZ=> ?_⟩
 ·rw[<-mE,mD,wu,h.loc,nQ,oT,oT];rfl
 ·show bg _ _ _ _ (look (pC (sy i r) s.env) t);rw[DD _ (by rfl)];exact(nU (h.env t)).2
 ·rcases cM aq with⟨rfl,rfl,rfl⟩| ⟨bu,dw,ne,rfl⟩
  ·omega
  ·have j3:=h.cV j y dw ne;have Kp:∀b,dw≠ .bm->bJ y=some b->w'.heap[b]?=w.heap[b]?:=λb aa ac=>aw.block b (j3.iX aa ac).2 (λe=>bu (h.inj j i _ _ _ _ b ne hi aa fL ac e.symm));cases dw with
   |bm=>exact trivial
   |gone=>exact j3
   |cD ds=>
    obtain⟨aC,aG,bc,cn⟩:=j3;refine⟨aC,by grind,bc,λA3 v d ab aa=> ?_⟩
    grind
   |cells t cs=>
    obtain⟨g,arr,rfl,cr,bC,ae,br,j4⟩:=j3;refine⟨g,arr,rfl,cr,(Kp g (by simp) rfl).trans bC,by grind,br,λj v d ab aa=> ?_⟩
    grind
   |row aG tD wv=>
    obtain⟨jB,xs,b2,cE,hc,br,j4⟩:=j3;refine⟨jB,xs,⟨b2.1,?_⟩,cE,hc,br,λeQ j r d h1 ad=> ?_⟩
    ·rcases b2.2 with aW| ⟨g,cap,cur,rfl,cr,bC,rest⟩
     ·grind
     ·exact .inr ⟨g,cap,cur,rfl,cr,(Kp g (by simp) rfl).trans bC,rest⟩
    ·obtain⟨v,ab,hi⟩:=j4 eQ j r d h1 ad;exact⟨v,ab,hi.cC k⟩
 ·rcases cM h1 with⟨rfl,rfl,rfl⟩| ⟨lr,ff,g1,rfl⟩<;>rcases cM ad with⟨rfl,rfl,rfl⟩| ⟨ma,fB,g2,rfl⟩
  ·rfl
  ·have dM:=((h.cV _ _ _ g2).iX ((dp _).1 d2) cZ).2;rcases xE b d1 cY with aN|aN
   ·exact h.inj _ _ _ _ _ _ b hi g2 fL ((dp _).1 d2) aN cZ
   ·omega
  ·have dj:=((h.cV _ _ _ g1).iX ((dp _).1 d1) cY).2;rcases xE b d2 cZ with aN|aN
   ·exact h.inj _ _ _ _ _ _ b g1 hi ((dp _).1 d1) fL cY aN
   ·omega
  ·exact h.inj _ _ _ _ _ _ b g1 g2 ((dp _).1 d1) ((dp _).1 d2) cY cZ
end
open Go
section
variable {P:Program} {ag:dH} {aE:Nat->Prop} {a8:e5} {n:Nat} {os:c2} {s:bK} {a:Act} {w:World} {o:Oper} {K:bK->Prop}
def dN(aE:Nat->Prop)(a8:e5)(n:Nat)(K:bK->Prop)(a:Act)(w:World):Prop:=∃os s,ch aE a8 n os s a w/\K s
theorem jD{next:Act->World->Prop}{Q:Exit->Act->World->Prop}{x:Value}{w':World}(et: (execOp a.eval o).run P w= .ok (.value x) w')(h:next (a.put o.dst x) w'):o.wp P a w next Q:=by
 unfold Oper.wp;rw[et];exact h
theorem Wx{next:Act->World->Prop}{Q:Exit->Act->World->Prop}{w':World}(et: (execOp a.eval o).run P w= .ok .skip w')(h:next (a.put o.dst undef) w'):o.wp P a w next Q:=by
 unfold Oper.wp;rw[et];exact h
theorem dN.put{dst:Option Tmp}{x:Value}{d:ak}(h:ch aE a8 n os s a w)(aa:∀t,dst=some t->t<n)(ao:bg (bi aE os) os w x d)(ap:gq s dst d K):dN aE a8 n K (a.put dst x) w:=
 ⟨os,_,h.put aa ao,A2.1 ap⟩
theorem GA{d:ak}:bg A os w undef (.ca false d):=.ca (λh=>by cases h) (λ_=>rfl)
theorem q9.cC{dy:Nat->Prop}{os aT:c2}{w w':World}{arr:Array Value}{cs:List ak}(h:q9 A os w arr cs)(k:dx A dy w w')(bb:uU os aT):q9 dy aT w' arr cs:=
 ⟨h.size,h.eg,λi v d ab aa=>(h.hq i v d ab aa).cC k bb⟩
theorem y3{x:Value}{bD:aZ}: (os++ [(x,bD)])[os.length]?=some (x,bD):=by simp
theorem ch.len(h:ch aE a8 n os s a w):s.loc.length=os.length:=by rw[h.loc];simp
theorem Wy{x:Value}{bD:aZ}(h:ch aE a8 n os s a w)(aw:w.grownBy w' none)(pM:∀b,bJ x=some b->w.heap.size<=b):dx (bi aE os) (bi aE (os++ [(x,bD)])) w w':=
 .qm aw (λb ac ab=>by
  rcases Wu ab with ab| ⟨_,ab⟩;all_goals grind)
theorem Wz{t:TypeId}{arr:Array Value}{cs:List ak}(h:ch aE a8 n os s a w)(ao:q9 (bi aE os) os w arr cs):
  ch aE a8 n (os++ [(.pointer (some ⟨w.heap.size,0,none⟩),.cells t cs)]) ⟨s.env,s.loc++ [.cells t cs]⟩ a (w.alloc (.cells arr t)):=by
 have pM:∀b,bJ (.pointer (some ⟨w.heap.size,0,none⟩))=some b->w.heap.size<=b:=by
  intro b ac;simp[bJ]at ac;omega
 refine h.push (uJ w _ none) pM ?_;have l9:=ao.cC (Wy (bD:=.cells t cs) h (uJ w (.cells arr t) none) pM) (Py (.pointer (some ⟨w.heap.size,0,none⟩)) (.cells t cs));exact⟨w.heap.size,arr,rfl,e5.sH h.hv (bP _),AB w _,l9.size,l9.eg,l9.hq⟩
theorem afO(ay:dv P ag=true){t:TypeId}{Q:Exit->Act->World->Prop}(aH:o.op= .alloc t)(h:ch aE a8 n os s a w)(aa:∀t,o.dst=some t->t<n)(ae: (aF ag t).size≠0)
  (ap:gq ⟨s.env,s.loc++ [.cells t (aF ag t).zero]⟩ o.dst (.aV s.loc.length 0) K):o.wp P a w (dN aE a8 n K) Q:=by
 obtain⟨z,bx,ao,_⟩:=Kn (A:=bi aE os) (os:=os) (w:=w) ay ae;have an:=Wz (t:=t) h ao;refine jD (x:=.pointer (some ⟨w.heap.size,0,none⟩)) (w':=w.alloc (.cells z.cells t)) ?_ (dN.put an aa ?_ ap)
 ·simp only[execOp,aH,Instr.alloc,dY,bx,dT,newVar,newRow,wc,ey,wa]
 ·rw[h.len];exact .aV y3
theorem WA{t:TypeId}{x:Operand}{d:ak}{Q:Exit->Act->World->Prop}(aH:o.op= .box t x)(h:ch aE a8 n os s a w)(aa:∀t,o.dst=some t->t<n)(e:bG s x=d)(h1:∀b ck,d≠ .ca b ck)(ad:∀l,d≠ .bd l)(aN:d≠ .a1)
  (ap:gq ⟨s.env,s.loc++ [.cells t (dc d)]⟩ o.dst (.aV s.loc.length 0) K):o.wp P a w (dN aE a8 n K) Q:=by
 have ah:=h.bG x;rw[e]at ah;obtain⟨af,br,an⟩:=ah.cells h1 ad aN;have an:=Wz (t:=t) h (arr:=(a.eval x).cells) (cs:=dc d) ⟨by omega,br,λi v d ab aa=>an i v d (by grind) aa⟩;refine jD (x:=.pointer (some ⟨w.heap.size,0,none⟩)) (w':=w.alloc (.cells (a.eval x).cells t)) ?_ (dN.put an aa ?_ ap)
 ·simp only[execOp,aH,Instr.box,dY,dT,newVar,newRow,wc,ey,wa]
 ·rw[h.len];exact .aV y3
theorem Kq{g:Nat}{cs:Array Value}:w.grownBy (w.setRow g cs) (some g):=
 ⟨rfl,rfl,rfl,by simp,λk hk bu=>setRow_other w g k cs (λe=>bu (by rw[e]))⟩
theorem Kr{vs cur:List Value}{off j:Nat}(h:off+vs.length<=cur.length): (cur.take off++vs++cur.drop (off+vs.length))[j]?=if off<=j/\j<off+vs.length then vs[j-off]? else cur[j]?:=by
 have h1: (cur.take off).length=off:=by grind
 grind
theorem WB{vs cur:List Value}{off:Nat}(h:off+vs.length<=cur.length): (cur.take off++vs++cur.drop (off+vs.length)).length=cur.length:=by grind
theorem WC(ay:dv P ag=true){t:TypeId}{x y:Operand}{g off:Nat}{cur:Array Value}{ty:TypeId}(aH:o.op= .store t x y)(ae: (aF ag t).size≠0)(ah:a.eval x= .pointer (some ⟨g,off,none⟩))(cE: (a.eval y).cells.size=(aF ag t).size)(br:∀v∈ (a.eval y).cells.toList,v.oneCell'=true)
  (aw:w.heap[g]?=some (.cells cur ty (0,0))) (ht:off+(a.eval y).cells.size<=cur.size):
  (execOp a.eval o).run P w= .ok .skip (w.setRow g (cur.toList.take off++(a.eval y).cells.toList++cur.toList.drop (off+(a.eval y).cells.toList.length)).toArray):=by
 have:=OU P g off ty (a.eval y).cells.toList 0 cur w aw (by omega) br;simp only[xh]at this;have bu:¬((a.eval y).cells.size≠ (aF ag t).size):=λh=>h cE;simp only[execOp,aH,Instr.storeAt,ah,Instr.sureAddr,storeVar,dY,ey,dT,jQ ay ae,bo bu,this]
theorem WD(ay:dv P ag=true){t ty:TypeId}{x y:Operand}{i off g:Nat}{cs:List ak}{d:ak}{Q:Exit->Act->World->Prop}(aH:o.op= .store t x y)(h:ch aE a8 n os s a w)(aa:∀t,o.dst=some t->t<n)
  (ae: (aF ag t).size≠0) (ah:a.eval x= .pointer (some ⟨g,off,none⟩)) (hi:os[i]?=some (.pointer (some ⟨g,0,none⟩),.cells ty cs)) (e:bG s y=d) (h1:∀b ck,d≠ .ca b ck) (ad:∀l,d≠ .bd l) (aN:d≠ .a1)
  (cE: (dc d).length=(aF ag t).size) (ht:off+(dc d).length<=cs.length) (ap:gq ⟨s.env,gr s.loc i (.cells ty (jz cs off (dc d)))⟩ o.dst (.ca false (.v (.bool false))) K):o.wp P a w (dN aE a8 n K) Q:=by
 have bn:=h.bG y;rw[e]at bn;obtain⟨af,br,an⟩:=bn.cells h1 ad aN;obtain⟨arr,bC,auN,cr,auO,afP,_⟩:=xB h.cV hi;have hs: (a.eval y).cells.size=(dc d).length:=by omega
 have GB:off+(a.eval y).cells.toList.length<=arr.toList.length:=by grind
 have et:=WC (P:=P) (w:=w) ay aH ae ah (by omega) br bC (by omega);refine Wx et (dN.put (os:=os.set i (.pointer (some ⟨g,0,none⟩),.cells ty (jz cs off (dc d)))) (h.Gz hi (gR:=.cells ty (jz cs off (dc d))) rfl (by simp) (by simp) Kq ?_) aa GA ap);have ra:uU os (os.set i (.pointer (some ⟨g,0,none⟩),.cells ty (jz cs off (dc d)))):=by
  intro j z aU aq;by_cases e:j=i
  ·subst e;rw[hi]at aq;cases aq;exact⟨_,oS (eL.1 hi).1,rfl⟩
  ·exact⟨aU,by grind,by cases aU<;>simp[er]⟩
 have ls:dx (bi aE os) (bi aE (os.set i (.pointer (some ⟨g,0,none⟩),.cells ty (jz cs off (dc d))))) w (w.setRow g (arr.toList.take off++(a.eval y).cells.toList++arr.toList.drop (off+(a.eval y).cells.toList.length)).toArray):=by
  refine⟨by simp,λb ac ab=> ?_,λb ac aW=>setRow_other w g b _ (λe=>aW (.inr ⟨i,_,_,hi,by simp,by simp[bJ,e]⟩))⟩;rcases ab with ab| ⟨j,z,aU,aq,dp,cy⟩
  ·exact .inl ab
  ·by_cases e:j=i
   ·subst e;rw[oS (eL.1 hi).1]at aq;cases aq;exact .inr ⟨_,_,_,hi,by simp,cy⟩
   ·rw[v1 (λe'=>e e'.symm)]at aq;exact .inr ⟨j,z,aU,aq,dp,cy⟩
 refine⟨g,_,rfl,cr,JO w g arr _ ty _ bC,?_,λv ab=> ?_,λj v ck ab y2=> ?_⟩
 ·rw[JB,WB GB,J7];omega
 ·grind
 ·rw[List.getElem?_toArray,Kr GB]at ab;rw[J8 _ _ _ _ ht,<-af]at y2;split at ab
  ·rename_i aj;rw[b6 aj]at y2;exact(an _ v ck ab y2).cC ls ra
  ·rename_i aj;rw[bo aj]at y2;exact(afP j v ck (by grind) y2).cC ls ra
end
open Go
structure hS(A:Nat->Prop)(w:World)(xs:List Value)(es:List (List ak))(aB:Nat):Prop where
 len:xs.length=es.length*aB
 jP:∀r∈es,r.length=aB
 eg:∀v∈xs,v.oneCell'=true
 hq:∀ (k j:Nat) r d,es[k]?=some r->r[j]?=some d->∃v,xs[k*aB+j]?=some v/\b8 A w v d
theorem hS.cC{dy:Nat->Prop}{w w':World}{xs:List Value}{es:List (List ak)}{aB:Nat}(h:hS A w xs es aB)(k:dx A dy w w'):hS dy w' xs es aB:=
 ⟨h.len,h.jP,h.eg,λeQ j r d h1 ad=>by obtain⟨v,ab,hi⟩:=h.hq eQ j r d h1 ad;exact⟨v,ab,hi.cC k⟩⟩
variable{xs:List Value}
theorem hS.append{ys:List Value}{es fs:List (List ak)}{aB:Nat}(h:hS A w xs es aB)(bp:hS A w ys fs aB):hS A w (xs++ys) (es++fs) aB:=by
 refine⟨by rw[fv,fv,h.len,bp.len,uG],λr ao=> ?_,λv ab=> ?_,λk j r d hk aq=> ?_⟩
 ·rcases eo.1 ao with ao|ao
  ·exact h.jP r ao
  ·exact bp.jP r ao
 ·rcases eo.1 ab with ab|ab
  ·exact h.eg v ab
  ·exact bp.eg v ab
 ·by_cases ax:k<es.length
  ·rw[so ax]at hk;obtain⟨v,ab,hi⟩:=h.hq k j r d hk aq
   grind
  ·rw[xe (by omega)]at hk;obtain⟨v,ab,hi⟩:=bp.hq _ j r d hk aq;have hle:es.length*aB<=k*aB:=kJ _ (by omega);refine⟨v,?_,hi⟩;rw[xe (by rw[h.len];omega),h.len];rw[OM]at ab
   grind
variable{aB:Nat}
theorem hS.nil:hS A w [] [] aB:=⟨by simp,by simp,by simp,by simp⟩
section
variable {P:Program} {ag:dH} {aE:Nat->Prop} {a8:e5} {n:Nat} {os:c2} {s:bK} {a:Act} {w:World} {o:Oper} {K:bK->Prop} {A:Nat->Prop} {B:Nat} {H:e5}
variable{x:Value}{e:TypeId}
theorem rU{aB:Nat}{es:List (List ak)}{xs:List Value}(jB:∀b,bJ x=some b->H.mine b)(b2:w'.ownsRow 0 e aB x es.length xs)(cE:0<aB)(ao:hS A w' xs es aB):lK A os H w' x (.row e aB es):=
 ⟨jB,xs,b2,cE,ao.jP,ao.eg,ao.hq⟩
theorem DM{aB:Nat}{es:List (List ak)}(h:lK A os H w x (.row e aB es)):∀b,bJ x=some b->H.mine b:=h.1
theorem ww{aB:Nat}{es:List (List ak)}(h:lK A os H w x (.row e aB es)):∃xs,w.ownsRow 0 e aB x es.length xs/\0<aB/\hS A w xs es aB:=by
 obtain⟨_,xs,b2,cE,ao,br,kP⟩:=h;exact⟨xs,b2,cE,⟨b2.1,ao,br,kP⟩⟩
theorem PA{aB:Nat}{es:List (List ak)}{f:Bool}(cE:0<aB)(h:b8 A w x (.ar aB es f)): (x= .slice none 0 0/\es=[])\/
  ∃cI c xs,x= .slice (some cI) es.length c/\es.length<=c/\c<=maxLen/\(f=true->c=es.length)/\(es≠ []->¬A cI.block)/\(es≠ []->cI.block<w.heap.size)/\hS A w xs es aB/\∀ (j:Nat) v,xs[j]?=some v->w.cell? (cI.add j)=some v:=by
 cases h with
 |nil=>simp
 | @ar cI n c _ _ _ xs aW aj aA az Ks al ac br dD ah=>
  subst aW;obtain⟨vs,af,ab⟩:=Kk (Q:=λj v=>w.cell? (cI.add j)=some v/\v.oneCell'=true/\∀d r,es[j/aB]?=some r->r[j%aB]?=some d->b8 A w v d) (es.length*aB) (λj aq=>by
   have bV:j/aB<es.length:=(Nat.div_lt_iff_lt_mul cE).2 aq;have ao:=Ks _ (eM bV);have aA:=uH j cE;have h1:=eP bV;have ad:es[j/aB][j%aB]?=some (es[j/aB][j%aB]'(by omega)):=eP (by omega);refine⟨xs (j/aB) (j%aB),?_,br _ _,λd r aC aG=>ah _ _ _ _ aC aG⟩;have:=dD _ _ _ _ h1 ad;rwa[show j/aB*aB+j%aB=j by rw[Az];exact Nat.div_add_mod j aB]at this)
  refine .inr ⟨cI,c,vs,rfl,aj,aA,az,al,ac,⟨af,Ks,λv Kt=> ?_,λk j r d hk aq=> ?_⟩,λj v aq=>(ab j v aq).1⟩
  ·obtain⟨j,aq,rfl⟩:=e8 Kt;exact(ab j _ (eP aq)).2.1
  ·have gl:=(eL.1 hk).1;have hc:=Ks _ (fo hk);have gT:=(eL.1 aq).1;have ax:k*aB+j<vs.length:=by
    rw[af];have: (k+1) *aB<=es.length*aB:=kJ _ (by omega)
    grind
   grind
theorem A4{aB:Nat}{es:List (List ak)}{xs:List Value}(b2:w.ownsRow B e aB x es.length xs): (x= .slice none 0 0/\es=[]/\xs=[])\/
  ∃g c,x= .slice (some ⟨g,0,none⟩) es.length c/\es.length<=c/\c<=maxLen/\B<=g/\g<w.heap.size/\∀ (j:Nat) v,xs[j]?=some v->w.cell? (Addr.add ⟨g,0,none⟩ j)=some v:=by
 rcases b2.2 with⟨rfl,aW⟩| ⟨g,cap,cur,rfl,cr,bC,h1,ad,_⟩
 ·have:es=[]:=Ov aW;subst this;exact .inl ⟨rfl,rfl,Ov (by simpa using b2.1)⟩
 ·exact .inr ⟨g,cap,rfl,h1,ad,cr,(xa.1 bC).1,b2.cells (g:=g) rfl⟩
theorem PB{d:ak}{e:TypeId}{K:List (List ak)->Bool->Prop}(ae: (aF ag e).size≠0)(hO:yL A os H w)(ah:bg A os w x d)(h:tz ag e (os.map (·.2)) d K):
  ∃ys mF,K ys mF/\((x= .slice none 0 0/\ys=[])\/∃cI c xs,x= .slice (some cI) ys.length c/\hS A w xs ys (aF ag e).size/\∀ (j:Nat) v,xs[j]?=some v->w.cell? (cI.add j)=some v):=by
 unfold tz at h;split at h
 ·exact⟨_,_,h,.inl ⟨ah.o0,rfl⟩⟩
 ·rename_i aB es f;split at h
  ·rename_i ac;have ac:=fz ac;subst ac;rcases PA (tn ae) ah.nB with⟨rfl,rfl⟩| ⟨cI,c,xs,rfl,_,_,_,_,_,ao,aj⟩;all_goals grind
  grind
 ·rename_i j;split at h
  ·rename_i aG aB es af;split at h
   ·rename_i ac;have ac:=fz ac;subst ac;obtain⟨x',ku⟩:=kO af (by simp);have nd:=ah.q6 ku;subst nd;obtain⟨xs,b2,_,ao⟩:=ww (hO _ _ _ ku);rcases A4 b2 with⟨rfl,rfl,rfl⟩| ⟨g,c,rfl,_,_,_,_,aj⟩;all_goals grind
   grind
  grind
 grind
theorem GC(ay:dv P ag=true){t ty e:TypeId}(hk: (aF ag t).k= .fc e)(ae: (aF ag e).size≠0){base:Nat}{v:Value}{m:Nat}{xs news:List Value}(b2:w.ownsRow base e (aF ag e).size v m xs)
  {cI:Addr} {k c:Nat} (af:news.length=k* (aF ag e).size) (ov:∀ (j:Nat) u,news[j]?=some u->w.cell? (cI.add j)=some u) (h1:∀u∈news,u.oneCell'=true) (az:kp ag e (m+k)) (afQ:base<=w.heap.size):
  ∃v' w',(Builtin.append_ #[t,t] ty #[v,.slice (some cI) k c]).run P w= .ok v' w'/\w'.ownsRow base e (aF ag e).size v' (m+k) (xs++news)/\w.grownBy w' (bJ v)/\(∀b,bJ v'=some b->bJ v=some b\/w.heap.size<=b):=by
 obtain⟨i,hi,cE,iY,z,bx,nT,nf⟩:=rT ay ae;have hu:=lL ay hk;have A5:z.cells.size=(aF ag e).size:=by rw[<-nf];simpa using(uV (A:=λ_=>False) (w:=w) nT).1
 have lp:v.ownBlock=bJ v:=by
  rcases b2.2 with⟨rfl,_⟩| ⟨g,cap,cur,rfl,_⟩<;>rfl
 obtain⟨v',w',ao,aH,aw,_⟩:=run_append_own (P:=P) w base t ty e i z _ _ hu hi bx cE iY A5 (tn ae) v m xs b2 cI k c news af ov h1 az.2 az.1 afQ;rw[lp]at aw;refine⟨v',w',ao,aH,aw,?_⟩;rcases b2.2 with⟨rfl,rfl⟩| ⟨g,cap,cur,rfl,auP,bC,rV,qs,lN,Ku⟩
 ·by_cases GD:k=0
  ·grind
  ·have:=run_append_nil (P:=P) w t ty e i z hu hi bx cI k c news (by grind) ov (by omega) (by have:=az.2;simp only[maxLen]at this;omega) (by have:=az.1;grind);rw[this]at ao;cases ao;intro b ac;simp[bJ]at ac;omega
 ·by_cases WE:m+k<=cap
  ·have ht:m*i.size+news.length<=cur.size:=by rw[af,lN,cE,<-uG];exact kJ _ WE
   have:=run_append_room (P:=P) w t ty e i hu hi g m cap cur bC cI k c news (by grind) ov h1 WE ht;rw[this]at ao;cases ao;intro b ac;exact .inl ac
  ·have holds:∀ (j:Nat) u,xs[j]?=some u->w.cell? ((⟨g,0,none⟩:Addr).add j)=some u:=b2.cells (g:=g) rfl;have:=OS (P:=P) w t ty e i z hu hi bx ⟨g,0,none⟩ m cap xs (by rw[b2.1,cE]) holds cI k c news (by grind) ov (by omega) (by have:=az.2;simp only[maxLen]at this;omega) (by rw[iY];exact OR (by omega) az.1);rw[this]at ao;cases ao;intro b ac;simp[bJ]at ac;omega
theorem DN{aB:Nat}{es:List (List ak)}{xs:List Value}(h:ch aE a8 n os s a w)(aw:w.grownBy w' none)(pM:∀b,bJ x=some b->w.heap.size<=b)
  (b2:w'.ownsRow 0 e aB x es.length xs) (cE:0<aB) (ao:hS (bi aE os) w xs es aB):ch aE a8 n (os++ [(x,.row e aB es)]) ⟨s.env,s.loc++ [.row e aB es]⟩ a w':=
 h.push aw pM (rU (λb ac=>e5.sH h.hv (pM b ac)) b2 cE (ao.cC (Wy (bD:=.row e aB es) h aw pM)))
theorem wx{v:Value}{m:Nat}{e:TypeId}{aB:Nat}{xs:List Value}(b2:w.ownsRow B e aB v m xs):v.oneCell'=true:=by
 rcases b2.2 with⟨rfl,_⟩| ⟨g,cap,cur,rfl,_⟩<;>rfl
theorem afR{v:Value}{m DO:Nat}{e:TypeId}{aB:Nat}{xs:List Value}(b2:w.ownsRow B e aB v m xs)(h:DO<=B):w.ownsRow DO e aB v m xs:=by
 refine⟨b2.1,?_⟩;rcases b2.2 with aW| ⟨g,cap,cur,e,cr,rest⟩
 ·grind
 ·exact .inr ⟨g,cap,cur,e,bQ h cr,rest⟩
variable{t:TypeId}
theorem WF{eD:TypeId}{x y:Operand}{args:Array Operand}{fg:Array TypeId}(aH:o.op= .call {callee:=.builtin .append,args:=args,argTypes:=fg})(bb:args.toList=[x,y])(iO:fg.toList=[t,eD])(lO:t=eD){r:Value}{w':World}
  (ao: (Builtin.append_ #[t,t] o.type #[a.eval x,a.eval y]).run P w= .ok r w'): (execOp a.eval o).run P w= .ok (.value r) w':=by
 obtain rfl:args= #[x,y]:=by grind
 subst lO;obtain rfl:fg= #[t,t]:=by grind
 simp only[execOp,aH,resolve,invoke,builtin,dY,ey,dT,C5,om,xg,ao]
theorem DP{ty e:TypeId}(ay:dv P ag=true)(hk: (aF ag t).k= .fc e)(ae: (aF ag e).size≠0){cI:Option Addr}{m c:Nat}(PC:m<=c):
  (Builtin.append_ #[t,t] ty #[.slice cI m c,.slice none 0 0]).run P w= .ok (.slice cI m c) w:=by
 obtain⟨i,hi,cE,_⟩:=rT ay ae;have hu:=lL ay hk;cases cI<;>simp[Builtin.append_,gE hu,sizeOf,typeInfo,hi,Builtin.lenOf,Builtin.firstCells,PC,storeCells]
theorem WG{ty e:TypeId}(ay:dv P ag=true)(hk: (aF ag t).k= .fc e)(ae: (aF ag e).size≠0){cI lM:Option Addr}{m c fA:Nat}(PC:m<=c):
  (Builtin.append_ #[t,t] ty #[.slice cI m c,.slice lM 0 fA]).run P w= .ok (.slice cI m c) w:=by
 obtain⟨i,hi,cE,_⟩:=rT ay ae;have hu:=lL ay hk;cases cI<;>cases lM<;>simp[Builtin.append_,gE hu,sizeOf,typeInfo,hi,Builtin.lenOf,Builtin.firstCells,PC,storeCells,loadCells,loadCellsFrom]
abbrev Kv(A:Nat->Prop)(w:World)(aB:Nat)(y:Value)(ys:List (List ak)):Prop:=
 (y= .slice none 0 0/\ys=[])\/∃cI c xs,y= .slice (some cI) ys.length c/\hS A w xs ys aB/\∀ (j:Nat) v,xs[j]?=some v->w.cell? (cI.add j)=some v
theorem WH(ay:dv P ag=true){t ty e:TypeId}(hk: (aF ag t).k= .fc e)(ae: (aF ag e).size≠0){y:Value}{ys:List (List ak)}(ht:kp ag e ys.length)(bn:Kv A w (aF ag e).size y ys):
  ∃v' w' xs,(Builtin.append_ #[t,t] ty #[.slice none 0 0,y]).run P w= .ok v' w'/\w'.ownsRow 0 e (aF ag e).size v' ys.length xs/\w.grownBy w' none/\(∀b,bJ v'=some b->w.heap.size<=b)/\hS A w xs ys (aF ag e).size:=by
 rcases bn with⟨rfl,rfl⟩| ⟨cI,c,news,rfl,ao,aj⟩
 ·exact⟨_,_,[],DP ay hk ae (bP 0),⟨by simp,.inl ⟨rfl,rfl⟩⟩,grownBy.uY w none,by simp[bJ],.nil⟩
 ·obtain⟨v',w',et,b2,aw,ac⟩:=GC (P:=P) (ty:=ty) ay hk ae (JK w 0 e (aF ag e).size) ao.len aj ao.eg (by grind) (bX _);rw[uI,nS]at b2;exact⟨v',w',news,et,b2,aw,λb sG=>by rcases ac b sG with h1|h1;simp[bJ]at h1;exact h1,ao⟩
theorem afS(ay:dv P ag=true){t ty e:TypeId}(hk: (aF ag t).k= .fc e)(ae: (aF ag e).size≠0){x y:Value}{es ys:List (List ak)}{xs:List Value}(b2:w.ownsRow 0 e (aF ag e).size x es.length xs)(j4:hS A w xs es (aF ag e).size)
  (ht:kp ag e (es.length+ys.length)) (bn:Kv A w (aF ag e).size y ys):
  ∃v' w' PD,(Builtin.append_ #[t,t] ty #[x,y]).run P w= .ok v' w'/\w'.ownsRow 0 e (aF ag e).size v' (es++ys).length PD/\w.grownBy w' (bJ x)/\(∀b,bJ v'=some b->bJ x=some b\/w.heap.size<=b)/\hS A w PD (es++ys) (aF ag e).size:=by
 rcases bn with⟨rfl,rfl⟩| ⟨cI,c,news,rfl,ao,aj⟩
 ·have et: (Builtin.append_ #[t,t] ty #[x,.slice none 0 0]).run P w= .ok x w:=by
   rcases A4 b2 with⟨ab,_,_⟩| ⟨g,Kw,ab,hle,_⟩
   ·rw[ab];exact DP ay hk ae (bP 0)
   ·rw[ab];exact DP ay hk ae hle
  exact⟨x,w,xs,et,by grind,grownBy.uY _ _,λb ac=>.inl ac,by grind⟩
 ·obtain⟨v',w',et,wy,aw,ac⟩:=GC (P:=P) (ty:=ty) ay hk ae b2 ao.len aj ao.eg ht (bX _);exact⟨v',w',xs++news,et,by grind,aw,ac,j4.append ao⟩
theorem WI(ay:dv P ag=true){t ty e:TypeId}(hk: (aF ag t).k= .fc e)(ae: (aF ag e).size≠0){x y:Value}{es ys:List (List ak)}(ah:b8 A w x (.ar (aF ag e).size es true))
  (ht:kp ag e (es.length+ys.length)) (bn:Kv A w (aF ag e).size y ys) (wz:0<ys.length):
  ∃v' w' xs,(Builtin.append_ #[t,t] ty #[x,y]).run P w= .ok v' w'/\w'.ownsRow 0 e (aF ag e).size v' (es++ys).length xs/\w.grownBy w' none/\(∀b,bJ v'=some b->w.heap.size<=b)/\hS A w xs (es++ys) (aF ag e).size:=by
 have fx:=tn ae;rcases bn with⟨rfl,rfl⟩| ⟨cI,c,news,rfl,ao,aj⟩
 ·grind
 ·rcases PA fx ah with⟨rfl,rfl⟩| ⟨lM,fA,xs,rfl,hle,aA,az,_,_,j4,y4⟩
  ·obtain⟨v',w',xs,h1,ad,aN,bt,b5⟩:=WH (P:=P) (ty:=ty) (A:=A) (w:=w) ay hk ae (ys:=ys) (y:=.slice (some cI) ys.length c) (by grind) (.inr ⟨cI,c,news,rfl,ao,aj⟩)
   grind
  ·have A6:=az rfl;obtain⟨i,hi,cE,iY,z,bx,nT,nf⟩:=rT ay ae;have hu:=lL ay hk;have A5:z.cells.size=(aF ag e).size:=by rw[<-nf];simpa using(uV (A:=λ_=>False) (w:=w) nT).1
   have et:=OS (P:=P) w t ty e i z hu hi bx lM es.length fA xs (by rw[j4.len,cE]) y4 cI ys.length c news (by rw[ao.len,cE]) aj (by omega) (by have:=ht.2;simp only[maxLen]at this;omega) (by rw[iY];exact OR (by omega) ht.1);refine⟨_,_,xs++news,et,⟨by rw[(j4.append ao).len],.inr ⟨w.heap.size,_,_,by rw[fv],bX _,AB w.drew _,?_,?_,?_,?_⟩⟩,⟨rfl,rfl,rfl,by simp,λdh mG _=>(uJ w.drew _ none).block dh mG (by simp)⟩,λb ac=>by simp[bJ]at ac;omega,j4.append ao⟩
   ·rw[fv];exact JN w _ _ e
   ·exact grownCap_le_maxLen w _ _ e ht.2
   ·have fp:=JN w (es.length+ys.length) fA e;simp only[Array.size_append,JB,size_zeroCells,A5,j4.len,ao.len,<-uG]
    grind
   ·simp only[vV,km];rw[<-km,<-(j4.append ao).len]
    grind
theorem WJ(ay:dv P ag=true){t eD e:TypeId}{x y:Operand}{args:Array Operand}{fg:Array TypeId}{Q:Exit->Act->World->Prop}(aH:o.op= .call {callee:=.builtin .append,args:=args,argTypes:=fg})(bb:args.toList=[x,y])(iO:fg.toList=[t,eD])(lO:t=eD)
  (hk: (aF ag t).k= .fc e) (ae: (aF ag e).size≠0) (h:ch aE a8 n os s a w) (aa:∀t,o.dst=some t->t<n) (ap:JX ag e s o.dst (bG s x) (bG s y) K):o.wp P a w (dN aE a8 n K) Q:=by
 unfold JX at ap;rw[h.loc]at ap;obtain⟨ys,mF,ap,bn⟩:=PB ae h.cV (h.bG y) ap;have ah:=h.bG x;have fx:=tn ae;have exec:=λ{r:Value} {w':World}=>WF (P:=P) (w:=w) (a:=a) (r:=r) (w':=w') aH bb iO lO;split at ap
 ·-- nil base
  rename_i eb;rw[eb]at ah;have kN:=ah.o0;obtain⟨ht,ap⟩:=ap;rcases bn with⟨k2,rfl⟩| ⟨cI,c,news,k2,ao,aj⟩
  ·have et:=DP (w:=w) (ty:=o.type) ay hk ae (cI:=none) (bP 0);refine jD (exec (by rw[kN,k2];omega)) ?_;have an:=DN (x:=.slice none 0 0) (e:=e) (aB:=(aF ag e).size) (es:=[]) (xs:=[]) h (grownBy.uY w none) (by simp[bJ]) ⟨by simp,.inl ⟨rfl,rfl⟩⟩ fx .nil;rw[<-h.loc]at ap;exact dN.put an aa (by rw[h.len];exact .own y3 rfl) ap
  ·obtain⟨v',w',et,b2,aw,ac⟩:=GC (P:=P) (ty:=o.type) ay hk ae (JK w 0 e (aF ag e).size) ao.len aj ao.eg (by grind) (bX _);rw[uI,nS]at b2;refine jD (exec (by rw[kN,k2];omega)) ?_;have an:=DN (es:=ys) h aw (λb sG=>by rcases ac b sG with h1|h1;simp[bJ]at h1;exact h1) b2 fx ao;rw[<-h.loc]at ap;exact dN.put an aa (by rw[h.len];exact .own y3 (wx b2)) ap
 ·-- a row of DQ afT own
  rename_i i eb;rw[eb]at ah;split at ap
  ·rename_i bc aB gm af;split at ap
   ·rename_i ac;simp only[cq]at ac;have nD:=fz ac.1;have hf:=fz ac.2;subst nD;subst hf;obtain⟨x',hi⟩:=kO af (by simp);have nd:=ah.q6 hi;subst nd;obtain⟨ht,ap⟩:=ap;obtain⟨xs,b2,_,j4⟩:=ww (h.cV _ _ _ hi);have nc:∀ {v':Value} {w':World} {news:List Value},(Builtin.append_ #[t,t] o.type #[a.eval x,a.eval y]).run P w= .ok v' w'->w'.ownsRow 0 bc (aF ag bc).size v' (gm.length+ys.length) (xs++news)->w.grownBy w' (bJ (a.eval x))->
      (∀b,bJ v'=some b->bJ (a.eval x)=some b\/w.heap.size<=b)->hS (bi aE os) w news ys (aF ag bc).size->o.wp P a w (dN aE a8 n K) Q:=by
     intro v' w' news et wy aw ac ao;refine jD (exec et) ?_;have jE:=h.sub (i:=i) (r:=.a1) (x':=v') (gR:=.row bc (aF ag bc).size (gm++ys)) hi aw (λb _ cy=>ac b cy) (λaT PE=> ?_) (λaT _=>.bT .a1)
     ·have lu:gq ⟨pC (sy i .a1) s.env,gr (oU (kK i .a1) s.loc) i (.row bc (aF ag bc).size (gm++ys))⟩ o.dst (.own i) K:=ap;refine dN.put jE aa (.own (e:=bc) (aB:=(aF ag bc).size) (es:=gm++ys) ?_ (wx wy)) lu
      grind
     ·have ls:dx (bi aE os) (bi aE aT) w w':=by
       refine⟨aw.size,λb lp ab=> ?_,λb lp aW=>aw.block b lp (λe=>aW (.inr ⟨i,_,_,hi,by simp,e.symm⟩))⟩;rcases ab with ab| ⟨j,z,aU,aq,dp,cy⟩
       ·exact .inl ab
       ·rw[PE]at aq;by_cases e:j=i
        ·subst e;rw[oS (by grind)]at aq;cases aq;rcases ac b cy with ad|ad
         ·exact .inr ⟨_,_,_,hi,by simp,ad⟩
         ·omega
        ·rw[v1 (λe'=>e e'.symm),e7]at aq;cases ne:os[j]? with
         |none=>grind
         |some p=>
          rw[ne]at aq;cases aq;exact .inr ⟨j,_,_,ne,λe=>dp (by rw[e];rfl),cy⟩
      exact rU (es:=gm++ys) (λb cy=>(ac b cy).elim (DM (h.cV _ _ _ hi) b) (e5.sH h.hv)) (by grind) fx ((j4.append ao).cC ls)
    rcases bn with⟨k2,rfl⟩| ⟨cI,c,news,k2,ao,aj⟩
    ·have et: (Builtin.append_ #[t,t] o.type #[a.eval x,a.eval y]).run P w= .ok (a.eval x) w:=by
      rw[k2];rcases A4 b2 with⟨ab,_,_⟩| ⟨g,Kw,ab,hle,_⟩
      ·rw[ab];exact DP ay hk ae (bP 0)
      ·rw[ab];exact DP ay hk ae hle
     exact nc (news:=[]) et (by grind) (grownBy.uY _ _) (λb ac=>.inl ac) .nil
    ·obtain⟨v',w',et,wy,aw,ac⟩:=GC (P:=P) (ty:=o.type) ay hk ae b2 ao.len aj ao.eg ht (bX _);exact nc (by rw[k2];omega) wy aw ac ao
   grind
  grind
 ·-- a list afU spare room
  rename_i aB es eb;rw[eb]at ah;split at ap
  ·rename_i ac;have ac:=fz ac;subst ac;obtain⟨ht,ap⟩:=ap;have qt:=PA fx ah.nB;have WK:∀ {cI:Addr} {c:Nat} {news:List Value},a.eval y= .slice (some cI) ys.length c->hS (bi aE os) w news ys (aF ag e).size->(∀ (j:Nat) v,news[j]?=some v->w.cell? (cI.add j)=some v)->0<ys.length->
     ∃v' w' xs,(Builtin.append_ #[t,t] o.type #[a.eval x,a.eval y]).run P w= .ok v' w'/\w'.ownsRow w.heap.size e (aF ag e).size v' (es++ys).length xs/\w.grownBy w' none/\hS (bi aE os) w xs (es++ys) (aF ag e).size:=by
    intro cI c news k2 ao aj wz;rcases qt with⟨kN,rfl⟩| ⟨lM,fA,xs,kN,hle,aA,az,_,_,j4,y4⟩
    ·obtain⟨v',w',et,b2,aw,ac⟩:=GC (P:=P) (ty:=o.type) ay hk ae (JK w w.heap.size e (aF ag e).size) ao.len aj ao.eg (by omega) (bP _);rw[uI,nS]at b2;exact⟨v',w',news,by rw[kN,k2];omega,b2,aw,ao⟩
    ·have A6:=az rfl;obtain⟨i,hi,cE,iY,z,bx,nT,nf⟩:=rT ay ae;have hu:=lL ay hk;have A5:z.cells.size=(aF ag e).size:=by rw[<-nf];simpa using(uV (A:=λ_=>False) (w:=w) nT).1
     have et:=OS (P:=P) w t o.type e i z hu hi bx lM es.length fA xs (by rw[j4.len,cE]) y4 cI ys.length c news (by rw[ao.len,cE]) aj (by omega) (by have:=ht.2;simp only[maxLen]at this;omega) (by rw[iY];exact OR (by omega) ht.1);refine⟨_,_,xs++news,by rw[kN,k2];omega,⟨by rw[(j4.append ao).len],.inr ⟨w.heap.size,_,_,by rw[fv],bP _,AB w.drew _,?_,?_,?_,?_⟩⟩,⟨rfl,rfl,rfl,by simp,λdh mG _=>(uJ w.drew _ none).block dh mG (by simp)⟩,j4.append ao⟩
     ·rw[fv];exact JN w _ _ e
     ·exact grownCap_le_maxLen w _ _ e ht.2
     ·have fp:=JN w (es.length+ys.length) fA e;simp only[Array.size_append,JB,size_zeroCells,A5,j4.len,ao.len,<-uG]
      grind
     ·simp only[vV,km];rw[<-km,<-(j4.append ao).len]
      grind
   split at ap
   ·obtain⟨wz,ap⟩:=ap;rcases bn with⟨k2,rfl⟩| ⟨cI,c,news,k2,ao,aj⟩
    ·grind
    ·obtain⟨v',w',xs,et,b2,aw,xF⟩:=WK k2 ao aj wz;refine jD (exec et) ?_;have an:=DN (es:=es++ys) h aw (λb sG=>by
      rcases A4 b2 with⟨rfl,_⟩| ⟨g,Kw,rfl,_,_,cr,_⟩
      ·grind
      ·simp[bJ]at sG;omega) (afR b2 (bX _)) fx xF
     rw[<-h.loc]at ap;exact dN.put an aa (by rw[h.len];exact .own y3 (wx b2)) ap
   ·by_cases wz:ys=[]
    ·subst wz;have et: (Builtin.append_ #[t,t] o.type #[a.eval x,a.eval y]).run P w= .ok (a.eval x) w:=by
      have Kx:∃lM fA,a.eval y= .slice lM 0 fA:=by
       grind
      obtain⟨lM,fA,k2⟩:=Kx;rw[k2];rcases qt with⟨kN,_⟩| ⟨auQ,eR,xs,kN,hle,_⟩
      ·rw[kN];exact WG ay hk ae (bP 0)
      ·rw[kN];exact WG ay hk ae hle
     refine jD (exec et) (dN.put h aa ?_ ap);rw[jM];have lq:=ah.nB;generalize a.eval x=PF at lq;cases lq with
     |ar xs aW aj aA az cE al ac br dD pL=>exact .bT (.ar xs aW aj aA (by simp) cE al ac br dD pL)
     |nil=>exact .bT .nil
    ·rcases bn with⟨k2,aW⟩| ⟨cI,c,news,k2,ao,aj⟩
     ·grind
     ·obtain⟨v',w',xs,et,b2,aw,xF⟩:=WK k2 ao aj (Au.2 wz);refine jD (exec et) (dN.put (h.qm aw) aa ?_ ap);have WL:=xF.cC (dx.qm (A:=bi aE os) (dy:=bi aE os) aw (λ_ _ h=>h));rcases A4 b2 with⟨rfl,ow,_⟩| ⟨g,Kw,rfl,hle,aA,cr,rb,dD⟩
      ·grind
      ·have al:¬bi aE os g:=by
        rintro(h1| ⟨j,z,aU,aq,dp,cy⟩)
        ·have:=h.DK h1;omega
        ·have:=((h.cV j z aU aq).iX dp cy).2;omega
       refine .bT (.ar (λk j=>xs.getD (k* (aF ag e).size+j) .nilFunc) rfl hle aA (by simp) xF.jP (λ_=>al) (λ_=>rb) (λk j=> ?_) (λk j r d h1 ad=> ?_) (λk j r d h1 ad=> ?_))
       ·cases bV:xs[k* (aF ag e).size+j]? with
        |none=>simp[List.getD,bV];rfl
        |some v=>simp[List.getD,bV];exact xF.eg v (fo bV)
       ·obtain⟨v,ab,_⟩:=WL.hq k j r d h1 ad
        grind
       ·obtain⟨v,ab,hi⟩:=WL.hq k j r d h1 ad
        grind
  grind
 grind
end
open Go
section
variable {P:Program} {ag:dH} {aE:Nat->Prop} {a8:e5} {n:Nat} {os:c2} {s:bK} {a:Act} {w:World} {o:Oper} {K:bK->Prop} {A:Nat->Prop} {B:Nat} {H:e5}
theorem GF{z:Array Value}{zero:List ak}{m N:Nat}(bx:q9 A os w z zero)(auR:∀ (i:Nat) v d,z[i]?=some v->zero[i]?=some d->b8 A w v d)(fx:0<zero.length)(aA:m<=N):
  hS A w ((madeCells z (N*zero.length)).toList.take (m*zero.length)) (List.replicate m zero) zero.length:=by
 have hle:m*zero.length<=N*zero.length:=kJ _ aA;have A5:=bx.size;have aw:∀q,q<N*zero.length->(madeCells z (N*zero.length))[q]?=some (z[q%z.size]!):=by
  intro q bV;simp[madeCells,bV]
 have afV:∀q,z[q%z.size]?=some (z[q%z.size]!):=by
  intro q;have:q%z.size<z.size:=uH _ (by omega)
  grind
 have xG: (madeCells z (N*zero.length)).toList.length=N*zero.length:=(CW (xs:=madeCells z (N*zero.length))).trans (Db _ _);refine⟨by grind,λr ao=>by grind,λv ab=> ?_,λk j r d hk aq=> ?_⟩
 ·obtain⟨q,bV,rfl⟩:=e8 ab;have h1:=eP bV;rw[rK]at h1;split at h1
  ·rw[xb,aw q (by omega)]at h1;rw[<-v7 h1];have:=afV q;rw[<-xb]at this;exact bx.eg _ (fo this)
  grind
 ·have gl:k<m:=by grind
  have ao:r=zero:=by grind
  subst ao;have gT:=(eL.1 aq).1;have h1: (k+1) *r.length<=m*r.length:=kJ _ (by omega);rw[uG,FV]at h1;refine⟨z[(k*r.length+j)%z.size]!,?_,?_⟩
  ·grind
  ·have Ky: (k*r.length+j)%z.size=j:=by
    rw[A5,Az,Nat.mul_add_mod,ss gT]
   grind
theorem afW(ay:dv P ag=true){t e:TypeId}{l c:Operand}{y5 tE:IntKind}{m N:Nat}{Q:Exit->Act->World->Prop}(aH:o.op= .makeSlice t l c)(hk: (aF ag t).k= .fc e)(ae: (aF ag e).size≠0)
  (h:ch aE a8 n os s a w) (aa:∀t,o.dst=some t->t<n) (af:a.eval l= .int y5 m) (aj:a.eval c= .int tE N) (A7:m<=N) (ac:N* (aF ag e).bytes<=140737488355328) (c5:N<=maxLen)
  (ap:gq ⟨s.env,s.loc++ [.row e (aF ag e).size (List.replicate m (aF ag e).zero)]⟩ o.dst (.own s.loc.length) K):o.wp P a w (dN aE a8 n K) Q:=by
 obtain⟨i,hi,cE,iY,z,bx,nT,nf⟩:=rT ay ae;have hu:=lL ay hk;obtain⟨h1,ad,aN⟩:=uV (A:=bi aE os) (w:=w) nT;have xH:q9 (bi aE os) os w z.cells (aF ag e).zero:=⟨by omega,ad,λi v d ab aa=>.bT (aN i v d (by grind) aa)⟩
 have A8: (N:Int)<=9223372036854775807:=by simp only[maxLen]at c5;omega
 have et:=run_make (P:=P) w t e i z hu hi bx y5 tE m N (by omega) (by omega) (by
  grind) A8
 simp only[lH,cE]at et;have fx:=tn ae;have fj:=GF (N:=N) (m:=m) xH (λi v d ab aa=>aN i v d (by grind) aa) (by omega) A7;rw[nf]at fj;have hlen: (List.replicate m (aF ag e).zero).length=m:=by simp
 have an:=DN (w':=w.alloc (.cells (madeCells z.cells (N* (aF ag e).size)) e)) (x:=.slice (some ⟨w.heap.size,0,none⟩) m N) (e:=e) (aB:=(aF ag e).size) h (uJ w _ none) (λb ac=>by simp[bJ]at ac;omega)
  (xs:=(madeCells z.cells (N* (aF ag e).size)).toList.take (m* (aF ag e).size)) ⟨by rw[fj.len],.inr ⟨w.heap.size,N,_,by simp,bX _,AB w _,by omega,c5,Db _ _,by simp⟩⟩ fx fj
 refine jD (x:=.slice (some ⟨w.heap.size,0,none⟩) m N) (w':=w.alloc (.cells (madeCells z.cells (N* (aF ag e).size)) e)) ?_ (dN.put an aa (by rw[h.len];exact .own y3 rfl) ap);simp only[execOp,aH,af,aj,dY,et,dT,ey]
variable{x:Value}
theorem Kz{e:TypeId}{aB:Nat}{es:List (List ak)}(h:lK A os H w x (.row e aB es))(al:∀b,dy b->A b)(ah:∀b,bJ x=some b->¬dy b):b8 dy w x (.ar aB es false):=by
 obtain⟨xs,b2,cE,ao⟩:=ww h;rcases A4 b2 with⟨rfl,rfl,_⟩| ⟨g,c,rfl,hle,aA,cr,aw,aj⟩
 ·exact .nil
 ·have l9:=ao.cC (dy:=dy) (w':=w) (dx.ib al);refine .ar (λk j=>xs.getD (k*aB+j) .nilFunc) rfl hle aA (by simp) ao.jP (λ_=>ah g rfl) (λ_=>aw) (λk j=> ?_) (λk j r d h1 ad=> ?_) (λk j r d h1 ad=> ?_)
  ·cases bV:xs[k*aB+j]? with
   |none=>simp[List.getD,bV];rfl
   |some v=>simp[List.getD,bV];exact ao.eg v (fo bV)
  ·obtain⟨v,ab,_⟩:=ao.hq k j r d h1 ad
   grind
  ·obtain⟨v,ab,hi⟩:=l9.hq k j r d h1 ad
   grind
theorem ch.jO{e:TypeId}{aB:Nat}{es:List (List ak)}(h:ch aE a8 n os s a w)(hi:os[i]?=some (x,.row e aB es)):
  ch aE a8 n ((os.map λp=>(p.1,gw (kK i (.ar aB es false)) p.2)).set i (x,.bm)) (s.jO i aB es) a w/\
  ∀b,bi aE ((os.map λp=>(p.1,gw (kK i (.ar aB es false)) p.2)).set i (x,.bm)) b->bi aE os b/\bJ x≠some b:=by
 have fK:∀b,bi aE ((os.map λp=>(p.1,gw (kK i (.ar aB es false)) p.2)).set i (x,.bm)) b->bi aE os b/\bJ x≠some b:=by
  intro b ac;rcases ac with ac| ⟨j,z,aU,aq,dp,cy⟩
  ·refine⟨.inl ac,λe'=> ?_⟩;exact h.a0 b ac ((h.cV i _ _ hi).iX (by simp) e').1
  ·by_cases e':j=i
   ·grind
   ·rw[v1 (λaG=>e' aG.symm),e7]at aq;cases ne:os[j]? with
    |none=>grind
    |some p=>
     rw[ne]at aq;cases aq;have kv:p.2≠ .bm:=λaG=>dp (by rw[aG];rfl);exact⟨.inr ⟨j,_,_,ne,kv,cy⟩,λaG=>e' (h.inj j i _ _ _ _ b ne hi kv (by simp) cy aG)⟩
 refine⟨h.sub (w':=w) (x':=x) (gR:=.bm) (r:=.ar aB es false) hi (grownBy.uY _ _) (λb aa=>absurd rfl aa) (λ_ _=>trivial) (λaT mE=> ?_),fK⟩;subst mE;exact .bT (Kz (h.cV i _ _ hi) (λb ac=>(fK b ac).1) (λb ac ad=>(fK b ad).2 ac))
theorem ch.afX{aT:c2}{s':bK}(h:ch aE a8 n os s a w)(φ WM:ak->ak)
  (A1:∀ {z:Value} {d:ak},bg (bi aE os) os w z d->(z.oneCell'=true->bg (bi aE aT) aT w z (φ d))/\bg (bi aE aT) aT w z (WM d))
  (k:dx (bi aE os) (bi aE aT) w w) (mE:∀ (i:Nat) z aU,aT[i]?=some (z,aU)->aU= .bm\/∃dw,os[i]?=some (z,dw)/\aU=gw φ dw)
  (tF:s'.loc=aT.map (·.2)) (afY:∀t,look s'.env t=WM (look s.env t)):ch aE a8 n aT s' a w:=by
 refine⟨h.size,h.defers,h.hv,h.a0,tF,λt=>by rw[afY];exact(A1 (h.env t)).2,λi z aU hi=> ?_,λi j x o y aU b hi aq d1 d2 cY cZ=> ?_⟩
 ·rcases mE i z aU hi with rfl| ⟨dw,h1,rfl⟩
  ·exact trivial
  ·have j3:=h.cV _ _ _ h1;cases dw with
   |bm=>exact trivial
   |gone=>exact j3
   |cD ds=>
    obtain⟨aC,aG,bc,cn⟩:=j3;refine⟨aC,by grind,bc,λA3 v d ab aa=> ?_⟩
    grind
   |cells t cs=>
    obtain⟨g,arr,rfl,cr,bC,ae,br,j4⟩:=j3;refine⟨g,arr,rfl,cr,bC,by grind,br,λjk v d ab aa=> ?_⟩
    grind
   |row aG tD wv=>
    obtain⟨jB,xs,b2,cE,hc,br,ao⟩:=j3;exact⟨jB,xs,b2,cE,hc,br,λeQ jk r d h1 ad=>by
     obtain⟨v,ab,hi⟩:=ao eQ jk r d h1 ad;exact⟨v,ab,hi.cC k⟩⟩
 ·have dp:∀dw:aZ,gw φ dw≠ .bm->dw≠ .bm:=by intro dw;cases dw<;>simp[gw]
  rcases mE i x o hi with rfl| ⟨dw,h1,rfl⟩
  ·grind
  ·rcases mE j y aU aq with rfl| ⟨fV,ad,rfl⟩
   ·grind
   ·exact h.inj i j x dw y fV b h1 ad (dp _ d1) (dp _ d2) cY cZ
theorem ch.JT{t:TypeId}{cs:List ak}(h:ch aE a8 n os s a w)(hi:os[i]?=some (x,.cells t cs))(ez:pB cs=true):
  ch aE a8 n ((os.map λp=>(p.1,gw (mY i cs) p.2)).set i (x,.bm)) (s.JT i cs) a w/\
  ∀b,bi aE ((os.map λp=>(p.1,gw (mY i cs) p.2)).set i (x,.bm)) b->bi aE os b/\bJ x≠some b:=by
 have ax:=(eL.1 hi).1;generalize mE: (os.map λp=>(p.1,gw (mY i cs) p.2)).set i (x,.bm)=aT;have afZ:aT[i]?=some (x,.bm):=by grind
 have u0:∀ {k:Nat},k≠i->aT[k]?=(os[k]?).map λp=>(p.1,gw (mY i cs) p.2):=by
  grind
 have cM:∀ (k:Nat) (z:Value) (aU:aZ),aT[k]?=some (z,aU)->(k=i/\z=x/\aU= .bm)\/(k≠i/\∃dw,os[k]?=some (z,dw)/\aU=gw (mY i cs) dw):=by
  grind
 have dp:∀dw:aZ,gw (mY i cs) dw≠ .bm->dw≠ .bm:=by intro dw;cases dw<;>simp[gw]
 have fK:∀b,bi aE aT b->bi aE os b/\bJ x≠some b:=by
  intro b ac;rcases ac with ac| ⟨j,z,aU,aq,aa,cy⟩
  ·exact⟨.inl ac,λe'=>h.a0 b ac ((h.cV i _ _ hi).iX (by simp) e').1⟩
  ·rcases cM j z aU aq with⟨rfl,rfl,rfl⟩| ⟨bu,dw,ne,rfl⟩
   ·grind
   ·exact⟨.inr ⟨j,_,_,ne,dp _ aa,cy⟩,λaG=>bu (h.inj j i _ _ _ _ b ne hi (dp _ aa) (by simp) cy aG)⟩
 have ng:dx (bi aE os) (bi aE aT) w w:=dx.ib (λb ac=>(fK b ac).1);have DR:=A0 ez;have rd:∀ {p q:Nat},p≠q->Nat.beq p q=false:=by
  intro p q bu;cases ac:Nat.beq p q;all_goals simp_all
 have DS:∀ (off g:Nat) (t2:TypeId) (u1:List ak),os[i]?=some (.pointer (some ⟨g,0,none⟩),.cells t2 u1)->b8 (bi aE aT) w (.pointer (some ⟨g,off,none⟩)) (.c9 (cs.drop off)):=by
  intro off g t2 u1 hk;rw[hi]at hk;cases hk;obtain⟨arr,bC,_,_,_,_,dD⟩:=xB h.cV hi;refine Gs (λac=>(fK g ac).2 rfl) (xa.1 bC).1 (λj d aa=> ?_);rw[qV]at aa;obtain⟨v,h1,ad,aN⟩:=dD _ d aa;exact⟨v,by rw[Addr.pH];exact h1,ad,((aN.plain (DR d (fo aa))).2).cC ng⟩
 have iL:∀ {z:Value} {d:ak},b8 (bi aE os) w z d->b8 (bi aE aT) w z (F4 i cs d):=by
  intro z d bx;cases d
  case aV=>cases bx
  all_goals exact bx.cC ng
 have qu:∀ {z:Value} {d:ak},b8 (bi aE os) w z d->b8 (bi aE aT) w z (mY i cs d)/\b8 (bi aE aT) w z (Dn i cs d):=by
  intro z d bx;induction bx with
  |v h=>exact⟨.v h,.v h⟩
  |ar xs aW aj aA az cE al ac br dD ah aY=>exact⟨(b8.ar xs aW aj aA az cE al ac br dD ah).cC ng,(b8.ar xs aW aj aA az cE al ac br dD ah).cC ng⟩
  |nil=>exact⟨.nil,.nil⟩
  |av=>exact⟨.av,.av⟩
  |agg af br h aY=>
   refine⟨(b8.agg af br h).cC ng,.agg (by grind) br (λj v d ab aa=> ?_)⟩
   grind
  | @bd vs ds af h _=>
   refine⟨(b8.bd af h).cC ng,?_⟩;show b8 _ w _ (q1 ds);unfold q1;split
   ·exact(b8.bd af h).cC ng
   ·exact .a1
  |c9 xs al ac br dD ah _=>exact⟨(b8.c9 xs al ac br dD ah).cC ng,(b8.c9 xs al ac br dD ah).cC ng⟩
  | @fn f vs ds af h _=>
   have key:b8 (bi aE aT) w (.func f #[] vs.toArray) (.fn f (ds.map (F4 i cs))):=by
    refine .fn (by grind) (λj v d ab aa=> ?_)
    grind
   exact⟨key,key⟩
  |ca _ aR aY=>exact⟨.ca (λac=>(aY ac).1) aR,.ca (λac=>(aY ac).2) aR⟩
  |a1=>exact⟨.a1,.a1⟩
 have A1:∀ {z:Value} {d:ak},bg (bi aE os) os w z d->(z.oneCell'=true->bg (bi aE aT) aT w z (mY i cs d))/\bg (bi aE aT) aT w z (Dn i cs d):=by
  intro z d bx;induction bx with
  |bT h=>exact⟨λ_=>.bT (qu h).1,.bT (qu h).2⟩
  | @aV k off g t2 u1 hk=>
   have key:bg (bi aE aT) aT w (.pointer (some ⟨g,off,none⟩)) (mY i cs (.aV k off)):=by
    by_cases bu:k=i
    ·subst bu;simp only[mY,Ax];exact .bT (DS off g t2 u1 hk)
    ·simp only[mY,rd (λe=>bu e.symm)];exact .aV (t:=t2) (cs:=u1.map (mY i cs)) (by rw[u0 bu,hk];rfl)
   exact⟨λ_=>key,key⟩
  | @dU k off g t2 u1 hk=>
   have key:bg (bi aE aT) aT w (.pointer (some ⟨g,off,none⟩)) (mY i cs (.dU k off)):=by
    by_cases bu:k=i
    ·subst bu;simp only[mY,Ax];exact .bT (DS off g t2 u1 hk)
    ·simp only[mY,rd (λe=>bu e.symm)];exact .dU (t:=t2) (cs:=u1.map (mY i cs)) (by rw[u0 bu,hk];rfl)
   exact⟨λ_=>key,key⟩
  | @db k gS off g m c aG tD wv hk=>
   have bu:k≠i:=λe=>by grind
   have key:bg (bi aE aT) aT w (.pointer (some ⟨g,gS*tD+off,none⟩)) (.db k gS off):=.db (e:=aG) (aB:=tD) (es:=wv) (n:=m) (c:=c) (by rw[u0 bu,hk];rfl);exact⟨λ_=>key,key⟩
  | @own k z aG tD wv hk h1=>
   have bu:k≠i:=λe=>by grind
   have key:bg (bi aE aT) aT w z (.own k):=.own (e:=aG) (aB:=tD) (es:=wv) (by rw[u0 bu,hk];rfl) h1;exact⟨λ_=>key,key⟩
  | @e2 k z lv d hk aa h1=>
   have bu:k≠i:=λe=>by grind
   have hp:aT[k]?=some (lv,.gone):=by rw[u0 bu,hk];rfl
   rcases aa with rfl| ⟨gS,off,rfl⟩
   ·exact⟨λ_=>.e2 hp (.inl rfl) h1,.e2 hp (.inl rfl) h1⟩
   ·exact⟨λ_=>.e2 hp (.inr ⟨_,_,rfl⟩) h1,.e2 hp (.inr ⟨_,_,rfl⟩) h1⟩
  | @agg vs ds af br _ aY=>
   refine⟨λh=>by simp[Value.oneCell']at h,.agg (by grind) br (λk v d ab aa=> ?_)⟩
   grind
  | @bd vs ds af b2 bC aY=>
   exact⟨λh1=>by simp[Value.oneCell']at h1,.bT (((bg.bd af b2 bC).q1).cC ng)⟩
  | @fn f vs ds af WN bC aY=>
   have key:bg (bi aE aT) aT w (.func f #[] vs.toArray) (.fn f (ds.map (F4 i cs))):=by
    refine .fn (by grind) (λd aa=> ?_) (λj v d ab aa=> ?_)
    ·obtain⟨e,he,rfl⟩:=fT.1 aa;have aj:=WN e he;cases e<;>simp[l6,mA]at aj
     case aV k o=>
      simp only[F4];split<;>rfl
     all_goals first|rfl|skip
     rename_i g cu;have:cu=[]:=by cases cu<;>simp_all[mA]
     subst this;rfl
    ·rw[e7]at aa;cases aq:ds[j]? with
     |none=>grind
     |some e=>
      rw[aq]at aa;simp at aa;subst aa;have aj:=WN e (fo aq);have ad:=(aY j v e ab aq).2;cases e<;>simp[l6,mA]at aj
      all_goals first|exact ad|skip
      rename_i g cu;have:cu=[]:=by cases cu<;>simp_all[mA]
      subst this;exact ad
   exact⟨λ_=>key,key⟩
  |ca _ aR aY=>exact⟨λh1=>.ca (λac=>(aY ac).1 h1) aR,.ca (λac=>(aY ac).2) aR⟩
 refine⟨h.afX (mY i cs) (Dn i cs) A1 ng (λk z aU hk=> ?_) ?_ (λt=> ?_),fK⟩
 ·grind
 ·rw[<-mE];show gr (oU (mY i cs) s.loc) i .bm=_;rw[mD,wu,h.loc,nQ,oT,oT];rfl
 ·show look (pC (Dn i cs) s.env) t=_;rw[DD _ (by rfl)]
def mb(aE:Nat->Prop)(os:c2)(J:List Nat)(b:Nat):Prop:=aE b\/∃ (i:Nat) (x:Value) (bD:aZ),os[i]?=some (x,bD)/\bD≠ .bm/\i∉J/\bJ x=some b
def nh:ak->Option Nat
 | .own j=>some j
 | .aV j _=>some j
 |_=>none
def jl(ds:List ak):List Nat:=ds.filterMap nh
theorem A9{ds:List ak}{d:ak}{j:Nat}(h:d∈ds)(aq:nh d=some j):j∈jl ds:=Oz.2 ⟨d,h,aq⟩
theorem xI:∀ (ds:List ak) {os:c2} {s:bK} {K:bK->Prop},ch aE a8 n os s a w->oV ds s K->∃aT s',ch aE a8 n aT s' a w/\K s'/\(∀b,bi aE aT b->mb aE os (jl ds) b)/\∀ (i:Nat) x o,i∉jl ds->os[i]?=some (x,o)->∃aU,aT[i]?=some (x,aU)/\er o aU
 | [],os,s,K,h,ap=>⟨os,s,h,ap,λb ac=>by
   rcases ac with ac| ⟨i,x,aU,hi,aa,cy⟩
   ·exact .inl ac
   ·exact .inr ⟨i,x,aU,hi,aa,by simp[jl],cy⟩,λi x o _ hi=>⟨o,hi,by cases o<;>simp[er]⟩⟩
 |d::r,os,s,K,h,ap=>by
  have live:∀ {j:Nat},(∀e aB es,bR s.loc j≠ .row e aB es)->(∀t cs,bR s.loc j≠ .cells t cs)->nh d=some j->oV r s K->∃aT s',ch aE a8 n aT s' a w/\K s'/\(∀b,bi aE aT b->mb aE os (jl (d::r)) b)/\∀ (i:Nat) x o,i∉jl (d::r)->os[i]?=some (x,o)->∃aU,aT[i]?=some (x,aU)/\er o aU:=by
   intro j ic gQ ah ap;obtain⟨aT,s',ao,hk,xE,sI⟩:=xI r h ap;refine⟨aT,s',ao,hk,λb ac=> ?_,λi y bD hi aH=>sI i y bD (λaA=>hi (by simp[jl,ah];exact .inr (by simpa[jl]using aA))) aH⟩;rcases xE b ac with ac| ⟨i,y,aU,df,dp,aW,cy⟩
   ·exact .inl ac
   ·refine .inr ⟨i,y,aU,df,dp,?_,cy⟩;have aC:jl (d::r)=j::jl r:=by simp[jl,ah]
    rw[aC];simp only[ny,not_or];refine⟨λe=> ?_,aW⟩;subst e;have iP:bR s.loc i=aU:=by rw[h.loc,ln,e7,df];rfl
    cases aU with
    |row e aB es=>grind
    |cells t cs=>grind
    |bm=>grind
    |gone=>have sJ:bJ y=none:=h.cV _ _ _ df;grind
    |cD ds=>obtain⟨rfl,_⟩:=h.cV _ _ _ df;simp[bJ]at cy
  have step:∀ {j:Nat} {x:Value} {bD:aZ} {φ:ak->ak} {s1:bK},os[j]?=some (x,bD)->nh d=some j->ch aE a8 n ((os.map λp=>(p.1,gw φ p.2)).set j (x,.bm)) s1 a w->oV r s1 K->
    ∃aT s',ch aE a8 n aT s' a w/\K s'/\(∀b,bi aE aT b->mb aE os (jl (d::r)) b)/\∀ (i:Nat) x o,i∉jl (d::r)->os[i]?=some (x,o)->∃aU,aT[i]?=some (x,aU)/\er o aU:=by
   intro j x bD φ s1 hi ah bp ap;obtain⟨aT,s',ao,hk,xE,sI⟩:=xI r bp ap;refine⟨aT,s',ao,hk,λb ac=> ?_,λi y PG hd aH=> ?_⟩
   rotate_left
   ·have fW:i≠j:=λe=>hd (by subst e;exact A9 tm ah);obtain⟨aU,h1,ad⟩:=sI i y (gw φ PG) (λaA=>hd (by simp[jl,ah];exact .inr (by simpa[jl]using aA))) (by grind);exact⟨aU,h1,by cases PG<;>cases aU<;>simp[er,gw]at ad⊢ <;>exact ad⟩
   rcases xE b ac with ac| ⟨i,y,aU,df,dp,aW,cy⟩
   ·exact .inl ac
   ·have fW:i≠j:=by
     grind
    rw[v1 (λaG=>fW aG.symm),e7]at df;cases ne:os[i]? with
    |none=>grind
    |some p=>
     rw[ne]at df;cases df;refine .inr ⟨i,_,_,ne,λaG=>dp (by rw[aG];rfl),?_,cy⟩;have aC:jl (d::r)=j::jl r:=by simp[jl,ah]
     grind
  by_cases aa:∃j,d= .own j
  ·obtain⟨j,rfl⟩:=aa;unfold oV at ap;split at ap
   ·rename_i e aB es af;rw[h.loc]at af;obtain⟨x,hi⟩:=kO af (by simp);exact step hi rfl (h.jO hi).1 ap
   ·grind
   ·rename_i ic gQ;exact live (λ_ _ _ e=>ic _ _ _ e) (λ_ _ e=>gQ _ _ e) rfl ap
  ·by_cases kv:∃j o,d= .aV j o
   ·obtain⟨j,off,rfl⟩:=kv;unfold oV at ap;split at ap
    ·rename_i t cs af;split at ap
     ·rename_i ez;rw[h.loc]at af;obtain⟨x,hi⟩:=kO af (by simp);exact step hi rfl (h.JT hi ez).1 ap
     grind
    ·grind
    ·rename_i ic gQ;exact live (λ_ _ _ e=>gQ _ _ _ e) (λ_ _ e=>ic _ _ e) rfl ap
   ·have h1:oV (d::r) s K=oV r s K:=by cases d<;>first|rfl|exact absurd ⟨_,rfl⟩ aa|exact absurd ⟨_,_,rfl⟩ kv
    have ad:jl (d::r)=jl r:=by cases d<;>first|rfl|exact absurd ⟨_,rfl⟩ aa|exact absurd ⟨_,_,rfl⟩ kv
    rw[h1]at ap;rw[ad];exact xI r h ap
variable{J:List Nat}
theorem xJ{b:Nat}(h:mb aE os J b):bi aE os b:=by
 rcases h with h| ⟨i,x,aU,hi,aa,_,ac⟩
 ·exact .inl h
 ·exact .inr ⟨i,x,aU,hi,aa,ac⟩
theorem WO{x:Value}{j off:Nat}{t:TypeId}{cs:List ak}(h:ch aE a8 n os s a w)(ao:bg (bi aE os) os w x (.aV j off))(gU:j∈J)(af:bR s.loc j= .cells t cs)(ez:pB cs=true):b8 (mb aE os J) w x (.c9 (cs.drop off)):=by
 rw[h.loc]at af;obtain⟨x',hi⟩:=kO af (by simp);obtain⟨g,eD,dG,df,rfl⟩:=ao.q5;rw[hi]at df;cases df;obtain⟨arr,bC,_,_,_,_,dD⟩:=xB h.cV hi;refine Gs (λab=> ?_) (xa.1 bC).1 (λq d aa=> ?_)
 ·rcases ab with ab| ⟨i,y,aU,df,aa,aW,cy⟩
  ·exact h.a0 g ab ((h.cV _ _ _ hi).iX (by simp) rfl).1
  ·exact aW (by rw[h.inj i j _ _ _ _ g df hi aa (by simp) cy rfl];exact gU)
 ·rw[qV]at aa;obtain⟨v,h1,ad,aN⟩:=dD _ d aa;exact⟨v,by rw[Addr.pH];exact h1,ad,((aN.plain (A0 ez d (fo aa))).2).cC (dx.ib (λ_=>xJ))⟩
theorem af0{x:Value}{d:ak}{Q:ak->Prop}(h:ch aE a8 n os s a w)(ao:bg (bi aE os) os w x d)(aj:l6 d=true\/b8 (bi aE os) w x d)(gU:∀j o,d= .aV j o->j∈J)(af:wg s.loc d Q):∃ck,Q ck/\b8 (mb aE os J) w x ck:=by
 have bT:∀ {d:ak},b8 (bi aE os) w x d->b8 (mb aE os J) w x d:=λhi=>hi.cC (dx.ib (λ_=>xJ));by_cases aa:∃j o,d= .aV j o
 ·obtain⟨j,off,rfl⟩:=aa;unfold wg at af;split at af
  ·rename_i jk aU e;cases e;split at af
   ·rename_i t cs qv;split at af
    ·rename_i ez;exact⟨_,af,WO h ao (gU _ _ rfl) qv ez⟩
    grind
   grind
  grind
 ·have h1:wg s.loc d Q=Q d:=by cases d<;>first|rfl|exact absurd ⟨_,_,rfl⟩ aa
  rw[h1]at af;refine⟨d,af,bT ?_⟩;rcases aj with aj|aj
  ·by_cases DS:∃cs,d= .c9 cs
   ·obtain⟨cs,rfl⟩:=DS;exact ao.wk
   ·refine(ao.plain ?_).2;cases d
    case aV=>grind
    case c9=>rfl
    case fn f cu=>
     have:cu=[]:=by cases cu<;>simp_all[l6,mA]
     subst this;rfl
    all_goals first|rfl| (simp[l6,mA]at aj)
  omega
theorem WP{J:List Nat}(h:ch aE a8 n os s a w):∀ (vs:List Value) (ds:List ak) {Q:List ak->Prop},vs.length=ds.length->(∀ (i:Nat) v d,vs[i]?=some v->ds[i]?=some d->bg (bi aE os) os w v d/\(l6 d=true\/b8 (bi aE os) w v d))->(∀j o,.aV j o∈ds->j∈J)->yK s.loc ds Q->
  ∃iw,Q iw/\vs.length=iw.length/\∀ (i:Nat) v d,vs[i]?=some v->iw[i]?=some d->b8 (mb aE os J) w v d
 | [],[],Q,_,_,_,af=>⟨[],af,rfl,by simp⟩
 | [],_::_,Q,h1,_,_,_=>by grind
 |_::_,[],Q,h1,_,_,_=>by grind
 |v::vs,d::ds,Q,h1,ao,gU,af=>by
  obtain⟨ck,af,hi⟩:=af0 h (ao 0 v d rfl rfl).1 (ao 0 v d rfl rfl).2 (λj o e=>gU j o (by simp[e])) af;obtain⟨iw,bV,hlen,an⟩:=WP h vs ds (by grind) (λi v d ab aa=>ao (i+1) v d (by grind) (by grind)) (λj o aq=>gU j o (by grind)) af
  grind
theorem PH{x:Value}{d:ak}{Q:ak->Prop}(h:ch aE a8 n os s a w)(ao:bg (bi aE os) os w x d)(gU:∀e j,e∈nA d->nh e=some j->j∈J)(af:ot s.loc d Q):∃ck,Q ck/\b8 (mb aE os J) w x ck:=by
 have bT:∀ {d:ak},b8 (bi aE os) w x d->b8 (mb aE os J) w x d:=λhi=>hi.cC (dx.ib (λ_=>xJ));cases d with
 |own j=>
  simp only[ot]at af;split at af
  ·rename_i e aB es qv;rw[h.loc]at qv;obtain⟨x',hi⟩:=kO qv (by simp);have nd:=ao.q6 hi;subst nd;refine⟨_,af,Kz (h.cV _ _ _ hi) (λ_=>xJ) (λb ac ab=> ?_)⟩;rcases ab with ab| ⟨i,y,aU,df,aa,aW,cy⟩
   ·exact h.a0 b ab ((h.cV _ _ _ hi).iX (by simp) ac).1
   ·exact aW (by rw[h.inj i j _ _ _ _ b df hi aa (by simp) cy ac];exact gU (.own j) j (by simp[nA]) rfl)
  grind
 |aV j off=>
  simp only[ot]at af;split at af
  ·rename_i t cs qv;split at af
   ·rename_i ez;exact⟨_,af,WO h ao (gU (.aV j off) j (by simp[nA]) rfl) qv ez⟩
   grind
  grind
 |dU=>exact af.elim
 |db=>exact af.elim
 |ca=>exact af.elim
 |agg=>exact af.elim
 |v y=>obtain⟨rfl,h1⟩:=ao.j1;exact⟨_,af,.v h1⟩
 |ar=>exact⟨_,af,bT ao.nB⟩
 |bd=>exact af.elim
 |c9=>exact⟨_,af,bT ao.wk⟩
 |fn f cu=>
  have af:yK s.loc cu λl=>Q (.fn f l):=af;have PI:∃vs:List Value,x= .func f #[] vs.toArray/\vs.length=cu.length/\∀ (i:Nat) v d,vs[i]?=some v->cu[i]?=some d->bg (bi aE os) os w v d/\(l6 d=true\/b8 (bi aE os) w v d):=by
   cases ao with
   |bT h=>cases h with
    |fn af an=>exact⟨_,rfl,af,λi v d ab aa=>⟨.bT (an i v d ab aa),.inr (an i v d ab aa)⟩⟩
   |fn af iL an=>grind
   |e2 h aa h1=>rcases aa with aa| ⟨_,_,aa⟩<;>cases aa
  obtain⟨vs,rfl,hlen,an⟩:=PI;obtain⟨iw,bV,gQ,iQ⟩:=WP h vs cu hlen an (λj o aq=>gU (.aV j o) j (by simp only[nA,h2];exact⟨aq,rfl⟩) rfl) af;exact⟨_,bV,.fn gQ iQ⟩
 |av=>rw[ao.o0];exact⟨_,af,.av⟩
 |a1=>exact⟨_,af,.a1⟩
theorem WQ{J:List Nat}(h:ch aE a8 n os s a w):∀ (vs:List Value) (ds:List ak) {Q:List ak->Prop},vs.length=ds.length->(∀ (i:Nat) v d,vs[i]?=some v->ds[i]?=some d->bg (bi aE os) os w v d)->(∀e j,e∈ds.flatMap nA->nh e=some j->j∈J)->Dp s.loc ds Q->
  ∃iw,Q iw/\vs.length=iw.length/\∀ (i:Nat) v d,vs[i]?=some v->iw[i]?=some d->b8 (mb aE os J) w v d
 | [],[],Q,_,_,_,af=>⟨[],af,rfl,by simp⟩
 | [],_::_,Q,h1,_,_,_=>by grind
 |_::_,[],Q,h1,_,_,_=>by grind
 |v::vs,d::ds,Q,h1,ao,gU,af=>by
  obtain⟨ck,af,hi⟩:=PH h (ao 0 v d rfl rfl) (λe j he aq=>gU e j (by grind) aq) af;obtain⟨iw,bV,hlen,an⟩:=WQ h vs ds (by grind) (λi v d ab aa=>ao (i+1) v d (by grind) (by grind)) (λe j he aq=>gU e j (by grind) aq) af
  grind
theorem WR{x:Value}{d:ak}{Q:ak->Prop}(h:ch aE a8 n os s a w)(ao:bg (bi aE os) os w x d)(gU:∀e j,e∈hb [d]->nh e=some j->j∈J)(af:uN s.loc d Q):∃ck,Q ck/\b8 (mb aE os J) w x ck:=by
 by_cases aa:∃cs,d= .agg cs
 ·obtain⟨cs,rfl⟩:=aa;obtain⟨vs,rfl,hlen,br,an⟩:=ao.xx;obtain⟨iw,bV,gQ,iQ⟩:=WQ h vs cs hlen an (λe j he aq=>gU e j (by
   simp only[hb,jM];exact he) aq) af
  exact⟨_,bV,.agg gQ br iQ⟩
 by_cases cH:∃ds,d= .bd ds
 ·obtain⟨ds,rfl⟩:=cH;have af:match ds.any mX with
   |false=>Q (.bd ds)
   |true=>False:=af
  cases aW:ds.any mX with
  |false=>
   rw[aW]at af;exact⟨_,af,(ao.V5 aW).cC (dx.ib (λ_=>xJ))⟩
  |true=>
   grind
 ·have h1:uN s.loc d Q=ot s.loc d Q:=by cases d<;>first|rfl|exact absurd ⟨_,rfl⟩ aa|exact absurd ⟨_,rfl⟩ cH
  rw[h1]at af;have ad:hb [d]=nA d:=by cases d<;>first|exact absurd ⟨_,rfl⟩ aa|simp[hb]
  exact PH h ao (λe j he aq=>gU e j (by grind) aq) af
theorem KA(d:ak)(r:List ak):hb (d::r)=hb [d]++hb r:=by
 cases d<;>simp[hb]
theorem GG{J:List Nat}(h:ch aE a8 n os s a w):∀ (vs:List Value) (ds:List ak) {Q:List ak->Prop},vs.length=ds.length->(∀ (i:Nat) v d,vs[i]?=some v->ds[i]?=some d->bg (bi aE os) os w v d)->(∀e j,e∈hb ds->nh e=some j->j∈J)->tu s.loc ds Q->
  ∃iw,Q iw/\sz (mb aE os J) w vs iw
 | [],[],Q,_,_,_,af=>⟨[],af,ai⟩
 | [],_::_,Q,h1,_,_,_=>by grind
 |_::_,[],Q,h1,_,_,_=>by grind
 |v::vs,d::ds,Q,h1,ao,gU,af=>by
  obtain⟨ck,af,hi⟩:=WR h (ao 0 v d rfl rfl) (λe j he aq=>gU e j (by rw[KA];grind) aq) af;obtain⟨iw,bV,an⟩:=GG h vs ds (by grind) (λi v d ab aa=>ao (i+1) v d (by grind) (by grind)) (λe j he aq=>gU e j (by rw[KA];grind) aq) af;exact⟨ck::iw,bV,hi,an⟩
theorem b8.le{d ck:ak}(aa:hP d ck)(h:b8 A w x d):b8 A w x ck:=by
 induction aa generalizing x with
 |refl=>exact h
 | @nil aB mC f lJ az=>
  cases h with
  |ar xs aW aj aA KB cE al ac br dD ah=>exact .ar xs aW aj aA (λe=>KB (az e)) (by simp) (λh=>absurd rfl h) (λh=>absurd rfl h) br (by simp) (by simp)
  |nil=>exact .nil
 |av=>cases h;exact .nil
 |ar=>
  cases h with
  |ar xs aW aj aA KB cE al ac br dD ah=>exact .ar xs aW aj aA (by simp) cE al ac br dD ah
  |nil=>exact .nil
 | @jP aB es fG f af ao bC aY=>
  cases h with
  |ar xs aW aj aA KB cE al ac br dD ah=>
   have get:∀ {i:Nat} {eH:List ak},fG[i]?=some eH->∃r,es[i]?=some r/\r.length=eH.length:=λ{i eH} h=>by
    grind
   have k3:fG≠ []->es≠ []:=λh e=>by grind
   refine .ar xs (by omega) aj aA KB (λe he=> ?_) (λh=>al (k3 h)) (λh=>ac (k3 h)) br (λi j e d he aa=> ?_) (λi j e d he aa=> ?_)
   ·obtain⟨i,hi,rfl⟩:=e8 he;obtain⟨r,h1,ad⟩:=get (eP hi)
    grind
   all_goals grind
  |nil=>
   have:fG=[]:=v2.1 (by grind);subst this;exact .nil
 | @agg cs ds af bC aY=>
  cases h with
  |agg hs br an=>
   refine .agg (hs.trans af) br (λi v d ab aa=> ?_)
   grind
 | @bd cs ds af bC aY=>
  cases h with
  |bd hs an=>
   refine .bd (hs.trans af) (λi v d ab aa=> ?_)
   grind
 |a1=>exact .a1
theorem sz.le:∀ {vs:List Value} {ds iw:List ak},mZ ds iw->sz A w vs ds->sz A w vs iw
 | [],[],[],_,_=>trivial
 | [],[],_::_,h,_=>h.elim
 | [],_::_,_,_,h=>h.elim
 |_::_,[],_,_,h=>h.elim
 |v::vs,d::ds,[],h,_=>h.elim
 |v::vs,d::ds,e::es,h,hi=>⟨hi.1.le h.1,sz.le h.2 hi.2⟩
theorem WS{d:ak}(ae:xq d=true)(h:b8 A w x d):b8 dy w x d:=by
 have eg:∀ {x:Value} {d:ak},F5 d=true->b8 A w x d->b8 dy w x d:=by
  intro x d ae h;cases d<;>simp[F5]at ae
  cases h with
  |v h=>exact .v h
 have agg:∀ {x:Value} {cs:List ak},cs.all F5=true->b8 A w x (.agg cs)->b8 dy w x (.agg cs):=by
  intro x cs ae h;cases h with
  |agg af br an=>exact .agg af br (λi v d ab aa=>eg (l4.1 ae d (fo aa)) (an i v d ab aa))
 cases d<;>simp only[xq,tk]at ae
 ·cases h with
  |v h=>exact .v h
 ·grind
 ·cases h with
  |bd af an=>
   refine .bd af (λi v d ab aa=> ?_);have:=l4.1 ae d (fo aa);have hi:=an i v d ab aa;cases d<;>simp at this
   ·cases hi with
    |v h=>exact .v h
   grind
end
end Go.Lift
