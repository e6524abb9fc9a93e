/- A data-level logic for the model: what a body does to data; its soundness (part LfA). No conditions. -/
import Derived.WalkKit
set_option linter.unusedSimpArgs false
set_option linter.unusedVariables false
set_option maxRecDepth 100000
set_option maxHeartbeats 16000000
set_option linter.defProp false
namespace Go
def aS:=@And.intro
def ND:=@Array.foldl_toList
def ps:=@Array.getD_eq_getD_getElem?
def Fe:=@Array.getElem?_append_left
def vF:=@Array.getElem?_eq_getElem
def NE:=@Array.getElem?_eq_none
def wX:=@Array.getElem?_eq_some_iff
def UG:=@Array.getElem?_mapIdx
def NF:=@Array.getElem?_modify
def UH:=@Array.getElem?_setIfInBounds
def wY:=@Array.getElem?_toList
def IX:=@Array.getElem_toList
def Cx:=@Array.length_toList
def NG:=@Array.mapM_eq_mapM_toList
def vG:=@Array.mem_toList_iff
def vH:=@Array.toList_append
def Ff:=@BitVec.ofInt_natCast
def Fg:=@BitVec.toNat_ofNat
def vI:=@Bool.and_eq_false_iff
def cq:=@Bool.and_eq_true
def oR:=@Bool.and_false
def NH:=@Bool.and_self
def ur:=@Bool.and_true
def NI:=@Bool.eq_iff_iff
def wZ:=@Bool.false_and
def s6:=@Bool.false_eq_true
def Cy:=@Bool.false_or
def mw:=@Bool.not_eq_false'
def nu:=@Bool.not_eq_true'
def s7:=@Bool.not_false
def kZ:=@Bool.not_true
def iW:=@Bool.or_eq_false_iff
def oS:=@Bool.or_eq_true
def Aa:=@Bool.or_self
def Fh:=@Bool.or_true
def rp:=@Bool.true_and
def NJ:=@Bool.true_or
def qH:=@Classical.byContradiction
def IY:=@Except.ok.injEq
def Cz:=@Iff.rfl
def p5:=@Int.eq_ofNat_of_zero_le
def UI:=@Int.fdiv_eq_ediv_of_nonneg
def CA:=@Int.le_of_eq
def k0:=@Int.le_refl
def w0:=@Int.le_trans
def Fi:=@Int.lt_irrefl
def NK:=@Int.lt_or_eq_of_le
def IZ:=@Int.mul_emod
def NL:=@Int.ofNat_inj
def UJ:=@Int.tdiv_eq_ediv_of_nonneg
def l6:=@Int.toNat_natCast
def UK:=@List.Perm.eq_of_pairwise
def Fk:=@List.all_cons
def nv:=@List.all_eq_true
def k1:=@List.append_assoc
def jQ:=@List.append_nil
def rq:=@List.cons_append
def UL:=@List.countP_eq_length_filter
def UM:=@List.countP_le_length
def UN:=@List.dropWhile_sublist
def Fl:=@List.drop_append_of_le_length
def vJ:=@List.drop_drop
def vK:=@List.drop_eq_getElem_cons
def Fm:=@List.drop_left
def CB:=@List.drop_length
def I0:=@List.drop_of_length_le
def UO:=@List.drop_set_of_lt
def NM:=@List.eq_nil_of_length_eq_zero
def UP:=@List.eq_of_mem_replicate
def Fo:=@List.exists_mem_of_length_pos
def NN:=@List.ext_getElem
def rr:=@List.ext_getElem?
def oh:=@List.filter_append
def Ab:=@List.filter_cons
def UQ:=@List.filter_eq_nil_iff
def yp:=@List.filter_eq_self
def Fp:=@List.filter_nil
def CC:=@List.filter_sublist
def Ac:=@List.find?_eq_none
def I1:=@List.find?_eq_some_iff_getElem
def I2:=@List.find?_some
def Ad:=@List.flatMap_append
def sc:=@List.getD_eq_getElem?_getD
def sd:=@List.getElem?_append_left
def w1:=@List.getElem?_append_right
def CD:=@List.getElem?_cons_succ
def CE:=@List.getElem?_cons_zero
def qI:=@List.getElem?_drop
def eN:=@List.getElem?_eq_getElem
def w2:=@List.getElem?_eq_none
def eI:=@List.getElem?_eq_some_iff
def UR:=@List.getElem?_eraseIdx
def fe:=@List.getElem?_map
def CF:=@List.getElem?_set
def vL:=@List.getElem?_set_ne
def oT:=@List.getElem?_set_self
def rs:=@List.getElem?_take
def US:=@List.getElem?_zip_eq_some
def CG:=@List.getElem_inj
def Ae:=@List.getElem_map
def eD:=@List.getElem_mem
def fv:=@List.getElem_of_mem
def UT:=@List.getElem_set_self
def NO:=@List.idxOf_lt_length_of_mem
def fw:=@List.length_append
def l7:=@List.length_cons
def ru:=@List.length_drop
def I3:=@List.length_eq_one_iff
def ut:=@List.length_eq_zero_iff
def uu:=@List.length_filter_le
def bL:=@List.length_map
def yq:=@List.length_nil
def Fq:=@List.length_pos_iff
def CH:=@List.length_replicate
def NP:=@List.length_set
def mW:=@List.length_take
def Fr:=@List.mapM_cons
def ew:=@List.map_append
def CI:=@List.map_congr_left
def oi:=@List.map_cons
def yr:=@List.map_drop
def CJ:=@List.map_id
def oU:=@List.map_map
def w3:=@List.map_nil
def oj:=@List.map_set
def yt:=@List.map_take
def CK:=@List.map_toArray
def eb:=@List.mem_append
def CL:=@List.mem_append_left
def mx:=@List.mem_append_right
def pt:=@List.mem_cons
def Fs:=@List.mem_cons_of_mem
def s8:=@List.mem_cons_self
def ko:=@List.mem_filter
def NQ:=@List.mem_filterMap
def I4:=@List.mem_flatMap
def fr:=@List.mem_map
def UU:=@List.mem_map_of_mem
def I5:=@List.mem_of_find?_eq_some
def fq:=@List.mem_of_getElem?
def CM:=@List.mem_of_mem_drop
def om:=@List.mem_of_mem_take
def w4:=@List.mem_range
def eJ:=@List.mem_singleton
def NR:=@List.mergeSort_perm
def nR:=@List.nil_append
def I6:=@List.nodup_cons
def I7:=@List.pairwise_append
def s9:=@List.pairwise_cons
def NS:=@List.pairwise_iff_forall_sublist
def my:=@List.pairwise_iff_getElem
def yu:=@List.pairwise_map
def NT:=@List.pairwise_mergeSort
def CN:=@List.range_succ
def I8:=@List.replicate_succ'
def UV:=@List.set_append_right
def Ft:=@List.set_getElem_self
def NU:=@List.set_set
def UW:=@List.singleton_append
def I9:=@List.size_toArray
def UX:=@List.takeWhile_append_dropWhile
def NV:=@List.takeWhile_prefix
def UY:=@List.takeWhile_sublist
def Fu:=@List.take_append_drop
def Ja:=@List.take_append_of_le_length
def gn:=@List.take_length
def w5:=@List.take_of_length_le
def UZ:=@List.take_set_of_le
def fA:=@List.take_succ_eq_append_getElem
def NW:=@List.take_zero
def Jb:=@Nat.add_assoc
def NX:=@Nat.add_comm
def uv:=@Nat.add_mul
def w6:=@Nat.add_zero
def Af:=@Nat.beq_refl
def fB:=@Nat.eq_of_beq_eq_true
def nw:=@Nat.le_of_ble_eq_true
def Fv:=@Nat.le_of_eq
def bS:=@Nat.le_refl
def NY:=@Nat.le_succ_of_le
def bT:=@Nat.le_trans
def NZ:=@Nat.lt_of_le_of_lt
def Ag:=@Nat.lt_of_lt_of_le
def mX:=@Nat.lt_or_ge
def yv:=@Nat.lt_succ_iff_lt_or_eq
def Jc:=@Nat.lt_trichotomy
def se:=@Nat.mod_eq_of_lt
def uw:=@Nat.mod_lt
def Ah:=@Nat.mul_comm
def Jd:=@Nat.mul_le_mul_left
def kI:=@Nat.mul_le_mul_right
def CO:=@Nat.mul_one
def Fw:=@Nat.one_mul
def ta:=@Nat.pos_of_ne_zero
def Je:=@Nat.pow_le_pow_right
def N0:=@Nat.shiftRight_eq_div_pow
def N1:=@Nat.sub_mul
def Ai:=@Nat.sub_self
def N2:=@Nat.sub_zero
def N3:=@Nat.succ_pos
def U0:=@Nat.testBit_lt_two_pow
def ux:=@Nat.zero_add
def bZ:=@Nat.zero_le
def Jf:=@Option.getD_none
def qJ:=@Option.getD_some
def Jg:=@Option.isSome_none
def sf:=@Option.map_none
def p6:=@Option.map_some
def vM:=@Option.some.inj
def vN:=@Option.some.injEq
def N4:=@Prod.mk.injEq
def dT:=@Go.Result.andThen_ok
def CP:=@Go.Sem.runT_eq
def dX:=@Go.Sem.run_bind
def Fx:=@Go.Sem.run_map
def ex:=@Go.Sem.run_pure
def tb:=@Go.Stepped.next.injEq
def vO:=@Go.World.alloc_eq
def uy:=@Go.World.grownBy_alloc
def N5:=@Go.World.ownsRow_lit
def Jh:=@Go.World.ownsRow_nil
def Ji:=@beq_iff_eq
def Jj:=@bne_iff_ne
def bD:=@cond_false
def b6:=@cond_true
def e7:=@congrArg
def c5:=@decide_eq_false
def ib:=@decide_eq_false_iff_not
def e4:=@decide_eq_true
def fx:=@decide_eq_true_eq
def vP:=@decide_true
def sg:=@getElem!_pos
def Jk:=@Go.grownCap_ge
def N6:=@Go.growslice_fits
def Aj:=@Go.heap_alloc_new
def uz:=@if_false
def bm:=@if_neg
def b3:=@if_pos
def rv:=@of_decide_eq_false
def fC:=@of_decide_eq_true
def N7:=@Go.run_append_grow
def U1:=@Go.run_convert_bytes_string
def N8:=@Go.run_loadCells_list
def vQ:=@Go.run_newObj
def N9:=@Go.run_storeCells_at
def gz:=@Go.run_underlying
def Jl:=@Go.setRow_heap
def CQ:=@Go.size_madeCells
def aj:=@trivial
end Go
namespace Go.Lift
theorem atL{a b:Prop}(h:b):(a->a)/\b:=⟨λh=>h,h⟩
inductive ak where
 |v(x:Value)
 |av(ay:Nat)(es:List (List ak))(tc:Bool)
 |agg(cs:List ak)
 |be(ds:List ak)
 |da(cs:List ak)
 |aW(i off:Nat)
 |dU(i off:Nat)
 |de(i k off:Nat)
 |own(i:Nat)
 |fn(f:Fn)(cr:List ak)
 |b8(b:Bool)(d:ak)
 |ar
 |aY
inductive aX where
 |cells(t:TypeId)(cs:List ak)
 |row(e:TypeId)(ay:Nat)(es:List (List ak))
 |bn
 |gone
 |cB(cs:List ak)
structure bJ where
 env:List (Nat×ak)
 loc:List aX
def look:List (Nat×ak)->Nat->ak
 | [],_=>.aY
 |p::r,t=>match Nat.beq p.1 t with
  |true=>p.2
  |false=>look r t
def bJ.put(s:bJ)(dst:Option Tmp)(d:ak):bJ:=
 match dst with
 |some t=>⟨(t,d)::s.env,s.loc⟩
 |none=>s
def Fy:List aX->(List aX->Prop)->Prop
 | [],K=>K []
 |o::r,K=>Fy r λr=>K (o::r)
def td:List ak->(List ak->Prop)->Prop
 | [],K=>K []
 |c::r,K=>td r λr=>K (c::r)
theorem w7:∀ {l:List ak} {K:List ak->Prop},td l K↔K l
 | [],_=>Cz
 |_::r,_=>w7 (l:=r)
def gp(s:bJ)(dst:Option Tmp)(d:ak)(K:bJ->Prop):Prop:=
 match s with
 | ⟨e,l⟩=>Fy l λl=>match dst with
  |some t=>K ⟨(t,d)::e,l⟩
  |none=>K ⟨e,l⟩
def andO:Option Prop->Option Prop->Option Prop
 |none,c=>c
 |some a,none=>some a
 |some a,some b=>some (a/\b)
def te(c:Option Prop)(p:Prop):Prop:=
 match c with
 |none=>p
 |some a=>a/\p
def bN:List aX->Nat->aX
 | [],_=>.bn
 |o::_,0=>o
 |_::r,n+1=>bN r n
def gq:List aX->Nat->aX->List aX
 | [],_,_=>[]
 |_::r,0,x=>x::r
 |o::r,n+1,x=>o::gq r n x
def jR:aX->Bool
 | .row .. =>true
 |_=>false
def ry:aX->Bool
 | .cells .. =>true
 |_=>false
def Oa:aX->Bool
 | .gone=>true
 |_=>false
def uA:List ak->Nat->ak->List ak
 | [],_,_=>[]
 |_::r,0,x=>x::r
 |o::r,n+1,x=>o::uA r n x
def w8:List ak->List ak->List ak
 |l,[]=>l
 | [],_::_=>[]
 |_::l,x::r=>x::w8 l r
def w9:List ak->Nat->List ak->List ak
 |l,0,r=>w8 l r
 | [],_+1,_=>[]
 |c::l,n+1,r=>c::w9 l n r
def jC:List ak->Nat->List ak->List ak
 |l,_,[]=>l
 |l,o,[x]=>uA l o x
 |l,o,x::y::r=>w9 l o (x::y::r)
inductive Jm where
 |int(k:IntKind)|bool|str|fb (e:TypeId)|b4 (fs:List (TypeId×Nat))|arr (n:Nat) (e:TypeId)|gr
structure Fz where
 size:Nat
 bytes:Nat
 agg:Bool
 zero:List ak
 k:Jm
abbrev dJ:=List (Nat×Fz)
def aE:dJ->TypeId->Fz
 | [],_=>⟨0,0,false,[],.gr⟩
 |p::r,t=>match Nat.beq p.1 t with
  |true=>p.2
  |false=>aE r t
def Ob:Value->ak
 | .slice none 0 0=>.ar
 | .slice _ _ _=>.aY
 | .agg _=>.aY
 | .tuple _=>.aY
 |x=>.v x
def bF(s:bJ):Operand->ak
 | .tmp t=>look s.env t
 | .const v=>Ob v
 | .global _=>.aY
 | .func f=>.fn (.func f) []
def gW(d:ak)(K:ak->Prop):Prop:=
 match d with
 | .v x=>K (.v x)
 | .av ay es f=>K (.av ay es f)
 | .agg cs=>K (.agg cs)
 | .be ds=>K (.be ds)
 | .da cs=>K (.da cs)
 | .aW i o=>K (.aW i o)
 | .dU i o=>K (.dU i o)
 | .de i k o=>K (.de i k o)
 | .own i=>K (.own i)
 | .fn f c=>K (.fn f c)
 | .b8 b d=>K (.b8 b d)
 | .ar=>K .ar
 | .aY=>K .aY
def xa:Nat->List ak->(List ak->Prop)->Prop
 |0,_,K=>K []
 |_+1,[],_=>False
 |n+1,d::r,K=>gW d λd=>xa n r λl=>K (d::l)
def qK:Nat->List ak->(List ak->Prop)->Prop
 |0,l,K=>K l
 |_+1,[],_=>False
 |n+1,_::r,K=>qK n r K
def sh:Operand->Bool
 | .const (.bool b)=>b
 |_=>false
def si:Operand->Bool
 | .const (.bool b)=> !b
 |_=>false
def tf(b:Bool)(d:ak)(K:Option Prop->ak->Prop):Prop:=
 match d with
 | .b8 g d=>K (some (b=true->g=true)) d
 |d=>K none d
def rz(c:Bool)(x y:ak)(xb Ak:Bool)(K:ak->Prop):Prop:=
 match x,y with
 | .v (.bool a),.v (.bool b)=>match xb,Ak with
  |true,_=>K (.v (.bool (c||b)))
  |_,true=>K (.v (.bool (c&&a)))
  |_,_=>K (.v (.bool (bif c then a else b)))
 |_,_=>False
def sj:IntKind->IntKind->Bool
 | .i8,.i8| .i16,.i16| .i32,.i32| .i64,.i64| .u8,.u8| .u16,.u16| .u32,.u32| .u64,.u64=>true
 |_,_=>false
def dn:ak->List ak
 | .agg cs=>cs
 |d=>[d]
inductive p7 where
 |int(k:IntKind)|bool|str
def FA(g:TypeId->Option (List p7)):List (TypeId×Nat)->Nat->Option (List p7)
 | [],_=>some []
 |f::r,o=>match Nat.beq f.2 o with
  |false=>none
  |true=>match g f.1 with
   |none=>none
   |some c7=>match FA g r (o+c7.length)with
    |none=>none
    |some l=>some (c7++l)
def flatK(ah:dJ):Nat->TypeId->Option (List p7)
 |0,_=>none
 |n+1,t=>match (aE ah t).k with
  | .int k=>some [.int k]
  | .bool=>some [.bool]
  | .str=>some [.str]
  | .b4 fs=>match FA (flatK ah n) fs 0 with
   |some c7=>match Nat.beq c7.length (aE ah t).size,(aE ah t).size with
    |true,_+1=>some c7
    |_,_=>none
   |none=>none
  |_=>none
def FB(k:p7)(x y:ak)(K:Bool->Prop):Prop:=
 match k,x,y with
 | .int k,.v (.int cV a),.v (.int dj b)=>match sj k cV&&sj k dj with
  |true=>K (decide (a=b))
  |false=>False
 | .str,.v (.string a),.v (.string b)=>K (decide (a=b))
 | .bool,.v (.bool a),.v (.bool b)=>K (a==b)
 |_,_,_=>False
def qL:List p7->List ak->List ak->(Bool->Prop)->Prop
 | [],[],[],K=>K true
 |k::c7,x::r,y::eY,K=>FB k x y λe=>qL c7 r eY λz=>K (e&&z)
 |_,_,_,_=>False
def FC(op:BinOp)(k:IntKind)(a b:Int)(K:Option Prop->ak->Prop):Prop:=
 match op with
 | .add=>K none (.v (.int k (k.wrap (a+b))))
 | .sub=>K none (.v (.int k (k.wrap (a-b))))
 | .mul=>K none (.v (.int k (k.wrap (a*b))))
 | .quo=>K (some (b≠0)) (.v (.int k (k.wrap (a.tdiv b))))
 | .rem=>K (some (b≠0)) (.v (.int k (a.tmod b)))
 | .and=>K none (.v (.int k (bits .and k a b)))
 | .or=>K none (.v (.int k (bits .or k a b)))
 | .xor=>K none (.v (.int k (bits .xor k a b)))
 | .andNot=>K none (.v (.int k (bits .andNot k a b)))
 | .eql=>K none (.v (.bool (decide (a=b))))
 | .neq=>K none (.v (.bool (!decide (a=b))))
 | .lss=>K none (.v (.bool (decide (a<b))))
 | .leq=>K none (.v (.bool (decide (a<=b))))
 | .gtr=>K none (.v (.bool (decide (b<a))))
 | .geq=>K none (.v (.bool (decide (b<=a))))
 |_=>False
def U2:BinOp->Bool
 | .shl| .shr=>true
 |_=>false
def FD(op:BinOp)(k:IntKind)(a b:Int)(K:Option Prop->ak->Prop):Prop:=
 match op with
 | .shl=>K (some (0<=b)) (.v (.int k (k.wrap (a*2^ (min b.toNat k.bits)))))
 | .shr=>K (some (0<=b)) (.v (.int k (a.fdiv (2^ (min b.toNat k.bits)))))
 |_=>False
def Jn(op:BinOp)(a b:ByteArray)(K:Option Prop->ak->Prop):Prop:=
 match op with
 | .eql=>K none (.v (.bool (decide (a=b))))
 | .neq=>K none (.v (.bool (!decide (a=b))))
 | .lss=>K none (.v (.bool (Op.bytesLess a.toList b.toList)))
 |_=>False
def FE(op:BinOp)(a b:Bool)(K:Option Prop->ak->Prop):Prop:=
 match op with
 | .eql=>K none (.v (.bool (a==b)))
 | .neq=>K none (.v (.bool (!(a==b))))
 |_=>False
def CR(ah:dJ)(t:TypeId)(op:BinOp)(a b:List ak)(K:Option Prop->ak->Prop):Prop:=
 match flatK ah 5 t,(aE ah t).agg with
 |some c7,true=>match op with
  | .eql=>qL c7 a b λr=>K none (.v (.bool r))
  | .neq=>qL c7 a b λr=>K none (.v (.bool (!r)))
  |_=>False
 |_,_=>False
def CS(ah:dJ)(t:TypeId)(op:BinOp)(x y:ak)(K:Option Prop->ak->Prop):Prop:=
 match x,y with
 | .v (.int k a),.v (.int eO b)=>match U2 op with
  |true=>FD op k a b K
  |false=>match sj k eO with
   |true=>FC op k a b K
   |false=>False
 | .v (.string a),.v (.string b)=>Jn op a b K
 | .v (.bool a),.v (.bool b)=>match (aE ah t).k with
  | .bool=>FE op a b K
  |_=>False
 | .agg a,.agg b=>CR ah t op a b K
 |_,_=>False
def h2:List (TypeId×Nat)->Nat->TypeId×Nat
 | [],_=>(0,0)
 |x::_,0=>x
 |_::r,n+1=>h2 r n
def Jo:Operand->Option Nat
 | .const (.int _ (.ofNat n))=>some n
 |_=>none
def Al(b:UInt8):List ak:=[.v (.int .u8 b.toNat)]
def rA(ρ:Operand->ak)(place:Nat->Nat×Nat):List (Nat×Operand)->List ak->(List ak->Prop)->Prop
 | [],cs,K=>K cs
 | (i,x)::r,cs,K=>gW (ρ x) λd=>match d with
  | .b8 _ _=>False
  | .be _=>False
  | .aY=>False
  |d=>match Nat.beq (dn d).length (place i).2&&Nat.ble ((place i).1+(dn d).length) cs.length&&Nat.blt 0 (place i).2 with
   |true=>td (jC cs (place i).1 (dn d)) λdI=>rA ρ place r dI K
   |false=>False
def tg(ρ:Operand->ak):List Operand->(List ak->Prop)->Prop
 | [],K=>K []
 |x::r,K=>gW (ρ x) λd=>tg ρ r λl=>K (d::l)
def mz:ak->Bool
 | .v _| .av .. | .ar| .da _| .fn _ []=>true
 |_=>false
def Oc:ak->Bool
 | .aW _ _=>true
 |_=>false
def l8:ak->Bool
 | .aW _ _=>true
 |d=>mz d
def qM:ak->Bool
 | .v _| .av .. | .ar| .da _=>true
 | .fn _ cr=>cr.all mz
 |_=>false
def pv:List ak->Bool
 | []=>true
 |d::r=>match qM d with
  |true=>pv r
  |false=>false
def xc(loc:List aX)(d:ak)(K:Option Prop->ak->Prop):Prop:=
 match d with
 | .aW i o=>K none (.aW i o)
 | .dU i o=>K none (.dU i o)
 | .de i k o=>match jR (bN loc i)with
  |true=>K none (.de i k o)
  |false=>False
 | .da cs=>K none (.da cs)
 | .fn (.func f) c=>K none (.fn (.func f) c)
 |_=>False
def Am(ρ:Operand->ak)(c a b:Operand)(K:Option Prop->ak->Prop):Prop:=
 match ρ c with
 | .v (.bool t)=>tf t (ρ a) λfJ x=>tf (!t) (ρ b) λeP y=>gW x λx=>gW y λy=>rz t x y (sh a) (si b) λd=>K (andO fJ eP) d
 |_=>False
def CT(op:UnOp)(d:ak)(K:Option Prop->ak->Prop):Prop:=
 match op,d with
 | .not,.v (.bool b)=>K none (.v (.bool !b))
 | .neg,.v (.int k n)=>K none (.v (.int k (k.wrap (0-n))))
 | .xor,.v (.int k n)=>K none (.v (.int k (bits .xor k (if k.signed then -1 else k.max) n)))
 |_,_=>False
def CU(ah:dJ)(c7 k:Jm)(d:ak)(K:Option Prop->ak->Prop):Prop:=
 match c7,k,d with
 | .int _,.int k,.v (.int _ n)=>K none (.v (.int k (k.wrap n)))
 | .str,.str,.v (.string s)=>K none (.v (.string s))
 | .fb e,.str,.av ay es _=>match (aE ah e).k,Nat.beq ay 1 with
  | .int .u8,true=>∃rB:List UInt8,K (some (es=rB.map Al)) (.v (.string ⟨rB.toArray⟩))
  |_,_=>False
 |_,_,_=>False
def xd(ah:dJ)(loc:List aX)(t:TypeId)(f:Nat)(d:ak)(K:Option Prop->ak->Prop):Prop:=
 match (aE ah t).k with
 | .b4 fs=>match (aE ah (h2 fs f).1).size with
  |0=>False
  |_=>match d with
   | .aW i o=>K none (.aW i (o+(h2 fs f).2))
   | .dU i o=>K none (.dU i (o+(h2 fs f).2))
   | .de i k o=>match jR (bN loc i)with
    |true=>K none (.de i k (o+(h2 fs f).2))
    |false=>False
   | .da cs=>qK (h2 fs f).2 cs λl=>K none (.da l)
   |_=>False
 |_=>False
def mA(agg:Bool)(size:Nat)(l:List ak)(K:ak->Prop):Prop:=
 match agg with
 |true=>xa size l λl=>K (.agg l)
 |false=>match l with
  |d::_=>gW d λd=>K d
  | []=>False
def CV(ah:dJ)(t:TypeId)(f:Nat)(d:ak)(K:Option Prop->ak->Prop):Prop:=
 match (aE ah t).k with
 | .b4 fs=>match (aE ah (h2 fs f).1).size with
  |0=>False
  |_=>match d with
   | .agg cs=>qK (h2 fs f).2 cs λl=>mA (aE ah (h2 fs f).1).agg (aE ah (h2 fs f).1).size l λd=>K none d
   |_=>False
 |_=>False
def An(loc:List aX)(size:Nat)(iX:Int)(d:ak)(K:Option Prop->ak->Prop):Prop:=
 match d with
 | .av ay es _=>match Nat.beq ay size with
  |true=>∃ (k:Nat) (gb:List ak),K (some (iX=k/\es[k]?=some gb)) (.da gb)
  |false=>False
 | .own j=>match bN loc j with
  | .row _ ay es=>match Nat.beq ay size with
   |true=>∃k:Nat,K (some (iX=k/\k<es.length)) (.de j k 0)
   |false=>False
  |_=>False
 |_=>False
def CW(n size:Nat)(lit:Option Nat)(iX:Int)(d:ak)(K:Option Prop->ak->Prop):Prop:=
 match lit with
 |some m=>match d with
  | .aW j o=>K (some (m<n)) (.aW j (o+m*size))
  | .dU j o=>K (some (m<n)) (.dU j (o+m*size))
  |_=>False
 |none=>match d with
  | .aW j o=>∃k:Nat,K (some (iX=k/\k<n)) (.dU j (o+k*size))
  | .dU j o=>∃k:Nat,K (some (iX=k/\k<n)) (.dU j (o+k*size))
  |_=>False
def xe(ah:dJ)(loc:List aX)(t:TypeId)(i:Operand)(x y:ak)(K:Option Prop->ak->Prop):Prop:=
 match (aE ah t).k,y with
 | .fb e,.v (.int _ iX)=>match (aE ah e).size with
  |0=>False
  |_=>An loc (aE ah e).size iX x K
 | .arr n e,.v (.int _ iX)=>match (aE ah e).size with
  |0=>False
  |_=>CW n (aE ah e).size (Jo i) iX x K
 |_,_=>False
def CX(ah:dJ)(t:TypeId)(x y:ak)(K:Option Prop->ak->Prop):Prop:=
 match y with
 | .v (.int _ iX)=>match (aE ah t).k,x with
  | .str,.v (.string s)=>∃k:Nat,K (some (iX=k/\k<s.size)) (.v (.int .u8 (s.data.getD k 0).toNat))
  | .arr n e,.agg cs=>match (aE ah e).agg,Nat.beq (aE ah e).size 1 with
   |false,true=>∃ (k:Nat) (d:ak),gW d λd=>K (some (iX=k/\k<n/\cs[k]?=some d)) d
   |_,_=>False
  |_,_=>False
 |_=>False
def uB(ah:dJ)(loc:List aX)(t:TypeId)(d:ak)(K:Option Prop->ak->Prop):Prop:=
 match (aE ah t).size with
 |0=>False
 |_=>match d with
  | .da cs=>mA (aE ah t).agg (aE ah t).size cs λd=>K none d
  | .aW i o=>match bN loc i with
   | .cells _ cs=>qK o cs λl=>mA (aE ah t).agg (aE ah t).size l λd=>K none d
   |_=>False
  | .dU i o=>match bN loc i with
   | .cells _ cs=>match (aE ah t).agg with
    |true=>∃ds:List ak,K (some ((cs.drop o).take (aE ah t).size=ds/\ds.length=(aE ah t).size)) (.agg ds)
    |false=>∃d:ak,gW d λd=>K (some (cs[o]?=some d)) d
   |_=>False
  | .de i k o=>match bN loc i with
   | .row _ _ es=>∃gb:List ak,qK o gb λl=>mA (aE ah t).agg (aE ah t).size l λd=>K (some (es[k]?=some gb)) d
   |_=>False
  |_=>False
def CY(n:Nat)(d:ak)(K:Option Prop->ak->Prop):Prop:=
 match d with
 | .be ds=>qK n ds λl=>match l with
  |d::_=>gW d λd=>K none d
  | []=>False
 |_=>False
def oo(ρ:Operand->ak)(o:Option Operand)(n:Nat)(gr:Nat):Prop:=
 match o with
 |some o=>∃k,ρ o= .v (.int k n)
 |none=>n=gr
def CZ(ah:dJ)(t:TypeId)(ρ:Operand->ak)(d:ak)(fj hi eS:Option Operand)(K:Option Prop->ak->Prop):Prop:=
 match (aE ah t).k,d with
 | .str,.v (.string s)=>match eS with
  |none=>∃l h:Nat,K (some (oo ρ fj l 0/\oo ρ hi h s.size/\l<=h/\h<=s.size)) (.v (.string (s.extract l h)))
  |some _=>False
 | .fb e,.ar=>match (aE ah e).size,eS with
  |0,_=>False
  |_,some _=>False
  |_,none=>K (some (oo ρ fj 0 0/\oo ρ hi 0 0)) .ar
 | .fb e,.av ay es tc=>match (aE ah e).size,Nat.beq ay (aE ah e).size with
  |0,_=>False
  |_,false=>False
  |_,true=>match hi,eS with
   |none,none=>∃l:Nat,K (some (oo ρ fj l 0/\l<=es.length)) (.av ay (es.drop l) tc)
   |some aH,none=>∃l h:Nat,K (some (oo ρ fj l 0/\oo ρ (some aH) h 0/\l<=h/\h<=es.length)) (.av ay ((es.take h).drop l) false)
   |some aH,some Od=>∃l h:Nat,K (some (oo ρ fj l 0/\oo ρ (some aH) h 0/\oo ρ (some Od) h 0/\l<=h/\h<=es.length)) (.av ay ((es.take h).drop l) true)
   |none,some _=>False
 |_,_=>False
def vR(ah:dJ)(loc:List aX)(t:TypeId)(d:ak)(K:Option Prop->ak->Prop):Prop:=
 match (aE ah t).k with
 | .fb _=>match d with
  | .av _ es _=>K none (.v (.int .i64 es.length))
  | .ar=>K none (.v (.int .i64 (0:Nat)))
  | .own j=>match bN loc j with
   | .row _ _ es=>K none (.v (.int .i64 es.length))
   |_=>False
  |_=>False
 | .str=>match d with
  | .v (.string s)=>K none (.v (.int .i64 s.size))
  |_=>False
 | .arr n _=>K none (.v (.int .i64 n))
 |_=>False
def Ao(a b:ak)(K:Option Prop->ak->Prop):Prop:=
 match a,b with
 | .v (.int k a),.v (.int _ b)=>K none (.v (.int k (if b<a then b else a)))
 |_,_=>False
def Ap(a b:ak)(K:Option Prop->ak->Prop):Prop:=
 match a,b with
 | .v (.int k a),.v (.int _ b)=>K none (.v (.int k (if a<b then b else a)))
 |_,_=>False
def C0(ah:dJ):List (TypeId×Nat)->Bool
 | []=>true
 |f::r=>match (aE ah f.1).size with
  |0=>false
  |_=>C0 ah r
def C1(ah:dJ)(t:TypeId)(ρ:Operand->ak)(parts:List (Nat×Operand))(K:Option Prop->ak->Prop):Prop:=
 match (aE ah t).k with
 | .b4 fs=>match C0 ah fs,(aE ah t).size with
  |true,_+1=>rA ρ (λi=>match Nat.blt i fs.length with
   |true=>((h2 fs i).2,(aE ah (h2 fs i).1).size)
   |false=>(0,0)) parts (aE ah t).zero λl=>K none (.agg l)
  |_,_=>False
 | .arr _ e=>match (aE ah e).size,(aE ah t).size with
  |_+1,_+1=>rA ρ (λi=>(i* (aE ah e).size,(aE ah e).size)) parts (aE ah t).zero λl=>K none (.agg l)
  |_,_=>False
 |_=>False
def oq(ah:dJ)(loc:List aX)(o:Op)(ρ:Operand->ak)(K:Option Prop->ak->Prop):Prop:=
 match o with
 | .move x| .assign x=>gW (ρ x) λd=>K none d
 | .pick c a b=>Am ρ c a b K
 | .nilCheck x=>xc loc (ρ x) K
 | .binOp op t x y _=>CS ah t op (ρ x) (ρ y) K
 | .unOp op _ x=>CT op (ρ x) K
 | .convert src dst x=>CU ah (aE ah src).k (aE ah dst).k (ρ x) K
 | .fieldAddr t x f=>xd ah loc t f (ρ x) K
 | .field t x f=>CV ah t f (ρ x) K
 | .indexAddr t x i=>xe ah loc t i (ρ x) (ρ i) K
 | .index t x i=>CX ah t (ρ x) (ρ i) K
 | .load t x=>uB ah loc t (ρ x) K
 | .extract x n=>CY n (ρ x) K
 | .slice t x fj hi eS=>CZ ah t ρ (ρ x) fj hi eS K
 | .makeFunc f first cr=>match first.toList with
  | []=>tg ρ cr.toList λl=>match l.all l8 with
   |true=>K none (.fn f l)
   |false=>False
  |_=>False
 | .build t parts=>C1 ah t ρ parts.toList K
 | .call {callee:=.builtin .len,args,argTypes}=>match args.toList,argTypes.toList with
  | [x],[t]=>vR ah loc t (ρ x) K
  |_,_=>False
 | .call {callee:=.builtin .min,args,..}=>match args.toList with
  | [x,y]=>Ao (ρ x) (ρ y) K
  |_=>False
 | .call {callee:=.builtin .max,args,..}=>match args.toList with
  | [x,y]=>Ap (ρ x) (ρ y) K
  |_=>False
 |_=>False
def Jp(o:Op)(ρ:Operand->ak):Bool:=
 match o with
 | .binOp _ _ x _ _=>match ρ x with
  | .own _=>false
  | .av .. =>false
  | .ar=>false
  |_=>true
 | .move _| .assign _| .pick .. | .nilCheck _| .unOp .. | .fieldAddr .. | .field .. | .indexAddr .. | .index .. | .load .. | .extract .. | .makeFunc .. | .build .. =>true
 | .convert _ _ x=>match ρ x with
  | .own _=>false
  |_=>true
 | .slice _ x _ _ _=>match ρ x with
  | .own _=>false
  |_=>true
 | .call {callee:=.builtin .len,..}| .call {callee:=.builtin .min,..}| .call {callee:=.builtin .max,..}=>true
 |_=>false
def mY:ak->Bool
 | .own _=>true
 |_=>false
def qN(ds:List ak):ak:=
 match ds.any mY with
 |false=>.be ds
 |true=>.aY
def kJ(i:Nat)(r:ak):ak->ak
 | .own j=>match Nat.beq i j with|true=>r|false=>.own j
 | .de j k o=>match Nat.beq i j with|true=>.aY|false=>.de j k o
 | .b8 b d=>.b8 b (kJ i r d)
 |d=>d
def sk(i:Nat)(r:ak):ak->ak
 | .agg cs=>.agg (cs.map (kJ i r))
 | .be ds=>qN ds
 | .b8 b d=>.b8 b (sk i r d)
 |d=>kJ i r d
def AC(f:ak->ak):List (Nat×ak)->List (Nat×ak)
 | []=>[]
 |p::r=>(p.1,f p.2)::AC f r
def oV(f:ak->ak):List aX->List aX
 | []=>[]
 | .cells t cs::r=>.cells t (cs.map f)::oV f r
 | .cB cs::r=>.cB (cs.map f)::oV f r
 |o::r=>o::oV f r
def bJ.grow(s:bJ)(i:Nat)(e:TypeId)(ay:Nat)(es:List (List ak)):bJ:=
 ⟨AC (sk i .aY) s.env,gq (oV (kJ i .aY) s.loc) i (.row e ay es)⟩
def bJ.j6(s:bJ)(i ay:Nat)(es:List (List ak)):bJ:=
 ⟨AC (sk i (.av ay es false)) s.env,gq (oV (kJ i (.av ay es false)) s.loc) i .bn⟩
def FF(i:Nat)(cs:List ak):ak->ak
 | .aW j o=>match Nat.beq i j with|true=>.da (cs.drop o)|false=>.aW j o
 |d=>d
def mZ(i:Nat)(cs:List ak):ak->ak
 | .aW j o=>match Nat.beq i j with|true=>.da (cs.drop o)|false=>.aW j o
 | .dU j o=>match Nat.beq i j with|true=>.da (cs.drop o)|false=>.dU j o
 | .fn f cr=>.fn f (cr.map (FF i cs))
 | .b8 b d=>.b8 b (mZ i cs d)
 |d=>d
def C2(i:Nat)(cs:List ak):ak->ak
 | .agg l=>.agg (l.map (mZ i cs))
 | .be ds=>qN ds
 | .b8 b d=>.b8 b (C2 i cs d)
 |d=>mZ i cs d
def bJ.Jq(s:bJ)(i:Nat)(cs:List ak):bJ:=
 ⟨AC (C2 i cs) s.env,gq (oV (mZ i cs) s.loc) i .bn⟩
def oW(ds:List ak)(s:bJ)(K:bJ->Prop):Prop:=
 match ds with
 | []=>K s
 | .own j::r=>match bN s.loc j with
  | .row _ ay es=>oW r (s.j6 j ay es) K
  | .cells _ _=>False
  |_=>oW r s K
 | .aW j _::r=>match bN s.loc j with
  | .cells _ cs=>match pv cs with
   |true=>oW r (s.Jq j cs) K
   |false=>False
  | .row .. =>False
  |_=>oW r s K
 |_::r=>oW r s K
def FG:ak->Bool
 | .v _=>true
 |_=>false
def xf:ak->Bool
 | .v _=>true
 | .agg cs=>cs.all FG
 | .be ds=>ds.all λd=>match d with| .v _=>true| .agg cs=>cs.all FG|_=>false
 |_=>false
def vS(loc:List aX)(d:ak)(K:ak->Prop):Prop:=
 match d with
 | .aW j o=>match bN loc j with
  | .cells _ cs=>match pv cs with
   |true=>K (.da (cs.drop o))
   |false=>False
  |_=>False
 |d=>K d
def yw(loc:List aX):List ak->(List ak->Prop)->Prop
 | [],K=>K []
 |d::r,K=>vS loc d λd=>yw loc r λl=>K (d::l)
def ot(loc:List aX)(d:ak)(K:ak->Prop):Prop:=
 match d with
 | .own j=>match bN loc j with
  | .row _ ay es=>K (.av ay es false)
  |_=>False
 | .aW j o=>match bN loc j with
  | .cells _ cs=>match pv cs with
   |true=>K (.da (cs.drop o))
   |false=>False
  |_=>False
 | .fn f cr=>yw loc cr λl=>K (.fn f l)
 | .dU .. | .de .. | .b8 .. =>False
 | .agg _=>False
 | .be _=>False
 |d=>K d
def C3(loc:List aX):List ak->(List ak->Prop)->Prop
 | [],K=>K []
 |d::r,K=>ot loc d λd=>C3 loc r λl=>K (d::l)
def uC(loc:List aX)(d:ak)(K:ak->Prop):Prop:=
 match d with
 | .agg cs=>C3 loc cs λl=>K (.agg l)
 | .be ds=>match ds.any mY with
  |false=>K (.be ds)
  |true=>False
 |d=>ot loc d K
def th(loc:List aX):List ak->(List ak->Prop)->Prop
 | [],K=>K []
 |d::r,K=>uC loc d λd=>th loc r λl=>K (d::l)
def U3(loc:List aX)(d:ak):Bool:=
 match d with
 | .aW j _=>match bN loc j with
  | .cells _ cs=>pv cs
  |_=>true
 |_=>true
def nx:ak->List ak
 | .own j=>[.own j]
 | .aW j o=>[.aW j o]
 | .fn _ cr=>cr.filter Oc
 |_=>[]
def gX:List ak->List ak
 | []=>[]
 | .agg cs::r=>cs.flatMap nx++gX r
 |d::r=>nx d++gX r
inductive hQ:ak->ak->Prop
 |refl{d:ak}:hQ d d
 |nil{ay mB:Nat}{f lJ:Bool}(h:lJ=true->f=true):hQ (.av ay [] f) (.av mB [] lJ)
 |ar{ay:Nat}{f:Bool}:hQ .ar (.av ay [] f)
 |av{ay:Nat}{es:List (List ak)}{f:Bool}:hQ (.av ay es f) (.av ay es false)
 |jS{ay:Nat}{es fK:List (List ak)}{f:Bool}(af:es.length=fK.length)(ao:∀ (i:Nat) r eY,es[i]?=some r->fK[i]?=some eY->r.length=eY.length)
   (h:∀ (i j:Nat) r eY c d,es[i]?=some r->fK[i]?=some eY->r[j]?=some c->eY[j]?=some d->hQ c d):hQ (.av ay es f) (.av ay fK f)
 |agg{cs ds:List ak}(af:cs.length=ds.length)(h:∀ (i:Nat) c d,cs[i]?=some c->ds[i]?=some d->hQ c d):hQ (.agg cs) (.agg ds)
 |be{cs ds:List ak}(af:cs.length=ds.length)(h:∀ (i:Nat) c d,cs[i]?=some c->ds[i]?=some d->hQ c d):hQ (.be cs) (.be ds)
 |aY{d:ak}:hQ d .aY
variable{d:ak}
theorem hQ.r:hQ d d:=.refl
def m4:List ak->List ak->Prop
 | [],[]=>True
 |x::r,y::eY=>hQ x y/\m4 r eY
 |_,_=>False
theorem Aq:∀l:List ak,m4 l l
 | []=>trivial
 |_::r=>⟨.r,Aq r⟩
inductive b7(A:Nat->Prop)(w:World):Value->ak->Prop
 |v{x:Value}(h:x.oneCell'=true):b7 A w x (.v x)
 |av{a:Addr}{n c ay:Nat}{es:List (List ak)}{tc:Bool}(xs:Nat->Nat->Value)(aV:es.length=n)(al:n<=c)(az:c<=maxLen)(au:tc=true->c=n)(cC:∀e∈es,e.length=ay)
   (ai:es≠ []->¬A a.block) (ac:es≠ []->a.block<w.heap.size) (br:∀i j,(xs i j).oneCell'=true)
   (dD:∀ (i j:Nat) e d,es[i]?=some e->e[j]?=some d->w.cell? (a.add (i*ay+j))=some (xs i j))
   (ag:∀ (i j:Nat) e d,es[i]?=some e->e[j]?=some d->b7 A w (xs i j) d):b7 A w (.slice (some a) n c) (.av ay es tc)
 |nil{ay:Nat}{tc:Bool}:b7 A w (.slice none 0 0) (.av ay [] tc)
 |ar:b7 A w (.slice none 0 0) .ar
 |agg{vs:List Value}{ds:List ak}(af:vs.length=ds.length)(br:∀v∈vs,v.oneCell'=true)(h:∀ (i:Nat) v d,vs[i]?=some v->ds[i]?=some d->b7 A w v d):b7 A w (.agg vs.toArray) (.agg ds)
 |be{vs:List Value}{ds:List ak}(af:vs.length=ds.length)(h:∀ (i:Nat) v d,vs[i]?=some v->ds[i]?=some d->b7 A w v d):b7 A w (.tuple vs.toArray) (.be ds)
 |da{a:Addr}{cs:List ak}(xs:Nat->Value)(ai:¬A a.block)(ac:a.block<w.heap.size)(br:∀i,(xs i).oneCell'=true)(dD:∀ (j:Nat) d,cs[j]?=some d->w.cell? (a.add j)=some (xs j))(ag:∀ (j:Nat) d,cs[j]?=some d->b7 A w (xs j) d):
   b7 A w (.pointer (some a)) (.da cs)
 |fn{f:Fn}{vs:List Value}{ds:List ak}(af:vs.length=ds.length)(h:∀ (i:Nat) v d,vs[i]?=some v->ds[i]?=some d->b7 A w v d):b7 A w (.func f #[] vs.toArray) (.fn f ds)
 |b8{b:Bool}{d:ak}{x:Value}(h:b=true->b7 A w x d)(aQ:b=false->x=undef):b7 A w x (.b8 b d)
 |aY{x:Value}:b7 A w x .aY
def sl(A:Nat->Prop)(w:World):List Value->List ak->Prop
 | [],[]=>True
 |v::vs,d::ds=>b7 A w v d/\sl A w vs ds
 |_,_=>False
def bI:Value->Option Nat
 | .pointer (some a)=>some a.block
 | .slice (some a) _ _=>some a.block
 |_=>none
structure e8 where
 w:World
 M:Nat->Prop
 gs:List Value
def e8.mine(h:e8)(b:Nat):Prop:=h.w.heap.size<=b\/h.M b
structure pw(M:Nat->Prop)(w w':World):Prop where
 os:w'.os=w.os
 tape:w'.tape=w.tape
 output:w'.output=w.output
 size:w.heap.size<=w'.heap.size
 block:∀k,k<w.heap.size->¬M k->w'.heap[k]?=w.heap[k]?
abbrev c3:=List (Value×aX)
inductive bg(A:Nat->Prop)(os:c3)(w:World):Value->ak->Prop
 |bQ{x:Value}{d:ak}(h:b7 A w x d):bg A os w x d
 |aW{i off g:Nat}{t:TypeId}{cs:List ak}(h:os[i]?=some (.pointer (some ⟨g,0,none⟩),.cells t cs)):bg A os w (.pointer (some ⟨g,off,none⟩)) (.aW i off)
 |dU{i off g:Nat}{t:TypeId}{cs:List ak}(h:os[i]?=some (.pointer (some ⟨g,0,none⟩),.cells t cs)):bg A os w (.pointer (some ⟨g,off,none⟩)) (.dU i off)
 |de{i k off g n c:Nat}{e:TypeId}{ay:Nat}{es:List (List ak)}(h:os[i]?=some (.slice (some ⟨g,0,none⟩) n c,.row e ay es)):bg A os w (.pointer (some ⟨g,k*ay+off,none⟩)) (.de i k off)
 |own{i:Nat}{x:Value}{e:TypeId}{ay:Nat}{es:List (List ak)}(h:os[i]?=some (x,.row e ay es))(h1:x.oneCell'=true):bg A os w x (.own i)
 |e5{i:Nat}{x y:Value}{d:ak}(h:os[i]?=some (y,.gone))(aa:d= .own i\/∃k off,d= .de i k off)(h1:x.oneCell'=true):bg A os w x d
 |agg{vs:List Value}{ds:List ak}(af:vs.length=ds.length)(br:∀v∈vs,v.oneCell'=true)(h:∀ (i:Nat) v d,vs[i]?=some v->ds[i]?=some d->bg A os w v d):bg A os w (.agg vs.toArray) (.agg ds)
 |fn{f:Fn}{vs:List Value}{ds:List ak}(af:vs.length=ds.length)(iM:∀d∈ds,l8 d=true)(h:∀ (i:Nat) v d,vs[i]?=some v->ds[i]?=some d->bg A os w v d):bg A os w (.func f #[] vs.toArray) (.fn f ds)
 |be{vs:List Value}{ds:List ak}(af:vs.length=ds.length)(b0:∀ (i:Nat) v d,vs[i]?=some v->ds[i]?=some d->mY d=true\/b7 A w v d)(h:∀ (i:Nat) v d,vs[i]?=some v->ds[i]?=some d->bg A os w v d):bg A os w (.tuple vs.toArray) (.be ds)
 |b8{b:Bool}{d:ak}{x:Value}(h:b=true->bg A os w x d)(aQ:b=false->x=undef):bg A os w x (.b8 b d)
def lK(A:Nat->Prop)(os:c3)(B:e8)(w:World)(x:Value)(o:aX):Prop:=
 match o with
 | .bn=>True
 | .gone=>bI x=none
 | .cB ds=>x= .tuple B.gs.toArray/\B.gs.length=ds.length/\(∀v∈B.gs,v.oneCell'=true)/\∀ (i:Nat) v d,B.gs[i]?=some v->ds[i]?=some d->bg A os w v d
 | .cells t cs=>∃g arr,x= .pointer (some ⟨g,0,none⟩)/\B.mine g/\w.heap[g]?=some (.cells arr t (0,0))/\arr.size=cs.length/\(∀v∈arr.toList,v.oneCell'=true)/\
   ∀ (j:Nat) v d,arr[j]?=some v->cs[j]?=some d->bg A os w v d
 | .row e ay es=>(∀b,bI x=some b->B.mine b)/\∃xs,w.ownsRow 0 e ay x es.length xs/\0<ay/\(∀r∈es,r.length=ay)/\(∀v∈xs,v.oneCell'=true)/\
   ∀ (k j:Nat) r d,es[k]?=some r->r[j]?=some d->∃v,xs[k*ay+j]?=some v/\b7 A w v d
def yx(A:Nat->Prop)(os:c3)(B:e8)(w:World):Prop:=∀ (i:Nat) x o,os[i]?=some (x,o)->lK A os B w x o
def bh(aD:Nat->Prop)(os:c3)(b:Nat):Prop:=aD b\/∃ (i:Nat) (x:Value) (o:aX),os[i]?=some (x,o)/\o≠ .bn/\bI x=some b
def hp(os:c3)(b:Nat):Prop:=∃ (i:Nat) (x:Value) (o:aX),os[i]?=some (x,o)/\o≠ .bn/\bI x=some b
def U4(w:World):e8:=⟨w,λ_=>True,[]⟩
structure uD(A:Nat->Prop)(os:c3)(L:List aX)(w:World):Prop where
 loc:os.map (·.2)=L
 cW:yx (bh A os) os (U4 w) w
 inj:∀ (i j:Nat) x o y aT b,os[i]?=some (x,o)->os[j]?=some (y,aT)->o≠ .bn->aT≠ .bn->bI x=some b->bI y=some b->i=j
 out:∀b,A b->¬hp os b
def xg(A:Nat->Prop)(os:c3)(w:World):List Value->List ak->Prop
 | [],[]=>True
 |v::vs,d::ds=>bg A os w v d/\xg A os w vs ds
 |_,_=>False
def cj(P:Program)(f:FuncId)(L:List aX)(args:List ak)(kept:List Bool)(bK:List aX)(d:ak):Prop:=
 (∀ (vs:Array Value) (w:World),(callFunc f vs).run P w= .ok (.enter f vs) w)/\∀ (A:Nat->Prop) (w:World) (os:c3) (fL:List Value),(∀b,A b->b<w.heap.size)->uD A os L w->xg (bh A os) os w fL args->
  Calls P f fL.toArray w λe w'=>∃v aP,e= .returned v/\uD A aP bK w'/\bg (bh A aP) aP w' v d/\pw (hp os) w w'/\(∀b,hp aP b->hp os b\/w.heap.size<=b)/\
   ∀ (i:Nat) x o,kept[i]?=some true->os[i]?=some (x,o)->∃aT,aP[i]?=some (x,aT)
inductive hz:aX->aX->Prop
 |refl{o:aX}:hz o o
 |cells{t:TypeId}{cs ds:List ak}(af:cs.length=ds.length)(h:∀ (i:Nat) c d,cs[i]?=some c->ds[i]?=some d->hQ c d):hz (.cells t cs) (.cells t ds)
 |cB{cs ds:List ak}(af:cs.length=ds.length)(h:∀ (i:Nat) c d,cs[i]?=some c->ds[i]?=some d->hQ c d):hz (.cB cs) (.cB ds)
 |bn{o:aX}:hz o .bn
theorem hz.r{d:aX}:hz d d:=.refl
def kp(l:List aX):ak->Bool
 | .own i| .de i _ _=>jR (bN l i)
 | .aW i _| .dU i _=>ry (bN l i)
 | .fn _ cr=>cr.all λd=>match d with
  | .aW i _=>ry (bN l i)
  |_=>true
 | .agg _| .be _| .b8 .. =>false
 |_=>true
def kK(l:List aX):ak->Bool
 | .agg cs=>cs.all (kp l)
 |d=>kp l d
def C4(l:List aX):List (Nat×ak)->Bool
 | []=>true
 |p::r=>kK l p.2&&C4 l r
def oX(l:List aX):List aX->Bool
 | []=>true
 | .cells _ cs::r=>cs.all (kp l)&&oX l r
 | .cB cs::r=>cs.all (kp l)&&oX l r
 |_::r=>oX l r
def dp:List Nat->Nat->Nat
 | [],_=>0
 |i::_,0=>i
 |_::r,k+1=>dp r k
def sm(ρ:Nat->Nat):ak->ak
 | .aW j o=>.aW (ρ j) o
 |d=>d
def rC(ρ:Nat->Nat):ak->ak
 | .own j=>.own (ρ j)
 | .aW j o=>.aW (ρ j) o
 | .dU j o=>.dU (ρ j) o
 | .de j k o=>.de (ρ j) k o
 | .fn f cr=>.fn f (cr.map (sm ρ))
 | .b8 b d=>.b8 b (rC ρ d)
 |d=>d
def k2(ρ:Nat->Nat):ak->ak
 | .agg cs=>.agg (cs.map (rC ρ))
 | .be ds=>.be (ds.map (rC ρ))
 | .b8 b d=>.b8 b (k2 ρ d)
 |d=>rC ρ d
def gL(ρ:Nat->Nat):aX->aX
 | .cells t cs=>.cells t (cs.map (rC ρ))
 | .cB _=>.bn
 |o=>o
def ti(ρ:Nat->Nat):aX->aX
 | .cells t cs=>.cells t (cs.map (rC ρ))
 | .cB ds=>.cB (ds.map (rC ρ))
 |o=>o
def aF(m k:Nat):Nat:=
 match Nat.blt m k with
 |true=>k-1
 |false=>k
def C5(J:List Nat):ak->Bool
 | .aW j _=>J.contains j
 |_=>false
def h3(J:List Nat):ak->ak
 | .own j=>match J.contains j with|true=>.aY|false=>.own j
 | .aW j o=>match J.contains j with|true=>.aY|false=>.aW j o
 | .dU j o=>match J.contains j with|true=>.aY|false=>.dU j o
 | .de j k o=>match J.contains j with|true=>.aY|false=>.de j k o
 | .fn f cr=>match cr.any (C5 J)with|true=>.aY|false=>.fn f cr
 | .b8 b d=>.b8 b (h3 J d)
 |d=>d
def uE(J:List Nat):ak->ak
 | .agg cs=>.agg (cs.map (h3 J))
 | .be ds=>.be (ds.map (h3 J))
 | .b8 b d=>.b8 b (uE J d)
 |d=>h3 J d
def yy:List Nat->List Bool->List Nat
 |i::r,true::k=>yy r k
 |i::r,_::k=>i::yy r k
 |r,[]=>r
 | [],_=>[]
def px:List aX->List Nat->List aX->List aX
 |l,i::r,o::eY=>px (gq l i o) r eY
 |l,_,_=>l
def Jr(J:List Nat)(e:List (Nat×ak)):List (Nat×ak):=
 match J with
 | []=>e
 |_=>AC (uE J) e
def Ar(J:List Nat)(l:List aX):List aX:=
 match J with
 | []=>l
 |_=>oV (h3 J) l
def FH(s:bJ)(cR:List Nat)(J:List Nat)(bK:List aX):bJ:=
 ⟨Jr J s.env,px (Ar J s.loc) cR (bK.map (gL (dp cR)))⟩
def Js:aX->aX->Bool
 | .row e ay _,.row e' mB _=>Nat.beq e e'&&Nat.beq ay mB
 | .cells t _,.cells eB _=>Nat.beq t eB
 |_,_=>false
def tj:List Bool->List aX->List aX->Bool
 | [],[],_=>true
 |k::r,o::l,aT::cK=>(!k||Js o aT)&&tj r l cK
 |_,_,_=>false
def yz:List Bool->List aX->List aX->Bool
 |true::k,_::l,_::cK=>yz k l cK
 |false::k,.row _ _ _::l,.gone::cK=>yz k l cK
 | [],_,_=>true
 |_,_,_=>false
def As:List Nat->Bool
 | []=>true
 |i::r=> !r.contains i&&As r
def qO:List aX->Bool
 | []=>true
 | .cB _::_=>false
 |_::r=>qO r
def sn(loc:List aX)(ρ:Nat->Nat):List Nat->List aX->Prop
 | [],[]=>True
 |i::r,o::eY=>hz (bN loc i) (gL ρ o)/\sn loc ρ r eY
 |_,_=>False
def bM:Nat->Nat->List Nat
 |_,0=>[]
 |i,q+1=>i::bM (i+1) q
def xh(pass:List Nat)(loc:List aX)(d:ak)(K:ak->Prop):Prop:=
 match d with
 | .own j=>match pass.contains j with
  |true=>K (.own j)
  |false=>ot loc (.own j) K
 | .aW j o=>match pass.contains j with
  |true=>K (.aW j o)
  |false=>ot loc (.aW j o) K
 | .dU j o=>match pass.contains j with
  |true=>K (.dU j o)
  |false=>False
 | .de j k o=>match pass.contains j with
  |true=>K (.de j k o)
  |false=>False
 | .fn f cr=>match cr.any (C5 pass)with
  |true=>False
  |false=>ot loc (.fn f cr) K
 |d=>ot loc d K
def Oe(pass:List Nat)(loc:List aX):List ak->(List ak->Prop)->Prop
 | [],K=>K []
 |d::r,K=>xh pass loc d λd=>Oe pass loc r λl=>K (d::l)
def Of(pass:List Nat)(loc:List aX)(d:ak)(K:ak->Prop):Prop:=
 match d with
 | .agg cs=>Oe pass loc cs λl=>K (.agg l)
 |d=>xh pass loc d K
def Og(pass:List Nat)(loc:List aX):List ak->(List ak->Prop)->Prop
 | [],K=>K []
 |d::r,K=>Of pass loc d λd=>Og pass loc r λl=>K (d::l)
def C6(pass:List Nat)(args:List ak):List ak:=(gX args).filter λd=>match d with
 | .own j| .aW j _=> !pass.contains j
 |_=>true
def bq(P:Program)(f:FuncId)(args:List ak)(d:ak):Prop:=
 (∀ (vs:Array Value) (w:World),(callFunc f vs).run P w= .ok (.enter f vs) w)/\∀ (A:Nat->Prop) (w:World) (fL:List Value),(∀b,A b->b<w.heap.size)->sl A w fL args->
  Calls P f fL.toArray w λe w'=>∃v,e= .returned v/\b7 A w' v d/\w.grownBy w' none
def Jt(P:Program)(f:FuncId)(args:List ak)(s:bJ)(K:ak->bJ->Prop):Prop:=
 th s.loc args λl=>∃cK r,m4 l cK/\bq P f cK r/\match gX args with
  | []=>K r s
  |os=>match xf r with
   |true=>K r s
   |false=>oW os s λs=>K r s
def U5(P:Program)(f:FuncId)(args:List ak)(s:bJ)(K:ak->bJ->Prop):Prop:=
 ∃pass:List Nat,Og pass s.loc args λl=>oW (C6 pass args) s λs=>∃ (L:List aX) (kq:List ak) (kept:List Bool) (bK:List aX) (d:ak),
  cj P f L kq kept bK d/\(tj kept L bK&&qO L&&As pass&&pass.all (λi=>Nat.blt i s.loc.length)&&kq.all (kK L)&&oX L L)=true/\
  sn s.loc (dp (pass++bM s.loc.length (bK.length-L.length))) pass L/\m4 l (kq.map (k2 (dp (pass++bM s.loc.length (bK.length-L.length)))))/\
  K (k2 (dp (pass++bM s.loc.length (bK.length-L.length))) d) (FH ⟨s.env,s.loc++List.replicate (bK.length-L.length) .bn⟩ (pass++bM s.loc.length (bK.length-L.length)) (yy pass kept) bK)
def tk(ρ:Operand->ak)(size:Nat):List (Nat×Operand)->List (List ak)->(List (List ak)->Prop)->Prop
 | [],es,K=>K es
 | (i,x)::r,es,K=>gW (ρ x) λd=>match Nat.beq (dn d).length size&&Nat.blt i es.length&&pv (dn d)with
  |true=>tk ρ size r (es.set i (dn d)) K
  |false=>False
def Oh(s:bJ):List Operand->(bJ->Prop)->Prop
 | [],K=>K s
 |x::r,K=>gW (bF s x) λd=>oW (gX [d]) s λs'=>Oh s' r K
def tl(ah:dJ)(e:TypeId)(loc:List aX)(d:ak)(K:List (List ak)->Bool->Prop):Prop:=
 match d with
 | .ar=>K [] false
 | .av ay es _=>match Nat.beq ay (aE ah e).size with
  |true=>K es false
  |false=>False
 | .own j=>match bN loc j with
  | .row _ ay es=>match Nat.beq ay (aE ah e).size with
   |true=>K es true
   |false=>False
  |_=>False
 |_=>False
def kL(ah:dJ)(e:TypeId)(n:Nat):Prop:=n* (aE ah e).bytes<=140737488355328/\n<=maxLen
def Ju(ah:dJ)(e:TypeId)(s:bJ)(dst:Option Tmp)(x y:ak)(K:bJ->Prop):Prop:=
 tl ah e s.loc y λys some=>match x with
  | .ar=>kL ah e ys.length/\gp ⟨s.env,s.loc++ [.row e (aE ah e).size ys]⟩ dst (.own s.loc.length) K
  | .own i=>match bN s.loc i with
   | .row e' ay es=>match Nat.beq e' e&&Nat.beq ay (aE ah e).size with
    |true=>kL ah e (es.length+ys.length)/\gp (s.grow i e ay (es++ys)) dst (.own i) K
    |false=>False
   |_=>False
  | .av ay es true=>match Nat.beq ay (aE ah e).size with
   |true=>kL ah e (es.length+ys.length)/\match some with
    |true=>0<ys.length/\gp ⟨s.env,s.loc++ [.row e ay (es++ys)]⟩ dst (.own s.loc.length) K
    |false=>gp s dst (.av ay (es++ys) false) K
   |false=>False
  |_=>False
def FI(ah:dJ)(e:TypeId)(s:bJ)(dst:Option Tmp)(x y:ak)(K:bJ->Prop):Prop:=
 tl ah e s.loc y λys _=>match x with
  | .ar=>gp s dst (.v (.int .i64 (0:Nat))) K
  | .own i=>match bN s.loc i with
   | .row e' ay es=>match Nat.beq e' e&&Nat.beq ay (aE ah e).size with
    |true=>gp ⟨s.env,gq s.loc i (.row e ay (ys.take es.length++es.drop ys.length))⟩ dst (.v (.int .i64 (Nat.min ys.length es.length:Nat))) K
    |false=>False
   |_=>False
  |_=>False
def FJ(ah:dJ)(s:bJ)(dst:Option Tmp)(t:TypeId)(x d:ak)(K:bJ->Prop):Prop:=
 match x with
 | .de i k off=>match pv (dn d),bN s.loc i with
  |true,.row e ay es=>∃gb,es[k]?=some gb/\match Nat.beq (dn d).length (aE ah t).size&&Nat.ble (off+(dn d).length) ay with
   |true=>gp ⟨s.env,gq s.loc i (.row e ay (es.set k (jC gb off (dn d))))⟩ dst (.b8 false (.v (.bool false))) K
   |false=>False
  |_,_=>False
 |_=>False
def Au(ah:dJ)(s:bJ)(dst:Option Tmp)(t:TypeId)(a y:Operand)(d:ak)(K:bJ->Prop):Prop:=
 match (aE ah t).size with
 |0=>False
 |_=>match bF s a with
  | .aW i off=>match bN s.loc i with
   | .cells eB cs=>match Nat.beq (dn d).length (aE ah t).size&&Nat.ble (off+(dn d).length) cs.length with
    |false=>False
    |true=>td (jC cs off (dn d)) λdI=>gp ⟨s.env,gq s.loc i (.cells eB dI)⟩ dst (.b8 false (.v (.bool false))) K
   |_=>False
  | .dU i off=>match bN s.loc i with
   | .cells eB cs=>match Nat.beq (dn d).length (aE ah t).size with
    |true=>off+(dn d).length<=cs.length/\gp ⟨s.env,gq s.loc i (.cells eB (jC cs off (dn d)))⟩ dst (.b8 false (.v (.bool false))) K
    |false=>False
   |_=>False
  | .de _ _ _=>oW (gX [d]) s λs=>gW (bF s y) λd=>FJ ah s dst t (bF s a) d K
  |_=>False
def Jv(loc:List aX)(d:ak)(K:Bool->Prop):Prop:=
 match d with
 | .ar=>K true
 | .av _ es _=>(es=[]->K true)/\K false
 | .own j=>match bN loc j with
  | .row _ _ es=>(es=[]->K true)/\K false
  |_=>False
 |_=>False
def U6(loc:List aX)(op:BinOp)(d:ak)(K:Bool->Prop):Prop:=
 match op with
 | .eql=>Jv loc d λb=>K b
 | .neq=>Jv loc d λb=>K (!b)
 |_=>False
def C7(ah:dJ)(P:Program)(o:Oper)(s:bJ)(K:bJ->Prop):Prop:=
 match Jp o.op (bF s)with
 |true=>oq ah s.loc o.op (bF s) λc d=>te c (gp s o.dst d K)
 |false=>match o.op with
  | .alloc t=>match (aE ah t).size with
   |0=>False
   |_=>gp ⟨s.env,s.loc++ [.cells t (aE ah t).zero]⟩ o.dst (.aW s.loc.length 0) K
  | .box t x=>gW (bF s x) λd=>match d with
   | .agg cs=>td cs λcs=>gp ⟨s.env,s.loc++ [.cells t cs]⟩ o.dst (.aW s.loc.length 0) K
   | .b8 .. | .be _| .aY=>False
   |d=>gp ⟨s.env,s.loc++ [.cells t [d]]⟩ o.dst (.aW s.loc.length 0) K
  | .store t a x=>gW (bF s x) λd=>match d with
   | .b8 .. | .be _| .aY=>False
   |d=>Au ah s o.dst t a x d K
  | .buildSlice t n parts=>match (aE ah t).k with
   | .fb e=>match (aE ah e).size,Nat.ble (n* (aE ah e).size) 16777216 with
    |_+1,true=>Oh s (parts.toList.map (·.2)) λs=>tk (bF s) (aE ah e).size parts.toList (List.replicate n (aE ah e).zero) λes=>
     gp ⟨s.env,s.loc++ [.row e (aE ah e).size es]⟩ o.dst (.own s.loc.length) K
    |_,_=>False
   |_=>False
  | .makeSlice t l c=>match (aE ah t).k with
   | .fb e=>match (aE ah e).size,bF s l,bF s c with
    |_+1,.v (.int _ l),.v (.int _ c)=>∃n m:Nat,l=n/\c=m/\n<=m/\m* (aE ah e).bytes<=140737488355328/\m<=maxLen/\
      gp ⟨s.env,s.loc++ [.row e (aE ah e).size (List.replicate n (aE ah e).zero)]⟩ o.dst (.own s.loc.length) K
    |_,_,_=>False
   |_=>False
  | .slice t x fj hi eS=>match bF s x with
   | .own j=>match bN s.loc j with
    | .row e ay es=>match fj,hi,eS with
     |none,some h,none=>match (aE ah t).k with
      | .fb e'=>match Nat.beq (aE ah e').size ay with
       |true=>∃k:Nat,((∃uF,bF s h= .v (.int uF (k:Int)))/\k<=es.length)/\gp (s.grow j e ay (es.take k)) o.dst (.own j) K
       |false=>False
      |_=>False
     |fj,hi,eS=>oq ah (s.j6 j ay es).loc (.slice t x fj hi eS) (bF (s.j6 j ay es)) λc d=>te c (gp (s.j6 j ay es) o.dst d K)
    |_=>False
   |_=>False
  | .convert src dst x=>match bF s x with
   | .own j=>match bN s.loc j with
    | .row _ ay es=>oq ah (s.j6 j ay es).loc (.convert src dst x) (bF (s.j6 j ay es)) λc d=>te c (gp (s.j6 j ay es) o.dst d K)
    |_=>False
   |_=>False
  | .binOp op t x y _=>match (aE ah t).k,bF s y with
   | .fb _,.ar=>U6 s.loc op (bF s x) λb=>gp s o.dst (.v (.bool b)) K
   |_,_=>False
  | .call {callee:=.builtin .append,args,argTypes}=>match args.toList,argTypes.toList with
   | [x,y],[t,eB]=>match Nat.beq t eB,(aE ah t).k with
    |true,.fb e=>match (aE ah e).size with
     |0=>False
     |_=>Ju ah e s o.dst (bF s x) (bF s y) K
    |_,_=>False
   |_,_=>False
  | .call {callee:=.builtin .copy,args,argTypes}=>match args.toList,argTypes.toList with
   | [x,y],[t,eB]=>match Nat.beq t eB,(aE ah t).k with
    |true,.fb e=>match (aE ah e).size with
     |0=>False
     |_=>FI ah e s o.dst (bF s x) (bF s y) K
    |_,_=>False
   |_,_=>False
  | .call {callee:=.value f,args,..}=>match bF s f with
   | .fn (.func n) cr=>tg (bF s) args.toList λl=>Jt P n (l++cr) s (λr s=>gp s o.dst r K)\/U5 P n (l++cr) s (λr s=>gp s o.dst r K)
   |_=>False
  |_=>False
def py(b:Bool)(s:bJ):List Operand->(Option Prop->Prop)->Prop
 | [],K=>K none
 |x::r,K=>match bF s x with
  | .b8 g _=>py b s r λc=>K (andO (some (b=true->g=true)) c)
  |_=>py b s r K
def under(g:Bool):Option Prop->Option Prop
 |none=>none
 |some c=>some (g=true->c)
def aef(d:ak):ak:=
 match d with
 | .b8 _ d=>d
 |d=>d
def jD(s:bJ)(x:Operand):ak:=aef (bF s x)
def pz(g:Bool):List Operand->bJ->(bJ->Prop)->Prop
 | [],s,K=>K s
 | .tmp t::r,s,K=>match look s.env t with
  | .b8 dV d=>(g=true->dV=true)/\pz g r ⟨(t,d)::s.env,s.loc⟩ K
  |_=>pz g r s K
 |_::r,s,K=>pz g r s K
def FK(ah:dJ)(P:Program)(o:Oper)(g:Bool)(s:bJ)(K:bJ->Prop):Prop:=
 match Jp o.op (jD s)with
 |true=>py g s o.op.operands.toList λdh=>oq ah s.loc o.op (jD s) λc d=>te (andO dh (under g c)) (gp s o.dst (.b8 g d) K)
 |false=>match o.op with
  | .call {callee:=.value f,args,..}=>match jD s f with
   | .fn (.func n) cr=>match (args.toList.map (jD s)).all (U3 s.loc)with
    |true=>py g s o.op.operands.toList λdh=>tg (jD s) args.toList λl=>th s.loc (l++cr) λk3=>∃cK r,m4 k3 cK/\(g=true->bq P n cK r)/\te dh (match gX (l++cr)with
     | []=>gp s o.dst (.b8 g r) K
     |_=>match xf r with
      |true=>gp s o.dst (.b8 g r) K
      |false=>(g=true->pz g o.op.operands.toList s λs=>C7 ah P o s K)/\(g=false->gp s o.dst (.b8 false (.v (.bool false))) K))
    |false=>(g=true->pz g o.op.operands.toList s λs=>C7 ah P o s K)/\(g=false->gp s o.dst (.b8 false (.v (.bool false))) K)
   |_=>False
  |_=>(g=true->pz g o.op.operands.toList s λs=>C7 ah P o s K)/\(g=false->gp s o.dst (.b8 false (.v (.bool false))) K)
def yA(s:bJ)(g:Bool)(c a b:Operand)(K:Option Prop->ak->Prop):Prop:=
 py g s [c] λdh=>match jD s c with
 | .v (.bool t)=>tf (g&&t) (bF s a) λfJ x=>tf (g&& !t) (bF s b) λeP y=>gW x λx=>gW y λy=>rz t x y (sh a) (si b) λd=>K (andO dh (andO fJ eP)) d
 |_=>False
def C8(ah:dJ)(P:Program)(o:Oper)(g:Bool)(s:bJ)(K:bJ->Prop):Prop:=
 match o.op with
 | .pick c a b=>yA s g c a b λc d=>te c (gp s o.dst (.b8 g d) K)
 |_=>FK ah P o g s K
def uG(all:List Oper)(s:bJ)(j:Nat):ak:=
 match all[j]? with
 |some o=>match o.dst with
  |some t=>look s.env t
  |none=>.aY
 |none=>.aY
def FL(b want:Bool)(K:Bool->Prop):Prop:=
 match want with
 |true=>K b
 |false=>K (!b)
def Jw(ah:dJ)(P:Program)(all:List Oper)(o:Oper)(s:bJ)(K:bJ->Prop):Prop:=
 match o.guard with
 |none=>C7 ah P o s K
 |some (j,want)=>match uG all s j with
  | .v (.bool b)=>FL b want λg=>C8 ah P o g s K
  | .b8 g (.v (.bool b))=>FL b want λdV=>C8 ah P o (g&&dV) s K
  |_=>False
def aeg(o fT:Oper):Bool:=
 match o.op,fT.op with
 | .slice _ _ (some _) none none,.call {callee:=.builtin .clear,..}=>match o.guard,fT.guard,o.dst,fT.dst with
  |none,none,some _,none=>true
  |_,_,_,_=>false
 |_,_=>false
def U7(ah:dJ)(s:bJ)(o fT:Oper)(K:bJ->Prop):Prop:=
 match o.op,fT.op,o.guard,fT.guard,o.dst,fT.dst with
 | .slice t x (some fj) none none,.call {callee:=.builtin .clear,args,argTypes},none,none,some d1,none=>match args.toList,argTypes.toList,(aE ah t).k,bF s x with
  | [.tmp d2],[t2],.fb e',.own j=>match bN s.loc j with
   | .row e ay es=>match Nat.beq d1 d2&&Nat.beq t t2&&Nat.beq (aE ah e').size ay with
    |true=>∃k:Nat,((∃uF,bF s fj= .v (.int uF (k:Int)))/\k<=es.length)/\K ⟨(d1,.aY)::s.env,gq s.loc j (.row e ay (es.take k++List.replicate (es.length-k) (List.replicate ay .aY)))⟩
    |false=>False
   |_=>False
  |_,_,_,_=>False
 |_,_,_,_,_,_=>False
def Av(ah:dJ)(P:Program)(all:List Oper):List Oper->(bJ->Prop)->bJ->Prop
 | [],K,s=>K s
 | [o],K,s=>Jw ah P all o s K
 |o::fT::r,K,s=>match aeg o fT with
  |true=>U7 ah s o fT λs=>Av ah P all r K s
  |false=>Jw ah P all o s λs=>Av ah P all (fT::r) K s
def Aw(b:Bool)(x y:Prop):Prop:=
 match b with
 |true=>x
 |false=>y
variable{b:Bool}
theorem bo{x y:Prop}(h:b=true->x)(bp:b=false->y):Aw b x y:=by
 cases b
 ·exact bp rfl
 ·exact h rfl
structure fc where
 Ax:List (Nat×ak)
 kr:List Nat
 na:List (Nat×aX)
 p8:List (Nat×Nat)
def qP:List aX->List (Nat×aX)->List aX
 |l,[]=>l
 |l,p::r=>qP (gq l p.1 p.2) r
def fc.kM(bz:fc)(s:bJ):bJ:=⟨bz.Ax++s.env,qP s.loc bz.na⟩
def Jx:List (Nat×ak)->List (Nat×ak)->(List (Nat×ak)->Prop)->Prop
 | [],e,K=>K e
 |p::r,e,K=>Jx r e λe=>K (p::e)
def fc.U8(bz:fc)(s:bJ)(K:bJ->Prop):Prop:=
 match bz,s with
 | ⟨Ax,_,na,_⟩,⟨e,l⟩=>Jx Ax e λe=>match na with
  | []=>K ⟨e,l⟩
  |_=>Fy (qP l na) λl=>K ⟨e,l⟩
def Jy:ak->List Nat
 | .aW i _=>[i]
 |_=>[]
def p9:ak->List Nat
 | .aW i _| .dU i _| .de i _ _| .own i=>[i]
 | .fn _ cr=>cr.flatMap Jy
 |_=>[]
def hR:ak->List Nat
 | .agg cs=>cs.flatMap p9
 | .be ds=>ds.flatMap p9
 | .b8 _ d=>hR d
 |d=>p9 d
def oY(ρ:Operand->ak)(l:List Operand):List Nat:=l.flatMap λx=>hR (ρ x)
def gF(dst:Option Tmp)(d:ak):List (Nat×ak):=
 match dst with
 |some t=>[(t,d)]
 |none=>[]
def Oi:aX->Bool
 | .bn=>true
 |_=>false
def ou(l:List aX)(i:Nat):Bool:=Nat.blt i l.length&&Oi (bN l i)
def Oj(ah:dJ)(s:bJ)(dst:Option Tmp)(t:TypeId)(a:Operand)(d:ak)(K:fc->Prop):Prop:=
 match (aE ah t).size with
 |0=>False
 |_=>match bF s a with
  | .aW i off=>match bN s.loc i with
   | .cells eB cs=>match Nat.beq (dn d).length (aE ah t).size&&Nat.ble (off+(dn d).length) cs.length with
    |false=>False
    |true=>td (jC cs off (dn d)) λdI=>K ⟨gF dst (.b8 false (.v (.bool false))),i::hR d,[(i,.cells eB dI)],[]⟩
   |_=>False
  | .dU i off=>match bN s.loc i with
   | .cells eB cs=>match Nat.beq (dn d).length (aE ah t).size with
    |true=>off+(dn d).length<=cs.length/\K ⟨gF dst (.b8 false (.v (.bool false))),i::hR d,[(i,.cells eB (jC cs off (dn d)))],[]⟩
    |false=>False
   |_=>False
  | .de i k off=>match pv (dn d),bN s.loc i with
   |true,.row e ay es=>∃gb,es[k]?=some gb/\match Nat.beq (dn d).length (aE ah t).size&&Nat.ble (off+(dn d).length) ay with
    |true=>K ⟨gF dst (.b8 false (.v (.bool false))),i::hR d,[(i,.row e ay (es.set k (jC gb off (dn d))))],[]⟩
    |false=>False
   |_,_=>False
  |_=>False
def Ol(ah:dJ)(e:TypeId)(s:bJ)(idx:Nat)(dst:Option Tmp)(x y:ak)(K:fc->Nat->Prop):Prop:=
 tl ah e s.loc y λys some=>match x with
  | .ar=>match ou s.loc idx with
   |true=>kL ah e ys.length/\K ⟨gF dst (.own idx),hR y,[(idx,.row e (aE ah e).size ys)],[]⟩ (idx+1)
   |false=>False
  | .own i=>match bN s.loc i with
   | .row e' ay es=>match Nat.beq e' e&&Nat.beq ay (aE ah e).size&&ou s.loc idx with
    |true=>kL ah e (es.length+ys.length)/\K ⟨gF dst (.own idx),i::hR y,[(i,.gone),(idx,.row e ay (es++ys))],[(idx,i)]⟩ (idx+1)
    |false=>False
   |_=>False
  | .av ay es true=>match Nat.beq ay (aE ah e).size with
   |true=>kL ah e (es.length+ys.length)/\match some with
    |true=>match ou s.loc idx with
     |true=>0<ys.length/\K ⟨gF dst (.own idx),hR y,[(idx,.row e ay (es++ys))],[]⟩ (idx+1)
     |false=>False
    |false=>(0<ys.length/\match ou s.loc idx with
     |true=>K ⟨gF dst (.own idx),hR y,[(idx,.row e ay (es++ys))],[]⟩ (idx+1)
     |false=>False)\/K ⟨gF dst (.av ay (es++ys) false),hR y,[],[]⟩ idx
   |false=>False
  |_=>False
def Om(ah:dJ)(e:TypeId)(s:bJ)(dst:Option Tmp)(x y:ak)(K:fc->Prop):Prop:=
 tl ah e s.loc y λys _=>match x with
  | .ar=>K ⟨gF dst (.v (.int .i64 (0:Nat))),hR y,[],[]⟩
  | .own i=>match bN s.loc i with
   | .row e' ay es=>match Nat.beq e' e&&Nat.beq ay (aE ah e).size with
    |true=>K ⟨gF dst (.v (.int .i64 (Nat.min ys.length es.length:Nat))),i::hR y,[(i,.row e ay (ys.take es.length++es.drop ys.length))],[]⟩
    |false=>False
   |_=>False
  |_=>False
def On(P:Program)(f:FuncId)(args:List ak)(s:bJ)(idx:Nat)(dst:Option Tmp)(kr:List Nat)(K:fc->Nat->Prop):Prop:=
 ∃ (pass:List Nat) (L:List aX) (kq:List ak) (kept:List Bool) (bK:List aX) (d:ak),
  cj P f L kq kept bK d/\(tj kept L bK&&qO L&&As (pass++bM idx (bK.length-L.length))&&pass.all (λi=>Nat.blt i s.loc.length)&&kq.all (kK L)&&oX L L&&yz kept L bK&& (bM idx (bK.length-L.length)).all (ou s.loc))=true/\
  sn s.loc (dp (pass++bM idx (bK.length-L.length))) pass L/\m4 args (kq.map (k2 (dp (pass++bM idx (bK.length-L.length)))))/\
  K ⟨gF dst (k2 (dp (pass++bM idx (bK.length-L.length))) d),kr++pass,(pass++bM idx (bK.length-L.length)).zip (bK.map (gL (dp (pass++bM idx (bK.length-L.length))))),[]⟩ (idx+(bK.length-L.length))
def Oo(P:Program)(f:FuncId)(args:List ak)(s:bJ)(idx:Nat)(dst:Option Tmp)(kr:List Nat)(K:fc->Nat->Prop):Prop:=
 match gX args with
 | [.own j]=>match jR (bN s.loc j)with
  |true=>th s.loc args λk3=>∃ (kq:List ak) (bK:List aX) (d:ak),cj P f [] kq [] bK d/\(tj [] [] bK&&kq.all (kK [])&&As (bM idx bK.length)&& (bM idx bK.length).all (ou s.loc))=true/\m4 k3 kq/\
    K ⟨gF dst (k2 (dp (bM idx bK.length)) d),kr,(j,.gone):: (bM idx bK.length).zip (bK.map (gL (dp (bM idx bK.length)))),[]⟩ (idx+bK.length)
  |false=>False
 |_=>False
def Oq(o:Op)(ρ:Operand->ak):List Nat:=
 match o with
 | .move _| .assign _=>[]
 |_=>oY ρ o.operands.toList
def FM(ah:dJ)(P:Program)(o:Oper)(idx:Nat)(s:bJ)(K:fc->Nat->Prop):Prop:=
 match Jp o.op (bF s)with
 |true=>oq ah s.loc o.op (bF s) λc d=>te c (K ⟨gF o.dst d,Oq o.op (bF s),[],[]⟩ idx)
 |false=>match o.op with
  | .alloc t=>match (aE ah t).size,ou s.loc idx with
   |_+1,true=>K ⟨gF o.dst (.aW idx 0),[],[(idx,.cells t (aE ah t).zero)],[]⟩ (idx+1)
   |_,_=>False
  | .box t x=>match ou s.loc idx with
   |true=>gW (bF s x) λd=>match d with
    | .agg cs=>td cs λcs=>K ⟨gF o.dst (.aW idx 0),hR (.agg cs),[(idx,.cells t cs)],[]⟩ (idx+1)
    | .b8 .. | .be _| .aY=>False
    |d=>K ⟨gF o.dst (.aW idx 0),hR d,[(idx,.cells t [d])],[]⟩ (idx+1)
   |false=>False
  | .call {callee:=.builtin .append,args,argTypes}=>match args.toList,argTypes.toList with
   | [x,y],[t,eB]=>match Nat.beq t eB,(aE ah t).k with
    |true,.fb e=>match (aE ah e).size with
     |0=>False
     |_=>Ol ah e s idx o.dst (bF s x) (bF s y) K
    |_,_=>False
   |_,_=>False
  | .call {callee:=.builtin .copy,args,argTypes}=>match args.toList,argTypes.toList with
   | [x,y],[t,eB]=>match Nat.beq t eB,(aE ah t).k with
    |true,.fb e=>match (aE ah e).size with
     |0=>False
     |_=>Om ah e s o.dst (bF s x) (bF s y) λbz=>K bz idx
    |_,_=>False
   |_,_=>False
  | .store t a x=>gW (bF s x) λd=>match d with
   | .b8 .. | .be _| .aY=>False
   |d=>Oj ah s o.dst t a d λbz=>K bz idx
  | .buildSlice t n parts=>match (aE ah t).k with
   | .fb e=>match (aE ah e).size,Nat.ble (n* (aE ah e).size) 16777216 with
    |_+1,true=>match n with
     |0=>match ou s.loc idx with
      |true=>tk (bF s) (aE ah e).size parts.toList (List.replicate 0 (aE ah e).zero) λes=>
       K ⟨gF o.dst (.own idx),[],[(idx,.row e (aE ah e).size es)],[]⟩ (idx+1)
      |false=>False
     |n+1=>∃w:Bool,match w with
      |true=>match ou s.loc idx with
       |true=>tk (bF s) (aE ah e).size parts.toList (List.replicate (n+1) (aE ah e).zero) λes=>
        K ⟨gF o.dst (.own idx),[],[(idx,.row e (aE ah e).size es)],[]⟩ (idx+1)
       |false=>False
      |false=>tk (bF s) (aE ah e).size parts.toList (List.replicate (n+1) (aE ah e).zero) λes=>
       K ⟨gF o.dst (.av (aE ah e).size es (Nat.beq n 0)),[],[],[]⟩ idx
    |_,_=>False
   |_=>False
  | .makeSlice t l c=>match (aE ah t).k with
   | .fb e=>match (aE ah e).size,bF s l,bF s c,ou s.loc idx with
    |_+1,.v (.int _ l),.v (.int _ c),true=>∃n m:Nat,l=n/\c=m/\n<=m/\m* (aE ah e).bytes<=140737488355328/\m<=maxLen/\
      K ⟨gF o.dst (.own idx),[],[(idx,.row e (aE ah e).size (List.replicate n (aE ah e).zero))],[]⟩ (idx+1)
    |_,_,_,_=>False
   |_=>False
  | .call {callee:=.value f,args,..}=>match bF s f with
   | .fn (.func n) cr=>tg (bF s) args.toList λl=>(th s.loc (l++cr) λk3=>∃cK r,m4 k3 cK/\bq P n cK r/\match gX (l++cr)with
    | []=>K ⟨gF o.dst r,oY (bF s) o.op.operands.toList++cr.flatMap hR,[],[]⟩ idx
    |os=>match xf r with
     |true=>K ⟨gF o.dst r,oY (bF s) o.op.operands.toList++cr.flatMap hR,[],[]⟩ idx
     |false=>match os with
      | [.own j]=>match jR (bN s.loc j)with
       |true=>K ⟨gF o.dst r,oY (bF s) o.op.operands.toList++cr.flatMap hR,[(j,.gone)],[]⟩ idx
       |false=>False
      |_=>False)\/match gX (l++cr)with
       | [.own _]=>On P n (l++cr) s idx o.dst (oY (bF s) o.op.operands.toList) K\/Oo P n (l++cr) s idx o.dst (oY (bF s) o.op.operands.toList++cr.flatMap hR) K
       |_=>On P n (l++cr) s idx o.dst (oY (bF s) o.op.operands.toList) K
   |_=>False
  |_=>False
def C9(loc:List aX)(ρ:Nat->Nat):List Nat->List aX->Prop
 | [],[]=>True
 |i::r,o::eY=>bN loc i=gL ρ o/\C9 loc ρ r eY
 |_,_=>False
def Ot(P:Program)(o:Oper)(idx:Nat)(s:bJ)(K:fc->Nat->Prop):Prop:=
 match o.op with
 | .call {callee:=.value f,args,..}=>match bF s f with
  | .fn (.func k) cr=>tg (bF s) args.toList λl=>∃ (pass:List Nat) (L:List aX) (kq:List ak) (kept:List Bool) (d:ak),
    cj P k L kq kept L d/\(tj kept L L&&qO L&&As pass&&pass.all (λi=>Nat.blt i s.loc.length)&&kq.all (kK L)&&oX L L&&kept.all (λb=>b))=true/\
    C9 s.loc (dp pass) pass L/\m4 (l++cr) (kq.map (k2 (dp pass)))/\
    K ⟨gF o.dst (k2 (dp pass) d),oY (bF s) o.op.operands.toList++pass,[],[]⟩ idx
  |_=>False
 |_=>False
def Jz(ah:dJ)(P:Program)(o:Oper)(g:Bool)(idx:Nat)(s:bJ)(K:fc->Nat->Prop):Prop:=
 match o.op with
 | .pick c a b=>yA s g c a b λc d=>te c (K ⟨gF o.dst (.b8 g d),oY (bF s) o.op.operands.toList,[],[]⟩ idx)
 |_=>match Jp o.op (jD s)with
  |true=>py g s o.op.operands.toList λdh=>oq ah s.loc o.op (jD s) λc d=>te (andO dh (under g c)) (K ⟨gF o.dst (.b8 g d),oY (jD s) o.op.operands.toList,[],[]⟩ idx)
  |false=>match o.op with
   | .call {callee:=.value f,args,..}=>match jD s f with
    | .fn (.func n) cr=>match (args.toList.map (jD s)).all (U3 s.loc)with
     |true=>py g s o.op.operands.toList λdh=>tg (jD s) args.toList λl=>th s.loc (l++cr) λk3=>∃cK r,m4 k3 cK/\(g=true->bq P n cK r)/\te dh (match gX (l++cr)with
      | []=>K ⟨gF o.dst (.b8 g r),oY (jD s) o.op.operands.toList++cr.flatMap hR,[],[]⟩ idx
      |_=>match xf r with
       |true=>K ⟨gF o.dst (.b8 g r),oY (jD s) o.op.operands.toList++cr.flatMap hR,[],[]⟩ idx
       |false=>False)
     |false=>Aw g (pz g o.op.operands.toList s λs=>Ot P o idx s K\/FM ah P o idx s K) (∃d:ak,K ⟨gF o.dst (.b8 false d),[],[],[]⟩ idx)
    |_=>False
   |_=>Aw g (FM ah P o idx s K) (K ⟨gF o.dst (.b8 false (.v (.bool false))),[],[],[]⟩ idx)
def Ou(ah:dJ)(P:Program)(all:List Oper)(o:Oper)(idx:Nat)(s:bJ)(K:fc->Nat->Prop):Prop:=
 match o.guard with
 |none=>FM ah P o idx s K
 |some (j,want)=>match uG all s j with
  | .v (.bool b)=>FL b want λg=>Jz ah P o g idx s K
  | .b8 g (.v (.bool b))=>FL b want λdV=>Jz ah P o (g&&dV) idx s K
  |_=>False
def Ov:List (Nat×Nat)->List (Nat×Nat)->(List (Nat×Nat)->Prop)->Prop
 |lk,[],K=>K lk
 |lk,p::r,K=>Ov (p::lk) r K
def JA(ah:dJ)(P:Program)(all:List Oper):List Oper->Nat->List fc->List (Nat×Nat)->(List fc->List (Nat×Nat)->bJ->Prop)->bJ->Prop
 | [],_,aL,lk,K,s=>K aL lk s
 |o::r,idx,aL,lk,K,s=>Ou ah P all o idx s λbz yB=>bz.U8 s λs=>Ov lk bz.p8 λlk=>JA ah P all r yB (aL++ [bz]) lk K s
def Ay(aL:List Nat):List Edge->Nat->Nat
 | [],m=>m
 |e::r,m=>match Region.binds .any e with
  |true=>Ay aL r (Nat.lor m (Nat.lor (2^e.on) (aL.getD e.on 0)))
  |false=>Ay aL r m
def Az:List Oper->List Nat->List Nat
 | [],aL=>aL
 |o::r,aL=>Az r (aL++ [Ay aL o.after.toList 0])
def AA:List Oper->Nat->Bool
 | [],_=>true
 |o::r,i=>o.after.toList.all (λe=> !Region.binds .any e||Nat.blt e.on i)&&AA r (i+1)
def Da(l r:List Nat):Bool:=l.any λx=>r.any λy=>Nat.beq x y
structure uH where
 xi:List Nat
 aZ:List Nat
 kr:List Nat
 na:List Nat
def vT(all:Array Oper)(o:Oper)(bz:fc):uH:=
 ⟨o.looksAt all,bz.Ax.map (·.1),bz.kr,bz.na.map (·.1)⟩
def xj(f g:uH):Bool:=Da f.aZ (g.xi++g.aZ)||Da f.xi g.aZ||Da f.na (g.kr++g.na)||Da f.kr g.na
def FN(f:uH)(i:Nat):List uH->List Nat->Bool
 |g::r,m::ms=>(!xj f g||Nat.testBit m i)&&FN f i r ms
 |_,_=>true
def FO:Nat->List uH->List Nat->Bool
 |i,f::r,_::ms=>FN f i r ms&&FO (i+1) r ms
 |_,_,_=>true
def JB(all:Array Oper):List Oper->List fc->List uH
 |o::r,bz::db=>vT all o bz::JB all r db
 |_,_=>[]
def JC(ops:Array Oper)(db:List fc):Bool:=
 AA ops.toList 0&&FO 0 (JB ops ops.toList db) (Az ops.toList [])
def tm:List Oper->Nat
 | []=>0
 |o::r=>match o.op with
  | .alloc _| .makeSlice .. | .box .. =>tm r+1
  | .buildSlice .. =>tm r+1
  | .call {callee:=.builtin .append,..}=>tm r+1
  | .call {callee:=.value _,..}=>tm r+1
  | .slice _ _ none (some (.const (.int _ (.ofNat 1)))) none=>tm r+1
  |_=>tm r
def ll(a b:Nat):ak->ak
 | .own j=>match Nat.beq j a with
  |true=>.own b
  |false=>match Nat.beq j b with
   |true=>.aY
   |false=>.own j
 | .de j k o=>match Nat.beq j a with
  |true=>.de b k o
  |false=>match Nat.beq j b with
   |true=>.aY
   |false=>.de j k o
 | .b8 c d=>.b8 c (ll a b d)
 |d=>d
def xk(a b:Nat):ak->ak
 | .agg cs=>.agg (cs.map (ll a b))
 | .be ds=>qN ds
 | .b8 c d=>.b8 c (xk a b d)
 |d=>ll a b d
def Ow(s:bJ)(p:Nat×Nat):bJ:=
 match jR (bN s.loc p.1),Oa (bN s.loc p.2)with
 |true,true=>⟨AC (xk p.1 p.2) s.env,gq (gq (oV (ll p.1 p.2) s.loc) p.2 (bN s.loc p.1)) p.1 .bn⟩
 |_,_=>s
def Db:List (Nat×Nat)->bJ->bJ
 | [],s=>s
 |p::r,s=>Db r (Ow s p)
def Ox:List Oper->Tmp->Option Operand
 | [],_=>none
 |o::r,t=>match o.dst,o.op with
  |some d,.move y=>match Nat.beq d t with
   |true=>some y
   |false=>Ox r t
  |_,_=>Ox r t
def aeh(all:List Oper)(s:bJ)(x:Operand):ak:=
 match x with
 | .tmp t=>match Ox all t with
  |some y=>bF s y
  |none=>bF s x
 |_=>bF s x
def Dc(all:List Oper):List Oper->bJ->(bJ->Prop)->Prop
 | [],s,K=>K s
 |o::r,s,K=>match o.op with
  | .slice _ x _ _ _=>match aeh all s x with
   | .own j=>oW [.own j] s λs=>Dc all r s K
   |_=>Dc all r s K
  |_=>Dc all r s K
def U9(ah:dJ)(P:Program)(ops:Array Oper)(K:bJ->Prop)(s:bJ):Prop:=
 Fy (s.loc++List.replicate (tm ops.toList) .bn) λaei=>JA ah P ops.toList ops.toList s.loc.length [] [] (λdb lk s'=>JC ops db=true/\match lk with
  | []=>K s'
  |p8=>K (Db p8 s')) ⟨s.env,aei⟩
def Oy(ah:dJ)(P:Program)(ops:Array Oper)(K:bJ->Prop)(s:bJ):Prop:=
 Dc ops.toList ops.toList s λs=>U9 ah P ops K s
def Oz(s:List (Nat×ak)):List (Nat×ak)->Prop
 | []=>True
 |p::r=>hQ (look s p.1) p.2/\Oz s r
def Dd:List aX->List aX->Prop
 |_,[]=>True
 |o::r,aT::eY=>hz o aT/\Dd r eY
 | [],_::_=>False
def bJ.le(s t:bJ):Prop:=Oz s.env t.env/\Dd s.loc t.loc/\(C4 t.loc t.env&&oX t.loc t.loc)=true
inductive FP where
 |h4(t:Nat)(e:TypeId)(ay:Nat)
 |cell(i off:Nat)(e:TypeId)(ay:Nat)
 |j6(t:Nat)
 |swap(i j:Nat)
 |qa(i off:Nat)
 |fresh(e:TypeId)(ay:Nat)
 |eT(i j:Nat)
 |nS(i:Nat)
 |yC(t i:Nat)
def ks(i j k:Nat):Nat:=
 match Nat.beq k i with
 |true=>j
 |false=>match Nat.beq k j with
  |true=>i
  |false=>k
def yD(f:aX->aX):List aX->List aX
 | []=>[]
 |o::r=>f o::yD f r
def OA(l:List aX)(i j:Nat):List aX:=gq (gq l i (bN l j)) j (bN l i)
def FQ(i j:Nat)(s:bJ)(K:bJ->Prop):Prop:=
 match Nat.blt i s.loc.length&&Nat.blt j s.loc.length with
 |true=>K ⟨AC (k2 (ks i j)) s.env,OA (yD (ti (ks i j)) s.loc) i j⟩
 |false=>False
def JD(t:Nat)(s:bJ)(K:bJ->Prop):Prop:=
 match look s.env t with
 | .own j=>match bN s.loc j with
  | .row _ ay es=>K (s.j6 j ay es)
  |_=>K s
 |_=>K s
def so:List FP->bJ->(bJ->Prop)->Prop
 | [],s,K=>K s
 | .j6 t::r,s,K=>JD t s λs=>so r s K
 | .h4 _ _ _::r,s,K=>so r s K
 | .cell _ _ _ _::r,s,K=>so r s K
 | .swap i j::r,s,K=>FQ i j s λs=>so r s K
 | .qa _ _::r,s,K=>so r s K
 | .fresh _ _::r,s,K=>so r s K
 | .eT _ _::r,s,K=>so r s K
 | .nS _::r,s,K=>so r s K
 | .yC t i::r,s,K=>match look s.env t with
  | .own j=>FQ i j s λs=>so r s K
  |_=>so r s K
def oZ:List FP->bJ->(bJ->Prop)->Prop
 | [],s,K=>K s
 | .swap _ _::r,s,K=>oZ r s K
 | .yC _ _::r,s,K=>oZ r s K
 | .eT i j::r,s,K=>FQ i j s λs=>oZ r s K
 | .nS i::r,s,K=>match ou s.loc i||jR (bN s.loc i)with
  |true=>oZ r ⟨s.env,gq s.loc i .gone⟩ K
  |false=>False
 | .qa i off::r,s,K=>match bN s.loc i with
  | .cells _ cs=>match cs[off]? with
   |some (.own j)=>oW [.own j] s λs=>oZ r s K
   |_=>False
  |_=>False
 | .fresh e ay::r,s,K=>match ay with
  |m+1=>oZ r ⟨s.env,s.loc++ [.row e (m+1) []]⟩ K
  |0=>False
 | .j6 t::r,s,K=>JD t s λs=>oZ r s K
 | .h4 t e ay::r,s,K=>match look s.env t,ay with
  | .ar,_+1=>oZ r ⟨(t,.own s.loc.length)::s.env,s.loc++ [.row e ay []]⟩ K
  |_,_=>False
 | .cell i off e ay::r,s,K=>match bN s.loc i,ay with
  | .cells t cs,_+1=>match cs[off]? with
   |some .ar=>oZ r ⟨s.env,gq s.loc i (.cells t (uA cs off (.own s.loc.length)))++ [.row e ay []]⟩ K
   |_=>False
  |_,_=>False
def aej(body: (Exit->bJ->Prop)->bJ->Prop)(K:Exit->bJ->Prop)(s:bJ):Prop:=
 ∃ (S:Type) (enc:S->bJ) (I:S->Prop) (μ:S->Nat) (qQ:List FP),(∃x,I x/\oZ qQ s λs=>s.le (enc x))/\
  ∀x,I x->body (λe s'=>match e with
   | .normal=>∃x',I x'/\μ x'<μ x/\so qQ s' λs'=>s'.le (enc x')
   |e=>K e s') (enc x)
def rD(ah:dJ)(P:Program):Code->(Exit->bJ->Prop)->bJ->Prop
 | .skip,K,s=>K .normal s
 | .region _ ops draw,K,s=>match draw with
  |false=>Av ah P ops.toList ops.toList (λs=>K .normal s) s
  |true=>Oy ah P ops (λs=>K .normal s) s
 | .seq a b,K,s=>rD ah P a (λe s'=>match e with
   | .normal=>rD ah P b K s'
   |e=>K e s') s
 | .cond c a b,K,s=>match bF s c with
  | .v (.bool t)=>Aw t (rD ah P a K s) (rD ah P b K s)
  |_=>False
 | .block id c,K,s=>rD ah P c (λe s'=>match e with
   | .exit j=>match Nat.beq j id with
    |true=>K .normal s'
    |false=>K (.exit j) s'
   |e=>K e s') s
 | .loop c,K,s=>aej (rD ah P c) K s
 | .exit id,K,s=>K (.exit id) s
 | .ret,K,s=>K .ret s
 | .label _,K,s=>K .normal s
 | .scope c,K,s=>rD ah P c (λe s'=>match e with
   | .goto _=>False
   |e=>K e s') s
 |_,_,_=>False
def FR(ah:dJ)(s:bJ):List ResultVar->(List ak->Prop)->Prop
 | [],K=>K []
 | .tmp t::r,K=>gW (look s.env t) λd=>uC s.loc d λd=>FR ah s r λl=>K (d::l)
 | .cell p ty::r,K=>match look s.env p with
  | .aW i o=>match bN s.loc i with
   | .cells _ cs=>match (aE ah ty).size with
    |0=>False
    |_=>qK o cs λl=>mA (aE ah ty).agg (aE ah ty).size l λd=>uC s.loc d λd=>FR ah s r λl=>K (d::l)
   |_=>False
  |_=>False
def Va(ah:dJ)(l9:List ResultVar)(d:ak)(s:bJ):Prop:=
 FR ah s l9 λl=>match l with
  | [x]=>hQ x d
  |l=>hQ (.be l) d
def vU:Nat->List ak->List (Nat×ak)
 |_,[]=>[]
 |n,d::r=>(n,d)::vU (n+1) r
def Vb(ah:dJ)(P:Program)(c:Code)(l9:List ResultVar)(args:List ak)(d:ak):Prop:=
 rD ah P c (λe s=>match e with
  | .normal| .ret=>Va ah l9 d s
  |_=>False) ⟨vU 0 args,[]⟩
def nb(k:Nat):aX->ak
 | .row .. =>.own k
 | .cells .. =>.aW k 0
 |_=>.aY
def vV:Nat->List aX->List ak
 |_,[]=>[]
 |k,o::r=>nb k o::vV (k+1) r
def De(L:List aX):List aX:=
 match L with
 | []=>[]
 |_=>[.cB (vV 0 L)]
def AB:Nat->List Bool->List aX->List ak
 |k,true::r,o::l=>nb k o::AB (k+1) r l
 |k,false::r,_::l=>.aY::AB (k+1) r l
 |_,_,_=>[]
def nc(L:List aX)(kept:List Bool)(bK:List aX):List aX:=
 match L with
 | []=>bK
 |_=>bK.take L.length++ .cB (AB 0 kept bK)::bK.drop (L.length+1)
def FT:Nat->List aX->Bool
 |_,[]=>true
 |0,.bn::_=>true
 |0,_::_=>false
 |n+1,_::r=>FT n r
def OB(L bK:List aX):Bool:=
 match L with
 | []=>true
 |_=>FT L.length bK
def Df(ah:dJ)(s:bJ):List ResultVar->(List ak->Prop)->Prop
 | [],K=>K []
 | .tmp t::r,K=>gW (look s.env t) λd=>match mY d||pv (dn d)with
  |true=>Df ah s r λl=>K (d::l)
  |false=>False
 | .cell p ty::r,K=>match look s.env p with
  | .aW i o=>match bN s.loc i with
   | .cells _ cs=>match (aE ah ty).size with
    |0=>False
    |_=>qK o cs λl=>mA (aE ah ty).agg (aE ah ty).size l λd=>match pv (dn d)with
     |true=>Df ah s r λl=>K (d::l)
     |false=>False
   |_=>False
  |_=>False
def OC(ah:dJ)(s:bJ)(l9:List ResultVar)(K:ak->Prop):Prop:=
 match l9 with
 | [.tmp t]=>gW (look s.env t) λd=>K d
 | [.cell p ty]=>match look s.env p with
  | .aW i o=>match bN s.loc i with
   | .cells _ cs=>match (aE ah ty).size with
    |0=>False
    |_=>qK o cs λl=>mA (aE ah ty).agg (aE ah ty).size l λd=>K d
   |_=>False
  |_=>False
 |l9=>Df ah s l9 λl=>K (.be l)
def Dg(ah:dJ)(l9:List ResultVar)(L:List aX)(kept:List Bool)(bK:List aX)(d:ak)(s:bJ):Prop:=
 OC ah s l9 λx=>hQ x d/\Dd s.loc (nc L kept bK)/\(tj kept L bK&&qO bK&&OB L bK&& (match d with| .be ds=>ds.all (λe=> !mY e||kK bK e)|d=>kK bK d)&&oX bK bK&&oX (nc L kept bK) (nc L kept bK))=true
def Vc(ah:dJ)(P:Program)(c:Code)(l9:List ResultVar)(L:List aX)(args:List ak)(kept:List Bool)(bK:List aX)(d:ak):Prop:=
 rD ah P c (λe s=>match e with
  | .normal| .ret=>Dg ah l9 L kept bK d s
  |_=>False) ⟨vU 0 args,L++De L⟩
variable{K:ak->Prop}
theorem ir:gW d K↔K d:=by cases d<;>exact Cz
theorem FU:∀ {n:Nat} {l:List ak} {K:List ak->Prop},xa n l K->n<=l.length/\K (l.take n)
 |0,l,K,h=>⟨bZ _,h⟩
 |n+1,[],K,h=>h.elim
 |n+1,d::r,K,h=>by
  have h:=ir.1 h;obtain⟨h1,ad⟩:=FU h
  grind
theorem rE:∀ {n:Nat} {l:List ak} {K:List ak->Prop},qK n l K->n<=l.length/\K (l.drop n)
 |0,l,K,h=>⟨bZ _,h⟩
 |n+1,[],K,h=>h.elim
 |n+1,d::r,K,h=>by
  obtain⟨h1,ad⟩:=rE (l:=r) h
  grind
theorem FV{a b:IntKind}:sj a b=true↔a=b:=by cases a<;>cases b<;>simp[sj]
theorem lm:∀ (l:List aX) (i:Nat),bN l i=(l[i]?).getD .bn
 | [],i=>by cases i<;>rfl
 |o::r,0=>rfl
 |o::r,i+1=>by rw[bN];simpa using lm r i
theorem mC:∀ (l:List aX) (i:Nat) (x:aX),gq l i x=l.set i x
 | [],i,x=>by cases i<;>rfl
 |o::r,0,x=>rfl
 |o::r,i+1,x=>by rw[gq,mC r i x];rfl
theorem FW:∀ (l:List ak) (i:Nat) (x:ak),uA l i x=l.set i x
 | [],i,x=>by cases i<;>rfl
 |o::r,0,x=>rfl
 |o::r,i+1,x=>by rw[uA,FW r i x];rfl
theorem Vd:∀ (r l:List ak),(w8 l r).length=l.length
 | [],l=>by rw[w8]
 |_::_,[]=>by rfl
 |x::r,c::l=>by rw[w8,l7,Vd r l,l7]
theorem Ve:∀ (r l:List ak) (j:Nat),r.length<=l.length->(w8 l r)[j]?=if j<r.length then r[j]? else l[j]?
 | [],l,j,_=>by rw[w8,bm (by simp)]
 |_::_,[],_,h=>by grind
 |x::r,c::l,0,h=>by rfl
 |x::r,c::l,j+1,h=>by
  simp only[l7]at h;rw[w8,CD,Ve r l j (by omega)];simp
theorem Vf:∀ (l:List ak) (o:Nat) (r:List ak),(w9 l o r).length=l.length
 |l,0,r=>by cases l<;>rw[w9,Vd]
 | [],o+1,r=>by rfl
 |c::l,o+1,r=>by rw[w9,l7,Vf l o r,l7]
theorem Vg:∀ (l:List ak) (o:Nat) (r:List ak) (j:Nat),o+r.length<=l.length->(w9 l o r)[j]?=if o<=j/\j<o+r.length then r[j-o]? else l[j]?
 |l,0,r,j,h=>by
  have e:w9 l 0 r=w8 l r:=by cases l<;>rw[w9]
  rw[e,Ve r l j (by omega)];simp
 | [],o+1,r,j,h=>by grind
 |c::l,o+1,r,0,h=>by
  rfl
 |c::l,o+1,r,j+1,h=>by
  simp only[l7]at h;rw[w9,CD,Vg l o r j (by omega),CD]
  grind
theorem JE:∀ (r l:List ak) (o:Nat),(jC l o r).length=l.length
 | [],l,o=>by rfl
 | [x],l,o=>by rw[jC,FW,NP]
 |x::y::r,l,o=>by rw[jC,Vf]
theorem JF:∀ (r l:List ak) (o j:Nat),o+r.length<=l.length->(jC l o r)[j]?=if o<=j/\j<o+r.length then r[j-o]? else l[j]?
 | [],l,o,j,_=>by
  rw[jC,bm (by simp)]
 | [x],l,o,j,h=>by
  simp only[l7,yq]at h;rw[jC,FW]
  grind
 |x::y::r,l,o,j,h=>by
  rw[jC,Vg _ _ _ _ h]
theorem Dh(f:ak->ak)(au:f .aY= .aY):∀ (e:List (Nat×ak)) (t:Nat),look (AC f e) t=f (look e t)
 | [],t=>by simp[AC,look,au]
 |p::r,t=>by
  simp only[AC,look];split
  ·rfl
  ·exact Dh f au r t
variable{w w':World}
theorem Vh{a:Addr}(h:w'.heap[a.block]?=w.heap[a.block]?):w'.cell? a=w.cell? a:=by simp[World.cell?,h]
theorem Addr.yE(a:Addr)(n:Nat): (a.add n).block=a.block:=by unfold Addr.add;split<;>rfl
theorem Addr.JG(a:Addr)(i j:Nat): (a.add i).add j=a.add (i+j):=by
 unfold Addr.add;by_cases hi:i=0<;>by_cases aq:j=0<;>simp[hi,aq,Jb]
theorem Addr.pA(b o n:Nat):Addr.add ⟨b,o,none⟩ n= ⟨b,o+n,none⟩:=by
 unfold Addr.add;simp
structure dy(A dz:Nat->Prop)(w w':World):Prop where
 size:w.heap.size<=w'.heap.size
 out:∀b,b<w.heap.size->dz b->A b
 Di:∀b,b<w.heap.size->¬A b->w'.heap[b]?=w.heap[b]?
variable{A dz:Nat->Prop}
theorem b7.cA{w w':World}(k:dy A dz w w'){x:Value}{d:ak}(h:b7 A w x d):b7 dz w' x d:=by
 induction h with
 |v h=>exact .v h
 | @av a n c ay es tc xs aV al az au cC ai ac br dD _ a1=>
  refine .av xs aV al az au cC (λbx h=>ai bx (k.out _ (ac bx) h)) (λbx=>Ag (ac bx) k.size) br (λi j e d he aa=> ?_) a1;have bx:es≠ []:=λfk=>by grind
  have:=dD i j e d he aa;rwa[<-Vh (w:=w) (w':=w') (by rw[Addr.yE];exact k.Di _ (ac bx) (ai bx))]at this
 |nil=>exact .nil
 |ar=>exact .ar
 |agg af br _ a1=>exact .agg af br a1
 |be af _ a1=>exact .be af a1
 | @da a cs xs ai ac br dD _ a1=>
  refine .da xs (λh=>ai (k.out _ ac h)) (Ag ac k.size) br (λj d aa=> ?_) a1;have:=dD j d aa;rwa[<-Vh (w:=w) (w':=w') (by rw[Addr.yE];exact k.Di _ ac ai)]at this
 |fn af _ a1=>exact .fn af a1
 |b8 _ aQ a1=>exact .b8 a1 aQ
 |aY=>exact .aY
theorem dy.refl(A:Nat->Prop)(w:World):dy A A w w:=⟨bS _,λ_ _ h=>h,λ_ _ _=>rfl⟩
theorem dy.ic{w:World}(h:∀b,dz b->A b):dy A dz w w:=⟨bS _,λ_ _ bp=>h _ bp,λ_ _ _=>rfl⟩
theorem dy.qb{w w':World}(ax:w.grownBy w' none)(h:∀b,b<w.heap.size->dz b->A b):dy A dz w w':=
 ⟨ax.size,h,λb ac _=>ax.block b ac (by simp)⟩
section
variable {A:Nat->Prop} {os:c3} {w:World} {x:Value}
variable{y:Value}
theorem bg.j7(h:bg A os w x (.v y)):x=y/\y.oneCell'=true:=by
 cases h with
 |bQ h=>cases h with
  |v h=>grind
 |e5 h aa h1=>rcases aa with aa| ⟨_,_,aa⟩<;>cases aa
variable{ay:Nat}{es:List (List ak)}
theorem bg.ny{f:Bool}(h:bg A os w x (.av ay es f)):b7 A w x (.av ay es f):=by
 cases h with
 |bQ h=>exact h
 |e5 h aa h1=>rcases aa with aa| ⟨_,_,aa⟩<;>cases aa
theorem bg.o0(h:bg A os w x .ar):x= .slice none 0 0:=by
 cases h with
 |bQ h=>cases h;rfl
 |e5 h aa h1=>rcases aa with aa| ⟨_,_,aa⟩<;>cases aa
theorem bg.vW{cs:List ak}(h:bg A os w x (.da cs)):b7 A w x (.da cs):=by
 cases h with
 |bQ h=>exact h
 |e5 h aa h1=>rcases aa with aa| ⟨_,_,aa⟩<;>cases aa
variable{ds:List ak}
theorem bg.Vi(h:bg A os w x (.be ds))(aV:ds.any mY=false):b7 A w x (.be ds):=by
 cases h with
 |bQ h=>exact h
 |be af b0 _=>
  refine .be af λi v d ab aa=> ?_
  grind
 |e5 h aa h1=>rcases aa with aa| ⟨_,_,aa⟩<;>cases aa
theorem bg.OD(h:bg A os w x (.be ds)):∃vs:List Value,x= .tuple vs.toArray/\vs.length=ds.length/\(∀ (i:Nat) v d,vs[i]?=some v->ds[i]?=some d->mY d=true\/b7 A w v d)/\∀ (i:Nat) v d,vs[i]?=some v->ds[i]?=some d->bg A os w v d:=by
 cases h with
 |bQ h=>cases h with
  |be af an=>exact⟨_,rfl,af,λi v d ab aa=>.inr (an i v d ab aa),λi v d ab aa=>.bQ (an i v d ab aa)⟩
 |be af b0 an=>grind
 |e5 h aa h1=>rcases aa with aa| ⟨_,_,aa⟩<;>cases aa
theorem bg.qN(h:bg A os w x (.be ds)):b7 A w x (Go.Lift.qN ds):=by
 unfold Go.Lift.qN;split
 ·exact h.Vi (by omega)
 ·exact .aY
theorem bg.tn{f:Fn}{ds:List ak}(h:bg A os w x (.fn f ds)):∃vs:List Value,x= .func f #[] vs.toArray/\vs.length=ds.length/\∀ (i:Nat) v d,vs[i]?=some v->ds[i]?=some d->bg A os w v d:=by
 cases h with
 |bQ h=>cases h with
  |fn af an=>exact⟨_,rfl,af,λi v d ab aa=>.bQ (an i v d ab aa)⟩
 |fn af iM an=>grind
 |e5 h aa h1=>rcases aa with aa| ⟨_,_,aa⟩<;>cases aa
theorem bg.xl(h:bg A os w x (.agg ds)):∃vs:List Value,x= .agg vs.toArray/\vs.length=ds.length/\(∀v∈vs,v.oneCell'=true)/\
  ∀ (i:Nat) v d,vs[i]?=some v->ds[i]?=some d->bg A os w v d:=by
 cases h with
 |bQ h=>cases h with
  |agg af br h=>exact⟨_,rfl,af,br,λi v d ab aa=>.bQ (h i v d ab aa)⟩
 |agg af br h=>grind
 |e5 h aa h1=>rcases aa with aa| ⟨_,_,aa⟩<;>cases aa
theorem bg.yF{d:ak}(h:bg A os w x (.b8 b d)): (b=true->bg A os w x d)/\(b=false->x=undef):=by
 cases h with
 |bQ h=>cases h with
  |b8 h aQ=>exact⟨λac=>.bQ (h ac),aQ⟩
 |b8 h aQ=>grind
 |e5 h aa h1=>rcases aa with aa| ⟨_,_,aa⟩<;>cases aa
variable{i off:Nat}
theorem bg.qR(h:bg A os w x (.aW i off)):∃g t cs,os[i]?=some (.pointer (some ⟨g,0,none⟩),.cells t cs)/\x= .pointer (some ⟨g,off,none⟩):=by
 cases h with
 |bQ h=>cases h
 |aW h=>grind
 |e5 h aa h1=>rcases aa with aa| ⟨_,_,aa⟩<;>cases aa
theorem bg.yG(h:bg A os w x (.dU i off)):∃g t cs,os[i]?=some (.pointer (some ⟨g,0,none⟩),.cells t cs)/\x= .pointer (some ⟨g,off,none⟩):=by
 cases h with
 |bQ h=>cases h
 |dU h=>grind
 |e5 h aa h1=>rcases aa with aa| ⟨_,_,aa⟩<;>cases aa
theorem bg.Vj{k off:Nat}(h:bg A os w x (.de i k off)):x.oneCell'=true/\((∃g n c e ay es,os[i]?=some (.slice (some ⟨g,0,none⟩) n c,.row e ay es)/\x= .pointer (some ⟨g,k*ay+off,none⟩))\/∃y,os[i]?=some (y,.gone)):=by
 cases h with
 |bQ h=>cases h
 |de h=>exact⟨rfl,.inl ⟨_,_,_,_,_,_,h,rfl⟩⟩
 |e5 h aa h1=>rcases aa with aa| ⟨_,_,aa⟩<;>cases aa;grind
theorem bg.Dj(h:bg A os w x (.own i)):x.oneCell'=true/\((∃e ay es,os[i]?=some (x,.row e ay es))\/∃y,os[i]?=some (y,.gone)):=by
 cases h with
 |bQ h=>cases h
 |own h h1=>grind
 |e5 h aa h1=>rcases aa with aa| ⟨_,_,aa⟩<;>cases aa;grind
theorem bg.qS{y:Value}{e:TypeId}{ay:Nat}{es:List (List ak)}(h:bg A os w x (.own i))(hi:os[i]?=some (y,.row e ay es)):x=y:=by
 rcases h.Dj.2 with⟨_,_,_,h⟩| ⟨_,h⟩;all_goals grind
theorem bg.FX{k off:Nat}{y:Value}{e:TypeId}{ay:Nat}{es:List (List ak)}(h:bg A os w x (.de i k off))(hi:os[i]?=some (y,.row e ay es)):∃g n c,y= .slice (some ⟨g,0,none⟩) n c/\x= .pointer (some ⟨g,k*ay+off,none⟩):=by
 rcases h.Vj.2 with⟨g,n,c,_,_,_,h,ag⟩| ⟨_,h⟩;all_goals grind
def en(o aT:aX):Prop:=
 match o,aT with
 | .cells t _,.cells eB _=>t=eB
 | .row e ay _,.row e' mB _=>e=e'/\ay=mB
 | .bn,_=>True
 | .gone,.gone=>True
 | .cB _,.cB _=>True
 |_,_=>False
def uI(os aP:c3):Prop:=∀ (i:Nat) (x:Value) (o:aX),os[i]?=some (x,o)->∃aT,aP[i]?=some (x,aT)/\en o aT
theorem uI.refl(os:c3):uI os os:=λi x o h=>⟨o,h,by cases o<;>simp[en]⟩
theorem bg.cA{aP:c3}{w':World}(k:dy A dz w w')(bb:uI os aP){d:ak}(h:bg A os w x d):bg dz aP w' x d:=by
 induction h with
 |bQ h=>exact .bQ (h.cA k)
 |aW h=>
  obtain⟨aT,bp,hk⟩:=bb _ _ _ h;cases aT<;>simp[en]at hk
  exact .aW bp
 |dU h=>
  obtain⟨aT,bp,hk⟩:=bb _ _ _ h;cases aT<;>simp[en]at hk
  exact .dU bp
 |de h=>
  obtain⟨aT,bp,hk⟩:=bb _ _ _ h;cases aT<;>simp[en]at hk
  obtain⟨rfl,rfl⟩:=hk;exact .de bp
 |own h h1=>
  obtain⟨aT,bp,hk⟩:=bb _ _ _ h;cases aT<;>simp[en]at hk
  exact .own bp h1
 |e5 h aa h1=>
  obtain⟨aT,bp,hk⟩:=bb _ _ _ h;cases aT<;>simp[en]at hk
  exact .e5 bp aa h1
 |agg af br _ a1=>exact .agg af br a1
 |be af b0 _ a1=>exact .be af (λi v d ab aa=>by
  rcases b0 i v d ab aa with h|h
  ·grind
  ·exact .inr (h.cA k)) a1
 |fn af iM _ a1=>exact .fn af iM a1
 |b8 _ aQ a1=>exact .b8 a1 aQ
theorem bg.cells(h:bg A os w x d)(aa:∀b ck,d≠ .b8 b ck)(cI:∀l,d≠ .be l)(aq:d≠ .aY):
  x.cells.toList.length=(dn d).length/\(∀v∈x.cells.toList,v.oneCell'=true)/\∀ (i:Nat) v e,x.cells.toList[i]?=some v->(dn d)[i]?=some e->bg A os w v e:=by
 have eE:∀ {y:Value} {e:ak},y.oneCell'=true->(∀l,e≠ .agg l)->bg A os w y e->y.cells.toList.length=(dn e).length/\(∀v∈y.cells.toList,v.oneCell'=true)/\∀ (i:Nat) v e',y.cells.toList[i]?=some v->(dn e)[i]?=some e'->bg A os w v e':=by
  intro y e bk he ao;have h1:y.cells= #[y]:=by cases y<;>first|rfl|simp[Value.oneCell']at bk
  have ad:dn e=[e]:=by cases e<;>first|rfl|exact absurd rfl (he _)
  grind
 cases d with
 |v y=>obtain⟨rfl,bk⟩:=h.j7;grind
 |av=>have bp:=h.ny;cases bp<;>exact eE rfl (by simp) h
 |agg ds=>obtain⟨vs,rfl,af,br,an⟩:=h.xl;exact⟨by simpa[Value.cells,dn]using af,by simpa[Value.cells]using br,by simpa[Value.cells,dn]using an⟩
 |be l=>grind
 |da=>have bp:=h.vW;cases bp;exact eE rfl (by simp) h
 |aW=>obtain⟨_,_,_,_,rfl⟩:=h.qR;exact eE rfl (by simp) h
 |dU=>obtain⟨_,_,_,_,rfl⟩:=h.yG;exact eE rfl (by simp) h
 |de=>exact eE h.Vj.1 (by simp) h
 |own=>exact eE h.Dj.1 (by simp) h
 |fn=>obtain⟨_,rfl,_⟩:=h.tn;exact eE rfl (by simp) h
 |ar=>cases h.o0;exact eE rfl (by simp) (.bQ .ar)
 |b8 b ck=>grind
 |aY=>grind
end
def o1:List Field->List (TypeId×Nat)->Bool
 | [],[]=>true
 |f::r,x::eY=>Nat.beq f.type x.1&&Nat.beq f.offset x.2&&f.name != "_" &&o1 r eY
 |_,_=>false
def yH:TypeDesc->Jm->Bool
 | .int k,.int eO=>sj k eO
 | .bool,.bool=>true
 | .string,.str=>true
 | .slice e,.fb e'=>Nat.beq e e'
 | .array n e,.arr JH e'=>Nat.beq n JH&&Nat.beq e e'
 | .struct F,.b4 fs=>o1 F.toList fs
 | .struct _,_| .array _ _,_=>false
 |_,.gr=>true
 |_,_=>false
def Dk:TypeDesc->Bool
 | .struct _| .array _ _=>true
 |_=>false
def uJ:Value->ak->Bool
 | .int k n,.v (.int eO m)=>sj k eO&&n==m
 | .bool b,.v (.bool b')=>b==b'
 | .string s,.v (.string s')=>s.data.toList==s'.data.toList
 | .pointer none,.v (.pointer none)=>true
 | .slice none 0 0,.ar=>true
 | .nilFunc,.v .nilFunc=>true
 |_,_=>false
def yI:List Value->List ak->Bool
 | [],[]=>true
 |v::r,d::eY=>uJ v d&&yI r eY
 |_,_=>false
def OE(P:Program)(t:TypeId)(ma:Fz):Bool:=
 match P.info? t,P.underlying t with
 |some i,some d=>Nat.beq i.size ma.size&&Nat.beq i.bytes ma.bytes&& (match i.zero with
  |some z=>yI z.cells.toList ma.zero&&Nat.beq ma.zero.length ma.size
  |none=>false)&&yH d ma.k&& (Dk d==ma.agg)&& (ma.agg||Nat.beq ma.size 1)&& (!ma.agg|| (!P.stoodInHeld t&& !P.eqGuardType P.depth t))
 |_,_=>false
def dw(P:Program):dJ->Bool
 | []=>true
 |p::r=>OE P p.1 p.2&&dw P r
structure Vk(P:Program)(t:TypeId)(ma:Fz):Prop where
 aek:∃i,P.info? t=some i/\i.size=ma.size/\i.bytes=ma.bytes/\∃z,i.zero=some z/\yI z.cells.toList ma.zero=true/\ma.zero.length=ma.size
 kind:∃d,P.underlying t=some d/\yH d ma.k=true/\Dk d=ma.agg
 eE:ma.agg=false->ma.size=1
 held:ma.agg=true->P.stoodInHeld t=false/\P.eqGuardType P.depth t=false
theorem ael{P:Program}{t:TypeId}{ma:Fz}(h:OE P t ma=true):Vk P t ma:=by
 unfold OE at h;split at h
 ·rename_i i d hi aa;simp only[cq,oS,nu,Ji]at h;obtain⟨⟨⟨⟨⟨⟨h1,ad⟩,aN⟩,bs⟩,cm⟩,jj⟩,eK⟩:=h;refine⟨⟨i,hi,fB h1,fB ad,?_⟩,⟨d,aa,bs,cm⟩,λbb=> ?_,λbb=> ?_⟩
  ·split at aN;all_goals simp_all
  all_goals simp_all
 grind
theorem qc{P:Program}:∀ {ah:dJ} {t:TypeId},dw P ah=true->((aE ah t).size≠0\/(aE ah t).k≠ .gr)->Vk P t (aE ah t)
 | [],t,_,h=>by rcases h with h|h<;>exact absurd rfl h
 |p::r,t,aw,h=>by
  simp only[dw,cq]at aw;simp only[aE]at h⊢;split
  ·rename_i ac;have:=fB ac;subst this;exact ael aw.1
  ·rename_i ac;simp only[ac]at h;exact qc aw.2 h
section
variable {P:Program} {ah:dJ} {t:TypeId}
theorem rF(aw:dw P ah=true)(h: (aE ah t).size≠0):∃i,P.info? t=some i/\i.size=(aE ah t).size/\i.bytes=(aE ah t).bytes/\∃z,i.zero=some z/\yI z.cells.toList (aE ah t).zero=true/\(aE ah t).zero.length=(aE ah t).size:=
 (qc aw (.inl h)).aek
theorem jT(aw:dw P ah=true)(h: (aE ah t).size≠0)(w:World): (sizeOf t).run P w= .ok (aE ah t).size w:=by
 obtain⟨i,hi,ae,_⟩:=rF aw h;simp[sizeOf,typeInfo,hi,ae]
theorem JI(aw:dw P ah=true)(h: (aE ah t).size≠0)(w:World): (isAgg t).run P w= .ok (aE ah t).agg w:=by
 obtain⟨d,aa,_,bb⟩:=(qc aw (.inl h)).kind;rw[<-bb];simp only[isAgg,dX,gz aa,dT];cases d<;>rfl
theorem AD(aw:dw P ah=true){k:IntKind}(h: (aE ah t).k= .int k):P.underlying t=some (.int k):=by
 obtain⟨d,aa,hk,_⟩:=(qc aw (.inr (by rw[h];simp))).kind;rw[h]at hk;cases d<;>simp[yH]at hk
 rw[FV.1 hk]at aa;exact aa
theorem JJ(aw:dw P ah=true)(h: (aE ah t).k= .bool):P.underlying t=some .bool:=by
 obtain⟨d,aa,hk,_⟩:=(qc aw (.inr (by rw[h];simp))).kind;rw[h]at hk;cases d<;>simp[yH]at hk
 exact aa
theorem vX(aw:dw P ah=true)(h: (aE ah t).k= .str):P.underlying t=some .string:=by
 obtain⟨d,aa,hk,_⟩:=(qc aw (.inr (by rw[h];simp))).kind;rw[h]at hk;cases d<;>simp[yH]at hk
 exact aa
theorem lL(aw:dw P ah=true){e:TypeId}(h: (aE ah t).k= .fb e):P.underlying t=some (.slice e):=by
 obtain⟨d,aa,hk,_⟩:=(qc aw (.inr (by rw[h];simp))).kind;rw[h]at hk;cases d<;>simp[yH]at hk
 grind
theorem JK(aw:dw P ah=true){n:Nat}{e:TypeId}(h: (aE ah t).k= .arr n e):P.underlying t=some (.array n e):=by
 obtain⟨d,aa,hk,_⟩:=(qc aw (.inr (by rw[h];simp))).kind;rw[h]at hk;cases d<;>simp[yH]at hk
 grind
theorem FY(aw:dw P ah=true){fs:List (TypeId×Nat)}(h: (aE ah t).k= .b4 fs):∃F:Array Field,P.underlying t=some (.struct F)/\o1 F.toList fs=true/\(aE ah t).agg=true:=by
 obtain⟨d,aa,hk,bb⟩:=(qc aw (.inr (by rw[h];simp))).kind;rw[h]at hk;cases d<;>simp[yH]at hk
 exact⟨_,aa,hk,bb.symm⟩
end
theorem Vl:∀ {F:List Field} {fs:List (TypeId×Nat)} {f:Nat},o1 F fs=true->(h2 fs f).1≠0\/f<fs.length->f<fs.length->∃x,F[f]?=some x/\x.type=(h2 fs f).1/\x.offset=(h2 fs f).2/\x.name≠ "_"
 | [],[],f,_,_,au=>by grind
 | [],_::_,f,h,_,_=>by simp[o1]at h
 |_::_,[],f,h,_,_=>by grind
 |x::r,y::eY,0,h,_,_=>by
  simp only[o1,cq,Jj]at h;exact⟨x,rfl,fB h.1.1.1,fB h.1.1.2,h.1.2⟩
 |x::r,y::eY,f+1,h,_,au=>by
  simp only[o1,cq,Jj]at h;simp only[l7,Nat.add_lt_add_iff_right]at au;simpa[h2]using Vl (f:=f) h.2 (.inr au) au
theorem Vm:∀ {fs:List (TypeId×Nat)} {f:Nat},fs.length<=f->h2 fs f=(0,0)
 | [],f,_=>by rfl
 |_::r,0,h=>by grind
 |_::r,f+1,h=>by simp only[h2];exact Vm (by grind)
theorem uK{A:Nat->Prop}{w:World}:∀ {vs:List Value} {ds:List ak},yI vs ds=true->vs.length=ds.length/\(∀v∈vs,v.oneCell'=true)/\∀ (i:Nat) v d,vs[i]?=some v->ds[i]?=some d->b7 A w v d
 | [],[],_=>⟨rfl,by simp,by simp⟩
 | [],_::_,h=>by simp[yI]at h
 |_::_,[],h=>by simp[yI]at h
 |v::r,d::eY,h=>by
  simp only[yI,cq]at h;obtain⟨af,br,an⟩:=uK (A:=A) (w:=w) h.2;have h1:v.oneCell'=true/\b7 A w v d:=by
   have h:=h.1;unfold uJ at h;split at h
   ·simp only[cq,Ji]at h;obtain⟨hk,rfl⟩:=h;obtain rfl:=FV.1 hk;exact⟨rfl,.v rfl⟩
   ·simp only[Ji]at h;subst h;exact⟨rfl,.v rfl⟩
   ·rename_i s s' _;have:s=s':=by
     obtain⟨⟨x⟩⟩:=s
     simp_all
    subst this;exact⟨rfl,.v rfl⟩
   ·exact⟨rfl,.v rfl⟩
   ·exact⟨rfl,.ar⟩
   ·exact⟨rfl,.v rfl⟩
   grind
  grind
open Go
def Holds(c:Option Prop):Prop:=∀p,c=some p->p
theorem Holds.OF:Holds none:=λ_ h=>by cases h
theorem Holds.j8{p:Prop}:Holds (some p)↔p:=⟨λh=>h p rfl,λh q e=>by grind⟩
theorem Holds.Vn:Holds none↔True:=⟨λ_=>trivial,λ_=>Holds.OF⟩
theorem Holds.andO{c fD:Option Prop}:Holds (andO c fD)↔Holds c/\Holds fD:=by
 cases c<;>cases fD<;>simp only[Lift.andO,Holds.j8,Holds.Vn,true_and,and_true]
theorem qT{c:Option Prop}{p:Prop}:te c p↔Holds c/\p:=by
 cases c<;>simp only[te,Holds.j8,Holds.Vn,true_and]
variable{x:Operand}
theorem Vo{a:Act}(h:sh x=true):a.eval x= .bool true:=by
 unfold sh at h;split at h
 ·subst h;rfl
 grind
theorem Vp{a:Act}(h:si x=true):a.eval x= .bool false:=by
 unfold si at h;split at h
 ·rename_i b;cases b
  ·rfl
  grind
 grind
section
variable {P:Program} {ah:dJ} {A:Nat->Prop} {os:c3} {w:World} {a:Act} {o:Oper} {ρ:Operand->ak}
def aem(P:Program)(A:Nat->Prop)(os:c3)(w:World)(a:Act)(o:Oper)(c:Option Prop)(d:ak):Prop:=
 Holds c->∃x,(execOp a.eval o).run P w= .ok (.value x) w/\bg A os w x d
def ln(P:Program)(A:Nat->Prop)(os:c3)(w:World)(a:Act)(o:Oper)(K:Option Prop->ak->Prop):Prop:=
 ∃c d,K c d/\aem P A os w a o c d
abbrev gu(A:Nat->Prop)(os:c3)(w:World)(a:Act)(ρ:Operand->ak)(x:Operand):Prop:=bg A os w (a.eval x) (ρ x)
theorem gu.v{y:Value}(h:gu A os w a ρ x)(e:ρ x= .v y):a.eval x=y:=by
 unfold gu at h;rw[e]at h;exact h.j7.1
variable{K:Option Prop->ak->Prop}
theorem Vq(aH:o.op= .move x\/o.op= .assign x)(ag:gu A os w a ρ x)(h:gW (ρ x) λd=>K none d):ln P A os w a o K:=by
 refine⟨none,_,ir.1 h,λ_=>⟨_,?_,ag⟩⟩;rcases aH with aH|aH<;>simp[execOp,aH]
theorem JL{d:ak}{K:Option Prop->ak->Prop}(h:tf b d K):∃c ck,K c ck/\∀x,Holds c->b=true->bg A os w x d->bg A os w x ck:=by
 cases d
 case b8 g d=>
  refine⟨_,_,h,λx al ac ao=> ?_⟩;exact ao.yF.1 (Holds.j8.1 al ac)
 all_goals exact⟨_,_,h,λx _ _ ao=>ao⟩
theorem JM{c:Bool}{x y:ak}{xb Ak:Bool}{K:ak->Prop}(h:rz c x y xb Ak K):
  ∃p q r,x= .v (.bool p)/\y= .v (.bool q)/\K (.v (.bool r))/\((xb=true->c=true->p=true)->(Ak=true->c=false->q=false)->r=if c then p else q):=by
 unfold rz at h
 grind
theorem aen{c x y:Operand}{K:Option Prop->ak->Prop}(aH:o.op= .pick c x y)(al:gu A os w a ρ c)(ag:gu A os w a ρ x)(bk:gu A os w a ρ y)(h:Am ρ c x y K):ln P A os w a o K:=by
 unfold Am at h;split at h
 ·rename_i t OG;obtain⟨fJ,x',h,cV⟩:=JL (A:=A) (os:=os) (w:=w) h;obtain⟨eP,qU,h,dj⟩:=JL (A:=A) (os:=os) (w:=w) h;obtain⟨p,q,r,aA,aG,h,ao⟩:=JM (ir.1 (ir.1 h));refine⟨_,_,h,λbw=> ?_⟩;obtain⟨rG,xm⟩:=Holds.andO.1 bw;have j9:=al.v OG;have jU:t=true->a.eval x= .bool p:=λcI=>by have:=cV _ rG cI ag;rw[aA]at this;exact this.j7.1
  have k4:t=false->a.eval y= .bool q:=λcI=>by have:=dj _ xm (by grind) bk;rw[aG]at this;exact this.j7.1
  have mb:=ao (λhk cI=>by
   have:=jU cI;rw[Vo hk]at this
   grind) (λhk cI=>by
   have:=k4 cI;rw[Vp hk]at this
   grind)
  refine⟨.bool r,?_,.bQ (.v rfl)⟩;simp only[execOp,aH,j9,asBool,dX,ex,dT]
  grind
 grind
theorem JN{i:Nat}(h:jR (bN (os.map (·.2)) i)=true):∃x e ay es,os[i]?=some (x,.row e ay es):=by
 rw[lm,fe]at h;cases hi:os[i]? with
 |none=>rw[hi]at h;simp[jR]at h
 |some p=>
  obtain⟨x,o⟩:=p;rw[hi]at h;cases o<;>simp[jR]at h
  simp
theorem aeo{i:Nat}(h:ry (bN (os.map (·.2)) i)=true):∃x t cs,os[i]?=some (x,.cells t cs):=by
 rw[lm,fe]at h;cases hi:os[i]? with
 |none=>rw[hi]at h;simp[ry]at h
 |some p=>
  obtain⟨x,o⟩:=p;rw[hi]at h;cases o<;>simp[ry]at h
  simp
theorem aep(aH:o.op= .nilCheck x)(ag:gu A os w a ρ x)(h:xc (os.map (·.2)) (ρ x) K):ln P A os w a o K:=by
 unfold gu at ag;unfold xc at h;split at h
 ·rename_i e;rw[e]at ag;refine⟨_,_,h,λ_=>⟨a.eval x,?_,ag⟩⟩;obtain⟨g,t,cs,_,ec⟩:=ag.qR;simp[execOp,aH,ec]
 ·rename_i e;rw[e]at ag;refine⟨_,_,h,λ_=>⟨a.eval x,?_,ag⟩⟩;obtain⟨g,t,cs,_,ec⟩:=ag.yG;simp[execOp,aH,ec]
 ·rename_i e;rw[e]at ag;split at h
  ·rename_i ao;refine⟨_,_,h,λ_=>⟨a.eval x,?_,ag⟩⟩;obtain⟨_,_,_,_,hi⟩:=JN ao;obtain⟨g,n,c,_,ec⟩:=ag.FX hi;simp[execOp,aH,ec]
  grind
 ·rename_i e;rw[e]at ag;refine⟨_,_,h,λ_=>⟨a.eval x,?_,ag⟩⟩;have hi:=ag.vW;generalize bk:a.eval x=y at *;cases hi;simp[execOp,aH,bk]
 ·rename_i e;rw[e]at ag;refine⟨_,_,h,λ_=>⟨a.eval x,?_,ag⟩⟩;obtain⟨vs,bk,_⟩:=ag.tn;simp[execOp,aH,bk]
 grind
theorem aeq{op:UnOp}{t:TypeId}{x:Operand}{K:Option Prop->ak->Prop}(aH:o.op= .unOp op t x)(ag:gu A os w a ρ x)(h:CT op (ρ x) K):ln P A os w a o K:=by
 unfold CT at h;split at h
 ·rename_i e;exact⟨_,_,h,λ_=>⟨_,by simp[execOp,aH,ag.v e,Op.unary],.bQ (.v rfl)⟩⟩
 ·rename_i e;exact⟨_,_,h,λ_=>⟨_,by simp[execOp,aH,ag.v e,Op.unary,Op.intArith],.bQ (.v rfl)⟩⟩
 ·rename_i e;exact⟨_,_,h,λ_=>⟨_,by simp only[execOp,aH,ag.v e,Op.unary,intBits_xor,dX,ex,dT],.bQ (.v rfl)⟩⟩
 grind
theorem Vr(x y:ByteArray): (x.toList==y.toList)=decide (x=y):=by
 rw[ByteArray.toList_eq,ByteArray.toList_eq,NI];obtain⟨⟨x⟩⟩:=x;obtain⟨⟨y⟩⟩:=y;simp
variable{op:BinOp}{t u:TypeId}
theorem aer{x y:Operand}{k:IntKind}{p q:Int}{K:Option Prop->ak->Prop}(aH:o.op= .binOp op t x y u)(ag:a.eval x= .int k p)(bk:a.eval y= .int k q)(h:FC op k p q K):ln P A os w a o K:=by
 cases op<;>simp only[FC]at h<;>first
  |exact h.elim
  | (refine⟨_,_,h,λal=>⟨_,?_,.bQ (.v rfl)⟩⟩
     simp only[execOp,aH,ag,bk,eqGuard_at_int,binOp,ne_eq,not_true_eq_false,uz,Op.intArith,Op.intDiv,Op.intCmp,intBits_and,intBits_or,intBits_xor,intBits_andNot,dX,ex,dT];try(rw[bm (Holds.j8.1 al)])
     try simp only[ex,dT]
     try rfl)
theorem aes{x y:Operand}{k eO:IntKind}{p q:Int}{K:Option Prop->ak->Prop}(aH:o.op= .binOp op t x y u)(ag:a.eval x= .int k p)(bk:a.eval y= .int eO q)(h:FD op k p q K):ln P A os w a o K:=by
 cases op<;>simp only[FD]at h<;>first
  |exact h.elim
  | (refine⟨_,_,h,λal=>⟨_,?_,.bQ (.v rfl)⟩⟩
     have bX:¬q<0:=by have:=Holds.j8.1 al;omega
     simp only[execOp,aH,ag,bk,eqGuard_at_int,binOp,Op.shift,bm bX,dX,ex,dT])
theorem aet{x y:Operand}{p q:ByteArray}{K:Option Prop->ak->Prop}(aH:o.op= .binOp op t x y u)(ag:a.eval x= .string p)(bk:a.eval y= .string q)(h:Jn op p q K):ln P A os w a o K:=by
 cases op<;>simp only[Jn]at h<;>first
  |exact h.elim
  | (refine⟨_,_,h,λal=>⟨_,?_,.bQ (.v rfl)⟩⟩
     simp only[execOp,aH,ag,bk,eqGuard_at_string,binOp,Op.stringOp,Vr,dX,ex,dT])
theorem aeu(aw:dw P ah=true){op:BinOp}{t u:TypeId}{x y:Operand}{p q:Bool}{K:Option Prop->ak->Prop}(aH:o.op= .binOp op t x y u)(ag:a.eval x= .bool p)(bk:a.eval y= .bool q)(cI: (aE ah t).k= .bool)(h:FE op p q K):ln P A os w a o K:=by
 have hu:=JJ aw cI;cases op<;>simp only[FE]at h<;>first
  |exact h.elim
  | (refine⟨_,_,h,λal=>⟨_,?_,.bQ (.v rfl)⟩⟩
     simp only[execOp,aH,ag,bk,eqGuard_at_bool,run_eql_bool w t p q hu,run_neq_bool w t p q hu,dX,ex,dT])
end
open Go
section
variable {P:Program} {ah:dJ} {A:Nat->Prop} {os:c3} {w:World} {a:Act} {o:Oper} {ρ:Operand->ak}
def OH:p7->Value->Prop
 | .int k,.int eO _=>k=eO
 | .bool,.bool _=>True
 | .str,.string _=>True
 |_,_=>False
def kinds:List p7->List Value->Prop
 | [],[]=>True
 |k::c7,v::vs=>OH k v/\kinds c7 vs
 |_,_=>False
def FZ:Value->Value->Bool
 | .int _ a,.int _ b=>decide (a=b)
 | .bool a,.bool b=>a==b
 | .string a,.string b=>decide (a=b)
 |_,_=>false
def sp:List Value->List Value->Bool
 |v::vs,u::us=>FZ v u&&sp vs us
 |_,_=>true
theorem F0:∀ {c7:List p7} {vs:List Value},kinds c7 vs->vs.length=c7.length
 | [],[],_=>rfl
 | [],_::_,h=>h.elim
 |_::_,[],h=>h.elim
 |_::c7,_::vs,h=>by simp[F0 h.2]
theorem OI:∀ {c7 xi:List p7} {vs:List Value},kinds (c7++xi) vs->kinds c7 (vs.take c7.length)/\kinds xi (vs.drop c7.length)
 | [],xi,vs,h=>⟨by simp[kinds],by grind⟩
 |k::c7,xi,[],h=>h.elim
 |k::c7,xi,v::vs,h=>by
  obtain⟨h1,ad⟩:=OI (c7:=c7) h.2;exact⟨⟨h.1,by omega⟩,by grind⟩
theorem Vs:∀ {n:Nat} {vs us:List Value},vs.length=us.length->sp vs us=(sp (vs.take n) (us.take n)&&sp (vs.drop n) (us.drop n))
 |0,vs,us,_=>by rfl
 |n+1,[],us,h=>by cases us<;>simp[sp]at h⊢
 |n+1,v::vs,[],h=>by grind
 |n+1,v::vs,u::us,h=>by
  simp only[List.take_succ_cons,List.drop_succ_cons,sp,Bool.and_assoc];rw[Vs (n:=n) (by grind)]
theorem aev{k:p7}{x y:ak}{K:Bool->Prop}(h:FB k x y K):∃v u,x= .v v/\y= .v u/\OH k v/\OH k u/\K (FZ v u):=by
 unfold FB at h;split at h
 ·split at h
  ·rename_i hk;simp only[cq]at hk;exact⟨_,_,rfl,rfl,FV.1 hk.1,FV.1 hk.2,h⟩
  grind
 ·exact⟨_,_,rfl,rfl,aj,aj,h⟩
 ·exact⟨_,_,rfl,rfl,aj,aj,h⟩
 grind
theorem JO:∀ {c7:List p7} {xs ys:List ak} {K:Bool->Prop},qL c7 xs ys K->∃vs us,xs=vs.map .v/\ys=us.map .v/\kinds c7 vs/\kinds c7 us/\K (sp vs us)
 | [],[],[],K,h=>⟨[],[],rfl,rfl,aj,aj,h⟩
 |k::c7,x::xs,y::ys,K,h=>by
  obtain⟨v,u,rfl,rfl,cV,dj,h⟩:=aev h;obtain⟨vs,us,rfl,rfl,k3,F1,ap⟩:=JO h;exact⟨v::vs,u::us,rfl,rfl,⟨cV,k3⟩,⟨dj,F1⟩,ap⟩
 | [],[],_::_,K,h=>by simp[qL]at h
 | [],_::_,[],K,h=>by simp[qL]at h
 | [],_::_,_::_,K,h=>by simp[qL]at h
 |_::_,[],[],K,h=>by simp[qL]at h
 |_::_,[],_::_,K,h=>by simp[qL]at h
 |_::_,_::_,[],K,h=>by simp[qL]at h
def vY(agg:Bool)(vs:List Value):Value:=
 match agg with
 |true=>.agg vs.toArray
 |false=>vs.headD undef
theorem JP(aw:dw P ah=true){t:TypeId}(ae: (aE ah t).size≠0)(vs:List Value)(off:Nat)(h:off+(aE ah t).size<=vs.length)(h1: (aE ah t).agg=false->(aE ah t).size=1):
  (part t vs.toArray off).run P w= .ok (vY (aE ah t).agg ((vs.drop off).take (aE ah t).size)) w:=by
 unfold part;simp only[dX,JI aw ae,dT];cases bb: (aE ah t).agg
 ·have h1:=h1 bb;rw[h1]at h⊢;have ax:vs.toArray[off]?=some (vs[off]'(by omega)):=by simp
  rw[bm (by simp)];simp only[ax,ex,vY];rw[vK (by omega)];rfl
 ·rw[b3 rfl];simp only[dX,jT aw ae,dT,ex,vY,Fx];simp
def Vt(P:Program)(ah:dJ)(t:TypeId)(c7:List p7)(d:Nat):Prop:=
 (aE ah t).size=c7.length/\(aE ah t).size≠0/\((aE ah t).agg=false->(aE ah t).size=1)/\
  ∀ (vs us:List Value) (w:World),kinds c7 vs->kinds c7 us->(Op.equalIn d t (vY (aE ah t).agg vs) (vY (aE ah t).agg us)).run P w= .ok (sp vs us) w
theorem Vu(aw:dw P ah=true){g:TypeId->Option (List p7)}{d:Nat}(ax:∀t c7,g t=some c7->Vt P ah t c7 d):
  ∀ (F:List Field) (fs:List (TypeId×Nat)) (o:Nat) (c7:List p7) (vs us:List Value) (w:World),o1 F fs=true->FA g fs o=some c7->kinds c7 (vs.drop o)->kinds c7 (us.drop o)->vs.length=us.length->
   (Op.eqFields d vs.toArray us.toArray F).run P w= .ok (sp (vs.drop o) (us.drop o)) w
 | [],[],o,c7,vs,us,w,eZ,h,cV,dj,af=>by
  simp only[FA,vN]at h;subst h;cases ab:vs.drop o with
  |cons x r=>rw[ab]at cV;exact cV.elim
  |nil=>rfl
 | [],_::_,o,c7,vs,us,w,eZ,h,cV,dj,af=>by simp[o1]at eZ
 |_::_,[],o,c7,vs,us,w,eZ,h,cV,dj,af=>by simp[o1]at eZ
 |f::F,x::fs,o,c7,vs,us,w,eZ,h,cV,dj,af=>by
  simp only[o1,cq,Jj]at eZ;obtain⟨⟨⟨cI,aH⟩,aV⟩,eZ⟩:=eZ;have cI:=fB cI;have aH:=fB aH;unfold FA at h;split at h
  ·grind
  ·rename_i ac;have ac:=fB ac;split at h
   ·grind
   ·rename_i JQ jk;split at h
    ·grind
    ·rename_i l gM;simp only[vN]at h;subst h;obtain⟨ae,yJ,vZ,heq⟩:=ax _ _ jk;obtain⟨cH,a2⟩:=OI cV;obtain⟨cX,c0⟩:=OI dj;have OJ:=F0 cV;have aew:=F0 dj;simp only[ru,fw]at OJ aew;have kt:f.offset=o:=aH.trans ac;have fl:=JP (w:=w) aw yJ vs o (by omega) vZ;have ff:=JP (w:=w) aw yJ us o (by omega) vZ;rw[ae]at fl ff;have aA:=heq _ _ w cH cX;simp only[Op.eqFields,b3 aV,dX,cI,kt,fl,ff,dT,aA];rw[Vs (n:=JQ.length) (vs:=vs.drop o) (us:=us.drop o) (by grind)];have a1:=Vu aw ax F fs (o+JQ.length) l vs us w eZ gM (by simp_all) (by simp_all) af;cases ao:sp ((vs.drop o).take JQ.length) ((us.drop o).take JQ.length);all_goals simp_all
theorem Vv(aw:dw P ah=true):∀ (n:Nat) (t:TypeId) (c7:List p7),flatK ah n t=some c7->∀d,n<=d->Vt P ah t c7 d
 |0,t,c7,h,d,aa=>by simp[flatK]at h
 |n+1,t,c7,h,0,aa=>by omega
 |n+1,t,c7,h,d+1,aa=>by
  unfold flatK at h;split at h
  ·rename_i k hk;have he:=qc aw (t:=t) (.inr (by grind));obtain⟨pB,dq,Dl,bb⟩:=he.kind;have hu:=AD aw hk;rw[hu]at dq;cases dq;have h1:=he.eE bb.symm;cases h;refine⟨by omega,by omega,λ_=>h1,λvs us w cV dj=> ?_⟩;rw[<-bb]
   match vs,us,cV,dj with
   | [.int q p],[.int aex F2],cV,dj=>
    have aA:k=q:=cV.1;have aG:k=aex:=dj.1;subst aA;subst aG;simp[vY,Dk,run_equalIn_int w d t k k p F2 hu,sp,FZ,Bool.beq_eq_decide_eq]
  ·rename_i hk;have he:=qc aw (t:=t) (.inr (by grind));obtain⟨pB,dq,Dl,bb⟩:=he.kind;have hu:=JJ aw hk;rw[hu]at dq;cases dq;have h1:=he.eE bb.symm;cases h;refine⟨by omega,by omega,λ_=>h1,λvs us w cV dj=> ?_⟩;rw[<-bb]
   match vs,us,cV,dj with
   | [.bool p],[.bool F2],cV,dj=>simp[vY,Dk,run_equalIn_bool w d t p F2 hu,sp,FZ]
  ·rename_i hk;have he:=qc aw (t:=t) (.inr (by grind));obtain⟨pB,dq,Dl,bb⟩:=he.kind;have hu:=vX aw hk;rw[hu]at dq;cases dq;have h1:=he.eE bb.symm;cases h;refine⟨by omega,by omega,λ_=>h1,λvs us w cV dj=> ?_⟩;rw[<-bb]
   match vs,us,cV,dj with
   | [.string p],[.string F2],cV,dj=>simp[vY,Dk,run_equalIn_string w d t p F2 hu,sp,FZ,Vr]
  ·rename_i fs hk;split at h
   ·rename_i atM au;split at h
    ·rename_i m bt az;cases h;have bt:=fB bt;obtain⟨F,hu,eZ,yK⟩:=FY aw hk;have he:=qc aw (t:=t) (.inr (by grind));refine⟨bt.symm,by omega,λbb=>absurd (bb.symm.trans yK) (by simp),λvs us w cV dj=> ?_⟩;have aey:P.fieldsOf t=F:=by simp[Program.fieldsOf,hu]
     rw[yK];have:=Vu aw (g:=flatK ah n) (d:=d) (λt c7 bw=>Vv aw n t c7 bw d (by omega)) F.toList fs 0 c7 vs us w eZ au (by grind) (by grind) (by rw[F0 cV,F0 dj]);simp only[vY];rw[run_equalIn_struct w d t _ _ (by grind) (he.held yK).1,aey,this];simp
    grind
   grind
  grind
theorem aez(aw:dw P ah=true){op:BinOp}{t u:TypeId}{x y:Operand}{xs ys:List ak}{K:Option Prop->ak->Prop}(aH:o.op= .binOp op t x y u)(ag:gu A os w a ρ x)(bk:gu A os w a ρ y)(ec:ρ x= .agg xs)(OK:ρ y= .agg ys)(h:CR ah t op xs ys K):ln P A os w a o K:=by
 unfold CR at h;unfold gu at ag bk;rw[ec]at ag;rw[OK]at bk;obtain⟨vs,aeA,af,_,an⟩:=ag.xl;obtain⟨us,aeB,hK,_,yL⟩:=bk.xl;have Di:∀ {dY:List Value} {ds:List ak} {o2:List Value},dY.length=ds.length->(∀ (i:Nat) v d,dY[i]?=some v->ds[i]?=some d->bg A os w v d)->ds=o2.map .v->dY=o2:=by
  intro dY ds o2 h1 ad aN;subst aN;apply rr;intro i;by_cases hi:i<dY.length
  ·have di:i<o2.length:=by grind
   have:=(ad i dY[i] (.v o2[i]) (eN hi) (by simp)).j7.1
   grind
  grind
 split at h
 ·rename_i c7 xn gi;obtain⟨h1,ad,aN,bs⟩:=Vv aw 5 t c7 xn Op.maxDepth (by decide);have key:∀ {qV:Bool->Prop},qL c7 xs ys qV->∃r,qV r/\(eqGuard op t x y (.agg vs.toArray) (.agg us.toArray)).run P w= .ok () w/\(Op.equal t (.agg vs.toArray) (.agg us.toArray)).run P w= .ok r w:=by
   intro qV h;obtain⟨o2,atN,aA,aG,cV,dj,ap⟩:=JO h;obtain rfl:=Di af an aA;obtain rfl:=Di hK yL aG;have he:=qc aw (t:=t) (.inl ad);refine⟨_,ap,?_,?_⟩
   ·cases op<;>first|rfl|simp[eqGuard,(he.held gi).2]
   ·have:=bs _ _ w cV dj;rw[gi]at this;exact this
  cases op<;>simp only at h<;>first
   |exact h.elim
   | (obtain⟨r,ap,ax,he⟩:=key h
      refine⟨_,_,ap,λ_=>⟨_,?_,.bQ (.v rfl)⟩⟩;simp only[execOp,aH,aeA,aeB,dX,ax,dT,binOp,he,ex])
 grind
end
open Go
theorem JR{α:Type}{Q:Nat->α->Prop}:∀ (n:Nat),(∀j,j<n->∃v,Q j v)->∃vs:List α,vs.length=n/\∀ (j:Nat) v,vs[j]?=some v->Q j v
 |0,_=>⟨[],rfl,by simp⟩
 |n+1,h=>by
  obtain⟨vs,af,bX⟩:=JR n (λj aq=>h j (by omega));obtain⟨v,ab⟩:=h n (by omega);refine⟨vs++ [v],by grind,λj u hu=> ?_⟩
  grind
variable{os:c3}{i:Nat}
theorem kN{o:aX}(h:bN (os.map (·.2)) i=o)(aa:o≠ .bn):∃x,os[i]?=some (x,o):=by
 rw[lm,fe]at h
 grind
section
variable {P:Program} {ah:dJ} {A:Nat->Prop} {os:c3} {B:e8} {w:World} {a:Act} {o:Oper} {ρ:Operand->ak}
theorem AE(aw:dw P ah=true){t:TypeId}(ae: (aE ah t).size≠0){cE:Addr}{ds:List ak}{K:ak->Prop}
  (al:∀ (j:Nat) d,ds[j]?=some d->∃v,w.cell? (cE.add j)=some v/\v.oneCell'=true/\bg A os w v d) (h:mA (aE ah t).agg (aE ah t).size ds K):
  ∃d x,K d/\(loadVar t cE).run P w= .ok x w/\bg A os w x d:=by
 unfold mA at h;split at h
 ·rename_i gi;obtain⟨af,h⟩:=FU h;obtain⟨vs,jl,ab⟩:=JR (Q:=λj v=>w.cell? (cE.add j)=some v/\v.oneCell'=true/\∃d,ds[j]?=some d/\bg A os w v d) (aE ah t).size (λj aq=>by
   obtain⟨v,h1,ad,aN⟩:=al j ds[j] (eN (by omega))
   grind)
  have eo:=N8 (P:=P) w cE vs (λj v aq=>(ab j v aq).1);refine⟨_,.agg vs.toArray,h,?_,.agg (by grind) (λv az=> ?_) (λi v d hi aa=> ?_)⟩
  ·simp only[loadVar,dX,JI aw ae,dT,gi,if_true,jT aw ae,<-jl,eo,ex,Fx]
  ·obtain⟨j,aq,rfl⟩:=fv az;exact(ab j _ (eN aq)).2.1
  grind
 ·rename_i gi;split at h
  ·rename_i d r;have h:=ir.1 h;obtain⟨v,h1,ad,aN⟩:=al 0 d rfl;refine⟨_,v,h,?_,aN⟩;have aQ:cE.add 0=cE:=by rfl
   rw[aQ]at h1;simp only[loadVar,dX,JI aw ae,dT,gi,s6,uz,run_load,h1]
  grind
theorem Vw{x:Value}{cs:List ak}(h:bg A os w x (.da cs)):∃cE,x= .pointer (some cE)/\¬A cE.block/\cE.block<w.heap.size/\
  ∀ (j:Nat) d,cs[j]?=some d->∃v,w.cell? (cE.add j)=some v/\v.oneCell'=true/\b7 A w v d:=by
 have h:=h.vW;cases h with
 |da xs ai ac br dD ag=>grind
theorem F3{cE:Addr}{cs:List ak}(ai:¬A cE.block)(ac:cE.block<w.heap.size)(al:∀ (j:Nat) d,cs[j]?=some d->∃v,w.cell? (cE.add j)=some v/\v.oneCell'=true/\b7 A w v d):b7 A w (.pointer (some cE)) (.da cs):=by
 have:∀j,∃v:Value,v.oneCell'=true/\∀d,cs[j]?=some d->w.cell? (cE.add j)=some v/\b7 A w v d:=by
  intro j;cases aq:cs[j]? with
  |none=>exact⟨.nilFunc,rfl,by simp⟩
  |some d=>
   grind
 exact .da (λj=>(this j).choose) ai ac (λj=>(this j).choose_spec.1) (λj d aa=>((this j).choose_spec.2 d aa).1) (λj d aa=>((this j).choose_spec.2 d aa).2)
theorem xo(hO:yx A os B w){i g:Nat}{t:TypeId}{cs:List ak}(h:os[i]?=some (.pointer (some ⟨g,0,none⟩),.cells t cs)):
  ∃arr,w.heap[g]?=some (.cells arr t (0,0))/\arr.size=cs.length/\B.mine g/\(∀v∈arr.toList,v.oneCell'=true)/\(∀ (j:Nat) v d,arr[j]?=some v->cs[j]?=some d->bg A os w v d)/\
   ∀ (j:Nat) d,cs[j]?=some d->∃v,w.cell? ⟨g,j,none⟩=some v/\v.oneCell'=true/\bg A os w v d:=by
 obtain⟨dV,arr,e,ct,bw,ae,br,ao⟩:=hO _ _ _ h;cases e;refine⟨arr,bw,ae,ct,br,ao,λj d aa=> ?_⟩;have aq:j<arr.size:=by grind
 refine⟨arr[j],?_,br _ (by simp),ao j _ d (by simp) aa⟩;rw[cell_of_row w g j arr t (0,0) bw];simp
theorem aeC(aw:dw P ah=true)(hO:yx A os B w){t:TypeId}{x:Operand}{K:Option Prop->ak->Prop}(aH:o.op= .load t x)(ag:gu A os w a ρ x)(h:uB ah (os.map (·.2)) t (ρ x) K):ln P A os w a o K:=by
 unfold gu at ag;unfold uB at h;have nz:∀ {cE:Addr} {y:Value} {c:Option Prop} {d:ak},a.eval x= .pointer (some cE)->K c d->(Holds c->(loadVar t cE).run P w= .ok y w/\bg A os w y d)->ln P A os w a o K:=by
  intro cE y c d he ap bw;refine⟨_,_,ap,λal=>⟨y,?_,(bw al).2⟩⟩;simp only[execOp,aH,he,Instr.loadAt,Instr.sureAddr,dX,ex,dT,(bw al).1]
 split at h
 ·grind
 ·rename_i yJ;have ae: (aE ah t).size≠0:=yJ;split at h
  ·rename_i cs e;rw[e]at ag;obtain⟨cE,he,_,_,al⟩:=Vw ag;obtain⟨d,y,ap,h1,ad⟩:=AE (os:=os) aw ae (λj d aa=>by obtain⟨v,h1,ad,aN⟩:=al j d aa;exact⟨v,h1,ad,.bQ aN⟩) h
   grind
  ·rename_i i off e;rw[e]at ag;obtain⟨g,eB,dI,hi,he⟩:=ag.qR;split at h
   ·rename_i t2 cs af;obtain⟨x',di⟩:=kN af (by simp);rw[hi]at di;cases di;obtain⟨_,_,_,_,_,_,dD⟩:=xo hO hi;obtain⟨_,h⟩:=rE h;obtain⟨d,y,ap,h1,ad⟩:=AE aw ae (cE:=⟨g,off,none⟩) (λj d aa=>by rw[qI]at aa;rw[Addr.pA];exact dD _ d aa) h
    grind
   grind
  ·rename_i i off e;rw[e]at ag;obtain⟨g,eB,dI,hi,he⟩:=ag.yG;split at h
   ·rename_i t2 cs af;obtain⟨x',di⟩:=kN af (by simp);rw[hi]at di;cases di;obtain⟨_,_,_,_,_,_,dD⟩:=xo hO hi;split at h
    ·rename_i gi;obtain⟨ds,ap⟩:=h;by_cases al: (dI.drop off).take (aE ah t).size=ds/\ds.length=(aE ah t).size
     ·obtain⟨d,y,e,h1,ad⟩:=AE aw ae (cE:=⟨g,off,none⟩) (K:=λd=>d= .agg ds) (λj d aa=>by rw[qI]at aa;rw[Addr.pA];exact dD _ d aa) (ds:=dI.drop off) (by
       unfold mA;rw[gi];have:∀ (n:Nat) (l:List ak) (Q:List ak->Prop),n<=l.length->Q (l.take n)->xa n l Q:=by
        intro n;induction n with
        |zero=>intro l Q _ bX;simpa[xa]using bX
        |succ n a1=>
         intro l Q aV bX;cases l with
         |nil=>grind
         |cons d r=>exact ir.2 (a1 r _ (by grind) (by grind))
       grind)
      grind
     ·exact⟨_,_,ap,λbw=>absurd (Holds.j8.1 bw) al⟩
    ·rename_i gi;obtain⟨d,h⟩:=h;have ap:=ir.1 h;by_cases al:dI[off]?=some d
     ·obtain⟨v,h1,ad,aN⟩:=dD off d al;refine nz he ap (λ_=>⟨?_,aN⟩);simp only[loadVar,dX,JI aw ae,dT,gi,s6,uz,run_load,h1]
     ·exact⟨_,_,ap,λbw=>absurd (Holds.j8.1 bw) al⟩
   grind
  ·rename_i i k off e;rw[e]at ag;split at h
   ·rename_i e' ay fK af;obtain⟨x',hi⟩:=kN af (by simp);obtain⟨g,n,c,rfl,he⟩:=ag.FX hi;obtain⟨gb,h⟩:=h;obtain⟨_,h⟩:=rE h;obtain⟨jE,xs,b0,cC,gY,br,fm⟩:=hO _ _ _ hi;have AF:∃d,K (some (fK[k]?=some gb)) d/\mA (aE ah t).agg (aE ah t).size (gb.drop off) (λck=>ck=d/\K (some (fK[k]?=some gb)) d):=by
     unfold mA at h⊢;split at h
     ·obtain⟨af,bw⟩:=FU h;refine⟨_,bw,?_⟩;have:∀ (n:Nat) (l:List ak) (Q:List ak->Prop),n<=l.length->Q (l.take n)->xa n l Q:=by
       intro n;induction n with
       |zero=>intro l Q _ bX;simpa[xa]using bX
       |succ n a1=>
        intro l Q aV bX;cases l with
        |nil=>grind
        |cons d r=>exact ir.2 (a1 r _ (by grind) (by grind))
      grind
     ·split at h
      ·have bw:=ir.1 h;exact⟨_,bw,ir.2 ⟨rfl,bw⟩⟩
      grind
    obtain⟨d,ap,h⟩:=AF;by_cases al:fK[k]?=some gb
    ·have dD:∀ (j:Nat) d,(gb.drop off)[j]?=some d->∃v,w.cell? (Addr.add ⟨g,k*ay+off,none⟩ j)=some v/\v.oneCell'=true/\bg A os w v d:=by
      intro j d aa;rw[qI]at aa;obtain⟨v,ab,hi⟩:=fm k (off+j) gb d al aa;refine⟨v,?_,br v (fq ab),.bQ hi⟩;have:=b0.cells (g:=g) rfl _ _ ab;rw[Addr.pA]at this⊢
      grind
     obtain⟨ck,y,⟨rfl,_⟩,h1,ad⟩:=AE aw ae dD h
     grind
    ·exact⟨_,_,ap,λbw=>absurd (Holds.j8.1 bw) al⟩
   grind
  grind
end
open Go
section
variable {P:Program} {ah:dJ} {A:Nat->Prop} {os:c3} {B:e8} {w:World} {a:Act} {o:Oper} {ρ:Operand->ak}
theorem aeD{x:Value}{ay:Nat}{es:List (List ak)}{f:Bool}{k:Nat}{gb:List ak}(h:b7 A w x (.av ay es f))(hk:es[k]?=some gb):
  ∃cE n c,x= .slice (some cE) n c/\n=es.length/\k<n/\gb.length=ay/\¬A cE.block/\cE.block<w.heap.size/\∀ (j:Nat) d,gb[j]?=some d->∃v,w.cell? (cE.add (k*ay+j))=some v/\v.oneCell'=true/\b7 A w v d:=by
 cases h with
 |av xs aV al az au cC ai ac br dD ag=>
  grind
 |nil=>grind
theorem b7.j7{x y:Value}(h:b7 A w x (.v y)):x=y:=by
 cases h;rfl
theorem Vx:∀ (l:List UInt8) (s:ByteArray),(l.map (λb=>(b.toNat:Int))).foldl (λr n=>r.push (UInt8.ofNat n.toNat)) s= ⟨(s.data.toList++l).toArray⟩
 | [],s=>by simp
 |b::r,s=>by
  simp only[oi,List.foldl_cons,l6];rw[Vx r];simp
theorem aeE(aw:dw P ah=true){src dst:TypeId}{x:Operand}{K:Option Prop->ak->Prop}(aH:o.op= .convert src dst x)(ag:gu A os w a ρ x)(h:CU ah (aE ah src).k (aE ah dst).k (ρ x) K):ln P A os w a o K:=by
 unfold CU at h;split at h
 ·rename_i c7 k eO n aA aG bc;refine⟨_,_,h,λ_=>⟨_,?_,.bQ (.v rfl)⟩⟩;simp only[execOp,aH,ag.v bc,convert,dX,gz (AD aw aA),gz (AD aw aG),dT,Conv.intToInt,ex]
 ·rename_i s aA aG bc;refine⟨_,_,h,λ_=>⟨_,?_,.bQ (.v rfl)⟩⟩;simp only[execOp,aH,ag.v bc,convert,dX,gz (vX aw aA),gz (vX aw aG),dT,ex]
 ·rename_i e ay es f aA aG bc;split at h
  ·rename_i Dm h1;obtain⟨rB,ap⟩:=h;have h1:=fB h1;subst h1;refine⟨_,_,ap,λal=>⟨_,?_,.bQ (.v rfl)⟩⟩;have al:=Holds.j8.1 al;unfold gu at ag;rw[bc]at ag;have hi:=ag.ny;have eo: (Conv.bytesToString (a.eval x)).run P w= .ok (.string ⟨rB.toArray⟩) w:=by
    generalize a.eval x=y at hi;cases hi with
    |nil=>
     have:rB=[]:=by cases rB<;>simp at al⊢
     subst this;rfl
    | @av cE n c _ _ _ xs aV pC az au cC ai ac br dD pD=>
     have af:rB.length=n:=by grind
     have aeF:∀j v,(rB.map (λb:UInt8=>Value.int .u8 b.toNat))[j]?=some v->w.cell? (cE.add j)=some v:=by
      intro j v ab;rw[fe]at ab;cases ac:rB[j]? with
      |none=>grind
      |some b=>
       rw[ac]at ab;simp at ab;subst ab;have he:es[j]?=some (Al b):=by grind
       have h1:=dD j 0 _ _ he rfl;have ad:=pD j 0 _ _ he rfl;rw[CO,w6]at h1;rw[h1,ad.j7]
     have aeG:=N8 (P:=P) w cE _ aeF;rw[bL,af]at aeG;have:=run_bytesToString (P:=P) w cE n c (rB.map (λb:UInt8=>(b.toNat:Int))) (by simp_all);rw[this,Vx];simp
   have: (convert src dst (a.eval x)).run P w= .ok (.string ⟨rB.toArray⟩) w:=by
    generalize a.eval x=y at hi eo;cases hi with
    |nil=>rw[U1 w src dst e _ _ _ (lL aw aA) (AD aw Dm) (vX aw aG)];omega
    |av=>rw[U1 w src dst e _ _ _ (lL aw aA) (AD aw Dm) (vX aw aG)];omega
   simp only[execOp,aH,dX,this,dT,ex]
  grind
 grind
theorem Vy(aw:dw P ah=true){t:TypeId}{f:Nat}{fs:List (TypeId×Nat)}(hk: (aE ah t).k= .b4 fs)(ae: (aE ah (h2 fs f).1).size≠0)(aQ: (aE ah 0).size=0):
  ∃ (F:Array Field) (fd:Field),P.underlying t=some (.struct F)/\F[f]?=some fd/\fd.type=(h2 fs f).1/\fd.offset=(h2 fs f).2:=by
 obtain⟨F,hu,eZ,_⟩:=FY aw hk;have au:f<fs.length:=by
  rcases mX f fs.length with h|h
  ·exact h
  ·rw[Vm h]at ae
   grind
 obtain⟨fd,h1,ad,aN,_⟩:=Vl eZ (.inr au) au
 grind
theorem aeH(aw:dw P ah=true)(aQ: (aE ah 0).size=0){t:TypeId}{f:Nat}{x:Operand}{K:Option Prop->ak->Prop}(aH:o.op= .fieldAddr t x f)(ag:gu A os w a ρ x)(h:xd ah (os.map (·.2)) t f (ρ x) K):ln P A os w a o K:=by
 unfold gu at ag;unfold xd at h;split at h
 ·rename_i fs hk;split at h
  ·grind
  ·rename_i ae;obtain⟨F,fd,hu,eZ,cI,kt⟩:=Vy aw hk ae aQ;have run:∀cE:Addr,a.eval x= .pointer (some cE)->(execOp a.eval o).run P w= .ok (.value (.pointer (some (cE.add (h2 fs f).2)))) w:=by
    intro cE he;have bx:¬((aE ah (h2 fs f).1).size=0):=ae;simp only[execOp,aH,he,Instr.fieldAt,dX,gz hu,dT,eZ,Instr.sureAddr,ex,fieldPlace,cI,jT aw ae,bm bx,kt]
   split at h
   ·rename_i i off e;rw[e]at ag;obtain⟨g,eB,cs,hi,he⟩:=ag.qR;refine⟨_,_,h,λ_=>⟨_,run _ he,?_⟩⟩;rw[Addr.pA];exact .aW hi
   ·rename_i i off e;rw[e]at ag;obtain⟨g,eB,cs,hi,he⟩:=ag.yG;refine⟨_,_,h,λ_=>⟨_,run _ he,?_⟩⟩;rw[Addr.pA];exact .dU hi
   ·rename_i i k off e;rw[e]at ag;split at h
    ·rename_i ao;obtain⟨_,_,_,_,hi⟩:=JN ao;obtain⟨g,n,c,rfl,he⟩:=ag.FX hi;refine⟨_,_,h,λ_=>⟨_,run _ he,?_⟩⟩;rw[Addr.pA,Jb];exact .de hi
    grind
   ·rename_i cs e;rw[e]at ag;obtain⟨cE,he,ai,ac,al⟩:=Vw ag;obtain⟨_,h⟩:=rE h;refine⟨_,_,h,λ_=>⟨_,run _ he,.bQ (F3 (by rwa[Addr.yE]) (by rwa[Addr.yE]) (λj d aa=> ?_))⟩⟩;rw[qI]at aa;rw[Addr.JG]
    grind
   grind
 grind
theorem aeI{t:TypeId}{vs:List Value}{ds:List ak}{off:Nat}{K:ak->Prop}(af:vs.length=ds.length)(br:∀v∈vs,v.oneCell'=true)(an:∀ (i:Nat) v d,vs[i]?=some v->ds[i]?=some d->bg A os w v d)
  (h:mA (aE ah t).agg (aE ah t).size (ds.drop off) K) (h1: (aE ah t).agg=false->(aE ah t).size=1) (bt: (aE ah t).size≠0):∃d,K d/\off+(aE ah t).size<=vs.length/\bg A os w (vY (aE ah t).agg ((vs.drop off).take (aE ah t).size)) d:=by
 unfold mA at h;split at h
 ·rename_i gi;obtain⟨hle,h⟩:=FU h;rw[ru]at hle;refine⟨_,h,by omega,?_⟩;rw[gi];refine .agg (by grind) (λv ab=>br v (CM (om ab))) (λi v d ab aa=> ?_)
  grind
 ·rename_i gi;split at h
  ·rename_i d r jF;have h:=ir.1 h;have h1:=h1 gi;have aa:ds[off]?=some d:=by
    have: (ds.drop off)[0]?=some d:=by grind
    grind
   have aB:=(eI.1 aa).1;refine⟨_,h,by omega,?_⟩;rw[gi,h1];have ab:off<vs.length:=by omega
   rw[vK ab];exact an off _ d (eN ab) aa
  grind
theorem aeJ(aw:dw P ah=true)(aQ: (aE ah 0).size=0){t:TypeId}{f:Nat}{x:Operand}{K:Option Prop->ak->Prop}(aH:o.op= .field t x f)(ag:gu A os w a ρ x)(h:CV ah t f (ρ x) K):ln P A os w a o K:=by
 unfold gu at ag;unfold CV at h;split at h
 ·rename_i fs hk;split at h
  ·grind
  ·rename_i ae;obtain⟨F,fd,hu,eZ,cI,kt⟩:=Vy aw hk ae aQ;split at h
   ·rename_i cs e;rw[e]at ag;obtain⟨vs,he,af,br,an⟩:=ag.xl;obtain⟨_,h⟩:=rE h;have Dn:=(qc aw (t:=(h2 fs f).1) (.inl ae)).eE;obtain⟨d,ap,hle,ao⟩:=aeI af br an h Dn ae;refine⟨_,_,ap,λ_=>⟨_,?_,ao⟩⟩;have:=JP (w:=w) aw ae vs (h2 fs f).2 hle Dn;simp only[execOp,aH,he,Instr.field,dX,gz hu,dT,eZ,asAgg,ex,cI,kt,this]
   grind
 grind
theorem aeK{i:Operand}{m:Nat}(h:Jo i=some m):∃k,a.eval i= .int k m:=by
 unfold Jo at h;split at h
 ·cases h;exact⟨_,rfl⟩
 grind
theorem aeL(aw:dw P ah=true)(hO:yx A os B w){t:TypeId}{x i:Operand}{K:Option Prop->ak->Prop}(aH:o.op= .indexAddr t x i)(ag:gu A os w a ρ x)(hi:gu A os w a ρ i)(h:xe ah (os.map (·.2)) t i (ρ x) (ρ i) K):ln P A os w a o K:=by
 unfold xe at h;split at h
 ·rename_i e F4 iX hk rH;have hi:=hi.v rH;have hu:=lL aw hk;unfold gu at ag;split at h
  ·grind
  ·rename_i ae;have run:∀ (cE:Addr) (n c k:Nat),a.eval x= .slice (some cE) n c->iX=k->k<n->(execOp a.eval o).run P w= .ok (.value (.pointer (some (cE.add (k* (aE ah e).size))))) w:=by
    intro cE n c k he uL AG;subst uL;have ac: (0:Int)<=k/\(k:Int)<n:=by omega
    simp only[execOp,aH,he,hi,Instr.indexAt,asIntOf,dX,ex,dT,gz hu,b3 ac,jT aw ae,l6]
   unfold An at h;split at h
   ·rename_i ay es f ec;split at h
    ·rename_i bt;have bt:=fB bt;obtain⟨k,gb,ap⟩:=h;refine⟨_,_,ap,λal=> ?_⟩;obtain⟨uL,JS⟩:=Holds.j8.1 al;rw[ec]at ag;obtain⟨cE,n,c,he,_,AG,_,ai,ac,dD⟩:=aeD ag.ny JS;refine⟨_,run cE n c k he uL AG,.bQ (F3 (by rwa[Addr.yE]) (by rwa[Addr.yE]) (λj d aa=> ?_))⟩;rw[Addr.JG,<-bt]
     grind
    grind
   ·rename_i j ec;split at h
    ·rename_i aG ay es af;split at h
     ·rename_i bt;have bt:=fB bt;obtain⟨k,ap⟩:=h;refine⟨_,_,ap,λal=> ?_⟩;obtain⟨uL,JS⟩:=Holds.j8.1 al;rw[ec]at ag;obtain⟨x',ku⟩:=kN af (by simp);have nd:=ag.qS ku;subst nd;obtain⟨_,xs,b0,_⟩:=hO _ _ _ ku;rcases b0.2 with⟨_,aV⟩| ⟨g,cap,cur,ab,_⟩
      ·omega
      ·rw[ab]at ku;refine⟨_,run ⟨g,0,none⟩ es.length cap k ab uL JS,?_⟩;rw[Addr.pA,<-bt];have:=bg.de (A:=A) (w:=w) (k:=k) (off:=0) ku
       grind
     grind
    grind
   grind
 ·rename_i n e F4 iX hk rH;have di:=hi;have hi:=hi.v rH;have hu:=JK aw hk;unfold gu at ag;split at h
  ·grind
  ·rename_i ae;have run:∀ (cE:Addr) (k:Nat),a.eval x= .pointer (some cE)->iX=k->k<n->(execOp a.eval o).run P w= .ok (.value (.pointer (some (cE.add (k* (aE ah e).size))))) w:=by
    intro cE k he uL AG;subst uL;have ac: (0:Int)<=k/\(k:Int)<n:=by omega
    simp only[execOp,aH,he,hi,Instr.indexAt,asIntOf,dX,ex,dT,gz hu,Instr.sureAddr,b3 ac,jT aw ae,l6]
   unfold CW at h;split at h
   ·rename_i m az;obtain⟨eO,hq⟩:=aeK (a:=a) az;rw[hi]at hq;have kv:iX=m:=by grind
    split at h
    ·rename_i j off ec;rw[ec]at ag;obtain⟨g,eB,cs,mD,he⟩:=ag.qR;refine⟨_,_,h,λal=>⟨_,run _ m he kv (Holds.j8.1 al),?_⟩⟩;rw[Addr.pA];exact .aW mD
    ·rename_i j off ec;rw[ec]at ag;obtain⟨g,eB,cs,mD,he⟩:=ag.yG;refine⟨_,_,h,λal=>⟨_,run _ m he kv (Holds.j8.1 al),?_⟩⟩;rw[Addr.pA];exact .dU mD
    grind
   ·split at h
    ·rename_i j off ec;rw[ec]at ag;obtain⟨g,eB,cs,mD,he⟩:=ag.qR;obtain⟨k,h⟩:=h;refine⟨_,_,h,λal=>⟨_,run _ k he (Holds.j8.1 al).1 (Holds.j8.1 al).2,?_⟩⟩;rw[Addr.pA];exact .dU mD
    ·rename_i j off ec;rw[ec]at ag;obtain⟨g,eB,cs,mD,he⟩:=ag.yG;obtain⟨k,h⟩:=h;refine⟨_,_,h,λal=>⟨_,run _ k he (Holds.j8.1 al).1 (Holds.j8.1 al).2,?_⟩⟩;rw[Addr.pA];exact .dU mD
    grind
 grind
theorem aeM(aw:dw P ah=true){t:TypeId}{x i:Operand}{K:Option Prop->ak->Prop}(aH:o.op= .index t x i)(ag:gu A os w a ρ x)(hi:gu A os w a ρ i)(h:CX ah t (ρ x) (ρ i) K):ln P A os w a o K:=by
 unfold CX at h;split at h
 ·rename_i F4 iX rH;have hi:=hi.v rH;split at h
  ·rename_i s hk ec;have ag:=ag.v ec;obtain⟨k,ap⟩:=h;refine⟨_,_,ap,λal=>⟨_,?_,.bQ (.v rfl)⟩⟩;obtain⟨rfl,aB⟩:=Holds.j8.1 al;have h1:s[k]?=some s[k]:=ByteArray.getElem?_lt' s k aB;have ad:s.data.getD k 0=s[k]:=by
    have:k<s.data.size:=aB;simp only[Array.getD,dif_pos this];rfl
   simp only[execOp,aH,ag,hi,Instr.index,asIntOf,dX,ex,dT,gz (vX aw hk),Int.natCast_nonneg,if_true,l6,h1,ad]
  ·rename_i n e cs hk ec;split at h
   ·rename_i gi cC;have cC:=fB cC;obtain⟨k,d,h⟩:=h;have ap:=ir.1 h;refine⟨_,_,ap,λal=> ?_⟩;obtain⟨rfl,aB,aa⟩:=Holds.j8.1 al;unfold gu at ag;rw[ec]at ag;obtain⟨vs,he,af,br,an⟩:=ag.xl;have hS:=(eI.1 aa).1;have Vz:k<vs.length:=by omega
    refine⟨vs[k],?_,an k _ d (eN Vz) aa⟩;have ac: (0:Int)<=k/\(k:Int)<n:=by omega
    have an:=JP (P:=P) (w:=w) aw (t:=e) (by omega) vs k (by omega) (λ_=>cC);rw[gi,cC]at an;rw[vK Vz]at an;simp only[execOp,aH,he,hi,Instr.index,asIntOf,dX,ex,dT,gz (JK aw hk),b3 ac,jT aw (t:=e) (by omega),cC,l6,CO,an];rfl
   grind
  grind
 grind
theorem aeN{n:Nat}{K:Option Prop->ak->Prop}(aH:o.op= .extract x n)(ag:gu A os w a ρ x)(h:CY n (ρ x) K):ln P A os w a o K:=by
 unfold gu at ag;unfold CY at h;split at h
 ·rename_i ds e;rw[e]at ag;obtain⟨vs,nd,af,_,an⟩:=ag.OD;obtain⟨_,h⟩:=rE h;split at h
  ·rename_i d r jF;have ap:=ir.1 h;refine⟨_,_,ap,λ_=> ?_⟩;have aa:ds[n]?=some d:=by
    have: (ds.drop n)[0]?=some d:=by grind
    grind
   have aB:=(eI.1 aa).1;have ab:n<vs.length:=by omega
   refine⟨vs[n],?_,an n _ d (eN ab) aa⟩;simp[execOp,aH,nd,Instr.extract,ab]
  grind
 grind
end
open Go
section
variable {P:Program} {ah:dJ} {A:Nat->Prop} {os:c3} {B:e8} {w:World} {a:Act} {o:Oper} {ρ:Operand->ak}
theorem v1{fj:Option Operand}{n gr:Nat}(af:∀x,fj=some x->gu A os w a ρ x)(h:oo ρ fj n gr): (fj=none/\n=gr)\/∃x k,fj=some x/\a.eval x= .int k n:=by
 cases fj with
 |none=>exact .inl ⟨rfl,h⟩
 |some x=>
  obtain⟨k,e⟩:=h;exact .inr ⟨x,k,rfl,(af x rfl).v e⟩
theorem OL{x:Value}{ay:Nat}{es:List (List ak)}{f:Bool}{l h:Nat}(hi:b7 A w x (.av ay es f))(atO:l<=h)(VA:h<=es.length):
  ∃ (cE:Option Addr) (n c:Nat),x= .slice cE n c/\n=es.length/\h<=c/\(f=true->c=n)/\
   (∀fD,h<=fD->fD<=c->∀lJ,(lJ=true->fD=h)->b7 A w (.slice (if fD=l then cE else cE.map (·.add (l*ay))) (h-l) (fD-l)) (.av ay ((es.take h).drop l) lJ)):=by
 cases hi with
 | @av cE n c _ _ _ xs aV al az au cC ai ac br dD ag=>
  refine⟨some cE,n,c,rfl,aV.symm,by omega,au,λfD h1 ad lJ VB=> ?_⟩;have key:∀lM:Addr,lM.block=cE.block->(∀j,j<(h-l) *ay->lM.add j=(cE.add (l*ay)).add j)->b7 A w (.slice (some lM) (h-l) (fD-l)) (.av ay ((es.take h).drop l) lJ):=by
   intro lM lo OM;refine .av (λi j=>xs (l+i) j) (by grind) (by omega) (by omega) (λe=>by grind) (λe he=>cC e (om (CM he))) (λbx=>by grind) (λbx=>by grind) (λi j=>br _ _) (λi j e d he aa=> ?_) (λi j e d he aa=> ?_)
   ·rw[qI,rs]at he;split at he
    ·rename_i aB;have hlen:=cC e (fq he);have aq:=(eI.1 aa).1;have:=dD (l+i) j e d he aa;rw[OM _ (by
      have aN:i+1<=h-l:=by omega
      have bs: (i+1) *ay<=(h-l) *ay:=kI _ aN
      grind),Addr.JG]
     grind
    grind
   grind
  split
  ·grind
  ·exact key (cE.add (l*ay)) (Addr.yE _ _) (λj _=>rfl)
 |nil=>
  simp at VA;subst VA;obtain rfl:l=0:=by omega
  refine⟨none,0,0,rfl,rfl,by omega,λ_=>rfl,λfD h1 ad lJ VB=> ?_⟩;obtain rfl:fD=0:=by omega
  simpa using b7.nil
theorem sq{l y:Nat}(h:l<=y)(k:IntKind)(code:BoundsCode): (Instr.sliceBound (.int k (l:Int)) y code).run P w= .ok l w:=by
 have:=run_sliceBound (P:=P) w k l y code (by omega) (by omega)
 grind
theorem aeO(aw:dw P ah=true){t:TypeId}{x:Operand}{fj hi eS:Option Operand}{K:Option Prop->ak->Prop}(aH:o.op= .slice t x fj hi eS)(ag:gu A os w a ρ x)
  (o3:∀y,fj=some y->gu A os w a ρ y) (qd:∀y,hi=some y->gu A os w a ρ y) (to:∀y,eS=some y->gu A os w a ρ y) (h:CZ ah t ρ (ρ x) fj hi eS K):ln P A os w a o K:=by
 unfold CZ at h;split at h
 ·rename_i s hk ec;have jU:=ag.v ec;have hu:=vX aw hk;split at h
  ·obtain⟨l,bw,ap⟩:=h;refine⟨_,_,ap,λal=>⟨_,?_,.bQ (.v rfl)⟩⟩;obtain⟨cX,c0,h1,ad⟩:=Holds.j8.1 al;have aA:=v1 o3 cX;have aG:=v1 qd c0;have dL:=sq (P:=P) (w:=w) h1;have dW:=sq (P:=P) (w:=w) ad;rcases aA with⟨rfl,rfl⟩| ⟨xp,cV,rfl,aA⟩<;>rcases aG with⟨rfl,rfl⟩| ⟨JT,dj,rfl,aG⟩<;>
    first
     |simp only[execOp,aH,jU,p6,sf,aA,aG,Instr.sliceAt,dX,gz hu,dT,Instr.slice,Instr.sliceBounds,Jg,s6,uz,ex,dL,dW]
     |simp only[execOp,aH,jU,p6,sf,aA,Instr.sliceAt,dX,gz hu,dT,Instr.slice,Instr.sliceBounds,Jg,s6,uz,ex,dL,dW]
     |simp only[execOp,aH,jU,p6,sf,aG,Instr.sliceAt,dX,gz hu,dT,Instr.slice,Instr.sliceBounds,Jg,s6,uz,ex,dL,dW]
     |simp only[execOp,aH,jU,p6,sf,Instr.sliceAt,dX,gz hu,dT,Instr.slice,Instr.sliceBounds,Jg,s6,uz,ex,dL,dW]
  grind
 ·rename_i e hk ec;have hu:=lL aw hk;unfold gu at ag;rw[ec]at ag;split at h
  ·grind
  ·grind
  ·rename_i ae;refine⟨_,_,h,λal=> ?_⟩;obtain⟨cX,c0⟩:=Holds.j8.1 al;have aA:=v1 o3 cX;have aG:=v1 qd c0;have he:a.eval x= .slice none 0 0:=ag.o0;have dL:=sq (P:=P) (w:=w) (bS 0);refine⟨.slice none 0 0,?_,.bQ .ar⟩;rcases aA with⟨rfl,_⟩| ⟨xp,cV,rfl,aA⟩<;>rcases aG with⟨rfl,_⟩| ⟨JT,dj,rfl,aG⟩<;>first
    | (simp[execOp,aH,he,Instr.sliceAt,gz hu,Instr.slice,Instr.sliceBounds,jT aw ae];done)
    | (simp[execOp,aH,he,aA,Instr.sliceAt,gz hu,Instr.slice,Instr.sliceBounds,jT aw ae,Instr.sliceBound,asIntOf];done)
    | (simp[execOp,aH,he,aG,Instr.sliceAt,gz hu,Instr.slice,Instr.sliceBounds,jT aw ae,Instr.sliceBound,asIntOf];done)
    | (simp[execOp,aH,he,aA,aG,Instr.sliceAt,gz hu,Instr.slice,Instr.sliceBounds,jT aw ae,Instr.sliceBound,asIntOf];done)
 ·rename_i e ay es f hk ec;have hu:=lL aw hk;unfold gu at ag;rw[ec]at ag;have lp:=ag.ny;split at h
  ·grind
  ·grind
  ·rename_i ac ae;have bt:=fB ac;split at h
   ·obtain⟨l,ap⟩:=h;refine⟨_,_,ap,λal=> ?_⟩;obtain⟨cX,h1⟩:=Holds.j8.1 al;have aA:=v1 o3 cX;obtain⟨cE,n,c,he,aV,hle,au,an⟩:=OL (l:=l) (h:=es.length) lp h1 (bS _);have an:=an c hle (bS _) f (λbw=>by grind);rw[gn,bt]at an;refine⟨_,?_,.bQ (by rw[bt];exact an)⟩;have dL:=sq (P:=P) (w:=w) h1;rcases aA with⟨rfl,rfl⟩| ⟨xp,cV,rfl,aA⟩<;>
     first
      |simp only[execOp,aH,he,aV,p6,sf,aA,Instr.sliceAt,dX,gz hu,dT,Instr.slice,Instr.sliceBounds,ex,dL,jT aw ae]
      |simp only[execOp,aH,he,aV,p6,sf,Instr.sliceAt,dX,gz hu,dT,Instr.slice,Instr.sliceBounds,ex,dL,jT aw ae]
   ·rename_i ka;obtain⟨l,bw,ap⟩:=h;refine⟨_,_,ap,λal=> ?_⟩;obtain⟨cX,c0,h1,ad⟩:=Holds.j8.1 al;have aA:=v1 o3 cX;have aG:=v1 qd c0;obtain⟨cE,n,c,he,aV,hle,au,an⟩:=OL (l:=l) (h:=bw) lp h1 ad;have an:=an c hle (bS _) false (by simp);rw[bt]at an;refine⟨_,?_,.bQ (by rw[bt];exact an)⟩;have dL:=sq (P:=P) (w:=w) h1;have dW:=sq (P:=P) (w:=w) hle;rcases aG with⟨aG,_⟩| ⟨JT,dj,JU,aG⟩
    ·cases aG
    ·cases JU;rcases aA with⟨rfl,rfl⟩| ⟨xp,cV,rfl,aA⟩<;>
      first
       |simp only[execOp,aH,he,aV,p6,sf,aA,aG,Instr.sliceAt,dX,gz hu,dT,Instr.slice,Instr.sliceBounds,ex,dL,dW,jT aw ae]
       |simp only[execOp,aH,he,aV,p6,sf,aG,Instr.sliceAt,dX,gz hu,dT,Instr.slice,Instr.sliceBounds,ex,dL,dW,jT aw ae]
   ·rename_i ka atP;obtain⟨l,bw,ap⟩:=h;refine⟨_,_,ap,λal=> ?_⟩;obtain⟨cX,c0,iu,h1,ad⟩:=Holds.j8.1 al;have aA:=v1 o3 cX;have aG:=v1 qd c0;have bc:=v1 to iu;obtain⟨cE,n,c,he,aV,hle,au,an⟩:=OL (l:=l) (h:=bw) lp h1 ad;have an:=an bw (bS _) hle true (λ_=>rfl);rw[bt]at an;refine⟨_,?_,.bQ (by rw[bt];exact an)⟩;have dL:=sq (P:=P) (w:=w) h1;have dW:=sq (P:=P) (w:=w) hle;have eU:=sq (P:=P) (w:=w) (bS bw);rcases aG with⟨aG,_⟩| ⟨JT,dj,JU,aG⟩
    ·cases aG
    ·cases JU;rcases bc with⟨bc,_⟩| ⟨VC,hT,ON,bc⟩
     ·cases bc
     ·cases ON;rcases aA with⟨rfl,rfl⟩| ⟨xp,cV,rfl,aA⟩<;>
       first
        |simp only[execOp,aH,he,aV,p6,sf,aA,aG,bc,Instr.sliceAt,dX,gz hu,dT,Instr.slice,Instr.sliceBounds,ex,dL,dW,eU,jT aw ae]
        |simp only[execOp,aH,he,aV,p6,sf,aG,bc,Instr.sliceAt,dX,gz hu,dT,Instr.slice,Instr.sliceBounds,ex,dL,dW,eU,jT aw ae]
   grind
 grind
end
open Go
section
variable {P:Program} {ah:dJ} {A:Nat->Prop} {os:c3} {B:e8} {w:World} {a:Act} {o:Oper} {ρ:Operand->ak}
theorem aeP(aw:dw P ah=true)(hO:yx A os B w){t:TypeId}{x:Operand}{args:Array Operand}{fg:Array TypeId}{K:Option Prop->ak->Prop}(aH:o.op= .call {callee:=.builtin .len,args:=args,argTypes:=fg})
  (bb:args.toList=[x]) (jm:fg.toList=[t]) (ag:gu A os w a ρ x) (h:vR ah (os.map (·.2)) t (ρ x) K):ln P A os w a o K:=by
 obtain rfl:args= #[x]:=by grind
 obtain rfl:fg= #[t]:=by grind
 have nz:∀ {n:Nat},(Builtin.len_ #[t] o.type #[a.eval x]).run P w= .ok (.int .i64 n) w->K none (.v (.int .i64 n))->ln P A os w a o K:=by
  intro n ao ap;refine⟨_,_,ap,λ_=>⟨_,?_,.bQ (.v rfl)⟩⟩;simp only[execOp,aH,resolve,invoke,builtin,dX,ex,dT,CK,oi,w3,ao]
 unfold vR at h;split at h
 ·rename_i e hk;have hu:=lL aw hk;have run:∀cE n c,(Builtin.len_ #[t] o.type #[.slice cE n c]).run P w= .ok (.int .i64 n) w:=by
   intro cE n c;simp[Builtin.len_,gz hu,goInt]
  unfold gu at ag;split at h
  ·rename_i ay es f ec;rw[ec]at ag;have hi:=ag.ny;generalize bk:a.eval x=y at hi;cases hi with
   |av xs aV=>grind
   |nil=>grind
  ·rename_i ec;rw[ec]at ag;exact nz (n:=0) (by rw[ag.o0,run]) h
  ·rename_i j ec;split at h
   ·rename_i aG ay es af;rw[ec]at ag;obtain⟨x',ku⟩:=kN af (by simp);have nd:=ag.qS ku;subst nd;obtain⟨_,xs,b0,_⟩:=hO _ _ _ ku;rcases b0.2 with⟨ab,aV⟩| ⟨g,cap,cur,ab,_⟩;all_goals grind
   grind
  grind
 ·rename_i hk;have hu:=vX aw hk;split at h
  ·rename_i s ec;exact nz (by rw[ag.v ec];simp[Builtin.len_,gz hu,goInt]) h
  grind
 ·rename_i n e hk;have hu:=JK aw hk;exact nz (by simp[Builtin.len_,gz hu,goInt]) h
 grind
theorem aeQ{y:Operand}{args:Array Operand}{fg:Array TypeId}{K:Option Prop->ak->Prop}(aH:o.op= .call {callee:=.builtin .min,args:=args,argTypes:=fg})
  (bb:args.toList=[x,y]) (ag:gu A os w a ρ x) (bk:gu A os w a ρ y) (h:Ao (ρ x) (ρ y) K):ln P A os w a o K:=by
 obtain rfl:args= #[x,y]:=by grind
 unfold Ao at h;split at h
 ·rename_i k p eO q aA aG;refine⟨_,_,h,λ_=>⟨_,?_,.bQ (.v rfl)⟩⟩;simp only[execOp,aH,resolve,invoke,builtin,dX,ex,dT,CK,oi,w3,ag.v aA,bk.v aG,run_min_int2]
 grind
theorem aeR{y:Operand}{args:Array Operand}{fg:Array TypeId}{K:Option Prop->ak->Prop}(aH:o.op= .call {callee:=.builtin .max,args:=args,argTypes:=fg})
  (bb:args.toList=[x,y]) (ag:gu A os w a ρ x) (bk:gu A os w a ρ y) (h:Ap (ρ x) (ρ y) K):ln P A os w a o K:=by
 obtain rfl:args= #[x,y]:=by grind
 unfold Ap at h;split at h
 ·rename_i k p eO q aA aG;refine⟨_,_,h,λ_=>⟨_,?_,.bQ (.v rfl)⟩⟩;simp only[execOp,aH,resolve,invoke,builtin,dX,ex,dT,CK,oi,w3,ag.v aA,bk.v aG,run_max_int2,GT.gt]
 grind
theorem xq:∀ {l:List Operand} {K:List ak->Prop},tg ρ l K->K (l.map ρ)
 | [],K,h=>h
 |x::r,K,h=>by
  have:=xq (ir.1 h)
  grind
theorem bg.plain{x:Value}(h:bg A os w x d)(an:qM d=true):x.oneCell'=true/\b7 A w x d:=by
 cases d<;>simp only[qM,nv,s6]at an
 all_goals try exact an.elim
 ·obtain⟨rfl,h1⟩:=h.j7;exact⟨h1,.v h1⟩
 ·have bp:=h.ny;refine⟨?_,bp⟩;cases bp<;>rfl
 ·have bp:=h.vW;refine⟨?_,bp⟩;cases bp<;>rfl
 ·have F5:=an;clear an;obtain⟨vs,rfl,af,an⟩:=h.tn;refine⟨rfl,.fn af (λi v d ab aa=> ?_)⟩;have al:=an i v d ab aa;have aeS:=F5 d (fq aa);cases d<;>simp[mz]at aeS
  ·obtain⟨rfl,h1⟩:=al.j7;exact .v h1
  ·exact al.ny
  ·exact al.vW
  ·rename_i g cr;have:cr=[]:=by cases cr<;>simp_all[mz]
   subst this;obtain⟨us,rfl,gM,_⟩:=al.tn;have:us=[]:=NM (by omega);subst this;exact .fn (vs:=[]) rfl (by simp)
  ·rw[al.o0];exact .ar
 ·rw[h.o0];exact⟨rfl,.ar⟩
theorem AH:∀ {l:List ak},pv l=true->∀d∈l,qM d=true
 | [],_,d,aa=>by grind
 |x::r,h,d,aa=>by
  unfold pv at h;split at h
  ·rename_i ag;rcases pt.1 aa with rfl|aa
   ·exact ag
   ·exact AH h d aa
  grind
theorem aeT{f:Fn}{first cr:Array Operand}{K:Option Prop->ak->Prop}(aH:o.op= .makeFunc f first cr)(au:first.toList=[])
  (ag:∀x∈cr.toList,gu A os w a ρ x) (h:tg ρ cr.toList λl=>match l.all l8 with
   |true=>K none (.fn f l)
   |false=>False):ln P A os w a o K:=by
 obtain rfl:first= #[]:=by grind
 have h:=xq h;split at h
 ·rename_i eF;have az:=nv.1 eF;refine⟨_,_,h,λ_=>⟨.func f #[] (cr.map a.eval),?_,?_⟩⟩
  ·simp[execOp,aH,Instr.makeFunc]
  ·have:cr.map a.eval=(cr.toList.map a.eval).toArray:=by grind
   rw[this];refine .fn (by simp) az (λi v d ab aa=> ?_)
   grind
 grind
theorem F6:∀ (vs:List Value) (k off:Nat) (cells:Array Value) (i:Nat),off+k+vs.length<=cells.size->
  ((vs.zipIdx k).foldl (λ(cs:Array Value) (p:Value×Nat)=>cs.setIfInBounds (off+p.2) p.1) cells)[i]?=(if off+k<=i/\i<off+k+vs.length then vs[i- (off+k)]? else cells[i]?)/\
  ((vs.zipIdx k).foldl (λ(cs:Array Value) (p:Value×Nat)=>cs.setIfInBounds (off+p.2) p.1) cells).size=cells.size
 | [],k,off,cells,i,_=>by
  refine⟨?_,by simp⟩;rw[bm (by simp)];simp
 |v::r,k,off,cells,i,h=>by
  simp only[l7]at h;obtain⟨h1,ad⟩:=F6 r (k+1) off (cells.setIfInBounds (off+k) v) i (by grind);simp only[List.zipIdx_cons,List.foldl_cons]
  grind
structure qW(A:Nat->Prop)(os:c3)(w:World)(cells:Array Value)(cs:List ak):Prop where
 size:cells.size=cs.length
 eE:∀v∈cells.toList,v.oneCell'=true
 hr:∀ (i:Nat) v d,cells[i]?=some v->cs[i]?=some d->bg A os w v d
theorem OO{place:Nat->Nat×Nat}{yM:Nat->Option (Nat×Nat)}(eF:∀i,(place i).2≠0->yM i=some (place i)){K:List ak->Prop}:
  ∀ (parts:List (Nat×Operand)) (cs:List ak) (cells:Array Value),qW A os w cells cs->(∀p∈parts,gu A os w a ρ p.2)->rA ρ place parts cs K->
   ∃cells' dI,K dI/\Instr.fill yM cells (parts.map λp=>(p.1,a.eval p.2))=some cells'/\qW A os w cells' dI
 | [],cs,cells,ao,_,h=>⟨cells,cs,h,by rfl,ao⟩
 | (i,x)::r,cs,cells,ao,ag,h=>by
  have pD:=ag (i,x) (by simp);have h:=ir.1 h;unfold gu at pD;have key:∀ (d:ak),ρ x=d->(∀b ck,d≠ .b8 b ck)->(∀l,d≠ .be l)->d≠ .aY->
    (match Nat.beq (dn d).length (place i).2&&Nat.ble ((place i).1+(dn d).length) cs.length&&Nat.blt 0 (place i).2 with
     |true=>td (jC cs (place i).1 (dn d)) λdI=>rA ρ place r dI K
     |false=>False)->∃cells' dI,K dI/\Instr.fill yM cells (((i,x)::r).map λp=>(p.1,a.eval p.2))=some cells'/\qW A os w cells' dI:=by
   intro d e h1 ad aN az;split at az
   ·rename_i ac;have az:=w7.1 az;simp only[cq]at ac;obtain⟨⟨cX,c0⟩,iu⟩:=ac;have cX:=fB cX;have c0:=nw c0;have iu:0<(place i).2:=nw iu;rw[e]at pD;obtain⟨af,br,an⟩:=pD.cells h1 ad aN;have cC: (a.eval x).cells.size=(place i).2:=by grind
    have hA: (place i).1+0+(a.eval x).cells.toList.length<=cells.size:=by
     rw[ao.size]
     grind
    have au:∀j,((a.eval x).cells.zipIdx.foldl (λ(cs:Array Value) (p:Value×Nat)=>cs.setIfInBounds ((place i).1+p.2) p.1) cells)[j]?=(if(place i).1<=j/\j<(place i).1+(a.eval x).cells.toList.length then(a.eval x).cells.toList[j- (place i).1]? else cells[j]?):=by
     intro j;have:=(F6 (a.eval x).cells.toList 0 (place i).1 cells j hA).1;simp only[w6]at this;rw[<-this];rw[<-ND];simp
    have aeU: ((a.eval x).cells.zipIdx.foldl (λ(cs:Array Value) (p:Value×Nat)=>cs.setIfInBounds ((place i).1+p.2) p.1) cells).size=cells.size:=by
     have:=(F6 (a.eval x).cells.toList 0 (place i).1 cells 0 hA).2;rw[<-this];rw[<-ND];simp
    have VD: (a.eval x).cells.toList.length=(dn d).length:=af;have mb:qW A os w ((a.eval x).cells.zipIdx.foldl (λ(cs:Array Value) (p:Value×Nat)=>cs.setIfInBounds ((place i).1+p.2) p.1) cells) (jC cs (place i).1 (dn d)):=by
     refine⟨by rw[aeU,JE,ao.size],λv ab=> ?_,λj v ck ab aa=> ?_⟩
     ·obtain⟨j,aq,rfl⟩:=fv ab;have: (((a.eval x).cells.zipIdx.foldl (λ(cs:Array Value) (p:Value×Nat)=>cs.setIfInBounds ((place i).1+p.2) p.1) cells))[j]?=some (((a.eval x).cells.zipIdx.foldl (λ(cs:Array Value) (p:Value×Nat)=>cs.setIfInBounds ((place i).1+p.2) p.1) cells).toList[j]):=by
       simp
      rw[au j]at this;split at this
      ·grind
      ·rw[<-wY]at this;exact ao.eE _ (fq this)
     ·rw[au j]at ab;rw[JF _ _ _ _ c0,<-VD]at aa;split at ab
      ·grind
      ·rename_i al;rw[bm al]at aa;exact ao.hr j v ck ab aa
    obtain⟨cells',dI,ap,qe,kO⟩:=OO eF r _ _ mb (λp an=>ag p (by grind)) az;refine⟨cells',dI,ap,?_,kO⟩;simp only[oi,Instr.fill,eF i (by omega)]
    grind
   grind
  grind
theorem JV(aw:dw P ah=true){t:TypeId}(ae: (aE ah t).size≠0):∃z,(zeroValue t).run P w= .ok z w/\qW A os w z.cells (aE ah t).zero/\(aE ah t).zero.length=(aE ah t).size:=by
 obtain⟨i,hi,_,_,z,bt,nT,af⟩:=rF aw ae;obtain⟨h1,ad,aN⟩:=uK (A:=A) (w:=w) nT;refine⟨z,by simp[zeroValue,typeInfo,hi,bt],⟨by omega,ad,λi v d ab aa=>.bQ (aN i v d (by grind) aa)⟩,af⟩
theorem VE:∀ {fs:List (TypeId×Nat)},C0 ah fs=true->∀f∈fs,(aE ah f.1).size≠0
 | [],_,f,au=>by grind
 |x::r,h,f,au=>by
  unfold C0 at h;split at h
  ·grind
  ·rename_i ae;rcases pt.1 au with rfl|au
   ·exact ae
   ·exact VE h f au
theorem VF(aw:dw P ah=true):∀ (F:List Field) (fs:List (TypeId×Nat)),o1 F fs=true->(∀f∈fs,(aE ah f.1).size≠0)->
  (F.mapM λf=>(do pure (f.offset,<-sizeOf f.type):Sem (Nat×Nat))).run P w= .ok (fs.map λf=>(f.2,(aE ah f.1).size)) w
 | [],[],_,_=>by simp
 | [],_::_,h,_=>by simp[o1]at h
 |_::_,[],h,_=>by simp[o1]at h
 |x::F,y::fs,h,ae=>by
  simp only[o1,cq,Jj]at h;have a1:=VF aw F fs h.2 (λf au=>ae f (by grind));have aA:=fB h.1.1.1;have aG:=fB h.1.1.2;simp only[Fr,dX,aA,aG,jT aw (ae y (by simp)),dT,ex,a1,oi]
theorem VG:∀ {fs:List (TypeId×Nat)} {i:Nat},i<fs.length->fs[i]?=some (h2 fs i)
 | [],i,h=>by grind
 |_::_,0,_=>rfl
 |_::r,i+1,h=>by simpa[h2]using VG (fs:=r) (i:=i) (by grind)
theorem aeV(aw:dw P ah=true){t:TypeId}{parts:Array (Nat×Operand)}{K:Option Prop->ak->Prop}(aH:o.op= .build t parts)
  (ag:∀p∈parts.toList,gu A os w a ρ p.2) (h:C1 ah t ρ parts.toList K):ln P A os w a o K:=by
 unfold C1 at h;have uM: (parts.map λ(i,x)=>(i,a.eval x)).toList=parts.toList.map λp=>(p.1,a.eval p.2):=by simp
 split at h
 ·rename_i fs hk;split at h
  ·rename_i m jn az;have ae: (aE ah t).size≠0:=by omega
   obtain⟨F,hu,eZ,_⟩:=FY aw hk;obtain⟨z,bt,kO,_⟩:=JV (A:=A) (os:=os) (w:=w) aw ae;have cS:=VE jn;have eF:=VF (w:=w) aw F.toList fs eZ cS;obtain⟨cells',dI,ap,qe,ao⟩:=OO (yM:=λi=>(fs.map λf=>(f.2,(aE ah f.1).size))[i]?) (λi hi=>by
    cases ac:Nat.blt i fs.length with
    |true=>
     have uN:i<fs.length:=nw ac;simp only[fe,VG uN];rfl
    |false=>grind) parts.toList _ _ kO ag h
   refine⟨_,_,ap,λ_=>⟨.agg cells',?_,?_⟩⟩
   ·have AI: (F.mapM λf=>(do pure (f.offset,<-sizeOf f.type):Sem (Nat×Nat))).run P w= .ok (fs.map λf=>(f.2,(aE ah f.1).size)).toArray w:=by
     rw[NG,Fx,eF];rfl
    simp only[execOp,aH,Instr.build,dX,bt,dT,ex,gz hu,AI,uM]
    simp_all
   ·have:cells'=cells'.toList.toArray:=by simp
    rw[this];exact .agg (by simpa using ao.size) ao.eE (λi v d ab aa=>ao.hr i v d (by grind) aa)
  grind
 ·rename_i n e hk;split at h
  ·rename_i m1 m2 h1 ad;have ae: (aE ah t).size≠0:=by omega
   have xr: (aE ah e).size≠0:=by omega
   have hu:=JK aw hk;obtain⟨z,bt,kO,_⟩:=JV (A:=A) (os:=os) (w:=w) aw ae;obtain⟨cells',dI,ap,qe,ao⟩:=OO (yM:=λi=>some (i* (aE ah e).size,(aE ah e).size)) (λi hi=>rfl) parts.toList _ _ kO ag h;refine⟨_,_,ap,λ_=>⟨.agg cells',?_,?_⟩⟩
   ·simp only[execOp,aH,Instr.build,dX,bt,dT,ex,gz hu,jT aw xr,uM,qe]
   ·have:cells'=cells'.toList.toArray:=by simp
    rw[this];exact .agg (by simpa using ao.size) ao.eE (λi v d ab aa=>ao.hr i v d (by grind) aa)
  grind
 grind
theorem F7(aw:dw P ah=true)(aQ: (aE ah 0).size=0)(hO:yx A os B w){K:Option Prop->ak->Prop}(ag:∀x∈o.op.operands.toList,gu A os w a ρ x)
  (h:oq ah (os.map (·.2)) o.op ρ K):ln P A os w a o K:=by
 generalize aH:o.op=op at h ag;unfold oq at h;split at h
 ·exact Vq (.inl aH) (ag _ (by simp[Op.operands])) h
 ·exact Vq (.inr aH) (ag _ (by simp[Op.operands])) h
 ·exact aen aH (ag _ (by simp[Op.operands])) (ag _ (by simp[Op.operands])) (ag _ (by simp[Op.operands])) h
 ·exact aep aH (ag _ (by simp[Op.operands])) h
 ·rename_i op t x y u;have pD:=ag x (by simp[Op.operands]);have F8:=ag y (by simp[Op.operands]);unfold CS at h;split at h
  ·rename_i k p eO q aA aG;split at h
   ·exact aes aH (pD.v aA) (F8.v aG) h
   ·split at h
    ·rename_i hk;obtain rfl:=FV.1 hk;exact aer aH (pD.v aA) (F8.v aG) h
    grind
  ·rename_i aA aG;exact aet aH (pD.v aA) (F8.v aG) h
  ·rename_i aA aG;split at h
   ·rename_i hk;exact aeu aw aH (pD.v aA) (F8.v aG) hk h
   grind
  ·rename_i aA aG;exact aez aw aH pD F8 aA aG h
  grind
 ·exact aeq aH (ag _ (by simp[Op.operands])) h
 ·exact aeE aw aH (ag _ (by simp[Op.operands])) h
 ·exact aeH aw aQ aH (ag _ (by simp[Op.operands])) h
 ·exact aeJ aw aQ aH (ag _ (by simp[Op.operands])) h
 ·exact aeL aw hO aH (ag _ (by simp[Op.operands])) (ag _ (by simp[Op.operands])) h
 ·exact aeM aw aH (ag _ (by simp[Op.operands])) (ag _ (by simp[Op.operands])) h
 ·exact aeC aw hO aH (ag _ (by simp[Op.operands])) h
 ·exact aeN aH (ag _ (by simp[Op.operands])) h
 ·exact aeO aw aH (ag _ (by simp[Op.operands])) (λy bk=>ag y (by simp[Op.operands,bk])) (λy bk=>ag y (by simp[Op.operands,bk])) (λy bk=>ag y (by simp[Op.operands,bk])) h
 ·split at h
  ·rename_i au;exact aeT aH au (λx az=>ag x (by simp[Op.operands]at az⊢;grind)) h
  grind
 ·rename_i t parts;exact aeV aw aH (λp an=>ag p.2 (by
   simp only[Op.operands]
   grind)) h
 ·rename_i args fg;split at h
  ·rename_i x t aA aG;exact aeP aw hO aH aA aG (ag x (by simp[Op.operands,Call.operands];rw[<-vG,aA];simp)) h
  grind
 ·split at h
  ·rename_i x y aA;exact aeQ aH aA (ag x (by simp[Op.operands,Call.operands];rw[<-vG,aA];simp)) (ag y (by simp[Op.operands,Call.operands];rw[<-vG,aA];simp)) h
  grind
 ·split at h
  ·rename_i x y aA;exact aeR aH aA (ag x (by simp[Op.operands,Call.operands];rw[<-vG,aA];simp)) (ag y (by simp[Op.operands,Call.operands];rw[<-vG,aA];simp)) h
  grind
 grind
end
open Go
structure cd(aD:Nat->Prop)(ba:e8)(n:Nat)(os:c3)(s:bJ)(a:Act)(w:World):Prop where
 size:a.tmps.size=n
 defers:a.defers=[]
 hB:pw ba.M ba.w w
 a0:∀b,aD b->¬ba.mine b
 loc:s.loc=os.map (·.2)
 env:∀t,bg (bh aD os) os w (a.tmps.getD t undef) (look s.env t)
 cW:yx (bh aD os) os ba w
 inj:∀ (i j:Nat) x o y aT b,os[i]?=some (x,o)->os[j]?=some (y,aT)->o≠ .bn->aT≠ .bn->bI x=some b->bI y=some b->i=j
section
variable {P:Program} {ah:dJ} {aD:Nat->Prop} {ba:e8} {n:Nat} {os:c3} {s:bJ} {a:Act} {w:World} {o:Oper}
theorem pw.Dp{h:e8}{b c:World}{r:Option Nat}(ax:pw h.M h.w b)(bp:b.grownBy c r)(ao:∀g,r=some g->h.mine g):pw h.M h.w c:=
 ⟨bp.os.trans ax.os,bp.tape.trans ax.tape,bp.output.trans ax.output,bT ax.size bp.size,λk hk aV=>
  (bp.block k (Ag hk ax.size) (λe=>by
   rcases ao k e.symm with h1|h1;all_goals grind)).trans (ax.block k hk aV)⟩
theorem e8.sr{h:e8}{b:World}(ax:pw h.M h.w b){k:Nat}(hk:b.heap.size<=k):h.mine k:=.inl (bT ax.size hk)
theorem grownBy.uO(w:World)(r:Option Nat):w.grownBy w r:=⟨rfl,rfl,rfl,bS _,λ_ _ _=>rfl⟩
theorem cd.Dq(h:cd aD ba n os s a w){b:Nat}(ac:aD b):b<w.heap.size:=by
 have h1:=h.a0 b ac;have ad:=h.hB.size;rcases mX b w.heap.size with aN|aN
 ·exact aN
 ·exact absurd (.inl (by omega)) h1
theorem cd.bF(h:cd aD ba n os s a w)(x:Operand):bg (bh aD os) os w (a.eval x) (bF s x):=by
 cases x with
 |tmp t=>exact h.env t
 |const v=>
  show bg _ _ _ v (Ob v);unfold Ob;split
  ·exact .bQ .ar
  ·exact .bQ .aY
  ·exact .bQ .aY
  ·exact .bQ .aY
  ·rename_i h1 ad aN bs;refine .bQ (.v ?_);cases v<;>first|rfl|exact absurd rfl (aN _)|exact absurd rfl (bs _)
 |global g=>exact .bQ .aY
 |func f=>exact .bQ (.fn (vs:=[]) rfl (by simp))
theorem VH{t u:Nat}{x:Value}(cI:t<a.tmps.size): (a.put (some t) x).tmps.getD u undef=if u=t then x else a.tmps.getD u undef:=by
 simp only[Act.put,ps,UH]
 grind
theorem cd.put(h:cd aD ba n os s a w){dst:Option Tmp}{x:Value}{d:ak}(aa:∀t,dst=some t->t<n)(ao:bg (bh aD os) os w x d):cd aD ba n os (s.put dst d) (a.put dst x) w:=by
 cases dst with
 |none=>exact h
 |some t=>
  have cI:t<a.tmps.size:=by rw[h.size];grind
  refine⟨by simpa[Act.put]using h.size,h.defers,h.hB,h.a0,h.loc,λu=> ?_,h.cW,h.inj⟩;rw[VH cI];simp only[bJ.put,look];by_cases e:u=t
  ·simp_all
  ·rw[bm e];have:Nat.beq t u=false:=by
    cases ac:Nat.beq t u;all_goals simp_all
   rw[this];exact h.env u
theorem JW:∀ {l:List aX} {K:List aX->Prop},Fy l K↔K l
 | [],K=>Cz
 |o::r,K=>JW (l:=r)
theorem AJ{dst:Option Tmp}{d:ak}{K:bJ->Prop}:gp s dst d K↔K (s.put dst d):=by
 cases s;cases dst<;>exact JW
theorem lK.iY{B:e8}{x:Value}{bC:aX}(h:lK A os B w x bC)(aa:bC≠ .bn){b:Nat}(ac:bI x=some b):B.mine b/\b<w.heap.size:=by
 cases bC with
 |bn=>grind
 |gone=>have h:bI x=none:=h;grind
 |cB ds=>obtain⟨rfl,_⟩:=h;simp[bI]at ac
 |cells t cs=>
  obtain⟨g,arr,rfl,ct,bw,_⟩:=h;simp[bI]at ac
  grind
 |row e ay es=>
  obtain⟨jE,xs,b0,_⟩:=h;refine⟨jE b ac,?_⟩;rcases b0.2 with⟨rfl,_⟩| ⟨g,cap,cur,rfl,ct,bw,_⟩
  ·simp[bI]at ac
  ·simp[bI]at ac
   grind
theorem lK.cA{dz:Nat->Prop}{os aP:c3}{B:e8}{w w':World}{x:Value}{bC:aX}(h:lK A os B w x bC)(k:dy A dz w w')(bb:uI os aP)(ac:∀b,bC≠ .bn->bI x=some b->w'.heap[b]?=w.heap[b]?):lK dz aP B w' x bC:=by
 cases bC with
 |bn=>exact trivial
 |gone=>exact h
 |cB ds=>exact⟨h.1,h.2.1,h.2.2.1,λi v d ab aa=>(h.2.2.2 i v d ab aa).cA k bb⟩
 |cells t cs=>
  obtain⟨g,arr,rfl,ct,bw,ae,br,ao⟩:=h;exact⟨g,arr,rfl,ct,(ac g (by simp) rfl).trans bw,ae,br,λj v d ab aa=>(ao j v d ab aa).cA k bb⟩
 |row e ay es=>
  obtain⟨jE,xs,b0,cC,gY,br,ao⟩:=h;refine⟨jE,xs,⟨b0.1,?_⟩,cC,gY,br,λeO j r d h1 ad=> ?_⟩
  ·rcases b0.2 with aV| ⟨g,cap,cur,rfl,ct,bw,rest⟩
   ·grind
   ·exact .inr ⟨g,cap,cur,rfl,ct,(ac g (by simp) rfl).trans bw,rest⟩
  ·obtain⟨v,ab,hi⟩:=ao eO j r d h1 ad;exact⟨v,ab,hi.cA k⟩
theorem cd.qb(h:cd aD ba n os s a w)(ax:w.grownBy w' none):cd aD ba n os s a w':=
 have k:dy (bh aD os) (bh aD os) w w':=.qb ax (λ_ _ h=>h)
 ⟨h.size,h.defers,pw.Dp h.hB ax (λ_ e=>by cases e),h.a0,h.loc,λt=>(h.env t).cA k (.refl _),
  λi x bC hi=>(h.cW i x bC hi).cA k (.refl _) (λb aa ac=>ax.block b ((h.cW i x bC hi).iY aa ac).2 (by simp)),h.inj⟩
variable{x:Value}{bC:aX}
theorem VI{b:Nat}(h:bh aD (os++ [(x,bC)]) b):bh aD os b\/(bC≠ .bn/\bI x=some b):=by
 rcases h with h| ⟨i,y,aT,hi,aa,ac⟩
 ·exact .inl (.inl h)
 ·by_cases aB:i<os.length
  ·rw[sd aB]at hi;exact .inl (.inr ⟨i,y,aT,hi,aa,ac⟩)
  grind
theorem OP(x:Value)(bC:aX):uI os (os++ [(x,bC)]):=λi y aT hi=>by
 refine⟨aT,?_,by cases aT<;>simp[en]⟩
 grind
theorem cd.push(h:cd aD ba n os s a w)(ax:w.grownBy w' none)(pE:∀b,bI x=some b->w.heap.size<=b)(fM:lK (bh aD (os++ [(x,bC)])) (os++ [(x,bC)]) ba w' x bC):
  cd aD ba n (os++ [(x,bC)]) ⟨s.env,s.loc++ [bC]⟩ a w':=by
 have k:dy (bh aD os) (bh aD (os++ [(x,bC)])) w w':=.qb ax (λb ac ab=>by
  rcases VI ab with ab| ⟨_,ab⟩;all_goals grind)
 refine⟨h.size,h.defers,pw.Dp h.hB ax (λ_ e=>by cases e),h.a0,by simp[h.loc],λt=>(h.env t).cA k (OP x bC),λi y aT hi=> ?_,λi j y dx z fT b hi aq d1 d2 cX c0=> ?_⟩
 ·by_cases aB:i<os.length
  ·rw[sd aB]at hi;exact(h.cW i y aT hi).cA k (OP x bC) (λb aa ac=>ax.block b ((h.cW i y aT hi).iY aa ac).2 (by simp))
  grind
 ·have cs:∀ {i:Nat} {y:Value} {aT:aX},(os++ [(x,bC)])[i]?=some (y,aT)->(os[i]?=some (y,aT)/\i<os.length)\/(i=os.length/\y=x/\aT=bC):=by
   grind
  rcases cs hi with⟨fE,_⟩| ⟨rfl,rfl,rfl⟩<;>rcases cs aq with⟨Dr,_⟩| ⟨rfl,rfl,rfl⟩
  ·exact h.inj i j _ _ _ _ b fE Dr d1 d2 cX c0
  ·have:=((h.cW i _ _ fE).iY d1 cX).2
   grind
  ·have:=((h.cW j _ _ Dr).iY d2 c0).2
   grind
  ·rfl
theorem cd.F9{gN:aX}(h:cd aD ba n os s a w)(hi:os[i]?=some (x,bC))(hk:en bC gN)(aa:bC≠ .bn)(yN:gN≠ .bn)(ax:w.grownBy w' (bI x))
  (fM:lK (bh aD (os.set i (x,gN))) (os.set i (x,gN)) ba w' x gN):cd aD ba n (os.set i (x,gN)) ⟨s.env,gq s.loc i gN⟩ a w':=by
 have aB:=(eI.1 hi).1;have cL:∀ {j:Nat} {y:Value} {aT:aX},(os.set i (x,gN))[j]?=some (y,aT)->(j=i/\y=x/\aT=gN)\/(j≠i/\os[j]?=some (y,aT)):=by
  grind
 have fO:∀b,bh aD (os.set i (x,gN)) b->bh aD os b:=by
  intro b ac;rcases ac with ac| ⟨j,y,aT,aq,dq,cx⟩
  ·exact .inl ac
  ·rcases cL aq with⟨rfl,rfl,rfl⟩| ⟨_,aq⟩
   ·exact .inr ⟨_,_,_,hi,aa,cx⟩
   ·exact .inr ⟨_,_,_,aq,dq,cx⟩
 have qX:uI os (os.set i (x,gN)):=by
  intro j y aT aq;by_cases e:j=i
  ·grind
  ·exact⟨aT,by grind,by cases aT<;>simp[en]⟩
 have k:dy (bh aD os) (bh aD (os.set i (x,gN))) w w':=⟨ax.size,λb _ ac=>fO b ac,λb ac aV=>ax.block b ac (λe=>aV (.inr ⟨i,x,bC,hi,aa,e.symm⟩))⟩
 refine⟨h.size,h.defers,pw.Dp h.hB ax (λg e=>((h.cW i x bC hi).iY aa e).1),h.a0,by rw[mC,h.loc,oj],λt=>(h.env t).cA k qX,λj y aT aq=> ?_,λnA uP y dx z fT b h1 ad d1 d2 cX c0=> ?_⟩
 ·rcases cL aq with⟨rfl,rfl,rfl⟩| ⟨bx,aq⟩
  ·omega
  ·exact(h.cW j y aT aq).cA k qX (λb dq ac=>ax.block b ((h.cW j y aT aq).iY dq ac).2 (λe=>bx (h.inj j i _ _ _ _ b aq hi dq aa ac e.symm)))
 ·rcases cL h1 with⟨rfl,rfl,rfl⟩| ⟨_,g1⟩<;>rcases cL ad with⟨rfl,rfl,rfl⟩| ⟨_,g2⟩
  ·rfl
  ·exact h.inj _ _ _ _ _ _ b hi g2 aa d2 cX c0
  ·exact h.inj _ _ _ _ _ _ b g1 hi d1 aa cX c0
  ·exact h.inj _ _ _ _ _ _ b g1 g2 d1 d2 cX c0
def gv(f:ak->ak):aX->aX
 | .cells t cs=>.cells t (cs.map f)
 | .cB cs=>.cB (cs.map f)
 |bC=>bC
theorem v2(f:ak->ak):∀l:List aX,oV f l=l.map (gv f)
 | []=>rfl
 | .cells t cs::r=>by simp[oV,gv,v2 f r]
 | .row e ay es::r=>by simp[oV,gv,v2 f r]
 | .bn::r=>by simp[oV,gv,v2 f r]
 | .gone::r=>by simp[oV,gv,v2 f r]
 | .cB cs::r=>by simp[oV,gv,v2 f r]
theorem b7.sub{d:ak}(i:Nat)(r:ak)(h:b7 A w x d):b7 A w x (kJ i r d)/\b7 A w x (sk i r d):=by
 induction h with
 |v h=>exact⟨.v h,.v h⟩
 |av xs aV al az au cC ai ac br dD ag _=>exact⟨.av xs aV al az au cC ai ac br dD ag,.av xs aV al az au cC ai ac br dD ag⟩
 |nil=>exact⟨.nil,.nil⟩
 |ar=>exact⟨.ar,.ar⟩
 |agg af br h a1=>
  refine⟨.agg af br h,.agg (by grind) br (λj v d ab aa=> ?_)⟩
  grind
 | @be vs ds af h _=>
  refine⟨.be af h,?_⟩;show b7 A w _ (qN ds);unfold qN;split
  ·exact .be af h
  ·exact .aY
 |da xs ai ac br dD ag _=>exact⟨.da xs ai ac br dD ag,.da xs ai ac br dD ag⟩
 |fn af h _=>exact⟨.fn af h,.fn af h⟩
 |b8 _ aQ a1=>exact⟨.b8 (λac=>(a1 ac).1) aQ,.b8 (λac=>(a1 ac).2) aQ⟩
 |aY=>exact⟨.aY,.aY⟩
def VJ(i:Nat)(os aP:c3):Prop:=∀ (j:Nat) (x:Value) (bC:aX),j≠i->os[j]?=some (x,bC)->∃gN,aP[j]?=some (x,gN)/\en bC gN
theorem VK{j:Nat}(h:Nat.beq i j=false):j≠i:=λe=>by simp_all
theorem bg.sub{dz:Nat->Prop}{aP:c3}{w':World}{i:Nat}{OQ:Value}{e:TypeId}{ay:Nat}{es:List (List ak)}{r:ak}(k:dy A dz w w')(bb:VJ i os aP)(hi:os[i]?=some (OQ,.row e ay es))(ao:bg dz aP w' OQ r)
  {x:Value} {d:ak} (h:bg A os w x d): (x.oneCell'=true->bg dz aP w' x (kJ i r d))/\bg dz aP w' x (sk i r d):=by
 induction h with
 |bQ h=>exact⟨λ_=>.bQ ((h.cA k).sub i r).1,.bQ ((h.cA k).sub i r).2⟩
 | @aW j _ _ _ _ h=>
  have bx:j≠i:=λe=>by grind
  obtain⟨aT,bp,hk⟩:=bb _ _ _ bx h;cases aT<;>simp[en]at hk
  exact⟨λ_=>.aW bp,.aW bp⟩
 | @dU j _ _ _ _ h=>
  have bx:j≠i:=λe=>by grind
  obtain⟨aT,bp,hk⟩:=bb _ _ _ bx h;cases aT<;>simp[en]at hk
  exact⟨λ_=>.dU bp,.dU bp⟩
 | @de j gZ off g n c e' mB fK h=>
  have key:bg dz aP w' (.pointer (some ⟨g,gZ*mB+off,none⟩)) (kJ i r (.de j gZ off)):=by
   simp only[kJ];split
   ·exact .bQ .aY
   ·rename_i ac;obtain⟨aT,bp,hk⟩:=bb _ _ _ (VK ac) h;cases aT<;>simp[en]at hk
    obtain⟨rfl,rfl⟩:=hk;exact .de bp
  exact⟨λ_=>key,key⟩
 | @own j x _ _ _ h h1=>
  have key:bg dz aP w' x (kJ i r (.own j)):=by
   simp only[kJ];split
   ·simp_all
   ·rename_i ac;obtain⟨aT,bp,hk⟩:=bb _ _ _ (VK ac) h;cases aT<;>simp[en]at hk
    exact .own bp h1
  exact⟨λ_=>key,key⟩
 | @e5 j x y d h aa h1=>
  have bx:j≠i:=λe=>by grind
  obtain⟨aT,bp,hk⟩:=bb _ _ _ bx h;have ac:Nat.beq i j=false:=by
   cases ac:Nat.beq i j;all_goals simp_all
  have hk:aT= .gone:=by cases aT<;>simp[en]at hk;rfl
  subst hk;rcases aa with rfl| ⟨gZ,off,rfl⟩
  ·have aA:kJ i r (.own j)= .own j:=by simp[kJ,ac]
   have aG:sk i r (.own j)= .own j:=by simp[sk,aA]
   rw[aA,aG];exact⟨λ_=>.e5 bp (.inl rfl) h1,.e5 bp (.inl rfl) h1⟩
  ·have aA:kJ i r (.de j gZ off)= .de j gZ off:=by simp[kJ,ac]
   have aG:sk i r (.de j gZ off)= .de j gZ off:=by simp[sk,aA]
   rw[aA,aG];exact⟨λ_=>.e5 bp (.inr ⟨_,_,rfl⟩) h1,.e5 bp (.inr ⟨_,_,rfl⟩) h1⟩
 | @agg vs ds af br _ a1=>
  refine⟨λh=>by simp[Value.oneCell']at h,.agg (by grind) br (λj v d ab aa=> ?_)⟩
  grind
 | @be vs ds af b0 h a1=>
  exact⟨λh1=>by simp[Value.oneCell']at h1,.bQ (((bg.be af b0 h).qN).cA k)⟩
 | @fn f vs ds af iM _ a1=>
  have key:bg dz aP w' (.func f #[] vs.toArray) (.fn f ds):=.fn af iM (λj v d ab aa=>by
   have al:=iM d (fq aa);have ad:=(a1 j v d ab aa).2;cases d<;>simp[l8,mz]at al<;>exact ad)
  exact⟨λ_=>key,key⟩
 |b8 _ aQ a1=>exact⟨λh1=>.b8 (λac=>(a1 ac).1 h1) aQ,.b8 (λac=>(a1 ac).2) aQ⟩
theorem cd.sub{x':Value}{e:TypeId}{ay:Nat}{es:List (List ak)}{gN:aX}{r:ak}(h:cd aD ba n os s a w)(hi:os[i]?=some (x,.row e ay es))(ax:w.grownBy w' (bI x))
  (xt:∀b,gN≠ .bn->bI x'=some b->bI x=some b\/w.heap.size<=b)
  (fM:∀aP,aP=(os.map λp=>(p.1,gv (kJ i r) p.2)).set i (x',gN)->lK (bh aD aP) aP ba w' x' gN)
  (ao:∀aP,aP=(os.map λp=>(p.1,gv (kJ i r) p.2)).set i (x',gN)->bg (bh aD aP) aP w' x r):
  cd aD ba n ((os.map λp=>(p.1,gv (kJ i r) p.2)).set i (x',gN)) ⟨AC (sk i r) s.env,gq (oV (kJ i r) s.loc) i gN⟩ a w':=by
 have aeW:=fM _ rfl;have v7:=ao _ rfl;clear fM ao;generalize mD: (os.map λp=>(p.1,gv (kJ i r) p.2)).set i (x',gN)=aP at aeW v7⊢;have aB:=(eI.1 hi).1;have fP: (aX.row e ay es)≠ .bn:=by simp
 have cL:∀ {j:Nat} {y:Value} {aT:aX},aP[j]?=some (y,aT)->(j=i/\y=x'/\aT=gN)\/(j≠i/\∃dx,os[j]?=some (y,dx)/\aT=gv (kJ i r) dx):=by
  grind
 have dq:∀dx:aX,gv (kJ i r) dx≠ .bn↔dx≠ .bn:=by intro dx;cases dx<;>simp[gv]
 have bb:VJ i os aP:=by
  intro j y dx bx aq;refine⟨gv (kJ i r) dx,?_,by cases dx<;>simp[en,gv]⟩
  grind
 have fO:∀b,b<w.heap.size->bh aD aP b->bh aD os b:=by
  intro b ac ab;rcases ab with ab| ⟨j,y,aT,aq,aa,cx⟩
  ·exact .inl ab
  ·rcases cL aq with⟨rfl,rfl,rfl⟩| ⟨_,dx,ne,rfl⟩
   ·rcases xt b aa cx with ad|ad
    ·exact .inr ⟨_,_,_,hi,fP,ad⟩
    ·omega
   ·exact .inr ⟨_,_,_,ne,(dq _).1 aa,cx⟩
 have k:dy (bh aD os) (bh aD aP) w w':=⟨ax.size,fO,λb ac aV=>ax.block b ac (λe=>aV (.inr ⟨i,x,_,hi,fP,e.symm⟩))⟩
 have qY:∀ {y:Value} {d:ak},bg (bh aD os) os w y d->_:=λbk=>bg.sub (aP:=aP) k bb hi v7 bk;refine⟨h.size,h.defers,pw.Dp h.hB ax (λg e=>((h.cW i x _ hi).iY fP e).1),h.a0,?_,λt=> ?_,λj y aT aq=> ?_,λnA uP y dx z fT b h1 ad d1 d2 cX c0=> ?_⟩
 ·rw[<-mD,mC,v2,h.loc,oj,oU,oU];rfl
 ·show bg _ _ _ _ (look (AC (sk i r) s.env) t);rw[Dh _ (by rfl)];exact(qY (h.env t)).2
 ·rcases cL aq with⟨rfl,rfl,rfl⟩| ⟨bx,dx,ne,rfl⟩
  ·omega
  ·have ka:=h.cW j y dx ne;have VL:∀b,dx≠ .bn->bI y=some b->w'.heap[b]?=w.heap[b]?:=λb aa ac=>ax.block b (ka.iY aa ac).2 (λe=>bx (h.inj j i _ _ _ _ b ne hi aa fP ac e.symm));cases dx with
   |bn=>exact trivial
   |gone=>exact ka
   |cB ds=>
    obtain⟨aA,aG,bc,cn⟩:=ka;refine⟨aA,by grind,bc,λAK v d ab aa=> ?_⟩
    grind
   |cells t cs=>
    obtain⟨g,arr,rfl,ct,bw,ae,br,kb⟩:=ka;refine⟨g,arr,rfl,ct,(VL g (by simp) rfl).trans bw,by grind,br,λj v d ab aa=> ?_⟩
    grind
   |row aG tp v8=>
    obtain⟨jE,xs,b0,cC,gY,br,kb⟩:=ka;refine⟨jE,xs,⟨b0.1,?_⟩,cC,gY,br,λeO j r d h1 ad=> ?_⟩
    ·rcases b0.2 with aV| ⟨g,cap,cur,rfl,ct,bw,rest⟩
     ·grind
     ·exact .inr ⟨g,cap,cur,rfl,ct,(VL g (by simp) rfl).trans bw,rest⟩
    ·obtain⟨v,ab,hi⟩:=kb eO j r d h1 ad;exact⟨v,ab,hi.cA k⟩
 ·rcases cL h1 with⟨rfl,rfl,rfl⟩| ⟨ie,fl,g1,rfl⟩<;>rcases cL ad with⟨rfl,rfl,rfl⟩| ⟨lq,ff,g2,rfl⟩
  ·rfl
  ·have dt:=((h.cW _ _ _ g2).iY ((dq _).1 d2) c0).2;rcases xt b d1 cX with aN|aN
   ·exact h.inj _ _ _ _ _ _ b hi g2 fP ((dq _).1 d2) aN c0
   ·omega
  ·have dc:=((h.cW _ _ _ g1).iY ((dq _).1 d1) cX).2;rcases xt b d2 c0 with aN|aN
   ·exact h.inj _ _ _ _ _ _ b g1 hi ((dq _).1 d1) fP cX aN
   ·omega
  ·exact h.inj _ _ _ _ _ _ b g1 g2 ((dq _).1 d1) ((dq _).1 d2) cX c0
end
open Go
section
variable {P:Program} {ah:dJ} {aD:Nat->Prop} {ba:e8} {n:Nat} {os:c3} {s:bJ} {a:Act} {w:World} {o:Oper} {K:bJ->Prop}
def dM(aD:Nat->Prop)(ba:e8)(n:Nat)(K:bJ->Prop)(a:Act)(w:World):Prop:=∃os s,cd aD ba n os s a w/\K s
theorem jG{next:Act->World->Prop}{Q:Exit->Act->World->Prop}{x:Value}{w':World}(eo: (execOp a.eval o).run P w= .ok (.value x) w')(h:next (a.put o.dst x) w'):o.wp P a w next Q:=by
 unfold Oper.wp;rw[eo];exact h
theorem VM{next:Act->World->Prop}{Q:Exit->Act->World->Prop}{w':World}(eo: (execOp a.eval o).run P w= .ok .skip w')(h:next (a.put o.dst undef) w'):o.wp P a w next Q:=by
 unfold Oper.wp;rw[eo];exact h
theorem dM.put{dst:Option Tmp}{x:Value}{d:ak}(h:cd aD ba n os s a w)(aa:∀t,dst=some t->t<n)(ao:bg (bh aD os) os w x d)(ap:gp s dst d K):dM aD ba n K (a.put dst x) w:=
 ⟨os,_,h.put aa ao,AJ.1 ap⟩
theorem Ga{d:ak}:bg A os w undef (.b8 false d):=.b8 (λh=>by cases h) (λ_=>rfl)
theorem qW.cA{dz:Nat->Prop}{os aP:c3}{w w':World}{arr:Array Value}{cs:List ak}(h:qW A os w arr cs)(k:dy A dz w w')(bb:uI os aP):qW dz aP w' arr cs:=
 ⟨h.size,h.eE,λi v d ab aa=>(h.hr i v d ab aa).cA k bb⟩
theorem yO{x:Value}{bC:aX}: (os++ [(x,bC)])[os.length]?=some (x,bC):=by simp
theorem cd.len(h:cd aD ba n os s a w):s.loc.length=os.length:=by rw[h.loc];simp
theorem VN{x:Value}{bC:aX}(h:cd aD ba n os s a w)(ax:w.grownBy w' none)(pE:∀b,bI x=some b->w.heap.size<=b):dy (bh aD os) (bh aD (os++ [(x,bC)])) w w':=
 .qb ax (λb ac ab=>by
  rcases VI ab with ab| ⟨_,ab⟩;all_goals grind)
theorem VO{t:TypeId}{arr:Array Value}{cs:List ak}(h:cd aD ba n os s a w)(ao:qW (bh aD os) os w arr cs):
  cd aD ba n (os++ [(.pointer (some ⟨w.heap.size,0,none⟩),.cells t cs)]) ⟨s.env,s.loc++ [.cells t cs]⟩ a (w.alloc (.cells arr t)):=by
 have pE:∀b,bI (.pointer (some ⟨w.heap.size,0,none⟩))=some b->w.heap.size<=b:=by
  intro b ac;simp[bI]at ac;omega
 refine h.push (uy w _ none) pE ?_;have mb:=ao.cA (VN (bC:=.cells t cs) h (uy w (.cells arr t) none) pE) (OP (.pointer (some ⟨w.heap.size,0,none⟩)) (.cells t cs));exact⟨w.heap.size,arr,rfl,e8.sr h.hB (bS _),Aj w _,mb.size,mb.eE,mb.hr⟩
theorem aeX(aw:dw P ah=true){t:TypeId}{Q:Exit->Act->World->Prop}(aH:o.op= .alloc t)(h:cd aD ba n os s a w)(aa:∀t,o.dst=some t->t<n)(ae: (aE ah t).size≠0)
  (ap:gp ⟨s.env,s.loc++ [.cells t (aE ah t).zero]⟩ o.dst (.aW s.loc.length 0) K):o.wp P a w (dM aD ba n K) Q:=by
 obtain⟨z,bt,ao,_⟩:=JV (A:=bh aD os) (os:=os) (w:=w) aw ae;have an:=VO (t:=t) h ao;refine jG (x:=.pointer (some ⟨w.heap.size,0,none⟩)) (w':=w.alloc (.cells z.cells t)) ?_ (dM.put an aa ?_ ap)
 ·simp only[execOp,aH,Instr.alloc,dX,bt,dT,newVar,newRow,vQ,ex,vO]
 ·rw[h.len];exact .aW yO
theorem VP{t:TypeId}{x:Operand}{d:ak}{Q:Exit->Act->World->Prop}(aH:o.op= .box t x)(h:cd aD ba n os s a w)(aa:∀t,o.dst=some t->t<n)(e:bF s x=d)(h1:∀b ck,d≠ .b8 b ck)(ad:∀l,d≠ .be l)(aN:d≠ .aY)
  (ap:gp ⟨s.env,s.loc++ [.cells t (dn d)]⟩ o.dst (.aW s.loc.length 0) K):o.wp P a w (dM aD ba n K) Q:=by
 have ag:=h.bF x;rw[e]at ag;obtain⟨af,br,an⟩:=ag.cells h1 ad aN;have an:=VO (t:=t) h (arr:=(a.eval x).cells) (cs:=dn d) ⟨by omega,br,λi v d ab aa=>an i v d (by grind) aa⟩;refine jG (x:=.pointer (some ⟨w.heap.size,0,none⟩)) (w':=w.alloc (.cells (a.eval x).cells t)) ?_ (dM.put an aa ?_ ap)
 ·simp only[execOp,aH,Instr.box,dX,dT,newVar,newRow,vQ,ex,vO]
 ·rw[h.len];exact .aW yO
theorem JX{g:Nat}{cs:Array Value}:w.grownBy (w.setRow g cs) (some g):=
 ⟨rfl,rfl,rfl,by simp,λk hk bx=>setRow_other w g k cs (λe=>bx (by rw[e]))⟩
theorem JY{vs cur:List Value}{off j:Nat}(h:off+vs.length<=cur.length): (cur.take off++vs++cur.drop (off+vs.length))[j]?=if off<=j/\j<off+vs.length then vs[j-off]? else cur[j]?:=by
 have h1: (cur.take off).length=off:=by grind
 grind
theorem VQ{vs cur:List Value}{off:Nat}(h:off+vs.length<=cur.length): (cur.take off++vs++cur.drop (off+vs.length)).length=cur.length:=by grind
theorem VR(aw:dw P ah=true){t:TypeId}{x y:Operand}{g off:Nat}{cur:Array Value}{ty:TypeId}(aH:o.op= .store t x y)(ae: (aE ah t).size≠0)(ag:a.eval x= .pointer (some ⟨g,off,none⟩))(cC: (a.eval y).cells.size=(aE ah t).size)(br:∀v∈ (a.eval y).cells.toList,v.oneCell'=true)
  (ax:w.heap[g]?=some (.cells cur ty (0,0))) (hA:off+(a.eval y).cells.size<=cur.size):
  (execOp a.eval o).run P w= .ok .skip (w.setRow g (cur.toList.take off++(a.eval y).cells.toList++cur.toList.drop (off+(a.eval y).cells.toList.length)).toArray):=by
 have:=N9 P g off ty (a.eval y).cells.toList 0 cur w ax (by omega) br;simp only[w6]at this;have bx:¬((a.eval y).cells.size≠ (aE ah t).size):=λh=>h cC;simp only[execOp,aH,Instr.storeAt,ag,Instr.sureAddr,storeVar,dX,ex,dT,jT aw ae,bm bx,this]
theorem VS(aw:dw P ah=true){t ty:TypeId}{x y:Operand}{i off g:Nat}{cs:List ak}{d:ak}{Q:Exit->Act->World->Prop}(aH:o.op= .store t x y)(h:cd aD ba n os s a w)(aa:∀t,o.dst=some t->t<n)
  (ae: (aE ah t).size≠0) (ag:a.eval x= .pointer (some ⟨g,off,none⟩)) (hi:os[i]?=some (.pointer (some ⟨g,0,none⟩),.cells ty cs)) (e:bF s y=d) (h1:∀b ck,d≠ .b8 b ck) (ad:∀l,d≠ .be l) (aN:d≠ .aY)
  (cC: (dn d).length=(aE ah t).size) (hA:off+(dn d).length<=cs.length) (ap:gp ⟨s.env,gq s.loc i (.cells ty (jC cs off (dn d)))⟩ o.dst (.b8 false (.v (.bool false))) K):o.wp P a w (dM aD ba n K) Q:=by
 have bk:=h.bF y;rw[e]at bk;obtain⟨af,br,an⟩:=bk.cells h1 ad aN;obtain⟨arr,bw,atQ,ct,atS,aeY,_⟩:=xo h.cW hi;have hK: (a.eval y).cells.size=(dn d).length:=by omega
 have Gb:off+(a.eval y).cells.toList.length<=arr.toList.length:=by grind
 have eo:=VR (P:=P) (w:=w) aw aH ae ag (by omega) br bw (by omega);refine VM eo (dM.put (os:=os.set i (.pointer (some ⟨g,0,none⟩),.cells ty (jC cs off (dn d)))) (h.F9 hi (gN:=.cells ty (jC cs off (dn d))) rfl (by simp) (by simp) JX ?_) aa Ga ap);have qX:uI os (os.set i (.pointer (some ⟨g,0,none⟩),.cells ty (jC cs off (dn d)))):=by
  intro j z aT aq;by_cases e:j=i
  ·subst e;rw[hi]at aq;cases aq;exact⟨_,oT (eI.1 hi).1,rfl⟩
  ·exact⟨aT,by grind,by cases aT<;>simp[en]⟩
 have lr:dy (bh aD os) (bh aD (os.set i (.pointer (some ⟨g,0,none⟩),.cells ty (jC cs off (dn d))))) w (w.setRow g (arr.toList.take off++(a.eval y).cells.toList++arr.toList.drop (off+(a.eval y).cells.toList.length)).toArray):=by
  refine⟨by simp,λb ac ab=> ?_,λb ac aV=>setRow_other w g b _ (λe=>aV (.inr ⟨i,_,_,hi,by simp,by simp[bI,e]⟩))⟩;rcases ab with ab| ⟨j,z,aT,aq,dq,cx⟩
  ·exact .inl ab
  ·by_cases e:j=i
   ·subst e;rw[oT (eI.1 hi).1]at aq;cases aq;exact .inr ⟨_,_,_,hi,by simp,cx⟩
   ·rw[vL (λe'=>e e'.symm)]at aq;exact .inr ⟨j,z,aT,aq,dq,cx⟩
 refine⟨g,_,rfl,ct,Jl w g arr _ ty _ bw,?_,λv ab=> ?_,λj v ck ab yN=> ?_⟩
 ·rw[I9,VQ Gb,JE];omega
 ·grind
 ·rw[List.getElem?_toArray,JY Gb]at ab;rw[JF _ _ _ _ hA,<-af]at yN;split at ab
  ·rename_i al;rw[b3 al]at yN;exact(an _ v ck ab yN).cA lr qX
  ·rename_i al;rw[bm al]at yN;exact(aeY j v ck (by grind) yN).cA lr qX
end
open Go
structure hU(A:Nat->Prop)(w:World)(xs:List Value)(es:List (List ak))(ay:Nat):Prop where
 len:xs.length=es.length*ay
 jS:∀r∈es,r.length=ay
 eE:∀v∈xs,v.oneCell'=true
 hr:∀ (k j:Nat) r d,es[k]?=some r->r[j]?=some d->∃v,xs[k*ay+j]?=some v/\b7 A w v d
theorem hU.cA{dz:Nat->Prop}{w w':World}{xs:List Value}{es:List (List ak)}{ay:Nat}(h:hU A w xs es ay)(k:dy A dz w w'):hU dz w' xs es ay:=
 ⟨h.len,h.jS,h.eE,λeO j r d h1 ad=>by obtain⟨v,ab,hi⟩:=h.hr eO j r d h1 ad;exact⟨v,ab,hi.cA k⟩⟩
variable{xs:List Value}
theorem hU.append{ys:List Value}{es fs:List (List ak)}{ay:Nat}(h:hU A w xs es ay)(bp:hU A w ys fs ay):hU A w (xs++ys) (es++fs) ay:=by
 refine⟨by rw[fw,fw,h.len,bp.len,uv],λr ao=> ?_,λv ab=> ?_,λk j r d hk aq=> ?_⟩
 ·rcases eb.1 ao with ao|ao
  ·exact h.jS r ao
  ·exact bp.jS r ao
 ·rcases eb.1 ab with ab|ab
  ·exact h.eE v ab
  ·exact bp.eE v ab
 ·by_cases aB:k<es.length
  ·rw[sd aB]at hk;obtain⟨v,ab,hi⟩:=h.hr k j r d hk aq
   grind
  ·rw[w1 (by omega)]at hk;obtain⟨v,ab,hi⟩:=bp.hr _ j r d hk aq;have hle:es.length*ay<=k*ay:=kI _ (by omega);refine⟨v,?_,hi⟩;rw[w1 (by rw[h.len];omega),h.len];rw[N1]at ab
   grind
variable{ay:Nat}
theorem hU.nil:hU A w [] [] ay:=⟨by simp,by simp,by simp,by simp⟩
section
variable {P:Program} {ah:dJ} {aD:Nat->Prop} {ba:e8} {n:Nat} {os:c3} {s:bJ} {a:Act} {w:World} {o:Oper} {K:bJ->Prop} {A:Nat->Prop} {B:Nat} {H:e8}
variable{x:Value}{e:TypeId}
theorem rI{ay:Nat}{es:List (List ak)}{xs:List Value}(jE:∀b,bI x=some b->H.mine b)(b0:w'.ownsRow 0 e ay x es.length xs)(cC:0<ay)(ao:hU A w' xs es ay):lK A os H w' x (.row e ay es):=
 ⟨jE,xs,b0,cC,ao.jS,ao.eE,ao.hr⟩
theorem Ds{ay:Nat}{es:List (List ak)}(h:lK A os H w x (.row e ay es)):∀b,bI x=some b->H.mine b:=h.1
theorem wa{ay:Nat}{es:List (List ak)}(h:lK A os H w x (.row e ay es)):∃xs,w.ownsRow 0 e ay x es.length xs/\0<ay/\hU A w xs es ay:=by
 obtain⟨_,xs,b0,cC,ao,br,kO⟩:=h;exact⟨xs,b0,cC,⟨b0.1,ao,br,kO⟩⟩
theorem OR{ay:Nat}{es:List (List ak)}{f:Bool}(cC:0<ay)(h:b7 A w x (.av ay es f)): (x= .slice none 0 0/\es=[])\/
  ∃cE c xs,x= .slice (some cE) es.length c/\es.length<=c/\c<=maxLen/\(f=true->c=es.length)/\(es≠ []->¬A cE.block)/\(es≠ []->cE.block<w.heap.size)/\hU A w xs es ay/\∀ (j:Nat) v,xs[j]?=some v->w.cell? (cE.add j)=some v:=by
 cases h with
 |nil=>simp
 | @av cE n c _ _ _ xs aV al az au JZ ai ac br dD ag=>
  subst aV;obtain⟨vs,af,ab⟩:=JR (Q:=λj v=>w.cell? (cE.add j)=some v/\v.oneCell'=true/\∀d r,es[j/ay]?=some r->r[j%ay]?=some d->b7 A w v d) (es.length*ay) (λj aq=>by
   have bX:j/ay<es.length:=(Nat.div_lt_iff_lt_mul cC).2 aq;have ao:=JZ _ (eD bX);have az:=uw j cC;have h1:=eN bX;have ad:es[j/ay][j%ay]?=some (es[j/ay][j%ay]'(by omega)):=eN (by omega);refine⟨xs (j/ay) (j%ay),?_,br _ _,λd r aA aG=>ag _ _ _ _ aA aG⟩;have:=dD _ _ _ _ h1 ad;rwa[show j/ay*ay+j%ay=j by rw[Ah];exact Nat.div_add_mod j ay]at this)
  refine .inr ⟨cE,c,vs,rfl,al,az,au,ai,ac,⟨af,JZ,λv J0=> ?_,λk j r d hk aq=> ?_⟩,λj v aq=>(ab j v aq).1⟩
  ·obtain⟨j,aq,rfl⟩:=fv J0;exact(ab j _ (eN aq)).2.1
  ·have hS:=(eI.1 hk).1;have gY:=JZ _ (fq hk);have iv:=(eI.1 aq).1;have aB:k*ay+j<vs.length:=by
    rw[af];have: (k+1) *ay<=es.length*ay:=kI _ (by omega)
    grind
   grind
theorem AL{ay:Nat}{es:List (List ak)}{xs:List Value}(b0:w.ownsRow B e ay x es.length xs): (x= .slice none 0 0/\es=[]/\xs=[])\/
  ∃g c,x= .slice (some ⟨g,0,none⟩) es.length c/\es.length<=c/\c<=maxLen/\B<=g/\g<w.heap.size/\∀ (j:Nat) v,xs[j]?=some v->w.cell? (Addr.add ⟨g,0,none⟩ j)=some v:=by
 rcases b0.2 with⟨rfl,aV⟩| ⟨g,cap,cur,rfl,ct,bw,h1,ad,_⟩
 ·have:es=[]:=NM aV;subst this;exact .inl ⟨rfl,rfl,NM (by simpa using b0.1)⟩
 ·exact .inr ⟨g,cap,rfl,h1,ad,ct,(wX.1 bw).1,b0.cells (g:=g) rfl⟩
theorem OS{d:ak}{e:TypeId}{K:List (List ak)->Bool->Prop}(ae: (aE ah e).size≠0)(hO:yx A os H w)(ag:bg A os w x d)(h:tl ah e (os.map (·.2)) d K):
  ∃ys mE,K ys mE/\((x= .slice none 0 0/\ys=[])\/∃cE c xs,x= .slice (some cE) ys.length c/\hU A w xs ys (aE ah e).size/\∀ (j:Nat) v,xs[j]?=some v->w.cell? (cE.add j)=some v):=by
 unfold tl at h;split at h
 ·exact⟨_,_,h,.inl ⟨ag.o0,rfl⟩⟩
 ·rename_i ay es f;split at h
  ·rename_i ac;have ac:=fB ac;subst ac;rcases OR (ta ae) ag.ny with⟨rfl,rfl⟩| ⟨cE,c,xs,rfl,_,_,_,_,_,ao,al⟩;all_goals grind
  grind
 ·rename_i j;split at h
  ·rename_i aG ay es af;split at h
   ·rename_i ac;have ac:=fB ac;subst ac;obtain⟨x',ku⟩:=kN af (by simp);have nd:=ag.qS ku;subst nd;obtain⟨xs,b0,_,ao⟩:=wa (hO _ _ _ ku);rcases AL b0 with⟨rfl,rfl,rfl⟩| ⟨g,c,rfl,_,_,_,_,al⟩;all_goals grind
   grind
  grind
 grind
theorem Gc(aw:dw P ah=true){t ty e:TypeId}(hk: (aE ah t).k= .fb e)(ae: (aE ah e).size≠0){base:Nat}{v:Value}{m:Nat}{xs news:List Value}(b0:w.ownsRow base e (aE ah e).size v m xs)
  {cE:Addr} {k c:Nat} (af:news.length=k* (aE ah e).size) (ov:∀ (j:Nat) u,news[j]?=some u->w.cell? (cE.add j)=some u) (h1:∀u∈news,u.oneCell'=true) (au:kL ah e (m+k)) (aeZ:base<=w.heap.size):
  ∃v' w',(Builtin.append_ #[t,t] ty #[v,.slice (some cE) k c]).run P w= .ok v' w'/\w'.ownsRow base e (aE ah e).size v' (m+k) (xs++news)/\w.grownBy w' (bI v)/\(∀b,bI v'=some b->bI v=some b\/w.heap.size<=b):=by
 obtain⟨i,hi,cC,iZ,z,bt,nT,nf⟩:=rF aw ae;have hu:=lL aw hk;have AM:z.cells.size=(aE ah e).size:=by rw[<-nf];simpa using(uK (A:=λ_=>False) (w:=w) nT).1
 have lo:v.ownBlock=bI v:=by
  rcases b0.2 with⟨rfl,_⟩| ⟨g,cap,cur,rfl,_⟩<;>rfl
 obtain⟨v',w',ao,aH,ax,_⟩:=run_append_own (P:=P) w base t ty e i z _ _ hu hi bt cC iZ AM (ta ae) v m xs b0 cE k c news af ov h1 au.2 au.1 aeZ;rw[lo]at ax;refine⟨v',w',ao,aH,ax,?_⟩;rcases b0.2 with⟨rfl,rfl⟩| ⟨g,cap,cur,rfl,atT,bw,rJ,qf,lN,J1⟩
 ·by_cases Gd:k=0
  ·grind
  ·have:=run_append_nil (P:=P) w t ty e i z hu hi bt cE k c news (by grind) ov (by omega) (by have:=au.2;simp only[maxLen]at this;omega) (by have:=au.1;grind);rw[this]at ao;cases ao;intro b ac;simp[bI]at ac;omega
 ·by_cases VT:m+k<=cap
  ·have hA:m*i.size+news.length<=cur.size:=by rw[af,lN,cC,<-uv];exact kI _ VT
   have:=run_append_room (P:=P) w t ty e i hu hi g m cap cur bw cE k c news (by grind) ov h1 VT hA;rw[this]at ao;cases ao;intro b ac;exact .inl ac
  ·have holds:∀ (j:Nat) u,xs[j]?=some u->w.cell? ((⟨g,0,none⟩:Addr).add j)=some u:=b0.cells (g:=g) rfl;have:=N7 (P:=P) w t ty e i z hu hi bt ⟨g,0,none⟩ m cap xs (by rw[b0.1,cC]) holds cE k c news (by grind) ov (by omega) (by have:=au.2;simp only[maxLen]at this;omega) (by rw[iZ];exact N6 (by omega) au.1);rw[this]at ao;cases ao;intro b ac;simp[bI]at ac;omega
theorem Dt{ay:Nat}{es:List (List ak)}{xs:List Value}(h:cd aD ba n os s a w)(ax:w.grownBy w' none)(pE:∀b,bI x=some b->w.heap.size<=b)
  (b0:w'.ownsRow 0 e ay x es.length xs) (cC:0<ay) (ao:hU (bh aD os) w xs es ay):cd aD ba n (os++ [(x,.row e ay es)]) ⟨s.env,s.loc++ [.row e ay es]⟩ a w':=
 h.push ax pE (rI (λb ac=>e8.sr h.hB (pE b ac)) b0 cC (ao.cA (VN (bC:=.row e ay es) h ax pE)))
theorem wb{v:Value}{m:Nat}{e:TypeId}{ay:Nat}{xs:List Value}(b0:w.ownsRow B e ay v m xs):v.oneCell'=true:=by
 rcases b0.2 with⟨rfl,_⟩| ⟨g,cap,cur,rfl,_⟩<;>rfl
theorem ae0{v:Value}{m Du:Nat}{e:TypeId}{ay:Nat}{xs:List Value}(b0:w.ownsRow B e ay v m xs)(h:Du<=B):w.ownsRow Du e ay v m xs:=by
 refine⟨b0.1,?_⟩;rcases b0.2 with aV| ⟨g,cap,cur,e,ct,rest⟩
 ·grind
 ·exact .inr ⟨g,cap,cur,e,bT h ct,rest⟩
variable{t:TypeId}
theorem VU{eB:TypeId}{x y:Operand}{args:Array Operand}{fg:Array TypeId}(aH:o.op= .call {callee:=.builtin .append,args:=args,argTypes:=fg})(bb:args.toList=[x,y])(jm:fg.toList=[t,eB])(lO:t=eB){r:Value}{w':World}
  (ao: (Builtin.append_ #[t,t] o.type #[a.eval x,a.eval y]).run P w= .ok r w'): (execOp a.eval o).run P w= .ok (.value r) w':=by
 obtain rfl:args= #[x,y]:=by grind
 subst lO;obtain rfl:fg= #[t,t]:=by grind
 simp only[execOp,aH,resolve,invoke,builtin,dX,ex,dT,CK,oi,w3,ao]
theorem Dv{ty e:TypeId}(aw:dw P ah=true)(hk: (aE ah t).k= .fb e)(ae: (aE ah e).size≠0){cE:Option Addr}{m c:Nat}(OT:m<=c):
  (Builtin.append_ #[t,t] ty #[.slice cE m c,.slice none 0 0]).run P w= .ok (.slice cE m c) w:=by
 obtain⟨i,hi,cC,_⟩:=rF aw ae;have hu:=lL aw hk;cases cE<;>simp[Builtin.append_,gz hu,sizeOf,typeInfo,hi,Builtin.lenOf,Builtin.firstCells,OT,storeCells]
theorem VV{ty e:TypeId}(aw:dw P ah=true)(hk: (aE ah t).k= .fb e)(ae: (aE ah e).size≠0){cE lM:Option Addr}{m c fD:Nat}(OT:m<=c):
  (Builtin.append_ #[t,t] ty #[.slice cE m c,.slice lM 0 fD]).run P w= .ok (.slice cE m c) w:=by
 obtain⟨i,hi,cC,_⟩:=rF aw ae;have hu:=lL aw hk;cases cE<;>cases lM<;>simp[Builtin.append_,gz hu,sizeOf,typeInfo,hi,Builtin.lenOf,Builtin.firstCells,OT,storeCells,loadCells,loadCellsFrom]
abbrev J2(A:Nat->Prop)(w:World)(ay:Nat)(y:Value)(ys:List (List ak)):Prop:=
 (y= .slice none 0 0/\ys=[])\/∃cE c xs,y= .slice (some cE) ys.length c/\hU A w xs ys ay/\∀ (j:Nat) v,xs[j]?=some v->w.cell? (cE.add j)=some v
theorem VW(aw:dw P ah=true){t ty e:TypeId}(hk: (aE ah t).k= .fb e)(ae: (aE ah e).size≠0){y:Value}{ys:List (List ak)}(hA:kL ah e ys.length)(bk:J2 A w (aE ah e).size y ys):
  ∃v' w' xs,(Builtin.append_ #[t,t] ty #[.slice none 0 0,y]).run P w= .ok v' w'/\w'.ownsRow 0 e (aE ah e).size v' ys.length xs/\w.grownBy w' none/\(∀b,bI v'=some b->w.heap.size<=b)/\hU A w xs ys (aE ah e).size:=by
 rcases bk with⟨rfl,rfl⟩| ⟨cE,c,news,rfl,ao,al⟩
 ·exact⟨_,_,[],Dv aw hk ae (bS 0),⟨by simp,.inl ⟨rfl,rfl⟩⟩,grownBy.uO w none,by simp[bI],.nil⟩
 ·obtain⟨v',w',eo,b0,ax,ac⟩:=Gc (P:=P) (ty:=ty) aw hk ae (Jh w 0 e (aE ah e).size) ao.len al ao.eE (by grind) (bZ _);rw[ux,nR]at b0;exact⟨v',w',news,eo,b0,ax,λb uN=>by rcases ac b uN with h1|h1;simp[bI]at h1;exact h1,ao⟩
theorem ae1(aw:dw P ah=true){t ty e:TypeId}(hk: (aE ah t).k= .fb e)(ae: (aE ah e).size≠0){x y:Value}{es ys:List (List ak)}{xs:List Value}(b0:w.ownsRow 0 e (aE ah e).size x es.length xs)(kb:hU A w xs es (aE ah e).size)
  (hA:kL ah e (es.length+ys.length)) (bk:J2 A w (aE ah e).size y ys):
  ∃v' w' OU,(Builtin.append_ #[t,t] ty #[x,y]).run P w= .ok v' w'/\w'.ownsRow 0 e (aE ah e).size v' (es++ys).length OU/\w.grownBy w' (bI x)/\(∀b,bI v'=some b->bI x=some b\/w.heap.size<=b)/\hU A w OU (es++ys) (aE ah e).size:=by
 rcases bk with⟨rfl,rfl⟩| ⟨cE,c,news,rfl,ao,al⟩
 ·have eo: (Builtin.append_ #[t,t] ty #[x,.slice none 0 0]).run P w= .ok x w:=by
   rcases AL b0 with⟨ab,_,_⟩| ⟨g,J3,ab,hle,_⟩
   ·rw[ab];exact Dv aw hk ae (bS 0)
   ·rw[ab];exact Dv aw hk ae hle
  exact⟨x,w,xs,eo,by grind,grownBy.uO _ _,λb ac=>.inl ac,by grind⟩
 ·obtain⟨v',w',eo,wc,ax,ac⟩:=Gc (P:=P) (ty:=ty) aw hk ae b0 ao.len al ao.eE hA (bZ _);exact⟨v',w',xs++news,eo,by grind,ax,ac,kb.append ao⟩
theorem VX(aw:dw P ah=true){t ty e:TypeId}(hk: (aE ah t).k= .fb e)(ae: (aE ah e).size≠0){x y:Value}{es ys:List (List ak)}(ag:b7 A w x (.av (aE ah e).size es true))
  (hA:kL ah e (es.length+ys.length)) (bk:J2 A w (aE ah e).size y ys) (we:0<ys.length):
  ∃v' w' xs,(Builtin.append_ #[t,t] ty #[x,y]).run P w= .ok v' w'/\w'.ownsRow 0 e (aE ah e).size v' (es++ys).length xs/\w.grownBy w' none/\(∀b,bI v'=some b->w.heap.size<=b)/\hU A w xs (es++ys) (aE ah e).size:=by
 have fF:=ta ae;rcases bk with⟨rfl,rfl⟩| ⟨cE,c,news,rfl,ao,al⟩
 ·grind
 ·rcases OR fF ag with⟨rfl,rfl⟩| ⟨lM,fD,xs,rfl,hle,az,au,_,_,kb,yP⟩
  ·obtain⟨v',w',xs,h1,ad,aN,bs,cm⟩:=VW (P:=P) (ty:=ty) (A:=A) (w:=w) aw hk ae (ys:=ys) (y:=.slice (some cE) ys.length c) (by grind) (.inr ⟨cE,c,news,rfl,ao,al⟩)
   grind
  ·have AN:=au rfl;obtain⟨i,hi,cC,iZ,z,bt,nT,nf⟩:=rF aw ae;have hu:=lL aw hk;have AM:z.cells.size=(aE ah e).size:=by rw[<-nf];simpa using(uK (A:=λ_=>False) (w:=w) nT).1
   have eo:=N7 (P:=P) w t ty e i z hu hi bt lM es.length fD xs (by rw[kb.len,cC]) yP cE ys.length c news (by rw[ao.len,cC]) al (by omega) (by have:=hA.2;simp only[maxLen]at this;omega) (by rw[iZ];exact N6 (by omega) hA.1);refine⟨_,_,xs++news,eo,⟨by rw[(kb.append ao).len],.inr ⟨w.heap.size,_,_,by rw[fw],bZ _,Aj w.drew _,?_,?_,?_,?_⟩⟩,⟨rfl,rfl,rfl,by simp,λdj mF _=>(uy w.drew _ none).block dj mF (by simp)⟩,λb ac=>by simp[bI]at ac;omega,kb.append ao⟩
   ·rw[fw];exact Jk w _ _ e
   ·exact grownCap_le_maxLen w _ _ e hA.2
   ·have fU:=Jk w (es.length+ys.length) fD e;simp only[Array.size_append,I9,size_zeroCells,AM,kb.len,ao.len,<-uv]
    grind
   ·simp only[vH,k1];rw[<-k1,<-(kb.append ao).len]
    grind
theorem VY(aw:dw P ah=true){t eB e:TypeId}{x y:Operand}{args:Array Operand}{fg:Array TypeId}{Q:Exit->Act->World->Prop}(aH:o.op= .call {callee:=.builtin .append,args:=args,argTypes:=fg})(bb:args.toList=[x,y])(jm:fg.toList=[t,eB])(lO:t=eB)
  (hk: (aE ah t).k= .fb e) (ae: (aE ah e).size≠0) (h:cd aD ba n os s a w) (aa:∀t,o.dst=some t->t<n) (ap:Ju ah e s o.dst (bF s x) (bF s y) K):o.wp P a w (dM aD ba n K) Q:=by
 unfold Ju at ap;rw[h.loc]at ap;obtain⟨ys,mE,ap,bk⟩:=OS ae h.cW (h.bF y) ap;have ag:=h.bF x;have fF:=ta ae;have exec:=λ{r:Value} {w':World}=>VU (P:=P) (w:=w) (a:=a) (r:=r) (w':=w') aH bb jm lO;split at ap
 ·-- nil base
  rename_i ec;rw[ec]at ag;have jU:=ag.o0;obtain⟨hA,ap⟩:=ap;rcases bk with⟨k4,rfl⟩| ⟨cE,c,news,k4,ao,al⟩
  ·have eo:=Dv (w:=w) (ty:=o.type) aw hk ae (cE:=none) (bS 0);refine jG (exec (by rw[jU,k4];omega)) ?_;have an:=Dt (x:=.slice none 0 0) (e:=e) (ay:=(aE ah e).size) (es:=[]) (xs:=[]) h (grownBy.uO w none) (by simp[bI]) ⟨by simp,.inl ⟨rfl,rfl⟩⟩ fF .nil;rw[<-h.loc]at ap;exact dM.put an aa (by rw[h.len];exact .own yO rfl) ap
  ·obtain⟨v',w',eo,b0,ax,ac⟩:=Gc (P:=P) (ty:=o.type) aw hk ae (Jh w 0 e (aE ah e).size) ao.len al ao.eE (by grind) (bZ _);rw[ux,nR]at b0;refine jG (exec (by rw[jU,k4];omega)) ?_;have an:=Dt (es:=ys) h ax (λb uN=>by rcases ac b uN with h1|h1;simp[bI]at h1;exact h1) b0 fF ao;rw[<-h.loc]at ap;exact dM.put an aa (by rw[h.len];exact .own yO (wb b0)) ap
 ·-- a row of Dw ae2 own
  rename_i i ec;rw[ec]at ag;split at ap
  ·rename_i bc ay gj af;split at ap
   ·rename_i ac;simp only[cq]at ac;have nB:=fB ac.1;have gG:=fB ac.2;subst nB;subst gG;obtain⟨x',hi⟩:=kN af (by simp);have nd:=ag.qS hi;subst nd;obtain⟨hA,ap⟩:=ap;obtain⟨xs,b0,_,kb⟩:=wa (h.cW _ _ _ hi);have nz:∀ {v':Value} {w':World} {news:List Value},(Builtin.append_ #[t,t] o.type #[a.eval x,a.eval y]).run P w= .ok v' w'->w'.ownsRow 0 bc (aE ah bc).size v' (gj.length+ys.length) (xs++news)->w.grownBy w' (bI (a.eval x))->
      (∀b,bI v'=some b->bI (a.eval x)=some b\/w.heap.size<=b)->hU (bh aD os) w news ys (aE ah bc).size->o.wp P a w (dM aD ba n K) Q:=by
     intro v' w' news eo wc ax ac ao;refine jG (exec eo) ?_;have jH:=h.sub (i:=i) (r:=.aY) (x':=v') (gN:=.row bc (aE ah bc).size (gj++ys)) hi ax (λb _ cx=>ac b cx) (λaP OV=> ?_) (λaP _=>.bQ .aY)
     ·have ls:gp ⟨AC (sk i .aY) s.env,gq (oV (kJ i .aY) s.loc) i (.row bc (aE ah bc).size (gj++ys))⟩ o.dst (.own i) K:=ap;refine dM.put jH aa (.own (e:=bc) (ay:=(aE ah bc).size) (es:=gj++ys) ?_ (wb wc)) ls
      grind
     ·have lr:dy (bh aD os) (bh aD aP) w w':=by
       refine⟨ax.size,λb lo ab=> ?_,λb lo aV=>ax.block b lo (λe=>aV (.inr ⟨i,_,_,hi,by simp,e.symm⟩))⟩;rcases ab with ab| ⟨j,z,aT,aq,dq,cx⟩
       ·exact .inl ab
       ·rw[OV]at aq;by_cases e:j=i
        ·subst e;rw[oT (by grind)]at aq;cases aq;rcases ac b cx with ad|ad
         ·exact .inr ⟨_,_,_,hi,by simp,ad⟩
         ·omega
        ·rw[vL (λe'=>e e'.symm),fe]at aq;cases ne:os[j]? with
         |none=>grind
         |some p=>
          rw[ne]at aq;cases aq;exact .inr ⟨j,_,_,ne,λe=>dq (by rw[e];rfl),cx⟩
      exact rI (es:=gj++ys) (λb cx=>(ac b cx).elim (Ds (h.cW _ _ _ hi) b) (e8.sr h.hB)) (by grind) fF ((kb.append ao).cA lr)
    rcases bk with⟨k4,rfl⟩| ⟨cE,c,news,k4,ao,al⟩
    ·have eo: (Builtin.append_ #[t,t] o.type #[a.eval x,a.eval y]).run P w= .ok (a.eval x) w:=by
      rw[k4];rcases AL b0 with⟨ab,_,_⟩| ⟨g,J3,ab,hle,_⟩
      ·rw[ab];exact Dv aw hk ae (bS 0)
      ·rw[ab];exact Dv aw hk ae hle
     exact nz (news:=[]) eo (by grind) (grownBy.uO _ _) (λb ac=>.inl ac) .nil
    ·obtain⟨v',w',eo,wc,ax,ac⟩:=Gc (P:=P) (ty:=o.type) aw hk ae b0 ao.len al ao.eE hA (bZ _);exact nz (by rw[k4];omega) wc ax ac ao
   grind
  grind
 ·-- a list ae3 spare room
  rename_i ay es ec;rw[ec]at ag;split at ap
  ·rename_i ac;have ac:=fB ac;subst ac;obtain⟨hA,ap⟩:=ap;have qg:=OR fF ag.ny;have VZ:∀ {cE:Addr} {c:Nat} {news:List Value},a.eval y= .slice (some cE) ys.length c->hU (bh aD os) w news ys (aE ah e).size->(∀ (j:Nat) v,news[j]?=some v->w.cell? (cE.add j)=some v)->0<ys.length->
     ∃v' w' xs,(Builtin.append_ #[t,t] o.type #[a.eval x,a.eval y]).run P w= .ok v' w'/\w'.ownsRow w.heap.size e (aE ah e).size v' (es++ys).length xs/\w.grownBy w' none/\hU (bh aD os) w xs (es++ys) (aE ah e).size:=by
    intro cE c news k4 ao al we;rcases qg with⟨jU,rfl⟩| ⟨lM,fD,xs,jU,hle,az,au,_,_,kb,yP⟩
    ·obtain⟨v',w',eo,b0,ax,ac⟩:=Gc (P:=P) (ty:=o.type) aw hk ae (Jh w w.heap.size e (aE ah e).size) ao.len al ao.eE (by omega) (bS _);rw[ux,nR]at b0;exact⟨v',w',news,by rw[jU,k4];omega,b0,ax,ao⟩
    ·have AN:=au rfl;obtain⟨i,hi,cC,iZ,z,bt,nT,nf⟩:=rF aw ae;have hu:=lL aw hk;have AM:z.cells.size=(aE ah e).size:=by rw[<-nf];simpa using(uK (A:=λ_=>False) (w:=w) nT).1
     have eo:=N7 (P:=P) w t o.type e i z hu hi bt lM es.length fD xs (by rw[kb.len,cC]) yP cE ys.length c news (by rw[ao.len,cC]) al (by omega) (by have:=hA.2;simp only[maxLen]at this;omega) (by rw[iZ];exact N6 (by omega) hA.1);refine⟨_,_,xs++news,by rw[jU,k4];omega,⟨by rw[(kb.append ao).len],.inr ⟨w.heap.size,_,_,by rw[fw],bS _,Aj w.drew _,?_,?_,?_,?_⟩⟩,⟨rfl,rfl,rfl,by simp,λdj mF _=>(uy w.drew _ none).block dj mF (by simp)⟩,kb.append ao⟩
     ·rw[fw];exact Jk w _ _ e
     ·exact grownCap_le_maxLen w _ _ e hA.2
     ·have fU:=Jk w (es.length+ys.length) fD e;simp only[Array.size_append,I9,size_zeroCells,AM,kb.len,ao.len,<-uv]
      grind
     ·simp only[vH,k1];rw[<-k1,<-(kb.append ao).len]
      grind
   split at ap
   ·obtain⟨we,ap⟩:=ap;rcases bk with⟨k4,rfl⟩| ⟨cE,c,news,k4,ao,al⟩
    ·grind
    ·obtain⟨v',w',xs,eo,b0,ax,xu⟩:=VZ k4 ao al we;refine jG (exec eo) ?_;have an:=Dt (es:=es++ys) h ax (λb uN=>by
      rcases AL b0 with⟨rfl,_⟩| ⟨g,J3,rfl,_,_,ct,_⟩
      ·grind
      ·simp[bI]at uN;omega) (ae0 b0 (bZ _)) fF xu
     rw[<-h.loc]at ap;exact dM.put an aa (by rw[h.len];exact .own yO (wb b0)) ap
   ·by_cases we:ys=[]
    ·subst we;have eo: (Builtin.append_ #[t,t] o.type #[a.eval x,a.eval y]).run P w= .ok (a.eval x) w:=by
      have J4:∃lM fD,a.eval y= .slice lM 0 fD:=by
       grind
      obtain⟨lM,fD,k4⟩:=J4;rw[k4];rcases qg with⟨jU,_⟩| ⟨atU,eP,xs,jU,hle,_⟩
      ·rw[jU];exact VV aw hk ae (bS 0)
      ·rw[jU];exact VV aw hk ae hle
     refine jG (exec eo) (dM.put h aa ?_ ap);rw[jQ];have lp:=ag.ny;generalize a.eval x=OW at lp;cases lp with
     |av xs aV al az au cC ai ac br dD pD=>exact .bQ (.av xs aV al az (by simp) cC ai ac br dD pD)
     |nil=>exact .bQ .nil
    ·rcases bk with⟨k4,aV⟩| ⟨cE,c,news,k4,ao,al⟩
     ·grind
     ·obtain⟨v',w',xs,eo,b0,ax,xu⟩:=VZ k4 ao al (Fq.2 we);refine jG (exec eo) (dM.put (h.qb ax) aa ?_ ap);have V0:=xu.cA (dy.qb (A:=bh aD os) (dz:=bh aD os) ax (λ_ _ h=>h));rcases AL b0 with⟨rfl,ow,_⟩| ⟨g,J3,rfl,hle,az,ct,OX,dD⟩
      ·grind
      ·have ai:¬bh aD os g:=by
        rintro(h1| ⟨j,z,aT,aq,dq,cx⟩)
        ·have:=h.Dq h1;omega
        ·have:=((h.cW j z aT aq).iY dq cx).2;omega
       refine .bQ (.av (λk j=>xs.getD (k* (aE ah e).size+j) .nilFunc) rfl hle az (by simp) xu.jS (λ_=>ai) (λ_=>OX) (λk j=> ?_) (λk j r d h1 ad=> ?_) (λk j r d h1 ad=> ?_))
       ·cases bX:xs[k* (aE ah e).size+j]? with
        |none=>simp[List.getD,bX];rfl
        |some v=>simp[List.getD,bX];exact xu.eE v (fq bX)
       ·obtain⟨v,ab,_⟩:=V0.hr k j r d h1 ad
        grind
       ·obtain⟨v,ab,hi⟩:=V0.hr k j r d h1 ad
        grind
  grind
 grind
end
open Go
section
variable {P:Program} {ah:dJ} {aD:Nat->Prop} {ba:e8} {n:Nat} {os:c3} {s:bJ} {a:Act} {w:World} {o:Oper} {K:bJ->Prop} {A:Nat->Prop} {B:Nat} {H:e8}
theorem Ge{z:Array Value}{zero:List ak}{m N:Nat}(bt:qW A os w z zero)(atV:∀ (i:Nat) v d,z[i]?=some v->zero[i]?=some d->b7 A w v d)(fF:0<zero.length)(az:m<=N):
  hU A w ((madeCells z (N*zero.length)).toList.take (m*zero.length)) (List.replicate m zero) zero.length:=by
 have hle:m*zero.length<=N*zero.length:=kI _ az;have AM:=bt.size;have ax:∀q,q<N*zero.length->(madeCells z (N*zero.length))[q]?=some (z[q%z.size]!):=by
  intro q bX;simp[madeCells,bX]
 have ae4:∀q,z[q%z.size]?=some (z[q%z.size]!):=by
  intro q;have:q%z.size<z.size:=uw _ (by omega)
  grind
 have tq: (madeCells z (N*zero.length)).toList.length=N*zero.length:=(Cx (xs:=madeCells z (N*zero.length))).trans (CQ _ _);refine⟨by grind,λr ao=>by grind,λv ab=> ?_,λk j r d hk aq=> ?_⟩
 ·obtain⟨q,bX,rfl⟩:=fv ab;have h1:=eN bX;rw[rs]at h1;split at h1
  ·rw[wY,ax q (by omega)]at h1;rw[<-vM h1];have:=ae4 q;rw[<-wY]at this;exact bt.eE _ (fq this)
  grind
 ·have hS:k<m:=by grind
  have ao:r=zero:=by grind
  subst ao;have iv:=(eI.1 aq).1;have h1: (k+1) *r.length<=m*r.length:=kI _ (by omega);rw[uv,Fw]at h1;refine⟨z[(k*r.length+j)%z.size]!,?_,?_⟩
  ·grind
  ·have J5: (k*r.length+j)%z.size=j:=by
    rw[AM,Ah,Nat.mul_add_mod,se iv]
   grind
theorem ae5(aw:dw P ah=true){t e:TypeId}{l c:Operand}{yQ tr:IntKind}{m N:Nat}{Q:Exit->Act->World->Prop}(aH:o.op= .makeSlice t l c)(hk: (aE ah t).k= .fb e)(ae: (aE ah e).size≠0)
  (h:cd aD ba n os s a w) (aa:∀t,o.dst=some t->t<n) (af:a.eval l= .int yQ m) (al:a.eval c= .int tr N) (AO:m<=N) (ac:N* (aE ah e).bytes<=140737488355328) (cT:N<=maxLen)
  (ap:gp ⟨s.env,s.loc++ [.row e (aE ah e).size (List.replicate m (aE ah e).zero)]⟩ o.dst (.own s.loc.length) K):o.wp P a w (dM aD ba n K) Q:=by
 obtain⟨i,hi,cC,iZ,z,bt,nT,nf⟩:=rF aw ae;have hu:=lL aw hk;obtain⟨h1,ad,aN⟩:=uK (A:=bh aD os) (w:=w) nT;have wg:qW (bh aD os) os w z.cells (aE ah e).zero:=⟨by omega,ad,λi v d ab aa=>.bQ (aN i v d (by grind) aa)⟩
 have AP: (N:Int)<=9223372036854775807:=by simp only[maxLen]at cT;omega
 have eo:=run_make (P:=P) w t e i z hu hi bt yQ tr m N (by omega) (by omega) (by
  grind) AP
 simp only[l6,cC]at eo;have fF:=ta ae;have fm:=Ge (N:=N) (m:=m) wg (λi v d ab aa=>aN i v d (by grind) aa) (by omega) AO;rw[nf]at fm;have hlen: (List.replicate m (aE ah e).zero).length=m:=by simp
 have an:=Dt (w':=w.alloc (.cells (madeCells z.cells (N* (aE ah e).size)) e)) (x:=.slice (some ⟨w.heap.size,0,none⟩) m N) (e:=e) (ay:=(aE ah e).size) h (uy w _ none) (λb ac=>by simp[bI]at ac;omega)
  (xs:=(madeCells z.cells (N* (aE ah e).size)).toList.take (m* (aE ah e).size)) ⟨by rw[fm.len],.inr ⟨w.heap.size,N,_,by simp,bZ _,Aj w _,by omega,cT,CQ _ _,by simp⟩⟩ fF fm
 refine jG (x:=.slice (some ⟨w.heap.size,0,none⟩) m N) (w':=w.alloc (.cells (madeCells z.cells (N* (aE ah e).size)) e)) ?_ (dM.put an aa (by rw[h.len];exact .own yO rfl) ap);simp only[execOp,aH,af,al,dX,eo,dT,ex]
variable{x:Value}
theorem J6{e:TypeId}{ay:Nat}{es:List (List ak)}(h:lK A os H w x (.row e ay es))(ai:∀b,dz b->A b)(ag:∀b,bI x=some b->¬dz b):b7 dz w x (.av ay es false):=by
 obtain⟨xs,b0,cC,ao⟩:=wa h;rcases AL b0 with⟨rfl,rfl,_⟩| ⟨g,c,rfl,hle,az,ct,ax,al⟩
 ·exact .nil
 ·have mb:=ao.cA (dz:=dz) (w':=w) (dy.ic ai);refine .av (λk j=>xs.getD (k*ay+j) .nilFunc) rfl hle az (by simp) ao.jS (λ_=>ag g rfl) (λ_=>ax) (λk j=> ?_) (λk j r d h1 ad=> ?_) (λk j r d h1 ad=> ?_)
  ·cases bX:xs[k*ay+j]? with
   |none=>simp[List.getD,bX];rfl
   |some v=>simp[List.getD,bX];exact ao.eE v (fq bX)
  ·obtain⟨v,ab,_⟩:=ao.hr k j r d h1 ad
   grind
  ·obtain⟨v,ab,hi⟩:=mb.hr k j r d h1 ad
   grind
theorem cd.j6{e:TypeId}{ay:Nat}{es:List (List ak)}(h:cd aD ba n os s a w)(hi:os[i]?=some (x,.row e ay es)):
  cd aD ba n ((os.map λp=>(p.1,gv (kJ i (.av ay es false)) p.2)).set i (x,.bn)) (s.j6 i ay es) a w/\
  ∀b,bh aD ((os.map λp=>(p.1,gv (kJ i (.av ay es false)) p.2)).set i (x,.bn)) b->bh aD os b/\bI x≠some b:=by
 have fO:∀b,bh aD ((os.map λp=>(p.1,gv (kJ i (.av ay es false)) p.2)).set i (x,.bn)) b->bh aD os b/\bI x≠some b:=by
  intro b ac;rcases ac with ac| ⟨j,z,aT,aq,dq,cx⟩
  ·refine⟨.inl ac,λe'=> ?_⟩;exact h.a0 b ac ((h.cW i _ _ hi).iY (by simp) e').1
  ·by_cases e':j=i
   ·grind
   ·rw[vL (λaG=>e' aG.symm),fe]at aq;cases ne:os[j]? with
    |none=>grind
    |some p=>
     rw[ne]at aq;cases aq;have kw:p.2≠ .bn:=λaG=>dq (by rw[aG];rfl);exact⟨.inr ⟨j,_,_,ne,kw,cx⟩,λaG=>e' (h.inj j i _ _ _ _ b ne hi kw (by simp) cx aG)⟩
 refine⟨h.sub (w':=w) (x':=x) (gN:=.bn) (r:=.av ay es false) hi (grownBy.uO _ _) (λb aa=>absurd rfl aa) (λ_ _=>trivial) (λaP mD=> ?_),fO⟩;subst mD;exact .bQ (J6 (h.cW i _ _ hi) (λb ac=>(fO b ac).1) (λb ac ad=>(fO b ad).2 ac))
theorem cd.ae6{aP:c3}{s':bJ}(h:cd aD ba n os s a w)(φ V1:ak->ak)
  (AI:∀ {z:Value} {d:ak},bg (bh aD os) os w z d->(z.oneCell'=true->bg (bh aD aP) aP w z (φ d))/\bg (bh aD aP) aP w z (V1 d))
  (k:dy (bh aD os) (bh aD aP) w w) (mD:∀ (i:Nat) z aT,aP[i]?=some (z,aT)->aT= .bn\/∃dx,os[i]?=some (z,dx)/\aT=gv φ dx)
  (ts:s'.loc=aP.map (·.2)) (ae7:∀t,look s'.env t=V1 (look s.env t)):cd aD ba n aP s' a w:=by
 refine⟨h.size,h.defers,h.hB,h.a0,ts,λt=>by rw[ae7];exact(AI (h.env t)).2,λi z aT hi=> ?_,λi j x o y aT b hi aq d1 d2 cX c0=> ?_⟩
 ·rcases mD i z aT hi with rfl| ⟨dx,h1,rfl⟩
  ·exact trivial
  ·have ka:=h.cW _ _ _ h1;cases dx with
   |bn=>exact trivial
   |gone=>exact ka
   |cB ds=>
    obtain⟨aA,aG,bc,cn⟩:=ka;refine⟨aA,by grind,bc,λAK v d ab aa=> ?_⟩
    grind
   |cells t cs=>
    obtain⟨g,arr,rfl,ct,bw,ae,br,kb⟩:=ka;refine⟨g,arr,rfl,ct,bw,by grind,br,λjo v d ab aa=> ?_⟩
    grind
   |row aG tp v8=>
    obtain⟨jE,xs,b0,cC,gY,br,ao⟩:=ka;exact⟨jE,xs,b0,cC,gY,br,λeO jo r d h1 ad=>by
     obtain⟨v,ab,hi⟩:=ao eO jo r d h1 ad;exact⟨v,ab,hi.cA k⟩⟩
 ·have dq:∀dx:aX,gv φ dx≠ .bn->dx≠ .bn:=by intro dx;cases dx<;>simp[gv]
  rcases mD i x o hi with rfl| ⟨dx,h1,rfl⟩
  ·grind
  ·rcases mD j y aT aq with rfl| ⟨fT,ad,rfl⟩
   ·grind
   ·exact h.inj i j x dx y fT b h1 ad (dq _ d1) (dq _ d2) cX c0
theorem cd.Jq{t:TypeId}{cs:List ak}(h:cd aD ba n os s a w)(hi:os[i]?=some (x,.cells t cs))(eF:pv cs=true):
  cd aD ba n ((os.map λp=>(p.1,gv (mZ i cs) p.2)).set i (x,.bn)) (s.Jq i cs) a w/\
  ∀b,bh aD ((os.map λp=>(p.1,gv (mZ i cs) p.2)).set i (x,.bn)) b->bh aD os b/\bI x≠some b:=by
 have aB:=(eI.1 hi).1;generalize mD: (os.map λp=>(p.1,gv (mZ i cs) p.2)).set i (x,.bn)=aP;have ae8:aP[i]?=some (x,.bn):=by grind
 have uQ:∀ {k:Nat},k≠i->aP[k]?=(os[k]?).map λp=>(p.1,gv (mZ i cs) p.2):=by
  grind
 have cL:∀ (k:Nat) (z:Value) (aT:aX),aP[k]?=some (z,aT)->(k=i/\z=x/\aT= .bn)\/(k≠i/\∃dx,os[k]?=some (z,dx)/\aT=gv (mZ i cs) dx):=by
  grind
 have dq:∀dx:aX,gv (mZ i cs) dx≠ .bn->dx≠ .bn:=by intro dx;cases dx<;>simp[gv]
 have fO:∀b,bh aD aP b->bh aD os b/\bI x≠some b:=by
  intro b ac;rcases ac with ac| ⟨j,z,aT,aq,aa,cx⟩
  ·exact⟨.inl ac,λe'=>h.a0 b ac ((h.cW i _ _ hi).iY (by simp) e').1⟩
  ·rcases cL j z aT aq with⟨rfl,rfl,rfl⟩| ⟨bx,dx,ne,rfl⟩
   ·grind
   ·exact⟨.inr ⟨j,_,_,ne,dq _ aa,cx⟩,λaG=>bx (h.inj j i _ _ _ _ b ne hi (dq _ aa) (by simp) cx aG)⟩
 have ng:dy (bh aD os) (bh aD aP) w w:=dy.ic (λb ac=>(fO b ac).1);have Dx:=AH eF;have qZ:∀ {p q:Nat},p≠q->Nat.beq p q=false:=by
  intro p q bx;cases ac:Nat.beq p q;all_goals simp_all
 have Dy:∀ (off g:Nat) (t2:TypeId) (uR:List ak),os[i]?=some (.pointer (some ⟨g,0,none⟩),.cells t2 uR)->b7 (bh aD aP) w (.pointer (some ⟨g,off,none⟩)) (.da (cs.drop off)):=by
  intro off g t2 uR hk;rw[hi]at hk;cases hk;obtain⟨arr,bw,_,_,_,_,dD⟩:=xo h.cW hi;refine F3 (λac=>(fO g ac).2 rfl) (wX.1 bw).1 (λj d aa=> ?_);rw[qI]at aa;obtain⟨v,h1,ad,aN⟩:=dD _ d aa;exact⟨v,by rw[Addr.pA];exact h1,ad,((aN.plain (Dx d (fq aa))).2).cA ng⟩
 have iM:∀ {z:Value} {d:ak},b7 (bh aD os) w z d->b7 (bh aD aP) w z (FF i cs d):=by
  intro z d bt;cases d
  case aW=>cases bt
  all_goals exact bt.cA ng
 have qh:∀ {z:Value} {d:ak},b7 (bh aD os) w z d->b7 (bh aD aP) w z (mZ i cs d)/\b7 (bh aD aP) w z (C2 i cs d):=by
  intro z d bt;induction bt with
  |v h=>exact⟨.v h,.v h⟩
  |av xs aV al az au cC ai ac br dD ag a1=>exact⟨(b7.av xs aV al az au cC ai ac br dD ag).cA ng,(b7.av xs aV al az au cC ai ac br dD ag).cA ng⟩
  |nil=>exact⟨.nil,.nil⟩
  |ar=>exact⟨.ar,.ar⟩
  |agg af br h a1=>
   refine⟨(b7.agg af br h).cA ng,.agg (by grind) br (λj v d ab aa=> ?_)⟩
   grind
  | @be vs ds af h _=>
   refine⟨(b7.be af h).cA ng,?_⟩;show b7 _ w _ (qN ds);unfold qN;split
   ·exact(b7.be af h).cA ng
   ·exact .aY
  |da xs ai ac br dD ag _=>exact⟨(b7.da xs ai ac br dD ag).cA ng,(b7.da xs ai ac br dD ag).cA ng⟩
  | @fn f vs ds af h _=>
   have key:b7 (bh aD aP) w (.func f #[] vs.toArray) (.fn f (ds.map (FF i cs))):=by
    refine .fn (by grind) (λj v d ab aa=> ?_)
    grind
   exact⟨key,key⟩
  |b8 _ aQ a1=>exact⟨.b8 (λac=>(a1 ac).1) aQ,.b8 (λac=>(a1 ac).2) aQ⟩
  |aY=>exact⟨.aY,.aY⟩
 have AI:∀ {z:Value} {d:ak},bg (bh aD os) os w z d->(z.oneCell'=true->bg (bh aD aP) aP w z (mZ i cs d))/\bg (bh aD aP) aP w z (C2 i cs d):=by
  intro z d bt;induction bt with
  |bQ h=>exact⟨λ_=>.bQ (qh h).1,.bQ (qh h).2⟩
  | @aW k off g t2 uR hk=>
   have key:bg (bh aD aP) aP w (.pointer (some ⟨g,off,none⟩)) (mZ i cs (.aW k off)):=by
    by_cases bx:k=i
    ·subst bx;simp only[mZ,Af];exact .bQ (Dy off g t2 uR hk)
    ·simp only[mZ,qZ (λe=>bx e.symm)];exact .aW (t:=t2) (cs:=uR.map (mZ i cs)) (by rw[uQ bx,hk];rfl)
   exact⟨λ_=>key,key⟩
  | @dU k off g t2 uR hk=>
   have key:bg (bh aD aP) aP w (.pointer (some ⟨g,off,none⟩)) (mZ i cs (.dU k off)):=by
    by_cases bx:k=i
    ·subst bx;simp only[mZ,Af];exact .bQ (Dy off g t2 uR hk)
    ·simp only[mZ,qZ (λe=>bx e.symm)];exact .dU (t:=t2) (cs:=uR.map (mZ i cs)) (by rw[uQ bx,hk];rfl)
   exact⟨λ_=>key,key⟩
  | @de k gZ off g m c aG tp v8 hk=>
   have bx:k≠i:=λe=>by grind
   have key:bg (bh aD aP) aP w (.pointer (some ⟨g,gZ*tp+off,none⟩)) (.de k gZ off):=.de (e:=aG) (ay:=tp) (es:=v8) (n:=m) (c:=c) (by rw[uQ bx,hk];rfl);exact⟨λ_=>key,key⟩
  | @own k z aG tp v8 hk h1=>
   have bx:k≠i:=λe=>by grind
   have key:bg (bh aD aP) aP w z (.own k):=.own (e:=aG) (ay:=tp) (es:=v8) (by rw[uQ bx,hk];rfl) h1;exact⟨λ_=>key,key⟩
  | @e5 k z kP d hk aa h1=>
   have bx:k≠i:=λe=>by grind
   have hq:aP[k]?=some (kP,.gone):=by rw[uQ bx,hk];rfl
   rcases aa with rfl| ⟨gZ,off,rfl⟩
   ·exact⟨λ_=>.e5 hq (.inl rfl) h1,.e5 hq (.inl rfl) h1⟩
   ·exact⟨λ_=>.e5 hq (.inr ⟨_,_,rfl⟩) h1,.e5 hq (.inr ⟨_,_,rfl⟩) h1⟩
  | @agg vs ds af br _ a1=>
   refine⟨λh=>by simp[Value.oneCell']at h,.agg (by grind) br (λk v d ab aa=> ?_)⟩
   grind
  | @be vs ds af b0 bw a1=>
   exact⟨λh1=>by simp[Value.oneCell']at h1,.bQ (((bg.be af b0 bw).qN).cA ng)⟩
  | @fn f vs ds af V2 bw a1=>
   have key:bg (bh aD aP) aP w (.func f #[] vs.toArray) (.fn f (ds.map (FF i cs))):=by
    refine .fn (by grind) (λd aa=> ?_) (λj v d ab aa=> ?_)
    ·obtain⟨e,he,rfl⟩:=fr.1 aa;have al:=V2 e he;cases e<;>simp[l8,mz]at al
     case aW k o=>
      simp only[FF];split<;>rfl
     all_goals first|rfl|skip
     rename_i g cr;have:cr=[]:=by cases cr<;>simp_all[mz]
     subst this;rfl
    ·rw[fe]at aa;cases aq:ds[j]? with
     |none=>grind
     |some e=>
      rw[aq]at aa;simp at aa;subst aa;have al:=V2 e (fq aq);have ad:=(a1 j v e ab aq).2;cases e<;>simp[l8,mz]at al
      all_goals first|exact ad|skip
      rename_i g cr;have:cr=[]:=by cases cr<;>simp_all[mz]
      subst this;exact ad
   exact⟨λ_=>key,key⟩
  |b8 _ aQ a1=>exact⟨λh1=>.b8 (λac=>(a1 ac).1 h1) aQ,.b8 (λac=>(a1 ac).2) aQ⟩
 refine⟨h.ae6 (mZ i cs) (C2 i cs) AI ng (λk z aT hk=> ?_) ?_ (λt=> ?_),fO⟩
 ·grind
 ·rw[<-mD];show gq (oV (mZ i cs) s.loc) i .bn=_;rw[mC,v2,h.loc,oj,oU,oU];rfl
 ·show look (AC (C2 i cs) s.env) t=_;rw[Dh _ (by rfl)]
def mc(aD:Nat->Prop)(os:c3)(J:List Nat)(b:Nat):Prop:=aD b\/∃ (i:Nat) (x:Value) (bC:aX),os[i]?=some (x,bC)/\bC≠ .bn/\i∉J/\bI x=some b
def nh:ak->Option Nat
 | .own j=>some j
 | .aW j _=>some j
 |_=>none
def jq(ds:List ak):List Nat:=ds.filterMap nh
theorem AQ{ds:List ak}{d:ak}{j:Nat}(h:d∈ds)(aq:nh d=some j):j∈jq ds:=NQ.2 ⟨d,h,aq⟩
theorem xv:∀ (ds:List ak) {os:c3} {s:bJ} {K:bJ->Prop},cd aD ba n os s a w->oW ds s K->∃aP s',cd aD ba n aP s' a w/\K s'/\(∀b,bh aD aP b->mc aD os (jq ds) b)/\∀ (i:Nat) x o,i∉jq ds->os[i]?=some (x,o)->∃aT,aP[i]?=some (x,aT)/\en o aT
 | [],os,s,K,h,ap=>⟨os,s,h,ap,λb ac=>by
   rcases ac with ac| ⟨i,x,aT,hi,aa,cx⟩
   ·exact .inl ac
   ·exact .inr ⟨i,x,aT,hi,aa,by simp[jq],cx⟩,λi x o _ hi=>⟨o,hi,by cases o<;>simp[en]⟩⟩
 |d::r,os,s,K,h,ap=>by
  have live:∀ {j:Nat},(∀e ay es,bN s.loc j≠ .row e ay es)->(∀t cs,bN s.loc j≠ .cells t cs)->nh d=some j->oW r s K->∃aP s',cd aD ba n aP s' a w/\K s'/\(∀b,bh aD aP b->mc aD os (jq (d::r)) b)/\∀ (i:Nat) x o,i∉jq (d::r)->os[i]?=some (x,o)->∃aT,aP[i]?=some (x,aT)/\en o aT:=by
   intro j hL gM ag ap;obtain⟨aP,s',ao,hk,xt,ss⟩:=xv r h ap;refine⟨aP,s',ao,hk,λb ac=> ?_,λi y bC hi aH=>ss i y bC (λaz=>hi (by simp[jq,ag];exact .inr (by simpa[jq]using az))) aH⟩;rcases xt b ac with ac| ⟨i,y,aT,di,dq,aV,cx⟩
   ·exact .inl ac
   ·refine .inr ⟨i,y,aT,di,dq,?_,cx⟩;have aA:jq (d::r)=j::jq r:=by simp[jq,ag]
    rw[aA];simp only[pt,not_or];refine⟨λe=> ?_,aV⟩;subst e;have i0:bN s.loc i=aT:=by rw[h.loc,lm,fe,di];rfl
    cases aT with
    |row e ay es=>grind
    |cells t cs=>grind
    |bn=>grind
    |gone=>have st:bI y=none:=h.cW _ _ _ di;grind
    |cB ds=>obtain⟨rfl,_⟩:=h.cW _ _ _ di;simp[bI]at cx
  have step:∀ {j:Nat} {x:Value} {bC:aX} {φ:ak->ak} {gH:bJ},os[j]?=some (x,bC)->nh d=some j->cd aD ba n ((os.map λp=>(p.1,gv φ p.2)).set j (x,.bn)) gH a w->oW r gH K->
    ∃aP s',cd aD ba n aP s' a w/\K s'/\(∀b,bh aD aP b->mc aD os (jq (d::r)) b)/\∀ (i:Nat) x o,i∉jq (d::r)->os[i]?=some (x,o)->∃aT,aP[i]?=some (x,aT)/\en o aT:=by
   intro j x bC φ gH hi ag bp ap;obtain⟨aP,s',ao,hk,xt,ss⟩:=xv r bp ap;refine⟨aP,s',ao,hk,λb ac=> ?_,λi y OY fE aH=> ?_⟩
   rotate_left
   ·have fV:i≠j:=λe=>fE (by subst e;exact AQ s8 ag);obtain⟨aT,h1,ad⟩:=ss i y (gv φ OY) (λaz=>fE (by simp[jq,ag];exact .inr (by simpa[jq]using az))) (by grind);exact⟨aT,h1,by cases OY<;>cases aT<;>simp[en,gv]at ad⊢ <;>exact ad⟩
   rcases xt b ac with ac| ⟨i,y,aT,di,dq,aV,cx⟩
   ·exact .inl ac
   ·have fV:i≠j:=by
     grind
    rw[vL (λaG=>fV aG.symm),fe]at di;cases ne:os[i]? with
    |none=>grind
    |some p=>
     rw[ne]at di;cases di;refine .inr ⟨i,_,_,ne,λaG=>dq (by rw[aG];rfl),?_,cx⟩;have aA:jq (d::r)=j::jq r:=by simp[jq,ag]
     grind
  by_cases aa:∃j,d= .own j
  ·obtain⟨j,rfl⟩:=aa;unfold oW at ap;split at ap
   ·rename_i e ay es af;rw[h.loc]at af;obtain⟨x,hi⟩:=kN af (by simp);exact step hi rfl (h.j6 hi).1 ap
   ·grind
   ·rename_i hL gM;exact live (λ_ _ _ e=>hL _ _ _ e) (λ_ _ e=>gM _ _ e) rfl ap
  ·by_cases kw:∃j o,d= .aW j o
   ·obtain⟨j,off,rfl⟩:=kw;unfold oW at ap;split at ap
    ·rename_i t cs af;split at ap
     ·rename_i eF;rw[h.loc]at af;obtain⟨x,hi⟩:=kN af (by simp);exact step hi rfl (h.Jq hi eF).1 ap
     grind
    ·grind
    ·rename_i hL gM;exact live (λ_ _ _ e=>gM _ _ _ e) (λ_ _ e=>hL _ _ e) rfl ap
   ·have h1:oW (d::r) s K=oW r s K:=by cases d<;>first|rfl|exact absurd ⟨_,rfl⟩ aa|exact absurd ⟨_,_,rfl⟩ kw
    have ad:jq (d::r)=jq r:=by cases d<;>first|rfl|exact absurd ⟨_,rfl⟩ aa|exact absurd ⟨_,_,rfl⟩ kw
    rw[h1]at ap;rw[ad];exact xv r h ap
variable{J:List Nat}
theorem xw{b:Nat}(h:mc aD os J b):bh aD os b:=by
 rcases h with h| ⟨i,x,aT,hi,aa,_,ac⟩
 ·exact .inl h
 ·exact .inr ⟨i,x,aT,hi,aa,ac⟩
theorem V3{x:Value}{j off:Nat}{t:TypeId}{cs:List ak}(h:cd aD ba n os s a w)(ao:bg (bh aD os) os w x (.aW j off))(ed:j∈J)(af:bN s.loc j= .cells t cs)(eF:pv cs=true):b7 (mc aD os J) w x (.da (cs.drop off)):=by
 rw[h.loc]at af;obtain⟨x',hi⟩:=kN af (by simp);obtain⟨g,eB,dI,di,rfl⟩:=ao.qR;rw[hi]at di;cases di;obtain⟨arr,bw,_,_,_,_,dD⟩:=xo h.cW hi;refine F3 (λab=> ?_) (wX.1 bw).1 (λq d aa=> ?_)
 ·rcases ab with ab| ⟨i,y,aT,di,aa,aV,cx⟩
  ·exact h.a0 g ab ((h.cW _ _ _ hi).iY (by simp) rfl).1
  ·exact aV (by rw[h.inj i j _ _ _ _ g di hi aa (by simp) cx rfl];exact ed)
 ·rw[qI]at aa;obtain⟨v,h1,ad,aN⟩:=dD _ d aa;exact⟨v,by rw[Addr.pA];exact h1,ad,((aN.plain (AH eF d (fq aa))).2).cA (dy.ic (λ_=>xw))⟩
theorem ae9{x:Value}{d:ak}{Q:ak->Prop}(h:cd aD ba n os s a w)(ao:bg (bh aD os) os w x d)(al:l8 d=true\/b7 (bh aD os) w x d)(ed:∀j o,d= .aW j o->j∈J)(af:vS s.loc d Q):∃ck,Q ck/\b7 (mc aD os J) w x ck:=by
 have bQ:∀ {d:ak},b7 (bh aD os) w x d->b7 (mc aD os J) w x d:=λhi=>hi.cA (dy.ic (λ_=>xw));by_cases aa:∃j o,d= .aW j o
 ·obtain⟨j,off,rfl⟩:=aa;unfold vS at af;split at af
  ·rename_i jo aT e;cases e;split at af
   ·rename_i t cs qi;split at af
    ·rename_i eF;exact⟨_,af,V3 h ao (ed _ _ rfl) qi eF⟩
    grind
   grind
  grind
 ·have h1:vS s.loc d Q=Q d:=by cases d<;>first|rfl|exact absurd ⟨_,_,rfl⟩ aa
  rw[h1]at af;refine⟨d,af,bQ ?_⟩;rcases al with al|al
  ·by_cases Dy:∃cs,d= .da cs
   ·obtain⟨cs,rfl⟩:=Dy;exact ao.vW
   ·refine(ao.plain ?_).2;cases d
    case aW=>grind
    case da=>rfl
    case fn f cr=>
     have:cr=[]:=by cases cr<;>simp_all[l8,mz]
     subst this;rfl
    all_goals first|rfl| (simp[l8,mz]at al)
  omega
theorem V4{J:List Nat}(h:cd aD ba n os s a w):∀ (vs:List Value) (ds:List ak) {Q:List ak->Prop},vs.length=ds.length->(∀ (i:Nat) v d,vs[i]?=some v->ds[i]?=some d->bg (bh aD os) os w v d/\(l8 d=true\/b7 (bh aD os) w v d))->(∀j o,.aW j o∈ds->j∈J)->yw s.loc ds Q->
  ∃iw,Q iw/\vs.length=iw.length/\∀ (i:Nat) v d,vs[i]?=some v->iw[i]?=some d->b7 (mc aD os J) w v d
 | [],[],Q,_,_,_,af=>⟨[],af,rfl,by simp⟩
 | [],_::_,Q,h1,_,_,_=>by grind
 |_::_,[],Q,h1,_,_,_=>by grind
 |v::vs,d::ds,Q,h1,ao,ed,af=>by
  obtain⟨ck,af,hi⟩:=ae9 h (ao 0 v d rfl rfl).1 (ao 0 v d rfl rfl).2 (λj o e=>ed j o (by simp[e])) af;obtain⟨iw,bX,hlen,an⟩:=V4 h vs ds (by grind) (λi v d ab aa=>ao (i+1) v d (by grind) (by grind)) (λj o aq=>ed j o (by grind)) af
  grind
theorem OZ{x:Value}{d:ak}{Q:ak->Prop}(h:cd aD ba n os s a w)(ao:bg (bh aD os) os w x d)(ed:∀e j,e∈nx d->nh e=some j->j∈J)(af:ot s.loc d Q):∃ck,Q ck/\b7 (mc aD os J) w x ck:=by
 have bQ:∀ {d:ak},b7 (bh aD os) w x d->b7 (mc aD os J) w x d:=λhi=>hi.cA (dy.ic (λ_=>xw));cases d with
 |own j=>
  simp only[ot]at af;split at af
  ·rename_i e ay es qi;rw[h.loc]at qi;obtain⟨x',hi⟩:=kN qi (by simp);have nd:=ao.qS hi;subst nd;refine⟨_,af,J6 (h.cW _ _ _ hi) (λ_=>xw) (λb ac ab=> ?_)⟩;rcases ab with ab| ⟨i,y,aT,di,aa,aV,cx⟩
   ·exact h.a0 b ab ((h.cW _ _ _ hi).iY (by simp) ac).1
   ·exact aV (by rw[h.inj i j _ _ _ _ b di hi aa (by simp) cx ac];exact ed (.own j) j (by simp[nx]) rfl)
  grind
 |aW j off=>
  simp only[ot]at af;split at af
  ·rename_i t cs qi;split at af
   ·rename_i eF;exact⟨_,af,V3 h ao (ed (.aW j off) j (by simp[nx]) rfl) qi eF⟩
   grind
  grind
 |dU=>exact af.elim
 |de=>exact af.elim
 |b8=>exact af.elim
 |agg=>exact af.elim
 |v y=>obtain⟨rfl,h1⟩:=ao.j7;exact⟨_,af,.v h1⟩
 |av=>exact⟨_,af,bQ ao.ny⟩
 |be=>exact af.elim
 |da=>exact⟨_,af,bQ ao.vW⟩
 |fn f cr=>
  have af:yw s.loc cr λl=>Q (.fn f l):=af;have O0:∃vs:List Value,x= .func f #[] vs.toArray/\vs.length=cr.length/\∀ (i:Nat) v d,vs[i]?=some v->cr[i]?=some d->bg (bh aD os) os w v d/\(l8 d=true\/b7 (bh aD os) w v d):=by
   cases ao with
   |bQ h=>cases h with
    |fn af an=>exact⟨_,rfl,af,λi v d ab aa=>⟨.bQ (an i v d ab aa),.inr (an i v d ab aa)⟩⟩
   |fn af iM an=>grind
   |e5 h aa h1=>rcases aa with aa| ⟨_,_,aa⟩<;>cases aa
  obtain⟨vs,rfl,hlen,an⟩:=O0;obtain⟨iw,bX,gM,iN⟩:=V4 h vs cr hlen an (λj o aq=>ed (.aW j o) j (by simp only[nx,ko];exact⟨aq,rfl⟩) rfl) af;exact⟨_,bX,.fn gM iN⟩
 |ar=>rw[ao.o0];exact⟨_,af,.ar⟩
 |aY=>exact⟨_,af,.aY⟩
theorem V5{J:List Nat}(h:cd aD ba n os s a w):∀ (vs:List Value) (ds:List ak) {Q:List ak->Prop},vs.length=ds.length->(∀ (i:Nat) v d,vs[i]?=some v->ds[i]?=some d->bg (bh aD os) os w v d)->(∀e j,e∈ds.flatMap nx->nh e=some j->j∈J)->C3 s.loc ds Q->
  ∃iw,Q iw/\vs.length=iw.length/\∀ (i:Nat) v d,vs[i]?=some v->iw[i]?=some d->b7 (mc aD os J) w v d
 | [],[],Q,_,_,_,af=>⟨[],af,rfl,by simp⟩
 | [],_::_,Q,h1,_,_,_=>by grind
 |_::_,[],Q,h1,_,_,_=>by grind
 |v::vs,d::ds,Q,h1,ao,ed,af=>by
  obtain⟨ck,af,hi⟩:=OZ h (ao 0 v d rfl rfl) (λe j he aq=>ed e j (by grind) aq) af;obtain⟨iw,bX,hlen,an⟩:=V5 h vs ds (by grind) (λi v d ab aa=>ao (i+1) v d (by grind) (by grind)) (λe j he aq=>ed e j (by grind) aq) af
  grind
theorem V6{x:Value}{d:ak}{Q:ak->Prop}(h:cd aD ba n os s a w)(ao:bg (bh aD os) os w x d)(ed:∀e j,e∈gX [d]->nh e=some j->j∈J)(af:uC s.loc d Q):∃ck,Q ck/\b7 (mc aD os J) w x ck:=by
 by_cases aa:∃cs,d= .agg cs
 ·obtain⟨cs,rfl⟩:=aa;obtain⟨vs,rfl,hlen,br,an⟩:=ao.xl;obtain⟨iw,bX,gM,iN⟩:=V5 h vs cs hlen an (λe j he aq=>ed e j (by
   simp only[gX,jQ];exact he) aq) af
  exact⟨_,bX,.agg gM br iN⟩
 by_cases cI:∃ds,d= .be ds
 ·obtain⟨ds,rfl⟩:=cI;have af:match ds.any mY with
   |false=>Q (.be ds)
   |true=>False:=af
  cases aV:ds.any mY with
  |false=>
   rw[aV]at af;exact⟨_,af,(ao.Vi aV).cA (dy.ic (λ_=>xw))⟩
  |true=>
   grind
 ·have h1:uC s.loc d Q=ot s.loc d Q:=by cases d<;>first|rfl|exact absurd ⟨_,rfl⟩ aa|exact absurd ⟨_,rfl⟩ cI
  rw[h1]at af;have ad:gX [d]=nx d:=by cases d<;>first|exact absurd ⟨_,rfl⟩ aa|simp[gX]
  exact OZ h ao (λe j he aq=>ed e j (by grind) aq) af
theorem J7(d:ak)(r:List ak):gX (d::r)=gX [d]++gX r:=by
 cases d<;>simp[gX]
theorem Gf{J:List Nat}(h:cd aD ba n os s a w):∀ (vs:List Value) (ds:List ak) {Q:List ak->Prop},vs.length=ds.length->(∀ (i:Nat) v d,vs[i]?=some v->ds[i]?=some d->bg (bh aD os) os w v d)->(∀e j,e∈gX ds->nh e=some j->j∈J)->th s.loc ds Q->
  ∃iw,Q iw/\sl (mc aD os J) w vs iw
 | [],[],Q,_,_,_,af=>⟨[],af,aj⟩
 | [],_::_,Q,h1,_,_,_=>by grind
 |_::_,[],Q,h1,_,_,_=>by grind
 |v::vs,d::ds,Q,h1,ao,ed,af=>by
  obtain⟨ck,af,hi⟩:=V6 h (ao 0 v d rfl rfl) (λe j he aq=>ed e j (by rw[J7];grind) aq) af;obtain⟨iw,bX,an⟩:=Gf h vs ds (by grind) (λi v d ab aa=>ao (i+1) v d (by grind) (by grind)) (λe j he aq=>ed e j (by rw[J7];grind) aq) af;exact⟨ck::iw,bX,hi,an⟩
theorem b7.le{d ck:ak}(aa:hQ d ck)(h:b7 A w x d):b7 A w x ck:=by
 induction aa generalizing x with
 |refl=>exact h
 | @nil ay mB f lJ au=>
  cases h with
  |av xs aV al az J8 cC ai ac br dD ag=>exact .av xs aV al az (λe=>J8 (au e)) (by simp) (λh=>absurd rfl h) (λh=>absurd rfl h) br (by simp) (by simp)
  |nil=>exact .nil
 |ar=>cases h;exact .nil
 |av=>
  cases h with
  |av xs aV al az J8 cC ai ac br dD ag=>exact .av xs aV al az (by simp) cC ai ac br dD ag
  |nil=>exact .nil
 | @jS ay es fK f af ao bw a1=>
  cases h with
  |av xs aV al az J8 cC ai ac br dD ag=>
   have get:∀ {i:Nat} {eY:List ak},fK[i]?=some eY->∃r,es[i]?=some r/\r.length=eY.length:=λ{i eY} h=>by
    grind
   have lP:fK≠ []->es≠ []:=λh e=>by grind
   refine .av xs (by omega) al az J8 (λe he=> ?_) (λh=>ai (lP h)) (λh=>ac (lP h)) br (λi j e d he aa=> ?_) (λi j e d he aa=> ?_)
   ·obtain⟨i,hi,rfl⟩:=fv he;obtain⟨r,h1,ad⟩:=get (eN hi)
    grind
   all_goals grind
  |nil=>
   have:fK=[]:=ut.1 (by grind);subst this;exact .nil
 | @agg cs ds af bw a1=>
  cases h with
  |agg hK br an=>
   refine .agg (hK.trans af) br (λi v d ab aa=> ?_)
   grind
 | @be cs ds af bw a1=>
  cases h with
  |be hK an=>
   refine .be (hK.trans af) (λi v d ab aa=> ?_)
   grind
 |aY=>exact .aY
theorem sl.le:∀ {vs:List Value} {ds iw:List ak},m4 ds iw->sl A w vs ds->sl A w vs iw
 | [],[],[],_,_=>trivial
 | [],[],_::_,h,_=>h.elim
 | [],_::_,_,_,h=>h.elim
 |_::_,[],_,_,h=>h.elim
 |v::vs,d::ds,[],h,_=>h.elim
 |v::vs,d::ds,e::es,h,hi=>⟨hi.1.le h.1,sl.le h.2 hi.2⟩
theorem V7{d:ak}(ae:xf d=true)(h:b7 A w x d):b7 dz w x d:=by
 have eE:∀ {x:Value} {d:ak},FG d=true->b7 A w x d->b7 dz w x d:=by
  intro x d ae h;cases d<;>simp[FG]at ae
  cases h with
  |v h=>exact .v h
 have agg:∀ {x:Value} {cs:List ak},cs.all FG=true->b7 A w x (.agg cs)->b7 dz w x (.agg cs):=by
  intro x cs ae h;cases h with
  |agg af br an=>exact .agg af br (λi v d ab aa=>eE (nv.1 ae d (fq aa)) (an i v d ab aa))
 cases d<;>simp only[xf,s6]at ae
 ·cases h with
  |v h=>exact .v h
 ·grind
 ·cases h with
  |be af an=>
   refine .be af (λi v d ab aa=> ?_);have:=nv.1 ae d (fq aa);have hi:=an i v d ab aa;cases d<;>simp at this
   ·cases hi with
    |v h=>exact .v h
   grind
end
end Go.Lift
