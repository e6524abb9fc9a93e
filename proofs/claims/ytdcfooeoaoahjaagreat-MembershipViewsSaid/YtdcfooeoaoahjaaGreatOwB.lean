/- The laws of this seat, part OwB: contracts of the functions, plain laws. No conditions. -/
import Derived.Test.YtdcfooeoaoahjaaGreatOwA
import Derived.Test.YtdcfooeoaoahjaaGreatLfC
set_option linter.unusedSimpArgs false
set_option linter.unusedVariables false
set_option maxRecDepth 100000
set_option maxHeartbeats 16000000
namespace Go.Proofs.YtdcfooeoaoahjaaGreat
open Go.Lift
theorem Kr(v:aQ)(ac:v.mem.length<=500000)(l:List cv)(af:l.length<=maxLen)(al:∀r∈l,r.cut.length<=500000):bg Tryz.prog 114 [.agg (bN v),.aq 2 (l.map dh) false] (.v (.bool (fD v l))):=by
 have fG:l.length<=9223372036854775807:=af;have h1:v.mem.length<=maxLen:=Nat.le_trans ac (by decide);refine bw Tryz.func114 ?_;repeat' ((conv=>whnf);first| (refine be ?_ ?_<;>intro h)|refine .inl ⟨_,_,aD _,n3 _ h1,?_⟩|fail)
 ·refine eK ?_;have h:bX v=false:=by simpa using h
  simp[fD,h]
 ·have tL:bX v=true:=by simpa using h
  clear h;conv=>whnf
  refine⟨Nat,fun i=>⟨[(1,.aq 2 (l.map dh) false),(2,.aP 0 0),(10,.aq 2 (l.map dh) false),(11,i64 (l.map dh).length),(12,i64 i)],[.cells 24 (bN v)]⟩,fun i=>i<=l.length/\∀j,j<i->xd v l j=true,fun i=>l.length-i,[],⟨0,⟨Nat.zero_le _,by omega⟩,?_⟩,?_⟩
  ·exact⟨by repeat' ((conv=>whnf);first|exact trivial|refine And.intro (by(conv=>arg 1;whnf);first| (with_reducible exact .refl)|exact aV (bH (by omega))|exact .refl) ?_|fail),by repeat' ((conv=>whnf);first|exact trivial|refine And.intro ?_ ?_|exact .refl|fail),rfl⟩
  ·intro i ⟨ab,bQ⟩;repeat' ((conv=>whnf);first| (refine be ?_ ?_<;>intro h)|fail)
   ·have ap:i<l.length:=by simpa using h
    clear h;have ax:l.getD i gP=l[i]:=by simp[ap]
    have Ks:=RK v ac (l[i].cut) (al _ (List.getElem_mem ap));have bY:xd v l i= !(!bR v.mem l[i].mem||decide (0<(i:Int))&&decide (l[i].mem<=(l.getD (i-1) gP).mem)|| !eM v l[i].cut):=by rw[xd,ax]
    have au:0<i->(IntKind.i64.wrap ((i:Int)-1))=((i-1:Nat):Int)/\(l.map dh)[i-1]?=some (dh (l.getD (i-1) gP)):=by
     intro aH;refine⟨by rw[dC (by omega) (by omega)];omega,?_⟩;have:i-1<l.length:=by omega
     simp[this]
    repeat' ((conv=>whnf);first|refine bc ?_| (refine be ?_ ?_<;>intro h)|refine And.intro (by kernel_rfl) ?_|refine And.intro ⟨fun h=>h,fun h=>h⟩ ?_|refine⟨_,_,And.intro ⟨rfl,cE ap⟩ ?_⟩|refine .inl ⟨_,_,aD _,hp _ h1 _,?_⟩|refine⟨_,_,aD _,fun _=>Ks,?_⟩|refine⟨i-1,dh (l.getD (i-1) gP),And.intro ⟨⟨fun h=>h,fun h=>h⟩,fun ax=>au (by have:=((Bool.and_eq_true ..).mp ax).2<;>simpa using this)⟩ ?_⟩|fail)
    all_goals(conv=>whnf)
    ·refine eK ?_;have:xd v l i=false:=by rw[bY,h];rfl
     rw[fD,pB ap this,Bool.and_false]
    ·refine⟨i+1,⟨ap,fun j ai=> ?_⟩,by simp only[];omega,?_⟩
     ·rcases Nat.lt_succ_iff_lt_or_eq.1 ai with ai|rfl
      ·exact bQ j ai
      ·rw[bY,h];rfl
     ·exact⟨by repeat' ((conv=>whnf);first|exact trivial|refine And.intro (by(conv=>arg 1;whnf);first| (with_reducible exact .refl)|exact aV (bH (by omega))|exact .refl) ?_|fail),by repeat' ((conv=>whnf);first|exact trivial|refine And.intro ?_ ?_|exact .refl|fail),rfl⟩
   ·have dB:¬i<l.length:=by simpa using h
    conv=>whnf
    refine eK ?_;rw[fD,tL,gB.2 (fun j ai=>bQ j (by omega))];rfl
def fE(l:List cv)(x:Int):List Int×Bool:=bif decide (0<=iz l x)then((l.getD (iz l x).toNat gP).cut,true)else([],false)
theorem acw{l:List cv}{x:Int}{i:Nat}(ap:i<l.length)(h:decide (l[i].mem=x)=true)(bQ:∀j,j<i->decide ((l.getD j gP).mem=x)=false):fE l x=(l[i].cut,true):=by
 have e:iz l x=(i:Int):=sq ap (by simpa[ap]using h) bQ;have aG:decide (0<=(i:Int))=true:=by simp
 simp only[fE,e,aG,cond_true,Int.toNat_natCast];simp[ap]
theorem acx{l:List cv}{x:Int}(bQ:∀j,j<l.length->decide ((l.getD j gP).mem=x)=false):fE l x=([],false):=by
 have e:iz l x= -1:=qo bQ;simp only[fE,e];rfl
theorem Kt(l:List cv)(af:l.length<=maxLen)(x:Int):bg Tryz.prog 115 [.aq 2 (l.map dh) false,.v (.int .i64 x)] (.a1 [.aq 1 ((fE l x).1.map aM) false,.v (.bool (fE l x).2)]):=by
 have fG:l.length<=9223372036854775807:=af;refine bw Tryz.func115 ?_;repeat' ((conv=>whnf);first|refine bc ?_|fail)
 refine⟨Nat,fun i=>⟨[(1,.v (.int .i64 x)),(8,.aq 2 (l.map dh) false),(9,i64 (l.map dh).length),(10,i64 i)],[]⟩,fun i=>i<=l.length/\∀j,j<i->decide ((l.getD j gP).mem=x)=false,fun i=>l.length-i,[],⟨0,⟨Nat.zero_le _,by omega⟩,?_⟩,?_⟩
 ·exact⟨by repeat' ((conv=>whnf);first|exact trivial|refine And.intro (by(conv=>arg 1;whnf);first| (with_reducible exact .refl)|exact aV (bH (by omega))|exact .refl) ?_|fail),by repeat' ((conv=>whnf);first|exact trivial|fail),rfl⟩
 ·intro i ⟨ab,bQ⟩;repeat' ((conv=>whnf);first| (refine be ?_ ?_<;>intro h)|fail)
  ·have ap:i<l.length:=by simpa using h
   clear h;repeat' ((conv=>whnf);first| (refine be ?_ ?_<;>intro h)|refine⟨_,_,And.intro ⟨rfl,cE ap⟩ ?_⟩|fail)
   all_goals(conv=>whnf)
   ·rw[acw ap h bQ];exact .refl
   ·have ad:=h;refine⟨i+1,⟨ap,fun j ai=> ?_⟩,by simp only[];omega,?_⟩
    ·rcases Nat.lt_succ_iff_lt_or_eq.1 ai with ai|rfl
     ·exact bQ j ai
     ·simpa[ap]using ad
    ·exact⟨by repeat' ((conv=>whnf);first|exact trivial|refine And.intro (by(conv=>arg 1;whnf);first| (with_reducible exact .refl)|exact aV (bH (by omega))|exact .refl) ?_|fail),by repeat' ((conv=>whnf);first|exact trivial|fail),rfl⟩
  ·have dB:¬i<l.length:=by simpa using h
   conv=>whnf
   rw[acx (fun j ai=>bQ j (by omega))];exact dI ⟨.ar,.r,trivial⟩
theorem zq{α:Type} [DecidableEq α]:∀ {a b:List α},a.Nodup->(∀x∈a,x∈b)->a.length<=b.length
 | [],_,_,_=>Nat.zero_le _
 |x::a,b,aS,ag=>by
  rw[List.nodup_cons]at aS;have an:=ag x (List.mem_cons_self ..);have:=zq (b:=b.erase x) aS.2 (fun y bt=>(List.mem_erase_of_ne (fun e=>aS.1 (by rw[<-e];exact bt))).2 (ag y (List.mem_cons_of_mem _ bt)));rw[List.length_erase_of_mem an]at this;have:=List.length_pos_of_mem an;simp only[List.length_cons];omega
theorem Ku{β:Type}{p q:β->Bool}(h:∀x,p x=true->q x=true->False):∀l:List β,(l.filter p).length+(l.filter q).length<=l.length
 | []=>Nat.le_refl _
 |x::l=>by
  have aN:=Ku h l;have an:=h x;rw[List.filter_cons,List.filter_cons];cases au:p x<;>cases bF:q x<;>simp_all<;>omega
theorem tV{v:aQ}(ac:bX v=true):1<=v.mem.length/\v.mem.length<=16:=by
 have fj:c9 v.mem 16=true:=by
  simp only[bX,Bool.and_eq_true]at ac;exact ac.2
 rw[y7]at fj;simp only[Bool.and_eq_true,decide_eq_true_eq]at fj;omega
theorem RP{v:aQ}(ac:bX v=true): (!(decide (1<=(v.mem.length:Int))&&decide ((v.mem.length:Int)<=16)))=false:=by
 have aS:=tV ac;rw[decide_eq_true (by omega),decide_eq_true (by omega)];rfl
theorem RQ{v:aQ}(ac:bX v=true):fI v.mem.length=((v.mem.length/2+1:Nat):Int):=by
 have aS:=tV ac;unfold fI;rw[RP ac];show IntKind.i64.wrap _=_;have h1: (v.mem.length:Int).tdiv 2=((v.mem.length/2:Nat):Int):=rfl;rw[h1,dC (n:=((v.mem.length/2:Nat):Int)) (by omega) (by omega),dC (by omega) (by omega)];omega
theorem Kv{v:aQ}(ac:bX v=true):oV v.mem.length=((v.mem.length- (v.mem.length-1)/4:Nat):Int):=by
 have aS:=tV ac;unfold oV;rw[RP ac];show IntKind.i64.wrap _=_;rw[dC (n:=(v.mem.length:Int)-1) (by omega) (by omega)];have h1: ((v.mem.length:Int)-1).tdiv 4=(((v.mem.length-1)/4:Nat):Int):=by
  have: (v.mem.length:Int)-1=((v.mem.length-1:Nat):Int):=by omega
  rw[this];rfl
 rw[h1,dC (n:=(((v.mem.length-1)/4:Nat):Int)) (by omega) (by omega),dC (by omega) (by omega)];omega
theorem zr{l:List Int}{x:Int}(h:bR l x=true):x∈l:=by
 rcases aI: (List.range l.length).find? (fun i=>decide (l[i]?=some x))with _|n
 ·simp only[bR,ks,jv,aI]at h;cases h
 ·have au:=List.find?_some aI;simp only[decide_eq_true_eq]at au;exact List.mem_of_getElem? au
theorem Kw{v:aQ}(ac:bX v=true){x:Int}(h:bR v.mem x=true):1<=x/\x<=1000:=by
 have fj:c9 v.mem 16=true:=by
  simp only[bX,Bool.and_eq_true]at ac;exact ac.2
 rw[y7]at fj;simp only[Bool.and_eq_true]at fj;have ao:=E4.1 fj.2;obtain⟨i,ab,rfl⟩:=List.getElem_of_mem (zr h);exact⟨(ao i ab).1,(ao i ab).2.1⟩
theorem Kx{v:aQ}{l:List cv}(h:fD v l=true):l.length<=v.mem.length:=by
 have ac:bX v=true:=by
  simp only[fD,Bool.and_eq_true]at h;exact h.1
 have ae:=(rz ac).1 h;have:=zq (a:=l.map (·.mem)) (b:=v.mem) (by
  refine List.Pairwise.map _ (fun a b l2=> ?_) ae.2;exact Int.ne_of_lt l2) (fun x an=>by
  obtain⟨b,fq,rfl⟩:=List.mem_map.1 an;exact zr (ae.1 b fq).1)
 simpa using this
def k6(l:List cv):Nat->List Int×Int
 |0=>([],0)
 |i+1=>bif decide ((k6 l i).2<(gp l (l.getD i gP).cut:Int))then((l.getD i gP).cut,(gp l (l.getD i gP).cut:Int))else k6 l i
theorem Ky(l:List cv):∀i j,j<i->(gp l (l.getD j gP).cut:Int)<=(k6 l i).2
 |i+1,j,h=>by
  unfold k6;by_cases aa: (k6 l i).2<(gp l (l.getD i gP).cut:Int)
  ·rw[decide_eq_true aa,cond_true];rcases Nat.lt_succ_iff_lt_or_eq.1 h with h|rfl
   ·have:=Ky l i j h;simp only;omega
   ·exact Int.le_refl _
  ·rw[decide_eq_false aa,cond_false];rcases Nat.lt_succ_iff_lt_or_eq.1 h with h|rfl
   ·exact Ky l i j h
   ·omega
theorem Kz(l:List cv):∀i,k6 l i=([],0)\/∃j,j<i/\k6 l i=((l.getD j gP).cut,(gp l (l.getD j gP).cut:Int))
 |0=>.inl rfl
 |i+1=>by
  unfold k6;by_cases aa: (k6 l i).2<(gp l (l.getD i gP).cut:Int)
  ·rw[decide_eq_true aa,cond_true];exact .inr ⟨i,Nat.lt_succ_self _,rfl⟩
  ·rw[decide_eq_false aa,cond_false];rcases Kz l i with h| ⟨j,h1,ad⟩
   ·exact .inl h
   ·exact .inr ⟨j,by omega,ad⟩
theorem acy{l:List cv}{c d:List Int}(h:c≠d):gp l c+gp l d<=l.length:=
 Ku (fun x h1 ad=>h ((va.1 h1).symm.trans (va.1 ad))) l
theorem acz{v:aQ}{l:List cv}(h:decide ((k6 l l.length).2<oV v.mem.length)=true):iA v l=([],false):=by
 unfold iA;cases ae:fD v l
 ·rfl
 ·have aS:l.find? (fun b=>decide (oV v.mem.length<=(gp l b.cut:Int)))=none:=List.find?_eq_none.2 (fun b ae=>by
   obtain⟨j,ai,rfl⟩:=List.getElem_of_mem ae;have:=Ky l l.length j ai;have ax:l.getD j gP=l[j]:=by simp[ai]
   rw[ax]at this;have:=of_decide_eq_true h;simp only[decide_eq_true_eq];omega)
  rw[aS];rfl
theorem acA{v:aQ}{l:List cv}(ae:fD v l=true)(h:decide ((k6 l l.length).2<oV v.mem.length)=false):iA v l=((k6 l l.length).1,true):=by
 have ac:bX v=true:=by
  simp only[fD,Bool.and_eq_true]at ae;exact ae.1
 have af:=Kx ae;have aS:=tV ac;have aI:=Kv ac;have h:=of_decide_eq_false h;rcases Kz l l.length with e| ⟨j,ai,e⟩
 ·rw[e]at h;simp only at h;omega
 ·rw[e]at h⊢;simp only at h⊢;have ax:l.getD j gP=l[j]:=by simp[ai]
  rw[ax]at h⊢;unfold iA;rw[ae];cases xe:l.find? (fun b=>decide (oV v.mem.length<=(gp l b.cut:Int)))with
  |none=>
   have:=List.find?_eq_none.1 xe _ (List.getElem_mem ai);simp only[decide_eq_true_eq]at this;omega
  |some b=>
   have au:=List.find?_some xe;simp only[decide_eq_true_eq]at au;have:b.cut=l[j].cut:=Classical.byContradiction fun bx=>by
    have:=acy (l:=l) bx;omega
   simp only[Bool.not_true,cond_false,this]
theorem acB{l:List cv}{N:Nat}(al:∀b∈l,b.cut.length<=N): (k6 l l.length).1.length<=N:=by
 rcases Kz l l.length with e| ⟨j,ai,e⟩
 ·rw[e];exact Nat.zero_le _
 ·rw[e];have ax:l.getD j gP=l[j]:=by simp[ai]
  rw[ax];exact al _ (List.getElem_mem ai)
theorem acC(l:List cv)(af:l.length<=500000)(al:∀b∈l,b.cut.length<=1000000):bg Tryz.prog 229 [.aq 2 (l.map dh) false] (.a1 [.aq 1 ((k6 l l.length).1.map aM) false,i64 (k6 l l.length).2]):=by
 have fG:l.length<=9223372036854775807:=by omega
 have gi:=acB al;refine bw Tryz.func229 ?_;repeat' ((conv=>whnf);first|refine bc ?_|fail)
 refine⟨Nat,fun i=>⟨[(0,.aq 2 (l.map dh) false),(2,.aq 1 ((k6 l i).1.map aM) false),(3,i64 (k6 l i).2),(7,i64 (l.map dh).length),(8,i64 i)],[]⟩,fun i=>i<=l.length,fun i=>l.length-i,[],⟨0,Nat.zero_le _,?_⟩,?_⟩
 ·conv=>whnf
  exact⟨⟨.r,.ar,.r,.r,.r,trivial⟩,trivial,rfl⟩
 ·intro i ab;repeat' ((conv=>whnf);first| (refine be ?_ ?_<;>intro h)|fail)
  ·have ap:i<l.length:=by simpa using h
   clear h;have ax:l.getD i gP=l[i]:=by simp[ap]
   have acD:=Ry l af (fun b ae=>Nat.le_trans (al b ae) (by decide)) l[i].cut;have ag:k6 l (i+1)=bif decide ((k6 l i).2<(gp l l[i].cut:Int))then(l[i].cut,(gp l l[i].cut:Int))else k6 l i:=by
    rw[<-ax];rfl
   repeat' ((conv=>whnf);first| (refine be ?_ ?_<;>intro h)|refine⟨_,_,And.intro ⟨rfl,cE ap⟩ ?_⟩|refine .inl ⟨_,_,aD _,acD,?_⟩|fail)
   all_goals(conv=>whnf)
   ·refine⟨i+1,ap,by simp only[];omega,?_⟩;conv=>whnf
    rw[h,cond_true]at ag;refine⟨⟨.r,hT (by rw[ag]),aV (by rw[ag]),.r,aV (bH (by omega)),trivial⟩,trivial,rfl⟩
   ·refine⟨i+1,ap,by simp only[];omega,?_⟩;conv=>whnf
    rw[h,cond_false]at ag;refine⟨⟨.r,hT (by rw[ag]),aV (by rw[ag]),.r,aV (bH (by omega)),trivial⟩,trivial,rfl⟩
  ·have dB:¬i<l.length:=by simpa using h
   have:i=l.length:=by omega
   subst this;clear h;repeat' ((conv=>whnf);first|exact .refl|refine .inl ⟨_,_,aD _,mw _ gi,?_⟩|fail)
theorem RR(v:aQ)(ac:v.mem.length<=500000)(l:List cv)(af:l.length<=500000)(al:∀b∈l,b.cut.length<=500000):bg Tryz.prog 198 [.agg (bN v),.aq 2 (l.map dh) false] (.a1 [.aq 1 ((iA v l).1.map aM) false,.v (.bool (iA v l).2)]):=by
 have fG:l.length<=maxLen:=by simp only[maxLen];omega
 have KA:=Kr v ac l fG al;have acE:=acC l af (fun b ae=>Nat.le_trans (al b ae) (by omega));have acF:=Rx (v.mem.length:Int);have aY:fD v l=false->iA v l=([],false):=fun h=>by
  unfold iA;rw[h];rfl
 have eJ:= @acz v l;have kr:= @acA v l;generalize iA v l=W at *;generalize k6 l l.length=X at *;generalize oV v.mem.length=F at *;have acG:bg Tryz.prog 230 [i64 ((v.mem.map aM).length:Int)] (i64 F):=by
  rw[List.length_map];exact acF
 refine bw Tryz.func198 ?_;repeat' ((conv=>whnf);first| (refine be ?_ ?_<;>intro h)|refine .inl ⟨_,_,aD _,KA,?_⟩|refine .inl ⟨_,_,aD _,acE,?_⟩|refine .inl ⟨_,_,aD _,acG,?_⟩|fail)
 all_goals(conv=>whnf)
 ·rw[aY (by simpa using h)];exact dI ⟨.ar,.r,trivial⟩
 ·rw[eJ h];exact dI ⟨.ar,.r,trivial⟩
 ·rename_i ae;rw[kr (by simpa using ae) h];exact .refl
theorem acH(l:List cv)(af:l.length<=1000000):b0 Tryz.prog 192 [] [.aq 2 (l.map dh) false] [] [.row 201 2 (l.map dh)] (.own 0):=by
 refine hd Tryz.func192 ?_;repeat' ((conv=>whnf);first|refine bc ?_|fail)
 refine And.intro (fun kn=> ?_) ?_
 ·repeat' ((conv=>whnf);first|refine bc ?_|fail)
  all_goals(conv=>whnf)
  refine⟨[.fS 2 201 2],?_⟩;conv=>whnf
  rw[kn];exact⟨.r,⟨.r,trivial⟩,by rfl⟩
 ·repeat' ((conv=>whnf);first|refine bc ?_|fail)
  all_goals(conv=>whnf)
  refine And.intro (zn (by simp;omega)) ?_;repeat' ((conv=>whnf);first|refine bc ?_|fail)
  all_goals(conv=>whnf)
  refine⟨[],?_⟩;conv=>whnf
  exact⟨.r,⟨.r,trivial⟩,by rfl⟩
theorem acI{v:aQ}{l:List cv}{b:cv}(aH: (!fD v l|| !eM v b.cut)=false)(h1: (!bR v.mem b.mem)=false){x:cv}(an:x∈l)(he:x.mem=b.mem):gQ v l b=([],7):=by
 have:decide (0<=iz l b.mem)=true:=by
  cases h:decide (0<=iz l b.mem)
  ·exact absurd he (Kq h x an)
  ·rfl
 simp only[gQ,aH,h1,this,cond_true,cond_false]
theorem acJ{v:aQ}{l:List cv}{b:cv}(aH: (!fD v l|| !eM v b.cut)=false)(h1: (!bR v.mem b.mem)=false)(aS:∀x∈l,x.mem≠b.mem):gQ v l b=(hr l b,0):=by
 have:decide (0<=iz l b.mem)=false:=by
  cases h:decide (0<=iz l b.mem)
  ·rfl
  ·obtain⟨x,an,he⟩:=RO h;exact absurd he (aS x an)
 simp only[gQ,aH,h1,this,cond_false]
def tW(l:List cv)(b:cv)(i:Nat):List cv:=if i<=l.length then mz l b i else hr l b
theorem acK(l:List cv)(b:cv)(i:Nat)(h:i<=l.length+1): (tW l b i).length<=i+1:=by
 unfold tW;split
 ·exact acm l b i
 ·have:=RM l b;omega
def xf:List aj:=[i64 1001,.ar]
theorem RS(v:aQ)(ac:v.mem.length<=400000)(l:List cv)(af:l.length<=400000)(al:∀b∈l,b.cut.length<=400000)(b:cv)(ae:b.cut.length<=400000):bg Tryz.prog 149 [.agg (bN v),.aq 2 (l.map dh) false,.agg (dh b)] (.a1 [.aq 2 ((gQ v l b).1.map dh) false,i64 (gQ v l b).2]):=by
 have fG:l.length<=maxLen:=by simp only[maxLen];omega
 have h1:v.mem.length<=maxLen:=by simp only[maxLen];omega
 have KA:=Kr v (by omega) l fG (fun b ae=>Nat.le_trans (al b ae) (by omega));have Ks:=RK v (by omega) b.cut (by omega);refine bw Tryz.func149 ?_;repeat' ((conv=>whnf);first|refine bc ?_| (refine be ?_ ?_<;>intro h)|refine And.intro ⟨fun h=>h,fun h=>h⟩ ?_|refine .inl ⟨_,_,aD _,KA,?_⟩|refine⟨_,_,aD _,fun _=>Ks,?_⟩|refine .inl ⟨_,_,aD _,hp _ h1 _,?_⟩|refine .inr ⟨[],[],_,[],_,_,acH l (by omega),by rfl,trivial,⟨.r,trivial⟩,?_⟩|refine And.intro (zn (by simp<;>omega)) ?_|fail)
 all_goals(conv=>whnf)
 ·simp only[gQ,h,cond_true];exact dI ⟨.ar,.r,trivial⟩
 ·rename_i aH;simp only[gQ,aH,h,cond_true,cond_false];exact dI ⟨.ar,.r,trivial⟩
 ·rename_i aH;have ad:=h;clear h;have uV:fD v l=true/\bX v=true/\bR v.mem b.mem=true:=by
   have aC:fD v l=true:=by
    cases ae:fD v l
    ·rw[ae]at aH;cases aH
    ·rfl
   refine⟨aC,?_,by simpa using ad⟩;simp only[fD,Bool.and_eq_true]at aC;exact aC.1
  have Fl:=Kw uV.2.1 uV.2.2;have mS:=((rz uV.2.1).1 uV.1).1;refine⟨Nat,fun i=>⟨[(5,.aP 1 0),(8,.own 4),(9,.v (.bool (decide (eN l b.mem<i)))),(35,.own 2),(36,i64 ((l.length+1:Nat):Int)),(37,i64 i)],[.cells 24 (bN v),.cells 201 (dh b),.row 201 2 (l.map dh++ [xf]),.bd,.row 201 2 ((tW l b i).map dh)]⟩,fun i=>i<=l.length+1/\∀j (ai:j<l.length),j<i->l[j].mem≠b.mem,fun i=>l.length+1-i,[.fS 8 201 2],⟨0,⟨Nat.zero_le _,fun j ai h=>absurd h (Nat.not_lt_zero _)⟩,?_⟩,?_⟩
  ·conv=>whnf
   refine⟨⟨.r,.r,.r,.r,aV (by simp),.r,trivial⟩,⟨.r,.r,.r,.bd,ch ?_,trivial⟩,by rfl⟩;simp[tW,mz]
  ·intro i ⟨ab,bQ⟩;have j6:=acK l b i ab;have akl: (l.map dh++ [xf]).length=l.length+1:=by simp
   conv=>whnf
   refine be ?_ ?_<;>intro h
   ·have akm:i<l.length+1:=by
     have:=of_decide_eq_true h;omega
    clear h;have KB:i<(l.map dh++ [xf]).length:=by omega
    rcases Nat.lt_or_ge i l.length with ap|dB
    ·have hU: (l.map dh++ [xf])[i]?=some (dh l[i]):=by
      rw[List.getElem?_append_left (by simpa using ap)];exact cE ap
     have E7:=mS _ (List.getElem_mem ap);have KC:=Kw uV.2.1 E7.1;have tj:=al _ (List.getElem_mem ap);have hQ:tW l b (i+1)=mz l b (i+1):=if_pos (by omega);have wK:tW l b i=mz l b i:=if_pos (by omega);have FB:= @acp l b i ap;have vp:= @acq l b i ap;have RT:= @acn l b i ap;have RU:= @aco l b i ap;have ss:= @acu l b i;have RV:=fun h=>acI aH ad (List.getElem_mem ap) h;obtain⟨x,lM⟩:∃x,l[i]=x:=⟨_,rfl⟩
     rw[lM]at hU E7 KC tj FB vp RT RU RV;repeat' ((conv=>whnf);first|refine bc ?_| (refine be ?_ ?_<;>intro h)|refine And.intro (by kernel_rfl) ?_|refine And.intro ⟨fun h=>h,fun h=>h⟩ ?_|refine⟨i,And.intro ⟨rfl,KB⟩ ?_⟩|refine⟨dh x,And.intro hU ?_⟩|refine .inl ⟨_,_,aD _,mw b.cut (by omega),?_⟩|refine .inl ⟨_,_,aD _,mw x.cut (by omega),?_⟩|refine And.intro (zn (by simp<;>omega)) ?_|refine Exists.intro false ?_|fail)
     all_goals(conv=>whnf)
     ·rw[RV (of_decide_eq_true h)];exact dI ⟨.ar,.r,trivial⟩
     ·rename_i bx dk;have bx:=of_decide_eq_false bx;have e:=RT (by
       simp only[Bool.and_eq_true,decide_eq_true_eq]at dk⊢;exact⟨dk.1,by omega⟩)
      have FC:true=decide (eN l b.mem<i+1):=by
       rw[decide_eq_true (by omega)]
      refine⟨i+1,⟨by omega,fun j ai hf=> ?_⟩,by simp only[];omega,?_⟩
      ·rcases Nat.lt_succ_iff_lt_or_eq.1 hf with hf|rfl
       ·exact bQ j ai hf
       ·rw[lM];exact bx
      ·conv=>whnf
       refine⟨⟨.r,.r,eK FC,.r,.r,aV (bH (by omega)),trivial⟩,⟨.r,.r,.r,.bd,ch ?_,trivial⟩,by rfl⟩;rw[hQ,<-FB e,wK];simp[dh,cN];all_goals exact⟨rfl,rfl⟩
     ·exact absurd (of_decide_eq_false h) (by omega)
     ·rename_i bx dk;have bx:=of_decide_eq_false bx;have e:=RU (by
       rw[<-dk];congr 1;exact decide_eq_decide.2 ⟨fun h=>by omega,fun h=>by omega⟩)
      refine⟨i+1,⟨by omega,fun j ai hf=> ?_⟩,by simp only[];omega,?_⟩
      ·rcases Nat.lt_succ_iff_lt_or_eq.1 hf with hf|rfl
       ·exact bQ j ai hf
       ·rw[lM];exact bx
      ·conv=>whnf
       refine⟨⟨.r,.r,eK (ss e),.r,.r,aV (bH (by omega)),trivial⟩,⟨.r,.r,.r,.bd,ch ?_,trivial⟩,by rfl⟩;rw[hQ,<-vp e,wK];simp[dh,cN];all_goals exact⟨rfl,rfl⟩
     ·exact absurd (of_decide_eq_false h) (by omega)
    ·have KD:i=l.length:=by omega
     subst KD;have hU: (l.map dh++ [xf])[l.length]?=some xf:=by
      rw[List.getElem?_append_right (by simp)];simp
     have hQ:tW l b (l.length+1)=hr l b:=if_neg (by omega);have wK:tW l b l.length=mz l b l.length:=if_pos (by omega);have FB:= @acr l b;have vp:= @acs l b;have kI:=FA l b.mem;have FC:true=decide (eN l b.mem<l.length+1):=by
      rw[decide_eq_true (by omega)]
     repeat' ((conv=>whnf);first|refine bc ?_| (refine be ?_ ?_<;>intro h)|refine And.intro (by kernel_rfl) ?_|refine And.intro ⟨fun h=>h,fun h=>h⟩ ?_|refine⟨l.length,And.intro ⟨rfl,KB⟩ ?_⟩|refine⟨xf,And.intro hU ?_⟩|refine .inl ⟨_,_,aD _,mw b.cut (by omega),?_⟩|refine And.intro (zn (by simp<;>omega)) ?_|refine Exists.intro false ?_|fail)
     all_goals(conv=>whnf)
     ·have:=of_decide_eq_true h;omega
     ·have dk:=h;have aa:decide (eN l b.mem<l.length)=false:=by
       simp only[Bool.and_eq_true,Bool.not_eq_true']at dk;exact dk.1
      refine⟨l.length+1,⟨Nat.le_refl _,fun j ai hf=>bQ j ai ai⟩,by simp only[];omega,?_⟩;conv=>whnf
      refine⟨⟨.r,.r,eK FC,.r,.r,aV (bH (by omega)),trivial⟩,⟨.r,.r,.r,.bd,ch ?_,trivial⟩,by rfl⟩;rw[hQ,<-vp aa,wK];simp[dh,cN];all_goals exact⟨rfl,rfl⟩
     ·have dk:=h;have aa:decide (eN l b.mem<l.length)=true:=by
       cases aa:decide (eN l b.mem<l.length)
       ·rw[aa,decide_eq_true (show b.mem<1001 by omega)]at dk;cases dk
       ·rfl
      refine⟨l.length+1,⟨Nat.le_refl _,fun j ai hf=>bQ j ai ai⟩,by simp only[];omega,?_⟩;conv=>whnf
      refine⟨⟨.r,.r,eK (aa.trans FC),.r,.r,aV (bH (by omega)),trivial⟩,⟨.r,.r,.r,.bd,ch ?_,trivial⟩,by rfl⟩;rw[hQ,<-FB aa,wK]
   ·have KD:i=l.length+1:=by
     have:=of_decide_eq_false h;omega
    subst KD;clear h;repeat' ((conv=>whnf);first|refine bc ?_|fail)
    all_goals(conv=>whnf)
    have hQ:tW l b (l.length+1)=hr l b:=if_neg (by omega);rw[acJ aH ad (fun x an=>by
     obtain⟨j,ai,rfl⟩:=List.getElem_of_mem an;exact bQ j ai (by omega)),hQ]
    exact .refl
def xg(v:aQ)(l:List cb)(i:Nat):Bool:= !(decide (0<(l.getD i cI).aB)&& !ev v (l.getD i cI).aB)
def vq(m:Int)(l:List cb)(i:Nat):Bool:= !decide ((l.getD i cI).aB<m)
def qF(v:aQ)(l:List cb):Bool:=gA (xg v l) l.length&&fC v l
theorem B3(l:List cb)(af:l.length<=maxLen)(x:Int):bg Tryz.prog 182 [.aq 3 (l.map bG) false,.v (.int .i64 x)] (.v (.int .i64 (dV l x))):=by
 have fG:l.length<=9223372036854775807:=af;refine bw Tryz.func182 ?_;repeat' ((conv=>whnf);first|refine bc ?_|fail)
 refine⟨Nat,fun i=>⟨[(1,.v (.int .i64 x)),(7,.aq 3 (l.map bG) false),(8,i64 (l.map bG).length),(9,i64 i)],[]⟩,fun i=>i<=l.length/\∀j,j<i->decide ((l.getD j cI).mem=x)=false,fun i=>l.length-i,[],⟨0,⟨Nat.zero_le _,by omega⟩,?_⟩,?_⟩
 ·exact⟨by repeat' ((conv=>whnf);first|exact trivial|refine And.intro (by(conv=>arg 1;whnf);first| (with_reducible exact .refl)|exact aV (bH (by omega))|exact .refl) ?_|fail),by repeat' ((conv=>whnf);first|exact trivial|fail),rfl⟩
 ·intro i ⟨ab,bQ⟩;repeat' ((conv=>whnf);first| (refine be ?_ ?_<;>intro h)|fail)
  ·have ap:i<l.length:=by simpa using h
   repeat' ((conv=>whnf);first| (refine be ?_ ?_<;>intro h)|refine⟨_,_,And.intro ⟨rfl,cE ap⟩ ?_⟩|fail)
   ·have ad:=h;refine aV (sq ap ?_ bQ).symm;simpa[ap]using ad
   ·have ad:=h;conv=>whnf
    refine⟨i+1,⟨ap,fun j ai=> ?_⟩,by simp only[];omega,?_⟩
    ·rcases Nat.lt_succ_iff_lt_or_eq.1 ai with ai|rfl
     ·exact bQ j ai
     ·simpa[ap]using ad
    ·exact⟨by repeat' ((conv=>whnf);first|exact trivial|refine And.intro (by(conv=>arg 1;whnf);first| (with_reducible exact .refl)|exact aV (bH (by omega))|exact .refl) ?_|fail),by repeat' ((conv=>whnf);first|exact trivial|fail),rfl⟩
  ·have dB:¬i<l.length:=by simpa using h
   conv=>whnf
   refine aV (qo (fun j ai=>bQ j (by omega))).symm
theorem RW(v:aQ)(ac:v.mem.length<=500000)(l:List cb)(af:l.length<=maxLen)(al:∀r∈l,r.cut.length<=500000):bg Tryz.prog 117 [.agg (bN v),.aq 3 (l.map bG) false] (.v (.bool (qF v l))):=by
 have fG:l.length<=9223372036854775807:=af;have h1:v.mem.length<=maxLen:=Nat.le_trans ac (by decide);refine bw Tryz.func117 ?_;repeat' ((conv=>whnf);first|refine bc ?_|fail)
 refine⟨Nat,fun i=>⟨[(1,.aq 3 (l.map bG) false),(2,.aP 0 0),(7,.aq 3 (l.map bG) false),(8,i64 (l.map bG).length),(9,i64 i)],[.cells 24 (bN v)]⟩,fun i=>i<=l.length/\∀j,j<i->xg v l j=true,fun i=>l.length-i,[],⟨0,⟨Nat.zero_le _,by omega⟩,?_⟩,?_⟩
 ·exact⟨by repeat' ((conv=>whnf);first|exact trivial|refine And.intro (by(conv=>arg 1;whnf);first| (with_reducible exact .refl)|exact aV (bH (by omega))|exact .refl) ?_|fail),by repeat' ((conv=>whnf);first|exact trivial|refine And.intro ?_ ?_|exact .refl|fail),rfl⟩
 ·intro i ⟨ab,bQ⟩;conv=>whnf
  refine be ?_ ?_<;>intro h
  ·have ap:i<l.length:=by simpa using h
   clear h;have ax:l.getD i cI=l[i]:=by simp[ap]
   repeat' ((conv=>whnf);first|refine bc ?_| (refine be ?_ ?_<;>intro h)|refine And.intro ⟨fun h=>h,fun h=>h⟩ ?_|refine⟨_,_,And.intro ⟨rfl,cE ap⟩ ?_⟩|refine⟨_,_,aD _,fun _=>BZ _ h1 _,?_⟩|fail)
   all_goals(conv=>whnf)
   ·refine eK ?_;rw[qF,pB ap (by rw[xg,ax,h];rfl),Bool.false_and]
   ·refine⟨i+1,⟨ap,fun j ai=> ?_⟩,by simp only[];omega,?_⟩
    ·rcases Nat.lt_succ_iff_lt_or_eq.1 ai with ai|rfl
     ·exact bQ j ai
     ·rw[xg,ax,h];rfl
    ·exact⟨by repeat' ((conv=>whnf);first|exact trivial|refine And.intro (by(conv=>arg 1;whnf);first| (with_reducible exact .refl)|exact aV (bH (by omega))|exact .refl) ?_|fail),by repeat' ((conv=>whnf);first|exact trivial|refine And.intro ?_ ?_|exact .refl|fail),rfl⟩
  ·have dB:¬i<l.length:=by simpa using h
   clear h;repeat' ((conv=>whnf);first|refine .inl ⟨_,_,aD _,zm _ ac _ af al,?_⟩|fail)
   all_goals(conv=>whnf)
   all_goals(refine eK ?_)
   all_goals(rw[qF,gB.2 (fun j ai=>bQ j (by omega))])
   all_goals rfl
def tX(s:bj):Bool:=
 bif !decide (s.aB=0)&& (!ev s.view s.aB|| !decide (gC s.aB=s.self))then false
 else bif !(decide (0<(s.ct.length:Int))==decide (s.phase=2))then false
 else bif decide (s.phase=0)then decide ((s.br.length:Int)=0)
 else bif decide (s.phase=1)||decide (s.phase=2)then
  !decide (s.aB=0)&&decide (0<(s.prop.length:Int))&&decide (0<=dV s.br s.self)&& (decide ((s.br.length:Int)<fI s.view.mem.length)||decide (s.phase=2))
 else false
structure dt(s:bj):Prop where
 mem:s.view.mem.length<=1000
 fk:s.aL.cut.length<=1000
 prop:s.prop.length<=1000
 box:s.box.length<=1000
 iB:∀b∈s.box,b.cut.length<=1000
 br:s.br.length<=1000
 j8:∀b∈s.br,b.cut.length<=1000
 ct:s.ct.length<=1000
 aR:s.aR.length<=1000
 ia:∀b∈s.aR,b.cut.length<=1000
 dec:s.dec.length<=1000
theorem dF{n:Nat}(h:n<=1000):n<=maxLen:=by simp only[maxLen];omega
theorem acL(s:bj)(ag:dt s):bg Tryz.prog 118 [.agg (cG s)] (.v (.bool (tX s))):=by
 refine bw Tryz.func118 ?_;repeat' ((conv=>whnf);first|refine bc ?_|refine eC (by assumption) ?_| (refine be ?_ ?_<;>intro h)|refine And.intro (by kernel_rfl) ?_|refine And.intro ⟨fun h=>h,fun h=>h⟩ ?_|refine⟨_,_,aD _,fun _=>BZ _ (dF ag.mem) _,?_⟩|refine⟨_,_,aD _,fun _=>Ft _,?_⟩|refine .inl ⟨_,_,aD _,BU _,?_⟩|refine⟨_,_,aD _,fun _=>B3 _ (dF ag.br) _,?_⟩|fail)
 all_goals(conv=>whnf)
 all_goals(refine eK ?_)
 all_goals(try simp only[List.length_map]at *)
 all_goals(simp only[tX, *,cond_true,cond_false,Bool.true_or,Bool.or_true,Bool.false_or,Bool.or_false,Bool.or_self])
 all_goals(generalize decide (0<(s.ct.length:Int))=q at *)
 all_goals(cases q<;>simp_all)
def eS(s:bj):Bool:=
 bif !bX s.view|| !bR s.view.mem s.self||decide (s.dn<0)||decide (1099511627776<s.dn)then false
 else bif !jC s.aL|| !decide (s.aL.cc=0)&& !ev s.view s.aL.cc||decide (0<s.aL.aB)&& !ev s.view s.aL.aB|| !gO s.view s.aL.cut then false
 else bif !gO s.view s.prop|| !gO s.view s.ct|| !gO s.view s.dec|| !fD s.view s.box then false
 else bif (fE s.box s.self).2&& !fK (fE s.box s.self).1 s.prop then false
 else gA (vq 1 s.aR) s.aR.length&& (qF s.view s.br&&qF s.view s.aR&&tX s)
theorem mA(s:bj)(ag:dt s):bg Tryz.prog 63 [.agg (cG s)] (.v (.bool (eS s))):=by
 have KE:=dF ag.mem;have Er: (fE s.box s.self).1.length<=maxLen:=by
  unfold fE;cases decide (0<=iz s.box s.self)
  ·exact Nat.zero_le _
  ·rcases Nat.lt_or_ge (iz s.box s.self).toNat s.box.length with h|h
   ·simp only[cond_true,List.getD_eq_getElem?_getD,List.getElem?_eq_getElem h,Option.getD_some];exact dF (ag.iB _ (List.getElem_mem h))
   ·simp only[cond_true,List.getD_eq_getElem?_getD,List.getElem?_eq_none h,Option.getD_none];exact Nat.zero_le _
 have az:=Kt s.box (dF ag.box) s.self;have aG:=BC (fE s.box s.self).1 s.prop Er;have a7:=Kr s.view (by have:=ag.mem;omega) s.box (dF ag.box) (fun b ae=>by have:=ag.iB b ae;omega);have b5:=RW s.view (by have:=ag.mem;omega) s.br (dF ag.br) (fun b ae=>by have:=ag.j8 b ae;omega);have du:=RW s.view (by have:=ag.mem;omega) s.aR (dF ag.aR) (fun b ae=>by have:=ag.ia b ae;omega);have iU:=acL s ag;have cQ:=Fz s.view (by have:=ag.mem;omega) s.aL.cut (by have:=ag.fk;omega);have eI:=Fz s.view (by have:=ag.mem;omega) s.prop (by have:=ag.prop;omega);have acM:=Fz s.view (by have:=ag.mem;omega) s.ct (by have:=ag.ct;omega);have P7:=Fz s.view (by have:=ag.mem;omega) s.dec (by have:=ag.dec;omega);have B4:=Fv s.aL (dF ag.fk);have h7:s.aR.length<=1000:=ag.aR;unfold eS;generalize fE s.box s.self=C at *;generalize fD s.view s.box=B1 at *;generalize qF s.view s.br=B2 at *;generalize qF s.view s.aR=J9 at *;generalize tX s=akn at *;generalize jC s.aL=ako at *;generalize gO s.view s.aL.cut=akp at *;refine bw Tryz.func63 ?_;repeat' ((conv=>whnf);first|refine bc ?_| (refine be ?_ ?_<;>intro h)|refine And.intro ⟨fun h=>h,fun h=>h⟩ ?_|refine .inl ⟨_,_,aD _,n3 _ KE,?_⟩|refine⟨_,_,aD _,fun _=>hp _ KE _,?_⟩|refine .inl ⟨_,_,aD _,B4,?_⟩|refine⟨_,_,aD _,fun _=>BZ _ KE _,?_⟩|refine⟨_,_,aD _,fun _=>cQ,?_⟩|refine .inl ⟨_,_,aD _,eI,?_⟩|refine⟨_,_,aD _,fun _=>acM,?_⟩|refine⟨_,_,aD _,fun _=>P7,?_⟩|refine⟨_,_,aD _,fun _=>a7,?_⟩|refine .inl ⟨_,_,aD _,az,?_⟩|refine⟨_,_,aD _,fun _=>aG,?_⟩|fail)
 all_goals(conv=>whnf)
 ·refine eK ?_;simp only[h,cond_true]
 ·rename_i h1;refine eK ?_;simp only[h1,h,cond_true,cond_false]
 ·rename_i h1 ad;refine eK ?_;simp only[h1,ad,h,cond_true,cond_false]
 ·rename_i h1 ad aC;refine eK ?_;simp only[h1,ad,aC,h,cond_true,cond_false]
 ·rename_i h1 ad aC;simp only[h1,ad,aC,h,cond_false];clear h1 ad aC h;refine⟨Nat,fun i=>⟨[(1,.aP 0 0),(3,.aP 1 0),(111,.aq 3 (s.aR.map bG) false),(112,i64 s.aR.length),(113,i64 i)],[.cells 53 (cG s),.cells 24 (bN s.view)]⟩,fun i=>i<=s.aR.length/\∀j,j<i->vq 1 s.aR j=true,fun i=>s.aR.length-i,[],⟨0,⟨Nat.zero_le _,by omega⟩,?_⟩,?_⟩
  ·conv=>whnf
   exact⟨⟨.r,.r,.r,aV (by simp),.r,trivial⟩,⟨.r,.r,trivial⟩,by rfl⟩
  ·intro i ⟨ab,bQ⟩;conv=>whnf
   refine be ?_ ?_<;>intro h
   ·have ap:i<s.aR.length:=by simpa using h
    clear h;have ax:s.aR.getD i cI=s.aR[i]:=by simp[ap]
    repeat' ((conv=>whnf);first| (refine be ?_ ?_<;>intro h)|refine⟨_,_,And.intro ⟨rfl,cE ap⟩ ?_⟩|fail)
    all_goals(conv=>whnf)
    ·refine eK ?_;rw[pB ap (by rw[vq,ax,h];rfl),Bool.false_and]
    ·refine⟨i+1,⟨ap,fun j ai=> ?_⟩,by simp only[];omega,?_⟩
     ·rcases Nat.lt_succ_iff_lt_or_eq.1 ai with ai|rfl
      ·exact bQ j ai
      ·rw[vq,ax,h];rfl
     ·conv=>whnf
      exact⟨⟨.r,.r,.r,.r,aV (bH (by omega)),trivial⟩,⟨.r,.r,trivial⟩,by rfl⟩
   ·have dB:¬i<s.aR.length:=by simpa using h
    clear h;rw[gB.2 (fun j ai=>bQ j (by omega)),Bool.true_and];repeat' ((conv=>whnf);first|refine bc ?_|exact .refl|refine And.intro ⟨fun h=>h,fun h=>h⟩ ?_|refine .inl ⟨_,_,aD _,b5,?_⟩|refine⟨_,_,aD _,fun _=>du,?_⟩|refine⟨_,_,aD _,fun _=>iU,?_⟩|fail)
def z3:List aj:=[i64 0,i64 0,.ar]
def nA:List aj:=[i64 0,.ar]
theorem FD{α:Type}{f:α->List aj}{z:List aj}{l:List α}{i:Nat}(h:i<l.length): ((l.take i).map f++List.replicate (l.length-i) z).set i (f l[i])=(l.take (i+1)).map f++List.replicate (l.length- (i+1)) z:=by
 have af: ((l.take i).map f).length=i:=by simp;omega
 rw[List.set_append_right _ _ (by omega),af,Nat.sub_self];obtain⟨m,aT⟩:∃m,l.length-i=m+1:=⟨l.length-i-1,by omega⟩
 rw[aT,List.replicate_succ,List.set_cons_zero,List.take_succ_eq_append_getElem h,List.map_append,show l.length- (i+1)=m by omega];simp
theorem FE{α:Type}{f:α->List aj}{z:List aj}{l:List α}{i:Nat}(h:i<=l.length): ((l.take i).map f++List.replicate (l.length-i) z).length=l.length:=by
 simp;omega
theorem FF{α:Type}{f:α->List aj}{z:List aj}{l:List α}{i:Nat}(h:i<l.length): ((l.take i).map f++List.replicate (l.length-i) z)[i]?=some z:=by
 have af: ((l.take i).map f).length=i:=by simp;omega
 rw[List.getElem?_append_right (by omega),af,Nat.sub_self];obtain⟨m,aT⟩:∃m,l.length-i=m+1:=⟨l.length-i-1,by omega⟩
 rw[aT];rfl
theorem FG{α:Type}{f:α->List aj}{z:List aj}{l:List α}: (l.take l.length).map f++List.replicate (l.length-l.length) z=l.map f:=by simp
theorem RX{n:Nat}(h:n<=1000000):n* (ay ah 179).bytes<=140737488355328/\n<=maxLen:=by
 have e: (ay ah 179).bytes=40:=by kernel_rfl
 refine⟨?_,?_⟩
 ·rw[e];omega
 ·simp only[maxLen];omega
theorem KF{n:Nat}(h:n<=1000000):n* (ay ah 201).bytes<=140737488355328/\n<=maxLen:=by
 have e: (ay ah 201).bytes=32:=by kernel_rfl
 refine⟨?_,?_⟩
 ·rw[e];omega
 ·simp only[maxLen];omega
theorem RY(l:List cb)(af:l.length<=1000000)(al:∀r∈l,r.cut.length<=1000000):bg Tryz.prog 191 [.aq 3 (l.map bG) false] (.aq 3 (l.map bG) false):=by
 have gx:=RX (n:=(l.map bG).length) (by simp;omega);refine bw Tryz.func191 ?_;repeat' ((conv=>whnf);first|refine⟨(l.map bG).length,(l.map bG).length,rfl,rfl,Nat.le_refl _,gx.1,gx.2,?_⟩|fail)
 all_goals(conv=>whnf)
 refine⟨Nat,fun i=>⟨[(3,.own 0),(9,.aq 3 (l.map bG) false),(10,i64 l.length),(11,i64 i)],[.row 179 3 ((l.take i).map bG++List.replicate (l.length-i) z3)]⟩,fun i=>i<=l.length,fun i=>l.length-i,[],⟨0,Nat.zero_le _,?_⟩,?_⟩
 ·conv=>whnf
  refine⟨⟨.r,.r,aV (by simp),.r,trivial⟩,⟨ch ?_,trivial⟩,by rfl⟩;rw[List.length_map];rfl
 ·intro i ab;conv=>whnf
  refine be ?_ ?_<;>intro h
  ·have ap:i<l.length:=by simpa using h
   clear h;have hlen:=FE (f:=bG) (z:=z3) (l:=l) (i:=i) ab;have eY:i<((l.take i).map bG++List.replicate (l.length-i) z3).length:=by omega
   have b7:=FF (f:=bG) (z:=z3) ap;have jT:=FD (f:=bG) (z:=z3) ap;repeat' ((conv=>whnf);first|refine And.intro (by kernel_rfl) ?_|refine⟨_,_,And.intro ⟨rfl,cE ap⟩ ?_⟩|refine .inl ⟨_,_,aD _,nF _ (al _ (List.getElem_mem ap)),?_⟩|refine⟨i,And.intro ⟨rfl,eY⟩ ?_⟩|refine⟨z3,And.intro b7 ?_⟩|fail)
   all_goals(conv=>whnf)
   refine⟨i+1,ap,by simp only[];omega,?_⟩;conv=>whnf
   refine⟨⟨.r,.r,.r,aV (bH (by omega)),trivial⟩,⟨ch ?_,trivial⟩,by rfl⟩;rw[<-jT];rfl
  ·have dB:¬i<l.length:=by simpa using h
   have:i=l.length:=by omega
   subst this;clear h;rw[FG];repeat' ((conv=>whnf);first|exact .refl|fail)
theorem tY(s:bj)(ag:dt s):bg Tryz.prog 147 [.agg (cG s)] (.agg (cG s)):=by
 have cC:=ag.mem;have cH:=ag.fk;have j3:=ag.prop;have n5:=ag.ct;have B5:=ag.dec;have B6:=ag.br;have B7:∀b∈s.br,b.cut.length<=1000000:=fun b ae=>by have:=ag.j8 b ae;omega
 have B8:=ag.aR;have B9:∀b∈s.aR,b.cut.length<=1000000:=fun b ae=>by have:=ag.ia b ae;omega
 have iO:=ag.box;have gx:=KF (n:=(s.box.map dh).length) (by simp;omega);refine bw Tryz.func147 ?_;repeat' ((conv=>whnf);first|refine And.intro (by kernel_rfl) ?_|refine .inl ⟨_,_,aD _,nF _ (by omega),?_⟩|refine .inl ⟨_,_,aD _,RY _ (by omega) (by assumption),?_⟩|refine⟨(s.box.map dh).length,(s.box.map dh).length,rfl,rfl,Nat.le_refl _,gx.1,gx.2,?_⟩|fail)
 all_goals(conv=>whnf)
 refine⟨Nat,fun i=>⟨[(2,.aP 1 0),(3,.aP 3 0),(54,.aq 2 (s.box.map dh) false),(55,i64 s.box.length),(56,i64 i)],[.cells 53 (cG s),.cells 53 (ay ah 53).zero,.row 201 2 ((s.box.take i).map dh++List.replicate (s.box.length-i) nA),.cells 53 [i64 s.self,i64 s.view.num,.aq 1 (s.view.mem.map aM) false,i64 s.aL.cc,i64 s.aL.aB,.aq 1 (s.aL.cut.map aM) false,.aq 1 (s.prop.map aM) false,.own 2,i64 s.aB,i64 s.phase,.aq 3 (s.br.map bG) false,.aq 1 (s.ct.map aM) false,.aq 3 (s.aR.map bG) false,.aq 1 (s.dec.map aM) false,i64 s.dn]]⟩,fun i=>i<=s.box.length,fun i=>s.box.length-i,[],⟨0,Nat.zero_le _,?_⟩,?_⟩
 ·conv=>whnf
  refine⟨⟨.r,.r,.r,aV (by simp),.r,trivial⟩,⟨.r,.r,ch ?_,.r,trivial⟩,by rfl⟩;rw[List.length_map];rfl
 ·intro i ab;conv=>whnf
  refine be ?_ ?_<;>intro h
  ·have ap:i<s.box.length:=by simpa using h
   clear h;have hlen:=FE (f:=dh) (z:=nA) (l:=s.box) (i:=i) ab;have eY:i<((s.box.take i).map dh++List.replicate (s.box.length-i) nA).length:=by omega
   have b7:=FF (f:=dh) (z:=nA) ap;have jT:=FD (f:=dh) (z:=nA) ap;have BV:=ag.iB _ (List.getElem_mem ap);repeat' ((conv=>whnf);first|refine And.intro (by kernel_rfl) ?_|refine⟨_,_,And.intro ⟨rfl,cE ap⟩ ?_⟩|refine .inl ⟨_,_,aD _,nF _ (by omega),?_⟩|refine⟨i,And.intro ⟨rfl,eY⟩ ?_⟩|refine⟨nA,And.intro b7 ?_⟩|fail)
   all_goals(conv=>whnf)
   refine⟨i+1,ap,by simp only[];omega,?_⟩;conv=>whnf
   refine⟨⟨.r,.r,.r,.r,aV (bH (by omega)),trivial⟩,⟨.r,.r,ch ?_,.r,trivial⟩,by rfl⟩;rw[<-jT];rfl
  ·have dB:¬i<s.box.length:=by simpa using h
   have:i=s.box.length:=by omega
   subst this;clear h;rw[FG];repeat' ((conv=>whnf);first|exact .refl|fail)
   all_goals trace_state
theorem acN(l:List cb)(af:l.length<=1000000)(al:∀r∈l,r.cut.length<=1000000):b0 Tryz.prog 191 [] [.aq 3 (l.map bG) false] [] [.row 179 3 (l.map bG)] (.own 0):=by
 have gx:=RX (n:=(l.map bG).length) (by simp;omega);refine dw Tryz.func191 ?_;repeat' ((conv=>whnf);first|refine⟨(l.map bG).length,(l.map bG).length,rfl,rfl,Nat.le_refl _,gx.1,gx.2,?_⟩|fail)
 all_goals(conv=>whnf)
 refine⟨Nat,fun i=>⟨[(3,.own 0),(9,.aq 3 (l.map bG) false),(10,i64 l.length),(11,i64 i)],[.row 179 3 ((l.take i).map bG++List.replicate (l.length-i) z3)]⟩,fun i=>i<=l.length,fun i=>l.length-i,[],⟨0,Nat.zero_le _,?_⟩,?_⟩
 ·conv=>whnf
  refine⟨⟨.r,.r,aV (by simp),.r,trivial⟩,⟨ch ?_,trivial⟩,by rfl⟩;rw[List.length_map];rfl
 ·intro i ab;conv=>whnf
  refine be ?_ ?_<;>intro h
  ·have ap:i<l.length:=by simpa using h
   clear h;have hlen:=FE (f:=bG) (z:=z3) (l:=l) (i:=i) ab;have eY:i<((l.take i).map bG++List.replicate (l.length-i) z3).length:=by omega
   have b7:=FF (f:=bG) (z:=z3) ap;have jT:=FD (f:=bG) (z:=z3) ap;repeat' ((conv=>whnf);first|refine And.intro (by kernel_rfl) ?_|refine⟨_,_,And.intro ⟨rfl,cE ap⟩ ?_⟩|refine .inl ⟨_,_,aD _,nF _ (al _ (List.getElem_mem ap)),?_⟩|refine⟨i,And.intro ⟨rfl,eY⟩ ?_⟩|refine⟨z3,And.intro b7 ?_⟩|fail)
   all_goals(conv=>whnf)
   refine⟨i+1,ap,by simp only[];omega,?_⟩;conv=>whnf
   refine⟨⟨.r,.r,.r,aV (bH (by omega)),trivial⟩,⟨ch ?_,trivial⟩,by rfl⟩;rw[<-jT];rfl
  ·have dB:¬i<l.length:=by simpa using h
   have:i=l.length:=by omega
   subst this;clear h;rw[FG];repeat' ((conv=>whnf);first|refine bc ?_|fail)
   all_goals(conv=>whnf)
   exact⟨.r,⟨.r,trivial⟩,by rfl⟩
theorem RZ(v:aQ)(ac:v.mem.length<=400000)(l:List cb)(af:l.length<=400000)(al:∀r∈l,r.cut.length<=400000)(r:cb)(ao:r.cut.length<=400000)(bY:fC v l=true):
  b0 Tryz.prog 195 [] [.agg (bN v),.aq 3 (l.map bG) false,.agg (bG r)] [] [.row 179 3 ((fc v l r).1.map bG)] (.a1 [.own 0,.v (.bool (fc v l r).2)]):=by
 have lr:l.length<=maxLen:=Nat.le_trans af (by decide);have Kk:=zm v (Nat.le_trans ac (by omega)) l lr (fun x an=>Nat.le_trans (al x an) (by omega));have dG:=Kj l r;have Kl:=zm v (Nat.le_trans ac (by omega)) (j7 l r) (by simp only[maxLen];omega) (fun x an=>by
  rcases BX an with rfl|an
  ·omega
  ·exact Nat.le_trans (al x an) (by omega))
 have Km:=BW l (by omega) (fun x an=>Nat.le_trans (al x an) (by omega));have Kn:=BW (j7 l r) (by omega) (fun x an=>by
  rcases BX an with rfl|an
  ·omega
  ·exact Nat.le_trans (al x an) (by omega))
 obtain⟨R,b1⟩:∃R,R=fc v l r:=⟨_,rfl⟩
 rw[<-b1];refine hd Tryz.func195 ?_;repeat' ((conv=>whnf);first| (refine be ?_ ?_<;>intro h)|refine .inl ⟨_,_,aD _,Kk,?_⟩|fail)
 all_goals(conv=>whnf)
 ·rw[bY]at h;cases h
 ·have aH:=h;clear h;refine⟨Nat,fun i=>⟨[(1,.aq 3 (l.map bG) false),(3,.aP 0 0),(5,.aP 1 0),(8,i64 i)],[.cells 24 (bN v),.cells 179 (bG r)]⟩,fun i=>i<=l.length/\∀j,(ai:j<l.length)->j<i->l[j].mem<r.mem,fun i=>l.length-i,[],⟨0,⟨Nat.zero_le _,fun j _ ai=>by omega⟩,?_⟩,?_⟩
  ·exact⟨by repeat' ((conv=>whnf);first|exact trivial|refine And.intro (by(conv=>arg 1;whnf);first| (with_reducible exact .refl)|exact aV (bH (by omega))|exact .refl) ?_|fail),by repeat' ((conv=>whnf);first|exact trivial|refine And.intro ?_ ?_|exact .refl|fail),rfl⟩
  ·intro i ⟨ab,bQ⟩;have h6:∃x:cb,(i<l.length->(l.map bG)[i]?=some (bG x))/\∀ (dG:i<l.length),x=l[i]:=by
    by_cases dG:i<l.length
    ·exact⟨l[i],fun _=>cE dG,fun _=>rfl⟩
    ·exact⟨r,fun aS=>absurd aS dG,fun aS=>absurd aS dG⟩
   obtain⟨x,zo,py⟩:=h6;repeat' ((conv=>whnf);first|refine bc ?_| (refine be ?_ ?_<;>intro h)|refine And.intro (by kernel_rfl) ?_|refine And.intro ⟨fun h=>h,fun h=>h⟩ ?_|refine⟨i,bG x,And.intro ⟨⟨fun h=>h,fun h=>h⟩,fun ax=>⟨rfl,zo (by simpa using ax)⟩⟩ ?_⟩|fail)
   ·have dG:i<l.length:=by simpa using((Bool.and_eq_true ..).mp h).1
    have ap:l[i].mem<r.mem:=by
     have:=((Bool.and_eq_true ..).mp h).2;rw[py dG]at this;simpa using this
    clear h;repeat' ((conv=>whnf);first|refine bc ?_|fail)
    all_goals(conv=>whnf)
    refine⟨i+1,⟨dG,fun j ai hf=> ?_⟩,by simp only[];omega,?_⟩
    ·rcases Nat.lt_succ_iff_lt_or_eq.mp hf with h1|rfl
     ·exact bQ j ai h1
     ·exact ap
    ·exact⟨⟨.r,.r,.r,aV (bH (by omega)),trivial⟩,⟨.r,.r,trivial⟩,rfl⟩
   ·have aI:pJ l r.mem=i:=by
     rcases Nat.lt_or_ge i l.length with dG|dG
     ·refine Kh dG (fun j ai=>bQ j (by omega) ai) ?_;intro ap;rw[py dG]at h;simp[dG,ap]at h
     ·have:i=l.length:=by omega
      subst this;exact Ki fun j ai=>bQ j ai ai
    clear h;have Ko:b0 Tryz.prog 226 [] [aj.aq 3 (((l.map bG).take i).drop 0) false] [] [aU.row 179 3 ((l.take i).map bG)] (aj.own 0):=by
     have:=BW (l.take i) (by simp;omega) (fun x an=>Nat.le_trans (al x (List.mem_of_mem_take an)) (by omega));rw[<-List.map_take];exact this
    have hlen: (l.take i).length=i:=by simp;omega
    have lr:i<=(l.map bG).length:=by simpa using ab
    repeat' ((conv=>whnf);first|refine And.intro (by kernel_rfl) ?_|refine⟨0,i,And.intro ⟨rfl,⟨_,rfl⟩,Nat.zero_le _,lr⟩ ?_⟩|refine .inr ⟨[],[],_,[],_,_,Ko,by rfl,trivial,⟨.r,trivial⟩,?_⟩|refine And.intro (Fy (by simp<;>omega)) ?_|refine⟨i,And.intro ⟨⟨_,rfl⟩,lr⟩ ?_⟩|refine Exists.intro false ?_|fail)
    have BY:List.map bG (List.take i l)++(List.replicate 1 (ay ah 179).zero).set 0 (cN (.agg [.v (.int .i64 r.mem),.v (.int .i64 r.aB),.aq 1 (List.map aM r.cut) false]))++List.drop i (List.map bG l)=(j7 l r).map bG:=by
     simp[j7,aI,bG,cN]
    refine .inl ⟨[.agg (bN v),.aq 3 ((j7 l r).map bG) false],_,⟨.r,hT BY,trivial⟩,Kl,?_⟩;repeat' ((conv=>whnf);first| (refine be ?_ ?_<;>intro h)|refine .inr ⟨[],[],_,[],_,_,Km,by rfl,trivial,⟨.r,trivial⟩,?_⟩|refine .inr ⟨[],[],_,[],_,_,Kn,by rfl,trivial,⟨hT BY,trivial⟩,?_⟩|fail)
    all_goals(conv=>whnf)
    ·have KG:R=(l,false):=by
      rw[b1];simp only[fc,aH,h,cond_true,cond_false]
     clear b1;subst KG;refine⟨[.dQ 0 6],?_⟩;conv=>whnf
     exact⟨.r,⟨.r,trivial⟩,by rfl⟩
    ·have KG:R=(j7 l r,true):=by
      rw[b1];simp only[fc,aH,h,cond_true,cond_false]
     clear b1;subst KG;refine⟨[.dQ 0 6],?_⟩;conv=>whnf
     exact⟨.r,⟨.r,trivial⟩,by rfl⟩
def mB(s:bj)(k:Nat):List aj:=[i64 s.self,i64 s.view.num,.aq 1 (s.view.mem.map aM) false,i64 s.aL.cc,i64 s.aL.aB,.aq 1 (s.aL.cut.map aM) false,.aq 1 (s.prop.map aM) false,.aq 2 (s.box.map dh) false,i64 s.aB,i64 s.phase,.aq 3 (s.br.map bG) false,.aq 1 (s.ct.map aM) false,.own k,.aq 1 (s.dec.map aM) false,i64 s.dn]
theorem acO(s:bj)(ag:dt s):b0 Tryz.prog 147 [] [.agg (cG s)] [] [.bd,.bd,.bd,.row 179 3 (s.aR.map bG)] (.agg (mB s 3)):=by
 have acP:=RY s.br (by have:=ag.br;omega) (fun b ae=>by have:=ag.j8 b ae;omega);have acQ:=acN s.aR (by have:=ag.aR;omega) (fun b ae=>by have:=ag.ia b ae;omega);have cC:=ag.mem;have cH:=ag.fk;have j3:=ag.prop;have n5:=ag.ct;have B5:=ag.dec;have B6:=ag.br;have B7:∀b∈s.br,b.cut.length<=1000000:=fun b ae=>by have:=ag.j8 b ae;omega
 have B8:=ag.aR;have B9:∀b∈s.aR,b.cut.length<=1000000:=fun b ae=>by have:=ag.ia b ae;omega
 have iO:=ag.box;have gx:=KF (n:=(s.box.map dh).length) (by simp;omega);refine hd Tryz.func147 ?_;repeat' ((conv=>whnf);first|refine And.intro (by kernel_rfl) ?_|refine .inl ⟨_,_,aD _,nF _ (by omega),?_⟩|refine .inl ⟨_,_,aD _,acP,?_⟩|refine .inr ⟨[],[],_,[],_,_,acQ,by rfl,trivial,⟨.r,trivial⟩,?_⟩|refine⟨(s.box.map dh).length,(s.box.map dh).length,rfl,rfl,Nat.le_refl _,gx.1,gx.2,?_⟩|fail)
 all_goals(conv=>whnf)
 refine⟨Nat,fun i=>⟨[(2,.aP 1 0),(3,.aP 4 0),(54,.aq 2 (s.box.map dh) false),(55,i64 s.box.length),(56,i64 i)],[.cells 53 (cG s),.cells 53 (ay ah 53).zero,.row 201 2 ((s.box.take i).map dh++List.replicate (s.box.length-i) nA),.row 179 3 (s.aR.map bG),.cells 53 [i64 s.self,i64 s.view.num,.aq 1 (s.view.mem.map aM) false,i64 s.aL.cc,i64 s.aL.aB,.aq 1 (s.aL.cut.map aM) false,.aq 1 (s.prop.map aM) false,.own 2,i64 s.aB,i64 s.phase,.aq 3 (s.br.map bG) false,.aq 1 (s.ct.map aM) false,.own 3,.aq 1 (s.dec.map aM) false,i64 s.dn]]⟩,fun i=>i<=s.box.length,fun i=>s.box.length-i,[],⟨0,Nat.zero_le _,?_⟩,?_⟩
 ·conv=>whnf
  refine⟨⟨.r,.r,.r,aV (by simp),.r,trivial⟩,⟨.r,.r,ch ?_,.r,.r,trivial⟩,by rfl⟩;rw[List.length_map];rfl
 ·intro i ab;conv=>whnf
  refine be ?_ ?_<;>intro h
  ·have ap:i<s.box.length:=by simpa using h
   clear h;have hlen:=FE (f:=dh) (z:=nA) (l:=s.box) (i:=i) ab;have eY:i<((s.box.take i).map dh++List.replicate (s.box.length-i) nA).length:=by omega
   have b7:=FF (f:=dh) (z:=nA) ap;have jT:=FD (f:=dh) (z:=nA) ap;have BV:=ag.iB _ (List.getElem_mem ap);repeat' ((conv=>whnf);first|refine And.intro (by kernel_rfl) ?_|refine⟨_,_,And.intro ⟨rfl,cE ap⟩ ?_⟩|refine .inl ⟨_,_,aD _,nF _ (by omega),?_⟩|refine⟨i,And.intro ⟨rfl,eY⟩ ?_⟩|refine⟨nA,And.intro b7 ?_⟩|fail)
   all_goals(conv=>whnf)
   refine⟨i+1,ap,by simp only[];omega,?_⟩;conv=>whnf
   refine⟨⟨.r,.r,.r,.r,aV (bH (by omega)),trivial⟩,⟨.r,.r,ch ?_,.r,.r,trivial⟩,by rfl⟩;rw[<-jT];rfl
  ·have dB:¬i<s.box.length:=by simpa using h
   have:i=s.box.length:=by omega
   subst this;clear h;rw[FG];repeat' ((conv=>whnf);first|refine bc ?_|fail)
   all_goals(conv=>whnf)
   refine⟨[.np 1 7],?_⟩;conv=>whnf
   exact⟨.r,⟨.bd,.bd,.bd,.r,trivial⟩,by rfl⟩
theorem acR(s:bj)(p:aj):bg Tryz.prog 227 [.cD (cG s++ [p])] (i64 (fI s.view.mem.length)):=by
 have e:bg Tryz.prog 181 [i64 ((s.view.mem.map aM).length:Int)] (i64 (fI s.view.mem.length)):=by
  rw[List.length_map];exact BU _
 refine bw Tryz.func227 ?_;repeat' ((conv=>whnf);first|exact .refl|refine .inl ⟨_,_,aD _,e,?_⟩|fail)
theorem k7{a d:aj}:fF (.b6 [a,d]) (.b6 [a,.aW]):=.b6 rfl fun i x y an bt=>by
 rcases i with _|_|i
 ·simp at an bt;subst an bt;exact .refl
 ·simp at an bt;subst an bt;exact .aW
 ·simp at an
def ef(s:bj)(cZ kind aB cq:Int)(cut:List Int):dy:=⟨cZ,⟨kind,s.view.num,s.self,aB,cq,cut⟩⟩
theorem KH{n:Nat}(h:n<=1000000):iJ ah 218 n:=by
 have e: (ay ah 218).bytes=72:=by kernel_rfl
 refine⟨?_,?_⟩
 ·rw[e];omega
 ·simp only[maxLen];omega
theorem FH(s:bj)(cZ kind aB cq:Int)(cut:List Int)(al:cut.length<=1000000):
  b0 Tryz.prog 148 [.cells 210 (cG s++ [.ar])] [.aP 0 0,i64 cZ,i64 kind,i64 aB,i64 cq,.aq 1 (cut.map aM) false] [true] [.cells 210 (cG s++ [.own 2]),.bd,.row 218 7 [ei (ef s cZ kind aB cq cut)]] (.a1 []):=by
 refine dw Tryz.func148 ?_;repeat' ((conv=>whnf);first|refine And.intro (by kernel_rfl) ?_|refine .inl ⟨_,_,aD _,nF _ al,?_⟩|refine And.intro (KH (by simp<;>omega)) ?_|refine Exists.intro false ?_|fail)
 all_goals(conv=>whnf)
 exact⟨.r,⟨.r,.r,.r,trivial⟩,by rfl⟩
theorem acS(s:bj)(aX:List dy)(l6:aX.length<=100)(cZ kind aB cq:Int)(cut:List Int)(al:cut.length<=1000000):
  b0 Tryz.prog 148 [.cells 210 (cG s++ [.own 1]),.row 218 7 (aX.map ei)] [.aP 0 0,i64 cZ,i64 kind,i64 aB,i64 cq,.aq 1 (cut.map aM) false] [true,false] [.cells 210 (cG s++ [.own 1]),.row 218 7 ((aX++ [ef s cZ kind aB cq cut]).map ei),.bd] (.a1 []):=by
 refine dw Tryz.func148 ?_;repeat' ((conv=>whnf);first|refine And.intro (by kernel_rfl) ?_|refine .inl ⟨_,_,aD _,nF _ al,?_⟩|refine And.intro (KH (by simp<;>omega)) ?_|refine Exists.intro false ?_|fail)
 all_goals(conv=>whnf)
 refine⟨.r,⟨.r,ch ?_,k7,trivial⟩,by rfl⟩;rw[List.map_append];rfl
def na(l:List cb)(r:cb)(k:Nat):Nat:=((l.take k).filter fun x=>decide (x.aB=r.aB)&&fK x.cut r.cut).length
theorem R0{l:List cb}{r:cb}{k:Nat}(h:k<l.length):na l r (k+1)=na l r k+if(decide (l[k].aB=r.aB)&&fK l[k].cut r.cut)=true then 1 else 0:=by
 unfold na;rw[List.take_succ_eq_append_getElem h,List.filter_append,List.length_append];cases bF: (decide (l[k].aB=r.aB)&&fK l[k].cut r.cut)<;>simp[bF]
theorem R1(l:List cb)(r:cb)(k:Nat):na l r k<=k:=
 Nat.le_trans (List.length_filter_le _ _) (by simp;omega)
def jU(l:List cb)(m:Int):Nat->Int×List Int
 |0=>(0,[])
 |i+1=>bif decide (m<=(na l (l.getD i cI) l.length:Int))&&decide ((jU l m i).1<(l.getD i cI).aB)then((l.getD i cI).aB,(l.getD i cI).cut)else jU l m i
def sC(s:bj):List Int:=(jU s.aR (fI s.view.mem.length) s.aR.length).2
theorem acT(s:bj)(aX:List dy):b0 Tryz.prog 227 [.cells 210 (cG s++ [.own 1]),.row 218 7 (aX.map ei)] [.aP 0 0] [true,true] [.cells 210 (cG s++ [.own 1]),.row 218 7 (aX.map ei)] (i64 (fI s.view.mem.length)):=by
 have e:bg Tryz.prog 181 [i64 ((s.view.mem.map aM).length:Int)] (i64 (fI s.view.mem.length)):=by
  rw[List.length_map];exact BU _
 refine dw Tryz.func227 ?_;repeat' ((conv=>whnf);first|refine .inl ⟨_,_,aD _,e,?_⟩|fail)
 all_goals(conv=>whnf)
 exact⟨.r,⟨.r,.r,.r,trivial⟩,by rfl⟩
theorem acU(s:bj)(ag:dt s):b0 Tryz.prog 199 [.cells 210 (cG s++ [.ar])] [.aP 0 0] [true] [.cells 210 (cG s++ [.ar])] (.aq 1 ((sC s).map aM) false):=by
 have acV:=acR s .ar;have h7:=ag.aR;refine dw Tryz.func199 ?_;repeat' ((conv=>whnf);first|refine bc ?_|fail)
 all_goals(conv=>whnf)
 refine⟨Nat,fun i=>⟨[(0,.aP 0 0),(3,i64 (jU s.aR (fI s.view.mem.length) i).1),(4,.aq 1 ((jU s.aR (fI s.view.mem.length) i).2.map aM) false),(14,.aq 3 (s.aR.map bG) false),(15,i64 s.aR.length),(16,i64 i)],[.cells 210 (cG s++ [.ar]),.b6 [.aP 0 0]]⟩,fun i=>i<=s.aR.length,fun i=>s.aR.length-i,[],⟨0,Nat.zero_le _,?_⟩,?_⟩
 ·conv=>whnf
  exact⟨⟨.r,.r,.ar,.r,aV (by simp),.r,trivial⟩,⟨.r,.r,trivial⟩,by rfl⟩
 ·intro i ab;conv=>whnf
  refine be ?_ ?_<;>intro h
  ·have ap:i<s.aR.length:=by simpa using h
   clear h;have ax:s.aR.getD i cI=s.aR[i]:=by simp[ap]
   have KI:=ag.ia _ (List.getElem_mem ap);have lw:jU s.aR (fI s.view.mem.length) (i+1)=bif decide (fI s.view.mem.length<=(na s.aR s.aR[i] s.aR.length:Int))&&decide ((jU s.aR (fI s.view.mem.length) i).1<s.aR[i].aB)then(s.aR[i].aB,s.aR[i].cut)else jU s.aR (fI s.view.mem.length) i:=by
    rw[<-ax];rfl
   have tS: (s.aR.map bG)[i]?=some (bG s.aR[i]):=cE ap;obtain⟨r,ao⟩:∃r,r=s.aR[i]:=⟨_,rfl⟩
   rw[<-ao]at KI lw tS;repeat' ((conv=>whnf);first|refine⟨i,bG r,And.intro ⟨rfl,tS⟩ ?_⟩|fail)
   all_goals(conv=>whnf)
   refine⟨Nat,fun k=>⟨[(0,.aP 0 0),(3,i64 (jU s.aR (fI s.view.mem.length) i).1),(4,.aq 1 ((jU s.aR (fI s.view.mem.length) i).2.map aM) false),(6,.aP 2 0),(7,i64 (na s.aR r k)),(14,.aq 3 (s.aR.map bG) false),(15,i64 s.aR.length),(16,i64 i),(24,.aq 3 (s.aR.map bG) false),(25,i64 s.aR.length),(26,i64 k)],[.cells 210 (cG s++ [.ar]),.b6 [.aP 0 0],.cells 179 (bG r)]⟩,fun k=>k<=s.aR.length,fun k=>s.aR.length-k,[],⟨0,Nat.zero_le _,?_⟩,?_⟩
   ·conv=>whnf
    exact⟨⟨.r,.r,.r,.r,.r,.r,.r,.r,.r,aV (by simp),.r,trivial⟩,⟨.r,.r,.r,trivial⟩,by rfl⟩
   ·intro k hk;conv=>whnf
    refine be ?_ ?_<;>intro h
    ·have rA:k<s.aR.length:=by simpa using h
     clear h;have jD:=R0 (r:=r) rA;have gT:=R1 s.aR r k;have KJ:=BC s.aR[k].cut r.cut (by have:=ag.ia _ (List.getElem_mem rA);exact dF this);repeat' ((conv=>whnf);first|refine bc ?_| (refine be ?_ ?_<;>intro h)|refine And.intro ⟨fun h=>h,fun h=>h⟩ ?_|refine⟨_,_,And.intro ⟨rfl,cE rA⟩ ?_⟩|refine⟨_,_,aD _,fun _=>KJ,?_⟩|fail)
     all_goals(conv=>whnf)
     ·refine⟨k+1,rA,by simp only[];omega,?_⟩;conv=>whnf
      refine⟨⟨.r,.r,.r,.r,?_,.r,.r,.r,.r,.r,aV (bH (by omega)),trivial⟩,⟨.r,.r,.r,trivial⟩,by rfl⟩;rw[jD,if_pos h];exact aV (bH (by omega))
     ·refine⟨k+1,rA,by simp only[];omega,?_⟩;conv=>whnf
      refine⟨⟨.r,.r,.r,.r,?_,.r,.r,.r,.r,.r,aV (bH (by omega)),trivial⟩,⟨.r,.r,.r,trivial⟩,by rfl⟩;rw[jD,if_neg (by rw[h];simp)];exact .refl
    ·have dB:¬k<s.aR.length:=by simpa using h
     have:k=s.aR.length:=by omega
     subst this;clear h;repeat' ((conv=>whnf);first|refine bc ?_| (refine be ?_ ?_<;>intro h)|refine And.intro (by kernel_rfl) ?_|refine And.intro ⟨fun h=>h,fun h=>h⟩ ?_|refine .inl ⟨_,_,aD _,acV,?_⟩|fail)
     all_goals(conv=>whnf)
     ·rw[h,cond_true]at lw;refine⟨i+1,ap,by simp only[];omega,?_⟩;conv=>whnf
      exact⟨⟨.r,aV (by rw[lw]),hT (by rw[lw]),.r,.r,aV (bH (by omega)),trivial⟩,⟨.r,.r,trivial⟩,by rfl⟩
     ·rw[h,cond_false]at lw;refine⟨i+1,ap,by simp only[];omega,?_⟩;conv=>whnf
      exact⟨⟨.r,aV (by rw[lw]),hT (by rw[lw]),.r,.r,aV (bH (by omega)),trivial⟩,⟨.r,.r,trivial⟩,by rfl⟩
  ·have dB:¬i<s.aR.length:=by simpa using h
   have:i=s.aR.length:=by omega
   subst this;clear h;repeat' ((conv=>whnf);first|refine bc ?_|fail)
   all_goals(conv=>whnf)
   exact⟨.r,⟨.r,.r,trivial⟩,by rfl⟩
theorem acW(s:bj)(ag:dt s)(aX:List dy):b0 Tryz.prog 199 [.cells 210 (cG s++ [.own 1]),.row 218 7 (aX.map ei)] [.aP 0 0] [true,true] [.cells 210 (cG s++ [.own 1]),.row 218 7 (aX.map ei)] (.aq 1 ((sC s).map aM) false):=by
 have h7:=ag.aR;refine dw Tryz.func199 ?_;repeat' ((conv=>whnf);first|refine bc ?_|fail)
 all_goals(conv=>whnf)
 refine⟨Nat,fun i=>⟨[(0,.aP 0 0),(3,i64 (jU s.aR (fI s.view.mem.length) i).1),(4,.aq 1 ((jU s.aR (fI s.view.mem.length) i).2.map aM) false),(14,.aq 3 (s.aR.map bG) false),(15,i64 s.aR.length),(16,i64 i)],[.cells 210 (cG s++ [.own 1]),.row 218 7 (aX.map ei),.b6 [.aP 0 0,.own 1]]⟩,fun i=>i<=s.aR.length,fun i=>s.aR.length-i,[],⟨0,Nat.zero_le _,?_⟩,?_⟩
 ·conv=>whnf
  exact⟨⟨.r,.r,.ar,.r,aV (by simp),.r,trivial⟩,⟨.r,.r,.r,trivial⟩,by rfl⟩
 ·intro i ab;conv=>whnf
  refine be ?_ ?_<;>intro h
  ·have ap:i<s.aR.length:=by simpa using h
   clear h;have ax:s.aR.getD i cI=s.aR[i]:=by simp[ap]
   have KI:=ag.ia _ (List.getElem_mem ap);have lw:jU s.aR (fI s.view.mem.length) (i+1)=bif decide (fI s.view.mem.length<=(na s.aR s.aR[i] s.aR.length:Int))&&decide ((jU s.aR (fI s.view.mem.length) i).1<s.aR[i].aB)then(s.aR[i].aB,s.aR[i].cut)else jU s.aR (fI s.view.mem.length) i:=by
    rw[<-ax];rfl
   have tS: (s.aR.map bG)[i]?=some (bG s.aR[i]):=cE ap;obtain⟨r,ao⟩:∃r,r=s.aR[i]:=⟨_,rfl⟩
   rw[<-ao]at KI lw tS;repeat' ((conv=>whnf);first|refine⟨i,bG r,And.intro ⟨rfl,tS⟩ ?_⟩|fail)
   all_goals(conv=>whnf)
   refine⟨Nat,fun k=>⟨[(0,.aP 0 0),(3,i64 (jU s.aR (fI s.view.mem.length) i).1),(4,.aq 1 ((jU s.aR (fI s.view.mem.length) i).2.map aM) false),(6,.aP 3 0),(7,i64 (na s.aR r k)),(14,.aq 3 (s.aR.map bG) false),(15,i64 s.aR.length),(16,i64 i),(24,.aq 3 (s.aR.map bG) false),(25,i64 s.aR.length),(26,i64 k)],[.cells 210 (cG s++ [.own 1]),.row 218 7 (aX.map ei),.b6 [.aP 0 0,.own 1],.cells 179 (bG r)]⟩,fun k=>k<=s.aR.length,fun k=>s.aR.length-k,[],⟨0,Nat.zero_le _,?_⟩,?_⟩
   ·conv=>whnf
    exact⟨⟨.r,.r,.r,.r,.r,.r,.r,.r,.r,aV (by simp),.r,trivial⟩,⟨.r,.r,.r,.r,trivial⟩,by rfl⟩
   ·intro k hk;conv=>whnf
    refine be ?_ ?_<;>intro h
    ·have rA:k<s.aR.length:=by simpa using h
     clear h;have jD:=R0 (r:=r) rA;have gT:=R1 s.aR r k;have KJ:=BC s.aR[k].cut r.cut (by have:=ag.ia _ (List.getElem_mem rA);exact dF this);repeat' ((conv=>whnf);first|refine bc ?_| (refine be ?_ ?_<;>intro h)|refine And.intro ⟨fun h=>h,fun h=>h⟩ ?_|refine⟨_,_,And.intro ⟨rfl,cE rA⟩ ?_⟩|refine⟨_,_,aD _,fun _=>KJ,?_⟩|fail)
     all_goals(conv=>whnf)
     ·refine⟨k+1,rA,by simp only[];omega,?_⟩;conv=>whnf
      refine⟨⟨.r,.r,.r,.r,?_,.r,.r,.r,.r,.r,aV (bH (by omega)),trivial⟩,⟨.r,.r,.r,.r,trivial⟩,by rfl⟩;rw[jD,if_pos h];exact aV (bH (by omega))
     ·refine⟨k+1,rA,by simp only[];omega,?_⟩;conv=>whnf
      refine⟨⟨.r,.r,.r,.r,?_,.r,.r,.r,.r,.r,aV (bH (by omega)),trivial⟩,⟨.r,.r,.r,.r,trivial⟩,by rfl⟩;rw[jD,if_neg (by rw[h];simp)];exact .refl
    ·have dB:¬k<s.aR.length:=by simpa using h
     have:k=s.aR.length:=by omega
     subst this;clear h;repeat' ((conv=>whnf);first|refine bc ?_| (refine be ?_ ?_<;>intro h)|refine And.intro (by kernel_rfl) ?_|refine And.intro ⟨fun h=>h,fun h=>h⟩ ?_|refine .inr ⟨[0,1],_,_,_,_,_,acT s aX,by rfl,⟨.r,.r,trivial⟩,⟨.r,trivial⟩,?_⟩|fail)
     all_goals(conv=>whnf)
     ·rw[h,cond_true]at lw;refine⟨i+1,ap,by simp only[];omega,?_⟩;conv=>whnf
      exact⟨⟨.r,aV (by rw[lw]),hT (by rw[lw]),.r,.r,aV (bH (by omega)),trivial⟩,⟨.r,.r,.r,trivial⟩,by rfl⟩
     ·rw[h,cond_false]at lw;refine⟨i+1,ap,by simp only[];omega,?_⟩;conv=>whnf
      exact⟨⟨.r,aV (by rw[lw]),hT (by rw[lw]),.r,.r,aV (bH (by omega)),trivial⟩,⟨.r,.r,.r,trivial⟩,by rfl⟩
  ·have dB:¬i<s.aR.length:=by simpa using h
   have:i=s.aR.length:=by omega
   subst this;clear h;repeat' ((conv=>whnf);first|refine bc ?_|fail)
   all_goals(conv=>whnf)
   exact⟨.r,⟨.r,.r,.r,trivial⟩,by rfl⟩
def je(s:bj):List Int:=bif (iA s.view s.box).2 then(iA s.view s.box).1 else sC s
def dz(s:bj)(aX:List dy):bj×List dy:=
 bif decide ((s.dec.length:Int)=0)&&decide (0<((je s).length:Int))then({s with dec:=je s},aX++ [ef s 0 6 0 0 (je s)])else(s,aX)
theorem R2{v:aQ}{l:List cv}{N:Nat}(al:∀b∈l,b.cut.length<=N): (iA v l).1.length<=N:=by
 unfold iA;cases !fD v l
 ·cases aI:l.find? (fun b=>decide (oV v.mem.length<=(gp l b.cut:Int)))with
  |none=>exact Nat.zero_le _
  |some b=>exact al b (List.mem_of_find?_eq_some aI)
 ·exact Nat.zero_le _
theorem R3{l:List cb}{N:Nat}(al:∀b∈l,b.cut.length<=N)(m:Int):∀i,i<=l.length->(jU l m i).2.length<=N
 |0,_=>Nat.zero_le _
 |i+1,h=>by
  unfold jU;cases decide (m<=(na l (l.getD i cI) l.length:Int))&&decide ((jU l m i).1<(l.getD i cI).aB)
  ·exact R3 al m i (by omega)
  ·have ab:i<l.length:=by omega
   have ax:l.getD i cI=l[i]:=by simp[ab]
   simp only[cond_true,ax];exact al _ (List.getElem_mem ab)
theorem R4{s:bj}(ag:dt s): (sC s).length<=1000:=R3 ag.ia _ _ (Nat.le_refl _)
theorem Ca{a d:aj}:fF (.b6 [a,d]) (.b6 [.aW,.aW]):=.b6 rfl fun i x y an bt=>by
 rcases i with _|_|i
 ·simp at an bt;subst an bt;exact .aW
 ·simp at an bt;subst an bt;exact .aW
 ·simp at an
theorem R5{s:bj}{aX:List dy}{c:List Int}(aH:decide (((s.dec.map aM).length:Int)=0)=true)(al:je s=c)(h:decide (0<((c.map aM).length:Int))=true):dz s aX=({s with dec:=c},aX++ [ef s 0 6 0 0 c]):=by
 rw[List.length_map]at aH h;simp only[dz,al,aH,h,Bool.and_self,cond_true]
theorem R6{s:bj}{aX:List dy}{c:List Int}(al:je s=c)(h:decide (0<((c.map aM).length:Int))=false):dz s aX=(s,aX):=by
 rw[List.length_map]at h;simp only[dz,al,h,Bool.and_false,cond_false]
theorem R7{s:bj}{aX:List dy}(aH:decide (((s.dec.map aM).length:Int)=0)=false):dz s aX=(s,aX):=by
 rw[List.length_map]at aH;simp only[dz,aH,Bool.false_and,cond_false]
theorem FI(s:bj)(ag:dt s):b0 Tryz.prog 154 [.cells 210 (cG s++ [.ar])] [.aP 0 0] [false] [.bd] (.a1 [.agg (cG (dz s []).1),.aq 7 ((dz s []).2.map ei) false]):=by
 have ac:=ag.mem;have KK:=RR s.view (by omega) s.box (by have:=ag.box;omega) (fun b ae=>by have:=ag.iB b ae;omega);have KL:=acU s ag;have hw:=R2 (v:=s.view) ag.iB;have aZ:=R4 ag;have sg: (iA s.view s.box).2=true->je s=(iA s.view s.box).1:=fun h=>by rw[je,h,cond_true]
 have hS: (iA s.view s.box).2=false->je s=sC s:=fun h=>by rw[je,h,cond_false]
 generalize iA s.view s.box=W at *;generalize sC s=D at *;have KM:=fun c h=>FH {s with dec:=c} 0 6 0 0 c h;have bt:=fun c aH al h=> @R5 s [] c aH al h;have aS:=fun c al h=> @R6 s [] c al h;have aF:=fun h=> @R7 s [] h;generalize dz s []=R at *;refine hd Tryz.func154 ?_;repeat' ((conv=>whnf);first| (refine be ?_ ?_<;>intro h)|refine And.intro (by kernel_rfl) ?_|refine .inl ⟨_,_,aD _,KK,?_⟩|refine .inr ⟨[0],_,_,_,_,_,KL,by rfl,⟨.r,trivial⟩,⟨.r,trivial⟩,?_⟩|refine .inl ⟨_,_,aD _,nF _ (by omega),?_⟩|refine .inr ⟨[0],_,_,_,_,_,KM _ (by omega),by rfl,⟨.r,trivial⟩,⟨.r,.r,.r,.r,.r,.r,trivial⟩,?_⟩|fail)
 all_goals(conv=>whnf)
 ·rename_i aH l5;rw[bt D aH (hS (by simpa using l5)) h];refine⟨[.hZ 3],?_⟩;conv=>whnf
  exact⟨.r,⟨.bd,oT,trivial⟩,by rfl⟩
 ·rename_i aH l5;rw[aS D (hS (by simpa using l5)) h];refine⟨[],?_⟩;conv=>whnf
  exact⟨dI ⟨.r,.ar,trivial⟩,⟨.bd,oT,trivial⟩,by rfl⟩
 ·rename_i aH l5;rw[bt W.1 aH (sg (by simpa using l5)) h];refine⟨[.hZ 3],?_⟩;conv=>whnf
  exact⟨.r,⟨.bd,oT,trivial⟩,by rfl⟩
 ·rename_i aH l5;rw[aS W.1 (sg (by simpa using l5)) h];refine⟨[],?_⟩;conv=>whnf
  exact⟨dI ⟨.r,.ar,trivial⟩,⟨.bd,oT,trivial⟩,by rfl⟩
 ·rw[aF h];refine⟨[],?_⟩;conv=>whnf
  exact⟨dI ⟨.r,.ar,trivial⟩,⟨.bd,oT,trivial⟩,by rfl⟩
theorem vr(s:bj)(ag:dt s)(aX:List dy)(l6:aX.length<=100):b0 Tryz.prog 154 [.cells 210 (cG s++ [.own 1]),.row 218 7 (aX.map ei)] [.aP 0 0] [false,false] [.bd,.bd] (.a1 [.agg (cG (dz s aX).1),.aq 7 ((dz s aX).2.map ei) false]):=by
 have ac:=ag.mem;have KK:=RR s.view (by omega) s.box (by have:=ag.box;omega) (fun b ae=>by have:=ag.iB b ae;omega);have KL:=acW s ag aX;have hw:=R2 (v:=s.view) ag.iB;have aZ:=R4 ag;have sg: (iA s.view s.box).2=true->je s=(iA s.view s.box).1:=fun h=>by rw[je,h,cond_true]
 have hS: (iA s.view s.box).2=false->je s=sC s:=fun h=>by rw[je,h,cond_false]
 generalize iA s.view s.box=W at *;generalize sC s=D at *;have KM:=fun c h=>acS {s with dec:=c} aX l6 0 6 0 0 c h;have bt:=fun c aH al h=> @R5 s aX c aH al h;have aS:=fun c al h=> @R6 s aX c al h;have aF:=fun h=> @R7 s aX h;generalize dz s aX=R at *;refine hd Tryz.func154 ?_;repeat' ((conv=>whnf);first| (refine be ?_ ?_<;>intro h)|refine And.intro (by kernel_rfl) ?_|refine .inl ⟨_,_,aD _,KK,?_⟩|refine .inr ⟨[0,1],_,_,_,_,_,KL,by rfl,⟨.r,.r,trivial⟩,⟨.r,trivial⟩,?_⟩|refine .inl ⟨_,_,aD _,nF _ (by omega),?_⟩|refine .inr ⟨[0,1],_,_,_,_,_,KM _ (by omega),by rfl,⟨.r,.r,trivial⟩,⟨.r,.r,.r,.r,.r,.r,trivial⟩,?_⟩|fail)
 all_goals(conv=>whnf)
 ·rename_i aH l5;rw[bt D aH (hS (by simpa using l5)) h];refine⟨[.hZ 3],?_⟩;conv=>whnf
  exact⟨.r,⟨.bd,.bd,Ca,trivial⟩,by rfl⟩
 ·rename_i aH l5;rw[aS D (hS (by simpa using l5)) h];refine⟨[.hZ 3],?_⟩;conv=>whnf
  exact⟨.r,⟨.bd,.bd,Ca,trivial⟩,by rfl⟩
 ·rename_i aH l5;rw[bt W.1 aH (sg (by simpa using l5)) h];refine⟨[.hZ 3],?_⟩;conv=>whnf
  exact⟨.r,⟨.bd,.bd,Ca,trivial⟩,by rfl⟩
 ·rename_i aH l5;rw[aS W.1 (sg (by simpa using l5)) h];refine⟨[.hZ 3],?_⟩;conv=>whnf
  exact⟨.r,⟨.bd,.bd,Ca,trivial⟩,by rfl⟩
 ·rw[aF h];refine⟨[.hZ 3],?_⟩;conv=>whnf
  exact⟨.r,⟨.bd,.bd,Ca,trivial⟩,by rfl⟩
def ew(s:bj)(cut:List Int):bj×List dy×Int:=
 bif !eS s|| !eM s.view cut then(eR,[],1)
 else bif decide (0<(s.prop.length:Int))||decide (0<(s.dec.length:Int))then(eR,[],7)
 else bif (l7 s.aL cut).2 then
  ((dz {s with prop:=cut,dn:=0,aL:=(l7 s.aL cut).1,box:=(gQ s.view s.box ⟨s.self,cut⟩).1} [ef s 0 1 0 0 cut]).1,(dz {s with prop:=cut,dn:=0,aL:=(l7 s.aL cut).1,box:=(gQ s.view s.box ⟨s.self,cut⟩).1} [ef s 0 1 0 0 cut]).2,0)
 else((dz {s with prop:=cut,dn:=0} []).1,(dz {s with prop:=cut,dn:=0} []).2,0)
theorem xh{s:bj}(h:eS s=true):bX s.view=true/\bR s.view.mem s.self=true/\0<=s.dn/\s.dn<=1099511627776:=by
 unfold eS at h;cases h1: !bX s.view|| !bR s.view.mem s.self||decide (s.dn<0)||decide (1099511627776<s.dn)
 ·simp only[Bool.or_eq_false_iff,Bool.not_eq_false',decide_eq_false_iff_not]at h1;exact⟨h1.1.1.1,h1.1.1.2,by omega,by omega⟩
 ·rw[h1]at h;cases h
theorem R8{s:bj}(h:eS s=true):gO s.view s.prop=true/\gO s.view s.ct=true/\gO s.view s.dec=true/\fD s.view s.box=true:=by
 unfold eS at h;cases h1: !bX s.view|| !bR s.view.mem s.self||decide (s.dn<0)||decide (1099511627776<s.dn)
 ·rw[h1,cond_false]at h;generalize(!jC s.aL|| !decide (s.aL.cc=0)&& !ev s.view s.aL.cc||decide (0<s.aL.aB)&& !ev s.view s.aL.aB|| !gO s.view s.aL.cut)=b at h;cases b
  ·rw[cond_false]at h;cases ad: !gO s.view s.prop|| !gO s.view s.ct|| !gO s.view s.dec|| !fD s.view s.box
   ·simp only[Bool.or_eq_false_iff,Bool.not_eq_false']at ad;exact⟨ad.1.1.1,ad.1.1.2,ad.1.2,ad.2⟩
   ·rw[ad]at h;cases h
  ·cases h
 ·rw[h1]at h;cases h
theorem R9{s:bj}(h:eS s=true):s.box.length<=16:=by
 have:=Kx (R8 h).2.2.2;have:=tV (xh h).1;omega
theorem Sa{v:aQ}{l:List cv}{b:cv}: (gQ v l b).1.length<=l.length+1:=by
 unfold gQ;have:=RM l b;cases !fD v l|| !eM v b.cut<;>cases !bR v.mem b.mem<;>cases decide (0<=iz l b.mem)<;>simp<;>omega
theorem Sb{v:aQ}{l:List cv}{b:cv}{N:Nat}(af:∀x∈l,x.cut.length<=N)(ae:b.cut.length<=N):∀x∈ (gQ v l b).1,x.cut.length<=N:=by
 unfold gQ;intro x an;cases h1: !fD v l|| !eM v b.cut<;>cases ad: !bR v.mem b.mem<;>cases aC:decide (0<=iz l b.mem)<;>rw[h1,ad,aC]at an<;>simp only[cond_true,cond_false]at an<;>try(cases an;done)
 rcases vo an with rfl|an
 ·exact ae
 ·exact af x an
theorem acX(s:bj)(ag:dt s)(cut:List Int)(al:cut.length<=1000):bg Tryz.prog 97 [.agg (cG s),.aq 1 (cut.map aM) false] (.a1 [.agg (cG (ew s cut).1),.aq 7 ((ew s cut).2.1.map ei) false,i64 (ew s cut).2.2]):=by
 have ac:=ag.mem;have eE:=mA s ag;have acY:=Kp s.view (by omega) cut (by omega);have kt:=tY s ag;have acZ:=ab2 s.aL (by have:=ag.fk;omega) cut (by omega);have KN:=RS s.view (by omega) s.box (by have:=ag.box;omega) (fun b ae=>by have:=ag.iB b ae;omega) ⟨s.self,cut⟩ (by simp only[];omega);have uK:dt {s with prop:=cut,dn:=0}:=⟨ag.mem,ag.fk,al,ag.box,ag.iB,ag.br,ag.j8,ag.ct,ag.aR,ag.ia,ag.dec⟩
 have iv:eS s=true->dt {s with prop:=cut,dn:=0,aL:=(l7 s.aL cut).1,box:=(gQ s.view s.box ⟨s.self,cut⟩).1}:=fun h=>
  ⟨ag.mem,ace ag.fk al,al,by
   have:=Sa (v:=s.view) (l:=s.box) (b:=⟨s.self,cut⟩);have:=R9 h;simp only[];omega,Sb ag.iB al,ag.br,ag.j8,ag.ct,ag.aR,ag.ia,ag.dec⟩
 obtain⟨R,b1⟩:∃R,R=ew s cut:=⟨_,rfl⟩
 rw[<-b1];unfold ew at b1;generalize l7 s.aL cut=V at *;generalize(gQ s.view s.box ⟨s.self,cut⟩)=X at *;generalize eS s=B at *;have ac0:=FH {s with prop:=cut,dn:=0,aL:=V.1,box:=X.1} 0 1 0 0 cut (by omega);have ac1:=FI _ uK;have ac2:=fun h=>vr _ (iv h) [ef s 0 1 0 0 cut] (by simp);refine bw Tryz.func97 ?_;repeat' ((conv=>whnf);first|refine bc ?_| (refine be ?_ ?_<;>intro h)|refine And.intro ⟨fun h=>h,fun h=>h⟩ ?_|refine .inl ⟨_,_,aD _,eE,?_⟩|refine⟨_,_,aD _,fun _=>acY,?_⟩|refine .inl ⟨_,_,aD _,kt,?_⟩|fail)
 ·simp only[h,cond_true]at b1;subst b1;exact dI ⟨gM ⟨.r,.r,.ar,.r,.r,.ar,.ar,.ar,.r,.r,.ar,.ar,.ar,.ar,.r,trivial⟩,.ar,.r,trivial⟩
 ·rename_i aH;rw[List.length_map,List.length_map]at h;simp only[aH,h,cond_true,cond_false]at b1;subst b1;exact dI ⟨gM ⟨.r,.r,.ar,.r,.r,.ar,.ar,.ar,.r,.r,.ar,.ar,.ar,.ar,.r,trivial⟩,.ar,.r,trivial⟩
 rename_i aH;rw[List.length_map,List.length_map]at h;simp only[aH,h,cond_false]at b1;clear h;have cR:B=true:=by
  cases B
  ·cases aH
  ·rfl
 repeat' ((conv=>whnf);first| (refine be ?_ ?_<;>intro h)|refine And.intro (by kernel_rfl) ?_|refine .inl ⟨_,_,aD _,nF _ (by omega),?_⟩|refine .inl ⟨_,_,aD _,acZ,?_⟩|refine .inl ⟨_,_,aD _,KN,?_⟩|refine .inr ⟨[2],_,_,_,_,_,ac0,by rfl,⟨.r,trivial⟩,⟨.r,.r,.r,.r,.r,.r,trivial⟩,?_⟩|refine .inr ⟨[2],_,_,_,_,_,ac1,by rfl,⟨.r,trivial⟩,⟨.r,trivial⟩,?_⟩|refine .inr ⟨[2,6],_,_,_,_,_,ac2 cR,by rfl,⟨.r,.r,trivial⟩,⟨.r,trivial⟩,?_⟩|fail)
 all_goals(conv=>whnf)
 all_goals(simp only[h,cond_true,cond_false]at b1)
 all_goals subst b1
 all_goals exact .refl
def lx(s:bj)(m:dx):bj:=bif decide ((gQ s.view s.box ⟨m.src,m.cut⟩).2=0)then {s with box:=(gQ s.view s.box ⟨m.src,m.cut⟩).1}else s
theorem ac3(s:bj)(ag:dt s)(m:dx)(al:m.cut.length<=1000)(h1:eS s=true)(ad:m.view=s.view.num)(aC:eX s.view m=true)(bh:m.src≠s.self)(bL:s.dec=[])(c0:m.kind=1):
  bg Tryz.prog 88 [.agg (cG s),.agg (m4 m)] (.a1 [.agg (cG (dz (lx s m) []).1),.aq 7 ((dz (lx s m) []).2.map ei) false,i64 0]):=by
 have ac:=ag.mem;have eE:=mA s ag;have hs:=vn s.view (by omega) m (by omega);have kt:=tY s ag;have KN:=RS s.view (by omega) s.box (by have:=ag.box;omega) (fun b ae=>by have:=ag.iB b ae;omega) ⟨m.src,m.cut⟩ (by simp only[];omega);have uV:=R9 h1;have iv:dt (lx s m):=by
  unfold lx;cases decide ((gQ s.view s.box ⟨m.src,m.cut⟩).2=0)
  ·exact ag
  ·exact⟨ag.mem,ag.fk,ag.prop,by
    have:=Sa (v:=s.view) (l:=s.box) (b:=⟨m.src,m.cut⟩);simp only[cond_true];omega,Sb ag.iB al,ag.br,ag.j8,ag.ct,ag.aR,ag.ia,ag.dec⟩
 have l8:=FI _ iv;have bt:decide ((gQ s.view s.box ⟨m.src,m.cut⟩).2=0)=true->lx s m= {s with box:=(gQ s.view s.box ⟨m.src,m.cut⟩).1}:=fun h=>by rw[lx,h,cond_true]
 have aS:decide ((gQ s.view s.box ⟨m.src,m.cut⟩).2=0)=false->lx s m=s:=fun h=>by rw[lx,h,cond_false]
 have ac4:decide ((gQ s.view s.box ⟨m.src,m.cut⟩).2=0)=true->b0 Tryz.prog 154 [.cells 210 (cG {s with box:=(gQ s.view s.box ⟨m.src,m.cut⟩).1}++ [.ar])] [.aP 0 0] [false] [.bd] (.a1 [.agg (cG (dz (lx s m) []).1),.aq 7 ((dz (lx s m) []).2.map ei) false]):=fun h=>by
  have:=l8;rw[bt h]at this⊢;exact this
 have ac5:decide ((gQ s.view s.box ⟨m.src,m.cut⟩).2=0)=false->b0 Tryz.prog 154 [.cells 210 (cG s++ [.ar])] [.aP 0 0] [false] [.bd] (.a1 [.agg (cG (dz (lx s m) []).1),.aq 7 ((dz (lx s m) []).2.map ei) false]):=fun h=>by
  have:=l8;rw[aS h]at this⊢;exact this
 clear l8 bt aS iv;generalize dz (lx s m) []=E at *;generalize gQ s.view s.box ⟨m.src,m.cut⟩=X at *;rw[h1]at eE;rw[aC]at hs;have Cb:decide (m.src=s.self)=false:=decide_eq_false bh;have mC:decide (m.view=s.view.num)=true:=decide_eq_true ad;have ku:decide (0<((s.dec.map aM).length:Int))=false:=by rw[bL];rfl
 have KO:decide (m.kind=1)=true:=decide_eq_true c0;refine bw Tryz.func88 ?_;repeat' ((conv=>whnf);first|refine bc ?_|refine eC (by assumption) ?_|refine dE (by assumption) ?_| (refine be ?_ ?_<;>intro h)|exact .refl|refine And.intro (by kernel_rfl) ?_|refine And.intro ⟨fun h=>h,fun h=>h⟩ ?_|refine .inl ⟨_,_,aD _,eE,?_⟩|refine .inl ⟨_,_,aD _,hs,?_⟩|refine .inl ⟨_,_,aD _,kt,?_⟩|refine .inl ⟨_,_,aD _,KN,?_⟩|refine .inr ⟨[3],_,_,_,_,_,ac4 (by assumption),by rfl,⟨.r,trivial⟩,⟨.r,trivial⟩,?_⟩|refine .inr ⟨[3],_,_,_,_,_,ac5 (by assumption),by rfl,⟨.r,trivial⟩,⟨.r,trivial⟩,?_⟩|fail)
 all_goals(conv=>whnf)
 rw[mC]at h;cases h
theorem ac6(a b:aQ)(aZ:a.mem.length<=maxLen):bg Tryz.prog 19 [.agg (bN a),.agg (bN b)] (.v (.bool (decide (a.num=b.num)&&fK a.mem b.mem))):=by
 refine bw Tryz.func19 ?_;repeat' ((conv=>whnf);first|refine bc ?_|exact .refl|refine And.intro ⟨fun h=>h,fun h=>h⟩ ?_|refine⟨_,_,aD _,fun _=>aap _ _ aZ,?_⟩|fail)
theorem ac7{s:bj}(h1:s.view.mem.length<=1000)(ad:s.aL.cut.length<=1000)(aC:s.prop.length<=1000)(bh:s.box.length<=1000)(bL:∀b∈s.box,b.cut.length<=1000)(c0:s.br=[])(fo:s.ct.length<=1000)(r1:s.aR=[])(hn:s.dec.length<=1000):dt s:=
 ⟨h1,ad,aC,bh,bL,(by rw[c0];exact Nat.zero_le _),(fun b ae=>by rw[c0]at ae;cases ae),fo,(by rw[r1];exact Nat.zero_le _),(fun b ae=>by rw[r1]at ae;cases ae),hn⟩
theorem zs{l:List cb}{x:Int}(h:decide (0<=dV l x)=true):dV l x=((dV l x).toNat:Int)/\(dV l x).toNat<l.length:=by
 have h:=of_decide_eq_true h;refine⟨by omega,?_⟩;unfold dV at h⊢;rcases aI: (List.range l.length).find? (fun i=>decide ((l.getD i cI).mem=x))with _|n
 ·simp only[jv,aI]at h;omega
 ·have aS:n<l.length:=List.mem_range.1 (List.mem_of_find?_eq_some aI);simp only[jv,aI,Int.toNat_natCast];exact aS
theorem j9{t:TypeId}{cs ds:List aj}(h:lI cs ds):fF (.cells t cs) (.cells t ds):=.cells (tC h).1 (tC h).2
def e6(v:aQ)(l:List cb)(r:cb):List cb:=
 bif decide (0<=dV l r.mem)then(bif decide ((l.getD (dV l r.mem).toNat cI).aB<r.aB)then l.set (dV l r.mem).toNat r else l)else(fc v l r).1
theorem ac8(s:bj)(ag:dt s)(bY:fC s.view s.aR=true)(r:cb)(ao:r.cut.length<=1000):
  b0 Tryz.prog 153 [.cells 210 (mB s 1++ [.ar]),.row 179 3 (s.aR.map bG)] [.aP 0 0,.agg (bG r)] [true,false] [.cells 210 (mB s 3++ [.ar]),.gone,.bd,.row 179 3 ((e6 s.view s.aR r).map bG)] (.a1 []):=by
 have KP:=B3 s.aR (dF ag.aR) r.mem;have Cc:=RZ s.view (by have:=ag.mem;omega) s.aR (by have:=ag.aR;omega) (fun b ae=>by have:=ag.ia b ae;omega) r (by omega) bY;have h6:= @zs s.aR r.mem;have k1:decide (0<=dV s.aR r.mem)=true->decide ((s.aR.getD (dV s.aR r.mem).toNat cI).aB<r.aB)=true->e6 s.view s.aR r=s.aR.set (dV s.aR r.mem).toNat r:=fun h1 ad=>by rw[e6,h1,ad];rfl
 have k2:decide (0<=dV s.aR r.mem)=true->decide ((s.aR.getD (dV s.aR r.mem).toNat cI).aB<r.aB)=false->e6 s.view s.aR r=s.aR:=fun h1 ad=>by rw[e6,h1,ad];rfl
 have xi:decide (0<=dV s.aR r.mem)=false->e6 s.view s.aR r=(fc s.view s.aR r).1:=fun h1=>by rw[e6,h1];rfl
 generalize e6 s.view s.aR r=E at *;generalize fc s.view s.aR r=R at *;refine hd Tryz.func153 ?_;repeat' ((conv=>whnf);first| (refine be ?_ ?_<;>intro h)|refine And.intro (by kernel_rfl) ?_|refine .inl ⟨_,_,aD _,nF _ (by omega),?_⟩|refine .inl ⟨_,_,aD _,KP,?_⟩|fail)
 all_goals(conv=>whnf)
 ·have aH:=h;clear h;obtain⟨fT,lm⟩:=h6 aH;have k1:=k1 aH;have k2:=k2 aH;clear h6 xi Cc;generalize(dV s.aR r.mem).toNat=k at *;have e8:k<(s.aR.map bG).length:=by rw[List.length_map];exact lm
  have ax:s.aR.getD k cI=s.aR[k]:=by simp[lm]
  have b7: (s.aR.map bG)[k]?=some (bG s.aR[k]):=cE lm;rw[ax]at k1 k2;repeat' ((conv=>whnf);first| (refine be ?_ ?_<;>intro h)|refine And.intro (by kernel_rfl) ?_|refine⟨k,And.intro ⟨fT,e8⟩ ?_⟩|refine⟨bG s.aR[k],And.intro b7 ?_⟩|fail)
  all_goals(conv=>whnf)
  ·rw[k1 h];refine⟨[.fresh 179 3,.dQ 1 5,.dQ 3 5,.mm 1],?_⟩;conv=>whnf
   refine⟨.r,⟨.r,.r,k7,ch ?_,trivial⟩,by rfl⟩;rw[List.map_set];rfl
  ·rw[k2 h];refine⟨[.fresh 179 3,.dQ 1 5,.dQ 3 5,.mm 1],?_⟩;conv=>whnf
   exact⟨.r,⟨.r,.r,k7,.r,trivial⟩,by rfl⟩
 ·rw[xi h];clear k1 k2 xi h6;repeat' ((conv=>whnf);first|refine And.intro (by kernel_rfl) ?_|refine .inr ?_<;> (conv=>whnf)<;>refine .inr ?_<;> (conv=>whnf)<;>refine⟨_,_,_,Cc,by rfl,⟨.r,.r,.r,trivial⟩,?_⟩|fail)
  all_goals(conv=>whnf)
  refine⟨[.dQ 3 5],?_⟩;conv=>whnf
  exact⟨.r,⟨.r,.r,k7,.r,trivial⟩,by rfl⟩
theorem ac9(s:bj)(ag:dt s)(bY:fC s.view s.aR=true)(r:cb)(ao:r.cut.length<=1000):
  b0 Tryz.prog 153 [.cells 210 (mB s 1++ [.ar]),.row 179 3 (s.aR.map bG)] [.aP 0 0,.agg (bG r)] [true,false] [.cells 210 (mB s 2++ [.ar]),.gone,.row 179 3 ((e6 s.view s.aR r).map bG)] (.a1 []):=
 (ac8 s ag bY r ao).wZ (L1:=[.cells 210 (mB s 3++ [.ar]),.gone]) (tD:=[.row 179 3 ((e6 s.view s.aR r).map bG)]) (Nat.le_refl _)
theorem KQ(s:bj)(ag:dt s)(bY:fC s.view s.aR=true)(r:cb)(ao:r.cut.length<=1000):
  b0 Tryz.prog 153 [.cells 210 (mB s 1++ [.ar]),.row 179 3 (s.aR.map bG)] [.aP 0 0,.agg (bG r)] [true,false] [.cells 210 (cG {s with aR:=e6 s.view s.aR r}++ [.ar]),.gone] (.a1 []):=by
 have KP:=B3 s.aR (dF ag.aR) r.mem;have Cc:=RZ s.view (by have:=ag.mem;omega) s.aR (by have:=ag.aR;omega) (fun b ae=>by have:=ag.ia b ae;omega) r (by omega) bY;have h6:= @zs s.aR r.mem;have k1:decide (0<=dV s.aR r.mem)=true->decide ((s.aR.getD (dV s.aR r.mem).toNat cI).aB<r.aB)=true->e6 s.view s.aR r=s.aR.set (dV s.aR r.mem).toNat r:=fun h1 ad=>by rw[e6,h1,ad];rfl
 have k2:decide (0<=dV s.aR r.mem)=true->decide ((s.aR.getD (dV s.aR r.mem).toNat cI).aB<r.aB)=false->e6 s.view s.aR r=s.aR:=fun h1 ad=>by rw[e6,h1,ad];rfl
 have xi:decide (0<=dV s.aR r.mem)=false->e6 s.view s.aR r=(fc s.view s.aR r).1:=fun h1=>by rw[e6,h1];rfl
 generalize e6 s.view s.aR r=E at *;generalize fc s.view s.aR r=R at *;refine hd Tryz.func153 ?_;repeat' ((conv=>whnf);first| (refine be ?_ ?_<;>intro h)|refine And.intro (by kernel_rfl) ?_|refine .inl ⟨_,_,aD _,nF _ (by omega),?_⟩|refine .inl ⟨_,_,aD _,KP,?_⟩|fail)
 all_goals(conv=>whnf)
 ·have aH:=h;clear h;obtain⟨fT,lm⟩:=h6 aH;have k1:=k1 aH;have k2:=k2 aH;clear h6 xi Cc;generalize(dV s.aR r.mem).toNat=k at *;have e8:k<(s.aR.map bG).length:=by rw[List.length_map];exact lm
  have ax:s.aR.getD k cI=s.aR[k]:=by simp[lm]
  have b7: (s.aR.map bG)[k]?=some (bG s.aR[k]):=cE lm;rw[ax]at k1 k2;repeat' ((conv=>whnf);first| (refine be ?_ ?_<;>intro h)|refine And.intro (by kernel_rfl) ?_|refine⟨k,And.intro ⟨fT,e8⟩ ?_⟩|refine⟨bG s.aR[k],And.intro b7 ?_⟩|fail)
  all_goals(conv=>whnf)
  ·rw[k1 h];refine⟨[.np 0 12,.mm 1],?_⟩;conv=>whnf
   refine⟨.r,⟨j9 ⟨.r,.r,.r,.r,.r,.r,.r,.r,.r,.r,.r,.r,hT ?_,.r,.r,.r,trivial⟩,.r,k7,trivial⟩,by rfl⟩;rw[List.map_set];rfl
  ·rw[k2 h];refine⟨[.np 0 12,.mm 1],?_⟩;conv=>whnf
   exact⟨.r,⟨.r,.r,k7,trivial⟩,by rfl⟩
 ·rw[xi h];clear k1 k2 xi h6;repeat' ((conv=>whnf);first|refine And.intro (by kernel_rfl) ?_|refine .inr ?_<;> (conv=>whnf)<;>refine .inr ?_<;> (conv=>whnf)<;>refine⟨_,_,_,Cc,by rfl,⟨.r,.r,.r,trivial⟩,?_⟩|fail)
  all_goals(conv=>whnf)
  refine⟨[.dQ 1 5,.np 0 12,.mm 1],?_⟩;conv=>whnf
  exact⟨.r,⟨.r,.r,k7,trivial⟩,by rfl⟩
def oc(s:bj):bj:={s with phase:=0,br:=[],ct:=[]}
theorem ada(s:bj):b0 Tryz.prog 194 [.cells 210 (cG s++ [.ar])] [.aP 0 0] [true] [.cells 210 (cG (oc s)++ [.ar])] (.a1 []):=by
 refine hd Tryz.func194 ?_;repeat' ((conv=>whnf);first|refine bc ?_|fail)
 all_goals(conv=>whnf)
 all_goals(refine⟨[],?_⟩)
 all_goals(conv=>whnf)
 all_goals(exact⟨.r,⟨j9 ⟨.r,.r,.r,.r,.r,.r,.r,.r,.r,.r,.ar,.ar,.r,.r,.r,.r,trivial⟩,.r,trivial⟩,by rfl⟩)
theorem adb(s:bj):b0 Tryz.prog 194 [.cells 210 (mB s 1++ [.ar]),.row 179 3 (s.aR.map bG)] [.aP 0 0] [true,true] [.cells 210 (mB (oc s) 1++ [.ar]),.row 179 3 (s.aR.map bG)] (.a1 []):=by
 refine hd Tryz.func194 ?_;repeat' ((conv=>whnf);first|refine bc ?_|fail)
 all_goals(conv=>whnf)
 all_goals(refine⟨[],?_⟩)
 all_goals(conv=>whnf)
 all_goals(exact⟨.r,⟨j9 ⟨.r,.r,.r,.r,.r,.r,.r,.r,.r,.r,.ar,.ar,.r,.r,.r,.r,trivial⟩,.r,.r,trivial⟩,by rfl⟩)
theorem adc(s:bj):b0 Tryz.prog 227 [.cells 210 (mB s 1++ [.ar]),.row 179 3 (s.aR.map bG)] [.aP 0 0] [true,true] [.cells 210 (mB s 1++ [.ar]),.row 179 3 (s.aR.map bG)] (i64 (fI s.view.mem.length)):=by
 have e:bg Tryz.prog 181 [i64 ((s.view.mem.map aM).length:Int)] (i64 (fI s.view.mem.length)):=by
  rw[List.length_map];exact BU _
 refine dw Tryz.func227 ?_;repeat' ((conv=>whnf);first|refine .inl ⟨_,_,aD _,e,?_⟩|fail)
 all_goals(conv=>whnf)
 exact⟨.r,⟨.r,.r,.r,trivial⟩,by rfl⟩
theorem KR{v:aQ}{l:List cb}{own:List Int}{N:Nat}(al:∀r∈l,r.cut.length<=N)(aF:own.length<=N): (fr v l own).1.length<=N:=by
 unfold fr;cases ob v l own
 ·rw[cond_false];cases decide (0<(l.getD (fb l l.length) cI).aB)
  ·rw[cond_false];cases aI: (eL l).find? (fun b=>decide (qD v l<=(gp (eL l) b.cut:Int)))with
   |some b=>exact RD al b (List.mem_of_find?_eq_some aI)
   |none=>
    cases decide ((own.length:Int)=0)
    ·exact aF
    ·exact Nat.zero_le _
  ·rw[cond_true];rcases Nat.lt_or_ge (fb l l.length) l.length with h|h
   ·simp only[List.getD_eq_getElem?_getD,List.getElem?_eq_getElem h,Option.getD_some];exact al _ (List.getElem_mem h)
   ·simp only[List.getD_eq_getElem?_getD,List.getElem?_eq_none h,Option.getD_none];exact Nat.zero_le _
 ·exact Nat.zero_le _
def gq(s:bj):bj:=
 bif !decide (s.phase=1)||decide ((s.br.length:Int)<fI s.view.mem.length)then s
 else bif (iy s.aL s.aB (fr s.view s.br s.prop).1).2 then
  {s with ct:=(fr s.view s.br s.prop).1,phase:=2,aL:=(iy s.aL s.aB (fr s.view s.br s.prop).1).1,aR:=e6 s.view s.aR ⟨s.self,s.aB,(fr s.view s.br s.prop).1⟩}
 else oc s
theorem Sc(s:bj)(ag:dt s)(bY:fC s.view s.aR=true):b0 Tryz.prog 196 [.cells 210 (mB s 1++ [.ar]),.row 179 3 (s.aR.map bG)] [.aP 0 0] [true,false] [.cells 210 (cG (gq s)++ [.ar]),.gone] (.a1 []):=by
 have az:=adc s;have fU:=KR (v:=s.view) (l:=s.br) (own:=s.prop) ag.j8 ag.prop;have aG:=ab7 s.view (by have:=ag.mem;omega) s.br (by have:=ag.br;omega) (fun b ae=>by have:=ag.j8 b ae;omega) s.prop (by have:=ag.prop;omega);have Sd: (!decide (s.phase=1)||decide ((s.br.length:Int)<fI s.view.mem.length))=true->gq s=s:=fun h=>by rw[gq,h,cond_true]
 have k1: (!decide (s.phase=1)||decide ((s.br.length:Int)<fI s.view.mem.length))=false->(iy s.aL s.aB (fr s.view s.br s.prop).1).2=true->gq s= {s with ct:=(fr s.view s.br s.prop).1,phase:=2,aL:=(iy s.aL s.aB (fr s.view s.br s.prop).1).1,aR:=e6 s.view s.aR ⟨s.self,s.aB,(fr s.view s.br s.prop).1⟩}:=fun h ad=>by rw[gq,h,ad,cond_false,cond_true]
 have k2: (!decide (s.phase=1)||decide ((s.br.length:Int)<fI s.view.mem.length))=false->(iy s.aL s.aB (fr s.view s.br s.prop).1).2=false->gq s=oc s:=fun h ad=>by rw[gq,h,ad,cond_false,cond_false]
 generalize fr s.view s.br s.prop=C at *;have a7:=Rv s.aL (by have:=ag.fk;omega) s.aB C.1 (by omega);have h7:=Fx (aB:=s.aB) ag.fk fU;generalize iy s.aL s.aB C.1=X at *;have b5:=adb {s with ct:=C.1,phase:=2};have iv:dt {s with ct:=C.1,phase:=2,aL:=X.1}:=⟨ag.mem,h7,ag.prop,ag.box,ag.iB,ag.br,ag.j8,fU,ag.aR,ag.ia,ag.dec⟩
 have du:=KQ _ iv bY ⟨s.self,s.aB,C.1⟩ fU;generalize gq s=A at *;refine hd Tryz.func196 ?_;repeat' ((conv=>whnf);first|refine bc ?_| (refine be ?_ ?_<;>intro h)|refine And.intro (by kernel_rfl) ?_|refine Exists.intro (i64 0) ?_|refine And.intro ⟨fun h=>h,fun ax=>Bool.noConfusion (ax.symm.trans h)⟩ ?_|refine .inl ⟨[0,1],_,_,_,_,az,by rfl,⟨rfl,rfl,trivial⟩,⟨.r,trivial⟩,?_⟩|refine .inl ⟨_,_,aD _,aG,?_⟩|refine .inl ⟨_,_,aD _,a7,?_⟩|refine .inr ⟨[0,1],_,_,_,_,_,b5,by rfl,⟨.r,.r,trivial⟩,⟨.r,trivial⟩,?_⟩|refine .inr ⟨[0,1],_,_,_,_,_,du,by rfl,⟨.r,.r,trivial⟩,⟨.r,.r,trivial⟩,?_⟩|fail)
 all_goals(conv=>whnf)
 all_goals simp only[List.length_map]at *
 ·rw[Sd (by assumption)];refine⟨[.np 0 12,.mm 1],?_⟩;conv=>whnf
  exact⟨.r,⟨.r,.r,k7,trivial⟩,by rfl⟩
 ·rename_i h1 ad;rw[k2 h (by simpa using ad)];refine⟨[.np 0 12,.mm 1],?_⟩;conv=>whnf
  exact⟨.r,⟨.r,.r,k7,trivial⟩,by rfl⟩
 ·rename_i h1 ad;rw[k1 h (by simpa using ad)];refine⟨[],?_⟩;conv=>whnf
  exact⟨.r,⟨.r,.r,k7,trivial⟩,by rfl⟩
 ·rename_i h1;rw[Sd (by simp at h1;simp[h1])];refine⟨[.np 0 12,.mm 1],?_⟩;conv=>whnf
  exact⟨.r,⟨.r,.r,k7,trivial⟩,by rfl⟩
 all_goals
  rename_i h1 ad;simp at h1 h;exact absurd h h1
theorem ade(s:bj)(aX:List dy):b0 Tryz.prog 194 [.cells 210 (cG s++ [.own 1]),.row 218 7 (aX.map ei)] [.aP 0 0] [true,true] [.cells 210 (cG (oc s)++ [.own 1]),.row 218 7 (aX.map ei)] (.a1 []):=by
 refine hd Tryz.func194 ?_;repeat' ((conv=>whnf);first|refine bc ?_|fail)
 all_goals(conv=>whnf)
 all_goals(refine⟨[],?_⟩)
 all_goals(conv=>whnf)
 all_goals(exact⟨.r,⟨j9 ⟨.r,.r,.r,.r,.r,.r,.r,.r,.r,.r,.ar,.ar,.r,.r,.r,.r,trivial⟩,.r,.r,trivial⟩,by rfl⟩)
def jV(s:bj)(m:dx):bj×List dy:=
 (bif decide (s.aB<m.aB)&& !decide (s.phase=0)then oc (bif (hq s.aL m.aB).2.2 then {s with aL:=(hq s.aL m.aB).1}else s)else(bif (hq s.aL m.aB).2.2 then {s with aL:=(hq s.aL m.aB).1}else s),
  bif (hq s.aL m.aB).2.2 then [ef s m.src 3 m.aB (hq s.aL m.aB).2.1.aB (hq s.aL m.aB).2.1.cut]else [])
theorem adf(s:bj)(ag:dt s)(m:dx):b0 Tryz.prog 150 [.cells 210 (cG s++ [.ar])] [.aP 0 0,.agg (m4 m)] [true] [.cells 210 (cG (jV s m).1++ [.own 2]),.bd,.row 218 7 ((jV s m).2.map ei)] (.a1 []):=by
 have az:=Ru s.aL (by have:=ag.fk;omega) m.aB;have dk:=(Fw (aB:=m.aB) ag.fk).2;obtain⟨R,b1⟩:∃R,R=jV s m:=⟨_,rfl⟩
 rw[<-b1];unfold jV at b1;generalize hq s.aL m.aB=X at *;have aG:=FH {s with aL:=X.1} m.src 3 m.aB X.2.1.aB X.2.1.cut (by omega);have a7:=ade {s with aL:=X.1} [ef s m.src 3 m.aB X.2.1.aB X.2.1.cut];have b5:=ada s;refine hd Tryz.func150 ?_;repeat' ((conv=>whnf);first|refine bc ?_| (refine be ?_ ?_<;>intro h)|refine And.intro (by kernel_rfl) ?_|refine .inl ⟨_,_,aD _,az,?_⟩|refine .inr ⟨[0],_,_,_,_,_,aG,by rfl,⟨.r,trivial⟩,⟨.r,.r,.r,.r,.r,.r,trivial⟩,?_⟩|refine .inr ⟨[0,7],_,_,_,_,_,a7,by rfl,⟨.r,.r,trivial⟩,⟨.r,trivial⟩,?_⟩|refine .inr ⟨[0],_,_,_,_,_,b5,by rfl,⟨.r,trivial⟩,⟨.r,trivial⟩,?_⟩|fail)
 all_goals(conv=>whnf)
 all_goals simp only[List.length_map]at *
 all_goals(simp only[*,cond_true,cond_false]at b1)
 all_goals subst b1
 ·(refine⟨[.dQ 2 7],?_⟩; (conv=>whnf);exact⟨.r,⟨.r,.r,.r,trivial⟩,by rfl⟩)
 ·(refine⟨[.dQ 2 7],?_⟩; (conv=>whnf);exact⟨.r,⟨.r,.r,.r,trivial⟩,by rfl⟩)
 ·(refine⟨[.cell 0 15 218 7,.dQ 2 6],?_⟩; (conv=>whnf);exact⟨.r,⟨.r,.r,.r,trivial⟩,by rfl⟩)
 ·(refine⟨[.cell 0 15 218 7,.dQ 2 6],?_⟩; (conv=>whnf);exact⟨.r,⟨.r,.r,.r,trivial⟩,by rfl⟩)
theorem zt{v:aQ}{l:List cb}{r x:cb}(h:x∈ (fc v l r).1):x=r\/x∈l:=by
 unfold fc at h;cases h1:fC v l with
 |false=>simp[h1]at h
 |true=>
  cases ad:fC v (j7 l r)with
  |false=>simp[h1,ad]at h;exact .inr h
  |true=>simp[h1,ad]at h;exact BX h
theorem KS{v:aQ}{l:List cb}{r:cb}(h:fC v l=true):fC v (fc v l r).1=true:=by
 unfold fc;cases ad:fC v (j7 l r)with
 |false=>simp[h]
 |true=>simp[h,ad]
theorem KT{v:aQ}{l:List cb}{r:cb}: (fc v l r).1.length<=l.length+1:=by
 have:=Kj l r;unfold fc;cases fC v l<;>cases fC v (j7 l r)<;>simp<;>omega
theorem Se{l:List cb}{x:Int}(h:decide (0<=dV l x)=true): (l.getD (dV l x).toNat cI).mem=x:=by
 have h:=of_decide_eq_true h;unfold dV at h⊢;rcases aI: (List.range l.length).find? (fun i=>decide ((l.getD i cI).mem=x))with _|n
 ·simp only[jv,aI]at h;omega
 ·have aS:=List.find?_some aI;simp only[jv,aI,Int.toNat_natCast];exact of_decide_eq_true aS
theorem Cd{v:aQ}{l:List cb}{r x:cb}(h:x∈e6 v l r):x=r\/x∈l:=by
 unfold e6 at h;cases h1:decide (0<=dV l r.mem)
 ·rw[h1]at h;exact zt h
 ·rw[h1,cond_true]at h;cases ad:decide ((l.getD (dV l r.mem).toNat cI).aB<r.aB)
  ·rw[ad]at h;exact .inr h
  ·rw[ad]at h;rcases List.mem_or_eq_of_mem_set h with h|h
   ·exact .inr h
   ·exact .inl h
theorem KU{v:aQ}{l:List cb}{r:cb}: (e6 v l r).length<=l.length+1:=by
 unfold e6;have:= @KT v l r;cases decide (0<=dV l r.mem)
 ·exact this
 ·cases decide ((l.getD (dV l r.mem).toNat cI).aB<r.aB)
  ·simp
  ·simp
theorem adg{v:aQ}(ac:bX v=true){l:List cb}{r:cb}(h:fC v l=true)(ao:kP v r=true){k:Nat}(hk:k<l.length)(he:l[k].mem=r.mem):fC v (l.set k r)=true:=by
 obtain⟨h1,ad⟩:=(qE ac).1 h;refine(qE ac).2 ⟨fun x an=> ?_,?_⟩
 ·rcases List.mem_or_eq_of_mem_set an with an|rfl
  ·exact h1 x an
  ·exact ao
 ·rw[List.pairwise_iff_getElem]at ad⊢;intro i j ab ai dS;rw[List.length_set]at ab ai;have:=ad i j ab ai dS;rw[List.getElem_set,List.getElem_set];split<;>split
  ·omega
  ·rename_i e _;subst e;omega
  ·rename_i e;subst e;omega
  ·exact this
theorem Sf{v:aQ}(ac:bX v=true){l:List cb}{r:cb}(h:fC v l=true)(ao:kP v r=true):fC v (e6 v l r)=true:=by
 unfold e6;cases h1:decide (0<=dV l r.mem)
 ·exact KS h
 ·cases decide ((l.getD (dV l r.mem).toNat cI).aB<r.aB)
  ·exact h
  ·obtain⟨_,hk⟩:=zs h1;have:=Se h1;rw[show l.getD (dV l r.mem).toNat cI=l[(dV l r.mem).toNat] by simp[hk]]at this;exact adg ac h ao hk this
theorem tZ(s:bj)(cZ kind aB cq:Int)(cut:List Int)(al:cut.length<=1000000):
  b0 Tryz.prog 148 [.cells 210 (cG s++ [.ar])] [.aP 0 0,i64 cZ,i64 kind,i64 aB,i64 cq,.aq 1 (cut.map aM) false] [true] [.cells 210 (cG s++ [.own 1]),.row 218 7 [ei (ef s cZ kind aB cq cut)]] (.a1 []):=
 (FH s cZ kind aB cq cut al).wZ (L1:=[.cells 210 (cG s++ [.own 2])]) (tD:=[.row 218 7 [ei (ef s cZ kind aB cq cut)]]) (Nat.le_refl _)
def kQ(s:bj)(m:dx):bj×List dy:=
 bif !decide (s.phase=1)|| !decide (m.aB=s.aB)then(s,[])
 else(gq {s with br:=(fc s.view s.br ⟨m.src,m.cq,m.cut⟩).1},
  bif decide ((gq {s with br:=(fc s.view s.br ⟨m.src,m.cq,m.cut⟩).1}).phase=2)then [ef (gq {s with br:=(fc s.view s.br ⟨m.src,m.cq,m.cut⟩).1}) 0 4 (gq {s with br:=(fc s.view s.br ⟨m.src,m.cq,m.cut⟩).1}).aB 0 (gq {s with br:=(fc s.view s.br ⟨m.src,m.cq,m.cut⟩).1}).ct]else [])
theorem adh{s:bj}(ag:dt s): (gq s).ct.length<=1000:=by
 unfold gq;cases !decide (s.phase=1)||decide ((s.br.length:Int)<fI s.view.mem.length)
 ·cases (iy s.aL s.aB (fr s.view s.br s.prop).1).2
  ·exact Nat.zero_le _
  ·exact KR ag.j8 ag.prop
 ·exact ag.ct
theorem adi(s:bj)(ag:dt s)(bY:fC s.view s.aR=true)(fp:s.br.length<=900)(m:dx)(al:m.cut.length<=1000):b0 Tryz.prog 151 [.cells 210 (mB s 1++ [.ar]),.row 179 3 (s.aR.map bG)] [.aP 0 0,.agg (m4 m)] [true,false] [.cells 210 (cG (kQ s m).1++ [.own 3]),.gone,.bd,.row 218 7 ((kQ s m).2.map ei)] (.a1 []):=by
 have az:=acg s.view (by have:=ag.mem;omega) s.br (by have:=ag.br;omega) (fun b ae=>by have:=ag.j8 b ae;omega) ⟨m.src,m.cq,m.cut⟩ (by simp only[];omega);have gh:= @KT s.view s.br ⟨m.src,m.cq,m.cut⟩;have fh:∀x∈ (fc s.view s.br ⟨m.src,m.cq,m.cut⟩).1,x.cut.length<=1000:=fun x an=>by
  rcases zt an with rfl|an
  ·exact al
  ·exact ag.j8 x an
 obtain⟨R,b1⟩:∃R,R=kQ s m:=⟨_,rfl⟩
 rw[<-b1];unfold kQ at b1;generalize fc s.view s.br ⟨m.src,m.cq,m.cut⟩=X at *;have iv:dt {s with br:=X.1}:=⟨ag.mem,ag.fk,ag.prop,ag.box,ag.iB,(by simp only[];omega),fh,ag.ct,ag.aR,ag.ia,ag.dec⟩
 have aG:=Sc _ iv bY;have fU:=adh iv;generalize gq {s with br:=X.1}=A at *;have a7:=tZ A 0 4 A.aB 0 A.ct (by omega);refine hd Tryz.func151 ?_;repeat' ((conv=>whnf);first|refine bc ?_| (refine be ?_ ?_<;>intro h)|refine And.intro (by kernel_rfl) ?_|refine And.intro ⟨fun h=>h,fun h=>h⟩ ?_|refine .inl ⟨_,_,aD _,az,?_⟩|refine .inr ⟨[0,1],_,_,_,_,_,aG,by rfl,⟨.r,.r,trivial⟩,⟨.r,trivial⟩,?_⟩|refine .inr ⟨[0],_,_,_,_,_,a7,by rfl,⟨.r,trivial⟩,⟨.r,.r,.r,.r,.r,.r,trivial⟩,?_⟩|fail)
 all_goals(conv=>whnf)
 all_goals simp only[*,cond_true,cond_false]at b1
 all_goals subst b1
 ·(refine⟨[.np 0 12,.mm 1,.cell 0 15 218 7,.dQ 3 4],?_⟩; (conv=>whnf);exact⟨.r,⟨.r,.r,k7,.r,trivial⟩,by rfl⟩)
 ·(refine⟨[.dQ 3 5],?_⟩; (conv=>whnf);exact⟨.r,⟨.r,.r,k7,.r,trivial⟩,by rfl⟩)
 ·(refine⟨[.cell 0 15 218 7,.dQ 3 5],?_⟩; (conv=>whnf);exact⟨.r,⟨.r,.r,k7,.r,trivial⟩,by rfl⟩)
def kR(s:bj)(m:dx):bj×List dy:=
 bif (iy s.aL m.aB m.cut).2 then({s with aL:=(iy s.aL m.aB m.cut).1,aR:=e6 s.view (e6 s.view s.aR ⟨m.src,m.aB,m.cut⟩) ⟨s.self,m.aB,m.cut⟩},[ef s 0 5 m.aB 0 m.cut])
 else({s with aR:=e6 s.view s.aR ⟨m.src,m.aB,m.cut⟩},[])
theorem adj(s:bj)(ag:dt s)(ac:bX s.view=true)(bY:fC s.view s.aR=true)(h7:s.aR.length<=900)(m:dx)(al:m.cut.length<=1000)(ao:kP s.view ⟨m.src,m.aB,m.cut⟩=true):b0 Tryz.prog 152 [.cells 210 (mB s 1++ [.ar]),.row 179 3 (s.aR.map bG)] [.aP 0 0,.agg (m4 m)] [true,false] [.cells 210 (cG (kR s m).1++ [.own 3]),.gone,.bd,.row 218 7 ((kR s m).2.map ei)] (.a1 []):=by
 have az:=ac9 s ag bY ⟨m.src,m.aB,m.cut⟩ al;have aG:=Rv s.aL (by have:=ag.fk;omega) m.aB m.cut (by omega);have gh:= @KU s.view s.aR ⟨m.src,m.aB,m.cut⟩;have fh:∀x∈e6 s.view s.aR ⟨m.src,m.aB,m.cut⟩,x.cut.length<=1000:=fun x an=>by
  rcases Cd an with rfl|an
  ·exact al
  ·exact ag.ia x an
 have adk:=Sf ac bY ao;have adl:=Fx (aB:=m.aB) ag.fk al;obtain⟨R,b1⟩:∃R,R=kR s m:=⟨_,rfl⟩
 rw[<-b1];unfold kR at b1;generalize iy s.aL m.aB m.cut=X at *;generalize e6 s.view s.aR ⟨m.src,m.aB,m.cut⟩=E at *;have iv:dt {s with aL:=X.1,aR:=E}:=⟨ag.mem,adl,ag.prop,ag.box,ag.iB,ag.br,ag.j8,ag.ct,(by simp only[];omega),fh,ag.dec⟩
 have a7:=KQ _ iv adk ⟨s.self,m.aB,m.cut⟩ al;have b5:=tZ {s with aL:=X.1,aR:=e6 s.view E ⟨s.self,m.aB,m.cut⟩} 0 5 m.aB 0 m.cut (by omega);refine hd Tryz.func152 ?_;repeat' ((conv=>whnf);first| (refine be ?_ ?_<;>intro h)|refine And.intro (by kernel_rfl) ?_|refine .inr ⟨[0,1],_,_,_,_,_,az,by rfl,⟨.r,.r,trivial⟩,⟨.r,.r,trivial⟩,?_⟩|refine .inl ⟨_,_,aD _,aG,?_⟩|refine .inr ⟨[0,4],_,_,_,_,_,a7,by rfl,⟨.r,.r,trivial⟩,⟨.r,.r,trivial⟩,?_⟩|refine .inr ⟨[0],_,_,_,_,_,b5,by rfl,⟨.r,trivial⟩,⟨.r,.r,.r,.r,.r,.r,trivial⟩,?_⟩|fail)
 all_goals(conv=>whnf)
 all_goals simp only[*,cond_true,cond_false]at b1
 all_goals subst b1
 ·(refine⟨[.dQ 3 8],?_⟩; (conv=>whnf);exact⟨.r,⟨.r,.r,k7,.r,trivial⟩,by rfl⟩)
 ·(refine⟨[.np 0 12,.cell 0 15 218 7,.dQ 3 7],?_⟩; (conv=>whnf);exact⟨.r,⟨.r,.r,k7,.r,trivial⟩,by rfl⟩)
theorem FJ(s:bj)(ag:dt s):b0 Tryz.prog 147 [] [.agg (cG s)] [] [.row 179 3 (s.aR.map bG)] (.agg (mB s 0)):=by
 have h1:=(acO s ag).wZ (L1:=[]) (tD:=[.bd,.bd,.row 179 3 (s.aR.map bG)]) (Nat.le_refl _);have ad:=b0.wZ (L1:=[]) (tD:=[.bd,.row 179 3 (s.aR.map bG)]) (d:=.agg (mB s 2)) h1 (Nat.le_refl _);exact b0.wZ (L1:=[]) (tD:=[.row 179 3 (s.aR.map bG)]) (d:=.agg (mB s 1)) ad (Nat.le_refl _)
theorem KV{s:bj}(ag:dt s):dt (oc s):=⟨ag.mem,ag.fk,ag.prop,ag.box,ag.iB,Nat.zero_le _,(fun b ae=>by cases ae),Nat.zero_le _,ag.aR,ag.ia,ag.dec⟩
theorem adm{s:bj}(ag:dt s)(m:dx):dt (jV s m).1:=by
 have h1:dt {s with aL:=(hq s.aL m.aB).1}:=⟨ag.mem,(Fw ag.fk).1,ag.prop,ag.box,ag.iB,ag.br,ag.j8,ag.ct,ag.aR,ag.ia,ag.dec⟩
 unfold jV;cases decide (s.aB<m.aB)&& !decide (s.phase=0)<;>cases (hq s.aL m.aB).2.2
 ·exact ag
 ·exact h1
 ·exact KV ag
 ·exact KV h1
theorem FK{s:bj}(ag:dt s){r:cb}(ao:r.cut.length<=1000)(af:s.aR.length<=900):dt {s with aR:=e6 s.view s.aR r}:=
 ⟨ag.mem,ag.fk,ag.prop,ag.box,ag.iB,ag.br,ag.j8,ag.ct,(by have:= @KU s.view s.aR r;simp only[];omega),(fun x an=>by
  rcases Cd an with rfl|an
  ·exact ao
  ·exact ag.ia x an),ag.dec⟩
theorem Sg{s:bj}(ag:dt s)(af:s.aR.length<=900):dt (gq s):=by
 have fU:=KR (v:=s.view) (l:=s.br) (own:=s.prop) ag.j8 ag.prop;unfold gq;cases !decide (s.phase=1)||decide ((s.br.length:Int)<fI s.view.mem.length)
 ·cases (iy s.aL s.aB (fr s.view s.br s.prop).1).2
  ·exact KV ag
  ·have h1:=FK (r:=⟨s.self,s.aB,(fr s.view s.br s.prop).1⟩) ag fU af;exact⟨ag.mem,Fx ag.fk fU,ag.prop,ag.box,ag.iB,ag.br,ag.j8,fU,h1.aR,h1.ia,ag.dec⟩
 ·exact ag
theorem adn{s:bj}(ag:dt s)(fp:s.br.length<=900)(af:s.aR.length<=900){m:dx}(al:m.cut.length<=1000):dt (kQ s m).1:=by
 unfold kQ;cases !decide (s.phase=1)|| !decide (m.aB=s.aB)
 ·refine Sg ⟨ag.mem,ag.fk,ag.prop,ag.box,ag.iB,(by have:= @KT s.view s.br ⟨m.src,m.cq,m.cut⟩;simp only[];omega),(fun x an=> ?_),ag.ct,ag.aR,ag.ia,ag.dec⟩ af;rcases zt an with rfl|an
  ·exact al
  ·exact ag.j8 x an
 ·exact ag
theorem ado{s:bj}(ag:dt s)(af:s.aR.length<=800){m:dx}(al:m.cut.length<=1000):dt (kR s m).1:=by
 have h1:=FK (r:=⟨m.src,m.aB,m.cut⟩) ag al (by omega);have ad:=FK (r:=⟨s.self,m.aB,m.cut⟩) h1 al (by have:= @KU s.view s.aR ⟨m.src,m.aB,m.cut⟩;simp only[];omega);unfold kR;cases (iy s.aL m.aB m.cut).2
 ·exact h1
 ·exact⟨ag.mem,Fx ag.fk al,ag.prop,ag.box,ag.iB,ag.br,ag.j8,ag.ct,ad.aR,ad.ia,ag.dec⟩
theorem Sh(s:bj)(m:dx): (jV s m).2.length<=100:=by
 unfold jV;cases (hq s.aL m.aB).2.2<;>simp
theorem Si(s:bj)(m:dx): (kQ s m).2.length<=100:=by
 unfold kQ;cases !decide (s.phase=1)|| !decide (m.aB=s.aB)
 ·cases decide ((gq {s with br:=(fc s.view s.br ⟨m.src,m.cq,m.cut⟩).1}).phase=2)<;>simp
 ·simp
theorem Sj(s:bj)(m:dx): (kR s m).2.length<=100:=by
 unfold kR;cases (iy s.aL m.aB m.cut).2<;>simp
theorem oW{v:aQ}{l:List cb}(h:fC v l=true):l.length<=16:=by
 have ac:bX v=true:=by
  simp only[fC,Bool.and_eq_true]at h;exact h.1
 have ad:=((qE ac).1 h)
 have aC: (l.map (·.mem)).Nodup:=by
  unfold List.Nodup;rw[List.pairwise_map];exact ad.2.imp fun h=>by omega
 have bh:=zq aC (b:=v.mem) (fun x an=>by
  obtain⟨r,ao,rfl⟩:=List.mem_map.1 an;have:=ad.1 r ao;simp only[kP,Bool.and_eq_true]at this;exact zr this.1)
 rw[List.length_map]at bh;have:=tV ac;omega
theorem xj{s:bj}(h:eS s=true):fC s.view s.br=true/\fC s.view s.aR=true/\tX s=true/\(∀i,i<s.aR.length->vq 1 s.aR i=true):=by
 unfold eS at h;cases h1: !bX s.view|| !bR s.view.mem s.self||decide (s.dn<0)||decide (1099511627776<s.dn)
 ·rw[h1,cond_false]at h;cases ad: (!jC s.aL|| !decide (s.aL.cc=0)&& !ev s.view s.aL.cc||decide (0<s.aL.aB)&& !ev s.view s.aL.aB|| !gO s.view s.aL.cut)
  ·rw[ad,cond_false]at h;cases aC: !gO s.view s.prop|| !gO s.view s.ct|| !gO s.view s.dec|| !fD s.view s.box
   ·rw[aC,cond_false]at h;cases bh: (fE s.box s.self).2&& !fK (fE s.box s.self).1 s.prop
    ·rw[bh,cond_false]at h;simp only[Bool.and_eq_true,qF]at h;exact⟨h.2.1.1.2,h.2.1.2.2,h.2.2,gB.1 h.1⟩
    ·rw[bh]at h;cases h
   ·rw[aC]at h;cases h
  ·rw[ad]at h;cases h
 ·rw[h1]at h;cases h
theorem adp{v:aQ}{m:dx}(h:eX v m=true)(hk:m.kind=4\/m.kind=5):kP v ⟨m.src,m.aB,m.cut⟩=true:=by
 unfold eX at h;cases h1: !bX v|| !bR v.mem m.src|| !decide (m.view=v.num)
 ·rw[h1,cond_false]at h;simp only[Bool.or_eq_false_iff,Bool.not_eq_false',decide_eq_true_eq]at h1;rcases hk with hk|hk<;>simp[hk]at h<;>simp only[kP,jB,ev,eM,Bool.and_eq_true,Bool.or_eq_true,Bool.not_eq_true',decide_eq_true_eq,decide_eq_false_iff_not]at h⊢
  ·exact⟨h1.1.2,.inr ⟨.inr h.1.1.1.1,h.2⟩⟩
  ·exact⟨h1.1.2,.inr ⟨.inr h.1.1.1,h.2⟩⟩
 ·rw[h1]at h;cases h
theorem adq(s:bj)(ag:dt s)(m:dx)(al:m.cut.length<=1000)(h1:eS s=true)(ad:m.view=s.view.num)(aC:eX s.view m=true)(bh:m.src≠s.self)(bL:s.dec=[])(c0:m.kind=2):
  bg Tryz.prog 88 [.agg (cG s),.agg (m4 m)] (.a1 [.agg (cG (dz (jV s m).1 (jV s m).2).1),.aq 7 ((dz (jV s m).1 (jV s m).2).2.map ei) false,i64 0]):=by
 have ac:=ag.mem;have eE:=mA s ag;have hs:=vn s.view (by omega) m (by omega);have kt:=tY s ag;have Ce:=(xh h1).1;obtain⟨qG,jW,_,_⟩:=xj h1;have FL:=oW qG;have Cf:=oW jW;have a7:=adf s ag m;have l8:=vr _ (adm ag m) (jV s m).2 (Sh s m);generalize dz (jV s m).1 (jV s m).2=E at *;generalize(jV s m)=X at *;rw[h1]at eE;rw[aC]at hs;have Cb:decide (m.src=s.self)=false:=decide_eq_false bh;have mC:decide (m.view=s.view.num)=true:=decide_eq_true ad;have ku:decide (0<((s.dec.map aM).length:Int))=false:=by rw[bL];rfl
 have FM:decide (m.kind=1)=false:=decide_eq_false (by omega);have FN:decide (m.kind=2)=true:=decide_eq_true c0;refine bw Tryz.func88 ?_;repeat' ((conv=>whnf);first|refine bc ?_|refine eC (by assumption) ?_|refine dE (by assumption) ?_| (refine be ?_ ?_<;>intro h)|exact .refl|refine And.intro ⟨fun h=>h,fun h=>h⟩ ?_|refine .inl ⟨_,_,aD _,eE,?_⟩|refine .inl ⟨_,_,aD _,hs,?_⟩|refine .inl ⟨_,_,aD _,kt,?_⟩|refine .inr ⟨[3],_,_,_,_,_,a7,by rfl,⟨.r,trivial⟩,⟨.r,.r,trivial⟩,?_⟩|refine .inr ⟨[3,5],_,_,_,_,_,l8,by rfl,⟨.r,.r,trivial⟩,⟨.r,trivial⟩,?_⟩|fail)
 all_goals(conv=>whnf)
 rw[mC]at h;cases h
theorem adr(s:bj)(ag:dt s)(m:dx)(al:m.cut.length<=1000)(h1:eS s=true)(ad:m.view=s.view.num)(aC:eX s.view m=true)(bh:m.src≠s.self)(bL:s.dec=[])(c0:m.kind=3):
  bg Tryz.prog 88 [.agg (cG s),.agg (m4 m)] (.a1 [.agg (cG (dz (kQ s m).1 (kQ s m).2).1),.aq 7 ((dz (kQ s m).1 (kQ s m).2).2.map ei) false,i64 0]):=by
 have ac:=ag.mem;have eE:=mA s ag;have hs:=vn s.view (by omega) m (by omega);have kt:=FJ s ag;have Ce:=(xh h1).1;obtain⟨qG,jW,_,_⟩:=xj h1;have FL:=oW qG;have Cf:=oW jW;have a7:=adi s ag jW (by omega) m al;have l8:=vr _ (adn ag (by omega) (by omega) al) (kQ s m).2 (Si s m);generalize dz (kQ s m).1 (kQ s m).2=E at *;generalize(kQ s m)=X at *;rw[h1]at eE;rw[aC]at hs;have Cb:decide (m.src=s.self)=false:=decide_eq_false bh;have mC:decide (m.view=s.view.num)=true:=decide_eq_true ad;have ku:decide (0<((s.dec.map aM).length:Int))=false:=by rw[bL];rfl
 have FM:decide (m.kind=1)=false:=decide_eq_false (by omega);have FN:decide (m.kind=2)=false:=decide_eq_false (by omega);have KW:decide (m.kind=3)=true:=decide_eq_true c0;refine bw Tryz.func88 ?_;repeat' ((conv=>whnf);first|refine bc ?_|refine eC (by assumption) ?_|refine dE (by assumption) ?_| (refine be ?_ ?_<;>intro h)|exact .refl|refine And.intro ⟨fun h=>h,fun h=>h⟩ ?_|refine .inl ⟨_,_,aD _,eE,?_⟩|refine .inl ⟨_,_,aD _,hs,?_⟩|refine .inr ⟨[],[],_,[],_,_,kt,by rfl,trivial,⟨.r,trivial⟩,?_⟩|refine .inr ⟨[4,3],_,_,_,_,_,a7,by rfl,⟨.r,.r,trivial⟩,⟨.r,.r,trivial⟩,?_⟩|refine .inr ⟨[4,6],_,_,_,_,_,l8,by rfl,⟨.r,.r,trivial⟩,⟨.r,trivial⟩,?_⟩|fail)
 all_goals(conv=>whnf)
 rw[mC]at h;cases h
theorem ads(s:bj)(ag:dt s)(m:dx)(al:m.cut.length<=1000)(h1:eS s=true)(ad:m.view=s.view.num)(aC:eX s.view m=true)(bh:m.src≠s.self)(bL:s.dec=[])(c0:m.kind=4):
  bg Tryz.prog 88 [.agg (cG s),.agg (m4 m)] (.a1 [.agg (cG (dz (kR s m).1 (kR s m).2).1),.aq 7 ((dz (kR s m).1 (kR s m).2).2.map ei) false,i64 0]):=by
 have ac:=ag.mem;have eE:=mA s ag;have hs:=vn s.view (by omega) m (by omega);have kt:=FJ s ag;have Ce:=(xh h1).1;obtain⟨qG,jW,_,_⟩:=xj h1;have FL:=oW qG;have Cf:=oW jW;have a7:=adj s ag Ce jW (by omega) m al (adp aC (.inl c0));have l8:=vr _ (ado ag (by omega) al) (kR s m).2 (Sj s m);generalize dz (kR s m).1 (kR s m).2=E at *;generalize(kR s m)=X at *;rw[h1]at eE;rw[aC]at hs;have Cb:decide (m.src=s.self)=false:=decide_eq_false bh;have mC:decide (m.view=s.view.num)=true:=decide_eq_true ad;have ku:decide (0<((s.dec.map aM).length:Int))=false:=by rw[bL];rfl
 have FM:decide (m.kind=1)=false:=decide_eq_false (by omega);have FN:decide (m.kind=2)=false:=decide_eq_false (by omega);have KW:decide (m.kind=3)=false:=decide_eq_false (by omega);have Sk:decide (m.kind=4)=true:=decide_eq_true c0;refine bw Tryz.func88 ?_;repeat' ((conv=>whnf);first|refine bc ?_|refine eC (by assumption) ?_|refine dE (by assumption) ?_| (refine be ?_ ?_<;>intro h)|exact .refl|refine And.intro ⟨fun h=>h,fun h=>h⟩ ?_|refine .inl ⟨_,_,aD _,eE,?_⟩|refine .inl ⟨_,_,aD _,hs,?_⟩|refine .inr ⟨[],[],_,[],_,_,kt,by rfl,trivial,⟨.r,trivial⟩,?_⟩|refine .inr ⟨[4,3],_,_,_,_,_,a7,by rfl,⟨.r,.r,trivial⟩,⟨.r,.r,trivial⟩,?_⟩|refine .inr ⟨[4,6],_,_,_,_,_,l8,by rfl,⟨.r,.r,trivial⟩,⟨.r,trivial⟩,?_⟩|fail)
 all_goals(conv=>whnf)
 rw[mC]at h;cases h
theorem adt(s:bj)(ag:dt s)(m:dx)(al:m.cut.length<=1000)(h1:eS s=true)(ad:m.view=s.view.num)(aC:eX s.view m=true)(bh:m.src≠s.self)(bL:s.dec=[])(c0:m.kind=5):
  bg Tryz.prog 88 [.agg (cG s),.agg (m4 m)] (.a1 [.agg (cG (dz (({s with aR:=e6 s.view s.aR ⟨m.src,m.aB,m.cut⟩},([]:List dy))).1 (({s with aR:=e6 s.view s.aR ⟨m.src,m.aB,m.cut⟩},([]:List dy))).2).1),.aq 7 ((dz (({s with aR:=e6 s.view s.aR ⟨m.src,m.aB,m.cut⟩},([]:List dy))).1 (({s with aR:=e6 s.view s.aR ⟨m.src,m.aB,m.cut⟩},([]:List dy))).2).2.map ei) false,i64 0]):=by
 have ac:=ag.mem;have eE:=mA s ag;have hs:=vn s.view (by omega) m (by omega);have kt:=FJ s ag;have Ce:=(xh h1).1;obtain⟨qG,jW,_,_⟩:=xj h1;have FL:=oW qG;have Cf:=oW jW;have a7:=KQ s ag jW ⟨m.src,m.aB,m.cut⟩ al;have l8:=FI _ (FK (r:=⟨m.src,m.aB,m.cut⟩) ag al (by omega));generalize dz ({s with aR:=e6 s.view s.aR ⟨m.src,m.aB,m.cut⟩},([]:List dy)).1 ({s with aR:=e6 s.view s.aR ⟨m.src,m.aB,m.cut⟩},([]:List dy)).2=E at *;rw[h1]at eE;rw[aC]at hs;have Cb:decide (m.src=s.self)=false:=decide_eq_false bh;have mC:decide (m.view=s.view.num)=true:=decide_eq_true ad;have ku:decide (0<((s.dec.map aM).length:Int))=false:=by rw[bL];rfl
 have FM:decide (m.kind=1)=false:=decide_eq_false (by omega);have FN:decide (m.kind=2)=false:=decide_eq_false (by omega);have KW:decide (m.kind=3)=false:=decide_eq_false (by omega);have Sk:decide (m.kind=4)=false:=decide_eq_false (by omega);have adu:decide (m.kind=5)=true:=decide_eq_true c0;refine bw Tryz.func88 ?_;repeat' ((conv=>whnf);first|refine bc ?_|refine eC (by assumption) ?_|refine dE (by assumption) ?_| (refine be ?_ ?_<;>intro h)|exact .refl|refine And.intro ⟨fun h=>h,fun h=>h⟩ ?_|refine .inl ⟨_,_,aD _,eE,?_⟩|refine .inl ⟨_,_,aD _,hs,?_⟩|refine .inr ⟨[],[],_,[],_,_,kt,by rfl,trivial,⟨.r,trivial⟩,?_⟩|refine .inr ⟨[4,3],_,_,_,_,_,a7,by rfl,⟨.r,.r,trivial⟩,⟨.r,.r,trivial⟩,?_⟩|refine .inr ⟨[4],_,_,_,_,_,l8,by rfl,⟨.r,trivial⟩,⟨.r,trivial⟩,?_⟩|fail)
 all_goals(conv=>whnf)
 rw[mC]at h;cases h
theorem adv(s:bj)(ag:dt s)(m:dx)(al:m.cut.length<=1000)(h1:eS s=true)(ad:m.view=s.view.num)(aC:eX s.view m=true)(bh:m.src≠s.self)(bL:s.dec=[])(c0:m.kind=6):
  bg Tryz.prog 88 [.agg (cG s),.agg (m4 m)] (.a1 [.agg (cG (dz (({s with dec:=m.cut},[ef s 0 6 0 0 m.cut])).1 (({s with dec:=m.cut},[ef s 0 6 0 0 m.cut])).2).1),.aq 7 ((dz (({s with dec:=m.cut},[ef s 0 6 0 0 m.cut])).1 (({s with dec:=m.cut},[ef s 0 6 0 0 m.cut])).2).2.map ei) false,i64 0]):=by
 have ac:=ag.mem;have eE:=mA s ag;have hs:=vn s.view (by omega) m (by omega);have kt:=tY s ag;have Ce:=(xh h1).1;obtain⟨qG,jW,_,_⟩:=xj h1;have FL:=oW qG;have Cf:=oW jW;have iv:dt {s with dec:=m.cut}:=⟨ag.mem,ag.fk,ag.prop,ag.box,ag.iB,ag.br,ag.j8,ag.ct,ag.aR,ag.ia,al⟩
 have a7:=tZ {s with dec:=m.cut} 0 6 0 0 m.cut (by omega);have l8:=vr _ iv [ef s 0 6 0 0 m.cut] (by simp);generalize dz ({s with dec:=m.cut},[ef s 0 6 0 0 m.cut]).1 ({s with dec:=m.cut},[ef s 0 6 0 0 m.cut]).2=E at *;rw[h1]at eE;rw[aC]at hs;have Cb:decide (m.src=s.self)=false:=decide_eq_false bh;have mC:decide (m.view=s.view.num)=true:=decide_eq_true ad;have ku:decide (0<((s.dec.map aM).length:Int))=false:=by rw[bL];rfl
 have FM:decide (m.kind=1)=false:=decide_eq_false (by omega);have FN:decide (m.kind=2)=false:=decide_eq_false (by omega);have KW:decide (m.kind=3)=false:=decide_eq_false (by omega);have Sk:decide (m.kind=4)=false:=decide_eq_false (by omega);have adu:decide (m.kind=5)=false:=decide_eq_false (by omega);have akq:decide (m.kind=6)=true:=decide_eq_true c0;refine bw Tryz.func88 ?_;repeat' ((conv=>whnf);first|refine bc ?_|refine eC (by assumption) ?_|refine dE (by assumption) ?_| (refine be ?_ ?_<;>intro h)|exact .refl|refine And.intro ⟨fun h=>h,fun h=>h⟩ ?_|refine .inl ⟨_,_,aD _,eE,?_⟩|refine .inl ⟨_,_,aD _,hs,?_⟩|refine .inl ⟨_,_,aD _,kt,?_⟩|refine .inl ⟨_,_,aD _,nF _ (by omega),?_⟩|refine .inr ⟨[3],_,_,_,_,_,a7,by rfl,⟨.r,trivial⟩,⟨.r,.r,.r,.r,.r,.r,trivial⟩,?_⟩|refine .inr ⟨[3,4],_,_,_,_,_,l8,by rfl,⟨.r,.r,trivial⟩,⟨.r,trivial⟩,?_⟩|fail)
 all_goals(conv=>whnf)
 rw[mC]at h;cases h
theorem FO:fP (.agg [i64 0,i64 0,.ar,i64 0,i64 0,.ar,.ar,.ar,i64 0,i64 0,.ar,.ar,.ar,.ar,i64 0]) (.agg (cG eR)):=
 gM ⟨.r,.r,.ar,.r,.r,.ar,.ar,.ar,.r,.r,.ar,.ar,.ar,.ar,.r,trivial⟩
theorem adw(s:bj)(ag:dt s)(m:dx)(al:m.cut.length<=1000)(h1:eS s=false):bg Tryz.prog 88 [.agg (cG s),.agg (m4 m)] (.a1 [.agg (cG eR),.aq 7 (([]:List dy).map ei) false,i64 1]):=by
 have eE:=mA s ag;rw[h1]at eE;refine bw Tryz.func88 ?_;repeat' ((conv=>whnf);first|refine .inl ⟨_,_,aD _,eE,?_⟩|fail)
 all_goals(conv=>whnf)
 all_goals exact dI ⟨FO,.ar,.r,trivial⟩
theorem adx(s:bj)(ag:dt s)(m:dx)(al:m.cut.length<=1000)(h1:eS s=true)(ad:decide (m.view=s.view.num)=false):bg Tryz.prog 88 [.agg (cG s),.agg (m4 m)] (.a1 [.agg (cG eR),.aq 7 (([]:List dy).map ei) false,i64 8]):=by
 have eE:=mA s ag;rw[h1]at eE;refine bw Tryz.func88 ?_;repeat' ((conv=>whnf);first| (refine be ?_ ?_<;>intro h)|refine .inl ⟨_,_,aD _,eE,?_⟩|fail)
 all_goals(conv=>whnf)
 ·exact dI ⟨FO,.ar,.r,trivial⟩
 all_goals
  rw[ad]at h;cases h
theorem ady(s:bj)(ag:dt s)(m:dx)(al:m.cut.length<=1000)(h1:eS s=true)(ad:decide (m.view=s.view.num)=true)(aC: (!eX s.view m||decide (m.src=s.self))=true):bg Tryz.prog 88 [.agg (cG s),.agg (m4 m)] (.a1 [.agg (cG eR),.aq 7 (([]:List dy).map ei) false,i64 1]):=by
 have ac:=ag.mem;have eE:=mA s ag;have hs:=vn s.view (by omega) m (by omega);rw[h1]at eE;generalize eX s.view m=V at *;refine bw Tryz.func88 ?_;repeat' ((conv=>whnf);first|refine bc ?_|refine eC (by assumption) ?_| (refine be ?_ ?_<;>intro h)|refine And.intro ⟨fun h=>h,fun h=>h⟩ ?_|refine .inl ⟨_,_,aD _,eE,?_⟩|refine .inl ⟨_,_,aD _,hs,?_⟩|fail)
 all_goals(conv=>whnf)
 ·rw[ad]at h;cases h
 ·exact dI ⟨FO,.ar,.r,trivial⟩
theorem adz(s:bj)(ag:dt s)(m:dx)(al:m.cut.length<=1000)(h1:eS s=true)(ad:decide (m.view=s.view.num)=true)(aC: (!eX s.view m||decide (m.src=s.self))=false)(bL:decide (0<(s.dec.length:Int))=true):bg Tryz.prog 88 [.agg (cG s),.agg (m4 m)] (.a1 [.agg (cG s),.aq 7 ((bif decide (m.kind=6)then []else [ef s m.src 6 0 0 s.dec]).map ei) false,i64 0]):=by
 have ac:=ag.mem;have aa:=ag.dec;have eE:=mA s ag;have hs:=vn s.view (by omega) m (by omega);have kt:=tY s ag;have a7:=tZ s m.src 6 0 0 s.dec (by omega);rw[h1]at eE;generalize eX s.view m=V at *;have ku:decide (0<((s.dec.map aM).length:Int))=true:=by rw[List.length_map];exact bL
 refine bw Tryz.func88 ?_;repeat' ((conv=>whnf);first|refine bc ?_|refine eC (by assumption) ?_|refine dE (by assumption) ?_| (refine be ?_ ?_<;>intro h)|refine And.intro (by kernel_rfl) ?_|refine And.intro ⟨fun h=>h,fun h=>h⟩ ?_|refine .inl ⟨_,_,aD _,eE,?_⟩|refine .inl ⟨_,_,aD _,hs,?_⟩|refine .inl ⟨_,_,aD _,kt,?_⟩|refine .inr ⟨[3],_,_,_,_,_,a7,by rfl,⟨.r,trivial⟩,⟨.r,.r,.r,.r,.r,.r,trivial⟩,?_⟩|fail)
 all_goals(conv=>whnf)
 ·rw[ad]at h;cases h
 ·rw[show decide (m.kind=6)=false by simpa using h];exact .refl
 ·rw[show decide (m.kind=6)=true by simpa using h];exact dI ⟨.r,.ar,.r,trivial⟩
def l9(s:bj)(m:dx):bj×List dy:=
 if m.kind=1 then(lx s m,[])
 else if m.kind=2 then jV s m
 else if m.kind=3 then kQ s m
 else if m.kind=4 then kR s m
 else if m.kind=5 then({s with aR:=e6 s.view s.aR ⟨m.src,m.aB,m.cut⟩},[])
 else({s with dec:=m.cut},[ef s 0 6 0 0 m.cut])
def e7(s:bj)(m:dx):bj×List dy×Int:=
 if eS s=false then(eR,[],1)
 else if decide (m.view=s.view.num)=false then(eR,[],8)
 else if(!eX s.view m||decide (m.src=s.self))=true then(eR,[],1)
 else if decide (0<(s.dec.length:Int))=true then(s,(bif decide (m.kind=6)then []else [ef s m.src 6 0 0 s.dec]),0)
 else((dz (l9 s m).1 (l9 s m).2).1,(dz (l9 s m).1 (l9 s m).2).2,0)
theorem Cg{v:aQ}{m:dx}(h:eX v m=true):m.kind=1\/m.kind=2\/m.kind=3\/m.kind=4\/m.kind=5\/m.kind=6:=by
 unfold eX at h;by_cases h1:m.kind=1
 ·exact .inl h1
 by_cases ad:m.kind=2
 ·exact .inr (.inl ad)
 by_cases aC:m.kind=3
 ·exact .inr (.inr (.inl aC))
 by_cases bh:m.kind=4
 ·exact .inr (.inr (.inr (.inl bh)))
 by_cases bL:m.kind=5
 ·exact .inr (.inr (.inr (.inr (.inl bL))))
 by_cases c0:m.kind=6
 ·exact .inr (.inr (.inr (.inr (.inr c0))))
 exfalso;simp only[h1,ad,aC,bh,bL,c0,decide_false,Bool.or_self,cond_false]at h;cases an: !bX v|| !bR v.mem m.src|| !decide (m.view=v.num)<;>rw[an]at h<;>cases h
theorem adA(s:bj)(ag:dt s)(m:dx)(al:m.cut.length<=1000):
  bg Tryz.prog 88 [.agg (cG s),.agg (m4 m)] (.a1 [.agg (cG (e7 s m).1),.aq 7 ((e7 s m).2.1.map ei) false,i64 (e7 s m).2.2]):=by
 unfold e7;by_cases h1:eS s=false
 ·rw[if_pos h1];exact adw s ag m al h1
 rw[if_neg h1];have h1:eS s=true:=by simpa using h1
 by_cases ad:decide (m.view=s.view.num)=false
 ·rw[if_pos ad];exact adx s ag m al h1 ad
 rw[if_neg ad];have ad:decide (m.view=s.view.num)=true:=by simpa using ad
 by_cases aC: (!eX s.view m||decide (m.src=s.self))=true
 ·rw[if_pos aC];exact ady s ag m al h1 ad aC
 rw[if_neg aC];have aC: (!eX s.view m||decide (m.src=s.self))=false:=by simpa using aC
 by_cases bL:decide (0<(s.dec.length:Int))=true
 ·rw[if_pos bL];exact adz s ag m al h1 ad aC bL
 rw[if_neg bL];have ku:s.dec=[]:=by
  have:s.dec.length=0:=by
   simp at bL;rw[bL];rfl
  exact List.length_eq_zero_iff.1 this
 have mC:=of_decide_eq_true ad;simp only[Bool.or_eq_false_iff,Bool.not_eq_false',decide_eq_false_iff_not]at aC;unfold l9;rcases Cg aC.1 with hk|hk|hk|hk|hk|hk
 ·rw[if_pos hk];exact ac3 s ag m al h1 mC aC.1 aC.2 ku hk
 ·rw[if_neg (by omega),if_pos hk];exact adq s ag m al h1 mC aC.1 aC.2 ku hk
 ·rw[if_neg (by omega),if_neg (by omega),if_pos hk];exact adr s ag m al h1 mC aC.1 aC.2 ku hk
 ·rw[if_neg (by omega),if_neg (by omega),if_neg (by omega),if_pos hk];exact ads s ag m al h1 mC aC.1 aC.2 ku hk
 ·rw[if_neg (by omega),if_neg (by omega),if_neg (by omega),if_neg (by omega),if_pos hk];exact adt s ag m al h1 mC aC.1 aC.2 ku hk
 ·rw[if_neg (by omega),if_neg (by omega),if_neg (by omega),if_neg (by omega),if_neg (by omega)];exact adv s ag m al h1 mC aC.1 aC.2 ku hk
theorem adB(s:bj)(aX:List dy)(l6:aX.length<=100)(cZ kind aB cq:Int)(cut:List Int)(al:cut.length<=1000000):
  b0 Tryz.prog 148 [.cells 210 (cG s++ [.own 1]),.row 218 7 (aX.map ei)] [.aP 0 0,i64 cZ,i64 kind,i64 aB,i64 cq,.aq 1 (cut.map aM) false] [true,false] [.cells 210 (cG s++ [.own 3]),.gone,.bd,.row 218 7 ((aX++ [ef s cZ kind aB cq cut]).map ei)] (.a1 []):=by
 refine hd Tryz.func148 ?_;repeat' ((conv=>whnf);first|refine And.intro (by kernel_rfl) ?_|refine .inl ⟨_,_,aD _,nF _ al,?_⟩|refine And.intro (KH (by simp<;>omega)) ?_|refine Exists.intro false ?_|fail)
 all_goals(conv=>whnf)
 (refine⟨[.fresh 218 7,.dQ 1 3,.dQ 3 3,.mm 1],?_⟩; (conv=>whnf);refine⟨.r,⟨.r,.r,k7,ch ?_,trivial⟩,by rfl⟩)
 rw[List.map_append];rfl
theorem Ch(s:bj)(aX:List dy)(l6:aX.length<=100)(cZ kind aB cq:Int)(cut:List Int)(al:cut.length<=1000000):
  b0 Tryz.prog 148 [.cells 210 (cG s++ [.own 1]),.row 218 7 (aX.map ei)] [.aP 0 0,i64 cZ,i64 kind,i64 aB,i64 cq,.aq 1 (cut.map aM) false] [true,false] [.cells 210 (cG s++ [.own 2]),.gone,.row 218 7 ((aX++ [ef s cZ kind aB cq cut]).map ei)] (.a1 []):=
 (adB s aX l6 cZ kind aB cq cut al).wZ (L1:=[.cells 210 (cG s++ [.own 3]),.gone]) (tD:=[.row 218 7 ((aX++ [ef s cZ kind aB cq cut]).map ei)]) (Nat.le_refl _)
def hg(s:bj):Int:=sB (IntKind.i64.wrap ((if IntKind.i64.wrap (s.aB.tdiv 1024)<IntKind.i64.wrap (s.aL.cc.tdiv 1024)then IntKind.i64.wrap (s.aL.cc.tdiv 1024)else IntKind.i64.wrap (s.aB.tdiv 1024))+1)) s.self
def ma(s:bj):bj:=
 bif decide (hg s=0)then s
 else bif (hq s.aL (hg s)).2.2 then gq {s with aL:=(hq s.aL (hg s)).1,dn:=0,aB:=hg s,phase:=1,ct:=[],br:=[⟨s.self,(hq s.aL (hg s)).2.1.aB,(hq s.aL (hg s)).2.1.cut⟩]}
 else s
theorem adC(s:bj)(ag:dt s)(bY:fC s.view s.aR=true):b0 Tryz.prog 165 [.cells 210 (mB s 1++ [.ar]),.row 179 3 (s.aR.map bG)] [.aP 0 0] [true,false] [.cells 210 (cG (ma s)++ [.ar]),.gone] (.a1 []):=by
 have az:bg Tryz.prog 204 [.v (.int .i64 (IntKind.i64.wrap ((if IntKind.i64.wrap (s.aB.tdiv 1024)<IntKind.i64.wrap (s.aL.cc.tdiv 1024)then IntKind.i64.wrap (s.aL.cc.tdiv 1024)else IntKind.i64.wrap (s.aB.tdiv 1024))+1))),.v (.int .i64 s.self)] (.v (.int .i64 (hg s))):=ab0 _ _;obtain⟨R,b1⟩:∃R,R=ma s:=⟨_,rfl⟩
 rw[<-b1];unfold ma at b1;generalize hg s=k at *;have aG:=Ru s.aL (by have:=ag.fk;omega) k;have dk:=Fw (aB:=k) ag.fk;generalize hq s.aL k=X at *;have iv:dt {s with aL:=X.1,dn:=0,aB:=k,phase:=1,ct:=[],br:=[⟨s.self,X.2.1.aB,X.2.1.cut⟩]}:=⟨ag.mem,dk.1,ag.prop,ag.box,ag.iB,(by simp),(fun b ae=>by
  rcases List.mem_singleton.1 ae with rfl;exact dk.2),Nat.zero_le _,ag.aR,ag.ia,ag.dec⟩
 have a7:=Sc _ iv bY;generalize gq {s with aL:=X.1,dn:=0,aB:=k,phase:=1,ct:=[],br:=[⟨s.self,X.2.1.aB,X.2.1.cut⟩]}=A at *;refine hd Tryz.func165 ?_;repeat' ((conv=>whnf);first| (refine be ?_ ?_<;>intro h)|refine And.intro (by kernel_rfl) ?_|refine .inl ⟨_,_,aD _,az,?_⟩|refine .inl ⟨_,_,aD _,aG,?_⟩|refine .inr ⟨[0,1],_,_,_,_,_,a7,by rfl,⟨j9 ⟨.r,.r,.r,.r,.r,.r,.r,.r,.r,.r,.aq,.ar,.r,.r,.r,.r,trivial⟩,.r,trivial⟩,⟨.r,trivial⟩,?_⟩|refine Exists.intro false ?_| (refine And.intro ?_ ?_;focus (simp;done))|fail)
 all_goals(conv=>whnf)
 ·simp only[h,cond_true]at b1;subst b1;refine⟨[.np 0 12,.mm 1],?_⟩;conv=>whnf
  exact⟨.r,⟨.r,.r,k7,trivial⟩,by rfl⟩
 ·rename_i aH;have hn:X.2.2=false:=by simpa using h
  simp only[aH,hn,cond_false]at b1;subst b1;refine⟨[.np 0 12,.mm 1],?_⟩;conv=>whnf
  exact⟨.r,⟨.r,.r,k7,trivial⟩,by rfl⟩
 ·rename_i aH;have hn:X.2.2=true:=by simpa using h
  simp only[aH,hn,cond_false,cond_true]at b1;subst b1;refine⟨[],?_⟩;conv=>whnf
  exact⟨.r,⟨.r,.r,k7,trivial⟩,by rfl⟩
def vt(s:bj):List dy:=bif (fE s.box s.self).2 then [ef s 0 1 0 0 (fE s.box s.self).1]else []
def vu(s:bj):List dy:=bif decide (s.phase=1)then [ef s 0 2 s.aB 0 []]else bif decide (s.phase=2)then [ef s 0 4 s.aB 0 s.ct]else []
def vv(s:bj):List dy:=bif decide (0<=dV s.aR s.self)&& !decide (s.phase=2)then [ef s 0 5 (s.aR.getD (dV s.aR s.self).toNat cI).aB 0 (s.aR.getD (dV s.aR s.self).toNat cI).cut]else []
def iV(s:bj):List dy:=vt s++vu s++vv s
theorem adD{l:List cv}{N:Nat}(al:∀b∈l,b.cut.length<=N)(x:Int): (fE l x).1.length<=N:=by
 unfold fE;cases decide (0<=iz l x)
 ·exact Nat.zero_le _
 ·rcases Nat.lt_or_ge (iz l x).toNat l.length with h|h
  ·simp only[cond_true,List.getD_eq_getElem?_getD,List.getElem?_eq_getElem h,Option.getD_some];exact al _ (List.getElem_mem h)
  ·simp only[cond_true,List.getD_eq_getElem?_getD,List.getElem?_eq_none h,Option.getD_none];exact Nat.zero_le _
theorem KX(s:bj)(ag:dt s):b0 Tryz.prog 166 [.cells 210 (cG s++ [.ar])] [.aP 0 0] [true] [.cells 210 (cG s++ [.own 2]),.bd,.row 218 7 ((iV s).map ei)] (.a1 []):=by
 have az:=Kt s.box (dF ag.box) s.self;have fU:=adD ag.iB s.self;have aG:=B3 s.aR (dF ag.aR) s.self;have h6:= @zs s.aR s.self;have Sl:=ag.ia;have vw:=ag.ct;obtain⟨R,b1⟩:∃R,R=iV s:=⟨_,rfl⟩
 rw[<-b1];unfold iV vt vu vv at b1;generalize fE s.box s.self=C at *;generalize dV s.aR s.self=K at *;generalize qn:s.aR.getD K.toNat cI=D at *;have iL:D.cut.length<=1000:=by
  rw[<-qn];rcases Nat.lt_or_ge K.toNat s.aR.length with h|h
  ·simp only[List.getD_eq_getElem?_getD,List.getElem?_eq_getElem h,Option.getD_some];exact Sl _ (List.getElem_mem h)
  ·simp only[List.getD_eq_getElem?_getD,List.getElem?_eq_none h,Option.getD_none];exact Nat.zero_le _
 have b7:decide (0<=K)=true->(s.aR.map bG)[K.toNat]?=some (bG D):=fun h=>by
  have:=(h6 h).2;rw[<-qn];simp[this]
 have u3:decide (0<=K)=true->K=(K.toNat:Int):=fun h=>(h6 h).1;have jS:=tZ s 0 1 0 0 C.1 (by omega);have hP:=tZ s 0 2 s.aB 0 [] (by simp);have ir:=Ch s [ef s 0 1 0 0 C.1] (by simp) 0 2 s.aB 0 [] (by simp);have jN:=tZ s 0 4 s.aB 0 s.ct (by omega);have nw:=Ch s [ef s 0 1 0 0 C.1] (by simp) 0 4 s.aB 0 s.ct (by omega);have dl:=tZ s 0 5 D.aB 0 D.cut (by omega);have a2:=Ch s [ef s 0 1 0 0 C.1] (by simp) 0 5 D.aB 0 D.cut (by omega);have a3:=Ch s [ef s 0 2 s.aB 0 []] (by simp) 0 5 D.aB 0 D.cut (by omega);have a4:=Ch s [ef s 0 1 0 0 C.1,ef s 0 2 s.aB 0 []] (by simp) 0 5 D.aB 0 D.cut (by omega);clear Sl h6 iL qn fU;refine hd Tryz.func166 ?_;repeat' ((conv=>whnf);first|refine bc ?_| (refine be ?_ ?_<;>intro h)|refine And.intro (by kernel_rfl) ?_|refine .inl ⟨_,_,aD _,az,?_⟩|refine .inl ⟨_,_,aD _,aG,?_⟩|refine .inr ⟨[0],_,_,_,_,_,jS,by rfl,⟨.r,trivial⟩,⟨.r,.r,.r,.r,.r,.r,trivial⟩,?_⟩|fail)
 all_goals(conv=>whnf)
 ·rename_i gn;have h1:=h;clear h;repeat' ((conv=>whnf);first|refine bc ?_| (refine be ?_ ?_<;>intro h)|refine And.intro (by kernel_rfl) ?_|refine .inl ⟨_,_,aD _,aG,?_⟩|refine .inr ⟨[0,3],_,_,_,_,_,ir,by rfl,⟨.r,.r,trivial⟩,⟨.r,.r,.r,.r,.r,.ar,trivial⟩,?_⟩|fail)
  all_goals(conv=>whnf)
  ·have od:decide (0<=K)=true:=((Bool.and_eq_true ..).mp h).1;have xk:=u3 od;have dB:=b7 od;repeat' ((conv=>whnf);first|refine And.intro (by kernel_rfl) ?_|refine⟨K.toNat,bG D,And.intro ⟨xk,dB⟩ ?_⟩|refine .inr ⟨[0,4],_,_,_,_,_,a4,by rfl,⟨.r,.r,trivial⟩,⟨.r,.r,.r,.r,.r,.r,trivial⟩,?_⟩|fail)
   all_goals(conv=>whnf)
   have ad:decide (s.phase=2)=false:=decide_eq_false (by have:=of_decide_eq_true h1;omega);simp only[gn,h1,ad,od,Bool.and_true,Bool.and_false,Bool.not_true,Bool.not_false,cond_true,cond_false,List.nil_append,List.append_nil,List.cons_append]at b1;subst b1;(refine⟨[.dQ 2 6],?_⟩; (conv=>whnf);exact⟨.r,⟨.r,.r,.r,trivial⟩,by rfl⟩)
  ·have ad:decide (s.phase=2)=false:=decide_eq_false (by have:=of_decide_eq_true h1;omega);simp only[gn,h1,h,Bool.and_true,Bool.and_false,Bool.not_true,Bool.not_false,cond_true,cond_false,List.nil_append,List.append_nil,List.cons_append]at b1;subst b1;(refine⟨[.dQ 2 4],?_⟩; (conv=>whnf);exact⟨.r,⟨.r,.r,.r,trivial⟩,by rfl⟩)
 ·rename_i gn h1;have ad:=h;clear h;repeat' ((conv=>whnf);first|refine bc ?_| (refine be ?_ ?_<;>intro h)|refine And.intro (by kernel_rfl) ?_|refine .inl ⟨_,_,aD _,aG,?_⟩|refine .inr ⟨[0,3],_,_,_,_,_,nw,by rfl,⟨.r,.r,trivial⟩,⟨.r,.r,.r,.r,.r,.r,trivial⟩,?_⟩|fail)
  all_goals(conv=>whnf)
  ·rw[ad]at h;simp at h
  ·simp only[gn,h1,ad,h,Bool.and_true,Bool.and_false,Bool.not_true,Bool.not_false,cond_true,cond_false,List.nil_append,List.append_nil,List.cons_append]at b1;subst b1;(refine⟨[.dQ 2 4],?_⟩; (conv=>whnf);exact⟨.r,⟨.r,.r,.r,trivial⟩,by rfl⟩)
 ·rename_i gn h1 ad;have od:decide (0<=K)=true:=((Bool.and_eq_true ..).mp h).1;have xk:=u3 od;have dB:=b7 od;repeat' ((conv=>whnf);first|refine And.intro (by kernel_rfl) ?_|refine⟨K.toNat,bG D,And.intro ⟨xk,dB⟩ ?_⟩|refine .inr ⟨[0,3],_,_,_,_,_,a2,by rfl,⟨.r,.r,trivial⟩,⟨.r,.r,.r,.r,.r,.r,trivial⟩,?_⟩|fail)
  all_goals(conv=>whnf)
  simp only[gn,h1,ad,od,Bool.and_true,Bool.and_false,Bool.not_true,Bool.not_false,cond_true,cond_false,List.nil_append,List.append_nil,List.cons_append]at b1;subst b1;(refine⟨[.dQ 2 5],?_⟩; (conv=>whnf);exact⟨.r,⟨.r,.r,.r,trivial⟩,by rfl⟩)
 ·rename_i gn h1 ad;have aH:decide (0<=K)=false:=by
   rw[ad]at h;simpa using h
  simp only[gn,h1,ad,aH,Bool.false_and,Bool.and_true,Bool.and_false,Bool.not_true,Bool.not_false,cond_true,cond_false,List.nil_append,List.append_nil,List.cons_append]at b1;subst b1;(refine⟨[.dQ 2 3],?_⟩; (conv=>whnf);exact⟨.r,⟨.r,.r,.r,trivial⟩,by rfl⟩)
 ·rename_i gn;have h1:=h;clear h;repeat' ((conv=>whnf);first|refine bc ?_| (refine be ?_ ?_<;>intro h)|refine And.intro (by kernel_rfl) ?_|refine .inl ⟨_,_,aD _,aG,?_⟩|refine .inr ⟨[0],_,_,_,_,_,hP,by rfl,⟨.r,trivial⟩,⟨.r,.r,.r,.r,.r,.ar,trivial⟩,?_⟩|fail)
  all_goals(conv=>whnf)
  ·have od:decide (0<=K)=true:=((Bool.and_eq_true ..).mp h).1;have xk:=u3 od;have dB:=b7 od;repeat' ((conv=>whnf);first|refine And.intro (by kernel_rfl) ?_|refine⟨K.toNat,bG D,And.intro ⟨xk,dB⟩ ?_⟩|refine .inr ⟨[0,3],_,_,_,_,_,a3,by rfl,⟨.r,.r,trivial⟩,⟨.r,.r,.r,.r,.r,.r,trivial⟩,?_⟩|fail)
   all_goals(conv=>whnf)
   have ad:decide (s.phase=2)=false:=decide_eq_false (by have:=of_decide_eq_true h1;omega);simp only[gn,h1,ad,od,Bool.and_true,Bool.and_false,Bool.not_true,Bool.not_false,cond_true,cond_false,List.nil_append,List.append_nil,List.cons_append]at b1;subst b1;(refine⟨[.dQ 2 5],?_⟩; (conv=>whnf);exact⟨.r,⟨.r,.r,.r,trivial⟩,by rfl⟩)
  ·have ad:decide (s.phase=2)=false:=decide_eq_false (by have:=of_decide_eq_true h1;omega);simp only[gn,h1,h,Bool.and_true,Bool.and_false,Bool.not_true,Bool.not_false,cond_true,cond_false,List.nil_append,List.append_nil,List.cons_append]at b1;subst b1;(refine⟨[.dQ 2 3],?_⟩; (conv=>whnf);exact⟨.r,⟨.r,.r,.r,trivial⟩,by rfl⟩)
 ·rename_i gn h1;have ad:=h;clear h;repeat' ((conv=>whnf);first|refine bc ?_| (refine be ?_ ?_<;>intro h)|refine And.intro (by kernel_rfl) ?_|refine .inl ⟨_,_,aD _,aG,?_⟩|refine .inr ⟨[0],_,_,_,_,_,jN,by rfl,⟨.r,trivial⟩,⟨.r,.r,.r,.r,.r,.r,trivial⟩,?_⟩|fail)
  all_goals(conv=>whnf)
  ·rw[ad]at h;simp at h
  ·simp only[gn,h1,ad,h,Bool.and_true,Bool.and_false,Bool.not_true,Bool.not_false,cond_true,cond_false,List.nil_append,List.append_nil,List.cons_append]at b1;subst b1;(refine⟨[.dQ 2 3],?_⟩; (conv=>whnf);exact⟨.r,⟨.r,.r,.r,trivial⟩,by rfl⟩)
 ·rename_i gn h1 ad;have od:decide (0<=K)=true:=((Bool.and_eq_true ..).mp h).1;have xk:=u3 od;have dB:=b7 od;repeat' ((conv=>whnf);first|refine And.intro (by kernel_rfl) ?_|refine⟨K.toNat,bG D,And.intro ⟨xk,dB⟩ ?_⟩|refine .inr ⟨[0],_,_,_,_,_,dl,by rfl,⟨.r,trivial⟩,⟨.r,.r,.r,.r,.r,.r,trivial⟩,?_⟩|fail)
  all_goals(conv=>whnf)
  simp only[gn,h1,ad,od,Bool.and_true,Bool.and_false,Bool.not_true,Bool.not_false,cond_true,cond_false,List.nil_append,List.append_nil,List.cons_append]at b1;subst b1;(refine⟨[.dQ 2 4],?_⟩; (conv=>whnf);exact⟨.r,⟨.r,.r,.r,trivial⟩,by rfl⟩)
 ·rename_i gn h1 ad;have aH:decide (0<=K)=false:=by
   rw[ad]at h;simpa using h
  simp only[gn,h1,ad,aH,Bool.false_and,Bool.and_true,Bool.and_false,Bool.not_true,Bool.not_false,cond_true,cond_false,List.nil_append,List.append_nil,List.cons_append]at b1;subst b1;(refine⟨[.cell 0 15 218 7,.dQ 2 4],?_⟩; (conv=>whnf);exact⟨.r,⟨.r,.r,.r,trivial⟩,by rfl⟩)
theorem FP(s:bj): (iV s).length<=100:=by
 have h1: (vt s).length<=1:=by unfold vt;cases (fE s.box s.self).2<;>simp
 have ad: (vu s).length<=1:=by unfold vu;cases decide (s.phase=1)<;>cases decide (s.phase=2)<;>simp
 have aC: (vv s).length<=1:=by unfold vv;cases decide (0<=dV s.aR s.self)&& !decide (s.phase=2)<;>simp
 unfold iV;simp only[List.length_append];omega
def ly(s:bj):Int:=if 1099511627776<IntKind.i64.wrap (s.dn+1)then 1099511627776 else IntKind.i64.wrap (s.dn+1)
def vx(s:bj):Bool:=decide (IntKind.i64.wrap (8+IntKind.i64.wrap (6*ks s.view.mem s.self))<=ly s)
def hW(s:bj):bj:=
 if decide (0<(s.prop.length:Int))=true then(if vx s=true then ma {s with dn:=ly s}else {s with dn:=ly s})else s
theorem adE(s:bj)(ag:dt s)(h1:eS s=false):bg Tryz.prog 98 [.agg (cG s)] (.a1 [.agg (cG eR),.aq 7 (([]:List dy).map ei) false]):=by
 have eE:=mA s ag;rw[h1]at eE;refine bw Tryz.func98 ?_;repeat' ((conv=>whnf);first|refine .inl ⟨_,_,aD _,eE,?_⟩|fail)
 all_goals(conv=>whnf)
 all_goals exact dI ⟨FO,.ar,trivial⟩
theorem adF(s:bj)(ag:dt s)(h1:eS s=true)(bL:decide (0<(s.dec.length:Int))=true):bg Tryz.prog 98 [.agg (cG s)] (.a1 [.agg (cG s),.aq 7 ([ef s 0 6 0 0 s.dec].map ei) false]):=by
 have aa:=ag.dec;have eE:=mA s ag;have kt:=tY s ag;have a7:=tZ s 0 6 0 0 s.dec (by omega);rw[h1]at eE;have ku:decide (0<((s.dec.map aM).length:Int))=true:=by rw[List.length_map];exact bL
 refine bw Tryz.func98 ?_;repeat' ((conv=>whnf);first|refine eC (by assumption) ?_|exact .refl|refine And.intro (by kernel_rfl) ?_|refine .inl ⟨_,_,aD _,eE,?_⟩|refine .inl ⟨_,_,aD _,kt,?_⟩|refine .inr ⟨[2],_,_,_,_,_,a7,by rfl,⟨.r,trivial⟩,⟨.r,.r,.r,.r,.r,.r,trivial⟩,?_⟩|fail)
theorem adG(s:bj)(ag:dt s)(h1:eS s=true)(bL:s.dec=[])(c0:decide (0<(s.prop.length:Int))=false):bg Tryz.prog 98 [.agg (cG s)] (.a1 [.agg (cG (dz s (iV s)).1),.aq 7 ((dz s (iV s)).2.map ei) false]):=by
 have eE:=mA s ag;have kt:=tY s ag;have a7:=KX s ag;have l8:=vr s ag (iV s) (FP s);generalize dz s (iV s)=E at *;rw[h1]at eE;have ku:decide (0<((s.dec.map aM).length:Int))=false:=by rw[bL];rfl
 have KO:decide (0<((s.prop.map aM).length:Int))=false:=by rw[List.length_map];exact c0
 refine bw Tryz.func98 ?_;repeat' ((conv=>whnf);first|refine dE (by assumption) ?_|exact .refl|refine .inl ⟨_,_,aD _,eE,?_⟩|refine .inl ⟨_,_,aD _,kt,?_⟩|refine .inr ⟨[2],_,_,_,_,_,a7,by rfl,⟨.r,trivial⟩,⟨.r,trivial⟩,?_⟩|refine .inr ⟨[2,4],_,_,_,_,_,l8,by rfl,⟨.r,.r,trivial⟩,⟨.r,trivial⟩,?_⟩|fail)
theorem adH(s:bj)(ag:dt s)(h1:eS s=true)(bL:s.dec=[])(c0:decide (0<(s.prop.length:Int))=true)(fo:vx s=false):bg Tryz.prog 98 [.agg (cG s)] (.a1 [.agg (cG (dz {s with dn:=ly s} (iV s)).1),.aq 7 ((dz {s with dn:=ly s} (iV s)).2.map ei) false]):=by
 have ac:=ag.mem;have iv:dt {s with dn:=ly s}:=⟨ag.mem,ag.fk,ag.prop,ag.box,ag.iB,ag.br,ag.j8,ag.ct,ag.aR,ag.ia,ag.dec⟩
 have eE:=mA s ag;have kt:=tY s ag;have a7:=KX _ iv;have l8:=vr _ iv (iV s) (FP s);have l1:=BD s.view.mem (dF ac) s.self;have hw:ly s=if 1099511627776<IntKind.i64.wrap (s.dn+1)then 1099511627776 else IntKind.i64.wrap (s.dn+1):=rfl;have aa:vx s=decide (IntKind.i64.wrap (8+IntKind.i64.wrap (6*ks s.view.mem s.self))<=ly s):=rfl;generalize dz {s with dn:=ly s} (iV s)=E at *;rw[h1]at eE;have ku:decide (0<((s.dec.map aM).length:Int))=false:=by rw[bL];rfl
 have KO:decide (0<((s.prop.map aM).length:Int))=true:=by rw[List.length_map];exact c0
 refine bw Tryz.func98 ?_;repeat' ((conv=>whnf);first|refine eC (by assumption) ?_|refine dE (by assumption) ?_|exact .refl|refine And.intro (by kernel_rfl) ?_|refine .inl ⟨_,_,aD _,eE,?_⟩|refine .inl ⟨_,_,aD _,kt,?_⟩|refine .inl ⟨_,_,aD _,l1,?_⟩|refine .inr ⟨[2],_,_,_,_,_,a7,by rfl,⟨.r,trivial⟩,⟨.r,trivial⟩,?_⟩|refine .inr ⟨[2,5],_,_,_,_,_,l8,by rfl,⟨.r,.r,trivial⟩,⟨.r,trivial⟩,?_⟩|fail)
theorem adI{s:bj}(ag:dt s)(af:s.aR.length<=900):dt (ma s):=by
 have dk:=Fw (aB:=hg s) ag.fk;unfold ma;cases decide (hg s=0)
 ·cases (hq s.aL (hg s)).2.2
  ·exact ag
  ·exact Sg ⟨ag.mem,dk.1,ag.prop,ag.box,ag.iB,(by simp),(fun b ae=>by
    rcases List.mem_singleton.1 ae with rfl;exact dk.2),Nat.zero_le _,ag.aR,ag.ia,ag.dec⟩ af
 ·exact ag
theorem adJ(s:bj)(ag:dt s)(h1:eS s=true)(bL:s.dec=[])(c0:decide (0<(s.prop.length:Int))=true)(fo:vx s=true):bg Tryz.prog 98 [.agg (cG s)] (.a1 [.agg (cG (dz (ma {s with dn:=ly s}) (iV (ma {s with dn:=ly s}))).1),.aq 7 ((dz (ma {s with dn:=ly s}) (iV (ma {s with dn:=ly s}))).2.map ei) false]):=by
 have ac:=ag.mem;have iv:dt {s with dn:=ly s}:=⟨ag.mem,ag.fk,ag.prop,ag.box,ag.iB,ag.br,ag.j8,ag.ct,ag.aR,ag.ia,ag.dec⟩
 obtain⟨_,jW,_,_⟩:=xj h1;have Cf:=oW jW;have eE:=mA s ag;have kt:=FJ s ag;have aG:=adC _ iv jW;have Sm:=adI iv (by simp only[];omega);have l1:=BD s.view.mem (dF ac) s.self;have hw:ly s=if 1099511627776<IntKind.i64.wrap (s.dn+1)then 1099511627776 else IntKind.i64.wrap (s.dn+1):=rfl;have aa:vx s=decide (IntKind.i64.wrap (8+IntKind.i64.wrap (6*ks s.view.mem s.self))<=ly s):=rfl;generalize ma {s with dn:=ly s}=A at *;have a7:=KX _ Sm;have l8:=vr _ Sm (iV A) (FP A);generalize dz A (iV A)=E at *;rw[h1]at eE;have ku:decide (0<((s.dec.map aM).length:Int))=false:=by rw[bL];rfl
 have KO:decide (0<((s.prop.map aM).length:Int))=true:=by rw[List.length_map];exact c0
 refine bw Tryz.func98 ?_;repeat' ((conv=>whnf);first|refine eC (by assumption) ?_|refine dE (by assumption) ?_|exact .refl|refine And.intro (by kernel_rfl) ?_|refine .inl ⟨_,_,aD _,eE,?_⟩|refine .inr ⟨[],[],_,[],_,_,kt,by rfl,trivial,⟨.r,trivial⟩,?_⟩|refine .inl ⟨_,_,aD _,l1,?_⟩|refine .inr ⟨[3,2],_,_,_,_,_,aG,by rfl,⟨.r,.r,trivial⟩,⟨.r,trivial⟩,?_⟩|refine .inr ⟨[3],_,_,_,_,_,a7,by rfl,⟨.r,trivial⟩,⟨.r,trivial⟩,?_⟩|refine .inr ⟨[3,6],_,_,_,_,_,l8,by rfl,⟨.r,.r,trivial⟩,⟨.r,trivial⟩,?_⟩|fail)
def ej(s:bj):bj×List dy:=
 if eS s=false then(eR,[])
 else if decide (0<(s.dec.length:Int))=true then(s,[ef s 0 6 0 0 s.dec])
 else dz (hW s) (iV (hW s))
theorem Sn(s:bj)(ag:dt s):bg Tryz.prog 98 [.agg (cG s)] (.a1 [.agg (cG (ej s).1),.aq 7 ((ej s).2.map ei) false]):=by
 unfold ej;by_cases h1:eS s=false
 ·rw[if_pos h1];exact adE s ag h1
 rw[if_neg h1];have h1:eS s=true:=by simpa using h1
 by_cases bL:decide (0<(s.dec.length:Int))=true
 ·rw[if_pos bL];exact adF s ag h1 bL
 rw[if_neg bL];have ku:s.dec=[]:=by
  have:s.dec.length=0:=by
   simp at bL;rw[bL];rfl
  exact List.length_eq_zero_iff.1 this
 unfold hW;by_cases c0:decide (0<(s.prop.length:Int))=true
 ·rw[if_pos c0];by_cases fo:vx s=true
  ·rw[if_pos fo];exact adJ s ag h1 ku c0 fo
  ·rw[if_neg fo];exact adH s ag h1 ku c0 (by simpa using fo)
 ·rw[if_neg c0];exact adG s ag h1 ku (by simpa using c0)
theorem zu{v:aQ}{c:List Int}(h: (eQ v c).2=0):c9 c 32=true:=by
 unfold eQ at h;cases h1: (!bX v|| !c9 c 32)with
 |true=>rw[h1]at h;simp at h
 |false=>
  simp only[Bool.or_eq_false_iff,Bool.not_eq_false']at h1;exact h1.2
theorem KY{c:List Int}{m:Int}(h:c9 c m=true):c≠ []/\(c.length:Int)<=m:=by
 simp only[c9,Bool.and_eq_true,Bool.not_eq_true',Bool.or_eq_false_iff,decide_eq_false_iff_not]at h;refine⟨fun e=> ?_,by omega⟩;subst e;simp at h
theorem KZ{v:aQ}{c:List Int}(h:eM v c=true):c≠ []:=(KY (zu (of_decide_eq_true h))).1
theorem lz{v:aQ}{c:List Int}:gO v c=true↔c=[]\/eM v c=true:=by
 unfold gO;rw[Bool.or_eq_true,decide_eq_true_eq];constructor
 ·rintro(h|h)
  ·exact .inl (List.length_eq_zero_iff.1 (by omega))
  ·exact .inr h
 ·rintro(rfl|h)
  ·exact .inl rfl
  ·exact .inr h
theorem xl{v:aQ}{c:List Int}(h:gO v c=true)(aS:c≠ []):eM v c=true:=(lz.1 h).resolve_left aS
theorem Sp{v:aQ}{l:List cb}{own:List Int}(aH:ob v l own=false)(aF:own≠ []): (fr v l own).2=true/\((fr v l own).1=own\/∃r∈l,0<=r.aB/\(fr v l own).1=r.cut):=by
 have eh:=(Kg aH).1;have ap:=Kf l eh;cases h1:decide (0<(l.getD (fb l l.length) cI).aB)
 ·cases aI:l.find? (ry v l)with
  |none=>
   have bQ:∀j (ai:j<l.length),ry v l l[j]=false:=fun j ai=>by
    have:=List.find?_eq_none.1 aI _ (List.getElem_mem ai);simpa using this
   rw[acl aH h1 bQ];refine⟨?_,.inl rfl⟩;cases own with
   |nil=>exact absurd rfl aF
   |cons x l=>exact decide_eq_true (by simp only[List.length_cons];omega)
  |some r=>
   obtain⟨bF,i,ab,he,bQ⟩:=List.find?_eq_some_iff_getElem.1 aI;subst he;rw[RI aH h1 ab bF (fun j ai hf=>by simpa using bQ j hf)];refine⟨rfl,.inr ⟨_,List.getElem_mem ab,?_,rfl⟩⟩;simp only[ry,Bool.and_eq_true,decide_eq_true_eq]at bF;omega
 ·rw[RJ aH h1];have ax:l.getD (fb l l.length) cI=l[fb l l.length]:=by simp[ap]
  refine⟨rfl,.inr ⟨_,List.getElem_mem ap,?_,by rw[ax]⟩⟩;rw[ax]at h1;have:=of_decide_eq_true h1;omega
theorem adK{a:iT}{c:List Int}(h:jC a=true)(bY: (l7 a c).2=true):a.cc=0/\a.aB= -1/\c9 c 32=true/\(l7 a c).1= ⟨0,0,c⟩:=by
 simp only[l7,h,Bool.not_true,cond_false]at bY⊢;cases al: (!decide (a.cc=0)|| !decide (a.aB= -1)|| !c9 c 32)with
 |true=>rw[al]at bY;cases bY
 |false=>
  simp only[Bool.or_eq_false_iff,Bool.not_eq_false',decide_eq_true_eq]at al;exact⟨al.1.1,al.1.2,al.2,rfl⟩
theorem K0{a:iT}{r:Int}(h:jC a=true)(bY: (hq a r).2.2=true):jB r=true/\a.cc<=r/\(hq a r).1= ⟨r,a.aB,a.cut⟩/\(hq a r).2.1= ⟨0,a.aB,a.cut⟩:=by
 simp only[hq,h,Bool.not_true,cond_false]at bY⊢;cases al: (!jB r||decide (r<a.cc))with
 |true=>rw[al]at bY;cases bY
 |false=>
  simp only[Bool.or_eq_false_iff,Bool.not_eq_false',decide_eq_false_iff_not]at al;exact⟨al.1,by omega,rfl,rfl⟩
theorem FQ{a:iT}{r:Int}{c:List Int}(h:jC a=true)(bY: (iy a r c).2=true):jB r=true/\a.cc<=r/\c9 c 32=true/\(iy a r c).1= ⟨r,r,c⟩/\(a.aB=r->a.cut=c):=by
 simp only[iy,h,Bool.not_true,cond_false]at bY⊢;cases al: (!jB r||decide (r<a.cc)|| !c9 c 32||decide (a.aB=r)&& !fK a.cut c)with
 |true=>rw[al]at bY;cases bY
 |false=>
  simp only[Bool.or_eq_false_iff,Bool.not_eq_false',decide_eq_false_iff_not,Bool.and_eq_false_iff]at al;refine⟨al.1.1.1,by omega,al.1.2,rfl,fun e=> ?_⟩;rcases al.2 with ad|ad
  ·exact absurd e ad
  ·exact va.1 ad
theorem mb{v:aQ}{r:Int}(h:ev v r=true):jB r=true/\bR v.mem (gC r)=true:=by
 simp only[ev,Bool.and_eq_true]at h;exact h
theorem rB{r:Int}(h:jB r=true):1024<r:=RE (by simpa[jB]using h)
structure c6(s:bj):Prop where
 v:bX s.view=true
 self:bR s.view.mem s.self=true
 aY:0<=s.dn
 eJ:s.dn<=1099511627776
 aL:jC s.aL=true
 cc:s.aL.cc≠0->ev s.view s.aL.cc=true
 nG:0<s.aL.aB->ev s.view s.aL.aB=true
 fk:gO s.view s.aL.cut=true
 prop:gO s.view s.prop=true
 ct:gO s.view s.ct=true
 dec:gO s.view s.dec=true
 box:fD s.view s.box=true
 own: (fE s.box s.self).2=true->(fE s.box s.self).1=s.prop
 br:fC s.view s.br=true
 oe:∀r∈s.br,0<r.aB->ev s.view r.aB=true
 aR:fC s.view s.aR=true
 lA:∀r∈s.aR,1<=r.aB/\ev s.view r.aB=true
 aB:s.aB≠0->ev s.view s.aB=true/\gC s.aB=s.self
 mc: (s.phase=0/\s.br=[]/\s.ct=[])\/(s.phase=1/\s.ct=[]\/s.phase=2/\s.ct≠ [])/\s.aB≠0/\s.prop≠ []/\0<=dV s.br s.self
def ht(s:bj):Prop:=s.phase=1->(s.br.length:Int)<fI s.view.mem.length
theorem Sq{l:List cb}{p:Nat->Bool}{q:cb->Prop}(h:∀i (ab:i<l.length),p i=true->q l[i])(aZ:gA p l.length=true):∀r∈l,q r:=fun r ao=>by
 obtain⟨i,ab,rfl⟩:=List.getElem_of_mem ao;exact h i ab (gB.1 aZ i ab)
theorem Sr{l:List cb}{p:Nat->Bool}{q:cb->Prop}(h:∀i (ab:i<l.length),q l[i]->p i=true)(aZ:∀r∈l,q r):gA p l.length=true:=
 gB.2 fun i ab=>h i ab (aZ _ (List.getElem_mem ab))
theorem FR{v:aQ}{l:List cb}:gA (xg v l) l.length=true↔∀r∈l,0<r.aB->ev v r.aB=true:=by
 constructor
 ·refine Sq fun i ab h aH=> ?_;have ax:l.getD i cI=l[i]:=by simp[ab]
  rw[xg,ax,decide_eq_true aH]at h;simpa using h
 ·refine Sr fun i ab h=> ?_;have ax:l.getD i cI=l[i]:=by simp[ab]
  rw[xg,ax];by_cases aH:0<l[i].aB
  ·rw[h aH];simp
  ·rw[decide_eq_false aH];rfl
theorem Ss{m:Int}{l:List cb}:gA (vq m l) l.length=true↔∀r∈l,m<=r.aB:=by
 constructor
 ·refine Sq fun i ab h=> ?_;have ax:l.getD i cI=l[i]:=by simp[ab]
  rw[vq,ax]at h;simp at h;exact h
 ·refine Sr fun i ab h=> ?_;have ax:l.getD i cI=l[i]:=by simp[ab]
  rw[vq,ax];simp;exact h
theorem St{α:Type}{l:List α}:decide ((l.length:Int)=0)=true↔l=[]:=by
 rw[decide_eq_true_eq];constructor
 ·intro h;exact List.length_eq_zero_iff.1 (by omega)
 ·rintro rfl;rfl
theorem pK{α:Type}{l:List α}:decide (0<(l.length:Int))=true↔l≠ []:=by
 rw[decide_eq_true_eq];constructor
 ·rintro h rfl;simp at h
 ·intro h;have:l.length≠0:=fun e=>h (List.length_eq_zero_iff.1 e);omega
theorem Ci{α:Type}{l:List α}:decide (0<(l.length:Int))=false↔l=[]:=by
 cases h:decide (0<(l.length:Int))
 ·simp only[true_iff];by_cases e:l=[]
  ·exact e
  ·rw[pK.2 e]at h;cases h
 ·have:=pK.1 h;simp[this]
theorem Su(s:bj):tX s=true↔ ((s.aB≠0->ev s.view s.aB=true/\gC s.aB=s.self)/\((s.phase=0/\s.br=[]/\s.ct=[])\/(s.phase=1/\s.ct=[]\/s.phase=2/\s.ct≠ [])/\s.aB≠0/\s.prop≠ []/\0<=dV s.br s.self)/\ht s):=by
 unfold tX ht;have az:= @St _ s.br;have aG:= @pK _ s.ct;have a7:= @pK _ s.prop;have b5:= @Ci _ s.ct;generalize decide ((s.br.length:Int)=0)=a2 at *;generalize decide (0<(s.ct.length:Int))=a3 at *;generalize decide (0<(s.prop.length:Int))=Sv at *;by_cases aH:s.aB=0
 ·by_cases QO:s.phase=0
  ·cases a2<;>cases a3<;>simp_all
  ·cases a3<;>by_cases hP:s.phase=1<;>by_cases ir:s.phase=2<;>simp_all
 ·cases ae: (!ev s.view s.aB|| !decide (gC s.aB=s.self))
  ·have nu:ev s.view s.aB=true/\gC s.aB=s.self:=by
    simp only[Bool.or_eq_false_iff,Bool.not_eq_false',decide_eq_true_eq]at ae;exact ae
   rw[decide_eq_false aH];simp only[Bool.not_false,Bool.true_and,cond_false,nu,ne_eq,aH,not_false_eq_true,true_and,forall_const];by_cases QO:s.phase=0
   ·cases a2<;>cases a3<;>simp_all
   ·by_cases hP:s.phase=1
    ·cases a3<;>cases Sv<;>by_cases hn:0<=dV s.br s.self<;>simp_all
    ·by_cases ir:s.phase=2
     ·cases a3<;>cases Sv<;>by_cases hn:0<=dV s.br s.self<;>simp_all
     ·cases a3<;>simp_all
  ·rw[decide_eq_false aH];simp only[Bool.not_false,Bool.true_and,cond_true,Bool.false_eq_true,ne_eq,aH,not_false_eq_true,forall_const,false_iff];intro ⟨h1,_⟩;rw[h1.1,decide_eq_true h1.2]at ae;cases ae
theorem vy(s:bj):eS s=true↔c6 s/\ht s:=by
 constructor
 ·intro h;obtain⟨v,self,aY,eJ⟩:=xh h;obtain⟨g1,g2,g3,g4⟩:=R8 h;obtain⟨gf,iu,pq,zv⟩:=xj h;obtain⟨hP,ir,vz⟩:=(Su s).1 pq;have af:=Ss.1 (gB.2 zv);unfold eS at h;cases h1: !bX s.view|| !bR s.view.mem s.self||decide (s.dn<0)||decide (1099511627776<s.dn)
  ·rw[h1,cond_false]at h;cases ad: (!jC s.aL|| !decide (s.aL.cc=0)&& !ev s.view s.aL.cc||decide (0<s.aL.aB)&& !ev s.view s.aL.aB|| !gO s.view s.aL.cut)
   ·rw[ad,cond_false]at h;simp only[Bool.or_eq_false_iff,Bool.and_eq_false_iff,Bool.not_eq_false',decide_eq_true_eq,decide_eq_false_iff_not]at ad;cases aC: !gO s.view s.prop|| !gO s.view s.ct|| !gO s.view s.dec|| !fD s.view s.box
    ·rw[aC,cond_false]at h;cases bh: (fE s.box s.self).2&& !fK (fE s.box s.self).1 s.prop
     ·rw[bh,cond_false]at h;simp only[Bool.and_eq_true,qF]at h;refine⟨⟨v,self,aY,eJ,ad.1.1.1,fun e=>ad.1.1.2.resolve_left e,fun e=>ad.1.2.resolve_left (fun h=>h e),ad.2,g1,g2,g3,g4,fun e=> ?_,gf,FR.1 h.2.1.1.1,iu,fun r ao=>⟨af r ao,FR.1 h.2.1.2.1 r ao (by have:=af r ao;omega)⟩,hP,ir⟩,vz⟩;rw[e,Bool.true_and]at bh;exact va.1 (by simpa using bh)
     ·rw[bh]at h;cases h
    ·rw[aC]at h;cases h
   ·rw[ad]at h;cases h
  ·rw[h1]at h;cases h
 ·rintro⟨h,aI⟩;have h1: (!bX s.view|| !bR s.view.mem s.self||decide (s.dn<0)||decide (1099511627776<s.dn))=false:=by
   have:=h.aY;have:=h.eJ;rw[h.v,h.self,decide_eq_false (by omega),decide_eq_false (by omega)];rfl
  have ad: (!jC s.aL|| !decide (s.aL.cc=0)&& !ev s.view s.aL.cc||decide (0<s.aL.aB)&& !ev s.view s.aL.aB|| !gO s.view s.aL.cut)=false:=by
   rw[h.aL,h.fk];simp only[Bool.or_eq_false_iff,Bool.and_eq_false_iff,Bool.not_eq_false',decide_eq_true_eq,decide_eq_false_iff_not];refine⟨⟨⟨by simp,?_⟩,?_⟩,by simp⟩
   ·by_cases e:s.aL.cc=0
    ·exact .inl e
    ·exact .inr (h.cc e)
   ·by_cases e:0<s.aL.aB
    ·exact .inr (h.nG e)
    ·exact .inl e
  have aC: (!gO s.view s.prop|| !gO s.view s.ct|| !gO s.view s.dec|| !fD s.view s.box)=false:=by
   rw[h.prop,h.ct,h.dec,h.box];rfl
  have bh: ((fE s.box s.self).2&& !fK (fE s.box s.self).1 s.prop)=false:=by
   cases e: (fE s.box s.self).2
   ·rfl
   ·rw[h.own e,va.2 rfl];rfl
  unfold eS;rw[h1,ad,aC,bh];simp only[cond_false,Bool.and_eq_true,qF];exact⟨Ss.2 fun r ao=>(h.lA r ao).1,⟨⟨FR.2 h.oe,h.br⟩,FR.2 fun r ao _=>(h.lA r ao).2,h.aR⟩,(Su s).2 ⟨h.aB,h.mc,aI⟩⟩
theorem adL{v:aQ}{x:Int}(ac:bX v=true)(h:bR v.mem x=true):1<=x/\x<=1000:=Kw ac h
theorem K1{v:aQ}(ac:bX v=true):fC v []=true:=(qE ac).2 ⟨by simp,.nil⟩
theorem FT{v:aQ}{m r:Int}{c:List Int}(h1:bR v.mem m=true)(ad:jB r=true)(aC:eM v c=true):kP v ⟨m,r,c⟩=true:=by
 simp only[kP,eM,Bool.and_eq_true,Bool.or_eq_true,decide_eq_true_eq]at *;exact⟨h1,.inr ⟨.inr ad,aC⟩⟩
theorem Sw{v:aQ}{r:cb}(h:kP v r=true):bR v.mem r.mem=true:=by
 simp only[kP,Bool.and_eq_true]at h;exact h.1
theorem Cj{v:aQ}{r:cb}(h:kP v r=true): (r.aB= -1/\r.cut=[])\/(r.aB=0\/jB r.aB=true)/\eM v r.cut=true:=by
 simp only[kP,eM,Bool.and_eq_true,Bool.or_eq_true,decide_eq_true_eq]at *;rcases h.2 with h|h
 ·exact .inl ⟨h.1,List.length_eq_zero_iff.1 (by omega)⟩
 ·exact .inr h
theorem Ck{l:List cb}{x:Int}:0<=dV l x↔∃r∈l,r.mem=x:=by
 constructor
 ·intro h;exact aci (decide_eq_true h)
 ·rintro⟨r,ao,he⟩;cases h:decide (0<=dV l x)
  ·exact absurd he (ach h r ao)
  ·exact of_decide_eq_true h
theorem adM{l:List cb}{r x:cb}(an:x∈l):x∈j7 l r:=by
 unfold j7;rw[<-List.take_append_drop (pJ l r.mem) l,List.mem_append]at an;simp only[List.mem_append,List.mem_singleton];rcases an with an|an
 ·exact .inl (.inl an)
 ·exact .inr an
theorem Sx{v:aQ}{l:List cb}{r x:cb}(h:fC v l=true)(an:x∈l):x∈ (fc v l r).1:=by
 unfold fc;cases ad:fC v (j7 l r)
 ·simp[h,an]
 ·simp[h];exact adM an
theorem Sy{s:bj}(h:c6 s):c6 (oc s):=
 ⟨h.v,h.self,h.aY,h.eJ,h.aL,h.cc,h.nG,h.fk,h.prop,lz.2 (.inl rfl),h.dec,h.box,h.own,K1 h.v,(fun r ao=>by cases ao),h.aR,h.lA,h.aB,.inl ⟨rfl,rfl,rfl⟩⟩
theorem Sz(s:bj):ht (oc s):=fun e=>by
 have: (0:Int)=1:=e;omega
theorem FU{s:bj}(h:c6 s){r:cb}(ao:kP s.view r=true)(au:ev s.view r.aB=true):c6 {s with aR:=e6 s.view s.aR r}:=
 ⟨h.v,h.self,h.aY,h.eJ,h.aL,h.cc,h.nG,h.fk,h.prop,h.ct,h.dec,h.box,h.own,h.br,h.oe,Sf h.v h.aR ao,(fun x an=>by
  rcases Cd an with rfl|an
  ·have:=rB (mb au).1;exact⟨by omega,au⟩
  ·exact h.lA x an),h.aB,h.mc⟩
theorem adN{r:Int}{c:List Int}(h1:jB r=true)(ad:c9 c 32=true):jC ⟨r,r,c⟩=true:=by
 have aH:=rB h1;have aC:gC r≠0:=by simpa[jB]using h1
 exact(tU _).2 ⟨.inr aC,Int.le_refl _,.inr ⟨.inr aC,by simp only[];omega,ad⟩⟩
theorem SA{s:bj}(h:c6 s){r:Int}{c:List Int}(au:ev s.view r=true)(al:eM s.view c=true):c6 {s with aL:=⟨r,r,c⟩}:=
 ⟨h.v,h.self,h.aY,h.eJ,adN (mb au).1 (zu (of_decide_eq_true al)),fun _=>au,fun _=>au,lz.2 (.inr al),h.prop,h.ct,h.dec,h.box,h.own,h.br,h.oe,h.aR,h.lA,h.aB,h.mc⟩
theorem adO{a:iT}(h:jC a=true){r:Int}(h1:jB r=true)(ad:a.cc<=r):jC ⟨r,a.aB,a.cut⟩=true:=by
 obtain⟨_,bh,bL⟩:=(tU a).1 h;exact(tU _).2 ⟨.inr (by simpa[jB]using h1),by simp only[];omega,bL⟩
theorem SB{s:bj}(h:c6 s){r:Int}(au:ev s.view r=true)(hle:s.aL.cc<=r):c6 {s with aL:=⟨r,s.aL.aB,s.aL.cut⟩}:=
 ⟨h.v,h.self,h.aY,h.eJ,adO h.aL (mb au).1 hle,fun _=>au,h.nG,h.fk,h.prop,h.ct,h.dec,h.box,h.own,h.br,h.oe,h.aR,h.lA,h.aB,h.mc⟩
theorem SC{s:bj}(h:c6 s): (ht s/\gq s=s)\/
  (s.phase=1/\ob s.view s.br s.prop=false/\s.prop≠ []/\eM s.view (fr s.view s.br s.prop).1=true/\(fr s.view s.br s.prop).2=true/\
   (((iy s.aL s.aB (fr s.view s.br s.prop).1).2=true/\gq s= {s with ct:=(fr s.view s.br s.prop).1,phase:=2,aL:=⟨s.aB,s.aB,(fr s.view s.br s.prop).1⟩,aR:=e6 s.view s.aR ⟨s.self,s.aB,(fr s.view s.br s.prop).1⟩})\/
   ((iy s.aL s.aB (fr s.view s.br s.prop).1).2=false/\gq s=oc s))):=by
 unfold gq;cases ae: !decide (s.phase=1)||decide ((s.br.length:Int)<fI s.view.mem.length)
 ·simp only[Bool.or_eq_false_iff,Bool.not_eq_false',decide_eq_true_eq,decide_eq_false_iff_not]at ae;right;have mD:s.prop≠ []:=by
   rcases h.mc with aH|aH
   ·omega
   ·exact aH.2.2.1
  have jW:=xl h.prop mD;have ax:ob s.view s.br s.prop=false:=by
   unfold ob;rw[h.br,decide_eq_false ae.2,of_decide_eq_true jW];simp
  obtain⟨de,dX⟩:=Sp ax mD;refine⟨ae.1,ax,mD,?_,de,?_⟩
  ·rcases dX with dX| ⟨r,ao,aH,dX⟩
   ·rw[dX];exact jW
   ·rw[dX];rcases Cj (((qE h.v).1 h.br).1 r ao)with ad|ad
    ·omega
    ·exact ad.2
  ·cases aZ: (iy s.aL s.aB (fr s.view s.br s.prop).1).2
   ·exact .inr ⟨rfl,rfl⟩
   ·left;have:=(FQ h.aL aZ).2.2.2.1;rw[this];exact⟨rfl,rfl⟩
 ·left;simp only[Bool.or_eq_true,Bool.not_eq_true',decide_eq_false_iff_not,decide_eq_true_eq]at ae;refine⟨fun e=> ?_,rfl⟩;rcases ae with ae|ae
  ·exact absurd e ae
  ·exact ae
theorem K2{s:bj}(h:c6 s):c6 (gq s)/\ht (gq s)/\(gq s).view=s.view/\(gq s).self=s.self/\(gq s).dec=s.dec/\(gq s).aB=s.aB:=by
 rcases SC h with⟨aI,e⟩| ⟨h1,ax,mD,jW,_,⟨aZ,e⟩| ⟨aZ,e⟩⟩
 ·rw[e];exact⟨h,aI,rfl,rfl,rfl,rfl⟩
 ·rw[e];have k8:=h.mc;rw[h1]at k8;have K3:s.aB≠0:=by
   rcases k8 with aH|aH
   ·omega
   ·exact aH.2.1
  have h5:0<=dV s.br s.self:=by
   rcases k8 with aH|aH
   ·omega
   ·exact aH.2.2.2
  obtain⟨au,aF⟩:=h.aB K3;have ad:=FU (r:=⟨s.self,s.aB,(fr s.view s.br s.prop).1⟩) h (FT h.self (mb au).1 jW) au;have aC:=SA ad au jW;exact⟨⟨aC.v,aC.self,aC.aY,aC.eJ,aC.aL,aC.cc,aC.nG,aC.fk,aC.prop,lz.2 (.inr jW),aC.dec,aC.box,aC.own,aC.br,aC.oe,aC.aR,aC.lA,aC.aB,.inr ⟨.inr ⟨rfl,KZ jW⟩,K3,mD,h5⟩⟩,(fun e=>by
   have: (2:Int)=1:=e;omega),rfl,rfl,rfl,rfl⟩
 ·rw[e];exact⟨Sy h,Sz s,rfl,rfl,rfl,rfl⟩
structure qH(s:bj)(p:dy):Prop where
 vA:eX s.view p.m=true
 src:p.m.src=s.self
 ny:p.cZ≠s.self
 cZ:p.cZ=0\/bR s.view.mem p.cZ=true
theorem xm{v:aQ}{k self aB cq:Int}{c:List Int}(ac:bX v=true)(ag:bR v.mem self=true)
  (h: (bif decide (k=1)||decide (k=6)then decide (aB=0)&&decide (cq=0)&&eM v c
 else bif decide (k=2)then ev v aB&&decide (gC aB=self)&&decide (cq=0)&&decide ((c.length:Int)=0)
 else bif decide (k=3)then ev v aB&& !decide (aB<cq)&& (decide (cq= -1)&&decide ((c.length:Int)=0)|| (decide (cq=0)||ev v cq)&&eM v c)
 else bif decide (k=4)then ev v aB&&decide (gC aB=self)&&decide (cq=0)&&eM v c
 else bif decide (k=5)then ev v aB&&decide (cq=0)&&eM v c
 else false)=true):eX v ⟨k,v.num,self,aB,cq,c⟩=true:=by
 unfold eX;rw[ac,ag];simp only[decide_true,Bool.not_true,Bool.or_self,cond_false];exact h
theorem Cl{s:bj}(h:c6 s){k aB cq:Int}{c:List Int}(aT:eX s.view ⟨k,s.view.num,s.self,aB,cq,c⟩=true):qH s (ef s 0 k aB cq c):=
 ⟨aT,rfl,(by have:=adL h.v h.self;show (0:Int)≠s.self;omega),.inl rfl⟩
theorem K4{s:bj}(h:c6 s){c:List Int}(al:eM s.view c=true):qH s (ef s 0 6 0 0 c):=
 Cl h (xm h.v h.self (by simp[al]))
theorem SD{s:bj}(h:c6 s){c:List Int}(al:eM s.view c=true):qH s (ef s 0 1 0 0 c):=
 Cl h (xm h.v h.self (by simp[al]))
theorem adP{s:bj}(h:c6 s)(ao:s.aB≠0):qH s (ef s 0 2 s.aB 0 []):=by
 obtain⟨au,aF⟩:=h.aB ao;exact Cl h (xm h.v h.self (by simp[au,aF]))
theorem SE{s:bj}(h:c6 s)(ao:s.aB≠0){c:List Int}(al:eM s.view c=true):qH s (ef s 0 4 s.aB 0 c):=by
 obtain⟨au,aF⟩:=h.aB ao;exact Cl h (xm h.v h.self (by simp[au,aF,al]))
theorem SF{s:bj}(h:c6 s){r:Int}(au:ev s.view r=true){c:List Int}(al:eM s.view c=true):qH s (ef s 0 5 r 0 c):=
 Cl h (xm h.v h.self (by simp[au,al]))
theorem adQ{v:aQ}{l:List cv}(h: (iA v l).2=true):∃b∈l,b.cut=(iA v l).1:=by
 unfold iA at h⊢;cases ae: !fD v l
 ·rw[ae,cond_false]at h;rw[cond_false];cases aI:l.find? (fun b=>decide (oV v.mem.length<=(gp l b.cut:Int)))with
  |none=>rw[aI]at h;cases h
  |some b=>exact⟨b,List.mem_of_find?_eq_some aI,rfl⟩
 ·rw[ae]at h;cases h
theorem K5{l:List cb}{m:Int}:∀i,i<=l.length->(jU l m i).2=[]\/∃r∈l,r.aB=(jU l m i).1/\r.cut=(jU l m i).2/\m<=(na l r l.length:Int)
 |0,_=>.inl rfl
 |i+1,ab=>by
  unfold jU;cases ae:decide (m<=(na l (l.getD i cI) l.length:Int))&&decide ((jU l m i).1<(l.getD i cI).aB)
  ·exact K5 i (by omega)
  ·have ax:l.getD i cI=l[i]:=by simp[show i<l.length by omega]
   rw[ax]at ae⊢;simp only[Bool.and_eq_true,decide_eq_true_eq]at ae;exact .inr ⟨l[i],List.getElem_mem (by omega),rfl,rfl,ae.1⟩
theorem adR{s:bj}(h:c6 s)(aS:je s≠ []):eM s.view (je s)=true:=by
 unfold je at aS⊢;cases hw: (iA s.view s.box).2
 ·rw[hw,cond_false]at aS;rw[cond_false];unfold sC at aS⊢;rcases K5 (l:=s.aR) (m:=fI s.view.mem.length) s.aR.length (Nat.le_refl _)with h1| ⟨r,ao,ad,aC,_⟩
  ·exact absurd h1 aS
  ·rw[<-aC];have jW:=h.lA r ao;rcases Cj (((qE h.v).1 h.aR).1 r ao)with bh|bh
   ·omega
   ·exact bh.2
 ·rw[cond_true];obtain⟨b,ae,he⟩:=adQ hw;rw[<-he];exact(((rz h.v).1 h.box).1 b ae).2
theorem adS{s:bj}(h:c6 s)(aI:ht s){aX:List dy}(au:∀p∈aX,qH s p):c6 (dz s aX).1/\ht (dz s aX).1/\(dz s aX).1.view=s.view/\(dz s aX).1.self=s.self/\∀p∈ (dz s aX).2,qH s p:=by
 unfold dz;cases ae:decide ((s.dec.length:Int)=0)&&decide (0<((je s).length:Int))
 ·exact⟨h,aI,rfl,rfl,au⟩
 ·rw[Bool.and_eq_true]at ae;have aZ:=adR h (pK.1 ae.2);refine⟨⟨h.v,h.self,h.aY,h.eJ,h.aL,h.cc,h.nG,h.fk,h.prop,h.ct,lz.2 (.inr aZ),h.box,h.own,h.br,h.oe,h.aR,h.lA,h.aB,h.mc⟩,aI,rfl,rfl,fun p iQ=> ?_⟩;simp only[cond_true,List.mem_append,List.mem_singleton]at iQ;rcases iQ with iQ|rfl
  ·exact au p iQ
  ·exact K4 h aZ
def oX(s:bj)(x:bj×List dy):Prop:=c6 x.1/\ht x.1/\x.1.view=s.view/\x.1.self=s.self/\∀p∈x.2,qH s p
theorem FV{s:bj}{x:bj×List dy}(h:oX s x):oX s (dz x.1 x.2):=by
 obtain⟨h1,ad,aC,bh,bL⟩:=h;have ku:∀p∈x.2,qH x.1 p:=fun p au=>by
  have:=bL p au;exact⟨by rw[aC];exact this.vA,by rw[bh];exact this.src,by rw[bh];exact this.ny,by rw[aC];exact this.cZ⟩
 obtain⟨az,aG,a7,b5,du⟩:=adS h1 ad ku;refine⟨az,aG,a7.trans aC,b5.trans bh,fun p au=> ?_⟩;have:=du p au;exact⟨by rw[<-aC];exact this.vA,by rw[<-bh];exact this.src,by rw[<-bh];exact this.ny,by rw[<-aC];exact this.cZ⟩
theorem rC{v:aQ}{m:dx}(h:eX v m=true):bR v.mem m.src=true/\m.view=v.num:=by
 unfold eX at h;cases h1: !bX v|| !bR v.mem m.src|| !decide (m.view=v.num)
 ·simp only[Bool.or_eq_false_iff,Bool.not_eq_false',decide_eq_true_eq]at h1;exact⟨h1.1.2,h1.2⟩
 ·rw[h1]at h;cases h
theorem sD{v:aQ}{m:dx}(h:eX v m=true): (m.kind=1\/m.kind=6->eM v m.cut=true)/\(m.kind=2->ev v m.aB=true/\gC m.aB=m.src)/\
  (m.kind=3->ev v m.aB=true/\m.cq<=m.aB/\(m.cq= -1/\m.cut=[]\/(m.cq=0\/ev v m.cq=true)/\eM v m.cut=true))/\
  (m.kind=4->ev v m.aB=true/\gC m.aB=m.src/\eM v m.cut=true)/\(m.kind=5->ev v m.aB=true/\eM v m.cut=true):=by
 unfold eX at h;cases h1: !bX v|| !bR v.mem m.src|| !decide (m.view=v.num)
 ·rw[h1,cond_false]at h;refine⟨fun hk=> ?_,fun hk=> ?_,fun hk=> ?_,fun hk=> ?_,fun hk=> ?_⟩
  ·rcases hk with hk|hk<;>simp[hk]at h<;>exact h.2
  ·simp[hk]at h;exact⟨h.1.1.1,h.1.1.2⟩
  ·simp[hk]at h;refine⟨h.1.1,h.1.2,?_⟩;rcases h.2 with ad|ad
   ·exact .inl ad
   ·exact .inr ad
  ·simp[hk]at h;exact⟨h.1.1.1,h.1.1.2,h.2⟩
  ·simp[hk]at h;exact⟨h.1.1,h.2⟩
 ·rw[h1]at h;cases h
theorem SG{s:bj}(h:c6 s): (s.aL.aB= -1/\s.aL.cut=[])\/(s.aL.aB=0\/ev s.view s.aL.aB=true)/\eM s.view s.aL.cut=true:=by
 rcases((tU s.aL).1 h.aL).2.2 with h1| ⟨h1,_,aC⟩
 ·exact .inl h1
 ·right;refine⟨?_,xl h.fk (KY aC).1⟩;rcases h1 with h1|h1
  ·exact .inl h1
  ·have:=RE h1;exact .inr (h.nG (by omega))
theorem adT{s:bj}(h:c6 s)(aI:ht s){m:dx}(aT:eX s.view m=true)(hk:m.kind=2)(aS:m.src≠s.self):oX s (jV s m):=by
 obtain⟨mR,_⟩:=rC aT;obtain⟨au,_⟩:=(sD aT).2.1 hk;unfold jV;have key:∀t:bj,c6 t->ht t->t.view=s.view->t.self=s.self->∀aX:List dy,(∀p∈aX,qH s p)->oX s ((bif decide (s.aB<m.aB)&& !decide (s.phase=0)then oc t else t),aX):=by
  intro t h1 ad aC bh aX l6;cases decide (s.aB<m.aB)&& !decide (s.phase=0)
  ·exact⟨h1,ad,aC,bh,l6⟩
  ·exact⟨Sy h1,Sz t,aC,bh,l6⟩
 cases aF: (hq s.aL m.aB).2.2
 ·exact key s h aI rfl rfl [] (by simp)
 ·obtain⟨hu,hle,az,aG⟩:=K0 h.aL aF;rw[az,aG];have fp:=((tU s.aL).1 h.aL).2.1;refine key _ (SB h au hle) aI rfl rfl _ (fun p iQ=> ?_);simp only[cond_true,List.mem_singleton]at iQ;subst iQ;refine⟨xm h.v h.self ?_,rfl,aS,.inr mR⟩;simp only[au,Bool.true_and];have aH:decide (m.aB<s.aL.aB)=false:=decide_eq_false (by omega);rcases SG h with⟨h1,ad⟩| ⟨h1,ad⟩
  ·rw[aH,h1,ad];rfl
  ·rw[aH,ad];rcases h1 with h1|h1
   ·rw[h1];simp
   ·rw[h1];simp
theorem adU{s:bj}(h:c6 s)(aI:ht s){m:dx}(aT:eX s.view m=true)(hk:m.kind=3):oX s (kQ s m):=by
 obtain⟨mR,_⟩:=rC aT;obtain⟨au,_,af⟩:=(sD aT).2.2.1 hk;unfold kQ;cases ae: !decide (s.phase=1)|| !decide (m.aB=s.aB)
 ·simp only[Bool.or_eq_false_iff,Bool.not_eq_false',decide_eq_true_eq]at ae;have k8:=h.mc;rw[ae.1]at k8;have k8:s.ct=[]/\s.aB≠0/\s.prop≠ []/\0<=dV s.br s.self:=by
   rcases k8 with aH| ⟨aH|aH,h1⟩
   ·omega
   ·exact⟨aH.2,h1⟩
   ·omega
  have h1:c6 {s with br:=(fc s.view s.br ⟨m.src,m.cq,m.cut⟩).1}:=by
   refine⟨h.v,h.self,h.aY,h.eJ,h.aL,h.cc,h.nG,h.fk,h.prop,h.ct,h.dec,h.box,h.own,KS h.br,fun r ao aH=> ?_,h.aR,h.lA,h.aB,.inr ⟨.inl ⟨ae.1,k8.1⟩,k8.2.1,k8.2.2.1,?_⟩⟩
   ·rcases zt ao with rfl|ao
    ·rcases af with af|af
     ·simp only[]at aH;omega
     ·rcases af.1 with af|af
      ·simp only[]at aH;omega
      ·exact af
    ·exact h.oe r ao aH
   ·obtain⟨r,ao,he⟩:=Ck.1 k8.2.2.2;exact Ck.2 ⟨r,Sx h.br ao,he⟩
  obtain⟨ad,aC,bh,bL,_,c0⟩:=K2 h1;refine⟨ad,aC,bh,bL,fun p iQ=> ?_⟩;simp only[cond_false]at iQ;generalize gq {s with br:=(fc s.view s.br ⟨m.src,m.cq,m.cut⟩).1}=A at *;cases aw:decide (A.phase=2)
  ·rw[aw]at iQ;cases iQ
  ·rw[aw]at iQ;simp only[cond_true,List.mem_singleton]at iQ;subst iQ;have aw:=of_decide_eq_true aw;have al:A.ct≠ []/\A.aB≠0:=by
    rcases ad.mc with aH| ⟨aH|aH,fo⟩
    ·omega
    ·omega
    ·exact⟨aH.2,fo.1⟩
   have:=SE ad al.2 (xl ad.ct al.1);exact⟨by rw[<-bh];exact this.vA,by rw[<-bL];exact this.src,by rw[<-bL];exact this.ny,by rw[<-bh];exact this.cZ⟩
 ·exact⟨h,aI,rfl,rfl,by simp⟩
theorem adV{s:bj}(h:c6 s)(aI:ht s){m:dx}(aT:eX s.view m=true)(hk:m.kind=4):oX s (kR s m):=by
 obtain⟨mR,_⟩:=rC aT;obtain⟨au,_,al⟩:=(sD aT).2.2.2.1 hk;have h1:=FU (r:=⟨m.src,m.aB,m.cut⟩) h (FT mR (mb au).1 al) au;unfold kR;cases aZ: (iy s.aL m.aB m.cut).2
 ·exact⟨h1,aI,rfl,rfl,by simp⟩
 ·have e:=(FQ h.aL aZ).2.2.2.1;rw[e];have ad:=FU (r:=⟨s.self,m.aB,m.cut⟩) h1 (FT h.self (mb au).1 al) au;have aC:=SA ad au al;refine⟨aC,aI,rfl,rfl,fun p iQ=> ?_⟩;simp only[cond_true,List.mem_singleton]at iQ;subst iQ;exact SF h au al
theorem adW{s:bj}(h:c6 s)(aI:ht s){m:dx}(aT:eX s.view m=true)(hk:m.kind=5):oX s ({s with aR:=e6 s.view s.aR ⟨m.src,m.aB,m.cut⟩},[]):=by
 obtain⟨mR,_⟩:=rC aT;obtain⟨au,al⟩:=(sD aT).2.2.2.2 hk;exact⟨FU h (FT mR (mb au).1 al) au,aI,rfl,rfl,by simp⟩
theorem adX{s:bj}(h:c6 s)(aI:ht s){m:dx}(aT:eX s.view m=true)(hk:m.kind=6):oX s ({s with dec:=m.cut},[ef s 0 6 0 0 m.cut]):=by
 have al:=(sD aT).1 (.inr hk);refine⟨⟨h.v,h.self,h.aY,h.eJ,h.aL,h.cc,h.nG,h.fk,h.prop,h.ct,lz.2 (.inr al),h.box,h.own,h.br,h.oe,h.aR,h.lA,h.aB,h.mc⟩,aI,rfl,rfl,fun p au=> ?_⟩;simp only[List.mem_singleton]at au;subst au;exact K4 h al
theorem adY{l:List cv}{x:Int}(h:decide (0<=iz l x)=true): (iz l x).toNat<l.length/\(l.getD (iz l x).toNat gP).mem=x:=by
 have h:=of_decide_eq_true h;unfold iz at h⊢;rcases aI: (List.range l.length).find? (fun i=>decide ((l.getD i gP).mem=x))with _|n
 ·simp only[jv,aI]at h;omega
 ·have aS:n<l.length:=List.mem_range.1 (List.mem_of_find?_eq_some aI);have AZ:=List.find?_some aI;simp only[jv,aI,Int.toNat_natCast];exact⟨aS,of_decide_eq_true AZ⟩
theorem Cm{l:List cv}{x:Int}(h: (fE l x).2=true):∃b∈l,b.mem=x/\b.cut=(fE l x).1:=by
 unfold fE at h⊢;cases aa:decide (0<=iz l x)
 ·rw[aa]at h;cases h
 ·obtain⟨h1,ad⟩:=adY aa;refine⟨l.getD (iz l x).toNat gP,?_,ad,rfl⟩;simp[h1]
theorem adZ{l:List cv}{x:Int}(h: (fE l x).2=false):∀b∈l,b.mem≠x:=by
 unfold fE at h;cases aa:decide (0<=iz l x)
 ·exact Kq aa
 ·rw[aa]at h;cases h
theorem ad0{l:List cv}(au:List.Pairwise (fun a b:cv=>a.mem<b.mem) l){a b:cv}(aZ:a∈l)(ae:b∈l)(he:a.mem=b.mem):a=b:=by
 obtain⟨i,ab,rfl⟩:=List.getElem_of_mem aZ;obtain⟨j,ai,rfl⟩:=List.getElem_of_mem ae;rw[List.pairwise_iff_getElem]at au;rcases Nat.lt_trichotomy i j with h|h|h
 ·have:=au i j ab ai h;omega
 ·subst h;rfl
 ·have:=au j i ai ab h;omega
theorem xn{v:aQ}(ac:bX v=true){l:List cv}(ae:fD v l=true){x:Int}{c:List Int}: ((fE l x).2=true->(fE l x).1=c)↔∀b∈l,b.mem=x->b.cut=c:=by
 constructor
 ·intro h b zw he;cases al: (fE l x).2
  ·exact absurd he (adZ al b zw)
  ·obtain⟨cH,ad,aC,bh⟩:=Cm al;have:=ad0 ((rz ac).1 ae).2 zw ad (he.trans aC.symm);rw[this,bh,h al]
 ·intro h al;obtain⟨cH,ad,aC,bh⟩:=Cm al;rw[<-bh,h cH ad aC]
theorem SH{v:aQ}{l:List cv}{b:cv}(h: (gQ v l b).2=0):fD v l=true/\eM v b.cut=true/\bR v.mem b.mem=true/\(∀x∈l,x.mem≠b.mem)/\(gQ v l b).1=hr l b:=by
 unfold gQ at h⊢;cases h1: !fD v l|| !eM v b.cut
 ·rw[h1,cond_false]at h;rw[cond_false];simp only[Bool.or_eq_false_iff,Bool.not_eq_false']at h1;cases ad: !bR v.mem b.mem
  ·rw[ad,cond_false]at h;rw[cond_false];cases aC:decide (0<=iz l b.mem)
   ·exact⟨h1.1,h1.2,by simpa using ad,Kq aC,rfl⟩
   ·rw[aC]at h;simp at h
  ·rw[ad]at h;simp at h
 ·rw[h1]at h;simp at h
theorem SI{v:aQ}(ac:bX v=true){l:List cv}{b:cv}(h:fD v l=true)(al:eM v b.cut=true)(ab:bR v.mem b.mem=true)(aS:∀x∈l,x.mem≠b.mem):fD v (hr l b)=true:=by
 obtain⟨h1,ad⟩:=(rz ac).1 h;refine(rz ac).2 ⟨fun x an=> ?_,(acv ad).2 aS⟩;rcases vo an with rfl|an
 ·exact⟨ab,al⟩
 ·exact h1 x an
theorem ad1{s:bj}(h:c6 s){l:List cv}(ae:fD s.view l=true)(aF:∀b∈l,b.mem=s.self->b.cut=s.prop):c6 {s with box:=l}:=
 ⟨h.v,h.self,h.aY,h.eJ,h.aL,h.cc,h.nG,h.fk,h.prop,h.ct,h.dec,ae,(xn h.v ae).2 aF,h.br,h.oe,h.aR,h.lA,h.aB,h.mc⟩
theorem ad2{s:bj}(h:c6 s)(aI:ht s){m:dx}(aS:m.src≠s.self):oX s (lx s m,[]):=by
 unfold lx;cases al:decide ((gQ s.view s.box ⟨m.src,m.cut⟩).2=0)
 ·exact⟨h,aI,rfl,rfl,by simp⟩
 ·obtain⟨h1,ad,aC,bh,bL⟩:=SH (of_decide_eq_true al);rw[cond_true,bL];refine⟨ad1 h (SI h.v h1 ad aC bh) (fun b ae he=> ?_),aI,rfl,rfl,by simp⟩;rcases vo ae with rfl|ae
  ·exact absurd he aS
  ·exact(xn h.v h.box).1 h.own b ae he
theorem K6{s:bj}(h:c6 s)(aI:ht s){m:dx}(aT:eX s.view m=true)(aS:m.src≠s.self):oX s (l9 s m):=by
 unfold l9;rcases Cg aT with hk|hk|hk|hk|hk|hk
 ·rw[if_pos hk];exact ad2 h aI aS
 ·rw[if_neg (by omega),if_pos hk];exact adT h aI aT hk aS
 ·rw[if_neg (by omega),if_neg (by omega),if_pos hk];exact adU h aI aT hk
 ·rw[if_neg (by omega),if_neg (by omega),if_neg (by omega),if_pos hk];exact adV h aI aT hk
 ·rw[if_neg (by omega),if_neg (by omega),if_neg (by omega),if_neg (by omega),if_pos hk];exact adW h aI aT hk
 ·rw[if_neg (by omega),if_neg (by omega),if_neg (by omega),if_neg (by omega),if_neg (by omega)];exact adX h aI aT hk
theorem K7{s:bj}(h:c6 s)(aI:ht s){m:dx}(bY: (e7 s m).2.2=0):oX s ((e7 s m).1,(e7 s m).2.1):=by
 have ae:eS s=true:=(vy s).2 ⟨h,aI⟩;unfold e7 at bY⊢;rw[if_neg (by rw[ae];simp)]at bY⊢;by_cases ad:decide (m.view=s.view.num)=false
 ·rw[if_pos ad]at bY;simp at bY
 rw[if_neg ad]at bY⊢;by_cases aC: (!eX s.view m||decide (m.src=s.self))=true
 ·rw[if_pos aC]at bY;simp at bY
 rw[if_neg aC]at bY⊢;have aC: (!eX s.view m||decide (m.src=s.self))=false:=by simpa using aC
 simp only[Bool.or_eq_false_iff,Bool.not_eq_false',decide_eq_false_iff_not]at aC;by_cases bL:decide (0<(s.dec.length:Int))=true
 ·rw[if_pos bL];refine⟨h,aI,rfl,rfl,fun p au=> ?_⟩;cases hk:decide (m.kind=6)
  ·simp only[hk,cond_false,List.mem_singleton]at au;subst au;have aa:=xl h.dec (pK.1 bL);exact⟨xm h.v h.self (by simp[aa]),rfl,aC.2,.inr (rC aC.1).1⟩
  ·simp only[hk,cond_true]at au;cases au
 rw[if_neg bL];exact FV (K6 h aI aC.1 aC.2)
theorem zx{v:aQ}{c:List Int}(h:gO v c=true):c.length<=32:=by
 rcases lz.1 h with rfl|h
 ·exact Nat.zero_le _
 ·have:=(KY (zu (of_decide_eq_true h))).2;omega
theorem SJ{v:aQ}{r:cb}(h:kP v r=true):r.cut.length<=32:=by
 rcases Cj h with h|h
 ·rw[h.2];exact Nat.zero_le _
 ·exact zx (lz.2 (.inr h.2))
theorem FW{s:bj}(h:c6 s):dt s:=by
 have aS:=tV h.v;have ao:=oW h.br;have aZ:=oW h.aR;have ae:=Kx h.box;refine⟨by omega,by have:=zx h.fk;omega,by have:=zx h.prop;omega,by omega,fun b fq=> ?_,by omega,fun r hc=> ?_,by have:=zx h.ct;omega,by omega,fun r hc=> ?_,by have:=zx h.dec;omega⟩
 ·have:=zx (lz.2 (.inr (((rz h.v).1 h.box).1 b fq).2));omega
 ·have:=SJ (((qE h.v).1 h.br).1 r hc);omega
 ·have:=SJ (((qE h.v).1 h.aR).1 r hc);omega
theorem ad3{s:bj}(h:c6 s):∀p∈iV s,qH s p:=by
 intro p au;unfold iV at au;rw[List.mem_append,List.mem_append]at au;rcases au with(au|au)|au
 ·unfold vt at au;cases al: (fE s.box s.self).2
  ·rw[al]at au;cases au
  ·rw[al]at au;simp only[cond_true,List.mem_singleton]at au;subst au;obtain⟨b,ae,_,he⟩:=Cm al;rw[<-he];exact SD h (((rz h.v).1 h.box).1 b ae).2
 ·unfold vu at au;cases h1:decide (s.phase=1)
  ·cases ad:decide (s.phase=2)
   ·rw[h1,ad]at au;cases au
   ·rw[h1,ad]at au;simp only[cond_true,cond_false,List.mem_singleton]at au;subst au;have ad:=of_decide_eq_true ad;rcases h.mc with aH| ⟨aH|aH,fo⟩
    ·omega
    ·omega
    ·exact SE h fo.1 (xl h.ct aH.2)
  ·rw[h1]at au;simp only[cond_true,List.mem_singleton]at au;subst au;have h1:=of_decide_eq_true h1;rcases h.mc with aH| ⟨aH|aH,fo⟩
   ·omega
   ·exact adP h fo.1
   ·omega
 ·unfold vv at au;cases ae:decide (0<=dV s.aR s.self)&& !decide (s.phase=2)
  ·rw[ae]at au;cases au
  ·rw[ae]at au;simp only[cond_true,List.mem_singleton]at au;subst au;obtain⟨_,hk⟩:=zs ((Bool.and_eq_true ..).mp ae).1;have aT:s.aR.getD (dV s.aR s.self).toNat cI∈s.aR:=by simp[hk]
   generalize s.aR.getD (dV s.aR s.self).toNat cI=r at *;have aZ:=h.lA r aT;refine SF h aZ.2 ?_;rcases Cj (((qE h.v).1 h.aR).1 r aT)with bh|bh
   ·omega
   ·exact bh.2
theorem SK{a m:Int}(h:sB a m≠0):1<=a/\a<=1048575/\sB a m=1024*a+m/\gC (sB a m)=m/\1<=m/\m<=1000:=by
 by_cases al:1<=a/\a<=1048575/\1<=m/\m<=1000
 ·have e:=aca al.1 al.2.1 al.2.2.1 al.2.2.2;refine⟨al.1,al.2.1,e,?_,al.2.2.1,al.2.2.2⟩;rw[e,acc (by omega) (by omega) (by omega)];omega
 ·exact absurd (acb al) h
theorem ad4{s:bj}(h:c6 s)(aS:hg s≠0):ev s.view (hg s)=true/\gC (hg s)=s.self:=by
 unfold hg at aS⊢;obtain⟨_,_,_,bh,bL,_⟩:=SK aS;refine⟨?_,bh⟩;unfold ev;rw[bh,h.self,decide_eq_false (by omega)];rfl
theorem ad5{s:bj}(h:c6 s):kP s.view ⟨s.self,s.aL.aB,s.aL.cut⟩=true:=by
 simp only[kP,h.self,Bool.true_and,Bool.or_eq_true,Bool.and_eq_true,decide_eq_true_eq];rcases SG h with⟨h1,ad⟩| ⟨h1,ad⟩
 ·left;rw[ad];exact⟨h1,rfl⟩
 ·right;refine⟨?_,of_decide_eq_true ad⟩;rcases h1 with h1|h1
  ·exact .inl h1
  ·exact .inr (mb h1).1
theorem ad6{v:aQ}(ac:bX v=true){r:cb}(h:kP v r=true):fC v [r]=true:=
 (qE ac).2 ⟨fun x an=>by rw[List.mem_singleton.1 an];exact h,List.pairwise_singleton ..⟩
def K8(s:bj):bj:={s with aL:=⟨hg s,s.aL.aB,s.aL.cut⟩,dn:=0,aB:=hg s,phase:=1,ct:=[],br:=[⟨s.self,s.aL.aB,s.aL.cut⟩]}
theorem SL{s:bj}(h:c6 s)(au:s.prop≠ [])(ao:ev s.view (hg s)=true)(aF:gC (hg s)=s.self)(hle:s.aL.cc<=hg s):c6 (K8 s):=by
 have h1:=SB h ao hle;have eh:=rB (mb ao).1;refine⟨h.v,h.self,Int.le_refl _,(by show (0:Int)<=_;omega),h1.aL,h1.cc,h1.nG,h1.fk,h.prop,lz.2 (.inl rfl),h.dec,h.box,h.own,ad6 h.v (ad5 h),fun r hc aH=> ?_,h.aR,h.lA,fun _=>⟨ao,aF⟩,.inr ⟨.inl ⟨rfl,rfl⟩,?_,au,Ck.2 ⟨_,List.mem_singleton.2 rfl,rfl⟩⟩⟩
 ·rcases List.mem_singleton.1 hc with rfl;exact h.nG aH
 ·show hg s≠0;omega
theorem SM{s:bj}(h:c6 s):ma s=s\/(ev s.view (hg s)=true/\gC (hg s)=s.self/\s.aL.cc<=hg s/\ma s=gq (K8 s)):=by
 unfold ma;cases aH:decide (hg s=0)
 ·cases aF: (hq s.aL (hg s)).2.2
  ·exact .inl rfl
  ·obtain⟨h1,ad⟩:=ad4 h (of_decide_eq_false aH);obtain⟨_,hle,az,aG⟩:=K0 h.aL aF;right;refine⟨h1,ad,hle,?_⟩;rw[az,aG];rfl
 ·exact .inl rfl
theorem ad7{s:bj}(h:c6 s)(aI:ht s)(au:s.prop≠ []):c6 (ma s)/\ht (ma s)/\(ma s).view=s.view/\(ma s).self=s.self:=by
 rcases SM h with e| ⟨h1,ad,aC,e⟩
 ·rw[e];exact⟨h,aI,rfl,rfl⟩
 ·rw[e];obtain⟨dl,a2,a3,a4,_⟩:=K2 (SL h au h1 ad aC);exact⟨dl,a2,a3,a4⟩
theorem SN{s:bj}(h:c6 s):0<=ly s/\ly s<=1099511627776:=by
 have aH:=h.aY;have h1:=h.eJ;unfold ly;rw[dC (by omega) (by omega)];split<;>omega
theorem SO{s:bj}(h:c6 s){w:Int}(aH:0<=w)(h1:w<=1099511627776):c6 {s with dn:=w}:=
 ⟨h.v,h.self,aH,h1,h.aL,h.cc,h.nG,h.fk,h.prop,h.ct,h.dec,h.box,h.own,h.br,h.oe,h.aR,h.lA,h.aB,h.mc⟩
theorem SP{s:bj}(h:c6 s)(aI:ht s):c6 (hW s)/\ht (hW s)/\(hW s).view=s.view/\(hW s).self=s.self:=by
 have hw:=SN h;have h1:=SO h hw.1 hw.2;unfold hW;by_cases c0:decide (0<(s.prop.length:Int))=true
 ·rw[if_pos c0];by_cases fo:vx s=true
  ·rw[if_pos fo];exact ad7 h1 aI (pK.1 c0)
  ·rw[if_neg fo];exact⟨h1,aI,rfl,rfl⟩
 ·rw[if_neg c0];exact⟨h,aI,rfl,rfl⟩
theorem SQ{s:bj}(h:c6 s)(aI:ht s):oX s (ej s):=by
 have ae:eS s=true:=(vy s).2 ⟨h,aI⟩;unfold ej;rw[if_neg (by rw[ae];simp)];by_cases bL:decide (0<(s.dec.length:Int))=true
 ·rw[if_pos bL];refine⟨h,aI,rfl,rfl,fun p au=> ?_⟩;rcases List.mem_singleton.1 au with rfl;exact K4 h (xl h.dec (pK.1 bL))
 ·rw[if_neg bL];obtain⟨dl,a2,a3,a4⟩:=SP h aI;refine FV (x:=(hW s,iV (hW s))) ⟨dl,a2,a3,a4,fun p au=> ?_⟩;have:=ad3 dl p au;exact⟨by rw[<-a3];exact this.vA,by rw[<-a4];exact this.src,by rw[<-a4];exact this.ny,by rw[<-a3];exact this.cZ⟩
theorem K9{s:bj}(h:c6 s)(au:s.prop=[]):∀b∈s.box,b.mem≠s.self:=fun b ae he=>by
 have h1:=(xn h.v h.box).1 h.own b ae he;rw[au]at h1;exact KZ (((rz h.v).1 h.box).1 b ae).2 h1
theorem La{s:bj}(h:c6 s)(aI:ht s){cut:List Int}(bY: (ew s cut).2.2=0):s.prop=[]/\s.dec=[]/\eM s.view cut=true/\
  (((l7 s.aL cut).2=true/\s.aL.cc=0/\s.aL.aB= -1/\fD s.view (hr s.box ⟨s.self,cut⟩)=true/\((ew s cut).1,(ew s cut).2.1)=dz {s with prop:=cut,dn:=0,aL:=⟨0,0,cut⟩,box:=hr s.box ⟨s.self,cut⟩} [ef s 0 1 0 0 cut])\/
   ((l7 s.aL cut).2=false/\((ew s cut).1,(ew s cut).2.1)=dz {s with prop:=cut,dn:=0} [])):=by
 have ae:eS s=true:=(vy s).2 ⟨h,aI⟩;unfold ew at bY⊢;cases h1: !eS s|| !eM s.view cut
 ·rw[h1,cond_false]at bY;rw[cond_false];simp only[Bool.or_eq_false_iff,Bool.not_eq_false']at h1;cases ad:decide (0<(s.prop.length:Int))||decide (0<(s.dec.length:Int))
  ·rw[cond_false];rw[Bool.or_eq_false_iff]at ad;have au:=Ci.1 ad.1;refine⟨au,Ci.1 ad.2,h1.2,?_⟩;cases ac: (l7 s.aL cut).2
   ·exact .inr ⟨rfl,rfl⟩
   ·left;obtain⟨jS,sr,v3,v4⟩:=adK h.aL ac;have aS:=K9 h au;have al:gQ s.view s.box ⟨s.self,cut⟩=(hr s.box ⟨s.self,cut⟩,0):=by
     unfold gQ;have aC:decide (0<=iz s.box s.self)=false:=by
      cases bh:decide (0<=iz s.box s.self)
      ·rfl
      ·obtain⟨b,ae,he⟩:=RO bh;exact absurd he (aS b ae)
     simp only[h.box,h1.2,h.self,aC];rfl
    refine⟨rfl,jS,sr,SI h.v h.box h1.2 h.self aS,?_⟩;rw[cond_true,al,v4]
  ·rw[ad]at bY;simp at bY
 ·rw[h1]at bY;simp at bY
theorem SR{s:bj}(h:c6 s)(aI:ht s){cut:List Int}(bY: (ew s cut).2.2=0):oX s ((ew s cut).1,(ew s cut).2.1):=by
 obtain⟨au,aa,al,sE⟩:=La h aI bY;have aH:s.phase=0/\s.br=[]/\s.ct=[]:=by
  rcases h.mc with aH|aH
  ·exact aH
  ·exact absurd au aH.2.2.1
 have aS:=K9 h au;have xe:∀t:bj,t.phase=s.phase->ht t:=fun t bW e=>by
  rw[bW]at e;omega
 rcases sE with⟨_,hP,ir,ae,e⟩| ⟨_,e⟩
 ·rw[e];have aw:c6 {s with prop:=cut,dn:=0,aL:=⟨0,0,cut⟩,box:=hr s.box ⟨s.self,cut⟩}:=⟨h.v,h.self,Int.le_refl _,(by show (0:Int)<=_;omega),(tU _).2 ⟨.inl rfl,Int.le_refl _,.inr ⟨.inl rfl,by simp,zu (of_decide_eq_true al)⟩⟩,(fun e=>absurd rfl e),(fun e=>absurd e (Int.lt_irrefl _)),lz.2 (.inr al),lz.2 (.inr al),h.ct,h.dec,ae,(xn h.v ae).2 (fun b fq he=>by
   rcases vo fq with rfl|fq
   ·rfl
   ·exact absurd he (aS b fq)),h.br,h.oe,h.aR,h.lA,h.aB,.inl aH⟩
  refine FV (x:=({s with prop:=cut,dn:=0,aL:=⟨0,0,cut⟩,box:=hr s.box ⟨s.self,cut⟩},[ef s 0 1 0 0 cut])) ⟨aw,xe _ rfl,rfl,rfl,fun p iQ=> ?_⟩;rcases List.mem_singleton.1 iQ with rfl;exact SD h al
 ·rw[e];have aw:c6 {s with prop:=cut,dn:=0}:=⟨h.v,h.self,Int.le_refl _,(by show (0:Int)<=_;omega),h.aL,h.cc,h.nG,h.fk,lz.2 (.inr al),h.ct,h.dec,h.box,(xn h.v h.box).2 (fun b fq he=>absurd he (aS b fq)),h.br,h.oe,h.aR,h.lA,h.aB,.inl aH⟩
  exact FV (x:=({s with prop:=cut,dn:=0},[])) ⟨aw,xe _ rfl,rfl,rfl,by simp⟩
theorem SS:dt eR:=ac7 (Nat.zero_le _) (Nat.zero_le _) (Nat.zero_le _) (Nat.zero_le _) (fun b ae=>by cases ae) rfl (Nat.zero_le _) rfl (Nat.zero_le _)
theorem SU{α:Type} [DecidableEq α]{m k S:List α}(aT:m.Nodup)(hk:k.Nodup)(Lb:∀x∈m,x∈S)(q8:∀x∈k,x∈S):m.length+k.length<=S.length+(k.filter fun x=>decide (x∈m)).length:=by
 have h1: (m++k.filter fun x=> !decide (x∈m)).Nodup:=by
  rw[List.nodup_append];refine⟨aT,hk.sublist List.filter_sublist,fun a aZ b ae e=> ?_⟩;subst e;have:=(List.mem_filter.1 ae).2;simp[aZ]at this
 have ad:=zq h1 (b:=S) (fun x an=>by
  rcases List.mem_append.1 an with an|an
  ·exact Lb x an
  ·exact q8 x (List.mem_filter.1 an).1)
 rw[List.length_append]at ad;have aC:∀l:List α,(l.filter fun x=>decide (x∈m)).length+(l.filter fun x=> !decide (x∈m)).length=l.length:=fun l=>by
  induction l with
  |nil=>rfl
  |cons x l aN=>
   rw[List.filter_cons,List.filter_cons];cases decide (x∈m)<;>simp<;>omega
 have:=aC k;omega
theorem SV{α:Type} [DecidableEq α]{m k S:List α}(aT:m.Nodup)(hk:k.Nodup)(Lb:∀x∈m,x∈S)(q8:∀x∈k,x∈S)(h:S.length<m.length+k.length):∃x,x∈m/\x∈k:=by
 have:=SU aT hk Lb q8;obtain⟨x,an⟩:=List.exists_mem_of_length_pos (l:=k.filter fun x=>decide (x∈m)) (by omega);have ad:=List.mem_filter.1 an;exact⟨x,of_decide_eq_true ad.2,ad.1⟩
theorem SX{α β:Type}(f:α->β)(p:β->Bool):∀l:List α,((l.map f).filter p).length=(l.filter fun x=>p (f x)).length
 | []=>rfl
 |x::l=>by
  rw[List.map_cons,List.filter_cons,List.filter_cons];have aN:=SX f p l;cases p (f x)<;>simp[aN]
theorem SY{α:Type}{p q:α->Bool}:∀ {l:List α},(∀x∈l,p x=true->q x=true)->(l.filter p).length<=(l.filter q).length
 | [],_=>Nat.le_refl _
 |x::l,h=>by
  have aN:=SY (p:=p) (q:=q) (l:=l) (fun y bt=>h y (List.mem_cons_of_mem _ bt));have an:=h x (List.mem_cons_self ..);rw[List.filter_cons,List.filter_cons];cases au:p x<;>cases bF:q x<;>simp_all<;>omega
structure dJ where
 V:Int->List Int->Prop
 A:Int->Int->List Int->Prop
 C:Int->List Int->Prop
 P:List Int->Prop
 cc:Int->Int
structure zy(g:dJ)(a r cq:Int)(cut:List Int):Prop where
 cc:r<=g.cc a
 le:cq<=r
 none:cq= -1->∀c,¬g.V a c
 zero:cq=0->g.V a cut
 pos:0<cq->g.A a cq cut
 oY:∀dZ c,g.A a dZ c->dZ<r->dZ<=cq
def Cn(v:aQ)(g:dJ)(r:Int)(c:List Int):Prop:=
 ∃l:List cb,(l.map (·.mem)).Nodup/\(∀x∈l,x.mem∈v.mem/\zy g x.mem r x.aB x.cut/\x.aB<r/\(x.aB= -1\/0<=x.aB))/\v.mem.length/2+1<=l.length/\
  ((∃x∈l,0<x.aB/\c=x.cut/\∀y∈l,y.aB<=x.aB)\/
   (∀x∈l,x.aB<=0)/\∀y:List Int,v.mem.length- (v.mem.length-1)/4+l.length<=v.mem.length+(l.filter fun r=>decide (r.aB=0)&&decide (r.cut=y)).length->c=y)
structure iC(v:aQ)(g:dJ):Prop where
 jS:∀a c eA,g.V a c->g.V a eA->c=eA
 sr:∀a c,g.V a c->g.P c
 dl:∀a r c,g.A a r c->g.C r c/\r<=g.cc a
 dX:∀r c eA,g.C r c->g.C r eA->c=eA
 de:∀r c,g.C r c->0<r/\Cn v g r c/\g.P c
structure SZ(v:aQ)(m:List Int):Prop where
 AT:m.Nodup
 sub:∀x∈m,x∈v.mem
def FX(v:aQ)(g:dJ)(r:Int)(c:List Int):Prop:=∃m,SZ v m/\v.mem.length/2+1<=m.length/\∀a∈m,g.A a r c
def Lc(v:aQ)(g:dJ)(c:List Int):Prop:=∃m,SZ v m/\v.mem.length- (v.mem.length-1)/4<=m.length/\∀a∈m,g.V a c
def rD(v:aQ)(g:dJ)(c:List Int):Prop:=Lc v g c\/∃r,FX v g r c
section
variable {v:aQ} {g:dJ}
theorem Co{r:Int}{c:List Int}(h:FX v g r c):∃a,g.A a r c:=by
 obtain⟨m,_,af,aZ⟩:=h;obtain⟨x,an⟩:=List.exists_mem_of_length_pos (l:=m) (by omega);exact⟨x,aZ x an⟩
theorem S0(cg:iC v g):∀ (N:Nat) (r dZ:Int) (c eA:List Int),r.toNat<=N->g.C r c->FX v g dZ eA->dZ<r->c=eA:=by
 intro N;induction N with
 |zero=>
  intro r dZ c eA ha gn _ _;have:=(cg.de r c gn).1;omega
 |succ N aN=>
  intro r dZ c eA ha gn gg ap;obtain⟨ao,⟨l,gZ,af,FY,zz⟩,_⟩:=cg.de r c gn;obtain⟨a0,FZ⟩:=Co gg;have Cp:=(cg.dl _ _ _ FZ).1;have iZ:=(cg.de _ _ Cp).1;have ad8:=gg;obtain⟨m,bF,aT,aw⟩:=ad8;obtain⟨y,k1,k2⟩:=SV bF.AT gZ bF.sub (fun x an=>by
   obtain⟨z,bE,rfl⟩:=List.mem_map.1 an;exact(af z bE).1) (by rw[List.length_map];omega)
  obtain⟨z,bE,rfl⟩:=List.mem_map.1 k2;have akr:=(af z bE).2.1.oY dZ eA (aw _ k1) ap;rcases zz with⟨x,an,k9,tj,zA⟩| ⟨hle,_⟩
  ·have Ld:=(af x an).2.1.pos k9;have F0:=(cg.dl _ _ _ Ld).1;have wH:=(af x an).2.2.1;have aks:=zA z bE;rw[tj];rcases Int.lt_or_eq_of_le (show dZ<=x.aB by omega)with h1|h1
   ·exact aN x.aB dZ x.cut eA (by omega) F0 gg h1
   ·subst h1;exact cg.dX _ _ _ F0 Cp
  ·have:=hle z bE;omega
theorem ad9(cg:iC v g){y:List Int}(dA:Lc v g y):∀ (N:Nat) (r:Int) (c:List Int),r.toNat<=N->g.C r c->c=y:=by
 intro N;induction N with
 |zero=>
  intro r c ha gn;have:=(cg.de r c gn).1;omega
 |succ N aN=>
  intro r c ha gn;obtain⟨ao,⟨l,gZ,af,FY,zz⟩,_⟩:=cg.de r c gn;rcases zz with⟨x,an,k9,tj,zA⟩| ⟨hle,bQ⟩
  ·have Ld:=(af x an).2.1.pos k9;have F0:=(cg.dl _ _ _ Ld).1;have wH:=(af x an).2.2.1;rw[tj];exact aN x.aB x.cut (by omega) F0
  ·obtain⟨m,bF,aT,n1⟩:=dA;refine bQ y ?_;have h1:=SU bF.AT gZ bF.sub (fun x an=>by
    obtain⟨z,bE,rfl⟩:=List.mem_map.1 an;exact(af z bE).1)
   rw[SX,List.length_map]at h1;have ad:=SY (l:=l) (p:=fun x=>decide (x.mem∈m)) (q:=fun r=>decide (r.aB=0)&&decide (r.cut=y)) (fun x an au=>by
    have au:=of_decide_eq_true au;have ac:=n1 _ au;obtain⟨_,fz,_,bh⟩:=af x an;have bL:=hle x an;rcases bh with bh|bh
    ·exact absurd ac (fz.none bh y)
    ·have c0:x.aB=0:=by omega
     rw[Bool.and_eq_true];exact⟨decide_eq_true c0,decide_eq_true (cg.jS _ _ _ (fz.zero c0) ac)⟩)
   omega
theorem aea(aS:1<=v.mem.length)(cg:iC v g){y nU:List Int}(h:rD v g y)(bb:rD v g nU):y=nU:=by
 have key:∀ {y nU:List Int} {r:Int},Lc v g y->FX v g r nU->y=nU:=fun {y nU r} dA gg=>by
  obtain⟨a,aZ⟩:=Co gg;exact(ad9 cg dA _ r nU (Nat.le_refl _) (cg.dl _ _ _ aZ).1).symm
 rcases h with dA| ⟨r,gg⟩
 ·rcases bb with tG| ⟨dZ,uO⟩
  ·obtain⟨m,bF,aT,n1⟩:=dA;obtain⟨k,Bs,hk,aeb⟩:=tG;obtain⟨x,zo,py⟩:=SV bF.AT Bs.AT bF.sub Bs.sub (by omega);exact cg.jS _ _ _ (n1 x zo) (aeb x py)
  ·exact key dA uO
 ·rcases bb with tG| ⟨dZ,uO⟩
  ·exact(key tG gg).symm
  ·obtain⟨a,aZ⟩:=Co gg;obtain⟨wV,Cq⟩:=Co uO;have gn:=(cg.dl _ _ _ aZ).1;have Cp:=(cg.dl _ _ _ Cq).1;rcases Int.lt_trichotomy r dZ with ap|he|ap
   ·exact(S0 cg _ dZ r nU y (Nat.le_refl _) Cp gg ap).symm
   ·subst he;exact cg.dX _ _ _ gn Cp
   ·exact S0 cg _ r dZ y nU (Nat.le_refl _) gn uO ap
theorem aec(aS:1<=v.mem.length)(cg:iC v g){y:List Int}(h:rD v g y):g.P y:=by
 rcases h with⟨m,bF,aT,n1⟩| ⟨r,gg⟩
 ·obtain⟨x,an⟩:=List.exists_mem_of_length_pos (l:=m) (by omega);exact cg.sr _ _ (n1 x an)
 ·obtain⟨a,aZ⟩:=Co gg;exact(cg.de _ _ (cg.dl _ _ _ aZ).1).2.2
end
structure og(g c5:dJ):Prop where
 v:∀a c,g.V a c->c5.V a c
 a:∀a r c,g.A a r c->c5.A a r c
 c:∀r c,g.C r c->c5.C r c
 p:∀c,g.P c->c5.P c
 cc:∀a,g.cc a<=c5.cc a
 ru:∀a c,c5.V a c->g.V a c\/g.cc a<=0
 vB:∀a r c,c5.A a r c->g.A a r c\/g.cc a<=r
theorem aed(g:dJ):og g g:=⟨fun _ _ h=>h,fun _ _ _ h=>h,fun _ _ h=>h,fun _ h=>h,fun _=>Int.le_refl _,fun _ _ h=>.inl h,fun _ _ _ h=>.inl h⟩
theorem aee{g c5 Cr:dJ}(h:og g c5)(bb:og c5 Cr):og g Cr:=
 ⟨fun a c x=>bb.v a c (h.v a c x),fun a r c x=>bb.a a r c (h.a a r c x),fun r c x=>bb.c r c (h.c r c x),fun c x=>bb.p c (h.p c x),fun a=>Int.le_trans (h.cc a) (bb.cc a),fun a c x=>by
  rcases bb.ru a c x with x|x
  ·exact h.ru a c x
  ·exact .inr (Int.le_trans (h.cc a) x),fun a r c x=>by
  rcases bb.vB a r c x with x|x
  ·exact h.vB a r c x
  ·exact .inr (Int.le_trans (h.cc a) x)⟩
theorem Cs{g c5:dJ}(h:og g c5){a r cq:Int}{cut:List Int}(ao:0<r)(q:zy g a r cq cut):zy c5 a r cq cut:=
 ⟨Int.le_trans q.cc (h.cc a),q.le,fun e c x=>by
  rcases h.ru a c x with x|x
  ·exact q.none e c x
  ·have:=q.cc;omega,fun e=>h.v _ _ (q.zero e),fun e=>h.a _ _ _ (q.pos e),fun dZ c x ap=>by
  rcases h.vB a dZ c x with x|x
  ·exact q.oY dZ c x ap
  ·have:=q.cc;omega⟩
theorem zB{v:aQ}{g c5:dJ}(h:og g c5){r:Int}{c:List Int}(ao:0<r)(q:Cn v g r c):Cn v c5 r c:=by
 obtain⟨l,h1,ad,aC,bh⟩:=q;exact⟨l,h1,fun x an=>⟨(ad x an).1,Cs h ao (ad x an).2.1,(ad x an).2.2⟩,aC,bh⟩
theorem xo{v:aQ}{g c5:dJ}(h:og g c5){c:List Int}(aa:rD v g c):rD v c5 c:=by
 rcases aa with⟨m,bF,aT,n1⟩| ⟨r,m,bF,aT,aw⟩
 ·exact .inl ⟨m,bF,aT,fun a aZ=>h.v _ _ (n1 a aZ)⟩
 ·exact .inr ⟨r,m,bF,aT,fun a aZ=>h.a _ _ _ (aw a aZ)⟩
structure oZ(a:Int)(g c5:dJ):Prop where
 ext:og g c5
 cc:∀b,b≠a->c5.cc b=g.cc b
 ru:∀b c,b≠a->c5.V b c->g.V b c
 vB:∀b r c,b≠a->c5.A b r c->g.A b r c
 cn:∀r c,c5.C r c->g.C r c\/gC r=a
theorem xp(a:Int)(g:dJ):oZ a g g:=⟨aed g,fun _ _=>rfl,fun _ _ _ h=>h,fun _ _ _ _ h=>h,fun _ _ h=>.inl h⟩
theorem Ct{a:Int}{g c5 Cr:dJ}(h:oZ a g c5)(bb:oZ a c5 Cr):oZ a g Cr:=
 ⟨aee h.ext bb.ext,fun b ae=>(bb.cc b ae).trans (h.cc b ae),fun b c ae x=>h.ru b c ae (bb.ru b c ae x),fun b r c ae x=>h.vB b r c ae (bb.vB b r c ae x),fun r c x=>by
  rcases bb.cn r c x with x|x
  ·exact h.cn r c x
  ·exact .inr x⟩
section
variable {v:aQ} {g:dJ} {a r:Int} {c:List Int}
def F1(g:dJ)(a:Int)(c:List Int):dJ:={g with V:=fun b d=>g.V b d\/(b=a/\d=c)}
theorem aef(cg:iC v g)(au:g.cc a<=0)(ac:∀d,¬g.V a d)(gj:g.P c):iC v (F1 g a c)/\oZ a g (F1 g a c):=by
 have ee:og g (F1 g a c):=⟨fun _ _ h=>.inl h,fun _ _ _ h=>h,fun _ _ h=>h,fun _ h=>h,fun _=>Int.le_refl _,fun b d h=>by
  rcases h with h| ⟨rfl,rfl⟩
  ·exact .inl h
  ·exact .inr au,fun _ _ _ h=>.inl h⟩
 refine⟨⟨fun b d bD h bb=> ?_,fun b d h=> ?_,cg.dl,cg.dX,fun r d h=>⟨(cg.de r d h).1,zB ee (cg.de r d h).1 (cg.de r d h).2.1,(cg.de r d h).2.2⟩⟩,⟨ee,fun _ _=>rfl,fun b d ae h=> ?_,fun _ _ _ _ h=>h,fun _ _ h=>.inl h⟩⟩
 ·rcases h with h| ⟨rfl,rfl⟩
  ·rcases bb with bb| ⟨rfl,rfl⟩
   ·exact cg.jS _ _ _ h bb
   ·exact absurd h (ac d)
  ·rcases bb with bb| ⟨_,rfl⟩
   ·exact absurd bb (ac bD)
   ·rfl
 ·rcases h with h| ⟨rfl,rfl⟩
  ·exact cg.sr _ _ h
  ·exact gj
 ·rcases h with h| ⟨rfl,rfl⟩
  ·exact h
  ·exact absurd rfl ae
def xq(g:dJ)(a r:Int):dJ:={g with cc:=fun b=>if b=a then r else g.cc b}
theorem S1(g:dJ)(a r:Int): (xq g a r).cc a=r:=if_pos rfl
theorem S2(hle:g.cc a<=r):og g (xq g a r):=⟨fun _ _ h=>h,fun _ _ _ h=>h,fun _ _ h=>h,fun _ h=>h,fun b=>by
 show g.cc b<=if b=a then r else g.cc b
 split
 ·rename_i e;rw[e];exact hle
 ·exact Int.le_refl _,fun _ _ h=>.inl h,fun _ _ _ h=>.inl h⟩
theorem S7(cg:iC v g)(hle:g.cc a<=r):iC v (xq g a r)/\oZ a g (xq g a r):=by
 have ee:=S2 (g:=g) hle;exact⟨⟨cg.jS,cg.sr,fun b q d h=>⟨(cg.dl b q d h).1,Int.le_trans (cg.dl b q d h).2 (ee.cc b)⟩,cg.dX,fun q d h=>⟨(cg.de q d h).1,zB ee (cg.de q d h).1 (cg.de q d h).2.1,(cg.de q d h).2.2⟩⟩,
  ⟨ee,fun b ae=>if_neg ae,fun _ _ _ h=>h,fun _ _ _ _ h=>h,fun _ _ h=>.inl h⟩⟩
def F2(g:dJ)(r:Int)(c:List Int):dJ:={g with C:=fun q d=>g.C q d\/(q=r/\d=c)}
theorem aeg(cg:iC v g)(ao:0<r)(aF:gC r=a)(k3:∀d,¬g.C r d)(al:Cn v g r c)(gj:g.P c):iC v (F2 g r c)/\oZ a g (F2 g r c):=by
 have ee:og g (F2 g r c):=⟨fun _ _ h=>h,fun _ _ _ h=>h,fun _ _ h=>.inl h,fun _ h=>h,fun _=>Int.le_refl _,fun _ _ h=>.inl h,fun _ _ _ h=>.inl h⟩
 refine⟨⟨cg.jS,cg.sr,fun b q d h=>⟨.inl (cg.dl b q d h).1,(cg.dl b q d h).2⟩,fun q d bD h bb=> ?_,fun q d h=> ?_⟩,⟨ee,fun _ _=>rfl,fun _ _ _ h=>h,fun _ _ _ _ h=>h,fun q d h=> ?_⟩⟩
 ·rcases h with h| ⟨rfl,rfl⟩
  ·rcases bb with bb| ⟨rfl,rfl⟩
   ·exact cg.dX _ _ _ h bb
   ·exact absurd h (k3 d)
  ·rcases bb with bb| ⟨_,rfl⟩
   ·exact absurd bb (k3 bD)
   ·rfl
 ·rcases h with h| ⟨rfl,rfl⟩
  ·exact⟨(cg.de q d h).1,zB ee (cg.de q d h).1 (cg.de q d h).2.1,(cg.de q d h).2.2⟩
  ·exact⟨ao,zB ee ao al,gj⟩
 ·rcases h with h| ⟨rfl,rfl⟩
  ·exact .inl h
  ·exact .inr aF
def Cu(g:dJ)(a r:Int)(c:List Int):dJ:={g with A:=fun b q d=>g.A b q d\/(b=a/\q=r/\d=c),cc:=fun b=>if b=a then r else g.cc b}
theorem S8(cg:iC v g)(hle:g.cc a<=r)(gn:g.C r c):iC v (Cu g a r c)/\oZ a g (Cu g a r c):=by
 have mD:∀b,g.cc b<=(Cu g a r c).cc b:=(S2 (g:=g) hle).cc;have ee:og g (Cu g a r c):=⟨fun _ _ h=>h,fun _ _ _ h=>.inl h,fun _ _ h=>h,fun _ h=>h,mD,fun _ _ h=>.inl h,fun b q d h=>by
  rcases h with h| ⟨rfl,rfl,rfl⟩
  ·exact .inl h
  ·exact .inr hle⟩
 refine⟨⟨cg.jS,cg.sr,fun b q d h=> ?_,cg.dX,fun q d h=>⟨(cg.de q d h).1,zB ee (cg.de q d h).1 (cg.de q d h).2.1,(cg.de q d h).2.2⟩⟩,⟨ee,fun b ae=>if_neg ae,fun _ _ _ h=>h,fun b q d ae h=> ?_,fun _ _ h=>.inl h⟩⟩
 ·rcases h with h| ⟨rfl,rfl,rfl⟩
  ·exact⟨(cg.dl b q d h).1,Int.le_trans (cg.dl b q d h).2 (mD b)⟩
  ·refine⟨gn,?_⟩;show q<=if b=b then q else g.cc b
   rw[if_pos rfl];exact Int.le_refl _
 ·rcases h with h| ⟨rfl,rfl,rfl⟩
  ·exact h
  ·exact absurd rfl ae
def Cv(g:dJ)(c:List Int):dJ:={g with P:=fun d=>g.P d\/d=c}
theorem S9(cg:iC v g)(a:Int):iC v (Cv g c)/\oZ a g (Cv g c):=by
 have ee:og g (Cv g c):=⟨fun _ _ h=>h,fun _ _ _ h=>h,fun _ _ h=>h,fun _ h=>.inl h,fun _=>Int.le_refl _,fun _ _ h=>.inl h,fun _ _ _ h=>.inl h⟩
 exact⟨⟨cg.jS,fun b d h=>.inl (cg.sr b d h),cg.dl,cg.dX,fun q d h=>⟨(cg.de q d h).1,zB ee (cg.de q d h).1 (cg.de q d h).2.1,.inl (cg.de q d h).2.2⟩⟩,
  ⟨ee,fun _ _=>rfl,fun _ _ _ h=>h,fun _ _ _ _ h=>h,fun _ _ h=>.inl h⟩⟩
end
theorem Ta(l:List cb):∀i,i<=l.length->∀j,(ai:j<l.length)->j<i->l[j].aB<=(l.getD (fb l i) cI).aB
 |0,_,j,_,h=>absurd h (Nat.not_lt_zero _)
 |i+1,ab,j,ai,hf=>by
  have aN:=Ta l i (by omega);have ap:i<l.length:=by omega
  have ax:l.getD i cI=l[i]:=by simp[ap]
  rw[ack,ax];by_cases al: (l.getD (fb l i) cI).aB<l[i].aB
  ·rw[decide_eq_true al];show l[j].aB<=(l.getD i cI).aB;rw[ax];rcases Nat.lt_succ_iff_lt_or_eq.1 hf with h|rfl
   ·have:=aN j ai h;omega
   ·exact Int.le_refl _
  ·rw[decide_eq_false al];show l[j].aB<=(l.getD (fb l i) cI).aB;rcases Nat.lt_succ_iff_lt_or_eq.1 hf with h|rfl
   ·exact aN j ai h
   ·omega
def zC(l:List cb)(y:List Int):Nat:=(l.filter fun r=>decide (r.aB=0)&&decide (r.cut=y)).length
theorem Tb(l:List cb)(y:List Int):gp (eL l) y=zC l y:=by
 unfold gp eL zC;rw[List.filter_map,List.length_map,List.filter_filter];congr 1;apply List.filter_congr;intro r _;show (fK r.cut y&&decide (r.aB=0))=_;rw[Bool.and_comm];congr 1;rw[Bool.eq_iff_iff,va,decide_eq_true_eq]
theorem aeh{v:aQ}(ac:bX v=true){l:List cb}(akt:l.length<=16){own:List Int}(aF:own≠ [])(aH:ob v l own=false):
  v.mem.length/2+1<=l.length/\
  ((∃r∈l,0<r.aB/\(fr v l own).1=r.cut/\∀dZ∈l,dZ.aB<=r.aB)\/
  (∀r∈l,r.aB<=0)/\∀y:List Int,v.mem.length- (v.mem.length-1)/4+l.length<=v.mem.length+(l.filter fun r=>decide (r.aB=0)&&decide (r.cut=y)).length->(fr v l own).1=y):=by
 have aS:=tV ac;have ax:=aH;simp only[ob,Bool.or_eq_false_iff,Bool.not_eq_false',decide_eq_false_iff_not]at ax;obtain⟨⟨ao,aT⟩,_⟩:=ax;rw[RQ ac]at aT;have eh:=(Kg aH).1;have ap:=Kf l eh;have r9:l.getD (fb l l.length) cI=l[fb l l.length]:=by simp[ap]
 have zA:=Ta l l.length (Nat.le_refl _);refine⟨by omega,?_⟩;cases h1:decide (0<(l.getD (fb l l.length) cI).aB)with
 |true=>
  left;rw[RJ aH h1];rw[r9]at h1 zA⊢;refine⟨l[fb l l.length],List.getElem_mem ap,of_decide_eq_true h1,rfl,fun dZ iZ=> ?_⟩;obtain⟨j,ai,rfl⟩:=List.getElem_of_mem iZ;exact zA j ai ai
 |false=>
  right;have EP:=of_decide_eq_false h1;refine⟨fun r iZ=> ?_,fun y bt=> ?_⟩
  ·obtain⟨j,ai,rfl⟩:=List.getElem_of_mem iZ;have:=zA j ai ai;omega
  ·have bt:v.mem.length- (v.mem.length-1)/4+l.length<=v.mem.length+zC l y:=bt;have Tc:qD v l=((v.mem.length- (v.mem.length-1)/4:Nat):Int)+(l.length:Int)- (v.mem.length:Int):=by
    unfold qD;rw[Kv ac,dC (n:=(((v.mem.length- (v.mem.length-1)/4:Nat):Int)+(l.length:Int))) (by omega) (by omega),dC (by omega) (by omega)]
   cases aI:l.find? (ry v l)with
   |none=>
    exfalso;have Bi:0<zC l y:=by omega
    obtain⟨r,F3⟩:=List.exists_mem_of_length_pos Bi;rw[List.mem_filter,Bool.and_eq_true,decide_eq_true_eq,decide_eq_true_eq]at F3;have bF:=List.find?_eq_none.1 aI r F3.1;refine bF ?_;unfold ry;rw[decide_eq_true F3.2.1,Tb,F3.2.2,Bool.true_and,decide_eq_true_eq,Tc];omega
   |some r=>
    obtain⟨bF,i,ab,he,bQ⟩:=List.find?_eq_some_iff_getElem.1 aI;subst he;rw[RI aH h1 ab bF (fun j ai hf=>by simpa using bQ j hf)];show l[i].cut=y;simp only[ry,Bool.and_eq_true,decide_eq_true_eq,Tb,Tc]at bF;by_cases Td:l[i].cut=y
    ·exact Td
    ·exfalso;have ad:=Ku (p:=fun r:cb=>decide (r.aB=0)&&decide (r.cut=l[i].cut)) (q:=fun r:cb=>decide (r.aB=0)&&decide (r.cut=y)) (fun x au bF=>by
      rw[Bool.and_eq_true,decide_eq_true_eq,decide_eq_true_eq]at au bF;exact Td (au.2.symm.trans bF.2)) l
     have aC:zC l l[i].cut+zC l y<=l.length:=ad;omega
structure vC(g:dJ)(a:Int)(aL:iT):Prop where
 cc:g.cc a=aL.cc
 neg:aL.aB= -1->∀c,¬g.V a c
 zero:aL.aB=0->g.V a aL.cut
 pos:0<aL.aB->g.A a aL.aB aL.cut
 oY:∀r c,g.A a r c->r<=aL.aB
structure vD(v:aQ)(g:dJ)(s:bj):Prop where
 box:∀b∈s.box,g.V b.mem b.cut
 br:s.phase=1->∀x∈s.br,zy g x.mem s.aB x.aB x.cut
 oh:s.phase=1->∀c,¬g.C s.aB c
 nb:∀r c,g.C r c->gC r=s.self->r<=s.aB
 ct:s.phase=2->g.A s.self s.aB s.ct
 aR:∀x∈s.aR,g.A x.mem x.aB x.cut
 dec:s.dec≠ []->rD v g s.dec
 prop:s.prop≠ []->g.P s.prop
structure ib(v:aQ)(g:dJ)(s:bj):Prop where
 hv:vC g s.self s.aL
 dg:vD v g s
structure nc(v:aQ)(g:dJ)(m:dx):Prop where
 cx:m.kind=1->g.V m.src m.cut
 gl:m.kind=3->zy g m.src m.aB m.cq m.cut
 kK:m.kind=4\/m.kind=5->g.A m.src m.aB m.cut
 vE:m.kind=6->rD v g m.cut
theorem aei{v:aQ}{g c5:dJ}(h:og g c5){m:dx}(ac:eX v m=true)(f:nc v g m):nc v c5 m:=
 ⟨fun k=>h.v _ _ (f.cx k),fun k=>Cs h (by
  have:=rB (mb ((sD ac).2.2.1 k).1).1;omega) (f.gl k),fun k=>h.a _ _ _ (f.kK k),fun k=>xo h (f.vE k)⟩
theorem xr{s:bj}(h:c6 s)(au:s.phase=1\/s.phase=2):s.aB≠0/\s.prop≠ []/\0<s.aB/\gC s.aB=s.self:=by
 have ad:s.aB≠0/\s.prop≠ []:=by
  rcases h.mc with aH|aH
  ·omega
  ·exact⟨aH.2.1,aH.2.2.1⟩
 have:=rB (mb (h.aB ad.1).1).1;exact⟨ad.1,ad.2,by omega,(h.aB ad.1).2⟩
theorem F4{v:aQ}{g c5:dJ}{s:bj}(h:og g c5)(gn:∀r c,c5.C r c->g.C r c)(au:s.phase=1->0<s.aB)(q:vD v g s):vD v c5 s:=
 ⟨fun b ae=>h.v _ _ (q.box b ae),fun p x an=>Cs h (au p) (q.br p x an),fun p c x=>q.oh p c (gn _ _ x),fun r c x o=>q.nb r c (gn _ _ x) o,fun p=>h.a _ _ _ (q.ct p),fun x an=>h.a _ _ _ (q.aR x an),fun p=>xo h (q.dec p),fun p=>h.p _ (q.prop p)⟩
theorem aej{v:aQ}{g c5:dJ}{s:bj}{a:Int}(aw:c6 s)(h:oZ a g c5)(bx:s.self≠a)(q:ib v g s):ib v c5 s:=by
 obtain⟨⟨jN,nw,Cw,qI,Le⟩,q⟩:=q;refine⟨⟨(h.cc _ bx).trans jN,fun e c x=>nw e c (h.ru _ _ bx x),fun e=>h.ext.v _ _ (Cw e),fun e=>h.ext.a _ _ _ (qI e),fun r c x=>Le r c (h.vB _ _ _ bx x)⟩,?_⟩;refine⟨fun b ae=>h.ext.v _ _ (q.box b ae),fun p x an=>Cs h.ext (xr aw (.inl p)).2.2.1 (q.br p x an),fun p c x=> ?_,fun r c x o=> ?_,fun p=>h.ext.a _ _ _ (q.ct p),fun x an=>h.ext.a _ _ _ (q.aR x an),fun p=>xo h.ext (q.dec p),fun p=>h.ext.p _ (q.prop p)⟩
 ·rcases h.cn _ _ x with x|x
  ·exact q.oh p c x
  ·exact bx ((xr aw (.inl p)).2.2.2.symm.trans x)
 ·rcases h.cn _ _ x with x|x
  ·exact q.nb r c x o
  ·exact absurd (o.symm.trans x) bx
theorem Te{g:dJ}{a r:Int}{aL:iT}(h:vC g a aL):vC (xq g a r) a ⟨r,aL.aB,aL.cut⟩:=⟨S1 g a r,h.neg,h.zero,h.pos,h.oY⟩
theorem aek{g:dJ}{a:Int}{aL:iT}{c:List Int}(h:vC g a aL)(h1:aL.cc=0)(ad:aL.aB= -1):vC (F1 g a c) a ⟨0,0,c⟩:=
 ⟨h.cc.trans h1,(fun e=>by
  have e: (0:Int)= -1:=e;omega),fun _=>.inr ⟨rfl,rfl⟩,(fun e=>absurd e (Int.lt_irrefl _)),fun r d x=>by
  have:=h.oY r d x;show r<=0;omega⟩
theorem Tf{g:dJ}{a r:Int}{aL:iT}{c:List Int}(h:vC g a aL)(ao:0<r)(hle:aL.aB<=r):vC (Cu g a r c) a ⟨r,r,c⟩:=
 ⟨if_pos rfl,(fun e=>by
  have e:r= -1:=e;omega),(fun e=>by
  have e:r=0:=e;omega),fun _=>.inr ⟨rfl,rfl,rfl⟩,fun q d x=>by
  show q<=r;rcases x with x| ⟨_,rfl,_⟩
  ·have:=h.oY q d x;omega
  ·exact Int.le_refl _⟩
theorem Lf{a:iT}(h:jC a=true):a.aB<=a.cc:=((tU a).1 h).2.1
theorem Tg{g:dJ}{a r:Int}{aL:iT}(h:vC g a aL)(ae:jC aL=true)(hle:aL.cc<=r):zy (xq g a r) a r aL.aB aL.cut:=
 ⟨by rw[S1];exact Int.le_refl _,Int.le_trans (Lf ae) hle,h.neg,h.zero,h.pos,fun q d x _=>h.oY q d x⟩
theorem Th{v:aQ}{g:dJ}{s:bj}(q:vD v g s):vD v g (oc s):=
 ⟨q.box,(fun p=>by
  have p: (0:Int)=1:=p;omega),(fun p=>by
  have p: (0:Int)=1:=p;omega),q.nb,(fun p=>by
  have p: (0:Int)=2:=p;omega),q.aR,q.dec,q.prop⟩
theorem F5{v:aQ}{g:dJ}{s:bj}(q:vD v g s){r:cb}(ao:g.A r.mem r.aB r.cut):vD v g {s with aR:=e6 s.view s.aR r}:=
 ⟨q.box,q.br,q.oh,q.nb,q.ct,fun x an=>by
  rcases Cd an with rfl|an
  ·exact ao
  ·exact q.aR x an,q.dec,q.prop⟩
theorem ael{v:aQ}{g:dJ}{s:bj}(ac:s.view=v)(aw:c6 s)(q:vD v g s)(aS:je s≠ []):rD v g (je s):=by
 subst ac;unfold je at aS⊢;cases hw: (iA s.view s.box).2
 ·rw[hw,cond_false]at aS;rw[cond_false];unfold sC at aS⊢;rcases K5 (l:=s.aR) (m:=fI s.view.mem.length) s.aR.length (Nat.le_refl _)with h| ⟨r,ao,h1,ad,aC⟩
  ·exact absurd h aS
  ·have au:=(qE aw.v).1 aw.aR;rw[<-ad];rw[RQ aw.v]at aC;unfold na at aC;rw[List.take_length]at aC;refine .inr ⟨r.aB,(s.aR.filter fun x=>decide (x.aB=r.aB)&&fK x.cut r.cut).map (·.mem),⟨?_,fun x an=> ?_⟩,by rw[List.length_map];omega,fun a aZ=> ?_⟩
   ·unfold List.Nodup;rw[List.pairwise_map];exact(au.2.sublist List.filter_sublist).imp fun h=>by omega
   ·obtain⟨z,bE,rfl⟩:=List.mem_map.1 an;exact zr (Sw (au.1 z (List.mem_filter.1 bE).1))
   ·obtain⟨z,bE,rfl⟩:=List.mem_map.1 aZ;obtain⟨Lg,xt⟩:=List.mem_filter.1 bE;rw[Bool.and_eq_true,decide_eq_true_eq,va]at xt;have:=q.aR z Lg;rw[xt.1,xt.2]at this;exact this
 ·rw[cond_true];unfold iA at hw⊢;have ae:=aw.box;rw[ae]at hw⊢;simp only[Bool.not_true,cond_false]at hw⊢;cases aI:s.box.find? (fun b=>decide (oV s.view.mem.length<=(gp s.box b.cut:Int)))with
  |none=>rw[aI]at hw;cases hw
  |some b=>
   have bF:=List.find?_some aI;simp only[decide_eq_true_eq]at bF;have au:=(rz aw.v).1 ae;rw[Kv aw.v]at bF;unfold gp at bF;refine .inl ⟨(s.box.filter fun x=>fK x.cut b.cut).map (·.mem),⟨?_,fun x an=> ?_⟩,by rw[List.length_map];omega,fun a aZ=> ?_⟩
   ·unfold List.Nodup;rw[List.pairwise_map];exact(au.2.sublist List.filter_sublist).imp fun h=>by omega
   ·obtain⟨z,bE,rfl⟩:=List.mem_map.1 an;exact zr (au.1 z (List.mem_filter.1 bE).1).1
   ·obtain⟨z,bE,rfl⟩:=List.mem_map.1 aZ;obtain⟨Lg,xt⟩:=List.mem_filter.1 bE;have:=q.box z Lg;rw[va.1 xt]at this;exact this
theorem aem{v:aQ}{g:dJ}{s:bj}(ac:s.view=v)(aw:c6 s)(q:ib v g s){aX:List dy}(au:∀p∈aX,nc v g p.m):ib v g (dz s aX).1/\∀p∈ (dz s aX).2,nc v g p.m:=by
 unfold dz;cases al:decide ((s.dec.length:Int)=0)&&decide (0<((je s).length:Int))
 ·exact⟨q,au⟩
 ·rw[Bool.and_eq_true]at al;have aa:=ael ac aw q.dg (pK.1 al.2);refine⟨⟨q.hv,⟨q.dg.box,q.dg.br,q.dg.oh,q.dg.nb,q.dg.ct,q.dg.aR,fun _=>aa,q.dg.prop⟩⟩,fun p an=> ?_⟩;simp only[cond_true]at an;rcases List.mem_append.1 an with an|an
  ·exact au p an
  ·rw[List.mem_singleton.1 an];exact⟨fun k=>by
    have k: (6:Int)=1:=k;omega,fun k=>by
    have k: (6:Int)=3:=k;omega,fun k=>by
    have k: (6:Int)=4\/(6:Int)=5:=k;omega,fun _=>aa⟩
def nd(v:aQ)(g:dJ)(s:bj)(x:bj×List dy):Prop:=∃c5,iC v c5/\oZ s.self g c5/\(∀c,c5.P c->g.P c)/\ib v c5 x.1/\∀p∈x.2,nc v c5 p.m
theorem oi{v:aQ}{g:dJ}{s:bj}{x:bj×List dy}(cg:iC v g)(q:ib v g x.1)(au:∀p∈x.2,nc v g p.m):nd v g s x:=⟨g,cg,xp _ _,fun _ h=>h,q,au⟩
theorem pL{v:aQ}{g:dJ}:∀p∈ ([]:List dy),nc v g p.m:=fun p au=>by cases au
theorem F6{v:aQ}{g:dJ}{s:bj}{x:bj×List dy}(ac:x.1.view=v)(aw:c6 x.1)(h:nd v g s x):nd v g s (dz x.1 x.2):=by
 obtain⟨c5,h1,ad,aC,bh,bL⟩:=h;obtain⟨c0,fo⟩:=aem ac aw bh bL;exact⟨c5,h1,ad,aC,c0,fo⟩
theorem Ti{v:aQ}{g:dJ}{s:bj}(cg:iC v g)(aw:c6 s)(ac:s.view=v)(q:ib v g s):nd v g s (gq s,[]):=by
 rcases SC aw with⟨_,e⟩| ⟨h1,ax,mD,jW,_,⟨aZ,e⟩| ⟨aZ,e⟩⟩
 ·rw[e];exact oi cg q pL
 ·obtain⟨K3,_,qG,aen⟩:=xr aw (.inl h1);obtain⟨FY,zz⟩:=aeh aw.v (oW aw.br) mD ax;obtain⟨_,hle,_,_,_⟩:=FQ aw.aL aZ;obtain⟨_,wA⟩:=Sp ax mD;have gj:g.P (fr s.view s.br s.prop).1:=by
   rcases wA with wA| ⟨r,ao,aH,wA⟩
   ·rw[wA];exact q.dg.prop mD
   ·rw[wA];have fz:=q.dg.br h1 r ao;rcases Int.lt_or_eq_of_le aH with aH|aH
    ·exact(cg.de _ _ (cg.dl _ _ _ (fz.pos aH)).1).2.2
    ·exact cg.sr _ _ (fz.zero aH.symm)
  rw[e];rw[ac]at FY zz gj⊢;generalize gn: (fr v s.br s.prop).1=C at *;have au:=(qE aw.v).1 aw.br;have vw:Cn v g s.aB C:=by
   refine⟨s.br,?_,fun x an=> ?_,FY,zz⟩
   ·unfold List.Nodup;rw[List.pairwise_map];exact au.2.imp fun h=>by omega
   ·have fz:=q.dg.br h1 x an;have al:=Cj (au.1 x an);have aT:=zr (Sw (au.1 x an));rw[ac]at aT;refine⟨aT,fz,?_,?_⟩
    ·have ad:=fz.le;by_cases aC:x.aB=s.aB
     ·have:=(cg.dl _ _ _ (fz.pos (by omega))).1;rw[aC]at this;exact absurd this (q.dg.oh h1 _)
     ·omega
    ·rcases al with al| ⟨al|al,_⟩
     ·exact .inl al.1
     ·exact .inr (by omega)
     ·have:=rB al;exact .inr (by omega)
  obtain⟨i1,s1⟩:=aeg cg qG aen (q.dg.oh h1) vw gj;obtain⟨i2,s2⟩:=S8 (a:=s.self) (r:=s.aB) (c:=C) i1 (by
   show g.cc s.self<=s.aB;rw[q.hv.cc];exact hle) (.inr ⟨rfl,rfl⟩)
  have sF:=(Ct s1 s2).ext;refine⟨_,i2,Ct s1 s2,fun _ h=>h,⟨Tf (g:=F2 g s.aB C) ⟨q.hv.cc,q.hv.neg,q.hv.zero,q.hv.pos,q.hv.oY⟩ qG (Int.le_trans (Lf aw.aL) hle),?_⟩,pL⟩;refine⟨fun b ae=>sF.v _ _ (q.dg.box b ae),(fun p=>by
   have p: (2:Int)=1:=p;omega),(fun p=>by
   have p: (2:Int)=1:=p;omega),fun r c x o=> ?_,fun _=>.inr ⟨rfl,rfl,rfl⟩,fun x an=> ?_,fun p=>xo sF (q.dg.dec p),fun p=>sF.p _ (q.dg.prop p)⟩
  ·rcases x with x| ⟨rfl,_⟩
   ·exact q.dg.nb r c x o
   ·exact Int.le_refl _
  ·rcases Cd an with rfl|an
   ·exact .inr ⟨rfl,rfl,rfl⟩
   ·exact sF.a _ _ _ (q.dg.aR x an)
 ·rw[e];exact oi cg ⟨q.hv,Th q.dg⟩ pL
theorem aeo{v:aQ}{g:dJ}{s:bj}(cg:iC v g)(aw:c6 s)(q:ib v g s){m:dx}(f:nc v g m)(hk:m.kind=1):nd v g s (lx s m,[]):=by
 unfold lx;cases al:decide ((gQ s.view s.box ⟨m.src,m.cut⟩).2=0)
 ·exact oi cg q pL
 ·have bL:=(SH (of_decide_eq_true al)).2.2.2.2;rw[cond_true,bL];refine oi cg ⟨q.hv,⟨fun b ae=> ?_,q.dg.br,q.dg.oh,q.dg.nb,q.dg.ct,q.dg.aR,q.dg.dec,q.dg.prop⟩⟩ pL;rcases vo ae with rfl|ae
  ·exact f.cx hk
  ·exact q.dg.box b ae
theorem aep{v:aQ}{g:dJ}{s:bj}(cg:iC v g)(aw:c6 s)(q:ib v g s){m:dx}(aT:eX s.view m=true)(hk:m.kind=2):nd v g s (jV s m):=by
 have key:∀ (t:bj) (aX:List dy) (b:Bool),nd v g s (t,aX)->nd v g s ((bif b then oc t else t),aX):=fun t aX b h=>by
  cases b
  ·exact h
  ·obtain⟨c5,h1,ad,aC,bh,bL⟩:=h;exact⟨c5,h1,ad,aC,⟨bh.hv,Th bh.dg⟩,bL⟩
 unfold jV;refine key _ _ _ ?_;cases aF: (hq s.aL m.aB).2.2
 ·exact oi cg q pL
 ·obtain⟨hu,hle,az,aG⟩:=K0 aw.aL aF;rw[az,aG];obtain⟨i1,s1⟩:=S7 (a:=s.self) (r:=m.aB) cg (by
   rw[q.hv.cc];exact hle)
  refine⟨_,i1,s1,fun _ h=>h,⟨Te q.hv,?_⟩,fun p au=> ?_⟩
  ·have:=F4 s1.ext (fun _ _ h=>h) (fun p=>(xr aw (.inl p)).2.2.1) q.dg;exact⟨this.box,this.br,this.oh,this.nb,this.ct,this.aR,this.dec,this.prop⟩
  ·simp only[cond_true,List.mem_singleton]at au;subst au;exact⟨fun k=>by
    have k: (3:Int)=1:=k;omega,fun _=>Tg q.hv aw.aL hle,fun k=>by
    have k: (3:Int)=4\/(3:Int)=5:=k;omega,fun k=>by
    have k: (3:Int)=6:=k;omega⟩
theorem aeq{s:bj}(h:c6 s){m:dx}(aT:eX s.view m=true)(hk:m.kind=3)(ae:s.phase=1):c6 {s with br:=(fc s.view s.br ⟨m.src,m.cq,m.cut⟩).1}:=by
 obtain⟨au,_,af⟩:=(sD aT).2.2.1 hk;have k8:=h.mc;rw[ae]at k8;have k8:s.ct=[]/\s.aB≠0/\s.prop≠ []/\0<=dV s.br s.self:=by
  rcases k8 with aH| ⟨aH|aH,h1⟩
  ·omega
  ·exact⟨aH.2,h1⟩
  ·omega
 refine⟨h.v,h.self,h.aY,h.eJ,h.aL,h.cc,h.nG,h.fk,h.prop,h.ct,h.dec,h.box,h.own,KS h.br,fun r ao aH=> ?_,h.aR,h.lA,h.aB,.inr ⟨.inl ⟨ae,k8.1⟩,k8.2.1,k8.2.2.1,?_⟩⟩
 ·rcases zt ao with rfl|ao
  ·rcases af with af|af
   ·simp only[]at aH;omega
   ·rcases af.1 with af|af
    ·simp only[]at aH;omega
    ·exact af
  ·exact h.oe r ao aH
 ·obtain⟨r,ao,he⟩:=Ck.1 k8.2.2.2;exact Ck.2 ⟨r,Sx h.br ao,he⟩
theorem aer{v:aQ}{g:dJ}{s:bj}(cg:iC v g)(aw:c6 s)(ac:s.view=v)(q:ib v g s){m:dx}(aT:eX s.view m=true)(hk:m.kind=3)(f:nc v g m):nd v g s (kQ s m):=by
 unfold kQ;cases ae: !decide (s.phase=1)|| !decide (m.aB=s.aB)
 ·simp only[Bool.or_eq_false_iff,Bool.not_eq_false',decide_eq_true_eq]at ae;have vF:=aeq aw aT hk ae.1;have tw:ib v g {s with br:=(fc s.view s.br ⟨m.src,m.cq,m.cut⟩).1}:=⟨q.hv,q.dg.box,fun p x an=>by
   rcases zt an with rfl|an
   ·have:=f.gl hk;rw[ae.2]at this;exact this
   ·exact q.dg.br p x an,q.dg.oh,q.dg.nb,q.dg.ct,q.dg.aR,q.dg.dec,q.dg.prop⟩
  obtain⟨c5,h1,ad,aC,bh,_⟩:=Ti cg vF ac tw;have ag:=(K2 vF).2.2.2.1;generalize gq {s with br:=(fc s.view s.br ⟨m.src,m.cq,m.cut⟩).1}=T at *;refine⟨c5,h1,ad,aC,bh,fun p au=> ?_⟩;simp only[cond_false]at au;cases al:decide (T.phase=2)
  ·rw[al]at au;cases au
  ·rw[al]at au;simp only[cond_true,List.mem_singleton]at au;subst au;exact⟨fun k=>by
    have k: (4:Int)=1:=k;omega,fun k=>by
    have k: (4:Int)=3:=k;omega,fun _=>bh.dg.ct (of_decide_eq_true al),fun k=>by
    have k: (4:Int)=6:=k;omega⟩
 ·exact oi cg q pL
theorem aes{v:aQ}{g:dJ}{s:bj}(cg:iC v g)(aw:c6 s)(q:ib v g s){m:dx}(aT:eX s.view m=true)(hk:m.kind=4)(f:nc v g m):nd v g s (kR s m):=by
 have Lh:=f.kK (.inl hk);have eh:=rB (mb ((sD aT).2.2.2.1 hk).1).1;have jN:=F5 q.dg (r:=⟨m.src,m.aB,m.cut⟩) Lh;unfold kR;cases aZ: (iy s.aL m.aB m.cut).2
 ·exact oi cg ⟨q.hv,jN⟩ pL
 ·obtain⟨_,hle,_,e,_⟩:=FQ aw.aL aZ;rw[e];obtain⟨i2,s2⟩:=S8 (a:=s.self) (r:=m.aB) (c:=m.cut) cg (by
   rw[q.hv.cc];exact hle) (cg.dl _ _ _ Lh).1
  have nw:=F4 s2.ext (fun _ _ h=>h) (fun p=>(xr aw (.inl p)).2.2.1) q.dg;have Cw:=F5 nw (r:=⟨m.src,m.aB,m.cut⟩) (s2.ext.a _ _ _ Lh);have qI:=F5 Cw (r:=⟨s.self,m.aB,m.cut⟩) (.inr ⟨rfl,rfl,rfl⟩);refine⟨_,i2,s2,fun _ h=>h,⟨Tf q.hv (by omega) (Int.le_trans (Lf aw.aL) hle),⟨qI.box,qI.br,qI.oh,qI.nb,qI.ct,qI.aR,qI.dec,qI.prop⟩⟩,fun p au=> ?_⟩;simp only[cond_true,List.mem_singleton]at au;subst au;exact⟨fun k=>by
   have k: (5:Int)=1:=k;omega,fun k=>by
   have k: (5:Int)=3:=k;omega,fun _=>.inr ⟨rfl,rfl,rfl⟩,fun k=>by
   have k: (5:Int)=6:=k;omega⟩
theorem aet{v:aQ}{g:dJ}{s:bj}(cg:iC v g)(aw:c6 s)(ac:s.view=v)(q:ib v g s){m:dx}(aT:eX s.view m=true)(f:nc v g m):nd v g s (l9 s m):=by
 unfold l9;rcases Cg aT with hk|hk|hk|hk|hk|hk
 ·rw[if_pos hk];exact aeo cg aw q f hk
 ·rw[if_neg (by omega),if_pos hk];exact aep cg aw q aT hk
 ·rw[if_neg (by omega),if_neg (by omega),if_pos hk];exact aer cg aw ac q aT hk f
 ·rw[if_neg (by omega),if_neg (by omega),if_neg (by omega),if_pos hk];exact aes cg aw q aT hk f
 ·rw[if_neg (by omega),if_neg (by omega),if_neg (by omega),if_neg (by omega),if_pos hk];exact oi cg ⟨q.hv,F5 q.dg (r:=⟨m.src,m.aB,m.cut⟩) (f.kK (.inr hk))⟩ pL
 ·rw[if_neg (by omega),if_neg (by omega),if_neg (by omega),if_neg (by omega),if_neg (by omega)];refine oi cg ⟨q.hv,q.dg.box,q.dg.br,q.dg.oh,q.dg.nb,q.dg.ct,q.dg.aR,fun _=>f.vE hk,q.dg.prop⟩ (fun p au=> ?_);rw[List.mem_singleton.1 au];exact⟨fun k=>by
   have k: (6:Int)=1:=k;omega,fun k=>by
   have k: (6:Int)=3:=k;omega,fun k=>by
   have k: (6:Int)=4\/(6:Int)=5:=k;omega,fun _=>f.vE hk⟩
theorem Tj{v:aQ}{g:dJ}{s:bj}{cZ:Int}{c:List Int}(aa:rD v g c):nc v g (ef s cZ 6 0 0 c).m:=
 ⟨fun k=>by
  have k: (6:Int)=1:=k;omega,fun k=>by
  have k: (6:Int)=3:=k;omega,fun k=>by
  have k: (6:Int)=4\/(6:Int)=5:=k;omega,fun _=>aa⟩
theorem Li{v:aQ}{g:dJ}{s:bj}(cg:iC v g)(aw:c6 s)(aI:ht s)(ac:s.view=v)(q:ib v g s){m:dx}(aT:eX v m=true)(ag:m.src≠s.self)(f:nc v g m): (e7 s m).2.2=0/\nd v g s ((e7 s m).1,(e7 s m).2.1):=by
 have ae:eS s=true:=(vy s).2 ⟨aw,aI⟩;have xu:eX s.view m=true:=by rw[ac];exact aT
 unfold e7;rw[if_neg (by rw[ae];simp),if_neg (by rw[decide_eq_true (rC xu).2];simp),if_neg (by rw[xu,decide_eq_false ag];simp)];by_cases bL:decide (0<(s.dec.length:Int))=true
 ·rw[if_pos bL];refine⟨rfl,oi cg q (fun p au=> ?_)⟩;cases hk:decide (m.kind=6)
  ·simp only[hk,cond_false,List.mem_singleton]at au;subst au;exact Tj (q.dg.dec (pK.1 bL))
  ·simp only[hk,cond_true]at au;cases au
 ·rw[if_neg bL];refine⟨rfl,F6 (x:=l9 s m) ?_ ?_ (aet cg aw ac q xu f)⟩
  ·rw[(K6 aw aI xu ag).2.2.1];exact ac
  ·exact(K6 aw aI xu ag).1
theorem Lj{r:Int}(h:jB r=true):r<1073741824:=by
 unfold jB gC at h;by_cases h1:1073741824<=r
 ·rw[decide_eq_true h1]at h;simp at h
 ·omega
theorem aeu{r p:Int}(ao:0<=r/\r<1073741824)(au:0<=p/\p<1073741824):∃M,IntKind.i64.wrap ((if IntKind.i64.wrap (r.tdiv 1024)<IntKind.i64.wrap (p.tdiv 1024)then IntKind.i64.wrap (p.tdiv 1024)else IntKind.i64.wrap (r.tdiv 1024))+1)=M+1/\r/1024<=M/\p/1024<=M:=by
 have az:IntKind.i64.wrap (p.tdiv 1024)=p/1024:=by
  rw[Int.tdiv_eq_ediv_of_nonneg au.1];exact dC (by omega) (by omega)
 have aG:IntKind.i64.wrap (r.tdiv 1024)=r/1024:=by
  rw[Int.tdiv_eq_ediv_of_nonneg ao.1];exact dC (by omega) (by omega)
 rw[az,aG];by_cases h:r/1024<p/1024
 ·rw[if_pos h,dC (by omega) (by omega)];exact⟨_,rfl,by omega,by omega⟩
 ·rw[if_neg h,dC (by omega) (by omega)];exact⟨_,rfl,by omega,by omega⟩
theorem aev{s:bj}(h:c6 s)(aS:hg s≠0):s.aB<hg s/\s.aL.cc<hg s:=by
 have aew:0<=s.aL.cc/\s.aL.cc<1073741824:=by
  by_cases aH:s.aL.cc=0
  ·omega
  ·have:=Lj (mb (h.cc aH)).1;have:=rB (mb (h.cc aH)).1;omega
 have JX:0<=s.aB/\s.aB<1073741824:=by
  by_cases aH:s.aB=0
  ·omega
  ·have:=Lj (mb (h.aB aH).1).1;have:=rB (mb (h.aB aH).1).1;omega
 obtain⟨M,e,h1,ad⟩:=aeu JX aew;unfold hg at aS⊢;rw[e]at aS⊢;obtain⟨_,_,aC,_,bL,_⟩:=SK aS;rw[aC];omega
theorem aex{v:aQ}{g:dJ}{s:bj}(cg:iC v g)(aw:c6 s)(ac:s.view=v)(au:s.prop≠ [])(q:ib v g s):nd v g s (ma s,[]):=by
 rcases SM aw with e| ⟨h1,ad,aC,e⟩
 ·rw[e];exact oi cg q pL
 ·rw[e];have eh:=rB (mb h1).1;have qi:=(aev aw (by omega)).1;obtain⟨i1,s1⟩:=S7 (a:=s.self) (r:=hg s) cg (by
   rw[q.hv.cc];exact aC)
  have tw:ib v (xq g s.self (hg s)) (K8 s):=by
   refine⟨Te q.hv,fun b ae=>s1.ext.v _ _ (q.dg.box b ae),fun _ x an=> ?_,fun _ c x=> ?_,fun r c x o=> ?_,(fun p=>by
    have p: (1:Int)=2:=p;omega),fun x an=>s1.ext.a _ _ _ (q.dg.aR x an),fun p=>xo s1.ext (q.dg.dec p),fun p=>s1.ext.p _ (q.dg.prop p)⟩
   ·rcases List.mem_singleton.1 an with rfl;exact Tg q.hv aw.aL aC
   ·have:hg s<=s.aB:=q.dg.nb _ _ x ad;omega
   ·have:=q.dg.nb _ _ x o;show r<=hg s;omega
  obtain⟨c5,bh,bL,c0,fo,r1⟩:=Ti i1 (SL aw au h1 ad aC) ac tw;exact⟨c5,bh,Ct s1 bL,fun c x=>c0 c x,fo,r1⟩
theorem Tk{v:aQ}{g:dJ}{s:bj}{w:Int}(q:ib v g s):ib v g {s with dn:=w}:=⟨q.hv,q.dg.box,q.dg.br,q.dg.oh,q.dg.nb,q.dg.ct,q.dg.aR,q.dg.dec,q.dg.prop⟩
theorem aey{v:aQ}{g:dJ}{s:bj}(cg:iC v g)(aw:c6 s)(ac:s.view=v)(q:ib v g s):nd v g s (hW s,[]):=by
 have hw:=SN aw;have h1:=SO aw hw.1 hw.2;unfold hW;by_cases c0:decide (0<(s.prop.length:Int))=true
 ·rw[if_pos c0];by_cases fo:vx s=true
  ·rw[if_pos fo];exact aex cg h1 ac (pK.1 c0) (Tk q)
  ·rw[if_neg fo];exact oi cg (Tk q) pL
 ·rw[if_neg c0];exact oi cg q pL
theorem aez{v:aQ}{g:dJ}{s:bj}(q:ib v g s):∀p∈iV s,nc v g p.m:=by
 intro p au;unfold iV at au;rw[List.mem_append,List.mem_append]at au;rcases au with(au|au)|au
 ·unfold vt at au;cases al: (fE s.box s.self).2
  ·rw[al]at au;cases au
  ·rw[al]at au;simp only[cond_true,List.mem_singleton]at au;subst au;obtain⟨b,ae,aT,he⟩:=Cm al;have n1:=q.dg.box b ae;rw[aT,he]at n1;exact⟨fun _=>n1,fun k=>by
    have k: (1:Int)=3:=k;omega,fun k=>by
    have k: (1:Int)=4\/(1:Int)=5:=k;omega,fun k=>by
    have k: (1:Int)=6:=k;omega⟩
 ·unfold vu at au;cases h1:decide (s.phase=1)
  ·cases ad:decide (s.phase=2)
   ·rw[h1,ad]at au;cases au
   ·rw[h1,ad]at au;simp only[cond_true,cond_false,List.mem_singleton]at au;subst au;have ad:=of_decide_eq_true ad;exact⟨fun k=>by
     have k: (4:Int)=1:=k;omega,fun k=>by
     have k: (4:Int)=3:=k;omega,fun _=>q.dg.ct ad,fun k=>by
     have k: (4:Int)=6:=k;omega⟩
  ·rw[h1]at au;simp only[cond_true,List.mem_singleton]at au;subst au;exact⟨fun k=>by
    have k: (2:Int)=1:=k;omega,fun k=>by
    have k: (2:Int)=3:=k;omega,fun k=>by
    have k: (2:Int)=4\/(2:Int)=5:=k;omega,fun k=>by
    have k: (2:Int)=6:=k;omega⟩
 ·unfold vv at au;cases ae:decide (0<=dV s.aR s.self)&& !decide (s.phase=2)
  ·rw[ae]at au;cases au
  ·rw[ae]at au;simp only[cond_true,List.mem_singleton]at au;subst au;have aH:=((Bool.and_eq_true ..).mp ae).1;obtain⟨_,hk⟩:=zs aH;have gJ:=Se aH;have aT:s.aR.getD (dV s.aR s.self).toNat cI∈s.aR:=by simp[hk]
   generalize s.aR.getD (dV s.aR s.self).toNat cI=r at *;have aZ:=q.dg.aR r aT;rw[gJ]at aZ;exact⟨fun k=>by
    have k: (5:Int)=1:=k;omega,fun k=>by
    have k: (5:Int)=3:=k;omega,fun _=>aZ,fun k=>by
    have k: (5:Int)=6:=k;omega⟩
theorem aeA{v:aQ}{g:dJ}{s:bj}(cg:iC v g)(aw:c6 s)(aI:ht s)(ac:s.view=v)(q:ib v g s):nd v g s (ej s):=by
 have ae:eS s=true:=(vy s).2 ⟨aw,aI⟩;unfold ej;rw[if_neg (by rw[ae];simp)];by_cases bL:decide (0<(s.dec.length:Int))=true
 ·rw[if_pos bL];refine oi cg q (fun p au=> ?_);rw[List.mem_singleton.1 au];exact Tj (q.dg.dec (pK.1 bL))
 ·rw[if_neg bL];obtain⟨dl,_,a3,_⟩:=SP aw aI;obtain⟨c5,h1,ad,aC,bh,_⟩:=aey cg aw ac q;exact F6 (x:=(hW s,iV (hW s))) (a3.trans ac) dl ⟨c5,h1,ad,aC,bh,aez bh⟩
theorem aeB{v:aQ}{g:dJ}{s:bj}(cg:iC v g)(aw:c6 s)(aI:ht s)(ac:s.view=v)(q:ib v g s){cut:List Int}(bY: (ew s cut).2.2=0):nd v (Cv g cut) s ((ew s cut).1,(ew s cut).2.1):=by
 obtain⟨i0,eW⟩:=S9 (c:=cut) cg s.self;have qJ:ib v (Cv g cut) s:=⟨⟨q.hv.cc,q.hv.neg,q.hv.zero,q.hv.pos,q.hv.oY⟩,F4 eW.ext (fun _ _ h=>h) (fun p=>(xr aw (.inl p)).2.2.1) q.dg⟩
 obtain⟨au,aa,al,sE⟩:=La aw aI bY;have aS:=K9 aw au;rcases sE with⟨_,hP,ir,ae,e⟩| ⟨_,e⟩
 ·rw[e];obtain⟨i1,s1⟩:=aef (a:=s.self) (c:=cut) i0 (by
   rw[qJ.hv.cc];omega) (qJ.hv.neg ir) (.inr rfl)
  have jN:=F4 s1.ext (fun _ _ h=>h) (fun p=>(xr aw (.inl p)).2.2.1) qJ.dg;have aH:s.phase=0/\s.br=[]/\s.ct=[]:=by
   rcases aw.mc with aH|aH
   ·exact aH
   ·exact absurd au aH.2.2.1
  have vF:c6 {s with prop:=cut,dn:=0,aL:=⟨0,0,cut⟩,box:=hr s.box ⟨s.self,cut⟩}:=⟨aw.v,aw.self,Int.le_refl _,(by show (0:Int)<=_;omega),(tU _).2 ⟨.inl rfl,Int.le_refl _,.inr ⟨.inl rfl,by simp,zu (of_decide_eq_true al)⟩⟩,(fun e=>absurd rfl e),(fun e=>absurd e (Int.lt_irrefl _)),lz.2 (.inr al),lz.2 (.inr al),aw.ct,aw.dec,ae,(xn aw.v ae).2 (fun b fq he=>by
   rcases vo fq with rfl|fq
   ·rfl
   ·exact absurd he (aS b fq)),aw.br,aw.oe,aw.aR,aw.lA,aw.aB,.inl aH⟩
  refine F6 (x:=({s with prop:=cut,dn:=0,aL:=⟨0,0,cut⟩,box:=hr s.box ⟨s.self,cut⟩},[ef s 0 1 0 0 cut])) ac vF ⟨_,i1,s1,fun _ h=>h,⟨aek qJ.hv hP ir,⟨fun b fq=> ?_,jN.br,jN.oh,jN.nb,jN.ct,jN.aR,jN.dec,fun _=>.inr rfl⟩⟩,fun p iQ=> ?_⟩
  ·rcases vo fq with rfl|fq
   ·exact .inr ⟨rfl,rfl⟩
   ·exact jN.box b fq
  ·rw[List.mem_singleton.1 iQ];exact⟨fun _=>.inr ⟨rfl,rfl⟩,fun k=>by
    have k: (1:Int)=3:=k;omega,fun k=>by
    have k: (1:Int)=4\/(1:Int)=5:=k;omega,fun k=>by
    have k: (1:Int)=6:=k;omega⟩
 ·rw[e];have aH:s.phase=0/\s.br=[]/\s.ct=[]:=by
   rcases aw.mc with aH|aH
   ·exact aH
   ·exact absurd au aH.2.2.1
  have vF:c6 {s with prop:=cut,dn:=0}:=⟨aw.v,aw.self,Int.le_refl _,(by show (0:Int)<=_;omega),aw.aL,aw.cc,aw.nG,aw.fk,lz.2 (.inr al),aw.ct,aw.dec,aw.box,(xn aw.v aw.box).2 (fun b fq he=>absurd he (aS b fq)),aw.br,aw.oe,aw.aR,aw.lA,aw.aB,.inl aH⟩
  exact F6 (x:=({s with prop:=cut,dn:=0},[])) ac vF (oi i0 ⟨qJ.hv,⟨qJ.dg.box,qJ.dg.br,qJ.dg.oh,qJ.dg.nb,qJ.dg.ct,qJ.dg.aR,qJ.dg.dec,fun _=>.inr rfl⟩⟩ pL)
theorem F7(l ck:List Int)(au:ck.Perm l)(ag:ck.Pairwise fun x y=>x<=y)(hlen:l.length<4611686018427387904):b0 Tryz.prog 101 [.row 3 1 (l.map aM)] [.own 0] [true] [.row 3 1 (ck.map aM)] (.a1 []):=
 Z3 Tryz.mW rfl (enters_of Tryz.func101 (by kernel_rfl) rfl) l ck au ag hlen
theorem F8(l:List Int)(hlen:l.length<=9223372036854775807):b0 Tryz.prog 102 [.row 3 1 (l.map aM)] [.own 0] [false] [.row 3 1 ((Go.Lib.compact l).map aM)] (.own 0):=
 Z4 Tryz.lu rfl (enters_of Tryz.func102 (by kernel_rfl) rfl) l hlen
def mW(l:List Int):List Int:=l.mergeSort fun x y=>decide (x<=y)
theorem sG(l:List Int): (mW l).Perm l:=List.mergeSort_perm _ _
theorem zD(l:List Int): (mW l).Pairwise fun x y=>x<=y:=by
 have h1:=List.pairwise_mergeSort (le:=fun x y:Int=>decide (x<=y)) (fun a b c h1 ad=>by simp at *;omega) (fun a b=>by simp;omega) l;exact h1.imp fun h=>by simpa using h
def iD(l:List Int):List Int:=Go.Lib.compact (mW l)
theorem aeC(l:List Int): (iD l).Pairwise fun x y=>x<y:=(Qu (zD l)).1
theorem Lk{l:List Int}{x:Int}:x∈iD l↔x∈l:=((Qu (zD l)).2 x).trans (sG l).mem_iff
theorem zE(l:List Int): (iD l).length<=l.length:=by
 have h1:=Qs (mW l);have ad:=(sG l).length_eq;unfold iD;omega
theorem aeD(l:List ca)(af:l.length<=1000000):bg Tryz.prog 238 [.aq 4 (l.map dr) false] (.aq 1 ((iD (l.map (·.cj))).map aM) false):=by
 have Cx:∀n,n<=2000000->iJ ah 3 n:=fun n h=>by
  have e: (ay ah 3).bytes=8:=by kernel_rfl
  refine⟨?_,?_⟩
  ·rw[e];omega
  ·simp only[maxLen];omega
 have m1:=F7 (l.map (·.cj)) (mW (l.map (·.cj))) (sG _) (zD _) (by rw[List.length_map];omega);have m2:=F8 (mW (l.map (·.cj))) (by rw[(sG _).length_eq,List.length_map];omega);refine bw Tryz.func238 ?_;repeat' ((conv=>whnf);first|refine bc ?_|fail)
 all_goals(conv=>whnf)
 refine⟨Nat,fun i=>⟨[(3,.own 0),(6,.aq 4 (l.map dr) false),(7,i64 l.length),(8,i64 i)],[.row 3 1 (((l.take i).map (·.cj)).map aM)]⟩,fun i=>i<=l.length,fun i=>l.length-i,[.fS 3 3 1],⟨0,Nat.zero_le _,?_⟩,?_⟩
 ·conv=>whnf
  exact⟨⟨.r,.r,aV (by simp),.r,trivial⟩,⟨.r,trivial⟩,by rfl⟩
 ·intro i ab;repeat' ((conv=>whnf);first| (refine be ?_ ?_<;>intro h)|fail)
  ·have ap:i<l.length:=by simpa using h
   clear h;repeat' ((conv=>whnf);first|refine⟨_,_,And.intro ⟨rfl,cE ap⟩ ?_⟩|refine And.intro (Cx _ (by simp<;>omega)) ?_|fail)
   all_goals(conv=>whnf)
   refine⟨i+1,ap,by simp only[];omega,?_⟩;conv=>whnf
   refine⟨⟨.r,.r,.r,aV (bH (by omega)),trivial⟩,⟨ch ?_,trivial⟩,by rfl⟩;rw[List.take_succ_eq_append_getElem ap,List.map_append,List.map_append];rfl
  ·have:i=l.length:=by
    simp at h;omega
   subst this;rw[List.take_length];repeat' ((conv=>whnf);first|exact .refl|refine .inr ⟨[0],_,_,_,_,_,m1,by rfl,⟨.r,trivial⟩,⟨.r,trivial⟩,?_⟩|refine .inr ⟨[0],_,_,_,_,_,m2,by rfl,⟨.r,trivial⟩,⟨.r,trivial⟩,?_⟩|fail)
end Go.Proofs.YtdcfooeoaoahjaaGreat
