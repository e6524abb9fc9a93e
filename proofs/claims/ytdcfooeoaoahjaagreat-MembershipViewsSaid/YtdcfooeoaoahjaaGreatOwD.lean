/- The laws of this seat, part OwD: contracts of the functions, plain laws. No conditions. -/
import Derived.Test.YtdcfooeoaoahjaaGreatOwC
set_option linter.unusedSimpArgs false
set_option linter.unusedVariables false
set_option maxRecDepth 100000
set_option maxHeartbeats 16000000
namespace Go.Proofs.YtdcfooeoaoahjaaGreat
open Go.Lift
def rK(a:ca):List Nat:=bn a.cj.toNat++bn a.dN.toNat
theorem ag2{v:aQ}{a:ca}(aZ:jz v a=true):1<=a.cj/\a.cj<=1000/\0<=a.dN/\a.dN<5/\a.view=v.num/\(dq v.mem a.cj).length≠0/\(dq v.mem a.cj).getD a.dN.toNat 0=a.w6:=by
 obtain⟨_,h1,ad,aC,bh⟩:=CW aZ;simp only[k5,Bool.and_eq_true,decide_eq_true_eq]at ad;generalize dq v.mem a.cj=R at *;exact⟨by omega,by omega,by omega,by omega,h1,by omega,bh⟩
theorem ag3{v:aQ}{l:List Nat}{s r:Int}{jM j4:Nat}(az:dd l 0 0=(s,(jM:Int),0))(aG:dd (l.drop jM) 0 0=(r,(j4:Int),0))(dX: (decide (s<1)||decide (1000<s)||decide (5<=r))=false)(de: (dq v.mem s).length≠0):
  kO v l=(⟨v.num,r,(dq v.mem s).getD r.toNat 0,s⟩,(jM:Int)+(j4:Int),0):=by
 have AG:dd (l.drop (dd l 0 0).2.1.toNat) 0 0=(r,(j4:Int),0):=by
  rw[az];exact aG
 have ag4:decide (((dq v.mem s).length:Int)=0)=false:=decide_eq_false (by omega);unfold kO;rw[AG,az];generalize dq v.mem s=R at *;show (bif (decide (s<1)||decide (1000<s)||decide (5<=r))then(eu,(0:Int),(3:Int))else bif decide ((R.length:Int)=0)then(eu,0,3)else(⟨v.num,r,R.getD r.toNat 0,s⟩,(jM:Int)+(j4:Int),0))=_;rw[dX,ag4];rfl
theorem ag5{v:aQ}{a:ca}(aZ:jz v a=true)(rest:List Nat):kO v (rK a++rest)=(a,(((rK a).length:Nat):Int),0):=by
 obtain⟨h1,ad,aC,bh,bL,c0,fo⟩:=ag2 aZ;have az:=vh (v:=a.cj.toNat) (by omega) (bn a.dN.toNat++rest);have aG:=vh (v:=a.dN.toNat) (by omega) rest;have ag: ((a.cj.toNat:Nat):Int)=a.cj:=by omega
 have ao: ((a.dN.toNat:Nat):Int)=a.dN:=by omega
 rw[ag]at az;rw[ao]at aG;have af:rK a++rest=bn a.cj.toNat++(bn a.dN.toNat++rest):=by rw[rK,List.append_assoc]
 have aa: (bn a.cj.toNat++(bn a.dN.toNat++rest)).drop (bn a.cj.toNat).length=bn a.dN.toNat++rest:=List.drop_left;have hlen: (((rK a).length:Nat):Int)=(((bn a.cj.toNat).length:Nat):Int)+(((bn a.dN.toNat).length:Nat):Int):=by
  rw[rK,List.length_append];omega
 rw[hlen,af,ag3 az (by rw[aa];exact aG) (by
  rw[Bool.or_eq_false_iff,Bool.or_eq_false_iff];exact⟨⟨decide_eq_false (by omega),decide_eq_false (by omega)⟩,decide_eq_false (by omega)⟩) c0,fo,<-bL]
theorem Ul{l:List ca}{i:Nat}(h:i<l.length):∀j,i<j->j<=l.length->∃r,eo l j=eo l i++(rK l[i]++r)
 |0,h1,_=>by omega
 |j+1,h1,ad=>by
  rw[Fr (by omega)];rcases Nat.lt_succ_iff_lt_or_eq.1 h1 with h1|rfl
  ·obtain⟨r,ao⟩:=Ul h j h1 (by omega);exact⟨r++(bn l[j].cj.toNat++bn l[j].dN.toNat),by rw[ao];simp[List.append_assoc]⟩
  ·exact⟨[],by simp[rK,List.append_assoc]⟩
theorem ag6{l:List ca}(ag:qA l){i:Nat}(ab:i<l.length): (decide (0<((l.take i).length:Int))&& !gN ((l.take i).getD ((l.take i).length-1) eu) l[i])=false:=by
 by_cases aH:0<i
 ·have hlen: (l.take i).length=i:=by simp;omega
  have h1:i-1<l.length:=by omega
  have ad:i-1<(l.take i).length:=by omega
  have ax: (l.take i).getD (i-1) eu=l[i-1]:=by
   rw[List.getD_eq_getElem?_getD,List.getElem?_eq_getElem ad,Option.getD_some,List.getElem_take]
  have:=List.pairwise_iff_getElem.1 ag (i-1) i h1 ab (by omega);rw[hlen,ax,this];simp
 ·have:i=0:=by omega
  subst this;simp
theorem Um{v:aQ}{l:List ca}(ac:∀a∈l,jz v a=true)(ag:qA l)(rest:List Nat):∀k i,k+i=l.length->pI v (eo l l.length++rest) k (l.take i) (eo l i).length=(l,(((eo l l.length).length:Nat):Int),0)
 |0,i,h=>by
  have:i=l.length:=by omega
  subst this;rw[pI,List.take_length]
 |k+1,i,h=>by
  have ab:i<l.length:=by omega
  obtain⟨r,ao⟩:=Ul ab l.length ab (Nat.le_refl _);have aa: (eo l l.length++rest).drop (eo l i).length=rK l[i]++(r++rest):=by
   rw[ao,List.append_assoc,List.drop_left,List.append_assoc]
  have h1:=ag5 (ac _ (List.getElem_mem ab)) (r++rest);have ad:=ag6 ag ab;have he:vk v (eo l l.length++rest) (l.take i) (eo l i).length=0:=by
   unfold vk;rw[aa,h1];show (bif (decide ((0:Int)=0)&&decide (0<((l.take i).length:Int)))&& !gN ((l.take i).getD ((l.take i).length-1) eu) l[i]then(3:Int)else 0)=0;rw[decide_eq_true rfl,Bool.true_and,ad];rfl
  have aN:=Um ac ag rest k (i+1) (by omega);have bW:l.take i++ [l[i]]=l.take (i+1):=(List.take_succ_eq_append_getElem ab).symm;have af: (eo l i).length+(rK l[i]).length=(eo l (i+1)).length:=by
   rw[Fr ab,rK];simp only[List.length_append];omega
  rw[pI,he,aa,h1];simp only[Int.toNat_natCast];rw[bW,af,aN];rfl
theorem ag7(l:List ca):∃r,eo l l.length=bn l.length++r:=⟨_,rfl⟩
theorem ag8(l:List ca):eo l 0=bn l.length:=by simp[eo]
theorem ag9{v:aQ}{l:List ca}(cy:dU v l=true)(af:l.length<=5000)(rest:List Nat):xb v (eo l l.length++rest)=(l,(((eo l l.length).length:Nat):Int),0):=by
 obtain⟨ac,aZ,ag⟩:=tT.1 cy;obtain⟨r,ao⟩:=ag7 l;have az:=vh (v:=l.length) (by omega) (r++rest);rw[<-List.append_assoc,<-ao]at az;have ax:=Um aZ ag rest l.length 0 rfl;rw[List.take_zero,ag8]at ax;unfold xb;rw[ac,az];simp only[Int.toNat_natCast];rw[ax,decide_eq_false (show ¬(5000<((l.length:Nat):Int)) by omega)];rfl
theorem Un{v:aQ}{l:List ca}(cy:dU v l=true):BS v l=eo l l.length:=by
 unfold BS;rw[cy];rfl
def kd(A B:List ca)(i:Nat):List ca:=(B.take i).foldl (fun aL a=>(jA aL a).1) A
theorem LZ{A B:List ca}{i:Nat}(h:i<B.length):kd A B (i+1)=(jA (kd A B i) B[i]).1:=by
 unfold kd;rw[List.take_succ_eq_append_getElem h,List.foldl_append];rfl
theorem aha(l:List ca)(a:ca):l.length<=(jA l a).1.length/\(jA l a).1.length<=l.length+1:=by
 have e8:oa l a<=l.length:=(List.takeWhile_prefix _).length_le;unfold jA;generalize oa l a=k at *;cases decide (((k:Nat):Int)<(l.length:Int))&& !gN a (l.getD k eu)
 ·rw[cond_false];simp;omega
 ·rw[cond_true];simp
theorem L0(A B:List ca):∀i,i<=B.length->A.length<=(kd A B i).length/\(kd A B i).length<=A.length+i
 |0,_=>by simp[kd]
 |i+1,h=>by
  have aN:=L0 A B i (by omega);have h1:=aha (kd A B i) (B[i]'(by omega));rw[LZ (by omega)];omega
theorem Uo{v:aQ}{A B:List ca}(aw:∀a∈A,jz v a=true)(ag:qA A)(cR:∀a∈B,jz v a=true):∀i,i<=B.length->qA (kd A B i)/\∀x,x∈kd A B i↔x∈A\/x∈B.take i
 |0,_=>by simp[kd,ag]
 |i+1,ab=>by
  obtain⟨h1,aC⟩:=Uo aw ag cR i (by omega);have dG:i<B.length:=by omega
  rw[LZ dG,List.take_succ_eq_append_getElem dG];obtain⟨g1,g2,g3,g4,g5⟩:=Rt h1 B[i];refine⟨g1,fun x=> ?_⟩;rw[List.mem_append,List.mem_singleton];constructor
  ·intro an;rcases g3 x an with h|h
   ·rcases(aC x).1 h with h|h
    ·exact .inl h
    ·exact .inr (.inl h)
   ·exact .inr (.inr h)
  ·rintro(an|an|rfl)
   ·exact g4 x ((aC x).2 (.inl an))
   ·exact g4 x ((aC x).2 (.inr an))
   ·rcases g5 with h| ⟨e,he,fT,lm⟩
    ·exact h
    ·have ahb:jz v e=true:=by
      rcases(aC e).1 he with h|h
      ·exact aw e h
      ·exact cR e (List.mem_of_mem_take h)
     have:=agZ ahb (cR _ (List.getElem_mem dG)) fT lm;have bp:=g4 e he;rw[this]at bp;exact bp
theorem Up{v:aQ}{A B:List ca}(aw:dU v A=true)(cR:dU v B=true):dU v (kd A B B.length)=true/\∀x,x∈kd A B B.length↔x∈A\/x∈B:=by
 obtain⟨ac,dl,a2⟩:=tT.1 aw;obtain⟨_,cC,cH⟩:=tT.1 cR;obtain⟨h1,ad⟩:=Uo dl a2 cC _ (Nat.le_refl _);rw[List.take_length]at ad;refine⟨tT.2 ⟨ac,fun a aZ=> ?_,h1⟩,ad⟩;rcases(ad a).1 aZ with h|h
 ·exact dl a h
 ·exact cC a h
theorem ahc(v:aQ)(ac:v.mem.length<=maxLen)(A B:List ca)(aw:A.length<=10000)(cR:B.length<=10000)(na:dU v A=true)(L2:dU v B=true):bg Tryz.prog 87 [.agg (bN v),.aq 4 (A.map dr) false,.aq 4 (B.map dr) false] (.a1 [.aq 4 ((kd A B B.length).map dr) false,i64 0]):=by
 have az:=zh v ac A (by simp only[maxLen];omega);have aG:=zh v ac B (by simp only[maxLen];omega);rw[na]at az;rw[L2]at aG;have h4:=BN A (by omega);refine bw Tryz.func87 ?_;repeat' ((conv=>whnf);first|refine bc ?_|refine And.intro ⟨fun h=>h,fun h=>h⟩ ?_|refine .inl ⟨_,_,aD _,az,?_⟩|refine⟨_,_,aD _,fun _=>aG,?_⟩|refine .inl ⟨_,_,aD _,h4,?_⟩|fail)
 all_goals(conv=>whnf)
 refine⟨Nat,fun i=>⟨[(8,.aq 4 ((kd A B i).map dr) false),(23,.aq 4 (B.map dr) false),(24,i64 B.length),(25,i64 i)],[.cells 24 (bN v)]⟩,fun i=>i<=B.length,fun i=>B.length-i,[],⟨0,Nat.zero_le _,?_⟩,?_⟩
 ·conv=>whnf
  exact⟨⟨.r,.r,aV (by simp),.r,trivial⟩,⟨.r,trivial⟩,by rfl⟩
 ·intro i ab;have af:=L0 A B i ab;repeat' ((conv=>whnf);first| (refine be ?_ ?_<;>intro h)|fail)
  ·have ap:i<B.length:=by simpa using h
   clear h;have oE:=Q7 (kd A B i) (by omega) B[i];rw[<-LZ ap]at oE;generalize(jA (kd A B i) B[i]).2=fL at oE;repeat' ((conv=>whnf);first|refine⟨_,_,And.intro ⟨rfl,cE ap⟩ ?_⟩|refine .inl ⟨_,_,aD _,oE,?_⟩|fail)
   all_goals(conv=>whnf)
   refine⟨i+1,ap,by simp only[];omega,?_⟩;conv=>whnf
   exact⟨⟨.r,.r,.r,aV (bH (by omega)),trivial⟩,⟨.r,trivial⟩,by rfl⟩
  ·have:i=B.length:=by
    simp at h;omega
   subst this;repeat' ((conv=>whnf);first|exact .refl|fail)
def GB:pN:=⟨5,0,[],Gk,jX,[]⟩
def vM:List Nat:=dm 5 []
def CX(m:dx):pN:=⟨3,m.view,[],m,jX,[]⟩
def L3(m:dx):List Nat:=dm 3 (om m)
def GC(num:Int)(l:List ca):pN:=⟨2,num,l,Gk,jX,[]⟩
def GD(num:Int)(l:List ca):List Nat:=dm 2 (bn num.toNat++eo l l.length)
theorem L4(s:Mem):bg Tryz.prog 51 [.agg (bU s),.aq 1 (vM.map bo) false] (.a1 [.agg (ie GB),.v (.bool true)]):=by
 obtain⟨b,ae⟩:∃b:List Nat,b=[]:=⟨_,rfl⟩
 have L5: (b.map bo).length=0:=by rw[ae];rfl
 have az:=BR 5 (by omega) (by omega) b (by rw[ae];simp);have la: (!decide ((0:Int)=0)|| !decide (((dm 5 b).length:Int)=(((dm 5 b).map bo).length:Int)))=false:=by rw[List.length_map];simp
 unfold vM;rw[<-ae];clear ae;generalize dm 5 b=W at *;refine bw Tryz.func51 ?_;repeat' ((conv=>whnf);first|refine bc ?_|refine dE (by assumption) ?_|refine And.intro (by kernel_rfl) ?_|refine And.intro ⟨fun h=>h,fun h=>h⟩ ?_|refine .inl ⟨_,_,aD _,az,?_⟩|fail)
 all_goals(conv=>whnf)
 exact dI ⟨gM ⟨.r,.r,.ar,.r,.r,.r,.r,.r,.ar,.r,.ar,.ar,trivial⟩,eK (by rw[L5];rfl),trivial⟩
theorem ahd(m:dx)(h:rJ m):b0 Tryz.prog 77 [.cells 135 (rF (om m))] [.aP 0 0] [true] [.cells 135 (rF [])] (.agg (m4 m)):=by
 obtain⟨hk,ac,ag,ao,af,al⟩:=h;have nI:=CC al;have iY: (bn m.view.toNat).length<=10:=fM 9 _;have AC: (bn m.src.toNat).length<=10:=fM 9 _;have akN: (bn m.aB.toNat).length<=10:=fM 9 _;have ahe: (bn (eD m.cq)).length<=10:=fM 9 _;have ae:om m=bn m.kind.toNat++(bn m.view.toNat++(bn m.src.toNat++(bn m.aB.toNat++(bn (eD m.cq)++(eT m.cut++ []))))):=by simp[om,o7,qz]
 have az:=xx m.kind.toNat (by omega) (bn m.view.toNat++(bn m.src.toNat++(bn m.aB.toNat++(bn (eD m.cq)++(eT m.cut++ []))))) (by simp only[List.length_append,List.length_nil];omega);have aG:=xx m.view.toNat (by omega) (bn m.src.toNat++(bn m.aB.toNat++(bn (eD m.cq)++(eT m.cut++ [])))) (by simp only[List.length_append,List.length_nil];omega);have a7:=xx m.src.toNat (by omega) (bn m.aB.toNat++(bn (eD m.cq)++(eT m.cut++ []))) (by simp only[List.length_append,List.length_nil];omega);have b5:=xx m.aB.toNat (by omega) (bn (eD m.cq)++(eT m.cut++ [])) (by simp only[List.length_append,List.length_nil];omega);have du:=Tp m.cq af.1 af.2 (eT m.cut++ []) (by simp only[List.length_append,List.length_nil];omega);have iU:=CB (bn (eD m.cq)++(eT m.cut++ [])) (bn (eD m.cq)).length (by rw[List.length_append];omega);rw[List.drop_left]at iU;have kw:=Ts m.cut al.1 al.2 [] (by simp);rw[<-ae]at az;have jM: ((m.kind.toNat:Nat):Int)=m.kind:=by omega
 have j4: ((m.view.toNat:Nat):Int)=m.view:=by omega
 have rL: ((m.src.toNat:Nat):Int)=m.src:=by omega
 have GF: ((m.aB.toNat:Nat):Int)=m.aB:=by omega
 rw[jM]at az;rw[j4]at aG;rw[rL]at a7;rw[GF]at b5;clear ae jM j4 rL GF;generalize om m=akO at *;generalize bn m.view.toNat++(bn m.src.toNat++(bn m.aB.toNat++(bn (eD m.cq)++(eT m.cut++ []))))=akP at *;generalize bn m.src.toNat++(bn m.aB.toNat++(bn (eD m.cq)++(eT m.cut++ [])))=akQ at *;generalize bn m.aB.toNat++(bn (eD m.cq)++(eT m.cut++ []))=akR at *;generalize bn (eD m.cq)++(eT m.cut++ [])=akS at *;refine dw Tryz.func77 ?_;repeat' ((conv=>whnf);first|refine .inr ⟨[0],_,_,_,_,_,az,by rfl,⟨.r,trivial⟩,⟨.r,trivial⟩,?_⟩|refine .inr ⟨[0],_,_,_,_,_,aG,by rfl,⟨.r,trivial⟩,⟨.r,trivial⟩,?_⟩|refine .inr ⟨[0],_,_,_,_,_,a7,by rfl,⟨.r,trivial⟩,⟨.r,trivial⟩,?_⟩|refine .inr ⟨[0],_,_,_,_,_,b5,by rfl,⟨.r,trivial⟩,⟨.r,trivial⟩,?_⟩|refine .inl ⟨_,_,aD _,du,?_⟩|refine .inr ⟨[0],_,_,_,_,_,iU,by rfl,⟨.r,trivial⟩,⟨.r,.r,.r,trivial⟩,?_⟩|refine .inr ⟨[0],_,_,_,_,_,kw,by rfl,⟨.r,trivial⟩,⟨.r,trivial⟩,?_⟩|fail)
 all_goals(conv=>whnf)
 exact⟨.r,⟨.r,.r,trivial⟩,by rfl⟩
theorem ahf{m:dx}(h:rJ m): (om m).length<=400:=by
 have h1:=T3 m 4;have ad:=CC h.cut;have ahe: (bn (eD m.cq)).length<=10:=fM 9 _;unfold om;simp only[List.length_append];omega
theorem Uq(s:Mem)(m:dx)(h:rJ m):bg Tryz.prog 51 [.agg (bU s),.aq 1 ((L3 m).map bo) false] (.a1 [.agg (ie (CX m)),.v (.bool true)]):=by
 have pt:=ahf h;have az:=BR 3 (by omega) (by omega) (om m) (by omega);have aG:=ahd m h;have la: (!decide ((0:Int)=0)|| !decide (((dm 3 (om m)).length:Int)=(((dm 3 (om m)).map bo).length:Int)))=false:=by rw[List.length_map];simp
 unfold L3;generalize dm 3 (om m)=W at *;refine bw Tryz.func51 ?_;repeat' ((conv=>whnf);first|refine bc ?_|refine dE (by assumption) ?_|refine And.intro (by kernel_rfl) ?_|refine And.intro ⟨fun h=>h,fun h=>h⟩ ?_|refine .inl ⟨_,_,aD _,az,?_⟩|refine .inr ⟨[2],_,_,_,_,_,aG,by rfl,⟨.r,trivial⟩,⟨.r,trivial⟩,?_⟩|fail)
 all_goals(conv=>whnf)
 exact dI ⟨gM ⟨.r,.r,.ar,.r,.r,.r,.r,.r,.r,.r,.ar,.ar,trivial⟩,eK rfl,trivial⟩
theorem L6{v:aQ}{l:List ca}(n:Nat): (eo l n).length<=10+20*l.length:=by
 have h:∀l:List ca,(l.flatMap fun a=>bn a.cj.toNat++bn a.dN.toNat).length<=20*l.length:=by
  intro l;induction l with
  |nil=>simp
  |cons x l aN=>
   have h1: (bn x.cj.toNat).length<=10:=fM 9 _;have ad: (bn x.dN.toNat).length<=10:=fM 9 _;rw[List.flatMap_cons,List.length_append,List.length_append,List.length_cons];omega
 have h1:=h (l.take n);have ad: (l.take n).length<=l.length:=by rw[List.length_take];omega
 have aC: (bn l.length).length<=10:=fM 9 _;unfold eo;rw[List.length_append];omega
theorem Ur(s:Mem)(num:Int)(h1:0<=num)(ad:num<=1099511627776)(l:List ca)(af:l.length<=5000)(ac:s.status=1->num=s.view.num->dU s.view l=true):
  bg Tryz.prog 51 [.agg (bU s),.aq 1 ((GD num l).map bo) false] (.a1 [.agg (ie (GC num (bif !decide (s.status=1)|| !decide (num=s.view.num)then []else l))),.v (.bool true)]):=by
 have lQ:=L6 (v:=s.view) (l:=l) l.length;have gi: (bn num.toNat).length<=10:=fM 9 _;have az:=BR 2 (by omega) (by omega) (bn num.toNat++eo l l.length) (by rw[List.length_append];omega);have aG:=xx num.toNat (by omega) (eo l l.length) (by omega);have aS: ((num.toNat:Nat):Int)=num:=by omega
 rw[aS]at aG;have la: (!decide ((0:Int)=0)|| !decide (((dm 2 (bn num.toNat++eo l l.length)).length:Int)=(((dm 2 (bn num.toNat++eo l l.length)).map bo).length:Int)))=false:=by rw[List.length_map];simp
 unfold GD;generalize dm 2 (bn num.toNat++eo l l.length)=W at *;cases al: (!decide (s.status=1)|| !decide (num=s.view.num))
 ·simp only[Bool.or_eq_false_iff,Bool.not_eq_false',decide_eq_true_eq]at al;have gT:=ac al.1 al.2;have qf: (!decide (s.status=1)|| !decide (num=s.view.num))=false:=by rw[al.1,al.2];simp
  obtain⟨me,_⟩:=tT.1 gT;have a7:=abV s.view (Nat.le_trans (kM me).2 (by decide)) (eo l l.length) (by omega);have ae:=ag9 gT af [];rw[List.append_nil]at ae;rw[ae]at a7;have b5:=CB (eo l l.length) (eo l l.length).length (Nat.le_refl _);rw[List.drop_length]at b5;refine bw Tryz.func51 ?_;repeat' ((conv=>whnf);first|refine bc ?_|refine dE (by assumption) ?_|refine And.intro (by kernel_rfl) ?_|refine And.intro ⟨fun h=>h,fun h=>h⟩ ?_|refine .inl ⟨_,_,aD _,az,?_⟩|refine .inr ⟨[2],_,_,_,_,_,aG,by rfl,⟨.r,trivial⟩,⟨.r,trivial⟩,?_⟩|refine .inl ⟨_,_,aD _,a7,?_⟩|refine .inr ⟨[2],_,_,_,_,_,b5,by rfl,⟨.r,trivial⟩,⟨.r,.r,.r,trivial⟩,?_⟩|fail)
  all_goals(conv=>whnf)
  exact dI ⟨gM ⟨.r,.r,.r,.r,.r,.r,.r,.r,.ar,.r,.ar,.ar,trivial⟩,eK rfl,trivial⟩
 ·refine bw Tryz.func51 ?_;repeat' ((conv=>whnf);first|refine bc ?_|refine eC (by assumption) ?_|refine dE (by assumption) ?_|refine And.intro (by kernel_rfl) ?_|refine And.intro ⟨fun h=>h,fun h=>h⟩ ?_|refine .inl ⟨_,_,aD _,az,?_⟩|refine .inr ⟨[2],_,_,_,_,_,aG,by rfl,⟨.r,trivial⟩,⟨.r,trivial⟩,?_⟩|fail)
  all_goals(conv=>whnf)
  exact dI ⟨gM ⟨.r,.r,.ar,.r,.r,.r,.r,.r,.ar,.r,.ar,.ar,trivial⟩,eK rfl,trivial⟩
def ff(s:Mem):Mem:=bif decide (s.status=1)then(bif (dp s).2 then(dp s).1 else sP (dp s).1)else s
theorem L7{s:Mem}(h: (dp s).2=false): (dp s).1.view=s.view/\(dp s).1.als=s.als/\(dp s).1.dbts=s.dbts/\(dp s).1.hist=s.hist/\(dp s).1.self=s.self/\(dp s).1.first=s.first/\(dp s).1.bk=s.bk/\(dp s).1.status=s.status/\(dp s).1.cont=s.cont:=by
 unfold dp at h⊢;cases h1:decide ((s.agr.dec.length:Int)=0)
 ·rw[h1]at h;cases ad: (!decide ((eQ s.view s.agr.dec).2=0)||decide (400<=(s.hist.length:Int)))
  ·rw[ad]at h;cases h
  ·exact⟨rfl,rfl,rfl,rfl,rfl,rfl,rfl,rfl,rfl⟩
 ·exact⟨rfl,rfl,rfl,rfl,rfl,rfl,rfl,rfl,rfl⟩
structure pQ(s:Mem):Prop where
 view:s.view.mem.length<=1000
 hist:s.hist.length<=1000
 dec:s.agr.dec.length<=1000
 als:s.als.length<=100000
 dbts:s.dbts.length<=100000
theorem uh{s:Mem}(h:pQ s)(aX:List dj):b0 Tryz.prog 90 (eb s aX) [.aP 0 0] [true,false,false,true] (eb (dp s).1 aX) (.v (.bool (dp s).2)):=LY s h.view h.hist h.dec aX
theorem ui{s:Mem}(h:pQ s)(ae: (dp s).2=false)(aX:List dj):b0 Tryz.prog 91 (eb (dp s).1 aX) [.aP 0 0] [true,true,false,true] (eb (sP (dp s).1) aX) (.a1 []):=by
 obtain⟨cx,cM,gl,_⟩:=L7 ae;exact T7 (dp s).1 (by rw[cx];exact h.view) (by rw[cM];exact h.als) (by rw[gl];exact h.dbts) aX
theorem rM{s:Mem}(h:s.status=1):ff s=bif (dp s).2 then(dp s).1 else sP (dp s).1:=by
 unfold ff;rw[h];rfl
theorem L8(s:Mem)(bM:s.status=1)(c7:fe s)(bz:Int)(aX:List dj)(bZ:aX.length<=80000)(ab:zN s)(f:pN)(CY:f.kind≠4)(L9:f.kind≠5)(aS:f.num<s.view.num)(aI:pQ (s)):
  b0 Tryz.prog 54 (eb s aX) [.aP 0 0,i64 bz,.agg (ie f)] [true,false,false,false] (eb (ff (s)) (aX++ [sO s bz])) (.a1 []):=by
 have az:=hp s.view.mem (Nat.le_trans c7.view (by decide)) bz
 have aG:=LS s ab aX (by omega) bz
 have g4:decide (f.kind=4)=false:=decide_eq_false CY;have g5:decide (f.kind=5)=false:=decide_eq_false L9;have ahg:decide (f.num<s.view.num)=true:=decide_eq_true aS;have cy:decide (s.status=1)=true:=by rw[bM];rfl
 have dA:decide (s.status=1)=false->False:=fun h=>by rw[cy]at h;cases h
 have a7:=uh aI (aX++ [sO s bz]);have b5: (decide (s.status=1)&& !(dp (s)).2)=true->_:=fun h=>ui aI (by rw[cy]at h;simpa using h) (aX++ [sO s bz]);rw[rM (s:=s) (by simpa using cy)];generalize dp (s)=W at *;refine dw Tryz.func54 ?_;repeat' ((conv=>whnf);first|refine bc ?_|refine eC (by assumption) ?_|refine dE (by assumption) ?_| (refine be ?_ ?_<;>intro h)|refine And.intro (by kernel_rfl) ?_|refine .inl ⟨_,_,aD _,az,?_⟩|refine .inr ⟨[0,1,2,3],_,_,_,_,_,aG,by rfl,⟨.r,.r,.r,.r,trivial⟩,⟨.r,.r,trivial⟩,?_⟩|refine And.intro (fun(ax:decide _=true)=> ?_) (fun(ax:decide _=false)=>(dA ax).elim)|refine .inr ⟨[0,1,2,3],_,_,_,_,_,a7,by rfl,⟨.r,.r,.r,.r,trivial⟩,⟨.r,trivial⟩,?_⟩|refine .inr ⟨[0,1,2,3],_,_,_,_,_,b5 (by assumption),by rfl,⟨.r,.r,.r,.r,trivial⟩,⟨.r,trivial⟩,?_⟩|fail)
 all_goals(conv=>whnf)
 ·have ae:W.2=false:=by rw[cy]at h;simpa using h
  rw[ae];exact⟨.r,⟨.r,.r,.r,.r,ft ⟨.r,.aW,.aW,.aW,trivial⟩,trivial⟩,by rfl⟩
 ·have ae:W.2=true:=by rw[cy]at h;simpa using h
  rw[ae];exact⟨.r,⟨.r,.r,.r,.r,ft ⟨.r,.aW,.aW,.aW,trivial⟩,trivial⟩,by rfl⟩
theorem Ma(s:Mem)(bM:s.status=1)(c7:fe s)(bz:Int)(aX:List dj)(f:pN)(CY:f.kind≠4)(L9:f.kind≠5)(aS:s.view.num<f.num)(aI:pQ (s)):
  b0 Tryz.prog 54 (eb s aX) [.aP 0 0,i64 bz,.agg (ie f)] [true,false,false,false] (eb (ff (s)) (aX)) (.a1 []):=by
 have az:=hp s.view.mem (Nat.le_trans c7.view (by decide)) bz
 have g4:decide (f.kind=4)=false:=decide_eq_false CY;have g5:decide (f.kind=5)=false:=decide_eq_false L9;have ahg:decide (f.num<s.view.num)=false:=decide_eq_false (by omega);have akT:decide (s.view.num<f.num)=true:=decide_eq_true aS;have cy:decide (s.status=1)=true:=by rw[bM];rfl
 have dA:decide (s.status=1)=false->False:=fun h=>by rw[cy]at h;cases h
 have a7:=uh aI (aX);have b5: (decide (s.status=1)&& !(dp (s)).2)=true->_:=fun h=>ui aI (by rw[cy]at h;simpa using h) (aX);rw[rM (s:=s) (by simpa using cy)];generalize dp (s)=W at *;refine dw Tryz.func54 ?_;repeat' ((conv=>whnf);first|refine bc ?_|refine eC (by assumption) ?_|refine dE (by assumption) ?_| (refine be ?_ ?_<;>intro h)|refine And.intro (by kernel_rfl) ?_|refine .inl ⟨_,_,aD _,az,?_⟩|refine And.intro (fun(ax:decide _=true)=> ?_) (fun(ax:decide _=false)=>(dA ax).elim)|refine .inr ⟨[0,1,2,3],_,_,_,_,_,a7,by rfl,⟨.r,.r,.r,.r,trivial⟩,⟨.r,trivial⟩,?_⟩|refine .inr ⟨[0,1,2,3],_,_,_,_,_,b5 (by assumption),by rfl,⟨.r,.r,.r,.r,trivial⟩,⟨.r,trivial⟩,?_⟩|fail)
 all_goals(conv=>whnf)
 ·have ae:W.2=false:=by rw[cy]at h;simpa using h
  rw[ae];exact⟨.r,⟨.r,.r,.r,.r,ft ⟨.r,.aW,.aW,.aW,trivial⟩,trivial⟩,by rfl⟩
 ·have ae:W.2=true:=by rw[cy]at h;simpa using h
  rw[ae];exact⟨.r,⟨.r,.r,.r,.r,ft ⟨.r,.aW,.aW,.aW,trivial⟩,trivial⟩,by rfl⟩
theorem ahh(s:Mem)(bM:s.status=1)(c7:fe s)(bz:Int)(aX:List dj)(cw:bR s.view.mem bz=true)(aI:pQ ({s with bk:=qx s.bk bz})):
  b0 Tryz.prog 54 (eb s aX) [.aP 0 0,i64 bz,.agg (ie (u5 s.view.num))] [true,false,false,false] (eb (ff ({s with bk:=qx s.bk bz})) (aX)) (.a1 []):=by
 have az:=hp s.view.mem (Nat.le_trans c7.view (by decide)) bz
 have af:decide (s.view.num<s.view.num)=false:=decide_eq_false (by omega);have aG:=abn s.bk (Nat.le_trans c7.pM (by decide)) (Nat.le_trans c7.bS (by decide)) bz
 rw[cw]at az;have cy:decide (s.status=1)=true:=by rw[bM];rfl
 have dA:decide (s.status=1)=false->False:=fun h=>by rw[cy]at h;cases h
 have a7:=uh aI (aX);have b5: (decide (s.status=1)&& !(dp ({s with bk:=qx s.bk bz})).2)=true->_:=fun h=>ui aI (by rw[cy]at h;simpa using h) (aX);rw[rM (s:={s with bk:=qx s.bk bz}) (by simpa using cy)];generalize dp ({s with bk:=qx s.bk bz})=W at *;generalize qx s.bk bz=H at *
 refine dw Tryz.func54 ?_;repeat' ((conv=>whnf);first|refine bc ?_|refine dE (by assumption) ?_| (refine be ?_ ?_<;>intro h)|refine And.intro (by kernel_rfl) ?_|refine .inl ⟨_,_,aD _,az,?_⟩|refine .inl ⟨_,_,aD _,aG,?_⟩|refine And.intro (fun(ax:decide _=true)=> ?_) (fun(ax:decide _=false)=>(dA ax).elim)|refine .inr ⟨[0,1,2,3],_,_,_,_,_,a7,by rfl,⟨.r,.r,.r,.r,trivial⟩,⟨.r,trivial⟩,?_⟩|refine .inr ⟨[0,1,2,3],_,_,_,_,_,b5 (by assumption),by rfl,⟨.r,.r,.r,.r,trivial⟩,⟨.r,trivial⟩,?_⟩|fail)
 all_goals(conv=>whnf)
 ·have ae:W.2=false:=by rw[cy]at h;simpa using h
  rw[ae];exact⟨.r,⟨.r,.r,.r,.r,ft ⟨.r,.aW,.aW,.aW,trivial⟩,trivial⟩,by rfl⟩
 ·have ae:W.2=true:=by rw[cy]at h;simpa using h
  rw[ae];exact⟨.r,⟨.r,.r,.r,.r,ft ⟨.r,.aW,.aW,.aW,trivial⟩,trivial⟩,by rfl⟩
theorem ahi(s:Mem)(bM:s.status=1)(c7:fe s)(bz:Int)(aX:List dj)(cw:bR s.view.mem bz=false)(aI:pQ (s)):
  b0 Tryz.prog 54 (eb s aX) [.aP 0 0,i64 bz,.agg (ie (u5 s.view.num))] [true,false,false,false] (eb (ff (s)) (aX)) (.a1 []):=by
 have az:=hp s.view.mem (Nat.le_trans c7.view (by decide)) bz
 have af:decide (s.view.num<s.view.num)=false:=decide_eq_false (by omega);rw[cw]at az;have cy:decide (s.status=1)=true:=by rw[bM];rfl
 have dA:decide (s.status=1)=false->False:=fun h=>by rw[cy]at h;cases h
 have a7:=uh aI (aX);have b5: (decide (s.status=1)&& !(dp (s)).2)=true->_:=fun h=>ui aI (by rw[cy]at h;simpa using h) (aX);rw[rM (s:=s) (by simpa using cy)];generalize dp (s)=W at *;refine dw Tryz.func54 ?_;repeat' ((conv=>whnf);first|refine bc ?_|refine dE (by assumption) ?_| (refine be ?_ ?_<;>intro h)|refine And.intro (by kernel_rfl) ?_|refine And.intro ⟨fun h=>h,fun h=>h⟩ ?_|refine .inl ⟨_,_,aD _,az,?_⟩|refine And.intro (fun(ax:decide _=true)=> ?_) (fun(ax:decide _=false)=>(dA ax).elim)|refine .inr ⟨[0,1,2,3],_,_,_,_,_,a7,by rfl,⟨.r,.r,.r,.r,trivial⟩,⟨.r,trivial⟩,?_⟩|refine .inr ⟨[0,1,2,3],_,_,_,_,_,b5 (by assumption),by rfl,⟨.r,.r,.r,.r,trivial⟩,⟨.r,trivial⟩,?_⟩|fail)
 all_goals(conv=>whnf)
 ·have ae:W.2=false:=by rw[cy]at h;simpa using h
  rw[ae];exact⟨.r,⟨.r,.r,.r,.r,ft ⟨.r,.aW,.aW,.aW,trivial⟩,trivial⟩,by rfl⟩
 ·have ae:W.2=true:=by rw[cy]at h;simpa using h
  rw[ae];exact⟨.r,⟨.r,.r,.r,.r,ft ⟨.r,.aW,.aW,.aW,trivial⟩,trivial⟩,by rfl⟩
theorem Us(s:Mem)(x:Int):∀i,(jE s x i).status=s.status/\(jE s x i).first=s.first/\(jE s x i).hist=s.hist/\(jE s x i).agr=s.agr
 |0=>⟨rfl,rfl,rfl,rfl⟩
 |i+1=>by
  have aN:=Us s x i;have h:=Gt (jE s x i) ⟨s.view.num,(nf s.view.mem s.self x).getD i 0,s.self,x⟩;exact⟨h.2.2.2.2.1.trans aN.1,h.2.2.2.1.trans aN.2.1,h.2.2.1.trans aN.2.2.1,h.2.2.2.2.2.2.2.2.trans aN.2.2.2⟩
theorem zS(s:Mem)(x:Int): (hF s x).status=s.status/\(hF s x).first=s.first/\(hF s x).hist=s.hist/\(hF s x).agr=s.agr:=Us s x _
theorem ahj(s:Mem)(bM:s.status=1)(c7:fe s)(bz:Int)(aX:List dj)(l:List ca)(af:l.length<=10000)(na:dU s.view s.als=true)(L2:dU s.view l=true)(aI:pQ ({s with als:=kd s.als l l.length})):
  b0 Tryz.prog 54 (eb s aX) [.aP 0 0,i64 bz,.agg (ie (GC s.view.num l))] [true,false,false,false] (eb (ff ({s with als:=kd s.als l l.length})) (aX)) (.a1 []):=by
 have az:=hp s.view.mem (Nat.le_trans c7.view (by decide)) bz
 have gi:decide (s.view.num<s.view.num)=false:=decide_eq_false (by omega);have aG:=ahc s.view (Nat.le_trans c7.view (by decide)) s.als l (by have:=c7.als;omega) af na L2;have cy:decide (s.status=1)=true:=by rw[bM];rfl
 have dA:decide (s.status=1)=false->False:=fun h=>by rw[cy]at h;cases h
 have a7:=uh aI (aX);have b5: (decide (s.status=1)&& !(dp ({s with als:=kd s.als l l.length})).2)=true->_:=fun h=>ui aI (by rw[cy]at h;simpa using h) (aX);rw[rM (s:={s with als:=kd s.als l l.length}) (by simpa using cy)];generalize dp ({s with als:=kd s.als l l.length})=W at *;generalize kd s.als l l.length=H at *;refine dw Tryz.func54 ?_;repeat' ((conv=>whnf);first|refine bc ?_|refine dE (by assumption) ?_| (refine be ?_ ?_<;>intro h)|refine And.intro (by kernel_rfl) ?_|refine .inl ⟨_,_,aD _,az,?_⟩|refine .inl ⟨_,_,aD _,aG,?_⟩|refine And.intro (fun(ax:decide _=true)=> ?_) (fun(ax:decide _=false)=>(dA ax).elim)|refine .inr ⟨[0,1,2,3],_,_,_,_,_,a7,by rfl,⟨.r,.r,.r,.r,trivial⟩,⟨.r,trivial⟩,?_⟩|refine .inr ⟨[0,1,2,3],_,_,_,_,_,b5 (by assumption),by rfl,⟨.r,.r,.r,.r,trivial⟩,⟨.r,trivial⟩,?_⟩|fail)
 all_goals(conv=>whnf)
 ·have ae:W.2=false:=by rw[cy]at h;simpa using h
  rw[ae];exact⟨.r,⟨.r,.r,.r,.r,ft ⟨.r,.aW,.aW,.aW,trivial⟩,trivial⟩,by rfl⟩
 ·have ae:W.2=true:=by rw[cy]at h;simpa using h
  rw[ae];exact⟨.r,⟨.r,.r,.r,.r,ft ⟨.r,.aW,.aW,.aW,trivial⟩,trivial⟩,by rfl⟩
theorem ahk(s:Mem)(bM:s.status=1)(c7:fe s)(bz:Int)(aX:List dj)(bZ:aX.length<=40000)(m:dx)(bY:rJ m)(ac:m.view=s.view.num)(mR:m.src=bz)(ea:s.view.mem.length<=16)(bx:s.view.mem≠ [])(ao: (e7 s.agr m).2.2=0)(pt: (e7 s.agr m).2.1.length<=1000)(ahl:∀p∈ (e7 s.agr m).2.1,rJ p.m)(aI:pQ ({s with agr:=(e7 s.agr m).1})):
  b0 Tryz.prog 54 (eb s aX) [.aP 0 0,i64 bz,.agg (ie (CX m))] [true,false,false,false] (eb (ff ({s with agr:=(e7 s.agr m).1})) (aX++hG {s with agr:=(e7 s.agr m).1} (e7 s.agr m).2.1)) (.a1 []):=by
 have az:=hp s.view.mem (Nat.le_trans c7.view (by decide)) bz
 have aG:=adA s.agr c7.agr m (by have:=bY.cut.1;omega);have LD:decide (m.view<s.view.num)=false:=decide_eq_false (by omega);have Jm:decide (s.view.num<m.view)=false:=decide_eq_false (by omega);have td: (decide ((3:Int)=3)&&decide (m.src=bz))=true:=by rw[mR];simp
 rw[ao]at aG;have du:=Gw {s with agr:=(e7 s.agr m).1} ea bx (e7 s.agr m).2.1 pt ahl aX (by omega);have cy:decide (s.status=1)=true:=by rw[bM];rfl
 have dA:decide (s.status=1)=false->False:=fun h=>by rw[cy]at h;cases h
 have a7:=uh aI (aX++hG {s with agr:=(e7 s.agr m).1} (e7 s.agr m).2.1);have b5: (decide (s.status=1)&& !(dp ({s with agr:=(e7 s.agr m).1})).2)=true->_:=fun h=>ui aI (by rw[cy]at h;simpa using h) (aX++hG {s with agr:=(e7 s.agr m).1} (e7 s.agr m).2.1);rw[rM (s:={s with agr:=(e7 s.agr m).1}) (by simpa using cy)];generalize dp ({s with agr:=(e7 s.agr m).1})=W at *;generalize hG {s with agr:=(e7 s.agr m).1} (e7 s.agr m).2.1=Q at *;generalize(e7 s.agr m).2.1=P at *;generalize(e7 s.agr m).1=H at *;refine dw Tryz.func54 ?_;repeat' ((conv=>whnf);first|refine bc ?_|refine eC (by assumption) ?_|refine dE (by assumption) ?_| (refine be ?_ ?_<;>intro h)|refine And.intro (by kernel_rfl) ?_|refine And.intro ⟨fun h=>h,fun h=>h⟩ ?_|refine .inl ⟨_,_,aD _,az,?_⟩|refine .inl ⟨_,_,aD _,aG,?_⟩|refine .inr ⟨[0,1,2,3],_,_,_,_,_,du,by rfl,⟨.r,.r,.r,.r,trivial⟩,⟨.r,.r,trivial⟩,?_⟩|refine And.intro (fun(ax:decide _=true)=> ?_) (fun(ax:decide _=false)=>(dA ax).elim)|refine .inr ⟨[0,1,2,3],_,_,_,_,_,a7,by rfl,⟨.r,.r,.r,.r,trivial⟩,⟨.r,trivial⟩,?_⟩|refine .inr ⟨[0,1,2,3],_,_,_,_,_,b5 (by assumption),by rfl,⟨.r,.r,.r,.r,trivial⟩,⟨.r,trivial⟩,?_⟩|fail)
 all_goals(conv=>whnf)
 ·have ae:W.2=false:=by rw[cy]at h;simpa using h
  rw[ae];exact⟨.r,⟨.r,.r,.r,.r,ft ⟨.r,.aW,.aW,.aW,trivial⟩,trivial⟩,by rfl⟩
 ·have ae:W.2=true:=by rw[cy]at h;simpa using h
  rw[ae];exact⟨.r,⟨.r,.r,.r,.r,ft ⟨.r,.aW,.aW,.aW,trivial⟩,trivial⟩,by rfl⟩
theorem ahm(s:Mem)(bM:s.status=1)(c7:fe s)(bz:Int)(aX:List dj)(bZ:aX.length<=80000)(ab:zN s)(cw:bR s.view.mem bz=true)(aI:pQ (s)):
  b0 Tryz.prog 54 (eb s aX) [.aP 0 0,i64 bz,.agg (ie GB)] [true,false,false,false] (eb (ff (s)) (aX++ [sO s bz])) (.a1 []):=by
 have az:=hp s.view.mem (Nat.le_trans c7.view (by decide)) bz
 have aG:=LS s ab aX (by omega) bz
 rw[cw]at az;have cy:decide (s.status=1)=true:=by rw[bM];rfl
 have dA:decide (s.status=1)=false->False:=fun h=>by rw[cy]at h;cases h
 have a7:=uh aI (aX++ [sO s bz]);have b5: (decide (s.status=1)&& !(dp (s)).2)=true->_:=fun h=>ui aI (by rw[cy]at h;simpa using h) (aX++ [sO s bz]);rw[rM (s:=s) (by simpa using cy)];generalize dp (s)=W at *;refine dw Tryz.func54 ?_;repeat' ((conv=>whnf);first|refine bc ?_| (refine be ?_ ?_<;>intro h)|refine .inl ⟨_,_,aD _,az,?_⟩|refine .inr ⟨[0,1,2,3],_,_,_,_,_,aG,by rfl,⟨.r,.r,.r,.r,trivial⟩,⟨.r,.r,trivial⟩,?_⟩|refine And.intro (fun(ax:decide _=true)=> ?_) (fun(ax:decide _=false)=>(dA ax).elim)|refine .inr ⟨[0,1,2,3],_,_,_,_,_,a7,by rfl,⟨.r,.r,.r,.r,trivial⟩,⟨.r,trivial⟩,?_⟩|refine .inr ⟨[0,1,2,3],_,_,_,_,_,b5 (by assumption),by rfl,⟨.r,.r,.r,.r,trivial⟩,⟨.r,trivial⟩,?_⟩|fail)
 all_goals(conv=>whnf)
 ·have ae:W.2=false:=by rw[cy]at h;simpa using h
  rw[ae];exact⟨.r,⟨.r,.r,.r,.r,ft ⟨.r,.aW,.aW,.aW,trivial⟩,trivial⟩,by rfl⟩
 ·have ae:W.2=true:=by rw[cy]at h;simpa using h
  rw[ae];exact⟨.r,⟨.r,.r,.r,.r,ft ⟨.r,.aW,.aW,.aW,trivial⟩,trivial⟩,by rfl⟩
theorem ahn(s:Mem)(bM:s.status=1)(c7:fe s)(bz:Int)(aX:List dj)(bZ:aX.length<=80000)(ab:zN s)(cw:bR s.view.mem bz=false)(aI:pQ (hF s bz)):
  b0 Tryz.prog 54 (eb s aX) [.aP 0 0,i64 bz,.agg (ie GB)] [true,false,false,false] (eb (ff (hF s bz)) (aX++ [sO (hF s bz) bz])) (.a1 []):=by
 have az:=hp s.view.mem (Nat.le_trans c7.view (by decide)) bz
 have aG:=T0 s c7.view (by have:=c7.als;omega) aX bz
 obtain⟨gf,iu,pq,zv⟩:=zS s bz
 have du:=LS (hF s bz) ⟨by rw[iu];exact ab.first,by rw[pq];exact ab.len,by rw[pq];exact ab.aE⟩ aX (by omega) bz
 rw[cw]at az;have cy:decide ((hF s bz).status=1)=true:=by rw[(zS s bz).1,bM];rfl
 have dA:decide ((hF s bz).status=1)=false->False:=fun h=>by rw[cy]at h;cases h
 have a7:=uh aI (aX++ [sO (hF s bz) bz]);have b5: (decide ((hF s bz).status=1)&& !(dp (hF s bz)).2)=true->_:=fun h=>ui aI (by rw[cy]at h;simpa using h) (aX++ [sO (hF s bz) bz]);rw[rM (s:=hF s bz) (by simpa using cy)];generalize dp (hF s bz)=W at *;generalize hF s bz=R at *
 refine dw Tryz.func54 ?_;repeat' ((conv=>whnf);first|refine bc ?_| (refine be ?_ ?_<;>intro h)|refine .inl ⟨_,_,aD _,az,?_⟩|refine .inr ⟨[0,1,2,3],_,_,_,_,_,aG,by rfl,⟨.r,.r,.r,.r,trivial⟩,⟨.r,.r,trivial⟩,?_⟩|refine .inr ⟨[0,1,2,3],_,_,_,_,_,du,by rfl,⟨.r,.r,.r,.r,trivial⟩,⟨.r,.r,trivial⟩,?_⟩|refine And.intro (fun(ax:decide _=true)=> ?_) (fun(ax:decide _=false)=>(dA ax).elim)|refine .inr ⟨[0,1,2,3],_,_,_,_,_,a7,by rfl,⟨.r,.r,.r,.r,trivial⟩,⟨.r,trivial⟩,?_⟩|refine .inr ⟨[0,1,2,3],_,_,_,_,_,b5 (by assumption),by rfl,⟨.r,.r,.r,.r,trivial⟩,⟨.r,trivial⟩,?_⟩|fail)
 all_goals(conv=>whnf)
 ·have ae:W.2=false:=by rw[cy]at h;simpa using h
  rw[ae];exact⟨.r,⟨.r,.r,.r,.r,ft ⟨.r,.aW,.aW,.aW,trivial⟩,trivial⟩,by rfl⟩
 ·have ae:W.2=true:=by rw[cy]at h;simpa using h
  rw[ae];exact⟨.r,⟨.r,.r,.r,.r,ft ⟨.r,.aW,.aW,.aW,trivial⟩,trivial⟩,by rfl⟩
theorem CZ{s:Mem}(h:decide (s.status=1)=false):ff s=s:=by
 unfold ff;rw[h];rfl
theorem aho(s:Mem)(bM:s.status=1)(c7:fe s)(bz:Int)(aX:List dj)(first:aQ)(aE:List (List Int))(bY: (hD first aE).2=true)(al:∀c∈aE,kx c)(aI:pQ (lf s first aE)):
  b0 Tryz.prog 54 (eb s aX) [.aP 0 0,i64 bz,.agg (ie (rH first aE))] [true,false,false,false] (eb (ff (lf s first aE)) aX) (.a1 []):=by
 have az:=hp s.view.mem (Nat.le_trans c7.view (by decide)) bz
 have aG:=agW s c7.hist c7.zI c7.first first aE bY al bM aX
 have a7:=uh aI aX;have b5: (decide ((lf s first aE).status=1)&& !(dp (lf s first aE)).2)=true->_:=fun h=>ui aI (by simp only[Bool.and_eq_true,Bool.not_eq_true']at h;exact h.2) aX;cases cy:decide ((lf s first aE).status=1)
 ·have dA:decide ((lf s first aE).status=1)=true->False:=fun h=>by rw[cy]at h;cases h
  have akU: (decide ((lf s first aE).status=1)&& !false)=false:=by rw[cy];rfl
  rw[CZ cy];clear a7 b5 aI;generalize lf s first aE=H at *
  refine dw Tryz.func54 ?_;repeat' ((conv=>whnf);first|refine bc ?_|refine dE (by assumption) ?_|refine .inl ⟨_,_,aD _,az,?_⟩|refine .inr ⟨[0,1,2,3],_,_,_,_,_,aG,by rfl,⟨.r,.r,.r,.r,trivial⟩,⟨.r,.r,trivial⟩,?_⟩|refine And.intro (fun h=>(dA h).elim) ?_|intro (ax:decide _=false)|fail)
  all_goals(conv=>whnf)
  exact⟨.r,⟨.r,.r,.r,.r,ft ⟨.r,.aW,.aW,.aW,trivial⟩,trivial⟩,by rfl⟩
 ·have dA:decide ((lf s first aE).status=1)=false->False:=fun h=>by rw[cy]at h;cases h
  rw[rM (s:=lf s first aE) (by simpa using cy)];generalize dp (lf s first aE)=W at *;generalize lf s first aE=H at *
  refine dw Tryz.func54 ?_;repeat' ((conv=>whnf);first|refine bc ?_| (refine be ?_ ?_<;>intro h)|refine .inl ⟨_,_,aD _,az,?_⟩|refine .inr ⟨[0,1,2,3],_,_,_,_,_,aG,by rfl,⟨.r,.r,.r,.r,trivial⟩,⟨.r,.r,trivial⟩,?_⟩|refine And.intro (fun(ax:decide _=true)=> ?_) (fun(ax:decide _=false)=>(dA ax).elim)|refine .inr ⟨[0,1,2,3],_,_,_,_,_,a7,by rfl,⟨.r,.r,.r,.r,trivial⟩,⟨.r,trivial⟩,?_⟩|refine .inr ⟨[0,1,2,3],_,_,_,_,_,b5 (by assumption),by rfl,⟨.r,.r,.r,.r,trivial⟩,⟨.r,trivial⟩,?_⟩|fail)
  all_goals(conv=>whnf)
  ·have ae:W.2=false:=by rw[cy]at h;simpa using h
   rw[ae];exact⟨.r,⟨.r,.r,.r,.r,ft ⟨.r,.aW,.aW,.aW,trivial⟩,trivial⟩,by rfl⟩
  ·have ae:W.2=true:=by rw[cy]at h;simpa using h
   rw[ae];exact⟨.r,⟨.r,.r,.r,.r,ft ⟨.r,.aW,.aW,.aW,trivial⟩,trivial⟩,by rfl⟩
theorem ahp(s:Mem)(ag:fe s)(ac:mE s=true)(bM:s.status=1)(bz:Int)(fj:kv bz=true)(bx:bz≠s.self)(f:pN)(W:List Nat)
  (ao:bg Tryz.prog 51 [.agg (bU s),.aq 1 (W.map bo) false] (.a1 [.agg (ie f),.v (.bool true)])) {s':Mem} {GG:List dj}
  (bp:b0 Tryz.prog 54 (TX s) [.aP 0 0,i64 bz,.agg (ie f)] [true,false,false] (eb s' GG) (.a1 [])):
  bg Tryz.prog 23 [.agg (bU s),i64 bz,.aq 1 (W.map bo) false] (.a1 [.agg (bU s'),.aq 2 (GG.map eU) false,i64 0]):=by
 have az:=rG s ag;rw[ac]at az;have aG:=xz bz
 rw[fj]at aG;have b5:=zM s ag;have aa:decide (bz=s.self)=false:=decide_eq_false bx;have aH:decide (s.status=0)=false:=by rw[bM];rfl
 have h1:decide (s.status=1)=true:=by rw[bM];rfl
 have ax: (!true|| !true||decide (bz=s.self))=false:=by rw[aa];rfl
 have gK: (decide (s.status=0)&&decide (f.kind=4))=false:=by rw[aH];rfl
 refine bw Tryz.func23 ?_;repeat' ((conv=>whnf);first|refine bc ?_|refine eC (by assumption) ?_|refine dE (by assumption) ?_|exact .refl|refine And.intro (by kernel_rfl) ?_|refine And.intro ⟨fun h=>h,fun h=>h⟩ ?_|refine .inl ⟨_,_,aD _,az,?_⟩|refine⟨_,_,aD _,fun _=>aG,?_⟩|refine .inl ⟨_,_,aD _,ao,?_⟩|refine .inr ⟨[],[],_,[],_,_,b5,by rfl,trivial,⟨.r,trivial⟩,?_⟩|refine .inr ⟨[5,3,4],_,_,_,_,_,bp,by rfl,⟨.r,.r,.r,trivial⟩,⟨.r,.r,.r,trivial⟩,?_⟩|fail)
theorem ahq(s:Mem)(ag:fe s)(ac:mE s=true)(bM:s.status=0)(bz:Int)(fj:kv bz=true)(bx:bz≠s.self)(first:aQ)(aE:List (List Int))(Ui:bX first=true)(aS:aE.length<=400)(bY: (hD first aE).2=true)(al:∀c∈aE,kx c):
  bg Tryz.prog 23 [.agg (bU s),i64 bz,.aq 1 ((o2 first aE).map bo) false] (.a1 [.agg (bU (xK s first aE)),.aq 2 (([]:List dj).map eU) false,i64 0]):=by
 have az:=rG s ag;rw[ac]at az;have aG:=xz bz
 rw[fj]at aG;have a7:=CD s first aE Ui aS al bY
 have b5:=zM s ag;have du:=LO s (agV s first aE bY al bM []);have aa:decide (bz=s.self)=false:=decide_eq_false bx;have aH:decide (s.status=0)=true:=by rw[bM];rfl
 have ax: (!true|| !true||decide (bz=s.self))=false:=by rw[aa];rfl
 have gK: (decide (s.status=0)&&decide ((4:Int)=4))=true:=by rw[aH];rfl
 generalize xK s first aE=H at *
 generalize o2 first aE=W at *
 refine bw Tryz.func23 ?_;repeat' ((conv=>whnf);first|refine bc ?_|refine eC (by assumption) ?_|refine dE (by assumption) ?_|exact .refl|refine And.intro (by kernel_rfl) ?_|refine And.intro ⟨fun h=>h,fun h=>h⟩ ?_|refine .inl ⟨_,_,aD _,az,?_⟩|refine⟨_,_,aD _,fun _=>aG,?_⟩|refine .inl ⟨_,_,aD _,a7,?_⟩|refine .inr ⟨[],[],_,[],_,_,b5,by rfl,trivial,⟨.r,trivial⟩,?_⟩|refine .inr ⟨[5,3,4],_,_,_,_,_,du,by rfl,⟨.r,.r,.r,trivial⟩,⟨.r,.r,trivial⟩,?_⟩|fail)
theorem ahr(s:Mem)(ag:fe s)(ac:mE s=true)(bM:s.status≠1)(bz:Int)(fj:kv bz=true)(bx:bz≠s.self)(f:pN)(W:List Nat)(hk:s.status=0->f.kind≠4)
  (ao:bg Tryz.prog 51 [.agg (bU s),.aq 1 (W.map bo) false] (.a1 [.agg (ie f),.v (.bool true)])):
  bg Tryz.prog 23 [.agg (bU s),i64 bz,.aq 1 (W.map bo) false] (.a1 [.agg (bU s),.aq 2 (([]:List dj).map eU) false,i64 0]):=by
 have az:=rG s ag;rw[ac]at az;have aG:=xz bz
 rw[fj]at aG;have b5:=zM s ag;have aa:decide (bz=s.self)=false:=decide_eq_false bx;have h1:decide (s.status=1)=false:=decide_eq_false bM;have ax: (!true|| !true||decide (bz=s.self))=false:=by rw[aa];rfl
 have gK: (decide (s.status=0)&&decide (f.kind=4))=false:=by
  by_cases h:s.status=0
  ·rw[decide_eq_false (hk h),Bool.and_false]
  ·rw[decide_eq_false h,Bool.false_and]
 refine bw Tryz.func23 ?_;repeat' ((conv=>whnf);first|refine bc ?_|refine dE (by assumption) ?_|refine And.intro (by kernel_rfl) ?_|refine And.intro ⟨fun h=>h,fun h=>h⟩ ?_|refine .inl ⟨_,_,aD _,az,?_⟩|refine⟨_,_,aD _,fun _=>aG,?_⟩|refine .inl ⟨_,_,aD _,ao,?_⟩|refine .inr ⟨[],[],_,[],_,_,b5,by rfl,trivial,⟨.r,trivial⟩,?_⟩|fail)
 all_goals(conv=>whnf)
 all_goals exact dI ⟨.r,.ar,.r,trivial⟩
theorem Ut(l:List Nat)(af:l.length<=900000)(v:Nat)(ac:v<18446744073709551616):b0 Tryz.prog 99 [] [.aq 1 (l.map bo) false,u64 v] [] [.row 5 1 ((l++bn v).map bo)] (.own 0):=by
 have m1:=J0 l (by omega);have m2:=zi l (by omega) v ac;refine dw Tryz.func99 ?_;repeat' ((conv=>whnf);first|refine .inr ⟨[],[],_,[],_,_,m1,by rfl,trivial,⟨.r,.r,trivial⟩,?_⟩|refine .inr ⟨[0],_,_,_,_,_,m2,by rfl,⟨.r,trivial⟩,⟨.r,.r,trivial⟩,?_⟩|fail)
 all_goals(conv=>whnf)
 exact⟨.r,⟨.r,trivial⟩,by rfl⟩
def iW(s:Mem)(l:List ca):Nat->Mem
 |0=>s
 |i+1=>lb (iW s l i) (l.getD i eu)
def lE(s:Mem)(l:List ca):Mem:=iW s l l.length
theorem vN(s:Mem)(l:List ca):∀i,(iW s l i).view=s.view/\(iW s l i).self=s.self/\(iW s l i).hist=s.hist/\(iW s l i).dbts=s.dbts/\(iW s l i).agr=s.agr/\(iW s l i).status=s.status/\(iW s l i).first=s.first/\(iW s l i).bk=s.bk/\(iW s l i).cont=s.cont/\(iW s l i).als.length<=s.als.length+i
 |0=>⟨rfl,rfl,rfl,rfl,rfl,rfl,rfl,rfl,rfl,Nat.le_refl _⟩
 |i+1=>by
  have aN:=vN s l i;have h:=Gt (iW s l i) (l.getD i eu);have af:=TY (iW s l i) (l.getD i eu);exact⟨h.1.trans aN.1,h.2.1.trans aN.2.1,h.2.2.1.trans aN.2.2.1,h.2.2.2.2.2.2.2.1.trans aN.2.2.2.1,h.2.2.2.2.2.2.2.2.trans aN.2.2.2.2.1,h.2.2.2.2.1.trans aN.2.2.2.2.2.1,h.2.2.2.1.trans aN.2.2.2.2.2.2.1,h.2.2.2.2.2.2.1.trans aN.2.2.2.2.2.2.2.1,h.2.2.2.2.2.1.trans aN.2.2.2.2.2.2.2.2.1,by unfold iW;omega⟩
def cz(s:Mem):Mem:=o8 (lE {s with bk:=(cJ s.bk).1} (cJ s.bk).2)
def ec(s:Mem):Mem×List dj:=
 bif decide ((s.agr.prop.length:Int)=0)then
  bif (ey s.view s.als).2 then
   bif decide ((ew s.agr (ey s.view s.als).1).2.2=0)then({s with agr:=(ew s.agr (ey s.view s.als).1).1},hG {s with agr:=(ew s.agr (ey s.view s.als).1).1} (ew s.agr (ey s.view s.als).1).2.1)
   else(s,[])
  else(s,[])
 else(s,[])
def hi(s:Mem):Mem×List dj:=({s with agr:=(ej s.agr).1},hG {s with agr:=(ej s.agr).1} (ej s.agr).2)
def xL(s:Mem)(m:Int):dj:=⟨m,GD s.view.num s.als⟩
def xM(s:Mem):List dj:=(iD (dq s.view.mem s.self)).map (ig s.view.num)++bif decide (0<(s.als.length:Int))then(o6 s).map (xL s)else []
def nh(s:Mem):Mem×List dj:=
 bif (dp (hi (ec (cz s)).1).1).2 then((dp (hi (ec (cz s)).1).1).1,(ec (cz s)).2++(hi (ec (cz s)).1).2)
 else((dp (hi (ec (cz s)).1).1).1,(ec (cz s)).2++(hi (ec (cz s)).1).2++xM (dp (hi (ec (cz s)).1).1).1)
theorem ahs(s:Mem)(l:List Int)(i:Nat): (ji s l i).agr=s.agr/\(ji s l i).status=s.status/\(ji s l i).first=s.first:=by
 induction i with
 |zero=>exact⟨rfl,rfl,rfl⟩
 |succ i aN=>
  have h:=zS (ji s l i) (l.getD i 0);exact⟨h.2.2.2.trans aN.1,h.1.trans aN.2.1,h.2.1.trans aN.2.2⟩
theorem Uu(s:Mem): (o8 s).view=s.view/\(o8 s).self=s.self/\(o8 s).hist=s.hist/\(o8 s).agr=s.agr/\(o8 s).status=s.status/\(o8 s).first=s.first:=by
 unfold o8 sP;simp only[];have h:=CR {s with dbts:=iF s.self s.dbts (ek s.view s.als false)} (hy s.self s.dbts (ek s.view s.als false)) (hy s.self s.dbts (ek s.view s.als false)).length;have ad:=ahs {s with dbts:=iF s.self s.dbts (ek s.view s.als false)} (hy s.self s.dbts (ek s.view s.als false)) (hy s.self s.dbts (ek s.view s.als false)).length;exact⟨h.1,h.2.1,h.2.2.1,ad.1,ad.2.1,ad.2.2⟩
theorem zT(s:Mem): (cz s).view=s.view/\(cz s).self=s.self/\(cz s).hist=s.hist/\(cz s).agr=s.agr/\(cz s).status=s.status/\(cz s).first=s.first:=by
 have h:=Uu (lE {s with bk:=(cJ s.bk).1} (cJ s.bk).2);have ad:=vN {s with bk:=(cJ s.bk).1} (cJ s.bk).2 (cJ s.bk).2.length;exact⟨h.1.trans ad.1,h.2.1.trans ad.2.1,h.2.2.1.trans ad.2.2.1,h.2.2.2.1.trans ad.2.2.2.2.1,h.2.2.2.2.1.trans ad.2.2.2.2.2.1,h.2.2.2.2.2.trans ad.2.2.2.2.2.2.1⟩
theorem C0(s:Mem): (ec s).1.view=s.view/\(ec s).1.self=s.self/\(ec s).1.hist=s.hist/\(ec s).1.als=s.als/\(ec s).1.status=s.status/\(ec s).1.first=s.first/\(ec s).1.dbts=s.dbts:=by
 unfold ec;cases decide ((s.agr.prop.length:Int)=0)<;>cases (ey s.view s.als).2<;>cases decide ((ew s.agr (ey s.view s.als).1).2.2=0)<;>exact⟨rfl,rfl,rfl,rfl,rfl,rfl,rfl⟩
structure GH(s:Mem):Prop where
 km:fe s
 v:bX s.view=true
 akV: (lE {s with bk:=(cJ s.bk).1} (cJ s.bk).2).als.length<=6000
 ep:∀d∈s.dbts,0<=d.ep/\d.ep<=1000
 akW: (cz s).als.length<=6000
 akX:dU (cz s).view (cz s).als=true
 cc: (ew (cz s).agr (ey (cz s).view (cz s).als).1).2.1.length<=1000/\∀p∈ (ew (cz s).agr (ey (cz s).view (cz s).als).1).2.1,rJ p.m
 akY:dt (ec (cz s)).1.agr
 aht: (ej (ec (cz s)).1.agr).2.length<=1000/\∀p∈ (ej (ec (cz s)).1.agr).2,rJ p.m
 dec: (ej (ec (cz s)).1.agr).1.dec.length<=1000
 akZ: (ey (cz s).view (cz s).als).1.length<=1000
theorem Uv(v:aQ):∀ (n:Nat) (l:List Int),(qN v n l).1.length<=l.length
 |0,l=>by simp[qN]
 |n+1,l=>by
  rw[qN];cases decide ((eQ v l).2=0)
  ·cases (!decide ((eQ v l).2=5)||decide (((fA v l).length:Int)=0))
   ·have:=Uv v n (l.take (ks l ((fA v l).getD ((fA v l).length-1) 0)).toNat++l.drop ((ks l ((fA v l).getD ((fA v l).length-1) 0)).toNat+1));simp only[cond_false];refine Nat.le_trans this ?_;rw[List.length_append,List.length_take,List.length_drop];omega
   ·simp
  ·exact Nat.le_refl _
theorem ahu(v:aQ)(l:List Int): (Gd v l).1.length<=l.length:=Uv v _ l
theorem ahv(k:Nat)(fT:1<=k)(hk:k<=255)(b:List Nat)(ae:b.length<=800000):b0 Tryz.prog 92 [.row 5 1 (b.map bo)] [i64 k,.own 0] [true] [.row 5 1 (b.map bo),.bd,.bd,.row 5 1 ((dm k b).map bo)] (.a1 [.own 3,i64 0]):=by
 have tP:=J7 hk;have dR: [[aj.v (.int .u8 65)],[aj.v (.int .u8 71)],[aj.v (.int .u8 (IntKind.u8.wrap (k:Int)))]]=List.map bo [65,71,k]:=by rw[tP];rfl
 have m1:=Fp [65,71,k] (by simp) (b.length+8) (by omega);have m2:=zi [65,71,k] (by simp) b.length (by omega);have gi: (bn b.length).length<=10:=fM 9 b.length;have BP: [65,71,k]++bn b.length++b=fB k b:=rfl;have hH: (fB k b).length<=900000:=by
  unfold fB;simp only[List.length_append,List.length_cons,List.length_nil];omega
 have a7:=J5 (fB k b) (by omega);have qz:=Rc (fB k b) (by omega) (oU (fB k b));have hw:IntKind.i64.wrap (((b.map bo).length:Int)+8)=((b.length+8:Nat):Int):=by
  rw[List.length_map,dC (by omega) (by omega)];omega
 have hu:IntKind.u64.wrap ((b.map bo).length:Int)=((b.length:Nat):Int):=by
  rw[List.length_map];exact h8 (by omega) (by omega)
 have BQ: (decide ((k:Int)<1)||decide ((255:Int)<k)||decide ((16777216:Int)<((b.map bo).length:Int)))=false:=by
  rw[decide_eq_false (by omega),decide_eq_false (by omega),List.length_map,decide_eq_false (by omega)];rfl
 have vj: ([65,71,k]++bn b.length).map bo++b.map bo=(fB k b).map bo:=by
  rw[<-BP,List.map_append (l₁:=[65,71,k]++bn b.length)]
 refine dw Tryz.func92 ?_;repeat' ((conv=>whnf);first|refine bc ?_|refine dE (by assumption) ?_|refine .inr ⟨[],[],_,[],_,_,m1,by rfl,trivial,⟨hT dR,aV hw,trivial⟩,?_⟩|refine .inr ⟨[3],_,_,_,_,_,m2,by rfl,⟨.r,trivial⟩,⟨.r,aV hu,trivial⟩,?_⟩|refine And.intro (oS (by simp<;>omega)) ?_|refine .inl ⟨[.aq 1 ((fB k b).map bo) false],_,⟨hT vj,trivial⟩,a7,?_⟩|refine .inr ⟨[3],_,_,_,_,_,qz,by rfl,⟨ch vj,trivial⟩,⟨.r,.r,trivial⟩,?_⟩|fail)
 all_goals(conv=>whnf)
 exact⟨.r,⟨.r,.r,.bd,.r,trivial⟩,by rfl⟩
theorem GI(s:Mem)(aX:List dj)(l6:aX.length<=100000)(cZ:Int)(k:Nat)(fT:1<=k)(hk:k<=255)(b:List Nat)(ae:b.length<=800000):
  b0 Tryz.prog 55 (eb s aX++ [.row 5 1 (b.map bo)]) [.aP 0 0,i64 cZ,i64 k,.own 4] [true,true,true,false,true] (eb s (aX++ [dj.mk cZ (dm k b)])++ [.row 5 1 (b.map bo)]) (.a1 []):=by
 have az:=ahv k fT hk b ae;generalize dm k b=W at *;refine dw Tryz.func55 ?_;repeat' ((conv=>whnf);first|refine .inr ⟨[4],_,_,_,_,_,az,by rfl,⟨.r,trivial⟩,⟨.r,.r,trivial⟩,?_⟩|refine And.intro (Lw (by simp<;>omega)) ?_|fail)
 all_goals(conv=>whnf)
 refine⟨.r,⟨.r,.r,.r,ch ?_,.r,ft ⟨.r,.r,.r,.aW,.r,trivial⟩,trivial⟩,by rfl⟩;rw[List.map_append];rfl
theorem Uw(d:h9): (cJ d).2.length<=d.bS.length:=by
 unfold cJ;cases (!mY d)
 ·exact Q0 d _
 ·exact Nat.zero_le _
theorem Ux(s:Mem)(af: (ew s.agr (ey s.view s.als).1).2.1.length<=1000)(ea:s.view.mem.length<=16): (ec s).2.length<=16000:=by
 have h:=CP {s with agr:=(ew s.agr (ey s.view s.als).1).1} ea (ew s.agr (ey s.view s.als).1).2.1;unfold ec;cases decide ((s.agr.prop.length:Int)=0)<;>cases (ey s.view s.als).2<;>cases decide ((ew s.agr (ey s.view s.als).1).2.2=0)<;>simp only[cond_true,cond_false,List.length_nil]<;>omega
theorem Uy(s:Mem)(h:GH s)(l2:decide (((cz s).agr.prop.length:Int)=0)=false\/(decide (((cz s).agr.prop.length:Int)=0)=true/\(ey (cz s).view (cz s).als).2=false)):b0 Tryz.prog 56 (eb s []) [.aP 0 0] [true,false,false,false] (eb (nh s).1 (nh s).2) (.a1 []):=by
 obtain⟨c7,me,C1,Mb,Mc,Md,⟨dk,Me⟩,C2,⟨kp,xJ⟩,pO,Uz⟩:=h;have ea:=kM me;have bx:s.view.mem≠ []:=fun e=>by have:=(CA (lB me).2.2).1;rw[e]at this;simp at this
 obtain⟨t1,t2,t3,t4,t5,t6⟩:=zT s;have az:=JS s.bk (Nat.le_trans c7.pM (by decide)) (Nat.le_trans c7.bS (by decide)) c7.Gg;have rl:=vN {s with bk:=(cJ s.bk).1} (cJ s.bk).2;have xN:=rl (cJ s.bk).2.length;have k9:iW {s with bk:=(cJ s.bk).1} (cJ s.bk).2 0= {s with bk:=(cJ s.bk).1}:=rfl;have ri:∀i,iW {s with bk:=(cJ s.bk).1} (cJ s.bk).2 (i+1)=lb (iW {s with bk:=(cJ s.bk).1} (cJ s.bk).2 i) ((cJ s.bk).2.getD i eu):=fun _=>rfl;have Jv:=Uw s.bk;have a7:=T9 (lE {s with bk:=(cJ s.bk).1} (cJ s.bk).2) (by unfold lE;rw[xN.1];exact c7.view) C1 (by unfold lE;rw[xN.2.2.2.1];exact c7.dbts) (by unfold lE;rw[xN.2.2.2.1];exact Mb) [];have C3:lE {s with bk:=(cJ s.bk).1} (cJ s.bk).2=iW {s with bk:=(cJ s.bk).1} (cJ s.bk).2 (cJ s.bk).2.length:=rfl;change b0 _ _ _ _ _ (eb (cz s) []) _ at a7;rw[C3]at a7;have C4:nh s=bif (dp (hi (ec (cz s)).1).1).2 then((dp (hi (ec (cz s)).1).1).1,(ec (cz s)).2++(hi (ec (cz s)).1).2)
  else((dp (hi (ec (cz s)).1).1).1,(ec (cz s)).2++(hi (ec (cz s)).1).2++xM (dp (hi (ec (cz s)).1).1).1):=rfl
 rw[C4];clear C4 C3 C1;have ahw:=c7.bS;generalize cz s=S3 at *;generalize iW {s with bk:=(cJ s.bk).1} (cJ s.bk).2=X at *;generalize cJ s.bk=mf at *;have kX:=C0 S3;have Mf:=Ux S3 dk (by rw[t1];exact ea.2);generalize gj:ec S3=P at *;obtain⟨S4,xO⟩:=P;simp only[]at kX Mf C2 kp xJ pO;obtain⟨hP,ir,vz,vO,GJ,Mg,GK⟩:=kX;have v4:S4.view=s.view:=hP.trans t1;have iU:=Sn S4.agr C2;have fx:hi S4=({S4 with agr:=(ej S4.agr).1},hG {S4 with agr:=(ej S4.agr).1} (ej S4.agr).2):=rfl;have ahx:=CP {S4 with agr:=(ej S4.agr).1} (by show S4.view.mem.length<=16;rw[v4];exact ea.2) (ej S4.agr).2;have kw:=Gw {S4 with agr:=(ej S4.agr).1} (by show S4.view.mem.length<=16;rw[v4];exact ea.2) (by show S4.view.mem≠ [];rw[v4];exact bx) (ej S4.agr).2 kp xJ xO (by omega);have qP:=LY {S4 with agr:=(ej S4.agr).1} (by show S4.view.mem.length<=1000;rw[v4];omega) (by show S4.hist.length<=1000;rw[vz,t3];exact c7.hist) pO (xO++hG {S4 with agr:=(ej S4.agr).1} (ej S4.agr).2);have rk:=fun ae=>L7 (s:={S4 with agr:=(ej S4.agr).1}) ae;simp only[fx];simp only[fx]at kw qP rk;clear fx;generalize hG {S4 with agr:=(ej S4.agr).1} (ej S4.agr).2=C5 at *;generalize dp {S4 with agr:=(ej S4.agr).1}=W at *;generalize ej S4.agr=ahy at *;have GL:ec S3=(S3,[]):=by
  rcases l2 with au| ⟨au,k3⟩
  ·rw[ec,au];rfl
  ·rw[ec,au,k3];rfl
 rw[GL]at gj;cases gj;have l2:decide (((S3.agr.prop.map aM).length:Int)=0)=false\/(decide (((S3.agr.prop.map aM).length:Int)=0)=true/\(ey S3.view S3.als).2=false):=by rw[List.length_map];exact l2
 have l1:=Ln S3.view (by rw[t1];omega) S3.als (by omega);generalize ey S3.view S3.als=ahz at *;refine hd Tryz.func56 ?_;repeat' ((conv=>whnf);first|refine .inl ⟨_,_,aD _,az,?_⟩|fail)
 all_goals(conv=>whnf)
 refine⟨Nat,fun i=>⟨[(0,.aP 0 0),(34,.aq 4 (mf.2.map dr) false),(35,i64 mf.2.length),(36,i64 i)],[.cells 116 (gR (X i) (.own 1) (.own 2) (.own 3)),.row 22 1 (((X i)).hist.map cB),.row 150 2 (((X i)).dbts.map db),.row 121 2 ((([]:List dj)).map eU),.b6 [.aP 0 0,.own 1,.own 2,.own 3],.bd]⟩,fun i=>i<=mf.2.length,fun i=>mf.2.length-i,[],⟨0,Nat.zero_le _,?_⟩,?_⟩
 ·conv=>whnf
  exact⟨⟨.r,.r,aV (by simp),.r,trivial⟩,⟨by show fF _ (.cells _ (gR (X 0) (.own 1) (.own 2) (.own 3)));rw[k9];exact .refl,by show fF _ (.row _ _ ((X 0).hist.map cB));rw[k9];exact .refl,by show fF _ (.row _ _ ((X 0).dbts.map db));rw[k9];exact .refl,.r,.r,.bd,trivial⟩,by rfl⟩
 ·intro i ab;obtain⟨dl,_,_,_,_,_,_,_,_,a2⟩:=rl i;simp only[]at dl a2;repeat' ((conv=>whnf);first| (refine be ?_ ?_<;>intro h)|fail)
  ·have ap:i<mf.2.length:=by simpa using h
   clear h;have aG:=LP (X i) (by rw[dl];exact c7.view) (by have:=c7.als;omega) [] mf.2[i];have ax:mf.2.getD i eu=mf.2[i]:=by simp[ap]
   have kY:=ri i;rw[ax]at kY;rw[<-kY]at aG;repeat' ((conv=>whnf);first|refine⟨_,_,And.intro ⟨rfl,cE ap⟩ ?_⟩|refine .inr ⟨[0,1,2,3],_,_,_,_,_,aG,by rfl,⟨.r,.r,.r,.r,trivial⟩,⟨.r,.r,trivial⟩,?_⟩|fail)
   all_goals(conv=>whnf)
   refine⟨i+1,ap,by simp only[];omega,?_⟩;conv=>whnf
   exact⟨⟨.r,.r,.r,aV (bH (by omega)),trivial⟩,⟨.r,.r,.r,.r,.r,.bd,trivial⟩,by rfl⟩
  ·have:i=mf.2.length:=by
    simp at h;omega
   subst this;clear h;rcases l2 with ta| ⟨ta,k3⟩;all_goals repeat' ((conv=>whnf);first|refine eC (by assumption) ?_|refine dE (by assumption) ?_| (refine be ?_ ?_<;>intro h)|refine And.intro (by kernel_rfl) ?_|refine .inr ⟨[0,1,2,3],_,_,_,_,_,a7,by rfl,⟨.r,.r,.r,.r,trivial⟩,⟨.r,trivial⟩,?_⟩|refine .inl ⟨_,_,aD _,l1,?_⟩|refine .inl ⟨_,_,aD _,iU,?_⟩|refine .inr ⟨[0,1,2,3],_,_,_,_,_,kw,by rfl,⟨.r,.r,.r,.r,trivial⟩,⟨.r,.r,trivial⟩,?_⟩|refine .inr ⟨[0,1,2,3],_,_,_,_,_,qP,by rfl,⟨.r,.r,.r,.r,trivial⟩,⟨.r,trivial⟩,?_⟩|fail)
   all_goals(conv=>whnf)
   all_goals rw[h]
   all_goals first
    | (refine⟨[],?_⟩<;> (conv=>whnf)<;>exact⟨.r,⟨.r,.r,.r,.r,ft ⟨.r,.aW,.aW,.aW,trivial⟩,trivial⟩,by rfl⟩)
    |skip
   all_goals
    obtain⟨eJ,kr,_,ahA,ahB,ahC,_⟩:=rk h;have eJ:W.1.view=s.view:=eJ.trans v4;generalize W.1=S6 at *;clear az iU kw qP rl k9 ri;obtain⟨jM,j4,rL⟩:=lB me;have gi: (bn S6.view.num.toNat).length<=10:=fM 9 _;have hu:=xw (n:=S6.view.num) (by rw[eJ];exact jM) (by rw[eJ];exact j4);have sK:=Ut [] (by simp) S6.view.num.toNat (by rw[eJ];omega);rw[List.nil_append]at sK;have zK:=Lx S6.view.mem (by rw[eJ];exact Nat.le_trans ea.2 (by decide)) S6.self;have j6:=vf S6.view.mem S6.self;have rr: (iD (dq S6.view.mem S6.self)).length<=5:=Nat.le_trans (zE _) j6;have al:iD (dq S6.view.mem S6.self)=Go.Lib.compact (mW (dq S6.view.mem S6.self)):=rfl;have w9:xM S6=(iD (dq S6.view.mem S6.self)).map (ig S6.view.num)++bif decide (0<(S6.als.length:Int))then(o6 S6).map (xL S6)else []:=rfl;generalize dq S6.view.mem S6.self=O at *;have xH:=F7 O (mW O) (sG _) (zD _) (by omega);have eE:=F8 (mW O) (by rw[(sG _).length_eq];omega);rw[<-al]at eE;rw[w9];clear w9 al;generalize iD O=C at *;generalize fz: (_++C5)=Q at *;have ahD:Q.length<=40000:=by rw[<-fz,List.length_append]; (try simp only[List.length_nil]at *);omega
    repeat' ((conv=>whnf);first|refine And.intro (by kernel_rfl) ?_|refine .inr ⟨[],[],_,[],_,_,sK,by rfl,trivial,⟨.ar,aV hu,trivial⟩,?_⟩|refine .inr ⟨[],[],_,[],_,_,zK,by rfl,trivial,⟨.r,.r,trivial⟩,?_⟩|refine .inr ⟨[8],_,_,_,_,_,xH,by rfl,⟨.r,trivial⟩,⟨.r,trivial⟩,?_⟩|refine .inr ⟨[9],_,_,_,_,_,xH,by rfl,⟨.r,trivial⟩,⟨.r,trivial⟩,?_⟩|refine .inr ⟨[8],_,_,_,_,_,eE,by rfl,⟨.r,trivial⟩,⟨.r,trivial⟩,?_⟩|refine .inr ⟨[9],_,_,_,_,_,eE,by rfl,⟨.r,trivial⟩,⟨.r,trivial⟩,?_⟩|fail)
    all_goals(conv=>whnf)
    have Mh:=fun(P:List dj) (gj:P.length<=100000) (cZ:Int)=>GI S6 P gj cZ 1 (by omega) (by omega) (bn S6.view.num.toNat) (by omega);first
     | (refine⟨Nat,fun i=>⟨[(0,.aP 0 0),(13,.own 5),(132,.own 6),(133,i64 C.length),(134,i64 i)],[.cells 116 (gR S6 (.own 1) (.own 2) (.own 3)),.row 22 1 ((S6).hist.map cB),.row 150 2 ((S6).dbts.map db),.row 121 2 ((Q++(C.take i).map (ig S6.view.num)).map eU),.b6 [.aP 0 0,.aW,.aW,.aW],.row 5 1 ((bn S6.view.num.toNat).map bo),.row 3 1 (C.map aM)]⟩,fun i=>i<=C.length,fun i=>C.length-i,[.dQ 5 7,.dQ 6 8],⟨0,Nat.zero_le _,?_⟩,?_⟩
        focus ((conv=>whnf)<;>exact⟨⟨.r,.r,.r,aV (by simp),.r,trivial⟩,⟨.r,.r,.r,ch (by simp[<-fz]),ft ⟨.r,.aW,.aW,.aW,trivial⟩,.r,.r,trivial⟩,by rfl⟩))
     | (refine⟨Nat,fun i=>⟨[(0,.aP 0 0),(13,.own 5),(132,.own 6),(133,i64 C.length),(134,i64 i)],[.cells 116 (gR S6 (.own 1) (.own 2) (.own 3)),.row 22 1 ((S6).hist.map cB),.row 150 2 ((S6).dbts.map db),.row 121 2 ((Q++(C.take i).map (ig S6.view.num)).map eU),.b6 [.aP 0 0,.aW,.aW,.aW],.row 5 1 ((bn S6.view.num.toNat).map bo),.row 3 1 (C.map aM)]⟩,fun i=>i<=C.length,fun i=>C.length-i,[.dQ 5 8,.dQ 6 9],⟨0,Nat.zero_le _,?_⟩,?_⟩
        focus ((conv=>whnf)<;>exact⟨⟨.r,.r,.r,aV (by simp),.r,trivial⟩,⟨.r,.r,.r,ch (by simp[<-fz]),ft ⟨.r,.aW,.aW,.aW,trivial⟩,.r,.r,trivial⟩,by rfl⟩))
     | (refine⟨Nat,fun i=>⟨[(0,.aP 0 0),(13,.own 5),(132,.own 6),(133,i64 C.length),(134,i64 i)],[.cells 116 (gR S6 (.own 1) (.own 2) (.own 3)),.row 22 1 ((S6).hist.map cB),.row 150 2 ((S6).dbts.map db),.row 121 2 ((Q++(C.take i).map (ig S6.view.num)).map eU),.b6 [.aP 0 0,.aW,.aW,.aW],.row 5 1 ((bn S6.view.num.toNat).map bo),.row 3 1 (C.map aM)]⟩,fun i=>i<=C.length,fun i=>C.length-i,[.dQ 5 9,.dQ 6 10],⟨0,Nat.zero_le _,?_⟩,?_⟩
        focus ((conv=>whnf)<;>exact⟨⟨.r,.r,.r,aV (by simp),.r,trivial⟩,⟨.r,.r,.r,ch (by simp[<-fz]),ft ⟨.r,.aW,.aW,.aW,trivial⟩,.r,.r,trivial⟩,by rfl⟩))
     | (refine⟨Nat,fun i=>⟨[(0,.aP 0 0),(13,.own 5),(132,.own 6),(133,i64 C.length),(134,i64 i)],[.cells 116 (gR S6 (.own 1) (.own 2) (.own 3)),.row 22 1 ((S6).hist.map cB),.row 150 2 ((S6).dbts.map db),.row 121 2 ((Q++(C.take i).map (ig S6.view.num)).map eU),.b6 [.aP 0 0,.aW,.aW,.aW],.row 5 1 ((bn S6.view.num.toNat).map bo),.row 3 1 (C.map aM)]⟩,fun i=>i<=C.length,fun i=>C.length-i,[.dQ 5 10,.dQ 6 11],⟨0,Nat.zero_le _,?_⟩,?_⟩
        focus ((conv=>whnf)<;>exact⟨⟨.r,.r,.r,aV (by simp),.r,trivial⟩,⟨.r,.r,.r,ch (by simp[<-fz]),ft ⟨.r,.aW,.aW,.aW,trivial⟩,.r,.r,trivial⟩,by rfl⟩))
    ·intro i ab;repeat' ((conv=>whnf);first| (refine be ?_ ?_<;>intro h)|fail)
     ·have ap:i<C.length:=by simpa using h
      clear h;have hs:=Mh (Q++(C.take i).map (ig S6.view.num)) (by rw[List.length_append,List.length_map,List.length_take];omega) C[i];have gF:Q++(C.take i).map (ig S6.view.num)++ [dj.mk C[i] (dm 1 (bn S6.view.num.toNat))]=Q++(C.take (i+1)).map (ig S6.view.num):=by
       rw[List.take_succ_eq_append_getElem ap,List.map_append,List.append_assoc];rfl
      rw[gF]at hs;have eY:i<(C.map aM).length:=by rw[List.length_map];exact ap
      have b7: (C.map aM)[i]?=some (aM C[i]):=cE ap;repeat' ((conv=>whnf);first|refine⟨i,And.intro ⟨rfl,eY⟩ ?_⟩|refine⟨aM C[i],And.intro b7 ?_⟩|refine .inr ⟨[0,1,2,3,5],_,_,_,_,_,hs,by rfl,⟨.r,.r,.r,.r,.r,trivial⟩,⟨.r,.r,.r,.r,trivial⟩,?_⟩|fail)
      all_goals(conv=>whnf)
      refine⟨i+1,ap,by simp only[];omega,?_⟩;conv=>whnf
      exact⟨⟨.r,.r,.r,.r,aV (bH (by omega)),trivial⟩,⟨.r,.r,.r,.r,.r,.r,.r,trivial⟩,by rfl⟩
     ·rename_i aH;have:i=C.length:=by
       simp at aH;omega
      subst this;clear aH;rw[List.take_length];rw[List.length_map]at h;rw[h];have Mi:dU S6.view S6.als=true:=by rw[kr,vO,eJ,<-t1];exact Md
      have h7:S6.als.length<=6000:=by rw[kr,vO];exact Mc
      have lQ:=L6 (v:=S6.view) (l:=S6.als) S6.als.length;have C6:=Rp S6.view (by rw[eJ];exact Nat.le_trans ea.2 (by decide)) S6.als (by omega);rw[Un Mi]at C6;have Mj:=LQ S6 (by rw[eJ];omega) (by rw[eJ];exact bx) (Q++C.map (ig S6.view.num));have Mk: ((bn S6.view.num.toNat).map bo).length+((eo S6.als S6.als.length).map bo).length<=2000000:=by rw[List.length_map,List.length_map];omega
      have iO: (bn S6.view.num.toNat++eo S6.als S6.als.length).length<=800000:=by rw[List.length_append];omega
      have zw: (bn S6.view.num.toNat).map bo++(eo S6.als S6.als.length).map bo=(bn S6.view.num.toNat++eo S6.als S6.als.length).map bo:=by rw[List.map_append]
      have C7:=fun(P:List dj) (gj:P.length<=100000) (cZ:Int)=>GI S6 P gj cZ 2 (by omega) (by omega) (bn S6.view.num.toNat++eo S6.als S6.als.length) iO;have Ml:∀m:Int,dj.mk m (dm 2 (bn S6.view.num.toNat++eo S6.als S6.als.length))=xL S6 m:=fun _=>rfl;have ahE: (o6 S6).length<=16:=Gv S6 (by rw[eJ];exact ea.2);simp only[Ml]at C7;have ahF: (Q++C.map (ig S6.view.num)).length<=50000:=by rw[List.length_append,List.length_map];omega
      rw[<-List.append_assoc];generalize Q++C.map (ig S6.view.num)=uj at *;generalize bn S6.view.num.toNat++eo S6.als S6.als.length=B2 at *;generalize xL S6=F at *;generalize o6 S6=Z at *;repeat' ((conv=>whnf);first|refine And.intro (by kernel_rfl) ?_|refine .inl ⟨_,_,aD _,C6,?_⟩|refine And.intro (oS Mk) ?_|refine .inr ⟨[0,1,2,3],_,_,_,_,_,Mj,by rfl,⟨.r,.r,.r,.r,trivial⟩,⟨.r,trivial⟩,?_⟩|fail)
      all_goals(conv=>whnf)
      refine⟨Nat,fun i=>⟨[(0,.aP 0 0),(17,.own 5),(164,.aq 1 (Z.map aM) false),(165,i64 Z.length),(166,i64 i)],[.cells 116 (gR S6 (.own 1) (.own 2) (.own 3)),.row 22 1 ((S6).hist.map cB),.row 150 2 ((S6).dbts.map db),.row 121 2 ((uj++(Z.take i).map F).map eU),.b6 [.aP 0 0,.aW,.aW,.aW],.row 5 1 (B2.map bo)]⟩,fun i=>i<=Z.length,fun i=>Z.length-i,[],⟨0,Nat.zero_le _,?_⟩,?_⟩
      ·conv=>whnf
       exact⟨⟨.r,.r,.r,aV (by simp),.r,trivial⟩,⟨.r,.r,.r,ch (by simp),ft ⟨.r,.aW,.aW,.aW,trivial⟩,ch zw,trivial⟩,by rfl⟩
      ·intro i ab;repeat' ((conv=>whnf);first| (refine be ?_ ?_<;>intro h)|fail)
       ·have ap:i<Z.length:=by simpa using h
        clear h;have hs:=C7 (uj++(Z.take i).map F) (by rw[List.length_append,List.length_map,List.length_take];omega) Z[i];have gF:uj++(Z.take i).map F++ [F Z[i]]=uj++(Z.take (i+1)).map F:=by
         rw[List.take_succ_eq_append_getElem ap,List.map_append,List.append_assoc];rfl
        rw[gF]at hs;repeat' ((conv=>whnf);first|refine⟨_,_,And.intro ⟨rfl,cE ap⟩ ?_⟩|refine .inr ⟨[0,1,2,3,5],_,_,_,_,_,hs,by rfl,⟨.r,.r,.r,.r,.r,trivial⟩,⟨.r,.r,.r,.r,trivial⟩,?_⟩|fail)
        all_goals(conv=>whnf)
        refine⟨i+1,ap,by simp only[];omega,?_⟩;conv=>whnf
        exact⟨⟨.r,.r,.r,.r,aV (bH (by omega)),trivial⟩,⟨.r,.r,.r,.r,.r,.r,trivial⟩,by rfl⟩
       ·have:i=Z.length:=by
         simp at h;omega
        subst this;rw[List.take_length];repeat' ((conv=>whnf);first|refine bc ?_|fail)
        all_goals(conv=>whnf)
        refine⟨[],?_⟩;conv=>whnf
        exact⟨.r,⟨.r,.r,.r,.r,.r,trivial⟩,by rfl⟩
     ·rename_i aH;have:i=C.length:=by
       simp at aH;omega
      subst this;clear aH;rw[List.take_length];rw[List.length_map]at h;rw[h];conv=>whnf
      refine⟨[],?_⟩;conv=>whnf
      exact⟨.r,⟨.r,.r,.r,ch (by simp),.r,trivial⟩,by rfl⟩
theorem Mm{b c:Nat}(al:c<=10)(ae:b<2^c):mX ⟨b,c⟩=true:=by
 have au:∀c:Fin 11,IntKind.u32.wrap (1*2^ (min ((c.1:Nat):Int).toNat 32))=((2^c.1:Nat):Int):=by decide+kernel
 have au:=au ⟨c,by omega⟩;have dl: (0:Int)<=((c:Nat):Int):=by omega
 have a2: ((c:Nat):Int)<=10:=by omega
 have a3: ((b:Nat):Int)<IntKind.u32.wrap (1*2^ (min ((c:Nat):Int).toNat 32)):=by
  simp only[]at au;rw[au];exact Int.ofNat_lt.2 ae
 show ((decide ((0:Int)<=((c:Nat):Int))&&decide (((c:Nat):Int)<=10))&&decide (((b:Nat):Int)<IntKind.u32.wrap (1*2^ (min ((c:Nat):Int).toNat 32))))=true;rw[decide_eq_true dl,decide_eq_true a2,decide_eq_true a3];rfl
theorem ahG{w:mx}(ae:0<=w.bits)(ok:Bool):mX (l3 w ok)=true:=by
 unfold l3;cases h:mX w
 ·rw[Bool.not_false,cond_true];exact Mm (b:=0) (c:=0) (by decide) (by decide)
 ·obtain⟨h1,ad,aC,bh⟩:=JL h ae;rw[Bool.not_true,cond_false];obtain⟨bi,ak0⟩:=w;simp only[]at h1 ad aC bh ae⊢;obtain⟨b,rfl⟩:=Int.eq_ofNat_of_zero_le ae;obtain⟨c,rfl⟩:=Int.eq_ofNat_of_zero_le h1;have au: ((2:Int)^c)=((2^c:Nat):Int):=(Int.natCast_pow 2 c).symm;rw[Int.toNat_natCast,au]at aC;have aC:b<2^c:=by omega
  have al: (if(10:Int)<(c:Int)+1 then(10:Int)else(c:Int)+1)=((min (c+1) 10:Nat):Int):=by split<;>omega
  have aI: (bif ok then(0:Int)else 1)=((bif ok then 0 else 1:Nat):Int):=by cases ok<;>rfl
  have b4: (b:Int) *2%1024+(bif ok then(0:Int)else 1)=((b*2%1024+(bif ok then 0 else 1):Nat):Int):=by
   rw[aI];clear aC aI al bh;generalize(bif ok then 0 else 1:Nat)=f;omega
  rw[al,b4];refine Mm (by omega) ?_;have Gj: (bif ok then 0 else 1:Nat)<=1:=by cases ok<;>simp
  generalize(bif ok then 0 else 1:Nat)=f at *;by_cases h:c<10
  ·have aG:min (c+1) 10=c+1:=by omega
   have au:2^ (c+1)<=2^10:=Nat.pow_le_pow_right (by decide) (by omega);rw[aG];rw[Nat.pow_succ]at au⊢;have aT:b*2%1024<=b*2:=Nat.mod_le _ _;omega
  ·have aG:min (c+1) 10=10:=by omega
   rw[aG];omega
def qC(v:aQ)(id:Int)(d:h9):Prop:=d.view=v/\d.self=id/\d.bS.length=(ga v.mem id).length/\∀ (k:Nat) (h:k<d.bS.length),d.bS[k].dN=k/\d.bS[k].cj=(ga v.mem id).getD k 0/\mX d.bS[k].kN=true/\0<=d.bS[k].kN.bits
theorem UA{v:aQ}{id:Int}(ac:bX v=true)(ab:bR v.mem id=true):ix v id=(⟨id,v,nD (ga v.mem id) (ga v.mem id).length⟩,0):=by
 rw[ix,ac,ab];rfl
theorem ahH(v:aQ)(id:Int):qC v id ⟨id,v,nD (ga v.mem id) (ga v.mem id).length⟩:=by
 refine⟨rfl,rfl,zd _ _,fun k h=> ?_⟩;simp only[nD,List.getElem_map,List.getElem_range,BJ];exact⟨trivial,trivial,Mm (b:=0) (c:=0) (by decide) (by decide),Int.le_refl _⟩
theorem Mn{v:aQ}{id:Int}{d:h9}(ac:bX v=true)(ab:bR v.mem id=true)(h:qC v id d):mY d=true:=by
 obtain⟨rfl,rfl,af,he⟩:=h;unfold mY;rw[UA ac ab];simp only[zd];rw[decide_eq_true (by omega: (d.bS.length:Int)=((ga d.view.mem d.self).length:Int))];show gA (tM d.bS (nD (ga d.view.mem d.self) (ga d.view.mem d.self).length)) d.bS.length=true;refine gB.2 (fun k hk=> ?_);have ax:d.bS.getD k sw=d.bS[k]:=by simp[hk]
 have lm:k<(nD (ga d.view.mem d.self) (ga d.view.mem d.self).length).length:=by rw[zd];omega
 have gK: (nD (ga d.view.mem d.self) (ga d.view.mem d.self).length).getD k sw=BJ k ((ga d.view.mem d.self).getD k 0):=by
  rw[List.getD_eq_getElem?_getD,List.getElem?_eq_getElem lm];simp[nD]
 obtain⟨dl,a2,a3,_⟩:=he k hk;unfold tM;rw[ax,gK,dl,a2,a3];simp[BJ]
theorem UB{v:aQ}{id:Int}{d:h9}(ac:bX v=true)(ab:bR v.mem id=true)(h:qC v id d)(x:Int):qC v id (qx d x):=by
 have aa:=Mn ac ab h;unfold qx;rw[aa,Bool.not_true,cond_false];obtain⟨h1,ad,aC,bh⟩:=h;refine⟨h1,ad,by simpa using aC,fun k hk=> ?_⟩;simp only[List.getElem_map,List.length_map]at hk⊢;have:=bh k hk;unfold tN;cases decide (d.bS[k].cj=x)<;>exact this
theorem ahI{v:aQ}{id:Int}{d:h9}(ac:bX v=true)(ab:bR v.mem id=true)(h:qC v id d):qC v id (cJ d).1:=by
 have aa:=Mn ac ab h;unfold cJ;rw[aa,Bool.not_true,cond_false];obtain⟨h1,ad,aC,bh⟩:=h;refine⟨h1,ad,by simpa using aC,fun k hk=> ?_⟩;simp only[List.getElem_map,List.length_map]at hk⊢;have:=bh k hk;exact⟨this.1,this.2.1,ahG this.2.2.2 _,JN this.2.2.2 _⟩
theorem UC(v:aQ)(S:List ca)(b:Bool): (ek v S b).Pairwise fun x y=>x<y:=by
 unfold ek sI;cases !dU v S
 ·rw[cond_false,List.pairwise_map];refine List.Pairwise.sublist (List.filter_sublist ..) ?_;rw[List.pairwise_map];exact aeC _
 ·simp
theorem Mo:∀ (b a:List Int) (z:Int),z∈hV a b↔z∈a\/z∈b
 | [],a,z=>by simp[hV]
 |x::b,a,z=>by
  have aN:=Mo b (a.dropWhile fun y=> !decide (x<y)) z;rw[hV,List.mem_append,List.mem_cons,aN];have e:z∈a↔z∈a.takeWhile (fun y=> !decide (x<y))\/z∈a.dropWhile (fun y=> !decide (x<y)):=by
   rw[<-List.mem_append,List.takeWhile_append_dropWhile]
  rw[e,List.mem_cons];constructor
  ·rintro(h|h|h|h)
   ·exact .inl (.inl h)
   ·exact .inr (.inl h)
   ·exact .inl (.inr h)
   ·exact .inr (.inr h)
  ·rintro((h|h)|h|h)
   ·exact .inl h
   ·exact .inr (.inr (.inl h))
   ·exact .inr (.inl h)
   ·exact .inr (.inr (.inr h))
theorem UD{x:Int}:∀ {a:List Int},a.Pairwise (· < ·)->∀z∈a.dropWhile (fun y=> !decide (x<y)),x<z
 | [],_,z,h=>by simp at h
 |y::a,au,z,h=>by
  rw[List.pairwise_cons]at au;rw[List.dropWhile_cons]at h;by_cases bt:x<y
  ·rw[decide_eq_true bt]at h;simp only[Bool.not_true,Bool.false_eq_true,if_false,List.mem_cons]at h;rcases h with rfl|h
   ·exact bt
   ·exact Int.lt_trans bt (au.1 z h)
  ·rw[decide_eq_false bt]at h;simp only[Bool.not_false,if_true]at h;exact UD au.2 z h
theorem UE:∀ (b a:List Int),a.Pairwise (· < ·)->b.Pairwise (· < ·)->(∀z∈a,z∉b)->(hV a b).Pairwise (· < ·)
 | [],a,aZ,_,_=>by simpa[hV]using aZ
 |x::b,a,aZ,ae,aa=>by
  rw[List.pairwise_cons]at ae;have AL:∀z∈a.dropWhile (fun y=> !decide (x<y)),z∈a:=fun z bE=>(List.dropWhile_sublist _).subset bE;have aN:=UE b (a.dropWhile fun y=> !decide (x<y)) (aZ.sublist (List.dropWhile_sublist _)) ae.2 (fun z bE GM=>aa z (AL z bE) (List.mem_cons_of_mem _ GM));have qi:∀z∈hV (a.dropWhile fun y=> !decide (x<y)) b,x<z:=fun z bE=>by
   rcases(Mo _ _ _).1 bE with h|h
   ·exact UD aZ z h
   ·exact ae.1 z h
  have hle:∀z∈a.takeWhile (fun y=> !decide (x<y)),z<x:=fun z bE=>by
   have h1:=Ka bE;have ad:=(List.takeWhile_sublist _).subset bE;simp only[Bool.not_eq_true',decide_eq_false_iff_not]at h1;rcases Int.lt_or_eq_of_le (show z<=x by omega)with h|h
   ·exact h
   ·exact absurd (by rw[h];exact List.mem_cons_self ..) (aa z ad)
  rw[hV,List.pairwise_append];refine⟨aZ.sublist (List.takeWhile_sublist _),List.pairwise_cons.2 ⟨qi,aN⟩,fun z bE w hw=> ?_⟩;rcases List.mem_cons.1 hw with rfl|hw
  ·exact hle z bE
  ·exact Int.lt_trans (hle z bE) (qi w hw)
theorem UF{v:aQ}{c:List Int}(h: (eQ v c).2=0):bX v=true/\c9 c 32=true/\(v.mem.length:Int)<2* ((kL v c).length:Int)/\v.num≠1099511627776/\((kL v c).length:Int)+((fA v c).length:Int)<=16/\(eQ v c).1= ⟨IntKind.i64.wrap (v.num+1),hV (kL v c) (fA v c)⟩:=by
 unfold eQ at h⊢;cases h1: (!bX v|| !c9 c 32)
 ·rw[h1,cond_false]at h;rw[cond_false];cases ad:decide (2* ((kL v c).length:Int)<=(v.mem.length:Int))
  ·rw[ad,cond_false]at h;rw[cond_false];cases aC: (decide (v.num=1099511627776)||decide (16<((kL v c).length:Int)+((fA v c).length:Int)))
   ·simp only[Bool.or_eq_false_iff,Bool.not_eq_false',decide_eq_false_iff_not]at h1 ad aC;exact⟨h1.1,h1.2,by omega,aC.1,by omega,rfl⟩
   ·rw[aC,cond_true]at h;have h: (5:Int)=0:=h;omega
  ·rw[ad,cond_true]at h;have h: (9:Int)=0:=h;omega
 ·rw[h1,cond_true]at h;have h: (1:Int)=0:=h;omega
theorem ahJ{v:aQ}{c:List Int}(ac:bX v=true)(al:c9 c 32=true):kL v c=v.mem.filter (fun x=> !bR c x):=by
 unfold kL pC;rw[ac,al];rfl
theorem ahK{v:aQ}{c:List Int}(ac:bX v=true)(al:c9 c 32=true):fA v c=c.filter (fun x=> !bR v.mem x):=by
 unfold fA pC;rw[ac,al];rfl
theorem ahL{v:aQ}{c:List Int}(h: (eQ v c).2=0):bX (eQ v c).1=true/\(eQ v c).1.num=v.num+1/\∀x,x∈ (eQ v c).1.mem↔ (x∈v.mem/\x∉c)\/(x∈c/\x∉v.mem):=by
 obtain⟨ac,al,h1,ad,aC,he⟩:=UF h;obtain⟨jM,j4,rL⟩:=lB ac;obtain⟨_,hP,ir⟩:=n4.1 rL;obtain⟨_,jN,nw⟩:=n4.1 al;have ag:=ahJ ac al;have aT:=ahK ac al;have px:∀x,x∈hV (kL v c) (fA v c)↔ (x∈v.mem/\x∉c)\/(x∈c/\x∉v.mem):=fun x=>by
  have yO:∀ (l:List Int) (x:Int),(!bR l x)=true↔x∉l:=fun l x=>by
   rw[Bool.not_eq_true',<-Bool.not_eq_true,oR]
  rw[Mo,ag,aT,List.mem_filter,List.mem_filter,yO,yO]
 have Mp:IntKind.i64.wrap (v.num+1)=v.num+1:=dC (by omega) (by omega);rw[he,Mp];refine⟨?_,rfl,px⟩;have af: (hV (kL v c) (fA v c)).length=(kL v c).length+(fA v c).length:=Lt _ _;have vP:c9 (hV (kL v c) (fA v c)) 16=true:=by
  rw[n4];refine⟨⟨by omega,by omega⟩,UE _ _ (by rw[ag];exact hP.sublist List.filter_sublist) (by rw[aT];exact jN.sublist List.filter_sublist) (fun z bE GM=> ?_),fun x an=> ?_⟩
  ·rw[ag]at bE;rw[aT]at GM;have h1:=(List.mem_filter.1 bE).2;have ad:=(List.mem_filter.1 GM).1;rw[Bool.not_eq_true',<-Bool.not_eq_true,oR]at h1;exact h1 ad
  ·rcases(px x).1 an with h|h
   ·exact ir x h.1
   ·exact nw x h.1
 unfold bX;simp only[Bool.and_eq_true,decide_eq_true_eq];exact⟨⟨by omega,by omega⟩,vP⟩
theorem UG{c:List Int}{m:Int}(aT:m<=32)(h:c9 c m=true):kx c:=by
 obtain⟨h1,_,aC⟩:=n4.1 h;exact⟨by omega,fun x an=>by have:=aC x an;omega⟩
def GN(first:aQ)(D:List (List Int)):Prop:=bX first=true/\∀i,i<D.length->o1 first D i=true
theorem Mq{first:aQ}{D I8:List (List Int)}:∀k,(∀i,i<k->D.getD i []=I8.getD i [])->c3 first D k=c3 first I8 k
 |0,_=>rfl
 |k+1,h=>by
  unfold c3;rw[Mq k (fun i ab=>h i (by omega)),h k (by omega)]
theorem Mr{D:List (List Int)}{k i:Nat}(h:i<k): (D.take k).getD i []=D.getD i []:=by
 simp only[List.getD_eq_getElem?_getD,List.getElem?_take];rw[if_pos h]
theorem Mt{D E:List (List Int)}{i:Nat}(h:i<D.length): (D++E).getD i []=D.getD i []:=by
 simp only[List.getD_eq_getElem?_getD];rw[List.getElem?_append_left h]
theorem C8(first:aQ)(D:List (List Int)){k i:Nat}(h:i<=k):c3 first (D.take k) i=c3 first D i:=Mq i fun j ai=>Mr (by omega)
theorem C9(first:aQ)(D E:List (List Int)){i:Nat}(h:i<=D.length):c3 first (D++E) i=c3 first D i:=Mq i fun j ai=>Mt (by omega)
theorem UH{first:aQ}{D:List (List Int)}(h:GN first D):∀k,k<=D.length->bX (c3 first D k)=true/\(c3 first D k).num=first.num+k
 |0,_=>⟨h.1,by simp[c3]⟩
 |k+1,hk=>by
  obtain⟨h1,ad⟩:=UH h k (by omega);have bY:=h.2 k (by omega);unfold o1 at bY;obtain⟨dl,a2,_⟩:=ahL (of_decide_eq_true bY);unfold c3;exact⟨dl,by rw[a2,ad];omega⟩
theorem UI{first:aQ}{D:List (List Int)}(h:GN first D)(aS:D.length<=400)(k:Nat)(hk:k<=D.length): (hD first (D.take k)).2=true/\(hD first (D.take k)).1=hX first (D.take k) (D.take k).length:=by
 have af: (D.take k).length=k:=by rw[List.length_take];omega
 have bQ:gA (o1 first (D.take k)) (D.take k).length=true:=gB.2 fun i ab=>by
  rw[af]at ab;have:=h.2 i (by omega);unfold o1 at this⊢;rw[C8 first D (Nat.le_of_lt ab),Mr ab];exact this
 unfold hD;rw[h.1,bQ,decide_eq_false (by omega)];exact⟨rfl,rfl⟩
theorem yP{first:aQ}{D:List (List Int)}(h:GN first D):∀c∈D,kx c/\c9 c 32=true:=fun c al=>by
 obtain⟨i,ab,rfl⟩:=List.getElem_of_mem al;have bY:=h.2 i ab;unfold o1 at bY;have ax:D.getD i []=D[i]:=by simp[ab]
 rw[ax]at bY;have:=(UF (of_decide_eq_true bY)).2.1;exact⟨UG (by decide) this,this⟩
theorem ahM{l:List ca}(ag:qA l)(h:∀a∈l,k5 a=true):l.length<=5000:=by
 have h1: (l.map fun a=>(a.cj*5+a.dN).toNat).Pairwise (· < ·):=by
  rw[List.pairwise_map];refine(List.pairwise_iff_forall_sublist.2 fun {a b} l2=> ?_);have aZ:=h a (l2.subset (by simp));have ae:=h b (l2.subset (by simp));have af:=List.pairwise_iff_forall_sublist.1 ag l2;simp only[k5,gN,Bool.and_eq_true,Bool.or_eq_true,decide_eq_true_eq]at aZ ae af;omega
 have ad:∀x∈l.map (fun a=>(a.cj*5+a.dN).toNat),x∈List.range' 5 5000:=fun x an=>by
  obtain⟨a,aZ,rfl⟩:=List.mem_map.1 an;have:=h a aZ;simp only[k5,Bool.and_eq_true,decide_eq_true_eq]at this;rw[List.mem_range'_1];omega
 have aC:=zq (h1.imp fun h=>Nat.ne_of_lt h) ad;rw[List.length_map,List.length_range']at aC;exact aC
theorem GO{v:aQ}{l:List ca}(h:dU v l=true):l.length<=5000:=by
 obtain⟨_,h1,ad⟩:=tT.1 h;exact ahM ad fun a aZ=>(CW (h1 a aZ)).2.2.1
theorem ahN{v:aQ}{l:List ca}{a:ca}(h:dU v l=true)(aZ:jz v a=true):dU v (jA l a).1=true:=by
 obtain⟨ac,h1,ad⟩:=tT.1 h;have:=Rt ad a;exact tT.2 ⟨ac,fun x an=>by
  rcases this.2.2.1 x an with h|h
  ·exact h1 x h
  ·rw[h];exact aZ,this.1⟩
theorem ahO{v:aQ}{l:List ca}{a:ca}(h:dU v l=true)(bY: (l4 v l a).2.2=0):jz v a=true/\(l4 v l a).1=(jA l a).1:=by
 unfold l4 at bY⊢;cases h1: (!dU v l|| !k5 a)
 ·rw[h1,cond_false]at bY;rw[cond_false];cases ad: !decide (a.view=v.num)
  ·rw[ad,cond_false]at bY;rw[cond_false];cases aC:jz v a
   ·rw[aC]at bY;have bY: (6:Int)=0:=bY;omega
   ·exact⟨rfl,rfl⟩
  ·rw[ad,cond_true]at bY;have bY: (8:Int)=0:=bY;omega
 ·rw[h1,cond_true]at bY;have bY: (1:Int)=0:=bY;omega
theorem UJ{s:Mem}{a:ca}(h:dU s.view s.als=true):dU s.view (lb s a).als=true:=by
 unfold lb;cases al:decide ((l4 s.view s.als a).2.2=0)
 ·exact h
 ·obtain⟨h1,ad⟩:=ahO h (of_decide_eq_true al);rw[cond_true];show dU s.view (l4 s.view s.als a).1=true;rw[ad];exact ahN h h1
theorem UK{s:Mem}{x:Int}(h:dU s.view s.als=true):∀i,dU s.view (jE s x i).als=true
 |0=>h
 |i+1=>by
  have aN:=UK (x:=x) h i;have hk:=(Gu s x i).1;unfold jE;have:=UJ (s:=jE s x i) (a:=⟨s.view.num,(nf s.view.mem s.self x).getD i 0,s.self,x⟩) (by rw[hk];exact aN);rw[hk]at this;exact this
theorem UL{s:Mem}(x:Int)(h:dU s.view s.als=true):dU s.view (hF s x).als=true:=UK h _
theorem UM{s:Mem}{l:List Int}(h:dU s.view s.als=true):∀i,dU s.view (ji s l i).als=true
 |0=>h
 |i+1=>by
  have aN:=UM (l:=l) h i;have hk:=(CR s l i).1;unfold ji;have:=UL (s:=ji s l i) (l.getD i 0) (by rw[hk];exact aN);rw[hk]at this;exact this
theorem Mu{s:Mem}{l:List ca}(h:dU s.view s.als=true):∀i,dU s.view (iW s l i).als=true
 |0=>h
 |i+1=>by
  have aN:=Mu (l:=l) h i;have hk:=(vN s l i).1;unfold iW;have:=UJ (s:=iW s l i) (a:=l.getD i eu) (by rw[hk];exact aN);rw[hk]at this;exact this
theorem ahP{s:Mem}(h:dU s.view s.als=true):dU s.view (o8 s).als=true:=by
 unfold o8 sP;exact UM (s:={s with dbts:=iF s.self s.dbts (ek s.view s.als false)}) h _
theorem UN{s:Mem}(h:dU s.view s.als=true):dU s.view (cz s).als=true:=by
 have h1:=Mu (s:={s with bk:=(cJ s.bk).1}) (l:=(cJ s.bk).2) h (cJ s.bk).2.length;have hk:=(vN {s with bk:=(cJ s.bk).1} (cJ s.bk).2 (cJ s.bk).2.length).1;have ad:=ahP (s:=lE {s with bk:=(cJ s.bk).1} (cJ s.bk).2) (by unfold lE;rw[hk];exact h1);unfold cz;have e: (lE {s with bk:=(cJ s.bk).1} (cJ s.bk).2).view=s.view:=hk;rw[e]at ad;exact ad
theorem Mv{v:aQ}{S:List ca}{b:Bool}{x:Int}(h:x∈ek v S b):1<=x/\x<=1000:=by
 unfold ek sI at h;obtain⟨t,bW,rfl⟩:=List.mem_map.1 h;have bW:=(List.mem_filter.1 bW).1;cases ac:dU v S
 ·rw[ac]at bW;simp at bW
 ·rw[ac]at bW;simp only[Bool.not_true,cond_false]at bW;obtain⟨y,bt,rfl⟩:=List.mem_map.1 bW;obtain⟨a,aZ,rfl⟩:=List.mem_map.1 (Lk.1 bt);have:=(CW ((tT.1 ac).2.1 a aZ)).2.2.1;simp only[k5,Bool.and_eq_true,decide_eq_true_eq]at this;show 1<=a.cj/\a.cj<=1000;omega
theorem UO{l:List Int}(au:l.Pairwise fun x y=>x<y)(h:∀x∈l,1<=x/\x<=1000):l.length<=1000:=by
 have h1: (l.map Int.toNat).Pairwise (· < ·):=by
  rw[List.pairwise_map];refine(List.pairwise_iff_forall_sublist.2 fun {a b} l2=> ?_);have aZ:=h a (l2.subset (by simp));have ae:=h b (l2.subset (by simp));have af:=List.pairwise_iff_forall_sublist.1 au l2;omega
 have ad:∀x∈l.map Int.toNat,x∈List.range' 1 1000:=fun x an=>by
  obtain⟨a,aZ,rfl⟩:=List.mem_map.1 an;have:=h a aZ;rw[List.mem_range'_1];omega
 have aC:=zq (h1.imp fun h=>Nat.ne_of_lt h) ad;rw[List.length_map,List.length_range']at aC;exact aC
theorem ahQ(v:aQ)(S:List ca)(b:Bool): (ek v S b).length<=1000:=UO (UC v S b) fun _ h=>Mv h
theorem ahR(v:aQ)(S:List ca): (ey v S).1.length<=1000:=by
 unfold ey;cases decide (0<((ek v S false).length:Int))
 ·exact Nat.le_trans (ahu _ _) (ahQ _ _ _)
 ·exact Nat.zero_le _
structure vQ(v:aQ)(x:Int)(als:List ca)(l:List gG):Prop where
 up: (l.map (·.cj)).Pairwise fun a b=>a<b
 zU:∀d∈l,d.cj≠x/\d.cj∈ek v als false/\1<=d.ep/\d.ep<=6
theorem ahS{v:aQ}{x:Int}{als:List ca}{l:List gG}(h:vQ v x als l):l.length<=1000:=by
 have:=UO h.up fun y bt=>by
  obtain⟨d,aa,rfl⟩:=List.mem_map.1 bt;exact Mv (h.zU d aa).2.1
 rw[List.length_map]at this;exact this
theorem ahT{s:Mem}(h:vQ s.view s.self s.als s.dbts):xF s=true:=by
 unfold xF;refine gB.2 fun i ab=> ?_;have ax:s.dbts.getD i gr=s.dbts[i]:=by simp[ab]
 obtain⟨h1,ad,aC,bh⟩:=h.zU _ (List.getElem_mem ab);have bL: (0::s.dbts.map (·.cj)).getD i 0<s.dbts[i].cj:=by
  rcases i with _|i
  ·have:=Mv ad;simp only[List.getD_cons_zero];omega
  ·rw[List.getD_cons_succ];have cV:i<(s.dbts.map (·.cj)).length:=by rw[List.length_map];omega
   have gX:i+1<(s.dbts.map (·.cj)).length:=by rw[List.length_map];omega
   have:=List.pairwise_iff_getElem.1 h.up i (i+1) cV gX (by omega);simp only[List.getElem_map]at this;have e: (s.dbts.map (·.cj)).getD i 0=s.dbts[i].cj:=by simp[show i<s.dbts.length by omega]
   rw[e];exact this
 unfold Gi;rw[ax,decide_eq_false (show ¬s.dbts[i].cj<=_ by omega),decide_eq_false h1,oR.2 ad,decide_eq_false (by omega),decide_eq_false (by omega)];rfl
theorem ahU{v:aQ}{x:Int}{als ahV:List ca}{l:List gG}(sj: (l.map (·.cj)).Pairwise fun a b=>a<b)(he:∀d∈l,d.cj≠x/\1<=d.ep/\d.ep<=6):vQ v x als (l.filter (jh (ek v als false))):=by
 refine⟨sj.sublist (List.filter_sublist.map _),fun d aa=> ?_⟩;obtain⟨h1,ad⟩:=List.mem_filter.1 aa;obtain⟨a,b,c⟩:=he d h1;unfold jh at ad;exact⟨a,oR.1 ad,b,c⟩
theorem ahW{s:Mem}{als:List ca}(h:vQ s.view s.self als s.dbts):vQ s.view s.self s.als (sP s).dbts:=
 ahU (ahV:=als) h.up fun d aa=>⟨(h.zU d aa).1,(h.zU d aa).2.2⟩
theorem UP(l:List gG)(x:Int):∀j,j<=l.length->ng l x j=0\/∃d∈l,ng l x j=d.ep
 |0,_=>.inl rfl
 |j+1,ai=>by
  have aN:=UP l x j (by omega);unfold ng;cases decide ((l.getD j gr).cj=x)
  ·exact aN
  ·have ax:l.getD j gr=l[j]:=by simp[show j<l.length by omega]
   exact .inr ⟨l[j],List.getElem_mem _,by rw[cond_true,ax]⟩
theorem ahX{l:List gG}(h:∀d∈l,1<=d.ep/\d.ep<=6)(x:Int):1<=ug l x/\ug l x<=6:=by
 have h1:0<=zQ l x/\zQ l x<=6:=by
  unfold zQ;rcases UP l x l.length (Nat.le_refl _)with e| ⟨d,aa,e⟩
  ·rw[e];omega
  ·rw[e];have:=h d aa;omega
 unfold ug;split<;>omega
theorem ahY{s:Mem}(h:∀d∈s.dbts,1<=d.ep/\d.ep<=6):vQ s.view s.self s.als (iF s.self s.dbts (ek s.view s.als false)):=by
 unfold iF;refine⟨?_,fun d aa=> ?_⟩
 ·rw[List.map_map];have e: ((fun d:gG=>d.cj)∘fun x=>gG.mk x (ug s.dbts x))=id:=rfl;rw[e,List.map_id];exact(UC _ _ _).sublist List.filter_sublist
 ·obtain⟨x,an,rfl⟩:=List.mem_map.1 aa;obtain⟨h1,ad⟩:=List.mem_filter.1 an;unfold fN at ad;have:=ahX h x;exact⟨by simpa using ad,h1,this⟩
theorem ahZ{s:Mem}(h:∀d∈s.dbts,1<=d.ep/\d.ep<=6):vQ s.view s.self (o8 s).als (o8 s).dbts:=by
 have h1:=ahY h;have hk:=CR {s with dbts:=iF s.self s.dbts (ek s.view s.als false)} (hy s.self s.dbts (ek s.view s.als false)) (hy s.self s.dbts (ek s.view s.als false)).length;have ad:=ahW (s:=ji {s with dbts:=iF s.self s.dbts (ek s.view s.als false)} (hy s.self s.dbts (ek s.view s.als false)) (hy s.self s.dbts (ek s.view s.als false)).length) (als:=s.als) (by rw[hk.1,hk.2.1,hk.2.2.2.1];exact h1);rw[hk.1,hk.2.1]at ad;exact ad
inductive ni where
 |ae(n:Int)
 |o9(n:Int)(l:List ca)
 |oo(m:dx)
 |ab(first:aQ)(aE:List (List Int))
 |oq
def zV:ni->List Nat
 | .ae n=>Gl n
 | .o9 n l=>GD n l
 | .oo m=>L3 m
 | .ab f c=>o2 f c
 | .oq=>vM
structure hI where
 cZ:Int
 cL:ni
def pR(p:hI):dj:=⟨p.cZ,zV p.cL⟩
def uk(s:Mem)(cZ:Int):hI:=⟨cZ,.ab s.first s.hist⟩
def Da(s:Mem)(p:dy):List hI:=(qQ s p).map fun id=>⟨id,.oo p.m⟩
def pS(s:Mem)(l:List dy):List hI:=l.flatMap (Da s)
theorem GP(s:Mem)(l:List dy): (pS s l).map pR=hG s l:=by
 unfold pS hG;rw[List.map_flatMap];congr 1;funext p;unfold Da CO;rw[List.map_map];rfl
def ul(s:Mem)(bz:Int):ni->Mem×List hI
 | .ab f c=>(ff (lf s f c),[])
 | .oq=>bif bR s.view.mem bz then(ff s,[uk s bz])else(ff (hF s bz),[uk (hF s bz) bz])
 | .ae n=>if n<s.view.num then(ff s,[uk s bz])else if s.view.num<n then(ff s,[])else bif bR s.view.mem bz then(ff {s with bk:=qx s.bk bz},[])else(ff s,[])
 | .o9 n l=>if n<s.view.num then(ff s,[uk s bz])else if s.view.num<n then(ff s,[])else(ff {s with als:=kd s.als l l.length},[])
 | .oo m=>if m.view<s.view.num then(ff s,[uk s bz])else if s.view.num<m.view then(ff s,[])else
  bif decide ((e7 s.agr m).2.2=0)then(ff {s with agr:=(e7 s.agr m).1},pS {s with agr:=(e7 s.agr m).1} (e7 s.agr m).2.1)else(ff s,[])
def xP(s:Mem):ni->Mem×List hI
 | .ab f c=>(xK s f c,[])
 |_=>(s,[])
def ot(s:Mem)(bz:Int)(f:ni):Mem×List hI:=if s.status=1 then ul s bz f else if s.status=0 then xP s f else(s,[])
def ah0(s:Mem)(bz:Int):ni->Prop
 | .ae n=>0<=n/\n<=1099511627776
 | .o9 n l=>(0<=n/\n<=1099511627776)/\l.length<=5000/\(s.status=1->n=s.view.num->dU s.view l=true)
 | .oo m=>rJ m/\m.src=bz/\(s.status=1->m.view=s.view.num->(e7 s.agr m).2.2=0/\(e7 s.agr m).2.1.length<=1000/\(∀p∈ (e7 s.agr m).2.1,rJ p.m)/\(e7 s.agr m).1.dec.length<=1000)
 | .ab f c=>bX f=true/\c.length<=400/\(∀x∈c,kx x)/\(hD f c).2=true/\(s.status=1->pQ (lf s f c))
 | .oq=>True
structure Db(s:Mem)(bz:Int)(f:ni):Prop where
 km:fe s
 v:mE s=true
 id:kv bz=true
 ny:bz≠s.self
 act:s.status=1->zN s/\bX s.view=true/\dU s.view s.als=true
 cL:ah0 s bz f
theorem UQ{s:Mem}(h:fe s):pQ s:=⟨h.view,h.hist,h.agr.dec,by have:=h.als;omega,by have:=h.dbts;omega⟩
theorem ah1(s:Mem)(bz:Int)(f:ni)(h:Db s bz f)(bM:s.status=1):bg Tryz.prog 23 [.agg (bU s),i64 bz,.aq 1 ((zV f).map bo) false] (.a1 [.agg (bU (ul s bz f).1),.aq 2 (((ul s bz f).2.map pR).map eU) false,i64 0]):=by
 obtain⟨c7,ac,fj,bx,pT,kI⟩:=h;obtain⟨nt,me,Bq⟩:=pT bM;have ea:=kM me;have lR:s.view.mem≠ []:=fun e=>by rw[e]at ea;simp at ea
 have ja:=UQ c7;have key:=fun {pa:pN} {W:List Nat} (ao:bg Tryz.prog 51 [.agg (bU s),.aq 1 (W.map bo) false] (.a1 [.agg (ie pa),.v (.bool true)])) {s':Mem} {GG:List dj}
  (bp:b0 Tryz.prog 54 (eb s []) [.aP 0 0,i64 bz,.agg (ie pa)] [true,false,false,false] (eb s' GG) (.a1 []))=>ahp s c7 ac bM bz fj bx pa W ao (LO s bp)
 cases f with
 |ab f c=>
  obtain⟨dl,a2,a3,a4,a5⟩:=kI;exact key (CD s f c dl a2 a3 a4) (aho s bM c7 bz [] f c a4 a3 (a5 bM))
 |oq=>
  unfold ul;cases cw:bR s.view.mem bz
  ·refine key (L4 s) (ahn s bM c7 bz [] (by simp) nt cw ?_);have hk:=Gz s bz
   have ab:=zS s bz
   exact⟨by rw[hk.1];exact ja.view,by rw[hk.2.2.1];exact ja.hist,by rw[ab.2.2.2];exact ja.dec,by have:=hk.2.2.2.2;have:=c7.als;omega,by rw[hk.2.2.2.1];exact ja.dbts⟩
  ·exact key (L4 s) (ahm s bM c7 bz [] (by simp) nt cw ja)
 |ae n=>
  have ao:=TB s n kI.1 kI.2;unfold ul;by_cases h1:n<s.view.num
  ·simp only[if_pos h1];exact key ao (L8 s bM c7 bz [] (by simp) nt (u5 n) (by show (1:Int)≠4;omega) (by show (1:Int)≠5;omega) h1 ja)
  ·by_cases ad:s.view.num<n
   ·simp only[if_neg h1,if_pos ad];exact key ao (Ma s bM c7 bz [] (u5 n) (by show (1:Int)≠4;omega) (by show (1:Int)≠5;omega) ad ja)
   ·simp only[if_neg h1,if_neg ad];have e:n=s.view.num:=by omega
    subst e;cases cw:bR s.view.mem bz
    ·exact key ao (ahi s bM c7 bz [] cw ja)
    ·exact key ao (ahh s bM c7 bz [] cw ⟨ja.view,ja.hist,ja.dec,ja.als,ja.dbts⟩)
 |o9 n l=>
  obtain⟨dl,a2,a3⟩:=kI;have ao:=Ur s n dl.1 dl.2 l a2 a3;unfold ul;by_cases h1:n<s.view.num
  ·simp only[if_pos h1];exact key ao (L8 s bM c7 bz [] (by simp) nt (GC n _) (by show (2:Int)≠4;omega) (by show (2:Int)≠5;omega) h1 ja)
  ·by_cases ad:s.view.num<n
   ·simp only[if_neg h1,if_pos ad];exact key ao (Ma s bM c7 bz [] (GC n _) (by show (2:Int)≠4;omega) (by show (2:Int)≠5;omega) ad ja)
   ·simp only[if_neg h1,if_neg ad];have e:n=s.view.num:=by omega
    subst e;rw[show (bif !decide (s.status=1)|| !decide (s.view.num=s.view.num)then([]:List ca)else l)=l by rw[bM,decide_eq_true (rfl:s.view.num=s.view.num)];rfl]at ao;have pt:=(L0 s.als l l.length (Nat.le_refl _)).2;exact key ao (ahj s bM c7 bz [] l (by omega) Bq (a3 bM rfl) ⟨ja.view,ja.hist,ja.dec,by show (kd s.als l l.length).length<=100000;have:=c7.als;omega,ja.dbts⟩)
 |oo m=>
  obtain⟨dl,a2,a3⟩:=kI;have ao:=Uq s m dl;unfold ul;by_cases h1:m.view<s.view.num
  ·simp only[if_pos h1];exact key ao (L8 s bM c7 bz [] (by simp) nt (CX m) (by show (3:Int)≠4;omega) (by show (3:Int)≠5;omega) h1 ja)
  ·by_cases ad:s.view.num<m.view
   ·simp only[if_neg h1,if_pos ad];exact key ao (Ma s bM c7 bz [] (CX m) (by show (3:Int)≠4;omega) (by show (3:Int)≠5;omega) ad ja)
   ·simp only[if_neg h1,if_neg ad];have e:m.view=s.view.num:=by omega
    obtain⟨cC,cH,j3,n5⟩:=a3 bM e;have bp:=ahk s bM c7 bz [] (by simp) m dl e a2 ea.2 lR cC cH j3 ⟨ja.view,ja.hist,n5,ja.als,ja.dbts⟩
    rw[decide_eq_true cC];have hk:=key ao bp;simp only[cond_true];rw[GP];rw[List.nil_append]at hk;exact hk
theorem ah2(s:Mem)(bz:Int)(f:ni)(h:Db s bz f):bg Tryz.prog 23 [.agg (bU s),i64 bz,.aq 1 ((zV f).map bo) false] (.a1 [.agg (bU (ot s bz f).1),.aq 2 (((ot s bz f).2.map pR).map eU) false,i64 0]):=by
 unfold ot;by_cases h1:s.status=1
 ·rw[if_pos h1];exact ah1 s bz f h h1
 ·rw[if_neg h1];obtain⟨c7,ac,fj,bx,pT,kI⟩:=h;have key:=fun {pa:pN} {W:List Nat} (hk:s.status=0->pa.kind≠4) (ao:bg Tryz.prog 51 [.agg (bU s),.aq 1 (W.map bo) false] (.a1 [.agg (ie pa),.v (.bool true)]))=>ahr s c7 ac h1 bz fj bx pa W hk ao
  have sE:∀ {pa:pN},pa.kind≠4->∀ {W:List Nat},W=zV f->(∀jk eA,f≠ .ab jk eA)->bg Tryz.prog 51 [.agg (bU s),.aq 1 (W.map bo) false] (.a1 [.agg (ie pa),.v (.bool true)])->
    bg Tryz.prog 23 [.agg (bU s),i64 bz,.aq 1 ((zV f).map bo) false] (.a1 [.agg (bU (if s.status=0 then xP s f else(s,[])).1),.aq 2 (((if s.status=0 then xP s f else(s,[])).2.map pR).map eU) false,i64 0]):=fun {pa} CY {W} dT ah3 ao=>by
   have e: (if s.status=0 then xP s f else(s,[]))=(s,[]):=by
    by_cases aH:s.status=0
    ·rw[if_pos aH];cases f with
     |ab jk eA=>exact absurd rfl (ah3 jk eA)
     |_=>rfl
    ·rw[if_neg aH]
   rw[e];subst dT;exact key (fun _=>CY) ao
  cases f with
  |ab f c=>
   obtain⟨dl,a2,a3,a4,a5⟩:=kI;by_cases aH:s.status=0
   ·rw[if_pos aH];exact ahq s c7 ac aH bz fj bx f c dl a2 a4 a3
   ·rw[if_neg aH];exact key (fun e=>absurd e aH) (CD s f c dl a2 a3 a4)
  |oq=>exact sE (pa:=GB) (by show (5:Int)≠4;omega) rfl (fun _ _ e=>by cases e) (L4 s)
  |ae n=>exact sE (pa:=u5 n) (by show (1:Int)≠4;omega) rfl (fun _ _ e=>by cases e) (TB s n kI.1 kI.2)
  |o9 n l=>exact sE (by show (2:Int)≠4;omega) rfl (fun _ _ e=>by cases e) (Ur s n kI.1.1 kI.1.2 l kI.2.1 kI.2.2)
  |oo m=>exact sE (pa:=CX m) (by show (3:Int)≠4;omega) rfl (fun _ _ e=>by cases e) (Uq s m kI.1)
theorem GQ(s:bj)(aX:List dy): (dz s aX).2.length<=aX.length+1:=by
 unfold dz;cases decide ((s.dec.length:Int)=0)&&decide (0<((je s).length:Int))<;>simp
theorem ah4(s:bj)(cut:List Int): (ew s cut).2.1.length<=200:=by
 unfold ew;have h1:=GQ {s with prop:=cut,dn:=0,aL:=(l7 s.aL cut).1,box:=(gQ s.view s.box ⟨s.self,cut⟩).1} [ef s 0 1 0 0 cut];have ad:=GQ {s with prop:=cut,dn:=0} [];simp only[List.length_cons,List.length_nil]at h1 ad;cases !eS s|| !eM s.view cut
 ·cases decide (0<(s.prop.length:Int))||decide (0<(s.dec.length:Int))
  ·cases (l7 s.aL cut).2
   ·exact Nat.le_trans ad (by decide)
   ·exact Nat.le_trans h1 (by decide)
  ·exact Nat.zero_le _
 ·exact Nat.zero_le _
theorem ah5(s:bj)(m:dx): (l9 s m).2.length<=100:=by
 unfold l9;split
 ·exact Nat.zero_le _
 ·split
  ·exact Sh s m
  ·split
   ·exact Si s m
   ·split
    ·exact Sj s m
    ·split
     ·exact Nat.zero_le _
     ·simp
theorem ah6(s:bj)(m:dx): (e7 s m).2.1.length<=200:=by
 unfold e7;split
 ·exact Nat.zero_le _
 ·split
  ·exact Nat.zero_le _
  ·split
   ·exact Nat.zero_le _
   ·split
    ·cases decide (m.kind=6)<;>simp
    ·have:=GQ (l9 s m).1 (l9 s m).2;have:=ah5 s m;simp only[];omega
theorem ah7(s:bj): (ej s).2.length<=200:=by
 unfold ej;split
 ·exact Nat.zero_le _
 ·split
  ·simp
  ·have:=GQ (hW s) (iV (hW s));have:=FP (hW s);omega
def pb:dJ:=⟨fun _ _=>False,fun _ _ _=>False,fun _ _=>False,fun _=>False,fun _=>0⟩
theorem UR(v:aQ):iC v pb:=⟨fun _ _ _ h=>h.elim,fun _ _ h=>h.elim,fun _ _ _ h=>h.elim,fun _ _ _ h=>h.elim,fun _ _ h=>h.elim⟩
def vR(v:aQ)(m:Int):bj:=⟨m,v,⟨0,-1,[]⟩,[],[],0,0,[],[],[],[],0⟩
theorem ah8{v:aQ}(ac:bX v=true){m:Int}(aT:bR v.mem m=true):jd v m=(vR v m,0):=by
 unfold jd;rw[ac,aT];rfl
theorem ah9{v:aQ}(ac:bX v=true){m:Int}(aT:bR v.mem m=true):c6 (vR v m):=
 ⟨ac,aT,Int.le_refl _,(by show (0:Int)<=_;omega),(tU _).2 ⟨.inl rfl,(by show (-1:Int)<=0;omega),.inl ⟨rfl,rfl⟩⟩,fun e=>absurd rfl e,(fun e=>absurd e (by show ¬(0:Int)< -1;omega)),lz.2 (.inl rfl),lz.2 (.inl rfl),lz.2 (.inl rfl),lz.2 (.inl rfl),(rz ac).2 ⟨by simp[vR],.nil⟩,(fun e=>by
  have: (fE ([]:List cv) m).2=false:=by
   cases h: (fE ([]:List cv) m).2
   ·rfl
   ·obtain⟨b,ae,_⟩:=Cm h;cases ae
  rw[show (fE (vR v m).box (vR v m).self).2=(fE ([]:List cv) m).2 from rfl,this]at e;cases e),K1 ac,(fun r ao=>by cases ao),K1 ac,(fun r ao=>by cases ao),fun e=>absurd rfl e,.inl ⟨rfl,rfl,rfl⟩⟩
theorem Mw(v:aQ)(m:Int):ib v pb (vR v m):=
 ⟨⟨rfl,fun _ _ h=>h,(fun e=>by
  have e: (-1:Int)=0:=e;omega),(fun e=>absurd e (by show ¬(0:Int)< -1;omega)),fun _ _ h=>h.elim⟩,
  ⟨(fun b ae=>by cases ae),(fun e=>by
  have e: (0:Int)=1:=e;omega),fun _ _ h=>h,fun _ _ h=>h.elim,(fun e=>by
  have e: (0:Int)=2:=e;omega),(fun x an=>by cases an),fun e=>absurd rfl e,fun e=>absurd rfl e⟩⟩
def hj(k:Int):Nat:=if k=6 then 1 else if k=2\/k=4 then 273 else 17
theorem US(k:Int):1<=hj k/\hj k<=273:=by
 unfold hj;split
 ·omega
 ·split<;>omega
def jj(l:List dy):Nat:=(l.map fun p=>hj p.m.kind).sum
theorem Mx(l ck:List dy):jj (l++ck)=jj l+jj ck:=by simp[jj]
theorem My(p:dy)(l:List dy):jj (p::l)=hj p.m.kind+jj l:=by simp[jj]
def eZ(s:bj):Nat:=(if s.dec=[]then 16 else 0)+(if s.phase=1 then 4368 else 0)
theorem Mz(s:bj):eZ s<=4384:=by
 unfold eZ;split<;>split<;>omega
theorem GR(s:bj)(aX:List dy):16*jj (dz s aX).2+eZ (dz s aX).1<=16*jj aX+eZ s:=by
 unfold dz;cases al:decide ((s.dec.length:Int)=0)&&decide (0<((je s).length:Int))
 ·exact Nat.le_refl _
 ·rw[Bool.and_eq_true]at al;have h1:=St.1 al.1;have ad:=pK.1 al.2;have az:eZ {s with dec:=je s}+16=eZ s:=by
   unfold eZ;simp only[];rw[if_neg ad,if_pos h1];omega
  have aG:hj (ef s 0 6 0 0 (je s)).m.kind=1:=rfl;simp only[cond_true];rw[Mx,My,aG];have:jj []=0:=rfl;rw[this];omega
theorem rN(p:dy):jj [p]=hj p.m.kind:=by
 rw[My];rfl
theorem aia{s:bj}(aa:s.dec=[]){m:dx}(aT:eX s.view m=true):16*jj (l9 s m).2+eZ (l9 s m).1+1<=hj m.kind+eZ s:=by
 have aH:jj []=0:=rfl;have ab:∀t:bj,t.dec=s.dec->t.phase=s.phase->eZ t=eZ s:=fun t a b=>by
  unfold eZ;rw[a,b]
 unfold l9;rcases Cg aT with hk|hk|hk|hk|hk|hk
 ·rw[if_pos hk,hk];have e:eZ (lx s m)=eZ s:=by
   unfold lx;cases decide ((gQ s.view s.box ⟨m.src,m.cut⟩).2=0)<;>exact ab _ rfl rfl
  have:hj 1=17:=rfl;simp only[];rw[e,aH,this];omega
 ·rw[if_neg (by omega),if_pos hk,hk];have hw:hj 2=273:=rfl;have az:16*jj (jV s m).2<=272:=by
   unfold jV;cases (hq s.aL m.aB).2.2
   ·simp[aH]
   ·simp only[cond_true];rw[rN];exact Nat.le_refl 272
  have aG:eZ (jV s m).1<=eZ s:=by
   have fj:∀t:bj,t.dec=s.dec->eZ (oc t)<=eZ s:=fun t a=>by
    unfold eZ oc;simp only[];rw[a,if_neg (show ¬(0:Int)=1 by omega)];omega
   unfold jV;cases decide (s.aB<m.aB)&& !decide (s.phase=0)<;>cases (hq s.aL m.aB).2.2
   ·exact Nat.le_refl _
   ·exact Nat.le_of_eq (ab _ rfl rfl)
   ·exact fj _ rfl
   ·exact fj _ rfl
  rw[hw];omega
 ·rw[if_neg (by omega),if_neg (by omega),if_pos hk,hk];have hw:hj 3=17:=rfl;rw[hw];unfold kQ;cases ae: !decide (s.phase=1)|| !decide (m.aB=s.aB)
  ·simp only[Bool.or_eq_false_iff,Bool.not_eq_false',decide_eq_true_eq]at ae;have aib: (gq {s with br:=(fc s.view s.br ⟨m.src,m.cq,m.cut⟩).1}).dec=s.dec:=by
    unfold gq;cases !decide (({s with br:=(fc s.view s.br ⟨m.src,m.cq,m.cut⟩).1}:bj).phase=1)||decide ((({s with br:=(fc s.view s.br ⟨m.src,m.cq,m.cut⟩).1}:bj).br.length:Int)<fI ({s with br:=(fc s.view s.br ⟨m.src,m.cq,m.cut⟩).1}:bj).view.mem.length)
    ·cases (iy ({s with br:=(fc s.view s.br ⟨m.src,m.cq,m.cut⟩).1}:bj).aL ({s with br:=(fc s.view s.br ⟨m.src,m.cq,m.cut⟩).1}:bj).aB (fr ({s with br:=(fc s.view s.br ⟨m.src,m.cq,m.cut⟩).1}:bj).view ({s with br:=(fc s.view s.br ⟨m.src,m.cq,m.cut⟩).1}:bj).br ({s with br:=(fc s.view s.br ⟨m.src,m.cq,m.cut⟩).1}:bj).prop).1).2<;>rfl
    ·rfl
   generalize gq {s with br:=(fc s.view s.br ⟨m.src,m.cq,m.cut⟩).1}=A at *;simp only[cond_false];have ag:eZ s=4384:=by
    unfold eZ;rw[if_pos aa,if_pos ae.1]
   cases aw:decide (A.phase=2)
   ·simp only[cond_false];have:=Mz A;rw[aH];omega
   ·simp only[cond_true];rw[rN];have aw:=of_decide_eq_true aw;have az:eZ A=16:=by
     unfold eZ;rw[aib,if_pos aa,if_neg (by omega)]
    have aG:hj (ef A 0 4 A.aB 0 A.ct).m.kind=273:=rfl;rw[az,aG,ag];omega
  ·simp only[cond_true];rw[aH];omega
 ·rw[if_neg (by omega),if_neg (by omega),if_neg (by omega),if_pos hk,hk];have hw:hj 4=273:=rfl;rw[hw];unfold kR;cases (iy s.aL m.aB m.cut).2
  ·simp only[cond_false];have e:=ab {s with aR:=e6 s.view s.aR ⟨m.src,m.aB,m.cut⟩} rfl rfl;rw[aH];omega
  ·simp only[cond_true];have e:=ab {s with aL:=(iy s.aL m.aB m.cut).1,aR:=e6 s.view (e6 s.view s.aR ⟨m.src,m.aB,m.cut⟩) ⟨s.self,m.aB,m.cut⟩} rfl rfl;rw[rN];have:hj (ef s 0 5 m.aB 0 m.cut).m.kind=17:=rfl;rw[this];omega
 ·rw[if_neg (by omega),if_neg (by omega),if_neg (by omega),if_neg (by omega),if_pos hk,hk];have hw:hj 5=17:=rfl;simp only[];have e:=ab {s with aR:=e6 s.view s.aR ⟨m.src,m.aB,m.cut⟩} rfl rfl;rw[hw,aH];omega
 ·rw[if_neg (by omega),if_neg (by omega),if_neg (by omega),if_neg (by omega),if_neg (by omega),hk];have hw:hj 6=1:=rfl;have al:=KZ ((sD aT).1 (.inr hk));simp only[];rw[rN,hw];have az:eZ {s with dec:=m.cut}+16=eZ s:=by
   unfold eZ;simp only[];rw[if_neg al,if_pos aa];omega
  have aG:hj (ef s 0 6 0 0 m.cut).m.kind=1:=rfl;rw[aG];omega
theorem aic{s:bj}(aw:c6 s)(aI:ht s){m:dx}(aT:eX s.view m=true)(ag:m.src≠s.self):16*jj (e7 s m).2.1+eZ (e7 s m).1+1<=hj m.kind+eZ s:=by
 have ae:eS s=true:=(vy s).2 ⟨aw,aI⟩;have aH:jj []=0:=rfl;unfold e7;rw[if_neg (by rw[ae];simp),if_neg (by rw[decide_eq_true (rC aT).2];simp),if_neg (by rw[aT,decide_eq_false ag];simp)];by_cases bL:decide (0<(s.dec.length:Int))=true
 ·rw[if_pos bL];cases hk:decide (m.kind=6)
  ·simp only[cond_false];rw[rN];have aG:hj (ef s m.src 6 0 0 s.dec).m.kind=1:=rfl;have hk:=of_decide_eq_false hk;have:17<=hj m.kind:=by
    unfold hj;rw[if_neg hk];split<;>omega
   rw[aG];omega
  ·simp only[cond_true];have:=US m.kind;rw[aH];omega
 ·rw[if_neg bL];have aa:=Ci.1 (by simpa using bL);have h1:=GR (l9 s m).1 (l9 s m).2;have ad:=aia aa aT;simp only[];omega
theorem aid{s:bj}(aw:c6 s)(aI:ht s):16*jj (ej s).2+eZ (ej s).1<=eZ s+9400:=by
 have ae:eS s=true:=(vy s).2 ⟨aw,aI⟩;have aH:jj []=0:=rfl;unfold ej;rw[if_neg (by rw[ae];simp)];by_cases bL:decide (0<(s.dec.length:Int))=true
 ·rw[if_pos bL,rN];have aG:hj (ef s 0 6 0 0 s.dec).m.kind=1:=rfl;rw[aG];simp only[];omega
 ·rw[if_neg bL];have h1:=GR (hW s) (iV (hW s));have ad:jj (iV (hW s))<=307:=by
   unfold iV;rw[Mx,Mx];have az:jj (vt (hW s))<=17:=by
    unfold vt;cases (fE (hW s).box (hW s).self).2
    ·simp[aH]
    ·simp only[cond_true];rw[rN];exact Nat.le_refl 17
   have aG:jj (vu (hW s))<=273:=by
    unfold vu;cases decide ((hW s).phase=1)
    ·cases decide ((hW s).phase=2)
     ·simp[aH]
     ·simp only[cond_true,cond_false];rw[rN];exact Nat.le_refl 273
    ·simp only[cond_true];rw[rN];exact Nat.le_refl 273
   have a7:jj (vv (hW s))<=17:=by
    unfold vv;cases decide (0<=dV (hW s).aR (hW s).self)&& !decide ((hW s).phase=2)
    ·simp[aH]
    ·simp only[cond_true];rw[rN];exact Nat.le_refl 17
   omega
  have aC:=Mz (hW s);have bh:s.dec=[]:=Ci.1 (by simpa using bL);have bL:16<=eZ s:=by
   unfold eZ;rw[if_pos bh];omega
  omega
theorem aie{s:bj}(aw:c6 s)(aI:ht s){cut:List Int}(bY: (ew s cut).2.2=0):16*jj (ew s cut).2.1+eZ (ew s cut).1<=eZ s+272:=by
 obtain⟨_,_,_,sE⟩:=La aw aI bY;have aH:jj []=0:=rfl;rcases sE with⟨_,_,_,_,e⟩| ⟨_,e⟩
 ·have h1:=GR {s with prop:=cut,dn:=0,aL:=⟨0,0,cut⟩,box:=hr s.box ⟨s.self,cut⟩} [ef s 0 1 0 0 cut];rw[<-e,rN]at h1;have aG:hj (ef s 0 1 0 0 cut).m.kind=17:=rfl;have a7:eZ {s with prop:=cut,dn:=0,aL:=⟨0,0,cut⟩,box:=hr s.box ⟨s.self,cut⟩}=eZ s:=rfl;rw[aG,a7]at h1;simp only[]at h1;omega
 ·have h1:=GR {s with prop:=cut,dn:=0} [];rw[<-e,aH]at h1;have a7:eZ {s with prop:=cut,dn:=0}=eZ s:=rfl;rw[a7]at h1;simp only[]at h1;omega
structure jF where
 v0:aQ
 D:List (List Int)
 gs:Nat->dJ
def fu(G:jF)(k:Nat):aQ:=c3 G.v0 G.D k
structure eH(T:Nat)(G:jF):Prop where
 mG:GN G.v0 G.D
 num:G.v0.num<=1000
 len:G.D.length<=T
 um:T<=399
 oY:G.D.length=T->∀c,¬(G.gs G.D.length).P c
 sQ:∀k,k<=G.D.length->iC (fu G k) (G.gs k)
 dec:∀k,k<G.D.length->rD (fu G k) (G.gs k) (G.D.getD k [])
def rO(G:jF)(a:Int)(k:Nat):Prop:=ib (fu G k) (G.gs k) (vR (fu G k) a)
structure Go(a:Int)(G bV:jF):Prop where
 v0:bV.v0=G.v0
 Dc:∃E,bV.D=G.D++E
 cr:∀k,k<=G.D.length->oZ a (G.gs k) (bV.gs k)
 new:∀k,G.D.length<k->k<=bV.D.length->∀b,b≠a->rO bV b k
section
variable {T:Nat} {G bV uo:jF} {a:Int}
theorem xQ(h:Go a G bV):G.D.length<=bV.D.length:=by
 obtain⟨E,e⟩:=h.Dc;rw[e,List.length_append];omega
theorem vS(h:Go a G bV){k:Nat}(hk:k<=G.D.length):fu bV k=fu G k:=by
 obtain⟨E,e⟩:=h.Dc;unfold fu;rw[h.v0,e];exact C9 _ _ _ hk
theorem MA(h:Go a G bV){k:Nat}(hk:k<=G.D.length):bV.D.take k=G.D.take k:=by
 obtain⟨E,e⟩:=h.Dc;rw[e];exact List.take_append_of_le_length hk
theorem aif{v:aQ}{g c5:dJ}{s:bj}(au:s.phase=1->0<s.aB/\gC s.aB=s.self)(h:oZ a g c5)(bx:s.self≠a)(q:ib v g s):ib v c5 s:=by
 obtain⟨⟨jN,nw,Cw,qI,Le⟩,q⟩:=q;refine⟨⟨(h.cc _ bx).trans jN,fun e c x=>nw e c (h.ru _ _ bx x),fun e=>h.ext.v _ _ (Cw e),fun e=>h.ext.a _ _ _ (qI e),fun r c x=>Le r c (h.vB _ _ _ bx x)⟩,?_⟩;refine⟨fun b ae=>h.ext.v _ _ (q.box b ae),fun p x an=>Cs h.ext (au p).1 (q.br p x an),fun p c x=> ?_,fun r c x o=> ?_,fun p=>h.ext.a _ _ _ (q.ct p),fun x an=>h.ext.a _ _ _ (q.aR x an),fun p=>xo h.ext (q.dec p),fun p=>h.ext.p _ (q.prop p)⟩
 ·rcases h.cn _ _ x with x|x
  ·exact q.oh p c x
  ·exact absurd ((au p).2.symm.trans x) bx
 ·rcases h.cn _ _ x with x|x
  ·exact q.nb r c x o
  ·exact absurd (o.symm.trans x) bx
theorem GS(h:Go a G bV){b:Int}(ae:b≠a){k:Nat}(hk:k<=G.D.length)(aI:rO G b k):rO bV b k:=by
 unfold rO at *;rw[vS h hk];exact aif (fun e=>by
  have e: (0:Int)=1:=e;omega) (h.cr k hk) ae aI
theorem rP(a:Int)(G:jF):Go a G G:=⟨rfl,⟨[],by simp⟩,fun _ _=>xp _ _,fun k h1 ad=>by omega⟩
theorem MB(h:Go a G bV)(bb:Go a bV uo):Go a G uo:=by
 have af:=xQ h;refine⟨bb.v0.trans h.v0,?_,fun k hk=>Ct (h.cr k hk) (bb.cr k (by omega)),fun k h1 ad b ae=> ?_⟩
 ·obtain⟨E,e⟩:=h.Dc;obtain⟨aih,cd⟩:=bb.Dc;exact⟨E++aih,by rw[cd,e,List.append_assoc]⟩
 ·by_cases hk:k<=bV.D.length
  ·exact GS bb ae hk (h.new k h1 hk b ae)
  ·exact bb.new k (by omega) ad b ae
theorem lg(bI:eH T G){k:Nat}(hk:k<=G.D.length):bX (fu G k)=true/\(fu G k).num=G.v0.num+k:=UH bI.mG k hk
theorem zW(bI:eH T G){k j:Nat}(hk:k<=G.D.length)(ai:j<=G.D.length)(h: (fu G k).num=(fu G j).num):k=j:=by
 have h1:=(lg bI hk).2;have ad:=(lg bI ai).2;omega
end
structure hY(G:jF)(s:Mem):Prop where
 id:kv s.self=true
 cr:s.status=1
 cont:s.cont=[]
 first:s.first=G.v0
 af:s.hist.length<=G.D.length
 hist:s.hist=G.D.take s.hist.length
 view:s.view=fu G s.hist.length
 lC:bR s.view.mem s.self=true
 bk:qC s.view s.self s.bk
 lD:s.agr.view=s.view
 pc:s.agr.self=s.self
 jY:c6 s.agr
 lh:ht s.agr
 rQ:ib s.view (G.gs s.hist.length) s.agr
 als:dU s.view s.als=true
 vT: (s.dbts.map (·.cj)).Pairwise fun a b=>a<b
 pU:∀d∈s.dbts,d.cj≠s.self/\1<=d.ep/\d.ep<=6
 cL:∀k,s.hist.length<k->k<=G.D.length->rO G s.self k
structure aii(G:jF)(s:Mem):Prop where
 id:kv s.self=true
 eq:s= {cX with self:=s.self,cont:=s.cont}
 cont:c9 s.cont 16=true
 out:bR s.cont s.self=false
 cL:∀k,k<=G.D.length->rO G s.self k
structure aij(G:jF)(s:Mem):Prop where
 id:kv s.self=true
 cr:s.status=2
 cont:s.cont=[]
 first:s.first=G.v0
 af:s.hist.length<=G.D.length
 hist:s.hist=G.D.take s.hist.length
 view:s.view=fu G s.hist.length
 out:bR s.view.mem s.self=false
 bk:s.bk=my
 als:s.als=[]
 dbts:s.dbts=[]
 agr:s.agr=eR
def zX(G:jF)(s:Mem):Prop:=hY G s/\s.agr.dec=[]/\∀d∈s.dbts,d.cj∈ek s.view s.als false
def ih(G:jF)(s:Mem):Prop:=zX G s\/aii G s\/aij G s
def vU(G:jF)(src:Int):ni->Prop
 | .ae n=>∃k,k<=G.D.length/\n=(fu G k).num
 | .o9 n l=>∃k,k<=G.D.length/\n=(fu G k).num/\dU (fu G k) l=true
 | .oo m=>∃k,k<=G.D.length/\eX (fu G k) m=true/\nc (fu G k) (G.gs k) m/\m.src=src
 | .ab f c=>f=G.v0/\∃k,k<=G.D.length/\c=G.D.take k
 | .oq=>True
def nj(G:jF)(self:Int)(p:hI):Prop:=vU G self p.cL/\p.cZ≠self
section
variable {T:Nat} {G bV uo:jF} {a:Int}
theorem aik(h:Go a G bV){s:Mem}(bx:s.self≠a)(q:hY G s):hY bV s:=by
 have af:=xQ h;have ac:=vS h q.af;refine⟨q.id,q.cr,q.cont,q.first.trans h.v0.symm,Nat.le_trans q.af af,?_,?_,q.lC,q.bk,q.lD,q.pc,q.jY,q.lh,?_,q.als,q.vT,q.pU,fun k h1 ad=> ?_⟩
 ·rw[MA h q.af];exact q.hist
 ·rw[ac];exact q.view
 ·exact aej q.jY (h.cr _ q.af) (by rw[q.pc];exact bx) q.rQ
 ·by_cases hk:k<=G.D.length
  ·exact GS h bx hk (q.cL k h1 hk)
  ·exact h.new k (by omega) ad _ bx
theorem ail(h:Go a G bV){s:Mem}(bx:s.self≠a)(q:ih G s):ih bV s:=by
 have af:=xQ h;rcases q with⟨jN,nw⟩|q|q
 ·exact .inl ⟨aik h bx jN,nw⟩
 ·refine .inr (.inl ⟨q.id,q.eq,q.cont,q.out,fun k hk=> ?_⟩);by_cases fi:k<=G.D.length
  ·exact GS h bx fi (q.cL k fi)
  ·exact h.new k (by omega) hk _ bx
 ·have ac:=vS h q.af;refine .inr (.inr ⟨q.id,q.cr,q.cont,q.first.trans h.v0.symm,Nat.le_trans q.af af,?_,?_,q.out,q.bk,q.als,q.dbts,q.agr⟩)
  ·rw[MA h q.af];exact q.hist
  ·rw[ac];exact q.view
theorem UT(h:Go a G bV){src:Int}{f:ni}(q:vU G src f):vU bV src f:=by
 have af:=xQ h;cases f with
 |ae n=>
  obtain⟨k,hk,e⟩:=q;exact⟨k,by omega,by rw[vS h hk];exact e⟩
 |o9 n l=>
  obtain⟨k,hk,e,aG⟩:=q;exact⟨k,by omega,by rw[vS h hk];exact e,by rw[vS h hk];exact aG⟩
 |oo m=>
  obtain⟨k,hk,e,aG,a7⟩:=q;refine⟨k,by omega,by rw[vS h hk];exact e,?_,a7⟩;rw[vS h hk];exact aei (h.cr k hk).ext e aG
 |ab f c=>
  obtain⟨e,k,hk,aG⟩:=q;exact⟨e.trans h.v0.symm,k,by omega,by rw[MA h hk];exact aG⟩
 |oq=>exact trivial
theorem Dd(h:Go a G bV){src:Int}{p:hI}(q:nj G src p):nj bV src p:=⟨UT h q.1,q.2⟩
theorem De(bI:eH T G){s:Mem}{k:Nat}(fj:kv s.self=true)(aI:s.first=G.v0)(al:s.cont=[])(hk:k<=G.D.length)(bp:s.hist=G.D.take k)(cL:∀j,k<=j->j<=G.D.length->rO G s.self j):ih G (dO s (fu G k)):=by
 have ac:=(lg bI hk).1;have af:s.hist.length=k:=by rw[bp,List.length_take];omega
 cases ab:bR (fu G k).mem s.self
 ·rw[zJ ab];exact .inr (.inr ⟨fj,rfl,al,aI,by show s.hist.length<=_;omega,by show s.hist=G.D.take s.hist.length;rw[af];exact bp,by show fu G k=fu G s.hist.length;rw[af],ab,rfl,rfl,rfl,rfl⟩)
 ·have aw:=ah9 ac ab;have ha:=ah8 ac ab;have b1:=UA ac ab;rw[uc ab,ha,b1];refine .inl ⟨⟨fj,rfl,al,aI,by show s.hist.length<=_;omega,by show s.hist=G.D.take s.hist.length;rw[af];exact bp,by show fu G k=fu G s.hist.length;rw[af],ab,ahH _ _,rfl,rfl,aw,?_,?_,TN ac,.nil,(fun d aa=>by cases aa),fun j h1 ad=>cL j (by have h1:s.hist.length<j:=h1;omega) ad⟩,rfl,fun d aa=>by cases aa⟩
  ·intro e;have e: (0:Int)=1:=e;omega
  ·show ib (fu G k) (G.gs s.hist.length) (vR (fu G k) s.self);rw[af];exact cL k (Nat.le_refl _) hk
theorem GU(bI:eH T G){s:Mem}(aw:hY G s)(aa:s.agr.dec≠ []): (dp s).2=true/\∃bV,eH T bV/\Go s.self G bV/\ih bV (dp s).1:=by
 have jD:=lg bI aw.af;have tu:=(tV jD.1).1;have pO:rD (fu G s.hist.length) (G.gs s.hist.length) s.agr.dec:=by
  have:=aw.rQ.dg.dec aa;rw[aw.view]at this;exact this
 have vV: (eQ s.view s.agr.dec).2=0:=by
  have h1:=xl aw.jY.dec aa;rw[aw.lD]at h1;exact of_decide_eq_true h1
 have gj:=aec tu (bI.sQ _ aw.af) pO;have ap:s.hist.length<399:=by
  have h1:=bI.len;have ad:=bI.um;have aC:=aw.af;by_cases he:s.hist.length=T
  ·have e:G.D.length=T:=by omega
   have:=bI.oY e s.agr.dec;rw[show s.hist.length=G.D.length by omega]at gj;exact absurd gj this
  ·omega
 have jT:dp s=(dO {s with hist:=s.hist++ [s.agr.dec]} (eQ s.view s.agr.dec).1,true):=by
  unfold dp;rw[decide_eq_false (fun e=>aa (List.length_eq_zero_iff.1 (by omega))),vV,decide_eq_false (show ¬(400:Int)<=(s.hist.length:Int) by omega)];rfl
 rw[jT];refine⟨rfl,?_⟩;by_cases hk:s.hist.length<G.D.length
 ·have al:s.agr.dec=G.D.getD s.hist.length []:=aea tu (bI.sQ _ aw.af) pO (bI.dec _ hk);refine⟨G,bI,rP _ _,?_⟩;have MC: (eQ s.view s.agr.dec).1=fu G (s.hist.length+1):=by
   rw[aw.view,al];rfl
  rw[MC];refine De bI aw.id aw.first aw.cont hk ?_ (fun j h1 ad=>aw.cL j (by omega) ad)
  show s.hist++ [s.agr.dec]=G.D.take (s.hist.length+1);have ax:G.D.getD s.hist.length []=G.D[s.hist.length]:=by simp[hk]
  rw[List.take_succ_eq_append_getElem hk,<-aw.hist,al,ax]
 ·have e8:s.hist.length=G.D.length:=by
   have:=aw.af;omega
  have aim:G.D.length+1<=T:=by
   have h1:=bI.len;by_cases he:G.D.length=T
   ·have:=bI.oY he s.agr.dec;rw[e8]at gj;exact absurd gj this
   ·omega
  have UU:∀k,k<=G.D.length->fu ⟨G.v0,G.D++ [s.agr.dec],fun j=>if j<=G.D.length then G.gs j else pb⟩ k=fu G k:=fun k hk=>C9 _ _ _ hk;have ak1:∀k,k<=G.D.length->(fun j=>if j<=G.D.length then G.gs j else pb) k=G.gs k:=fun k hk=>if_pos hk;have E2: (fun j=>if j<=G.D.length then G.gs j else pb) (G.D.length+1)=pb:=if_neg (by omega);have oN: (G.D++ [s.agr.dec]).length=G.D.length+1:=by simp
  have la: (G.D++ [s.agr.dec]).getD G.D.length []=s.agr.dec:=by simp
  have kI:∀b,rO ⟨G.v0,G.D++ [s.agr.dec],fun j=>if j<=G.D.length then G.gs j else pb⟩ b (G.D.length+1):=fun b=>by
   unfold rO;simp only[];rw[if_neg (by omega)];exact Mw _ _
  have vW:Go s.self G ⟨G.v0,G.D++ [s.agr.dec],fun j=>if j<=G.D.length then G.gs j else pb⟩:=by
   refine⟨rfl,⟨_,rfl⟩,fun k hk=> ?_,fun k h1 ad b _=> ?_⟩
   ·simp only[];rw[if_pos hk];exact xp _ _
   ·simp only[oN]at ad;have:k=G.D.length+1:=by omega
    rw[this];exact kI b
  have ain: (eQ (fu G G.D.length) s.agr.dec).2=0:=by
   rw[<-e8,<-aw.view];exact vV
  have dT:eH T ⟨G.v0,G.D++ [s.agr.dec],fun j=>if j<=G.D.length then G.gs j else pb⟩:=by
   refine⟨⟨bI.mG.1,fun i ab=> ?_⟩,bI.num,by rw[oN];exact aim,bI.um,fun _ c al=> ?_,fun k hk=> ?_,fun k hk=> ?_⟩
   ·rw[oN]at ab;by_cases h:i<G.D.length
    ·have:=bI.mG.2 i h;unfold o1 at this⊢;rw[C9 _ _ _ (Nat.le_of_lt h),Mt h];exact this
    ·have cV:i=G.D.length:=by omega
     subst cV;unfold o1;rw[C9 _ _ _ (Nat.le_refl _),la];exact decide_eq_true ain
   ·simp only[oN]at al;rw[if_neg (by omega)]at al;exact al
   ·simp only[oN]at hk;by_cases h:k<=G.D.length
    ·rw[UU k h];simp only[];rw[if_pos h];exact bI.sQ k h
    ·simp only[];rw[if_neg h];exact UR _
   ·simp only[oN]at hk;have hk:k<=G.D.length:=by omega
    rw[UU k hk];simp only[];rw[if_pos hk];by_cases h:k<G.D.length
    ·rw[Mt h];exact bI.dec k h
    ·have:k=G.D.length:=by omega
     rw[this,la,<-e8];exact pO
  refine⟨_,dT,vW,?_⟩;have MC: (eQ s.view s.agr.dec).1=fu ⟨G.v0,G.D++ [s.agr.dec],fun j=>if j<=G.D.length then G.gs j else pb⟩ (G.D.length+1):=by
   unfold fu c3;simp only[];rw[la,C9 _ _ _ (Nat.le_refl _),aw.view,e8];rfl
  rw[MC];refine De dT aw.id aw.first aw.cont (by rw[oN];exact Nat.le_refl _) ?_ (fun j h1 ad=> ?_)
  ·show s.hist++ [s.agr.dec]=(G.D++ [s.agr.dec]).take (G.D.length+1);rw[List.take_of_length_le (by rw[oN];exact Nat.le_refl _),aw.hist,e8,List.take_length]
  ·simp only[oN]at ad;have:j=G.D.length+1:=by omega
   rw[this];exact kI _
theorem GV{s:Mem}(aa:s.agr.dec=[]):dp s=(s,false):=by
 unfold dp;rw[aa];rfl
theorem MD(s:Mem)(v:aQ): (dO s v).self=s.self:=by
 unfold dO;cases bR v.mem s.self<;>rfl
theorem ME(s:Mem): (dp s).1.self=s.self:=by
 unfold dp;cases decide ((s.agr.dec.length:Int)=0)
 ·cases (!decide ((eQ s.view s.agr.dec).2=0)||decide (400<=(s.hist.length:Int)))
  ·exact MD _ _
  ·rfl
 ·rfl
theorem aio(s:Mem): (ff s).self=s.self:=by
 unfold ff;cases decide (s.status=1)
 ·rfl
 ·cases (dp s).2
  ·exact ME s
  ·exact ME s
theorem MF(bI:eH T G){s:Mem}(aw:hY G s):∃bV,eH T bV/\Go s.self G bV/\ih bV (ff s):=by
 rw[rM aw.cr];by_cases aa:s.agr.dec=[]
 ·rw[GV aa];refine⟨G,bI,rP _ _,.inl ⟨?_,aa,fun d aa=> ?_⟩⟩
  ·exact⟨aw.id,aw.cr,aw.cont,aw.first,aw.af,aw.hist,aw.view,aw.lC,aw.bk,aw.lD,aw.pc,aw.jY,aw.lh,aw.rQ,aw.als,aw.vT.sublist (List.filter_sublist.map _),fun d aa=>aw.pU d (List.mem_filter.1 aa).1,aw.cL⟩
  ·have:=(List.mem_filter.1 aa).2;unfold jh at this;exact oR.1 this
 ·obtain⟨h1,bV,ad,aC,bh⟩:=GU bI aw aa;rw[h1];exact⟨bV,ad,aC,bh⟩
end
section
variable {T:Nat} {G bV uo:jF} {a:Int}
def UV(G:jF)(s:Mem)(p:dy):Prop:=eX (fu G s.hist.length) p.m=true/\nc (fu G s.hist.length) (G.gs s.hist.length) p.m/\p.m.src=s.self/\p.cZ≠s.self
theorem GW(bI:eH T G){s:Mem}(aw:hY G s){x:bj×List dy}(aS:oX s.agr x){g0:dJ}(yr:oZ s.self (G.gs s.hist.length) g0)(bW: (∀c,g0.P c->(G.gs s.hist.length).P c)\/s.hist.length<T)
  (ao:nd s.view g0 s.agr x):∃bV,eH T bV/\Go s.self G bV/\hY bV {s with agr:=x.1}/\∀p∈x.2,UV bV s p:=by
 obtain⟨c5,i1,s1,hP,jN,f1⟩:=ao;obtain⟨jM,j4,rL,GF,MG⟩:=aS;rw[aw.pc]at s1;have bM:=Ct yr s1;have vW:Go s.self G ⟨G.v0,G.D,fun j=>if j=s.hist.length then c5 else G.gs j⟩:=by
  refine⟨rfl,⟨[],by simp⟩,fun k hk=> ?_,fun k h1 ad=>by simp only[]at ad;omega⟩;simp only[];by_cases h:k=s.hist.length
  ·rw[if_pos h,h];exact bM
  ·rw[if_neg h];exact xp _ _
 have jD:∀k,fu ⟨G.v0,G.D,fun j=>if j=s.hist.length then c5 else G.gs j⟩ k=fu G k:=fun _=>rfl;have dT:eH T ⟨G.v0,G.D,fun j=>if j=s.hist.length then c5 else G.gs j⟩:=by
  refine⟨bI.mG,bI.num,bI.len,bI.um,fun e c al=> ?_,fun k hk=> ?_,fun k hk=> ?_⟩
  ·simp only[]at e al;by_cases h:G.D.length=s.hist.length
   ·rw[if_pos h]at al;rcases bW with bW|bW
    ·have:=bI.oY e c;rw[h]at this;exact this (bW c (hP c al))
    ·omega
   ·rw[if_neg h]at al;exact bI.oY e c al
  ·rw[jD];simp only[];by_cases h:k=s.hist.length
   ·rw[if_pos h,h,<-aw.view];exact i1
   ·rw[if_neg h];exact bI.sQ k hk
  ·rw[jD];simp only[];by_cases h:k=s.hist.length
   ·rw[if_pos h,h];have:=bI.dec k hk;rw[h]at this;exact xo bM.ext this
   ·rw[if_neg h];exact bI.dec k hk
 refine⟨_,dT,vW,⟨aw.id,aw.cr,aw.cont,aw.first,aw.af,aw.hist,aw.view,aw.lC,aw.bk,rL.trans aw.lD,GF.trans aw.pc,jM,j4,?_,aw.als,aw.vT,aw.pU,fun k h1 ad=> ?_⟩,fun p au=> ?_⟩
 ·show ib s.view (if s.hist.length=s.hist.length then c5 else _) x.1;rw[if_pos rfl];exact jN
 ·unfold rO;rw[jD];simp only[];rw[if_neg (by have h1:s.hist.length<k:=h1;omega)];exact aw.cL k h1 ad
 ·have bL:=MG p au;refine⟨by rw[jD,<-aw.view,<-aw.lD];exact bL.vA,?_,by rw[<-aw.pc];exact bL.src,by rw[<-aw.pc];exact bL.ny⟩;rw[jD,<-aw.view];show nc s.view (if s.hist.length=s.hist.length then c5 else _) p.m;rw[if_pos rfl];exact f1 p au
theorem aip{s:Mem}{p:dy}(bx:p.cZ≠s.self):∀x∈qQ s p,x≠s.self:=fun x an=>by
 unfold qQ at an;cases h:decide (p.cZ=0)
 ·rw[h]at an;simp only[cond_false,List.mem_singleton]at an;rw[an];exact bx
 ·rw[h]at an;simp only[cond_true,o6]at an;have:=(List.mem_filter.1 an).2;unfold fN at this;simpa using this
theorem MH{s s':Mem}(ag:s'.self=s.self)(af:s.hist.length<=G.D.length){l:List dy}(h:∀p∈l,UV G s p):∀p∈pS s' l,nj G s.self p:=fun p au=>by
 unfold pS at au;obtain⟨q,bF,au⟩:=List.mem_flatMap.1 au;unfold Da at au;obtain⟨x,an,rfl⟩:=List.mem_map.1 au;obtain⟨h1,ad,aC,bh⟩:=h q bF;exact⟨⟨_,af,h1,ad,aC⟩,by rw[<-ag];exact aip (by rw[ag];exact bh) x an⟩
theorem UW{s:Mem}(aI:s.first=G.v0)(af:s.hist.length<=G.D.length)(bp:s.hist=G.D.take s.hist.length){cZ:Int}(bx:cZ≠s.self):∀p∈ [uk s cZ],nj G s.self p:=fun p au=>by
 rw[List.mem_singleton.1 au];exact⟨⟨aI,_,af,bp⟩,bx⟩
theorem uq:∀p∈ ([]:List hI),nj G a p:=fun p au=>by cases au
theorem UX(bI:eH T G){s:Mem}(aw:zX G s){m:Nat}(aT:m<=G.D.length):∀j,s.hist.length+j<=m->ih G (gH s G.v0 (G.D.take m) s.hist.length j)/\(gH s G.v0 (G.D.take m) s.hist.length j).self=s.self/\
  ((gH s G.v0 (G.D.take m) s.hist.length j).status=1->(gH s G.v0 (G.D.take m) s.hist.length j).hist.length=s.hist.length+j)
 |0,_=>⟨.inl aw,rfl,fun _=>rfl⟩
 |j+1,ai=>by
  obtain⟨h1,ad,aC⟩:=UX bI aw aT j (by omega);unfold gH;cases bM:decide ((gH s G.v0 (G.D.take m) s.hist.length j).status=1)
  ·exact⟨h1,ad,fun e=>by have:=of_decide_eq_false bM;exact absurd e this⟩
  ·have bM:=of_decide_eq_true bM;have af:=aC bM;simp only[cond_true];generalize gH s G.v0 (G.D.take m) s.hist.length j=E at *;rcases h1 with⟨q,nw⟩|q|q
   ·have ac:c3 G.v0 (G.D.take m) (s.hist.length+j+1)=fu G (s.hist.length+j+1):=C8 _ _ (by omega);rw[ac];refine⟨De bI q.id q.first q.cont (by omega) ?_ (fun i a b=>q.cL i (by omega) b),?_,fun _=> ?_⟩
    ·show E.hist++ [(G.D.take m).getD (s.hist.length+j) []]=_;have ap:s.hist.length+j<G.D.length:=by omega
     have ax:G.D.getD (s.hist.length+j) []=G.D[s.hist.length+j]:=by simp[ap]
     rw[Mr (by omega),List.take_succ_eq_append_getElem ap,ax];have:=q.hist;rw[af]at this;rw[<-this]
    ·rw[MD];exact ad
    ·have:∀ (s:Mem) (v:aQ),(dO s v).hist=s.hist:=fun s v=>by
      unfold dO;cases bR v.mem s.self<;>rfl
     rw[this];simp only[List.length_append,List.length_cons,List.length_nil];omega
   ·rw[q.eq]at bM;have bM: (0:Int)=1:=bM;omega
   ·rw[q.cr]at bM;omega
theorem MI(bI:eH T G){s:Mem}(aw:zX G s){m:Nat}(aT:m<=G.D.length):ih G (lf s G.v0 (G.D.take m))/\(lf s G.v0 (G.D.take m)).self=s.self:=by
 have af: (G.D.take m).length=m:=by rw[List.length_take];omega
 unfold lf;cases h1: (!ka G.v0 s.first||decide (((G.D.take m).length:Int)<=(s.hist.length:Int)))
 ·rw[cond_false];cases gA (fun i=>fK (s.hist.getD i []) ((G.D.take m).getD i [])) s.hist.length
  ·exact⟨.inl aw,rfl⟩
  ·simp only[Bool.or_eq_false_iff,decide_eq_false_iff_not,af]at h1;have:=UX bI aw aT ((G.D.take m).length-s.hist.length) (by rw[af];omega);exact⟨this.1,this.2.1⟩
 ·exact⟨.inl aw,rfl⟩
theorem aiq(bI:eH T G){s:Mem}(h:ih G s):∃bV,eH T bV/\Go s.self G bV/\ih bV (ff s):=by
 rcases h with⟨q,_⟩|q|q
 ·exact MF bI q
 ·have ag:s.status=0:=by rw[q.eq];rfl
  have:ff s=s:=CZ (decide_eq_false (by omega));rw[this];exact⟨G,bI,rP _ _,.inr (.inl q)⟩
 ·have:ff s=s:=CZ (decide_eq_false (by have:=q.cr;omega));rw[this];exact⟨G,bI,rP _ _,.inr (.inr q)⟩
theorem UY{s:Mem}(aw:hY G s){L:List ca}(h:dU s.view L=true):hY G {s with als:=L}:=
 ⟨aw.id,aw.cr,aw.cont,aw.first,aw.af,aw.hist,aw.view,aw.lC,aw.bk,aw.lD,aw.pc,aw.jY,aw.lh,aw.rQ,h,aw.vT,aw.pU,aw.cL⟩
theorem UZ{s:Mem}(aw:hY G s){d:h9}(h:qC s.view s.self d):hY G {s with bk:=d}:=
 ⟨aw.id,aw.cr,aw.cont,aw.first,aw.af,aw.hist,aw.view,aw.lC,h,aw.lD,aw.pc,aw.jY,aw.lh,aw.rQ,aw.als,aw.vT,aw.pU,aw.cL⟩
theorem U0{s t:Mem}(aw:hY G s)(h1:t.view=s.view)(ad:t.self=s.self)(aC:t.hist=s.hist)(bh:t.first=s.first)(bL:t.status=s.status)(c0:t.cont=s.cont)(fo:qC s.view s.self t.bk)(hn:t.agr=s.agr)(air:dU s.view t.als=true)
  (ais: (t.dbts.map (·.cj)).Pairwise fun a b=>a<b) (U1:∀d∈t.dbts,d.cj≠s.self/\1<=d.ep/\d.ep<=6):hY G t:=
 ⟨by rw[ad];exact aw.id,bL.trans aw.cr,c0.trans aw.cont,bh.trans aw.first,by rw[aC];exact aw.af,by rw[aC];exact aw.hist,by rw[h1,aC];exact aw.view,by rw[h1,ad];exact aw.lC,by rw[h1,ad];exact fo,by rw[hn,h1];exact aw.lD,by rw[hn,ad];exact aw.pc,by rw[hn];exact aw.jY,by rw[hn];exact aw.lh,by rw[h1,aC,hn];exact aw.rQ,by rw[h1];exact air,ais,by rw[ad];exact U1,by rw[ad,aC];exact aw.cL⟩
theorem MJ(s:Mem)(x:Int):∀i,(jE s x i).cont=s.cont/\(jE s x i).bk=s.bk
 |0=>⟨rfl,rfl⟩
 |i+1=>by
  have aN:=MJ s x i;have h:=Gt (jE s x i) ⟨s.view.num,(nf s.view.mem s.self x).getD i 0,s.self,x⟩;exact⟨h.2.2.2.2.2.1.trans aN.1,h.2.2.2.2.2.2.1.trans aN.2⟩
theorem U2{s:Mem}(aw:hY G s)(x:Int):hY G (hF s x):=by
 have h1:=Gz s x;have ad:=zS s x;have aC:=MJ s x (nf s.view.mem s.self x).length;have bh:=UL x aw.als;exact U0 aw h1.1 h1.2.1 h1.2.2.1 ad.2.1 ad.1 aC.1 (by have e: (hF s x).bk=s.bk:=aC.2;rw[e];exact aw.bk) ad.2.2.2 bh (by rw[h1.2.2.2.1];exact aw.vT) (by rw[h1.2.2.2.1];exact aw.pU)
theorem U3(bI:eH T G){s:Mem}(gg:ih G s){src:Int}(bx:src≠s.self){f:ni}(aI:vU G src f):
  (ot s src f).1.self=s.self/\∃bV,eH T bV/\Go s.self G bV/\ih bV (ot s src f).1/\∀p∈ (ot s src f).2,nj bV s.self p:=by
 unfold ot;rcases gg with⟨aw,aa,oj⟩|q|q
 ·rw[if_pos aw.cr];have jD:=lg bI aw.af;have zb:s.view.num=G.v0.num+s.hist.length:=by rw[aw.view];exact jD.2
  have kW:∀ {t:Mem},t.self=s.self->(ff t).self=s.self:=fun h=>(aio _).trans h;have oP:∀ {t:Mem},t.self=s.self->hY G t->∃bV,eH T bV/\Go s.self G bV/\ih bV (ff t):=fun h1 ad=>by
   obtain⟨bV,a,b,c⟩:=MF bI ad;rw[h1]at b;exact⟨bV,a,b,c⟩
  have ur: (ff s).self=s.self/\∃bV,eH T bV/\Go s.self G bV/\ih bV (ff s)/\∀p∈ [uk s src],nj bV s.self p:=by
   obtain⟨bV,a,b,c⟩:=oP rfl aw;exact⟨kW rfl,bV,a,b,c,fun p au=>Dd b (UW aw.first aw.af aw.hist bx p au)⟩
  have oQ: (ff s).self=s.self/\∃bV,eH T bV/\Go s.self G bV/\ih bV (ff s)/\∀p∈ ([]:List hI),nj bV s.self p:=by
   obtain⟨bV,a,b,c⟩:=oP rfl aw;exact⟨kW rfl,bV,a,b,c,uq⟩
  have jT:∀ {t:Mem},t.self=s.self->hY G t->(ff t).self=s.self/\∃bV,eH T bV/\Go s.self G bV/\ih bV (ff t)/\∀p∈ ([]:List hI),nj bV s.self p:=fun h1 ad=>by
   obtain⟨bV,a,b,c⟩:=oP h1 ad;exact⟨kW h1,bV,a,b,c,uq⟩
  unfold ul;cases f with
  |ab f c=>
   obtain⟨rfl,m,aT,rfl⟩:=aI;obtain⟨dX,de⟩:=MI bI ⟨aw,aa,oj⟩ aT;obtain⟨bV,a,b,c⟩:=aiq bI dX;rw[de]at b;exact⟨kW de,bV,a,b,c,uq⟩
  |oq=>
   cases cw:bR s.view.mem src
   ·have ao:=U2 aw src;have h1:=(Gz s src).2.1;obtain⟨bV,a,b,c⟩:=oP h1 ao;refine⟨kW h1,bV,a,b,c,fun p au=>Dd b ?_⟩;have:=UW ao.first ao.af ao.hist (cZ:=src) (by rw[h1];exact bx) p au
    rw[h1]at this;exact this
   ·exact ur
  |ae n=>
   simp only[];by_cases h1:n<s.view.num
   ·rw[if_pos h1];exact ur
   ·rw[if_neg h1];by_cases ad:s.view.num<n
    ·rw[if_pos ad];exact oQ
    ·rw[if_neg ad];cases bR s.view.mem src
     ·exact oQ
     ·exact jT rfl (UZ aw (UB (by rw[aw.view];exact jD.1) aw.lC aw.bk src))
  |o9 n l=>
   simp only[];by_cases h1:n<s.view.num
   ·rw[if_pos h1];exact ur
   ·rw[if_neg h1];by_cases ad:s.view.num<n
    ·rw[if_pos ad];exact oQ
    ·rw[if_neg ad];obtain⟨k,hk,e,ac⟩:=aI;have kJ:k=s.hist.length:=zW bI hk aw.af (by rw[<-aw.view,<-e];omega);rw[kJ,<-aw.view]at ac;exact jT rfl (UY aw (Up aw.als ac).1)
  |oo m=>
   obtain⟨k,hk,ac,vX,mR⟩:=aI;have Df:=(rC ac).2;simp only[];by_cases h1:m.view<s.view.num
   ·rw[if_pos h1];exact ur
   ·rw[if_neg h1];by_cases ad:s.view.num<m.view
    ·rw[if_pos ad];exact oQ
    ·rw[if_neg ad];have kJ:k=s.hist.length:=zW bI hk aw.af (by rw[<-aw.view,<-Df];omega);rw[kJ,<-aw.view]at ac vX;have hU:=bI.sQ _ aw.af;rw[<-aw.view]at hU;obtain⟨bY,sp⟩:=Li hU aw.jY aw.lh aw.lD aw.rQ ac (by rw[mR,aw.pc];exact bx) vX;have xR:=K7 aw.jY aw.lh bY;obtain⟨ut,g1,g2,g3,g4⟩:=GW bI aw xR (xp _ _) (.inl fun _ h=>h) sp;rw[decide_eq_true bY,cond_true];obtain⟨GX,cx,cM,gl⟩:=MF g1 g3;have gh:=xQ g2;exact⟨kW rfl,GX,cx,MB g2 cM,gl,fun p au=>Dd cM (MH (s:=s) rfl (by have:=aw.af;omega) g4 p au)⟩
 ·have ag:s.status=0:=by rw[q.eq];rfl
  rw[if_neg (by omega),if_pos ag];have lo:s.self=s.self/\∃bV,eH T bV/\Go s.self G bV/\ih bV s/\∀p∈ ([]:List hI),nj bV s.self p:=⟨rfl,G,bI,rP _ _,.inr (.inl q),uq⟩
  cases f with
  |ab f c=>
   obtain⟨rfl,m,aT,rfl⟩:=aI;unfold xP xK;have af: (G.D.take m).length=m:=by rw[List.length_take];omega
   have ac:c3 G.v0 (G.D.take m) (G.D.take m).length=fu G m:=by rw[af];exact C8 _ _ (Nat.le_refl _)
   simp only[ac];cases cw:bR (fu G m).mem s.self
   ·refine⟨rfl,G,bI,rP _ _,.inr (.inl ⟨q.id,?_,(lB (lg bI aT).1).2.2,cw,q.cL⟩),uq⟩;rw[cond_false];conv=>lhs;rw[q.eq]
   ·rw[cond_true];exact⟨MD _ _,G,bI,rP _ _,De bI q.id rfl rfl aT rfl (fun j _ ad=>q.cL j ad),uq⟩
  |oq=>exact lo
  |ae n=>exact lo
  |o9 n l=>exact lo
  |oo m=>exact lo
 ·rw[if_neg (by have:=q.cr;omega),if_neg (by have:=q.cr;omega)];exact⟨rfl,G,bI,rP _ _,.inr (.inr q),uq⟩
end
def xS(s:Mem):List hI:=(iD (dq s.view.mem s.self)).map (fun m=>⟨m,.ae s.view.num⟩)++bif decide (0<(s.als.length:Int))then(o6 s).map (fun m=>⟨m,.o9 s.view.num s.als⟩)else []
theorem ait(s:Mem): (xS s).map pR=xM s:=by
 unfold xS xM;rw[List.map_append,List.map_map];congr 1;cases decide (0<(s.als.length:Int))
 ·rfl
 ·simp only[cond_true,List.map_map];rfl
def sR(s:Mem):List hI:=
 bif decide ((s.agr.prop.length:Int)=0)then
  bif (ey s.view s.als).2 then
   bif decide ((ew s.agr (ey s.view s.als).1).2.2=0)then pS {s with agr:=(ew s.agr (ey s.view s.als).1).1} (ew s.agr (ey s.view s.als).1).2.1
   else []
  else []
 else []
theorem U4(s:Mem): (sR s).map pR=(ec s).2:=by
 unfold sR ec;cases decide ((s.agr.prop.length:Int)=0)
 ·rfl
 ·cases (ey s.view s.als).2
  ·rfl
  ·cases decide ((ew s.agr (ey s.view s.als).1).2.2=0)
   ·rfl
   ·exact GP _ _
def uu(s:Mem):List hI:=pS {s with agr:=(ej s.agr).1} (ej s.agr).2
def zY(s:Mem):List hI:=
 bif (dp (hi (ec (cz s)).1).1).2 then sR (cz s)++uu (ec (cz s)).1
 else sR (cz s)++uu (ec (cz s)).1++xS (dp (hi (ec (cz s)).1).1).1
theorem aiu(s:Mem): (zY s).map pR=(nh s).2:=by
 unfold zY nh;cases (dp (hi (ec (cz s)).1).1).2
 ·simp only[cond_false,List.map_append,U4,ait];rw[show (uu (ec (cz s)).1).map pR=_ from GP _ _];rfl
 ·simp only[cond_true,List.map_append,U4];rw[show (uu (ec (cz s)).1).map pR=_ from GP _ _];rfl
def ou(s:Mem):Mem×List hI:=if s.status=1 then((nh s).1,zY s)else if s.status=0 then(s,s.cont.map fun m=>⟨m,.oq⟩)else(s,[])
structure xT(s:Mem):Prop where
 km:fe s
 v:mE s=true
 act:s.status=1->GH s
section
variable {T:Nat} {G bV uo:jF} {a:Int}
theorem U5(s:Mem)(l:List Int):∀i,(ji s l i).cont=s.cont/\(ji s l i).bk=s.bk
 |0=>⟨rfl,rfl⟩
 |i+1=>by
  have aN:=U5 s l i;have h:=MJ (ji s l i) (l.getD i 0) (nf (ji s l i).view.mem (ji s l i).self (l.getD i 0)).length;exact⟨h.1.trans aN.1,h.2.trans aN.2⟩
theorem aiv(s:Mem): (cz s).cont=s.cont/\(cz s).bk=(cJ s.bk).1:=by
 have h:=vN {s with bk:=(cJ s.bk).1} (cJ s.bk).2 (cJ s.bk).2.length;have ad:=fun t:Mem=>U5 {t with dbts:=iF t.self t.dbts (ek t.view t.als false)} (hy t.self t.dbts (ek t.view t.als false)) (hy t.self t.dbts (ek t.view t.als false)).length;have ad:=ad (lE {s with bk:=(cJ s.bk).1} (cJ s.bk).2);exact⟨ad.1.trans h.2.2.2.2.2.2.2.2.1,ad.2.trans h.2.2.2.2.2.2.2.1⟩
theorem U6(s:Mem)(h:∀d∈s.dbts,1<=d.ep/\d.ep<=6):vQ (cz s).view (cz s).self (cz s).als (cz s).dbts:=by
 have hk:=vN {s with bk:=(cJ s.bk).1} (cJ s.bk).2 (cJ s.bk).2.length;have h1:=ahZ (s:=lE {s with bk:=(cJ s.bk).1} (cJ s.bk).2) (by
  have e: (lE {s with bk:=(cJ s.bk).1} (cJ s.bk).2).dbts=s.dbts:=hk.2.2.2.1;rw[e];exact h)
 have ao:=Uu (lE {s with bk:=(cJ s.bk).1} (cJ s.bk).2);rw[<-ao.1,<-ao.2.1]at h1;exact h1
theorem MK(bI:eH T G){s:Mem}(aw:hY G s):hY G (cz s):=by
 obtain⟨cx,cM,gl,kK,tB,vE⟩:=zT s;obtain⟨dX,de⟩:=aiv s;have oj:=U6 s fun d aa=>(aw.pU d aa).2;have jD:=lg bI aw.af;refine U0 aw cx cM gl vE tB dX ?_ kK (UN aw.als) oj.up (fun d aa=> ?_)
 ·rw[de];exact ahI (by rw[aw.view];exact jD.1) aw.lC aw.bk
 ·have:=oj.zU d aa;rw[cM]at this;exact⟨this.1,this.2.2⟩
theorem ML(bI:eH T G){s:Mem}(aw:hY G s)(aO:s.hist.length<T):∃bV,eH T bV/\Go s.self G bV/\hY bV (ec s).1/\∀p∈sR s,nj bV s.self p:=by
 have lo:∃bV,eH T bV/\Go s.self G bV/\hY bV s/\∀p∈ ([]:List hI),nj bV s.self p:=⟨G,bI,rP _ _,aw,uq⟩
 unfold ec sR;cases decide ((s.agr.prop.length:Int)=0)
 ·exact lo
 ·cases (ey s.view s.als).2
  ·exact lo
  ·cases aC:decide ((ew s.agr (ey s.view s.als).1).2.2=0)
   ·exact lo
   ·have bY:=of_decide_eq_true aC;have hU:=bI.sQ _ aw.af;rw[<-aw.view]at hU;have sp:=aeB hU aw.jY aw.lh aw.lD aw.rQ bY;have xR:=SR aw.jY aw.lh bY;have aH:=(S9 (c:=(ey s.view s.als).1) hU s.self).2;obtain⟨ut,g1,g2,g3,g4⟩:=GW bI aw xR aH (.inr aO) sp;have gh:=xQ g2;exact⟨ut,g1,g2,g3,MH (s:=s) rfl (by have:=aw.af;omega) g4⟩
theorem U7(bI:eH T G){s:Mem}(aw:hY G s):∃bV,eH T bV/\Go s.self G bV/\hY bV (hi s).1/\∀p∈uu s,nj bV s.self p:=by
 have hU:=bI.sQ _ aw.af;rw[<-aw.view]at hU;have sp:=aeA hU aw.jY aw.lh aw.lD aw.rQ;have xR:=SQ aw.jY aw.lh;obtain⟨ut,g1,g2,g3,g4⟩:=GW bI aw xR (xp _ _) (.inl fun _ h=>h) sp;have gh:=xQ g2;exact⟨ut,g1,g2,g3,MH (s:=s) rfl (by have:=aw.af;omega) g4⟩
theorem aiw(bI:eH T G){s:Mem}(aw:hY G s):∀p∈xS s,nj G s.self p:=fun p au=>by
 have jD:=lg bI aw.af;have vP:=(lB jD.1).2.2;rw[<-aw.view]at vP;unfold xS at au;rcases List.mem_append.1 au with au|au
 ·obtain⟨m,aT,rfl⟩:=List.mem_map.1 au;have:=af8 vP (oR.1 aw.lC) m (Lk.1 aT);exact⟨⟨_,aw.af,by rw[aw.view]⟩,this.2⟩
 ·cases h:decide (0<(s.als.length:Int))
  ·rw[h]at au;cases au
  ·rw[h,cond_true]at au;obtain⟨m,aT,rfl⟩:=List.mem_map.1 au;have aT:=(List.mem_filter.1 aT).2;unfold fN at aT;exact⟨⟨_,aw.af,by rw[aw.view],by rw[<-aw.view];exact aw.als⟩,by simpa using aT⟩
theorem U8(bI:eH T G){s:Mem}(gg:ih G s)(aO:s.hist.length<T):
  (ou s).1.self=s.self/\∃bV,eH T bV/\Go s.self G bV/\ih bV (ou s).1/\∀p∈ (ou s).2,nj bV s.self p:=by
 unfold ou;rcases gg with⟨aw,aa,oj⟩|q|q
 ·rw[if_pos aw.cr];obtain⟨cx,cM,gl,kK,tB,vE⟩:=zT s;have aix:=U6 s fun d aa=>(aw.pU d aa).2;have qO:=MK bI aw;have kX:=C0 (cz s);obtain⟨GX,g1,g2,g3,g4⟩:=ML bI qO (by rw[gl];exact aO);unfold zY nh;generalize cz s=S3 at *;rw[cM]at g2 g4;generalize sR S3=U9 at *;generalize ec S3=P at *;obtain⟨S4,xO⟩:=P;simp only[]at kX g3⊢;obtain⟨hP,ir,vz,vO,GJ,Mg,GK⟩:=kX;obtain⟨MM,ps,r3,xU,MN⟩:=U7 g1 g3;have fx: (hi S4).1.self=S4.self/\(hi S4).1.als=S4.als/\(hi S4).1.view=S4.view/\(hi S4).1.dbts=S4.dbts:=⟨rfl,rfl,rfl,rfl⟩
  generalize uu S4=Va at *;generalize(hi S4).2=C5 at *;generalize(hi S4).1=S5 at *;rw[ir,cM]at r3 MN;have GY:S5.self=s.self:=by rw[fx.1,ir,cM]
  have Vb:=MB g2 r3;have Vc:∀p∈U9++Va,nj MM s.self p:=fun p au=>by
   rcases List.mem_append.1 au with au|au
   ·exact Dd r3 (g4 p au)
   ·exact MN p au
  by_cases c2:S5.agr.dec=[]
  ·rw[GV c2,cond_false,cond_false];refine⟨GY,MM,ps,Vb,.inl ⟨xU,c2,fun d aa=> ?_⟩,fun p au=> ?_⟩
   ·simp only[]at aa⊢;rw[fx.2.2.2,GK]at aa;have:=(aix.zU d aa).2.1;rw[fx.2.1,fx.2.2.1,vO,hP];exact this
   ·rcases List.mem_append.1 au with au|au
    ·exact Vc p au
    ·have:=aiw ps xU p au;rw[GY]at this;exact this
  ·obtain⟨s1,aiy,s2,ET,aiz⟩:=GU ps xU c2;rw[s1,cond_true,cond_true];rw[GY]at ET;exact⟨(ME S5).trans GY,aiy,s2,MB Vb ET,aiz,fun p au=>Dd ET (Vc p au)⟩
 ·have ag:s.status=0:=by rw[q.eq];rfl
  rw[if_neg (by omega),if_pos ag];refine⟨rfl,G,bI,rP _ _,.inr (.inl q),fun p au=> ?_⟩;obtain⟨m,aT,rfl⟩:=List.mem_map.1 au;refine⟨trivial,fun e=> ?_⟩;have e:m=s.self:=e;have:=q.out;rw[<-e,oR.2 aT]at this;cases this
 ·rw[if_neg (by have:=q.cr;omega),if_neg (by have:=q.cr;omega)];exact⟨rfl,G,bI,rP _ _,.inr (.inr q),uq⟩
end
theorem GZ{v:aQ}{m:dx}(ac:bX v=true)(h:eX v m=true):rJ m:=by
 obtain⟨h1,ad⟩:=rC h;obtain⟨jM,j4,rL⟩:=lB ac;have ag:=Ge rL _ (oR.1 h1);have hk:=Cg h;have ae:=sD h;have mD:∀ {r:Int},ev v r=true->1024<r/\r<1073741824:=fun au=>⟨rB (mb au).1,Lj (mb au).1⟩;have vV:∀ {c:List Int},eM v c=true->kx c:=fun al=>UG (by decide) (zu (of_decide_eq_true al));have aH:kx []:=⟨by simp,fun x an=>by cases an⟩
 unfold eX at h;cases al: (!bX v|| !bR v.mem m.src|| !decide (m.view=v.num))
 ·simp only[al,cond_false]at h;rcases hk with hk|hk|hk|hk|hk|hk;all_goals simp only[hk]at h
  ·simp only[decide_true,Bool.true_or,cond_true,Bool.and_eq_true,decide_eq_true_eq]at h;exact⟨by omega,by omega,by omega,by omega,by omega,vV h.2⟩
  ·simp only[show decide ((2:Int)=1)=false from rfl,show decide ((2:Int)=6)=false from rfl,decide_true,Bool.or_self,cond_true,cond_false,Bool.and_eq_true,decide_eq_true_eq]at h;have:=mD h.1.1.1;have qf:m.cut=[]:=List.length_eq_zero_iff.1 (by omega);exact⟨by omega,by omega,by omega,by omega,by omega,by rw[qf];exact aH⟩
  ·have aC:=ae.2.2.1 hk;have:=mD aC.1;rcases aC.2.2 with⟨az,aG⟩| ⟨az,aG⟩
   ·exact⟨by omega,by omega,by omega,by omega,by omega,by rw[aG];exact aH⟩
   ·refine⟨by omega,by omega,by omega,by omega,?_,vV aG⟩;rcases az with az|az
    ·omega
    ·have:=mD az;omega
  ·simp only[show decide ((4:Int)=1)=false from rfl,show decide ((4:Int)=6)=false from rfl,show decide ((4:Int)=2)=false from rfl,show decide ((4:Int)=3)=false from rfl,decide_true,Bool.or_self,cond_true,cond_false,Bool.and_eq_true,decide_eq_true_eq]at h;have:=mD h.1.1.1;exact⟨by omega,by omega,by omega,by omega,by omega,vV h.2⟩
  ·simp only[show decide ((5:Int)=1)=false from rfl,show decide ((5:Int)=6)=false from rfl,show decide ((5:Int)=2)=false from rfl,show decide ((5:Int)=3)=false from rfl,show decide ((5:Int)=4)=false from rfl,decide_true,Bool.or_self,cond_true,cond_false,Bool.and_eq_true,decide_eq_true_eq]at h;have:=mD h.1.1;exact⟨by omega,by omega,by omega,by omega,by omega,vV h.2⟩
  ·simp only[show decide ((6:Int)=1)=false from rfl,decide_true,Bool.or_true,cond_true,Bool.and_eq_true,decide_eq_true_eq]at h;exact⟨by omega,by omega,by omega,by omega,by omega,vV h.2⟩
 ·simp only[al,cond_true]at h;cases h
section
variable {T:Nat} {G:jF}
theorem Vd(bI:eH T G){s:Mem}(h:zX G s):fe s:=by
 obtain⟨aw,_,oj⟩:=h;have ac:=(kM (lg bI aw.af).1).2;rw[<-aw.view]at ac;have aH:=(kM bI.mG.1).2;obtain⟨d1,d2,d3,d4⟩:=aw.bk;have ak2:=Fg s.view.mem s.self;have ap:=bI.len;have aO:=bI.um;have Lv:=aw.af;refine⟨by rw[aw.cont];exact Nat.zero_le _,by rw[aw.first];omega,by omega,fun c al=> ?_,by omega,by rw[d1];omega,by omega,fun e he=> ?_,by have:=GO aw.als;omega,?_,FW aw.jY⟩
 ·rw[aw.hist]at al;have:=(yP bI.mG c (List.mem_of_mem_take al)).1.1;omega
 ·obtain⟨k,hk,rfl⟩:=List.getElem_of_mem he;exact(d4 k hk).2.2.2
 ·exact ahS ⟨aw.vT,fun d aa=>⟨(aw.pU d aa).1,oj d aa,(aw.pU d aa).2⟩⟩
theorem Dg(bI:eH T G){s:Mem}(h:ih G s):fe s:=by
 rcases h with h|q|q
 ·exact Vd bI h
 ·have af:=(CA q.cont).2;rw[q.eq];refine⟨?_,Nat.zero_le _,Nat.zero_le _,(fun c al=>by cases al),Nat.zero_le _,Nat.zero_le _,Nat.zero_le _,(fun c al=>by cases al),Nat.zero_le _,Nat.zero_le _,SS⟩;show s.cont.length<=1000;omega
 ·have ac:=(kM (lg bI q.af).1).2;rw[<-q.view]at ac;have aH:=(kM bI.mG.1).2;have ap:=bI.len;have aO:=bI.um;have Lv:=q.af;refine⟨by rw[q.cont];exact Nat.zero_le _,by rw[q.first];omega,by omega,fun c al=> ?_,by omega,by rw[q.bk];exact Nat.zero_le _,by rw[q.bk];exact Nat.zero_le _,(by rw[q.bk];exact fun e he=>by cases he),by rw[q.als];exact Nat.zero_le _,by rw[q.dbts];exact Nat.zero_le _,by rw[q.agr];exact SS⟩;rw[q.hist]at al;have:=(yP bI.mG c (List.mem_of_mem_take al)).1.1;omega
theorem MO(bI:eH T G){s:Mem}(aI:s.first=G.v0)(af:s.hist.length<=G.D.length)(bp:s.hist=G.D.take s.hist.length): (hD s.first s.hist).2=true/\(hD s.first s.hist).1=hX s.first s.hist s.hist.length/\c3 s.first s.hist s.hist.length=fu G s.hist.length:=by
 have aO:=bI.um;have ap:=bI.len;have:=UI bI.mG (by omega) s.hist.length af;rw[<-bp]at this;rw[aI];refine⟨this.1,this.2,?_⟩;have e:=C8 G.v0 G.D (Nat.le_refl s.hist.length);rw[<-bp]at e;exact e
theorem G0(bI:eH T G){s:Mem}(h:ih G s):mE s=true:=by
 unfold mE;rcases h with⟨aw,aa,oj⟩|q|q
 ·obtain⟨dX,de,zZ⟩:=MO bI aw.first aw.af aw.hist
  have jD:=(lg bI aw.af).1;rw[<-aw.view]at zZ jD;have ag:ka (c3 s.first s.hist s.hist.length) s.view=true:=by rw[zZ];exact vJ _
  have h1:vH s=true:=by
   unfold vH;have aiA:=Mn jD aw.lC aw.bk;obtain⟨d1,d2,_⟩:=aw.bk;have fx:=(vy s.agr).2 ⟨aw.jY,aw.lh⟩;have aiB:=ahT (s:=s) ⟨aw.vT,fun d aa=>⟨(aw.pU d aa).1,oj d aa,(aw.pU d aa).2⟩⟩;rw[aw.lC,aiA,decide_eq_true d2,d1,vJ,fx,decide_eq_true aw.pc,aw.lD,vJ,aa,aw.als,aiB];rfl
  rw[aw.id,dX,aw.cont,ag,h1,aw.cr];rfl
 ·have fj:=q.id;have al:=q.cont;have aF:=q.out;rw[fj];have e:s.status=0:=by rw[q.eq];rfl
  rw[e,al,aF];have az:s.first=jX:=by rw[q.eq];rfl
  have aG:s.hist=[]:=by rw[q.eq];rfl
  have a7:s.view=jX:=by rw[q.eq];rfl
  have b5:ud s=true:=by rw[q.eq];rfl
  rw[az,aG,a7,b5,vJ];rfl
 ·obtain⟨dX,de,zZ⟩:=MO bI q.first q.af q.hist
  rw[<-q.view]at zZ;have ag:ka (c3 s.first s.hist s.hist.length) s.view=true:=by rw[zZ];exact vJ _
  have b5:ud s=true:=by
   unfold ud;rw[q.agr,q.bk,q.als,q.dbts];rfl
  rw[q.id,dX,q.cont,ag,q.cr,q.out,b5];rfl
theorem aiC(bI:eH T G){s:Mem}(aw:hY G s):zN s:=by
 have aO:=bI.um;have ap:=bI.len;have af:=aw.af;refine⟨by rw[aw.first];exact bI.mG.1,by omega,fun c al=> ?_⟩;rw[aw.hist]at al;exact(yP bI.mG c (List.mem_of_mem_take al)).1
theorem aiD(bI:eH T G){s:Mem}(gg:ih G s){src:Int}(fj:kv src=true)(bx:src≠s.self){f:ni}(aI:vU G src f):Db s src f:=by
 have pT:s.status=1->zX G s:=fun bM=>by
  rcases gg with h|q|q
  ·exact h
  ·rw[q.eq]at bM;have bM: (0:Int)=1:=bM;omega
  ·have:=q.cr;omega
 refine⟨Dg bI gg,G0 bI gg,fj,bx,fun bM=> ?_,?_⟩
 ·have aw:=(pT bM).1;exact⟨aiC bI aw,by rw[aw.view];exact(lg bI aw.af).1,aw.als⟩
 ·have Ve:∀k,k<=G.D.length->0<=(fu G k).num/\(fu G k).num<=1099511627776:=fun k hk=>⟨(lB (lg bI hk).1).1,(lB (lg bI hk).1).2.1⟩;cases f with
  |ae n=>
   obtain⟨k,hk,rfl⟩:=aI;exact Ve k hk
  |o9 n l=>
   obtain⟨k,hk,rfl,ac⟩:=aI;refine⟨Ve k hk,GO ac,fun bM e=> ?_⟩;have aw:=(pT bM).1;have kJ:k=s.hist.length:=zW bI hk aw.af (by rw[<-aw.view];exact e);rw[kJ,<-aw.view]at ac;exact ac
  |oo m=>
   obtain⟨k,hk,ac,vX,mR⟩:=aI;refine⟨GZ (lg bI hk).1 ac,mR,fun bM e=> ?_⟩;have aw:=(pT bM).1;have Df:=(rC ac).2;have kJ:k=s.hist.length:=zW bI hk aw.af (by rw[<-aw.view,<-Df];exact e);rw[kJ,<-aw.view]at ac vX;have hU:=bI.sQ _ aw.af;rw[<-aw.view]at hU;have me:=(lg bI aw.af).1;rw[<-aw.view]at me;obtain⟨bY,sp⟩:=Li hU aw.jY aw.lh aw.lD aw.rQ ac (by rw[mR,aw.pc];exact bx) vX;obtain⟨jM,_,rL,_,MG⟩:=K7 aw.jY aw.lh bY;exact⟨bY,Nat.le_trans (ah6 _ _) (by decide),fun p au=>GZ me (by rw[<-aw.lD];exact(MG p au).vA),(FW jM).dec⟩
  |ab f c=>
   obtain⟨rfl,k,hk,rfl⟩:=aI;have aO:=bI.um;have ap:=bI.len;refine⟨bI.mG.1,by rw[List.length_take];omega,fun x an=>(yP bI.mG x (List.mem_of_mem_take an)).1,(UI bI.mG (by omega) k hk).1,fun bM=> ?_⟩;exact UQ (Dg bI (MI bI (pT bM) hk).1)
  |oq=>exact trivial
theorem aiE{s:bj}{c:List Int}(h: (ew s c).2.2≠0): (ew s c).2.1=[]:=by
 unfold ew at h⊢;cases h1: !eS s|| !eM s.view c
 ·rw[h1,cond_false]at h;rw[cond_false];cases ad:decide (0<(s.prop.length:Int))||decide (0<(s.dec.length:Int))
  ·rw[ad,cond_false]at h;cases aC: (l7 s.aL c).2
   ·rw[aC]at h;exact absurd rfl h
   ·rw[aC]at h;exact absurd rfl h
  ·rfl
 ·rfl
theorem aiF(bI:eH T G){s:Mem}(gg:ih G s)(aO:s.hist.length<T):xT s:=by
 refine⟨Dg bI gg,G0 bI gg,fun bM=> ?_⟩;have pT:zX G s:=by
  rcases gg with h|q|q
  ·exact h
  ·rw[q.eq]at bM;have bM: (0:Int)=1:=bM;omega
  ·have:=q.cr;omega
 have aw:=pT.1;obtain⟨cx,cM,gl,kK,tB,vE⟩:=zT s;have qO:=MK bI aw;obtain⟨GX,g1,g2,g3,g4⟩:=ML bI qO (by rw[gl];exact aO);have me:=(lg bI aw.af).1;rw[<-aw.view]at me;have kX:=C0 (cz s);have yE:=SQ g3.jY g3.lh;have Vf:=UN (s:=s) aw.als;refine⟨Vd bI pT,me,?_,fun d aa=> ?_,?_,by rw[cx];exact Vf,⟨Nat.le_trans (ah4 _ _) (by decide),fun p au=> ?_⟩,FW g3.jY,⟨Nat.le_trans (ah7 _) (by decide),fun p au=> ?_⟩,(FW yE.1).dec,ahR _ _⟩
 ·have:=GO (Mu (s:={s with bk:=(cJ s.bk).1}) (l:=(cJ s.bk).2) aw.als (cJ s.bk).2.length);exact Nat.le_trans this (by decide)
 ·have:=(aw.pU d aa).2;omega
 ·have:=GO Vf;omega
 ·by_cases aC: (ew (cz s).agr (ey (cz s).view (cz s).als).1).2.2=0
  ·have:=((SR qO.jY qO.lh aC).2.2.2.2 p au).vA;exact GZ me (by rw[<-cx,<-qO.lD];exact this)
  ·rw[aiE aC]at au;cases au
 ·have:=(yE.2.2.2.2 p au).vA;exact GZ me (by rw[<-cx,<-kX.1,<-g3.lD];exact this)
end
def wf:ni->Nat
 | .ae _=>2
 | .o9 _ _=>2
 | .oo m=>hj m.kind
 | .ab _ _=>1
 | .oq=>2
theorem Vg(f:ni):1<=wf f:=by
 cases f with
 |oo m=>exact(US m.kind).1
 |ab f c=>exact Nat.le_refl 1
 |_=>exact(by decide:1<=2)
def ky(l:List hI):Nat:=(l.map fun p=>wf p.cL).sum
theorem sS:ky []=0:=rfl
theorem aiG(p:hI)(l:List hI):ky (p::l)=wf p.cL+ky l:=by simp[ky]
theorem Dh(l ck:List hI):ky (l++ck)=ky l+ky ck:=by simp[ky]
theorem Di{α:Type}{g:α->hI}{n:Nat}(h:∀x,wf (g x).cL<=n):∀l:List α,ky (l.map g)<=n*l.length
 | []=>by simp[ky]
 |x::l=>by
  have:=Di h l;have:=h x;rw[List.map_cons,aiG,List.length_cons,Nat.mul_succ];omega
theorem G1{s:Mem}(ea:s.view.mem.length<=16):∀l:List dy,ky (pS s l)<=16*jj l
 | []=>by simp[pS,ky,jj]
 |p::l=>by
  have aN:=G1 ea l;have e:pS s (p::l)=Da s p++pS s l:=by simp[pS]
  have h1:ky (Da s p)<=hj p.m.kind* (qQ s p).length:=Di (g:=fun id=>hI.mk id (.oo p.m)) (n:=hj p.m.kind) (fun _=>Nat.le_refl _) (qQ s p);have ad:hj p.m.kind* (qQ s p).length<=hj p.m.kind*16:=Nat.mul_le_mul_left _ (LU s ea p);rw[e,Dh,My];omega
def eF(s:Mem):Nat:=(if s.status=1 then eZ s.agr else 16)+16* (401-s.hist.length)
theorem Vh(s:Mem):eF s<=10800:=by
 have:=Mz s.agr;unfold eF;split<;>omega
theorem aiH(v:aQ)(x:Int):eZ (jd v x).1<=16:=by
 unfold jd;cases (!bX v|| !bR v.mem x)
 ·exact Nat.le_refl 16
 ·exact Nat.le_refl 16
theorem MP(s:Mem)(v:aQ):eF (dO s v)<=16+16* (401-s.hist.length):=by
 unfold dO eF;have:=aiH v s.self;cases bR v.mem s.self
 ·simp only[cond_false];rw[if_neg (by omega)];omega
 ·simp only[cond_true];rw[if_pos trivial];omega
theorem aiI{s:bj}(h:s.dec=[]):16<=eZ s:=by
 unfold eZ;rw[if_pos h];omega
section
variable {T:Nat} {G:jF}
theorem Vi(bI:eH T G){s:Mem}(aw:hY G s):eF (dp s).1<=eF s:=by
 by_cases aa:s.agr.dec=[]
 ·rw[GV aa];exact Nat.le_refl _
 ·have ad:=(GU bI aw aa).1;unfold dp at ad⊢;cases aC:decide ((s.agr.dec.length:Int)=0)
  ·rw[aC,cond_false]at ad;rw[cond_false];cases bh: (!decide ((eQ s.view s.agr.dec).2=0)||decide (400<=(s.hist.length:Int)))
   ·rw[cond_false];simp only[Bool.or_eq_false_iff,decide_eq_false_iff_not]at bh;have:=MP {s with hist:=s.hist++ [s.agr.dec]} (eQ s.view s.agr.dec).1;simp only[List.length_append,List.length_cons,List.length_nil]at this;have bL:16* (401-s.hist.length)<=eF s:=by
     unfold eF;omega
    show eF (dO {s with hist:=s.hist++ [s.agr.dec]} (eQ s.view s.agr.dec).1)<=eF s;omega
   ·exact Nat.le_of_eq (by
     rw[bh]at ad;cases ad)
  ·exact Nat.le_refl _
theorem MQ(bI:eH T G){s:Mem}(aw:hY G s):eF (ff s)<=eF s:=by
 rw[rM aw.cr];have h1:=Vi bI aw;cases (dp s).2
 ·exact h1
 ·exact h1
theorem G2{s t:Mem}(h1:t.status=s.status)(ad:t.agr=s.agr)(aC:t.hist=s.hist):eF t=eF s:=by
 unfold eF;rw[h1,ad,aC]
theorem aiJ(bI:eH T G){s:Mem}(h:ih G s):eF (ff s)<=eF s:=by
 rcases h with⟨q,_⟩|q|q
 ·exact MQ bI q
 ·rw[CZ (decide_eq_false (by rw[q.eq];show ¬(0:Int)=1;omega))];exact Nat.le_refl _
 ·rw[CZ (decide_eq_false (by have:=q.cr;omega))];exact Nat.le_refl _
theorem Vj(s:Mem)(first:aQ)(aE:List (List Int))(k:Nat)(h:s.agr.dec=[])(bM:s.status=1):∀j,(gH s first aE k j).agr.dec=[]/\eF (gH s first aE k j)<=eF s
 |0=>⟨h,Nat.le_refl _⟩
 |j+1=>by
  have aN:=Vj s first aE k h bM j
  unfold gH;cases vp:decide ((gH s first aE k j).status=1)
  ·exact aN
  ·simp only[cond_true];generalize gH s first aE k j=E at *
   have vp:=of_decide_eq_true vp;refine⟨?_,?_⟩
   ·unfold dO;cases bR (c3 first aE (k+j+1)).mem E.self
    ·rfl
    ·simp only[cond_true];unfold jd;cases (!bX (c3 first aE (k+j+1))|| !bR (c3 first aE (k+j+1)).mem E.self)<;>rfl
   ·have h1:=MP {E with hist:=E.hist++ [aE.getD (k+j) []]} (c3 first aE (k+j+1));have ad:=aiI aN.1;have aC:eF E=eZ E.agr+16* (401-E.hist.length):=by
     unfold eF;rw[if_pos vp]
    simp only[List.length_append,List.length_cons,List.length_nil]at h1;omega
theorem aiK{s:Mem}(f:aQ)(c:List (List Int))(h:s.agr.dec=[])(bM:s.status=1):eF (lf s f c)<=eF s:=by
 unfold lf;cases (!ka f s.first||decide ((c.length:Int)<=(s.hist.length:Int)))
 ·rw[cond_false];cases gA (fun i=>fK (s.hist.getD i []) (c.getD i [])) s.hist.length
  ·exact Nat.le_refl _
  ·exact(Vj s f c _ h bM _).2
 ·exact Nat.le_refl _
theorem aiL(bI:eH T G){s:Mem}(gg:ih G s){src:Int}(bx:src≠s.self){f:ni}(aI:vU G src f):ky (ot s src f).2+eF (ot s src f).1<=wf f+eF s:=by
 have eh:=Vg f;have bf:∀s' cZ,ky [uk s' cZ]=1:=fun _ _=>rfl;unfold ot;rcases gg with⟨aw,aa,oj⟩|q|q
 ·rw[if_pos aw.cr];have oP:∀ {t:Mem},hY G t->eF t=eF s->eF (ff t)<=eF s:=fun h1 ad=>by rw[<-ad];exact MQ bI h1
  have ur:ky [uk s src]+eF (ff s)<=wf f+eF s:=by
   have:=oP aw rfl;rw[bf];omega
  have oQ:∀ {t:Mem},hY G t->eF t=eF s->ky []+eF (ff t)<=wf f+eF s:=fun h1 ad=>by
   have:=oP h1 ad;rw[sS];omega
  have jD:=lg bI aw.af;unfold ul;cases f with
  |ab f c=>
   obtain⟨rfl,m,aT,rfl⟩:=aI;obtain⟨dX,de⟩:=MI bI ⟨aw,aa,oj⟩ aT;have h1:=aiJ bI dX;have ad:=aiK G.v0 (G.D.take m) aa aw.cr;simp only[sS];omega
  |oq=>
   cases cw:bR s.view.mem src
   ·have ao:=U2 aw src;have h1:=zS s src;have ad:=oP ao (G2 h1.1 h1.2.2.2 h1.2.2.1);simp only[cond_false];rw[bf];omega
   ·exact ur
  |ae n=>
   simp only[];by_cases h1:n<s.view.num
   ·rw[if_pos h1];exact ur
   ·rw[if_neg h1];by_cases ad:s.view.num<n
    ·rw[if_pos ad];exact oQ aw rfl
    ·rw[if_neg ad];cases bR s.view.mem src
     ·exact oQ aw rfl
     ·exact oQ (UZ aw (UB (by rw[aw.view];exact jD.1) aw.lC aw.bk src)) (G2 rfl rfl rfl)
  |o9 n l=>
   simp only[];by_cases h1:n<s.view.num
   ·rw[if_pos h1];exact ur
   ·rw[if_neg h1];by_cases ad:s.view.num<n
    ·rw[if_pos ad];exact oQ aw rfl
    ·rw[if_neg ad];obtain⟨k,hk,e,ac⟩:=aI;have kJ:k=s.hist.length:=zW bI hk aw.af (by rw[<-aw.view,<-e];omega);rw[kJ,<-aw.view]at ac;exact oQ (UY aw (Up aw.als ac).1) (G2 rfl rfl rfl)
  |oo m=>
   obtain⟨k,hk,ac,vX,mR⟩:=aI;have Df:=(rC ac).2;simp only[];by_cases h1:m.view<s.view.num
   ·rw[if_pos h1];exact ur
   ·rw[if_neg h1];by_cases ad:s.view.num<m.view
    ·rw[if_pos ad];exact oQ aw rfl
    ·rw[if_neg ad];have kJ:k=s.hist.length:=zW bI hk aw.af (by rw[<-aw.view,<-Df];omega);rw[kJ,<-aw.view]at ac vX;have hU:=bI.sQ _ aw.af;rw[<-aw.view]at hU;have Vk:m.src≠s.agr.self:=by rw[mR,aw.pc];exact bx
     obtain⟨bY,sp⟩:=Li hU aw.jY aw.lh aw.lD aw.rQ ac Vk vX;have xR:=K7 aw.jY aw.lh bY;obtain⟨ut,g1,g2,g3,g4⟩:=GW bI aw xR (xp _ _) (.inl fun _ h=>h) sp;rw[decide_eq_true bY,cond_true];have hw:=aic aw.jY aw.lh (by rw[aw.lD];exact ac) Vk;have aC:=MQ g1 g3;have bh:=G1 (s:={s with agr:=(e7 s.agr m).1}) (by show s.view.mem.length<=16;rw[aw.view];exact(kM jD.1).2) (e7 s.agr m).2.1;have bL:∀a:bj,eF {s with agr:=a}=eZ a+16* (401-s.hist.length):=fun a=>by
      unfold eF;simp only[];rw[if_pos aw.cr]
     have c0:eF s=eZ s.agr+16* (401-s.hist.length):=by
      unfold eF;rw[if_pos aw.cr]
     have fo:=bL (e7 s.agr m).1;simp only[]at aC bh⊢;show _<=hj m.kind+_;omega
 ·have ag:s.status=0:=by rw[q.eq];rfl
  rw[if_neg (by omega),if_pos ag];cases f with
  |ab f c=>
   have bp:s.hist=[]:=by rw[q.eq];rfl
   have au:eF s=16+16*401:=by
    unfold eF;rw[if_neg (by omega),bp];rfl
   unfold xP xK;simp only[sS];cases bR (c3 f c c.length).mem s.self
   ·simp only[cond_false];have:eF {s with cont:=(c3 f c c.length).mem}=eF s:=G2 rfl rfl rfl;omega
   ·simp only[cond_true];have:=MP {s with first:=f,hist:=c,cont:=[]} (c3 f c c.length);simp only[]at this;omega
  |_=>
   simp only[xP,sS];omega
 ·rw[if_neg (by have:=q.cr;omega),if_neg (by have:=q.cr;omega)];simp only[sS];omega
theorem aiM(bI:eH T G){s:Mem}(gg:ih G s)(aO:s.hist.length<T):ky (ou s).2+eF (ou s).1<=eF s+10000:=by
 unfold ou;rcases gg with⟨aw,aa,oj⟩|q|q
 ·rw[if_pos aw.cr];obtain⟨cx,cM,gl,kK,tB,vE⟩:=zT s;have qO:=MK bI aw;have ea:∀ {G:jF} {t:Mem},eH T G->hY G t->t.view.mem.length<=16:=fun bI aw=>by rw[aw.view];exact(kM (lg bI aw.af).1).2
  have Vl:∀ {t:Mem},t.status=1->t.hist=s.hist->eF t=eZ t.agr+16* (401-s.hist.length):=fun h1 ad=>by
   unfold eF;rw[if_pos h1,ad]
  have HR:=Vl aw.cr rfl;have Vm:ky (sR (cz s))+eZ (ec (cz s)).1.agr<=eZ (cz s).agr+272:=by
   unfold sR ec;cases decide (((cz s).agr.prop.length:Int)=0)
   ·simp only[cond_false,sS];omega
   ·cases (ey (cz s).view (cz s).als).2
    ·simp only[cond_false,cond_true,sS];omega
    ·cases aC:decide ((ew (cz s).agr (ey (cz s).view (cz s).als).1).2.2=0)
     ·simp only[cond_false,cond_true,sS];omega
     ·have h1:=aie qO.jY qO.lh (of_decide_eq_true aC);have ad:=G1 (s:={cz s with agr:=(ew (cz s).agr (ey (cz s).view (cz s).als).1).1}) (by show (cz s).view.mem.length<=16;exact ea bI qO) (ew (cz s).agr (ey (cz s).view (cz s).als).1).2.1;simp only[cond_true]at ad⊢;omega
  have kX:=C0 (cz s);obtain⟨GX,g1,g2,g3,g4⟩:=ML bI qO (by rw[gl];exact aO);unfold zY nh;rw[kK]at Vm;generalize cz s=S3 at *;generalize sR S3=U9 at *;generalize ec S3=P at *;obtain⟨S4,xO⟩:=P;simp only[]at kX g3 Vm⊢;obtain⟨hP,ir,vz,vO,GJ,Mg,GK⟩:=kX;have fx:=aid g3.jY g3.lh;have Vn:=G1 (s:={S4 with agr:=(ej S4.agr).1}) (by show S4.view.mem.length<=16;exact ea g1 g3) (ej S4.agr).2;obtain⟨MM,ps,r3,xU,MN⟩:=U7 g1 g3;have du: (hi S4).1= {S4 with agr:=(ej S4.agr).1}:=rfl;have iU:uu S4=pS {S4 with agr:=(ej S4.agr).1} (ej S4.agr).2:=rfl;have Vn:ky (uu S4)<=16*jj (ej S4.agr).2:=Vn;have Oz:eF (hi S4).1=eZ (ej S4.agr).1+16* (401-s.hist.length):=Vl (by rw[du];exact GJ.trans (tB.trans aw.cr)) (by rw[du];exact vz.trans gl);generalize uu S4=Va at *;generalize(hi S4).2=C5 at *;generalize(hi S4).1=S5 at *;have jT:=Vi ps xU;by_cases c2:S5.agr.dec=[]
  ·have ae:ky (xS S5)<=42:=by
    unfold xS;have h1:=Di (g:=fun m=>hI.mk m (.ae S5.view.num)) (n:=2) (fun _=>Nat.le_refl _) (iD (dq S5.view.mem S5.self));have ad: (iD (dq S5.view.mem S5.self)).length<=5:=Nat.le_trans (zE _) (vf _ _);have aC:=Di (g:=fun m=>hI.mk m (.o9 S5.view.num S5.als)) (n:=2) (fun _=>Nat.le_refl _) (o6 S5);have bh:=Gv S5 (ea ps xU);rw[Dh];cases decide (0<(S5.als.length:Int))
    ·simp only[cond_false,sS];omega
    ·simp only[cond_true];omega
   rw[GV c2,cond_false,cond_false,Dh,Dh];simp only[];omega
  ·obtain⟨s1,_⟩:=GU ps xU c2;rw[s1,cond_true,cond_true,Dh];simp only[];omega
 ·have ag:s.status=0:=by rw[q.eq];rfl
  rw[if_neg (by omega),if_pos ag];have h1:=Di (g:=fun m=>hI.mk m .oq) (n:=2) (fun _=>Nat.le_refl _) s.cont;have ad:=(CA q.cont).2;simp only[];omega
 ·rw[if_neg (by have:=q.cr;omega),if_neg (by have:=q.cr;omega)];simp only[sS];omega
end
structure fg where
 src:Int
 dst:Int
 cL:ni
def iG(f:fg):uf:=⟨f.src,f.dst,zV f.cL⟩
def Dj:fg:=⟨0,0,.oq⟩
def iX(Ms:List Mem)(x:Int):Int:=jv (fun i=>decide ((Ms.getD i cX).self=x)) Ms.length
theorem z1(Ms:List Mem)(x:Int): (iX Ms x= -1/\∀i (h:i<Ms.length),Ms[i].self≠x)\/∃k,∃h:k<Ms.length,iX Ms x=(k:Int)/\Ms[k].self=x/\∀j (ai:j<k),(Ms[j]'(by omega)).self≠x:=by
 by_cases h:∃k,k<Ms.length/\decide ((Ms.getD k cX).self=x)=true/\∀j,j<k->decide ((Ms.getD j cX).self=x)=false
 ·obtain⟨k,hk,h1,ad⟩:=h;have ax:∀j (ai:j<Ms.length),Ms.getD j cX=Ms[j]:=fun j ai=>by simp[ai]
  refine .inr ⟨k,hk,sq hk h1 ad,?_,fun j ai=> ?_⟩
  ·have:=of_decide_eq_true h1;rw[ax k hk]at this;exact this
  ·have:=of_decide_eq_false (ad j ai);rw[ax j (by omega)]at this;exact this
 ·have bQ:∀i,i<Ms.length->decide ((Ms.getD i cX).self=x)=false:=by
   intro i;induction i using Nat.strongRecOn with
   |ind i aN=>
    intro ab;cases al:decide ((Ms.getD i cX).self=x)
    ·rfl
    ·exact absurd ⟨i,ab,al,fun j ai=>aN j ai (by omega)⟩ h
  refine .inl ⟨qo bQ,fun i ab=> ?_⟩;have:=of_decide_eq_false (bQ i ab);have ax:Ms.getD i cX=Ms[i]:=by simp[ab]
  rw[ax]at this;exact this
theorem aiN{n:Nat}(h:n<=2000000000):iJ ah 82 n:=by
 have e: (ay ah 82).bytes=40:=by kernel_rfl
 refine⟨?_,?_⟩
 ·rw[e];omega
 ·simp only[maxLen];omega
theorem aiO(Ms:List Mem)(af:Ms.length<=1000)(ba:List Bool)(fL:List uf)(x:Int)(bx:∀i (h:i<Ms.length),Ms[i].self≠x):
  b0 Tryz.prog 28 [.cells 32 (iE 1 2 3),.row 55 29 (Ms.map bU),.row 4 1 (ba.map eG),.row 82 3 (fL.map gD)] [.aP 0 0,i64 x] [true,true,true,true] [.cells 32 (iE 1 2 3),.row 55 29 (Ms.map bU),.row 4 1 (ba.map eG),.row 82 3 (fL.map gD)] (i64 (-1)):=by
 refine dw Tryz.func28 ?_;repeat' ((conv=>whnf);first|refine bc ?_|fail)
 all_goals(conv=>whnf)
 refine⟨Nat,fun i=>⟨[(0,.aP 0 0),(1,i64 x),(5,i64 i)],[.cells 32 (iE 1 2 3),.row 55 29 (Ms.map bU),.row 4 1 (ba.map eG),.row 82 3 (fL.map gD),.b6 [.aP 0 0,.own 1,.own 2,.own 3]]⟩,fun i=>i<=Ms.length,fun i=>Ms.length-i,[],⟨0,Nat.zero_le _,?_⟩,?_⟩
 ·conv=>whnf
  exact⟨⟨.r,.r,.r,trivial⟩,⟨.r,.r,.r,.r,.r,trivial⟩,by rfl⟩
 ·intro i ab;by_cases dG:i<Ms.length
  ·have eY:i<(Ms.map bU).length:=by rw[List.length_map];exact dG
   have b7: (Ms.map bU)[i]?=some (bU Ms[i]):=cE dG;repeat' ((conv=>whnf);first| (refine be ?_ ?_<;>intro h)|refine⟨i,And.intro ⟨rfl,eY⟩ ?_⟩|refine⟨bU Ms[i],And.intro b7 ?_⟩|fail)
   all_goals(conv=>whnf)
   ·exact absurd (of_decide_eq_true h) (bx i dG)
   ·refine⟨i+1,dG,by simp only[];omega,?_⟩;conv=>whnf
    exact⟨⟨.r,.r,aV (bH (by omega)),trivial⟩,⟨.r,.r,.r,.r,.r,trivial⟩,by rfl⟩
   ·exfalso;have:=of_decide_eq_false h;rw[List.length_map]at this;omega
  ·have aa:decide ((i:Int)<((Ms.map bU).length:Int))=false:=by rw[List.length_map];exact decide_eq_false (by omega)
   repeat' ((conv=>whnf);first|refine dE (by assumption) ?_|fail)
   all_goals(conv=>whnf)
   exact⟨.r,⟨.r,.r,.r,.r,.r,trivial⟩,by rfl⟩
theorem Vo(Ms:List Mem)(af:Ms.length<=1000)(ba:List Bool)(fL:List uf)(x:Int):
  b0 Tryz.prog 28 [.cells 32 (iE 1 2 3),.row 55 29 (Ms.map bU),.row 4 1 (ba.map eG),.row 82 3 (fL.map gD)] [.aP 0 0,i64 x] [true,true,true,true] [.cells 32 (iE 1 2 3),.row 55 29 (Ms.map bU),.row 4 1 (ba.map eG),.row 82 3 (fL.map gD)] (i64 (iX Ms x)):=by
 rcases z1 Ms x with⟨e,bx⟩| ⟨k,hk,e,an,bx⟩
 ·rw[e];exact aiO Ms af ba fL x bx
 ·rw[e];exact agu Ms af ba fL x k hk an bx
theorem Vp(Ms:List Mem)(af:Ms.length<=1000)(ba:List Bool)(fL:List uf)(i:Nat)(ab:i<Ms.length)(aX:List dj)(aI:fL.length+aX.length<=2000000000):
  b0 Tryz.prog 30 [.cells 32 (iE 1 2 3),.row 55 29 (Ms.map bU),.row 4 1 (ba.map eG),.row 82 3 (fL.map gD)] [.aP 0 0,i64 i,.aq 2 (aX.map eU) false] [true,true,true,false] [.cells 32 (iE 1 2 3),.row 55 29 (Ms.map bU),.row 4 1 (ba.map eG),.row 82 3 ((fL++aX.map (LL Ms[i].self)).map gD)] (.a1 []):=by
 refine dw Tryz.func30 ?_;repeat' ((conv=>whnf);first|refine bc ?_|fail)
 all_goals(conv=>whnf)
 refine⟨Nat,fun k=>⟨[(0,.aP 0 0),(1,i64 i),(2,.aq 2 (aX.map eU) false),(6,i64 k)],[.cells 32 (iE 1 2 3),.row 55 29 (Ms.map bU),.row 4 1 (ba.map eG),.row 82 3 ((fL++(aX.take k).map (LL Ms[i].self)).map gD),.b6 [.aP 0 0,.own 1,.own 2,.aW]]⟩,fun k=>k<=aX.length,fun k=>aX.length-k,[],⟨0,Nat.zero_le _,?_⟩,?_⟩
 ·conv=>whnf
  exact⟨⟨.r,.r,.r,.r,trivial⟩,⟨.r,.r,.r,ch (by simp),CI,trivial⟩,by rfl⟩
 ·intro k hk;have eY:i<(Ms.map bU).length:=by rw[List.length_map];exact ab
  have b7: (Ms.map bU)[i]?=some (bU Ms[i]):=cE ab;repeat' ((conv=>whnf);first| (refine be ?_ ?_<;>intro h)|fail)
  all_goals(conv=>whnf)
  ·have ap:k<aX.length:=by simpa using h
   clear h;have aiP: (aX.map eU)[k]?=some (eU aX[k]):=cE ap;repeat' ((conv=>whnf);first|refine And.intro (by kernel_rfl) ?_|refine⟨i,And.intro ⟨rfl,eY⟩ ?_⟩|refine⟨bU Ms[i],And.intro b7 ?_⟩|refine⟨k,eU aX[k],And.intro ⟨rfl,aiP⟩ ?_⟩|refine And.intro (aiN (by simp<;>omega)) ?_|refine Exists.intro false ?_|fail)
   all_goals(conv=>whnf)
   refine⟨k+1,ap,by simp only[];omega,?_⟩;conv=>whnf
   refine⟨⟨.r,.r,.r,aV (bH (by omega)),trivial⟩,⟨.r,.r,.r,ch ?_,.r,trivial⟩,by rfl⟩;rw[List.take_succ_eq_append_getElem ap,List.map_append (l₁:=aX.take k),<-List.append_assoc,List.map_append (l₂:=List.map _ [aX[k]])];rfl
  ·have:k=aX.length:=by
    have:=of_decide_eq_false h;simp at this;exact Nat.le_antisymm hk (by omega)
   subst this;rw[List.take_length];exact⟨.r,⟨.r,.r,.r,.r,.r,trivial⟩,by rfl⟩
def xV(x:Int)(p:hI):fg:=⟨x,p.cZ,p.cL⟩
theorem Vq(x:Int)(aX:List hI): (aX.map (xV x)).map iG=(aX.map pR).map (LL x):=by
 rw[List.map_map,List.map_map];rfl
def qR(cn:Int->Int->Bool)(ba:List Bool)(X:List Mem×List fg)(f:fg):List Mem×List fg:=
 if iX X.1 f.src<0 then X else if iX X.1 f.dst<0 then X
 else bif ba.getD (iX X.1 f.dst).toNat true||cn (iX X.1 f.src) (iX X.1 f.dst)then X
 else(X.1.set (iX X.1 f.dst).toNat (ot (X.1.getD (iX X.1 f.dst).toNat cX) f.src f.cL).1,X.2++(ot (X.1.getD (iX X.1 f.dst).toNat cX) f.src f.cL).2.map (xV (ot (X.1.getD (iX X.1 f.dst).toNat cX) f.src f.cL).1.self))
def gb(cn:Int->Int->Bool)(ba:List Bool)(Ms:List Mem)(bK:List fg):Nat->List Mem×List fg
 |0=>(Ms,[])
 |k+1=>qR cn ba (gb cn ba Ms bK k) (bK.getD k Dj)
def pV(ba:List Bool)(X:List Mem×List fg)(i:Nat):List Mem×List fg:=
 bif ba.getD i true then X else(X.1.set i (ou (X.1.getD i cX)).1,X.2++(ou (X.1.getD i cX)).2.map (xV (ou (X.1.getD i cX)).1.self))
def ke(ba:List Bool)(X:List Mem×List fg):Nat->List Mem×List fg
 |0=>X
 |i+1=>pV ba (ke ba X i) i
def nk(cn:Int->Int->Bool)(ba:List Bool)(Ms:List Mem)(bK:List fg):List Mem×List fg:=ke ba (gb cn ba Ms bK bK.length) Ms.length
theorem aiQ(cn:Int->Int->Bool)(ba:List Bool)(X:List Mem×List fg)(f:fg): (qR cn ba X f).1.length=X.1.length:=by
 unfold qR;split
 ·rfl
 ·split
  ·rfl
  ·cases ba.getD (iX X.1 f.dst).toNat true||cn (iX X.1 f.src) (iX X.1 f.dst)
   ·simp
   ·rfl
theorem Dk(cn:Int->Int->Bool)(ba:List Bool)(Ms:List Mem)(bK:List fg):∀k,(gb cn ba Ms bK k).1.length=Ms.length
 |0=>rfl
 |k+1=>(aiQ _ _ _ _).trans (Dk cn ba Ms bK k)
theorem aiR(ba:List Bool)(X:List Mem×List fg)(i:Nat): (pV ba X i).1.length=X.1.length:=by
 unfold pV;cases ba.getD i true
 ·simp
 ·rfl
theorem z2(ba:List Bool)(X:List Mem×List fg):∀i,(ke ba X i).1.length=X.1.length
 |0=>rfl
 |i+1=>(aiR _ _ _).trans (z2 ba X i)
structure MR(cn:Int->Int->Bool)(ba:List Bool)(Ms:List Mem)(bK:List fg):Prop where
 n:Ms.length<=1000
 mQ:ba.length=Ms.length
 fL:bK.length<=1000000000
 ak3:∀k (hk:k<bK.length),∀b:Nat,iX (gb cn ba Ms bK k).1 bK[k].dst=(b:Int)->b<Ms.length->ba.getD b true=false->Db ((gb cn ba Ms bK k).1.getD b cX) bK[k].src bK[k].cL
 aht:∀i,i<Ms.length->ba.getD i true=false->xT ((ke ba (gb cn ba Ms bK bK.length) i).1.getD i cX)
 len:∀k,k<=bK.length->(gb cn ba Ms bK k).2.length<=1000000000
 ak4:∀i,i<=Ms.length->(ke ba (gb cn ba Ms bK bK.length) i).2.length<=1000000000
structure lj(T:Nat)(G:jF)(Ms:List Mem)(bK:List fg):Prop where
 g:eH T G
 mem:∀i (h:i<Ms.length),ih G Ms[i]
 ny:∀i j (ab:i<Ms.length) (ai:j<Ms.length),i≠j->Ms[i].self≠Ms[j].self
 fL:∀f∈bK,vU G f.src f.cL/\f.src≠f.dst/\kv f.src=true
 cL:∀a,(∀i (h:i<Ms.length),Ms[i].self≠a)->∀k,k<=G.D.length->rO G a k
def jZ(Ms:List Mem):Nat:=(Ms.map eF).sum
def ij(l:List fg):Nat:=(l.map fun f=>wf f.cL).sum
theorem Vr(l ck:List fg):ij (l++ck)=ij l+ij ck:=by simp[ij]
theorem G3:∀l:List fg,l.length<=ij l
 | []=>by simp[ij]
 |f::l=>by
  have:=G3 l;have:=Vg f.cL;have e:ij (f::l)=wf f.cL+ij l:=by simp[ij]
  rw[e,List.length_cons];omega
theorem Vs(x:Int)(aX:List hI):ij (aX.map (xV x))=ky aX:=by
 unfold ij ky;rw[List.map_map];rfl
theorem aiS{l:List fg}{k:Nat}(h:k<l.length):ij (l.drop k)=wf l[k].cL+ij (l.drop (k+1)):=by
 rw[List.drop_eq_getElem_cons h];unfold ij;rw[List.map_cons,List.sum_cons]
theorem MS{x:Mem}:∀ {Ms:List Mem} {b:Nat} (h:b<Ms.length),jZ (Ms.set b x)+eF Ms[b]=jZ Ms+eF x
 | [],b,h=>by simp at h
 |s::S,0,_=>by
  simp[jZ];omega
 |s::S,b+1,h=>by
  have:=MS (x:=x) (Ms:=S) (b:=b) (by simpa using h);simp[jZ]at this⊢;omega
theorem Vt:∀Ms:List Mem,jZ Ms<=10800*Ms.length
 | []=>by simp[jZ]
 |s::S=>by
  have:=Vt S;have:=Vh s;have e:jZ (s::S)=eF s+jZ S:=by simp[jZ]
  rw[e,List.length_cons];omega
theorem MT{l ck:List Mem}{i:Nat}{h:i<l.length}{bb:i<ck.length}(e:l[i]?=ck[i]?):l[i]=ck[i]:=by
 rw[List.getElem?_eq_getElem h,List.getElem?_eq_getElem bb]at e;exact Option.some.inj e
section
variable {T:Nat} {G bV:jF} {Ms:List Mem} {bK:List fg}
theorem Vu{G4:List fg}(h:lj T G Ms bK)(ag:∀f∈G4,f∈bK):lj T G Ms G4:=⟨h.g,h.mem,h.ny,fun f aI=>h.fL f (ag f aI),h.cL⟩
theorem Vv(h:lj T G Ms bK){b:Nat}(ae:b<Ms.length){s':Mem}(ag:s'.self=Ms[b].self)(dT:eH T bV)(vW:Go Ms[b].self G bV)(gg:ih bV s'){aX:List hI}(au:∀p∈aX,nj bV Ms[b].self p):
  lj T bV (Ms.set b s') (bK++aX.map (xV s'.self)):=by
 have kW:∀i (ab:i<(Ms.set b s').length),(Ms.set b s')[i].self=(Ms[i]'(by simpa using ab)).self:=fun i ab=>by
  rw[List.getElem_set];by_cases e:b=i
  ·subst e;rw[if_pos rfl];exact ag
  ·rw[if_neg e]
 refine⟨dT,fun i ab=> ?_,fun i j ab ai dS=> ?_,fun f aI=> ?_,fun a aZ k hk=> ?_⟩
 ·rw[List.getElem_set];by_cases e:b=i
  ·rw[if_pos e];exact gg
  ·rw[if_neg e];have cV:i<Ms.length:=by simpa using ab
   exact ail vW (h.ny i b cV ae (fun x=>e x.symm)) (h.mem i cV)
 ·rw[kW,kW];exact h.ny i j _ _ dS
 ·rcases List.mem_append.1 aI with aI|aI
  ·obtain⟨h1,ad,aC⟩:=h.fL f aI;exact⟨UT vW h1,ad,aC⟩
  ·obtain⟨p,ta,rfl⟩:=List.mem_map.1 aI;obtain⟨h1,ad⟩:=au p ta;have fj:kv Ms[b].self=true:=by
    rcases h.mem b ae with⟨q,_⟩|q|q
    ·exact q.id
    ·exact q.id
    ·exact q.id
   refine⟨?_,?_,?_⟩
   ·show vU bV s'.self p.cL;rw[ag];exact h1
   ·show s'.self≠p.cZ;rw[ag];exact fun e=>ad e.symm
   ·show kv s'.self=true;rw[ag];exact fj
 ·have Cq:∀i (ab:i<Ms.length),Ms[i].self≠a:=fun i ab=>by
   have:=aZ i (by simpa using ab);rw[kW]at this;exact this
  by_cases fi:k<=G.D.length
  ·exact GS vW (fun e=>Cq b ae e.symm) fi (h.cL a Cq k fi)
  ·exact vW.new k (by omega) hk a (fun e=>Cq b ae e.symm)
theorem Vw(cn:Int->Int->Bool)(ba:List Bool){X:List Mem×List fg}(h:lj T G X.1 (bK++X.2)){f:fg}(aI:f∈bK):
  (∀b:Nat,iX X.1 f.dst=(b:Int)->b<X.1.length->Db (X.1.getD b cX) f.src f.cL)/\
  (∃bV,bV.v0=G.v0/\lj T bV (qR cn ba X f).1 (bK++(qR cn ba X f).2))/\jZ (qR cn ba X f).1+ij (qR cn ba X f).2<=jZ X.1+ij X.2+wf f.cL:=by
 obtain⟨f1,f2,f3⟩:=h.fL f (List.mem_append_left _ aI);have kW:∀ {b:Nat} (ae:b<X.1.length),iX X.1 f.dst=(b:Int)->X.1[b].self=f.dst:=fun {b} ae e=>by
  rcases z1 X.1 f.dst with⟨az,_⟩| ⟨k,hk,az,aG,_⟩
  ·rw[az]at e;omega
  ·have:k=b:=by
    rw[az]at e;omega
   subst this;exact aG
 have lo: (∃bV,bV.v0=G.v0/\lj T bV X.1 (bK++X.2))/\jZ X.1+ij X.2<=jZ X.1+ij X.2+wf f.cL:=⟨⟨G,rfl,h⟩,by omega⟩
 refine⟨fun b e ae=> ?_,?_⟩
 ·have ax:X.1.getD b cX=X.1[b]:=by simp[ae]
  rw[ax];exact aiD h.g (h.mem b ae) f3 (by rw[kW ae e];exact f2) f1
 ·unfold qR;by_cases h1:iX X.1 f.src<0
  ·rw[if_pos h1];exact lo
  ·rw[if_neg h1];by_cases ad:iX X.1 f.dst<0
   ·rw[if_pos ad];exact lo
   ·rw[if_neg ad];cases ba.getD (iX X.1 f.dst).toNat true||cn (iX X.1 f.src) (iX X.1 f.dst)
    ·obtain⟨b,ae,e⟩:∃b,b<X.1.length/\iX X.1 f.dst=(b:Int):=by
      rcases z1 X.1 f.dst with⟨az,_⟩| ⟨k,hk,az,_⟩
      ·omega
      ·exact⟨k,hk,az⟩
     have ax:X.1.getD b cX=X.1[b]:=by simp[ae]
     rw[e,Int.toNat_natCast,ax,cond_false];have bx:f.src≠X.1[b].self:=by rw[kW ae e];exact f2
     obtain⟨gf,bV,iu,pq,zv,MU⟩:=U3 h.g (h.mem b ae) bx f1;have hw:=aiL h.g (h.mem b ae) bx f1;have bM:=Vv h ae gf iu pq zv MU;refine⟨⟨bV,pq.v0,?_⟩,?_⟩
     ·rw[List.append_assoc]at bM;exact bM
     ·have l6:=MS (x:=(ot X.1[b] f.src f.cL).1) ae;simp only[];rw[Vr,Vs];omega
    ·exact lo
theorem MV(cn:Int->Int->Bool)(ba:List Bool)(h:lj T G Ms bK):∀k,k<=bK.length->(∃bV,bV.v0=G.v0/\lj T bV (gb cn ba Ms bK k).1 (bK++(gb cn ba Ms bK k).2))/\jZ (gb cn ba Ms bK k).1+ij (gb cn ba Ms bK k).2+ij (bK.drop k)<=jZ Ms+ij bK
 |0,_=>⟨⟨G,rfl,by simpa[gb]using h⟩,by simp[gb,ij]⟩
 |k+1,hk=>by
  obtain⟨⟨bV,e,h1⟩,ad⟩:=MV cn ba h k (by omega);have ap:k<bK.length:=by omega
  have ax:bK.getD k Dj=bK[k]:=by simp[ap]
  obtain⟨_,⟨uo,cd,aC⟩,bh⟩:=Vw cn ba h1 (List.getElem_mem ap);have aa:=aiS ap;unfold gb;rw[ax];exact⟨⟨uo,cd.trans e,aC⟩,by omega⟩
theorem Vx(h:eH T G)(aO:T+1<=399):eH (T+1) G:=⟨h.mG,h.num,by have:=h.len;omega,aO,fun e=>by have:=h.len;omega,h.sQ,h.dec⟩
theorem Vy{s:Mem}(h:ih G s):s.hist.length<=G.D.length:=by
 rcases h with⟨q,_⟩|q|q
 ·exact q.af
 ·rw[q.eq];exact Nat.zero_le _
 ·exact q.af
theorem Vz(ba:List Bool){X:List Mem×List fg}(h:lj T G X.1 X.2){i:Nat}(ab:i<X.1.length)(bp:X.1[i].hist.length<T):
  xT (X.1.getD i cX)/\(∃bV,bV.v0=G.v0/\lj T bV (pV ba X i).1 (pV ba X i).2)/\jZ (pV ba X i).1+ij (pV ba X i).2<=jZ X.1+ij X.2+10000/\∀j,j≠i->(pV ba X i).1[j]?=X.1[j]?:=by
 have ax:X.1.getD i cX=X.1[i]:=by simp[ab]
 refine⟨by rw[ax];exact aiF h.g (h.mem i ab) bp,?_⟩;unfold pV;cases ba.getD i true
 ·rw[ax];simp only[cond_false];obtain⟨gf,bV,iu,pq,zv,MU⟩:=U8 h.g (h.mem i ab) bp;have hw:=aiM h.g (h.mem i ab) bp;have bM:=Vv h ab gf iu pq zv MU;have l6:=MS (x:=(ou X.1[i]).1) ab;refine⟨⟨bV,pq.v0,bM⟩,?_,fun j bx=> ?_⟩
  ·rw[Vr,Vs];omega
  ·rw[List.getElem?_set,if_neg (fun e=>bx e.symm)]
 ·exact⟨⟨G,rfl,h⟩,by simp only[cond_true];omega,fun j _=>rfl⟩
theorem MW(ba:List Bool){X:List Mem×List fg}(h:lj T G X.1 X.2)(bp:∀i (ab:i<X.1.length),X.1[i].hist.length<T):∀i,i<=X.1.length->(∃bV,bV.v0=G.v0/\lj T bV (ke ba X i).1 (ke ba X i).2)/\jZ (ke ba X i).1+ij (ke ba X i).2<=jZ X.1+ij X.2+10000*i/\∀j,i<=j->(ke ba X i).1[j]?=X.1[j]?
 |0,_=>⟨⟨G,rfl,h⟩,by simp[ke],fun _ _=>rfl⟩
 |i+1,ab=>by
  obtain⟨⟨bV,e,h1⟩,ad,aC⟩:=MW ba h bp i (by omega);have dG:i<(ke ba X i).1.length:=by rw[z2];omega
  have an: (ke ba X i).1[i]=X.1[i]:=MT (aC i (Nat.le_refl _));obtain⟨_,⟨uo,cd,bh⟩,bL,c0⟩:=Vz ba h1 dG (by rw[an];exact bp i (by omega));unfold ke;refine⟨⟨uo,cd.trans e,bh⟩,by omega,fun j dS=> ?_⟩;rw[c0 j (by omega)];exact aC j (by omega)
theorem aiT(cn:Int->Int->Bool)(ba:List Bool)(Bl:ba.length=Ms.length)(aS:Ms.length<=8)(h:lj T G Ms bK)(aO:T+1<=399)(hw:jZ Ms+ij bK<=10800*Ms.length+80000*T):
  MR cn ba Ms bK/\(∃bV,bV.v0=G.v0/\lj (T+1) bV (nk cn ba Ms bK).1 (nk cn ba Ms bK).2)/\(nk cn ba Ms bK).1.length=Ms.length/\jZ (nk cn ba Ms bK).1+ij (nk cn ba Ms bK).2<=10800*Ms.length+80000* (T+1):=by
 have aw:=MV cn ba h;obtain⟨⟨ut,az,h1⟩,ad⟩:=aw bK.length (Nat.le_refl _);have sj:lj (T+1) ut (gb cn ba Ms bK bK.length).1 (gb cn ba Ms bK bK.length).2:=by
  have:=Vu h1 (G4:=(gb cn ba Ms bK bK.length).2) (fun f aI=>List.mem_append_right _ aI);exact⟨Vx this.g aO,this.mem,this.ny,this.fL,this.cL⟩
 have gh:=Dk cn ba Ms bK bK.length;have bp:∀i (ab:i<(gb cn ba Ms bK bK.length).1.length),(gb cn ba Ms bK bK.length).1[i].hist.length<T+1:=fun i ab=>by
  have:=Vy (h1.mem i ab);have:=h1.g.len;omega
 have cR:=MW ba sj bp;have ss:=G3 bK;refine⟨⟨by omega,Bl,by omega,fun k hk b e ae _=> ?_,fun i ab _=> ?_,fun k hk=> ?_,fun i ab=> ?_⟩,?_,?_,?_⟩
 ·obtain⟨⟨bV,_,aC⟩,_⟩:=aw k (by omega);exact(Vw cn ba aC (List.getElem_mem hk)).1 b e (by rw[Dk];exact ae)
 ·have Fb:i<(gb cn ba Ms bK bK.length).1.length:=by omega
  obtain⟨⟨bV,_,aC⟩,_,bh⟩:=cR i (by omega);have dG:i<(ke ba (gb cn ba Ms bK bK.length) i).1.length:=by rw[z2];omega
  exact(Vz ba aC dG (by rw[MT (bh i (Nat.le_refl _))];exact bp i Fb)).1
 ·have:=(aw k hk).2;have:=G3 (gb cn ba Ms bK k).2;omega
 ·have:=(cR i (by omega)).2.1;have:=G3 (ke ba (gb cn ba Ms bK bK.length) i).2;have:10000*i<=80000:=by omega
  omega
 ·obtain⟨⟨bV,cd,aC⟩,_⟩:=cR Ms.length (by omega);exact⟨bV,cd.trans az,aC⟩
 ·exact(z2 _ _ _).trans gh
 ·have:=(cR Ms.length (by omega)).2.1;unfold nk;omega
end
theorem aiU(s:Mem)(h:GH s)(au:decide (((cz s).agr.prop.length:Int)=0)=true)(k3: (ey (cz s).view (cz s).als).2=true):b0 Tryz.prog 56 (eb s []) [.aP 0 0] [true,false,false,false] (eb (nh s).1 (nh s).2) (.a1 []):=by
 obtain⟨c7,me,C1,Mb,Mc,Md,⟨dk,Me⟩,C2,⟨kp,xJ⟩,pO,Uz⟩:=h;have ea:=kM me;have bx:s.view.mem≠ []:=fun e=>by have:=(CA (lB me).2.2).1;rw[e]at this;simp at this
 obtain⟨t1,t2,t3,t4,t5,t6⟩:=zT s;have az:=JS s.bk (Nat.le_trans c7.pM (by decide)) (Nat.le_trans c7.bS (by decide)) c7.Gg;have rl:=vN {s with bk:=(cJ s.bk).1} (cJ s.bk).2;have xN:=rl (cJ s.bk).2.length;have k9:iW {s with bk:=(cJ s.bk).1} (cJ s.bk).2 0= {s with bk:=(cJ s.bk).1}:=rfl;have ri:∀i,iW {s with bk:=(cJ s.bk).1} (cJ s.bk).2 (i+1)=lb (iW {s with bk:=(cJ s.bk).1} (cJ s.bk).2 i) ((cJ s.bk).2.getD i eu):=fun _=>rfl;have Jv:=Uw s.bk;have a7:=T9 (lE {s with bk:=(cJ s.bk).1} (cJ s.bk).2) (by unfold lE;rw[xN.1];exact c7.view) C1 (by unfold lE;rw[xN.2.2.2.1];exact c7.dbts) (by unfold lE;rw[xN.2.2.2.1];exact Mb) [];have C3:lE {s with bk:=(cJ s.bk).1} (cJ s.bk).2=iW {s with bk:=(cJ s.bk).1} (cJ s.bk).2 (cJ s.bk).2.length:=rfl;change b0 _ _ _ _ _ (eb (cz s) []) _ at a7;rw[C3]at a7;have C4:nh s=bif (dp (hi (ec (cz s)).1).1).2 then((dp (hi (ec (cz s)).1).1).1,(ec (cz s)).2++(hi (ec (cz s)).1).2)
  else((dp (hi (ec (cz s)).1).1).1,(ec (cz s)).2++(hi (ec (cz s)).1).2++xM (dp (hi (ec (cz s)).1).1).1):=rfl
 rw[C4];clear C4 C3 C1;have ahw:=c7.bS;generalize cz s=S3 at *;generalize iW {s with bk:=(cJ s.bk).1} (cJ s.bk).2=X at *;generalize cJ s.bk=mf at *;have kX:=C0 S3;have Mf:=Ux S3 dk (by rw[t1];exact ea.2);generalize gj:ec S3=P at *;obtain⟨S4,xO⟩:=P;simp only[]at kX Mf C2 kp xJ pO;obtain⟨hP,ir,vz,vO,GJ,Mg,GK⟩:=kX;have v4:S4.view=s.view:=hP.trans t1;have iU:=Sn S4.agr C2;have fx:hi S4=({S4 with agr:=(ej S4.agr).1},hG {S4 with agr:=(ej S4.agr).1} (ej S4.agr).2):=rfl;have ahx:=CP {S4 with agr:=(ej S4.agr).1} (by show S4.view.mem.length<=16;rw[v4];exact ea.2) (ej S4.agr).2;have kw:=Gw {S4 with agr:=(ej S4.agr).1} (by show S4.view.mem.length<=16;rw[v4];exact ea.2) (by show S4.view.mem≠ [];rw[v4];exact bx) (ej S4.agr).2 kp xJ xO (by omega);have qP:=LY {S4 with agr:=(ej S4.agr).1} (by show S4.view.mem.length<=1000;rw[v4];omega) (by show S4.hist.length<=1000;rw[vz,t3];exact c7.hist) pO (xO++hG {S4 with agr:=(ej S4.agr).1} (ej S4.agr).2);have rk:=fun ae=>L7 (s:={S4 with agr:=(ej S4.agr).1}) ae;simp only[fx];simp only[fx]at kw qP rk;clear fx;generalize hG {S4 with agr:=(ej S4.agr).1} (ej S4.agr).2=C5 at *;generalize dp {S4 with agr:=(ej S4.agr).1}=W at *;generalize ej S4.agr=ahy at *;have GL:ec S3=bif decide ((ew S3.agr (ey S3.view S3.als).1).2.2=0)then({S3 with agr:=(ew S3.agr (ey S3.view S3.als).1).1},hG {S3 with agr:=(ew S3.agr (ey S3.view S3.als).1).1} (ew S3.agr (ey S3.view S3.als).1).2.1)else(S3,[]):=by rw[ec,au,k3];rfl
 rw[GL]at gj;clear GL;have ta:decide (((S3.agr.prop.map aM).length:Int)=0)=true:=by rw[List.length_map];exact au
 have l1:=Ln S3.view (by rw[t1];omega) S3.als (by omega);have rr:=Uz;have ls:=acX S3.agr (by rw[t4];exact c7.agr) (ey S3.view S3.als).1 rr;have du:=Gw {S3 with agr:=(ew S3.agr (ey S3.view S3.als).1).1} (by show S3.view.mem.length<=16;rw[t1];exact ea.2) (by show S3.view.mem≠ [];rw[t1];exact bx) (ew S3.agr (ey S3.view S3.als).1).2.1 dk Me [] (by simp);rw[List.nil_append]at du;generalize hG {S3 with agr:=(ew S3.agr (ey S3.view S3.als).1).1} (ew S3.agr (ey S3.view S3.als).1).2.1=ak5 at *;generalize ew S3.agr (ey S3.view S3.als).1=aiV at *;generalize ey S3.view S3.als=ahz at *;clear dk Me;refine hd Tryz.func56 ?_;repeat' ((conv=>whnf);first|refine .inl ⟨_,_,aD _,az,?_⟩|fail)
 all_goals(conv=>whnf)
 refine⟨Nat,fun i=>⟨[(0,.aP 0 0),(34,.aq 4 (mf.2.map dr) false),(35,i64 mf.2.length),(36,i64 i)],[.cells 116 (gR (X i) (.own 1) (.own 2) (.own 3)),.row 22 1 (((X i)).hist.map cB),.row 150 2 (((X i)).dbts.map db),.row 121 2 ((([]:List dj)).map eU),.b6 [.aP 0 0,.own 1,.own 2,.own 3],.bd]⟩,fun i=>i<=mf.2.length,fun i=>mf.2.length-i,[],⟨0,Nat.zero_le _,?_⟩,?_⟩
 ·conv=>whnf
  exact⟨⟨.r,.r,aV (by simp),.r,trivial⟩,⟨by show fF _ (.cells _ (gR (X 0) (.own 1) (.own 2) (.own 3)));rw[k9];exact .refl,by show fF _ (.row _ _ ((X 0).hist.map cB));rw[k9];exact .refl,by show fF _ (.row _ _ ((X 0).dbts.map db));rw[k9];exact .refl,.r,.r,.bd,trivial⟩,by rfl⟩
 ·intro i ab;obtain⟨dl,_,_,_,_,_,_,_,_,a2⟩:=rl i;simp only[]at dl a2;repeat' ((conv=>whnf);first| (refine be ?_ ?_<;>intro h)|fail)
  ·have ap:i<mf.2.length:=by simpa using h
   clear h;have aG:=LP (X i) (by rw[dl];exact c7.view) (by have:=c7.als;omega) [] mf.2[i];have ax:mf.2.getD i eu=mf.2[i]:=by simp[ap]
   have kY:=ri i;rw[ax]at kY;rw[<-kY]at aG;repeat' ((conv=>whnf);first|refine⟨_,_,And.intro ⟨rfl,cE ap⟩ ?_⟩|refine .inr ⟨[0,1,2,3],_,_,_,_,_,aG,by rfl,⟨.r,.r,.r,.r,trivial⟩,⟨.r,.r,trivial⟩,?_⟩|fail)
   all_goals(conv=>whnf)
   refine⟨i+1,ap,by simp only[];omega,?_⟩;conv=>whnf
   exact⟨⟨.r,.r,.r,aV (bH (by omega)),trivial⟩,⟨.r,.r,.r,.r,.r,.bd,trivial⟩,by rfl⟩
  ·have:i=mf.2.length:=by
    simp at h;omega
   subst this;clear h;cases he:decide (aiV.2.2=0);all_goals rw[he]at gj
   all_goals cases gj
   all_goals repeat' ((conv=>whnf);first|refine eC (by assumption) ?_|refine dE (by assumption) ?_| (refine be ?_ ?_<;>intro h)|refine And.intro (by kernel_rfl) ?_|refine .inr ⟨[0,1,2,3],_,_,_,_,_,a7,by rfl,⟨.r,.r,.r,.r,trivial⟩,⟨.r,trivial⟩,?_⟩|refine .inl ⟨_,_,aD _,l1,?_⟩|refine .inl ⟨_,_,aD _,ls,?_⟩|refine .inr ⟨[0,1,2,3],_,_,_,_,_,du,by rfl,⟨.r,.r,.r,.r,trivial⟩,⟨.r,.r,trivial⟩,?_⟩|refine .inl ⟨_,_,aD _,iU,?_⟩|refine .inr ⟨[0,1,2,3],_,_,_,_,_,kw,by rfl,⟨.r,.r,.r,.r,trivial⟩,⟨.r,.r,trivial⟩,?_⟩|refine .inr ⟨[0,1,2,3],_,_,_,_,_,qP,by rfl,⟨.r,.r,.r,.r,trivial⟩,⟨.r,trivial⟩,?_⟩|fail)
   all_goals(conv=>whnf)
   all_goals rw[h]
   all_goals first
    | (refine⟨[],?_⟩<;> (conv=>whnf)<;>exact⟨.r,⟨.r,.r,.r,.r,ft ⟨.r,.aW,.aW,.aW,trivial⟩,trivial⟩,by rfl⟩)
    |skip
   all_goals
    obtain⟨eJ,kr,_,ahA,ahB,ahC,_⟩:=rk h;have eJ:W.1.view=s.view:=eJ.trans v4;generalize W.1=S6 at *;clear az iU kw qP rl k9 ri;obtain⟨jM,j4,rL⟩:=lB me;have gi: (bn S6.view.num.toNat).length<=10:=fM 9 _;have hu:=xw (n:=S6.view.num) (by rw[eJ];exact jM) (by rw[eJ];exact j4);have sK:=Ut [] (by simp) S6.view.num.toNat (by rw[eJ];omega);rw[List.nil_append]at sK;have zK:=Lx S6.view.mem (by rw[eJ];exact Nat.le_trans ea.2 (by decide)) S6.self;have j6:=vf S6.view.mem S6.self;have rr: (iD (dq S6.view.mem S6.self)).length<=5:=Nat.le_trans (zE _) j6;have al:iD (dq S6.view.mem S6.self)=Go.Lib.compact (mW (dq S6.view.mem S6.self)):=rfl;have w9:xM S6=(iD (dq S6.view.mem S6.self)).map (ig S6.view.num)++bif decide (0<(S6.als.length:Int))then(o6 S6).map (xL S6)else []:=rfl;generalize dq S6.view.mem S6.self=O at *;have xH:=F7 O (mW O) (sG _) (zD _) (by omega);have eE:=F8 (mW O) (by rw[(sG _).length_eq];omega);rw[<-al]at eE;rw[w9];clear w9 al;generalize iD O=C at *;generalize fz: (_++C5)=Q at *;have ahD:Q.length<=40000:=by rw[<-fz,List.length_append]; (try simp only[List.length_nil]at *);omega
    repeat' ((conv=>whnf);first|refine And.intro (by kernel_rfl) ?_|refine .inr ⟨[],[],_,[],_,_,sK,by rfl,trivial,⟨.ar,aV hu,trivial⟩,?_⟩|refine .inr ⟨[],[],_,[],_,_,zK,by rfl,trivial,⟨.r,.r,trivial⟩,?_⟩|refine .inr ⟨[10],_,_,_,_,_,xH,by rfl,⟨.r,trivial⟩,⟨.r,trivial⟩,?_⟩|refine .inr ⟨[10],_,_,_,_,_,eE,by rfl,⟨.r,trivial⟩,⟨.r,trivial⟩,?_⟩|fail)
    all_goals(conv=>whnf)
    have Mh:=fun(P:List dj) (gj:P.length<=100000) (cZ:Int)=>GI S6 P gj cZ 1 (by omega) (by omega) (bn S6.view.num.toNat) (by omega);first
     | (refine⟨Nat,fun i=>⟨[(0,.aP 0 0),(13,.own 5),(132,.own 6),(133,i64 C.length),(134,i64 i)],[.cells 116 (gR S6 (.own 1) (.own 2) (.own 3)),.row 22 1 ((S6).hist.map cB),.row 150 2 ((S6).dbts.map db),.row 121 2 ((Q++(C.take i).map (ig S6.view.num)).map eU),.b6 [.aP 0 0,.aW,.aW,.aW],.row 5 1 ((bn S6.view.num.toNat).map bo),.row 3 1 (C.map aM)]⟩,fun i=>i<=C.length,fun i=>C.length-i,[.dQ 5 7,.dQ 6 8],⟨0,Nat.zero_le _,?_⟩,?_⟩
        focus ((conv=>whnf)<;>exact⟨⟨.r,.r,.r,aV (by simp),.r,trivial⟩,⟨.r,.r,.r,ch (by simp[<-fz]),ft ⟨.r,.aW,.aW,.aW,trivial⟩,.r,.r,trivial⟩,by rfl⟩))
     | (refine⟨Nat,fun i=>⟨[(0,.aP 0 0),(13,.own 5),(132,.own 6),(133,i64 C.length),(134,i64 i)],[.cells 116 (gR S6 (.own 1) (.own 2) (.own 3)),.row 22 1 ((S6).hist.map cB),.row 150 2 ((S6).dbts.map db),.row 121 2 ((Q++(C.take i).map (ig S6.view.num)).map eU),.b6 [.aP 0 0,.aW,.aW,.aW],.row 5 1 ((bn S6.view.num.toNat).map bo),.row 3 1 (C.map aM)]⟩,fun i=>i<=C.length,fun i=>C.length-i,[.dQ 5 8,.dQ 6 9],⟨0,Nat.zero_le _,?_⟩,?_⟩
        focus ((conv=>whnf)<;>exact⟨⟨.r,.r,.r,aV (by simp),.r,trivial⟩,⟨.r,.r,.r,ch (by simp[<-fz]),ft ⟨.r,.aW,.aW,.aW,trivial⟩,.r,.r,trivial⟩,by rfl⟩))
     | (refine⟨Nat,fun i=>⟨[(0,.aP 0 0),(13,.own 5),(132,.own 6),(133,i64 C.length),(134,i64 i)],[.cells 116 (gR S6 (.own 1) (.own 2) (.own 3)),.row 22 1 ((S6).hist.map cB),.row 150 2 ((S6).dbts.map db),.row 121 2 ((Q++(C.take i).map (ig S6.view.num)).map eU),.b6 [.aP 0 0,.aW,.aW,.aW],.row 5 1 ((bn S6.view.num.toNat).map bo),.row 3 1 (C.map aM)]⟩,fun i=>i<=C.length,fun i=>C.length-i,[.dQ 5 9,.dQ 6 10],⟨0,Nat.zero_le _,?_⟩,?_⟩
        focus ((conv=>whnf)<;>exact⟨⟨.r,.r,.r,aV (by simp),.r,trivial⟩,⟨.r,.r,.r,ch (by simp[<-fz]),ft ⟨.r,.aW,.aW,.aW,trivial⟩,.r,.r,trivial⟩,by rfl⟩))
     | (refine⟨Nat,fun i=>⟨[(0,.aP 0 0),(13,.own 5),(132,.own 6),(133,i64 C.length),(134,i64 i)],[.cells 116 (gR S6 (.own 1) (.own 2) (.own 3)),.row 22 1 ((S6).hist.map cB),.row 150 2 ((S6).dbts.map db),.row 121 2 ((Q++(C.take i).map (ig S6.view.num)).map eU),.b6 [.aP 0 0,.aW,.aW,.aW],.row 5 1 ((bn S6.view.num.toNat).map bo),.row 3 1 (C.map aM)]⟩,fun i=>i<=C.length,fun i=>C.length-i,[.dQ 5 10,.dQ 6 11],⟨0,Nat.zero_le _,?_⟩,?_⟩
        focus ((conv=>whnf)<;>exact⟨⟨.r,.r,.r,aV (by simp),.r,trivial⟩,⟨.r,.r,.r,ch (by simp[<-fz]),ft ⟨.r,.aW,.aW,.aW,trivial⟩,.r,.r,trivial⟩,by rfl⟩))
    ·intro i ab;repeat' ((conv=>whnf);first| (refine be ?_ ?_<;>intro h)|fail)
     ·have ap:i<C.length:=by simpa using h
      clear h;have hs:=Mh (Q++(C.take i).map (ig S6.view.num)) (by rw[List.length_append,List.length_map,List.length_take];omega) C[i];have gF:Q++(C.take i).map (ig S6.view.num)++ [dj.mk C[i] (dm 1 (bn S6.view.num.toNat))]=Q++(C.take (i+1)).map (ig S6.view.num):=by
       rw[List.take_succ_eq_append_getElem ap,List.map_append,List.append_assoc];rfl
      rw[gF]at hs;have eY:i<(C.map aM).length:=by rw[List.length_map];exact ap
      have b7: (C.map aM)[i]?=some (aM C[i]):=cE ap;repeat' ((conv=>whnf);first|refine⟨i,And.intro ⟨rfl,eY⟩ ?_⟩|refine⟨aM C[i],And.intro b7 ?_⟩|refine .inr ⟨[0,1,2,3,5],_,_,_,_,_,hs,by rfl,⟨.r,.r,.r,.r,.r,trivial⟩,⟨.r,.r,.r,.r,trivial⟩,?_⟩|fail)
      all_goals(conv=>whnf)
      refine⟨i+1,ap,by simp only[];omega,?_⟩;conv=>whnf
      exact⟨⟨.r,.r,.r,.r,aV (bH (by omega)),trivial⟩,⟨.r,.r,.r,.r,.r,.r,.r,trivial⟩,by rfl⟩
     ·rename_i aH;have:i=C.length:=by
       simp at aH;omega
      subst this;clear aH;rw[List.take_length];rw[List.length_map]at h;rw[h];have Mi:dU S6.view S6.als=true:=by rw[kr,vO,eJ,<-t1];exact Md
      have h7:S6.als.length<=6000:=by rw[kr,vO];exact Mc
      have lQ:=L6 (v:=S6.view) (l:=S6.als) S6.als.length;have C6:=Rp S6.view (by rw[eJ];exact Nat.le_trans ea.2 (by decide)) S6.als (by omega);rw[Un Mi]at C6;have Mj:=LQ S6 (by rw[eJ];omega) (by rw[eJ];exact bx) (Q++C.map (ig S6.view.num));have Mk: ((bn S6.view.num.toNat).map bo).length+((eo S6.als S6.als.length).map bo).length<=2000000:=by rw[List.length_map,List.length_map];omega
      have iO: (bn S6.view.num.toNat++eo S6.als S6.als.length).length<=800000:=by rw[List.length_append];omega
      have zw: (bn S6.view.num.toNat).map bo++(eo S6.als S6.als.length).map bo=(bn S6.view.num.toNat++eo S6.als S6.als.length).map bo:=by rw[List.map_append]
      have C7:=fun(P:List dj) (gj:P.length<=100000) (cZ:Int)=>GI S6 P gj cZ 2 (by omega) (by omega) (bn S6.view.num.toNat++eo S6.als S6.als.length) iO;have Ml:∀m:Int,dj.mk m (dm 2 (bn S6.view.num.toNat++eo S6.als S6.als.length))=xL S6 m:=fun _=>rfl;have ahE: (o6 S6).length<=16:=Gv S6 (by rw[eJ];exact ea.2);simp only[Ml]at C7;have ahF: (Q++C.map (ig S6.view.num)).length<=50000:=by rw[List.length_append,List.length_map];omega
      rw[<-List.append_assoc];generalize Q++C.map (ig S6.view.num)=uj at *;generalize bn S6.view.num.toNat++eo S6.als S6.als.length=B2 at *;generalize xL S6=F at *;generalize o6 S6=Z at *;repeat' ((conv=>whnf);first|refine And.intro (by kernel_rfl) ?_|refine .inl ⟨_,_,aD _,C6,?_⟩|refine And.intro (oS Mk) ?_|refine .inr ⟨[0,1,2,3],_,_,_,_,_,Mj,by rfl,⟨.r,.r,.r,.r,trivial⟩,⟨.r,trivial⟩,?_⟩|fail)
      all_goals(conv=>whnf)
      refine⟨Nat,fun i=>⟨[(0,.aP 0 0),(17,.own 5),(164,.aq 1 (Z.map aM) false),(165,i64 Z.length),(166,i64 i)],[.cells 116 (gR S6 (.own 1) (.own 2) (.own 3)),.row 22 1 ((S6).hist.map cB),.row 150 2 ((S6).dbts.map db),.row 121 2 ((uj++(Z.take i).map F).map eU),.b6 [.aP 0 0,.aW,.aW,.aW],.row 5 1 (B2.map bo)]⟩,fun i=>i<=Z.length,fun i=>Z.length-i,[],⟨0,Nat.zero_le _,?_⟩,?_⟩
      ·conv=>whnf
       exact⟨⟨.r,.r,.r,aV (by simp),.r,trivial⟩,⟨.r,.r,.r,ch (by simp),ft ⟨.r,.aW,.aW,.aW,trivial⟩,ch zw,trivial⟩,by rfl⟩
      ·intro i ab;repeat' ((conv=>whnf);first| (refine be ?_ ?_<;>intro h)|fail)
       ·have ap:i<Z.length:=by simpa using h
        clear h;have hs:=C7 (uj++(Z.take i).map F) (by rw[List.length_append,List.length_map,List.length_take];omega) Z[i];have gF:uj++(Z.take i).map F++ [F Z[i]]=uj++(Z.take (i+1)).map F:=by
         rw[List.take_succ_eq_append_getElem ap,List.map_append,List.append_assoc];rfl
        rw[gF]at hs;repeat' ((conv=>whnf);first|refine⟨_,_,And.intro ⟨rfl,cE ap⟩ ?_⟩|refine .inr ⟨[0,1,2,3,5],_,_,_,_,_,hs,by rfl,⟨.r,.r,.r,.r,.r,trivial⟩,⟨.r,.r,.r,.r,trivial⟩,?_⟩|fail)
        all_goals(conv=>whnf)
        refine⟨i+1,ap,by simp only[];omega,?_⟩;conv=>whnf
        exact⟨⟨.r,.r,.r,.r,aV (bH (by omega)),trivial⟩,⟨.r,.r,.r,.r,.r,.r,trivial⟩,by rfl⟩
       ·have:i=Z.length:=by
         simp at h;omega
        subst this;rw[List.take_length];repeat' ((conv=>whnf);first|refine bc ?_|fail)
        all_goals(conv=>whnf)
        refine⟨[],?_⟩;conv=>whnf
        exact⟨.r,⟨.r,.r,.r,.r,.r,trivial⟩,by rfl⟩
     ·rename_i aH;have:i=C.length:=by
       simp at aH;omega
      subst this;clear aH;rw[List.take_length];rw[List.length_map]at h;rw[h];conv=>whnf
      refine⟨[],?_⟩;conv=>whnf
      exact⟨.r,⟨.r,.r,.r,ch (by simp),.r,trivial⟩,by rfl⟩
theorem aiW(s:Mem)(h:GH s):b0 Tryz.prog 56 (eb s []) [.aP 0 0] [true,false,false,false] (eb (nh s).1 (nh s).2) (.a1 []):=by
 cases h1:decide (((cz s).agr.prop.length:Int)=0)
 ·exact Uy s h (.inl h1)
 ·cases ad: (ey (cz s).view (cz s).als).2
  ·exact Uy s h (.inr ⟨h1,ad⟩)
  ·exact aiU s h h1 ad
theorem aiX(s:Mem)(h:xT s)(bM:s.status=1):bg Tryz.prog 24 [.agg (bU s)] (.a1 [.agg (bU (nh s).1),.aq 2 ((nh s).2.map eU) false]):=by
 have az:=rG s h.km;rw[h.v]at az;have b5:=zM s h.km;have bp:=LO s (aiW s (h.act bM));have aH:decide (s.status=0)=false:=by rw[bM];rfl
 have h1:decide (s.status=1)=true:=by rw[bM];rfl
 generalize nh s=R at *;refine bw Tryz.func24 ?_;repeat' ((conv=>whnf);first|refine eC (by assumption) ?_|refine dE (by assumption) ?_|exact .refl|refine And.intro (by kernel_rfl) ?_|refine .inl ⟨_,_,aD _,az,?_⟩|refine .inr ⟨[],[],_,[],_,_,b5,by rfl,trivial,⟨.r,trivial⟩,?_⟩|refine .inr ⟨[4,2,3],_,_,_,_,_,bp,by rfl,⟨.r,.r,.r,trivial⟩,⟨.r,trivial⟩,?_⟩|fail)
theorem aiY(s:Mem)(h:xT s)(aH:s.status≠0)(h1:s.status≠1):bg Tryz.prog 24 [.agg (bU s)] (.a1 [.agg (bU s),.aq 2 (([]:List dj).map eU) false]):=by
 have az:=rG s h.km;rw[h.v]at az;have b5:=zM s h.km;have aH:decide (s.status=0)=false:=decide_eq_false aH;have h1:decide (s.status=1)=false:=decide_eq_false h1;refine bw Tryz.func24 ?_;repeat' ((conv=>whnf);first|refine dE (by assumption) ?_|refine And.intro (by kernel_rfl) ?_|refine .inl ⟨_,_,aD _,az,?_⟩|refine .inr ⟨[],[],_,[],_,_,b5,by rfl,trivial,⟨.r,trivial⟩,?_⟩|fail)
 all_goals(conv=>whnf)
 all_goals exact dI ⟨.r,.ar,trivial⟩
theorem aiZ(s:Mem)(h:xT s)(bM:s.status=0)(al:s.cont.length<=1000):bg Tryz.prog 24 [.agg (bU s)] (.a1 [.agg (bU s),.aq 2 ((s.cont.map fun m=>dj.mk m vM).map eU) false]):=by
 have az:=rG s h.km;rw[h.v]at az;have b5:=zM s h.km;have aH:decide (s.status=0)=true:=decide_eq_true bM;have es:=fun(aX:List dj) (l6:aX.length<=100000) (cZ:Int)=>LR s aX l6 cZ 5 (by omega) (by omega) [] (by simp);refine bw Tryz.func24 ?_;repeat' ((conv=>whnf);first|refine eC (by assumption) ?_|refine .inl ⟨_,_,aD _,az,?_⟩|refine .inr ⟨[],[],_,[],_,_,b5,by rfl,trivial,⟨.r,trivial⟩,?_⟩|fail)
 all_goals(conv=>whnf)
 refine⟨Nat,fun i=>⟨[(2,.aP 1 0),(4,.aP 4 0),(26,.aq 1 (s.cont.map aM) false),(27,i64 s.cont.length),(28,i64 i)],[.cells 55 (bU s),.cells 55 (ay ah 55).zero,.row 22 1 (s.hist.map cB),.row 150 2 (s.dbts.map db),.cells 116 (gR s (.own 2) (.own 3) (.own 5)),.row 121 2 (((s.cont.take i).map fun m=>dj.mk m vM).map eU)]⟩,fun i=>i<=s.cont.length,fun i=>s.cont.length-i,[.cell 4 29 121 2],⟨0,Nat.zero_le _,?_⟩,?_⟩
 ·conv=>whnf
  exact⟨⟨.r,.r,.r,aV (by simp),.r,trivial⟩,⟨.r,.r,.r,.r,.r,.r,trivial⟩,by rfl⟩
 ·intro i ab;repeat' ((conv=>whnf);first| (refine be ?_ ?_<;>intro h)|refine And.intro (by kernel_rfl) ?_|fail)
  ·have ap:i<s.cont.length:=by simpa using h
   clear h;have du:=es ((s.cont.take i).map fun m=>dj.mk m vM) (by rw[List.length_map,List.length_take];omega) s.cont[i];have gF: ((s.cont.take i).map fun m=>dj.mk m vM)++ [dj.mk s.cont[i] (dm 5 [])]=(s.cont.take (i+1)).map fun m=>dj.mk m vM:=by
    rw[List.take_succ_eq_append_getElem ap,List.map_append];rfl
   rw[gF]at du;repeat' ((conv=>whnf);first|refine⟨_,_,And.intro ⟨rfl,cE ap⟩ ?_⟩|refine .inr ⟨[4,2,3,5],_,_,_,_,_,du,by rfl,⟨.r,.r,.r,.r,trivial⟩,⟨.r,.r,.r,.ar,trivial⟩,?_⟩|fail)
   all_goals(conv=>whnf)
   refine⟨i+1,ap,by simp only[];omega,?_⟩;conv=>whnf
   exact⟨⟨.r,.r,.r,.r,aV (bH (by omega)),trivial⟩,⟨.r,.r,.r,.r,.r,.r,trivial⟩,by rfl⟩
  ·have:i=s.cont.length:=by
    simp at h;omega
   subst this;clear h;rw[List.take_length];repeat' ((conv=>whnf);first|exact .refl|fail)
theorem ai0(s:Mem)(h:xT s):bg Tryz.prog 24 [.agg (bU s)] (.a1 [.agg (bU (ou s).1),.aq 2 (((ou s).2.map pR).map eU) false]):=by
 unfold ou;by_cases h1:s.status=1
 ·rw[if_pos h1];have e:=aiX s h h1;have au:=aiu s;generalize zY s=Q at *;generalize nh s=R at *;simp only[];rw[au];exact e
 ·rw[if_neg h1];by_cases aH:s.status=0
  ·rw[if_pos aH];have:=aiZ s h aH h.km.cont;simp only[List.map_map]at this⊢;exact this
  ·rw[if_neg aH];exact aiY s h aH h1
theorem VA{Ms:List Mem}{b:Nat}{s:Mem}: (Ms.map bU).set b (bU s)=(Ms.set b s).map bU:=by rw[List.map_set]
theorem G5(c:Int)(cn:Int->Int->Bool)(nI:∀f t:Int,0<=f->0<=t->bg Tryz.prog 29 [u64 c,i64 f,i64 t] (.v (.bool (cn f t))))(ba:List Bool)(Ms:List Mem)(bK:List fg)(h:MR cn ba Ms bK):
  b0 Tryz.prog 12 [.cells 32 (iE 1 2 3),.row 55 29 (Ms.map bU),.row 4 1 (ba.map eG),.row 82 3 ((bK.map iG).map gD)] [.aP 0 0,u64 c] [true,true,true,false] [.cells 32 (iE 1 2 3),.row 55 29 ((nk cn ba Ms bK).1.map bU),.row 4 1 (ba.map eG),.row 82 3 (((nk cn ba Ms bK).2.map iG).map gD)] (.v (.bool true)):=by
 obtain⟨aS,iL,ss,ai1,ai2,hlen,Ik⟩:=h;have Gx:gb cn ba Ms bK 0=(Ms,[]):=rfl;have LV:∀k,gb cn ba Ms bK (k+1)=qR cn ba (gb cn ba Ms bK k) (bK.getD k Dj):=fun _=>rfl;have ua:=Dk cn ba Ms bK;have vL:∀X,ke ba X 0=X:=fun _=>rfl;have CS:∀X i,ke ba X (i+1)=pV ba (ke ba X i) i:=fun _ _=>rfl;have ai3:=z2 ba (gb cn ba Ms bK bK.length);have b1:nk cn ba Ms bK=ke ba (gb cn ba Ms bK bK.length) Ms.length:=rfl;rw[b1];clear b1;generalize gb cn ba Ms bK=X at *;have Bx:∀b (ae:b<Ms.length),(ba.map eG)[b]?=some (eG (ba.getD b true)):=fun b ae=>by
  rw[List.getElem?_map];simp[show b<ba.length by omega]
 refine hd Tryz.func12 ?_;repeat' ((conv=>whnf);first|refine bc ?_|fail)
 all_goals(conv=>whnf)
 refine⟨Nat,fun k=>⟨[(0,.aP 0 0),(1,u64 c),(5,.own 3),(6,i64 k)],[.cells 32 (iE 1 2 5),.row 55 29 ((X k).1.map bU),.row 4 1 (ba.map eG),.row 82 3 ((bK.map iG).map gD),.b6 [.aP 0 0,.own 1,.own 2,.own 3],.row 82 3 (((X k).2.map iG).map gD)]⟩,fun k=>k<=bK.length,fun k=>bK.length-k,[.cell 0 2 82 3],⟨0,Nat.zero_le _,?_⟩,?_⟩
 ·conv=>whnf
  refine⟨⟨.r,.r,.r,.r,trivial⟩,⟨.r,ch (by rw[Gx]),.r,.r,.r,ch (by rw[Gx];rfl),trivial⟩,by rfl⟩
 ·intro k hk;repeat' ((conv=>whnf);first| (refine be ?_ ?_<;>intro h)|fail)
  all_goals(conv=>whnf)
  ·have ap:k<bK.length:=by
    have:=of_decide_eq_true h;rw[List.length_map,List.length_map]at this;omega
   clear h;have MX: ((bK.map iG).map gD)[k]?=some (gD (iG bK[k])):=by simp[ap]
   have eY:k<((bK.map iG).map gD).length:=by simp[ap]
   have ic:=LV k;have la:bK.getD k Dj=bK[k]:=by simp[ap]
   rw[la]at ic;have MY:=ai1 k ap;have z6:=hlen (k+1) ap;have sh:=ua k;rw[ic]at z6;generalize bK[k]=f at *;have az:=Vo (X k).1 (by omega) ba ((X k).2.map iG) f.src;have aG:=Vo (X k).1 (by omega) ba ((X k).2.map iG) f.dst;unfold qR at ic z6;have ak6:=z1 (X k).1 f.src;have CV:=z1 (X k).1 f.dst;generalize iX (X k).1 f.src=a at *;generalize iX (X k).1 f.dst=b at *;by_cases l2:a<0\/b<0
   ·have ic:X (k+1)=X k:=by
     rw[ic];by_cases aZ:a<0
     ·rw[if_pos aZ]
     ·rw[if_neg aZ,if_pos (l2.resolve_left aZ)]
    have MZ: (decide (a<0)||decide (b<0))=true:=by
     rcases l2 with h|h
     ·rw[decide_eq_true h];rfl
     ·rw[decide_eq_true h,Bool.or_true]
    have ax:∀ {p:Prop},(!(decide (a<0)||decide (b<0)))=true->p:=fun h=>by rw[MZ]at h;cases h
    have gK:∀ {p:Prop},(!(decide (a<0)||decide (b<0)||false))=true->p:=fun h=>by rw[MZ]at h;cases h
    have BQ: (decide (a<0)||decide (b<0)||false||false)=true:=by rw[MZ];rfl
    repeat' ((conv=>whnf);first|refine bc ?_|refine eC (by assumption) ?_|refine And.intro (by kernel_rfl) ?_|refine⟨k,And.intro ⟨rfl,eY⟩ ?_⟩|refine⟨gD (iG f),And.intro MX ?_⟩|refine .inr ⟨[0,1,2,5],_,_,_,_,_,az,by rfl,⟨.r,.r,.r,.r,trivial⟩,⟨.r,.r,trivial⟩,?_⟩|refine .inr ⟨[0,1,2,5],_,_,_,_,_,aG,by rfl,⟨.r,.r,.r,.r,trivial⟩,⟨.r,.r,trivial⟩,?_⟩|refine⟨0,And.intro ⟨⟨fun h=>h,fun h=>h⟩,fun h=>ax h⟩ ?_⟩|refine⟨eG false,And.intro ⟨fun h=>h,fun h=>ax h⟩ ?_⟩|refine⟨_,.v (.bool false),aD _,fun h=>gK h,?_⟩| (refine And.intro ?_ ?_;focus (simp;done))|fail)
    all_goals(conv=>whnf)
    refine⟨k+1,ap,by simp only[];omega,?_⟩;conv=>whnf
    exact⟨⟨.r,.r,.r,aV (bH (by omega)),trivial⟩,⟨.r,ch (by rw[ic]),.r,.r,.r,ch (by rw[ic]),trivial⟩,by rfl⟩
   ·have FZ:0<=a:=by omega
    have L5:0<=b:=by omega
    obtain⟨ik,iO,Gb⟩:∃ik,ik<(X k).1.length/\b=(ik:Int):=by
     rcases CV with⟨e,_⟩| ⟨j,ai,e,_⟩
     ·omega
     ·exact⟨j,ai,e⟩
    subst Gb;rw[if_neg (show ¬a<0 by omega),if_neg (show ¬((ik:Int))<0 by omega),Int.toNat_natCast]at ic z6;have b5:=nI a ik FZ L5;have Dl:ik<(ba.map eG).length:=by rw[List.length_map,iL];omega
    have la:=Bx ik (by omega);have MY:=MY ik rfl (by omega);have ls:decide (a<0)=false:=decide_eq_false (by omega);have VB:decide ((ik:Int)<0)=false:=decide_eq_false (by omega);generalize ba.getD ik true=w at *;generalize cn a ik=y at *;cases G6: (w||y)
    ·rw[G6,cond_false]at ic z6;have BQ: (decide (a<0)||decide ((ik:Int)<0)||w||y)=false:=by rw[ls,VB,Bool.or_assoc,G6];rfl
     have ai4:w=false:=by cases w<;>simp_all
     have a7:=ah2 ((X k).1.getD ik cX) f.src f.cL (MY ai4);have ax: (X k).1.getD ik cX=(X k).1[ik]:=by simp[iO]
     rw[ax]at a7 ic z6;generalize ot (X k).1[ik] f.src f.cL=R at *;obtain⟨s',aX⟩:=R;simp only[]at a7 ic z6;have vd: ((X k).1.set ik s')[ik]'(by simp;omega)=s':=by simp
     have du:=Vp ((X k).1.set ik s') (by simp;omega) ba ((X k).2.map iG) ik (by simp;omega) (aX.map pR) (by simp only[List.length_append,List.length_map]at *;omega);rw[vd,<-Vq,<-List.map_append]at du;have ai5:ik<((X k).1.map bU).length:=by rw[List.length_map];exact iO
     have M0: ((X k).1.map bU)[ik]?=some (bU (X k).1[ik]):=cE iO;have bM:=VA (Ms:=(X k).1) (b:=ik) (s:=s');have uK: (X (k+1)).1=(X k).1.set ik s':=by rw[ic]
     have iv: (X (k+1)).2=(X k).2++aX.map (xV s'.self):=by rw[ic]
     generalize(X k).1[ik]=ai6 at *;repeat' ((conv=>whnf);first|refine bc ?_|refine dE (by assumption) ?_|refine And.intro (by kernel_rfl) ?_|refine⟨k,And.intro ⟨rfl,eY⟩ ?_⟩|refine⟨gD (iG f),And.intro MX ?_⟩|refine .inr ⟨[0,1,2,5],_,_,_,_,_,az,by rfl,⟨.r,.r,.r,.r,trivial⟩,⟨.r,.r,trivial⟩,?_⟩|refine .inr ⟨[0,1,2,5],_,_,_,_,_,aG,by rfl,⟨.r,.r,.r,.r,trivial⟩,⟨.r,.r,trivial⟩,?_⟩|refine⟨ik,And.intro ⟨⟨fun h=>h,fun h=>h⟩,fun _=>⟨rfl,Dl⟩⟩ ?_⟩|refine⟨eG w,And.intro ⟨fun h=>h,fun _=>la⟩ ?_⟩|refine⟨_,_,aD _,fun _=>b5,?_⟩|refine⟨ik,And.intro ⟨rfl,ai5⟩ ?_⟩|refine⟨bU ai6,And.intro M0 ?_⟩|refine .inl ⟨_,_,aD _,a7,?_⟩|refine .inr ⟨[0,1,2,5],_,_,_,_,_,du,by rfl,⟨.r,ch bM,.r,.r,trivial⟩,⟨.r,.r,.r,trivial⟩,?_⟩| (refine And.intro ?_ ?_;focus (simp;done))|fail)
     all_goals(conv=>whnf)
     refine⟨k+1,ap,by simp only[];omega,?_⟩;conv=>whnf
     exact⟨⟨.r,.r,.r,aV (bH (by omega)),trivial⟩,⟨.r,ch (by rw[uK]),.r,.r,.r,ch (by rw[iv]),trivial⟩,by rfl⟩
    ·rw[G6,cond_true]at ic;have BQ: (decide (a<0)||decide ((ik:Int)<0)||w||y)=true:=by rw[ls,VB,Bool.or_assoc,G6];rfl
     repeat' ((conv=>whnf);first|refine bc ?_|refine eC (by assumption) ?_|refine And.intro (by kernel_rfl) ?_|refine⟨k,And.intro ⟨rfl,eY⟩ ?_⟩|refine⟨gD (iG f),And.intro MX ?_⟩|refine .inr ⟨[0,1,2,5],_,_,_,_,_,az,by rfl,⟨.r,.r,.r,.r,trivial⟩,⟨.r,.r,trivial⟩,?_⟩|refine .inr ⟨[0,1,2,5],_,_,_,_,_,aG,by rfl,⟨.r,.r,.r,.r,trivial⟩,⟨.r,.r,trivial⟩,?_⟩|refine⟨ik,And.intro ⟨⟨fun h=>h,fun h=>h⟩,fun _=>⟨rfl,Dl⟩⟩ ?_⟩|refine⟨eG w,And.intro ⟨fun h=>h,fun _=>la⟩ ?_⟩|refine⟨_,_,aD _,fun _=>b5,?_⟩| (refine And.intro ?_ ?_;focus (simp;done))|fail)
     all_goals(conv=>whnf)
     refine⟨k+1,ap,by simp only[];omega,?_⟩;conv=>whnf
     exact⟨⟨.r,.r,.r,aV (bH (by omega)),trivial⟩,⟨.r,ch (by rw[ic]),.r,.r,.r,ch (by rw[ic]),trivial⟩,by rfl⟩
  ·have e8:k=bK.length:=by
    have:=of_decide_eq_false h;rw[List.length_map,List.length_map]at this;exact Nat.le_antisymm hk (by omega)
   clear h;subst e8;have ai7:=ua bK.length;generalize X bK.length=Z at *;obtain⟨Gs,Gc⟩:=Z;have vL:=vL (Gs,Gc);have CS:=CS (Gs,Gc);simp only[]at ai7;generalize ke ba (Gs,Gc)=Y at *;refine⟨Nat,fun i=>⟨[(0,.aP 0 0),(12,i64 i)],[.cells 32 (iE 1 2 5),.row 55 29 ((Y i).1.map bU),.row 4 1 (ba.map eG),.row 82 3 ((bK.map iG).map gD),.b6 [.aP 0 0,.own 1,.own 2,.own 3],.row 82 3 (((Y i).2.map iG).map gD)]⟩,fun i=>i<=Ms.length,fun i=>Ms.length-i,[],⟨0,Nat.zero_le _,?_⟩,?_⟩
   ·conv=>whnf
    exact⟨⟨.r,.r,trivial⟩,⟨.r,ch (by rw[vL]),.r,.r,.r,ch (by rw[vL]),trivial⟩,by rfl⟩
   ·intro i ab;have ai8:=ai3 i;simp only[]at ai8;by_cases ap:i<Ms.length
    ·have ic:=CS i;have n2:=ai2 i ap;have si:=Ik (i+1) ap;rw[ic]at si;have dG:i<(Y i).1.length:=by omega
     have Dm:decide ((i:Int)<(((Y i).1.map bU).length:Int))=true:=by rw[List.length_map];exact decide_eq_true (by omega)
     unfold pV at ic si;have Dl:i<(ba.map eG).length:=by rw[List.length_map,iL];exact ap
     have la:=Bx i ap;cases M1:ba.getD i true
     ·rw[M1]at la ic si;simp only[cond_false]at ic si;have az:=ai0 ((Y i).1.getD i cX) (n2 M1);have ax: (Y i).1.getD i cX=(Y i).1[i]:=by simp[dG]
      rw[ax]at az ic si;generalize ou (Y i).1[i]=R at *;obtain⟨s',aX⟩:=R;simp only[]at az ic si;have vd: ((Y i).1.set i s')[i]'(by simp;omega)=s':=by simp
      have aG:=Vp ((Y i).1.set i s') (by simp;omega) ba ((Y i).2.map iG) i (by simp;omega) (aX.map pR) (by simp only[List.length_append,List.length_map]at *;omega);rw[vd,<-Vq,<-List.map_append]at aG;have ai9:i<((Y i).1.map bU).length:=by rw[List.length_map];exact dG
      have M0: ((Y i).1.map bU)[i]?=some (bU (Y i).1[i]):=cE dG;have bM:=VA (Ms:=(Y i).1) (b:=i) (s:=s');have uK: (Y (i+1)).1=(Y i).1.set i s':=by rw[ic]
      have iv: (Y (i+1)).2=(Y i).2++aX.map (xV s'.self):=by rw[ic]
      generalize(Y i).1[i]=m0 at *;repeat' ((conv=>whnf);first|refine eC (by assumption) ?_|refine And.intro (by kernel_rfl) ?_|refine⟨i,And.intro ⟨rfl,Dl⟩ ?_⟩|refine⟨eG false,And.intro la ?_⟩|refine⟨i,And.intro ⟨rfl,ai9⟩ ?_⟩|refine⟨bU m0,And.intro M0 ?_⟩|refine .inl ⟨_,_,aD _,az,?_⟩|refine .inr ⟨[0,1,2,5],_,_,_,_,_,aG,by rfl,⟨.r,ch bM,.r,.r,trivial⟩,⟨.r,.r,.r,trivial⟩,?_⟩|fail)
      all_goals(conv=>whnf)
      refine⟨i+1,ap,by simp only[];omega,?_⟩;conv=>whnf
      exact⟨⟨.r,aV (bH (by omega)),trivial⟩,⟨.r,ch (by rw[uK]),.r,.r,.r,ch (by rw[iv]),trivial⟩,by rfl⟩
     ·rw[M1]at la ic;simp only[cond_true]at ic;repeat' ((conv=>whnf);first|refine eC (by assumption) ?_|refine⟨i,And.intro ⟨rfl,Dl⟩ ?_⟩|refine⟨eG true,And.intro la ?_⟩|fail)
      all_goals(conv=>whnf)
      refine⟨i+1,ap,by simp only[];omega,?_⟩;conv=>whnf
      exact⟨⟨.r,aV (bH (by omega)),trivial⟩,⟨.r,ch (by rw[ic]),.r,.r,.r,ch (by rw[ic]),trivial⟩,by rfl⟩
    ·have cw:i=Ms.length:=by omega
     have Dm:decide ((i:Int)<(((Y i).1.map bU).length:Int))=false:=by rw[List.length_map];exact decide_eq_false (by omega)
     subst cw;repeat' ((conv=>whnf);first|refine dE (by assumption) ?_|fail)
     all_goals(conv=>whnf)
     refine⟨[.dQ 3 5],?_⟩;conv=>whnf
     exact⟨.r,⟨.r,.r,.r,.r,CI,trivial⟩,by rfl⟩
theorem VC(c f t:Int)(aI:0<=f)(bW:0<=t):∃b,bg Tryz.prog 29 [u64 c,i64 f,i64 t] (.v (.bool b)):=by
 refine⟨decide (f<8)&&decide (t<8)&&decide (Int.tmod (c.fdiv (2^ (min (IntKind.u64.wrap (IntKind.i64.wrap (IntKind.i64.wrap (8*f)+t))).toNat 64))) 2=1),?_⟩;refine bw Tryz.func29 ?_;repeat' ((conv=>whnf);first|refine bc ?_|exact .refl|refine And.intro ⟨fun h=>h,fun h=>h⟩ ?_|refine And.intro ⟨⟨fun h=>h,fun h=>h⟩,fun _=>(pD _).1⟩ ?_| (refine And.intro ?_ ?_;focus (simp;done))|fail)
 all_goals(conv=>whnf)
 all_goals refine eK ?_
theorem G7(c:Int):∃cn:Int->Int->Bool,∀f t:Int,0<=f->0<=t->bg Tryz.prog 29 [u64 c,i64 f,i64 t] (.v (.bool (cn f t))):=by
 refine⟨fun f t=>if h:0<=f/\0<=t then Classical.choose (VC c f t h.1 h.2)else false,fun f t aI bW=> ?_⟩;simp only[];rw[dif_pos ⟨aI,bW⟩];exact Classical.choose_spec (VC c f t aI bW)
def lk(V:Nat->aQ)(n:Nat):List aQ:=(List.range n).map V
theorem z7(V:Nat->aQ)(n:Nat): (lk V n).length=n:=by simp[lk]
theorem VD(V:Nat->aQ){n k:Nat}(h:k<n): (lk V n)[k]?=some (V k):=by simp[lk,h]
theorem aja(V:Nat->aQ)(n:Nat):lk V (n+1)=lk V n++ [V n]:=by
 unfold lk;rw[List.range_succ,List.map_append];rfl
theorem G8(Ms:List Mem)(af:Ms.length<=1000)(ba:List Bool)(fL:List uf)(V:Nat->aQ)(N:Nat->Nat)(ac:∀i (h:i<Ms.length),fe Ms[i]/\N i<=1000/\sL Ms[i]=lk V (N i))(ajb:∀j k,j<1000->k<1000->(V j).num=(V k).num->j=k)(ea:∀k,k<1000->(V k).mem.length<=16):
  b0 Tryz.prog 13 [.cells 32 (iE 1 2 3),.row 55 29 (Ms.map bU),.row 4 1 (ba.map eG),.row 82 3 (fL.map gD)] [.aP 0 0] [true,true,true,true] [.cells 32 (iE 1 2 3),.row 55 29 (Ms.map bU),.row 4 1 (ba.map eG),.row 82 3 (fL.map gD)] (.v (.bool true)):=by
 refine dw Tryz.func13 ?_;repeat' ((conv=>whnf);first|refine bc ?_|fail)
 all_goals(conv=>whnf)
 refine⟨Nat×Nat,fun x=>⟨[(0,.aP 0 0),(3,.own 5),(4,i64 x.1)],[.cells 32 (iE 1 2 3),.row 55 29 (Ms.map bU),.row 4 1 (ba.map eG),.row 82 3 (fL.map gD),.b6 [.aP 0 0,.own 1,.own 2,.own 3],.row 24 2 ((lk V x.2).map bN)]⟩,fun x=>x.1<=Ms.length/\x.2<=1000,fun x=>Ms.length-x.1,[.fS 3 24 2],⟨(0,0),⟨Nat.zero_le _,Nat.zero_le _⟩,?_⟩,?_⟩
 ·conv=>whnf
  exact⟨⟨.r,.r,.r,trivial⟩,⟨.r,.r,.r,.r,.r,.r,trivial⟩,by rfl⟩
 ·intro (i,m) ⟨ab,aT⟩;simp only[]at ab aT;repeat' ((conv=>whnf);first| (refine be ?_ ?_<;>intro h)|fail)
  all_goals(conv=>whnf)
  ·have ap:i<Ms.length:=by
    have:=of_decide_eq_true h;rw[List.length_map]at this;omega
   clear h;obtain⟨c7,ha,ajc⟩:=ac i ap;have az:=TA Ms[i] c7;rw[ajc]at az;have eY:i<(Ms.map bU).length:=by rw[List.length_map];exact ap
   have b7: (Ms.map bU)[i]?=some (bU Ms[i]):=cE ap;generalize aS:N i=n at *;repeat' ((conv=>whnf);first|refine⟨i,And.intro ⟨rfl,eY⟩ ?_⟩|refine⟨bU Ms[i],And.intro b7 ?_⟩|refine .inl ⟨_,_,aD _,az,?_⟩|fail)
   all_goals(conv=>whnf)
   refine⟨Nat×Nat,fun y=>⟨[(0,.aP 0 0),(3,.own 5),(4,i64 i),(5,.aq 2 ((lk V n).map bN) false),(6,i64 y.1)],[.cells 32 (iE 1 2 3),.row 55 29 (Ms.map bU),.row 4 1 (ba.map eG),.row 82 3 (fL.map gD),.b6 [.aP 0 0,.own 1,.own 2,.own 3],.row 24 2 ((lk V y.2).map bN)]⟩,fun y=>y.1<=n/\y.1<=y.2/\y.2<=1000,fun y=>n-y.1,[],⟨(0,m),⟨Nat.zero_le _,Nat.zero_le _,aT⟩,?_⟩,?_⟩
   ·conv=>whnf
    exact⟨⟨.r,.r,.r,.r,.r,trivial⟩,⟨.r,.r,.r,.r,.r,.r,trivial⟩,by rfl⟩
   ·intro (k,q) ⟨hk,Ec,bF⟩;simp only[]at hk Ec bF;repeat' ((conv=>whnf);first| (refine be ?_ ?_<;>intro h)|fail)
    all_goals(conv=>whnf)
    ·have uM:k<n:=by
      have:=of_decide_eq_true h;rw[List.length_map,z7]at this;omega
     clear h;refine⟨Nat,fun j=>⟨[(0,.aP 0 0),(3,.own 5),(4,i64 i),(5,.aq 2 ((lk V n).map bN) false),(6,i64 k),(7,.v (.bool (decide (k<j)))),(8,i64 j)],[.cells 32 (iE 1 2 3),.row 55 29 (Ms.map bU),.row 4 1 (ba.map eG),.row 82 3 (fL.map gD),.b6 [.aP 0 0,.own 1,.own 2,.own 3],.row 24 2 ((lk V q).map bN)]⟩,fun j=>j<=q,fun j=>q-j,[],⟨0,Nat.zero_le _,?_⟩,?_⟩
     ·conv=>whnf
      exact⟨⟨.r,.r,.r,.r,.r,eK (by simp),.r,trivial⟩,⟨.r,.r,.r,.r,.r,.r,trivial⟩,by rfl⟩
     ·intro j ai;have y2: ((lk V n).map bN)[k]?=some (bN (V k)):=by rw[List.getElem?_map,VD V uM];rfl
      by_cases G9:j<q
      ·have VE: ((lk V q).map bN)[j]?=some (bN (V j)):=by rw[List.getElem?_map,VD V G9];rfl
       have fX:j<((lk V q).map bN).length:=by rw[List.length_map,z7];exact G9
       have Dm:decide ((j:Int)<(((lk V q).map bN).length:Int))=true:=by rw[List.length_map,z7];exact decide_eq_true (by omega)
       have aG:=ac6 (V j) (V k) (Nat.le_trans (ea j (by omega)) (by decide));by_cases VF:j=k
       ·subst VF;have LA: (decide ((V j).num=(V j).num)&&fK (V j).mem (V j).mem)=true:=vJ (V j);rw[LA]at aG;have q7:decide ((V j).num=(V j).num)=true:=decide_eq_true rfl;repeat' ((conv=>whnf);first|refine eC (by assumption) ?_|refine And.intro (by kernel_rfl) ?_|refine⟨j,And.intro ⟨rfl,fX⟩ ?_⟩|refine⟨j,bN (V j),And.intro ⟨rfl,y2⟩ ?_⟩|refine⟨bN (V j),And.intro VE ?_⟩|refine .inl ⟨_,_,aD _,aG,?_⟩|fail)
        all_goals(conv=>whnf)
        refine⟨j+1,G9,by simp only[];omega,?_⟩;conv=>whnf
        exact⟨⟨.r,.r,.r,.r,.r,eK (by simp),aV (bH (by omega)),trivial⟩,⟨.r,.r,.r,.r,.r,.r,trivial⟩,by rfl⟩
       ·have q7:decide ((V j).num=(V k).num)=false:=decide_eq_false fun e=>VF (ajb j k (by omega) (by omega) e);repeat' ((conv=>whnf);first|refine eC (by assumption) ?_|refine dE (by assumption) ?_|refine And.intro (by kernel_rfl) ?_|refine⟨j,And.intro ⟨rfl,fX⟩ ?_⟩|refine⟨k,bN (V k),And.intro ⟨rfl,y2⟩ ?_⟩|refine⟨bN (V j),And.intro VE ?_⟩|fail)
        all_goals(conv=>whnf)
        refine⟨j+1,G9,by simp only[];omega,?_⟩;conv=>whnf
        exact⟨⟨.r,.r,.r,.r,.r,eK (by rw[decide_eq_decide];omega),aV (bH (by omega)),trivial⟩,⟨.r,.r,.r,.r,.r,.r,trivial⟩,by rfl⟩
      ·have Dm:decide ((j:Int)<(((lk V q).map bN).length:Int))=false:=by rw[List.length_map,z7];exact decide_eq_false (by omega)
       have ajd:j=q:=by omega
       subst ajd;by_cases VG:k<j
       ·have aje:decide (k<j)=true:=decide_eq_true VG;have ajf: (!decide (k<j))=false:=by rw[aje];rfl
        repeat' ((conv=>whnf);first|refine dE (by assumption) ?_|fail)
        all_goals(conv=>whnf)
        refine⟨(k+1,j),⟨uM,VG,bF⟩,by simp only[];omega,?_⟩;conv=>whnf
        exact⟨⟨.r,.r,.r,.r,aV (bH (by omega)),trivial⟩,⟨.r,.r,.r,.r,.r,.r,trivial⟩,by rfl⟩
       ·have wu:k=j:=by omega
        subst wu;have ajf: (!decide (k<k))=true:=by simp
        repeat' ((conv=>whnf);first|refine eC (by assumption) ?_|refine dE (by assumption) ?_|refine⟨k,bN (V k),And.intro ⟨rfl,y2⟩ ?_⟩|refine And.intro (Tt (by simp[z7]<;>omega)) ?_|fail)
        all_goals(conv=>whnf)
        refine⟨(k+1,k+1),⟨uM,Nat.le_refl _,by simp only[];omega⟩,by simp only[];omega,?_⟩;conv=>whnf
        exact⟨⟨.r,.r,.r,.r,aV (bH (by omega)),trivial⟩,⟨.r,.r,.r,.r,.r,ch (by rw[aja,List.map_append];rfl),trivial⟩,by rfl⟩
    ·have uM:k=n:=by
      have:=of_decide_eq_false h;rw[List.length_map,z7]at this;omega
     clear h;refine⟨(i+1,q),⟨ap,bF⟩,by simp only[];omega,?_⟩;conv=>whnf
     exact⟨⟨.r,.r,aV (bH (by omega)),trivial⟩,⟨.r,.r,.r,.r,.r,.r,trivial⟩,by rfl⟩
  ·exact⟨.r,⟨.r,.r,.r,.r,.r,trivial⟩,by rfl⟩
section
variable {T:Nat} {G bV:jF} {Ms:List Mem} {bK:List fg}
theorem ajg(cn:Int->Int->Bool)(ba:List Bool){X:List Mem×List fg}(h:lj T G X.1 (bK++X.2)){f:fg}(aI:f∈bK): (qR cn ba X f).1.map (·.self)=X.1.map (·.self):=by
 obtain⟨f1,f2,f3⟩:=h.fL f (List.mem_append_left _ aI);unfold qR;by_cases h1:iX X.1 f.src<0
 ·rw[if_pos h1]
 ·rw[if_neg h1];rcases z1 X.1 f.dst with⟨az,_⟩| ⟨b,ae,az,aG,_⟩
  ·rw[if_pos (by omega)]
  ·rw[if_neg (by omega),az,Int.toNat_natCast];cases ba.getD b true||cn (iX X.1 f.src) (b:Int)
   ·have ax:X.1.getD b cX=X.1[b]:=by simp[ae]
    rw[ax,cond_false];have ao:=(U3 h.g (h.mem b ae) (by rw[aG];exact f2) f1).1;simp only[];rw[List.map_set,ao];have: (X.1.map (·.self))[b]'(by simpa using ae)=X.1[b].self:=by simp
    rw[<-this,List.set_getElem_self]
   ·rfl
theorem ajh(ba:List Bool){X:List Mem×List fg}(h:lj T G X.1 X.2){i:Nat}(ab:i<X.1.length)(bp:X.1[i].hist.length<T): (pV ba X i).1.map (·.self)=X.1.map (·.self):=by
 have ax:X.1.getD i cX=X.1[i]:=by simp[ab]
 unfold pV;cases ba.getD i true
 ·rw[ax];simp only[cond_false];have ao:=(U8 h.g (h.mem i ab) bp).1;rw[List.map_set,ao];have: (X.1.map (·.self))[i]'(by simpa using ab)=X.1[i].self:=by simp
  rw[<-this,List.set_getElem_self]
 ·rfl
theorem aji(cn:Int->Int->Bool)(ba:List Bool)(h:lj T G Ms bK)(aO:T+1<=399): (nk cn ba Ms bK).1.map (·.self)=Ms.map (·.self):=by
 have aw:=MV cn ba h;have vF:∀k,k<=bK.length->(gb cn ba Ms bK k).1.map (·.self)=Ms.map (·.self):=by
  intro k;induction k with
  |zero=>intro _;rfl
  |succ k aN=>
   intro hk;obtain⟨⟨bV,_,h1⟩,_⟩:=aw k (by omega);have ap:k<bK.length:=by omega
   have ax:bK.getD k Dj=bK[k]:=by simp[ap]
   unfold gb;rw[ax];exact(ajg cn ba h1 (List.getElem_mem ap)).trans (aN (by omega))
 obtain⟨⟨ut,az,h1⟩,ad⟩:=aw bK.length (Nat.le_refl _);have sj:lj (T+1) ut (gb cn ba Ms bK bK.length).1 (gb cn ba Ms bK bK.length).2:=by
  have:=Vu h1 (G4:=(gb cn ba Ms bK bK.length).2) (fun f aI=>List.mem_append_right _ aI);exact⟨Vx this.g aO,this.mem,this.ny,this.fL,this.cL⟩
 have gh:=Dk cn ba Ms bK bK.length;have bp:∀i (ab:i<(gb cn ba Ms bK bK.length).1.length),(gb cn ba Ms bK bK.length).1[i].hist.length<T+1:=fun i ab=>by
  have:=Vy (h1.mem i ab);have:=h1.g.len;omega
 have cR:=MW ba sj bp;have ajj:∀i,i<=Ms.length->(ke ba (gb cn ba Ms bK bK.length) i).1.map (·.self)=Ms.map (·.self):=by
  intro i;induction i with
  |zero=>intro _;exact vF _ (Nat.le_refl _)
  |succ i aN=>
   intro ab;have Fb:i<(gb cn ba Ms bK bK.length).1.length:=by omega
   obtain⟨⟨bV,_,aC⟩,_,bh⟩:=cR i (by omega);have dG:i<(ke ba (gb cn ba Ms bK bK.length) i).1.length:=by rw[z2];omega
   unfold ke;exact(ajh ba aC dG (by rw[MT (bh i (Nat.le_refl _))];exact bp i Fb)).trans (aN (by omega))
 exact ajj _ (Nat.le_refl _)
end
def vY(l:List Int)(x:Int):Nat:=l.countP fun y=>decide (x<y)
theorem M2:∀ {l:List Int} (x:Int),l.Nodup->vY l (x-1)=vY l x+if x∈l then 1 else 0
 | [],x,_=>by simp[vY]
 |y::l,x,aS=>by
  rw[List.nodup_cons]at aS;have aN:=M2 (l:=l) x aS.2;unfold vY at *;rw[List.countP_cons,List.countP_cons,aN];by_cases h:x=y
  ·subst h;rw[if_neg aS.1,if_pos (List.mem_cons_self ..),if_pos (by rw[decide_eq_true_eq];omega),if_neg (by simp)]
  ·have aT: (x∈y::l)↔x∈l:=by
    rw[List.mem_cons];exact⟨fun e=>e.resolve_left h,.inr⟩
   have al: (decide (x-1<y)=true)↔ (decide (x<y)=true):=by
    rw[decide_eq_true_eq,decide_eq_true_eq];omega
   by_cases ad:x∈l
   ·rw[if_pos ad,if_pos (aT.2 ad)];by_cases aC:decide (x<y)=true
    ·rw[if_pos (al.2 aC),if_pos aC];try omega
    ·rw[if_neg (fun e=>aC (al.1 e)),if_neg aC]
   ·rw[if_neg ad,if_neg (fun e=>ad (aT.1 e))];by_cases aC:decide (x<y)=true
    ·rw[if_pos (al.2 aC),if_pos aC]
    ·rw[if_neg (fun e=>aC (al.1 e)),if_neg aC]
structure Ha(v:aQ)(Ms:List Mem)(x:Int):Prop where
 len:v.mem.length<=Ms.length/\Ms.length<=8
 eq:x+(Ms.length:Int)- (v.mem.length:Int)+(vY v.mem x:Int)=1000
 Hb:∀i (h:i<Ms.length),Ms[i].self∈v.mem\/x<Ms[i].self
theorem VH{v:aQ}{Ms:List Mem}{x:Int}(h:Ha v Ms x):980<=x+(v.mem.length:Int)/\x<=1000:=by
 have h1:=h.eq;have ad:=h.len;have aC:vY v.mem x<=v.mem.length:=List.countP_le_length;omega
theorem ajk{v:aQ}(ac:bX v=true){Ms:List Mem}{x:Int}(h:Ha v Ms x)(an:bR v.mem x=true):Ha v Ms (x-1):=by
 have aS:v.mem.Nodup:=BH (n4.1 (lB ac).2.2).2.1;have h1:=h.eq;have ad:=M2 x aS;rw[if_pos (oR.1 an)]at ad;refine⟨h.len,by omega,fun i ab=> ?_⟩;rcases h.Hb i ab with aC|aC
 ·exact .inl aC
 ·exact .inr (by omega)
structure ov(v:aQ)(T:Nat)(Ms:List Mem)(ba:List Bool)(bK:List fg)(x:Int):Prop where
 w:∃G,G.v0=v/\lj T G Ms bK
 mQ:ba.length=Ms.length
 pos:1<=Ms.length
 cL:Ha v Ms x
 hj:jZ Ms+ij bK<=10800*Ms.length+80000*T
theorem VI{v:aQ}(ac:bX v=true)(aS:v.num<=1000){x:Int}(an:x∈v.mem):eH 0 ⟨v,[],fun _=>pb⟩/\ih ⟨v,[],fun _=>pb⟩ (o5 v 0 o4 x):=by
 have dT:eH 0 ⟨v,[],fun _=>pb⟩:=⟨⟨ac,fun i ab=>by simp at ab⟩,aS,Nat.le_refl _,by decide,fun _ _ h=>h,fun k _=>UR _,fun k hk=>by simp at hk⟩
 have cw:=oR.2 an;refine⟨dT,?_⟩;have h1:=Ls (v:=v) (self:=x) (by rw[ac,cw];rfl);rw[TT ac cw]at h1;have ad:o5 v 0 o4 x=dO {cX with self:=x,first:=v} v:=(Prod.mk.inj h1).1;rw[ad];exact De dT (k:=0) (s:={cX with self:=x,first:=v}) (TO ac cw) rfl rfl (Nat.le_refl _) rfl fun j _ _=>Mw _ _
theorem ajl{v:aQ}(ac:bX v=true)(aS:v.num<=1000)(bL:v.mem.length<=5):ov v 0 (v.mem.map (o5 v 0 o4)) (List.replicate v.mem.length false) [] 1000:=by
 have af:=kM ac;have gZ:v.mem.Nodup:=BH (n4.1 (lB ac).2.2).2.1;have ax:∀i (h:i<(v.mem.map (o5 v 0 o4)).length),(v.mem.map (o5 v 0 o4))[i].self=v.mem[i]'(by simpa using h):=fun i h=>by rw[List.getElem_map];rfl
 have hex:∃x,x∈v.mem:=List.exists_mem_of_length_pos (by omega);obtain⟨iR,k9⟩:=hex;refine⟨⟨⟨v,[],fun _=>pb⟩,rfl,⟨(VI ac aS k9).1,fun i ab=> ?_,fun i j ab ai dS=> ?_,(fun f aI=>by cases aI),fun a _ k _=>Mw _ _⟩⟩,by simp,by simp;omega,⟨⟨by simp,by simp;omega⟩,?_,fun i ab=> ?_⟩,?_⟩
 ·rw[List.getElem_map];exact(VI ac aS (List.getElem_mem _)).2
 ·rw[ax,ax];intro e;exact dS ((List.getElem_inj gZ).1 e)
 ·have:vY v.mem 1000=0:=by
   unfold vY;rw[List.countP_eq_zero];intro y bt;have:=(Ge (lB ac).2.2 y bt).2;simp;omega
  rw[this];simp
 ·rw[ax];exact .inl (List.getElem_mem _)
 ·have:=Vt (v.mem.map (o5 v 0 o4));simp only[ij,List.map_nil,List.sum_nil];omega
theorem ajm{v:aQ}{T:Nat}{Ms:List Mem}{ba:List Bool}{bK:List fg}{x:Int}(h:ov v T Ms ba bK x){VJ:List Bool}(aa:VJ.length=ba.length):ov v T Ms VJ bK x:=⟨h.w,aa.trans h.mQ,h.pos,h.cL,h.hj⟩
theorem ajn{v:aQ}(ac:bX v=true){T:Nat}{Ms:List Mem}{ba:List Bool}{bK:List fg}{x:Int}(h:ov v T Ms ba bK x)(an:bR v.mem x=true):ov v T Ms ba bK (x-1):=⟨h.w,h.mQ,h.pos,ajk ac h.cL an,h.hj⟩
theorem ajo{v:aQ}(ac:bX v=true)(bL:v.mem.length<=5){T:Nat}{Ms:List Mem}{ba:List Bool}{bK:List fg}{x:Int}(h:ov v T Ms ba bK x)(an:bR v.mem x=false)(r1:Ms.length<8):
  xB x v.mem=({cX with self:=x,cont:=v.mem},0)/\ov v T (Ms++ [{cX with self:=x,cont:=v.mem}]) (ba++ [false]) bK (x-1):=by
 have ao:=VH h.cL;have vP:=(lB ac).2.2;have fj:kv x=true:=by
  unfold kv;rw[decide_eq_true (by omega),decide_eq_true (by omega)];rfl
 have wF:x∉v.mem:=fun e=>by rw[oR.2 e]at an;cases an
 have aS:v.mem.Nodup:=BH (n4.1 vP).2.1;have bx:∀i (ab:i<Ms.length),Ms[i].self≠x:=fun i ab e=>by
  rcases h.cL.Hb i ab with aC|aC
  ·exact wF (e▸aC)
  ·omega
 refine⟨?_,?_⟩
 ·unfold xB;rw[fj,vP,an];rfl
 ·obtain⟨G,bI,dT⟩:=h.w;have b7:∀i (ab:i<(Ms++ [({cX with self:=x,cont:=v.mem}:Mem)]).length),(∃cV:i<Ms.length,(Ms++ [({cX with self:=x,cont:=v.mem}:Mem)])[i]=Ms[i])\/(i=Ms.length/\(Ms++ [({cX with self:=x,cont:=v.mem}:Mem)])[i]= {cX with self:=x,cont:=v.mem}):=fun i ab=>by
   by_cases cV:i<Ms.length
   ·exact .inl ⟨cV,List.getElem_append_left cV⟩
   ·have:i=Ms.length:=by
     rw[List.length_append,List.length_cons,List.length_nil]at ab;omega
    subst this;exact .inr ⟨rfl,by simp⟩
  have af:=h.mQ;have au:=h.pos;have ss:=h.cL.len;refine⟨⟨G,bI,⟨dT.g,fun i ab=> ?_,fun i j ab ai dS=> ?_,dT.fL,fun a aZ k hk=> ?_⟩⟩,by simp;omega,by simp,⟨⟨by simp;omega,by simp;omega⟩,?_,fun i ab=> ?_⟩,?_⟩
  ·rcases b7 i ab with⟨cV,e⟩| ⟨_,e⟩
   ·rw[e];exact dT.mem i cV
   ·rw[e];exact .inr (.inl ⟨fj,rfl,vP,an,fun k hk=>dT.cL x bx k hk⟩)
  ·rcases b7 i ab with⟨cV,e⟩| ⟨iq,e⟩
   ·rcases b7 j ai with⟨tE,cd⟩| ⟨az,cd⟩
    ·rw[e,cd];exact dT.ny i j cV tE dS
    ·rw[e,cd];exact bx i cV
   ·rcases b7 j ai with⟨tE,cd⟩| ⟨az,cd⟩
    ·rw[e,cd];exact fun aG=>bx j tE aG.symm
    ·omega
  ·refine dT.cL a (fun i ab=> ?_) k hk;have:=aZ i (by rw[List.length_append];omega);rw[List.getElem_append_left ab]at this;exact this
  ·have h1:=h.cL.eq;have ad:=M2 x aS;rw[if_neg wF]at ad;rw[List.length_append,List.length_cons,List.length_nil];omega
  ·rcases b7 i ab with⟨cV,e⟩| ⟨iq,e⟩
   ·rw[e];rcases h.cL.Hb i cV with aC|aC
    ·exact .inl aC
    ·exact .inr (by omega)
   ·rw[e];exact .inr (by show x-1<x;omega)
  ·have h1:=h.hj;have ad:jZ (Ms++ [({cX with self:=x,cont:=v.mem}:Mem)])=jZ Ms+eF {cX with self:=x,cont:=v.mem}:=by
    unfold jZ;rw[List.map_append,List.sum_append];simp
   have aC:=Vh {cX with self:=x,cont:=v.mem};rw[ad,List.length_append,List.length_cons,List.length_nil];omega
theorem Hc{v:aQ}{T:Nat}{Ms:List Mem}{ba:List Bool}{bK:List fg}{x:Int}(h:ov v T Ms ba bK x)(aO:T+1<=399)(cn:Int->Int->Bool):
  MR cn ba Ms bK/\ov v (T+1) (nk cn ba Ms bK).1 ba (nk cn ba Ms bK).2 x:=by
 obtain⟨G,bI,dT⟩:=h.w;obtain⟨h1,⟨bV,e,ad⟩,aC,bh⟩:=aiT cn ba h.mQ h.cL.len.2 dT aO h.hj;refine⟨h1,⟨⟨bV,e.trans bI,ad⟩,by rw[aC];exact h.mQ,by rw[aC];exact h.pos,⟨by rw[aC];exact h.cL.len,by rw[aC];exact h.cL.eq,?_⟩,by rw[aC];exact bh⟩⟩;have key:∀i (ab:i<Ms.length),((nk cn ba Ms bK).1[i]'(by rw[aC];exact ab)).self=Ms[i].self:=fun i ab=>by
  have e:=congrArg (fun l=>l[i]?) (aji cn ba dT aO);simp only[List.getElem?_map]at e;rw[List.getElem?_eq_getElem (by rw[aC];exact ab),List.getElem?_eq_getElem ab]at e;exact Option.some.inj e
 intro i ab;rw[key i (by rw[<-aC];exact ab)];exact h.cL.Hb i (by rw[<-aC];exact ab)
def sT(G:jF)(k:Nat):aQ:=if k<=G.D.length then fu G k else⟨G.v0.num+k,[]⟩
def sU(s:Mem):Nat:=if s.status=0 then 0 else s.hist.length+1
theorem VK(first:aQ)(D:List (List Int))(V:Nat->aQ):∀n,(∀j,j<=n->c3 first D j=V j)->hX first D n=(List.range (n+1)).map V
 |0,h=>by
  have:=h 0 (Nat.le_refl _);simp only[hX,c3]at *;rw[this];rfl
 |n+1,h=>by
  rw[hX,VK first D V n (fun j ai=>h j (by omega)),h (n+1) (Nat.le_refl _),List.range_succ (n:=n+1),List.map_append];rfl
theorem Hd{T:Nat}{G:jF}(bI:eH T G){s:Mem}(h:ih G s):fe s/\sU s<=1000/\sL s=lk (sT G) (sU s):=by
 have ac:=G0 bI h;have aO:=bI.um;have fY:=bI.len;have pT:∀ (bM:s.status≠0) (aI:s.first=G.v0) (af:s.hist.length<=G.D.length) (bp:s.hist=G.D.take s.hist.length),sU s<=1000/\sL s=lk (sT G) (sU s):=fun bM aI af bp=>by
  obtain⟨dX,de,zZ⟩:=MO bI aI af bp;unfold sU;rw[if_neg bM];refine⟨by omega,?_⟩;unfold sL;rw[ac,decide_eq_false bM];simp only[Bool.not_true,Bool.or_self,cond_false];rw[de];unfold lk;refine VK _ _ _ _ fun j ai=> ?_;unfold sT;rw[if_pos (by omega),aI];have e:=C8 G.v0 G.D ai;rw[<-bp]at e;exact e
 refine⟨Dg bI h,?_⟩;rcases h with⟨q,_⟩|q|q
 ·exact pT (by rw[q.cr];omega) q.first q.af q.hist
 ·have e:s.status=0:=by rw[q.eq];rfl
  unfold sU sL;rw[if_pos e,decide_eq_true e,Bool.or_true];exact⟨by omega,rfl⟩
 ·exact pT (by rw[q.cr];omega) q.first q.af q.hist
theorem qS{T:Nat}{G:jF}(bI:eH T G)(k:Nat): (sT G k).num=G.v0.num+k/\(sT G k).mem.length<=16:=by
 unfold sT;by_cases h:k<=G.D.length
 ·rw[if_pos h];exact⟨(lg bI h).2,(kM (lg bI h).1).2⟩
 ·rw[if_neg h];exact⟨rfl,Nat.zero_le _⟩
theorem ajp(Ms:List Mem)(af:Ms.length<=1000)(ba:List Bool)(aa:ba.length<=1000)(fL:List uf)(x:Int)(c:List Int)(al:c.length<=1000)(s:Mem)(ai:xB x c=(s,0)):
  b0 Tryz.prog 11 [.cells 32 (iE 1 2 3),.row 55 29 (Ms.map bU),.row 4 1 (ba.map eG),.row 82 3 (fL.map gD)] [.aP 0 0,i64 x,.aq 1 (c.map aM) false] [true,false,false,true] [.cells 32 (iE 1 2 3),.row 55 29 ((Ms++ [s]).map bU),.row 4 1 ((ba++ [false]).map eG),.row 82 3 (fL.map gD)] (.a1 []):=by
 have az:=Tx x c al;rw[ai]at az;refine dw Tryz.func11 ?_;repeat' ((conv=>whnf);first|refine And.intro (by kernel_rfl) ?_|refine .inl ⟨_,_,aD _,az,?_⟩|refine And.intro (TR (by simp<;>omega)) ?_|refine And.intro (TS (by simp<;>omega)) ?_|refine Exists.intro false ?_|fail)
 all_goals(conv=>whnf)
 exact⟨.r,⟨.r,ch (by rw[List.map_append];rfl),ch (by rw[List.map_append];rfl),.r,.r,trivial⟩,by rfl⟩
structure Dn where
 kind:Nat
 nl:Nat
 ep:Nat
 cut:Int
def jG(e:Dn):List aj:=[.v (.int .u8 e.kind),.v (.int .u8 e.nl),.v (.int .u8 e.ep),u64 e.cut]
def He(e:Dn):Prop:=e.kind<=255/\e.nl<=255/\e.ep<=255
theorem ajq{n:Nat}{r:List aj}(h:qm ah (n+2) 36 r):∃x:Dn,r=jG x/\He x:=by
 obtain⟨_,_,rfl,⟨a,rfl,aZ⟩,_,_,rfl,⟨b,rfl,ae⟩,_,_,rfl,⟨c,rfl,al⟩,_,_,rfl,⟨d,rfl,aa⟩,rfl⟩:=h;have aZ:=bounds_u8 (by exact aZ);have ae:=bounds_u8 (by exact ae);have al:=bounds_u8 (by exact al);refine⟨⟨a.toNat,b.toNat,c.toNat,d⟩,?_,?_⟩
 ·simp only[jG];rw[Int.toNat_of_nonneg (by omega),Int.toNat_of_nonneg (by omega),Int.toNat_of_nonneg (by omega)];rfl
 ·refine⟨?_,?_,?_⟩<;>simp only[]<;>omega
theorem ajr{n:Nat}{r:List aj}(h:qm ah (n+3) 25 r):∃l:List Dn,r=[.aq 4 (l.map jG) false]/\l.length<=maxLen/\∀x∈l,He x:=by
 obtain⟨es,rfl,af,oL⟩:=h;obtain⟨d,rfl,aa⟩:=Ja (f:=jG) (Q:=He) (fun r ao=>ajq (n:=n) (oL r ao));exact⟨d,rfl,by simpa using af,aa⟩
end Go.Proofs.YtdcfooeoaoahjaaGreat
