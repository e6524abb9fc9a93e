/- The laws of this seat, part OwC: contracts of the functions, plain laws. No conditions. -/
import Derived.Test.YtdcfooeoaoahjaaGreatOwB
import Derived.Test.YtdcfooeoaoahjaaGreatLfC
set_option linter.unusedSimpArgs false
set_option linter.unusedVariables false
set_option maxRecDepth 100000
set_option maxHeartbeats 16000000
namespace Go.Proofs.YtdcfooeoaoahjaaGreat
open Go.Lift
def qK(S:List ca)(x:Int):Nat:=xa S x S.length
theorem aeE(S:List ca)(x:Int):qK S x<=S.length:=Rm S x S.length
def F9(S:List ca)(x r:Int):Bool:=S.any fun a=>decide (a.cj=x)&&decide (a.dN=r)
def zF(S:List ca)(R:List Int)(x:Int)(r:Nat):Bool:= !F9 S x (r:Nat)&&decide (2<=qK S (R.getD r 0))
def sH(S:List ca)(R:List Int)(x:Int)(i:Nat):Nat:=(List.range i).countP (zF S R x)
theorem aeF(S:List ca)(R:List Int)(x:Int)(i:Nat):sH S R x (i+1)=sH S R x i+if zF S R x i=true then 1 else 0:=by
 unfold sH;rw[List.range_succ,List.countP_append,List.countP_cons,List.countP_nil];simp
theorem Tl(S:List ca)(R:List Int)(x:Int)(i:Nat):sH S R x i<=i:=Nat.le_trans List.countP_le_length (by simp)
theorem aeG(v:aQ)(ac:v.mem.length<=maxLen)(S:List ca)(af:S.length<=1000000)(x:Int):bg Tryz.prog 240 [.agg (bN v),.aq 4 (S.map dr) false,i64 x] (i64 (sH S (dq v.mem x) x (dq v.mem x).length:Nat)):=by
 have az:=Fc v.mem ac x;have bL:=vf v.mem x;have cy:=aeF S;have hle:=Tl S;generalize dq v.mem x=R at *;refine bw Tryz.func240 ?_;repeat' ((conv=>whnf);first|refine .inl ⟨_,_,aD _,az,?_⟩|fail)
 all_goals(conv=>whnf)
 refine⟨Nat,fun i=>⟨[(1,.aq 4 (S.map dr) false),(2,i64 x),(7,i64 (sH S R x i:Nat)),(15,.aq 1 (R.map aM) false),(16,i64 R.length),(17,i64 i)],[.cells 24 (bN v)]⟩,fun i=>i<=R.length,fun i=>R.length-i,[],⟨0,Nat.zero_le _,?_⟩,?_⟩
 ·conv=>whnf
  exact⟨⟨.r,.r,.r,.r,aV (by simp),.r,trivial⟩,⟨.r,trivial⟩,by rfl⟩
 ·intro i ab;repeat' ((conv=>whnf);first| (refine be ?_ ?_<;>intro h)|fail)
  ·have ap:i<R.length:=by simpa using h
   clear h;have ag:=cy R x i;have mS:=hle R x i;have ax:R.getD i 0=R[i]:=by simp[ap]
   repeat' ((conv=>whnf);first|refine⟨_,_,And.intro ⟨rfl,cE ap⟩ ?_⟩|fail)
   all_goals(conv=>whnf)
   refine⟨Nat,fun j=>⟨[(1,.aq 4 (S.map dr) false),(2,i64 x),(7,i64 (sH S R x i:Nat)),(8,i64 i),(9,i64 R[i]),(15,.aq 1 (R.map aM) false),(16,i64 R.length),(17,i64 i),(22,.aq 4 (S.map dr) false),(23,i64 S.length),(24,i64 j)],[.cells 24 (bN v)]⟩,fun j=>j<=S.length/\((S.take j).any fun a=>decide (a.cj=x)&&decide (a.dN=(i:Nat)))=false,fun j=>S.length-j,[],⟨0,⟨Nat.zero_le _,by simp⟩,?_⟩,?_⟩
   ·conv=>whnf
    exact⟨⟨.r,.r,.r,.r,.r,.r,aV (by simp),.r,.r,aV (by simp),.r,trivial⟩,⟨.r,trivial⟩,by rfl⟩
   ·intro j ⟨ai,k3⟩;repeat' ((conv=>whnf);first| (refine be ?_ ?_<;>intro h)|fail)
    ·have fX:j<S.length:=by simpa using h
     clear h;repeat' ((conv=>whnf);first|refine bc ?_| (refine be ?_ ?_<;>intro h)|refine And.intro ⟨fun h=>h,fun h=>h⟩ ?_|refine⟨_,_,And.intro ⟨rfl,cE fX⟩ ?_⟩|fail)
     all_goals(conv=>whnf)
     ·have Ll:F9 S x (i:Nat)=true:=by
       unfold F9;rw[List.any_eq_true];exact⟨S[j],List.getElem_mem fX,h⟩
      have ae:zF S R x i=false:=by
       unfold zF;rw[Ll];rfl
      rw[ae,if_neg (by simp),Nat.add_zero]at ag;refine⟨i+1,ap,by simp only[];omega,?_⟩;conv=>whnf
      exact⟨⟨.r,.r,aV (by rw[ag];rfl),.r,.r,aV (bH (by omega)),trivial⟩,⟨.r,trivial⟩,by rfl⟩
     ·refine⟨j+1,⟨fX,?_⟩,by simp only[];omega,?_⟩
      ·rw[List.take_succ_eq_append_getElem fX,List.any_append,k3,Bool.false_or];simp only[List.any_cons,List.any_nil,Bool.or_false];exact h
      ·conv=>whnf
       exact⟨⟨.r,.r,.r,.r,.r,.r,.r,.r,.r,.r,aV (bH (by omega)),trivial⟩,⟨.r,trivial⟩,by rfl⟩
    ·have:j=S.length:=by
      simp at h;omega
     subst this;clear h;rw[List.take_length]at k3;have Ll:F9 S x (i:Nat)=false:=k3;have ae:zF S R x i=decide (2<=qK S R[i]):=by
      unfold zF;rw[Ll,ax];rfl
     have h4:=Rn S af R[i];change bg _ _ _ (i64 (qK S R[i]:Nat))at h4;repeat' ((conv=>whnf);first| (refine be ?_ ?_<;>intro h)|refine .inl ⟨_,_,aD _,h4,?_⟩|fail)
     all_goals(conv=>whnf)
     ·rw[ae,if_pos (decide_eq_true (by have:=of_decide_eq_true h;omega))]at ag;refine⟨i+1,ap,by simp only[];omega,?_⟩;conv=>whnf
      refine⟨⟨.r,.r,aV ?_,.r,.r,aV (bH (by omega)),trivial⟩,⟨.r,trivial⟩,by rfl⟩;rw[ag,dC (by omega) (by omega)];omega
     ·rw[ae,if_neg (by
       have:=of_decide_eq_false h;rw[decide_eq_true_eq];omega),Nat.add_zero]at ag
      refine⟨i+1,ap,by simp only[];omega,?_⟩;conv=>whnf
      exact⟨⟨.r,.r,aV (by rw[ag];rfl),.r,.r,aV (bH (by omega)),trivial⟩,⟨.r,trivial⟩,by rfl⟩
  ·have:i=R.length:=by
    simp at h;omega
   subst this;repeat' ((conv=>whnf);first|exact .refl|fail)
structure Ga where
 cj:Int
 qL:Nat
 imp:Nat
def Lm(t:Ga):List aj:=[i64 t.cj,i64 t.qL,i64 t.imp]
def vG(v:aQ)(S:List ca)(x:Int):Ga:=⟨x,qK S x,if 2<=qK S x then sH S (dq v.mem x) x (dq v.mem x).length else 0⟩
def sI(v:aQ)(S:List ca):List Ga:=bif !dU v S then []else(iD (S.map (·.cj))).map (vG v S)
theorem aeH{n:Nat}(h:n<=2000000):iJ ah 267 n:=by
 have e: (ay ah 267).bytes=24:=by kernel_rfl
 refine⟨?_,?_⟩
 ·rw[e];omega
 ·simp only[maxLen];omega
theorem aeI{v:aQ}{S:List ca}{x:Int}(h:¬2<=qK S x):vG v S x= ⟨x,qK S x,0⟩:=by
 unfold vG;rw[if_neg h]
theorem aeJ{v:aQ}{S:List ca}{x:Int}(h:2<=qK S x):vG v S x= ⟨x,qK S x,sH S (dq v.mem x) x (dq v.mem x).length⟩:=by
 unfold vG;rw[if_pos h]
theorem aeK(v:aQ)(ac:v.mem.length<=maxLen)(S:List ca)(af:S.length<=1000000):bg Tryz.prog 221 [.agg (bN v),.aq 4 (S.map dr) false] (.aq 3 ((sI v S).map Lm) false):=by
 have az:=zh v ac S (by simp only[maxLen];omega);have aG:=aeD S af;have ua:=zE (S.map (·.cj));rw[List.length_map]at ua;have aa:sI v S=bif !dU v S then []else(iD (S.map (·.cj))).map (vG v S):=rfl;have mP:=fun x h=>aeI (v:=v) (S:=S) (x:=x) h;have nt:=fun x h=>aeJ (v:=v) (S:=S) (x:=x) h;have oE:=aeG v ac S af;generalize vG v S=aeL at *;generalize iD (S.map (·.cj))=X at *;generalize sI v S=res at *;generalize dU v S=aku at *;refine bw Tryz.func221 ?_;repeat' ((conv=>whnf);first| (refine be ?_ ?_<;>intro h)|refine .inl ⟨_,_,aD _,az,?_⟩|refine .inl ⟨_,_,aD _,aG,?_⟩|fail)
 all_goals(conv=>whnf)
 ·rw[aa,h];exact .ar
 ·rw[h,cond_false]at aa;clear h;subst aa;refine⟨Nat,fun i=>⟨[(1,.aq 4 (S.map dr) false),(2,.aP 0 0),(5,.own 1),(14,.aq 1 (X.map aM) false),(15,i64 X.length),(16,i64 i)],[.cells 24 (bN v),.row 267 3 (((X.take i).map aeL).map Lm)]⟩,fun i=>i<=X.length,fun i=>X.length-i,[.fS 5 267 3],⟨0,Nat.zero_le _,?_⟩,?_⟩
  ·conv=>whnf
   exact⟨⟨.r,.r,.r,.r,aV (by simp),.r,trivial⟩,⟨.r,.r,trivial⟩,by rfl⟩
  ·intro i ab;repeat' ((conv=>whnf);first| (refine be ?_ ?_<;>intro h)|fail)
   ·have ap:i<X.length:=by simpa using h
    clear h;have h4:=Rn S af X[i];have oE:=oE X[i];have mP:=mP X[i];have nt:=nt X[i];change bg _ _ _ (i64 (qK S X[i]:Nat))at h4;generalize sH S (dq v.mem X[i]) X[i] (dq v.mem X[i]).length=akv at *;generalize qK S X[i]=akw at *;repeat' ((conv=>whnf);first| (refine be ?_ ?_<;>intro h)|refine⟨_,_,And.intro ⟨rfl,cE ap⟩ ?_⟩|refine .inl ⟨_,_,aD _,h4,?_⟩|refine .inl ⟨_,_,aD _,oE,?_⟩|refine And.intro (aeH (by simp<;>omega)) ?_|fail)
    all_goals(conv=>whnf)
    all_goals refine⟨i+1,ap,by simp only[];omega,?_⟩
    all_goals(conv=>whnf)
    all_goals refine⟨⟨.r,.r,.r,.r,.r,aV (bH (by omega)),trivial⟩,⟨.r,ch ?_,trivial⟩,by rfl⟩
    all_goals rw[List.take_succ_eq_append_getElem ap,List.map_append,List.map_append,List.map_singleton,List.map_singleton]
    ·rw[nt (by have:=of_decide_eq_true h;omega)];rfl
    ·rw[mP (by have:=of_decide_eq_false h;omega)];rfl
   ·have:i=X.length:=by
     simp at h;omega
    subst this;rw[List.take_length];repeat' ((conv=>whnf);first|exact .refl|fail)
def qM(b:Bool)(t:Ga):Bool:=decide (2<=t.qL)&& (decide (4<=t.qL+t.imp)==b)
def ek(v:aQ)(S:List ca)(b:Bool):List Int:=((sI v S).filter (qM b)).map (·.cj)
theorem Tm(v:aQ)(S:List ca): (sI v S).length<=S.length/\∀t∈sI v S,t.qL<=S.length/\t.imp<=5:=by
 unfold sI;cases !dU v S
 ·rw[cond_false];have ua:=zE (S.map (·.cj));rw[List.length_map]at ua;refine⟨by rw[List.length_map];exact ua,fun t bW=> ?_⟩;obtain⟨x,_,rfl⟩:=List.mem_map.1 bW;unfold vG;refine⟨aeE S x,?_⟩;split
  ·exact Nat.le_trans (Tl ..) (vf v.mem x)
  ·exact Nat.zero_le _
 ·rw[cond_true];simp
theorem Tn(v:aQ)(ac:v.mem.length<=maxLen)(S:List ca)(af:S.length<=1000000)(b:Bool):bg Tryz.prog 184 [.agg (bN v),.aq 4 (S.map dr) false,.v (.bool b)] (.aq 1 ((ek v S b).map aM) false):=by
 have az:=aeK v ac S af;obtain⟨kD,fq⟩:=Tm v S;unfold ek;generalize sI v S=T at *;have Cx:∀n,n<=2000000->iJ ah 3 n:=fun n h=>by
  have e: (ay ah 3).bytes=8:=by kernel_rfl
  refine⟨?_,?_⟩
  ·rw[e];omega
  ·simp only[maxLen];omega
 refine bw Tryz.func184 ?_;repeat' ((conv=>whnf);first|refine .inl ⟨_,_,aD _,az,?_⟩|fail)
 all_goals(conv=>whnf)
 refine⟨Nat,fun i=>⟨[(2,.v (.bool b)),(7,.own 1),(12,.aq 3 (T.map Lm) false),(13,i64 T.length),(14,i64 i)],[.cells 24 (bN v),.row 3 1 ((((T.take i).filter (qM b)).map (·.cj)).map aM)]⟩,fun i=>i<=T.length,fun i=>T.length-i,[.fS 7 3 1],⟨0,Nat.zero_le _,?_⟩,?_⟩
 ·conv=>whnf
  exact⟨⟨.r,.r,.r,aV (by simp),.r,trivial⟩,⟨.r,.r,trivial⟩,by rfl⟩
 ·intro i ab;repeat' ((conv=>whnf);first| (refine be ?_ ?_<;>intro h)|fail)
  ·have ap:i<T.length:=by simpa using h
   clear h;obtain⟨zo,py⟩:=fq T[i] (List.getElem_mem ap);have aeM: ((T.take i).filter (qM b)).length<=i:=Nat.le_trans (List.length_filter_le ..) (by simp;omega);have ag: ((T.take (i+1)).filter (qM b)).map (·.cj)=((T.take i).filter (qM b)).map (·.cj)++bif qM b T[i]then [T[i].cj]else []:=by
    rw[List.take_succ_eq_append_getElem ap,List.filter_append,List.map_append];cases ae:qM b T[i]<;>simp[ae]
   have Gb:qM b T[i]=(decide (T[i].qL>= (2:Int))&&decide ((decide (IntKind.i64.wrap ((T[i].qL:Int)+(T[i].imp:Int))>=4))=b)):=by
    rw[dC (by omega) (by omega)];unfold qM;have h1:decide (2<=T[i].qL)=decide (((T[i].qL:Nat):Int)>= (2:Int)):=by
     by_cases h:2<=T[i].qL
     ·rw[decide_eq_true h,decide_eq_true (by omega)]
     ·rw[decide_eq_false h,decide_eq_false (by omega)]
    have ad:decide (4<=T[i].qL+T[i].imp)=decide (((T[i].qL:Nat):Int)+((T[i].imp:Nat):Int)>=4):=by
     by_cases h:4<=T[i].qL+T[i].imp
     ·rw[decide_eq_true h,decide_eq_true (by omega)]
     ·rw[decide_eq_false h,decide_eq_false (by omega)]
    rw[h1,ad];congr 1
   have akx: (((T.take i).filter (qM b)).map (·.cj)).length<=i:=by rw[List.length_map];exact aeM
   generalize((T.take i).filter (qM b)).map (·.cj)=Gc at *;generalize qM b T[i]=aeN at *;repeat' ((conv=>whnf);first|refine bc ?_| (refine be ?_ ?_<;>intro h)|refine And.intro ⟨fun h=>h,fun h=>h⟩ ?_|refine⟨_,_,And.intro ⟨rfl,cE ap⟩ ?_⟩|refine And.intro (Cx _ (by simp<;>omega)) ?_|fail)
   all_goals(conv=>whnf)
   all_goals refine⟨i+1,ap,by simp only[];omega,?_⟩
   all_goals(conv=>whnf)
   all_goals refine⟨⟨.r,.r,.r,.r,aV (bH (by omega)),trivial⟩,⟨.r,ch ?_,trivial⟩,by rfl⟩
   ·rw[ag,Gb.trans h,cond_true,List.map_append];rfl
   ·rw[ag,Gb.trans h,cond_false,List.append_nil]
  ·have:i=T.length:=by
    simp at h;omega
   subst this;rw[List.take_length];repeat' ((conv=>whnf);first|exact .refl|fail)
theorem zG(v:aQ)(ac:v.mem.length<=maxLen)(S:List ca)(af:S.length<=1000000):bg Tryz.prog 121 [.agg (bN v),.aq 4 (S.map dr) false] (.aq 1 ((ek v S false).map aM) false):=by
 have az:=Tn v ac S af false;refine bw Tryz.func121 ?_;repeat' ((conv=>whnf);first|exact .refl|refine .inl ⟨_,_,aD _,az,?_⟩|fail)
theorem aeO(v:aQ)(ac:v.mem.length<=maxLen)(S:List ca)(af:S.length<=1000000):bg Tryz.prog 162 [.agg (bN v),.aq 4 (S.map dr) false] (.aq 1 ((ek v S true).map aM) false):=by
 have az:=Tn v ac S af true;refine bw Tryz.func162 ?_;repeat' ((conv=>whnf);first|exact .refl|refine .inl ⟨_,_,aD _,az,?_⟩|fail)
def qN(v:aQ):Nat->List Int->List Int×Bool
 |0,_=>([],false)
 |n+1,l=>bif decide ((eQ v l).2=0)then(l,true)else bif !decide ((eQ v l).2=5)||decide (((fA v l).length:Int)=0)then([],false)
  else qN v n (l.take (ks l ((fA v l).getD ((fA v l).length-1) 0)).toNat++l.drop ((ks l ((fA v l).getD ((fA v l).length-1) 0)).toNat+1))
def Gd(v:aQ)(l:List Int):List Int×Bool:=qN v (l.length+1) l
theorem To(v:aQ)(l:List Int):qN v (l.length+1) l=bif decide ((eQ v l).2=0)then(l,true)else bif !decide ((eQ v l).2=5)||decide (((fA v l).length:Int)=0)then([],false)
  else qN v l.length (l.take (ks l ((fA v l).getD ((fA v l).length-1) 0)).toNat++l.drop ((ks l ((fA v l).getD ((fA v l).length-1) 0)).toNat+1)):=by rw[qN]
theorem aeP{v:aQ}{l:List Int}{x:Int}(h:x∈fA v l):x∈l:=by
 unfold fA pC at h;cases al: (!bX v|| !c9 l 32)
 ·rw[al]at h;exact(List.mem_filter.1 h).1
 ·rw[al]at h;simp at h
theorem aeQ{v:aQ}{l:List Int}(h: (fA v l).length≠0):∃ (k:Nat) (hk:k<l.length),ks l ((fA v l).getD ((fA v l).length-1) 0)=k/\l[k]=(fA v l).getD ((fA v l).length-1) 0:=by
 refine aa2 (aeP (v:=v) ?_);have h1: (fA v l).length-1<(fA v l).length:=by omega
 rw[List.getD_eq_getElem?_getD,List.getElem?_eq_getElem h1,Option.getD_some];exact List.getElem_mem h1
def ey(v:aQ)(S:List ca):List Int×Bool:=bif decide (0<((ek v S false).length:Int))then([],false)else Gd v (ek v S true)
theorem Cy(v:aQ)(S:List ca)(b:Bool): (ek v S b).length<=S.length:=by
 unfold ek;rw[List.length_map];exact Nat.le_trans (List.length_filter_le ..) (Tm v S).1
theorem Ln(v:aQ)(ac:v.mem.length<=500000)(S:List ca)(af:S.length<=500000):bg Tryz.prog 96 [.agg (bN v),.aq 4 (S.map dr) false] (.a1 [.aq 1 ((ey v S).1.map aM) false,.v (.bool (ey v S).2)]):=by
 have D1:v.mem.length<=maxLen:=by simp only[maxLen];omega
 have az:=zG v D1 S (by omega);have aG:=aeO v D1 S (by omega);have gi:=Cy v S true;have aa:ey v S=bif decide (0<((ek v S false).length:Int))then([],false)else qN v ((ek v S true).length+1) (ek v S true):=rfl;generalize ey v S=res at *;generalize ek v S false=U at *;generalize ek v S true=L at *;refine bw Tryz.func96 ?_;repeat' ((conv=>whnf);first| (refine be ?_ ?_<;>intro h)|refine .inl ⟨_,_,aD _,az,?_⟩|refine .inl ⟨_,_,aD _,aG,?_⟩|fail)
 all_goals(conv=>whnf)
 ·rw[List.length_map]at h;rw[aa,h];exact dI ⟨.ar,.r,trivial⟩
 ·rw[List.length_map]at h;rw[h,cond_false]at aa;clear h;subst aa;refine⟨List Int,fun l=>⟨[(2,.aP 0 0),(6,.aq 1 (l.map aM) false)],[.cells 24 (bN v)]⟩,fun l=>l.length<=L.length/\qN v (l.length+1) l=qN v (L.length+1) L,fun l=>l.length,[],⟨L,⟨Nat.le_refl _,rfl⟩,?_⟩,?_⟩
  ·conv=>whnf
   exact⟨⟨.r,.r,trivial⟩,⟨.r,trivial⟩,by rfl⟩
  ·intro l ⟨hlen,hinv⟩;have BK:=y6 v ac l (by omega);have aeR:bg Tryz.prog 108 [.agg (bN v),.aq 1 (l.map aM) false] (.aq 1 ((fA v l).map aM) false):=Qy v (by omega) l (by omega);rw[To]at hinv;have rE:=aeQ (v:=v) (l:=l);have fX: (fA v l).length<=l.length:=Jx v l l v.mem;generalize fA v l=J at *;generalize eQ v l=N at *;obtain⟨aky,akz⟩:=N;simp only[]at BK hinv;generalize qN v (L.length+1) L=res at *;repeat' ((conv=>whnf);first|refine bc ?_| (refine be ?_ ?_<;>intro h)|refine .inl ⟨_,_,aD _,BK,?_⟩|refine .inl ⟨_,_,aD _,aeR,?_⟩|fail)
   all_goals(conv=>whnf)
   ·rw[h,cond_true]at hinv;rw[<-hinv];exact .refl
   ·rename_i h1;rw[List.length_map]at h;rw[h1,h,cond_true,cond_false]at hinv;rw[<-hinv];exact dI ⟨.ar,.r,trivial⟩
   ·rename_i h1;rw[List.length_map]at h;rw[h1,h,cond_false,cond_false]at hinv;have aeS:J.length≠0:=by
     rw[Bool.or_eq_false_iff]at h;have:=of_decide_eq_false h.2;omega
    obtain⟨k,hk,dk,_⟩:=rE aeS;clear h h1 rE;have h6:IntKind.i64.wrap (((J.map aM).length:Int)-1)=((J.length-1:Nat):Int):=by
     rw[List.length_map,dC (by omega) (by omega)];omega
    have JK: (J.map aM)[J.length-1]?=some (aM (J.getD (J.length-1) 0)):=by
     have:J.length-1<J.length:=by omega
     simp[this]
    generalize J.getD (J.length-1) 0=y at *;have l1:=BD l (by simp only[maxLen];omega) y;rw[dk]at l1 hinv;rw[Int.toNat_natCast]at hinv;have fT:IntKind.i64.wrap ((k:Int)+1)=((k+1:Nat):Int):=by
     rw[dC (by omega) (by omega)];omega
    have e8:k+1<=(l.map aM).length:=by
     rw[List.length_map];omega
    have aeT:k<=(l.map aM).length:=by omega
    have Cx:∀n,n<=2000000->iJ ah 3 n:=fun n h=>by
     have e: (ay ah 3).bytes=8:=by kernel_rfl
     refine⟨?_,?_⟩
     ·rw[e];omega
     ·simp only[maxLen];omega
    repeat' ((conv=>whnf);first|refine And.intro (by kernel_rfl) ?_|refine⟨J.length-1,_,And.intro ⟨h6,JK⟩ ?_⟩|refine .inl ⟨_,_,aD _,l1,?_⟩|refine⟨0,k,And.intro ⟨rfl,⟨_,rfl⟩,⟨_,rfl⟩,Nat.zero_le _,aeT⟩ ?_⟩|refine⟨k+1,And.intro ⟨⟨_,congrArg (fun x=>aj.v (Value.int .i64 x)) fT⟩,e8⟩ ?_⟩|refine And.intro (Cx _ (by simp<;>omega)) ?_|refine .inr ?_|fail)
    all_goals(conv=>whnf)
    have gh: (l.take k++l.drop (k+1)).length+1=l.length:=by
     simp;omega
    refine⟨l.take k++l.drop (k+1),⟨by omega,by rw[gh];exact hinv⟩,by simp only[];omega,?_⟩;conv=>whnf
    refine⟨⟨.r,hT ?_,trivial⟩,⟨.r,trivial⟩,by rfl⟩;rw[List.drop_zero,<-List.map_take,<-List.map_drop,List.map_append]
theorem aeU(l:List Nat)(af:l.length<=800000)(v:Int)(h1: -1<=v)(ad:v<=1099511627776):bg Tryz.prog 155 [.aq 1 (l.map bo) false,i64 v] (.aq 1 ((l++bn (eD v)).map bo) false):=by
 have m1:=J0 l (by omega);have m2:=Rj l (by omega) v h1 ad;refine bw Tryz.func155 ?_;repeat' ((conv=>whnf);first|exact .refl|refine .inr ⟨[],[],_,[],_,_,m1,by rfl,trivial,⟨.r,.r,trivial⟩,?_⟩|refine .inr ⟨[0],_,_,_,_,_,m2,by rfl,⟨.r,trivial⟩,⟨.r,.r,trivial⟩,?_⟩|fail)
def hh(l:List Int):List Nat:=l.flatMap fun v=>bn (eD v)
def eT(l:List Int):List Nat:=bn l.length++hh l
theorem xv(l:List Int): (hh l).length<=10*l.length:=by
 induction l with
 |nil=>simp[hh]
 |cons x l aN=>
  have h:=fM 9 (eD x);have e:hh (x::l)=bn (eD x)++hh l:=rfl;rw[e,List.length_append,List.length_cons];have: (bn (eD x)).length<=10:=h;omega
theorem Lo(b:List Nat)(ae:b.length<=700000)(l:List Int)(af:l.length<=1000)(ao:∀v∈l,-1<=v/\v<=1099511627776):bg Tryz.prog 143 [.aq 1 (b.map bo) false,.aq 1 (l.map aM) false] (.aq 1 ((b++eT l).map bo) false):=by
 have m1:=Fp b (by omega) (10+2*l.length) (by omega);have m2:=zi b (by omega) l.length (by omega);have Fs:IntKind.i64.wrap (10+IntKind.i64.wrap (2* ((l.map aM).length:Int)))=((10+2*l.length:Nat):Int):=by
  rw[List.length_map,dC (n:=2* (l.length:Int)) (by omega) (by omega),dC (by omega) (by omega)];omega
 have hu:IntKind.u64.wrap ((l.map aM).length:Int)=((l.length:Nat):Int):=by
  rw[List.length_map];exact h8 (by omega) (by omega)
 refine bw Tryz.func143 ?_;repeat' ((conv=>whnf);first|refine .inr ⟨[],[],_,[],_,_,m1,by rfl,trivial,⟨.r,aV Fs,trivial⟩,?_⟩|refine .inr ⟨[0],_,_,_,_,_,m2,by rfl,⟨.r,trivial⟩,⟨.r,aV hu,trivial⟩,?_⟩|fail)
 all_goals(conv=>whnf)
 have gi: (bn l.length).length<=10:=fM 9 l.length;clear m1 m2 Fs hu;refine⟨Nat,fun i=>⟨[(5,.own 0),(18,.aq 1 (l.map aM) false),(19,i64 l.length),(20,i64 i)],[.row 5 1 ((b++bn l.length++hh (l.take i)).map bo)]⟩,fun i=>i<=l.length,fun i=>l.length-i,[],⟨0,Nat.zero_le _,?_⟩,?_⟩
 ·conv=>whnf
  exact⟨⟨.r,.r,aV (by simp),.r,trivial⟩,⟨ch (by simp[hh]),trivial⟩,by rfl⟩
 ·intro i ab;repeat' ((conv=>whnf);first| (refine be ?_ ?_<;>intro h)|fail)
  all_goals(conv=>whnf)
  ·have ap:i<l.length:=by simpa using h
   clear h;have ac:=ao _ (List.getElem_mem ap);have hlen:=xv (l.take i);have uY: (l.take i).length=i:=by simp;omega
   have m3:=Rj (b++bn l.length++hh (l.take i)) (by simp only[List.length_append];omega) l[i] ac.1 ac.2;have gF:b++bn l.length++hh (l.take i)++bn (eD l[i])=b++bn l.length++hh (l.take (i+1)):=by
    rw[List.append_assoc (b++bn l.length)];congr 1;unfold hh;rw[List.take_succ_eq_append_getElem ap,List.flatMap_append];simp
   rw[gF]at m3;repeat' ((conv=>whnf);first|refine⟨_,_,And.intro ⟨rfl,cE ap⟩ ?_⟩|refine .inr ⟨[0],_,_,_,_,_,m3,by rfl,⟨.r,trivial⟩,⟨.r,.r,trivial⟩,?_⟩|fail)
   all_goals(conv=>whnf)
   refine⟨i+1,ap,by simp only[];omega,?_⟩;conv=>whnf
   exact⟨⟨.r,.r,.r,aV (bH (by omega)),trivial⟩,⟨.r,trivial⟩,by rfl⟩
  ·have cw:i=l.length:=by
    have:=of_decide_eq_false h;simp at this;omega
   subst cw;rw[List.take_length];refine hT ?_;simp[eT]
theorem aeV{v:Int}(ad:v<=1099511627776):eD v<18446744073709551616:=J8 ad
theorem aeW{v:Int}(h1: -1<=v)(ad:v<=1099511627776):bits .xor .i64 (IntKind.i64.wrap (((eD v:Nat):Int).fdiv (2^ (min (1:Int).toNat 64)))) (IntKind.i64.wrap (0-IntKind.i64.wrap (bits .and .u64 ((eD v:Nat):Int) 1)))=v:=by
 by_cases h:v<0
 ·have e:v= -1:=by omega
  subst e
  decide+kernel
 ·have bE: ((eD v:Nat):Int)=2*v:=by
   unfold eD;rw[if_neg h];omega
  have aG: (2:Int)^ (min (1:Int).toNat 64)=2:=by decide
  have aZ:∀n:Nat,n<9223372036854775808->bits .and .u64 ((2*n:Nat):Int) 1=0:=fun n aS=>by
   unfold bits;simp only[IntKind.bits,IntKind.signed];have ae: (BitVec.ofInt 64 ((2*n:Nat):Int)&&&BitVec.ofInt 64 1).toNat=0:=by
    rw[BitVec.toNat_and,BitVec.ofInt_natCast,BitVec.toNat_ofNat];rw[Nat.mod_eq_of_lt (by omega)];have: (BitVec.ofInt 64 1).toNat=1:=by decide
    rw[this,Nat.and_one_is_mod];omega
   exact(congrArg (fun k:Nat=>IntKind.u64.wrap (k:Int)) ae).trans (by decide)
  have a7:IntKind.i64.wrap (2*v)=2*v:=dC (by omega) (by omega);have an:∀n:Nat,n<9223372036854775808->bits .xor .i64 (n:Int) 0=(n:Int):=fun n aS=>by
   unfold bits;simp only[IntKind.bits,IntKind.signed];have ae: (BitVec.ofInt 64 (n:Int)^^^BitVec.ofInt 64 0).toNat=n:=by
    have aH:BitVec.ofInt 64 0=0#64:=by decide
    rw[aH,BitVec.xor_zero,BitVec.ofInt_natCast,BitVec.toNat_ofNat];exact Nat.mod_eq_of_lt (by omega)
   exact(congrArg (fun k:Nat=>IntKind.i64.wrap (k:Int)) ae).trans (dC (by omega) (by omega))
  obtain⟨n,aS⟩:∃n:Nat,v=(n:Int):=⟨v.toNat,by omega⟩
  have xt: ((eD v:Nat):Int)=((2*n:Nat):Int):=by rw[bE];omega
  rw[xt,aZ n (by omega),aG,Int.fdiv_eq_ediv_of_nonneg _ (by omega)];have aa: ((2*n:Nat):Int)/2=(n:Int):=by omega
  have eJ:IntKind.i64.wrap (n:Int)=n:=dC (by omega) (by omega);have aY:IntKind.i64.wrap (0-IntKind.i64.wrap 0)=0:=by decide
  rw[aa,eJ,aY,an n (by omega),aS]
theorem Tp(v:Int)(h1: -1<=v)(ad:v<=1099511627776)(r:List Nat)(ao:r.length<=900000):bg Tryz.prog 136 [.aq 1 ((bn (eD v)++r).map bo) false] (.a1 [i64 v,i64 (bn (eD v)).length,i64 0]):=by
 have gi: (bn (eD v)).length<=10:=fM 9 (eD v);have e:=w8 (bn (eD v)++r) (by simp only[List.length_append];omega);rw[vh (aeV ad)]at e;have bE:=aeW h1 ad;refine bw Tryz.func136 ?_;repeat' ((conv=>whnf);first|refine .inl ⟨_,_,aD _,e,?_⟩| (refine And.intro ?_ ?_;focus (simp;done))|fail)
 all_goals(conv=>whnf)
 all_goals exact dI ⟨aV bE,.r,.r,trivial⟩
theorem aeX(l:List Int){i:Nat}(h:i<l.length):hh l=hh (l.take i)++(bn (eD l[i])++hh (l.drop (i+1))):=by
 have e:l=l.take i++(l[i]::l.drop (i+1)):=by
  rw[<-List.drop_eq_getElem_cons h,List.take_append_drop]
 have aG:hh l=hh (l.take i++(l[i]::l.drop (i+1))):=congrArg hh e;rw[aG];unfold hh;rw[List.flatMap_append,List.flatMap_cons]
theorem aeY(l:List Int){i:Nat}(h:i<l.length): (hh (l.take (i+1))).length=(hh (l.take i)).length+(bn (eD l[i])).length:=by
 unfold hh;rw[List.take_succ_eq_append_getElem h,List.flatMap_append,List.length_append];simp
theorem aeZ{l:List Int}(af:l.length<=1000){dF:Int}(h: (l.length:Int)<=dF)(p8:dF<=1000000)(r:List Nat):tQ (eT l++r) dF=((l.length:Int),(((bn l.length).length:Nat):Int),0):=by
 unfold tQ eT;rw[List.append_assoc,vh (by omega)];rw[decide_eq_false (show ¬dF<0 by omega)];have e:IntKind.u64.wrap dF=dF:=h8 (by omega) (by omega);rw[e,decide_eq_false (show ¬dF<(l.length:Int) by omega),dC (by omega) (by omega)];rfl
theorem ae0(l:List Int)(af:l.length<=1000)(ao:∀v∈l,-1<=v/\v<=1099511627776)(dF:Int)(ae1: (l.length:Int)<=dF)(p8:dF<=1000000)(r:List Nat)(fp:r.length<=800000):
  bg Tryz.prog 225 [.aq 1 ((eT l++r).map bo) false,i64 dF,.fn (.func 136) []] (.a1 [.aq 1 (l.map aM) false,i64 (eT l).length,i64 0]):=by
 have gi: (bn l.length).length<=10:=fM 9 l.length;have dG:=xv l;have Tq: (eT l).length=(bn l.length).length+(hh l).length:=by simp[eT]
 have az:=Rb (eT l++r) (by simp only[List.length_append];omega) dF;rw[aeZ af ae1 p8]at az;refine bw Tryz.func225 ?_;repeat' ((conv=>whnf);first|refine .inl ⟨_,_,aD _,az,?_⟩|fail)
 all_goals(conv=>whnf)
 obtain⟨F,dA⟩:∃F:Nat->Nat,∀i,F i=(bn l.length).length+(hh (l.take i)).length:=⟨_,fun _=>rfl⟩
 refine⟨Nat,fun i=>⟨[(0,.aq 1 ((eT l++r).map bo) false),(2,.fn (.func 136) []),(6,.own 0),(7,i64 ((F i:Nat):Int)),(8,i64 0),(9,i64 l.length),(10,i64 i)],[.row 3 1 ((l.take i).map aM)]⟩,fun i=>i<=l.length,fun i=>l.length-i,[.fS 6 3 1],⟨0,Nat.zero_le _,?_⟩,?_⟩
 ·conv=>whnf
  exact⟨⟨.r,.r,.r,aV (by rw[dA 0];simp[hh]),.r,.r,.r,trivial⟩,⟨.r,trivial⟩,by rfl⟩
 ·intro i ab;have aw:=dA i;have qO:=dA (i+1);have uY:=xv (l.take i);have kp: (l.take i).length=i:=by simp;omega
  repeat' ((conv=>whnf);first|refine bc ?_| (refine be ?_ ?_<;>intro h)|refine And.intro ⟨fun h=>h,fun h=>h⟩ ?_|fail)
  all_goals(conv=>whnf)
  ·have aH:=h;have ap:i<l.length:=by simpa using aH
   clear aH h;have ac:=ao _ (List.getElem_mem ap);have Cz:=aeX l ap;have ic:=aeY l ap;have jc:=xv (l.drop (i+1));have iL: (l.drop (i+1)).length=l.length- (i+1):=List.length_drop;have akA: (bn (eD l[i])).length<=10:=fM 9 _;have ae2:F i<=((eT l++r).map bo).length:=by
    rw[List.length_map,List.length_append,Tq,Cz];simp only[List.length_append];omega
   have iN: ((eT l++r).map bo).drop (F i)=(bn (eD l[i])++(hh (l.drop (i+1))++r)).map bo:=by
    rw[<-List.map_drop];congr 1;have e:eT l++r=(bn l.length++hh (l.take i))++(bn (eD l[i])++(hh (l.drop (i+1))++r)):=by
     unfold eT;rw[Cz];simp only[List.append_assoc]
    rw[e,List.drop_append_of_le_length (by rw[List.length_append];omega),List.drop_of_length_le (by rw[List.length_append];omega)];rfl
   have aG:=Tp l[i] ac.1 ac.2 (hh (l.drop (i+1))++r) (by rw[List.length_append];omega);repeat' ((conv=>whnf);first|refine⟨F i,And.intro ⟨⟨_,rfl⟩,ae2⟩ ?_⟩|refine .inl ⟨[.aq 1 ((bn (eD l[i])++(hh (l.drop (i+1))++r)).map bo) false],_,⟨hT iN,trivial⟩,aG,?_⟩|refine And.intro (nC (by simp<;>omega)) ?_|fail)
   all_goals(conv=>whnf)
   refine⟨i+1,ap,by simp only[];omega,?_⟩;conv=>whnf
   refine⟨⟨.r,.r,.r,aV ?_,.r,.r,aV (bH (by omega)),trivial⟩,⟨ch ?_,trivial⟩,by rfl⟩
   ·rw[dC (by omega) (by omega)];omega
   ·rw[List.take_succ_eq_append_getElem ap,List.map_append];rfl
  ·have aH:=h;have cw:i=l.length:=by
    simp at aH;omega
   subst cw;rw[List.take_length]at aw⊢;refine dI ⟨.r,aV ?_,.r,trivial⟩;rw[Tq,aw]
theorem Tr(l:List Int)(af:l.length<=1000)(ao:∀v∈l,-1<=v/\v<=1099511627776)(dF:Int)(h: (l.length:Int)<=dF)(p8:dF<=1000000)(r:List Nat)(fp:r.length<=800000):
  bg Tryz.prog 188 [.aq 1 ((eT l++r).map bo) false,i64 dF] (.a1 [.aq 1 (l.map aM) false,i64 (eT l).length,i64 0]):=by
 refine bw Tryz.func188 ?_;repeat' ((conv=>whnf);first|exact .refl|refine .inl ⟨_,_,aD _,ae0 l af ao dF h p8 r fp,?_⟩|fail)
def hx(v:aQ):List Nat:=bn v.num.toNat++eT v.mem
theorem lB{v:aQ}(h:bX v=true):0<=v.num/\v.num<=1099511627776/\c9 v.mem 16=true:=by
 unfold bX at h;simp only[Bool.and_eq_true,decide_eq_true_eq]at h;exact⟨h.1.1,h.1.2,h.2⟩
theorem CA{l:List Int}{m:Int}(h:c9 l m=true):1<=l.length/\(l.length:Int)<=m:=by
 unfold c9 at h;simp only[Bool.and_eq_true,Bool.not_eq_true',Bool.or_eq_false_iff,decide_eq_false_iff_not]at h;omega
theorem Ge{l:List Int}{m:Int}(h:c9 l m=true):∀x∈l,1<=x/\x<=1000:=by
 unfold c9 at h;simp only[Bool.and_eq_true]at h;have aZ:=gB.1 h.2;have key:∀i,i<l.length->1<=l.getD i 0/\l.getD i 0<=1000:=by
  intro i;induction i with
  |zero=>
   intro ab;have:=aZ 0 ab;unfold rq at this;simp only[Bool.not_eq_true',Bool.or_eq_false_iff,decide_eq_false_iff_not]at this;have aH: (0::l).getD 0 0=(0:Int):=rfl;rw[aH]at this;omega
  |succ i aN=>
   intro ab;have:=aZ (i+1) ab;unfold rq at this;simp only[Bool.not_eq_true',Bool.or_eq_false_iff,decide_eq_false_iff_not]at this;have aH: (0::l).getD (i+1) 0=l.getD i 0:=rfl;rw[aH]at this;have:=aN (by omega);omega
 intro x an;obtain⟨i,ab,rfl⟩:=List.getElem_of_mem an;have:=key i ab;rw[show l.getD i 0=l[i] by simp[ab]]at this;exact this
theorem Gf{v:aQ}(h:bX v=true):v.mem.length<=16/\∀x∈v.mem,-1<=x/\x<=1099511627776:=by
 have aC:=(lB h).2.2;have:=CA aC;refine⟨by omega,fun x an=> ?_⟩;have:=Ge aC x an;omega
theorem xw{n:Int}(aH:0<=n)(h1:n<=1099511627776):IntKind.u64.wrap n=((n.toNat:Nat):Int):=by
 rw[h8 (by omega) (by omega)];omega
theorem ae3(v:aQ)(h:bX v=true):bg Tryz.prog 142 [.agg (bN v)] (.aq 1 ((hx v).map bo) false):=by
 obtain⟨h1,ad,aC⟩:=lB h;obtain⟨bh,bL⟩:=Gf h;have az:=n3 v (Nat.le_trans bh (by decide));rw[h]at az;have gi: (bn v.num.toNat).length<=10:=fM 9 _;have aG:=w7 [] (by simp) v.num.toNat (by omega);have a7:=Lo (bn v.num.toNat) (by omega) v.mem (by omega) bL;have hu:=xw h1 ad;refine bw Tryz.func142 ?_;repeat' ((conv=>whnf);first|exact .refl|refine And.intro (by kernel_rfl) ?_|refine .inl ⟨_,_,aD _,az,?_⟩|refine .inl ⟨[.aq 1 (([]:List Nat).map bo) false,_],_,⟨.ar,aV hu,trivial⟩,aG,?_⟩|refine .inl ⟨_,_,aD _,a7,?_⟩|fail)
theorem zH(v:aQ)(h:bX v=true): (hx v).length<=1000:=by
 obtain⟨bh,bL⟩:=Gf h;have gi: (bn v.num.toNat).length<=10:=fM 9 _;have akB: (bn v.mem.length).length<=10:=fM 9 _;have:=xv v.mem;unfold hx eT;simp only[List.length_append];omega
theorem ae4(v:aQ)(h:bX v=true)(r:List Nat)(ao:r.length<=700000):bg Tryz.prog 138 [.aq 1 ((hx v++r).map bo) false] (.a1 [.agg (bN v),i64 (hx v).length,i64 0]):=by
 obtain⟨h1,ad,aC⟩:=lB h;obtain⟨bh,bL⟩:=Gf h;have af:=zH v h;have si: (hx v).length=(bn v.num.toNat).length+(eT v.mem).length:=by simp[hx]
 have az:=w8 (hx v++r) (by rw[List.length_append];omega);have Cz:hx v++r=bn v.num.toNat++(eT v.mem++r):=by
  unfold hx;rw[List.append_assoc]
 have ae5:dd (hx v++r) 0 0=(((v.num.toNat:Nat):Int),(((bn v.num.toNat).length:Nat):Int),0):=by
  rw[Cz];exact vh (by omega) _
 rw[ae5]at az;have aS: ((v.num.toNat:Nat):Int)=v.num:=by omega
 rw[aS]at az;have aG:=Tr v.mem (by omega) bL 16 (by omega) (by omega) r (by omega);have a7:=u9 v.mem (Nat.le_trans bh (by decide));rw[aC]at a7;obtain⟨A,aw⟩:∃A,A=(bn v.num.toNat).length:=⟨_,rfl⟩
 rw[<-aw]at az si;have iN: ((hx v++r).map bo).drop A=(eT v.mem++r).map bo:=by
  rw[<-List.map_drop,Cz,aw,List.drop_left]
 have ae6:A<=((hx v++r).map bo).length:=by
  rw[List.length_map,List.length_append];omega
 have al:decide ((1099511627776:Int)<v.num)=false:=decide_eq_false (by omega);have hw:IntKind.i64.wrap v.num=v.num:=dC (by omega) (by omega);have l5:IntKind.i64.wrap ((A:Int)+((eT v.mem).length:Int))=(((hx v).length:Nat):Int):=by
  rw[dC (by omega) (by omega)];omega
 refine bw Tryz.func138 ?_;repeat' ((conv=>whnf);first|refine dE (by assumption) ?_|refine .inl ⟨_,_,aD _,az,?_⟩|refine⟨A,And.intro ⟨⟨_,rfl⟩,ae6⟩ ?_⟩|refine .inl ⟨[.aq 1 ((eT v.mem++r).map bo) false,_],_,⟨hT iN,.r,trivial⟩,aG,?_⟩|refine .inl ⟨_,_,aD _,a7,?_⟩|fail)
 all_goals(conv=>whnf)
 all_goals exact dI ⟨gM ⟨aV hw,.r,trivial⟩,aV l5,.r,trivial⟩
def rF(b:List Nat):List aj:=[.aq 1 (b.map bo) false,.v (.bool false)]
theorem CB(b:List Nat)(n:Nat)(h:n<=b.length):b0 Tryz.prog 76 [.cells 135 (rF b)] [.aP 0 0,i64 n,i64 0] [true] [.cells 135 (rF (b.drop n))] (.a1 []):=by
 have af:n<=(b.map bo).length:=by rw[List.length_map];exact h
 refine dw Tryz.func76 ?_;repeat' ((conv=>whnf);first|refine⟨n,And.intro ⟨⟨_,rfl⟩,af⟩ ?_⟩|fail)
 all_goals(conv=>whnf)
 refine⟨.r,⟨j9 ⟨hT ?_,.r,trivial⟩,.r,trivial⟩,by rfl⟩;rw[List.map_drop]
theorem xx(v:Nat)(ac: (v:Int)<=1099511627776)(r:List Nat)(ao:r.length<=700000):b0 Tryz.prog 74 [.cells 135 (rF (bn v++r))] [.aP 0 0] [true] [.cells 135 (rF r)] (i64 v):=by
 have gi: (bn v).length<=10:=fM 9 _;have az:=w8 (bn v++r) (by rw[List.length_append];omega);rw[vh (by omega)]at az;have aG:=CB (bn v++r) (bn v).length (by rw[List.length_append];omega);rw[List.drop_left]at aG;have al:decide ((1099511627776:Int)<(v:Int))=false:=decide_eq_false (by omega);have hw:IntKind.i64.wrap (v:Int)=v:=dC (by omega) (by omega);refine dw Tryz.func74 ?_;repeat' ((conv=>whnf);first|refine dE (by assumption) ?_|refine .inl ⟨_,_,aD _,az,?_⟩|refine .inr ⟨[0],_,_,_,_,_,aG,by rfl,⟨.r,trivial⟩,⟨.r,.r,.r,trivial⟩,?_⟩|fail)
 all_goals(conv=>whnf)
 all_goals exact⟨aV hw,⟨.r,.r,trivial⟩,by rfl⟩
theorem Ts(l:List Int)(af:l.length<=32)(ab:∀v∈l,-1<=v/\v<=1099511627776)(r:List Nat)(ao:r.length<=700000):b0 Tryz.prog 137 [.cells 135 (rF (eT l++r))] [.aP 0 0] [true] [.cells 135 (rF r)] (.aq 1 (l.map aM) false):=by
 have az:=Tr l (by omega) ab 32 (by omega) (by omega) r (by omega);have aG:=CB (eT l++r) (eT l).length (by rw[List.length_append];omega);rw[List.drop_left]at aG;refine dw Tryz.func137 ?_;repeat' ((conv=>whnf);first|refine .inl ⟨_,_,aD _,az,?_⟩|refine .inr ⟨[0],_,_,_,_,_,aG,by rfl,⟨.r,trivial⟩,⟨.r,.r,.r,trivial⟩,?_⟩|fail)
 all_goals(conv=>whnf)
 all_goals exact⟨.r,⟨.r,.r,trivial⟩,by rfl⟩
def cB(c:List Int):List aj:=[.aq 1 (c.map aM) false]
theorem xy{n:Nat}(h:n<=2000000):iJ ah 22 n:=by
 have e: (ay ah 22).bytes=24:=by kernel_rfl
 refine⟨?_,?_⟩
 ·rw[e];omega
 ·simp only[maxLen];omega
structure gG where
 cj:Int
 ep:Int
def db(d:gG):List aj:=[i64 d.cj,i64 d.ep]
structure Mem where
 self:Int
 status:Int
 cont:List Int
 first:aQ
 hist:List (List Int)
 view:aQ
 bk:h9
 als:List ca
 dbts:List gG
 agr:bj
def bU(s:Mem):List aj:=[i64 s.self,i64 s.status,.aq 1 (s.cont.map aM) false,i64 s.first.num,.aq 1 (s.first.mem.map aM) false,.aq 1 (s.hist.map cB) false,i64 s.view.num,.aq 1 (s.view.mem.map aM) false,i64 s.bk.self,i64 s.bk.view.num,.aq 1 (s.bk.view.mem.map aM) false,.aq 6 (s.bk.bS.map iS) false,.aq 4 (s.als.map dr) false,.aq 2 (s.dbts.map db) false,i64 s.agr.self,i64 s.agr.view.num,.aq 1 (s.agr.view.mem.map aM) false,i64 s.agr.aL.cc,i64 s.agr.aL.aB,.aq 1 (s.agr.aL.cut.map aM) false,.aq 1 (s.agr.prop.map aM) false,.aq 2 (s.agr.box.map dh) false,i64 s.agr.aB,i64 s.agr.phase,.aq 3 (s.agr.br.map bG) false,.aq 1 (s.agr.ct.map aM) false,.aq 3 (s.agr.aR.map bG) false,.aq 1 (s.agr.dec.map aM) false,i64 s.agr.dn]
def jX:aQ:=⟨0,[]⟩
def ka(a b:aQ):Bool:=decide (a.num=b.num)&&fK a.mem b.mem
def kv(x:Int):Bool:=decide (1<=x)&&decide (x<=1000)
theorem xz(x:Int):bg Tryz.prog 31 [i64 x] (.v (.bool (kv x))):=by
 refine bw Tryz.func31 ?_;repeat' ((conv=>whnf);first|refine bc ?_|exact .refl|fail)
theorem ub(a b:aQ)(aZ:a.mem.length<=maxLen):bg Tryz.prog 34 [.agg (bN a),.agg (bN b)] (.v (.bool (ka a b))):=by
 refine bw Tryz.func34 ?_;repeat' ((conv=>whnf);first|refine bc ?_|exact .refl|refine And.intro ⟨fun h=>h,fun h=>h⟩ ?_|refine⟨_,_,aD _,fun _=>Jw _ _ aZ,?_⟩|fail)
theorem o0(v:aQ)(ac:v.mem.length<=1000000):bg Tryz.prog 44 [.agg (bN v)] (.agg (bN v)):=by
 refine bw Tryz.func44 ?_;repeat' ((conv=>whnf);first|exact .refl|refine And.intro (by kernel_rfl) ?_|refine .inl ⟨_,_,aD _,mw _ ac,?_⟩|fail)
def c3(first:aQ)(aE:List (List Int)):Nat->aQ
 |0=>first
 |i+1=>(eQ (c3 first aE i) (aE.getD i [])).1
def o1(first:aQ)(aE:List (List Int))(i:Nat):Bool:=decide ((eQ (c3 first aE i) (aE.getD i [])).2=0)
def hX(first:aQ)(aE:List (List Int)):Nat->List aQ
 |0=>[first]
 |i+1=>hX first aE i++ [c3 first aE (i+1)]
def hD(first:aQ)(aE:List (List Int)):List aQ×Bool:=
 bif !bX first||decide (400<(aE.length:Int))then([],false)
 else bif gA (o1 first aE) aE.length then(hX first aE aE.length,true)else([],false)
def dO(s:Mem)(v:aQ):Mem:=
 bif bR v.mem s.self then {s with view:=v,als:=[],dbts:=[],status:=1,bk:=(ix v s.self).1,agr:=(jd v s.self).1}
 else {s with view:=v,als:=[],dbts:=[],status:=2,bk:=my,agr:=eR}
def cX:Mem:=⟨0,0,[],jX,[],jX,my,[],[],eR⟩
def xA(v:aQ)(self:Int):Mem×Int:=bif !bX v|| !bR v.mem self then(cX,1)else(dO {cX with self:=self,first:=v} v,0)
def xB(self:Int)(cont:List Int):Mem×Int:=bif !kv self|| !c9 cont 16||bR cont self then(cX,1)else({cX with self:=self,cont:=cont},0)
structure fe(s:Mem):Prop where
 cont:s.cont.length<=1000
 first:s.first.mem.length<=1000
 hist:s.hist.length<=1000
 zI:∀c∈s.hist,c.length<=1000
 view:s.view.mem.length<=1000
 pM:s.bk.view.mem.length<=1000
 bS:s.bk.bS.length<=1000
 Gg:∀e∈s.bk.bS,0<=e.kN.bits
 als:s.als.length<=6000
 dbts:s.dbts.length<=1000
 agr:dt s.agr
theorem Lp{n:Nat}(h:n<=2000000):iJ ah 150 n:=by
 have e: (ay ah 150).bytes=16:=by kernel_rfl
 refine⟨?_,?_⟩
 ·rw[e];omega
 ·simp only[maxLen];omega
theorem Tt{n:Nat}(h:n<=2000000):iJ ah 24 n:=by
 have e: (ay ah 24).bytes=32:=by kernel_rfl
 refine⟨?_,?_⟩
 ·rw[e];omega
 ·simp only[maxLen];omega
theorem Tu(l:List gG)(af:l.length<=1000000):bg Tryz.prog 82 [.aq 2 (l.map db) false] (.aq 2 (l.map db) false):=by
 refine bw Tryz.func82 ?_;repeat' ((conv=>whnf);first|refine bc ?_|fail)
 refine And.intro (fun kn=> ?_) ?_
 ·repeat' ((conv=>whnf);first|refine bc ?_|fail)
  all_goals(conv=>whnf)
  rw[kn];exact .ar
 ·repeat' ((conv=>whnf);first|refine bc ?_|fail)
  all_goals(conv=>whnf)
  refine And.intro (Lp (by simp;omega)) ?_;repeat' ((conv=>whnf);first|exact .refl|fail)
theorem Lq(l:List Edge)(af:l.length<=1000000):bg Tryz.prog 80 [.aq 6 (l.map iS) false] (.aq 6 (l.map iS) false):=by
 refine bw Tryz.func80 ?_;repeat' ((conv=>whnf);first|refine bc ?_|fail)
 refine And.intro (fun kn=> ?_) ?_
 ·repeat' ((conv=>whnf);first|refine bc ?_|fail)
  all_goals(conv=>whnf)
  rw[kn];exact .ar
 ·repeat' ((conv=>whnf);first|refine bc ?_|fail)
  all_goals(conv=>whnf)
  refine And.intro (JO (by simp;omega)) ?_;repeat' ((conv=>whnf);first|exact .refl|fail)
theorem ae7(l:List (List Int))(af:l.length<=1000000)(bx:l≠ []):b0 Tryz.prog 139 [] [.aq 1 (l.map cB) false] [] [.row 22 1 (l.map cB)] (.own 0):=by
 refine dw Tryz.func139 ?_;repeat' ((conv=>whnf);first|refine bc ?_|fail)
 refine And.intro (fun kn=> ?_) ?_
 ·exact absurd (List.map_eq_nil_iff.1 kn) bx
 ·repeat' ((conv=>whnf);first|refine bc ?_|fail)
  all_goals(conv=>whnf)
  refine And.intro (xy (by simp;omega)) ?_;repeat' ((conv=>whnf);first|refine bc ?_|fail)
  all_goals(conv=>whnf)
  exact⟨.r,⟨.r,trivial⟩,by rfl⟩
theorem ae8:bg Tryz.prog 139 [.aq 1 (([]:List (List Int)).map cB) false] (.aq 1 (([]:List (List Int)).map cB) false):=by
 refine bw Tryz.func139 ?_;repeat' ((conv=>whnf);first|refine bc ?_|fail)
 refine And.intro (fun kn=> ?_) ?_
 ·repeat' ((conv=>whnf);first|refine bc ?_|fail)
  all_goals(conv=>whnf)
  exact .ar
 ·repeat' ((conv=>whnf);first|refine bc ?_|fail)
  all_goals(conv=>whnf)
  refine And.intro (xy (by simp)) ?_;repeat' ((conv=>whnf);first|exact .refl|fail)
theorem ae9(l:List cb)(af:l.length<=1000000)(bx:l≠ []):b0 Tryz.prog 189 [] [.aq 3 (l.map bG) false] [] [.row 179 3 (l.map bG)] (.own 0):=by
 refine dw Tryz.func189 ?_;repeat' ((conv=>whnf);first|refine bc ?_|fail)
 refine And.intro (fun kn=> ?_) ?_
 ·exact absurd (List.map_eq_nil_iff.1 kn) bx
 ·repeat' ((conv=>whnf);first|refine bc ?_|fail)
  all_goals(conv=>whnf)
  refine And.intro (Fy (by simp;omega)) ?_;repeat' ((conv=>whnf);first|refine bc ?_|fail)
  all_goals(conv=>whnf)
  exact⟨.r,⟨.r,trivial⟩,by rfl⟩
theorem afa:bg Tryz.prog 189 [.aq 3 (([]:List cb).map bG) false] (.aq 3 (([]:List cb).map bG) false):=by
 refine bw Tryz.func189 ?_;repeat' ((conv=>whnf);first|refine bc ?_|fail)
 refine And.intro (fun kn=> ?_) ?_
 ·repeat' ((conv=>whnf);first|refine bc ?_|fail)
  all_goals(conv=>whnf)
  exact .ar
 ·repeat' ((conv=>whnf);first|refine bc ?_|fail)
  all_goals(conv=>whnf)
  refine And.intro (Fy (by simp)) ?_;repeat' ((conv=>whnf);first|exact .refl|fail)
theorem Gh{α:Type}{l:List α}{f:α->List aj}{i:Nat}(h:i<l.length): (l.map f).set i (f l[i])=l.map f:=by
 rw[<-List.map_set,List.set_getElem_self]
theorem Tv(l:List (List Int))(af:l.length<=1000000)(al:∀c∈l,c.length<=1000000):bg Tryz.prog 79 [.aq 1 (l.map cB) false] (.aq 1 (l.map cB) false):=by
 by_cases bx:l=[]
 ·subst bx;refine bw Tryz.func79 ?_;repeat' ((conv=>whnf);first|refine .inl ⟨_,_,aD _,ae8,?_⟩|fail)
  all_goals(conv=>whnf)
  refine⟨Nat,fun i=>⟨[(3,.aq 1 (([]:List (List Int)).map cB) false),(8,i64 0),(9,i64 i)],[]⟩,fun i=>i=0,fun i=>0,[],⟨0,rfl,?_⟩,?_⟩
  ·conv=>whnf
   exact⟨⟨.r,.r,.r,trivial⟩,trivial,by rfl⟩
  ·intro i ab;subst ab;repeat' ((conv=>whnf);first|exact .refl|fail)
 ·refine bw Tryz.func79 ?_;repeat' ((conv=>whnf);first|refine .inr ⟨[],[],_,[],_,_,ae7 l (by omega) bx,by rfl,trivial,⟨.r,trivial⟩,?_⟩|fail)
  all_goals(conv=>whnf)
  refine⟨Nat,fun i=>⟨[(3,.own 0),(8,i64 l.length),(9,i64 i)],[.row 22 1 (l.map cB)]⟩,fun i=>i<=l.length,fun i=>l.length-i,[],⟨0,Nat.zero_le _,?_⟩,?_⟩
  ·conv=>whnf
   exact⟨⟨.r,aV (by simp),.r,trivial⟩,⟨.r,trivial⟩,by rfl⟩
  ·intro i ab;repeat' ((conv=>whnf);first| (refine be ?_ ?_<;>intro h)|exact .refl|fail)
   ·have ap:i<l.length:=by simpa using h
    clear h;have eY:i<(l.map cB).length:=by rw[List.length_map];exact ap
    have b7: (l.map cB)[i]?=some (cB l[i]):=by simp[ap]
    have jT:=Gh (f:=cB) ap;repeat' ((conv=>whnf);first|refine .inl ⟨_,_,aD _,mw _ (al _ (List.getElem_mem ap)),?_⟩|refine⟨i,And.intro ⟨rfl,eY⟩ ?_⟩|refine⟨cB l[i],And.intro b7 ?_⟩|fail)
    all_goals(conv=>whnf)
    refine⟨i+1,ap,by simp only[];omega,?_⟩;conv=>whnf
    refine⟨⟨.r,.r,aV (bH (by omega)),trivial⟩,⟨ch ?_,trivial⟩,by rfl⟩;exact jT
theorem afb(l:List cb)(af:l.length<=1000000)(al:∀r∈l,r.cut.length<=1000000):bg Tryz.prog 140 [.aq 3 (l.map bG) false] (.aq 3 (l.map bG) false):=by
 by_cases bx:l=[]
 ·subst bx;refine bw Tryz.func140 ?_;repeat' ((conv=>whnf);first|refine .inl ⟨_,_,aD _,afa,?_⟩|fail)
  all_goals(conv=>whnf)
  refine⟨Nat,fun i=>⟨[(3,.aq 3 (([]:List cb).map bG) false),(8,i64 0),(9,i64 i)],[]⟩,fun i=>i=0,fun i=>0,[],⟨0,rfl,?_⟩,?_⟩
  ·conv=>whnf
   exact⟨⟨.r,.r,.r,trivial⟩,trivial,by rfl⟩
  ·intro i ab;subst ab;repeat' ((conv=>whnf);first|exact .refl|fail)
 ·refine bw Tryz.func140 ?_;repeat' ((conv=>whnf);first|refine .inr ⟨[],[],_,[],_,_,ae9 l (by omega) bx,by rfl,trivial,⟨.r,trivial⟩,?_⟩|fail)
  all_goals(conv=>whnf)
  refine⟨Nat,fun i=>⟨[(3,.own 0),(8,i64 l.length),(9,i64 i)],[.row 179 3 (l.map bG)]⟩,fun i=>i<=l.length,fun i=>l.length-i,[],⟨0,Nat.zero_le _,?_⟩,?_⟩
  ·conv=>whnf
   exact⟨⟨.r,aV (by simp),.r,trivial⟩,⟨.r,trivial⟩,by rfl⟩
  ·intro i ab;repeat' ((conv=>whnf);first| (refine be ?_ ?_<;>intro h)|exact .refl|fail)
   ·have ap:i<l.length:=by simpa using h
    clear h;have eY:i<(l.map bG).length:=by rw[List.length_map];exact ap
    have b7: (l.map bG)[i]?=some (bG l[i]):=by simp[ap]
    have jT:=Gh (f:=bG) ap;repeat' ((conv=>whnf);first|refine .inl ⟨_,_,aD _,mw _ (al _ (List.getElem_mem ap)),?_⟩|refine⟨i,And.intro ⟨rfl,eY⟩ ?_⟩|refine⟨bG l[i],And.intro b7 ?_⟩|fail)
    all_goals(conv=>whnf)
    refine⟨i+1,ap,by simp only[];omega,?_⟩;conv=>whnf
    refine⟨⟨.r,.r,aV (bH (by omega)),trivial⟩,⟨ch ?_,trivial⟩,by rfl⟩;exact jT
theorem Lr(s:bj)(ag:dt s):bg Tryz.prog 83 [.agg (cG s)] (.agg (cG s)):=by
 have cC:=ag.mem;have cH:=ag.fk;have j3:=ag.prop;have n5:=ag.ct;have B5:=ag.dec;have B6:=ag.br;have B7:∀b∈s.br,b.cut.length<=1000000:=fun b ae=>by have:=ag.j8 b ae;omega
 have B8:=ag.aR;have B9:∀b∈s.aR,b.cut.length<=1000000:=fun b ae=>by have:=ag.ia b ae;omega
 have iO:=ag.box;have gx:=KF (n:=(s.box.map dh).length) (by simp;omega);refine bw Tryz.func83 ?_;repeat' ((conv=>whnf);first|refine And.intro (by kernel_rfl) ?_|refine .inl ⟨_,_,aD _,o0 _ (by omega),?_⟩|refine .inl ⟨_,_,aD _,mw _ (by omega),?_⟩|refine .inl ⟨_,_,aD _,afb _ (by omega) (by assumption),?_⟩|fail)
 all_goals(conv=>whnf)
 refine And.intro (by exact gx) ?_;repeat' ((conv=>whnf);first|refine bc ?_|fail)
 all_goals(conv=>whnf)
 refine⟨Nat,fun i=>⟨[(1,.aP 0 0),(2,.aP 1 0),(40,i64 s.box.length),(41,i64 i)],[.cells 53 [i64 s.self,i64 s.view.num,.aq 1 (s.view.mem.map aM) false,i64 s.aL.cc,i64 s.aL.aB,.aq 1 (s.aL.cut.map aM) false,.aq 1 (s.prop.map aM) false,.own 7,i64 s.aB,i64 s.phase,.aq 3 (s.br.map bG) false,.aq 1 (s.ct.map aM) false,.aq 3 (s.aR.map bG) false,.aq 1 (s.dec.map aM) false,i64 s.dn],.cells 53 (ay ah 53).zero,.bd,.bd,.bd,.bd,.bd,.row 201 2 (s.box.map dh)]⟩,fun i=>i<=s.box.length,fun i=>s.box.length-i,[],⟨0,Nat.zero_le _,?_⟩,?_⟩
 ·conv=>whnf
  exact⟨⟨.r,.r,aV (by simp),.r,trivial⟩,⟨.r,.r,.r,.r,.r,.r,.r,.r,trivial⟩,by rfl⟩
 ·intro i ab;repeat' ((conv=>whnf);first| (refine be ?_ ?_<;>intro h)|exact .refl|fail)
  ·have ap:i<s.box.length:=by simpa using h
   clear h;have eY:i<(s.box.map dh).length:=by rw[List.length_map];exact ap
   have b7: (s.box.map dh)[i]?=some (dh s.box[i]):=by simp[ap]
   have jT:=Gh (f:=dh) ap;have BV:=ag.iB _ (List.getElem_mem ap);repeat' ((conv=>whnf);first|refine And.intro (by kernel_rfl) ?_|refine .inl ⟨_,_,aD _,mw _ (by omega),?_⟩|refine⟨i,And.intro ⟨rfl,eY⟩ ?_⟩|refine⟨dh s.box[i],And.intro b7 ?_⟩|fail)
   all_goals(conv=>whnf)
   refine⟨i+1,ap,by simp only[];omega,?_⟩;conv=>whnf
   refine⟨⟨.r,.r,.r,aV (bH (by omega)),trivial⟩,⟨.r,.r,.r,.r,.r,.r,.r,ch ?_,trivial⟩,by rfl⟩;exact jT
theorem Tw(s:Mem)(ag:fe s):bg Tryz.prog 52 [.agg (bU s)] (.agg (bU s)):=by
 have cC:=ag.cont;have cH:=ag.first
 have j3:=ag.hist;have n5:∀c∈s.hist,c.length<=1000000:=fun c al=>by have:=ag.zI c al;omega
 have B5:=ag.view;have B6:=ag.pM;have B7:=ag.bS;have B8:=ag.als;have B9:=ag.dbts;refine bw Tryz.func52 ?_;repeat' ((conv=>whnf);first|exact .refl|refine And.intro (by kernel_rfl) ?_|refine .inl ⟨_,_,aD _,mw _ (by omega),?_⟩|refine .inl ⟨_,_,aD _,Tv _ (by omega) n5,?_⟩|refine .inl ⟨_,_,aD _,o0 _ (by omega),?_⟩|refine .inl ⟨_,_,aD _,Lq _ (by omega),?_⟩|refine .inl ⟨_,_,aD _,BN _ (by omega),?_⟩|refine .inl ⟨_,_,aD _,Tu _ (by omega),?_⟩|refine .inl ⟨_,_,aD _,Lr _ ag.agr,?_⟩|fail)
theorem uc{s:Mem}{v:aQ}(h:bR v.mem s.self=true):dO s v= {s with view:=v,als:=[],dbts:=[],status:=1,bk:=(ix v s.self).1,agr:=(jd v s.self).1}:=by
 rw[dO,h];rfl
theorem zJ{s:Mem}{v:aQ}(h:bR v.mem s.self=false):dO s v= {s with view:=v,als:=[],dbts:=[],status:=2,bk:=my,agr:=eR}:=by
 rw[dO,h];rfl
theorem afc(s:Mem)(v:aQ)(ac:v.mem.length<=1000):b0 Tryz.prog 45 [.cells 55 (bU s)] [.aP 0 0,.agg (bN v)] [true] [.cells 55 (bU (dO s v))] (.a1 []):=by
 have az:=o0 v (by omega);have aG:=hp v.mem (Nat.le_trans ac (by decide)) s.self;have a7:=ze v (Nat.le_trans ac (by decide)) s.self;have b5:=B0 v (by omega) s.self;by_cases cw:bR v.mem s.self=true
 ·rw[uc cw];generalize ix v s.self=N at *;generalize jd v s.self=Q at *;refine dw Tryz.func45 ?_;repeat' ((conv=>whnf);first|refine eC (by assumption) ?_|refine And.intro (by kernel_rfl) ?_|refine .inl ⟨_,_,aD _,az,?_⟩|refine .inl ⟨_,_,aD _,aG,?_⟩|refine .inl ⟨_,_,aD _,a7,?_⟩|refine .inl ⟨_,_,aD _,b5,?_⟩|fail)
  all_goals(conv=>whnf)
  exact⟨.r,⟨j9 ⟨.r,.r,.r,.r,.r,.r,.r,.r,.r,.r,.r,.r,.ar,.ar,.r,.r,.r,.r,.r,.r,.r,.r,.r,.r,.r,.r,.r,.r,.r,trivial⟩,.r,trivial⟩,by rfl⟩
 ·have cw:bR v.mem s.self=false:=by simpa using cw
  rw[zJ cw];refine dw Tryz.func45 ?_;repeat' ((conv=>whnf);first|refine dE (by assumption) ?_|refine And.intro (by kernel_rfl) ?_|refine .inl ⟨_,_,aD _,az,?_⟩|refine .inl ⟨_,_,aD _,aG,?_⟩|fail)
  all_goals(conv=>whnf)
  exact⟨.r,⟨j9 ⟨.r,.r,.r,.r,.r,.r,.r,.r,.r,.r,.ar,.ar,.ar,.ar,.r,.r,.ar,.r,.r,.ar,.ar,.ar,.r,.r,.ar,.ar,.ar,.ar,.r,trivial⟩,.r,trivial⟩,by rfl⟩
theorem afd(s:Mem)(v:aQ)(ac:v.mem.length<=1000):b0 Tryz.prog 45 [.cells 116 (bU s++ [.ar])] [.aP 0 0,.agg (bN v)] [true] [.cells 116 (bU (dO s v)++ [.ar])] (.a1 []):=by
 have az:=o0 v (by omega);have aG:=hp v.mem (Nat.le_trans ac (by decide)) s.self;have a7:=ze v (Nat.le_trans ac (by decide)) s.self;have b5:=B0 v (by omega) s.self;by_cases cw:bR v.mem s.self=true
 ·rw[uc cw];generalize ix v s.self=N at *;generalize jd v s.self=Q at *;refine dw Tryz.func45 ?_;repeat' ((conv=>whnf);first|refine eC (by assumption) ?_|refine And.intro (by kernel_rfl) ?_|refine .inl ⟨_,_,aD _,az,?_⟩|refine .inl ⟨_,_,aD _,aG,?_⟩|refine .inl ⟨_,_,aD _,a7,?_⟩|refine .inl ⟨_,_,aD _,b5,?_⟩|fail)
  all_goals(conv=>whnf)
  exact⟨.r,⟨j9 ⟨.r,.r,.r,.r,.r,.r,.r,.r,.r,.r,.r,.r,.ar,.ar,.r,.r,.r,.r,.r,.r,.r,.r,.r,.r,.r,.r,.r,.r,.r,.r,trivial⟩,.r,trivial⟩,by rfl⟩
 ·have cw:bR v.mem s.self=false:=by simpa using cw
  rw[zJ cw];refine dw Tryz.func45 ?_;repeat' ((conv=>whnf);first|refine dE (by assumption) ?_|refine And.intro (by kernel_rfl) ?_|refine .inl ⟨_,_,aD _,az,?_⟩|refine .inl ⟨_,_,aD _,aG,?_⟩|fail)
  all_goals(conv=>whnf)
  exact⟨.r,⟨j9 ⟨.r,.r,.r,.r,.r,.r,.r,.r,.r,.r,.ar,.ar,.ar,.ar,.r,.r,.ar,.r,.r,.ar,.ar,.ar,.r,.r,.ar,.ar,.ar,.ar,.r,.r,trivial⟩,.r,trivial⟩,by rfl⟩
theorem Ls{v:aQ}{self:Int}(h: (!bX v|| !bR v.mem self)=false):xA v self=(dO {cX with self:=self,first:=v} v,0):=by
 rw[xA,h];rfl
theorem afe(v:aQ)(ac:v.mem.length<=1000)(self:Int):bg Tryz.prog 20 [.agg (bN v),i64 self] (.a1 [.agg (bU (xA v self).1),i64 (xA v self).2]):=by
 have az:=n3 v (Nat.le_trans ac (by decide));have aG:=hp v.mem (Nat.le_trans ac (by decide)) self;have a7:=o0 v (by omega);have m1:=afc {cX with self:=self,first:=v} v ac;cases al: (!bX v|| !bR v.mem self)
 ·rw[Ls al];generalize dO {cX with self:=self,first:=v} v=E at *;refine bw Tryz.func20 ?_;repeat' ((conv=>whnf);first|refine bc ?_|refine dE (by assumption) ?_|exact .refl|refine And.intro ⟨fun h=>h,fun h=>h⟩ ?_|refine .inl ⟨_,_,aD _,az,?_⟩|refine⟨_,_,aD _,fun _=>aG,?_⟩|refine .inl ⟨_,_,aD _,a7,?_⟩|refine .inr ⟨[2],_,_,_,_,_,m1,by rfl,⟨j9 ⟨.r,.r,.ar,.r,.r,.ar,.r,.ar,.r,.r,.ar,.ar,.ar,.ar,.r,.r,.ar,.r,.r,.ar,.ar,.ar,.r,.r,.ar,.ar,.ar,.ar,.r,trivial⟩,trivial⟩,⟨.r,.r,trivial⟩,?_⟩|fail)
 ·have ax:xA v self=(cX,1):=by
   rw[xA,al];rfl
  rw[ax];refine bw Tryz.func20 ?_;repeat' ((conv=>whnf);first|refine bc ?_|refine eC (by assumption) ?_|refine And.intro ⟨fun h=>h,fun h=>h⟩ ?_|refine .inl ⟨_,_,aD _,az,?_⟩|refine⟨_,_,aD _,fun _=>aG,?_⟩|fail)
  all_goals(conv=>whnf)
  exact dI ⟨gM ⟨.r,.r,.ar,.r,.ar,.ar,.r,.ar,.r,.r,.ar,.ar,.ar,.ar,.r,.r,.ar,.r,.r,.ar,.ar,.ar,.r,.r,.ar,.ar,.ar,.ar,.r,trivial⟩,.r,trivial⟩
theorem Tx(self:Int)(cont:List Int)(af:cont.length<=1000):bg Tryz.prog 21 [i64 self,.aq 1 (cont.map aM) false] (.a1 [.agg (bU (xB self cont).1),i64 (xB self cont).2]):=by
 have az:=xz self;have aG:=u9 cont (Nat.le_trans af (by decide));have a7:=hp cont (Nat.le_trans af (by decide)) self;have b5:=mw cont (by omega);have aa:xB self cont=bif !kv self|| !c9 cont 16||bR cont self then(cX,1)else({cX with self:=self,cont:=cont},0):=rfl;rw[aa];refine bw Tryz.func21 ?_;repeat' ((conv=>whnf);first|refine bc ?_| (refine be ?_ ?_<;>intro h)|refine And.intro ⟨fun h=>h,fun h=>h⟩ ?_|refine .inl ⟨_,_,aD _,az,?_⟩|refine⟨_,_,aD _,fun _=>aG,?_⟩|refine⟨_,_,aD _,fun _=>a7,?_⟩|refine .inl ⟨_,_,aD _,b5,?_⟩|fail)
 all_goals(conv=>whnf)
 ·rw[h];exact dI ⟨gM ⟨.r,.r,.ar,.r,.ar,.ar,.r,.ar,.r,.r,.ar,.ar,.ar,.ar,.r,.r,.ar,.r,.r,.ar,.ar,.ar,.r,.r,.ar,.ar,.ar,.ar,.r,trivial⟩,.r,trivial⟩
 ·rw[h];exact dI ⟨gM ⟨.r,.r,.r,.r,.ar,.ar,.r,.ar,.r,.r,.ar,.ar,.ar,.ar,.r,.r,.ar,.r,.r,.ar,.ar,.ar,.r,.r,.ar,.ar,.ar,.ar,.r,trivial⟩,.r,trivial⟩
theorem Lt:∀b a:List Int,(hV a b).length=a.length+b.length
 | [],a=>by simp[hV]
 |x::b,a=>by
  have aN:=Lt b (a.dropWhile fun y=> !decide (x<y));have e: (a.takeWhile fun y=> !decide (x<y)).length+(a.dropWhile fun y=> !decide (x<y)).length=a.length:=by
   rw[<-List.length_append,List.takeWhile_append_dropWhile]
  rw[hV,List.length_append,List.length_cons,aN,List.length_cons];omega
theorem Ty(v:aQ)(c:List Int): (eQ v c).1.mem.length<=16:=by
 unfold eQ;cases al: (!bX v|| !c9 c 32)
 ·rw[cond_false];cases ad:decide (2* ((kL v c).length:Int)<=(v.mem.length:Int))
  ·rw[cond_false];cases aC: (decide (v.num=1099511627776)||decide (16<((kL v c).length:Int)+((fA v c).length:Int)))
   ·rw[cond_false];simp only[Bool.or_eq_false_iff,decide_eq_false_iff_not]at aC;simp only[Lt];omega
   ·simp
  ·simp
 ·simp
theorem xC{first:aQ}(h:bX first=true)(aE:List (List Int)):∀i,(c3 first aE i).mem.length<=16
 |0=>(kM h).2
 |i+1=>Ty _ _
theorem sJ(first:aQ)(aE:List (List Int)):∀i,(hX first aE i).length=i+1
 |0=>rfl
 |i+1=>by rw[hX,List.length_append,sJ first aE i];rfl
theorem xD(first:aQ)(aE:List (List Int)):∀n i,i<=n->(hX first aE n)[i]?=some (c3 first aE i)
 |0,i,h=>by
  have:i=0:=by omega
  subst this;rfl
 |n+1,i,h=>by
  rw[hX];by_cases ab:i<=n
  ·rw[List.getElem?_append_left (by rw[sJ];omega)];exact xD first aE n i ab
  ·have:i=n+1:=by omega
   subst this;rw[List.getElem?_append_right (by rw[sJ];omega),sJ,Nat.sub_self];rfl
theorem xE(first:aQ)(aI:first.mem.length<=1000)(aE:List (List Int))(af:aE.length<=100000)(al:∀c∈aE,c.length<=100000):bg Tryz.prog 36 [.agg (bN first),.aq 1 (aE.map cB) false] (.a1 [.aq 2 ((hD first aE).1.map bN) false,.v (.bool (hD first aE).2)]):=by
 have az:=n3 first (Nat.le_trans aI (by decide))
 have aa:hD first aE=bif !bX first||decide (400<(aE.length:Int))then([],false)else bif gA (o1 first aE) aE.length then(hX first aE aE.length,true)else([],false):=rfl
 refine bw Tryz.func36 ?_;repeat' ((conv=>whnf);first|refine bc ?_| (refine be ?_ ?_<;>intro h)|refine .inl ⟨_,_,aD _,az,?_⟩|refine .inl ⟨_,_,aD _,o0 _ (by omega),?_⟩|fail)
 all_goals(conv=>whnf)
 ·rw[List.length_map]at h;rw[aa,h];exact dI ⟨.ar,.r,trivial⟩
 ·rw[List.length_map]at h;rw[h,cond_false]at aa;rw[aa];have ac:bX first=true:=by
   simp only[Bool.or_eq_false_iff,Bool.not_eq_false']at h;exact h.1
  clear h;have ea:=xC ac aE;have h7:=sJ first aE
  have fx:=xD first aE
  have bY:∀i,o1 first aE i=decide ((eQ (c3 first aE i) (aE.getD i [])).2=0):=fun i=>rfl
  have gF:∀i,c3 first aE (i+1)=(eQ (c3 first aE i) (aE.getD i [])).1:=fun i=>rfl
  have has:∀i,hX first aE (i+1)=hX first aE i++ [c3 first aE (i+1)]:=fun i=>rfl
  have aH:hX first aE 0=[first]:=rfl
  generalize c3 first aE=V at *
  generalize o1 first aE=K at *
  generalize hX first aE=A at *
  refine⟨Nat,fun i=>⟨[(6,.own 1),(22,.aq 1 (aE.map cB) false),(23,i64 aE.length),(24,i64 i)],[.cells 24 (bN first),.row 24 2 ((A i).map bN)]⟩,fun i=>i<=aE.length/\∀j,j<i->K j=true,fun i=>aE.length-i,[],⟨0,⟨Nat.zero_le _,by omega⟩,?_⟩,?_⟩
  ·conv=>whnf
   exact⟨⟨.r,.r,aV (by simp),.r,trivial⟩,⟨.r,ch (by rw[aH];rfl),trivial⟩,by rfl⟩
  ·intro i ⟨ab,bQ⟩;have akC:=h7 i;repeat' ((conv=>whnf);first| (refine be ?_ ?_<;>intro h)|fail)
   ·have ap:i<aE.length:=by simpa using h
    clear h;have ax:aE.getD i []=aE[i]:=by simp[ap]
    have hk:=bY i;have aS:=gF i;rw[ax]at hk aS;have aG:=y6 (V i) (by have:=ea i;omega) aE[i] (by have:=al _ (List.getElem_mem ap);omega);have hlen:IntKind.i64.wrap ((((A i).map bN).length:Int)-1)=((i:Nat):Int):=by
     rw[List.length_map,h7 i,dC (by omega) (by omega)];omega
    have eY:i<((A i).map bN).length:=by rw[List.length_map];omega
    have b7: ((A i).map bN)[i]?=some (bN (V i)):=by
     rw[List.getElem?_map,fx i i (Nat.le_refl _)];rfl
    repeat' ((conv=>whnf);first| (refine be ?_ ?_<;>intro h)|refine⟨_,_,And.intro ⟨rfl,cE ap⟩ ?_⟩|refine⟨i,And.intro ⟨hlen,eY⟩ ?_⟩|refine⟨bN (V i),And.intro b7 ?_⟩|refine .inl ⟨_,_,aD _,aG,?_⟩|refine And.intro (Tt (by simp<;>omega)) ?_|fail)
    all_goals(conv=>whnf)
    all_goals(conv=>whnf)
    ·have Lu:K i=false:=by rw[hk];simpa using h
     rw[pB ap Lu];exact dI ⟨.ar,.r,trivial⟩
    ·have pH:K i=true:=by rw[hk];simpa using h
     refine⟨i+1,⟨ap,fun j ai=> ?_⟩,by simp only[];omega,?_⟩
     ·by_cases hf:j=i
      ·subst hf;exact pH
      ·exact bQ j (by omega)
     ·conv=>whnf
      refine⟨⟨.r,.r,.r,aV (bH (by omega)),trivial⟩,⟨.r,ch ?_,trivial⟩,by rfl⟩;rw[has,List.map_append,aS];rfl
   ·have:i=aE.length:=by
     simp at h;omega
    subst this;clear h;rw[gB.2 (fun j ai=>bQ j ai),cond_true];repeat' ((conv=>whnf);first|exact .refl|fail)
def gr:gG:=⟨0,0⟩
def Gi(s:Mem)(i:Nat):Bool:= !(decide ((s.dbts.getD i gr).cj<=(0::s.dbts.map (·.cj)).getD i 0)||decide ((s.dbts.getD i gr).cj=s.self)|| !bR (ek s.view s.als false) (s.dbts.getD i gr).cj||decide ((s.dbts.getD i gr).ep<1)||decide (6<(s.dbts.getD i gr).ep))
def xF(s:Mem):Bool:=gA (Gi s) s.dbts.length
theorem aff(s:Mem)(ag:fe s):bg Tryz.prog 65 [.agg (bU s)] (.v (.bool (xF s))):=by
 have az:=zG s.view (Nat.le_trans ag.view (by decide)) s.als (by have:=ag.als;omega);have afg: (ek s.view s.als false).length<=6000:=Nat.le_trans (Cy _ _ _) ag.als;have oj:=ag.dbts;have bY:∀i,Gi s i= !(decide ((s.dbts.getD i gr).cj<=(0::s.dbts.map (·.cj)).getD i 0)||decide ((s.dbts.getD i gr).cj=s.self)|| !bR (ek s.view s.als false) (s.dbts.getD i gr).cj||decide ((s.dbts.getD i gr).ep<1)||decide (6<(s.dbts.getD i gr).ep)):=fun _=>rfl;generalize ek s.view s.als false=U at *;unfold xF;generalize Gi s=K at *;obtain⟨F,dA⟩:∃F:Nat->Int,∀i,F i=(0::s.dbts.map (·.cj)).getD i 0:=⟨_,fun _=>rfl⟩
 refine bw Tryz.func65 ?_;repeat' ((conv=>whnf);first|refine .inl ⟨_,_,aD _,az,?_⟩|fail)
 all_goals(conv=>whnf)
 refine⟨Nat,fun i=>⟨[(1,.aP 0 0),(3,.aq 1 (U.map aM) false),(4,i64 (F i)),(13,.aq 2 (s.dbts.map db) false),(14,i64 s.dbts.length),(15,i64 i)],[.cells 55 (bU s)]⟩,fun i=>i<=s.dbts.length/\∀j,j<i->K j=true,fun i=>s.dbts.length-i,[],⟨0,⟨Nat.zero_le _,by omega⟩,?_⟩,?_⟩
 ·conv=>whnf
  exact⟨⟨.r,.r,aV (by rw[dA];rfl),.r,aV (by simp),.r,trivial⟩,⟨.r,trivial⟩,by rfl⟩
 ·intro i ⟨ab,bQ⟩;repeat' ((conv=>whnf);first| (refine be ?_ ?_<;>intro h)|fail)
  ·have ap:i<s.dbts.length:=by simpa using h
   clear h;have ax:s.dbts.getD i gr=s.dbts[i]:=by simp[ap]
   have hk:=bY i;have Gj:F (i+1)=s.dbts[i].cj:=by
    rw[dA];simp[ap]
   rw[ax,<-dA]at hk;have aG:=QF U (Nat.le_trans afg (by decide)) s.dbts[i].cj;repeat' ((conv=>whnf);first|refine bc ?_| (refine be ?_ ?_<;>intro h)|refine And.intro ⟨fun h=>h,fun h=>h⟩ ?_|refine⟨_,_,And.intro ⟨rfl,cE ap⟩ ?_⟩|refine⟨_,_,aD _,fun _=>aG,?_⟩|fail)
   all_goals(conv=>whnf)
   ·have Lu:K i=false:=by rw[hk,h];rfl
    rw[pB ap Lu];exact .refl
   ·have pH:K i=true:=by rw[hk,h];rfl
    refine⟨i+1,⟨ap,fun j ai=> ?_⟩,by simp only[];omega,?_⟩
    ·by_cases hf:j=i
     ·subst hf;exact pH
     ·exact bQ j (by omega)
    ·conv=>whnf
     exact⟨⟨.r,.r,aV Gj.symm,.r,.r,aV (bH (by omega)),trivial⟩,⟨.r,trivial⟩,by rfl⟩
  ·have:i=s.dbts.length:=by
    simp at h;omega
   subst this;clear h;rw[gB.2 (fun j ai=>bQ j ai)];repeat' ((conv=>whnf);first|exact .refl|fail)
def afh(a:bj):Bool:=decide (a.self=0)&&ka a.view jX&&decide (a.aL.cc=0)&&decide (a.aL.aB=0)&&decide ((a.aL.cut.length:Int)=0)&&decide ((a.prop.length:Int)=0)&&decide ((a.box.length:Int)=0)&&decide (a.aB=0)&&decide (a.phase=0)&&decide ((a.br.length:Int)=0)&&decide ((a.ct.length:Int)=0)&&decide ((a.aR.length:Int)=0)&&decide ((a.dec.length:Int)=0)&&decide (a.dn=0)
def ud(s:Mem):Bool:=afh s.agr&&decide (s.bk.self=0)&&ka s.bk.view jX&&decide ((s.bk.bS.length:Int)=0)&&decide ((s.als.length:Int)=0)&&decide ((s.dbts.length:Int)=0)
theorem afi(s:Mem)(ag:fe s):bg Tryz.prog 35 [.agg (bU s)] (.v (.bool (ud s))):=by
 have az:=ub s.agr.view jX (Nat.le_trans ag.agr.mem (by decide));have aG:=ub s.bk.view jX (Nat.le_trans ag.pM (by decide));refine bw Tryz.func35 ?_;repeat' ((conv=>whnf);first|refine bc ?_|refine And.intro ⟨fun h=>h,fun h=>h⟩ ?_|refine⟨[.agg (bN s.agr.view),.agg (bN jX)],_,⟨.r,gM ⟨.r,.ar,trivial⟩,trivial⟩,fun _=>az,?_⟩|refine⟨[.agg (bN s.bk.view),.agg (bN jX)],_,⟨.r,gM ⟨.r,.ar,trivial⟩,trivial⟩,fun _=>aG,?_⟩|fail)
 all_goals(conv=>whnf)
 all_goals refine eK ?_
 all_goals simp only[List.length_map]
 all_goals rfl
def vH(s:Mem):Bool:=bR s.view.mem s.self&&mY s.bk&&decide (s.bk.self=s.self)&&ka s.bk.view s.view&&eS s.agr&&decide (s.agr.self=s.self)&&ka s.agr.view s.view&&decide ((s.agr.dec.length:Int)=0)&&dU s.view s.als&&xF s
theorem afj(s:Mem)(ag:fe s):bg Tryz.prog 37 [.agg (bU s)] (.v (.bool (vH s))):=by
 have az:=hp s.view.mem (Nat.le_trans ag.view (by decide)) s.self;have aG:=JP s.bk (Nat.le_trans ag.pM (by decide)) (Nat.le_trans ag.bS (by decide));have a7:=ub s.bk.view s.view (Nat.le_trans ag.pM (by decide));have b5:=mA s.agr ag.agr;have du:=ub s.agr.view s.view (Nat.le_trans ag.agr.mem (by decide));have iU:=zh s.view (Nat.le_trans ag.view (by decide)) s.als (Nat.le_trans ag.als (by decide));have kw:=aff s ag;refine bw Tryz.func37 ?_;repeat' ((conv=>whnf);first|refine bc ?_|refine And.intro ⟨fun h=>h,fun h=>h⟩ ?_|refine .inl ⟨_,_,aD _,az,?_⟩|refine⟨_,_,aD _,fun _=>aG,?_⟩|refine⟨_,_,aD _,fun _=>a7,?_⟩|refine⟨_,_,aD _,fun _=>b5,?_⟩|refine⟨_,_,aD _,fun _=>du,?_⟩|refine⟨_,_,aD _,fun _=>iU,?_⟩|refine⟨_,_,aD _,fun _=>kw,?_⟩|fail)
 all_goals(conv=>whnf)
 all_goals refine eK ?_
 all_goals simp only[List.length_map]
 all_goals rfl
def mE(s:Mem):Bool:=
 bif !kv s.self then false
 else bif decide (s.status=0)then c9 s.cont 16&& !bR s.cont s.self&&ka s.first jX&&decide ((s.hist.length:Int)=0)&&ka s.view jX&&ud s
 else bif !(hD s.first s.hist).2||decide (0<(s.cont.length:Int))|| !ka (c3 s.first s.hist s.hist.length) s.view then false
 else bif decide (s.status=1)then vH s
 else bif decide (s.status=2)then !bR s.view.mem s.self&&ud s
 else false
theorem ue{first:aQ}{aE:List (List Int)}(h: (hD first aE).2=true):bX first=true/\aE.length<=400/\(∀i,i<aE.length->o1 first aE i=true)/\hD first aE=(hX first aE aE.length,true):=by
 have aa:hD first aE=bif !bX first||decide (400<(aE.length:Int))then([],false)else bif gA (o1 first aE) aE.length then(hX first aE aE.length,true)else([],false):=rfl
 cases al: (!bX first||decide (400<(aE.length:Int)))
 ·rw[al,cond_false]at aa;cases aZ:gA (o1 first aE) aE.length
  ·rw[aZ,cond_false]at aa;rw[aa]at h;exact absurd h (by simp)
  ·rw[aZ,cond_true]at aa;simp only[Bool.or_eq_false_iff,Bool.not_eq_false',decide_eq_false_iff_not]at al;exact⟨al.1,by omega,gB.1 aZ,aa⟩
 ·rw[al,cond_true]at aa;rw[aa]at h;exact absurd h (by simp)
theorem rG(s:Mem)(ag:fe s):bg Tryz.prog 14 [.agg (bU s)] (.v (.bool (mE s))):=by
 have az:=xz s.self;have aG:=u9 s.cont (Nat.le_trans ag.cont (by decide));have a7:=hp s.cont (Nat.le_trans ag.cont (by decide)) s.self;have b5:=ub s.first jX (Nat.le_trans ag.first (by decide))
 have du:=ub s.view jX (Nat.le_trans ag.view (by decide));have iU:=afi s ag;have kw:=xE s.first ag.first s.hist (by have:=ag.hist;omega) (fun c al=>by have:=ag.zI c al;omega)
 have qP:=afj s ag;have sK:=hp s.view.mem (Nat.le_trans ag.view (by decide)) s.self;have aa:mE s=bif !kv s.self then false
  else bif decide (s.status=0)then c9 s.cont 16&& !bR s.cont s.self&&ka s.first jX&&decide ((s.hist.length:Int)=0)&&ka s.view jX&&ud s
  else bif !(hD s.first s.hist).2||decide (0<(s.cont.length:Int))|| !ka (c3 s.first s.hist s.hist.length) s.view then false
  else bif decide (s.status=1)then vH s
  else bif decide (s.status=2)then !bR s.view.mem s.self&&ud s
  else false:=rfl
 have vw:=ue (first:=s.first) (aE:=s.hist);have Tz:=xD s.first s.hist s.hist.length s.hist.length (Nat.le_refl _)
 have fU:=sJ s.first s.hist s.hist.length
 have gT:bX s.first=true->(c3 s.first s.hist s.hist.length).mem.length<=16:=fun h=>xC h _ _
 generalize c3 s.first s.hist s.hist.length=L at *
 generalize hX s.first s.hist s.hist.length=A at *
 generalize hD s.first s.hist=R at *
 generalize ud s=em at *;generalize vH s=hv at *;have hlen:R.2=true->IntKind.i64.wrap (((R.1.map bN).length:Int)-1)=((s.hist.length:Nat):Int)/\(R.1.map bN)[s.hist.length]?=some (bN L):=fun h=>by
  obtain⟨dl,a2,_,a4⟩:=vw h;rw[a4];simp only[];rw[List.length_map,fU,dC (by omega) (by omega)];refine⟨by omega,?_⟩;rw[List.getElem?_map,Tz];rfl
 have b1:∀ {b:Bool},(!(!R.2||b))=true->R.2=true:=fun h=>by
  simp only[Bool.not_or,Bool.not_not,Bool.and_eq_true]at h;exact h.1
 refine bw Tryz.func14 ?_;repeat' ((conv=>whnf);first|refine bc ?_| (refine be ?_ ?_<;>intro h)|refine And.intro (by kernel_rfl) ?_|refine And.intro ⟨fun h=>h,fun h=>h⟩ ?_|refine .inl ⟨_,_,aD _,az,?_⟩|refine .inl ⟨_,_,aD _,aG,?_⟩|refine⟨_,_,aD _,fun _=>a7,?_⟩|refine⟨[.agg (bN s.first),.agg (bN jX)],_,⟨.r,gM ⟨.r,.ar,trivial⟩,trivial⟩,fun _=>b5,?_⟩|refine⟨[.agg (bN s.view),.agg (bN jX)],_,⟨.r,gM ⟨.r,.ar,trivial⟩,trivial⟩,fun _=>du,?_⟩|refine⟨_,_,aD _,fun _=>iU,?_⟩|refine .inl ⟨_,_,aD _,kw,?_⟩|refine .inl ⟨_,_,aD _,qP,?_⟩|refine .inl ⟨_,_,aD _,sK,?_⟩|refine⟨s.hist.length,bN L,And.intro ⟨⟨fun h=>h,fun h=>h⟩,fun ax=>hlen (b1 ax)⟩ ?_⟩|refine⟨_,_,aD _,fun ax=>ub L s.view (Nat.le_trans (gT (vw (b1 ax)).1) (by decide)),?_⟩|fail)
 all_goals(conv=>whnf)
 all_goals clear az aG a7 b5 du iU kw qP sK vw hlen Tz fU gT b1
 all_goals refine eK ?_
 all_goals(try simp only[List.length_map]at *)
 all_goals rw[aa]
 all_goals simp only[*,cond_true,cond_false]
def sL(s:Mem):List aQ:=bif !mE s||decide (s.status=0)then []else(hD s.first s.hist).1
theorem TA(s:Mem)(ag:fe s):bg Tryz.prog 25 [.agg (bU s)] (.aq 2 ((sL s).map bN) false):=by
 have az:=rG s ag;have kw:=xE s.first ag.first s.hist (by have:=ag.hist;omega) (fun c al=>by have:=ag.zI c al;omega)
 have aa:sL s=bif !mE s||decide (s.status=0)then []else(hD s.first s.hist).1:=rfl;generalize hD s.first s.hist=R at *
 generalize mE s=JY at *;refine bw Tryz.func25 ?_;repeat' ((conv=>whnf);first|refine bc ?_| (refine be ?_ ?_<;>intro h)|refine .inl ⟨_,_,aD _,az,?_⟩|refine .inl ⟨_,_,aD _,kw,?_⟩|fail)
 all_goals(conv=>whnf)
 all_goals rw[aa,h]
 ·exact .ar
 ·exact .refl
def hE(l:List (List Int)):List Nat:=l.flatMap eT
def nH(first:aQ)(aE:List (List Int)):List Nat:=hx first++(bn aE.length++hE aE)
def kx(c:List Int):Prop:=c.length<=32/\∀v∈c,-1<=v/\v<=1099511627776
theorem CC{c:List Int}(h:kx c): (eT c).length<=330:=by
 have h1:=xv c;have ad: (bn c.length).length<=10:=fM 9 _;have:=h.1;unfold eT;rw[List.length_append];omega
theorem xG:∀ {l:List (List Int)},(∀c∈l,kx c)->(hE l).length<=330*l.length
 | [],_=>by simp[hE]
 |c::l,h=>by
  have h1:=CC (h c (by simp));have ad:=xG (l:=l) (fun c al=>h c (by simp[al]));have e:hE (c::l)=eT c++hE l:=rfl;rw[e,List.length_append,List.length_cons];omega
theorem afk{l:List (List Int)}{i:Nat}(h:i<l.length):hE (l.drop i)=eT l[i]++hE (l.drop (i+1)):=by
 rw[List.drop_eq_getElem_cons h];rfl
theorem afl(first:aQ)(aE:List (List Int))(ac:bX first=true)(aS:aE.length<=400)(al:∀c∈aE,kx c)(bY: (hD first aE).2=true):
  b0 Tryz.prog 78 [.cells 135 (rF (nH first aE))] [.aP 0 0] [true] [.cells 135 (rF [])] (.a1 [.agg (bN first),.aq 1 (aE.map cB) false]):=by
 have ea:=kM ac;have gT:=zH first ac
 have nI:=xG al;have gi: (bn aE.length).length<=10:=fM 9 _;have az:=ae4 first ac (bn aE.length++hE aE) (by rw[List.length_append];omega)
 have aG:=CB (nH first aE) (hx first).length (by unfold nH;rw[List.length_append];omega);have a7:=xx aE.length (by omega) (hE aE) (by omega);have b5:=xE first (by omega) aE (by omega) (fun c h=>by have:=(al c h).1;omega)
 have aa: (nH first aE).drop (hx first).length=bn aE.length++hE aE:=by unfold nH;rw[List.drop_left]
 rw[aa]at aG;rw[bY]at b5;unfold nH at *;refine dw Tryz.func78 ?_;repeat' ((conv=>whnf);first|refine .inl ⟨_,_,aD _,az,?_⟩|refine .inr ⟨[0],_,_,_,_,_,aG,by rfl,⟨.r,trivial⟩,⟨.r,.r,.r,trivial⟩,?_⟩|refine .inr ⟨[0],_,_,_,_,_,a7,by rfl,⟨.r,trivial⟩,⟨.r,trivial⟩,?_⟩|fail)
 all_goals(conv=>whnf)
 refine⟨Nat,fun i=>⟨[(0,.aP 0 0),(2,.aP 2 0),(4,.aP 3 0),(7,.own 4),(8,i64 ((aE.length:Int)-i))],[.cells 135 (rF (hE (aE.drop i))),.b6 [.aP 0 0],.cells 24 (bN jX),.cells 24 (bN first),.row 22 1 ((aE.take i).map cB)]⟩,fun i=>i<=aE.length,fun i=>aE.length-i,[.fS 7 22 1],⟨0,Nat.zero_le _,?_⟩,?_⟩
 ·conv=>whnf
  refine⟨⟨.r,.r,.r,.r,aV (by simp),trivial⟩,⟨.r,.r,j9 ⟨.r,.ar,trivial⟩,.r,.r,trivial⟩,by rfl⟩
 ·intro i ab;repeat' ((conv=>whnf);first|refine bc ?_| (refine be ?_ ?_<;>intro h)|fail)
  ·have ap:i<aE.length:=by
    simp at h;omega
   clear h;have aF:=al _ (List.getElem_mem ap);have fq:=xG (l:=aE.drop (i+1)) (fun c h=>al c (List.mem_of_mem_drop h));rw[List.length_drop]at fq;have du:=Ts aE[i] aF.1 aF.2 (hE (aE.drop (i+1))) (by omega);rw[<-afk ap]at du;repeat' ((conv=>whnf);first|refine .inr ⟨[0],_,_,_,_,_,du,by rfl,⟨.r,trivial⟩,⟨.r,trivial⟩,?_⟩|refine And.intro (xy (by simp<;>omega)) ?_|fail)
   all_goals(conv=>whnf)
   refine⟨i+1,ap,by simp only[];omega,?_⟩;conv=>whnf
   refine⟨⟨.r,.r,.r,.r,aV (by rw[dC (by omega) (by omega)];omega),trivial⟩,⟨.r,.r,.r,.r,ch ?_,trivial⟩,by rfl⟩;rw[List.take_succ_eq_append_getElem ap,List.map_append];rfl
  ·have:i=aE.length:=by
    simp at h;omega
   subst this;clear h;rw[List.take_length,List.drop_length];repeat' ((conv=>whnf);first|refine .inl ⟨_,_,aD _,b5,?_⟩|fail)
   all_goals(conv=>whnf)
   exact⟨.r,⟨.r,.r,trivial⟩,by rfl⟩
structure pN where
 kind:Int
 num:Int
 set:List ca
 agr:dx
 first:aQ
 aE:List (List Int)
def ie(m:pN):List aj:=[i64 m.kind,i64 m.num,.aq 4 (m.set.map dr) false,i64 m.agr.kind,i64 m.agr.view,i64 m.agr.src,i64 m.agr.aB,i64 m.agr.cq,.aq 1 (m.agr.cut.map aM) false,i64 m.first.num,.aq 1 (m.first.mem.map aM) false,.aq 1 (m.aE.map cB) false]
def Gk:dx:=⟨0,0,0,0,0,[]⟩
def u5(num:Int):pN:=⟨1,num,[],Gk,jX,[]⟩
def rH(first:aQ)(aE:List (List Int)):pN:=⟨4,0,[],Gk,first,aE⟩
def Gl(num:Int):List Nat:=dm 1 (bn num.toNat)
def o2(first:aQ)(aE:List (List Int)):List Nat:=dm 4 (nH first aE)
theorem TB(s:Mem)(num:Int)(h1:0<=num)(ad:num<=1099511627776):bg Tryz.prog 51 [.agg (bU s),.aq 1 ((Gl num).map bo) false] (.a1 [.agg (ie (u5 num)),.v (.bool true)]):=by
 have gi: (bn num.toNat).length<=10:=fM 9 _;have az:=BR 1 (by omega) (by omega) (bn num.toNat) (by omega);have aG:=xx num.toNat (by omega) [] (by simp);rw[List.append_nil]at aG;have aS: ((num.toNat:Nat):Int)=num:=by omega
 rw[aS]at aG;have la: (!decide ((0:Int)=0)|| !decide (((dm 1 (bn num.toNat)).length:Int)=(((dm 1 (bn num.toNat)).map bo).length:Int)))=false:=by rw[List.length_map];simp
 unfold Gl;generalize dm 1 (bn num.toNat)=W at *;refine bw Tryz.func51 ?_;repeat' ((conv=>whnf);first|refine bc ?_|refine dE (by assumption) ?_|refine And.intro (by kernel_rfl) ?_|refine And.intro ⟨fun h=>h,fun h=>h⟩ ?_|refine .inl ⟨_,_,aD _,az,?_⟩|refine .inr ⟨[2],_,_,_,_,_,aG,by rfl,⟨.r,trivial⟩,⟨.r,trivial⟩,?_⟩|fail)
 all_goals(conv=>whnf)
 exact dI ⟨gM ⟨.r,.r,.ar,.r,.r,.r,.r,.r,.ar,.r,.ar,.ar,trivial⟩,eK rfl,trivial⟩
theorem TC{first:aQ}{aE:List (List Int)}(ac:bX first=true)(aS:aE.length<=400)(al:∀c∈aE,kx c): (nH first aE).length<=200000:=by
 have gT:=zH first ac
 have nI:=xG al;have gi: (bn aE.length).length<=10:=fM 9 _;unfold nH;rw[List.length_append,List.length_append];omega
theorem CD(s:Mem)(first:aQ)(aE:List (List Int))(ac:bX first=true)(aS:aE.length<=400)(al:∀c∈aE,kx c)(bY: (hD first aE).2=true):bg Tryz.prog 51 [.agg (bU s),.aq 1 ((o2 first aE).map bo) false] (.a1 [.agg (ie (rH first aE)),.v (.bool true)]):=by
 have Lv:=TC ac aS al;have az:=BR 4 (by omega) (by omega) (nH first aE) (by omega);have aG:=afl first aE ac aS al bY
 have la: (!decide ((0:Int)=0)|| !decide (((dm 4 (nH first aE)).length:Int)=(((dm 4 (nH first aE)).map bo).length:Int)))=false:=by rw[List.length_map];simp
 unfold o2;generalize dm 4 (nH first aE)=W at *;refine bw Tryz.func51 ?_;repeat' ((conv=>whnf);first|refine bc ?_|refine dE (by assumption) ?_|refine And.intro (by kernel_rfl) ?_|refine And.intro ⟨fun h=>h,fun h=>h⟩ ?_|refine .inl ⟨_,_,aD _,az,?_⟩|refine .inr ⟨[2],_,_,_,_,_,aG,by rfl,⟨.r,trivial⟩,⟨.r,trivial⟩,?_⟩|fail)
 all_goals(conv=>whnf)
 exact dI ⟨gM ⟨.r,.r,.ar,.r,.r,.r,.r,.r,.ar,.r,.r,.r,trivial⟩,eK rfl,trivial⟩
structure dj where
 cZ:Int
 frame:List Nat
def eU(p:dj):List aj:=[i64 p.cZ,.aq 1 (p.frame.map bo) false]
theorem Lw{n:Nat}(h:n<=2000000):iJ ah 121 n:=by
 have e: (ay ah 121).bytes=32:=by kernel_rfl
 refine⟨?_,?_⟩
 ·rw[e];omega
 ·simp only[maxLen];omega
theorem afm(s:Mem)(aX:List dj)(l6:aX.length<=100000)(cZ:Int)(k:Nat)(fT:1<=k)(hk:k<=255)(b:List Nat)(ae:b.length<=800000):
  b0 Tryz.prog 55 [.cells 116 (bU s++ [.own 1]),.row 121 2 (aX.map eU)] [.aP 0 0,i64 cZ,i64 k,.aq 1 (b.map bo) false] [true,false] [.cells 116 (bU s++ [.own 1]),.row 121 2 ((aX++ [dj.mk cZ (dm k b)]).map eU),.bd] (.a1 []):=by
 have az:=Re k fT hk b ae;generalize dm k b=W at *;refine dw Tryz.func55 ?_;repeat' ((conv=>whnf);first|refine .inl ⟨_,_,aD _,az,?_⟩|refine And.intro (Lw (by simp<;>omega)) ?_|fail)
 all_goals(conv=>whnf)
 refine⟨.r,⟨.r,ch ?_,k7,trivial⟩,by rfl⟩;rw[List.map_append];rfl
theorem TD(s:Mem)(aa:s.agr.dec=[]):bg Tryz.prog 90 [.cD (bU s++ [.ar])] (.v (.bool false)):=by
 have aH:decide (((s.agr.dec.map aM).length:Int)=0)=true:=by rw[aa];rfl
 refine bw Tryz.func90 ?_;repeat' ((conv=>whnf);first|refine eC (by assumption) ?_|exact .refl|fail)
theorem afn(U:List Int):bg Tryz.prog 200 [.aq 2 (([]:List gG).map db) false,.fn (.func 157) [.cD [.aq 1 (U.map aM) false]]] (i64 (-1)):=by
 refine bw Tryz.func200 ?_;repeat' ((conv=>whnf);first|refine bc ?_|fail)
 all_goals(conv=>whnf)
 refine⟨Nat,fun i=>⟨[(0,.aq 2 (([]:List gG).map db) false),(1,.fn (.func 157) [.cD [.aq 1 (U.map aM) false]]),(7,i64 0),(8,i64 i)],[]⟩,fun i=>i=0,fun i=>0,[],⟨0,rfl,?_⟩,?_⟩
 ·conv=>whnf
  exact⟨⟨.r,.r,.r,.r,trivial⟩,trivial,by rfl⟩
 ·intro i ab;subst ab;repeat' ((conv=>whnf);first|exact .refl|fail)
theorem afo(U:List Int):bg Tryz.prog 156 [.aq 2 (([]:List gG).map db) false,.fn (.func 157) [.cD [.aq 1 (U.map aM) false]]] (.aq 2 (([]:List gG).map db) false):=by
 have az:=afn U;refine bw Tryz.func156 ?_;repeat' ((conv=>whnf);first|exact .refl|refine .inl ⟨_,_,aD _,az,?_⟩|fail)
theorem TE(s:Mem)(ag:fe s)(aa:s.dbts=[]):b0 Tryz.prog 91 [.cells 116 (bU s++ [.ar])] [.aP 0 0] [true] [.cells 116 (bU s++ [.ar])] (.a1 []):=by
 have az:=zG s.view (Nat.le_trans ag.view (by decide)) s.als (by have:=ag.als;omega);have lY:s.dbts.map db=([]:List gG).map db:=by rw[aa]
 generalize ek s.view s.als false=U at *;have aG:=afo U;rw[<-lY]at aG;refine dw Tryz.func91 ?_;repeat' ((conv=>whnf);first|refine And.intro (by kernel_rfl) ?_|refine .inl ⟨_,_,aD _,az,?_⟩|refine .inl ⟨_,_,aD _,aG,?_⟩|fail)
 all_goals(conv=>whnf)
 exact⟨.r,⟨.r,.r,trivial⟩,by rfl⟩
theorem afp(s:Mem)(ag:fe s)(aa:s.dbts=[])(sM:ek s.view s.als false=[]):b0 Tryz.prog 95 [.cells 116 (bU s++ [.ar])] [.aP 0 0] [true] [.cells 116 (bU s++ [.ar])] (.a1 []):=by
 have az:=zG s.view (Nat.le_trans ag.view (by decide)) s.als (by have:=ag.als;omega);rw[sM]at az;have aG:=TE s ag aa;obtain⟨self,status,cont,first,hist,view,bk,als,dbts,agr⟩:=s;simp only at aa;subst aa;refine dw Tryz.func95 ?_;repeat' ((conv=>whnf);first|refine And.intro (by kernel_rfl) ?_|refine .inl ⟨_,_,aD _,az,?_⟩|fail)
 all_goals(conv=>whnf)
 refine⟨Nat,fun i=>⟨[(0,.aP 0 0),(2,.ar),(3,.ar),(22,.aq 1 (([]:List Int).map aM) false),(23,i64 0),(24,i64 i)],[.cells 116 (bU ⟨self,status,cont,first,hist,view,bk,als,[],agr⟩++ [.ar]),.b6 [.aP 0 0]]⟩,fun i=>i=0,fun i=>0,[],⟨0,rfl,?_⟩,?_⟩
 ·conv=>whnf
  exact⟨⟨.r,.r,.r,.r,.r,.r,trivial⟩,⟨.r,.r,trivial⟩,by rfl⟩
 ·intro i ab;subst ab;repeat' ((conv=>whnf);first|refine bc ?_|fail)
  all_goals(conv=>whnf)
  refine⟨Nat,fun i=>⟨[(0,.aP 0 0),(78,.ar),(79,i64 0),(80,i64 i)],[.cells 116 (bU ⟨self,status,cont,first,hist,view,bk,als,[],agr⟩++ [.ar]),.b6 [.aP 0 0]]⟩,fun i=>i=0,fun i=>0,[],⟨0,rfl,?_⟩,?_⟩
  ·conv=>whnf
   exact⟨⟨.r,.r,.r,.r,trivial⟩,⟨j9 ⟨.r,.r,.r,.r,.r,.r,.r,.r,.r,.r,.r,.r,.r,.ar,.r,.r,.r,.r,.r,.r,.r,.r,.r,.r,.r,.r,.r,.r,.r,.r,trivial⟩,.r,trivial⟩,by rfl⟩
  ·intro i ab;subst ab;repeat' ((conv=>whnf);first|refine .inr ⟨[0],_,_,_,_,_,aG,by rfl,⟨.r,trivial⟩,⟨.r,trivial⟩,?_⟩|fail)
   all_goals(conv=>whnf)
   exact⟨.r,⟨.r,.r,trivial⟩,by rfl⟩
theorem afq(s:Mem):b0 Tryz.prog 89 [.cells 116 (bU s++ [.ar])] [.aP 0 0,.aq 7 (([]:List dy).map ei) false] [true] [.cells 116 (bU s++ [.ar])] (.a1 []):=by
 refine dw Tryz.func89 ?_;repeat' ((conv=>whnf);first|refine bc ?_|fail)
 all_goals(conv=>whnf)
 refine⟨Nat,fun i=>⟨[(0,.aP 0 0),(13,.aq 7 (([]:List dy).map ei) false),(14,i64 0),(15,i64 i)],[.cells 116 (bU s++ [.ar]),.b6 [.aP 0 0]]⟩,fun i=>i=0,fun i=>0,[],⟨0,rfl,?_⟩,?_⟩
 ·conv=>whnf
  exact⟨⟨.r,.r,.r,.r,trivial⟩,⟨.r,.r,trivial⟩,by rfl⟩
 ·intro i ab;subst ab;repeat' ((conv=>whnf);first|refine bc ?_|fail)
  all_goals(conv=>whnf)
  exact⟨.r,⟨.r,.r,trivial⟩,by rfl⟩
theorem Lx(ms:List Int)(af:ms.length<=maxLen)(x:Int):b0 Tryz.prog 100 [] [.aq 1 (ms.map aM) false,i64 x] [] [.row 3 1 ((dq ms x).map aM)] (.own 0):=by
 have az:=u9 ms af;have aG:=JJ x;have ls:c9 ms 16=true->∀r:Nat,r<5->bg Tryz.prog 169 [.aq 1 (ms.map aM) false,.fn (.func 170) [.cD [u64 (ed r x)],.cD [i64 r]]] (i64 (pE ms x r)):=fun ac r ao=>QS ms ac r ao x;have l1:∀r:Nat,bg Tryz.prog 168 [i64 r,i64 x] (u64 (ed r x)):=fun r=>BF r x;have aF:dq ms x=bif !c9 ms 16|| !(decide (1<=x)&&decide (x<=1000))|| (decide ((ms.length:Int)=1)&&decide (ms.getD 0 0=x))then []else(List.range 5).map (pE ms x):=rfl;have ax:∀c:Bool,(c&&decide (((ms.map aM).length:Int)=1))=true->(ms.map aM)[0]?=some (aM (ms.getD 0 0)):=fun c h=>by
  simp only[Bool.and_eq_true,decide_eq_true_eq,List.length_map]at h;have:0<ms.length:=by omega
  simp[this]
 generalize pE ms x=A at ls aF;generalize dq ms x=R at aF⊢;generalize c9 ms 16=cC at *;generalize(decide (1<=x)&&decide (x<=1000))=cH at *;generalize gj: (fun r:Nat=>ed r x)=P;have gj:∀r:Nat,ed r x=P r:=fun r=>by rw[<-gj]
 simp only[gj]at ls l1;clear gj;refine hd Tryz.func100 ?_;repeat' ((conv=>whnf);first|refine bc ?_| (refine be ?_ ?_<;>intro h)|refine And.intro ⟨fun h=>h,fun h=>h⟩ ?_|refine .inl ⟨_,_,aD _,az,?_⟩|refine⟨_,_,aD _,fun _=>aG,?_⟩|refine⟨0,aM (ms.getD 0 0),And.intro ⟨fun h=>h,fun h=>⟨rfl,ax _ h⟩⟩ ?_⟩|fail)
 all_goals(conv=>whnf)
 ·rw[List.length_map]at h;rw[aF,h];refine⟨[.fS 4 3 1],?_⟩;conv=>whnf
  exact⟨.r,⟨.r,trivial⟩,by rfl⟩
 ·rw[List.length_map]at h;rw[h,cond_false]at aF;have ae:cC=true:=by
   simp only[Bool.or_eq_false_iff,Bool.not_eq_false']at h;exact h.1.1
  have ls:=ls ae;clear h ax;subst aF;refine⟨Nat,fun i=>⟨[(0,.aq 1 (ms.map aM) false),(1,i64 x),(5,.own 0),(28,i64 i)],[.row 3 1 (((List.range i).map A).map aM)]⟩,fun i=>i<=5,fun i=>5-i,[.fS 5 3 1],⟨0,Nat.zero_le _,?_⟩,?_⟩
  ·exact⟨by repeat' ((conv=>whnf);first|exact trivial|refine And.intro (by(conv=>arg 1;whnf);first| (with_reducible exact .refl)|exact aV (bH (by omega))|exact .refl) ?_|fail),by repeat' ((conv=>whnf);first|exact trivial|refine And.intro ?_ ?_|exact .refl|fail),rfl⟩
  ·intro i ab;repeat' ((conv=>whnf);first| (refine be ?_ ?_<;>intro h)|fail)
   ·have ap:i<5:=by
     simp at h;omega
    clear h;have e:=ls i ap;have aG:=l1 i;have oO: (((List.range i).map A).map aM).length+1<=2000000:=by
     simp;omega
    repeat' ((conv=>whnf);first|refine .inl ⟨_,_,aD _,aG,?_⟩|refine .inl ⟨_,_,aD _,e,?_⟩|refine And.intro (nC oO) ?_|fail)
    all_goals(conv=>whnf)
    refine⟨i+1,ap,by simp only[];omega,?_⟩;conv=>whnf
    refine⟨⟨.r,.r,.r,aV (bH (by omega)),trivial⟩,⟨ch ?_,trivial⟩,by rfl⟩;rw[List.range_succ,List.map_append,List.map_append];rfl
   ·have:i=5:=by
     simp at h;omega
    subst this;repeat' ((conv=>whnf);first|refine bc ?_|fail)
    all_goals(conv=>whnf)
    refine⟨[],?_⟩;conv=>whnf
    exact⟨.r,⟨.r,trivial⟩,by rfl⟩
structure Gm(s:bj):Prop where
 ok:eS s=true
 dec:s.dec=[]
 prop:s.prop=[]
 afr: (fE s.box s.self).2=false
 phase:s.phase=0
 gw:decide (0<=dV s.aR s.self)=false
 done:je s=[]
theorem afs(s:bj)(ag:dt s)(al:Gm s):b0 Tryz.prog 166 [.cells 210 (cG s++ [.ar])] [.aP 0 0] [true] [.cells 210 (cG s++ [.ar])] (.a1 []):=by
 have az:=Kt s.box (Nat.le_trans ag.box (by decide)) s.self;rw[al.afr]at az;have aG:=B3 s.aR (Nat.le_trans ag.aR (by decide)) s.self;have Jp:decide (s.phase=1)=false:=by rw[al.phase];rfl
 have iQ:decide (s.phase=2)=false:=by rw[al.phase];rfl
 have ao: (decide (0<=dV s.aR s.self)&& !decide (s.phase=2))=false:=by rw[al.gw];rfl
 refine dw Tryz.func166 ?_;repeat' ((conv=>whnf);first|refine bc ?_|refine dE (by assumption) ?_|refine And.intro (by kernel_rfl) ?_|refine .inl ⟨_,_,aD _,az,?_⟩|refine .inl ⟨_,_,aD _,aG,?_⟩|fail)
 all_goals(conv=>whnf)
 all_goals exact⟨.r,⟨.r,.r,trivial⟩,by rfl⟩
theorem aft(s:bj)(ag:dt s)(al:Gm s):bg Tryz.prog 98 [.agg (cG s)] (.a1 [.agg (cG s),.aq 7 (([]:List dy).map ei) false]):=by
 have az:=mA s ag;rw[al.ok]at az;have aG:=tY s ag;have bL:decide (0<((s.dec.map aM).length:Int))=false:=by rw[al.dec];rfl
 have c0:decide (0<((s.prop.map aM).length:Int))=false:=by rw[al.prop];rfl
 have a7:=afs s ag al;have b5:=FI s ag;have he:dz s []=(s,[]):=by
  unfold dz;rw[al.done];simp
 rw[he]at b5;refine bw Tryz.func98 ?_;repeat' ((conv=>whnf);first|refine dE (by assumption) ?_|exact .refl|refine .inl ⟨_,_,aD _,az,?_⟩|refine .inl ⟨_,_,aD _,aG,?_⟩|refine .inr ⟨[2],_,_,_,_,_,a7,by rfl,⟨.r,trivial⟩,⟨.r,trivial⟩,?_⟩|refine .inr ⟨[2],_,_,_,_,_,b5,by rfl,⟨.r,trivial⟩,⟨.r,trivial⟩,?_⟩|fail)
theorem Ly(v:aQ)(b:Bool):ek v [] b=[]:=List.length_eq_zero_iff.1 (Nat.le_zero.1 (Cy v [] b))
theorem afu(v:aQ): (eQ v []).2=1:=by
 unfold eQ;have:c9 [] 32=false:=by kernel_rfl
 rw[this];simp
theorem afv(v:aQ):ey v []=([],false):=by
 have h:Gd v []=([],false):=by
  rw[Gd,To,afu];rfl
 unfold ey;rw[Ly,Ly];exact h
structure Lz(s:Mem):Prop where
 km:fe s
 als:s.als=[]
 dbts:s.dbts=[]
 prop:s.agr.prop=[]
 dec:s.agr.dec=[]
 afw:Gm s.agr
 view:bX s.view=true
theorem afx{s:Mem}(h:fe s){D:h9}{l:List ca}(bW:cJ s.bk=(D,l)):fe {s with bk:=D}:=by
 have qn:D=(cJ s.bk).1:=by rw[bW]
 have ae:=h.Gg;have he:=h.bS;have aa:=h.pM;refine⟨h.cont,h.first,h.hist,h.zI,h.view,?_,?_,?_,h.als,h.dbts,h.agr⟩;all_goals simp only[]
 all_goals rw[qn]
 all_goals unfold cJ
 all_goals cases !mY s.bk
 ·exact aa
 ·exact Nat.zero_le _
 ·simpa using he
 ·exact Nat.zero_le _
 ·intro e aT;simp only[cond_false,List.mem_map]at aT;obtain⟨cd,xu,rfl⟩:=aT;exact JN (ae cd xu) _
 ·intro e aT;simp[my]at aT
def ig(num:Int)(m:Int):dj:=⟨m,Gl num⟩
theorem afy(s:Mem)(ag:Lz s)(D:h9)(Gn:cJ s.bk=(D,[])):
  b0 Tryz.prog 56 [.cells 116 (bU s++ [.ar])] [.aP 0 0] [true] [.cells 116 (bU {s with bk:=D}++ [.own 5]),.bd,.bd,.bd,.bd,.row 121 2 (((iD (dq s.view.mem s.self)).map (ig s.view.num)).map eU)] (.a1 []):=by
 have c7:=ag.km;obtain⟨h1,ad,aC⟩:=lB ag.view;have gi: (bn s.view.num.toNat).length<=10:=fM 9 _;have az:=JS s.bk (Nat.le_trans c7.pM (by decide)) (Nat.le_trans c7.bS (by decide)) c7.Gg;rw[Gn]at az;have LA:fe {s with bk:=D}:=afx c7 Gn;have aG:=afp {s with bk:=D} LA ag.dbts (by rw[show ({s with bk:=D}:Mem).als=[] from ag.als];exact Ly _ _);have a7:=Ln s.view (by have:=c7.view;omega) s.als (by rw[ag.als];simp);have AW:ey s.view s.als=([],false):=by rw[ag.als];exact afv _
 rw[AW]at a7;have b5:=aft s.agr c7.agr ag.afw;have du:=afq {s with bk:=D};have iU:=TD {s with bk:=D} ag.dec;have kw:=w7 [] (by simp) s.view.num.toNat (by omega);have hu:=xw h1 ad;have qP:=Lx s.view.mem (Nat.le_trans c7.view (by decide)) s.self;have j6:=vf s.view.mem s.self;have rr: (iD (dq s.view.mem s.self)).length<=5:=Nat.le_trans (zE _) j6;have al:iD (dq s.view.mem s.self)=Go.Lib.compact (mW (dq s.view.mem s.self)):=rfl;generalize dq s.view.mem s.self=O at *;have sK:=F7 O (mW O) (sG _) (zD _) (by omega);have zK:=F8 (mW O) (by rw[(sG _).length_eq];omega);rw[<-al]at zK;have HR:decide (((s.agr.prop.map aM).length:Int)=0)=true:=by rw[ag.prop];rfl
 have FZ:decide (0<((s.als.map dr).length:Int))=false:=by rw[ag.als];rfl
 generalize iD O=C at *;refine dw Tryz.func56 ?_;repeat' ((conv=>whnf);first|refine .inl ⟨_,_,aD _,az,?_⟩|fail)
 all_goals(conv=>whnf)
 refine⟨Nat,fun i=>⟨[(0,.aP 0 0),(34,.aq 4 (([]:List ca).map dr) false),(35,i64 0),(36,i64 i)],[.cells 116 (bU {s with bk:=D}++ [.ar]),.b6 [.aP 0 0]]⟩,fun i=>i=0,fun i=>0,[],⟨0,rfl,?_⟩,?_⟩
 ·conv=>whnf
  exact⟨⟨.r,.r,.r,.r,trivial⟩,⟨.r,.r,trivial⟩,by rfl⟩
 ·intro i ab;subst ab;repeat' ((conv=>whnf);first|refine eC (by assumption) ?_|refine And.intro (by kernel_rfl) ?_|refine .inr ⟨[0],_,_,_,_,_,aG,by rfl,⟨.r,trivial⟩,⟨.r,trivial⟩,?_⟩|refine .inl ⟨_,_,aD _,a7,?_⟩|refine .inl ⟨_,_,aD _,b5,?_⟩|refine .inr ⟨[0],_,_,_,_,_,du,by rfl,⟨.r,trivial⟩,⟨.r,.r,trivial⟩,?_⟩|refine .inl ⟨_,_,aD _,iU,?_⟩|refine .inl ⟨[.aq 1 (([]:List Nat).map bo) false,_],_,⟨.ar,aV hu,trivial⟩,kw,?_⟩|refine .inr ⟨[],[],_,[],_,_,qP,by rfl,trivial,⟨.r,.r,trivial⟩,?_⟩|refine .inr ⟨[4],_,_,_,_,_,sK,by rfl,⟨.r,trivial⟩,⟨.r,trivial⟩,?_⟩|refine .inr ⟨[4],_,_,_,_,_,zK,by rfl,⟨.r,trivial⟩,⟨.r,trivial⟩,?_⟩|fail)
  all_goals(conv=>whnf)
  refine⟨Nat,fun i=>⟨[(0,.aP 0 0),(13,.aq 1 ((bn s.view.num.toNat).map bo) false),(132,.own 4),(133,i64 C.length),(134,i64 i)],[.cells 116 (bU {s with bk:=D}++ [.own 5]),.b6 [.aP 0 0],.bd,.bd,.row 3 1 (C.map aM),.row 121 2 (((C.take i).map (ig s.view.num)).map eU)]⟩,fun i=>i<=C.length,fun i=>C.length-i,[.cell 0 29 121 2],⟨0,Nat.zero_le _,?_⟩,?_⟩
  ·conv=>whnf
   exact⟨⟨.r,.r,.r,aV (by simp),.r,trivial⟩,⟨.r,.r,.bd,.bd,.r,.r,trivial⟩,by rfl⟩
  ·intro i ab;repeat' ((conv=>whnf);first|refine dE (by assumption) ?_| (refine be ?_ ?_<;>intro h)|fail)
   ·have ap:i<C.length:=by simpa using h
    clear h;have xH:=afm {s with bk:=D} ((C.take i).map (ig s.view.num)) (by simp;omega) C[i] 1 (by omega) (by omega) (bn s.view.num.toNat) (by omega);have gF: (C.take i).map (ig s.view.num)++ [dj.mk C[i] (dm 1 (bn s.view.num.toNat))]=(C.take (i+1)).map (ig s.view.num):=by
     rw[List.take_succ_eq_append_getElem ap,List.map_append];rfl
    rw[gF]at xH;have eY:i<(C.map aM).length:=by rw[List.length_map];exact ap
    have b7: (C.map aM)[i]?=some (aM C[i]):=by simp[ap]
    repeat' ((conv=>whnf);first|refine⟨i,And.intro ⟨rfl,eY⟩ ?_⟩|refine⟨aM C[i],And.intro b7 ?_⟩|refine .inr ⟨[0,5],_,_,_,_,_,xH,by rfl,⟨.r,.r,trivial⟩,⟨.r,.r,.r,.r,trivial⟩,?_⟩|fail)
    all_goals(conv=>whnf)
    refine⟨i+1,ap,by simp only[];omega,?_⟩;conv=>whnf
    exact⟨⟨.r,.r,.r,.r,aV (bH (by omega)),trivial⟩,⟨.r,.r,.r,.r,.r,.r,trivial⟩,by rfl⟩
   ·have:i=C.length:=by
     simp at h;omega
    subst this;clear h;rw[List.take_length];repeat' ((conv=>whnf);first|refine bc ?_|fail)
    all_goals(conv=>whnf)
    exact⟨.r,⟨.r,.r,.bd,.bd,.bd,.r,trivial⟩,by rfl⟩
theorem afz(s:Mem)(ag:Lz s)(bM:s.status=1)(ac:mE s=true)(D:h9)(Gn:cJ s.bk=(D,[])):
  bg Tryz.prog 24 [.agg (bU s)] (.a1 [.agg (bU {s with bk:=D}),.aq 2 (((iD (dq s.view.mem s.self)).map (ig s.view.num)).map eU) false]):=by
 have az:=rG s ag.km;rw[ac]at az;have aG:=Tw s ag.km;have a7:=afy s ag D Gn;have aH:decide (s.status=0)=false:=by rw[bM];rfl
 have h1:decide (s.status=1)=true:=by rw[bM];rfl
 generalize(iD (dq s.view.mem s.self)).map (ig s.view.num)=P at *;refine bw Tryz.func24 ?_;repeat' ((conv=>whnf);first|refine eC (by assumption) ?_|refine dE (by assumption) ?_|exact .refl|refine And.intro (by kernel_rfl) ?_|refine .inl ⟨_,_,aD _,az,?_⟩|refine .inl ⟨_,_,aD _,aG,?_⟩|refine .inr ⟨[2],_,_,_,_,_,a7,by rfl,⟨.r,trivial⟩,⟨.r,trivial⟩,?_⟩|fail)
def ne(s:Mem)(h:aj):List aj:=[i64 s.self,i64 s.status,.aq 1 (s.cont.map aM) false,i64 s.first.num,.aq 1 (s.first.mem.map aM) false,h,i64 s.view.num,.aq 1 (s.view.mem.map aM) false,i64 s.bk.self,i64 s.bk.view.num,.aq 1 (s.bk.view.mem.map aM) false,.aq 6 (s.bk.bS.map iS) false,.aq 4 (s.als.map dr) false,.aq 2 (s.dbts.map db) false,i64 s.agr.self,i64 s.agr.view.num,.aq 1 (s.agr.view.mem.map aM) false,i64 s.agr.aL.cc,i64 s.agr.aL.aB,.aq 1 (s.agr.aL.cut.map aM) false,.aq 1 (s.agr.prop.map aM) false,.aq 2 (s.agr.box.map dh) false,i64 s.agr.aB,i64 s.agr.phase,.aq 3 (s.agr.br.map bG) false,.aq 1 (s.agr.ct.map aM) false,.aq 3 (s.agr.aR.map bG) false,.aq 1 (s.agr.dec.map aM) false,i64 s.agr.dn]
theorem afA:bg Tryz.prog 139 [.ar] .ar:=by
 refine bw Tryz.func139 ?_;repeat' ((conv=>whnf);first|exact .refl|fail)
theorem afB:bg Tryz.prog 79 [.ar] .ar:=by
 refine bw Tryz.func79 ?_;repeat' ((conv=>whnf);first|refine .inl ⟨_,_,aD _,afA,?_⟩|fail)
 all_goals(conv=>whnf)
 refine⟨Nat,fun i=>⟨[(3,.ar),(8,i64 0),(9,i64 i)],[]⟩,fun i=>i=0,fun i=>0,[],⟨0,rfl,?_⟩,?_⟩
 ·conv=>whnf
  exact⟨⟨.r,.r,.r,trivial⟩,trivial,by rfl⟩
 ·intro i ab;subst ab;repeat' ((conv=>whnf);first|exact .refl|fail)
theorem afC(s:Mem)(ag:fe s):bg Tryz.prog 52 [.agg (ne s .ar)] (.agg (ne s .ar)):=by
 have cC:=ag.cont;have cH:=ag.first
 have B5:=ag.view;have B6:=ag.pM;have B7:=ag.bS;have B8:=ag.als;have B9:=ag.dbts;refine bw Tryz.func52 ?_;repeat' ((conv=>whnf);first|exact .refl|refine And.intro (by kernel_rfl) ?_|refine .inl ⟨_,_,aD _,mw _ (by omega),?_⟩|refine .inl ⟨_,_,aD _,afB,?_⟩|refine .inl ⟨_,_,aD _,o0 _ (by omega),?_⟩|refine .inl ⟨_,_,aD _,Lq _ (by omega),?_⟩|refine .inl ⟨_,_,aD _,BN _ (by omega),?_⟩|refine .inl ⟨_,_,aD _,Tu _ (by omega),?_⟩|refine .inl ⟨_,_,aD _,Lr _ ag.agr,?_⟩|fail)
theorem afD(s:Mem)(v:aQ)(ac:v.mem.length<=1000):b0 Tryz.prog 45 [.cells 116 (ne s (.own 1)++ [.ar]),.row 22 1 (s.hist.map cB)] [.aP 0 0,.agg (bN v)] [true,true] [.cells 116 (ne (dO s v) (.own 1)++ [.ar]),.row 22 1 (s.hist.map cB)] (.a1 []):=by
 have az:=o0 v (by omega);have aG:=hp v.mem (Nat.le_trans ac (by decide)) s.self;have a7:=ze v (Nat.le_trans ac (by decide)) s.self;have b5:=B0 v (by omega) s.self;by_cases cw:bR v.mem s.self=true
 ·rw[uc cw];generalize ix v s.self=N at *;generalize jd v s.self=Q at *;refine dw Tryz.func45 ?_;repeat' ((conv=>whnf);first|refine eC (by assumption) ?_|refine And.intro (by kernel_rfl) ?_|refine .inl ⟨_,_,aD _,az,?_⟩|refine .inl ⟨_,_,aD _,aG,?_⟩|refine .inl ⟨_,_,aD _,a7,?_⟩|refine .inl ⟨_,_,aD _,b5,?_⟩|fail)
  all_goals(conv=>whnf)
  exact⟨.r,⟨j9 ⟨.r,.r,.r,.r,.r,.r,.r,.r,.r,.r,.r,.r,.ar,.ar,.r,.r,.r,.r,.r,.r,.r,.r,.r,.r,.r,.r,.r,.r,.r,.r,trivial⟩,.r,.r,trivial⟩,by rfl⟩
 ·have cw:bR v.mem s.self=false:=by simpa using cw
  rw[zJ cw];refine dw Tryz.func45 ?_;repeat' ((conv=>whnf);first|refine dE (by assumption) ?_|refine And.intro (by kernel_rfl) ?_|refine .inl ⟨_,_,aD _,az,?_⟩|refine .inl ⟨_,_,aD _,aG,?_⟩|fail)
  all_goals(conv=>whnf)
  exact⟨.r,⟨j9 ⟨.r,.r,.r,.r,.r,.r,.r,.r,.r,.r,.ar,.ar,.ar,.ar,.r,.r,.ar,.r,.r,.ar,.ar,.ar,.r,.r,.ar,.ar,.ar,.ar,.r,.r,trivial⟩,.r,.r,trivial⟩,by rfl⟩
def kb(s:Mem)(first:aQ)(aE:List (List Int)):Nat->Mem
 |0=>{s with hist:=[]}
 |j+1=>dO {kb s first aE j with hist:=aE.take (j+1)} (c3 first aE (j+1))
theorem CE(s:Mem)(v:aQ): (dO s v).hist=s.hist:=by
 unfold dO;cases bR v.mem s.self<;>rfl
theorem TF(s:Mem)(first:aQ)(aE:List (List Int)):∀j,(kb s first aE j).hist=aE.take j
 |0=>by simp[kb]
 |j+1=>CE _ _
theorem afE(s:Mem)(ag:fe s)(first:aQ)(aE:List (List Int))(bY: (hD first aE).2=true)(al:∀c∈aE,kx c)(bM:s.status=1)(aI:ka first s.first=true)(lR:aE≠ [])
  (bQ:∀i,i<aE.length->(kb s first aE i).status=1):
  b0 Tryz.prog 53 [.cells 116 (ne s .ar++ [.ar])] [.aP 0 0,.agg (ie (rH first aE))] [true] [.cells 116 (bU (kb s first aE aE.length)++ [.ar])] (.a1 []):=by
 obtain⟨cx,cM,gl,kK⟩:=ue bY;have ea:=xC cx aE;have gT:=(kM cx).2;have az:=xE first (by omega) aE (by omega) (fun c h=>by have:=(al c h).1;omega)
 rw[kK]at az;have h7:=sJ first aE aE.length
 have fx:=xD first aE aE.length
 have rE:IntKind.i64.wrap ((((hX first aE aE.length).map bN).length:Int)-1)=((aE.length:Nat):Int)/\((hX first aE aE.length).map bN)[aE.length]?=some (bN (c3 first aE aE.length)):=by
  rw[List.length_map,h7,dC (by omega) (by omega)];refine⟨by omega,?_⟩;rw[List.getElem?_map,fx _ (Nat.le_refl _)];rfl
 have lW:∀j,j<aE.length->((hX first aE aE.length).map bN)[j+1]?=some (bN (c3 first aE (j+1))):=fun j ai=>by
  rw[List.getElem?_map,fx _ (by omega)];rfl
 have aG:=ub first s.first (by exact Nat.le_trans gT (by decide))
 rw[aI]at aG;have aH:decide (s.status=0)=false:=by rw[bM];rfl
 have eh:0<aE.length:=List.length_pos_iff.2 lR;have k9:kb s first aE 0= {s with hist:=[]}:=rfl
 have ri:∀j,kb s first aE (j+1)=dO {kb s first aE j with hist:=aE.take (j+1)} (c3 first aE (j+1)):=fun _=>rfl
 have KC:=TF s first aE
 generalize c3 first aE=V at *
 generalize hX first aE aE.length=A at *
 generalize kb s first aE=X at *
 have hle:decide (((aE.map cB).length:Int)<=0)=false:=decide_eq_false (by rw[List.length_map];omega);have la: (!true||decide (((aE.map cB).length:Int)<=0))=false:=by rw[hle];rfl
 refine hd Tryz.func53 ?_;repeat' ((conv=>whnf);first|refine bc ?_|refine dE (by assumption) ?_|refine And.intro (by kernel_rfl) ?_|refine And.intro ⟨fun h=>h,fun h=>h⟩ ?_|refine .inl ⟨_,_,aD _,az,?_⟩|refine⟨aE.length,bN (V aE.length),And.intro rE ?_⟩|refine .inl ⟨_,_,aD _,aG,?_⟩|fail)
 all_goals(conv=>whnf)
 refine⟨Nat,fun i=>⟨[(0,.aP 0 0),(3,.aP 2 0),(4,.aq 2 (A.map bN) false),(7,i64 0),(96,.ar),(97,i64 0),(98,i64 i)],[.cells 116 (ne s .ar++ [.ar]),.b6 [.aP 0 0],.cells 110 (ie (rH first aE))]⟩,fun i=>i=0,fun i=>0,[],⟨0,rfl,?_⟩,?_⟩
 ·conv=>whnf
  exact⟨⟨.r,.r,.r,.r,.r,.r,.r,trivial⟩,⟨.r,.r,.r,trivial⟩,by rfl⟩
 ·intro i ab;subst ab;repeat' ((conv=>whnf);first|refine bc ?_|fail)
  all_goals(conv=>whnf)
  refine⟨Nat,fun j=>⟨[(0,.aP 0 0),(3,.aP 2 0),(4,.aq 2 (A.map bN) false),(10,i64 j)],[.cells 116 (ne (X j) (.own 3)++ [.ar]),.b6 [.aP 0 0],.cells 110 (ie (rH first aE)),.row 22 1 ((aE.take j).map cB)]⟩,fun j=>j<=aE.length,fun j=>aE.length-j,[.cell 0 5 22 1],⟨0,Nat.zero_le _,?_⟩,?_⟩
  ·conv=>whnf
   have afF:ne (X 0) (.own 3)=ne s (.own 3):=by rw[k9];rfl
   refine⟨⟨.r,.r,.r,.r,trivial⟩,⟨?_,.r,.r,.r,trivial⟩,by rfl⟩;show fF _ (.cells _ (ne (X 0) (.own 3)++ [.ar]));rw[afF];exact .refl
  ·intro j ai;repeat' ((conv=>whnf);first|refine bc ?_| (refine be ?_ ?_<;>intro h)|fail)
   ·have ap:j<aE.length:=by
     simp only[List.length_map,Bool.and_eq_true,decide_eq_true_eq]at h;have:=h.1;change (j:Int)<(aE.length:Int)at this;omega
    clear h;have CF: (aE.map cB)[j]?=some (cB aE[j]):=cE ap;have fU:=(al _ (List.getElem_mem ap)).1;have du:=afD {X j with hist:=aE.take (j+1)} (V (j+1)) (by have:=ea (j+1);omega);rw[<-ri]at du;have dR: (aE.take j).map cB++ [cB aE[j]]=(aE.take (j+1)).map cB:=by
     rw[List.take_succ_eq_append_getElem ap,List.map_append];rfl
    repeat' ((conv=>whnf);first|refine And.intro (by kernel_rfl) ?_|refine⟨j,cB aE[j],And.intro ⟨rfl,CF⟩ ?_⟩|refine .inl ⟨_,_,aD _,mw _ (by omega),?_⟩|refine And.intro (xy (by simp<;>omega)) ?_|refine⟨j+1,bN (V (j+1)),And.intro ⟨bH (by omega),lW j ap⟩ ?_⟩|refine .inr ⟨[0,3],_,_,_,_,_,du,by rfl,⟨.r,ch dR,trivial⟩,⟨.r,.r,trivial⟩,?_⟩|refine Exists.intro false ?_|fail)
    all_goals(conv=>whnf)
    refine⟨j+1,ap,by simp only[];omega,?_⟩;conv=>whnf
    exact⟨⟨.r,.r,.r,aV (bH (by omega)),trivial⟩,⟨.r,.r,.r,.r,trivial⟩,by rfl⟩
   ·have:j=aE.length:=by
     rcases Nat.lt_or_ge j aE.length with ap|dB
     ·exfalso;have dl:=bQ j ap;simp only[List.length_map,dl,decide_true,Bool.and_true,decide_eq_false_iff_not]at h;change ¬(j:Int)<(aE.length:Int)at h;omega
     ·exact Nat.le_antisymm ai dB
    subst this;clear h;repeat' ((conv=>whnf);first|refine bc ?_|fail)
    all_goals(conv=>whnf)
    refine⟨[.np 0 5],?_⟩;conv=>whnf
    refine⟨.r,⟨j9 ⟨.r,.r,.r,.r,.r,?_,.r,.r,.r,.r,.r,.r,.r,.r,.r,.r,.r,.r,.r,.r,.r,.r,.r,.r,.r,.r,.r,.r,.r,.r,trivial⟩,.r,trivial⟩,by rfl⟩;rw[KC];exact .refl
theorem afG{v:aQ}(ac:v.mem.length<=1000)(self:Int):dt (jd v self).1:=by
 unfold jd;cases (!bX v|| !bR v.mem self)
 ·exact⟨ac,by simp,by simp,by simp,by simp,by simp,by simp,by simp,by simp,by simp,by simp⟩
 ·exact⟨by simp[eR],by simp[eR],by simp[eR],by simp[eR],by simp[eR],by simp[eR],by simp[eR],by simp[eR],by simp[eR],by simp[eR],by simp[eR]⟩
theorem afH{v:aQ}(ac:v.mem.length<=1000)(self:Int): (ix v self).1.view.mem.length<=1000/\(ix v self).1.bS.length<=1000/\∀e∈ (ix v self).1.bS,0<=e.kN.bits:=by
 have af:=Fg v.mem self;unfold ix;cases (!bX v|| !bR v.mem self)
 ·refine⟨ac,by simp[zd];omega,fun e he=> ?_⟩;simp only[cond_false,nD,List.mem_map]at he;obtain⟨k,_,rfl⟩:=he;exact Int.le_refl 0
 ·exact⟨by simp[my],by simp[my],by simp[my]⟩
theorem Gp{s:Mem}{v:aQ}(ac:v.mem.length<=1000)(h1:s.cont.length<=1000)(ad:s.first.mem.length<=1000)(aC:s.hist.length<=1000)(bh:∀c∈s.hist,c.length<=1000):fe (dO s v):=by
 have ao:=afH ac s.self;have aZ:=afG ac s.self;unfold dO;cases bR v.mem s.self
 ·exact⟨h1,ad,aC,bh,ac,by simp[my],by simp[my],by simp[my],by simp,by simp,⟨by simp[eR],by simp[eR],by simp[eR],by simp[eR],by simp[eR],by simp[eR],by simp[eR],by simp[eR],by simp[eR],by simp[eR],by simp[eR]⟩⟩
 ·exact⟨h1,ad,aC,bh,ac,ao.1,ao.2.1,ao.2.2,by simp,by simp,aZ⟩
theorem afI(v:aQ)(x:Int): (jd v x).1.dec=[]/\(jd v x).1.prop=[]:=by
 unfold jd;cases (!bX v|| !bR v.mem x)<;>exact⟨rfl,rfl⟩
theorem vI(s:Mem)(v:aQ): (dO s v).agr.dec=[]/\(dO s v).dbts=[]/\(dO s v).als=[]/\(dO s v).view=v/\(dO s v).self=s.self/\(dO s v).cont=s.cont/\(dO s v).first=s.first:=by
 have h:=(afI v s.self).1;unfold dO;generalize jd v s.self=Q at *;cases bR v.mem s.self
 ·exact⟨rfl,rfl,rfl,rfl,rfl,rfl,rfl⟩
 ·exact⟨h,rfl,rfl,rfl,rfl,rfl,rfl⟩
theorem TG(s:Mem)(first:aQ)(aE:List (List Int)):∀j,(kb s first aE j).cont=s.cont/\(kb s first aE j).first=s.first/\(kb s first aE j).self=s.self
 |0=>⟨rfl,rfl,rfl⟩
 |j+1=>by
  have h:=vI {kb s first aE j with hist:=aE.take (j+1)} (c3 first aE (j+1));have aN:=TG s first aE j
  exact⟨h.2.2.2.2.2.1.trans aN.1,h.2.2.2.2.2.2.trans aN.2.1,h.2.2.2.2.1.trans aN.2.2⟩
theorem afJ(s:Mem)(ag:fe s)(first:aQ)(aE:List (List Int))(bY: (hD first aE).2=true)(al:∀c∈aE,kx c)(bM:s.status=0)(cw:bR (c3 first aE aE.length).mem s.self=true):
  b0 Tryz.prog 53 [.cells 116 (bU s++ [.ar])] [.aP 0 0,.agg (ie (rH first aE))] [true] [.cells 116 (bU (dO {s with first:=first,hist:=aE,cont:=[]} (c3 first aE aE.length))++ [.ar])] (.a1 []):=by
 obtain⟨cx,cM,gl,kK⟩:=ue bY;have ea:=xC cx aE aE.length;have gT:=(kM cx).2;have az:=xE first (by omega) aE (by omega) (fun c h=>by have:=(al c h).1;omega)
 rw[kK]at az;have h7:=sJ first aE aE.length
 have fx:=xD first aE aE.length
 have rE:IntKind.i64.wrap ((((hX first aE aE.length).map bN).length:Int)-1)=((aE.length:Nat):Int)/\((hX first aE aE.length).map bN)[aE.length]?=some (bN (c3 first aE aE.length)):=by
  rw[List.length_map,h7,dC (by omega) (by omega)];refine⟨by omega,?_⟩;rw[List.getElem?_map,fx _ (Nat.le_refl _)];rfl
 have aH:decide (s.status=0)=true:=by rw[bM];rfl
 have aG:=hp (c3 first aE aE.length).mem (by exact Nat.le_trans ea (by decide)) s.self;rw[cw]at aG;have a7:=o0 first (by omega)
 have b5:=Tv aE (by omega) (fun c h=>by have:=(al c h).1;omega);have du:=afd {s with first:=first,hist:=aE,cont:=[]} (c3 first aE aE.length) (by omega);generalize c3 first aE aE.length=V at *
 generalize hX first aE aE.length=A at *
 generalize dO {s with first:=first,hist:=aE,cont:=[]} V=E at *;refine dw Tryz.func53 ?_;repeat' ((conv=>whnf);first|refine eC (by assumption) ?_|refine And.intro (by kernel_rfl) ?_|refine .inl ⟨_,_,aD _,az,?_⟩|refine⟨aE.length,bN V,And.intro rE ?_⟩|refine .inl ⟨_,_,aD _,aG,?_⟩|refine .inl ⟨_,_,aD _,a7,?_⟩|refine .inl ⟨_,_,aD _,b5,?_⟩|refine .inr ⟨[0],_,_,_,_,_,du,by rfl,⟨j9 ⟨.r,.r,.ar,.r,.r,.r,.r,.r,.r,.r,.r,.r,.r,.r,.r,.r,.r,.r,.r,.r,.r,.r,.r,.r,.r,.r,.r,.r,.r,.r,trivial⟩,trivial⟩,⟨.r,.r,trivial⟩,?_⟩|fail)
 all_goals(conv=>whnf)
 exact⟨.r,⟨.r,.r,trivial⟩,by rfl⟩
theorem afK(s:Mem)(ag:fe s)(bz:Int)(first:aQ)(aE:List (List Int))(bY: (hD first aE).2=true)(al:∀c∈aE,kx c)(bM:s.status=1)(aI:ka first s.first=true)(lR:aE≠ [])
  (bQ:∀i,i<aE.length->(kb s first aE i).status=1):
  b0 Tryz.prog 54 [.cells 116 (ne s .ar++ [.ar])] [.aP 0 0,i64 bz,.agg (ie (rH first aE))] [true] [.cells 116 (bU (kb s first aE aE.length)++ [.ar])] (.a1 []):=by
 have k:=ue bY;have ea:=xC k.1 aE aE.length;have az:=hp s.view.mem (Nat.le_trans ag.view (by decide)) bz
 have aG:=afE s ag first aE bY al bM aI lR bQ
 obtain⟨n,aS⟩:∃n,aE.length=n+1:=⟨aE.length-1,by have:=List.length_pos_iff.2 lR;omega⟩
 have sF:kb s first aE aE.length=dO {kb s first aE n with hist:=aE.take (n+1)} (c3 first aE (n+1)):=by rw[aS];rfl
 have hk:=TG s first aE n
 have pO:=vI {kb s first aE n with hist:=aE.take (n+1)} (c3 first aE (n+1));have c7:fe (kb s first aE aE.length):=by
  rw[sF];refine Gp (by rw[<-aS];omega) ?_ ?_ ?_ ?_
  ·simp only[];rw[hk.1];exact ag.cont
  ·simp only[];rw[hk.2.1];exact ag.first
  ·simp only[List.length_take];have:=k.2.1;omega
  ·intro c aT;have:=(al c (List.mem_of_mem_take aT)).1;omega
 rw[<-sF]at pO;generalize kb s first aE aE.length=X at *
 have a7:=TD X pO.1;have b5:=TE X c7 pO.2.1;refine dw Tryz.func54 ?_;repeat' ((conv=>whnf);first|refine bc ?_| (refine be ?_ ?_<;>intro h)|refine .inl ⟨_,_,aD _,az,?_⟩|refine .inr ⟨[0],_,_,_,_,_,aG,by rfl,⟨.r,trivial⟩,⟨.r,.r,trivial⟩,?_⟩|refine⟨_,_,aD _,fun _=>a7,?_⟩|refine .inr ⟨[0],_,_,_,_,_,b5,by rfl,⟨.r,trivial⟩,⟨.r,trivial⟩,?_⟩|fail)
 all_goals(conv=>whnf)
 all_goals exact⟨.r,⟨.r,.r,trivial⟩,by rfl⟩
theorem afL(s:Mem)(ag:fe s)(bp:s.hist=[])(ac:mE s=true)(bz:Int)(fj:kv bz=true)(bx:bz≠s.self)(first:aQ)(aE:List (List Int))(bY: (hD first aE).2=true)(al:∀c∈aE,kx c)(bM:s.status=1)(aI:ka first s.first=true)(lR:aE≠ [])
  (bQ:∀i,i<aE.length->(kb s first aE i).status=1):
  bg Tryz.prog 23 [.agg (ne s .ar),i64 bz,.aq 1 ((o2 first aE).map bo) false] (.a1 [.agg (bU (kb s first aE aE.length)),.aq 2 (([]:List dj).map eU) false,i64 0]):=by
 have k:=ue bY;have az:=rG s ag;rw[ac]at az;have aG:=xz bz
 rw[fj]at aG;have a7:=CD s first aE k.1 k.2.1 al bY
 have b5:=afC s ag;have du:=afK s ag bz first aE bY al bM aI lR bQ
 have hle:fP (.agg (ne s .ar)) (.agg (bU s)):=gM ⟨.r,.r,.r,.r,.r,by rw[bp];exact .ar,.r,.r,.r,.r,.r,.r,.r,.r,.r,.r,.r,.r,.r,.r,.r,.r,.r,.r,.r,.r,.r,.r,.r,trivial⟩;have aa:decide (bz=s.self)=false:=decide_eq_false bx;have aH:decide (s.status=0)=false:=by rw[bM];rfl
 have h1:decide (s.status=1)=true:=by rw[bM];rfl
 have ax: (!true|| !true||decide (bz=s.self))=false:=by rw[aa];rfl
 have gK: (decide (s.status=0)&&decide ((4:Int)=4))=false:=by rw[aH];rfl
 generalize kb s first aE aE.length=X at *
 generalize o2 first aE=W at *
 refine bw Tryz.func23 ?_;repeat' ((conv=>whnf);first|refine bc ?_|refine eC (by assumption) ?_|refine dE (by assumption) ?_|refine And.intro (by kernel_rfl) ?_|refine And.intro ⟨fun h=>h,fun h=>h⟩ ?_|refine .inl ⟨[.agg (bU s)],_,⟨hle,trivial⟩,az,?_⟩|refine⟨_,_,aD _,fun _=>aG,?_⟩|refine .inl ⟨[.agg (bU s),_],_,⟨hle,.r,trivial⟩,a7,?_⟩|refine .inl ⟨_,_,aD _,b5,?_⟩|refine .inr ⟨[3],_,_,_,_,_,du,by rfl,⟨.r,trivial⟩,⟨.r,.r,.r,trivial⟩,?_⟩|fail)
 all_goals(conv=>whnf)
 exact dI ⟨.r,.ar,.r,trivial⟩
theorem afM(s:Mem)(ag:fe s)(ac:mE s=true)(bz:Int)(fj:kv bz=true)(bx:bz≠s.self)(first:aQ)(aE:List (List Int))(bY: (hD first aE).2=true)(al:∀c∈aE,kx c)(bM:s.status=0)(cw:bR (c3 first aE aE.length).mem s.self=true):
  bg Tryz.prog 23 [.agg (bU s),i64 bz,.aq 1 ((o2 first aE).map bo) false] (.a1 [.agg (bU (dO {s with first:=first,hist:=aE,cont:=[]} (c3 first aE aE.length))),.aq 2 (([]:List dj).map eU) false,i64 0]):=by
 have k:=ue bY;have az:=rG s ag;rw[ac]at az;have aG:=xz bz
 rw[fj]at aG;have a7:=CD s first aE k.1 k.2.1 al bY
 have b5:=Tw s ag;have du:=afJ s ag first aE bY al bM cw
 have aa:decide (bz=s.self)=false:=decide_eq_false bx;have aH:decide (s.status=0)=true:=by rw[bM];rfl
 have ax: (!true|| !true||decide (bz=s.self))=false:=by rw[aa];rfl
 have gK: (decide (s.status=0)&&decide ((4:Int)=4))=true:=by rw[aH];rfl
 generalize dO {s with first:=first,hist:=aE,cont:=[]} (c3 first aE aE.length)=X at *;generalize o2 first aE=W at *
 refine bw Tryz.func23 ?_;repeat' ((conv=>whnf);first|refine bc ?_|refine eC (by assumption) ?_|refine dE (by assumption) ?_|refine And.intro (by kernel_rfl) ?_|refine And.intro ⟨fun h=>h,fun h=>h⟩ ?_|refine .inl ⟨_,_,aD _,az,?_⟩|refine⟨_,_,aD _,fun _=>aG,?_⟩|refine .inl ⟨_,_,aD _,a7,?_⟩|refine .inl ⟨_,_,aD _,b5,?_⟩|refine .inr ⟨[3],_,_,_,_,_,du,by rfl,⟨.r,trivial⟩,⟨.r,.r,trivial⟩,?_⟩|fail)
 all_goals(conv=>whnf)
 exact dI ⟨.r,.ar,.r,trivial⟩
theorem LB(n:Int):IntKind.u8.wrap n=n%256:=by simp[IntKind.wrap,IntKind.bits,IntKind.signed]
theorem afN(w:Nat):IntKind.u8.wrap (IntKind.u8.wrap ((w:Int).tmod 128)+128)=((w%128+128:Nat):Int):=by
 have e: (w:Int).tmod 128=((w%128:Nat):Int):=(Int.ofNat_tmod w 128).symm;rw[e,LB,LB];omega
theorem afO(w:Nat)(h:w<18446744073709551616):IntKind.u64.wrap ((w:Int).tdiv 128)=((w/128:Nat):Int):=by
 have e: (w:Int).tdiv 128=((w/128:Nat):Int):=(Int.ofNat_tdiv w 128).symm;rw[e];exact h8 (by omega) (by omega)
theorem CG(v:Nat)(ac:v<18446744073709551616):b0 Tryz.prog 48 [] [u64 v] [] [.row 5 1 ((bn v).map bo)] (.own 0):=by
 refine dw Tryz.func48 ?_;repeat' ((conv=>whnf);first|refine bc ?_|fail)
 all_goals(conv=>whnf)
 refine⟨Nat×Nat×List Nat,fun s=>⟨[(0,u64 s.2.1),(3,.own 0)],[.row 5 1 (s.2.2.map bo)]⟩,fun s=>s.2.2++lv s.1 s.2.1=bn v/\s.2.1<2^ (7*s.1+1)/\s.1<=9/\s.2.2.length<=9-s.1,fun s=>s.1,[.fS 3 5 1],⟨(9,v,[]),⟨rfl,ac,by omega,by simp⟩,?_⟩,?_⟩
 ·conv=>whnf
  exact⟨⟨.r,.r,trivial⟩,⟨.r,trivial⟩,by rfl⟩
 ·rintro⟨k,w,out⟩ ⟨hinv,hw,hk,j6⟩;simp only[]at hinv hw hk j6;have afP:w<18446744073709551616:=Nat.lt_of_lt_of_le hw (by
   have:2^ (7*k+1)<=2^64:=Nat.pow_le_pow_right (by decide) (by omega);exact this)
  have afQ:=afN w;have afR:=afO w afP;repeat' ((conv=>whnf);first| (refine be ?_ ?_<;>intro h)|refine And.intro (oS (by simp<;>omega)) ?_| (refine And.intro ?_ ?_;focus (simp;done))|fail)
  all_goals(conv=>whnf)
  ·have BO:128<=w:=by
    have:=of_decide_eq_true h;simp only[]at this;omega
   clear h;obtain⟨k,rfl⟩:∃m,k=m+1:=by
    cases k with
    |zero=>omega
    |succ m=>exact⟨m,rfl⟩
   rw[lv,if_neg (by omega)]at hinv;refine⟨⟨k,w/128,out++ [w%128+128]⟩,⟨by simpa using hinv,?_,by omega,by simp;omega⟩,by simp only[];omega,?_⟩
   ·simp only[];refine Nat.div_lt_of_lt_mul ?_;rw[show 7* (k+1)+1=7+(7*k+1) by omega,Nat.pow_add]at hw;exact hw
   ·conv=>whnf
    refine⟨⟨aV afR,.r,trivial⟩,⟨ch ?_,trivial⟩,by rfl⟩;show out.map bo++ [[.v (.int .u8 (IntKind.u8.wrap (IntKind.u8.wrap ((w:Int).tmod 128)+128)))]]=_;rw[afQ,List.map_append];rfl
  ·have BO:w<128:=by
    have:=of_decide_eq_false h;simp only[]at this;omega
   clear h;have gh:lv k w=[w]:=by
    cases k with
    |zero=>rw[lv,Nat.mod_eq_of_lt (by omega)]
    |succ m=>rw[lv,if_pos BO]
   rw[gh]at hinv;have J1:IntKind.u8.wrap (w:Int)=(w:Int):=by
    rw[LB];omega
   refine⟨.r,⟨ch ?_,trivial⟩,by rfl⟩;show out.map bo++ [[.v (.int .u8 (IntKind.u8.wrap (w:Int)))]]=_;rw[<-hinv,J1,List.map_append];rfl
theorem afS(v:Int)(h1: -1<=v)(ad:v<=1099511627776):bg Tryz.prog 127 [i64 v] (u64 (eD v)):=by
 have bE:eD v=if v<0 then 1 else(2*v).toNat:=rfl;refine bw Tryz.func127 ?_;repeat' ((conv=>whnf);first| (refine be ?_ ?_<;>intro h)|fail)
 all_goals(conv=>whnf)
 ·have ac:v= -1:=by
   have:=of_decide_eq_true h;omega
  subst ac;exact aV (by decide)
 ·have ac:¬v<0:=of_decide_eq_false h;refine aV ?_;rw[bE,if_neg ac,h8 (n:=v) (by omega) (by omega),h8 (by omega) (by omega)];omega
theorem afT(v:Int)(h1: -1<=v)(ad:v<=1099511627776):b0 Tryz.prog 71 [] [i64 v] [] [.row 5 1 ((bn (eD v)).map bo)] (.own 0):=by
 have az:=afS v h1 ad;have aG:=CG (eD v) (J8 ad);refine dw Tryz.func71 ?_;repeat' ((conv=>whnf);first|refine .inl ⟨_,_,aD _,az,?_⟩|refine .inr ⟨[],[],_,[],_,_,aG,by rfl,trivial,⟨.r,trivial⟩,?_⟩|fail)
 all_goals(conv=>whnf)
 exact⟨.r,⟨.r,trivial⟩,by rfl⟩
theorem TH(l:List Int)(af:l.length<=1000)(ao:∀v∈l,-1<=v/\v<=1099511627776):b0 Tryz.prog 49 [] [.aq 1 (l.map aM) false] [] [.row 5 1 ((eT l).map bo)] (.own 0):=by
 have hu:IntKind.u64.wrap ((l.map aM).length:Int)=((l.length:Nat):Int):=by
  rw[List.length_map];exact h8 (by omega) (by omega)
 have az:=CG l.length (by omega);have gi: (bn l.length).length<=10:=fM 9 l.length;refine dw Tryz.func49 ?_;repeat' ((conv=>whnf);first|refine .inr ⟨[],[],_,[],_,_,az,by rfl,trivial,⟨aV hu,trivial⟩,?_⟩|fail)
 all_goals(conv=>whnf)
 refine⟨Nat,fun i=>⟨[(0,.aq 1 (l.map aM) false),(3,.own 0),(4,i64 i)],[.row 5 1 ((bn l.length++hh (l.take i)).map bo)]⟩,fun i=>i<=l.length,fun i=>l.length-i,[],⟨0,Nat.zero_le _,?_⟩,?_⟩
 ·conv=>whnf
  exact⟨⟨.r,.r,.r,trivial⟩,⟨ch (by simp[hh]),trivial⟩,by rfl⟩
 ·intro i ab;repeat' ((conv=>whnf);first| (refine be ?_ ?_<;>intro h)|fail)
  all_goals(conv=>whnf)
  ·have ap:i<l.length:=by simpa using h
   clear h;have ac:=ao _ (List.getElem_mem ap);have hlen:=xv (l.take i);have uY: (l.take i).length=i:=by simp;omega
   have fh: (bn (eD l[i])).length<=10:=fM 9 _;have m3:=afT l[i] ac.1 ac.2;have gF: (bn l.length++hh (l.take i)).map bo++(bn (eD l[i])).map bo=(bn l.length++hh (l.take (i+1))).map bo:=by
    rw[<-List.map_append,List.append_assoc];congr 2;unfold hh;rw[List.take_succ_eq_append_getElem ap,List.flatMap_append];simp
   repeat' ((conv=>whnf);first|refine⟨_,_,And.intro ⟨rfl,cE ap⟩ ?_⟩|refine .inr ⟨[],[],_,[],_,_,m3,by rfl,trivial,⟨.r,trivial⟩,?_⟩|refine And.intro (oS (by simp<;>omega)) ?_|fail)
   all_goals(conv=>whnf)
   refine⟨i+1,ap,by simp only[];omega,?_⟩;conv=>whnf
   exact⟨⟨.r,.r,aV (bH (by omega)),trivial⟩,⟨ch gF,trivial⟩,by rfl⟩
  ·have cw:i=l.length:=by
    have:=of_decide_eq_false h;simp at this;omega
   subst cw;rw[List.take_length];exact⟨.r,⟨.r,trivial⟩,by rfl⟩
theorem TI(op:BinOp)(x y:Int):∃n:Nat,n<4294967296/\bits op .u32 x y=(n:Int):=by
 obtain⟨z,bE⟩:∃z:Int,bits op .u32 x y=IntKind.u32.wrap z:=⟨_,rfl⟩
 rw[bE,Ff];refine⟨(z%4294967296).toNat,?_,?_⟩<;>omega
theorem afU(n:Nat)(h:n<4294967296):bits .and .u32 (n:Int) 1=((n%2:Nat):Int):=by
 unfold bits;simp only[IntKind.bits];have ae: (BitVec.ofInt 32 (n:Int)&&&BitVec.ofInt 32 1).toNat=n%2:=by
  rw[BitVec.toNat_and,BitVec.ofInt_natCast,BitVec.toNat_ofNat,Nat.mod_eq_of_lt (by omega)];have: (BitVec.ofInt 32 1).toNat=1:=by decide
  rw[this,Nat.and_one_is_mod]
 exact(congrArg (fun k:Nat=>IntKind.u32.wrap (k:Int)) ae).trans (by rw[Ff];omega)
theorem afV(n:Nat)(h:n<4294967296):bits .xor .u32 (n:Int) 0=(n:Int):=by
 unfold bits;simp only[IntKind.bits];have ae: (BitVec.ofInt 32 (n:Int)^^^BitVec.ofInt 32 0).toNat=n:=by
  have aH:BitVec.ofInt 32 0=0#32:=by decide
  rw[aH,BitVec.xor_zero,BitVec.ofInt_natCast,BitVec.toNat_ofNat];exact Nat.mod_eq_of_lt (by omega)
 exact(congrArg (fun k:Nat=>IntKind.u32.wrap (k:Int)) ae).trans (by rw[Ff];omega)
theorem afW(n:Nat)(h:n<4294967296): (bits .and .u32 (n:Int) 1=1->vi n=bits .xor .u32 ((n:Int).fdiv (2^ (min (1:Int).toNat 32))) 3988292384)/\(bits .and .u32 (n:Int) 1≠1->vi n=(n:Int).fdiv (2^ (min (1:Int).toNat 32))):=by
 have aa: (n:Int).fdiv (2^ (min (1:Int).toNat 32))=((n/2:Nat):Int):=(Int.ofNat_fdiv n 2).symm;unfold vi;rw[aa,afU n h];constructor
 ·intro e;rw[e];have:IntKind.u32.wrap (3988292384*1)=3988292384:=by decide
  rw[this]
 ·intro e;have iq: ((n%2:Nat):Int)=0:=by omega
  rw[iq];have:IntKind.u32.wrap (3988292384*0)=0:=by decide
  rw[this,afV _ (by omega)]
theorem afX(x:Int):∃n:Nat,n<4294967296/\vi x=(n:Int):=TI _ _ _
theorem afY{x:Int}(h:∃n:Nat,n<4294967296/\x=(n:Int)):∀k,∃n:Nat,n<4294967296/\pG x k=(n:Int)
 |0=>h
 |k+1=>afX _
theorem afZ(l:List Nat)(af:l.length<=1000000):bg Tryz.prog 129 [.aq 1 (l.map bo) false] (.v (.int .u32 (oU l))):=by
 refine bw Tryz.func129 ?_;repeat' ((conv=>whnf);first|refine bc ?_|fail)
 all_goals(conv=>whnf)
 refine⟨Nat,fun i=>⟨[(0,.aq 1 (l.map bo) false),(3,.v (.int .u32 (qy l i))),(4,i64 i)],[]⟩,fun i=>i<=l.length,fun i=>l.length-i,[],⟨0,Nat.zero_le _,?_⟩,?_⟩
 ·conv=>whnf
  exact⟨⟨.r,.r,.r,trivial⟩,trivial,by rfl⟩
 ·intro i ab;repeat' ((conv=>whnf);first| (refine be ?_ ?_<;>intro h)|fail)
  all_goals(conv=>whnf)
  ·have ap:i<l.length:=by simpa using h
   clear h;have ax:l.getD i 0=l[i]:=by simp[ap]
   have gF:qy l (i+1)=pG (bits .xor .u32 (qy l i) (IntKind.u32.wrap ((l.getD i 0:Nat):Int))) 8:=rfl;rw[ax]at gF;generalize qy l i=a at *;have nB: (l.map bo)[i]?=some (bo l[i]):=cE ap;obtain⟨y,bt⟩:∃y,y=l[i]:=⟨_,rfl⟩
   rw[<-bt]at nB gF;have af0:=afY (TI .xor a (IntKind.u32.wrap (y:Int)));repeat' ((conv=>whnf);first|refine⟨i,bo y,And.intro ⟨rfl,nB⟩ ?_⟩|fail)
   all_goals(conv=>whnf)
   refine⟨Nat,fun k=>⟨[(0,.aq 1 (l.map bo) false),(3,.v (.int .u32 (pG (bits .xor .u32 a (IntKind.u32.wrap (y:Int))) k))),(4,i64 i),(5,i64 k)],[]⟩,fun k=>k<=8,fun k=>8-k,[],⟨0,Nat.zero_le _,?_⟩,?_⟩
   ·conv=>whnf
    exact⟨⟨.r,.r,.r,.r,trivial⟩,trivial,by rfl⟩
   ·intro k hk;have u7:pG (bits .xor .u32 a (IntKind.u32.wrap (y:Int))) (k+1)=vi (pG (bits .xor .u32 a (IntKind.u32.wrap (y:Int))) k):=rfl;have tP:k=8->pG (bits .xor .u32 a (IntKind.u32.wrap (y:Int))) k=qy l (i+1):=fun e=>by rw[gF,e]
    obtain⟨n,aS,bx⟩:=af0 k;have bM:=afW n aS;rw[<-bx]at bM;rw[<-u7]at bM;repeat' ((conv=>whnf);first| (refine be ?_ ?_<;>intro h)| (refine And.intro ?_ ?_;focus (simp;done))|fail)
    all_goals(conv=>whnf)
    ·have pH:k<8:=by
      rename_i hn;have:=of_decide_eq_true hn;omega
     have az:=bM.1 (of_decide_eq_true h);refine⟨k+1,pH,by simp only[];omega,?_⟩;conv=>whnf
     exact⟨⟨.r,aV az.symm,.r,aV (bH (by omega)),trivial⟩,trivial,by rfl⟩
    ·have pH:k<8:=by
      rename_i hn;have:=of_decide_eq_true hn;omega
     have az:=bM.2 (of_decide_eq_false h);refine⟨k+1,pH,by simp only[];omega,?_⟩;conv=>whnf
     exact⟨⟨.r,aV az.symm,.r,aV (bH (by omega)),trivial⟩,trivial,by rfl⟩
    ·have pH:k=8:=by
      have:=of_decide_eq_false h;omega
     clear h;refine⟨i+1,ap,by simp only[];omega,?_⟩;conv=>whnf
     exact⟨⟨.r,aV (tP pH),aV (bH (by omega)),trivial⟩,trivial,by rfl⟩
  ·have cw:i=l.length:=by
    have:=of_decide_eq_false h;simp at this;omega
   subst cw;exact .refl
theorem af1(n:Int):bg Tryz.prog 128 [.v (.int .u32 n)] (.aq 1 ((nE n).map bo) false):=by
 rw[<-J6];refine bw Tryz.func128 ?_;repeat' ((conv=>whnf);first|exact .refl| (refine And.intro ?_ ?_;focus (simp;done))|fail)
theorem af2(k:Nat)(fT:1<=k)(hk:k<=255)(b:List Nat)(ae:b.length<=800000):bg Tryz.prog 72 [i64 k,.aq 1 (b.map bo) false] (.a1 [.aq 1 ((dm k b).map bo) false,i64 0]):=by
 have tP:=J7 hk;have dR: [[aj.v (.int .u8 65)],[aj.v (.int .u8 71)],[aj.v (.int .u8 (IntKind.u8.wrap (k:Int)))]]=List.map bo [65,71,k]:=by rw[tP];rfl
 have gi: (bn b.length).length<=10:=fM 9 b.length;have BP: [65,71,k]++bn b.length++b=fB k b:=rfl;have hH: (fB k b).length<=900000:=by
  unfold fB;simp only[List.length_append,List.length_cons,List.length_nil];omega
 have az:=CG b.length (by omega);have a7:=afZ (fB k b) (by omega);have b5:=af1 (oU (fB k b));have akD: (nE (oU (fB k b))).length=4:=rfl;have hu:IntKind.u64.wrap ((b.map bo).length:Int)=((b.length:Nat):Int):=by
  rw[List.length_map];exact h8 (by omega) (by omega)
 have BQ: (decide ((k:Int)<1)||decide ((255:Int)<k)||decide ((16777216:Int)<((b.map bo).length:Int)))=false:=by
  rw[decide_eq_false (by omega),decide_eq_false (by omega),List.length_map,decide_eq_false (by omega)];rfl
 have vj: ([[aj.v (.int .u8 65)],[aj.v (.int .u8 71)],[aj.v (.int .u8 (IntKind.u8.wrap (k:Int)))]]++(bn b.length).map bo)++b.map bo=(fB k b).map bo:=by
  rw[dR,<-BP,List.map_append (l₁:=[65,71,k]++bn b.length),List.map_append]
 refine bw Tryz.func72 ?_;repeat' ((conv=>whnf);first|refine bc ?_|refine dE (by assumption) ?_|refine .inr ⟨[],[],_,[],_,_,az,by rfl,trivial,⟨aV hu,trivial⟩,?_⟩|refine And.intro (oS (by simp<;>omega)) ?_|refine .inl ⟨[.aq 1 ((fB k b).map bo) false],_,⟨hT vj,trivial⟩,a7,?_⟩|refine .inl ⟨_,_,aD _,b5,?_⟩|fail)
 all_goals(conv=>whnf)
 refine dI ⟨hT ?_,.r,trivial⟩;unfold dm;rw[List.map_append,<-vj];rfl
theorem af3(k:Nat)(fT:1<=k)(hk:k<=255)(b:List Nat)(ae:b.length<=800000):bg Tryz.prog 50 [i64 k,.aq 1 (b.map bo) false] (.aq 1 ((dm k b).map bo) false):=by
 have az:=af2 k fT hk b ae;generalize dm k b=W at *;refine bw Tryz.func50 ?_;repeat' ((conv=>whnf);first|exact .refl|refine .inl ⟨_,_,aD _,az,?_⟩|fail)
theorem af4(v:aQ)(h:bX v=true):b0 Tryz.prog 47 [] [.agg (bN v)] [] [.row 5 1 ((hx v).map bo)] (.own 0):=by
 obtain⟨h1,ad,aC⟩:=lB h;obtain⟨bh,bL⟩:=Gf h;have az:=QC v (Nat.le_trans bh (by decide));rw[h]at az;have hu:=xw h1 ad;have aG:=CG v.num.toNat (by omega);have a7:=TH v.mem (by omega) bL;have gi: (bn v.num.toNat).length<=10:=fM 9 _;have fh:=zH v h;have EK: (eT v.mem).length<=1000:=by
  unfold hx at fh;rw[List.length_append]at fh;omega
 refine hd Tryz.func47 ?_;repeat' ((conv=>whnf);first|refine And.intro (by kernel_rfl) ?_|refine .inl ⟨_,_,aD _,az,?_⟩|refine .inr ⟨[],[],_,[],_,_,aG,by rfl,trivial,⟨aV hu,trivial⟩,?_⟩|refine .inr ⟨[],[],_,[],_,_,a7,by rfl,trivial,⟨.r,trivial⟩,?_⟩|refine And.intro (oS (by simp<;>omega)) ?_|fail)
 all_goals(conv=>whnf)
 refine⟨[.dQ 0 1],?_⟩;conv=>whnf
 refine⟨.r,⟨ch ?_,trivial⟩,by rfl⟩;unfold hx;rw[List.map_append]
theorem af5(s:Mem)(ac:bX s.first=true)(aS:s.hist.length<=400)(al:∀c∈s.hist,kx c):bg Tryz.prog 22 [.agg (bU s)] (.aq 1 ((o2 s.first s.hist).map bo) false):=by
 have az:=af4 s.first ac
 have gT:=zH s.first ac
 have Lv:=TC ac aS al;have aG:=CG s.hist.length (by omega);have gi: (bn s.hist.length).length<=10:=fM 9 _;have hu:IntKind.u64.wrap ((s.hist.map cB).length:Int)=((s.hist.length:Nat):Int):=by
  rw[List.length_map];exact h8 (by omega) (by omega)
 have b5:=af3 4 (by omega) (by omega) (nH s.first s.hist) (by omega);unfold o2;generalize dm 4 (nH s.first s.hist)=W at *;refine bw Tryz.func22 ?_;repeat' ((conv=>whnf);first|refine And.intro (by kernel_rfl) ?_|refine .inr ⟨[],[],_,[],_,_,az,by rfl,trivial,⟨.r,trivial⟩,?_⟩|refine .inr ⟨[],[],_,[],_,_,aG,by rfl,trivial,⟨aV hu,trivial⟩,?_⟩|refine And.intro (oS (by simp<;>omega)) ?_|fail)
 all_goals(conv=>whnf)
 refine⟨Nat,fun i=>⟨[(1,.aP 0 0),(3,.own 1),(4,i64 i)],[.cells 55 (bU s),.row 5 1 ((hx s.first++(bn s.hist.length++hE (s.hist.take i))).map bo)]⟩,fun i=>i<=s.hist.length,fun i=>s.hist.length-i,[],⟨0,Nat.zero_le _,?_⟩,?_⟩
 ·conv=>whnf
  refine⟨⟨.r,.r,.r,trivial⟩,⟨.r,ch ?_,trivial⟩,by rfl⟩;simp[hE]
 ·intro i ab;repeat' ((conv=>whnf);first| (refine be ?_ ?_<;>intro h)|fail)
  all_goals(conv=>whnf)
  ·have ap:i<s.hist.length:=by simpa using h
   clear h;have aF:=al _ (List.getElem_mem ap);have nI:=CC aF;have fq:=xG (l:=s.hist.take i) (fun c h=>al c (List.mem_of_mem_take h));have uY: (s.hist.take i).length=i:=by simp;omega
   have m3:=TH s.hist[i] (by have:=aF.1;omega) aF.2;have gF: (hx s.first++(bn s.hist.length++hE (s.hist.take i))).map bo++(eT s.hist[i]).map bo=(hx s.first++(bn s.hist.length++hE (s.hist.take (i+1)))).map bo:=by
    have e:hE (s.hist.take (i+1))=hE (s.hist.take i)++eT s.hist[i]:=by
     unfold hE;rw[List.take_succ_eq_append_getElem ap,List.flatMap_append];simp
    rw[e,<-List.map_append];simp only[List.append_assoc]
   repeat' ((conv=>whnf);first|refine⟨_,_,And.intro ⟨rfl,cE ap⟩ ?_⟩|refine .inr ⟨[],[],_,[],_,_,m3,by rfl,trivial,⟨.r,trivial⟩,?_⟩|refine And.intro (oS (by simp<;>omega)) ?_|fail)
   all_goals(conv=>whnf)
   refine⟨i+1,ap,by simp only[];omega,?_⟩;conv=>whnf
   exact⟨⟨.r,.r,aV (bH (by omega)),trivial⟩,⟨.r,ch gF,trivial⟩,by rfl⟩
  ·have cw:i=s.hist.length:=by
    have:=of_decide_eq_false h;simp at this;omega
   subst cw;rw[List.take_length];repeat' ((conv=>whnf);first|exact .refl|refine .inl ⟨_,_,aD _,b5,?_⟩|fail)
def TJ:Nat->mx
 |0=>⟨0,0⟩
 |t+1=>l3 (TJ t) (decide (0<t))
def xI(S:List Int)(W:mx)(H:Int->Bool)(k:Nat):Edge:=⟨k,S.getD k 0,H (S.getD k 0),false,W⟩
def mF(v:aQ)(x:Int)(W:mx)(H:Int->Bool):h9:=⟨x,v,(List.range (ga v.mem x).length).map (xI (ga v.mem x) W H)⟩
theorem Gq{v:aQ}{x:Int}(ac:bX v=true)(ab:bR v.mem x=true):ix v x=(mF v x ⟨0,0⟩ (fun _=>false),0):=by
 rw[ix,ac,ab];rfl
theorem TK(v:aQ)(x:Int)(W:mx)(H:Int->Bool): (mF v x W H).bS.length=(ga v.mem x).length:=by simp[mF]
theorem TL{v:aQ}{x:Int}(ac:bX v=true)(ab:bR v.mem x=true){W:mx}(dT:mX W=true)(H:Int->Bool):mY (mF v x W H)=true:=by
 unfold mY;show (bif !decide ((ix v x).2=0)|| !decide (((mF v x W H).bS.length:Int)=((ix v x).1.bS.length:Int))then false else gA (tM (mF v x W H).bS (ix v x).1.bS) (mF v x W H).bS.length)=true;rw[Gq ac ab];simp only[TK,decide_true,Bool.not_true,Bool.or_self,cond_false];refine gB.2 (fun k hk=> ?_);have ax:∀W H,(mF v x W H).bS.getD k sw=xI (ga v.mem x) W H k:=fun W H=>by
  rw[List.getD_eq_getElem?_getD,List.getElem?_eq_getElem (by rw[TK];exact hk),Option.getD_some];simp[mF]
 unfold tM;rw[ax,ax];simp[xI,dT]
theorem af6{v:aQ}{x:Int}(ac:bX v=true)(ab:bR v.mem x=true){W:mx}(dT:mX W=true){H:Int->Bool}(b:Bool)(hH:∀s∈ga v.mem x,H s=b)(aI:vg (l3 W b)=false):
  cJ (mF v x W H)=(mF v x (l3 W b) (fun _=>false),[]):=by
 have hk:∀k∈List.range (ga v.mem x).length,H ((ga v.mem x).getD k 0)=b:=by
  intro k hk;have hk:=List.mem_range.1 hk;rw[show (ga v.mem x).getD k 0=(ga v.mem x)[k] by simp[hk]];exact hH _ (List.getElem_mem hk)
 unfold cJ;rw[TL ac ab dT,Bool.not_true,cond_false];refine Prod.ext ?_ ?_
 ·simp only[mF,List.map_map,h9.mk.injEq,true_and];refine List.map_congr_left fun k kJ=> ?_;show sx (xI (ga v.mem x) W H k)=xI (ga v.mem x) (l3 W b) (fun _=>false) k;unfold sx xI;simp only[];rw[hk k kJ,aI];rfl
 ·show sy (mF v x W H) (mF v x W H).bS.length=[];unfold sy;rw[List.take_length];have: (mF v x W H).bS.filter zf=[]:=by
   rw[List.filter_eq_nil_iff];intro e he;simp only[mF,List.mem_map]at he;obtain⟨k,kJ,rfl⟩:=he;have:=hk k kJ;unfold zf xI;simp only[];rw[this,aI]
   decide
  rw[this];rfl
theorem af7{ms:List Int}{x:Int}{r:Nat}(ac:c9 ms 16=true)(ao:r<5)(an:x∈ms)(ad:2<=ms.length):pE ms x r∈ms/\pE ms x r≠x:=by
 have hO:=QL (r:=(r:Nat)) ac (by omega) (by omega);have aF:=E8 (ms:=ms) (r:=(r:Nat)) ac (by omega) (by omega);have gZ: (k4 ms r).Nodup:=by
  rw[aF];exact(BG _ _).nodup_iff.2 (BH (n4.1 ac).2.1)
 have tt:x∈k4 ms r:=by rw[aF,y8];exact an
 have af: (k4 ms (r:Nat)).length=ms.length:=by rw[aF,JA]
 have bQ:∀y,y∈k4 ms r->y∈ms:=fun y bt=>by rw[aF,y8]at bt;exact bt
 unfold pE;generalize k4 ms r=O at hO gZ tt af bQ;obtain⟨j,ai,rfl⟩:=List.getElem_of_mem tt;rw[QM hO ai _ (Nat.le_refl _)];have gj: (if O.length=0\/j=0 then O.length-1 else min O.length j-1)<O.length:=by split<;>omega
 rw[List.getD_eq_getElem?_getD,List.getElem?_eq_getElem gj,Option.getD_some];refine⟨bQ _ (List.getElem_mem gj),fun h=> ?_⟩;have:=(List.getElem_inj gZ).1 h;split at this<;>omega
theorem af8{ms:List Int}{x:Int}(ac:c9 ms 16=true)(an:x∈ms):∀y∈dq ms x,y∈ms/\y≠x:=by
 intro y bt;unfold dq at bt;cases al: (!c9 ms 16|| !(decide (1<=x)&&decide (x<=1000))|| (decide ((ms.length:Int)=1)&&decide (ms.getD 0 0=x)))
 ·rw[al,cond_false,List.mem_map]at bt;obtain⟨r,ao,rfl⟩:=bt;have ao:=List.mem_range.1 ao;have ad:2<=ms.length:=by
   obtain⟨j,ai,rfl⟩:=List.getElem_of_mem an;by_cases h:2<=ms.length
   ·exact h
   ·exfalso;have Kb:j=0:=by omega
    subst Kb;have h1:ms.length=1:=by omega
    have ax:ms.getD 0 0=ms[0]:=by simp[ai]
    rw[ax,h1]at al;simp at al
  exact af7 ac ao an ad
 ·rw[al,cond_true]at bt;simp at bt
theorem CH{v:aQ}{x:Int}(ac:bX v=true)(ab:bR v.mem x=true): (jd v x).1= ⟨x,v,⟨0,-1,[]⟩,[],[],0,0,[],[],[],[],0⟩:=by
 unfold jd;rw[ac,ab];rfl
theorem TM{v:aQ}{x:Int}(ac:bX v=true)(ab:bR v.mem x=true):eS (jd v x).1=true:=by
 rw[CH ac ab];have ax:gO v []=true:=rfl;have ae:fD v []=true:=by
  unfold fD;rw[ac];rfl
 have au:qF v []=true:=by
  unfold qF fC;rw[ac];rfl
 have k8:tX ⟨x,v,⟨0,-1,[]⟩,[],[],0,0,[],[],[],[],0⟩=true:=by
  unfold tX;rfl
 have aZ:jC ⟨0,-1,[]⟩=true:=by kernel_rfl
 unfold eS;simp only[ac,ab,ax,ae,au,k8,aZ];rfl
theorem af9{v:aQ}{x:Int}(ac:bX v=true)(ab:bR v.mem x=true):Gm (jd v x).1:=by
 have bY:=TM ac ab;rw[CH ac ab]at *;have ae:fD v []=true:=by
  unfold fD;rw[ac];rfl
 have hw:iA v []=([],false):=by
  unfold iA;rw[ae];rfl
 refine⟨bY,rfl,rfl,rfl,rfl,rfl,?_⟩;unfold je;simp only[hw];rfl
theorem vJ(v:aQ):ka v v=true:=by
 unfold ka;rw[decide_eq_true rfl,Bool.true_and];unfold fK;rw[decide_eq_true rfl,Bool.true_and];exact gB.2 (fun i _=>decide_eq_true rfl)
theorem TN{v:aQ}(ac:bX v=true):dU v []=true:=by
 unfold dU;first
 |rw[ac]
  rfl
 |rfl
theorem TO{v:aQ}{x:Int}(ac:bX v=true)(ab:bR v.mem x=true):kv x=true:=by
 have:=Ge (lB ac).2.2 x (oR.1 ab);unfold kv;rw[decide_eq_true this.1,decide_eq_true this.2];rfl
structure zL(s:Mem):Prop where
 cr:s.status=1
 mG: (hD s.first s.hist).2=true
 cq:c3 s.first s.hist s.hist.length=s.view
 cont:s.cont=[]
 lC:bR s.view.mem s.self=true
 bk:mY s.bk=true
 aga:s.bk.self=s.self
 pM:s.bk.view=s.view
 agr:s.agr=(jd s.view s.self).1
 als:s.als=[]
 dbts:s.dbts=[]
 view:bX s.view=true
theorem LC{s:Mem}(h:zL s):mE s=true:=by
 have fj:=TO h.view h.lC;have LD:ka (c3 s.first s.hist s.hist.length) s.view=true:=by rw[h.cq];exact vJ _
 have aH:decide (s.status=0)=false:=by rw[h.cr];rfl
 have h1:decide (s.status=1)=true:=by rw[h.cr];rfl
 have al:decide (0<(s.cont.length:Int))=false:=by rw[h.cont];rfl
 have oj:xF s=true:=by
  unfold xF;rw[h.dbts];rfl
 have aZ:vH s=true:=by
  unfold vH;rw[h.lC,h.bk,h.aga,h.pM,h.agr,TM h.view h.lC,CH h.view h.lC,h.als,TN h.view,oj];simp only[vJ];simp
 unfold mE;rw[fj,aH,h.mG,al,LD,h1,aZ];rfl
theorem agb{s:Mem}(h:zL s)(ag:fe s):Lz s:=by
 refine⟨ag,h.als,h.dbts,?_,?_,?_,h.view⟩
 ·rw[h.agr,CH h.view h.lC]
 ·rw[h.agr,CH h.view h.lC]
 ·rw[h.agr];exact af9 h.view h.lC
theorem LF{s:Mem}{v:aQ}(ac:bX v=true)(ab:bR v.mem s.self=true)(al:s.cont=[])(vw: (hD s.first s.hist).2=true)(af:c3 s.first s.hist s.hist.length=v):zL (dO s v):=by
 rw[uc ab];rw[Gq ac ab];exact⟨rfl,vw,af,al,ab,TL ac ab (by kernel_rfl) _,rfl,rfl,rfl,rfl,rfl,ac⟩
theorem agc(s:Mem)(v:aQ)(ac:v.mem.length<=1000):b0 Tryz.prog 45 [.cells 55 (ne s .ar)] [.aP 0 0,.agg (bN v)] [true] [.cells 55 (ne (dO s v) .ar)] (.a1 []):=by
 have az:=o0 v (by omega);have aG:=hp v.mem (Nat.le_trans ac (by decide)) s.self;have a7:=ze v (Nat.le_trans ac (by decide)) s.self;have b5:=B0 v (by omega) s.self;by_cases cw:bR v.mem s.self=true
 ·rw[uc cw];generalize ix v s.self=N at *;generalize jd v s.self=Q at *;refine dw Tryz.func45 ?_;repeat' ((conv=>whnf);first|refine eC (by assumption) ?_|refine And.intro (by kernel_rfl) ?_|refine .inl ⟨_,_,aD _,az,?_⟩|refine .inl ⟨_,_,aD _,aG,?_⟩|refine .inl ⟨_,_,aD _,a7,?_⟩|refine .inl ⟨_,_,aD _,b5,?_⟩|fail)
  all_goals(conv=>whnf)
  exact⟨.r,⟨j9 ⟨.r,.r,.r,.r,.r,.r,.r,.r,.r,.r,.r,.r,.ar,.ar,.r,.r,.r,.r,.r,.r,.r,.r,.r,.r,.r,.r,.r,.r,.r,trivial⟩,.r,trivial⟩,by rfl⟩
 ·have cw:bR v.mem s.self=false:=by simpa using cw
  rw[zJ cw];refine dw Tryz.func45 ?_;repeat' ((conv=>whnf);first|refine dE (by assumption) ?_|refine And.intro (by kernel_rfl) ?_|refine .inl ⟨_,_,aD _,az,?_⟩|refine .inl ⟨_,_,aD _,aG,?_⟩|fail)
  all_goals(conv=>whnf)
  exact⟨.r,⟨j9 ⟨.r,.r,.r,.r,.r,.r,.r,.r,.r,.r,.ar,.ar,.ar,.ar,.r,.r,.ar,.r,.r,.ar,.ar,.ar,.r,.r,.ar,.ar,.ar,.ar,.r,trivial⟩,.r,trivial⟩,by rfl⟩
theorem agd(v:aQ)(ac:v.mem.length<=1000)(self:Int)(al: (!bX v|| !bR v.mem self)=false):bg Tryz.prog 20 [.agg (bN v),i64 self] (.a1 [.agg (ne (dO {cX with self:=self,first:=v} v) .ar),i64 0]):=by
 have az:=n3 v (Nat.le_trans ac (by decide));have aG:=hp v.mem (Nat.le_trans ac (by decide)) self;have a7:=o0 v (by omega);have m1:=agc {cX with self:=self,first:=v} v ac;generalize dO {cX with self:=self,first:=v} v=E at *;refine bw Tryz.func20 ?_;repeat' ((conv=>whnf);first|refine bc ?_|refine dE (by assumption) ?_|exact .refl|refine And.intro ⟨fun h=>h,fun h=>h⟩ ?_|refine .inl ⟨_,_,aD _,az,?_⟩|refine⟨_,_,aD _,fun _=>aG,?_⟩|refine .inl ⟨_,_,aD _,a7,?_⟩|refine .inr ⟨[2],_,_,_,_,_,m1,by rfl,⟨j9 ⟨.r,.r,.ar,.r,.r,.r,.r,.ar,.r,.r,.ar,.ar,.ar,.ar,.r,.r,.ar,.r,.r,.ar,.ar,.ar,.r,.r,.ar,.ar,.ar,.ar,.r,trivial⟩,trivial⟩,⟨.r,.r,trivial⟩,?_⟩|fail)
def kc:aQ:=⟨0,[1,2,3]⟩
def nJ:aQ:=⟨1,[1,2,9]⟩
def jf:List (List Int):=[[3,9]]
def o3:Mem:=dO {cX with self:=1,first:=kc} kc
def jg:Mem:={cX with self:=9,cont:=[1]}
def rI:Mem:=kb o3 kc jf 1
def sN:Mem:=dO {jg with first:=kc,hist:=jf,cont:=[]} nJ
def LG:Mem:={cX with self:=2,first:=kc,hist:=jf}
theorem TP: (hD kc jf).2=true:=by kernel_rfl
theorem TQ:c3 kc jf 1=nJ:=by kernel_rfl
theorem LH:∀c∈jf,kx c:=by
 intro c al;have:c=[3,9]:=by simpa[jf]using al
 subst this;exact⟨by simp,fun v ac=>by
  have:v=3\/v=9:=by simpa using ac
  rcases this with rfl|rfl<;>omega⟩
theorem LI:zL o3:=LF (by kernel_rfl) (by kernel_rfl) rfl (by kernel_rfl) rfl
theorem age:fe o3:=Gp (by simp[kc]) (by simp[cX]) (by simp[kc]) (by simp[cX]) (by simp[cX])
theorem LJ:rI=dO {o3 with hist:=jf} nJ:=by
 show dO {({o3 with hist:=[]}:Mem)with hist:=jf.take 1} (c3 kc jf 1)=_;rw[TQ];rfl
theorem LK:zL rI:=by
 rw[LJ];exact LF (by kernel_rfl) (by kernel_rfl) (by kernel_rfl) (by kernel_rfl) (by kernel_rfl)
theorem agf:fe rI:=by
 rw[LJ];refine Gp (by simp[nJ]) ?_ ?_ (by simp[jf]) (by simp[jf])
 ·show o3.cont.length<=1000;rw[show o3.cont=[] from by kernel_rfl];simp
 ·show o3.first.mem.length<=1000
  rw[show o3.first=kc from by kernel_rfl];simp[kc]
theorem Gr:zL sN:=LF (by kernel_rfl) (by kernel_rfl) rfl (by kernel_rfl) (by kernel_rfl)
theorem agh:fe sN:=Gp (by simp[nJ]) (by simp) (by simp[kc]) (by simp[jf]) (by simp[jf])
theorem agi:mE jg=true:=by kernel_rfl
theorem agj:fe jg:=⟨by simp[jg],by simp[jg,cX,jX],by simp[jg,cX],by simp[jg,cX],by simp[jg,cX,jX],by simp[jg,cX,my],by simp[jg,cX,my],by simp[jg,cX,my],by simp[jg,cX],by simp[jg,cX],⟨by simp[jg,cX,eR],by simp[jg,cX,eR],by simp[jg,cX,eR],by simp[jg,cX,eR],by simp[jg,cX,eR],by simp[jg,cX,eR],by simp[jg,cX,eR],by simp[jg,cX,eR],by simp[jg,cX,eR],by simp[jg,cX,eR],by simp[jg,cX,eR]⟩⟩
theorem agk:∃D,cJ sN.bk=(D,[]):=by
 have e:sN.bk=mF nJ 9 ⟨0,0⟩ (fun _=>false):=by
  unfold sN;rw[uc (by kernel_rfl)];simp only[];rw[Gq (by kernel_rfl) (by kernel_rfl)];rfl
 rw[e];exact⟨_,af6 (by kernel_rfl) (by kernel_rfl) (by kernel_rfl) false (fun _ _=>rfl) (by kernel_rfl)⟩
theorem agl:0<(iD (dq nJ.mem 9)).length:=by
 have h: (dq nJ.mem 9).length=5:=by
  unfold dq;have h1:c9 nJ.mem 16=true:=by kernel_rfl
  rw[h1];simp[nJ]
 have aT: (dq nJ.mem 9)[0]∈iD (dq nJ.mem 9):=Lk.2 (List.getElem_mem (by omega));exact List.length_pos_of_mem aT
theorem agm: (sL rI).length=2:=by
 unfold sL;rw[LC LK,LK.cr];have h:=ue (first:=rI.first) (aE:=rI.hist) LK.mG;simp only[Bool.not_true,Bool.false_or];rw[decide_eq_false (by omega),cond_false,h.2.2.2];simp only[sJ];have:rI.hist=jf:=TF o3 kc jf 1;rw[this];rfl
theorem agn:bg Tryz.prog 7 [] (.v (.bool true)):=by
 have az:=agd kc (by simp[kc]) 1 (by kernel_rfl);have aG:=Tx 9 [1] (by simp);rw[show xB 9 [1]=(jg,0) from by kernel_rfl]at aG;have a7:=af5 LG (by kernel_rfl) (by simp[LG,jf]) LH;have b5:=afL o3 age (by kernel_rfl) (LC LI) 2 (by kernel_rfl) (by rw[show o3.self=1 from by kernel_rfl];decide) kc jf TP LH LI.cr (by kernel_rfl) (by simp[jf]) (fun i ab=>by
  have:i=0:=by simp[jf]at ab;exact ab
  subst this;exact LI.cr)
 have du:=afM jg agj agi 2 (by kernel_rfl) (by decide) kc jf TP LH rfl (by kernel_rfl);obtain⟨D,qn⟩:=agk;have iU:=afz sN (agb Gr agh) Gr.cr (LC Gr) D qn;have kw:=TA rI agf;have aF:=agl;have ac:=agm;change bg _ _ _ (.a1 [.agg (bU rI),_,_])at b5;have ago:dO {jg with first:=kc,hist:=jf,cont:=[]} (c3 kc jf jf.length)=sN:=by
  show dO _ (c3 kc jf 1)=_;rw[TQ];rfl
 rw[ago]at du;have agp:rI.view=nJ:=by rw[LJ];exact(vI _ _).2.2.2.1
 have agq:sN.view=nJ:=(vI _ _).2.2.2.1;have ags:sN.self=9:=by kernel_rfl
 have hR:=Gr.cr;rw[agq,ags]at iU;change bg _ _ _ (.a1 [.agg (ne o3 .ar),_])at az;change bg _ _ _ (.aq 1 ((o2 kc jf).map bo) false)at a7;generalize o3=Gs at *;generalize rI=agt at *;generalize sN=akE at *;generalize iD (dq nJ.mem 9)=O at *;generalize sL agt=akF at *;generalize o2 kc jf=W at *;refine bw Tryz.func7 ?_;repeat' ((conv=>whnf);first|refine bc ?_|refine .inl ?_<;> (conv=>whnf)<;>refine⟨[.agg (bN kc),i64 1],_,⟨.r,.r,trivial⟩,az,?_⟩|refine .inl ⟨_,_,aD _,aG,?_⟩|refine .inl ?_<;> (conv=>whnf)<;>refine⟨[.agg (bU LG)],_,⟨gM ⟨.r,.r,.ar,.r,.r,.r,.r,.ar,.r,.r,.ar,.ar,.ar,.ar,.r,.r,.ar,.r,.r,.ar,.ar,.ar,.r,.r,.ar,.ar,.ar,.ar,.r,trivial⟩,trivial⟩,a7,?_⟩|refine .inl ⟨_,_,aD _,b5,?_⟩|refine .inl ⟨_,_,aD _,du,?_⟩|refine .inl ⟨_,_,aD _,iU,?_⟩|refine⟨_,_,aD _,fun _=>kw,?_⟩|fail)
 all_goals(conv=>whnf)
 refine eK ?_;have nz:decide (0<((O.length:Nat):Int))=true:=decide_eq_true (by omega);simp only[List.length_map,agp,hR,ac,nz];simp[nJ]
structure uf where
 src:Int
 dst:Int
 frame:List Nat
def gD(f:uf):List aj:=[i64 f.src,i64 f.dst,.aq 1 (f.frame.map bo) false]
def eG(b:Bool):List aj:=[.v (.bool b)]
def iE(a b c:Nat):List aj:=[.own a,.own b,.own c]
theorem TR{n:Nat}(h:n<=2000000):iJ ah 55 n:=by
 have e: (ay ah 55).bytes=488:=by kernel_rfl
 refine⟨?_,?_⟩
 ·rw[e];omega
 ·simp only[maxLen];omega
theorem TS{n:Nat}(h:n<=2000000):iJ ah 4 n:=by
 have e: (ay ah 4).bytes=1:=by kernel_rfl
 refine⟨?_,?_⟩
 ·rw[e];omega
 ·simp only[maxLen];omega
theorem agu(Ms:List Mem)(af:Ms.length<=1000)(ba:List Bool)(fL:List uf)(x:Int)(k:Nat)(hk:k<Ms.length)(an:Ms[k].self=x)(bx:∀j (ai:j<k),Ms[j].self≠x):
  b0 Tryz.prog 28 [.cells 32 (iE 1 2 3),.row 55 29 (Ms.map bU),.row 4 1 (ba.map eG),.row 82 3 (fL.map gD)] [.aP 0 0,i64 x] [true,true,true,true] [.cells 32 (iE 1 2 3),.row 55 29 (Ms.map bU),.row 4 1 (ba.map eG),.row 82 3 (fL.map gD)] (i64 k):=by
 refine dw Tryz.func28 ?_;repeat' ((conv=>whnf);first|refine bc ?_|fail)
 all_goals(conv=>whnf)
 refine⟨Nat,fun i=>⟨[(0,.aP 0 0),(1,i64 x),(5,i64 i)],[.cells 32 (iE 1 2 3),.row 55 29 (Ms.map bU),.row 4 1 (ba.map eG),.row 82 3 (fL.map gD),.b6 [.aP 0 0,.own 1,.own 2,.own 3]]⟩,fun i=>i<=k,fun i=>k-i,[],⟨0,Nat.zero_le _,?_⟩,?_⟩
 ·conv=>whnf
  exact⟨⟨.r,.r,.r,trivial⟩,⟨.r,.r,.r,.r,.r,trivial⟩,by rfl⟩
 ·intro i ab;have dG:i<Ms.length:=Nat.lt_of_le_of_lt ab hk;have eY:i<(Ms.map bU).length:=by rw[List.length_map];exact dG
  have b7: (Ms.map bU)[i]?=some (bU Ms[i]):=cE dG;repeat' ((conv=>whnf);first| (refine be ?_ ?_<;>intro h)|refine⟨i,And.intro ⟨rfl,eY⟩ ?_⟩|refine⟨bU Ms[i],And.intro b7 ?_⟩|fail)
  all_goals(conv=>whnf)
  ·have q9:i=k:=by
    rcases Nat.lt_or_ge i k with hn|hn
    ·exact absurd (of_decide_eq_true h) (bx i hn)
    ·exact Nat.le_antisymm ab hn
   subst q9;exact⟨.r,⟨.r,.r,.r,.r,.r,trivial⟩,by rfl⟩
  ·have q9:i<k:=by
    rcases Nat.lt_or_ge i k with hn|hn
    ·exact hn
    ·have:i=k:=Nat.le_antisymm ab hn;subst this;exact absurd an (of_decide_eq_false h)
   refine⟨i+1,q9,by simp only[];omega,?_⟩;conv=>whnf
   exact⟨⟨.r,.r,aV (bH (by omega)),trivial⟩,⟨.r,.r,.r,.r,.r,trivial⟩,by rfl⟩
  ·exfalso;have:=of_decide_eq_false h;rw[List.length_map]at this;omega
theorem CI{a b c d:aj}:fF (.b6 [a,b,c,d]) (.b6 [a,b,c,.aW]):=.b6 rfl fun i x y an bt=>by
 rcases i with _|_|_|_|i
 ·simp at an bt;subst an bt;exact .refl
 ·simp at an bt;subst an bt;exact .refl
 ·simp at an bt;subst an bt;exact .refl
 ·simp at an bt;subst an bt;exact .aW
 ·simp at an
def LL(s:Int)(p:dj):uf:=⟨s,p.cZ,p.frame⟩
def o4:Int->Int->Bool:=fun _ _=>false
def o5(v:aQ)(t:Nat)(H:Int->Int->Bool)(x:Int):Mem:=⟨x,1,[],v,[],v,mF v x (TJ t) (H x),[],[],(jd v x).1⟩
theorem TT{v:aQ}{x:Int}(ac:bX v=true)(ab:bR v.mem x=true):xA v x=(o5 v 0 o4 x,0):=by
 rw[Ls (by rw[ac,ab];rfl),uc (by exact ab)];simp only[];rw[Gq ac ab];rfl
theorem agv(v:aQ)(ac:bX v=true):b0 Tryz.prog 9 [] [.agg (bN v)] [] [.row 55 29 ((v.mem.map (o5 v 0 o4)).map bU),.row 4 1 ((List.replicate v.mem.length false).map eG)] (.agg [.own 0,.own 1,.ar]):=by
 have af:=(kM ac).2;refine hd Tryz.func9 ?_;repeat' ((conv=>whnf);first|refine bc ?_|fail)
 all_goals(conv=>whnf)
 refine⟨Nat,fun i=>⟨[(1,.aP 0 0),(2,.aP 1 0),(3,.aP 2 0),(4,i64 i)],[.cells 24 (bN v),.cells 32 [.ar,.ar,.ar],.cells 32 [.own 3,.own 4,.ar],.row 55 29 (((v.mem.take i).map (o5 v 0 o4)).map bU),.row 4 1 ((List.replicate i false).map eG)]⟩,fun i=>i<=v.mem.length,fun i=>v.mem.length-i,[.cell 2 0 55 29,.cell 2 1 4 1],⟨0,Nat.zero_le _,?_⟩,?_⟩
 ·conv=>whnf
  exact⟨⟨.r,.r,.r,.r,trivial⟩,⟨.r,.r,.r,.r,.r,trivial⟩,by rfl⟩
 ·intro i ab;repeat' ((conv=>whnf);first| (refine be ?_ ?_<;>intro h)|fail)
  all_goals(conv=>whnf)
  ·have ap:i<v.mem.length:=by simpa using h
   clear h;have cw:bR v.mem v.mem[i]=true:=oR.2 (List.getElem_mem ap);have az:=afe v (by omega) v.mem[i];rw[TT ac cw]at az;have tS: (v.mem.map aM)[i]?=some (aM v.mem[i]):=cE ap;have dR: ((v.mem.take i).map (o5 v 0 o4)).map bU++ [bU (o5 v 0 o4 v.mem[i])]=((v.mem.take (i+1)).map (o5 v 0 o4)).map bU:=by
    rw[List.take_succ_eq_append_getElem ap,List.map_append,List.map_append];rfl
   have agw: (List.replicate i false).map eG++ [eG false]=(List.replicate (i+1) false).map eG:=by
    rw[List.replicate_succ',List.map_append];rfl
   generalize o5 v 0 o4 v.mem[i]=m0 at az dR;repeat' ((conv=>whnf);first|refine And.intro (by kernel_rfl) ?_|refine⟨i,aM v.mem[i],And.intro ⟨rfl,tS⟩ ?_⟩|refine .inl ⟨_,_,aD _,az,?_⟩|refine And.intro (TR (by simp<;>omega)) ?_|refine And.intro (TS (by simp<;>omega)) ?_|fail)
   all_goals(conv=>whnf)
   refine⟨i+1,ap,by simp only[];omega,?_⟩;conv=>whnf
   exact⟨⟨.r,.r,.r,aV (bH (by omega)),trivial⟩,⟨.r,.r,.r,ch dR,ch agw,trivial⟩,by rfl⟩
  ·have cw:i=v.mem.length:=by
    have:=of_decide_eq_false h;simp at this;omega
   subst cw;rw[List.take_length];refine⟨[.dQ 0 3,.dQ 1 4],?_⟩;conv=>whnf
   exact⟨.r,⟨.r,.r,trivial⟩,by rfl⟩
def jh(U:List Int)(d:gG):Bool:=bR U d.cj
theorem TU(U:List Int)(sM:U.length<=maxLen)(d:gG):bg Tryz.prog 157 [.agg (db d),.cD [.aq 1 (U.map aM) false]] (.v (.bool (!jh U d))):=by
 have az:=QF U sM d.cj;unfold jh;refine bw Tryz.func157 ?_;repeat' ((conv=>whnf);first|exact .refl|refine .inl ⟨_,_,aD _,az,?_⟩|fail)
def CJ(U:List Int)(l:List gG):Int:=jv (fun i=> !jh U (l.getD i gr)) l.length
theorem agx(U:List Int)(sM:U.length<=maxLen)(l:List gG)(af:l.length<=100000):bg Tryz.prog 200 [.aq 2 (l.map db) false,.fn (.func 157) [.cD [.aq 1 (U.map aM) false]]] (i64 (CJ U l)):=by
 have h4:=fun d=>TU U sM d;unfold CJ;obtain⟨p,au⟩:∃p:Nat->Bool,∀i,p i= !jh U (l.getD i gr):=⟨_,fun _=>rfl⟩
 have LM: (fun i=> !jh U (l.getD i gr))=p:=by funext i;exact(au i).symm
 rw[LM];refine bw Tryz.func200 ?_;repeat' ((conv=>whnf);first|refine bc ?_|fail)
 all_goals(conv=>whnf)
 refine⟨Nat,fun i=>⟨[(0,.aq 2 (l.map db) false),(1,.fn (.func 157) [.cD [.aq 1 (U.map aM) false]]),(7,i64 l.length),(8,i64 i)],[]⟩,fun i=>i<=l.length/\∀j,j<i->p j=false,fun i=>l.length-i,[],⟨0,⟨Nat.zero_le _,by omega⟩,?_⟩,?_⟩
 ·conv=>whnf
  exact⟨⟨.r,.r,aV (by simp),.r,trivial⟩,trivial,by rfl⟩
 ·intro i ⟨ab,bQ⟩;repeat' ((conv=>whnf);first| (refine be ?_ ?_<;>intro h)|fail)
  ·have ap:i<l.length:=by simpa using h
   clear h;have CK:=au i;rw[show l.getD i gr=l[i] by simp[ap]]at CK;have az:=h4 l[i];rw[<-CK]at az;repeat' ((conv=>whnf);first| (refine be ?_ ?_<;>intro h)|refine⟨_,_,And.intro ⟨rfl,cE ap⟩ ?_⟩|refine .inl ⟨_,_,aD _,az,?_⟩|fail)
   all_goals(conv=>whnf)
   ·refine aV ?_;rw[sq ap h bQ]
   ·refine⟨i+1,⟨ap,fun j ai=> ?_⟩,by simp only[];omega,?_⟩
    ·by_cases hf:j=i
     ·subst hf;exact h
     ·exact bQ j (by omega)
    ·conv=>whnf
     exact⟨⟨.r,.r,.r,aV (bH (by omega)),trivial⟩,trivial,by rfl⟩
  ·have:i=l.length:=by
    simp at h;omega
   subst this;rw[qo (fun j ai=>bQ j ai)];repeat' ((conv=>whnf);first|exact .refl|fail)
theorem agy(U:List Int)(l:List gG): (CJ U l= -1/\∀d∈l,jh U d=true)\/∃i:Nat,∃ab:i<l.length,CJ U l=i/\jh U l[i]=false/\∀j (ai:j<i),jh U (l[j]'(by omega))=true:=by
 unfold CJ;by_cases h:∃i,i<l.length/\jh U (l.getD i gr)=false
 ·obtain⟨i,ab,h1⟩:=h;have hex:∃k,k<l.length/\(!jh U (l.getD k gr))=true/\∀j,j<k->(!jh U (l.getD j gr))=false:=by
   have hw:∃i,i<l.length/\jh U (l.getD i gr)=false:=⟨i,ab,h1⟩
   clear ab h1;have:∀n,(∃i,i<n/\jh U (l.getD i gr)=false)->∃k,k<n/\(!jh U (l.getD k gr))=true/\∀j,j<k->(!jh U (l.getD j gr))=false:=by
    intro n;induction n with
    |zero=>rintro⟨i,ab,_⟩;omega
    |succ n aN=>
     rintro⟨i,ab,h1⟩;by_cases an:∃i,i<n/\jh U (l.getD i gr)=false
     ·obtain⟨k,cx,cM,gl⟩:=aN an;exact⟨k,by omega,cM,gl⟩
     ·have cw:i=n:=by
       by_cases e:i<n
       ·exact absurd ⟨i,e,h1⟩ an
       ·omega
      subst cw;refine⟨i,by omega,by rw[h1];rfl,fun j ai=> ?_⟩;cases bF:jh U (l.getD j gr)
      ·exact absurd ⟨j,ai,bF⟩ an
      ·rfl
   exact this _ hw
  obtain⟨k,cx,cM,gl⟩:=hex;refine .inr ⟨k,cx,sq cx cM gl,?_,fun j ai=> ?_⟩
  ·rw[show l.getD k gr=l[k] by simp[cx]]at cM;simpa using cM
  ·have:=gl j ai;rw[show l.getD j gr=l[j] by simp[show j<l.length by omega]]at this;simpa using this
 ·refine .inl ⟨qo (fun j ai=> ?_),fun d aa=> ?_⟩
  ·cases bF:jh U (l.getD j gr)
   ·exact absurd ⟨j,ai,bF⟩ h
   ·rfl
  ·obtain⟨i,ab,rfl⟩:=List.getElem_of_mem aa;cases bF:jh U l[i]
   ·exact absurd ⟨i,ab,by rw[show l.getD i gr=l[i] by simp[ab]];exact bF⟩ h
   ·rfl
theorem agz(U:List Int)(sM:U.length<=maxLen)(l:List gG)(af:l.length<=100000):b0 Tryz.prog 156 [.row 150 2 (l.map db)] [.own 0,.fn (.func 157) [.cD [.aq 1 (U.map aM) false]]] [false] [.row 150 2 ((l.filter (jh U)).map db)] (.own 0):=by
 have az:=agx U sM l af;have h4:=fun d=>TU U sM d;rcases agy U l with⟨ab,bQ⟩| ⟨i0,lp,ab,k3,CL⟩
 ·rw[ab]at az;have aI:l.filter (jh U)=l:=List.filter_eq_self.2 bQ;rw[aI];refine dw Tryz.func156 ?_;repeat' ((conv=>whnf);first|refine .inl ?_<;> (conv=>whnf)<;>refine⟨[.aq 2 (l.map db) false,_],_,⟨.r,.r,trivial⟩,az,?_⟩|fail)
  all_goals(conv=>whnf)
  all_goals exact⟨.r,⟨.r,oT,trivial⟩,by rfl⟩
 ·rw[ab]at az;have bx:decide ((i0:Int)= -1)=false:=decide_eq_false (by omega);generalize jh U=p at *;refine dw Tryz.func156 ?_;repeat' ((conv=>whnf);first|refine .inl ?_<;> (conv=>whnf)<;>refine⟨[.aq 2 (l.map db) false,_],_,⟨.r,.r,trivial⟩,az,?_⟩|fail)
  all_goals(conv=>whnf)
  refine⟨Nat×List gG,fun s=>⟨[(0,.own 0),(1,.fn (.func 157) [.cD [.aq 1 (U.map aM) false]]),(5,i64 (((l.take s.1).filter p).length:Nat)),(6,i64 s.1)],[.row 150 2 (s.2.map db),.b6 [.aW]]⟩,fun s=>s.1<=l.length/\s.2.length=l.length/\s.2.take ((l.take s.1).filter p).length=(l.take s.1).filter p/\s.2.drop s.1=l.drop s.1/\((l.take s.1).filter p).length<s.1,fun s=>l.length-s.1,[],⟨(i0+1,l),?_,?_⟩,?_⟩
  ·have bM: (l.take (i0+1)).filter p=l.take i0:=by
    rw[List.take_succ_eq_append_getElem lp,List.filter_append,List.filter_cons,k3];simp only[Bool.false_eq_true,if_false,List.filter_nil,List.append_nil];refine List.filter_eq_self.2 fun x an=> ?_;obtain⟨j,ai,rfl⟩:=List.getElem_of_mem an;rw[List.length_take]at ai;rw[List.getElem_take];exact CL j (by omega)
   simp only[bM,List.length_take];refine⟨lp,trivial,?_,trivial,by omega⟩;rw[Nat.min_eq_left (by omega)]
  ·have bM: ((l.take (i0+1)).filter p).length=i0:=by
    rw[List.take_succ_eq_append_getElem lp,List.filter_append,List.filter_cons,k3];simp only[Bool.false_eq_true,if_false,List.filter_nil,List.append_nil];rw[List.filter_eq_self.2 fun x an=> ?_]
    ·simp;omega
    ·obtain⟨j,ai,rfl⟩:=List.getElem_of_mem an;rw[List.length_take]at ai;rw[List.getElem_take];exact CL j (by omega)
   conv=>whnf
   exact⟨⟨.r,.r,aV (by simp only[bM]),aV (bH (by omega)),trivial⟩,⟨.r,oT,trivial⟩,by rfl⟩
  ·rintro⟨j,R⟩ ⟨h1,ad,aC,bh,bL⟩;simp only[]at h1 ad aC bh bL;repeat' ((conv=>whnf);first| (refine be ?_ ?_<;>intro h)|fail)
   ·have ap:j<l.length:=by
     have:=of_decide_eq_true h;rw[List.length_map]at this;simp only[ad]at this;omega
    clear h;have LN:R[j]?=some l[j]:=by
     have:=congrArg (fun x:List gG=>x[0]?) bh;simp only[List.getElem?_drop,Nat.add_zero]at this;rw[this,List.getElem?_eq_getElem ap]
    have eY:j<(R.map db).length:=by rw[List.length_map];omega
    have b7: (R.map db)[j]?=some (db l[j]):=by rw[List.getElem?_map,LN];rfl
    have dA: (l.take (j+1)).filter p=(l.take j).filter p++ [l[j]].filter p:=by rw[List.take_succ_eq_append_getElem ap,List.filter_append]
    have aG:=h4 l[j];generalize(l.take j).filter p=Fj at *;have al:Fj.length<R.length:=by omega
    have gh:Fj.length<(R.map db).length:=by rw[List.length_map];exact al
    have u4: (R.map db)[Fj.length]?=some (db R[Fj.length]):=cE al;have jT: (R.map db).set Fj.length (db l[j])=(R.set Fj.length l[j]).map db:=by rw[List.map_set]
    repeat' ((conv=>whnf);first| (refine be ?_ ?_<;>intro h)|refine⟨j,And.intro ⟨rfl,eY⟩ ?_⟩|refine⟨db l[j],And.intro b7 ?_⟩|refine .inl ⟨_,_,aD _,aG,?_⟩|refine⟨Fj.length,And.intro ⟨rfl,gh⟩ ?_⟩|refine⟨db R[Fj.length],u4,?_⟩|fail)
    all_goals(conv=>whnf)
    ·have au:p l[j]=true:=by simpa using h
     have pP: (l.take (j+1)).filter p=Fj++ [l[j]]:=by rw[dA,List.filter_cons,au];rfl
     have fU: ((l.take (j+1)).filter p).length=Fj.length+1:=by rw[pP];simp
     refine⟨(j+1,R.set Fj.length l[j]),⟨ap,by simp[ad],?_,?_,?_⟩,by simp only[];omega,?_⟩
     ·simp only[];rw[fU,pP,List.take_succ_eq_append_getElem (by simp;omega),List.getElem_set_self,List.take_set_of_le (Nat.le_refl _),aC]
     ·simp only[];rw[List.drop_set_of_lt (by omega),<-List.drop_drop (i:=1),bh,List.drop_drop]
     ·simp only[];omega
     ·conv=>whnf
      exact⟨⟨.r,.r,aV (by rw[bH (by omega)];simp only[fU]),aV (bH (by omega)),trivial⟩,⟨ch jT,.r,trivial⟩,by rfl⟩
    ·have au:p l[j]=false:=by simpa using h
     have pP: (l.take (j+1)).filter p=Fj:=by rw[dA,List.filter_cons,au];simp
     refine⟨(j+1,R),⟨ap,ad,?_,?_,?_⟩,by simp only[];omega,?_⟩
     ·simp only[];rw[pP,aC]
     ·simp only[];rw[<-List.drop_drop (i:=1),bh,List.drop_drop]
     ·simp only[];rw[pP];omega
     ·conv=>whnf
      exact⟨⟨.r,.r,aV (by simp only[pP]),aV (bH (by omega)),trivial⟩,⟨.r,.r,trivial⟩,by rfl⟩
   ·have fX:j=l.length:=by
     have:=of_decide_eq_false h;rw[List.length_map]at this;simp only[ad]at this;omega
    subst fX;clear h;rw[List.take_length]at aC bL;simp only[List.take_length];have hle: (l.filter p).length<=(R.map db).length:=by rw[List.length_map];omega
    repeat' ((conv=>whnf);first|refine⟨(l.filter p).length,And.intro ⟨⟨_,rfl⟩,hle⟩ ?_⟩|refine⟨(l.filter p).length,And.intro ⟨⟨_,rfl⟩,by simp<;>omega⟩ ?_⟩|fail)
    all_goals(conv=>whnf)
    refine⟨.r,⟨ch ?_,.r,trivial⟩,by rfl⟩;have ap: ((R.map db).take (l.filter p).length).length=(l.filter p).length:=by
     rw[List.length_take];omega
    rw[List.take_append_of_le_length (by omega),List.take_take,Nat.min_self,<-List.map_take,aC]
def vK(x:Int)(mem:List Int):List aj:=[i64 x,.aW,.aW,.aW,.aW,.aW,.aW,.aq 1 (mem.map aM) false]
def fN(x:Int)(m:Int):Bool:= !decide (m=x)
theorem TV(x:Int)(mem:List Int)(d:Int):bg Tryz.prog 175 [i64 d,.cD [.cD (vK x mem)]] (.v (.bool (!fN x d))):=by
 unfold fN;rw[Bool.not_not];refine bw Tryz.func175 ?_;repeat' ((conv=>whnf);first|exact .refl|fail)
def CM(x:Int)(l:List Int):Int:=jv (fun i=> !fN x (l.getD i 0)) l.length
theorem agA(x:Int)(mem:List Int)(l:List Int)(af:l.length<=100000):bg Tryz.prog 218 [.aq 1 (l.map aM) false,.fn (.func 175) [.cD [.cD (vK x mem)]]] (i64 (CM x l)):=by
 have h4:=fun d=>TV x mem d;unfold CM;obtain⟨p,au⟩:∃p:Nat->Bool,∀i,p i= !fN x (l.getD i 0):=⟨_,fun _=>rfl⟩
 have LM: (fun i=> !fN x (l.getD i 0))=p:=by funext i;exact(au i).symm
 rw[LM];refine bw Tryz.func218 ?_;repeat' ((conv=>whnf);first|refine bc ?_|fail)
 all_goals(conv=>whnf)
 refine⟨Nat,fun i=>⟨[(0,.aq 1 (l.map aM) false),(1,.fn (.func 175) [.cD [.cD (vK x mem)]]),(7,i64 l.length),(8,i64 i)],[]⟩,fun i=>i<=l.length/\∀j,j<i->p j=false,fun i=>l.length-i,[],⟨0,⟨Nat.zero_le _,by omega⟩,?_⟩,?_⟩
 ·conv=>whnf
  exact⟨⟨.r,.r,aV (by simp),.r,trivial⟩,trivial,by rfl⟩
 ·intro i ⟨ab,bQ⟩;repeat' ((conv=>whnf);first| (refine be ?_ ?_<;>intro h)|fail)
  ·have ap:i<l.length:=by simpa using h
   clear h;have CK:=au i;rw[show l.getD i 0=l[i] by simp[ap]]at CK;have az:=h4 l[i];rw[<-CK]at az;repeat' ((conv=>whnf);first| (refine be ?_ ?_<;>intro h)|refine⟨_,_,And.intro ⟨rfl,cE ap⟩ ?_⟩|refine .inl ⟨_,_,aD _,az,?_⟩|fail)
   all_goals(conv=>whnf)
   ·refine aV ?_;rw[sq ap h bQ]
   ·refine⟨i+1,⟨ap,fun j ai=> ?_⟩,by simp only[];omega,?_⟩
    ·by_cases hf:j=i
     ·subst hf;exact h
     ·exact bQ j (by omega)
    ·conv=>whnf
     exact⟨⟨.r,.r,.r,aV (bH (by omega)),trivial⟩,trivial,by rfl⟩
  ·have:i=l.length:=by
    simp at h;omega
   subst this;rw[qo (fun j ai=>bQ j ai)];repeat' ((conv=>whnf);first|exact .refl|fail)
theorem agB(x:Int)(l:List Int): (CM x l= -1/\∀d∈l,fN x d=true)\/∃i:Nat,∃ab:i<l.length,CM x l=i/\fN x l[i]=false/\∀j (ai:j<i),fN x (l[j]'(by omega))=true:=by
 unfold CM;by_cases h:∃i,i<l.length/\fN x (l.getD i 0)=false
 ·obtain⟨i,ab,h1⟩:=h;have hex:∃k,k<l.length/\(!fN x (l.getD k 0))=true/\∀j,j<k->(!fN x (l.getD j 0))=false:=by
   have hw:∃i,i<l.length/\fN x (l.getD i 0)=false:=⟨i,ab,h1⟩
   clear ab h1;have:∀n,(∃i,i<n/\fN x (l.getD i 0)=false)->∃k,k<n/\(!fN x (l.getD k 0))=true/\∀j,j<k->(!fN x (l.getD j 0))=false:=by
    intro n;induction n with
    |zero=>rintro⟨i,ab,_⟩;omega
    |succ n aN=>
     rintro⟨i,ab,h1⟩;by_cases an:∃i,i<n/\fN x (l.getD i 0)=false
     ·obtain⟨k,cx,cM,gl⟩:=aN an;exact⟨k,by omega,cM,gl⟩
     ·have cw:i=n:=by
       by_cases e:i<n
       ·exact absurd ⟨i,e,h1⟩ an
       ·omega
      subst cw;refine⟨i,by omega,by rw[h1];rfl,fun j ai=> ?_⟩;cases bF:fN x (l.getD j 0)
      ·exact absurd ⟨j,ai,bF⟩ an
      ·rfl
   exact this _ hw
  obtain⟨k,cx,cM,gl⟩:=hex;refine .inr ⟨k,cx,sq cx cM gl,?_,fun j ai=> ?_⟩
  ·rw[show l.getD k 0=l[k] by simp[cx]]at cM;simpa using cM
  ·have:=gl j ai;rw[show l.getD j 0=l[j] by simp[show j<l.length by omega]]at this;simpa using this
 ·refine .inl ⟨qo (fun j ai=> ?_),fun d aa=> ?_⟩
  ·cases bF:fN x (l.getD j 0)
   ·exact absurd ⟨j,ai,bF⟩ h
   ·rfl
  ·obtain⟨i,ab,rfl⟩:=List.getElem_of_mem aa;cases bF:fN x l[i]
   ·exact absurd ⟨i,ab,by rw[show l.getD i 0=l[i] by simp[ab]];exact bF⟩ h
   ·rfl
theorem agC(x:Int)(mem:List Int)(l:List Int)(af:l.length<=100000):b0 Tryz.prog 174 [.row 3 1 (l.map aM)] [.own 0,.fn (.func 175) [.cD [.cD (vK x mem)]]] [false] [.row 3 1 ((l.filter (fN x)).map aM)] (.own 0):=by
 have az:=agA x mem l af;have h4:=fun d=>TV x mem d;rcases agB x l with⟨ab,bQ⟩| ⟨i0,lp,ab,k3,CL⟩
 ·rw[ab]at az;have aI:l.filter (fN x)=l:=List.filter_eq_self.2 bQ;rw[aI];refine dw Tryz.func174 ?_;repeat' ((conv=>whnf);first|refine .inl ?_<;> (conv=>whnf)<;>refine⟨[.aq 1 (l.map aM) false,_],_,⟨.r,.r,trivial⟩,az,?_⟩|fail)
  all_goals(conv=>whnf)
  all_goals exact⟨.r,⟨.r,oT,trivial⟩,by rfl⟩
 ·rw[ab]at az;have bx:decide ((i0:Int)= -1)=false:=decide_eq_false (by omega);generalize fN x=p at *;refine dw Tryz.func174 ?_;repeat' ((conv=>whnf);first|refine .inl ?_<;> (conv=>whnf)<;>refine⟨[.aq 1 (l.map aM) false,_],_,⟨.r,.r,trivial⟩,az,?_⟩|fail)
  all_goals(conv=>whnf)
  refine⟨Nat×List Int,fun s=>⟨[(0,.own 0),(1,.fn (.func 175) [.cD [.cD (vK x mem)]]),(5,i64 (((l.take s.1).filter p).length:Nat)),(6,i64 s.1)],[.row 3 1 (s.2.map aM),.b6 [.aW]]⟩,fun s=>s.1<=l.length/\s.2.length=l.length/\s.2.take ((l.take s.1).filter p).length=(l.take s.1).filter p/\s.2.drop s.1=l.drop s.1/\((l.take s.1).filter p).length<s.1,fun s=>l.length-s.1,[],⟨(i0+1,l),?_,?_⟩,?_⟩
  ·have bM: (l.take (i0+1)).filter p=l.take i0:=by
    rw[List.take_succ_eq_append_getElem lp,List.filter_append,List.filter_cons,k3];simp only[Bool.false_eq_true,if_false,List.filter_nil,List.append_nil];refine List.filter_eq_self.2 fun x an=> ?_;obtain⟨j,ai,rfl⟩:=List.getElem_of_mem an;rw[List.length_take]at ai;rw[List.getElem_take];exact CL j (by omega)
   simp only[bM,List.length_take];refine⟨lp,trivial,?_,trivial,by omega⟩;rw[Nat.min_eq_left (by omega)]
  ·have bM: ((l.take (i0+1)).filter p).length=i0:=by
    rw[List.take_succ_eq_append_getElem lp,List.filter_append,List.filter_cons,k3];simp only[Bool.false_eq_true,if_false,List.filter_nil,List.append_nil];rw[List.filter_eq_self.2 fun x an=> ?_]
    ·simp;omega
    ·obtain⟨j,ai,rfl⟩:=List.getElem_of_mem an;rw[List.length_take]at ai;rw[List.getElem_take];exact CL j (by omega)
   conv=>whnf
   exact⟨⟨.r,.r,aV (by simp only[bM]),aV (bH (by omega)),trivial⟩,⟨.r,oT,trivial⟩,by rfl⟩
  ·rintro⟨j,R⟩ ⟨h1,ad,aC,bh,bL⟩;simp only[]at h1 ad aC bh bL;repeat' ((conv=>whnf);first| (refine be ?_ ?_<;>intro h)|fail)
   ·have ap:j<l.length:=by
     have:=of_decide_eq_true h;rw[List.length_map]at this;simp only[ad]at this;omega
    clear h;have LN:R[j]?=some l[j]:=by
     have:=congrArg (fun x:List Int=>x[0]?) bh;simp only[List.getElem?_drop,Nat.add_zero]at this;rw[this,List.getElem?_eq_getElem ap]
    have eY:j<(R.map aM).length:=by rw[List.length_map];omega
    have b7: (R.map aM)[j]?=some (aM l[j]):=by rw[List.getElem?_map,LN];rfl
    have dA: (l.take (j+1)).filter p=(l.take j).filter p++ [l[j]].filter p:=by rw[List.take_succ_eq_append_getElem ap,List.filter_append]
    have aG:=h4 l[j];generalize(l.take j).filter p=Fj at *;have al:Fj.length<R.length:=by omega
    have gh:Fj.length<(R.map aM).length:=by rw[List.length_map];exact al
    have u4: (R.map aM)[Fj.length]?=some (aM R[Fj.length]):=cE al;have jT: (R.map aM).set Fj.length (aM l[j])=(R.set Fj.length l[j]).map aM:=by rw[List.map_set]
    repeat' ((conv=>whnf);first| (refine be ?_ ?_<;>intro h)|refine⟨j,And.intro ⟨rfl,eY⟩ ?_⟩|refine⟨aM l[j],And.intro b7 ?_⟩|refine .inl ⟨_,_,aD _,aG,?_⟩|refine⟨Fj.length,And.intro ⟨rfl,gh⟩ ?_⟩|refine⟨aM R[Fj.length],u4,?_⟩|fail)
    all_goals(conv=>whnf)
    ·have au:p l[j]=true:=by simpa using h
     have pP: (l.take (j+1)).filter p=Fj++ [l[j]]:=by rw[dA,List.filter_cons,au];rfl
     have fU: ((l.take (j+1)).filter p).length=Fj.length+1:=by rw[pP];simp
     refine⟨(j+1,R.set Fj.length l[j]),⟨ap,by simp[ad],?_,?_,?_⟩,by simp only[];omega,?_⟩
     ·simp only[];rw[fU,pP,List.take_succ_eq_append_getElem (by simp;omega),List.getElem_set_self,List.take_set_of_le (Nat.le_refl _),aC]
     ·simp only[];rw[List.drop_set_of_lt (by omega),<-List.drop_drop (i:=1),bh,List.drop_drop]
     ·simp only[];omega
     ·conv=>whnf
      exact⟨⟨.r,.r,aV (by rw[bH (by omega)];simp only[fU]),aV (bH (by omega)),trivial⟩,⟨ch jT,.r,trivial⟩,by rfl⟩
    ·have au:p l[j]=false:=by simpa using h
     have pP: (l.take (j+1)).filter p=Fj:=by rw[dA,List.filter_cons,au];simp
     refine⟨(j+1,R),⟨ap,ad,?_,?_,?_⟩,by simp only[];omega,?_⟩
     ·simp only[];rw[pP,aC]
     ·simp only[];rw[<-List.drop_drop (i:=1),bh,List.drop_drop]
     ·simp only[];rw[pP];omega
     ·conv=>whnf
      exact⟨⟨.r,.r,aV (by simp only[pP]),aV (bH (by omega)),trivial⟩,⟨.r,.r,trivial⟩,by rfl⟩
   ·have fX:j=l.length:=by
     have:=of_decide_eq_false h;rw[List.length_map]at this;simp only[ad]at this;omega
    subst fX;clear h;rw[List.take_length]at aC bL;simp only[List.take_length];have hle: (l.filter p).length<=(R.map aM).length:=by rw[List.length_map];omega
    repeat' ((conv=>whnf);first|refine⟨(l.filter p).length,And.intro ⟨⟨_,rfl⟩,hle⟩ ?_⟩|refine⟨(l.filter p).length,And.intro ⟨⟨_,rfl⟩,by simp<;>omega⟩ ?_⟩|fail)
    all_goals(conv=>whnf)
    refine⟨.r,⟨ch ?_,.r,trivial⟩,by rfl⟩;have ap: ((R.map aM).take (l.filter p).length).length=(l.filter p).length:=by
     rw[List.length_take];omega
    rw[List.take_append_of_le_length (by omega),List.take_take,Nat.min_self,<-List.map_take,aC]
theorem agD(x:Int)(mem:List Int)(af:mem.length<=100000)(bx:mem≠ []):b0 Tryz.prog 104 [] [.cD (vK x mem)] [] [.row 3 1 ((mem.filter (fN x)).map aM)] (.own 0):=by
 have az:=QI mem (by omega) bx;have aG:=agC x mem mem af;refine hd Tryz.func104 ?_;repeat' ((conv=>whnf);first|refine .inr ⟨[],[],_,[],_,_,az,by rfl,trivial,⟨.r,trivial⟩,?_⟩|refine .inr ⟨[1],_,_,_,_,_,aG,by rfl,⟨.r,trivial⟩,⟨.r,.r,trivial⟩,?_⟩|fail)
 all_goals(conv=>whnf)
 refine⟨[.dQ 0 1],?_⟩;conv=>whnf
 exact⟨.r,⟨.r,trivial⟩,by rfl⟩
def nf(ms:List Int)(a x:Int):List Int:=bif !(decide (1<=a)&&decide (a<=1000))then []else tK (dq ms x) a (dq ms x).length
theorem agE(ms:List Int)(af:ms.length<=maxLen)(a x:Int):bg Tryz.prog 141 [.aq 1 (ms.map aM) false,i64 a,i64 x] (.aq 1 ((nf ms a x).map aM) false):=by
 have az:=JJ a;have aG:=Fc ms af x;have j6:=vf ms x;have aa:nf ms a x=bif !(decide (1<=a)&&decide (a<=1000))then []else tK (dq ms x) a (dq ms x).length:=rfl;generalize dq ms x=O at *;refine bw Tryz.func141 ?_;repeat' ((conv=>whnf);first| (refine be ?_ ?_<;>intro h)|refine .inl ⟨_,_,aD _,az,?_⟩|refine .inl ⟨_,_,aD _,aG,?_⟩|fail)
 all_goals(conv=>whnf)
 ·rw[aa,h];exact .ar
 ·rw[h,cond_false]at aa;rw[aa];clear h aa;refine⟨Nat,fun i=>⟨[(1,i64 a),(7,.own 0),(15,.aq 1 (O.map aM) false),(16,i64 O.length),(17,i64 i)],[.row 3 1 ((tK O a i).map aM)]⟩,fun i=>i<=O.length,fun i=>O.length-i,[.fS 7 3 1],⟨0,Nat.zero_le _,?_⟩,?_⟩
  ·conv=>whnf
   exact⟨⟨.r,.r,.r,aV (by simp),.r,trivial⟩,⟨.r,trivial⟩,by rfl⟩
  ·intro i ab;repeat' ((conv=>whnf);first| (refine be ?_ ?_<;>intro h)|fail)
   ·have ap:i<O.length:=by simpa using h
    clear h;have ag:=aa3 O a i;have rr:=QN O a i;have ax:O.getD i 0=O[i]:=by simp[ap]
    rw[ax]at ag;have oO: ((tK O a i).map aM).length+1<=2000000:=by
     rw[List.length_map];omega
    repeat' ((conv=>whnf);first| (refine be ?_ ?_<;>intro h)|refine⟨_,_,And.intro ⟨rfl,cE ap⟩ ?_⟩|refine And.intro (nC oO) ?_|fail)
    all_goals(conv=>whnf)
    all_goals refine⟨i+1,ap,by simp only[];omega,?_⟩
    all_goals(conv=>whnf)
    all_goals refine⟨⟨.r,.r,.r,.r,aV (bH (by omega)),trivial⟩,⟨ch ?_,trivial⟩,by rfl⟩
    ·rw[ag,h,cond_true,List.map_append];rfl
    ·rw[ag,h,cond_false,List.append_nil]
   ·have:i=O.length:=by
     simp at h;omega
    subst this;repeat' ((conv=>whnf);first|exact .refl|fail)
def gR(s:Mem)(ac CN B4:aj):List aj:=[i64 s.self,i64 s.status,.aq 1 (s.cont.map aM) false,i64 s.first.num,.aq 1 (s.first.mem.map aM) false,ac,i64 s.view.num,.aq 1 (s.view.mem.map aM) false,i64 s.bk.self,i64 s.bk.view.num,.aq 1 (s.bk.view.mem.map aM) false,.aq 6 (s.bk.bS.map iS) false,.aq 4 (s.als.map dr) false,CN,i64 s.agr.self,i64 s.agr.view.num,.aq 1 (s.agr.view.mem.map aM) false,i64 s.agr.aL.cc,i64 s.agr.aL.aB,.aq 1 (s.agr.aL.cut.map aM) false,.aq 1 (s.agr.prop.map aM) false,.aq 2 (s.agr.box.map dh) false,i64 s.agr.aB,i64 s.agr.phase,.aq 3 (s.agr.br.map bG) false,.aq 1 (s.agr.ct.map aM) false,.aq 3 (s.agr.aR.map bG) false,.aq 1 (s.agr.dec.map aM) false,i64 s.agr.dn,B4]
def agF(s:Mem)(ac CN:aj):List aj:=[i64 s.self,i64 s.status,.aq 1 (s.cont.map aM) false,i64 s.first.num,.aq 1 (s.first.mem.map aM) false,ac,i64 s.view.num,.aq 1 (s.view.mem.map aM) false,i64 s.bk.self,i64 s.bk.view.num,.aq 1 (s.bk.view.mem.map aM) false,.aq 6 (s.bk.bS.map iS) false,.aq 4 (s.als.map dr) false,CN,i64 s.agr.self,i64 s.agr.view.num,.aq 1 (s.agr.view.mem.map aM) false,i64 s.agr.aL.cc,i64 s.agr.aL.aB,.aq 1 (s.agr.aL.cut.map aM) false,.aq 1 (s.agr.prop.map aM) false,.aq 2 (s.agr.box.map dh) false,i64 s.agr.aB,i64 s.agr.phase,.aq 3 (s.agr.br.map bG) false,.aq 1 (s.agr.ct.map aM) false,.aq 3 (s.agr.aR.map bG) false,.aq 1 (s.agr.dec.map aM) false,i64 s.agr.dn]
theorem agG(l:List (List Int))(af:l.length<=1000000):b0 Tryz.prog 139 [] [.aq 1 (l.map cB) false] [] [.row 22 1 (l.map cB)] (.own 0):=by
 refine hd Tryz.func139 ?_;repeat' ((conv=>whnf);first|refine bc ?_|fail)
 refine And.intro (fun kn=> ?_) ?_
 ·repeat' ((conv=>whnf);first|refine bc ?_|fail)
  all_goals(conv=>whnf)
  rw[kn];refine⟨[.fS 2 22 1],?_⟩;conv=>whnf
  exact⟨.r,⟨.r,trivial⟩,by rfl⟩
 ·repeat' ((conv=>whnf);first|refine bc ?_|fail)
  all_goals(conv=>whnf)
  refine And.intro (xy (by simp;omega)) ?_;repeat' ((conv=>whnf);first|refine bc ?_|fail)
  all_goals(conv=>whnf)
  refine⟨[],?_⟩;conv=>whnf
  exact⟨.r,⟨.r,trivial⟩,by rfl⟩
theorem agH(l:List gG)(af:l.length<=1000000):b0 Tryz.prog 82 [] [.aq 2 (l.map db) false] [] [.row 150 2 (l.map db)] (.own 0):=by
 refine hd Tryz.func82 ?_;repeat' ((conv=>whnf);first|refine bc ?_|fail)
 refine And.intro (fun kn=> ?_) ?_
 ·repeat' ((conv=>whnf);first|refine bc ?_|fail)
  all_goals(conv=>whnf)
  rw[kn];refine⟨[.fS 2 150 2],?_⟩;conv=>whnf
  exact⟨.r,⟨.r,trivial⟩,by rfl⟩
 ·repeat' ((conv=>whnf);first|refine bc ?_|fail)
  all_goals(conv=>whnf)
  refine And.intro (Lp (by simp;omega)) ?_;repeat' ((conv=>whnf);first|refine bc ?_|fail)
  all_goals(conv=>whnf)
  refine⟨[],?_⟩;conv=>whnf
  exact⟨.r,⟨.r,trivial⟩,by rfl⟩
theorem TW(l:List (List Int))(af:l.length<=1000000)(al:∀c∈l,c.length<=1000000):b0 Tryz.prog 79 [] [.aq 1 (l.map cB) false] [] [.row 22 1 (l.map cB)] (.own 0):=by
 refine dw Tryz.func79 ?_;repeat' ((conv=>whnf);first|refine .inr ⟨[],[],_,[],_,_,agG l (by omega),by rfl,trivial,⟨.r,trivial⟩,?_⟩|fail)
 all_goals(conv=>whnf)
 refine⟨Nat,fun i=>⟨[(3,.own 0),(8,i64 l.length),(9,i64 i)],[.row 22 1 (l.map cB)]⟩,fun i=>i<=l.length,fun i=>l.length-i,[],⟨0,Nat.zero_le _,?_⟩,?_⟩
 ·conv=>whnf
  exact⟨⟨.r,aV (by simp),.r,trivial⟩,⟨.r,trivial⟩,by rfl⟩
 ·intro i ab;repeat' ((conv=>whnf);first| (refine be ?_ ?_<;>intro h)|fail)
  ·have ap:i<l.length:=by simpa using h
   clear h;have eY:i<(l.map cB).length:=by rw[List.length_map];exact ap
   have b7: (l.map cB)[i]?=some (cB l[i]):=by simp[ap]
   have jT:=Gh (f:=cB) ap;repeat' ((conv=>whnf);first|refine .inl ⟨_,_,aD _,mw _ (al _ (List.getElem_mem ap)),?_⟩|refine⟨i,And.intro ⟨rfl,eY⟩ ?_⟩|refine⟨cB l[i],And.intro b7 ?_⟩|fail)
   all_goals(conv=>whnf)
   refine⟨i+1,ap,by simp only[];omega,?_⟩;conv=>whnf
   refine⟨⟨.r,.r,aV (bH (by omega)),trivial⟩,⟨ch ?_,trivial⟩,by rfl⟩;exact jT
  ·repeat' ((conv=>whnf);first|refine bc ?_|fail)
   all_goals(conv=>whnf)
   exact⟨.r,⟨.r,trivial⟩,by rfl⟩
theorem zM(s:Mem)(ag:fe s):b0 Tryz.prog 52 [] [.agg (bU s)] [] [.row 22 1 (s.hist.map cB),.row 150 2 (s.dbts.map db)] (.agg (agF s (.own 0) (.own 1))):=by
 have cC:=ag.cont;have cH:=ag.first
 have j3:=ag.hist;have n5:∀c∈s.hist,c.length<=1000000:=fun c al=>by have:=ag.zI c al;omega
 have B5:=ag.view;have B6:=ag.pM;have B7:=ag.bS;have B8:=ag.als;have B9:=ag.dbts;have az:=TW s.hist (by omega) n5;have aG:=agH s.dbts (by omega);refine hd Tryz.func52 ?_;repeat' ((conv=>whnf);first|refine And.intro (by kernel_rfl) ?_|refine .inl ⟨_,_,aD _,mw _ (by omega),?_⟩|refine .inr ⟨[],[],_,[],_,_,az,by rfl,trivial,⟨.r,trivial⟩,?_⟩|refine .inl ⟨_,_,aD _,o0 _ (by omega),?_⟩|refine .inl ⟨_,_,aD _,Lq _ (by omega),?_⟩|refine .inl ⟨_,_,aD _,BN _ (by omega),?_⟩|refine .inr ⟨[],[],_,[],_,_,aG,by rfl,trivial,⟨.r,trivial⟩,?_⟩|refine .inl ⟨_,_,aD _,Lr _ ag.agr,?_⟩|fail)
 all_goals(conv=>whnf)
 refine⟨[.dQ 0 2,.dQ 1 8],?_⟩;conv=>whnf
 exact⟨.r,⟨.r,.r,trivial⟩,by rfl⟩
def eb(s:Mem)(aX:List dj):List aU:=[.cells 116 (gR s (.own 1) (.own 2) (.own 3)),.row 22 1 (s.hist.map cB),.row 150 2 (s.dbts.map db),.row 121 2 (aX.map eU)]
def TX(s:Mem):List aU:=[.cells 116 (gR s (.own 1) (.own 2) .ar),.row 22 1 (s.hist.map cB),.row 150 2 (s.dbts.map db)]
theorem LO(s:Mem){f:Go.FuncId}{args:List aj}{bC:List aU}{d:aj}{cC cH j3 n5:Bool}(h:b0 Tryz.prog f (eb s []) args [cC,cH,j3,n5] bC d):b0 Tryz.prog f (TX s) args [cC,cH,j3] bC d:=
 aac (T:=116) (e:=121) (cs:=gR s (.own 1) (.own 2) .ar) (off:=29) (av:=1) (R:=[.row 22 1 (s.hist.map cB),.row 150 2 (s.dbts.map db)]) (kept:=[cC,cH,j3,n5]) h rfl rfl 3
def lb(s:Mem)(a:ca):Mem:=bif decide ((l4 s.view s.als a).2.2=0)then {s with als:=(l4 s.view s.als a).1}else s
theorem LP(s:Mem)(ac:s.view.mem.length<=1000)(af:s.als.length<=100000)(aX:List dj)(a:ca):b0 Tryz.prog 94 (eb s aX) [.aP 0 0,.agg (dr a)] [true,true,true,true] (eb (lb s a) aX) (.a1 []):=by
 have az:=abr s.view (Nat.le_trans ac (by decide)) s.als (by omega) a;have aa:lb s a=bif decide ((l4 s.view s.als a).2.2=0)then {s with als:=(l4 s.view s.als a).1}else s:=rfl;rw[aa];generalize l4 s.view s.als a=X at *;clear aa;cases an:decide (X.2.2=0);all_goals refine dw Tryz.func94 ?_
 all_goals repeat' ((conv=>whnf);first|refine eC (by assumption) ?_|refine dE (by assumption) ?_|refine And.intro (by kernel_rfl) ?_|refine .inl ⟨_,_,aD _,az,?_⟩|fail)
 all_goals(conv=>whnf)
 all_goals exact⟨.r,⟨.r,.r,.r,.r,.r,trivial⟩,by rfl⟩
theorem Gt(s:Mem)(a:ca): (lb s a).view=s.view/\(lb s a).self=s.self/\(lb s a).hist=s.hist/\(lb s a).first=s.first/\(lb s a).status=s.status/\(lb s a).cont=s.cont/\(lb s a).bk=s.bk/\(lb s a).dbts=s.dbts/\(lb s a).agr=s.agr:=by
 unfold lb;cases decide ((l4 s.view s.als a).2.2=0)<;>exact⟨rfl,rfl,rfl,rfl,rfl,rfl,rfl,rfl,rfl⟩
theorem agI(l:List ca)(a:ca): (jA l a).1.length<=l.length+1:=by
 unfold jA;cases (decide (((oa l a:Nat):Int)<(l.length:Int))&& !gN a (l.getD (oa l a) eu))
 ·simp only[cond_false,List.length_append,List.length_take,List.length_drop,List.length_cons,List.length_nil];omega
 ·exact Nat.le_succ _
theorem agJ(v:aQ)(l:List ca)(a:ca): (l4 v l a).1.length<=l.length+1:=by
 have h:=agI l a;unfold l4;cases (!dU v l|| !k5 a)
 ·cases (!decide (a.view=v.num))
  ·cases (!jz v a)
   ·exact h
   ·exact Nat.zero_le _
  ·exact Nat.zero_le _
 ·exact Nat.zero_le _
theorem TY(s:Mem)(a:ca): (lb s a).als.length<=s.als.length+1:=by
 unfold lb;have:=agJ s.view s.als a;cases decide ((l4 s.view s.als a).2.2=0)
 ·exact Nat.le_succ _
 ·exact this
def jE(s:Mem)(x:Int):Nat->Mem
 |0=>s
 |i+1=>lb (jE s x i) ⟨s.view.num,(nf s.view.mem s.self x).getD i 0,s.self,x⟩
def hF(s:Mem)(x:Int):Mem:=jE s x (nf s.view.mem s.self x).length
theorem Gu(s:Mem)(x:Int):∀i,(jE s x i).view=s.view/\(jE s x i).self=s.self/\(jE s x i).hist=s.hist/\(jE s x i).dbts=s.dbts/\(jE s x i).als.length<=s.als.length+i
 |0=>⟨rfl,rfl,rfl,rfl,Nat.le_refl _⟩
 |i+1=>by
  have aN:=Gu s x i;have h:=Gt (jE s x i) ⟨s.view.num,(nf s.view.mem s.self x).getD i 0,s.self,x⟩;have af:=TY (jE s x i) ⟨s.view.num,(nf s.view.mem s.self x).getD i 0,s.self,x⟩;exact⟨h.1.trans aN.1,h.2.1.trans aN.2.1,h.2.2.1.trans aN.2.2.1,h.2.2.2.2.2.2.2.1.trans aN.2.2.2.1,by unfold jE;omega⟩
theorem TZ(ms:List Int)(a x:Int): (nf ms a x).length<=5:=by
 unfold nf;cases (!(decide (1<=a)&&decide (a<=1000)))
 ·exact Nat.le_trans (QN _ _ _) (vf _ _)
 ·simp
theorem T0(s:Mem)(ac:s.view.mem.length<=1000)(af:s.als.length<=90000)(aX:List dj)(x:Int):b0 Tryz.prog 84 (eb s aX) [.aP 0 0,i64 x] [true,true,true,true] (eb (hF s x) aX) (.a1 []):=by
 have az:=agE s.view.mem (Nat.le_trans ac (by decide)) s.self x;have rr:=TZ s.view.mem s.self x;have aa:hF s x=jE s x (nf s.view.mem s.self x).length:=rfl;have ag:∀i,jE s x (i+1)=lb (jE s x i) ⟨s.view.num,(nf s.view.mem s.self x).getD i 0,s.self,x⟩:=fun _=>rfl;have aH:jE s x 0=s:=rfl;have hk:=Gu s x;rw[aa];generalize nf s.view.mem s.self x=R at *;generalize jE s x=X at *;clear aa;subst aH;refine dw Tryz.func84 ?_;repeat' ((conv=>whnf);first|refine And.intro (by kernel_rfl) ?_|refine .inl ⟨_,_,aD _,az,?_⟩|fail)
 all_goals(conv=>whnf)
 refine⟨Nat,fun i=>⟨[(0,.aP 0 0),(1,i64 x),(18,.aq 1 (R.map aM) false),(19,i64 R.length),(20,i64 i)],[.cells 116 (gR (X i) (.own 1) (.own 2) (.own 3)),.row 22 1 ((X i).hist.map cB),.row 150 2 ((X i).dbts.map db),.row 121 2 (aX.map eU),.b6 [.aP 0 0,.own 1,.own 2,.own 3],.bd]⟩,fun i=>i<=R.length,fun i=>R.length-i,[],⟨0,Nat.zero_le _,?_⟩,?_⟩
 ·conv=>whnf
  exact⟨⟨.r,.r,.r,aV (by simp),.r,trivial⟩,⟨.r,.r,.r,.r,.r,.r,trivial⟩,by rfl⟩
 ·intro i ab;obtain⟨cx,cM,gl,kK,tB⟩:=hk i;repeat' ((conv=>whnf);first| (refine be ?_ ?_<;>intro h)|fail)
  ·have ap:i<R.length:=by simpa using h
   clear h;have aG:=LP (X i) (by rw[cx];exact ac) (by omega) aX ⟨(X i).view.num,R[i],(X i).self,x⟩;have ax:R.getD i 0=R[i]:=by simp[ap]
   have kY:=ag i;rw[ax,<-cx,<-cM]at kY;rw[<-kY]at aG;repeat' ((conv=>whnf);first|refine And.intro (by kernel_rfl) ?_|refine⟨_,_,And.intro ⟨rfl,cE ap⟩ ?_⟩|refine .inr ⟨[0,1,2,3],_,_,_,_,_,aG,by rfl,⟨.r,.r,.r,.r,trivial⟩,⟨.r,.r,trivial⟩,?_⟩|fail)
   all_goals(conv=>whnf)
   refine⟨i+1,ap,by simp only[];omega,?_⟩;conv=>whnf
   exact⟨⟨.r,.r,.r,.r,aV (bH (by omega)),trivial⟩,⟨.r,.r,.r,.r,.r,.bd,trivial⟩,by rfl⟩
  ·have:i=R.length:=by
    simp at h;omega
   subst this;repeat' ((conv=>whnf);first|refine bc ?_|fail)
   all_goals(conv=>whnf)
   exact⟨.r,⟨.r,.r,.r,.r,.r,trivial⟩,by rfl⟩
theorem agK(s:Mem)(ac CN B4:aj):∀ (i:Nat) d,(vK s.self s.view.mem)[i]?=some d->∃c,(gR s ac CN B4)[i]?=some c/\(d= .aW\/(d=c/\nM c=true)):=by
 intro i d ab;rcases i with _|_|_|_|_|_|_|_|i
 ·exact⟨_,rfl,.inr ⟨(Option.some.inj ab).symm,rfl⟩⟩
 ·exact⟨_,rfl,.inl (Option.some.inj ab).symm⟩
 ·exact⟨_,rfl,.inl (Option.some.inj ab).symm⟩
 ·exact⟨_,rfl,.inl (Option.some.inj ab).symm⟩
 ·exact⟨_,rfl,.inl (Option.some.inj ab).symm⟩
 ·exact⟨_,rfl,.inl (Option.some.inj ab).symm⟩
 ·exact⟨_,rfl,.inl (Option.some.inj ab).symm⟩
 ·exact⟨_,rfl,.inr ⟨(Option.some.inj ab).symm,rfl⟩⟩
 ·simp[vK]at ab
def o6(s:Mem):List Int:=s.view.mem.filter (fN s.self)
theorem LQ(s:Mem)(af:s.view.mem.length<=1000)(bx:s.view.mem≠ [])(aX:List dj):b0 Tryz.prog 104 (eb s aX) [.aP 0 0] [true,true,true,true] (eb s aX) (.aq 1 ((o6 s).map aM) false):=by
 have e:=agD s.self s.view.mem (by omega) bx;have au:∀r∈ (s.view.mem.filter (fN s.self)).map aM,∀d∈r,Ju d=true:=by
  intro r ao d aa;obtain⟨x,_,rfl⟩:=List.mem_map.1 ao;simp only[aM,List.mem_singleton]at aa;subst aa;rfl
 refine Z6 _ e (agK s _ _ _) au ?_;intro o aF l j6;subst j6;simp at aF
theorem LR(s:Mem)(aX:List dj)(l6:aX.length<=100000)(cZ:Int)(k:Nat)(fT:1<=k)(hk:k<=255)(b:List Nat)(ae:b.length<=800000):
  b0 Tryz.prog 55 (eb s aX) [.aP 0 0,i64 cZ,i64 k,.aq 1 (b.map bo) false] [true,true,true,false] (eb s (aX++ [dj.mk cZ (dm k b)])) (.a1 []):=by
 have az:=Re k fT hk b ae;generalize dm k b=W at *;refine dw Tryz.func55 ?_;repeat' ((conv=>whnf);first|refine .inl ⟨_,_,aD _,az,?_⟩|refine And.intro (Lw (by simp<;>omega)) ?_|fail)
 all_goals(conv=>whnf)
 refine⟨.r,⟨.r,.r,.r,ch ?_,CI,trivial⟩,by rfl⟩;rw[List.map_append];rfl
def sO(s:Mem)(cZ:Int):dj:=⟨cZ,o2 s.first s.hist⟩
structure zN(s:Mem):Prop where
 first:bX s.first=true
 len:s.hist.length<=400
 aE:∀c∈s.hist,kx c
theorem agL{l:List (List Int)}{i:Nat}(h:i<l.length):hE (l.take (i+1))=hE (l.take i)++eT l[i]:=by
 unfold hE;rw[List.take_succ_eq_append_getElem h,List.flatMap_append];simp
theorem LS(s:Mem)(ag:zN s)(aX:List dj)(l6:aX.length<=90000)(cZ:Int):b0 Tryz.prog 85 (eb s aX) [.aP 0 0,i64 cZ] [true,true,true,false] (eb s (aX++ [sO s cZ])) (.a1 []):=by
 obtain⟨ac,aS,al⟩:=ag;have ea:=kM ac;have gT:=zH s.first ac
 have nI:=xG al;have T1:∀i,(hE (s.hist.take i)).length<=330*s.hist.length:=fun i=>by
  have:=xG (l:=s.hist.take i) (fun c h=>al c (List.mem_of_mem_take h));have ad: (s.hist.take i).length<=s.hist.length:=by rw[List.length_take];omega
  omega
 have gi: (bn s.hist.length).length<=10:=fM 9 _;have az:=ae3 s.first ac
 have hu:IntKind.u64.wrap ((s.hist.map cB).length:Int)=((s.hist.length:Nat):Int):=by rw[List.length_map];exact xw (n:=(s.hist.length:Int)) (by omega) (by omega)
 have aG:=w7 (hx s.first) (by omega) s.hist.length (by omega);have dT:hx s.first++bn s.hist.length++hE (s.hist.take s.hist.length)=nH s.first s.hist:=by
  rw[List.take_length,List.append_assoc];rfl
 have b5:=LR s aX (by omega) cZ 4 (by omega) (by omega) (hx s.first++bn s.hist.length++hE (s.hist.take s.hist.length)) (by have:=T1 s.hist.length;simp only[List.length_append];omega);have Fo:∀i (h:i<s.hist.length),hx s.first++bn s.hist.length++hE (s.hist.take i)++eT s.hist[i]=hx s.first++bn s.hist.length++hE (s.hist.take (i+1)):=fun i h=>by
  rw[agL h,List.append_assoc]
 have hlen:∀i,(hx s.first++bn s.hist.length++hE (s.hist.take i)).length<=700000:=fun i=>by
  have:=T1 i;simp only[List.length_append];omega
 have agM:hx s.first++bn s.hist.length++hE (s.hist.take 0)=hx s.first++bn s.hist.length:=by simp[hE]
 rw[dT]at b5;rw[<-agM]at aG;generalize cR: (fun i=>hx s.first++bn s.hist.length++hE (s.hist.take i))=B;have T2:∀i,hx s.first++bn s.hist.length++hE (s.hist.take i)=B i:=fun i=>by rw[<-cR]
 simp only[T2]at *;clear cR T2;rw[<-dT]at b5;refine dw Tryz.func85 ?_;repeat' ((conv=>whnf);first|refine And.intro (by kernel_rfl) ?_|refine .inl ⟨_,_,aD _,az,?_⟩|refine .inl ⟨[_,_],_,⟨.r,aV hu,trivial⟩,aG,?_⟩|fail)
 all_goals(conv=>whnf)
 refine⟨Nat,fun i=>⟨[(0,.aP 0 0),(1,i64 cZ),(4,.aq 1 ((B i).map bo) false),(25,.own 1),(26,i64 s.hist.length),(27,i64 i)],[.cells 116 (gR s (.own 1) (.own 2) (.own 3)),.row 22 1 (s.hist.map cB),.row 150 2 (s.dbts.map db),.row 121 2 (aX.map eU),.b6 [.aP 0 0,.own 1,.own 2,.own 3]]⟩,fun i=>i<=s.hist.length,fun i=>s.hist.length-i,[],⟨0,Nat.zero_le _,?_⟩,?_⟩
 ·conv=>whnf
  exact⟨⟨.r,.r,.r,.r,aV (by simp),.r,trivial⟩,⟨.r,.r,.r,.r,.r,trivial⟩,by rfl⟩
 ·intro i ab;repeat' ((conv=>whnf);first| (refine be ?_ ?_<;>intro h)|fail)
  ·have ap:i<s.hist.length:=by simpa using h
   clear h;have eY:i<(s.hist.map cB).length:=by rw[List.length_map];exact ap
   have b7: (s.hist.map cB)[i]?=some (cB s.hist[i]):=by simp[ap]
   have fU:=al _ (List.getElem_mem ap);have a7:=Lo (B i) (hlen i) s.hist[i] (by have:=fU.1;omega) fU.2;rw[Fo i ap]at a7;repeat' ((conv=>whnf);first|refine⟨i,And.intro ⟨rfl,eY⟩ ?_⟩|refine⟨cB s.hist[i],And.intro b7 ?_⟩|refine .inl ⟨_,_,aD _,a7,?_⟩|fail)
   all_goals(conv=>whnf)
   refine⟨i+1,ap,by simp only[];omega,?_⟩;conv=>whnf
   exact⟨⟨.r,.r,.r,.r,.r,aV (bH (by omega)),trivial⟩,⟨.r,.r,.r,.r,.r,trivial⟩,by rfl⟩
  ·have:i=s.hist.length:=by
    simp at h;omega
   subst this;repeat' ((conv=>whnf);first|refine .inr ⟨[0,1,2,3],_,_,_,_,_,b5,by rfl,⟨.r,.r,.r,.r,trivial⟩,⟨.r,.r,.r,.r,trivial⟩,?_⟩|fail)
   all_goals(conv=>whnf)
   refine⟨.r,⟨.r,.r,.r,ch ?_,CI,trivial⟩,by rfl⟩;rw[dT];rfl
structure rJ(m:dx):Prop where
 kind:0<=m.kind/\m.kind<=1099511627776
 view:0<=m.view/\m.view<=1099511627776
 src:0<=m.src/\m.src<=1099511627776
 aB:0<=m.aB/\m.aB<=1099511627776
 cq: -1<=m.cq/\m.cq<=1099511627776
 cut:kx m.cut
def qz(m:dx):List Int:=[m.kind,m.view,m.src,m.aB]
def o7(m:dx)(i:Nat):List Nat:=((qz m).take i).flatMap fun n=>bn n.toNat
def om(m:dx):List Nat:=o7 m 4++bn (eD m.cq)++eT m.cut
def qQ(s:Mem)(p:dy):List Int:=bif decide (p.cZ=0)then o6 s else [p.cZ]
def CO(s:Mem)(p:dy):List dj:=(qQ s p).map fun id=>⟨id,dm 3 (om p.m)⟩
def hG(s:Mem)(l:List dy):List dj:=l.flatMap (CO s)
theorem T3(m:dx)(i:Nat): (o7 m i).length<=40:=by
 have h:∀l:List Int,(l.flatMap fun n=>bn n.toNat).length<=10*l.length:=by
  intro l;induction l with
  |nil=>simp
  |cons x l aN=>
   have: (bn x.toNat).length<=10:=fM 9 _;rw[List.flatMap_cons,List.length_append,List.length_cons];omega
 have h1:=h ((qz m).take i);have ad: ((qz m).take i).length<=4:=by rw[List.length_take];exact Nat.min_le_right _ _
 unfold o7;omega
theorem Gv(s:Mem)(h:s.view.mem.length<=16): (o6 s).length<=16:=Nat.le_trans (List.length_filter_le _ _) h
theorem LU(s:Mem)(h:s.view.mem.length<=16)(p:dy): (qQ s p).length<=16:=by
 unfold qQ;cases decide (p.cZ=0)
 ·simp
 ·exact Gv s h
theorem CP(s:Mem)(h:s.view.mem.length<=16):∀l:List dy,(hG s l).length<=16*l.length
 | []=>by simp[hG]
 |p::l=>by
  have h1:=CP s h l;have ad:=LU s h p;have e:hG s (p::l)=CO s p++hG s l:=rfl;rw[e,List.length_append,List.length_cons];unfold CO;rw[List.length_map];omega
theorem Gw(s:Mem)(ac:s.view.mem.length<=16)(bx:s.view.mem≠ [])(l:List dy)(af:l.length<=1000)(bY:∀p∈l,rJ p.m)(aX:List dj)(l6:aX.length<=50000):
  b0 Tryz.prog 89 (eb s aX) [.aP 0 0,.aq 7 (l.map ei) false] [true,true,true,false] (eb s (aX++hG s l)) (.a1 []):=by
 have az:=fun Q=>LQ s (by omega) bx Q;have iq:=fun Q fz cZ b ae=>LR s Q fz cZ 3 (by omega) (by omega) b ae;have sF:∀i,(hG s (l.take i)).length<=16*l.length:=fun i=>by
  have:=CP s ac (l.take i);have ad: (l.take i).length<=l.length:=by rw[List.length_take];omega
  omega
 have xJ:=LU s ac;have Gx:aX++hG s (l.take 0)=aX:=by simp[hG]
 have LV:∀i (h:i<l.length),aX++hG s (l.take (i+1))=aX++hG s (l.take i)++(qQ s l[i]).map fun id=>dj.mk id (dm 3 (om l[i].m)):=fun i h=>by
  rw[List.take_succ_eq_append_getElem h];unfold hG;rw[List.flatMap_append,List.append_assoc];simp[CO]
 have agN:aX++hG s (l.take l.length)=aX++hG s l:=by rw[List.take_length]
 have ua:∀i,(aX++hG s (l.take i)).length<=70000:=fun i=>by rw[List.length_append];have:=sF i;omega
 rw[<-agN];generalize T4: (fun i=>aX++hG s (l.take i))=X;have T5:∀i,aX++hG s (l.take i)=X i:=fun i=>by rw[<-T4]
 simp only[T5]at *;rw[<-Gx];clear T4 T5 sF;refine dw Tryz.func89 ?_;repeat' ((conv=>whnf);first|refine bc ?_|fail)
 all_goals(conv=>whnf)
 refine⟨Nat,fun i=>⟨[(0,.aP 0 0),(13,.aq 7 (l.map ei) false),(14,i64 l.length),(15,i64 i)],[.cells 116 (gR s (.own 1) (.own 2) (.own 3)),.row 22 1 (s.hist.map cB),.row 150 2 (s.dbts.map db),.row 121 2 ((X i).map eU),.b6 [.aP 0 0,.own 1,.own 2,.aW]]⟩,fun i=>i<=l.length,fun i=>l.length-i,[],⟨0,Nat.zero_le _,?_⟩,?_⟩
 ·conv=>whnf
  exact⟨⟨.r,.r,aV (by simp),.r,trivial⟩,⟨.r,.r,.r,.r,CI,trivial⟩,by rfl⟩
 ·intro i ab;repeat' ((conv=>whnf);first| (refine be ?_ ?_<;>intro h)|fail)
  ·have ap:i<l.length:=by simpa using h
   clear h;obtain⟨hk,tL,zO,BA,zg,Gy⟩:=bY _ (List.getElem_mem ap);have agO:=LV i ap;have akG:=ua i;have kp:=xJ l[i];have b7: (l.map ei)[i]?=some (ei l[i]):=cE ap;have CQ:=T3 l[i].m;have nI:=CC Gy;have jO: (bn (eD l[i].m.cq)).length<=10:=fM 9 _;have zP:qQ s l[i]=bif decide (l[i].cZ=0)then o6 s else [l[i].cZ]:=rfl;have tt:om l[i].m=o7 l[i].m 4++bn (eD l[i].m.cq)++eT l[i].m.cut:=rfl;have bh:∀j,j<4->∃n:Int,[i64 l[i].m.kind,i64 l[i].m.view,i64 l[i].m.src,i64 l[i].m.aB][j]?=some (i64 n)/\0<=n/\n<=1099511627776/\o7 l[i].m (j+1)=o7 l[i].m j++bn n.toNat:=by
    intro j ai;rcases j with _|_|_|_|j
    ·exact⟨_,rfl,hk.1,hk.2,by simp[o7,qz]⟩
    ·exact⟨_,rfl,tL.1,tL.2,by simp[o7,qz]⟩
    ·exact⟨_,rfl,zO.1,zO.2,by simp[o7,qz]⟩
    ·exact⟨_,rfl,BA.1,BA.2,by simp[o7,qz]⟩
    ·omega
   have T6:o7 l[i].m 0=[]:=by simp[o7]
   generalize l[i]=p at *;generalize o7 p.m=B at *;generalize qQ s p=Z at *;generalize om p.m=W at *;repeat' ((conv=>whnf);first|refine⟨i,ei p,And.intro ⟨rfl,b7⟩ ?_⟩|fail)
   all_goals(conv=>whnf)
   refine⟨Nat,fun j=>⟨[(0,.aP 0 0),(5,.aP 5 0),(6,.aP 6 0),(7,.aq 1 ((B j).map bo) false),(13,.aq 7 (l.map ei) false),(14,i64 l.length),(15,i64 i),(29,.agg [i64 p.m.kind,i64 p.m.view,i64 p.m.src,i64 p.m.aB]),(30,i64 j)],[.cells 116 (gR s (.own 1) (.own 2) (.own 3)),.row 22 1 (s.hist.map cB),.row 150 2 (s.dbts.map db),.row 121 2 ((X i).map eU),.b6 [.aP 0 0,.own 1,.own 2,.aW],.cells 218 (ei p),.cells 108 (m4 p.m)]⟩,fun j=>j<=4,fun j=>4-j,[],⟨0,Nat.zero_le _,?_⟩,?_⟩
   ·conv=>whnf
    exact⟨⟨.r,.r,.r,(by show fP _ (.aq 1 ((B 0).map bo) false);rw[T6];exact .ar),.r,.r,.r,.r,.r,trivial⟩,⟨.r,.r,.r,.r,.r,.r,.r,trivial⟩,by rfl⟩
   ·intro j ai;repeat' ((conv=>whnf);first| (refine be ?_ ?_<;>intro h)|fail)
    ·have LW:j<4:=by have h:=of_decide_eq_true h;omega
     clear h;obtain⟨n,tu,AZ,agP,agQ⟩:=bh j LW;have a7:=w7 (B j) (by have:=CQ j;omega) n.toNat (by omega);rw[<-agQ]at a7;repeat' ((conv=>whnf);first|refine⟨j,i64 n,And.intro ⟨rfl,LW,tu⟩ ?_⟩|refine .inl ⟨[_,_],_,⟨.r,aV (xw AZ agP),trivial⟩,a7,?_⟩|fail)
     all_goals(conv=>whnf)
     refine⟨j+1,LW,by simp only[];omega,?_⟩;conv=>whnf
     exact⟨⟨.r,.r,.r,.r,.r,.r,.r,.r,aV (bH (by omega)),trivial⟩,⟨.r,.r,.r,.r,.r,.r,.r,trivial⟩,by rfl⟩
    ·have:j=4:=by
      simp at h;omega
     subst this;clear h;have b5:=aeU (B 4) (by have:=CQ 4;omega) p.m.cq zg.1 zg.2;have du:=Lo (B 4++bn (eD p.m.cq)) (by have:=CQ 4;rw[List.length_append];omega) p.m.cut (by have:=Gy.1;omega) Gy.2;rw[<-tt]at du;have agR:W.length<=800000:=by
      have:=CQ 4;rw[tt];simp only[List.length_append];omega
     clear bh T6;repeat' ((conv=>whnf);first| (refine be ?_ ?_<;>intro h)|refine And.intro (by kernel_rfl) ?_|refine .inl ⟨_,_,aD _,b5,?_⟩|refine .inl ⟨_,_,aD _,du,?_⟩|refine .inr ⟨[0,1,2,3],_,_,_,_,_,az (X i),by rfl,⟨.r,.r,.r,.r,trivial⟩,⟨.r,trivial⟩,?_⟩|fail)
     all_goals(conv=>whnf)
     all_goals rw[h]at zP
     all_goals clear h b7 nI jO tt CQ hk tL zO BA zg Gy b5 du
     refine⟨Nat,fun j=>⟨[(0,.aP 0 0),(7,.aq 1 (W.map bo) false),(13,.aq 7 (l.map ei) false),(14,i64 l.length),(15,i64 i),(53,.aq 1 (Z.map aM) false),(54,i64 Z.length),(55,i64 j)],[.cells 116 (gR s (.own 1) (.own 2) (.own 3)),.row 22 1 (s.hist.map cB),.row 150 2 (s.dbts.map db),.row 121 2 ((X i++(Z.take j).map fun id=>dj.mk id (dm 3 W)).map eU),.b6 [.aP 0 0,.own 1,.own 2,.aW]]⟩,fun j=>j<=Z.length,fun j=>Z.length-j,[],⟨0,Nat.zero_le _,?_⟩,?_⟩
     ·conv=>whnf
      exact⟨⟨.r,.r,.r,.r,.r,(by rw[zP];exact .refl),(by rw[zP];exact aV (by simp)),.r,trivial⟩,⟨.r,.r,.r,ch (by simp),.r,trivial⟩,by rfl⟩
     rotate_left
     refine⟨Nat,fun j=>⟨[(0,.aP 0 0),(7,.aq 1 (W.map bo) false),(13,.aq 7 (l.map ei) false),(14,i64 l.length),(15,i64 i),(53,.aq 1 (Z.map aM) false),(54,i64 Z.length),(55,i64 j)],[.cells 116 (gR s (.own 1) (.own 2) (.own 3)),.row 22 1 (s.hist.map cB),.row 150 2 (s.dbts.map db),.row 121 2 ((X i++(Z.take j).map fun id=>dj.mk id (dm 3 W)).map eU),.b6 [.aP 0 0,.own 1,.own 2,.aW]]⟩,fun j=>j<=Z.length,fun j=>Z.length-j,[.hZ 53],⟨0,Nat.zero_le _,?_⟩,?_⟩
     ·conv=>whnf
      exact⟨⟨.r,.r,.r,.r,.r,(by rw[zP];exact fP.aq),(by rw[zP];exact .refl),.r,trivial⟩,⟨.r,.r,.r,ch (by simp),.r,trivial⟩,by rfl⟩
     all_goals clear zP
     all_goals intro j ai
     all_goals repeat' ((conv=>whnf);first| (refine be ?_ ?_<;>intro h)|fail)
     all_goals first
      | (have iw:j<Z.length:=by simpa using h
         clear h;have iU:=iq (X i++(Z.take j).map fun id=>dj.mk id (dm 3 W)) (by rw[List.length_append,List.length_map,List.length_take];omega) Z[j] W agR;have gF:X i++(Z.take j).map (fun id=>dj.mk id (dm 3 W))++ [dj.mk Z[j] (dm 3 W)]=X i++(Z.take (j+1)).map fun id=>dj.mk id (dm 3 W):=by
           rw[List.take_succ_eq_append_getElem iw,List.map_append,List.append_assoc];rfl
         rw[gF]at iU;repeat' ((conv=>whnf);first|refine⟨_,_,And.intro ⟨rfl,cE iw⟩ ?_⟩|refine .inr ⟨[0,1,2,3],_,_,_,_,_,iU,by rfl,⟨.r,.r,.r,.r,trivial⟩,⟨.r,.r,.r,.r,trivial⟩,?_⟩|fail)
         all_goals(conv=>whnf)
         refine⟨j+1,iw,by simp only[];omega,?_⟩;conv=>whnf
         exact⟨⟨.r,.r,.r,.r,.r,.r,.r,aV (bH (by omega)),trivial⟩,⟨.r,.r,.r,.r,.r,trivial⟩,by rfl⟩)
      | (have:j=Z.length:=by
           simp at h;omega
         subst this;rw[List.take_length,<-agO];repeat' ((conv=>whnf);first|refine bc ?_|fail)
         all_goals(conv=>whnf)
         refine⟨i+1,ap,by simp only[];omega,?_⟩;conv=>whnf
         exact⟨⟨.r,.r,.r,aV (bH (by omega)),trivial⟩,⟨.r,.r,.r,.r,.r,trivial⟩,by rfl⟩)
  ·have:i=l.length:=by
    simp at h;omega
   subst this;repeat' ((conv=>whnf);first|refine bc ?_|fail)
   all_goals(conv=>whnf)
   exact⟨.r,⟨.r,.r,.r,.r,.r,trivial⟩,by rfl⟩
theorem ft{cs ds:List aj}(h:lI cs ds):fF (.b6 cs) (.b6 ds):=.b6 (tC h).1 (tC h).2
def sP(s:Mem):Mem:={s with dbts:=s.dbts.filter (jh (ek s.view s.als false))}
theorem T7(s:Mem)(ac:s.view.mem.length<=1000)(aZ:s.als.length<=100000)(aa:s.dbts.length<=100000)(aX:List dj):b0 Tryz.prog 91 (eb s aX) [.aP 0 0] [true,true,false,true] (eb (sP s) aX) (.a1 []):=by
 have az:=zG s.view (Nat.le_trans ac (by decide)) s.als (by omega);have sM:=Cy s.view s.als false;have agS:sP s= {s with dbts:=s.dbts.filter (jh (ek s.view s.als false))}:=rfl;rw[agS];generalize ek s.view s.als false=U at *;have aG:=agz U (Nat.le_trans sM (by have: (100000:Nat)<=maxLen:=(by decide);omega)) s.dbts aa;refine dw Tryz.func91 ?_;repeat' ((conv=>whnf);first|refine And.intro (by kernel_rfl) ?_|refine .inl ⟨_,_,aD _,az,?_⟩|refine .inr ⟨[2],_,_,_,_,_,aG,by rfl,⟨.r,trivial⟩,⟨.r,.r,trivial⟩,?_⟩|fail)
 all_goals(conv=>whnf)
 exact⟨.r,⟨.r,.r,.r,.r,ft ⟨.r,.r,.aW,.r,trivial⟩,trivial⟩,by rfl⟩
def ng(l:List gG)(x:Int):Nat->Int
 |0=>0
 |j+1=>bif decide ((l.getD j gr).cj=x)then(l.getD j gr).ep else ng l x j
def zQ(l:List gG)(x:Int):Int:=ng l x l.length
def ug(l:List gG)(x:Int):Int:=if 6<zQ l x+1 then 6 else zQ l x+1
def zR(l:List gG)(x:Int):Bool:=decide (ug l x=6)&&decide (zQ l x<ug l x)
def iF(self:Int)(l:List gG)(U:List Int):List gG:=(U.filter (fN self)).map fun x=>⟨x,ug l x⟩
def hy(self:Int)(l:List gG)(U:List Int):List Int:=(U.filter (fN self)).filter (zR l)
def ji(s:Mem)(l:List Int):Nat->Mem
 |0=>s
 |i+1=>hF (ji s l i) (l.getD i 0)
def o8(s:Mem):Mem:=sP (ji {s with dbts:=iF s.self s.dbts (ek s.view s.als false)} (hy s.self s.dbts (ek s.view s.als false)) (hy s.self s.dbts (ek s.view s.als false)).length)
theorem Gz(s:Mem)(x:Int): (hF s x).view=s.view/\(hF s x).self=s.self/\(hF s x).hist=s.hist/\(hF s x).dbts=s.dbts/\(hF s x).als.length<=s.als.length+5:=by
 have h:=Gu s x (nf s.view.mem s.self x).length;have:=TZ s.view.mem s.self x;exact⟨h.1,h.2.1,h.2.2.1,h.2.2.2.1,by unfold hF;omega⟩
theorem CR(s:Mem)(l:List Int):∀i,(ji s l i).view=s.view/\(ji s l i).self=s.self/\(ji s l i).hist=s.hist/\(ji s l i).dbts=s.dbts/\(ji s l i).als.length<=s.als.length+5*i
 |0=>⟨rfl,rfl,rfl,rfl,Nat.le_refl _⟩
 |i+1=>by
  have aN:=CR s l i;have h:=Gz (ji s l i) (l.getD i 0);exact⟨h.1.trans aN.1,h.2.1.trans aN.2.1,h.2.2.1.trans aN.2.2.1,h.2.2.2.1.trans aN.2.2.2.1,by unfold ji;omega⟩
theorem T8{l:List gG}(h:∀d∈l,0<=d.ep/\d.ep<=1000)(x:Int):∀j,0<=ng l x j/\ng l x j<=1000
 |0=>by simp[ng]
 |j+1=>by
  have aN:=T8 h x j;unfold ng;cases decide ((l.getD j gr).cj=x)
  ·exact aN
  ·by_cases ai:j<l.length
   ·rw[show l.getD j gr=l[j] by simp[ai]];exact h _ (List.getElem_mem ai)
   ·rw[show l.getD j gr=gr by simp[List.getElem?_eq_none (show l.length<=j by omega)]];exact⟨Int.le_refl 0,by show (0:Int)<=1000;omega⟩
theorem T9(s:Mem)(ac:s.view.mem.length<=1000)(aZ:s.als.length<=6000)(aa:s.dbts.length<=1000)(bW:∀d∈s.dbts,0<=d.ep/\d.ep<=1000)(aX:List dj):b0 Tryz.prog 95 (eb s aX) [.aP 0 0] [true,true,false,true] (eb (o8 s) aX) (.a1 []):=by
 have az:=zG s.view (Nat.le_trans ac (by decide)) s.als (by omega);have akH:=Cy s.view s.als false;have Ua:o8 s=sP (ji {s with dbts:=iF s.self s.dbts (ek s.view s.als false)} (hy s.self s.dbts (ek s.view s.als false)) (hy s.self s.dbts (ek s.view s.als false)).length):=rfl;rw[Ua];clear Ua;generalize ek s.view s.als false=U at *;refine hd Tryz.func95 ?_;repeat' ((conv=>whnf);first|refine And.intro (by kernel_rfl) ?_|refine .inl ⟨_,_,aD _,az,?_⟩|fail)
 all_goals(conv=>whnf)
 refine⟨Nat,fun i=>⟨[(0,.aP 0 0),(2,.own 6),(3,.own 7),(22,.aq 1 (U.map aM) false),(23,i64 U.length),(24,i64 i)],[.cells 116 (gR s (.own 1) (.own 2) (.own 3)),.row 22 1 (s.hist.map cB),.row 150 2 (s.dbts.map db),.row 121 2 (aX.map eU),.b6 [.aP 0 0,.own 1,.own 2,.own 3],.bd,.row 150 2 ((iF s.self s.dbts (U.take i)).map db),.row 3 1 ((hy s.self s.dbts (U.take i)).map aM)]⟩,fun i=>i<=U.length,fun i=>U.length-i,[.fS 2 150 2,.fS 3 3 1],⟨0,Nat.zero_le _,?_⟩,?_⟩
 ·conv=>whnf
  exact⟨⟨.r,.r,.r,.r,aV (by simp),.r,trivial⟩,⟨.r,.r,.r,.r,.r,.r,.r,.r,trivial⟩,by rfl⟩
 ·intro i ab;repeat' ((conv=>whnf);first| (refine be ?_ ?_<;>intro h)|fail)
  ·have ap:i<U.length:=by simpa using h
   clear h;have gF:iF s.self s.dbts (U.take (i+1))=iF s.self s.dbts (U.take i)++iF s.self s.dbts [U[i]]:=by
    rw[List.take_succ_eq_append_getElem ap];unfold iF;rw[List.filter_append,List.map_append]
   have nx:hy s.self s.dbts (U.take (i+1))=hy s.self s.dbts (U.take i)++hy s.self s.dbts [U[i]]:=by
    rw[List.take_succ_eq_append_getElem ap];unfold hy;rw[List.filter_append,List.filter_append]
   have agT: (U.map aM)[i]?=some (aM U[i]):=cE ap;have oN: (iF s.self s.dbts (U.take i)).length<=6000:=by
    unfold iF;rw[List.length_map];have:=List.length_filter_le (fN s.self) (U.take i);have ad: (U.take i).length<=U.length:=by rw[List.length_take];omega
    omega
   have gi: (hy s.self s.dbts (U.take i)).length<=6000:=by
    unfold hy;have:=List.length_filter_le (fN s.self) (U.take i);have aC:=List.length_filter_le (zR s.dbts) ((U.take i).filter (fN s.self));have ad: (U.take i).length<=U.length:=by rw[List.length_take];omega
    omega
   have yt:fN s.self U[i]= !decide (U[i]=s.self):=rfl;have tu:iF s.self s.dbts [U[i]]=bif fN s.self U[i]then [⟨U[i],ug s.dbts U[i]⟩]else []:=by
    unfold iF;cases pn:fN s.self U[i]<;>simp[pn]
   have gh:hy s.self s.dbts [U[i]]=bif fN s.self U[i]&&zR s.dbts U[i]then [U[i]]else []:=by
    unfold hy;cases pn:fN s.self U[i]<;>cases q7:zR s.dbts U[i]<;>simp[pn,q7]
   rw[tu]at gF;rw[gh]at nx;have BL:=T8 bW U[i];have hw:∀j,IntKind.i64.wrap (ng s.dbts U[i] j+1)=ng s.dbts U[i] j+1:=fun j=>dC (by have:=BL j;omega) (by have:=BL j;omega);clear tu gh;generalize U[i]=x at *;generalize iF s.self s.dbts=N at *;generalize hy s.self s.dbts=G at *;repeat' ((conv=>whnf);first| (refine be ?_ ?_<;>intro h)|refine⟨i,aM x,And.intro ⟨rfl,agT⟩ ?_⟩|fail)
   ·rw[yt,h]at gF nx;all_goals(conv=>whnf)
    refine⟨i+1,ap,by simp only[];omega,?_⟩;conv=>whnf
    exact⟨⟨.r,.r,.r,.r,.r,aV (bH (by omega)),trivial⟩,⟨.r,.r,.r,.r,.r,.r,ch (by rw[gF];simp),ch (by rw[nx];simp),trivial⟩,by rfl⟩
   ·rw[yt,h]at gF nx;clear h yt;conv=>whnf
    refine⟨Nat,fun j=>⟨[(0,.aP 0 0),(2,.own 6),(3,.own 7),(5,i64 x),(6,i64 (ng s.dbts x j)),(22,.aq 1 (U.map aM) false),(23,i64 U.length),(24,i64 i),(39,.own 2),(40,i64 s.dbts.length),(41,i64 j)],[.cells 116 (gR s (.own 1) (.own 2) (.own 3)),.row 22 1 (s.hist.map cB),.row 150 2 (s.dbts.map db),.row 121 2 (aX.map eU),.b6 [.aP 0 0,.own 1,.own 2,.own 3],.bd,.row 150 2 ((N (U.take i)).map db),.row 3 1 ((G (U.take i)).map aM)]⟩,fun j=>j<=s.dbts.length,fun j=>s.dbts.length-j,[],⟨0,Nat.zero_le _,?_⟩,?_⟩
    ·conv=>whnf
     exact⟨⟨.r,.r,.r,.r,.r,.r,.r,.r,.r,aV (by simp),.r,trivial⟩,⟨.r,.r,.r,.r,.r,.r,.r,.r,trivial⟩,by rfl⟩
    ·intro j ai;repeat' ((conv=>whnf);first|refine bc ?_| (refine be ?_ ?_<;>intro h)|refine And.intro ⟨fun h=>h,fun h=>h⟩ ?_|fail)
     ·have k0:j<s.dbts.length:=by simpa using h
      clear h;have eY:j<(s.dbts.map db).length:=by rw[List.length_map];exact k0
      have b7: (s.dbts.map db)[j]?=some (db s.dbts[j]):=cE k0;have Ub:ng s.dbts x (j+1)=bif decide (s.dbts[j].cj=x)then s.dbts[j].ep else ng s.dbts x j:=by
       rw[ng,show s.dbts.getD j gr=s.dbts[j] by simp[k0]]
      repeat' ((conv=>whnf);first| (refine be ?_ ?_<;>intro h)|refine⟨j,And.intro ⟨rfl,eY⟩ ?_⟩|refine⟨db s.dbts[j],And.intro b7 ?_⟩|fail)
      all_goals rw[h]at Ub
      all_goals(conv=>whnf)
      all_goals refine⟨j+1,k0,by simp only[];omega,?_⟩
      all_goals(conv=>whnf)
      all_goals exact⟨⟨.r,.r,.r,.r,aV Ub.symm,.r,.r,.r,.r,.r,aV (bH (by omega)),trivial⟩,⟨.r,.r,.r,.r,.r,.r,.r,.r,trivial⟩,by rfl⟩
     all_goals rename_i aH
     all_goals have fX:j=s.dbts.length:=by(simp at aH;omega)
     all_goals subst fX
     all_goals have Uc:=hw s.dbts.length
     all_goals rw[Uc]at h
     all_goals have fY:zR s.dbts x=_:=h
     all_goals clear h aH hw
     all_goals rw[fY]at nx
     all_goals have Gj: ((N (U.take i)).map db).length+1<=2000000:=by(rw[List.length_map];omega)
     all_goals have xe: ((G (U.take i)).map aM).length+1<=2000000:=by(rw[List.length_map];omega)
     all_goals have n2:ug s.dbts x=(if 6<IntKind.i64.wrap (ng s.dbts x s.dbts.length+1)then 6 else IntKind.i64.wrap (ng s.dbts x s.dbts.length+1)):=by(rw[Uc];rfl)
     all_goals rw[n2]at gF
     all_goals repeat' ((conv=>whnf);first|refine And.intro (Lp Gj) ?_|refine And.intro (nC xe) ?_|fail)
     all_goals(conv=>whnf)
     all_goals refine⟨i+1,ap,by simp only[];omega,?_⟩
     all_goals(conv=>whnf)
     all_goals refine⟨⟨.r,.r,.r,.r,.r,aV (bH (by omega)),trivial⟩,⟨.r,.r,.r,.r,.r,.r,ch ?_,ch ?_,trivial⟩,by rfl⟩
     all_goals first
      | (rw[gF,List.map_append];rfl)
      | (rw[nx,List.map_append];rfl)
      | (rw[nx];simp)
  ·have:i=U.length:=by
    simp at h;omega
   subst this;clear h;rw[List.take_length];have akI: (hy s.self s.dbts U).length<=6000:=by
    unfold hy;have:=List.length_filter_le (fN s.self) U;have aC:=List.length_filter_le (zR s.dbts) (U.filter (fN s.self));omega
   have akJ: (iF s.self s.dbts U).length<=6000:=by
    unfold iF;rw[List.length_map];have:=List.length_filter_le (fN s.self) U;omega
   have vL:ji {s with dbts:=iF s.self s.dbts U} (hy s.self s.dbts U) 0= {s with dbts:=iF s.self s.dbts U}:=rfl;have CS:∀k,ji {s with dbts:=iF s.self s.dbts U} (hy s.self s.dbts U) (k+1)=hF (ji {s with dbts:=iF s.self s.dbts U} (hy s.self s.dbts U) k) ((hy s.self s.dbts U).getD k 0):=fun _=>rfl;have Ud:=CR {s with dbts:=iF s.self s.dbts U} (hy s.self s.dbts U);generalize ji {s with dbts:=iF s.self s.dbts U} (hy s.self s.dbts U)=Y at *;generalize hy s.self s.dbts U=L at *;generalize iF s.self s.dbts U=N at *;simp only[]at Ud;repeat' ((conv=>whnf);first|refine bc ?_|fail)
   all_goals(conv=>whnf)
   refine⟨Nat,fun k=>⟨[(0,.aP 0 0),(78,.own 7),(79,i64 L.length),(80,i64 k)],[.cells 116 (gR (Y k) (.own 1) (.own 6) (.own 3)),.row 22 1 ((Y k).hist.map cB),.row 150 2 (s.dbts.map db),.row 121 2 (aX.map eU),.b6 [.aP 0 0,.own 1,.own 2,.own 3],.bd,.row 150 2 ((Y k).dbts.map db),.row 3 1 (L.map aM)]⟩,fun k=>k<=L.length,fun k=>L.length-k,[],⟨0,Nat.zero_le _,?_⟩,?_⟩
   ·conv=>whnf
    exact⟨⟨.r,.r,aV (by simp),.r,trivial⟩,⟨by show fF _ (.cells _ (gR (Y 0) (.own 1) (.own 6) (.own 3)));rw[vL];exact .refl,by show fF _ (.row _ _ ((Y 0).hist.map cB));rw[vL];exact .refl,.r,.r,.r,.r,by show fF _ (.row _ _ ((Y 0).dbts.map db));rw[vL];exact .refl,.r,trivial⟩,by rfl⟩
   ·intro k hk;obtain⟨cx,cM,gl,kK,tB⟩:=Ud k;repeat' ((conv=>whnf);first| (refine be ?_ ?_<;>intro h)|fail)
    ·have ap:k<L.length:=by simpa using h
     clear h;have aG:=T0 (Y k) (by rw[cx];exact ac) (by omega) aX L[k];have ax:L.getD k 0=L[k]:=by simp[ap]
     have kY:=CS k;rw[ax]at kY;rw[<-kY]at aG;have eY:k<(L.map aM).length:=by rw[List.length_map];exact ap
     have b7: (L.map aM)[k]?=some (aM L[k]):=cE ap;repeat' ((conv=>whnf);first|refine⟨k,And.intro ⟨rfl,eY⟩ ?_⟩|refine⟨aM L[k],And.intro b7 ?_⟩|refine .inr ⟨[0,1,6,3],_,_,_,_,_,aG,by rfl,⟨.r,.r,.r,.r,trivial⟩,⟨.r,.r,trivial⟩,?_⟩|fail)
     all_goals(conv=>whnf)
     refine⟨k+1,ap,by simp only[];omega,?_⟩;conv=>whnf
     exact⟨⟨.r,.r,.r,aV (bH (by omega)),trivial⟩,⟨.r,.r,.r,.r,.r,.r,.r,.r,trivial⟩,by rfl⟩
    ·have:k=L.length:=by
      simp at h;omega
     subst this;have a7:=T7 (Y L.length) (by rw[cx];exact ac) (by omega) (by rw[kK];omega) aX;repeat' ((conv=>whnf);first|refine .inr ⟨[0,1,6,3],_,_,_,_,_,a7,by rfl,⟨.r,.r,.r,.r,trivial⟩,⟨.r,trivial⟩,?_⟩|fail)
     all_goals(conv=>whnf)
     refine⟨[.dQ 2 6],?_⟩;conv=>whnf
     exact⟨.r,⟨.r,.r,.r,.r,ft ⟨.r,.r,.aW,.r,trivial⟩,trivial⟩,by rfl⟩
theorem agU(s:Mem)(v:aQ)(ac:v.mem.length<=1000)(aX:List dj):b0 Tryz.prog 45 (eb s aX) [.aP 0 0,.agg (bN v)] [true,true,false,true] [.cells 116 (gR (dO s v) (.own 1) (.own 5) (.own 3)),.row 22 1 (s.hist.map cB),.gone,.row 121 2 (aX.map eU),.bd,.row 150 2 (([]:List gG).map db)] (.a1 []):=by
 have az:=o0 v (by omega);have aG:=hp v.mem (Nat.le_trans ac (by decide)) s.self;have a7:=ze v (Nat.le_trans ac (by decide)) s.self;have b5:=B0 v (by omega) s.self;by_cases cw:bR v.mem s.self=true
 ·rw[uc cw];generalize ix v s.self=N at *;generalize jd v s.self=Q at *;refine hd Tryz.func45 ?_;repeat' ((conv=>whnf);first|refine eC (by assumption) ?_|refine And.intro (by kernel_rfl) ?_|refine .inl ⟨_,_,aD _,az,?_⟩|refine .inl ⟨_,_,aD _,aG,?_⟩|refine .inl ⟨_,_,aD _,a7,?_⟩|refine .inl ⟨_,_,aD _,b5,?_⟩|fail)
  all_goals(conv=>whnf)
  refine⟨[.cell 0 13 150 2,.mm 2,.dQ 5 9],?_⟩;conv=>whnf
  exact⟨.r,⟨j9 ⟨.r,.r,.r,.r,.r,.r,.r,.r,.r,.r,.r,.r,.ar,.r,.r,.r,.r,.r,.r,.r,.r,.r,.r,.r,.r,.r,.r,.r,.r,.r,trivial⟩,.r,.r,.r,ft ⟨.r,.r,.aW,.r,trivial⟩,.r,trivial⟩,by rfl⟩
 ·have cw:bR v.mem s.self=false:=by simpa using cw
  rw[zJ cw];refine hd Tryz.func45 ?_;repeat' ((conv=>whnf);first|refine dE (by assumption) ?_|refine And.intro (by kernel_rfl) ?_|refine .inl ⟨_,_,aD _,az,?_⟩|refine .inl ⟨_,_,aD _,aG,?_⟩|fail)
  all_goals(conv=>whnf)
  refine⟨[.cell 0 13 150 2,.mm 2,.dQ 5 7],?_⟩;conv=>whnf
  exact⟨.r,⟨j9 ⟨.r,.r,.r,.r,.r,.r,.r,.r,.r,.r,.ar,.ar,.ar,.r,.r,.r,.ar,.r,.r,.ar,.ar,.ar,.r,.r,.ar,.ar,.ar,.ar,.r,.r,trivial⟩,.r,.r,.r,ft ⟨.r,.r,.aW,.r,trivial⟩,.r,trivial⟩,by rfl⟩
theorem LX(s:Mem)(v:aQ)(ac:v.mem.length<=1000)(aX:List dj):b0 Tryz.prog 45 (eb s aX) [.aP 0 0,.agg (bN v)] [true,true,false,true] [.cells 116 (gR (dO s v) (.own 1) (.own 4) (.own 3)),.row 22 1 (s.hist.map cB),.gone,.row 121 2 (aX.map eU),.row 150 2 (([]:List gG).map db)] (.a1 []):=
 b0.wZ (L1:=[.cells 116 (gR (dO s v) (.own 1) (.own 5) (.own 3)),.row 22 1 (s.hist.map cB),.gone,.row 121 2 (aX.map eU)]) (tD:=[.row 150 2 (([]:List gG).map db)]) (agU s v ac aX) (Nat.le_refl _)
def dp(s:Mem):Mem×Bool:=
 bif decide ((s.agr.dec.length:Int)=0)then(s,false)
 else bif !decide ((eQ s.view s.agr.dec).2=0)||decide (400<=(s.hist.length:Int))then({s with agr:={s.agr with dec:=[]}},false)
 else(dO {s with hist:=s.hist++ [s.agr.dec]} (eQ s.view s.agr.dec).1,true)
theorem LY(s:Mem)(ac:s.view.mem.length<=1000)(bp:s.hist.length<=1000)(aa:s.agr.dec.length<=1000)(aX:List dj):b0 Tryz.prog 90 (eb s aX) [.aP 0 0] [true,false,false,true] (eb (dp s).1 aX) (.v (.bool (dp s).2)):=by
 have az:=y6 s.view (by omega) s.agr.dec (by omega);have aG:=mw s.agr.dec (by omega);have a7:=LX {s with hist:=s.hist++ [s.agr.dec]} (eQ s.view s.agr.dec).1 (Nat.le_trans (Ty _ _) (by decide)) aX;have zO:dp s=bif decide ((s.agr.dec.length:Int)=0)then(s,false)
  else bif !decide ((eQ s.view s.agr.dec).2=0)||decide (400<=(s.hist.length:Int))then({s with agr:={s.agr with dec:=[]}},false)
  else(dO {s with hist:=s.hist++ [s.agr.dec]} (eQ s.view s.agr.dec).1,true):=rfl
 have aI: (s.hist.map cB).length+1<=2000000:=by rw[List.length_map];omega
 have dR:s.hist.map cB++ [cB s.agr.dec]=(s.hist++ [s.agr.dec]).map cB:=by rw[List.map_append];rfl
 rw[zO];clear zO;have CT: (dO {s with hist:=s.hist++ [s.agr.dec]} (eQ s.view s.agr.dec).1).hist=s.hist++ [s.agr.dec]:=CE _ _;have CU: (dO {s with hist:=s.hist++ [s.agr.dec]} (eQ s.view s.agr.dec).1).dbts=[]:=(vI _ _).2.1;generalize eQ s.view s.agr.dec=W at *;generalize dO {s with hist:=s.hist++ [s.agr.dec]} W.1=E at *;refine hd Tryz.func90 ?_;repeat' ((conv=>whnf);first|refine bc ?_| (refine be ?_ ?_<;>intro h)|refine And.intro (by kernel_rfl) ?_|refine .inl ⟨_,_,aD _,az,?_⟩|refine .inl ⟨_,_,aD _,aG,?_⟩|refine And.intro (xy aI) ?_|refine .inr ⟨[0,1,2,3],_,_,_,_,_,a7,by rfl,⟨.r,ch dR,.r,.r,trivial⟩,⟨.r,.r,trivial⟩,?_⟩|refine Exists.intro false ?_|fail)
 all_goals(conv=>whnf)
 ·rw[List.length_map]at h;rw[h];refine⟨[],?_⟩;conv=>whnf
  exact⟨.r,⟨.r,.r,.r,.r,ft ⟨.r,.aW,.aW,.r,trivial⟩,trivial⟩,by rfl⟩
 ·rename_i aH;rw[List.length_map]at aH h;rw[aH,h];refine⟨[],?_⟩;conv=>whnf
  exact⟨.r,⟨j9 ⟨.r,.r,.r,.r,.r,.r,.r,.r,.r,.r,.r,.r,.r,.r,.r,.r,.r,.r,.r,.r,.r,.r,.r,.r,.r,.r,.r,.ar,.r,.r,trivial⟩,.r,.r,.r,ft ⟨.r,.aW,.aW,.r,trivial⟩,trivial⟩,by rfl⟩
 ·rename_i aH;rw[List.length_map]at aH h;rw[aH,h];refine⟨[.dQ 2 10],?_⟩;conv=>whnf
  exact⟨.r,⟨.r,ch (by show _=E.hist.map cB;rw[CT]),ch (by show _=E.dbts.map db;rw[CU]),.r,ft ⟨.r,.aW,.aW,.r,trivial⟩,trivial⟩,by rfl⟩
def xK(s:Mem)(first:aQ)(aE:List (List Int)):Mem:=
 bif bR (c3 first aE aE.length).mem s.self then dO {s with first:=first,hist:=aE,cont:=[]} (c3 first aE aE.length)else {s with cont:=(c3 first aE aE.length).mem}
def gH(s:Mem)(first:aQ)(aE:List (List Int))(k:Nat):Nat->Mem
 |0=>s
 |j+1=>bif decide ((gH s first aE k j).status=1)then dO {gH s first aE k j with hist:=(gH s first aE k j).hist++ [aE.getD (k+j) []]} (c3 first aE (k+j+1))else gH s first aE k j
def lf(s:Mem)(first:aQ)(aE:List (List Int)):Mem:=
 bif !ka first s.first||decide ((aE.length:Int)<=(s.hist.length:Int))then s
 else bif gA (fun i=>fK (s.hist.getD i []) (aE.getD i [])) s.hist.length then gH s first aE s.hist.length (aE.length-s.hist.length)else s
theorem Ue{first:aQ}{aE:List (List Int)}(aS:aE.length<=400):IntKind.i64.wrap ((((hX first aE aE.length).map bN).length:Int)-1)=((aE.length:Nat):Int)/\((hX first aE aE.length).map bN)[aE.length]?=some (bN (c3 first aE aE.length)):=by
 rw[List.length_map,sJ first aE aE.length,dC (by omega) (by omega)];refine⟨by omega,?_⟩;rw[List.getElem?_map,xD first aE aE.length _ (Nat.le_refl _)];rfl
theorem agV(s:Mem)(first:aQ)(aE:List (List Int))(bY: (hD first aE).2=true)(al:∀c∈aE,kx c)(bM:s.status=0)(aX:List dj):
  b0 Tryz.prog 53 (eb s aX) [.aP 0 0,.agg (ie (rH first aE))] [true,false,false,true] (eb (xK s first aE) aX) (.a1 []):=by
 obtain⟨cx,cM,gl,kK⟩:=ue bY;have ea:=xC cx aE aE.length;have gT:=(kM cx).2;have az:=xE first (by omega) aE (by omega) (fun c h=>by have:=(al c h).1;omega)
 rw[kK]at az;have rE:=Ue (first:=first) (aE:=aE) (by omega);have aH:decide (s.status=0)=true:=by rw[bM];rfl
 have aG:=hp (c3 first aE aE.length).mem (by exact Nat.le_trans ea (by decide)) s.self;have a7:=o0 first (by omega)
 have b5:=TW aE (by omega) (fun c h=>by have:=(al c h).1;omega);have du:=LX {s with first:=first,hist:=aE,cont:=[]} (c3 first aE aE.length) (by omega) aX;have iU:=mw (c3 first aE aE.length).mem (by omega);have CT: (dO {s with first:=first,hist:=aE,cont:=[]} (c3 first aE aE.length)).hist=aE:=CE _ _;have CU: (dO {s with first:=first,hist:=aE,cont:=[]} (c3 first aE aE.length)).dbts=[]:=(vI _ _).2.1;unfold xK;generalize c3 first aE aE.length=V at *
 generalize hX first aE aE.length=A at *
 generalize dO {s with first:=first,hist:=aE,cont:=[]} V=E at *;generalize bR V.mem s.self=Uf at *;refine hd Tryz.func53 ?_;repeat' ((conv=>whnf);first|refine eC (by assumption) ?_| (refine be ?_ ?_<;>intro h)|refine And.intro (by kernel_rfl) ?_|refine .inl ⟨_,_,aD _,az,?_⟩|refine⟨aE.length,bN V,And.intro rE ?_⟩|refine .inl ⟨_,_,aD _,aG,?_⟩|refine .inl ⟨_,_,aD _,a7,?_⟩|refine .inl ⟨_,_,aD _,iU,?_⟩|refine .inr ⟨[],[],_,[],_,_,b5,by rfl,trivial,⟨.r,trivial⟩,?_⟩|fail)
 all_goals(conv=>whnf)
 ·have CV:Uf=false:=by simpa using h
  rw[CV];refine⟨[],?_⟩;conv=>whnf
  exact⟨.r,⟨.r,.r,.r,.r,ft ⟨.r,.aW,.aW,.r,trivial⟩,trivial⟩,by rfl⟩
 ·have CV:Uf=true:=by simpa using h
  rw[CV];repeat' ((conv=>whnf);first|refine And.intro (by kernel_rfl) ?_|refine .inr ⟨[0,8,2,3],_,_,_,_,_,du,by rfl,⟨j9 ⟨.r,.r,.ar,.r,.r,.r,.r,.r,.r,.r,.r,.r,.r,.r,.r,.r,.r,.r,.r,.r,.r,.r,.r,.r,.r,.r,.r,.r,.r,.r,trivial⟩,.r,.r,.r,trivial⟩,⟨.r,.r,trivial⟩,?_⟩|fail)
  conv=>whnf
  refine⟨[.dQ 1 8,.dQ 2 10],?_⟩;conv=>whnf
  exact⟨.r,⟨.r,ch (by show _=E.hist.map cB;rw[CT]),ch (by show _=E.dbts.map db;rw[CU]),.r,ft ⟨.r,.aW,.aW,.r,trivial⟩,trivial⟩,by rfl⟩
theorem Ug(s:Mem)(first:aQ)(aE:List (List Int))(k:Nat):∀j,(gH s first aE k j).hist.length<=s.hist.length+j/\(gH s first aE k j).self=s.self
 |0=>⟨Nat.le_refl _,rfl⟩
 |j+1=>by
  have aN:=Ug s first aE k j
  unfold gH;cases decide ((gH s first aE k j).status=1)
  ·exact⟨by simp only[cond_false];omega,aN.2⟩
  ·simp only[cond_true,CE,List.length_append,List.length_cons,List.length_nil];refine⟨by omega,?_⟩;have:=(vI {gH s first aE k j with hist:=(gH s first aE k j).hist++ [aE.getD (k+j) []]} (c3 first aE (k+j+1))).2.2.2.2.1;rw[this];exact aN.2
theorem Uh{s:Mem}{first:aQ}{aE:List (List Int)}{k j:Nat}(h:decide ((gH s first aE k j).status=1)=false):∀n,gH s first aE k (j+n)=gH s first aE k j
 |0=>rfl
 |n+1=>by
  have aN:=Uh h n;show (bif decide ((gH s first aE k (j+n)).status=1)then _ else gH s first aE k (j+n))=_;rw[aN,h];rfl
theorem agW(s:Mem)(bp:s.hist.length<=1000)(agX:∀c∈s.hist,c.length<=1000)(Ui:s.first.mem.length<=1000)(first:aQ)(aE:List (List Int))(bY: (hD first aE).2=true)(al:∀c∈aE,kx c)(bM:s.status=1)(aX:List dj):
  b0 Tryz.prog 53 (eb s aX) [.aP 0 0,.agg (ie (rH first aE))] [true,false,false,true] (eb (lf s first aE) aX) (.a1 []):=by
 obtain⟨cx,cM,gl,kK⟩:=ue bY;have ea:=xC cx aE;have gT:=(kM cx).2;have az:=xE first (by omega) aE (by omega) (fun c h=>by have:=(al c h).1;omega)
 rw[kK]at az;have fx:=xD first aE aE.length
 have rE:=Ue (first:=first) (aE:=aE) (by omega);have lW:∀j,j<aE.length->((hX first aE aE.length).map bN)[j+1]?=some (bN (c3 first aE (j+1))):=fun j ai=>by
  rw[List.getElem?_map,fx _ (by omega)];rfl
 have aG:=ub first s.first (Nat.le_trans gT (by decide))
 have aH:decide (s.status=0)=false:=by rw[bM];rfl
 have Uj:lf s first aE=bif !ka first s.first||decide ((aE.length:Int)<=(s.hist.length:Int))then s
  else bif gA (fun i=>fK (s.hist.getD i []) (aE.getD i [])) s.hist.length then gH s first aE s.hist.length (aE.length-s.hist.length)else s:=rfl
 rw[Uj];clear Uj fx;generalize hX first aE aE.length=A at *
 generalize LD:ka first s.first=kG at *
 refine hd Tryz.func53 ?_;repeat' ((conv=>whnf);first|refine bc ?_|refine dE (by assumption) ?_| (refine be ?_ ?_<;>intro h)|refine And.intro (by kernel_rfl) ?_|refine And.intro ⟨fun h=>h,fun h=>h⟩ ?_|refine .inl ⟨_,_,aD _,az,?_⟩|refine⟨aE.length,bN (c3 first aE aE.length),And.intro rE ?_⟩|refine .inl ⟨_,_,aD _,aG,?_⟩|fail)
 all_goals(conv=>whnf)
 ·have ae: (!kG||decide ((aE.length:Int)<=(s.hist.length:Int)))=true:=by
   rw[List.length_map,List.length_map]at h;exact h
  rw[ae];refine⟨[],?_⟩;conv=>whnf
  exact⟨.r,⟨.r,.r,.r,.r,ft ⟨.r,.aW,.aW,.r,trivial⟩,trivial⟩,by rfl⟩
 ·have ae: (!kG||decide ((aE.length:Int)<=(s.hist.length:Int)))=false:=by
   rw[List.length_map,List.length_map]at h;exact h
  rw[ae];have KB:s.hist.length<aE.length:=by
   simp only[Bool.or_eq_false_iff,decide_eq_false_iff_not]at ae;omega
  clear h ae;refine⟨Nat,fun i=>⟨[(0,.aP 0 0),(3,.aP 5 0),(4,.aq 2 (A.map bN) false),(7,i64 s.hist.length),(96,.own 1),(97,i64 s.hist.length),(98,i64 i)],[.cells 116 (gR s (.own 1) (.own 2) (.own 3)),.row 22 1 (s.hist.map cB),.row 150 2 (s.dbts.map db),.row 121 2 (aX.map eU),.b6 [.aP 0 0,.own 1,.own 2,.own 3],.cells 110 (ie (rH first aE))]⟩,fun i=>i<=s.hist.length/\∀j,j<i->fK (s.hist.getD j []) (aE.getD j [])=true,fun i=>s.hist.length-i,[],⟨0,⟨Nat.zero_le _,by omega⟩,?_⟩,?_⟩
  ·conv=>whnf
   exact⟨⟨.r,.r,.r,aV (by simp),.r,aV (by simp),.r,trivial⟩,⟨.r,.r,.r,.r,.r,.r,trivial⟩,by rfl⟩
  ·intro i ⟨ab,bQ⟩;repeat' ((conv=>whnf);first| (refine be ?_ ?_<;>intro h)|fail)
   ·have ap:i<s.hist.length:=by simpa using h
    clear h;have eY:i<(s.hist.map cB).length:=by rw[List.length_map];exact ap
    have b7: (s.hist.map cB)[i]?=some (cB s.hist[i]):=cE ap;have CF: (aE.map cB)[i]?=some (cB (aE[i]'(by omega))):=cE (by omega);have a7:=Jw s.hist[i] (aE[i]'(by omega)) (Nat.le_trans (agX _ (List.getElem_mem ap)) (by decide));have vd:fK (s.hist.getD i []) (aE.getD i [])=fK s.hist[i] (aE[i]'(by omega)):=by
     rw[show s.hist.getD i []=s.hist[i] by simp[ap],show aE.getD i []=aE[i]'(by omega) by simp[show i<aE.length by omega]]
    repeat' ((conv=>whnf);first| (refine be ?_ ?_<;>intro h)|refine⟨i,And.intro ⟨rfl,eY⟩ ?_⟩|refine⟨cB s.hist[i],And.intro b7 ?_⟩|refine⟨i,cB (aE[i]'(by omega)),And.intro ⟨rfl,CF⟩ ?_⟩|refine .inl ⟨_,_,aD _,a7,?_⟩|fail)
    all_goals(conv=>whnf)
    ·have aI:gA (fun i=>fK (s.hist.getD i []) (aE.getD i [])) s.hist.length=false:=pB ap (by rw[vd];simpa using h);rw[aI];refine⟨[],?_⟩;conv=>whnf
     exact⟨.r,⟨.r,.r,.r,.r,ft ⟨.r,.aW,.aW,.r,trivial⟩,trivial⟩,by rfl⟩
    ·refine⟨i+1,⟨ap,fun j ai=> ?_⟩,by simp only[];omega,?_⟩
     ·by_cases hf:j=i
      ·subst hf;rw[vd];simpa using h
      ·exact bQ j (by omega)
     ·conv=>whnf
      exact⟨⟨.r,.r,.r,.r,.r,.r,aV (bH (by omega)),trivial⟩,⟨.r,.r,.r,.r,.r,.r,trivial⟩,by rfl⟩
   ·have:i=s.hist.length:=by
     simp at h;omega
    subst this;clear h;rw[gB.2 (fun j ai=>bQ j ai)];clear bQ az aG rE;have kV:=Ug s first aE s.hist.length
    have ri:∀j,gH s first aE s.hist.length (j+1)=bif decide ((gH s first aE s.hist.length j).status=1)then dO {gH s first aE s.hist.length j with hist:=(gH s first aE s.hist.length j).hist++ [aE.getD (s.hist.length+j) []]} (c3 first aE (s.hist.length+j+1))else gH s first aE s.hist.length j:=fun _=>rfl
    have k9:gH s first aE s.hist.length 0=s:=rfl
    have agY:=fun j h n=>Uh (s:=s) (first:=first) (aE:=aE) (k:=s.hist.length) (j:=j) h n;generalize gH s first aE s.hist.length=X at *
    repeat' ((conv=>whnf);first|refine bc ?_|fail)
    all_goals(conv=>whnf)
    refine⟨Nat,fun j=>⟨[(0,.aP 0 0),(3,.aP 5 0),(4,.aq 2 (A.map bN) false),(10,i64 (s.hist.length+j:Nat))],[.cells 116 (gR (X j) (.own 1) (.own 2) (.own 3)),.row 22 1 ((X j).hist.map cB),.row 150 2 ((X j).dbts.map db),.row 121 2 (aX.map eU),.b6 [.aP 0 0,.aW,.aW,.own 3],.cells 110 (ie (rH first aE))]⟩,fun j=>s.hist.length+j<=aE.length,fun j=>aE.length-j,[.swap 2 9],⟨0,by omega,?_⟩,?_⟩
    ·conv=>whnf
     exact⟨⟨.r,.r,.r,.r,trivial⟩,⟨by show fF _ (.cells _ (gR (X 0) (.own 1) (.own 2) (.own 3)));rw[k9];exact .refl,by show fF _ (.row _ _ ((X 0).hist.map cB));rw[k9];exact .refl,by show fF _ (.row _ _ ((X 0).dbts.map db));rw[k9];exact .refl,.r,ft ⟨.r,.aW,.aW,.r,trivial⟩,.r,trivial⟩,by rfl⟩
    ·intro j ai;repeat' ((conv=>whnf);first|refine bc ?_| (refine be ?_ ?_<;>intro h)|fail)
     ·have h1:s.hist.length+j<aE.length/\decide ((X j).status=1)=true:=by
       simp only[List.length_map,Bool.and_eq_true,decide_eq_true_eq]at h;have ad: ((s.hist.length+j:Nat):Int)<(aE.length:Int):=h.1;exact⟨by omega,by simpa using h.2⟩
      clear h;obtain⟨ap,h1⟩:=h1;have CF: (aE.map cB)[s.hist.length+j]?=some (cB aE[s.hist.length+j]):=cE ap;have fU:=(al _ (List.getElem_mem ap)).1;have la:aE.getD (s.hist.length+j) []=aE[s.hist.length+j]:=by simp[ap]
      have du:=LX {X j with hist:=(X j).hist++ [aE.getD (s.hist.length+j) []]} (c3 first aE (s.hist.length+j+1)) (by have:=ea (s.hist.length+j+1);omega) aX;have GA:=ri j;rw[h1,cond_true]at GA;rw[<-GA]at du;have CT: (X (j+1)).hist=(X j).hist++ [aE.getD (s.hist.length+j) []]:=by rw[GA];exact CE _ _
      have CU: (X (j+1)).dbts=[]:=by rw[GA];exact(vI _ _).2.1
      have dR: (X j).hist.map cB++ [cB aE[s.hist.length+j]]=((X j).hist++ [aE.getD (s.hist.length+j) []]).map cB:=by
       rw[la,List.map_append];rfl
      have Oh:=(kV j).1;have aI: ((X j).hist.map cB).length+1<=2000000:=by rw[List.length_map];omega
      repeat' ((conv=>whnf);first|refine And.intro (by kernel_rfl) ?_|refine⟨s.hist.length+j,cB aE[s.hist.length+j],And.intro ⟨rfl,CF⟩ ?_⟩|refine .inl ⟨_,_,aD _,mw _ (by omega),?_⟩|refine And.intro (xy aI) ?_|refine⟨s.hist.length+j+1,bN (c3 first aE (s.hist.length+j+1)),And.intro ⟨bH (by omega),lW _ ap⟩ ?_⟩|refine .inr ⟨[0,1,2,3],_,_,_,_,_,du,by rfl,⟨.r,ch dR,.r,.r,trivial⟩,⟨.r,.r,trivial⟩,?_⟩|refine Exists.intro false ?_|fail)
      all_goals(conv=>whnf)
      refine⟨j+1,by omega,by simp only[];omega,?_⟩;conv=>whnf
      exact⟨⟨.r,.r,.r,aV (bH (by omega)),trivial⟩,⟨.r,ch (by rw[CT]),ch (by rw[CU]),.r,.r,.r,trivial⟩,by rfl⟩
     ·have oP:X j=X (aE.length-s.hist.length):=by
       by_cases ap:s.hist.length+j<aE.length
       ·have h1:decide ((X j).status=1)=false:=by
         simp only[List.length_map,Bool.and_eq_false_iff,decide_eq_false_iff_not]at h;rcases h with h|h
         ·exfalso;have ad:¬((s.hist.length+j:Nat):Int)<(aE.length:Int):=h;omega
         ·simpa using h
        have:=agY j h1 (aE.length-s.hist.length-j);rw[<-this];congr 1;omega
       ·have:j=aE.length-s.hist.length:=by omega
        rw[<-this]
      clear h;rw[<-oP];repeat' ((conv=>whnf);first|refine bc ?_|fail)
      all_goals(conv=>whnf)
      refine⟨[],?_⟩;conv=>whnf
      exact⟨.r,⟨.r,.r,.r,.r,.r,trivial⟩,by rfl⟩
theorem CW{v:aQ}{a:ca}(h:jz v a=true):bX v=true/\a.view=v.num/\k5 a=true/\a.dN<((dq v.mem a.cj).length:Int)/\(dq v.mem a.cj).getD a.dN.toNat 0=a.w6:=by
 unfold jz at h;cases al: (!bX v|| !decide (a.view=v.num)|| !k5 a)
 ·rw[al,cond_false,Bool.and_eq_true,decide_eq_true_eq,decide_eq_true_eq]at h;simp only[Bool.or_eq_false_iff,Bool.not_eq_false',decide_eq_true_eq]at al;exact⟨al.1.1,al.1.2,al.2,h.1,h.2⟩
 ·rw[al]at h;simp at h
theorem agZ{v:aQ}{a b:ca}(aZ:jz v a=true)(ae:jz v b=true)(h1:a.cj=b.cj)(ad:a.dN=b.dN):a=b:=by
 have Fa:=CW aZ;have Uk:=CW ae;obtain⟨lD,akK,ag0,akL⟩:=a;obtain⟨bv,akM,ag1,aeN⟩:=b;simp only[]at *;subst h1 ad;have az:lD=bv:=Fa.2.1.trans Uk.2.1.symm;have aG:ag0=ag1:=Fa.2.2.2.2.symm.trans Uk.2.2.2.2;rw[az,aG]
end Go.Proofs.YtdcfooeoaoahjaaGreat
