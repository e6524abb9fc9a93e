/- The laws of this seat, part OwB: contracts of the functions, plain laws. No conditions. -/
import Derived.Test.YtdcfooeoaoahjaaGreatOwA
import Derived.Test.YtdcfooeoaoahjaaGreatLfC
set_option linter.unusedSimpArgs false
set_option linter.unusedVariables false
set_option maxRecDepth 100000
set_option maxHeartbeats 16000000
namespace Go.Proofs.YtdcfooeoaoahjaaGreat
open Go.Lift
structure bj where
 self:Int
 view:aK
 aP:ky
 prop:List Int
 box:List c6
 aD:Int
 phase:Int
 bw:List cj
 c4:List Int
 aQ:List cj
 dec:List Int
 cG:Int
structure c0 where
 kind:Int
 view:Int
 src:Int
 aD:Int
 cT:Int
 cut:List Int
structure dO where
 da:Int
 m:c0
def de(s:bj):List ak:=[i64 s.self,i64 s.view.num,.ar 1 (s.view.mem.map aM) false,i64 s.aP.cg,i64 s.aP.aD,.ar 1 (s.aP.cut.map aM) false,.ar 1 (s.prop.map aM) false,.ar 2 (s.box.map ee) false,i64 s.aD,i64 s.phase,.ar 3 (s.bw.map bZ) false,.ar 1 (s.c4.map aM) false,.ar 3 (s.aQ.map bZ) false,.ar 1 (s.dec.map aM) false,i64 s.cG]
def p0(m:c0):List ak:=[i64 m.kind,i64 m.view,i64 m.src,i64 m.aD,i64 m.cT,.ar 1 (m.cut.map aM) false]
def fu(p:dO):List ak:=[i64 p.da,i64 p.m.kind,i64 p.m.view,i64 p.m.src,i64 p.m.aD,i64 p.m.cT,.ar 1 (p.m.cut.map aM) false]
def gb(v:aK)(c:List Int):Bool:=decide ((dJ v c).2=0)
def gN(v:aK)(r:Int):Bool:= !decide (h7 r=0)&&bH v.mem (h7 r)
def jT(v:aK)(c:List Int):Bool:=decide ((c.length:Int)=0)||gb v c
theorem HL(v:aK)(ab:v.mem.length<=maxLen)(r:Int):bl Tryz.prog 112 [.agg (cc v),i64 r] (.v (.bool (gN v r))):=by
 refine b9 (fn:=Tryz.f112) (c:=Tryz.f112.body.getD .skip) aA ay (by rfl) Tryz.func112 (by rfl) (by rfl) (by rfl) (by rfl) ?_;repeat' ((conv=>whnf);first|refine be ?_|exact .refl|refine dr ?_|refine aS (LX _) ?_|refine dz (jq _ ab _) ?_|fail)
theorem R6(v:aK)(ab:v.mem.length<=500000)(cut:List Int)(aj:cut.length<=500000):bl Tryz.prog 163 [.agg (cc v),.ar 1 (cut.map aM) false] (.v (.bool (gb v cut))):=by
 refine b9 (fn:=Tryz.f163) (c:=Tryz.f163.body.getD .skip) aA ay (by rfl) Tryz.func163 (by rfl) (by rfl) (by rfl) (by rfl) ?_;repeat' ((conv=>whnf);first|exact .refl|refine aS (Ej _ ab _ aj) ?_|fail)
theorem aar(v:aK)(ab:v.mem.length<=500000)(cut:List Int)(aj:cut.length<=500000):bl Tryz.prog 179 [.agg (cc v),.ar 1 (cut.map aM) false] (.v (.bool (gb v cut))):=by
 refine b9 (fn:=Tryz.f179) (c:=Tryz.f179.body.getD .skip) aA ay (by rfl) Tryz.func179 (by rfl) (by rfl) (by rfl) (by rfl) ?_;repeat' ((conv=>whnf);first|exact .refl|refine aS (Ej _ ab _ aj) ?_|fail)
theorem L5(v:aK)(ab:v.mem.length<=500000)(cut:List Int)(aj:cut.length<=500000):bl Tryz.prog 113 [.agg (cc v),.ar 1 (cut.map aM) false] (.v (.bool (jT v cut))):=by
 have e:jT v cut=(decide (((cut.map aM).length:Int)=0)||gb v cut):=by rw[bF];rfl
 rw[e];refine b9 (fn:=Tryz.f113) (c:=Tryz.f113.body.getD .skip) aA ay (by rfl) Tryz.func113 (by rfl) (by rfl) (by rfl) (by rfl) ?_;repeat' ((conv=>whnf);first|refine be ?_|exact .refl|refine dr ?_|refine dz (R6 _ ab _ aj) ?_|fail)
theorem qE(l:List Int)(af:l.length<=1000000):bl Tryz.prog 125 [.ar 1 (l.map aM) false] (.ar 1 (l.map aM) false):=by
 have iY: (l.map aM).length* (aF ag 3).bytes<=140737488355328:=by
  have e: (aF ag 3).bytes=8:=by rfl
  grind
 have tB: (l.map aM).length<=maxLen:=by simp only[maxLen];grind
 refine b9 (fn:=Tryz.f125) (c:=Tryz.f125.body.getD .skip) aA ay (by rfl) Tryz.func125 (by rfl) (by rfl) (by rfl) (by rfl) ?_;repeat' ((conv=>whnf);first|refine⟨(l.map aM).length,(l.map aM).length,rfl,rfl,bP _,iY,tB,?_⟩|fail)
 all_goals(conv=>whnf)
 refine ig ?_
 grind
def gg:bj:=⟨0,⟨0,[]⟩,⟨0,0,[]⟩,[],[],0,0,[],[],[],[],0⟩
def k9(v:aK)(self:Int):bj×Int:=bif !b0 v|| !bH v.mem self then(gg,1)else(⟨self,v,⟨0,-1,[]⟩,[],[],0,0,[],[],[],[],0⟩,0)
theorem HM(v:aK)(ab:v.mem.length<=500000)(self:Int):bl Tryz.prog 70 [.agg (cc v),i64 self] (.bd [.agg (de (k9 v self).1),i64 (k9 v self).2]):=by
 have h1:v.mem.length<=maxLen:=bQ ab (by decide);refine b9 (fn:=Tryz.f70) (c:=Tryz.f70.body.getD .skip) aA ay (by rfl) Tryz.func70 (by rfl) (by rfl) (by rfl) (by rfl) ?_;repeat' ((conv=>whnf);first|refine be ?_| (apply bh<;>intro h)|refine cd ?_|refine dr ?_|refine aS (ri _ h1) ?_|refine dz (jq _ h1 _) ?_|refine aS (qE _ (by omega)) ?_|refine aS ali ?_|fail)
 all_goals(conv=>whnf)
 all_goals simp only[k9,h,bY,bs]
 ·exact eO ⟨h6 ⟨.r,.r,.av,.r,.r,.av,.av,.av,.r,.r,.av,.av,.av,.av,.r,ai⟩,.r,ai⟩
 ·exact eO ⟨h6 ⟨.r,.r,.r,.r,.r,.r,.av,.av,.r,.r,.av,.av,.av,.av,.r,ai⟩,.r,ai⟩
def eJ(v:aK)(m:c0):Bool:=
 bif !b0 v|| !bH v.mem m.src|| !decide (m.view=v.num)then false
 else bif decide (m.kind=1)||decide (m.kind=6)then decide (m.aD=0)&&decide (m.cT=0)&&gb v m.cut
 else bif decide (m.kind=2)then gN v m.aD&&decide (h7 m.aD=m.src)&&decide (m.cT=0)&&decide ((m.cut.length:Int)=0)
 else bif decide (m.kind=3)then gN v m.aD&& !decide (m.aD<m.cT)&& (decide (m.cT= -1)&&decide ((m.cut.length:Int)=0)|| (decide (m.cT=0)||gN v m.cT)&&gb v m.cut)
 else bif decide (m.kind=4)then gN v m.aD&&decide (h7 m.aD=m.src)&&decide (m.cT=0)&&gb v m.cut
 else bif decide (m.kind=5)then gN v m.aD&&decide (m.cT=0)&&gb v m.cut
 else false
theorem zD(v:aK)(ab:v.mem.length<=500000)(m:c0)(aj:m.cut.length<=500000):bl Tryz.prog 146 [.agg (cc v),.agg (p0 m)] (.v (.bool (eJ v m))):=by
 have h1:v.mem.length<=maxLen:=bQ ab (by decide);have fw: ((m.cut.map aM).length:Int)=(m.cut.length:Int):=by simp
 refine b9 (fn:=Tryz.f146) (c:=Tryz.f146.body.getD .skip) aA ay (by rfl) Tryz.func146 (by rfl) (by rfl) (by rfl) (by rfl) ?_;repeat' ((conv=>whnf);first|refine be ?_|refine fZ (by assumption) ?_| (apply bh<;>intro h)|refine cd ?_|refine dr ?_|refine aS (ri _ h1) ?_|refine dz (jq _ h1 _) ?_|refine dz (R6 _ ab _ aj) ?_|refine aS (HL _ h1 _) ?_|refine dz (HL _ h1 _) ?_|refine dz (LX _) ?_|fail)
 all_goals(conv=>whnf)
 all_goals(refine fY ?_)
 all_goals(try rw[fw])
 all_goals(try rw[fw]at *)
 all_goals(simp only[eJ, *,bY,bs,Oi,FF,Ap,CX])
 all_goals grind
def jU:c6:=⟨0,[]⟩
def BR(v:aK)(l:List c6)(i:Nat):Bool:= !(!bH v.mem (l.getD i jU).mem||decide (0<(i:Int))&&decide ((l.getD i jU).mem<=(l.getD (i-1) jU).mem)|| !gb v (l.getD i jU).cut)
def hX(v:aK)(l:List c6):Bool:=b0 v&&ih (BR v l) l.length
variable{v:aK}
theorem uc(ab:b0 v=true){l:List c6}:hX v l=true↔ (∀b∈l,bH v.mem b.mem=true/\gb v b.cut=true)/\List.Pairwise (λa b:c6=>a.mem<b.mem) l:=by
 rw[hX,ab,rH,ij];have cw:∀i (hi:i<l.length),BR v l i=true↔ (bH v.mem l[i].mem=true/\gb v l[i].cut=true)/\(0<i->(l.getD (i-1) jU).mem<l[i].mem):=by
  intro i hi;have aw:l.getD i jU=l[i]:=by grind
  simp only[BR,aw,mV,iK,l3,uD,hG]
  grind
 constructor
 ·intro h;have h1:∀i (hi:i<l.length),(bH v.mem l[i].mem=true/\gb v l[i].cut=true)/\(0<i->(l.getD (i-1) jU).mem<l[i].mem):=λi hi=>(cw i hi).1 (h i hi);refine⟨λr ao=> ?_,?_⟩
  ·obtain⟨i,hi,rfl⟩:=e8 ao
   grind
  ·rw[mz];intro i j hi aq fW;obtain⟨d,rfl⟩:∃d,j=i+1+d:=⟨j- (i+1),by omega⟩
   clear fW;induction d with
   |zero=>
    grind
   |succ d aY=>
    grind
 ·rintro⟨h1,ad⟩ i hi;refine(cw i hi).2 ⟨h1 _ (eM hi),λaR=> ?_⟩;have hd:i-1<l.length:=by omega
  have:=mz.1 ad (i-1) i hd hi (by omega)
  grind
def gI:List c6->Int->Nat
 | [],_=>0
 |r::l,m=>if r.mem<m then gI l m+1 else 0
def iB(l:List c6)(r:c6):List c6:=l.take (gI l r.mem)++ [r]++l.drop (gI l r.mem)
def la(l:List c6)(x:Int):Int:=lx (λi=>decide ((l.getD i jU).mem=x)) l.length
theorem L6(l:List c6)(m:Int):gI l m<=l.length:=by
 induction l with
 |nil=>exact bP _
 |cons r l aY=>simp only[gI,lI];split<;>omega
theorem aas{m:Int}:∀ {l:List c6} {i:Nat},i<gI l m->(af:i<l.length)->l[i].mem<m
 |r::l,i,h,af=>by
  simp only[gI]at h;split at h
  ·rename_i ao;cases i with
   |zero=>exact ao
   |succ i=>exact aas (l:=l) (by omega) (by grind)
  ·omega
theorem aat(l:List c6)(r:c6): (iB l r).length=l.length+1:=by
 have:=L6 l r.mem;simp[iB];omega
variable{l:List c6}
theorem zE{r x:c6}(h:x∈iB l r):x=r\/x∈l:=by
 simp only[iB,eo,eX]at h
 grind
def p1(l:List c6)(r:c6)(i:Nat):List c6:=bif decide (gI l r.mem<i)then l.take (gI l r.mem)++ [r]++(l.take i).drop (gI l r.mem)else l.take i
theorem alG(l:List c6)(r:c6)(i:Nat): (p1 l r i).length<=i+1:=by
 have:=L6 l r.mem;unfold p1;cases h:decide (gI l r.mem<i)<;>simp at h<;>simp<;>omega
theorem aau{m:Int}:∀ {l:List c6} (h:gI l m<l.length),m<=l[gI l m].mem
 |r::l,h=>by
  by_cases ao:r.mem<m
  ·have e:gI (r::l) m=gI l m+1:=by simp[gI,ao]
   have ad:gI l m<l.length:=by grind
   have:=aau ad
   grind
  ·have e:gI (r::l) m=0:=by simp[gI,ao]
   grind
theorem alH{l:List c6}{r:c6}{i:Nat}(hi:i<l.length)(h: (!decide (gI l r.mem<i)&&decide (r.mem<=l[i].mem))=true):gI l r.mem=i:=by
 simp only[cq,mV,hG,fr]at h;rcases l5 i (gI l r.mem)with h1|h1
 ·have:=aas h1 hi;omega
 ·omega
theorem alI{l:List c6}{r:c6}{i:Nat}(hi:i<l.length)(h: (!decide (gI l r.mem<i)&&decide (r.mem<=l[i].mem))=false):gI l r.mem≠i:=by
 intro e;have h1:=aau (l:=l) (m:=r.mem) (by omega)
 grind
theorem alJ{l:List c6}{r:c6}{i:Nat}(hi:i<l.length)(h:gI l r.mem=i):p1 l r i++ [r]++ [l[i]]=p1 l r (i+1):=by
 have aC:decide (gI l r.mem<i)=false:=by grind
 have aG:decide (gI l r.mem<i+1)=true:=by grind
 simp only[p1,aC,aG,bY,bs,h];rw[e4 hi,FJ (by grind)];simp
theorem alK{l:List c6}{r:c6}{i:Nat}(hi:i<l.length)(h:gI l r.mem≠i):p1 l r i++ [l[i]]=p1 l r (i+1):=by
 rcases l5 (gI l r.mem) i with h1|h1
 ·have aC:decide (gI l r.mem<i)=true:=by grind
  have aG:decide (gI l r.mem<i+1)=true:=by grind
  simp only[p1,aC,aG,bY];rw[e4 hi,FJ (by grind)];simp
 ·have aC:decide (gI l r.mem<i)=false:=by grind
  have aG:decide (gI l r.mem<i+1)=false:=by grind
  simp only[p1,aC,aG,bs];simp
theorem alL{l:List c6}{r:c6}(h:decide (gI l r.mem<l.length)=true):p1 l r l.length=iB l r:=by
 simp only[p1,h,bY,iB,fU]
theorem alM{l:List c6}{r:c6}(h:decide (gI l r.mem<l.length)=false):p1 l r l.length++ [r]=iB l r:=by
 have:=L6 l r.mem;have e:gI l r.mem=l.length:=by grind
 simp only[p1,h,bs,iB];simp[e]
theorem alN{l:List c6}{r:c6}{i:Nat}(h:gI l r.mem≠i):decide (gI l r.mem<i)=decide (gI l r.mem<i+1):=by
 grind
theorem alO{r:c6}(an:List.Pairwise (λa b:c6=>a.mem<b.mem) l):List.Pairwise (λa b:c6=>a.mem<b.mem) (iB l r)↔∀x∈l,x.mem≠r.mem:=by
 induction l with
 |nil=>simp[iB]
 |cons y l aY=>
  rw[rL]at an;by_cases bn:y.mem<r.mem
  ·have e:iB (y::l) r=y::iB l r:=by simp[iB,gI,bn]
   have aA:∀z,z∈iB l r↔z=r\/z∈l:=λz=>by
    constructor
    ·exact zE
    ·intro h;simp only[iB,eo,eX];rcases h with rfl|h
     ·simp
     ·rw[<-Aw (gI l r.mem) l,eo]at h
      grind
   rw[e,rL,aY an.2]
   grind
  ·have e:iB (y::l) r=r::y::l:=by simp[iB,gI,bn]
   rw[e,rL];constructor
   ·grind
   ·intro h;refine⟨λz bx=> ?_,rL.2 an⟩
    grind
variable{x:Int}
theorem R7(h:decide (0<=la l x)=false):∀r∈l,r.mem≠x:=by
 intro r ao e;obtain⟨i,hi,rfl⟩:=e8 ao;have an:∃n,lx (λi=>decide ((l.getD i jU).mem=x)) l.length=((n:Nat):Int):=by
  rcases az: (List.range l.length).find? (λi=>decide ((l.getD i jU).mem=x))with _|n
  ·simp_all
  ·exact⟨n,by simp only[lx,az]⟩
 obtain⟨n,aW⟩:=an;simp only[la,aW,hG]at h;omega
theorem aav(h:decide (0<=la l x)=true):∃r∈l,r.mem=x:=by
 refine qg λaW=> ?_;have ct:∀j,j<l.length->decide ((l.getD j jU).mem=x)=false:=λj aq=>by
  grind
 rw[la,tQ ct]at h;cases h
def h8(v:aK)(l:List c6)(b:c6):List c6×Int:=
 bif !hX v l|| !gb v b.cut then([],1)
 else bif !bH v.mem b.mem then([],6)
 else bif decide (0<=la l b.mem)then([],7)
 else(iB l b,0)
def ju(v:aK)(l:List c6):List Int×Bool:=
 bif !hX v l then([],false)
 else match l.find? (λb=>decide (tZ v.mem.length<=(iG l b.cut:Int)))with
  |some b=>(b.cut,true)
  |none=>([],false)
theorem R8(v:aK)(ab:v.mem.length<=500000)(l:List c6)(af:l.length<=maxLen)(aj:∀r∈l,r.cut.length<=500000):bl Tryz.prog 114 [.agg (cc v),.ar 2 (l.map ee) false] (.v (.bool (hX v l))):=by
 have hs:l.length<=9223372036854775807:=af;have h1:v.mem.length<=maxLen:=bQ ab (by decide);refine b9 (fn:=Tryz.f114) (c:=Tryz.f114.body.getD .skip) aA ay (by rfl) Tryz.func114 (by rfl) (by rfl) (by rfl) (by rfl) ?_;repeat' ((conv=>whnf);first| (apply bh<;>intro h)|refine aS (ri _ h1) ?_|fail)
 ·refine fY ?_;have h:b0 v=false:=by grind
  simp[hX,h]
 ·have oF:b0 v=true:=by grind
  clear h;conv=>whnf
  refine⟨Nat,λi=>⟨[(1,.ar 2 (l.map ee) false),(2,.aV 0 0),(10,.ar 2 (l.map ee) false),(11,i64 (l.map ee).length),(12,i64 i)],[.cells 24 (cc v)]⟩,λi=>i<=l.length/\∀j,j<i->BR v l j=true,λi=>l.length-i,[],⟨0,⟨bX _,by omega⟩,?_⟩,?_⟩
  ·exact⟨by repeat' ((conv=>whnf);first|exact trivial|refine aO (by(conv=>arg 1;whnf);first| (with_reducible exact .refl)|exact aX (bW (by omega))|exact .refl) ?_|fail),by repeat' ((conv=>whnf);first|exact trivial|refine aO ?_ ?_|exact .refl|fail),rfl⟩
  ·intro i ⟨hi,ct⟩;repeat' ((conv=>whnf);first| (apply bh<;>intro h)|fail)
   ·have ax:i<l.length:=by grind
    clear h;have aw:l.getD i jU=l[i]:=by grind
    have R9:=aar v ab (l[i].cut) (aj _ (eM ax));have cw:BR v l i= !(!bH v.mem l[i].mem||decide (0<(i:Int))&&decide (l[i].mem<=(l.getD (i-1) jU).mem)|| !gb v l[i].cut):=by rw[BR,aw]
    have an:0<i->(IntKind.i64.wrap ((i:Int)-1))=((i-1:Nat):Int)/\(l.map ee)[i-1]?=some (ee (l.getD (i-1) jU)):=by
     intro aR;refine⟨by rw[dW (by omega) (by omega)];omega,?_⟩
     grind
    repeat' ((conv=>whnf);first|refine be ?_| (apply bh<;>intro h)|refine cd ?_|refine dr ?_|refine⟨_,_,aO ⟨rfl,c3 ax⟩ ?_⟩|refine aS (jq _ h1 _) ?_|refine dz R9 ?_|refine⟨i-1,ee (l.getD (i-1) jU),aO ⟨⟨λh=>h,λh=>h⟩,λaw=>an (by have:=((cq ..).mp aw).2<;>simpa using this)⟩ ?_⟩|fail)
    all_goals(conv=>whnf)
    ·refine fY ?_;have:BR v l i=false:=by grind
     rw[hX,sR ax this,oj]
    ·refine⟨i+1,⟨ax,λj aq=> ?_⟩,by grind,?_⟩
     ·grind
     ·exact⟨by repeat' ((conv=>whnf);first|exact trivial|refine aO (by(conv=>arg 1;whnf);first| (with_reducible exact .refl)|exact aX (bW (by omega))|exact .refl) ?_|fail),by repeat' ((conv=>whnf);first|exact trivial|refine aO ?_ ?_|exact .refl|fail),rfl⟩
   ·have fp:¬i<l.length:=by grind
    conv=>whnf
    refine fY ?_;rw[hX,oF,ij.2 (λj aq=>ct j (by omega))];rfl
def hY(l:List c6)(x:Int):List Int×Bool:=bif decide (0<=la l x)then((l.getD (la l x).toNat jU).cut,true)else([],false)
variable{i:Nat}
theorem alP(ax:i<l.length)(h:decide (l[i].mem=x)=true)(ct:∀j,j<i->decide ((l.getD j jU).mem=x)=false):hY l x=(l[i].cut,true):=by
 have e:la l x=(i:Int):=wR ax (by grind) ct;have aG:decide (0<=(i:Int))=true:=by simp
 simp only[hY,e,aG,bY,lH]
 grind
theorem alQ(ct:∀j,j<l.length->decide ((l.getD j jU).mem=x)=false):hY l x=([],false):=by
 have e:la l x= -1:=tQ ct;simp only[hY,e];rfl
theorem Sa(l:List c6)(af:l.length<=maxLen)(x:Int):bl Tryz.prog 115 [.ar 2 (l.map ee) false,.v (.int .i64 x)] (.bd [.ar 1 ((hY l x).1.map aM) false,.v (.bool (hY l x).2)]):=by
 have hs:l.length<=9223372036854775807:=af;refine b9 (fn:=Tryz.f115) (c:=Tryz.f115.body.getD .skip) aA ay (by rfl) Tryz.func115 (by rfl) (by rfl) (by rfl) (by rfl) ?_;repeat' ((conv=>whnf);first|refine be ?_|fail)
 refine⟨Nat,λi=>⟨[(1,.v (.int .i64 x)),(8,.ar 2 (l.map ee) false),(9,i64 (l.map ee).length),(10,i64 i)],[]⟩,λi=>i<=l.length/\∀j,j<i->decide ((l.getD j jU).mem=x)=false,λi=>l.length-i,[],⟨0,⟨bX _,by omega⟩,?_⟩,?_⟩
 ·exact⟨by repeat' ((conv=>whnf);first|exact trivial|refine aO (by(conv=>arg 1;whnf);first| (with_reducible exact .refl)|exact aX (bW (by omega))|exact .refl) ?_|fail),by repeat' ((conv=>whnf);first|exact trivial|fail),rfl⟩
 ·intro i ⟨hi,ct⟩;repeat' ((conv=>whnf);first| (apply bh<;>intro h)|fail)
  ·have ax:i<l.length:=by grind
   clear h;repeat' ((conv=>whnf);first| (apply bh<;>intro h)|refine⟨_,_,aO ⟨rfl,c3 ax⟩ ?_⟩|fail)
   all_goals(conv=>whnf)
   ·rw[alP ax h ct];exact .refl
   ·have ad:=h;refine⟨i+1,⟨ax,λj aq=> ?_⟩,by grind,?_⟩
    ·grind
    ·exact⟨by repeat' ((conv=>whnf);first|exact trivial|refine aO (by(conv=>arg 1;whnf);first| (with_reducible exact .refl)|exact aX (bW (by omega))|exact .refl) ?_|fail),by repeat' ((conv=>whnf);first|exact trivial|fail),rfl⟩
  ·have fp:¬i<l.length:=by grind
   conv=>whnf
   rw[alQ (λj aq=>ct j (by omega))];exact eO ⟨.av,.r,ai⟩
theorem rn{α:Type} [DecidableEq α]:∀ {a b:List α},a.Nodup->(∀x∈a,x∈b)->a.length<=b.length
 | [],_,_,_=>bX _
 |x::a,b,aW,ae=>by
  rw[C8]at aW;have ah:=ae x (tm ..);have:=rn (b:=b.erase x) aW.2 (λy bn=>(List.mem_erase_of_ne (λe=>aW.1 (by grind))).2 (ae y (FQ _ bn)))
  grind
theorem Sb{β:Type}{p q:β->Bool}(h:∀x,p x=true->q x=true->False):∀l:List β,(l.filter p).length+(l.filter q).length<=l.length
 | []=>bP _
 |x::l=>by
  have aY:=Sb h l
  grind
theorem s3(ab:b0 v=true):1<=v.mem.length/\v.mem.length<=16:=by
 have hM:dq v.mem 16=true:=by
  simp only[b0,cq]at ab
  grind
 rw[BC]at hM
 grind
theorem aaw(ab:b0 v=true): (!(decide (1<=(v.mem.length:Int))&&decide ((v.mem.length:Int)<=16)))=false:=by
 have aW:=s3 ab
 grind
theorem L7(ab:b0 v=true):fP v.mem.length=((v.mem.length/2+1:Nat):Int):=by
 have aW:=s3 ab;unfold fP;rw[aaw ab];show IntKind.i64.wrap _=_;have h1: (v.mem.length:Int).tdiv 2=((v.mem.length/2:Nat):Int):=rfl;rw[h1,dW (n:=((v.mem.length/2:Nat):Int)) (by omega) (by omega),dW (by omega) (by omega)];omega
theorem Sc(ab:b0 v=true):tZ v.mem.length=((v.mem.length- (v.mem.length-1)/4:Nat):Int):=by
 have aW:=s3 ab;unfold tZ;rw[aaw ab];show IntKind.i64.wrap _=_;rw[dW (n:=(v.mem.length:Int)-1) (by omega) (by omega)];have h1: ((v.mem.length:Int)-1).tdiv 4=(((v.mem.length-1)/4:Nat):Int):=by
  grind
 rw[h1,dW (n:=(((v.mem.length-1)/4:Nat):Int)) (by omega) (by omega),dW (by omega) (by omega)];omega
theorem EG{l:List Int}{x:Int}(h:bH l x=true):x∈l:=by
 rcases az: (List.range l.length).find? (λi=>decide (l[i]?=some x))with _|n
 ·simp only[bH,gG,lx,az]at h;cases h
 grind
theorem Sd(ab:b0 v=true){x:Int}(h:bH v.mem x=true):1<=x/\x<=1000:=by
 have hM:dq v.mem 16=true:=by
  simp only[b0,cq]at ab
  grind
 rw[BC]at hM;simp only[cq]at hM;have ao:=Lx.1 hM.2;obtain⟨i,hi,rfl⟩:=e8 (EG h)
 grind
theorem Se(h:hX v l=true):l.length<=v.mem.length:=by
 have ab:b0 v=true:=by
  simp only[hX,cq]at h
  grind
 have ac:=(uc ab).1 h;have:=rn (a:=l.map (·.mem)) (b:=v.mem) (by
  grind) (λx ah=>by
  obtain⟨b,hf,rfl⟩:=fT.1 ah;exact EG (ac.1 b hf).1)
 grind
def nJ(l:List c6):Nat->List Int×Int
 |0=>([],0)
 |i+1=>bif decide ((nJ l i).2<(iG l (l.getD i jU).cut:Int))then((l.getD i jU).cut,(iG l (l.getD i jU).cut:Int))else nJ l i
theorem Sf(l:List c6):∀i j,j<i->(iG l (l.getD j jU).cut:Int)<=(nJ l i).2
 |i+1,j,h=>by
  unfold nJ;by_cases aa: (nJ l i).2<(iG l (l.getD i jU).cut:Int)
  ·rw[ep aa,bY];rcases yJ.1 h with h|rfl
   ·have:=Sf l i j h;omega
   simp
  ·rw[cX aa,bs];rcases yJ.1 h with h|rfl
   ·exact Sf l i j h
   ·omega
theorem Sg(l:List c6):∀i,nJ l i=([],0)\/∃j,j<i/\nJ l i=((l.getD j jU).cut,(iG l (l.getD j jU).cut:Int))
 |0=>.inl rfl
 |i+1=>by
  unfold nJ;by_cases aa: (nJ l i).2<(iG l (l.getD i jU).cut:Int)
  ·grind
  ·rw[cX aa,bs];rcases Sg l i with h| ⟨j,h1,ad⟩;all_goals grind
variable{c:List Int}
theorem alR{d:List Int}(h:c≠d):iG l c+iG l d<=l.length:=
 Sb (λx h1 ad=>h ((zo.1 h1).symm.trans (zo.1 ad))) l
theorem alS{v:aK}{l:List c6}(h:decide ((nJ l l.length).2<tZ v.mem.length)=true):ju v l=([],false):=by
 unfold ju;cases ac:hX v l
 ·rfl
 ·have aW:l.find? (λb=>decide (tZ v.mem.length<=(iG l b.cut:Int)))=none:=Ar.2 (λb ac=>by
   obtain⟨j,aq,rfl⟩:=e8 ac;have:=Sf l l.length j aq
   grind)
  grind
theorem alT{v:aK}{l:List c6}(ac:hX v l=true)(h:decide ((nJ l l.length).2<tZ v.mem.length)=false):ju v l=((nJ l l.length).1,true):=by
 have ab:b0 v=true:=by
  simp only[hX,cq]at ac
  grind
 have af:=Se ac;have aW:=s3 ab;have az:=Sc ab;have h:=qX h;rcases Sg l l.length with e| ⟨j,aq,e⟩
 ·grind
 ·rw[e]at h⊢;simp only at h⊢;have aw:l.getD j jU=l[j]:=by grind
  rw[aw]at h⊢;unfold ju;rw[ac];cases r6:l.find? (λb=>decide (tZ v.mem.length<=(iG l b.cut:Int)))with
  |none=>
   grind
  |some b=>
   have an:=Jw r6;simp only[fr]at an;have:b.cut=l[j].cut:=qg λbu=>by
    have:=alR (l:=l) bu;omega
   grind
variable{N:Nat}
theorem alU(aj:∀b∈l,b.cut.length<=N): (nJ l l.length).1.length<=N:=by
 rcases Sg l l.length with e| ⟨j,aq,e⟩;all_goals grind
theorem alV(l:List c6)(af:l.length<=500000)(aj:∀b∈l,b.cut.length<=1000000):bl Tryz.prog 229 [.ar 2 (l.map ee) false] (.bd [.ar 1 ((nJ l l.length).1.map aM) false,i64 (nJ l l.length).2]):=by
 have hs:l.length<=9223372036854775807:=by omega
 have iP:=alU aj;refine b9 (fn:=Tryz.f229) (c:=Tryz.f229.body.getD .skip) aA ay (by rfl) Tryz.func229 (by rfl) (by rfl) (by rfl) (by rfl) ?_;repeat' ((conv=>whnf);first|refine be ?_|fail)
 refine⟨Nat,λi=>⟨[(0,.ar 2 (l.map ee) false),(2,.ar 1 ((nJ l i).1.map aM) false),(3,i64 (nJ l i).2),(7,i64 (l.map ee).length),(8,i64 i)],[]⟩,λi=>i<=l.length,λi=>l.length-i,[],⟨0,bX _,?_⟩,?_⟩
 ·conv=>whnf
  exact⟨⟨.r,.av,.r,.r,.r,ai⟩,ai,rfl⟩
 ·intro i hi;repeat' ((conv=>whnf);first| (apply bh<;>intro h)|fail)
  ·have ax:i<l.length:=by grind
   clear h;have aw:l.getD i jU=l[i]:=by grind
   have alW:=aaf l af (λb ac=>bQ (aj b ac) (by decide)) l[i].cut;have ae:nJ l (i+1)=bif decide ((nJ l i).2<(iG l l[i].cut:Int))then(l[i].cut,(iG l l[i].cut:Int))else nJ l i:=by
    rw[<-aw];rfl
   repeat' ((conv=>whnf);first| (apply bh<;>intro h)|refine⟨_,_,aO ⟨rfl,c3 ax⟩ ?_⟩|refine aS alW ?_|fail)
   all_goals(conv=>whnf)
   ·refine⟨i+1,ax,by grind,?_⟩;conv=>whnf
    rw[h,bY]at ae;refine⟨⟨.r,ig (by rw[ae]),aX (by rw[ae]),.r,aX (bW (by omega)),ai⟩,ai,rfl⟩
   ·refine⟨i+1,ax,by grind,?_⟩;conv=>whnf
    rw[h,bs]at ae;refine⟨⟨.r,ig (by rw[ae]),aX (by rw[ae]),.r,aX (bW (by omega)),ai⟩,ai,rfl⟩
  ·have fp:¬i<l.length:=by grind
   have:i=l.length:=by omega
   subst this;clear h;repeat' ((conv=>whnf);first|exact .refl|refine aS (pb _ iP) ?_|fail)
theorem aax(v:aK)(ab:v.mem.length<=500000)(l:List c6)(af:l.length<=500000)(aj:∀b∈l,b.cut.length<=500000):bl Tryz.prog 198 [.agg (cc v),.ar 2 (l.map ee) false] (.bd [.ar 1 ((ju v l).1.map aM) false,.v (.bool (ju v l).2)]):=by
 have hs:l.length<=maxLen:=by simp only[maxLen];omega
 have Sh:=R8 v ab l hs aj;have alX:=alV l af (λb ac=>bQ (aj b ac) (by omega));have alY:=aae (v.mem.length:Int);have a8:hX v l=false->ju v l=([],false):=λh=>by
  unfold ju
  grind
 have eE:= @alS v l;have gW:= @alT v l;generalize ju v l=W at *;generalize nJ l l.length=X at *;generalize tZ v.mem.length=F at *;have alZ:bl Tryz.prog 230 [i64 ((v.mem.map aM).length:Int)] (i64 F):=by
  rw[bF];exact alY
 refine b9 (fn:=Tryz.f198) (c:=Tryz.f198.body.getD .skip) aA ay (by rfl) Tryz.func198 (by rfl) (by rfl) (by rfl) (by rfl) ?_;repeat' ((conv=>whnf);first| (apply bh<;>intro h)|refine aS Sh ?_|refine aS alX ?_|refine aS alZ ?_|fail)
 all_goals(conv=>whnf)
 ·rw[a8 (by grind)];exact eO ⟨.av,.r,ai⟩
 ·rw[eE h];exact eO ⟨.av,.r,ai⟩
 ·rename_i ac;rw[gW (by grind) h];exact .refl
theorem al0(l:List c6)(af:l.length<=1000000):cm Tryz.prog 192 [] [.ar 2 (l.map ee) false] [] [.row 201 2 (l.map ee)] (.own 0):=by
 refine vf (fn:=Tryz.f192) (c:=Tryz.f192.body.getD .skip) aA ay (by rfl) Tryz.func192 (by rfl) (by rfl) (by rfl) (by rfl) (by rfl) ?_;repeat' ((conv=>whnf);first|refine be ?_|fail)
 refine aO (λow=> ?_) ?_
 ·repeat' ((conv=>whnf);first|refine be ?_|fail)
  all_goals(conv=>whnf)
  refine⟨[.ho 2 201 2],?_⟩;conv=>whnf
  rw[ow];exact⟨.r,⟨.r,ai⟩,by rfl⟩
 ·repeat' ((conv=>whnf);first|refine be ?_|fail)
  all_goals(conv=>whnf)
  refine aO (EE (by grind)) ?_;repeat' ((conv=>whnf);first|refine be ?_|fail)
  all_goals(conv=>whnf)
  refine⟨[],?_⟩;conv=>whnf
  exact⟨.r,⟨.r,ai⟩,by rfl⟩
variable{b:c6}
theorem al1(aR: (!hX v l|| !gb v b.cut)=false)(h1: (!bH v.mem b.mem)=false){x:c6}(ah:x∈l)(he:x.mem=b.mem):h8 v l b=([],7):=by
 have:decide (0<=la l b.mem)=true:=by
  cases h:decide (0<=la l b.mem)
  ·exact absurd he (R7 h x ah)
  ·rfl
 simp only[h8,aR,h1,this,bY,bs]
theorem al2(aR: (!hX v l|| !gb v b.cut)=false)(h1: (!bH v.mem b.mem)=false)(aW:∀x∈l,x.mem≠b.mem):h8 v l b=(iB l b,0):=by
 have:decide (0<=la l b.mem)=false:=by
  cases h:decide (0<=la l b.mem)
  ·rfl
  ·obtain⟨x,ah,he⟩:=aav h
   grind
 simp only[h8,aR,h1,this,bs]
def zF(l:List c6)(b:c6)(i:Nat):List c6:=if i<=l.length then p1 l b i else iB l b
theorem al3(l:List c6)(b:c6)(i:Nat)(h:i<=l.length+1): (zF l b i).length<=i+1:=by
 unfold zF;split
 ·exact alG l b i
 ·have:=aat l b;omega
def BS:List ak:=[i64 1001,.av]
theorem aay(v:aK)(ab:v.mem.length<=400000)(l:List c6)(af:l.length<=400000)(aj:∀b∈l,b.cut.length<=400000)(b:c6)(ac:b.cut.length<=400000):bl Tryz.prog 149 [.agg (cc v),.ar 2 (l.map ee) false,.agg (ee b)] (.bd [.ar 2 ((h8 v l b).1.map ee) false,i64 (h8 v l b).2]):=by
 have hs:l.length<=maxLen:=by simp only[maxLen];omega
 have h1:v.mem.length<=maxLen:=by simp only[maxLen];omega
 have Sh:=R8 v (by omega) l hs (λb ac=>bQ (aj b ac) (by omega));have R9:=aar v (by omega) b.cut (by omega);refine b9 (fn:=Tryz.f149) (c:=Tryz.f149.body.getD .skip) aA ay (by rfl) Tryz.func149 (by rfl) (by rfl) (by rfl) (by rfl) ?_;repeat' ((conv=>whnf);first|refine be ?_| (apply bh<;>intro h)|refine dr ?_|refine aS Sh ?_|refine dz R9 ?_|refine aS (jq _ h1 _) ?_|refine .inr ⟨[],bS (al0 l (by omega)) ?_⟩|refine aO (EE (by simp<;>omega)) ?_|fail)
 all_goals(conv=>whnf)
 ·simp only[h8,h,bY];exact eO ⟨.av,.r,ai⟩
 ·rename_i aR;simp only[h8,aR,h,bY,bs];exact eO ⟨.av,.r,ai⟩
 ·rename_i aR;have ad:=h;clear h;have za:hX v l=true/\b0 v=true/\bH v.mem b.mem=true:=by
   have aN:hX v l=true:=by
    grind
   refine⟨aN,?_,by grind⟩;simp only[hX,cq]at aN
   grind
  have LQ:=Sd za.2.1 za.2.2;have qy:=((uc za.2.1).1 za.1).1;refine⟨Nat,λi=>⟨[(5,.aV 1 0),(8,.own 4),(9,.v (.bool (decide (gI l b.mem<i)))),(35,.own 2),(36,i64 ((l.length+1:Nat):Int)),(37,i64 i)],[.cells 24 (cc v),.cells 201 (ee b),.row 201 2 (l.map ee++ [BS]),.bm,.row 201 2 ((zF l b i).map ee)]⟩,λi=>i<=l.length+1/\∀j (aq:j<l.length),j<i->l[j].mem≠b.mem,λi=>l.length+1-i,[.ho 8 201 2],⟨0,⟨bX _,λj aq h=>absurd h (OK _)⟩,?_⟩,?_⟩
  ·conv=>whnf
   refine⟨⟨.r,.r,.r,.r,aX (by simp),.r,ai⟩,⟨.r,.r,.r,.bm,cK ?_,ai⟩,by rfl⟩;rfl
  ·intro i ⟨hi,ct⟩;have mJ:=al3 l b i hi;have avF: (l.map ee++ [BS]).length=l.length+1:=by simp
   conv=>whnf
   apply bh<;>intro h
   ·have avG:i<l.length+1:=by
     grind
    clear h;have Si:i<(l.map ee++ [BS]).length:=by omega
    rcases l5 i l.length with ax|fp
    ·have gy: (l.map ee++ [BS])[i]?=some (ee l[i]):=by
      grind
     have aaz:=qy _ (eM ax);have Sj:=Sd za.2.1 aaz.1;have y4:=aj _ (eM ax);have j3:zF l b (i+1)=p1 l b (i+1):=b6 (by omega);have D4:zF l b i=p1 l b i:=b6 (by omega);have Sk:= @alJ l b i ax;have BT:= @alK l b i ax;have aaA:= @alH l b i ax;have aaB:= @alI l b i ax;have nl:= @alN l b i;have aaC:=λh=>al1 aR ad (eM ax) h;obtain⟨x,pL⟩:∃x,l[i]=x:=⟨_,rfl⟩
     rw[pL]at gy aaz Sj y4 Sk BT aaA aaB aaC;repeat' ((conv=>whnf);first|refine be ?_| (apply bh<;>intro h)|refine cd ?_|refine dr ?_|refine⟨i,aO ⟨rfl,Si⟩ ?_⟩|refine⟨ee x,aO gy ?_⟩|refine aS (pb b.cut (by omega)) ?_|refine aS (pb x.cut (by omega)) ?_|refine aO (EE (by simp<;>omega)) ?_|refine Exists.intro false ?_|fail)
     all_goals(conv=>whnf)
     ·rw[aaC (fi h)];exact eO ⟨.av,.r,ai⟩
     ·rename_i bu ez;have bu:=qX bu;have e:=aaA (by
       grind)
      have L8:true=decide (gI l b.mem<i+1):=by
       grind
      refine⟨i+1,⟨by omega,λj aq r5=> ?_⟩,by grind,?_⟩
      ·grind
      ·conv=>whnf
       refine⟨⟨.r,.r,fY L8,.r,.r,aX (bW (by omega)),ai⟩,⟨.r,.r,.r,.bm,cK ?_,ai⟩,by rfl⟩;rw[j3,<-Sk e,D4];simp[ee,dc];all_goals exact⟨rfl,rfl⟩
     ·grind
     ·rename_i bu ez;have bu:=qX bu;have e:=aaB (by
       grind)
      refine⟨i+1,⟨by omega,λj aq r5=> ?_⟩,by grind,?_⟩
      ·grind
      ·conv=>whnf
       refine⟨⟨.r,.r,fY (nl e),.r,.r,aX (bW (by omega)),ai⟩,⟨.r,.r,.r,.bm,cK ?_,ai⟩,by rfl⟩;rw[j3,<-BT e,D4];simp[ee,dc];all_goals exact⟨rfl,rfl⟩
     grind
    ·have Sl:i=l.length:=by omega
     subst Sl;have gy: (l.map ee++ [BS])[l.length]?=some BS:=by
      simp
     have j3:zF l b (l.length+1)=iB l b:=bo (by omega);have D4:zF l b l.length=p1 l b l.length:=b6 (by omega);have Sk:= @alL l b;have BT:= @alM l b;have h5:=L6 l b.mem;have L8:true=decide (gI l b.mem<l.length+1):=by
      grind
     repeat' ((conv=>whnf);first|refine be ?_| (apply bh<;>intro h)|refine cd ?_|refine dr ?_|refine⟨l.length,aO ⟨rfl,Si⟩ ?_⟩|refine⟨BS,aO gy ?_⟩|refine aS (pb b.cut (by omega)) ?_|refine aO (EE (by simp<;>omega)) ?_|refine Exists.intro false ?_|fail)
     all_goals(conv=>whnf)
     ·grind
     ·have ez:=h;have aa:decide (gI l b.mem<l.length)=false:=by
       grind
      refine⟨l.length+1,⟨bP _,λj aq r5=>ct j aq aq⟩,by simp,?_⟩;conv=>whnf
      refine⟨⟨.r,.r,fY L8,.r,.r,aX (bW (by omega)),ai⟩,⟨.r,.r,.r,.bm,cK ?_,ai⟩,by rfl⟩;rw[j3,<-BT aa,D4];simp[ee,dc];all_goals exact⟨rfl,rfl⟩
     ·have ez:=h;have aa:decide (gI l b.mem<l.length)=true:=by
       grind
      refine⟨l.length+1,⟨bP _,λj aq r5=>ct j aq aq⟩,by simp,?_⟩;conv=>whnf
      refine⟨⟨.r,.r,fY (aa.trans L8),.r,.r,aX (bW (by omega)),ai⟩,⟨.r,.r,.r,.bm,cK ?_,ai⟩,by rfl⟩
      grind
   ·have Sl:i=l.length+1:=by
     grind
    subst Sl;clear h;repeat' ((conv=>whnf);first|refine be ?_|fail)
    all_goals(conv=>whnf)
    have j3:zF l b (l.length+1)=iB l b:=bo (by omega);rw[al2 aR ad (λx ah=>by
     obtain⟨j,aq,rfl⟩:=e8 ah
     grind),j3]
    exact .refl
def BU(v:aK)(l:List cj)(i:Nat):Bool:= !(decide (0<(l.getD i dA).aD)&& !gN v (l.getD i dA).aD)
def zG(m:Int)(l:List cj)(i:Nat):Bool:= !decide ((l.getD i dA).aD<m)
def ud(v:aK)(l:List cj):Bool:=ih (BU v l) l.length&&gM v l
theorem HN(l:List cj)(af:l.length<=maxLen)(x:Int):bl Tryz.prog 182 [.ar 3 (l.map bZ) false,.v (.int .i64 x)] (.v (.int .i64 (eS l x))):=by
 have hs:l.length<=9223372036854775807:=af;refine b9 (fn:=Tryz.f182) (c:=Tryz.f182.body.getD .skip) aA ay (by rfl) Tryz.func182 (by rfl) (by rfl) (by rfl) (by rfl) ?_;repeat' ((conv=>whnf);first|refine be ?_|fail)
 refine⟨Nat,λi=>⟨[(1,.v (.int .i64 x)),(7,.ar 3 (l.map bZ) false),(8,i64 (l.map bZ).length),(9,i64 i)],[]⟩,λi=>i<=l.length/\∀j,j<i->decide ((l.getD j dA).mem=x)=false,λi=>l.length-i,[],⟨0,⟨bX _,by omega⟩,?_⟩,?_⟩
 ·exact⟨by repeat' ((conv=>whnf);first|exact trivial|refine aO (by(conv=>arg 1;whnf);first| (with_reducible exact .refl)|exact aX (bW (by omega))|exact .refl) ?_|fail),by repeat' ((conv=>whnf);first|exact trivial|fail),rfl⟩
 ·intro i ⟨hi,ct⟩;repeat' ((conv=>whnf);first| (apply bh<;>intro h)|fail)
  ·have ax:i<l.length:=by grind
   repeat' ((conv=>whnf);first| (apply bh<;>intro h)|refine⟨_,_,aO ⟨rfl,c3 ax⟩ ?_⟩|fail)
   ·have ad:=h;refine aX (wR ax ?_ ct).symm
    grind
   ·have ad:=h;conv=>whnf
    refine⟨i+1,⟨ax,λj aq=> ?_⟩,by grind,?_⟩
    ·grind
    ·exact⟨by repeat' ((conv=>whnf);first|exact trivial|refine aO (by(conv=>arg 1;whnf);first| (with_reducible exact .refl)|exact aX (bW (by omega))|exact .refl) ?_|fail),by repeat' ((conv=>whnf);first|exact trivial|fail),rfl⟩
  ·have fp:¬i<l.length:=by grind
   conv=>whnf
   refine aX (tQ (λj aq=>ct j (by omega))).symm
theorem aaD(v:aK)(ab:v.mem.length<=500000)(l:List cj)(af:l.length<=maxLen)(aj:∀r∈l,r.cut.length<=500000):bl Tryz.prog 117 [.agg (cc v),.ar 3 (l.map bZ) false] (.v (.bool (ud v l))):=by
 have hs:l.length<=9223372036854775807:=af;have h1:v.mem.length<=maxLen:=bQ ab (by decide);refine b9 (fn:=Tryz.f117) (c:=Tryz.f117.body.getD .skip) aA ay (by rfl) Tryz.func117 (by rfl) (by rfl) (by rfl) (by rfl) ?_;repeat' ((conv=>whnf);first|refine be ?_|fail)
 refine⟨Nat,λi=>⟨[(1,.ar 3 (l.map bZ) false),(2,.aV 0 0),(7,.ar 3 (l.map bZ) false),(8,i64 (l.map bZ).length),(9,i64 i)],[.cells 24 (cc v)]⟩,λi=>i<=l.length/\∀j,j<i->BU v l j=true,λi=>l.length-i,[],⟨0,⟨bX _,by omega⟩,?_⟩,?_⟩
 ·exact⟨by repeat' ((conv=>whnf);first|exact trivial|refine aO (by(conv=>arg 1;whnf);first| (with_reducible exact .refl)|exact aX (bW (by omega))|exact .refl) ?_|fail),by repeat' ((conv=>whnf);first|exact trivial|refine aO ?_ ?_|exact .refl|fail),rfl⟩
 ·intro i ⟨hi,ct⟩;conv=>whnf
  apply bh<;>intro h
  ·have ax:i<l.length:=by grind
   clear h;have aw:l.getD i dA=l[i]:=by grind
   repeat' ((conv=>whnf);first|refine be ?_| (apply bh<;>intro h)|refine dr ?_|refine⟨_,_,aO ⟨rfl,c3 ax⟩ ?_⟩|refine dz (HL _ h1 _) ?_|fail)
   all_goals(conv=>whnf)
   ·refine fY ?_;rw[ud,sR ax (by rw[BU,aw,h];rfl),vW]
   ·refine⟨i+1,⟨ax,λj aq=> ?_⟩,by grind,?_⟩
    ·rcases yJ.1 aq with aq|rfl
     ·grind
     ·rw[BU,aw,h];rfl
    ·exact⟨by repeat' ((conv=>whnf);first|exact trivial|refine aO (by(conv=>arg 1;whnf);first| (with_reducible exact .refl)|exact aX (bW (by omega))|exact .refl) ?_|fail),by repeat' ((conv=>whnf);first|exact trivial|refine aO ?_ ?_|exact .refl|fail),rfl⟩
  ·have fp:¬i<l.length:=by grind
   clear h;repeat' ((conv=>whnf);first|refine aS (ED _ ab _ af aj) ?_|fail)
   all_goals(conv=>whnf)
   all_goals(refine fY ?_)
   all_goals(rw[ud,ij.2 (λj aq=>ct j (by omega))])
   rfl
def zH(s:bj):Bool:=
 bif !decide (s.aD=0)&& (!gN s.view s.aD|| !decide (h7 s.aD=s.self))then false
 else bif !(decide (0<(s.c4.length:Int))==decide (s.phase=2))then false
 else bif decide (s.phase=0)then decide ((s.bw.length:Int)=0)
 else bif decide (s.phase=1)||decide (s.phase=2)then
  !decide (s.aD=0)&&decide (0<(s.prop.length:Int))&&decide (0<=eS s.bw s.self)&& (decide ((s.bw.length:Int)<fP s.view.mem.length)||decide (s.phase=2))
 else false
structure eB(s:bj):Prop where
 mem:s.view.mem.length<=1000
 gY:s.aP.cut.length<=1000
 prop:s.prop.length<=1000
 box:s.box.length<=1000
 kz:∀b∈s.box,b.cut.length<=1000
 bw:s.bw.length<=1000
 mo:∀b∈s.bw,b.cut.length<=1000
 c4:s.c4.length<=1000
 aQ:s.aQ.length<=1000
 kb:∀b∈s.aQ,b.cut.length<=1000
 dec:s.dec.length<=1000
variable{n:Nat}
theorem eU(h:n<=1000):n<=maxLen:=by simp only[maxLen];omega
theorem al4(s:bj)(ae:eB s):bl Tryz.prog 118 [.agg (de s)] (.v (.bool (zH s))):=by
 refine b9 (fn:=Tryz.f118) (c:=Tryz.f118.body.getD .skip) aA ay (by rfl) Tryz.func118 (by rfl) (by rfl) (by rfl) (by rfl) ?_;repeat' ((conv=>whnf);first|refine be ?_|refine fZ (by assumption) ?_| (apply bh<;>intro h)|refine cd ?_|refine dr ?_|refine dz (HL _ (eU ae.mem) _) ?_|refine dz (LX _) ?_|refine aS (HH _) ?_|refine dz (HN _ (eU ae.bw) _) ?_|fail)
 all_goals(conv=>whnf)
 all_goals(refine fY ?_)
 all_goals(try simp only[bF]at *)
 all_goals(simp only[zH, *,bY,bs,Oi,FF,CX,Bool.or_false,Ap])
 all_goals grind
def fE(s:bj):Bool:=
 bif !b0 s.view|| !bH s.view.mem s.self||decide (s.cG<0)||decide (1099511627776<s.cG)then false
 else bif !k8 s.aP|| !decide (s.aP.cg=0)&& !gN s.view s.aP.cg||decide (0<s.aP.aD)&& !gN s.view s.aP.aD|| !jT s.view s.aP.cut then false
 else bif !jT s.view s.prop|| !jT s.view s.c4|| !jT s.view s.dec|| !hX s.view s.box then false
 else bif (hY s.box s.self).2&& !hx (hY s.box s.self).1 s.prop then false
 else ih (zG 1 s.aQ) s.aQ.length&& (ud s.view s.bw&&ud s.view s.aQ&&zH s)
theorem ph(s:bj)(ae:eB s):bl Tryz.prog 63 [.agg (de s)] (.v (.bool (fE s))):=by
 have ya:=eU ae.mem;have KT: (hY s.box s.self).1.length<=maxLen:=by
  unfold hY;cases decide (0<=la s.box s.self)
  ·simp
  ·rcases l5 (la s.box s.self).toNat s.box.length with h|h
   ·simp only[bY,sn,eP h,qW];exact eU (ae.kz _ (eM h))
   ·simp only[bY,sn,xf h,JI];exact bX _
 have aC:=Sa s.box (eU ae.box) s.self;have aG:=Hr (hY s.box s.self).1 s.prop KT;have bc:=R8 s.view (by have:=ae.mem;omega) s.box (eU ae.box) (λb ac=>by have:=ae.kz b ac;omega);have cn:=aaD s.view (by have:=ae.mem;omega) s.bw (eU ae.bw) (λb ac=>by have:=ae.mo b ac;omega);have eu:=aaD s.view (by have:=ae.mem;omega) s.aQ (eU ae.aQ) (λb ac=>by have:=ae.kb b ac;omega);have iH:=al4 s ae;have dw:=L5 s.view (by have:=ae.mem;omega) s.aP.cut (by have:=ae.gY;omega);have fV:=L5 s.view (by have:=ae.mem;omega) s.prop (by have:=ae.prop;omega);have aaE:=L5 s.view (by have:=ae.mem;omega) s.c4 (by have:=ae.c4;omega);have QR:=L5 s.view (by have:=ae.mem;omega) s.dec (by have:=ae.dec;omega);have HO:=LZ s.aP (eU ae.gY);have jj:s.aQ.length<=1000:=ae.aQ;unfold fE;generalize hY s.box s.self=C at *;generalize hX s.view s.box=B1 at *;generalize ud s.view s.bw=B2 at *;generalize ud s.view s.aQ=ak6 at *;generalize zH s=avH at *;generalize k8 s.aP=avI at *;generalize jT s.view s.aP.cut=avJ at *;refine b9 (fn:=Tryz.f63) (c:=Tryz.f63.body.getD .skip) aA ay (by rfl) Tryz.func63 (by rfl) (by rfl) (by rfl) (by rfl) ?_;repeat' ((conv=>whnf);first|refine be ?_| (apply bh<;>intro h)|refine dr ?_|refine aS (ri _ ya) ?_|refine dz (jq _ ya _) ?_|refine aS HO ?_|refine dz (HL _ ya _) ?_|refine dz dw ?_|refine aS fV ?_|refine dz aaE ?_|refine dz QR ?_|refine dz bc ?_|refine aS aC ?_|refine dz aG ?_|fail)
 all_goals(conv=>whnf)
 ·refine fY ?_
  grind
 ·rename_i h1;refine fY ?_
  grind
 ·rename_i h1 ad;refine fY ?_
  grind
 ·rename_i h1 ad aN;refine fY ?_
  grind
 ·rename_i h1 ad aN;simp only[h1,ad,aN,h,bs];clear h1 ad aN h;refine⟨Nat,λi=>⟨[(1,.aV 0 0),(3,.aV 1 0),(111,.ar 3 (s.aQ.map bZ) false),(112,i64 s.aQ.length),(113,i64 i)],[.cells 53 (de s),.cells 24 (cc s.view)]⟩,λi=>i<=s.aQ.length/\∀j,j<i->zG 1 s.aQ j=true,λi=>s.aQ.length-i,[],⟨0,⟨bX _,by omega⟩,?_⟩,?_⟩
  ·conv=>whnf
   exact⟨⟨.r,.r,.r,aX (by simp),.r,ai⟩,⟨.r,.r,ai⟩,by rfl⟩
  ·intro i ⟨hi,ct⟩;conv=>whnf
   apply bh<;>intro h
   ·have ax:i<s.aQ.length:=by grind
    clear h;have aw:s.aQ.getD i dA=s.aQ[i]:=by grind
    repeat' ((conv=>whnf);first| (apply bh<;>intro h)|refine⟨_,_,aO ⟨rfl,c3 ax⟩ ?_⟩|fail)
    all_goals(conv=>whnf)
    ·refine fY ?_;rw[sR ax (by rw[zG,aw,h];rfl),vW]
    ·refine⟨i+1,⟨ax,λj aq=> ?_⟩,by grind,?_⟩
     ·rcases yJ.1 aq with aq|rfl
      ·grind
      ·rw[zG,aw,h];rfl
     ·conv=>whnf
      exact⟨⟨.r,.r,.r,.r,aX (bW (by omega)),ai⟩,⟨.r,.r,ai⟩,by rfl⟩
   ·have fp:¬i<s.aQ.length:=by grind
    clear h;rw[ij.2 (λj aq=>ct j (by omega)),rH];repeat' ((conv=>whnf);first|refine be ?_|exact .refl|refine dr ?_|refine aS cn ?_|refine dz eu ?_|refine dz iH ?_|fail)
def z3:List ak:=[i64 0,i64 0,.av]
def mH:List ak:=[i64 0,.av]
variable{z:List ak}
theorem L9{α:Type}{f:α->List ak}{l:List α}{i:Nat}(h:i<l.length): ((l.take i).map f++List.replicate (l.length-i) z).set i (f l[i])=(l.take (i+1)).map f++List.replicate (l.length- (i+1)) z:=by
 have af: ((l.take i).map f).length=i:=by grind
 rw[VJ _ _ (by omega),af,AA];obtain⟨m,aA⟩:∃m,l.length-i=m+1:=⟨l.length-i-1,by omega⟩
 rw[aA,List.replicate_succ,List.set_cons_zero,e4 h,ef,show l.length- (i+1)=m by omega];simp
theorem Ma{α:Type}{f:α->List ak}{l:List α}{i:Nat}(h:i<=l.length): ((l.take i).map f++List.replicate (l.length-i) z).length=l.length:=by
 grind
theorem Mb{α:Type}{f:α->List ak}{l:List α}{i:Nat}(h:i<l.length): ((l.take i).map f++List.replicate (l.length-i) z)[i]?=some z:=by
 grind
theorem Mc{α:Type}{f:α->List ak}{l:List α}: (l.take l.length).map f++List.replicate (l.length-l.length) z=l.map f:=by simp
theorem aaF(h:n<=1000000):n* (aF ag 179).bytes<=140737488355328/\n<=maxLen:=by
 have e: (aF ag 179).bytes=40:=by rfl
 refine⟨?_,?_⟩
 ·grind
 ·simp only[maxLen];omega
theorem Sm(h:n<=1000000):n* (aF ag 201).bytes<=140737488355328/\n<=maxLen:=by
 have e: (aF ag 201).bytes=32:=by rfl
 refine⟨?_,?_⟩
 ·grind
 ·simp only[maxLen];omega
theorem aaG(l:List cj)(af:l.length<=1000000)(aj:∀r∈l,r.cut.length<=1000000):bl Tryz.prog 191 [.ar 3 (l.map bZ) false] (.ar 3 (l.map bZ) false):=by
 have iY:=aaF (n:=(l.map bZ).length) (by grind);refine b9 (fn:=Tryz.f191) (c:=Tryz.f191.body.getD .skip) aA ay (by rfl) Tryz.func191 (by rfl) (by rfl) (by rfl) (by rfl) ?_;repeat' ((conv=>whnf);first|refine⟨(l.map bZ).length,(l.map bZ).length,rfl,rfl,bP _,iY.1,iY.2,?_⟩|fail)
 all_goals(conv=>whnf)
 refine⟨Nat,λi=>⟨[(3,.own 0),(9,.ar 3 (l.map bZ) false),(10,i64 l.length),(11,i64 i)],[.row 179 3 ((l.take i).map bZ++List.replicate (l.length-i) z3)]⟩,λi=>i<=l.length,λi=>l.length-i,[],⟨0,bX _,?_⟩,?_⟩
 ·conv=>whnf
  refine⟨⟨.r,.r,aX (by simp),.r,ai⟩,⟨cK ?_,ai⟩,by rfl⟩;rw[bF];rfl
 ·intro i hi;conv=>whnf
  apply bh<;>intro h
  ·have ax:i<l.length:=by grind
   clear h;have hlen:=Ma (f:=bZ) (z:=z3) (l:=l) (i:=i) hi;have gn:i<((l.take i).map bZ++List.replicate (l.length-i) z3).length:=by omega
   have cM:=Mb (f:=bZ) (z:=z3) ax;have lb:=L9 (f:=bZ) (z:=z3) ax;repeat' ((conv=>whnf);first|refine cd ?_|refine⟨_,_,aO ⟨rfl,c3 ax⟩ ?_⟩|refine aS (qE _ (aj _ (eM ax))) ?_|refine⟨i,aO ⟨rfl,gn⟩ ?_⟩|refine⟨z3,aO cM ?_⟩|fail)
   all_goals(conv=>whnf)
   refine⟨i+1,ax,by grind,?_⟩;conv=>whnf
   refine⟨⟨.r,.r,.r,aX (bW (by omega)),ai⟩,⟨cK ?_,ai⟩,by rfl⟩;rw[<-lb];rfl
  ·have fp:¬i<l.length:=by grind
   have:i=l.length:=by omega
   subst this;clear h;rw[Mc];repeat' ((conv=>whnf);first|exact .refl|fail)
theorem yb(s:bj)(ae:eB s):bl Tryz.prog 147 [.agg (de s)] (.agg (de s)):=by
 have cY:=ae.mem;have cZ:=ae.gY;have iN:=ae.prop;have mm:=ae.c4;have wY:=ae.dec;have vr:=ae.bw;have vt:∀b∈s.bw,b.cut.length<=1000000:=λb ac=>by have:=ae.mo b ac;omega
 have vu:=ae.aQ;have vv:∀b∈s.aQ,b.cut.length<=1000000:=λb ac=>by have:=ae.kb b ac;omega
 have lp:=ae.box;have iY:=Sm (n:=(s.box.map ee).length) (by simp;omega);refine fM Tryz.func147 ?_;repeat' ((conv=>whnf);first|refine cd ?_|refine aS (qE _ (by omega)) ?_|refine aS (aaG _ (by omega) (by assumption)) ?_|refine⟨(s.box.map ee).length,(s.box.map ee).length,rfl,rfl,bP _,iY.1,iY.2,?_⟩|fail)
 all_goals(conv=>whnf)
 refine⟨Nat,λi=>⟨[(2,.aV 1 0),(3,.aV 3 0),(54,.ar 2 (s.box.map ee) false),(55,i64 s.box.length),(56,i64 i)],[.cells 53 (de s),.cells 53 (aF ag 53).zero,.row 201 2 ((s.box.take i).map ee++List.replicate (s.box.length-i) mH),.cells 53 [i64 s.self,i64 s.view.num,.ar 1 (s.view.mem.map aM) false,i64 s.aP.cg,i64 s.aP.aD,.ar 1 (s.aP.cut.map aM) false,.ar 1 (s.prop.map aM) false,.own 2,i64 s.aD,i64 s.phase,.ar 3 (s.bw.map bZ) false,.ar 1 (s.c4.map aM) false,.ar 3 (s.aQ.map bZ) false,.ar 1 (s.dec.map aM) false,i64 s.cG]]⟩,λi=>i<=s.box.length,λi=>s.box.length-i,[],⟨0,bX _,?_⟩,?_⟩
 ·conv=>whnf
  refine⟨⟨.r,.r,.r,aX (by simp),.r,ai⟩,⟨.r,.r,cK ?_,.r,ai⟩,by rfl⟩;rw[bF];rfl
 ·intro i hi;conv=>whnf
  apply bh<;>intro h
  ·have ax:i<s.box.length:=by simpa using h
   clear h;have hlen:=Ma (f:=ee) (z:=mH) (l:=s.box) (i:=i) hi;have gn:i<((s.box.take i).map ee++List.replicate (s.box.length-i) mH).length:=by omega
   have cM:=Mb (f:=ee) (z:=mH) ax;have lb:=L9 (f:=ee) (z:=mH) ax;have HI:=ae.kz _ (eM ax);repeat' ((conv=>whnf);first|refine cd ?_|refine⟨_,_,aO ⟨rfl,c3 ax⟩ ?_⟩|refine aS (qE _ (by omega)) ?_|refine⟨i,aO ⟨rfl,gn⟩ ?_⟩|refine⟨mH,aO cM ?_⟩|fail)
   all_goals(conv=>whnf)
   refine⟨i+1,ax,by simp only[];omega,?_⟩;conv=>whnf
   refine⟨⟨.r,.r,.r,.r,aX (bW (by omega)),ai⟩,⟨.r,.r,cK ?_,.r,ai⟩,by rfl⟩;rw[<-lb];rfl
  ·have fp:¬i<s.box.length:=by simpa using h
   have:i=s.box.length:=by omega
   subst this;clear h;rw[Mc];repeat' ((conv=>whnf);first|exact .refl|fail)
   all_goals trace_state
theorem al5(l:List cj)(af:l.length<=1000000)(aj:∀r∈l,r.cut.length<=1000000):cm Tryz.prog 191 [] [.ar 3 (l.map bZ) false] [] [.row 179 3 (l.map bZ)] (.own 0):=by
 have iY:=aaF (n:=(l.map bZ).length) (by grind);refine ik (fn:=Tryz.f191) (c:=Tryz.f191.body.getD .skip) aA ay (by rfl) Tryz.func191 (by rfl) (by rfl) (by rfl) (by rfl) (by rfl) ?_;repeat' ((conv=>whnf);first|refine⟨(l.map bZ).length,(l.map bZ).length,rfl,rfl,bP _,iY.1,iY.2,?_⟩|fail)
 all_goals(conv=>whnf)
 refine⟨Nat,λi=>⟨[(3,.own 0),(9,.ar 3 (l.map bZ) false),(10,i64 l.length),(11,i64 i)],[.row 179 3 ((l.take i).map bZ++List.replicate (l.length-i) z3)]⟩,λi=>i<=l.length,λi=>l.length-i,[],⟨0,bX _,?_⟩,?_⟩
 ·conv=>whnf
  refine⟨⟨.r,.r,aX (by simp),.r,ai⟩,⟨cK ?_,ai⟩,by rfl⟩;rw[bF];rfl
 ·intro i hi;conv=>whnf
  apply bh<;>intro h
  ·have ax:i<l.length:=by grind
   clear h;have hlen:=Ma (f:=bZ) (z:=z3) (l:=l) (i:=i) hi;have gn:i<((l.take i).map bZ++List.replicate (l.length-i) z3).length:=by omega
   have cM:=Mb (f:=bZ) (z:=z3) ax;have lb:=L9 (f:=bZ) (z:=z3) ax;repeat' ((conv=>whnf);first|refine cd ?_|refine⟨_,_,aO ⟨rfl,c3 ax⟩ ?_⟩|refine aS (qE _ (aj _ (eM ax))) ?_|refine⟨i,aO ⟨rfl,gn⟩ ?_⟩|refine⟨z3,aO cM ?_⟩|fail)
   all_goals(conv=>whnf)
   refine⟨i+1,ax,by grind,?_⟩;conv=>whnf
   refine⟨⟨.r,.r,.r,aX (bW (by omega)),ai⟩,⟨cK ?_,ai⟩,by rfl⟩;rw[<-lb];rfl
  ·have fp:¬i<l.length:=by grind
   have:i=l.length:=by omega
   subst this;clear h;rw[Mc];repeat' ((conv=>whnf);first|refine be ?_|fail)
   all_goals(conv=>whnf)
   exact⟨.r,⟨.r,ai⟩,by rfl⟩
theorem aaH(v:aK)(ab:v.mem.length<=400000)(l:List cj)(af:l.length<=400000)(aj:∀r∈l,r.cut.length<=400000)(r:cj)(ao:r.cut.length<=400000)(cw:gM v l=true):
  cm Tryz.prog 195 [] [.agg (cc v),.ar 3 (l.map bZ) false,.agg (bZ r)] [] [.row 179 3 ((fJ v l r).1.map bZ)] (.bd [.own 0,.v (.bool (fJ v l r).2)]):=by
 have qA:l.length<=maxLen:=bQ af (by decide);have R1:=ED v (bQ ab (by omega)) l qA (λx ah=>bQ (aj x ah) (by omega));have eI:=R0 l r;have R2:=ED v (bQ ab (by omega)) (iR l r) (by simp only[maxLen];omega) (λx ah=>by
  rcases BP ah with rfl|ah
  ·omega
  ·exact bQ (aj x ah) (by omega))
 have R3:=HJ l (by omega) (λx ah=>bQ (aj x ah) (by omega));have R4:=HJ (iR l r) (by omega) (λx ah=>by
  rcases BP ah with rfl|ah
  ·omega
  ·exact bQ (aj x ah) (by omega))
 obtain⟨R,b4⟩:∃R,R=fJ v l r:=⟨_,rfl⟩
 rw[<-b4];refine mj Tryz.func195 ?_;repeat' ((conv=>whnf);first| (apply bh<;>intro h)|refine aS R1 ?_|fail)
 all_goals(conv=>whnf)
 ·rw[cw]at h;cases h
 ·have aR:=h;clear h;refine⟨Nat,λi=>⟨[(1,.ar 3 (l.map bZ) false),(3,.aV 0 0),(5,.aV 1 0),(8,i64 i)],[.cells 24 (cc v),.cells 179 (bZ r)]⟩,λi=>i<=l.length/\∀j,(aq:j<l.length)->j<i->l[j].mem<r.mem,λi=>l.length-i,[],⟨0,⟨bX _,λj _ aq=>by omega⟩,?_⟩,?_⟩
  ·exact⟨by repeat' ((conv=>whnf);first|exact trivial|refine aO (by(conv=>arg 1;whnf);first| (with_reducible exact .refl)|exact aX (bW (by omega))|exact .refl) ?_|fail),by repeat' ((conv=>whnf);first|exact trivial|refine aO ?_ ?_|exact .refl|fail),rfl⟩
  ·intro i ⟨hi,ct⟩;have jR:∃x:cj,(i<l.length->(l.map bZ)[i]?=some (bZ x))/\∀ (eI:i<l.length),x=l[i]:=by
    by_cases eI:i<l.length
    ·exact⟨l[i],λ_=>c3 eI,λ_=>rfl⟩
    ·exact⟨r,λaW=>absurd aW eI,λaW=>absurd aW eI⟩
   obtain⟨x,BQ,lS⟩:=jR;repeat' ((conv=>whnf);first|refine be ?_| (apply bh<;>intro h)|refine cd ?_|refine dr ?_|refine⟨i,bZ x,aO ⟨⟨λh=>h,λh=>h⟩,λaw=>⟨rfl,BQ (by simpa using aw)⟩⟩ ?_⟩|fail)
   ·have eI:i<l.length:=by simpa using((cq ..).mp h).1
    have ax:l[i].mem<r.mem:=by
     have:=((cq ..).mp h).2;rw[lS eI]at this;simpa using this
    clear h;repeat' ((conv=>whnf);first|refine be ?_|fail)
    all_goals(conv=>whnf)
    refine⟨i+1,⟨eI,λj aq r5=> ?_⟩,by simp only[];omega,?_⟩
    ·rcases Nat.lt_succ_iff_lt_or_eq.mp r5 with h1|rfl
     ·exact ct j aq h1
     ·exact ax
    ·exact⟨⟨.r,.r,.r,aX (bW (by omega)),ai⟩,⟨.r,.r,ai⟩,rfl⟩
   ·have az:qD l r.mem=i:=by
     rcases l5 i l.length with eI|eI
     ·refine RY eI (λj aq=>ct j (by omega) aq) ?_;intro ax;rw[lS eI]at h;simp[eI,ax]at h
     ·have:i=l.length:=by omega
      subst this;exact RZ λj aq=>ct j aq aq
    clear h;have R5:cm Tryz.prog 226 [] [ak.ar 3 (((l.map bZ).take i).drop 0) false] [] [aZ.row 179 3 ((l.take i).map bZ)] (ak.own 0):=by
     have:=HJ (l.take i) (by simp;omega) (λx ah=>bQ (aj x (nR ah)) (by omega));rw[<-yH];exact this
    have hlen: (l.take i).length=i:=by simp;omega
    have qA:i<=(l.map bZ).length:=by simpa using hi
    repeat' ((conv=>whnf);first|refine cd ?_|refine⟨0,i,aO ⟨rfl,⟨_,rfl⟩,bX _,qA⟩ ?_⟩|refine .inr ⟨[],bS R5 ?_⟩|refine aO (L4 (by simp<;>omega)) ?_|refine⟨i,aO ⟨⟨_,rfl⟩,qA⟩ ?_⟩|refine Exists.intro false ?_|fail)
    have HK:List.map bZ (List.take i l)++(List.replicate 1 (aF ag 179).zero).set 0 (dc (.agg [.v (.int .i64 r.mem),.v (.int .i64 r.aD),.ar 1 (List.map aM r.cut) false]))++List.drop i (List.map bZ l)=(iR l r).map bZ:=by
     simp[iR,az,bZ,dc]
    refine .inl ⟨[.agg (cc v),.ar 3 ((iR l r).map bZ) false],_,⟨.r,ig HK,ai⟩,R2,?_⟩;repeat' ((conv=>whnf);first| (apply bh<;>intro h)|refine .inr ⟨[],bS R3 ?_⟩|refine .inr ⟨[],[],_,[],_,_,R4,by rfl,ai,⟨ig HK,ai⟩,?_⟩|fail)
    all_goals(conv=>whnf)
    ·have Sn:R=(l,false):=by
      rw[b4];simp only[fJ,aR,h,bY,bs]
     clear b4;subst Sn;refine⟨[.fa 0 6],?_⟩;conv=>whnf
     exact⟨.r,⟨.r,ai⟩,by rfl⟩
    ·have Sn:R=(iR l r,true):=by
      rw[b4];simp only[fJ,aR,h,bY,bs]
     clear b4;subst Sn;refine⟨[.fa 0 6],?_⟩;conv=>whnf
     exact⟨.r,⟨.r,ai⟩,by rfl⟩
def pj(s:bj)(k:Nat):List ak:=[i64 s.self,i64 s.view.num,.ar 1 (s.view.mem.map aM) false,i64 s.aP.cg,i64 s.aP.aD,.ar 1 (s.aP.cut.map aM) false,.ar 1 (s.prop.map aM) false,.ar 2 (s.box.map ee) false,i64 s.aD,i64 s.phase,.ar 3 (s.bw.map bZ) false,.ar 1 (s.c4.map aM) false,.own k,.ar 1 (s.dec.map aM) false,i64 s.cG]
theorem al6(s:bj)(ae:eB s):cm Tryz.prog 147 [] [.agg (de s)] [] [.bm,.bm,.bm,.row 179 3 (s.aQ.map bZ)] (.agg (pj s 3)):=by
 have al7:=aaG s.bw (by have:=ae.bw;omega) (λb ac=>by have:=ae.mo b ac;omega);have al8:=al5 s.aQ (by have:=ae.aQ;omega) (λb ac=>by have:=ae.kb b ac;omega);have cY:=ae.mem;have cZ:=ae.gY;have iN:=ae.prop;have mm:=ae.c4;have wY:=ae.dec;have vr:=ae.bw;have vt:∀b∈s.bw,b.cut.length<=1000000:=λb ac=>by have:=ae.mo b ac;omega
 have vu:=ae.aQ;have vv:∀b∈s.aQ,b.cut.length<=1000000:=λb ac=>by have:=ae.kb b ac;omega
 have lp:=ae.box;have iY:=Sm (n:=(s.box.map ee).length) (by simp;omega);refine mj Tryz.func147 ?_;repeat' ((conv=>whnf);first|refine cd ?_|refine aS (qE _ (by omega)) ?_|refine aS al7 ?_|refine .inr ⟨[],bS al8 ?_⟩|refine⟨(s.box.map ee).length,(s.box.map ee).length,rfl,rfl,bP _,iY.1,iY.2,?_⟩|fail)
 all_goals(conv=>whnf)
 refine⟨Nat,λi=>⟨[(2,.aV 1 0),(3,.aV 4 0),(54,.ar 2 (s.box.map ee) false),(55,i64 s.box.length),(56,i64 i)],[.cells 53 (de s),.cells 53 (aF ag 53).zero,.row 201 2 ((s.box.take i).map ee++List.replicate (s.box.length-i) mH),.row 179 3 (s.aQ.map bZ),.cells 53 [i64 s.self,i64 s.view.num,.ar 1 (s.view.mem.map aM) false,i64 s.aP.cg,i64 s.aP.aD,.ar 1 (s.aP.cut.map aM) false,.ar 1 (s.prop.map aM) false,.own 2,i64 s.aD,i64 s.phase,.ar 3 (s.bw.map bZ) false,.ar 1 (s.c4.map aM) false,.own 3,.ar 1 (s.dec.map aM) false,i64 s.cG]]⟩,λi=>i<=s.box.length,λi=>s.box.length-i,[],⟨0,bX _,?_⟩,?_⟩
 ·conv=>whnf
  refine⟨⟨.r,.r,.r,aX (by simp),.r,ai⟩,⟨.r,.r,cK ?_,.r,.r,ai⟩,by rfl⟩;rw[bF];rfl
 ·intro i hi;conv=>whnf
  apply bh<;>intro h
  ·have ax:i<s.box.length:=by simpa using h
   clear h;have hlen:=Ma (f:=ee) (z:=mH) (l:=s.box) (i:=i) hi;have gn:i<((s.box.take i).map ee++List.replicate (s.box.length-i) mH).length:=by omega
   have cM:=Mb (f:=ee) (z:=mH) ax;have lb:=L9 (f:=ee) (z:=mH) ax;have HI:=ae.kz _ (eM ax);repeat' ((conv=>whnf);first|refine cd ?_|refine⟨_,_,aO ⟨rfl,c3 ax⟩ ?_⟩|refine aS (qE _ (by omega)) ?_|refine⟨i,aO ⟨rfl,gn⟩ ?_⟩|refine⟨mH,aO cM ?_⟩|fail)
   all_goals(conv=>whnf)
   refine⟨i+1,ax,by simp only[];omega,?_⟩;conv=>whnf
   refine⟨⟨.r,.r,.r,.r,aX (bW (by omega)),ai⟩,⟨.r,.r,cK ?_,.r,.r,ai⟩,by rfl⟩;rw[<-lb];rfl
  ·have fp:¬i<s.box.length:=by simpa using h
   have:i=s.box.length:=by omega
   subst this;clear h;rw[Mc];repeat' ((conv=>whnf);first|refine be ?_|fail)
   all_goals(conv=>whnf)
   refine⟨[.ql 1 7],?_⟩;conv=>whnf
   exact⟨.r,⟨.bm,.bm,.bm,.r,ai⟩,by rfl⟩
theorem al9(s:bj)(p:ak):bl Tryz.prog 227 [.c9 (de s++ [p])] (i64 (fP s.view.mem.length)):=by
 have e:bl Tryz.prog 181 [i64 ((s.view.mem.map aM).length:Int)] (i64 (fP s.view.mem.length)):=by
  rw[bF];exact HH _
 refine b9 (fn:=Tryz.f227) (c:=Tryz.f227.body.getD .skip) aA ay (by rfl) Tryz.func227 (by rfl) (by rfl) (by rfl) (by rfl) ?_;repeat' ((conv=>whnf);first|exact .refl|refine aS e ?_|fail)
theorem nK{a d:ak}:hr (.cD [a,d]) (.cD [a,.a1]):=.cD rfl λi x y ah bn=>by
 rcases i with _|_|i
 ·simp at ah bn;subst ah bn;exact .refl
 ·simp at ah bn;subst ah bn;exact .a1
 grind
def eF(s:bj)(da kind aD cT:Int)(cut:List Int):dO:=⟨da,⟨kind,s.view.num,s.self,aD,cT,cut⟩⟩
theorem Sp(h:n<=1000000):kp ag 218 n:=by
 have e: (aF ag 218).bytes=72:=by rfl
 refine⟨?_,?_⟩
 ·grind
 ·simp only[maxLen];omega
theorem Md(s:bj)(da kind aD cT:Int)(cut:List Int)(aj:cut.length<=1000000):
  cm Tryz.prog 148 [.cells 210 (de s++ [.av])] [.aV 0 0,i64 da,i64 kind,i64 aD,i64 cT,.ar 1 (cut.map aM) false] [true] [.cells 210 (de s++ [.own 2]),.bm,.row 218 7 [fu (eF s da kind aD cT cut)]] (.bd []):=by
 refine ik (fn:=Tryz.f148) (c:=Tryz.f148.body.getD .skip) aA ay (by rfl) Tryz.func148 (by rfl) (by rfl) (by rfl) (by rfl) (by rfl) ?_;repeat' ((conv=>whnf);first|refine cd ?_|refine aS (qE _ aj) ?_|refine aO (Sp (by simp<;>omega)) ?_|refine Exists.intro false ?_|fail)
 all_goals(conv=>whnf)
 exact⟨.r,⟨.r,.r,.r,ai⟩,by rfl⟩
theorem ama(s:bj)(a6:List dO)(oI:a6.length<=100)(da kind aD cT:Int)(cut:List Int)(aj:cut.length<=1000000):
  cm Tryz.prog 148 [.cells 210 (de s++ [.own 1]),.row 218 7 (a6.map fu)] [.aV 0 0,i64 da,i64 kind,i64 aD,i64 cT,.ar 1 (cut.map aM) false] [true,false] [.cells 210 (de s++ [.own 1]),.row 218 7 ((a6++ [eF s da kind aD cT cut]).map fu),.bm] (.bd []):=by
 refine ik (fn:=Tryz.f148) (c:=Tryz.f148.body.getD .skip) aA ay (by rfl) Tryz.func148 (by rfl) (by rfl) (by rfl) (by rfl) (by rfl) ?_;repeat' ((conv=>whnf);first|refine cd ?_|refine aS (qE _ aj) ?_|refine aO (Sp (by simp<;>omega)) ?_|refine Exists.intro false ?_|fail)
 all_goals(conv=>whnf)
 refine⟨.r,⟨.r,cK ?_,nK,ai⟩,by rfl⟩;rw[ef];rfl
def oK(l:List cj)(r:cj)(k:Nat):Nat:=((l.take k).filter λx=>decide (x.aD=r.aD)&&hx x.cut r.cut).length
variable{l:List cj}{r:cj}
theorem aaI{k:Nat}(h:k<l.length):oK l r (k+1)=oK l r k+if(decide (l[k].aD=r.aD)&&hx l[k].cut r.cut)=true then 1 else 0:=by
 unfold oK;rw[e4 h,nx,fv];cases bV: (decide (l[k].aD=r.aD)&&hx l[k].cut r.cut)<;>simp[bV]
theorem aaJ(l:List cj)(r:cj)(k:Nat):oK l r k<=k:=
 bQ (sq _ _) (by grind)
def kA(l:List cj)(m:Int):Nat->Int×List Int
 |0=>(0,[])
 |i+1=>bif decide (m<=(oK l (l.getD i dA) l.length:Int))&&decide ((kA l m i).1<(l.getD i dA).aD)then((l.getD i dA).aD,(l.getD i dA).cut)else kA l m i
def vw(s:bj):List Int:=(kA s.aQ (fP s.view.mem.length) s.aQ.length).2
theorem amb(s:bj)(a6:List dO):cm Tryz.prog 227 [.cells 210 (de s++ [.own 1]),.row 218 7 (a6.map fu)] [.aV 0 0] [true,true] [.cells 210 (de s++ [.own 1]),.row 218 7 (a6.map fu)] (i64 (fP s.view.mem.length)):=by
 have e:bl Tryz.prog 181 [i64 ((s.view.mem.map aM).length:Int)] (i64 (fP s.view.mem.length)):=by
  rw[bF];exact HH _
 refine ik (fn:=Tryz.f227) (c:=Tryz.f227.body.getD .skip) aA ay (by rfl) Tryz.func227 (by rfl) (by rfl) (by rfl) (by rfl) (by rfl) ?_;repeat' ((conv=>whnf);first|refine aS e ?_|fail)
 all_goals(conv=>whnf)
 exact⟨.r,⟨.r,.r,.r,ai⟩,by rfl⟩
theorem amc(s:bj)(ae:eB s):cm Tryz.prog 199 [.cells 210 (de s++ [.av])] [.aV 0 0] [true] [.cells 210 (de s++ [.av])] (.ar 1 ((vw s).map aM) false):=by
 have amd:=al9 s .av;have jj:=ae.aQ;refine jS Tryz.func199 ?_;repeat' ((conv=>whnf);first|refine be ?_|fail)
 all_goals(conv=>whnf)
 refine⟨Nat,λi=>⟨[(0,.aV 0 0),(3,i64 (kA s.aQ (fP s.view.mem.length) i).1),(4,.ar 1 ((kA s.aQ (fP s.view.mem.length) i).2.map aM) false),(14,.ar 3 (s.aQ.map bZ) false),(15,i64 s.aQ.length),(16,i64 i)],[.cells 210 (de s++ [.av]),.cD [.aV 0 0]]⟩,λi=>i<=s.aQ.length,λi=>s.aQ.length-i,[],⟨0,bX _,?_⟩,?_⟩
 ·conv=>whnf
  exact⟨⟨.r,.r,.av,.r,aX (by simp),.r,ai⟩,⟨.r,.r,ai⟩,by rfl⟩
 ·intro i hi;conv=>whnf
  apply bh<;>intro h
  ·have ax:i<s.aQ.length:=by simpa using h
   clear h;have aw:s.aQ.getD i dA=s.aQ[i]:=by simp[ax]
   have Sq:=ae.kb _ (eM ax);have lA:kA s.aQ (fP s.view.mem.length) (i+1)=bif decide (fP s.view.mem.length<=(oK s.aQ s.aQ[i] s.aQ.length:Int))&&decide ((kA s.aQ (fP s.view.mem.length) i).1<s.aQ[i].aD)then(s.aQ[i].aD,s.aQ[i].cut)else kA s.aQ (fP s.view.mem.length) i:=by
    rw[<-aw];rfl
   have x7: (s.aQ.map bZ)[i]?=some (bZ s.aQ[i]):=c3 ax;obtain⟨r,ao⟩:∃r,r=s.aQ[i]:=⟨_,rfl⟩
   rw[<-ao]at Sq lA x7;repeat' ((conv=>whnf);first|refine⟨i,bZ r,aO ⟨rfl,x7⟩ ?_⟩|fail)
   all_goals(conv=>whnf)
   refine⟨Nat,λk=>⟨[(0,.aV 0 0),(3,i64 (kA s.aQ (fP s.view.mem.length) i).1),(4,.ar 1 ((kA s.aQ (fP s.view.mem.length) i).2.map aM) false),(6,.aV 2 0),(7,i64 (oK s.aQ r k)),(14,.ar 3 (s.aQ.map bZ) false),(15,i64 s.aQ.length),(16,i64 i),(24,.ar 3 (s.aQ.map bZ) false),(25,i64 s.aQ.length),(26,i64 k)],[.cells 210 (de s++ [.av]),.cD [.aV 0 0],.cells 179 (bZ r)]⟩,λk=>k<=s.aQ.length,λk=>s.aQ.length-k,[],⟨0,bX _,?_⟩,?_⟩
   ·conv=>whnf
    exact⟨⟨.r,.r,.r,.r,.r,.r,.r,.r,.r,aX (by simp),.r,ai⟩,⟨.r,.r,.r,ai⟩,by rfl⟩
   ·intro k hk;conv=>whnf
    apply bh<;>intro h
    ·have vx:k<s.aQ.length:=by simpa using h
     clear h;have kQ:=aaI (r:=r) vx;have ji:=aaJ s.aQ r k;have Sr:=Hr s.aQ[k].cut r.cut (by have:=ae.kb _ (eM vx);exact eU this);repeat' ((conv=>whnf);first|refine be ?_| (apply bh<;>intro h)|refine dr ?_|refine⟨_,_,aO ⟨rfl,c3 vx⟩ ?_⟩|refine dz Sr ?_|fail)
     all_goals(conv=>whnf)
     ·refine⟨k+1,vx,by simp only[];omega,?_⟩;conv=>whnf
      refine⟨⟨.r,.r,.r,.r,?_,.r,.r,.r,.r,.r,aX (bW (by omega)),ai⟩,⟨.r,.r,.r,ai⟩,by rfl⟩;rw[kQ,b6 h];exact aX (bW (by omega))
     ·refine⟨k+1,vx,by simp only[];omega,?_⟩;conv=>whnf
      refine⟨⟨.r,.r,.r,.r,?_,.r,.r,.r,.r,.r,aX (bW (by omega)),ai⟩,⟨.r,.r,.r,ai⟩,by rfl⟩;rw[kQ,bo (by rw[h];simp)];exact .refl
    ·have fp:¬k<s.aQ.length:=by simpa using h
     have:k=s.aQ.length:=by omega
     subst this;clear h;repeat' ((conv=>whnf);first|refine be ?_| (apply bh<;>intro h)|refine cd ?_|refine dr ?_|refine aS amd ?_|fail)
     all_goals(conv=>whnf)
     ·rw[h,bY]at lA;refine⟨i+1,ax,by simp only[];omega,?_⟩;conv=>whnf
      exact⟨⟨.r,aX (by rw[lA]),ig (by rw[lA]),.r,.r,aX (bW (by omega)),ai⟩,⟨.r,.r,ai⟩,by rfl⟩
     ·rw[h,bs]at lA;refine⟨i+1,ax,by simp only[];omega,?_⟩;conv=>whnf
      exact⟨⟨.r,aX (by rw[lA]),ig (by rw[lA]),.r,.r,aX (bW (by omega)),ai⟩,⟨.r,.r,ai⟩,by rfl⟩
  ·have fp:¬i<s.aQ.length:=by simpa using h
   have:i=s.aQ.length:=by omega
   subst this;clear h;repeat' ((conv=>whnf);first|refine be ?_|fail)
   all_goals(conv=>whnf)
   exact⟨.r,⟨.r,.r,ai⟩,by rfl⟩
theorem ame(s:bj)(ae:eB s)(a6:List dO):cm Tryz.prog 199 [.cells 210 (de s++ [.own 1]),.row 218 7 (a6.map fu)] [.aV 0 0] [true,true] [.cells 210 (de s++ [.own 1]),.row 218 7 (a6.map fu)] (.ar 1 ((vw s).map aM) false):=by
 have jj:=ae.aQ;refine jS Tryz.func199 ?_;repeat' ((conv=>whnf);first|refine be ?_|fail)
 all_goals(conv=>whnf)
 refine⟨Nat,λi=>⟨[(0,.aV 0 0),(3,i64 (kA s.aQ (fP s.view.mem.length) i).1),(4,.ar 1 ((kA s.aQ (fP s.view.mem.length) i).2.map aM) false),(14,.ar 3 (s.aQ.map bZ) false),(15,i64 s.aQ.length),(16,i64 i)],[.cells 210 (de s++ [.own 1]),.row 218 7 (a6.map fu),.cD [.aV 0 0,.own 1]]⟩,λi=>i<=s.aQ.length,λi=>s.aQ.length-i,[],⟨0,bX _,?_⟩,?_⟩
 ·conv=>whnf
  exact⟨⟨.r,.r,.av,.r,aX (by simp),.r,ai⟩,⟨.r,.r,.r,ai⟩,by rfl⟩
 ·intro i hi;conv=>whnf
  apply bh<;>intro h
  ·have ax:i<s.aQ.length:=by simpa using h
   clear h;have aw:s.aQ.getD i dA=s.aQ[i]:=by simp[ax]
   have Sq:=ae.kb _ (eM ax);have lA:kA s.aQ (fP s.view.mem.length) (i+1)=bif decide (fP s.view.mem.length<=(oK s.aQ s.aQ[i] s.aQ.length:Int))&&decide ((kA s.aQ (fP s.view.mem.length) i).1<s.aQ[i].aD)then(s.aQ[i].aD,s.aQ[i].cut)else kA s.aQ (fP s.view.mem.length) i:=by
    rw[<-aw];rfl
   have x7: (s.aQ.map bZ)[i]?=some (bZ s.aQ[i]):=c3 ax;obtain⟨r,ao⟩:∃r,r=s.aQ[i]:=⟨_,rfl⟩
   rw[<-ao]at Sq lA x7;repeat' ((conv=>whnf);first|refine⟨i,bZ r,aO ⟨rfl,x7⟩ ?_⟩|fail)
   all_goals(conv=>whnf)
   refine⟨Nat,λk=>⟨[(0,.aV 0 0),(3,i64 (kA s.aQ (fP s.view.mem.length) i).1),(4,.ar 1 ((kA s.aQ (fP s.view.mem.length) i).2.map aM) false),(6,.aV 3 0),(7,i64 (oK s.aQ r k)),(14,.ar 3 (s.aQ.map bZ) false),(15,i64 s.aQ.length),(16,i64 i),(24,.ar 3 (s.aQ.map bZ) false),(25,i64 s.aQ.length),(26,i64 k)],[.cells 210 (de s++ [.own 1]),.row 218 7 (a6.map fu),.cD [.aV 0 0,.own 1],.cells 179 (bZ r)]⟩,λk=>k<=s.aQ.length,λk=>s.aQ.length-k,[],⟨0,bX _,?_⟩,?_⟩
   ·conv=>whnf
    exact⟨⟨.r,.r,.r,.r,.r,.r,.r,.r,.r,aX (by simp),.r,ai⟩,⟨.r,.r,.r,.r,ai⟩,by rfl⟩
   ·intro k hk;conv=>whnf
    apply bh<;>intro h
    ·have vx:k<s.aQ.length:=by simpa using h
     clear h;have kQ:=aaI (r:=r) vx;have ji:=aaJ s.aQ r k;have Sr:=Hr s.aQ[k].cut r.cut (by have:=ae.kb _ (eM vx);exact eU this);repeat' ((conv=>whnf);first|refine be ?_| (apply bh<;>intro h)|refine dr ?_|refine⟨_,_,aO ⟨rfl,c3 vx⟩ ?_⟩|refine dz Sr ?_|fail)
     all_goals(conv=>whnf)
     ·refine⟨k+1,vx,by simp only[];omega,?_⟩;conv=>whnf
      refine⟨⟨.r,.r,.r,.r,?_,.r,.r,.r,.r,.r,aX (bW (by omega)),ai⟩,⟨.r,.r,.r,.r,ai⟩,by rfl⟩;rw[kQ,b6 h];exact aX (bW (by omega))
     ·refine⟨k+1,vx,by simp only[];omega,?_⟩;conv=>whnf
      refine⟨⟨.r,.r,.r,.r,?_,.r,.r,.r,.r,.r,aX (bW (by omega)),ai⟩,⟨.r,.r,.r,.r,ai⟩,by rfl⟩;rw[kQ,bo (by rw[h];simp)];exact .refl
    ·have fp:¬k<s.aQ.length:=by simpa using h
     have:k=s.aQ.length:=by omega
     subst this;clear h;repeat' ((conv=>whnf);first|refine be ?_| (apply bh<;>intro h)|refine cd ?_|refine dr ?_|refine .inr ⟨[0,1],bS (amb s a6) ?_⟩|fail)
     all_goals(conv=>whnf)
     ·rw[h,bY]at lA;refine⟨i+1,ax,by simp only[];omega,?_⟩;conv=>whnf
      exact⟨⟨.r,aX (by rw[lA]),ig (by rw[lA]),.r,.r,aX (bW (by omega)),ai⟩,⟨.r,.r,.r,ai⟩,by rfl⟩
     ·rw[h,bs]at lA;refine⟨i+1,ax,by simp only[];omega,?_⟩;conv=>whnf
      exact⟨⟨.r,aX (by rw[lA]),ig (by rw[lA]),.r,.r,aX (bW (by omega)),ai⟩,⟨.r,.r,.r,ai⟩,by rfl⟩
  ·have fp:¬i<s.aQ.length:=by simpa using h
   have:i=s.aQ.length:=by omega
   subst this;clear h;repeat' ((conv=>whnf);first|refine be ?_|fail)
   all_goals(conv=>whnf)
   exact⟨.r,⟨.r,.r,.r,ai⟩,by rfl⟩
def hh(s:bj):List Int:=bif (ju s.view s.box).2 then(ju s.view s.box).1 else vw s
def dl(s:bj)(a6:List dO):bj×List dO:=
 bif decide ((s.dec.length:Int)=0)&&decide (0<((hh s).length:Int))then({s with dec:=hh s},a6++ [eF s 0 6 0 0 (hh s)])else(s,a6)
variable{l:List c6}
theorem aaK{N:Nat}(aj:∀b∈l,b.cut.length<=N): (ju v l).1.length<=N:=by
 unfold ju
 grind
theorem aaL{l:List cj}{N:Nat}(aj:∀b∈l,b.cut.length<=N)(m:Int):∀i,i<=l.length->(kA l m i).2.length<=N
 |0,_=>bX _
 |i+1,h=>by
  unfold kA;cases decide (m<=(oK l (l.getD i dA) l.length:Int))&&decide ((kA l m i).1<(l.getD i dA).aD)
  ·exact aaL aj m i (by omega)
  grind
variable{s:bj}
theorem aaM(ae:eB s): (vw s).length<=1000:=aaL ae.kb _ _ (bP _)
theorem HP{a d:ak}:hr (.cD [a,d]) (.cD [.a1,.a1]):=.cD rfl λi x y ah bn=>by
 rcases i with _|_|i
 ·simp at ah bn;subst ah bn;exact .a1
 ·simp at ah bn;subst ah bn;exact .a1
 grind
theorem aaN{s:bj}{a6:List dO}{c:List Int}(aR:decide (((s.dec.map aM).length:Int)=0)=true)(aj:hh s=c)(h:decide (0<((c.map aM).length:Int))=true):dl s a6=({s with dec:=c},a6++ [eF s 0 6 0 0 c]):=by
 rw[bF]at aR h;simp only[dl,aj,aR,h,Of,bY]
theorem aaO{s:bj}{a6:List dO}{c:List Int}(aj:hh s=c)(h:decide (0<((c.map aM).length:Int))=false):dl s a6=(s,a6):=by
 rw[bF]at h;simp only[dl,aj,h,oj,bs]
theorem aaP{s:bj}{a6:List dO}(aR:decide (((s.dec.map aM).length:Int)=0)=false):dl s a6=(s,a6):=by
 rw[bF]at aR;simp only[dl,aR,vW,bs]
theorem Me(s:bj)(ae:eB s):cm Tryz.prog 154 [.cells 210 (de s++ [.av])] [.aV 0 0] [false] [.bm] (.bd [.agg (de (dl s []).1),.ar 7 ((dl s []).2.map fu) false]):=by
 have ab:=ae.mem;have Ss:=aax s.view (by omega) s.box (by have:=ae.box;omega) (λb ac=>by have:=ae.kz b ac;omega);have St:=amc s ae;have hw:=aaK (v:=s.view) ae.kz;have bb:=aaM ae;have wG: (ju s.view s.box).2=true->hh s=(ju s.view s.box).1:=λh=>by rw[hh,h,bY]
 have kv: (ju s.view s.box).2=false->hh s=vw s:=λh=>by rw[hh,h,bs]
 generalize ju s.view s.box=W at *;generalize vw s=D at *;have Su:=λc h=>Md {s with dec:=c} 0 6 0 0 c h;have bn:=λc aR aj h=> @aaN s [] c aR aj h;have aW:=λc aj h=> @aaO s [] c aj h;have aH:=λh=> @aaP s [] h;generalize dl s []=R at *;refine mj Tryz.func154 ?_;repeat' ((conv=>whnf);first| (apply bh<;>intro h)|refine cd ?_|refine aS Ss ?_|refine .inr ⟨[0],bS St ?_⟩|refine aS (qE _ (by omega)) ?_|refine .inr ⟨[0],_,_,_,_,_,Su _ (by omega),by rfl,⟨.r,ai⟩,⟨.r,.r,.r,.r,.r,.r,ai⟩,?_⟩|fail)
 all_goals(conv=>whnf)
 ·rename_i aR oH;rw[bn D aR (kv (by simpa using oH)) h];refine⟨[.jO 3],?_⟩;conv=>whnf
  exact⟨.r,⟨.bm,r3,ai⟩,by rfl⟩
 ·rename_i aR oH;rw[aW D (kv (by simpa using oH)) h];refine⟨[],?_⟩;conv=>whnf
  exact⟨eO ⟨.r,.av,ai⟩,⟨.bm,r3,ai⟩,by rfl⟩
 ·rename_i aR oH;rw[bn W.1 aR (wG (by simpa using oH)) h];refine⟨[.jO 3],?_⟩;conv=>whnf
  exact⟨.r,⟨.bm,r3,ai⟩,by rfl⟩
 ·rename_i aR oH;rw[aW W.1 (wG (by simpa using oH)) h];refine⟨[],?_⟩;conv=>whnf
  exact⟨eO ⟨.r,.av,ai⟩,⟨.bm,r3,ai⟩,by rfl⟩
 ·rw[aH h];refine⟨[],?_⟩;conv=>whnf
  exact⟨eO ⟨.r,.av,ai⟩,⟨.bm,r3,ai⟩,by rfl⟩
theorem zI(s:bj)(ae:eB s)(a6:List dO)(oI:a6.length<=100):cm Tryz.prog 154 [.cells 210 (de s++ [.own 1]),.row 218 7 (a6.map fu)] [.aV 0 0] [false,false] [.bm,.bm] (.bd [.agg (de (dl s a6).1),.ar 7 ((dl s a6).2.map fu) false]):=by
 have ab:=ae.mem;have Ss:=aax s.view (by omega) s.box (by have:=ae.box;omega) (λb ac=>by have:=ae.kz b ac;omega);have St:=ame s ae a6;have hw:=aaK (v:=s.view) ae.kz;have bb:=aaM ae;have wG: (ju s.view s.box).2=true->hh s=(ju s.view s.box).1:=λh=>by rw[hh,h,bY]
 have kv: (ju s.view s.box).2=false->hh s=vw s:=λh=>by rw[hh,h,bs]
 generalize ju s.view s.box=W at *;generalize vw s=D at *;have Su:=λc h=>ama {s with dec:=c} a6 oI 0 6 0 0 c h;have bn:=λc aR aj h=> @aaN s a6 c aR aj h;have aW:=λc aj h=> @aaO s a6 c aj h;have aH:=λh=> @aaP s a6 h;generalize dl s a6=R at *;refine mj Tryz.func154 ?_;repeat' ((conv=>whnf);first| (apply bh<;>intro h)|refine cd ?_|refine aS Ss ?_|refine .inr ⟨[0,1],bS St ?_⟩|refine aS (qE _ (by omega)) ?_|refine .inr ⟨[0,1],_,_,_,_,_,Su _ (by omega),by rfl,⟨.r,.r,ai⟩,⟨.r,.r,.r,.r,.r,.r,ai⟩,?_⟩|fail)
 all_goals(conv=>whnf)
 ·rename_i aR oH;rw[bn D aR (kv (by simpa using oH)) h];refine⟨[.jO 3],?_⟩;conv=>whnf
  exact⟨.r,⟨.bm,.bm,HP,ai⟩,by rfl⟩
 ·rename_i aR oH;rw[aW D (kv (by simpa using oH)) h];refine⟨[.jO 3],?_⟩;conv=>whnf
  exact⟨.r,⟨.bm,.bm,HP,ai⟩,by rfl⟩
 ·rename_i aR oH;rw[bn W.1 aR (wG (by simpa using oH)) h];refine⟨[.jO 3],?_⟩;conv=>whnf
  exact⟨.r,⟨.bm,.bm,HP,ai⟩,by rfl⟩
 ·rename_i aR oH;rw[aW W.1 (wG (by simpa using oH)) h];refine⟨[.jO 3],?_⟩;conv=>whnf
  exact⟨.r,⟨.bm,.bm,HP,ai⟩,by rfl⟩
 ·rw[aH h];refine⟨[.jO 3],?_⟩;conv=>whnf
  exact⟨.r,⟨.bm,.bm,HP,ai⟩,by rfl⟩
def eK(s:bj)(cut:List Int):bj×List dO×Int:=
 bif !fE s|| !gb s.view cut then(gg,[],1)
 else bif decide (0<(s.prop.length:Int))||decide (0<(s.dec.length:Int))then(gg,[],7)
 else bif (oJ s.aP cut).2 then
  ((dl {s with prop:=cut,cG:=0,aP:=(oJ s.aP cut).1,box:=(h8 s.view s.box ⟨s.self,cut⟩).1} [eF s 0 1 0 0 cut]).1,(dl {s with prop:=cut,cG:=0,aP:=(oJ s.aP cut).1,box:=(h8 s.view s.box ⟨s.self,cut⟩).1} [eF s 0 1 0 0 cut]).2,0)
 else((dl {s with prop:=cut,cG:=0} []).1,(dl {s with prop:=cut,cG:=0} []).2,0)
theorem BV(h:fE s=true):b0 s.view=true/\bH s.view.mem s.self=true/\0<=s.cG/\s.cG<=1099511627776:=by
 unfold fE at h
 grind
theorem aaQ(h:fE s=true):jT s.view s.prop=true/\jT s.view s.c4=true/\jT s.view s.dec=true/\hX s.view s.box=true:=by
 unfold fE at h
 grind
theorem aaR(h:fE s=true):s.box.length<=16:=by
 have:=Se (aaQ h).2.2.2;have:=s3 (BV h).1;omega
theorem aaS{b:c6}: (h8 v l b).1.length<=l.length+1:=by
 unfold h8;have:=aat l b
 grind
theorem aaT{b:c6}{N:Nat}(af:∀x∈l,x.cut.length<=N)(ac:b.cut.length<=N):∀x∈ (h8 v l b).1,x.cut.length<=N:=by
 unfold h8;intro x ah;cases h1: !hX v l|| !gb v b.cut<;>cases ad: !bH v.mem b.mem<;>cases aN:decide (0<=la l b.mem)<;>rw[h1,ad,aN]at ah<;>simp only[bY,bs]at ah<;>try(cases ah;done)
 rcases zE ah with rfl|ah;all_goals grind
theorem amf(s:bj)(ae:eB s)(cut:List Int)(aj:cut.length<=1000):bl Tryz.prog 97 [.agg (de s),.ar 1 (cut.map aM) false] (.bd [.agg (de (eK s cut).1),.ar 7 ((eK s cut).2.1.map fu) false,i64 (eK s cut).2.2]):=by
 have ab:=ae.mem;have fQ:=ph s ae;have amg:=R6 s.view (by omega) cut (by omega);have mM:=yb s ae;have amh:=alj s.aP (by have:=ae.gY;omega) cut (by omega);have Sv:=aay s.view (by omega) s.box (by have:=ae.box;omega) (λb ac=>by have:=ae.kz b ac;omega) ⟨s.self,cut⟩ (by simp only[];omega);have wq:eB {s with prop:=cut,cG:=0}:=⟨ae.mem,ae.gY,aj,ae.box,ae.kz,ae.bw,ae.mo,ae.c4,ae.aQ,ae.kb,ae.dec⟩
 have jE:fE s=true->eB {s with prop:=cut,cG:=0,aP:=(oJ s.aP cut).1,box:=(h8 s.view s.box ⟨s.self,cut⟩).1}:=λh=>
  ⟨ae.mem,alx ae.gY aj,aj,by
   have:=aaS (v:=s.view) (l:=s.box) (b:=⟨s.self,cut⟩);have:=aaR h;simp only[];omega,aaT ae.kz aj,ae.bw,ae.mo,ae.c4,ae.aQ,ae.kb,ae.dec⟩
 obtain⟨R,b4⟩:∃R,R=eK s cut:=⟨_,rfl⟩
 rw[<-b4];unfold eK at b4;generalize oJ s.aP cut=V at *;generalize(h8 s.view s.box ⟨s.self,cut⟩)=X at *;generalize fE s=B at *;have ami:=Md {s with prop:=cut,cG:=0,aP:=V.1,box:=X.1} 0 1 0 0 cut (by omega);have amj:=Me _ wq;have amk:=λh=>zI _ (jE h) [eF s 0 1 0 0 cut] (by simp);refine fM Tryz.func97 ?_;repeat' ((conv=>whnf);first|refine be ?_| (apply bh<;>intro h)|refine dr ?_|refine aS fQ ?_|refine dz amg ?_|refine aS mM ?_|fail)
 ·simp only[h,bY]at b4;subst b4;exact eO ⟨h6 ⟨.r,.r,.av,.r,.r,.av,.av,.av,.r,.r,.av,.av,.av,.av,.r,ai⟩,.av,.r,ai⟩
 ·rename_i aR;rw[bF,bF]at h;simp only[aR,h,bY,bs]at b4;subst b4;exact eO ⟨h6 ⟨.r,.r,.av,.r,.r,.av,.av,.av,.r,.r,.av,.av,.av,.av,.r,ai⟩,.av,.r,ai⟩
 rename_i aR;rw[bF,bF]at h;simp only[aR,h,bs]at b4;clear h;have cr:B=true:=by
  cases B
  ·cases aR
  ·rfl
 repeat' ((conv=>whnf);first| (apply bh<;>intro h)|refine cd ?_|refine aS (qE _ (by omega)) ?_|refine aS amh ?_|refine aS Sv ?_|refine .inr ⟨[2],bS ami ?_⟩|refine .inr ⟨[2],bS amj ?_⟩|refine .inr ⟨[2,6],bS (amk cr) ?_⟩|fail)
 all_goals(conv=>whnf)
 all_goals(simp only[h,bY,bs]at b4)
 all_goals subst b4
 all_goals exact .refl
def kc(s:bj)(m:c0):bj:=bif decide ((h8 s.view s.box ⟨m.src,m.cut⟩).2=0)then {s with box:=(h8 s.view s.box ⟨m.src,m.cut⟩).1}else s
theorem aml(s:bj)(ae:eB s)(m:c0)(aj:m.cut.length<=1000)(h1:fE s=true)(ad:m.view=s.view.num)(aN:eJ s.view m=true)(bt:m.src≠s.self)(b5:s.dec=[])(eN:m.kind=1):
  bl Tryz.prog 88 [.agg (de s),.agg (p0 m)] (.bd [.agg (de (dl (kc s m) []).1),.ar 7 ((dl (kc s m) []).2.map fu) false,i64 0]):=by
 have ab:=ae.mem;have fQ:=ph s ae;have jv:=zD s.view (by omega) m (by omega);have mM:=yb s ae;have Sv:=aay s.view (by omega) s.box (by have:=ae.box;omega) (λb ac=>by have:=ae.kz b ac;omega) ⟨m.src,m.cut⟩ (by simp only[];omega);have za:=aaR h1;have jE:eB (kc s m):=by
  unfold kc;cases decide ((h8 s.view s.box ⟨m.src,m.cut⟩).2=0)
  ·exact ae
  ·exact⟨ae.mem,ae.gY,ae.prop,by
    have:=aaS (v:=s.view) (l:=s.box) (b:=⟨m.src,m.cut⟩);simp only[bY];omega,aaT ae.kz aj,ae.bw,ae.mo,ae.c4,ae.aQ,ae.kb,ae.dec⟩
 have oL:=Me _ jE;have bn:decide ((h8 s.view s.box ⟨m.src,m.cut⟩).2=0)=true->kc s m= {s with box:=(h8 s.view s.box ⟨m.src,m.cut⟩).1}:=λh=>by rw[kc,h,bY]
 have aW:decide ((h8 s.view s.box ⟨m.src,m.cut⟩).2=0)=false->kc s m=s:=λh=>by rw[kc,h,bs]
 have amm:decide ((h8 s.view s.box ⟨m.src,m.cut⟩).2=0)=true->cm Tryz.prog 154 [.cells 210 (de {s with box:=(h8 s.view s.box ⟨m.src,m.cut⟩).1}++ [.av])] [.aV 0 0] [false] [.bm] (.bd [.agg (de (dl (kc s m) []).1),.ar 7 ((dl (kc s m) []).2.map fu) false]):=λh=>by
  have:=oL;rw[bn h]at this⊢;exact this
 have amn:decide ((h8 s.view s.box ⟨m.src,m.cut⟩).2=0)=false->cm Tryz.prog 154 [.cells 210 (de s++ [.av])] [.aV 0 0] [false] [.bm] (.bd [.agg (de (dl (kc s m) []).1),.ar 7 ((dl (kc s m) []).2.map fu) false]):=λh=>by
  have:=oL;rw[aW h]at this⊢;exact this
 clear oL bn aW jE;generalize dl (kc s m) []=E at *;generalize h8 s.view s.box ⟨m.src,m.cut⟩=X at *;rw[h1]at fQ;rw[aN]at jv;have HQ:decide (m.src=s.self)=false:=cX bt;have pk:decide (m.view=s.view.num)=true:=ep ad;have mN:decide (0<((s.dec.map aM).length:Int))=false:=by rw[b5];rfl
 have Sw:decide (m.kind=1)=true:=ep eN;refine fM Tryz.func88 ?_;repeat' ((conv=>whnf);first|refine be ?_|refine fZ (by assumption) ?_|refine e3 (by assumption) ?_| (apply bh<;>intro h)|exact .refl|refine cd ?_|refine dr ?_|refine aS fQ ?_|refine aS jv ?_|refine aS mM ?_|refine aS Sv ?_|refine .inr ⟨[3],bS (amm (by assumption)) ?_⟩|refine .inr ⟨[3],bS (amn (by assumption)) ?_⟩|fail)
 all_goals(conv=>whnf)
 rw[pk]at h;cases h
theorem amo(a b:aK)(bb:a.mem.length<=maxLen):bl Tryz.prog 19 [.agg (cc a),.agg (cc b)] (.v (.bool (decide (a.num=b.num)&&hx a.mem b.mem))):=by
 refine b9 (fn:=Tryz.f19) (c:=Tryz.f19.body.getD .skip) aA ay (by rfl) Tryz.func19 (by rfl) (by rfl) (by rfl) (by rfl) ?_;repeat' ((conv=>whnf);first|refine be ?_|exact .refl|refine dr ?_|refine dz (ajx _ _ bb) ?_|fail)
theorem amp(h1:s.view.mem.length<=1000)(ad:s.aP.cut.length<=1000)(aN:s.prop.length<=1000)(bt:s.box.length<=1000)(b5:∀b∈s.box,b.cut.length<=1000)(eN:s.bw=[])(iV:s.c4.length<=1000)(AX:s.aQ=[])(sJ:s.dec.length<=1000):eB s:=
 ⟨h1,ad,aN,bt,b5,(by grind),(λb ac=>by grind),iV,(by grind),(λb ac=>by grind),sJ⟩
theorem zJ{l:List cj}{x:Int}(h:decide (0<=eS l x)=true):eS l x=((eS l x).toNat:Int)/\(eS l x).toNat<l.length:=by
 have h:=fi h;refine⟨by omega,?_⟩;unfold eS at h⊢;rcases az: (List.range l.length).find? (λi=>decide ((l.getD i dA).mem=x))with _|n
 ·simp only[lx,az]at h;omega
 ·have aW:n<l.length:=uF.1 (Jz az);simp only[lx,az,lH];exact aW
theorem mq{t:TypeId}{cs ds:List ak}(h:mZ cs ds):hr (.cells t cs) (.cells t ds):=.cells (xU h).1 (xU h).2
def fR(v:aK)(l:List cj)(r:cj):List cj:=
 bif decide (0<=eS l r.mem)then(bif decide ((l.getD (eS l r.mem).toNat dA).aD<r.aD)then l.set (eS l r.mem).toNat r else l)else(fJ v l r).1
theorem amq(s:bj)(ae:eB s)(cw:gM s.view s.aQ=true)(r:cj)(ao:r.cut.length<=1000):
  cm Tryz.prog 153 [.cells 210 (pj s 1++ [.av]),.row 179 3 (s.aQ.map bZ)] [.aV 0 0,.agg (bZ r)] [true,false] [.cells 210 (pj s 3++ [.av]),.gone,.bm,.row 179 3 ((fR s.view s.aQ r).map bZ)] (.bd []):=by
 have Sx:=HN s.aQ (eU ae.aQ) r.mem;have HR:=aaH s.view (by have:=ae.mem;omega) s.aQ (by have:=ae.aQ;omega) (λb ac=>by have:=ae.kb b ac;omega) r (by omega) cw;have jR:= @zJ s.aQ r.mem;have nZ:decide (0<=eS s.aQ r.mem)=true->decide ((s.aQ.getD (eS s.aQ r.mem).toNat dA).aD<r.aD)=true->fR s.view s.aQ r=s.aQ.set (eS s.aQ r.mem).toNat r:=λh1 ad=>by rw[fR,h1,ad];rfl
 have mg:decide (0<=eS s.aQ r.mem)=true->decide ((s.aQ.getD (eS s.aQ r.mem).toNat dA).aD<r.aD)=false->fR s.view s.aQ r=s.aQ:=λh1 ad=>by rw[fR,h1,ad];rfl
 have BW:decide (0<=eS s.aQ r.mem)=false->fR s.view s.aQ r=(fJ s.view s.aQ r).1:=λh1=>by rw[fR,h1];rfl
 generalize fR s.view s.aQ r=E at *;generalize fJ s.view s.aQ r=R at *;refine mj Tryz.func153 ?_;repeat' ((conv=>whnf);first| (apply bh<;>intro h)|refine cd ?_|refine aS (qE _ (by omega)) ?_|refine aS Sx ?_|fail)
 all_goals(conv=>whnf)
 ·have aR:=h;clear h;obtain⟨iW,mG⟩:=jR aR;have nZ:=nZ aR;have mg:=mg aR;clear jR BW HR;generalize(eS s.aQ r.mem).toNat=k at *;have gl:k<(s.aQ.map bZ).length:=by rw[bF];exact mG
  have aw:s.aQ.getD k dA=s.aQ[k]:=by simp[mG]
  have cM: (s.aQ.map bZ)[k]?=some (bZ s.aQ[k]):=c3 mG;rw[aw]at nZ mg;repeat' ((conv=>whnf);first| (apply bh<;>intro h)|refine cd ?_|refine⟨k,aO ⟨iW,gl⟩ ?_⟩|refine⟨bZ s.aQ[k],aO cM ?_⟩|fail)
  all_goals(conv=>whnf)
  ·rw[nZ h];refine⟨[.fresh 179 3,.fa 1 5,.fa 3 5,.oY 1],?_⟩;conv=>whnf
   refine⟨.r,⟨.r,.r,nK,cK ?_,ai⟩,by rfl⟩;rw[nQ];rfl
  ·rw[mg h];refine⟨[.fresh 179 3,.fa 1 5,.fa 3 5,.oY 1],?_⟩;conv=>whnf
   exact⟨.r,⟨.r,.r,nK,.r,ai⟩,by rfl⟩
 ·rw[BW h];clear nZ mg BW jR;repeat' ((conv=>whnf);first|refine cd ?_|refine .inr ?_<;> (conv=>whnf)<;>refine .inr ?_<;> (conv=>whnf)<;>refine⟨_,_,_,HR,by rfl,⟨.r,.r,.r,ai⟩,?_⟩|fail)
  all_goals(conv=>whnf)
  refine⟨[.fa 3 5],?_⟩;conv=>whnf
  exact⟨.r,⟨.r,.r,nK,.r,ai⟩,by rfl⟩
theorem amr(s:bj)(ae:eB s)(cw:gM s.view s.aQ=true)(r:cj)(ao:r.cut.length<=1000):
  cm Tryz.prog 153 [.cells 210 (pj s 1++ [.av]),.row 179 3 (s.aQ.map bZ)] [.aV 0 0,.agg (bZ r)] [true,false] [.cells 210 (pj s 2++ [.av]),.gone,.row 179 3 ((fR s.view s.aQ r).map bZ)] (.bd []):=
 (amq s ae cw r ao).By (L1:=[.cells 210 (pj s 3++ [.av]),.gone]) (xV:=[.row 179 3 ((fR s.view s.aQ r).map bZ)]) (bP _)
theorem Sy(s:bj)(ae:eB s)(cw:gM s.view s.aQ=true)(r:cj)(ao:r.cut.length<=1000):
  cm Tryz.prog 153 [.cells 210 (pj s 1++ [.av]),.row 179 3 (s.aQ.map bZ)] [.aV 0 0,.agg (bZ r)] [true,false] [.cells 210 (de {s with aQ:=fR s.view s.aQ r}++ [.av]),.gone] (.bd []):=by
 have Sx:=HN s.aQ (eU ae.aQ) r.mem;have HR:=aaH s.view (by have:=ae.mem;omega) s.aQ (by have:=ae.aQ;omega) (λb ac=>by have:=ae.kb b ac;omega) r (by omega) cw;have jR:= @zJ s.aQ r.mem;have nZ:decide (0<=eS s.aQ r.mem)=true->decide ((s.aQ.getD (eS s.aQ r.mem).toNat dA).aD<r.aD)=true->fR s.view s.aQ r=s.aQ.set (eS s.aQ r.mem).toNat r:=λh1 ad=>by rw[fR,h1,ad];rfl
 have mg:decide (0<=eS s.aQ r.mem)=true->decide ((s.aQ.getD (eS s.aQ r.mem).toNat dA).aD<r.aD)=false->fR s.view s.aQ r=s.aQ:=λh1 ad=>by rw[fR,h1,ad];rfl
 have BW:decide (0<=eS s.aQ r.mem)=false->fR s.view s.aQ r=(fJ s.view s.aQ r).1:=λh1=>by rw[fR,h1];rfl
 generalize fR s.view s.aQ r=E at *;generalize fJ s.view s.aQ r=R at *;refine mj Tryz.func153 ?_;repeat' ((conv=>whnf);first| (apply bh<;>intro h)|refine cd ?_|refine aS (qE _ (by omega)) ?_|refine aS Sx ?_|fail)
 all_goals(conv=>whnf)
 ·have aR:=h;clear h;obtain⟨iW,mG⟩:=jR aR;have nZ:=nZ aR;have mg:=mg aR;clear jR BW HR;generalize(eS s.aQ r.mem).toNat=k at *;have gl:k<(s.aQ.map bZ).length:=by rw[bF];exact mG
  have aw:s.aQ.getD k dA=s.aQ[k]:=by simp[mG]
  have cM: (s.aQ.map bZ)[k]?=some (bZ s.aQ[k]):=c3 mG;rw[aw]at nZ mg;repeat' ((conv=>whnf);first| (apply bh<;>intro h)|refine cd ?_|refine⟨k,aO ⟨iW,gl⟩ ?_⟩|refine⟨bZ s.aQ[k],aO cM ?_⟩|fail)
  all_goals(conv=>whnf)
  ·rw[nZ h];refine⟨[.ql 0 12,.oY 1],?_⟩;conv=>whnf
   refine⟨.r,⟨mq ⟨.r,.r,.r,.r,.r,.r,.r,.r,.r,.r,.r,.r,ig ?_,.r,.r,.r,ai⟩,.r,nK,ai⟩,by rfl⟩;rw[nQ];rfl
  ·rw[mg h];refine⟨[.ql 0 12,.oY 1],?_⟩;conv=>whnf
   exact⟨.r,⟨.r,.r,nK,ai⟩,by rfl⟩
 ·rw[BW h];clear nZ mg BW jR;repeat' ((conv=>whnf);first|refine cd ?_|refine .inr ?_<;> (conv=>whnf)<;>refine .inr ?_<;> (conv=>whnf)<;>refine⟨_,_,_,HR,by rfl,⟨.r,.r,.r,ai⟩,?_⟩|fail)
  all_goals(conv=>whnf)
  refine⟨[.fa 1 5,.ql 0 12,.oY 1],?_⟩;conv=>whnf
  exact⟨.r,⟨.r,.r,nK,ai⟩,by rfl⟩
def rp(s:bj):bj:={s with phase:=0,bw:=[],c4:=[]}
theorem ams(s:bj):cm Tryz.prog 194 [.cells 210 (de s++ [.av])] [.aV 0 0] [true] [.cells 210 (de (rp s)++ [.av])] (.bd []):=by
 refine vf (fn:=Tryz.f194) (c:=Tryz.f194.body.getD .skip) aA ay (by rfl) Tryz.func194 (by rfl) (by rfl) (by rfl) (by rfl) (by rfl) ?_;repeat' ((conv=>whnf);first|refine be ?_|fail)
 all_goals(conv=>whnf)
 all_goals(refine⟨[],?_⟩)
 all_goals(conv=>whnf)
 all_goals(exact⟨.r,⟨mq ⟨.r,.r,.r,.r,.r,.r,.r,.r,.r,.r,.av,.av,.r,.r,.r,.r,ai⟩,.r,ai⟩,by rfl⟩)
theorem amt(s:bj):cm Tryz.prog 194 [.cells 210 (pj s 1++ [.av]),.row 179 3 (s.aQ.map bZ)] [.aV 0 0] [true,true] [.cells 210 (pj (rp s) 1++ [.av]),.row 179 3 (s.aQ.map bZ)] (.bd []):=by
 refine vf (fn:=Tryz.f194) (c:=Tryz.f194.body.getD .skip) aA ay (by rfl) Tryz.func194 (by rfl) (by rfl) (by rfl) (by rfl) (by rfl) ?_;repeat' ((conv=>whnf);first|refine be ?_|fail)
 all_goals(conv=>whnf)
 all_goals(refine⟨[],?_⟩)
 all_goals(conv=>whnf)
 all_goals(exact⟨.r,⟨mq ⟨.r,.r,.r,.r,.r,.r,.r,.r,.r,.r,.av,.av,.r,.r,.r,.r,ai⟩,.r,.r,ai⟩,by rfl⟩)
theorem amu(s:bj):cm Tryz.prog 227 [.cells 210 (pj s 1++ [.av]),.row 179 3 (s.aQ.map bZ)] [.aV 0 0] [true,true] [.cells 210 (pj s 1++ [.av]),.row 179 3 (s.aQ.map bZ)] (i64 (fP s.view.mem.length)):=by
 have e:bl Tryz.prog 181 [i64 ((s.view.mem.map aM).length:Int)] (i64 (fP s.view.mem.length)):=by
  rw[bF];exact HH _
 refine ik (fn:=Tryz.f227) (c:=Tryz.f227.body.getD .skip) aA ay (by rfl) Tryz.func227 (by rfl) (by rfl) (by rfl) (by rfl) (by rfl) ?_;repeat' ((conv=>whnf);first|refine aS e ?_|fail)
 all_goals(conv=>whnf)
 exact⟨.r,⟨.r,.r,.r,ai⟩,by rfl⟩
variable{l:List cj}
theorem Sz{own:List Int}{N:Nat}(aj:∀r∈l,r.cut.length<=N)(aH:own.length<=N): (gH v l own).1.length<=N:=by
 unfold gH;cases rl v l own
 ·rw[bs];cases decide (0<(l.getD (hW l l.length) dA).aD)
  ·rw[bs];cases az: (ga l).find? (λb=>decide (ub v l<=(iG (ga l) b.cut:Int)))with
   |some b=>exact aak aj b (Jz az)
   |none=>
    grind
  ·rw[bY];rcases l5 (hW l l.length) l.length with h|h
   ·grind
   ·simp only[sn,xf h,JI];exact bX _
 simp
def gC(s:bj):bj:=
 bif !decide (s.phase=1)||decide ((s.bw.length:Int)<fP s.view.mem.length)then s
 else bif (jb s.aP s.aD (gH s.view s.bw s.prop).1).2 then
  {s with c4:=(gH s.view s.bw s.prop).1,phase:=2,aP:=(jb s.aP s.aD (gH s.view s.bw s.prop).1).1,aQ:=fR s.view s.aQ ⟨s.self,s.aD,(gH s.view s.bw s.prop).1⟩}
 else rp s
theorem aaU(s:bj)(ae:eB s)(cw:gM s.view s.aQ=true):cm Tryz.prog 196 [.cells 210 (pj s 1++ [.av]),.row 179 3 (s.aQ.map bZ)] [.aV 0 0] [true,false] [.cells 210 (de (gC s)++ [.av]),.gone] (.bd []):=by
 have aC:=amu s;have iy:=Sz (v:=s.view) (l:=s.bw) (own:=s.prop) ae.mo ae.prop;have aG:=alp s.view (by have:=ae.mem;omega) s.bw (by have:=ae.bw;omega) (λb ac=>by have:=ae.mo b ac;omega) s.prop (by have:=ae.prop;omega);have aaV: (!decide (s.phase=1)||decide ((s.bw.length:Int)<fP s.view.mem.length))=true->gC s=s:=λh=>by rw[gC,h,bY]
 have nZ: (!decide (s.phase=1)||decide ((s.bw.length:Int)<fP s.view.mem.length))=false->(jb s.aP s.aD (gH s.view s.bw s.prop).1).2=true->gC s= {s with c4:=(gH s.view s.bw s.prop).1,phase:=2,aP:=(jb s.aP s.aD (gH s.view s.bw s.prop).1).1,aQ:=fR s.view s.aQ ⟨s.self,s.aD,(gH s.view s.bw s.prop).1⟩}:=λh ad=>by rw[gC,h,ad,bs,bY]
 have mg: (!decide (s.phase=1)||decide ((s.bw.length:Int)<fP s.view.mem.length))=false->(jb s.aP s.aD (gH s.view s.bw s.prop).1).2=false->gC s=rp s:=λh ad=>by rw[gC,h,ad,bs,bs]
 generalize gH s.view s.bw s.prop=C at *;have bc:=aac s.aP (by have:=ae.gY;omega) s.aD C.1 (by omega);have jj:=L3 (aD:=s.aD) ae.gY iy;generalize jb s.aP s.aD C.1=X at *;have cn:=amt {s with c4:=C.1,phase:=2};have jE:eB {s with c4:=C.1,phase:=2,aP:=X.1}:=⟨ae.mem,jj,ae.prop,ae.box,ae.kz,ae.bw,ae.mo,iy,ae.aQ,ae.kb,ae.dec⟩
 have eu:=Sy _ jE cw ⟨s.self,s.aD,C.1⟩ iy;generalize gC s=A at *;refine mj Tryz.func196 ?_;repeat' ((conv=>whnf);first|refine be ?_| (apply bh<;>intro h)|refine cd ?_|refine Exists.intro (i64 0) ?_|refine aO ⟨λh=>h,λaw=>Bool.noConfusion (aw.symm.trans h)⟩ ?_|refine .inl ⟨[0,1],_,_,_,_,aC,by rfl,⟨rfl,rfl,ai⟩,⟨.r,ai⟩,?_⟩|refine aS aG ?_|refine aS bc ?_|refine .inr ⟨[0,1],bS cn ?_⟩|refine .inr ⟨[0,1],bS eu ?_⟩|fail)
 all_goals(conv=>whnf)
 all_goals simp only[bF]at *
 ·rw[aaV (by assumption)];refine⟨[.ql 0 12,.oY 1],?_⟩;conv=>whnf
  exact⟨.r,⟨.r,.r,nK,ai⟩,by rfl⟩
 ·rename_i h1 ad;rw[mg h (by simpa using ad)];refine⟨[.ql 0 12,.oY 1],?_⟩;conv=>whnf
  exact⟨.r,⟨.r,.r,nK,ai⟩,by rfl⟩
 ·rename_i h1 ad;rw[nZ h (by simpa using ad)];refine⟨[],?_⟩;conv=>whnf
  exact⟨.r,⟨.r,.r,nK,ai⟩,by rfl⟩
 ·rename_i h1;rw[aaV (by simp at h1;simp[h1])];refine⟨[.ql 0 12,.oY 1],?_⟩;conv=>whnf
  exact⟨.r,⟨.r,.r,nK,ai⟩,by rfl⟩
 all_goals
  rename_i h1 ad;simp at h1 h;exact absurd h h1
theorem amv(s:bj)(a6:List dO):cm Tryz.prog 194 [.cells 210 (de s++ [.own 1]),.row 218 7 (a6.map fu)] [.aV 0 0] [true,true] [.cells 210 (de (rp s)++ [.own 1]),.row 218 7 (a6.map fu)] (.bd []):=by
 refine vf (fn:=Tryz.f194) (c:=Tryz.f194.body.getD .skip) aA ay (by rfl) Tryz.func194 (by rfl) (by rfl) (by rfl) (by rfl) (by rfl) ?_;repeat' ((conv=>whnf);first|refine be ?_|fail)
 all_goals(conv=>whnf)
 all_goals(refine⟨[],?_⟩)
 all_goals(conv=>whnf)
 all_goals(exact⟨.r,⟨mq ⟨.r,.r,.r,.r,.r,.r,.r,.r,.r,.r,.av,.av,.r,.r,.r,.r,ai⟩,.r,.r,ai⟩,by rfl⟩)
def kR(s:bj)(m:c0):bj×List dO:=
 (bif decide (s.aD<m.aD)&& !decide (s.phase=0)then rp (bif (ip s.aP m.aD).2.2 then {s with aP:=(ip s.aP m.aD).1}else s)else(bif (ip s.aP m.aD).2.2 then {s with aP:=(ip s.aP m.aD).1}else s),
  bif (ip s.aP m.aD).2.2 then [eF s m.src 3 m.aD (ip s.aP m.aD).2.1.aD (ip s.aP m.aD).2.1.cut]else [])
theorem amw(s:bj)(ae:eB s)(m:c0):cm Tryz.prog 150 [.cells 210 (de s++ [.av])] [.aV 0 0,.agg (p0 m)] [true] [.cells 210 (de (kR s m).1++ [.own 2]),.bm,.row 218 7 ((kR s m).2.map fu)] (.bd []):=by
 have aC:=aab s.aP (by have:=ae.gY;omega) m.aD;have ez:=(L2 (aD:=m.aD) ae.gY).2;obtain⟨R,b4⟩:∃R,R=kR s m:=⟨_,rfl⟩
 rw[<-b4];unfold kR at b4;generalize ip s.aP m.aD=X at *;have aG:=Md {s with aP:=X.1} m.src 3 m.aD X.2.1.aD X.2.1.cut (by omega);have bc:=amv {s with aP:=X.1} [eF s m.src 3 m.aD X.2.1.aD X.2.1.cut];have cn:=ams s;refine mj Tryz.func150 ?_;repeat' ((conv=>whnf);first|refine be ?_| (apply bh<;>intro h)|refine cd ?_|refine aS aC ?_|refine .inr ⟨[0],bS aG ?_⟩|refine .inr ⟨[0,7],bS bc ?_⟩|refine .inr ⟨[0],bS cn ?_⟩|fail)
 all_goals(conv=>whnf)
 all_goals simp only[bF]at *
 all_goals(simp only[*,bY,bs]at b4)
 all_goals subst b4
 ·(refine⟨[.fa 2 7],?_⟩; (conv=>whnf);exact⟨.r,⟨.r,.r,.r,ai⟩,by rfl⟩)
 ·(refine⟨[.fa 2 7],?_⟩; (conv=>whnf);exact⟨.r,⟨.r,.r,.r,ai⟩,by rfl⟩)
 ·(refine⟨[.cell 0 15 218 7,.fa 2 6],?_⟩; (conv=>whnf);exact⟨.r,⟨.r,.r,.r,ai⟩,by rfl⟩)
 ·(refine⟨[.cell 0 15 218 7,.fa 2 6],?_⟩; (conv=>whnf);exact⟨.r,⟨.r,.r,.r,ai⟩,by rfl⟩)
theorem EH{r x:cj}(h:x∈ (fJ v l r).1):x=r\/x∈l:=by
 unfold fJ at h;cases h1:gM v l with
 |false=>grind
 |true=>
  cases ad:gM v (iR l r)with
  |false=>grind
  |true=>simp[h1,ad]at h;exact BP h
theorem SA{r:cj}(h:gM v l=true):gM v (fJ v l r).1=true:=by
 unfold fJ
 grind
theorem SB{v:aK}{l:List cj}{r:cj}: (fJ v l r).1.length<=l.length+1:=by
 have:=R0 l r;unfold fJ
 grind
theorem SC{x:Int}(h:decide (0<=eS l x)=true): (l.getD (eS l x).toNat dA).mem=x:=by
 have h:=fi h;unfold eS at h⊢;rcases az: (List.range l.length).find? (λi=>decide ((l.getD i dA).mem=x))with _|n
 ·simp only[lx,az]at h;omega
 ·have aW:=Jw az;simp only[lx,az,lH]
  grind
theorem EI{r x:cj}(h:x∈fR v l r):x=r\/x∈l:=by
 unfold fR at h;cases h1:decide (0<=eS l r.mem)
 ·rw[h1]at h;exact EH h
 grind
theorem SD{v:aK}{l:List cj}{r:cj}: (fR v l r).length<=l.length+1:=by
 unfold fR;have:= @SB v l r
 grind
theorem amx(ab:b0 v=true){l:List cj}{r:cj}(h:gM v l=true)(ao:jG v r=true){k:Nat}(hk:k<l.length)(he:l[k].mem=r.mem):gM v (l.set k r)=true:=by
 obtain⟨h1,ad⟩:=(rm ab).1 h;refine(rm ab).2 ⟨λx ah=> ?_,?_⟩
 ·grind
 ·rw[mz]at ad⊢
  grind
theorem SE(ab:b0 v=true){l:List cj}{r:cj}(h:gM v l=true)(ao:jG v r=true):gM v (fR v l r)=true:=by
 unfold fR;cases h1:decide (0<=eS l r.mem)
 ·exact SA h
 ·cases decide ((l.getD (eS l r.mem).toNat dA).aD<r.aD)
  ·exact h
  ·obtain⟨_,hk⟩:=zJ h1;have:=SC h1;rw[show l.getD (eS l r.mem).toNat dA=l[(eS l r.mem).toNat] by grind]at this;exact amx ab h ao hk this
theorem yc(s:bj)(da kind aD cT:Int)(cut:List Int)(aj:cut.length<=1000000):
  cm Tryz.prog 148 [.cells 210 (de s++ [.av])] [.aV 0 0,i64 da,i64 kind,i64 aD,i64 cT,.ar 1 (cut.map aM) false] [true] [.cells 210 (de s++ [.own 1]),.row 218 7 [fu (eF s da kind aD cT cut)]] (.bd []):=
 (Md s da kind aD cT cut aj).By (L1:=[.cells 210 (de s++ [.own 2])]) (xV:=[.row 218 7 [fu (eF s da kind aD cT cut)]]) (bP _)
def kS(s:bj)(m:c0):bj×List dO:=
 bif !decide (s.phase=1)|| !decide (m.aD=s.aD)then(s,[])
 else(gC {s with bw:=(fJ s.view s.bw ⟨m.src,m.cT,m.cut⟩).1},
  bif decide ((gC {s with bw:=(fJ s.view s.bw ⟨m.src,m.cT,m.cut⟩).1}).phase=2)then [eF (gC {s with bw:=(fJ s.view s.bw ⟨m.src,m.cT,m.cut⟩).1}) 0 4 (gC {s with bw:=(fJ s.view s.bw ⟨m.src,m.cT,m.cut⟩).1}).aD 0 (gC {s with bw:=(fJ s.view s.bw ⟨m.src,m.cT,m.cut⟩).1}).c4]else [])
theorem amy(ae:eB s): (gC s).c4.length<=1000:=by
 unfold gC;cases !decide (s.phase=1)||decide ((s.bw.length:Int)<fP s.view.mem.length)
 ·cases (jb s.aP s.aD (gH s.view s.bw s.prop).1).2
  ·exact bX _
  ·exact Sz ae.mo ae.prop
 ·exact ae.c4
theorem amz(s:bj)(ae:eB s)(cw:gM s.view s.aQ=true)(hc:s.bw.length<=900)(m:c0)(aj:m.cut.length<=1000):cm Tryz.prog 151 [.cells 210 (pj s 1++ [.av]),.row 179 3 (s.aQ.map bZ)] [.aV 0 0,.agg (p0 m)] [true,false] [.cells 210 (de (kS s m).1++ [.own 3]),.gone,.bm,.row 218 7 ((kS s m).2.map fu)] (.bd []):=by
 have aC:=alz s.view (by have:=ae.mem;omega) s.bw (by have:=ae.bw;omega) (λb ac=>by have:=ae.mo b ac;omega) ⟨m.src,m.cT,m.cut⟩ (by simp only[];omega);have ic:= @SB s.view s.bw ⟨m.src,m.cT,m.cut⟩;have gQ:∀x∈ (fJ s.view s.bw ⟨m.src,m.cT,m.cut⟩).1,x.cut.length<=1000:=λx ah=>by
  rcases EH ah with rfl|ah
  ·exact aj
  ·exact ae.mo x ah
 obtain⟨R,b4⟩:∃R,R=kS s m:=⟨_,rfl⟩
 rw[<-b4];unfold kS at b4;generalize fJ s.view s.bw ⟨m.src,m.cT,m.cut⟩=X at *;have jE:eB {s with bw:=X.1}:=⟨ae.mem,ae.gY,ae.prop,ae.box,ae.kz,(by simp only[];omega),gQ,ae.c4,ae.aQ,ae.kb,ae.dec⟩
 have aG:=aaU _ jE cw;have iy:=amy jE;generalize gC {s with bw:=X.1}=A at *;have bc:=yc A 0 4 A.aD 0 A.c4 (by omega);refine mj Tryz.func151 ?_;repeat' ((conv=>whnf);first|refine be ?_| (apply bh<;>intro h)|refine cd ?_|refine dr ?_|refine aS aC ?_|refine .inr ⟨[0,1],bS aG ?_⟩|refine .inr ⟨[0],bS bc ?_⟩|fail)
 all_goals(conv=>whnf)
 all_goals simp only[*,bY,bs]at b4
 all_goals subst b4
 ·(refine⟨[.ql 0 12,.oY 1,.cell 0 15 218 7,.fa 3 4],?_⟩; (conv=>whnf);exact⟨.r,⟨.r,.r,nK,.r,ai⟩,by rfl⟩)
 ·(refine⟨[.fa 3 5],?_⟩; (conv=>whnf);exact⟨.r,⟨.r,.r,nK,.r,ai⟩,by rfl⟩)
 ·(refine⟨[.cell 0 15 218 7,.fa 3 5],?_⟩; (conv=>whnf);exact⟨.r,⟨.r,.r,nK,.r,ai⟩,by rfl⟩)
def lX(s:bj)(m:c0):bj×List dO:=
 bif (jb s.aP m.aD m.cut).2 then({s with aP:=(jb s.aP m.aD m.cut).1,aQ:=fR s.view (fR s.view s.aQ ⟨m.src,m.aD,m.cut⟩) ⟨s.self,m.aD,m.cut⟩},[eF s 0 5 m.aD 0 m.cut])
 else({s with aQ:=fR s.view s.aQ ⟨m.src,m.aD,m.cut⟩},[])
theorem amA(s:bj)(ae:eB s)(ab:b0 s.view=true)(cw:gM s.view s.aQ=true)(jj:s.aQ.length<=900)(m:c0)(aj:m.cut.length<=1000)(ao:jG s.view ⟨m.src,m.aD,m.cut⟩=true):cm Tryz.prog 152 [.cells 210 (pj s 1++ [.av]),.row 179 3 (s.aQ.map bZ)] [.aV 0 0,.agg (p0 m)] [true,false] [.cells 210 (de (lX s m).1++ [.own 3]),.gone,.bm,.row 218 7 ((lX s m).2.map fu)] (.bd []):=by
 have aC:=amr s ae cw ⟨m.src,m.aD,m.cut⟩ aj;have aG:=aac s.aP (by have:=ae.gY;omega) m.aD m.cut (by omega);have ic:= @SD s.view s.aQ ⟨m.src,m.aD,m.cut⟩;have gQ:∀x∈fR s.view s.aQ ⟨m.src,m.aD,m.cut⟩,x.cut.length<=1000:=λx ah=>by
  rcases EI ah with rfl|ah
  ·exact aj
  ·exact ae.kb x ah
 have amB:=SE ab cw ao;have amC:=L3 (aD:=m.aD) ae.gY aj;obtain⟨R,b4⟩:∃R,R=lX s m:=⟨_,rfl⟩
 rw[<-b4];unfold lX at b4;generalize jb s.aP m.aD m.cut=X at *;generalize fR s.view s.aQ ⟨m.src,m.aD,m.cut⟩=E at *;have jE:eB {s with aP:=X.1,aQ:=E}:=⟨ae.mem,amC,ae.prop,ae.box,ae.kz,ae.bw,ae.mo,ae.c4,(by simp only[];omega),gQ,ae.dec⟩
 have bc:=Sy _ jE amB ⟨s.self,m.aD,m.cut⟩ aj;have cn:=yc {s with aP:=X.1,aQ:=fR s.view E ⟨s.self,m.aD,m.cut⟩} 0 5 m.aD 0 m.cut (by omega);refine mj Tryz.func152 ?_;repeat' ((conv=>whnf);first| (apply bh<;>intro h)|refine cd ?_|refine .inr ⟨[0,1],bS aC ?_⟩|refine aS aG ?_|refine .inr ⟨[0,4],bS bc ?_⟩|refine .inr ⟨[0],bS cn ?_⟩|fail)
 all_goals(conv=>whnf)
 all_goals simp only[*,bY,bs]at b4
 all_goals subst b4
 ·(refine⟨[.fa 3 8],?_⟩; (conv=>whnf);exact⟨.r,⟨.r,.r,nK,.r,ai⟩,by rfl⟩)
 ·(refine⟨[.ql 0 12,.cell 0 15 218 7,.fa 3 7],?_⟩; (conv=>whnf);exact⟨.r,⟨.r,.r,nK,.r,ai⟩,by rfl⟩)
theorem Mf(s:bj)(ae:eB s):cm Tryz.prog 147 [] [.agg (de s)] [] [.row 179 3 (s.aQ.map bZ)] (.agg (pj s 0)):=by
 have h1:=(al6 s ae).By (L1:=[]) (xV:=[.bm,.bm,.row 179 3 (s.aQ.map bZ)]) (bP _);have ad:=cm.By (L1:=[]) (xV:=[.bm,.row 179 3 (s.aQ.map bZ)]) (d:=.agg (pj s 2)) h1 (bP _);exact cm.By (L1:=[]) (xV:=[.row 179 3 (s.aQ.map bZ)]) (d:=.agg (pj s 1)) ad (bP _)
theorem SF(ae:eB s):eB (rp s):=⟨ae.mem,ae.gY,ae.prop,ae.box,ae.kz,bX _,(λb ac=>by cases ac),bX _,ae.aQ,ae.kb,ae.dec⟩
theorem amD(ae:eB s)(m:c0):eB (kR s m).1:=by
 have h1:eB {s with aP:=(ip s.aP m.aD).1}:=⟨ae.mem,(L2 ae.gY).1,ae.prop,ae.box,ae.kz,ae.bw,ae.mo,ae.c4,ae.aQ,ae.kb,ae.dec⟩
 unfold kR;cases decide (s.aD<m.aD)&& !decide (s.phase=0)<;>cases (ip s.aP m.aD).2.2
 ·exact ae
 ·exact h1
 ·exact SF ae
 ·exact SF h1
theorem Mg(ae:eB s){r:cj}(ao:r.cut.length<=1000)(af:s.aQ.length<=900):eB {s with aQ:=fR s.view s.aQ r}:=
 ⟨ae.mem,ae.gY,ae.prop,ae.box,ae.kz,ae.bw,ae.mo,ae.c4,(by have:= @SD s.view s.aQ r;grind),(λx ah=>by
  rcases EI ah with rfl|ah
  ·exact ao
  ·exact ae.kb x ah),ae.dec⟩
theorem aaW(ae:eB s)(af:s.aQ.length<=900):eB (gC s):=by
 have iy:=Sz (v:=s.view) (l:=s.bw) (own:=s.prop) ae.mo ae.prop;unfold gC;cases !decide (s.phase=1)||decide ((s.bw.length:Int)<fP s.view.mem.length)
 ·cases (jb s.aP s.aD (gH s.view s.bw s.prop).1).2
  ·exact SF ae
  ·have h1:=Mg (r:=⟨s.self,s.aD,(gH s.view s.bw s.prop).1⟩) ae iy af;exact⟨ae.mem,L3 ae.gY iy,ae.prop,ae.box,ae.kz,ae.bw,ae.mo,iy,h1.aQ,h1.kb,ae.dec⟩
 grind
theorem amE(ae:eB s)(hc:s.bw.length<=900)(af:s.aQ.length<=900){m:c0}(aj:m.cut.length<=1000):eB (kS s m).1:=by
 unfold kS;cases !decide (s.phase=1)|| !decide (m.aD=s.aD)
 ·refine aaW ⟨ae.mem,ae.gY,ae.prop,ae.box,ae.kz,(by have:= @SB s.view s.bw ⟨m.src,m.cT,m.cut⟩;grind),(λx ah=> ?_),ae.c4,ae.aQ,ae.kb,ae.dec⟩ af;rcases EH ah with rfl|ah
  ·exact aj
  ·exact ae.mo x ah
 grind
theorem amF(ae:eB s)(af:s.aQ.length<=800){m:c0}(aj:m.cut.length<=1000):eB (lX s m).1:=by
 have h1:=Mg (r:=⟨m.src,m.aD,m.cut⟩) ae aj (by omega);have ad:=Mg (r:=⟨s.self,m.aD,m.cut⟩) h1 aj (by have:= @SD s.view s.aQ ⟨m.src,m.aD,m.cut⟩;grind);unfold lX;cases (jb s.aP m.aD m.cut).2
 ·exact h1
 ·exact⟨ae.mem,L3 ae.gY aj,ae.prop,ae.box,ae.kz,ae.bw,ae.mo,ae.c4,ad.aQ,ad.kb,ae.dec⟩
theorem aaX(s:bj)(m:c0): (kR s m).2.length<=100:=by
 unfold kR;cases (ip s.aP m.aD).2.2<;>simp
theorem aaY(s:bj)(m:c0): (kS s m).2.length<=100:=by
 unfold kS
 grind
theorem aaZ(s:bj)(m:c0): (lX s m).2.length<=100:=by
 unfold lX;cases (jb s.aP m.aD m.cut).2<;>simp
theorem r7(h:gM v l=true):l.length<=16:=by
 have ab:b0 v=true:=by
  simp only[gM,cq]at h
  grind
 have ad:=((rm ab).1 h)
 have aN: (l.map (·.mem)).Nodup:=by
  grind
 have bt:=rn aN (b:=v.mem) (λx ah=>by
  obtain⟨r,ao,rfl⟩:=fT.1 ah;have:=ad.1 r ao;simp only[jG,cq]at this;exact EG this.1)
 rw[bF]at bt;have:=s3 ab;omega
theorem BX(h:fE s=true):gM s.view s.bw=true/\gM s.view s.aQ=true/\zH s=true/\(∀i,i<s.aQ.length->zG 1 s.aQ i=true):=by
 unfold fE at h;cases h1: !b0 s.view|| !bH s.view.mem s.self||decide (s.cG<0)||decide (1099511627776<s.cG)
 ·rw[h1,bs]at h;cases ad: (!k8 s.aP|| !decide (s.aP.cg=0)&& !gN s.view s.aP.cg||decide (0<s.aP.aD)&& !gN s.view s.aP.aD|| !jT s.view s.aP.cut)
  ·rw[ad,bs]at h;cases aN: !jT s.view s.prop|| !jT s.view s.c4|| !jT s.view s.dec|| !hX s.view s.box
   ·rw[aN,bs]at h;cases bt: (hY s.box s.self).2&& !hx (hY s.box s.self).1 s.prop
    ·rw[bt,bs]at h;simp only[cq,ud]at h;exact⟨h.2.1.1.2,h.2.1.2.2,h.2.2,ij.1 h.1⟩
    grind
   grind
  grind
 grind
variable{m:c0}
theorem amG(h:eJ v m=true)(hk:m.kind=4\/m.kind=5):jG v ⟨m.src,m.aD,m.cut⟩=true:=by
 unfold eJ at h;cases h1: !b0 v|| !bH v.mem m.src|| !decide (m.view=v.num)
 ·rw[h1,bs]at h;simp only[iK,l3,fr]at h1;rcases hk with hk|hk<;>simp[hk]at h<;>simp only[jG,jt,gN,gb,cq,oR,mV,fr,hG]at h⊢
  all_goals grind
 grind
theorem amH(s:bj)(ae:eB s)(m:c0)(aj:m.cut.length<=1000)(h1:fE s=true)(ad:m.view=s.view.num)(aN:eJ s.view m=true)(bt:m.src≠s.self)(b5:s.dec=[])(eN:m.kind=2):
  bl Tryz.prog 88 [.agg (de s),.agg (p0 m)] (.bd [.agg (de (dl (kR s m).1 (kR s m).2).1),.ar 7 ((dl (kR s m).1 (kR s m).2).2.map fu) false,i64 0]):=by
 have ab:=ae.mem;have fQ:=ph s ae;have jv:=zD s.view (by omega) m (by omega);have mM:=yb s ae;have HS:=(BV h1).1;obtain⟨ue,lf,_,_⟩:=BX h1;have Mh:=r7 ue;have HT:=r7 lf;have bc:=amw s ae m;have oL:=zI _ (amD ae m) (kR s m).2 (aaX s m);generalize dl (kR s m).1 (kR s m).2=E at *;generalize(kR s m)=X at *;rw[h1]at fQ;rw[aN]at jv;have HQ:decide (m.src=s.self)=false:=cX bt;have pk:decide (m.view=s.view.num)=true:=ep ad;have mN:decide (0<((s.dec.map aM).length:Int))=false:=by rw[b5];rfl
 have Mi:decide (m.kind=1)=false:=cX (by omega);have Mj:decide (m.kind=2)=true:=ep eN;refine fM Tryz.func88 ?_;repeat' ((conv=>whnf);first|refine be ?_|refine fZ (by assumption) ?_|refine e3 (by assumption) ?_| (apply bh<;>intro h)|exact .refl|refine dr ?_|refine aS fQ ?_|refine aS jv ?_|refine aS mM ?_|refine .inr ⟨[3],bS bc ?_⟩|refine .inr ⟨[3,5],bS oL ?_⟩|fail)
 all_goals(conv=>whnf)
 rw[pk]at h;cases h
theorem amI(s:bj)(ae:eB s)(m:c0)(aj:m.cut.length<=1000)(h1:fE s=true)(ad:m.view=s.view.num)(aN:eJ s.view m=true)(bt:m.src≠s.self)(b5:s.dec=[])(eN:m.kind=3):
  bl Tryz.prog 88 [.agg (de s),.agg (p0 m)] (.bd [.agg (de (dl (kS s m).1 (kS s m).2).1),.ar 7 ((dl (kS s m).1 (kS s m).2).2.map fu) false,i64 0]):=by
 have ab:=ae.mem;have fQ:=ph s ae;have jv:=zD s.view (by omega) m (by omega);have mM:=Mf s ae;have HS:=(BV h1).1;obtain⟨ue,lf,_,_⟩:=BX h1;have Mh:=r7 ue;have HT:=r7 lf;have bc:=amz s ae lf (by omega) m aj;have oL:=zI _ (amE ae (by omega) (by omega) aj) (kS s m).2 (aaY s m);generalize dl (kS s m).1 (kS s m).2=E at *;generalize(kS s m)=X at *;rw[h1]at fQ;rw[aN]at jv;have HQ:decide (m.src=s.self)=false:=cX bt;have pk:decide (m.view=s.view.num)=true:=ep ad;have mN:decide (0<((s.dec.map aM).length:Int))=false:=by rw[b5];rfl
 have Mi:decide (m.kind=1)=false:=cX (by omega);have Mj:decide (m.kind=2)=false:=cX (by omega);have SG:decide (m.kind=3)=true:=ep eN;refine fM Tryz.func88 ?_;repeat' ((conv=>whnf);first|refine be ?_|refine fZ (by assumption) ?_|refine e3 (by assumption) ?_| (apply bh<;>intro h)|exact .refl|refine dr ?_|refine aS fQ ?_|refine aS jv ?_|refine .inr ⟨[],bS mM ?_⟩|refine .inr ⟨[4,3],bS bc ?_⟩|refine .inr ⟨[4,6],bS oL ?_⟩|fail)
 all_goals(conv=>whnf)
 rw[pk]at h;cases h
theorem amJ(s:bj)(ae:eB s)(m:c0)(aj:m.cut.length<=1000)(h1:fE s=true)(ad:m.view=s.view.num)(aN:eJ s.view m=true)(bt:m.src≠s.self)(b5:s.dec=[])(eN:m.kind=4):
  bl Tryz.prog 88 [.agg (de s),.agg (p0 m)] (.bd [.agg (de (dl (lX s m).1 (lX s m).2).1),.ar 7 ((dl (lX s m).1 (lX s m).2).2.map fu) false,i64 0]):=by
 have ab:=ae.mem;have fQ:=ph s ae;have jv:=zD s.view (by omega) m (by omega);have mM:=Mf s ae;have HS:=(BV h1).1;obtain⟨ue,lf,_,_⟩:=BX h1;have Mh:=r7 ue;have HT:=r7 lf;have bc:=amA s ae HS lf (by omega) m aj (amG aN (.inl eN));have oL:=zI _ (amF ae (by omega) aj) (lX s m).2 (aaZ s m);generalize dl (lX s m).1 (lX s m).2=E at *;generalize(lX s m)=X at *;rw[h1]at fQ;rw[aN]at jv;have HQ:decide (m.src=s.self)=false:=cX bt;have pk:decide (m.view=s.view.num)=true:=ep ad;have mN:decide (0<((s.dec.map aM).length:Int))=false:=by rw[b5];rfl
 have Mi:decide (m.kind=1)=false:=cX (by omega);have Mj:decide (m.kind=2)=false:=cX (by omega);have SG:decide (m.kind=3)=false:=cX (by omega);have aa0:decide (m.kind=4)=true:=ep eN;refine fM Tryz.func88 ?_;repeat' ((conv=>whnf);first|refine be ?_|refine fZ (by assumption) ?_|refine e3 (by assumption) ?_| (apply bh<;>intro h)|exact .refl|refine dr ?_|refine aS fQ ?_|refine aS jv ?_|refine .inr ⟨[],bS mM ?_⟩|refine .inr ⟨[4,3],bS bc ?_⟩|refine .inr ⟨[4,6],bS oL ?_⟩|fail)
 all_goals(conv=>whnf)
 rw[pk]at h;cases h
theorem amK(s:bj)(ae:eB s)(m:c0)(aj:m.cut.length<=1000)(h1:fE s=true)(ad:m.view=s.view.num)(aN:eJ s.view m=true)(bt:m.src≠s.self)(b5:s.dec=[])(eN:m.kind=5):
  bl Tryz.prog 88 [.agg (de s),.agg (p0 m)] (.bd [.agg (de (dl (({s with aQ:=fR s.view s.aQ ⟨m.src,m.aD,m.cut⟩},([]:List dO))).1 (({s with aQ:=fR s.view s.aQ ⟨m.src,m.aD,m.cut⟩},([]:List dO))).2).1),.ar 7 ((dl (({s with aQ:=fR s.view s.aQ ⟨m.src,m.aD,m.cut⟩},([]:List dO))).1 (({s with aQ:=fR s.view s.aQ ⟨m.src,m.aD,m.cut⟩},([]:List dO))).2).2.map fu) false,i64 0]):=by
 have ab:=ae.mem;have fQ:=ph s ae;have jv:=zD s.view (by omega) m (by omega);have mM:=Mf s ae;have HS:=(BV h1).1;obtain⟨ue,lf,_,_⟩:=BX h1;have Mh:=r7 ue;have HT:=r7 lf;have bc:=Sy s ae lf ⟨m.src,m.aD,m.cut⟩ aj;have oL:=Me _ (Mg (r:=⟨m.src,m.aD,m.cut⟩) ae aj (by omega));generalize dl ({s with aQ:=fR s.view s.aQ ⟨m.src,m.aD,m.cut⟩},([]:List dO)).1 ({s with aQ:=fR s.view s.aQ ⟨m.src,m.aD,m.cut⟩},([]:List dO)).2=E at *;rw[h1]at fQ;rw[aN]at jv;have HQ:decide (m.src=s.self)=false:=cX bt;have pk:decide (m.view=s.view.num)=true:=ep ad;have mN:decide (0<((s.dec.map aM).length:Int))=false:=by rw[b5];rfl
 have Mi:decide (m.kind=1)=false:=cX (by omega);have Mj:decide (m.kind=2)=false:=cX (by omega);have SG:decide (m.kind=3)=false:=cX (by omega);have aa0:decide (m.kind=4)=false:=cX (by omega);have amL:decide (m.kind=5)=true:=ep eN;refine fM Tryz.func88 ?_;repeat' ((conv=>whnf);first|refine be ?_|refine fZ (by assumption) ?_|refine e3 (by assumption) ?_| (apply bh<;>intro h)|exact .refl|refine dr ?_|refine aS fQ ?_|refine aS jv ?_|refine .inr ⟨[],bS mM ?_⟩|refine .inr ⟨[4,3],bS bc ?_⟩|refine .inr ⟨[4],bS oL ?_⟩|fail)
 all_goals(conv=>whnf)
 rw[pk]at h;cases h
theorem amM(s:bj)(ae:eB s)(m:c0)(aj:m.cut.length<=1000)(h1:fE s=true)(ad:m.view=s.view.num)(aN:eJ s.view m=true)(bt:m.src≠s.self)(b5:s.dec=[])(eN:m.kind=6):
  bl Tryz.prog 88 [.agg (de s),.agg (p0 m)] (.bd [.agg (de (dl (({s with dec:=m.cut},[eF s 0 6 0 0 m.cut])).1 (({s with dec:=m.cut},[eF s 0 6 0 0 m.cut])).2).1),.ar 7 ((dl (({s with dec:=m.cut},[eF s 0 6 0 0 m.cut])).1 (({s with dec:=m.cut},[eF s 0 6 0 0 m.cut])).2).2.map fu) false,i64 0]):=by
 have ab:=ae.mem;have fQ:=ph s ae;have jv:=zD s.view (by omega) m (by omega);have mM:=yb s ae;have HS:=(BV h1).1;obtain⟨ue,lf,_,_⟩:=BX h1;have Mh:=r7 ue;have HT:=r7 lf;have jE:eB {s with dec:=m.cut}:=⟨ae.mem,ae.gY,ae.prop,ae.box,ae.kz,ae.bw,ae.mo,ae.c4,ae.aQ,ae.kb,aj⟩
 have bc:=yc {s with dec:=m.cut} 0 6 0 0 m.cut (by omega);have oL:=zI _ jE [eF s 0 6 0 0 m.cut] (by simp);generalize dl ({s with dec:=m.cut},[eF s 0 6 0 0 m.cut]).1 ({s with dec:=m.cut},[eF s 0 6 0 0 m.cut]).2=E at *;rw[h1]at fQ;rw[aN]at jv;have HQ:decide (m.src=s.self)=false:=cX bt;have pk:decide (m.view=s.view.num)=true:=ep ad;have mN:decide (0<((s.dec.map aM).length:Int))=false:=by rw[b5];rfl
 have Mi:decide (m.kind=1)=false:=cX (by omega);have Mj:decide (m.kind=2)=false:=cX (by omega);have SG:decide (m.kind=3)=false:=cX (by omega);have aa0:decide (m.kind=4)=false:=cX (by omega);have amL:decide (m.kind=5)=false:=cX (by omega);have avK:decide (m.kind=6)=true:=ep eN;refine fM Tryz.func88 ?_;repeat' ((conv=>whnf);first|refine be ?_|refine fZ (by assumption) ?_|refine e3 (by assumption) ?_| (apply bh<;>intro h)|exact .refl|refine dr ?_|refine aS fQ ?_|refine aS jv ?_|refine aS mM ?_|refine aS (qE _ (by omega)) ?_|refine .inr ⟨[3],bS bc ?_⟩|refine .inr ⟨[3,4],bS oL ?_⟩|fail)
 all_goals(conv=>whnf)
 rw[pk]at h;cases h
theorem Mk:hP (.agg [i64 0,i64 0,.av,i64 0,i64 0,.av,.av,.av,i64 0,i64 0,.av,.av,.av,.av,i64 0]) (.agg (de gg)):=
 h6 ⟨.r,.r,.av,.r,.r,.av,.av,.av,.r,.r,.av,.av,.av,.av,.r,ai⟩
theorem amN(s:bj)(ae:eB s)(m:c0)(aj:m.cut.length<=1000)(h1:fE s=false):bl Tryz.prog 88 [.agg (de s),.agg (p0 m)] (.bd [.agg (de gg),.ar 7 (([]:List dO).map fu) false,i64 1]):=by
 have fQ:=ph s ae;rw[h1]at fQ;refine fM Tryz.func88 ?_;repeat' ((conv=>whnf);first|refine aS fQ ?_|fail)
 all_goals(conv=>whnf)
 all_goals exact eO ⟨Mk,.av,.r,ai⟩
theorem Pi(s:bj)(ae:eB s)(m:c0)(aj:m.cut.length<=1000)(h1:fE s=true)(ad:decide (m.view=s.view.num)=false):bl Tryz.prog 88 [.agg (de s),.agg (p0 m)] (.bd [.agg (de gg),.ar 7 (([]:List dO).map fu) false,i64 8]):=by
 have fQ:=ph s ae;rw[h1]at fQ;refine fM Tryz.func88 ?_;repeat' ((conv=>whnf);first| (apply bh<;>intro h)|refine aS fQ ?_|fail)
 all_goals(conv=>whnf)
 ·exact eO ⟨Mk,.av,.r,ai⟩
 all_goals
  rw[ad]at h;cases h
theorem amO(s:bj)(ae:eB s)(m:c0)(aj:m.cut.length<=1000)(h1:fE s=true)(ad:decide (m.view=s.view.num)=true)(aN: (!eJ s.view m||decide (m.src=s.self))=true):bl Tryz.prog 88 [.agg (de s),.agg (p0 m)] (.bd [.agg (de gg),.ar 7 (([]:List dO).map fu) false,i64 1]):=by
 have ab:=ae.mem;have fQ:=ph s ae;have jv:=zD s.view (by omega) m (by omega);rw[h1]at fQ;generalize eJ s.view m=V at *;refine fM Tryz.func88 ?_;repeat' ((conv=>whnf);first|refine be ?_|refine fZ (by assumption) ?_| (apply bh<;>intro h)|refine dr ?_|refine aS fQ ?_|refine aS jv ?_|fail)
 all_goals(conv=>whnf)
 ·rw[ad]at h;cases h
 ·exact eO ⟨Mk,.av,.r,ai⟩
theorem amP(s:bj)(ae:eB s)(m:c0)(aj:m.cut.length<=1000)(h1:fE s=true)(ad:decide (m.view=s.view.num)=true)(aN: (!eJ s.view m||decide (m.src=s.self))=false)(b5:decide (0<(s.dec.length:Int))=true):bl Tryz.prog 88 [.agg (de s),.agg (p0 m)] (.bd [.agg (de s),.ar 7 ((bif decide (m.kind=6)then []else [eF s m.src 6 0 0 s.dec]).map fu) false,i64 0]):=by
 have ab:=ae.mem;have aa:=ae.dec;have fQ:=ph s ae;have jv:=zD s.view (by omega) m (by omega);have mM:=yb s ae;have bc:=yc s m.src 6 0 0 s.dec (by omega);rw[h1]at fQ;generalize eJ s.view m=V at *;have mN:decide (0<((s.dec.map aM).length:Int))=true:=by rw[bF];exact b5
 refine fM Tryz.func88 ?_;repeat' ((conv=>whnf);first|refine be ?_|refine fZ (by assumption) ?_|refine e3 (by assumption) ?_| (apply bh<;>intro h)|refine cd ?_|refine dr ?_|refine aS fQ ?_|refine aS jv ?_|refine aS mM ?_|refine .inr ⟨[3],bS bc ?_⟩|fail)
 all_goals(conv=>whnf)
 ·rw[ad]at h;cases h
 ·rw[show decide (m.kind=6)=false by simpa using h];exact .refl
 ·rw[show decide (m.kind=6)=true by simpa using h];exact eO ⟨.r,.av,.r,ai⟩
def e0(s:bj)(m:c0):bj×List dO:=
 if m.kind=1 then(kc s m,[])
 else if m.kind=2 then kR s m
 else if m.kind=3 then kS s m
 else if m.kind=4 then lX s m
 else if m.kind=5 then({s with aQ:=fR s.view s.aQ ⟨m.src,m.aD,m.cut⟩},[])
 else({s with dec:=m.cut},[eF s 0 6 0 0 m.cut])
def dB(s:bj)(m:c0):bj×List dO×Int:=
 if fE s=false then(gg,[],1)
 else if decide (m.view=s.view.num)=false then(gg,[],8)
 else if(!eJ s.view m||decide (m.src=s.self))=true then(gg,[],1)
 else if decide (0<(s.dec.length:Int))=true then(s,(bif decide (m.kind=6)then []else [eF s m.src 6 0 0 s.dec]),0)
 else((dl (e0 s m).1 (e0 s m).2).1,(dl (e0 s m).1 (e0 s m).2).2,0)
theorem zK(h:eJ v m=true):m.kind=1\/m.kind=2\/m.kind=3\/m.kind=4\/m.kind=5\/m.kind=6:=by
 unfold eJ at h
 grind
theorem amQ(s:bj)(ae:eB s)(m:c0)(aj:m.cut.length<=1000):
  bl Tryz.prog 88 [.agg (de s),.agg (p0 m)] (.bd [.agg (de (dB s m).1),.ar 7 ((dB s m).2.1.map fu) false,i64 (dB s m).2.2]):=by
 unfold dB;by_cases h1:fE s=false
 ·rw[b6 h1];exact amN s ae m aj h1
 rw[bo h1];have h1:fE s=true:=by grind
 by_cases ad:decide (m.view=s.view.num)=false
 ·rw[b6 ad];exact Pi s ae m aj h1 ad
 rw[bo ad];have ad:decide (m.view=s.view.num)=true:=by grind
 by_cases aN: (!eJ s.view m||decide (m.src=s.self))=true
 ·rw[b6 aN];exact amO s ae m aj h1 ad aN
 rw[bo aN];have aN: (!eJ s.view m||decide (m.src=s.self))=false:=by grind
 by_cases b5:decide (0<(s.dec.length:Int))=true
 ·rw[b6 b5];exact amP s ae m aj h1 ad aN b5
 rw[bo b5];have mN:s.dec=[]:=by
  simp_all
 have pk:=fi ad;simp only[iK,l3,hG]at aN;unfold e0;rcases zK aN.1 with hk|hk|hk|hk|hk|hk
 ·rw[b6 hk];exact aml s ae m aj h1 pk aN.1 aN.2 mN hk
 ·rw[bo (by omega),b6 hk];exact amH s ae m aj h1 pk aN.1 aN.2 mN hk
 ·rw[bo (by omega),bo (by omega),b6 hk];exact amI s ae m aj h1 pk aN.1 aN.2 mN hk
 ·rw[bo (by omega),bo (by omega),bo (by omega),b6 hk];exact amJ s ae m aj h1 pk aN.1 aN.2 mN hk
 ·rw[bo (by omega),bo (by omega),bo (by omega),bo (by omega),b6 hk];exact amK s ae m aj h1 pk aN.1 aN.2 mN hk
 ·rw[bo (by omega),bo (by omega),bo (by omega),bo (by omega),bo (by omega)];exact amM s ae m aj h1 pk aN.1 aN.2 mN hk
theorem amR(s:bj)(a6:List dO)(oI:a6.length<=100)(da kind aD cT:Int)(cut:List Int)(aj:cut.length<=1000000):
  cm Tryz.prog 148 [.cells 210 (de s++ [.own 1]),.row 218 7 (a6.map fu)] [.aV 0 0,i64 da,i64 kind,i64 aD,i64 cT,.ar 1 (cut.map aM) false] [true,false] [.cells 210 (de s++ [.own 3]),.gone,.bm,.row 218 7 ((a6++ [eF s da kind aD cT cut]).map fu)] (.bd []):=by
 refine vf (fn:=Tryz.f148) (c:=Tryz.f148.body.getD .skip) aA ay (by rfl) Tryz.func148 (by rfl) (by rfl) (by rfl) (by rfl) (by rfl) ?_;repeat' ((conv=>whnf);first|refine cd ?_|refine aS (qE _ aj) ?_|refine aO (Sp (by simp<;>omega)) ?_|refine Exists.intro false ?_|fail)
 all_goals(conv=>whnf)
 (refine⟨[.fresh 218 7,.fa 1 3,.fa 3 3,.oY 1],?_⟩; (conv=>whnf);refine⟨.r,⟨.r,.r,nK,cK ?_,ai⟩,by rfl⟩)
 rw[ef];rfl
theorem HU(s:bj)(a6:List dO)(oI:a6.length<=100)(da kind aD cT:Int)(cut:List Int)(aj:cut.length<=1000000):
  cm Tryz.prog 148 [.cells 210 (de s++ [.own 1]),.row 218 7 (a6.map fu)] [.aV 0 0,i64 da,i64 kind,i64 aD,i64 cT,.ar 1 (cut.map aM) false] [true,false] [.cells 210 (de s++ [.own 2]),.gone,.row 218 7 ((a6++ [eF s da kind aD cT cut]).map fu)] (.bd []):=
 (amR s a6 oI da kind aD cT cut aj).By (L1:=[.cells 210 (de s++ [.own 3]),.gone]) (xV:=[.row 218 7 ((a6++ [eF s da kind aD cT cut]).map fu)]) (bP _)
def iC(s:bj):Int:=vp (IntKind.i64.wrap ((if IntKind.i64.wrap (s.aD.tdiv 1024)<IntKind.i64.wrap (s.aP.cg.tdiv 1024)then IntKind.i64.wrap (s.aP.cg.tdiv 1024)else IntKind.i64.wrap (s.aD.tdiv 1024))+1)) s.self
def np(s:bj):bj:=
 bif decide (iC s=0)then s
 else bif (ip s.aP (iC s)).2.2 then gC {s with aP:=(ip s.aP (iC s)).1,cG:=0,aD:=iC s,phase:=1,c4:=[],bw:=[⟨s.self,(ip s.aP (iC s)).2.1.aD,(ip s.aP (iC s)).2.1.cut⟩]}
 else s
theorem amS(s:bj)(ae:eB s)(cw:gM s.view s.aQ=true):cm Tryz.prog 165 [.cells 210 (pj s 1++ [.av]),.row 179 3 (s.aQ.map bZ)] [.aV 0 0] [true,false] [.cells 210 (de (np s)++ [.av]),.gone] (.bd []):=by
 have aC:bl Tryz.prog 204 [.v (.int .i64 (IntKind.i64.wrap ((if IntKind.i64.wrap (s.aD.tdiv 1024)<IntKind.i64.wrap (s.aP.cg.tdiv 1024)then IntKind.i64.wrap (s.aP.cg.tdiv 1024)else IntKind.i64.wrap (s.aD.tdiv 1024))+1))),.v (.int .i64 s.self)] (.v (.int .i64 (iC s))):=alh _ _;obtain⟨R,b4⟩:∃R,R=np s:=⟨_,rfl⟩
 rw[<-b4];unfold np at b4;generalize iC s=k at *;have aG:=aab s.aP (by have:=ae.gY;omega) k;have ez:=L2 (aD:=k) ae.gY;generalize ip s.aP k=X at *;have jE:eB {s with aP:=X.1,cG:=0,aD:=k,phase:=1,c4:=[],bw:=[⟨s.self,X.2.1.aD,X.2.1.cut⟩]}:=⟨ae.mem,ez.1,ae.prop,ae.box,ae.kz,(by simp),(λb ac=>by
  rcases eX.1 ac with rfl;exact ez.2),bX _,ae.aQ,ae.kb,ae.dec⟩
 have bc:=aaU _ jE cw;generalize gC {s with aP:=X.1,cG:=0,aD:=k,phase:=1,c4:=[],bw:=[⟨s.self,X.2.1.aD,X.2.1.cut⟩]}=A at *;refine mj Tryz.func165 ?_;repeat' ((conv=>whnf);first| (apply bh<;>intro h)|refine cd ?_|refine aS aC ?_|refine aS aG ?_|refine .inr ⟨[0,1],_,_,_,_,_,bc,by rfl,⟨mq ⟨.r,.r,.r,.r,.r,.r,.r,.r,.r,.r,.ar,.av,.r,.r,.r,.r,ai⟩,.r,ai⟩,⟨.r,ai⟩,?_⟩|refine Exists.intro false ?_| (refine aO ?_ ?_;focus (simp;done))|fail)
 all_goals(conv=>whnf)
 ·simp only[h,bY]at b4;subst b4;refine⟨[.ql 0 12,.oY 1],?_⟩;conv=>whnf
  exact⟨.r,⟨.r,.r,nK,ai⟩,by rfl⟩
 ·rename_i aR;have sJ:X.2.2=false:=by simpa using h
  simp only[aR,sJ,bs]at b4;subst b4;refine⟨[.ql 0 12,.oY 1],?_⟩;conv=>whnf
  exact⟨.r,⟨.r,.r,nK,ai⟩,by rfl⟩
 ·rename_i aR;have sJ:X.2.2=true:=by simpa using h
  simp only[aR,sJ,bs,bY]at b4;subst b4;refine⟨[],?_⟩;conv=>whnf
  exact⟨.r,⟨.r,.r,nK,ai⟩,by rfl⟩
def yd(s:bj):List dO:=bif (hY s.box s.self).2 then [eF s 0 1 0 0 (hY s.box s.self).1]else []
def vy(s:bj):List dO:=bif decide (s.phase=1)then [eF s 0 2 s.aD 0 []]else bif decide (s.phase=2)then [eF s 0 4 s.aD 0 s.c4]else []
def ye(s:bj):List dO:=bif decide (0<=eS s.aQ s.self)&& !decide (s.phase=2)then [eF s 0 5 (s.aQ.getD (eS s.aQ s.self).toNat dA).aD 0 (s.aQ.getD (eS s.aQ s.self).toNat dA).cut]else []
def hA(s:bj):List dO:=yd s++vy s++ye s
variable{l:List c6}
theorem amT{N:Nat}(aj:∀b∈l,b.cut.length<=N)(x:Int): (hY l x).1.length<=N:=by
 unfold hY;cases decide (0<=la l x)
 ·simp
 ·rcases l5 (la l x).toNat l.length with h|h
  ·grind
  ·simp only[bY,sn,xf h,JI];exact bX _
theorem SH(s:bj)(ae:eB s):cm Tryz.prog 166 [.cells 210 (de s++ [.av])] [.aV 0 0] [true] [.cells 210 (de s++ [.own 2]),.bm,.row 218 7 ((hA s).map fu)] (.bd []):=by
 have aC:=Sa s.box (eU ae.box) s.self;have iy:=amT ae.kz s.self;have aG:=HN s.aQ (eU ae.aQ) s.self;have jR:= @zJ s.aQ s.self;have s4:=ae.kb;have zL:=ae.c4;obtain⟨R,b4⟩:∃R,R=hA s:=⟨_,rfl⟩
 rw[<-b4];unfold hA yd vy ye at b4;generalize hY s.box s.self=C at *;generalize eS s.aQ s.self=K at *;generalize rY:s.aQ.getD K.toNat dA=D at *;have na:D.cut.length<=1000:=by
  rw[<-rY];rcases l5 K.toNat s.aQ.length with h|h
  ·simp only[sn,eP h,qW];exact s4 _ (eM h)
  ·simp only[sn,xf h,JI];exact bX _
 have cM:decide (0<=K)=true->(s.aQ.map bZ)[K.toNat]?=some (bZ D):=λh=>by
  have:=(jR h).2;rw[<-rY];simp[this]
 have Bu:decide (0<=K)=true->K=(K.toNat:Int):=λh=>(jR h).1;have fk:=yc s 0 1 0 0 C.1 (by omega);have ff:=yc s 0 2 s.aD 0 [] (by simp);have fB:=HU s [eF s 0 1 0 0 C.1] (by simp) 0 2 s.aD 0 [] (by simp);have dj:=yc s 0 4 s.aD 0 s.c4 (by omega);have dM:=HU s [eF s 0 1 0 0 C.1] (by simp) 0 4 s.aD 0 s.c4 (by omega);have cP:=yc s 0 5 D.aD 0 D.cut (by omega);have a2:=HU s [eF s 0 1 0 0 C.1] (by simp) 0 5 D.aD 0 D.cut (by omega);have a3:=HU s [eF s 0 2 s.aD 0 []] (by simp) 0 5 D.aD 0 D.cut (by omega);have a4:=HU s [eF s 0 1 0 0 C.1,eF s 0 2 s.aD 0 []] (by simp) 0 5 D.aD 0 D.cut (by omega);clear s4 jR na rY iy;refine mj Tryz.func166 ?_;repeat' ((conv=>whnf);first|refine be ?_| (apply bh<;>intro h)|refine cd ?_|refine aS aC ?_|refine aS aG ?_|refine .inr ⟨[0],bS fk ?_⟩|fail)
 all_goals(conv=>whnf)
 ·rename_i il;have h1:=h;clear h;repeat' ((conv=>whnf);first|refine be ?_| (apply bh<;>intro h)|refine cd ?_|refine aS aG ?_|refine .inr ⟨[0,3],_,_,_,_,_,fB,by rfl,⟨.r,.r,ai⟩,⟨.r,.r,.r,.r,.r,.av,ai⟩,?_⟩|fail)
  all_goals(conv=>whnf)
  ·have rq:decide (0<=K)=true:=((cq ..).mp h).1;have BY:=Bu rq;have fp:=cM rq;repeat' ((conv=>whnf);first|refine cd ?_|refine⟨K.toNat,bZ D,aO ⟨BY,fp⟩ ?_⟩|refine .inr ⟨[0,4],bS a4 ?_⟩|fail)
   all_goals(conv=>whnf)
   have ad:decide (s.phase=2)=false:=cX (by have:=fi h1;omega);simp only[il,h1,ad,rq,uE,oj,kY,tl,bY,bs,nS,jM,rI]at b4;subst b4;(refine⟨[.fa 2 6],?_⟩; (conv=>whnf);exact⟨.r,⟨.r,.r,.r,ai⟩,by rfl⟩)
  ·have ad:decide (s.phase=2)=false:=cX (by have:=fi h1;omega);simp only[il,h1,h,uE,oj,kY,tl,bY,bs,nS,jM,rI]at b4;subst b4;(refine⟨[.fa 2 4],?_⟩; (conv=>whnf);exact⟨.r,⟨.r,.r,.r,ai⟩,by rfl⟩)
 ·rename_i il h1;have ad:=h;clear h;repeat' ((conv=>whnf);first|refine be ?_| (apply bh<;>intro h)|refine cd ?_|refine aS aG ?_|refine .inr ⟨[0,3],bS dM ?_⟩|fail)
  all_goals(conv=>whnf)
  ·rw[ad]at h;simp at h
  ·simp only[il,h1,ad,h,uE,oj,kY,tl,bY,bs,nS,jM,rI]at b4;subst b4;(refine⟨[.fa 2 4],?_⟩; (conv=>whnf);exact⟨.r,⟨.r,.r,.r,ai⟩,by rfl⟩)
 ·rename_i il h1 ad;have rq:decide (0<=K)=true:=((cq ..).mp h).1;have BY:=Bu rq;have fp:=cM rq;repeat' ((conv=>whnf);first|refine cd ?_|refine⟨K.toNat,bZ D,aO ⟨BY,fp⟩ ?_⟩|refine .inr ⟨[0,3],bS a2 ?_⟩|fail)
  all_goals(conv=>whnf)
  simp only[il,h1,ad,rq,uE,oj,kY,tl,bY,bs,nS,jM,rI]at b4;subst b4;(refine⟨[.fa 2 5],?_⟩; (conv=>whnf);exact⟨.r,⟨.r,.r,.r,ai⟩,by rfl⟩)
 ·rename_i il h1 ad;have aR:decide (0<=K)=false:=by
   rw[ad]at h;simpa using h
  simp only[il,h1,ad,aR,vW,uE,oj,kY,tl,bY,bs,nS,jM,rI]at b4;subst b4;(refine⟨[.fa 2 3],?_⟩; (conv=>whnf);exact⟨.r,⟨.r,.r,.r,ai⟩,by rfl⟩)
 ·rename_i il;have h1:=h;clear h;repeat' ((conv=>whnf);first|refine be ?_| (apply bh<;>intro h)|refine cd ?_|refine aS aG ?_|refine .inr ⟨[0],_,_,_,_,_,ff,by rfl,⟨.r,ai⟩,⟨.r,.r,.r,.r,.r,.av,ai⟩,?_⟩|fail)
  all_goals(conv=>whnf)
  ·have rq:decide (0<=K)=true:=((cq ..).mp h).1;have BY:=Bu rq;have fp:=cM rq;repeat' ((conv=>whnf);first|refine cd ?_|refine⟨K.toNat,bZ D,aO ⟨BY,fp⟩ ?_⟩|refine .inr ⟨[0,3],bS a3 ?_⟩|fail)
   all_goals(conv=>whnf)
   have ad:decide (s.phase=2)=false:=cX (by have:=fi h1;omega);simp only[il,h1,ad,rq,uE,oj,kY,tl,bY,bs,nS,jM,rI]at b4;subst b4;(refine⟨[.fa 2 5],?_⟩; (conv=>whnf);exact⟨.r,⟨.r,.r,.r,ai⟩,by rfl⟩)
  ·have ad:decide (s.phase=2)=false:=cX (by have:=fi h1;omega);simp only[il,h1,h,uE,oj,kY,tl,bY,bs,nS,jM,rI]at b4;subst b4;(refine⟨[.fa 2 3],?_⟩; (conv=>whnf);exact⟨.r,⟨.r,.r,.r,ai⟩,by rfl⟩)
 ·rename_i il h1;have ad:=h;clear h;repeat' ((conv=>whnf);first|refine be ?_| (apply bh<;>intro h)|refine cd ?_|refine aS aG ?_|refine .inr ⟨[0],bS dj ?_⟩|fail)
  all_goals(conv=>whnf)
  ·rw[ad]at h;simp at h
  ·simp only[il,h1,ad,h,uE,oj,kY,tl,bY,bs,nS,jM,rI]at b4;subst b4;(refine⟨[.fa 2 3],?_⟩; (conv=>whnf);exact⟨.r,⟨.r,.r,.r,ai⟩,by rfl⟩)
 ·rename_i il h1 ad;have rq:decide (0<=K)=true:=((cq ..).mp h).1;have BY:=Bu rq;have fp:=cM rq;repeat' ((conv=>whnf);first|refine cd ?_|refine⟨K.toNat,bZ D,aO ⟨BY,fp⟩ ?_⟩|refine .inr ⟨[0],bS cP ?_⟩|fail)
  all_goals(conv=>whnf)
  simp only[il,h1,ad,rq,uE,oj,kY,tl,bY,bs,nS,jM,rI]at b4;subst b4;(refine⟨[.fa 2 4],?_⟩; (conv=>whnf);exact⟨.r,⟨.r,.r,.r,ai⟩,by rfl⟩)
 ·rename_i il h1 ad;have aR:decide (0<=K)=false:=by
   rw[ad]at h;simpa using h
  simp only[il,h1,ad,aR,vW,uE,oj,kY,tl,bY,bs,nS,jM,rI]at b4;subst b4;(refine⟨[.cell 0 15 218 7,.fa 2 4],?_⟩; (conv=>whnf);exact⟨.r,⟨.r,.r,.r,ai⟩,by rfl⟩)
theorem Ml(s:bj): (hA s).length<=100:=by
 have h1: (yd s).length<=1:=by unfold yd;cases (hY s.box s.self).2<;>simp
 have ad: (vy s).length<=1:=by unfold vy;cases decide (s.phase=1)<;>cases decide (s.phase=2)<;>simp
 have aN: (ye s).length<=1:=by unfold ye;cases decide (0<=eS s.aQ s.self)&& !decide (s.phase=2)<;>simp
 unfold hA
 grind
def kT(s:bj):Int:=if 1099511627776<IntKind.i64.wrap (s.cG+1)then 1099511627776 else IntKind.i64.wrap (s.cG+1)
def r8(s:bj):Bool:=decide (IntKind.i64.wrap (8+IntKind.i64.wrap (6*gG s.view.mem s.self))<=kT s)
def gO(s:bj):bj:=
 if decide (0<(s.prop.length:Int))=true then(if r8 s=true then np {s with cG:=kT s}else {s with cG:=kT s})else s
theorem amU(s:bj)(ae:eB s)(h1:fE s=false):bl Tryz.prog 98 [.agg (de s)] (.bd [.agg (de gg),.ar 7 (([]:List dO).map fu) false]):=by
 have fQ:=ph s ae;rw[h1]at fQ;refine fM Tryz.func98 ?_;repeat' ((conv=>whnf);first|refine aS fQ ?_|fail)
 all_goals(conv=>whnf)
 all_goals exact eO ⟨Mk,.av,ai⟩
theorem amV(s:bj)(ae:eB s)(h1:fE s=true)(b5:decide (0<(s.dec.length:Int))=true):bl Tryz.prog 98 [.agg (de s)] (.bd [.agg (de s),.ar 7 ([eF s 0 6 0 0 s.dec].map fu) false]):=by
 have aa:=ae.dec;have fQ:=ph s ae;have mM:=yb s ae;have bc:=yc s 0 6 0 0 s.dec (by omega);rw[h1]at fQ;have mN:decide (0<((s.dec.map aM).length:Int))=true:=by rw[bF];exact b5
 refine fM Tryz.func98 ?_;repeat' ((conv=>whnf);first|refine fZ (by assumption) ?_|exact .refl|refine cd ?_|refine aS fQ ?_|refine aS mM ?_|refine .inr ⟨[2],bS bc ?_⟩|fail)
theorem amW(s:bj)(ae:eB s)(h1:fE s=true)(b5:s.dec=[])(eN:decide (0<(s.prop.length:Int))=false):bl Tryz.prog 98 [.agg (de s)] (.bd [.agg (de (dl s (hA s)).1),.ar 7 ((dl s (hA s)).2.map fu) false]):=by
 have fQ:=ph s ae;have mM:=yb s ae;have bc:=SH s ae;have oL:=zI s ae (hA s) (Ml s);generalize dl s (hA s)=E at *;rw[h1]at fQ;have mN:decide (0<((s.dec.map aM).length:Int))=false:=by rw[b5];rfl
 have Sw:decide (0<((s.prop.map aM).length:Int))=false:=by rw[bF];exact eN
 refine fM Tryz.func98 ?_;repeat' ((conv=>whnf);first|refine e3 (by assumption) ?_|exact .refl|refine aS fQ ?_|refine aS mM ?_|refine .inr ⟨[2],bS bc ?_⟩|refine .inr ⟨[2,4],bS oL ?_⟩|fail)
theorem amX(s:bj)(ae:eB s)(h1:fE s=true)(b5:s.dec=[])(eN:decide (0<(s.prop.length:Int))=true)(iV:r8 s=false):bl Tryz.prog 98 [.agg (de s)] (.bd [.agg (de (dl {s with cG:=kT s} (hA s)).1),.ar 7 ((dl {s with cG:=kT s} (hA s)).2.map fu) false]):=by
 have ab:=ae.mem;have jE:eB {s with cG:=kT s}:=⟨ae.mem,ae.gY,ae.prop,ae.box,ae.kz,ae.bw,ae.mo,ae.c4,ae.aQ,ae.kb,ae.dec⟩
 have fQ:=ph s ae;have mM:=yb s ae;have bc:=SH _ jE;have oL:=zI _ jE (hA s) (Ml s);have nm:=Hs s.view.mem (eU ab) s.self;have hw:kT s=if 1099511627776<IntKind.i64.wrap (s.cG+1)then 1099511627776 else IntKind.i64.wrap (s.cG+1):=rfl;have aa:r8 s=decide (IntKind.i64.wrap (8+IntKind.i64.wrap (6*gG s.view.mem s.self))<=kT s):=rfl;generalize dl {s with cG:=kT s} (hA s)=E at *;rw[h1]at fQ;have mN:decide (0<((s.dec.map aM).length:Int))=false:=by rw[b5];rfl
 have Sw:decide (0<((s.prop.map aM).length:Int))=true:=by rw[bF];exact eN
 refine fM Tryz.func98 ?_;repeat' ((conv=>whnf);first|refine fZ (by assumption) ?_|refine e3 (by assumption) ?_|exact .refl|refine cd ?_|refine aS fQ ?_|refine aS mM ?_|refine aS nm ?_|refine .inr ⟨[2],bS bc ?_⟩|refine .inr ⟨[2,5],bS oL ?_⟩|fail)
theorem amY(ae:eB s)(af:s.aQ.length<=900):eB (np s):=by
 have ez:=L2 (aD:=iC s) ae.gY;unfold np;cases decide (iC s=0)
 ·cases (ip s.aP (iC s)).2.2
  ·exact ae
  ·exact aaW ⟨ae.mem,ez.1,ae.prop,ae.box,ae.kz,(by simp),(λb ac=>by
    grind),bX _,ae.aQ,ae.kb,ae.dec⟩ af
 grind
theorem amZ(s:bj)(ae:eB s)(h1:fE s=true)(b5:s.dec=[])(eN:decide (0<(s.prop.length:Int))=true)(iV:r8 s=true):bl Tryz.prog 98 [.agg (de s)] (.bd [.agg (de (dl (np {s with cG:=kT s}) (hA (np {s with cG:=kT s}))).1),.ar 7 ((dl (np {s with cG:=kT s}) (hA (np {s with cG:=kT s}))).2.map fu) false]):=by
 have ab:=ae.mem;have jE:eB {s with cG:=kT s}:=⟨ae.mem,ae.gY,ae.prop,ae.box,ae.kz,ae.bw,ae.mo,ae.c4,ae.aQ,ae.kb,ae.dec⟩
 obtain⟨_,lf,_,_⟩:=BX h1;have HT:=r7 lf;have fQ:=ph s ae;have mM:=Mf s ae;have aG:=amS _ jE lf;have aa1:=amY jE (by simp only[];omega);have nm:=Hs s.view.mem (eU ab) s.self;have hw:kT s=if 1099511627776<IntKind.i64.wrap (s.cG+1)then 1099511627776 else IntKind.i64.wrap (s.cG+1):=rfl;have aa:r8 s=decide (IntKind.i64.wrap (8+IntKind.i64.wrap (6*gG s.view.mem s.self))<=kT s):=rfl;generalize np {s with cG:=kT s}=A at *;have bc:=SH _ aa1;have oL:=zI _ aa1 (hA A) (Ml A);generalize dl A (hA A)=E at *;rw[h1]at fQ;have mN:decide (0<((s.dec.map aM).length:Int))=false:=by rw[b5];rfl
 have Sw:decide (0<((s.prop.map aM).length:Int))=true:=by rw[bF];exact eN
 refine fM Tryz.func98 ?_;repeat' ((conv=>whnf);first|refine fZ (by assumption) ?_|refine e3 (by assumption) ?_|exact .refl|refine cd ?_|refine aS fQ ?_|refine .inr ⟨[],bS mM ?_⟩|refine aS nm ?_|refine .inr ⟨[3,2],bS aG ?_⟩|refine .inr ⟨[3],bS bc ?_⟩|refine .inr ⟨[3,6],bS oL ?_⟩|fail)
def cQ(s:bj):bj×List dO:=
 if fE s=false then(gg,[])
 else if decide (0<(s.dec.length:Int))=true then(s,[eF s 0 6 0 0 s.dec])
 else dl (gO s) (hA (gO s))
theorem aa2(s:bj)(ae:eB s):bl Tryz.prog 98 [.agg (de s)] (.bd [.agg (de (cQ s).1),.ar 7 ((cQ s).2.map fu) false]):=by
 unfold cQ;by_cases h1:fE s=false
 ·rw[b6 h1];exact amU s ae h1
 rw[bo h1];have h1:fE s=true:=by grind
 by_cases b5:decide (0<(s.dec.length:Int))=true
 ·rw[b6 b5];exact amV s ae h1 b5
 rw[bo b5];have mN:s.dec=[]:=by
  simp_all
 unfold gO;by_cases eN:decide (0<(s.prop.length:Int))=true
 ·rw[b6 eN];by_cases iV:r8 s=true
  ·rw[b6 iV];exact amZ s ae h1 mN eN iV
  ·rw[bo iV];exact amX s ae h1 mN eN (by grind)
 ·rw[bo eN];exact amW s ae h1 mN (by grind)
theorem yf(h: (dJ v c).2=0):dq c 32=true:=by
 unfold dJ at h
 grind
variable{m:Int}
theorem SI(h:dq c m=true):c≠ []/\(c.length:Int)<=m:=by
 simp only[dq,cq,mV,iK,hG]at h
 grind
theorem wZ(h:gb v c=true):c≠ []:=(SI (yf (fi h))).1
theorem n5:jT v c=true↔c=[]\/gb v c=true:=by
 unfold jT;simp
theorem zM(h:jT v c=true)(aW:c≠ []):gb v c=true:=(n5.1 h).resolve_left aW
variable{l:List cj}
theorem aa3{own:List Int}(aR:rl v l own=false)(aH:own≠ []): (gH v l own).2=true/\((gH v l own).1=own\/∃r∈l,0<=r.aD/\(gH v l own).1=r.cut):=by
 have fx:=(RW aR).1;have ax:=RV l fx;cases h1:decide (0<(l.getD (hW l l.length) dA).aD)
 ·cases az:l.find? (vq v l)with
  |none=>
   have ct:∀j (aq:j<l.length),vq v l l[j]=false:=λj aq=>by
    grind
   rw[alF aR h1 ct];refine⟨?_,.inl rfl⟩;cases own with
   |nil=>grind
   |cons x l=>simp
  |some r=>
   obtain⟨bV,i,hi,he,ct⟩:=Jv.1 az;subst he;rw[aap aR h1 hi bV (λj aq r5=>by grind)];refine⟨rfl,.inr ⟨_,eM hi,?_,rfl⟩⟩;simp only[vq,cq,fr]at bV;omega
 ·rw[aaq aR h1]
  grind
variable{a:ky}
theorem am0{c:List Int}(h:k8 a=true)(cw: (oJ a c).2=true):a.cg=0/\a.aD= -1/\dq c 32=true/\(oJ a c).1= ⟨0,0,c⟩:=by
 simp only[oJ,h,kY,bs]at cw⊢
 grind
variable{r:Int}
theorem SJ(h:k8 a=true)(cw: (ip a r).2.2=true):jt r=true/\a.cg<=r/\(ip a r).1= ⟨r,a.aD,a.cut⟩/\(ip a r).2.1= ⟨0,a.aD,a.cut⟩:=by
 simp only[ip,h,kY,bs]at cw⊢
 grind
theorem Mm{c:List Int}(h:k8 a=true)(cw: (jb a r c).2=true):jt r=true/\a.cg<=r/\dq c 32=true/\(jb a r c).1= ⟨r,r,c⟩/\(a.aD=r->a.cut=c):=by
 simp only[jb,h,kY,bs]at cw⊢;cases aj: (!jt r||decide (r<a.cg)|| !dq c 32||decide (a.aD=r)&& !hx a.cut c)with
 |true=>grind
 |false=>
  simp only[iK,l3,hG,uD]at aj;refine⟨aj.1.1.1,by omega,aj.1.2,rfl,λe=> ?_⟩;rcases aj.2 with ad|ad
  ·omega
  ·exact zo.1 ad
theorem nL(h:gN v r=true):jt r=true/\bH v.mem (h7 r)=true:=by
 simp only[gN,cq]at h;exact h
theorem rr(h:jt r=true):1024<r:=aal (by simpa[jt]using h)
structure c1(s:bj):Prop where
 v:b0 s.view=true
 self:bH s.view.mem s.self=true
 a8:0<=s.cG
 eE:s.cG<=1099511627776
 aP:k8 s.aP=true
 cg:s.aP.cg≠0->gN s.view s.aP.cg=true
 iq:0<s.aP.aD->gN s.view s.aP.aD=true
 gY:jT s.view s.aP.cut=true
 prop:jT s.view s.prop=true
 c4:jT s.view s.c4=true
 dec:jT s.view s.dec=true
 box:hX s.view s.box=true
 own: (hY s.box s.self).2=true->(hY s.box s.self).1=s.prop
 bw:gM s.view s.bw=true
 rs:∀r∈s.bw,0<r.aD->gN s.view r.aD=true
 aQ:gM s.view s.aQ=true
 n8:∀r∈s.aQ,1<=r.aD/\gN s.view r.aD=true
 aD:s.aD≠0->gN s.view s.aD=true/\h7 s.aD=s.self
 h9: (s.phase=0/\s.bw=[]/\s.c4=[])\/(s.phase=1/\s.c4=[]\/s.phase=2/\s.c4≠ [])/\s.aD≠0/\s.prop≠ []/\0<=eS s.bw s.self
def fX(s:bj):Prop:=s.phase=1->(s.bw.length:Int)<fP s.view.mem.length
theorem aa4{p:Nat->Bool}{q:cj->Prop}(h:∀i (hi:i<l.length),p i=true->q l[i])(bb:ih p l.length=true):∀r∈l,q r:=λr ao=>by
 obtain⟨i,hi,rfl⟩:=e8 ao;exact h i hi (ij.1 bb i hi)
theorem aa5{p:Nat->Bool}{q:cj->Prop}(h:∀i (hi:i<l.length),q l[i]->p i=true)(bb:∀r∈l,q r):ih p l.length=true:=
 ij.2 λi hi=>h i hi (bb _ (eM hi))
theorem Mn:ih (BU v l) l.length=true↔∀r∈l,0<r.aD->gN v r.aD=true:=by
 constructor
 ·refine aa4 λi hi h aR=> ?_;have aw:l.getD i dA=l[i]:=by grind
  rw[BU,aw,ep aR]at h
  grind
 ·refine aa5 λi hi h=> ?_;have aw:l.getD i dA=l[i]:=by grind
  rw[BU,aw]
  grind
theorem aa6:ih (zG m l) l.length=true↔∀r∈l,m<=r.aD:=by
 constructor
 ·refine aa4 λi hi h=> ?_;have aw:l.getD i dA=l[i]:=by grind
  rw[zG,aw]at h
  grind
 ·refine aa5 λi hi h=> ?_;have aw:l.getD i dA=l[i]:=by grind
  rw[zG,aw]
  grind
theorem SK{α:Type}{l:List α}:decide ((l.length:Int)=0)=true↔l=[]:=by
 simp
theorem ru{α:Type}{l:List α}:decide (0<(l.length:Int))=true↔l≠ []:=by
 rw[fr];constructor
 ·grind
 ·intro h;have:l.length≠0:=λe=>h (v2.1 e);omega
theorem SL{α:Type}{l:List α}:decide (0<(l.length:Int))=false↔l=[]:=by
 simp
theorem aa7(s:bj):zH s=true↔ ((s.aD≠0->gN s.view s.aD=true/\h7 s.aD=s.self)/\((s.phase=0/\s.bw=[]/\s.c4=[])\/(s.phase=1/\s.c4=[]\/s.phase=2/\s.c4≠ [])/\s.aD≠0/\s.prop≠ []/\0<=eS s.bw s.self)/\fX s):=by
 unfold zH fX;have aC:= @SK _ s.bw;have aG:= @ru _ s.c4;have bc:= @ru _ s.prop
 grind
theorem rv(s:bj):fE s=true↔c1 s/\fX s:=by
 constructor
 ·intro h;obtain⟨v,self,a8,eE⟩:=BV h;obtain⟨g1,g2,g3,g4⟩:=aaQ h;obtain⟨dE,dL,eY,iI⟩:=BX h;obtain⟨ff,fB,oM⟩:=(aa7 s).1 eY;have af:=aa6.1 (ij.2 iI);unfold fE at h;cases h1: !b0 s.view|| !bH s.view.mem s.self||decide (s.cG<0)||decide (1099511627776<s.cG)
  ·rw[h1,bs]at h;cases ad: (!k8 s.aP|| !decide (s.aP.cg=0)&& !gN s.view s.aP.cg||decide (0<s.aP.aD)&& !gN s.view s.aP.aD|| !jT s.view s.aP.cut)
   ·rw[ad,bs]at h;simp only[iK,uD,l3,fr,hG]at ad;cases aN: !jT s.view s.prop|| !jT s.view s.c4|| !jT s.view s.dec|| !hX s.view s.box
    ·rw[aN,bs]at h;cases bt: (hY s.box s.self).2&& !hx (hY s.box s.self).1 s.prop
     ·rw[bt,bs]at h;simp only[cq,ud]at h;refine⟨⟨v,self,a8,eE,ad.1.1.1,λe=>ad.1.1.2.resolve_left e,λe=>ad.1.2.resolve_left (λh=>h e),ad.2,g1,g2,g3,g4,λe=> ?_,dE,Mn.1 h.2.1.1.1,dL,λr ao=>⟨af r ao,Mn.1 h.2.1.2.1 r ao (by grind)⟩,ff,fB⟩,oM⟩;rw[e,rH]at bt;exact zo.1 (by grind)
     grind
    grind
   grind
  grind
 ·rintro⟨h,az⟩;have h1: (!b0 s.view|| !bH s.view.mem s.self||decide (s.cG<0)||decide (1099511627776<s.cG))=false:=by
   have:=h.a8;have:=h.eE;rw[h.v,h.self,cX (by omega),cX (by omega)];rfl
  have ad: (!k8 s.aP|| !decide (s.aP.cg=0)&& !gN s.view s.aP.cg||decide (0<s.aP.aD)&& !gN s.view s.aP.aD|| !jT s.view s.aP.cut)=false:=by
   rw[h.aP,h.gY];simp only[iK,uD,l3,fr,hG];refine⟨⟨⟨by simp,?_⟩,?_⟩,by simp⟩
   ·by_cases e:s.aP.cg=0
    ·omega
    ·exact .inr (h.cg e)
   ·by_cases e:0<s.aP.aD
    ·exact .inr (h.iq e)
    omega
  have aN: (!jT s.view s.prop|| !jT s.view s.c4|| !jT s.view s.dec|| !hX s.view s.box)=false:=by
   rw[h.prop,h.c4,h.dec,h.box];rfl
  have bt: ((hY s.box s.self).2&& !hx (hY s.box s.self).1 s.prop)=false:=by
   cases e: (hY s.box s.self).2
   ·rfl
   ·rw[h.own e,zo.2 rfl];rfl
  unfold fE;rw[h1,ad,aN,bt];simp only[bs,cq,ud];exact⟨aa6.2 λr ao=>(h.n8 r ao).1,⟨⟨Mn.2 h.rs,h.bw⟩,Mn.2 λr ao _=>(h.n8 r ao).2,h.aQ⟩,(aa7 s).2 ⟨h.aD,h.h9,az⟩⟩
theorem Mo(ab:b0 v=true)(h:bH v.mem x=true):1<=x/\x<=1000:=Sd ab h
theorem SM(ab:b0 v=true):gM v []=true:=(rm ab).2 ⟨by simp,.nil⟩
theorem yg{c:List Int}(h1:bH v.mem m=true)(ad:jt r=true)(aN:gb v c=true):jG v ⟨m,r,c⟩=true:=by
 simp only[jG,gb,cq,oR,fr]at *
 grind
variable{r:cj}
theorem aa8(h:jG v r=true):bH v.mem r.mem=true:=by
 simp only[jG,cq]at h
 grind
theorem EJ(h:jG v r=true): (r.aD= -1/\r.cut=[])\/(r.aD=0\/jt r.aD=true)/\gb v r.cut=true:=by
 simp only[jG,gb,cq,oR,fr]at *
 simp_all
theorem BZ{x:Int}:0<=eS l x↔∃r∈l,r.mem=x:=by
 constructor
 ·intro h;exact alB (ep h)
 ·rintro⟨r,ao,he⟩;cases h:decide (0<=eS l x)
  ·exact absurd he (alA h r ao)
  grind
theorem am1{x:cj}(ah:x∈l):x∈iR l r:=by
 unfold iR;rw[<-Aw (qD l r.mem) l,eo]at ah
 grind
theorem HV{x:cj}(h:gM v l=true)(ah:x∈l):x∈ (fJ v l r).1:=by
 unfold fJ;cases ad:gM v (iR l r)
 ·grind
 ·simp[h];exact am1 ah
theorem aa9(h:c1 s):c1 (rp s):=
 ⟨h.v,h.self,h.a8,h.eE,h.aP,h.cg,h.iq,h.gY,h.prop,n5.2 (.inl rfl),h.dec,h.box,h.own,SM h.v,(λr ao=>by cases ao),h.aQ,h.n8,h.aD,.inl ⟨rfl,rfl,rfl⟩⟩
theorem aba(s:bj):fX (rp s):=λe=>by
 have: (0:Int)=1:=e;omega
theorem Mp(h:c1 s){r:cj}(ao:jG s.view r=true)(an:gN s.view r.aD=true):c1 {s with aQ:=fR s.view s.aQ r}:=
 ⟨h.v,h.self,h.a8,h.eE,h.aP,h.cg,h.iq,h.gY,h.prop,h.c4,h.dec,h.box,h.own,h.bw,h.rs,SE h.v h.aQ ao,(λx ah=>by
  rcases EI ah with rfl|ah
  ·have:=rr (nL an).1
   grind
  ·exact h.n8 x ah),h.aD,h.h9⟩
variable{r:Int}
theorem am2{c:List Int}(h1:jt r=true)(ad:dq c 32=true):k8 ⟨r,r,c⟩=true:=by
 have aR:=rr h1;have aN:h7 r≠0:=by simpa[jt]using h1
 exact(x9 _).2 ⟨.inr aN,lk _,.inr ⟨.inr aN,by grind,ad⟩⟩
theorem abb(h:c1 s){r:Int}{c:List Int}(an:gN s.view r=true)(aj:gb s.view c=true):c1 {s with aP:=⟨r,r,c⟩}:=
 ⟨h.v,h.self,h.a8,h.eE,am2 (nL an).1 (yf (fi aj)),λ_=>an,λ_=>an,n5.2 (.inr aj),h.prop,h.c4,h.dec,h.box,h.own,h.bw,h.rs,h.aQ,h.n8,h.aD,h.h9⟩
theorem am3(h:k8 a=true){r:Int}(h1:jt r=true)(ad:a.cg<=r):k8 ⟨r,a.aD,a.cut⟩=true:=by
 obtain⟨_,bt,b5⟩:=(x9 a).1 h;exact(x9 _).2 ⟨.inr (by simpa[jt]using h1),by grind,b5⟩
theorem abc(h:c1 s){r:Int}(an:gN s.view r=true)(hle:s.aP.cg<=r):c1 {s with aP:=⟨r,s.aP.aD,s.aP.cut⟩}:=
 ⟨h.v,h.self,h.a8,h.eE,am3 h.aP (nL an).1 hle,λ_=>an,h.iq,h.gY,h.prop,h.c4,h.dec,h.box,h.own,h.bw,h.rs,h.aQ,h.n8,h.aD,h.h9⟩
theorem SN(h:c1 s): (fX s/\gC s=s)\/
  (s.phase=1/\rl s.view s.bw s.prop=false/\s.prop≠ []/\gb s.view (gH s.view s.bw s.prop).1=true/\(gH s.view s.bw s.prop).2=true/\
   (((jb s.aP s.aD (gH s.view s.bw s.prop).1).2=true/\gC s= {s with c4:=(gH s.view s.bw s.prop).1,phase:=2,aP:=⟨s.aD,s.aD,(gH s.view s.bw s.prop).1⟩,aQ:=fR s.view s.aQ ⟨s.self,s.aD,(gH s.view s.bw s.prop).1⟩})\/
   ((jb s.aP s.aD (gH s.view s.bw s.prop).1).2=false/\gC s=rp s))):=by
 unfold gC;cases ac: !decide (s.phase=1)||decide ((s.bw.length:Int)<fP s.view.mem.length)
 ·simp only[iK,l3,fr,hG]at ac;right;have jV:s.prop≠ []:=by
   rcases h.h9 with aR|aR;all_goals grind
  have lf:=zM h.prop jV;have aw:rl s.view s.bw s.prop=false:=by
   unfold rl;rw[h.bw,cX ac.2,fi lf];simp
  obtain⟨eR,fF⟩:=aa3 aw jV;refine⟨ac.1,aw,jV,?_,eR,?_⟩
  ·rcases fF with fF| ⟨r,ao,aR,fF⟩
   ·grind
   ·rw[fF];rcases EJ (((rm h.v).1 h.bw).1 r ao)with ad|ad;all_goals grind
  ·cases bb: (jb s.aP s.aD (gH s.view s.bw s.prop).1).2
   ·simp
   ·left;have:=(Mm h.aP bb).2.2.2.1
    grind
 ·left;simp only[oR,mV,hG,fr]at ac;refine⟨λe=> ?_,rfl⟩;omega
theorem EK(h:c1 s):c1 (gC s)/\fX (gC s)/\(gC s).view=s.view/\(gC s).self=s.self/\(gC s).dec=s.dec/\(gC s).aD=s.aD:=by
 rcases SN h with⟨az,e⟩| ⟨h1,aw,jV,lf,_,⟨bb,e⟩| ⟨bb,e⟩⟩
 ·grind
 ·rw[e];have mr:=h.h9;rw[h1]at mr;have SO:s.aD≠0:=by
   omega
  have kt:0<=eS s.bw s.self:=by
   omega
  obtain⟨an,aH⟩:=h.aD SO;have ad:=Mp (r:=⟨s.self,s.aD,(gH s.view s.bw s.prop).1⟩) h (yg h.self (nL an).1 lf) an;have aN:=abb ad an lf;exact⟨⟨aN.v,aN.self,aN.a8,aN.eE,aN.aP,aN.cg,aN.iq,aN.gY,aN.prop,n5.2 (.inr lf),aN.dec,aN.box,aN.own,aN.bw,aN.rs,aN.aQ,aN.n8,aN.aD,.inr ⟨.inr ⟨rfl,wZ lf⟩,SO,jV,kt⟩⟩,(λe=>by
   grind),rfl,rfl,rfl,rfl⟩
 ·rw[e];exact⟨aa9 h,aba s,rfl,rfl,rfl,rfl⟩
structure uf(s:bj)(p:dO):Prop where
 p2:eJ s.view p.m=true
 src:p.m.src=s.self
 k3:p.da≠s.self
 da:p.da=0\/bH s.view.mem p.da=true
theorem B0{k self aD cT:Int}{c:List Int}(ab:b0 v=true)(ae:bH v.mem self=true)
  (h: (bif decide (k=1)||decide (k=6)then decide (aD=0)&&decide (cT=0)&&gb v c
 else bif decide (k=2)then gN v aD&&decide (h7 aD=self)&&decide (cT=0)&&decide ((c.length:Int)=0)
 else bif decide (k=3)then gN v aD&& !decide (aD<cT)&& (decide (cT= -1)&&decide ((c.length:Int)=0)|| (decide (cT=0)||gN v cT)&&gb v c)
 else bif decide (k=4)then gN v aD&&decide (h7 aD=self)&&decide (cT=0)&&gb v c
 else bif decide (k=5)then gN v aD&&decide (cT=0)&&gb v c
 else false)=true):eJ v ⟨k,v.num,self,aD,cT,c⟩=true:=by
 unfold eJ
 grind
theorem HW(h:c1 s){k aD cT:Int}{c:List Int}(aA:eJ s.view ⟨k,s.view.num,s.self,aD,cT,c⟩=true):uf s (eF s 0 k aD cT c):=
 ⟨aA,rfl,(by have:=Mo h.v h.self;show (0:Int)≠s.self;omega),.inl rfl⟩
theorem SP(h:c1 s){c:List Int}(aj:gb s.view c=true):uf s (eF s 0 6 0 0 c):=
 HW h (B0 h.v h.self (by grind))
theorem abd(h:c1 s){c:List Int}(aj:gb s.view c=true):uf s (eF s 0 1 0 0 c):=
 HW h (B0 h.v h.self (by grind))
theorem am4(h:c1 s)(ao:s.aD≠0):uf s (eF s 0 2 s.aD 0 []):=by
 obtain⟨an,aH⟩:=h.aD ao;exact HW h (B0 h.v h.self (by grind))
theorem abe(h:c1 s)(ao:s.aD≠0){c:List Int}(aj:gb s.view c=true):uf s (eF s 0 4 s.aD 0 c):=by
 obtain⟨an,aH⟩:=h.aD ao;exact HW h (B0 h.v h.self (by grind))
theorem abf(h:c1 s){r:Int}(an:gN s.view r=true){c:List Int}(aj:gb s.view c=true):uf s (eF s 0 5 r 0 c):=
 HW h (B0 h.v h.self (by grind))
variable{l:List c6}
theorem abg(h: (ju v l).2=true):∃b∈l,b.cut=(ju v l).1:=by
 unfold ju at h⊢
 grind
theorem SQ{l:List cj}{m:Int}:∀i,i<=l.length->(kA l m i).2=[]\/∃r∈l,r.aD=(kA l m i).1/\r.cut=(kA l m i).2/\m<=(oK l r l.length:Int)
 |0,_=>.inl rfl
 |i+1,hi=>by
  unfold kA;cases ac:decide (m<=(oK l (l.getD i dA) l.length:Int))&&decide ((kA l m i).1<(l.getD i dA).aD)
  ·exact SQ i (by omega)
  grind
theorem am5(h:c1 s)(aW:hh s≠ []):gb s.view (hh s)=true:=by
 unfold hh at aW⊢;cases hw: (ju s.view s.box).2
 ·rw[hw,bs]at aW;rw[bs];unfold vw at aW⊢;rcases SQ (l:=s.aQ) (m:=fP s.view.mem.length) s.aQ.length (bP _)with h1| ⟨r,ao,ad,aN,_⟩
  ·grind
  ·rw[<-aN];have lf:=h.n8 r ao;rcases EJ (((rm h.v).1 h.aQ).1 r ao)with bt|bt;all_goals grind
 ·rw[bY];obtain⟨b,ac,he⟩:=abg hw;rw[<-he];exact(((uc h.v).1 h.box).1 b ac).2
theorem am6(h:c1 s)(az:fX s){a6:List dO}(an:∀p∈a6,uf s p):c1 (dl s a6).1/\fX (dl s a6).1/\(dl s a6).1.view=s.view/\(dl s a6).1.self=s.self/\∀p∈ (dl s a6).2,uf s p:=by
 unfold dl;cases ac:decide ((s.dec.length:Int)=0)&&decide (0<((hh s).length:Int))
 ·grind
 ·rw[cq]at ac;have bb:=am5 h (ru.1 ac.2);refine⟨⟨h.v,h.self,h.a8,h.eE,h.aP,h.cg,h.iq,h.gY,h.prop,h.c4,n5.2 (.inr bb),h.box,h.own,h.bw,h.rs,h.aQ,h.n8,h.aD,h.h9⟩,az,rfl,rfl,λp iQ=> ?_⟩;simp only[bY,eo,eX]at iQ;rcases iQ with iQ|rfl
  ·grind
  ·exact SP h bb
def r9(s:bj)(x:bj×List dO):Prop:=c1 x.1/\fX x.1/\x.1.view=s.view/\x.1.self=s.self/\∀p∈x.2,uf s p
variable{x:bj×List dO}
theorem Mq(h:r9 s x):r9 s (dl x.1 x.2):=by
 obtain⟨h1,ad,aN,bt,b5⟩:=h;have mN:∀p∈x.2,uf x.1 p:=λp an=>by
  have:=b5 p an;exact⟨by rw[aN];exact this.p2,by rw[bt];exact this.src,by rw[bt];exact this.k3,by rw[aN];exact this.da⟩
 obtain⟨aC,aG,bc,cn,eu⟩:=am6 h1 ad mN;refine⟨aC,aG,bc.trans aN,cn.trans bt,λp an=> ?_⟩;have:=eu p an;exact⟨by rw[<-aN];exact this.p2,by rw[<-bt];exact this.src,by rw[<-bt];exact this.k3,by rw[<-aN];exact this.da⟩
theorem kB{m:c0}(h:eJ v m=true):bH v.mem m.src=true/\m.view=v.num:=by
 unfold eJ at h
 grind
theorem pl{m:c0}(h:eJ v m=true): (m.kind=1\/m.kind=6->gb v m.cut=true)/\(m.kind=2->gN v m.aD=true/\h7 m.aD=m.src)/\
  (m.kind=3->gN v m.aD=true/\m.cT<=m.aD/\(m.cT= -1/\m.cut=[]\/(m.cT=0\/gN v m.cT=true)/\gb v m.cut=true))/\
  (m.kind=4->gN v m.aD=true/\h7 m.aD=m.src/\gb v m.cut=true)/\(m.kind=5->gN v m.aD=true/\gb v m.cut=true):=by
 unfold eJ at h;cases h1: !b0 v|| !bH v.mem m.src|| !decide (m.view=v.num)
 ·rw[h1,bs]at h;refine⟨λhk=> ?_,λhk=> ?_,λhk=> ?_,λhk=> ?_,λhk=> ?_⟩;all_goals simp_all
 grind
theorem abh(h:c1 s): (s.aP.aD= -1/\s.aP.cut=[])\/(s.aP.aD=0\/gN s.view s.aP.aD=true)/\gb s.view s.aP.cut=true:=by
 rcases((x9 s.aP).1 h.aP).2.2 with h1| ⟨h1,_,aN⟩
 ·grind
 ·right;refine⟨?_,zM h.gY (SI aN).1⟩;rcases h1 with h1|h1
  ·omega
  ·have:=aal h1;exact .inr (h.iq (by omega))
theorem am7(h:c1 s)(az:fX s){m:c0}(aA:eJ s.view m=true)(hk:m.kind=2)(aW:m.src≠s.self):r9 s (kR s m):=by
 obtain⟨ix,_⟩:=kB aA;obtain⟨an,_⟩:=(pl aA).2.1 hk;unfold kR;have key:∀t:bj,c1 t->fX t->t.view=s.view->t.self=s.self->∀a6:List dO,(∀p∈a6,uf s p)->r9 s ((bif decide (s.aD<m.aD)&& !decide (s.phase=0)then rp t else t),a6):=by
  intro t h1 ad aN bt a6 oI;cases decide (s.aD<m.aD)&& !decide (s.phase=0)
  ·exact⟨h1,ad,aN,bt,oI⟩
  ·exact⟨aa9 h1,aba t,aN,bt,oI⟩
 cases aH: (ip s.aP m.aD).2.2
 ·grind
 ·obtain⟨hu,hle,aC,aG⟩:=SJ h.aP aH;rw[aC,aG];have hc:=((x9 s.aP).1 h.aP).2.1;refine key _ (abc h an hle) az rfl rfl _ (λp iQ=> ?_);simp only[bY,eX]at iQ;subst iQ;refine⟨B0 h.v h.self ?_,rfl,aW,.inr ix⟩;simp only[an,rH];have aR:decide (m.aD<s.aP.aD)=false:=cX (by omega);rcases abh h with⟨h1,ad⟩| ⟨h1,ad⟩;all_goals grind
theorem am8(h:c1 s)(az:fX s){m:c0}(aA:eJ s.view m=true)(hk:m.kind=3):r9 s (kS s m):=by
 obtain⟨ix,_⟩:=kB aA;obtain⟨an,_,af⟩:=(pl aA).2.2.1 hk;unfold kS;cases ac: !decide (s.phase=1)|| !decide (m.aD=s.aD)
 ·simp only[iK,l3,fr]at ac;have mr:=h.h9;rw[ac.1]at mr;have mr:s.c4=[]/\s.aD≠0/\s.prop≠ []/\0<=eS s.bw s.self:=by
   grind
  have h1:c1 {s with bw:=(fJ s.view s.bw ⟨m.src,m.cT,m.cut⟩).1}:=by
   refine⟨h.v,h.self,h.a8,h.eE,h.aP,h.cg,h.iq,h.gY,h.prop,h.c4,h.dec,h.box,h.own,SA h.bw,λr ao aR=> ?_,h.aQ,h.n8,h.aD,.inr ⟨.inl ⟨ac.1,mr.1⟩,mr.2.1,mr.2.2.1,?_⟩⟩
   ·rcases EH ao with rfl|ao
    ·grind
    ·exact h.rs r ao aR
   ·obtain⟨r,ao,he⟩:=BZ.1 mr.2.2.2;exact BZ.2 ⟨r,HV h.bw ao,he⟩
  obtain⟨ad,aN,bt,b5,_,eN⟩:=EK h1;refine⟨ad,aN,bt,b5,λp iQ=> ?_⟩;simp only[bs]at iQ;generalize gC {s with bw:=(fJ s.view s.bw ⟨m.src,m.cT,m.cut⟩).1}=A at *;cases al:decide (A.phase=2)
  ·grind
  ·rw[al]at iQ;simp only[bY,eX]at iQ;subst iQ;have al:=fi al;have aj:A.c4≠ []/\A.aD≠0:=by
    rcases ad.h9 with aR| ⟨aR|aR,iV⟩;all_goals grind
   have:=abe ad aj.2 (zM ad.c4 aj.1);exact⟨by rw[<-bt];exact this.p2,by rw[<-b5];rfl,by rw[<-b5];exact this.k3,by rw[<-bt];exact this.da⟩
 ·exact⟨h,az,rfl,rfl,by simp⟩
theorem am9(h:c1 s)(az:fX s){m:c0}(aA:eJ s.view m=true)(hk:m.kind=4):r9 s (lX s m):=by
 obtain⟨ix,_⟩:=kB aA;obtain⟨an,_,aj⟩:=(pl aA).2.2.2.1 hk;have h1:=Mp (r:=⟨m.src,m.aD,m.cut⟩) h (yg ix (nL an).1 aj) an;unfold lX;cases bb: (jb s.aP m.aD m.cut).2
 ·exact⟨h1,az,rfl,rfl,by simp⟩
 ·have e:=(Mm h.aP bb).2.2.2.1;rw[e];have ad:=Mp (r:=⟨s.self,m.aD,m.cut⟩) h1 (yg h.self (nL an).1 aj) an;have aN:=abb ad an aj;refine⟨aN,az,rfl,rfl,λp iQ=> ?_⟩;simp only[bY,eX]at iQ;subst iQ;exact abf h an aj
theorem ana(h:c1 s)(az:fX s){m:c0}(aA:eJ s.view m=true)(hk:m.kind=5):r9 s ({s with aQ:=fR s.view s.aQ ⟨m.src,m.aD,m.cut⟩},[]):=by
 obtain⟨ix,_⟩:=kB aA;obtain⟨an,aj⟩:=(pl aA).2.2.2.2 hk;exact⟨Mp h (yg ix (nL an).1 aj) an,az,rfl,rfl,by simp⟩
theorem anb(h:c1 s)(az:fX s){m:c0}(aA:eJ s.view m=true)(hk:m.kind=6):r9 s ({s with dec:=m.cut},[eF s 0 6 0 0 m.cut]):=by
 have aj:=(pl aA).1 (.inr hk);refine⟨⟨h.v,h.self,h.a8,h.eE,h.aP,h.cg,h.iq,h.gY,h.prop,h.c4,n5.2 (.inr aj),h.box,h.own,h.bw,h.rs,h.aQ,h.n8,h.aD,h.h9⟩,az,rfl,rfl,λp an=> ?_⟩;simp only[eX]at an;subst an;exact SP h aj
variable{x:Int}
theorem anc(h:decide (0<=la l x)=true): (la l x).toNat<l.length/\(l.getD (la l x).toNat jU).mem=x:=by
 have h:=fi h;unfold la at h⊢;rcases az: (List.range l.length).find? (λi=>decide ((l.getD i jU).mem=x))with _|n
 ·simp only[lx,az]at h;omega
 ·have aW:n<l.length:=uF.1 (Jz az);have KL:=Jw az;simp only[lx,az,lH]
  grind
theorem Mr(h: (hY l x).2=true):∃b∈l,b.mem=x/\b.cut=(hY l x).1:=by
 unfold hY at h⊢;cases aa:decide (0<=la l x)
 ·grind
 ·obtain⟨h1,ad⟩:=anc aa
  grind
theorem ane(h: (hY l x).2=false):∀b∈l,b.mem≠x:=by
 unfold hY at h;cases aa:decide (0<=la l x)
 ·exact R7 aa
 grind
theorem anf(an:List.Pairwise (λa b:c6=>a.mem<b.mem) l){a b:c6}(bb:a∈l)(ac:b∈l)(he:a.mem=b.mem):a=b:=by
 obtain⟨i,hi,rfl⟩:=e8 bb;obtain⟨j,aq,rfl⟩:=e8 ac;rw[mz]at an
 grind
theorem B3(ab:b0 v=true){l:List c6}(ac:hX v l=true){x:Int}{c:List Int}: ((hY l x).2=true->(hY l x).1=c)↔∀b∈l,b.mem=x->b.cut=c:=by
 constructor
 ·intro h b EL he;cases aj: (hY l x).2
  ·exact absurd he (ane aj b EL)
  ·obtain⟨cZ,ad,aN,bt⟩:=Mr aj;have:=anf ((uc ab).1 ac).2 EL ad (he.trans aN.symm)
   grind
 ·intro h aj;obtain⟨cZ,ad,aN,bt⟩:=Mr aj
  grind
theorem abi{b:c6}(h: (h8 v l b).2=0):hX v l=true/\gb v b.cut=true/\bH v.mem b.mem=true/\(∀x∈l,x.mem≠b.mem)/\(h8 v l b).1=iB l b:=by
 unfold h8 at h⊢;cases h1: !hX v l|| !gb v b.cut
 ·rw[h1,bs]at h;rw[bs];simp only[iK,l3]at h1;cases ad: !bH v.mem b.mem
  ·rw[ad,bs]at h;rw[bs];cases aN:decide (0<=la l b.mem)
   ·exact⟨h1.1,h1.2,by grind,R7 aN,rfl⟩
   grind
  grind
 grind
theorem abj(ab:b0 v=true){l:List c6}{b:c6}(h:hX v l=true)(aj:gb v b.cut=true)(hi:bH v.mem b.mem=true)(aW:∀x∈l,x.mem≠b.mem):hX v (iB l b)=true:=by
 obtain⟨h1,ad⟩:=(uc ab).1 h;refine(uc ab).2 ⟨λx ah=> ?_,(alO ad).2 aW⟩;rcases zE ah with rfl|ah;all_goals grind
theorem ang(h:c1 s){l:List c6}(ac:hX s.view l=true)(aH:∀b∈l,b.mem=s.self->b.cut=s.prop):c1 {s with box:=l}:=
 ⟨h.v,h.self,h.a8,h.eE,h.aP,h.cg,h.iq,h.gY,h.prop,h.c4,h.dec,ac,(B3 h.v ac).2 aH,h.bw,h.rs,h.aQ,h.n8,h.aD,h.h9⟩
theorem anh(h:c1 s)(az:fX s){m:c0}(aW:m.src≠s.self):r9 s (kc s m,[]):=by
 unfold kc;cases aj:decide ((h8 s.view s.box ⟨m.src,m.cut⟩).2=0)
 ·exact⟨h,az,rfl,rfl,by simp⟩
 ·obtain⟨h1,ad,aN,bt,b5⟩:=abi (fi aj);rw[bY,b5];refine⟨ang h (abj h.v h1 ad aN bt) (λb ac he=> ?_),az,rfl,rfl,by simp⟩;rcases zE ac with rfl|ac
  ·grind
  ·exact(B3 h.v h.box).1 h.own b ac he
theorem SR(h:c1 s)(az:fX s){m:c0}(aA:eJ s.view m=true)(aW:m.src≠s.self):r9 s (e0 s m):=by
 unfold e0;rcases zK aA with hk|hk|hk|hk|hk|hk
 ·rw[b6 hk];exact anh h az aW
 ·rw[bo (by omega),b6 hk];exact am7 h az aA hk aW
 ·rw[bo (by omega),bo (by omega),b6 hk];exact am8 h az aA hk
 ·rw[bo (by omega),bo (by omega),bo (by omega),b6 hk];exact am9 h az aA hk
 ·rw[bo (by omega),bo (by omega),bo (by omega),bo (by omega),b6 hk];exact ana h az aA hk
 ·rw[bo (by omega),bo (by omega),bo (by omega),bo (by omega),bo (by omega)];exact anb h az aA hk
theorem zN(h:c1 s)(az:fX s){m:c0}(cw: (dB s m).2.2=0):r9 s ((dB s m).1,(dB s m).2.1):=by
 have ac:fE s=true:=(rv s).2 ⟨h,az⟩;unfold dB at cw⊢;rw[bo (by grind)]at cw⊢;by_cases ad:decide (m.view=s.view.num)=false
 ·grind
 rw[bo ad]at cw⊢;by_cases aN: (!eJ s.view m||decide (m.src=s.self))=true
 ·grind
 rw[bo aN]at cw⊢;have aN: (!eJ s.view m||decide (m.src=s.self))=false:=by grind
 simp only[iK,l3,hG]at aN;by_cases b5:decide (0<(s.dec.length:Int))=true
 ·rw[b6 b5];refine⟨h,az,rfl,rfl,λp an=> ?_⟩;cases hk:decide (m.kind=6)
  ·simp only[hk,bs,eX]at an;subst an;have aa:=zM h.dec (ru.1 b5);exact⟨B0 h.v h.self (by grind),rfl,aN.2,.inr (kB aN.1).1⟩
  grind
 rw[bo b5];exact Mq (SR h az aN.1 aN.2)
theorem EM(h:jT v c=true):c.length<=32:=by
 rcases n5.1 h with rfl|h
 ·simp
 ·have:=(SI (yf (fi h))).2;omega
theorem abk{r:cj}(h:jG v r=true):r.cut.length<=32:=by
 rcases EJ h with h|h
 ·grind
 ·exact EM (n5.2 (.inr h.2))
theorem Mt(h:c1 s):eB s:=by
 have aW:=s3 h.v;have ao:=r7 h.bw;have bb:=r7 h.aQ;have ac:=Se h.box;refine⟨by omega,by have:=EM h.gY;omega,by have:=EM h.prop;omega,by omega,λb hf=> ?_,by omega,λr hJ=> ?_,by have:=EM h.c4;omega,by omega,λr hJ=> ?_,by have:=EM h.dec;omega⟩
 ·have:=EM (n5.2 (.inr (((uc h.v).1 h.box).1 b hf).2));omega
 ·have:=abk (((rm h.v).1 h.bw).1 r hJ);omega
 ·have:=abk (((rm h.v).1 h.aQ).1 r hJ);omega
theorem ani(h:c1 s):∀p∈hA s,uf s p:=by
 intro p an;unfold hA at an;rw[eo,eo]at an;rcases an with(an|an)|an
 ·unfold yd at an;cases aj: (hY s.box s.self).2
  ·grind
  ·rw[aj]at an;simp only[bY,eX]at an;subst an;obtain⟨b,ac,_,he⟩:=Mr aj;rw[<-he];exact abd h (((uc h.v).1 h.box).1 b ac).2
 ·unfold vy at an;cases h1:decide (s.phase=1)
  ·cases ad:decide (s.phase=2)
   ·grind
   ·rw[h1,ad]at an;simp only[bY,bs,eX]at an;subst an;have ad:=fi ad;rcases h.h9 with aR| ⟨aR|aR,iV⟩
    ·omega
    ·omega
    ·exact abe h iV.1 (zM h.c4 aR.2)
  ·rw[h1]at an;simp only[bY,eX]at an;subst an;have h1:=fi h1;rcases h.h9 with aR| ⟨aR|aR,iV⟩
   ·omega
   ·exact am4 h iV.1
   ·omega
 ·unfold ye at an;cases ac:decide (0<=eS s.aQ s.self)&& !decide (s.phase=2)
  ·grind
  ·rw[ac]at an;simp only[bY,eX]at an;subst an;obtain⟨_,hk⟩:=zJ ((cq ..).mp ac).1;have aA:s.aQ.getD (eS s.aQ s.self).toNat dA∈s.aQ:=by grind
   generalize s.aQ.getD (eS s.aQ s.self).toNat dA=r at *;have bb:=h.n8 r aA;refine abf h bb.2 ?_;rcases EJ (((rm h.v).1 h.aQ).1 r aA)with bt|bt;all_goals grind
variable{a:Int}
theorem SS{m:Int}(h:vp a m≠0):1<=a/\a<=1048575/\vp a m=1024*a+m/\h7 (vp a m)=m/\1<=m/\m<=1000:=by
 by_cases aj:1<=a/\a<=1048575/\1<=m/\m<=1000
 ·have e:=RX aj.1 aj.2.1 aj.2.2.1 aj.2.2.2;refine⟨aj.1,aj.2.1,e,?_,aj.2.2.1,aj.2.2.2⟩;rw[e,alv (by omega) (by omega) (by omega)];omega
 ·exact absurd (alu aj) h
theorem abl(h:c1 s)(aW:iC s≠0):gN s.view (iC s)=true/\h7 (iC s)=s.self:=by
 unfold iC at aW⊢;obtain⟨_,_,_,bt,b5,_⟩:=SS aW;refine⟨?_,bt⟩;unfold gN;rw[bt,h.self,cX (by omega)];rfl
theorem anj(h:c1 s):jG s.view ⟨s.self,s.aP.aD,s.aP.cut⟩=true:=by
 simp only[jG,h.self,rH,oR,cq,fr];rcases abh h with⟨h1,ad⟩| ⟨h1,ad⟩
 ·grind
 ·right;refine⟨?_,fi ad⟩;rcases h1 with h1|h1
  ·omega
  ·exact .inr (nL h1).1
theorem ank(ab:b0 v=true){r:cj}(h:jG v r=true):gM v [r]=true:=
 (rm ab).2 ⟨λx ah=>by grind,List.pairwise_singleton ..⟩
def EN(s:bj):bj:={s with aP:=⟨iC s,s.aP.aD,s.aP.cut⟩,cG:=0,aD:=iC s,phase:=1,c4:=[],bw:=[⟨s.self,s.aP.aD,s.aP.cut⟩]}
theorem Mu(h:c1 s)(an:s.prop≠ [])(ao:gN s.view (iC s)=true)(aH:h7 (iC s)=s.self)(hle:s.aP.cg<=iC s):c1 (EN s):=by
 have h1:=abc h ao hle;have fx:=rr (nL ao).1;refine⟨h.v,h.self,lk _,(by show (0:Int)<=_;omega),h1.aP,h1.cg,h1.iq,h1.gY,h.prop,n5.2 (.inl rfl),h.dec,h.box,h.own,ank h.v (anj h),λr hJ aR=> ?_,h.aQ,h.n8,λ_=>⟨ao,aH⟩,.inr ⟨.inl ⟨rfl,rfl⟩,?_,an,BZ.2 ⟨_,eX.2 rfl,rfl⟩⟩⟩
 ·rcases eX.1 hJ with rfl;exact h.iq aR
 ·show iC s≠0;omega
theorem SU(h:c1 s):np s=s\/(gN s.view (iC s)=true/\h7 (iC s)=s.self/\s.aP.cg<=iC s/\np s=gC (EN s)):=by
 unfold np;cases aR:decide (iC s=0)
 ·cases aH: (ip s.aP (iC s)).2.2
  ·simp
  ·obtain⟨h1,ad⟩:=abl h (qX aR);obtain⟨_,hle,aC,aG⟩:=SJ h.aP aH;right;refine⟨h1,ad,hle,?_⟩;rw[aC,aG];rfl
 simp
theorem anl(h:c1 s)(az:fX s)(an:s.prop≠ []):c1 (np s)/\fX (np s)/\(np s).view=s.view/\(np s).self=s.self:=by
 rcases SU h with e| ⟨h1,ad,aN,e⟩
 ·grind
 ·rw[e];obtain⟨cP,a2,a3,a4,_⟩:=EK (Mu h an h1 ad aN);exact⟨cP,a2,a3,a4⟩
theorem SV(h:c1 s):0<=kT s/\kT s<=1099511627776:=by
 have aR:=h.a8;have h1:=h.eE;unfold kT;rw[dW (by omega) (by omega)];split<;>omega
theorem Mv(h:c1 s){w:Int}(aR:0<=w)(h1:w<=1099511627776):c1 {s with cG:=w}:=
 ⟨h.v,h.self,aR,h1,h.aP,h.cg,h.iq,h.gY,h.prop,h.c4,h.dec,h.box,h.own,h.bw,h.rs,h.aQ,h.n8,h.aD,h.h9⟩
theorem SX(h:c1 s)(az:fX s):c1 (gO s)/\fX (gO s)/\(gO s).view=s.view/\(gO s).self=s.self:=by
 have hw:=SV h;have h1:=Mv h hw.1 hw.2;unfold gO;by_cases eN:decide (0<(s.prop.length:Int))=true
 ·rw[b6 eN];by_cases iV:r8 s=true
  ·rw[b6 iV];exact anl h1 az (ru.1 eN)
  ·rw[bo iV];exact⟨h1,az,rfl,rfl⟩
 grind
theorem EO(h:c1 s)(az:fX s):r9 s (cQ s):=by
 have ac:fE s=true:=(rv s).2 ⟨h,az⟩;unfold cQ;rw[bo (by grind)];by_cases b5:decide (0<(s.dec.length:Int))=true
 ·rw[b6 b5];refine⟨h,az,rfl,rfl,λp an=> ?_⟩;rcases eX.1 an with rfl;exact SP h (zM h.dec (ru.1 b5))
 ·rw[bo b5];obtain⟨cP,a2,a3,a4⟩:=SX h az;refine Mq (x:=(gO s,hA (gO s))) ⟨cP,a2,a3,a4,λp an=> ?_⟩;have:=ani cP p an;exact⟨by rw[<-a3];exact this.p2,by rw[<-a4];exact this.src,by rw[<-a4];exact this.k3,by rw[<-a3];exact this.da⟩
theorem SY(h:c1 s)(an:s.prop=[]):∀b∈s.box,b.mem≠s.self:=λb ac he=>by
 have h1:=(B3 h.v h.box).1 h.own b ac he;rw[an]at h1;exact wZ (((uc h.v).1 h.box).1 b ac).2 h1
theorem Mw(h:c1 s)(az:fX s){cut:List Int}(cw: (eK s cut).2.2=0):s.prop=[]/\s.dec=[]/\gb s.view cut=true/\
  (((oJ s.aP cut).2=true/\s.aP.cg=0/\s.aP.aD= -1/\hX s.view (iB s.box ⟨s.self,cut⟩)=true/\((eK s cut).1,(eK s cut).2.1)=dl {s with prop:=cut,cG:=0,aP:=⟨0,0,cut⟩,box:=iB s.box ⟨s.self,cut⟩} [eF s 0 1 0 0 cut])\/
   ((oJ s.aP cut).2=false/\((eK s cut).1,(eK s cut).2.1)=dl {s with prop:=cut,cG:=0} [])):=by
 have ac:fE s=true:=(rv s).2 ⟨h,az⟩;unfold eK at cw⊢;cases h1: !fE s|| !gb s.view cut
 ·rw[h1,bs]at cw;rw[bs];simp only[iK,l3]at h1;cases ad:decide (0<(s.prop.length:Int))||decide (0<(s.dec.length:Int))
  ·rw[bs];rw[iK]at ad;have an:=SL.1 ad.1;refine⟨an,SL.1 ad.2,h1.2,?_⟩;cases ab: (oJ s.aP cut).2
   ·simp
   ·left;obtain⟨fk,jo,v3,v4⟩:=am0 h.aP ab;have aW:=SY h an;have aj:h8 s.view s.box ⟨s.self,cut⟩=(iB s.box ⟨s.self,cut⟩,0):=by
     unfold h8;have aN:decide (0<=la s.box s.self)=false:=by
      cases bt:decide (0<=la s.box s.self)
      ·rfl
      ·obtain⟨b,ac,he⟩:=aav bt
       grind
     simp only[h.box,h1.2,h.self,aN];rfl
    refine⟨rfl,fk,jo,abj h.v h.box h1.2 h.self aW,?_⟩
    grind
  grind
 grind
theorem SZ(h:c1 s)(az:fX s){cut:List Int}(cw: (eK s cut).2.2=0):r9 s ((eK s cut).1,(eK s cut).2.1):=by
 obtain⟨an,aa,aj,ug⟩:=Mw h az cw;have aR:s.phase=0/\s.bw=[]/\s.c4=[]:=by
  rcases h.h9 with aR|aR;all_goals grind
 have aW:=SY h an;have r6:∀t:bj,t.phase=s.phase->fX t:=λt cH e=>by
  omega
 rcases ug with⟨_,ff,fB,ac,e⟩| ⟨_,e⟩
 ·rw[e];have al:c1 {s with prop:=cut,cG:=0,aP:=⟨0,0,cut⟩,box:=iB s.box ⟨s.self,cut⟩}:=⟨h.v,h.self,lk _,(by simp),(x9 _).2 ⟨.inl rfl,lk _,.inr ⟨.inl rfl,by simp,yf (fi aj)⟩⟩,(λe=>absurd rfl e),(λe=>absurd e (FH _)),n5.2 (.inr aj),n5.2 (.inr aj),h.c4,h.dec,ac,(B3 h.v ac).2 (λb hf he=>by
   rcases zE hf with rfl|hf;all_goals grind),h.bw,h.rs,h.aQ,h.n8,h.aD,.inl aR⟩
  refine Mq (x:=({s with prop:=cut,cG:=0,aP:=⟨0,0,cut⟩,box:=iB s.box ⟨s.self,cut⟩},[eF s 0 1 0 0 cut])) ⟨al,r6 _ rfl,rfl,rfl,λp iQ=> ?_⟩;rcases eX.1 iQ with rfl;exact abd h aj
 ·rw[e];have al:c1 {s with prop:=cut,cG:=0}:=⟨h.v,h.self,lk _,(by simp),h.aP,h.cg,h.iq,h.gY,n5.2 (.inr aj),h.c4,h.dec,h.box,(B3 h.v h.box).2 (λb hf he=>absurd he (aW b hf)),h.bw,h.rs,h.aQ,h.n8,h.aD,.inl aR⟩
  exact Mq (x:=({s with prop:=cut,cG:=0},[])) ⟨al,r6 _ rfl,rfl,rfl,by simp⟩
theorem abm:eB gg:=amp (bX _) (bX _) (bX _) (bX _) (λb ac=>by cases ac) rfl (bX _) rfl (bX _)
theorem abn{α:Type} [DecidableEq α]{m k S:List α}(aA:m.Nodup)(hk:k.Nodup)(B4:∀x∈m,x∈S)(xA:∀x∈k,x∈S):m.length+k.length<=S.length+(k.filter λx=>decide (x∈m)).length:=by
 have h1: (m++k.filter λx=> !decide (x∈m)).Nodup:=by
  grind
 have ad:=rn h1 (b:=S) (λx ah=>by
  grind)
 rw[fv]at ad;have aN:∀l:List α,(l.filter λx=>decide (x∈m)).length+(l.filter λx=> !decide (x∈m)).length=l.length:=λl=>by
  induction l with
  |nil=>rfl
  |cons x l aY=>
   grind
 grind
theorem abo{α:Type} [DecidableEq α]{m k S:List α}(aA:m.Nodup)(hk:k.Nodup)(B4:∀x∈m,x∈S)(xA:∀x∈k,x∈S)(h:S.length<m.length+k.length):∃x,x∈m/\x∈k:=by
 have:=abn aA hk B4 xA;obtain⟨x,ah⟩:=xd (l:=k.filter λx=>decide (x∈m)) (by omega)
 grind
theorem abp{α β:Type}(f:α->β)(p:β->Bool):∀l:List α,((l.map f).filter p).length=(l.filter λx=>p (f x)).length
 | []=>rfl
 |x::l=>by
  rw[om,yC,yC];have aY:=abp f p l;cases p (f x)<;>simp[aY]
theorem abq{α:Type}{p q:α->Bool}:∀ {l:List α},(∀x∈l,p x=true->q x=true)->(l.filter p).length<=(l.filter q).length
 | [],_=>bP _
 |x::l,h=>by
  have aY:=abq (p:=p) (q:=q) (l:=l) (λy bn=>h y (FQ _ bn))
  grind
structure e1 where
 V:Int->List Int->Prop
 A:Int->Int->List Int->Prop
 C:Int->List Int->Prop
 P:List Int->Prop
 cg:Int->Int
structure EP(g:e1)(a r cT:Int)(cut:List Int):Prop where
 cg:r<=g.cg a
 le:cT<=r
 none:cT= -1->∀c,¬g.V a c
 zero:cT=0->g.V a cut
 pos:0<cT->g.A a cT cut
 ry:∀eH c,g.A a eH c->eH<r->eH<=cT
def HX(v:aK)(g:e1)(r:Int)(c:List Int):Prop:=
 ∃l:List cj,(l.map (·.mem)).Nodup/\(∀x∈l,x.mem∈v.mem/\EP g x.mem r x.aD x.cut/\x.aD<r/\(x.aD= -1\/0<=x.aD))/\v.mem.length/2+1<=l.length/\
  ((∃x∈l,0<x.aD/\c=x.cut/\∀y∈l,y.aD<=x.aD)\/
   (∀x∈l,x.aD<=0)/\∀y:List Int,v.mem.length- (v.mem.length-1)/4+l.length<=v.mem.length+(l.filter λr=>decide (r.aD=0)&&decide (r.cut=y)).length->c=y)
structure kC(v:aK)(g:e1):Prop where
 fk:∀a c fA,g.V a c->g.V a fA->c=fA
 jo:∀a c,g.V a c->g.P c
 cP:∀a r c,g.A a r c->g.C r c/\r<=g.cg a
 fF:∀r c fA,g.C r c->g.C r fA->c=fA
 eR:∀r c,g.C r c->0<r/\HX v g r c/\g.P c
structure abr(v:aK)(m:List Int):Prop where
 GL:m.Nodup
 sub:∀x∈m,x∈v.mem
def Mx(v:aK)(g:e1)(r:Int)(c:List Int):Prop:=∃m,abr v m/\v.mem.length/2+1<=m.length/\∀a∈m,g.A a r c
def S0(v:aK)(g:e1)(c:List Int):Prop:=∃m,abr v m/\v.mem.length- (v.mem.length-1)/4<=m.length/\∀a∈m,g.V a c
def uh(v:aK)(g:e1)(c:List Int):Prop:=S0 v g c\/∃r,Mx v g r c
section
variable {v:aK} {g:e1}
theorem HY{c:List Int}(h:Mx v g r c):∃a,g.A a r c:=by
 obtain⟨m,_,af,bb⟩:=h;obtain⟨x,ah⟩:=xd (l:=m) (by omega)
 grind
theorem abt(cp:kC v g):∀ (N:Nat) (r eH:Int) (c fA:List Int),r.toNat<=N->g.C r c->Mx v g eH fA->eH<r->c=fA:=by
 intro N;induction N with
 |zero=>
  intro r eH c fA jn il _ _;have:=(cp.eR r c il).1;omega
 |succ N aY=>
  intro r eH c fA jn il c5 ax;obtain⟨ao,⟨l,gV,af,My,EQ⟩,_⟩:=cp.eR r c il;obtain⟨a0,ER⟩:=HY c5;have HZ:=(cp.cP _ _ _ ER).1;have l9:=(cp.eR _ _ HZ).1;have anm:=c5;obtain⟨m,bV,aA,al⟩:=anm;obtain⟨y,nZ,mg⟩:=abo bV.GL gV bV.sub (λx ah=>by
   grind) (by grind)
  obtain⟨z,bx,rfl⟩:=fT.1 mg;have avL:=(af z bx).2.1.ry eH fA (al _ nZ) ax;rcases EQ with⟨x,ah,mO,y4,Mz⟩| ⟨hle,_⟩
  ·have S2:=(af x ah).2.1.pos mO;have S7:=(cp.cP _ _ _ S2).1;have D3:=(af x ah).2.2.1;have avM:=Mz z bx;rw[y4];rcases Oj (show eH<=x.aD by omega)with h1|h1
   ·exact aY x.aD eH x.cut fA (by omega) S7 c5 h1
   ·subst h1;exact cp.fF _ _ _ S7 HZ
  grind
theorem ann(cp:kC v g){y:List Int}(ec:S0 v g y):∀ (N:Nat) (r:Int) (c:List Int),r.toNat<=N->g.C r c->c=y:=by
 intro N;induction N with
 |zero=>
  intro r c jn il;have:=(cp.eR r c il).1;omega
 |succ N aY=>
  intro r c jn il;obtain⟨ao,⟨l,gV,af,My,EQ⟩,_⟩:=cp.eR r c il;rcases EQ with⟨x,ah,mO,y4,Mz⟩| ⟨hle,ct⟩
  ·have S2:=(af x ah).2.1.pos mO;have S7:=(cp.cP _ _ _ S2).1
   grind
  ·obtain⟨m,bV,aA,ed⟩:=ec;refine ct y ?_;have h1:=abn bV.GL gV bV.sub (λx ah=>by
    grind)
   rw[abp,bF]at h1;have ad:=abq (l:=l) (p:=λx=>decide (x.mem∈m)) (q:=λr=>decide (r.aD=0)&&decide (r.cut=y)) (λx ah an=>by
    have an:=fi an;have ab:=ed _ an;obtain⟨_,hK,_,bt⟩:=af x ah;have b5:=hle x ah;rcases bt with bt|bt
    ·exact absurd ab (hK.none bt y)
    ·have eN:x.aD=0:=by omega
     rw[cq];exact⟨ep eN,ep (cp.fk _ _ _ (hK.zero eN) ab)⟩)
   omega
theorem ano(aW:1<=v.mem.length)(cp:kC v g){y pI:List Int}(h:uh v g y)(bp:uh v g pI):y=pI:=by
 have key:∀ {y pI:List Int} {r:Int},S0 v g y->Mx v g r pI->y=pI:=λ{y pI r} ec c5=>by
  obtain⟨a,bb⟩:=HY c5;exact(ann cp ec _ r pI (bP _) (cp.cP _ _ _ bb).1).symm
 rcases h with ec| ⟨r,c5⟩
 ·rcases bp with zl| ⟨eH,A8⟩
  ·obtain⟨m,bV,aA,ed⟩:=ec;obtain⟨k,Hh,hk,ui⟩:=zl;obtain⟨x,BQ,lS⟩:=abo bV.GL Hh.GL bV.sub Hh.sub (by omega);exact cp.fk _ _ _ (ed x BQ) (ui x lS)
  grind
 ·rcases bp with zl| ⟨eH,A8⟩
  ·grind
  ·obtain⟨a,bb⟩:=HY c5;obtain⟨wN,H0⟩:=HY A8;have il:=(cp.cP _ _ _ bb).1;have HZ:=(cp.cP _ _ _ H0).1;rcases Int.lt_trichotomy r eH with ax|he|ax
   ·exact(abt cp _ eH r pI y (bP _) HZ c5 ax).symm
   ·subst he;exact cp.fF _ _ _ il HZ
   ·exact abt cp _ r eH y pI (bP _) il A8 ax
theorem H2(aW:1<=v.mem.length)(cp:kC v g){y:List Int}(h:uh v g y):g.P y:=by
 rcases h with⟨m,bV,aA,ed⟩| ⟨r,c5⟩
 ·obtain⟨x,ah⟩:=xd (l:=m) (by omega);exact cp.jo _ _ (ed x ah)
 ·obtain⟨a,bb⟩:=HY c5;exact(cp.eR _ _ (cp.cP _ _ _ bb).1).2.2
end
structure rz(g dV:e1):Prop where
 v:∀a c,g.V a c->dV.V a c
 a:∀a r c,g.A a r c->dV.A a r c
 c:∀r c,g.C r c->dV.C r c
 p:∀c,g.P c->dV.P c
 cg:∀a,g.cg a<=dV.cg a
 vl:∀a c,dV.V a c->g.V a c\/g.cg a<=0
 zO:∀a r c,dV.A a r c->g.A a r c\/g.cg a<=r
theorem anp(g:e1):rz g g:=⟨λ_ _ h=>h,λ_ _ _ h=>h,λ_ _ h=>h,λ_ h=>h,λ_=>lk _,λ_ _ h=>.inl h,λ_ _ _ h=>.inl h⟩
variable{g dV:e1}
theorem anq{H3:e1}(h:rz g dV)(bp:rz dV H3):rz g H3:=
 ⟨λa c x=>bp.v a c (h.v a c x),λa r c x=>bp.a a r c (h.a a r c x),λr c x=>bp.c r c (h.c r c x),λc x=>bp.p c (h.p c x),λa=>xc (h.cg a) (bp.cg a),λa c x=>by
  rcases bp.vl a c x with x|x
  ·exact h.vl a c x
  ·exact .inr (xc (h.cg a) x),λa r c x=>by
  rcases bp.zO a r c x with x|x
  ·exact h.zO a r c x
  ·exact .inr (xc (h.cg a) x)⟩
theorem H4(h:rz g dV){a r cT:Int}{cut:List Int}(ao:0<r)(q:EP g a r cT cut):EP dV a r cT cut:=
 ⟨xc q.cg (h.cg a),q.le,λe c x=>by
  rcases h.vl a c x with x|x
  ·exact q.none e c x
  ·have:=q.cg;omega,λe=>h.v _ _ (q.zero e),λe=>h.a _ _ _ (q.pos e),λeH c x ax=>by
  rcases h.zO a eH c x with x|x
  ·exact q.ry eH c x ax
  ·have:=q.cg;omega⟩
theorem ES(h:rz g dV){r:Int}{c:List Int}(ao:0<r)(q:HX v g r c):HX v dV r c:=by
 obtain⟨l,h1,ad,aN,bt⟩:=q;exact⟨l,h1,λx ah=>⟨(ad x ah).1,H4 h ao (ad x ah).2.1,(ad x ah).2.2⟩,aN,bt⟩
theorem B5(h:rz g dV){c:List Int}(aa:uh v g c):uh v dV c:=by
 rcases aa with⟨m,bV,aA,ed⟩| ⟨r,m,bV,aA,al⟩
 ·exact .inl ⟨m,bV,aA,λa bb=>h.v _ _ (ed a bb)⟩
 ·exact .inr ⟨r,m,bV,aA,λa bb=>h.a _ _ _ (al a bb)⟩
structure sa(a:Int)(g dV:e1):Prop where
 ext:rz g dV
 cg:∀b,b≠a->dV.cg b=g.cg b
 vl:∀b c,b≠a->dV.V b c->g.V b c
 zO:∀b r c,b≠a->dV.A b r c->g.A b r c
 cb:∀r c,dV.C r c->g.C r c\/h7 r=a
theorem zP(a:Int)(g:e1):sa a g g:=⟨anp g,λ_ _=>rfl,λ_ _ _ h=>h,λ_ _ _ _ h=>h,λ_ _ h=>.inl h⟩
theorem H5{H3:e1}(h:sa a g dV)(bp:sa a dV H3):sa a g H3:=
 ⟨anq h.ext bp.ext,λb ac=>(bp.cg b ac).trans (h.cg b ac),λb c ac x=>h.vl b c ac (bp.vl b c ac x),λb r c ac x=>h.zO b r c ac (bp.zO b r c ac x),λr c x=>by
  rcases bp.cb r c x with x|x
  ·exact h.cb r c x
  omega⟩
section
variable {v:aK} {g:e1} {a r:Int} {c:List Int}
def MA(g:e1)(a:Int)(c:List Int):e1:={g with V:=λb d=>g.V b d\/(b=a/\d=c)}
theorem anr(cp:kC v g)(an:g.cg a<=0)(ab:∀d,¬g.V a d)(dd:g.P c):kC v (MA g a c)/\sa a g (MA g a c):=by
 have dk:rz g (MA g a c):=⟨λ_ _ h=>.inl h,λ_ _ _ h=>h,λ_ _ h=>h,λ_ h=>h,λ_=>lk _,λb d h=>by
  rcases h with h| ⟨rfl,rfl⟩;all_goals grind,λ_ _ _ h=>.inl h⟩
 refine⟨⟨λb d ck h bp=> ?_,λb d h=> ?_,cp.cP,cp.fF,λr d h=>⟨(cp.eR r d h).1,ES dk (cp.eR r d h).1 (cp.eR r d h).2.1,(cp.eR r d h).2.2⟩⟩,⟨dk,λ_ _=>rfl,λb d ac h=> ?_,λ_ _ _ _ h=>h,λ_ _ h=>.inl h⟩⟩
 ·rcases h with h| ⟨rfl,rfl⟩
  ·rcases bp with bp| ⟨rfl,rfl⟩
   ·exact cp.fk _ _ _ h bp
   grind
  ·rcases bp with bp| ⟨_,rfl⟩;all_goals grind
 ·rcases h with h| ⟨rfl,rfl⟩
  ·exact cp.jo _ _ h
  ·exact dd
 ·rcases h with h| ⟨rfl,rfl⟩;all_goals omega
def B6(g:e1)(a r:Int):e1:={g with cg:=λb=>if b=a then r else g.cg b}
theorem abu(g:e1)(a r:Int): (B6 g a r).cg a=r:=b6 rfl
theorem abv(hle:g.cg a<=r):rz g (B6 g a r):=⟨λ_ _ h=>h,λ_ _ _ h=>h,λ_ _ h=>h,λ_ h=>h,λb=>by
 show g.cg b<=if b=a then r else g.cg b
 grind,λ_ _ h=>.inl h,λ_ _ _ h=>.inl h⟩
theorem abw(cp:kC v g)(hle:g.cg a<=r):kC v (B6 g a r)/\sa a g (B6 g a r):=by
 have dk:=abv (g:=g) hle;exact⟨⟨cp.fk,cp.jo,λb q d h=>⟨(cp.cP b q d h).1,xc (cp.cP b q d h).2 (dk.cg b)⟩,cp.fF,λq d h=>⟨(cp.eR q d h).1,ES dk (cp.eR q d h).1 (cp.eR q d h).2.1,(cp.eR q d h).2.2⟩⟩,
  ⟨dk,λb ac=>bo ac,λ_ _ _ h=>h,λ_ _ _ _ h=>h,λ_ _ h=>.inl h⟩⟩
def MB(g:e1)(r:Int)(c:List Int):e1:={g with C:=λq d=>g.C q d\/(q=r/\d=c)}
theorem ans(cp:kC v g)(ao:0<r)(aH:h7 r=a)(j6:∀d,¬g.C r d)(aj:HX v g r c)(dd:g.P c):kC v (MB g r c)/\sa a g (MB g r c):=by
 have dk:rz g (MB g r c):=⟨λ_ _ h=>h,λ_ _ _ h=>h,λ_ _ h=>.inl h,λ_ h=>h,λ_=>lk _,λ_ _ h=>.inl h,λ_ _ _ h=>.inl h⟩
 refine⟨⟨cp.fk,cp.jo,λb q d h=>⟨.inl (cp.cP b q d h).1,(cp.cP b q d h).2⟩,λq d ck h bp=> ?_,λq d h=> ?_⟩,⟨dk,λ_ _=>rfl,λ_ _ _ h=>h,λ_ _ _ _ h=>h,λq d h=> ?_⟩⟩
 ·rcases h with h| ⟨rfl,rfl⟩
  ·rcases bp with bp| ⟨rfl,rfl⟩
   ·exact cp.fF _ _ _ h bp
   grind
  ·rcases bp with bp| ⟨_,rfl⟩;all_goals grind
 ·rcases h with h| ⟨rfl,rfl⟩
  ·exact⟨(cp.eR q d h).1,ES dk (cp.eR q d h).1 (cp.eR q d h).2.1,(cp.eR q d h).2.2⟩
  ·exact⟨ao,ES dk ao aj,dd⟩
 ·rcases h with h| ⟨rfl,rfl⟩;all_goals grind
def H6(g:e1)(a r:Int)(c:List Int):e1:={g with A:=λb q d=>g.A b q d\/(b=a/\q=r/\d=c),cg:=λb=>if b=a then r else g.cg b}
theorem abx(cp:kC v g)(hle:g.cg a<=r)(il:g.C r c):kC v (H6 g a r c)/\sa a g (H6 g a r c):=by
 have jV:∀b,g.cg b<=(H6 g a r c).cg b:=(abv (g:=g) hle).cg;have dk:rz g (H6 g a r c):=⟨λ_ _ h=>h,λ_ _ _ h=>.inl h,λ_ _ h=>h,λ_ h=>h,jV,λ_ _ h=>.inl h,λb q d h=>by
  rcases h with h| ⟨rfl,rfl,rfl⟩;all_goals grind⟩
 refine⟨⟨cp.fk,cp.jo,λb q d h=> ?_,cp.fF,λq d h=>⟨(cp.eR q d h).1,ES dk (cp.eR q d h).1 (cp.eR q d h).2.1,(cp.eR q d h).2.2⟩⟩,⟨dk,λb ac=>bo ac,λ_ _ _ h=>h,λb q d ac h=> ?_,λ_ _ h=>.inl h⟩⟩
 ·rcases h with h| ⟨rfl,rfl,rfl⟩
  ·exact⟨(cp.cP b q d h).1,xc (cp.cP b q d h).2 (jV b)⟩
  ·refine⟨il,?_⟩;show q<=if b=b then q else g.cg b
   simp
 ·rcases h with h| ⟨rfl,rfl,rfl⟩;all_goals omega
def H7(g:e1)(c:List Int):e1:={g with P:=λd=>g.P d\/d=c}
theorem aby(cp:kC v g)(a:Int):kC v (H7 g c)/\sa a g (H7 g c):=by
 have dk:rz g (H7 g c):=⟨λ_ _ h=>h,λ_ _ _ h=>h,λ_ _ h=>h,λ_ h=>.inl h,λ_=>lk _,λ_ _ h=>.inl h,λ_ _ _ h=>.inl h⟩
 exact⟨⟨cp.fk,λb d h=>.inl (cp.jo b d h),cp.cP,cp.fF,λq d h=>⟨(cp.eR q d h).1,ES dk (cp.eR q d h).1 (cp.eR q d h).2.1,.inl (cp.eR q d h).2.2⟩⟩,
  ⟨dk,λ_ _=>rfl,λ_ _ _ h=>h,λ_ _ _ _ h=>h,λ_ _ h=>.inl h⟩⟩
end
theorem abz(l:List cj):∀i,i<=l.length->∀j,(aq:j<l.length)->j<i->l[j].aD<=(l.getD (hW l i) dA).aD
 |0,_,j,_,h=>absurd h (OK _)
 |i+1,hi,j,aq,r5=>by
  have aY:=abz l i (by omega);have ax:i<l.length:=by omega
  have aw:l.getD i dA=l[i]:=by grind
  rw[alE,aw]
  grind
def ET(l:List cj)(y:List Int):Nat:=(l.filter λr=>decide (r.aD=0)&&decide (r.cut=y)).length
theorem abA(l:List cj)(y:List Int):iG (ga l) y=ET l y:=by
 unfold iG ga ET;rw[List.filter_map,bF,List.filter_filter];congr 1;apply Ju;intro r _;show (hx r.cut y&&decide (r.aD=0))=_;rw[Bool.and_comm];congr 1;rw[Og,zo,fr]
theorem ant(ab:b0 v=true){l:List cj}(avN:l.length<=16){own:List Int}(aH:own≠ [])(aR:rl v l own=false):
  v.mem.length/2+1<=l.length/\
  ((∃r∈l,0<r.aD/\(gH v l own).1=r.cut/\∀eH∈l,eH.aD<=r.aD)\/
  (∀r∈l,r.aD<=0)/\∀y:List Int,v.mem.length- (v.mem.length-1)/4+l.length<=v.mem.length+(l.filter λr=>decide (r.aD=0)&&decide (r.cut=y)).length->(gH v l own).1=y):=by
 have aW:=s3 ab;have aw:=aR;simp only[rl,iK,l3,hG]at aw;obtain⟨⟨ao,aA⟩,_⟩:=aw;rw[L7 ab]at aA;have fx:=(RW aR).1;have ax:=RV l fx;have wA:l.getD (hW l l.length) dA=l[hW l l.length]:=by grind
 have Mz:=abz l l.length (bP _);refine⟨by omega,?_⟩;cases h1:decide (0<(l.getD (hW l l.length) dA).aD)with
 |true=>
  left;rw[aaq aR h1];rw[wA]at h1 Mz⊢;refine⟨l[hW l l.length],eM ax,fi h1,rfl,λeH l9=> ?_⟩;obtain⟨j,aq,rfl⟩:=e8 l9
  grind
 |false=>
  right;have Yi:=qX h1;refine⟨λr l9=> ?_,λy bn=> ?_⟩
  ·obtain⟨j,aq,rfl⟩:=e8 l9
   grind
  ·have bn:v.mem.length- (v.mem.length-1)/4+l.length<=v.mem.length+ET l y:=bn;have abB:ub v l=((v.mem.length- (v.mem.length-1)/4:Nat):Int)+(l.length:Int)- (v.mem.length:Int):=by
    unfold ub;rw[Sc ab,dW (n:=(((v.mem.length- (v.mem.length-1)/4:Nat):Int)+(l.length:Int))) (by omega) (by omega),dW (by omega) (by omega)]
   cases az:l.find? (vq v l)with
   |none=>
    exfalso;have G9:0<ET l y:=by omega
    obtain⟨r,B7⟩:=xd G9;rw[h2,cq,fr,fr]at B7;have bV:=Ar.1 az r B7.1;refine bV ?_;unfold vq;rw[ep B7.2.1,abA,B7.2.2,rH,fr,abB];omega
   |some r=>
    obtain⟨bV,i,hi,he,ct⟩:=Jv.1 az;subst he;rw[aap aR h1 hi bV (λj aq r5=>by grind)];show l[i].cut=y;simp only[vq,cq,fr,abA,abB]at bV;by_cases abC:l[i].cut=y
    ·omega
    ·exfalso;have ad:=Sb (p:=λr:cj=>decide (r.aD=0)&&decide (r.cut=l[i].cut)) (q:=λr:cj=>decide (r.aD=0)&&decide (r.cut=y)) (λx an bV=>by
      grind) l
     have aN:ET l l[i].cut+ET l y<=l.length:=ad;omega
structure zQ(g:e1)(a:Int)(aP:ky):Prop where
 cg:g.cg a=aP.cg
 neg:aP.aD= -1->∀c,¬g.V a c
 zero:aP.aD=0->g.V a aP.cut
 pos:0<aP.aD->g.A a aP.aD aP.cut
 ry:∀r c,g.A a r c->r<=aP.aD
structure zR(v:aK)(g:e1)(s:bj):Prop where
 box:∀b∈s.box,g.V b.mem b.cut
 bw:s.phase=1->∀x∈s.bw,EP g x.mem s.aD x.aD x.cut
 rA:s.phase=1->∀c,¬g.C s.aD c
 p3:∀r c,g.C r c->h7 r=s.self->r<=s.aD
 c4:s.phase=2->g.A s.self s.aD s.c4
 aQ:∀x∈s.aQ,g.A x.mem x.aD x.cut
 dec:s.dec≠ []->uh v g s.dec
 prop:s.prop≠ []->g.P s.prop
structure kD(v:aK)(g:e1)(s:bj):Prop where
 jc:zQ g s.self s.aP
 dP:zR v g s
structure qF(v:aK)(g:e1)(m:c0):Prop where
 cU:m.kind=1->g.V m.src m.cut
 hR:m.kind=3->EP g m.src m.aD m.cT m.cut
 hL:m.kind=4\/m.kind=5->g.A m.src m.aD m.cut
 qG:m.kind=6->uh v g m.cut
theorem anu{dV:e1}(h:rz g dV){m:c0}(ab:eJ v m=true)(f:qF v g m):qF v dV m:=
 ⟨λk=>h.v _ _ (f.cU k),λk=>H4 h (by
  have:=rr (nL ((pl ab).2.2.1 k).1).1;omega) (f.hR k),λk=>h.a _ _ _ (f.hL k),λk=>B5 h (f.qG k)⟩
theorem B8(h:c1 s)(an:s.phase=1\/s.phase=2):s.aD≠0/\s.prop≠ []/\0<s.aD/\h7 s.aD=s.self:=by
 have ad:s.aD≠0/\s.prop≠ []:=by
  rcases h.h9 with aR|aR;all_goals grind
 have:=rr (nL (h.aD ad.1).1).1;exact⟨ad.1,ad.2,by omega,(h.aD ad.1).2⟩
theorem MC{dV:e1}{s:bj}(h:rz g dV)(il:∀r c,dV.C r c->g.C r c)(an:s.phase=1->0<s.aD)(q:zR v g s):zR v dV s:=
 ⟨λb ac=>h.v _ _ (q.box b ac),λp x ah=>H4 h (an p) (q.bw p x ah),λp c x=>q.rA p c (il _ _ x),λr c x o=>q.p3 r c (il _ _ x) o,λp=>h.a _ _ _ (q.c4 p),λx ah=>h.a _ _ _ (q.aQ x ah),λp=>B5 h (q.dec p),λp=>h.p _ (q.prop p)⟩
theorem anv{dV:e1}{s:bj}{a:Int}(al:c1 s)(h:sa a g dV)(bu:s.self≠a)(q:kD v g s):kD v dV s:=by
 obtain⟨⟨dj,dM,gJ,eG,n9⟩,q⟩:=q;refine⟨⟨(h.cg _ bu).trans dj,λe c x=>dM e c (h.vl _ _ bu x),λe=>h.ext.v _ _ (gJ e),λe=>h.ext.a _ _ _ (eG e),λr c x=>n9 r c (h.zO _ _ _ bu x)⟩,?_⟩;refine⟨λb ac=>h.ext.v _ _ (q.box b ac),λp x ah=>H4 h.ext (B8 al (.inl p)).2.2.1 (q.bw p x ah),λp c x=> ?_,λr c x o=> ?_,λp=>h.ext.a _ _ _ (q.c4 p),λx ah=>h.ext.a _ _ _ (q.aQ x ah),λp=>B5 h.ext (q.dec p),λp=>h.ext.p _ (q.prop p)⟩
 ·rcases h.cb _ _ x with x|x
  ·exact q.rA p c x
  ·exact bu ((B8 al (.inl p)).2.2.2.symm.trans x)
 ·rcases h.cb _ _ x with x|x
  ·exact q.p3 r c x o
  omega
variable{aP:ky}
theorem abD(h:zQ g a aP):zQ (B6 g a r) a ⟨r,aP.aD,aP.cut⟩:=⟨abu g a r,h.neg,h.zero,h.pos,h.ry⟩
theorem anw{c:List Int}(h:zQ g a aP)(h1:aP.cg=0)(ad:aP.aD= -1):zQ (MA g a c) a ⟨0,0,c⟩:=
 ⟨h.cg.trans h1,(λe=>by
  grind),λ_=>.inr ⟨rfl,rfl⟩,(λe=>absurd e (FH _)),λr d x=>by
  have:=h.ry r d x
  grind⟩
theorem abE{c:List Int}(h:zQ g a aP)(ao:0<r)(hle:aP.aD<=r):zQ (H6 g a r c) a ⟨r,r,c⟩:=
 ⟨b6 rfl,(λe=>by
  grind),(λe=>by
  grind),λ_=>.inr ⟨rfl,rfl,rfl⟩,λq d x=>by
  show q<=r;rcases x with x| ⟨_,rfl,_⟩
  ·have:=h.ry q d x;omega
  simp⟩
theorem S8{a:ky}(h:k8 a=true):a.aD<=a.cg:=((x9 a).1 h).2.1
theorem abF(h:zQ g a aP)(ac:k8 aP=true)(hle:aP.cg<=r):EP (B6 g a r) a r aP.aD aP.cut:=
 ⟨by rw[abu];simp,xc (S8 ac) hle,h.neg,h.zero,h.pos,λq d x _=>h.ry q d x⟩
theorem abG{s:bj}(q:zR v g s):zR v g (rp s):=
 ⟨q.box,(λp=>by
  have p: (0:Int)=1:=p;omega),(λp=>by
  have p: (0:Int)=1:=p;omega),q.p3,(λp=>by
  have p: (0:Int)=2:=p;omega),q.aQ,q.dec,q.prop⟩
theorem MD{s:bj}(q:zR v g s){r:cj}(ao:g.A r.mem r.aD r.cut):zR v g {s with aQ:=fR s.view s.aQ r}:=
 ⟨q.box,q.bw,q.rA,q.p3,q.c4,λx ah=>by
  rcases EI ah with rfl|ah
  ·exact ao
  ·exact q.aQ x ah,q.dec,q.prop⟩
theorem anx{s:bj}(ab:s.view=v)(al:c1 s)(q:zR v g s)(aW:hh s≠ []):uh v g (hh s):=by
 subst ab;unfold hh at aW⊢;cases hw: (ju s.view s.box).2
 ·rw[hw,bs]at aW;rw[bs];unfold vw at aW⊢;rcases SQ (l:=s.aQ) (m:=fP s.view.mem.length) s.aQ.length (bP _)with h| ⟨r,ao,h1,ad,aN⟩
  ·grind
  ·have an:=(rm al.v).1 al.aQ;rw[<-ad];rw[L7 al.v]at aN;unfold oK at aN;rw[fU]at aN;refine .inr ⟨r.aD,(s.aQ.filter λx=>decide (x.aD=r.aD)&&hx x.cut r.cut).map (·.mem),⟨?_,λx ah=> ?_⟩,by grind,λa bb=> ?_⟩
   ·unfold List.Nodup;rw[yI];exact(an.2.sublist vZ).imp λh=>by omega
   ·obtain⟨z,bx,rfl⟩:=fT.1 ah;exact EG (aa8 (an.1 z (h2.1 bx).1))
   ·obtain⟨z,bx,rfl⟩:=fT.1 bb;obtain⟨S9,H8⟩:=h2.1 bx;rw[cq,fr,zo]at H8;have:=q.aQ z S9
    grind
 ·rw[bY];unfold ju at hw⊢;have ac:=al.box;rw[ac]at hw⊢;simp only[kY,bs]at hw⊢;cases az:s.box.find? (λb=>decide (tZ s.view.mem.length<=(iG s.box b.cut:Int)))with
  |none=>grind
  |some b=>
   have bV:=Jw az;simp only[fr]at bV;have an:=(uc al.v).1 ac;rw[Sc al.v]at bV;unfold iG at bV;refine .inl ⟨(s.box.filter λx=>hx x.cut b.cut).map (·.mem),⟨?_,λx ah=> ?_⟩,by grind,λa bb=> ?_⟩
   ·unfold List.Nodup;rw[yI];exact(an.2.sublist vZ).imp λh=>by omega
   ·obtain⟨z,bx,rfl⟩:=fT.1 ah;exact EG (an.1 z (h2.1 bx).1).1
   ·obtain⟨z,bx,rfl⟩:=fT.1 bb;obtain⟨S9,H8⟩:=h2.1 bx;have:=q.box z S9;rw[zo.1 H8]at this;omega
theorem anz{s:bj}(ab:s.view=v)(al:c1 s)(q:kD v g s){a6:List dO}(an:∀p∈a6,qF v g p.m):kD v g (dl s a6).1/\∀p∈ (dl s a6).2,qF v g p.m:=by
 unfold dl;cases aj:decide ((s.dec.length:Int)=0)&&decide (0<((hh s).length:Int))
 ·grind
 ·rw[cq]at aj;have aa:=anx ab al q.dP (ru.1 aj.2);refine⟨⟨q.jc,⟨q.dP.box,q.dP.bw,q.dP.rA,q.dP.p3,q.dP.c4,q.dP.aQ,λ_=>aa,q.dP.prop⟩⟩,λp ah=> ?_⟩;simp only[bY]at ah;rcases eo.1 ah with ah|ah
  ·grind
  ·rw[eX.1 ah];exact⟨λk=>by
    have k: (6:Int)=1:=k;omega,λk=>by
    have k: (6:Int)=3:=k;omega,λk=>by
    have k: (6:Int)=4\/(6:Int)=5:=k;omega,λ_=>aa⟩
def p4(v:aK)(g:e1)(s:bj)(x:bj×List dO):Prop:=∃dV,kC v dV/\sa s.self g dV/\(∀c,dV.P c->g.P c)/\kD v dV x.1/\∀p∈x.2,qF v dV p.m
theorem rB{s:bj}{x:bj×List dO}(cp:kC v g)(q:kD v g x.1)(an:∀p∈x.2,qF v g p.m):p4 v g s x:=⟨g,cp,zP _ _,λ_ h=>h,q,an⟩
theorem s5:∀p∈ ([]:List dO),qF v g p.m:=λp an=>by cases an
theorem ME{s:bj}{x:bj×List dO}(ab:x.1.view=v)(al:c1 x.1)(h:p4 v g s x):p4 v g s (dl x.1 x.2):=by
 obtain⟨dV,h1,ad,aN,bt,b5⟩:=h;obtain⟨eN,iV⟩:=anz ab al bt b5;exact⟨dV,h1,ad,aN,eN,iV⟩
theorem abH{s:bj}(cp:kC v g)(al:c1 s)(ab:s.view=v)(q:kD v g s):p4 v g s (gC s,[]):=by
 rcases SN al with⟨_,e⟩| ⟨h1,aw,jV,lf,_,⟨bb,e⟩| ⟨bb,e⟩⟩
 ·rw[e];exact rB cp q s5
 ·obtain⟨SO,_,ue,anA⟩:=B8 al (.inl h1);obtain⟨My,EQ⟩:=ant al.v (r7 al.bw) jV aw;obtain⟨_,hle,_,_,_⟩:=Mm al.aP bb;obtain⟨_,A6⟩:=aa3 aw jV;have dd:g.P (gH s.view s.bw s.prop).1:=by
   rcases A6 with A6| ⟨r,ao,aR,A6⟩
   ·rw[A6];exact q.dP.prop jV
   ·rw[A6];have hK:=q.dP.bw h1 r ao;rcases Oj aR with aR|aR
    ·exact(cp.eR _ _ (cp.cP _ _ _ (hK.pos aR)).1).2.2
    ·exact cp.jo _ _ (hK.zero aR.symm)
  rw[e];rw[ab]at My EQ dd⊢;generalize il: (gH v s.bw s.prop).1=C at *;have an:=(rm al.v).1 al.bw;have zL:HX v g s.aD C:=by
   refine⟨s.bw,?_,λx ah=> ?_,My,EQ⟩
   ·grind
   ·have hK:=q.dP.bw h1 x ah;have aj:=EJ (an.1 x ah);have aA:=EG (aa8 (an.1 x ah));rw[ab]at aA;refine⟨aA,hK,?_,?_⟩
    ·have ad:=hK.le;by_cases aN:x.aD=s.aD
     ·have:=(cp.cP _ _ _ (hK.pos (by omega))).1;rw[aN]at this;exact absurd this (q.dP.rA h1 _)
     ·omega
    ·rcases aj with aj| ⟨aj|aj,_⟩
     ·omega
     ·omega
     ·have:=rr aj;omega
  obtain⟨i1,s1⟩:=ans cp ue anA (q.dP.rA h1) zL dd;obtain⟨i2,s2⟩:=abx (a:=s.self) (r:=s.aD) (c:=C) i1 (by
   show g.cg s.self<=s.aD;rw[q.jc.cg];omega) (.inr ⟨rfl,rfl⟩)
  have w0:=(H5 s1 s2).ext;refine⟨_,i2,H5 s1 s2,λ_ h=>h,⟨abE (g:=MB g s.aD C) ⟨q.jc.cg,q.jc.neg,q.jc.zero,q.jc.pos,q.jc.ry⟩ ue (xc (S8 al.aP) hle),?_⟩,s5⟩;refine⟨λb ac=>w0.v _ _ (q.dP.box b ac),(λp=>by
   grind),(λp=>by
   grind),λr c x o=> ?_,λ_=>.inr ⟨rfl,rfl,rfl⟩,λx ah=> ?_,λp=>B5 w0 (q.dP.dec p),λp=>w0.p _ (q.dP.prop p)⟩
  ·rcases x with x| ⟨rfl,_⟩
   ·exact q.dP.p3 r c x o
   simp
  ·rcases EI ah with rfl|ah
   ·exact .inr ⟨rfl,rfl,rfl⟩
   ·exact w0.a _ _ _ (q.dP.aQ x ah)
 ·rw[e];exact rB cp ⟨q.jc,abG q.dP⟩ s5
theorem anB{s:bj}(cp:kC v g)(al:c1 s)(q:kD v g s){m:c0}(f:qF v g m)(hk:m.kind=1):p4 v g s (kc s m,[]):=by
 unfold kc;cases aj:decide ((h8 s.view s.box ⟨m.src,m.cut⟩).2=0)
 ·exact rB cp q s5
 ·have b5:=(abi (fi aj)).2.2.2.2;rw[bY,b5];refine rB cp ⟨q.jc,⟨λb ac=> ?_,q.dP.bw,q.dP.rA,q.dP.p3,q.dP.c4,q.dP.aQ,q.dP.dec,q.dP.prop⟩⟩ s5;rcases zE ac with rfl|ac
  ·exact f.cU hk
  ·exact q.dP.box b ac
theorem anC{s:bj}(cp:kC v g)(al:c1 s)(q:kD v g s){m:c0}(aA:eJ s.view m=true)(hk:m.kind=2):p4 v g s (kR s m):=by
 have key:∀ (t:bj) (a6:List dO) (b:Bool),p4 v g s (t,a6)->p4 v g s ((bif b then rp t else t),a6):=λt a6 b h=>by
  cases b
  ·exact h
  ·obtain⟨dV,h1,ad,aN,bt,b5⟩:=h;exact⟨dV,h1,ad,aN,⟨bt.jc,abG bt.dP⟩,b5⟩
 unfold kR;refine key _ _ _ ?_;cases aH: (ip s.aP m.aD).2.2
 ·exact rB cp q s5
 ·obtain⟨hu,hle,aC,aG⟩:=SJ al.aP aH;rw[aC,aG];obtain⟨i1,s1⟩:=abw (a:=s.self) (r:=m.aD) cp (by
   rw[q.jc.cg];omega)
  refine⟨_,i1,s1,λ_ h=>h,⟨abD q.jc,?_⟩,λp an=> ?_⟩
  ·have:=MC s1.ext (λ_ _ h=>h) (λp=>(B8 al (.inl p)).2.2.1) q.dP;exact⟨this.box,this.bw,this.rA,this.p3,this.c4,this.aQ,this.dec,this.prop⟩
  ·simp only[bY,eX]at an;subst an;exact⟨λk=>by
    have k: (3:Int)=1:=k;omega,λ_=>abF q.jc al.aP hle,λk=>by
    have k: (3:Int)=4\/(3:Int)=5:=k;omega,λk=>by
    have k: (3:Int)=6:=k;omega⟩
theorem abI(h:c1 s){m:c0}(aA:eJ s.view m=true)(hk:m.kind=3)(ac:s.phase=1):c1 {s with bw:=(fJ s.view s.bw ⟨m.src,m.cT,m.cut⟩).1}:=by
 obtain⟨an,_,af⟩:=(pl aA).2.2.1 hk;have mr:=h.h9;rw[ac]at mr;have mr:s.c4=[]/\s.aD≠0/\s.prop≠ []/\0<=eS s.bw s.self:=by
  grind
 refine⟨h.v,h.self,h.a8,h.eE,h.aP,h.cg,h.iq,h.gY,h.prop,h.c4,h.dec,h.box,h.own,SA h.bw,λr ao aR=> ?_,h.aQ,h.n8,h.aD,.inr ⟨.inl ⟨ac,mr.1⟩,mr.2.1,mr.2.2.1,?_⟩⟩
 ·rcases EH ao with rfl|ao
  ·grind
  ·exact h.rs r ao aR
 ·obtain⟨r,ao,he⟩:=BZ.1 mr.2.2.2;exact BZ.2 ⟨r,HV h.bw ao,he⟩
theorem anD{s:bj}(cp:kC v g)(al:c1 s)(ab:s.view=v)(q:kD v g s){m:c0}(aA:eJ s.view m=true)(hk:m.kind=3)(f:qF v g m):p4 v g s (kS s m):=by
 unfold kS;cases ac: !decide (s.phase=1)|| !decide (m.aD=s.aD)
 ·simp only[iK,l3,fr]at ac;have lg:=abI al aA hk ac.1;have Br:kD v g {s with bw:=(fJ s.view s.bw ⟨m.src,m.cT,m.cut⟩).1}:=⟨q.jc,q.dP.box,λp x ah=>by
   rcases EH ah with rfl|ah
   ·have:=f.hR hk
    grind
   ·exact q.dP.bw p x ah,q.dP.rA,q.dP.p3,q.dP.c4,q.dP.aQ,q.dP.dec,q.dP.prop⟩
  obtain⟨dV,h1,ad,aN,bt,_⟩:=abH cp lg ab Br;have ae:=(EK lg).2.2.2.1;generalize gC {s with bw:=(fJ s.view s.bw ⟨m.src,m.cT,m.cut⟩).1}=T at *;refine⟨dV,h1,ad,aN,bt,λp an=> ?_⟩;simp only[bs]at an;cases aj:decide (T.phase=2)
  ·grind
  ·rw[aj]at an;simp only[bY,eX]at an;subst an;exact⟨λk=>by
    have k: (4:Int)=1:=k;omega,λk=>by
    have k: (4:Int)=3:=k;omega,λ_=>bt.dP.c4 (fi aj),λk=>by
    have k: (4:Int)=6:=k;omega⟩
 ·exact rB cp q s5
theorem anE{s:bj}(cp:kC v g)(al:c1 s)(q:kD v g s){m:c0}(aA:eJ s.view m=true)(hk:m.kind=4)(f:qF v g m):p4 v g s (lX s m):=by
 have Ta:=f.hL (.inl hk);have fx:=rr (nL ((pl aA).2.2.2.1 hk).1).1;have dj:=MD q.dP (r:=⟨m.src,m.aD,m.cut⟩) Ta;unfold lX;cases bb: (jb s.aP m.aD m.cut).2
 ·exact rB cp ⟨q.jc,dj⟩ s5
 ·obtain⟨_,hle,_,e,_⟩:=Mm al.aP bb;rw[e];obtain⟨i2,s2⟩:=abx (a:=s.self) (r:=m.aD) (c:=m.cut) cp (by
   rw[q.jc.cg];omega) (cp.cP _ _ _ Ta).1
  have dM:=MC s2.ext (λ_ _ h=>h) (λp=>(B8 al (.inl p)).2.2.1) q.dP;have gJ:=MD dM (r:=⟨m.src,m.aD,m.cut⟩) (s2.ext.a _ _ _ Ta);have eG:=MD gJ (r:=⟨s.self,m.aD,m.cut⟩) (.inr ⟨rfl,rfl,rfl⟩);refine⟨_,i2,s2,λ_ h=>h,⟨abE q.jc (by omega) (xc (S8 al.aP) hle),⟨eG.box,eG.bw,eG.rA,eG.p3,eG.c4,eG.aQ,eG.dec,eG.prop⟩⟩,λp an=> ?_⟩;simp only[bY,eX]at an;subst an;exact⟨λk=>by
   have k: (5:Int)=1:=k;omega,λk=>by
   have k: (5:Int)=3:=k;omega,λ_=>.inr ⟨rfl,rfl,rfl⟩,λk=>by
   have k: (5:Int)=6:=k;omega⟩
theorem anF{s:bj}(cp:kC v g)(al:c1 s)(ab:s.view=v)(q:kD v g s){m:c0}(aA:eJ s.view m=true)(f:qF v g m):p4 v g s (e0 s m):=by
 unfold e0;rcases zK aA with hk|hk|hk|hk|hk|hk
 ·rw[b6 hk];exact anB cp al q f hk
 ·rw[bo (by omega),b6 hk];exact anC cp al q aA hk
 ·rw[bo (by omega),bo (by omega),b6 hk];exact anD cp al ab q aA hk f
 ·rw[bo (by omega),bo (by omega),bo (by omega),b6 hk];exact anE cp al q aA hk f
 ·rw[bo (by omega),bo (by omega),bo (by omega),bo (by omega),b6 hk];exact rB cp ⟨q.jc,MD q.dP (r:=⟨m.src,m.aD,m.cut⟩) (f.hL (.inr hk))⟩ s5
 ·rw[bo (by omega),bo (by omega),bo (by omega),bo (by omega),bo (by omega)];refine rB cp ⟨q.jc,q.dP.box,q.dP.bw,q.dP.rA,q.dP.p3,q.dP.c4,q.dP.aQ,λ_=>f.qG hk,q.dP.prop⟩ (λp an=> ?_);rw[eX.1 an];exact⟨λk=>by
   have k: (6:Int)=1:=k;omega,λk=>by
   have k: (6:Int)=3:=k;omega,λk=>by
   have k: (6:Int)=4\/(6:Int)=5:=k;omega,λ_=>f.qG hk⟩
theorem abJ{s:bj}{da:Int}{c:List Int}(aa:uh v g c):qF v g (eF s da 6 0 0 c).m:=
 ⟨λk=>by
  have k: (6:Int)=1:=k;omega,λk=>by
  have k: (6:Int)=3:=k;omega,λk=>by
  have k: (6:Int)=4\/(6:Int)=5:=k;omega,λ_=>aa⟩
theorem MF{s:bj}(cp:kC v g)(al:c1 s)(az:fX s)(ab:s.view=v)(q:kD v g s){m:c0}(aA:eJ v m=true)(ae:m.src≠s.self)(f:qF v g m): (dB s m).2.2=0/\p4 v g s ((dB s m).1,(dB s m).2.1):=by
 have ac:fE s=true:=(rv s).2 ⟨al,az⟩;have tU:eJ s.view m=true:=by grind
 unfold dB;rw[bo (by grind),bo (by rw[ep (kB tU).2];simp),bo (by grind)];by_cases b5:decide (0<(s.dec.length:Int))=true
 ·rw[b6 b5];refine⟨rfl,rB cp q (λp an=> ?_)⟩;cases hk:decide (m.kind=6)
  ·simp only[hk,bs,eX]at an;subst an;exact abJ (q.dP.dec (ru.1 b5))
  grind
 ·rw[bo b5];refine⟨rfl,ME (x:=e0 s m) ?_ ?_ (anF cp al ab q tU f)⟩
  ·rw[(SR al az tU ae).2.2.1];exact ab
  ·exact(SR al az tU ae).1
theorem Tb(h:jt r=true):r<1073741824:=by
 unfold jt h7 at h
 grind
theorem anG{p:Int}(ao:0<=r/\r<1073741824)(an:0<=p/\p<1073741824):∃M,IntKind.i64.wrap ((if IntKind.i64.wrap (r.tdiv 1024)<IntKind.i64.wrap (p.tdiv 1024)then IntKind.i64.wrap (p.tdiv 1024)else IntKind.i64.wrap (r.tdiv 1024))+1)=M+1/\r/1024<=M/\p/1024<=M:=by
 have aC:IntKind.i64.wrap (p.tdiv 1024)=p/1024:=by
  rw[Vy an.1];exact dW (by omega) (by omega)
 have aG:IntKind.i64.wrap (r.tdiv 1024)=r/1024:=by
  rw[Vy ao.1];exact dW (by omega) (by omega)
 rw[aC,aG];by_cases h:r/1024<p/1024
 ·rw[b6 h,dW (by omega) (by omega)];exact⟨_,rfl,by omega,by omega⟩
 ·rw[bo h,dW (by omega) (by omega)]
  simp_all
theorem anH(h:c1 s)(aW:iC s≠0):s.aD<iC s/\s.aP.cg<iC s:=by
 have anI:0<=s.aP.cg/\s.aP.cg<1073741824:=by
  by_cases aR:s.aP.cg=0
  ·omega
  ·have:=Tb (nL (h.cg aR)).1;have:=rr (nL (h.cg aR)).1;omega
 have RD:0<=s.aD/\s.aD<1073741824:=by
  by_cases aR:s.aD=0
  ·omega
  ·have:=Tb (nL (h.aD aR).1).1;have:=rr (nL (h.aD aR).1).1;omega
 obtain⟨M,e,h1,ad⟩:=anG RD anI;unfold iC at aW⊢;rw[e]at aW⊢;obtain⟨_,_,aN,_,b5,_⟩:=SS aW;omega
theorem anJ{s:bj}(cp:kC v g)(al:c1 s)(ab:s.view=v)(an:s.prop≠ [])(q:kD v g s):p4 v g s (np s,[]):=by
 rcases SU al with e| ⟨h1,ad,aN,e⟩
 ·rw[e];exact rB cp q s5
 ·rw[e];have fx:=rr (nL h1).1;have vb:=(anH al (by omega)).1;obtain⟨i1,s1⟩:=abw (a:=s.self) (r:=iC s) cp (by
   rw[q.jc.cg];exact aN)
  have Br:kD v (B6 g s.self (iC s)) (EN s):=by
   refine⟨abD q.jc,λb ac=>s1.ext.v _ _ (q.dP.box b ac),λ_ x ah=> ?_,λ_ c x=> ?_,λr c x o=> ?_,(λp=>by
    have p: (1:Int)=2:=p;omega),λx ah=>s1.ext.a _ _ _ (q.dP.aQ x ah),λp=>B5 s1.ext (q.dP.dec p),λp=>s1.ext.p _ (q.dP.prop p)⟩
   ·rcases eX.1 ah with rfl;exact abF q.jc al.aP aN
   ·have:iC s<=s.aD:=q.dP.p3 _ _ x ad;omega
   ·have:=q.dP.p3 _ _ x o;show r<=iC s;omega
  obtain⟨dV,bt,b5,eN,iV,AX⟩:=abH i1 (Mu al an h1 ad aN) ab Br;exact⟨dV,bt,H5 s1 b5,λc x=>eN c x,iV,AX⟩
theorem abK{s:bj}{w:Int}(q:kD v g s):kD v g {s with cG:=w}:=⟨q.jc,q.dP.box,q.dP.bw,q.dP.rA,q.dP.p3,q.dP.c4,q.dP.aQ,q.dP.dec,q.dP.prop⟩
theorem anK{s:bj}(cp:kC v g)(al:c1 s)(ab:s.view=v)(q:kD v g s):p4 v g s (gO s,[]):=by
 have hw:=SV al;have h1:=Mv al hw.1 hw.2;unfold gO;by_cases eN:decide (0<(s.prop.length:Int))=true
 ·rw[b6 eN];by_cases iV:r8 s=true
  ·rw[b6 iV];exact anJ cp h1 ab (ru.1 eN) (abK q)
  ·rw[bo iV];exact rB cp (abK q) s5
 ·rw[bo eN];exact rB cp q s5
theorem anL{s:bj}(q:kD v g s):∀p∈hA s,qF v g p.m:=by
 intro p an;unfold hA at an;rw[eo,eo]at an;rcases an with(an|an)|an
 ·unfold yd at an;cases aj: (hY s.box s.self).2
  ·grind
  ·rw[aj]at an;simp only[bY,eX]at an;subst an;obtain⟨b,ac,aA,he⟩:=Mr aj;have ed:=q.dP.box b ac;rw[aA,he]at ed;exact⟨λ_=>ed,λk=>by
    have k: (1:Int)=3:=k;omega,λk=>by
    have k: (1:Int)=4\/(1:Int)=5:=k;omega,λk=>by
    have k: (1:Int)=6:=k;omega⟩
 ·unfold vy at an;cases h1:decide (s.phase=1)
  ·cases ad:decide (s.phase=2)
   ·grind
   ·rw[h1,ad]at an;simp only[bY,bs,eX]at an;subst an;have ad:=fi ad;exact⟨λk=>by
     have k: (4:Int)=1:=k;omega,λk=>by
     have k: (4:Int)=3:=k;omega,λ_=>q.dP.c4 ad,λk=>by
     have k: (4:Int)=6:=k;omega⟩
  ·rw[h1]at an;simp only[bY,eX]at an;subst an;exact⟨λk=>by
    have k: (2:Int)=1:=k;omega,λk=>by
    have k: (2:Int)=3:=k;omega,λk=>by
    have k: (2:Int)=4\/(2:Int)=5:=k;omega,λk=>by
    have k: (2:Int)=6:=k;omega⟩
 ·unfold ye at an;cases ac:decide (0<=eS s.aQ s.self)&& !decide (s.phase=2)
  ·grind
  ·rw[ac]at an;simp only[bY,eX]at an;subst an;have aR:=((cq ..).mp ac).1;obtain⟨_,hk⟩:=zJ aR;have iO:=SC aR;have aA:s.aQ.getD (eS s.aQ s.self).toNat dA∈s.aQ:=by grind
   generalize s.aQ.getD (eS s.aQ s.self).toNat dA=r at *;have bb:=q.dP.aQ r aA;rw[iO]at bb;exact⟨λk=>by
    have k: (5:Int)=1:=k;omega,λk=>by
    have k: (5:Int)=3:=k;omega,λ_=>bb,λk=>by
    have k: (5:Int)=6:=k;omega⟩
theorem anM{s:bj}(cp:kC v g)(al:c1 s)(az:fX s)(ab:s.view=v)(q:kD v g s):p4 v g s (cQ s):=by
 have ac:fE s=true:=(rv s).2 ⟨al,az⟩;unfold cQ;rw[bo (by grind)];by_cases b5:decide (0<(s.dec.length:Int))=true
 ·rw[b6 b5];refine rB cp q (λp an=> ?_);rw[eX.1 an];exact abJ (q.dP.dec (ru.1 b5))
 ·rw[bo b5];obtain⟨cP,_,a3,_⟩:=SX al az;obtain⟨dV,h1,ad,aN,bt,_⟩:=anK cp al ab q;exact ME (x:=(gO s,hA (gO s))) (a3.trans ab) cP ⟨dV,h1,ad,aN,bt,anL bt⟩
theorem anN{s:bj}(cp:kC v g)(al:c1 s)(az:fX s)(ab:s.view=v)(q:kD v g s){cut:List Int}(cw: (eK s cut).2.2=0):p4 v (H7 g cut) s ((eK s cut).1,(eK s cut).2.1):=by
 obtain⟨kE,fq⟩:=aby (c:=cut) cp s.self;have qH:kD v (H7 g cut) s:=⟨⟨q.jc.cg,q.jc.neg,q.jc.zero,q.jc.pos,q.jc.ry⟩,MC fq.ext (λ_ _ h=>h) (λp=>(B8 al (.inl p)).2.2.1) q.dP⟩
 obtain⟨an,aa,aj,ug⟩:=Mw al az cw;have aW:=SY al an;rcases ug with⟨_,ff,fB,ac,e⟩| ⟨_,e⟩
 ·rw[e];obtain⟨i1,s1⟩:=anr (a:=s.self) (c:=cut) kE (by
   rw[qH.jc.cg];omega) (qH.jc.neg fB) (.inr rfl)
  have dj:=MC s1.ext (λ_ _ h=>h) (λp=>(B8 al (.inl p)).2.2.1) qH.dP;have aR:s.phase=0/\s.bw=[]/\s.c4=[]:=by
   rcases al.h9 with aR|aR;all_goals grind
  have lg:c1 {s with prop:=cut,cG:=0,aP:=⟨0,0,cut⟩,box:=iB s.box ⟨s.self,cut⟩}:=⟨al.v,al.self,lk _,(by simp),(x9 _).2 ⟨.inl rfl,lk _,.inr ⟨.inl rfl,by simp,yf (fi aj)⟩⟩,(λe=>absurd rfl e),(λe=>absurd e (FH _)),n5.2 (.inr aj),n5.2 (.inr aj),al.c4,al.dec,ac,(B3 al.v ac).2 (λb hf he=>by
   rcases zE hf with rfl|hf;all_goals grind),al.bw,al.rs,al.aQ,al.n8,al.aD,.inl aR⟩
  refine ME (x:=({s with prop:=cut,cG:=0,aP:=⟨0,0,cut⟩,box:=iB s.box ⟨s.self,cut⟩},[eF s 0 1 0 0 cut])) ab lg ⟨_,i1,s1,λ_ h=>h,⟨anw qH.jc ff fB,⟨λb hf=> ?_,dj.bw,dj.rA,dj.p3,dj.c4,dj.aQ,dj.dec,λ_=>.inr rfl⟩⟩,λp iQ=> ?_⟩
  ·rcases zE hf with rfl|hf
   ·exact .inr ⟨rfl,rfl⟩
   ·exact dj.box b hf
  ·rw[eX.1 iQ];exact⟨λ_=>.inr ⟨rfl,rfl⟩,λk=>by
    have k: (1:Int)=3:=k;omega,λk=>by
    have k: (1:Int)=4\/(1:Int)=5:=k;omega,λk=>by
    have k: (1:Int)=6:=k;omega⟩
 ·rw[e];have aR:s.phase=0/\s.bw=[]/\s.c4=[]:=by
   rcases al.h9 with aR|aR;all_goals grind
  have lg:c1 {s with prop:=cut,cG:=0}:=⟨al.v,al.self,lk _,(by simp),al.aP,al.cg,al.iq,al.gY,n5.2 (.inr aj),al.c4,al.dec,al.box,(B3 al.v al.box).2 (λb hf he=>absurd he (aW b hf)),al.bw,al.rs,al.aQ,al.n8,al.aD,.inl aR⟩
  exact ME (x:=({s with prop:=cut,cG:=0},[])) ab lg (rB kE ⟨qH.jc,⟨qH.dP.box,qH.dP.bw,qH.dP.rA,qH.dP.p3,qH.dP.c4,qH.dP.aQ,qH.dP.dec,λ_=>.inr rfl⟩⟩ s5)
theorem MG(l cO:List Int)(an:cO.Perm l)(ae:cO.Pairwise λx y=>x<=y)(hlen:l.length<4611686018427387904):cm Tryz.prog 101 [.row 3 1 (l.map aM)] [.own 0] [true] [.row 3 1 (cO.map aM)] (.bd []):=
 ajb Tryz.pV rfl (enters_of Tryz.func101 (by rfl) rfl) l cO an ae hlen
theorem MH(l:List Int)(hlen:l.length<=9223372036854775807):cm Tryz.prog 102 [.row 3 1 (l.map aM)] [.own 0] [false] [.row 3 1 ((Go.Lib.compact l).map aM)] (.own 0):=
 ajd Tryz.n1 rfl (enters_of Tryz.func102 (by rfl) rfl) l hlen
def pV(l:List Int):List Int:=l.mergeSort λx y=>decide (x<=y)
theorem w1(l:List Int): (pV l).Perm l:=OA _ _
theorem EU(l:List Int): (pV l).Pairwise λx y=>x<=y:=by
 have h1:=OC (le:=λx y:Int=>decide (x<=y)) (λa b c h1 ad=>by grind) (λa b=>by grind) l;exact h1.imp λh=>by grind
def kd(l:List Int):List Int:=Go.Lib.compact (pV l)
theorem anO(l:List Int): (kd l).Pairwise λx y=>x<y:=(Y6 (EU l)).1
theorem H9{l:List Int}{x:Int}:x∈kd l↔x∈l:=((Y6 (EU l)).2 x).trans (w1 l).mem_iff
theorem B9(l:List Int): (kd l).length<=l.length:=by
 have h1:=Y4 (pV l);have ad:=(w1 l).length_eq;unfold kd;omega
theorem Ca{a b:List Int}(bb:a.Pairwise λx y=>x<y)(ac:b.Pairwise λx y=>x<y)(h:∀x,x∈a↔x∈b):a=b:=by
 have anP:a.Nodup:=bb.imp λ{x y} abC he=>by omega
 have anQ:b.Nodup:=ac.imp λ{x y} abC he=>by omega
 have an:a.Perm b:=(List.perm_ext_iff_of_nodup anP anQ).2 h;exact an.eq_of_pairwise (le:=λx y=>x<y) (λx y _ _ h1 ad=>by omega) bb ac
theorem anR(l:List bU)(af:l.length<=1000000):bl Tryz.prog 238 [.ar 4 (l.map eA) false] (.ar 1 ((kd (l.map (·.bI))).map aM) false):=by
 have Ia:∀n,n<=2000000->kp ag 3 n:=λn h=>by
  have e: (aF ag 3).bytes=8:=by rfl
  refine⟨?_,?_⟩
  ·grind
  ·simp only[maxLen];omega
 have m1:=MG (l.map (·.bI)) (pV (l.map (·.bI))) (w1 _) (EU _) (by grind);have m2:=MH (pV (l.map (·.bI))) (by rw[(w1 _).length_eq,bF];omega);refine b9 (fn:=Tryz.f238) (c:=Tryz.f238.body.getD .skip) aA ay (by rfl) Tryz.func238 (by rfl) (by rfl) (by rfl) (by rfl) ?_;repeat' ((conv=>whnf);first|refine be ?_|fail)
 all_goals(conv=>whnf)
 refine⟨Nat,λi=>⟨[(3,.own 0),(6,.ar 4 (l.map eA) false),(7,i64 l.length),(8,i64 i)],[.row 3 1 (((l.take i).map (·.bI)).map aM)]⟩,λi=>i<=l.length,λi=>l.length-i,[.ho 3 3 1],⟨0,bX _,?_⟩,?_⟩
 ·conv=>whnf
  exact⟨⟨.r,.r,aX (by simp),.r,ai⟩,⟨.r,ai⟩,by rfl⟩
 ·intro i hi;repeat' ((conv=>whnf);first| (apply bh<;>intro h)|fail)
  ·have ax:i<l.length:=by grind
   clear h;repeat' ((conv=>whnf);first|refine⟨_,_,aO ⟨rfl,c3 ax⟩ ?_⟩|refine aO (Ia _ (by simp<;>omega)) ?_|fail)
   all_goals(conv=>whnf)
   refine⟨i+1,ax,by grind,?_⟩;conv=>whnf
   refine⟨⟨.r,.r,.r,aX (bW (by omega)),ai⟩,⟨cK ?_,ai⟩,by rfl⟩;rw[e4 ax,ef,ef];rfl
  ·have:i=l.length:=by
    grind
   subst this;rw[fU];repeat' ((conv=>whnf);first|exact .refl|refine .inr ⟨[0],bS m1 ?_⟩|refine .inr ⟨[0],bS m2 ?_⟩|fail)
def jd(S:List bU)(x:Int):Nat:=zA S x S.length
theorem anS(S:List bU)(x:Int):jd S x<=S.length:=Z4 S x S.length
theorem Tc(S:List bU)(x:Int):jd S x=S.countP λa=>decide (a.bI=x):=by rw[jd,zA,fU]
def s6(S:List bU)(x r:Int):Bool:=S.any λa=>decide (a.bI=x)&&decide (a.ev=r)
def EV(S:List bU)(R:List Int)(x:Int)(r:Nat):Bool:= !s6 S x (r:Nat)&&decide (2<=jd S (R.getD r 0))
def vz(S:List bU)(R:List Int)(x:Int)(i:Nat):Nat:=(List.range i).countP (EV S R x)
theorem anT(S:List bU)(R:List Int)(x:Int)(i:Nat):vz S R x (i+1)=vz S R x i+if EV S R x i=true then 1 else 0:=by
 unfold vz;rw[Av,On,Oo,Ot];simp
theorem abL(S:List bU)(R:List Int)(x:Int)(i:Nat):vz S R x i<=i:=bQ Oq (by simp)
theorem anU(v:aK)(ab:v.mem.length<=maxLen)(S:List bU)(af:S.length<=1000000)(x:Int):bl Tryz.prog 240 [.agg (cc v),.ar 4 (S.map eA) false,i64 x] (i64 (vz S (cv v.mem x) x (cv v.mem x).length:Nat)):=by
 have aC:=LH v.mem ab x;have b5:=zu v.mem x;have cF:=anT S;have hle:=abL S;generalize cv v.mem x=R at *;refine b9 (fn:=Tryz.f240) (c:=Tryz.f240.body.getD .skip) aA ay (by rfl) Tryz.func240 (by rfl) (by rfl) (by rfl) (by rfl) ?_;repeat' ((conv=>whnf);first|refine aS aC ?_|fail)
 all_goals(conv=>whnf)
 refine⟨Nat,λi=>⟨[(1,.ar 4 (S.map eA) false),(2,i64 x),(7,i64 (vz S R x i:Nat)),(15,.ar 1 (R.map aM) false),(16,i64 R.length),(17,i64 i)],[.cells 24 (cc v)]⟩,λi=>i<=R.length,λi=>R.length-i,[],⟨0,bX _,?_⟩,?_⟩
 ·conv=>whnf
  exact⟨⟨.r,.r,.r,.r,aX (by simp),.r,ai⟩,⟨.r,ai⟩,by rfl⟩
 ·intro i hi;repeat' ((conv=>whnf);first| (apply bh<;>intro h)|fail)
  ·have ax:i<R.length:=by grind
   clear h;have ae:=cF R x i;have qy:=hle R x i;have aw:R.getD i 0=R[i]:=by grind
   repeat' ((conv=>whnf);first|refine⟨_,_,aO ⟨rfl,c3 ax⟩ ?_⟩|fail)
   all_goals(conv=>whnf)
   refine⟨Nat,λj=>⟨[(1,.ar 4 (S.map eA) false),(2,i64 x),(7,i64 (vz S R x i:Nat)),(8,i64 i),(9,i64 R[i]),(15,.ar 1 (R.map aM) false),(16,i64 R.length),(17,i64 i),(22,.ar 4 (S.map eA) false),(23,i64 S.length),(24,i64 j)],[.cells 24 (cc v)]⟩,λj=>j<=S.length/\((S.take j).any λa=>decide (a.bI=x)&&decide (a.ev=(i:Nat)))=false,λj=>S.length-j,[],⟨0,⟨bX _,by simp⟩,?_⟩,?_⟩
   ·conv=>whnf
    exact⟨⟨.r,.r,.r,.r,.r,.r,aX (by simp),.r,.r,aX (by simp),.r,ai⟩,⟨.r,ai⟩,by rfl⟩
   ·intro j ⟨aq,j6⟩;repeat' ((conv=>whnf);first| (apply bh<;>intro h)|fail)
    ·have gT:j<S.length:=by grind
     clear h;repeat' ((conv=>whnf);first|refine be ?_| (apply bh<;>intro h)|refine dr ?_|refine⟨_,_,aO ⟨rfl,c3 gT⟩ ?_⟩|fail)
     all_goals(conv=>whnf)
     ·have anV:s6 S x (i:Nat)=true:=by
       unfold s6
       grind
      have ac:EV S R x i=false:=by
       unfold EV
       grind
      rw[ac,bo (by simp),xh]at ae;refine⟨i+1,ax,by grind,?_⟩;conv=>whnf
      exact⟨⟨.r,.r,aX (by omega),.r,.r,aX (bW (by omega)),ai⟩,⟨.r,ai⟩,by rfl⟩
     ·refine⟨j+1,⟨gT,?_⟩,by grind,?_⟩
      ·rw[e4 gT,List.any_append,j6,CX]
       grind
      ·conv=>whnf
       exact⟨⟨.r,.r,.r,.r,.r,.r,.r,.r,.r,.r,aX (bW (by omega)),ai⟩,⟨.r,ai⟩,by rfl⟩
    ·have:j=S.length:=by
      grind
     subst this;clear h;rw[fU]at j6;have anV:s6 S x (i:Nat)=false:=j6;have ac:EV S R x i=decide (2<=jd S R[i]):=by
      unfold EV
      grind
     have iM:=Z5 S af R[i];change bl _ _ _ (i64 (jd S R[i]:Nat))at iM;repeat' ((conv=>whnf);first| (apply bh<;>intro h)|refine aS iM ?_|fail)
     all_goals(conv=>whnf)
     ·rw[ac,b6 (ep (by grind))]at ae;refine⟨i+1,ax,by grind,?_⟩;conv=>whnf
      refine⟨⟨.r,.r,aX ?_,.r,.r,aX (bW (by omega)),ai⟩,⟨.r,ai⟩,by rfl⟩;rw[ae,dW (by omega) (by omega)];omega
     ·rw[ac,bo (by
       grind),xh]at ae
      refine⟨i+1,ax,by grind,?_⟩;conv=>whnf
      exact⟨⟨.r,.r,aX (by omega),.r,.r,aX (bW (by omega)),ai⟩,⟨.r,ai⟩,by rfl⟩
  ·have:i=R.length:=by
    grind
   subst this;repeat' ((conv=>whnf);first|exact .refl|fail)
structure MI where
 bI:Int
 uj:Nat
 imp:Nat
def Td(t:MI):List ak:=[i64 t.bI,i64 t.uj,i64 t.imp]
def uk(v:aK)(S:List bU)(x:Int):MI:=⟨x,jd S x,if 2<=jd S x then vz S (cv v.mem x) x (cv v.mem x).length else 0⟩
def ul(v:aK)(S:List bU):List MI:=bif !dF v S then []else(kd (S.map (·.bI))).map (uk v S)
theorem anW(h:n<=2000000):kp ag 267 n:=by
 have e: (aF ag 267).bytes=24:=by rfl
 refine⟨?_,?_⟩
 ·grind
 ·simp only[maxLen];omega
theorem anX{S:List bU}{x:Int}(h:¬2<=jd S x):uk v S x= ⟨x,jd S x,0⟩:=by
 unfold uk
 grind
theorem abM{S:List bU}{x:Int}(h:2<=jd S x):uk v S x= ⟨x,jd S x,vz S (cv v.mem x) x (cv v.mem x).length⟩:=by
 unfold uk
 grind
theorem anY(v:aK)(ab:v.mem.length<=maxLen)(S:List bU)(af:S.length<=1000000):bl Tryz.prog 221 [.agg (cc v),.ar 4 (S.map eA) false] (.ar 3 ((ul v S).map Td) false):=by
 have aC:=Ex v ab S (by simp only[maxLen];omega);have aG:=anR S af;have zS:=B9 (S.map (·.bI));rw[bF]at zS;have aa:ul v S=bif !dF v S then []else(kd (S.map (·.bI))).map (uk v S):=rfl;have o3:=λx h=>anX (v:=v) (S:=S) (x:=x) h;have qp:=λx h=>abM (v:=v) (S:=S) (x:=x) h;have qo:=anU v ab S af;generalize uk v S=anZ at *;generalize kd (S.map (·.bI))=X at *;generalize ul v S=res at *;generalize dF v S=avO at *;refine b9 (fn:=Tryz.f221) (c:=Tryz.f221.body.getD .skip) aA ay (by rfl) Tryz.func221 (by rfl) (by rfl) (by rfl) (by rfl) ?_;repeat' ((conv=>whnf);first| (apply bh<;>intro h)|refine aS aC ?_|refine aS aG ?_|fail)
 all_goals(conv=>whnf)
 ·rw[aa,h];exact .av
 ·rw[h,bs]at aa;clear h;subst aa;refine⟨Nat,λi=>⟨[(1,.ar 4 (S.map eA) false),(2,.aV 0 0),(5,.own 1),(14,.ar 1 (X.map aM) false),(15,i64 X.length),(16,i64 i)],[.cells 24 (cc v),.row 267 3 (((X.take i).map anZ).map Td)]⟩,λi=>i<=X.length,λi=>X.length-i,[.ho 5 267 3],⟨0,bX _,?_⟩,?_⟩
  ·conv=>whnf
   exact⟨⟨.r,.r,.r,.r,aX (by simp),.r,ai⟩,⟨.r,.r,ai⟩,by rfl⟩
  ·intro i hi;repeat' ((conv=>whnf);first| (apply bh<;>intro h)|fail)
   ·have ax:i<X.length:=by grind
    clear h;have iM:=Z5 S af X[i];have qo:=qo X[i];have o3:=o3 X[i];have qp:=qp X[i];change bl _ _ _ (i64 (jd S X[i]:Nat))at iM;generalize vz S (cv v.mem X[i]) X[i] (cv v.mem X[i]).length=avP at *;generalize jd S X[i]=avQ at *;repeat' ((conv=>whnf);first| (apply bh<;>intro h)|refine⟨_,_,aO ⟨rfl,c3 ax⟩ ?_⟩|refine aS iM ?_|refine aS qo ?_|refine aO (anW (by simp<;>omega)) ?_|fail)
    all_goals(conv=>whnf)
    all_goals refine⟨i+1,ax,by simp only[];omega,?_⟩
    all_goals(conv=>whnf)
    all_goals refine⟨⟨.r,.r,.r,.r,.r,aX (bW (by omega)),ai⟩,⟨.r,cK ?_,ai⟩,by rfl⟩
    all_goals rw[e4 ax,ef,ef,List.map_singleton,List.map_singleton]
    ·rw[qp (by grind)];rfl
    ·rw[o3 (by grind)];rfl
   ·have:i=X.length:=by
     grind
    subst this;rw[fU];repeat' ((conv=>whnf);first|exact .refl|fail)
def sb(b:Bool)(t:MI):Bool:=decide (2<=t.uj)&& (decide (4<=t.uj+t.imp)==b)
def ex(v:aK)(S:List bU)(b:Bool):List Int:=((ul v S).filter (sb b)).map (·.bI)
theorem abN(v:aK)(S:List bU): (ul v S).length<=S.length/\∀t∈ul v S,t.uj<=S.length/\t.imp<=5:=by
 unfold ul;cases !dF v S
 ·rw[bs];have zS:=B9 (S.map (·.bI));rw[bF]at zS;refine⟨by grind,λt cH=> ?_⟩;obtain⟨x,_,rfl⟩:=fT.1 cH;unfold uk;refine⟨anS S x,?_⟩;split
  ·exact bQ (abL ..) (zu v.mem x)
  simp
 simp
theorem abO(v:aK)(ab:v.mem.length<=maxLen)(S:List bU)(af:S.length<=1000000)(b:Bool):bl Tryz.prog 184 [.agg (cc v),.ar 4 (S.map eA) false,.v (.bool b)] (.ar 1 ((ex v S b).map aM) false):=by
 have aC:=anY v ab S af;obtain⟨nD,hf⟩:=abN v S;unfold ex;generalize ul v S=T at *;have Ia:∀n,n<=2000000->kp ag 3 n:=λn h=>by
  have e: (aF ag 3).bytes=8:=by rfl
  refine⟨?_,?_⟩
  ·grind
  ·simp only[maxLen];omega
 refine b9 (fn:=Tryz.f184) (c:=Tryz.f184.body.getD .skip) aA ay (by rfl) Tryz.func184 (by rfl) (by rfl) (by rfl) (by rfl) ?_;repeat' ((conv=>whnf);first|refine aS aC ?_|fail)
 all_goals(conv=>whnf)
 refine⟨Nat,λi=>⟨[(2,.v (.bool b)),(7,.own 1),(12,.ar 3 (T.map Td) false),(13,i64 T.length),(14,i64 i)],[.cells 24 (cc v),.row 3 1 ((((T.take i).filter (sb b)).map (·.bI)).map aM)]⟩,λi=>i<=T.length,λi=>T.length-i,[.ho 7 3 1],⟨0,bX _,?_⟩,?_⟩
 ·conv=>whnf
  exact⟨⟨.r,.r,.r,aX (by simp),.r,ai⟩,⟨.r,.r,ai⟩,by rfl⟩
 ·intro i hi;repeat' ((conv=>whnf);first| (apply bh<;>intro h)|fail)
  ·have ax:i<T.length:=by grind
   clear h;obtain⟨BQ,lS⟩:=hf T[i] (eM ax);have avR: ((T.take i).filter (sb b)).length<=i:=bQ (sq ..) (by grind);have ae: ((T.take (i+1)).filter (sb b)).map (·.bI)=((T.take i).filter (sb b)).map (·.bI)++bif sb b T[i]then [T[i].bI]else []:=by
    rw[e4 ax,nx,ef];cases ac:sb b T[i]<;>simp[ac]
   have Te:sb b T[i]=(decide (T[i].uj>= (2:Int))&&decide ((decide (IntKind.i64.wrap ((T[i].uj:Int)+(T[i].imp:Int))>=4))=b)):=by
    rw[dW (by omega) (by omega)];unfold sb;have h1:decide (2<=T[i].uj)=decide (((T[i].uj:Nat):Int)>= (2:Int)):=by
     grind
    have ad:decide (4<=T[i].uj+T[i].imp)=decide (((T[i].uj:Nat):Int)+((T[i].imp:Nat):Int)>=4):=by
     grind
    grind
   have avS: (((T.take i).filter (sb b)).map (·.bI)).length<=i:=by grind
   generalize((T.take i).filter (sb b)).map (·.bI)=MJ at *;generalize sb b T[i]=an0 at *;repeat' ((conv=>whnf);first|refine be ?_| (apply bh<;>intro h)|refine dr ?_|refine⟨_,_,aO ⟨rfl,c3 ax⟩ ?_⟩|refine aO (Ia _ (by simp<;>omega)) ?_|fail)
   all_goals(conv=>whnf)
   all_goals refine⟨i+1,ax,by simp only[];omega,?_⟩
   all_goals(conv=>whnf)
   all_goals refine⟨⟨.r,.r,.r,.r,aX (bW (by omega)),ai⟩,⟨.r,cK ?_,ai⟩,by rfl⟩
   ·rw[ae,Te.trans h,bY,ef];rfl
   grind
  ·have:i=T.length:=by
    grind
   subst this;rw[fU];repeat' ((conv=>whnf);first|exact .refl|fail)
theorem EW(v:aK)(ab:v.mem.length<=maxLen)(S:List bU)(af:S.length<=1000000):bl Tryz.prog 121 [.agg (cc v),.ar 4 (S.map eA) false] (.ar 1 ((ex v S false).map aM) false):=by
 have aC:=abO v ab S af false;refine b9 (fn:=Tryz.f121) (c:=Tryz.f121.body.getD .skip) aA ay (by rfl) Tryz.func121 (by rfl) (by rfl) (by rfl) (by rfl) ?_;repeat' ((conv=>whnf);first|exact .refl|refine aS aC ?_|fail)
theorem an1(v:aK)(ab:v.mem.length<=maxLen)(S:List bU)(af:S.length<=1000000):bl Tryz.prog 162 [.agg (cc v),.ar 4 (S.map eA) false] (.ar 1 ((ex v S true).map aM) false):=by
 have aC:=abO v ab S af true;refine b9 (fn:=Tryz.f162) (c:=Tryz.f162.body.getD .skip) aA ay (by rfl) Tryz.func162 (by rfl) (by rfl) (by rfl) (by rfl) ?_;repeat' ((conv=>whnf);first|exact .refl|refine aS aC ?_|fail)
end Go.Proofs.YtdcfooeoaoahjaaGreat
