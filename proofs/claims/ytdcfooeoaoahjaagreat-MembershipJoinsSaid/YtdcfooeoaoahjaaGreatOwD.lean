/- The laws of this seat, part OwD: contracts of the functions, plain laws. No conditions. -/
import Derived.Test.YtdcfooeoaoahjaaGreatOwC
set_option linter.unusedSimpArgs false
set_option linter.unusedVariables false
set_option maxRecDepth 100000
set_option maxHeartbeats 16000000
namespace Go.Proofs.YtdcfooeoaoahjaaGreat
open Go.Lift
theorem abZ(d:ju): (cO d).2.length<=d.bV.length:=by
 unfold cO;cases (!pN d)
 ·exact YQ d _
 simp
theorem ab0(s:Mem)(af: (eH s.agr (dl s.view s.als).1).2.1.length<=1000)(hv:s.view.mem.length<=16): (fa s).2.length<=16000:=by
 have h:=H7 {s with agr:=(eH s.agr (dl s.view s.als).1).1} hv (eH s.agr (dl s.view s.als).1).2.1;unfold fa;cases decide ((s.agr.prop.length:Int)=0)<;>cases (dl s.view s.als).2<;>cases decide ((eH s.agr (dl s.view s.als).1).2.2=0)<;>simp only[b6,bD,yq]<;>omega
theorem ab1(s:Mem)(h:ME s)(pb:decide (((bY s).agr.prop.length:Int)=0)=false\/(decide (((bY s).agr.prop.length:Int)=0)=true/\(dl (bY s).view (bY s).als).2=false)):cj Tryz.prog 56 (fh s []) [.aW 0 0] [true,false,false,false] (fh (pn s).1 (pn s).2) (.be []):=by
 obtain⟨dS,hF,Ih,S7,S8,S9,⟨eF,Ta⟩,Ii,⟨tu,BY⟩,jh,ab2⟩:=h;have hv:=k8 hF;have bx:s.view.mem≠ []:=λe=>by have:=(HO (lD hF).2.2).1;rw[e]at this;simp at this
 obtain⟨t1,t2,t3,t4,t5,t6⟩:=qA s;have aA:=QJ s.a7 (bT dS.sS (by decide)) (bT dS.bV (by decide)) dS.Me;have sy:=wQ {s with a7:=(cO s.a7).1} (cO s.a7).2;have B4:=sy (cO s.a7).2.length;have nL:j1 {s with a7:=(cO s.a7).1} (cO s.a7).2 0= {s with a7:=(cO s.a7).1}:=rfl;have uU:∀i,j1 {s with a7:=(cO s.a7).1} (cO s.a7).2 (i+1)=mO (j1 {s with a7:=(cO s.a7).1} (cO s.a7).2 i) ((cO s.a7).2.getD i gd):=λ_=>rfl;have Yk:=abZ s.a7;have bc:=abD (mu {s with a7:=(cO s.a7).1} (cO s.a7).2) (by unfold mu;rw[B4.1];exact dS.view) Ih (by unfold mu;rw[B4.2.2.2.1];exact dS.dbts) (by unfold mu;rw[B4.2.2.2.1];exact S7) [];have yb:mu {s with a7:=(cO s.a7).1} (cO s.a7).2=j1 {s with a7:=(cO s.a7).1} (cO s.a7).2 (cO s.a7).2.length:=rfl;change cj _ _ _ _ _ (fh (bY s) []) _ at bc;rw[yb]at bc;have Ij:pn s=bif (ej (iK (fa (bY s)).1).1).2 then((ej (iK (fa (bY s)).1).1).1,(fa (bY s)).2++(iK (fa (bY s)).1).2)
  else((ej (iK (fa (bY s)).1).1).1,(fa (bY s)).2++(iK (fa (bY s)).1).2++B3 (ej (iK (fa (bY s)).1).1).1):=rfl
 rw[Ij];clear Ij yb Ih;have apH:=dS.bV;generalize bY s=S3 at *;generalize j1 {s with a7:=(cO s.a7).1} (cO s.a7).2=X at *;generalize cO s.a7=oN at *;have lR:=Ig S3;have Tb:=ab0 S3 eF (by rw[t1];exact hv.2);generalize df:fa S3=P at *;obtain⟨S4,B5⟩:=P;simp only[]at lR Tb Ii tu BY jh;obtain⟨fl,ff,lX,oa,B6,Tc,MG⟩:=lR;have v4:S4.view=s.view:=fl.trans t1;have iI:=Z9 S4.agr Ii;have gi:iK S4=({S4 with agr:=(cN S4.agr).1},jP {S4 with agr:=(cN S4.agr).1} (cN S4.agr).2):=rfl;have apI:=H7 {S4 with agr:=(cN S4.agr).1} (by show S4.view.mem.length<=16;rw[v4];exact hv.2) (cN S4.agr).2;have mr:=Mt {S4 with agr:=(cN S4.agr).1} (by show S4.view.mem.length<=16;rw[v4];exact hv.2) (by show S4.view.mem≠ [];rw[v4];exact bx) (cN S4.agr).2 tu BY B5 (by omega);have qx:=SP {S4 with agr:=(cN S4.agr).1} (by show S4.view.mem.length<=1000;rw[v4];omega) (by show S4.hist.length<=1000;rw[lX,t3];exact dS.hist) jh (B5++jP {S4 with agr:=(cN S4.agr).1} (cN S4.agr).2);have uW:=λac=>SY (s:={S4 with agr:=(cN S4.agr).1}) ac;simp only[gi];simp only[gi]at mr qx uW;clear gi;generalize jP {S4 with agr:=(cN S4.agr).1} (cN S4.agr).2=Ik at *;generalize ej {S4 with agr:=(cN S4.agr).1}=W at *;generalize cN S4.agr=apJ at *;have MH:fa S3=(S3,[]):=by
  rcases pb with an| ⟨an,n0⟩
  ·rw[fa,an];rfl
  ·rw[fa,an,n0];rfl
 rw[MH]at df;cases df;have pb:decide (((S3.agr.prop.map aU).length:Int)=0)=false\/(decide (((S3.agr.prop.map aU).length:Int)=0)=true/\(dl S3.view S3.als).2=false):=by rw[bL];exact pb
 have oF:=Sg S3.view (by rw[t1];omega) S3.als (by omega);generalize dl S3.view S3.als=apK at *;refine mi Tryz.func56 ?_;repeat' ((conv=>whnf);first|refine aR aA ?_|fail)
 all_goals(conv=>whnf)
 refine⟨Nat,λi=>⟨[(0,.aW 0 0),(34,.av 4 (oN.2.map ey) false),(35,i64 oN.2.length),(36,i64 i)],[.cells 116 (iT (X i) (.own 1) (.own 2) (.own 3)),.row 22 1 (((X i)).hist.map c8),.row 150 2 (((X i)).dbts.map dR),.row 121 2 ((([]:List ei)).map gh),.cB [.aW 0 0,.own 1,.own 2,.own 3],.bn]⟩,λi=>i<=oN.2.length,λi=>oN.2.length-i,[],⟨0,bZ _,?_⟩,?_⟩
 ·conv=>whnf
  exact⟨⟨.r,.r,a8 (by simp),.r,aj⟩,⟨by show hz _ (.cells _ (iT (X 0) (.own 1) (.own 2) (.own 3)));rw[nL];exact .refl,by show hz _ (.row _ _ ((X 0).hist.map c8));rw[nL];exact .refl,by show hz _ (.row _ _ ((X 0).dbts.map dR));rw[nL];exact .refl,.r,.r,.bn,aj⟩,by rfl⟩
 ·intro i hi;obtain⟨cH,_,_,_,_,_,_,_,_,a2⟩:=sy i;simp only[]at cH a2;repeat' ((conv=>whnf);first| (apply bo<;>intro h)|fail)
  ·have aB:i<oN.2.length:=by simpa using h
   clear h;have aG:=SH (X i) (by rw[cH];exact dS.view) (by have:=dS.als;omega) [] oN.2[i];have ax:oN.2.getD i gd=oN.2[i]:=by simp[aB]
   have oA:=uU i;rw[ax]at oA;rw[<-oA]at aG;repeat' ((conv=>whnf);first|refine⟨_,_,aS ⟨rfl,du aB⟩ ?_⟩|refine .inr ⟨[0,1,2,3],bO aG ?_⟩|fail)
   all_goals(conv=>whnf)
   refine⟨i+1,aB,by simp only[];omega,?_⟩;conv=>whnf
   exact⟨⟨.r,.r,.r,a8 (ca (by omega)),aj⟩,⟨.r,.r,.r,.r,.r,.bn,aj⟩,by rfl⟩
  ·have:i=oN.2.length:=by
    simp at h;omega
   subst this;clear h;rcases pb with yL| ⟨yL,n0⟩;all_goals repeat' ((conv=>whnf);first|refine ht (by assumption) ?_|refine ft (by assumption) ?_| (apply bo<;>intro h)|refine ch ?_|refine .inr ⟨[0,1,2,3],bO bc ?_⟩|refine aR oF ?_|refine aR iI ?_|refine .inr ⟨[0,1,2,3],bO mr ?_⟩|refine .inr ⟨[0,1,2,3],bO qx ?_⟩|fail)
   all_goals(conv=>whnf)
   all_goals rw[h]
   all_goals first
    | (refine⟨[],?_⟩<;> (conv=>whnf)<;>exact⟨.r,⟨.r,.r,.r,.r,gV ⟨.r,.aY,.aY,.aY,aj⟩,aj⟩,by rfl⟩)
    |skip
   all_goals
    obtain⟨eL,hs,_,sW,vu,MI,_⟩:=uW h;have eL:W.1.view=s.view:=eL.trans v4;generalize W.1=S6 at *;clear aA iI mr qx sy nL uU;obtain⟨ie,lq,oM⟩:=lD hF;have i0: (bB S6.view.num.toNat).length<=10:=hP 9 _;have hu:=BL (n:=S6.view.num) (by rw[eL];exact ie) (by rw[eL];exact lq);have ue:=abW [] (by simp) S6.view.num.toNat (by rw[eL];omega);rw[nR]at ue;have EE:=Sq S6.view.mem (by rw[eL];exact bT hv.2 (by decide)) S6.self;have oC:=zg S6.view.mem S6.self;have u6: (kh (cQ S6.view.mem S6.self)).length<=5:=bT (BI _) oC;have al:kh (cQ S6.view.mem S6.self)=Go.Lib.compact (pK (cQ S6.view.mem S6.self)):=rfl;have Bm:B3 S6=(kh (cQ S6.view.mem S6.self)).map (kk S6.view.num)++bif decide (0<(S6.als.length:Int))then(pY S6).map (B0 S6)else []:=rfl;generalize cQ S6.view.mem S6.self=O at *;have BV:=L8 O (pK O) (wN _) (Ey _) (by omega);have fR:=L9 (pK O) (by rw[(wN _).length_eq];omega);rw[<-al]at fR;rw[Bm];clear Bm al;generalize kh O=C at *;generalize gP: (_++Ik)=Q at *;have apL:Q.length<=40000:=by rw[<-gP,fw]; (try simp only[yq]at *);omega
    repeat' ((conv=>whnf);first|refine ch ?_|refine .inr ⟨[],[],_,[],_,_,ue,by rfl,aj,⟨.ar,a8 hu,aj⟩,?_⟩|refine .inr ⟨[],bO EE ?_⟩|refine .inr ⟨[8],bO BV ?_⟩|refine .inr ⟨[9],bO BV ?_⟩|refine .inr ⟨[8],bO fR ?_⟩|refine .inr ⟨[9],bO fR ?_⟩|fail)
    all_goals(conv=>whnf)
    have Td:=λ(P:List ei) (df:P.length<=100000) (dd:Int)=>MF S6 P df dd 1 (by omega) (by omega) (bB S6.view.num.toNat) (by omega);first
     | (refine⟨Nat,λi=>⟨[(0,.aW 0 0),(13,.own 5),(132,.own 6),(133,i64 C.length),(134,i64 i)],[.cells 116 (iT S6 (.own 1) (.own 2) (.own 3)),.row 22 1 ((S6).hist.map c8),.row 150 2 ((S6).dbts.map dR),.row 121 2 ((Q++(C.take i).map (kk S6.view.num)).map gh),.cB [.aW 0 0,.aY,.aY,.aY],.row 5 1 ((bB S6.view.num.toNat).map bE),.row 3 1 (C.map aU)]⟩,λi=>i<=C.length,λi=>C.length-i,[.eT 5 7,.eT 6 8],⟨0,bZ _,?_⟩,?_⟩
        focus ((conv=>whnf)<;>exact⟨⟨.r,.r,.r,a8 (by simp),.r,aj⟩,⟨.r,.r,.r,cM (by simp[<-gP]),gV ⟨.r,.aY,.aY,.aY,aj⟩,.r,.r,aj⟩,by rfl⟩))
     | (refine⟨Nat,λi=>⟨[(0,.aW 0 0),(13,.own 5),(132,.own 6),(133,i64 C.length),(134,i64 i)],[.cells 116 (iT S6 (.own 1) (.own 2) (.own 3)),.row 22 1 ((S6).hist.map c8),.row 150 2 ((S6).dbts.map dR),.row 121 2 ((Q++(C.take i).map (kk S6.view.num)).map gh),.cB [.aW 0 0,.aY,.aY,.aY],.row 5 1 ((bB S6.view.num.toNat).map bE),.row 3 1 (C.map aU)]⟩,λi=>i<=C.length,λi=>C.length-i,[.eT 5 8,.eT 6 9],⟨0,bZ _,?_⟩,?_⟩
        focus ((conv=>whnf)<;>exact⟨⟨.r,.r,.r,a8 (by simp),.r,aj⟩,⟨.r,.r,.r,cM (by simp[<-gP]),gV ⟨.r,.aY,.aY,.aY,aj⟩,.r,.r,aj⟩,by rfl⟩))
     | (refine⟨Nat,λi=>⟨[(0,.aW 0 0),(13,.own 5),(132,.own 6),(133,i64 C.length),(134,i64 i)],[.cells 116 (iT S6 (.own 1) (.own 2) (.own 3)),.row 22 1 ((S6).hist.map c8),.row 150 2 ((S6).dbts.map dR),.row 121 2 ((Q++(C.take i).map (kk S6.view.num)).map gh),.cB [.aW 0 0,.aY,.aY,.aY],.row 5 1 ((bB S6.view.num.toNat).map bE),.row 3 1 (C.map aU)]⟩,λi=>i<=C.length,λi=>C.length-i,[.eT 5 9,.eT 6 10],⟨0,bZ _,?_⟩,?_⟩
        focus ((conv=>whnf)<;>exact⟨⟨.r,.r,.r,a8 (by simp),.r,aj⟩,⟨.r,.r,.r,cM (by simp[<-gP]),gV ⟨.r,.aY,.aY,.aY,aj⟩,.r,.r,aj⟩,by rfl⟩))
     | (refine⟨Nat,λi=>⟨[(0,.aW 0 0),(13,.own 5),(132,.own 6),(133,i64 C.length),(134,i64 i)],[.cells 116 (iT S6 (.own 1) (.own 2) (.own 3)),.row 22 1 ((S6).hist.map c8),.row 150 2 ((S6).dbts.map dR),.row 121 2 ((Q++(C.take i).map (kk S6.view.num)).map gh),.cB [.aW 0 0,.aY,.aY,.aY],.row 5 1 ((bB S6.view.num.toNat).map bE),.row 3 1 (C.map aU)]⟩,λi=>i<=C.length,λi=>C.length-i,[.eT 5 10,.eT 6 11],⟨0,bZ _,?_⟩,?_⟩
        focus ((conv=>whnf)<;>exact⟨⟨.r,.r,.r,a8 (by simp),.r,aj⟩,⟨.r,.r,.r,cM (by simp[<-gP]),gV ⟨.r,.aY,.aY,.aY,aj⟩,.r,.r,aj⟩,by rfl⟩))
    ·intro i hi;repeat' ((conv=>whnf);first| (apply bo<;>intro h)|fail)
     ·have aB:i<C.length:=by simpa using h
      clear h;have jy:=Td (Q++(C.take i).map (kk S6.view.num)) (by rw[fw,bL,mW];omega) C[i];have hx:Q++(C.take i).map (kk S6.view.num)++ [ei.mk C[i] (eu 1 (bB S6.view.num.toNat))]=Q++(C.take (i+1)).map (kk S6.view.num):=by
       rw[fA aB,ew,k1];rfl
      rw[hx]at jy;have gD:i<(C.map aU).length:=by rw[bL];exact aB
      have cL: (C.map aU)[i]?=some (aU C[i]):=du aB;repeat' ((conv=>whnf);first|refine⟨i,aS ⟨rfl,gD⟩ ?_⟩|refine⟨aU C[i],aS cL ?_⟩|refine .inr ⟨[0,1,2,3,5],bO jy ?_⟩|fail)
      all_goals(conv=>whnf)
      refine⟨i+1,aB,by simp only[];omega,?_⟩;conv=>whnf
      exact⟨⟨.r,.r,.r,.r,a8 (ca (by omega)),aj⟩,⟨.r,.r,.r,.r,.r,.r,.r,aj⟩,by rfl⟩
     ·rename_i aQ;have:i=C.length:=by
       simp at aQ;omega
      subst this;clear aQ;rw[gn];rw[bL]at h;rw[h];have Te:dG S6.view S6.als=true:=by rw[hs,oa,eL,<-t1];exact S9
      have jn:S6.als.length<=6000:=by rw[hs,oa];exact S8
      have rK:=SX (v:=S6.view) (l:=S6.als) S6.als.length;have Il:=Ze S6.view (by rw[eL];exact bT hv.2 (by decide)) S6.als (by omega);rw[abQ Te]at Il;have Tf:=SI S6 (by rw[eL];omega) (by rw[eL];exact bx) (Q++C.map (kk S6.view.num));have Tg: ((bB S6.view.num.toNat).map bE).length+((fH S6.als S6.als.length).map bE).length<=2000000:=by rw[bL,bL];omega
      have lo: (bB S6.view.num.toNat++fH S6.als S6.als.length).length<=800000:=by rw[fw];omega
      have En: (bB S6.view.num.toNat).map bE++(fH S6.als S6.als.length).map bE=(bB S6.view.num.toNat++fH S6.als S6.als.length).map bE:=by rw[ew]
      have yc:=λ(P:List ei) (df:P.length<=100000) (dd:Int)=>MF S6 P df dd 2 (by omega) (by omega) (bB S6.view.num.toNat++fH S6.als S6.als.length) lo;have Th:∀m:Int,ei.mk m (eu 2 (bB S6.view.num.toNat++fH S6.als S6.als.length))=B0 S6 m:=λ_=>rfl;have apM: (pY S6).length<=16:=Mr S6 (by rw[eL];exact hv.2);simp only[Th]at yc;have apN: (Q++C.map (kk S6.view.num)).length<=50000:=by rw[fw,bL];omega
      rw[<-k1];generalize Q++C.map (kk S6.view.num)=yd at *;generalize bB S6.view.num.toNat++fH S6.als S6.als.length=B2 at *;generalize B0 S6=F at *;generalize pY S6=Z at *;repeat' ((conv=>whnf);first|refine ch ?_|refine aR Il ?_|refine aS (rT Tg) ?_|refine .inr ⟨[0,1,2,3],bO Tf ?_⟩|fail)
      all_goals(conv=>whnf)
      refine⟨Nat,λi=>⟨[(0,.aW 0 0),(17,.own 5),(164,.av 1 (Z.map aU) false),(165,i64 Z.length),(166,i64 i)],[.cells 116 (iT S6 (.own 1) (.own 2) (.own 3)),.row 22 1 ((S6).hist.map c8),.row 150 2 ((S6).dbts.map dR),.row 121 2 ((yd++(Z.take i).map F).map gh),.cB [.aW 0 0,.aY,.aY,.aY],.row 5 1 (B2.map bE)]⟩,λi=>i<=Z.length,λi=>Z.length-i,[],⟨0,bZ _,?_⟩,?_⟩
      ·conv=>whnf
       exact⟨⟨.r,.r,.r,a8 (by simp),.r,aj⟩,⟨.r,.r,.r,cM (by simp),gV ⟨.r,.aY,.aY,.aY,aj⟩,cM En,aj⟩,by rfl⟩
      ·intro i hi;repeat' ((conv=>whnf);first| (apply bo<;>intro h)|fail)
       ·have aB:i<Z.length:=by simpa using h
        clear h;have jy:=yc (yd++(Z.take i).map F) (by rw[fw,bL,mW];omega) Z[i];have hx:yd++(Z.take i).map F++ [F Z[i]]=yd++(Z.take (i+1)).map F:=by
         rw[fA aB,ew,k1];rfl
        rw[hx]at jy;repeat' ((conv=>whnf);first|refine⟨_,_,aS ⟨rfl,du aB⟩ ?_⟩|refine .inr ⟨[0,1,2,3,5],bO jy ?_⟩|fail)
        all_goals(conv=>whnf)
        refine⟨i+1,aB,by simp only[];omega,?_⟩;conv=>whnf
        exact⟨⟨.r,.r,.r,.r,a8 (ca (by omega)),aj⟩,⟨.r,.r,.r,.r,.r,.r,aj⟩,by rfl⟩
       ·have:i=Z.length:=by
         simp at h;omega
        subst this;rw[gn];repeat' ((conv=>whnf);first|refine bl ?_|fail)
        all_goals(conv=>whnf)
        refine⟨[],?_⟩;conv=>whnf
        exact⟨.r,⟨.r,.r,.r,.r,.r,aj⟩,by rfl⟩
     ·rename_i aQ;have:i=C.length:=by
       simp at aQ;omega
      subst this;clear aQ;rw[gn];rw[bL]at h;rw[h];conv=>whnf
      refine⟨[],?_⟩;conv=>whnf
      exact⟨.r,⟨.r,.r,.r,cM (by simp),.r,aj⟩,by rfl⟩
theorem ab3{b c:Nat}(al:c<=10)(ac:b<2^c):pL ⟨b,c⟩=true:=by
 have an:∀c:Fin 11,IntKind.u32.wrap (1*2^ (min ((c.1:Nat):Int).toNat 32))=((2^c.1:Nat):Int):=by decide+kernel
 have an:=an ⟨c,by omega⟩;have cH: (0:Int)<=((c:Nat):Int):=by omega
 have a2: ((c:Nat):Int)<=10:=by omega
 have a3: ((b:Nat):Int)<IntKind.u32.wrap (1*2^ (min ((c:Nat):Int).toNat 32)):=by
  grind
 show ((decide ((0:Int)<=((c:Nat):Int))&&decide (((c:Nat):Int)<=10))&&decide (((b:Nat):Int)<IntKind.u32.wrap (1*2^ (min ((c:Nat):Int).toNat 32))))=true
 grind
variable{w:nF}
theorem apO(ac:0<=w.bits)(ok:Bool):pL (jJ w ok)=true:=by
 unfold jJ;cases h:pL w
 ·rfl
 ·obtain⟨h1,ad,aN,bs⟩:=Lc h ac;rw[kZ,bD];obtain⟨dE,MJ⟩:=w;simp only[]at h1 ad aN bs ac⊢;obtain⟨b,rfl⟩:=p5 ac;obtain⟨c,rfl⟩:=p5 h1;have an: ((2:Int)^c)=((2^c:Nat):Int):=(Int.natCast_pow 2 c).symm;rw[l6,an]at aN;have aN:b<2^c:=by omega
  have al: (if(10:Int)<(c:Int)+1 then(10:Int)else(c:Int)+1)=((min (c+1) 10:Nat):Int):=by split<;>omega
  have au: (bif ok then(0:Int)else 1)=((bif ok then 0 else 1:Nat):Int):=by cases ok<;>rfl
  have cx: (b:Int) *2%1024+(bif ok then(0:Int)else 1)=((b*2%1024+(bif ok then 0 else 1):Nat):Int):=by
   omega
  rw[al,cx];refine ab3 (by omega) ?_;have Mi: (bif ok then 0 else 1:Nat)<=1:=by cases ok<;>simp
  generalize(bif ok then 0 else 1:Nat)=f at *;by_cases h:c<10
  ·have aG:min (c+1) 10=c+1:=by omega
   grind
  grind
def pP(v:aK)(id:Int)(d:ju):Prop:=d.view=v/\d.self=id/\d.bV.length=(hC v.mem id).length/\∀ (k:Nat) (h:k<d.bV.length),d.bV[k].et=k/\d.bV[k].bG=(hC v.mem id).getD k 0/\pL d.bV[k].kd=true/\0<=d.bV[k].kd.bits
variable{v:aK}{id:Int}
theorem Ti(ab:b2 v=true)(hi:bP v.mem id=true):ke v id=(⟨id,v,pM (hC v.mem id) (hC v.mem id).length⟩,0):=by
 rw[ke,ab,hi];rfl
theorem apP(v:aK)(id:Int):pP v id ⟨id,v,pM (hC v.mem id) (hC v.mem id).length⟩:=by
 refine⟨rfl,rfl,D5 _ _,λk h=> ?_⟩;simp only[pM,Ae,List.getElem_range,G9];exact⟨aj,aj,ab3 (b:=0) (c:=0) (by decide) (by decide),k0 _⟩
variable{d:ju}
theorem Im(ab:b2 v=true)(hi:bP v.mem id=true)(h:pP v id d):pN d=true:=by
 obtain⟨rfl,rfl,af,he⟩:=h;unfold pN;rw[Ti ab hi];simp only[D5];rw[e4 (by omega: (d.bV.length:Int)=((hC d.view.mem d.self).length:Int))];show ij (xP d.bV (pM (hC d.view.mem d.self) (hC d.view.mem d.self).length)) d.bV.length=true;refine iA.2 (λk hk=> ?_);have ax:d.bV.getD k wH=d.bV[k]:=by grind
 have mF:k<(pM (hC d.view.mem d.self) (hC d.view.mem d.self).length).length:=by rw[D5];omega
 have iP: (pM (hC d.view.mem d.self) (hC d.view.mem d.self).length).getD k wH=G9 k ((hC d.view.mem d.self).getD k 0):=by
  rw[sc,eN mF];simp[pM]
 obtain⟨cH,a2,a3,_⟩:=he k hk;unfold xP;rw[ax,iP,cH,a2,a3];simp[G9]
theorem Tj(ab:b2 v=true)(hi:bP v.mem id=true)(h:pP v id d)(x:Int):pP v id (nG d x):=by
 have aa:=Im ab hi h;unfold nG;rw[aa,kZ,bD];obtain⟨h1,ad,aN,bs⟩:=h;refine⟨h1,ad,by grind,λk hk=> ?_⟩;simp only[Ae,bL]at hk⊢;have:=bs k hk;unfold vb;cases decide (d.bV[k].bG=x)<;>exact this
theorem apQ(ab:b2 v=true)(hi:bP v.mem id=true)(h:pP v id d):pP v id (cO d).1:=by
 have aa:=Im ab hi h;unfold cO;rw[aa,kZ,bD];obtain⟨h1,ad,aN,bs⟩:=h;refine⟨h1,ad,by grind,λk hk=> ?_⟩;simp only[Ae,bL]at hk⊢;have:=bs k hk;exact⟨this.1,this.2.1,apO this.2.2.2 _,QF this.2.2.2 _⟩
variable{S:List bR}{x:Int}
theorem B7{r:Int}:sQ S x r=true↔∃a∈S,a.bG=x/\a.et=r:=by
 unfold sQ;simp
variable{a:bR}
theorem EO(bb:gk v a=true):1<=a.bG/\a.bG<=1000/\0<=a.et/\a.et<5/\a.view=v.num/\(cQ v.mem a.bG).length=5/\(cQ v.mem a.bG).getD a.et.toNat 0=a.jW:=by
 obtain⟨_,h1,ad,aN,bs⟩:=BZ bb;simp only[n3,cq,fx]at ad;have cm: (cQ v.mem a.bG).length=0\/(cQ v.mem a.bG).length=5:=by
  unfold cQ;cases (!dF v.mem 16|| !(decide (1<=a.bG)&&decide (a.bG<=1000))|| (decide ((v.mem.length:Int)=1)&&decide (v.mem.getD 0 0=a.bG)))<;>simp
 omega
theorem EP(h:dG v S=true)(x:Int):je S x=(List.range 5).countP λr=>sQ S x (r:Nat):=by
 obtain⟨_,ab,ae⟩:=sI.1 h;rw[Sd,UL,UL];have e: (S.filter λa=>decide (a.bG=x)).map (·.et)=((List.range 5).filter λr=>sQ S x (r:Nat)).map (λr:Nat=>(r:Int)):=by
  refine BJ ?_ ?_ λr=> ?_
  ·rw[yu];refine List.Pairwise.imp_of_mem (λ{a b} bb ac pb=> ?_) (ae.sublist (CC ..));have aA:a.bG=x:=by grind
   have aG:b.bG=x:=by grind
   simp only[jv,oS,cq,fx]at pb;omega
  ·rw[yu];exact((List.pairwise_lt_range (n:=5)).sublist (CC ..)).imp λh=>by omega
  ·simp only[fr,ko,fx,w4];constructor
   ·rintro⟨a,⟨bb,ag⟩,rfl⟩;have:=EO (ab a bb);exact⟨a.et.toNat,⟨by omega,B7.2 ⟨a,bb,ag,by omega⟩⟩,by omega⟩
   ·rintro⟨k,⟨hk,bw⟩,rfl⟩;obtain⟨a,bb,ag,ao⟩:=B7.1 bw
    grind
 have:=e7 List.length e
 grind
theorem ab4{α:Type}(p q:α->Bool):∀l:List α,l.countP p+l.countP (λx=> !p x&&q x)=l.countP λx=>p x||q x
 | []=>rfl
 |x::l=>by
  have a1:=ab4 p q l
  grind
def B8(v:aK)(S:List bR)(x:Int):Nat:=(List.range 5).countP λr=>sQ S x (r:Nat)||decide (2<=je S ((cQ v.mem x).getD r 0))
theorem Tk(h:dG v S=true){x:Int}(al:1<=je S x):x∈S.map (·.bG)/\(cQ v.mem x).length=5:=by
 rw[Sd]at al;obtain⟨a,bb,ag⟩:=List.countP_pos_iff.1 al;have ag:a.bG=x:=by grind
 subst ag;exact⟨fr.2 ⟨a,bb,rfl⟩,(EO ((sI.1 h).2.1 a bb)).2.2.2.2.2.1⟩
theorem apR(h:dG v S=true){x:Int}(al:1<=je S x):je S x+vm S (cQ v.mem x) x (cQ v.mem x).length=B8 v S x:=by
 obtain⟨_,cm⟩:=Tk h al;have:=ab4 (λr:Nat=>sQ S x (r:Nat)) (λr=>decide (2<=je S ((cQ v.mem x).getD r 0))) (List.range 5);rw[<-EP h x]at this;rw[cm];exact this
theorem ab5(h:dG v S=true){x:Int}(al:2<=je S x): (uc v S x).ub+(uc v S x).imp=B8 v S x:=by
 rw[aaS al];exact apR h (by omega)
theorem Tl(h:dG v S=true){b:Bool}{x:Int}:x∈ev v S b↔2<=je S x/\decide (4<=B8 v S x)=b:=by
 unfold ev ud;rw[h];simp only[kZ,bD,fr,ko];constructor
 ·rintro⟨t,⟨⟨y,bk,rfl⟩,cI⟩,rfl⟩;unfold r1 at cI;rw[cq,fx,Ji]at cI;have al:2<=je S y:=cI.1;rw[ab5 h al]at cI;exact cI
 ·rintro⟨h1,ad⟩;refine⟨uc v S x,⟨⟨x,HK.2 (Tk h (by omega)).1,rfl⟩,?_⟩,rfl⟩;unfold r1;rw[ab5 h h1,ad,e4 (show 2<=(uc v S x).ub from h1)];simp
theorem B9(v:aK)(S:List bR)(b:Bool): (ev v S b).Pairwise λx y=>x<y:=by
 unfold ev ud;cases !dG v S
 ·rw[bD,yu];refine List.Pairwise.sublist (CC ..) ?_;rw[yu];exact amK _
 ·simp
theorem apS{T:List bR}(h:∀a∈S,a∈T){x r:Int}(bw:sQ S x r=true):sQ T x r=true:=by
 obtain⟨a,bb,h1,ad⟩:=B7.1 bw;exact B7.2 ⟨a,h a bb,h1,ad⟩
theorem apT{T:List bR}(cJ:dG v S=true)(aw:dG v T=true)(h:∀a∈S,a∈T)(x:Int):je S x<=je T x:=by
 rw[EP cJ,EP aw];exact List.countP_mono_left λr _ ao=>apS h ao
theorem ab6{l:List Int}(h: (er v l).2=0):zE v l=(l,true):=by
 rw[zE,Mc,e4 h];rfl
theorem apU(v:aK): (er v []).2=1:=by
 unfold er;have:dF [] 32=false:=by rfl
 grind
theorem ab7(v:aK):zE v []=([],false):=by
 rw[zE,Mc,apU];rfl
theorem Tm:∀ (b a:List Int) (z:Int),z∈ky a b↔z∈a\/z∈b
 | [],a,z=>by simp[ky]
 |x::b,a,z=>by
  have a1:=Tm b (a.dropWhile λy=> !decide (x<y)) z;rw[ky,eb,pt,a1];have e:z∈a↔z∈a.takeWhile (λy=> !decide (x<y))\/z∈a.dropWhile (λy=> !decide (x<y)):=by
   rw[<-eb,UX]
  grind
theorem ab8{x:Int}:∀ {a:List Int},a.Pairwise (· < ·)->∀z∈a.dropWhile (λy=> !decide (x<y)),x<z
 | [],_,z,h=>by simp at h
 |y::a,an,z,h=>by
  rw[s9]at an;rw[List.dropWhile_cons]at h;by_cases bk:x<y
  ·grind
  ·rw[c5 bk]at h;simp only[s7,if_true]at h;exact ab8 an.2 z h
theorem ab9:∀ (b a:List Int),a.Pairwise (· < ·)->b.Pairwise (· < ·)->(∀z∈a,z∉b)->(ky a b).Pairwise (· < ·)
 | [],a,bb,_,_=>by simpa[ky]using bb
 |x::b,a,bb,ac,aa=>by
  rw[s9]at ac;have qY:∀z∈a.dropWhile (λy=> !decide (x<y)),z∈a:=λz bt=>(UN _).subset bt;have a1:=ab9 b (a.dropWhile λy=> !decide (x<y)) (bb.sublist (UN _)) ac.2 (λz bt MK=>aa z (qY z bt) (Fs _ MK));have uZ:∀z∈ky (a.dropWhile λy=> !decide (x<y)) b,x<z:=λz bt=>by
   rcases(Tm _ _ _).1 bt with h|h
   ·exact ab8 bb z h
   grind
  have hle:∀z∈a.takeWhile (λy=> !decide (x<y)),z<x:=λz bt=>by
   have h1:=QY bt;have ad:=(UY _).subset bt
   grind
  rw[ky,I7];refine⟨bb.sublist (UY _),s9.2 ⟨uZ,a1⟩,λz bt w hw=> ?_⟩
  grind
variable{c:List Int}
theorem Tn(h: (er v c).2=0):b2 v=true/\dF c 32=true/\(v.mem.length:Int)<2* ((mH v c).length:Int)/\v.num≠1099511627776/\((mH v c).length:Int)+((hd v c).length:Int)<=16/\(er v c).1= ⟨IntKind.i64.wrap (v.num+1),ky (mH v c) (hd v c)⟩:=by
 unfold er at h⊢
 grind
theorem aca(ab:b2 v=true)(al:dF c 32=true):mH v c=v.mem.filter (λx=> !bP c x):=by
 unfold mH sD
 grind
theorem acb(ab:b2 v=true)(al:dF c 32=true):hd v c=c.filter (λx=> !bP v.mem x):=by
 unfold hd sD
 grind
theorem EQ(h: (er v c).2=0):b2 (er v c).1=true/\(er v c).1.num=v.num+1/\∀x,x∈ (er v c).1.mem↔ (x∈v.mem/\x∉c)\/(x∈c/\x∉v.mem):=by
 obtain⟨ab,al,h1,ad,aN,he⟩:=Tn h;obtain⟨ie,lq,oM⟩:=lD ab;obtain⟨_,fl,ff⟩:=nE.1 oM;obtain⟨_,dc,dt⟩:=nE.1 al;have ae:=aca ab al;have az:=acb ab al;have ni:∀x,x∈ky (mH v c) (hd v c)↔ (x∈v.mem/\x∉c)\/(x∈c/\x∉v.mem):=λx=>by
  have Gn:∀ (l:List Int) (x:Int),(!bP l x)=true↔x∉l:=λl x=>by
   rw[nu,<-Bool.not_eq_true,iR]
  rw[Tm,ae,az,ko,ko,Gn,Gn]
 have Io:IntKind.i64.wrap (v.num+1)=v.num+1:=dQ (by omega) (by omega);rw[he,Io];refine⟨?_,rfl,ni⟩;have af: (ky (mH v c) (hd v c)).length=(mH v c).length+(hd v c).length:=Sl _ _;have ye:dF (ky (mH v c) (hd v c)) 16=true:=by
  rw[nE];refine⟨⟨by omega,by omega⟩,ab9 _ _ (by grind) (by grind) (λz bt MK=> ?_),λx ag=> ?_⟩
  ·rw[ae]at bt;rw[az]at MK;have h1:=(ko.1 bt).2;have ad:=(ko.1 MK).1;rw[nu,<-Bool.not_eq_true,iR]at h1
   grind
  grind
 unfold b2
 grind
theorem acc{m:Int}(az:m<=32)(h:dF c m=true):mL c:=by
 obtain⟨h1,_,aN⟩:=nE.1 h;exact⟨by omega,λx ag=>by grind⟩
def ML(first:aK)(D:List (List Int)):Prop:=b2 first=true/\∀i,i<D.length->r3 first D i=true
theorem To{first:aK}{D PZ:List (List Int)}:∀k,(∀i,i<k->D.getD i []=PZ.getD i [])->dK first D k=dK first PZ k
 |0,_=>rfl
 |k+1,h=>by
  unfold dK;rw[To k (λi hi=>h i (by omega)),h k (by omega)]
variable{D:List (List Int)}
theorem Ip{k i:Nat}(h:i<k): (D.take k).getD i []=D.getD i []:=by
 grind
theorem Tp{E:List (List Int)}{i:Nat}(h:i<D.length): (D++E).getD i []=D.getD i []:=by
 grind
theorem ER(first:aK)(D:List (List Int)){k i:Nat}(h:i<=k):dK first (D.take k) i=dK first D i:=To i λj aq=>Ip (by omega)
theorem Iq(first:aK)(D E:List (List Int)){i:Nat}(h:i<=D.length):dK first (D++E) i=dK first D i:=To i λj aq=>Tp (by omega)
theorem acd{first:aK}{D:List (List Int)}(h:ML first D):∀k,k<=D.length->b2 (dK first D k)=true/\(dK first D k).num=first.num+k
 |0,_=>⟨h.1,by simp[dK]⟩
 |k+1,hk=>by
  obtain⟨h1,ad⟩:=acd h k (by omega);have cy:=h.2 k (by omega);unfold r3 at cy;obtain⟨cH,a2,_⟩:=EQ (fC cy);unfold dK
  grind
theorem ace{first:aK}{D:List (List Int)}(h:ML first D)(aV:D.length<=400)(k:Nat)(hk:k<=D.length): (jM first (D.take k)).2=true/\(jM first (D.take k)).1=kV first (D.take k) (D.take k).length:=by
 have af: (D.take k).length=k:=by grind
 have cF:ij (r3 first (D.take k)) (D.take k).length=true:=iA.2 λi hi=>by
  rw[af]at hi;have:=h.2 i (by omega);unfold r3 at this⊢;rw[ER first D (Nat.le_of_lt hi),Ip hi];omega
 unfold jM;rw[h.1,cF,c5 (by omega)];simp
theorem DI{first:aK}{D:List (List Int)}(h:ML first D):∀c∈D,mL c/\dF c 32=true:=λc al=>by
 obtain⟨i,hi,rfl⟩:=fv al;have cy:=h.2 i hi;unfold r3 at cy;have ax:D.getD i []=D[i]:=by grind
 rw[ax]at cy;have:=(Tn (fC cy)).2.1;exact⟨acc (by decide) this,this⟩
variable{l:List bR}
theorem apV(ae:tQ l)(h:∀a∈l,n3 a=true):l.length<=5000:=by
 have h1: (l.map λa=>(a.bG*5+a.et).toNat).Pairwise (· < ·):=by
  rw[yu];refine(NS.2 λ{a b} pb=> ?_);have bb:=h a (pb.subset (by simp));have ac:=h b (pb.subset (by simp));have af:=NS.1 ae pb;simp only[n3,jv,cq,oS,fx]at bb ac af;omega
 have ad:∀x∈l.map (λa=>(a.bG*5+a.et).toNat),x∈List.range' 5 5000:=λx ag=>by
  obtain⟨a,bb,rfl⟩:=fr.1 ag;have:=h a bb;simp only[n3,cq,fx]at this
  grind
 have aN:=wK (h1.imp λh=>Nat.ne_of_lt h) ad
 grind
theorem MM(h:dG v l=true):l.length<=5000:=by
 obtain⟨_,h1,ad⟩:=sI.1 h;exact apV ad λa bb=>(BZ (h1 a bb)).2.2.1
theorem apW{a:bR}(h:dG v l=true)(bb:gk v a=true):dG v (k9 l a).1=true:=by
 obtain⟨ab,h1,ad⟩:=sI.1 h;have:=QZ ad a;exact sI.2 ⟨ab,λx ag=>by
  grind,this.1⟩
theorem acf{a:bR}(h:dG v l=true)(cy: (nH v l a).2.2=0):gk v a=true/\(nH v l a).1=(k9 l a).1:=by
 unfold nH at cy⊢
 grind
variable{s:Mem}
theorem acg{a:bR}(h:dG s.view s.als=true):dG s.view (mO s a).als=true:=by
 unfold mO;cases al:decide ((nH s.view s.als a).2.2=0)
 ·exact h
 ·obtain⟨h1,ad⟩:=acf h (fC al);rw[b6];show dG s.view (nH s.view s.als a).1=true;rw[ad];exact apW h h1
theorem Tq{s:Mem}{x:Int}(h:dG s.view s.als=true):∀i,dG s.view (kF s x i).als=true
 |0=>h
 |i+1=>by
  have a1:=Tq (x:=x) h i;have hk:=(H5 s x i).1;unfold kF;have:=acg (s:=kF s x i) (a:=⟨s.view.num,(l3 s.view.mem s.self x).getD i 0,s.self,x⟩) (by grind)
  grind
theorem ach(x:Int)(h:dG s.view s.als=true):dG s.view (gU s x).als=true:=Tq h _
theorem Tr{s:Mem}{l:List Int}(h:dG s.view s.als=true):∀i,dG s.view (km s l i).als=true
 |0=>h
 |i+1=>by
  have a1:=Tr (l:=l) h i;have hk:=(EM s l i).1;unfold km;have:=ach (s:=km s l i) (l.getD i 0) (by grind)
  grind
theorem Ir{s:Mem}{l:List bR}(h:dG s.view s.als=true):∀i,dG s.view (j1 s l i).als=true
 |0=>h
 |i+1=>by
  have a1:=Ir (l:=l) h i;have hk:=(wQ s l i).1;unfold j1;have:=acg (s:=j1 s l i) (a:=l.getD i gd) (by grind)
  grind
theorem apX(h:dG s.view s.als=true):dG s.view (p0 s).als=true:=by
 unfold p0 nO;exact Tr (s:={s with dbts:=kl s.self s.dbts (ev s.view s.als false)}) h _
theorem Is(h:dG s.view s.als=true):dG s.view (bY s).als=true:=by
 have h1:=Ir (s:={s with a7:=(cO s.a7).1}) (l:=(cO s.a7).2) h (cO s.a7).2.length;have hk:=(wQ {s with a7:=(cO s.a7).1} (cO s.a7).2 (cO s.a7).2.length).1;have ad:=apX (s:=mu {s with a7:=(cO s.a7).1} (cO s.a7).2) (by unfold mu;grind);unfold bY;have e: (mu {s with a7:=(cO s.a7).1} (cO s.a7).2).view=s.view:=hk
 grind
theorem Ts{b:Bool}{x:Int}(h:x∈ev v S b):1<=x/\x<=1000:=by
 unfold ev ud at h;obtain⟨t,cI,rfl⟩:=fr.1 h;have cI:=(ko.1 cI).1;cases ab:dG v S
 ·grind
 ·rw[ab]at cI;simp only[kZ,bD]at cI;obtain⟨y,bk,rfl⟩:=fr.1 cI;obtain⟨a,bb,rfl⟩:=fr.1 (HK.1 bk);have:=(BZ ((sI.1 ab).2.1 a bb)).2.2.1;simp only[n3,cq,fx]at this;show 1<=a.bG/\a.bG<=1000;omega
theorem aci{l:List Int}(an:l.Pairwise λx y=>x<y)(h:∀x∈l,1<=x/\x<=1000):l.length<=1000:=by
 have h1: (l.map Int.toNat).Pairwise (· < ·):=by
  rw[yu];refine(NS.2 λ{a b} pb=> ?_)
  grind
 have ad:∀x∈l.map Int.toNat,x∈List.range' 1 1000:=λx ag=>by
  grind
 have aN:=wK (h1.imp λh=>Nat.ne_of_lt h) ad
 grind
theorem apY(v:aK)(S:List bR)(b:Bool): (ev v S b).length<=1000:=aci (B9 v S b) λ_ h=>Ts h
theorem apZ(v:aK)(S:List bR): (dl v S).1.length<=1000:=by
 unfold dl;cases decide (0<((ev v S false).length:Int))
 ·exact bT (apF _ _) (apY _ _ _)
 simp
theorem acj(v:aK):∀ (n:Nat) (l:List Int),(pj v n l).2=true->(er v (pj v n l).1).2=0
 |0,l,h=>by simp[pj]at h
 |n+1,l,h=>by
  rw[pj]at h⊢;cases h1:decide ((er v l).2=0)
  ·rw[h1,bD]at h;rw[bD];cases ad: (!decide ((er v l).2=5)||decide (((hd v l).length:Int)=0))
   ·rw[ad,bD]at h;rw[bD];exact acj v n _ h
   grind
  grind
theorem ap0(h: (dl v S).2=true):ga v (dl v S).1=true:=by
 unfold dl at h⊢;cases h1:decide (0<((ev v S false).length:Int))
 ·rw[h1,bD]at h;rw[bD];exact e4 (acj v _ _ h)
 grind
structure zR(v:aK)(x:Int)(als:List bR)(l:List iD):Prop where
 up: (l.map (·.bG)).Pairwise λa b=>a<b
 ES:∀d∈l,d.bG≠x/\d.bG∈ev v als false/\1<=d.j0/\d.j0<=6
theorem ap1{als:List bR}{l:List iD}(h:zR v x als l):l.length<=1000:=by
 have:=aci h.up λy bk=>by
  obtain⟨d,aa,rfl⟩:=fr.1 bk;exact Ts (h.ES d aa).2.1
 grind
theorem ap2(h:zR s.view s.self s.als s.dbts):BT s=true:=by
 unfold BT;refine iA.2 λi hi=> ?_;have ax:s.dbts.getD i ki=s.dbts[i]:=by grind
 obtain⟨h1,ad,aN,bs⟩:=h.ES _ (eD hi);have cm: (0::s.dbts.map (·.bG)).getD i 0<s.dbts[i].bG:=by
  rcases i with _|i
  ·have:=Ts ad
   grind
  ·rw[List.getD_cons_succ];have di:i<(s.dbts.map (·.bG)).length:=by grind
   have fE:i+1<(s.dbts.map (·.bG)).length:=by grind
   have:=my.1 h.up i (i+1) di fE (by omega)
   grind
 unfold Mh;rw[ax,c5 (show ¬s.dbts[i].bG<=_ by omega),c5 h1,iR.2 ad,c5 (by omega),c5 (by omega)];rfl
theorem ap3{als ap4:List bR}{l:List iD}(gO: (l.map (·.bG)).Pairwise λa b=>a<b)(he:∀d∈l,d.bG≠x/\1<=d.j0/\d.j0<=6):zR v x als (l.filter (mt (ev v als false))):=by
 refine⟨gO.sublist (List.filter_sublist.map _),λd aa=> ?_⟩;obtain⟨h1,ad⟩:=ko.1 aa;obtain⟨a,b,c⟩:=he d h1;unfold mt at ad;exact⟨a,iR.1 ad,b,c⟩
theorem ap5{als:List bR}(h:zR s.view s.self als s.dbts):zR s.view s.self s.als (nO s).dbts:=
 ap3 (ap4:=als) h.up λd aa=>⟨(h.ES d aa).1,(h.ES d aa).2.2⟩
theorem ack(l:List iD)(x:Int):∀j,j<=l.length->pZ l x j=0\/∃d∈l,pZ l x j=d.j0
 |0,_=>.inl rfl
 |j+1,aq=>by
  have a1:=ack l x j (by omega);unfold pZ
  grind
theorem ap6{l:List iD}(h:∀d∈l,1<=d.j0/\d.j0<=6)(x:Int):1<=x8 l x/\x8 l x<=6:=by
 have h1:0<=EK l x/\EK l x<=6:=by
  unfold EK;rcases ack l x l.length (bS _)with e| ⟨d,aa,e⟩;all_goals grind
 unfold x8;split<;>omega
theorem ap7(h:∀d∈s.dbts,1<=d.j0/\d.j0<=6):zR s.view s.self s.als (kl s.self s.dbts (ev s.view s.als false)):=by
 unfold kl;refine⟨?_,λd aa=> ?_⟩
 ·rw[oU];have e: ((λd:iD=>d.bG)∘λx=>iD.mk x (x8 s.dbts x))=id:=rfl;rw[e,CJ];exact(B9 _ _ _).sublist CC
 ·obtain⟨x,ag,rfl⟩:=fr.1 aa;obtain⟨h1,ad⟩:=ko.1 ag;unfold hZ at ad;have:=ap6 h x
  grind
theorem ap8(h:∀d∈s.dbts,1<=d.j0/\d.j0<=6):zR s.view s.self (p0 s).als (p0 s).dbts:=by
 have h1:=ap7 h;have hk:=EM {s with dbts:=kl s.self s.dbts (ev s.view s.als false)} (iU s.self s.dbts (ev s.view s.als false)) (iU s.self s.dbts (ev s.view s.als false)).length;have ad:=ap5 (s:=km {s with dbts:=kl s.self s.dbts (ev s.view s.als false)} (iU s.self s.dbts (ev s.view s.als false)) (iU s.self s.dbts (ev s.view s.als false)).length) (als:=s.als) (by grind);rw[hk.1,hk.2.1]at ad;exact ad
inductive kX where
 |ac(n:Int)
 |hm(n:Int)(l:List bR)
 |dP(m:c1)
 |hi(first:aK)(aI:List (List Int))
 |e6
def ET:kX->List Nat
 | .ac n=>Mk n
 | .hm n l=>MA n l
 | .dP m=>SU m
 | .hi f c=>r4 f c
 | .e6=>zP
structure c9 where
 dd:Int
 bj:kX
def sX(p:c9):ei:=⟨p.dd,ET p.bj⟩
def uh(s:Mem)(dd:Int):c9:=⟨dd,.hi s.first s.hist⟩
def Ca(s:Mem)(p:dN):List c9:=(qz s p).map λid=>⟨id,.dP p.m⟩
def h0(s:Mem)(l:List dN):List c9:=l.flatMap (Ca s)
theorem MN(s:Mem)(l:List dN): (h0 s l).map sX=jP s l:=by
 unfold h0 jP;rw[List.map_flatMap];congr 1;funext p;unfold Ca H6;rw[oU];rfl
def vv(s:Mem)(bM:Int):kX->Mem×List c9
 | .hi f c=>(fp (lE s f c),[])
 | .e6=>bif bP s.view.mem bM then(fp s,[uh s bM])else(fp (gU s bM),[uh (gU s bM) bM])
 | .ac n=>if n<s.view.num then(fp s,[uh s bM])else if s.view.num<n then(fp s,[])else bif bP s.view.mem bM then(fp {s with a7:=nG s.a7 bM},[])else(fp s,[])
 | .hm n l=>if n<s.view.num then(fp s,[uh s bM])else if s.view.num<n then(fp s,[])else(fp {s with als:=kW s.als l l.length},[])
 | .dP m=>if m.view<s.view.num then(fp s,[uh s bM])else if s.view.num<m.view then(fp s,[])else
  bif decide ((dC s.agr m).2.2=0)then(fp {s with agr:=(dC s.agr m).1},h0 {s with agr:=(dC s.agr m).1} (dC s.agr m).2.1)else(fp s,[])
def yf(s:Mem):kX->Mem×List c9
 | .hi f c=>(vr s f c,[])
 |_=>(s,[])
def eM(s:Mem)(bM:Int)(f:kX):Mem×List c9:=if s.status=1 then vv s bM f else if s.status=0 then yf s f else(s,[])
def ap9(s:Mem)(bM:Int):kX->Prop
 | .ac n=>0<=n/\n<=1099511627776
 | .hm n l=>(0<=n/\n<=1099511627776)/\l.length<=5000/\(s.status=1->n=s.view.num->dG s.view l=true)
 | .dP m=>vq m/\m.src=bM/\(s.status=1->m.view=s.view.num->(dC s.agr m).2.2=0/\(dC s.agr m).2.1.length<=1000/\(∀p∈ (dC s.agr m).2.1,vq p.m)/\(dC s.agr m).1.dec.length<=1000)
 | .hi f c=>b2 f=true/\c.length<=400/\(∀x∈c,mL x)/\(jM f c).2=true/\(s.status=1->sU (lE s f c))
 | .e6=>True
structure It(s:Mem)(bM:Int)(f:kX):Prop where
 mE:hl s
 v:pk s=true
 id:mq bM=true
 lP:bM≠s.self
 act:s.status=1->EH s/\b2 s.view=true/\dG s.view s.als=true
 bj:ap9 s bM f
theorem acl(h:hl s):sU s:=⟨h.view,h.hist,h.agr.dec,by have:=h.als;omega,by have:=h.dbts;omega⟩
theorem aqa(s:Mem)(bM:Int)(f:kX)(h:It s bM f)(bU:s.status=1):bq Tryz.prog 23 [.agg (cv s),i64 bM,.av 1 ((ET f).map bE) false] (.be [.agg (cv (vv s bM f).1),.av 2 (((vv s bM f).2.map sX).map gh) false,i64 0]):=by
 obtain⟨dS,ab,gS,bx,wR,ha⟩:=h;obtain⟨qd,hF,u1⟩:=wR bU;have hv:=k8 hF;have nU:s.view.mem≠ []:=λe=>by grind
 have lQ:=acl dS;have key:=λ{ob:sT} {W:List Nat} (ao:bq Tryz.prog 51 [.agg (cv s),.av 1 (W.map bE) false] (.be [.agg (kj ob),.v (.bool true)])) {s':Mem} {MD:List ei}
  (bw:cj Tryz.prog 54 (fh s []) [.aW 0 0,i64 bM,.agg (kj ob)] [true,false,false,false] (fh s' MD) (.be []))=>apA s dS ab bU bM gS bx ob W ao (SG s bw)
 cases f with
 |hi f c=>
  obtain⟨cH,a2,a3,a4,a5⟩:=ha;exact key (HT s f c cH a2 a3 a4) (apz s bU dS bM [] f c a4 a3 (a5 bU))
 |e6=>
  unfold vv;cases cS:bP s.view.mem bM
  ·refine key (SV s) (apy s bU dS bM [] (by simp) qd cS ?_);have hk:=zM s bM
   have hi:=zQ s bM
   exact⟨by grind,by rw[hk.2.2.1];exact lQ.hist,by rw[hi.2.2.2];exact lQ.dec,by have:=hk.2.2.2.2;have:=dS.als;omega,by rw[hk.2.2.2.1];exact lQ.dbts⟩
  ·exact key (SV s) (apx s bU dS bM [] (by simp) qd cS lQ)
 |ac n=>
  have ao:=aa4 s n ha.1 ha.2;unfold vv;by_cases h1:n<s.view.num
  ·simp only[b3 h1];exact key ao (SZ s bU dS bM [] (by simp) qd (y7 n) (by show (1:Int)≠4;omega) (by show (1:Int)≠5;omega) h1 lQ)
  ·by_cases ad:s.view.num<n
   ·simp only[bm h1,b3 ad];exact key ao (S2 s bU dS bM [] (y7 n) (by show (1:Int)≠4;omega) (by show (1:Int)≠5;omega) ad lQ)
   ·simp only[bm h1,bm ad];have e:n=s.view.num:=by omega
    subst e;cases cS:bP s.view.mem bM
    ·exact key ao (apt s bU dS bM [] cS lQ)
    ·exact key ao (aps s bU dS bM [] cS ⟨lQ.view,lQ.hist,lQ.dec,lQ.als,lQ.dbts⟩)
 |hm n l=>
  obtain⟨cH,a2,a3⟩:=ha;have ao:=abU s n cH.1 cH.2 l a2 a3;unfold vv;by_cases h1:n<s.view.num
  ·simp only[b3 h1];exact key ao (SZ s bU dS bM [] (by simp) qd (Mz n _) (by show (2:Int)≠4;omega) (by show (2:Int)≠5;omega) h1 lQ)
  ·by_cases ad:s.view.num<n
   ·simp only[bm h1,b3 ad];exact key ao (S2 s bU dS bM [] (Mz n _) (by show (2:Int)≠4;omega) (by show (2:Int)≠5;omega) ad lQ)
   ·simp only[bm h1,bm ad];have e:n=s.view.num:=by omega
    subst e;rw[show (bif !decide (s.status=1)|| !decide (s.view.num=s.view.num)then([]:List bR)else l)=l by grind]at ao;have tq:=(SR s.als l l.length (bS _)).2;exact key ao (apu s bU dS bM [] l (by omega) u1 (a3 bU rfl) ⟨lQ.view,lQ.hist,lQ.dec,by show (kW s.als l l.length).length<=100000;have:=dS.als;omega,lQ.dbts⟩)
 |dP m=>
  obtain⟨cH,a2,a3⟩:=ha;have ao:=abT s m cH;unfold vv;by_cases h1:m.view<s.view.num
  ·simp only[b3 h1];exact key ao (SZ s bU dS bM [] (by simp) qd (Ie m) (by show (3:Int)≠4;omega) (by show (3:Int)≠5;omega) h1 lQ)
  ·by_cases ad:s.view.num<m.view
   ·simp only[bm h1,b3 ad];exact key ao (S2 s bU dS bM [] (Ie m) (by show (3:Int)≠4;omega) (by show (3:Int)≠5;omega) ad lQ)
   ·simp only[bm h1,bm ad];have e:m.view=s.view.num:=by omega
    obtain⟨cX,c0,iu,ly⟩:=a3 bU e;have bw:=apv s bU dS bM [] (by simp) m cH e a2 hv.2 nU cX c0 iu ⟨lQ.view,lQ.hist,ly,lQ.als,lQ.dbts⟩
    rw[e4 cX];have hk:=key ao bw;simp only[b6];rw[MN];rw[nR]at hk;exact hk
theorem aqb(s:Mem)(bM:Int)(f:kX)(h:It s bM f):bq Tryz.prog 23 [.agg (cv s),i64 bM,.av 1 ((ET f).map bE) false] (.be [.agg (cv (eM s bM f).1),.av 2 (((eM s bM f).2.map sX).map gh) false,i64 0]):=by
 unfold eM;by_cases h1:s.status=1
 ·rw[b3 h1];exact aqa s bM f h h1
 ·rw[bm h1];obtain⟨dS,ab,gS,bx,wR,ha⟩:=h;have key:=λ{ob:sT} {W:List Nat} (hk:s.status=0->ob.kind≠4) (ao:bq Tryz.prog 51 [.agg (cv s),.av 1 (W.map bE) false] (.be [.agg (kj ob),.v (.bool true)]))=>apC s dS ab h1 bM gS bx ob W hk ao
  have tZ:∀ {ob:sT},ob.kind≠4->∀ {W:List Nat},W=ET f->(∀lJ fD,f≠ .hi lJ fD)->bq Tryz.prog 51 [.agg (cv s),.av 1 (W.map bE) false] (.be [.agg (kj ob),.v (.bool true)])->
    bq Tryz.prog 23 [.agg (cv s),i64 bM,.av 1 ((ET f).map bE) false] (.be [.agg (cv (if s.status=0 then yf s f else(s,[])).1),.av 2 (((if s.status=0 then yf s f else(s,[])).2.map sX).map gh) false,i64 0]):=λ{ob} MC {W} dA avv ao=>by
   have e: (if s.status=0 then yf s f else(s,[]))=(s,[]):=by
    by_cases aQ:s.status=0
    ·rw[b3 aQ];cases f with
     |hi lJ fD=>grind
     |_=>rfl
    grind
   grind
  cases f with
  |hi f c=>
   obtain⟨cH,a2,a3,a4,a5⟩:=ha;by_cases aQ:s.status=0
   ·rw[b3 aQ];exact apB s dS ab aQ bM gS bx f c cH a2 a4 a3
   ·rw[bm aQ];exact key (λe=>absurd e aQ) (HT s f c cH a2 a3 a4)
  |e6=>exact tZ (ob:=My) (by show (5:Int)≠4;omega) rfl (λ_ _ e=>by cases e) (SV s)
  |ac n=>exact tZ (ob:=y7 n) (by show (1:Int)≠4;omega) rfl (λ_ _ e=>by cases e) (aa4 s n ha.1 ha.2)
  |hm n l=>exact tZ (by show (2:Int)≠4;omega) rfl (λ_ _ e=>by cases e) (abU s n ha.1.1 ha.1.2 l ha.2.1 ha.2.2)
  |dP m=>exact tZ (ob:=Ie m) (by show (3:Int)≠4;omega) rfl (λ_ _ e=>by cases e) (abT s m ha.1)
theorem MO(s:bi)(aZ:List dN): (dk s aZ).2.length<=aZ.length+1:=by
 unfold dk;cases decide ((s.dec.length:Int)=0)&&decide (0<((hh s).length:Int))<;>simp
theorem aqc(s:bi)(cut:List Int): (eH s cut).2.1.length<=200:=by
 unfold eH;have h1:=MO {s with prop:=cut,cD:=0,aL:=(oJ s.aL cut).1,box:=(h6 s.view s.box ⟨s.self,cut⟩).1} [eC s 0 1 0 0 cut];have ad:=MO {s with prop:=cut,cD:=0} []
 grind
theorem aqd(s:bi)(m:c1): (e2 s m).2.length<=100:=by
 unfold e2;split
 ·simp
 ·split
  ·exact Z4 s m
  ·split
   ·exact Z5 s m
   ·split
    ·exact Z6 s m
    grind
theorem aqe(s:bi)(m:c1): (dC s m).2.1.length<=200:=by
 unfold dC;split
 ·simp
 ·split
  ·simp
  ·split
   ·simp
   ·split
    ·cases decide (m.kind=6)<;>simp
    ·have:=MO (e2 s m).1 (e2 s m).2;have:=aqd s m
     grind
theorem aqf(s:bi): (cN s).2.length<=200:=by
 unfold cN;split
 ·simp
 ·split
  ·simp
  ·have:=MO (gK s) (hE (gK s));have:=LL (gK s);omega
def r7:e3:=⟨λ_ _=>False,λ_ _ _=>False,λ_ _=>False,λ_=>False,λ_=>0⟩
theorem acm(v:aK):kD v r7:=⟨λ_ _ _ h=>h.elim,λ_ _ h=>h.elim,λ_ _ _ h=>h.elim,λ_ _ _ h=>h.elim,λ_ _ h=>h.elim⟩
def qB(v:aK)(m:Int):bi:=⟨m,v,⟨0,-1,[]⟩,[],[],0,0,[],[],[],[],0⟩
theorem acn(ab:b2 v=true){m:Int}(az:bP v.mem m=true):lb v m=(qB v m,0):=by
 unfold lb;rw[ab,az];rfl
theorem aco(ab:b2 v=true){m:Int}(az:bP v.mem m=true):c2 (qB v m):=
 ⟨ab,az,k0 _,(by show (0:Int)<=_;omega),(xW _).2 ⟨.inl rfl,(by show (-1:Int)<=0;omega),.inl ⟨rfl,rfl⟩⟩,λe=>absurd rfl e,(λe=>absurd e (by show ¬(0:Int)< -1;omega)),n5.2 (.inl rfl),n5.2 (.inl rfl),n5.2 (.inl rfl),n5.2 (.inl rfl),(tU ab).2 ⟨by simp[qB],.nil⟩,(λe=>by
  rfl),RU ab,(λr ao=>by cases ao),RU ab,(λr ao=>by cases ao),λe=>absurd rfl e,.inl ⟨rfl,rfl,rfl⟩⟩
theorem MP(v:aK)(m:Int):kE v r7 (qB v m):=
 ⟨⟨rfl,λ_ _ h=>h,(λe=>by
  have e: (-1:Int)=0:=e;omega),(λe=>absurd e (by show ¬(0:Int)< -1;omega)),λ_ _ h=>h.elim⟩,
  ⟨(λb ac=>by cases ac),(λe=>by
  have e: (0:Int)=1:=e;omega),λ_ _ h=>h,λ_ _ h=>h.elim,(λe=>by
  have e: (0:Int)=2:=e;omega),(λx ag=>by cases ag),λe=>absurd rfl e,λe=>absurd rfl e⟩⟩
def j2(k:Int):Nat:=if k=6 then 1 else if k=2\/k=4 then 273 else 17
theorem acp(k:Int):1<=j2 k/\j2 k<=273:=by
 unfold j2
 grind
def lF(l:List dN):Nat:=(l.map λp=>j2 p.m.kind).sum
theorem Tt(l cK:List dN):lF (l++cK)=lF l+lF cK:=by simp[lF]
theorem acq(p:dN)(l:List dN):lF (p::l)=j2 p.m.kind+lF l:=by rfl
def gE(s:bi):Nat:=(if s.dec=[]then 16 else 0)+(if s.phase=1 then 4368 else 0)
theorem Tu(s:bi):gE s<=4384:=by
 unfold gE;split<;>split<;>omega
theorem MQ(s:bi)(aZ:List dN):16*lF (dk s aZ).2+gE (dk s aZ).1<=16*lF aZ+gE s:=by
 unfold dk;cases al:decide ((s.dec.length:Int)=0)&&decide (0<((hh s).length:Int))
 ·simp
 ·rw[cq]at al;have h1:=RS.1 al.1;have ad:=rb.1 al.2;have aA:gE {s with dec:=hh s}+16=gE s:=by
   unfold gE
   grind
  have aG:j2 (eC s 0 6 0 0 (hh s)).m.kind=1:=rfl;simp only[b6];rw[Tt,acq,aG];have:lF []=0:=rfl;omega
theorem vw(p:dN):lF [p]=j2 p.m.kind:=by
 rfl
variable{s:bi}
theorem aqg(aa:s.dec=[]){m:c1}(az:eG s.view m=true):16*lF (e2 s m).2+gE (e2 s m).1+1<=j2 m.kind+gE s:=by
 have aQ:lF []=0:=rfl;have hi:∀t:bi,t.dec=s.dec->t.phase=s.phase->gE t=gE s:=λt a b=>by
  unfold gE
  grind
 unfold e2;rcases zv az with hk|hk|hk|hk|hk|hk
 ·rw[b3 hk,hk];have e:gE (kg s m)=gE s:=by
   unfold kg;cases decide ((h6 s.view s.box ⟨m.src,m.cut⟩).2=0)<;>exact hi _ rfl rfl
  have:j2 1=17:=rfl
  grind
 ·rw[bm (by omega),b3 hk,hk];have hw:j2 2=273:=rfl;have aA:16*lF (kS s m).2<=272:=by
   unfold kS;cases (im s.aL m.aC).2.2
   ·grind
   ·simp only[b6];rw[vw];exact bS 272
  have aG:gE (kS s m).1<=gE s:=by
   have gS:∀t:bi,t.dec=s.dec->gE (q7 t)<=gE s:=λt a=>by
    unfold gE q7
    grind
   unfold kS;cases decide (s.aC<m.aC)&& !decide (s.phase=0)<;>cases (im s.aL m.aC).2.2
   all_goals grind
  omega
 ·rw[bm (by omega),bm (by omega),b3 hk,hk];have hw:j2 3=17:=rfl;rw[hw];unfold kT;cases ac: !decide (s.phase=1)|| !decide (m.aC=s.aC)
  ·simp only[iW,mw,fx]at ac;have avw: (gx {s with bu:=(fN s.view s.bu ⟨m.src,m.cU,m.cut⟩).1}).dec=s.dec:=by
    unfold gx;cases !decide (({s with bu:=(fN s.view s.bu ⟨m.src,m.cU,m.cut⟩).1}:bi).phase=1)||decide ((({s with bu:=(fN s.view s.bu ⟨m.src,m.cU,m.cut⟩).1}:bi).bu.length:Int)<fY ({s with bu:=(fN s.view s.bu ⟨m.src,m.cU,m.cut⟩).1}:bi).view.mem.length)
    ·cases (jc ({s with bu:=(fN s.view s.bu ⟨m.src,m.cU,m.cut⟩).1}:bi).aL ({s with bu:=(fN s.view s.bu ⟨m.src,m.cU,m.cut⟩).1}:bi).aC (gB ({s with bu:=(fN s.view s.bu ⟨m.src,m.cU,m.cut⟩).1}:bi).view ({s with bu:=(fN s.view s.bu ⟨m.src,m.cU,m.cut⟩).1}:bi).bu ({s with bu:=(fN s.view s.bu ⟨m.src,m.cU,m.cut⟩).1}:bi).prop).1).2<;>rfl
    ·rfl
   generalize gx {s with bu:=(fN s.view s.bu ⟨m.src,m.cU,m.cut⟩).1}=A at *;simp only[bD];have ae:gE s=4384:=by
    unfold gE
    grind
   cases ai:decide (A.phase=2)
   ·simp only[bD];have:=Tu A;omega
   ·simp only[b6];rw[vw];have ai:=fC ai;have aA:gE A=16:=by
     unfold gE
     grind
    have aG:j2 (eC A 0 4 A.aC 0 A.c4).m.kind=273:=rfl;omega
  grind
 ·rw[bm (by omega),bm (by omega),bm (by omega),b3 hk,hk];have hw:j2 4=273:=rfl;rw[hw];unfold lW;cases (jc s.aL m.aC m.cut).2
  ·grind
  ·simp only[b6];have e:=hi {s with aL:=(jc s.aL m.aC m.cut).1,aM:=fS s.view (fS s.view s.aM ⟨m.src,m.aC,m.cut⟩) ⟨s.self,m.aC,m.cut⟩} rfl rfl;rw[vw];have:j2 (eC s 0 5 m.aC 0 m.cut).m.kind=17:=rfl;omega
 ·rw[bm (by omega),bm (by omega),bm (by omega),bm (by omega),b3 hk,hk];have hw:j2 5=17:=rfl
  grind
 ·rw[bm (by omega),bm (by omega),bm (by omega),bm (by omega),bm (by omega),hk];have hw:j2 6=1:=rfl;have al:=wL ((ph az).1 (.inr hk));simp only[];rw[vw,hw];have aA:gE {s with dec:=m.cut}+16=gE s:=by
   unfold gE
   grind
  have aG:j2 (eC s 0 6 0 0 m.cut).m.kind=1:=rfl;omega
theorem aqh(ai:c2 s)(au:fW s){m:c1}(az:eG s.view m=true)(ae:m.src≠s.self):16*lF (dC s m).2.1+gE (dC s m).1+1<=j2 m.kind+gE s:=by
 have ac:fI s=true:=(rd s).2 ⟨ai,au⟩;have aQ:lF []=0:=rfl;unfold dC;rw[bm (by grind),bm (by rw[e4 (kC az).2];simp),bm (by grind)];by_cases cm:decide (0<(s.dec.length:Int))=true
 ·rw[b3 cm];cases hk:decide (m.kind=6)
  ·simp only[bD];rw[vw];have aG:j2 (eC s m.src 6 0 0 s.dec).m.kind=1:=rfl;have hk:=rv hk;have:17<=j2 m.kind:=by
    unfold j2
    grind
   omega
  ·simp only[b6];have:=acp m.kind;omega
 ·rw[bm cm];have aa:=RT.1 (by simpa using cm);have h1:=MQ (e2 s m).1 (e2 s m).2;have ad:=aqg aa az
  grind
theorem aqi(ai:c2 s)(au:fW s):16*lF (cN s).2+gE (cN s).1<=gE s+9400:=by
 have ac:fI s=true:=(rd s).2 ⟨ai,au⟩;have aQ:lF []=0:=rfl;unfold cN;rw[bm (by grind)];by_cases cm:decide (0<(s.dec.length:Int))=true
 ·rw[b3 cm,vw];have aG:j2 (eC s 0 6 0 0 s.dec).m.kind=1:=rfl
  grind
 ·rw[bm cm];have h1:=MQ (gK s) (hE (gK s));have ad:lF (hE (gK s))<=307:=by
   unfold hE;rw[Tt,Tt];have aA:lF (x0 (gK s))<=17:=by
    unfold x0;cases (hY (gK s).box (gK s).self).2
    ·grind
    ·simp only[b6];rw[vw];exact bS 17
   have aG:lF (vl (gK s))<=273:=by
    unfold vl;cases decide ((gK s).phase=1)
    ·cases decide ((gK s).phase=2)
     ·grind
     ·simp only[b6,bD];rw[vw];exact bS 273
    ·simp only[b6];rw[vw];exact bS 273
   have bc:lF (x1 (gK s))<=17:=by
    unfold x1;cases decide (0<=eQ (gK s).aM (gK s).self)&& !decide ((gK s).phase=2)
    ·grind
    ·simp only[b6];rw[vw];exact bS 17
   omega
  have aN:=Tu (gK s);omega
theorem aqj(ai:c2 s)(au:fW s){cut:List Int}(cy: (eH s cut).2.2=0):16*lF (eH s cut).2.1+gE (eH s cut).1<=gE s+272:=by
 obtain⟨_,_,_,tZ⟩:=LW ai au cy;have aQ:lF []=0:=rfl;rcases tZ with⟨_,_,_,_,e⟩| ⟨_,e⟩
 ·have h1:=MQ {s with prop:=cut,cD:=0,aL:=⟨0,0,cut⟩,box:=iB s.box ⟨s.self,cut⟩} [eC s 0 1 0 0 cut];rw[<-e,vw]at h1;have aG:j2 (eC s 0 1 0 0 cut).m.kind=17:=rfl;have bc:gE {s with prop:=cut,cD:=0,aL:=⟨0,0,cut⟩,box:=iB s.box ⟨s.self,cut⟩}=gE s:=rfl
  grind
 ·have h1:=MQ {s with prop:=cut,cD:=0} [];rw[<-e,aQ]at h1;have bc:gE {s with prop:=cut,cD:=0}=gE s:=rfl
  grind
structure iL where
 v0:aK
 D:List (List Int)
 gs:Nat->e3
def fy(G:iL)(k:Nat):aK:=dK G.v0 G.D k
structure dm(bA:aK->Int->Prop)(T:Nat)(G:iL):Prop where
 n9:ML G.v0 G.D
 num:G.v0.num<=1000
 len:G.D.length<=T
 yg:T<=399
 re:G.D.length=T->∀c,¬(G.gs G.D.length).P c
 qC:∀k,k<=G.D.length->kD (fy G k) (G.gs k)
 dec:∀k,k<G.D.length->ua (fy G k) (G.gs k) (G.D.getD k [])
 zS:∀k,k<=G.D.length->∀c,(G.gs k).P c->∀y∈c,bA (fy G k) y
def vx(G:iL)(a:Int)(k:Nat):Prop:=kE (fy G k) (G.gs k) (qB (fy G k) a)
structure Go(a:Int)(G bd:iL):Prop where
 v0:bd.v0=G.v0
 Iu:∃E,bd.D=G.D++E
 b4:∀k,k<=G.D.length->r0 a (G.gs k) (bd.gs k)
 new:∀k,G.D.length<k->k<=bd.D.length->∀b,b≠a->vx bd b k
section
variable {bA:aK->Int->Prop} {T:Nat} {G bd Cb:iL} {a:Int}
theorem Cc(h:Go a G bd):G.D.length<=bd.D.length:=by
 obtain⟨E,e⟩:=h.Iu
 grind
theorem zT(h:Go a G bd){k:Nat}(hk:k<=G.D.length):fy bd k=fy G k:=by
 obtain⟨E,e⟩:=h.Iu;unfold fy;rw[h.v0,e];exact Iq _ _ _ hk
theorem Tv(h:Go a G bd){k:Nat}(hk:k<=G.D.length):bd.D.take k=G.D.take k:=by
 obtain⟨E,e⟩:=h.Iu
 grind
theorem aqk{g dV:e3}{s:bi}(an:s.phase=1->0<s.aC/\h5 s.aC=s.self)(h:r0 a g dV)(bx:s.self≠a)(q:kE v g s):kE v dV s:=by
 obtain⟨⟨dc,dt,gy,ef,np⟩,q⟩:=q;refine⟨⟨(h.cc _ bx).trans dc,λe c x=>dt e c (h.vc _ _ bx x),λe=>h.ext.v _ _ (gy e),λe=>h.ext.a _ _ _ (ef e),λr c x=>np r c (h.zz _ _ _ bx x)⟩,?_⟩;refine⟨λb ac=>h.ext.v _ _ (q.box b ac),λp x ag=>HF h.ext (an p).1 (q.bu p x ag),λp c x=> ?_,λr c x o=> ?_,λp=>h.ext.a _ _ _ (q.c4 p),λx ag=>h.ext.a _ _ _ (q.aM x ag),λp=>BE h.ext (q.dec p),λp=>h.ext.p _ (q.prop p)⟩
 ·rcases h.cb _ _ x with x|x
  ·exact q.rh p c x
  omega
 ·rcases h.cb _ _ x with x|x
  ·exact q.pT r c x o
  omega
theorem MR(h:Go a G bd){b:Int}(ac:b≠a){k:Nat}(hk:k<=G.D.length)(au:vx G b k):vx bd b k:=by
 unfold vx at *;rw[zT h hk];exact aqk (λe=>by
  have e: (0:Int)=1:=e;omega) (h.b4 k hk) ac au
theorem vy(a:Int)(G:iL):Go a G G:=⟨rfl,⟨[],by simp⟩,λ_ _=>zA _ _,λk h1 ad=>by omega⟩
theorem Tw(h:Go a G bd)(bp:Go a bd Cb):Go a G Cb:=by
 have af:=Cc h;refine⟨bp.v0.trans h.v0,?_,λk hk=>HG (h.b4 k hk) (bp.b4 k (by omega)),λk h1 ad b ac=> ?_⟩
 ·obtain⟨E,e⟩:=h.Iu;obtain⟨avx,e'⟩:=bp.Iu
  grind
 ·by_cases hk:k<=bd.D.length
  ·exact MR bp ac hk (h.new k h1 hk b ac)
  ·exact bp.new k (by omega) ad b ac
theorem j3(bf:dm bA T G){k:Nat}(hk:k<=G.D.length):b2 (fy G k)=true/\(fy G k).num=G.v0.num+k:=acd bf.n9 k hk
theorem zU(bf:dm bA T G){k j:Nat}(hk:k<=G.D.length)(aq:j<=G.D.length)(h: (fy G k).num=(fy G j).num):k=j:=by
 have h1:=(j3 bf hk).2;have ad:=(j3 bf aq).2;omega
end
structure gl(G:iL)(s:Mem):Prop where
 id:mq s.self=true
 b4:s.status=1
 cont:s.cont=[]
 first:s.first=G.v0
 af:s.hist.length<=G.D.length
 hist:s.hist=G.D.take s.hist.length
 view:s.view=fy G s.hist.length
 jO:bP s.view.mem s.self=true
 a7:pP s.view s.self s.a7
 jA:s.agr.view=s.view
 nr:s.agr.self=s.self
 hn:c2 s.agr
 h8:fW s.agr
 qD:kE s.view (G.gs s.hist.length) s.agr
 als:dG s.view s.als=true
 zV: (s.dbts.map (·.bG)).Pairwise λa b=>a<b
 sY:∀d∈s.dbts,d.bG≠s.self/\1<=d.j0/\d.j0<=6
 bj:∀k,s.hist.length<k->k<=G.D.length->vx G s.self k
structure aql(G:iL)(s:Mem):Prop where
 id:mq s.self=true
 eq:s= {dv with self:=s.self,cont:=s.cont}
 cont:dF s.cont 16=true
 out:bP s.cont s.self=false
 bj:∀k,k<=G.D.length->vx G s.self k
structure aqm(G:iL)(s:Mem):Prop where
 id:mq s.self=true
 b4:s.status=2
 cont:s.cont=[]
 first:s.first=G.v0
 af:s.hist.length<=G.D.length
 hist:s.hist=G.D.take s.hist.length
 view:s.view=fy G s.hist.length
 out:bP s.view.mem s.self=false
 a7:s.a7=pd
 als:s.als=[]
 dbts:s.dbts=[]
 agr:s.agr=gf
def Cd(G:iL)(s:Mem):Prop:=gl G s/\s.agr.dec=[]/\∀d∈s.dbts,d.bG∈ev s.view s.als false
def fz(G:iL)(s:Mem):Prop:=Cd G s\/aql G s\/aqm G s
def ns(G:iL)(src:Int):kX->Prop
 | .ac n=>∃k,k<=G.D.length/\n=(fy G k).num
 | .hm n l=>∃k,k<=G.D.length/\n=(fy G k).num/\dG (fy G k) l=true
 | .dP m=>∃k,k<=G.D.length/\eG (fy G k) m=true/\qt (fy G k) (G.gs k) m/\m.src=src
 | .hi f c=>f=G.v0/\∃k,k<=G.D.length/\c=G.D.take k
 | .e6=>True
def p1(G:iL)(self:Int)(p:c9):Prop:=ns G self p.bj/\p.dd≠self
section
variable {bA:aK->Int->Prop} {T:Nat} {G bd Cb:iL} {a:Int}
theorem aqn(h:Go a G bd){s:Mem}(bx:s.self≠a)(q:gl G s):gl bd s:=by
 have af:=Cc h;have ab:=zT h q.af;refine⟨q.id,q.b4,q.cont,q.first.trans h.v0.symm,bT q.af af,?_,?_,q.jO,q.a7,q.jA,q.nr,q.hn,q.h8,?_,q.als,q.zV,q.sY,λk h1 ad=> ?_⟩
 ·rw[Tv h q.af];exact q.hist
 ·rw[ab];exact q.view
 ·exact ams q.hn (h.b4 _ q.af) (by rw[q.nr];omega) q.qD
 ·by_cases hk:k<=G.D.length
  ·exact MR h bx hk (q.bj k h1 hk)
  ·exact h.new k (by omega) ad _ bx
theorem aqo(h:Go a G bd){s:Mem}(bx:s.self≠a)(q:fz G s):fz bd s:=by
 have af:=Cc h;rcases q with⟨dc,dt⟩|q|q
 ·exact .inl ⟨aqn h bx dc,dt⟩
 ·refine .inr (.inl ⟨q.id,q.eq,q.cont,q.out,λk hk=> ?_⟩);by_cases hq:k<=G.D.length
  ·exact MR h bx hq (q.bj k hq)
  ·exact h.new k (by omega) hk _ bx
 ·have ab:=zT h q.af;refine .inr (.inr ⟨q.id,q.b4,q.cont,q.first.trans h.v0.symm,bT q.af af,?_,?_,q.out,q.a7,q.als,q.dbts,q.agr⟩)
  ·rw[Tv h q.af];exact q.hist
  ·rw[ab];exact q.view
theorem acr(h:Go a G bd){src:Int}{f:kX}(q:ns G src f):ns bd src f:=by
 have af:=Cc h;cases f with
 |ac n=>
  obtain⟨k,hk,e⟩:=q;exact⟨k,by omega,by rw[zT h hk];exact e⟩
 |hm n l=>
  obtain⟨k,hk,e,aG⟩:=q;exact⟨k,by omega,by rw[zT h hk];exact e,by rw[zT h hk];exact aG⟩
 |dP m=>
  obtain⟨k,hk,e,aG,bc⟩:=q;refine⟨k,by omega,by rw[zT h hk];exact e,?_,bc⟩;rw[zT h hk];exact amr (h.b4 k hk).ext e aG
 |hi f c=>
  obtain⟨e,k,hk,aG⟩:=q;exact⟨e.trans h.v0.symm,k,by omega,by rw[Tv h hk];exact aG⟩
 |e6=>exact trivial
theorem Iv(h:Go a G bd){src:Int}{p:c9}(q:p1 G src p):p1 bd src p:=⟨acr h q.1,q.2⟩
theorem Iw(bf:dm bA T G){s:Mem}{k:Nat}(gS:mq s.self=true)(au:s.first=G.v0)(al:s.cont=[])(hk:k<=G.D.length)(bw:s.hist=G.D.take k)(bj:∀j,k<=j->j<=G.D.length->vx G s.self j):fz G (eR s (fy G k)):=by
 have ab:=(j3 bf hk).1;have af:s.hist.length=k:=by grind
 cases hi:bP (fy G k).mem s.self
 ·rw[ED hi];exact .inr (.inr ⟨gS,rfl,al,au,by grind,by grind,by grind,hi,rfl,rfl,rfl,rfl⟩)
 ·have ai:=aco ab hi;have js:=acn ab hi;have b1:=Ti ab hi;rw[vo hi,js,b1];refine .inl ⟨⟨gS,rfl,al,au,by grind,by grind,by grind,hi,apP _ _,rfl,rfl,ai,?_,?_,abg ab,.nil,(λd aa=>by cases aa),λj h1 ad=>bj j (by grind) ad⟩,rfl,λd aa=>by cases aa⟩
  ·intro e;have e: (0:Int)=1:=e;omega
  ·show kE (fy G k) (G.gs s.hist.length) (qB (fy G k) s.self);rw[af];exact bj k (bS _) hk
theorem MS(bf:dm bA T G){s:Mem}(ai:gl G s)(aa:s.agr.dec≠ []): (ej s).2=true/\∃bd,dm bA T bd/\Go s.self G bd/\fz bd (ej s).1:=by
 have lB:=j3 bf ai.af;have pF:=(sK lB.1).1;have jh:ua (fy G s.hist.length) (G.gs s.hist.length) s.agr.dec:=by
  have:=ai.qD.dO.dec aa;rw[ai.view]at this;omega
 have vz: (er s.view s.agr.dec).2=0:=by
  have h1:=zx ai.hn.dec aa;rw[ai.jA]at h1;exact fC h1
 have df:=HD pF (bf.qC _ ai.af) jh;have aB:s.hist.length<399:=by
  have h1:=bf.len;have ad:=bf.yg;have aN:=ai.af;by_cases he:s.hist.length=T
  ·have e:G.D.length=T:=by omega
   have:=bf.re e s.agr.dec
   grind
  ·omega
 have lV:ej s=(eR {s with hist:=s.hist++ [s.agr.dec]} (er s.view s.agr.dec).1,true):=by
  unfold ej;rw[c5 (λe=>aa (ut.1 (by omega))),vz,c5 (show ¬(400:Int)<=(s.hist.length:Int) by omega)];rfl
 rw[lV];refine⟨rfl,?_⟩;by_cases hk:s.hist.length<G.D.length
 ·have al:s.agr.dec=G.D.getD s.hist.length []:=amk pF (bf.qC _ ai.af) jh (bf.dec _ hk);refine⟨G,bf,vy _ _,?_⟩;have vA: (er s.view s.agr.dec).1=fy G (s.hist.length+1):=by
   rw[ai.view,al];rfl
  rw[vA];refine Iw bf ai.id ai.first ai.cont hk ?_ (λj h1 ad=>ai.bj j (by omega) ad)
  show s.hist++ [s.agr.dec]=G.D.take (s.hist.length+1);have ax:G.D.getD s.hist.length []=G.D[s.hist.length]:=by grind
  rw[fA hk,<-ai.hist,al,ax]
 ·have hS:s.hist.length=G.D.length:=by
   have:=ai.af;omega
  have avy:G.D.length+1<=T:=by
   have h1:=bf.len;by_cases he:G.D.length=T
   ·have:=bf.re he s.agr.dec
    grind
   ·omega
  have Tx:∀k,k<=G.D.length->fy ⟨G.v0,G.D++ [s.agr.dec],λj=>if j<=G.D.length then G.gs j else r7⟩ k=fy G k:=λk hk=>Iq _ _ _ hk;have avz:∀k,k<=G.D.length->(λj=>if j<=G.D.length then G.gs j else r7) k=G.gs k:=λk hk=>b3 hk;have Bd: (λj=>if j<=G.D.length then G.gs j else r7) (G.D.length+1)=r7:=bm (by omega);have wz: (G.D++ [s.agr.dec]).length=G.D.length+1:=by simp
  have l1: (G.D++ [s.agr.dec]).getD G.D.length []=s.agr.dec:=by simp
  have ha:∀b,vx ⟨G.v0,G.D++ [s.agr.dec],λj=>if j<=G.D.length then G.gs j else r7⟩ b (G.D.length+1):=λb=>by
   unfold vx;simp only[];rw[bm (by omega)];exact MP _ _
  have zW:Go s.self G ⟨G.v0,G.D++ [s.agr.dec],λj=>if j<=G.D.length then G.gs j else r7⟩:=by
   refine⟨rfl,⟨_,rfl⟩,λk hk=> ?_,λk h1 ad b _=> ?_⟩
   ·simp only[];rw[b3 hk];exact zA _ _
   grind
  have aqp: (er (fy G G.D.length) s.agr.dec).2=0:=by
   rw[<-hS,<-ai.view];omega
  have dA:dm bA T ⟨G.v0,G.D++ [s.agr.dec],λj=>if j<=G.D.length then G.gs j else r7⟩:=by
   refine⟨⟨bf.n9.1,λi hi=> ?_⟩,bf.num,by grind,bf.yg,λ_ c al=> ?_,λk hk=> ?_,λk hk=> ?_,λk hk c al=> ?_⟩
   ·rw[wz]at hi;by_cases h:i<G.D.length
    ·have:=bf.n9.2 i h;unfold r3 at this⊢;rw[Iq _ _ _ (Nat.le_of_lt h),Tp h];omega
    ·have di:i=G.D.length:=by omega
     subst di;unfold r3;rw[Iq _ _ _ (bS _),l1];exact e4 aqp
   ·simp only[wz]at al;rw[bm (by omega)]at al;exact al
   ·simp only[wz]at hk;by_cases h:k<=G.D.length
    ·rw[Tx k h];simp only[];rw[b3 h];exact bf.qC k h
    ·simp only[];rw[bm h];exact acm _
   ·simp only[wz]at hk;have hk:k<=G.D.length:=by omega
    rw[Tx k hk];simp only[];rw[b3 hk];by_cases h:k<G.D.length
    ·rw[Tp h];exact bf.dec k h
    grind
   ·simp only[]at al;by_cases h:k<=G.D.length
    ·rw[b3 h]at al;rw[Tx k h];exact bf.zS k h c al
    ·rw[bm h]at al;exact al.elim
  refine⟨_,dA,zW,?_⟩;have vA: (er s.view s.agr.dec).1=fy ⟨G.v0,G.D++ [s.agr.dec],λj=>if j<=G.D.length then G.gs j else r7⟩ (G.D.length+1):=by
   unfold fy dK;simp only[];rw[l1,Iq _ _ _ (bS _),ai.view,hS];rfl
  rw[vA];refine Iw dA ai.id ai.first ai.cont (by simp) ?_ (λj h1 ad=> ?_)
  ·show s.hist++ [s.agr.dec]=(G.D++ [s.agr.dec]).take (G.D.length+1);rw[w5 (by simp),ai.hist,hS,gn]
  grind
theorem EU{s:Mem}(aa:s.agr.dec=[]):ej s=(s,false):=by
 unfold ej
 grind
theorem MT(s:Mem)(v:aK): (eR s v).self=s.self:=by
 unfold eR;cases bP v.mem s.self<;>rfl
theorem Ty(s:Mem): (ej s).1.self=s.self:=by
 unfold ej;cases decide ((s.agr.dec.length:Int)=0)
 ·cases (!decide ((er s.view s.agr.dec).2=0)||decide (400<=(s.hist.length:Int)))
  ·exact MT _ _
  ·rfl
 ·rfl
theorem aqq(s:Mem): (fp s).self=s.self:=by
 unfold fp;cases decide (s.status=1)
 ·rfl
 ·cases (ej s).2
  ·exact Ty s
  ·exact Ty s
theorem Tz(bf:dm bA T G){s:Mem}(ai:gl G s):∃bd,dm bA T bd/\Go s.self G bd/\fz bd (fp s):=by
 rw[sV ai.b4];by_cases aa:s.agr.dec=[]
 ·rw[EU aa];refine⟨G,bf,vy _ _,.inl ⟨?_,aa,λd aa=> ?_⟩⟩
  ·exact⟨ai.id,ai.b4,ai.cont,ai.first,ai.af,ai.hist,ai.view,ai.jO,ai.a7,ai.jA,ai.nr,ai.hn,ai.h8,ai.qD,ai.als,ai.zV.sublist (List.filter_sublist.map _),λd aa=>ai.sY d (ko.1 aa).1,ai.bj⟩
  ·have:=(ko.1 aa).2;unfold mt at this;exact iR.1 this
 ·obtain⟨h1,bd,ad,aN,bs⟩:=MS bf ai aa
  grind
end
section
variable {bA:aK->Int->Prop} {T:Nat} {G bd Cb:iL} {a:Int}
def acs(G:iL)(s:Mem)(p:dN):Prop:=eG (fy G s.hist.length) p.m=true/\qt (fy G s.hist.length) (G.gs s.hist.length) p.m/\p.m.src=s.self/\p.dd≠s.self
theorem Ix(bf:dm bA T G){s:Mem}(ai:gl G s){x:bi×List dN}(aV:rZ s.agr x){g0:e3}(yJ:r0 s.self (G.gs s.hist.length) g0)(cI: (∀c,g0.P c->(G.gs s.hist.length).P c)\/s.hist.length<T)
  (an:∀c,g0.P c->(G.gs s.hist.length).P c\/∀y∈c,bA s.view y) (ao:pU s.view g0 s.agr x):∃bd,dm bA T bd/\Go s.self G bd/\gl bd {s with agr:=x.1}/\∀p∈x.2,acs bd s p:=by
 obtain⟨dV,i1,gH,fl,dc,f1⟩:=ao;obtain⟨ie,lq,oM,MB,TA⟩:=aV;rw[ai.nr]at gH;have bU:=HG yJ gH;have zW:Go s.self G ⟨G.v0,G.D,λj=>if j=s.hist.length then dV else G.gs j⟩:=by
  refine⟨rfl,⟨[],by simp⟩,λk hk=> ?_,λk h1 ad=>by grind⟩;simp only[];by_cases h:k=s.hist.length
  ·grind
  ·rw[bm h];exact zA _ _
 have lB:∀k,fy ⟨G.v0,G.D,λj=>if j=s.hist.length then dV else G.gs j⟩ k=fy G k:=λ_=>rfl;have dA:dm bA T ⟨G.v0,G.D,λj=>if j=s.hist.length then dV else G.gs j⟩:=by
  refine⟨bf.n9,bf.num,bf.len,bf.yg,λe c al=> ?_,λk hk=> ?_,λk hk=> ?_,λk hk c al=> ?_⟩
  ·simp only[]at e al;by_cases h:G.D.length=s.hist.length
   ·rw[b3 h]at al;rcases cI with cI|cI
    ·have:=bf.re e c
     grind
    ·omega
   ·rw[bm h]at al;exact bf.re e c al
  ·rw[lB];simp only[];by_cases h:k=s.hist.length
   ·rw[b3 h,h,<-ai.view];exact i1
   ·rw[bm h];exact bf.qC k hk
  ·rw[lB];simp only[];by_cases h:k=s.hist.length
   ·rw[b3 h,h];have:=bf.dec k hk;rw[h]at this;exact BE bU.ext this
   ·rw[bm h];exact bf.dec k hk
  ·simp only[]at al;by_cases h:k=s.hist.length
   ·rw[b3 h]at al;rw[lB,h];rcases an c (fl c al)with q|q
    ·exact bf.zS _ ai.af c q
    ·rw[<-ai.view];exact q
   ·rw[bm h]at al;exact bf.zS k hk c al
 refine⟨_,dA,zW,⟨ai.id,ai.b4,ai.cont,ai.first,ai.af,ai.hist,ai.view,ai.jO,ai.a7,oM.trans ai.jA,MB.trans ai.nr,ie,lq,?_,ai.als,ai.zV,ai.sY,λk h1 ad=> ?_⟩,λp an=> ?_⟩
 ·grind
 ·unfold vx;rw[lB];simp only[];rw[bm (by grind)];exact ai.bj k h1 ad
 ·have cm:=TA p an;refine⟨by rw[lB,<-ai.view,<-ai.jA];exact cm.pS,?_,by rw[<-ai.nr];exact cm.src,by rw[<-ai.nr];exact cm.lP⟩;rw[lB,<-ai.view]
  grind
variable{s:Mem}
theorem aqr{p:dN}(bx:p.dd≠s.self):∀x∈qz s p,x≠s.self:=λx ag=>by
 unfold qz at ag;cases h:decide (p.dd=0)
 ·grind
 ·rw[h]at ag;simp only[b6,pY]at ag;have:=(ko.1 ag).2;unfold hZ at this
  grind
theorem TB{s':Mem}(ae:s'.self=s.self)(af:s.hist.length<=G.D.length){l:List dN}(h:∀p∈l,acs G s p):∀p∈h0 s' l,p1 G s.self p:=λp an=>by
 unfold h0 at an;obtain⟨q,bX,an⟩:=I4.1 an;unfold Ca at an;obtain⟨x,ag,rfl⟩:=fr.1 an;obtain⟨h1,ad,aN,bs⟩:=h q bX;exact⟨⟨_,af,h1,ad,aN⟩,by rw[<-ae];exact aqr (by omega) x ag⟩
theorem acu(au:s.first=G.v0)(af:s.hist.length<=G.D.length)(bw:s.hist=G.D.take s.hist.length){dd:Int}(bx:dd≠s.self):∀p∈ [uh s dd],p1 G s.self p:=λp an=>by
 rw[eJ.1 an];exact⟨⟨au,_,af,bw⟩,bx⟩
theorem EV:∀p∈ ([]:List c9),p1 G a p:=λp an=>by cases an
theorem acv(bf:dm bA T G){s:Mem}(ai:Cd G s){m:Nat}(az:m<=G.D.length):∀j,s.hist.length+j<=m->fz G (iq s G.v0 (G.D.take m) s.hist.length j)/\(iq s G.v0 (G.D.take m) s.hist.length j).self=s.self/\
  ((iq s G.v0 (G.D.take m) s.hist.length j).status=1->(iq s G.v0 (G.D.take m) s.hist.length j).hist.length=s.hist.length+j)
 |0,_=>⟨.inl ai,rfl,λ_=>rfl⟩
 |j+1,aq=>by
  obtain⟨h1,ad,aN⟩:=acv bf ai az j (by omega);unfold iq;cases bU:decide ((iq s G.v0 (G.D.take m) s.hist.length j).status=1)
  ·grind
  ·have bU:=fC bU;have af:=aN bU;simp only[b6];generalize iq s G.v0 (G.D.take m) s.hist.length j=E at *;rcases h1 with⟨q,dt⟩|q|q
   ·have ab:dK G.v0 (G.D.take m) (s.hist.length+j+1)=fy G (s.hist.length+j+1):=ER _ _ (by omega);rw[ab];refine⟨Iw bf q.id q.first q.cont (by omega) ?_ (λi a b=>q.bj i (by omega) b),?_,λ_=> ?_⟩
    ·show E.hist++ [(G.D.take m).getD (s.hist.length+j) []]=_;have aB:s.hist.length+j<G.D.length:=by omega
     have ax:G.D.getD (s.hist.length+j) []=G.D[s.hist.length+j]:=by grind
     rw[Ip (by omega),fA aB,ax];have:=q.hist
     grind
    ·rw[MT];exact ad
    ·have:∀ (s:Mem) (v:aK),(eR s v).hist=s.hist:=λs v=>by
      unfold eR;cases bP v.mem s.self<;>rfl
     grind
   ·rw[q.eq]at bU;have bU: (0:Int)=1:=bU;omega
   ·rw[q.b4]at bU;omega
theorem TC(bf:dm bA T G){s:Mem}(ai:Cd G s){m:Nat}(az:m<=G.D.length):fz G (lE s G.v0 (G.D.take m))/\(lE s G.v0 (G.D.take m)).self=s.self:=by
 have af: (G.D.take m).length=m:=by grind
 unfold lE;cases h1: (!l0 G.v0 s.first||decide (((G.D.take m).length:Int)<=(s.hist.length:Int)))
 ·rw[bD];cases ij (λi=>iG (s.hist.getD i []) ((G.D.take m).getD i [])) s.hist.length
  ·exact⟨.inl ai,rfl⟩
  ·simp only[iW,ib,af]at h1;have:=acv bf ai az ((G.D.take m).length-s.hist.length) (by omega)
   grind
 ·exact⟨.inl ai,rfl⟩
theorem aqs(bf:dm bA T G){s:Mem}(h:fz G s):∃bd,dm bA T bd/\Go s.self G bd/\fz bd (fp s):=by
 rcases h with⟨q,_⟩|q|q
 ·exact Tz bf q
 ·have ae:s.status=0:=by rw[q.eq];rfl
  have:fp s=s:=If (c5 (by omega));rw[this];exact⟨G,bf,vy _ _,.inr (.inl q)⟩
 ·have:fp s=s:=If (c5 (by have:=q.b4;omega));rw[this];exact⟨G,bf,vy _ _,.inr (.inr q)⟩
theorem TD(ai:gl G s){L:List bR}(h:dG s.view L=true):gl G {s with als:=L}:=
 ⟨ai.id,ai.b4,ai.cont,ai.first,ai.af,ai.hist,ai.view,ai.jO,ai.a7,ai.jA,ai.nr,ai.hn,ai.h8,ai.qD,h,ai.zV,ai.sY,ai.bj⟩
theorem TE(ai:gl G s){d:ju}(h:pP s.view s.self d):gl G {s with a7:=d}:=
 ⟨ai.id,ai.b4,ai.cont,ai.first,ai.af,ai.hist,ai.view,ai.jO,h,ai.jA,ai.nr,ai.hn,ai.h8,ai.qD,ai.als,ai.zV,ai.sY,ai.bj⟩
theorem acw{t:Mem}(ai:gl G s)(h1:t.view=s.view)(ad:t.self=s.self)(aN:t.hist=s.hist)(bs:t.first=s.first)(cm:t.status=s.status)(eK:t.cont=s.cont)(jj:pP s.view s.self t.a7)(st:t.agr=s.agr)(TF:dG s.view t.als=true)
  (aqt: (t.dbts.map (·.bG)).Pairwise λa b=>a<b) (avA:∀d∈t.dbts,d.bG≠s.self/\1<=d.j0/\d.j0<=6):gl G t:=
 ⟨by rw[ad];exact ai.id,cm.trans ai.b4,eK.trans ai.cont,bs.trans ai.first,by rw[aN];exact ai.af,by rw[aN];exact ai.hist,by rw[h1,aN];exact ai.view,by rw[h1,ad];exact ai.jO,by grind,by rw[st,h1];exact ai.jA,by rw[st,ad];exact ai.nr,by rw[st];exact ai.hn,by rw[st];exact ai.h8,by rw[h1,aN,st];exact ai.qD,by grind,aqt,by grind,by rw[ad,aN];exact ai.bj⟩
theorem MU(s:Mem)(x:Int):∀i,(kF s x i).cont=s.cont/\(kF s x i).a7=s.a7
 |0=>⟨rfl,rfl⟩
 |i+1=>by
  have a1:=MU s x i;have h:=Mq (kF s x i) ⟨s.view.num,(l3 s.view.mem s.self x).getD i 0,s.self,x⟩;exact⟨h.2.2.2.2.2.1.trans a1.1,h.2.2.2.2.2.2.1.trans a1.2⟩
theorem TG(ai:gl G s)(x:Int):gl G (gU s x):=by
 have h1:=zM s x;have ad:=zQ s x;have aN:=MU s x (l3 s.view.mem s.self x).length;have bs:=ach x ai.als;exact acw ai h1.1 h1.2.1 h1.2.2.1 ad.2.1 ad.1 aN.1 (by have e: (gU s x).a7=s.a7:=aN.2;rw[e];exact ai.a7) ad.2.2.2 bs (by rw[h1.2.2.2.1];exact ai.zV) (by rw[h1.2.2.2.1];exact ai.sY)
theorem TH(bf:dm bA T G){s:Mem}(cT:fz G s){src:Int}(bx:src≠s.self){f:kX}(au:ns G src f):
  (eM s src f).1.self=s.self/\∃bd,dm bA T bd/\Go s.self G bd/\fz bd (eM s src f).1/\∀p∈ (eM s src f).2,p1 bd s.self p:=by
 unfold eM;rcases cT with⟨ai,aa,pV⟩|q|q
 ·rw[b3 ai.b4];have lB:=j3 bf ai.af;have D3:s.view.num=G.v0.num+s.hist.length:=by rw[ai.view];omega
  have iO:∀ {t:Mem},t.self=s.self->(fp t).self=s.self:=λh=>(aqq _).trans h;have u2:∀ {t:Mem},t.self=s.self->gl G t->∃bd,dm bA T bd/\Go s.self G bd/\fz bd (fp t):=λh1 ad=>by
   obtain⟨bd,a,b,c⟩:=Tz bf ad
   grind
  have aqu: (fp s).self=s.self/\∃bd,dm bA T bd/\Go s.self G bd/\fz bd (fp s)/\∀p∈ [uh s src],p1 bd s.self p:=by
   obtain⟨bd,a,b,c⟩:=u2 rfl ai;exact⟨iO rfl,bd,a,b,c,λp an=>Iv b (acu ai.first ai.af ai.hist bx p an)⟩
  have K1: (fp s).self=s.self/\∃bd,dm bA T bd/\Go s.self G bd/\fz bd (fp s)/\∀p∈ ([]:List c9),p1 bd s.self p:=by
   grind
  have lV:∀ {t:Mem},t.self=s.self->gl G t->(fp t).self=s.self/\∃bd,dm bA T bd/\Go s.self G bd/\fz bd (fp t)/\∀p∈ ([]:List c9),p1 bd s.self p:=λh1 ad=>by
   grind
  unfold vv;cases f with
  |hi f c=>
   obtain⟨rfl,m,az,rfl⟩:=au;obtain⟨fJ,eP⟩:=TC bf ⟨ai,aa,pV⟩ az;obtain⟨bd,a,b,c⟩:=aqs bf fJ
   grind
  |e6=>
   cases cS:bP s.view.mem src
   ·have ao:=TG ai src;have h1:=(zM s src).2.1;obtain⟨bd,a,b,c⟩:=u2 h1 ao;refine⟨iO h1,bd,a,b,c,λp an=>Iv b ?_⟩;have:=acu ao.first ao.af ao.hist (dd:=src) (by omega) p an
    grind
   grind
  |ac n=>
   simp only[];by_cases h1:n<s.view.num
   ·grind
   ·rw[bm h1];by_cases ad:s.view.num<n
    ·grind
    ·rw[bm ad];cases bP s.view.mem src
     ·grind
     ·exact lV rfl (TE ai (Tj (by rw[ai.view];grind) ai.jO ai.a7 src))
  |hm n l=>
   simp only[];by_cases h1:n<s.view.num
   ·grind
   ·rw[bm h1];by_cases ad:s.view.num<n
    ·grind
    ·rw[bm ad];obtain⟨k,hk,e,ab⟩:=au;have mg:k=s.hist.length:=zU bf hk ai.af (by omega);rw[mg,<-ai.view]at ab;exact lV rfl (TD ai (Mx ai.als ab).1)
  |dP m=>
   obtain⟨k,hk,ab,ui,ig⟩:=au;have r8:=(kC ab).2;simp only[];by_cases h1:m.view<s.view.num
   ·grind
   ·rw[bm h1];by_cases ad:s.view.num<m.view
    ·grind
    ·rw[bm ad];have mg:k=s.hist.length:=zU bf hk ai.af (by omega);rw[mg,<-ai.view]at ab ui;have hb:=bf.qC _ ai.af;rw[<-ai.view]at hb;obtain⟨cy,tD⟩:=L7 hb ai.hn ai.h8 ai.jA ai.qD ab (by rw[ig,ai.nr];omega) ui;have vB:=zy ai.hn ai.h8 cy;obtain⟨p2,g1,g2,g3,g4⟩:=Ix bf ai vB (zA _ _) (.inl λ_ h=>h) (λ_ h=>.inl h) tD;rw[e4 cy,b6];obtain⟨yh,cV,dj,hT⟩:=Tz g1 g3;have hL:=Cc g2;exact⟨iO rfl,yh,cV,Tw g2 dj,hT,λp an=>Iv dj (TB (s:=s) rfl (by omega) g4 p an)⟩
 ·have ae:s.status=0:=by rw[q.eq];rfl
  rw[bm (by omega),b3 ae];have rL:s.self=s.self/\∃bd,dm bA T bd/\Go s.self G bd/\fz bd s/\∀p∈ ([]:List c9),p1 bd s.self p:=⟨rfl,G,bf,vy _ _,.inr (.inl q),EV⟩
  cases f with
  |hi f c=>
   obtain⟨rfl,m,az,rfl⟩:=au;unfold yf vr;have af: (G.D.take m).length=m:=by grind
   have ab:dK G.v0 (G.D.take m) (G.D.take m).length=fy G m:=by rw[af];exact ER _ _ (bS _)
   simp only[ab];cases cS:bP (fy G m).mem s.self
   ·refine⟨rfl,G,bf,vy _ _,.inr (.inl ⟨q.id,?_,(lD (j3 bf az).1).2.2,cS,q.bj⟩),EV⟩;rw[bD];conv=>lhs;rw[q.eq]
   ·rw[b6];exact⟨MT _ _,G,bf,vy _ _,Iw bf q.id rfl rfl az rfl (λj _ ad=>q.bj j ad),EV⟩
  |e6=>exact rL
  |ac n=>exact rL
  |hm n l=>exact rL
  |dP m=>exact rL
 ·rw[bm (by have:=q.b4;omega),bm (by have:=q.b4;omega)];exact⟨rfl,G,bf,vy _ _,.inr (.inr q),EV⟩
end
def j4(s:Mem):List c9:=(kh (cQ s.view.mem s.self)).map (λm=>⟨m,.ac s.view.num⟩)++bif decide (0<(s.als.length:Int))then(pY s).map (λm=>⟨m,.hm s.view.num s.als⟩)else []
theorem aqv(s:Mem): (j4 s).map sX=B3 s:=by
 unfold j4 B3;rw[ew,oU];congr 1;cases decide (0<(s.als.length:Int))
 ·rfl
 ·simp only[b6,oU];rfl
def uj(s:Mem):List c9:=
 bif decide ((s.agr.prop.length:Int)=0)then
  bif (dl s.view s.als).2 then
   bif decide ((eH s.agr (dl s.view s.als).1).2.2=0)then h0 {s with agr:=(eH s.agr (dl s.view s.als).1).1} (eH s.agr (dl s.view s.als).1).2.1
   else []
  else []
 else []
theorem acx(s:Mem): (uj s).map sX=(fa s).2:=by
 unfold uj fa;cases decide ((s.agr.prop.length:Int)=0)
 ·rfl
 ·cases (dl s.view s.als).2
  ·rfl
  ·cases decide ((eH s.agr (dl s.view s.als).1).2.2=0)
   ·rfl
   ·exact MN _ _
def sZ(s:Mem):List c9:=h0 {s with agr:=(cN s.agr).1} (cN s.agr).2
def Ce(s:Mem):List c9:=
 bif (ej (iK (fa (bY s)).1).1).2 then uj (bY s)++sZ (fa (bY s)).1
 else uj (bY s)++sZ (fa (bY s)).1++j4 (ej (iK (fa (bY s)).1).1).1
theorem aqw(s:Mem): (Ce s).map sX=(pn s).2:=by
 unfold Ce pn;cases (ej (iK (fa (bY s)).1).1).2
 ·simp only[bD,ew,acx,aqv];rw[show (sZ (fa (bY s)).1).map sX=_ from MN _ _];rfl
 ·simp only[b6,ew,acx];rw[show (sZ (fa (bY s)).1).map sX=_ from MN _ _];rfl
def fi(s:Mem):Mem×List c9:=if s.status=1 then((pn s).1,Ce s)else if s.status=0 then(s,s.cont.map λm=>⟨m,.e6⟩)else(s,[])
structure Cf(s:Mem):Prop where
 mE:hl s
 v:pk s=true
 act:s.status=1->ME s
section
variable {bA:aK->Int->Prop} {T:Nat} {G bd Cb:iL} {a:Int}
theorem Pi(s:Mem)(l:List Int):∀i,(km s l i).cont=s.cont/\(km s l i).a7=s.a7
 |0=>⟨rfl,rfl⟩
 |i+1=>by
  have a1:=Pi s l i;have h:=MU (km s l i) (l.getD i 0) (l3 (km s l i).view.mem (km s l i).self (l.getD i 0)).length;exact⟨h.1.trans a1.1,h.2.trans a1.2⟩
theorem TI(s:Mem): (bY s).cont=s.cont/\(bY s).a7=(cO s.a7).1:=by
 have h:=wQ {s with a7:=(cO s.a7).1} (cO s.a7).2 (cO s.a7).2.length;have ad:=λt:Mem=>Pi {t with dbts:=kl t.self t.dbts (ev t.view t.als false)} (iU t.self t.dbts (ev t.view t.als false)) (iU t.self t.dbts (ev t.view t.als false)).length;have ad:=ad (mu {s with a7:=(cO s.a7).1} (cO s.a7).2);exact⟨ad.1.trans h.2.2.2.2.2.2.2.2.1,ad.2.trans h.2.2.2.2.2.2.2.1⟩
theorem acy(s:Mem)(h:∀d∈s.dbts,1<=d.j0/\d.j0<=6):zR (bY s).view (bY s).self (bY s).als (bY s).dbts:=by
 have hk:=wQ {s with a7:=(cO s.a7).1} (cO s.a7).2 (cO s.a7).2.length;have h1:=ap8 (s:=mu {s with a7:=(cO s.a7).1} (cO s.a7).2) (by
  have e: (mu {s with a7:=(cO s.a7).1} (cO s.a7).2).dbts=s.dbts:=hk.2.2.2.1
  grind)
 have ao:=abX (mu {s with a7:=(cO s.a7).1} (cO s.a7).2);rw[<-ao.1,<-ao.2.1]at h1;exact h1
theorem MV(bf:dm bA T G){s:Mem}(ai:gl G s):gl G (bY s):=by
 obtain⟨cV,dj,hT,hN,nk,qu⟩:=qA s;obtain⟨fJ,eP⟩:=TI s;have pV:=acy s λd aa=>(ai.sY d aa).2;have lB:=j3 bf ai.af;refine acw ai cV dj hT qu nk fJ ?_ hN (Is ai.als) pV.up (λd aa=> ?_)
 ·rw[eP];exact apQ (by rw[ai.view];grind) ai.jO ai.a7
 ·have:=pV.ES d aa;omega
def l4(bA:aK->Int->Prop)(s:Mem):Prop:=s.status=1->(dl (bY s).view (bY s).als).2=true->∀y∈ (dl (bY s).view (bY s).als).1,bA (bY s).view y
theorem MW(bf:dm bA T G){s:Mem}(ai:gl G s)(aw:s.hist.length<T)(df: (dl s.view s.als).2=true->∀y∈ (dl s.view s.als).1,bA s.view y):∃bd,dm bA T bd/\Go s.self G bd/\gl bd (fa s).1/\∀p∈uj s,p1 bd s.self p:=by
 have rL:∃bd,dm bA T bd/\Go s.self G bd/\gl bd s/\∀p∈ ([]:List c9),p1 bd s.self p:=⟨G,bf,vy _ _,ai,EV⟩
 unfold fa uj;cases decide ((s.agr.prop.length:Int)=0)
 ·grind
 ·cases ad: (dl s.view s.als).2
  ·grind
  ·cases aN:decide ((eH s.agr (dl s.view s.als).1).2.2=0)
   ·grind
   ·have cy:=fC aN;have hb:=bf.qC _ ai.af;rw[<-ai.view]at hb;have tD:=amJ hb ai.hn ai.h8 ai.jA ai.qD cy;have vB:=R5 ai.hn ai.h8 cy;have aQ:=(aaE (c:=(dl s.view s.als).1) hb s.self).2;obtain⟨p2,g1,g2,g3,g4⟩:=Ix bf ai vB aQ (.inr aw) (λfD al=>by
     rcases al with al|al;all_goals grind) tD
    have hL:=Cc g2;exact⟨p2,g1,g2,g3,TB (s:=s) rfl (by have:=ai.af;omega) g4⟩
theorem TJ(bf:dm bA T G){s:Mem}(ai:gl G s):∃bd,dm bA T bd/\Go s.self G bd/\gl bd (iK s).1/\∀p∈sZ s,p1 bd s.self p:=by
 have hb:=bf.qC _ ai.af;rw[<-ai.view]at hb;have tD:=amI hb ai.hn ai.h8 ai.jA ai.qD;have vB:=Er ai.hn ai.h8;obtain⟨p2,g1,g2,g3,g4⟩:=Ix bf ai vB (zA _ _) (.inl λ_ h=>h) (λ_ h=>.inl h) tD;have hL:=Cc g2;exact⟨p2,g1,g2,g3,TB (s:=s) rfl (by have:=ai.af;omega) g4⟩
theorem aqx(bf:dm bA T G){s:Mem}(ai:gl G s):∀p∈j4 s,p1 G s.self p:=λp an=>by
 have lB:=j3 bf ai.af;have ye:=(lD lB.1).2.2;rw[<-ai.view]at ye;unfold j4 at an;rcases eb.1 an with an|an
 ·obtain⟨m,az,rfl⟩:=fr.1 an;have:=abe ye (iR.1 ai.jO) m (HK.1 az);exact⟨⟨_,ai.af,by rw[ai.view]⟩,this.2⟩
 ·cases h:decide (0<(s.als.length:Int))
  ·grind
  ·rw[h,b6]at an;obtain⟨m,az,rfl⟩:=fr.1 an;have az:=(ko.1 az).2;unfold hZ at az;exact⟨⟨_,ai.af,by rw[ai.view],by rw[<-ai.view];exact ai.als⟩,by grind⟩
theorem MX(bf:dm bA T G){s:Mem}(cT:fz G s)(aw:s.hist.length<T)(df:l4 bA s):
  (fi s).1.self=s.self/\∃bd,dm bA T bd/\Go s.self G bd/\fz bd (fi s).1/\∀p∈ (fi s).2,p1 bd s.self p:=by
 unfold fi;rcases cT with⟨ai,aa,pV⟩|q|q
 ·rw[b3 ai.b4];obtain⟨cV,dj,hT,hN,nk,qu⟩:=qA s;have aqy:=acy s λd aa=>(ai.sY d aa).2;have qw:=MV bf ai;have lR:=Ig (bY s);obtain⟨yh,g1,g2,g3,g4⟩:=MW bf qw (by grind) (df ai.b4);unfold Ce pn;generalize bY s=S3 at *;rw[dj]at g2 g4;generalize uj S3=TK at *;generalize fa S3=P at *;obtain⟨S4,B5⟩:=P;simp only[]at lR g3⊢;obtain⟨fl,ff,lX,oa,B6,Tc,MG⟩:=lR;obtain⟨EW,nA,uP,kY,TL⟩:=TJ g1 g3;have gi: (iK S4).1.self=S4.self/\(iK S4).1.als=S4.als/\(iK S4).1.view=S4.view/\(iK S4).1.dbts=S4.dbts:=⟨rfl,rfl,rfl,rfl⟩
  generalize sZ S4=TM at *;generalize(iK S4).2=Ik at *;generalize(iK S4).1=S5 at *;rw[ff,dj]at uP TL;have TN:S5.self=s.self:=by omega
  have acz:=Tw g2 uP;have aqz:∀p∈TK++TM,p1 EW s.self p:=λp an=>by
   rcases eb.1 an with an|an
   ·exact Iv uP (g4 p an)
   grind
  by_cases dq:S5.agr.dec=[]
  ·rw[EU dq,bD,bD];refine⟨TN,EW,nA,acz,.inl ⟨kY,dq,λd aa=> ?_⟩,λp an=> ?_⟩
   ·simp only[]at aa⊢;rw[gi.2.2.2,MG]at aa;have:=(aqy.ES d aa).2.1
    grind
   ·rcases eb.1 an with an|an
    ·grind
    ·have:=aqx nA kY p an
     grind
  ·obtain⟨gH,aqA,s2,xJ,TO⟩:=MS nA kY dq;rw[gH,b6,b6];rw[TN]at xJ;exact⟨(Ty S5).trans TN,aqA,s2,Tw acz xJ,TO,λp an=>Iv xJ (aqz p an)⟩
 ·have ae:s.status=0:=by rw[q.eq];rfl
  rw[bm (by omega),b3 ae];refine⟨rfl,G,bf,vy _ _,.inr (.inl q),λp an=> ?_⟩;obtain⟨m,az,rfl⟩:=fr.1 an;refine⟨aj,λe=> ?_⟩;have e:m=s.self:=e;have:=q.out;rw[<-e,iR.2 az]at this
  grind
 ·rw[bm (by have:=q.b4;omega),bm (by have:=q.b4;omega)];exact⟨rfl,G,bf,vy _ _,.inr (.inr q),EV⟩
end
variable{m:c1}
theorem MY(ab:b2 v=true)(h:eG v m=true):vq m:=by
 obtain⟨h1,ad⟩:=kC h;obtain⟨ie,lq,oM⟩:=lD ab;have ae:=HP oM _ (iR.1 h1);have hk:=zv h;have ac:=ph h;have jZ:∀ {r:Int},gJ v r=true->1024<r/\r<1073741824:=λan=>⟨q9 (nK an).1,Sc (nK an).1⟩;have vz:∀ {c:List Int},ga v c=true->mL c:=λal=>acc (by decide) (x2 (fC al));have aQ:mL []:=⟨by simp,λx ag=>by cases ag⟩
 unfold eG at h;cases al: (!b2 v|| !bP v.mem m.src|| !decide (m.view=v.num))
 ·simp only[al,bD]at h;rcases hk with hk|hk|hk|hk|hk|hk;all_goals simp only[hk]at h
  ·simp only[vP,NJ,b6,cq,fx]at h;exact⟨by omega,by omega,by omega,by omega,by omega,vz h.2⟩
  ·simp only[show decide ((2:Int)=1)=false from rfl,show decide ((2:Int)=6)=false from rfl,vP,Aa,b6,bD,cq,fx]at h;have:=jZ h.1.1.1;have kx:m.cut=[]:=ut.1 (by omega);exact⟨by omega,by omega,by omega,by omega,by omega,by grind⟩
  ·have aN:=ac.2.2.1 hk;have:=jZ aN.1;rcases aN.2.2 with⟨aA,aG⟩| ⟨aA,aG⟩
   ·exact⟨by omega,by omega,by omega,by omega,by omega,by grind⟩
   ·refine⟨by omega,by omega,by omega,by omega,?_,vz aG⟩
    grind
  ·simp only[show decide ((4:Int)=1)=false from rfl,show decide ((4:Int)=6)=false from rfl,show decide ((4:Int)=2)=false from rfl,show decide ((4:Int)=3)=false from rfl,vP,Aa,b6,bD,cq,fx]at h;have:=jZ h.1.1.1;exact⟨by omega,by omega,by omega,by omega,by omega,vz h.2⟩
  ·simp only[show decide ((5:Int)=1)=false from rfl,show decide ((5:Int)=6)=false from rfl,show decide ((5:Int)=2)=false from rfl,show decide ((5:Int)=3)=false from rfl,show decide ((5:Int)=4)=false from rfl,vP,Aa,b6,bD,cq,fx]at h;have:=jZ h.1.1;exact⟨by omega,by omega,by omega,by omega,by omega,vz h.2⟩
  ·simp only[show decide ((6:Int)=1)=false from rfl,vP,Fh,b6,cq,fx]at h;exact⟨by omega,by omega,by omega,by omega,by omega,vz h.2⟩
 grind
section
variable {bA:aK->Int->Prop} {T:Nat} {G:iL}
theorem acA(bf:dm bA T G){s:Mem}(h:Cd G s):hl s:=by
 obtain⟨ai,_,pV⟩:=h;have ab:=(k8 (j3 bf ai.af).1).2;rw[<-ai.view]at ab;have aQ:=(k8 bf.n9.1).2;obtain⟨d1,d2,d3,d4⟩:=ai.a7;have avB:=Ld s.view.mem s.self;have aB:=bf.len;have aw:=bf.yg;have Sn:=ai.af;refine⟨by rw[ai.cont];simp,by rw[ai.first];omega,by omega,λc al=> ?_,by omega,by grind,by omega,λe he=> ?_,by have:=MM ai.als;omega,?_,LS ai.hn⟩
 ·rw[ai.hist]at al;have:=(DI bf.n9 c (om al)).1.1;omega
 ·obtain⟨k,hk,rfl⟩:=fv he
  grind
 ·exact ap1 ⟨ai.zV,λd aa=>⟨(ai.sY d aa).1,pV d aa,(ai.sY d aa).2⟩⟩
theorem TP(bf:dm bA T G){s:Mem}(h:fz G s):hl s:=by
 rcases h with h|q|q
 ·exact acA bf h
 ·have af:=(HO q.cont).2;rw[q.eq];refine⟨?_,bZ _,bZ _,(λc al=>by cases al),bZ _,bZ _,bZ _,(λc al=>by cases al),bZ _,bZ _,aat⟩
  grind
 ·have ab:=(k8 (j3 bf q.af).1).2;rw[<-q.view]at ab;have aQ:=(k8 bf.n9.1).2;have aB:=bf.len;have aw:=bf.yg;have Sn:=q.af;refine⟨by rw[q.cont];simp,by rw[q.first];omega,by omega,λc al=> ?_,by omega,by rw[q.a7];exact bZ _,by rw[q.a7];exact bZ _,(by rw[q.a7];exact λe he=>by cases he),by rw[q.als];simp,by rw[q.dbts];simp,by rw[q.agr];exact aat⟩;rw[q.hist]at al;have:=(DI bf.n9 c (om al)).1.1;omega
theorem acB(bf:dm bA T G){s:Mem}(au:s.first=G.v0)(af:s.hist.length<=G.D.length)(bw:s.hist=G.D.take s.hist.length): (jM s.first s.hist).2=true/\(jM s.first s.hist).1=kV s.first s.hist s.hist.length/\dK s.first s.hist s.hist.length=fy G s.hist.length:=by
 have aw:=bf.yg;have aB:=bf.len;have:=ace bf.n9 (by omega) s.hist.length af;rw[<-bw]at this;rw[au];refine⟨this.1,this.2,?_⟩;have e:=ER G.v0 G.D (bS s.hist.length);rw[<-bw]at e;exact e
theorem acC(bf:dm bA T G){s:Mem}(h:fz G s):pk s=true:=by
 unfold pk;rcases h with⟨ai,aa,pV⟩|q|q
 ·obtain⟨fJ,eP,Iy⟩:=acB bf ai.first ai.af ai.hist
  have lB:=(j3 bf ai.af).1;rw[<-ai.view]at Iy lB;have ae:l0 (dK s.first s.hist s.hist.length) s.view=true:=by rw[Iy];exact zJ _
  have h1:zG s=true:=by
   unfold zG;have acD:=Im lB ai.jO ai.a7;obtain⟨d1,d2,_⟩:=ai.a7;have gi:=(rd s.agr).2 ⟨ai.hn,ai.h8⟩;have aqB:=ap2 (s:=s) ⟨ai.zV,λd aa=>⟨(ai.sY d aa).1,pV d aa,(ai.sY d aa).2⟩⟩;rw[ai.jO,acD,e4 d2,d1,zJ,gi,e4 ai.nr,ai.jA,zJ,aa,ai.als,aqB];rfl
  rw[ai.id,fJ,ai.cont,ae,h1,ai.b4];rfl
 ·have gS:=q.id;have al:=q.cont;have aH:=q.out;rw[gS];have e:s.status=0:=by rw[q.eq];rfl
  rw[e,al,aH];have aA:s.first=lZ:=by rw[q.eq];rfl
  have aG:s.hist=[]:=by rw[q.eq];rfl
  have bc:s.view=lZ:=by rw[q.eq];rfl
  have cn:x6 s=true:=by rw[q.eq];rfl
  rw[aA,aG,bc,cn,zJ];rfl
 ·obtain⟨fJ,eP,Iy⟩:=acB bf q.first q.af q.hist
  rw[<-q.view]at Iy;have ae:l0 (dK s.first s.hist s.hist.length) s.view=true:=by rw[Iy];exact zJ _
  have cn:x6 s=true:=by
   unfold x6;rw[q.agr,q.a7,q.als,q.dbts];rfl
  rw[q.id,fJ,q.cont,ae,q.b4,q.out,cn];rfl
theorem aqC(bf:dm bA T G){s:Mem}(ai:gl G s):EH s:=by
 have aw:=bf.yg;have aB:=bf.len;have af:=ai.af;refine⟨by rw[ai.first];exact bf.n9.1,by omega,λc al=> ?_⟩;rw[ai.hist]at al;exact(DI bf.n9 c (om al)).1
theorem aqD(bf:dm bA T G){s:Mem}(cT:fz G s){src:Int}(gS:mq src=true)(bx:src≠s.self){f:kX}(au:ns G src f):It s src f:=by
 have wR:s.status=1->Cd G s:=λbU=>by
  rcases cT with h|q|q
  ·exact h
  ·rw[q.eq]at bU;have bU: (0:Int)=1:=bU;omega
  ·have:=q.b4;omega
 refine⟨TP bf cT,acC bf cT,gS,bx,λbU=> ?_,?_⟩
 ·have ai:=(wR bU).1;exact⟨aqC bf ai,by rw[ai.view];exact(j3 bf ai.af).1,ai.als⟩
 ·have acE:∀k,k<=G.D.length->0<=(fy G k).num/\(fy G k).num<=1099511627776:=λk hk=>⟨(lD (j3 bf hk).1).1,(lD (j3 bf hk).1).2.1⟩;cases f with
  |ac n=>
   obtain⟨k,hk,rfl⟩:=au;exact acE k hk
  |hm n l=>
   obtain⟨k,hk,rfl,ab⟩:=au;refine⟨acE k hk,MM ab,λbU e=> ?_⟩;have ai:=(wR bU).1;have mg:k=s.hist.length:=zU bf hk ai.af (by rw[<-ai.view];exact e);rw[mg,<-ai.view]at ab;exact ab
  |dP m=>
   obtain⟨k,hk,ab,ui,ig⟩:=au;refine⟨MY (j3 bf hk).1 ab,ig,λbU e=> ?_⟩;have ai:=(wR bU).1;have r8:=(kC ab).2;have mg:k=s.hist.length:=zU bf hk ai.af (by rw[<-ai.view,<-r8];exact e);rw[mg,<-ai.view]at ab ui;have hb:=bf.qC _ ai.af;rw[<-ai.view]at hb;have hF:=(j3 bf ai.af).1;rw[<-ai.view]at hF;obtain⟨cy,tD⟩:=L7 hb ai.hn ai.h8 ai.jA ai.qD ab (by rw[ig,ai.nr];omega) ui;obtain⟨ie,_,oM,_,TA⟩:=zy ai.hn ai.h8 cy;exact⟨cy,bT (aqe _ _) (by decide),λp an=>MY hF (by rw[<-ai.jA];exact(TA p an).pS),(LS ie).dec⟩
  |hi f c=>
   obtain⟨rfl,k,hk,rfl⟩:=au;have aw:=bf.yg;have aB:=bf.len;refine⟨bf.n9.1,by grind,λx ag=>(DI bf.n9 x (om ag)).1,(ace bf.n9 (by omega) k hk).1,λbU=> ?_⟩;exact acl (TP bf (TC bf (wR bU) hk).1)
  |e6=>exact trivial
theorem aqE{c:List Int}(h: (eH s c).2.2≠0): (eH s c).2.1=[]:=by
 unfold eH at h⊢
 grind
theorem aqF(bf:dm bA T G){s:Mem}(cT:fz G s)(aw:s.hist.length<T)(df:l4 bA s):Cf s:=by
 refine⟨TP bf cT,acC bf cT,λbU=> ?_⟩;have wR:Cd G s:=by
  rcases cT with h|q|q
  ·exact h
  ·rw[q.eq]at bU;have bU: (0:Int)=1:=bU;omega
  ·have:=q.b4;omega
 have ai:=wR.1;obtain⟨cV,dj,hT,hN,nk,qu⟩:=qA s;have qw:=MV bf ai;obtain⟨yh,g1,g2,g3,g4⟩:=MW bf qw (by grind) (df ai.b4);have hF:=(j3 bf ai.af).1;rw[<-ai.view]at hF;have lR:=Ig (bY s);have Dz:=Er g3.hn g3.h8;have aqG:=Is (s:=s) ai.als;refine⟨acA bf wR,hF,?_,λd aa=> ?_,?_,by grind,⟨bT (aqc _ _) (by decide),λp an=> ?_⟩,LS g3.hn,⟨bT (aqf _) (by decide),λp an=> ?_⟩,(LS Dz.1).dec,apZ _ _⟩
 ·have:=MM (Ir (s:={s with a7:=(cO s.a7).1}) (l:=(cO s.a7).2) ai.als (cO s.a7).2.length);exact bT this (by decide)
 ·have:=(ai.sY d aa).2;omega
 ·have:=MM aqG;omega
 ·by_cases aN: (eH (bY s).agr (dl (bY s).view (bY s).als).1).2.2=0
  ·have:=((R5 qw.hn qw.h8 aN).2.2.2.2 p an).pS;exact MY hF (by rw[<-cV,<-qw.jA];omega)
  ·rw[aqE aN]at an;cases an
 ·have:=(Dz.2.2.2.2 p an).pS;exact MY hF (by rw[<-cV,<-lR.1,<-g3.jA];omega)
end
def wf:kX->Nat
 | .ac _=>2
 | .hm _ _=>2
 | .dP m=>j2 m.kind
 | .hi _ _=>1
 | .e6=>2
theorem acF(f:kX):1<=wf f:=by
 cases f with
 |dP m=>exact(acp m.kind).1
 |hi f c=>exact bS 1
 |_=>exact(by decide:1<=2)
def nt(l:List c9):Nat:=(l.map λp=>wf p.bj).sum
theorem wS:nt []=0:=rfl
theorem aqH(p:c9)(l:List c9):nt (p::l)=wf p.bj+nt l:=by rfl
theorem Iz(l cK:List c9):nt (l++cK)=nt l+nt cK:=by simp[nt]
theorem IA{α:Type}{g:α->c9}{n:Nat}(h:∀x,wf (g x).bj<=n):∀l:List α,nt (l.map g)<=n*l.length
 | []=>by simp[nt]
 |x::l=>by
  have:=IA h l;have:=h x;rw[oi,aqH,l7,Nat.mul_succ];omega
theorem MZ{s:Mem}(hv:s.view.mem.length<=16):∀l:List dN,nt (h0 s l)<=16*lF l
 | []=>by simp[h0,nt,lF]
 |p::l=>by
  have a1:=MZ hv l;have e:h0 s (p::l)=Ca s p++h0 s l:=by rfl
  have h1:nt (Ca s p)<=j2 p.m.kind* (qz s p).length:=IA (g:=λid=>c9.mk id (.dP p.m)) (n:=j2 p.m.kind) (λ_=>bS _) (qz s p);have ad:j2 p.m.kind* (qz s p).length<=j2 p.m.kind*16:=Jd _ (SL s hv p);rw[e,Iz,acq];omega
def gm(s:Mem):Nat:=(if s.status=1 then gE s.agr else 16)+16* (401-s.hist.length)
theorem aqI(s:Mem):gm s<=10800:=by
 have:=Tu s.agr;unfold gm;split<;>omega
theorem aqJ(v:aK)(x:Int):gE (lb v x).1<=16:=by
 unfold lb;cases (!b2 v|| !bP v.mem x)
 ·exact bS 16
 ·exact bS 16
theorem TQ(s:Mem)(v:aK):gm (eR s v)<=16+16* (401-s.hist.length):=by
 unfold eR gm;have:=aqJ v s.self
 grind
theorem aqK(h:s.dec=[]):16<=gE s:=by
 unfold gE
 grind
section
variable {bA:aK->Int->Prop} {T:Nat} {G:iL}
theorem acG(bf:dm bA T G){s:Mem}(ai:gl G s):gm (ej s).1<=gm s:=by
 by_cases aa:s.agr.dec=[]
 ·rw[EU aa];simp
 ·have ad:=(MS bf ai aa).1;unfold ej at ad⊢;cases aN:decide ((s.agr.dec.length:Int)=0)
  ·rw[aN,bD]at ad;rw[bD];cases bs: (!decide ((er s.view s.agr.dec).2=0)||decide (400<=(s.hist.length:Int)))
   ·rw[bD];simp only[iW,ib]at bs;have:=TQ {s with hist:=s.hist++ [s.agr.dec]} (er s.view s.agr.dec).1;simp only[fw,l7,yq]at this;have cm:16* (401-s.hist.length)<=gm s:=by
     unfold gm;omega
    grind
   grind
  simp
theorem TR(bf:dm bA T G){s:Mem}(ai:gl G s):gm (fp s)<=gm s:=by
 rw[sV ai.b4];have h1:=acG bf ai;cases (ej s).2
 ·exact h1
 grind
theorem M0{s t:Mem}(h1:t.status=s.status)(ad:t.agr=s.agr)(aN:t.hist=s.hist):gm t=gm s:=by
 unfold gm
 grind
theorem aqL(bf:dm bA T G){s:Mem}(h:fz G s):gm (fp s)<=gm s:=by
 rcases h with⟨q,_⟩|q|q
 ·exact TR bf q
 ·rw[If (c5 (by rw[q.eq];show ¬(0:Int)=1;omega))];simp
 ·rw[If (c5 (by have:=q.b4;omega))];simp
theorem acH(s:Mem)(first:aK)(aI:List (List Int))(k:Nat)(h:s.agr.dec=[])(bU:s.status=1):∀j,(iq s first aI k j).agr.dec=[]/\gm (iq s first aI k j)<=gm s
 |0=>⟨h,bS _⟩
 |j+1=>by
  have a1:=acH s first aI k h bU j
  unfold iq;cases Bu:decide ((iq s first aI k j).status=1)
  ·exact a1
  ·simp only[b6];generalize iq s first aI k j=E at *
   have Bu:=fC Bu;refine⟨?_,?_⟩
   ·unfold eR;cases bP (dK first aI (k+j+1)).mem E.self
    ·rfl
    ·simp only[b6];unfold lb;cases (!b2 (dK first aI (k+j+1))|| !bP (dK first aI (k+j+1)).mem E.self)<;>rfl
   ·have h1:=TQ {E with hist:=E.hist++ [aI.getD (k+j) []]} (dK first aI (k+j+1));have ad:=aqK a1.1;have aN:gm E=gE E.agr+16* (401-E.hist.length):=by
     unfold gm
     grind
    grind
theorem aqM{s:Mem}(f:aK)(c:List (List Int))(h:s.agr.dec=[])(bU:s.status=1):gm (lE s f c)<=gm s:=by
 unfold lE;cases (!l0 f s.first||decide ((c.length:Int)<=(s.hist.length:Int)))
 ·rw[bD];cases ij (λi=>iG (s.hist.getD i []) (c.getD i [])) s.hist.length
  ·simp
  ·exact(acH s f c _ h bU _).2
 simp
theorem aqN(bf:dm bA T G){s:Mem}(cT:fz G s){src:Int}(bx:src≠s.self){f:kX}(au:ns G src f):nt (eM s src f).2+gm (eM s src f).1<=wf f+gm s:=by
 have fF:=acF f;have br:∀s' dd,nt [uh s' dd]=1:=λ_ _=>rfl;unfold eM;rcases cT with⟨ai,aa,pV⟩|q|q
 ·rw[b3 ai.b4];have u2:∀ {t:Mem},gl G t->gm t=gm s->gm (fp t)<=gm s:=λh1 ad=>by rw[<-ad];exact TR bf h1
  have aqu:nt [uh s src]+gm (fp s)<=wf f+gm s:=by
   grind
  have K1:∀ {t:Mem},gl G t->gm t=gm s->nt []+gm (fp t)<=wf f+gm s:=λh1 ad=>by
   have:=u2 h1 ad;rw[wS];omega
  have lB:=j3 bf ai.af;unfold vv;cases f with
  |hi f c=>
   obtain⟨rfl,m,az,rfl⟩:=au;obtain⟨fJ,eP⟩:=TC bf ⟨ai,aa,pV⟩ az;have h1:=aqL bf fJ;have ad:=aqM G.v0 (G.D.take m) aa ai.b4;simp only[wS];omega
  |e6=>
   cases cS:bP s.view.mem src
   ·have ao:=TG ai src;have h1:=zQ s src;have ad:=u2 ao (M0 h1.1 h1.2.2.2 h1.2.2.1)
    grind
   grind
  |ac n=>
   simp only[];by_cases h1:n<s.view.num
   ·grind
   ·rw[bm h1];by_cases ad:s.view.num<n
    ·grind
    ·rw[bm ad];cases bP s.view.mem src
     ·grind
     ·exact K1 (TE ai (Tj (by rw[ai.view];grind) ai.jO ai.a7 src)) (M0 rfl rfl rfl)
  |hm n l=>
   simp only[];by_cases h1:n<s.view.num
   ·grind
   ·rw[bm h1];by_cases ad:s.view.num<n
    ·grind
    ·rw[bm ad];obtain⟨k,hk,e,ab⟩:=au;have mg:k=s.hist.length:=zU bf hk ai.af (by rw[<-ai.view,<-e];omega);rw[mg,<-ai.view]at ab;exact K1 (TD ai (Mx ai.als ab).1) (M0 rfl rfl rfl)
  |dP m=>
   obtain⟨k,hk,ab,ui,ig⟩:=au;have r8:=(kC ab).2;simp only[];by_cases h1:m.view<s.view.num
   ·grind
   ·rw[bm h1];by_cases ad:s.view.num<m.view
    ·grind
    ·rw[bm ad];have mg:k=s.hist.length:=zU bf hk ai.af (by rw[<-ai.view,<-r8];omega);rw[mg,<-ai.view]at ab ui;have hb:=bf.qC _ ai.af;rw[<-ai.view]at hb;have acI:m.src≠s.agr.self:=by rw[ig,ai.nr];omega
     obtain⟨cy,tD⟩:=L7 hb ai.hn ai.h8 ai.jA ai.qD ab acI ui;have vB:=zy ai.hn ai.h8 cy;obtain⟨p2,g1,g2,g3,g4⟩:=Ix bf ai vB (zA _ _) (.inl λ_ h=>h) (λ_ h=>.inl h) tD;rw[e4 cy,b6];have hw:=aqh ai.hn ai.h8 (by rw[ai.jA];exact ab) acI;have aN:=TR g1 g3;have bs:=MZ (s:={s with agr:=(dC s.agr m).1}) (by show s.view.mem.length<=16;rw[ai.view];exact(k8 lB.1).2) (dC s.agr m).2.1;have cm:∀a:bi,gm {s with agr:=a}=gE a+16* (401-s.hist.length):=λa=>by
      unfold gm;simp only[];rw[b3 ai.b4]
     have eK:gm s=gE s.agr+16* (401-s.hist.length):=by
      simp_all
     have jj:=cm (dC s.agr m).1;simp only[]at aN bs⊢;show _<=j2 m.kind+_;omega
 ·have ae:s.status=0:=by rw[q.eq];rfl
  rw[bm (by omega),b3 ae];cases f with
  |hi f c=>
   have bw:s.hist=[]:=by rw[q.eq];rfl
   have an:gm s=16+16*401:=by
    unfold gm
    grind
   unfold yf vr;simp only[wS];cases bP (dK f c c.length).mem s.self
   ·simp only[bD];have:gm {s with cont:=(dK f c c.length).mem}=gm s:=M0 rfl rfl rfl;omega
   ·simp only[b6];have:=TQ {s with first:=f,hist:=c,cont:=[]} (dK f c c.length);omega
  |_=>
   simp only[yf,wS];omega
 ·rw[bm (by have:=q.b4;omega),bm (by have:=q.b4;omega)];simp only[wS];omega
theorem aqO(bf:dm bA T G){s:Mem}(cT:fz G s)(aw:s.hist.length<T)(df:l4 bA s):nt (fi s).2+gm (fi s).1<=gm s+10000:=by
 unfold fi;rcases cT with⟨ai,aa,pV⟩|q|q
 ·rw[b3 ai.b4];obtain⟨cV,dj,hT,hN,nk,qu⟩:=qA s;have qw:=MV bf ai;have hv:∀ {G:iL} {t:Mem},dm bA T G->gl G t->t.view.mem.length<=16:=λbf ai=>by rw[ai.view];exact(k8 (j3 bf ai.af).1).2
  have acJ:∀ {t:Mem},t.status=1->t.hist=s.hist->gm t=gE t.agr+16* (401-s.hist.length):=λh1 ad=>by
   unfold gm
   grind
  have F5:=acJ ai.b4 rfl;have M1:nt (uj (bY s))+gE (fa (bY s)).1.agr<=gE (bY s).agr+272:=by
   unfold uj fa;cases decide (((bY s).agr.prop.length:Int)=0)
   ·simp only[bD,wS];omega
   ·cases (dl (bY s).view (bY s).als).2
    ·simp only[bD,b6,wS];omega
    ·cases aN:decide ((eH (bY s).agr (dl (bY s).view (bY s).als).1).2.2=0)
     ·simp only[bD,b6,wS];omega
     ·have h1:=aqj qw.hn qw.h8 (fC aN);have ad:=MZ (s:={bY s with agr:=(eH (bY s).agr (dl (bY s).view (bY s).als).1).1}) (by grind) (eH (bY s).agr (dl (bY s).view (bY s).als).1).2.1
      grind
  have lR:=Ig (bY s);obtain⟨yh,g1,g2,g3,g4⟩:=MW bf qw (by grind) (df ai.b4);unfold Ce pn;rw[hN]at M1;generalize bY s=S3 at *;generalize uj S3=TK at *;generalize fa S3=P at *;obtain⟨S4,B5⟩:=P;simp only[]at lR g3 M1⊢;obtain⟨fl,ff,lX,oa,B6,Tc,MG⟩:=lR;have gi:=aqi g3.hn g3.h8;have acK:=MZ (s:={S4 with agr:=(cN S4.agr).1}) (by grind) (cN S4.agr).2;obtain⟨EW,nA,uP,kY,TL⟩:=TJ g1 g3;have ep: (iK S4).1= {S4 with agr:=(cN S4.agr).1}:=rfl;have iI:sZ S4=h0 {S4 with agr:=(cN S4.agr).1} (cN S4.agr).2:=rfl;have acK:nt (sZ S4)<=16*lF (cN S4.agr).2:=acK;have Kg:gm (iK S4).1=gE (cN S4.agr).1+16* (401-s.hist.length):=acJ (by rw[ep];exact B6.trans (nk.trans ai.b4)) (by grind);generalize sZ S4=TM at *;generalize(iK S4).2=Ik at *;generalize(iK S4).1=S5 at *;have lV:=acG nA kY;by_cases dq:S5.agr.dec=[]
  ·have ac:nt (j4 S5)<=42:=by
    unfold j4;have h1:=IA (g:=λm=>c9.mk m (.ac S5.view.num)) (n:=2) (λ_=>bS _) (kh (cQ S5.view.mem S5.self));have ad: (kh (cQ S5.view.mem S5.self)).length<=5:=bT (BI _) (zg _ _);have aN:=IA (g:=λm=>c9.mk m (.hm S5.view.num S5.als)) (n:=2) (λ_=>bS _) (pY S5);have bs:=Mr S5 (hv nA kY);rw[Iz];cases decide (0<(S5.als.length:Int))
    ·simp only[bD,wS];omega
    grind
   rw[EU dq,bD,bD,Iz,Iz]
   grind
  ·obtain⟨gH,_⟩:=MS nA kY dq;rw[gH,b6,b6,Iz]
   grind
 ·have ae:s.status=0:=by rw[q.eq];rfl
  rw[bm (by omega),b3 ae];have h1:=IA (g:=λm=>c9.mk m .e6) (n:=2) (λ_=>bS _) s.cont;have ad:=(HO q.cont).2
  grind
 ·rw[bm (by have:=q.b4;omega),bm (by have:=q.b4;omega)];simp only[wS];omega
end
structure dr where
 src:Int
 dst:Int
 bj:kX
def oO(f:dr):BX:=⟨f.src,f.dst,ET f.bj⟩
def EX:dr:=⟨0,0,.e6⟩
def lG(Ms:List Mem)(x:Int):Int:=lv (λi=>decide ((Ms.getD i dv).self=x)) Ms.length
theorem zX(Ms:List Mem)(x:Int): (lG Ms x= -1/\∀i (h:i<Ms.length),Ms[i].self≠x)\/∃k,∃h:k<Ms.length,lG Ms x=(k:Int)/\Ms[k].self=x/\∀j (aq:j<k),(Ms[j]'(by omega)).self≠x:=by
 by_cases h:∃k,k<Ms.length/\decide ((Ms.getD k dv).self=x)=true/\∀j,j<k->decide ((Ms.getD j dv).self=x)=false
 ·obtain⟨k,hk,h1,ad⟩:=h;have ax:∀j (aq:j<Ms.length),Ms.getD j dv=Ms[j]:=λj aq=>by grind
  refine .inr ⟨k,hk,wD hk h1 ad,?_,λj aq=> ?_⟩;all_goals grind
 ·have cF:∀i,i<Ms.length->decide ((Ms.getD i dv).self=x)=false:=by
   intro i;induction i using Nat.strongRecOn with
   |ind i a1=>
    grind
  refine .inl ⟨tE cF,λi hi=> ?_⟩
  grind
theorem aqP{n:Nat}(h:n<=2000000000):kL ah 82 n:=by
 have e: (aE ah 82).bytes=40:=by rfl
 refine⟨?_,?_⟩
 ·grind
 ·simp only[maxLen];omega
theorem aqQ(Ms:List Mem)(af:Ms.length<=1000)(aF:List Bool)(hg:List BX)(x:Int)(bx:∀i (h:i<Ms.length),Ms[i].self≠x):
  cj Tryz.prog 28 [.cells 32 (pX 1 2 3),.row 55 29 (Ms.map cv),.row 4 1 (aF.map iJ),.row 82 3 (hg.map l2)] [.aW 0 0,i64 x] [true,true,true,true] [.cells 32 (pX 1 2 3),.row 55 29 (Ms.map cv),.row 4 1 (aF.map iJ),.row 82 3 (hg.map l2)] (i64 (-1)):=by
 refine ik (fn:=Tryz.f28) (c:=Tryz.f28.body.getD .skip) az aw (by rfl) Tryz.func28 (by rfl) (by rfl) (by rfl) (by rfl) (by rfl) ?_;repeat' ((conv=>whnf);first|refine bl ?_|fail)
 all_goals(conv=>whnf)
 refine⟨Nat,λi=>⟨[(0,.aW 0 0),(1,i64 x),(5,i64 i)],[.cells 32 (pX 1 2 3),.row 55 29 (Ms.map cv),.row 4 1 (aF.map iJ),.row 82 3 (hg.map l2),.cB [.aW 0 0,.own 1,.own 2,.own 3]]⟩,λi=>i<=Ms.length,λi=>Ms.length-i,[],⟨0,bZ _,?_⟩,?_⟩
 ·conv=>whnf
  exact⟨⟨.r,.r,.r,aj⟩,⟨.r,.r,.r,.r,.r,aj⟩,by rfl⟩
 ·intro i hi;by_cases ek:i<Ms.length
  ·have gD:i<(Ms.map cv).length:=by grind
   have cL: (Ms.map cv)[i]?=some (cv Ms[i]):=du ek;repeat' ((conv=>whnf);first| (apply bo<;>intro h)|refine⟨i,aS ⟨rfl,gD⟩ ?_⟩|refine⟨cv Ms[i],aS cL ?_⟩|fail)
   all_goals(conv=>whnf)
   ·grind
   ·refine⟨i+1,ek,by grind,?_⟩;conv=>whnf
    exact⟨⟨.r,.r,a8 (ca (by omega)),aj⟩,⟨.r,.r,.r,.r,.r,aj⟩,by rfl⟩
   grind
  ·have aa:decide ((i:Int)<((Ms.map cv).length:Int))=false:=by grind
   repeat' ((conv=>whnf);first|refine ft (by assumption) ?_|fail)
   all_goals(conv=>whnf)
   exact⟨.r,⟨.r,.r,.r,.r,.r,aj⟩,by rfl⟩
theorem acL(Ms:List Mem)(af:Ms.length<=1000)(aF:List Bool)(hg:List BX)(x:Int):
  cj Tryz.prog 28 [.cells 32 (pX 1 2 3),.row 55 29 (Ms.map cv),.row 4 1 (aF.map iJ),.row 82 3 (hg.map l2)] [.aW 0 0,i64 x] [true,true,true,true] [.cells 32 (pX 1 2 3),.row 55 29 (Ms.map cv),.row 4 1 (aF.map iJ),.row 82 3 (hg.map l2)] (i64 (lG Ms x)):=by
 rcases zX Ms x with⟨e,bx⟩| ⟨k,hk,e,ag,bx⟩
 ·rw[e];exact aqQ Ms af aF hg x bx
 ·rw[e];exact aoH Ms af aF hg x k hk ag bx
theorem acM(Ms:List Mem)(af:Ms.length<=1000)(aF:List Bool)(hg:List BX)(i:Nat)(hi:i<Ms.length)(aZ:List ei)(au:hg.length+aZ.length<=2000000000):
  cj Tryz.prog 30 [.cells 32 (pX 1 2 3),.row 55 29 (Ms.map cv),.row 4 1 (aF.map iJ),.row 82 3 (hg.map l2)] [.aW 0 0,i64 i,.av 2 (aZ.map gh) false] [true,true,true,false] [.cells 32 (pX 1 2 3),.row 55 29 (Ms.map cv),.row 4 1 (aF.map iJ),.row 82 3 ((hg++aZ.map (SD Ms[i].self)).map l2)] (.be []):=by
 refine ik (fn:=Tryz.f30) (c:=Tryz.f30.body.getD .skip) az aw (by rfl) Tryz.func30 (by rfl) (by rfl) (by rfl) (by rfl) (by rfl) ?_;repeat' ((conv=>whnf);first|refine bl ?_|fail)
 all_goals(conv=>whnf)
 refine⟨Nat,λk=>⟨[(0,.aW 0 0),(1,i64 i),(2,.av 2 (aZ.map gh) false),(6,i64 k)],[.cells 32 (pX 1 2 3),.row 55 29 (Ms.map cv),.row 4 1 (aF.map iJ),.row 82 3 ((hg++(aZ.take k).map (SD Ms[i].self)).map l2),.cB [.aW 0 0,.own 1,.own 2,.aY]]⟩,λk=>k<=aZ.length,λk=>aZ.length-k,[],⟨0,bZ _,?_⟩,?_⟩
 ·conv=>whnf
  exact⟨⟨.r,.r,.r,.r,aj⟩,⟨.r,.r,.r,cM (by simp),HY,aj⟩,by rfl⟩
 ·intro k hk;have gD:i<(Ms.map cv).length:=by grind
  have cL: (Ms.map cv)[i]?=some (cv Ms[i]):=du hi;repeat' ((conv=>whnf);first| (apply bo<;>intro h)|fail)
  all_goals(conv=>whnf)
  ·have aB:k<aZ.length:=by grind
   clear h;have aqR: (aZ.map gh)[k]?=some (gh aZ[k]):=du aB;repeat' ((conv=>whnf);first|refine ch ?_|refine⟨i,aS ⟨rfl,gD⟩ ?_⟩|refine⟨cv Ms[i],aS cL ?_⟩|refine⟨k,gh aZ[k],aS ⟨rfl,aqR⟩ ?_⟩|refine aS (aqP (by simp<;>omega)) ?_|refine Exists.intro false ?_|fail)
   all_goals(conv=>whnf)
   refine⟨k+1,aB,by grind,?_⟩;conv=>whnf
   refine⟨⟨.r,.r,.r,a8 (ca (by omega)),aj⟩,⟨.r,.r,.r,cM ?_,.r,aj⟩,by rfl⟩;rw[fA aB,ew (l₁:=aZ.take k),<-k1,ew (l₂:=List.map _ [aZ[k]])];rfl
  ·have:k=aZ.length:=by
    grind
   subst this;rw[gn];exact⟨.r,⟨.r,.r,.r,.r,.r,aj⟩,by rfl⟩
def j5(x:Int)(p:c9):dr:=⟨x,p.dd,p.bj⟩
theorem acN(x:Int)(aZ:List c9): (aZ.map (j5 x)).map oO=(aZ.map sX).map (SD x):=by
 rw[oU,oU];rfl
def s0(cb:Int->Int->Bool)(aF:List Bool)(X:List Mem×List dr)(f:dr):List Mem×List dr:=
 if lG X.1 f.src<0 then X else if lG X.1 f.dst<0 then X
 else bif aF.getD (lG X.1 f.dst).toNat true||cb (lG X.1 f.src) (lG X.1 f.dst)then X
 else(X.1.set (lG X.1 f.dst).toNat (eM (X.1.getD (lG X.1 f.dst).toNat dv) f.src f.bj).1,X.2++(eM (X.1.getD (lG X.1 f.dst).toNat dv) f.src f.bj).2.map (j5 (eM (X.1.getD (lG X.1 f.dst).toNat dv) f.src f.bj).1.self))
def eX(cb:Int->Int->Bool)(aF:List Bool)(Ms:List Mem)(aJ:List dr):Nat->List Mem×List dr
 |0=>(Ms,[])
 |k+1=>s0 cb aF (eX cb aF Ms aJ k) (aJ.getD k EX)
def r9(aF:List Bool)(X:List Mem×List dr)(i:Nat):List Mem×List dr:=
 bif aF.getD i true then X else(X.1.set i (fi (X.1.getD i dv)).1,X.2++(fi (X.1.getD i dv)).2.map (j5 (fi (X.1.getD i dv)).1.self))
def kG(aF:List Bool)(X:List Mem×List dr):Nat->List Mem×List dr
 |0=>X
 |i+1=>r9 aF (kG aF X i) i
def cZ(cb:Int->Int->Bool)(aF:List Bool)(Ms:List Mem)(aJ:List dr):List Mem×List dr:=kG aF (eX cb aF Ms aJ aJ.length) Ms.length
theorem aqS(cb:Int->Int->Bool)(aF:List Bool)(X:List Mem×List dr)(f:dr): (s0 cb aF X f).1.length=X.1.length:=by
 unfold s0
 grind
theorem Cg(cb:Int->Int->Bool)(aF:List Bool)(Ms:List Mem)(aJ:List dr):∀k,(eX cb aF Ms aJ k).1.length=Ms.length
 |0=>rfl
 |k+1=>(aqS _ _ _ _).trans (Cg cb aF Ms aJ k)
theorem aqT(aF:List Bool)(X:List Mem×List dr)(i:Nat): (r9 aF X i).1.length=X.1.length:=by
 unfold r9
 grind
theorem IB(aF:List Bool)(X:List Mem×List dr):∀i,(kG aF X i).1.length=X.1.length
 |0=>rfl
 |i+1=>(aqT _ _ _).trans (IB aF X i)
structure yi(cb:Int->Int->Bool)(aF:List Bool)(Ms:List Mem)(aJ:List dr):Prop where
 n:Ms.length<=1000
 su:aF.length=Ms.length
 hg:aJ.length<=1000000000
 avC:∀k (hk:k<aJ.length),∀b:Nat,lG (eX cb aF Ms aJ k).1 aJ[k].dst=(b:Int)->b<Ms.length->aF.getD b true=false->It ((eX cb aF Ms aJ k).1.getD b dv) aJ[k].src aJ[k].bj
 apE:∀i,i<Ms.length->aF.getD i true=false->Cf ((kG aF (eX cb aF Ms aJ aJ.length) i).1.getD i dv)
 len:∀k,k<=aJ.length->(eX cb aF Ms aJ k).2.length<=1000000000
 avD:∀i,i<=Ms.length->(kG aF (eX cb aF Ms aJ aJ.length) i).2.length<=1000000000
structure lH(bA:aK->Int->Prop)(T:Nat)(G:iL)(Ms:List Mem)(aJ:List dr):Prop where
 g:dm bA T G
 mem:∀i (h:i<Ms.length),fz G Ms[i]
 lP:∀i j (hi:i<Ms.length) (aq:j<Ms.length),i≠j->Ms[i].self≠Ms[j].self
 hg:∀f∈aJ,ns G f.src f.bj/\f.src≠f.dst/\mq f.src=true
 bj:∀a,(∀i (h:i<Ms.length),Ms[i].self≠a)->∀k,k<=G.D.length->vx G a k
def mP(Ms:List Mem):Nat:=(Ms.map gm).sum
def kH(l:List dr):Nat:=(l.map λf=>wf f.bj).sum
theorem acO(l cK:List dr):kH (l++cK)=kH l+kH cK:=by simp[kH]
theorem M2:∀l:List dr,l.length<=kH l
 | []=>by simp
 |f::l=>by
  have:=M2 l;have:=acF f.bj;have e:kH (f::l)=wf f.bj+kH l:=by rfl
  grind
theorem acP(x:Int)(aZ:List c9):kH (aZ.map (j5 x))=nt aZ:=by
 unfold kH nt;rw[oU];rfl
theorem aqU{l:List dr}{k:Nat}(h:k<l.length):kH (l.drop k)=wf l[k].bj+kH (l.drop (k+1)):=by
 rw[vK h];rfl
theorem TS{x:Mem}:∀ {Ms:List Mem} {b:Nat} (h:b<Ms.length),mP (Ms.set b x)+gm Ms[b]=mP Ms+gm x
 | [],b,h=>by grind
 |s::S,0,_=>by
  simp[mP];omega
 |s::S,b+1,h=>by
  have:=TS (x:=x) (Ms:=S) (b:=b) (by grind);simp[mP]at this⊢;omega
theorem acQ:∀Ms:List Mem,mP Ms<=10800*Ms.length
 | []=>by simp[mP]
 |s::S=>by
  have:=acQ S;have:=aqI s;have e:mP (s::S)=gm s+mP S:=by rfl
  grind
theorem IC{l cK:List Mem}{i:Nat}{h:i<l.length}{bp:i<cK.length}(e:l[i]?=cK[i]?):l[i]=cK[i]:=by
 grind
section
variable {bA:aK->Int->Prop} {T:Nat} {G bd:iL} {Ms:List Mem} {aJ:List dr}
theorem TT{mQ:List dr}(h:lH bA T G Ms aJ)(ae:∀f∈mQ,f∈aJ):lH bA T G Ms mQ:=⟨h.g,h.mem,h.lP,λf au=>h.hg f (ae f au),h.bj⟩
theorem acR(h:lH bA T G Ms aJ){b:Nat}(ac:b<Ms.length){s':Mem}(ae:s'.self=Ms[b].self)(dA:dm bA T bd)(zW:Go Ms[b].self G bd)(cT:fz bd s'){aZ:List c9}(an:∀p∈aZ,p1 bd Ms[b].self p):
  lH bA T bd (Ms.set b s') (aJ++aZ.map (j5 s'.self)):=by
 have iO:∀i (hi:i<(Ms.set b s').length),(Ms.set b s')[i].self=(Ms[i]'(by grind)).self:=λi hi=>by
  grind
 refine⟨dA,λi hi=> ?_,λi j hi aq fV=> ?_,λf au=> ?_,λa bb k hk=> ?_⟩
 ·rw[List.getElem_set];by_cases e:b=i
  ·grind
  ·rw[bm e];have di:i<Ms.length:=by grind
   exact aqo zW (h.lP i b di ac (λx=>e x.symm)) (h.mem i di)
 ·rw[iO,iO];exact h.lP i j _ _ fV
 ·rcases eb.1 au with au|au
  ·obtain⟨h1,ad,aN⟩:=h.hg f au;exact⟨acr zW h1,ad,aN⟩
  ·obtain⟨p,yL,rfl⟩:=fr.1 au;obtain⟨h1,ad⟩:=an p yL;have gS:mq Ms[b].self=true:=by
    rcases h.mem b ac with⟨q,_⟩|q|q
    ·exact q.id
    ·exact q.id
    ·exact q.id
   refine⟨?_,?_,?_⟩
   ·show ns bd s'.self p.bj
    grind
   ·show s'.self≠p.dd;omega
   ·show mq s'.self=true
    grind
 ·have HC:∀i (hi:i<Ms.length),Ms[i].self≠a:=λi hi=>by
   grind
  by_cases hq:k<=G.D.length
  ·exact MR zW (λe=>HC b ac e.symm) hq (h.bj a HC k hq)
  ·exact zW.new k (by omega) hk a (λe=>HC b ac e.symm)
theorem acS(cb:Int->Int->Bool)(aF:List Bool){X:List Mem×List dr}(h:lH bA T G X.1 (aJ++X.2)){f:dr}(au:f∈aJ):
  (∀b:Nat,lG X.1 f.dst=(b:Int)->b<X.1.length->It (X.1.getD b dv) f.src f.bj)/\
  (∃bd,bd.v0=G.v0/\lH bA T bd (s0 cb aF X f).1 (aJ++(s0 cb aF X f).2))/\mP (s0 cb aF X f).1+kH (s0 cb aF X f).2<=mP X.1+kH X.2+wf f.bj:=by
 obtain⟨f1,f2,f3⟩:=h.hg f (CL _ au);have iO:∀ {b:Nat} (ac:b<X.1.length),lG X.1 f.dst=(b:Int)->X.1[b].self=f.dst:=λ{b} ac e=>by
  rcases zX X.1 f.dst with⟨aA,_⟩| ⟨k,hk,aA,aG,_⟩;all_goals grind
 have rL: (∃bd,bd.v0=G.v0/\lH bA T bd X.1 (aJ++X.2))/\mP X.1+kH X.2<=mP X.1+kH X.2+wf f.bj:=⟨⟨G,rfl,h⟩,by omega⟩
 refine⟨λb e ac=> ?_,?_⟩
 ·have ax:X.1.getD b dv=X.1[b]:=by grind
  rw[ax];exact aqD h.g (h.mem b ac) f3 (by grind) f1
 ·unfold s0;by_cases h1:lG X.1 f.src<0
  ·grind
  ·rw[bm h1];by_cases ad:lG X.1 f.dst<0
   ·grind
   ·rw[bm ad];cases aF.getD (lG X.1 f.dst).toNat true||cb (lG X.1 f.src) (lG X.1 f.dst)
    ·obtain⟨b,ac,e⟩:∃b,b<X.1.length/\lG X.1 f.dst=(b:Int):=by
      rcases zX X.1 f.dst with⟨aA,_⟩| ⟨k,hk,aA,_⟩;all_goals grind
     have ax:X.1.getD b dv=X.1[b]:=by grind
     rw[e,l6,ax,bD];have bx:f.src≠X.1[b].self:=by grind
     obtain⟨dL,bd,dW,eU,hj,iV⟩:=TH h.g (h.mem b ac) bx f1;have hw:=aqN h.g (h.mem b ac) bx f1;have bU:=acR h ac dL dW eU hj iV;refine⟨⟨bd,eU.v0,?_⟩,?_⟩
     ·grind
     ·have oI:=TS (x:=(eM X.1[b] f.src f.bj).1) ac;simp only[];rw[acO,acP];omega
    grind
theorem ID(cb:Int->Int->Bool)(aF:List Bool)(h:lH bA T G Ms aJ):∀k,k<=aJ.length->(∃bd,bd.v0=G.v0/\lH bA T bd (eX cb aF Ms aJ k).1 (aJ++(eX cb aF Ms aJ k).2))/\mP (eX cb aF Ms aJ k).1+kH (eX cb aF Ms aJ k).2+kH (aJ.drop k)<=mP Ms+kH aJ
 |0,_=>⟨⟨G,rfl,by simpa[eX]using h⟩,by simp[eX,kH]⟩
 |k+1,hk=>by
  obtain⟨⟨bd,e,h1⟩,ad⟩:=ID cb aF h k (by omega);have aB:k<aJ.length:=by omega
  have ax:aJ.getD k EX=aJ[k]:=by grind
  obtain⟨_,⟨Cb,e',aN⟩,bs⟩:=acS cb aF h1 (eD aB);have aa:=aqU aB;unfold eX
  grind
theorem TU(h:dm bA T G)(aw:T+1<=399):dm bA (T+1) G:=⟨h.n9,h.num,by have:=h.len;omega,aw,λe=>by have:=h.len;omega,h.qC,h.dec,h.zS⟩
theorem TV{s:Mem}(h:fz G s):s.hist.length<=G.D.length:=by
 rcases h with⟨q,_⟩|q|q
 ·exact q.af
 ·rw[q.eq];exact bZ _
 ·exact q.af
theorem acT(aF:List Bool){X:List Mem×List dr}(h:lH bA T G X.1 X.2){i:Nat}(hi:i<X.1.length)(bw:X.1[i].hist.length<T)(df:aF.getD i true=false->l4 bA X.1[i]):
  (aF.getD i true=false->Cf (X.1.getD i dv))/\(∃bd,bd.v0=G.v0/\lH bA T bd (r9 aF X i).1 (r9 aF X i).2)/\mP (r9 aF X i).1+kH (r9 aF X i).2<=mP X.1+kH X.2+10000/\∀j,j≠i->(r9 aF X i).1[j]?=X.1[j]?:=by
 have ax:X.1.getD i dv=X.1[i]:=by grind
 refine⟨λaa=>by rw[ax];exact aqF h.g (h.mem i hi) bw (df aa),?_⟩;unfold r9;cases EY:aF.getD i true
 ·rw[ax];simp only[bD];obtain⟨dL,bd,dW,eU,hj,iV⟩:=MX h.g (h.mem i hi) bw (df EY);have hw:=aqO h.g (h.mem i hi) bw (df EY);have bU:=acR h hi dL dW eU hj iV;have oI:=TS (x:=(fi X.1[i]).1) hi;refine⟨⟨bd,eU.v0,bU⟩,?_,λj bx=> ?_⟩
  ·rw[acO,acP];omega
  grind
 grind
theorem TW(aF:List Bool){X:List Mem×List dr}(h:lH bA T G X.1 X.2)(bw:∀i (hi:i<X.1.length),X.1[i].hist.length<T)(df:∀i (hi:i<X.1.length),aF.getD i true=false->l4 bA X.1[i]):∀i,i<=X.1.length->(∃bd,bd.v0=G.v0/\lH bA T bd (kG aF X i).1 (kG aF X i).2)/\mP (kG aF X i).1+kH (kG aF X i).2<=mP X.1+kH X.2+10000*i/\∀j,i<=j->(kG aF X i).1[j]?=X.1[j]?
 |0,_=>⟨⟨G,rfl,h⟩,by simp[kG],λ_ _=>rfl⟩
 |i+1,hi=>by
  obtain⟨⟨bd,e,h1⟩,ad,aN⟩:=TW aF h bw df i (by omega);have ek:i<(kG aF X i).1.length:=by rw[IB];omega
  have ag: (kG aF X i).1[i]=X.1[i]:=IC (aN i (bS _));obtain⟨_,⟨Cb,e',bs⟩,cm,eK⟩:=acT aF h1 ek (by grind) (by grind);unfold kG
  grind
theorem aqV(cb:Int->Int->Bool)(aF:List Bool)(xI:aF.length=Ms.length)(aV:Ms.length<=8)(h:lH bA T G Ms aJ)(aw:T+1<=399)(hw:mP Ms+kH aJ<=10800*Ms.length+80000*T)(df:∀i (hi:i<(eX cb aF Ms aJ aJ.length).1.length),aF.getD i true=false->l4 bA (eX cb aF Ms aJ aJ.length).1[i]):
  yi cb aF Ms aJ/\(∃bd,bd.v0=G.v0/\lH bA (T+1) bd (cZ cb aF Ms aJ).1 (cZ cb aF Ms aJ).2)/\(cZ cb aF Ms aJ).1.length=Ms.length/\mP (cZ cb aF Ms aJ).1+kH (cZ cb aF Ms aJ).2<=10800*Ms.length+80000* (T+1):=by
 have ai:=ID cb aF h;obtain⟨⟨p2,aA,h1⟩,ad⟩:=ai aJ.length (bS _);have gO:lH bA (T+1) p2 (eX cb aF Ms aJ aJ.length).1 (eX cb aF Ms aJ aJ.length).2:=by
  have:=TT h1 (mQ:=(eX cb aF Ms aJ aJ.length).2) (λf au=>mx _ au);exact⟨TU this.g aw,this.mem,this.lP,this.hg,this.bj⟩
 have hL:=Cg cb aF Ms aJ aJ.length;have bw:∀i (hi:i<(eX cb aF Ms aJ aJ.length).1.length),(eX cb aF Ms aJ aJ.length).1[i].hist.length<T+1:=λi hi=>by
  have:=TV (h1.mem i hi);have:=h1.g.len;omega
 have ct:=TW aF gO bw df;have kQ:=M2 aJ;refine⟨⟨by omega,xI,by omega,λk hk b e ac _=> ?_,λi hi EY=> ?_,λk hk=> ?_,λi hi=> ?_⟩,?_,?_,?_⟩
 ·obtain⟨⟨bd,_,aN⟩,_⟩:=ai k (by omega);exact(acS cb aF aN (eD hk)).1 b e (by rw[Cg];exact ac)
 ·have xO:i<(eX cb aF Ms aJ aJ.length).1.length:=by omega
  obtain⟨⟨bd,_,aN⟩,_,bs⟩:=ct i (by omega);have ek:i<(kG aF (eX cb aF Ms aJ aJ.length) i).1.length:=by grind
  exact(acT aF aN ek (by rw[IC (bs i (bS _))];exact bw i xO) (by rw[IC (bs i (bS _))];exact df i xO)).1 EY
 ·have:=(ai k hk).2;have:=M2 (eX cb aF Ms aJ k).2;omega
 ·have:=(ct i (by omega)).2.1;have:=M2 (kG aF (eX cb aF Ms aJ aJ.length) i).2;omega
 ·obtain⟨⟨bd,e',aN⟩,_⟩:=ct Ms.length (by omega);exact⟨bd,e'.trans aA,aN⟩
 ·exact(IB _ _ _).trans hL
 ·have:=(ct Ms.length (by omega)).2.1;unfold cZ;omega
end
theorem aqW(s:Mem)(h:ME s)(an:decide (((bY s).agr.prop.length:Int)=0)=true)(n0: (dl (bY s).view (bY s).als).2=true):cj Tryz.prog 56 (fh s []) [.aW 0 0] [true,false,false,false] (fh (pn s).1 (pn s).2) (.be []):=by
 obtain⟨dS,hF,Ih,S7,S8,S9,⟨eF,Ta⟩,Ii,⟨tu,BY⟩,jh,ab2⟩:=h;have hv:=k8 hF;have bx:s.view.mem≠ []:=λe=>by have:=(HO (lD hF).2.2).1;rw[e]at this;simp at this
 obtain⟨t1,t2,t3,t4,t5,t6⟩:=qA s;have aA:=QJ s.a7 (bT dS.sS (by decide)) (bT dS.bV (by decide)) dS.Me;have sy:=wQ {s with a7:=(cO s.a7).1} (cO s.a7).2;have B4:=sy (cO s.a7).2.length;have nL:j1 {s with a7:=(cO s.a7).1} (cO s.a7).2 0= {s with a7:=(cO s.a7).1}:=rfl;have uU:∀i,j1 {s with a7:=(cO s.a7).1} (cO s.a7).2 (i+1)=mO (j1 {s with a7:=(cO s.a7).1} (cO s.a7).2 i) ((cO s.a7).2.getD i gd):=λ_=>rfl;have Yk:=abZ s.a7;have bc:=abD (mu {s with a7:=(cO s.a7).1} (cO s.a7).2) (by unfold mu;rw[B4.1];exact dS.view) Ih (by unfold mu;rw[B4.2.2.2.1];exact dS.dbts) (by unfold mu;rw[B4.2.2.2.1];exact S7) [];have yb:mu {s with a7:=(cO s.a7).1} (cO s.a7).2=j1 {s with a7:=(cO s.a7).1} (cO s.a7).2 (cO s.a7).2.length:=rfl;change cj _ _ _ _ _ (fh (bY s) []) _ at bc;rw[yb]at bc;have Ij:pn s=bif (ej (iK (fa (bY s)).1).1).2 then((ej (iK (fa (bY s)).1).1).1,(fa (bY s)).2++(iK (fa (bY s)).1).2)
  else((ej (iK (fa (bY s)).1).1).1,(fa (bY s)).2++(iK (fa (bY s)).1).2++B3 (ej (iK (fa (bY s)).1).1).1):=rfl
 rw[Ij];clear Ij yb Ih;have apH:=dS.bV;generalize bY s=S3 at *;generalize j1 {s with a7:=(cO s.a7).1} (cO s.a7).2=X at *;generalize cO s.a7=oN at *;have lR:=Ig S3;have Tb:=ab0 S3 eF (by rw[t1];exact hv.2);generalize df:fa S3=P at *;obtain⟨S4,B5⟩:=P;simp only[]at lR Tb Ii tu BY jh;obtain⟨fl,ff,lX,oa,B6,Tc,MG⟩:=lR;have v4:S4.view=s.view:=fl.trans t1;have iI:=Z9 S4.agr Ii;have gi:iK S4=({S4 with agr:=(cN S4.agr).1},jP {S4 with agr:=(cN S4.agr).1} (cN S4.agr).2):=rfl;have apI:=H7 {S4 with agr:=(cN S4.agr).1} (by show S4.view.mem.length<=16;rw[v4];exact hv.2) (cN S4.agr).2;have mr:=Mt {S4 with agr:=(cN S4.agr).1} (by show S4.view.mem.length<=16;rw[v4];exact hv.2) (by show S4.view.mem≠ [];rw[v4];exact bx) (cN S4.agr).2 tu BY B5 (by omega);have qx:=SP {S4 with agr:=(cN S4.agr).1} (by show S4.view.mem.length<=1000;rw[v4];omega) (by show S4.hist.length<=1000;rw[lX,t3];exact dS.hist) jh (B5++jP {S4 with agr:=(cN S4.agr).1} (cN S4.agr).2);have uW:=λac=>SY (s:={S4 with agr:=(cN S4.agr).1}) ac;simp only[gi];simp only[gi]at mr qx uW;clear gi;generalize jP {S4 with agr:=(cN S4.agr).1} (cN S4.agr).2=Ik at *;generalize ej {S4 with agr:=(cN S4.agr).1}=W at *;generalize cN S4.agr=apJ at *;have MH:fa S3=bif decide ((eH S3.agr (dl S3.view S3.als).1).2.2=0)then({S3 with agr:=(eH S3.agr (dl S3.view S3.als).1).1},jP {S3 with agr:=(eH S3.agr (dl S3.view S3.als).1).1} (eH S3.agr (dl S3.view S3.als).1).2.1)else(S3,[]):=by rw[fa,an,n0];rfl
 rw[MH]at df;clear MH;have yL:decide (((S3.agr.prop.map aU).length:Int)=0)=true:=by rw[bL];exact an
 have oF:=Sg S3.view (by rw[t1];omega) S3.als (by omega);have u6:=ab2;have n1:=ak9 S3.agr (by rw[t4];exact dS.agr) (dl S3.view S3.als).1 u6;have ep:=Mt {S3 with agr:=(eH S3.agr (dl S3.view S3.als).1).1} (by show S3.view.mem.length<=16;rw[t1];exact hv.2) (by show S3.view.mem≠ [];rw[t1];exact bx) (eH S3.agr (dl S3.view S3.als).1).2.1 eF Ta [] (by simp);rw[nR]at ep;generalize jP {S3 with agr:=(eH S3.agr (dl S3.view S3.als).1).1} (eH S3.agr (dl S3.view S3.als).1).2.1=vC at *;generalize eH S3.agr (dl S3.view S3.als).1=rl at *;generalize dl S3.view S3.als=apK at *;clear eF Ta;refine mi Tryz.func56 ?_;repeat' ((conv=>whnf);first|refine aR aA ?_|fail)
 all_goals(conv=>whnf)
 refine⟨Nat,λi=>⟨[(0,.aW 0 0),(34,.av 4 (oN.2.map ey) false),(35,i64 oN.2.length),(36,i64 i)],[.cells 116 (iT (X i) (.own 1) (.own 2) (.own 3)),.row 22 1 (((X i)).hist.map c8),.row 150 2 (((X i)).dbts.map dR),.row 121 2 ((([]:List ei)).map gh),.cB [.aW 0 0,.own 1,.own 2,.own 3],.bn]⟩,λi=>i<=oN.2.length,λi=>oN.2.length-i,[],⟨0,bZ _,?_⟩,?_⟩
 ·conv=>whnf
  exact⟨⟨.r,.r,a8 (by simp),.r,aj⟩,⟨by show hz _ (.cells _ (iT (X 0) (.own 1) (.own 2) (.own 3)));rw[nL];exact .refl,by show hz _ (.row _ _ ((X 0).hist.map c8));rw[nL];exact .refl,by show hz _ (.row _ _ ((X 0).dbts.map dR));rw[nL];exact .refl,.r,.r,.bn,aj⟩,by rfl⟩
 ·intro i hi;obtain⟨cH,_,_,_,_,_,_,_,_,a2⟩:=sy i;simp only[]at cH a2;repeat' ((conv=>whnf);first| (apply bo<;>intro h)|fail)
  ·have aB:i<oN.2.length:=by simpa using h
   clear h;have aG:=SH (X i) (by rw[cH];exact dS.view) (by have:=dS.als;omega) [] oN.2[i];have ax:oN.2.getD i gd=oN.2[i]:=by simp[aB]
   have oA:=uU i;rw[ax]at oA;rw[<-oA]at aG;repeat' ((conv=>whnf);first|refine⟨_,_,aS ⟨rfl,du aB⟩ ?_⟩|refine .inr ⟨[0,1,2,3],bO aG ?_⟩|fail)
   all_goals(conv=>whnf)
   refine⟨i+1,aB,by simp only[];omega,?_⟩;conv=>whnf
   exact⟨⟨.r,.r,.r,a8 (ca (by omega)),aj⟩,⟨.r,.r,.r,.r,.r,.bn,aj⟩,by rfl⟩
  ·have:i=oN.2.length:=by
    simp at h;omega
   subst this;clear h;cases he:decide (rl.2.2=0);all_goals rw[he]at df
   all_goals cases df
   all_goals repeat' ((conv=>whnf);first|refine ht (by assumption) ?_|refine ft (by assumption) ?_| (apply bo<;>intro h)|refine ch ?_|refine .inr ⟨[0,1,2,3],bO bc ?_⟩|refine aR oF ?_|refine aR n1 ?_|refine .inr ⟨[0,1,2,3],bO ep ?_⟩|refine aR iI ?_|refine .inr ⟨[0,1,2,3],bO mr ?_⟩|refine .inr ⟨[0,1,2,3],bO qx ?_⟩|fail)
   all_goals(conv=>whnf)
   all_goals rw[h]
   all_goals first
    | (refine⟨[],?_⟩<;> (conv=>whnf)<;>exact⟨.r,⟨.r,.r,.r,.r,gV ⟨.r,.aY,.aY,.aY,aj⟩,aj⟩,by rfl⟩)
    |skip
   all_goals
    obtain⟨eL,hs,_,sW,vu,MI,_⟩:=uW h;have eL:W.1.view=s.view:=eL.trans v4;generalize W.1=S6 at *;clear aA iI mr qx sy nL uU;obtain⟨ie,lq,oM⟩:=lD hF;have i0: (bB S6.view.num.toNat).length<=10:=hP 9 _;have hu:=BL (n:=S6.view.num) (by rw[eL];exact ie) (by rw[eL];exact lq);have ue:=abW [] (by simp) S6.view.num.toNat (by rw[eL];omega);rw[nR]at ue;have EE:=Sq S6.view.mem (by rw[eL];exact bT hv.2 (by decide)) S6.self;have oC:=zg S6.view.mem S6.self;have u6: (kh (cQ S6.view.mem S6.self)).length<=5:=bT (BI _) oC;have al:kh (cQ S6.view.mem S6.self)=Go.Lib.compact (pK (cQ S6.view.mem S6.self)):=rfl;have Bm:B3 S6=(kh (cQ S6.view.mem S6.self)).map (kk S6.view.num)++bif decide (0<(S6.als.length:Int))then(pY S6).map (B0 S6)else []:=rfl;generalize cQ S6.view.mem S6.self=O at *;have BV:=L8 O (pK O) (wN _) (Ey _) (by omega);have fR:=L9 (pK O) (by rw[(wN _).length_eq];omega);rw[<-al]at fR;rw[Bm];clear Bm al;generalize kh O=C at *;generalize gP: (_++Ik)=Q at *;have apL:Q.length<=40000:=by rw[<-gP,fw]; (try simp only[yq]at *);omega
    repeat' ((conv=>whnf);first|refine ch ?_|refine .inr ⟨[],[],_,[],_,_,ue,by rfl,aj,⟨.ar,a8 hu,aj⟩,?_⟩|refine .inr ⟨[],bO EE ?_⟩|refine .inr ⟨[10],bO BV ?_⟩|refine .inr ⟨[10],bO fR ?_⟩|fail)
    all_goals(conv=>whnf)
    have Td:=λ(P:List ei) (df:P.length<=100000) (dd:Int)=>MF S6 P df dd 1 (by omega) (by omega) (bB S6.view.num.toNat) (by omega);first
     | (refine⟨Nat,λi=>⟨[(0,.aW 0 0),(13,.own 5),(132,.own 6),(133,i64 C.length),(134,i64 i)],[.cells 116 (iT S6 (.own 1) (.own 2) (.own 3)),.row 22 1 ((S6).hist.map c8),.row 150 2 ((S6).dbts.map dR),.row 121 2 ((Q++(C.take i).map (kk S6.view.num)).map gh),.cB [.aW 0 0,.aY,.aY,.aY],.row 5 1 ((bB S6.view.num.toNat).map bE),.row 3 1 (C.map aU)]⟩,λi=>i<=C.length,λi=>C.length-i,[.eT 5 7,.eT 6 8],⟨0,bZ _,?_⟩,?_⟩
        focus ((conv=>whnf)<;>exact⟨⟨.r,.r,.r,a8 (by simp),.r,aj⟩,⟨.r,.r,.r,cM (by simp[<-gP]),gV ⟨.r,.aY,.aY,.aY,aj⟩,.r,.r,aj⟩,by rfl⟩))
     | (refine⟨Nat,λi=>⟨[(0,.aW 0 0),(13,.own 5),(132,.own 6),(133,i64 C.length),(134,i64 i)],[.cells 116 (iT S6 (.own 1) (.own 2) (.own 3)),.row 22 1 ((S6).hist.map c8),.row 150 2 ((S6).dbts.map dR),.row 121 2 ((Q++(C.take i).map (kk S6.view.num)).map gh),.cB [.aW 0 0,.aY,.aY,.aY],.row 5 1 ((bB S6.view.num.toNat).map bE),.row 3 1 (C.map aU)]⟩,λi=>i<=C.length,λi=>C.length-i,[.eT 5 8,.eT 6 9],⟨0,bZ _,?_⟩,?_⟩
        focus ((conv=>whnf)<;>exact⟨⟨.r,.r,.r,a8 (by simp),.r,aj⟩,⟨.r,.r,.r,cM (by simp[<-gP]),gV ⟨.r,.aY,.aY,.aY,aj⟩,.r,.r,aj⟩,by rfl⟩))
     | (refine⟨Nat,λi=>⟨[(0,.aW 0 0),(13,.own 5),(132,.own 6),(133,i64 C.length),(134,i64 i)],[.cells 116 (iT S6 (.own 1) (.own 2) (.own 3)),.row 22 1 ((S6).hist.map c8),.row 150 2 ((S6).dbts.map dR),.row 121 2 ((Q++(C.take i).map (kk S6.view.num)).map gh),.cB [.aW 0 0,.aY,.aY,.aY],.row 5 1 ((bB S6.view.num.toNat).map bE),.row 3 1 (C.map aU)]⟩,λi=>i<=C.length,λi=>C.length-i,[.eT 5 9,.eT 6 10],⟨0,bZ _,?_⟩,?_⟩
        focus ((conv=>whnf)<;>exact⟨⟨.r,.r,.r,a8 (by simp),.r,aj⟩,⟨.r,.r,.r,cM (by simp[<-gP]),gV ⟨.r,.aY,.aY,.aY,aj⟩,.r,.r,aj⟩,by rfl⟩))
     | (refine⟨Nat,λi=>⟨[(0,.aW 0 0),(13,.own 5),(132,.own 6),(133,i64 C.length),(134,i64 i)],[.cells 116 (iT S6 (.own 1) (.own 2) (.own 3)),.row 22 1 ((S6).hist.map c8),.row 150 2 ((S6).dbts.map dR),.row 121 2 ((Q++(C.take i).map (kk S6.view.num)).map gh),.cB [.aW 0 0,.aY,.aY,.aY],.row 5 1 ((bB S6.view.num.toNat).map bE),.row 3 1 (C.map aU)]⟩,λi=>i<=C.length,λi=>C.length-i,[.eT 5 10,.eT 6 11],⟨0,bZ _,?_⟩,?_⟩
        focus ((conv=>whnf)<;>exact⟨⟨.r,.r,.r,a8 (by simp),.r,aj⟩,⟨.r,.r,.r,cM (by simp[<-gP]),gV ⟨.r,.aY,.aY,.aY,aj⟩,.r,.r,aj⟩,by rfl⟩))
    ·intro i hi;repeat' ((conv=>whnf);first| (apply bo<;>intro h)|fail)
     ·have aB:i<C.length:=by simpa using h
      clear h;have jy:=Td (Q++(C.take i).map (kk S6.view.num)) (by rw[fw,bL,mW];omega) C[i];have hx:Q++(C.take i).map (kk S6.view.num)++ [ei.mk C[i] (eu 1 (bB S6.view.num.toNat))]=Q++(C.take (i+1)).map (kk S6.view.num):=by
       rw[fA aB,ew,k1];rfl
      rw[hx]at jy;have gD:i<(C.map aU).length:=by rw[bL];exact aB
      have cL: (C.map aU)[i]?=some (aU C[i]):=du aB;repeat' ((conv=>whnf);first|refine⟨i,aS ⟨rfl,gD⟩ ?_⟩|refine⟨aU C[i],aS cL ?_⟩|refine .inr ⟨[0,1,2,3,5],bO jy ?_⟩|fail)
      all_goals(conv=>whnf)
      refine⟨i+1,aB,by simp only[];omega,?_⟩;conv=>whnf
      exact⟨⟨.r,.r,.r,.r,a8 (ca (by omega)),aj⟩,⟨.r,.r,.r,.r,.r,.r,.r,aj⟩,by rfl⟩
     ·rename_i aQ;have:i=C.length:=by
       simp at aQ;omega
      subst this;clear aQ;rw[gn];rw[bL]at h;rw[h];have Te:dG S6.view S6.als=true:=by rw[hs,oa,eL,<-t1];exact S9
      have jn:S6.als.length<=6000:=by rw[hs,oa];exact S8
      have rK:=SX (v:=S6.view) (l:=S6.als) S6.als.length;have Il:=Ze S6.view (by rw[eL];exact bT hv.2 (by decide)) S6.als (by omega);rw[abQ Te]at Il;have Tf:=SI S6 (by rw[eL];omega) (by rw[eL];exact bx) (Q++C.map (kk S6.view.num));have Tg: ((bB S6.view.num.toNat).map bE).length+((fH S6.als S6.als.length).map bE).length<=2000000:=by rw[bL,bL];omega
      have lo: (bB S6.view.num.toNat++fH S6.als S6.als.length).length<=800000:=by rw[fw];omega
      have En: (bB S6.view.num.toNat).map bE++(fH S6.als S6.als.length).map bE=(bB S6.view.num.toNat++fH S6.als S6.als.length).map bE:=by rw[ew]
      have yc:=λ(P:List ei) (df:P.length<=100000) (dd:Int)=>MF S6 P df dd 2 (by omega) (by omega) (bB S6.view.num.toNat++fH S6.als S6.als.length) lo;have Th:∀m:Int,ei.mk m (eu 2 (bB S6.view.num.toNat++fH S6.als S6.als.length))=B0 S6 m:=λ_=>rfl;have apM: (pY S6).length<=16:=Mr S6 (by rw[eL];exact hv.2);simp only[Th]at yc;have apN: (Q++C.map (kk S6.view.num)).length<=50000:=by rw[fw,bL];omega
      rw[<-k1];generalize Q++C.map (kk S6.view.num)=yd at *;generalize bB S6.view.num.toNat++fH S6.als S6.als.length=B2 at *;generalize B0 S6=F at *;generalize pY S6=Z at *;repeat' ((conv=>whnf);first|refine ch ?_|refine aR Il ?_|refine aS (rT Tg) ?_|refine .inr ⟨[0,1,2,3],bO Tf ?_⟩|fail)
      all_goals(conv=>whnf)
      refine⟨Nat,λi=>⟨[(0,.aW 0 0),(17,.own 5),(164,.av 1 (Z.map aU) false),(165,i64 Z.length),(166,i64 i)],[.cells 116 (iT S6 (.own 1) (.own 2) (.own 3)),.row 22 1 ((S6).hist.map c8),.row 150 2 ((S6).dbts.map dR),.row 121 2 ((yd++(Z.take i).map F).map gh),.cB [.aW 0 0,.aY,.aY,.aY],.row 5 1 (B2.map bE)]⟩,λi=>i<=Z.length,λi=>Z.length-i,[],⟨0,bZ _,?_⟩,?_⟩
      ·conv=>whnf
       exact⟨⟨.r,.r,.r,a8 (by simp),.r,aj⟩,⟨.r,.r,.r,cM (by simp),gV ⟨.r,.aY,.aY,.aY,aj⟩,cM En,aj⟩,by rfl⟩
      ·intro i hi;repeat' ((conv=>whnf);first| (apply bo<;>intro h)|fail)
       ·have aB:i<Z.length:=by simpa using h
        clear h;have jy:=yc (yd++(Z.take i).map F) (by rw[fw,bL,mW];omega) Z[i];have hx:yd++(Z.take i).map F++ [F Z[i]]=yd++(Z.take (i+1)).map F:=by
         rw[fA aB,ew,k1];rfl
        rw[hx]at jy;repeat' ((conv=>whnf);first|refine⟨_,_,aS ⟨rfl,du aB⟩ ?_⟩|refine .inr ⟨[0,1,2,3,5],bO jy ?_⟩|fail)
        all_goals(conv=>whnf)
        refine⟨i+1,aB,by simp only[];omega,?_⟩;conv=>whnf
        exact⟨⟨.r,.r,.r,.r,a8 (ca (by omega)),aj⟩,⟨.r,.r,.r,.r,.r,.r,aj⟩,by rfl⟩
       ·have:i=Z.length:=by
         simp at h;omega
        subst this;rw[gn];repeat' ((conv=>whnf);first|refine bl ?_|fail)
        all_goals(conv=>whnf)
        refine⟨[],?_⟩;conv=>whnf
        exact⟨.r,⟨.r,.r,.r,.r,.r,aj⟩,by rfl⟩
     ·rename_i aQ;have:i=C.length:=by
       simp at aQ;omega
      subst this;clear aQ;rw[gn];rw[bL]at h;rw[h];conv=>whnf
      refine⟨[],?_⟩;conv=>whnf
      exact⟨.r,⟨.r,.r,.r,cM (by simp),.r,aj⟩,by rfl⟩
theorem aqX(s:Mem)(h:ME s):cj Tryz.prog 56 (fh s []) [.aW 0 0] [true,false,false,false] (fh (pn s).1 (pn s).2) (.be []):=by
 cases h1:decide (((bY s).agr.prop.length:Int)=0)
 ·exact ab1 s h (.inl h1)
 ·cases ad: (dl (bY s).view (bY s).als).2
  ·exact ab1 s h (.inr ⟨h1,ad⟩)
  ·exact aqW s h h1 ad
theorem aqY(s:Mem)(h:Cf s)(bU:s.status=1):bq Tryz.prog 24 [.agg (cv s)] (.be [.agg (cv (pn s).1),.av 2 ((pn s).2.map gh) false]):=by
 have aA:=wO s h.mE;rw[h.v]at aA;have cn:=EG s h.mE;have bw:=SG s (aqX s (h.act bU));have aQ:decide (s.status=0)=false:=by rw[bU];rfl
 have h1:decide (s.status=1)=true:=by rw[bU];rfl
 generalize pn s=R at *;refine fX Tryz.func24 ?_;repeat' ((conv=>whnf);first|refine ht (by assumption) ?_|refine ft (by assumption) ?_|exact .refl|refine ch ?_|refine aR aA ?_|refine .inr ⟨[],bO cn ?_⟩|refine .inr ⟨[4,2,3],bO bw ?_⟩|fail)
theorem aqZ(s:Mem)(h:Cf s)(aQ:s.status≠0)(h1:s.status≠1):bq Tryz.prog 24 [.agg (cv s)] (.be [.agg (cv s),.av 2 (([]:List ei).map gh) false]):=by
 have aA:=wO s h.mE;rw[h.v]at aA;have cn:=EG s h.mE;have aQ:decide (s.status=0)=false:=c5 aQ;have h1:decide (s.status=1)=false:=c5 h1;refine fX Tryz.func24 ?_;repeat' ((conv=>whnf);first|refine ft (by assumption) ?_|refine ch ?_|refine aR aA ?_|refine .inr ⟨[],bO cn ?_⟩|fail)
 all_goals(conv=>whnf)
 all_goals exact e1 ⟨.r,.ar,aj⟩
theorem aq0(s:Mem)(h:Cf s)(bU:s.status=0)(al:s.cont.length<=1000):bq Tryz.prog 24 [.agg (cv s)] (.be [.agg (cv s),.av 2 ((s.cont.map λm=>ei.mk m zP).map gh) false]):=by
 have aA:=wO s h.mE;rw[h.v]at aA;have cn:=EG s h.mE;have aQ:decide (s.status=0)=true:=e4 bU;have es:=λ(aZ:List ei) (oI:aZ.length<=100000) (dd:Int)=>SJ s aZ oI dd 5 (by omega) (by omega) [] (by simp);refine fX Tryz.func24 ?_;repeat' ((conv=>whnf);first|refine ht (by assumption) ?_|refine aR aA ?_|refine .inr ⟨[],bO cn ?_⟩|fail)
 all_goals(conv=>whnf)
 refine⟨Nat,λi=>⟨[(2,.aW 1 0),(4,.aW 4 0),(26,.av 1 (s.cont.map aU) false),(27,i64 s.cont.length),(28,i64 i)],[.cells 55 (cv s),.cells 55 (aE ah 55).zero,.row 22 1 (s.hist.map c8),.row 150 2 (s.dbts.map dR),.cells 116 (iT s (.own 2) (.own 3) (.own 5)),.row 121 2 (((s.cont.take i).map λm=>ei.mk m zP).map gh)]⟩,λi=>i<=s.cont.length,λi=>s.cont.length-i,[.cell 4 29 121 2],⟨0,bZ _,?_⟩,?_⟩
 ·conv=>whnf
  exact⟨⟨.r,.r,.r,a8 (by simp),.r,aj⟩,⟨.r,.r,.r,.r,.r,.r,aj⟩,by rfl⟩
 ·intro i hi;repeat' ((conv=>whnf);first| (apply bo<;>intro h)|refine ch ?_|fail)
  ·have aB:i<s.cont.length:=by simpa using h
   clear h;have ep:=es ((s.cont.take i).map λm=>ei.mk m zP) (by rw[bL,mW];omega) s.cont[i];have hx: ((s.cont.take i).map λm=>ei.mk m zP)++ [ei.mk s.cont[i] (eu 5 [])]=(s.cont.take (i+1)).map λm=>ei.mk m zP:=by
    rw[fA aB,ew];rfl
   rw[hx]at ep;repeat' ((conv=>whnf);first|refine⟨_,_,aS ⟨rfl,du aB⟩ ?_⟩|refine .inr ⟨[4,2,3,5],_,_,_,_,_,ep,by rfl,⟨.r,.r,.r,.r,aj⟩,⟨.r,.r,.r,.ar,aj⟩,?_⟩|fail)
   all_goals(conv=>whnf)
   refine⟨i+1,aB,by simp only[];omega,?_⟩;conv=>whnf
   exact⟨⟨.r,.r,.r,.r,a8 (ca (by omega)),aj⟩,⟨.r,.r,.r,.r,.r,.r,aj⟩,by rfl⟩
  ·have:i=s.cont.length:=by
    simp at h;omega
   subst this;clear h;rw[gn];repeat' ((conv=>whnf);first|exact .refl|fail)
theorem aq1(s:Mem)(h:Cf s):bq Tryz.prog 24 [.agg (cv s)] (.be [.agg (cv (fi s).1),.av 2 (((fi s).2.map sX).map gh) false]):=by
 unfold fi;by_cases h1:s.status=1
 ·rw[b3 h1];have e:=aqY s h h1;have an:=aqw s
  grind
 ·rw[bm h1];by_cases aQ:s.status=0
  ·rw[b3 aQ];have:=aq0 s h aQ h.mE.cont;simp only[oU]at this⊢;exact this
  ·rw[bm aQ];exact aqZ s h aQ h1
theorem acU{Ms:List Mem}{b:Nat}{s:Mem}: (Ms.map cv).set b (cv s)=(Ms.set b s).map cv:=by simp
theorem aq2(c:Int)(cb:Int->Int->Bool)(jg:∀f t:Int,0<=f->0<=t->bq Tryz.prog 29 [u64 c,i64 f,i64 t] (.v (.bool (cb f t))))(aF:List Bool)(Ms:List Mem)(aJ:List dr)(h:yi cb aF Ms aJ):
  cj Tryz.prog 12 [.cells 32 (pX 1 2 3),.row 55 29 (Ms.map cv),.row 4 1 (aF.map iJ),.row 82 3 ((aJ.map oO).map l2)] [.aW 0 0,u64 c] [true,true,true,false] [.cells 32 (pX 1 2 3),.row 55 29 ((cZ cb aF Ms aJ).1.map cv),.row 4 1 (aF.map iJ),.row 82 3 (((cZ cb aF Ms aJ).2.map oO).map l2)] (.v (.bool true)):=by
 obtain⟨aV,nb,kQ,aq3,aq4,hlen,Pc⟩:=h;have Mu:eX cb aF Ms aJ 0=(Ms,[]):=rfl;have SM:∀k,eX cb aF Ms aJ (k+1)=s0 cb aF (eX cb aF Ms aJ k) (aJ.getD k EX):=λ_=>rfl;have zD:=Cg cb aF Ms aJ;have zO:∀X,kG aF X 0=X:=λ_=>rfl;have H9:∀X i,kG aF X (i+1)=r9 aF (kG aF X i) i:=λ_ _=>rfl;have aq5:=IB aF (eX cb aF Ms aJ aJ.length);have b1:cZ cb aF Ms aJ=kG aF (eX cb aF Ms aJ aJ.length) Ms.length:=rfl;rw[b1];clear b1;generalize eX cb aF Ms aJ=X at *;have GX:∀b (ac:b<Ms.length),(aF.map iJ)[b]?=some (iJ (aF.getD b true)):=λb ac=>by
  rw[fe];simp[show b<aF.length by omega]
 refine mi Tryz.func12 ?_;repeat' ((conv=>whnf);first|refine bl ?_|fail)
 all_goals(conv=>whnf)
 refine⟨Nat,λk=>⟨[(0,.aW 0 0),(1,u64 c),(5,.own 3),(6,i64 k)],[.cells 32 (pX 1 2 5),.row 55 29 ((X k).1.map cv),.row 4 1 (aF.map iJ),.row 82 3 ((aJ.map oO).map l2),.cB [.aW 0 0,.own 1,.own 2,.own 3],.row 82 3 (((X k).2.map oO).map l2)]⟩,λk=>k<=aJ.length,λk=>aJ.length-k,[.cell 0 2 82 3],⟨0,bZ _,?_⟩,?_⟩
 ·conv=>whnf
  refine⟨⟨.r,.r,.r,.r,aj⟩,⟨.r,cM (by rw[Mu]),.r,.r,.r,cM (by rw[Mu];rfl),aj⟩,by rfl⟩
 ·intro k hk;repeat' ((conv=>whnf);first| (apply bo<;>intro h)|fail)
  all_goals(conv=>whnf)
  ·have aB:k<aJ.length:=by
    have:=fC h;rw[bL,bL]at this;omega
   clear h;have TX: ((aJ.map oO).map l2)[k]?=some (l2 (oO aJ[k])):=by simp[aB]
   have gD:k<((aJ.map oO).map l2).length:=by simp[aB]
   have jL:=SM k;have l1:aJ.getD k EX=aJ[k]:=by simp[aB]
   rw[l1]at jL;have TY:=aq3 k aB;have EZ:=hlen (k+1) aB;have wr:=zD k;rw[jL]at EZ;generalize aJ[k]=f at *;have aA:=acL (X k).1 (by omega) aF ((X k).2.map oO) f.src;have aG:=acL (X k).1 (by omega) aF ((X k).2.map oO) f.dst;unfold s0 at jL EZ;have avE:=zX (X k).1 f.src;have Ic:=zX (X k).1 f.dst;generalize lG (X k).1 f.src=a at *;generalize lG (X k).1 f.dst=b at *;by_cases pb:a<0\/b<0
   ·have jL:X (k+1)=X k:=by
     rw[jL];by_cases bb:a<0
     ·rw[b3 bb]
     ·rw[bm bb,b3 (pb.resolve_left bb)]
    have wT: (decide (a<0)||decide (b<0))=true:=by
     rcases pb with h|h
     ·rw[e4 h];rfl
     ·rw[e4 h,Fh]
    have ax:∀ {p:Prop},(!(decide (a<0)||decide (b<0)))=true->p:=λh=>by rw[wT]at h;cases h
    have iP:∀ {p:Prop},(!(decide (a<0)||decide (b<0)||false))=true->p:=λh=>by rw[wT]at h;cases h
    have Hf: (decide (a<0)||decide (b<0)||false||false)=true:=by rw[wT];rfl
    repeat' ((conv=>whnf);first|refine bl ?_|refine ht (by assumption) ?_|refine ch ?_|refine⟨k,aS ⟨rfl,gD⟩ ?_⟩|refine⟨l2 (oO f),aS TX ?_⟩|refine .inr ⟨[0,1,2,5],bO aA ?_⟩|refine .inr ⟨[0,1,2,5],bO aG ?_⟩|refine⟨0,aS ⟨⟨λh=>h,λh=>h⟩,λh=>ax h⟩ ?_⟩|refine⟨iJ false,aS ⟨λh=>h,λh=>ax h⟩ ?_⟩|refine⟨_,.v (.bool false),Aq _,λh=>iP h,?_⟩| (refine aS ?_ ?_;focus (simp;done))|fail)
    all_goals(conv=>whnf)
    refine⟨k+1,aB,by simp only[];omega,?_⟩;conv=>whnf
    exact⟨⟨.r,.r,.r,a8 (ca (by omega)),aj⟩,⟨.r,cM (by rw[jL]),.r,.r,.r,cM (by rw[jL]),aj⟩,by rfl⟩
   ·have Eu:0<=a:=by omega
    have abS:0<=b:=by omega
    obtain⟨kn,lo,Sf⟩:∃kn,kn<(X k).1.length/\b=(kn:Int):=by
     rcases Ic with⟨e,_⟩| ⟨j,aq,e,_⟩
     ·omega
     ·exact⟨j,aq,e⟩
    subst Sf;rw[bm (show ¬a<0 by omega),bm (show ¬((kn:Int))<0 by omega),l6]at jL EZ;have cn:=jg a kn Eu abS;have IE:kn<(aF.map iJ).length:=by rw[bL,nb];omega
    have l1:=GX kn (by omega);have TY:=TY kn rfl (by omega);have n1:decide (a<0)=false:=c5 (by omega);have acV:decide ((kn:Int)<0)=false:=c5 (by omega);generalize aF.getD kn true=w at *;generalize cb a kn=y at *;cases M3: (w||y)
    ·rw[M3,bD]at jL EZ;have Hf: (decide (a<0)||decide ((kn:Int)<0)||w||y)=false:=by rw[n1,acV,Bool.or_assoc,M3];rfl
     have aq6:w=false:=by cases w<;>simp_all
     have bc:=aqb ((X k).1.getD kn dv) f.src f.bj (TY aq6);have ax: (X k).1.getD kn dv=(X k).1[kn]:=by simp[lo]
     rw[ax]at bc jL EZ;generalize eM (X k).1[kn] f.src f.bj=R at *;obtain⟨s',aZ⟩:=R;simp only[]at bc jL EZ;have EN: ((X k).1.set kn s')[kn]'(by simp;omega)=s':=by simp
     have ep:=acM ((X k).1.set kn s') (by simp;omega) aF ((X k).2.map oO) kn (by simp;omega) (aZ.map sX) (by simp only[fw,bL]at *;omega);rw[EN,<-acN,<-ew]at ep;have aq7:kn<((X k).1.map cv).length:=by rw[bL];exact lo
     have TZ: ((X k).1.map cv)[kn]?=some (cv (X k).1[kn]):=du lo;have bU:=acU (Ms:=(X k).1) (b:=kn) (s:=s');have vZ: (X (k+1)).1=(X k).1.set kn s':=by rw[jL]
     have jH: (X (k+1)).2=(X k).2++aZ.map (j5 s'.self):=by rw[jL]
     generalize(X k).1[kn]=aq8 at *;repeat' ((conv=>whnf);first|refine bl ?_|refine ft (by assumption) ?_|refine ch ?_|refine⟨k,aS ⟨rfl,gD⟩ ?_⟩|refine⟨l2 (oO f),aS TX ?_⟩|refine .inr ⟨[0,1,2,5],bO aA ?_⟩|refine .inr ⟨[0,1,2,5],bO aG ?_⟩|refine⟨kn,aS ⟨⟨λh=>h,λh=>h⟩,λ_=>⟨rfl,IE⟩⟩ ?_⟩|refine⟨iJ w,aS ⟨λh=>h,λ_=>l1⟩ ?_⟩|refine ea cn ?_|refine⟨kn,aS ⟨rfl,aq7⟩ ?_⟩|refine⟨cv aq8,aS TZ ?_⟩|refine aR bc ?_|refine .inr ⟨[0,1,2,5],_,_,_,_,_,ep,by rfl,⟨.r,cM bU,.r,.r,aj⟩,⟨.r,.r,.r,aj⟩,?_⟩| (refine aS ?_ ?_;focus (simp;done))|fail)
     all_goals(conv=>whnf)
     refine⟨k+1,aB,by simp only[];omega,?_⟩;conv=>whnf
     exact⟨⟨.r,.r,.r,a8 (ca (by omega)),aj⟩,⟨.r,cM (by rw[vZ]),.r,.r,.r,cM (by rw[jH]),aj⟩,by rfl⟩
    ·rw[M3,b6]at jL;have Hf: (decide (a<0)||decide ((kn:Int)<0)||w||y)=true:=by rw[n1,acV,Bool.or_assoc,M3];rfl
     repeat' ((conv=>whnf);first|refine bl ?_|refine ht (by assumption) ?_|refine ch ?_|refine⟨k,aS ⟨rfl,gD⟩ ?_⟩|refine⟨l2 (oO f),aS TX ?_⟩|refine .inr ⟨[0,1,2,5],bO aA ?_⟩|refine .inr ⟨[0,1,2,5],bO aG ?_⟩|refine⟨kn,aS ⟨⟨λh=>h,λh=>h⟩,λ_=>⟨rfl,IE⟩⟩ ?_⟩|refine⟨iJ w,aS ⟨λh=>h,λ_=>l1⟩ ?_⟩|refine ea cn ?_| (refine aS ?_ ?_;focus (simp;done))|fail)
     all_goals(conv=>whnf)
     refine⟨k+1,aB,by simp only[];omega,?_⟩;conv=>whnf
     exact⟨⟨.r,.r,.r,a8 (ca (by omega)),aj⟩,⟨.r,cM (by rw[jL]),.r,.r,.r,cM (by rw[jL]),aj⟩,by rfl⟩
  ·have hS:k=aJ.length:=by
    have:=rv h;rw[bL,bL]at this;exact Nat.le_antisymm hk (by omega)
   clear h;subst hS;have aq9:=zD aJ.length;generalize X aJ.length=Z at *;obtain⟨Mp,Mb⟩:=Z;have zO:=zO (Mp,Mb);have H9:=H9 (Mp,Mb);simp only[]at aq9;generalize kG aF (Mp,Mb)=Y at *;refine⟨Nat,λi=>⟨[(0,.aW 0 0),(12,i64 i)],[.cells 32 (pX 1 2 5),.row 55 29 ((Y i).1.map cv),.row 4 1 (aF.map iJ),.row 82 3 ((aJ.map oO).map l2),.cB [.aW 0 0,.own 1,.own 2,.own 3],.row 82 3 (((Y i).2.map oO).map l2)]⟩,λi=>i<=Ms.length,λi=>Ms.length-i,[],⟨0,bZ _,?_⟩,?_⟩
   ·conv=>whnf
    exact⟨⟨.r,.r,aj⟩,⟨.r,cM (by rw[zO]),.r,.r,.r,cM (by rw[zO]),aj⟩,by rfl⟩
   ·intro i hi;have ara:=aq5 i;simp only[]at ara;by_cases aB:i<Ms.length
    ·have jL:=H9 i;have pJ:=aq4 i aB;have wt:=Pc (i+1) aB;rw[jL]at wt;have ek:i<(Y i).1.length:=by omega
     have arb:decide ((i:Int)<(((Y i).1.map cv).length:Int))=true:=by rw[bL];exact e4 (by omega)
     unfold r9 at jL wt;have IE:i<(aF.map iJ).length:=by rw[bL,nb];exact aB
     have l1:=GX i aB;cases T0:aF.getD i true
     ·rw[T0]at l1 jL wt;simp only[bD]at jL wt;have aA:=aq1 ((Y i).1.getD i dv) (pJ T0);have ax: (Y i).1.getD i dv=(Y i).1[i]:=by simp[ek]
      rw[ax]at aA jL wt;generalize fi (Y i).1[i]=R at *;obtain⟨s',aZ⟩:=R;simp only[]at aA jL wt;have EN: ((Y i).1.set i s')[i]'(by simp;omega)=s':=by simp
      have aG:=acM ((Y i).1.set i s') (by simp;omega) aF ((Y i).2.map oO) i (by simp;omega) (aZ.map sX) (by simp only[fw,bL]at *;omega);rw[EN,<-acN,<-ew]at aG;have arc:i<((Y i).1.map cv).length:=by rw[bL];exact ek
      have TZ: ((Y i).1.map cv)[i]?=some (cv (Y i).1[i]):=du ek;have bU:=acU (Ms:=(Y i).1) (b:=i) (s:=s');have vZ: (Y (i+1)).1=(Y i).1.set i s':=by rw[jL]
      have jH: (Y (i+1)).2=(Y i).2++aZ.map (j5 s'.self):=by rw[jL]
      generalize(Y i).1[i]=m0 at *;repeat' ((conv=>whnf);first|refine ht (by assumption) ?_|refine ch ?_|refine⟨i,aS ⟨rfl,IE⟩ ?_⟩|refine⟨iJ false,aS l1 ?_⟩|refine⟨i,aS ⟨rfl,arc⟩ ?_⟩|refine⟨cv m0,aS TZ ?_⟩|refine aR aA ?_|refine .inr ⟨[0,1,2,5],_,_,_,_,_,aG,by rfl,⟨.r,cM bU,.r,.r,aj⟩,⟨.r,.r,.r,aj⟩,?_⟩|fail)
      all_goals(conv=>whnf)
      refine⟨i+1,aB,by simp only[];omega,?_⟩;conv=>whnf
      exact⟨⟨.r,a8 (ca (by omega)),aj⟩,⟨.r,cM (by rw[vZ]),.r,.r,.r,cM (by rw[jH]),aj⟩,by rfl⟩
     ·rw[T0]at l1 jL;simp only[b6]at jL;repeat' ((conv=>whnf);first|refine ht (by assumption) ?_|refine⟨i,aS ⟨rfl,IE⟩ ?_⟩|refine⟨iJ true,aS l1 ?_⟩|fail)
      all_goals(conv=>whnf)
      refine⟨i+1,aB,by simp only[];omega,?_⟩;conv=>whnf
      exact⟨⟨.r,a8 (ca (by omega)),aj⟩,⟨.r,cM (by rw[jL]),.r,.r,.r,cM (by rw[jL]),aj⟩,by rfl⟩
    ·have cS:i=Ms.length:=by omega
     have arb:decide ((i:Int)<(((Y i).1.map cv).length:Int))=false:=by rw[bL];exact c5 (by omega)
     subst cS;repeat' ((conv=>whnf);first|refine ft (by assumption) ?_|fail)
     all_goals(conv=>whnf)
     refine⟨[.eT 3 5],?_⟩;conv=>whnf
     exact⟨.r,⟨.r,.r,.r,.r,HY,aj⟩,by rfl⟩
section
variable {bA:aK->Int->Prop} {T:Nat} {G bd:iL} {Ms:List Mem} {aJ:List dr}
theorem ard(cb:Int->Int->Bool)(aF:List Bool){X:List Mem×List dr}(h:lH bA T G X.1 (aJ++X.2)){f:dr}(au:f∈aJ): (s0 cb aF X f).1.map (·.self)=X.1.map (·.self):=by
 obtain⟨f1,f2,f3⟩:=h.hg f (CL _ au);unfold s0;by_cases h1:lG X.1 f.src<0
 ·grind
 ·rw[bm h1];rcases zX X.1 f.dst with⟨aA,_⟩| ⟨b,ac,aA,aG,_⟩
  ·grind
  ·rw[bm (by omega),aA,l6];cases aF.getD b true||cb (lG X.1 f.src) (b:Int)
   ·have ax:X.1.getD b dv=X.1[b]:=by grind
    rw[ax,bD];have ao:=(TH h.g (h.mem b ac) (by omega) f1).1;simp only[];rw[oj,ao];have: (X.1.map (·.self))[b]'(by grind)=X.1[b].self:=by simp
    rw[<-this,Ft]
   ·rfl
theorem are(aF:List Bool){X:List Mem×List dr}(h:lH bA T G X.1 X.2){i:Nat}(hi:i<X.1.length)(bw:X.1[i].hist.length<T)(df:aF.getD i true=false->l4 bA X.1[i]): (r9 aF X i).1.map (·.self)=X.1.map (·.self):=by
 have ax:X.1.getD i dv=X.1[i]:=by grind
 unfold r9;cases EY:aF.getD i true
 ·rw[ax];simp only[bD];have ao:=(MX h.g (h.mem i hi) bw (df EY)).1;rw[oj,ao];have: (X.1.map (·.self))[i]'(by grind)=X.1[i].self:=by simp
  rw[<-this,Ft]
 ·rfl
theorem arf(cb:Int->Int->Bool)(aF:List Bool)(h:lH bA T G Ms aJ)(aw:T+1<=399)(df:∀i (hi:i<(eX cb aF Ms aJ aJ.length).1.length),aF.getD i true=false->l4 bA (eX cb aF Ms aJ aJ.length).1[i]): (cZ cb aF Ms aJ).1.map (·.self)=Ms.map (·.self):=by
 have ai:=ID cb aF h;have lh:∀k,k<=aJ.length->(eX cb aF Ms aJ k).1.map (·.self)=Ms.map (·.self):=by
  intro k;induction k with
  |zero=>intro _;rfl
  |succ k a1=>
   intro hk;obtain⟨⟨bd,_,h1⟩,_⟩:=ai k (by omega);have aB:k<aJ.length:=by omega
   have ax:aJ.getD k EX=aJ[k]:=by grind
   unfold eX;rw[ax];exact(ard cb aF h1 (eD aB)).trans (a1 (by omega))
 obtain⟨⟨p2,aA,h1⟩,ad⟩:=ai aJ.length (bS _);have gO:lH bA (T+1) p2 (eX cb aF Ms aJ aJ.length).1 (eX cb aF Ms aJ aJ.length).2:=by
  have:=TT h1 (mQ:=(eX cb aF Ms aJ aJ.length).2) (λf au=>mx _ au);exact⟨TU this.g aw,this.mem,this.lP,this.hg,this.bj⟩
 have hL:=Cg cb aF Ms aJ aJ.length;have bw:∀i (hi:i<(eX cb aF Ms aJ aJ.length).1.length),(eX cb aF Ms aJ aJ.length).1[i].hist.length<T+1:=λi hi=>by
  have:=TV (h1.mem i hi);have:=h1.g.len;omega
 have ct:=TW aF gO bw df;have arh:∀i,i<=Ms.length->(kG aF (eX cb aF Ms aJ aJ.length) i).1.map (·.self)=Ms.map (·.self):=by
  intro i;induction i with
  |zero=>intro _;exact lh _ (bS _)
  |succ i a1=>
   intro hi;have xO:i<(eX cb aF Ms aJ aJ.length).1.length:=by omega
   obtain⟨⟨bd,_,aN⟩,_,bs⟩:=ct i (by omega);have ek:i<(kG aF (eX cb aF Ms aJ aJ.length) i).1.length:=by grind
   unfold kG;exact(are aF aN ek (by rw[IC (bs i (bS _))];exact bw i xO) (by rw[IC (bs i (bS _))];exact df i xO)).trans (a1 (by omega))
 exact arh _ (bS _)
end
theorem acW{bA:aK->Int->Prop}{v:aK}(ab:b2 v=true)(aV:v.num<=1000){x:Int}(ag:x∈v.mem):dm bA 0 ⟨v,[],λ_=>r7⟩/\fz ⟨v,[],λ_=>r7⟩ (nN v 0 nM x):=by
 have dA:dm bA 0 ⟨v,[],λ_=>r7⟩:=⟨⟨ab,λi hi=>by grind⟩,aV,bS _,by decide,λ_ _ h=>h,λk _=>acm _,λk hk=>by grind,λ_ _ _ h=>h.elim⟩
 have cS:=iR.2 ag;refine⟨dA,?_⟩;have h1:=Mg (v:=v) (self:=x) (by grind);rw[SE ab cS]at h1;have ad:nN v 0 nM x=eR {dv with self:=x,first:=v} v:=(Prod.mk.inj h1).1;rw[ad];exact Iw dA (k:=0) (s:={dv with self:=x,first:=v}) (abh ab cS) rfl rfl (bS _) rfl λj _ _=>MP _ _
def has(l:List cg)(x:Int):Prop:=∃y∈l,y.mem=x
variable{l:List cg}{r:cg}
theorem ari(h:gI v l=true)(ao:jK v r=true)(aV:∀x∈l,x.mem≠r.mem): (fN v l r).1=iS l r:=by
 have ab:b2 v=true:=by
  simp only[gI,cq]at h
  grind
 obtain⟨h1,ad⟩:=(q6 ab).1 h;have aN:gI v (iS l r)=true:=(q6 ab).2 ⟨λx ag=>by
  rcases Bq ag with rfl|ag;all_goals grind,(akx ad).2 aV⟩
 unfold fN
 grind
theorem arj(l:List cg)(r:cg):r∈iS l r:=by
 unfold iS;simp
theorem acX(h:gI v l=true)(ao:jK v r=true):has (fN v l r).1 r.mem:=by
 by_cases ag:∃y∈l,y.mem=r.mem
 ·obtain⟨y,bk,e⟩:=ag;exact⟨y,Hx h bk,e⟩
 ·rw[ari h ao (λx lS e=>ag ⟨x,lS,e⟩)];exact⟨r,arj l r,rfl⟩
theorem zY{x:Int}(h:gI v l=true)(ag:has l x):has (fS v l r) x:=by
 obtain⟨y,bk,rfl⟩:=ag;unfold fS;cases h1:decide (0<=eQ l r.mem)
 ·exact⟨y,Hx h bk,rfl⟩
 ·simp only[b6];cases decide ((l.getD (eQ l r.mem).toNat dB).aC<r.aC)
  ·exact⟨y,bk,rfl⟩
  ·simp only[b6];obtain⟨_,hk⟩:=zu h1;have jm:=RK h1;rw[show l.getD (eQ l r.mem).toNat dB=l[(eQ l r.mem).toNat] by grind]at jm;obtain⟨j,aq,rfl⟩:=fv bk;generalize(eQ l r.mem).toNat=k at *;by_cases e:j=k
   ·subst e;exact⟨r,fq (i:=j) (by grind),jm.symm⟩
   ·exact⟨l[j],fq (i:=j) (by grind),rfl⟩
theorem IF(h:gI v l=true)(ao:jK v r=true):has (fS v l r) r.mem:=by
 by_cases ag:has l r.mem
 ·exact zY h ag
 ·have h1:decide (0<=eQ l r.mem)=false:=by
   cases al:decide (0<=eQ l r.mem)
   ·rfl
   ·exact absurd (BA.1 (fC al)) ag
  unfold fS;rw[h1];exact acX h ao
theorem IG{P:Int->Prop}(h:∀x∈l,P x.aC)(ao:P r.aC):∀x∈fS v l r,P x.aC:=λx ag=>by
 rcases Ek ag with rfl|ag;all_goals grind
structure h9(b:Prop)(ρ w:Int)(s:bi):Prop where
 dec:s.dec=[]
 prop:s.prop≠ []
 cc:s.aL.cc=0\/b/\s.aL.cc=ρ
 nP:s.aL.aC=0\/b/\s.aL.aC=ρ
 aM:∀x∈s.aM,b/\x.aC=ρ
 ip:s.aC=0
 h7:s.phase=0
 cD:s.cD=w
structure sa(ρ w:Int)(s:bi):Prop where
 dec:s.dec=[]
 prop:s.prop≠ []
 cc:s.aL.cc=ρ
 nP:s.phase=1/\s.aL.aC=0\/s.phase=2/\has s.aM s.self
 aM:∀x∈s.aM,x.aC=ρ
 ip:s.aC=ρ
 cD:s.cD=w
def rm(b:Prop)(ρ:Int)(m:c1):Prop:=m.kind=1\/b/\m.kind≠6/\m.aC=ρ
theorem Ch(h:s.dec=[])(aZ:List dN): (dk s aZ).1.dec≠ []\/dk s aZ=(s,aZ):=by
 unfold dk
 grind
theorem IH(ai:c2 s)(au:fW s){m:c1}(az:eG s.view m=true)(ae:m.src≠s.self)(aa:s.dec=[]): (dC s m).1=(dk (e2 s m).1 (e2 s m).2).1/\(dC s m).2.1=(dk (e2 s m).1 (e2 s m).2).2:=by
 have ac:fI s=true:=(rd s).2 ⟨ai,au⟩;unfold dC;rw[bm (by grind),bm (by rw[e4 (kC az).2];simp),bm (by grind),bm (by grind)];simp
theorem ark(ai:c2 s)(au:fW s){m:c1}(az:eG s.view m=true)(ae:m.src≠s.self)(aa:s.dec≠ []): (dC s m).1=s:=by
 have ac:fI s=true:=(rd s).2 ⟨ai,au⟩;unfold dC;rw[bm (by grind),bm (by rw[e4 (kC az).2];simp),bm (by grind),b3 (rb.2 aa)]
theorem arl(ai:c2 s)(au:fW s){m:c1}(az:eG s.view m=true)(ae:m.src≠s.self)(hk:m.kind=6): (dC s m).1.dec≠ []:=by
 by_cases aa:s.dec=[]
 ·have al:=wL ((ph az).1 (.inr hk));rw[(IH ai au az ae aa).1];have e:e2 s m=({s with dec:=m.cut},[eC s 0 6 0 0 m.cut]):=by
   unfold e2
   grind
  rw[e];unfold dk
  grind
 ·rw[ark ai au az ae aa];exact aa
theorem arn(h:eG v m=true)(hk:m.kind=3):jK v ⟨m.src,m.cU,m.cut⟩=true:=by
 obtain⟨h1,_,aN⟩:=(ph h).2.2.1 hk;simp only[jK,cq,oS,fx];refine⟨(kC h).1,?_⟩;rcases aN with aN|aN
 ·grind
 ·right;refine⟨?_,fC aN.2⟩;rcases aN.1 with bs|bs
  ·omega
  ·exact .inr (nK bs).1
theorem acY{a:kz}{r:Int}{c:List Int}(h:la a=true)(hu:jw r=true)(hle:a.cc<=r)(al:dF c 32=true)(he:a.aC=r->a.cut=c):jc a r c=(⟨r,r,c⟩,true):=by
 have h1: (!jw r||decide (r<a.cc)|| !dF c 32||decide (a.aC=r)&& !iG a.cut c)=false:=by
  rw[hu,c5 (by omega),al];by_cases e:a.aC=r
  ·rw[he e,K5];simp
  grind
 unfold jc
 grind
section
variable {b:Prop} {ρ w:Int} {s:bi} {m:c1}
theorem aro(ai:c2 s)(hu:h9 b ρ w s)(az:eG s.view m=true)(cT:rm b ρ m)(ao:jw ρ=true)(lA:m.kind=4->s.aL.aC=ρ->s.aL.cut=m.cut):
  h9 b ρ w (e2 s m).1/\(∀p∈ (e2 s m).2,rm b ρ p.m)/\(∀x,has s.aM x->has (e2 s m).1.aM x)/\
  (m.kind=2->∃l c,eC s m.src 3 ρ l c∈ (e2 s m).2)/\
  (m.kind=4->has (e2 s m).1.aM m.src/\has (e2 s m).1.aM s.self/\∃c,eC s 0 5 ρ 0 c∈ (e2 s m).2)/\
  (m.kind=5->has (e2 s m).1.aM m.src):=by
 have fF:=q9 ao;have T1:s.aL.cc<=ρ:=by
  rcases hu.cc with h|h<;>omega
 unfold e2;rcases zv az with hk|hk|hk|hk|hk|hk
 ·rw[b3 hk];have key:h9 b ρ w (kg s m)/\∀x,has s.aM x->has (kg s m).aM x:=by
   unfold kg;cases decide ((h6 s.view s.box ⟨m.src,m.cut⟩).2=0)
   ·grind
   ·exact⟨⟨hu.dec,hu.prop,hu.cc,hu.nP,hu.aM,hu.ip,hu.h7,hu.cD⟩,λ_ h=>h⟩
  grind
 ·rw[bm (by omega),b3 hk];have ac:b/\m.aC=ρ:=by
   rcases cT with h|h;all_goals grind
  have fk:im s.aL m.aC=(⟨ρ,s.aL.aC,s.aL.cut⟩,⟨0,s.aL.aC,s.aL.cut⟩,true):=by
   unfold im;rw[ai.aL,ac.2,ao,c5 (by omega)];rfl
  have e:kS s m=({s with aL:=⟨ρ,s.aL.aC,s.aL.cut⟩},[eC s m.src 3 m.aC s.aL.aC s.aL.cut]):=by
   unfold kS;rw[fk,hu.h7];simp
  rw[e,ac.2];refine⟨⟨hu.dec,hu.prop,.inr ⟨ac.1,rfl⟩,hu.nP,hu.aM,hu.ip,hu.h7,hu.cD⟩,λp an=> ?_,λ_ h=>h,λ_=>⟨_,_,eJ.2 rfl⟩,λe=>by omega,λe=>by omega⟩;rw[eJ.1 an];exact .inr ⟨ac.1,(by show (3:Int)≠6;omega),rfl⟩
 ·rw[bm (by omega),bm (by omega),b3 hk];have e:kT s m=(s,[]):=by
   unfold kT;rw[hu.h7];rfl
  grind
 ·rw[bm (by omega),bm (by omega),bm (by omega),b3 hk];obtain⟨avF,_,T2⟩:=(ph az).2.2.2.1 hk;have ac:b/\m.aC=ρ:=by
   rcases cT with h|h;all_goals grind
  have fk:jc s.aL m.aC m.cut=(⟨ρ,ρ,m.cut⟩,true):=by
   rw[ac.2];exact acY ai.aL ao T1 (x2 (fC T2)) (lA hk)
  have e:lW s m=({s with aL:=⟨ρ,ρ,m.cut⟩,aM:=fS s.view (fS s.view s.aM ⟨m.src,m.aC,m.cut⟩) ⟨s.self,m.aC,m.cut⟩},[eC s 0 5 m.aC 0 m.cut]):=by
   unfold lW
   grind
  rw[e,ac.2];have eW:jK s.view ⟨m.src,ρ,m.cut⟩=true:=x3 (kC az).1 ao T2;have hc:jK s.view ⟨s.self,ρ,m.cut⟩=true:=x3 ai.self ao T2;have dL:=RM ai.v ai.aM eW;refine⟨⟨hu.dec,hu.prop,.inr ⟨ac.1,rfl⟩,.inr ⟨ac.1,rfl⟩,?_,hu.ip,hu.h7,hu.cD⟩,λp an=> ?_,λx h=>zY dL (zY ai.aM h),λe=>by omega,λ_=>⟨zY dL (IF ai.aM eW),IF dL hc,_,eJ.2 rfl⟩,λe=>by omega⟩
  ·exact IG (P:=λx=>b/\x=ρ) (IG (P:=λx=>b/\x=ρ) hu.aM ⟨ac.1,rfl⟩) ⟨ac.1,rfl⟩
  ·rw[eJ.1 an];exact .inr ⟨ac.1,(by show (5:Int)≠6;omega),rfl⟩
 ·rw[bm (by omega),bm (by omega),bm (by omega),bm (by omega),b3 hk];obtain⟨Kg,AU⟩:=(ph az).2.2.2.2 hk;have ac:b/\m.aC=ρ:=by
   rcases cT with h|h;all_goals grind
  rw[ac.2];have eW:jK s.view ⟨m.src,ρ,m.cut⟩=true:=x3 (kC az).1 ao AU;exact⟨⟨hu.dec,hu.prop,hu.cc,hu.nP,IG (P:=λx=>b/\x=ρ) hu.aM ⟨ac.1,rfl⟩,hu.ip,hu.h7,hu.cD⟩,(λp an=>by cases an),λx h=>zY ai.aM h,λe=>by omega,λe=>by omega,λ_=>IF ai.aM eW⟩
 ·rcases cT with h|h;all_goals omega
theorem acZ(ai:c2 s)(aQ:s.dec=[])(an:s.prop≠ [])(T1:s.aL.cc=ρ)(y0:s.aL.aC=0)(sO:∀x∈s.aM,x.aC=ρ)(u3:s.aC=ρ)(mo:s.phase=1)(hw:s.cD=w)(ao:jw ρ=true):
  sa ρ w (gx s)/\(∀x,has s.aM x->has (gx s).aM x)/\(gx s=s\/(gx s).phase=2):=by
 have fF:=q9 ao;rcases RV ai with⟨_,e⟩| ⟨h1,ax,jZ,lg,_,⟨bb,e⟩| ⟨bb,e⟩⟩
 ·rw[e];exact⟨⟨aQ,an,T1,.inl ⟨mo,y0⟩,sO,u3,hw⟩,λ_ h=>h,.inl rfl⟩
 ·rw[e];have eW:jK s.view ⟨s.self,s.aC,(gB s.view s.bu s.prop).1⟩=true:=x3 ai.self (by grind) lg;refine⟨⟨aQ,an,u3,.inr ⟨rfl,IF ai.aM eW⟩,IG (P:=λx=>x=ρ) sO u3,u3,hw⟩,λx h=>zY ai.aM h,.inr rfl⟩
 ·have:=acY (a:=s.aL) (r:=s.aC) (c:=(gB s.view s.bu s.prop).1) ai.aL (by grind) (by omega) (x2 (fC lg)) (λe=>by omega)
  grind
theorem arp(ai:c2 s)(hu:sa ρ w s)(az:eG s.view m=true)(ae:m.src≠s.self)(cT:rm True ρ m)(ao:jw ρ=true)(b0:h5 ρ=s.self):
  sa ρ w (e2 s m).1/\(∀p∈ (e2 s m).2,rm True ρ p.m)/\(∀x,has s.aM x->has (e2 s m).1.aM x)/\
  (m.kind=3->(e2 s m).1.phase=2\/has (e2 s m).1.bu m.src)/\(m.kind=5->has (e2 s m).1.aM m.src)/\
  (s.phase=2->(e2 s m).1.phase=2)/\(∀x,has s.bu x->(e2 s m).1.phase=2\/has (e2 s m).1.bu x):=by
 have fF:=q9 ao;unfold e2;rcases zv az with hk|hk|hk|hk|hk|hk
 ·rw[b3 hk];have key:sa ρ w (kg s m)/\(kg s m).aM=s.aM/\(kg s m).phase=s.phase/\(kg s m).bu=s.bu:=by
   unfold kg;cases decide ((h6 s.view s.box ⟨m.src,m.cut⟩).2=0)
   ·grind
   ·exact⟨⟨hu.dec,hu.prop,hu.cc,hu.nP,hu.aM,hu.ip,hu.cD⟩,rfl,rfl,rfl⟩
  grind
 ·exfalso;obtain⟨_,aH⟩:=(ph az).2.1 hk;rcases cT with h|h;all_goals grind
 ·rw[bm (by omega),bm (by omega),b3 hk];have ac:m.aC=ρ:=by
   rcases cT with h|h;all_goals omega
  rcases hu.nP with⟨sC,Eu⟩| ⟨iN,bw⟩
  ·have lh:=aaO ai az hk sC;obtain⟨cH,a2,a3⟩:=acZ (w:=w) lh hu.dec hu.prop hu.cc Eu hu.aM hu.ip sC hu.cD ao;have sy:has (fN s.view s.bu ⟨m.src,m.cU,m.cut⟩).1 m.src:=acX ai.bu (arn az hk);have hold:∀x,has s.bu x->has (fN s.view s.bu ⟨m.src,m.cU,m.cut⟩).1 x:=λx ⟨y,bk,e⟩=>⟨y,Hx ai.bu bk,e⟩;have avG:=(Em lh).2.2.2.2.2;unfold kT;have al: (!decide (s.phase=1)|| !decide (m.aC=s.aC))=false:=by
    rw[sC,ac,hu.ip];simp
   rw[al];simp only[bD];have b1:∀x,has (fN s.view s.bu ⟨m.src,m.cU,m.cut⟩).1 x->(gx {s with bu:=(fN s.view s.bu ⟨m.src,m.cU,m.cut⟩).1}).phase=2\/has (gx {s with bu:=(fN s.view s.bu ⟨m.src,m.cU,m.cut⟩).1}).bu x:=λx h=>by
    grind
   refine⟨cH,λp an=> ?_,a2,λ_=>b1 _ sy,λe=>by omega,λe=>by omega,λx h=>b1 x (hold x h)⟩;generalize gx {s with bu:=(fN s.view s.bu ⟨m.src,m.cU,m.cut⟩).1}=A at *;cases aa:decide (A.phase=2)
   ·grind
   ·rw[aa]at an;simp only[b6,eJ]at an;subst an;exact .inr ⟨aj,(by show (4:Int)≠6;omega),cH.ip⟩
  ·have e:kT s m=(s,[]):=by
    unfold kT
    grind
   grind
 ·exfalso;obtain⟨_,aH,_⟩:=(ph az).2.2.2.1 hk;rcases cT with h|h;all_goals grind
 ·rw[bm (by omega),bm (by omega),bm (by omega),bm (by omega),b3 hk];obtain⟨Kg,AU⟩:=(ph az).2.2.2.2 hk;have ac:m.aC=ρ:=by
   rcases cT with h|h;all_goals omega
  rw[ac];have eW:jK s.view ⟨m.src,ρ,m.cut⟩=true:=x3 (kC az).1 ao AU;refine⟨⟨hu.dec,hu.prop,hu.cc,?_,IG (P:=λx=>x=ρ) hu.aM rfl,hu.ip,hu.cD⟩,(λp an=>by cases an),λx h=>zY ai.aM h,λe=>by omega,λ_=>IF ai.aM eW,λh=>h,λ_ h=>.inr h⟩;rcases hu.nP with h|h
  ·grind
  ·exact .inr ⟨h.1,zY ai.aM h.2⟩
 ·rcases cT with h|h;all_goals omega
end
theorem E0(ai:c2 s)(au:fW s)(aa:s.dec=[]):cN s=dk (gK s) (hE (gK s)):=by
 have ac:fI s=true:=(rd s).2 ⟨ai,au⟩;unfold cN
 grind
theorem arq(ai:c2 s)(au:fW s)(h: (cN s).1.dec≠ []):∃p∈ (cN s).2,p.dd=0/\p.m.kind=6/\p.m.src=s.self:=by
 by_cases aa:s.dec=[]
 ·rw[E0 ai au aa]at h⊢;have ae:=(R3 ai au).2.2.2;unfold dk at h⊢;cases al:decide (((gK s).dec.length:Int)=0)&&decide (0<((hh (gK s)).length:Int))
  ·rw[al]at h;have abB: (gK s).dec=[]:=by
    have hw:=R2 ai;have lh:=LV ai hw.1 hw.2;unfold gK;split
    ·split
     ·rcases R1 lh with e| ⟨h1,ad,aN,e⟩
      ·grind
      ·rw[e];by_cases an:s.prop=[]
       ·grind
       ·rw[(Em (LU lh an h1 ad aN)).2.2.2.2.1];exact aa
     omega
    omega
   grind
  ·refine⟨eC (gK s) 0 6 0 0 (hh (gK s)),by simp,rfl,rfl,ae⟩
 ·have ac:fI s=true:=(rd s).2 ⟨ai,au⟩;unfold cN;rw[bm (by grind),b3 (rb.2 aa)];exact⟨_,eJ.2 rfl,rfl,rfl,rfl⟩
theorem ars(ai:c2 s)(au:fW s)(h:s.dec≠ []): (cN s).1=s:=by
 have ac:fI s=true:=(rd s).2 ⟨ai,au⟩;unfold cN;rw[bm (by grind),b3 (rb.2 h)]
theorem art{ρ:Int}(ai:c2 s)(yZ:0<ρ)(ao:∀x∈s.aM,x.aC=ρ)(al:∀x∈s.aM,∀y∈s.aM,x.cut=y.cut)(af:fY s.view.mem.length<=(s.aM.length:Int)):hh s≠ []:=by
 unfold hh;cases hw: (jx s.view s.box).2
 ·simp only[bD];unfold vj;have ab:∀r∈s.aM,oK s.aM r s.aM.length=s.aM.length:=λr iz=>by
   unfold oK;rw[gn];rw[yp.2];intro x ag;rw[ao x ag,ao r iz,al x ag r iz,K5];simp
  have K2:1<=fY s.view.mem.length:=by
   rw[Lw ai.v];omega
  have key:∀i,i<=s.aM.length->0<i->(kB s.aM (fY s.view.mem.length) i).1=ρ/\∃r∈s.aM,(kB s.aM (fY s.view.mem.length) i).2=r.cut:=by
   intro i;induction i with
   |zero=>simp
   |succ i a1=>
    intro hi _;have ax:s.aM.getD i dB=s.aM[i]:=by grind
    have az:=eD (show i<s.aM.length by omega);unfold kB;rw[ax,ab _ az,e4 af,ao _ az,rp];by_cases aQ:i=0
    ·subst aQ;have:decide ((kB s.aM (fY s.view.mem.length) 0).1<ρ)=true:=e4 yZ
     grind
    grind
  obtain⟨_,r,BG,e⟩:=key s.aM.length (bS _) (by omega);rw[e];have h1:=ao r BG;rcases El (((q6 ai.v).1 ai.aM).1 r BG)with ad|ad
  ·omega
  ·exact wL ad.2
 ·obtain⟨x,ag,e⟩:=aan hw;simp only[b6];rw[<-e];exact wL (((tU ai.v).1 ai.box).1 x ag).2
theorem ac0(aa:s.dec=[])(h:hh s≠ [])(aZ:List dN): (dk s aZ).1.dec≠ []:=by
 unfold dk;rw[RS.2 aa,rb.2 h];exact h
section
variable {b:Prop} {ρ w:Int} {s:bi}
theorem ac1(ai:c2 s)(hw:s.cD=w)(xV:0<=w)(vf:w<=1000){k:Nat}(hk:gR s.view.mem s.self=(k:Int))(Ci:k<=16)(aV:w+1<8+6* (k:Int)):kU s=w+1/\rY s=false:=by
 have aA:kU s=w+1:=by
  unfold kU;rw[hw,dQ (by omega) (by omega),bm (by omega)]
 refine⟨aA,?_⟩;unfold rY;rw[aA,hk,dQ (n:=6* (k:Int)) (by omega) (by omega),dQ (by omega) (by omega)]
 grind
theorem aru(ai:c2 s)(hw:s.cD=w)(xV:0<=w)(vf:w<=1000){k:Nat}(hk:gR s.view.mem s.self=(k:Int))(Ci:k<=16)(aV:8+6* (k:Int)<=w+1):kU s=w+1/\rY s=true:=by
 have aA:kU s=w+1:=by
  unfold kU;rw[hw,dQ (by omega) (by omega),bm (by omega)]
 refine⟨aA,?_⟩;unfold rY;rw[aA,hk,dQ (n:=6* (k:Int)) (by omega) (by omega),dQ (by omega) (by omega)]
 grind
theorem ac2(ai:c2 s)(an:s.prop≠ [])(h:rY s=false):gK s= {s with cD:=kU s}:=by
 unfold gK
 simp_all
theorem arv(ai:c2 s)(an:s.prop≠ [])(h:rY s=true):gK s=nn {s with cD:=kU s}:=by
 unfold gK
 simp_all
theorem M4(bb:∀x∈s.aM,b/\x.aC=ρ)(an:s.phase=0\/b/\s.aC=ρ):∀p∈hE s,rm b ρ p.m:=by
 intro p ag;unfold hE at ag;rw[eb,eb]at ag;rcases ag with(ag|ag)|ag
 ·unfold x0 at ag;cases al: (hY s.box s.self).2
  ·grind
  ·rw[al]at ag;rw[eJ.1 ag];exact .inl rfl
 ·unfold vl at ag;cases h1:decide (s.phase=1)
  ·cases ad:decide (s.phase=2)
   ·grind
   ·rw[h1,ad]at ag;have ad:=fC ad;rw[eJ.1 ag];rcases an with an|an
    ·omega
    ·exact .inr ⟨an.1,(by show (4:Int)≠6;omega),an.2⟩
  ·rw[h1]at ag;have h1:=fC h1;rw[eJ.1 ag];rcases an with an|an
   ·omega
   ·exact .inr ⟨an.1,(by show (2:Int)≠6;omega),an.2⟩
 ·unfold x1 at ag;cases ac:decide (0<=eQ s.aM s.self)&& !decide (s.phase=2)
  ·grind
  ·rw[ac]at ag;obtain⟨_,hk⟩:=zu ((cq ..).mp ac).1;have az:s.aM.getD (eQ s.aM s.self).toNat dB∈s.aM:=by grind
   generalize s.aM.getD (eQ s.aM s.self).toNat dB=r at *;rw[eJ.1 ag];have:=bb r az;exact .inr ⟨this.1,(by show (5:Int)≠6;omega),this.2⟩
theorem ac3(h:s.phase=1):eC s 0 2 s.aC 0 []∈hE s:=by
 unfold hE vl
 grind
theorem ac4(h:s.phase=2):eC s 0 4 s.aC 0 s.c4∈hE s:=by
 unfold hE vl
 grind
theorem M5(ai:c2 s)(au:fW s)(hu:h9 b ρ w s)(xV:0<=w)(vf:w<=1000){k:Nat}(hk:gR s.view.mem s.self=(k:Int))(Ci:k<=16)(aV:w+1<8+6* (k:Int)):
  (cN s).1.dec≠ []\/(h9 b ρ (w+1) (cN s).1/\(cN s).1.aM=s.aM/\(∀p∈ (cN s).2,rm b ρ p.m)/\hh s=[]):=by
 obtain⟨aA,aG⟩:=ac1 ai hu.cD xV vf hk Ci aV;rw[E0 ai au hu.dec,ac2 ai hu.prop aG,aA];by_cases jF:hh s=[]
 ·right;have bc:dk {s with cD:=w+1} (hE {s with cD:=w+1})=({s with cD:=w+1},hE {s with cD:=w+1}):=by
   unfold dk;have cn:hh {s with cD:=w+1}=hh s:=rfl
   grind
  rw[bc];exact⟨⟨hu.dec,hu.prop,hu.cc,hu.nP,hu.aM,hu.ip,hu.h7,rfl⟩,rfl,M4 (s:={s with cD:=w+1}) hu.aM (.inl hu.h7),jF⟩
 ·left;exact ac0 (s:={s with cD:=w+1}) hu.dec jF _
theorem arw(ai:c2 s)(au:fW s)(hu:sa ρ w s)(xV:0<=w)(vf:w+1<8){k:Nat}(hk:gR s.view.mem s.self=(k:Int))(Ci:k<=16):
  (cN s).1.dec≠ []\/(sa ρ (w+1) (cN s).1/\(cN s).1.aM=s.aM/\(cN s).1.phase=s.phase/\(cN s).1.bu=s.bu/\(∀p∈ (cN s).2,rm True ρ p.m)/\(s.phase=1->∃p∈ (cN s).2,p.dd=0/\p.m.kind=2/\p.m.src=s.self)/\(s.phase=2->∃p∈ (cN s).2,p.dd=0/\p.m.kind=4/\p.m.src=s.self)/\hh s=[]):=by
 obtain⟨aA,aG⟩:=ac1 ai hu.cD xV (by omega) hk Ci (by omega);rw[E0 ai au hu.dec,ac2 ai hu.prop aG,aA];by_cases jF:hh s=[]
 ·right;have bc:dk {s with cD:=w+1} (hE {s with cD:=w+1})=({s with cD:=w+1},hE {s with cD:=w+1}):=by
   unfold dk;have cn:hh {s with cD:=w+1}=hh s:=rfl
   grind
  rw[bc];refine⟨⟨hu.dec,hu.prop,hu.cc,hu.nP,hu.aM,hu.ip,rfl⟩,rfl,rfl,rfl,M4 (s:={s with cD:=w+1}) (λx ag=>⟨aj,hu.aM x ag⟩) (.inr ⟨aj,hu.ip⟩),λh=>⟨_,ac3 (s:={s with cD:=w+1}) h,rfl,rfl,rfl⟩,λh=>⟨_,ac4 (s:={s with cD:=w+1}) h,rfl,rfl,rfl⟩,jF⟩
 ·left;exact ac0 (s:={s with cD:=w+1}) hu.dec jF _
end
theorem arx(h1:s.aC=0)(ad:s.aL.cc=0)(aN:1<=s.self)(bs:s.self<=1000):iC s=1024+s.self:=by
 unfold iC;rw[h1,ad];have e:IntKind.i64.wrap ((if IntKind.i64.wrap (Int.tdiv 0 1024)<IntKind.i64.wrap (Int.tdiv 0 1024)then IntKind.i64.wrap (Int.tdiv 0 1024)else IntKind.i64.wrap (Int.tdiv 0 1024))+1)=1:=by decide
 rw[e,Q5 (by omega) (by omega) aN bs];omega
theorem ary{ρ w:Int}(ai:c2 s)(au:fW s)(hu:h9 False ρ w s)(xV:0<=w)(vf:w<=1000){k:Nat}(hk:gR s.view.mem s.self=(k:Int))(Ci:k<=16)(aV:8+6* (k:Int)<=w+1)(yZ:ρ=1024+s.self):
  (cN s).1.dec≠ []\/(sa ρ 0 (cN s).1/\(∀p∈ (cN s).2,rm True ρ p.m)/\((cN s).1.phase=1->∃p∈ (cN s).2,p.dd=0/\p.m.kind=2/\p.m.src=s.self)/\((cN s).1.phase=2->∃p∈ (cN s).2,p.dd=0/\p.m.kind=4/\p.m.src=s.self)):=by
 obtain⟨aA,aG⟩:=aru ai hu.cD xV vf hk Ci aV;have iO:=LO ai.v ai.self;have arz:s.aL.cc=0:=hu.cc.resolve_right (λh=>h.1);have arA:s.aL.aC=0:=hu.nP.resolve_right (λh=>h.1);have avH:s.aM=[]:=by
  cases sO:s.aM with
  |nil=>rfl
  |cons x l=>exact absurd (hu.aM x (by grind)).1 id
 have lh:=LV ai (w:=w+1) (by omega) (by omega);have y0:iC {s with cD:=w+1}=ρ:=by
  rw[yZ];exact arx (s:={s with cD:=w+1}) hu.ip arz iO.1 iO.2
 rw[E0 ai au hu.dec,arv ai hu.prop aG,aA];obtain⟨an,aH⟩:=aas lh (by omega);have ao:jw ρ=true:=by
  have:=(nK an).1
  grind
 have arB: (im ({s with cD:=w+1}:bi).aL ρ)=(⟨ρ,s.aL.aC,s.aL.cut⟩,⟨0,s.aL.aC,s.aL.cut⟩,true):=by
  unfold im;show (bif !la s.aL then _ else bif !jw ρ||decide (ρ<s.aL.cc)then _ else _)=_;rw[ai.aL,ao,c5 (by omega)];rfl
 have arC:nn {s with cD:=w+1}=gx (Ep {s with cD:=w+1}):=by
  unfold nn;rw[y0,arB,c5 (show ¬ρ=0 by omega)];unfold Ep
  grind
 rw[arC];have ac5:=LU lh hu.prop (by omega) aH (by
  grind)
 obtain⟨cH,_,a3⟩:=acZ (w:=0) (ρ:=ρ) ac5 hu.dec hu.prop y0 arA (λx ag=>by
  have ag:x∈s.aM:=ag
  grind) y0 rfl rfl ao
 have ac6:=(Em ac5).2.2.2.1;generalize gx (Ep {s with cD:=w+1})=T at *;rcases Ch cH.dec (hE T)with h|h
 ·grind
 ·right;rw[h];refine⟨cH,M4 (λx ag=>⟨aj,cH.aM x ag⟩) (.inr ⟨aj,cH.ip⟩),λh1=>⟨_,ac3 h1,rfl,rfl,ac6⟩,λad=>⟨_,ac4 ad,rfl,rfl,ac6⟩⟩
theorem T3{A B:List Mem}(h:A.map (·.self)=B.map (·.self)){i:Nat}(bb:i<A.length)(ac:i<B.length):A[i].self=B[i].self:=by
 have e:=e7 (λl=>l[i]?) h
 grind
section
variable {bA:aK->Int->Prop} {T:Nat} {G:iL} {Ms:List Mem} {aJ:List dr} {cb:Int->Int->Bool} {aF:List Bool}
theorem ac7(jg:∀a b,cb a b=false)(h:lH bA T G Ms aJ)(ig:∀f∈aJ,∃i,∃hi:i<Ms.length,Ms[i].self=f.src)
  {I:Nat->Mem->List dr->List c9->Prop} (aQ:∀i (hi:i<Ms.length),aF.getD i true=false->I i Ms[i] [] [])
  (ae:∀i (hi:i<Ms.length),aF.getD i true=false->∀s l o f bd,bd.v0=G.v0->dm bA T bd->fz bd s->s.self=Ms[i].self->f∈aJ->f.dst=s.self->f.src≠s.self->ns bd f.src f.bj->I i s l o->I i (eM s f.src f.bj).1 (l++ [f]) (o++(eM s f.src f.bj).2)):
  ∀k,k<=aJ.length->∃ (L:Nat->List dr) (O:Nat->List c9),
   (∀i (hi:i<Ms.length),aF.getD i true=false->I i ((eX cb aF Ms aJ k).1.getD i dv) (L i) (O i)/\∀f∈aJ.take k,f.dst=Ms[i].self->f∈L i)/\
   (∀f,f∈ (eX cb aF Ms aJ k).2↔∃i,∃hi:i<Ms.length,aF.getD i true=false/\∃p∈O i,f=j5 Ms[i].self p)/\(eX cb aF Ms aJ k).1.map (·.self)=Ms.map (·.self)
 |0,_=>by
  refine⟨λ_=>[],λ_=>[],λi hi aa=>⟨?_,λf au=>by grind⟩,λf=> ?_,rfl⟩
  ·have ax:Ms.getD i dv=Ms[i]:=by grind
   show I i (Ms.getD i dv) [] []
   grind
  ·constructor
   ·intro au;cases au
   simp
 |k+1,hk=>by
  obtain⟨L,O,cH,a2,a3⟩:=ac7 jg h ig aQ ae k (by omega);obtain⟨⟨bd,e',dA⟩,_⟩:=ID cb aF h k (by omega);have aB:k<aJ.length:=by omega
  have ax:aJ.getD k EX=aJ[k]:=by grind
  have ni:aJ[k]∈aJ:=eD aB;have hlen: (eX cb aF Ms aJ k).1.length=Ms.length:=Cg cb aF Ms aJ k;have pJ:aJ.take (k+1)=aJ.take k++ [aJ[k]]:=fA aB;unfold eX;rw[ax,pJ];generalize eX cb aF Ms aJ k=X at *;generalize aJ[k]=f at *;have iO:∀i (hi:i<Ms.length) (di:i<X.1.length),X.1[i].self=Ms[i].self:=λi hi di=>T3 a3 di hi;obtain⟨f1,f2,f3⟩:=dA.hg f (CL _ ni);obtain⟨lC,oy,fk⟩:=ig f ni;unfold s0;have yJ:¬lG X.1 f.src<0:=by
   rcases zX X.1 f.src with⟨_,aV⟩| ⟨j,aq,e,_⟩;all_goals grind
  rw[bm yJ];rcases zX X.1 f.dst with⟨aA,aV⟩| ⟨b,ac,aA,aG,_⟩
  ·rw[b3 (by omega)];refine⟨L,O,λi hi aa=>⟨(cH i hi aa).1,λg iP l1=> ?_⟩,a2,a3⟩
   grind
  ·have T4:b<Ms.length:=by omega
   rw[bm (by omega),aA,l6,jg,Bool.or_false];cases pV:aF.getD b true
   ·have Qh:X.1.getD b dv=X.1[b]:=by grind
    have bx:f.src≠X.1[b].self:=by omega
    have ao:=(TH dA.g (dA.mem b ac) bx f1).1;have b5:=ae b T4 pV X.1[b] (L b) (O b) f bd e' dA.g (dA.mem b ac) (iO b T4 ac) ni aG.symm bx f1 (by grind);rw[Qh,bD];have JZ:=ao.trans (iO b T4 ac);generalize eM X.1[b] f.src f.bj=R at *;refine⟨λi=>if i=b then L b++ [f]else L i,λi=>if i=b then O b++R.2 else O i,λi hi aa=> ?_,λg=> ?_,?_⟩
    ·by_cases e:i=b
     ·grind
     ·simp only[];rw[bm e,bm e];have OX: (X.1.set b R.1).getD i dv=X.1.getD i dv:=by
       grind
      rw[OX];refine⟨(cH i hi aa).1,λg iP l1=> ?_⟩;rcases eb.1 iP with iP|iP
      ·grind
      ·exfalso;rw[eJ.1 iP]at l1;exact dA.lP i b (by omega) ac e (by grind)
    ·grind
    ·simp only[];rw[oj,ao,<-a3];have: (X.1.map (·.self))[b]'(by grind)=X.1[b].self:=by simp
     rw[<-this,Ft]
   ·rw[b6];refine⟨L,O,λi hi aa=>⟨(cH i hi aa).1,λg iP l1=> ?_⟩,a2,a3⟩;rcases eb.1 iP with iP|iP
    ·grind
    ·exfalso;rw[eJ.1 iP]at l1;by_cases e:i=b
     ·grind
     ·exact dA.lP i b (by omega) ac e (by grind)
theorem ac8{X:List Mem×List dr}(h:lH bA T G X.1 X.2)(bw:∀i (hi:i<X.1.length),X.1[i].hist.length<T)(df:∀i (hi:i<X.1.length),aF.getD i true=false->l4 bA X.1[i]):∀i,i<=X.1.length->
  (∀j,(kG aF X i).1.getD j dv=if j<i/\aF.getD j true=false then(fi (X.1.getD j dv)).1 else X.1.getD j dv)/\
  (∀f,f∈ (kG aF X i).2↔f∈X.2\/∃j,j<i/\aF.getD j true=false/\∃p∈ (fi (X.1.getD j dv)).2,f=j5 (X.1.getD j dv).self p)
 |0,_=>by
  refine⟨λj=> ?_,λf=> ?_⟩
  ·rfl
  ·constructor
   ·exact λau=>.inl au
   ·rintro(au| ⟨j,aq,_⟩)
    ·exact au
    ·omega
 |i+1,hi=>by
  obtain⟨cH,a2⟩:=ac8 h bw df i (by omega);have ek:i<X.1.length:=by omega
  have gM: (kG aF X i).1.length=X.1.length:=IB aF X i;have hb:=cH i;rw[bm (by omega)]at hb;have arD:X.1.getD i dv=X.1[i]:=by grind
  unfold kG r9;rw[hb];generalize kG aF X i=Y at *;cases aa:aF.getD i true
  ·rw[bD];have ae: (fi (X.1.getD i dv)).1.self=(X.1.getD i dv).self:=by rw[arD];exact(MX h.g (h.mem i ek) (bw i ek) (df i ek aa)).1
   grind
  grind
theorem arE(jg:∀a b,cb a b=false)(xI:aF.length=Ms.length)(aV:Ms.length<=8)(h:lH bA T G Ms aJ)(aw:T+1<=399)(hw:mP Ms+kH aJ<=10800*Ms.length+80000*T)(ig:∀f∈aJ,∃i,∃hi:i<Ms.length,Ms[i].self=f.src)
  {I:Nat->Mem->List dr->List c9->Prop} {Q:Nat->Mem->List c9->Prop} (aQ:∀i (hi:i<Ms.length),aF.getD i true=false->I i Ms[i] [] [])
  (ae:∀i (hi:i<Ms.length),aF.getD i true=false->∀s l o f bd,bd.v0=G.v0->dm bA T bd->fz bd s->s.self=Ms[i].self->f∈aJ->f.dst=s.self->f.src≠s.self->ns bd f.src f.bj->I i s l o->I i (eM s f.src f.bj).1 (l++ [f]) (o++(eM s f.src f.bj).2))
  (an:∀i (hi:i<Ms.length),aF.getD i true=false->∀s l o bd,bd.v0=G.v0->dm bA T bd->fz bd s->s.self=Ms[i].self->(∀f∈aJ,f.dst=s.self->f∈l)->I i s l o->l4 bA s)
  (cI:∀i (hi:i<Ms.length),aF.getD i true=false->∀s l o bd,bd.v0=G.v0->dm bA (T+1) bd->fz bd s->s.hist.length<T+1->s.self=Ms[i].self->(∀f∈aJ,f.dst=s.self->f∈l)->I i s l o->l4 bA s->Q i (fi s).1 (o++(fi s).2)):
  yi cb aF Ms aJ/\(∃bd,bd.v0=G.v0/\lH bA (T+1) bd (cZ cb aF Ms aJ).1 (cZ cb aF Ms aJ).2)/\(cZ cb aF Ms aJ).1.length=Ms.length/\mP (cZ cb aF Ms aJ).1+kH (cZ cb aF Ms aJ).2<=10800*Ms.length+80000* (T+1)/\
  (cZ cb aF Ms aJ).1.map (·.self)=Ms.map (·.self)/\(∀f∈ (cZ cb aF Ms aJ).2,∃i,∃hi:i<Ms.length,aF.getD i true=false/\Ms[i].self=f.src)/\
  ∃O:Nat->List c9,(∀i (hi:i<Ms.length),aF.getD i true=false->Q i ((cZ cb aF Ms aJ).1.getD i dv) (O i))/\
   ∀f,f∈ (cZ cb aF Ms aJ).2↔∃i,∃hi:i<Ms.length,aF.getD i true=false/\∃p∈O i,f=j5 Ms[i].self p:=by
 obtain⟨L,O,cH,a2,a3⟩:=ac7 (cb:=cb) (aF:=aF) jg h ig aQ ae aJ.length (bS _);obtain⟨⟨p2,aA,h1⟩,_⟩:=ID cb aF h aJ.length (bS _);have hL:=Cg cb aF Ms aJ aJ.length;have iO:∀i (hi:i<Ms.length) (di:i<(eX cb aF Ms aJ aJ.length).1.length),(eX cb aF Ms aJ aJ.length).1[i].self=Ms[i].self:=λi hi di=>T3 a3 di hi;have M6:∀i (hi:i<(eX cb aF Ms aJ aJ.length).1.length),aF.getD i true=false->l4 bA (eX cb aF Ms aJ aJ.length).1[i]:=λi hi aa=>by
  have di:i<Ms.length:=by omega
  obtain⟨cX,c0⟩:=cH i di aa;have ax: (eX cb aF Ms aJ aJ.length).1.getD i dv=(eX cb aF Ms aJ aJ.length).1[i]:=by grind
  rw[ax]at cX;rw[gn]at c0;exact an i di aa _ _ _ p2 aA h1.g (h1.mem i hi) (iO i di hi) (λf au lw=>c0 f au (lw.trans (iO i di hi))) cX
 obtain⟨dL,dW,eU,hj⟩:=aqV cb aF xI aV h aw hw M6;have iV:=arf cb aF h aw M6;have gO:lH bA (T+1) p2 (eX cb aF Ms aJ aJ.length).1 (eX cb aF Ms aJ aJ.length).2:=by
  have:=TT h1 (mQ:=(eX cb aF Ms aJ aJ.length).2) (λf au=>mx _ au);exact⟨TU this.g aw,this.mem,this.lP,this.hg,this.bj⟩
 have bw:∀i (hi:i<(eX cb aF Ms aJ aJ.length).1.length),(eX cb aF Ms aJ aJ.length).1[i].hist.length<T+1:=λi hi=>by
  have:=TV (h1.mem i hi);have:=h1.g.len;omega
 obtain⟨t1,t2⟩:=ac8 (aF:=aF) gO bw M6 Ms.length (by omega);have key:∀f,f∈ (cZ cb aF Ms aJ).2↔∃i,∃hi:i<Ms.length,aF.getD i true=false/\∃p∈O i++(fi ((eX cb aF Ms aJ aJ.length).1.getD i dv)).2,f=j5 Ms[i].self p:=λf=>by
  unfold cZ
  grind
 refine⟨dL,dW,eU,hj,iV,λf au=> ?_,λi=>O i++(fi ((eX cb aF Ms aJ aJ.length).1.getD i dv)).2,λi hi aa=> ?_,key⟩
 ·obtain⟨i,hi,aa,p,_,e⟩:=(key f).1 au;exact⟨i,hi,aa,by rw[e];rfl⟩
 ·have di:i<(eX cb aF Ms aJ aJ.length).1.length:=by omega
  obtain⟨cX,c0⟩:=cH i hi aa;rw[gn]at c0;have ax: (eX cb aF Ms aJ aJ.length).1.getD i dv=(eX cb aF Ms aJ aJ.length).1[i]:=by grind
  have e:=t1 i;rw[b3 ⟨hi,aa⟩]at e;unfold cZ;simp only[]at e⊢;rw[e,ax];rw[ax]at cX;exact cI i hi aa _ _ _ p2 aA gO.g (gO.mem i di) (bw i di) (iO i hi di) (λf au lw=>c0 f au (lw.trans (iO i hi di))) cX (M6 i di aa)
end
def qE:Nat->nF
 |0=>⟨0,0⟩
 |a+1=>jJ (qE a) false
theorem ac9:∀a:Fin 11,rR (qE a.1)=decide (a.1=10):=by decide+kernel
theorem arF:jJ (qE 10) false=qE 10:=by kernel_rfl
theorem ada:∀ {a:Nat},10<=a->qE a=qE 10
 |0,h=>by omega
 |a+1,h=>by
  by_cases e:a+1=10
  ·rw[e]
  ·show jJ (qE a) false=_;rw[ada (by omega),arF]
theorem T5(a:Nat):rR (qE a)=decide (10<=a):=by
 by_cases h:a<11
 ·have:=ac9 ⟨a,h⟩
  grind
 ·have:=ac9 ⟨10,by decide⟩;simp only[]at this;rw[ada (by omega),this,e4 (show 10<=a by omega)];rfl
theorem arG:∀n:Fin 1024,pc ((n.1:Int) *2%1024+0) 10<=pc (n.1:Int) 10/\pc ((n.1:Int) *2%1024+1) 10<=pc (n.1:Int) 10+1:=by decide+kernel
theorem arH(h:pL w=true)(ac:0<=w.bits):pc (jJ w true).bits 10<=pc w.bits 10/\pc (jJ w false).bits 10<=pc w.bits 10+1:=by
 obtain⟨_,_,_,bs⟩:=Lc h ac;obtain⟨n,aV⟩:=p5 ac;have:=arG ⟨n,by omega⟩;unfold jJ
 grind
theorem adb(h:pc w.bits 10<=3):rR w=false:=by
 unfold rR
 grind
def arI(a:Nat)(e:Edge):Prop:=e.kd=qE a/\e.ml=false/\e.hr=decide (10<=a)
def arJ(b:Nat)(e:Edge):Prop:=pc e.kd.bits 10<=(b:Int)/\e.hr=false
def yj(C:Int->Prop)(d:ju)(a b:Nat):Prop:=∀e∈d.bV,(C e.bG->arI a e)/\(¬C e.bG->arJ b e)
def qF(d:ju)(y:Int):Prop:=∀e∈d.bV,e.bG=y->e.ml=true
section
variable {C:Int->Prop} {v:aK} {id:Int} {d:ju} {a b b':Nat}
theorem arK(ab:b2 v=true)(hi:bP v.mem id=true):yj C (ke v id).1 0 0:=λe he=>by
 rw[Ti ab hi]at he;have he:e∈pM (hC v.mem id) (hC v.mem id).length:=he;obtain⟨k,_,rfl⟩:=fr.1 he;exact⟨λ_=>⟨rfl,rfl,rfl⟩,λ_=>⟨by show pc 0 10<=0;decide,rfl⟩⟩
theorem adc(ab:b2 v=true)(hi:bP v.mem id=true)(ax:pP v id d){x:Int}(ag:¬C x)(h:yj C d a b):yj C (nG d x) a b/\qF (nG d x) x/\∀y,qF d y->qF (nG d x) y:=by
 have aa:=Im ab hi ax;unfold nG;rw[aa,kZ,bD];have key:∀e'∈d.bV.map (vb x),∃e∈d.bV,e'.bG=e.bG/\e'.kd=e.kd/\e'.hr=e.hr/\(e.bG=x->e'.ml=true)/\(e.bG≠x->e'.ml=e.ml):=λe' he=>by
  obtain⟨e,II,rfl⟩:=fr.1 he;refine⟨e,II,?_⟩;unfold vb
  grind
 refine⟨λe' he=> ?_,λe' he ae=> ?_,λy bk e' he ae=> ?_⟩
 ·obtain⟨e,he,cV,dj,hT,hN,nk⟩:=key e' he;obtain⟨h1,ad⟩:=h e he;refine⟨λal=> ?_,λal=> ?_⟩
  ·rw[cV]at al;obtain⟨dc,dt,gy⟩:=h1 al;have bx:e.bG≠x:=λaG=>ag (aG▸al);exact⟨dj.trans dc,(nk bx).trans dt,hT.trans gy⟩
  ·rw[cV]at al;obtain⟨dc,dt⟩:=ad al;exact⟨by grind,hT.trans dt⟩
 ·grind
 ·obtain⟨e,he,cV,dj,hT,hN,nk⟩:=key e' he;by_cases al:e.bG=x
  ·grind
  ·rw[nk al];exact bk e he (cV.symm.trans ae)
theorem ade(ab:b2 v=true)(hi:bP v.mem id=true)(ax:pP v id d)(h:yj C d a b)(ac:b+1<=b'\/(b<=b'/\∀e∈d.bV,¬C e.bG->e.ml=true))(aN:b'<=3):
  yj C (cO d).1 (a+1) b'/\(∀z∈ (cO d).2,C z.bG/\a+1=10/\z.jW=id/\∃e∈d.bV,z.bG=e.bG)/\(a+1=10->∀e∈d.bV,C e.bG->(⟨v.num,e.et,id,e.bG⟩:bR)∈ (cO d).2):=by
 have aa:=Im ab hi ax;obtain⟨g1,g2,g3,g4⟩:=ax;unfold cO;rw[aa,kZ,bD];have eV:∀e∈d.bV,¬C e.bG->pc (jJ e.kd e.ml).bits 10<=(b':Int):=λe he al=>by
  obtain⟨k,hk,rfl⟩:=fv he;obtain⟨_,_,eL,hs⟩:=g4 k hk;have an:=arH eL hs;have h1:=((h _ he).2 al).1;cases bw:d.bV[k].ml;all_goals grind
 refine⟨λe' he=> ?_,λz bt=> ?_,λbb e he al=> ?_⟩
 ·obtain⟨e,II,rfl⟩:=fr.1 he;refine⟨λal=> ?_,λal=> ?_⟩
  ·obtain⟨dc,dt,gy⟩:=(h e II).1 al;refine⟨?_,rfl,?_⟩
   ·show jJ e.kd e.ml=qE (a+1);rw[dc,dt];rfl
   ·show (e.hr||rR (jJ e.kd e.ml))=decide (10<=a+1);rw[dc,dt,gy,show jJ (qE a) false=qE (a+1) from rfl,T5]
    grind
  ·have q:=eV e II al;refine⟨q,?_⟩;show (e.hr||rR (jJ e.kd e.ml))=false;rw[((h e II).2 al).2,adb (by omega)];rfl
 ·have bt:z∈rS d d.bV.length:=bt;unfold rS at bt;rw[gn]at bt;obtain⟨e,he,rfl⟩:=fr.1 bt;obtain⟨he,bw⟩:=ko.1 he;unfold zh at bw;rw[cq]at bw;by_cases al:C e.bG
  ·obtain⟨dc,dt,gy⟩:=(h e he).1 al;rw[dc,dt,gy,show jJ (qE a) false=qE (a+1) from rfl,T5]at bw;have h1:=fC bw.1;have ad:¬10<=a:=λx=>by
    grind
   exact⟨al,by omega,g2,e,he,rfl⟩
  ·have q:=eV e he al;rw[adb (by omega)]at bw
   grind
 ·show _∈rS d d.bV.length;unfold rS;rw[gn];obtain⟨dc,dt,gy⟩:=(h e he).1 al;refine fr.2 ⟨e,ko.2 ⟨he,?_⟩,?_⟩
  ·unfold zh;rw[dc,dt,gy,show jJ (qE a) false=qE (a+1) from rfl,T5,e4 (show 10<=a+1 by omega),c5 (show ¬10<=a by omega)];rfl
  ·unfold Lf
   grind
theorem T6(ax:pP v id d){e:Edge}(he:e∈d.bV):e.bG∈hC v.mem id:=by
 obtain⟨g1,g2,g3,g4⟩:=ax;obtain⟨k,hk,rfl⟩:=fv he
 grind
theorem arL(ab:b2 v=true)(hi:bP v.mem id=true)(ax:pP v id d){z:bR}(bt:gk v z=true)(aH:z.jW=id)(ae:z.bG∈v.mem)(bx:z.bG≠id):∃e∈d.bV,z= ⟨v.num,e.et,id,e.bG⟩:=by
 obtain⟨g1,g2,g3,g4⟩:=ax;obtain⟨eW,hc,v3,v4,v5,v6,adf⟩:=EO bt;have ye:=(lD ab).2.2;have cS:=iR.1 hi;obtain⟨r,ao⟩:=p5 v3;have arM:r<5:=by omega
 have ad:2<=v.mem.length:=by
  obtain⟨i,di,aA⟩:=fv ae;obtain⟨j,aq,aG⟩:=fv cS
  grind
 have M7:cQ v.mem z.bG=(List.range 5).map (mj v.mem z.bG):=by
  unfold cQ
  grind
 have an:mj v.mem z.bG r=id:=by
  grind
 have aV:=(YC ye arM cS ae (λe=>bx e.symm)).1 an;have cJ:hC v.mem id=rP v.mem id 5:=by
  unfold hC
  grind
 have af:r<d.bV.length:=by
  rw[g3,cJ];simp[rP];omega
 obtain⟨ba,eL,_,_⟩:=g4 r af;refine⟨d.bV[r],eD af,?_⟩;rw[ba,eL,cJ];have: (rP v.mem id 5).getD r 0=z.bG:=by
  unfold rP
  grind
 rw[this];obtain⟨uJ,lT,z3,z4⟩:=z
 grind
end
theorem arN{l:List bR}{a:bR}(af:dG v l=true)(bb:gk v a=true)(x:bR):x∈ (k9 l a).1↔x∈l\/x=a:=by
 obtain⟨_,h1,ad⟩:=sI.1 af;obtain⟨g1,g2,g3,g4,g5⟩:=QZ ad a;constructor
 ·grind
 ·rintro(ag|rfl)
  ·grind
  ·rcases g5 with h| ⟨e,he,jk,mF⟩
   ·exact h
   ·have:=abN (h1 e he) bb jk mF
    grind
variable{s:Mem}
theorem adg{a:bR}(af:dG s.view s.als=true)(x:bR):x∈ (mO s a).als↔x∈s.als\/(x=a/\gk s.view a=true):=by
 unfold mO;cases al:decide ((nH s.view s.als a).2.2=0)
 ·rw[bD];refine⟨.inl,?_⟩;rintro(h| ⟨_,h⟩)
  ·exact h
  ·exfalso;have aQ:=rv al;apply aQ;obtain⟨_,dc,dt,_,_⟩:=BZ h;unfold nH
   grind
 ·obtain⟨h1,ad⟩:=acf af (fC al);rw[b6];show x∈ (nH s.view s.als a).1↔_;rw[ad,arN af h1]
  grind
theorem adh{s:Mem}{l:List bR}(af:dG s.view s.als=true)(x:bR):∀i,i<=l.length->(x∈ (j1 s l i).als↔x∈s.als\/(x∈l.take i/\gk s.view x=true))
 |0,_=>by simp[j1]
 |i+1,hi=>by
  have hk:=(wQ s l i).1;have ax:l.getD i gd=l[i]:=by grind
  unfold j1;rw[adg (by rw[hk];exact Ir af i),adh af x i (by omega),hk,ax,fA (by omega),eb,eJ]
  grind
theorem adi{s:Mem}{y:Int}(af:dG s.view s.als=true)(x:bR):∀i,i<=(l3 s.view.mem s.self y).length->(x∈ (kF s y i).als↔x∈s.als\/((∃r∈ (l3 s.view.mem s.self y).take i,x= ⟨s.view.num,r,s.self,y⟩)/\gk s.view x=true))
 |0,_=>by simp[kF]
 |i+1,hi=>by
  have hk:=(H5 s y i).1;have ax: (l3 s.view.mem s.self y).getD i 0=(l3 s.view.mem s.self y)[i]:=by grind
  unfold kF;rw[adg (by rw[hk];exact Tq af i),adi af x i (by omega),hk,ax,fA (by omega)]
  grind
theorem T7{y:Int}(af:dG s.view s.als=true)(x:bR):x∈ (gU s y).als↔x∈s.als\/((∃r∈l3 s.view.mem s.self y,x= ⟨s.view.num,r,s.self,y⟩)/\gk s.view x=true):=by
 have:=adi (y:=y) af x _ (bS _);rw[gn]at this;exact this
theorem arO{a:Int}{z:bR}(bt:gk v z=true)(aH:z.jW=a)(bb:1<=a/\a<=1000):∃r∈l3 v.mem a z.bG,z= ⟨v.num,r,a,z.bG⟩:=by
 obtain⟨eW,hc,v3,v4,v5,v6,adf⟩:=EO bt;refine⟨z.et,?_,?_⟩
 ·unfold l3;rw[e4 bb.1,e4 bb.2];show z.et∈u9 (cQ v.mem z.bG) a (cQ v.mem z.bG).length;unfold u9
  grind
 ·obtain⟨uJ,lT,z3,z4⟩:=z
  grind
theorem adj{s:Mem}{l:List Int}(af:dG s.view s.als=true):∀i,i<=l.length->(∀z∈s.als,z∈ (km s l i).als)/\∀z∈ (km s l i).als,z∈s.als\/(z.jW=s.self/\z.bG∈l)
 |0,_=>⟨λz h=>h,λz h=>.inl h⟩
 |i+1,hi=>by
  have hk:=EM s l i;have ax:l.getD i 0=l[i]:=by grind
  obtain⟨h1,ad⟩:=adj (l:=l) af i (by omega);have ab:=Tr (l:=l) af i;rw[<-hk.1]at ab;unfold km;rw[ax];refine⟨λz bt=>(T7 ab z).2 (.inl (h1 z bt)),λz bt=> ?_⟩;rcases(T7 ab z).1 bt with h| ⟨⟨r,_,e⟩,_⟩;all_goals grind
theorem arP(x:Int)(l:List iD)(U:List Int):∀y∈iU x l U,y∈U:=λy bk=>(ko.1 (ko.1 bk).1).1
variable{A:List bR}
theorem adk(h:dG v A=true){b:Bool}{x:Int}(ag:x∈ev v A b):∃z∈A,z.bG=x:=by
 have:=(Tl h).1 ag;obtain⟨z,bt,e⟩:=fr.1 (Tk h (x:=x) (by omega)).1
 grind
theorem arQ(af:dG s.view s.als=true): (∀z∈s.als,z∈ (p0 s).als)/\∀z∈ (p0 s).als,z∈s.als\/(z.jW=s.self/\∃y∈s.als,y.bG=z.bG):=by
 unfold p0 nO;simp only[];obtain⟨h1,ad⟩:=adj (s:={s with dbts:=kl s.self s.dbts (ev s.view s.als false)}) (l:=iU s.self s.dbts (ev s.view s.als false)) af _ (bS _);refine⟨h1,λz bt=> ?_⟩;rcases ad z bt with h| ⟨aN,bs⟩
 ·grind
 ·exact .inr ⟨aN,adk af (arP _ _ _ _ bs)⟩
theorem M8(af:dG s.view s.als=true): (∀z∈s.als,z∈ (bY s).als)/\(∀z∈ (cO s.a7).2,gk s.view z=true->z∈ (bY s).als)/\
  ∀z∈ (bY s).als,z∈s.als\/z∈ (cO s.a7).2\/(z.jW=s.self/\∃y,(y∈s.als\/y∈ (cO s.a7).2)/\y.bG=z.bG):=by
 have hk:=wQ {s with a7:=(cO s.a7).1} (cO s.a7).2 (cO s.a7).2.length;have az:=λx=>adh (s:={s with a7:=(cO s.a7).1}) (l:=(cO s.a7).2) af x _ (bS _);rw[gn]at az;have ab:=Ir (s:={s with a7:=(cO s.a7).1}) (l:=(cO s.a7).2) af (cO s.a7).2.length;have e: (mu {s with a7:=(cO s.a7).1} (cO s.a7).2).view=s.view:=hk.1;have ao:=arQ (s:=mu {s with a7:=(cO s.a7).1} (cO s.a7).2) (by rw[e];exact ab);have es: (mu {s with a7:=(cO s.a7).1} (cO s.a7).2).self=s.self:=hk.2.1;rw[es]at ao;have az:∀x,x∈ (mu {s with a7:=(cO s.a7).1} (cO s.a7).2).als↔x∈s.als\/(x∈ (cO s.a7).2/\gk s.view x=true):=az;refine⟨λz bt=>ao.1 z ((az z).2 (.inl bt)),λz bt arR=>ao.1 z ((az z).2 (.inr ⟨bt,arR⟩)),λz bt=> ?_⟩;rcases ao.2 z bt with h| ⟨h1,y,bk,e⟩;all_goals grind
theorem adl(v:aK):∀ (n:Nat) (l:List Int),∀x∈ (pj v n l).1,x∈l
 |0,l,x,ag=>by
  rw[pj]at ag;cases ag
 |n+1,l,x,ag=>by
  rw[pj]at ag;cases h1:decide ((er v l).2=0)
  ·rw[h1,bD]at ag;cases ad: (!decide ((er v l).2=5)||decide (((hd v l).length:Int)=0))
   ·rw[ad,bD]at ag;have:=adl v n _ x ag
    grind
   grind
  grind
theorem arS(h:dG v A=true):∀x∈ (dl v A).1,∃z∈A,z.bG=x:=λx ag=>by
 unfold dl at ag;cases h1:decide (0<((ev v A false).length:Int))
 ·rw[h1]at ag;exact adk h (adl v _ _ x ag)
 grind
theorem adm(h: (dl v A).2=true):∃z∈A,True:=by
 cases ai:A with
 |nil=>
  rw[ai]at h;have fk:kh ([]:List Int)=[]:=ut.1 (by have:=BI ([]:List Int);grind);have e:∀b,ev v [] b=[]:=λb=>by
   unfold ev ud
   grind
  unfold dl at h;rw[e,e,ab7]at h;cases h
 |cons z l=>simp
variable{ms:List Int}
theorem adn{x:Int}{r:Nat}(ab:dF ms 16=true)(ao:r<5):mj ms x r∈ms:=by
 have hO:=K8 (r:=(r:Nat)) ab (by omega) (by omega);have aH:=Bh (ms:=ms) (r:=(r:Nat)) ab (by omega) (by omega);have oC: (hf ms (r:Nat)).length=ms.length:=by rw[aH,G5]
 have hv:=(nE.1 ab).1;have ni:∀m,m∈hf ms (r:Nat)↔m∈ms:=λm=>by rw[aH,u5]
 unfold mj;generalize hf ms (r:Nat)=O at *;exact(ni _).1 (QC (x:=x) hO (by omega) O.length (bS _)).1
theorem ado{x:Int}(h: (cQ ms x).length=5):dF ms 16=true/\1<=x/\x<=1000/\cQ ms x=(List.range 5).map (mj ms x):=by
 have aH:cQ ms x=bif !dF ms 16|| !(decide (1<=x)&&decide (x<=1000))|| (decide ((ms.length:Int)=1)&&decide (ms.getD 0 0=x))then []else(List.range 5).map (mj ms x):=rfl
 grind
theorem arT(q4:b2 v=true){x:Int}(cm: (cQ v.mem x).length=5){r:Nat}(ao:r<5):gk v ⟨v.num,(r:Nat),(cQ v.mem x).getD r 0,x⟩=true:=by
 obtain⟨ab,Br,lS,aH⟩:=ado cm;have ax: (cQ v.mem x).getD r 0=mj v.mem x r:=by
  grind
 have az:=(nE.1 ab).2.2 _ (adn (x:=x) ab ao);have avI:n3 ⟨v.num,(r:Nat),(cQ v.mem x).getD r 0,x⟩=true:=by
  simp only[n3,cq,fx];omega
 unfold gk
 grind
theorem T8(ab:dF ms 16=true){x:Int}{r:Nat}(cm: (cQ ms x).length=5)(ao:r<5): (cQ ms x).getD r 0∈ms:=by
 obtain⟨_,_,_,aH⟩:=ado cm;have ax: (cQ ms x).getD r 0=mj ms x r:=by
  grind
 rw[ax];exact adn (x:=x) ab ao
theorem arU(ai:dG v A=true){C:Int->Prop} [DecidablePred C]{L:List Int}(gO:L.Pairwise λx y=>x<y)(arV:∀x,C x->x∈v.mem->x∈L)
  (qY:∀z∈A,z.bG∈L/\¬C z.jW) (arW:∀z,gk v z=true->z.bG∈L->¬C z.jW->z∈A) (cm:∀x∈L,(cQ v.mem x).length=5)
  (ad:∀x∈L,2<=(List.range 5).countP λr=>decide (¬C ((cQ v.mem x).getD r 0))) (ab:b2 v=true) (aV: (er v L).2=0):dl v A=(L,true):=by
 have T9:∀ (p q:Nat->Bool),(∀r,r<5->p r=q r)->(List.range 5).countP p=(List.range 5).countP q:=λp q h=>List.countP_congr λr ao=>by grind
 have bw:∀x∈L,∀r,r<5->sQ A x (r:Nat)=decide (¬C ((cQ v.mem x).getD r 0)):=λx ag r ao=>by
  by_cases al:C ((cQ v.mem x).getD r 0)
  ·rw[c5 (λh=>h al)];refine Bool.eq_false_iff.2 λh=> ?_;obtain⟨a,bb,aA,aG⟩:=B7.1 h;obtain⟨eW,hc,v3,v4,v5,v6,adf⟩:=EO ((sI.1 ai).2.1 a bb)
   grind
  ·rw[e4 al];exact B7.2 ⟨⟨v.num,(r:Nat),(cQ v.mem x).getD r 0,x⟩,arW _ (arT ab (cm x ag) ao) ag al,rfl,rfl⟩
 have al:∀x∈L,2<=je A x:=λx ag=>by
  rw[EP ai,T9 _ _ (bw x ag)]
  grind
 have kx:∀x,x∉L->je A x=0:=λx ag=>by
  rw[EP ai,T9 _ (λ_=>false) (λr ao=>by
   refine Bool.eq_false_iff.2 λh=> ?_;obtain⟨a,bb,aA,_⟩:=B7.1 h
   grind)]
  simp
 have jL:∀x∈L,B8 v A x=5:=λx ag=>by
  unfold B8;rw[T9 _ (λ_=>true) (λr ao=>by
   rw[bw x ag r ao];by_cases bX:C ((cQ v.mem x).getD r 0)
   ·rw[e4 (al _ (arV _ bX (T8 (lD ab).2.2 (cm x ag) ao))),Fh]
   grind)]
  rfl
 have key:∀x b,x∈ev v A b↔x∈L/\b=true:=λx b=>by
  rw[Tl ai];by_cases ag:x∈L;all_goals grind
 have aA:ev v A true=L:=BJ (B9 ..) gO λx=>by
  grind
 have aG:ev v A false=[]:=BJ (B9 ..) (by simp) λx=>by
  grind
 unfold dl;rw[aA,aG,ab6 aV];rfl
theorem adp(ai:dG v A=true){g:Int}(qY:∀z∈A,z.bG=g)(M7:∀r,(cQ v.mem g).getD r 0≠g)(aV: (er v [g]).2=0): (4<=je A g->dl v A=([g],true))/\((dl v A).2=true->4<=je A g):=by
 have kx:∀x,x≠g->je A x=0:=λx ag=>by
  rw[Sd,List.countP_eq_zero]
  grind
 have jL:B8 v A g=je A g:=by
  rw[EP ai];unfold B8
  grind
 have key:∀x b,x∈ev v A b↔x=g/\2<=je A g/\decide (4<=je A g)=b:=λx b=>by
  rw[Tl ai]
  grind
 constructor
 ·intro bs;have aA:ev v A true=[g]:=BJ (B9 ..) (by simp) λx=>by
   grind
  have aG:ev v A false=[]:=BJ (B9 ..) (by simp) λx=>by
   grind
  unfold dl;rw[aA,aG,ab6 aV];rfl
 ·intro h;by_cases bs:4<=je A g
  ·exact bs
  ·exfalso;have aA:ev v A true=[]:=BJ (B9 ..) (by simp) λx=>by
    grind
   unfold dl at h;rw[aA,ab7]at h;cases bw:decide (0<((ev v A false).length:Int))<;>rw[bw]at h<;>cases h
structure l5(s:bi):Prop where
 dec:s.dec=[]
 prop:s.prop=[]
 cc:s.aL.cc=0
 nP:s.aL.aC= -1
 aM:s.aM=[]
 ip:s.aC=0
 h7:s.phase=0
theorem arX(v:aK)(m:Int):l5 (qB v m):=⟨rfl,rfl,rfl,rfl,rfl,rfl,rfl⟩
section
variable {s:bi} {m:c1} {ρ arY w:Int}
theorem arZ(h:h9 False ρ w s):h9 False arY w s:=⟨h.dec,h.prop,h.cc.imp id (λh=>h.1.elim),h.nP.imp id (λh=>h.1.elim),λx ag=>(h.aM x ag).1.elim,h.ip,h.h7,h.cD⟩
theorem adq(hk:m.kind=1): (e2 s m).2=[]/\(e2 s m).1= {s with box:=(e2 s m).1.box}:=by
 unfold e2;rw[b3 hk];unfold kg;cases decide ((h6 s.view s.box ⟨m.src,m.cut⟩).2=0)<;>exact⟨rfl,rfl⟩
theorem ar0(ai:c2 s)(au:fW s)(h:l5 s)(az:eG s.view m=true)(ae:m.src≠s.self)(hk:m.kind=1): (dC s m).1.dec≠ []\/(l5 (dC s m).1/\(dC s m).2.1=[]):=by
 obtain⟨aA,aG⟩:=IH ai au az ae h.dec;obtain⟨cH,a2⟩:=adq (s:=s) hk;rw[aA,aG,cH];have aV:l5 (e2 s m).1:=by
  rw[a2];exact⟨h.dec,h.prop,h.cc,h.nP,h.aM,h.ip,h.h7⟩
 rcases Ch aV.dec []with e|e;all_goals grind
theorem adr(ai:c2 s)(au:fW s)(h:h9 False ρ w s)(az:eG s.view m=true)(ae:m.src≠s.self)(hk:m.kind=1): (dC s m).1.dec≠ []\/(h9 False ρ w (dC s m).1/\(dC s m).2.1=[]):=by
 obtain⟨aA,aG⟩:=IH ai au az ae h.dec;obtain⟨cH,a2⟩:=adq (s:=s) hk;rw[aA,aG,cH];have aV:h9 False ρ w (e2 s m).1:=by
  rw[a2];exact⟨h.dec,h.prop,h.cc,h.nP,h.aM,h.ip,h.h7,h.cD⟩
 rcases Ch aV.dec []with e|e;all_goals grind
theorem M9{p:c1}(h:rm False ρ p):p.kind=1:=h.resolve_right λh=>h.1
theorem ar1(ai:c2 s)(au:fW s)(h:l5 s): (cN s).1.dec≠ []\/(l5 (cN s).1/\∀p∈ (cN s).2,p.m.kind=1):=by
 have aA:gK s=s:=by
  unfold gK;rw[h.prop];rfl
 rw[E0 ai au h.dec,aA];rcases Ch h.dec (hE s)with e|e
 ·grind
 ·rw[e];exact .inr ⟨h,λp an=>M9 (M4 (b:=False) (ρ:=0) (λx ag=>by rw[h.aM]at ag;cases ag) (.inl h.h7) p an)⟩
theorem ar2(ai:c2 s)(au:fW s)(h:l5 s){c:List Int}(al:ga s.view c=true): (eH s c).2.2=0/\((eH s c).1.dec≠ []\/(h9 False ρ 0 (eH s c).1/\∀p∈ (eH s c).2.1,p.m.kind=1)):=by
 have ac:fI s=true:=(rd _).2 ⟨ai,au⟩;have ye:=x2 (fC al);have ar3: (oJ s.aL c).2=true:=by
  unfold oJ;rw[ai.aL,h.cc,h.nP,ye];rfl
 have cy: (eH s c).2.2=0:=by
  unfold eH;rw[ac,al,h.prop,h.dec,ar3];rfl
 refine⟨cy,?_⟩;obtain⟨_,_,_,tZ⟩:=LW ai au cy;rcases tZ with⟨_,_,_,_,e⟩| ⟨e,_⟩
 ·have hu:h9 False ρ 0 {s with prop:=c,cD:=0,aL:=⟨0,0,c⟩,box:=iB s.box ⟨s.self,c⟩}:=
   ⟨h.dec,wL al,.inl rfl,.inl rfl,(λx ag=>by rw[show ({s with prop:=c,cD:=0,aL:=⟨0,0,c⟩,box:=iB s.box ⟨s.self,c⟩}:bi).aM=s.aM from rfl,h.aM]at ag;cases ag),h.ip,h.h7,rfl⟩
  have aA: (eH s c).1=(dk {s with prop:=c,cD:=0,aL:=⟨0,0,c⟩,box:=iB s.box ⟨s.self,c⟩} [eC s 0 1 0 0 c]).1:=by grind
  have aG: (eH s c).2.1=(dk {s with prop:=c,cD:=0,aL:=⟨0,0,c⟩,box:=iB s.box ⟨s.self,c⟩} [eC s 0 1 0 0 c]).2:=by grind
  rw[aA,aG];rcases Ch hu.dec [eC s 0 1 0 0 c]with bc|bc
  ·grind
  ·rw[bc];refine .inr ⟨hu,λp an=> ?_⟩;rw[eJ.1 an];rfl
 grind
theorem ar4(s:bi): (gx s).dec=s.dec:=by
 unfold gx;cases !decide (s.phase=1)||decide ((s.bu.length:Int)<fY s.view.mem.length)
 ·cases (jc s.aL s.aC (gB s.view s.bu s.prop).1).2<;>rfl
 ·rfl
theorem ar5(hk:eG s.view m=true)(eK:m.kind≠6): (e2 s m).1.dec=s.dec:=by
 unfold e2;rcases zv hk with k|k|k|k|k|k
 ·rw[b3 k];unfold kg;cases decide ((h6 s.view s.box ⟨m.src,m.cut⟩).2=0)<;>rfl
 ·rw[bm (by omega),b3 k];unfold kS;cases decide (s.aC<m.aC)&& !decide (s.phase=0)<;>cases (im s.aL m.aC).2.2<;>rfl
 ·rw[bm (by omega),bm (by omega),b3 k];unfold kT;cases !decide (s.phase=1)|| !decide (m.aC=s.aC)
  ·exact ar4 _
  ·rfl
 ·rw[bm (by omega),bm (by omega),bm (by omega),b3 k];unfold lW;cases (jc s.aL m.aC m.cut).2<;>rfl
 all_goals grind
theorem ar6{aZ:List dN}(aa:s.dec=[])(h: (dk s aZ).1.dec≠ []):∃p∈ (dk s aZ).2,p.dd=0/\p.m.kind=6:=by
 unfold dk at h⊢;cases al:decide ((s.dec.length:Int)=0)&&decide (0<((hh s).length:Int))
 ·grind
 ·exact⟨eC s 0 6 0 0 (hh s),by simp,rfl,rfl⟩
theorem Ua(ai:c2 s)(au:fW s)(az:eG s.view m=true)(ae:m.src≠s.self): (dC s m).2.2=0:=by
 have ac:fI s=true:=(rd s).2 ⟨ai,au⟩;unfold dC;rw[bm (by grind),bm (by rw[e4 (kC az).2];simp),bm (by grind)];split<;>rfl
theorem ar7(ai:c2 s)(au:fW s)(az:eG s.view m=true)(ae:m.src≠s.self)(aa:s.dec=[])(h: (dC s m).1.dec≠ []):∃p∈ (dC s m).2.1,p.dd=0/\p.m.kind=6:=by
 obtain⟨aA,aG⟩:=IH ai au az ae aa;rw[aA]at h;rw[aG];by_cases hk:m.kind=6
 ·have al:=wL ((ph az).1 (.inr hk));have e:e2 s m=({s with dec:=m.cut},[eC s 0 6 0 0 m.cut]):=by
   unfold e2
   grind
  rw[e];have:decide (((({s with dec:=m.cut}:bi).dec).length:Int)=0)=false:=by
   simp_all
  unfold dk;rw[this];exact⟨_,eJ.2 rfl,rfl,rfl⟩
 ·have ar8: (e2 s m).1.dec=[]:=by
   have:=ar5 az hk
   grind
  exact ar6 ar8 h
end
def jB(V:aK)(k:Nat)(J:Int->Prop)(mR:List bR->Prop)(ho:c1->Prop)(src:Int):kX->Prop
 | .ac n=>n<=V.num
 | .hm n l=>n<V.num\/(n=V.num/\mR l)
 | .dP m=>m.view<V.num\/(m.view=V.num/\ho m)
 | .hi _ c=>c.length<=k
 | .e6=>J src
section
variable {bA:aK->Int->Prop} {T:Nat} {G bd:iL}
theorem yk{t:Mem}(bU:t.status=1)(aa:t.agr.dec=[]):fp t=nO t:=by
 rw[sV bU,EU aa];rfl
theorem ads(bf:dm bA T G){s:Mem}(ai:gl G s)(aa:s.agr.dec≠ []):ej s=(eR {s with hist:=s.hist++ [s.agr.dec]} (er s.view s.agr.dec).1,true)/\(er s.view s.agr.dec).2=0/\(∀y∈s.agr.dec,bA s.view y):=by
 have lB:=j3 bf ai.af;have pF:=(sK lB.1).1;have jh:ua (fy G s.hist.length) (G.gs s.hist.length) s.agr.dec:=by
  have:=ai.qD.dO.dec aa;rw[ai.view]at this;omega
 have vz: (er s.view s.agr.dec).2=0:=by
  have h1:=zx ai.hn.dec aa;rw[ai.jA]at h1;exact fC h1
 have df:=HD pF (bf.qC _ ai.af) jh;have aB:s.hist.length<399:=by
  have h1:=bf.len;have ad:=bf.yg;have aN:=ai.af;by_cases he:s.hist.length=T
  ·have e:G.D.length=T:=by omega
   have:=bf.re e s.agr.dec
   grind
  ·omega
 refine⟨?_,vz,by rw[ai.view];exact bf.zS _ ai.af _ df⟩;unfold ej;rw[c5 (λe=>aa (ut.1 (by omega))),vz,c5 (show ¬(400:Int)<=(s.hist.length:Int) by omega)];rfl
structure hG(C:Int->Prop)(k a b:Nat)(s:Mem):Prop where
 b4:s.status=1
 af:s.hist.length=k
 als:s.als=[]
 agr:s.agr=qB s.view s.self
 a7:yj C s.a7 a b
theorem IJ{C:Int->Prop}{s:Mem}{v:aK}(ab:b2 v=true)(hi:bP v.mem s.self=true):hG C s.hist.length 0 0 (eR s v):=by
 have aa:=arK (C:=C) ab hi;rw[vo hi,acn ab hi];exact⟨rfl,rfl,rfl,rfl,aa⟩
theorem Ub{V:aK}{c:List Int}(aV: (er V c).2=0){x:Int}(ag:bP V.mem x=true)(al:x∉c):bP (er V c).1.mem x=true:=iR.2 (((EQ aV).2.2 x).2 (.inl ⟨iR.1 ag,al⟩))
theorem ar9(bf:dm bA T G){C:Int->Prop}{s:Mem}(ai:gl G s)(aa:s.agr.dec≠ [])(uk:¬bA s.view s.self):hG C (s.hist.length+1) 0 0 (fp s)/\(fp s).self=s.self:=by
 obtain⟨h1,ad,aN⟩:=ads bf ai aa;have hF:=(EQ ad).1;have cS:=Ub ad ai.jO (λh=>uk (aN _ h));have e:fp s=eR {s with hist:=s.hist++ [s.agr.dec]} (er s.view s.agr.dec).1:=by
  rw[sV ai.b4,h1];rfl
 rw[e];have:=IJ (C:=C) (s:={s with hist:=s.hist++ [s.agr.dec]}) hF cS;have af: (s.hist++ [s.agr.dec]).length=s.hist.length+1:=by simp
 refine⟨?_,MT _ _⟩
 grind
inductive Cj(s:Mem)(src:Int)(J:Int->Prop)(mR:List bR->Prop)(ho:c1->Prop):kX->Mem->List c9->Prop
 |no{f:kX}{o:List c9}(aH:o=[]\/o=[uh s src])(h1:f= .ac s.view.num->bP s.view.mem src=false)(ad:∀l,f≠ .hm s.view.num l)(aN:∀m,f= .dP m->m.view<s.view.num)(bs:f= .e6->bP s.view.mem src=true/\o=[uh s src]):Cj s src J mR ho f s o
 |ac(h:bP s.view.mem src=true):Cj s src J mR ho (.ac s.view.num) {s with a7:=nG s.a7 src} []
 |hm{l:List bR}(h:mR l)(ab:dG s.view l=true):Cj s src J mR ho (.hm s.view.num l) {s with als:=kW s.als l l.length} []
 |dP{m:c1}(h:ho m)(aV:m.view=s.view.num)(az:eG s.view m=true)(ae:m.src=src)(cy: (dC s.agr m).2.2=0)(sO:m.kind=4->0<s.agr.aL.aC->s.agr.aL.aC=m.aC->s.agr.aL.cut=m.cut):Cj s src J mR ho (.dP m) {s with agr:=(dC s.agr m).1} (h0 {s with agr:=(dC s.agr m).1} (dC s.agr m).2.1)
 |e6(h:bP s.view.mem src=false)(ed:J src):Cj s src J mR ho .e6 (gU s src) [uh (gU s src) src]
theorem asa{f:aK}{c:List (List Int)}(h:c.length<=s.hist.length):lE s f c=s:=by
 unfold lE
 grind
theorem adt(bf:dm bA T G){s:Mem}(ai:gl G s){src:Int}(bx:src≠s.self){f:kX}(au:ns G src f){J:Int->Prop}{mR:List bR->Prop}{ho:c1->Prop}(nQ:jB s.view s.hist.length J mR ho src f):
  ∃t o,eM s src f=(fp t,o)/\Cj s src J mR ho f t o/\∃bd,dm bA T bd/\gl bd t/\t.hist=s.hist/\t.self=s.self:=by
 unfold eM;rw[b3 ai.b4];have lB:=j3 bf ai.af;have iO:∃bd,dm bA T bd/\gl bd s/\s.hist=s.hist/\s.self=s.self:=⟨G,bf,ai,rfl,rfl⟩
 unfold vv;cases f with
 |hi f c=>
  have al:c.length<=s.hist.length:=nQ;simp only[];rw[asa al];exact⟨s,[],rfl,.no (.inl rfl) (λe=>by cases e) (λ_ e=>by cases e) (λ_ e=>by cases e) (λe=>by cases e),iO⟩
 |e6=>
  cases cS:bP s.view.mem src
  ·have ao:=TG ai src;exact⟨gU s src,_,rfl,.e6 cS nQ,G,bf,ao,(zM s src).2.2.1,(zM s src).2.1⟩
  ·exact⟨s,_,rfl,.no (.inr rfl) (λe=>by cases e) (λ_ e=>by cases e) (λ_ e=>by cases e) (λ_=>⟨cS,rfl⟩),iO⟩
 |ac n=>
  have aV:n<=s.view.num:=nQ;simp only[];by_cases h1:n<s.view.num
  ·rw[b3 h1];refine⟨s,_,rfl,.no (.inr rfl) (λe=> ?_) (λ_ e=>by cases e) (λ_ e=>by cases e) (λe=>by cases e),iO⟩
   grind
  ·rw[bm h1,bm (show ¬s.view.num<n by omega)];have e:n=s.view.num:=by omega
   subst e;cases cS:bP s.view.mem src
   ·exact⟨s,_,rfl,.no (.inl rfl) (λ_=>cS) (λ_ e=>by cases e) (λ_ e=>by cases e) (λe=>by cases e),iO⟩
   ·exact⟨_,_,rfl,.ac cS,G,bf,TE ai (Tj (by rw[ai.view];grind) ai.jO ai.a7 src),rfl,rfl⟩
 |hm n l=>
  simp only[];rcases nQ with h1| ⟨e,asb⟩
  ·rw[b3 h1];refine⟨s,_,rfl,.no (.inr rfl) (λe=>by cases e) (λ_ e=> ?_) (λ_ e=>by cases e) (λe=>by cases e),iO⟩
   grind
  ·subst e;rw[bm (Fi _),bm (Fi _)];obtain⟨k,hk,e,ab⟩:=au;have mg:k=s.hist.length:=zU bf hk ai.af (by rw[<-ai.view,<-e]);rw[mg,<-ai.view]at ab;exact⟨_,_,rfl,.hm asb ab,G,bf,TD ai (Mx ai.als ab).1,rfl,rfl⟩
 |dP m=>
  simp only[];rcases nQ with h1| ⟨e,asc⟩
  ·rw[b3 h1];refine⟨s,_,rfl,.no (.inr rfl) (λe=>by cases e) (λ_ e=>by cases e) (λ_ e=> ?_) (λe=>by cases e),iO⟩
   grind
  ·rw[bm (by omega),bm (by omega)];obtain⟨k,hk,ab,ui,ig⟩:=au;have r8:=(kC ab).2;have mg:k=s.hist.length:=zU bf hk ai.af (by rw[<-ai.view,<-r8];omega);rw[mg,<-ai.view]at ab ui;have hb:=bf.qC _ ai.af;rw[<-ai.view]at hb;obtain⟨cy,tD⟩:=L7 hb ai.hn ai.h8 ai.jA ai.qD ab (by rw[ig,ai.nr];omega) ui;have vB:=zy ai.hn ai.h8 cy;obtain⟨p2,g1,g2,g3,g4⟩:=Ix bf ai vB (zA _ _) (.inl λ_ h=>h) (λ_ h=>.inl h) tD;rw[e4 cy,b6];exact⟨_,_,rfl,.dP asc e ab ig cy (λhN aQ D8=>by
    have qw:=ui.hN (.inl hN);have lh:=ai.qD.jd.pos aQ;rw[D8]at lh;exact hb.fJ _ _ _ (hb.cH _ _ _ lh).1 (hb.cH _ _ _ qw).1),p2,g1,g3,rfl,rfl⟩
end
def eA(s:Mem):bi×List dN:=
 bif decide ((s.agr.prop.length:Int)=0)&& (dl s.view (bY s).als).2&&decide ((eH s.agr (dl s.view (bY s).als).1).2.2=0)then((eH s.agr (dl s.view (bY s).als).1).1,(eH s.agr (dl s.view (bY s).als).1).2.1)else(s.agr,[])
theorem Na{t:Mem}(ab:t.view=s.view)(ae:t.self=s.self)(aZ:List dN):h0 t aZ=h0 s aZ:=by
 have e:pY t=pY s:=by
  unfold pY
  grind
 unfold h0;congr 1;funext p;unfold Ca qz;rw[e]
variable{aZ:List dN}
theorem yl{p:c9}:p∈h0 s aZ↔∃q∈aZ,∃x∈qz s q,p= ⟨x,.dP q.m⟩:=by
 unfold h0 Ca
 grind
theorem Ck{q:dN}(bX:q∈aZ)(aQ:q.dd=0){x:Int}(ag:x∈s.view.mem)(bx:x≠s.self): (⟨x,.dP q.m⟩:c9)∈h0 s aZ:=by
 refine yl.2 ⟨q,bX,x,?_,rfl⟩;unfold qz;rw[e4 aQ];refine ko.2 ⟨ag,?_⟩;unfold hZ
 grind
theorem asd{q:dN}(bX:q∈aZ)(aQ:q.dd≠0): (⟨q.dd,.dP q.m⟩:c9)∈h0 s aZ:=by
 refine yl.2 ⟨q,bX,q.dd,?_,rfl⟩;unfold qz
 grind
theorem Uc(s:Mem): (fa (bY s)).1= {bY s with agr:=(eA s).1}/\uj (bY s)=h0 s (eA s).2:=by
 obtain⟨cV,dj,hT,hN,nk,qu⟩:=qA s;unfold fa uj eA;rw[hN,cV];cases decide ((s.agr.prop.length:Int)=0)
 ·simp only[bD,wZ];refine⟨?_,rfl⟩;rw[<-hN]
 ·cases (dl s.view (bY s).als).2
  ·simp only[b6,bD,oR,wZ];refine⟨?_,rfl⟩;rw[<-hN]
  ·cases decide ((eH s.agr (dl s.view (bY s).als).1).2.2=0)
   ·simp only[b6,bD,oR];refine⟨?_,rfl⟩;rw[<-hN]
   ·simp only[b6,NH];refine⟨?_,by refine Na (s:=s) ?_ ?_ _<;>first|rfl|exact dj⟩
    grind
theorem adu{S s:Mem}(ab:S.view=s.view)(ae:S.self=s.self):sZ S=h0 s (cN S.agr).2:=by
 unfold sZ;exact Na (s:=s) (t:={S with agr:=(cN S.agr).1}) ab ae _
section
variable {bA:aK->Int->Prop} {T:Nat} {G:iL} {s:Mem}
theorem Nb(bf:dm bA T G)(ai:gl G s)(aw:s.hist.length<T)(df:l4 bA s):∃bd,dm bA T bd/\gl bd {bY s with agr:=(eA s).1}:=by
 obtain⟨yh,g1,g2,g3,g4⟩:=MW bf (MV bf ai) (by rw[(qA s).2.2.1];exact aw) (df ai.b4);rw[(Uc s).1]at g3
 grind
theorem ase(bf:dm bA T G)(ai:gl G s)(aw:s.hist.length<T)(df:l4 bA s):∃bd,dm bA T bd/\gl bd {bY s with agr:=(cN (eA s).1).1}:=by
 obtain⟨yh,g1,g3⟩:=Nb bf ai aw df;obtain⟨EW,nA,uP,kY,TL⟩:=TJ g1 g3;exact⟨EW,nA,kY⟩
theorem adv(bU:s.status=1)(aa: (cN (eA s).1).1.dec=[]):
  fi s=({bY s with agr:=(cN (eA s).1).1},h0 s (eA s).2++h0 s (cN (eA s).1).2++j4 {bY s with agr:=(cN (eA s).1).1}):=by
 obtain⟨cV,dj,hT,hN,nk,qu⟩:=qA s;obtain⟨fl,ff⟩:=Uc s;unfold fi;rw[b3 bU];unfold pn Ce;rw[fl,ff];have ep: (iK {bY s with agr:=(eA s).1}).1= {bY s with agr:=(cN (eA s).1).1}:=rfl;have iI:sZ {bY s with agr:=(eA s).1}=h0 s (cN (eA s).1).2:=adu (S:={bY s with agr:=(eA s).1}) cV dj;rw[ep,iI,EU aa];rfl
theorem asf{C:Int->Prop}(bf:dm bA T G)(ai:gl G s)(aw:s.hist.length<T)(df:l4 bA s)(aa: (cN (eA s).1).1.dec≠ [])(uk:¬bA s.view s.self):
  hG C (s.hist.length+1) 0 0 (fi s).1/\(fi s).2=h0 s (eA s).2++h0 s (cN (eA s).1).2:=by
 obtain⟨cV,dj,hT,hN,nk,qu⟩:=qA s;obtain⟨fl,ff⟩:=Uc s;obtain⟨EW,nA,kY⟩:=ase bf ai aw df;have iI:sZ {bY s with agr:=(eA s).1}=h0 s (cN (eA s).1).2:=adu (S:={bY s with agr:=(eA s).1}) cV dj;have ep: (iK {bY s with agr:=(eA s).1}).1= {bY s with agr:=(cN (eA s).1).1}:=rfl;have eL: ({bY s with agr:=(cN (eA s).1).1}:Mem).hist=s.hist:=by
  omega
 have hs: ({bY s with agr:=(cN (eA s).1).1}:Mem).self=s.self:=by
  omega
 have sW: ({bY s with agr:=(cN (eA s).1).1}:Mem).view=s.view:=by
  omega
 have vu: ({bY s with agr:=(cN (eA s).1).1}:Mem).agr.dec≠ []:=by
  omega
 unfold fi;rw[b3 ai.b4];unfold pn Ce;rw[fl,ff,ep,iI];generalize h0 s (eA s).2=TK;generalize h0 s (cN (eA s).1).2=TM;generalize({bY s with agr:=(cN (eA s).1).1}:Mem)=W at *;obtain⟨h1,ad,aN⟩:=ads nA kY vu;have cS:=Ub ad kY.jO (λh=>uk (by grind));have hF:=(EQ ad).1;rw[h1];refine⟨?_,rfl⟩;have bk:=IJ (C:=C) (s:={W with hist:=W.hist++ [W.agr.dec]}) hF cS
 grind
theorem Ud(ag:x∈cQ s.view.mem s.self): (⟨x,.ac s.view.num⟩:c9)∈j4 s:=by
 unfold j4;exact CL _ (fr.2 ⟨x,HK.2 ag,rfl⟩)
theorem asg(ag:x∈s.view.mem)(bx:x≠s.self)(bb:s.als≠ []): (⟨x,.hm s.view.num s.als⟩:c9)∈j4 s:=by
 unfold j4;refine mx _ ?_;rw[e4 (by have:=Fq.2 bb;omega)];refine fr.2 ⟨x,ko.2 ⟨ag,?_⟩,rfl⟩;unfold hZ
 grind
theorem E1{p:c9}(an:p∈j4 s):p.bj= .ac s.view.num\/p.bj= .hm s.view.num s.als/\s.als≠ []:=by
 unfold j4 at an
 grind
end
def po(C cY:Int->Prop)(l:List bR):Prop:=∀z∈l,cY z.bG/\¬C z.jW
structure mv(V:aK)(C cY:Int->Prop)(k a b:Nat)(aD:List bR)(l:List dr)(s:Mem):Prop where
 b4:s.status=1
 af:s.hist.length=k
 hI:s.view=V
 a7:yj C s.a7 a b
 aa:∀f∈l,f.bj= .ac V.num->bP V.mem f.src=true->qF s.a7 f.src
 ym:∀z∈aD,z∈s.als
 sub:po C cY s.als
 hm:∀f∈l,∀L,f.bj= .hm V.num L->∀z∈L,z∈s.als
 e6:∀f∈l,f.bj= .e6->bP V.mem f.src=false->∀z,gk V z=true->z.bG=f.src->z.jW=s.self->z∈s.als
theorem qG{G:iL}{s:Mem}(h:fz G s)(ae:s.status=1):Cd G s:=by
 rcases h with h|q|q
 ·exact h
 ·rw[q.eq]at ae;have ae: (0:Int)=1:=ae;omega
 ·have:=q.b4;omega
def E2(V:aK)(x:Int)(o:List c9):Prop:=∀j∈V.mem,j≠x->∃m:c1,m.kind=6/\m.view=V.num/\(⟨j,.dP m⟩:c9)∈o
theorem Nc{V:aK}{x:Int}{o aT:List c9}(h:E2 V x o)(ae:∀p∈o,p∈aT):E2 V x aT:=λj aq aV=>by
 obtain⟨m,h1,ad,aN⟩:=h j aq aV
 grind
section
variable {bA:aK->Int->Prop} {T:Nat} {G:iL} {V:aK} {C cY J:Int->Prop} {ho:c1->Prop} {k a b:Nat} {aD:List bR} {l:List dr} {s t:Mem} {f:dr} {o:List c9}
theorem ash(bf:dm bA T G)(ai:gl G s)(ct:mv V C cY k a b aD l s)(ao:Cj s f.src J (po C cY) ho f.bj t o)(al:¬C f.src)(ed:J f.src->cY f.src)(uk:¬C s.self):mv V C cY k a b aD (l++ [f]) (nO t):=by
 obtain⟨cX,c0,iu,ly,tW,sL,sM,sN,vi⟩:=ct;have hF:b2 s.view=true:=by rw[ai.view];exact(j3 bf ai.af).1
 have split:∀ {P:dr->Prop},(∀g∈l,P g)->P f->∀g∈l++ [f],P g:=λh1 ad g ax=>by
  grind
 generalize ha:f.bj=bj at ao;cases ao with
 |no aH h1 ad aN bs=>
  refine⟨cX,c0,iu,ly,split tW (λe hi=> ?_),sL,sM,split sN (λL e=> ?_),split vi (λe hi=> ?_)⟩;all_goals grind
 |ac h=>
  obtain⟨d1,d2,d3⟩:=adc (C:=C) hF ai.jO ai.a7 al ly;refine⟨cX,c0,iu,d1,split (λg ax e hi=>d3 _ (tW g ax e hi)) (λ_ _=>d2),sL,sM,split sN (λL e=> ?_),split vi (λe=> ?_)⟩;all_goals grind
 | @hm L0 h ab=>
  obtain⟨m1,m2⟩:=Mx ai.als ab;have gO:∀z,z∈s.als->z∈kW s.als L0 L0.length:=λz bt=>(m2 z).2 (.inl bt);refine⟨cX,c0,iu,ly,split tW (λe _=> ?_),λz bt=>gO z (sL z bt),λz bt=> ?_,split (λg ax L e z bt=>gO z (sN g ax L e z bt)) (λL e z bt=> ?_),split (λg ax e hi z eW hc v3=>gO z (vi g ax e hi z eW hc v3)) (λe=> ?_)⟩
  ·grind
  ·rcases(m2 z).1 bt with bt|bt
   ·exact sM z bt
   ·exact h z bt
  ·rw[ha]at e;injection e with aA aG;rw[<-aG]at bt;exact(m2 z).2 (.inr bt)
  grind
 |dP h aV az ae cy sO=>
  refine⟨cX,c0,iu,ly,split tW (λe _=> ?_),sL,sM,split sN (λL e=> ?_),split vi (λe=> ?_)⟩;all_goals grind
 |e6 h adw=>
  have hk:=zM s f.src;have bw:=zQ s f.src;have IK:=MU s f.src (l3 s.view.mem s.self f.src).length;have az:=λz=>T7 (y:=f.src) ai.als z;have gO:∀z,z∈s.als->z∈ (gU s f.src).als:=λz bt=>(az z).2 (.inl bt);have acD: (gU s f.src).a7=s.a7:=IK.2;have gS:=ai.id;unfold mq at gS;simp only[cq,fx]at gS;refine⟨bw.1.trans cX,by show (gU s f.src).hist.length=k;grind,hk.1.trans iu,by show yj C (gU s f.src).a7 a b;grind,split (λg ax e hi=>by show qF (gU s f.src).a7 g.src;grind) (λe _=> ?_),λz bt=>gO z (sL z bt),λz bt=> ?_,
   split (λg ax L e z bt=>gO z (sN g ax L e z bt)) (λL e=> ?_),split (λg ax e hi z eW hc v3=>gO z (vi g ax e hi z eW hc (v3.trans hk.2.1))) (λe hi z eW hc v3=> ?_)⟩
  ·grind
  ·rcases(az z).1 bt with bt| ⟨⟨r,_,e⟩,_⟩
   ·exact sM z bt
   grind
  ·grind
  ·have v3:z.jW=s.self:=v3.trans hk.2.1;rw[<-iu]at eW;obtain⟨r,ao,e⟩:=arO eW v3 gS;rw[hc]at ao e;exact(az z).2 (.inr ⟨⟨r,ao,e⟩,eW⟩)
theorem adx(bf:dm bA T G)(cT:fz G s)(ct:mv V C cY k a b aD l s)(bx:f.src≠s.self)(au:ns G f.src f.bj)(nQ:jB V k J (po C cY) ho f.src f.bj)(al:¬C f.src)(ed:J f.src->cY f.src)(uk:¬C s.self)(IL:¬bA V s.self):
  (∃m,f.bj= .dP m/\m.view=V.num/\ho m/\eG V m=true/\m.src=f.src/\(m.kind=4->0<s.agr.aL.aC->s.agr.aL.aC=m.aC->s.agr.aL.cut=m.cut)/\(eM s f.src f.bj).2=h0 s (dC s.agr m).2.1/\
   (((dC s.agr m).1.dec≠ []/\hG C (k+1) 0 0 (eM s f.src f.bj).1/\E2 V s.self (eM s f.src f.bj).2)\/((dC s.agr m).1.dec=[]/\mv V C cY k a b aD (l++ [f]) (eM s f.src f.bj).1/\(eM s f.src f.bj).1.agr=(dC s.agr m).1)))\/
  ((∀m,f.bj= .dP m->m.view<V.num)/\mv V C cY k a b aD (l++ [f]) (eM s f.src f.bj).1/\(eM s f.src f.bj).1.agr=s.agr/\(∀p∈ (eM s f.src f.bj).2,p.dd=f.src/\∃v c,p.bj= .hi v c/\c.length=k)/\(f.bj= .e6->∃p∈ (eM s f.src f.bj).2,p.dd=f.src/\p.bj= .hi s.first s.hist)):=by
 obtain⟨ai,aa,_⟩:=qG cT ct.b4;have Ue:jB s.view s.hist.length J (po C cY) ho f.src f.bj:=by rw[ct.hI,ct.af];omega
 obtain⟨t,o,e,ao,p2,ady,qw,asi,vZ⟩:=adt bf ai bx au Ue;have zN:=ash bf ai ct ao al ed uk;rw[e];generalize ha:f.bj=bj at ao nQ au;cases ao with
 | @dP m h aV az ae cy sO=>
  left;refine⟨m,rfl,by rw[<-ct.hI];exact aV,h,by rw[<-ct.hI];exact az,ae,sO,Na rfl rfl _,?_⟩;by_cases dq: (dC s.agr m).1.dec=[]
  ·right;have aG:fp {s with agr:=(dC s.agr m).1}=nO {s with agr:=(dC s.agr m).1}:=yk ai.b4 dq;simp only[aG];exact⟨dq,zN,rfl⟩
  ·left;obtain⟨oc,kP⟩:=ar9 (C:=C) ady qw dq (by show ¬bA s.view s.self;rw[ct.hI];omega);have af: ({s with agr:=(dC s.agr m).1}:Mem).hist.length=k:=ct.af;rw[af]at oc;refine⟨dq,oc,λj aq Uf=> ?_⟩;have r8:eG s.agr.view m=true:=by rw[ai.jA];exact az
   have BD:m.src≠s.agr.self:=by rw[ai.nr,ae];omega
   obtain⟨p,an,fl,ff⟩:=ar7 ai.hn ai.h8 r8 BD aa dq;have vB:=(zy ai.hn ai.h8 cy).2.2.2.2 p an;have GI:=(kC vB.pS).2;refine⟨p.m,ff,by rw[<-ct.hI,<-ai.jA];omega,?_⟩;simp only[];rw[Na (s:=s) (t:={s with agr:=(dC s.agr m).1}) rfl rfl];exact Ck an fl (by rw[ct.hI];exact aq) Uf
 |no aH h1 ad aN bs=>
  right;have aG:fp s=nO s:=yk ai.b4 aa;simp only[aG];refine⟨λm em=>by rw[<-ct.hI];grind,zN,rfl,λp an=> ?_,λlY=> ?_⟩
  ·rcases aH with rfl|rfl
   ·cases an
   ·rw[eJ.1 an];exact⟨rfl,_,_,rfl,ct.af⟩
  ·rw[(bs lY).2];exact⟨_,eJ.2 rfl,rfl,rfl⟩
 |ac h=>
  right;have aG:fp {s with a7:=nG s.a7 f.src}=nO {s with a7:=nG s.a7 f.src}:=yk ai.b4 aa;simp only[aG];exact⟨(λm em=>by cases em),zN,rfl,λp an=>(by cases an),λlY=>by cases lY⟩
 | @hm L0 h ab=>
  right;have aG:fp {s with als:=kW s.als L0 L0.length}=nO {s with als:=kW s.als L0 L0.length}:=yk ai.b4 aa;simp only[aG];exact⟨(λm em=>by cases em),zN,rfl,λp an=>(by cases an),λlY=>by cases lY⟩
 |e6 h adw=>
  right;have hk:=zM s f.src;have bw:=zQ s f.src;have aG:fp (gU s f.src)=nO (gU s f.src):=yk (bw.1.trans ai.b4) (by grind);simp only[aG];refine⟨(λm em=>by cases em),zN,bw.2.2.2,λp an=> ?_,λ_=>⟨_,eJ.2 rfl,rfl,?_⟩⟩
  ·rw[eJ.1 an];exact⟨rfl,_,_,rfl,by rw[hk.2.2.1];exact ct.af⟩
  ·show kX.hi (gU s f.src).first (gU s f.src).hist=_
   grind
theorem Nd(bf:dm bA T G)(cT:fz G s)(oP:hG C k a b s)(bx:f.src≠s.self)(au:ns G f.src f.bj)(nQ:jB s.view k J (λ_=>False) (λ_=>False) f.src f.bj)(al:¬C f.src)(ed:J f.src->bP s.view.mem f.src=true):
  hG C k a b (eM s f.src f.bj).1/\(eM s f.src f.bj).1.view=s.view/\(f.bj= .ac s.view.num->bP s.view.mem f.src=true->qF (eM s f.src f.bj).1.a7 f.src)/\(∀y,qF s.a7 y->qF (eM s f.src f.bj).1.a7 y)/\
  (∀p∈ (eM s f.src f.bj).2,p.dd=f.src/\p.bj= .hi s.first s.hist)/\(f.bj= .e6->∃p∈ (eM s f.src f.bj).2,p.dd=f.src/\p.bj= .hi s.first s.hist):=by
 obtain⟨ai,aa,_⟩:=qG cT oP.b4;have Ue:jB s.view s.hist.length J (λ_=>False) (λ_=>False) f.src f.bj:=by rw[oP.af];omega
 obtain⟨t,o,e,ao,p2,ady,qw,asi,vZ⟩:=adt bf ai bx au Ue;have hF:b2 s.view=true:=by rw[ai.view];exact(j3 bf ai.af).1
 rw[e];generalize ha:f.bj=bj at ao;cases ao with
 |dP h=>grind
 |hm h=>grind
 |e6 h adw=>
  grind
 |ac h=>
  have aG:fp {s with a7:=nG s.a7 f.src}=nO {s with a7:=nG s.a7 f.src}:=yk ai.b4 aa;obtain⟨d1,d2,d3⟩:=adc (C:=C) hF ai.jO ai.a7 al oP.a7;simp only[aG];exact⟨⟨oP.b4,oP.af,oP.als,oP.agr,d1⟩,rfl,λ_ _=>d2,d3,(λp an=>by cases an),λlY=>by cases lY⟩
 |no aH h1 ad aN bs=>
  have aG:fp s=nO s:=yk ai.b4 aa;simp only[aG];refine⟨⟨oP.b4,oP.af,oP.als,oP.agr,oP.a7⟩,rfl,λk7 hi=> ?_,λy bk=>bk,λp an=> ?_,λlY=> ?_⟩
  ·grind
  ·rcases aH with rfl|rfl
   ·cases an
   ·rw[eJ.1 an];exact⟨rfl,rfl⟩
  ·rw[(bs lY).2];exact⟨_,eJ.2 rfl,rfl,rfl⟩
end
theorem asj{x:Int}(ab:b2 v=true)(hi:bP v.mem x=true):cN (qB v x)=(qB v x,[]):=by
 have ai:=aco ab hi;have au:fW (qB v x):=λe=>by
  have e: (0:Int)=1:=e;omega
 have aA:gK (qB v x)=qB v x:=rfl;have ac:hX v []=true:=by
  unfold hX;rw[ab];rfl
 have hw:jx v []=([],false):=by
  unfold jx;simp
 have aa:hh (qB v x)=[]:=by
  unfold hh;show (bif (jx v []).2 then _ else _)=_;rw[hw];rfl
 have ao:hE (qB v x)=[]:=rfl;rw[E0 ai au rfl,aA,ao];unfold dk
 grind
section
variable {bA:aK->Int->Prop} {T:Nat} {G:iL} {V:aK} {C cY:Int->Prop} {k a b b':Nat} {aD:List bR} {l:List dr} {s:Mem}
theorem adz(ab:b2 V=true)(aa:pP V s.self s.a7)(h:∀y∈V.mem,y≠s.self->s.self∈cQ V.mem y->¬C y->qF s.a7 y):∀e∈s.a7.bV,¬C e.bG->e.ml=true:=λe he al=>by
 obtain⟨h1,ad,aN⟩:=Sv _ (T6 aa he);exact h _ h1 ad aN al e he rfl
theorem Ug(bf:dm bA T G)(ai:gl G s)(ct:mv V C cY k a b aD l s)(ac:b+1<=b'\/(b<=b'/\∀y∈V.mem,y≠s.self->s.self∈cQ V.mem y->¬C y->qF s.a7 y))(aN:b'<=3)(uk:¬C s.self)(adA:∀y,C y->y∈V.mem->cY y):
  po C cY (bY s).als/\yj C (cO s.a7).1 (a+1) b'/\(a+1=10->∀e∈s.a7.bV,C e.bG->(⟨s.view.num,e.et,s.self,e.bG⟩:bR)∈ (cO s.a7).2):=by
 have hF:b2 s.view=true:=by rw[ai.view];exact(j3 bf ai.af).1
 have cx:b+1<=b'\/(b<=b'/\∀e∈s.a7.bV,¬C e.bG->e.ml=true):=by
  rcases ac with ac| ⟨ac,bw⟩
  ·omega
  ·refine .inr ⟨ac,adz hF ai.a7 ?_⟩;rw[ct.hI];exact bw
 obtain⟨d1,d2,d3⟩:=ade hF ai.jO ai.a7 ct.a7 cx aN;obtain⟨m1,m2,m3⟩:=M8 ai.als;refine⟨λz bt=> ?_,d1,d3⟩;have avJ:∀y∈ (cO s.a7).2,cY y.bG:=λy bk=>by
  obtain⟨fJ,_,_,e,he,es⟩:=d2 y bk;have:=(Sv _ (T6 ai.a7 he)).1;rw[ct.hI]at this
  grind
 rcases m3 z bt with h|h| ⟨h,y,bk,e⟩
 ·exact ct.sub z h
 ·grind
 ·refine⟨?_,by grind⟩;rw[<-e];rcases bk with bk|bk
  ·exact(ct.sub y bk).1
  grind
theorem asl(bf:dm bA T G)(cT:fz G s)(ct:mv V C cY k a b aD l s)(aw:s.hist.length<T)(df:l4 bA s)(ac:b+1<=b'\/(b<=b'/\∀y∈V.mem,y≠s.self->s.self∈cQ V.mem y->¬C y->qF s.a7 y))(aN:b'<=3)
  (uk:¬C s.self) (IL:¬bA V s.self) (adA:∀y,C y->y∈V.mem->cY y):
  ((cN (eA s).1).1.dec≠ []/\hG C (k+1) 0 0 (fi s).1/\E2 V s.self (fi s).2/\(fi s).2=h0 s (eA s).2++h0 s (cN (eA s).1).2)\/
  ((cN (eA s).1).1.dec=[]/\mv V C cY k (a+1) b' s.als [] (fi s).1/\(fi s).1.agr=(cN (eA s).1).1/\(fi s).2=h0 s (eA s).2++h0 s (cN (eA s).1).2++j4 (fi s).1/\(fi s).1.als=(bY s).als/\
   (a+1=10->∀z,gk V z=true->C z.bG->z.bG∈V.mem->z.jW=s.self->z∈ (fi s).1.als)):=by
 obtain⟨ai,aa,_⟩:=qG cT ct.b4;have hF:b2 s.view=true:=by rw[ai.view];exact(j3 bf ai.af).1
 obtain⟨cV,dj,hT,hN,nk,qu⟩:=qA s;obtain⟨yh,nA,kY⟩:=Nb bf ai aw df;by_cases dq: (cN (eA s).1).1.dec=[]
 ·right;obtain⟨qY,d1,d3⟩:=Ug bf ai ct ac aN uk adA;obtain⟨m1,m2,m3⟩:=M8 ai.als;have IK:=(TI s).2;have IM:=adv ai.b4 dq;clear nA kY;generalize cN (eA s).1=X at *;generalize(eA s).2=Q at *;rw[IM];generalize bY s=S1 at *;refine⟨dq,⟨nk.trans ct.b4,by show S1.hist.length=k;rw[hT];exact ct.af,cV.trans ct.hI,by grind,(λf au=>by cases au),m1,qY,(λf au=>by cases au),(λf au=>by cases au)⟩,rfl,rfl,rfl,λbb z eW hc v3 v4=> ?_⟩;have bx:z.bG≠s.self:=λe=>uk (e▸hc);rw[<-ct.hI]at eW v3;obtain⟨e,he,avK⟩:=arL hF ai.jO ai.a7 eW v4 v3 bx
  grind
 ·left;obtain⟨oc,kP⟩:=asf (C:=C) bf ai aw df dq (by rw[ct.hI];omega);rw[ct.af]at oc;refine⟨dq,oc,λj aq Uf=> ?_,kP⟩;obtain⟨p,an,fl,ff,_⟩:=arq kY.hn kY.h8 dq;have GI:=(kC ((Er kY.hn kY.h8).2.2.2.2 p an).pS).2;have fO: (eA s).1.view=s.view:=kY.jA.trans cV;refine⟨p.m,ff,by rw[<-ct.hI,<-fO];omega,?_⟩;rw[kP];exact mx _ (Ck an fl (by rw[ct.hI];exact aq) Uf)
theorem asm(h: (bY s).als=[]):eA s=(s.agr,[]):=by
 have: (dl s.view (bY s).als).2=false:=by
  cases al: (dl s.view (bY s).als).2
  ·rfl
  ·obtain⟨z,bt,_⟩:=adm al
   grind
 unfold eA
 grind
theorem Cl(bf:dm bA T G)(cT:fz G s)(oP:hG C k a b s)(ac:b+1<=b'\/(b<=b'/\∀y∈s.view.mem,y≠s.self->s.self∈cQ s.view.mem y->¬C y->qF s.a7 y))(aN:b'<=3)
  (bX:a+1<10\/∀y∈s.view.mem,¬C y):l4 bA s/\hG C k (a+1) b' (fi s).1/\(fi s).1.view=s.view/\(fi s).1.self=s.self/\(fi s).2=j4 (fi s).1:=by
 obtain⟨ai,aa,_⟩:=qG cT oP.b4;have hF:b2 s.view=true:=by rw[ai.view];exact(j3 bf ai.af).1
 obtain⟨cV,dj,hT,hN,nk,qu⟩:=qA s;have cx:b+1<=b'\/(b<=b'/\∀e∈s.a7.bV,¬C e.bG->e.ml=true):=by
  rcases ac with ac| ⟨ac,bw⟩
  ·omega
  ·exact .inr ⟨ac,adz hF ai.a7 bw⟩
 obtain⟨d1,d2,d3⟩:=ade hF ai.jO ai.a7 oP.a7 cx aN;have avL:∀z,z∉ (cO s.a7).2:=λz bt=>by
  obtain⟨fJ,eP,_,e,he,es⟩:=d2 z bt;rcases bX with bX|bX
  ·omega
  ·exact bX _ (Sv _ (T6 ai.a7 he)).1 (by grind)
 obtain⟨m1,m2,m3⟩:=M8 ai.als;have E3: (bY s).als=[]:=by
  cases h: (bY s).als with
  |nil=>rfl
  |cons z l=>
   exfalso;have bt:z∈ (bY s).als:=by grind
   rw[oP.als]at m3
   grind
 have an:=asm E3;have cI:cN (eA s).1=(qB s.view s.self,[]):=by
  rw[an,oP.agr];exact asj hF ai.jO
 have dq: (cN (eA s).1).1.dec=[]:=by rw[cI];rfl
 refine⟨λ_ cy=> ?_,?_⟩
 ·obtain⟨z,bt,_⟩:=adm cy
  grind
 ·have IM:=adv ai.b4 dq;have IK:=(TI s).2;rw[cI,an]at IM;rw[IM];clear an cI dq IM m1 m2 m3;generalize bY s=S1 at *;exact⟨⟨nk.trans oP.b4,by show S1.hist.length=k;rw[hT];exact oP.af,E3,by grind,by grind⟩,cV,dj,rfl⟩
end
end Go.Proofs.YtdcfooeoaoahjaaGreat
