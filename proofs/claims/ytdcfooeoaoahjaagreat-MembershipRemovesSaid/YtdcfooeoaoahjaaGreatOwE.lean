/- The laws of this seat, part OwE: contracts of the functions, plain laws. No conditions. -/
import Derived.Test.YtdcfooeoaoahjaaGreatOwD
set_option linter.unusedSimpArgs false
set_option linter.unusedVariables false
set_option linter.unusedSectionVars false
set_option maxRecDepth 100000
set_option maxHeartbeats 16000000
namespace Go.Proofs.YtdcfooeoaoahjaaGreat
open Go.Lift
def kX(V:aK)(k:Nat)(J:Int->Prop)(mU:List bU->Prop)(iF:c0->Prop)(src:Int):lj->Prop
 | .ac n=>n<=V.num
 | .hD n l=>n<V.num\/(n=V.num/\mU l)
 | .dX m=>m.view<V.num\/(m.view=V.num/\iF m)
 | .hi _ c=>c.length<=k
 | .gD=>J src
section
variable {bz:aK->Int->Prop} {T:Nat} {G bk:jg}
theorem yv{t:Mem}(b3:t.status=1)(aa:t.agr.dec=[]):fl t=nM t:=by
 rw[ta b3,Fh aa];rfl
theorem aeh(bf:dt bz T G){s:Mem}(al:gj G s)(aa:s.agr.dec≠ []):en s=(eT {s with hist:=s.hist++ [s.agr.dec]} (dJ s.view s.agr.dec).1,true)/\(dJ s.view s.agr.dec).2=0/\(∀y∈s.agr.dec,bz s.view y):=by
 have kQ:=jZ bf al.af;have pP:=(s3 kQ.1).1;have jf:uh (eV G s.hist.length) (G.gs s.hist.length) s.agr.dec:=by
  have:=al.qP.dP.dec aa;rw[al.view]at this;omega
 have vK: (dJ s.view s.agr.dec).2=0:=by
  have h1:=zM al.hm.dec aa;rw[al.jy]at h1;exact fi h1
 have dd:=H2 pP (bf.qO _ al.af) jf;have ax:s.hist.length<399:=by
  have h1:=bf.len;have ad:=bf.yq;have aN:=al.af;by_cases he:s.hist.length=T
  ·have e:G.D.length=T:=by omega
   have:=bf.ry e s.agr.dec
   grind
  ·omega
 refine⟨?_,vK,by rw[al.view];exact bf.Ac _ al.af _ dd⟩;unfold en;rw[cX (λe=>aa (v2.1 (by omega))),vK,cX (show ¬(400:Int)<=(s.hist.length:Int) by omega)];rfl
structure hE(C:Int->Prop)(k a b:Nat)(s:Mem):Prop where
 b7:s.status=1
 af:s.hist.length=k
 als:s.als=[]
 agr:s.agr=qN s.view s.self
 a7:yu C s.a7 a b
theorem NL{C:Int->Prop}{s:Mem}{v:aK}(ab:b0 v=true)(hi:bH v.mem s.self=true):hE C s.hist.length 0 0 (eT s v):=by
 have aa:=asO (C:=C) ab hi;rw[w2 hi,ade ab hi];exact⟨rfl,rfl,rfl,rfl,aa⟩
theorem UZ{V:aK}{c:List Int}(aW: (dJ V c).2=0){x:Int}(ah:bH V.mem x=true)(aj:x∉c):bH (dJ V c).1.mem x=true:=gz.2 (((Fc aW).2.2 x).2 (.inl ⟨gz.1 ah,aj⟩))
theorem atc(bf:dt bz T G){C:Int->Prop}{s:Mem}(al:gj G s)(aa:s.agr.dec≠ [])(uw:¬bz s.view s.self):hE C (s.hist.length+1) 0 0 (fl s)/\(fl s).self=s.self:=by
 obtain⟨h1,ad,aN⟩:=aeh bf al aa;have hC:=(Fc ad).1;have cL:=UZ ad al.jK (λh=>uw (aN _ h));have e:fl s=eT {s with hist:=s.hist++ [s.agr.dec]} (dJ s.view s.agr.dec).1:=by
  rw[ta al.b7,h1];rfl
 rw[e];have:=NL (C:=C) (s:={s with hist:=s.hist++ [s.agr.dec]}) hC cL;have af: (s.hist++ [s.agr.dec]).length=s.hist.length+1:=by simp
 refine⟨?_,Nu _ _⟩
 grind
inductive CO(s:Mem)(src:Int)(J:Int->Prop)(mU:List bU->Prop)(iF:c0->Prop):lj->Mem->List dg->Prop
 |no{f:lj}{o:List dg}(aH:o=[]\/o=[uq s src])(h1:f= .ac s.view.num->bH s.view.mem src=false)(ad:∀l,f≠ .hD s.view.num l)(aN:∀m,f= .dX m->m.view<s.view.num)(bt:f= .gD->bH s.view.mem src=true/\o=[uq s src]):CO s src J mU iF f s o
 |ac(h:bH s.view.mem src=true):CO s src J mU iF (.ac s.view.num) {s with a7:=nH s.a7 src} []
 |hD{l:List bU}(h:mU l)(ab:dF s.view l=true):CO s src J mU iF (.hD s.view.num l) {s with als:=kV s.als l l.length} []
 |dX{m:c0}(h:iF m)(aW:m.view=s.view.num)(aA:eJ s.view m=true)(ae:m.src=src)(cw: (dB s.agr m).2.2=0)(s4:m.kind=4->0<s.agr.aP.aD->s.agr.aP.aD=m.aD->s.agr.aP.cut=m.cut):CO s src J mU iF (.dX m) {s with agr:=(dB s.agr m).1} (h0 {s with agr:=(dB s.agr m).1} (dB s.agr m).2.1)
 |gD(h:bH s.view.mem src=false)(gU:J src):CO s src J mU iF .gD (gZ s src) [uq (gZ s src) src]
theorem atd{s:Mem}{f:aK}{c:List (List Int)}(h:c.length<=s.hist.length):lC s f c=s:=by
 unfold lC
 grind
theorem aei(bf:dt bz T G){s:Mem}(al:gj G s){src:Int}(bu:src≠s.self){f:lj}(az:oc G src f){J:Int->Prop}{mU:List bU->Prop}{iF:c0->Prop}(pv:kX s.view s.hist.length J mU iF src f):
  ∃t o,fm s src f=(fl t,o)/\CO s src J mU iF f t o/\∃bk,dt bz T bk/\gj bk t/\t.hist=s.hist/\t.self=s.self:=by
 unfold fm;rw[b6 al.b7];have kQ:=jZ bf al.af;have ie:∃bk,dt bz T bk/\gj bk s/\s.hist=s.hist/\s.self=s.self:=⟨G,bf,al,rfl,rfl⟩
 unfold vG;cases f with
 |hi f c=>
  have aj:c.length<=s.hist.length:=pv;simp only[];rw[atd aj];exact⟨s,[],rfl,.no (.inl rfl) (λe=>by cases e) (λ_ e=>by cases e) (λ_ e=>by cases e) (λe=>by cases e),ie⟩
 |gD=>
  cases cL:bH s.view.mem src
  ·have ao:=Uu al src;exact⟨gZ s src,_,rfl,.gD cL pv,G,bf,ao,(z1 s src).2.2.1,(z1 s src).2.1⟩
  ·exact⟨s,_,rfl,.no (.inr rfl) (λe=>by cases e) (λ_ e=>by cases e) (λ_ e=>by cases e) (λ_=>⟨cL,rfl⟩),ie⟩
 |ac n=>
  have aW:n<=s.view.num:=pv;simp only[];by_cases h1:n<s.view.num
  ·rw[b6 h1];refine⟨s,_,rfl,.no (.inr rfl) (λe=> ?_) (λ_ e=>by cases e) (λ_ e=>by cases e) (λe=>by cases e),ie⟩
   grind
  ·rw[bo h1,bo (show ¬s.view.num<n by omega)];have e:n=s.view.num:=by omega
   subst e;cases cL:bH s.view.mem src
   ·exact⟨s,_,rfl,.no (.inl rfl) (λ_=>cL) (λ_ e=>by cases e) (λ_ e=>by cases e) (λe=>by cases e),ie⟩
   ·exact⟨_,_,rfl,.ac cL,G,bf,Ut al (T9 (by rw[al.view];grind) al.jK al.a7 src),rfl,rfl⟩
 |hD n l=>
  simp only[];rcases pv with h1| ⟨e,ate⟩
  ·rw[b6 h1];refine⟨s,_,rfl,.no (.inr rfl) (λe=>by cases e) (λ_ e=> ?_) (λ_ e=>by cases e) (λe=>by cases e),ie⟩
   grind
  ·subst e;rw[bo (FH _),bo (FH _)];obtain⟨k,hk,e,ab⟩:=az;have mf:k=s.hist.length:=Ae bf hk al.af (by rw[<-al.view,<-e]);rw[mf,<-al.view]at ab;exact⟨_,_,rfl,.hD ate ab,G,bf,Us al (M5 al.als ab).1,rfl,rfl⟩
 |dX m=>
  simp only[];rcases pv with h1| ⟨e,atf⟩
  ·rw[b6 h1];refine⟨s,_,rfl,.no (.inr rfl) (λe=>by cases e) (λ_ e=>by cases e) (λ_ e=> ?_) (λe=>by cases e),ie⟩
   grind
  ·rw[bo (by omega),bo (by omega)];obtain⟨k,hk,ab,ur,ix⟩:=az;have sj:=(kB ab).2;have mf:k=s.hist.length:=Ae bf hk al.af (by rw[<-al.view,<-sj];omega);rw[mf,<-al.view]at ab ur;have gy:=bf.qO _ al.af;rw[<-al.view]at gy;obtain⟨cw,tP⟩:=MF gy al.hm al.ia al.jy al.qP ab (by rw[ix,al.nu];omega) ur;have vM:=zN al.hm al.ia cw;obtain⟨qc,g1,g2,g3,g4⟩:=IX bf al vM (zP _ _) (.inl λ_ h=>h) (λ_ h=>.inl h) tP;rw[ep cw,bY];exact⟨_,_,rfl,.dX atf e ab ix cw (λhL aR Ew=>by
    have qI:=ur.hL (.inl hL);have lg:=al.qP.jc.pos aR;rw[Ew]at lg;exact gy.fF _ _ _ (gy.cP _ _ _ lg).1 (gy.cP _ _ _ qI).1),qc,g1,g3,rfl,rfl⟩
end
def eC(s:Mem):bj×List dO:=
 bif decide ((s.agr.prop.length:Int)=0)&& (dm s.view (b1 s).als).2&&decide ((eK s.agr (dm s.view (b1 s).als).1).2.2=0)then((eK s.agr (dm s.view (b1 s).als).1).1,(eK s.agr (dm s.view (b1 s).als).1).2.1)else(s.agr,[])
variable{s:Mem}
theorem NM{t:Mem}(ab:t.view=s.view)(ae:t.self=s.self)(a6:List dO):h0 t a6=h0 s a6:=by
 have e:p8 t=p8 s:=by
  unfold p8
  grind
 unfold h0;congr 1;funext p;unfold CB qK;rw[e]
variable{a6:List dO}
theorem yw{p:dg}:p∈h0 s a6↔∃q∈a6,∃x∈qK s q,p= ⟨x,.dX q.m⟩:=by
 unfold h0 CB
 grind
theorem CP{q:dO}(bV:q∈a6)(aR:q.da=0){x:Int}(ah:x∈s.view.mem)(bu:x≠s.self): (⟨x,.dX q.m⟩:dg)∈h0 s a6:=by
 refine yw.2 ⟨q,bV,x,?_,rfl⟩;unfold qK;rw[ep aR];refine h2.2 ⟨ah,?_⟩;unfold hZ
 grind
theorem atg{q:dO}(bV:q∈a6)(aR:q.da≠0): (⟨q.da,.dX q.m⟩:dg)∈h0 s a6:=by
 refine yw.2 ⟨q,bV,q.da,?_,rfl⟩;unfold qK
 grind
theorem U0(s:Mem): (fb (b1 s)).1= {b1 s with agr:=(eC s).1}/\ut (b1 s)=h0 s (eC s).2:=by
 obtain⟨cU,dh,hR,hL,nk,qG⟩:=qL s;unfold fb ut eC;rw[hL,cU];cases decide ((s.agr.prop.length:Int)=0)
 ·simp only[bs,vW];refine⟨?_,rfl⟩;rw[<-hL]
 ·cases (dm s.view (b1 s).als).2
  ·simp only[bY,bs,oj,vW];refine⟨?_,rfl⟩;rw[<-hL]
  ·cases decide ((eK s.agr (dm s.view (b1 s).als).1).2.2=0)
   ·simp only[bY,bs,oj];refine⟨?_,rfl⟩;rw[<-hL]
   ·simp only[bY,Of];refine⟨?_,by refine NM (s:=s) ?_ ?_ _<;>first|rfl|exact dh⟩
    grind
theorem aej{S s:Mem}(ab:S.view=s.view)(ae:S.self=s.self):te S=h0 s (cQ S.agr).2:=by
 unfold te;exact NM (s:=s) (t:={S with agr:=(cQ S.agr).1}) ab ae _
section
variable {bz:aK->Int->Prop} {T:Nat} {G:jg} {s:Mem}
theorem NN(bf:dt bz T G)(al:gj G s)(ay:s.hist.length<T)(dd:mw bz s):∃bk,dt bz T bk/\gj bk {b1 s with agr:=(eC s).1}:=by
 obtain⟨yr,g1,g2,g3,g4⟩:=Ny bf (Nx bf al) (by rw[(qL s).2.2.1];exact ay) (dd al.b7);rw[(U0 s).1]at g3
 grind
theorem ath(bf:dt bz T G)(al:gj G s)(ay:s.hist.length<T)(dd:mw bz s):∃bk,dt bz T bk/\gj bk {b1 s with agr:=(cQ (eC s).1).1}:=by
 obtain⟨yr,g1,g3⟩:=NN bf al ay dd;obtain⟨Fk,nC,uZ,kW,Uz⟩:=Ux g1 g3;exact⟨Fk,nC,kW⟩
theorem aek(b3:s.status=1)(aa: (cQ (eC s).1).1.dec=[]):
  fy s=({b1 s with agr:=(cQ (eC s).1).1},h0 s (eC s).2++h0 s (cQ (eC s).1).2++kj {b1 s with agr:=(cQ (eC s).1).1}):=by
 obtain⟨cU,dh,hR,hL,nk,qG⟩:=qL s;obtain⟨ff,fB⟩:=U0 s;unfold fy;rw[b6 b3];unfold pt CG;rw[ff,fB];have eu: (iJ {b1 s with agr:=(eC s).1}).1= {b1 s with agr:=(cQ (eC s).1).1}:=rfl;have iH:te {b1 s with agr:=(eC s).1}=h0 s (cQ (eC s).1).2:=aej (S:={b1 s with agr:=(eC s).1}) cU dh;rw[eu,iH,Fh aa];rfl
theorem ati{C:Int->Prop}(bf:dt bz T G)(al:gj G s)(ay:s.hist.length<T)(dd:mw bz s)(aa: (cQ (eC s).1).1.dec≠ [])(uw:¬bz s.view s.self):
  hE C (s.hist.length+1) 0 0 (fy s).1/\(fy s).2=h0 s (eC s).2++h0 s (cQ (eC s).1).2:=by
 obtain⟨cU,dh,hR,hL,nk,qG⟩:=qL s;obtain⟨ff,fB⟩:=U0 s;obtain⟨Fk,nC,kW⟩:=ath bf al ay dd;have iH:te {b1 s with agr:=(eC s).1}=h0 s (cQ (eC s).1).2:=aej (S:={b1 s with agr:=(eC s).1}) cU dh;have eu: (iJ {b1 s with agr:=(eC s).1}).1= {b1 s with agr:=(cQ (eC s).1).1}:=rfl;have eE: ({b1 s with agr:=(cQ (eC s).1).1}:Mem).hist=s.hist:=by
  omega
 have gW: ({b1 s with agr:=(cQ (eC s).1).1}:Mem).self=s.self:=by
  omega
 have tb: ({b1 s with agr:=(cQ (eC s).1).1}:Mem).view=s.view:=by
  omega
 have vF: ({b1 s with agr:=(cQ (eC s).1).1}:Mem).agr.dec≠ []:=by
  omega
 unfold fy;rw[b6 al.b7];unfold pt CG;rw[ff,fB,eu,iH];generalize h0 s (eC s).2=Uy;generalize h0 s (cQ (eC s).1).2=UA;generalize({b1 s with agr:=(cQ (eC s).1).1}:Mem)=W at *;obtain⟨h1,ad,aN⟩:=aeh nC kW vF;have cL:=UZ ad kW.jK (λh=>uw (by grind));have hC:=(Fc ad).1;rw[h1];refine⟨?_,rfl⟩;have bn:=NL (C:=C) (s:={W with hist:=W.hist++ [W.agr.dec]}) hC cL
 grind
theorem NO{x:Int}(ah:x∈cv s.view.mem s.self): (⟨x,.ac s.view.num⟩:dg)∈kj s:=by
 unfold kj;exact C6 _ (fT.2 ⟨x,H9.2 ah,rfl⟩)
theorem atj{x:Int}(ah:x∈s.view.mem)(bu:x≠s.self)(bb:s.als≠ []): (⟨x,.hD s.view.num s.als⟩:dg)∈kj s:=by
 unfold kj;refine mW _ ?_;rw[ep (by have:=Au.2 bb;omega)];refine fT.2 ⟨x,h2.2 ⟨ah,?_⟩,rfl⟩;unfold hZ
 grind
theorem I8{p:dg}(an:p∈kj s):p.bq= .ac s.view.num\/p.bq= .hD s.view.num s.als/\s.als≠ []:=by
 unfold kj at an
 grind
end
def qd(C cN:Int->Prop)(l:List bU):Prop:=∀z∈l,cN z.bI/\¬C z.ka
structure mx(V:aK)(C cN:Int->Prop)(k a b:Nat)(aE:List bU)(l:List dC)(s:Mem):Prop where
 b7:s.status=1
 af:s.hist.length=k
 hF:s.view=V
 a7:yu C s.a7 a b
 aa:∀f∈l,f.bq= .ac V.num->bH V.mem f.src=true->qR s.a7 f.src
 yx:∀z∈aE,z∈s.als
 sub:qd C cN s.als
 hD:∀f∈l,∀L,f.bq= .hD V.num L->∀z∈L,z∈s.als
 gD:∀f∈l,f.bq= .gD->bH V.mem f.src=false->∀z,gB V z=true->z.bI=f.src->z.ka=s.self->z∈s.als
theorem qS{G:jg}{s:Mem}(h:fS G s)(ae:s.status=1):CF G s:=by
 rcases h with h|q|q
 ·exact h
 ·rw[q.eq]at ae;have ae: (0:Int)=1:=ae;omega
 ·have:=q.b7;omega
def Fr(V:aK)(x:Int)(o:List dg):Prop:=∀j∈V.mem,j≠x->∃m:c0,m.kind=6/\m.view=V.num/\(⟨j,.dX m⟩:dg)∈o
variable{V:aK}{x:Int}
theorem NP{o aU:List dg}(h:Fr V x o)(ae:∀p∈o,p∈aU):Fr V x aU:=λj aq aW=>by
 obtain⟨m,h1,ad,aN⟩:=h j aq aW
 grind
section
variable {bz:aK->Int->Prop} {T:Nat} {G:jg} {V:aK} {C cN J:Int->Prop} {iF:c0->Prop} {k a b:Nat} {aE:List bU} {l:List dC} {s t:Mem} {f:dC} {o:List dg}
theorem atk(bf:dt bz T G)(al:gj G s)(cr:mx V C cN k a b aE l s)(ao:CO s f.src J (qd C cN) iF f.bq t o)(aj:¬C f.src)(gU:J f.src->cN f.src)(uw:¬C s.self):mx V C cN k a b aE (l++ [f]) (nM t):=by
 obtain⟨cY,cZ,iN,mm,wY,vr,vt,vu,vv⟩:=cr;have hC:b0 s.view=true:=by rw[al.view];exact(jZ bf al.af).1
 have split:∀ {P:dC->Prop},(∀g∈l,P g)->P f->∀g∈l++ [f],P g:=λh1 ad g aw=>by
  grind
 generalize h5:f.bq=bq at ao;cases ao with
 |no aH h1 ad aN bt=>
  refine⟨cY,cZ,iN,mm,split wY (λe hi=> ?_),vr,vt,split vu (λL e=> ?_),split vv (λe hi=> ?_)⟩;all_goals grind
 |ac h=>
  obtain⟨d1,d2,d3⟩:=ad2 (C:=C) hC al.jK al.a7 aj mm;refine⟨cY,cZ,iN,d1,split (λg aw e hi=>d3 _ (wY g aw e hi)) (λ_ _=>d2),vr,vt,split vu (λL e=> ?_),split vv (λe=> ?_)⟩;all_goals grind
 | @hD L0 h ab=>
  obtain⟨m1,m2⟩:=M5 al.als ab;have hg:∀z,z∈s.als->z∈kV s.als L0 L0.length:=λz bx=>(m2 z).2 (.inl bx);refine⟨cY,cZ,iN,mm,split wY (λe _=> ?_),λz bx=>hg z (vr z bx),λz bx=> ?_,split (λg aw L e z bx=>hg z (vu g aw L e z bx)) (λL e z bx=> ?_),split (λg aw e hi z fk jo v3=>hg z (vv g aw e hi z fk jo v3)) (λe=> ?_)⟩
  ·grind
  ·rcases(m2 z).1 bx with bx|bx
   ·exact vt z bx
   ·exact h z bx
  ·rw[h5]at e;injection e with aC aG;rw[<-aG]at bx;exact(m2 z).2 (.inr bx)
  grind
 |dX h aW aA ae cw s4=>
  refine⟨cY,cZ,iN,mm,split wY (λe _=> ?_),vr,vt,split vu (λL e=> ?_),split vv (λe=> ?_)⟩;all_goals grind
 |gD h ael=>
  have hk:=z1 s f.src;have bC:=z8 s f.src;have I9:=Nw s f.src (l0 s.view.mem s.self f.src).length;have aA:=λz=>UV (y:=f.src) al.als z;have hg:∀z,z∈s.als->z∈ (gZ s f.src).als:=λz bx=>(aA z).2 (.inl bx);have adu: (gZ s f.src).a7=s.a7:=I9.2;have hM:=al.id;unfold nq at hM;simp only[cq,fr]at hM;refine⟨bC.1.trans cY,by show (gZ s f.src).hist.length=k;grind,hk.1.trans iN,by show yu C (gZ s f.src).a7 a b;grind,split (λg aw e hi=>by show qR (gZ s f.src).a7 g.src;grind) (λe _=> ?_),λz bx=>hg z (vr z bx),λz bx=> ?_,
   split (λg aw L e z bx=>hg z (vu g aw L e z bx)) (λL e=> ?_),split (λg aw e hi z fk jo v3=>hg z (vv g aw e hi z fk jo (v3.trans hk.2.1))) (λe hi z fk jo v3=> ?_)⟩
  ·grind
  ·rcases(aA z).1 bx with bx| ⟨⟨r,_,e⟩,_⟩
   ·exact vt z bx
   grind
  ·grind
  ·have v3:z.ka=s.self:=v3.trans hk.2.1;rw[<-iN]at fk;obtain⟨r,ao,e⟩:=asR fk v3 hM;rw[jo]at ao e;exact(aA z).2 (.inr ⟨⟨r,ao,e⟩,fk⟩)
theorem aem(bf:dt bz T G)(c5:fS G s)(cr:mx V C cN k a b aE l s)(bu:f.src≠s.self)(az:oc G f.src f.bq)(pv:kX V k J (qd C cN) iF f.src f.bq)(aj:¬C f.src)(gU:J f.src->cN f.src)(uw:¬C s.self)(Ja:¬bz V s.self):
  (∃m,f.bq= .dX m/\m.view=V.num/\iF m/\eJ V m=true/\m.src=f.src/\(m.kind=4->0<s.agr.aP.aD->s.agr.aP.aD=m.aD->s.agr.aP.cut=m.cut)/\(fm s f.src f.bq).2=h0 s (dB s.agr m).2.1/\
   (((dB s.agr m).1.dec≠ []/\hE C (k+1) 0 0 (fm s f.src f.bq).1/\Fr V s.self (fm s f.src f.bq).2)\/((dB s.agr m).1.dec=[]/\mx V C cN k a b aE (l++ [f]) (fm s f.src f.bq).1/\(fm s f.src f.bq).1.agr=(dB s.agr m).1)))\/
  ((∀m,f.bq= .dX m->m.view<V.num)/\mx V C cN k a b aE (l++ [f]) (fm s f.src f.bq).1/\(fm s f.src f.bq).1.agr=s.agr/\(∀p∈ (fm s f.src f.bq).2,p.da=f.src/\∃v c,p.bq= .hi v c/\c.length=k)/\(f.bq= .gD->∃p∈ (fm s f.src f.bq).2,p.da=f.src/\p.bq= .hi s.first s.hist)):=by
 obtain⟨al,aa,_⟩:=qS c5 cr.b7;have U1:kX s.view s.hist.length J (qd C cN) iF f.src f.bq:=by rw[cr.hF,cr.af];omega
 obtain⟨t,o,e,ao,qc,aen,qI,atl,wq⟩:=aei bf al bu az U1;have z2:=atk bf al cr ao aj gU uw;rw[e];generalize h5:f.bq=bq at ao pv az;cases ao with
 | @dX m h aW aA ae cw s4=>
  left;refine⟨m,rfl,by rw[<-cr.hF];exact aW,h,by rw[<-cr.hF];exact aA,ae,s4,NM rfl rfl _,?_⟩;by_cases dp: (dB s.agr m).1.dec=[]
  ·right;have aG:fl {s with agr:=(dB s.agr m).1}=nM {s with agr:=(dB s.agr m).1}:=yv al.b7 dp;simp only[aG];exact⟨dp,z2,rfl⟩
  ·left;obtain⟨pw,lv⟩:=atc (C:=C) aen qI dp (by show ¬bz s.view s.self;rw[cr.hF];omega);have af: ({s with agr:=(dB s.agr m).1}:Mem).hist.length=k:=cr.af;rw[af]at pw;refine⟨dp,pw,λj aq U2=> ?_⟩;have sj:eJ s.agr.view m=true:=by rw[al.jy];exact aA
   have B4:m.src≠s.agr.self:=by rw[al.nu,ae];omega
   obtain⟨p,an,ff,fB⟩:=ata al.hm al.ia sj B4 aa dp;have vM:=(zN al.hm al.ia cw).2.2.2.2 p an;have G8:=(kB vM.p2).2;refine⟨p.m,fB,by rw[<-cr.hF,<-al.jy];omega,?_⟩;simp only[];rw[NM (s:=s) (t:={s with agr:=(dB s.agr m).1}) rfl rfl];exact CP an ff (by rw[cr.hF];exact aq) U2
 |no aH h1 ad aN bt=>
  right;have aG:fl s=nM s:=yv al.b7 aa;simp only[aG];refine⟨λm em=>by rw[<-cr.hF];grind,z2,rfl,λp an=> ?_,λj7=> ?_⟩
  ·rcases aH with rfl|rfl
   ·cases an
   ·rw[eX.1 an];exact⟨rfl,_,_,rfl,cr.af⟩
  ·rw[(bt j7).2];exact⟨_,eX.2 rfl,rfl,rfl⟩
 |ac h=>
  right;have aG:fl {s with a7:=nH s.a7 f.src}=nM {s with a7:=nH s.a7 f.src}:=yv al.b7 aa;simp only[aG];exact⟨(λm em=>by cases em),z2,rfl,λp an=>(by cases an),λj7=>by cases j7⟩
 | @hD L0 h ab=>
  right;have aG:fl {s with als:=kV s.als L0 L0.length}=nM {s with als:=kV s.als L0 L0.length}:=yv al.b7 aa;simp only[aG];exact⟨(λm em=>by cases em),z2,rfl,λp an=>(by cases an),λj7=>by cases j7⟩
 |gD h ael=>
  right;have hk:=z1 s f.src;have bC:=z8 s f.src;have aG:fl (gZ s f.src)=nM (gZ s f.src):=yv (bC.1.trans al.b7) (by grind);simp only[aG];refine⟨(λm em=>by cases em),z2,bC.2.2.2,λp an=> ?_,λ_=>⟨_,eX.2 rfl,rfl,?_⟩⟩
  ·rw[eX.1 an];exact⟨rfl,_,_,rfl,by rw[hk.2.2.1];exact cr.af⟩
  ·show lj.hi (gZ s f.src).first (gZ s f.src).hist=_
   grind
theorem U3(bf:dt bz T G)(c5:fS G s)(oO:hE C k a b s)(bu:f.src≠s.self)(az:oc G f.src f.bq)(pv:kX s.view k J (λ_=>False) (λ_=>False) f.src f.bq)(aj:¬C f.src)(gU:J f.src->bH s.view.mem f.src=true):
  hE C k a b (fm s f.src f.bq).1/\(fm s f.src f.bq).1.view=s.view/\(f.bq= .ac s.view.num->bH s.view.mem f.src=true->qR (fm s f.src f.bq).1.a7 f.src)/\(∀y,qR s.a7 y->qR (fm s f.src f.bq).1.a7 y)/\
  (∀p∈ (fm s f.src f.bq).2,p.da=f.src/\p.bq= .hi s.first s.hist)/\(f.bq= .gD->∃p∈ (fm s f.src f.bq).2,p.da=f.src/\p.bq= .hi s.first s.hist):=by
 obtain⟨al,aa,_⟩:=qS c5 oO.b7;have U1:kX s.view s.hist.length J (λ_=>False) (λ_=>False) f.src f.bq:=by rw[oO.af];omega
 obtain⟨t,o,e,ao,qc,aen,qI,atl,wq⟩:=aei bf al bu az U1;have hC:b0 s.view=true:=by rw[al.view];exact(jZ bf al.af).1
 rw[e];generalize h5:f.bq=bq at ao;cases ao with
 |dX h=>grind
 |hD h=>grind
 |gD h ael=>
  grind
 |ac h=>
  have aG:fl {s with a7:=nH s.a7 f.src}=nM {s with a7:=nH s.a7 f.src}:=yv al.b7 aa;obtain⟨d1,d2,d3⟩:=ad2 (C:=C) hC al.jK al.a7 aj oO.a7;simp only[aG];exact⟨⟨oO.b7,oO.af,oO.als,oO.agr,d1⟩,rfl,λ_ _=>d2,d3,(λp an=>by cases an),λj7=>by cases j7⟩
 |no aH h1 ad aN bt=>
  have aG:fl s=nM s:=yv al.b7 aa;simp only[aG];refine⟨⟨oO.b7,oO.af,oO.als,oO.agr,oO.a7⟩,rfl,λk5 hi=> ?_,λy bn=>bn,λp an=> ?_,λj7=> ?_⟩
  ·grind
  ·rcases aH with rfl|rfl
   ·cases an
   ·rw[eX.1 an];exact⟨rfl,rfl⟩
  ·rw[(bt j7).2];exact⟨_,eX.2 rfl,rfl,rfl⟩
end
variable{v:aK}
theorem atm{x:Int}(ab:b0 v=true)(hi:bH v.mem x=true):cQ (qN v x)=(qN v x,[]):=by
 have al:=adf ab hi;have az:fX (qN v x):=λe=>by
  have e: (0:Int)=1:=e;omega
 have aC:gO (qN v x)=qN v x:=rfl;have ac:hX v []=true:=by
  unfold hX;rw[ab];rfl
 have hw:ju v []=([],false):=by
  unfold ju;simp
 have aa:hh (qN v x)=[]:=by
  unfold hh;show (bif (ju v []).2 then _ else _)=_;rw[hw];rfl
 have ao:hA (qN v x)=[]:=rfl;rw[Fq al az rfl,aC,ao];unfold dl
 grind
section
variable {bz:aK->Int->Prop} {T:Nat} {G:jg} {V:aK} {C cN:Int->Prop} {k a b b':Nat} {aE:List bU} {l:List dC} {s:Mem}
theorem aeo(ab:b0 V=true)(aa:pZ V s.self s.a7)(h:∀y∈V.mem,y≠s.self->s.self∈cv V.mem y->¬C y->qR s.a7 y):∀e∈s.a7.bN,¬C e.bI->e.mn=true:=λe he aj=>by
 obtain⟨h1,ad,aN⟩:=Tt _ (UU aa he);exact h _ h1 ad aN aj e he rfl
theorem U4(bf:dt bz T G)(al:gj G s)(cr:mx V C cN k a b aE l s)(ac:b+1<=b'\/(b<=b'/\∀y∈V.mem,y≠s.self->s.self∈cv V.mem y->¬C y->qR s.a7 y))(aN:b'<=3)(uw:¬C s.self)(aep:∀y,C y->y∈V.mem->cN y):
  qd C cN (b1 s).als/\yu C (cR s.a7).1 (a+1) b'/\(a+1=10->∀e∈s.a7.bN,C e.bI->(⟨s.view.num,e.ev,s.self,e.bI⟩:bU)∈ (cR s.a7).2):=by
 have hC:b0 s.view=true:=by rw[al.view];exact(jZ bf al.af).1
 have cy:b+1<=b'\/(b<=b'/\∀e∈s.a7.bN,¬C e.bI->e.mn=true):=by
  rcases ac with ac| ⟨ac,bC⟩
  ·omega
  ·refine .inr ⟨ac,aeo hC al.a7 ?_⟩;rw[cr.hF];exact bC
 obtain⟨d1,d2,d3⟩:=ad3 hC al.jK al.a7 cr.a7 cy aN;obtain⟨m1,m2,m3⟩:=NJ al.als;refine⟨λz bx=> ?_,d1,d3⟩;have awC:∀y∈ (cR s.a7).2,cN y.bI:=λy bn=>by
  obtain⟨fF,_,_,e,he,es⟩:=d2 y bn;have:=(Tt _ (UU al.a7 he)).1;rw[cr.hF]at this
  grind
 rcases m3 z bx with h|h| ⟨h,y,bn,e⟩
 ·exact cr.sub z h
 ·grind
 ·refine⟨?_,by grind⟩;rw[<-e];rcases bn with bn|bn
  ·exact(cr.sub y bn).1
  grind
theorem atn(bf:dt bz T G)(c5:fS G s)(cr:mx V C cN k a b aE l s)(ay:s.hist.length<T)(dd:mw bz s)(ac:b+1<=b'\/(b<=b'/\∀y∈V.mem,y≠s.self->s.self∈cv V.mem y->¬C y->qR s.a7 y))(aN:b'<=3)
  (uw:¬C s.self) (Ja:¬bz V s.self) (aep:∀y,C y->y∈V.mem->cN y):
  ((cQ (eC s).1).1.dec≠ []/\hE C (k+1) 0 0 (fy s).1/\Fr V s.self (fy s).2/\(fy s).2=h0 s (eC s).2++h0 s (cQ (eC s).1).2)\/
  ((cQ (eC s).1).1.dec=[]/\mx V C cN k (a+1) b' s.als [] (fy s).1/\(fy s).1.agr=(cQ (eC s).1).1/\(fy s).2=h0 s (eC s).2++h0 s (cQ (eC s).1).2++kj (fy s).1/\(fy s).1.als=(b1 s).als/\
   (a+1=10->∀z,gB V z=true->C z.bI->z.bI∈V.mem->z.ka=s.self->z∈ (fy s).1.als)):=by
 obtain⟨al,aa,_⟩:=qS c5 cr.b7;have hC:b0 s.view=true:=by rw[al.view];exact(jZ bf al.af).1
 obtain⟨cU,dh,hR,hL,nk,qG⟩:=qL s;obtain⟨yr,nC,kW⟩:=NN bf al ay dd;by_cases dp: (cQ (eC s).1).1.dec=[]
 ·right;obtain⟨nU,d1,d3⟩:=U4 bf al cr ac aN uw aep;obtain⟨m1,m2,m3⟩:=NJ al.als;have I9:=(Uw s).2;have Jb:=aek al.b7 dp;clear nC kW;generalize cQ (eC s).1=X at *;generalize(eC s).2=Q at *;rw[Jb];generalize b1 s=S1 at *;refine⟨dp,⟨nk.trans cr.b7,by show S1.hist.length=k;rw[hR];exact cr.af,cU.trans cr.hF,by grind,(λf az=>by cases az),m1,nU,(λf az=>by cases az),(λf az=>by cases az)⟩,rfl,rfl,rfl,λbb z fk jo v3 v4=> ?_⟩;have bu:z.bI≠s.self:=λe=>uw (e▸jo);rw[<-cr.hF]at fk v3;obtain⟨e,he,awD⟩:=asP hC al.jK al.a7 fk v4 v3 bu
  grind
 ·left;obtain⟨pw,lv⟩:=ati (C:=C) bf al ay dd dp (by rw[cr.hF];omega);rw[cr.af]at pw;refine⟨dp,pw,λj aq U2=> ?_,lv⟩;obtain⟨p,an,ff,fB,_⟩:=asv kW.hm kW.ia dp;have G8:=(kB ((EO kW.hm kW.ia).2.2.2.2 p an).p2).2;have fK: (eC s).1.view=s.view:=kW.jy.trans cU;refine⟨p.m,fB,by rw[<-cr.hF,<-fK];omega,?_⟩;rw[lv];exact mW _ (CP an ff (by rw[cr.hF];exact aq) U2)
theorem ato(h: (b1 s).als=[]):eC s=(s.agr,[]):=by
 have: (dm s.view (b1 s).als).2=false:=by
  cases aj: (dm s.view (b1 s).als).2
  ·rfl
  ·obtain⟨z,bx,_⟩:=aeb aj
   grind
 unfold eC
 grind
theorem Jc(bf:dt bz T G)(c5:fS G s)(oO:hE C k a b s)(ac:b+1<=b'\/(b<=b'/\∀y∈s.view.mem,y≠s.self->s.self∈cv s.view.mem y->¬C y->qR s.a7 y))(aN:b'<=3)
  (bV:a+1<10\/∀y∈s.view.mem,¬C y):mw bz s/\hE C k (a+1) b' (fy s).1/\(fy s).1.view=s.view/\(fy s).1.self=s.self/\(fy s).2=kj (fy s).1:=by
 obtain⟨al,aa,_⟩:=qS c5 oO.b7;have hC:b0 s.view=true:=by rw[al.view];exact(jZ bf al.af).1
 obtain⟨cU,dh,hR,hL,nk,qG⟩:=qL s;have cy:b+1<=b'\/(b<=b'/\∀e∈s.a7.bN,¬C e.bI->e.mn=true):=by
  rcases ac with ac| ⟨ac,bC⟩
  ·omega
  ·exact .inr ⟨ac,aeo hC al.a7 bC⟩
 obtain⟨d1,d2,d3⟩:=ad3 hC al.jK al.a7 oO.a7 cy aN;have awE:∀z,z∉ (cR s.a7).2:=λz bx=>by
  obtain⟨fF,eR,_,e,he,es⟩:=d2 z bx;rcases bV with bV|bV
  ·omega
  ·exact bV _ (Tt _ (UU al.a7 he)).1 (by grind)
 obtain⟨m1,m2,m3⟩:=NJ al.als;have Fs: (b1 s).als=[]:=by
  cases h: (b1 s).als with
  |nil=>rfl
  |cons z l=>
   exfalso;have bx:z∈ (b1 s).als:=by grind
   rw[oO.als]at m3
   grind
 have an:=ato Fs;have cH:cQ (eC s).1=(qN s.view s.self,[]):=by
  rw[an,oO.agr];exact atm hC al.jK
 have dp: (cQ (eC s).1).1.dec=[]:=by rw[cH];rfl
 refine⟨λ_ cw=> ?_,?_⟩
 ·obtain⟨z,bx,_⟩:=aeb cw
  grind
 ·have Jb:=aek al.b7 dp;have I9:=(Uw s).2;rw[cH,an]at Jb;rw[Jb];clear an cH dp Jb m1 m2 m3;generalize b1 s=S1 at *;exact⟨⟨nk.trans oO.b7,by show S1.hist.length=k;rw[hR];exact oO.af,Fs,by grind,by grind⟩,cU,dh,rfl⟩
end
structure oe(bz:aK->Int->Prop)(v0:aK)(aJ:List Int)(au:List Bool)(T:Nat)(Ms:List Mem)(aL:List dC):Prop where
 g:∃G,G.v0=v0/\lF bz T G Ms aL
 aJ:Ms.map (·.self)=aJ
 qw:au.length=Ms.length
 aeq:Ms.length<=8
 jY:mT Ms+kI aL<=10800*Ms.length+80000*T
 src:∀f∈aL,∃i,∃hi:i<Ms.length,au.getD i true=false/\Ms[i].self=f.src
def cx(Ms:List Mem)(i:Nat):Mem:=Ms.getD i du
def cB(aJ:List Int)(au:List Bool)(i:Nat):Prop:=i<aJ.length/\au.getD i true=false
def ba(aJ:List Int)(i:Nat):Int:=aJ.getD i 0
section
variable {bz:aK->Int->Prop} {v0:aK} {aJ:List Int} {au:List Bool} {T:Nat} {Ms:List Mem} {aL:List dC} {cb:Int->Int->Bool}
theorem ux(h:oe bz v0 aJ au T Ms aL):aJ.length=Ms.length:=by rw[<-h.aJ,bF]
theorem og(h:oe bz v0 aJ au T Ms aL){i:Nat}(hi:i<Ms.length):Ms[i].self=ba aJ i:=by
 unfold ba;rw[<-h.aJ]
 grind
theorem Ft{i:Nat}(hi:i<Ms.length):cx Ms i=Ms[i]:=by simp[cx,hi]
theorem U5(iE:∀a b,cb a b=false)(h:oe bz v0 aJ au T Ms aL)(ay:T+1<=399)
  {I:Nat->Mem->List dC->List dg->Prop} {Q:Nat->Mem->List dg->Prop} (aR:∀i,cB aJ au i->I i (cx Ms i) [] [])
  (ae:∀i,cB aJ au i->∀s l o f bk,bk.v0=v0->dt bz T bk->fS bk s->s.self=ba aJ i->f∈aL->f.dst=s.self->f.src≠s.self->oc bk f.src f.bq->(∃j,cB aJ au j/\f.src=ba aJ j)->I i s l o->I i (fm s f.src f.bq).1 (l++ [f]) (o++(fm s f.src f.bq).2))
  (an:∀i,cB aJ au i->∀s l o bk,bk.v0=v0->dt bz T bk->fS bk s->s.self=ba aJ i->(∀f∈aL,f.dst=s.self->f∈l)->I i s l o->mw bz s)
  (cH:∀i,cB aJ au i->∀s l o bk,bk.v0=v0->dt bz (T+1) bk->fS bk s->s.hist.length<T+1->s.self=ba aJ i->(∀f∈aL,f.dst=s.self->f∈l)->I i s l o->mw bz s->Q i (fy s).1 (o++(fy s).2)):
  vN cb au Ms aL/\oe bz v0 aJ au (T+1) (cJ cb au Ms aL).1 (cJ cb au Ms aL).2/\
  ∃O:Nat->List dg,(∀i,cB aJ au i->Q i (cx (cJ cb au Ms aL).1 i) (O i))/\
   ∀f,f∈ (cJ cb au Ms aL).2↔∃i,cB aJ au i/\∃p∈O i,f=l1 (ba aJ i) p:=by
 obtain⟨G,EC,dI⟩:=h.g;have af:=ux h;have hg:∀ {i:Nat},i<Ms.length->au.getD i true=false->cB aJ au i:=λhi aa=>⟨by omega,aa⟩;obtain⟨dE,⟨bk,e',dL⟩,eY,iI,j0,Jd,O,atp,atq⟩:=asI (cb:=cb) (au:=au) (I:=I) (Q:=Q) iE h.qw h.aeq dI ay h.jY (λf az=>by
   obtain⟨i,hi,_,e⟩:=h.src f az
   grind)
  (λi hi aa=>by
   have:=aR i (hg hi aa);rw[Ft hi]at this;omega)
  (λi hi aa s l o f bk aC aG bc cn eu iH mt pq se=>by
   obtain⟨j,aq,Je,j7⟩:=h.src f eu;exact ae i (hg hi aa) s l o f bk (aC.trans EC) aG bc (cn.trans (og h hi)) eu iH mt pq ⟨j,hg aq Je,by rw[<-j7];exact og h aq⟩ se)
  (λi hi aa s l o bk aC aG bc cn eu iH=>an i (hg hi aa) s l o bk (aC.trans EC) aG bc (cn.trans (og h hi)) eu iH)
  (λi hi aa s l o bk aC aG bc cn eu iH mt pq=>cH i (hg hi aa) s l o bk (aC.trans EC) aG bc cn (eu.trans (og h hi)) iH mt pq)
 refine⟨dE,⟨⟨bk,e'.trans EC,dL⟩,j0.trans h.aJ,by rw[eY];exact h.qw,by rw[eY];exact h.aeq,by grind,λf az=> ?_⟩,O,λi hi=>atp i (by have:=hi.1;omega) hi.2,λf=> ?_⟩
 ·obtain⟨i,hi,aa,e⟩:=Jd f az;have df:i<(cJ cb au Ms aL).1.length:=by omega
  exact⟨i,df,aa,(UR j0 df hi).trans e⟩
 ·rw[atq f];constructor
  ·rintro⟨i,hi,aa,p,iQ,e⟩;exact⟨i,hg hi aa,p,iQ,by rw[e,og h hi]⟩
  ·rintro⟨i,hi,p,iQ,e⟩;have df:i<Ms.length:=by have:=hi.1;omega
   exact⟨i,df,hi.2,p,iQ,by rw[e,og h df]⟩
end
structure Aj(bz:aK->Int->Prop)(C cN J:Int->Prop)(v0 V:aK)(k:Nat)(aJ:List Int)(au:List Bool)(bM:Int):Prop where
 up:∀i,cB aJ au i->¬C (ba aJ i)/\(ba aJ i≠bM->¬bz V (ba aJ i))
 all:∀y∈V.mem,¬C y->∃i,cB aJ au i/\ba aJ i=y/\y≠bM
 num:V.num=v0.num+k
 l2:b0 V=true
 mc:∀y,cN y->bz V y
 cs:∀y,C y->y∈V.mem->cN y
 px:∀y,J y->cN y/\y∉V.mem/\k=0/\V=v0/\∀z,bz V z->z=y
structure vO(C cN J:Int->Prop)(V:aK)(k:Nat)(aJ:List Int)(au:List Bool)(bM:Int)(α:Nat)(iF:c0->Prop)(Ms:List Mem)(aL:List dC):Prop where
 m:∀i,cB aJ au i->ba aJ i≠bM->∃a b,(a=α\/a=α+1)/\b<=3/\mx V C cN k a b [] [] (cx Ms i)/\(10<=a->∀z,gB V z=true->C z.bI->z.bI∈V.mem->z.ka=ba aJ i->z∈ (cx Ms i).als)
 im:∀f∈aL,kX V k J (qd C cN) iF f.src f.bq
 ac:∀i j,cB aJ au i->cB aJ au j->ba aJ i≠bM->ba aJ j≠bM->ba aJ i∈cv V.mem (ba aJ j)->∃f∈aL,f.src=ba aJ j/\f.dst=ba aJ i/\f.bq= .ac V.num
 hD:∀i j,cB aJ au i->cB aJ au j->ba aJ i≠bM->ba aJ j≠bM->ba aJ i≠ba aJ j->(cx Ms i).als≠ []->∃f∈aL,f.src=ba aJ i/\f.dst=ba aJ j/\f.bq= .hD V.num (cx Ms i).als
def Jf(V:aK)(k:Nat)(J:Int->Prop)(mU:List bU->Prop)(src:Int):lj->Prop
 | .ac n=>n<=V.num+1
 | .hD n l=>n<V.num\/(n=V.num/\mU l)
 | .dX m=>m.view<=V.num
 | .hi _ c=>c.length<=k+1
 | .gD=>J src
structure Fu(C cN J:Int->Prop)(V:aK)(k:Nat)(aJ:List Int)(au:List Bool)(bM:Int)(β:Nat)(Ms:List Mem)(aL:List dC):Prop where
 m:∀i,cB aJ au i->ba aJ i≠bM->((∃a b,mx V C cN k a b [] [] (cx Ms i)/\b<=3)/\∃f∈aL,f.dst=ba aJ i/\∃m,f.bq= .dX m/\m.kind=6/\m.view=V.num)\/∃a b,hE C (k+1) a b (cx Ms i)/\a<=β/\b<=β
 eg:∃i,cB aJ au i/\ba aJ i≠bM/\∃a b,hE C (k+1) a b (cx Ms i)/\a<=β/\b<=β
 im:∀f∈aL,Jf V k J (qd C cN) f.src f.bq
structure NQ(bz:aK->Int->Prop)(C cN:Int->Prop)(V:aK)(k:Nat)(aJ:List Int)(au:List Bool)(bM:Int)(iF uy:c0->Prop)(Ms:List Mem)(aL:List dC)(uv:Nat->List dC->bj->List dg->Prop)(Ah:Nat->Mem->bj->List dg->Prop):Prop where
 a0:∀i,cB aJ au i->ba aJ i≠bM->uv i [] (cx Ms i).agr []
 atr:∀i l s o f aU,uv i l s o->(∀m,f.bq= .dX m->m.view<V.num)->(∀p∈aU,∃v c,p.bq= .hi v c)->uv i (l++ [f]) s (o++aU)
 ats:∀i,cB aJ au i->ba aJ i≠bM->∀ (s:Mem) l o f m,c1 s.agr->fX s.agr->s.agr.view=V->s.agr.self=ba aJ i->s.view=V->s.self=ba aJ i->s.agr.dec=[]->uv i l s.agr o->f∈aL->f.bq= .dX m->m.view=V.num->iF m->eJ V m=true->m.src=f.src->m.src≠ba aJ i->
  (m.kind=4->0<s.agr.aP.aD->s.agr.aP.aD=m.aD->s.agr.aP.cut=m.cut)->(dB s.agr m).1.dec=[]->uv i (l++ [f]) (dB s.agr m).1 (o++h0 s (dB s.agr m).2.1)
 dX:∀i l s o,uv i l s o->∀p∈o,∀m,p.bq= .dX m->uy m
 att:∀i,cB aJ au i->ba aJ i≠bM->∀ (s:Mem) l o,s.view=V->s.self=ba aJ i->dF V s.als=true->qd C cN (b1 s).als->(∀z∈ (cx Ms i).als,z∈s.als)->(∀z∈s.als,z∈ (b1 s).als)->(∀f∈l,∀L,f.bq= .hD V.num L->∀z∈L,z∈s.als)->(∀f∈aL,f.dst=ba aJ i->f∈l)->uv i l s.agr o->c1 s.agr->fX s.agr->s.agr.view=V->s.agr.self=ba aJ i->s.agr.dec=[]->
  (∀x∈s.agr.aQ,∀y∈s.agr.aQ,x.aD=y.aD->x.cut=y.cut)->c1 (eC s).1->fX (eC s).1->(eC s).1.view=V->(eC s).1.self=ba aJ i->(cQ (eC s).1).1.dec=[]->Ah i s (cQ (eC s).1).1 (o++(h0 s (eC s).2++h0 s (cQ (eC s).1).2))/\∀p∈ (eC s).2++(cQ (eC s).1).2,uy p.m
section
variable {bz:aK->Int->Prop} {C cN J:Int->Prop} {v0 V:aK} {aJ:List Int} {au:List Bool} {T k α:Nat} {bM:Int} {Ms:List Mem} {aL:List dC} {cb:Int->Int->Bool} {iF uy:c0->Prop} {G:jg} {s:Mem} {a b b':Nat} {aE:List bU} {l:List dC}
theorem U6(h:mx V C cN k a b aE l s):mx V C cN k a b [] [] s:=⟨h.b7,h.af,h.hF,h.a7,(λf az=>by cases az),(λz bx=>by cases bx),h.sub,(λf az=>by cases az),(λf az=>by cases az)⟩
theorem atu(h:mx V C cN k a b [] [] s):mx V C cN k a b s.als [] s:=⟨h.b7,h.af,h.hF,h.a7,(λf az=>by cases az),(λz bx=>bx),h.sub,(λf az=>by cases az),(λf az=>by cases az)⟩
theorem atv(al:gj G s):∀p∈ (eC s).2,eJ s.view p.m=true:=λp an=>by
 unfold eC at an;cases aj:decide ((s.agr.prop.length:Int)=0)&& (dm s.view (b1 s).als).2&&decide ((eK s.agr (dm s.view (b1 s).als).1).2.2=0)
 ·grind
 ·rw[aj,bY]at an;rw[cq]at aj;have:=((SZ al.hm al.ia (fi aj.2)).2.2.2.2 p an).p2;rw[al.jy]at this;omega
theorem atw(bf:dt bz T G)(al:gj G s)(ay:s.hist.length<T)(dd:mw bz s):∀p∈ (cQ (eC s).1).2,eJ s.view p.m=true:=λp an=>by
 obtain⟨yr,nC,kW⟩:=NN bf al ay dd;have:=((EO kW.hm kW.ia).2.2.2.2 p an).p2;have fK: (eC s).1.view=s.view:=kW.jy.trans (qL s).1
 grind
theorem atx(bf:dt bz T G)(al:gj G s):∀x∈s.agr.aQ,∀y∈s.agr.aQ,x.aD=y.aD->x.cut=y.cut:=λx ah y bn e=>by
 have gy:=bf.qO _ al.af;have Hj:=al.qP.dP.aQ x ah;have hf:=al.qP.dP.aQ y bn;rw[e]at Hj;exact gy.fF _ _ _ (gy.cP _ _ _ Hj).1 (gy.cP _ _ _ hf).1
theorem NR(bf:dt bz T G)(al:gj G s):s.view.num=G.v0.num+s.hist.length:=by
 rw[al.view];exact(jZ bf al.af).2
theorem aer(aj:Aj bz C cN J v0 V k aJ au bM)(bf:dt bz T G)(fw:G.v0=v0)(al:gj G s)(af:s.hist.length=k+1){y:Int}(bn:J y):bH s.view.mem y=true:=by
 obtain⟨dj,dM,gJ,eG,n9⟩:=aj.px y bn;subst gJ;have ax:0<G.D.length:=by
  have:=al.af;omega
 have pP:=(s3 (jZ bf (k:=0) (by omega)).1).1;have jf:=bf.dec 0 ax;have dd:=H2 pP (bf.qO 0 (by omega)) jf;have nU:=bf.Ac 0 (by omega) _ dd;have hy: (dJ (eV G 0) (G.D.getD 0 [])).2=0:=fi (bf.oa.2 0 ax);have bu:G.D.getD 0 []≠ []:=wZ (v:=eV G 0) (ep hy);have ab:s.view=(dJ (eV G 0) (G.D.getD 0 [])).1:=by
  rw[al.view,af];rfl
 have aty:y∈G.D.getD 0 []:=by
  cases rY:G.D.getD 0 []with
  |nil=>grind
  |cons z m=>
   have:=nU z (by grind);rw[show eV G 0=V from fw.trans eG.symm]at this
   grind
 rw[ab];refine gz.2 (((Fc hy).2.2 y).2 (.inr ⟨aty,?_⟩));have:eV G 0=v0:=fw
 grind
theorem aes(aj:Aj bz C cN J v0 V k aJ au bM)(dk:vO C cN J V k aJ au bM α iF Ms aL){i:Nat}(hi:cB aJ au i)(ah:ba aJ i≠bM)(ae:s.self=ba aJ i)(af:∀f∈aL,f.dst=s.self->f∈l)(cr:mx V C cN k a b aE l s):∀y∈V.mem,y≠s.self->s.self∈cv V.mem y->¬C y->qR s.a7 y:=λy bn _ aH Jg=>by
 obtain⟨j,aq,j7,kl⟩:=aj.all y bn Jg;rw[ae,<-j7]at aH;obtain⟨f,az,f1,f2,f3⟩:=dk.ac i j hi aq ah (by omega) aH;have:=cr.aa f (af f az (f2.trans ae.symm)) f3 (gz.2 (by grind))
 grind
theorem atz{W:aK}(aW:W.num=V.num+1){J:Int->Prop}{mU:List bU->Prop}{src:Int}{f:lj}(h:kX V k J mU iF src f):kX W (k+1) J (λ_=>False) (λ_=>False) src f:=by
 cases f with
 |ac n=>
  have h:n<=V.num:=h;show n<=W.num;omega
 |hD n l=>
  left;rcases h with h|h<;>omega
 |dX m=>
  left;rcases h with h|h<;>omega
 |hi v c=>exact OI h
 |gD=>exact h
def aet(V:aK)(iF:c0->Prop)(k:Nat)(o:List dg):Prop:=∀p∈o,(∃m,p.bq= .dX m/\m.view=V.num/\iF m)\/∃v c,p.bq= .hi v c/\c.length<=k
theorem Jh(iE:∀a b,cb a b=false)(dI:oe bz v0 aJ au T Ms aL)(ay:T+1<=399)(aj:Aj bz C cN J v0 V k aJ au bM)(dk:vO C cN J V k aJ au bM α iF Ms aL)
  {uv:Nat->List dC->bj->List dg->Prop} {Ah:Nat->Mem->bj->List dg->Prop} (b4:NQ bz C cN V k aJ au bM iF uy Ms aL uv Ah) {jh:Mem->List dC->List dg->Prop} {my:Mem->List dg->Prop}
  (uz:∀i,cB aJ au i->ba aJ i=bM->jh (cx Ms i) [] [])
  (px:∀i,cB aJ au i->ba aJ i=bM->∀s l o f bk,bk.v0=v0->dt bz T bk->fS bk s->s.self=bM->f∈aL->f.dst=s.self->oc bk f.src f.bq->jh s l o->jh (fm s f.src f.bq).1 (l++ [f]) (o++(fm s f.src f.bq).2))
  (jp:∀s l o,jh s l o->s.status=0)
  (tg:∀i,cB aJ au i->ba aJ i=bM->∀s l o,(∀f∈aL,f.dst=bM->f∈l)->jh s l o->my (fy s).1 (o++(fy s).2))
  (uA:∀s o,my s o->∀p∈o,p.bq= .gD) (vP:∀i,cB aJ au i->ba aJ i=bM->J bM) {β:Nat} (U7:β<=1/\((∃m,iF m)->β=1)):
  vN cb au Ms aL/\oe bz v0 aJ au (T+1) (cJ cb au Ms aL).1 (cJ cb au Ms aL).2/\
  ∃O:Nat->List dg,(∀f,f∈ (cJ cb au Ms aL).2↔∃i,cB aJ au i/\∃p∈O i,f=l1 (ba aJ i) p)/\(∀i,cB aJ au i->ba aJ i=bM->my (cx (cJ cb au Ms aL).1 i) (O i))/\
   ((vO C cN J V k aJ au bM (α+1) uy (cJ cb au Ms aL).1 (cJ cb au Ms aL).2/\∀i,cB aJ au i->ba aJ i≠bM->∃s o,Ah i s (cx (cJ cb au Ms aL).1 i).agr o/\(cx (cJ cb au Ms aL).1 i).als=(b1 s).als/\(∀p∈o,p∈O i)/\((∃f∈aL,f.src=bM/\f.dst=ba aJ i/\f.bq= .gD)->(∃v c,(⟨bM,.hi v c⟩:dg)∈O i)/\∀z,gB V z=true->z.bI=bM->z.ka=ba aJ i->z∈ (cx (cJ cb au Ms aL).1 i).als))\/
    Fu C cN J V k aJ au bM β (cJ cb au Ms aL).1 (cJ cb au Ms aL).2):=by
 have CQ:∀ {f:dC},(∃j,cB aJ au j/\f.src=ba aJ j)->¬C f.src:=λ⟨j,aq,e⟩=>by
  rw[e];exact(aj.up j aq).1
 have U8:∀y,J y->cN y:=λy bn=>(aj.px y bn).1;have ND:∀ {s:Mem} {G:jg},gj G s->s.view=V->qd C cN (b1 s).als->mw bz s:=λ{s G} al hC ae _ _ y bn=>by
  have oF: (b1 s).view=V:=(qL s).1.trans hC;have ab:=IS al.als;rw[<-(qL s).1]at ab;obtain⟨z,bx,e⟩:=asV ab y bn;rw[<-e];have um:=aj.mc _ (ae z bx).1
  grind
 have W:=U5 (cb:=cb) (aL:=aL) iE dI ay
  (I:=λi s l o=>(ba aJ i=bM->jh s l o)/\(ba aJ i≠bM->
   (∃a b,(a=α\/a=α+1)/\b<=3/\(10<=a->∀z,gB V z=true->C z.bI->z.bI∈V.mem->z.ka=ba aJ i->z∈ (cx Ms i).als)/\mx V C cN k a b (cx Ms i).als l s/\uv i l s.agr o/\aet V uy k o/\(∀f∈l,f.bq= .gD->f.src=bM->∃v c,(⟨bM,.hi v c⟩:dg)∈o))\/
   ((∃m,iF m)/\hE C (k+1) 0 0 s/\Fr V (ba aJ i) o/\aet V (λ_=>True) (k+1) o)))
  (Q:=λi s o=>(ba aJ i=bM->my s o)/\(ba aJ i≠bM->
   (∃a b,(a=α+1\/a=α+2)/\b<=3/\(10<=a->∀z,gB V z=true->C z.bI->z.bI∈V.mem->z.ka=ba aJ i->z∈s.als)/\mx V C cN k a b [] [] s/\s.self=ba aJ i/\(∃fq re,Ah i fq s.agr re/\s.als=(b1 fq).als/\(∀p∈re,p∈o)/\((∃f∈aL,f.src=bM/\f.dst=ba aJ i/\f.bq= .gD)->(∃v c,(⟨bM,.hi v c⟩:dg)∈o)/\∀z,gB V z=true->z.bI=bM->z.ka=ba aJ i->z∈s.als))/\(∀p∈kj s,p∈o)/\∀p∈o,p∈kj s\/(∃m,p.bq= .dX m/\m.view=V.num/\uy m)\/∃v c,p.bq= .hi v c/\c.length<=k)\/
   (∃a b,hE C (k+1) a b s/\a<=β/\b<=β/\Fr V (ba aJ i) o/\∀p∈o,Jf V k J (qd C cN) (ba aJ i) p.bq)))
 replace W:=W (λi hi=>by
  refine⟨λah=>uz i hi ah,λah=> ?_⟩;obtain⟨a,b,dj,dM,gJ,eG⟩:=dk.m i hi ah;exact .inl ⟨a,b,dj,dM,eG,atu gJ,b4.a0 i hi ah,(λp an=>by cases an),λf az=>by cases az⟩)
 replace W:=W (λi hi s l o f bk fw bf c5 ae az mh bu h5 ix cp=>by
  refine⟨λah=>px i hi ah s l o f bk fw bf c5 (ae.trans ah) az mh h5 (cp.1 ah),λah=> ?_⟩;have pv:=dk.im f az;have hg:=aj.up i hi;rcases cp.2 ah with⟨a,b,dj,dM,gJ,eG,n9,uB,Ak⟩| ⟨qH,dj,dM,gJ⟩
  ·obtain⟨al,aa,_⟩:=qS c5 eG.b7;rcases aem bf c5 eG bu h5 pv (CQ ix) (U8 _) (by grind) (by grind)with⟨m,m1,m2,m3,oG,m5,m6,m7,⟨m8,m9,m10⟩| ⟨m8,m9,m10⟩⟩| ⟨m1,m2,m3,oG,m5⟩
   ·right;rw[ae]at m10;refine⟨⟨m,m3⟩,m9,NP m10 (λp an=>mW _ an),λp an=> ?_⟩;rcases eo.1 an with an|an
    ·rcases uB p an with⟨ei,e,h1,_⟩| ⟨v,c,e,h1⟩;all_goals grind
    ·rw[m7]at an;obtain⟨q,bV,x,_,rfl⟩:=yw.1 an;have cw: (dB s.agr m).2.2=0:=(UY al.hm al.ia (by rw[al.jy,eG.hF];exact oG) (by rw[al.nu,m5];omega))
     have:=(kB ((zN al.hm al.ia cw).2.2.2.2 q bV).p2).2;rw[al.jy,eG.hF]at this
     grind
   ·left;have fK:s.agr.view=V:=al.jy.trans eG.hF;have atA:=b4.ats i hi ah s l o f m al.hm al.ia fK (al.nu.trans ae) eG.hF ae aa n9 az m1 m2 m3 oG m5 (by grind) m6 m8;refine⟨a,b,dj,dM,gJ,m9,by grind,λp an=> ?_,λg aw e es=> ?_⟩
    ·have gk:=b4.dX i _ _ _ atA;rw[m7]at an;rcases eo.1 an with iQ|iQ
     ·exact uB p iQ
     ·obtain⟨q,bV,x,_,rfl⟩:=yw.1 iQ;have cw: (dB s.agr m).2.2=0:=(UY al.hm al.ia (by grind) (by rw[al.nu,m5];omega))
      have:=(kB ((zN al.hm al.ia cw).2.2.2.2 q bV).p2).2
      grind
    grind
   ·left;refine⟨a,b,dj,dM,gJ,m2,by rw[m3];exact b4.atr i l s.agr o f _ n9 m1 (λp an=>by
     grind),λp an=> ?_,λg aw e es=> ?_⟩
    ·rcases eo.1 an with an|an
     ·exact uB p an
     grind
    ·rcases eo.1 aw with aw|aw
     ·grind
     ·rw[eX.1 aw]at e es;obtain⟨p,an,ff,fB⟩:=m5 e;refine⟨s.first,s.hist,mW _ ?_⟩;have:p= ⟨bM,.hi s.first s.hist⟩:=by
       obtain⟨aeu,aev⟩:=p
       grind
      grind
  ·right;obtain⟨al,_⟩:=qS c5 dj.b7;have aW:s.view.num=V.num+1:=by
    have:=NR bf al;rw[dj.af,fw]at this;have:=aj.num;omega
   obtain⟨pw,lv,py,yy,u6,NS⟩:=U3 (J:=J) bf c5 dj bu h5 (atz aW pv) (CQ ix) (λaq=>aer aj bf fw al dj.af aq);refine⟨qH,pw,NP dM (λp an=>C6 _ an),λp an=> ?_⟩;rcases eo.1 an with an|an
   ·exact gJ p an
   ·exact .inr ⟨_,_,(u6 p an).2,JE dj.af⟩)
 replace W:=W (λi hi s l o bk fw bf c5 ae af cp=>by
  by_cases ah:ba aJ i=bM
  ·intro b3
   grind
  ·rcases cp.2 ah with⟨a,b,dj,dM,gJ,eG,n9,uB,Ak⟩| ⟨qH,dj,dM,gJ⟩
   ·obtain⟨al,aa,_⟩:=qS c5 eG.b7;exact ND al eG.hF (U4 bf al eG (.inr ⟨bP b,aes aj dk hi ah ae af eG⟩) dM (by rw[ae];exact(aj.up i hi).1) aj.cs).1
   ·exact(Jc (b':=1) bf c5 dj (.inl (bP _)) (by decide) (.inl (by decide))).1)
 replace W:=W (λi hi s l o bk fw bf c5 Fv ae af cp dd=>by
  refine⟨λah=>tg i hi ah s l o (λf az mh=>af f az (by omega)) (cp.1 ah),λah=> ?_⟩;have hg:=aj.up i hi;rcases cp.2 ah with⟨a,b,dj,dM,gJ,eG,n9,uB,Ak⟩| ⟨qH,dj,dM,gJ⟩
  ·obtain⟨al,aa,_⟩:=qS c5 eG.b7;have aew:=aes aj dk hi ah ae af eG;have ya:∀p∈h0 s (eC s).2++h0 s (cQ (eC s).1).2,∃m,p.bq= .dX m/\m.view=V.num/\∃q∈ (eC s).2++(cQ (eC s).1).2,q.m=m:=λp an=>by
    rcases eo.1 an with an|an
    ·obtain⟨q,bV,x,_,rfl⟩:=yw.1 an;have:=(kB (atv al q bV)).2;rw[eG.hF]at this
     grind
    ·obtain⟨q,bV,x,_,rfl⟩:=yw.1 an;have:=(kB (atw bf al Fv dd q bV)).2;rw[eG.hF]at this
     grind
   rcases atn bf c5 eG Fv dd (.inr ⟨bP b,aew⟩) dM (by grind) (by grind) aj.cs with⟨t1,t2,t3,t4⟩| ⟨t1,t2,t3,t4,t5,t6⟩
   ·right;rw[ae]at t3;refine⟨0,0,t2,bX _,bX _,NP t3 (λp an=>mW _ an),λp an=> ?_⟩;rcases eo.1 an with an|an
    ·rcases uB p an with⟨m,e,h1,_⟩| ⟨v,c,e,h1⟩
     ·rw[e];exact FG h1
     ·rw[e];exact OI h1
    ·rw[t4]at an;obtain⟨m,e,h1,_⟩:=ya p an;rw[e];exact FG h1
   ·left;obtain⟨yr,nC,kW⟩:=NN bf al Fv dd;obtain⟨cU,dh,hR,hL,nk,qG⟩:=qL s;have nU:=(U4 bf al eG (.inr ⟨bP b,aew⟩) dM (by grind) aj.cs).1;have ve:=al.als;rw[eG.hF]at ve;obtain⟨Ru,awF⟩:=b4.att i hi ah s l o eG.hF ae ve nU eG.yx (NJ al.als).1 eG.hD (λf az mh=>af f az (mh.trans ae.symm)) n9 al.hm al.ia (al.jy.trans eG.hF) (al.nu.trans ae) aa (atx bf al) kW.hm kW.ia (kW.jy.trans (cU.trans eG.hF)) (kW.nu.trans (dh.trans ae)) t1;refine⟨a+1,b,by omega,dM,λbb z fk jo v3 v4=> ?_,U6 t2,?_,⟨s,_,by rw[t3];exact Ru,t5,λp an=> ?_,λ⟨g,aw,g1,g2,g3⟩=>⟨?_,λz fk jo v3=> ?_⟩⟩,λp an=> ?_,λp an=> ?_⟩
    ·by_cases Nv:a+1=10
     ·grind
     ·exact t2.yx z (eG.yx z (gJ (by omega) z fk jo v3 v4))
    ·exact(Nz bf c5 Fv dd).1.trans ae
    ·grind
    ·grind
    ·have atB:J bM:=by
      have:=dk.im g aw;rw[g3,g1]at this;exact this
     have atC:bH V.mem g.src=false:=by
      rw[g1];cases hd:bH V.mem bM
      ·rfl
      ·exact absurd (gz.1 hd) (aj.px bM atB).2.1
     exact t2.yx z (eG.gD g (af g aw (g2.trans ae.symm)) g3 atC z fk (jo.trans g1.symm) (v3.trans ae.symm))
    ·grind
    ·rcases eo.1 an with an|an
     ·exact .inr (uB p an)
     grind
  ·right;obtain⟨al,_⟩:=qS c5 dj.b7;have aW:s.view.num=V.num+1:=by
    have:=NR bf al;rw[dj.af,fw]at this;have:=aj.num;omega
   obtain⟨_,lv,py,yy,u6⟩:=Jc (b':=1) bf c5 dj (.inl (bP _)) (by decide) (.inl (by decide));refine⟨1,1,lv,by grind,by grind,NP dM (λp an=>C6 _ an),λp an=> ?_⟩;rcases eo.1 an with an|an
   ·rcases gJ p an with⟨m,e,h1,_⟩| ⟨v,c,e,h1⟩
    ·rw[e];exact FG h1
    ·rw[e];exact h1
   ·rw[u6]at an;rcases I8 an with e| ⟨_,e⟩
    ·rw[e,py];exact FG aW
    ·exact absurd lv.als e)
 obtain⟨dE,dL,O,eY,iI⟩:=W;refine⟨dE,dL,O,iI,λi hi ah=>(eY i hi).1 ah,?_⟩;by_cases ct:∀i,cB aJ au i->ba aJ i≠bM->(∃a b,(a=α+1\/a=α+2)/\b<=3/\(10<=a->∀z,gB V z=true->C z.bI->z.bI∈V.mem->z.ka=ba aJ i->z∈ (cx (cJ cb au Ms aL).1 i).als)/\mx V C cN k a b [] [] (cx (cJ cb au Ms aL).1 i)/\(cx (cJ cb au Ms aL).1 i).self=ba aJ i/\(∃fq re,Ah i fq (cx (cJ cb au Ms aL).1 i).agr re/\(cx (cJ cb au Ms aL).1 i).als=(b1 fq).als/\(∀p∈re,p∈O i)/\((∃f∈aL,f.src=bM/\f.dst=ba aJ i/\f.bq= .gD)->(∃v c,(⟨bM,.hi v c⟩:dg)∈O i)/\∀z,gB V z=true->z.bI=bM->z.ka=ba aJ i->z∈ (cx (cJ cb au Ms aL).1 i).als))/\(∀p∈kj (cx (cJ cb au Ms aL).1 i),p∈O i)/\∀p∈O i,p∈kj (cx (cJ cb au Ms aL).1 i)\/(∃m,p.bq= .dX m/\m.view=V.num/\uy m)\/∃v c,p.bq= .hi v c/\c.length<=k)
 ·left;refine⟨⟨λi hi ah=> ?_,λf az=> ?_,λi j hi aq ah kl aH=> ?_,λi j hi aq ah kl bu bb=> ?_⟩,λi hi ah=> ?_⟩
  ·grind
  ·obtain⟨i,hi,p,an,rfl⟩:=(iI f).1 az;show kX V k J (qd C cN) uy (ba aJ i) p.bq;by_cases ah:ba aJ i=bM
   ·rw[uA _ _ ((eY i hi).1 ah) p an,ah];exact vP i hi ah
   ·obtain⟨a,b,dj,dM,gJ,eG,n9,uB,Ak,Ji⟩:=ct i hi ah;rcases Ji p an with h| ⟨m,e,h1,ad⟩| ⟨v,c,e,h1⟩
    ·rcases I8 h with e| ⟨e,_⟩
     ·rw[e,eG.hF];exact lk _
     ·rw[e,eG.hF];exact .inr ⟨rfl,eG.sub⟩
    ·rw[e];exact .inr ⟨h1,ad⟩
    ·rw[e];exact h1
  ·obtain⟨a,b,dj,dM,gJ,eG,n9,uB,Ak,Ji⟩:=ct j aq kl;refine⟨l1 (ba aJ j) ⟨ba aJ i,.ac V.num⟩,(iI _).2 ⟨j,aq,_,Ak _ ?_,rfl⟩,rfl,rfl,rfl⟩;have:=NO (s:=cx (cJ cb au Ms aL).1 j) (x:=ba aJ i) (by rw[eG.hF,n9];exact aH);rw[eG.hF]at this;omega
  ·obtain⟨a,b,dj,dM,gJ,eG,n9,uB,Ak,Ji⟩:=ct i hi ah;obtain⟨_,_,_,_,_,rE,Cx,_⟩:=ct j aq kl;have aje:ba aJ j∈V.mem:=by
    obtain⟨bk,Bz,oh⟩:=dL.g;have af:=ux dL;have gT:j<(cJ cb au Ms aL).1.length:=by have:=aq.1;omega
    have c5:=oh.mem j gT;rw[<-Ft gT]at c5;obtain⟨al,_⟩:=qS c5 rE.b7;have:=gz.1 al.jK;rw[rE.hF,Cx]at this;omega
   refine⟨l1 (ba aJ i) ⟨ba aJ j,.hD V.num (cx (cJ cb au Ms aL).1 i).als⟩,(iI _).2 ⟨i,hi,_,Ak _ ?_,rfl⟩,rfl,rfl,rfl⟩;have:=atj (s:=cx (cJ cb au Ms aL).1 i) (x:=ba aJ j) (by rw[eG.hF];omega) (by omega) bb;rw[eG.hF]at this;omega
  grind
 ·right;obtain⟨kE,ni,mO,ox⟩:∃i,cB aJ au i/\ba aJ i≠bM/\¬(∃a b,(a=α+1\/a=α+2)/\b<=3/\(10<=a->∀z,gB V z=true->C z.bI->z.bI∈V.mem->z.ka=ba aJ i->z∈ (cx (cJ cb au Ms aL).1 i).als)/\mx V C cN k a b [] [] (cx (cJ cb au Ms aL).1 i)/\(cx (cJ cb au Ms aL).1 i).self=ba aJ i/\(∃fq re,Ah i fq (cx (cJ cb au Ms aL).1 i).agr re/\(cx (cJ cb au Ms aL).1 i).als=(b1 fq).als/\(∀p∈re,p∈O i)/\((∃f∈aL,f.src=bM/\f.dst=ba aJ i/\f.bq= .gD)->(∃v c,(⟨bM,.hi v c⟩:dg)∈O i)/\∀z,gB V z=true->z.bI=bM->z.ka=ba aJ i->z∈ (cx (cJ cb au Ms aL).1 i).als))/\(∀p∈kj (cx (cJ cb au Ms aL).1 i),p∈O i)/\∀p∈O i,p∈kj (cx (cJ cb au Ms aL).1 i)\/(∃m,p.bq= .dX m/\m.view=V.num/\uy m)\/∃v c,p.bq= .hi v c/\c.length<=k):=by
   grind
  have Bz:=((eY kE ni).2 mO).resolve_left ox;refine⟨λi hi ah=> ?_,?_,λf az=> ?_⟩
  ·rcases(eY i hi).2 ah with⟨a,b,dj,dM,gJ,eG,n9,_⟩| ⟨a,b,dj,dM,gJ,_⟩
   ·obtain⟨_,_,_,_,_,g4,_⟩:=Bz;have bu:ba aJ i≠ba aJ kE:=λe=>by
     have wJ:i=kE:=by
      obtain⟨bk,_,oh⟩:=dL.g;have af:=ux dL;refine qg λbu=> ?_;have h1:i<(cJ cb au Ms aL).1.length:=by have:=hi.1;omega
      have ad:kE<(cJ cb au Ms aL).1.length:=by have:=ni.1;omega
      exact oh.k3 i kE h1 ad bu (by rw[og dL h1,og dL ad,e])
     subst wJ;obtain⟨wN,b',g1,_⟩:=((eY i hi).2 ah).resolve_left ox;have:=eG.af;rw[g1.af]at this;omega
    have lq:ba aJ i∈V.mem:=by
     obtain⟨bk,_,oh⟩:=dL.g;have af:=ux dL;have eI:i<(cJ cb au Ms aL).1.length:=by have:=hi.1;omega
     have c5:=oh.mem i eI;rw[<-Ft eI]at c5;obtain⟨al,_⟩:=qS c5 eG.b7;have:=gz.1 al.jK;rw[eG.hF,n9]at this;omega
    obtain⟨m,m1,m2,m3⟩:=g4 _ lq bu;exact .inl ⟨⟨a,b,eG,dM⟩,_,(iI _).2 ⟨kE,ni,_,m3,rfl⟩,rfl,m,rfl,m1,m2⟩
   grind
  ·grind
  ·obtain⟨i,hi,p,an,rfl⟩:=(iI f).1 az;show Jf V k J (qd C cN) (ba aJ i) p.bq;by_cases ah:ba aJ i=bM
   ·rw[uA _ _ ((eY i hi).1 ah) p an,ah];exact vP i hi ah
   ·rcases(eY i hi).2 ah with⟨a,b,dj,dM,gJ,eG,n9,uB,Ak,Ji⟩| ⟨a,b,dj,dM,gJ,eG,n9⟩
    ·rcases Ji p an with h| ⟨m,e,h1,ad⟩| ⟨v,c,e,h1⟩
     ·rcases I8 h with e| ⟨e,_⟩
      ·rw[e,eG.hF];exact Int.le_of_lt (Int.lt_succ _)
      ·rw[e,eG.hF];exact .inr ⟨rfl,eG.sub⟩
     ·rw[e];exact FG h1
     ·rw[e];exact OI h1
    grind
end
section
variable {bz:aK->Int->Prop} {C cN J:Int->Prop} {v0 V:aK} {aJ:List Int} {au:List Bool} {T k α:Nat} {bM:Int} {Ms:List Mem} {aL:List dC} {cb:Int->Int->Bool} {G:jg} {s:Mem} {a b:Nat} {f:dC}
theorem atD(bf:dt bz T G)(c5:fS G s)(b3:s.status=1)(af:s.hist.length=k){v:aK}{c:List (List Int)}{src:Int}(az:oc G src (.hi v c))(iy:c.length=k+1)(Ja:¬bz s.view s.self):hE C (k+1) 0 0 (fm s src (.hi v c)).1/\(fm s src (.hi v c)).2=[]:=by
 obtain⟨al,aa,_⟩:=qS c5 b3;obtain⟨rfl,m,aA,rfl⟩:=az;have Rs:m=k+1:=by
  grind
 subst Rs;have NT:k<G.D.length:=aA;have pP:=(s3 (jZ bf (k:=k) (by omega)).1).1;have dd:=H2 pP (bf.qO k (by omega)) (bf.dec k NT);have nU:=bf.Ac k (by omega) _ dd;have hy: (dJ (eV G k) (G.D.getD k [])).2=0:=fi (bf.oa.2 k NT);have vL:s.view=eV G k:=by rw[al.view,af]
 have cL:bH (eV G (k+1)).mem s.self=true:=UZ hy (by rw[<-vL];exact al.jK) (λh=>Ja (by grind));have hC:=(jZ bf aA).1;have YZ:dQ G.v0 (G.D.take (k+1)) (k+1)=eV G (k+1):=IP _ _ (bP _);have fF: (!lZ G.v0 s.first||decide (((G.D.take (k+1)).length:Int)<=(s.hist.length:Int)))=false:=by
  rw[al.first,yk,iy,af,cX (show ¬(((k+1:Nat):Int)<=(k:Int)) by omega)];rfl
 have eR:decide (s.status=1)=true:=ep b3;have ct:ih (λi=>hx (s.hist.getD i []) ((G.D.take (k+1)).getD i [])) k=true:=ij.2 λi hi=>by
  have h1:=al.hist;rw[af]at h1;rw[h1,IN hi,IN (by omega),Lz]
 have aC:lC s G.v0 (G.D.take (k+1))=eT {s with hist:=s.hist++ [(G.D.take (k+1)).getD (k+0) []]} (eV G (k+1)):=by
  unfold lC;rw[fF,af,ct,iy,show k+1-k=1 by omega];simp only[bs,bY];unfold ir ir
  grind
 have qe:=NL (C:=C) (s:={s with hist:=s.hist++ [(G.D.take (k+1)).getD (k+0) []]}) hC cL;have gQ: (s.hist++ [(G.D.take (k+1)).getD (k+0) []]).length=k+1:=by grind
 simp only[gQ]at qe;have aG:fm s src (.hi G.v0 (G.D.take (k+1)))=(fl (lC s G.v0 (G.D.take (k+1))),[]):=by
  unfold fm;rw[b6 b3];rfl
 rw[aG,aC,yv qe.b7 (by rw[qe.agr];rfl)];exact⟨⟨qe.b7,qe.af,qe.als,qe.agr,qe.a7⟩,rfl⟩
theorem atE(bf:dt bz T G)(c5:fS G s)(cr:mx V C cN k a b [] [] s)(bu:f.src≠s.self)(az:oc G f.src f.bq)(pv:Jf V k J (qd C cN) f.src f.bq)(aj:¬C f.src)(gU:J f.src->cN f.src)(uw:¬C s.self)(Ja:¬bz V s.self):
  ((mx V C cN k a b [] [] (fm s f.src f.bq).1/\¬ ∃m,f.bq= .dX m/\m.kind=6/\m.view=V.num)\/hE C (k+1) 0 0 (fm s f.src f.bq).1)/\∀p∈ (fm s f.src f.bq).2,(∃m,p.bq= .dX m/\m.view=V.num)\/∃v c,p.bq= .hi v c/\c.length<=k:=by
 obtain⟨al,aa,_⟩:=qS c5 cr.b7;have key:kX V k J (qd C cN) (λ_=>True) f.src f.bq->((mx V C cN k a b [] [] (fm s f.src f.bq).1/\¬ ∃m,f.bq= .dX m/\m.kind=6/\m.view=V.num)\/hE C (k+1) 0 0 (fm s f.src f.bq).1)/\∀p∈ (fm s f.src f.bq).2,(∃m,p.bq= .dX m/\m.view=V.num)\/∃v c,p.bq= .hi v c/\c.length<=k:=λpv=>by
  rcases aem bf c5 cr bu az pv aj gU uw Ja with⟨m,m1,m2,m3,oG,m5,m6,m7,h⟩| ⟨m1,m2,m3,oG,m5⟩
  ·have sj:eJ s.agr.view m=true:=by rw[al.jy,cr.hF];exact oG
   have B4:m.src≠s.agr.self:=by rw[al.nu,m5];omega
   refine⟨?_,λp an=> ?_⟩
   ·rcases h with⟨m8,m9,_⟩| ⟨m8,m9,_⟩
    ·grind
    ·refine .inl ⟨U6 m9,?_⟩;rintro⟨ei,e,eN,_⟩;rw[m1]at e;cases e;exact asr al.hm al.ia sj B4 eN m8
   ·rw[m7]at an;obtain⟨q,bV,x,_,rfl⟩:=yw.1 an;have cw:=UY al.hm al.ia sj B4;have:=(kB ((zN al.hm al.ia cw).2.2.2.2 q bV).p2).2;rw[al.jy,cr.hF]at this
    grind
  ·refine⟨.inl ⟨U6 m2,?_⟩,λp an=> ?_⟩;all_goals grind
 generalize h5:f.bq=bq at *;cases bq with
 |ac n=>
  by_cases h1:n<=V.num
  ·exact key h1
  ·have ad:s.view.num<n:=by rw[cr.hF];omega
   have e:fm s f.src (.ac n)=(nM s,[]):=by
    unfold fm;rw[b6 cr.b7];unfold vG;simp only[];rw[bo (by omega),b6 ad,yv cr.b7 aa]
   rw[e];refine⟨.inl ⟨⟨cr.b7,cr.af,cr.hF,cr.a7,(λf az=>by cases az),(λz bx=>by cases bx),cr.sub,(λf az=>by cases az),(λf az=>by cases az)⟩,?_⟩,λp an=>by cases an⟩;simp
 |hD n l=>exact key pv
 |dX m=>
  refine key ?_;have h:m.view<=V.num:=pv;by_cases h1:m.view<V.num
  ·exact .inl h1
  ·exact .inr ⟨by omega,ai⟩
 |hi v c=>
  by_cases h1:c.length<=k
  ·exact key h1
  ·have ad:c.length<=k+1:=pv;obtain⟨pw,lv⟩:=atD (C:=C) (src:=f.src) bf c5 cr.b7 cr.af az (by omega) (by rw[cr.hF];omega)
   grind
 |gD=>exact key pv
theorem atF{W:aK}(aW:W.num=V.num+1){J:Int->Prop}{mU:List bU->Prop}{src:Int}{f:lj}(h:Jf V k J mU src f):kX W (k+1) J (λ_=>False) (λ_=>False) src f:=by
 cases f with
 |ac n=>
  have h:n<=V.num+1:=h;show n<=W.num;omega
 |hD n l=>
  left;rcases h with h|h<;>omega
 |dX m=>
  left;have h:m.view<=V.num:=h;omega
 |hi v c=>exact h
 |gD=>exact h
theorem aex(iE:∀a b,cb a b=false)(dI:oe bz v0 aJ au T Ms aL)(ay:T+1<=399)(aj:Aj bz C cN J v0 V k aJ au bM){β:Nat}(U7:β<=1)(dk:Fu C cN J V k aJ au bM β Ms aL)
  {jh:Mem->List dC->List dg->Prop} {my:Mem->List dg->Prop}
  (uz:∀i,cB aJ au i->ba aJ i=bM->jh (cx Ms i) [] [])
  (px:∀i,cB aJ au i->ba aJ i=bM->∀s l o f bk,bk.v0=v0->dt bz T bk->fS bk s->s.self=bM->f∈aL->f.dst=s.self->f.src≠s.self->oc bk f.src f.bq->(∃j,cB aJ au j/\f.src=ba aJ j)->jh s l o->jh (fm s f.src f.bq).1 (l++ [f]) (o++(fm s f.src f.bq).2))
  (jp:∀i,cB aJ au i->ba aJ i=bM->∀s l o bk,bk.v0=v0->dt bz T bk->fS bk s->s.self=bM->jh s l o->mw bz s)
  (tg:∀i,cB aJ au i->ba aJ i=bM->∀s l o bk,bk.v0=v0->dt bz (T+1) bk->fS bk s->s.self=bM->(∀f∈aL,f.dst=bM->f∈l)->jh s l o->my (fy s).1 (o++(fy s).2))
  (uA:∀s o,my s o->∀p∈o,kX ⟨V.num+1,[]⟩ (k+1) J (λ_=>False) (λ_=>False) bM p.bq):
  vN cb au Ms aL/\oe bz v0 aJ au (T+1) (cJ cb au Ms aL).1 (cJ cb au Ms aL).2/\
  ∃O:Nat->List dg,(∀f,f∈ (cJ cb au Ms aL).2↔∃i,cB aJ au i/\∃p∈O i,f=l1 (ba aJ i) p)/\(∀i,cB aJ au i->ba aJ i=bM->my (cx (cJ cb au Ms aL).1 i) (O i))/\
   (∀i,cB aJ au i->ba aJ i≠bM->(∃a b,(a=1\/a=2)/\b<=β+1/\hE C (k+1) a b (cx (cJ cb au Ms aL).1 i))/\(cx (cJ cb au Ms aL).1 i).self=ba aJ i/\(∀p∈kj (cx (cJ cb au Ms aL).1 i),p∈O i)/\
    ((∃a b,hE C (k+1) a b (cx Ms i))->(∃f∈aL,f.src=bM/\f.dst=ba aJ i/\f.bq= .gD)->∃v c,(⟨bM,.hi v c⟩:dg)∈O i/\c.length=k+1))/\
   ∀f∈ (cJ cb au Ms aL).2,kX ⟨V.num+1,[]⟩ (k+1) J (λ_=>False) (λ_=>False) f.src f.bq:=by
 have CQ:∀ {f:dC},(∃j,cB aJ au j/\f.src=ba aJ j)->¬C f.src:=λ⟨j,aq,e⟩=>by
  rw[e];exact(aj.up j aq).1
 have U8:∀y,J y->cN y:=λy bn=>(aj.px y bn).1;have W:=U5 (cb:=cb) (aL:=aL) iE dI ay
  (I:=λi s l o=>(ba aJ i=bM->jh s l o)/\(ba aJ i≠bM->
   (((∃a b,mx V C cN k a b [] [] s/\b<=3)/\¬(∃a b,hE C (k+1) a b (cx Ms i))/\∀f∈l,¬ ∃m,f.bq= .dX m/\m.kind=6/\m.view=V.num)\/
    (∃a b,hE C (k+1) a b s/\a<=β/\b<=β))/\(∀p∈o,(∃m,p.bq= .dX m/\m.view=V.num)\/∃v c,p.bq= .hi v c/\c.length<=k+1)/\
   ((∃a b,hE C (k+1) a b (cx Ms i))->(∃f∈l,f.src=bM/\f.bq= .gD)->∃v c,(⟨bM,.hi v c⟩:dg)∈o/\c.length=k+1)))
  (Q:=λi s o=>(ba aJ i=bM->my s o)/\(ba aJ i≠bM->(∃a b,(a=1\/a=2)/\b<=β+1/\hE C (k+1) a b s)/\s.self=ba aJ i/\s.view.num=V.num+1/\(∀p∈kj s,p∈o)/\
   (∀p∈o,p∈kj s\/(∃m,p.bq= .dX m/\m.view=V.num)\/∃v c,p.bq= .hi v c/\c.length<=k+1)/\
   ((∃a b,hE C (k+1) a b (cx Ms i))->(∃f∈aL,f.src=bM/\f.dst=ba aJ i/\f.bq= .gD)->∃v c,(⟨bM,.hi v c⟩:dg)∈o/\c.length=k+1)))
 replace W:=W (λi hi=>by
  refine⟨λah=>uz i hi ah,λah=>⟨?_,(λp an=>by cases an),λ_ ⟨f,az,_⟩=>by cases az⟩⟩;rcases dk.m i hi ah with⟨⟨a,b,h1,ad⟩,aN⟩|h
  ·refine .inl ⟨⟨a,b,h1,ad⟩,?_,λf az=>by cases az⟩;rintro⟨wN,b',y⟩;have:=y.af;rw[h1.af]at this;omega
  grind)
 replace W:=W (λi hi s l o f bk fw bf c5 ae az mh bu h5 ix cp=>by
  refine⟨λah=>px i hi ah s l o f bk fw bf c5 (ae.trans ah) az mh bu h5 ix (cp.1 ah),λah=> ?_⟩;obtain⟨U9,atG,Va⟩:=cp.2 ah;have aey:=dk.im f az;have hg:=aj.up i hi;rcases U9 with⟨⟨a,b,h1,ad⟩,aN,bt⟩| ⟨a,b,y,bb,ac⟩
  ·obtain⟨dj,dM⟩:=atE bf c5 h1 bu h5 aey (CQ ix) (U8 _) (by grind) (by grind)
   grind
  ·obtain⟨al,_⟩:=qS c5 y.b7;have aW:s.view.num=V.num+1:=by
    have:=NR bf al;rw[y.af,fw]at this;have:=aj.num;omega
   obtain⟨pw,lv,py,yy,u6,NS⟩:=U3 (J:=J) bf c5 y bu h5 (atF aW aey) (CQ ix) (λaq=>aer aj bf fw al y.af aq);refine⟨.inr ⟨a,b,pw,bb,ac⟩,λp an=> ?_,λh ⟨g,aw,g1,g2⟩=> ?_⟩
   ·rcases eo.1 an with an|an
    ·grind
    ·exact .inr ⟨_,_,(u6 p an).2,JE y.af⟩
   ·rcases eo.1 aw with aw|aw
    ·obtain⟨v,c,h1,ad⟩:=Va h ⟨g,aw,g1,g2⟩
     grind
    ·rw[eX.1 aw]at g1 g2;obtain⟨p,an,ff,fB⟩:=NS g2;refine⟨s.first,s.hist,mW _ ?_,y.af⟩;have:p= ⟨bM,.hi s.first s.hist⟩:=by
      obtain⟨aeu,aev⟩:=p
      grind
     grind)
 replace W:=W (λi hi s l o bk fw bf c5 ae af cp=>by
  by_cases ah:ba aJ i=bM
  ·grind
  ·rcases((cp.2 ah).1)with⟨⟨a,b,h1,ad⟩,aN,bt⟩| ⟨a,b,y,bb,ac⟩
   ·exfalso;rcases dk.m i hi ah with⟨_,f,az,mh,m,aA⟩|h;all_goals grind
   ·exact(Jc (b':=β+1) bf c5 y (.inl (by omega)) (by omega) (.inl (by omega))).1)
 replace W:=W (λi hi s l o bk fw bf c5 Fv ae af cp dd=>by
  refine⟨λah=>tg i hi ah s l o bk fw bf c5 (ae.trans ah) (λf az mh=>af f az (by omega)) (cp.1 ah),λah=> ?_⟩;obtain⟨U9,atG,Va⟩:=cp.2 ah;rcases U9 with⟨⟨a,b,h1,ad⟩,aN,bt⟩| ⟨a,b,y,bb,ac⟩
  ·exfalso;rcases dk.m i hi ah with⟨_,f,az,mh,m,aA⟩|h;all_goals grind
  ·obtain⟨al,_⟩:=qS c5 y.b7;have aW:s.view.num=V.num+1:=by
    have:=NR bf al;rw[y.af,fw]at this;have:=aj.num;omega
   obtain⟨_,lv,py,yy,u6⟩:=Jc (b':=β+1) bf c5 y (.inl (by omega)) (by omega) (.inl (by omega));rw[u6];refine⟨⟨a+1,β+1,by omega,bP _,lv⟩,yy.trans ae,by grind,λp an=>mW _ an,λp an=> ?_,λh ⟨g,aw,g1,g2,g3⟩=> ?_⟩
   ·grind
   ·obtain⟨v,c,h1,ad⟩:=Va h ⟨g,af g aw (g2.trans ae.symm),g1,g3⟩
    grind)
 obtain⟨dE,dL,O,eY,iI⟩:=W;refine⟨dE,dL,O,iI,λi hi ah=>(eY i hi).1 ah,λi hi ah=> ?_,λf az=> ?_⟩
 ·grind
 ·obtain⟨i,hi,p,an,rfl⟩:=(iI f).1 az;show kX _ (k+1) J _ _ (ba aJ i) p.bq;by_cases ah:ba aJ i=bM
  ·grind
  ·obtain⟨⟨a,b,_,_,y⟩,dM,gJ,eG,n9,uB⟩:=(eY i hi).2 ah;rcases n9 p an with h| ⟨m,e,h⟩| ⟨v,c,e,h⟩
   ·rcases I8 h with e| ⟨_,e⟩
    ·rw[e,gJ];exact lk _
    ·exact absurd y.als e
   ·rw[e];left
    grind
   ·rw[e];exact h
end
theorem NU(ab:b0 V=true){x:Int}(ah:bH V.mem x=true):∃k:Nat,gG V.mem x=(k:Int)/\k<=16:=by
 have af:=mK ab;obtain⟨j,aq,an,_⟩:=Hy (gz.1 ah)
 grind
theorem NV(h:s.agr.prop≠ []):eC s=(s.agr,[]):=by
 unfold eC
 simp_all
theorem atH(h: (dm s.view (b1 s).als).2=false):eC s=(s.agr,[]):=by
 unfold eC
 grind
theorem atI(h:s.agr.prop=[])(ad: (dm s.view (b1 s).als).2=true)(aN: (eK s.agr (dm s.view (b1 s).als).1).2.2=0):eC s=((eK s.agr (dm s.view (b1 s).als).1).1,(eK s.agr (dm s.view (b1 s).als).1).2.1):=by
 unfold eC
 grind
section
variable {bz:aK->Int->Prop} {C cN J:Int->Prop} {v0 V:aK} {aJ:List Int} {au:List Bool} {T k α:Nat} {bM:Int} {Ms:List Mem} {aL:List dC} {cb:Int->Int->Bool}
structure NW(C cN:Int->Prop)(V:aK)(aJ:List Int)(Ms:List Mem)(aL:List dC)(i:Nat)(A:List bU):Prop where
 yx:∀z∈ (cx Ms i).als,z∈A
 hD:∀f∈aL,f.dst=ba aJ i->∀L,f.bq= .hD V.num L->∀z∈L,z∈A
 val:dF V A=true
 sub:qd C cN A
def atJ(V:aK)(yx:bj)(s:Mem)(g:bj):Prop:=
 (nw yx/\((nw g/\(dm V (b1 s).als).2=false)\/(iu False 0 1 g/\(dm V (b1 s).als).2=true)))\/∃w,iu False 0 w yx/\iu False 0 (w+1) g
theorem Vb(ab:b0 V=true)(h:∀i,cB aJ au i->ba aJ i≠bM->nw (cx Ms i).agr\/∃w,0<=w/\w<=1000/\w+1<8+6*gG V.mem (ba aJ i)/\iu False 0 w (cx Ms i).agr):
  NQ bz C cN V k aJ au bM (λm=>m.kind=1) (λm=>m.kind=1) Ms aL
   (λi _ s o=>((nw (cx Ms i).agr/\nw s)\/∃w,0<=w/\w<=1000/\w+1<8+6*gG V.mem (ba aJ i)/\iu False 0 w (cx Ms i).agr/\iu False 0 w s)/\∀p∈o,∀m,p.bq= .dX m->m.kind=1)
   (λi s g _=>atJ V (cx Ms i).agr s g/\NW C cN V aJ Ms aL i (b1 s).als):=by
 refine⟨λi hi ah=>⟨?_,λp an=>by cases an⟩,λi l s o f aU h1 ad aN=>⟨h1.1,λp an m e=> ?_⟩,λi hi ah s l o f m al az fK has um CR aa dd aez h5 sj gk ya ix bu s4 jf=> ?_,λi l s o h1=>h1.2,λi hi ah s l o um CR ve Fs hold hg jj af dd al az fK has aa lA lg r6 tN jE jf=> ?_⟩
 ·grind
 ·grind
 ·have Al:eJ s.agr.view m=true:=by grind
  have CS:m.src≠s.agr.self:=by omega
  have key: ((nw (cx Ms i).agr/\nw (dB s.agr m).1)\/∃w,0<=w/\w<=1000/\w+1<8+6*gG V.mem (ba aJ i)/\iu False 0 w (cx Ms i).agr/\iu False 0 w (dB s.agr m).1)/\(dB s.agr m).2.1=[]:=by
   rcases dd.1 with⟨h1,ad⟩| ⟨w,a8,eE,gW,h1,ad⟩
   ·rcases as3 al az ad Al CS gk with e| ⟨aC,aG⟩;all_goals grind
   ·rcases aeg al az ad Al CS gk with e| ⟨aC,aG⟩;all_goals grind
  refine⟨key.1,λp an ei e=> ?_⟩;rw[key.2]at an;rcases eo.1 an with an|an
  ·grind
  ·cases an
 ·have cL:bH V.mem (ba aJ i)=true:=by
   have:=al.self
   grind
  obtain⟨CT,lR,Am⟩:=NU ab cL;have ez:gG s.agr.view.mem s.agr.self=(CT:Int):=by grind
  have Vc:gG (eC s).1.view.mem (eC s).1.self=(CT:Int):=by grind
  have AY:NW C cN V aJ Ms aL i (b1 s).als:=by
   have Vd:=IS (s:=s) (by grind);rw[um]at Vd;exact⟨λz bx=>hg z (hold z bx),λf az mh L e z bx=>hg z (jj f (af f az mh) L e z bx),Vd,Fs⟩
  have awG:s.view=V:=um;rcases dd.1 with⟨h1,ad⟩| ⟨w,a8,eE,gW,h1,ad⟩
  ·cases cw: (dm s.view (b1 s).als).2
   ·have jV:=atH cw;rw[jV]at jf⊢;rcases as4 al az ad with e| ⟨aC,aG⟩
    ·grind
    ·refine⟨⟨.inl ⟨h1,.inl ⟨aC,by grind⟩⟩,AY⟩,λp an=> ?_⟩
     grind
   ·have Vd:=IS (s:=s) (by grind);have vK:=aq3 cw;have atK:gb s.agr.view (dm s.view (b1 s).als).1=true:=by grind
    obtain⟨pQ,QJ⟩:=as5 (ρ:=0) al az ad atK;have jV:=atI ad.prop cw pQ;have wG: (eC s).1.dec=[]:=by
     refine qg λaW=> ?_;rw[asw lg r6 aW]at jf
     grind
    rw[jV]at lg r6 Vc wG jf⊢;simp only[]at lg r6 Vc wG jf⊢;rcases QJ with e| ⟨aC,aG⟩
    ·grind
    ·rcases NH lg r6 aC (lk 0) (by decide) Vc Am (by omega)with e| ⟨bc,_,cn,_⟩
     ·grind
     ·refine⟨⟨.inl ⟨h1,.inr ⟨bc,by grind⟩⟩,AY⟩,λp an=> ?_⟩;rcases eo.1 an with an|an
      ·grind
      ·exact NK (cn p an)
  ·have jV:=NV (s:=s) ad.prop;rw[jV]at jf⊢;simp only[]at jf⊢;rcases NH al az ad a8 eE ez Am (by omega)with e| ⟨bc,_,cn,_⟩
   ·grind
   ·refine⟨⟨.inr ⟨w,h1,bc⟩,AY⟩,λp an=> ?_⟩;exact NK (cn p an)
end
structure CU(C:Int->Prop)(V:aK)(aJ:List Int)(au:List Bool)(bM κ ρ:Int)(hV:Nat):Prop where
 kE:∃i,cB aJ au i/\ba aJ i=κ
 Ve:κ≠bM
 mem:κ∈V.mem
 y1:gG V.mem κ=(hV:Int)
 dK:∀i,cB aJ au i->ba aJ i≠bM->ba aJ i≠κ->(hV:Int)+1<=gG V.mem (ba aJ i)
 atL:ρ=1024+κ
 Vf:jt ρ=true
 own:h7 ρ=κ
theorem atM(ab:b0 V=true){κ:Int}(aA:κ∈V.mem):jt (1024+κ)=true/\h7 (1024+κ)=κ:=by
 have aA:=Mo ab (gz.2 aA);have e:=RX (a:=1) (m:=κ) (by omega) (by omega) aA.1 aA.2;have aG:vp 1 κ=1024+κ:=by omega
 obtain⟨_,_,_,bt,_,_⟩:=SS (a:=1) (m:=κ) (by omega);rw[aG]at bt;refine⟨?_,bt⟩;unfold jt
 grind
def Jj(V:aK)(aL:List dC)(dst:Int)(P:c0->Prop):Prop:=∃f∈aL,f.dst=dst/\∃m,f.bq= .dX m/\m.view=V.num/\P m
def atN(V:aK)(aJ:List Int)(au:List Bool)(bM κ:Int)(h9:Prop)(aL:List dC):Nat->Prop
 |0=>∀j,cB aJ au j->ba aJ j≠bM->ba aJ j≠κ->Jj V aL (ba aJ j) λm=>m.kind=2/\m.src=κ
 |1=>∀j,cB aJ au j->ba aJ j≠bM->ba aJ j≠κ->Jj V aL κ λm=>m.kind=3/\m.src=ba aJ j
 |2=>h9/\∀j,cB aJ au j->ba aJ j≠bM->ba aJ j≠κ->Jj V aL (ba aJ j) λm=>m.kind=4
 |_=>h9/\∀j,cB aJ au j->ba aJ j≠bM->ba aJ j≠κ->Jj V aL κ λm=>m.kind=5/\m.src=ba aJ j
section
variable {bz:aK->Int->Prop} {C cN J:Int->Prop} {v0 V:aK} {aJ:List Int} {au:List Bool} {T k α hV:Nat} {bM κ ρ:Int} {Ms:List Mem} {aL:List dC} {cb:Int->Int->Bool}
theorem atO(ab:b0 V=true)(eh:CU C V aJ au bM κ ρ hV)(h:∀i,cB aJ au i->ba aJ i≠bM->∃w,0<=w/\w<=1000/\iu False 0 w (cx Ms i).agr/\(ba aJ i≠κ->w+1<8+6*gG V.mem (ba aJ i))/\(ba aJ i=κ->8+6* (hV:Int)<=w+1)):
  NQ bz C cN V k aJ au bM (λm=>m.kind=1) (rF True ρ) Ms aL
   (λi _ s o=>(∃w,0<=w/\w<=1000/\iu False 0 w (cx Ms i).agr/\iu False 0 w s/\(ba aJ i≠κ->w+1<8+6*gG V.mem (ba aJ i))/\(ba aJ i=κ->8+6* (hV:Int)<=w+1))/\∀p∈o,∀m,p.bq= .dX m->m.kind=1)
   (λi s g o=>(ba aJ i≠κ->∃w,iu False 0 w (cx Ms i).agr/\iu True ρ (w+1) g)/\(ba aJ i=κ->sl ρ 0 g/\(g.phase=1->∀x∈V.mem,x≠κ->∃m:c0,(⟨x,.dX m⟩:dg)∈o/\m.view=V.num/\m.kind=2/\m.src=κ)/\(g.phase=2->∀x∈V.mem,x≠κ->∃m:c0,(⟨x,.dX m⟩:dg)∈o/\m.view=V.num/\m.kind=4))):=by
 refine⟨λi hi ah=>⟨?_,λp an=>by cases an⟩,λi l s o f aU h1 ad aN=>⟨h1.1,λp an m e=> ?_⟩,λi hi ah s l o f m al az fK has um CR aa dd aez h5 sj gk ya ix bu s4 jf=> ?_,λi l s o h1 p an m e=>.inl (h1.2 p an m e),λi hi ah s l o um CR ve Fs hold hg jj af dd al az fK has aa lA lg r6 tN jE jf=> ?_⟩
 ·grind
 ·grind
 ·have Al:eJ s.agr.view m=true:=by grind
  have CS:m.src≠s.agr.self:=by omega
  obtain⟨⟨w,a8,eE,gW,tb,vF,Ni⟩,atP⟩:=dd;rcases aeg al az tb Al CS gk with e| ⟨aC,aG⟩
  ·grind
  ·refine⟨⟨w,a8,eE,gW,aC,vF,Ni⟩,λp an ei e=> ?_⟩;rw[aG]at an;rcases eo.1 an with an|an
   ·grind
   ·cases an
 ·obtain⟨⟨w,a8,eE,gW,tb,vF,Ni⟩,atP⟩:=dd;have cL:bH V.mem (ba aJ i)=true:=by
   have:=al.self
   grind
  obtain⟨CT,lR,Am⟩:=NU ab cL;have ez:gG s.agr.view.mem s.agr.self=(CT:Int):=by grind
  have jV:=NV (s:=s) tb.prop;rw[jV]at jf⊢;simp only[]at jf⊢;by_cases hk:ba aJ i=κ
  ·have AZ: (CT:Int)=(hV:Int):=by rw[<-lR,hk];exact eh.y1
   rcases asC (ρ:=ρ) al az (as2 tb) a8 eE ez Am (by omega) (by rw[eh.atL,has,hk])with e| ⟨aC,aG,bc,cn⟩
   ·grind
   ·have ie:s.self=κ:=CR.trans hk;have vL:∀p∈ (cQ s.agr).2,p.m.view=V.num:=λp an=>by
     have:=(kB ((EO al az).2.2.2.2 p an).p2).2
     grind
    refine⟨⟨λaW=>absurd hk aW,λ_=>⟨aC,λsT x lS Vg=> ?_,λsT x lS Vg=> ?_⟩⟩,λp an=>aG p an⟩
    ·obtain⟨p,an,ff,fB,oM⟩:=bc sT;exact⟨p.m,mW _ (mW _ (CP an ff (by grind) (by omega))),vL p an,fB,oM.trans (has.trans hk)⟩
    ·obtain⟨p,an,ff,fB,oM⟩:=cn sT;exact⟨p.m,mW _ (mW _ (CP an ff (by grind) (by omega))),vL p an,fB⟩
  ·rcases NH al az tb a8 eE ez Am (by omega)with e| ⟨bc,_,cn,_⟩
   ·grind
   ·refine⟨⟨λ_=>⟨w,gW,⟨bc.dec,bc.prop,bc.cg.imp id (λh=>h.1.elim),bc.nN.imp id (λh=>h.1.elim),λx ah=>(bc.aQ x ah).1.elim,bc.iq,bc.h9,bc.cG⟩⟩,λaW=>absurd aW hk⟩,λp an=> ?_⟩;exact .inl (NK (cn p an))
def atQ(V:aK)(aJ:List Int)(κ ρ:Int)(c:Int)(Ms:List Mem)(i:Nat)(l:List dC)(s:bj)(o:List dg):Prop:=
 (ba aJ i≠κ->(∃w,0<=w/\w<=1000/\w+1<8+6*gG V.mem (ba aJ i)/\iu True ρ w (cx Ms i).agr/\iu True ρ w s)/\
  (∀f∈l,∀m,f.bq= .dX m->m.view=V.num->m.kind=2->∃q:c0,(⟨m.src,.dX q⟩:dg)∈o/\q.view=V.num/\q.kind=3/\q.src=ba aJ i)/\
  (∀f∈l,∀m,f.bq= .dX m->m.view=V.num->m.kind=4->∀x∈V.mem,x≠ba aJ i->∃q:c0,(⟨x,.dX q⟩:dg)∈o/\q.view=V.num/\q.kind=5/\q.src=ba aJ i))/\
 (ba aJ i=κ->sl ρ c s/\((cx Ms i).agr.phase=2->s.phase=2)/\
  (∀f∈l,∀m,f.bq= .dX m->m.view=V.num->m.kind=3->s.phase=2\/has s.bw m.src)/\(∀f∈l,∀m,f.bq= .dX m->m.view=V.num->m.kind=5->has s.aQ m.src))/\
 ∀p∈o,∀m,p.bq= .dX m->rF True ρ m
theorem atS(ab:b0 V=true)(eh:CU C V aJ au bM κ ρ hV){c:Int}(pQ:0<=c)(aj:c+1<8)(h:∀i,cB aJ au i->ba aJ i≠bM->(ba aJ i≠κ->∃w,0<=w/\w<=1000/\w+1<8+6*gG V.mem (ba aJ i)/\iu True ρ w (cx Ms i).agr)/\(ba aJ i=κ->sl ρ c (cx Ms i).agr)):
  NQ bz C cN V k aJ au bM (rF True ρ) (rF True ρ) Ms aL (atQ V aJ κ ρ c Ms)
   (λi s g o=>(ba aJ i≠κ->∃w,iu True ρ w (cx Ms i).agr/\iu True ρ (w+1) g)/\(ba aJ i=κ->sl ρ (c+1) g/\(g.phase=1->∀x∈V.mem,x≠κ->∃m:c0,(⟨x,.dX m⟩:dg)∈o/\m.view=V.num/\m.kind=2/\m.src=κ)/\(g.phase=2->∀x∈V.mem,x≠κ->∃m:c0,(⟨x,.dX m⟩:dg)∈o/\m.view=V.num/\m.kind=4)/\
     ((cx Ms i).agr.phase=2->g.phase=2)/\(g.phase=1->(g.bw.length:Int)<fP V.mem.length)/\(∀f∈aL,f.dst=κ->∀m,f.bq= .dX m->m.view=V.num->m.kind=3->g.phase=2\/has g.bw m.src)/\has g.bw κ/\
     ((∀j,cB aJ au j->ba aJ j≠bM->ba aJ j≠κ->∃f∈aL,f.dst=κ/\∃m,f.bq= .dX m/\m.view=V.num/\m.kind=5/\m.src=ba aJ j)->g.phase=2->∀U:List Int,U.Nodup->(∀x∈U,∃j,cB aJ au j/\ba aJ j≠bM/\ba aJ j=x)->(U.length:Int)<fP V.mem.length))/\
    (ba aJ i≠κ->(∀f∈aL,f.dst=ba aJ i->∀m,f.bq= .dX m->m.view=V.num->m.kind=2->∃q:c0,(⟨m.src,.dX q⟩:dg)∈o/\q.view=V.num/\q.kind=3/\q.src=ba aJ i)/\
     (∀f∈aL,f.dst=ba aJ i->∀m,f.bq= .dX m->m.view=V.num->m.kind=4->∀x∈V.mem,x≠ba aJ i->∃q:c0,(⟨x,.dX q⟩:dg)∈o/\q.view=V.num/\q.kind=5/\q.src=ba aJ i))):=by
 have fx:=rr eh.Vf;refine⟨λi hi ah=>⟨λhk=>⟨?_,(λf az=>by cases az),(λf az=>by cases az)⟩,λhk=>⟨(h i hi ah).2 hk,id,(λf az=>by cases az),(λf az=>by cases az)⟩,λp an=>by cases an⟩,λi l s o f aU h1 ad aN=> ?_,λi hi ah s l o f m al az fK NX um CR aa dd aez h5 sj gk ya ix bu s4 jf=> ?_,λi l s o h1=>h1.2.2,λi hi ah s l o um CR ve Fs hold hg jj af dd al az fK NX aa lA lg r6 tN jE jf=> ?_⟩
 ·grind
 ·have j6:∀m,f.bq= .dX m->m.view≠V.num:=λm e aG=>by
   grind
  obtain⟨ff,fB,oM⟩:=h1;refine⟨λhk=> ?_,λhk=> ?_,λp an m e=> ?_⟩;all_goals grind
 ·have Al:eJ s.agr.view m=true:=by grind
  have CS:m.src≠s.agr.self:=by omega
  obtain⟨dE,dL⟩:=I7 al az Al CS aa;obtain⟨ff,fB,oM⟩:=dd;have aeA:∀ {g:dC} {ei:c0},g∈ [f]->g.bq= .dX ei->ei=m:=λaw e=>by
   grind
  by_cases hk:ba aJ i=κ
  ·obtain⟨dj,dM,gJ,eG⟩:=fB hk;have b2:h7 ρ=s.agr.self:=by rw[eh.own,NX,hk]
   obtain⟨cP,a2,a3,a4,a5,aeB,awH⟩:=asu al dj Al CS gk eh.Vf b2;have Vh:dl (e0 s.agr m).1 (e0 s.agr m).2=((e0 s.agr m).1,(e0 s.agr m).2):=by
    rcases CJ cP.dec (e0 s.agr m).2 with e|e;all_goals grind
   rw[dE,dL,Vh];refine⟨λaW=>absurd hk aW,λ_=>⟨cP,λe=>aeB (dM e),λg aw ei e bG An=> ?_,λg aw ei e bG An=> ?_⟩,λp an ei e=> ?_⟩
   ·grind
   ·grind
   ·rcases eo.1 an with an|an
    ·grind
    ·obtain⟨q,bV,x,_,rfl⟩:=yw.1 an
     grind
  ·obtain⟨⟨w,a8,eE,gW,tb,vF⟩,dM,gJ⟩:=ff hk;obtain⟨cP,a2,a3,a4,a5,aeB⟩:=ast al vF Al gk eh.Vf (λhL Ew=>by
    have vg:m.aD=ρ:=by
     rcases gk with h|h;all_goals omega
    grind)
   have Vh:dl (e0 s.agr m).1 (e0 s.agr m).2=((e0 s.agr m).1,(e0 s.agr m).2):=by
    rcases CJ cP.dec (e0 s.agr m).2 with e|e;all_goals grind
   have awI:=Mo ab (kB ya).1;rw[dE,dL,Vh];refine⟨λ_=>⟨⟨w,a8,eE,gW,tb,cP⟩,λg aw ei e bG An=> ?_,λg aw ei e bG An x lS E9=> ?_⟩,λaW=>absurd aW hk,λp an ei e=> ?_⟩
   ·rcases eo.1 aw with aw|aw
    ·grind
    ·rw[aeA aw e]at An⊢;obtain⟨awJ,fA,an⟩:=a4 An;have:=atg (s:=s) an (show m.src≠0 by omega);exact⟨_,mW _ this,by show s.agr.view.num=V.num;rw[fK],rfl,by show s.agr.self=_;omega⟩
   ·rcases eo.1 aw with aw|aw
    ·grind
    ·rw[aeA aw e]at An;obtain⟨_,_,fA,an⟩:=a5 An;have:=CP (s:=s) an rfl (x:=x) (by grind) (by omega);exact⟨_,mW _ this,by show s.agr.view.num=V.num;rw[fK],rfl,by show s.agr.self=_;omega⟩
   ·rcases eo.1 an with an|an
    ·grind
    ·obtain⟨q,bV,x,_,rfl⟩:=yw.1 an
     grind
 ·have cL:bH V.mem (ba aJ i)=true:=by
   have:=al.self
   grind
  obtain⟨CT,lR,Am⟩:=NU ab cL;have ez:gG s.agr.view.mem s.agr.self=(CT:Int):=by grind
  obtain⟨ff,fB,oM⟩:=dd;by_cases hk:ba aJ i=κ
  ·obtain⟨dj,dM,gJ,eG⟩:=fB hk;have jV:=NV (s:=s) dj.prop;rw[jV]at jf⊢;simp only[]at jf⊢;have ie:s.self=κ:=CR.trans hk;have vL:∀p∈ (cQ s.agr).2,p.m.view=V.num:=λp an=>by
    have:=(kB ((EO al az).2.2.2.2 p an).p2).2
    grind
   have b2:has s.agr.bw κ:=by
    have aR:0<=eS s.agr.bw s.agr.self:=by
     rcases al.h9 with h|h
     ·rcases dj.nN with⟨e,_⟩| ⟨e,_⟩<;>omega
     omega
    rw[NX,hk]at aR;exact BZ.1 aR
   rcases asA al az dj pQ aj ez Am with e| ⟨s1,s2,Eb,UC,atT,atU,atV,atW⟩
   ·grind
   ·refine⟨⟨λaW=>absurd hk aW,λ_=>⟨s1,λsT x lS Vg=> ?_,λsT x lS Vg=> ?_,λe=>by grind,λe=> ?_,λf r6 mh m e bG An=> ?_,by grind,λct iQ U p6 Fw=> ?_⟩,λaW=>absurd hk aW⟩,λp an=>atT p an⟩
    ·obtain⟨p,an,xy,mH,z3⟩:=atU (by omega);exact⟨p.m,mW _ (mW _ (CP an xy (by grind) (by omega))),vL p an,mH,z3.trans (NX.trans hk)⟩
    ·obtain⟨p,an,xy,mH,z3⟩:=atV (by omega);exact⟨p.m,mW _ (mW _ (CP an xy (by grind) (by omega))),vL p an,mH⟩
    ·rw[Eb]at e;rw[UC];have:=az e
     grind
    ·grind
    ·refine qg λvc=> ?_;have bC:∀x∈U,has s.agr.aQ x:=λx lS=>by
      obtain⟨j,aq,kl,j7⟩:=Fw x lS;by_cases qf:ba aJ j=κ
      ·rcases dj.nN with⟨e,_⟩| ⟨_,e⟩;all_goals grind
      grind
     have hlen:U.length<=s.agr.aQ.length:=by
      have:=rn (b:=s.agr.aQ.map (·.mem)) p6 (λx lS=>by
       obtain⟨y,bn,e⟩:=bC x lS
       grind)
      grind
     refine asx al (by omega) dj.aQ (λa bb b ac=>lA a bb b ac ((dj.aQ a bb).trans (dj.aQ b ac).symm)) ?_ atW
     grind
  ·obtain⟨⟨w,a8,eE,gW,tb,vF⟩,dM,gJ⟩:=ff hk;have jV:=NV (s:=s) vF.prop;rw[jV]at jf⊢;simp only[]at jf⊢;rcases NH al az vF a8 eE ez Am (by omega)with e| ⟨bc,_,cn,_⟩;all_goals grind
end
section
variable {bz:aK->Int->Prop} {C J:Int->Prop} {v0 V:aK} {aJ:List Int} {au:List Bool} {T k dK hi β uC:Nat} {bM:Int} {Ms:List Mem} {aL:List dC} {cb:Int->Int->Bool}
theorem Vi(iE:∀a b,cb a b=false)(dI:oe bz v0 aJ au T Ms aL)(ay:T+1<=399)(hg:∀i,cB aJ au i->¬C (ba aJ i))
  (aA:∀i,cB aJ au i->ba aJ i≠bM->∃a b,dK<=a/\a<=hi/\b<=β/\hE C k a b (cx Ms i)/\(cx Ms i).view=V) (nl:∀f∈aL,kX V k J (λ_=>False) (λ_=>False) f.src f.bq) (gU:∀y,J y->bH V.mem y=true)
  (U7:uC=β+1\/(uC=β/\∀i,cB aJ au i->ba aJ i≠bM->∀y∈V.mem,y≠ba aJ i->ba aJ i∈cv V.mem y->¬C y->∃f∈aL,f.src=y/\f.dst=ba aJ i/\f.bq= .ac V.num)) (aN:uC<=3) (bV:hi+1<10\/∀y∈V.mem,¬C y)
  {jh:Mem->List dC->List dg->Prop} {my:Mem->List dg->Prop}
  (uz:∀i,cB aJ au i->ba aJ i=bM->jh (cx Ms i) [] [])
  (px:∀i,cB aJ au i->ba aJ i=bM->∀s l o f bk,bk.v0=v0->dt bz T bk->fS bk s->s.self=bM->f∈aL->f.dst=s.self->f.src≠s.self->oc bk f.src f.bq->(∃j,cB aJ au j/\f.src=ba aJ j)->jh s l o->jh (fm s f.src f.bq).1 (l++ [f]) (o++(fm s f.src f.bq).2))
  (jp:∀i,cB aJ au i->ba aJ i=bM->∀s l o bk,bk.v0=v0->dt bz T bk->fS bk s->s.self=bM->jh s l o->mw bz s)
  (tg:∀i,cB aJ au i->ba aJ i=bM->∀s l o bk,bk.v0=v0->dt bz (T+1) bk->fS bk s->s.self=bM->(∀f∈aL,f.dst=bM->f∈l)->jh s l o->my (fy s).1 (o++(fy s).2)):
  vN cb au Ms aL/\oe bz v0 aJ au (T+1) (cJ cb au Ms aL).1 (cJ cb au Ms aL).2/\
  ∃O:Nat->List dg,(∀f,f∈ (cJ cb au Ms aL).2↔∃i,cB aJ au i/\∃p∈O i,f=l1 (ba aJ i) p)/\(∀i,cB aJ au i->ba aJ i=bM->my (cx (cJ cb au Ms aL).1 i) (O i))/\
   ∀i,cB aJ au i->ba aJ i≠bM->(∃a b,dK+1<=a/\a<=hi+1/\b<=uC/\hE C k a b (cx (cJ cb au Ms aL).1 i)/\(cx (cJ cb au Ms aL).1 i).view=V)/\(cx (cJ cb au Ms aL).1 i).self=ba aJ i/\(∀p∈kj (cx (cJ cb au Ms aL).1 i),p∈O i)/\
    (∀p∈O i,p.bq= .ac V.num\/∃v c,p.bq= .hi v c/\c.length<=k)/\((∃f∈aL,f.src=bM/\f.dst=ba aJ i/\f.bq= .gD)->∃v c,(⟨bM,.hi v c⟩:dg)∈O i/\c.length=k):=by
 have W:=U5 (cb:=cb) (aL:=aL) iE dI ay
  (I:=λi s l o=>(ba aJ i=bM->jh s l o)/\(ba aJ i≠bM->(∃a b,dK<=a/\a<=hi/\b<=β/\hE C k a b s/\s.view=V)/\(∀f∈l,f.bq= .ac V.num->bH V.mem f.src=true->qR s.a7 f.src)/\(∀p∈o,∃v c,p.bq= .hi v c/\c.length=k)/\
   ((∃f∈l,f.src=bM/\f.bq= .gD)->∃v c,(⟨bM,.hi v c⟩:dg)∈o/\c.length=k)))
  (Q:=λi s o=>(ba aJ i=bM->my s o)/\(ba aJ i≠bM->(∃a b,dK+1<=a/\a<=hi+1/\b<=uC/\hE C k a b s/\s.view=V)/\s.self=ba aJ i/\(∀p∈kj s,p∈o)/\(∀p∈o,p.bq= .ac V.num\/∃v c,p.bq= .hi v c/\c.length<=k)/\
   ((∃f∈aL,f.src=bM/\f.dst=ba aJ i/\f.bq= .gD)->∃v c,(⟨bM,.hi v c⟩:dg)∈o/\c.length=k)))
 have key:∀i,cB aJ au i->ba aJ i≠bM->∀ {s:Mem} {l:List dC} {bk:jg} {U:Nat},dt bz U bk->fS bk s->s.self=ba aJ i->(∀f∈aL,f.dst=s.self->f∈l)->(∃a b,dK<=a/\a<=hi/\b<=β/\hE C k a b s/\s.view=V)->(∀f∈l,f.bq= .ac V.num->bH V.mem f.src=true->qR s.a7 f.src)->
   mw bz s/\∃a b,dK+1<=a/\a<=hi+1/\b<=uC/\hE C k a b (fy s).1/\(fy s).1.view=V/\(fy s).1.self=ba aJ i/\(fy s).2=kj (fy s).1:=by
  intro i hi ah s l bk U bf c5 ae af ⟨a,b,cP,a2,a3,y,rG⟩ QQ;have ac:b+1<=uC\/(b<=uC/\∀y∈s.view.mem,y≠s.self->s.self∈cv s.view.mem y->¬C y->qR s.a7 y):=by
   rcases U7 with e| ⟨e,h⟩
   ·omega
   ·refine .inr ⟨by omega,λz bx aeC aH aj=> ?_⟩;rw[rG]at bx aH;rw[ae]at aH aeC;obtain⟨f,az,f1,f2,f3⟩:=h i hi ah z bx aeC aH aj;have:=QQ f (af f az (f2.trans ae.symm)) f3 (by rw[f1];exact gz.2 bx)
    grind
  obtain⟨t1,t2,t3,t4,t5⟩:=Jc (b':=uC) bf c5 y ac aN (by grind)
  grind
 replace W:=W (λi hi=>by
  grind)
 replace W:=W (λi hi s l o f bk fw bf c5 ae az mh bu h5 ix cp=>by
  refine⟨λah=>px i hi ah s l o f bk fw bf c5 (ae.trans ah) az mh bu h5 ix (cp.1 ah),λah=> ?_⟩;obtain⟨⟨a,b,cP,a2,a3,y,rG⟩,ad,aN,bt⟩:=cp.2 ah;have CQ:¬C f.src:=by
   grind
  obtain⟨pw,lv,py,yy,u6,NS⟩:=U3 (J:=J) bf c5 y bu h5 (by grind) CQ (λaq=>by grind);rw[rG]at lv py;refine⟨⟨a,b,cP,a2,a3,pw,lv⟩,λg aw e hd=> ?_,λp an=> ?_,λ⟨g,aw,g1,g2⟩=> ?_⟩
  ·grind
  ·rcases eo.1 an with an|an
   ·grind
   ·exact⟨_,_,(u6 p an).2,y.af⟩
  ·rcases eo.1 aw with aw|aw
   ·obtain⟨v,c,dj,dM⟩:=bt ⟨g,aw,g1,g2⟩
    grind
   ·rw[eX.1 aw]at g1 g2;obtain⟨p,an,ff,fB⟩:=NS g2;refine⟨s.first,s.hist,mW _ ?_,y.af⟩;have:p= ⟨bM,.hi s.first s.hist⟩:=by
     obtain⟨aeu,aev⟩:=p
     grind
    grind)
 replace W:=W (λi hi s l o bk fw bf c5 ae af cp=>by
  by_cases ah:ba aJ i=bM
  ·grind
  ·exact(key i hi ah bf c5 ae af (cp.2 ah).1 (cp.2 ah).2.1).1)
 replace W:=W (λi hi s l o bk fw bf c5 Fv ae af cp dd=>by
  refine⟨λah=>tg i hi ah s l o bk fw bf c5 (ae.trans ah) (λf az mh=>af f az (by omega)) (cp.1 ah),λah=> ?_⟩;obtain⟨h1,ad,aN,bt⟩:=cp.2 ah;obtain⟨_,a,b,cU,dh,hR,hL,nk,qG,atX⟩:=key i hi ah bf c5 ae af h1 ad;rw[atX];refine⟨⟨a,b,cU,dh,hR,hL,nk⟩,qG,λp an=>mW _ an,λp an=> ?_,λ⟨g,aw,g1,g2,g3⟩=> ?_⟩
  ·rcases eo.1 an with an|an
   ·grind
   ·rcases I8 an with e| ⟨_,e⟩
    ·grind
    ·exact absurd hL.als e
  ·obtain⟨v,c,dj,dM⟩:=bt ⟨g,af g aw (g2.trans ae.symm),g1,g3⟩
   grind)
 obtain⟨dE,dL,O,eY,iI⟩:=W;exact⟨dE,dL,O,iI,λi hi ah=>(eY i hi).1 ah,λi hi ah=>(eY i hi).2 ah⟩
end
structure aeD(bz:aK->Int->Prop)(J:Int->Prop)(v0:aK)(aJ:List Int)(au:List Bool)(bM:Int)(T:Nat)(Ms:List Mem)(aL:List dC)(my:Mem->List dg->Prop):Prop where
 eb:∃jh:Mem->List dC->List dg->Prop,(∀i,cB aJ au i->ba aJ i=bM->jh (cx Ms i) [] [])/\
  (∀i,cB aJ au i->ba aJ i=bM->∀s l o f bk,bk.v0=v0->dt bz T bk->fS bk s->s.self=bM->f∈aL->f.dst=s.self->oc bk f.src f.bq->jh s l o->jh (fm s f.src f.bq).1 (l++ [f]) (o++(fm s f.src f.bq).2))/\
  (∀s l o,jh s l o->s.status=0)/\(∀i,cB aJ au i->ba aJ i=bM->∀s l o,(∀f∈aL,f.dst=bM->f∈l)->jh s l o->my (fy s).1 (o++(fy s).2))
 uA:∀s o,my s o->∀p∈o,p.bq= .gD
 vP:∀i,cB aJ au i->ba aJ i=bM->J bM
def Vj(C cN:Int->Prop)(V:aK)(aJ:List Int)(au:List Bool)(bM:Int)(Ms:List Mem)(aL:List dC):Prop:=∀i,cB aJ au i->ba aJ i≠bM->∀A,NW C cN V aJ Ms aL i A->(dm V A).2=true
def Jk(m:c0):Prop:=m.kind=1
inductive Vk(C cN J:Int->Prop)(V:aK)(k:Nat)(aJ:List Int)(au:List Bool)(bM κ ρ:Int)(hV:Nat)(r:Nat)(Ms:List Mem)(aL:List dC):Prop
 |eg{α:Nat}(dk:vO C cN J V k aJ au bM α Jk Ms aL)(h:∀i,cB aJ au i->ba aJ i≠bM->nw (cx Ms i).agr\/iu False 0 1 (cx Ms i).agr)(ec:Vj C cN V aJ au bM Ms aL)(ao:12+6*hV<=r)
 |Vl{α w:Nat}(dk:vO C cN J V k aJ au bM α Jk Ms aL)(h:∀i,cB aJ au i->ba aJ i≠bM->∃w':Nat,w<=w'/\w'<=w+1/\iu False 0 w' (cx Ms i).agr/\(ba aJ i=κ->w'+1<=8+6*hV))(ao:8+6*hV+4<=r+w)
 |Fx{α c gS:Nat}(dk:vO C cN J V k aJ au bM α (rF True ρ) Ms aL)(h:∀i,cB aJ au i->ba aJ i≠bM->(ba aJ i≠κ->∃w':Nat,w'<=9+6*hV+c/\iu True ρ w' (cx Ms i).agr)/\(ba aJ i=κ->sl ρ c (cx Ms i).agr))
   (cF:atN V aJ au bM κ (∀i,cB aJ au i->ba aJ i=κ->(cx Ms i).agr.phase=2) aL gS) (aj:c<=gS) (hk:gS<=3) (ao:4<=r+gS)
section
variable {bz:aK->Int->Prop} {C cN J:Int->Prop} {v0 V:aK} {aJ:List Int} {au:List Bool} {T k hV r:Nat} {bM κ ρ:Int} {Ms:List Mem} {aL:List dC} {cb:Int->Int->Bool} {my:Mem->List dg->Prop}
theorem Jl{yz:List Mem}{uu:List dC}{O:Nat->List dg}(hO:∀f,f∈uu↔∃i,cB aJ au i/\∃p∈O i,f=l1 (ba aJ i) p){j:Nat}(aq:cB aJ au j){x:Int}{m:c0}(an: (⟨x,.dX m⟩:dg)∈O j)(ab:m.view=V.num){P:c0->Prop}(dd:P m):Jj V uu x P:=
 ⟨l1 (ba aJ j) ⟨x,.dX m⟩,(hO _).2 ⟨j,aq,_,an,rfl⟩,rfl,m,rfl,ab,dd⟩
theorem atY(iE:∀a b,cb a b=false)(dI:oe bz v0 aJ au T Ms aL)(ay:T+1<=399)(aj:Aj bz C cN J v0 V k aJ au bM)(eh:CU C V aJ au bM κ ρ hV){U:List Int}(p6:U.Nodup)(Fw:∀x∈U,∃j,cB aJ au j/\ba aJ j≠bM/\ba aJ j=x)(TL:fP V.mem.length<=(U.length:Int))
  (j5:∀i,cB aJ au i->ba aJ i≠bM->bH V.mem (ba aJ i)=true) (AZ:hV<=16) (gU:aeD bz J v0 aJ au bM T Ms aL my) (cF:Vk C cN J V k aJ au bM κ ρ hV r Ms aL):
  vN cb au Ms aL/\oe bz v0 aJ au (T+1) (cJ cb au Ms aL).1 (cJ cb au Ms aL).2/\
  ∃O:Nat->List dg,(∀f,f∈ (cJ cb au Ms aL).2↔∃i,cB aJ au i/\∃p∈O i,f=l1 (ba aJ i) p)/\(∀i,cB aJ au i->ba aJ i=bM->my (cx (cJ cb au Ms aL).1 i) (O i))/\
   ((∃eH,eH+1=r/\Vk C cN J V k aJ au bM κ ρ hV eH (cJ cb au Ms aL).1 (cJ cb au Ms aL).2)\/Fu C cN J V k aJ au bM 1 (cJ cb au Ms aL).1 (cJ cb au Ms aL).2):=by
 obtain⟨⟨jh,uz,px,jp,tg⟩,uA,vP⟩:=gU;obtain⟨lG,th,ti⟩:=eh.kE;have aeE:∀i,cB aJ au i->ba aJ i≠bM->∃q:Nat,gG V.mem (ba aJ i)=(q:Int)/\q<=16:=λi hi ah=>NU aj.l2 (j5 i hi ah);have br: (1:Nat)<=1/\((∃m:c0,Jk m)->(1:Nat)=1):=⟨bP _,λ_=>rfl⟩
 have atZ: (1:Nat)<=1/\((∃m:c0,rF True ρ m)->(1:Nat)=1):=⟨bP _,λ_=>rfl⟩
 cases cF with
 |eg dk h ec ao=>
  have b4:=Vb (bz:=bz) (C:=C) (cN:=cN) (k:=k) (Ms:=Ms) (aL:=aL) (aJ:=aJ) (au:=au) (bM:=bM) aj.l2 (λi hi ah=>by
   grind)
  obtain⟨dE,dL,O,eY,iI,j0⟩:=Jh (cb:=cb) iE dI ay aj dk b4 uz px jp tg uA vP br;refine⟨dE,dL,O,eY,iI,j0.imp (λ⟨dj,dM⟩=>⟨r-1,by omega,.Vl (w:=1) dj (λi hi ah=> ?_) (by omega)⟩) id⟩;obtain⟨s,o,⟨ff,fB⟩,oM,_⟩:=dM i hi ah;have cw:=ec i hi ah _ fB;rcases ff with⟨cP,a2|a2⟩| ⟨w,cP,a2⟩
  ·grind
  ·grind
  ·rcases h i hi ah with h|h
   ·exact absurd h.prop cP.prop
   ·have:w=1:=cP.cG.symm.trans h.cG;subst this;exact⟨2,by omega,by omega,a2,λ_=>by omega⟩
 | @Vl α w dk h ao=>
  obtain⟨aeF,xy,mH,z3,z4⟩:=h lG th (by rw[ti];exact eh.Ve);have z4:=z4 ti;by_cases ax:aeF+1<8+6*hV
  ·have b4:=Vb (bz:=bz) (C:=C) (cN:=cN) (k:=k) (Ms:=Ms) (aL:=aL) (aJ:=aJ) (au:=au) (bM:=bM) aj.l2 (λi hi ah=>by
    obtain⟨q,bV,_⟩:=aeE i hi ah;obtain⟨w',pw,lv,py,yy⟩:=h i hi ah;refine .inr ⟨w',by omega,by omega,?_,py⟩;by_cases hk:ba aJ i=κ
    ·have hw:w'=aeF:=by
      have Jm: (cx Ms i).agr.cG=(w':Int):=py.cG;have he:i=lG:=by
       obtain⟨bk,_,oh⟩:=dI.g;have af:=ux dI;refine qg λbu=> ?_;have h1:i<Ms.length:=by have:=hi.1;omega
       have ad:lG<Ms.length:=by have:=th.1;omega
       exact oh.k3 i lG h1 ad bu (by rw[og dI h1,og dI ad,hk,ti])
      subst he;have:=Jm.symm.trans z3.cG;omega
     rw[hk,eh.y1];omega
    ·have:=eh.dK i hi ah hk;omega)
   obtain⟨dE,dL,O,eY,iI,j0⟩:=Jh (cb:=cb) iE dI ay aj dk b4 uz px jp tg uA vP br;refine⟨dE,dL,O,eY,iI,j0.imp (λ⟨dj,dM⟩=>⟨r-1,by omega,.Vl (w:=w+1) dj (λi hi ah=> ?_) (by omega)⟩) id⟩;obtain⟨s,o,⟨ff,fB⟩,oM,_⟩:=dM i hi ah;obtain⟨w',pw,lv,py,yy⟩:=h i hi ah;rcases ff with⟨cP,_⟩| ⟨gW,cP,a2⟩
   ·exact absurd cP.prop py.prop
   ·have:gW=(w':Int):=cP.cG.symm.trans py.cG;subst this;refine⟨w'+1,by omega,by omega,a2,λhk=> ?_⟩;have he:i=lG:=by
     obtain⟨bk,_,oh⟩:=dI.g;have af:=ux dI;refine qg λbu=> ?_;have h1:i<Ms.length:=by have:=hi.1;omega
     have ad:lG<Ms.length:=by have:=th.1;omega
     exact oh.k3 i lG h1 ad bu (by rw[og dI h1,og dI ad,hk,ti])
    subst he;have:=py.cG.symm.trans z3.cG;omega
  ·have b4:=atO (bz:=bz) (C:=C) (cN:=cN) (k:=k) (Ms:=Ms) (aL:=aL) (aJ:=aJ) (au:=au) (bM:=bM) aj.l2 eh (λi hi ah=>by
    obtain⟨q,bV,_⟩:=aeE i hi ah;obtain⟨w',pw,lv,py,yy⟩:=h i hi ah;refine⟨w',by omega,by omega,py,λhk=> ?_,λhk=> ?_⟩
    ·have:=eh.dK i hi ah hk;omega
    ·have he:i=lG:=by
      obtain⟨bk,_,oh⟩:=dI.g;have af:=ux dI;refine qg λbu=> ?_;have h1:i<Ms.length:=by have:=hi.1;omega
      have ad:lG<Ms.length:=by have:=th.1;omega
      exact oh.k3 i lG h1 ad bu (by rw[og dI h1,og dI ad,hk,ti])
     subst he;have:=py.cG.symm.trans z3.cG;omega)
   obtain⟨dE,dL,O,eY,iI,j0⟩:=Jh (cb:=cb) iE dI ay aj dk b4 uz px jp tg uA vP br;refine⟨dE,dL,O,eY,iI,j0.imp (λ⟨dj,dM⟩=> ?_) id⟩;obtain⟨at0,at1,⟨ff,fB⟩,oM,rE,_⟩:=dM lG th (by rw[ti];exact eh.Ve);obtain⟨Jn,NY,Vm⟩:=fB ti;have b3:∀i,cB aJ au i->ba aJ i≠bM->(ba aJ i≠κ->∃w':Nat,w'<=9+6*hV+0/\iu True ρ w' (cx (cJ cb au Ms aL).1 i).agr)/\(ba aJ i=κ->sl ρ ((0:Nat):Int) (cx (cJ cb au Ms aL).1 i).agr):=λi hi ah=>by
    obtain⟨s,o,⟨cY,cZ⟩,_⟩:=dM i hi ah;obtain⟨w',pw,lv,py,yy⟩:=h i hi ah;refine⟨λhk=> ?_,λhk=>(cZ hk).1⟩;obtain⟨gW,cP,a2⟩:=cY hk;have:gW=(w':Int):=cP.cG.symm.trans py.cG;subst this;exact⟨w'+1,by omega,a2⟩
   have mr: (cx (cJ cb au Ms aL).1 lG).agr.phase=2->∀i,cB aJ au i->ba aJ i=κ->(cx (cJ cb au Ms aL).1 i).agr.phase=2:=λe i hi hk=>by
    have he:i=lG:=by
     obtain⟨bk,_,oh⟩:=dI.g;have af:=ux dI;refine qg λbu=> ?_;have h1:i<Ms.length:=by have:=hi.1;omega
     have ad:lG<Ms.length:=by have:=th.1;omega
     exact oh.k3 i lG h1 ad bu (by rw[og dI h1,og dI ad,hk,ti])
    grind
   rcases Jn.nN with⟨e,_⟩| ⟨e,_⟩
   ·refine⟨r-1,by omega,.Fx (c:=0) (gS:=0) dj b3 (λj aq kl qf=> ?_) (bP _) (by omega) (by omega)⟩;obtain⟨m,aA,m1,m2,m3⟩:=NY e _ (gz.1 (j5 j aq kl)) qf;exact Jl (yz:=Ms) eY th (rE _ aA) m1 ⟨m2,m3⟩
   ·refine⟨r-1,by omega,.Fx (c:=0) (gS:=2) dj b3 ⟨mr e,λj aq kl qf=> ?_⟩ (by omega) (by omega) (by omega)⟩;obtain⟨m,aA,m1,m2⟩:=Vm e _ (gz.1 (j5 j aq kl)) qf;exact Jl (yz:=Ms) eY th (rE _ aA) m1 m2
 | @Fx α c gS dk h cF oz hk ao=>
  have b4:=atS (bz:=bz) (C:=C) (cN:=cN) (k:=k) (Ms:=Ms) (aL:=aL) (aJ:=aJ) (au:=au) (bM:=bM) (c:=(c:Int)) aj.l2 eh (by omega) (by omega) (λi hi ah=>by
   obtain⟨h1,ad⟩:=h i hi ah;refine⟨λhk=> ?_,ad⟩;obtain⟨w',pw,lv⟩:=h1 hk;have:=eh.dK i hi ah hk
   grind)
  obtain⟨dE,dL,O,eY,iI,j0⟩:=Jh (cb:=cb) iE dI ay aj dk b4 uz px jp tg uA vP atZ;refine⟨dE,dL,O,eY,iI,?_⟩;rcases j0 with⟨dj,dM⟩|j0
  ·obtain⟨at0,at1,⟨ff,fB,Cx⟩,oM,rE,_⟩:=dM lG th (by rw[ti];exact eh.Ve);obtain⟨Jn,NY,Vm,aeG,at2,awK,awL,u8⟩:=fB ti;have b3:∀i,cB aJ au i->ba aJ i≠bM->(ba aJ i≠κ->∃w':Nat,w'<=9+6*hV+(c+1)/\iu True ρ w' (cx (cJ cb au Ms aL).1 i).agr)/\(ba aJ i=κ->sl ρ ((c+1:Nat):Int) (cx (cJ cb au Ms aL).1 i).agr):=λi hi ah=>by
    obtain⟨s,o,⟨cY,cZ,_⟩,_⟩:=dM i hi ah;refine⟨λhk=> ?_,λhk=>(cZ hk).1⟩;obtain⟨w',pw,lv⟩:=(h i hi ah).1 hk;obtain⟨gW,cP,a2⟩:=cY hk;have:gW=(w':Int):=cP.cG.symm.trans lv.cG;subst this;exact⟨w'+1,by omega,a2⟩
   have Jm:∀i,cB aJ au i->ba aJ i=κ->i=lG:=λi hi hk=>by
    obtain⟨bk,_,oh⟩:=dI.g;have af:=ux dI;refine qg λbu=> ?_;have h1:i<Ms.length:=by have:=hi.1;omega
    have ad:lG<Ms.length:=by have:=th.1;omega
    exact oh.k3 i lG h1 ad bu (by rw[og dI h1,og dI ad,hk,ti])
   have mr: (cx (cJ cb au Ms aL).1 lG).agr.phase=2->∀i,cB aJ au i->ba aJ i=κ->(cx (cJ cb au Ms aL).1 i).agr.phase=2:=λe i hi hk=>by
    grind
   match gS,cF with
   |0,cF=>
    refine .inl ⟨r-1,by omega,.Fx (c:=c+1) (gS:=1) dj b3 (λj aq kl qf=> ?_) (by omega) (by omega) (by omega)⟩;obtain⟨f,az,fd,m,ob,qj,mk,ms⟩:=cF j aq kl qf;obtain⟨s,o,⟨_,_,iN⟩,_,mm,_⟩:=dM j aq kl;obtain⟨q,bV,fk,jo,v3⟩:=(iN qf).1 f az fd m ob qj mk;rw[ms]at bV;exact Jl (yz:=Ms) eY aq (mm _ bV) fk ⟨jo,v3⟩
   |1,cF=>
    have aG: (cx (cJ cb au Ms aL).1 lG).agr.phase=2:=by
     rcases Jn.nN with⟨e,_⟩| ⟨e,_⟩
     ·exfalso;have ax:=at2 e;have bC:∀x∈U,has (cx (cJ cb au Ms aL).1 lG).agr.bw x:=λx ah=>by
       obtain⟨j,aq,kl,j7⟩:=Fw x ah;by_cases qf:ba aJ j=κ
       ·grind
       ·obtain⟨f,az,fd,m,ob,qj,mk,ms⟩:=cF j aq kl qf
        grind
      have hlen:U.length<=(cx (cJ cb au Ms aL).1 lG).agr.bw.length:=by
       have:=rn (b:=(cx (cJ cb au Ms aL).1 lG).agr.bw.map (·.mem)) p6 (λx ah=>by
        obtain⟨y,bn,e⟩:=bC x ah
        grind)
       grind
      omega
     omega
    refine .inl ⟨r-1,by omega,.Fx (c:=c+1) (gS:=2) dj b3 ⟨mr aG,λj aq kl qf=> ?_⟩ (by omega) (by omega) (by omega)⟩;obtain⟨m,aA,m1,m2⟩:=Vm aG _ (gz.1 (j5 j aq kl)) qf;exact Jl (yz:=Ms) eY th (rE _ aA) m1 m2
   |2,cF=>
    have aG:=aeG (cF.1 lG th ti);refine .inl ⟨r-1,by omega,.Fx (c:=c+1) (gS:=3) dj b3 ⟨mr aG,λj aq kl qf=> ?_⟩ (by omega) (by omega) (by omega)⟩;obtain⟨f,az,fd,m,ob,qj,mk⟩:=cF.2 j aq kl qf;obtain⟨s,o,⟨_,_,iN⟩,_,mm,_⟩:=dM j aq kl;obtain⟨q,bV,fk,jo,v3⟩:=(iN qf).2 f az fd m ob qj mk κ eh.mem (λe=>qf e.symm);exact Jl (yz:=Ms) eY aq (mm _ bV) fk ⟨jo,v3⟩
   |n+3,cF=>
    exfalso;have aG:=aeG (cF.1 lG th ti);have:=u8 (λj aq kl qf=>by
     obtain⟨f,az,fd,m,ob,qj,mk,ms⟩:=cF.2 j aq kl qf
     grind) aG U p6 Fw
    omega
  grind
end
structure NZ(V:aK)(C cN:Int->Prop) [DecidablePred C](L:List Int):Prop where
 up:L.Pairwise λx y=>x<y
 mem:∀x,x∈L↔cN x
 cs:∀x,cN x->C x/\x∈V.mem
 ok: (dJ V L).2=0
 b5:∀x∈L,(cv V.mem x).length=5
 ad:∀x∈L,2<=(List.range 5).countP λr=>decide (¬C ((cv V.mem x).getD r 0))
def nO(_:Int):Prop:=False
section
variable {bz:aK->Int->Prop} {C cN:Int->Prop} [DecidablePred C] {v0 V:aK} {aJ:List Int} {au:List Bool} {T k hV r α:Nat} {κ ρ:Int} {Ms:List Mem} {aL:List dC} {cb:Int->Int->Bool} {L:List Int} {iF:c0->Prop}
variable{J:Int->Prop}{bM:Int}
theorem aeH(dk:vO C cN J V k aJ au bM α iF Ms aL){i j:Nat}(hi:cB aJ au i)(ah:ba aJ i≠bM)(aq:cB aJ au j)(kl:ba aJ j≠bM)(fW:ba aJ i=ba aJ j->i=j){A:List bU}(al:NW C cN V aJ Ms aL i A){z:bU}(bx:z∈ (cx Ms j).als):z∈A:=by
 by_cases e:ba aJ i=ba aJ j
 ·rw[<-fW e]at bx;exact al.yx z bx
 ·obtain⟨f,az,f1,f2,f3⟩:=dk.hD j i aq hi kl ah (λh=>e h.symm) (List.ne_nil_of_mem bx);exact al.hD f az f2 _ f3 z bx
theorem at3(aj:Aj bz C cN nO v0 V k aJ au 0)(dk:vO C cN nO V k aJ au 0 α iF Ms aL)(Nv:10<=α)(ec:NZ V C cN L)(bu:∀i j,cB aJ au i->cB aJ au j->ba aJ i=ba aJ j->i=j):Vj C cN V aJ au 0 Ms aL:=λi hi ah A al=>by
 have:=asX (v:=V) (A:=A) al.val (C:=C) (L:=L) ec.up (λx h aA=>(ec.mem x).2 (aj.cs x h aA)) (λz bx=>⟨(ec.mem _).2 (al.sub z bx).1,(al.sub z bx).2⟩) (λz fk jo v3=> ?_) ec.b5 ec.ad aj.l2 ec.ok
 ·grind
 ·obtain⟨dw,fV,aaE,QR,awM,at4,at5⟩:=Fa fk;have BE:z.ka∈V.mem:=by
   rw[<-at5];exact aed (kF aj.l2).2.2 at4 (by omega)
  obtain⟨j,aq,j7,kl⟩:=aj.all _ BE v3;obtain⟨a,b,bb,ac,cr,b2⟩:=dk.m j aq (by omega);obtain⟨s1,s2⟩:=ec.cs _ ((ec.mem _).1 jo);exact aeH dk hi ah aq (by omega) (bu i j hi aq) al (b2 (by omega) z fk s1 s2 j7.symm)
theorem at6(dk:vO C cN J V k aJ au bM α iF Ms aL){g:Int}(aw:∀y,cN y->y=g)(CN:∀r,(cv V.mem g).getD r 0≠g)(aW: (dJ V [g]).2=0)(bu:∀i j,cB aJ au i->cB aJ au j->ba aJ i=ba aJ j->i=j)
  {j:Nat} (aq:cB aJ au j) (kl:ba aJ j≠bM) (ab:dF V (cx Ms j).als=true) (bt: (dm V (cx Ms j).als).2=true) (ae:qd C cN (cx Ms j).als):Vj C cN V aJ au bM Ms aL:=λi hi ah A al=>by
 have h1:=(aee ab (λz bx=>aw _ (ae z bx).1) CN aW).2 bt;have ad:=aqW ab al.val (λz bx=>aeH dk hi ah aq kl (bu i j hi aq) al bx) g;rw[(aee al.val (λz bx=>aw _ (al.sub z bx).1) CN aW).1 (by omega)]
inductive N0(C cN:Int->Prop)(V:aK)(k:Nat)(aJ:List Int)(au:List Bool)(κ ρ:Int)(hV:Nat)(eg:Prop)(r:Nat)(Ms:List Mem)(aL:List dC):Prop
 |Jo{dK hi:Nat}(aA:∀i,cB aJ au i->∃a b,dK<=a/\a<=hi/\b<=2/\hE C k a b (cx Ms i)/\(cx Ms i).view=V)(nl:∀f∈aL,kX V k nO (λ_=>False) (λ_=>False) f.src f.bq)
   (vQ: (dK=0/\∀i,cB aJ au i->∃a,hE C k a 0 (cx Ms i))\/∀i,cB aJ au i->∀y∈V.mem,y≠ba aJ i->ba aJ i∈cv V.mem y->¬C y->∃f∈aL,f.src=y/\f.dst=ba aJ i/\f.bq= .ac V.num)
   (Gu: (hi=dK/\dK<=8)\/(hi=dK+1/\dK<=7/\eg)) (ao:22+6*hV<=r+dK)
 |fw{α:Nat}(dk:vO C cN nO V k aJ au 0 α Jk Ms aL)(h:∀i,cB aJ au i->nw (cx Ms i).agr)(bb:α=9\/(α=8/\eg))(ao:22+6*hV<=r+α)
 |N1(h:Vk C cN nO V k aJ au 0 κ ρ hV r Ms aL)
theorem Vn(aR:∀i,cB aJ au i->ba aJ i≠0):aeD bz nO v0 aJ au 0 T Ms aL (λ_ _=>False):=
 ⟨⟨λ_ _ _=>False,λi hi e=>absurd e (aR i hi),λi hi e=>absurd e (aR i hi),λ_ _ _ h=>h.elim,λi hi e=>absurd e (aR i hi)⟩,λ_ _ h=>h.elim,λi hi e=>absurd e (aR i hi)⟩
theorem at7{mU:List bU->Prop}{uy:c0->Prop}{src:Int}{f:lj}(h:kX V k J (λ_=>False) (λ_=>False) src f):kX V k J mU uy src f:=by
 cases f with
 |ac n=>exact h
 |hD n l=>
  rcases h with h|h
  ·exact .inl h
  grind
 |dX m=>
  rcases h with h|h
  ·exact .inl h
  grind
 |hi v c=>exact h
 |gD=>exact h
theorem at8{a b:Nat}{s:Mem}(h:hE C k a b s):nw s.agr:=by
 rw[h.agr];exact as0 _ _
theorem aeI{a b:Nat}{s:Mem}(h:hE C k a b s)(ab:s.view=V):mx V C cN k a b [] [] s:=
 ⟨h.b7,h.af,ab,h.a7,(λf az=>by cases az),(λz bx=>by cases bx),(by rw[h.als];exact λz bx=>by cases bx),(λf az=>by cases az),(λf az=>by cases az)⟩
theorem aeJ{dK:Nat}(o3:dK<=8\/∀i,cB aJ au i->ba aJ i≠bM->∃b,b<=3/\hE C k dK b (cx Ms i))(sJ:dK<=9)(aA:∀i,cB aJ au i->ba aJ i≠bM->∃a b,dK<=a/\a<=dK+1/\b<=3/\hE C k a b (cx Ms i)/\(cx Ms i).view=V)(nl:∀f∈aL,kX V k J (λ_=>False) (λ_=>False) f.src f.bq)
  (vQ:∀i,cB aJ au i->ba aJ i≠bM->∀y∈V.mem,y≠ba aJ i->ba aJ i∈cv V.mem y->¬C y->∃f∈aL,f.src=y/\f.dst=ba aJ i/\f.bq= .ac V.num) (ie:∀i,cB aJ au i->ba aJ i≠bM->ba aJ i∈V.mem/\¬C (ba aJ i)) (hC:b0 V=true):vO C cN J V k aJ au bM dK Jk Ms aL:=by
 refine⟨λi hi ah=> ?_,λf az=>at7 (nl f az),λi j hi aq ah kl aH=> ?_,λi j hi aq ah kl bu bb=> ?_⟩
 ·rcases o3 with AX|h
  ·obtain⟨a,b,cP,a2,a3,y,rG⟩:=aA i hi ah;exact⟨a,b,by omega,a3,aeI y rG,λNv=>by omega⟩
  ·obtain⟨b,ac,y⟩:=h i hi ah;obtain⟨_,_,_,_,_,_,rG⟩:=aA i hi ah;exact⟨dK,b,.inl rfl,ac,aeI y rG,λNv=>by omega⟩
 ·have Ho:=ie j aq kl;have:=ab8 (kF hC).2.2 Ho.1 _ aH
  grind
 ·obtain⟨a,b,_,_,_,y,_⟩:=aA i hi ah;exact absurd y.als bb
theorem aeK(iE:∀a b,cb a b=false)(dI:oe bz v0 aJ au T Ms aL)(ay:T+1<=399)(aj:Aj bz C cN nO v0 V k aJ au 0)(aR:∀i,cB aJ au i->ba aJ i≠0)(eh:CU C V aJ au 0 κ ρ hV){U:List Int}(p6:U.Nodup)(Fw:∀x∈U,∃j,cB aJ au j/\ba aJ j≠0/\ba aJ j=x)(TL:fP V.mem.length<=(U.length:Int))
  (j5:∀i,cB aJ au i->bH V.mem (ba aJ i)=true) (AZ:hV<=16) (ec:NZ V C cN L) {eg:Prop} (br:eg->∃g,(∀y,cN y->y=g)/\(∀r,(cv V.mem g).getD r 0≠g)/\(dJ V [g]).2=0) (cF:N0 C cN V k aJ au κ ρ hV eg r Ms aL):
  vN cb au Ms aL/\oe bz v0 aJ au (T+1) (cJ cb au Ms aL).1 (cJ cb au Ms aL).2/\
   ((∃eH,eH+1=r/\N0 C cN V k aJ au κ ρ hV eg eH (cJ cb au Ms aL).1 (cJ cb au Ms aL).2)\/Fu C cN nO V k aJ au 0 1 (cJ cb au Ms aL).1 (cJ cb au Ms aL).2):=by
 have Jm:∀i j,cB aJ au i->cB aJ au j->ba aJ i=ba aJ j->i=j:=λi j hi aq e=>by
  obtain⟨bk,_,oh⟩:=dI.g;have af:=ux dI;refine qg λbu=> ?_;have h1:i<Ms.length:=by have:=hi.1;omega
  have ad:j<Ms.length:=by have:=aq.1;omega
  exact oh.k3 i j h1 ad bu (by rw[og dI h1,og dI ad,e])
 have ie:∀i,cB aJ au i->ba aJ i≠0->ba aJ i∈V.mem/\¬C (ba aJ i):=λi hi _=>⟨gz.1 (j5 i hi),(aj.up i hi).1⟩;cases cF with
 |N1 h=>
  obtain⟨dE,dL,O,eY,iI,j0⟩:=atY (cb:=cb) iE dI ay aj eh p6 Fw TL (λi hi _=>j5 i hi) AZ (Vn aR) h;exact⟨dE,dL,j0.imp (λ⟨eH,e,h⟩=>⟨eH,e,.N1 h⟩) id⟩
 | @fw α dk h bb ao=>
  obtain⟨⟨jh,uz,px,jp,tg⟩,uA,vP⟩:=Vn (bz:=bz) (v0:=v0) (T:=T) (Ms:=Ms) (aL:=aL) aR;have b4:=Vb (bz:=bz) (C:=C) (cN:=cN) (k:=k) (Ms:=Ms) (aL:=aL) (aJ:=aJ) (au:=au) (bM:=0) aj.l2 (λi hi ah=>.inl (h i hi));obtain⟨dE,dL,O,eY,iI,j0⟩:=Jh (cb:=cb) iE dI ay aj dk b4 uz px jp tg uA vP (β:=1) ⟨bP _,λ_=>rfl⟩;refine⟨dE,dL,j0.imp (λ⟨dj,dM⟩=> ?_) id⟩;have bV:∀i,cB aJ au i->(nw (cx (cJ cb au Ms aL).1 i).agr\/iu False 0 1 (cx (cJ cb au Ms aL).1 i).agr/\(dm V (cx (cJ cb au Ms aL).1 i).als).2=true)/\dF V (cx (cJ cb au Ms aL).1 i).als=true/\qd C cN (cx (cJ cb au Ms aL).1 i).als:=λi hi=>by
   obtain⟨s,o,⟨ff,fB⟩,oM,_⟩:=dM i hi (aR i hi);rw[oM];refine⟨?_,fB.val,fB.sub⟩;rcases ff with⟨cP,a2|a2⟩| ⟨w,cP,a2⟩
   ·grind
   ·grind
   ·exact absurd (h i hi).prop cP.prop
  have Fp:∀i,cB aJ au i->ba aJ i≠0->nw (cx (cJ cb au Ms aL).1 i).agr\/iu False 0 1 (cx (cJ cb au Ms aL).1 i).agr:=λi hi _=>(bV i hi).1.imp id (λh=>h.1);rcases bb with rfl| ⟨rfl,h1⟩
  ·exact⟨r-1,by omega,.N1 (.eg dj Fp (at3 aj dj (bP _) ec Jm) (by omega))⟩
  ·by_cases ct:∀i,cB aJ au i->nw (cx (cJ cb au Ms aL).1 i).agr
   ·exact⟨r-1,by omega,.fw (α:=9) dj ct (.inl rfl) (by omega)⟩
   ·obtain⟨j,aq,GH⟩:∃j,cB aJ au j/\¬nw (cx (cJ cb au Ms aL).1 j).agr:=qg λaW=>ct λi hi=>qg λad=>aW ⟨i,hi,ad⟩;obtain⟨g,g1,g2,g3⟩:=br h1;obtain⟨eE,gW,tb⟩:=bV j aq;exact⟨r-1,by omega,.N1 (.eg dj Fp (at6 dj g1 g2 g3 Jm aq (aR j aq) gW (eE.resolve_left GH).2 tb) (by omega))⟩
 | @Jo dK hi aA nl vQ Gu ao=>
  have bV:hi+1<10\/∀y∈V.mem,¬C y:=.inl (by rcases Gu with h|h<;>omega);have hg:=λi hi=>(aj.up i hi).1;have at9:∀y∈V.mem,¬C y->∃j,cB aJ au j/\ba aJ j≠0/\ba aJ j=y:=λy bn Jg=>by
   obtain⟨j,aq,j7,kl⟩:=aj.all y bn Jg
   grind
  obtain⟨β,awN,dE,dL,O,eY,j0⟩:∃β,β<=2/\vN cb au Ms aL/\oe bz v0 aJ au (T+1) (cJ cb au Ms aL).1 (cJ cb au Ms aL).2/\∃O:Nat->List dg,(∀f,f∈ (cJ cb au Ms aL).2↔∃i,cB aJ au i/\∃p∈O i,f=l1 (ba aJ i) p)/\
    ∀i,cB aJ au i->ba aJ i≠0->(∃a b,dK+1<=a/\a<=hi+1/\b<=β/\hE C k a b (cx (cJ cb au Ms aL).1 i)/\(cx (cJ cb au Ms aL).1 i).view=V)/\(cx (cJ cb au Ms aL).1 i).self=ba aJ i/\(∀p∈kj (cx (cJ cb au Ms aL).1 i),p∈O i)/\(∀p∈O i,p.bq= .ac V.num\/∃v c,p.bq= .hi v c/\c.length<=k):=by
   rcases vQ with⟨gn,M9⟩|vQ
   ·obtain⟨dE,dL,O,eY,iI,j0⟩:=Vi (cb:=cb) (C:=C) (J:=nO) (V:=V) (k:=k) (dK:=dK) (hi:=hi) (β:=0) (uC:=1) (bM:=0) (jh:=λ_ _ _=>False) (my:=λ_ _=>False) iE dI ay hg (λi hi _=>by
      obtain⟨a,b,cP,a2,a3,y,rG⟩:=aA i hi;obtain⟨wN,pI⟩:=M9 i hi;by_cases e:wN=a
      ·grind
      ·refine⟨a,0,cP,a2,bP _,⟨y.b7,y.af,y.als,y.agr,λe he=>⟨((y.a7 e he).1),((pI.a7 e he).2)⟩⟩,rG⟩) nl (λ_ h=>h.elim) (.inl rfl) (by decide) bV
     (λi hi e=>absurd e (aR i hi)) (λi hi e=>absurd e (aR i hi)) (λi hi e=>absurd e (aR i hi)) (λi hi e=>absurd e (aR i hi))
    exact⟨1,by decide,dE,dL,O,eY,λi hi ah=>by
     grind⟩
   ·obtain⟨dE,dL,O,eY,iI,j0⟩:=Vi (cb:=cb) (C:=C) (J:=nO) (V:=V) (k:=k) (dK:=dK) (hi:=hi) (β:=2) (uC:=2) (bM:=0) (jh:=λ_ _ _=>False) (my:=λ_ _=>False) iE dI ay hg (λi hi _=>aA i hi) nl (λ_ h=>h.elim) (.inr ⟨rfl,λi hi _=>vQ i hi⟩) (by decide) bV
     (λi hi e=>absurd e (aR i hi)) (λi hi e=>absurd e (aR i hi)) (λi hi e=>absurd e (aR i hi)) (λi hi e=>absurd e (aR i hi))
    exact⟨2,bP _,dE,dL,O,eY,λi hi ah=>by
     grind⟩
  refine⟨dE,dL,.inl ⟨r-1,by rcases Gu with h|h<;>omega,?_⟩⟩;have tU:∀i,cB aJ au i->∃a b,dK+1<=a/\a<=hi+1/\b<=2/\hE C k a b (cx (cJ cb au Ms aL).1 i)/\(cx (cJ cb au Ms aL).1 i).view=V:=λi hi=>by
   grind
  have N2:∀f∈ (cJ cb au Ms aL).2,kX V k nO (λ_=>False) (λ_=>False) f.src f.bq:=λf az=>by
   obtain⟨i,hi,p,an,rfl⟩:=(eY f).1 az;obtain⟨_,_,_,eG⟩:=j0 i hi (aR i hi);show kX V k nO _ _ (ba aJ i) p.bq;rcases eG p an with e| ⟨v,c,e,h⟩
   ·rw[e];exact lk _
   ·rw[e];exact h
  have N3:∀i,cB aJ au i->∀y∈V.mem,y≠ba aJ i->ba aJ i∈cv V.mem y->¬C y->∃f∈ (cJ cb au Ms aL).2,f.src=y/\f.dst=ba aJ i/\f.bq= .ac V.num:=λi hi y bn aeL aH Jg=>by
   obtain⟨j,aq,RR,j7⟩:=at9 y bn Jg;obtain⟨⟨a,b,cP,a2,a3,aua,rG⟩,dM,gJ,eG⟩:=j0 j aq RR;have:=NO (s:=cx (cJ cb au Ms aL).1 j) (x:=ba aJ i) (by grind);rw[rG]at this;exact⟨l1 (ba aJ j) ⟨ba aJ i,.ac V.num⟩,(eY _).2 ⟨j,aq,_,gJ _ this,rfl⟩,j7,rfl,rfl⟩
  have PQ:∀i,cB aJ au i->nw (cx (cJ cb au Ms aL).1 i).agr:=λi hi=>by
   obtain⟨a,b,_,_,_,y,_⟩:=tU i hi;exact at8 y
  rcases Gu with⟨rfl,AX⟩| ⟨rfl,iV,aH⟩
  ·by_cases h:hi+1<=8
   ·exact .Jo (dK:=hi+1) (hi:=hi+1) tU N2 (.inr N3) (.inl ⟨rfl,h⟩) (by omega)
   ·have se:hi+1=9:=by omega
    refine .fw (α:=hi+1) (aeJ (.inr λi hd _=> ?_) (by omega) (λi hd _=> ?_) N2 (λi hd _=>N3 i hd) ie aj.l2) PQ (.inl se) (by omega);all_goals grind
  ·by_cases h:dK+1<=7
   ·exact .Jo (dK:=dK+1) (hi:=dK+1+1) tU N2 (.inr N3) (.inr ⟨rfl,h,aH⟩) (by omega)
   ·have pq:dK+1=8:=by omega
    refine .fw (α:=dK+1) (aeJ (.inl (by omega)) (by omega) (λi hd _=> ?_) N2 (λi hd _=>N3 i hd) ie aj.l2) PQ (.inr ⟨pq,aH⟩) (by omega)
    grind
end
structure qT(v:aK)(gone:List Int)(au:List Bool):Prop where
 ab:b0 v=true
 aW:v.num<=1000
 b5:v.mem.length<=5
 qw:au.length=v.mem.length
 au:∀i,i<v.mem.length->(au.getD i true=true↔ba v.mem i∈gone)
 sub:∀y∈gone,y∈v.mem
 up:gone.Pairwise λx y=>x<y
 k3:gone≠ []
 ok: (dJ v gone).2=0
 seen:∀g∈gone,2<=(List.range 5).countP λr=>decide (¬(cv v.mem g).getD r 0∈gone)
def oP(gone:List Int)(V:aK)(y:Int):Prop:=y∈gone/\y∈V.mem
def nP(v:aK)(gone:List Int):List Int:=v.mem.filter λy=> !bH gone y
structure tj(v:aK)(gone:List Int)(V:aK)(k:Nat):Prop where
 l2:b0 V=true
 num:V.num=v.num+k
 sub:∀x∈V.mem,x∈v.mem
 nP:∀x∈v.mem,x∉gone->x∈V.mem
 pf: (gone.filter λy=>bH V.mem y).length+k<=gone.length
section
variable {v V:aK} {gone:List Int} {au:List Bool} {T k:Nat} {G:jg}
theorem w9:x∈nP v gone↔x∈v.mem/\x∉gone:=by
 unfold nP;rw[h2];have: ((!bH gone x)=true)↔x∉gone:=by
  rw[mV,<-Oh,gz]
 grind
theorem yA(ab:b0 V=true):V.mem.Nodup:=BD (lW.1 (kF ab).2.2).2.1
theorem Fy(h:qT v gone au):v.mem.length<2* (nP v gone).length/\(nP v gone).length+gone.length<=v.mem.length:=by
 obtain⟨h1,ad,aN,_⟩:=IL h.ok;rw[IM h.ab ad]at aN;refine⟨by unfold nP;omega,?_⟩;have e: (nP v gone).length+(v.mem.filter λy=>bH gone y).length=v.mem.length:=by
  unfold nP;have:∀l:List Int,(l.filter λy=> !bH gone y).length+(l.filter λy=>bH gone y).length=l.length:=by
   intro l;induction l with
   |nil=>rfl
   |cons x l aY=>
    grind
  grind
 have:gone.length<=(v.mem.filter λy=>bH gone y).length:=rn (BD h.up) λx ah=>h2.2 ⟨h.sub x ah,gz.2 ah⟩;omega
theorem N4(h:qT v gone au):1<=gone.length/\gone.length<=2/\(gone.length=2->v.mem.length=5)/\3<=v.mem.length:=by
 have h1:=Fy h;have ad:=h.b5;have aN:=Au.2 h.k3;omega
theorem N5(h:qT v gone au):tj v gone v 0:=⟨h.ab,by omega,λ_ h=>h,λ_ h _=>h,by grind⟩
theorem aeM(h:qT v gone au)(bf:dt (oP gone) T G)(fw:G.v0=v):∀j,j<=G.D.length->tj v gone (eV G j) j
 |0,_=>by
  have:eV G 0=v:=fw;rw[this];exact N5 h
 |j+1,aq=>by
  have aY:=aeM h bf fw j (by omega);have pP:=(s3 aY.l2).1;have dd:=H2 pP (bf.qO j (by omega)) (bf.dec j aq);have nU:=bf.Ac j (by omega) _ dd;have hy: (dJ (eV G j) (G.D.getD j [])).2=0:=fi (bf.oa.2 j aq);have bu:G.D.getD j []≠ []:=wZ (v:=eV G j) (ep hy);have kQ:=jZ bf aq;have j5:∀x,x∈ (eV G (j+1)).mem↔x∈ (eV G j).mem/\x∉G.D.getD j []:=λx=>by
   have e:eV G (j+1)=(dJ (eV G j) (G.D.getD j [])).1:=rfl;rw[e,(Fc hy).2.2 x];constructor
   ·rintro(h| ⟨h1,ad⟩)
    ·exact h
    ·exact absurd (nU x h1).2 ad
   grind
  refine⟨kQ.1,by grind,λx ah=>aY.sub x ((j5 x).1 ah).1,λx ah aw=>(j5 x).2 ⟨aY.nP x ah aw,λaj=>aw (nU x aj).1⟩,?_⟩;obtain⟨y,bn⟩:=xd (Au.2 bu);have mg:=nU y bn;have ax: (gone.filter λz=>bH (eV G (j+1)).mem z).length+1<=(gone.filter λz=>bH (eV G j).mem z).length:=by
   have:=rn (a:=y:: (gone.filter λz=>bH (eV G (j+1)).mem z)) (b:=gone.filter λz=>bH (eV G j).mem z) (by
    rw[C8];refine⟨λaA=> ?_,(BD h.up).sublist vZ⟩;have:=gz.1 (h2.1 aA).2
    grind) (λx ah=>by
    rcases ny.1 ah with rfl|ah
    ·exact h2.2 ⟨mg.1,gz.2 mg.2⟩
    ·obtain⟨dj,dM⟩:=h2.1 ah;exact h2.2 ⟨dj,gz.2 ((j5 x).1 (gz.1 dM)).1⟩)
   omega
  have:=aY.pf;omega
theorem N6{l:List Int}{i:Nat}(h:i<l.length):ba l i=l[i]:=by simp[ba,h]
theorem CV(h:qT v gone au){i:Nat}(hi:cB v.mem au i):ba v.mem i∈v.mem/\ba v.mem i∉gone:=by
 refine⟨by rw[N6 hi.1];simp,λaw=> ?_⟩;have:=(h.au i hi.1).2 aw;rw[hi.2]at this
 grind
theorem Fz(h:qT v gone au){y:Int}(bn:y∈v.mem)(aw:y∉gone):∃i,cB v.mem au i/\ba v.mem i=y:=by
 obtain⟨i,hi,e⟩:=e8 bn;refine⟨i,⟨hi,?_⟩,by rw[N6 hi,e]⟩;cases aa:au.getD i true
 ·rfl
 ·have:=(h.au i hi).1 aa;rw[N6 hi,e]at this
  grind
theorem N7(ab:b0 v=true){y:Int}(bn:y∈v.mem):y≠0:=by
 have:=(Cc (kF ab).2.2 y bn).1;omega
theorem N8(h:qT v gone au)(ed:tj v gone V k):Aj (oP gone) (λy=>y∈gone) (oP gone V) nO v V k v.mem au 0:=
 ⟨λi hi=>⟨(CV h hi).2,λ_ ae=>(CV h hi).2 ae.1⟩,λy bn aj=>by
  obtain⟨i,hi,e⟩:=Fz h (ed.sub y bn) aj;exact⟨i,hi,e,N7 h.ab (ed.sub y bn)⟩,ed.num,ed.l2,λ_ h=>h,λy aj aA=>⟨aj,aA⟩,λ_ h=>h.elim⟩
theorem aeN(h:qT v gone au)(ed:tj v gone V k): (nP v gone).Nodup/\(∀x∈nP v gone,∃j,cB v.mem au j/\ba v.mem j≠0/\ba v.mem j=x)/\fP V.mem.length<=((nP v gone).length:Int):=by
 refine⟨(yA h.ab).sublist vZ,λx ah=> ?_,?_⟩
 ·obtain⟨h1,ad⟩:=w9.1 ah;obtain⟨j,aq,e⟩:=Fz h h1 ad;exact⟨j,aq,by rw[e];exact N7 h.ab h1,e⟩
 ·rw[L7 ed.l2];have h1:=(Fy h).1;have ad:=rn (yA ed.l2) ed.sub;omega
theorem aeO(h:qT v gone au)(ed:tj v gone V k):∃κ hV,CU (λy=>y∈gone) V v.mem au 0 κ (1024+κ) hV/\hV+k<=gone.length:=by
 have hex:∃p,∃an:p<V.mem.length,V.mem[p]∉gone:=by
  have:=(Fy h).1;obtain⟨x,ah⟩:=xd (l:=nP v gone) (by omega);obtain⟨h1,ad⟩:=w9.1 ah;obtain⟨p,an,e⟩:=e8 (ed.nP x h1 ad)
  grind
 have WX:∃p,(∃an:p<V.mem.length,V.mem[p]∉gone)/\∀q,q<p->∀bV:q<V.mem.length,V.mem[q]∈gone:=by
  obtain⟨p,an⟩:=hex;induction p using Nat.strongRecOn with
  |ind p aY=>
   by_cases bV:∃q,q<p/\∃bV:q<V.mem.length,V.mem[q]∉gone
   ·obtain⟨q,h1,ad⟩:=bV
    grind
   grind
 obtain⟨p,⟨an,aub⟩,auc⟩:=WX;have gV:=yA ed.l2;have aA:=eM an;obtain⟨i,hi,qo⟩:=Fz h (ed.sub _ aA) aub;obtain⟨Jn,NY⟩:=atM ed.l2 aA;have aeP:∀ {x:Int} (ah:x∈V.mem),∃q,∃bV:q<V.mem.length,gG V.mem x=(q:Int)/\V.mem[q]=x:=λah=>Hy ah;have ez:gG V.mem V.mem[p]=(p:Int):=by
  obtain⟨q,bV,aC,aG⟩:=aeP aA;have:q=p:=(yD gV).1 aG;omega
 refine⟨V.mem[p],p,⟨⟨i,hi,qo⟩,N7 ed.l2 aA,aA,ez,λj aq _ bu=> ?_,rfl,Jn,NY⟩,?_⟩
 ·obtain⟨h1,ad⟩:=CV h aq;obtain⟨q,bV,aC,aG⟩:=aeP (ed.nP _ h1 ad)
  grind
 ·have:=rn (a:=V.mem.take p) (b:=gone.filter λy=>bH V.mem y) (gV.sublist (List.take_sublist _ _)) (λx ah=>by
   obtain⟨q,bV,e⟩:=e8 ah;rw[kZ]at bV;rw[FN]at e;have h1:=auc q (by omega) (by omega);rw[e]at h1;exact h2.2 ⟨h1,gz.2 (nR ah)⟩)
  rw[kZ]at this;have:=ed.pf;omega
theorem aud(h:qT v gone au):NZ v (λy=>y∈gone) (oP gone v) gone:=by
 have aN:=(N4 h).2.2.2;refine⟨h.up,λx=>⟨λah=>⟨ah,h.sub x ah⟩,λah=>ah.1⟩,λx ah=>ah,h.ok,λx ah=> ?_,h.seen⟩;have ao:=Cc (kF h.ab).2.2 x (h.sub x ah);unfold cv;rw[(kF h.ab).2.2,ep ao.1,ep ao.2,cX (show ¬((v.mem.length:Int)=1) by omega)];simp
theorem aue(h:qT v gone au)(ed:tj v gone V k){g:Int}(aw:∀y,oP gone V y↔y=g):NZ V (λy=>y∈gone) (oP gone V) [g]/\(∀r,(cv V.mem g).getD r 0≠g)/\(dJ V [g]).2=0:=by
 have rb:=(aw g).2 rfl;have si:=(kF ed.l2).2.2;have ao:=Cc si g rb.2;have nW:=rn (a:=g::nP v gone) (b:=V.mem) (by
  rw[C8];exact⟨λaA=>(w9.1 aA).2 rb.1,(yA h.ab).sublist vZ⟩) (λx ah=>by
  rcases ny.1 ah with rfl|ah
  ·exact rb.2
  ·exact ed.nP x (w9.1 ah).1 (w9.1 ah).2)
 have iP:=(Fy h).1;have ji:=rn (yA ed.l2) ed.sub;rw[lI]at nW;have ad:2<=V.mem.length:=by
  omega
 have CN: (cv V.mem g).length=5:=by
  unfold cv
  grind
 have auf:∀r,r<5->(cv V.mem g).getD r 0∈V.mem/\(cv V.mem g).getD r 0≠g:=λr CM=>by
  obtain⟨_,_,_,aH⟩:=UW CN;have jx: (cv V.mem g).getD r 0=k6 V.mem g r:=by
   grind
  rw[jx];exact ab7 si CM rb.2 ad
 have aW: (dJ V [g]).2=0:=by
  have aj:dq [g] 32=true:=lW.2 ⟨⟨by simp,by simp⟩,by simp,λx ah=>by grind⟩;have aC: (iA V [g]).length+1=V.mem.length:=by
   rw[IM ed.l2 aj];have h1: (V.mem.filter λx=> !bH [g] x)=V.mem.erase g:=by
    rw[(yA ed.l2).erase_eq_filter];refine Ju λx _=> ?_;have:bH [g] x=decide (x=g):=by
     cases aa:bH [g] x
     ·symm;exact cX λe=>by
       rw[e,gz.2 (eX.2 rfl)]at aa;cases aa
     ·symm;exact ep (eX.1 (gz.1 aa))
    grind
   rw[h1,List.length_erase_of_mem rb.2];omega
  have aG: (e6 V [g]).length=0:=by
   rw[ac1 ed.l2 aj];simp[gz.2 rb.2]
  have Fe:=ed.num;have Nt:=h.aW;have b5:=h.b5;have hk:=ed.pf;have hT:=(N4 h).2.1;unfold dJ;rw[ed.l2,aj,cX (show ¬(2* ((iA V [g]).length:Int)<=(V.mem.length:Int)) by omega),cX (show ¬(V.num=1099511627776) by omega),aG,cX (show ¬((16:Int)<((iA V [g]).length:Int)+((0:Nat):Int)) by omega)];rfl
 refine⟨⟨by simp,λx=>by grind,λx ah=>ah,aW,λx ah=>by grind,λx ah=> ?_⟩,λr=> ?_,aW⟩
 ·rw[eX.1 ah];have: (List.range 5).countP (λr=>decide (¬(cv V.mem g).getD r 0∈gone))=(List.range 5).length:=by
   rw[List.countP_eq_length];intro r hJ;have:=auf r (uF.1 hJ);exact ep λw7=>this.2 ((aw _).1 ⟨w7,this.1⟩)
  grind
 grind
end
theorem aug{W:aK}(h:V.num=W.num){k:Nat}{J:Int->Prop}{mU:List bU->Prop}{iF:c0->Prop}{src:Int}{f:lj}(az:kX V k J mU iF src f):kX W k J mU iF src f:=by
 cases f with
 |ac n=>
  show n<=W.num;rw[<-h];exact az
 |hD n l=>
  show n<W.num\/(n=W.num/\mU l);rw[<-h];exact az
 |dX m=>
  show m.view<W.num\/(m.view=W.num/\iF m);rw[<-h];exact az
 |hi v c=>exact az
 |gD=>exact az
inductive FA(v:aK)(gone:List Int)(au:List Bool)(T:Nat)(Ms:List Mem)(aL:List dC):Prop
 |N9{κ:Int}{hV r:Nat}(eh:CU (λy=>y∈gone) v v.mem au 0 κ (1024+κ) hV)(an:hV<=gone.length)(h:N0 (λy=>y∈gone) (oP gone v) v 0 v.mem au κ (1024+κ) hV False r Ms aL)(ao:T+r<=22+6*gone.length)
 |Vo(h:Fu (λy=>y∈gone) (oP gone v) nO v 0 v.mem au 0 1 Ms aL)(ay:T<=23+6*gone.length)
 |Oa{V:aK}{κ:Int}{ff r:Nat}(ed:tj v gone V 1)(ad:gone.length=2)(aw:∃g,∀y,oP gone V y↔y=g)(eh:CU (λy=>y∈gone) V v.mem au 0 κ (1024+κ) ff)(an:ff<=1)(h:N0 (λy=>y∈gone) (oP gone V) V 1 v.mem au κ (1024+κ) ff True r Ms aL)(ao:T+r<=64)
 |Vp{V:aK}(ed:tj v gone V 1)(ad:gone.length=2)(h:Fu (λy=>y∈gone) (oP gone V) nO V 1 v.mem au 0 1 Ms aL)(ay:T<=65)
 |nc{V:aK}{k hi:Nat}(ed:tj v gone V k)(hk:1<=k)(j6:∀y∈V.mem,y∉gone)(aA:∀i,cB v.mem au i->∃a b,a<=hi/\b<=2/\hE (λy=>y∈gone) k a b (cx Ms i)/\(cx Ms i).view=V)(nl:∀f∈aL,kX V k nO (λ_=>False) (λ_=>False) f.src f.bq)
   (vQ:∀i,cB v.mem au i->∀y∈V.mem,y≠ba v.mem i->ba v.mem i∈cv V.mem y->¬y∈gone->∃f∈aL,f.src=y/\f.dst=ba v.mem i/\f.bq= .ac V.num)
section
variable {v V:aK} {gone:List Int} {au:List Bool} {T k:Nat} {Ms:List Mem} {aL:List dC} {cb:Int->Int->Bool}
theorem aeQ(h:qT v gone au)(dI:oe (oP gone) v v.mem au T Ms aL)(ed:tj v gone V k){O:Nat->List dg}(hO:∀f,f∈aL↔∃i,cB v.mem au i/\∃p∈O i,f=l1 (ba v.mem i) p)
  (aA:∀i,cB v.mem au i->(∃a b,(a=1\/a=2)/\b<=1+1/\hE (λy=>y∈gone) (k+1) a b (cx Ms i))/\(cx Ms i).self=ba v.mem i/\∀p∈kj (cx Ms i),p∈O i) (nl:∀f∈aL,kX ⟨V.num+1,[]⟩ (k+1) nO (λ_=>False) (λ_=>False) f.src f.bq):
  ∃sm,tj v gone sm (k+1)/\(∀i,cB v.mem au i->∃a b,1<=a/\a<=2/\b<=2/\hE (λy=>y∈gone) (k+1) a b (cx Ms i)/\(cx Ms i).view=sm)/\(∀f∈aL,kX sm (k+1) nO (λ_=>False) (λ_=>False) f.src f.bq)/\
   ∀i,cB v.mem au i->∀y∈sm.mem,y≠ba v.mem i->ba v.mem i∈cv sm.mem y->¬y∈gone->∃f∈aL,f.src=y/\f.dst=ba v.mem i/\f.bq= .ac sm.num:=by
 obtain⟨G,fw,oh⟩:=dI.g;have af:=ux dI;have iO:∀i,cB v.mem au i->gj G (cx Ms i):=λi hi=>by
  have df:i<Ms.length:=by have:=hi.1;omega
  obtain⟨⟨a,b,_,_,y⟩,_⟩:=aA i hi;have:=oh.mem i df;rw[<-Ft df]at this;exact(qS this y.b7).1
 obtain⟨x,ah⟩:=xd (l:=nP v gone) (by have:=(Fy h).1;omega);obtain⟨kE,ni,_⟩:=Fz h (w9.1 ah).1 (w9.1 ah).2;have NT:k+1<=G.D.length:=by
  obtain⟨⟨a,b,_,_,y⟩,_⟩:=aA kE ni;have:=(iO kE ni).af;rw[y.af]at this;omega
 have ui:=aeM h oh.g fw (k+1) NT;have oF:∀i,cB v.mem au i->(cx Ms i).view=eV G (k+1):=λi hi=>by
  obtain⟨⟨a,b,_,_,y⟩,_⟩:=aA i hi;rw[(iO i hi).view,y.af]
 have Fe:V.num+1=(eV G (k+1)).num:=by
  rw[ui.num,ed.num];omega
 refine⟨eV G (k+1),ui,λi hi=> ?_,λf az=>aug Fe (nl f az),λi hi y bn aeL aH qe=> ?_⟩
 ·grind
 ·obtain⟨j,aq,j7⟩:=Fz h (ui.sub y bn) qe;obtain⟨_,dM,gJ⟩:=aA j aq;have:=NO (s:=cx Ms j) (x:=ba v.mem i) (by grind);rw[oF j aq]at this;exact⟨l1 (ba v.mem j) ⟨ba v.mem i,.ac _⟩,(hO _).2 ⟨j,aq,_,gJ _ this,rfl⟩,j7,rfl,rfl⟩
theorem auh(iE:∀a b,cb a b=false)(h:qT v gone au)(dI:oe (oP gone) v v.mem au T Ms aL)(ay:T+1<=399)(cF:FA v gone au T Ms aL):
  vN cb au Ms aL/\oe (oP gone) v v.mem au (T+1) (cJ cb au Ms aL).1 (cJ cb au Ms aL).2/\FA v gone au (T+1) (cJ cb au Ms aL).1 (cJ cb au Ms aL).2:=by
 have aR:∀i,cB v.mem au i->ba v.mem i≠0:=λi hi=>N7 h.ab (CV h hi).1;have o9:=N4 h;have j5:∀ {V:aK} {k:Nat},tj v gone V k->∀i,cB v.mem au i->bH V.mem (ba v.mem i)=true:=λed i hi=>gz.2 (ed.nP _ (CV h hi).1 (CV h hi).2);have hg:∀i,cB v.mem au i->¬ba v.mem i∈gone:=λi hi=>(CV h hi).2;have sS:∀ {V:aK} {k:Nat} {yz:List Mem} {uu:List dC},tj v gone V (k+1)->(∀y∈V.mem,y∉gone)->(∀i,cB v.mem au i->∃a b,1<=a/\a<=2/\b<=2/\hE (λy=>y∈gone) (k+1) a b (cx yz i)/\(cx yz i).view=V)->(∀f∈uu,kX V (k+1) nO (λ_=>False) (λ_=>False) f.src f.bq)->
   (∀i,cB v.mem au i->∀y∈V.mem,y≠ba v.mem i->ba v.mem i∈cv V.mem y->¬y∈gone->∃f∈uu,f.src=y/\f.dst=ba v.mem i/\f.bq= .ac V.num)->FA v gone au (T+1) yz uu:=λed j6 aA nl vQ=>
  .nc (hi:=2) ed (by omega) j6 (λi hi=>by
   grind) nl vQ
 cases cF with
 |N9 eh an cF ao=>
  have ed:=N5 h;obtain⟨m1,m2,m3⟩:=aeN h ed;obtain⟨dE,dL,eY⟩:=aeK (cb:=cb) iE dI ay (N8 h ed) aR eh m1 m2 m3 (j5 ed) (by omega) (aud h) (λh=>h.elim) cF;refine⟨dE,dL,?_⟩;rcases eY with⟨eH,e,aN⟩|aN
  ·exact .N9 eh an aN (by omega)
  ·exact .Vo aN (by omega)
 |Vo cF aui=>
  have ed:=N5 h;obtain⟨⟨jh,uz,px,jp,tg⟩,uA,vP⟩:=Vn (bz:=oP gone) (v0:=v) (T:=T) (Ms:=Ms) (aL:=aL) aR;obtain⟨dE,dL,O,eY,iI,j0,Jd⟩:=aex (cb:=cb) iE dI ay (N8 h ed) (bP 1) cF (jh:=λ_ _ _=>False) (my:=λ_ _=>False) (λi hi e=>absurd e (aR i hi)) (λi hi e=>absurd e (aR i hi)) (λi hi e=>absurd e (aR i hi)) (λi hi e=>absurd e (aR i hi)) (λ_ _ h=>h.elim);refine⟨dE,dL,?_⟩;obtain⟨sm,ui,lr,ma,rD⟩:=aeQ h dL ed eY (λi hi=>by
   grind) Jd
  by_cases j6:∀y∈sm.mem,y∉gone
  ·grind
  ·obtain⟨g,rh,hT⟩:∃g,g∈sm.mem/\g∈gone:=qg λaW=>j6 λy bn qe=>aW ⟨y,bn,qe⟩;have Qy:=ui.pf;have I4:g∈gone.filter λy=>bH sm.mem y:=h2.2 ⟨hT,gz.2 rh⟩;have fx:=VH I4;have br:∀y,oP gone sm y↔y=g:=λy=>by
    constructor
    ·intro bn;refine qg λbu=> ?_;have:=rn (a:=[y,g]) (b:=gone.filter λy=>bH sm.mem y) (by grind) (λx ah=>by
      rcases ny.1 ah with rfl|ah
      ·exact h2.2 ⟨bn.1,gz.2 bn.2⟩
      grind)
     grind
    ·rintro rfl;exact⟨hT,rh⟩
   obtain⟨κ,ff,eh,an⟩:=aeO h ui;exact .Oa (r:=21+6*ff) ui (by omega) ⟨g,br⟩ eh (by omega) (.Jo (dK:=1) (hi:=2) lr ma (.inr rD) (.inr ⟨rfl,by decide,ai⟩) (by omega)) (by omega)
 |Oa ed ad aw eh an cF ao=>
  obtain⟨g,aw⟩:=aw;obtain⟨m1,m2,m3⟩:=aeN h ed;obtain⟨f1,f2,f3⟩:=aue h ed aw;obtain⟨dE,dL,eY⟩:=aeK (cb:=cb) iE dI ay (N8 h ed) aR eh m1 m2 m3 (j5 ed) (by omega) f1 (λ_=>⟨g,λy bn=>(aw y).1 bn,f2,f3⟩) cF;refine⟨dE,dL,?_⟩;rcases eY with⟨eH,e,aN⟩|aN
  ·exact .Oa ed ad ⟨g,aw⟩ eh an aN (by omega)
  ·exact .Vp ed ad aN (by omega)
 |Vp ed ad cF aui=>
  obtain⟨dE,dL,O,eY,iI,j0,Jd⟩:=aex (cb:=cb) iE dI ay (N8 h ed) (bP 1) cF (jh:=λ_ _ _=>False) (my:=λ_ _=>False) (λi hi e=>absurd e (aR i hi)) (λi hi e=>absurd e (aR i hi)) (λi hi e=>absurd e (aR i hi)) (λi hi e=>absurd e (aR i hi)) (λ_ _ h=>h.elim);refine⟨dE,dL,?_⟩;obtain⟨sm,ui,lr,ma,rD⟩:=aeQ h dL ed eY (λi hi=>by
   grind) Jd
  refine sS ui (λy bn qe=> ?_) lr ma rD;have Qy:=ui.pf;have:=VH (h2.2 ⟨qe,gz.2 bn⟩:y∈gone.filter λy=>bH sm.mem y);omega
 | @nc V k hi ed hk j6 aA nl vQ=>
  obtain⟨dE,dL,O,eY,iI,j0⟩:=Vi (cb:=cb) (C:=λy=>y∈gone) (J:=nO) (V:=V) (k:=k) (dK:=0) (hi:=hi) (β:=2) (uC:=2) (bM:=0) (jh:=λ_ _ _=>False) (my:=λ_ _=>False) iE dI ay hg (λi hi _=>by
    grind) nl (λ_ h=>h.elim) (.inr ⟨rfl,λi hi _=>vQ i hi⟩) (by decide) (.inr j6)
   (λi hi e=>absurd e (aR i hi)) (λi hi e=>absurd e (aR i hi)) (λi hi e=>absurd e (aR i hi)) (λi hi e=>absurd e (aR i hi))
  refine⟨dE,dL,.nc (hi:=hi+1) ed hk j6 (λi hd=> ?_) (λf az=> ?_) (λi hd y bn aeL aH qe=> ?_)⟩
  ·grind
  ·obtain⟨i,hd,p,an,rfl⟩:=(eY f).1 az;obtain⟨_,_,_,eG,_⟩:=j0 i hd (aR i hd);show kX V k nO _ _ (ba v.mem i) p.bq;rcases eG p an with e| ⟨v,c,e,h⟩
   ·rw[e];exact lk _
   ·rw[e];exact h
  ·obtain⟨j,aq,j7⟩:=Fz h (ed.sub y bn) qe;obtain⟨⟨a,b,_,_,_,aua,rG⟩,dM,gJ,_⟩:=j0 j aq (aR j aq);have:=NO (s:=cx (cJ cb au Ms aL).1 j) (x:=ba v.mem i) (by grind);rw[rG]at this;exact⟨l1 (ba v.mem j) ⟨ba v.mem i,.ac V.num⟩,(eY _).2 ⟨j,aq,_,gJ _ this,rfl⟩,j7,rfl,rfl⟩
theorem auj(h:qT v gone au)(cF:FA v gone au (40+8*v.mem.length) Ms aL):∃ (V:aK) (k:Nat),1<=k/\V.num=v.num+(k:Int)/\V.mem=nP v gone/\∀i,cB v.mem au i->(cx Ms i).status=1/\(cx Ms i).view=V:=by
 have o9:=N4 h;cases cF with
 |N9 _ _ _ ao=>omega
 |Vo _ ay=>omega
 |Oa _ ad _ _ _ _ ao=>omega
 |Vp _ ad _ ay=>omega
 | @nc V k hi ed hk j6 aA nl vQ=>
  refine⟨V,k,hk,ed.num,Ca (lW.1 (kF ed.l2).2.2).2.1 ((lW.1 (kF h.ab).2.2).2.1.sublist vZ) λx=>⟨λah=>w9.2 ⟨ed.sub x ah,j6 x ah⟩,λah=>ed.nP x (w9.1 ah).1 (w9.1 ah).2⟩,λi hi=> ?_⟩;obtain⟨a,b,_,_,y,rG⟩:=aA i hi;exact⟨y.b7,rG⟩
theorem auk(h:qT v gone au):oe (oP gone) v v.mem au 0 (v.mem.map (nt v 0 ns)) []/\FA v gone au 0 (v.mem.map (nt v 0 ns)) []:=by
 have af:=mK h.ab;have gV:=yA h.ab;have aw:∀i (h:i<(v.mem.map (nt v 0 ns)).length),(v.mem.map (nt v 0 ns))[i].self=v.mem[i]'(by grind):=λi h=>by rw[yE];rfl
 obtain⟨kw,mO⟩:=xd (l:=v.mem) (by omega);have aul:∀x∈v.mem,dt (oP gone) 0 ⟨v,[],λ_=>qM⟩/\fS ⟨v,[],λ_=>qM⟩ (nt v 0 ns x):=λx ah=>asn h.ab h.aW ah;have qe:∀x∈v.mem,hE (λy=>y∈gone) 0 0 0 (nt v 0 ns x)/\(nt v 0 ns x).view=v:=λx ah=>by
  have cL:=gz.2 ah;have h1:=MP (v:=v) (self:=x) (by rw[h.ab,cL];rfl);rw[TB h.ab cL]at h1;have ad:nt v 0 ns x=eT {du with self:=x,first:=v} v:=(Prod.mk.inj h1).1;rw[ad];have:=NL (C:=λy=>y∈gone) (s:={du with self:=x,first:=v}) h.ab cL;refine⟨this,?_⟩;rw[w2 (s:={du with self:=x,first:=v}) cL]
 have awO:∀i,cB v.mem au i->cx (v.mem.map (nt v 0 ns)) i=nt v 0 ns (ba v.mem i)/\ba v.mem i∈v.mem:=λi hi=>by
  rw[N6 hi.1];refine⟨?_,eM _⟩;rw[Ft (by simpa using hi.1),yE]
 refine⟨⟨⟨⟨v,[],λ_=>qM⟩,rfl,⟨(aul kw mO).1,λi hi=> ?_,λi j hi aq fW=> ?_,(λf az=>by cases az),λa _ k _=>Ui _ _⟩⟩,?_,by rw[h.qw];simp,?_,?_,(λf az=>by cases az)⟩,?_⟩
 ·grind
 ·rw[aw,aw];intro e;exact fW ((yD gV).1 e)
 ·rw[oT];exact C4 _
 ·have:=h.b5
  grind
 ·have:=adH (v.mem.map (nt v 0 ns));simp only[kI,xg,List.sum_nil];omega
 ·obtain⟨κ,hV,eh,an⟩:=aeO h (N5 h);refine .N9 (r:=22+6*hV) eh (by omega) (.Jo (dK:=0) (hi:=0) (λi hi=> ?_) (λf az=>by cases az) (.inl ⟨rfl,λi hi=> ?_⟩) (.inl ⟨rfl,by decide⟩) (by omega)) (by omega);all_goals grind
end
def vR(v:aK)(g m:Int)(j:Nat):Nat:=((gA v m).1.bN.take j).countP λe=>decide (e.bI=g)
def pz(v:aK)(gone:List Int)(g:Int):Nat->Nat
 |0=>0
 |k+1=>bif bH gone (v.mem.getD k 0)then pz v gone g k else pz v gone g k+vR v g (v.mem.getD k 0) (gA v (v.mem.getD k 0)).1.bN.length
def yB(v:aK)(gone:List Int):Bool:=gone.all λg=>decide (2<=pz v gone g v.mem.length)
theorem aeR(v:aK)(g m:Int)(j:Nat):vR v g m j<=5:=by
 unfold vR;have h1: (gA v m).1.bN.length<=5:=by
  unfold gA;cases !b0 v|| !bH v.mem m
  ·show (mL (ft v.mem m) (ft v.mem m).length).length<=5;rw[x1];exact BI _ _
  ·exact bX _
 refine bQ Oq ?_
 grind
theorem aeS(v:aK)(gone:List Int)(g:Int):∀k,pz v gone g k<=5*k
 |0=>bP _
 |k+1=>by
  have aY:=aeS v gone g k;have h:=aeR v g (v.mem.getD k 0) (gA v (v.mem.getD k 0)).1.bN.length;unfold pz
  grind
theorem aum(v:aK)(g m:Int)(j:Nat)(h:j<(gA v m).1.bN.length):vR v g m (j+1)=vR v g m j+bif decide ((gA v m).1.bN[j].bI=g)then 1 else 0:=by
 unfold vR;rw[e4 h,On,Oo,Ot];cases decide ((gA v m).1.bN[j].bI=g)<;>simp
theorem aun(v:aK)(ab:v.mem.length<=1000)(gone:List Int)(aw:gone.length<=1000):bl Tryz.prog 16 [.agg (cc v),.ar 1 (gone.map aM) false] (.v (.bool (yB v gone))):=by
 have zZ:∀i,(∀j (h:j<gone.length),j<i->2<=pz v gone gone[j] v.mem.length)->gone.length<=i->yB v gone=true:=λi h1 ad=>by
  unfold yB;rw[l4];intro x ah;obtain⟨j,aq,rfl⟩:=e8 ah;exact ep (h1 j aq (by omega))
 have Gw:∀i (h:i<gone.length),pz v gone gone[i] v.mem.length<2->yB v gone=false:=λi h h1=>by
  unfold yB;rw[List.all_eq_false];exact⟨_,eM h,by simp;omega⟩
 generalize yB v gone=res at *;have hle:=aeS v gone;refine fM Tryz.func16 ?_;repeat' ((conv=>whnf);first|refine be ?_|fail)
 all_goals(conv=>whnf)
 refine⟨Nat,λi=>⟨[(1,.ar 1 (gone.map aM) false),(2,.aV 0 0),(5,i64 i)],[.cells 24 (cc v)]⟩,λi=>i<=gone.length/\∀j (h:j<gone.length),j<i->2<=pz v gone gone[j] v.mem.length,λi=>gone.length-i,[],⟨0,⟨bX _,λj _ h=>absurd h (OK _)⟩,?_⟩,?_⟩
 ·conv=>whnf
  exact⟨⟨.r,.r,.r,ai⟩,⟨.r,ai⟩,by rfl⟩
 ·intro i ⟨hi,ct⟩;by_cases ax:i<gone.length
  ·have UN:decide ((i:Int)<((gone.map aM).length:Int))=true:=by rw[bF];exact ep (by omega)
   have gy: (gone.map aM)[i]?=some (aM gone[i]):=c3 ax;have Gw:=Gw i ax;have auo:2<=pz v gone gone[i] v.mem.length->∀j (h:j<gone.length),j<i+1->2<=pz v gone gone[j] v.mem.length:=λad j aq r5=>by
    by_cases e:j=i
    ·subst e;exact ad
    ·exact ct j aq (by omega)
   have hle:=hle gone[i];generalize gone[i]=g at *;repeat' ((conv=>whnf);first|refine fZ (by assumption) ?_|fail)
   all_goals(conv=>whnf)
   refine⟨Nat,λk=>⟨[(1,.ar 1 (gone.map aM) false),(2,.aV 0 0),(5,i64 i),(6,i64 (pz v gone g k)),(7,i64 k)],[.cells 24 (cc v)]⟩,λk=>k<=v.mem.length,λk=>v.mem.length-k,[],⟨0,bX _,?_⟩,?_⟩
   ·conv=>whnf
    exact⟨⟨.r,.r,.r,.r,.r,ai⟩,⟨.r,ai⟩,by rfl⟩
   ·intro k hk;by_cases gl:k<v.mem.length
    ·have oz:decide ((k:Int)<((v.mem.map aM).length:Int))=true:=by rw[bF];exact ep (by omega)
     have zt: (v.mem.map aM)[k]?=some (aM v.mem[k]):=c3 gl;have sN:k<(v.mem.map aM).length:=by rw[bF];exact gl
     have ae:pz v gone g (k+1)=bif bH gone v.mem[k]then pz v gone g k else pz v gone g k+vR v g v.mem[k] (gA v v.mem[k]).1.bN.length:=by
      have:v.mem.getD k 0=v.mem[k]:=by simp[gl]
      conv=>lhs;unfold pz
      rw[this]
     have awP:=hle k;have iM:=Ly gone (by simp only[maxLen];omega) v.mem[k];have zv:=akz v (by simp only[maxLen];omega) v.mem[k];have pO:=aum v g v.mem[k];have aeT:=aeR v g v.mem[k];have pN: (gA v v.mem[k]).1.bN.length<=5:=by
      have:=aeT (gA v v.mem[k]).1.bN.length;unfold gA;cases !b0 v|| !bH v.mem v.mem[k]
      ·show (mL (ft v.mem v.mem[k]) (ft v.mem v.mem[k]).length).length<=5;rw[x1];exact BI _ _
      ·exact bX _
     have CL:vR v g v.mem[k] 0=0:=rfl;generalize vR v g v.mem[k]=E at *;generalize gA v v.mem[k]=D at *;obtain⟨d,Ba⟩:=D;simp only[]at zv ae pO pN;generalize v.mem[k]=m at *;cases cL:bH gone m
     ·rw[cL]at iM ae;rw[bs]at ae;repeat' ((conv=>whnf);first|refine fZ (by assumption) ?_|refine cd ?_|refine⟨k,aM m,aO ⟨rfl,zt⟩ ?_⟩|refine aS iM ?_|refine aS zv ?_|fail)
      all_goals(conv=>whnf)
      refine⟨Nat,λj=>⟨[(1,.ar 1 (gone.map aM) false),(2,.aV 0 0),(5,i64 i),(6,i64 ((pz v gone g k+E j:Nat))),(7,i64 k),(8,.aV 1 0),(10,i64 j)],[.cells 24 (cc v),.cells 45 (sX d)]⟩,λj=>j<=d.bN.length,λj=>d.bN.length-j,[],⟨0,bX _,?_⟩,?_⟩
      ·conv=>whnf
       exact⟨⟨.r,.r,.r,aX (by rw[CL];rfl),.r,.r,.r,ai⟩,⟨.r,.r,ai⟩,by rfl⟩
      ·intro j aq;by_cases gT:j<d.bN.length
       ·have Vq:decide ((j:Int)<((d.bN.map ja).length:Int))=true:=by rw[bF];exact ep (by omega)
        have BH: (d.bN.map ja)[j]?=some (ja d.bN[j]):=c3 gT;have pO:=pO j gT;have awQ:=aeT j;generalize d.bN[j]=j7 at *;repeat' ((conv=>whnf);first|refine fZ (by assumption) ?_| (apply bh<;>intro h)|refine cd ?_|refine⟨j,ja j7,aO ⟨rfl,BH⟩ ?_⟩|refine⟨i,aM g,aO ⟨rfl,gy⟩ ?_⟩|fail)
        all_goals(conv=>whnf)
        ·rw[h,bY]at pO;refine⟨j+1,gT,by simp only[];omega,?_⟩;conv=>whnf
         exact⟨⟨.r,.r,.r,aX (by rw[pO,dW (by omega) (by omega)];omega),.r,.r,aX (bW (by omega)),ai⟩,⟨.r,.r,ai⟩,by rfl⟩
        ·rw[h,bs]at pO;refine⟨j+1,gT,by simp only[];omega,?_⟩;conv=>whnf
         exact⟨⟨.r,.r,.r,aX (by rw[pO];rfl),.r,.r,aX (bW (by omega)),ai⟩,⟨.r,.r,ai⟩,by rfl⟩
       ·have Vq:decide ((j:Int)<((d.bN.map ja).length:Int))=false:=by rw[bF];exact cX (by omega)
        have Zz:j=d.bN.length:=by omega
        subst Zz;repeat' ((conv=>whnf);first|refine e3 (by assumption) ?_|fail)
        all_goals(conv=>whnf)
        refine⟨k+1,gl,by simp only[];omega,?_⟩;conv=>whnf
        exact⟨⟨.r,.r,.r,aX (by rw[ae]),aX (bW (by omega)),ai⟩,⟨.r,ai⟩,by rfl⟩
     ·rw[cL]at iM ae;rw[bY]at ae;repeat' ((conv=>whnf);first|refine fZ (by assumption) ?_|refine⟨k,aM m,aO ⟨rfl,zt⟩ ?_⟩|refine aS iM ?_|fail)
      all_goals(conv=>whnf)
      refine⟨k+1,gl,by simp only[];omega,?_⟩;conv=>whnf
      exact⟨⟨.r,.r,.r,aX (by rw[ae]),aX (bW (by omega)),ai⟩,⟨.r,ai⟩,by rfl⟩
    ·have oz:decide ((k:Int)<((v.mem.map aM).length:Int))=false:=by rw[bF];exact cX (by omega)
     have y0:k=v.mem.length:=by omega
     subst y0;repeat' ((conv=>whnf);first|refine e3 (by assumption) ?_| (apply bh<;>intro h)|fail)
     all_goals(conv=>whnf)
     ·rw[Gw (by have:=fi h;omega)];exact .refl
     ·refine⟨i+1,⟨ax,auo (by have:=qX h;omega)⟩,by simp only[];omega,?_⟩;conv=>whnf
      exact⟨⟨.r,.r,aX (bW (by omega)),ai⟩,⟨.r,ai⟩,by rfl⟩
  ·have UN:decide ((i:Int)<((gone.map aM).length:Int))=false:=by rw[bF];exact cX (by omega)
   repeat' ((conv=>whnf);first|refine e3 (by assumption) ?_|fail)
   all_goals(conv=>whnf)
   rw[zZ i ct (by omega)];exact .refl
theorem aup{n:Nat}(h:n<=2000000):kp ag 3 n:=by
 have e: (aF ag 3).bytes=8:=by rfl
 refine⟨?_,?_⟩
 ·grind
 ·simp only[maxLen];omega
def Ao(c i:Nat):Bool:=decide (((c:Int).fdiv (2^min (IntKind.u64.wrap (i:Int)).toNat IntKind.u8.bits)).tmod 2=1)
def oQ(v:aK)(c:Nat):Nat->List Int
 |0=>[]
 |i+1=>bif Ao c i then oQ v c i++ [v.mem.getD i 0]else oQ v c i
def oi(c:Nat)(n:Nat)(i:Nat):List Bool:=(List.range n).map λj=>decide (j<i)&&Ao c j
theorem aeU(v:aK)(c:Nat):∀i,(oQ v c i).length<=i
 |0=>bP _
 |i+1=>by
  have:=aeU v c i;unfold oQ
  grind
theorem auq(c n i:Nat)(h:i<n): (oi c n i).set i (Ao c i)=oi c n (i+1):=by
 unfold oi;refine FL (by simp) λj h1 ad=> ?_
 grind
theorem aur(n:Nat)(aW:n<=1000):bl Tryz.prog 17 [i64 n] (i64 ((40+8*n:Nat))):=by
 refine b9 (fn:=Tryz.f17) (c:=Tryz.f17.body.getD .skip) aA ay (by rfl) Tryz.func17 (by rfl) (by rfl) (by rfl) (by rfl) ?_;repeat' ((conv=>whnf);first|refine be ?_|fail)
 all_goals(conv=>whnf)
 refine aX ?_;rw[dW (n:=8* (n:Int)) (by omega) (by omega),dW (by omega) (by omega)];omega
theorem aeV(v:aK)(c:Nat)(x:Int):∀i,x∈oQ v c i↔∃j,j<i/\Ao c j=true/\v.mem.getD j 0=x
 |0=>by
  constructor
  ·intro h;cases h
  simp
 |i+1=>by
  have aY:=aeV v c x i;unfold oQ
  grind
theorem aeW(v:aK)(c:Nat):∀i,i<=v.mem.length->(oQ v c i).Sublist (v.mem.take i)
 |0,_=>by simp[oQ]
 |i+1,h=>by
  have aY:=aeW v c i (by omega);have aw:v.mem.getD i 0=v.mem[i]:=by grind
  unfold oQ;rw[e4 (by omega),aw]
  grind
theorem aus{c n i:Nat}(h:i<n): (oi c n n).getD i true=Ao c i:=by
 unfold oi;simp[h]
theorem aut(ab:b0 v=true)(ad:2<=v.mem.length){g m:Int}(aw:g∈v.mem)(aA:m∈v.mem)(bu:m≠g):vR v g m (gA v m).1.bN.length=(List.range 5).countP λr=>decide ((cv v.mem g).getD r 0=m):=by
 have si:=(kF ab).2.2;have cL:=gz.2 aA;have ao:=Cc si g aw;have CN:cv v.mem g=(List.range 5).map (k6 v.mem g):=by
  unfold cv
  grind
 have cF:ft v.mem m=(List.range 5).map λ(r:Nat)=>pc (fN v.mem r) m:=by
  unfold ft;rw[si,cL,cX (show ¬((v.mem.length:Int)=1) by omega)];rfl
 have dk: (gA v m).1.bN=(List.range 5).map λk=>Et k ((ft v.mem m).getD k 0):=by
  rw[Nj ab cL];show mL (ft v.mem m) (ft v.mem m).length=_;unfold mL
  grind
 unfold vR;rw[fU,dk,List.countP_map];refine List.countP_congr λr CM=> ?_;have CM:=uF.1 CM;have aC: (ft v.mem m).getD r 0=pc (fN v.mem r) m:=by
  grind
 have aG: (cv v.mem g).getD r 0=k6 v.mem g r:=by
  grind
 have key: ((ft v.mem m).getD r 0=g)↔ ((cv v.mem g).getD r 0=m):=by
  rw[aC,aG];exact(Rr si CM aA aw bu).symm
 exact⟨λh=>ep (key.1 (fi h)),λh=>ep (key.2 (fi h))⟩
theorem aeX{v:aK}(ab:b0 v=true)(ad:2<=v.mem.length){gone:List Int}{g:Int}(aw:g∈v.mem)(aeY:g∈gone):∀k,k<=v.mem.length->pz v gone g k=(List.range 5).countP λr=>decide ((cv v.mem g).getD r 0∈v.mem.take k/\¬(cv v.mem g).getD r 0∈gone)
 |0,_=>by rfl
 |k+1,hk=>by
  have aY:=aeX ab ad aw aeY k (by omega);have ax:k<v.mem.length:=by omega
  have zt:v.mem.getD k 0=v.mem[k]:=by grind
  have gV:=yA ab;have auu:v.mem.take (k+1)=v.mem.take k++ [v.mem[k]]:=e4 ax;unfold pz;rw[zt,auu,aY];cases cL:bH gone v.mem[k]
  ·rw[bs];have Q6:v.mem[k]∉gone:=λh=>by rw[gz.2 h]at cL;grind
   rw[aut ab ad aw (eM ax) (λe=>Q6 (e▸aeY))];have awR:v.mem[k]∉v.mem.take k:=λh=>by
    obtain⟨j,aq,e⟩:=e8 h;rw[kZ]at aq;rw[FN]at e;have:=(yD gV).1 e;omega
   generalize cv v.mem g=O;generalize v.mem.take k=A at *;generalize v.mem[k]=m at *;have key:∀l:List Nat,(l.countP λr=>decide (O.getD r 0∈A/\¬O.getD r 0∈gone))+(l.countP λr=>decide (O.getD r 0=m))=l.countP λr=>decide (O.getD r 0∈A++ [m]/\¬O.getD r 0∈gone):=by
    intro l;induction l with
    |nil=>rfl
    |cons r l awS=>
     grind
   grind
  ·rw[bY];have awT:=gz.1 cL
   grind
theorem auv(ab:b0 v=true)(aW:v.num<=1000)(b5:v.mem.length<=5){c:Nat}(bu:oQ v c v.mem.length≠ [])(cw: (dJ v (oQ v c v.mem.length)).2=0)(ae:yB v (oQ v c v.mem.length)=true):qT v (oQ v c v.mem.length) (oi c v.mem.length v.mem.length):=by
 have pd:=aeW v c v.mem.length (bP _);rw[fU]at pd;have nU:∀y∈oQ v c v.mem.length,y∈v.mem:=λy bn=>pd.subset bn;have gV:=yA ab;have hlen:2<=v.mem.length:=by
  obtain⟨h1,ad,aN,_⟩:=IL cw;rw[IM ab ad]at aN;obtain⟨y,bn⟩:=xd (Au.2 bu);have ax: (v.mem.filter λx=> !bH (oQ v c v.mem.length) x).length<v.mem.length:=by
   refine Nat.lt_of_le_of_ne (sq ..) λe=> ?_;have:=(List.length_filter_eq_length_iff.1 e) y (nU y bn);rw[gz.2 bn]at this
   grind
  omega
 refine⟨ab,aW,b5,by simp[oi],λi hi=> ?_,nU,(lW.1 (kF ab).2.2).2.1.sublist pd,bu,cw,λg aw=> ?_⟩
 ·rw[aus hi,aeV];have gy:v.mem.getD i 0=v.mem[i]:=by grind
  constructor
  ·exact λh=>⟨i,hi,h,rfl⟩
  ·rintro⟨j,aq,ac,e⟩;have BH:v.mem.getD j 0=v.mem[j]:=by grind
   have e:v.mem.getD j 0=v.mem.getD i 0:=e;rw[BH,gy]at e;have:=(yD gV).1 e
   grind
 ·unfold yB at ae;have h1:=fi (l4.1 ae g aw);rw[aeX ab hlen (nU g aw) aw v.mem.length (bP _),fU]at h1;refine bQ h1 (VA λr _ ao=> ?_)
  grind
theorem auw(v:aK)(ji:v.mem.length<=maxLen)(c:Nat)(aj:c<=255):bl Tryz.prog 4 [.agg (cc v),.v (.int .u8 c)] (.v (.bool true)):=by
 have aC:=Ek v ji;refine fM Tryz.func4 ?_;repeat' ((conv=>whnf);first|refine be ?_| (apply bh<;>intro h)|exact .refl|refine aS apD ?_|refine aS aC ?_|fail)
 all_goals(conv=>whnf)
 have I9:b0 v=true/\v.mem.length<=5/\v.num<=1000:=by
  simp only[iK,l3,hG,bF]at h;exact⟨h.1.1,by omega,by omega⟩
 clear h;obtain⟨ab,b5,Fe⟩:=I9;refine⟨Nat×List Int,λX=>⟨[(1,.v (.int .u8 c)),(2,.aV 0 0),(5,.own 1),(6,i64 X.1)],[.cells 24 (cc v),.row 3 1 (X.2.map aM)]⟩,λX=>X.1<=v.mem.length/\X.2=oQ v c X.1,λX=>v.mem.length-X.1,[.ho 5 3 1],⟨(0,[]),⟨bX _,rfl⟩,?_⟩,?_⟩
 ·conv=>whnf
  exact⟨⟨.r,.r,.r,.r,ai⟩,⟨.r,.r,ai⟩,by rfl⟩
 ·intro (i,G) ⟨hi,bf⟩;simp only[]at hi bf;have awU:G.length<=i:=by rw[bf];exact aeU v c i
  have ac:Ao c i=decide (((c:Int).fdiv (2^min (IntKind.u64.wrap (i:Int)).toNat IntKind.u8.bits)).tmod 2=1):=rfl;have rb:oQ v c (i+1)=bif Ao c i then oQ v c i++ [v.mem.getD i 0]else oQ v c i:=rfl;by_cases ax:i<v.mem.length
  ·have oz:decide ((i:Int)<((v.mem.map aM).length:Int))=true:=by rw[bF];exact ep (by omega)
   repeat' ((conv=>whnf);first|refine fZ (by assumption) ?_| (apply bh<;>intro h)|refine⟨_,_,aO ⟨rfl,c3 ax⟩ ?_⟩|refine aO (rj _).1 ?_|refine aO (by decide) ?_|refine aO (aup (by simp<;>omega)) ?_|fail)
   all_goals(conv=>whnf)
   ·rw[ac.trans h,bY,<-bf,show v.mem.getD i 0=v.mem[i] by simp[ax]]at rb;refine⟨(i+1,G++ [v.mem[i]]),⟨ax,rb.symm⟩,by simp only[];omega,?_⟩;conv=>whnf
    exact⟨⟨.r,.r,.r,aX (bW (by omega)),ai⟩,⟨.r,cK (by rw[ef];rfl),ai⟩,by rfl⟩
   ·rw[ac.trans h,bs,<-bf]at rb;refine⟨(i+1,G),⟨ax,rb.symm⟩,by simp only[];omega,?_⟩;conv=>whnf
    exact⟨⟨.r,.r,.r,aX (bW (by omega)),ai⟩,⟨.r,.r,ai⟩,by rfl⟩
  ·have oz:decide ((i:Int)<((v.mem.map aM).length:Int))=false:=by rw[bF];exact cX (by omega)
   have eI:i=v.mem.length:=by omega
   subst eI;have aG:=ajH v (by omega) G (by omega);have bc:=aun v (by omega) G (by omega);have aeZ:=apM v ab;repeat' ((conv=>whnf);first|refine be ?_|refine e3 (by assumption) ?_| (apply bh<;>intro h)|exact .refl|refine dr ?_|refine⟨[.agg (cc v),.ar 1 (G.map aM) false],_,aO ⟨.r,.r,ai⟩ (aO (λ_=>aG) ?_)⟩|refine⟨[.agg (cc v),.ar 1 (G.map aM) false],_,aO ⟨.r,.r,ai⟩ (aO (λ_=>bc) ?_)⟩|fail)
   all_goals(conv=>whnf)
   have lQ:G≠ []/\(dJ v G).2=0/\yB v G=true:=by
    simp only[iK,l3,fr,hG,bF]at h;exact⟨λe=>h.1.1 (by rw[e];rfl),h.1.2,h.2⟩
   clear h;rw[bf]at lQ;have b4:=auv ab Fe b5 lQ.1 lQ.2.1 lQ.2.2;rw[<-bf]at b4;refine .inr ⟨[],bS aeZ ?_⟩;repeat' ((conv=>whnf);first|refine be ?_|fail)
   all_goals(conv=>whnf)
   have auy:List.replicate v.mem.length false=oi c v.mem.length 0:=by
    unfold oi;refine FL (by simp) λj h1 ad=> ?_;simp
   rw[auy];refine⟨Nat,λk=>⟨[(1,.v (.int .u8 c)),(2,.aV 0 0),(5,.own 1),(7,.aV 4 0),(8,i64 k)],[.cells 24 (cc v),.row 3 1 (G.map aM),.row 55 29 ((v.mem.map (nt v 0 ns)).map cA),.row 4 1 ((oi c v.mem.length k).map hB),.cells 32 (ps 2 3 5),.row 82 3 ((([]:List dC).map od).map lB)]⟩,λk=>k<=v.mem.length,λk=>v.mem.length-k,[.cell 4 2 82 3],⟨0,bX _,?_⟩,?_⟩
   ·conv=>whnf
    exact⟨⟨.r,.r,.r,.r,.r,ai⟩,⟨.r,.r,.r,.r,.r,.r,ai⟩,by rfl⟩
   ·intro k hk;by_cases gl:k<v.mem.length
    ·have auz:decide ((k:Int)<((v.mem.map aM).length:Int))=true:=by rw[bF];exact ep (by omega)
     have Kp:Ao c k=decide (((c:Int).fdiv (2^min (IntKind.u64.wrap (k:Int)).toNat IntKind.u8.bits)).tmod 2=1):=rfl;have sN:k<((oi c v.mem.length k).map hB).length:=by simp[oi];exact gl
     have zt: ((oi c v.mem.length k).map hB)[k]?=some (hB ((oi c v.mem.length k).getD k true)):=by
      rw[e7];simp[oi,gl]
     have lb:=auq c v.mem.length k gl;repeat' ((conv=>whnf);first|refine fZ (by assumption) ?_|refine aO (rj _).1 ?_|refine aO (by decide) ?_|refine⟨k,aO ⟨rfl,sN⟩ ?_⟩|refine⟨hB ((oi c v.mem.length k).getD k true),zt,?_⟩|fail)
     all_goals(conv=>whnf)
     refine⟨k+1,gl,by simp only[];omega,?_⟩;conv=>whnf
     refine⟨⟨.r,.r,.r,.r,aX (bW (by omega)),ai⟩,⟨.r,.r,.r,cK ?_,.r,.r,ai⟩,by rfl⟩;rw[<-lb,nQ,Kp];rfl
    ·have auz:decide ((k:Int)<((v.mem.map aM).length:Int))=false:=by rw[bF];exact cX (by omega)
     have y0:k=v.mem.length:=by omega
     subst y0;repeat' ((conv=>whnf);first|refine e3 (by assumption) ?_|fail)
     all_goals(conv=>whnf)
     obtain⟨s1,s2⟩:=auk b4;have Aa:=aur v.mem.length (by omega);refine⟨Nat×List Mem×List dC,λY=>⟨[(2,.aV 0 0),(5,.own 1),(7,.aV 4 0),(9,i64 Y.1)],[.cells 24 (cc v),.row 3 1 (G.map aM),.row 55 29 (Y.2.1.map cA),.row 4 1 ((oi c v.mem.length v.mem.length).map hB),.cells 32 (ps 2 3 5),.row 82 3 ((Y.2.2.map od).map lB)]⟩,λY=>Y.1<=40+8*v.mem.length/\oe (oP G) v v.mem (oi c v.mem.length v.mem.length) Y.1 Y.2.1 Y.2.2/\FA v G (oi c v.mem.length v.mem.length) Y.1 Y.2.1 Y.2.2,λY=>40+8*v.mem.length-Y.1,[],⟨(0,v.mem.map (nt v 0 ns),[]),⟨bX _,s1,s2⟩,?_⟩,?_⟩
     ·conv=>whnf
      exact⟨⟨.r,.r,.r,.r,ai⟩,⟨.r,.r,.r,.r,.r,.r,ai⟩,by rfl⟩
     ·intro (t,Ms,aL) ⟨cH,FB,Jp⟩;simp only[]at cH FB Jp;generalize oi c v.mem.length v.mem.length=au at b4 FB Jp;clear s1 s2;have Vr:bl Tryz.prog 17 [i64 ((v.mem.map aM).length:Nat)] (i64 ((40+8*v.mem.length:Nat))):=by rw[bF];exact Aa
      by_cases tH:t<40+8*v.mem.length
      ·have ae0:decide ((t:Int)<((40+8*v.mem.length:Nat):Int))=true:=ep (by omega);obtain⟨auA,ad,aN⟩:=auh (cb:=λ_ _=>false) (λ_ _=>rfl) b4 FB (by omega) Jp;have cn:=ar8 0 (λ_ _=>false) (λf t az cH=>apK f t az cH) au Ms aL auA;generalize cJ (λ_ _=>false) au Ms aL=R at *;repeat' ((conv=>whnf);first|refine fZ (by assumption) ?_|refine aS Vr ?_|refine .inr ⟨[4,2,3,5],bS cn ?_⟩|fail)
       all_goals(conv=>whnf)
       refine⟨(t+1,R.1,R.2),⟨tH,ad,aN⟩,by simp only[];omega,?_⟩;conv=>whnf
       exact⟨⟨.r,.r,.r,aX (bW (by omega)),ai⟩,⟨.r,.r,.r,.r,.r,.r,ai⟩,by rfl⟩
      ·have ae0:decide ((t:Int)<((40+8*v.mem.length:Nat):Int))=false:=cX (by omega);have me:t=40+8*v.mem.length:=by omega
       subst me;obtain⟨V,gS,iW,awV,Vs,Lr⟩:=auj b4 Jp;have Vt:=Zi v (by omega) G (by omega);have auB: (pa v G v.mem G).2=V.mem:=by
        obtain⟨_,ad,_⟩:=IL b4.ok;rw[Vs];exact IM ab ad
       rw[auB]at Vt;repeat' ((conv=>whnf);first|refine e3 (by assumption) ?_|refine aS Vr ?_|refine aS Vt ?_|fail)
       all_goals(conv=>whnf)
       have hlen:=ux FB;have na:=FB.qw;have auC:=b4;clear FB Jp b4 Vt Aa Vr aeZ aG bc ae0;refine⟨Nat×Bool,λZ=>⟨[(2,.aV 0 0),(7,.aV 4 0),(10,.ar 1 (V.mem.map aM) false),(11,.aV 6 0),(12,i64 Z.1)],[.cells 24 (cc v),.bm,.row 55 29 (Ms.map cA),.row 4 1 (au.map hB),.cells 32 (ps 2 3 5),.row 82 3 ((aL.map od).map lB),.cells 24 (bif Z.2 then cc V else [i64 0,.av])]⟩,λZ=>Z.1<=Ms.length,λZ=>Ms.length-Z.1,[],⟨(0,false),bX _,?_⟩,?_⟩
       ·conv=>whnf
        exact⟨⟨.r,.r,.r,.r,.r,ai⟩,⟨.r,.r,.r,.r,.r,.r,.r,ai⟩,by rfl⟩
       ·intro (j,b) aq;simp only[]at aq;by_cases gT:j<Ms.length
        ·have Vq:decide ((j:Int)<((Ms.map cA).length:Int))=true:=by rw[bF];exact ep (by omega)
         have yt:j<(au.map hB).length:=by rw[bF,na];exact gT
         have jx: (au.map hB)[j]?=some (hB (au.getD j true)):=by
          rw[e7];simp[show j<au.length by omega]
         have gn:j<(Ms.map cA).length:=by rw[bF];exact gT
         have cM: (Ms.map cA)[j]?=some (cA Ms[j]):=c3 gT;cases Je:au.getD j true
         ·obtain⟨b3,oF⟩:=Lr j ⟨by omega,Je⟩;rw[Ft gT]at b3 oF;rw[Je]at jx;have auD:V.mem.length<=maxLen:=by
           rw[Vs];exact bQ (sq ..) ji
          generalize Ms[j]=m at *;obtain⟨wt,Kl,Pv,ae1,ae2,vS,ae3,ae4,ae5,ae6⟩:=m;simp only[]at b3 oF;subst b3;subst oF;have Vu:=amo vS vS auD;rw[show (decide (vS.num=vS.num)&&hx vS.mem vS.mem)=true from yk vS]at Vu;have vc:decide (vS.num<=v.num)=false:=cX (by omega);have WV:decide (((vS.mem.map aM).length:Int)=0)=false:=by
           rw[bF,Vs];have:=(Fy auC).1;exact cX (by omega)
          cases b
          ·repeat' ((conv=>whnf);first|refine be ?_|refine fZ (by assumption) ?_|refine e3 (by assumption) ?_|refine dr ?_|refine⟨j,aO ⟨rfl,yt⟩ ?_⟩|refine⟨hB false,aO jx ?_⟩|refine⟨j,aO ⟨rfl,gn⟩ ?_⟩|refine⟨cA ⟨wt,1,Pv,ae1,ae2,vS,ae3,ae4,ae5,ae6⟩,aO cM ?_⟩|refine dz Vu ?_|fail)
           all_goals(conv=>whnf)
           refine⟨(j+1,true),gT,by simp only[];omega,?_⟩;conv=>whnf
           exact⟨⟨.r,.r,.r,.r,aX (bW (by omega)),ai⟩,⟨.r,.r,.r,.r,.r,.r,.r,ai⟩,by rfl⟩
          ·repeat' ((conv=>whnf);first|refine be ?_|refine fZ (by assumption) ?_|refine e3 (by assumption) ?_|refine dr ?_|refine⟨j,aO ⟨rfl,yt⟩ ?_⟩|refine⟨hB false,aO jx ?_⟩|refine⟨j,aO ⟨rfl,gn⟩ ?_⟩|refine⟨cA ⟨wt,1,Pv,ae1,ae2,vS,ae3,ae4,ae5,ae6⟩,aO cM ?_⟩|refine dz Vu ?_|fail)
           all_goals(conv=>whnf)
           refine⟨(j+1,true),gT,by simp only[];omega,?_⟩;conv=>whnf
           exact⟨⟨.r,.r,.r,.r,aX (bW (by omega)),ai⟩,⟨.r,.r,.r,.r,.r,.r,.r,ai⟩,by rfl⟩
         ·rw[Je]at jx;repeat' ((conv=>whnf);first|refine fZ (by assumption) ?_|refine⟨j,aO ⟨rfl,yt⟩ ?_⟩|refine⟨hB true,aO jx ?_⟩|fail)
          all_goals(conv=>whnf)
          refine⟨(j+1,b),gT,by simp only[];omega,?_⟩;cases b;all_goals(conv=>whnf)
          all_goals exact⟨⟨.r,.r,.r,.r,aX (bW (by omega)),ai⟩,⟨.r,.r,.r,.r,.r,.r,.r,ai⟩,by rfl⟩
        ·have Vq:decide ((j:Int)<((Ms.map cA).length:Int))=false:=by rw[bF];exact cX (by omega)
         repeat' ((conv=>whnf);first|refine e3 (by assumption) ?_|exact .refl|fail)
theorem auE(wQ:List ak)(h:Lk ag 6 [24,5] wQ):bl Tryz.prog 4 wQ (.v (.bool true)):=by
 obtain⟨cP,_,rfl,h1,a2,_,rfl,⟨D,rfl,rY⟩,rfl⟩:=h;obtain⟨v,rfl,ab⟩:=ajL (n:=3) h1;have ac:=bounds_u8 (by exact rY);obtain⟨n,rfl⟩:=qU ac.1;exact auw v ab n (by omega)
end Go.Proofs.YtdcfooeoaoahjaaGreat
