/- The laws of this seat, part OwE: contracts of the functions, plain laws. No conditions. -/
import Derived.Test.YtdcfooeoaoahjaaGreatOwD
set_option linter.unusedSimpArgs false
set_option linter.unusedVariables false
set_option linter.unusedSectionVars false
set_option maxRecDepth 100000
set_option maxHeartbeats 16000000
namespace Go.Proofs.YtdcfooeoaoahjaaGreat
open Go.Lift
structure od(bA:aK->Int->Prop)(v0:aK)(aO:List Int)(aF:List Bool)(T:Nat)(Ms:List Mem)(aJ:List dr):Prop where
 g:∃G,G.v0=v0/\lH bA T G Ms aJ
 aO:Ms.map (·.self)=aO
 su:aF.length=Ms.length
 adB:Ms.length<=8
 j2:mP Ms+kH aJ<=10800*Ms.length+80000*T
 src:∀f∈aJ,∃i,∃hi:i<Ms.length,aF.getD i true=false/\Ms[i].self=f.src
def b9(Ms:List Mem)(i:Nat):Mem:=Ms.getD i dv
def cw(aO:List Int)(aF:List Bool)(i:Nat):Prop:=i<aO.length/\aF.getD i true=false
def a6(aO:List Int)(i:Nat):Int:=aO.getD i 0
section
variable {bA:aK->Int->Prop} {v0:aK} {aO:List Int} {aF:List Bool} {T:Nat} {Ms:List Mem} {aJ:List dr} {cb:Int->Int->Bool}
theorem ul(h:od bA v0 aO aF T Ms aJ):aO.length=Ms.length:=by rw[<-h.aO,bL]
theorem oe(h:od bA v0 aO aF T Ms aJ){i:Nat}(hi:i<Ms.length):Ms[i].self=a6 aO i:=by
 unfold a6;rw[<-h.aO]
 grind
theorem Cm{i:Nat}(hi:i<Ms.length):b9 Ms i=Ms[i]:=by simp[b9,hi]
theorem Uh(jg:∀a b,cb a b=false)(h:od bA v0 aO aF T Ms aJ)(aw:T+1<=399)
  {I:Nat->Mem->List dr->List c9->Prop} {Q:Nat->Mem->List c9->Prop} (aQ:∀i,cw aO aF i->I i (b9 Ms i) [] [])
  (ae:∀i,cw aO aF i->∀s l o f bd,bd.v0=v0->dm bA T bd->fz bd s->s.self=a6 aO i->f∈aJ->f.dst=s.self->f.src≠s.self->ns bd f.src f.bj->(∃j,cw aO aF j/\f.src=a6 aO j)->I i s l o->I i (eM s f.src f.bj).1 (l++ [f]) (o++(eM s f.src f.bj).2))
  (an:∀i,cw aO aF i->∀s l o bd,bd.v0=v0->dm bA T bd->fz bd s->s.self=a6 aO i->(∀f∈aJ,f.dst=s.self->f∈l)->I i s l o->l4 bA s)
  (cI:∀i,cw aO aF i->∀s l o bd,bd.v0=v0->dm bA (T+1) bd->fz bd s->s.hist.length<T+1->s.self=a6 aO i->(∀f∈aJ,f.dst=s.self->f∈l)->I i s l o->l4 bA s->Q i (fi s).1 (o++(fi s).2)):
  yi cb aF Ms aJ/\od bA v0 aO aF (T+1) (cZ cb aF Ms aJ).1 (cZ cb aF Ms aJ).2/\
  ∃O:Nat->List c9,(∀i,cw aO aF i->Q i (b9 (cZ cb aF Ms aJ).1 i) (O i))/\
   ∀f,f∈ (cZ cb aF Ms aJ).2↔∃i,cw aO aF i/\∃p∈O i,f=j5 (a6 aO i) p:=by
 obtain⟨G,Ee,dA⟩:=h.g;have af:=ul h;have gO:∀ {i:Nat},i<Ms.length->aF.getD i true=false->cw aO aF i:=λhi aa=>⟨by omega,aa⟩;obtain⟨dL,⟨bd,e',dW⟩,eU,hj,iV,Ui,O,asn,aso⟩:=arE (cb:=cb) (aF:=aF) (I:=I) (Q:=Q) jg h.su h.adB dA aw h.j2 (λf au=>by
   obtain⟨i,hi,_,e⟩:=h.src f au
   grind)
  (λi hi aa=>by
   have:=aQ i (gO hi aa);rw[Cm hi]at this;omega)
  (λi hi aa s l o f bd aA aG bc cn ep iI mr qx ue=>by
   obtain⟨j,aq,asp,lY⟩:=h.src f ep;exact ae i (gO hi aa) s l o f bd (aA.trans Ee) aG bc (cn.trans (oe h hi)) ep iI mr qx ⟨j,gO aq asp,by rw[<-lY];exact oe h aq⟩ ue)
  (λi hi aa s l o bd aA aG bc cn ep iI=>an i (gO hi aa) s l o bd (aA.trans Ee) aG bc (cn.trans (oe h hi)) ep iI)
  (λi hi aa s l o bd aA aG bc cn ep iI mr qx=>cI i (gO hi aa) s l o bd (aA.trans Ee) aG bc cn (ep.trans (oe h hi)) iI mr qx)
 refine⟨dL,⟨⟨bd,e'.trans Ee,dW⟩,iV.trans h.aO,by rw[eU];exact h.su,by rw[eU];exact h.adB,by grind,λf au=> ?_⟩,O,λi hi=>asn i (by have:=hi.1;omega) hi.2,λf=> ?_⟩
 ·obtain⟨i,hi,aa,e⟩:=Ui f au;have di:i<(cZ cb aF Ms aJ).1.length:=by omega
  exact⟨i,di,aa,(T3 iV di hi).trans e⟩
 ·rw[aso f];constructor
  ·rintro⟨i,hi,aa,p,iN,e⟩;exact⟨i,gO hi aa,p,iN,by rw[e,oe h hi]⟩
  ·rintro⟨i,hi,p,iN,e⟩;have di:i<Ms.length:=by have:=hi.1;omega
   exact⟨i,di,hi.2,p,iN,by rw[e,oe h di]⟩
end
structure E4(bA:aK->Int->Prop)(C cY J:Int->Prop)(v0 V:aK)(k:Nat)(aO:List Int)(aF:List Bool)(bH:Int):Prop where
 up:∀i,cw aO aF i->¬C (a6 aO i)/\(a6 aO i≠bH->¬bA V (a6 aO i))
 all:∀y∈V.mem,¬C y->∃i,cw aO aF i/\a6 aO i=y/\y≠bH
 num:V.num=v0.num+k
 IN:b2 V=true
 me:∀y,cY y->bA V y
 cs:∀y,C y->y∈V.mem->cY y
 mS:∀y,J y->cY y/\y∉V.mem/\k=0/\V=v0/\∀z,bA V z->z=y
structure s1(C cY J:Int->Prop)(V:aK)(k:Nat)(aO:List Int)(aF:List Bool)(bH:Int)(α:Nat)(ho:c1->Prop)(Ms:List Mem)(aJ:List dr):Prop where
 m:∀i,cw aO aF i->a6 aO i≠bH->∃a b,(a=α\/a=α+1)/\b<=3/\mv V C cY k a b [] [] (b9 Ms i)/\(10<=a->∀z,gk V z=true->C z.bG->z.bG∈V.mem->z.jW=a6 aO i->z∈ (b9 Ms i).als)
 hg:∀f∈aJ,jB V k J (po C cY) ho f.src f.bj
 ac:∀i j,cw aO aF i->cw aO aF j->a6 aO i≠bH->a6 aO j≠bH->a6 aO i∈cQ V.mem (a6 aO j)->∃f∈aJ,f.src=a6 aO j/\f.dst=a6 aO i/\f.bj= .ac V.num
 hm:∀i j,cw aO aF i->cw aO aF j->a6 aO i≠bH->a6 aO j≠bH->a6 aO i≠a6 aO j->(b9 Ms i).als≠ []->∃f∈aJ,f.src=a6 aO i/\f.dst=a6 aO j/\f.bj= .hm V.num (b9 Ms i).als
def IP(V:aK)(k:Nat)(J:Int->Prop)(mR:List bR->Prop)(src:Int):kX->Prop
 | .ac n=>n<=V.num+1
 | .hm n l=>n<V.num\/(n=V.num/\mR l)
 | .dP m=>m.view<=V.num
 | .hi _ c=>c.length<=k+1
 | .e6=>J src
structure Nf(C cY J:Int->Prop)(V:aK)(k:Nat)(aO:List Int)(aF:List Bool)(bH:Int)(β:Nat)(Ms:List Mem)(aJ:List dr):Prop where
 m:∀i,cw aO aF i->a6 aO i≠bH->((∃a b,mv V C cY k a b [] [] (b9 Ms i)/\b<=3)/\∃f∈aJ,f.dst=a6 aO i/\∃m,f.bj= .dP m/\m.kind=6/\m.view=V.num)\/∃a b,hG C (k+1) a b (b9 Ms i)/\a<=β/\b<=β
 eE:∃i,cw aO aF i/\a6 aO i≠bH/\∃a b,hG C (k+1) a b (b9 Ms i)/\a<=β/\b<=β
 hg:∀f∈aJ,IP V k J (po C cY) f.src f.bj
structure E5(bA:aK->Int->Prop)(C cY:Int->Prop)(V:aK)(k:Nat)(aO:List Int)(aF:List Bool)(bH:Int)(ho rn:c1->Prop)(Ms:List Mem)(aJ:List dr)(rl:Nat->List dr->bi->List c9->Prop)(vC:Nat->Mem->bi->List c9->Prop):Prop where
 a0:∀i,cw aO aF i->a6 aO i≠bH->rl i [] (b9 Ms i).agr []
 adC:∀i l s o f aT,rl i l s o->(∀m,f.bj= .dP m->m.view<V.num)->(∀p∈aT,∃v c,p.bj= .hi v c)->rl i (l++ [f]) s (o++aT)
 adD:∀i,cw aO aF i->a6 aO i≠bH->∀ (s:Mem) l o f m,c2 s.agr->fW s.agr->s.agr.view=V->s.agr.self=a6 aO i->s.view=V->s.self=a6 aO i->s.agr.dec=[]->rl i l s.agr o->f∈aJ->f.bj= .dP m->m.view=V.num->ho m->eG V m=true->m.src=f.src->m.src≠a6 aO i->
  (m.kind=4->0<s.agr.aL.aC->s.agr.aL.aC=m.aC->s.agr.aL.cut=m.cut)->(dC s.agr m).1.dec=[]->rl i (l++ [f]) (dC s.agr m).1 (o++h0 s (dC s.agr m).2.1)
 dP:∀i l s o,rl i l s o->∀p∈o,∀m,p.bj= .dP m->rn m
 adE:∀i,cw aO aF i->a6 aO i≠bH->∀ (s:Mem) l o,s.view=V->s.self=a6 aO i->dG V s.als=true->po C cY (bY s).als->(∀z∈ (b9 Ms i).als,z∈s.als)->(∀z∈s.als,z∈ (bY s).als)->(∀f∈l,∀L,f.bj= .hm V.num L->∀z∈L,z∈s.als)->(∀f∈aJ,f.dst=a6 aO i->f∈l)->rl i l s.agr o->c2 s.agr->fW s.agr->s.agr.view=V->s.agr.self=a6 aO i->s.agr.dec=[]->
  (∀x∈s.agr.aM,∀y∈s.agr.aM,x.aC=y.aC->x.cut=y.cut)->c2 (eA s).1->fW (eA s).1->(eA s).1.view=V->(eA s).1.self=a6 aO i->(cN (eA s).1).1.dec=[]->vC i s (cN (eA s).1).1 (o++(h0 s (eA s).2++h0 s (cN (eA s).1).2))/\∀p∈ (eA s).2++(cN (eA s).1).2,rn p.m
theorem asq{bA:aK->Int->Prop}{C cY:Int->Prop}{V:aK}{k:Nat}{aO:List Int}{aF:List Bool}{bH:Int}{ho Uj rn:c1->Prop}{Ms:List Mem}{aJ:List dr}{rl:Nat->List dr->bi->List c9->Prop}{vC:Nat->Mem->bi->List c9->Prop}
  (h:E5 bA C cY V k aO aF bH ho rn Ms aJ rl vC) (ae:∀m,Uj m->ho m):E5 bA C cY V k aO aF bH Uj rn Ms aJ rl vC:=
 ⟨h.a0,h.adC,λi hi ag s l o f m cH a2 a3 a4 a5 Ng adF asr a9 cX c0 iu ly tW sL sM sN=>h.adD i hi ag s l o f m cH a2 a3 a4 a5 Ng adF asr a9 cX c0 (ae m iu) ly tW sL sM sN,h.dP,h.adE⟩
section
variable {bA:aK->Int->Prop} {C cY J:Int->Prop} {v0 V:aK} {aO:List Int} {aF:List Bool} {T k α:Nat} {bH:Int} {Ms:List Mem} {aJ:List dr} {cb:Int->Int->Bool} {ho rn:c1->Prop} {G:iL} {s:Mem} {a b b':Nat} {aD:List bR} {l:List dr}
theorem Uk(h:mv V C cY k a b aD l s):mv V C cY k a b [] [] s:=⟨h.b4,h.af,h.hI,h.a7,(λf au=>by cases au),(λz bt=>by cases bt),h.sub,(λf au=>by cases au),(λf au=>by cases au)⟩
theorem ass(h:mv V C cY k a b [] [] s):mv V C cY k a b s.als [] s:=⟨h.b4,h.af,h.hI,h.a7,(λf au=>by cases au),(λz bt=>bt),h.sub,(λf au=>by cases au),(λf au=>by cases au)⟩
theorem ast(ai:gl G s):∀p∈ (eA s).2,eG s.view p.m=true:=λp an=>by
 unfold eA at an;cases al:decide ((s.agr.prop.length:Int)=0)&& (dl s.view (bY s).als).2&&decide ((eH s.agr (dl s.view (bY s).als).1).2.2=0)
 ·grind
 ·rw[al,b6]at an;rw[cq]at al;have:=((R5 ai.hn ai.h8 (fC al.2)).2.2.2.2 p an).pS;rw[ai.jA]at this;omega
theorem asu(bf:dm bA T G)(ai:gl G s)(aw:s.hist.length<T)(df:l4 bA s):∀p∈ (cN (eA s).1).2,eG s.view p.m=true:=λp an=>by
 obtain⟨yh,nA,kY⟩:=Nb bf ai aw df;have:=((Er kY.hn kY.h8).2.2.2.2 p an).pS;have fO: (eA s).1.view=s.view:=kY.jA.trans (qA s).1
 grind
theorem asv(bf:dm bA T G)(ai:gl G s):∀x∈s.agr.aM,∀y∈s.agr.aM,x.aC=y.aC->x.cut=y.cut:=λx ag y bk e=>by
 have hb:=bf.qC _ ai.af;have GS:=ai.qD.dO.aM x ag;have gG:=ai.qD.dO.aM y bk;rw[e]at GS;exact hb.fJ _ _ _ (hb.cH _ _ _ GS).1 (hb.cH _ _ _ gG).1
theorem Nh(bf:dm bA T G)(ai:gl G s):s.view.num=G.v0.num+s.hist.length:=by
 rw[ai.view];exact(j3 bf ai.af).2
theorem adG(al:E4 bA C cY J v0 V k aO aF bH)(bf:dm bA T G)(fk:G.v0=v0)(ai:gl G s)(af:s.hist.length=k+1){y:Int}(bk:J y):bP s.view.mem y=true:=by
 obtain⟨dc,dt,gy,ef,np⟩:=al.mS y bk;subst gy;have aB:0<G.D.length:=by
  have:=ai.af;omega
 have pF:=(sK (j3 bf (k:=0) (by omega)).1).1;have jh:=bf.dec 0 aB;have df:=HD pF (bf.qC 0 (by omega)) jh;have qY:=bf.zS 0 (by omega) _ df;have hx: (er (fy G 0) (G.D.getD 0 [])).2=0:=fC (bf.n9.2 0 aB);have bx:G.D.getD 0 []≠ []:=wL (v:=fy G 0) (e4 hx);have ab:s.view=(er (fy G 0) (G.D.getD 0 [])).1:=by
  rw[ai.view,af];rfl
 have asw:y∈G.D.getD 0 []:=by
  cases rN:G.D.getD 0 []with
  |nil=>grind
  |cons z m=>
   have:=qY z (by grind);rw[show fy G 0=V from fk.trans ef.symm]at this
   grind
 rw[ab];refine iR.2 (((EQ hx).2.2 y).2 (.inr ⟨asw,?_⟩));have:fy G 0=v0:=fk
 grind
theorem adH(al:E4 bA C cY J v0 V k aO aF bH)(cP:s1 C cY J V k aO aF bH α ho Ms aJ){i:Nat}(hi:cw aO aF i)(ag:a6 aO i≠bH)(ae:s.self=a6 aO i)(af:∀f∈aJ,f.dst=s.self->f∈l)(ct:mv V C cY k a b aD l s):∀y∈V.mem,y≠s.self->s.self∈cQ V.mem y->¬C y->qF s.a7 y:=λy bk _ aH asx=>by
 obtain⟨j,aq,lY,ji⟩:=al.all y bk asx;rw[ae,<-lY]at aH;obtain⟨f,au,f1,f2,f3⟩:=cP.ac i j hi aq ag (by omega) aH;have:=ct.aa f (af f au (f2.trans ae.symm)) f3 (iR.2 (by grind))
 grind
theorem asy{W:aK}(aV:W.num=V.num+1){J:Int->Prop}{mR:List bR->Prop}{src:Int}{f:kX}(h:jB V k J mR ho src f):jB W (k+1) J (λ_=>False) (λ_=>False) src f:=by
 cases f with
 |ac n=>
  have h:n<=V.num:=h;show n<=W.num;omega
 |hm n l=>
  left;rcases h with h|h<;>omega
 |dP m=>
  left;rcases h with h|h<;>omega
 |hi v c=>exact NY h
 |e6=>exact h
def adI(V:aK)(ho:c1->Prop)(k:Nat)(o:List c9):Prop:=∀p∈o,(∃m,p.bj= .dP m/\m.view=V.num/\ho m)\/∃v c,p.bj= .hi v c/\c.length<=k
theorem E6(jg:∀a b,cb a b=false)(dA:od bA v0 aO aF T Ms aJ)(aw:T+1<=399)(al:E4 bA C cY J v0 V k aO aF bH)(cP:s1 C cY J V k aO aF bH α ho Ms aJ)
  {rl:Nat->List dr->bi->List c9->Prop} {vC:Nat->Mem->bi->List c9->Prop} (b1:E5 bA C cY V k aO aF bH ho rn Ms aJ rl vC) {hy:Mem->List dr->List c9->Prop} {mT:Mem->List c9->Prop}
  (p3:∀i,cw aO aF i->a6 aO i=bH->hy (b9 Ms i) [] [])
  (mS:∀i,cw aO aF i->a6 aO i=bH->∀s l o f bd,bd.v0=v0->dm bA T bd->fz bd s->s.self=bH->f∈aJ->f.dst=s.self->ns bd f.src f.bj->hy s l o->hy (eM s f.src f.bj).1 (l++ [f]) (o++(eM s f.src f.bj).2))
  (jp:∀s l o,hy s l o->s.status=0)
  (pq:∀i,cw aO aF i->a6 aO i=bH->∀s l o,(∀f∈aJ,f.dst=bH->f∈l)->hy s l o->mT (fi s).1 (o++(fi s).2))
  (s3:∀s o,mT s o->∀p∈o,p.bj= .e6) (um:∀i,cw aO aF i->a6 aO i=bH->J bH) {β:Nat} (vD:β<=1/\((∃m,ho m)->β=1)):
  yi cb aF Ms aJ/\od bA v0 aO aF (T+1) (cZ cb aF Ms aJ).1 (cZ cb aF Ms aJ).2/\
  ∃O:Nat->List c9,(∀f,f∈ (cZ cb aF Ms aJ).2↔∃i,cw aO aF i/\∃p∈O i,f=j5 (a6 aO i) p)/\(∀i,cw aO aF i->a6 aO i=bH->mT (b9 (cZ cb aF Ms aJ).1 i) (O i))/\
   ((s1 C cY J V k aO aF bH (α+1) rn (cZ cb aF Ms aJ).1 (cZ cb aF Ms aJ).2/\∀i,cw aO aF i->a6 aO i≠bH->∃s o,vC i s (b9 (cZ cb aF Ms aJ).1 i).agr o/\(b9 (cZ cb aF Ms aJ).1 i).als=(bY s).als/\(∀p∈o,p∈O i)/\((∃f∈aJ,f.src=bH/\f.dst=a6 aO i/\f.bj= .e6)->(∃v c,(⟨bH,.hi v c⟩:c9)∈O i)/\∀z,gk V z=true->z.bG=bH->z.jW=a6 aO i->z∈ (b9 (cZ cb aF Ms aJ).1 i).als))\/
    Nf C cY J V k aO aF bH β (cZ cb aF Ms aJ).1 (cZ cb aF Ms aJ).2):=by
 have Cn:∀ {f:dr},(∃j,cw aO aF j/\f.src=a6 aO j)->¬C f.src:=λ⟨j,aq,e⟩=>by
  rw[e];exact(al.up j aq).1
 have Ul:∀y,J y->cY y:=λy bk=>(al.mS y bk).1;have M1:∀ {s:Mem} {G:iL},gl G s->s.view=V->po C cY (bY s).als->l4 bA s:=λ{s G} ai hF ae _ _ y bk=>by
  have q4: (bY s).view=V:=(qA s).1.trans hF;have ab:=Is ai.als;rw[<-(qA s).1]at ab;obtain⟨z,bt,e⟩:=arS ab y bk;rw[<-e];have uf:=al.me _ (ae z bt).1
  grind
 have W:=Uh (cb:=cb) (aJ:=aJ) jg dA aw
  (I:=λi s l o=>(a6 aO i=bH->hy s l o)/\(a6 aO i≠bH->
   (∃a b,(a=α\/a=α+1)/\b<=3/\(10<=a->∀z,gk V z=true->C z.bG->z.bG∈V.mem->z.jW=a6 aO i->z∈ (b9 Ms i).als)/\mv V C cY k a b (b9 Ms i).als l s/\rl i l s.agr o/\adI V rn k o/\(∀f∈l,f.bj= .e6->f.src=bH->∃v c,(⟨bH,.hi v c⟩:c9)∈o))\/
   ((∃m,ho m)/\hG C (k+1) 0 0 s/\E2 V (a6 aO i) o/\adI V (λ_=>True) (k+1) o)))
  (Q:=λi s o=>(a6 aO i=bH->mT s o)/\(a6 aO i≠bH->
   (∃a b,(a=α+1\/a=α+2)/\b<=3/\(10<=a->∀z,gk V z=true->C z.bG->z.bG∈V.mem->z.jW=a6 aO i->z∈s.als)/\mv V C cY k a b [] [] s/\s.self=a6 aO i/\(∃e9 q1,vC i e9 s.agr q1/\s.als=(bY e9).als/\(∀p∈q1,p∈o)/\((∃f∈aJ,f.src=bH/\f.dst=a6 aO i/\f.bj= .e6)->(∃v c,(⟨bH,.hi v c⟩:c9)∈o)/\∀z,gk V z=true->z.bG=bH->z.jW=a6 aO i->z∈s.als))/\(∀p∈j4 s,p∈o)/\∀p∈o,p∈j4 s\/(∃m,p.bj= .dP m/\m.view=V.num/\rn m)\/∃v c,p.bj= .hi v c/\c.length<=k)\/
   (∃a b,hG C (k+1) a b s/\a<=β/\b<=β/\E2 V (a6 aO i) o/\∀p∈o,IP V k J (po C cY) (a6 aO i) p.bj)))
 replace W:=W (λi hi=>by
  refine⟨λag=>p3 i hi ag,λag=> ?_⟩;obtain⟨a,b,dc,dt,gy,ef⟩:=cP.m i hi ag;exact .inl ⟨a,b,dc,dt,ef,ass gy,b1.a0 i hi ag,(λp an=>by cases an),λf au=>by cases au⟩)
 replace W:=W (λi hi s l o f bd fk bf cT ae au lw bx ha ig b5=>by
  refine⟨λag=>mS i hi ag s l o f bd fk bf cT (ae.trans ag) au lw ha (b5.1 ag),λag=> ?_⟩;have nQ:=cP.hg f au;have gO:=al.up i hi;rcases b5.2 ag with⟨a,b,dc,dt,gy,ef,np,uo,zZ⟩| ⟨qv,dc,dt,gy⟩
  ·obtain⟨ai,aa,_⟩:=qG cT ef.b4;rcases adx bf cT ef bx ha nQ (Cn ig) (Ul _) (by grind) (by grind)with⟨m,m1,m2,m3,oG,m5,m6,m7,⟨m8,m9,m10⟩| ⟨m8,m9,m10⟩⟩| ⟨m1,m2,m3,oG,m5⟩
   ·right;rw[ae]at m10;refine⟨⟨m,m3⟩,m9,Nc m10 (λp an=>mx _ an),λp an=> ?_⟩;rcases eb.1 an with an|an
    ·rcases uo p an with⟨eg,e,h1,_⟩| ⟨v,c,e,h1⟩;all_goals grind
    ·rw[m7]at an;obtain⟨q,bX,x,_,rfl⟩:=yl.1 an;have cy: (dC s.agr m).2.2=0:=(Ua ai.hn ai.h8 (by rw[ai.jA,ef.hI];exact oG) (by rw[ai.nr,m5];omega))
     have:=(kC ((zy ai.hn ai.h8 cy).2.2.2.2 q bX).pS).2;rw[ai.jA,ef.hI]at this
     grind
   ·left;have fO:s.agr.view=V:=ai.jA.trans ef.hI;have asz:=b1.adD i hi ag s l o f m ai.hn ai.h8 fO (ai.nr.trans ae) ef.hI ae aa np au m1 m2 m3 oG m5 (by grind) m6 m8;refine⟨a,b,dc,dt,gy,m9,by grind,λp an=> ?_,λg ax e es=> ?_⟩
    ·have gi:=b1.dP i _ _ _ asz;rw[m7]at an;rcases eb.1 an with iN|iN
     ·exact uo p iN
     ·obtain⟨q,bX,x,_,rfl⟩:=yl.1 iN;have cy: (dC s.agr m).2.2=0:=(Ua ai.hn ai.h8 (by grind) (by rw[ai.nr,m5];omega))
      have:=(kC ((zy ai.hn ai.h8 cy).2.2.2.2 q bX).pS).2
      grind
    grind
   ·left;refine⟨a,b,dc,dt,gy,m2,by rw[m3];exact b1.adC i l s.agr o f _ np m1 (λp an=>by
     grind),λp an=> ?_,λg ax e es=> ?_⟩
    ·rcases eb.1 an with an|an
     ·exact uo p an
     grind
    ·rcases eb.1 ax with ax|ax
     ·grind
     ·rw[eJ.1 ax]at e es;obtain⟨p,an,fl,ff⟩:=m5 e;refine⟨s.first,s.hist,mx _ ?_⟩;have:p= ⟨bH,.hi s.first s.hist⟩:=by
       obtain⟨adJ,adK⟩:=p
       grind
      grind
  ·right;obtain⟨ai,_⟩:=qG cT dc.b4;have aV:s.view.num=V.num+1:=by
    have:=Nh bf ai;rw[dc.af,fk]at this;have:=al.num;omega
   obtain⟨oc,kP,oQ,wU,sx,IQ⟩:=Nd (J:=J) bf cT dc bx ha (asy aV nQ) (Cn ig) (λaq=>adG al bf fk ai dc.af aq);refine⟨qv,oc,Nc dt (λp an=>CL _ an),λp an=> ?_⟩;rcases eb.1 an with an|an
   ·exact gy p an
   ·exact .inr ⟨_,_,(sx p an).2,Fv dc.af⟩)
 replace W:=W (λi hi s l o bd fk bf cT ae af b5=>by
  by_cases ag:a6 aO i=bH
  ·intro bU
   grind
  ·rcases b5.2 ag with⟨a,b,dc,dt,gy,ef,np,uo,zZ⟩| ⟨qv,dc,dt,gy⟩
   ·obtain⟨ai,aa,_⟩:=qG cT ef.b4;exact M1 ai ef.hI (Ug bf ai ef (.inr ⟨bS b,adH al cP hi ag ae af ef⟩) dt (by rw[ae];exact(al.up i hi).1) al.cs).1
   ·exact(Cl (b':=1) bf cT dc (.inl (bS _)) (by decide) (.inl (by decide))).1)
 replace W:=W (λi hi s l o bd fk bf cT wV ae af b5 df=>by
  refine⟨λag=>pq i hi ag s l o (λf au lw=>af f au (by omega)) (b5.1 ag),λag=> ?_⟩;have gO:=al.up i hi;rcases b5.2 ag with⟨a,b,dc,dt,gy,ef,np,uo,zZ⟩| ⟨qv,dc,dt,gy⟩
  ·obtain⟨ai,aa,_⟩:=qG cT ef.b4;have adL:=adH al cP hi ag ae af ef;have xX:∀p∈h0 s (eA s).2++h0 s (cN (eA s).1).2,∃m,p.bj= .dP m/\m.view=V.num/\∃q∈ (eA s).2++(cN (eA s).1).2,q.m=m:=λp an=>by
    rcases eb.1 an with an|an
    ·obtain⟨q,bX,x,_,rfl⟩:=yl.1 an;have:=(kC (ast ai q bX)).2;rw[ef.hI]at this
     grind
    ·obtain⟨q,bX,x,_,rfl⟩:=yl.1 an;have:=(kC (asu bf ai wV df q bX)).2;rw[ef.hI]at this
     grind
   rcases asl bf cT ef wV df (.inr ⟨bS b,adL⟩) dt (by grind) (by grind) al.cs with⟨t1,t2,t3,t4⟩| ⟨t1,t2,t3,t4,t5,t6⟩
   ·right;rw[ae]at t3;refine⟨0,0,t2,bZ _,bZ _,Nc t3 (λp an=>mx _ an),λp an=> ?_⟩;rcases eb.1 an with an|an
    ·rcases uo p an with⟨m,e,h1,_⟩| ⟨v,c,e,h1⟩
     ·rw[e];exact CA h1
     ·rw[e];exact NY h1
    ·rw[t4]at an;obtain⟨m,e,h1,_⟩:=xX p an;rw[e];exact CA h1
   ·left;obtain⟨yh,nA,kY⟩:=Nb bf ai wV df;obtain⟨cV,dj,hT,hN,nk,qu⟩:=qA s;have qY:=(Ug bf ai ef (.inr ⟨bS b,adL⟩) dt (by grind) al.cs).1;have u1:=ai.als;rw[ef.hI]at u1;obtain⟨QB,avM⟩:=b1.adE i hi ag s l o ef.hI ae u1 qY ef.ym (M8 ai.als).1 ef.hm (λf au lw=>af f au (lw.trans ae.symm)) np ai.hn ai.h8 (ai.jA.trans ef.hI) (ai.nr.trans ae) aa (asv bf ai) kY.hn kY.h8 (kY.jA.trans (cV.trans ef.hI)) (kY.nr.trans (dj.trans ae)) t1;refine⟨a+1,b,by omega,dt,λbb z eW hc v3 v4=> ?_,Uk t2,?_,⟨s,_,by rw[t3];exact QB,t5,λp an=> ?_,λ⟨g,ax,g1,g2,g3⟩=>⟨?_,λz eW hc v3=> ?_⟩⟩,λp an=> ?_,λp an=> ?_⟩
    ·by_cases TF:a+1=10
     ·grind
     ·exact t2.ym z (ef.ym z (gy (by omega) z eW hc v3 v4))
    ·exact(MX bf cT wV df).1.trans ae
    ·grind
    ·grind
    ·have asA:J bH:=by
      have:=cP.hg g ax;rw[g3,g1]at this;exact this
     have Um:bP V.mem g.src=false:=by
      rw[g1];cases fE:bP V.mem bH
      ·rfl
      ·exact absurd (iR.1 fE) (al.mS bH asA).2.1
     exact t2.ym z (ef.e6 g (af g ax (g2.trans ae.symm)) g3 Um z eW (hc.trans g1.symm) (v3.trans ae.symm))
    ·grind
    ·rcases eb.1 an with an|an
     ·exact .inr (uo p an)
     grind
  ·right;obtain⟨ai,_⟩:=qG cT dc.b4;have aV:s.view.num=V.num+1:=by
    have:=Nh bf ai;rw[dc.af,fk]at this;have:=al.num;omega
   obtain⟨_,kP,oQ,wU,sx⟩:=Cl (b':=1) bf cT dc (.inl (bS _)) (by decide) (.inl (by decide));refine⟨1,1,kP,by grind,by grind,Nc dt (λp an=>CL _ an),λp an=> ?_⟩;rcases eb.1 an with an|an
   ·rcases gy p an with⟨m,e,h1,_⟩| ⟨v,c,e,h1⟩
    ·rw[e];exact CA h1
    ·rw[e];exact h1
   ·rw[sx]at an;rcases E1 an with e| ⟨_,e⟩
    ·rw[e,oQ];exact CA aV
    ·exact absurd kP.als e)
 obtain⟨dL,dW,O,eU,hj⟩:=W;refine⟨dL,dW,O,hj,λi hi ag=>(eU i hi).1 ag,?_⟩;by_cases cF:∀i,cw aO aF i->a6 aO i≠bH->(∃a b,(a=α+1\/a=α+2)/\b<=3/\(10<=a->∀z,gk V z=true->C z.bG->z.bG∈V.mem->z.jW=a6 aO i->z∈ (b9 (cZ cb aF Ms aJ).1 i).als)/\mv V C cY k a b [] [] (b9 (cZ cb aF Ms aJ).1 i)/\(b9 (cZ cb aF Ms aJ).1 i).self=a6 aO i/\(∃e9 q1,vC i e9 (b9 (cZ cb aF Ms aJ).1 i).agr q1/\(b9 (cZ cb aF Ms aJ).1 i).als=(bY e9).als/\(∀p∈q1,p∈O i)/\((∃f∈aJ,f.src=bH/\f.dst=a6 aO i/\f.bj= .e6)->(∃v c,(⟨bH,.hi v c⟩:c9)∈O i)/\∀z,gk V z=true->z.bG=bH->z.jW=a6 aO i->z∈ (b9 (cZ cb aF Ms aJ).1 i).als))/\(∀p∈j4 (b9 (cZ cb aF Ms aJ).1 i),p∈O i)/\∀p∈O i,p∈j4 (b9 (cZ cb aF Ms aJ).1 i)\/(∃m,p.bj= .dP m/\m.view=V.num/\rn m)\/∃v c,p.bj= .hi v c/\c.length<=k)
 ·left;refine⟨⟨λi hi ag=> ?_,λf au=> ?_,λi j hi aq ag ji aH=> ?_,λi j hi aq ag ji bx bb=> ?_⟩,λi hi ag=> ?_⟩
  ·grind
  ·obtain⟨i,hi,p,an,rfl⟩:=(hj f).1 au;show jB V k J (po C cY) rn (a6 aO i) p.bj;by_cases ag:a6 aO i=bH
   ·rw[s3 _ _ ((eU i hi).1 ag) p an,ag];exact um i hi ag
   ·obtain⟨a,b,dc,dt,gy,ef,np,uo,zZ,IR⟩:=cF i hi ag;rcases IR p an with h| ⟨m,e,h1,ad⟩| ⟨v,c,e,h1⟩
    ·rcases E1 h with e| ⟨e,_⟩
     ·rw[e,ef.hI];exact k0 _
     ·rw[e,ef.hI];exact .inr ⟨rfl,ef.sub⟩
    ·rw[e];exact .inr ⟨h1,ad⟩
    ·rw[e];exact h1
  ·obtain⟨a,b,dc,dt,gy,ef,np,uo,zZ,IR⟩:=cF j aq ji;refine⟨j5 (a6 aO j) ⟨a6 aO i,.ac V.num⟩,(hj _).2 ⟨j,aq,_,zZ _ ?_,rfl⟩,rfl,rfl,rfl⟩;have:=Ud (s:=b9 (cZ cb aF Ms aJ).1 j) (x:=a6 aO i) (by rw[ef.hI,np];exact aH);rw[ef.hI]at this;omega
  ·obtain⟨a,b,dc,dt,gy,ef,np,uo,zZ,IR⟩:=cF i hi ag;obtain⟨_,_,_,_,_,oa,B6,_⟩:=cF j aq ji;have aip:a6 aO j∈V.mem:=by
    obtain⟨bd,Bd,og⟩:=dW.g;have af:=ul dW;have iv:j<(cZ cb aF Ms aJ).1.length:=by have:=aq.1;omega
    have cT:=og.mem j iv;rw[<-Cm iv]at cT;obtain⟨ai,_⟩:=qG cT oa.b4;have:=iR.1 ai.jO;rw[oa.hI,B6]at this;omega
   refine⟨j5 (a6 aO i) ⟨a6 aO j,.hm V.num (b9 (cZ cb aF Ms aJ).1 i).als⟩,(hj _).2 ⟨i,hi,_,zZ _ ?_,rfl⟩,rfl,rfl,rfl⟩;have:=asg (s:=b9 (cZ cb aF Ms aJ).1 i) (x:=a6 aO j) (by rw[ef.hI];omega) (by omega) bb;rw[ef.hI]at this;omega
  grind
 ·right;obtain⟨lC,oy,nL,nU⟩:∃i,cw aO aF i/\a6 aO i≠bH/\¬(∃a b,(a=α+1\/a=α+2)/\b<=3/\(10<=a->∀z,gk V z=true->C z.bG->z.bG∈V.mem->z.jW=a6 aO i->z∈ (b9 (cZ cb aF Ms aJ).1 i).als)/\mv V C cY k a b [] [] (b9 (cZ cb aF Ms aJ).1 i)/\(b9 (cZ cb aF Ms aJ).1 i).self=a6 aO i/\(∃e9 q1,vC i e9 (b9 (cZ cb aF Ms aJ).1 i).agr q1/\(b9 (cZ cb aF Ms aJ).1 i).als=(bY e9).als/\(∀p∈q1,p∈O i)/\((∃f∈aJ,f.src=bH/\f.dst=a6 aO i/\f.bj= .e6)->(∃v c,(⟨bH,.hi v c⟩:c9)∈O i)/\∀z,gk V z=true->z.bG=bH->z.jW=a6 aO i->z∈ (b9 (cZ cb aF Ms aJ).1 i).als))/\(∀p∈j4 (b9 (cZ cb aF Ms aJ).1 i),p∈O i)/\∀p∈O i,p∈j4 (b9 (cZ cb aF Ms aJ).1 i)\/(∃m,p.bj= .dP m/\m.view=V.num/\rn m)\/∃v c,p.bj= .hi v c/\c.length<=k):=by
   grind
  have Bd:=((eU lC oy).2 nL).resolve_left nU;refine⟨λi hi ag=> ?_,?_,λf au=> ?_⟩
  ·rcases(eU i hi).2 ag with⟨a,b,dc,dt,gy,ef,np,_⟩| ⟨a,b,dc,dt,gy,_⟩
   ·obtain⟨_,_,_,_,_,g4,_⟩:=Bd;have bx:a6 aO i≠a6 aO lC:=λe=>by
     have wv:i=lC:=by
      obtain⟨bd,_,og⟩:=dW.g;have af:=ul dW;refine qH λbx=> ?_;have h1:i<(cZ cb aF Ms aJ).1.length:=by have:=hi.1;omega
      have ad:lC<(cZ cb aF Ms aJ).1.length:=by have:=oy.1;omega
      exact og.lP i lC h1 ad bx (by rw[oe dW h1,oe dW ad,e])
     subst wv;obtain⟨y4,b',g1,_⟩:=((eU i hi).2 ag).resolve_left nU;have:=ef.af;rw[g1.af]at this;omega
    have lp:a6 aO i∈V.mem:=by
     obtain⟨bd,_,og⟩:=dW.g;have af:=ul dW;have ek:i<(cZ cb aF Ms aJ).1.length:=by have:=hi.1;omega
     have cT:=og.mem i ek;rw[<-Cm ek]at cT;obtain⟨ai,_⟩:=qG cT ef.b4;have:=iR.1 ai.jO;rw[ef.hI,np]at this;omega
    obtain⟨m,m1,m2,m3⟩:=g4 _ lp bx;exact .inl ⟨⟨a,b,ef,dt⟩,_,(hj _).2 ⟨lC,oy,_,m3,rfl⟩,rfl,m,rfl,m1,m2⟩
   grind
  ·grind
  ·obtain⟨i,hi,p,an,rfl⟩:=(hj f).1 au;show IP V k J (po C cY) (a6 aO i) p.bj;by_cases ag:a6 aO i=bH
   ·rw[s3 _ _ ((eU i hi).1 ag) p an,ag];exact um i hi ag
   ·rcases(eU i hi).2 ag with⟨a,b,dc,dt,gy,ef,np,uo,zZ,IR⟩| ⟨a,b,dc,dt,gy,ef,np⟩
    ·rcases IR p an with h| ⟨m,e,h1,ad⟩| ⟨v,c,e,h1⟩
     ·rcases E1 h with e| ⟨e,_⟩
      ·rw[e,ef.hI];exact Int.le_of_lt (Int.lt_succ _)
      ·rw[e,ef.hI];exact .inr ⟨rfl,ef.sub⟩
     ·rw[e];exact CA h1
     ·rw[e];exact NY h1
    grind
end
section
variable {bA:aK->Int->Prop} {C cY J:Int->Prop} {v0 V:aK} {aO:List Int} {aF:List Bool} {T k α:Nat} {bH:Int} {Ms:List Mem} {aJ:List dr} {cb:Int->Int->Bool} {G:iL} {s:Mem} {a b:Nat} {f:dr}
theorem asB(bf:dm bA T G)(cT:fz G s)(bU:s.status=1)(af:s.hist.length=k){v:aK}{c:List (List Int)}{src:Int}(au:ns G src (.hi v c))(ix:c.length=k+1)(IL:¬bA s.view s.self):hG C (k+1) 0 0 (eM s src (.hi v c)).1/\(eM s src (.hi v c)).2=[]:=by
 obtain⟨ai,aa,_⟩:=qG cT bU;obtain⟨rfl,m,az,rfl⟩:=au;have Qz:m=k+1:=by
  grind
 subst Qz;have adM:k<G.D.length:=az;have pF:=(sK (j3 bf (k:=k) (by omega)).1).1;have df:=HD pF (bf.qC k (by omega)) (bf.dec k adM);have qY:=bf.zS k (by omega) _ df;have hx: (er (fy G k) (G.D.getD k [])).2=0:=fC (bf.n9.2 k adM);have vA:s.view=fy G k:=by rw[ai.view,af]
 have cS:bP (fy G (k+1)).mem s.self=true:=Ub hx (by rw[<-vA];exact ai.jO) (λh=>IL (by grind));have hF:=(j3 bf az).1;have Yc:dK G.v0 (G.D.take (k+1)) (k+1)=fy G (k+1):=ER _ _ (bS _);have fJ: (!l0 G.v0 s.first||decide (((G.D.take (k+1)).length:Int)<=(s.hist.length:Int)))=false:=by
  rw[ai.first,zJ,ix,af,c5 (show ¬(((k+1:Nat):Int)<=(k:Int)) by omega)];rfl
 have eP:decide (s.status=1)=true:=e4 bU;have cF:ij (λi=>iG (s.hist.getD i []) ((G.D.take (k+1)).getD i [])) k=true:=iA.2 λi hi=>by
  have h1:=ai.hist;rw[af]at h1;rw[h1,Ip hi,Ip (by omega),K5]
 have aA:lE s G.v0 (G.D.take (k+1))=eR {s with hist:=s.hist++ [(G.D.take (k+1)).getD (k+0) []]} (fy G (k+1)):=by
  unfold lE;rw[fJ,af,cF,ix,show k+1-k=1 by omega];simp only[bD,b6];unfold iq iq
  grind
 have z1:=IJ (C:=C) (s:={s with hist:=s.hist++ [(G.D.take (k+1)).getD (k+0) []]}) hF cS;have gM: (s.hist++ [(G.D.take (k+1)).getD (k+0) []]).length=k+1:=by grind
 simp only[gM]at z1;have aG:eM s src (.hi G.v0 (G.D.take (k+1)))=(fp (lE s G.v0 (G.D.take (k+1))),[]):=by
  unfold eM;rw[b3 bU];rfl
 rw[aG,aA,yk z1.b4 (by rw[z1.agr];rfl)];exact⟨⟨z1.b4,z1.af,z1.als,z1.agr,z1.a7⟩,rfl⟩
theorem asC(bf:dm bA T G)(cT:fz G s)(ct:mv V C cY k a b [] [] s)(bx:f.src≠s.self)(au:ns G f.src f.bj)(nQ:IP V k J (po C cY) f.src f.bj)(al:¬C f.src)(ed:J f.src->cY f.src)(uk:¬C s.self)(IL:¬bA V s.self):
  ((mv V C cY k a b [] [] (eM s f.src f.bj).1/\¬ ∃m,f.bj= .dP m/\m.kind=6/\m.view=V.num)\/hG C (k+1) 0 0 (eM s f.src f.bj).1)/\∀p∈ (eM s f.src f.bj).2,(∃m,p.bj= .dP m/\m.view=V.num)\/∃v c,p.bj= .hi v c/\c.length<=k:=by
 obtain⟨ai,aa,_⟩:=qG cT ct.b4;have key:jB V k J (po C cY) (λ_=>True) f.src f.bj->((mv V C cY k a b [] [] (eM s f.src f.bj).1/\¬ ∃m,f.bj= .dP m/\m.kind=6/\m.view=V.num)\/hG C (k+1) 0 0 (eM s f.src f.bj).1)/\∀p∈ (eM s f.src f.bj).2,(∃m,p.bj= .dP m/\m.view=V.num)\/∃v c,p.bj= .hi v c/\c.length<=k:=λnQ=>by
  rcases adx bf cT ct bx au nQ al ed uk IL with⟨m,m1,m2,m3,oG,m5,m6,m7,h⟩| ⟨m1,m2,m3,oG,m5⟩
  ·have r8:eG s.agr.view m=true:=by rw[ai.jA,ct.hI];exact oG
   have BD:m.src≠s.agr.self:=by rw[ai.nr,m5];omega
   refine⟨?_,λp an=> ?_⟩
   ·rcases h with⟨m8,m9,_⟩| ⟨m8,m9,_⟩
    ·grind
    ·refine .inl ⟨Uk m9,?_⟩;rintro⟨eg,e,eK,_⟩;rw[m1]at e;cases e;exact arl ai.hn ai.h8 r8 BD eK m8
   ·rw[m7]at an;obtain⟨q,bX,x,_,rfl⟩:=yl.1 an;have cy:=Ua ai.hn ai.h8 r8 BD;have:=(kC ((zy ai.hn ai.h8 cy).2.2.2.2 q bX).pS).2;rw[ai.jA,ct.hI]at this
    grind
  ·refine⟨.inl ⟨Uk m2,?_⟩,λp an=> ?_⟩;all_goals grind
 generalize ha:f.bj=bj at *;cases bj with
 |ac n=>
  by_cases h1:n<=V.num
  ·exact key h1
  ·have ad:s.view.num<n:=by rw[ct.hI];omega
   have e:eM s f.src (.ac n)=(nO s,[]):=by
    unfold eM;rw[b3 ct.b4];unfold vv;simp only[];rw[bm (by omega),b3 ad,yk ct.b4 aa]
   rw[e];refine⟨.inl ⟨⟨ct.b4,ct.af,ct.hI,ct.a7,(λf au=>by cases au),(λz bt=>by cases bt),ct.sub,(λf au=>by cases au),(λf au=>by cases au)⟩,?_⟩,λp an=>by cases an⟩;simp
 |hm n l=>exact key nQ
 |dP m=>
  refine key ?_;have h:m.view<=V.num:=nQ;by_cases h1:m.view<V.num
  ·exact .inl h1
  ·exact .inr ⟨by omega,aj⟩
 |hi v c=>
  by_cases h1:c.length<=k
  ·exact key h1
  ·have ad:c.length<=k+1:=nQ;obtain⟨oc,kP⟩:=asB (C:=C) (src:=f.src) bf cT ct.b4 ct.af au (by omega) (by rw[ct.hI];omega)
   grind
 |e6=>exact key nQ
theorem adN{W:aK}(aV:W.num=V.num+1){J:Int->Prop}{mR:List bR->Prop}{src:Int}{f:kX}(h:IP V k J mR src f):jB W (k+1) J (λ_=>False) (λ_=>False) src f:=by
 cases f with
 |ac n=>
  have h:n<=V.num+1:=h;show n<=W.num;omega
 |hm n l=>
  left;rcases h with h|h<;>omega
 |dP m=>
  left;have h:m.view<=V.num:=h;omega
 |hi v c=>exact h
 |e6=>exact h
theorem asD(jg:∀a b,cb a b=false)(dA:od bA v0 aO aF T Ms aJ)(aw:T+1<=399)(al:E4 bA C cY J v0 V k aO aF bH){β:Nat}(vD:β<=1)(cP:Nf C cY J V k aO aF bH β Ms aJ)
  {hy:Mem->List dr->List c9->Prop} {mT:Mem->List c9->Prop}
  (p3:∀i,cw aO aF i->a6 aO i=bH->hy (b9 Ms i) [] [])
  (mS:∀i,cw aO aF i->a6 aO i=bH->∀s l o f bd,bd.v0=v0->dm bA T bd->fz bd s->s.self=bH->f∈aJ->f.dst=s.self->f.src≠s.self->ns bd f.src f.bj->(∃j,cw aO aF j/\f.src=a6 aO j)->hy s l o->hy (eM s f.src f.bj).1 (l++ [f]) (o++(eM s f.src f.bj).2))
  (jp:∀i,cw aO aF i->a6 aO i=bH->∀s l o bd,bd.v0=v0->dm bA T bd->fz bd s->s.self=bH->hy s l o->l4 bA s)
  (pq:∀i,cw aO aF i->a6 aO i=bH->∀s l o bd,bd.v0=v0->dm bA (T+1) bd->fz bd s->s.self=bH->(∀f∈aJ,f.dst=bH->f∈l)->hy s l o->mT (fi s).1 (o++(fi s).2))
  (s3:∀s o,mT s o->∀p∈o,jB ⟨V.num+1,[]⟩ (k+1) J (λ_=>False) (λ_=>False) bH p.bj):
  yi cb aF Ms aJ/\od bA v0 aO aF (T+1) (cZ cb aF Ms aJ).1 (cZ cb aF Ms aJ).2/\
  ∃O:Nat->List c9,(∀f,f∈ (cZ cb aF Ms aJ).2↔∃i,cw aO aF i/\∃p∈O i,f=j5 (a6 aO i) p)/\(∀i,cw aO aF i->a6 aO i=bH->mT (b9 (cZ cb aF Ms aJ).1 i) (O i))/\
   (∀i,cw aO aF i->a6 aO i≠bH->(∃a b,(a=1\/a=2)/\b<=β+1/\hG C (k+1) a b (b9 (cZ cb aF Ms aJ).1 i))/\(b9 (cZ cb aF Ms aJ).1 i).self=a6 aO i/\(∀p∈j4 (b9 (cZ cb aF Ms aJ).1 i),p∈O i)/\
    ((∃a b,hG C (k+1) a b (b9 Ms i))->(∃f∈aJ,f.src=bH/\f.dst=a6 aO i/\f.bj= .e6)->∃v c,(⟨bH,.hi v c⟩:c9)∈O i/\c.length=k+1))/\
   ∀f∈ (cZ cb aF Ms aJ).2,jB ⟨V.num+1,[]⟩ (k+1) J (λ_=>False) (λ_=>False) f.src f.bj:=by
 have Cn:∀ {f:dr},(∃j,cw aO aF j/\f.src=a6 aO j)->¬C f.src:=λ⟨j,aq,e⟩=>by
  rw[e];exact(al.up j aq).1
 have Ul:∀y,J y->cY y:=λy bk=>(al.mS y bk).1;have W:=Uh (cb:=cb) (aJ:=aJ) jg dA aw
  (I:=λi s l o=>(a6 aO i=bH->hy s l o)/\(a6 aO i≠bH->
   (((∃a b,mv V C cY k a b [] [] s/\b<=3)/\¬(∃a b,hG C (k+1) a b (b9 Ms i))/\∀f∈l,¬ ∃m,f.bj= .dP m/\m.kind=6/\m.view=V.num)\/
    (∃a b,hG C (k+1) a b s/\a<=β/\b<=β))/\(∀p∈o,(∃m,p.bj= .dP m/\m.view=V.num)\/∃v c,p.bj= .hi v c/\c.length<=k+1)/\
   ((∃a b,hG C (k+1) a b (b9 Ms i))->(∃f∈l,f.src=bH/\f.bj= .e6)->∃v c,(⟨bH,.hi v c⟩:c9)∈o/\c.length=k+1)))
  (Q:=λi s o=>(a6 aO i=bH->mT s o)/\(a6 aO i≠bH->(∃a b,(a=1\/a=2)/\b<=β+1/\hG C (k+1) a b s)/\s.self=a6 aO i/\s.view.num=V.num+1/\(∀p∈j4 s,p∈o)/\
   (∀p∈o,p∈j4 s\/(∃m,p.bj= .dP m/\m.view=V.num)\/∃v c,p.bj= .hi v c/\c.length<=k+1)/\
   ((∃a b,hG C (k+1) a b (b9 Ms i))->(∃f∈aJ,f.src=bH/\f.dst=a6 aO i/\f.bj= .e6)->∃v c,(⟨bH,.hi v c⟩:c9)∈o/\c.length=k+1)))
 replace W:=W (λi hi=>by
  refine⟨λag=>p3 i hi ag,λag=>⟨?_,(λp an=>by cases an),λ_ ⟨f,au,_⟩=>by cases au⟩⟩;rcases cP.m i hi ag with⟨⟨a,b,h1,ad⟩,aN⟩|h
  ·refine .inl ⟨⟨a,b,h1,ad⟩,?_,λf au=>by cases au⟩;rintro⟨y4,b',y⟩;have:=y.af;rw[h1.af]at this;omega
  grind)
 replace W:=W (λi hi s l o f bd fk bf cT ae au lw bx ha ig b5=>by
  refine⟨λag=>mS i hi ag s l o f bd fk bf cT (ae.trans ag) au lw bx ha ig (b5.1 ag),λag=> ?_⟩;obtain⟨Un,asE,Uo⟩:=b5.2 ag;have Ni:=cP.hg f au;have gO:=al.up i hi;rcases Un with⟨⟨a,b,h1,ad⟩,aN,bs⟩| ⟨a,b,y,bb,ac⟩
  ·obtain⟨dc,dt⟩:=asC bf cT h1 bx ha Ni (Cn ig) (Ul _) (by grind) (by grind)
   grind
  ·obtain⟨ai,_⟩:=qG cT y.b4;have aV:s.view.num=V.num+1:=by
    have:=Nh bf ai;rw[y.af,fk]at this;have:=al.num;omega
   obtain⟨oc,kP,oQ,wU,sx,IQ⟩:=Nd (J:=J) bf cT y bx ha (adN aV Ni) (Cn ig) (λaq=>adG al bf fk ai y.af aq);refine⟨.inr ⟨a,b,oc,bb,ac⟩,λp an=> ?_,λh ⟨g,ax,g1,g2⟩=> ?_⟩
   ·rcases eb.1 an with an|an
    ·grind
    ·exact .inr ⟨_,_,(sx p an).2,Fv y.af⟩
   ·rcases eb.1 ax with ax|ax
    ·obtain⟨v,c,h1,ad⟩:=Uo h ⟨g,ax,g1,g2⟩
     grind
    ·rw[eJ.1 ax]at g1 g2;obtain⟨p,an,fl,ff⟩:=IQ g2;refine⟨s.first,s.hist,mx _ ?_,y.af⟩;have:p= ⟨bH,.hi s.first s.hist⟩:=by
      obtain⟨adJ,adK⟩:=p
      grind
     grind)
 replace W:=W (λi hi s l o bd fk bf cT ae af b5=>by
  by_cases ag:a6 aO i=bH
  ·grind
  ·rcases((b5.2 ag).1)with⟨⟨a,b,h1,ad⟩,aN,bs⟩| ⟨a,b,y,bb,ac⟩
   ·exfalso;rcases cP.m i hi ag with⟨_,f,au,lw,m,az⟩|h;all_goals grind
   ·exact(Cl (b':=β+1) bf cT y (.inl (by omega)) (by omega) (.inl (by omega))).1)
 replace W:=W (λi hi s l o bd fk bf cT wV ae af b5 df=>by
  refine⟨λag=>pq i hi ag s l o bd fk bf cT (ae.trans ag) (λf au lw=>af f au (by omega)) (b5.1 ag),λag=> ?_⟩;obtain⟨Un,asE,Uo⟩:=b5.2 ag;rcases Un with⟨⟨a,b,h1,ad⟩,aN,bs⟩| ⟨a,b,y,bb,ac⟩
  ·exfalso;rcases cP.m i hi ag with⟨_,f,au,lw,m,az⟩|h;all_goals grind
  ·obtain⟨ai,_⟩:=qG cT y.b4;have aV:s.view.num=V.num+1:=by
    have:=Nh bf ai;rw[y.af,fk]at this;have:=al.num;omega
   obtain⟨_,kP,oQ,wU,sx⟩:=Cl (b':=β+1) bf cT y (.inl (by omega)) (by omega) (.inl (by omega));rw[sx];refine⟨⟨a+1,β+1,by omega,bS _,kP⟩,wU.trans ae,by grind,λp an=>mx _ an,λp an=> ?_,λh ⟨g,ax,g1,g2,g3⟩=> ?_⟩
   ·grind
   ·obtain⟨v,c,h1,ad⟩:=Uo h ⟨g,af g ax (g2.trans ae.symm),g1,g3⟩
    grind)
 obtain⟨dL,dW,O,eU,hj⟩:=W;refine⟨dL,dW,O,hj,λi hi ag=>(eU i hi).1 ag,λi hi ag=> ?_,λf au=> ?_⟩
 ·grind
 ·obtain⟨i,hi,p,an,rfl⟩:=(hj f).1 au;show jB _ (k+1) J _ _ (a6 aO i) p.bj;by_cases ag:a6 aO i=bH
  ·grind
  ·obtain⟨⟨a,b,_,_,y⟩,dt,gy,ef,np,uo⟩:=(eU i hi).2 ag;rcases np p an with h| ⟨m,e,h⟩| ⟨v,c,e,h⟩
   ·rcases E1 h with e| ⟨_,e⟩
    ·rw[e,gy];exact k0 _
    ·exact absurd y.als e
   ·rw[e];left
    grind
   ·rw[e];exact h
end
variable{V:aK}
theorem Nj(ab:b2 V=true){x:Int}(ag:bP V.mem x=true):∃k:Nat,gR V.mem x=(k:Int)/\k<=16:=by
 have af:=k8 ab;obtain⟨j,aq,an,_⟩:=D4 (iR.1 ag)
 grind
variable{s:Mem}
theorem Nk(h:s.agr.prop≠ []):eA s=(s.agr,[]):=by
 unfold eA
 simp_all
theorem asF(h: (dl s.view (bY s).als).2=false):eA s=(s.agr,[]):=by
 unfold eA
 grind
theorem asG(h:s.agr.prop=[])(ad: (dl s.view (bY s).als).2=true)(aN: (eH s.agr (dl s.view (bY s).als).1).2.2=0):eA s=((eH s.agr (dl s.view (bY s).als).1).1,(eH s.agr (dl s.view (bY s).als).1).2.1):=by
 unfold eA
 grind
section
variable {bA:aK->Int->Prop} {C cY J:Int->Prop} {v0 V:aK} {aO:List Int} {aF:List Bool} {T k α:Nat} {bH:Int} {Ms:List Mem} {aJ:List dr} {cb:Int->Int->Bool}
structure IS(C cY:Int->Prop)(V:aK)(aO:List Int)(Ms:List Mem)(aJ:List dr)(i:Nat)(A:List bR):Prop where
 ym:∀z∈ (b9 Ms i).als,z∈A
 hm:∀f∈aJ,f.dst=a6 aO i->∀L,f.bj= .hm V.num L->∀z∈L,z∈A
 val:dG V A=true
 sub:po C cY A
def adO(V:aK)(ym:bi)(s:Mem)(g:bi):Prop:=
 (l5 ym/\((l5 g/\(dl V (bY s).als).2=false)\/(h9 False 0 1 g/\(dl V (bY s).als).2=true)))\/∃w,h9 False 0 w ym/\h9 False 0 (w+1) g
theorem Nl(ab:b2 V=true)(h:∀i,cw aO aF i->a6 aO i≠bH->l5 (b9 Ms i).agr\/∃w,0<=w/\w<=1000/\w+1<8+6*gR V.mem (a6 aO i)/\h9 False 0 w (b9 Ms i).agr):
  E5 bA C cY V k aO aF bH (λm=>m.kind=1) (λm=>m.kind=1) Ms aJ
   (λi _ s o=>((l5 (b9 Ms i).agr/\l5 s)\/∃w,0<=w/\w<=1000/\w+1<8+6*gR V.mem (a6 aO i)/\h9 False 0 w (b9 Ms i).agr/\h9 False 0 w s)/\∀p∈o,∀m,p.bj= .dP m->m.kind=1)
   (λi s g _=>adO V (b9 Ms i).agr s g/\IS C cY V aO Ms aJ i (bY s).als):=by
 refine⟨λi hi ag=>⟨?_,λp an=>by cases an⟩,λi l s o f aT h1 ad aN=>⟨h1.1,λp an m e=> ?_⟩,λi hi ag s l o f m ai au fO has uf Co aa df adP ha r8 gi xX ig bx sO jh=> ?_,λi l s o h1=>h1.2,λi hi ag s l o uf Co u1 E3 hold gO jn af df ai au fO has aa lA lh rW tB jH jh=> ?_⟩
 ·grind
 ·grind
 ·have z2:eG s.agr.view m=true:=by grind
  have Cp:m.src≠s.agr.self:=by omega
  have key: ((l5 (b9 Ms i).agr/\l5 (dC s.agr m).1)\/∃w,0<=w/\w<=1000/\w+1<8+6*gR V.mem (a6 aO i)/\h9 False 0 w (b9 Ms i).agr/\h9 False 0 w (dC s.agr m).1)/\(dC s.agr m).2.1=[]:=by
   rcases df.1 with⟨h1,ad⟩| ⟨w,ba,eL,hs,h1,ad⟩
   ·rcases ar0 ai au ad z2 Cp gi with e| ⟨aA,aG⟩;all_goals grind
   ·rcases adr ai au ad z2 Cp gi with e| ⟨aA,aG⟩;all_goals grind
  refine⟨key.1,λp an eg e=> ?_⟩;rw[key.2]at an;rcases eb.1 an with an|an
  ·grind
  ·cases an
 ·have cS:bP V.mem (a6 aO i)=true:=by
   have:=ai.self
   grind
  obtain⟨Cq,lR,z6⟩:=Nj ab cS;have eF:gR s.agr.view.mem s.agr.self=(Cq:Int):=by grind
  have Up:gR (eA s).1.view.mem (eA s).1.self=(Cq:Int):=by grind
  have AG:IS C cY V aO Ms aJ i (bY s).als:=by
   have Uq:=Is (s:=s) (by grind);rw[uf]at Uq;exact⟨λz bt=>gO z (hold z bt),λf au lw L e z bt=>gO z (jn f (af f au lw) L e z bt),Uq,E3⟩
  have avN:s.view=V:=uf;rcases df.1 with⟨h1,ad⟩| ⟨w,ba,eL,hs,h1,ad⟩
  ·cases cy: (dl s.view (bY s).als).2
   ·have jZ:=asF cy;rw[jZ]at jh⊢;rcases ar1 ai au ad with e| ⟨aA,aG⟩
    ·grind
    ·refine⟨⟨.inl ⟨h1,.inl ⟨aA,by grind⟩⟩,AG⟩,λp an=> ?_⟩
     grind
   ·have Uq:=Is (s:=s) (by grind);have vz:=ap0 cy;have asH:ga s.agr.view (dl s.view (bY s).als).1=true:=by grind
    obtain⟨kx,P0⟩:=ar2 (ρ:=0) ai au ad asH;have jZ:=asG ad.prop cy kx;have wq: (eA s).1.dec=[]:=by
     refine qH λaV=> ?_;rw[ars lh rW aV]at jh
     grind
    rw[jZ]at lh rW Up wq jh⊢;simp only[]at lh rW Up wq jh⊢;rcases P0 with e| ⟨aA,aG⟩
    ·grind
    ·rcases M5 lh rW aA (k0 0) (by decide) Up z6 (by omega)with e| ⟨bc,_,cn,_⟩
     ·grind
     ·refine⟨⟨.inl ⟨h1,.inr ⟨bc,by grind⟩⟩,AG⟩,λp an=> ?_⟩;rcases eb.1 an with an|an
      ·grind
      ·exact M9 (cn p an)
  ·have jZ:=Nk (s:=s) ad.prop;rw[jZ]at jh⊢;simp only[]at jh⊢;rcases M5 ai au ad ba eL eF z6 (by omega)with e| ⟨bc,_,cn,_⟩
   ·grind
   ·refine⟨⟨.inr ⟨w,h1,bc⟩,AG⟩,λp an=> ?_⟩;exact M9 (cn p an)
end
structure IT(C:Int->Prop)(V:aK)(aO:List Int)(aF:List Bool)(bH κ ρ:Int)(mI:Nat):Prop where
 lC:∃i,cw aO aF i/\a6 aO i=κ
 Ur:κ≠bH
 mem:κ∈V.mem
 yM:gR V.mem κ=(mI:Int)
 fj:∀i,cw aO aF i->a6 aO i≠bH->a6 aO i≠κ->(mI:Int)+1<=gR V.mem (a6 aO i)
 asI:ρ=1024+κ
 Us:jw ρ=true
 own:h5 ρ=κ
theorem asJ(ab:b2 V=true){κ:Int}(az:κ∈V.mem):jw (1024+κ)=true/\h5 (1024+κ)=κ:=by
 have az:=LO ab (iR.2 az);have e:=Q5 (a:=1) (m:=κ) (by omega) (by omega) az.1 az.2;have aG:vg 1 κ=1024+κ:=by omega
 obtain⟨_,_,_,bs,_,_⟩:=R0 (a:=1) (m:=κ) (by omega);rw[aG]at bs;refine⟨?_,bs⟩;unfold jw
 grind
def IU(V:aK)(aJ:List dr)(dst:Int)(P:c1->Prop):Prop:=∃f∈aJ,f.dst=dst/\∃m,f.bj= .dP m/\m.view=V.num/\P m
def asK(V:aK)(aO:List Int)(aF:List Bool)(bH κ:Int)(h7:Prop)(aJ:List dr):Nat->Prop
 |0=>∀j,cw aO aF j->a6 aO j≠bH->a6 aO j≠κ->IU V aJ (a6 aO j) λm=>m.kind=2/\m.src=κ
 |1=>∀j,cw aO aF j->a6 aO j≠bH->a6 aO j≠κ->IU V aJ κ λm=>m.kind=3/\m.src=a6 aO j
 |2=>h7/\∀j,cw aO aF j->a6 aO j≠bH->a6 aO j≠κ->IU V aJ (a6 aO j) λm=>m.kind=4
 |_=>h7/\∀j,cw aO aF j->a6 aO j≠bH->a6 aO j≠κ->IU V aJ κ λm=>m.kind=5/\m.src=a6 aO j
section
variable {bA:aK->Int->Prop} {C cY J:Int->Prop} {v0 V:aK} {aO:List Int} {aF:List Bool} {T k α mI:Nat} {bH κ ρ:Int} {Ms:List Mem} {aJ:List dr} {cb:Int->Int->Bool}
theorem asL(ab:b2 V=true)(eV:IT C V aO aF bH κ ρ mI)(h:∀i,cw aO aF i->a6 aO i≠bH->∃w,0<=w/\w<=1000/\h9 False 0 w (b9 Ms i).agr/\(a6 aO i≠κ->w+1<8+6*gR V.mem (a6 aO i))/\(a6 aO i=κ->8+6* (mI:Int)<=w+1)):
  E5 bA C cY V k aO aF bH (λm=>m.kind=1) (rm True ρ) Ms aJ
   (λi _ s o=>(∃w,0<=w/\w<=1000/\h9 False 0 w (b9 Ms i).agr/\h9 False 0 w s/\(a6 aO i≠κ->w+1<8+6*gR V.mem (a6 aO i))/\(a6 aO i=κ->8+6* (mI:Int)<=w+1))/\∀p∈o,∀m,p.bj= .dP m->m.kind=1)
   (λi s g o=>(a6 aO i≠κ->∃w,h9 False 0 w (b9 Ms i).agr/\h9 True ρ (w+1) g)/\(a6 aO i=κ->sa ρ 0 g/\(g.phase=1->∀x∈V.mem,x≠κ->∃m:c1,(⟨x,.dP m⟩:c9)∈o/\m.view=V.num/\m.kind=2/\m.src=κ)/\(g.phase=2->∀x∈V.mem,x≠κ->∃m:c1,(⟨x,.dP m⟩:c9)∈o/\m.view=V.num/\m.kind=4))):=by
 refine⟨λi hi ag=>⟨?_,λp an=>by cases an⟩,λi l s o f aT h1 ad aN=>⟨h1.1,λp an m e=> ?_⟩,λi hi ag s l o f m ai au fO has uf Co aa df adP ha r8 gi xX ig bx sO jh=> ?_,λi l s o h1 p an m e=>.inl (h1.2 p an m e),λi hi ag s l o uf Co u1 E3 hold gO jn af df ai au fO has aa lA lh rW tB jH jh=> ?_⟩
 ·grind
 ·grind
 ·have z2:eG s.agr.view m=true:=by grind
  have Cp:m.src≠s.agr.self:=by omega
  obtain⟨⟨w,ba,eL,hs,sW,vu,MI⟩,asM⟩:=df;rcases adr ai au sW z2 Cp gi with e| ⟨aA,aG⟩
  ·grind
  ·refine⟨⟨w,ba,eL,hs,aA,vu,MI⟩,λp an eg e=> ?_⟩;rw[aG]at an;rcases eb.1 an with an|an
   ·grind
   ·cases an
 ·obtain⟨⟨w,ba,eL,hs,sW,vu,MI⟩,asM⟩:=df;have cS:bP V.mem (a6 aO i)=true:=by
   have:=ai.self
   grind
  obtain⟨Cq,lR,z6⟩:=Nj ab cS;have eF:gR s.agr.view.mem s.agr.self=(Cq:Int):=by grind
  have jZ:=Nk (s:=s) sW.prop;rw[jZ]at jh⊢;simp only[]at jh⊢;by_cases hk:a6 aO i=κ
  ·have F5: (Cq:Int)=(mI:Int):=by rw[<-lR,hk];exact eV.yM
   rcases ary (ρ:=ρ) ai au (arZ sW) ba eL eF z6 (by omega) (by rw[eV.asI,has,hk])with e| ⟨aA,aG,bc,cn⟩
   ·grind
   ·have iO:s.self=κ:=Co.trans hk;have vA:∀p∈ (cN s.agr).2,p.m.view=V.num:=λp an=>by
     have:=(kC ((Er ai au).2.2.2.2 p an).pS).2
     grind
    refine⟨⟨λaV=>absurd hk aV,λ_=>⟨aA,λsC x lS Ut=> ?_,λsC x lS Ut=> ?_⟩⟩,λp an=>aG p an⟩
    ·obtain⟨p,an,fl,ff,lX⟩:=bc sC;exact⟨p.m,mx _ (mx _ (Ck an fl (by grind) (by omega))),vA p an,ff,lX.trans (has.trans hk)⟩
    ·obtain⟨p,an,fl,ff,lX⟩:=cn sC;exact⟨p.m,mx _ (mx _ (Ck an fl (by grind) (by omega))),vA p an,ff⟩
  ·rcases M5 ai au sW ba eL eF z6 (by omega)with e| ⟨bc,_,cn,_⟩
   ·grind
   ·refine⟨⟨λ_=>⟨w,hs,⟨bc.dec,bc.prop,bc.cc.imp id (λh=>h.1.elim),bc.nP.imp id (λh=>h.1.elim),λx ag=>(bc.aM x ag).1.elim,bc.ip,bc.h7,bc.cD⟩⟩,λaV=>absurd aV hk⟩,λp an=> ?_⟩;exact .inl (M9 (cn p an))
def asN(V:aK)(aO:List Int)(κ ρ:Int)(c:Int)(Ms:List Mem)(i:Nat)(l:List dr)(s:bi)(o:List c9):Prop:=
 (a6 aO i≠κ->(∃w,0<=w/\w<=1000/\w+1<8+6*gR V.mem (a6 aO i)/\h9 True ρ w (b9 Ms i).agr/\h9 True ρ w s)/\
  (∀f∈l,∀m,f.bj= .dP m->m.view=V.num->m.kind=2->∃q:c1,(⟨m.src,.dP q⟩:c9)∈o/\q.view=V.num/\q.kind=3/\q.src=a6 aO i)/\
  (∀f∈l,∀m,f.bj= .dP m->m.view=V.num->m.kind=4->∀x∈V.mem,x≠a6 aO i->∃q:c1,(⟨x,.dP q⟩:c9)∈o/\q.view=V.num/\q.kind=5/\q.src=a6 aO i))/\
 (a6 aO i=κ->sa ρ c s/\((b9 Ms i).agr.phase=2->s.phase=2)/\
  (∀f∈l,∀m,f.bj= .dP m->m.view=V.num->m.kind=3->s.phase=2\/has s.bu m.src)/\(∀f∈l,∀m,f.bj= .dP m->m.view=V.num->m.kind=5->has s.aM m.src))/\
 ∀p∈o,∀m,p.bj= .dP m->rm True ρ m
theorem asO(ab:b2 V=true)(eV:IT C V aO aF bH κ ρ mI){c:Int}(kx:0<=c)(al:c+1<8)(h:∀i,cw aO aF i->a6 aO i≠bH->(a6 aO i≠κ->∃w,0<=w/\w<=1000/\w+1<8+6*gR V.mem (a6 aO i)/\h9 True ρ w (b9 Ms i).agr)/\(a6 aO i=κ->sa ρ c (b9 Ms i).agr)):
  E5 bA C cY V k aO aF bH (rm True ρ) (rm True ρ) Ms aJ (asN V aO κ ρ c Ms)
   (λi s g o=>(a6 aO i≠κ->∃w,h9 True ρ w (b9 Ms i).agr/\h9 True ρ (w+1) g)/\(a6 aO i=κ->sa ρ (c+1) g/\(g.phase=1->∀x∈V.mem,x≠κ->∃m:c1,(⟨x,.dP m⟩:c9)∈o/\m.view=V.num/\m.kind=2/\m.src=κ)/\(g.phase=2->∀x∈V.mem,x≠κ->∃m:c1,(⟨x,.dP m⟩:c9)∈o/\m.view=V.num/\m.kind=4)/\
     ((b9 Ms i).agr.phase=2->g.phase=2)/\(g.phase=1->(g.bu.length:Int)<fY V.mem.length)/\(∀f∈aJ,f.dst=κ->∀m,f.bj= .dP m->m.view=V.num->m.kind=3->g.phase=2\/has g.bu m.src)/\has g.bu κ/\
     ((∀j,cw aO aF j->a6 aO j≠bH->a6 aO j≠κ->∃f∈aJ,f.dst=κ/\∃m,f.bj= .dP m/\m.view=V.num/\m.kind=5/\m.src=a6 aO j)->g.phase=2->∀U:List Int,U.Nodup->(∀x∈U,∃j,cw aO aF j/\a6 aO j≠bH/\a6 aO j=x)->(U.length:Int)<fY V.mem.length))/\
    (a6 aO i≠κ->(∀f∈aJ,f.dst=a6 aO i->∀m,f.bj= .dP m->m.view=V.num->m.kind=2->∃q:c1,(⟨m.src,.dP q⟩:c9)∈o/\q.view=V.num/\q.kind=3/\q.src=a6 aO i)/\
     (∀f∈aJ,f.dst=a6 aO i->∀m,f.bj= .dP m->m.view=V.num->m.kind=4->∀x∈V.mem,x≠a6 aO i->∃q:c1,(⟨x,.dP q⟩:c9)∈o/\q.view=V.num/\q.kind=5/\q.src=a6 aO i))):=by
 have fF:=q9 eV.Us;refine⟨λi hi ag=>⟨λhk=>⟨?_,(λf au=>by cases au),(λf au=>by cases au)⟩,λhk=>⟨(h i hi ag).2 hk,id,(λf au=>by cases au),(λf au=>by cases au)⟩,λp an=>by cases an⟩,λi l s o f aT h1 ad aN=> ?_,λi hi ag s l o f m ai au fO Nn uf Co aa df adP ha r8 gi xX ig bx sO jh=> ?_,λi l s o h1=>h1.2.2,λi hi ag s l o uf Co u1 E3 hold gO jn af df ai au fO Nn aa lA lh rW tB jH jh=> ?_⟩
 ·grind
 ·have n0:∀m,f.bj= .dP m->m.view≠V.num:=λm e aG=>by
   grind
  obtain⟨fl,ff,lX⟩:=h1;refine⟨λhk=> ?_,λhk=> ?_,λp an m e=> ?_⟩;all_goals grind
 ·have z2:eG s.agr.view m=true:=by grind
  have Cp:m.src≠s.agr.self:=by omega
  obtain⟨dL,dW⟩:=IH ai au z2 Cp aa;obtain⟨fl,ff,lX⟩:=df;have adQ:∀ {g:dr} {eg:c1},g∈ [f]->g.bj= .dP eg->eg=m:=λax e=>by
   grind
  by_cases hk:a6 aO i=κ
  ·obtain⟨dc,dt,gy,ef⟩:=ff hk;have b0:h5 ρ=s.agr.self:=by rw[eV.own,Nn,hk]
   obtain⟨cH,a2,a3,a4,a5,Ng,adF⟩:=arp ai dc z2 Cp gi eV.Us b0;have Uu:dk (e2 s.agr m).1 (e2 s.agr m).2=((e2 s.agr m).1,(e2 s.agr m).2):=by
    rcases Ch cH.dec (e2 s.agr m).2 with e|e;all_goals grind
   rw[dL,dW,Uu];refine⟨λaV=>absurd hk aV,λ_=>⟨cH,λe=>Ng (dt e),λg ax eg e bF z7=> ?_,λg ax eg e bF z7=> ?_⟩,λp an eg e=> ?_⟩
   ·grind
   ·grind
   ·rcases eb.1 an with an|an
    ·grind
    ·obtain⟨q,bX,x,_,rfl⟩:=yl.1 an
     grind
  ·obtain⟨⟨w,ba,eL,hs,sW,vu⟩,dt,gy⟩:=fl hk;obtain⟨cH,a2,a3,a4,a5,Ng⟩:=aro ai vu z2 gi eV.Us (λhN D8=>by
    have u3:m.aC=ρ:=by
     rcases gi with h|h;all_goals omega
    grind)
   have Uu:dk (e2 s.agr m).1 (e2 s.agr m).2=((e2 s.agr m).1,(e2 s.agr m).2):=by
    rcases Ch cH.dec (e2 s.agr m).2 with e|e;all_goals grind
   have avO:=LO ab (kC xX).1;rw[dL,dW,Uu];refine⟨λ_=>⟨⟨w,ba,eL,hs,sW,cH⟩,λg ax eg e bF z7=> ?_,λg ax eg e bF z7 x lS yb=> ?_⟩,λaV=>absurd aV hk,λp an eg e=> ?_⟩
   ·rcases eb.1 ax with ax|ax
    ·grind
    ·rw[adQ ax e]at z7⊢;obtain⟨avP,fD,an⟩:=a4 z7;have:=asd (s:=s) an (show m.src≠0 by omega);exact⟨_,mx _ this,by show s.agr.view.num=V.num;rw[fO],rfl,by show s.agr.self=_;omega⟩
   ·rcases eb.1 ax with ax|ax
    ·grind
    ·rw[adQ ax e]at z7;obtain⟨_,_,fD,an⟩:=a5 z7;have:=Ck (s:=s) an rfl (x:=x) (by grind) (by omega);exact⟨_,mx _ this,by show s.agr.view.num=V.num;rw[fO],rfl,by show s.agr.self=_;omega⟩
   ·rcases eb.1 an with an|an
    ·grind
    ·obtain⟨q,bX,x,_,rfl⟩:=yl.1 an
     grind
 ·have cS:bP V.mem (a6 aO i)=true:=by
   have:=ai.self
   grind
  obtain⟨Cq,lR,z6⟩:=Nj ab cS;have eF:gR s.agr.view.mem s.agr.self=(Cq:Int):=by grind
  obtain⟨fl,ff,lX⟩:=df;by_cases hk:a6 aO i=κ
  ·obtain⟨dc,dt,gy,ef⟩:=ff hk;have jZ:=Nk (s:=s) dc.prop;rw[jZ]at jh⊢;simp only[]at jh⊢;have iO:s.self=κ:=Co.trans hk;have vA:∀p∈ (cN s.agr).2,p.m.view=V.num:=λp an=>by
    have:=(kC ((Er ai au).2.2.2.2 p an).pS).2
    grind
   have b0:has s.agr.bu κ:=by
    have aQ:0<=eQ s.agr.bu s.agr.self:=by
     rcases ai.h7 with h|h
     ·rcases dc.nP with⟨e,_⟩| ⟨e,_⟩<;>omega
     omega
    rw[Nn,hk]at aQ;exact BA.1 aQ
   rcases arw ai au dc kx al eF z6 with e| ⟨gH,s2,xJ,TO,asP,asQ,asR,asS⟩
   ·grind
   ·refine⟨⟨λaV=>absurd hk aV,λ_=>⟨gH,λsC x lS Ut=> ?_,λsC x lS Ut=> ?_,λe=>by grind,λe=> ?_,λf rW lw m e bF z7=> ?_,by grind,λcF iN U rj No=> ?_⟩,λaV=>absurd hk aV⟩,λp an=>asP p an⟩
    ·obtain⟨p,an,uJ,lT,z3⟩:=asQ (by omega);exact⟨p.m,mx _ (mx _ (Ck an uJ (by grind) (by omega))),vA p an,lT,z3.trans (Nn.trans hk)⟩
    ·obtain⟨p,an,uJ,lT,z3⟩:=asR (by omega);exact⟨p.m,mx _ (mx _ (Ck an uJ (by grind) (by omega))),vA p an,lT⟩
    ·rw[xJ]at e;rw[TO];have:=au e
     grind
    ·grind
    ·refine qH λwz=> ?_;have bw:∀x∈U,has s.agr.aM x:=λx lS=>by
      obtain⟨j,aq,ji,lY⟩:=No x lS;by_cases p4:a6 aO j=κ
      ·rcases dc.nP with⟨e,_⟩| ⟨_,e⟩;all_goals grind
      grind
     have hlen:U.length<=s.agr.aM.length:=by
      have:=wK (b:=s.agr.aM.map (·.mem)) rj (λx lS=>by
       obtain⟨y,bk,e⟩:=bw x lS
       grind)
      grind
     refine art ai (by omega) dc.aM (λa bb b ac=>lA a bb b ac ((dc.aM a bb).trans (dc.aM b ac).symm)) ?_ asS
     grind
  ·obtain⟨⟨w,ba,eL,hs,sW,vu⟩,dt,gy⟩:=fl hk;have jZ:=Nk (s:=s) vu.prop;rw[jZ]at jh⊢;simp only[]at jh⊢;rcases M5 ai au vu ba eL eF z6 (by omega)with e| ⟨bc,_,cn,_⟩;all_goals grind
end
section
variable {bA:aK->Int->Prop} {C J:Int->Prop} {v0 V:aK} {aO:List Int} {aF:List Bool} {T k fj hi β uq:Nat} {bH:Int} {Ms:List Mem} {aJ:List dr} {cb:Int->Int->Bool}
theorem Uv(jg:∀a b,cb a b=false)(dA:od bA v0 aO aF T Ms aJ)(aw:T+1<=399)(gO:∀i,cw aO aF i->¬C (a6 aO i))
  (az:∀i,cw aO aF i->a6 aO i≠bH->∃a b,fj<=a/\a<=hi/\b<=β/\hG C k a b (b9 Ms i)/\(b9 Ms i).view=V) (kQ:∀f∈aJ,jB V k J (λ_=>False) (λ_=>False) f.src f.bj) (ed:∀y,J y->bP V.mem y=true)
  (vD:uq=β+1\/(uq=β/\∀i,cw aO aF i->a6 aO i≠bH->∀y∈V.mem,y≠a6 aO i->a6 aO i∈cQ V.mem y->¬C y->∃f∈aJ,f.src=y/\f.dst=a6 aO i/\f.bj= .ac V.num)) (aN:uq<=3) (bX:hi+1<10\/∀y∈V.mem,¬C y)
  {hy:Mem->List dr->List c9->Prop} {mT:Mem->List c9->Prop}
  (p3:∀i,cw aO aF i->a6 aO i=bH->hy (b9 Ms i) [] [])
  (mS:∀i,cw aO aF i->a6 aO i=bH->∀s l o f bd,bd.v0=v0->dm bA T bd->fz bd s->s.self=bH->f∈aJ->f.dst=s.self->f.src≠s.self->ns bd f.src f.bj->(∃j,cw aO aF j/\f.src=a6 aO j)->hy s l o->hy (eM s f.src f.bj).1 (l++ [f]) (o++(eM s f.src f.bj).2))
  (jp:∀i,cw aO aF i->a6 aO i=bH->∀s l o bd,bd.v0=v0->dm bA T bd->fz bd s->s.self=bH->hy s l o->l4 bA s)
  (pq:∀i,cw aO aF i->a6 aO i=bH->∀s l o bd,bd.v0=v0->dm bA (T+1) bd->fz bd s->s.self=bH->(∀f∈aJ,f.dst=bH->f∈l)->hy s l o->mT (fi s).1 (o++(fi s).2)):
  yi cb aF Ms aJ/\od bA v0 aO aF (T+1) (cZ cb aF Ms aJ).1 (cZ cb aF Ms aJ).2/\
  ∃O:Nat->List c9,(∀f,f∈ (cZ cb aF Ms aJ).2↔∃i,cw aO aF i/\∃p∈O i,f=j5 (a6 aO i) p)/\(∀i,cw aO aF i->a6 aO i=bH->mT (b9 (cZ cb aF Ms aJ).1 i) (O i))/\
   ∀i,cw aO aF i->a6 aO i≠bH->(∃a b,fj+1<=a/\a<=hi+1/\b<=uq/\hG C k a b (b9 (cZ cb aF Ms aJ).1 i)/\(b9 (cZ cb aF Ms aJ).1 i).view=V)/\(b9 (cZ cb aF Ms aJ).1 i).self=a6 aO i/\(∀p∈j4 (b9 (cZ cb aF Ms aJ).1 i),p∈O i)/\
    (∀p∈O i,p.bj= .ac V.num\/∃v c,p.bj= .hi v c/\c.length<=k)/\((∃f∈aJ,f.src=bH/\f.dst=a6 aO i/\f.bj= .e6)->∃v c,(⟨bH,.hi v c⟩:c9)∈O i/\c.length=k):=by
 have W:=Uh (cb:=cb) (aJ:=aJ) jg dA aw
  (I:=λi s l o=>(a6 aO i=bH->hy s l o)/\(a6 aO i≠bH->(∃a b,fj<=a/\a<=hi/\b<=β/\hG C k a b s/\s.view=V)/\(∀f∈l,f.bj= .ac V.num->bP V.mem f.src=true->qF s.a7 f.src)/\(∀p∈o,∃v c,p.bj= .hi v c/\c.length=k)/\
   ((∃f∈l,f.src=bH/\f.bj= .e6)->∃v c,(⟨bH,.hi v c⟩:c9)∈o/\c.length=k)))
  (Q:=λi s o=>(a6 aO i=bH->mT s o)/\(a6 aO i≠bH->(∃a b,fj+1<=a/\a<=hi+1/\b<=uq/\hG C k a b s/\s.view=V)/\s.self=a6 aO i/\(∀p∈j4 s,p∈o)/\(∀p∈o,p.bj= .ac V.num\/∃v c,p.bj= .hi v c/\c.length<=k)/\
   ((∃f∈aJ,f.src=bH/\f.dst=a6 aO i/\f.bj= .e6)->∃v c,(⟨bH,.hi v c⟩:c9)∈o/\c.length=k)))
 have key:∀i,cw aO aF i->a6 aO i≠bH->∀ {s:Mem} {l:List dr} {bd:iL} {U:Nat},dm bA U bd->fz bd s->s.self=a6 aO i->(∀f∈aJ,f.dst=s.self->f∈l)->(∃a b,fj<=a/\a<=hi/\b<=β/\hG C k a b s/\s.view=V)->(∀f∈l,f.bj= .ac V.num->bP V.mem f.src=true->qF s.a7 f.src)->
   l4 bA s/\∃a b,fj+1<=a/\a<=hi+1/\b<=uq/\hG C k a b (fi s).1/\(fi s).1.view=V/\(fi s).1.self=a6 aO i/\(fi s).2=j4 (fi s).1:=by
  intro i hi ag s l bd U bf cT ae af ⟨a,b,cH,a2,a3,y,mU⟩ P7;have ac:b+1<=uq\/(b<=uq/\∀y∈s.view.mem,y≠s.self->s.self∈cQ s.view.mem y->¬C y->qF s.a7 y):=by
   rcases vD with e| ⟨e,h⟩
   ·omega
   ·refine .inr ⟨by omega,λz bt adR aH al=> ?_⟩;rw[mU]at bt aH;rw[ae]at aH adR;obtain⟨f,au,f1,f2,f3⟩:=h i hi ag z bt adR aH al;have:=P7 f (af f au (f2.trans ae.symm)) f3 (by rw[f1];exact iR.2 bt)
    grind
  obtain⟨t1,t2,t3,t4,t5⟩:=Cl (b':=uq) bf cT y ac aN (by grind)
  grind
 replace W:=W (λi hi=>by
  grind)
 replace W:=W (λi hi s l o f bd fk bf cT ae au lw bx ha ig b5=>by
  refine⟨λag=>mS i hi ag s l o f bd fk bf cT (ae.trans ag) au lw bx ha ig (b5.1 ag),λag=> ?_⟩;obtain⟨⟨a,b,cH,a2,a3,y,mU⟩,ad,aN,bs⟩:=b5.2 ag;have Cn:¬C f.src:=by
   grind
  obtain⟨oc,kP,oQ,wU,sx,IQ⟩:=Nd (J:=J) bf cT y bx ha (by grind) Cn (λaq=>by grind);rw[mU]at kP oQ;refine⟨⟨a,b,cH,a2,a3,oc,kP⟩,λg ax e fE=> ?_,λp an=> ?_,λ⟨g,ax,g1,g2⟩=> ?_⟩
  ·grind
  ·rcases eb.1 an with an|an
   ·grind
   ·exact⟨_,_,(sx p an).2,y.af⟩
  ·rcases eb.1 ax with ax|ax
   ·obtain⟨v,c,dc,dt⟩:=bs ⟨g,ax,g1,g2⟩
    grind
   ·rw[eJ.1 ax]at g1 g2;obtain⟨p,an,fl,ff⟩:=IQ g2;refine⟨s.first,s.hist,mx _ ?_,y.af⟩;have:p= ⟨bH,.hi s.first s.hist⟩:=by
     obtain⟨adJ,adK⟩:=p
     grind
    grind)
 replace W:=W (λi hi s l o bd fk bf cT ae af b5=>by
  by_cases ag:a6 aO i=bH
  ·grind
  ·exact(key i hi ag bf cT ae af (b5.2 ag).1 (b5.2 ag).2.1).1)
 replace W:=W (λi hi s l o bd fk bf cT wV ae af b5 df=>by
  refine⟨λag=>pq i hi ag s l o bd fk bf cT (ae.trans ag) (λf au lw=>af f au (by omega)) (b5.1 ag),λag=> ?_⟩;obtain⟨h1,ad,aN,bs⟩:=b5.2 ag;obtain⟨_,a,b,cV,dj,hT,hN,nk,qu,asT⟩:=key i hi ag bf cT ae af h1 ad;rw[asT];refine⟨⟨a,b,cV,dj,hT,hN,nk⟩,qu,λp an=>mx _ an,λp an=> ?_,λ⟨g,ax,g1,g2,g3⟩=> ?_⟩
  ·rcases eb.1 an with an|an
   ·grind
   ·rcases E1 an with e| ⟨_,e⟩
    ·grind
    ·exact absurd hN.als e
  ·obtain⟨v,c,dc,dt⟩:=bs ⟨g,af g ax (g2.trans ae.symm),g1,g3⟩
   grind)
 obtain⟨dL,dW,O,eU,hj⟩:=W;exact⟨dL,dW,O,hj,λi hi ag=>(eU i hi).1 ag,λi hi ag=>(eU i hi).2 ag⟩
end
structure adS(bA:aK->Int->Prop)(J:Int->Prop)(v0:aK)(aO:List Int)(aF:List Bool)(bH:Int)(T:Nat)(Ms:List Mem)(aJ:List dr)(mT:Mem->List c9->Prop):Prop where
 ec:∃hy:Mem->List dr->List c9->Prop,(∀i,cw aO aF i->a6 aO i=bH->hy (b9 Ms i) [] [])/\
  (∀i,cw aO aF i->a6 aO i=bH->∀s l o f bd,bd.v0=v0->dm bA T bd->fz bd s->s.self=bH->f∈aJ->f.dst=s.self->ns bd f.src f.bj->hy s l o->hy (eM s f.src f.bj).1 (l++ [f]) (o++(eM s f.src f.bj).2))/\
  (∀s l o,hy s l o->s.status=0)/\(∀i,cw aO aF i->a6 aO i=bH->∀s l o,(∀f∈aJ,f.dst=bH->f∈l)->hy s l o->mT (fi s).1 (o++(fi s).2))
 s3:∀s o,mT s o->∀p∈o,p.bj= .e6
 um:∀i,cw aO aF i->a6 aO i=bH->J bH
def Uw(C cY:Int->Prop)(V:aK)(aO:List Int)(aF:List Bool)(bH:Int)(Ms:List Mem)(aJ:List dr):Prop:=∀i,cw aO aF i->a6 aO i≠bH->∀A,IS C cY V aO Ms aJ i A->(dl V A).2=true
def E7(m:c1):Prop:=m.kind=1
inductive Np(C cY J:Int->Prop)(V:aK)(k:Nat)(aO:List Int)(aF:List Bool)(bH κ ρ:Int)(mI:Nat)(r:Nat)(Ms:List Mem)(aJ:List dr):Prop
 |eE{α:Nat}(cP:s1 C cY J V k aO aF bH α E7 Ms aJ)(h:∀i,cw aO aF i->a6 aO i≠bH->l5 (b9 Ms i).agr\/h9 False 0 1 (b9 Ms i).agr)(eZ:Uw C cY V aO aF bH Ms aJ)(ao:12+6*mI<=r)
 |Nq{α w:Nat}(cP:s1 C cY J V k aO aF bH α E7 Ms aJ)(h:∀i,cw aO aF i->a6 aO i≠bH->∃w':Nat,w<=w'/\w'<=w+1/\h9 False 0 w' (b9 Ms i).agr/\(a6 aO i=κ->w'+1<=8+6*mI))(ao:8+6*mI+4<=r+w)
 |Cr{α c gZ:Nat}(cP:s1 C cY J V k aO aF bH α (rm True ρ) Ms aJ)(h:∀i,cw aO aF i->a6 aO i≠bH->(a6 aO i≠κ->∃w':Nat,w'<=9+6*mI+c/\h9 True ρ w' (b9 Ms i).agr)/\(a6 aO i=κ->sa ρ c (b9 Ms i).agr))
   (cJ:asK V aO aF bH κ (∀i,cw aO aF i->a6 aO i=κ->(b9 Ms i).agr.phase=2) aJ gZ) (al:c<=gZ) (hk:gZ<=3) (ao:4<=r+gZ)
section
variable {bA:aK->Int->Prop} {C cY J:Int->Prop} {v0 V:aK} {aO:List Int} {aF:List Bool} {T k mI r:Nat} {bH κ ρ:Int} {Ms:List Mem} {aJ:List dr} {cb:Int->Int->Bool} {mT:Mem->List c9->Prop}
theorem IV{ia:List Mem}{mQ:List dr}{O:Nat->List c9}(hO:∀f,f∈mQ↔∃i,cw aO aF i/\∃p∈O i,f=j5 (a6 aO i) p){j:Nat}(aq:cw aO aF j){x:Int}{m:c1}(an: (⟨x,.dP m⟩:c9)∈O j)(ab:m.view=V.num){P:c1->Prop}(df:P m):IU V mQ x P:=
 ⟨j5 (a6 aO j) ⟨x,.dP m⟩,(hO _).2 ⟨j,aq,_,an,rfl⟩,rfl,m,rfl,ab,df⟩
theorem asU(jg:∀a b,cb a b=false)(dA:od bA v0 aO aF T Ms aJ)(aw:T+1<=399)(al:E4 bA C cY J v0 V k aO aF bH)(eV:IT C V aO aF bH κ ρ mI){U:List Int}(rj:U.Nodup)(No:∀x∈U,∃j,cw aO aF j/\a6 aO j≠bH/\a6 aO j=x)(ao7:fY V.mem.length<=(U.length:Int))
  (ni:∀i,cw aO aF i->a6 aO i≠bH->bP V.mem (a6 aO i)=true) (F5:mI<=16) (ed:adS bA J v0 aO aF bH T Ms aJ mT) (cJ:Np C cY J V k aO aF bH κ ρ mI r Ms aJ):
  yi cb aF Ms aJ/\od bA v0 aO aF (T+1) (cZ cb aF Ms aJ).1 (cZ cb aF Ms aJ).2/\
  ∃O:Nat->List c9,(∀f,f∈ (cZ cb aF Ms aJ).2↔∃i,cw aO aF i/\∃p∈O i,f=j5 (a6 aO i) p)/\(∀i,cw aO aF i->a6 aO i=bH->mT (b9 (cZ cb aF Ms aJ).1 i) (O i))/\
   ((∃eY,eY+1=r/\Np C cY J V k aO aF bH κ ρ mI eY (cZ cb aF Ms aJ).1 (cZ cb aF Ms aJ).2)\/Nf C cY J V k aO aF bH 1 (cZ cb aF Ms aJ).1 (cZ cb aF Ms aJ).2):=by
 obtain⟨⟨hy,p3,mS,jp,pq⟩,s3,um⟩:=ed;obtain⟨lI,s4,s5⟩:=eV.lC;have adT:∀i,cw aO aF i->a6 aO i≠bH->∃q:Nat,gR V.mem (a6 aO i)=(q:Int)/\q<=16:=λi hi ag=>Nj al.IN (ni i hi ag);have br: (1:Nat)<=1/\((∃m:c1,E7 m)->(1:Nat)=1):=⟨bS _,λ_=>rfl⟩
 have asV: (1:Nat)<=1/\((∃m:c1,rm True ρ m)->(1:Nat)=1):=⟨bS _,λ_=>rfl⟩
 cases cJ with
 |eE cP h eZ ao=>
  have b1:=Nl (bA:=bA) (C:=C) (cY:=cY) (k:=k) (Ms:=Ms) (aJ:=aJ) (aO:=aO) (aF:=aF) (bH:=bH) al.IN (λi hi ag=>by
   grind)
  obtain⟨dL,dW,O,eU,hj,iV⟩:=E6 (cb:=cb) jg dA aw al cP b1 p3 mS jp pq s3 um br;refine⟨dL,dW,O,eU,hj,iV.imp (λ⟨dc,dt⟩=>⟨r-1,by omega,.Nq (w:=1) dc (λi hi ag=> ?_) (by omega)⟩) id⟩;obtain⟨s,o,⟨fl,ff⟩,lX,_⟩:=dt i hi ag;have cy:=eZ i hi ag _ ff;rcases fl with⟨cH,a2|a2⟩| ⟨w,cH,a2⟩
  ·grind
  ·grind
  ·rcases h i hi ag with h|h
   ·exact absurd h.prop cH.prop
   ·have:w=1:=cH.cD.symm.trans h.cD;subst this;exact⟨2,by omega,by omega,a2,λ_=>by omega⟩
 | @Nq α w cP h ao=>
  obtain⟨adU,uJ,lT,z3,z4⟩:=h lI s4 (by rw[s5];exact eV.Ur);have z4:=z4 s5;by_cases aB:adU+1<8+6*mI
  ·have b1:=Nl (bA:=bA) (C:=C) (cY:=cY) (k:=k) (Ms:=Ms) (aJ:=aJ) (aO:=aO) (aF:=aF) (bH:=bH) al.IN (λi hi ag=>by
    obtain⟨q,bX,_⟩:=adT i hi ag;obtain⟨w',oc,kP,oQ,wU⟩:=h i hi ag;refine .inr ⟨w',by omega,by omega,?_,oQ⟩;by_cases hk:a6 aO i=κ
    ·have hw:w'=adU:=by
      have adV: (b9 Ms i).agr.cD=(w':Int):=oQ.cD;have he:i=lI:=by
       obtain⟨bd,_,og⟩:=dA.g;have af:=ul dA;refine qH λbx=> ?_;have h1:i<Ms.length:=by have:=hi.1;omega
       have ad:lI<Ms.length:=by have:=s4.1;omega
       exact og.lP i lI h1 ad bx (by rw[oe dA h1,oe dA ad,hk,s5])
      subst he;have:=adV.symm.trans z3.cD;omega
     rw[hk,eV.yM];omega
    ·have:=eV.fj i hi ag hk;omega)
   obtain⟨dL,dW,O,eU,hj,iV⟩:=E6 (cb:=cb) jg dA aw al cP b1 p3 mS jp pq s3 um br;refine⟨dL,dW,O,eU,hj,iV.imp (λ⟨dc,dt⟩=>⟨r-1,by omega,.Nq (w:=w+1) dc (λi hi ag=> ?_) (by omega)⟩) id⟩;obtain⟨s,o,⟨fl,ff⟩,lX,_⟩:=dt i hi ag;obtain⟨w',oc,kP,oQ,wU⟩:=h i hi ag;rcases fl with⟨cH,_⟩| ⟨hs,cH,a2⟩
   ·exact absurd cH.prop oQ.prop
   ·have:hs=(w':Int):=cH.cD.symm.trans oQ.cD;subst this;refine⟨w'+1,by omega,by omega,a2,λhk=> ?_⟩;have he:i=lI:=by
     obtain⟨bd,_,og⟩:=dA.g;have af:=ul dA;refine qH λbx=> ?_;have h1:i<Ms.length:=by have:=hi.1;omega
     have ad:lI<Ms.length:=by have:=s4.1;omega
     exact og.lP i lI h1 ad bx (by rw[oe dA h1,oe dA ad,hk,s5])
    subst he;have:=oQ.cD.symm.trans z3.cD;omega
  ·have b1:=asL (bA:=bA) (C:=C) (cY:=cY) (k:=k) (Ms:=Ms) (aJ:=aJ) (aO:=aO) (aF:=aF) (bH:=bH) al.IN eV (λi hi ag=>by
    obtain⟨q,bX,_⟩:=adT i hi ag;obtain⟨w',oc,kP,oQ,wU⟩:=h i hi ag;refine⟨w',by omega,by omega,oQ,λhk=> ?_,λhk=> ?_⟩
    ·have:=eV.fj i hi ag hk;omega
    ·have he:i=lI:=by
      obtain⟨bd,_,og⟩:=dA.g;have af:=ul dA;refine qH λbx=> ?_;have h1:i<Ms.length:=by have:=hi.1;omega
      have ad:lI<Ms.length:=by have:=s4.1;omega
      exact og.lP i lI h1 ad bx (by rw[oe dA h1,oe dA ad,hk,s5])
     subst he;have:=oQ.cD.symm.trans z3.cD;omega)
   obtain⟨dL,dW,O,eU,hj,iV⟩:=E6 (cb:=cb) jg dA aw al cP b1 p3 mS jp pq s3 um br;refine⟨dL,dW,O,eU,hj,iV.imp (λ⟨dc,dt⟩=> ?_) id⟩;obtain⟨asW,asX,⟨fl,ff⟩,lX,oa,_⟩:=dt lI s4 (by rw[s5];exact eV.Ur);obtain⟨IW,Nr,Ux⟩:=ff s5;have bU:∀i,cw aO aF i->a6 aO i≠bH->(a6 aO i≠κ->∃w':Nat,w'<=9+6*mI+0/\h9 True ρ w' (b9 (cZ cb aF Ms aJ).1 i).agr)/\(a6 aO i=κ->sa ρ ((0:Nat):Int) (b9 (cZ cb aF Ms aJ).1 i).agr):=λi hi ag=>by
    obtain⟨s,o,⟨cX,c0⟩,_⟩:=dt i hi ag;obtain⟨w',oc,kP,oQ,wU⟩:=h i hi ag;refine⟨λhk=> ?_,λhk=>(c0 hk).1⟩;obtain⟨hs,cH,a2⟩:=cX hk;have:hs=(w':Int):=cH.cD.symm.trans oQ.cD;subst this;exact⟨w'+1,by omega,a2⟩
   have mo: (b9 (cZ cb aF Ms aJ).1 lI).agr.phase=2->∀i,cw aO aF i->a6 aO i=κ->(b9 (cZ cb aF Ms aJ).1 i).agr.phase=2:=λe i hi hk=>by
    have he:i=lI:=by
     obtain⟨bd,_,og⟩:=dA.g;have af:=ul dA;refine qH λbx=> ?_;have h1:i<Ms.length:=by have:=hi.1;omega
     have ad:lI<Ms.length:=by have:=s4.1;omega
     exact og.lP i lI h1 ad bx (by rw[oe dA h1,oe dA ad,hk,s5])
    grind
   rcases IW.nP with⟨e,_⟩| ⟨e,_⟩
   ·refine⟨r-1,by omega,.Cr (c:=0) (gZ:=0) dc bU (λj aq ji p4=> ?_) (bS _) (by omega) (by omega)⟩;obtain⟨m,az,m1,m2,m3⟩:=Nr e _ (iR.1 (ni j aq ji)) p4;exact IV (ia:=Ms) eU s4 (oa _ az) m1 ⟨m2,m3⟩
   ·refine⟨r-1,by omega,.Cr (c:=0) (gZ:=2) dc bU ⟨mo e,λj aq ji p4=> ?_⟩ (by omega) (by omega) (by omega)⟩;obtain⟨m,az,m1,m2⟩:=Ux e _ (iR.1 (ni j aq ji)) p4;exact IV (ia:=Ms) eU s4 (oa _ az) m1 m2
 | @Cr α c gZ cP h cJ q0 hk ao=>
  have b1:=asO (bA:=bA) (C:=C) (cY:=cY) (k:=k) (Ms:=Ms) (aJ:=aJ) (aO:=aO) (aF:=aF) (bH:=bH) (c:=(c:Int)) al.IN eV (by omega) (by omega) (λi hi ag=>by
   obtain⟨h1,ad⟩:=h i hi ag;refine⟨λhk=> ?_,ad⟩;obtain⟨w',oc,kP⟩:=h1 hk;have:=eV.fj i hi ag hk
   grind)
  obtain⟨dL,dW,O,eU,hj,iV⟩:=E6 (cb:=cb) jg dA aw al cP b1 p3 mS jp pq s3 um asV;refine⟨dL,dW,O,eU,hj,?_⟩;rcases iV with⟨dc,dt⟩|iV
  ·obtain⟨asW,asX,⟨fl,ff,B6⟩,lX,oa,_⟩:=dt lI s4 (by rw[s5];exact eV.Ur);obtain⟨IW,Nr,Ux,adW,asY,avQ,avR,u8⟩:=ff s5;have bU:∀i,cw aO aF i->a6 aO i≠bH->(a6 aO i≠κ->∃w':Nat,w'<=9+6*mI+(c+1)/\h9 True ρ w' (b9 (cZ cb aF Ms aJ).1 i).agr)/\(a6 aO i=κ->sa ρ ((c+1:Nat):Int) (b9 (cZ cb aF Ms aJ).1 i).agr):=λi hi ag=>by
    obtain⟨s,o,⟨cX,c0,_⟩,_⟩:=dt i hi ag;refine⟨λhk=> ?_,λhk=>(c0 hk).1⟩;obtain⟨w',oc,kP⟩:=(h i hi ag).1 hk;obtain⟨hs,cH,a2⟩:=cX hk;have:hs=(w':Int):=cH.cD.symm.trans kP.cD;subst this;exact⟨w'+1,by omega,a2⟩
   have adV:∀i,cw aO aF i->a6 aO i=κ->i=lI:=λi hi hk=>by
    obtain⟨bd,_,og⟩:=dA.g;have af:=ul dA;refine qH λbx=> ?_;have h1:i<Ms.length:=by have:=hi.1;omega
    have ad:lI<Ms.length:=by have:=s4.1;omega
    exact og.lP i lI h1 ad bx (by rw[oe dA h1,oe dA ad,hk,s5])
   have mo: (b9 (cZ cb aF Ms aJ).1 lI).agr.phase=2->∀i,cw aO aF i->a6 aO i=κ->(b9 (cZ cb aF Ms aJ).1 i).agr.phase=2:=λe i hi hk=>by
    grind
   match gZ,cJ with
   |0,cJ=>
    refine .inl ⟨r-1,by omega,.Cr (c:=c+1) (gZ:=1) dc bU (λj aq ji p4=> ?_) (by omega) (by omega) (by omega)⟩;obtain⟨f,au,fd,m,ob,p8,mk,ms⟩:=cJ j aq ji p4;obtain⟨s,o,⟨_,_,iu⟩,_,ly,_⟩:=dt j aq ji;obtain⟨q,bX,eW,hc,v3⟩:=(iu p4).1 f au fd m ob p8 mk;rw[ms]at bX;exact IV (ia:=Ms) eU aq (ly _ bX) eW ⟨hc,v3⟩
   |1,cJ=>
    have aG: (b9 (cZ cb aF Ms aJ).1 lI).agr.phase=2:=by
     rcases IW.nP with⟨e,_⟩| ⟨e,_⟩
     ·exfalso;have aB:=asY e;have bw:∀x∈U,has (b9 (cZ cb aF Ms aJ).1 lI).agr.bu x:=λx ag=>by
       obtain⟨j,aq,ji,lY⟩:=No x ag;by_cases p4:a6 aO j=κ
       ·grind
       ·obtain⟨f,au,fd,m,ob,p8,mk,ms⟩:=cJ j aq ji p4
        grind
      have hlen:U.length<=(b9 (cZ cb aF Ms aJ).1 lI).agr.bu.length:=by
       have:=wK (b:=(b9 (cZ cb aF Ms aJ).1 lI).agr.bu.map (·.mem)) rj (λx ag=>by
        obtain⟨y,bk,e⟩:=bw x ag
        grind)
       grind
      omega
     omega
    refine .inl ⟨r-1,by omega,.Cr (c:=c+1) (gZ:=2) dc bU ⟨mo aG,λj aq ji p4=> ?_⟩ (by omega) (by omega) (by omega)⟩;obtain⟨m,az,m1,m2⟩:=Ux aG _ (iR.1 (ni j aq ji)) p4;exact IV (ia:=Ms) eU s4 (oa _ az) m1 m2
   |2,cJ=>
    have aG:=adW (cJ.1 lI s4 s5);refine .inl ⟨r-1,by omega,.Cr (c:=c+1) (gZ:=3) dc bU ⟨mo aG,λj aq ji p4=> ?_⟩ (by omega) (by omega) (by omega)⟩;obtain⟨f,au,fd,m,ob,p8,mk⟩:=cJ.2 j aq ji p4;obtain⟨s,o,⟨_,_,iu⟩,_,ly,_⟩:=dt j aq ji;obtain⟨q,bX,eW,hc,v3⟩:=(iu p4).2 f au fd m ob p8 mk κ eV.mem (λe=>p4 e.symm);exact IV (ia:=Ms) eU aq (ly _ bX) eW ⟨hc,v3⟩
   |n+3,cJ=>
    exfalso;have aG:=adW (cJ.1 lI s4 s5);have:=u8 (λj aq ji p4=>by
     obtain⟨f,au,fd,m,ob,p8,mk,ms⟩:=cJ.2 j aq ji p4
     grind) aG U rj No
    omega
  grind
end
def asZ(_:Int):Prop:=False
section
variable {bA:aK->Int->Prop} {C cY:Int->Prop} [DecidablePred C] {v0 V:aK} {aO:List Int} {aF:List Bool} {T k mI r α:Nat} {κ ρ:Int} {Ms:List Mem} {aJ:List dr} {cb:Int->Int->Bool} {L:List Int} {ho:c1->Prop}
variable{J:Int->Prop}{bH:Int}
theorem adX(cP:s1 C cY J V k aO aF bH α ho Ms aJ){i j:Nat}(hi:cw aO aF i)(ag:a6 aO i≠bH)(aq:cw aO aF j)(ji:a6 aO j≠bH)(fV:a6 aO i=a6 aO j->i=j){A:List bR}(ai:IS C cY V aO Ms aJ i A){z:bR}(bt:z∈ (b9 Ms j).als):z∈A:=by
 by_cases e:a6 aO i=a6 aO j
 ·rw[<-fV e]at bt;exact ai.ym z bt
 ·obtain⟨f,au,f1,f2,f3⟩:=cP.hm j i aq hi ji ag (λh=>e h.symm) (List.ne_nil_of_mem bt);exact ai.hm f au f2 _ f3 z bt
theorem as0(cP:s1 C cY J V k aO aF bH α ho Ms aJ){g:Int}(ax:∀y,cY y->y=g)(M7:∀r,(cQ V.mem g).getD r 0≠g)(aV: (er V [g]).2=0)(bx:∀i j,cw aO aF i->cw aO aF j->a6 aO i=a6 aO j->i=j)
  {j:Nat} (aq:cw aO aF j) (ji:a6 aO j≠bH) (ab:dG V (b9 Ms j).als=true) (bs: (dl V (b9 Ms j).als).2=true) (ae:po C cY (b9 Ms j).als):Uw C cY V aO aF bH Ms aJ:=λi hi ag A ai=>by
 have h1:=(adp ab (λz bt=>ax _ (ae z bt).1) M7 aV).2 bs;have ad:=apT ab ai.val (λz bt=>adX cP hi ag aq ji (bx i j hi aq) ai bt) g;rw[(adp ai.val (λz bt=>ax _ (ai.sub z bt).1) M7 aV).1 (by omega)]
theorem adY{mR:List bR->Prop}{rn:c1->Prop}{src:Int}{f:kX}(h:jB V k J (λ_=>False) (λ_=>False) src f):jB V k J mR rn src f:=by
 cases f with
 |ac n=>exact h
 |hm n l=>
  rcases h with h|h
  ·exact .inl h
  grind
 |dP m=>
  rcases h with h|h
  ·exact .inl h
  grind
 |hi v c=>exact h
 |e6=>exact h
theorem as1{a b:Nat}{s:Mem}(h:hG C k a b s):l5 s.agr:=by
 rw[h.agr];exact arX _ _
theorem adZ{a b:Nat}{s:Mem}(h:hG C k a b s)(ab:s.view=V):mv V C cY k a b [] [] s:=
 ⟨h.b4,h.af,ab,h.a7,(λf au=>by cases au),(λz bt=>by cases bt),(by rw[h.als];exact λz bt=>by cases bt),(λf au=>by cases au),(λf au=>by cases au)⟩
theorem as2{fj:Nat}(o3:fj<=8\/∀i,cw aO aF i->a6 aO i≠bH->∃b,b<=3/\hG C k fj b (b9 Ms i))(st:fj<=9)(az:∀i,cw aO aF i->a6 aO i≠bH->∃a b,fj<=a/\a<=fj+1/\b<=3/\hG C k a b (b9 Ms i)/\(b9 Ms i).view=V)(kQ:∀f∈aJ,jB V k J (λ_=>False) (λ_=>False) f.src f.bj)
  (Uy:∀i,cw aO aF i->a6 aO i≠bH->∀y∈V.mem,y≠a6 aO i->a6 aO i∈cQ V.mem y->¬C y->∃f∈aJ,f.src=y/\f.dst=a6 aO i/\f.bj= .ac V.num) (iO:∀i,cw aO aF i->a6 aO i≠bH->a6 aO i∈V.mem/\¬C (a6 aO i)) (hF:b2 V=true):s1 C cY J V k aO aF bH fj E7 Ms aJ:=by
 refine⟨λi hi ag=> ?_,λf au=>adY (kQ f au),λi j hi aq ag ji aH=> ?_,λi j hi aq ag ji bx bb=> ?_⟩
 ·rcases o3 with Dm|h
  ·obtain⟨a,b,cH,a2,a3,y,mU⟩:=az i hi ag;exact⟨a,b,by omega,a3,adZ y mU,λTF=>by omega⟩
  ·obtain⟨b,ac,y⟩:=h i hi ag;obtain⟨_,_,_,_,_,_,mU⟩:=az i hi ag;exact⟨fj,b,.inl rfl,ac,adZ y mU,λTF=>by omega⟩
 ·have GY:=iO j aq ji;have:=abe (lD hF).2.2 GY.1 _ aH
  grind
 ·obtain⟨a,b,_,_,_,y,_⟩:=az i hi ag;exact absurd y.als bb
end
section
variable {v V:aK} {gone:List Int} {aF:List Bool} {T k:Nat} {G:iL}
theorem Ns(ab:b2 V=true):V.mem.Nodup:=G6 (nE.1 (lD ab).2.2).2.1
theorem as3(ab:b2 v=true){y:Int}(bk:y∈v.mem):y≠0:=by
 have:=(HP (lD ab).2.2 y bk).1;omega
end
theorem as4{W:aK}(h:V.num=W.num){k:Nat}{J:Int->Prop}{mR:List bR->Prop}{ho:c1->Prop}{src:Int}{f:kX}(au:jB V k J mR ho src f):jB W k J mR ho src f:=by
 cases f with
 |ac n=>
  show n<=W.num;rw[<-h];exact au
 |hm n l=>
  show n<W.num\/(n=W.num/\mR l);rw[<-h];exact au
 |dP m=>
  show m.view<W.num\/(m.view=W.num/\ho m);rw[<-h];exact au
 |hi v c=>exact au
 |e6=>exact au
section
variable {v V:aK} {gone:List Int} {aF:List Bool} {T k:Nat} {Ms:List Mem} {aJ:List dr} {cb:Int->Int->Bool}
end
structure mV(v:aK)(x:Int):Prop where
 ab:b2 v=true
 aV:v.num<=1000
 bs:v.mem.length<=4
 id:1<=x/\x<=1000
 yn:x∉v.mem
def pr(x:Int)(V:aK)(y:Int):Prop:=y=x/\y∉V.mem
def iE(v:aK)(x:Int):aK:=(er v [x]).1
def iF(_:Int):Prop:=False
instance avS:DecidablePred iF:=λ_=>isFalse λh=>h
def hJ(x y:Int):Prop:=y=x
def cu(v:aK)(x:Int):List Int:=v.mem++ [x]
def dH(v:aK):List Bool:=List.replicate (v.mem.length+1) false
def Nt(x:Int)(aJ:List dr):Prop:=∃f∈aJ,f.dst=x/\∃w c,f.bj= .hi w c
def Uz(x:Int)(aJ:List dr):Prop:=∃f∈aJ,f.dst=x/\∃w c,f.bj= .hi w c/\c.length=1
def Nu(s:Mem):List c9:=s.cont.map λm=>⟨m,.e6⟩
section
variable {v V:aK} {x dh:Int} {T k i j:Nat} {G:iL} {s:Mem} {Ms ia:List Mem} {aJ mQ:List dr}
theorem Nv{l:List Int}{y:Int}(h:y∉l):bP l y=false:=by
 cases e:bP l y
 ·rfl
 ·exact absurd (iR.1 e) h
theorem as5(h:mV v x):dF [x] 32=true:=nE.2 ⟨⟨by simp,by simp⟩,by simp,λy bk=>by rw[eJ.1 bk];exact h.id⟩
theorem UA(h:mV v x): (er v [x]).2=0:=by
 have al:=as5 h;have af:=k8 h.ab;have hx:=h.yn;have aA: (mH v [x]).length=v.mem.length:=by
  rw[aca h.ab al,yp.2];intro y bk;rw[Nv (l:=[x]) (y:=y) (by grind)];rfl
 have aG: (hd v [x]).length=1:=by
  rw[acb h.ab al];simp[Nv h.yn]
 have bs:=h.bs;have:=h.aV;unfold er;rw[h.ab,al,c5 (show ¬(2* ((mH v [x]).length:Int)<=(v.mem.length:Int)) by omega),c5 (show ¬(v.num=1099511627776) by omega),c5 (show ¬((16:Int)<((mH v [x]).length:Int)+((hd v [x]).length:Int)) by omega)];rfl
theorem E8(h:mV v x):b2 (iE v x)=true/\(iE v x).num=v.num+1/\∀y,y∈ (iE v x).mem↔y∈v.mem\/y=x:=by
 obtain⟨a,b,c⟩:=EQ (UA h);refine⟨a,b,λy=>(c y).trans ?_⟩;have:=h.yn
 grind
theorem ad0(h:mV v x): (cu v x).Nodup:=by
 have:=Ns h.ab;have:=h.yn;unfold cu
 grind
theorem as6(h:mV v x): (iE v x).mem.length=v.mem.length+1:=by
 obtain⟨a,b,c⟩:=E8 h;have h1:=wK (Ns a) (b:=cu v x) (λy bk=>by
  have:=(c y).1 bk;unfold cu
  grind)
 have ad:=wK (ad0 h) (b:=(iE v x).mem) (λy bk=>(c y).2 (by
  unfold cu at bk
  grind))
 have e: (cu v x).length=v.mem.length+1:=by simp[cu]
 omega
theorem ad1(h:mV v x)(bf:dm (pr x) T G)(fk:G.v0=v)(af:0<G.D.length):fy G 1=iE v x:=by
 have pF:=(sK (j3 bf (k:=0) (by omega)).1).1;have df:=HD pF (bf.qC 0 (by omega)) (bf.dec 0 af);have qY:=bf.zS 0 (by omega) _ df;have hx: (er (fy G 0) (G.D.getD 0 [])).2=0:=fC (bf.n9.2 0 af);have bx:=wL (v:=fy G 0) (e4 hx);have gO:=(nE.1 (Tn hx).2.1).2.1;have e:G.D.getD 0 []=[x]:=BJ gO (by simp) λy=>by
  constructor
  ·intro bk;exact eJ.2 (qY y bk).1
  ·intro bk;rw[eJ.1 bk];obtain⟨z,bt⟩:=Fo (Fq.2 bx);rw[<-(qY z bt).1];exact bt
 have bF:fy G 0=v:=fk;show (er (fy G 0) (G.D.getD 0 [])).1=_;rw[e,bF];rfl
theorem ad2(h:mV v x)(bf:dm (pr x) T G)(fk:G.v0=v)(cT:fz G s)(bU:s.status=0)(ae:s.self=x){src:Int}{f:kX}(au:ns G src f)(Ni:∀w c,f= .hi w c->c.length<=1):
  (eM s src f).2=[]/\(((eM s src f).1.status=0/\((eM s src f).1.cont=s.cont\/(eM s src f).1.cont=v.mem)/\∀w c,f= .hi w c->c.length=0/\(eM s src f).1.cont=v.mem)\/
   (hG iF 1 0 0 (eM s src f).1/\(eM s src f).1.view=iE v x/\∃w c,f= .hi w c/\c.length=1)):=by
 unfold eM;rw[bm (by omega),b3 bU];cases f with
 |hi w c=>
  obtain⟨rfl,m,az,rfl⟩:=au;have h1:=Ni _ _ rfl;by_cases al: (G.D.take m).length=0
  ·have aA:G.D.take m=[]:=ut.1 al;have e:yf s (.hi G.v0 (G.D.take m))=({s with cont:=v.mem},[]):=by
    show (vr s G.v0 (G.D.take m),[])=_;rw[aA];unfold vr;show ((bif bP G.v0.mem s.self then _ else {s with cont:=G.v0.mem}),_)=_;rw[fk,ae,Nv h.yn];rfl
   grind
  ·have hL: (G.D.take m).length=1:=by omega
   have K2: (G.D.take m).length=min m G.D.length:=mW ..;have bF:dK G.v0 (G.D.take m) 1=iE v x:=(ER G.v0 G.D (by omega)).trans (ad1 h bf fk (by omega));obtain⟨eW,hc,v3⟩:=E8 h;have cS:bP (iE v x).mem s.self=true:=iR.2 ((v3 _).2 (.inr ae));have e:yf s (.hi G.v0 (G.D.take m))=(eR {s with first:=G.v0,hist:=G.D.take m,cont:=[]} (iE v x),[]):=by
    show (vr s G.v0 (G.D.take m),[])=_;unfold vr
    grind
   have bk:=IJ (C:=iF) (s:={s with first:=G.v0,hist:=G.D.take m,cont:=[]}) eW cS;rw[e];refine⟨rfl,.inr ⟨?_,?_,_,_,rfl,hL⟩⟩
   ·grind
   ·rw[vo (s:={s with first:=G.v0,hist:=G.D.take m,cont:=[]}) cS]
 |ac n=>exact⟨rfl,.inl ⟨bU,.inl rfl,λw c e=>by cases e⟩⟩
 |hm n l=>exact⟨rfl,.inl ⟨bU,.inl rfl,λw c e=>by cases e⟩⟩
 |dP m=>exact⟨rfl,.inl ⟨bU,.inl rfl,λw c e=>by cases e⟩⟩
 |e6=>exact⟨rfl,.inl ⟨bU,.inl rfl,λw c e=>by cases e⟩⟩
theorem UB(bU:s.status=0):fi s=(s,Nu s):=by
 unfold fi;rw[bm (by omega),b3 bU];rfl
theorem Cs:cw (cu v x) (dH v) i↔i<v.mem.length+1:=by
 unfold cw cu dH
 grind
theorem yo:a6 (cu v x) v.mem.length=x:=by simp[a6,cu]
theorem Nw(h:i<v.mem.length):a6 (cu v x) i=v.mem[i]:=by
 unfold a6 cu
 grind
theorem Ct:cw (cu v x) (dH v) v.mem.length:=Cs.2 (by omega)
theorem Cu{y:Int}(bk:y∈v.mem):∃i,cw (cu v x) (dH v) i/\a6 (cu v x) i=y:=by
 obtain⟨i,hi,e⟩:=fv bk;exact⟨i,Cs.2 (by omega),by rw[Nw hi,e]⟩
theorem E9(hi:cw (cu v x) (dH v) i)(ag:a6 (cu v x) i≠x):a6 (cu v x) i∈v.mem:=by
 have h:=Cs.1 hi;by_cases af:i<v.mem.length
 ·rw[Nw af];simp
 ·have e:i=v.mem.length:=by omega
  rw[e,yo]at ag;omega
theorem Nx(h:mV v x)(hi:cw (cu v x) (dH v) i)(ag:a6 (cu v x) i=x):i=v.mem.length:=by
 have h1:=Cs.1 hi;by_cases af:i<v.mem.length
 ·rw[Nw af]at ag;exact absurd (ag▸eD af) h.yn
 ·omega
theorem wW(h:mV v x){y:Int}(bk:y∈v.mem):y≠x:=λe=>h.yn (e▸bk)
theorem as7(h:mV v x):E4 (pr x) iF (hJ x) (hJ x) v v 0 (cu v x) (dH v) x:=
 ⟨λi hi=>⟨λh=>h,λbx ae=>bx ae.1⟩,λy bk _=>by
  obtain⟨i,hi,e⟩:=Cu (x:=x) bk;exact⟨i,hi,e,wW h bk⟩,by simp,h.ab,λy e=>⟨e,by rw[show y=x from e];exact h.yn⟩,λy al=>al.elim,λy e=>⟨e,by rw[show y=x from e];exact h.yn,rfl,rfl,λz bt=>bt.1.trans (show y=x from e).symm⟩⟩
theorem as8(h:mV v x):∃κ,IT iF v (cu v x) (dH v) x κ (1024+κ) 0:=by
 have af:=k8 h.ab;have aQ:0<v.mem.length:=by omega
 have az:=eD aQ;have ih:=Ns h.ab;obtain⟨IW,Nr⟩:=asJ h.ab az;refine⟨v.mem[0],⟨⟨0,Cs.2 (by omega),Nw aQ⟩,wW h az,az,?_,λj aq ag bx=> ?_,rfl,IW,Nr⟩⟩
 ·obtain⟨q,bX,aA,aG⟩:=D4 az;have:q=0:=(CG ih).1 aG;omega
 ·obtain⟨q,bX,aA,aG⟩:=D4 (E9 aq ag)
  grind
theorem ad3(h:mV v x): (cQ v.mem x).length=5:=by
 unfold cQ;have af:=k8 h.ab;have aQ:0<v.mem.length:=by omega
 have:v.mem.getD 0 0≠x:=by
  have:=wW h (eD aQ)
  grind
 rw[(lD h.ab).2.2,e4 h.id.1,e4 h.id.2,c5 this];simp
theorem as9(h:mV v x)(r:Nat): (cQ v.mem x).getD r 0≠x:=by
 have cm:=ad3 h;by_cases ao:r<5
 ·exact wW h (T8 (lD h.ab).2.2 cm ao)
 ·have:=h.id.1
  grind
structure vE(v:aK)(x dh:Int)(Ms:List Mem)(aJ:List dr):Prop where
 b4: (b9 Ms v.mem.length).status=0
 MJ: (b9 Ms v.mem.length).cont=[dh]\/(b9 Ms v.mem.length).cont=v.mem
 e6:∀y∈ (b9 Ms v.mem.length).cont,∃f∈aJ,f.src=x/\f.dst=y/\f.bj= .e6
def Cv(v:aK)(Ms:List Mem):Prop:=(b9 Ms v.mem.length).cont=v.mem
def ad4(v:aK)(dh:Int)(Ny:Prop)(s:Mem)(o:List c9):Prop:=s.status=0/\o=Nu s/\(s.cont=[dh]\/s.cont=v.mem)/\(Ny->s.cont=v.mem)
theorem UC(h:mV v x)(ed:vE v x dh Ms aJ)(kQ:∀f∈aJ,∀w c,f.bj= .hi w c->c.length=0):adS (pr x) (hJ x) v (cu v x) (dH v) x T Ms aJ (ad4 v dh (Cv v Ms\/Nt x aJ)):=by
 refine⟨⟨λs l o=>s.status=0/\o=[]/\(s.cont=[dh]\/s.cont=v.mem)/\(Cv v Ms->s.cont=v.mem)/\∀f∈l,∀w c,f.bj= .hi w c->s.cont=v.mem,λi hi ag=> ?_,λi hi ag s l o f bd fk bf cT ae au lw ha b5=> ?_,λs l o h=>h.1,λi hi ag s l o af b5=> ?_⟩,λs o bX p an=> ?_,λi hi ag=>rfl⟩
 ·rw[Nx h hi ag];exact⟨ed.b4,rfl,ed.MJ,λh=>h,λf au=>by cases au⟩
 ·obtain⟨i1,i2,i3,i4,i5⟩:=b5;obtain⟨dL,dW⟩:=ad2 h bf fk cT i1 ae ha (λw c e=>by grind)
  grind
 ·obtain⟨i1,i2,i3,i4,i5⟩:=b5;rw[UB i1,i2];refine⟨i1,rfl,i3,λai=> ?_⟩;rcases ai with ai| ⟨f,au,fd,w,c,e⟩;all_goals grind
 ·rw[bX.2.1]at an;obtain⟨m,_,rfl⟩:=fr.1 an;rfl
theorem UD{Ny:Prop}{O:Nat->List c9}(hO:∀f,f∈mQ↔∃i,cw (cu v x) (dH v) i/\∃p∈O i,f=j5 (a6 (cu v x) i) p)(gP:∀i,cw (cu v x) (dH v) i->a6 (cu v x) i=x->ad4 v dh Ny (b9 ia i) (O i)):
  vE v x dh ia mQ/\(Ny->Cv v ia):=by
 obtain⟨dc,dt,gy,ef⟩:=gP _ Ct yo;refine⟨⟨dc,gy,λy bk=> ?_⟩,ef⟩;refine⟨j5 x ⟨y,.e6⟩,(hO _).2 ⟨_,Ct,⟨y,.e6⟩,?_,by rw[yo]⟩,rfl,rfl,rfl⟩;rw[dt];exact fr.2 ⟨y,bk,rfl⟩
def Nz(v:aK)(x dh:Int)(aJ:List dr)(s:Mem)(o:List c9):Prop:=(s.status=0/\o=Nu s/\(s.cont=[dh]\/s.cont=v.mem)/\¬Uz x aJ)\/
 (hG iF 1 1 1 s/\s.view=iE v x/\s.self=x/\(∀p∈j4 s,p∈o)/\∀p∈o,p.bj= .ac (iE v x).num\/∃w c,p.bj= .hi w c/\c.length<=1)
theorem ad5(h:mV v x)(ed:vE v x dh Ms aJ)(kQ:∀f∈aJ,jB (iE v x) 1 (hJ x) (λ_=>False) (λ_=>False) f.src f.bj):∃hy:Mem->List dr->List c9->Prop,
  (∀i,cw (cu v x) (dH v) i->a6 (cu v x) i=x->hy (b9 Ms i) [] [])/\
  (∀i,cw (cu v x) (dH v) i->a6 (cu v x) i=x->∀s l o f bd,bd.v0=v->dm (pr x) T bd->fz bd s->s.self=x->f∈aJ->f.dst=s.self->f.src≠s.self->ns bd f.src f.bj->(∃j,cw (cu v x) (dH v) j/\f.src=a6 (cu v x) j)->hy s l o->hy (eM s f.src f.bj).1 (l++ [f]) (o++(eM s f.src f.bj).2))/\
  (∀i,cw (cu v x) (dH v) i->a6 (cu v x) i=x->∀s l o bd,bd.v0=v->dm (pr x) T bd->fz bd s->s.self=x->hy s l o->l4 (pr x) s)/\
  (∀i,cw (cu v x) (dH v) i->a6 (cu v x) i=x->∀s l o bd,bd.v0=v->dm (pr x) (T+1) bd->fz bd s->s.self=x->(∀f∈aJ,f.dst=x->f∈l)->hy s l o->Nz v x dh aJ (fi s).1 (o++(fi s).2)):=by
 obtain⟨eW,hc,v3⟩:=E8 h;have avT:bP (iE v x).mem x=true:=iR.2 ((v3 x).2 (.inr rfl));refine⟨λs l o=>(s.status=0/\o=[]/\(s.cont=[dh]\/s.cont=v.mem)/\∀f∈l,∀w c,f.bj= .hi w c->c.length≠1)\/(hG iF 1 0 0 s/\s.view=iE v x/\∀p∈o,∃w c,p.bj= .hi w c/\c.length<=1),λi hi ag=> ?_,λi hi ag s l o f bd fk bf cT ae au lw bx ha ig b5=> ?_,λi hi ag s l o bd fk bf cT ae b5 bU=> ?_,λi hi ag s l o bd fk bf cT ae af b5=> ?_⟩
 ·rw[Nx h hi ag];exact .inl ⟨ed.b4,rfl,ed.MJ,λf au=>by cases au⟩
 ·have nQ:=kQ f au;rcases b5 with⟨i1,i2,i3,i4⟩| ⟨y,mU,Fa⟩
  ·obtain⟨dL,dW⟩:=ad2 h bf fk cT i1 ae ha (λw c e=>by rw[e]at nQ;exact nQ)
   grind
  ·obtain⟨oc,kP,oQ,wU,sx,IQ⟩:=Nd (J:=hJ x) bf cT y bx ha (by grind) (λh=>h) (λaq=>by rw[mU,show f.src=x from aq];omega);refine .inr ⟨oc,kP.trans mU,λp an=> ?_⟩;rcases eb.1 an with an|an
   ·grind
   ·exact⟨_,_,(sx p an).2,Fv y.af⟩
 ·rcases b5 with⟨i1,_⟩| ⟨y,mU,Fa⟩
  ·omega
  ·exact(Cl (b':=1) bf cT y (.inl (by omega)) (by omega) (.inr λ_ _ h=>h)).1 bU
 ·rcases b5 with⟨i1,i2,i3,i4⟩| ⟨y,mU,Fa⟩
  ·rw[UB i1,i2];refine .inl ⟨i1,rfl,i3,?_⟩;rintro⟨f,au,fd,w,c,e,al⟩
   grind
  ·obtain⟨_,t2,t3,t4,t5⟩:=Cl (b':=1) bf cT y (.inl (by omega)) (by omega) (.inr λ_ _ h=>h);have ata:=t3.trans mU;refine .inr ⟨t2,ata,t4.trans ae,λp an=>mx _ (by grind),λp an=> ?_⟩;rcases eb.1 an with an|an
   ·grind
   ·rw[t5]at an;rcases E1 an with e| ⟨_,e⟩
    ·grind
    ·exact absurd t2.als e
end
inductive Cw(v:aK)(x dh κ:Int)(T:Nat)(Ms:List Mem)(aJ:List dr):Prop
 |e9(aw:T=0)(az:∀i,cw (cu v x) (dH v) i->a6 (cu v x) i≠x->hG iF 0 0 0 (b9 Ms i)/\(b9 Ms i).view=v)(au:aJ=[])(ae: (b9 Ms v.mem.length).status=0)(al: (b9 Ms v.mem.length).cont=[dh])
 |gH(aw:T=1)(cP:s1 iF (hJ x) (hJ x) v 0 (cu v x) (dH v) x 1 (λ_=>False) Ms aJ)(aV:∀i,cw (cu v x) (dH v) i->a6 (cu v x) i≠x->l5 (b9 Ms i).agr)(ed:vE v x dh Ms aJ)
 |DZ(aw:T=2\/T=3)(cP:s1 iF (hJ x) (hJ x) v 0 (cu v x) (dH v) x T E7 Ms aJ)(aV:∀i,cw (cu v x) (dH v) i->a6 (cu v x) i≠x->l5 (b9 Ms i).agr)(ed:vE v x dh Ms aJ)(ai:Cv v Ms\/(T=2/\Nt x aJ))
 |Fb{r:Nat}(aw:T+r<=16)(h:Np iF (hJ x) (hJ x) v 0 (cu v x) (dH v) x κ (1024+κ) 0 r Ms aJ)(ed:vE v x dh Ms aJ)(ai:Cv v Ms\/Nt x aJ)
 |db{β:Nat}(aw:T<=17)(h:Nf iF (hJ x) (hJ x) v 0 (cu v x) (dH v) x β Ms aJ)(ed:vE v x dh Ms aJ)(vD:β=0\/(β=1/\Cv v Ms))
 |NA{hi β:Nat}(aw:T<=18+β)(az:∀i,cw (cu v x) (dH v) i->a6 (cu v x) i≠x->∃a b,0<=a/\a<=hi/\b<=β/\hG iF 1 a b (b9 Ms i)/\(b9 Ms i).view=iE v x)(kQ:∀f∈aJ,jB (iE v x) 1 (hJ x) (λ_=>False) (λ_=>False) f.src f.bj)(ed:vE v x dh Ms aJ)(vD:β<=1\/(β=2/\Uz x aJ))
 |nz{hi:Nat}(az:∀i,cw (cu v x) (dH v) i->∃a b,0<=a/\a<=hi/\b<=3/\hG iF 1 a b (b9 Ms i)/\(b9 Ms i).view=iE v x)(kQ:∀f∈aJ,jB (iE v x) 1 (hJ x) (λ_=>False) (λ_=>False) f.src f.bj)
   (Uy:∀i,cw (cu v x) (dH v) i->∀y∈ (iE v x).mem,y≠a6 (cu v x) i->a6 (cu v x) i∈cQ (iE v x).mem y->¬iF y->∃f∈aJ,f.src=y/\f.dst=a6 (cu v x) i/\f.bj= .ac (iE v x).num)
section
variable {v V:aK} {x dh κ:Int} {T k i j α r:Nat} {G:iL} {s:Mem} {Ms ia:List Mem} {aJ mQ:List dr} {cb:Int->Int->Bool}
theorem UE{bA:aK->Int->Prop}{v0:aK}{aO:List Int}{aF:List Bool}(dA:od bA v0 aO aF T Ms aJ):∀i j,cw aO aF i->cw aO aF j->a6 aO i=a6 aO j->i=j:=λi j hi aq e=>by
 obtain⟨bd,_,og⟩:=dA.g;have af:=ul dA;refine qH λbx=> ?_;have h1:i<Ms.length:=by have:=hi.1;omega
 have ad:j<Ms.length:=by have:=aq.1;omega
 exact og.lP i j h1 ad bx (by rw[oe dA h1,oe dA ad,e])
theorem UF(h:mV v x)(dA:od (pr x) v (cu v x) (dH v) T Ms aJ)(hi:cw (cu v x) (dH v) i){a b:Nat}(bk:hG iF 1 a b (b9 Ms i)): (b9 Ms i).view=iE v x:=by
 obtain⟨G,fk,og⟩:=dA.g;have af:=ul dA;have di:i<Ms.length:=by have:=hi.1;omega
 have cT:=og.mem i di;rw[<-Cm di]at cT;obtain⟨ai,_⟩:=qG cT bk.b4;have:=ai.af;rw[ai.view,bk.af];rw[bk.af]at this;exact ad1 h og.g fk (by omega)
theorem atb(h:mV v x){ho:c1->Prop}(cP:s1 iF (hJ x) (hJ x) v 0 (cu v x) (dH v) x α ho Ms aJ)(bx:∀i j,cw (cu v x) (dH v) i->cw (cu v x) (dH v) j->a6 (cu v x) i=a6 (cu v x) j->i=j)
  (b0:∀i,cw (cu v x) (dH v) i->a6 (cu v x) i≠x->∀z,gk v z=true->z.bG=x->z.jW=a6 (cu v x) i->z∈ (b9 Ms i).als):Uw iF (hJ x) v (cu v x) (dH v) x Ms aJ:=λi hi ag A ai=>by
 have cm:=ad3 h;have:=arU (v:=v) (A:=A) ai.val (C:=iF) (L:=[x]) (by simp) (λ_ al _=>al.elim) (λz bt=>⟨eJ.2 (ai.sub z bt).1,λh=>h⟩) (λz eW hc _=> ?_) (λy bk=>by grind) (λy bk=>by
  have: (List.range 5).countP (λr=>decide (¬iF ((cQ v.mem y).getD r 0)))=(List.range 5).length:=by
   rfl
  grind) h.ab (UA h)
 ·grind
 ·obtain⟨dx,fT,ZL,P8,avU,atc,atd⟩:=EO eW;have hc:=eJ.1 hc;have G8:z.jW∈v.mem:=by
   rw[<-atd];exact T8 (lD h.ab).2.2 atc (by omega)
  obtain⟨j,aq,lY⟩:=Cu (x:=x) G8;have ji:a6 (cu v x) j≠x:=by
   rw[lY];exact wW h G8
  exact adX cP hi ag aq ji (bx i j hi aq) ai (b0 j aq ji z eW hc lY.symm)
theorem ad6(h:mV v x)(cP:s1 iF (hJ x) (hJ x) v 0 (cu v x) (dH v) x α E7 ia mQ)(bx:∀i j,cw (cu v x) (dH v) i->cw (cu v x) (dH v) j->a6 (cu v x) i=a6 (cu v x) j->i=j)
  (bX:∀i,cw (cu v x) (dH v) i->a6 (cu v x) i≠x->l5 (b9 Ms i).agr/\∃s,adO v (b9 Ms i).agr s (b9 ia i).agr/\IS iF (hJ x) v (cu v x) Ms aJ i (bY s).als/\(b9 ia i).als=(bY s).als):
  (∀i,cw (cu v x) (dH v) i->a6 (cu v x) i≠x->l5 (b9 ia i).agr\/h9 False 0 1 (b9 ia i).agr)/\((∀i,cw (cu v x) (dH v) i->a6 (cu v x) i≠x->l5 (b9 ia i).agr)\/Np iF (hJ x) (hJ x) v 0 (cu v x) (dH v) x κ (1024+κ) 0 12 ia mQ):=by
 have y6:∀i,cw (cu v x) (dH v) i->a6 (cu v x) i≠x->(l5 (b9 ia i).agr\/h9 False 0 1 (b9 ia i).agr/\(dl v (b9 ia i).als).2=true)/\dG v (b9 ia i).als=true/\po iF (hJ x) (b9 ia i).als:=λi hi ag=>by
  obtain⟨aV,s,fl,ff,lX⟩:=bX i hi ag;rw[lX];refine⟨?_,ff.val,ff.sub⟩;rcases fl with⟨cH,a2|a2⟩| ⟨w,cH,a2⟩
  ·grind
  ·grind
  ·exact absurd aV.prop cH.prop
 have wT:∀i,cw (cu v x) (dH v) i->a6 (cu v x) i≠x->l5 (b9 ia i).agr\/h9 False 0 1 (b9 ia i).agr:=λi hi ag=>(y6 i hi ag).1.imp id (λh=>h.1);refine⟨wT,?_⟩;by_cases cF:∀i,cw (cu v x) (dH v) i->a6 (cu v x) i≠x->l5 (b9 ia i).agr
 ·grind
 ·obtain⟨j,aq,ji,Gg⟩:∃j,cw (cu v x) (dH v) j/\a6 (cu v x) j≠x/\¬l5 (b9 ia j).agr:=qH λaV=>cF λi hi ag=>qH λad=>aV ⟨i,hi,ag,ad⟩;obtain⟨eL,hs,sW⟩:=y6 j aq ji;exact .inr (.eE cP wT (as0 cP (λy e=>e) (as9 h) (UA h) bx aq ji hs (eL.resolve_left Gg).2 sW) (by omega))
theorem ad7(h:mV v x)(dA:od (pr x) v (cu v x) (dH v) T ia mQ){O:Nat->List c9}(hO:∀f,f∈mQ↔∃i,cw (cu v x) (dH v) i/\∃p∈O i,f=j5 (a6 (cu v x) i) p){hi:Nat}
  (az:∀i,cw (cu v x) (dH v) i->(∃a b,a<=hi/\b<=3/\hG iF 1 a b (b9 ia i))/\(b9 ia i).self=a6 (cu v x) i/\∀p∈j4 (b9 ia i),p∈O i) (kQ:∀f∈mQ,jB (iE v x) 1 (hJ x) (λ_=>False) (λ_=>False) f.src f.bj):Cw v x dh κ T ia mQ:=by
 obtain⟨eW,hc,v3⟩:=E8 h;refine .nz (hi:=hi) (λi fE=> ?_) kQ (λi fE y bk ate aH _=> ?_)
 ·obtain⟨⟨a,b,cH,a2,y⟩,_⟩:=az i fE;exact⟨a,b,bZ _,cH,a2,y,UF h dA fE y⟩
 ·obtain⟨j,aq,lY⟩:∃j,cw (cu v x) (dH v) j/\a6 (cu v x) j=y:=by
   rcases(v3 y).1 bk with bk|bk
   ·exact Cu bk
   ·exact⟨_,Ct,by rw[yo,bk]⟩
  obtain⟨⟨a,b,cH,a2,Fc⟩,dt,gy⟩:=az j aq;have mU:=UF h dA aq Fc;have:=Ud (s:=b9 ia j) (x:=a6 (cu v x) i) (by grind);rw[mU]at this;exact⟨j5 (a6 (cu v x) j) ⟨a6 (cu v x) i,.ac (iE v x).num⟩,(hO _).2 ⟨j,aq,_,gy _ this,rfl⟩,lY,rfl,rfl⟩
theorem ad8(h:mV v x)(dA:od (pr x) v (cu v x) (dH v) T ia mQ){O:Nat->List c9}(hO:∀f,f∈mQ↔∃i,cw (cu v x) (dH v) i/\∃p∈O i,f=j5 (a6 (cu v x) i) p)(gP:∀i,cw (cu v x) (dH v) i->a6 (cu v x) i=x->Nz v x dh aJ (b9 ia i) (O i)){hi:Nat}
  (az:∀i,cw (cu v x) (dH v) i->a6 (cu v x) i≠x->(∃a b,a<=hi/\b<=3/\hG iF 1 a b (b9 ia i))/\(b9 ia i).self=a6 (cu v x) i/\∀p∈j4 (b9 ia i),p∈O i) (kQ:∀f∈mQ,jB (iE v x) 1 (hJ x) (λ_=>False) (λ_=>False) f.src f.bj):Cw v x dh κ T ia mQ\/(vE v x dh ia mQ/\¬Uz x aJ):=by
 rcases gP _ Ct yo with⟨dc,dt,gy,ef⟩| ⟨y,mU,ys,avV,Fa⟩
 ·refine .inr ⟨⟨dc,gy,λy bk=> ?_⟩,ef⟩;refine⟨j5 x ⟨y,.e6⟩,(hO _).2 ⟨_,Ct,⟨y,.e6⟩,?_,by rw[yo]⟩,rfl,rfl,rfl⟩;rw[dt];exact fr.2 ⟨y,bk,rfl⟩
 ·refine .inl (ad7 (hi:=hi+1) h dA hO (λi fE=> ?_) kQ);by_cases ag:a6 (cu v x) i=x
  ·rw[ag,Nx h fE ag]
   grind
  grind
theorem atf(jg:∀a b,cb a b=false)(h:mV v x)(kx:dh∈v.mem)(eV:IT iF v (cu v x) (dH v) x κ (1024+κ) 0)(dA:od (pr x) v (cu v x) (dH v) T Ms aJ)(aw:T+1<=399)(cJ:Cw v x dh κ T Ms aJ):
  yi cb (dH v) Ms aJ/\od (pr x) v (cu v x) (dH v) (T+1) (cZ cb (dH v) Ms aJ).1 (cZ cb (dH v) Ms aJ).2/\Cw v x dh κ (T+1) (cZ cb (dH v) Ms aJ).1 (cZ cb (dH v) Ms aJ).2:=by
 obtain⟨eW,hc,v3⟩:=E8 h;have al:=as7 h;have ni:∀i,cw (cu v x) (dH v) i->a6 (cu v x) i≠x->bP v.mem (a6 (cu v x) i)=true:=λi hi ag=>iR.2 (E9 hi ag);have gO:∀i,cw (cu v x) (dH v) i->¬iF (a6 (cu v x) i):=λi hi h=>h;have jU:∀y,hJ x y->bP (iE v x).mem y=true:=λy e=>iR.2 ((v3 y).2 (.inr e));have ad9:∀ {Ms:List Mem} {aJ:List dr},vE v x dh Ms aJ->dh∈ (b9 Ms v.mem.length).cont:=λed=>by
  rcases ed.MJ with e|e;all_goals grind
 have Io: (⟨v.num+1,[]⟩:aK).num=(iE v x).num:=hc.symm;cases cJ with
 |e9 atg az au ae rG=>
  subst atg;subst au;obtain⟨dL,dW,O,eU,hj,iV⟩:=Uv (cb:=cb) (C:=iF) (J:=asZ) (V:=v) (k:=0) (fj:=0) (hi:=0) (β:=0) (uq:=1) (bH:=x) (hy:=λs l o=>s.status=0/\s.cont=[dh]/\o=[]) (mT:=λs o=>s.status=0/\s.cont=[dh]/\o=[⟨dh,.e6⟩]) jg dA aw gO
   (λi hi ag=>⟨0,0,bS _,bS _,bS _,az i hi ag⟩) (λf au=>by cases au) (λ_ h=>h.elim) (.inl rfl) (by decide) (.inl (by decide))
   (λi hi ag=>by rw[Nx h hi ag];grind) (λi hi ag s l o f bd _ _ _ _ au=>by cases au) (λi hi ag s l o bd _ _ _ _ b5 bU=>by omega) (λi hi ag s l o bd _ _ _ _ _ b5=>by
    obtain⟨i1,i2,i3⟩:=b5;rw[UB i1,i3];refine⟨i1,i2,?_⟩;unfold Nu
    grind)
  obtain⟨dc,dt,gy⟩:=hj _ Ct yo;have ed:vE v x dh (cZ cb (dH v) Ms []).1 (cZ cb (dH v) Ms []).2:=⟨dc,.inl dt,λy bk=>by
   rw[dt]at bk;refine⟨j5 x ⟨y,.e6⟩,(eU _).2 ⟨_,Ct,⟨y,.e6⟩,?_,by rw[yo]⟩,rfl,rfl,rfl⟩
   grind⟩
  have z8:∀f∈ (cZ cb (dH v) Ms []).2,jB v 0 (hJ x) (λ_=>False) (λ_=>False) f.src f.bj:=λf au=>by
   obtain⟨i,hi,p,an,rfl⟩:=(eU f).1 au;show jB v 0 (hJ x) _ _ (a6 (cu v x) i) p.bj;by_cases ag:a6 (cu v x) i=x
   ·rw[(hj i hi ag).2.2]at an;rw[eJ.1 an];exact ag
   ·obtain⟨_,_,_,ef,_⟩:=iV i hi ag;rcases ef p an with e| ⟨w,c,e,bw⟩
    ·rw[e];exact k0 _
    ·rw[e];exact bw
  have ath:∀i,cw (cu v x) (dH v) i->a6 (cu v x) i≠x->∀y∈v.mem,y≠a6 (cu v x) i->a6 (cu v x) i∈cQ v.mem y->¬iF y->∃f∈ (cZ cb (dH v) Ms []).2,f.src=y/\f.dst=a6 (cu v x) i/\f.bj= .ac v.num:=λi hi ag y bk ate aH _=>by
   obtain⟨j,aq,lY⟩:=Cu (x:=x) bk;obtain⟨⟨a,b,cH,a2,a3,Fc,mU⟩,ff,lX,oa,_⟩:=iV j aq (by rw[lY];exact wW h bk);have:=Ud (s:=b9 (cZ cb (dH v) Ms []).1 j) (x:=a6 (cu v x) i) (by grind);rw[mU]at this;exact⟨j5 (a6 (cu v x) j) ⟨a6 (cu v x) i,.ac v.num⟩,(eU _).2 ⟨j,aq,_,lX _ this,rfl⟩,lY,rfl,rfl⟩
  have cP:=as2 (C:=iF) (cY:=hJ x) (J:=hJ x) (V:=v) (k:=0) (bH:=x) (fj:=1) (.inl (by decide)) (by decide) (λi hi ag=>by
   obtain⟨⟨a,b,cH,a2,a3,Fc,mU⟩,_⟩:=iV i hi ag;exact⟨a,b,by omega,by omega,by omega,Fc,mU⟩) z8 ath (λi hi ag=>⟨E9 hi ag,λh=>h⟩) h.ab
  refine⟨dL,dW,.gH rfl ⟨cP.m,λf au=>adY (z8 f au),cP.ac,cP.hm⟩ (λi hi ag=> ?_) ed⟩;obtain⟨⟨a,b,cH,a2,a3,Fc,mU⟩,_⟩:=iV i hi ag;exact as1 Fc
 |gH ati cP aV ed=>
  subst ati;obtain⟨⟨hy,p3,mS,jp,pq⟩,s3,um⟩:=UC (T:=1) h ed (λf au w c e=>by
   have:=cP.hg f au;rw[e]at this;exact Nat.le_zero.1 this)
  have b1:=asq (Uj:=λ_=>False) (Nl (bA:=pr x) (C:=iF) (cY:=hJ x) (k:=0) (Ms:=Ms) (aJ:=aJ) (aO:=cu v x) (aF:=dH v) (bH:=x) h.ab (λi hi ag=>.inl (aV i hi ag))) (λ_ h=>h.elim);obtain⟨dL,dW,O,eU,hj,iV⟩:=E6 (cb:=cb) jg dA aw al cP b1 p3 mS jp pq s3 um (β:=0) ⟨by decide,λ⟨_,h⟩=>h.elim⟩;obtain⟨ie,lq⟩:=UD eU hj;refine⟨dL,dW,?_⟩;rcases iV with⟨dc,dt⟩|q
  ·have xO:Nt x (cZ cb (dH v) Ms aJ).2:=by
    obtain⟨i,hi,e⟩:=Cu (x:=x) kx;obtain⟨s,o,_,_,_,oa⟩:=dt i hi (by rw[e];exact wW h kx);obtain⟨⟨w,c,an⟩,_⟩:=oa (by rw[e];exact ed.e6 dh (ad9 ed));exact⟨j5 _ _,(eU _).2 ⟨i,hi,_,an,rfl⟩,rfl,w,c,rfl⟩
   obtain⟨_,g⟩:=ad6 (κ:=κ) h dc (UE dA) (λi hi ag=>by
    obtain⟨s,o,⟨fl,ff⟩,lX,_⟩:=dt i hi ag;exact⟨aV i hi ag,s,fl,ff,lX⟩)
   rcases g with g|g
   ·exact .DZ (.inl rfl) dc g ie (.inr ⟨rfl,xO⟩)
   ·exact .Fb (r:=12) (by decide) g ie (.inr xO)
  ·exact .db (by decide) q ie (.inl rfl)
 |DZ wV cP aV ed ai=>
  obtain⟨⟨hy,p3,mS,jp,pq⟩,s3,um⟩:=UC (T:=T) h ed (λf au w c e=>by
   have:=cP.hg f au;rw[e]at this;exact Nat.le_zero.1 this)
  have b1:=Nl (bA:=pr x) (C:=iF) (cY:=hJ x) (k:=0) (Ms:=Ms) (aJ:=aJ) (aO:=cu v x) (aF:=dH v) (bH:=x) h.ab (λi hi ag=>.inl (aV i hi ag));obtain⟨dL,dW,O,eU,hj,iV⟩:=E6 (cb:=cb) jg dA aw al cP b1 p3 mS jp pq s3 um (β:=1) ⟨bS _,λ_=>rfl⟩;obtain⟨ie,lq⟩:=UD eU hj;have oM:=lq (ai.imp id (λh=>h.2));refine⟨dL,dW,?_⟩;rcases iV with⟨dc,dt⟩|q
  ·obtain⟨wT,g⟩:=ad6 (κ:=κ) h dc (UE dA) (λi hi ag=>by
    obtain⟨s,o,⟨fl,ff⟩,lX,_⟩:=dt i hi ag;exact⟨aV i hi ag,s,fl,ff,lX⟩)
   rcases g with g|g
   ·rcases wV with rfl|rfl
    ·exact .DZ (.inr rfl) dc g ie (.inl oM)
    ·have atj:Cv v Ms:=ai.resolve_right λh=>absurd h.1 (by decide);refine .Fb (r:=12) (by decide) (.eE dc wT (atb h dc (UE dA) λi hi ag z uJ lT z3=> ?_) (by decide)) ie (.inl oM);obtain⟨s,o,_,_,_,oa⟩:=dt i hi ag;exact(oa (ed.e6 _ (by rw[show (b9 Ms v.mem.length).cont=v.mem from atj];exact E9 hi ag))).2 z uJ lT z3
   ·exact .Fb (r:=12) (by omega) g ie (.inl oM)
  ·exact .db (by omega) q ie (.inr ⟨rfl,oM⟩)
 | @Fb r ao cJ ed ai=>
  have kQ:∀f∈aJ,∀w c,f.bj= .hi w c->c.length=0:=λf au w c e=>by
   have:∃ho,jB v 0 (hJ x) (po iF (hJ x)) ho f.src f.bj:=by
    cases cJ with
    |eE cP _ _ _=>exact⟨_,cP.hg f au⟩
    |Nq cP _ _=>exact⟨_,cP.hg f au⟩
    |Cr cP _ _ _ _ _=>exact⟨_,cP.hg f au⟩
   obtain⟨ho,this⟩:=this;rw[e]at this;exact Nat.le_zero.1 this
  have jl:=k8 h.ab;obtain⟨dL,dW,O,eU,hj,iV⟩:=asU (cb:=cb) jg dA aw al eV (Ns h.ab) (λy bk=>by
   obtain⟨j,aq,e⟩:=Cu (x:=x) bk;exact⟨j,aq,by rw[e];exact wW h bk,e⟩) (by rw[Lw h.ab];omega) ni (by decide) (UC h ed kQ) cJ
  obtain⟨ie,lq⟩:=UD eU hj;have oM:=lq ai;refine⟨dL,dW,?_⟩;rcases iV with⟨eY,e,q⟩|q
  ·exact .Fb (r:=eY) (by omega) q ie (.inl oM)
  ·exact .db (by omega) q ie (.inr ⟨rfl,oM⟩)
 | @db β wV cP ed vD=>
  have kQ:∀f∈aJ,jB (iE v x) 1 (hJ x) (λ_=>False) (λ_=>False) f.src f.bj:=λf au=>adN (k:=0) hc (cP.hg f au);obtain⟨hy,p3,mS,jp,pq⟩:=ad5 (T:=T) h ed kQ;obtain⟨dL,dW,O,eU,hj,iV,Ui⟩:=asD (cb:=cb) jg dA aw al (β:=β) (by omega) cP (hy:=hy) (mT:=Nz v x dh aJ) p3 mS jp pq (λs o bX p an=>by
   rcases bX with⟨_,dt,_⟩| ⟨_,_,_,_,Fa⟩
   ·rw[dt]at an;obtain⟨m,_,rfl⟩:=fr.1 an;rfl
   ·rcases Fa p an with e| ⟨w,c,e,bw⟩
    ·rw[e];exact CA hc
    ·rw[e];exact bw)
  have z8:∀f∈ (cZ cb (dH v) Ms aJ).2,jB (iE v x) 1 (hJ x) (λ_=>False) (λ_=>False) f.src f.bj:=λf au=>as4 Io (Ui f au);refine⟨dL,dW,?_⟩;rcases ad8 (κ:=κ) (hi:=2) h dW eU hj (λi hi ag=>by
   grind) z8 with q| ⟨ie,_⟩
  ·exact q
  ·refine .NA (hi:=2) (β:=β+1) (by omega) (λi hi ag=> ?_) z8 ie ?_
   ·obtain⟨⟨a,b,cH,a2,y⟩,_⟩:=iV i hi ag;exact⟨a,b,bZ _,by omega,a2,y,UF h dW hi y⟩
   ·rcases vD with rfl| ⟨rfl,ai⟩
    ·simp
    ·right;refine⟨rfl,?_⟩;obtain⟨i,hi,ag,a,b,y,_⟩:=cP.eE;obtain⟨_,_,_,ef⟩:=iV i hi ag;obtain⟨w,c,an,af⟩:=ef ⟨a,b,y⟩ (ed.e6 _ (by rw[show (b9 Ms v.mem.length).cont=v.mem from ai];exact E9 hi ag));exact⟨j5 _ _,(eU _).2 ⟨i,hi,_,an,rfl⟩,rfl,w,c,rfl,af⟩
 | @NA hi β wV az kQ ed vD=>
  obtain⟨hy,p3,mS,jp,pq⟩:=ad5 (T:=T) h ed kQ;obtain⟨dL,dW,O,eU,hj,iV⟩:=Uv (cb:=cb) (C:=iF) (J:=hJ x) (V:=iE v x) (k:=1) (fj:=0) (hi:=hi) (β:=β) (uq:=β+1) (bH:=x) (hy:=hy) (mT:=Nz v x dh aJ) jg dA aw gO az kQ jU (.inl rfl) (by omega) (.inr λ_ _ h=>h) p3 mS jp pq;have z8:∀f∈ (cZ cb (dH v) Ms aJ).2,jB (iE v x) 1 (hJ x) (λ_=>False) (λ_=>False) f.src f.bj:=λf au=>by
   obtain⟨i,fE,p,an,rfl⟩:=(eU f).1 au;show jB _ 1 (hJ x) _ _ (a6 (cu v x) i) p.bj;have wT:p.bj= .ac (iE v x).num\/(∃w c,p.bj= .hi w c/\c.length<=1)\/(p.bj= .e6/\a6 (cu v x) i=x):=by
    by_cases ag:a6 (cu v x) i=x
    ·rcases hj i fE ag with⟨_,dt,_⟩| ⟨_,_,_,_,Fa⟩
     ·rw[dt]at an;obtain⟨m,_,rfl⟩:=fr.1 an
      grind
     grind
    grind
   rcases wT with e| ⟨w,c,e,bw⟩| ⟨e,ag⟩
   ·rw[e];exact k0 _
   ·rw[e];exact bw
   ·rw[e];exact ag
  refine⟨dL,dW,?_⟩;rcases ad8 (κ:=κ) (hi:=hi+1) h dW eU hj (λi fE ag=>by
   grind) z8 with q| ⟨ie,lq⟩
  ·exact q
  ·rcases vD with vD| ⟨_,h1⟩
   ·refine .NA (hi:=hi+1) (β:=β+1) (by omega) (λi fE ag=> ?_) z8 ie ?_
    ·grind
    ·by_cases aQ:β+1<=1
     ·omega
     ·right;refine⟨by omega,?_⟩;obtain⟨i,fE,e⟩:=Cu (x:=x) kx;obtain⟨_,_,_,_,np⟩:=iV i fE (by rw[e];exact wW h kx);obtain⟨w,c,an,af⟩:=np (by rw[e];exact ed.e6 dh (ad9 ed));exact⟨j5 _ _,(eU _).2 ⟨i,fE,_,an,rfl⟩,rfl,w,c,rfl,af⟩
   grind
 | @nz hi az kQ Uy=>
  have aQ:∀i,cw (cu v x) (dH v) i->a6 (cu v x) i≠0:=λi fE=>by
   have:=h.id.1;by_cases ag:a6 (cu v x) i=x
   ·omega
   ·exact as3 h.ab (E9 fE ag)
  obtain⟨dL,dW,O,eU,hj,iV⟩:=Uv (cb:=cb) (C:=iF) (J:=hJ x) (V:=iE v x) (k:=1) (fj:=0) (hi:=hi) (β:=3) (uq:=3) (bH:=0) (hy:=λ_ _ _=>False) (mT:=λ_ _=>False) jg dA aw gO (λi fE _=>az i fE) kQ jU (.inr ⟨rfl,λi fE _=>Uy i fE⟩) (by decide) (.inr λ_ _ h=>h)
   (λi hi e=>absurd e (aQ i hi)) (λi hi e=>absurd e (aQ i hi)) (λi hi e=>absurd e (aQ i hi)) (λi hi e=>absurd e (aQ i hi))
  refine⟨dL,dW,ad7 (hi:=hi+1) h dW eU (λi fE=> ?_) (λf au=> ?_)⟩
  ·grind
  ·obtain⟨i,fE,p,an,rfl⟩:=(eU f).1 au;obtain⟨_,_,_,ef,_⟩:=iV i fE (aQ i fE);show jB _ 1 (hJ x) _ _ (a6 (cu v x) i) p.bj;rcases ef p an with e| ⟨w,c,e,bw⟩
   ·rw[e];exact k0 _
   ·rw[e];exact bw
theorem atk(cJ:Cw v x dh κ (40+8* (v.mem.length+1)) Ms aJ):∀i,i<v.mem.length+1->(b9 Ms i).status=1/\(b9 Ms i).view=iE v x:=λi hi=>by
 cases cJ with
 |e9 aw=>omega
 |gH aw=>omega
 |DZ aw=>omega
 |Fb aw=>omega
 |db aw=>omega
 |NA aw _ _ _ vD=>omega
 |nz az _ _=>
  obtain⟨a,b,_,_,_,y,mU⟩:=az i (Cs.2 hi);exact⟨y.b4,mU⟩
theorem atl{l:List Mem}(h: (l.map (·.self)).Nodup):∀i j (hi:i<l.length) (aq:j<l.length),i≠j->l[i].self≠l[j].self:=λi j hi aq fV e=>by
 refine fV ((CG (i:=i) (j:=j) (h₀:=by grind) (h₁:=by grind) h).1 ?_)
 grind
def sb(x dh:Int):Mem:={dv with self:=x,cont:=[dh]}
theorem atm(h:mV v x)(kx:dh∈v.mem):zF x [dh]=(sb x dh,0)/\od (pr x) v (cu v x) (dH v) 0 (v.mem.map (nN v 0 nM)++ [sb x dh]) []/\Cw v x dh κ 0 (v.mem.map (nN v 0 nM)++ [sb x dh]) []:=by
 have af:=k8 h.ab;have gS:mq x=true:=by
  have:=h.id;unfold mq
  grind
 have wg:=HP (lD h.ab).2.2 dh kx;have ye:dF [dh] 16=true:=nE.2 ⟨⟨by simp,by simp⟩,by simp,λy bk=>by grind⟩;have Um:bP [dh] x=false:=Nv λe=>wW h kx (eJ.1 e).symm;have aea: (v.mem.map (nN v 0 nM)++ [sb x dh]).map (·.self)=cu v x:=by
  rw[ew,oU];show List.map id v.mem++ [x]=_;rw[CJ];rfl
 have hlen: (v.mem.map (nN v 0 nM)++ [sb x dh]).length=v.mem.length+1:=by simp
 have jm:∀i (hi:i<v.mem.length),(v.mem.map (nN v 0 nM)++ [sb x dh])[i]'(by omega)=nN v 0 nM v.mem[i]:=λi hi=>by
  grind
 have sR: (v.mem.map (nN v 0 nM)++ [sb x dh])[v.mem.length]'(by omega)=sb x dh:=by simp
 refine⟨?_,⟨⟨⟨v,[],λ_=>r7⟩,rfl,⟨(acW h.ab h.aV kx).1,λi hi=> ?_,atl (by rw[aea];exact ad0 h),(λf au=>by cases au),λa _ k _=>MP _ _⟩⟩,aea,by rw[hlen];simp[dH],by have:=h.bs;omega,?_,(λf au=>by cases au)⟩,?_⟩
 ·unfold zF sb
  grind
 ·by_cases ek:i<v.mem.length
  ·rw[jm i ek];exact(acW (bA:=pr x) h.ab h.aV (eD ek)).2
  ·have e:i=v.mem.length:=by omega
   subst e;rw[sR];exact .inr (.inl ⟨gS,rfl,ye,Um,λk _=>MP _ _⟩)
 ·have:=acQ (v.mem.map (nN v 0 nM)++ [sb x dh]);simp only[kH,w3,List.sum_nil];omega
 ·have tq:b9 (v.mem.map (nN v 0 nM)++ [sb x dh]) v.mem.length=sb x dh:=by
   rw[Cm (by omega)];simp
  refine .e9 rfl (λi hi ag=> ?_) rfl (by rw[tq];rfl) (by rw[tq];rfl);have ek:i<v.mem.length:=by
   have h1:=Cs.1 hi;refine qH λaV=>ag ?_;rw[show i=v.mem.length by omega];exact yo
  rw[Cm (by omega),jm i ek];have cS:=iR.2 (eD ek);have h1:=Mg (v:=v) (self:=v.mem[i]) (by rw[h.ab,cS];rfl);rw[SE h.ab cS]at h1;have ad:nN v 0 nM v.mem[i]=eR {dv with self:=v.mem[i],first:=v} v:=(Prod.mk.inj h1).1;rw[ad];have:=IJ (C:=iF) (s:={dv with self:=v.mem[i],first:=v}) h.ab cS;refine⟨this,?_⟩;rw[vo (s:={dv with self:=v.mem[i],first:=v}) cS]
end
theorem atn(n:Nat)(aV:n<=1000):bq Tryz.prog 17 [i64 n] (i64 ((40+8*n:Nat))):=by
 refine cp (fn:=Tryz.f17) (c:=Tryz.f17.body.getD .skip) az aw (by rfl) Tryz.func17 (by rfl) (by rfl) (by rfl) (by rfl) ?_;repeat' ((conv=>whnf);first|refine bl ?_|fail)
 all_goals(conv=>whnf)
 refine a8 ?_;rw[dQ (n:=8* (n:Int)) (by omega) (by omega),dQ (by omega) (by omega)];omega
theorem ato(n:Nat)(h:n<=65535):IntKind.i64.wrap (1+(IntKind.i64.wrap (n:Int)).tmod 1000)=((1+n%1000:Nat):Int):=by
 rw[dQ (n:=(n:Int)) (by omega) (by omega),show (1000:Int)=((1000:Nat):Int) from rfl,<-Int.ofNat_tmod,dQ (by omega) (by omega)];omega
theorem atp(Ms:List Mem)(af:Ms.length<=1000)(aF:List Bool)(aa:aF.length<=1000)(x:Int)(c:List Int)(al:c.length<=1000)(s:Mem)(aq:zF x c=(s,0)):
  cj Tryz.prog 11 [.cells 32 [.own 1,.own 2,.ar],.row 55 29 (Ms.map cv),.row 4 1 (aF.map iJ)] [.aW 0 0,i64 x,.av 1 (c.map aU) false] [true,false,false] [.cells 32 [.own 4,.own 5,.ar],.gone,.gone,.bn,.row 55 29 ((Ms++ [s]).map cv),.row 4 1 ((aF++ [false]).map iJ)] (.be []):=by
 have aA:=aa2 x c al;rw[aq]at aA;refine tG (fn:=Tryz.f11) (c:=Tryz.f11.body.getD .skip) az aw (by rfl) Tryz.func11 (by rfl) (by rfl) (by rfl) (by rfl) (by rfl) ?_;repeat' ((conv=>whnf);first|refine ch ?_|refine aR aA ?_|refine aS (abk (by simp<;>omega)) ?_|refine aS (abl (by simp<;>omega)) ?_|refine Exists.intro false ?_|fail)
 all_goals(conv=>whnf)
 refine⟨[.fresh 55 29,.eT 1 7,.eT 4 7,.nS 1,.fresh 4 1,.eT 2 8,.eT 5 8,.nS 2],?_⟩;conv=>whnf
 exact⟨.r,⟨.r,.r,.r,gV ⟨.r,.aY,.aY,aj⟩,cM (by rw[ew];rfl),cM (by rw[ew];rfl),aj⟩,by rfl⟩
theorem atq(Ms:List Mem)(af:Ms.length<=1000)(aF:List Bool)(aa:aF.length<=1000)(x:Int)(c:List Int)(al:c.length<=1000)(s:Mem)(aq:zF x c=(s,0)):
  cj Tryz.prog 11 [.cells 32 [.own 1,.own 2,.ar],.row 55 29 (Ms.map cv),.row 4 1 (aF.map iJ)] [.aW 0 0,i64 x,.av 1 (c.map aU) false] [true,false,false] [.cells 32 [.own 3,.own 4,.ar],.gone,.gone,.row 55 29 ((Ms++ [s]).map cv),.row 4 1 ((aF++ [false]).map iJ)] (.be []):=
 cj.y8 (L1:=[.cells 32 [.own 4,.own 5,.ar],.gone,.gone]) (wE:=[.row 55 29 ((Ms++ [s]).map cv),.row 4 1 ((aF++ [false]).map iJ)]) (atp Ms af aF aa x c al s aq) (bS _)
theorem atr(v:aK)(jl:v.mem.length<=maxLen)(id:Nat)(gS:id<=65535)(c:Nat)(al:c<=255):bq Tryz.prog 5 [.agg (cG v),.v (.int .u16 id),.v (.int .u8 c)] (.v (.bool true)):=by
 have aA:=Yt v jl;have cP:=ato id gS;obtain⟨x,ag⟩:∃x:Int,x=((1+id%1000:Nat):Int):=⟨_,rfl⟩
 rw[<-ag]at cP;have yW:1<=x/\x<=1000:=by omega
 have aG:=Ys v.mem jl x;refine fX Tryz.func5 ?_;repeat' ((conv=>whnf);first|refine bl ?_|refine aS (by decide) ?_| (apply bo<;>intro h)|exact .refl|refine dE ?_|refine aR aoB ?_|refine aR aA ?_|refine⟨[.av 1 (v.mem.map aU) false,i64 x],_,aS ⟨.r,a8 cP,aj⟩ (aS (λ_=>aG) ?_)⟩|fail)
 all_goals(conv=>whnf)
 have IK:b2 v=true/\v.mem.length<=4/\v.num<=1000/\bP v.mem x=false:=by
  simp only[iW,mw,ib,bL]at h;exact⟨h.1.1.1,by omega,by omega,h.2⟩
 clear h;obtain⟨ab,bs,Io,yb⟩:=IK;have b1:mV v x:=⟨ab,Io,bs,yW,λaz=>by rw[iR.2 az]at yb;cases yb⟩
 have hL:=(k8 ab).1;have aeb:=aoI v ab;refine .inr ⟨[],bO aeb ?_⟩;repeat' ((conv=>whnf);first|refine bl ?_|fail)
 all_goals(conv=>whnf)
 have bx: (((v.mem.map aU).length:Nat):Int)≠0:=by rw[bL];omega
 have hS:c%v.mem.length<v.mem.length:=uw _ (by omega);have ats: (IntKind.i64.wrap (c:Int)).tmod (((v.mem.map aU).length:Nat):Int)=((c%v.mem.length:Nat):Int):=by
  rw[bL,dQ (n:=(c:Int)) (by omega) (by omega),<-Int.ofNat_tmod]
 generalize c%v.mem.length=k at *;have mF:k<=(v.mem.map aU).length:=by rw[bL];omega
 repeat' ((conv=>whnf);first|refine aS bx ?_|refine⟨k,aS ⟨⟨_,e7 (λz=>ak.v (.int .i64 z)) ats⟩,mF⟩ ?_⟩|fail)
 all_goals(conv=>whnf)
 have nb:1<=((v.mem.map aU).drop k).length:=by rw[ru,bL];omega
 have kx:v.mem[k]∈v.mem:=eD hS;have att: (((v.mem.map aU).drop k).take 1).drop 0=[v.mem[k]].map aU:=by
  rw[List.drop_zero,vK (by rw[bL];exact hS),Ae];rfl
 generalize v.mem[k]=dh at *;obtain⟨κ,eV⟩:=as8 b1;obtain⟨gH,s2,xJ⟩:=atm (κ:=κ) b1 kx;have aec:=atq (v.mem.map (nN v 0 nM)) (by rw[bL];omega) (List.replicate v.mem.length false) (by rw[CH];omega) x [dh] (by simp) (sb x dh) gH;refine⟨0,1,aS ⟨rfl,⟨_,rfl⟩,bZ _,nb⟩ ?_⟩;repeat' ((conv=>whnf);first|refine ch ?_|refine .inr ⟨[3,1,2],_,_,_,_,_,aec,by rfl,⟨.r,.r,.r,aj⟩,⟨.r,a8 cP,jI att,aj⟩,?_⟩|fail)
 all_goals(conv=>whnf)
 have xI:List.replicate v.mem.length false++ [false]=dH v:=by
  unfold dH;rw[I8]
 rw[xI];have NB:IntKind.i64.wrap ((((v.mem.map aU).length:Nat):Int)+1)=((v.mem.length+1:Nat):Int):=by
  rw[bL,dQ (by omega) (by omega)];omega
 have yc:=atn (v.mem.length+1) (by omega);refine⟨Nat×List Mem×List dr,λY=>⟨[(3,.aW 0 0),(7,i64 x),(8,.aW 3 0),(9,i64 Y.1)],[.cells 24 (cG v),.gone,.gone,.cells 32 (pX 4 5 6),.row 55 29 (Y.2.1.map cv),.row 4 1 ((dH v).map iJ),.row 82 3 ((Y.2.2.map oO).map l2)]⟩,λY=>Y.1<=40+8* (v.mem.length+1)/\od (pr x) v (cu v x) (dH v) Y.1 Y.2.1 Y.2.2/\Cw v x dh κ Y.1 Y.2.1 Y.2.2,λY=>40+8* (v.mem.length+1)-Y.1,[.cell 3 2 82 3],⟨(0,v.mem.map (nN v 0 nM)++ [sb x dh],[]),⟨bZ _,s2,xJ⟩,?_⟩,?_⟩
 ·conv=>whnf
  exact⟨⟨.r,a8 cP,.r,.r,aj⟩,⟨.r,.r,.r,.r,.r,.r,.r,aj⟩,by rfl⟩
 ·intro (t,Ms,aJ) ⟨cI,NC,cJ⟩;simp only[]at cI NC cJ;clear gH s2 xJ;by_cases tu:t<40+8* (v.mem.length+1)
  ·have aed:decide ((t:Int)<((40+8* (v.mem.length+1):Nat):Int))=true:=e4 (by omega);obtain⟨atu,ad,aN⟩:=atf (cb:=λ_ _=>false) (λ_ _=>rfl) b1 kx eV NC (by omega) cJ;have cn:=aq2 0 (λ_ _=>false) (λf t au cI=>aoG f t au cI) (dH v) Ms aJ atu;generalize cZ (λ_ _=>false) (dH v) Ms aJ=R at *;repeat' ((conv=>whnf);first|refine ht (by assumption) ?_|refine .inl ⟨[i64 ((v.mem.length+1:Nat))],_,⟨a8 NB,aj⟩,yc,?_⟩|refine .inr ⟨[3,4,5,6],bO cn ?_⟩|fail)
   all_goals(conv=>whnf)
   refine⟨(t+1,R.1,R.2),⟨tu,ad,aN⟩,by simp only[];omega,?_⟩;conv=>whnf
   exact⟨⟨.r,.r,.r,a8 (ca (by omega)),aj⟩,⟨.r,.r,.r,.r,.r,.r,.r,aj⟩,by rfl⟩
  ·have aed:decide ((t:Int)<((40+8* (v.mem.length+1):Nat):Int))=false:=c5 (by omega);have mf:t=40+8* (v.mem.length+1):=by omega
   subst mf;have KY:=atk cJ;have hlen:Ms.length=v.mem.length+1:=by
    have:=ul NC;simpa[cu]using this.symm
   obtain⟨eW,hc,v3⟩:=E8 b1;have atv:=as6 b1;have atw:bP (iE v x).mem x=true:=iR.2 ((v3 x).2 (.inr rfl));repeat' ((conv=>whnf);first|refine ft (by assumption) ?_|refine .inl ⟨[i64 ((v.mem.length+1:Nat))],_,⟨a8 NB,aj⟩,yc,?_⟩|fail)
   all_goals(conv=>whnf)
   clear NC cJ b1 yc aeb aec aed eW v3 eV aA aG;generalize iE v x=V at *;have aee:=Ys V.mem (bT (show V.mem.length<=5 by omega) (by decide)) x;rw[atw]at aee;refine⟨Nat,λj=>⟨[(3,.aW 0 0),(7,i64 x),(8,.aW 3 0),(10,i64 j)],[.cells 24 (cG v),.gone,.gone,.cells 32 (pX 4 5 6),.row 55 29 (Ms.map cv),.row 4 1 ((dH v).map iJ),.row 82 3 ((aJ.map oO).map l2)]⟩,λj=>j<=Ms.length,λj=>Ms.length-j,[],⟨0,bZ _,?_⟩,?_⟩
   ·conv=>whnf
    exact⟨⟨.r,.r,.r,.r,aj⟩,⟨.r,.r,.r,.r,.r,.r,.r,aj⟩,by rfl⟩
   ·intro j aq;by_cases iv:j<Ms.length
    ·have atx:decide ((j:Int)<((Ms.map cv).length:Int))=true:=by rw[bL];exact e4 (by omega)
     have gD:j<(Ms.map cv).length:=by rw[bL];exact iv
     have cL: (Ms.map cv)[j]?=some (cv Ms[j]):=du iv;obtain⟨bU,q4⟩:=KY j (by omega);rw[Cm iv]at bU q4;generalize Ms[j]=m at *;obtain⟨xp,JT,VC,aty,atz,atA,atB,atC,atD,atE⟩:=m;simp only[]at bU q4;subst bU;subst q4;repeat' ((conv=>whnf);first|refine bl ?_|refine ht (by assumption) ?_|refine dE ?_|refine⟨j,aS ⟨rfl,gD⟩ ?_⟩|refine⟨cv ⟨xp,1,VC,aty,atz,atA,atB,atC,atD,atE⟩,aS cL ?_⟩|refine ea aee ?_| (apply bo<;>intro h)|fail)
     all_goals(conv=>whnf)
     ·exfalso;have nU:=(lD ab).1;have atF:IntKind.i64.wrap (v.num+1)=v.num+1:=dQ (by omega) (by omega);simp only[bL]at h NB;rw[NB,atF]at h;simp[atv,hc]at h
     ·refine⟨j+1,iv,by simp only[];omega,?_⟩;conv=>whnf
      exact⟨⟨.r,.r,.r,a8 (ca (by omega)),aj⟩,⟨.r,.r,.r,.r,.r,.r,.r,aj⟩,by rfl⟩
    ·have atx:decide ((j:Int)<((Ms.map cv).length:Int))=false:=by rw[bL];exact c5 (by omega)
     repeat' ((conv=>whnf);first|refine ft (by assumption) ?_|exact .refl|fail)
theorem atG(wC:List ak)(h:KR ah 6 [24,63,5] wC):bq Tryz.prog 5 wC (.v (.bool true)):=by
 obtain⟨cH,_,rfl,h1,a2,_,rfl,⟨D,rfl,rN⟩,a3,_,rfl,⟨E,rfl,cP⟩,rfl⟩:=h;obtain⟨v,rfl,ab⟩:=aiS (n:=3) h1;have ac:=bounds_u16 (by exact rN);have gG:=bounds_u8 (by exact cP);obtain⟨n,rfl⟩:=p5 ac.1;obtain⟨m,rfl⟩:=p5 gG.1;exact atr v ab n (by omega) m (by omega)
end Go.Proofs.YtdcfooeoaoahjaaGreat
