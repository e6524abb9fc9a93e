/- A data-level logic for the model: what a body does to data; its soundness (part LfB). No conditions. -/
import Derived.Test.YtdcfooeoaoahjaaGreatLfA
set_option linter.unusedSimpArgs false
set_option linter.unusedVariables false
set_option maxRecDepth 100000
set_option maxHeartbeats 16000000
namespace Go.Lift
open Go
section
variable {P:Program} {ah:dJ} {aD:Nat->Prop} {ba:e8} {n:Nat} {os:c3} {s:bJ} {a:Act} {w:World} {o:Oper} {K:bJ->Prop} {A:Nat->Prop} {B:Nat}
theorem V8:∀ (l:List Operand) {os:c3} {s:bJ} {K:bJ->Prop},cd aD ba n os s a w->Oh s l K->∃aP s',cd aD ba n aP s' a w/\K s'
 | [],os,s,K,h,ap=>⟨os,s,h,ap⟩
 |x::r,os,s,K,h,ap=>by
  obtain⟨aP,s',bp,ap,_,_⟩:=xv _ h (ir.1 ap);exact V8 r bp ap
theorem hU.set{cells cells':List Value}{es:List (List ak)}{ay k off:Nat}{vs:List Value}{gb ds:List ak}(h:hU A w cells es ay)(hk:es[k]?=some gb)(au:off+vs.length<=ay)(jl:vs.length=ds.length)(br:∀v∈vs,v.oneCell'=true)
  (an:∀ (i:Nat) v d,vs[i]?=some v->ds[i]?=some d->b7 A w v d) (hlen:cells'.length=cells.length) (al:∀j,cells'[j]?=if k*ay+off<=j/\j<k*ay+off+vs.length then vs[j- (k*ay+off)]? else cells[j]?):
  hU A w cells' (es.set k (jC gb off ds)) ay:=by
 have hS:=(eI.1 hk).1;have rK:=h.jS _ (fq hk);refine⟨by rw[hlen,h.len];simp,λr ao=> ?_,λv ab=> ?_,λeO j r d hq aq=> ?_⟩
 ·rcases List.mem_or_eq_of_mem_set ao with ao|rfl
  ·exact h.jS r ao
  ·rw[JE];omega
 ·obtain⟨j,aq,rfl⟩:=fv ab;have h1:=eN aq;rw[al j]at h1;split at h1
  ·grind
  ·exact h.eE _ (fq h1)
 ·by_cases e:eO=k
  ·subst e;rw[oT hS]at hq;cases hq;have iv:=(eI.1 aq).1;rw[JE]at iv;rw[JF _ _ _ _ (by omega)]at aq;rw[al];split at aq
   ·rename_i c;rw[b3 (by omega)];have afa:j-off<vs.length:=by omega
    refine⟨vs[j-off],?_,an _ _ d (eN afa) aq⟩
    grind
   ·rename_i c;rw[bm (by omega)];exact h.hr eO j gb d hk aq
  ·rw[vL (λe'=>e e'.symm)]at hq;have gY:=h.jS _ (fq hq);have iv:=(eI.1 aq).1;rw[al];rw[bm ?_]
   ·exact h.hr eO j r d hq aq
   ·intro c;rcases Nat.lt_or_gt_of_ne e with aB|aB
    ·have h1: (eO+1) *ay<=k*ay:=kI _ (by omega)
     grind
    ·have h1: (k+1) *ay<=eO*ay:=kI _ (by omega)
     grind
theorem J9{ρ:Operand->ak}{size:Nat}{K:List (List ak)->Prop}(fF:0<size):
  ∀ (parts:List (Nat×Operand)) (es:List (List ak)) (cells:Array Value),hU A w cells.toList es size->(∀p∈parts,bg A os w (a.eval p.2) (ρ p.2))->tk ρ size parts es K->
   ∃cells' fK,K fK/\Instr.fill (λi=>some (i*size,size)) cells (parts.map λp=>(p.1,a.eval p.2))=some cells'/\hU A w cells'.toList fK size/\fK.length=es.length
 | [],es,cells,ao,_,h=>⟨cells,es,h,by rfl,ao,rfl⟩
 | (i,x)::r,es,cells,ao,ag,h=>by
  have pD:=ag (i,x) (by simp);have h:=ir.1 h;split at h
  ·rename_i ac;simp only[cq]at ac;obtain⟨⟨cX,c0⟩,iu⟩:=ac;have cX:=fB cX;have c0:i<es.length:=nw c0;have eF:=AH iu;have xx:∀b ck,ρ x≠ .b8 b ck:=by
    intro b ck e;have:=eF (.b8 b ck) (by rw[e];simp[dn]);simp[qM]at this
   have Dz:∀l,ρ x≠ .be l:=by
    intro l e;have:=eF (.be l) (by rw[e];simp[dn]);simp[qM]at this
   have Gg:ρ x≠ .aY:=by
    intro e;have:=eF .aY (by rw[e];simp[dn]);simp[qM]at this
   obtain⟨af,br,an⟩:=bg.cells pD xx Dz Gg;have cC: (a.eval x).cells.size=size:=by grind
   have VD:cells.size=es.length*size:=by rw[<-ao.len];simp
   have cS: (i+1) *size<=es.length*size:=kI _ (by omega);rw[uv,Fw]at cS;have xy:es[i]?=some es[i]:=eN c0;have rK:=ao.jS _ (fq xy);have atW:=λj=>(F6 (a.eval x).cells.toList 0 (i*size) cells j (by grind)).1;have lQ:=(F6 (a.eval x).cells.toList 0 (i*size) cells 0 (by grind)).2;have atX: ((a.eval x).cells.zipIdx.foldl (λ(cs:Array Value) (p:Value×Nat)=>cs.setIfInBounds (i*size+p.2) p.1) cells)=((a.eval x).cells.toList.zipIdx 0).foldl (λ(cs:Array Value) (p:Value×Nat)=>cs.setIfInBounds (i*size+p.2) p.1) cells:=by
    rw[<-ND];simp
   have afb:jC es[i] 0 (dn (ρ x))=dn (ρ x):=by
    apply rr;intro j;rw[JF _ _ _ _ (by omega)]
    grind
   have mb:=ao.set (cells':=((a.eval x).cells.zipIdx.foldl (λ(cs:Array Value) (p:Value×Nat)=>cs.setIfInBounds (i*size+p.2) p.1) cells).toList) (off:=0) xy (by grind) af br
    (λj v d ab aa=>(bg.plain (an j v d ab aa) (eF d (fq aa))).2) (by grind) (λj=>by
     grind)
   rw[afb]at mb;obtain⟨cells',fK,ap,qe,kO,hlen⟩:=J9 fF r _ _ mb (λp an=>ag p (by grind)) h;refine⟨cells',fK,ap,?_,kO,by grind⟩;simp only[oi,Instr.fill]
   grind
  grind
theorem afc(aw:dw P ah=true){t e:TypeId}{m:Nat}{parts:Array (Nat×Operand)}{Q:Exit->Act->World->Prop}(aH:o.op= .buildSlice t m parts)(hk: (aE ah t).k= .fb e)(ae: (aE ah e).size≠0)(hle:m* (aE ah e).size<=16777216)
  (h:cd aD ba n os s a w) (aa:∀t,o.dst=some t->t<n) (ap:tk (bF s) (aE ah e).size parts.toList (List.replicate m (aE ah e).zero) λes=>gp ⟨s.env,s.loc++ [.row e (aE ah e).size es]⟩ o.dst (.own s.loc.length) K):o.wp P a w (dM aD ba n K) Q:=by
 obtain⟨i,hi,cC,iZ,z,bt,nT,nf⟩:=rF aw ae;have hu:=lL aw hk;obtain⟨h1,ad,aN⟩:=uK (A:=bh aD os) (w:=w) nT;have wg:qW (bh aD os) os w z.cells (aE ah e).zero:=⟨by omega,ad,λi v d ab aa=>.bQ (aN i v d (by grind) aa)⟩
 have fF:=ta ae;have fm:=Ge (N:=m) (m:=m) wg (λi v d ab aa=>aN i v d (by grind) aa) (by omega) (bS _);rw[nf]at fm;have tq: (madeCells z.cells (m* (aE ah e).size)).toList.length=m* (aE ah e).size:=(Cx (xs:=madeCells z.cells (m* (aE ah e).size))).trans (CQ _ _);rw[w5 (by omega)]at fm;obtain⟨cells',fK,ap,qe,kO,hlen⟩:=J9 fF parts.toList _ _ fm (λp _=>h.bF p.2) ap;rw[CH]at hlen;have lN:cells'.size=m* (aE ah e).size:=by have:=kO.len;grind
 have az:m<=maxLen:=by
  have ad:m*1<=m* (aE ah e).size:=Jd _ fF;simp only[maxLen];omega
 have b0:=N5 (base:=0) (e:=e) (size:=(aE ah e).size) w cells' m (bZ _) az lN;have an:=Dt (x:=.slice (some ⟨w.heap.size,0,none⟩) m m) (es:=fK) h (uy w (.cells cells' e) none) (λb ac=>by simp[bI]at ac;omega) (by rw[hlen];omega) fF kO;refine jG (x:=.slice (some ⟨w.heap.size,0,none⟩) m m) (w':=w.alloc (.cells cells' e)) ?_ (dM.put an aa (by rw[h.len];exact .own yO rfl) ap);have uM: (parts.map λ(i,x)=>(i,a.eval x)).toList=parts.toList.map λp=>(p.1,a.eval p.2):=by simp
 have yR:¬(m* (aE ah e).size>2^24):=by omega
 by_cases uS:m* (aE ah e).size=0
 ·have yS:Instr.fill (λi=>some (i* (aE ah e).size,(aE ah e).size)) (madeCells #[] (m* (aE ah e).size)) (parts.toList.map λp=>(p.1,a.eval p.2))=some cells':=by
   rw[<-qe];congr 1;rw[uS];simp[madeCells]
  simp only[execOp,aH,Instr.buildSlice,dX,gz hu,dT,jT aw ae,bm yR,b3 uS,ex,uM];simp only[madeCells]at yS;simp only[yS,dX,newRow,vQ,dT,ex,vO]
 ·have uT: (zeroValue e).run P w= .ok z w:=by simp[zeroValue,typeInfo,hi,bt]
  simp only[madeCells]at qe;simp only[execOp,aH,Instr.buildSlice,dX,gz hu,dT,jT aw ae,bm yR,bm uS,uT,ex,uM];simp only[qe,dX,newRow,vQ,dT,ex,vO]
theorem afd{i:Nat}{x:Value}{bC gN:aX}(hi:os[i]?=some (x,bC))(hk:en bC gN):uI os (os.set i (x,gN)):=by
 intro j z aT aq;by_cases e:j=i
 ·grind
 ·exact⟨aT,by grind,by cases aT<;>simp[en]⟩
theorem Ka{w':World}{i:Nat}{x:Value}{bC gN:aX}(hi:os[i]?=some (x,bC))(aa:bC≠ .bn)(ax:w.grownBy w' (bI x)):dy (bh aD os) (bh aD (os.set i (x,gN))) w w':=by
 refine⟨ax.size,λb ac ab=> ?_,λb ac aV=>ax.block b ac (λe=>aV (.inr ⟨i,_,_,hi,aa,e.symm⟩))⟩;rcases ab with ab| ⟨j,z,aT,aq,dq,cx⟩
 ·exact .inl ab
 ·by_cases e:j=i
  ·subst e;rw[oT (eI.1 hi).1]at aq;cases aq;exact .inr ⟨_,_,_,hi,aa,cx⟩
  ·rw[vL (λe'=>e e'.symm)]at aq;exact .inr ⟨j,z,aT,aq,dq,cx⟩
theorem afe(aw:dw P ah=true){t ty:TypeId}{x y:Operand}{i k off g m c ay:Nat}{es:List (List ak)}{gb:List ak}{d:ak}{Q:Exit->Act->World->Prop}(aH:o.op= .store t x y)(h:cd aD ba n os s a w)(aa:∀t,o.dst=some t->t<n)
  (ae: (aE ah t).size≠0) (ag:a.eval x= .pointer (some ⟨g,k*ay+off,none⟩)) (hi:os[i]?=some (.slice (some ⟨g,0,none⟩) m c,.row ty ay es)) (e:bF s y=d) (eF:pv (dn d)=true) (xy:es[k]?=some gb)
  (cC: (dn d).length=(aE ah t).size) (hA:off+(dn d).length<=ay) (ap:gp ⟨s.env,gq s.loc i (.row ty ay (es.set k (jC gb off (dn d))))⟩ o.dst (.b8 false (.v (.bool false))) K):o.wp P a w (dM aD ba n K) Q:=by
 have Dx:=AH eF;have bk:=h.bF y;rw[e]at bk;have xx:∀b ck,d≠ .b8 b ck:=by
  intro b ck e;subst e;have:=Dx (.b8 b ck) (by simp[dn]);simp[qM]at this
 have Dz:∀l,d≠ .be l:=by
  intro l e;subst e;have:=Dx (.be l) (by simp[dn]);simp[qM]at this
 have Gg:d≠ .aY:=by
  intro e;subst e;have:=Dx .aY (by simp[dn]);simp[qM]at this
 obtain⟨af,br,an⟩:=bk.cells xx Dz Gg;obtain⟨xs,b0,Gh,ao⟩:=wa (h.cW _ _ _ hi);rcases b0.2 with⟨ab,_⟩| ⟨dV,cap,cur,ab,ct,bw,rJ,qf,lN,J1⟩
 ·cases ab
 ·cases ab;have hK: (a.eval y).cells.size=(dn d).length:=by omega
  have hS:=(eI.1 xy).1;have h1: (k+1) *ay<=es.length*ay:=kI _ (by omega);rw[uv,Fw]at h1;have ad:es.length*ay<=c*ay:=kI _ rJ;have Gb:k*ay+off+(a.eval y).cells.toList.length<=cur.toList.length:=by grind
  have eo:=VR (P:=P) (w:=w) aw aH ae ag (by omega) br bw (by omega);have ax:w.grownBy (w.setRow g (cur.toList.take (k*ay+off)++(a.eval y).cells.toList++cur.toList.drop (k*ay+off+(a.eval y).cells.toList.length)).toArray) (bI (.slice (some ⟨g,0,none⟩) es.length c)):=JX;refine VM eo (dM.put (os:=os.set i (.slice (some ⟨g,0,none⟩) es.length c,.row ty ay (es.set k (jC gb off (dn d))))) (h.F9 hi (gN:=.row ty ay (es.set k (jC gb off (dn d)))) ⟨rfl,rfl⟩ (by simp) (by simp) ax ?_) aa Ga ap);have lr:=Ka (aD:=aD) (gN:=.row ty ay (es.set k (jC gb off (dn d)))) hi (by simp) ax;have O1:xs.length=es.length*ay:=b0.1;have mb:=ao.set (cells':=xs.take (k*ay+off)++(a.eval y).cells.toList++xs.drop (k*ay+off+(a.eval y).cells.toList.length)) (off:=off) xy (by omega) af br
   (λj v d ab aa=>(bg.plain (an j v d ab aa) (Dx d (fq aa))).2) (VQ (by omega)) (λj=>JY (by omega))
  refine rI (H:=ba) (Ds (h.cW _ _ _ hi)) (xs:=xs.take (k*ay+off)++(a.eval y).cells.toList++xs.drop (k*ay+off+(a.eval y).cells.toList.length)) ⟨by grind,.inr ⟨g,c,_,by simp,ct,Jl w g cur _ ty _ bw,by grind,qf,?_,?_⟩⟩ Gh (mb.cA lr)
  ·grind
  ·rw[NP];apply rr;intro j;have qg:∀j,j<es.length*ay->xs[j]?=cur.toList[j]?:=by
    grind
   rw[JY (by omega),rs];split
   ·rename_i aq;simp only[];rw[JY Gb]
    grind
   grind
theorem aff(aw:dw P ah=true){t ty e:TypeId}(hk: (aE ah t).k= .fb e)(ae: (aE ah e).size≠0){g su DA xz c:Nat}{cE:Addr}{cur:Array Value}{T:TypeId}{cs:List Value}(ax:w.heap[g]?=some (.cells cur T (0,0)))
  (aV:cs.length=Nat.min xz su* (aE ah e).size) (ig:∀ (j:Nat) v,cs[j]?=some v->w.cell? (cE.add j)=some v) (hA:cs.length<=cur.size) (h1:∀v∈cs,v.oneCell'=true):
  (Builtin.copy_ #[t,t] ty #[.slice (some ⟨g,0,none⟩) su DA,.slice (some cE) xz c]).run P w= .ok (.int .i64 (Nat.min xz su:Nat)) (w.setRow g (cs++cur.toList.drop cs.length).toArray):=by
 have hu:=lL aw hk;have af:=N8 (P:=P) w cE cs ig;rw[aV]at af;have bU:=N9 P g 0 T cs 0 cur w ax (by omega) h1;simp only[ux,w6,NW,nR]at bU;simp[Builtin.copy_,gz hu,Builtin.lenOf,Builtin.firstCells,jT aw ae,af,bU,goInt]
theorem afg{t eB:TypeId}{x y:Operand}{args:Array Operand}{fg:Array TypeId}(aH:o.op= .call {callee:=.builtin .copy,args:=args,argTypes:=fg})(bb:args.toList=[x,y])(jm:fg.toList=[t,eB])(lO:t=eB){r:Value}{w':World}
  (ao: (Builtin.copy_ #[t,t] o.type #[a.eval x,a.eval y]).run P w= .ok r w'): (execOp a.eval o).run P w= .ok (.value r) w':=by
 obtain rfl:args= #[x,y]:=by grind
 subst lO;obtain rfl:fg= #[t,t]:=by grind
 simp only[execOp,aH,resolve,invoke,builtin,dX,ex,dT,CK,oi,w3,ao]
theorem V9(aw:dw P ah=true){t ty e:TypeId}(hk: (aE ah t).k= .fb e)(ae: (aE ah e).size≠0){cE lM:Option Addr}{su DA xz c:Nat}(bt:Nat.min xz su=0):
  (Builtin.copy_ #[t,t] ty #[.slice cE su DA,.slice lM xz c]).run P w= .ok (.int .i64 (Nat.min xz su:Nat)) w:=by
 have hu:=lL aw hk;cases cE<;>cases lM<;>simp[Builtin.copy_,gz hu,Builtin.lenOf,Builtin.firstCells,jT aw ae,bt,goInt,storeCells,loadCells,loadCellsFrom]
theorem O2(aw:dw P ah=true){t eB e:TypeId}{x y:Operand}{args:Array Operand}{fg:Array TypeId}{Q:Exit->Act->World->Prop}(aH:o.op= .call {callee:=.builtin .copy,args:=args,argTypes:=fg})(bb:args.toList=[x,y])(jm:fg.toList=[t,eB])(lO:t=eB)
  (hk: (aE ah t).k= .fb e) (ae: (aE ah e).size≠0) (h:cd aD ba n os s a w) (aa:∀t,o.dst=some t->t<n) (ap:FI ah e s o.dst (bF s x) (bF s y) K):o.wp P a w (dM aD ba n K) Q:=by
 unfold FI at ap;rw[h.loc]at ap;obtain⟨ys,mE,ap,bk⟩:=OS ae h.cW (h.bF y) ap;have ag:=h.bF x;have fF:=ta ae;have exec:=λ{r:Value} {w':World}=>afg (P:=P) (w:=w) (a:=a) (r:=r) (w':=w') aH bb jm lO;have J4:∃lM fD,a.eval y= .slice lM ys.length fD:=by
  grind
 split at ap
 ·rename_i ec;rw[ec]at ag;have jU:=ag.o0;obtain⟨lM,fD,k4⟩:=J4;have eo:=V9 (P:=P) (w:=w) (ty:=o.type) aw hk ae (cE:=none) (lM:=lM) (su:=0) (DA:=0) (xz:=ys.length) (c:=fD) (by simp);have afh:Nat.min ys.length 0=0:=by simp
  rw[afh]at eo;exact jG (exec (by grind)) (dM.put h aa (.bQ (.v rfl)) ap)
 ·rename_i i ec;rw[ec]at ag;split at ap
  ·rename_i bc Wa gj af;split at ap
   ·rename_i ac;simp only[cq]at ac;have nB:=fB ac.1;have gG:=fB ac.2;obtain⟨x',hi⟩:=kN af (by simp);have nd:=ag.qS hi;subst nd;subst nB;subst gG;rw[<-h.loc]at ap;obtain⟨xs,b0,_,kb⟩:=wa (h.cW _ _ _ hi);by_cases bt:Nat.min ys.length gj.length=0
    ·obtain⟨lM,fD,k4⟩:=J4;have uU:∃cE c,a.eval x= .slice cE gj.length c:=by
      rcases AL b0 with⟨ab,rfl,_⟩| ⟨g,J3,ab,_⟩;all_goals grind
     obtain⟨cE,c,jU⟩:=uU;have eo:=V9 (P:=P) (w:=w) (ty:=o.type) aw hk ae (cE:=cE) (DA:=c) (lM:=lM) (c:=fD) bt;have heq:ys.take gj.length++gj.drop ys.length=gj:=by
      grind
     rw[heq]at ap;refine jG (exec (by rw[jU,k4];omega)) (dM.put (os:=os) (s:=⟨s.env,gq s.loc i (.row bc (aE ah bc).size gj)⟩) ?_ aa (.bQ (.v rfl)) ap);have iO:gq s.loc i (.row bc (aE ah bc).size gj)=s.loc:=by
      rw[mC,h.loc];apply rr
      grind
     simp_all
    ·rcases bk with⟨k4,rfl⟩| ⟨cE,c,news,k4,ao,al⟩
     ·grind
     ·rcases b0.2 with⟨ab,nU⟩| ⟨g,cap,cur,ab,ct,bw,rJ,qf,lN,J1⟩
      ·grind
      ·have atY:Nat.min ys.length gj.length* (aE ah bc).size<=news.length:=by rw[ao.len];exact kI _ (Nat.min_le_left _ _)
       have atZ:Nat.min ys.length gj.length* (aE ah bc).size<=gj.length* (aE ah bc).size:=kI _ (Nat.min_le_right _ _);have iM:gj.length* (aE ah bc).size<=cap* (aE ah bc).size:=kI _ rJ;have ix: (news.take (Nat.min ys.length gj.length* (aE ah bc).size)).length=Nat.min ys.length gj.length* (aE ah bc).size:=by grind
       have eo:=aff (P:=P) (w:=w) (ty:=o.type) (su:=gj.length) (DA:=cap) (xz:=ys.length) (c:=c) (cE:=cE) aw hk ae bw (cs:=news.take (Nat.min ys.length gj.length* (aE ah bc).size)) ix
        (λj v aq=>al j v (by grind)) (by omega) (λv ab=>ao.eE v (om ab))
       have fE:=hi;rw[ab]at fE;have ax:w.grownBy (w.setRow g (news.take (Nat.min ys.length gj.length* (aE ah bc).size)++cur.toList.drop (news.take (Nat.min ys.length gj.length* (aE ah bc).size)).length).toArray) (bI (.slice (some ⟨g,0,none⟩) gj.length cap)):=JX;refine jG (exec (by grind)) (dM.put (os:=os.set i (.slice (some ⟨g,0,none⟩) gj.length cap,.row bc (aE ah bc).size (ys.take gj.length++gj.drop ys.length))) (h.F9 fE (gN:=.row bc (aE ah bc).size (ys.take gj.length++gj.drop ys.length)) ⟨rfl,rfl⟩ (by simp) (by simp) ax ?_) aa (.bQ (.v rfl)) ap);have lr:=Ka (aD:=aD) (gN:=.row bc (aE ah bc).size (ys.take gj.length++gj.drop ys.length)) fE (by simp) ax;have hlen: (ys.take gj.length++gj.drop ys.length).length=gj.length:=by grind
       have afi:∀ {dY:List Value} {fs:List (List ak)} {q:Nat},hU (bh aD os) w dY fs (aE ah bc).size->hU (bh aD os) w (dY.take (q* (aE ah bc).size)) (fs.take q) (aE ah bc).size:=by
        intro dY fs q bt;refine⟨?_,λr ao=>bt.jS r (om ao),λv ab=>bt.eE v (om ab),λk j r d hk aq=> ?_⟩
        ·rw[mW,mW,bt.len];simp
        ·rw[rs]at hk;split at hk
         ·rename_i Wb;obtain⟨v,ab,hi⟩:=bt.hr k j r d hk aq;have gY:=bt.jS _ (fq hk);have iv:=(eI.1 aq).1;have cm: (k+1) * (aE ah bc).size<=q* (aE ah bc).size:=kI _ (by omega)
          grind
         grind
       have afj:∀ {dY:List Value} {fs:List (List ak)} {q:Nat},hU (bh aD os) w dY fs (aE ah bc).size->hU (bh aD os) w (dY.drop (q* (aE ah bc).size)) (fs.drop q) (aE ah bc).size:=by
        intro dY fs q bt;refine⟨by rw[ru,ru,bt.len,N1],λr ao=>bt.jS r (CM ao),λv ab=>bt.eE v (CM ab),λk j r d hk aq=> ?_⟩;rw[qI]at hk;obtain⟨v,ab,hi⟩:=bt.hr _ j r d hk aq
        grind
       have O3:=(afi (q:=Nat.min ys.length gj.length) ao).append (afj (q:=ys.length) kb);have aA:ys.take (Nat.min ys.length gj.length)=ys.take gj.length:=by
        grind
       rw[aA]at O3;refine rI (H:=ba) (Ds (h.cW _ _ _ fE)) (xs:=news.take (Nat.min ys.length gj.length* (aE ah bc).size)++xs.drop (ys.length* (aE ah bc).size)) ⟨by rw[O3.len],.inr ⟨g,cap,_,by grind,ct,Jl w g cur _ bc _ bw,by omega,qf,?_,?_⟩⟩ fF (O3.cA lr)
       ·grind
       ·rw[hlen];simp only[];rw[ix];have qg:xs.length=gj.length* (aE ah bc).size:=b0.1;rw[List.take_append,ix];rw[w5 (by omega)];congr 1;apply rr;intro j;rw[rs,qI,qI];have Wc:∀q,xs[q]?=if q<gj.length* (aE ah bc).size then cur.toList[q]? else none:=by
         grind
        rw[Wc];by_cases hle:ys.length<=gj.length
        ·have eK:Nat.min ys.length gj.length=ys.length:=Nat.min_eq_left hle;rw[eK];have jj:ys.length* (aE ah bc).size<=gj.length* (aE ah bc).size:=kI _ hle;by_cases aq:j<gj.length* (aE ah bc).size-ys.length* (aE ah bc).size
         ·rw[b3 aq,b3 (by omega)]
         grind
        ·have eK:Nat.min ys.length gj.length=gj.length:=Nat.min_eq_right (by omega);rw[eK];have jj:gj.length* (aE ah bc).size<=ys.length* (aE ah bc).size:=kI _ (by omega)
         grind
   grind
  grind
 grind
end
open Go
section
variable {P:Program} {ah:dJ} {aD:Nat->Prop} {ba:e8} {n:Nat} {os:c3} {s:bJ} {a:Act} {w:World} {o:Oper} {K:bJ->Prop} {A:Nat->Prop}
theorem Wd(h:cd aD ba n os s a w):∀m,∃aP,cd aD ba n aP ⟨s.env,s.loc++List.replicate m .bn⟩ a w
 |0=>⟨os,by simp_all⟩
 |m+1=>by
  obtain⟨aP,bp⟩:=Wd h m;have:=bp.push (x:=.nilFunc) (bC:=.bn) (grownBy.uO w none) (by simp[bI]) trivial;refine⟨aP++ [(.nilFunc,.bn)],?_⟩;rw[I8,<-k1];omega
theorem bg.ic{x:Value}{d ck:ak}(aa:hQ d ck)(h:bg A os w x d):bg A os w x ck:=by
 induction aa generalizing x with
 |refl=>exact h
 |nil au=>exact .bQ (h.ny.le (.nil au))
 |ar=>rw[h.o0];exact .bQ .nil
 |av=>exact .bQ (h.ny.le .av)
 |jS af ao bw a1=>exact .bQ (h.ny.le (.jS af ao bw))
 | @agg cs ds af al a1=>
  cases h with
  |bQ h=>exact .bQ (h.le (.agg af al))
  |e5 h aa h1=>rcases aa with aa| ⟨_,_,aa⟩<;>cases aa
  | @agg vs _ hK br h=>
   refine .agg (by omega) br (λi v d ab aa=> ?_)
   grind
 | @be cs ds af al a1=>
  obtain⟨vs,rfl,hK,b0,an⟩:=h.OD;have get:∀ {i:Nat} {v:Value},vs[i]?=some v->∃c,cs[i]?=some c:=λ{i v} ab=>by
   have aB:=(eI.1 ab).1
   simp_all
  refine .be (by omega) (λi v d ab aa=> ?_) (λi v d ab aa=> ?_)
  ·obtain⟨c,nV⟩:=get ab;rcases b0 i v c ab nV with aH|aH
   ·have o4:=al i c d nV aa;cases c<;>simp[mY]at aH
    cases o4 with
    |refl=>grind
    |aY=>exact .inr .aY
   ·exact .inr (aH.le (al i c d nV aa))
  grind
 |aY=>exact .bQ .aY
theorem DB:∀ {l:List Nat} {k:Nat},k<l.length->l[k]?=some (dp l k)
 | [],k,h=>by grind
 |i::r,0,_=>rfl
 |i::r,k+1,h=>by simpa[dp]using DB (l:=r) (k:=k) (by grind)
theorem Gi:∀ {l:List Nat},As l=true->l.Nodup
 | [],_=>List.nodup_nil
 |i::r,h=>by
  simp only[As,cq,nu,List.contains_eq_mem,ib]at h;exact I6.2 ⟨h.1,Gi h.2⟩
theorem We{l:List Nat}(aV:l.Nodup){i j x:Nat}(hi:l[i]?=some x)(aq:l[j]?=some x):i=j:=by
 obtain⟨h1,aA⟩:=eI.1 hi;obtain⟨ad,aG⟩:=eI.1 aq;exact(CG aV).1 (aA.trans aG.symm)
theorem afk{l:List Nat}(aV:l.Nodup){i j:Nat}(hi:i<l.length)(aq:j<l.length)(h:dp l i=dp l j):i=j:=
 We aV (DB hi) (by rw[h];exact DB aq)
section
variable {m:List aX}
theorem yT:∀ {l:List aX} {i:Nat} {ty:TypeId} {cs:List ak},oX m l=true->l[i]?=some (.cells ty cs)->∀d∈cs,kp m d=true
 | [],i,_,_,_,hi=>by grind
 | .cells t dI::r,0,ty,cs,h,hi=>by
  simp at hi;obtain⟨rfl,rfl⟩:=hi;simp only[oX,cq,nv]at h
  grind
 | .cells t dI::r,i+1,ty,cs,h,hi=>by
  simp only[oX,cq]at h;exact yT (i:=i) h.2 (by simpa using hi)
 | .row _ _ _::r,0,ty,cs,h,hi=>by grind
 | .row _ _ _::r,i+1,ty,cs,h,hi=>yT (i:=i) (l:=r) h (by simpa using hi)
 | .bn::r,0,ty,cs,h,hi=>by grind
 | .bn::r,i+1,ty,cs,h,hi=>yT (i:=i) (l:=r) h (by simpa using hi)
 | .gone::r,0,ty,cs,h,hi=>by grind
 | .gone::r,i+1,ty,cs,h,hi=>yT (i:=i) (l:=r) h (by simpa using hi)
 | .cB _::r,0,ty,cs,h,hi=>by grind
 | .cB _::r,i+1,ty,cs,h,hi=>by
  simp only[oX,cq]at h;exact yT (i:=i) h.2 (by simpa using hi)
end
structure AR(aD:Nat->Prop)(os gA:c3)(cR:List Nat)(L:List aX)(m:Nat):Prop where
 len:gA.length=m
 at0:m<=cR.length
 get:∀ (k:Nat) x bC,gA[k]?=some (x,bC)->k<m/\L[k]?=some bC/\∃o,os[dp cR k]?=some (x,o)/\hz o (gL (dp cR) bC)
 snd:gA.map (·.2)=L
theorem Gj{o:aX}{ρ:Nat->Nat}{e:TypeId}{ay:Nat}{es:List (List ak)}(h:hz o (gL ρ (.row e ay es))):o= .row e ay es:=by
 cases h with
 |refl=>rfl
theorem Kb{o:aX}{ρ:Nat->Nat}{t:TypeId}{cs:List ak}(h:hz o (gL ρ (.cells t cs))):∃dI,o= .cells t dI/\dI.length=cs.length/\∀ (i:Nat) c d,dI[i]?=some c->cs[i]?=some d->hQ c (rC ρ d):=by
 cases h with
 |refl=>exact⟨_,rfl,by simp,λi c d al aa=>by
   rw[fe,aa]at al;cases al;exact .refl⟩
 |cells af h=>grind
variable {gA:c3} {cR:List Nat} {L:List aX} {m:Nat} {nW:Nat->Prop}
theorem AR.row(cJ:AR aD os gA cR L m){j:Nat}(h:jR (bN L j)=true):∃x e ay es,gA[j]?=some (x,.row e ay es)/\os[dp cR j]?=some (x,.row e ay es):=by
 rw[<-cJ.snd]at h;obtain⟨x,e,ay,es,aq⟩:=JN h;obtain⟨_,_,o,aH,hle⟩:=cJ.get j _ _ aq;rw[Gj hle]at aH
 grind
theorem AR.cells(cJ:AR aD os gA cR L m){j:Nat}(h:ry (bN L j)=true):∃x t cs dI,gA[j]?=some (x,.cells t cs)/\os[dp cR j]?=some (x,.cells t dI):=by
 rw[<-cJ.snd]at h;obtain⟨x,t,cs,aq⟩:=aeo h;obtain⟨_,_,o,aH,hle⟩:=cJ.get j _ _ aq;obtain⟨dI,rfl,_⟩:=Kb hle
 grind
theorem O4(cJ:AR aD os gA cR L m)(k:dy A (bh nW gA) w w){v:Value}{d:ak}(ac:kp L d=true)(h:bg A os w v (rC (dp cR) d)):bg (bh nW gA) gA w v d:=by
 cases d with
 |own j=>
  obtain⟨x,e,ay,es,h1,ad⟩:=cJ.row ac;have:=h.qS ad;subst this;exact .own h1 h.Dj.1
 |de j gZ off=>
  obtain⟨x,e,ay,es,h1,ad⟩:=cJ.row ac;obtain⟨g,n,c,rfl,rfl⟩:=h.FX ad;exact .de h1
 |aW j off=>
  obtain⟨x,t,cs,dI,h1,ad⟩:=cJ.cells ac;obtain⟨g,eB,uR,aN,rfl⟩:=h.qR;rw[ad]at aN;cases aN;exact .aW h1
 |dU j off=>
  obtain⟨x,t,cs,dI,h1,ad⟩:=cJ.cells ac;obtain⟨g,eB,uR,aN,rfl⟩:=h.yG;rw[ad]at aN;cases aN;exact .dU h1
 |fn f cr=>
  have h:bg A os w v (.fn f (cr.map (sm (dp cR)))):=h;simp only[kp,nv]at ac;have eE:∀ {x:Value} {c:ak},c∈cr->bg A os w x (sm (dp cR) c)->(∃j off,c= .aW j off)->bg (bh nW gA) gA w x c:=by
   rintro x c al ag ⟨j,off,rfl⟩;have ac:=ac _ al;obtain⟨x',t,cs,dI,h1,ad⟩:=cJ.cells ac;obtain⟨g,eB,uR,aN,rfl⟩:=bg.qR ag;rw[ad]at aN;cases aN;exact .aW h1
  cases h with
  |bQ h=>
   cases h with
   |fn af an=>
    refine .bQ (.fn (by grind) (λi x c ag al=> ?_));have ad:=an i x (sm (dp cR) c) ag (by grind);by_cases Kc:∃j off,c= .aW j off
    ·obtain⟨j,off,rfl⟩:=Kc;cases ad
    ·have:sm (dp cR) c=c:=by cases c<;>first|rfl|exact absurd ⟨_,_,rfl⟩ Kc
     rw[this]at ad;exact ad.cA k
  |e5 h aa h1=>rcases aa with aa| ⟨_,_,aa⟩<;>cases aa
  |fn af iM an=>
   refine .fn (by grind) (λc al=> ?_) (λi x c ag al=> ?_)
   ·have:=iM (sm (dp cR) c) (UU al);cases c<;>first|exact this|rfl
   ·have ad:=an i x (sm (dp cR) c) ag (by grind);have qf:=fq al;by_cases Kc:∃j off,c= .aW j off
    ·grind
    ·have aA:sm (dp cR) c=c:=by cases c<;>first|rfl|exact absurd ⟨_,_,rfl⟩ Kc
     rw[aA]at ad;have nV:=iM _ (UU (f:=sm (dp cR)) qf);rw[aA]at nV;by_cases Dy:∃cs,c= .da cs
     ·obtain⟨cs,rfl⟩:=Dy;exact .bQ (ad.vW.cA k)
     ·refine .bQ ((ad.plain ?_).2.cA k);cases c
      case aW=>grind
      case da=>rfl
      case fn g cs=>
       have:cs=[]:=by cases cs<;>simp_all[l8,mz]
       subst this;rfl
      all_goals first|rfl| (simp[l8,mz]at nV)
 |agg cs=>simp[kp]at ac
 |be ds=>simp[kp]at ac
 |b8 b d=>simp[kp]at ac
 |v y=>obtain⟨rfl,h1⟩:=bg.j7 h;exact .bQ (.v h1)
 |av ay es f=>exact .bQ ((bg.ny h).cA k)
 |da cs=>exact .bQ ((bg.vW h).cA k)
 |ar=>rw[bg.o0 h];exact .bQ .ar
 |aY=>exact .bQ .aY
theorem afl(cJ:AR aD os gA cR L m)(k:dy A (bh nW gA) w w){v:Value}{d:ak}(ac:kK L d=true)(h:bg A os w v (k2 (dp cR) d)):bg (bh nW gA) gA w v d:=by
 by_cases aa:∃cs,d= .agg cs
 ·obtain⟨cs,rfl⟩:=aa;obtain⟨vs,rfl,af,br,an⟩:=bg.xl h;simp only[kK,nv]at ac;exact .agg (by grind) br (λi v c ab al=>O4 cJ k (ac c (fq al)) (an i v _ ab (by grind)))
 ·by_cases hw:∃b e,d= .b8 b e
  ·obtain⟨b,e,rfl⟩:=hw;simp[kK,kp]at ac
  ·have h1:kK L d=kp L d:=by cases d<;>first|rfl|exact absurd ⟨_,rfl⟩ aa
   have cI:¬ ∃ds,d= .be ds:=by
    rintro⟨ds,rfl⟩;simp[kK,kp]at ac
   have ad:k2 (dp cR) d=rC (dp cR) d:=by cases d<;>first|rfl|exact absurd ⟨_,rfl⟩ aa|exact absurd ⟨_,_,rfl⟩ hw|exact absurd ⟨_,rfl⟩ cI
   rw[h1]at ac;rw[ad]at h;exact O4 cJ k ac h
structure Wf(os aP gA:c3)(cR J:List Nat)(q:Nat):Prop where
 len:gA.length=q
 at1:q=cR.length
 Gk:cR.Nodup
 get:∀ (k:Nat) x bC,gA[k]?=some (x,bC)->aP[dp cR k]?=some (x,gL (dp cR) bC)
 at2:∀i,i∉cR->aP[i]?=(os[i]?).map λp=>(p.1,gv (h3 J) p.2)
theorem Wg{aP:c3}{J:List Nat}{q:Nat}(ct:Wf os aP gA cR J q)(k:dy (bh nW gA) A w w){v:Value}{d:ak}(h:bg (bh nW gA) gA w v d): (v.oneCell'=true->bg A aP w v (rC (dp cR) d))/\bg A aP w v (k2 (dp cR) d):=by
 have qh:∀ {v:Value} {d:ak},b7 (bh nW gA) w v d->b7 A w v (rC (dp cR) d)/\b7 A w v (k2 (dp cR) d):=by
  intro v d bt;induction bt with
  |v h=>exact⟨.v h,.v h⟩
  |av xs aV al az au cC ai ac br dD ag a1=>exact⟨(b7.av xs aV al az au cC ai ac br dD ag).cA k,(b7.av xs aV al az au cC ai ac br dD ag).cA k⟩
  |nil=>exact⟨.nil,.nil⟩
  |ar=>exact⟨.ar,.ar⟩
  |agg af br h a1=>
   refine⟨(b7.agg af br h).cA k,.agg (by grind) br (λj v d ab aa=> ?_)⟩
   grind
  | @be vs ds af h a1=>
   refine⟨(b7.be af h).cA k,.be (by grind) (λj v d ab aa=> ?_)⟩
   grind
  |da xs ai ac br dD ag _=>exact⟨(b7.da xs ai ac br dD ag).cA k,(b7.da xs ai ac br dD ag).cA k⟩
  | @fn f vs ds af h _=>
   have key:b7 A w (.func f #[] vs.toArray) (.fn f (ds.map (sm (dp cR)))):=by
    refine .fn (by grind) (λj v d ab aa=> ?_);rw[fe]at aa;cases aq:ds[j]? with
    |none=>grind
    |some e=>
     rw[aq]at aa;simp at aa;subst aa;have ad:=h j v e ab aq;cases e
     case aW=>cases ad
     all_goals exact ad.cA k
   exact⟨key,key⟩
  |b8 _ aQ a1=>exact⟨.b8 (λac=>(a1 ac).1) aQ,.b8 (λac=>(a1 ac).2) aQ⟩
  |aY=>exact⟨.aY,.aY⟩
 induction h with
 |bQ h=>exact⟨λ_=>.bQ (qh h).1,.bQ (qh h).2⟩
 |aW h=>have:=ct.get _ _ _ h;exact⟨λ_=>.aW this,.aW this⟩
 |dU h=>have:=ct.get _ _ _ h;exact⟨λ_=>.dU this,.dU this⟩
 |de h=>have:=ct.get _ _ _ h;exact⟨λ_=>.de this,.de this⟩
 |own h h1=>have:=ct.get _ _ _ h;exact⟨λ_=>.own this h1,.own this h1⟩
 |e5 h aa h1=>
  have:=ct.get _ _ _ h;rcases aa with rfl| ⟨_,_,rfl⟩
  ·exact⟨λ_=>.e5 this (.inl rfl) h1,.e5 this (.inl rfl) h1⟩
  ·exact⟨λ_=>.e5 this (.inr ⟨_,_,rfl⟩) h1,.e5 this (.inr ⟨_,_,rfl⟩) h1⟩
 | @agg vs ds af br _ a1=>
  refine⟨λh=>by simp[Value.oneCell']at h,.agg (by grind) br (λj v d ab aa=> ?_)⟩
  grind
 | @fn f vs ds af iM bw a1=>
  have key:bg A aP w (.func f #[] vs.toArray) (.fn f (ds.map (sm (dp cR)))):=by
   refine .fn (by grind) (λd aa=> ?_) (λj v d ab aa=> ?_)
   ·obtain⟨e,he,rfl⟩:=fr.1 aa;have:=iM e he;cases e<;>first|exact this|rfl
   ·rw[fe]at aa;cases aq:ds[j]? with
    |none=>grind
    |some e=>
     rw[aq]at aa;simp at aa;subst aa;have ad:=(a1 j v e ab aq).2;have al:=iM e (fq aq);cases e
     case fn g cs=>
      have:cs=[]:=by cases cs<;>simp_all[l8,mz]
      subst this;exact ad
     all_goals first|exact ad| (simp[l8,mz]at al)
  exact⟨λ_=>key,key⟩
 | @be vs ds af b0 bw a1=>
  refine⟨λh1=>by simp[Value.oneCell']at h1,.be (by grind) (λj v d ab aa=> ?_) (λj v d ab aa=> ?_)⟩
  ·rw[fe]at aa;cases aq:ds[j]? with
   |none=>grind
   |some e=>
    rw[aq]at aa;simp at aa;subst aa;rcases b0 j v e ab aq with aH|aH
    ·cases e<;>simp[mY]at aH
     exact .inl rfl
    grind
  ·rw[fe]at aa;cases aq:ds[j]? with
   |none=>grind
   |some e=>
    rw[aq]at aa;simp at aa;subst aa;rcases b0 j v e ab aq with aH|aH
    ·have ad:=bw j v e ab aq;cases e<;>simp[mY]at aH
     exact(a1 j v _ ab aq).1 ad.Dj.1
    ·exact .bQ (qh aH).1
 |b8 _ aQ a1=>exact⟨λh1=>.b8 (λac=>(a1 ac).1 h1) aQ,.b8 (λac=>(a1 ac).2) aQ⟩
theorem O5{aP:c3}{J:List Nat}{A dz:Nat->Prop}{w':World}(k:dy A dz w w')
  (lr:∀ (i:Nat) x o,i∉J->os[i]?=some (x,o)->o≠ .bn->(∃e ay es,o= .row e ay es)\/(∃t cs,o= .cells t cs)\/o= .gone->∃y aT,aP[i]?=some (y,aT)/\(y=x/\en o aT\/(∃e ay es,o= .row e ay es)/\aT= .gone))
  {v:Value} {d:ak} (h:bg A os w v d): (v.oneCell'=true->bg dz aP w' v (h3 J d))/\bg dz aP w' v (uE J d):=by
 have qh:∀ {v:Value} {d:ak},b7 A w v d->b7 dz w' v (h3 J d)/\b7 dz w' v (uE J d):=by
  intro v d bt;induction bt with
  |v h=>exact⟨.v h,.v h⟩
  |av xs aV al az au cC ai ac br dD ag a1=>exact⟨(b7.av xs aV al az au cC ai ac br dD ag).cA k,(b7.av xs aV al az au cC ai ac br dD ag).cA k⟩
  |nil=>exact⟨.nil,.nil⟩
  |ar=>exact⟨.ar,.ar⟩
  |agg af br h a1=>
   refine⟨(b7.agg af br h).cA k,.agg (by grind) br (λj v d ab aa=> ?_)⟩
   grind
  | @be vs ds af h a1=>
   refine⟨(b7.be af h).cA k,.be (by grind) (λj v d ab aa=> ?_)⟩
   grind
  |da xs ai ac br dD ag _=>exact⟨(b7.da xs ai ac br dD ag).cA k,(b7.da xs ai ac br dD ag).cA k⟩
  | @fn f vs ds af h _=>
   have key:b7 dz w' (.func f #[] vs.toArray) (h3 J (.fn f ds)):=by
    simp only[h3];split
    ·exact .aY
    ·exact(b7.fn af h).cA k
   exact⟨key,key⟩
  |b8 _ aQ a1=>exact⟨.b8 (λac=>(a1 ac).1) aQ,.b8 (λac=>(a1 ac).2) aQ⟩
  |aY=>exact⟨.aY,.aY⟩
 have DC:∀ {j:Nat},J.contains j=false->j∉J:=by
  simp
 induction h with
 |bQ h=>exact⟨λ_=>.bQ (qh h).1,.bQ (qh h).2⟩
 | @aW j off g t cs h=>
  have key:bg dz aP w' (.pointer (some ⟨g,off,none⟩)) (h3 J (.aW j off)):=by
   simp only[h3];split
   ·exact .bQ .aY
   ·rename_i ac;obtain⟨y,aT,bp,(⟨rfl,hk⟩| ⟨⟨_,_,_,he⟩,_⟩)⟩:=lr _ _ _ (DC ac) h (by simp) (.inr (.inl ⟨_,_,rfl⟩))
    case inr=>cases he
    cases aT<;>simp[en]at hk
    exact .aW bp
  exact⟨λ_=>key,key⟩
 | @dU j off g t cs h=>
  have key:bg dz aP w' (.pointer (some ⟨g,off,none⟩)) (h3 J (.dU j off)):=by
   simp only[h3];split
   ·exact .bQ .aY
   ·rename_i ac;obtain⟨y,aT,bp,(⟨rfl,hk⟩| ⟨⟨_,_,_,he⟩,_⟩)⟩:=lr _ _ _ (DC ac) h (by simp) (.inr (.inl ⟨_,_,rfl⟩))
    case inr=>cases he
    cases aT<;>simp[en]at hk
    exact .dU bp
  exact⟨λ_=>key,key⟩
 | @de j gZ off g n c e ay es h=>
  have key:bg dz aP w' (.pointer (some ⟨g,gZ*ay+off,none⟩)) (h3 J (.de j gZ off)):=by
   simp only[h3];split
   ·exact .bQ .aY
   ·rename_i ac;obtain⟨y,aT,bp,(⟨rfl,hk⟩| ⟨_,rfl⟩)⟩:=lr _ _ _ (DC ac) h (by simp) (.inl ⟨_,_,_,rfl⟩)
    ·cases aT<;>simp[en]at hk
     obtain⟨rfl,rfl⟩:=hk;exact .de bp
    ·exact .e5 bp (.inr ⟨_,_,rfl⟩) rfl
  exact⟨λ_=>key,key⟩
 | @own j x e ay es h h1=>
  have key:bg dz aP w' x (h3 J (.own j)):=by
   simp only[h3];split
   ·exact .bQ .aY
   ·rename_i ac;obtain⟨y,aT,bp,(⟨rfl,hk⟩| ⟨_,rfl⟩)⟩:=lr _ _ _ (DC ac) h (by simp) (.inl ⟨_,_,_,rfl⟩)
    ·cases aT<;>simp[en]at hk
     exact .own bp h1
    ·exact .e5 bp (.inl rfl) h1
  exact⟨λ_=>key,key⟩
 | @e5 j x y d h aa h1=>
  have gone:j∉J->∃y,aP[j]?=some (y,.gone):=λaq=>by
   obtain⟨y,aT,bp,(⟨rfl,hk⟩| ⟨⟨_,_,_,he⟩,_⟩)⟩:=lr _ _ _ aq h (by simp) (.inr (.inr rfl))
   case inr=>cases he
   cases aT<;>simp[en]at hk
   grind
  rcases aa with rfl| ⟨gZ,off,rfl⟩
  ·have key:bg dz aP w' x (h3 J (.own j)):=by
    simp only[h3];split
    ·exact .bQ .aY
    ·rename_i ac;obtain⟨qU,bp⟩:=gone (DC ac);exact .e5 bp (.inl rfl) h1
   exact⟨λ_=>key,key⟩
  ·have key:bg dz aP w' x (h3 J (.de j gZ off)):=by
    simp only[h3];split
    ·exact .bQ .aY
    ·rename_i ac;obtain⟨qU,bp⟩:=gone (DC ac);exact .e5 bp (.inr ⟨_,_,rfl⟩) h1
   exact⟨λ_=>key,key⟩
 | @agg vs ds af br _ a1=>
  refine⟨λh=>by simp[Value.oneCell']at h,.agg (by grind) br (λj v d ab aa=> ?_)⟩
  grind
 | @fn f vs ds af iM bw a1=>
  have key:bg dz aP w' (.func f #[] vs.toArray) (h3 J (.fn f ds)):=by
   simp only[h3];split
   ·exact .bQ .aY
   ·rename_i ac;refine .fn af iM (λj v d ab aa=> ?_);have ad:=(a1 j v d ab aa).2;have al:=iM d (fq aa);have tt:C5 J d=false:=by
     grind
    cases d
    case aW q o=>
     have aA:J.contains q=false:=tt;simp only[uE,h3,aA]at ad;exact ad
    case fn g cs=>
     have:cs=[]:=by cases cs<;>simp_all[l8,mz]
     subst this;exact ad
    all_goals first|exact ad| (simp[l8,mz]at al)
  exact⟨λ_=>key,key⟩
 | @be vs ds af b0 bw a1=>
  refine⟨λh1=>by simp[Value.oneCell']at h1,.be (by grind) (λj v d ab aa=> ?_) (λj v d ab aa=> ?_)⟩
  ·rw[fe]at aa;cases aq:ds[j]? with
   |none=>grind
   |some e=>
    rw[aq]at aa;simp at aa;subst aa;rcases b0 j v e ab aq with aH|aH
    ·cases e<;>simp[mY]at aH
     simp only[h3];split
     ·exact .inr .aY
     ·exact .inl rfl
    grind
  ·rw[fe]at aa;cases aq:ds[j]? with
   |none=>grind
   |some e=>
    rw[aq]at aa;simp at aa;subst aa;rcases b0 j v e ab aq with aH|aH
    ·have ad:=bw j v e ab aq;cases e<;>simp[mY]at aH
     exact(a1 j v _ ab aq).1 ad.Dj.1
    ·exact .bQ (qh aH).1
 |b8 _ aQ a1=>exact⟨λh1=>.b8 (λac=>(a1 ac).1 h1) aQ,.b8 (λac=>(a1 ac).2) aQ⟩
end
open Go
section
variable {P:Program} {ah:dJ} {aD:Nat->Prop} {ba:e8} {n:Nat} {os:c3} {s:bJ} {a:Act} {w:World} {o:Oper} {K:bJ->Prop} {A:Nat->Prop}
theorem afm{o bC:aX}{ρ:Nat->Nat}(h:hz o (gL ρ bC))(aa:bC≠ .bn)(ax:∀ds,bC≠ .cB ds):o≠ .bn:=by
 cases bC with
 |bn=>grind
 |cB ds=>grind
 |gone=>cases h;simp[gL]
 |row e ay es=>rw[Gj h];simp
 |cells t cs=>obtain⟨_,rfl,_⟩:=Kb h;simp
theorem Gl:∀ {L:List aX} {k:Nat} {o:aX},qO L=true->L[k]?=some o->∀ds,o≠ .cB ds
 | [],k,o,_,h,_=>by grind
 |x::r,0,o,aV,h,ds=>by
  simp at h;subst h;intro e;subst e;simp[qO]at aV
 |x::r,k+1,o,aV,h,ds=>by
  have:qO r=true:=by cases x<;>simp[qO]at aV<;>exact aV
  exact Gl (k:=k) this (by grind) ds
theorem xA:∀ {c7:List Bool} {L bK:List aX} {k:Nat},tj c7 L bK=true->c7.length=L.length/\L.length<=bK.length/\(∀o aT,c7[k]?=some true->L[k]?=some o->bK[k]?=some aT->Js o aT=true)
 | [],[],bK,k,_=>⟨rfl,by simp,λo aT h=>by simp⟩
 | [],_::_,bK,k,h=>by simp[tj]at h
 |_::_,[],bK,k,h=>by simp[tj]at h
 |_::_,_::_,[],k,h=>by simp[tj]at h
 |b::c7,dx::L,fT::bK,k,h=>by
  simp only[tj,cq]at h;obtain⟨i1,i2,i3⟩:=xA (k:=k-1) h.2
  grind
theorem Gm{loc:List aX}{ρ:Nat->Nat}:∀ {pass:List Nat} {L:List aX},sn loc ρ pass L->pass.length=L.length/\∀ (k i:Nat) o,pass[k]?=some i->L[k]?=some o->hz (bN loc i) (gL ρ o)
 | [],[],_=>⟨rfl,λk i o h=>by simp⟩
 | [],_::_,h=>h.elim
 |_::_,[],h=>h.elim
 |i::r,o::eY,h=>by
  obtain⟨h1,ad⟩:=Gm h.2;refine⟨by grind,λk AK aT hi aH=> ?_⟩;cases k with
  |zero=>simp at hi aH;subst hi;subst aH;exact h.1
  |succ k=>grind
theorem Wh:∀ {pass:List Nat} {c7:List Bool} {k i:Nat},c7.length=pass.length->pass[k]?=some i->c7[k]?≠some true->i∈yy pass c7
 | [],c7,k,i,_,h,_=>by grind
 |p::r,[],k,i,af,_,_=>by grind
 |p::r,b::c7,0,i,af,h,hk=>by
  simp at h hk;subst h;cases b<;>simp at hk
  simp[yy]
 |p::r,b::c7,k+1,i,af,h,hk=>by
  have:=Wh (k:=k) (c7:=c7) (pass:=r) (by grind) (by simpa using h) (by grind);cases b
  ·simp[yy,this]
  ·simpa[yy]using this
variable{J:List Nat}
theorem afn{e:List (Nat×ak)}(t:Nat):look (Jr J e) t=if J=[]then look e t else uE J (look e t):=by
 unfold Jr;split
 ·simp
 ·rename_i h;rw[bm (λe=>h e),Dh _ rfl]
theorem O6:∀ (cR:List Nat) (l L:List aX) (i:Nat),i∉cR->(px l cR L)[i]?=l[i]?
 | [],l,L,i,_=>by cases L<;>rfl
 |j::r,l,[],i,_=>rfl
 |j::r,l,o::L,i,h=>by
  simp only[pt,not_or]at h;rw[px,O6 r _ _ _ h.2,mC,vL (λe=>h.1 e.symm)]
theorem Wi:∀ (cR:List Nat) (l L:List aX) (k:Nat),cR.Nodup->cR.length=L.length->(∀i∈cR,i<l.length)->k<cR.length->(px l cR L)[dp cR k]?=L[k]?
 | [],l,L,k,_,_,_,h=>by grind
 |j::r,l,[],k,_,h,_,_=>by grind
 |j::r,l,o::L,k,aV,af,hi,hk=>by
  obtain⟨h1,ad⟩:=I6.1 aV;cases k with
  |zero=>
   rw[px];show (px (gq l j o) r L)[j]?=_;rw[O6 r _ _ _ h1,mC,oT (hi j (by simp))];rfl
  |succ k=>
   rw[px];show (px (gq l j o) r L)[dp r k]?=_;rw[Wi r _ L k ad (by grind) (λi az=>by rw[mC];grind) (by grind)];rfl
theorem DD:∀d:ak,h3 [] d=d
 | .b8 b d=>by simp only[h3];rw[DD d]
 | .fn f cr=>by
  have:cr.any (C5 [])=false:=by
   rw[List.any_eq_false];intro c _;cases c<;>simp[C5]
  simp only[h3,this]
 | .own _| .aW _ _| .dU _ _| .de _ _ _=>by rfl
 | .v _| .av _ _ _| .agg _| .be _| .da _| .ar| .aY=>rfl
theorem Wj:∀d:ak,uE [] d=d
 | .b8 b d=>by simp only[uE];rw[Wj d]
 | .agg cs=>by
  simp only[uE];congr 1;conv=>rhs;rw[<-CJ cs]
  exact CI (λc _=>DD c)
 | .be cs=>by
  simp only[uE];congr 1;conv=>rhs;rw[<-CJ cs]
  exact CI (λc _=>DD c)
 | .fn f cr=>DD _
 | .own _| .aW _ _| .dU _ _| .de _ _ _=>DD _
 | .v _| .av _ _ _| .da _| .ar| .aY=>rfl
theorem O7{d:ak}:h3 [] d=d/\uE [] d=d:=⟨DD d,Wj d⟩
theorem afo{l:List aX}{i:Nat}: (Ar J l)[i]?=(l[i]?).map (gv (h3 J)):=by
 unfold Ar;split
 ·have: (gv (h3 []))=id:=by
   funext o;cases o with
   |cells t cs=>
    have:cs.map (h3 [])=cs:=by
     conv=>rhs;rw[<-CJ cs]
     exact CI (λc _=>O7.1)
    simp[gv,this]
   |cB cs=>
    have:cs.map (h3 [])=cs:=by
     conv=>rhs;rw[<-CJ cs]
     exact CI (λc _=>O7.1)
    simp[gv,this]
   |_=>rfl
  grind
 ·rw[v2,fe]
theorem Kd{f:FuncId}{pass news J:List Nat}{L bK:List aX}{kq:List ak}{kept:List Bool}{d:ak}{fL:List Value}(h:cd aD ba n os s a w)(jr:cj P f L kq kept bK d)
  (ed:∀ (k i:Nat),pass[k]?=some i->kept[k]?≠some true->i∈J\/(∃e ay es,L[k]?=some (.row e ay es))/\bK[k]?=some .gone)
  (o5:tj kept L bK=true) (wh:qO L=true) (ih: (pass++news).Nodup) (aB:∀i∈pass,i<os.length) (pE:∀i∈news,∃y,os[i]?=some (y,.bn)) (hlen:bK.length=pass.length+news.length)
  (AS:oX L L=true) (xB:kq.all (kK L)=true) (xC:sn s.loc (dp (pass++news)) pass L)
  (af:fL.length=kq.length) (wi:∀ (i:Nat) v d,fL[i]?=some v->kq[i]?=some d->bg (mc aD os []) os w v (k2 (dp (pass++news)) d)):
  Calls P f fL.toArray w λe w'=>∃v aP,e= .returned v/\cd aD ba n aP (FH s (pass++news) J bK) a w'/\bg (bh aD aP) aP w' v (k2 (dp (pass++news)) d):=by
 obtain⟨eF,hole⟩:=Gm xC;generalize afp:pass++news=cR at *;have tu:cR.length=bK.length:=by grind
 have afq:pass.length<=cR.length:=by omega
 have Ke:∀k,k<pass.length->pass[k]?=some (dp cR k):=by
  intro k hk;have h1:=DB (l:=cR) (k:=k) (by omega)
  grind
 have nd:∀b,mc aD os [] b↔bh aD os b:=by
  intro b;constructor
  ·exact xw
  ·rintro(ac| ⟨i,x,aT,hi,aa,cx⟩)
   ·exact .inl ac
   ·exact .inr ⟨i,x,aT,hi,aa,by simp,cx⟩
 -- Dw at3 objects
 let gA:c3:=(List.range pass.length).map λk=>((os[dp cR k]?.map (·.1)).getD .nilFunc,(L[k]?).getD .bn)
 have ix:gA.length=pass.length:=by grind
 have Wk:∀k,k<pass.length->∃x o bC,os[dp cR k]?=some (x,o)/\L[k]?=some bC/\gA[k]?=some (x,bC)/\hz o (gL (dp cR) bC):=by
  intro k hk;have an:=Ke k hk;have hi:=aB _ (fq an);have aH:=eN hi;have eV:=eN (l:=L) (i:=k) (by omega);refine⟨os[dp cR k].1,os[dp cR k].2,L[k]'(by omega),aH,eV,?_,?_⟩
  ·grind
  ·have:=hole k _ _ an eV;rw[h.loc,lm,fe,aH]at this
   grind
 have Kf:∀ {k:Nat} {x:Value} {bC:aX},gA[k]?=some (x,bC)->k<pass.length/\L[k]?=some bC/\∃o,os[dp cR k]?=some (x,o)/\hz o (gL (dp cR) bC):=by
  grind
 have Wl:gA.map (·.2)=L:=by
  apply rr
  grind
 have cJ:AR aD os gA cR L pass.length:=⟨ix,afq,λk x bC hk=>Kf hk,Wl⟩
 have Wm:∀ {k:Nat} {bC:aX} {o:aX},L[k]?=some bC->bC≠ .bn->hz o (gL (dp cR) bC)->o≠ .bn:=λhk aa hle=>afm hle aa (Gl wh hk);have DE:∀ {b:Nat},hp gA b->∃k x o,k<pass.length/\os[dp cR k]?=some (x,o)/\o≠ .bn/\bI x=some b:=by
  rintro b ⟨k,x,bC,hk,aa,ac⟩
  grind
 -- afr is j6 out
 let nW:Nat->Prop:=mc aD os pass
 have afs:∀b,nW b->b<w.heap.size:=by
  rintro b (ac| ⟨i,x,aT,hi,aa,_,cx⟩)
  ·exact h.Dq ac
  ·exact((h.cW _ _ _ hi).iY aa cx).2
 have aft:∀b,nW b->¬hp gA b:=by
  intro b ai kt;obtain⟨k,x,o,hk,aH,wj,cx⟩:=DE kt;rcases ai with ac| ⟨i,y,aT,hi,aa,at4,gG⟩
  ·exact h.a0 b ac ((h.cW _ _ _ aH).iY wj cx).1
  ·have:=h.inj i (dp cR k) _ _ _ _ b hi aH aa wj gG cx
   grind
 have Wn:∀b,bh nW gA b->bh aD os b:=by
  rintro b (ac|kt)
  ·exact xw ac
  ·obtain⟨k,x,o,hk,aH,wj,cx⟩:=DE kt;exact .inr ⟨_,_,_,aH,wj,cx⟩
 have cV:dy (bh aD os) (bh nW gA) w w:=dy.ic Wn;have afu:dy (mc aD os []) (bh nW gA) w w:=dy.ic (λb ac=>(nd b).2 (Wn b ac));have sv:uD nW gA L w:=by
  refine⟨Wl,λk x bC hk=> ?_,λi j x o y aT b hi aq d1 d2 cX c0=> ?_,aft⟩
  ·obtain⟨hS,Wo,o,aH,hle⟩:=Kf hk;have fM:=h.cW _ _ _ aH;cases bC with
   |bn=>exact trivial
   |gone=>
    have:o= .gone:=by cases hle;rfl
    subst this;exact fM
   |cB ds=>exact absurd rfl (Gl wh Wo ds)
   |row e ay es=>
    rw[Gj hle]at fM;obtain⟨_,xs,b0,cC,gY,br,ao⟩:=fM;exact⟨λ_ _=>.inr trivial,xs,b0,cC,gY,br,λeO jo r d h1 ad=>by
     obtain⟨v,ab,hi⟩:=ao eO jo r d h1 ad;exact⟨v,ab,hi.cA cV⟩⟩
   |cells t cs=>
    obtain⟨dI,rfl,at5,lN⟩:=Kb hle;obtain⟨g,arr,rfl,ct,bw,ae,br,kb⟩:=fM;refine⟨g,arr,rfl,.inr trivial,bw,by omega,br,λj v d ab aa=> ?_⟩;have iv:=(eI.1 aa).1;have pC:=eN (l:=dI) (i:=j) (by omega);exact O4 cJ cV (yT AS Wo d (fq aa)) ((kb j v _ ab pC).ic (lN j _ d pC aa))
  ·obtain⟨jk,DF,dx,ka,afv⟩:=Kf hi;obtain⟨mF,O8,fT,qj,afw⟩:=Kf aq;have:=h.inj _ _ _ _ _ _ b ka qj (Wm DF d1 afv) (Wm O8 d2 afw) cX c0;exact afk ih (by omega) (by omega) this
 have DG:xg (bh nW gA) gA w fL kq:=by
  have gen:∀ (vs:List Value) (ds:List ak),vs.length=ds.length->(∀ (i:Nat) v d,vs[i]?=some v->ds[i]?=some d->bg (bh nW gA) gA w v d)->xg (bh nW gA) gA w vs ds:=by
   intro vs;induction vs with
   |nil=>intro ds af _;cases ds<;>first|trivial|simp at af
   |cons v vs a1=>
    intro ds af an;cases ds with
    |nil=>grind
    |cons d ds=>exact⟨an 0 v d rfl rfl,a1 ds (by grind) (λi v d ab aa=>an (i+1) v d (by grind) (by grind))⟩
  refine gen fL kq af (λi v d ab aa=> ?_);simp only[nv]at xB;exact afl cJ afu (xB d (fq aa)) (wi i v d ab aa)
 refine(jr.2 nW w gA fL afs sv DG).mono λe w' he=> ?_;obtain⟨v,sw,rfl,yU,uV,ox,hblk,ss⟩:=he;have afx:sw.length=cR.length:=by rw[tu,<-yU.loc];simp
 have Wp:∀ {k:Nat} {x:Value} {bC:aX},sw[k]?=some (x,bC)->k<cR.length/\bK[k]?=some bC:=by
  intro k x bC hk;refine⟨by grind,?_⟩;rw[<-yU.loc,fe,hk];rfl
 -- Dw objects behind Dw call
 let aP:c3:=(List.range os.length).map λi=>if i∈cR then(match sw[cR.idxOf i]? with
  |some p=>(p.1,gL (dp cR) p.2)
  |none=>(.nilFunc,.bn))else match os[i]? with
  |some p=>(p.1,gv (h3 J) p.2)
  |none=>(.nilFunc,.bn)
 have at6:∀i∈cR,i<os.length:=by
  grind
 have ni:∀ {k:Nat},k<cR.length->dp cR k∈cR:=λhk=>fq (DB hk);have at7:∀ {k:Nat},k<cR.length->cR.idxOf (dp cR k)=k:=by
  intro k hk;have az:=ni hk;have h1:=NO az;have ad:cR[cR.idxOf (dp cR k)]?=some (dp cR k):=by grind
  exact We ih ad (DB hk)
 have AT:∀ {k:Nat} {x:Value} {bC:aX},sw[k]?=some (x,bC)->aP[dp cR k]?=some (x,gL (dp cR) bC):=by
  grind
 have ku:∀i,i∉cR->aP[i]?=(os[i]?).map λp=>(p.1,gv (h3 J) p.2):=by
  grind
 have cL:∀ {i:Nat} {x:Value} {aT:aX},aP[i]?=some (x,aT)->(∃k bC,k<cR.length/\i=dp cR k/\sw[k]?=some (x,bC)/\aT=gL (dp cR) bC)\/(i∉cR/\∃dx,os[i]?=some (x,dx)/\aT=gv (h3 J) dx):=by
  intro i x aT hi;by_cases az:i∈cR
  ·have h1:=NO az;have ad:dp cR (cR.idxOf i)=i:=by
    have aN:cR[cR.idxOf i]?=some i:=by grind
    grind
   grind
  grind
 have dq:∀dx:aX,gv (h3 J) dx≠ .bn->dx≠ .bn:=by intro dx;cases dx<;>simp[gv]
 have DH:∀bC:aX,gL (dp cR) bC≠ .bn->bC≠ .bn:=by intro bC;cases bC<;>simp[gL]
 have afy:∀ {i:Nat},i∉cR->i∉pass:=λhi an=>hi (by grind)
 -- blocks of Dw objects behind Dw call
 have Wq:∀ {b:Nat},hp sw b->(∃k x o,k<pass.length/\os[dp cR k]?=some (x,o)/\o≠ .bn/\bI x=some b)\/w.heap.size<=b:=λac=>(hblk _ ac).imp DE id;have fO:∀b,b<w.heap.size->bh aD aP b->bh aD os b:=by
  rintro b lo (ac| ⟨i,x,aT,hi,aa,cx⟩)
  ·exact .inl ac
  ·rcases cL hi with⟨k,bC,hk,rfl,al,rfl⟩| ⟨_,dx,h1,rfl⟩
   ·rcases Wq ⟨k,x,bC,al,DH _ aa,cx⟩with⟨_,y,o,_,ad,aN,bs⟩|ad
    ·exact .inr ⟨_,_,_,ad,aN,bs⟩
    ·omega
   ·exact .inr ⟨_,_,_,h1,dq _ aa,cx⟩
 have rL:∀b,b<w.heap.size->¬hp gA b->w'.heap[b]?=w.heap[b]?:=ox.block;have ng:dy (bh aD os) (bh aD aP) w w':=⟨ox.size,fO,λb ac aV=>rL b ac (λkt=>aV (by
  obtain⟨k,x,o,_,ad,aN,bs⟩:=DE kt;exact .inr ⟨_,_,_,ad,aN,bs⟩))⟩
 have tr:dy (bh nW sw) (bh aD aP) w' w':=dy.ic (by
  rintro b (ac| ⟨i,x,aT,hi,aa,cx⟩)
  ·exact .inl (.inl ac)
  ·rcases cL hi with⟨k,bC,hk,rfl,al,rfl⟩| ⟨Gn,dx,h1,rfl⟩
   ·exact .inr ⟨k,x,bC,al,DH _ aa,cx⟩
   ·exact .inl (.inr ⟨i,x,dx,h1,dq _ aa,afy Gn,cx⟩))
 have ct:Wf os aP sw cR J cR.length:=⟨afx,rfl,ih,λk x bC hk=>AT hk,ku⟩
 obtain⟨xn,Gp,_⟩:=xA (k:=0) o5;have lr:∀ (i:Nat) x o,i∉J->os[i]?=some (x,o)->o≠ .bn->(∃e ay es,o= .row e ay es)\/(∃t cs,o= .cells t cs)\/o= .gone->∃y aT,aP[i]?=some (y,aT)/\(y=x/\en o aT\/(∃e ay es,o= .row e ay es)/\aT= .gone):=by
  intro i x o hi aH aa at8;by_cases az:i∈cR
  ·rw[<-afp]at az;rcases eb.1 az with az|az
   ·obtain⟨k,hk,rfl⟩:=fv az;have lR:=Ke k hk;rw[eN hk]at lR;have lR:=vM lR;by_cases O9:kept[k]?=some true
    case neg=>
     rcases ed k _ (eN hk) O9 with cS| ⟨⟨e,ay,es,fm⟩,wk⟩
     ·grind
     ·obtain⟨x',fT,bC,h1,ad,aN,bs⟩:=Wk k hk;rw[lR]at aH;rw[h1]at aH;cases aH;rw[fm]at ad;cases ad;have Wb:k<sw.length:=by omega
      have AU:=eN Wb;rcases Kg:sw[k]with⟨sx,at9⟩
      rw[Kg]at AU;have Wr:=(Wp AU).2;rw[wk]at Wr;cases Wr;rw[lR];exact⟨sx,.gone,AT AU,.inr ⟨⟨e,ay,es,Gj bs⟩,rfl⟩⟩
    obtain⟨x',fT,bC,h1,ad,aN,bs⟩:=Wk k hk;rw[lR]at aH;rw[h1]at aH;cases aH;obtain⟨aT,pC⟩:=ss k x bC O9 aN;obtain⟨hS,afz⟩:=Wp pC;have uW:=(xA (k:=k) o5).2.2 bC aT O9 ad afz;rw[lR];refine⟨_,_,AT pC,.inl ⟨rfl,?_⟩⟩;cases bC<;>cases aT<;>simp[Js]at uW
    ·obtain⟨dI,rfl,_⟩:=Kb bs;simpa[en,gL]using uW
    ·rw[Gj bs];simpa[en,gL]using uW
   ·obtain⟨y,bk⟩:=pE i az
    grind
  ·refine⟨x,gv (h3 J) o,by grind,.inl ⟨rfl,?_⟩⟩;cases o<;>simp[en,gv]
 have jE:∀ {b:Nat},hp gA b->ba.mine b:=by
  intro b kt;obtain⟨k,x,o,_,ad,aN,bs⟩:=DE kt;exact((h.cW _ _ _ ad).iY aN bs).1
 have aua:aP.length=os.length:=by grind
 refine⟨v,aP,rfl,⟨h.size,h.defers,⟨ox.os.trans h.hB.os,ox.tape.trans h.hB.tape,ox.output.trans h.hB.output,bT h.hB.size ox.size,λb ac Pa=> ?_⟩,h.a0,?_,λt=> ?_,λi x aT hi=> ?_,λi j x o y aT b hi aq d1 d2 cX c0=> ?_⟩,(Wg ct tr uV).2⟩
 ·refine(rL b (Ag ac h.hB.size) (λkt=> ?_)).trans (h.hB.block b ac Pa);rcases jE kt with h1|h1;all_goals grind
 ·show px (Ar J s.loc) cR (bK.map (gL (dp cR)))=_;apply rr;intro i;rw[fe];have jl: (Ar J s.loc).length=os.length:=by
   have:s.loc.length=os.length:=h.len;unfold Ar;split
   ·omega
   ·rw[v2];grind
  by_cases az:i∈cR
  ·have h1:=NO az;have ad:dp cR (cR.idxOf i)=i:=by
    have aN:cR[cR.idxOf i]?=some i:=by grind
    grind
   have cm:=eN (l:=sw) (i:=cR.idxOf i) (by omega);rcases an: (sw[cR.idxOf i]'(by omega))with⟨y,bC⟩
   rw[an]at cm;have eK:=AT cm;rw[ad]at eK;rw[eK];have jj:=Wi cR (Ar J s.loc) (bK.map (gL (dp cR))) (cR.idxOf i) ih (by grind) (λq bX=>by grind) h1
   grind
  ·rw[O6 _ _ _ _ az,ku i az,afo,h.loc,fe];cases os[i]?<;>rfl
 ·show bg _ _ _ _ (look (Jr J s.env) t);rw[afn];have ab:=(O5 (J:=J) ng lr (h.env t)).2;split
  ·rename_i aq;subst aq;rwa[O7.2]at ab
  omega
 ·rcases cL hi with⟨k,bC,hk,rfl,al,rfl⟩| ⟨Gn,dx,h1,rfl⟩
  ·have Pb:=yU.cW k x bC al;have tv:∀b,bC≠ .bn->bI x=some b->ba.mine b:=by
    intro b aa cx;rcases hblk b ⟨k,x,bC,al,aa,cx⟩with h1|h1
    ·grind
    ·exact e8.sr h.hB h1
   cases bC with
   |bn=>exact trivial
   |gone=>exact Pb
   |cB ds=>exact trivial
   |row e ay es=>
    obtain⟨_,xs,b0,cC,gY,br,ao⟩:=Pb;exact⟨λb cx=>tv b (by simp) cx,xs,b0,cC,gY,br,λeO jo r d h1 ad=>by
     obtain⟨v,ab,hi⟩:=ao eO jo r d h1 ad;exact⟨v,ab,hi.cA tr⟩⟩
   |cells t cs=>
    obtain⟨g,arr,rfl,Kh,bw,ae,br,kb⟩:=Pb;refine⟨g,arr,rfl,tv g (by simp) rfl,bw,by grind,br,λj v d ab aa=> ?_⟩;rw[fe]at aa;cases aq:cs[j]? with
    |none=>grind
    |some ck=>
     rw[aq]at aa;simp at aa;subst aa;refine(Wg ct tr (kb j v ck ab aq)).1 (br v ?_)
     grind
  ·have fM:=h.cW _ _ _ h1;have Ws:∀b,dx≠ .bn->bI x=some b->w'.heap[b]?=w.heap[b]?:=by
    intro b aa cx;refine rL b ((fM.iY aa cx).2) (λkt=> ?_);obtain⟨k,y,o,hk,ad,aN,bs⟩:=DE kt;have:=h.inj i (dp cR k) _ _ _ _ b h1 ad aa aN cx bs
    grind
   cases dx with
   |bn=>exact trivial
   |gone=>exact fM
   |cB ds=>
    obtain⟨aA,aG,bc,cn⟩:=fM;refine⟨aA,by grind,bc,λAK v d ab aa=> ?_⟩;rw[fe]at aa;cases aq:ds[AK]? with
    |none=>grind
    |some ck=>
     rw[aq]at aa;simp at aa;subst aa;exact(O5 (J:=J) ng lr (cn AK v ck ab aq)).1 (bc v (fq ab))
   |cells t cs=>
    obtain⟨g,arr,rfl,Kh,bw,ae,br,kb⟩:=fM;refine⟨g,arr,rfl,Kh,(Ws g (by simp) rfl).trans bw,by grind,br,λj v d ab aa=> ?_⟩;rw[fe]at aa;cases aq:cs[j]? with
    |none=>grind
    |some ck=>
     rw[aq]at aa;simp at aa;subst aa;refine(O5 (J:=J) ng lr (kb j v ck ab aq)).1 (br v ?_)
     grind
   |row e ay es=>
    obtain⟨afA,xs,b0,cC,gY,br,ao⟩:=fM;refine⟨afA,xs,⟨b0.1,?_⟩,cC,gY,br,λeO jo r d h1 ad=> ?_⟩
    ·rcases b0.2 with aV| ⟨g,cap,cur,rfl,Kh,bw,rest⟩
     ·grind
     ·exact .inr ⟨g,cap,cur,rfl,Kh,(Ws g (by simp) rfl).trans bw,rest⟩
    ·obtain⟨v,ab,hi⟩:=ao eO jo r d h1 ad;exact⟨v,ab,hi.cA ng⟩
 ·have Wt:∀ {i j:Nat} {x y:Value} {k:Nat} {bC fT:aX},k<cR.length->sw[k]?=some (x,bC)->bC≠ .bn->bI x=some b->j∉cR->os[j]?=some (y,fT)->fT≠ .bn->bI y=some b->False:=by
   intro i j x y k bC fT hk al aa yV aq qj kw iZ;rcases Wq ⟨k,x,bC,al,aa,yV⟩with⟨eO,z,o,hq,ad,aN,bs⟩|ad
   ·have:=h.inj j (dp cR eO) _ _ _ _ b qj ad kw aN iZ bs
    grind
   ·have:=((h.cW _ _ _ qj).iY kw iZ).2;omega
  rcases cL hi with⟨cV,OY,jk,rfl,rG,rfl⟩| ⟨pF,dx,h1,rfl⟩<;>rcases cL aq with⟨dj,aub,mF,rfl,xm,rfl⟩| ⟨Ki,fT,ad,rfl⟩
  ·rw[yU.inj cV dj _ _ _ _ b rG xm (DH _ d1) (DH _ d2) cX c0]
  ·exact(Wt (i:=0) jk rG (DH _ d1) cX Ki ad (dq _ d2) c0).elim
  ·exact(Wt (i:=0) mF xm (DH _ d2) c0 pF h1 (dq _ d1) cX).elim
  ·exact h.inj _ _ _ _ _ _ b h1 ad (dq _ d1) (dq _ d2) cX c0
end
open Go
section
variable {P:Program} {ah:dJ} {aD:Nat->Prop} {ba:e8} {n:Nat} {os aP:c3} {s:bJ} {a:Act} {w:World} {o:Oper} {K:bJ->Prop} {A:Nat->Prop} {pass:List Nat} {J:List Nat}
def Gq(pass:List Nat):ak->Prop
 | .own j| .aW j _| .dU j _| .de j _ _=>j∈pass
 |_=>False
def AV(aD:Nat->Prop)(os:c3)(J pass:List Nat)(w:World)(v:Value)(d:ak):Prop:=b7 (mc aD os J) w v d\/(Gq pass d/\bg (bh aD os) os w v d)
def Kj(aD:Nat->Prop)(os:c3)(J pass:List Nat)(w:World)(v:Value)(d:ak):Prop:=AV aD os J pass w v d\/∃ (vs:List Value) (ds:List ak),v= .agg vs.toArray/\d= .agg ds/\vs.length=ds.length/\(∀x∈vs,x.oneCell'=true)/\∀ (i:Nat) x e,vs[i]?=some x->ds[i]?=some e->AV aD os J pass w x e
theorem AV.hr(bp:∀b,bh aD aP b->mc aD os J b)(hk:∀ (i:Nat) x o,i∉J->os[i]?=some (x,o)->∃aT,aP[i]?=some (x,aT)/\en o aT)(xD:∀j∈pass,j∉J){v:Value}{d:ak}(h:AV aD os J pass w v d):bg (bh aD aP) aP w v d:=by
 rcases h with h| ⟨an,h⟩
 ·exact .bQ (h.cA (dy.ic bp))
 ·cases h with
  |bQ h=>cases h<;>first|exact an.elim|exact .bQ .aY
  |aW h=>
   obtain⟨aT,h1,ad⟩:=hk _ _ _ (xD _ an) h;cases aT<;>simp[en]at ad
   exact .aW h1
  |dU h=>
   obtain⟨aT,h1,ad⟩:=hk _ _ _ (xD _ an) h;cases aT<;>simp[en]at ad
   exact .dU h1
  |de h=>
   obtain⟨aT,h1,ad⟩:=hk _ _ _ (xD _ an) h;cases aT<;>simp[en]at ad
   obtain⟨rfl,rfl⟩:=ad;exact .de h1
  |own h aQ=>
   obtain⟨aT,h1,ad⟩:=hk _ _ _ (xD _ an) h;cases aT<;>simp[en]at ad
   exact .own h1 aQ
  |e5 h aa aQ=>
   rcases aa with rfl| ⟨_,_,rfl⟩
   ·obtain⟨aT,h1,ad⟩:=hk _ _ _ (xD _ an) h;cases aT<;>simp[en]at ad
    exact .e5 h1 (.inl rfl) aQ
   ·obtain⟨aT,h1,ad⟩:=hk _ _ _ (xD _ an) h;cases aT<;>simp[en]at ad
    exact .e5 h1 (.inr ⟨_,_,rfl⟩) aQ
  |agg=>exact an.elim
  |be=>exact an.elim
  |fn=>exact an.elim
  |b8=>exact an.elim
theorem Kj.hr(bp:∀b,bh aD aP b->mc aD os J b)(hk:∀ (i:Nat) x o,i∉J->os[i]?=some (x,o)->∃aT,aP[i]?=some (x,aT)/\en o aT)(xD:∀j∈pass,j∉J){v:Value}{d:ak}(h:Kj aD os J pass w v d):bg (bh aD aP) aP w v d:=by
 rcases h with h| ⟨vs,ds,rfl,rfl,af,br,an⟩
 ·exact h.hr bp hk xD
 ·exact .agg af br (λi x e ag he=>(an i x e ag he).hr bp hk xD)
theorem Wu(h:cd aD ba n os s a w){v:Value}{d:ak}{Q:ak->Prop}(ao:bg (bh aD os) os w v d)(ed:∀e j,e∈nx d->nh e=some j->pass.contains j=false->j∈J)(af:xh pass s.loc d Q):∃ck,Q ck/\AV aD os J pass w v ck:=by
 have gr: (∀e j,e∈nx d->nh e=some j->j∈J)->ot s.loc d Q->∃ck,Q ck/\AV aD os J pass w v ck:=λaq af=>by
  obtain⟨ck,h1,ad⟩:=OZ h ao aq af;exact⟨ck,h1,.inl ad⟩
 cases d with
 |own j=>
  simp only[xh]at af;split at af
  ·rename_i al;exact⟨_,af,.inr ⟨by simpa[Gq]using al,ao⟩⟩
  ·rename_i al;exact gr (λe jo he aq=>by
    simp only[nx,eJ]at he;subst he;simp[nh]at aq;subst aq;exact ed (.own _) _ (by simp[nx]) rfl al) af
 |aW j off=>
  simp only[xh]at af;split at af
  ·rename_i al;exact⟨_,af,.inr ⟨by simpa[Gq]using al,ao⟩⟩
  ·rename_i al;exact gr (λe jo he aq=>by
    simp only[nx,eJ]at he;subst he;simp[nh]at aq;subst aq;exact ed (.aW _ off) _ (by simp[nx]) rfl al) af
 |dU j off=>
  simp only[xh]at af;split at af
  ·rename_i al;exact⟨_,af,.inr ⟨by simpa[Gq]using al,ao⟩⟩
  grind
 |de j gZ off=>
  simp only[xh]at af;split at af
  ·rename_i al;exact⟨_,af,.inr ⟨by simpa[Gq]using al,ao⟩⟩
  grind
 |fn f cr=>
  simp only[xh]at af;split at af
  ·grind
  ·rename_i al;refine gr (λe j he aq=>ed e j he aq ?_) af;simp only[nx,ko]at he;rw[List.any_eq_false]at al;have:=al e he.1;cases e<;>simp[Oc]at he
   simp[nh]at aq;subst aq;simpa[C5]using this
 |_=>exact gr (λe j he=>by simp[nx]at he) af
theorem Wv(h:cd aD ba n os s a w):∀ (vs:List Value) (ds:List ak) {Q:List ak->Prop},vs.length=ds.length->(∀ (i:Nat) v d,vs[i]?=some v->ds[i]?=some d->bg (bh aD os) os w v d)->(∀e j,e∈ds.flatMap nx->nh e=some j->pass.contains j=false->j∈J)->
  Oe pass s.loc ds Q->∃iw,Q iw/\vs.length=iw.length/\∀ (i:Nat) v d,vs[i]?=some v->iw[i]?=some d->AV aD os J pass w v d
 | [],[],Q,_,_,_,af=>⟨[],af,rfl,by simp⟩
 | [],_::_,Q,h1,_,_,_=>by grind
 |_::_,[],Q,h1,_,_,_=>by grind
 |v::vs,d::ds,Q,h1,ao,ed,af=>by
  obtain⟨ck,af,hi⟩:=Wu h (ao 0 v d rfl rfl) (λe j he aq=>ed e j (by grind) aq) af;obtain⟨iw,bX,hlen,an⟩:=Wv h vs ds (by grind) (λi v d ab aa=>ao (i+1) v d (by grind) (by grind)) (λe j he aq=>ed e j (by grind) aq) af
  grind
theorem afB(h:cd aD ba n os s a w){v:Value}{d:ak}{Q:ak->Prop}(ao:bg (bh aD os) os w v d)(ed:∀e j,e∈gX [d]->nh e=some j->pass.contains j=false->j∈J)(af:Of pass s.loc d Q):∃ck,Q ck/\Kj aD os J pass w v ck:=by
 by_cases aa:∃cs,d= .agg cs
 ·obtain⟨cs,rfl⟩:=aa;obtain⟨vs,rfl,hlen,br,an⟩:=ao.xl;obtain⟨iw,bX,gM,iN⟩:=Wv h vs cs hlen an (λe j he aq=>ed e j (by
   simp only[gX,jQ];exact he) aq) af
  exact⟨_,bX,.inr ⟨vs,iw,rfl,rfl,gM,br,iN⟩⟩
 ·have h1:Of pass s.loc d Q=xh pass s.loc d Q:=by cases d<;>first|rfl|exact absurd ⟨_,rfl⟩ aa
  rw[h1]at af;have ad:gX [d]=nx d:=by cases d<;>first|exact absurd ⟨_,rfl⟩ aa|simp[gX]
  rw[ad]at ed;obtain⟨ck,bX,ag⟩:=Wu h ao ed af;exact⟨ck,bX,.inl ag⟩
theorem Ww(h:cd aD ba n os s a w):∀ (vs:List Value) (ds:List ak) {Q:List ak->Prop},vs.length=ds.length->(∀ (i:Nat) v d,vs[i]?=some v->ds[i]?=some d->bg (bh aD os) os w v d)->(∀e j,e∈gX ds->nh e=some j->pass.contains j=false->j∈J)->
  Og pass s.loc ds Q->∃iw,Q iw/\vs.length=iw.length/\∀ (i:Nat) v d,vs[i]?=some v->iw[i]?=some d->Kj aD os J pass w v d
 | [],[],Q,_,_,_,af=>⟨[],af,rfl,by simp⟩
 | [],_::_,Q,h1,_,_,_=>by grind
 |_::_,[],Q,h1,_,_,_=>by grind
 |v::vs,d::ds,Q,h1,ao,ed,af=>by
  obtain⟨ck,af,hi⟩:=afB h (ao 0 v d rfl rfl) (λe j he aq=>ed e j (by rw[J7];grind) aq) af;obtain⟨iw,bX,hlen,an⟩:=Ww h vs ds (by grind) (λi v d ab aa=>ao (i+1) v d (by grind) (by grind)) (λe j he aq=>ed e j (by rw[J7];grind) aq) af
  grind
variable{args:List ak}
theorem afC{e:ak}{j:Nat}(he:e∈gX args)(aq:nh e=some j)(aV:pass.contains j=false):j∈jq (C6 pass args):=by
 refine AQ (d:=e) ?_ aq;simp only[C6,ko];refine⟨he,?_⟩;cases e<;>simp[nh]at aq
 all_goals grind
theorem afD{j:Nat}(h:j∈jq (C6 pass args)):j∉pass:=by
 obtain⟨e,he,aq⟩:=NQ.1 h;simp only[C6,ko]at he;cases e<;>simp[nh]at aq
 all_goals grind
theorem Kk:∀ (q i:Nat),(bM i q).length=q
 |0,i=>rfl
 |q+1,i=>by rw[bM,l7,Kk q]
theorem Kl:∀ (q i j:Nat),j∈bM i q↔i<=j/\j<i+q
 |0,i,j=>by simp only[bM,List.not_mem_nil,false_iff];omega
 |q+1,i,j=>by rw[bM,pt,Kl q];omega
theorem Wx:∀ (q i:Nat),(bM i q).Nodup
 |0,i=>List.nodup_nil
 |q+1,i=>I6.2 ⟨λh=>by rw[Kl]at h;omega,Wx q _⟩
theorem Km:∀ {l cK:List ak},m4 l cK->l.length=cK.length/\∀ (i:Nat) c d,l[i]?=some c->cK[i]?=some d->hQ c d
 | [],[],_=>⟨rfl,λi c d h _=>by grind⟩
 | [],_::_,h=>h.elim
 |_::_,[],h=>h.elim
 |x::l,y::cK,h=>by
  obtain⟨h1,ad⟩:=Km h.2;refine⟨by grind,λi c d al aa=> ?_⟩;cases i with
  |zero=>
   simp only[CE,vN]at al aa;subst al;subst aa;exact h.1
  |succ i=>grind
theorem Wy(h:cd aD ba n os s a w):∀m,∃aP,cd aD ba n aP ⟨s.env,s.loc++List.replicate m .bn⟩ a w/\(∀i,i<os.length->aP[i]?=os[i]?)/\∀i,os.length<=i->i<os.length+m->aP[i]?=some (.nilFunc,.bn)
 |0=>⟨os,by simp_all,λ_ _=>rfl,λi h1 ad=>by omega⟩
 |m+1=>by
  obtain⟨aP,bp,g1,g2⟩:=Wy h m;have af:aP.length=os.length+m:=by
   have:=bp.len;simp only[fw,CH,h.len]at this;omega
  have:=bp.push (x:=.nilFunc) (bC:=.bn) (grownBy.uO w none) (by simp[bI]) trivial;refine⟨aP++ [(.nilFunc,.bn)],?_,λi hi=> ?_,λi h1 ad=> ?_⟩
  ·rw[I8,<-k1];omega
  all_goals grind
theorem afE{f:FuncId}{args:List ak}{fL:List Value}{K:ak->bJ->Prop}(h:cd aD ba n os s a w)(af:fL.length=args.length)(an:∀ (i:Nat) v d,fL[i]?=some v->args[i]?=some d->bg (bh aD os) os w v d)(ap:U5 P f args s K):
  (∀ (vs:Array Value) (w:World),(callFunc f vs).run P w= .ok (.enter f vs) w)/\Calls P f fL.toArray w λe w'=>∃v r aP s',e= .returned v/\cd aD ba n aP s' a w'/\bg (bh aD aP) aP w' v r/\K r s':=by
 obtain⟨pass,ap⟩:=ap;obtain⟨l,ap,i0,afF⟩:=Ww (J:=jq (C6 pass args)) h fL args af an (λe j he aq aV=>afC he aq aV) ap;obtain⟨hM,gH,h1,ap,fO,ss⟩:=xv _ h ap;obtain⟨L,kq,kept,bK,d,jr,q0,xC,Gr,ap⟩:=ap;simp only[cq]at q0;obtain⟨⟨⟨⟨⟨o5,wh⟩,ih⟩,aB⟩,xB⟩,AS⟩:=q0;simp only[nv]at aB;have aB:∀i∈pass,i<gH.loc.length:=λi hi=>nw (aB i hi);obtain⟨k5,ad,g1,g2⟩:=Wy h1 (bK.length-L.length);obtain⟨xn,Gp,_⟩:=xA (k:=0) o5;obtain⟨eF,_⟩:=Gm xC;obtain⟨nb,Gs⟩:=Km Gr;have auc:=h1.len;have Pc:=ad.len;simp only[fw,CH]at Pc;generalize ov:bM gH.loc.length (bK.length-L.length)=news at *
 have afG:sn (gH.loc++List.replicate (bK.length-L.length) .bn) (dp (pass++news)) pass L:=by
  have gen:∀ (p:List Nat) (q:List aX),(∀i∈p,i<gH.loc.length)->sn gH.loc (dp (pass++news)) p q->sn (gH.loc++List.replicate (bK.length-L.length) .bn) (dp (pass++news)) p q:=by
   intro p;induction p with
   |nil=>intro q _ h;cases q<;>exact h
   |cons i p a1=>
    intro q hi h;cases q with
    |nil=>exact h
    |cons o q=>
     refine⟨?_,a1 q (λi az=>hi i (by grind)) h.2⟩;have:=h.1;rw[lm]at this⊢
     grind
  grind
 have core:=Kd (s:=⟨gH.env,gH.loc++List.replicate (bK.length-L.length) .bn⟩) (news:=news) (pass:=pass) (J:=yy pass kept) ad jr (λk i hk aV=>.inl (Wh ((xA (k:=0) o5).1.trans eF.symm) hk aV)) o5 wh (by
   rw[List.nodup_append];refine⟨Gi ih,by rw[<-ov];exact Wx _ _,λi hi j aq e=> ?_⟩;subst e;rw[<-ov,Kl]at aq
   grind) (λi hi=>by grind) (λi hi=>by
   rw[<-ov,Kl]at hi
   grind) (by rw[<-ov,Kk];omega) AS (by omega) afG (fL:=fL) (by grind) (λi v d ab aa=>by
   have ek:=(eI.1 ab).1;have qk:=eN (l:=l) (i:=i) (by omega);have ag:=(afF i v _ ab qk).hr fO ss (λj aq az=>afD az aq);have kw: (kq.map (k2 (dp (pass++news))))[i]?=some (k2 (dp (pass++news)) d):=by grind
   have lS:=ag.ic (Gs i _ _ qk kw);have xb:dy (bh aD hM) (mc aD k5 []) w w:=dy.ic (λb ac=>by
    rcases ac with ac| ⟨q,y,aT,bX,dq,_,cx⟩
    ·exact .inl ac
    ·by_cases afH:q<hM.length
     ·rw[g1 q afH]at bX;exact .inr ⟨q,y,aT,bX,dq,cx⟩
     grind)
   refine lS.cA xb (λq y bC bX=>⟨bC,?_,by cases bC<;>simp[en]⟩)
   grind)
 refine⟨jr.1,core.mono λe w' he=> ?_⟩
 grind
end
open Go
section
variable {P:Program} {ah:dJ} {aD:Nat->Prop} {ba:e8} {n:Nat} {os:c3} {s:bJ} {a:Act} {w:World} {o:Oper} {K:bJ->Prop} {A:Nat->Prop}
theorem hU.afI{cells:List Value}{es:List (List ak)}{ay k:Nat}(h:hU A w cells es ay)(hk:k<=es.length):hU A w (cells.take (k*ay)) (es.take k) ay:=by
 have hle:k*ay<=es.length*ay:=kI _ hk;refine⟨by rw[mW,h.len,mW,Nat.min_eq_left hk];omega,λr ao=>h.jS r (om ao),λv ab=>h.eE v (om ab),λeO j r d hq aq=> ?_⟩;have hS:=(eI.1 hq).1;rw[mW]at hS;rw[rs,b3 (by omega)]at hq;have gY:=h.jS _ (fq hq);have iv:=(eI.1 aq).1;have: (eO+1) *ay<=k*ay:=kI _ (by omega);rw[uv]at this;rw[rs,b3 (by omega)];exact h.hr eO j r d hq aq
theorem DI(aw:dw P ah=true){t e e':TypeId}{x hi:Operand}{j k ay:Nat}{es:List (List ak)}{uF:IntKind}{Q:Exit->Act->World->Prop}
  (aH:o.op= .slice t x none (some hi) none) (aa:∀t,o.dst=some t->t<n) (h:cd aD ba n os s a w) (ag:bF s x= .own j) (hk: (aE ah t).k= .fb e') (ax:bN s.loc j= .row e ay es) (cC: (aE ah e').size=ay) (qd:bF s hi= .v (.int uF (k:Int))) (hle:k<=es.length)
  (ap:gp (s.grow j e ay (es.take k)) o.dst (.own j) K):o.wp P a w (dM aD ba n K) Q:=by
 have hu:=lL aw hk;have yW:=h.bF x;rw[ag]at yW;rw[h.loc]at ax;obtain⟨k6,oy⟩:=kN ax (by simp);have nd:=yW.qS oy;subst nd;have o6:=h.bF hi;rw[qd]at o6;have o6:a.eval hi= .int uF (k:Int):=o6.j7.1;obtain⟨xs,b0,Gh,ao⟩:=wa (h.cW _ _ _ oy);have ae: (aE ah e').size≠0:=by omega
 have O1:xs.length=es.length*ay:=b0.1;have nz:∀ {v':Value},(execOp a.eval o).run P w= .ok (.value v') w->w.ownsRow 0 e ay v' (es.take k).length (xs.take (k*ay))->(∀b,bI v'=some b->bI (a.eval x)=some b)->o.wp P a w (dM aD ba n K) Q:=λ{v'} eo wc ac=>by
  refine jG eo ?_;have jH:=h.sub (i:=j) (r:=.aY) (x':=v') (gN:=.row e ay (es.take k)) oy (grownBy.uO _ _) (λb _ cx=>.inl (ac b cx)) (λaP OV=> ?_) (λaP _=>.bQ .aY)
  ·have ls:gp ⟨AC (sk j .aY) s.env,gq (oV (kJ j .aY) s.loc) j (.row e ay (es.take k))⟩ o.dst (.own j) K:=ap;refine dM.put jH aa (.own (e:=e) (ay:=ay) (es:=es.take k) ?_ (wb wc)) ls
   grind
  ·have lr:dy (bh aD os) (bh aD aP) w w:=by
    refine⟨bS _,λb lo ab=> ?_,λb lo aV=>rfl⟩;rcases ab with ab| ⟨i,z,aT,aq,dq,cx⟩
    ·exact .inl ab
    ·rw[OV]at aq;by_cases aG:i=j
     ·subst aG;rw[oT (by grind)]at aq;cases aq;exact .inr ⟨_,_,_,oy,by simp,ac b cx⟩
     ·rw[vL (λe'=>aG e'.symm),fe]at aq;cases ne:os[i]? with
      |none=>grind
      |some p=>
       rw[ne]at aq;cases aq;exact .inr ⟨i,_,_,ne,λe=>dq (by rw[e];rfl),cx⟩
   exact rI (es:=es.take k) (λb cx=>Ds (h.cW _ _ _ oy) b (ac b cx)) wc Gh ((ao.afI hle).cA lr)
 rcases b0.2 with⟨ab,aQ⟩| ⟨g,cap,cur,ab,ct,bw,rJ,qf,lN,J1⟩
 ·have Gd:k=0:=by omega
  subst Gd;have dL:=sq (P:=P) (w:=w) (bS 0);refine nz (v':=.slice none 0 0) ?_ ⟨by simp,.inl ⟨rfl,by simp⟩⟩ (λb ac=>by cases ac);simp[execOp,aH,ab,o6,Instr.sliceAt,gz hu,Instr.slice,Instr.sliceBounds,jT aw ae,Instr.sliceBound,asIntOf]
 ·have dL:=sq (P:=P) (w:=w) (show k<=cap by omega);have sy: (⟨g,0,none⟩:Addr).add (0*ay)= ⟨g,0,none⟩:=by unfold Addr.add;split<;>simp_all
  have eo: (execOp a.eval o).run P w= .ok (.value (.slice (some ⟨g,0,none⟩) k cap)) w:=by
   simp only[execOp,aH,ab,o6,p6,sf,Instr.sliceAt,dX,gz hu,dT,Instr.slice,Instr.sliceBounds,ex,dL,jT aw ae,cC,sy,ite_self,N2]
  have afJ:k*ay<=es.length*ay:=kI _ hle;have hS: (es.take k).length=k:=by grind
  refine nz eo ⟨by grind,.inr ⟨g,cap,cur,by rw[hS],ct,bw,by omega,qf,lN,?_⟩⟩ (λb ac=>by rw[ab];exact ac)
  grind
end
open Go
section
variable {P:Program} {ah:dJ} {aD:Nat->Prop} {ba:e8} {n:Nat} {os:c3} {s:bJ} {a:Act} {w:World} {o:Oper} {K:bJ->Prop} {A:Nat->Prop} {B:Nat}
theorem Wz{f:FuncId}{args:List ak}{fL:List Value}{K:ak->bJ->Prop}(h:cd aD ba n os s a w)(af:fL.length=args.length)(an:∀ (i:Nat) v d,fL[i]?=some v->args[i]?=some d->bg (bh aD os) os w v d)(ap:Jt P f args s K):
  (∀ (vs:Array Value) (w:World),(callFunc f vs).run P w= .ok (.enter f vs) w)/\Calls P f fL.toArray w λe w'=>∃v r aP s',e= .returned v/\cd aD ba n aP s' a w'/\bg (bh aD aP) aP w' v r/\K r s':=by
 obtain⟨l,⟨cK,r,hle,jr,ap⟩,cF⟩:=Gf (J:=jq (gX args)) h fL args af an (λd j aa aq=>AQ aa aq) ap;refine⟨jr.1,(jr.2 _ w fL (λb ac=> ?_) (cF.le hle)).mono λe w' he=> ?_⟩
 ·rcases ac with ac| ⟨i,x,aT,hi,aa,_,cx⟩
  ·exact h.Dq ac
  ·exact((h.cW i x aT hi).iY aa cx).2
 ·obtain⟨v,rfl,hi,ax⟩:=he;cases AW:gX args with
  |nil=>
   rw[AW]at ap hi;refine⟨v,r,os,s,rfl,h.qb ax,.bQ ?_,ap⟩;refine hi.cA (dy.ic (λb ac=> ?_));rcases ac with ac| ⟨i,x,aT,hi,aa,cx⟩
   ·exact .inl ac
   ·exact .inr ⟨i,x,aT,hi,aa,by simp[jq],cx⟩
  |cons d ds=>
   rw[AW]at ap hi;simp only at ap;split at ap
   ·rename_i ae;exact⟨v,r,os,s,rfl,h.qb ax,.bQ (V7 ae hi),ap⟩
   ·obtain⟨aP,s',ao,hk,ag,_⟩:=xv _ h ap;exact⟨v,r,aP,s',rfl,ao.qb ax,.bQ (hi.cA (dy.ic ag)),hk⟩
theorem AX{f:Operand}{k:FuncId}{cr:List Value}{args:Array Operand}{fg:Array TypeId}(aH:o.op= .call {callee:=.value f,args:=args,argTypes:=fg})(au:a.eval f= .func (.func k) #[] cr.toArray)
  (al:∀ (vs:Array Value) (w:World),(callFunc k vs).run P w= .ok (.enter k vs) w): (execOp a.eval o).run P w= .ok (.enter k (args.toList.map a.eval++cr).toArray) w:=by
 have: (#[]++args.map a.eval++cr.toArray)=(args.toList.map a.eval++cr).toArray:=by simp
 simp only[execOp,aH,resolve,au,Deferred.ofValue,dX,ex,dT,invoke,al];simp
theorem AY{vs:List Value}{l:List Operand}{ds cr:List ak}{ρ:Operand->ak}(aa:ds=l.map ρ)(ag:∀x∈l,bg A os w (a.eval x) (ρ x))(af:vs.length=cr.length)(an:∀ (i:Nat) v d,vs[i]?=some v->cr[i]?=some d->bg A os w v d):
  (l.map a.eval++vs).length=(ds++cr).length/\∀ (i:Nat) v d,(l.map a.eval++vs)[i]?=some v->(ds++cr)[i]?=some d->bg A os w v d:=by
 grind
theorem Gt{Q:Exit->Act->World->Prop}{d:ak}(h:cd aD ba n os s a w)(aa:∀t,o.dst=some t->t<n)(ax:∃x,(execOp a.eval o).run P w= .ok (.value x) w/\bg (bh aD os) os w x d)(ap:gp s o.dst d K):o.wp P a w (dM aD ba n K) Q:=by
 obtain⟨x,eo,ao⟩:=ax;exact jG eo (dM.put h aa ao ap)
theorem Kn{d:ak}{Q:ak->Prop}(h:gW d Q):Q d:=ir.1 h
theorem afK(aw:dw P ah=true){t:TypeId}{x y:Operand}{Q:Exit->Act->World->Prop}(aH:o.op= .store t x y)(h:cd aD ba n os s a w)(aa:∀t,o.dst=some t->t<n)(ae: (aE ah t).size≠0)(ap:FJ ah s o.dst t (bF s x) (bF s y) K):o.wp P a w (dM aD ba n K) Q:=by
 unfold FJ at ap;have ag:=h.bF x;split at ap
 ·rename_i i k off ec;rw[ec]at ag;split at ap
  ·rename_i e ay es eF af;rw[h.loc]at af;obtain⟨x',hi⟩:=kN af (by simp);obtain⟨g,m,c,rfl,jU⟩:=ag.FX hi;obtain⟨gb,xy,ap⟩:=ap;split at ap
   ·rename_i ac;simp only[cq]at ac;exact afe aw aH h aa ae jU hi rfl eF xy (fB ac.1) (nw ac.2) ap
   grind
  grind
 grind
theorem WA(aw:dw P ah=true){t:TypeId}{x y:Operand}{d:ak}{Q:Exit->Act->World->Prop}(aH:o.op= .store t x y)(h:cd aD ba n os s a w)(aa:∀t,o.dst=some t->t<n)(e:bF s y=d)(h1:∀b ck,d≠ .b8 b ck)(ad:∀l,d≠ .be l)(aN:d≠ .aY)(ap:Au ah s o.dst t x y d K):o.wp P a w (dM aD ba n K) Q:=by
 unfold Au at ap;have ag:=h.bF x;split at ap
 ·grind
 ·rename_i ae;split at ap
  ·rename_i i off ec;rw[ec]at ag;obtain⟨g,eB,dI,hi,jU⟩:=ag.qR;split at ap
   ·rename_i t2 cs af;rw[h.loc]at af;obtain⟨x',di⟩:=kN af (by simp);rw[hi]at di;cases di;split at ap
    ·grind
    ·rename_i ac;simp only[cq]at ac;exact VS aw aH h aa ae jU hi e h1 ad aN (fB ac.1) (nw ac.2) (w7.1 ap)
   grind
  ·rename_i i off ec;rw[ec]at ag;obtain⟨g,eB,dI,hi,jU⟩:=ag.yG;split at ap
   ·rename_i t2 cs af;rw[h.loc]at af;obtain⟨x',di⟩:=kN af (by simp);rw[hi]at di;cases di;split at ap
    ·rename_i ac;exact VS aw aH h aa ae jU hi e h1 ad aN (fB ac) ap.1 ap.2
    grind
   grind
  ·obtain⟨aP,s',bp,ap,_,_⟩:=xv _ h ap;exact afK aw aH bp aa ae (ir.1 ap)
  grind
theorem afL(d:Nat){t e:TypeId}{p:Option Addr}{n c:Nat}(h:P.underlying t=some (.slice e)): (Op.equalIn (d+1) t (.slice p n c) (.slice none 0 0)).run P w= .ok p.isNone w:=by
 cases p<;>simp[Op.equalIn,gz h]
variable{t e:TypeId}{p:Option Addr}
theorem WB{n c:Nat}(h:P.underlying t=some (.slice e)): (Op.equal t (.slice p n c) (.slice none 0 0)).run P w= .ok p.isNone w:=afL 9999 h
theorem WC{op:BinOp}{t:TypeId}{x y:Operand}{p:Option Addr}{n c:Nat}{v:Value}:eqGuard op t x y (.slice p n c) v=pure ():=by cases op<;>rfl
theorem afM{n c:Nat}(h:P.underlying t=some (.slice e)): (binOp .eql t (.slice p n c) (.slice none 0 0)).run P w= .ok (.bool p.isNone) w:=by
 show (do pure (Value.bool (<-Op.equal t (.slice p n c) (.slice none 0 0))):Sem Value).run P w=_;simp only[dX,WB h,dT,ex]
theorem afN{n c:Nat}(h:P.underlying t=some (.slice e)): (binOp .neq t (.slice p n c) (.slice none 0 0)).run P w= .ok (.bool (!p.isNone)) w:=by
 show (do pure (Value.bool (!(<-Op.equal t (.slice p n c) (.slice none 0 0)))):Sem Value).run P w=_;simp only[dX,WB h,dT,ex]
theorem WD{d:ak}{x:Value}{R:Bool->Prop}(h:cd aD ba n os s a w)(ag:bg (bh aD os) os w x d)(ap:Jv s.loc d R):∃p m c,x= .slice p m c/\R p.isNone:=by
 unfold Jv at ap;split at ap
 ·have:=ag.o0
  grind
 ·have lp:=ag.ny;cases lp with
  |av=>grind
  |nil=>grind
 ·split at ap
  ·rename_i j e ay es af;rw[h.loc]at af;obtain⟨x',di⟩:=kN af (by simp);have:=ag.qS di;subst this;obtain⟨_,xs,⟨_,fm⟩,_⟩:=h.cW _ _ _ di
   grind
  grind
 grind
theorem Ko(aw:dw P ah=true)(aQ: (aE ah 0).size=0){Q:Exit->Act->World->Prop}(h:cd aD ba n os s a w)(aa:∀t,o.dst=some t->t<n)(ap:C7 ah P o s K):o.wp P a w (dM aD ba n K) Q:=by
 unfold C7 at ap;split at ap
 ·rw[h.loc]at ap;obtain⟨c,d,ap,ax⟩:=F7 aw aQ h.cW (ρ:=bF s) (a:=a) (λx _=>h.bF x) ap;obtain⟨al,ap⟩:=qT.1 ap;exact Gt h aa (ax al) ap
 ·split at ap
  ·-- alloc
   rename_i t aH;split at ap
   ·grind
   ·rename_i ae;exact aeX aw aH h aa ae ap
  ·-- box
   rename_i t x aH;have ap:=Kn ap;split at ap
   ·rename_i cs e;exact VP aH h aa e (by simp) (by simp) (by simp) (w7.1 ap)
   ·grind
   ·grind
   ·grind
   ·rename_i d h1 ad aN bs;have o4:dn (bF s x)=[bF s x]:=by
     generalize bF s x=d at *;cases d<;>first|rfl|exact absurd rfl (h1 _)
    refine VP aH h aa rfl (λb ck e=>ad b ck e) (λl e=>aN l e) (λe=>bs e) ?_
    grind
  ·-- store
   rename_i t x y aH;have ap:=Kn ap;split at ap
   ·grind
   ·grind
   ·grind
   ·rename_i d h1 ad aN;exact WA aw aH h aa rfl (λb ck e=>h1 b ck e) (λl e=>ad l e) (λe=>aN e) ap
  ·-- buildSlice
   rename_i t m parts aH;split at ap
   ·rename_i e hk;split at ap
    ·rename_i m1 ae ac;have hle:=nw ac;obtain⟨aP,s',bp,ap⟩:=V8 _ h ap;exact afc aw aH hk (by omega) hle bp aa ap
    grind
   grind
  ·-- makeSlice
   rename_i t l c aH;split at ap
   ·rename_i e hk;split at ap
    ·rename_i m1 yQ OJ tr wm ae el j9;obtain⟨m,N,rfl,rfl,AO,ac,cT,ap⟩:=ap;have af:=h.bF l;have al:=h.bF c;rw[el]at af;rw[j9]at al;exact ae5 aw aH hk (by omega) h aa af.j7.1 al.j7.1 AO ac cT ap
    grind
   grind
  ·-- a cut of a row
   rename_i t x fj hi eS aH;split at ap
   ·rename_i j ec;split at ap
    ·rename_i e ay es af;split at ap
     ·rename_i bw;split at ap
      ·rename_i e' hk;split at ap
       ·rename_i ac;have ac:=fB ac;obtain⟨k,⟨⟨uF,o3⟩,hle⟩,ap⟩:=ap;exact DI aw aH aa h ec hk af ac o3 hle ap
       grind
      grind
     ·rw[h.loc]at af;obtain⟨x',di⟩:=kN af (by simp);obtain⟨bp,_⟩:=h.j6 di;rw[bp.loc]at ap;obtain⟨c,d,ap,ax⟩:=F7 (o:=o) aw aQ bp.cW (ρ:=bF (s.j6 j ay es)) (a:=a) (λx _=>bp.bF x) (by rw[aH];exact ap);obtain⟨al,ap⟩:=qT.1 ap;exact Gt bp aa (ax al) ap
    grind
   grind
  ·-- a aud bytes
   rename_i src dst x aH;split at ap
   ·rename_i j ec;split at ap
    ·rename_i e ay es af;rw[h.loc]at af;obtain⟨x',di⟩:=kN af (by simp);obtain⟨bp,_⟩:=h.j6 di;rw[bp.loc]at ap;obtain⟨c,d,ap,ax⟩:=F7 (o:=o) aw aQ bp.cW (ρ:=bF (s.j6 j ay es)) (a:=a) (λx _=>bp.bF x) (by rw[aH];exact ap);obtain⟨al,ap⟩:=qT.1 ap;exact Gt bp aa (ax al) ap
    grind
   grind
  ·-- a slice aue nil
   rename_i op t x y u aH;split at ap
   ·rename_i e hk OK;have bk:=h.bF y;rw[OK]at bk;have bk:=bk.o0;have hu:=lL aw hk;unfold U6 at ap;split at ap
    ·obtain⟨p,m,c,ag,ap⟩:=WD h (h.bF x) ap;exact Gt h aa ⟨.bool p.isNone,by
      simp only[execOp,aH,ag,bk,WC,dX,ex,dT];rw[afM hu];rfl,.bQ (.v rfl)⟩ ap
    ·obtain⟨p,m,c,ag,ap⟩:=WD h (h.bF x) ap;exact Gt h aa ⟨.bool (!p.isNone),by
      simp only[execOp,aH,ag,bk,WC,dX,ex,dT];rw[afN hu];rfl,.bQ (.v rfl)⟩ ap
    grind
   grind
  ·-- append
   rename_i args fg aH;split at ap
   ·rename_i x y t eB bb jm;split at ap
    ·rename_i e lO hk;have lO:=fB lO;split at ap
     ·grind
     ·rename_i ae;exact VY aw aH bb jm lO hk ae h aa ap
    grind
   grind
  ·-- copy
   rename_i args fg aH;split at ap
   ·rename_i x y t eB bb jm;split at ap
    ·rename_i e lO hk;have lO:=fB lO;split at ap
     ·grind
     ·rename_i ae;exact O2 aw aH bb jm lO hk ae h aa ap
    grind
   grind
  ·-- a call
   rename_i f args fg aH;split at ap
   ·rename_i k cr k7;have au:=h.bF f;rw[k7]at au;obtain⟨vs,ab,af,an⟩:=au.tn;have ap:=xq ap;obtain⟨h1,ad⟩:=AY (l:=args.toList) rfl (λx _=>h.bF x) af an;have afO: (∀ (vs:Array Value) (w:World),(callFunc k vs).run P w= .ok (.enter k vs) w)/\Calls P k (args.toList.map a.eval++vs).toArray w λe w'=>∃v r aP s',e= .returned v/\cd aD ba n aP s' a w'/\bg (bh aD aP) aP w' v r/\gp s' o.dst r K:=by
     rcases ap with ap|ap
     ·exact Wz h h1 ad ap
     ·exact afE h h1 ad ap
    obtain⟨al,wo⟩:=afO;unfold Oper.wp;rw[AX aH ab al];refine wo.mono λe w' he=> ?_;obtain⟨v,r,aP,s',rfl,ao,uV,hk⟩:=he;exact dM.put ao aa uV hk
   grind
  grind
end
open Go
section
variable {P:Program} {ah:dJ} {aD:Nat->Prop} {ba:e8} {n:Nat} {os:c3} {s:bJ} {a:Act} {w:World} {o:Oper} {K:bJ->Prop} {A:Nat->Prop}
theorem afP(aw:dw P ah=true){t ty e:TypeId}(hk: (aE ah t).k= .fb e)(ae: (aE ah e).size≠0){g off m c:Nat}{cur:Array Value}{T:TypeId}(ax:w.heap[g]?=some (.cells cur T (0,0)))(hA:off+m* (aE ah e).size<=cur.size)(az:0<m):
  ∃dY:List Value,dY.length=m* (aE ah e).size/\(∀v∈dY,v.oneCell'=true)/\(Builtin.clear_ #[t] ty #[.slice (some ⟨g,off,none⟩) m c]).run P w= .ok (.tuple #[]) (w.setRow g (cur.toList.take off++dY++cur.toList.drop (off+dY.length)).toArray):=by
 obtain⟨i,hi,_,_,z,bt,nT,af⟩:=rF aw ae;obtain⟨h1,ad,aN⟩:=uK (A:=λ_=>False) (w:=w) nT;have hu:=lL aw hk;have uT: (zeroValue e).run P w= .ok z w:=by simp[zeroValue,typeInfo,hi,bt]
 have cC:z.cells.size=(aE ah e).size:=by
  grind
 have fF:0<(aE ah e).size:=ta ae;have nf: (Builtin.zeroCells z.cells m).toList.length=m* (aE ah e).size:=by simp[Builtin.zeroCells,cC]
 have br:∀v∈ (Builtin.zeroCells z.cells m).toList,v.oneCell'=true:=by
  intro v ab;simp only[Builtin.zeroCells,Array.toList_map,fr]at ab;obtain⟨i,_,rfl⟩:=ab;have aB:i%z.cells.size<z.cells.size:=uw _ (by omega)
  grind
 refine⟨(Builtin.zeroCells z.cells m).toList,nf,br,?_⟩;have bU:=N9 P g off T (Builtin.zeroCells z.cells m).toList 0 cur w ax (by omega) br;simp only[w6]at bU;obtain⟨m,rfl⟩:∃eg,m=eg+1:=⟨m-1,by omega⟩
 simp[Builtin.clear_,gz hu,uT,bU]
theorem WE(aw:dw P ah=true){t ty e:TypeId}(hk: (aE ah t).k= .fb e){cE:Option Addr}{c:Nat}: (Builtin.clear_ #[t] ty #[.slice cE 0 c]).run P w= .ok (.tuple #[]) w:=by
 have hu:=lL aw hk;cases cE<;>simp[Builtin.clear_,gz hu]
theorem hU.cut{cells cells':List Value}{es:List (List ak)}{ay k:Nat}(h:hU A w cells es ay)(hk:k<=es.length)(hlen:cells'.length=cells.length)(br:∀v∈cells',v.oneCell'=true)(al:∀j,j<k*ay->cells'[j]?=cells[j]?):
  hU A w cells' (es.take k++List.replicate (es.length-k) (List.replicate ay .aY)) ay:=by
 refine⟨?_,λr ao=> ?_,br,λeO j r d hq aq=> ?_⟩
 ·rw[hlen,h.len]
  simp_all
 ·rcases eb.1 ao with ao|ao
  ·exact h.jS r (om ao)
  grind
 ·by_cases aB:eO<k
  ·rw[sd (by grind),rs,b3 aB]at hq;have gY:=h.jS _ (fq hq);have iv:=(eI.1 aq).1;rw[al _ (by
    have: (eO+1) *ay<=k*ay:=kI _ (by omega)
    grind)]
   exact h.hr eO j r d hq aq
  ·have hS:=(eI.1 hq).1;rw[w1 (by grind)]at hq;have az:=fq hq;have ao:=UP az;subst ao;have iv:=(eI.1 aq).1;have aa:=UP (fq aq);subst aa;simp at iv hS;have:eO*ay+j<cells'.length:=by
    rw[hlen,h.len];have: (eO+1) *ay<=es.length*ay:=kI _ (by omega)
    grind
   exact⟨cells'[eO*ay+j],eN this,.aY⟩
theorem afQ(aw:dw P ah=true){t e e':TypeId}{x fj:Operand}{d1:Tmp}{fT:Oper}{args:Array Operand}{fg:Array TypeId}{j k ay:Nat}{es:List (List ak)}{uF:IntKind}{Q:Exit->Act->World->Prop}
  (aH:o.op= .slice t x (some fj) none none) (wj:o.dst=some d1) (wq:d1<n) (qj:fT.op= .call {callee:=.builtin .clear,args:=args,argTypes:=fg}) (bb:args.toList=[.tmp d1]) (jm:fg.toList=[t]) (Kp:fT.dst=none)
  (h:cd aD ba n os s a w) (ag:bF s x= .own j) (hk: (aE ah t).k= .fb e') (ax:bN s.loc j= .row e ay es) (cC: (aE ah e').size=ay) (o3:bF s fj= .v (.int uF (k:Int))) (hle:k<=es.length)
  (ap:K ⟨(d1,.aY)::s.env,gq s.loc j (.row e ay (es.take k++List.replicate (es.length-k) (List.replicate ay .aY)))⟩):
  o.wp P a w (λcH eL=>fT.wp P cH eL (dM aD ba n K) Q) Q:=by
 have hu:=lL aw hk;have yW:=h.bF x;rw[ag]at yW;rw[h.loc]at ax;obtain⟨k6,hi⟩:=kN ax (by simp);have nd:=yW.qS hi;subst nd;have o6:=h.bF fj;rw[o3]at o6;have o6:a.eval fj= .int uF (k:Int):=o6.j7.1;obtain⟨xs,b0,Gh,ao⟩:=wa (h.cW _ _ _ hi);have ae: (aE ah e').size≠0:=by omega
 have AF:d1<a.tmps.size:=by rw[h.size];omega
 have afR:∀me:Value,(a.put o.dst me).eval (.tmp d1)=me:=λme=>by
  rw[wj];show (a.put (some d1) me).tmps.getD d1 undef=me;rw[VH AF,b3 rfl]
 obtain rfl:args= #[.tmp d1]:=by grind
 obtain rfl:fg= #[t]:=by grind
 have Gu:∀ {me r:Value} {w':World},(Builtin.clear_ #[t] fT.type #[me]).run P w= .ok r w'->(execOp (a.put o.dst me).eval fT).run P w= .ok (.value r) w':=λ{me r w'} ao=>by
  simp only[execOp,qj,resolve,invoke,builtin,dX,ex,dT,CK,oi,w3,afR me,ao]
 have Pd:∀me:Value,cd aD ba n os ⟨(d1,.aY)::s.env,s.loc⟩ (a.put o.dst me) w:=λme=>by
  rw[wj];exact h.put (dst:=some d1) (λt cI=>by grind) (.bQ .aY)
 have Di:es.length-k=0->gq s.loc j (.row e ay (es.take k++List.replicate (es.length-k) (List.replicate ay .aY)))=s.loc:=λaQ=>by
  have afS:es.take k=es:=w5 (by omega);rw[aQ,afS];simp only[List.replicate_zero,jQ];rw[mC,h.loc];refine rr λi=> ?_
  grind
 have idle:∀ {me:Value},es.length-k=0->(execOp a.eval o).run P w= .ok (.value me) w->(Builtin.clear_ #[t] fT.type #[me]).run P w= .ok (.tuple #[]) w->o.wp P a w (λcH eL=>fT.wp P cH eL (dM aD ba n K) Q) Q:=λ{me} aQ h1 ad=>by
  refine jG h1 (jG (Gu ad) ?_);rw[Kp];refine⟨os,_,Pd me,?_⟩
  grind
 rcases b0.2 with⟨ab,aQ⟩| ⟨g,cap,cur,ab,ct,bw,rJ,qf,lN,J1⟩
 ·have Gd:k=0:=by omega
  subst Gd;have dL:=sq (P:=P) (w:=w) (bS 0);refine idle (me:=.slice none 0 0) (by omega) ?_ (WE aw hk);simp[execOp,aH,ab,o6,Instr.sliceAt,gz hu,Instr.slice,Instr.sliceBounds,jT aw ae,Instr.sliceBound,asIntOf]
 ·have dL:=sq (P:=P) (w:=w) hle;have eo: (execOp a.eval o).run P w= .ok (.value (.slice (if cap=k then some ⟨g,0,none⟩else some ((⟨g,0,none⟩:Addr).add (k*ay))) (es.length-k) (cap-k))) w:=by
   simp only[execOp,aH,ab,o6,p6,sf,Instr.sliceAt,dX,gz hu,dT,Instr.slice,Instr.sliceBounds,ex,dL,jT aw ae,cC]
  by_cases nU:es.length-k=0
  ·rw[nU]at eo;exact idle nU eo (WE aw hk)
  ·have sy: (⟨g,0,none⟩:Addr).add (k*ay)= ⟨g,k*ay,none⟩:=by unfold Addr.add;split<;>simp_all
   rw[bm (by omega),sy]at eo;have hA:k*ay+(es.length-k) * (aE ah e').size<=cur.size:=by
    rw[cC,<-uv,show k+(es.length-k)=es.length by omega,lN];exact kI _ rJ
   obtain⟨dY,nf,nT,ix⟩:=afP aw (ty:=fT.type) (c:=cap-k) hk ae bw hA (by omega);rw[cC]at nf;refine jG eo (jG (Gu ix) ?_);rw[Kp];have h1:=Pd (.slice (some ⟨g,k*ay,none⟩) (es.length-k) (cap-k));have iP:w.grownBy (w.setRow g (cur.toList.take (k*ay)++dY++cur.toList.drop (k*ay+dY.length)).toArray) (bI (a.eval x)):=by rw[ab];exact JX
   have Gb:k*ay+dY.length<=cur.toList.length:=by
    grind
   have O1:xs.length=es.length*ay:=b0.1;have lr:=Ka (aD:=aD) (gN:=.row e ay (es.take k++List.replicate (es.length-k) (List.replicate ay .aY))) hi (by simp) iP;have Kq:=ao.cut (cells':=xs.take (k*ay)++dY) hle (by
    rw[fw,mW,nf,O1,N1];omega) (λv ab=>by
    rcases eb.1 ab with ab|ab
    ·exact ao.eE v (om ab)
    grind) (λj aq=>by
    rw[sd (by simp_all),rs,b3 aq])
   refine⟨_,_,h1.F9 hi (gN:=.row e ay (es.take k++List.replicate (es.length-k) (List.replicate ay .aY))) ⟨rfl,rfl⟩ (by simp) (by simp) iP ?_,ap⟩;have rK: (es.take k++List.replicate (es.length-k) (List.replicate ay ak.aY)).length=es.length:=by grind
   refine rI (H:=ba) (Ds (h.cW _ _ _ hi)) (xs:=xs.take (k*ay)++dY) ⟨by rw[Kq.len],.inr ⟨g,cap,_,by grind,ct,Jl w g cur _ e _ bw,by omega,qf,?_,?_⟩⟩ Gh (Kq.cA lr)
   ·grind
   ·rw[rK];apply rr;intro i;have afJ:k*ay<=es.length*ay:=kI _ hle;have auf:dY.length=es.length*ay-k*ay:=by grind
    grind
end
open Go
section
variable {P:Program} {ah:dJ} {aD:Nat->Prop} {ba:e8} {n:Nat} {os:c3} {s:bJ} {a:Act} {w:World} {o:Oper} {K:bJ->Prop} {A:Nat->Prop} {B:Nat} {ρ:Operand->ak} {loc:List aX} {Q:Option Prop->ak->Prop}
variable{d:ak}
theorem WF{c:ak->Option Prop}(h:gW d λd=>Q (c d) d):∃c d,Q c d:=⟨c d,d,(ir (K:=λd=>Q (c d) d)).1 h⟩
theorem Kr{agg:Bool}{size:Nat}{l:List ak}{R:ak->Prop}(h:mA agg size l R):∃d,R d:=by
 unfold mA at h;split at h
 ·exact⟨_,(FU h).2⟩
 ·split at h
  ·exact⟨_,ir.1 h⟩
  grind
theorem Pe{place:Nat->Nat×Nat}{R:List ak->Prop}:∀ {parts:List (Nat×Operand)} {cs:List ak},rA ρ place parts cs R->∃l,R l
 | [],cs,h=>⟨cs,h⟩
 | (i,x)::r,cs,h=>by
  have h:=ir.1 h;split at h
  ·grind
  ·grind
  ·grind
  ·split at h
   ·exact Pe (w7.1 h)
   grind
theorem Ks{b:Bool}{d:ak}{R:Option Prop->ak->Prop}(h:tf b d R):∃c d,R c d:=by
 unfold tf at h;split at h<;>exact⟨_,_,h⟩
theorem afT{c x y:Operand}(h:Am ρ c x y Q):∃c d,Q c d:=by
 unfold Am at h;split at h
 ·obtain⟨fJ,x',h⟩:=Ks h;obtain⟨eP,qU,h⟩:=Ks h;obtain⟨_,_,_,_,_,h,_⟩:=JM (ir.1 (ir.1 h))
  grind
 grind
theorem afU{t:TypeId}{op:BinOp}{x y:ak}(h:CS ah t op x y Q):∃c d,Q c d:=by
 unfold CS at h;split at h
 ·split at h
  ·unfold FD at h;split at h<;>first|exact h.elim|exact⟨_,_,h⟩
  ·split at h
   ·unfold FC at h;split at h<;>first|exact h.elim|exact⟨_,_,h⟩
   grind
 ·unfold Jn at h;split at h<;>first|exact h.elim|exact⟨_,_,h⟩
 ·split at h
  ·unfold FE at h;split at h<;>first|exact h.elim|exact⟨_,_,h⟩
  grind
 ·unfold CR at h;split at h
  ·split at h
   ·obtain⟨_,_,_,_,_,_,h⟩:=JO h;grind
   ·obtain⟨_,_,_,_,_,_,h⟩:=JO h;grind
   grind
  grind
 grind
theorem WG{op:Op}(h:oq ah loc op ρ Q):∃c d,Q c d:=by
 unfold oq at h;split at h
 ·exact⟨_,_,ir.1 h⟩
 ·exact⟨_,_,ir.1 h⟩
 ·exact afT h
 ·unfold xc at h;split at h<;>first|exact h.elim|exact⟨_,_,h⟩| (split at h<;>first|exact h.elim|exact⟨_,_,h⟩)
 ·exact afU h
 ·unfold CT at h;split at h<;>first|exact h.elim|exact⟨_,_,h⟩
 ·unfold CU at h
  grind
 ·unfold xd at h;split at h
  ·split at h
   ·grind
   ·split at h
    ·grind
    ·grind
    ·split at h<;>first|exact h.elim|exact⟨_,_,h⟩
    ·exact⟨_,_,(rE h).2⟩
    grind
  grind
 ·unfold CV at h;split at h
  ·split at h
   ·grind
   ·split at h
    ·obtain⟨_,h⟩:=Kr (rE h).2;grind
    grind
  grind
 ·unfold xe at h;split at h
  ·split at h
   ·grind
   ·unfold An at h
    grind
  ·split at h
   ·grind
   ·unfold CW at h
    grind
  grind
 ·unfold CX at h;split at h
  ·split at h
   ·grind
   ·split at h
    ·obtain⟨_,_,h⟩:=h;exact WF h
    grind
   grind
  grind
 ·unfold uB at h;split at h
  ·grind
  ·split at h
   ·obtain⟨_,h⟩:=Kr h;grind
   ·split at h
    ·obtain⟨_,h⟩:=Kr (rE h).2;grind
    grind
   ·split at h
    ·split at h
     ·grind
     ·obtain⟨_,h⟩:=h;exact WF h
    grind
   ·split at h
    ·obtain⟨_,h⟩:=h;obtain⟨_,h⟩:=Kr (rE h).2;grind
    grind
   grind
 ·unfold CY at h;split at h
  ·have h:=(rE h).2;split at h
   ·exact⟨_,_,ir.1 h⟩
   grind
  grind
 ·unfold CZ at h
  grind
 ·split at h
  ·have h:=xq h
   grind
  grind
 ·unfold C1 at h;split at h
  ·split at h
   ·obtain⟨_,h⟩:=Pe h;grind
   grind
  ·split at h
   ·obtain⟨_,h⟩:=Pe h;grind
   grind
  grind
 ·split at h
  ·unfold vR at h
   grind
  grind
 ·split at h
  ·unfold Ao at h;split at h<;>first|exact h.elim|exact⟨_,_,h⟩
  grind
 ·split at h
  ·unfold Ap at h;split at h<;>first|exact h.elim|exact⟨_,_,h⟩
  grind
 grind
variable{R:ak->Prop}
theorem afV(h:vS loc d R):∃d,R d:=by
 unfold vS at h
 grind
theorem WH:∀ {ds:List ak} {R:List ak->Prop},yw loc ds R->∃l,R l
 | [],R,h=>⟨_,h⟩
 |d::r,R,h=>by
  obtain⟨_,h⟩:=afV h;obtain⟨_,h⟩:=WH h
  grind
theorem WI(h:ot loc d R):∃d,R d:=by
 unfold ot at h;split at h
 ·grind
 ·grind
 ·obtain⟨_,h⟩:=WH h;grind
 all_goals grind
theorem WJ:∀ {ds:List ak} {R:List ak->Prop},C3 loc ds R->∃l,R l
 | [],R,h=>⟨_,h⟩
 |d::r,R,h=>by
  obtain⟨_,h⟩:=WI h;obtain⟨_,h⟩:=WJ h
  grind
theorem afW(h:uC loc d R):∃d,R d:=by
 unfold uC at h;split at h
 ·obtain⟨_,h⟩:=WJ h;grind
 ·grind
 ·exact WI h
theorem Pf:∀ {ds:List ak} {R:List ak->Prop},th loc ds R->∃l,R l
 | [],R,h=>⟨_,h⟩
 |d::r,R,h=>by
  obtain⟨_,h⟩:=afW h;obtain⟨_,h⟩:=Pf h
  grind
theorem Gv{g:Bool}:∀ {l:List Operand} {R:Option Prop->Prop},py g s l R->∃c,R c
 | [],R,h=>⟨_,h⟩
 |x::r,R,h=>by
  unfold py at h;split at h
  ·obtain⟨_,h⟩:=Gv h;grind
  ·exact Gv h
theorem Gw{g:Bool}(h:cd aD ba n os s a w):∀ {l:List Operand} {R:Option Prop->Prop},py g s l R->∃c,R c/\(Holds c->g=true->∀x∈l,bg (bh aD os) os w (a.eval x) (jD s x))
 | [],R,b1=>⟨_,b1,λ_ _ x ag=>by grind⟩
 |x::r,R,b1=>by
  unfold py at b1;have ag:=h.bF x;split at b1
  ·rename_i dV d e;obtain⟨c,b1,al⟩:=Gw h b1;refine⟨_,b1,λbw ax y bk=> ?_⟩;obtain⟨h1,ad⟩:=Holds.andO.1 bw;rcases pt.1 bk with rfl|bk
   ·unfold jD;rw[e]at ag⊢;exact ag.yF.1 (Holds.j8.1 h1 ax)
   grind
  ·rename_i xx;obtain⟨c,b1,al⟩:=Gw h b1;refine⟨_,b1,λbw ax y bk=> ?_⟩;rcases pt.1 bk with rfl|bk
   ·have:jD s y=bF s y:=by
     unfold jD;generalize bF s y=d at xx;cases d<;>first|rfl|exact absurd rfl (xx _ _)
    grind
   grind
theorem yX{g:Bool}(ax:g=true){K:bJ->Prop}:∀ {l:List Operand} {s:bJ},cd aD ba n os s a w->pz g l s K->∃s',cd aD ba n os s' a w/\K s'
 | [],s,h,ap=>⟨s,h,ap⟩
 | .tmp t::r,s,h,ap=>by
  unfold pz at ap;split at ap
  ·rename_i dV d e;have ag:=h.env t;rw[e]at ag;have aa:=ag.yF.1 (ap.1 ax);refine yX ax (s:=⟨(t,d)::s.env,s.loc⟩) ⟨h.size,h.defers,h.hB,h.a0,h.loc,λeB=> ?_,h.cW,h.inj⟩ ap.2;simp only[look];split
   ·simp_all
   ·exact h.env eB
  ·exact yX ax h ap
 | .const v::r,s,h,ap=>yX ax (l:=r) h (by unfold pz at ap;exact ap)
 | .global v::r,s,h,ap=>yX ax (l:=r) h (by unfold pz at ap;exact ap)
 | .func v::r,s,h,ap=>yX ax (l:=r) h (by unfold pz at ap;exact ap)
theorem afX(aw:dw P ah=true)(aQ: (aE ah 0).size=0){E:Exit->Act->World->Prop}(h:cd aD ba n os s a w)(aa:∀t,o.dst=some t->t<n)(ap:FK ah P o true s K):o.wp P a w (dM aD ba n K) E:=by
 unfold FK at ap;split at ap
 ·obtain⟨dh,ap,kx⟩:=Gw h ap;rw[h.loc]at ap;obtain⟨_,_,Pg⟩:=WG ap;have bw:=Holds.andO.1 (qT.1 Pg).1;obtain⟨c,d,ap,ax⟩:=F7 aw aQ h.cW (ρ:=jD s) (a:=a) (kx bw.1 rfl) ap;obtain⟨al,ap⟩:=qT.1 ap;have nV:Holds c:=by
   have:=(Holds.andO.1 al).2;cases c with
   |none=>exact Holds.OF
   |some p=>exact Holds.j8.2 (Holds.j8.1 this rfl)
  obtain⟨x,eo,ao⟩:=ax nV;exact jG eo (dM.put h aa (.b8 (λ_=>ao) (λe=>by cases e)) ap)
 ·split at ap
  ·rename_i f args fg aH;split at ap
   ·rename_i k cr k7;split at ap
    ·obtain⟨dh,ap,kx⟩:=Gw h ap;have ap:=xq ap;have bw:Holds dh:=by
      obtain⟨k3,_,_,_,_,aV⟩:=Pf ap;exact(qT.1 aV).1
     have oz:=kx bw rfl;have au:=oz f (by rw[aH];simp[Op.operands,Call.operands]);rw[k7]at au;obtain⟨vs,ab,af,an⟩:=au.tn;obtain⟨h1,ad⟩:=AY (os:=os) (A:=bh aD os) (w:=w) (a:=a) (l:=args.toList) (ρ:=jD s) rfl (λx ag=>oz x (by rw[aH];simp only[Op.operands,Call.operands];grind)) af an;obtain⟨k3,⟨cK,r,hle,jr,ap⟩,cF⟩:=Gf (J:=jq (gX (args.toList.map (jD s)++cr))) h _ _ h1 ad (λd j aa aq=>AQ aa aq) ap;have jr:=jr rfl;have ap:=(qT.1 ap).2;have afY: (match gX (args.toList.map (jD s)++cr)with
       | []=>gp s o.dst (.b8 true r) K
       |_=>match xf r with
        |true=>gp s o.dst (.b8 true r) K
        |false=>False)->o.wp P a w (dM aD ba n K) E:=λap=>by
      unfold Oper.wp;rw[AX aH ab jr.1];refine(jr.2 _ w _ (λb ac=> ?_) (cF.le hle)).mono λe w' he=> ?_
      ·rcases ac with ac| ⟨i,x,aT,hi,aa,_,cx⟩
       ·exact h.Dq ac
       ·exact((h.cW i x aT hi).iY aa cx).2
      ·obtain⟨v,rfl,hi,ax⟩:=he;cases AW:gX (args.toList.map (jD s)++cr)with
       |nil=>
        rw[AW]at ap hi;refine dM.put (h.qb ax) aa (.b8 (λ_=>.bQ (hi.cA (dy.ic (λb ac=> ?_)))) (λe=>by cases e)) ap;rcases ac with ac| ⟨i,x,aT,hi,aa,cx⟩
        ·exact .inl ac
        ·exact .inr ⟨i,x,aT,hi,aa,by simp[jq],cx⟩
       |cons d ds=>
        rw[AW]at ap hi;simp only at ap;split at ap
        ·rename_i ae;exact dM.put (h.qb ax) aa (.b8 (λ_=>.bQ (V7 ae hi)) (λe=>by cases e)) ap
        grind
     cases AW:gX (args.toList.map (jD s)++cr)with
     |nil=>grind
     |cons d ds=>
      rw[AW]at ap afY;cases ae:xf r with
      |true=>grind
      |false=>
       simp only[ae]at ap;obtain⟨s',bp,ls⟩:=yX rfl h (ap.1 trivial);exact Ko aw aQ bp aa ls
    ·obtain⟨s',bp,ls⟩:=yX rfl h (ap.1 rfl);exact Ko aw aQ bp aa ls
   grind
  ·obtain⟨s',bp,ls⟩:=yX rfl h (ap.1 rfl);exact Ko aw aQ bp aa ls
variable{g:Bool}
theorem afZ(h:cd aD ba n os s a w)(ax:g=false)(aa:∀t,o.dst=some t->t<n)(ap:FK ah P o g s K):dM aD ba n K (a.put o.dst undef) w:=by
 subst ax;have gone:∀ {d:ak},gp s o.dst (.b8 false d) K->dM aD ba n K (a.put o.dst undef) w:=λap=>dM.put h aa Ga ap;unfold FK at ap;split at ap
 ·obtain⟨_,ap⟩:=Gv ap;obtain⟨_,_,ap⟩:=WG ap;exact gone (qT.1 ap).2
 ·split at ap
  ·split at ap
   ·split at ap
    ·obtain⟨_,ap⟩:=Gv ap;obtain⟨k3,cK,r,_,_,ap⟩:=Pf (xq ap);have ap:=(qT.1 ap).2
     grind
    grind
   grind
  grind
theorem af0{c x y:Operand}(h:yA s g c x y Q):∃c d,Q c d:=by
 unfold yA at h;obtain⟨_,h⟩:=Gv h;split at h
 ·obtain⟨fJ,x',h⟩:=Ks h;obtain⟨eP,qU,h⟩:=Ks h;obtain⟨_,_,_,_,_,h,_⟩:=JM (ir.1 (ir.1 h))
  grind
 grind
theorem WK{c x y:Operand}(aH:o.op= .pick c x y)(DJ:∀ {R:Option Prop->Prop},py true s [c] R->∃dh,R dh/\(Holds dh->bg A os w (a.eval c) (jD s c)))
  (ag:bg A os w (a.eval x) (bF s x)) (bk:bg A os w (a.eval y) (bF s y)) (h:yA s true c x y Q):ln P A os w a o Q:=by
 unfold yA at h;obtain⟨dh,h,al⟩:=DJ h;split at h
 ·rename_i t OG;obtain⟨fJ,x',h,cV⟩:=JL (A:=A) (os:=os) (w:=w) h;obtain⟨eP,qU,h,dj⟩:=JL (A:=A) (os:=os) (w:=w) h;obtain⟨p,q,r,aA,aG,h,ao⟩:=JM (ir.1 (ir.1 h));refine⟨_,_,h,λbw=> ?_⟩;obtain⟨kx,bw⟩:=Holds.andO.1 bw;obtain⟨rG,xm⟩:=Holds.andO.1 bw;have j9:=al kx;rw[OG]at j9;have j9:=j9.j7.1;have jU:t=true->a.eval x= .bool p:=λcI=>by have:=cV _ rG (by grind) ag;rw[aA]at this;exact this.j7.1
  have k4:t=false->a.eval y= .bool q:=λcI=>by have:=dj _ xm (by grind) bk;rw[aG]at this;exact this.j7.1
  have mb:=ao (λhk cI=>by
   have:=jU cI;rw[Vo hk]at this
   grind) (λhk cI=>by
   have:=k4 cI;rw[Vp hk]at this
   grind)
  refine⟨.bool r,?_,.bQ (.v rfl)⟩;simp only[execOp,aH,j9,asBool,dX,ex,dT]
  grind
 grind
theorem WL(aw:dw P ah=true)(aQ: (aE ah 0).size=0){E:Exit->Act->World->Prop}(h:cd aD ba n os s a w)(aa:∀t,o.dst=some t->t<n)(ap:C8 ah P o true s K):o.wp P a w (dM aD ba n K) E:=by
 unfold C8 at ap;split at ap
 ·rename_i c x y aH;obtain⟨c,d,ap,ax⟩:=WK (P:=P) (A:=bh aD os) (os:=os) (w:=w) (a:=a) aH (λb1=>by
   obtain⟨dh,b1,bw⟩:=Gw h b1
   grind) (h.bF x) (h.bF y) ap
  obtain⟨al,ap⟩:=qT.1 ap;obtain⟨x,eo,ao⟩:=ax al;exact jG eo (dM.put h aa (.b8 (λ_=>ao) (λe=>by cases e)) ap)
 ·exact afX aw aQ h aa ap
theorem Ph(h:cd aD ba n os s a w)(ax:g=false)(aa:∀t,o.dst=some t->t<n)(ap:C8 ah P o g s K):dM aD ba n K (a.put o.dst undef) w:=by
 unfold C8 at ap;split at ap
 ·obtain⟨_,_,ap⟩:=af0 ap;subst ax;exact dM.put h aa Ga (qT.1 ap).2
 ·exact afZ h ax aa ap
def AZ(n:Nat)(o:Oper):Bool:=
 match o.dst with
 |some t=>Nat.blt t n
 |none=>true
theorem Pj(h:AZ n o=true):∀t,o.dst=some t->t<n:=by
 intro t e;unfold AZ at h
 simp_all
theorem Kt{b want:Bool}{R:Bool->Prop}:FL b want R↔R (if want then b else !b):=by cases want<;>exact Cz
theorem Pk{E:Exit->Act->World->Prop}{o:Oper}{a:Act}{w:World}{next next':Act->World->Prop}(aV:∀a w,next a w->next' a w)(xE:o.wp P a w next E):o.wp P a w next' E:=by
 unfold Oper.wp at xE⊢;unfold Oper.upon at xE⊢;split at xE
 ·grind
 ·grind
 ·grind
 ·refine xE.mono λe w' he=> ?_
  grind
 ·exact xE.mono λv w' he=>aV _ _ he
 all_goals omega
theorem WM(aw:dw P ah=true)(aQ: (aE ah 0).size=0){ops:Array Oper}{E:Exit->Act->World->Prop}{R:bJ->Prop}{o:Oper}{r:List Oper}{os:c3}{s:bJ}{a:Act}{w:World}(next:∀a w,dM aD ba n R a w->wpList P ops E r a w)
  (af:AZ n o=true) (h:cd aD ba n os s a w) (ap:Jw ah P ops.toList o s R):wpList P ops E (o::r) a w:=by
 have aa:=Pj af;unfold Jw at ap;refine wpList_step λqV ls=> ?_;have step:∀ {a:Act} {w:World},o.wp P a w (dM aD ba n R) E->o.wp P a w qV E:=by
  intro a w xE;exact Pk (λa w js=>ls a w (next a w js)) xE
 split at ap
 ·rename_i ax;rw[b3 (by simp[Region.wanted,ax])];exact step (Ko aw aQ h aa ap)
 ·rename_i j want ax;have bk:∀d,uG ops.toList s j=d->d≠ .aY->∃t,(ops[j]?).bind (·.dst)=some t/\look s.env t=d:=by
   intro d e aq;unfold uG at e
   grind
  split at ap
  ·rename_i b e;obtain⟨t,cI,wr⟩:=bk _ e (by simp);have ab:=h.env t;rw[wr]at ab;have ab:=ab.j7.1;have o7:yielded ops a.tmps j=some b:=by
    have aB:t<a.tmps.size:=by
     rcases mX t a.tmps.size with aB|fU
     ·omega
     ·rw[ps,NE fU]at ab;cases ab
    rw[ps,vF aB]at ab;simp only[qJ]at ab;simp[yielded,cI,aB,ab]
   have ap:=Kt.1 ap;by_cases ac:b=want
   ·subst ac;rw[b3 (by simp[Region.wanted,ax,o7])];have: (if b then b else !b)=true:=by cases b<;>rfl
    rw[this]at ap;exact step (WL aw aQ h aa ap)
   ·rw[bm (by simp[Region.wanted,ax,o7,ac])];have: (if want then b else !b)=false:=by cases b<;>cases want<;>simp at ac⊢
    exact ls _ _ (next _ _ (Ph h this aa ap))
  ·rename_i g b e;obtain⟨t,cI,wr⟩:=bk _ e (by simp);have ab:=h.env t;rw[wr]at ab;obtain⟨Pl,Pm⟩:=ab.yF;have ap:=Kt.1 ap;cases sz:g with
   |false=>
    have ab:=Pm sz;have o7:yielded ops a.tmps j=none:=by
     have:a.tmps[t]?=none\/a.tmps[t]?=some undef:=by
      rw[ps]at ab
      grind
     rcases this with h1|h1<;>simp[yielded,cI,h1,undef]
    rw[bm (by simp[Region.wanted,ax,o7])];exact ls _ _ (next _ _ (Ph h (by grind) aa ap))
   |true=>
    have ab:=(Pl sz).j7.1;have o7:yielded ops a.tmps j=some b:=by
     have aB:t<a.tmps.size:=by
      rcases mX t a.tmps.size with aB|fU
      ·omega
      ·rw[ps,NE fU]at ab;cases ab
     rw[ps,vF aB]at ab;simp only[qJ]at ab;simp[yielded,cI,aB,ab]
    by_cases ac:b=want
    ·subst ac;rw[b3 (by simp[Region.wanted,ax,o7])];have: (g&& (if b then b else !b))=true:=by grind
     rw[this]at ap;exact step (WL aw aQ h aa ap)
    ·rw[bm (by simp[Region.wanted,ax,o7,ac])];have: (g&& (if want then b else !b))=false:=by grind
     exact ls _ _ (next _ _ (Ph h this aa ap))
  grind
theorem Pn(aw:dw P ah=true)(aQ: (aE ah 0).size=0){ops:Array Oper}{E:Exit->Act->World->Prop}{K:bJ->Prop}(cP:∀a w,dM aD ba n K a w->E .normal a w):
  ∀ (l:List Oper) {os:c3} {s:bJ} {a:Act} {w:World},l.all (AZ n)=true->cd aD ba n os s a w->Av ah P ops.toList l K s->wpList P ops E l a w
 | [],os,s,a,w,_,h,ap=>cP a w ⟨os,s,h,ap⟩
 | [o],os,s,a,w,af,h,ap=>by
  simp only[Fk,cq]at af;exact WM aw aQ (λa w js=>cP a w js) af.1 h ap
 |o::fT::r,os,s,a,w,af,h,ap=>by
  simp only[Fk,cq]at af;unfold Av at ap;split at ap
  ·rename_i al;have next:∀a w,dM aD ba n (λs=>Av ah P ops.toList r K s) a w->wpList P ops E r a w:=λa w ⟨os,s,h,ap⟩=>Pn aw aQ cP r af.2.2 h ap;unfold U7 at ap;split at ap
   ·rename_i t x fj args fg d1 aH qj ax iP wj Kp;split at ap
    ·rename_i d2 t2 e' j bb jm hk ag;split at ap
     ·rename_i e ay es qi;split at ap
      ·rename_i ac;simp only[cq]at ac;have cX:=fB ac.1.1;have c0:=fB ac.1.2;have iu:=fB ac.2;subst cX c0;obtain⟨k,⟨⟨uF,o3⟩,hle⟩,ap⟩:=ap;have xE:=afQ (Q:=E) (K:=λs=>Av ah P ops.toList r K s) aw aH wj (Pj af.1 _ wj) qj bb jm Kp h ag hk qi iu o3 hle ap;refine wpList_step λqV ls=> ?_;rw[b3 (by simp[Region.wanted,ax])];refine Pk (λcH eL h1=>ls cH eL ?_) xE;refine wpList_step λaug Pg=> ?_;rw[b3 (by simp[Region.wanted,iP])];exact Pk (λa2 hs ad=>Pg a2 hs (next a2 hs ad)) h1
      grind
     grind
    grind
   grind
  ·exact WM aw aQ (λa w ⟨os,s,h,ap⟩=>Pn aw aQ cP (fT::r) (by grind) h ap) af.1 h ap
end
open Go
section
variable {P:Program} {ah:dJ} {aD:Nat->Prop} {ba:e8} {n:Nat} {os aP:c3} {s t:bJ} {a:Act} {w:World} {A dz:Nat->Prop} {B:e8} {m:List aX}
theorem Po{d:ak}(h:kp m d=true):kK m d=true:=by
 cases d<;>first|exact h| (simp[kp]at h)
def Gx(m:List aX)(os aP:c3):Prop:=∀ (i:Nat) (x:Value) (o:aX),jR (bN m i)=true\/ry (bN m i)=true->os[i]?=some (x,o)->∃aT,aP[i]?=some (x,aT)/\en o aT
theorem Pp{os aP:c3}(bb:Gx m os aP){i:Nat}{x:Value}{o:aX}(az:jR (bN m i)=true)(h:os[i]?=some (x,o)):∃aT,aP[i]?=some (x,aT)/\en o aT:=bb i x o (.inl az) h
theorem WN{os aP:c3}(bb:Gx m os aP){i:Nat}{x:Value}{o:aX}(az:ry (bN m i)=true)(h:os[i]?=some (x,o)):∃aT,aP[i]?=some (x,aT)/\en o aT:=bb i x o (.inr az) h
theorem bg.Ku(k:dy A dz w w)(bb:Gx m os aP){x:Value}{d:ak}(h:bg A os w x d): (kp m d=true->bg dz aP w x d)/\(kK m d=true->bg dz aP w x d):=by
 induction h with
 |bQ h=>exact⟨λ_=>.bQ (h.cA k),λ_=>.bQ (h.cA k)⟩
 | @aW i off g _ _ h=>
  have key:ry (bN m i)=true->bg dz aP w (.pointer (some ⟨g,off,none⟩)) (.aW i off):=λac=>by
   obtain⟨aT,bp,hk⟩:=WN bb ac h;cases aT<;>simp[en]at hk
   exact .aW bp
  exact⟨key,key⟩
 | @dU i off g _ _ h=>
  have key:ry (bN m i)=true->bg dz aP w (.pointer (some ⟨g,off,none⟩)) (.dU i off):=λac=>by
   obtain⟨aT,bp,hk⟩:=WN bb ac h;cases aT<;>simp[en]at hk
   exact .dU bp
  exact⟨key,key⟩
 | @de i gZ off g n c e' mB fK h=>
  have key:jR (bN m i)=true->bg dz aP w (.pointer (some ⟨g,gZ*mB+off,none⟩)) (.de i gZ off):=λac=>by
   obtain⟨aT,bp,hk⟩:=Pp bb ac h;cases aT<;>simp[en]at hk
   obtain⟨rfl,rfl⟩:=hk;exact .de bp
  exact⟨key,key⟩
 | @own i x _ _ _ h h1=>
  have key:jR (bN m i)=true->bg dz aP w x (.own i):=λac=>by
   obtain⟨aT,bp,hk⟩:=Pp bb ac h;cases aT<;>simp[en]at hk
   exact .own bp h1
  exact⟨key,key⟩
 | @e5 i x y d h aa h1=>
  have key:jR (bN m i)=true->bg dz aP w x d:=λac=>by
   obtain⟨aT,bp,hk⟩:=Pp bb ac h;cases aT<;>simp[en]at hk
   exact .e5 bp aa h1
  rcases aa with rfl| ⟨_,_,rfl⟩
  ·exact⟨key,key⟩
  ·exact⟨key,key⟩
 | @agg vs ds af br _ a1=>
  refine⟨λh=>by simp[kp]at h,λh=>.agg af br (λi v d ab aa=>(a1 i v d ab aa).1 ?_)⟩;simp only[kK,nv]at h
  grind
 | @fn f vs ds af iM _ a1=>
  have key:kp m (.fn f ds)=true->bg dz aP w (.func f #[] vs.toArray) (.fn f ds):=λac=>.fn af iM (λi v d ab aa=>by
   have al:=iM d (fq aa);simp only[kp,nv]at ac;have ad:=ac d (fq aa);cases d<;>simp[l8,mz]at al
   all_goals first|exact(a1 i v _ ab aa).1 ad|exact(a1 i v _ ab aa).1 rfl|skip
   all_goals
    rename_i g cr;have:cr=[]:=by cases cr<;>simp_all[mz]
    subst this;exact(a1 i v _ ab aa).1 rfl)
  exact⟨key,key⟩
 |be=>exact⟨λh=>by simp[kp]at h,λh=>by simp[kK,kp]at h⟩
 |b8 _ aQ a1=>exact⟨λh=>by simp[kp]at h,λh=>by simp[kK,kp]at h⟩
theorem bg.le(k:dy A dz w w)(bb:Gx m os aP){d ck:ak}(aa:hQ d ck):∀ {x:Value},bg A os w x d->kK m ck=true->bg dz aP w x ck:=by
 induction aa with
 |refl=>exact λh ac=>(h.Ku k bb).2 ac
 |nil au=>
  intro x h _;exact .bQ ((h.ny.le (.nil au)).cA k)
 |ar=>
  intro x h _;rw[h.o0];exact .bQ .nil
 |av=>
  intro x h _;exact .bQ ((h.ny.le .av).cA k)
 |jS af ao bw a1=>
  intro x h _;exact .bQ ((h.ny.le (.jS af ao bw)).cA k)
 | @agg cs ds af al a1=>
  intro x h ac;cases h with
  |bQ h=>exact .bQ ((h.le (.agg af al)).cA k)
  |e5 h aa h1=>rcases aa with aa| ⟨_,_,aa⟩<;>cases aa
  | @agg vs _ hK br h=>
   refine .agg (by omega) br (λi v d ab aa=> ?_);have aB:=(eI.1 ab).1;have pC:=eN (l:=cs) (i:=i) (by omega);refine a1 i _ d pC aa (h i v _ ab pC) (Po ?_);simp only[kK,nv]at ac
   grind
 |be af al a1=>
  intro x h ac;simp[kK,kp]at ac
 |aY=>exact λ_ _=>.bQ .aY
theorem WO{e:List (Nat×ak)}:∀ {e':List (Nat×ak)} (t:Nat),Oz e e'->hQ (look e t) (look e' t)
 | [],t,_=>.aY
 |p::r,t,h=>by
  simp only[look];split
  ·rename_i ac;have:=fB ac;subst this;exact h.1
  ·exact WO t h.2
theorem WP:∀ {e:List (Nat×ak)} (t:Nat),C4 m e=true->kK m (look e t)=true
 | [],t,_=>rfl
 |p::r,t,h=>by
  simp only[C4,cq]at h;simp only[look];split
  ·grind
  ·exact WP t h.2
theorem Kv:∀ {l cK:List aX} {i:Nat} {aT:aX},Dd l cK->cK[i]?=some aT->∃o,l[i]?=some o/\hz o aT
 |l,[],i,aT,_,hi=>by grind
 | [],_::_,i,aT,h,hi=>h.elim
 |o::r,p::eY,0,aT,h,hi=>by simp at hi;subst hi;exact⟨o,rfl,h.1⟩
 |o::r,p::eY,i+1,aT,h,hi=>by
  obtain⟨q,h1,ad⟩:=Kv (i:=i) h.2 (by simpa using hi)
  grind
theorem A0:∀ {l:List aX} {i:Nat} {cs:List ak},oX m l=true->l[i]?=some (.cB cs)->∀d∈cs,kp m d=true
 | [],i,_,_,hi=>by grind
 | .cB dI::r,0,cs,h,hi=>by
  simp at hi;subst hi;simp only[oX,cq,nv]at h
  grind
 | .cB dI::r,i+1,cs,h,hi=>by
  simp only[oX,cq]at h;exact A0 (i:=i) h.2 (by grind)
 | .cells _ _::r,0,cs,h,hi=>by grind
 | .cells _ _::r,i+1,cs,h,hi=>by
  simp only[oX,cq]at h;exact A0 (i:=i) h.2 (by grind)
 | .row _ _ _::r,0,cs,h,hi=>by grind
 | .row _ _ _::r,i+1,cs,h,hi=>A0 (i:=i) (l:=r) h (by grind)
 | .bn::r,0,cs,h,hi=>by grind
 | .bn::r,i+1,cs,h,hi=>A0 (i:=i) (l:=r) h (by grind)
 | .gone::r,0,cs,h,hi=>by grind
 | .gone::r,i+1,cs,h,hi=>A0 (i:=i) (l:=r) h (by grind)
theorem af1{o aT:aX}(h:hz o aT)(aa:aT≠ .bn):en o aT:=by
 cases h with
 |refl=>cases o<;>simp[en]
 |cells _ _=>rfl
 |cB _ _=>simp[en]
 |bn=>grind
theorem Pq{o aT:aX}(h:hz o aT)(aa:aT≠ .bn):o≠ .bn:=by
 cases h with
 |refl=>exact aa
 |cells _ _=>simp
 |cB _ _=>simp
 |bn=>grind
theorem WQ{l:List aX}{i:Nat}{x:Value}{aT:aX}(h: ((os.map (·.1)).zip l)[i]?=some (x,aT)):l[i]?=some aT/\∃o,os[i]?=some (x,o):=by
 grind
theorem cd.Pr(h:cd aD ba n os s a w)(bU:s.le t):∃aP,cd aD ba n aP t a w/\(∀ (i:Nat) (x:Value) (aT:aX),aP[i]?=some (x,aT)->∃o,os[i]?=some (x,o)/\hz o aT)/\(∀ (v:Value) (d:ak),bg (bh aD os) os w v d->kK t.loc d=true->bg (bh aD aP) aP w v d)/\∀b,bh aD aP b->bh aD os b:=by
 obtain⟨he,af,ac⟩:=bU;simp only[cq]at ac;obtain⟨nB,gG⟩:=ac;have get:∀ {i:Nat} {x:Value} {aT:aX},((os.map (·.1)).zip t.loc)[i]?=some (x,aT)->∃o,os[i]?=some (x,o)/\hz o aT:=by
  intro i x aT hi;obtain⟨h1,o,ad⟩:=WQ hi;obtain⟨fT,aN,bs⟩:=Kv af h1;rw[h.loc,fe,ad]at aN
  grind
 have tu:∀ {i:Nat},i<t.loc.length->i<os.length:=by
  intro i hi;obtain⟨o,aH,_⟩:=Kv af (eN hi);rw[h.loc]at aH
  grind
 have qX:Gx t.loc os ((os.map (·.1)).zip t.loc):=by
  intro i x o az aH;have o6:bN t.loc i≠ .bn:=by
   intro e;rw[e]at az;simp[jR,ry]at az
  have hi:i<t.loc.length:=by
   rcases mX i t.loc.length with h1|h1
   ·exact h1
   ·exact absurd (by rw[lm,w2 h1];rfl) o6
  obtain⟨fT,h1,ad⟩:=Kv af (eN hi);rw[h.loc,fe,aH]at h1;cases h1;refine⟨t.loc[i],?_,af1 ad (by rw[lm,eN hi]at o6;grind)⟩
  grind
 have fO:∀b,bh aD ((os.map (·.1)).zip t.loc) b->bh aD os b:=by
  rintro b (ac| ⟨i,x,aT,hi,aa,cx⟩)
  ·exact .inl ac
  ·obtain⟨o,aH,hle⟩:=get hi;exact .inr ⟨i,x,o,aH,Pq hle aa,cx⟩
 have k:dy (bh aD os) (bh aD ((os.map (·.1)).zip t.loc)) w w:=dy.ic fO;refine⟨(os.map (·.1)).zip t.loc,⟨h.size,h.defers,h.hB,h.a0,?_,λu=>(h.env u).le k qX (WO u he) (WP u nB),λi x aT hi=> ?_,λi j x o y aT b hi aq d1 d2 cX c0=> ?_⟩,λi x aT hi=>get hi,λv d ab ac=>(ab.Ku k qX).2 ac,fO⟩
 ·rw[List.map_snd_zip]
  grind
 ·obtain⟨o,aH,hle⟩:=get hi;have fM:=h.cW i x o aH;have yY:=(WQ hi).1;cases hle with
  |refl=>
   cases aT with
   |bn=>exact trivial
   |gone=>exact fM
   |cB ds=>
    obtain⟨aA,aG,bc,cn⟩:=fM;exact⟨aA,aG,bc,λj v d ab aa=>((cn j v d ab aa).Ku k qX).1 (A0 gG yY d (fq aa))⟩
   |cells ty cs=>
    obtain⟨g,arr,rfl,ct,bw,ae,br,ao⟩:=fM;exact⟨g,arr,rfl,ct,bw,ae,br,λj v d ab aa=>((ao j v d ab aa).Ku k qX).1 (yT gG yY d (fq aa))⟩
   |row e ay es=>
    obtain⟨jE,xs,b0,cC,gY,br,ao⟩:=fM;exact⟨jE,xs,b0,cC,gY,br,λeO j r d h1 ad=>by
     obtain⟨v,ab,hi⟩:=ao eO j r d h1 ad;exact⟨v,ab,hi.cA k⟩⟩
  |bn=>exact trivial
  | @cB cs ds gM al=>
   obtain⟨aA,aG,bc,cn⟩:=fM;refine⟨aA,by omega,bc,λj v d ab aa=> ?_⟩;have aB:=(eI.1 aa).1;have pC:=eN (l:=cs) (i:=j) (by omega);exact(cn j v _ ab pC).le k qX (al j _ d pC aa) (Po (A0 gG yY d (fq aa)))
  | @cells ty cs ds gM al=>
   obtain⟨g,arr,rfl,ct,bw,ae,br,ao⟩:=fM;refine⟨g,arr,rfl,ct,bw,by omega,br,λj v d ab aa=> ?_⟩;have aB:=(eI.1 aa).1;have pC:=eN (l:=cs) (i:=j) (by omega);exact(ao j v _ ab pC).le k qX (al j _ d pC aa) (Po (yT gG yY d (fq aa)))
 ·obtain⟨p,an,k3⟩:=get hi;obtain⟨q,bX,F1⟩:=get aq;exact h.inj i j x p y q b an bX (Pq k3 d1) (Pq F1 d2) cX c0
theorem cd.le(h:cd aD ba n os s a w)(bU:s.le t):∃aP,cd aD ba n aP t a w:=by
 obtain⟨aP,bp,_⟩:=h.Pr bU
 grind
theorem Ps{e:TypeId}{ay:Nat}(h:cd aD ba n os s a w):cd aD ba n (os++ [(.slice none 0 0,.row e (ay+1) [])]) ⟨s.env,s.loc++ [.row e (ay+1) []]⟩ a w:=
 Dt (x:=.slice none 0 0) (e:=e) (ay:=ay+1) (es:=[]) (xs:=[]) h (grownBy.uO w none) (by simp[bI]) ⟨by simp,.inl ⟨rfl,rfl⟩⟩ (N3 _) .nil
theorem WR{t:Nat}{K:bJ->Prop}{os:c3}{s:bJ}(h:cd aD ba n os s a w)(ap:JD t s K):∃aP s',cd aD ba n aP s' a w/\K s':=by
 unfold JD at ap;split at ap
 ·split at ap
  ·rename_i e ay es af;rw[h.loc]at af;obtain⟨x',di⟩:=kN af (by simp);obtain⟨bp,_⟩:=h.j6 di
   grind
  grind
 grind
theorem bg.xF{ρ:Nat->Nat}(cL:∀ (k:Nat) x bC,(∀ds,bC≠ .cB ds)->bC≠ .bn->os[k]?=some (x,bC)->aP[ρ k]?=some (x,gL ρ bC))(k:dy A dz w w){v:Value}{d:ak}(h:bg A os w v d): (v.oneCell'=true->bg dz aP w v (rC ρ d))/\bg dz aP w v (k2 ρ d):=by
 have qh:∀ {v:Value} {d:ak},b7 A w v d->b7 dz w v (rC ρ d)/\b7 dz w v (k2 ρ d):=by
  intro v d bt;induction bt with
  |v h=>exact⟨.v h,.v h⟩
  |av xs aV al az au cC ai ac br dD ag a1=>exact⟨(b7.av xs aV al az au cC ai ac br dD ag).cA k,(b7.av xs aV al az au cC ai ac br dD ag).cA k⟩
  |nil=>exact⟨.nil,.nil⟩
  |ar=>exact⟨.ar,.ar⟩
  |agg af br h a1=>
   refine⟨(b7.agg af br h).cA k,.agg (by grind) br (λj v d ab aa=> ?_)⟩
   grind
  | @be vs ds af h a1=>
   refine⟨(b7.be af h).cA k,.be (by grind) (λj v d ab aa=> ?_)⟩
   grind
  |da xs ai ac br dD ag _=>exact⟨(b7.da xs ai ac br dD ag).cA k,(b7.da xs ai ac br dD ag).cA k⟩
  | @fn f vs ds af h _=>
   have key:b7 dz w (.func f #[] vs.toArray) (.fn f (ds.map (sm ρ))):=by
    refine .fn (by grind) (λj v d ab aa=> ?_);rw[fe]at aa;cases aq:ds[j]? with
    |none=>grind
    |some e=>
     rw[aq]at aa;simp at aa;subst aa;have ad:=h j v e ab aq;cases e
     case aW=>cases ad
     all_goals exact ad.cA k
   exact⟨key,key⟩
  |b8 _ aQ a1=>exact⟨.b8 (λac=>(a1 ac).1) aQ,.b8 (λac=>(a1 ac).2) aQ⟩
  |aY=>exact⟨.aY,.aY⟩
 induction h with
 |bQ h=>exact⟨λ_=>.bQ (qh h).1,.bQ (qh h).2⟩
 |aW h=>have:=cL _ _ _ (by simp) (by simp) h;exact⟨λ_=>.aW this,.aW this⟩
 |dU h=>have:=cL _ _ _ (by simp) (by simp) h;exact⟨λ_=>.dU this,.dU this⟩
 |de h=>have:=cL _ _ _ (by simp) (by simp) h;exact⟨λ_=>.de this,.de this⟩
 |own h h1=>have:=cL _ _ _ (by simp) (by simp) h;exact⟨λ_=>.own this h1,.own this h1⟩
 |e5 h aa h1=>
  have:=cL _ _ _ (by rcases aa with rfl| ⟨_,_,rfl⟩<;>simp) (by rcases aa with rfl| ⟨_,_,rfl⟩<;>simp) h;rcases aa with rfl| ⟨_,_,rfl⟩
  ·exact⟨λ_=>.e5 this (.inl rfl) h1,.e5 this (.inl rfl) h1⟩
  ·exact⟨λ_=>.e5 this (.inr ⟨_,_,rfl⟩) h1,.e5 this (.inr ⟨_,_,rfl⟩) h1⟩
 | @agg vs ds af br _ a1=>
  refine⟨λh=>by simp[Value.oneCell']at h,.agg (by grind) br (λj v d ab aa=> ?_)⟩
  grind
 | @fn f vs ds af iM bw a1=>
  have key:bg dz aP w (.func f #[] vs.toArray) (.fn f (ds.map (sm ρ))):=by
   refine .fn (by grind) (λd aa=> ?_) (λj v d ab aa=> ?_)
   ·obtain⟨e,he,rfl⟩:=fr.1 aa;have:=iM e he;cases e<;>first|exact this|rfl
   ·rw[fe]at aa;cases aq:ds[j]? with
    |none=>grind
    |some e=>
     rw[aq]at aa;simp at aa;subst aa;have ad:=(a1 j v e ab aq).2;have al:=iM e (fq aq);cases e
     case fn g cs=>
      have:cs=[]:=by cases cs<;>simp_all[l8,mz]
      subst this;exact ad
     all_goals first|exact ad| (simp[l8,mz]at al)
  exact⟨λ_=>key,key⟩
 | @be vs ds af b0 bw a1=>
  refine⟨λh1=>by simp[Value.oneCell']at h1,.be (by grind) (λj v d ab aa=> ?_) (λj v d ab aa=> ?_)⟩
  ·rw[fe]at aa;cases aq:ds[j]? with
   |none=>grind
   |some e=>
    rw[aq]at aa;simp at aa;subst aa;rcases b0 j v e ab aq with aH|aH
    ·cases e<;>simp[mY]at aH
     exact .inl rfl
    grind
  ·rw[fe]at aa;cases aq:ds[j]? with
   |none=>grind
   |some e=>
    rw[aq]at aa;simp at aa;subst aa;rcases b0 j v e ab aq with aH|aH
    ·have ad:=bw j v e ab aq;cases e<;>simp[mY]at aH
     exact(a1 j v _ ab aq).1 ad.Dj.1
    ·exact .bQ (qh aH).1
 |b8 _ aQ a1=>exact⟨λh1=>.b8 (λac=>(a1 ac).1 h1) aQ,.b8 (λac=>(a1 ac).2) aQ⟩
theorem Pt(f:aX->aX):∀l:List aX,yD f l=l.map f
 | []=>rfl
 |o::r=>by rw[yD,Pt f r,oi]
theorem Gy(i j k:Nat):ks i j k=if k=i then j else if k=j then i else k:=by
 unfold ks;cases h:Nat.beq k i with
 |true=>simp_all
 |false=>
  have h1:k≠i:=λe=>by simp_all
  cases ad:Nat.beq k j with
  |true=>
   simp_all
  |false=>
   have aN:k≠j:=λe=>by simp_all
   grind
theorem Pu(i j k:Nat):ks i j (ks i j k)=k:=by
 simp only[Gy];split<;>split<;> (try split)<;>omega
theorem Pv{i j:Nat}{K:bJ->Prop}{os:c3}{s:bJ}(h:cd aD ba n os s a w)(ap:FQ i j s K):∃aP s',cd aD ba n aP s' a w/\K s':=by
 unfold FQ at ap;split at ap
 case h_2=>grind
 rename_i ac;have hlen:s.loc.length=os.length:=by rw[h.loc,bL]
 simp only[cq,Nat.blt_eq,hlen]at ac;obtain⟨hi,aq⟩:=ac;have yZ:∀k,ks i j k<os.length↔k<os.length:=λk=>by
  rw[Gy];split<;> (try split)<;>omega
 let aP:c3:=(List.range os.length).map λk=>((os.getD (ks i j k) (undef,.bn)).1,ti (ks i j) (os.getD (ks i j k) (undef,.bn)).2)
 have key:∀k,aP[k]?=(os[ks i j k]?).map λp=>(p.1,ti (ks i j) p.2):=λk=>by
  grind
 have cL:∀ (k:Nat) x bC,os[k]?=some (x,bC)->aP[ks i j k]?=some (x,ti (ks i j) bC):=λk x bC hk=>by
  rw[key,Pu,hk];rfl
 have Pw:∀ (k:Nat) x bC,(∀ds,bC≠ .cB ds)->bC≠ .bn->os[k]?=some (x,bC)->aP[ks i j k]?=some (x,gL (ks i j) bC):=λk x bC aV _ hk=>by
  have:=cL k x bC hk;cases bC with
  |cB ds=>grind
  |_=>exact this
 have back:∀ {k:Nat} {x:Value} {aT:aX},aP[k]?=some (x,aT)->∃o,os[ks i j k]?=some (x,o)/\aT=ti (ks i j) o:=λ{k x aT} hk=>by
  grind
 have fP:∀ {o:aX},ti (ks i j) o≠ .bn->o≠ .bn:=λ{o} aa e=>by
  subst e;exact aa rfl
 have fO:∀b,bh aD aP b->bh aD os b:=by
  rintro b (ac| ⟨k,x,aT,hk,aa,cx⟩)
  ·exact .inl ac
  ·obtain⟨o,aH,rfl⟩:=back hk;exact .inr ⟨_,x,o,aH,fP aa,cx⟩
 have k:dy (bh aD os) (bh aD aP) w w:=dy.ic fO;refine⟨aP,_,⟨h.size,h.defers,h.hB,h.a0,?_,λu=> ?_,λq x aT bX=> ?_,λp q x o y aT b an bX d1 d2 cX c0=> ?_⟩,ap⟩
 ·show OA (yD (ti (ks i j)) s.loc) i j=aP.map (·.2);have af:∀k,(yD (ti (ks i j)) s.loc)[k]?=(os[k]?).map λ(p:Value×aX)=>ti (ks i j) p.2:=λk=>by
   rw[Pt,h.loc,oU,fe];rfl
  have ax:∀k,k<os.length->(os[k]?).map (λ(p:Value×aX)=>ti (ks i j) p.2)=some (bN (yD (ti (ks i j)) s.loc) k):=λk hk=>by
   rw[lm,af,eN hk];rfl
  have wt: (yD (ti (ks i j)) s.loc).length=os.length:=by
   rw[Pt,bL,hlen]
  apply rr;intro q;rw[fe,key];unfold OA;rw[mC,mC,CF,CF,af,Option.map_map];simp only[NP,wt];by_cases aA:j=q
  ·subst aA;have:ks i j j=i:=by
    rw[Gy];split<;>simp_all
   grind
  ·rw[bm aA];by_cases aG:i=q
   ·subst aG;have:ks i j i=j:=by
     rw[Gy];simp
    grind
   ·have:ks i j q=q:=by
     rw[Gy,bm (λe=>aG e.symm),bm (λe=>aA e.symm)]
    rw[bm aG,this];rfl
 ·show bg _ _ _ _ (look (AC (k2 (ks i j)) s.env) u);rw[Dh _ rfl];exact(bg.xF Pw k (h.env u)).2
 ·obtain⟨o,aH,rfl⟩:=back bX;have fM:=h.cW _ x o aH;cases o with
  |bn=>exact trivial
  |gone=>exact fM
  |cB ds=>
   obtain⟨ag,af,br,ao⟩:=fM;refine⟨ag,by grind,br,λjo v d ab aa=> ?_⟩;rw[fe]at aa;cases al:ds[jo]? with
   |none=>grind
   |some e=>
    rw[al]at aa;simp at aa;subst aa;exact(bg.xF Pw k (ao jo v e ab al)).1 (br v (fq ab))
  |cells ty cs=>
   obtain⟨g,arr,rfl,ct,bw,ae,br,ao⟩:=fM;refine⟨g,arr,rfl,ct,bw,by grind,br,λjo v d ab aa=> ?_⟩;rw[fe]at aa;cases al:cs[jo]? with
   |none=>grind
   |some e=>
    rw[al]at aa;simp at aa;subst aa;exact(bg.xF Pw k (ao jo v e ab al)).1 (br v (fq (by rw[wY];exact ab)))
  |row e ay es=>
   obtain⟨jE,xs,b0,cC,gY,br,ao⟩:=fM;exact⟨jE,xs,b0,cC,gY,br,λeO jo r d h1 ad=>by
    obtain⟨v,ab,hi⟩:=ao eO jo r d h1 ad;exact⟨v,ab,hi.cA k⟩⟩
 ·obtain⟨dx,ka,rfl⟩:=back an;obtain⟨fT,qj,rfl⟩:=back bX;have:=h.inj _ _ x dx y fT b ka qj (fP d1) (fP d2) cX c0;rw[<-Pu i j p,this,Pu]
theorem uX:∀ (qQ:List FP) {os:c3} {s:bJ} {K:bJ->Prop},cd aD ba n os s a w->so qQ s K->∃aP s',cd aD ba n aP s' a w/\K s'
 | [],os,s,K,h,ap=>⟨os,s,h,ap⟩
 | .j6 t::r,os,s,K,h,ap=>by
  obtain⟨aP,s',bp,ls⟩:=WR h ap;exact uX r bp ls
 | .h4 _ _ _::r,os,s,K,h,ap=>uX r h ap
 | .cell _ _ _ _::r,os,s,K,h,ap=>uX r h ap
 | .swap i j::r,os,s,K,h,ap=>by
  obtain⟨aP,s',bp,ls⟩:=Pv h ap;exact uX r bp ls
 | .qa _ _::r,os,s,K,h,ap=>uX r h ap
 | .fresh _ _::r,os,s,K,h,ap=>uX r h ap
 | .eT _ _::r,os,s,K,h,ap=>uX r h ap
 | .nS _::r,os,s,K,h,ap=>uX r h ap
 | .yC t i::r,os,s,K,h,ap=>by
  unfold so at ap;split at ap
  ·obtain⟨aP,s',bp,ls⟩:=Pv h ap;exact uX r bp ls
  ·exact uX r h ap
theorem cd.buried{i:Nat}{y:Value}{q1:aX}(h:cd aD ba n os s a w)(hi:os[i]?=some (y,q1))(aH:q1= .bn\/∃e ay es,q1= .row e ay es):cd aD ba n (os.set i (.nilFunc,.gone)) ⟨s.env,gq s.loc i .gone⟩ a w:=by
 have Kw:=(eI.1 hi).1;have cL:∀ {j:Nat} {z:Value} {aT:aX},(os.set i (.nilFunc,.gone))[j]?=some (z,aT)->(z= .nilFunc/\aT= .gone)\/(j≠i/\os[j]?=some (z,aT)):=by
  grind
 have bb:∀ (q:Nat) (x:Value) (o:aX),os[q]?=some (x,o)->o≠ .bn->(∀e ay es,o≠ .row e ay es)->(os.set i (.nilFunc,.gone))[q]?=some (x,o):=λq x o bX aa ao=>by
  grind
 have wk: (os.set i (.nilFunc,.gone))[i]?=some (.nilFunc,.gone):=oT Kw;have y0:∀ (q:Nat) (x:Value) (o:aX),q≠i->os[q]?=some (x,o)->(os.set i (.nilFunc,.gone))[q]?=some (x,o):=λq x o bX h=>by
  grind
 have fO:∀b,bh aD (os.set i (.nilFunc,.gone)) b->bh aD os b:=by
  rintro b (ab| ⟨j,z,aT,aq,dq,cx⟩)
  ·exact .inl ab
  ·rcases cL aq with⟨rfl,rfl⟩| ⟨_,aq⟩
   ·simp[bI]at cx
   ·exact .inr ⟨_,_,_,aq,dq,cx⟩
 have k:dy (bh aD os) (bh aD (os.set i (.nilFunc,.gone))) w w:=dy.ic fO;have kO:∀ {x:Value} {d:ak},bg (bh aD os) os w x d->bg (bh aD (os.set i (.nilFunc,.gone))) (os.set i (.nilFunc,.gone)) w x d:=by
  intro x d ao;induction ao with
  |bQ h=>exact .bQ (h.cA k)
  |aW h=>exact .aW (bb _ _ _ h (by simp) (by simp))
  |dU h=>exact .dU (bb _ _ _ h (by simp) (by simp))
  | @de q _ _ _ _ _ _ _ _ h=>
   by_cases e:q=i
   ·subst e;exact .e5 wk (.inr ⟨_,_,rfl⟩) rfl
   ·exact .de (y0 _ _ _ e h)
  | @own q _ _ _ _ h h1=>
   by_cases e:q=i
   ·subst e;exact .e5 wk (.inl rfl) h1
   ·exact .own (y0 _ _ _ e h) h1
  |e5 h aa h1=>exact .e5 (bb _ _ _ h (by simp) (by simp)) aa h1
  |agg af br _ a1=>exact .agg af br a1
  |be af b0 _ a1=>exact .be af (λi v d ab aa=>(b0 i v d ab aa).imp id (λh=>h.cA k)) a1
  |fn af iM _ a1=>exact .fn af iM a1
  |b8 _ aQ a1=>exact .b8 a1 aQ
 refine⟨h.size,h.defers,h.hB,h.a0,by rw[mC,h.loc,oj],λt=>kO (h.env t),λj z aT aq=> ?_,λnA uP z dx lT fT b h1 ad d1 d2 cX c0=> ?_⟩
 ·rcases cL aq with⟨rfl,rfl⟩| ⟨_,aq⟩
  ·rfl
  ·have fM:=h.cW j z aT aq;cases aT with
   |bn=>exact trivial
   |gone=>exact fM
   |cB ds=>
    obtain⟨aA,aG,bc,cn⟩:=fM;exact⟨aA,aG,bc,λi v d ab aa=>kO (cn i v d ab aa)⟩
   |cells ty cs=>
    obtain⟨g,arr,rfl,ct,bw,ae,br,ao⟩:=fM;exact⟨g,arr,rfl,ct,bw,ae,br,λjo v d ab aa=>kO (ao jo v d ab aa)⟩
   |row e ay es=>
    obtain⟨jE,xs,b0,cC,gY,br,ao⟩:=fM;exact⟨jE,xs,b0,cC,gY,br,λeO jo r d h1 ad=>by
     obtain⟨v,ab,hi⟩:=ao eO jo r d h1 ad;exact⟨v,ab,hi.cA k⟩⟩
 ·rcases cL h1 with⟨rfl,rfl⟩| ⟨_,g1⟩
  ·simp[bI]at cX
  ·rcases cL ad with⟨rfl,rfl⟩| ⟨_,g2⟩
   ·simp[bI]at c0
   ·exact h.inj _ _ _ _ _ _ b g1 g2 d1 d2 cX c0
theorem uY:∀ (qQ:List FP) {os:c3} {s:bJ} {K:bJ->Prop},cd aD ba n os s a w->oZ qQ s K->∃aP s',cd aD ba n aP s' a w/\K s'
 | [],os,s,K,h,ap=>⟨os,s,h,ap⟩
 | .j6 t::r,os,s,K,h,ap=>by
  obtain⟨aP,s',bp,ls⟩:=WR h ap;exact uY r bp ls
 | .swap _ _::r,os,s,K,h,ap=>uY r h ap
 | .yC _ _::r,os,s,K,h,ap=>uY r h ap
 | .eT i j::r,os,s,K,h,ap=>by
  obtain⟨aP,s',bp,ls⟩:=Pv h ap;exact uY r bp ls
 | .nS i::r,os,s,K,h,ap=>by
  unfold oZ at ap;split at ap
  ·rename_i au;have key:∃y o,os[i]?=some (y,o)/\(o= .bn\/∃e ay es,o= .row e ay es):=by
    rw[oS]at au;rcases au with au|au
    ·unfold ou at au;rw[cq]at au;have aB:i<os.length:=by
      have:=nw au.1;have af:=h.len;omega
     have ax:=eN aB;rcases an:os[i]with⟨y,o⟩
     rw[an]at ax;have aa:=au.2;rw[h.loc,lm,fe,ax]at aa;have:o= .bn:=by cases o<;>simp[Oi]at aa<;>rfl
     grind
    ·rw[h.loc,lm,fe]at au;cases ax:os[i]? with
     |none=>rw[ax]at au;cases au
     |some p=>
      rw[ax]at au;rcases p with⟨y,o⟩
      cases o<;>simp[jR]at au
      grind
   obtain⟨y,o,ax,aH⟩:=key;exact uY r (h.buried ax aH) ap
  grind
 | .qa i off::r,os,s,K,h,ap=>by
  unfold oZ at ap;split at ap
  ·split at ap
   ·obtain⟨aP,s',bp,ap,_,_⟩:=xv _ h ap;exact uY r bp ap
   grind
  grind
 | .fresh e ay::r,os,s,K,h,ap=>by
  unfold oZ at ap;split at ap
  ·exact uY r (Ps h) ap
  grind
 | .h4 t e ay::r,os,s,K,h,ap=>by
  unfold oZ at ap;split at ap
  ·rename_i ay el;have an:=Ps (e:=e) (ay:=ay) h;have ab:=h.env t;rw[el]at ab;have ab:=ab.o0;have b0:bg (bh aD (os++ [(.slice none 0 0,.row e (ay+1) [])])) (os++ [(.slice none 0 0,.row e (ay+1) [])]) w (a.tmps.getD t undef) (.own s.loc.length):=by
    rw[ab,h.len];exact .own yO rfl
   refine uY r (os:=os++ [(.slice none 0 0,.row e (ay+1) [])]) ⟨an.size,an.defers,an.hB,an.a0,an.loc,λu=> ?_,an.cW,an.inj⟩ ap;simp only[look];split
   ·simp_all
   ·exact an.env u
  grind
 | .cell i off e ay::r,os,s,K,h,ap=>by
  unfold oZ at ap;split at ap
  ·rename_i ty cs ay af;split at ap
   ·rename_i al;have an:=Ps (e:=e) (ay:=ay) h;rw[h.loc]at af;obtain⟨x,hi⟩:=kN af (by simp);have aB:=(eI.1 hi).1;have di: (os++ [(Value.slice none 0 0,aX.row e (ay+1) [])])[i]?=some (x,.cells ty cs):=by grind
    have gO:=an.F9 (gN:=.cells ty (uA cs off (.own s.loc.length))) di rfl (by simp) (by simp) (grownBy.uO w _) ?_
    ·refine uY r (s:=⟨s.env,gq (s.loc++ [.row e (ay+1) []]) i (.cells ty (uA cs off (.own s.loc.length)))⟩) gO ?_;have:gq (s.loc++ [.row e (ay+1) []]) i (.cells ty (uA cs off (.own s.loc.length)))=gq s.loc i (.cells ty (uA cs off (.own s.loc.length)))++ [.row e (ay+1) []]:=by
      rw[mC,mC,List.set_append_left _ _ (by rw[h.len];omega)]
     grind
    ·obtain⟨g,arr,ag,ct,bw,ae,br,ao⟩:=an.cW i x _ di;have jn:=afd (gN:=.cells ty (uA cs off (.own s.loc.length))) di rfl;have hk:=Ka (aD:=aD) (gN:=.cells ty (uA cs off (.own s.loc.length))) di (by simp) (grownBy.uO w _);refine⟨g,arr,ag,ct,bw,by rw[FW];grind,br,λj v d ab aa=> ?_⟩;rw[FW,CF]at aa;split at aa
     ·rename_i aq;subst aq;split at aa
      ·cases aa;have:=(ao _ v _ ab al).o0;subst this;rw[h.len];refine .own (e:=e) (ay:=ay+1) (es:=[]) ?_ rfl
       grind
      grind
     ·exact(ao j v d ab aa).cA hk jn
   grind
  grind
end
open Go
theorem Gz:∀ {l e:List (Nat×ak)} {t:Nat},t∉l.map (·.1)->look (l++e) t=look e t
 | [],e,t,_=>rfl
 |p::r,e,t,h=>by
  simp only[oi,pt,not_or]at h;simp only[rq,look];split
  ·simp_all
  ·exact Gz h.2
theorem Kx:∀ {l e e':List (Nat×ak)} {t:Nat},t∈l.map (·.1)->look (l++e) t=look (l++e') t
 | [],e,e',t,h=>by grind
 |p::r,e,e',t,h=>by
  simp only[oi,pt]at h;simp only[rq,look];split
  ·rfl
  ·rename_i ac;rcases h with h|h
   ·simp_all
   ·exact Kx h
theorem Px(l:List aX)(i j:Nat)(x:aX):bN (gq l i x) j=if i=j/\j<l.length then x else bN l j:=by
 rw[lm,lm,mC,CF]
 grind
theorem Py(l:List aX)(i:Nat)(x:aX): (gq l i x).length=l.length:=by rw[mC];simp
theorem WS:∀ (na:List (Nat×aX)) (l:List aX),(qP l na).length=l.length
 | [],l=>rfl
 |p::r,l=>by rw[qP,WS r,Py]
theorem Ky{k:Nat}:∀ {na:List (Nat×aX)} {l:List aX},(¬ ∃bC,(k,bC)∈na)->bN (qP l na) k=bN l k
 | [],l,_=>rfl
 |p::r,l,h=>by
  have h1:p.1≠k:=λe=>h ⟨p.2,by grind⟩;rw[qP,Ky (λ⟨bC,aH⟩=>h ⟨bC,by grind⟩),Px,bm (λbw=>h1 bw.1)]
theorem WT{k:Nat}:∀ {na:List (Nat×aX)} {l cK:List aX},(∃bC,(k,bC)∈na)->l.length=cK.length->bN (qP l na) k=bN (qP cK na) k
 | [],l,cK,h,_=>by grind
 |p::r,l,cK,h,af=>by
  by_cases ao:∃bC,(k,bC)∈r
  ·rw[qP,qP];exact WT ao (by rw[Py,Py,af])
  ·rw[qP,qP,Ky ao,Ky ao];obtain⟨bC,aH⟩:=h;rcases pt.1 aH with aH|aH
   ·rw[Px,Px,<-aH,af];split
    ·rfl
    ·rename_i aV;have aV:¬k<cK.length:=λbw=>aV ⟨rfl,bw⟩;rw[lm,lm,w2 (by omega),w2 (by omega)]
   grind
def fc.h4(bz:fc)(t:Nat):Prop:=t∈bz.Ax.map (·.1)
def fc.cW(bz:fc)(k:Nat):Prop:=∃bC,(k,bC)∈bz.na
theorem WU(bz:fc)(s:bJ): (bz.kM s).loc.length=s.loc.length:=WS _ _
variable{bz:fc}{s:bJ}
theorem A1{t:Nat}(h:¬bz.h4 t):look (bz.kM s).env t=look s.env t:=Gz h
variable{s':bJ}
theorem Kz{t:Nat}(h:bz.h4 t):look (bz.kM s).env t=look (bz.kM s').env t:=Kx h
variable{k:Nat}
theorem DK(h:¬bz.cW k):bN (bz.kM s).loc k=bN s.loc k:=Ky h
theorem Pz(h:bz.cW k)(af:s.loc.length=s'.loc.length):bN (bz.kM s).loc k=bN (bz.kM s').loc k:=WT h af
theorem af2(h1:∀t,look s.env t=look s'.env t)(ad:∀k,bN s.loc k=bN s'.loc k)(af:s.loc.length=s'.loc.length):
  (∀t,look (bz.kM s).env t=look (bz.kM s').env t)/\∀k,bN (bz.kM s).loc k=bN (bz.kM s').loc k:=by
 refine⟨λt=> ?_,λk=> ?_⟩
 ·by_cases h:bz.h4 t
  ·exact Kz h
  ·rw[A1 h,A1 h,h1]
 ·by_cases h:bz.cW k
  ·exact Pz h af
  ·rw[DK h,DK h,ad]
def fG(db:List fc)(e9:bJ)(S:Nat->Bool):Nat->bJ
 |0=>e9
 |n+1=>match db[n]?,S n with
  |some bz,true=>bz.kM (fG db e9 S n)
  |_,_=>fG db e9 S n
section
variable {db:List fc} {e9:bJ} {S tw:Nat->Bool}
theorem xG:∀n,(fG db e9 S n).loc.length=e9.loc.length
 |0=>rfl
 |n+1=>by
  unfold fG;split
  ·rw[WU,xG n]
  ·exact xG n
theorem KA{t:Nat}:∀n,(∀j bz,j<n->db[j]?=some bz->bz.h4 t->S j=tw j)->look (fG db e9 S n).env t=look (fG db e9 tw n).env t
 |0,_=>rfl
 |n+1,h=>by
  have a1:=KA n (λj bz aq=>h j bz (by omega));cases mG:db[n]? with
  |none=>simp only[fG,mG];exact a1
  |some bz=>
   by_cases ae:bz.h4 t
   ·have:=h n bz (by omega) mG ae;cases wu:tw n<;>simp only[fG,mG,this,wu]
    ·exact a1
    ·exact Kz ae
   ·cases cJ:S n<;>cases wu:tw n<;>simp only[fG,mG,cJ,wu]
    all_goals first| (rw[A1 ae,A1 ae];exact a1)| (rw[A1 ae];exact a1)|exact a1
theorem KB{k:Nat}:∀n,(∀j bz,j<n->db[j]?=some bz->bz.cW k->S j=tw j)->bN (fG db e9 S n).loc k=bN (fG db e9 tw n).loc k
 |0,_=>rfl
 |n+1,h=>by
  have a1:=KB n (λj bz aq=>h j bz (by omega));cases mG:db[n]? with
  |none=>simp only[fG,mG];exact a1
  |some bz=>
   by_cases ae:bz.cW k
   ·have:=h n bz (by omega) mG ae;cases wu:tw n<;>simp only[fG,mG,this,wu]
    ·exact a1
    ·exact Pz ae (by rw[xG,xG])
   ·cases cJ:S n<;>cases wu:tw n<;>simp only[fG,mG,cJ,wu]
    all_goals first| (rw[DK ae,DK ae];exact a1)| (rw[DK ae];exact a1)|exact a1
theorem KC:∀n,(∀j,j<n->S j=tw j)->fG db e9 S n=fG db e9 tw n
 |0,_=>rfl
 |n+1,h=>by
  have a1:=KC n (λj aq=>h j (by omega));simp only[fG,h n (by omega),a1]
theorem DL{m:Nat}:∀n,m<=n->(∀j,m<=j->j<n->S j=false)->fG db e9 S n=fG db e9 S m
 |0,az,h=>by
  grind
 |n+1,az,h=>by
  by_cases e:m=n+1
  ·grind
  ·have a1:=DL n (by omega) (λj h1 ad=>h j h1 (by omega));have:=h n (by omega) (by omega);simp only[fG,this]
   grind
structure A2(db:List fc)(looks:Nat->List Nat)(nX:Nat->Nat->Prop):Prop where
 af3:∀i j bz t,i<j->db[i]?=some bz->bz.h4 t->t∈looks j->nX j i
 af4:∀i j bz t,i<j->db[j]?=some bz->bz.h4 t->t∈looks i->nX j i
 af5:∀i j bz iy t,i<j->db[i]?=some bz->db[j]?=some iy->bz.h4 t->iy.h4 t->nX j i
 PA:∀i j bz iy k,i<j->db[i]?=some bz->db[j]?=some iy->bz.cW k->(k∈iy.kr\/iy.cW k)->nX j i
 af6:∀i j bz iy k,i<j->db[i]?=some bz->db[j]?=some iy->iy.cW k->k∈bz.kr->nX j i
variable {looks:Nat->List Nat} {nX:Nat->Nat->Prop} {N i:Nat} {bz:fc}
theorem af7(hO:A2 db looks nX)(o4:∀i j,S i=true->nX i j->S j=true)(hi:S i=false)(ao:∀j,nX i j->S j=true)(wv:i<N){t:Nat}(cI:t∈looks i):
  look (fG db e9 S N).env t=look (fG db e9 (λ_=>true) i).env t:=by
 have h1:look (fG db e9 S N).env t=look (fG db e9 (λj=>decide (j<i)) N).env t:=by
  refine KA N (λj bz aq mG ae=> ?_);rcases Jc j i with aB|rfl|uZ
  ·rw[ao j (hO.af3 j i bz t aB mG ae cI)];grind
  ·grind
  ·have:nX j i:=hO.af4 i j bz t uZ mG ae cI
   grind
 rw[h1,DL N (m:=i) (by omega) (λj h1 ad=>by grind),KC i (tw:=λ_=>true) (λj aq=>by grind)]
theorem af8(hO:A2 db looks nX)(o4:∀i j,S i=true->nX i j->S j=true)(hi:S i=false)(ao:∀j,nX i j->S j=true)(wv:i<N)(mf:db[i]?=some bz){k:Nat}(hk:k∈bz.kr\/bz.cW k):
  bN (fG db e9 S N).loc k=bN (fG db e9 (λ_=>true) i).loc k:=by
 have h1:bN (fG db e9 S N).loc k=bN (fG db e9 (λj=>decide (j<i)) N).loc k:=by
  refine KB N (λj iy aq mG ae=> ?_);rcases Jc j i with aB|rfl|uZ
  ·rw[ao j (hO.PA j i iy bz k aB mG mf ae hk)];grind
  ·grind
  ·have:nX j i:=by
    rcases hk with hk|hk
    ·exact hO.af6 i j bz iy k uZ mf mG ae hk
    ·exact hO.PA i j bz iy k uZ mf mG hk (.inr ae)
   grind
 rw[h1,DL N (m:=i) (by omega) (λj h1 ad=>by grind),KC i (tw:=λ_=>true) (λj aq=>by grind)]
theorem af9(hO:A2 db looks nX)(o4:∀i j,S i=true->nX i j->S j=true)(hi:S i=false)(wv:i<N)(mf:db[i]?=some bz)(t:Nat):
  look (fG db e9 (λj=>S j||decide (j=i)) N).env t=look (bz.kM (fG db e9 S N)).env t:=by
 by_cases ae:bz.h4 t
 ·have h1:look (fG db e9 (λj=>S j||decide (j=i)) N).env t=look (fG db e9 (λj=>(S j||decide (j=i))&&decide (j<=i)) N).env t:=by
   refine KA N (λj iy aq mG oA=> ?_);by_cases hle:j<=i
   ·grind
   ·have:nX j i:=hO.af5 i j bz iy t (by omega) mf mG ae oA
    grind
  rw[h1,DL N (m:=i+1) (by omega) (λj h1 ad=>by grind)];simp only[fG,mf,hi,Cy,vP,rp,bS];exact Kz ae
 ·rw[A1 ae];refine KA N (λj iy aq mG oA=> ?_);by_cases e:j=i;all_goals grind
theorem aga(hO:A2 db looks nX)(o4:∀i j,S i=true->nX i j->S j=true)(hi:S i=false)(wv:i<N)(mf:db[i]?=some bz)(k:Nat):
  bN (fG db e9 (λj=>S j||decide (j=i)) N).loc k=bN (bz.kM (fG db e9 S N)).loc k:=by
 by_cases ae:bz.cW k
 ·have h1:bN (fG db e9 (λj=>S j||decide (j=i)) N).loc k=bN (fG db e9 (λj=>(S j||decide (j=i))&&decide (j<=i)) N).loc k:=by
   refine KB N (λj iy aq mG oA=> ?_);by_cases hle:j<=i
   ·grind
   ·have:nX j i:=hO.PA i j bz iy k (by omega) mf mG ae (.inr oA)
    grind
  rw[h1,DL N (m:=i+1) (by omega) (λj h1 ad=>by grind)];simp only[fG,mf,hi,Cy,vP,rp,bS];exact Pz ae (by rw[xG,xG])
 ·rw[DK ae];refine KB N (λj iy aq mG oA=> ?_);by_cases e:j=i;all_goals grind
end
section
variable {ops:Array Oper}
inductive Reach(ops:Array Oper):Nat->Nat->Prop
 |KD{i:Nat}{o:Oper}{e:Edge}(aH:ops[i]?=some o)(he:e∈o.after)(ac:Region.binds .any e=true):Reach ops i e.on
 |trans{i j k:Nat}(h:Reach ops i j)(bp:Reach ops j k):Reach ops i k
theorem PB{aL:List Nat}:∀ {l:List Edge} {m j:Nat},Nat.testBit (Ay aL l m) j=true->Nat.testBit m j=true\/∃e∈l,Region.binds .any e=true/\(e.on=j\/Nat.testBit (aL.getD e.on 0) j=true)
 | [],m,j,h=>.inl h
 |e::r,m,j,h=>by
  unfold Ay at h;split at h
  ·rename_i ac;rcases PB h with h| ⟨e',GA,uN,aq⟩
   ·have h:Nat.testBit (m||| (2^e.on|||aL.getD e.on 0)) j=true:=h
    grind
   grind
  ·rcases PB h with h| ⟨e',GA,uN,aq⟩;all_goals grind
def PC(ops:Array Oper)(aL:List Nat):Prop:=∀i j,Nat.testBit (aL.getD i 0) j=true->Reach ops i j
theorem WV:∀ {l:List Oper} {aL:List Nat},ops.toList.drop aL.length=l->PC ops aL->PC ops (Az l aL)
 | [],aL,_,h=>h
 |o::r,aL,af,h=>by
  have aH:ops[aL.length]?=some o:=by
   have: (ops.toList.drop aL.length)[0]?=some o:=by grind
   grind
  refine WV (l:=r) ?_ (λi j fV=> ?_)
  ·rw[fw,List.length_singleton,<-vJ,af];rfl
  ·rcases Jc i aL.length with aB|rfl|uZ
   ·rw[sc,sd aB,<-sc]at fV;exact h i j fV
   ·have: (aL++ [Ay aL o.after.toList 0]).getD aL.length 0=Ay aL o.after.toList 0:=by simp
    rw[this]at fV;rcases PB fV with aQ| ⟨e,he,ac,aq⟩
    ·grind
    ·have GA:e∈o.after:=by grind
     rcases aq with rfl|aq
     ·exact .KD aH GA ac
     ·exact .trans (.KD aH GA ac) (h _ _ aq)
   grind
theorem WW:∀ {l:List Oper} {aL:List Nat},(Az l aL).length=aL.length+l.length
 | [],aL=>by rfl
 |o::r,aL=>by rw[Az,WW];grind
theorem GB{l r:List Nat}{x:Nat}(h1:x∈l)(ad:x∈r):Da l r=true:=by
 simp only[Da,List.any_eq_true];exact⟨x,h1,x,ad,by simp⟩
theorem WX{f:uH}{i:Nat}:∀ {fs:List uH} {ms:List Nat} {j:Nat} {g:uH} {m:Nat},FN f i fs ms=true->fs[j]?=some g->ms[j]?=some m->xj f g=true->Nat.testBit m i=true
 | [],_,j,g,m,_,ax,_,_=>by grind
 |_::_,[],j,g,m,_,_,az,_=>by grind
 |dV::r,eg::ms,0,g,m,h,ax,az,al=>by
  simp at ax az;subst ax;subst az;simp only[FN,cq,oS,nu]at h
  grind
 |dV::r,eg::ms,j+1,g,m,h,ax,az,al=>by
  simp only[FN,cq]at h;exact WX (j:=j) h.2 (by grind) (by grind) al
theorem WY:∀ {fs:List uH} {ms:List Nat} {b i j:Nat} {f g:uH} {m:Nat},FO b fs ms=true->i<j->fs[i]?=some f->fs[j]?=some g->ms[j]?=some m->xj f g=true->Nat.testBit m (b+i)=true
 | [],_,b,i,j,f,g,m,_,_,au,_,_,_=>by grind
 |_::_,[],b,i,j,f,g,m,_,_,_,_,az,_=>by grind
 |lJ::r,eg::ms,b,0,j+1,f,g,m,h,fV,au,ax,az,al=>by
  simp at au;subst au;simp only[FO,cq]at h;exact WX (j:=j) h.1 (by grind) (by grind) al
 |lJ::r,eg::ms,b,i+1,j+1,f,g,m,h,fV,au,ax,az,al=>by
  simp only[FO,cq]at h;have:=WY (i:=i) (j:=j) h.2 (by omega) (by grind) (by grind) (by simpa using az) al
  grind
 |lJ::r,eg::ms,b,i,0,f,g,m,h,fV,au,ax,az,al=>by omega
theorem PD:∀ {l:List Oper} {db:List fc} {i:Nat} {o:Oper} {bz:fc},l[i]?=some o->db[i]?=some bz->(JB ops l db)[i]?=some (vT ops o bz)
 | [],_,i,o,bz,h,_=>by grind
 |_::_,[],i,o,bz,_,h=>by grind
 |aT::r,iy::db,0,o,bz,h,bp=>by simp at h bp;subst h;subst bp;rfl
 |aT::r,iy::db,i+1,o,bz,h,bp=>by
  simp only[JB,CD];exact PD (by grind) (by grind)
theorem WZ:∀ {l:List Oper} {b i:Nat} {o:Oper},AA l b=true->l[i]?=some o->∀e∈o.after,Region.binds .any e=true->e.on<b+i
 | [],b,i,o,_,h,_,_,_=>by grind
 |aT::r,b,0,o,aa,h,e,he,ac=>by
  simp at h;subst h;simp only[AA,cq,nv]at aa;have:=aa.1 e (by grind)
  simp_all
 |aT::r,b,i+1,o,aa,h,e,he,ac=>by
  simp only[AA,cq]at aa;have:=WZ (i:=i) aa.2 (by grind) e he ac;omega
def A3(ops:Array Oper)(i:Nat):List Nat:=
 match ops[i]? with
 |some o=>o.looksAt ops
 |none=>[]
theorem agb{db:List fc}(af:db.length=ops.size)(h:JC ops db=true):A2 db (A3 ops) (Reach ops):=by
 simp only[JC,cq]at h;have agc:PC ops (Az ops.toList []):=WV (by simp) (λi j fV=>by grind);have key:∀i j bz iy o aT,i<j->db[i]?=some bz->db[j]?=some iy->ops[i]?=some o->ops[j]?=some aT->xj (vT ops o bz) (vT ops aT iy)=true->Reach ops j i:=by
  intro i j bz iy o aT fV h1 ad aN bs al;have aq:j<(Az ops.toList []).length:=by
   rw[WW]
   grind
  have:=WY h.2 fV (PD (by grind) h1) (PD (by grind) ad) (eN aq) al;rw[ux]at this;refine agc j i ?_
  grind
 have y1:∀ {i:Nat} {bz:fc},db[i]?=some bz->∃o,ops[i]?=some o:=by
  intro i bz hi;have:=(eI.1 hi).1
  simp_all
 have looks:∀ {i t:Nat},t∈A3 ops i->∃o bz,ops[i]?=some o/\db[i]?=some bz/\t∈o.looksAt ops:=by
  intro i t cI;unfold A3 at cI;split at cI
  ·rename_i o aH;have:=(wX.1 aH).1
   simp_all
  grind
 have W0:∀ {bz:fc} {o:Oper} {k:Nat},bz.cW k->k∈ (vT ops o bz).na:=by
  rintro bz o k ⟨bC,h⟩;exact fr.2 ⟨_,h,rfl⟩
 refine⟨λi j bz t fV h1 ae cI=> ?_,λi j bz t fV h1 ae cI=> ?_,λi j bz iy t fV h1 ad ae oA=> ?_,λi j bz iy k fV h1 ad hk hq=> ?_,λi j bz iy k fV h1 ad hk hq=> ?_⟩
 ·obtain⟨aT,iy,ku,PE,cI⟩:=looks cI;obtain⟨o,aH⟩:=y1 h1;refine key i j bz iy o aT fV h1 PE aH ku ?_;simp only[xj,oS];exact .inl (.inl (.inl (GB (l:=(vT ops o bz).aZ) ae (by simp[vT,cI]))))
 ·obtain⟨o,iy,aH,PE,cI⟩:=looks cI;obtain⟨aT,ku⟩:=y1 h1;refine key i j iy bz o aT fV PE h1 aH ku ?_;simp only[xj,oS];exact .inl (.inl (.inr (GB (l:=(vT ops o iy).xi) cI ae)))
 ·obtain⟨o,aH⟩:=y1 h1;obtain⟨aT,ku⟩:=y1 ad;refine key i j bz iy o aT fV h1 ad aH ku ?_;simp only[xj,oS];exact .inl (.inl (.inl (GB (l:=(vT ops o bz).aZ) ae (eb.2 (.inr oA)))))
 ·obtain⟨o,aH⟩:=y1 h1;obtain⟨aT,ku⟩:=y1 ad;refine key i j bz iy o aT fV h1 ad aH ku ?_;simp only[xj,oS];refine .inl (.inr (GB (x:=k) (W0 hk) (eb.2 ?_)));rcases hq with hq|hq
  ·exact .inl hq
  grind
 ·obtain⟨o,aH⟩:=y1 h1;obtain⟨aT,ku⟩:=y1 ad;refine key i j bz iy o aT fV h1 ad aH ku ?_;simp only[xj,oS];exact .inr (GB (l:=(vT ops o bz).kr) hq (W0 hk))
end
open Go
def dZ(F: (Option Prop->ak->Prop)->Prop):Prop:=∀Q,F Q->∃c d,Q c d/\∀o8,o8 c d->F o8
section
variable {P:Program} {ah:dJ} {s:bJ} {ρ:Operand->ak} {loc:List aX}
theorem gw(c:Option Prop)(d:ak):dZ (λQ=>Q c d):=λQ h=>⟨c,d,h,λ_ bp=>bp⟩
theorem cz:dZ (λ_=>False):=λQ h=>h.elim
theorem oB{α:Type}{F:α->(Option Prop->ak->Prop)->Prop}(h:∀k,dZ (F k)):dZ (λQ=>∃k,F k Q):=λQ ⟨k,hk⟩=>by
 obtain⟨c,d,h1,ad⟩:=h k Q hk;exact⟨c,d,h1,λo8 bp=>⟨k,ad o8 bp⟩⟩
variable{F:ak->(Option Prop->ak->Prop)->Prop}{d:ak}
theorem sA(h:dZ (F d)):dZ (λQ=>gW d λd=>F d Q):=by cases d<;>exact h
theorem W1:∀ {n:Nat} {l:List ak} {F:List ak->(Option Prop->ak->Prop)->Prop},(∀l,dZ (F l))->dZ (λQ=>xa n l λl=>F l Q)
 |0,l,F,h=>h []
 |n+1,[],F,h=>cz
 |n+1,d::r,F,h=>sA (F:=λd Q=>xa n r λl=>F (d::l) Q) (W1 (F:=λl Q=>F (d::l) Q) (λl=>h (d::l)))
theorem DM:∀ {n:Nat} {l:List ak} {F:List ak->(Option Prop->ak->Prop)->Prop},(∀l,dZ (F l))->dZ (λQ=>qK n l λl=>F l Q)
 |0,l,F,h=>h l
 |n+1,[],F,h=>cz
 |n+1,d::r,F,h=>DM (l:=r) h
theorem KE{agg:Bool}{size:Nat}{l:List ak}{F:ak->(Option Prop->ak->Prop)->Prop}(h:∀d,dZ (F d)):dZ (λQ=>mA agg size l λd=>F d Q):=by
 cases agg
 ·cases l
  ·exact cz
  ·exact sA (h _)
 ·exact W1 (F:=λl Q=>F (.agg l) Q) (λl=>h _)
theorem PF{place:Nat->Nat×Nat}{F:List ak->(Option Prop->ak->Prop)->Prop}(h:∀l,dZ (F l)):∀ {parts:List (Nat×Operand)} {cs:List ak},dZ (λQ=>rA ρ place parts cs λl=>F l Q)
 | [],cs=>h cs
 | (i,x)::r,cs=>by
  refine sA (F:=λd Q=>match d with
   | .b8 _ _=>False
   | .be _=>False
   | .aY=>False
   |d=>match Nat.beq (dn d).length (place i).2&&Nat.ble ((place i).1+(dn d).length) cs.length&&Nat.blt 0 (place i).2 with
    |true=>td (jC cs (place i).1 (dn d)) λdI=>rA ρ place r dI λl=>F l Q
    |false=>False) ?_
  have key:∀d,dZ (λQ=>match Nat.beq (dn d).length (place i).2&&Nat.ble ((place i).1+(dn d).length) cs.length&&Nat.blt 0 (place i).2 with
    |true=>td (jC cs (place i).1 (dn d)) λdI=>rA ρ place r dI λl=>F l Q
    |false=>False):=by
   intro d;generalize(Nat.beq (dn d).length (place i).2&&Nat.ble ((place i).1+(dn d).length) cs.length&&Nat.blt 0 (place i).2)=b;cases b
   ·exact cz
   ·have e: (λQ=>td (jC cs (place i).1 (dn d)) λdI=>rA ρ place r dI λl=>F l Q)=λQ=>rA ρ place r (jC cs (place i).1 (dn d)) λl=>F l Q:=funext λQ=>propext w7;show dZ (λQ=>td (jC cs (place i).1 (dn d)) λdI=>rA ρ place r dI λl=>F l Q);rw[e];exact PF h
  generalize ρ x=d;cases d<;>first|exact cz|exact key _
theorem W2{F:List ak->(Option Prop->ak->Prop)->Prop}:∀ {l:List Operand} {F:List ak->(Option Prop->ak->Prop)->Prop},(∀l,dZ (F l))->dZ (λQ=>tg ρ l λl=>F l Q)
 | [],F,h=>h []
 |x::r,F,h=>sA (F:=λd Q=>tg ρ r λl=>F (d::l) Q) (W2 (F:=λl Q=>F (ρ x::l) Q) (λl=>h _))
theorem KF{b:Bool}{d:ak}{F:Option Prop->ak->(Option Prop->ak->Prop)->Prop}(h:∀c d,dZ (F c d)):dZ (λQ=>tf b d λc d=>F c d Q):=by
 cases d<;>exact h _ _
theorem W3{c xb Ak:Bool}{x y:ak}{F:ak->(Option Prop->ak->Prop)->Prop}(h:∀d,dZ (F d)):dZ (λQ=>rz c x y xb Ak λd=>F d Q):=by
 cases x
 case v x=>
  cases x
  case bool p=>
   cases y
   case v y=>
    cases y
    case bool q=>cases xb<;>cases Ak<;>exact h _
    all_goals exact cz
   all_goals exact cz
  all_goals exact cz
 all_goals exact cz
theorem agd{c a b:Operand}:dZ (Am ρ c a b):=by
 unfold Am;generalize ρ c=x;cases x
 case v x=>
  cases x
  case bool t=>
   exact KF (F:=λfJ x Q=>tf (!t) (ρ b) λeP y=>gW x λx=>gW y λy=>rz t x y (sh a) (si b) λd=>Q (andO fJ eP) d)
    (λfJ x=>KF (F:=λeP y Q=>gW x λx=>gW y λy=>rz t x y (sh a) (si b) λd=>Q (andO fJ eP) d)
    (λeP y=>sA (F:=λx Q=>gW y λy=>rz t x y (sh a) (si b) λd=>Q (andO fJ eP) d)
    (sA (F:=λy Q=>rz t x y (sh a) (si b) λd=>Q (andO fJ eP) d) (W3 (F:=λd Q=>Q (andO fJ eP) d) (λd=>gw _ _)))))
  all_goals exact cz
 all_goals exact cz
theorem PG{F:Bool->(Option Prop->ak->Prop)->Prop}:∀ {c7:List p7} {xs ys:List ak} {F:Bool->(Option Prop->ak->Prop)->Prop},(∀b,dZ (F b))->dZ (λQ=>qL c7 xs ys λb=>F b Q)
 | [],[],[],F,h=>h true
 |k::c7,x::r,y::eY,F,h=>by
  have a1:∀e,dZ (λQ=>qL c7 r eY λz=>F (e&&z) Q):=λe=>PG (F:=λz Q=>F (e&&z) Q) (λz=>h _);show dZ (λQ=>FB k x y λe=>qL c7 r eY λz=>F (e&&z) Q);unfold FB;cases k<;>cases x
  all_goals first|exact cz|skip
  all_goals rename_i p
  all_goals cases p
  all_goals first|exact cz|skip
  all_goals cases y
  all_goals first|exact cz|skip
  all_goals rename_i q
  all_goals cases q
  all_goals first|exact cz|exact a1 _|skip
  rename_i k cV a dj b;show dZ (λQ=>match sj k cV&&sj k dj with
   |true=>qL c7 r eY λz=>F (decide (a=b)&&z) Q
   |false=>False)
  generalize(sj k cV&&sj k dj)=e;cases e
  ·exact cz
  ·exact a1 _
 | [],[],_::_,F,h=>cz
 | [],_::_,[],F,h=>cz
 | [],_::_,_::_,F,h=>cz
 |_::_,[],[],F,h=>cz
 |_::_,[],_::_,F,h=>cz
 |_::_,_::_,[],F,h=>cz
variable{t:TypeId}
theorem age{op:BinOp}{x y:ak}:dZ (CS ah t op x y):=by
 unfold CS;cases x
 case v x=>
  cases x
  case int k a=>
   cases y
   case v y=>
    cases y
    case int eO b=>
     show dZ (λQ=>match U2 op with
      |true=>FD op k a b Q
      |false=>match sj k eO with
       |true=>FC op k a b Q
       |false=>False)
     cases op;all_goals first|exact gw _ _|skip
     all_goals generalize sj k eO=e
     all_goals cases e
     all_goals first|exact cz|exact gw _ _
    all_goals exact cz
   all_goals exact cz
  case string a=>
   cases y
   case v y=>
    cases y
    case string b=>
     cases op;all_goals first|exact gw _ _|exact cz
    all_goals exact cz
   all_goals exact cz
  case bool a=>
   cases y
   case v y=>
    cases y
    case bool b=>
     show dZ (λQ=>match (aE ah t).k with
      | .bool=>FE op a b Q
      |_=>False)
     generalize(aE ah t).k=k;cases k
     case bool=>cases op<;>first|exact gw _ _|exact cz
     all_goals exact cz
    all_goals exact cz
   all_goals exact cz
  all_goals exact cz
 case agg a=>
  cases y
  case agg b=>
   show dZ (λQ=>CR ah t op a b Q);unfold CR;generalize flatK ah 5 t=f;generalize(aE ah t).agg=g;cases f
   ·exact cz
   ·cases g
    ·exact cz
    ·cases op
     case eql=>exact PG (F:=λr Q=>Q none (.v (.bool r))) (λ_=>gw _ _)
     case neq=>exact PG (F:=λr Q=>Q none (.v (.bool (!r)))) (λ_=>gw _ _)
     all_goals exact cz
  all_goals exact cz
 all_goals exact cz
theorem agf{c7 k:Jm}{d:ak}:dZ (CU ah c7 k d):=by
 unfold CU;cases c7
 case int=>
  cases k
  case int=>
   cases d
   case v x=>cases x<;>first|exact gw _ _|exact cz
   all_goals exact cz
  all_goals exact cz
 case str=>
  cases k
  case str=>
   cases d
   case v x=>cases x<;>first|exact gw _ _|exact cz
   all_goals exact cz
  all_goals exact cz
 case fb e=>
  cases k
  case str=>
   cases d
   case av ay es f=>
    show dZ (λQ=>match (aE ah e).k,Nat.beq ay 1 with
     | .int .u8,true=>∃rB:List UInt8,Q (some (es=rB.map Al)) (.v (.string ⟨rB.toArray⟩))
     |_,_=>False)
    generalize(aE ah e).k=k;generalize Nat.beq ay 1=b;cases k
    case int k=>
     cases k
     case u8=>
      cases b
      ·exact cz
      ·exact oB (λ_=>gw _ _)
     all_goals exact cz
    all_goals exact cz
   all_goals exact cz
  all_goals exact cz
 all_goals exact cz
theorem agh{f:Nat}{d:ak}:dZ (xd ah loc t f d):=by
 unfold xd;generalize(aE ah t).k=k;cases k
 case b4 fs=>
  show dZ (λQ=>match (aE ah (h2 fs f).1).size with
   |0=>False
   |_=>match d with
    | .aW i o=>Q none (.aW i (o+(h2 fs f).2))
    | .dU i o=>Q none (.dU i (o+(h2 fs f).2))
    | .de i k o=>match jR (bN loc i)with
     |true=>Q none (.de i k (o+(h2 fs f).2))
     |false=>False
    | .da cs=>qK (h2 fs f).2 cs λl=>Q none (.da l)
    |_=>False)
  generalize(aE ah (h2 fs f).1).size=z;cases z
  ·exact cz
  ·cases d
   case da cs=>exact DM (F:=λl Q=>Q none (.da l)) (λl=>gw _ _)
   case de i k o=>
    show dZ (λQ=>match jR (bN loc i)with
     |true=>Q none (.de i k (o+(h2 fs f).2))
     |false=>False)
    generalize jR (bN loc i)=b;cases b
    ·exact cz
    ·exact gw _ _
   all_goals first|exact gw _ _|exact cz
 all_goals exact cz
theorem agi{f:Nat}{d:ak}:dZ (CV ah t f d):=by
 unfold CV;generalize(aE ah t).k=k;cases k
 case b4 fs=>
  show dZ (λQ=>match (aE ah (h2 fs f).1).size with
   |0=>False
   |_=>match d with
    | .agg cs=>qK (h2 fs f).2 cs λl=>mA (aE ah (h2 fs f).1).agg (aE ah (h2 fs f).1).size l λd=>Q none d
    |_=>False)
  generalize(aE ah (h2 fs f).1).size=z;cases z
  ·exact cz
  ·cases d
   case agg cs=>exact DM (F:=λl Q=>mA _ _ l λd=>Q none d) (λl=>KE (F:=λd Q=>Q none d) (λd=>gw _ _))
   all_goals exact cz
 all_goals exact cz
theorem agj{size:Nat}{iX:Int}{d:ak}:dZ (An loc size iX d):=by
 unfold An;cases d
 case av ay es f=>
  show dZ (λQ=>match Nat.beq ay size with
   |true=>∃ (k:Nat) (gb:List ak),Q (some (iX=k/\es[k]?=some gb)) (.da gb)
   |false=>False)
  generalize Nat.beq ay size=b;cases b
  ·exact cz
  ·exact oB (λk=>oB (λgb=>gw _ _))
 case own j=>
  show dZ (λQ=>match bN loc j with
   | .row _ ay es=>match Nat.beq ay size with
    |true=>∃k:Nat,Q (some (iX=k/\k<es.length)) (.de j k 0)
    |false=>False
   |_=>False)
  generalize bN loc j=bC;cases bC
  case row e ay es=>
   show dZ (λQ=>match Nat.beq ay size with
    |true=>∃k:Nat,Q (some (iX=k/\k<es.length)) (.de j k 0)
    |false=>False)
   generalize Nat.beq ay size=b;cases b
   ·exact cz
   ·exact oB (λk=>gw _ _)
  all_goals exact cz
 all_goals exact cz
theorem agk{n size:Nat}{lit:Option Nat}{iX:Int}{d:ak}:dZ (CW n size lit iX d):=by
 unfold CW;cases lit
 ·cases d
  case aW=>exact oB (λk=>gw _ _)
  case dU=>exact oB (λk=>gw _ _)
  all_goals exact cz
 ·cases d<;>first|exact gw _ _|exact cz
theorem agl{i:Operand}{x y:ak}:dZ (xe ah loc t i x y):=by
 unfold xe;generalize(aE ah t).k=k;cases k
 case fb e=>
  cases y
  case v y=>
   cases y
   case int F4 iX=>
    show dZ (λQ=>match (aE ah e).size with
     |0=>False
     |_=>An loc (aE ah e).size iX x Q)
    generalize(aE ah e).size=z;cases z
    ·exact cz
    ·exact agj
   all_goals exact cz
  all_goals exact cz
 case arr n e=>
  cases y
  case v y=>
   cases y
   case int F4 iX=>
    show dZ (λQ=>match (aE ah e).size with
     |0=>False
     |_=>CW n (aE ah e).size (Jo i) iX x Q)
    generalize(aE ah e).size=z;cases z
    ·exact cz
    ·exact agk
   all_goals exact cz
  all_goals exact cz
 all_goals exact cz
theorem agm{x y:ak}:dZ (CX ah t x y):=by
 unfold CX;cases y
 case v y=>
  cases y
  case int F4 iX=>
   show dZ (λQ=>match (aE ah t).k,x with
    | .str,.v (.string s)=>∃k:Nat,Q (some (iX=k/\k<s.size)) (.v (.int .u8 (s.data.getD k 0).toNat))
    | .arr n e,.agg cs=>match (aE ah e).agg,Nat.beq (aE ah e).size 1 with
     |false,true=>∃ (k:Nat) (d:ak),gW d λd=>Q (some (iX=k/\k<n/\cs[k]?=some d)) d
     |_,_=>False
    |_,_=>False)
   generalize(aE ah t).k=k;cases k
   case str=>
    cases x
    case v x=>cases x<;>first|exact oB (λk=>gw _ _)|exact cz
    all_goals exact cz
   case arr n e=>
    cases x
    case agg cs=>
     show dZ (λQ=>match (aE ah e).agg,Nat.beq (aE ah e).size 1 with
      |false,true=>∃ (k:Nat) (d:ak),gW d λd=>Q (some (iX=k/\k<n/\cs[k]?=some d)) d
      |_,_=>False)
     generalize(aE ah e).agg=g;generalize Nat.beq (aE ah e).size 1=b;cases g
     ·cases b
      ·exact cz
      ·exact oB (λk=>oB (λd=>sA (F:=λd Q=>Q (some (iX=k/\k<n/\cs[k]?=some d)) d) (gw _ _)))
     ·exact cz
    all_goals exact cz
   all_goals exact cz
  all_goals exact cz
 all_goals exact cz
theorem agn{d:ak}:dZ (uB ah loc t d):=by
 unfold uB;generalize(aE ah t).size=z;generalize(aE ah t).agg=g;cases z
 ·exact cz
 ·cases d
  case da cs=>exact KE (F:=λd Q=>Q none d) (λd=>gw _ _)
  case aW i o=>
   show dZ (λQ=>match bN loc i with
    | .cells _ cs=>qK o cs λl=>mA g _ l λd=>Q none d
    |_=>False)
   generalize bN loc i=bC;cases bC
   case cells eB cs=>exact DM (F:=λl Q=>mA _ _ l λd=>Q none d) (λl=>KE (F:=λd Q=>Q none d) (λd=>gw _ _))
   all_goals exact cz
  case dU i o=>
   rename_i z;show dZ (λQ=>match bN loc i with
    | .cells _ cs=>match g with
     |true=>∃ds:List ak,Q (some ((cs.drop o).take (z+1)=ds/\ds.length=z+1)) (.agg ds)
     |false=>∃d:ak,gW d λd=>Q (some (cs[o]?=some d)) d
    |_=>False)
   generalize bN loc i=bC;cases bC
   case cells eB cs=>
    cases g
    ·exact oB (λd=>sA (F:=λd Q=>Q (some (cs[o]?=some d)) d) (gw _ _))
    ·exact oB (λd=>gw _ _)
   all_goals exact cz
  case de i k o=>
   rename_i z;show dZ (λQ=>match bN loc i with
    | .row _ _ es=>∃gb:List ak,qK o gb λl=>mA g (z+1) l λd=>Q (some (es[k]?=some gb)) d
    |_=>False)
   generalize bN loc i=bC;cases bC
   case row e ay es=>
    exact oB (λgb=>DM (F:=λl Q=>mA g (z+1) l λd=>Q (some (es[k]?=some gb)) d) (λl=>KE (F:=λd Q=>Q (some (es[k]?=some gb)) d) (λd=>gw _ _)))
   all_goals exact cz
  all_goals exact cz
theorem ago{n:Nat}{d:ak}:dZ (CY n d):=by
 unfold CY;cases d
 case be ds=>
  refine DM (F:=λl Q=>match l with
   |d::_=>gW d λd=>Q none d
   | []=>False) (λl=> ?_)
  cases l
  ·exact cz
  ·exact sA (F:=λd Q=>Q none d) (gw _ _)
 all_goals exact cz
theorem agp{d:ak}{fj hi eS:Option Operand}:dZ (CZ ah t ρ d fj hi eS):=by
 unfold CZ;generalize(aE ah t).k=k;cases k
 case str=>
  cases d
  case v x=>
   cases x
   case string s=>
    cases eS
    ·exact oB (λl=>oB (λh=>gw _ _))
    ·exact cz
   all_goals exact cz
  all_goals exact cz
 case fb e=>
  cases d
  case ar=>
   show dZ (λQ=>match (aE ah e).size,eS with
    |0,_=>False
    |_,some _=>False
    |_,none=>Q (some (oo ρ fj 0 0/\oo ρ hi 0 0)) .ar)
   generalize(aE ah e).size=z;cases z<;>cases eS<;>first|exact cz|exact gw _ _
  case av ay es tc=>
   show dZ (λQ=>match (aE ah e).size,Nat.beq ay (aE ah e).size with
    |0,_=>False
    |_,false=>False
    |_,true=>match hi,eS with
     |none,none=>∃l:Nat,Q (some (oo ρ fj l 0/\l<=es.length)) (.av ay (es.drop l) tc)
     |some aH,none=>∃l h:Nat,Q (some (oo ρ fj l 0/\oo ρ (some aH) h 0/\l<=h/\h<=es.length)) (.av ay ((es.take h).drop l) false)
     |some aH,some Od=>∃l h:Nat,Q (some (oo ρ fj l 0/\oo ρ (some aH) h 0/\oo ρ (some Od) h 0/\l<=h/\h<=es.length)) (.av ay ((es.take h).drop l) true)
     |none,some _=>False)
   generalize Nat.beq ay (aE ah e).size=b;generalize(aE ah e).size=z;cases z
   ·exact cz
   ·cases b
    ·exact cz
    ·cases hi<;>cases eS
     ·exact oB (λl=>gw _ _)
     ·exact cz
     ·exact oB (λl=>oB (λh=>gw _ _))
     ·exact oB (λl=>oB (λh=>gw _ _))
  all_goals exact cz
 all_goals exact cz
theorem agq{parts:List (Nat×Operand)}:dZ (C1 ah t ρ parts):=by
 unfold C1;generalize(aE ah t).k=k;generalize(aE ah t).zero=z0;generalize(aE ah t).size=z;cases k
 case b4 fs=>
  show dZ (λQ=>match C0 ah fs,z with
   |true,_+1=>rA ρ _ parts z0 λl=>Q none (.agg l)
   |_,_=>False)
  generalize C0 ah fs=b;cases b
  ·exact cz
  ·cases z
   ·exact cz
   ·exact PF (F:=λl Q=>Q none (.agg l)) (λl=>gw _ _)
 case arr n e=>
  show dZ (λQ=>match (aE ah e).size,z with
   |_+1,_+1=>rA ρ (λi=>(i* (aE ah e).size,(aE ah e).size)) parts z0 λl=>Q none (.agg l)
   |_,_=>False)
  generalize(aE ah e).size=y;cases y
  ·exact cz
  ·cases z
   ·exact cz
   ·exact PF (F:=λl Q=>Q none (.agg l)) (λl=>gw _ _)
 all_goals exact cz
theorem W4{op:Op}:dZ (oq ah loc op ρ):=by
 cases op
 case move x=>exact sA (F:=λd Q=>Q none d) (gw _ _)
 case assign x=>exact sA (F:=λd Q=>Q none d) (gw _ _)
 case pick=>exact agd
 case nilCheck x=>
  show dZ (λQ=>xc loc (ρ x) Q);generalize ρ x=d;unfold xc;cases d
  case fn f c=>cases f<;>first|exact gw _ _|exact cz
  case de i k o=>
   show dZ (λQ=>match jR (bN loc i)with
    |true=>Q none (.de i k o)
    |false=>False)
   generalize jR (bN loc i)=b;cases b
   ·exact cz
   ·exact gw _ _
  all_goals first|exact gw _ _|exact cz
 case binOp=>exact age
 case unOp op t x=>
  show dZ (λQ=>CT op (ρ x) Q);generalize ρ x=d;unfold CT;cases op<;>cases d
  all_goals first|exact cz|skip
  all_goals rename_i y
  all_goals cases y
  all_goals first|exact gw _ _|exact cz
 case convert=>exact agf
 case fieldAddr=>exact agh
 case field=>exact agi
 case indexAddr=>exact agl
 case index=>exact agm
 case load=>exact agn
 case extract=>exact ago
 case slice=>exact agp
 case makeFunc f first cr=>
  show dZ (λQ=>match first.toList with
   | []=>tg ρ cr.toList λl=>match l.all l8 with
    |true=>Q none (.fn f l)
    |false=>False
   |_=>False)
  generalize first.toList=l
  cases l
  ·refine W2 (F:=λl Q=>match l.all l8 with
    |true=>Q none (.fn f l)
    |false=>False) (λl=> ?_)
   generalize l.all l8=b;cases b<;>first|exact gw _ _|exact cz
  ·exact cz
 case build=>exact agq
 case call c=>
  obtain⟨callee,args,fg⟩:=c;cases callee
  case builtin b=>
   cases b
   case len=>
    show dZ (λQ=>match args.toList,fg.toList with
     | [x],[t]=>vR ah loc t (ρ x) Q
     |_,_=>False)
    generalize args.toList=l;generalize fg.toList=cK;cases l with
    |nil=>exact cz
    |cons x r=>
     cases r with
     |cons _ _=>exact cz
     |nil=>
      cases cK with
      |nil=>exact cz
      |cons t eY=>
       cases eY with
       |cons _ _=>exact cz
       |nil=>
        show dZ (λQ=>vR ah loc t (ρ x) Q);generalize ρ x=d;unfold vR;generalize(aE ah t).k=k;cases k
        case fb e=>
         cases d
         case own j=>
          show dZ (λQ=>match bN loc j with
           | .row _ _ es=>Q none (.v (.int .i64 es.length))
           |_=>False)
          generalize bN loc j=bC;cases bC<;>first|exact gw _ _|exact cz
         all_goals first|exact gw _ _|exact cz
        case str=>
         cases d
         case v x=>cases x<;>first|exact gw _ _|exact cz
         all_goals exact cz
        all_goals first|exact gw _ _|exact cz
   case min=>
    show dZ (λQ=>match args.toList with
     | [x,y]=>Ao (ρ x) (ρ y) Q
     |_=>False)
    generalize args.toList=l;rcases l with _| ⟨x,_| ⟨y,_|_⟩⟩
    ·exact cz
    ·exact cz
    ·show dZ (λQ=>Ao (ρ x) (ρ y) Q);generalize ρ x=d;generalize ρ y=e;unfold Ao;cases d
     case v d=>
      cases d
      case int=>
       cases e
       case v e=>cases e<;>first|exact gw _ _|exact cz
       all_goals exact cz
      all_goals exact cz
     all_goals exact cz
    ·exact cz
   case max=>
    show dZ (λQ=>match args.toList with
     | [x,y]=>Ap (ρ x) (ρ y) Q
     |_=>False)
    generalize args.toList=l;rcases l with _| ⟨x,_| ⟨y,_|_⟩⟩
    ·exact cz
    ·exact cz
    ·show dZ (λQ=>Ap (ρ x) (ρ y) Q);generalize ρ x=d;generalize ρ y=e;unfold Ap;cases d
     case v d=>
      cases d
      case int=>
       cases e
       case v e=>cases e<;>first|exact gw _ _|exact cz
       all_goals exact cz
      all_goals exact cz
     all_goals exact cz
    ·exact cz
   all_goals exact cz
  all_goals exact cz
 all_goals exact cz
theorem ags{g:Bool}{c a b:Operand}:dZ (yA s g c a b):=by
 have agt:∀ {l:List Operand} {F:Option Prop->(Option Prop->ak->Prop)->Prop},(∀c,dZ (F c))->dZ (λQ=>py g s l λc=>F c Q):=by
  intro l;induction l with
  |nil=>intro F h;exact h _
  |cons x r a1=>
   intro F h;show dZ (λQ=>match bF s x with
    | .b8 dV _=>py g s r λc=>F (andO (some (g=true->dV=true)) c) Q
    |_=>py g s r λc=>F c Q)
   generalize bF s x=d;cases d
   case b8 dV d=>simp_all
   all_goals exact a1 h
 unfold yA;refine agt (F:=λdh Q=>match jD s c with
  | .v (.bool t)=>tf (g&&t) (bF s a) λfJ x=>tf (g&& !t) (bF s b) λeP y=>gW x λx=>gW y λy=>rz t x y (sh a) (si b) λd=>Q (andO dh (andO fJ eP)) d
  |_=>False) (λdh=> ?_)
 generalize jD s c=x;cases x
 case v x=>
  cases x
  case bool t=>
   exact KF (F:=λfJ x Q=>tf (g&& !t) (bF s b) λeP y=>gW x λx=>gW y λy=>rz t x y (sh a) (si b) λd=>Q (andO dh (andO fJ eP)) d)
    (λfJ x=>KF (F:=λeP y Q=>gW x λx=>gW y λy=>rz t x y (sh a) (si b) λd=>Q (andO dh (andO fJ eP)) d)
    (λeP y=>sA (F:=λx Q=>gW y λy=>rz t x y (sh a) (si b) λd=>Q (andO dh (andO fJ eP)) d)
    (sA (F:=λy Q=>rz t x y (sh a) (si b) λd=>Q (andO dh (andO fJ eP)) d) (W3 (F:=λd Q=>Q (andO dh (andO fJ eP)) d) (λd=>gw _ _)))))
  all_goals exact cz
 all_goals exact cz
end
open Go
section
variable {P:Program} {ah:dJ} {aD:Nat->Prop} {ba:e8} {n:Nat} {os:c3} {s s':bJ} {a:Act} {w:World} {o:Oper} {A:Nat->Prop} {B:e8} {ρ:Operand->ak} {loc e0:List aX} {Q:Option Prop->ak->Prop} {ops:Array Oper}
theorem W5{op:Op}(af:∀x∈op.operands.toList,∀k∈hR (ρ x),bN e0 k=bN loc k)(h:oq ah loc op ρ Q):oq ah e0 op ρ Q:=by
 cases op
 case nilCheck x=>
  have ag:=af x (by simp[Op.operands]);have h:xc loc (ρ x) Q:=h;show xc e0 (ρ x) Q;generalize ρ x=d at *;cases d
  case de j k off=>
   have e:=ag j (by simp[hR,p9]);unfold xc at h⊢
   grind
  case fn f c=>cases f<;>exact h
  all_goals exact h
 case fieldAddr t x f=>
  have ag:=af x (by simp[Op.operands]);have h:xd ah loc t f (ρ x) Q:=h;show xd ah e0 t f (ρ x) Q;generalize ρ x=d at *;cases d
  case de j k off=>
   have e:=ag j (by simp[hR,p9]);unfold xd at h⊢
   grind
  all_goals exact h
 case indexAddr t x i=>
  have ag:=af x (by simp[Op.operands]);have h:xe ah loc t i (ρ x) (ρ i) Q:=h;show xe ah e0 t i (ρ x) (ρ i) Q;generalize ρ x=d at *;cases d
  case own j=>
   have e:=ag j (by simp[hR,p9]);unfold xe An at h⊢
   grind
  all_goals exact h
 case load t x=>
  have ag:=af x (by simp[Op.operands]);have h:uB ah loc t (ρ x) Q:=h;show uB ah e0 t (ρ x) Q;generalize ρ x=d at *;cases d
  case aW j off=>
   have e:=ag j (by simp[hR,p9]);unfold uB at h⊢
   grind
  case dU j off=>
   have e:=ag j (by simp[hR,p9]);unfold uB at h⊢
   grind
  case de j k off=>
   have e:=ag j (by simp[hR,p9]);unfold uB at h⊢
   grind
  all_goals exact h
 case call c=>
  obtain⟨callee,args,fg⟩:=c;cases callee
  case builtin b=>
   cases b
   case len=>
    have h: (match args.toList,fg.toList with
     | [x],[t]=>vR ah loc t (ρ x) Q
     |_,_=>False):=h
    show (match args.toList,fg.toList with
     | [x],[t]=>vR ah e0 t (ρ x) Q
     |_,_=>False)
    split at h
    ·rename_i x t aA aG;have ag:=af x (by simp[Op.operands,Call.operands];rw[<-vG,aA];simp);generalize ρ x=d at *;cases d
     case own j=>
      have e:=ag j (by simp[hR,p9]);unfold vR at h⊢
      grind
     all_goals exact h
    omega
   all_goals exact h
  all_goals exact h
 all_goals exact h
variable{d:ak}{R:ak->Prop}
theorem agu(h:vS loc d R):∃ck,R ck/\∀e0,(∀k∈Jy d,bN e0 k=bN loc k)->∀ja:ak->Prop,ja ck->vS e0 d ja:=by
 cases d
 case aW j o=>
  unfold vS at h;simp only at h;split at h
  ·rename_i t cs ax;split at h
   ·rename_i eF;refine⟨_,h,λe0 af ja W6=> ?_⟩;have aq:=af j (by simp[Jy]);unfold vS
    grind
   grind
  grind
 all_goals exact⟨_,h,λ_ _ _ bp=>bp⟩
theorem W7:∀ {ds:List ak} {R:List ak->Prop},yw loc ds R->∃l,R l/\∀e0,(∀d∈ds,∀k∈Jy d,bN e0 k=bN loc k)->∀ja:List ak->Prop,ja l->yw e0 ds ja
 | [],R,h=>⟨_,h,λ_ _ _ bp=>bp⟩
 |d::r,R,h=>by
  obtain⟨ck,h,cV⟩:=agu h;obtain⟨l,h,dj⟩:=W7 h;exact⟨_,h,λe0 af ja bp=>cV e0 (af d (by simp)) _ (dj e0 (λd aa=>af d (by grind)) _ bp)⟩
theorem W8(h:ot loc d R):∃ck,R ck/\∀e0,(∀k∈p9 d,bN e0 k=bN loc k)->∀ja:ak->Prop,ja ck->ot e0 d ja:=by
 cases d
 case own j=>
  unfold ot at h;simp only at h;split at h
  ·rename_i e ay es ax;refine⟨_,h,λe0 af ja W6=> ?_⟩;have aq:=af j (by simp[p9]);unfold ot
   grind
  grind
 case aW j o=>
  unfold ot at h;simp only at h;split at h
  ·rename_i t cs ax;split at h
   ·rename_i eF;refine⟨_,h,λe0 af ja W6=> ?_⟩;have aq:=af j (by simp[p9]);unfold ot
    grind
   grind
  grind
 case fn f cr=>
  have h:yw loc cr (λl=>R (.fn f l)):=h;obtain⟨l,h,k⟩:=W7 h;exact⟨_,h,λe0 af ja bp=>k e0 (λd aa q bX=>af q (by simp only[p9,I4];grind)) (λl=>ja (.fn f l)) bp⟩
 all_goals first|exact h.elim|exact⟨_,h,λ_ _ _ bp=>bp⟩
theorem W9:∀ {ds:List ak} {R:List ak->Prop},C3 loc ds R->∃l,R l/\∀e0,(∀d∈ds,∀k∈p9 d,bN e0 k=bN loc k)->∀ja:List ak->Prop,ja l->C3 e0 ds ja
 | [],R,h=>⟨_,h,λ_ _ _ bp=>bp⟩
 |d::r,R,h=>by
  obtain⟨ck,h,cV⟩:=W8 h;obtain⟨l,h,dj⟩:=W9 h;exact⟨_,h,λe0 af ja bp=>cV e0 (af d (by simp)) _ (dj e0 (λd aa=>af d (by grind)) _ bp)⟩
theorem agv(h:uC loc d R):∃ck,R ck/\∀e0,(∀k∈hR d,bN e0 k=bN loc k)->∀ja:ak->Prop,ja ck->uC e0 d ja:=by
 cases d
 case agg cs=>
  obtain⟨l,h,k⟩:=W9 (ds:=cs) h;exact⟨_,h,λe0 af ja bp=>k e0 (λd aa k hk=>af k (by simp only[hR,I4];grind)) _ bp⟩
 case b8=>exact h.elim
 case be ds=>
  have h:match ds.any mY with
   |false=>R (.be ds)
   |true=>False:=h
  cases aV:ds.any mY with
  |false=>
   rw[aV]at h;refine⟨_,h,λe0 _ ja bp=> ?_⟩;show match ds.any mY with
    |false=>ja (.be ds)
    |true=>False
   grind
  |true=>
   grind
 all_goals exact W8 h
theorem KG:∀ {ds:List ak} {R:List ak->Prop},th loc ds R->∃l,R l/\∀e0,(∀d∈ds,∀k∈hR d,bN e0 k=bN loc k)->∀ja:List ak->Prop,ja l->th e0 ds ja
 | [],R,h=>⟨_,h,λ_ _ _ bp=>bp⟩
 |d::r,R,h=>by
  obtain⟨ck,h,cV⟩:=agv h;obtain⟨l,h,dj⟩:=KG h;exact⟨_,h,λe0 af ja bp=>cV e0 (af d (by simp)) _ (dj e0 (λd aa=>af d (by grind)) _ bp)⟩
theorem GC{g:Bool}:∀ {l:List Operand} {R:Option Prop->Prop},py g s l R->∃c,R c/\∀ {A:Nat->Prop} {os:c3} {a:Act} {w:World},(∀x∈l,bg A os w (a.eval x) (bF s x))->Holds c->g=true->∀x∈l,bg A os w (a.eval x) (jD s x)
 | [],R,b1=>⟨_,b1,λ_ _ _ x ag=>by grind⟩
 |x::r,R,b1=>by
  unfold py at b1;split at b1
  ·rename_i dV d e;obtain⟨c,b1,al⟩:=GC b1;refine⟨_,b1,λag bw ax y bk=> ?_⟩;obtain⟨h1,ad⟩:=Holds.andO.1 bw;rcases pt.1 bk with rfl|bk
   ·have:=ag y (by simp);unfold jD;rw[e]at this⊢;exact this.yF.1 (Holds.j8.1 h1 ax)
   grind
  ·rename_i xx;obtain⟨c,b1,al⟩:=GC b1;refine⟨_,b1,λag bw ax y bk=> ?_⟩;rcases pt.1 bk with rfl|bk
   ·have:jD s y=bF s y:=by
     unfold jD;generalize bF s y=d at xx;cases d<;>first|rfl|exact absurd rfl (xx _ _)
    grind
   grind
variable{dst:Option Tmp}
theorem xH{d:ak}{kr:List Nat}{p8:List (Nat×Nat)}:gp s dst d (λpG=>pG=fc.kM ⟨gF dst d,kr,[],p8⟩ s):=by
 refine AJ.2 ?_;cases s;cases dst<;>rfl
theorem tx{d:ak}{kr:List Nat}{k:Nat}{bC:aX}{p8:List (Nat×Nat)}:gp ⟨s.env,gq s.loc k bC⟩ dst d (λpG=>pG=fc.kM ⟨gF dst d,kr,[(k,bC)],p8⟩ s):=by
 refine AJ.2 ?_;cases s;cases dst<;>rfl
def KH(os aP:c3):Prop:=∀ (i:Nat) (x:Value) (o:aX),o≠ .bn->os[i]?=some (x,o)->∃aT,aP[i]?=some (x,aT)/\en o aT
variable{dz:Nat->Prop}{aP:c3}{w':World}
theorem bg.A4(k:dy A dz w w')(bb:KH os aP){x:Value}{d:ak}(h:bg A os w x d):bg dz aP w' x d:=by
 induction h with
 |bQ h=>exact .bQ (h.cA k)
 |aW h=>
  obtain⟨aT,bp,hk⟩:=bb _ _ _ (by simp) h;cases aT<;>simp[en]at hk
  exact .aW bp
 |dU h=>
  obtain⟨aT,bp,hk⟩:=bb _ _ _ (by simp) h;cases aT<;>simp[en]at hk
  exact .dU bp
 |de h=>
  obtain⟨aT,bp,hk⟩:=bb _ _ _ (by simp) h;cases aT<;>simp[en]at hk
  obtain⟨rfl,rfl⟩:=hk;exact .de bp
 |own h h1=>
  obtain⟨aT,bp,hk⟩:=bb _ _ _ (by simp) h;cases aT<;>simp[en]at hk
  exact .own bp h1
 |e5 h aa h1=>
  obtain⟨aT,bp,hk⟩:=bb _ _ _ (by simp) h;cases aT<;>simp[en]at hk
  exact .e5 bp aa h1
 |agg af br _ a1=>exact .agg af br a1
 |be af b0 _ a1=>
  exact .be af (λi v d ab aa=>by
   rcases b0 i v d ab aa with h|h
   ·grind
   ·exact .inr (h.cA k)) a1
 |fn af iM _ a1=>exact .fn af iM a1
 |b8 _ aQ a1=>exact .b8 a1 aQ
theorem lK.A4{os aP:c3}{B:e8}{w w':World}{x:Value}{bC:aX}(h:lK A os B w x bC)(k:dy A dz w w')(bb:KH os aP)(ac:∀b,bC≠ .bn->bI x=some b->w'.heap[b]?=w.heap[b]?):lK dz aP B w' x bC:=by
 cases bC with
 |bn=>exact trivial
 |gone=>exact h
 |cB ds=>exact⟨h.1,h.2.1,h.2.2.1,λi v d ab aa=>(h.2.2.2 i v d ab aa).A4 k bb⟩
 |cells t cs=>
  obtain⟨g,arr,rfl,ct,bw,ae,br,ao⟩:=h;exact⟨g,arr,rfl,ct,(ac g (by simp) rfl).trans bw,ae,br,λj v d ab aa=>(ao j v d ab aa).A4 k bb⟩
 |row e ay es=>
  obtain⟨jE,xs,b0,cC,gY,br,ao⟩:=h;refine⟨jE,xs,⟨b0.1,?_⟩,cC,gY,br,λeO j r d h1 ad=> ?_⟩
  ·rcases b0.2 with aV| ⟨g,cap,cur,rfl,ct,bw,rest⟩
   ·grind
   ·exact .inr ⟨g,cap,cur,rfl,ct,(ac g (by simp) rfl).trans bw,rest⟩
  ·obtain⟨v,ab,hi⟩:=ao eO j r d h1 ad;exact⟨v,ab,hi.cA k⟩
variable{i:Nat}{x:Value}
theorem cd.A5{y:Value}{bC:aX}(h:cd aD ba n os s a w)(hi:os[i]?=some (y,.bn))(ax:w.grownBy w' none)(pE:∀b,bI x=some b->w.heap.size<=b)
  (fM:dy (bh aD os) (bh aD (os.set i (x,bC))) w w'->KH os (os.set i (x,bC))->lK (bh aD (os.set i (x,bC))) (os.set i (x,bC)) ba w' x bC):cd aD ba n (os.set i (x,bC)) ⟨s.env,gq s.loc i bC⟩ a w':=by
 have aB:=(eI.1 hi).1;have cL:∀ {j:Nat} {y:Value} {aT:aX},(os.set i (x,bC))[j]?=some (y,aT)->(j=i/\y=x/\aT=bC)\/(j≠i/\os[j]?=some (y,aT)):=by
  grind
 have k:dy (bh aD os) (bh aD (os.set i (x,bC))) w w':=.qb ax (λb ac ab=>by
  rcases ab with ab| ⟨j,y,aT,aq,dq,cx⟩
  ·exact .inl ab
  ·rcases cL aq with⟨rfl,rfl,rfl⟩| ⟨_,aq⟩
   ·grind
   ·exact .inr ⟨_,_,_,aq,dq,cx⟩)
 have qX:KH os (os.set i (x,bC)):=by
  intro j y aT aa aq;by_cases e:j=i
  ·grind
  ·exact⟨aT,by grind,by cases aT<;>simp[en]⟩
 refine⟨h.size,h.defers,pw.Dp h.hB ax (λ_ e=>by cases e),h.a0,by rw[mC,h.loc,oj],λt=>(h.env t).A4 k qX,λj y aT aq=> ?_,λnA uP y dx z fT b h1 ad d1 d2 cX c0=> ?_⟩
 ·rcases cL aq with⟨rfl,rfl,rfl⟩| ⟨bx,aq⟩
  ·grind
  ·exact(h.cW j y aT aq).A4 k qX (λb dq ac=>ax.block b ((h.cW j y aT aq).iY dq ac).2 (by simp))
 ·rcases cL h1 with⟨rfl,rfl,rfl⟩| ⟨_,g1⟩<;>rcases cL ad with⟨rfl,rfl,rfl⟩| ⟨_,g2⟩
  ·rfl
  ·have:=pE b cX;have:=((h.cW _ _ _ g2).iY d2 c0).2;omega
  ·have:=pE b c0;have:=((h.cW _ _ _ g1).iY d1 cX).2;omega
  ·exact h.inj _ _ _ _ _ _ b g1 g2 d1 d2 cX c0
def KI(i:Nat)(os aP:c3):Prop:=(∃x e ay es,os[i]?=some (x,.row e ay es))/\(∃y,aP[i]?=some (y,.gone))/\∀ (j:Nat) (x:Value) (o:aX),j≠i->o≠ .bn->os[j]?=some (x,o)->∃aT,aP[j]?=some (x,aT)/\en o aT
theorem bg.A6(k:dy A dz w w')(bb:KI i os aP){x:Value}{d:ak}(h:bg A os w x d):bg dz aP w' x d:=by
 obtain⟨⟨OQ,rH,auh,aui,hi⟩,⟨auj,di⟩,bb⟩:=bb;induction h with
 |bQ h=>exact .bQ (h.cA k)
 |aW h=>
  obtain⟨aT,bp,hk⟩:=bb _ _ _ (λe=>by grind) (by simp) h;cases aT<;>simp[en]at hk
  exact .aW bp
 |dU h=>
  obtain⟨aT,bp,hk⟩:=bb _ _ _ (λe=>by grind) (by simp) h;cases aT<;>simp[en]at hk
  exact .dU bp
 | @de j _ _ _ _ _ _ _ _ h=>
  by_cases e:j=i
  ·subst e;exact .e5 di (.inr ⟨_,_,rfl⟩) rfl
  ·obtain⟨aT,bp,hk⟩:=bb _ _ _ e (by simp) h;cases aT<;>simp[en]at hk
   obtain⟨rfl,rfl⟩:=hk;exact .de bp
 | @own j _ _ _ _ h h1=>
  by_cases e:j=i
  ·subst e;exact .e5 di (.inl rfl) h1
  ·obtain⟨aT,bp,hk⟩:=bb _ _ _ e (by simp) h;cases aT<;>simp[en]at hk
   exact .own bp h1
 | @e5 j _ _ _ h aa h1=>
  obtain⟨aT,bp,hk⟩:=bb _ _ _ (λe=>by grind) (by simp) h;cases aT<;>simp[en]at hk
  exact .e5 bp aa h1
 |agg af br _ a1=>exact .agg af br a1
 |be af b0 _ a1=>
  exact .be af (λi v d ab aa=>by
   rcases b0 i v d ab aa with h|h
   ·grind
   ·exact .inr (h.cA k)) a1
 |fn af iM _ a1=>exact .fn af iM a1
 |b8 _ aQ a1=>exact .b8 a1 aQ
theorem lK.A6{os aP:c3}{B:e8}{w w':World}{i:Nat}{x:Value}{bC:aX}(h:lK A os B w x bC)(k:dy A dz w w')(bb:KI i os aP)(ac:∀b,bC≠ .bn->bI x=some b->w'.heap[b]?=w.heap[b]?):lK dz aP B w' x bC:=by
 cases bC with
 |bn=>exact trivial
 |gone=>exact h
 |cB ds=>exact⟨h.1,h.2.1,h.2.2.1,λi v d ab aa=>(h.2.2.2 i v d ab aa).A6 k bb⟩
 |cells t cs=>
  obtain⟨g,arr,rfl,ct,bw,ae,br,ao⟩:=h;exact⟨g,arr,rfl,ct,(ac g (by simp) rfl).trans bw,ae,br,λj v d ab aa=>(ao j v d ab aa).A6 k bb⟩
 |row e ay es=>
  obtain⟨jE,xs,b0,cC,gY,br,ao⟩:=h;refine⟨jE,xs,⟨b0.1,?_⟩,cC,gY,br,λeO j r d h1 ad=> ?_⟩
  ·rcases b0.2 with aV| ⟨g,cap,cur,rfl,ct,bw,rest⟩
   ·grind
   ·exact .inr ⟨g,cap,cur,rfl,ct,(ac g (by simp) rfl).trans bw,rest⟩
  ·obtain⟨v,ab,hi⟩:=ao eO j r d h1 ad;exact⟨v,ab,hi.cA k⟩
theorem cd.agw{q e e' ay mB:Nat}{es fK:List (List ak)}{x y x':Value}{xs:List Value}(h:cd aD ba n os s a w)(hi:os[i]?=some (x,.row e ay es))(bX:os[q]?=some (y,.bn))(ax:w.grownBy w' (bI x))(ac:∀b,bI x'=some b->bI x=some b\/w.heap.size<=b)
  (b0:w'.ownsRow 0 e' mB x' fK.length xs) (cC:0<mB) (ao:hU (bh aD os) w xs fK mB):
  cd aD ba n ((os.set i (.nilFunc,.gone)).set q (x',.row e' mB fK)) ⟨s.env,gq (gq s.loc i .gone) q (.row e' mB fK)⟩ a w'/\((os.set i (.nilFunc,.gone)).set q (x',.row e' mB fK))[q]?=some (x',.row e' mB fK):=by
 have bx:i≠q:=λe=>by grind
 have Kw:=(eI.1 hi).1;have auk:=(eI.1 bX).1;have iO: ((os.set i (.nilFunc,.gone)).set q (x',.row e' mB fK))[q]?=some (x',.row e' mB fK):=by grind
 have wk: ((os.set i (.nilFunc,.gone)).set q (x',.row e' mB fK))[i]?=some (.nilFunc,.gone):=by grind
 generalize mD: (os.set i (.nilFunc,.gone)).set q (x',.row e' mB fK)=aP at iO wk⊢;refine⟨?_,iO⟩;have cL:∀ {j:Nat} {z:Value} {aT:aX},aP[j]?=some (z,aT)->(j=q/\z=x'/\aT= .row e' mB fK)\/(j=i/\z= .nilFunc/\aT= .gone)\/(j≠i/\j≠q/\os[j]?=some (z,aT)):=by
  grind
 have bb:KI i os aP:=by
  refine⟨⟨_,_,_,_,hi⟩,⟨_,wk⟩,λj z o aq aa aH=>⟨o,?_,by cases o<;>simp[en]⟩⟩
  grind
 have fO:∀b,b<w.heap.size->bh aD aP b->bh aD os b:=by
  intro b lo ab;rcases ab with ab| ⟨j,z,aT,aq,dq,cx⟩
  ·exact .inl ab
  ·rcases cL aq with⟨rfl,rfl,rfl⟩| ⟨rfl,rfl,rfl⟩| ⟨_,_,aq⟩
   ·rcases ac b cx with h1|h1
    ·exact .inr ⟨i,_,_,hi,by simp,h1⟩
    ·omega
   ·simp[bI]at cx
   ·exact .inr ⟨_,_,_,aq,dq,cx⟩
 have k:dy (bh aD os) (bh aD aP) w w':=⟨ax.size,fO,λb lo aV=>ax.block b lo (λe=>aV (.inr ⟨i,x,_,hi,by simp,e.symm⟩))⟩
 refine⟨h.size,h.defers,pw.Dp h.hB ax (λg e=>((h.cW i x _ hi).iY (by simp) e).1),h.a0,by rw[<-mD,mC,mC,h.loc,oj,oj],λt=>(h.env t).A6 k bb,λj z aT aq=> ?_,λnA uP z dx lT fT b h1 ad d1 d2 cX c0=> ?_⟩
 ·rcases cL aq with⟨rfl,rfl,rfl⟩| ⟨rfl,rfl,rfl⟩| ⟨nj,_,aq⟩
  ·exact rI (λb cx=>(ac b cx).elim (λh1=>((h.cW _ _ _ hi).iY (by simp) h1).1) (e8.sr h.hB)) b0 cC (ao.cA k)
  ·rfl
  ·exact(h.cW j z aT aq).A6 k bb (λb dq cx=>ax.block b ((h.cW j z aT aq).iY dq cx).2 (λe=>nj (h.inj j i _ _ _ _ b aq hi dq (by simp) cx e.symm)))
 ·have eE:∀ {j z aT},aP[j]?=some (z,aT)->aT≠ .bn->bI z=some b->(j=q/\(bI x=some b\/w.heap.size<=b))\/(j≠i/\os[j]?=some (z,aT)/\b<w.heap.size):=by
   intro j z aT aq aa cx;rcases cL aq with⟨rfl,rfl,rfl⟩| ⟨rfl,rfl,rfl⟩| ⟨nj,_,aq⟩
   ·grind
   ·simp[bI]at cx
   ·exact .inr ⟨nj,aq,((h.cW _ _ _ aq).iY aa cx).2⟩
  rcases eE h1 d1 cX with⟨rfl,fl⟩| ⟨ie,g1,k3⟩<;>rcases eE ad d2 c0 with⟨rfl,ff⟩| ⟨lq,g2,F1⟩
  ·rfl
  ·rcases fl with fl|fl
   ·exact absurd (h.inj _ _ _ _ _ _ b g2 hi d2 (by simp) c0 fl) lq
   ·omega
  ·rcases ff with ff|ff
   ·exact absurd (h.inj _ _ _ _ _ _ b g1 hi d1 (by simp) cX ff) ie
   ·omega
  ·exact h.inj _ _ _ _ _ _ b g1 g2 d1 d2 cX c0
theorem agx{d:ak}{kr:List Nat}{k eO:Nat}{bC gN:aX}{p8:List (Nat×Nat)}:gp ⟨s.env,gq (gq s.loc k bC) eO gN⟩ dst d (λpG=>pG=fc.kM ⟨gF dst d,kr,[(k,bC),(eO,gN)],p8⟩ s):=by
 refine AJ.2 ?_;cases s;cases dst<;>rfl
theorem ww(h:cd aD ba n os s a w)(af:bN s.loc i= .bn)(hi:i<s.loc.length):∃y,os[i]?=some (y,.bn):=by
 rw[h.len]at hi;rw[lm,h.loc,fe,eN hi]at af
 grind
theorem wx{l:List aX}{i:Nat}(h:ou l i=true):i<l.length/\bN l i= .bn:=by
 simp only[ou,cq]at h;refine⟨nw h.1,?_⟩;generalize bN l i=o at h;cases o<;>first|rfl| (simp[Oi]at h)
def nC(P:Program)(aD:Nat->Prop)(ba:e8)(n:Nat)(o:Oper)(bz:fc)(s:bJ)(E:Exit->Act->World->Prop):Prop:=
 ∀ (aP:c3) (s':bJ) (a:Act) (w:World),cd aD ba n aP s' a w->(∀x∈o.op.operands.toList,bF s' x=bF s x)->(∀k,(k∈bz.kr\/bz.cW k)->bN s'.loc k=bN s.loc k)->s'.loc.length=s.loc.length->
  o.wp P a w (dM aD ba n λpG=>pG=bz.kM s') E
variable {E:Exit->Act->World->Prop} {idx:Nat}
theorem GD{l:List Operand}{x:Operand}{k:Nat}(ag:x∈l)(hk:k∈hR (ρ x)):k∈oY ρ l:=I4.2 ⟨x,ag,hk⟩
theorem Xa(aw:dw P ah=true)(aQ: (aE ah 0).size=0)(aa:∀t,o.dst=some t->t<n){wrap:ak->ak}{c:Option Prop}{d:ak}
  (lu:∀o8:Option Prop->ak->Prop,o8 c d->oq ah s.loc o.op ρ o8) (al:Holds c)
  (tz:∀ {os:c3} {a:Act} {w:World},(∀x∈o.op.operands.toList,bg (bh aD os) os w (a.eval x) (bF s x))->∀x∈o.op.operands.toList,bg (bh aD os) os w (a.eval x) (ρ x))
  (hw:∀ {os:c3} {w:World} {x:Value} {d:ak},bg (bh aD os) os w x d->bg (bh aD os) os w x (wrap d))
  {kr:List Nat} (ts:∀ (e0:List aX) (o8:Option Prop->ak->Prop),(∀k∈kr,bN e0 k=bN s.loc k)->oq ah s.loc o.op ρ o8->oq ah e0 o.op ρ o8):
  nC P aD ba n o ⟨gF o.dst (wrap d),kr,[],[]⟩ s E:=by
 intro aP s' a w ao he af _;have h1:=lu (λfD ck=>fD=c/\ck=d) ⟨rfl,rfl⟩;have ad:oq ah s'.loc o.op ρ (λfD ck=>fD=c/\ck=d):=ts s'.loc _ (λk hk=>af k (.inl hk)) h1;rw[ao.loc]at ad;obtain⟨_,_,⟨rfl,rfl⟩,ax⟩:=F7 aw aQ ao.cW (a:=a) (tz (λx ag=>by rw[<-he x ag];exact ao.bF x)) ad;obtain⟨x,eo,xu⟩:=ax al;exact jG eo (dM.put ao aa (hw xu) xH)
theorem agy(aw:dw P ah=true)(aQ: (aE ah 0).size=0)(aa:∀t,o.dst=some t->t<n){wrap:ak->ak}{c:Option Prop}{d:ak}
  (lu:∀o8:Option Prop->ak->Prop,o8 c d->oq ah s.loc o.op ρ o8) (al:Holds c)
  (tz:∀ {os:c3} {a:Act} {w:World},(∀x∈o.op.operands.toList,bg (bh aD os) os w (a.eval x) (bF s x))->∀x∈o.op.operands.toList,bg (bh aD os) os w (a.eval x) (ρ x))
  (hw:∀ {os:c3} {w:World} {x:Value} {d:ak},bg (bh aD os) os w x d->bg (bh aD os) os w x (wrap d)):
  nC P aD ba n o ⟨gF o.dst (wrap d),oY ρ o.op.operands.toList,[],[]⟩ s E:=
 Xa aw aQ aa lu al tz hw (λe0 o8 af h=>W5 (λx ag k hk=>af k (GD ag hk)) h)
theorem agz(aw:dw P ah=true)(aQ: (aE ah 0).size=0)(aa:∀t,o.dst=some t->t<n){wrap:ak->ak}{c:Option Prop}{d:ak}
  (lu:∀o8:Option Prop->ak->Prop,o8 c d->oq ah s.loc o.op ρ o8) (al:Holds c)
  (tz:∀ {os:c3} {a:Act} {w:World},(∀x∈o.op.operands.toList,bg (bh aD os) os w (a.eval x) (bF s x))->∀x∈o.op.operands.toList,bg (bh aD os) os w (a.eval x) (ρ x))
  (hw:∀ {os:c3} {w:World} {x:Value} {d:ak},bg (bh aD os) os w x d->bg (bh aD os) os w x (wrap d)):
  nC P aD ba n o ⟨gF o.dst (wrap d),Oq o.op ρ,[],[]⟩ s E:=by
 refine Xa aw aQ aa lu al tz hw (λe0 o8 af h=> ?_);unfold Oq at af;split at af
 ·rename_i e;rw[e]at h⊢;exact h
 ·rename_i e;rw[e]at h⊢;exact h
 ·exact W5 (λx ag k hk=>af k (GD ag hk)) h
theorem agA{f:Operand}{k:FuncId}{cr:List ak}{args:Array Operand}{fg:Array TypeId}{wrap:ak->ak}{K:bJ->Prop}(aH:o.op= .call {callee:=.value f,args:=args,argTypes:=fg})(h:cd aD ba n os s a w)(aa:∀t,o.dst=some t->t<n)
  (oz:∀x∈o.op.operands.toList,bg (bh aD os) os w (a.eval x) (ρ x)) (k7:ρ f= .fn (.func k) cr)
  (hw:∀ {os:c3} {w:World} {x:Value} {d:ak},bg (bh aD os) os w x d->bg (bh aD os) os w x (wrap d))
  (ap:Jt P k (args.toList.map ρ++cr) s λr s=>gp s o.dst (wrap r) K):o.wp P a w (dM aD ba n K) E:=by
 have au:=oz f (by rw[aH];simp[Op.operands,Call.operands]);rw[k7]at au;obtain⟨vs,ab,af,an⟩:=au.tn;obtain⟨h1,ad⟩:=AY (os:=os) (A:=bh aD os) (w:=w) (a:=a) (l:=args.toList) (ρ:=ρ) rfl (λx ag=>oz x (by rw[aH];simp only[Op.operands,Call.operands,vH,eb];grind)) af an;obtain⟨al,wo⟩:=Wz h h1 ad ap;unfold Oper.wp;rw[AX aH ab al];refine wo.mono λe w' he=> ?_;obtain⟨v,r,aP,s',rfl,ao,uV,hk⟩:=he;exact dM.put ao aa (hw uV) hk
theorem Xb{f:Operand}{k:FuncId}{cr:List ak}{args:Array Operand}{fg:Array TypeId}{wrap:ak->ak}{k3 cK:List ak}{r:ak}(aH:o.op= .call {callee:=.value f,args:=args,argTypes:=fg})(aa:∀t,o.dst=some t->t<n)
  (oz:∀ {os:c3} {a:Act} {w:World},(∀x∈o.op.operands.toList,bg (bh aD os) os w (a.eval x) (bF s x))->∀x∈o.op.operands.toList,bg (bh aD os) os w (a.eval x) (ρ x)) (k7:ρ f= .fn (.func k) cr)
  (hw:∀ {os:c3} {w:World} {x:Value} {d:ak},bg (bh aD os) os w x d->bg (bh aD os) os w x (wrap d))
  (lu:∀e0,(∀d∈args.toList.map ρ++cr,∀k∈hR d,bN e0 k=bN s.loc k)->∀ja:List ak->Prop,ja k3->th e0 (args.toList.map ρ++cr) ja)
  (hle:m4 k3 cK) (jr:bq P k cK r) (ae:gX (args.toList.map ρ++cr)=[]\/xf r=true):
  nC P aD ba n o ⟨gF o.dst (wrap r),oY ρ o.op.operands.toList++cr.flatMap hR,[],[]⟩ s E:=by
 intro aP s' a w ao he af _;refine agA aH ao aa (oz (λx ag=>by rw[<-he x ag];exact ao.bF x)) k7 hw (wrap:=wrap) ?_;unfold Jt;refine lu _ (λd ql k hk=>af k (.inl ?_)) _ ⟨cK,r,hle,jr,?_⟩
 ·rcases eb.1 ql with ql|ql
  ·obtain⟨x,ag,rfl⟩:=fr.1 ql;refine eb.2 (.inl (GD (x:=x) ?_ hk));rw[aH];simp only[Op.operands,Call.operands,vH,eb]
   grind
  grind
 ·rcases ae with ae|ae
  ·rw[ae];exact xH
  ·cases gX (args.toList.map ρ++cr)with
   |nil=>exact xH
   |cons d ds=>simp only[ae];exact xH
theorem agB(aw:dw P ah=true){t:TypeId}(aH:o.op= .alloc t)(aa:∀t,o.dst=some t->t<n)(ae: (aE ah t).size≠0)(au:ou s.loc idx=true):
  nC P aD ba n o ⟨gF o.dst (.aW idx 0),[],[(idx,.cells t (aE ah t).zero)],[]⟩ s E:=by
 intro aP s' a w ao he af hlen;obtain⟨aB,fP⟩:=wx au;have fP:bN s'.loc idx= .bn:=(af idx (.inr ⟨_,s8⟩)).trans fP;obtain⟨y,hi⟩:=ww ao fP (by omega);obtain⟨z,bt,uT,_⟩:=JV (A:=bh aD aP) (os:=aP) (w:=w) aw ae;have an:=ao.A5 (x:=.pointer (some ⟨w.heap.size,0,none⟩)) (bC:=.cells t (aE ah t).zero) (w':=w.alloc (.cells z.cells t)) hi (uy w _ none) (λb ac=>by simp[bI]at ac;omega)
  (λk bb=>⟨w.heap.size,z.cells,rfl,e8.sr ao.hB (bS _),Aj w _,uT.size,uT.eE,λi v d ab aa=>(uT.hr i v d ab aa).A4 k bb⟩)
 refine jG (x:=.pointer (some ⟨w.heap.size,0,none⟩)) (w':=w.alloc (.cells z.cells t)) ?_ (dM.put an aa (.aW (oT (eI.1 hi).1)) tx);simp only[execOp,aH,Instr.alloc,dX,bt,dT,newVar,newRow,vQ,ex,vO]
end
end Go.Lift
