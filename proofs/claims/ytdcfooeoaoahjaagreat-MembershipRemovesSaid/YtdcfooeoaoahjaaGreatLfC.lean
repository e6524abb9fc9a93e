/- A data-level logic for the model: what a body does to data; its soundness (part LfC). No conditions. -/
import Derived.Test.YtdcfooeoaoahjaaGreatLfB
import Derived.Deep.LoopGhost
import Derived.Scope
import Derived.ProofKit
import Derived.OpenShut
import Derived.Carry
import Derived.Deep.Slices
import Derived.Shelf.SlSortCmp.NoneTotal
import Derived.Shelf.Sort.Plain
import Derived.Shelf.Slices.In.SortNone
import Derived.Shelf.Slices.CompactI
set_option linter.unusedSimpArgs false
set_option linter.unusedVariables false
set_option maxRecDepth 100000
set_option maxHeartbeats 16000000
namespace Go.Lift
open Go
section
variable {P:Program} {ag:dH} {aE:Nat->Prop} {a8:e5} {n:Nat} {os:c2} {s s':bK} {a:Act} {w:World} {o:Oper} {A:Nat->Prop} {B:e5} {ρ:Operand->ak} {loc eZ:List aZ} {Q:Option Prop->ak->Prop} {ops:Array Oper}
variable {E:Exit->Act->World->Prop} {idx:Nat}
theorem Qp{size:Nat}:∀ {l:List (Nat×Operand)} {es:List (List ak)} {K:List (List ak)->Prop},tx ρ size l es K->∃fG,K fG/\∀q8,q8 fG->tx ρ size l es q8
 | [],es,K,h=>⟨es,h,λ_ bp=>bp⟩
 | (i,x)::r,es,K,h=>by
  have h:=iv.1 h;split at h
  ·rename_i ac;obtain⟨fG,h1,ad⟩:=Qp h;refine⟨fG,h1,λq8 bp=> ?_⟩;unfold tx;refine iv.2 ?_
   grind
  grind
theorem b8.tp{w:World}{a:Addr}{n aB:Nat}{es:List (List ak)}{f:Bool}(h:b8 A w (.slice (some a) n n) (.ar aB es false)):b8 A w (.slice (some a) n n) (.ar aB es f):=by
 cases h with
 |ar xs aW aj aA az cE al ac br dD ah=>exact .ar xs aW aj aA (λ_=>rfl) cE al ac br dD ah
theorem ahs(ay:dv P ag=true){t e:TypeId}{m:Nat}{parts:Array (Nat×Operand)}{K:List (List ak)->Prop}(aH:o.op= .buildSlice t m parts)(hk: (aF ag t).k= .fc e)(ae: (aF ag e).size≠0)(hle:m* (aF ag e).size<=16777216) 
  (aa:∀t,o.dst=some t->t<n) (ap:tx (bG s) (aF ag e).size parts.toList (List.replicate m (aF ag e).zero) K):
  ∃es,K es/\∀f:Bool,nE P aE a8 n o ⟨gL o.dst (.ar (aF ag e).size es f),[],[],[]⟩ s E:=by
 obtain⟨es,tM,lw⟩:=Qp ap;refine⟨es,tM,?_⟩;intro f aT s' a w h he af hlen;obtain⟨i,hi,cE,iY,z,bx,nT,nf⟩:=rT ay ae;have hu:=lL ay hk;obtain⟨h1,ad,aN⟩:=uV (A:=bi aE aT) (w:=w) nT;have xH:q9 (bi aE aT) aT w z.cells (aF ag e).zero:=⟨by omega,ad,λi v d ab aa=>.bT (aN i v d (by grind) aa)⟩
 have fx:=tn ae;have fj:=GF (N:=m) (m:=m) xH (λi v d ab aa=>aN i v d (by grind) aa) (by omega) (bP _);rw[nf]at fj;have xG: (madeCells z.cells (m* (aF ag e).size)).toList.length=m* (aF ag e).size:=(CW (xs:=madeCells z.cells (m* (aF ag e).size))).trans (Db _ _);rw[sr (by omega)]at fj;obtain⟨cells',fG,ap,qq,kP,wM⟩:=KC (a:=a) (os:=aT) fx parts.toList _ _ fj (ρ:=bG s) (λp an=>by
  have aA:p.2∈o.op.operands.toList:=by
   rw[aH];simp only[Op.operands,fT]
   grind
  have:=h.bG p.2
  grind) (lw (λfG=>fG=es) rfl)
 subst ap;rw[FO]at wM;have lN:cells'.size=m* (aF ag e).size:=by have:=kP.len;grind
 have aA:m<=maxLen:=by
  have ad:m*1<=m* (aF ag e).size:=JG _ fx;simp only[maxLen];omega
 have b2:=OQ (base:=0) (e:=e) (size:=(aF ag e).size) w cells' m (bX _) aA lN;have aw:w.grownBy (w.alloc (.cells cells' e)) none:=uJ w (.cells cells' e) none;have fI:lK (bi aE aT) aT a8 (w.alloc (.cells cells' e)) (.slice (some ⟨w.heap.size,0,none⟩) m m) (.row e (aF ag e).size fG):=
  rU (λb ac=>e5.sH h.hv (by simp[bJ]at ac;omega)) (by grind) fx (kP.cC (dx.qm aw (λ_ _ h=>h)))
 have lq:b8 (bi aE aT) (w.alloc (.cells cells' e)) (.slice (some ⟨w.heap.size,0,none⟩) m m) (.ar (aF ag e).size fG false):=Kz fI (λ_ h=>h) (λb ac ab=>by
  simp[bJ]at ac;subst ac;rcases ab with ab| ⟨k,x,aU,hk,dp,cy⟩
  ·have:=h.DK ab;omega
  ·have:=((h.cV k x aU hk).iX dp cy).2;omega)
 refine jD (x:=.slice (some ⟨w.heap.size,0,none⟩) m m) (w':=w.alloc (.cells cells' e)) ?_ (dN.put (h.qm aw) aa (.bT lq.tp) xT);have uX: (parts.map λ(i,x)=>(i,a.eval x)).toList=parts.toList.map λp=>(p.1,a.eval p.2):=by simp
 have y6:¬(m* (aF ag e).size>2^24):=by omega
 by_cases u2:m* (aF ag e).size=0
 ·have y7:Instr.fill (λi=>some (i* (aF ag e).size,(aF ag e).size)) (madeCells #[] (m* (aF ag e).size)) (parts.toList.map λp=>(p.1,a.eval p.2))=some cells':=by
   rw[<-qq];congr 1;rw[u2];simp[madeCells]
  simp only[execOp,aH,Instr.buildSlice,dY,gE hu,dT,jQ ay ae,bo y6,b6 u2,ey,uX];simp only[madeCells]at y7;simp only[y7,dY,newRow,wc,dT,ey,wa]
 ·have u3: (zeroValue e).run P w= .ok z w:=by simp[zeroValue,typeInfo,hi,bx]
  simp only[madeCells]at qq;simp only[execOp,aH,Instr.buildSlice,dY,gE hu,dT,jQ ay ae,bo y6,bo u2,u3,ey,uX];simp only[qq,dY,newRow,wc,dT,ey,wa]
theorem XZ(ay:dv P ag=true){t e:TypeId}{m:Nat}{parts:Array (Nat×Operand)}{K:List (List ak)->Prop}(aH:o.op= .buildSlice t m parts)(hk: (aF ag t).k= .fc e)(ae: (aF ag e).size≠0)(hle:m* (aF ag e).size<=16777216) 
  (az:ou s.loc idx=true) (aa:∀t,o.dst=some t->t<n) (ap:tx (bG s) (aF ag e).size parts.toList (List.replicate m (aF ag e).zero) K):
  ∃es,K es/\nE P aE a8 n o ⟨gL o.dst (.own idx),[],[(idx,.row e (aF ag e).size es)],[]⟩ s E:=by
 obtain⟨es,tM,lw⟩:=Qp ap;refine⟨es,tM,?_⟩;intro aT s' a w h he af hlen;obtain⟨ax,fL⟩:=wL az;have fL:bR s'.loc idx= .bm:=(af idx (.inr ⟨_,tm⟩)).trans fL;obtain⟨y,G5⟩:=wK h fL (by omega);obtain⟨i,hi,cE,iY,z,bx,nT,nf⟩:=rT ay ae;have hu:=lL ay hk;obtain⟨h1,ad,aN⟩:=uV (A:=bi aE aT) (w:=w) nT;have xH:q9 (bi aE aT) aT w z.cells (aF ag e).zero:=⟨by omega,ad,λi v d ab aa=>.bT (aN i v d (by grind) aa)⟩
 have fx:=tn ae;have fj:=GF (N:=m) (m:=m) xH (λi v d ab aa=>aN i v d (by grind) aa) (by omega) (bP _);rw[nf]at fj;have xG: (madeCells z.cells (m* (aF ag e).size)).toList.length=m* (aF ag e).size:=(CW (xs:=madeCells z.cells (m* (aF ag e).size))).trans (Db _ _);rw[sr (by omega)]at fj;obtain⟨cells',fG,ap,qq,kP,wM⟩:=KC (a:=a) (os:=aT) fx parts.toList _ _ fj (ρ:=bG s) (λp an=>by
  have aA:p.2∈o.op.operands.toList:=by
   rw[aH];simp only[Op.operands,fT]
   grind
  have:=h.bG p.2
  grind) (lw (λfG=>fG=es) rfl)
 subst ap;rw[FO]at wM;have lN:cells'.size=m* (aF ag e).size:=by have:=kP.len;grind
 have aA:m<=maxLen:=by
  have ad:m*1<=m* (aF ag e).size:=JG _ fx;simp only[maxLen];omega
 have b2:=OQ (base:=0) (e:=e) (size:=(aF ag e).size) w cells' m (bX _) aA lN;have aw:w.grownBy (w.alloc (.cells cells' e)) none:=uJ w (.cells cells' e) none;have an:=h.Bp (w':=w.alloc (.cells cells' e)) (x:=.slice (some ⟨w.heap.size,0,none⟩) m m) (bD:=.row e (aF ag e).size fG) G5 aw (λb ac=>by simp[bJ]at ac;omega)
  (λk bb=>rU (λb ac=>e5.sH h.hv (by simp[bJ]at ac;omega)) (by grind) fx (kP.cC k))
 refine jD (x:=.slice (some ⟨w.heap.size,0,none⟩) m m) (w':=w.alloc (.cells cells' e)) ?_ (dN.put an aa (.own (oS (eL.1 G5).1) rfl) tK);have uX: (parts.map λ(i,x)=>(i,a.eval x)).toList=parts.toList.map λp=>(p.1,a.eval p.2):=by simp
 have y6:¬(m* (aF ag e).size>2^24):=by omega
 by_cases u2:m* (aF ag e).size=0
 ·have y7:Instr.fill (λi=>some (i* (aF ag e).size,(aF ag e).size)) (madeCells #[] (m* (aF ag e).size)) (parts.toList.map λp=>(p.1,a.eval p.2))=some cells':=by
   rw[<-qq];congr 1;rw[u2];simp[madeCells]
  simp only[execOp,aH,Instr.buildSlice,dY,gE hu,dT,jQ ay ae,bo y6,b6 u2,ey,uX];simp only[madeCells]at y7;simp only[y7,dY,newRow,wc,dT,ey,wa]
 ·have u3: (zeroValue e).run P w= .ok z w:=by simp[zeroValue,typeInfo,hi,bx]
  simp only[madeCells]at qq;simp only[execOp,aH,Instr.buildSlice,dY,gE hu,dT,jQ ay ae,bo y6,bo u2,u3,ey,uX];simp only[qq,dY,newRow,wc,dT,ey,wa]
theorem aht(ay:dv P ag=true){t e:TypeId}{l c:Operand}{y5 tE:IntKind}{m N:Nat}(aH:o.op= .makeSlice t l c)(hk: (aF ag t).k= .fc e)(ae: (aF ag e).size≠0)(az:ou s.loc idx=true)
  (aa:∀t,o.dst=some t->t<n) (el:bG s l= .v (.int y5 m)) (iM:bG s c= .v (.int tE N)) (A7:m<=N) (ac:N* (aF ag e).bytes<=140737488355328) (c5:N<=maxLen):
  nE P aE a8 n o ⟨gL o.dst (.own idx),[],[(idx,.row e (aF ag e).size (List.replicate m (aF ag e).zero))],[]⟩ s E:=by
 intro aT s' a w h he hs avf;obtain⟨ax,fL⟩:=wL az;have fL:bR s'.loc idx= .bm:=(hs idx (.inr ⟨_,tm⟩)).trans fL;obtain⟨y,G5⟩:=wK h fL (by omega);have af:a.eval l= .int y5 m:=by
  have:=h.bG l;rw[he l (by rw[aH];simp[Op.operands]),el]at this;exact this.j1.1
 have aj:a.eval c= .int tE N:=by
  have:=h.bG c;rw[he c (by rw[aH];simp[Op.operands]),iM]at this;exact this.j1.1
 obtain⟨i,hi,cE,iY,z,bx,nT,nf⟩:=rT ay ae;have hu:=lL ay hk;obtain⟨h1,ad,aN⟩:=uV (A:=bi aE aT) (w:=w) nT;have xH:q9 (bi aE aT) aT w z.cells (aF ag e).zero:=⟨by omega,ad,λi v d ab aa=>.bT (aN i v d (by grind) aa)⟩
 have A8: (N:Int)<=9223372036854775807:=by simp only[maxLen]at c5;omega
 have et:=run_make (P:=P) w t e i z hu hi bx y5 tE m N (by omega) (by omega) (by
  grind) A8
 simp only[lH,cE]at et;have fx:=tn ae;have fj:=GF (N:=N) (m:=m) xH (λi v d ab aa=>aN i v d (by grind) aa) (by omega) A7;rw[nf]at fj;have hlen: (List.replicate m (aF ag e).zero).length=m:=by simp
 have an:=h.Bp (w':=w.alloc (.cells (madeCells z.cells (N* (aF ag e).size)) e)) (x:=.slice (some ⟨w.heap.size,0,none⟩) m N) (bD:=.row e (aF ag e).size (List.replicate m (aF ag e).zero)) G5 (uJ w _ none) (λb ac=>by simp[bJ]at ac;omega)
  (λk bb=>rU (λb ac=>e5.sH h.hv (by simp[bJ]at ac;omega)) (xs:=(madeCells z.cells (N* (aF ag e).size)).toList.take (m* (aF ag e).size)) ⟨by rw[fj.len],.inr ⟨w.heap.size,N,_,by simp,bX _,AB w _,by omega,c5,Db _ _,by simp⟩⟩ fx (fj.cC k))
 refine jD (x:=.slice (some ⟨w.heap.size,0,none⟩) m N) (w':=w.alloc (.cells (madeCells z.cells (N* (aF ag e).size)) e)) ?_ (dN.put an aa (.own (oS (eL.1 G5).1) rfl) tK);simp only[execOp,aH,af,aj,dY,et,dT,ey]
variable{d:ak}
theorem X0(h:q0 d=true):nA d=[]:=by
 cases d
 case fn f cu=>
  simp only[q0,l4]at h;simp only[nA,VD];intro d aa;have:=h d aa;cases d<;>simp[mA,OX]at this⊢
 all_goals first|rfl| (simp[q0]at h)
theorem ahu(h:pB (dc d)=true):hb [d]=[]:=by
 have aA:=A0 h;by_cases aa:∃cs,d= .agg cs
 ·obtain⟨cs,rfl⟩:=aa;simp only[hb,jM,List.flatMap_eq_nil_iff];exact λe he=>X0 (aA e he)
 ·have h1:dc d=[d]:=by cases d<;>first|rfl|exact absurd ⟨_,rfl⟩ aa
  have ad:hb [d]=nA d:=by cases d<;>first|exact absurd ⟨_,rfl⟩ aa|simp[hb]
  rw[ad];exact X0 (aA d (by grind))
theorem ahv(ay:dv P ag=true){t:TypeId}{x y:Operand}{d:ak}{K:fe->Prop}(aH:o.op= .store t x y)(aa:∀t,o.dst=some t->t<n)(gd:bG s y=d)(h1:∀b ck,d≠ .ca b ck)(ad:∀l,d≠ .bd l)(aN:d≠ .a1)(ap:O4 ag s o.dst t x d K):∃bA,K bA/\nE P aE a8 n o bA s E:=by
 have mk:∀ (bA:fe),(∀s':bK,bG s' x=bG s x->bG s' y=d->(∀k,(k∈bA.kr\/bA.cV k)->bR s'.loc k=bR s.loc k)->AM ag s' o.dst t x y d (λpR=>pR=bA.kM s'))->nE P aE a8 n o bA s E:=by
  intro bA me aT s' a w ao he af hlen;have aC:=he x (by rw[aH];simp[Op.operands]);have aG:=(he y (by rw[aH];simp[Op.operands])).trans gd;exact Xn ay aH ao aa aG h1 ad aN (me s' aC aG af)
 unfold O4 at ap;split at ap
 ·grind
 ·rename_i ae;obtain⟨avg,G6⟩:=Nat.exists_eq_succ_of_ne_zero ae;rw[G6]at ap;split at ap
  ·rename_i i off eb;split at ap
   ·rename_i eD cs af;split at ap
    ·grind
    ·rename_i ac;refine⟨_,xi.1 ap,mk _ (λs' aC aG hs=> ?_)⟩;have gQ:=(hs i (.inl (by simp))).trans af;unfold AM;simp only[aC,eb,gQ,ac,G6];exact xi.2 tK
   grind
  ·rename_i i off eb;split at ap
   ·rename_i eD cs af;split at ap
    ·rename_i ac;refine⟨_,ap.2,mk _ (λs' aC aG hs=> ?_)⟩;have gQ:=(hs i (.inl (by simp))).trans af;unfold AM;simp only[aC,eb,gQ,ac,G6];exact⟨ap.1,tK⟩
    grind
   grind
  ·rename_i i k off eb;split at ap
   ·rename_i e aB es an af;obtain⟨ahw,pO,ap⟩:=ap;split at ap
    ·rename_i ac;refine⟨_,ap,mk _ (λs' aC aG hs=> ?_)⟩;have gQ:=(hs i (.inl (by simp))).trans af;unfold AM;simp only[aC,eb,G6];rw[ahu an];show ha (bG s' y) (λahx=>F8 ag s' o.dst t (bG s' x) ahx _);refine iv.2 ?_;rw[aG,aC,eb];unfold F8;simp only[an,gQ];refine⟨ahw,pO,?_⟩;simp only[G6,ac];exact tK
    grind
   grind
  grind
theorem X1{e:TypeId}{d:ak}{K:List (List ak)->Bool->Prop}(h:tz ag e loc d K):∃ys mF,K ys mF/\∀eZ,(∀k∈hQ d,bR eZ k=bR loc k)->∀q8:List (List ak)->Bool->Prop,q8 ys mF->tz ag e eZ d q8:=by
 cases d
 case av=>exact⟨_,_,h,λ_ _ _ bp=>bp⟩
 case ar aB es f=>
  unfold tz at h;simp only at h;split at h
  ·rename_i ac;refine⟨_,_,h,λeZ _ q8 bp=> ?_⟩;unfold tz
   grind
  grind
 case own j=>
  unfold tz at h;simp only at h;split at h
  ·rename_i aG aB es af;split at h
   ·rename_i ac;refine⟨_,_,h,λeZ iP q8 bp=> ?_⟩;have:=(iP j (by simp[hQ,qk])).trans af;unfold tz
    grind
   grind
  grind
 all_goals exact h.elim
theorem X2{t:TypeId}{x:Operand}{d:ak}{kr:List Nat}(aH:o.op= .box t x)(aa:∀t,o.dst=some t->t<n)(az:ou s.loc idx=true)(e:bG s x=d)(h1:∀b ck,d≠ .ca b ck)(ad:∀l,d≠ .bd l)(aN:d≠ .a1):
  nE P aE a8 n o ⟨gL o.dst (.aV idx 0),kr,[(idx,.cells t (dc d))],[]⟩ s E:=by
 intro aT s' a w ao he af hlen;obtain⟨ax,fL⟩:=wL az;have fL:bR s'.loc idx= .bm:=(af idx (.inr ⟨_,tm⟩)).trans fL;obtain⟨y,hi⟩:=wK ao fL (by omega);have ah:=ao.bG x;rw[he x (by rw[aH];simp[Op.operands]),e]at ah;obtain⟨qt,br,an⟩:=ah.cells h1 ad aN;have an:=ao.Bp (x:=.pointer (some ⟨w.heap.size,0,none⟩)) (bD:=.cells t (dc d)) (w':=w.alloc (.cells (a.eval x).cells t)) hi (uJ w _ none) (λb ac=>by simp[bJ]at ac;omega)
  (λk bb=>⟨w.heap.size,(a.eval x).cells,rfl,e5.sH ao.hv (bP _),AB w _,by omega,br,λi v d ab aa=>(an i v d (by grind) aa).Bo k bb⟩)
 refine jD (x:=.pointer (some ⟨w.heap.size,0,none⟩)) (w':=w.alloc (.cells (a.eval x).cells t)) ?_ (dN.put an aa (.aV (oS (eL.1 hi).1)) tK);simp only[execOp,aH,Instr.box,dY,dT,newVar,newRow,wc,ey,wa]
theorem ahy(ay:dv P ag=true){t eD e:TypeId}{x y:Operand}{args:Array Operand}{fg:Array TypeId}{K:fe->Nat->Prop}(aH:o.op= .call {callee:=.builtin .append,args:=args,argTypes:=fg})(bb:args.toList=[x,y])(iO:fg.toList=[t,eD])(lO:t=eD)
  (hk: (aF ag t).k= .fc e) (ae: (aF ag e).size≠0) (aa:∀t,o.dst=some t->t<n) (ap:O5 ag e s idx o.dst (bG s x) (bG s y) K):∃bA i,K bA i/\nE P aE a8 n o bA s E:=by
 unfold O5 at ap;obtain⟨ys,mF,ap,ov⟩:=X1 ap;have fx:=tn ae;have zg:x∈o.op.operands.toList:=by rw[aH];simp[Op.operands,Call.operands];rw[<-vU,bb];simp
 have zh:y∈o.op.operands.toList:=by rw[aH];simp[Op.operands,Call.operands];rw[<-vU,bb];simp
 have Lc:∀ {aT:c2} {s':bK} {a:Act} {w:World},ch aE a8 n aT s' a w->bG s' y=bG s y->(∀k∈hQ (bG s y),bR s'.loc k=bR s.loc k)->Kv (bi aE aT) w (aF ag e).size (a.eval y) ys:=by
  intro aT s' a w ao he af;have h1:=ov s'.loc af (λahz ahA=>ahz=ys/\ahA=mF) ⟨rfl,rfl⟩;rw[ao.loc]at h1;have bn:=ao.bG y;rw[he]at bn;obtain⟨_,_,⟨rfl,rfl⟩,ad⟩:=PB ae ao.cV bn h1;exact ad
 have exec:=λ{a:Act} {w:World} {r:Value} {w':World}=>WF (P:=P) (w:=w) (a:=a) (r:=r) (w':=w') aH bb iO lO;split at ap
 ·-- nothing
  rename_i eb;split at ap
  ·rename_i az;obtain⟨ht,ap⟩:=ap;refine⟨_,_,ap,λaT s' a w ao he af hlen=> ?_⟩;obtain⟨ax,fL⟩:=wL az;have fL:bR s'.loc idx= .bm:=(af idx (.inr ⟨_,tm⟩)).trans fL;obtain⟨z,hi⟩:=wK ao fL (by omega);have ah:=ao.bG x;rw[he x zg,eb]at ah;obtain⟨v',w',xs,et,b2,aw,ac,fj⟩:=WH (P:=P) (ty:=o.type) ay hk ae ht (Lc ao (he y zh) (λk hk=>af k (.inl hk)));have an:=ao.Bp (x:=v') (bD:=.row e (aF ag e).size ys) hi aw ac (λk bb=>rU (λb cy=>e5.sH ao.hv (ac b cy)) b2 fx (fj.cC k));exact jD (exec (by rw[ah.o0];omega)) (dN.put an aa (.own (oS (eL.1 hi).1) (wx b2)) tK)
  grind
 ·-- a row of DQ afT own
  rename_i i eb;split at ap
  ·rename_i bc WW gm Ld;split at ap
   ·rename_i Le;simp only[cq]at Le;have nD:=fz Le.1.1;have hf:=fz Le.1.2;subst nD;subst hf;have az:=Le.2;obtain⟨ht,ap⟩:=ap;refine⟨_,_,ap,λaT s' a w ao he af hlen=> ?_⟩;obtain⟨ax,fL⟩:=wL az;have fL:bR s'.loc idx= .bm:=(af idx (.inr ⟨_,FQ _ tm⟩)).trans fL;obtain⟨z,bV⟩:=wK ao fL (by omega);have X3:=(af i (.inl (by simp))).trans Ld;rw[ao.loc]at X3;obtain⟨PF,hi⟩:=kO X3 (by simp);have ah:=ao.bG x;rw[he x zg,eb]at ah;have nd:=ah.q6 hi;obtain⟨xs,b2,_,j4⟩:=ww (ao.cV _ _ _ hi);obtain⟨v',w',PD,et,wy,aw,ac,fj⟩:=afS (P:=P) (ty:=o.type) ay hk ae b2 j4 ht (Lc ao (he y zh) (λk hk=>af k (.inl (by grind))));obtain⟨an,ie⟩:=ao.ahm hi bV aw ac wy fx fj;exact jD (exec (by grind)) (dN.put an aa (.own ie (wx wy)) ahn)
   grind
  grind
 ·-- a list afU spare room
  rename_i aB es eb;split at ap
  ·rename_i ac;have ac:=fz ac;subst ac;obtain⟨ht,ap⟩:=ap;split at ap
   ·split at ap
    ·rename_i az;obtain⟨wz,ap⟩:=ap;refine⟨_,_,ap,λaT s' a w ao he af hlen=> ?_⟩;obtain⟨ax,fL⟩:=wL az;have fL:bR s'.loc idx= .bm:=(af idx (.inr ⟨_,tm⟩)).trans fL;obtain⟨z,hi⟩:=wK ao fL (by omega);have ah:=ao.bG x;rw[he x zg,eb]at ah;obtain⟨v',w',xs,et,b2,aw,ac,fj⟩:=WI (P:=P) (ty:=o.type) ay hk ae ah.nB ht (Lc ao (he y zh) (λk hk=>af k (.inl hk))) wz;have an:=ao.Bp (x:=v') (bD:=.row e (aF ag e).size (es++ys)) hi aw ac (λk bb=>rU (λb cy=>e5.sH ao.hv (ac b cy)) b2 fx (fj.cC k));exact jD (exec et) (dN.put an aa (.own (oS (eL.1 hi).1) (wx b2)) tK)
    grind
   ·rcases ap with⟨wz,ap⟩|ap
    ·split at ap
     ·rename_i az;refine⟨_,_,ap,λaT s' a w ao he af hlen=> ?_⟩;obtain⟨ax,fL⟩:=wL az;have fL:bR s'.loc idx= .bm:=(af idx (.inr ⟨_,tm⟩)).trans fL;obtain⟨z,hi⟩:=wK ao fL (by omega);have ah:=ao.bG x;rw[he x zg,eb]at ah;obtain⟨v',w',xs,et,b2,aw,ac,fj⟩:=WI (P:=P) (ty:=o.type) ay hk ae ah.nB ht (Lc ao (he y zh) (λk hk=>af k (.inl hk))) wz;have an:=ao.Bp (x:=v') (bD:=.row e (aF ag e).size (es++ys)) hi aw ac (λk bb=>rU (λb cy=>e5.sH ao.hv (ac b cy)) b2 fx (fj.cC k));exact jD (exec et) (dN.put an aa (.own (oS (eL.1 hi).1) (wx b2)) tK)
     grind
    ·refine⟨_,_,ap,λaT s' a w ao he af hlen=> ?_⟩;have ah:=he x zg;rw[eb]at ah;refine WJ ay aH bb iO lO hk ae ao aa ?_;rw[ah,he y zh];unfold JX;refine ov s'.loc (λk hk=>af k (.inl hk)) _ ?_;simp only[Ax];exact⟨ht,xT⟩
  grind
 grind
theorem ahB(ay:dv P ag=true){t eD e:TypeId}{x y:Operand}{args:Array Operand}{fg:Array TypeId}{K:fe->Prop}(aH:o.op= .call {callee:=.builtin .copy,args:=args,argTypes:=fg})(bb:args.toList=[x,y])(iO:fg.toList=[t,eD])(lO:t=eD)
  (hk: (aF ag t).k= .fc e) (ae: (aF ag e).size≠0) (aa:∀t,o.dst=some t->t<n) (ap:O6 ag e s o.dst (bG s x) (bG s y) K):∃bA,K bA/\nE P aE a8 n o bA s E:=by
 unfold O6 at ap;obtain⟨ys,mF,ap,ov⟩:=X1 ap;have zg:x∈o.op.operands.toList:=by rw[aH];simp[Op.operands,Call.operands];rw[<-vU,bb];simp
 have zh:y∈o.op.operands.toList:=by rw[aH];simp[Op.operands,Call.operands];rw[<-vU,bb];simp
 split at ap
 ·rename_i eb;refine⟨_,ap,λaT s' a w ao he af hlen=> ?_⟩;refine PK ay aH bb iO lO hk ae ao aa ?_;rw[he x zg,he y zh,eb];unfold F7;exact ov s'.loc (λk hk=>af k (.inl hk)) _ xT
 ·rename_i i eb;split at ap
  ·rename_i bc WW gm Ld;split at ap
   ·rename_i ac;refine⟨_,ap,λaT s' a w ao he af hlen=> ?_⟩;refine PK ay aH bb iO lO hk ae ao aa ?_;rw[he x zg,he y zh,eb];unfold F7;refine ov s'.loc (λk hk=>af k (.inl (by grind))) _ ?_;have:=(af i (.inl (by simp))).trans Ld;simp only[this,ac];simp only[cq]at ac;have nD:=fz ac.1;subst nD;exact tK
   grind
  grind
 grind
theorem Qq:∀ (cS:List Nat) (D8 l:List aZ),q3 l (cS.zip D8)=pE l cS D8
 | [],D8,l=>by cases D8<;>rfl
 |i::r,[],l=>rfl
 |i::r,o::D8,l=>by
  rw[List.zip_cons_cons,q3,pE];exact Qq r D8 _
theorem X4{ρ:Nat->Nat}:∀ {p:List Nat} {q:List aZ},(∀i∈p,bR eZ i=bR loc i)->sB loc ρ p q->sB eZ ρ p q
 | [],[],_,h=>h
 | [],_::_,_,h=>h.elim
 |_::_,[],_,h=>h.elim
 |i::p,o::q,af,h=>⟨by rw[af i (by simp)];exact h.1,X4 (λi hi=>af i (by grind)) h.2⟩
theorem Qr:∀ {c7:List Bool} {L bL:List aZ} {k:Nat},yN c7 L bL=true->k<c7.length->c7[k]?≠some true->(∃e aB es,L[k]?=some (.row e aB es))/\bL[k]?=some .gone
 | [],L,bL,k,_,h,_=>by grind
 |true::c7,o::L,aU::bL,0,_,_,h=>by grind
 |true::c7,o::L,aU::bL,k+1,h,hk,aW=>Qr (c7:=c7) (L:=L) (bL:=bL) (k:=k) (by simpa[yN]using h) (by grind) (by grind)
 |true::c7,[],bL,k,h,_,_=>by simp[yN]at h
 |true::c7,o::L,[],k,h,_,_=>by simp[yN]at h
 |false::c7,L,bL,k,h,hk,aW=>by
  unfold yN at h;split at h
  ·grind
  ·rename_i e;cases e;cases k with
   |zero=>simp
   |succ k=>exact Qr (k:=k) h (by grind) (by grind)
  all_goals grind
variable{f:Operand}{k:FuncId}{cu:List ak}{args:Array Operand}{fg:Array TypeId}{K:fe->Nat->Prop}
theorem X5(aH:o.op= .call {callee:=.value f,args:=args,argTypes:=fg})(aa:∀t,o.dst=some t->t<n)(k5:bG s f= .fn (.func k) cu)
  (h:O7 P k (args.toList.map (bG s)++cu) s idx o.dst (oX (bG s) o.op.operands.toList) K):∃bA i,K bA i/\nE P aE a8 n o bA s E:=by
 obtain⟨pass,L,ko,kept,bL,d,jm,oz,xO,GR,ap⟩:=h;simp only[cq]at oz;obtain⟨⟨⟨⟨⟨⟨⟨o5,wA⟩,gV⟩,ax⟩,xN⟩,Bc⟩,ct⟩,G7⟩:=oz;refine⟨_,_,ap,λaT s' a w ao he af hlen=> ?_⟩;simp only[l4]at ax G7;obtain⟨xA,GP,_⟩:=xM (k:=0) o5;obtain⟨ez,_⟩:=GN xO;obtain⟨na,GS⟩:=KP GR;generalize ov:bO idx (bL.length-L.length)=news at *
 have vc:news.length=bL.length-L.length:=by rw[<-ov,KN]
 have ahC:∀i∈pass++news,∃bD,(i,bD)∈ (pass++news).zip (bL.map (gP (dn (pass++news)))):=by
  intro i hi;obtain⟨q,bV,rfl⟩:=e8 hi;have Br:q<(bL.map (gP (dn (pass++news)))).length:=by
   grind
  exact⟨_,fo (i:=q) (VF.2 ⟨eP bV,eP Br⟩)⟩
 have tF:∀i∈pass++news,bR s'.loc i=bR s.loc i:=λi hi=>af i (.inr (ahC i hi));have ax:∀i∈pass,i<s.loc.length:=λi hi=>nz (ax i hi);have wM:=ao.len;have h5:∀i∈news,∃y,aT[i]?=some (y,.bm):=by
  intro i hi;obtain⟨h1,ad⟩:=wL (G7 i hi);exact wK ao ((tF i (eo.2 (.inr hi))).trans ad) (by omega)
 have Lf:=X4 (eZ:=s'.loc) (λi hi=>tF i (eo.2 (.inl hi))) xO;have oA:∀x∈o.op.operands.toList,bg (bi aE aT) aT w (a.eval x) (bG s x):=λx ah=>by rw[<-he x ah];exact ao.bG x
 have az:=oA f (by rw[aH];simp[Op.operands,Call.operands]);rw[k5]at az;obtain⟨vs,ab,ji,an⟩:=az.tA;obtain⟨h1,ad⟩:=Bi (os:=aT) (A:=bi aE aT) (w:=w) (a:=a) (l:=args.toList) (ρ:=bG s) rfl (λx ah=>oA x (by rw[aH];simp only[Op.operands,Call.operands,vV,eo];grind)) ji an;have core:=KG (pass:=pass) (news:=news) (J:=[]) ao jm (λk i hk aW=>.inr (Qr ct (by grind) aW)) o5 wA (GJ gV) (λi hi=>by grind) h5 (by omega) Bc xN Lf (fH:=args.toList.map a.eval++vs) (by grind) (λi v d ab aa=>by
  have eI:=(eL.1 ab).1;have qy:=eP (l:=args.toList.map (bG s)++cu) (i:=i) (by omega);have kv: (ko.map (k0 (dn (pass++news))))[i]?=some (k0 (dn (pass++news)) d):=by grind
  exact((ad i v _ ab qy).ib (GS i _ _ qy kv)).cC (dx.ib (λb ac=>xJ ac)) (.refl _))
 unfold Oper.wp;rw[Bh aH ab jm.1];refine core.mono λe w' ah=> ?_;obtain⟨v,k4,rfl,hJ,tN⟩:=ah;refine dN.put hJ aa tN ?_;have aC:F6 s' (pass++news) [] bL= ⟨s'.env,pE s'.loc (pass++news) (bL.map (gP (dn (pass++news))))⟩:=rfl;rw[aC,<-Qq];refine A2.2 ?_;cases o.dst<;>rfl
theorem Qs{ρ:Nat->Nat}:∀ {p:List Nat} {q:List aZ},Dv loc ρ p q->sB loc ρ p q
 | [],[],_=>trivial
 | [],_::_,h=>h.elim
 |_::_,[],h=>h.elim
 |i::p,o::q,h=>⟨by rw[h.1];exact .refl,Qs h.2⟩
theorem X6{ρ:Nat->Nat}:∀ {p:List Nat} {q:List aZ},(∀i∈p,bR eZ i=bR loc i)->Dv loc ρ p q->Dv eZ ρ p q
 | [],[],_,h=>h
 | [],_::_,_,h=>h.elim
 |_::_,[],_,h=>h.elim
 |i::p,o::q,af,h=>⟨by rw[af i (by simp)];exact h.1,X6 (λi hi=>af i (by grind)) h.2⟩
theorem X7{ρ:Nat->Nat}:∀ {p:List Nat} {q:List aZ} {l:List aZ},(∀i∈p,i<l.length)->Dv l ρ p q->pE l p (q.map (gP ρ))=l
 | [],[],_,_,_=>rfl
 | [],_::_,_,_,h=>h.elim
 |_::_,[],_,_,h=>h.elim
 |i::p,o::q,l,af,h=>by
  rw[om,pE];have:gr l i (gP ρ o)=l:=by
   rw[<-h.1,mD,ln]
   simp_all
  rw[this];exact X7 (λi hi=>af i (by grind)) h.2
theorem ahD(aa:∀t,o.dst=some t->t<n)(h:Pa P o idx s K):∃bA i,K bA i/\nE P aE a8 n o bA s E:=by
 unfold Pa at h;split at h
 case h_2=>grind
 rename_i f args fg aH;split at h
 case h_2=>grind
 rename_i k cu k5;have h:=xC h;obtain⟨pass,L,ko,kept,d,jm,oz,xO,GR,ap⟩:=h;simp only[cq]at oz;obtain⟨⟨⟨⟨⟨⟨o5,wA⟩,gV⟩,ax⟩,xN⟩,Bc⟩,ct⟩:=oz;refine⟨_,_,ap,λaT s' a w ao he af hlen=> ?_⟩;simp only[l4]at ax ct;obtain⟨xA,GP,_⟩:=xM (k:=0) o5;obtain⟨ez,_⟩:=GN (Qs xO);obtain⟨na,GS⟩:=KP GR;have tF:∀i∈pass,bR s'.loc i=bR s.loc i:=λi hi=>af i (.inl (eo.2 (.inr hi)));have ax:∀i∈pass,i<s.loc.length:=λi hi=>nz (ax i hi);have wM:=ao.len;have Lf:=X6 (eZ:=s'.loc) tF xO;have oA:∀x∈o.op.operands.toList,bg (bi aE aT) aT w (a.eval x) (bG s x):=λx ah=>by rw[<-he x ah];exact ao.bG x
 have az:=oA f (by rw[aH];simp[Op.operands,Call.operands]);rw[k5]at az;obtain⟨vs,ab,ji,an⟩:=az.tA;obtain⟨h1,ad⟩:=Bi (os:=aT) (A:=bi aE aT) (w:=w) (a:=a) (l:=args.toList) (ρ:=bG s) rfl (λx ah=>oA x (by rw[aH];simp only[Op.operands,Call.operands,vV,eo];grind)) ji an;have core:=KG (pass:=pass) (news:=[]) (J:=[]) ao jm (λk i hk aW=>by
   exfalso;have gl:=(eL.1 hk).1;have mf:=eP (l:=kept) (i:=k) (by omega);have:=ct _ (fo mf)
   grind) o5 wA (by rw[jM];exact GJ gV) (λi hi=>by grind) (by simp) (by grind) Bc xN (by rw[jM];exact Qs Lf) (fH:=args.toList.map a.eval++vs) (by grind) (λi v d ab aa=>by
  have eI:=(eL.1 ab).1;have qy:=eP (l:=args.toList.map (bG s)++cu) (i:=i) (by omega);have kv: (ko.map (k0 (dn pass)))[i]?=some (k0 (dn pass) d):=by grind
  rw[jM];exact((ad i v _ ab qy).ib (GS i _ _ qy kv)).cC (dx.ib (λb ac=>xJ ac)) (.refl _))
 rw[jM]at core;unfold Oper.wp;rw[Bh aH ab jm.1];refine core.mono λe w' ah=> ?_;obtain⟨v,k4,rfl,hJ,tN⟩:=ah;refine dN.put hJ aa tN ?_;have aC:F6 s' pass [] L=s':=by
  show (⟨s'.env,pE s'.loc pass (L.map (gP (dn pass)))⟩:bK)=s';rw[X7 (λi hi=>by grind) Lf]
 rw[aC];refine A2.2 ?_;cases o.dst<;>rfl
theorem ch.X8{i e aB:Nat}{es:List (List ak)}{x:Value}(h:ch aE a8 n os s a w)(hi:os[i]?=some (x,.row e aB es)):ch aE a8 n (os.set i (.nilFunc,.gone)) ⟨s.env,gr s.loc i .gone⟩ a w:=by
 have KZ:=(eL.1 hi).1;have wD: (os.set i (.nilFunc,.gone))[i]?=some (.nilFunc,.gone):=oS KZ;generalize mE:os.set i (.nilFunc,.gone)=aT at wD⊢;have cM:∀ {j:Nat} {z:Value} {aU:aZ},aT[j]?=some (z,aU)->(j=i/\z= .nilFunc/\aU= .gone)\/(j≠i/\os[j]?=some (z,aU)):=by
  grind
 have bb:Lb i os aT:=by
  refine⟨⟨_,_,_,_,hi⟩,⟨_,wD⟩,λj z o aq aa aH=>⟨o,?_,by cases o<;>simp[er]⟩⟩
  grind
 have fK:∀b,b<w.heap.size->bi aE aT b->bi aE os b:=by
  intro b lp ab;rcases ab with ab| ⟨j,z,aU,aq,dp,cy⟩
  ·exact .inl ab
  ·rcases cM aq with⟨rfl,rfl,rfl⟩| ⟨_,aq⟩
   ·simp[bJ]at cy
   ·exact .inr ⟨_,_,_,aq,dp,cy⟩
 have k:dx (bi aE os) (bi aE aT) w w:=⟨bP _,fK,λb lp aW=>rfl⟩
 refine⟨h.size,h.defers,h.hv,h.a0,by rw[<-mE,mD,h.loc,nQ],λt=>(h.env t).Bq k bb,λj z aU aq=> ?_,λnC uZ z dw mH fV b h1 ad d1 d2 cY cZ=> ?_⟩
 ·rcases cM aq with⟨rfl,rfl,rfl⟩| ⟨nj,aq⟩
  ·rfl
  ·exact(h.cV j z aU aq).Bq k bb (λb dp cy=>rfl)
 ·rcases cM h1 with⟨rfl,rfl,rfl⟩| ⟨_,g1⟩
  ·simp[bJ]at cY
  ·rcases cM ad with⟨rfl,rfl,rfl⟩| ⟨_,g2⟩
   ·simp[bJ]at cZ
   ·exact h.inj _ _ _ _ _ _ b g1 g2 d1 d2 cY cZ
theorem ahE{k1 cO:List ak}{r:ak}{j:Nat}(aH:o.op= .call {callee:=.value f,args:=args,argTypes:=fg})(aa:∀t,o.dst=some t->t<n)
  (k5:bG s f= .fn (.func k) cu)
  (lw:∀eZ,(∀d∈args.toList.map (bG s)++cu,∀k∈hQ d,bR eZ k=bR s.loc k)->∀iZ:List ak->Prop,iZ k1->tu eZ (args.toList.map (bG s)++cu) iZ)
  (hle:mZ k1 cO) (jm:bl P k cO r) (ae:hb (args.toList.map (bG s)++cu)=[.own j]) (fj:jN (bR s.loc j)=true):
  nE P aE a8 n o ⟨gL o.dst r,oX (bG s) o.op.operands.toList++cu.flatMap hQ,[(j,.gone)],[]⟩ s E:=by
 intro aT s' a w ao he af _;have oA:∀x∈o.op.operands.toList,bg (bi aE aT) aT w (a.eval x) (bG s x):=λx ah=>by rw[<-he x ah];exact ao.bG x
 have az:=oA f (by rw[aH];simp[Op.operands,Call.operands]);rw[k5]at az;obtain⟨vs,ab,nW,G8⟩:=az.tA;obtain⟨h1,ad⟩:=Bi (os:=aT) (A:=bi aE aT) (w:=w) (a:=a) (l:=args.toList) (ρ:=bG s) rfl (λx ah=>oA x (by rw[aH];simp only[Op.operands,Call.operands,vV,eo];grind)) nW G8;have Qt:=lw s'.loc (λd qz k hk=>af k (.inl (by
  rcases eo.1 qz with qz|qz
  ·obtain⟨x,ah,rfl⟩:=fT.1 qz;refine eo.2 (.inl (G4 (x:=x) ?_ hk));rw[aH];simp only[Op.operands,Call.operands,vV,eo]
   grind
  grind))) (λl=>l=k1) rfl
 obtain⟨l,rfl,ct⟩:=GG (J:=jl (hb (args.toList.map (bG s)++cu))) ao _ _ h1 ad (λd j aa aq=>A9 aa aq) Qt;have nY:jN (bR s'.loc j)=true:=by rw[af j (.inr ⟨_,tm⟩)];omega
 obtain⟨e,aB,es,nY⟩:∃e aB es,bR s'.loc j= .row e aB es:=by
  cases bV:bR s'.loc j<;>rw[bV]at nY<;>first|exact⟨_,_,_,rfl⟩| (simp[jN]at nY)
 rw[ao.loc]at nY;obtain⟨PF,hi⟩:=kO nY (by simp);unfold Oper.wp;rw[Bh aH ab jm.1];refine(jm.2 _ w _ (λb ac=> ?_) (ct.le hle)).mono λe w' he=> ?_
 ·rcases ac with ac| ⟨i,x,aU,hi,aa,_,cy⟩
  ·exact ao.DK ac
  ·exact((ao.cV i x aU hi).iX aa cy).2
 ·obtain⟨v,rfl,lq,aw⟩:=he;have an:=(ao.qm aw).X8 hi;refine dN.put an aa (.bT (lq.cC (dx.ib (λb ac=> ?_)))) tK;rcases ac with ac| ⟨i,x,aU,hd,kv,cy⟩
  ·exact .inl ac
  ·by_cases fW:i=j
   ·subst fW;rw[oS (eL.1 hi).1]at hd;cases hd;simp[bJ]at cy
   ·rw[v1 (λe=>fW e.symm)]at hd;refine .inr ⟨i,x,aU,hd,kv,?_,cy⟩;rw[ae];simpa[jl,nh]using fW
theorem X9{A:Nat->Prop}{w:World}:∀ {vs:List Value} {ds:List ak},sz A w vs ds->vs.length=ds.length/\∀ (i:Nat) v d,vs[i]?=some v->ds[i]?=some d->b8 A w v d
 | [],[],_=>⟨rfl,λi v d h=>by simp⟩
 | [],_::_,h=>h.elim
 |_::_,[],h=>h.elim
 |v::vs,d::ds,h=>by
  obtain⟨h1,ad⟩:=X9 h.2;refine⟨by grind,λi v' ck ab aa=> ?_⟩;cases i with
  |zero=>
   simp only[C1,v8]at ab aa;subst ab aa;exact h.1
  |succ i=>grind
theorem ahF(aH:o.op= .call {callee:=.value f,args:=args,argTypes:=fg})(aa:∀t,o.dst=some t->t<n)(k5:bG s f= .fn (.func k) cu)
  (h:O8 P k (args.toList.map (bG s)++cu) s idx o.dst (oX (bG s) o.op.operands.toList++cu.flatMap hQ) K):∃bA i,K bA i/\nE P aE a8 n o bA s E:=by
 unfold O8 at h;split at h
 ·rename_i j ae;split at h
  ·rename_i fj;obtain⟨k1,⟨ko,bL,d,jm,oz,hle,ap⟩,lw⟩:=K9 h;simp only[cq]at oz;obtain⟨⟨⟨o5,xN⟩,gV⟩,G7⟩:=oz;refine⟨_,_,ap,λaT s' a w ao he af hlen=> ?_⟩;generalize ov:bO idx bL.length=news at *
   have vc:news.length=bL.length:=by rw[<-ov,KN]
   simp only[l4]at G7;have oA:∀x∈o.op.operands.toList,bg (bi aE aT) aT w (a.eval x) (bG s x):=λx ah=>by rw[<-he x ah];exact ao.bG x
   have az:=oA f (by rw[aH];simp[Op.operands,Call.operands]);rw[k5]at az;obtain⟨vs,ab,nW,G8⟩:=az.tA;obtain⟨h1,ad⟩:=Bi (os:=aT) (A:=bi aE aT) (w:=w) (a:=a) (l:=args.toList) (ρ:=bG s) rfl (λx ah=>oA x (by rw[aH];simp only[Op.operands,Call.operands,vV,eo];grind)) nW G8;have Qt:=lw s'.loc (λd qz k hk=>af k (.inl (by
    rcases eo.1 qz with qz|qz
    ·obtain⟨x,ah,rfl⟩:=fT.1 qz;refine eo.2 (.inl (G4 (x:=x) ?_ hk));rw[aH];simp only[Op.operands,Call.operands,vV,eo]
     grind
    grind))) (λl=>l=k1) rfl
   obtain⟨l,rfl,ct⟩:=GG (J:=jl (hb (args.toList.map (bG s)++cu))) ao _ _ h1 ad (λd j aa aq=>A9 aa aq) Qt;have nY:jN (bR s'.loc j)=true:=by rw[af j (.inr ⟨_,tm⟩)];omega
   obtain⟨e,aB,es,nY⟩:∃e aB es,bR s'.loc j= .row e aB es:=by
    cases bV:bR s'.loc j<;>rw[bV]at nY<;>first|exact⟨_,_,_,rfl⟩| (simp[jN]at nY)
   have avh:=nY;rw[ao.loc]at nY;obtain⟨PF,hi⟩:=kO nY (by simp);have aw:=ao.X8 hi;have h5:∀i∈news,∃y,(aT.set j (.nilFunc,.gone))[i]?=some (y,.bm):=by
    intro i hd;obtain⟨cY,cZ⟩:=wL (G7 i hd);have Br:∃bD,(i,bD)∈ (j,aZ.gone)::news.zip (bL.map (gP (dn news))):=by
     obtain⟨q,bV,rfl⟩:=e8 hd;have ahG:q<(bL.map (gP (dn news))).length:=by grind
     exact⟨_,FQ _ (fo (i:=q) (VF.2 ⟨eP bV,eP ahG⟩))⟩
    have na:=(af i (.inr Br)).trans cZ;have bu:i≠j:=by
     grind
    obtain⟨y,bn⟩:=wK ao na (by omega)
    grind
   have fK:∀b,mb aE (aT.set j (.nilFunc,.gone)) [] b->mb aE aT (jl (hb (args.toList.map (bG s)++cu))) b:=by
    rintro b (ac| ⟨i,x,aU,hd,kv,_,cy⟩)
    ·exact .inl ac
    ·by_cases fW:i=j
     ·subst fW;rw[oS (eL.1 hi).1]at hd;cases hd;simp[bJ]at cy
     ·rw[v1 (λe=>fW e.symm)]at hd;refine .inr ⟨i,x,aU,hd,kv,?_,cy⟩;rw[ae];simpa[jl,nh]using fW
   obtain⟨ji,G9⟩:=X9 (ct.le hle);have core:=KG (pass:=[]) (news:=news) (J:=[]) aw jm (λk i hk=>by grind) o5 rfl (GJ gV) (by simp) h5 (by grind) rfl xN trivial (fH:=args.toList.map a.eval++vs) ji (λi v d ab aa=>(bg.xR (A:=mb aE (aT.set j (.nilFunc,.gone)) []) (os:=[]) (ρ:=dn ([]++news)) (λk x bD _ _ h=>by grind) (dx.refl _ _) (.bT ((G9 i v d ab aa).cC (dx.ib fK)))).2);unfold Oper.wp;rw[Bh aH ab jm.1];refine core.mono λe w' ah=> ?_;obtain⟨v,k4,rfl,hJ,tN⟩:=ah;refine dN.put hJ aa tN ?_;have aC:F6 ⟨s'.env,gr s'.loc j .gone⟩ ([]++news) [] bL= ⟨s'.env,pE (gr s'.loc j .gone) news (bL.map (gP (dn news)))⟩:=rfl;rw[aC,<-Qq];refine A2.2 ?_;cases o.dst<;>rfl
  grind
 grind
theorem Qu(ay:dv P ag=true)(aR: (aF ag 0).size=0)(aa:∀t,o.dst=some t->t<n){K:fe->Nat->Prop}(h:Gb ag P o idx s K):∃bA yP,K bA yP/\nE P aE a8 n o bA s E:=by
 unfold Gb at h;split at h
 ·obtain⟨c,d,ap,lw⟩:=XR _ h;obtain⟨aj,ap⟩:=q7.1 ap;exact⟨_,_,ap,ahp (wrap:=λd=>d) ay aR aa lw aj (λh=>h) (λh=>h)⟩
 ·split at h
  ·rename_i t aH;split at h
   ·rename_i m ae az;exact⟨_,_,h,ahr ay aH aa (by omega) az⟩
   grind
  ·rename_i t x aH;split at h
   ·rename_i az;have h:=KQ h;split at h
    ·rename_i cs e;exact⟨_,_,xi.1 h,X2 (d:=.agg cs) aH aa az e (by simp) (by simp) (by simp)⟩
    ·grind
    ·grind
    ·grind
    ·rename_i d h1 ad aN bt;have o4:dc (bG s x)=[bG s x]:=by
      generalize bG s x=d at *;cases d<;>first|rfl|exact absurd rfl (h1 _)
     refine⟨_,_,h,?_⟩;rw[<-o4];exact X2 aH aa az rfl (λb ck e=>ad b ck e) (λl e=>aN l e) (λe=>bt e)
   grind
  ·rename_i args fg aH;split at h
   ·rename_i x y t eD bb iO;split at h
    ·rename_i e lO hk;split at h
     ·grind
     ·rename_i ae;exact ahy ay aH bb iO (fz lO) hk ae aa h
    grind
   grind
  ·rename_i args fg aH;split at h
   ·rename_i x y t eD bb iO;split at h
    ·rename_i e lO hk;split at h
     ·grind
     ·rename_i ae;obtain⟨bA,ap,ao⟩:=ahB (aE:=aE) (a8:=a8) (E:=E) ay aH bb iO (fz lO) hk ae aa h
      grind
    grind
   grind
  ·rename_i t x y aH;have h:=KQ h;split at h
   ·grind
   ·grind
   ·grind
   ·rename_i d h1 ad aN;obtain⟨bA,ap,ao⟩:=ahv (aE:=aE) (a8:=a8) (E:=E) ay aH aa rfl (λb ck e=>h1 b ck e) (λl e=>ad l e) (λe=>aN e) h
    grind
  ·rename_i t m parts aH;split at h
   ·rename_i e hk;split at h
    ·rename_i m1 ae ac;split at h
     ·split at h
      ·rename_i az;obtain⟨es,ap,ao⟩:=XZ (aE:=aE) (a8:=a8) (E:=E) ay aH hk (by omega) (nz ac) az aa h
       grind
      grind
     ·obtain⟨w,h⟩:=h;cases w with
      |false=>
       obtain⟨es,ap,ao⟩:=ahs (aE:=aE) (a8:=a8) (E:=E) ay aH hk (by omega) (nz ac) aa h
       grind
      |true=>
       simp only at h;split at h
       ·rename_i az;obtain⟨es,ap,ao⟩:=XZ (aE:=aE) (a8:=a8) (E:=E) ay aH hk (by omega) (nz ac) az aa h
        grind
       grind
    grind
   grind
  ·rename_i t l c aH;split at h
   ·rename_i e hk;split at h
    ·rename_i m1 y5 Pr tE wE ae el iM az;obtain⟨m,N,rfl,rfl,A7,ac,c5,ap⟩:=h;exact⟨_,_,ap,aht ay aH hk (by omega) az aa el iM A7 ac c5⟩
    grind
   grind
  ·rename_i f args fg aH;split at h
   ·rename_i k cu k5;have h:=xC h;rcases h with h|h
    rotate_left
    ·split at h
     ·rcases h with h|h
      ·exact X5 aH aa k5 h
      ·exact ahF aH aa k5 h
     ·exact X5 aH aa k5 h
    obtain⟨k1,⟨cO,r,hle,jm,ap⟩,lw⟩:=K9 h;have run:=λae=>XY (P:=P) (a8:=a8) (E:=E) (wrap:=λd=>d) (aE:=aE) (ρ:=bG s) aH aa (λh=>h) k5 (λh=>h) lw hle jm ae;split at ap
    ·grind
    ·split at ap
     ·grind
     ·split at ap
      ·rename_i j ae;split at ap
       ·rename_i fj;exact⟨_,_,ap,ahE aH aa k5 lw hle jm ae fj⟩
       grind
      grind
   grind
  grind
def Ya(aE:Nat->Prop)(a8:e5)(n:Nat)(o:Oper)(bA:fe):Prop:=
 ∀ (aT:c2) (s':bK) (a:Act) (w:World),ch aE a8 n aT s' a w->dN aE a8 n (λpR=>pR=bA.kM s') (a.put o.dst undef) w
theorem D9(aa:∀t,o.dst=some t->t<n){d:ak}{kr:List Nat}:Ya aE a8 n o ⟨gL o.dst (.ca false d),kr,[],[]⟩:=λaT s' a w h=>dN.put h aa GA xT
theorem Ea{g:Bool}(aw:g=true):∀ {l:List Operand} {s:bK} {K:bK->Prop},pG g l s K->∃a6:List (Nat×ak),K ⟨a6++s.env,s.loc⟩/\(∀t∈a6.map (·.1),.tmp t∈l)/\
  ∀ (t:Nat) (A:Nat->Prop) (os:c2) (w:World) (x:Value),bg A os w x (look (a6++s.env) t)↔bg A os w x (look s.env t)
 | [],s,K,h=>⟨[],h,by simp,λt A os w x=>CY⟩
 | .tmp t::r,s,K,h=>by
  unfold pG at h;split at h
  ·rename_i dV d e;obtain⟨h1,h⟩:=h;obtain⟨a6,ap,cL,b4⟩:=Ea aw h;have ahH:=h1 aw;subst ahH;refine⟨a6++ [(t,d)],by grind,λeD Bd=> ?_,λeD A os w x=> ?_⟩
   ·grind
   ·rw[km];refine(b4 eD A os w x).trans ?_;simp only[rI,nS,look];split
    ·rename_i ac;have:=fz ac;subst this;rw[e];exact⟨λh=>.ca (λ_=>h) (λe=>by cases e),λh=>h.yT.1 rfl⟩
    rfl
  ·obtain⟨a6,ap,cL,b4⟩:=Ea aw h
   grind
 | .const v::r,s,K,h=>by
  obtain⟨a6,ap,cL,b4⟩:=Ea aw (l:=r) (by unfold pG at h;exact h)
  grind
 | .global v::r,s,K,h=>by
  obtain⟨a6,ap,cL,b4⟩:=Ea aw (l:=r) (by unfold pG at h;exact h)
  grind
 | .func v::r,s,K,h=>by
  obtain⟨a6,ap,cL,b4⟩:=Ea aw (l:=r) (by unfold pG at h;exact h)
  grind
theorem ahI{bA:fe}{a6:List (Nat×ak)}(cL:∀t∈a6.map (·.1),.tmp t∈o.op.operands.toList)
  (b4:∀ (t:Nat) (A:Nat->Prop) (os:c2) (w:World) (x:Value),bg A os w x (look (a6++s.env) t)↔bg A os w x (look s.env t)) (h:nE P aE a8 n o bA ⟨a6++s.env,s.loc⟩ E):nE P aE a8 n o bA s E:=by
 intro aT s' a w ao he af hlen;have key:∀ (t:Nat) (A:Nat->Prop) (os:c2) (w:World) (x:Value),bg A os w x (look (a6++s'.env) t)↔bg A os w x (look s'.env t):=λt A os w x=>by
  by_cases cH:t∈a6.map (·.1)
  ·rw[K0 (e':=s.env) cH,b4 t A os w x];have:=he _ (cL t cH);simp only[bG]at this
   grind
  ·rw[G0 cH]
 have h1:=h aT ⟨a6++s'.env,s'.loc⟩ a w ⟨ao.size,ao.defers,ao.hv,ao.a0,ao.loc,λt=>(key t _ _ _ _).2 (ao.env t),ao.cV,ao.inj⟩ (λx ah=>by
  cases x with
  |tmp t=>
   simp only[bG];by_cases cH:t∈a6.map (·.1)
   ·exact K0 cH
   ·rw[G0 cH,G0 cH];exact he _ ah
  |const v=>rfl
  |global g=>rfl
  |func f=>rfl) af hlen
 refine Oper.wp_mono (λcP eE aW=> ?_) h1;obtain⟨k4,s2,hJ,rfl⟩:=aW;refine⟨k4,bA.kM s',⟨hJ.size,hJ.defers,hJ.hv,hJ.a0,hJ.loc,λt=> ?_,hJ.cV,hJ.inj⟩,rfl⟩;have ab:=hJ.env t;by_cases cH:bA.ho t
 ·rw[K2 (s':=bA.kM ⟨a6++s'.env,s'.loc⟩) cH]at *;exact ab
 ·rw[Bl cH]at ab⊢
  grind
theorem Yb(ay:dv P ag=true)(aR: (aF ag 0).size=0)(aa:∀t,o.dst=some t->t<n){g:Bool}{K:fe->Nat->Prop}(h:J2 ag P o g idx s K):
  ∃bA yP,K bA yP/\(g=true->nE P aE a8 n o bA s E)/\(g=false->Ya aE a8 n o bA):=by
 unfold J2 at h;split at h
 ·rename_i c x y aH;obtain⟨fA,d,ap,lw⟩:=ahi _ h;obtain⟨aj,ap⟩:=q7.1 ap;refine⟨_,_,ap,λaw=> ?_,λaw=>by subst aw;exact D9 aa⟩;subst aw;intro aT s' a w ao he af _;have tL:∀z∈o.op.operands.toList,bg (bi aE aT) aT w (a.eval z) (bG s z):=λz bx=>by rw[<-he z bx];exact ao.bG z
  rw[aH]at tL;obtain⟨_,_,⟨rfl,rfl⟩,aw⟩:=Xx (P:=P) (A:=bi aE aT) (os:=aT) (w:=w) (a:=a) aH (λb4=>by
   obtain⟨kq,b4,bC⟩:=G3 b4;exact⟨kq,b4,λaj=>bC (λz bx=>tL z (by simp[Op.operands]at bx⊢;grind)) aj rfl _ (by simp)⟩) (tL x (by simp[Op.operands])) (tL y (by simp[Op.operands])) (lw (λeR ck=>eR=fA/\ck=d) ⟨rfl,rfl⟩)
  obtain⟨x,et,xF⟩:=aw aj;exact jD et (dN.put ao aa (.ca (λ_=>xF) (λe=>by cases e)) xT)
 ·split at h
  ·obtain⟨kq,h,fI⟩:=G3 h;obtain⟨c,d,ap,lw⟩:=XR _ h;obtain⟨aj,ap⟩:=q7.1 ap;refine⟨_,_,ap,λaw=> ?_,λaw=>by subst aw;exact D9 aa⟩;subst aw;obtain⟨pQ,sD⟩:=Holds.andO.1 aj;have lQ:Holds c:=by
    cases c with
    |none=>exact Holds.Pn
    |some p=>exact Holds.j2.2 (Holds.j2.1 sD rfl)
   exact aho (wrap:=.ca true) ay aR aa lw lQ (λh=>fI h pQ rfl) (λh=>.ca (λ_=>h) (λe=>by cases e))
  ·split at h
   ·rename_i f args fg aH;split at h
    ·rename_i k cu k5;split at h
     ·obtain⟨kq,h,fI⟩:=G3 h;have h:=xC h;obtain⟨k1,⟨cO,r,hle,jm,ap⟩,lw⟩:=K9 h;obtain⟨pQ,ap⟩:=q7.1 ap;have run:=λ(aw:g=true) ae=>XY (P:=P) (a8:=a8) (E:=E) (wrap:=.ca true) (aE:=aE) (ρ:=jA s) aH aa (λh=>fI h pQ aw) k5 (λh=>.ca (λ_=>h) (λe=>by cases e)) lw hle (jm aw) ae;split at ap
      ·rename_i ae;exact⟨_,_,ap,λaw=>by grind,λaw=>by subst aw;exact D9 aa⟩
      ·split at ap
       ·rename_i ae;exact⟨_,_,ap,λaw=>by grind,λaw=>by subst aw;exact D9 aa⟩
       grind
     ·cases g with
      |true=>
       obtain⟨a6,h,cL,b4⟩:=Ea rfl h;obtain⟨bA,i,ap,ao⟩:=h.elim (ahD (aE:=aE) (a8:=a8) (E:=E) aa) (Qu (aE:=aE) (a8:=a8) (E:=E) ay aR aa);exact⟨bA,i,ap,λ_=>ahI cL b4 ao,λe=>by cases e⟩
      |false=>
       have h:∃d:ak,K ⟨gL o.dst (.ca false d),[],[],[]⟩ idx:=h;obtain⟨d,h⟩:=h;exact⟨_,_,h,(λe=>by cases e),λ_=>D9 aa⟩
    grind
   ·cases g with
    |true=>
     obtain⟨bA,i,ap,ao⟩:=Qu (aE:=aE) (a8:=a8) (E:=E) ay aR aa h
     grind
    |false=>
     have h:K ⟨gL o.dst (.ca false (.v (.bool false))),[],[],[]⟩ idx:=h;exact⟨_,_,h,(λe=>by cases e),λ_=>D9 aa⟩
def Lg(P:Program)(aE:Nat->Prop)(a8:e5)(n:Nat)(ops:Array Oper)(o:Oper)(bA:fe)(s:bK)(E:Exit->Act->World->Prop):Prop:=
 ∀ (aT:c2) (s':bK) (a:Act) (w:World),ch aE a8 n aT s' a w->(∀t∈o.looksAt ops,look s'.env t=look s.env t)->(∀k,(k∈bA.kr\/bA.cV k)->bR s'.loc k=bR s.loc k)->s'.loc.length=s.loc.length->
  if Region.wanted o (yielded ops a.tmps)then o.wp P a w (dN aE a8 n λpR=>pR=bA.kM s') E else dN aE a8 n (λpR=>pR=bA.kM s') (a.put o.dst undef) w
theorem Qv(h:∀t∈o.looksAt ops,look s'.env t=look s.env t):∀x∈o.op.operands.toList,bG s' x=bG s x:=by
 intro x ah;cases x with
 |tmp t=>
  refine h t ?_;simp only[Oper.looksAt,eo,Oz]
  grind
 |const v=>rfl
 |global g=>rfl
 |func f=>rfl
theorem Yc{j:Nat}{want:Bool}(aw:o.guard=some (j,want))(h:∀t∈o.looksAt ops,look s'.env t=look s.env t):uR ops.toList s' j=uR ops.toList s j:=by
 unfold uR;split
 ·rename_i avi Qw;split
  ·rename_i t cH;refine h t ?_;simp only[Oper.looksAt,aw,eo]
   grind
  ·rfl
 ·rfl
theorem Yd{j:Nat}(h:ch aE a8 n os s a w):
  (∀b,uR ops.toList s j= .v (.bool b)->yielded ops a.tmps j=some b)/\(∀g b,uR ops.toList s j= .ca g (.v (.bool b))->(g=true->yielded ops a.tmps j=some b)/\(g=false->yielded ops a.tmps j=none)):=by
 have bn:∀d,uR ops.toList s j=d->d≠ .a1->∃t,(ops[j]?).bind (·.dst)=some t/\look s.env t=d:=by
  intro d e aq;unfold uR at e
  grind
 have Ye:∀ (t:Nat) (b:Bool),(ops[j]?).bind (·.dst)=some t->a.tmps.getD t undef= .bool b->yielded ops a.tmps j=some b:=by
  intro t b cH ab;have ax:t<a.tmps.size:=by
   rcases l5 t a.tmps.size with ax|fp
   ·omega
   ·rw[pA,Oc fp]at ab;cases ab
  rw[pA,vT ax]at ab;simp only[qW]at ab;simp[yielded,cH,ax,ab]
 refine⟨λb e=> ?_,λg b e=>⟨λsO=> ?_,λsO=> ?_⟩⟩
 ·obtain⟨t,cH,sN⟩:=bn _ e (by simp);have ab:=h.env t;rw[sN]at ab;exact Ye t b cH ab.j1.1
 ·obtain⟨t,cH,sN⟩:=bn _ e (by simp);have ab:=h.env t;rw[sN]at ab;exact Ye t b cH (ab.yT.1 sO).j1.1
 ·obtain⟨t,cH,sN⟩:=bn _ e (by simp);have ab:=h.env t;rw[sN]at ab;have ab:=ab.yT.2 sO;have:a.tmps[t]?=none\/a.tmps[t]?=some undef:=by
   rw[pA]at ab
   grind
  rcases this with h1|h1<;>simp[yielded,cH,h1,undef]
theorem ahJ(ay:dv P ag=true)(aR: (aF ag 0).size=0)(aa:∀t,o.dst=some t->t<n){K:fe->Nat->Prop}(h:Pb ag P ops.toList o idx s K):∃bA yP,K bA yP/\Lg P aE a8 n ops o bA s E:=by
 unfold Pb at h;split at h
 ·rename_i aw;obtain⟨bA,i,ap,ao⟩:=Qu (aE:=aE) (a8:=a8) (E:=E) ay aR aa h;refine⟨bA,i,ap,λaT s' a w h1 ad aN bt=> ?_⟩;rw[b6 (by simp[Region.wanted,aw])];exact ao aT s' a w h1 (Qv ad) aN bt
 ·rename_i j want aw;split at h
  ·rename_i b e;obtain⟨bA,i,ap,tC,hJ⟩:=Yb (aE:=aE) (a8:=a8) (E:=E) ay aR aa (KW.1 h);refine⟨bA,i,ap,λaT s' a w h1 ad aN bt=> ?_⟩;have o6:=(Yd (ops:=ops) (j:=j) h1).1 b ((Yc aw ad).trans e);by_cases ac:b=want
   ·subst ac;rw[b6 (by simp[Region.wanted,aw,o6])];exact tC (by cases b<;>rfl) aT s' a w h1 (Qv ad) aN bt
   ·rw[bo (by simp[Region.wanted,aw,o6,ac])];exact hJ (by cases b<;>cases want<;>simp at ac⊢) aT s' a w h1
  ·rename_i g b e;obtain⟨bA,i,ap,tC,hJ⟩:=Yb (aE:=aE) (a8:=a8) (E:=E) ay aR aa (KW.1 h);refine⟨bA,i,ap,λaT s' a w h1 ad aN bt=> ?_⟩;have o6:=(Yd (ops:=ops) (j:=j) h1).2 g b ((Yc aw ad).trans e);cases sO:g with
   |false=>
    have o6:=o6.2 sO;rw[bo (by simp[Region.wanted,aw,o6])];exact hJ (by grind) aT s' a w h1
   |true=>
    have o6:=o6.1 sO;by_cases ac:b=want
    ·subst ac;rw[b6 (by simp[Region.wanted,aw,o6])];exact tC (by grind) aT s' a w h1 (Qv ad) aN bt
    ·rw[bo (by simp[Region.wanted,aw,o6,ac])];exact hJ (by grind) aT s' a w h1
  grind
end
open Go
section
variable {P:Program} {ag:dH} {aE:Nat->Prop} {a8:e5} {n:Nat} {os:c2} {s s':bK} {a:Act} {w:World} {ops:Array Oper} {E:Exit->Act->World->Prop}
abbrev tO:Nat->Bool:=λ_=>true
theorem Qx{bA:fe}{pS:List fe}:∀i,fC (bA::pS) s tO (i+1)=fC pS (bA.kM s) tO i
 |0=>rfl
 |i+1=>by
  have aY:fC (bA::pS) s tO (i+1)=fC pS (bA.kM s) tO i:=Qx i;rw[fC,aY];rfl
theorem Yf:∀ {l e:List (Nat×ak)} {K:List (Nat×ak)->Prop},J0 l e K↔K (l++e)
 | [],e,K=>CY
 |p::r,e,K=>Yf (l:=r)
theorem ahK{bA:fe}{K:bK->Prop}:bA.VV s K↔K (bA.kM s):=by
 obtain⟨AP,kr,m4,qj⟩:=bA;obtain⟨e,l⟩:=s;show J0 AP e _↔_;rw[Yf];cases m4
 ·rfl
 ·exact Ko
theorem Yg:∀ {m ll:List (Nat×Nat)} {K:List (Nat×Nat)->Prop},Pc ll m K->∃Ha,K Ha
 | [],ll,K,h=>⟨ll,h⟩
 |p::r,ll,K,h=>Yg (m:=r) h
theorem Yh(ay:dv P ag=true)(aR: (aF ag 0).size=0){K:List fe->List (Nat×Nat)->bK->Prop}:∀ (l:List Oper) {idx:Nat} {aP:List fe} {ll:List (Nat×Nat)} {s:bK},l.all (Bj n)=true->J3 ag P ops.toList l idx aP ll K s->
  ∃pS Ha,pS.length=l.length/\K (aP++pS) Ha (fC pS s tO l.length)/\∀ (i:Nat) o bA,l[i]?=some o->pS[i]?=some bA->Lg P aE a8 n ops o bA (fC pS s tO i) E
 | [],idx,aP,ll,s,_,h=>⟨[],ll,rfl,by simp only[jM];exact h,λi o bA h1 _=>by grind⟩
 |o::r,idx,aP,ll,s,af,h=>by
  simp only[FI,cq]at af;unfold J3 at h;obtain⟨bA,yP,h,ao⟩:=ahJ (aE:=aE) (a8:=a8) (E:=E) ay aR (P1 af.1) h;obtain⟨avj,h⟩:=Yg (ahK.1 h);obtain⟨pS,Ha,h1,ad,aN⟩:=Yh ay aR r af.2 h;refine⟨bA::pS,Ha,by grind,?_,λi aU iz hi me=> ?_⟩
  ·rw[lI,Qx]
   grind
  ·cases i with
   |zero=>
    simp at hi me;subst hi;subst me;exact ao
   |succ i=>
    rw[Qx]
    grind
theorem ch.congr(h:ch aE a8 n os s' a w)(af:s.loc=s'.loc)(he:∀t,look s.env t=look s'.env t):ch aE a8 n os s a w:=
 ⟨h.size,h.defers,h.hv,h.a0,af.trans h.loc,λt=>by rw[he];exact h.env t,h.cV,h.inj⟩
theorem ahL{l cO:List aZ}(af:l.length=cO.length)(h:∀k,bR l k=bR cO k):l=cO:=by
 refine FL af (λi h1 ad=> ?_);have:=h i;rw[ln,ln,eP h1,eP ad]at this
 grind
variable {di:List fe} {fq:bK} {N:Nat}
def o8(i0:Array Bool)(j:Nat):Bool:=i0.getD j false
def Bs(aE:Nat->Prop)(a8:e5)(n:Nat)(di:List fe)(fq:bK)(N:Nat)(S:Nat->Bool)(a:Act)(w:World):Prop:=
 ∃aT s',ch aE a8 n aT s' a w/\(∀t,look s'.env t=look (fC di fq S N).env t)/\(∀k,bR s'.loc k=bR (fC di fq S N).loc k)/\s'.loc.length=fq.loc.length
theorem ahM{S:Nat->Bool}(o4:∀i o,S i=true->ops[i]?=some o->∀e∈o.after,Region.binds .any e=true->S e.on=true){i j:Nat}(h:Reach ops i j):S i=true->S j=true:=by
 induction h with
 |K6 aH he ac=>grind
 |trans _ _ ahN ahO=>grind
theorem ahP{S:Nat->Bool}(o4:∀i o,S i=true->ops[i]?=some o->∀e∈o.after,Region.binds .any e=true->S e.on=true){i j:Nat}(h:Reach ops i j): (∀o,ops[i]?=some o->∀e∈o.after,Region.binds .any e=true->S e.on=true)->S j=true:=by
 induction h with
 |K6 aH he ac=>grind
 |trans _ ad ahN ahO=>grind
theorem ahQ(hO:Bm di (Bn ops) (Reach ops))(jn:di.length=ops.size)(Hb:∀ (i:Nat) o bA,ops[i]?=some o->di[i]?=some bA->Lg P aE a8 n ops o bA (fC di fq tO i) E)
  {S:Nat->Bool} (o4:∀i o,S i=true->ops[i]?=some o->∀e∈o.after,Region.binds .any e=true->S e.on=true) {i:Nat} {o:Oper} (aH:ops[i]?=some o) (hi:S i=false) (ao:∀e∈o.after,Region.binds .any e=true->S e.on=true)
  (h:Bs aE a8 n di fq ops.size S a w):
  if Region.wanted o (yielded ops a.tmps)then o.wp P a w (Bs aE a8 n di fq ops.size λj=>S j||decide (j=i)) E else Bs aE a8 n di fq ops.size (λj=>S j||decide (j=i)) (a.put o.dst undef) w:=by
 obtain⟨aT,s',h1,ad,aN,bt⟩:=h;have wJ:=(xa.1 aH).1;have me:di[i]?=some (di[i]'(by omega)):=eP (by omega);generalize(di[i]'(by omega))=bA at me;have Lh:∀i j,S i=true->Reach ops i j->S j=true:=λi j cF b4=>ahM o4 b4 cF;have l9:∀j,Reach ops i j->S j=true:=λj b4=>ahP o4 b4 (λaU ku=>by grind);have o3:Bn ops i=o.looksAt ops:=by simp[Bn,aH]
 have run:=Hb i o bA aH me aT s' a w h1 (λt cH=>(ad t).trans (agZ hO Lh hi l9 wJ (by grind))) (λk hk=>(aN k).trans (ag0 hO Lh hi l9 wJ me hk)) (by rw[bt,xS]);have nc:∀wN w',dN aE a8 n (λpR=>pR=bA.kM s') wN w'->Bs aE a8 n di fq ops.size (λj=>S j||decide (j=i)) wN w':=by
  rintro wN w' ⟨k4,s2,kP,rfl⟩;have aj:=agU (bA:=bA) ad aN (by rw[bt,xS]);exact⟨k4,_,kP,λt=>(aj.1 t).trans (ag1 hO Lh hi wJ me t).symm,λk=>(aj.2 k).trans (ag2 hO Lh hi wJ me k).symm,by rw[XH,bt]⟩
 split
 ·rename_i hw;rw[b6 hw]at run;exact Oper.wp_mono nc run
 grind
theorem ahR(hO:Bm di (Bn ops) (Reach ops))(jn:di.length=ops.size)(Bt:AS ops.toList 0=true)(Hb:∀ (i:Nat) o bA,ops[i]?=some o->di[i]?=some bA->Lg P aE a8 n ops o bA (fC di fq tO i) E)
  {K:bK->Prop} (ap:K (fC di fq tO ops.size)) (dk:∀a w,dN aE a8 n K a w->E .normal a w):
  ∀ (fuel:Nat) (i0:Array Bool) (a:Act) (w:World),i0.size=ops.size->(∀i o,o8 i0 i=true->ops[i]?=some o->∀e∈o.after,Region.binds .any e=true->o8 i0 e.on=true)->
   i0.toList.count false<=fuel->Bs aE a8 n di fq ops.size (o8 i0) a w->wpAny P .any ops E fuel i0 a w:=by
 intro fuel;have done:∀ (i0:Array Bool) (a:Act) (w:World),i0.size=ops.size->Region.ready .any ops i0=[]->Bs aE a8 n di fq ops.size (o8 i0) a w->E .normal a w:=by
  intro i0 a w cE ao hinv;have ct:∀i,i<ops.size->o8 i0 i=true:=by
   intro i;induction i using Nat.strongRecOn with
   |_ i aY=>
    intro hi;cases cF:o8 i0 i with
    |true=>rfl
    |false=>
     have:i∈Region.ready .any ops i0:=by
      rw[mem_ready];refine⟨?_,ops[i],vT hi,λe he ac=> ?_⟩
      ·have ax:i<i0.size:=by omega
       simp only[o8,pA,vT ax,qW]at cF⊢;exact cF
      ·have:=XM Bt (i:=i) (o:=ops[i]) (by simp) e he ac;exact aY e.on (by omega) (by omega)
     grind
  obtain⟨aT,s',h1,ad,aN,bt⟩:=hinv;have b3:fC di fq (o8 i0) ops.size=fC di fq tO ops.size:=K5 _ (λj aq=>ct j aq);rw[b3]at ad aN;exact dk a w ⟨aT,_,h1.congr (ahL (by rw[bt,xS]) (λk=>(aN k).symm)) (λt=>(ad t).symm),ap⟩
 induction fuel with
 |zero=>
  intro i0 a w cE o4 Qy hinv;have ao:Region.ready .any ops i0=[]:=by
   rw[List.eq_nil_iff_forall_not_mem];intro i hi;obtain⟨h1,o,aH,_⟩:=mem_ready.1 hi;have ax:i<i0.size:=by grind
   simp only[pA,vT ax,qW]at h1;have:false∈i0.toList:=by grind
   grind
  exact⟨ao,done i0 a w cE ao hinv⟩
 |succ fuel aY=>
  intro i0 a w cE o4 Qy hinv;refine⟨λao=>done i0 a w cE ao hinv,λi hi=> ?_⟩;obtain⟨h1,o,aH,ct⟩:=mem_ready.1 hi;have ax:i<i0.size:=by grind
  have Yi:i0[i]=false:=by simpa only[pA,vT ax,qW]using h1
  have ahS:o8 i0 i=false:=by simp only[o8,pA,vT ax,qW,Yi]
  have wI:∀j,o8 (i0.setIfInBounds i true) j=(o8 i0 j||decide (j=i)):=by
   intro j;simp only[o8,pA,Vw]
   grind
  have b3:=ahQ (P:=P) (E:=E) hO jn Hb o4 aH ahS ct hinv;have next:∀a w,Bs aE a8 n di fq ops.size (λj=>o8 i0 j||decide (j=i)) a w->wpAny P .any ops E fuel (i0.setIfInBounds i true) a w:=by
   intro a w avk;refine aY _ a w (by grind) (λA3 aU df ku e he ac=> ?_) ?_ ?_
   ·rw[wI]at df⊢;simp only[oR,fr]at df⊢;rcases df with df|rfl
    ·grind
    ·rw[aH]at ku;cases ku;exact .inl (ct e he ac)
   ·grind
   ·have:o8 (i0.setIfInBounds i true)=λj=>o8 i0 j||decide (j=i):=funext wI
    grind
  unfold wpOp;rw[aH];simp only;split
  ·rename_i hw;rw[b6 hw]at b3;exact .inl (Oper.wp_mono next b3)
  grind
theorem b8.xR{A:Nat->Prop}{w:World}{x:Value}{d:ak}(i j:Nat)(h:b8 A w x d):b8 A w x (lm i j d)/\b8 A w x (xw i j d):=by
 induction h with
 |v h=>exact⟨.v h,.v h⟩
 |ar xs aW aj aA az cE al ac br dD ah _=>exact⟨.ar xs aW aj aA az cE al ac br dD ah,.ar xs aW aj aA az cE al ac br dD ah⟩
 |nil=>exact⟨.nil,.nil⟩
 |av=>exact⟨.av,.av⟩
 |agg af br h aY=>
  refine⟨.agg af br h,.agg (by grind) br (λj v d ab aa=> ?_)⟩
  grind
 | @bd vs ds af h _=>
  refine⟨.bd af h,?_⟩;show b8 A w _ (q1 ds);unfold q1;split
  ·exact .bd af h
  ·exact .a1
 |c9 xs al ac br dD ah _=>exact⟨.c9 xs al ac br dD ah,.c9 xs al ac br dD ah⟩
 |fn af h _=>exact⟨.fn af h,.fn af h⟩
 |ca _ aR aY=>exact⟨.ca (λac=>(aY ac).1) aR,.ca (λac=>(aY ac).2) aR⟩
 |a1=>exact⟨.a1,.a1⟩
theorem ahT{p:Nat×Nat}(h:ch aE a8 n os s a w):∃aT,ch aE a8 n aT (Pd s p) a w:=by
 obtain⟨i,j⟩:=p;unfold Pd;split
 ·rename_i h1 ad;simp only at h1 ad;rw[h.loc]at h1 ad;obtain⟨x,e,aB,es,hi⟩:=Kg h1;have aq:∃y,os[j]?=some (y,.gone):=by
   rw[ln,e7]at ad;cases aq:os[j]? with
   |none=>rw[aq]at ad;simp[OV]at ad
   |some p=>
    obtain⟨y,o⟩:=p;rw[aq]at ad;cases o<;>simp[OV]at ad
    simp
  obtain⟨y,aq⟩:=aq;have fW:i≠j:=λe=>by grind
  have qy:=(eL.1 hi).1;have nY:=(eL.1 aq).1;have fj:bR s.loc i= .row e aB es:=by rw[h.loc,ln,e7,hi];rfl
  rw[fj];generalize mE: (((os.map λp=>(p.1,gw (lm i j) p.2)).set j (x,.row e aB es)).set i (.nilFunc,.bm))=aT;have afZ:aT[i]?=some (.nilFunc,.bm):=by grind
  have Qw:aT[j]?=some (x,.row e aB es):=by grind
  have u0:∀ {k:Nat},k≠i->k≠j->aT[k]?=(os[k]?).map λp=>(p.1,gw (lm i j) p.2):=by
   grind
  have cM:∀ {k:Nat} {z:Value} {aU:aZ},aT[k]?=some (z,aU)->(k=j/\z=x/\aU= .row e aB es)\/(k=i/\z= .nilFunc/\aU= .bm)\/(k≠i/\k≠j/\∃dw,os[k]?=some (z,dw)/\aU=gw (lm i j) dw):=by
   grind
  have dp:∀dw:aZ,gw (lm i j) dw≠ .bm↔dw≠ .bm:=by intro dw;cases dw<;>simp[gw]
  have fK:∀b,bi aE aT b->bi aE os b:=by
   rintro b (ac| ⟨k,z,aU,hk,aa,cy⟩)
   ·exact .inl ac
   ·rcases cM hk with⟨rfl,rfl,rfl⟩| ⟨rfl,rfl,rfl⟩| ⟨_,_,dw,iW,rfl⟩
    ·exact .inr ⟨i,_,_,hi,by simp,cy⟩
    ·grind
    ·exact .inr ⟨k,_,_,iW,(dp _).1 aa,cy⟩
  have ng:dx (bi aE os) (bi aE aT) w w:=dx.ib fK;have rd:∀ {p q:Nat},p≠q->Nat.beq p q=false:=by
   intro p q bu;cases ac:Nat.beq p q;all_goals simp_all
  have A1:∀ {z:Value} {d:ak},bg (bi aE os) os w z d->(z.oneCell'=true->bg (bi aE aT) aT w z (lm i j d))/\bg (bi aE aT) aT w z (xw i j d):=by
   intro z d bx;induction bx with
   |bT h=>exact⟨λ_=>.bT ((h.cC ng).xR i j).1,.bT ((h.cC ng).xR i j).2⟩
   | @aV k off g t cs hk=>
    have nj:k≠i:=λe=>by grind
    have rf:k≠j:=λe=>by grind
    have:aT[k]?=some (.pointer (some ⟨g,0,none⟩),.cells t (cs.map (lm i j))):=by rw[u0 nj rf,hk];rfl
    exact⟨λ_=>.aV this,.aV this⟩
   | @dU k off g t cs hk=>
    have nj:k≠i:=λe=>by grind
    have rf:k≠j:=λe=>by grind
    have:aT[k]?=some (.pointer (some ⟨g,0,none⟩),.cells t (cs.map (lm i j))):=by rw[u0 nj rf,hk];rfl
    exact⟨λ_=>.dU this,.dU this⟩
   | @db k gS off g m c aG tD wv hk=>
    have rf:k≠j:=λe=>by grind
    have key:bg (bi aE aT) aT w (.pointer (some ⟨g,gS*tD+off,none⟩)) (lm i j (.db k gS off)):=by
     by_cases nj:k=i
     ·subst nj;rw[hi]at hk;cases hk;simp only[lm,Ax];exact .db Qw
     ·simp only[lm,rd nj,rd rf];exact .db (e:=aG) (aB:=tD) (es:=wv) (n:=m) (c:=c) (by rw[u0 nj rf,hk];rfl)
    exact⟨λ_=>key,key⟩
   | @own k z aG tD wv hk h1=>
    have rf:k≠j:=λe=>by grind
    have key:bg (bi aE aT) aT w z (lm i j (.own k)):=by
     by_cases nj:k=i
     ·subst nj;rw[hi]at hk;cases hk;simp only[lm,Ax];exact .own Qw h1
     ·simp only[lm,rd nj,rd rf];exact .own (e:=aG) (aB:=tD) (es:=wv) (by rw[u0 nj rf,hk];rfl) h1
    exact⟨λ_=>key,key⟩
   | @e2 k z lv d hk aa h1=>
    have nj:k≠i:=λe=>by grind
    by_cases rf:k=j
    ·rcases aa with rfl| ⟨_,_,rfl⟩
     ·have aC:lm i j (.own k)= .a1:=by simp only[lm,rd nj,rf,Ax,rd (λe=>fW (Eq.symm e))]
      have aG:xw i j (.own k)= .a1:=aC;rw[aC,aG];exact⟨λ_=>.bT .a1,.bT .a1⟩
     ·rename_i gS off;have aC:lm i j (.db k gS off)= .a1:=by simp only[lm,rd nj,rf,Ax,rd (λe=>fW (Eq.symm e))]
      have aG:xw i j (.db k gS off)= .a1:=aC;rw[aC,aG];exact⟨λ_=>.bT .a1,.bT .a1⟩
    ·have hp:aT[k]?=some (lv,.gone):=by rw[u0 nj rf,hk];rfl
     rcases aa with rfl| ⟨gS,off,rfl⟩
     ·have aC:lm i j (.own k)= .own k:=by simp only[lm,rd nj,rd rf]
      have aG:xw i j (.own k)= .own k:=aC;rw[aC,aG];exact⟨λ_=>.e2 hp (.inl rfl) h1,.e2 hp (.inl rfl) h1⟩
     ·have aC:lm i j (.db k gS off)= .db k gS off:=by simp only[lm,rd nj,rd rf]
      have aG:xw i j (.db k gS off)= .db k gS off:=aC;rw[aC,aG];exact⟨λ_=>.e2 hp (.inr ⟨_,_,rfl⟩) h1,.e2 hp (.inr ⟨_,_,rfl⟩) h1⟩
   | @agg vs ds af br _ aY=>
    refine⟨λh=>by simp[Value.oneCell']at h,.agg (by grind) br (λk v d ab aa=> ?_)⟩
    grind
   | @bd vs ds af b2 bC aY=>
    exact⟨λh1=>by simp[Value.oneCell']at h1,.bT (((bg.bd af b2 bC).q1).cC ng)⟩
   | @fn f vs ds af iL _ aY=>
    have key:bg (bi aE aT) aT w (.func f #[] vs.toArray) (.fn f ds):=.fn af iL (λk v d ab aa=>by
     have aj:=iL d (fo aa);have ad:=(aY k v d ab aa).2;cases d<;>simp[l6,mA]at aj<;>exact ad)
    exact⟨λ_=>key,key⟩
   |ca _ aR aY=>exact⟨λh1=>.ca (λac=>(aY ac).1 h1) aR,.ca (λac=>(aY ac).2) aR⟩
  refine⟨aT,h.size,h.defers,h.hv,h.a0,?_,λt=> ?_,λk z aU hk=> ?_,λcU dh z dw mH fV b h1 ad d1 d2 cY cZ=> ?_⟩
  ·rw[<-mE,mD,mD,wu,h.loc,nQ,nQ,oT,oT];rfl
  ·show bg _ _ _ _ (look (pC (xw i j) s.env) t);rw[DD _ (by rfl)];exact(A1 (h.env t)).2
  ·rcases cM hk with⟨rfl,rfl,rfl⟩| ⟨rfl,rfl,rfl⟩| ⟨lr,ma,dw,iW,rfl⟩
   ·have:=h.cV _ _ _ hi;obtain⟨jB,xs,b2,cE,hc,br,ao⟩:=this;exact⟨jB,xs,b2,cE,hc,br,λeQ jk r d h1 ad=>by
     obtain⟨v,ab,hi⟩:=ao eQ jk r d h1 ad;exact⟨v,ab,hi.cC ng⟩⟩
   ·exact trivial
   ·have j3:=h.cV _ _ _ iW;cases dw with
    |bm=>exact trivial
    |gone=>exact j3
    |cD ds=>
     obtain⟨aC,aG,bc,cn⟩:=j3;refine⟨aC,by grind,bc,λA3 v d ab aa=> ?_⟩
     grind
    |cells t cs=>
     obtain⟨g,arr,rfl,cr,bC,ae,br,j4⟩:=j3;refine⟨g,arr,rfl,cr,bC,by grind,br,λjk v d ab aa=> ?_⟩
     grind
    |row aG tD wv=>
     obtain⟨jB,xs,b2,cE,hc,br,ao⟩:=j3;exact⟨jB,xs,b2,cE,hc,br,λeQ jk r d h1 ad=>by
      obtain⟨v,ab,hi⟩:=ao eQ jk r d h1 ad;exact⟨v,ab,hi.cC ng⟩⟩
  ·have eg:∀ {k z aU},aT[k]?=some (z,aU)->aU≠ .bm->∃Hc re,os[Hc]?=some (z,re)/\re≠ .bm/\Hc≠j/\((k=j/\Hc=i)\/(k≠j/\Hc≠i/\Hc=k)):=by
    grind
   obtain⟨ff,dj,dE,s1,_,t1⟩:=eg h1 d1;obtain⟨fB,dM,dL,s2,_,t2⟩:=eg ad d2;have:=h.inj ff fB _ _ _ _ b dE dL s1 s2 cY cZ;omega
 grind
theorem Yj:∀ (l:List (Nat×Nat)) {os:c2} {s:bK},ch aE a8 n os s a w->∃aT,ch aE a8 n aT (Dx l s) a w
 | [],os,s,h=>⟨os,h⟩
 |p::r,os,s,h=>by
  obtain⟨hI,h1⟩:=ahT (p:=p) h;exact Yj r h1
theorem Li{all:List Oper}:∀ (l:List Oper) {os:c2} {s:bK} {K:bK->Prop},ch aE a8 n os s a w->Dy all l s K->∃aT s',ch aE a8 n aT s' a w/\K s'
 | [],os,s,K,h,ap=>⟨os,s,h,ap⟩
 |o::r,os,s,K,h,ap=>by
  unfold Dy at ap;split at ap
  ·split at ap
   ·obtain⟨aT,s',bp,ap,_,_⟩:=xI _ h ap;exact Li r bp ap
   ·exact Li r h ap
  ·exact Li r h ap
theorem ahU(aA:P.follows .mixedOrders=true)(ay:dv P ag=true)(aR: (aF ag 0).size=0){id:Nat}{K:bK->Prop}(dk:∀a w,dN aE a8 n K a w->E .normal a w)(af:ops.toList.all (Bj n)=true)(h:ch aE a8 n os s a w)(ap:Pf ag P ops K s):
  (Code.region id ops true).wp P E a w:=by
 unfold Pf at ap;obtain⟨os,s,h,ap⟩:=Li _ h ap;unfold VW at ap;have ap:=Ko.1 ap;obtain⟨pS,ll,hlen,⟨Qz,Bu⟩,Hb⟩:=Yh (aE:=aE) (a8:=a8) (E:=E) ay aR ops.toList af ap;have ap:K (Dx ll (fC pS ⟨s.env,s.loc++List.replicate (uT ops.toList) .bm⟩ tO ops.toList.length)):=by
  split at Bu
  ·exact Bu
  omega
 rw[nS]at Qz;have hlen:pS.length=ops.size:=by omega
 have ap:K (Dx ll (fC pS ⟨s.env,s.loc++List.replicate (uT ops.toList) .bm⟩ tO ops.size)):=by omega
 have dk:∀a w,dN aE a8 n (λs'=>K (Dx ll s')) a w->E .normal a w:=λa w ⟨os,s,h,ap⟩=>by
  obtain⟨aT,bp⟩:=Yj ll h;exact dk a w ⟨aT,_,bp,ap⟩
 refine wp_region_any aA ?_;have aw:w.grownBy {w with drawn:=w.drawn+1} none:=⟨rfl,rfl,rfl,bP _,λ_ _ _=>rfl⟩
 obtain⟨aT,bp⟩:=W0 (h.qm aw) (uT ops.toList);have Bt:AS ops.toList 0=true:=by simp only[J5,cq]at Qz;grind
 have cF:o8 (Array.replicate ops.size false)=λ_=>false:=by
  funext j;simp only[o8,pA,Array.getElem?_replicate];split<;>rfl
 refine ahR (ag3 hlen Qz) hlen Bt (λi o bA aH me=>Hb i o bA (by grind) me) ap dk _ _ _ _ (by simp) (λi o hi _=>by grind) (by simp) ?_;rw[cF];have Lj:fC pS (⟨s.env,s.loc++List.replicate (uT ops.toList) .bm⟩:bK) (λ_=>false) ops.size= ⟨s.env,s.loc++List.replicate (uT ops.toList) .bm⟩:=D6 (m:=0) ops.size (bX _) (λ_ _ _=>rfl);exact⟨aT,_,bp,λt=>by rw[Lj],λk=>by rw[Lj],rfl⟩
end
open Go
section
variable {P:Program} {ag:dH} {aE:Nat->Prop} {a8:e5} {n:Nat} {os:c2} {s:bK} {a:Act} {w:World} {A:Nat->Prop}
def pT(n:Nat):Code->Bool
 | .region _ ops _=>ops.toList.all (Bj n)
 | .seq a b=>pT n a&&pT n b
 | .cond _ a b=>pT n a&&pT n b
 | .block _ c=>pT n c
 | .loop c=>pT n c
 | .scope c=>pT n c
 |_=>true
def ahV(aE:Nat->Prop)(a8:e5)(n:Nat)(K:Exit->bK->Prop)(e:Exit)(a:Act)(w:World):Prop:=dN aE a8 n (K e) a w
theorem Yk(aA:P.follows .mixedOrders=true)(ay:dv P ag=true)(aR: (aF ag 0).size=0):∀ (c:Code) {K:Exit->bK->Prop} {E:Exit->Act->World->Prop} {os:c2} {s:bK} {a:Act} {w:World},
  pT n c=true->(∀e a w,ahV aE a8 n K e a w->E e a w)->ch aE a8 n os s a w->rR ag P c K s->c.wp P E a w:=by
 intro c;induction c with
 |skip=>exact λ_ dk h ap=>wp_skip (dk _ _ _ ⟨_,_,h,ap⟩)
 |region id ops draw=>
  intro K E os s a w az dk h ap;cases draw with
  |false=>exact wp_region_list (P5 ay aR (K:=λs=>K .normal s) (λa w jn=>dk _ _ _ jn) _ az h ap)
  |true=>exact ahU aA ay aR (K:=λs=>K .normal s) (λa w jn=>dk _ _ _ jn) az h ap
 |seq x y QA QB=>
  intro K E os s a w az dk h ap;simp only[pT,cq]at az;refine wp_seq (QA az.1 (λe a w jn=> ?_) h ap);obtain⟨os,s,h,ap⟩:=jn;cases e with
  |normal=>exact QB az.2 dk h ap
  |_=>exact dk _ _ _ ⟨os,s,h,ap⟩
 |cond c x y QA QB=>
  intro K E os s a w az dk h ap;simp only[pT,cq]at az;have aj:=h.bG c;have ap: (match bG s c with
   | .v (.bool t)=>AO t (rR ag P x K s) (rR ag P y K s)
   |_=>False):=ap
  split at ap
  ·rename_i t e;rw[e]at aj;refine wp_cond_split aj.j1.1 (λcH=> ?_) (λcH=> ?_)
   ·subst cH;exact QA az.1 dk h ap
   ·subst cH;exact QB az.2 dk h ap
  grind
 |block id c aY=>
  intro K E os s a w az dk h ap;refine wp_block (aY az (λe a w jn=> ?_) h ap);obtain⟨os,s,h,ap⟩:=jn;cases e with
  |exit j=>
   simp only[Exit.inBlock];have ap: (match Nat.beq j id with
    |true=>K .normal s
    |false=>K (.exit j) s):=ap
   split at ap
   ·rename_i ac;rw[b6 (fz ac)];exact dk _ _ _ ⟨os,s,h,ap⟩
   ·rename_i ac;rw[bo (λe=>by simp_all)];exact dk _ _ _ ⟨os,s,h,ap⟩
  |_=>exact dk _ _ _ ⟨os,s,h,ap⟩
 |loop c aY=>
  intro K E os s a w az dk h ap;obtain⟨S,enc,I,μ,q4,⟨kw,ahW,Pu⟩,ahX⟩:=ap;obtain⟨hI,s1,h1,hle⟩:=va q4 h Pu;obtain⟨k4,ad⟩:=h1.le hle;refine wp_loop_ghost (λm a w=>∃x,I x/\μ x=m/\∃os,ch aE a8 n os (enc x) a w) (μ kw) ⟨kw,ahW,rfl,k4,ad⟩ ?_;rintro m a w ⟨x,ah,rfl,os,h⟩;refine aY az (λe a w jn=> ?_) h (ahX x ah);obtain⟨os,s,h,ap⟩:=jn;cases e with
  |normal=>
   obtain⟨x',xE,ax,hle⟩:=ap;obtain⟨vd,Eb,aN,hle⟩:=u9 q4 h hle;obtain⟨aT,bp⟩:=aN.le hle;exact⟨μ x',ax,x',xE,rfl,aT,bp⟩
  |_=>exact dk _ _ _ ⟨os,s,h,ap⟩
 |exit id=>exact λ_ dk h ap=>wp_exit (dk _ _ _ ⟨_,_,h,ap⟩)
 |ret=>exact λ_ dk h ap=>wp_ret (dk _ _ _ ⟨_,_,h,ap⟩)
 |label l=>exact λ_ dk h ap=>wp_label (dk _ _ _ ⟨_,_,h,ap⟩)
 |scope c aY=>
  intro K E os s a w az dk h ap;refine wp_scope_straight (aY az (λe a w jn=> ?_) h ap);obtain⟨os,s,h,ap⟩:=jn;cases e with
  |goto l=>grind
  |_=>exact dk _ _ _ ⟨os,s,h,ap⟩
 |_=>intro K E os s a w az dk h ap;exact ap.elim
theorem QC{x:Value}{d:ak}{Q:ak->Prop}(h:ch aE a8 n os s a w)(ao:bg (bi aE os) os w x d)(ap:uN s.loc d Q):∃ck,Q ck/\b8 aE w x ck:=by
 have b2:∀ (e:ak) j,e∈hb [d]->nh e=some j->j∈jl (hb [d]):=λe j aa aq=>A9 aa aq;obtain⟨ck,hK,hi⟩:=WR h ao b2 ap;exact⟨ck,hK,hi.cC (dx.ib (λb ac=>.inl ac))⟩
theorem QD(ay:dv P ag=true)(h:ch aE a8 n os s a w):∀ {l7:List ResultVar} {Q:List ak->Prop},Gg ag s l7 Q->∃vs ds,Q ds/\vs.length=l7.length/\vs.length=ds.length/\(∀ (i:Nat) v d,vs[i]?=some v->ds[i]?=some d->b8 aE w v d)/\
  (List.mapM (m:=Sem) (λr:ResultVar=>match r with
   | .tmp t=>pure (a.tmps.getD t undef)
   | .cell p t=>do loadVar t (<-asAddr (a.tmps.getD p undef))) l7).run P w= .ok vs w
 | [],Q,ap=>⟨[],[],ap,rfl,rfl,λi v d ab _=>by grind,by simp⟩
 | .tmp t::r,Q,ap=>by
  have ap:=iv.1 ap;obtain⟨d,ap,hi⟩:=QC h (h.env t) ap;obtain⟨vs,ds,hK,h1,ad,aN,bt⟩:=QD ay h ap;refine⟨a.tmps.getD t undef::vs,d::ds,hK,by grind,by grind,λi v ck ab aa=> ?_,?_⟩
  ·grind
  simp_all
 | .cell p ty::r,Q,ap=>by
  unfold Gg at ap;have an:=h.env p;split at ap
  ·rename_i i off e;rw[e]at an;obtain⟨g,eD,dG,hi,ab⟩:=an.q5;split at ap
   ·rename_i t2 cs af;rw[h.loc]at af;obtain⟨x',df⟩:=kO af (by simp);rw[hi]at df;cases df;split at ap
    ·grind
    ·rename_i ae;obtain⟨_,_,_,_,_,_,dD⟩:=xB h.cV hi;obtain⟨_,ap⟩:=rS ap;obtain⟨d,y,ap,nZ,mg⟩:=AV (P:=P) ay ae (cI:=⟨g,off,none⟩) (λj d aa=>by rw[qV]at aa;rw[Addr.pH];exact dD _ d aa) ap;obtain⟨d,ap,lq⟩:=QC h mg ap;obtain⟨vs,ds,hK,h1,ad,aN,bt⟩:=QD ay h ap;refine⟨y::vs,d::ds,hK,by grind,by grind,λi v ck ab aa=> ?_,?_⟩
     ·grind
     ·rw[FP];have aC: (asAddr (a.tmps.getD p undef)).run P w= .ok ⟨g,off,none⟩ w:=by rw[ab];rfl
      simp_all
   grind
  grind
theorem Yl(ay:dv P ag=true){fn:Func}{d:ak}(h:ch aE a8 n os s a w)(ap:VX ag fn.results.toList d s):∃v,(results fn a.tmps).run P w= .ok v w/\b8 aE w v d:=by
 obtain⟨vs,ds,hK,h1,ad,aN,bt⟩:=QD ay h ap;have et: (results fn a.tmps).run P w= .ok (if h:vs.toArray.size=1 then vs.toArray[0]else .tuple vs.toArray) w:=by
  unfold results;rw[Oe];simp only[dY,FW,dT,ey];exact e9 (λr:Result (List Value)=>(r.andThen λa w'=>Result.ok a.toArray w').andThen λa w'=>Result.ok (if h:a.size=1 then a[0]else .tuple a) w') bt
 refine⟨_,et,?_⟩;have hK: (match ds with
  | [x]=>hP x d
  |l=>hP (.bd l) d):=hK
 have many:¬vs.length=1->hP (.bd ds) d->b8 aE w (if h:vs.toArray.size=1 then vs.toArray[0]else .tuple vs.toArray) d:=by
  intro bu hK;simp only[JB,bu,dite_false];exact(b8.bd ad aN).le hK
 rcases ds with _| ⟨x,_| ⟨y,r⟩⟩
 ·grind
 ·obtain⟨v,rfl⟩:∃v,vs=[v]:=Jx.1 (by omega);simpa using(aN 0 v x rfl rfl).le hK
 grind
theorem QE:∀ (l:List ak) (b t:Nat),look (wi b l) t=if b<=t then(l[t-b]?).getD .a1 else .a1
 | [],b,t=>by simp[wi,look]
 |d::r,b,t=>by
  simp only[wi,look];split
  ·simp_all
  ·rename_i ac;have bu:b≠t:=λe=>by simp_all
   rw[QE r (b+1) t]
   grind
theorem Ym:∀ {vs:List Value} {ds:List ak},sz A w vs ds->vs.length=ds.length
 | [],[],_=>rfl
 | [],_::_,h=>h.elim
 |_::_,[],h=>h.elim
 |_::_,_::_,h=>by simp[Ym h.2]
theorem Yn:∀ {vs:List Value} {ds:List ak} {i:Nat} {v:Value} {d:ak},sz A w vs ds->vs[i]?=some v->ds[i]?=some d->b8 A w v d
 | [],_,i,v,d,_,ab,_=>by grind
 |_::_,[],i,v,d,h,_,aa=>by grind
 |x::vs,y::ds,0,v,d,h,ab,aa=>by simp at ab aa;subst ab;subst aa;exact h.1
 |x::vs,y::ds,i+1,v,d,h,ab,aa=>Yn (i:=i) h.2 (by grind) (by grind)
theorem Yo{w':World}(h:pD (λ_=>False) w w'):w.grownBy w' none:=⟨h.os,h.tape,h.output,h.size,λk hk _=>h.block k hk (λh=>h)⟩
theorem b9(aA:P.follows .mixedOrders=true)(ay:dv P ag=true)(aR: (aF ag 0).size=0){f:FuncId}{fn:Func}{c:Code}{args:List ak}{d:ak}(az:P.funcs[f]?=some fn)(Bv: (fn.name== "runtime.NumGoroutine")=false)(ac:fn.body=some c)
  (ht:pT fn.ntmps c=true) (aW:Nat.ble args.length fn.ntmps=true) (h:VY ag P c fn.results.toList args d):bl P f args d:=by
 have aW:=nz aW;refine⟨λvs w=> ?_,λA w fH al wB=> ?_⟩
 ·simp only[callFunc,dY,run_program,dT,az,Bv,ac,Option.isNone_some];rfl
 ·have hlen:=Ym wB;refine calls_of_wp az ac (Yk (aE:=A) (a8:=⟨w,λ_=>False,[]⟩) (n:=fn.ntmps) (os:=[]) (s:=⟨wi 0 args,[]⟩) aA ay aR c ht (λe a w' jn=> ?_) ?_ h)
  ·obtain⟨os,s,ao,ap⟩:=jn;cases e with
   |normal=>
    obtain⟨v,ab,hi⟩:=Yl ay ao ap;exact⟨ao.defers,v,ab,v,rfl,hi,Yo ao.hv⟩
   |ret=>
    obtain⟨v,ab,hi⟩:=Yl ay ao ap;exact⟨ao.defers,v,ab,v,rfl,hi,Yo ao.hv⟩
   |_=>grind
  ·refine⟨by grind,rfl,⟨rfl,rfl,rfl,bP _,λ_ _ _=>rfl⟩,λb ac aA=>aA.elim (λh=>by grind) (λh=>h),rfl,λt=> ?_,λi x o hi=>by grind,λi j x o y aU b hi=>by simp⟩;rw[QE,b6 (bX _),ON];cases aa:args[t]? with
   |none=>exact .bT .a1
   |some d=>
    have ax:=(eL.1 aa).1;have ab:=eP (l:=fH) (i:=t) (by omega);have hi:=Yn wB ab aa;have: (fH.toArray++Array.replicate (fn.ntmps-fH.toArray.size) undef).getD t undef=fH[t]'(by omega):=by
     rw[pA,FC (by grind)]
     grind
    simp only[qW];rw[this];refine .bT (hi.cC (dx.ib (λb ac=> ?_)));rcases ac with ac| ⟨i,x,o,hi,_⟩;all_goals grind
end
open Go
section
variable {P:Program} {ag:dH} {W:World} {H:Type} {enc:TypeId×Value->H}
def QF(g:TypeId->List ak->Prop):List (TypeId×Nat)->List ak->Prop
 | [],ds=>ds=[]
 |f::r,ds=>∃a b,ds=a++b/\g f.1 a/\QF g r b
def wO(ag:dH):Nat->TypeId->List ak->Prop
 |0,_,_=>False
 |n+1,t,ds=>match (aF ag t).k with
  | .int k=>∃i,ds=[.v (.int k i)]/\(Lit.int k i).wf=true
  | .bool=>∃b,ds=[.v (.bool b)]
  | .str=>∃s:ByteArray,ds=[.v (.string s)]/\s.size<=maxLen
  | .fc e=>∃es,ds=[.ar (aF ag e).size es false]/\es.length<=maxLen/\∀r∈es,wO ag n e r
  | .b7 fs=>QF (wO ag n) fs ds
  |_=>False
def Bw(ag:dH)(g:TypeId->Bool):List (TypeId×Nat)->Nat->Nat->Bool
 | [],off,total=>Nat.beq off total
 |f::r,off,total=>Nat.beq f.2 off&&g f.1&&Nat.blt 0 (aF ag f.1).size&&Bw ag g r (off+(aF ag f.1).size) total
def sQ(ag:dH):Nat->TypeId->Bool
 |0,_=>false
 |n+1,t=>match (aF ag t).k with
  | .int _| .bool| .str=>Nat.beq (aF ag t).size 1
  | .fc e=>Nat.beq (aF ag t).size 1&&Nat.blt 0 (aF ag e).size&&sQ ag n e
  | .b7 fs=>Nat.blt 0 (aF ag t).size&&Bw ag (sQ ag n) fs 0 (aF ag t).size
  |_=>false
abbrev Bx:Nat->Prop:=λ_=>False
theorem QG(ay:dv P ag=true){t:TypeId}(ae: (aF ag t).size≠0):P.cellsOf t=(aF ag t).size:=by
 obtain⟨i,hi,h1,_⟩:=rT ay ae;simp[Program.cellsOf,hi,h1]
structure wP(W:World)(cs:List Value)(ds:List ak):Prop where
 len:cs.length=ds.length
 eg:∀v∈cs,v.oneCell'=true
 bT:∀ (i:Nat) v d,cs[i]?=some v->ds[i]?=some d->b8 Bx W v d
theorem wP.Hd{v:Value}{d:ak}(h1:v.oneCell'=true)(h:b8 Bx W v d):wP W [v] [d]:=
 ⟨rfl,λu hu=>by grind,λi u e hu he=>by
  grind⟩
theorem wP.append{cs dG:List Value}{ds iw:List ak}(h:wP W cs ds)(bp:wP W dG iw):wP W (cs++dG) (ds++iw):=
 ⟨by simp[h.len,bp.len],λv ab=>by rcases eo.1 ab with ab|ab;exact h.eg v ab;exact bp.eg v ab,λi v d ab aa=>by
  by_cases hi:i<cs.length
  ·rw[so hi]at ab;rw[so (by rw[<-h.len];exact hi)]at aa;exact h.bT i v d ab aa
  ·rw[xe (by omega)]at ab;rw[xe (by rw[<-h.len];omega),<-h.len]at aa;exact bp.bT _ v d ab aa⟩
theorem ahY{a:Addr}{v:Value}(h:W.cell? a=some v):a.block<W.heap.size:=by
 unfold World.cell? at h
 grind
theorem ahZ{base:Nat}{a:Addr}{n:Nat}{cs:List Value}(h:W.cells? base a n=some cs):cs.length=n/\∀ (j:Nat) v,cs[j]?=some v->W.cell? (a.add j)=some v:=by
 unfold World.cells? at h;split at h
 ·have af:=mapM_some_length h;rw[List.length_range]at af;refine⟨af,λj v ab=> ?_⟩;have aq:=(eL.1 ab).1;have:=mapM_some_get h j j (by grind)
  grind
 grind
theorem Yp{g:TypeId->List ak->Prop}{gs:TypeId->Bool}{cs:List Value}{total:Nat}(hlen:cs.length=total):
  ∀ (fs:List (TypeId×Nat)) (off:Nat),(∀f∈fs,gs f.1=true->∃ds,g f.1 ds/\ds.length=(aF ag f.1).size/\wP W ((cs.drop f.2).take (aF ag f.1).size) ds)->Bw ag gs fs off total=true->off<=total->
   ∃ds,QF g fs ds/\ds.length=total-off/\wP W (cs.drop off) ds
 | [],off,_,h,ah0=>by
  have:=fz h;subst this;refine⟨[],rfl,(AA _).symm,?_⟩;rw[Jt (by omega)];exact⟨rfl,by simp,by simp⟩
 |f::r,off,az,h,ah0=>by
  simp only[Bw,cq]at h;obtain⟨⟨⟨h1,ad⟩,aN⟩,bt⟩:=h;have h1:=fz h1;obtain⟨ds,aa,na,aj⟩:=az f (by simp) ad;have hle:off+(aF ag f.1).size<=total:=by
   have:=aj.len
   grind
  obtain⟨iw,y2,avl,pK⟩:=Yp hlen r (off+(aF ag f.1).size) (λlJ Wo=>az lJ (by grind)) bt hle;refine⟨ds++iw,⟨ds,iw,rfl,aa,y2⟩,by grind,?_⟩;have:cs.drop off=(cs.drop off).take (aF ag f.1).size++cs.drop (off+(aF ag f.1).size):=by
   rw[<-vX,Aw]
  rw[this];rw[h1]at aj;exact aj.append pK
theorem QH(ay:dv P ag=true){He:Nat->Bool}{base:Nat}{held:Bool}:∀ (n:Nat) (t:TypeId) (m:Nat) (cs:List Value) (x:DataW H×List MemPlace),DataW.trod enc P W base He held m t cs=some x->sQ ag n t=true->
  ∃ds,wO ag n t ds/\ds.length=(aF ag t).size/\wP W cs ds
 |0,t,m,cs,x,_,ae=>by simp[sQ]at ae
 |n+1,t,m,cs,x,h,ae=>by
  unfold sQ at ae;unfold wO;split at ae
  ·rename_i k hk;have bx:=fz ae;have hu:=AU ay hk;cases m with
   |zero=>simp[DataW.trod]at h
   |succ m=>
    have key:∃i,cs=[.int k i]/\(Lit.int k i).wf=true:=by
     unfold DataW.trod at h
     grind
    obtain⟨i,rfl,hw⟩:=key;exact⟨_,⟨i,rfl,hw⟩,by grind,.Hd rfl (.v rfl)⟩
  ·rename_i hk;have bx:=fz ae;have hu:=Kc ay hk;cases m with
   |zero=>simp[DataW.trod]at h
   |succ m=>
    have key:∃b,cs=[.bool b]:=by
     unfold DataW.trod at h
     grind
    obtain⟨b,rfl⟩:=key;exact⟨_,⟨b,rfl⟩,by grind,.Hd rfl (.v rfl)⟩
  ·rename_i hk;have bx:=fz ae;have hu:=wm ay hk;cases m with
   |zero=>simp[DataW.trod]at h
   |succ m=>
    have key:∃s:ByteArray,cs=[.string s]/\s.size<=maxLen:=by
     unfold DataW.trod at h
     grind
    obtain⟨s,rfl,hw⟩:=key;exact⟨_,⟨s,rfl,hw⟩,by grind,.Hd rfl (.v rfl)⟩
  ·rename_i e hk;simp only[cq]at ae;obtain⟨⟨bx,he⟩,xD⟩:=ae;have bx:=fz bx;have he:0<(aF ag e).size:=nz he;have hu:=lL ay hk;have ah1:=QG ay (t:=e) (by omega);rcases Go.Deep.open_slice hu h with⟨rfl,_⟩| ⟨a,len,cap,ah2,Ka,D,avm,rfl,ac,af,aA,Yq,_,pN⟩
   ·exact⟨_,⟨[],rfl,by simp,by simp⟩,by grind,.Hd rfl .nil⟩
   ·have qA:len<=ah2:=by grind
    rw[ah1]at pN;obtain⟨es,ah3,tM⟩:=Kk (Q:=λi r=>∃dG,W.cells? base (a.add (i* (aF ag e).size)) (aF ag e).size=some dG/\wO ag n e r/\r.length=(aF ag e).size/\wP W dG r) len (λi hi=>by
     obtain⟨dG,h1,ad⟩:=pN i (by omega);obtain⟨ds,aN,bt,b5⟩:=QH ay n e Ka dG _ ad xD
     grind)
    have dD:∀ (i j:Nat) r d,es[i]?=some r->r[j]?=some d->∃v,W.cell? (a.add (i* (aF ag e).size+j))=some v/\v.oneCell'=true/\b8 Bx W v d:=by
     intro i j r d hi aq;obtain⟨dG,h1,aN,bt,b5⟩:=tM i r hi;have gT:=(eL.1 aq).1;have ab:=eP (l:=dG) (i:=j) (by rw[b5.len];omega);refine⟨dG[j]'(by grind),?_,b5.eg _ (eM _),b5.bT j _ d ab aq⟩;rw[<-Addr.J9];exact(ahZ h1).2 j _ ab
    refine⟨_,⟨es,rfl,by omega,λr ao=> ?_⟩,by grind,.Hd rfl (.ar (λi j=>match W.cell? (a.add (i* (aF ag e).size+j))with
     |some v=>if v.oneCell' then v else .nilFunc
     |none=>.nilFunc) ah3 af aA (by simp) (λr ao=> ?_) (λ_ h=>h) (λbu=> ?_) (λi j=> ?_) (λi j r d hi aq=> ?_) (λi j r d hi aq=> ?_))⟩
    ·obtain⟨i,hi,rfl⟩:=e8 ao;obtain⟨_,_,aN,_⟩:=tM i _ (eP hi);exact aN
    ·obtain⟨i,hi,rfl⟩:=e8 ao;obtain⟨_,_,_,aN,_⟩:=tM i _ (eP hi);exact aN
    ·cases avn:es with
     |nil=>grind
     |cons r avo=>
      have aR:es[0]?=some r:=by grind
      obtain⟨_,_,_,aN,_⟩:=tM 0 r aR;obtain⟨v,ab,_⟩:=dD 0 0 r _ aR (eP (by omega));have:=ahY ab;rwa[Addr.yS]at this
    ·split
     ·split
      ·omega
      ·rfl
     ·rfl
    all_goals grind
  ·rename_i fs hk;simp only[cq]at ae;have bx:0<(aF ag t).size:=nz ae.1;obtain⟨F,hu,ec,_⟩:=Gm ay hk;obtain⟨xs,ei,rfl,rfl,hlen,qt,rX⟩:=DataW.trod_struct hu h;rw[QG ay (by omega)]at hlen;have key:∀ (F:List Field) (fs:List (TypeId×Nat)),o1 F fs=true->∀f∈fs,∃ (i:Nat) (lJ:Field),F[i]?=some lJ/\lJ.type=f.1/\lJ.offset=f.2:=by
    intro F;induction F with
    |nil=>
     intro fs ec f az;cases fs with
     |nil=>grind
     |cons _ _=>simp[o1]at ec
    |cons f0 F aY=>
     intro fs ec f az;cases fs with
     |nil=>grind
     |cons g r=>
      simp only[o1,cq]at ec;rcases ny.1 az with rfl|az
      ·exact⟨0,f0,rfl,fz ec.1.1.1,fz ec.1.1.2⟩
      ·obtain⟨i,lJ,h1,ad⟩:=aY r ec.2 f az;exact⟨i+1,lJ,by grind,ad⟩
   obtain⟨ds,h1,ad,aN⟩:=Yp (W:=W) (g:=wO ag n) (gs:=λt=>sQ ag n t&&Nat.blt 0 (aF ag t).size) hlen fs 0 (λf az aw=>by
    simp only[cq]at aw;have Yr:0<(aF ag f.1).size:=nz aw.2;obtain⟨i,lJ,aC,aG,bc⟩:=key _ _ ec f az;have:=rX i lJ (by grind);rw[aG,bc,QG ay (by omega)]at this;have eI:i<xs.length:=by grind
    rw[eP eI]at this;exact QH ay n f.1 ei _ _ this aw.1) (by
     have gen:∀ (fs:List (TypeId×Nat)) (off:Nat),Bw ag (sQ ag n) fs off (aF ag t).size=true->Bw ag (λt=>sQ ag n t&&Nat.blt 0 (aF ag t).size) fs off (aF ag t).size=true:=by
      intro fs;induction fs with
      |nil=>exact λ_ h=>h
      |cons f r aY=>
       intro off h;simp only[Bw,cq]at h⊢
       grind
     grind) (bX _)
   grind
  grind
def Hf(ag:dH)(t:TypeId)(ds:List ak):ak:=
 match (aF ag t).agg with
 |true=>.agg ds
 |false=>ds.headD .a1
def Lk(ag:dH)(n:Nat):List TypeId->List ak->Prop
 | [],ds=>ds=[]
 |t::r,ds=>∃a b,ds=Hf ag t a::b/\wO ag n t a/\Lk ag n r b
theorem ah4(ay:dv P ag=true){He:Nat->Bool}{base cZ:Nat}{held:Bool}{n:Nat}{t:TypeId}{v:Value}{d:DataW H}{a6:List MemPlace}(ab:Value.okWide P W .any cZ t v)(h:DataW.Trod enc P W base He held t v d a6)(ae:sQ ag n t=true):
  ∃ds,wO ag n t ds/\b8 Bx W v (Hf ag t ds):=by
 obtain⟨m,h⟩:=h;obtain⟨ds,h1,ad,aN⟩:=QH ay n t m _ _ h ae;refine⟨ds,h1,?_⟩;have eg:v.cells= #[v]->v.oneCell'=true->(aF ag t).agg=false->(aF ag t).size=1->b8 Bx W v (Hf ag t ds):=by
  intro aj aH bb bx;rw[aj]at aN;rw[bx]at ad;obtain⟨d,rfl⟩:=Jx.1 ad;unfold Hf;rw[bb];exact aN.bT 0 v d rfl rfl
 cases n with
 |zero=>simp[sQ]at ae
 |succ n=>
  have Ll:∀ {D:TypeDesc},P.underlying t=some D->((aF ag t).size≠0\/(aF ag t).k≠ .gu)->(aF ag t).agg=DG D:=by
   intro D rY bC;obtain⟨QI,avp,_,bb⟩:=(qn ay bC).kind
   grind
  unfold sQ at ae;split at ae
  ·rename_i k hk;have hu:=AU ay hk;simp only[Value.okWide,hu,Cell.okWide]at ab;cases v<;>first|exact eg rfl rfl (Ll hu (.inr (by rw[hk];simp))) (fz ae)| (simp[Cell.ok,hu]at ab)
  ·rename_i hk;have hu:=Kc ay hk;simp only[Value.okWide,hu,Cell.okWide]at ab;cases v<;>first|exact eg rfl rfl (Ll hu (.inr (by rw[hk];simp))) (fz ae)| (simp[Cell.ok,hu]at ab)
  ·rename_i hk;have hu:=wm ay hk;simp only[Value.okWide,hu,Cell.okWide]at ab;cases v<;>first|exact eg rfl rfl (Ll hu (.inr (by rw[hk];simp))) (fz ae)| (simp[Cell.ok,hu]at ab)
  ·rename_i e hk;have hu:=lL ay hk;simp only[cq]at ae;obtain⟨_,_,_,rfl⟩:=Go.WideShapes.okWide_slice hu ab;exact eg rfl rfl (Ll hu (.inr (by grind))) (fz ae.1.1)
  ·rename_i fs hk;obtain⟨F,hu,_,bb⟩:=Gm ay hk;simp only[Value.okWide,hu]at ab;obtain⟨cs,rfl,_⟩:=ab;unfold Hf;rw[bb];obtain⟨l,rfl⟩:∃l:List Value,cs=l.toArray:=⟨cs.toList,by simp⟩
   exact .agg (by simpa[Value.cells]using aN.len) (λv ab=>aN.eg v (by simpa[Value.cells]using ab)) (λi v d ab aa=>aN.bT i v d (by simpa[Value.cells]using ab) aa)
  grind
theorem Ys(ay:dv P ag=true){He:Nat->Bool}{base cZ:Nat}{held:Bool}{n:Nat}:∀ {o2:List TypeId} {vs:List Value} {ds:List (DataW H)} {a6:List MemPlace},(∀ (j:Nat) t v,o2[j]?=some t->vs[j]?=some v->Value.okWide P W .any cZ t v)->
  DataW.TrodAll enc P W base He held o2 vs ds a6->o2.all (sQ ag n)=true->∃wQ,Lk ag n o2 wQ/\sz Bx W vs wQ/\ds.length=o2.length
 | [],[],[],a6,_,_,_=>⟨[],rfl,ai,rfl⟩
 |t::o2,v::vs,d::ds,a6,ab,h,ae=>by
  obtain⟨p,q,h1,ad,_⟩:=h;simp only[FI,cq]at ae;obtain⟨a,cU,dh⟩:=ah4 ay (ab 0 t v rfl rfl) h1 ae.1;obtain⟨b,hR,hL,nk⟩:=Ys ay (λj t v h1 ad=>ab (j+1) t v (by grind) (by grind)) ad ae.2;exact⟨_,⟨a,b,rfl,cU,hR⟩,⟨dh,hL⟩,by grind⟩
 | [],[],_::_,a6,_,h,_=>h.elim
 | [],_::_,_,a6,_,h,_=>h.elim
 |_::_,[],_,a6,_,h,_=>h.elim
 |_::_,_::_,[],a6,_,h,_=>h.elim
theorem Yt(af:laidOutB P=true){Ec:World}(ac:Go.RowKit.Below W.heap.size W Ec):∀ {o2:List TypeId} {vs:List Value} {ds:List (DataW H)} {a6:List MemPlace},o2.all (λt=>P.readableRec t&&decide (t<P.types.size))=true->(∀x∈a6,x.block<W.heap.size)->
  DataW.TrodAll enc P W 0 (λ_=>true) true o2 vs ds a6->DataW.TrodAll enc P Ec 0 (λb=>decide (b<W.heap.size)) true o2 vs ds a6
 | [],[],[],a6,_,_,h=>h
 |t::o2,v::vs,d::ds,a6,ao,ax,h=>by
  obtain⟨p,q,h1,ad,rfl⟩:=h;simp only[FI,cq,fr]at ao;exact⟨p,q,Go.RowKit.Below.trod af ao.1.1 ao.1.2 h1 ac (λx ah=>ax x (by grind)),Yt af ac ao.2 (λx ah=>ax x (by grind)) ad,rfl⟩
 | [],[],_::_,a6,_,_,h=>h.elim
 | [],_::_,_,a6,_,_,h=>h.elim
 |_::_,[],_,a6,_,_,h=>h.elim
 |_::_,_::_,[],a6,_,_,h=>h.elim
theorem ah5(ay:dv P ag=true){f:FuncId}{fn:Func}{s:ChangeSpec}{base n:Nat}{t:TypeId}{args:Array Value}{ds gs:List (DataW H)}{before:List MemPlace}
  (ve:∀ (j:Nat) t v,fn.params[j]?=some t->args[j]?=some v->Value.okWide P W .any base t v) (dI:DataW.Whole enc P fn.params.toList s.vars false W args.toList ds gs before)
  (Yu:s.vars=[]) (ah6:∀ds:List (DataW H),ds.length=fn.params.size->s.fn H ds= {results:=[.lit (.bool true)],args:=ds,vars:=[]}) (tP:fn.resultTypes= #[t]) (ah7:P.underlying t=some .bool)
  (ae:fn.params.toList.all (sQ ag n)=true) (af:laidOutB P=true) (ao:fn.params.toList.all (λt=>P.readableRec t&&decide (t<P.types.size))=true)
  (jm:∀wQ,Lk ag n fn.params.toList wQ->bl P f wQ (.v (.bool true))):
  Calls P f args W λe Ec=>∃v,e= .returned v/\s.post enc P fn false true false false W args v Ec:=by
 obtain⟨p,q,al,ed,rfl,Yr,gV⟩:=dI;rw[Yu]at ed;obtain⟨wQ,h1,ad,aN⟩:=Ys ay (λj t v h1 ad=>ve j t v (by grind) (by grind)) al ae;have wF:=(jm wQ h1).2 Bx W args.toList (λ_ h=>h.elim) ad;refine wF.mono λe Ec ⟨v,he,hi,aw⟩=>⟨v,he,?_⟩;have ab:=hi.j1;subst ab;obtain⟨rfl,rfl⟩:gs=[]/\q=[]:=by
  cases gs with
  |nil=>exact⟨rfl,ed⟩
  |cons _ _=>exact ed.elim
 have ac:Go.RowKit.Below W.heap.size W Ec:=⟨aw.os,aw.tape,aw.output,aw.size,λk hk=>aw.block k hk (by simp)⟩
 have ax:∀x∈p,x.block<W.heap.size:=al.lt;have az:=ah6 ds (by omega);refine⟨ds,[],p++ [],[],p,[],⟨p,[],al,by grind,rfl,Yr,gV⟩,?_,?_,?_,ac.frame _,λh=>by cases h⟩
 ·rw[jM,az,tP];refine⟨[],[],⟨1,?_⟩,rfl,rfl⟩;simp[Value.cells,DataW.trod,ah7]
 ·rw[jM,az];exact Yt af ac ao ax al
 ·rw[jM,az,Yu];rfl
end
open Go
variable{i:Nat}
theorem c3{α:Type}{l:List α}{f:α->List ak}(h:i<l.length): (l.map f)[i]?=some (f (l[i]'h)):=by simp[h]
theorem aX{k:IntKind}{a b:Int}(h:a=b):hP (.v (.int k a)) (.v (.int k b)):=by subst h;exact .refl
variable{aB:Nat}
theorem ig{f:Bool}{es fG:List (List ak)}(h:es=fG):hP (.ar aB es f) (.ar aB fG f):=by subst h;exact .refl
theorem xU:∀ {l cO:List ak},mZ l cO->l.length=cO.length/\∀ (i:Nat) c d,l[i]?=some c->cO[i]?=some d->hP c d
 | [],[],_=>⟨rfl,λi c d h _=>by grind⟩
 | [],_::_,h=>h.elim
 |_::_,[],h=>h.elim
 |x::l,y::cO,h=>by
  obtain⟨h1,ad⟩:=xU h.2;refine⟨by grind,λi c d aj aa=> ?_⟩;cases i with
  |zero=>
   simp only[C1,v8]at aj aa;subst aj;subst aa;exact h.1
  |succ i=>grind
variable{cs ds:List ak}
theorem h6(h:mZ cs ds):hP (.agg cs) (.agg ds):=.agg (xU h).1 (xU h).2
theorem eO(h:mZ cs ds):hP (.bd cs) (.bd ds):=.bd (xU h).1 (xU h).2
theorem fY{a b:Bool}(h:a=b):hP (.v (.bool a)) (.v (.bool b)):=by subst h;exact .refl
theorem Yv{α:Type}{f:α->List ak}{Q:α->Prop}:∀ {es:List (List ak)},(∀r∈es,∃x,r=f x/\Q x)->∃l:List α,es=l.map f/\∀x∈l,Q x
 | [],_=>⟨[],rfl,by simp⟩
 |r::es,h=>by
  obtain⟨x,rfl,ah⟩:=h r (by simp);obtain⟨l,rfl,af⟩:=Yv (es:=es) (λr ao=>h r (by grind));exact⟨x::l,rfl,by grind⟩
theorem dW{n:Int}(h1: -9223372036854775808<=n)(ad:n<=9223372036854775807):IntKind.i64.wrap n=n:=by
 simp[IntKind.wrap,IntKind.signed,IntKind.bits];omega
theorem bW(h:i<9223372036854775807):IntKind.i64.wrap ((i:Int)+1)=((i+1:Nat):Int):=by
 rw[dW (by omega) (by omega)];rfl
variable{b:Bool}
theorem fZ{x y:Prop}(h:b=true)(ah:x):AO b x y:=by subst h;exact ah
theorem e3{x y:Prop}(h:b=false)(bn:y):AO b x y:=by subst h;exact bn
def lx(p:Nat->Bool)(n:Nat):Int:=match (List.range n).find? p with
 |some i=>(i:Nat)
 |none=> -1
variable{p:Nat->Bool}{n:Nat}
theorem wR{i:Nat}(hi:i<n)(an:p i=true)(ct:∀j,j<i->p j=false):lx p n=i:=by
 have: (List.range n).find? p=some i:=by
  simp_all
 simp[lx,this]
theorem tQ(ct:∀j,j<n->p j=false):lx p n= -1:=by
 have: (List.range n).find? p=none:=by
  grind
 simp[lx,this]
def ih(p:Nat->Bool)(n:Nat):Bool:=(List.range n).all p
theorem ij:ih p n=true↔∀j,j<n->p j=true:=by simp[ih]
theorem sR{i:Nat}(hi:i<n)(an:p i=false):ih p n=false:=by
 cases h:ih p n with
 |false=>rfl
 |true=>rw[ij]at h;grind
open Go
section
variable {P:Program} {ag:dH} {aE:Nat->Prop} {a8:e5} {n:Nat} {os:c2} {s:bK} {a:Act} {w:World} {A:Nat->Prop}
theorem Yw:∀ {vs:List Value} {ds:List ak},xr A os w vs ds->vs.length=ds.length/\∀ (i:Nat) v d,vs[i]?=some v->ds[i]?=some d->bg A os w v d
 | [],[],_=>⟨rfl,by simp⟩
 | [],_::_,h=>h.elim
 |_::_,[],h=>h.elim
 |v::vs,d::ds,h=>by
  obtain⟨h1,ad⟩:=Yw h.2;refine⟨by simp[h1],λi v' ck ab aa=> ?_⟩;cases i with
  |zero=>simp at ab aa;subst ab;subst aa;exact h.1
  |succ i=>exact ad i v' ck (by simpa using ab) (by simpa using aa)
theorem Yx{x:Value}{d:ak}(h:bg A os w x d)(an:pB (dc d)=true):b8 A w x d:=by
 have aA:=A0 an;by_cases aa:∃cs,d= .agg cs
 ·obtain⟨cs,rfl⟩:=aa;obtain⟨vs,rfl,af,br,QJ⟩:=h.xx;exact .agg af br (λi v d ab aa=>((QJ i v d ab aa).plain (aA d (fo aa))).2)
 ·have:dc d=[d]:=by cases d<;>first|rfl|exact absurd ⟨_,rfl⟩ aa
  exact(h.plain (aA d (by rw[this];simp))).2
theorem QK(ay:dv P ag=true)(h:ch aE a8 n os s a w):∀ {l7:List ResultVar} {Q:List ak->Prop},DB ag s l7 Q->∃vs ds,Q ds/\vs.length=l7.length/\vs.length=ds.length/\(∀ (i:Nat) v d,vs[i]?=some v->ds[i]?=some d->(mX d=true\/b8 (bi aE os) w v d)/\bg (bi aE os) os w v d)/\
  (List.mapM (m:=Sem) (λr:ResultVar=>match r with
   | .tmp t=>pure (a.tmps.getD t undef)
   | .cell p t=>do loadVar t (<-asAddr (a.tmps.getD p undef))) l7).run P w= .ok vs w
 | [],Q,ap=>⟨[],[],ap,rfl,rfl,λi v d ab _=>by simp at ab,by simp⟩
 | .tmp t::r,Q,ap=>by
  have ap:=iv.1 ap;split at ap
  ·rename_i ez;have hi: (mX (look s.env t)=true\/b8 (bi aE os) w (a.tmps.getD t undef) (look s.env t))/\bg (bi aE os) os w (a.tmps.getD t undef) (look s.env t):=by
    refine⟨?_,h.env t⟩;cases aH:mX (look s.env t)
    ·rw[aH,CX]at ez;exact .inr (Yx (h.env t) ez)
    ·exact .inl rfl
   obtain⟨vs,ds,hK,h1,ad,aN,bt⟩:=QK ay h ap;refine⟨a.tmps.getD t undef::vs,_::ds,hK,by simp[h1],by simp[ad],λi v ck ab aa=> ?_,?_⟩
   ·cases i with
    |zero=>
     simp only[C1,v8]at ab aa;subst ab aa;exact hi
    |succ i=>exact aN i v ck (by simpa using ab) (by simpa using aa)
   ·rw[FP];simp only[dY,ey,dT,bt]
  ·exact ap.elim
 | .cell p ty::r,Q,ap=>by
  unfold DB at ap;have an:=h.env p;split at ap
  ·rename_i i off e;rw[e]at an;obtain⟨g,eD,dG,hi,ab⟩:=an.q5;split at ap
   ·rename_i t2 cs af;rw[h.loc]at af;obtain⟨x',df⟩:=kO af (by simp);rw[hi]at df;cases df;split at ap
    ·exact ap.elim
    ·rename_i ae;obtain⟨_,_,_,_,_,_,dD⟩:=xB h.cV hi;obtain⟨_,ap⟩:=rS ap;obtain⟨d,y,ap,nZ,mg⟩:=AV (P:=P) ay ae (cI:=⟨g,off,none⟩) (λj d aa=>by rw[qV]at aa;rw[Addr.pH];exact dD _ d aa) ap;split at ap
     ·rename_i ez;have lq:=Yx mg ez;obtain⟨vs,ds,hK,h1,ad,aN,bt⟩:=QK ay h ap;refine⟨y::vs,d::ds,hK,by simp[h1],by simp[ad],λi v ck ab aa=> ?_,?_⟩
      ·cases i with
       |zero=>
        simp only[C1,v8]at ab aa;subst ab aa;exact⟨.inr lq,.bT lq⟩
       |succ i=>exact aN i v ck (by simpa using ab) (by simpa using aa)
      ·rw[FP];have aC: (asAddr (a.tmps.getD p undef)).run P w= .ok ⟨g,off,none⟩ w:=by rw[ab];rfl
       simp only[dY,ey,dT,aC,nZ,bt]
     ·exact ap.elim
   ·exact ap.elim
  ·exact ap.elim
theorem ah8(ay:dv P ag=true){fn:Func}{Q:ak->Prop}(h:ch aE a8 n os s a w)(ap:Pk ag s fn.results.toList Q):∃v d,Q d/\(results fn a.tmps).run P w= .ok v w/\bg (bi aE os) os w v d:=by
 have nc:∀ {vs:List Value},(List.mapM (m:=Sem) (λr:ResultVar=>match r with
   | .tmp t=>pure (a.tmps.getD t undef)
   | .cell p t=>do loadVar t (<-asAddr (a.tmps.getD p undef))) fn.results.toList).run P w= .ok vs w->(results fn a.tmps).run P w= .ok (if h:vs.toArray.size=1 then vs.toArray[0]else .tuple vs.toArray) w:=by
  intro vs bt;unfold results;rw[Oe];simp only[dY,FW,dT,ey];exact e9 (λr:Result (List Value)=>(r.andThen λa w'=>Result.ok a.toArray w').andThen λa w'=>Result.ok (if h:a.size=1 then a[0]else .tuple a) w') bt
 have many:DB ag s fn.results.toList (λl=>Q (.bd l))->fn.results.toList.length≠1->∃v d,Q d/\(results fn a.tmps).run P w= .ok v w/\bg (bi aE os) os w v d:=by
  intro ap bu;obtain⟨vs,ds,hK,h1,ad,aN,bt⟩:=QK ay h ap;refine⟨_,_,hK,nc bt,?_⟩;have:¬(vs.toArray.size=1):=by simp;omega
  rw[dif_neg this];exact .bd ad (λi v d ab aa=>(aN i v d ab aa).1) (λi v d ab aa=>(aN i v d ab aa).2)
 unfold Pk at ap;split at ap
 ·rename_i t e;have ap:=iv.1 ap;refine⟨_,_,ap,nc (vs:=[a.tmps.getD t undef]) (by rw[e];simp),?_⟩;simpa using h.env t
 ·rename_i p ty e;have an:=h.env p;split at ap
  ·rename_i i off aG;rw[aG]at an;obtain⟨g,eD,dG,hi,ab⟩:=an.q5;split at ap
   ·rename_i t2 cs af;rw[h.loc]at af;obtain⟨x',df⟩:=kO af (by simp);rw[hi]at df;cases df;split at ap
    ·exact ap.elim
    ·rename_i ae;obtain⟨_,_,_,_,_,_,dD⟩:=xB h.cV hi;obtain⟨_,ap⟩:=rS ap;obtain⟨d,y,ap,nZ,mg⟩:=AV (P:=P) ay ae (cI:=⟨g,off,none⟩) (λj d aa=>by rw[qV]at aa;rw[Addr.pH];exact dD _ d aa) ap;refine⟨y,d,ap,?_,mg⟩;have:=nc (vs:=[y]) (by
      rw[e];have aC: (asAddr (a.tmps.getD p undef)).run P w= .ok ⟨g,off,none⟩ w:=by rw[ab];rfl
      simp only[FP,List.mapM_nil,dY,ey,dT,aC,nZ])
     simpa using this
   ·exact ap.elim
  ·exact ap.elim
 ·rename_i h1 ad;refine many ap (λaf=> ?_);cases ao:fn.results.toList with
  |nil=>rw[ao]at af;simp at af
  |cons r l7=>
   cases l7 with
   |nil=>cases r with
    |tmp t=>exact h1 t ao
    |cell p t=>exact ad p t ao
   |cons dL l7=>rw[ao]at af;simp at af
theorem Yy:∀ (L:List aZ) (k:Nat),(wj k L).length=L.length
 | [],k=>rfl
 |o::r,k=>by rw[wj,lI,Yy r];rfl
theorem Yz:∀ (L:List aZ) (b i:Nat) (d:ak),(wj b L)[i]?=some d->∃o,L[i]?=some o/\d=na (b+i) o
 | [],b,i,d,h=>by simp[wj]at h
 |o::r,b,0,d,h=>by simp[wj]at h;exact⟨o,rfl,by simpa using h.symm⟩
 |o::r,b,i+1,d,h=>by
  rw[wj]at h;obtain⟨aU,h1,ad⟩:=Yz r (b+1) i d (by simpa using h);exact⟨aU,by simpa using h1,by rw[ad,JD,OH 1 i]⟩
theorem YA:∀ (c7:List Bool) (bL:List aZ) (b i:Nat) (o:aZ),c7[i]?=some true->bL[i]?=some o->(AT b c7 bL)[i]?=some (na (b+i) o)
 | [],bL,b,i,o,h,_=>by simp at h
 |k::c7,[],b,i,o,_,h=>by simp at h
 |k::c7,dw::bL,b,0,o,h1,ad=>by
  simp at h1 ad;subst h1;subst ad;rfl
 |k::c7,dw::bL,b,i+1,o,h1,ad=>by
  have:=YA c7 bL (b+1) i o (by simpa using h1) (by simpa using ad);cases k<;> ·rw[AT];simpa[JD,OH 1 i]using this
def jC(p:Value×aZ):Value:=
 match p.2 with
 | .row .. =>p.1
 | .cells .. =>p.1
 |_=>.nilFunc
theorem QL:∀ {m:Nat} {l:List aZ} {o:aZ},Gh m l=true->l[m]?=some o->o= .bm
 |m,[],o,_,h=>by simp at h
 |0,x::r,o,aa,h=>by
  simp at h;subst h;cases x<;>simp[Gh]at aa
  rfl
 |m+1,x::r,o,aa,h=>QL (m:=m) (l:=r) (by simpa[Gh]using aa) (by simpa using h)
theorem lK.yQ{B DO:e5}{x:Value}{o:aZ}(h:lK A os B w x o)(aw:∀ds,o≠ .cD ds)(aA:∀b,o≠ .bm->bJ x=some b->DO.mine b):lK A os DO w x o:=by
 cases o with
 |bm=>exact trivial
 |gone=>exact h
 |cD ds=>exact absurd rfl (aw ds)
 |cells t cs=>
  obtain⟨g,arr,rfl,cr,rest⟩:=h;exact⟨g,arr,rfl,aA g (by simp) rfl,rest⟩
 |row e aB es=>exact⟨λb ac=>aA b (by simp) ac,h.2⟩
theorem ah9{f:FuncId}{args:List ak}{bL:List aZ}{d ck:ak}(h:cm P f [] args [] bL d)(af:uN bL d (λx=>hP x ck)):bl P f args ck:=by
 refine⟨h.1,λA w fH al wB=> ?_⟩;have sK:uO A [] [] w:=⟨rfl,λi x o hi=>by simp at hi,λi j x o y aU b hi=>by simp at hi,λb _ ⟨i,x,o,hi,_⟩=>by simp at hi⟩
 have ct:xr (bi A []) [] w fH args:=by
  have gen:∀ (vs:List Value) (ds:List ak),sz A w vs ds->xr (bi A []) [] w vs ds:=by
   intro vs;induction vs with
   |nil=>intro ds h;cases ds<;>first|trivial|exact h.elim
   |cons v vs aY=>
    intro ds h;cases ds with
    |nil=>exact h.elim
    |cons d ds=>exact⟨.bT (h.1.cC (dx.ib (λb ac=>by
      rcases ac with ac| ⟨i,x,o,hi,_⟩
      ·exact ac
      ·simp at hi))),aY ds h.2⟩
  exact gen _ _ wB
 refine(h.2 A w [] fH al sK ct).mono λe w' he=> ?_;obtain⟨v,aT,rfl,y9,u5,oy,hblk,_⟩:=he;have j6:∀b,¬hn [] b:=λb ⟨i,x,o,hi,_⟩=>by simp at hi
 have pM:∀b,hn aT b->w.heap.size<=b:=λb ac=>(hblk b ac).resolve_left (j6 b);have aia:w.grownBy w' none:=⟨oy.os,oy.tape,oy.output,oy.size,λk hk _=>oy.block k hk (j6 k)⟩
 have kP:ch A ⟨w,λ_=>False,[]⟩ 0 aT ⟨[],bL⟩ {tmps:= #[],defers:=[]} w':=by
  refine⟨rfl,rfl,⟨oy.os,oy.tape,oy.output,oy.size,λk hk _=>oy.block k hk (j6 k)⟩,λb ac aA=> ?_,y9.loc.symm,λt=>.bT .a1,λi x o hi=> ?_,y9.inj⟩
  ·rcases aA with aA|aA
   ·have h1:=al b ac;have aA:w.heap.size<=b:=aA;omega
   ·exact aA
  ·have fI:=y9.cV i x o hi;cases o with
   |bm=>exact trivial
   |gone=>exact fI
   |cD ds=>exact fI
   |cells t cs=>
    obtain⟨g,arr,rfl,cr,rest⟩:=fI;exact⟨g,arr,rfl,.inl (pM g ⟨i,_,_,hi,by simp,rfl⟩),rest⟩
   |row e aB es=>exact⟨λb ac=>.inl (pM b ⟨i,_,_,hi,by simp,ac⟩),fI.2⟩
 obtain⟨x,ah,lq⟩:=QC (s:=⟨[],bL⟩) kP u5 af;exact⟨v,rfl,lq.le ah,aia⟩
theorem YB(aA:P.follows .mixedOrders=true)(ay:dv P ag=true)(aR: (aF ag 0).size=0){f:FuncId}{fn:Func}{c:Code}{L bL:List aZ}{args:List ak}{kept:List Bool}{d:ak}(az:P.funcs[f]?=some fn)(Bv: (fn.name== "runtime.NumGoroutine")=false)(ac:fn.body=some c)
  (ht:pT fn.ntmps c=true) (aW:Nat.ble args.length fn.ntmps=true) (eh:q2 L=true) {D:bK->Prop} (h:rR ag P c (λe s=>match e with
   | .normal| .ret=>D s
   |_=>False) ⟨wi 0 args,L++DA L⟩)
  (rY:∀ {aE:Nat->Prop} {a8:e5} {n:Nat} {os:c2} {s:bK} {a:Act} {w:World},ch aE a8 n os s a w->D s->∃aT s',ch aE a8 n aT s' a w/\DC ag fn.results.toList L kept bL d s'):cm P f L args kept bL d:=by
 have aW:=nz aW;refine⟨λvs w=> ?_,λA w os fH al sK wB=> ?_⟩
 ·simp only[callFunc,dY,run_program,dT,az,Bv,ac,Option.isNone_some];rfl
 ·obtain⟨hlen,wB⟩:=Yw wB;have mJ:os.length=L.length:=by rw[<-sK.loc];simp
  have tF:∀ {i:Nat} {x:Value} {o:aZ},os[i]?=some (x,o)->L[i]?=some o:=by
   intro i x o hi;rw[<-sK.loc,e7,hi];rfl
  let cD:c2:=match L with
   | []=>[]
   |_=>[(.tuple (os.map jC).toArray,.cD (wj 0 L))]
  have aib:cD.map (·.2)=DA L:=by simp only[cD,DA];cases L<;>rfl
  have aic:∀p∈cD,bJ p.1=none:=by
   intro p an;simp only[cD]at an;split at an
   ·simp at an
   ·simp at an;subst an;rfl
  have zi:∀ {i:Nat} {x:Value} {o:aZ},(os++cD)[i]?=some (x,o)->os[i]?=some (x,o)\/(os.length<=i/\cD[i-os.length]?=some (x,o)/\bJ x=none):=by
   intro i x o hi;by_cases ax:i<os.length
   ·rw[so ax]at hi;exact .inl hi
   ·rw[xe (by omega)]at hi;exact .inr ⟨by omega,hi,aic _ (fo hi)⟩
  have aid:∀b,hn (os++cD) b->hn os b:=by
   rintro b ⟨i,x,o,hi,aa,cy⟩;rcases zi hi with hi| ⟨_,_,ad⟩
   ·exact⟨i,x,o,hi,aa,cy⟩
   ·rw[ad]at cy;cases cy
  have jj:uU os (os++cD):=λi x o hi=>⟨o,by rw[so (eL.1 hi).1];exact hi,by cases o<;>simp[er]⟩;have sI:dx (bi A os) (bi A (os++cD)) w w:=dx.ib (by
   rintro b (ac|ac)
   ·exact .inl ac
   ·exact .inr (aid b ac))
  have jB:∀b,hn os b->e5.mine ⟨w,hn os,os.map jC⟩ b:=λb ac=>.inr ac;have kP:ch A ⟨w,hn os,os.map jC⟩ fn.ntmps (os++cD) ⟨wi 0 args,L++DA L⟩ {tmps:=fH.toArray++Array.replicate (fn.ntmps-fH.toArray.size) undef,defers:=[]} w:=by
   refine⟨by simp;omega,rfl,⟨rfl,rfl,rfl,bP _,λ_ _ _=>rfl⟩,λb ac aie=> ?_,by rw[ef,sK.loc,aib],λt=> ?_,λi x o hi=> ?_,λi j x o y aU b hi aq d1 d2 cY cZ=> ?_⟩
   ·rcases aie with h1|h1
    ·have ad:=al b ac;have h1:w.heap.size<=b:=h1;omega
    ·exact sK.out b ac h1
   ·rw[QE,b6 (bX _),ON];cases aa:args[t]? with
    |none=>exact .bT .a1
    |some d=>
     have ax:=(eL.1 aa).1;have ab:=eP (l:=fH) (i:=t) (by omega);have hi:=wB t _ d ab aa;have: (fH.toArray++Array.replicate (fn.ntmps-fH.toArray.size) undef).getD t undef=fH[t]'(by omega):=by
      rw[pA,FC (by simp;omega)];simp[ab]
     simp only[qW];rw[this];exact hi.cC sI jj
   ·rcases zi hi with hi| ⟨fp,gy,avq⟩
    ·have fI:=(sK.cV i x o hi).yQ (DO:=⟨w,hn os,os.map jC⟩) (GM eh (tF hi)) (λb aa cy=>jB b ⟨i,x,o,hi,aa,cy⟩);exact fI.cC sI jj (λ_ _ _=>rfl)
    ·simp only[cD]at gy;split at gy
     ·simp at gy
     ·rename_i Hg;have Lj:i-os.length=0:=by
       have:=(eL.1 gy).1;simpa using this
      rw[Lj]at gy;simp at gy;obtain⟨rfl,rfl⟩:=gy;have aif:∀ (q:Nat) v e,(os.map jC)[q]?=some v->(wj 0 L)[q]?=some e->∃x o,os[q]?=some (x,o)/\v=jC (x,o)/\e=na q o:=by
       intro q v e ab he;obtain⟨o,h1,ad⟩:=Yz L 0 q e he;rw[e7]at ab;cases bV:os[q]? with
       |none=>rw[bV]at ab;cases ab
       |some p=>
        obtain⟨x,fV⟩:=p;have:=tF bV;rw[h1]at this;cases this;rw[bV]at ab;cases ab;exact⟨x,o,rfl,rfl,by rw[ad,uI]⟩
      have eg:∀ (q:Nat) x o,os[q]?=some (x,o)->(jC (x,o)).oneCell'=true/\bg (bi A (os++cD)) (os++cD) w (jC (x,o)) (na q o):=by
       intro q x o bV;have Hh: (os++cD)[q]?=some (x,o):=by rw[so (eL.1 bV).1];exact bV
       have fI:=sK.cV q x o bV;cases o with
       |row e aB es=>
        obtain⟨xs,b2,_⟩:=ww fI;exact⟨wx b2,.own Hh (wx b2)⟩
       |cells t cs=>
        obtain⟨g,arr,rfl,_⟩:=fI;exact⟨rfl,.aV Hh⟩
       |bm=>exact⟨rfl,.bT .a1⟩
       |gone=>exact⟨rfl,.bT .a1⟩
       |cD ds=>exact⟨rfl,.bT .a1⟩
      refine⟨rfl,by rw[Yy,bF,mJ],λv ab=> ?_,λq v e ab he=> ?_⟩
      ·obtain⟨p,an,rfl⟩:=fT.1 ab;obtain⟨q,bV,rfl⟩:=e8 an;exact(eg q _ _ (eP bV)).1
      ·obtain⟨x,o,h1,ad,aN⟩:=aif q v e ab he;subst ad;subst aN;exact(eg q x o h1).2
   ·rcases zi hi with hi| ⟨_,_,nD⟩
    ·rcases zi aq with aq| ⟨_,_,hf⟩
     ·exact sK.inj i j x o y aU b hi aq d1 d2 cY cZ
     ·rw[hf]at cZ;cases cZ
    ·rw[nD]at cY;cases cY
  have done:∀ (a2:Act) (gW:World) (Ed:c2) (Hi:bK),ch A ⟨w,hn os,os.map jC⟩ fn.ntmps Ed Hi a2 gW->DC ag fn.results.toList L kept bL d Hi->
    ∃v,(results fn a2.tmps).run P gW= .ok v gW/\∃aT,uO A aT bL gW/\bg (bi A aT) aT gW v d/\pD (hn os) w gW/\(∀b,hn aT b->hn os b\/w.heap.size<=b)/\∀ (i:Nat) x o,kept[i]?=some true->os[i]?=some (x,o)->∃aU,aT[i]?=some (x,aU):=by
   intro a2 gW Ed Hi ao ap;obtain⟨v,x,⟨aig,hle,oz⟩,et,u5⟩:=ah8 ay ao ap;simp only[cq]at oz;obtain⟨⟨⟨⟨⟨o5,aih⟩,fL⟩,tG⟩,aii⟩,zj⟩:=oz;obtain⟨xA,GP,_⟩:=xM (k:=0) o5;refine⟨v,et,?_⟩;have mh:=u5.ib aig;obtain⟨k4,hJ,avr,YC,Hj⟩:=(show ch A ⟨w,hn os,os.map jC⟩ fn.ntmps Ed ⟨[],Hi.loc⟩ a2 gW from ⟨ao.size,ao.defers,ao.hv,ao.a0,ao.loc,λ_=>.bT .a1,ao.cV,ao.inj⟩).P9 (t:=⟨[],nb L kept bL⟩) ⟨ai,hle,by simpa[Dq]using zj⟩;have sS:∀ {i:Nat} {o:aZ},(nb L kept bL)[i]?=some o->¬(L≠ []/\i=L.length)->bL[i]?=some o:=by
    intro i o hi bu;unfold nb at hi;split at hi
    ·exact hi
    ·rename_i Hg;have avs:=GP;by_cases ax:i<L.length
     ·rw[so (by simp;omega),rK,b6 ax]at hi;exact hi
     ·have vb:L.length<i:=by
       rcases l5 L.length i with h1|h1
       ·exact h1
       ·exact absurd ⟨λe=>Hg e,by omega⟩ bu
      rw[xe (by simp;omega)]at hi;have aC: (bL.take L.length).length=L.length:=by simp;omega
      rw[aC]at hi;obtain⟨q,rfl⟩:∃q,i=L.length+(q+1):=⟨i-L.length-1,by omega⟩
      rw[show L.length+(q+1)-L.length=q+1 by omega]at hi;simp only[C0,qV]at hi;rw[<-hi];congr 1;omega
   have QM:Dz (nb L kept bL) bL:=by
    have gen:∀ (X:List aZ) (Y:List aZ),Y.length<=X.length->(∀ (i:Nat) o aU,X[i]?=some o->Y[i]?=some aU->hr o aU)->Dz X Y:=by
     intro X;induction X with
     |nil=>intro Y af _;cases Y<;>first|trivial|simp at af
     |cons x X aY=>
      intro Y af an;cases Y with
      |nil=>trivial
      |cons y Y=>exact⟨an 0 x y rfl rfl,aY Y (by simpa using af) (λi o aU h1 ad=>an (i+1) o aU (by simpa using h1) (by simpa using ad))⟩
    refine gen _ _ ?_ (λi o aU h1 ad=> ?_)
    ·unfold nb;split
     ·exact bP _
     ·simp;omega
    ·by_cases bu:L≠ []/\i=L.length
     ·have:aU= .bm:=by
       obtain⟨bu,rfl⟩:=bu;unfold Pj at fL;split at fL
       ·exact absurd rfl bu
       ·exact QL fL ad
      rw[this];exact .bm
     ·have:=sS h1 bu;rw[ad]at this;cases this;exact .refl
   obtain⟨vd,Ee,aij,aik,YD⟩:=hJ.P9 (t:=⟨[],bL⟩) ⟨ai,QM,by simpa[Dq]using aii⟩;have QN:vd.map (·.2)=bL:=Ee.loc.symm;have YE:∀b,hn vd b->e5.mine ⟨w,hn os,os.map jC⟩ b:=λb ⟨i,y,o,hi,aa,cy⟩=>((Ee.cV i y o hi).iX aa cy).1;have YF:∀ (v:Value) (d:ak),bg (bi A Ed) Ed gW v d->kL bL d=true->bg (bi A vd) vd gW v d:=by
     intro v d mh tG;have hf:kL (nb L kept bL) d=true:=by
      have up:∀ {j:Nat},(jN (bR bL j)=true->jN (bR (nb L kept bL) j)=true)/\(rM (bR bL j)=true->rM (bR (nb L kept bL) j)=true):=by
       intro j;have key:bR bL j≠ .bm->bR (nb L kept bL) j=bR bL j:=by
        intro gV;have aq:j<bL.length:=by
         rcases l5 j bL.length with h1|h1
         ·exact h1
         ·exact absurd (by rw[ln,xf h1];rfl) gV
        have DL:j<(nb L kept bL).length:=by
         unfold nb;split
         ·exact aq
         ·simp;omega
        have aw:=eP DL;have bu:¬(L≠ []/\j=L.length):=by
         rintro⟨bu,rfl⟩;unfold Pj at fL;split at fL
         ·exact bu rfl
         ·have:=QL fL (eP aq);exact gV (by rw[ln,eP aq,this];rfl)
        have:=sS aw bu;rw[ln,ln,this,aw]
       constructor
       ·intro bV;rw[key (λe=>by rw[e]at bV;simp[jN]at bV)];exact bV
       ·intro bV;rw[key (λe=>by rw[e]at bV;simp[rM]at bV)];exact bV
      have YG:∀e:ak,kn bL e=true->kn (nb L kept bL) e=true:=by
       intro e he;cases e with
       |own j=>exact up.1 he
       |db j k o=>exact up.1 he
       |aV j o=>exact up.2 he
       |dU j o=>exact up.2 he
       |fn g cu=>
        simp only[kn,l4]at he⊢;intro c aj;have:=he c aj;cases c<;>first|exact up.2 this|rfl
       |_=>exact he
      by_cases yY:∃cs,d= .agg cs
      ·obtain⟨cs,rfl⟩:=yY;simp only[kL,l4]at tG⊢;exact λe he=>YG e (tG e he)
      ·have aC:∀l,kL l d=kn l d:=by intro l;cases d<;>first|rfl|exact absurd ⟨_,rfl⟩ yY
       rw[aC]at tG⊢;exact YG d tG
     exact aik v d (YC v d mh hf) tG
   refine⟨vd,⟨QN,λi y o hi=> ?_,Ee.inj,λb ac kt=>Ee.a0 b ac (YE b kt)⟩,?_,Ee.hv,λb ac=>(YE b ac).symm,λi y o hk hi=> ?_⟩
   ·refine(Ee.cV i y o hi).yQ (λds e=> ?_) (λ_ _ _=>.inr trivial);subst e;have:bL[i]?=some (.cD ds):=by rw[<-QN,e7,hi];rfl
    exact GM aih this ds rfl
   ·by_cases YH:∃ds,d= .bd ds
    ·obtain⟨ds,rfl⟩:=YH;obtain⟨vs,rfl,ji,b2,G9⟩:=mh.Pl;refine .bd ji (λi v d ab aa=> ?_) (λi v d ab aa=> ?_)
     ·rcases b2 i v d ab aa with aH|aH
      ·exact .inl aH
      ·exact .inr (aH.cC (dx.ib (λb ac=>Hj b (YD b ac))))
     ·rcases b2 i v d ab aa with aH|aH
      ·have nD:=l4.1 tG d (fo aa);rw[aH]at nD;exact YF v d (G9 i v d ab aa) (by simpa using nD)
      ·exact .bT (aH.cC (dx.ib (λb ac=>Hj b (YD b ac))))
    ·have tG:kL bL d=true:=by
      cases d<;>first|exact tG|exact absurd ⟨_,rfl⟩ YH
     exact YF v d mh tG
   ·have Hg:L≠ []:=by
     intro e;rw[e]at mJ;have:=(eL.1 hi).1;simp at mJ;rw[mJ]at this;simp at this
    have eI:i<L.length:=by have:=(eL.1 hi).1;omega
    have QO:=eP (l:=bL) (i:=i) (by omega);have YI:=YA kept bL 0 i _ hk QO;rw[uI]at YI;have u7:=(xM (k:=i) o5).2.2 o _ hk (tF hi) QO;have o9: (nb L kept bL)[L.length]?=some (.cD (AT 0 kept bL)):=by
     unfold nb;split
     ·exact absurd rfl Hg
     ·have aC: (bL.take L.length).length=L.length:=by simp;omega
      rw[xe (by omega),aC,AA];rfl
    have hT:∃y,k4[L.length]?=some (y,.cD (AT 0 kept bL)):=by
     have QP:nb L kept bL=k4.map (·.2):=hJ.loc;rw[QP,e7]at o9;cases bV:k4[L.length]? with
     |none=>rw[bV]at o9;cases o9
     |some p=>
      obtain⟨y,bD⟩:=p;rw[bV]at o9;simp at o9;exact⟨y,by rw[o9]⟩
    obtain⟨lv,hT⟩:=hT;obtain⟨_,_,_,ail⟩:=hJ.cV _ _ _ hT;have QQ: (os.map jC)[i]?=some (jC (y,o)):=by rw[e7,hi];rfl
    have Lm:=ail i _ _ QQ YI;have aim:¬(L≠ []/\i=L.length):=by rintro⟨_,e⟩;omega
    have Hk:∃z,k4[i]?=some (z,bL[i]'(by omega)):=by
     have QP:nb L kept bL=k4.map (·.2):=hJ.loc;have rX: (nb L kept bL)[i]?=some (bL[i]'(by omega)):=by
      have DL:i<(nb L kept bL).length:=by
       unfold nb;split
       ·exact absurd rfl Hg
       ·simp;omega
      have aw:=eP DL;have:=sS aw aim;rw[QO]at this;rw[aw,<-this]
     rw[QP,e7]at rX;cases bV:k4[i]? with
     |none=>rw[bV]at rX;cases rX
     |some p=>rw[bV]at rX;simp at rX;exact⟨p.1,by rw[<-rX]⟩
    obtain⟨z,Hk⟩:=Hk;have bx:z=y:=by
     generalize fI: (bL[i]'(by omega))=bD at *;cases o<;>cases bD<;>simp[JV]at u7
     ·simp only[na]at Lm;obtain⟨g,eD,dG,b5,eN⟩:=Lm.q5;rw[Hk]at b5;cases b5;exact eN.symm
     ·simp only[na]at Lm;exact(Lm.q6 Hk).symm
    subst bx;have ain:i<vd.length:=by
     have:vd.length=bL.length:=by rw[<-QN];simp
     omega
    have YJ:=eP ain;obtain⟨QR,bt,_⟩:=aij i _ _ (show vd[i]?=some (vd[i].1,vd[i].2) from YJ);rw[Hk]at bt;cases bt;exact⟨_,YJ⟩
  refine calls_of_wp az ac (Yk (aE:=A) (a8:=⟨w,hn os,os.map jC⟩) (n:=fn.ntmps) aA ay aR c ht (λe a w' jn=> ?_) kP h);obtain⟨Ed,Hi,ao,ap⟩:=jn;cases e with
  |normal=>
   obtain⟨aio,aip,hJ,ap⟩:=rY ao ap;obtain⟨v,ab,aT,h1,ad,aN,bt,b5⟩:=done _ _ _ _ hJ ap;exact⟨ao.defers,v,ab,v,aT,rfl,h1,ad,aN,bt,b5⟩
  |ret=>
   obtain⟨aio,aip,hJ,ap⟩:=rY ao ap;obtain⟨v,ab,aT,h1,ad,aN,bt,b5⟩:=done _ _ _ _ hJ ap;exact⟨ao.defers,v,ab,v,aT,rfl,h1,ad,aN,bt,b5⟩
  |_=>exact ap.elim
theorem ik(aA:P.follows .mixedOrders=true)(ay:dv P ag=true)(aR: (aF ag 0).size=0){f:FuncId}{fn:Func}{c:Code}{L bL:List aZ}{args:List ak}{kept:List Bool}{d:ak}(az:P.funcs[f]?=some fn)(Bv: (fn.name== "runtime.NumGoroutine")=false)(ac:fn.body=some c)
  (ht:pT fn.ntmps c=true) (aW:Nat.ble args.length fn.ntmps=true) (eh:q2 L=true) (h:VZ ag P c fn.results.toList L args kept bL d):cm P f L args kept bL d:=
 YB aA ay aR az Bv ac ht aW eh (D:=DC ag fn.results.toList L kept bL d) h λao ap=>⟨_,_,ao,ap⟩
def YK(ag:dH)(P:Program)(c:Code)(l7:List ResultVar)(L:List aZ)(args:List ak)(kept:List Bool)(bL:List aZ)(d:ak):Prop:=
 rR ag P c (λe s=>match e with
  | .normal| .ret=>∃q4,oZ q4 s λs=>DC ag l7 L kept bL d s
  |_=>False) ⟨wi 0 args,L++DA L⟩
theorem vf(aA:P.follows .mixedOrders=true)(ay:dv P ag=true)(aR: (aF ag 0).size=0){f:FuncId}{fn:Func}{c:Code}{L bL:List aZ}{args:List ak}{kept:List Bool}{d:ak}(az:P.funcs[f]?=some fn)(Bv: (fn.name== "runtime.NumGoroutine")=false)(ac:fn.body=some c)
  (ht:pT fn.ntmps c=true) (aW:Nat.ble args.length fn.ntmps=true) (eh:q2 L=true) (h:YK ag P c fn.results.toList L args kept bL d):cm P f L args kept bL d:=
 YB aA ay aR az Bv ac ht aW eh (D:=λs=>∃q4,oZ q4 s λs=>DC ag fn.results.toList L kept bL d s) h λao ap=>by
  obtain⟨q4,ap⟩:=ap;exact va q4 ao ap
theorem cm.By{f:FuncId}{L L1 xV:List aZ}{args:List ak}{kept:List Bool}{d:ak}(h:cm P f L args kept (L1++ .bm::xV) d)(hk:kept.length<=L1.length):
  cm P f L args kept ((L1++xV).map (gP (au L1.length))) (k0 (au L1.length) d):=by
 refine⟨h.1,λA w os fH al sK DZ=>(h.2 A w os fH al sK DZ).mono λe w' he=> ?_⟩;obtain⟨v,hI,rfl,ic,u5,oy,hblk,sI⟩:=he;have aA:∃y,hI[L1.length]?=some (y,.bm):=by
  have h1: (hI.map (·.2))[L1.length]?=some .bm:=by rw[ic.loc];simp
  rw[e7]at h1;cases aw:hI[L1.length]? with
  |none=>rw[aw]at h1;cases h1
  |some p=>rw[aw]at h1;rcases p with⟨y,o⟩;simp at h1;subst h1;exact⟨y,rfl⟩
 generalize xG:L1.length=m at *;obtain⟨avt,aA⟩:=aA;have aiq:∀ {k:Nat},¬m<k->au m k=k:=λ{k} hk=>by
  unfold au;have:Nat.blt m k=false:=by
   cases ac:Nat.blt m k
   ·rfl
   ·exact absurd (nz ac) hk
  rw[this]
 have air:∀ {k:Nat},m<k->au m k=k-1:=λ{k} hk=>by
  unfold au;have:Nat.blt m k=true:=Nat.ble_eq_true_of_le hk;rw[this]
 let k4:c2:=(hI.eraseIdx m).map λp=>(p.1,gP (au m) p.2)
 have aG:∀j,k4[j]?=(if j<m then hI[j]? else hI[j+1]?).map λp=>(p.1,gP (au m) p.2):=λj=>by
  simp only[k4,e7,VE]
 have cM:∀ (k:Nat) x bD,(∀ds,bD≠ .cD ds)->bD≠ .bm->hI[k]?=some (x,bD)->k4[au m k]?=some (x,gP (au m) bD):=λk x bD _ aa hk=>by
  rcases JF k m with ax|he|vb
  ·rw[aiq (by omega),aG,b6 ax,hk];rfl
  ·rw[he,aA]at hk;cases hk;exact absurd rfl aa
  ·rw[air vb,aG,bo (by omega),show k-1+1=k by omega,hk];rfl
 have back:∀ {j:Nat} {x:Value} {aU:aZ},k4[j]?=some (x,aU)->∃k o,hI[k]?=some (x,o)/\aU=gP (au m) o/\((k<m/\k=j)\/(¬j<m/\k=j+1)):=λ{j x aU} aq=>by
  rw[aG]at aq;by_cases ax:j<m
  ·rw[b6 ax]at aq;cases aw:hI[j]? with
   |none=>rw[aw]at aq;cases aq
   |some p=>rw[aw]at aq;cases aq;exact⟨j,p.2,aw,rfl,.inl ⟨ax,rfl⟩⟩
  ·rw[bo ax]at aq;cases aw:hI[j+1]? with
   |none=>rw[aw]at aq;cases aq
   |some p=>rw[aw]at aq;cases aq;exact⟨j+1,p.2,aw,rfl,.inr ⟨ax,rfl⟩⟩
 have fL:∀ {o:aZ},gP (au m) o≠ .bm->o≠ .bm:=λ{o} aa e=>by
  subst e;exact aa rfl
 have kt:∀b,hn k4 b->hn hI b:=by
  rintro b ⟨j,x,aU,aq,aa,ac⟩;obtain⟨k,o,hk,rfl,_⟩:=back aq;exact⟨k,x,o,hk,fL aa,ac⟩
 have fK:∀b,bi A k4 b->bi A hI b:=by
  rintro b (ac|ac)
  ·exact .inl ac
  ·exact .inr (kt b ac)
 have k:dx (bi A hI) (bi A k4) w' w':=dx.ib fK;refine⟨v,k4,rfl,⟨?_,λj x aU aq=> ?_,λi j x o y aU b hi aq d1 d2 cY cZ=> ?_,λb al ac=>ic.out b al (kt b ac)⟩,(bg.xR cM k u5).2,oy,λb ac=>hblk b (kt b ac),λi x o QS hi=> ?_⟩
 ·have:k4.map (·.2)=((hI.map (·.2)).eraseIdx m).map (gP (au m)):=by
   apply rJ;intro j;simp only[e7,VE,aG];by_cases aq:j<m
   ·simp only[b6 aq];cases hI[j]?<;>rfl
   ·simp only[bo aq];cases hI[j+1]?<;>rfl
  rw[this,ic.loc,<-xG,List.eraseIdx_append_of_length_le (bP _),AA];rfl
 ·obtain⟨q,o,bV,rfl,_⟩:=back aq;have fI:=ic.cV q x o bV;cases o with
  |bm=>exact trivial
  |gone=>exact fI
  |cD ds=>exact trivial
  |cells ty cs=>
   obtain⟨g,arr,rfl,cr,bC,ae,br,ao⟩:=fI;refine⟨g,arr,rfl,cr,bC,by simpa using ae,br,λjk v d ab aa=> ?_⟩;rw[e7]at aa;cases aj:cs[jk]? with
   |none=>rw[aj]at aa;cases aa
   |some e=>
    rw[aj]at aa;simp at aa;subst aa;exact(bg.xR cM k (ao jk v e ab aj)).1 (br v (fo (by rw[xb];exact ab)))
  |row e aB es=>
   obtain⟨jB,xs,b2,cE,hc,br,ao⟩:=fI;exact⟨jB,xs,b2,cE,hc,br,λeQ jk r d h1 ad=>by
    obtain⟨v,ab,hi⟩:=ao eQ jk r d h1 ad;exact⟨v,ab,hi.cC k⟩⟩
 ·obtain⟨p,dw,j3,rfl,fF⟩:=back hi;obtain⟨q,fV,qx,rfl,eR⟩:=back aq;have:=ic.inj _ _ _ _ _ _ b j3 qx (fL d1) (fL d2) cY cZ;omega
 ·obtain⟨aU,ku⟩:=sI i x o QS hi;have eI:i<m:=by
   have:=(eL.1 QS).1;omega
  exact⟨gP (au m) aU,by rw[aG,b6 eI,ku];rfl⟩
end
open Go
def QT{α:Type}:Result α->World
 | .ok _ w=>w
 | .halt _ w=>w
theorem ais{α:Type}(a:Ask α):∀w:World,w.drawn<=(w.ask a).2.drawn:=by
 induction a with
 |done a=>intro w;simp[World.ask]
 |ask agi range k aY=>
  intro w;simp only[World.ask]
  grind
theorem YL(w:World)(c:Sys):w.drawn<=(w.sys c).2.drawn:=by
 have:=ais (Kernel.perform c w.os) w;unfold World.sys
 grind
variable{p:Program}{w w':World}
theorem ait{a:Addr}{u:TypeId}{k:Addr}{v:Value}{b:Bool}{l:List Addr}(h:w.viewStore p a u k v b= .ok (w',l)):w'.drawn=w.drawn:=by
 unfold World.viewStore at h;simp only[bind,Except.bind,pure,Except.pure,throw,throwThe,MonadExceptOf.throw]at h;repeat' first
  | (cases h;done)
  | (simp only[Jr,OP]at h;obtain⟨h,_⟩:=h;subst h;rfl)
  |split at h
theorem QU{α:Type}(p:Program)(s:Sem α):∀w:World,w.drawn<=(QT (s.run p w)).drawn:=by
 induction s with
 |pure a=>intro w;exact bP _
 |load m a k aY=>
  intro w;simp only[Sem.run];split
  ·grind
  ·split
   ·grind
   ·exact bP _
 |store m a v k aY=>
  intro w;have az:∀w' l,w.farStore p a v (m== .atomic)= .ok (w',l)->w.drawn<=w'.drawn:=λw' l h=>by
   unfold World.farStore at h;split at h
   ·split at h
    ·rename_i r ao;simp only[Jr]at h;subst h;exact JE (ait ao).symm
    grind
   grind
  cases v with
  |agg _=>exact bP _
  |tuple _=>exact bP _
  |_=>
   simp only[Sem.run];split
   ·split
    ·exact bP _
    ·refine bQ ?_ (aY _);simp
   ·split
    ·grind
    ·exact bP _
 |new o k aY=>intro w;simp only[Sem.run];grind
 |shape r k aY=>intro w;exact aY _ _
 |freeze a n k aY=>intro w;refine bQ ?_ (aY _);simp[World.freeze];split<;>simp
 |frozen a k aY=>intro w;exact aY _ _
 |getObj r k aY=>
  intro w;simp only[Sem.run];split
  ·exact bP _
  ·grind
  ·exact bP _
 |setObj r o k aY=>
  intro w;simp only[Sem.run];split
  ·exact bP _
  ·grind
  ·exact bP _
 |choose q k aY=>
  intro w;simp only[Sem.run]
  grind
 |sys c k aY=>intro w;exact bQ (YL w c) (aY _ _)
 |program k aY=>intro w;exact aY _ _
 |mark m k aY=>intro w;exact aY _
 |halt h=>intro w;exact bP _
theorem oD{α:Type}{s:Sem α}{a:α}(h:s.run p w= .ok a w'):w.drawn<=w'.drawn:=by
 have:=QU p s w;rw[h]at this;exact this
theorem Ef{α:Type}{s:Sem α}{a:Halt}(h:s.run p w= .halt a w'):w.drawn<=w'.drawn:=by
 have:=QU p s w;rw[h]at this;exact this
theorem Ln{α:Type}{s:Sem α}{r:Result α}(h:s.run p w=r):w.drawn<=(QT r).drawn:=by
 subst h;exact QU p s w
theorem aiu{c:Sys}{r:SysRet}(h:w.sys c=(r,w')):w.drawn<=w'.drawn:=by
 have:=YL w c
 grind
def lT:GStep->World
 | .go _ w _=>w
 | .comm _ _ _ _ w _=>w
 | .spawn _ _ w _=>w
 | .count _ w _=>w
 | .timer _ _ w _=>w
 | .alone _ _ w _=>w
 | .newcoro _ _ _ w _=>w
 | .coroswitch _ _ _ w _=>w
 | .collect _ w _=>w
 | .watch _ w _=>w
 | .ended _ w _=>w
@[simp] theorem Hl(es:Array Event)(s:GStep):lT (s.after es)=lT s:=by cases s<;>rfl
theorem YM(g:Goroutine)(w:World)(es:Array Event):lT (.go g w es)=w:=rfl
theorem YN(o:Outcome)(w:World)(es:Array Event):lT (.ended o w es)=w:=rfl
theorem aiv(w:World)(fd:Nat)(x:ByteArray)(o:Outcome):w.drawn<=(lT (endWith w fd x o)).drawn:=by
 unfold endWith;simp only[];repeat' first
  |exact aiu (by assumption)
  |split
theorem QV(bq:Frame)(m:String)(w:World):w.drawn<=(lT (endThrow bq m w)).drawn:=bP _
theorem YO(p:Program)(bq:Frame)(v:Value)(w:World):w.drawn<=(lT (endPrinting p bq v w)).drawn:=by
 unfold endPrinting;simp only[];repeat' first
  |exact QV _ _ _
  |exact bP _
  |split
theorem YP(p:Program)(bq:Frame)(cs:List Frame)(d:Option Dying)(m:String)(w:World):w.drawn<=(lT (endFatal p bq cs d m w)).drawn:=by
 unfold endFatal;simp only[];repeat' first
  |exact oD (by assumption)
  |exact Ef (by assumption)
  |split
theorem aiw(p:Program)(bq:Frame)(d:Dying)(f:Fatal)(w:World):w.drawn<=(lT (writeOn p bq d f w)).drawn:=by
 unfold writeOn;simp only[Da];split
 ·exact bP _
 ·generalize ae:Sem.run p _ w=r;have:=Ln ae;cases r with
  |ok a w'=>exact this
  |halt h w'=>cases h<;>exact this
theorem aix(p:Program)(bq:Frame)(d:Dying)(w:World):w.drawn<=(lT (die p bq d w)).drawn:=by
 unfold die;simp only[Da];split
 ·exact aiw _ _ _ _ _
 ·split
  ·split
   ·exact bP _
   ·exact aiv _ _ _ _
  ·split
   ·exact bP _
   ·split
    ·exact oD (by assumption)
    ·exact Ef (by assumption)
   ·rw[Hl];generalize ae:Sem.run p _ w=r;have:=Ln ae;clear ae;split
    ·exact this
    ·exact this
    ·exact this
    ·exact bQ this (YO _ _ _ _)
    ·cases r<;>exact bP _
   ·exact bP _
theorem QW(p:Program)(main:Bool)(bq:Frame)(cs:List Frame)(d:Option Dying)(v:Value)(w:World):w.drawn<=(lT (doReturn p main bq cs d v w)).drawn:=by
 unfold doReturn;repeat' first
  |exact bP _
  |split
theorem aiy{c:Prop} [Decidable c]{a b:GStep}{n:Nat}(h1:n<=(lT a).drawn)(ad:n<=(lT b).drawn):n<=(lT (if c then a else b)).drawn:=by
 split<;>assumption
theorem aiz(p:Program)(bq:Frame)(cs:List Frame)(tR:Option Dying)(d:Deferred)(w:World):w.drawn<=(lT (callDeferred p bq cs tR d w)).drawn:=by
 unfold callDeferred;simp only[Da];refine aiy ?_ ?_
 ·exact bP _
 ·rw[Hl];generalize ae:Sem.run p _ w=r;have:=Ln ae;clear ae;repeat' first
   |exact this
   |exact bQ this (YP _ _ _ _ _ _)
   |exact bQ this (QV _ _ _)
   |split
theorem aiA(p:Program)(main:Bool)(bq:Frame)(cs:List Frame)(tR:Option Dying)(w:World):w.drawn<=(lT (unwind p main bq cs tR w)).drawn:=by
 unfold unwind;simp only[Da];repeat' first
  |exact bP _
  |exact aiz _ _ _ _ _ _
  |exact QW _ _ _ _ _ _ _
  |exact YO _ _ _ _
  |exact oD (by assumption)
  |exact Ef (by assumption)
  |exact bQ (oD (by assumption)) (QW _ _ _ _ _ _ _)
  |rw[Hl]
  |split
theorem aiB(p:Program)(bq:Frame)(cs:List Frame)(tR:Option Dying)(g:Nat)(w:World):w.drawn<=(lT (early p bq cs tR g w)).drawn:=by
 unfold early;simp only[];repeat' first
  |exact bP _
  | (refine bQ (oD (by assumption)) ?_;exact bP _)
  |exact oD (by assumption)
  |exact Ef (by assumption)
  |split
theorem QX(p:Program)(bq:Frame)(cs:List Frame)(tR:Option Dying)(s:Sem Next)(w:World)(b:Bool):w.drawn<=(lT (stepG.apply p b bq cs tR s w)).drawn:=by
 unfold stepG.apply;simp only[Da];rw[Hl];generalize ah: (if b=true then(Sem.run p s w,Sem.events p s w #[])else(Sem.run p s w,#[]))=x;obtain⟨r,es⟩:=x;have:w.drawn<=(QT r).drawn:=by
  cases b<;>simp at ah<;>exact Ln ah.1
 clear ah;simp only[];repeat' first
  |exact this
  |exact bQ this (YP _ _ _ _ _ _)
  |exact bQ this (QV _ _ _)
  |exact bQ this (aiB _ _ _ _ _ _)
  |split
theorem aiC(p:Program)(bq:Frame)(cs:List Frame)(tR:Option Dying)(w:World)(b:Bool):w.drawn<=(lT (stepG.oper p b bq cs tR w)).drawn:=by
 unfold stepG.oper;repeat' first
  |exact bP _
  |exact QX _ _ _ _ _ _ _
  |split
theorem aiD{α:Type}{o:Option α}{b:GStep}{f:α->GStep}{n:Nat}(h1:n<=(lT b).drawn)(ad:∀a,n<=(lT (f a)).drawn):n<=(lT (o.elim b f)).drawn:=by
 cases o;all_goals grind
theorem aiE(p:Program)(main:Bool)(bq:Frame)(cs:List Frame)(tR:Option Dying)(w:World)(b:Bool):w.drawn<=(lT (stepG.exec p main b bq cs tR w)).drawn:=by
 unfold stepG.exec;simp only[Da];split;all_goals(try simp only[YM,YN,bP])
 all_goals repeat' first
  | (with_reducible exact bP _)
  | (with_reducible exact QX _ _ _ _ _ _ _)
  | (with_reducible exact aiC _ _ _ _ _ _)
  | (with_reducible exact oD (by assumption))
  | (with_reducible exact Ef (by assumption))
  | (with_reducible exact bQ (oD (by assumption)) (QW _ _ _ _ _ _ _))
  | (with_reducible exact bQ (oD (by assumption)) (QX _ _ _ _ _ _ _))
  | (with_reducible refine aiD ?_ (λ_=> ?_))
  |rw[Hl]
  |simp only[YM,YN,bP]
  |split
theorem aiF(p:Program)(main:Bool)(g:Goroutine)(w:World)(b:Bool):w.drawn<=(lT (stepG p main g w b)).drawn:=by
 obtain⟨bq,cs,b7,tR,of⟩:=g;unfold stepG;simp only[];split
 ·exact aix _ _ _ _
 ·exact aiE _ _ _ _ _ _ _
 ·exact aiA _ _ _ _ _ _
theorem aiG{rest:Rest}{gs:Array Goroutine}{i:Nat}{g:Goroutine}{cases:Array CommCase}{aiH:Bool}{shape:CommShape}{w:World}{ei:Machine}
  (h: (communicate p rest gs i g cases aiH shape w).1= .next ei):w.drawn<=ei.world.drawn:=by
 unfold communicate at h;simp only[]at h;have hw:∀w',waitingAt rest cases w=some w'->w.drawn<=w'.drawn:=λw' h=>by
  unfold waitingAt at h
  grind
 repeat' first
  | (simp at h;done)
  | (simp only[to]at h;subst h;exact bP _)
  | (simp only[to]at h;subst h;exact hw _ (by assumption))
  | (simp only[to]at h;subst h;refine bQ (oD (by assumption)) ?_;exact bP _)
  | (simp only[to]at h;subst h;refine bQ (oD (by assumption)) (bQ (oD (by assumption)) ?_);exact bP _)
  | (simp only[to]at h;subst h;refine bQ (oD (by assumption)) (bQ (Ef (by assumption)) ?_);exact bP _)
  |split at h
theorem YQ{gs:Array Goroutine}{rest:Rest}{w:World}{ei:Machine}(h:Go.look p gs rest w=Stepped.next ei):w.drawn<=ei.world.drawn:=by
 unfold Go.look at h;simp only[]at h;repeat' first
  | (simp at h;done)
  | (simp only[to]at h;subst h;refine bQ (oD (by assumption)) ?_;exact bP _)
  |split at h
variable{m ei:Machine}
theorem aiI{k:Nat}(h:serve p m k= .next ei):m.world.drawn<=ei.world.drawn:=by
 unfold serve at h
 grind
theorem aiJ(w:World)(c:Nat): (drain w c).2.drawn=w.drawn:=by
 unfold drain;split<;>rfl
theorem YR(m:Machine)(k:Nat)(t:Timer)(a b:Nat): (retime m k t a b).2.world.drawn=m.world.drawn:=by
 unfold retime;cases t.chan<;>simp[aiJ]
theorem aiK{op:TimerOp}{v:Value}(h:timerOp m op= .ok (v,ei)):m.world.drawn<=ei.world.drawn:=by
 have aH:∀var m1,timerOp.opened m var=some m1->m1.world.drawn=m.world.drawn:=λvar m1 h=>by
  unfold timerOp.opened at h
  grind
 have aW:∀ (m1:Machine) var (f:Nat->Timer->Value×Machine),(∀k t,(f k t).2.world.drawn=m.world.drawn)->timerOp.named m1 var f= .ok (v,ei)->m.world.drawn<=ei.world.drawn:=λm1 var f az h=>by
  unfold timerOp.named at h
  grind
 unfold timerOp at h;simp only[]at h;split at h
 ·split at h
  ·simp only[Jr,OP]at h;obtain⟨_,h⟩:=h;subst h;exact bP _
  grind
 ·exact aW _ _ _ (λk t=>YR _ _ _ _ _) h
 ·split at h
  ·rename_i tL;exact aW _ _ _ (λk t=>(YR _ _ _ _ _).trans (aH _ _ tL)) h
  grind
 ·simp only[Jr,OP]at h;obtain⟨_,h⟩:=h;subst h;exact bP _
theorem aiL{i:Nat}{b:Bool}(h: (runT p m i b).1= .next ei):m.world.drawn<=ei.world.drawn:=by
 simp only[runT]at h;revert h;generalize m.gs.swapAt! _ _=YS;have aw:=aiF p (i==0) YS.1 m.world b;revert aw;generalize stepG p _ YS.1 m.world b=s;intro aw h;cases s<;>simp only[]at h<;>simp only[lT]at aw
 all_goals first
  | (simp at h;done)
  |exact bQ aw (aiG h)
  |exact bQ aw (YQ h)
  | (simp only[to]at h;subst h;exact aw)
  | (repeat' first
    | (simp at h;done)
    | (simp only[to]at h;subst h;exact aw)
    | (simp only[to]at h;subst h;exact bQ aw (aiK (by assumption)))
    | (simp only[endThrow,dieOf,to]at h;subst h;exact aw)
    |split at h)
theorem aiM{k:Nat}{ei:Machine}{w:World}(hw:m.world.drawn<=w.drawn)(h:serve p {m with world:=w} k= .next ei):m.world.drawn<=ei.world.drawn:=
 bQ hw (aiI h)
theorem YT: (∀ei i,askOn p m= .goroutine ei i->m.world.drawn<=ei.world.drawn)/\∀ei ops,askOn p m= .machine (.next ei) ops->m.world.drawn<=ei.world.drawn:=by
 constructor
 ·intro ei i h;unfold askOn at h;simp only[]at h;repeat' first
   | (simp at h;done)
   | (simp only[Move.goroutine.injEq]at h;obtain⟨h,_⟩:=h;subst h; (try simp only[Machine.advanceTo]at *);repeat (first| (with_reducible exact bP _)| (with_reducible refine bQ ?_ (oD (by assumption)))|dsimp only))
   |split at h
 ·intro ei ops h;unfold askOn at h;simp only[]at h;repeat' first
   | (simp at h;done)
   | (simp only[Move.machine.injEq]at h;exact aiM (oD (by assumption)) h.1)
   | (simp only[Move.machine.injEq,to]at h;obtain⟨h,_⟩:=h;subst h; (try simp only[Machine.advanceTo]at *);repeat (first| (with_reducible exact bP _)| (with_reducible refine bQ ?_ (oD (by assumption)))|dsimp only))
   |split at h
theorem Lo: (∀ei i,Go.ask p m= .goroutine ei i->m.world.drawn<=ei.world.drawn)/\∀ei ops,Go.ask p m= .machine (.next ei) ops->m.world.drawn<=ei.world.drawn:=by
 have key: (∃m2,m.world.drawn<=m2.world.drawn/\Go.ask p m=askOn p m2)\/(∃o w,Go.ask p m= .machine (.ended o w)):=by
  unfold Go.ask;split
  ·split
   ·simp
   ·rename_i ao;cases af:Go.look p m.gs m.rest _ with
    |next m2=>exact .inl ⟨m2,bQ (oD ao) (YQ af),rfl⟩
    |ended o w=>simp
   ·rename_i ao;exact .inl ⟨_,oD ao,rfl⟩
  grind
 rcases key with⟨m2,h1,ad⟩| ⟨o,w,ad⟩
 ·rw[ad];exact⟨λei i h=>bQ h1 (YT.1 ei i h),λei ops h=>bQ h1 (YT.2 ei ops h)⟩
 grind
theorem YU: (∀ei i,move p m= .goroutine ei i->m.world.drawn<=ei.world.drawn)/\∀ei ops,move p m= .machine (.next ei) ops->m.world.drawn<=ei.world.drawn:=by
 constructor
 ·intro ei i h;unfold move at h;repeat' first
   | (simp at h;done)
   | (simp only[Move.goroutine.injEq]at h;obtain⟨h,_⟩:=h;subst h;exact bP _)
   |exact Lo.1 _ _ h
   |exact(Lo (m:={m with rest:={m.rest with slice:=none}})).1 _ _ h
   |split at h
 ·intro ei ops h;unfold move at h;repeat' first
   | (simp at h;done)
   |exact Lo.2 _ _ h
   |exact(Lo (m:={m with rest:={m.rest with slice:=none}})).2 _ _ h
   |split at h
theorem aiN(h:step p m= .next ei):m.world.drawn<=ei.world.drawn:=by
 unfold step stepT at h;cases aA:move p m with
 |goroutine m1 i=>
  rw[aA]at h;exact bQ (YU.1 _ _ aA) (aiL h)
 |machine s ops=>
  rw[aA]at h;simp only[]at h;subst h;exact YU.2 _ _ aA
theorem YV{p:Program}:∀ (n:Nat) {m ei:Machine},runN p n m= .next ei->m.world.drawn<=ei.world.drawn
 |0,m,ei,h=>by simp only[runN,to]at h;grind
 |n+1,m,ei,h=>by
  simp only[runN]at h;cases ae:step p m with
  |next m1=>rw[ae]at h;exact bQ (aiN ae) (YV n h)
  |ended o w=>grind
variable{P:Program}{f:FuncId}
theorem aiO{args:Array Value}{w:World}{R:Ending->World->Prop}(h:Calls P f args w R):
  Calls P f args w λe w'=>R e w'/\((∃v,e= .returned v)->w.drawn<=w'.drawn):=λcs=>by
 obtain⟨e,w',bq,ao,aj,az,af⟩:=h cs;refine⟨e,w',bq,⟨ao,?_⟩,aj,az,af⟩;rintro⟨v,rfl⟩;obtain⟨n,aW⟩:=aj;exact YV n aW
open Go Go.Proofs
open Go.Sort (grow putRow putCells mapBlock HoldsK PermIn SortedIn SWO)
theorem aiP(aw:w.grownBy w' none)(aa:w.drawn<=w'.drawn):∃q os,w'=grow (w.drewN q) os:=by
 refine⟨w'.drawn-w.drawn,w'.heap.extract w.heap.size w'.heap.size,?_⟩;have h1:w'.heap=w.heap++w'.heap.extract w.heap.size w'.heap.size:=by
  apply Array.ext_getElem?;intro k;rw[Array.getElem?_append];split
  ·rename_i h;exact aw.block k h (by simp)
  grind
 obtain⟨h,t,n,o,u⟩:=w;obtain⟨bp,eD,Ka,aU,avu⟩:=w';obtain⟨aC,aG,bc,cn,eu⟩:=aw;simp only at aC aG bc aa h1;subst aC aG bc;simp only[grow,World.drewN];rw[<-h1];congr 1;omega
def tS(agg:Bool)(vs:List Value):Value:=bif agg then .agg vs.toArray else vs[0]!
def Lp(agg:Bool)(r:List ak):ak:=bif agg then .agg r else r.headD .a1
def YW(P:Program)(f g:FuncId)(aB:Nat)(agg:Bool):Prop:=
 ∀ (n:Nat) (enc:Fin (n+1)->List Value),(∀x,(enc x).length=aB)->(∀x,∀v∈enc x,v.oneCell'=true)->∀ (cf:Fin (n+1)->Fin (n+1)->Int),SWO (ltOf cf)->∀ (cb:Array Value) (bJ cap:Nat) (d:Array (Fin (n+1))) (w:World),
  (∀args w,(callFunc g args).run P w= .ok (.enter g args) w)->
  (∀ (m:Nat) (os:Array Obj) (hU:Array (Fin (n+1))),hU.size=d.size->∀x y,Calls P g (#[tS agg (enc x),tS agg (enc y)]++cb) (sortWorldK enc aB w bJ 0 m hU os) λe w'=>
   e= .returned (.int .i64 (cf x y))/\∃q aT,w'=grow ((sortWorldK enc aB w bJ 0 m hU os).drewN q) aT)->
  HoldsK enc aB w bJ 0 d->bJ<w.heap.size->d.size<4611686018427387904->
  Calls P f #[.slice (some ⟨bJ,0,none⟩) d.size cap,.func (.func g) #[] cb] w λe w'=>
   e= .returned (.tuple #[])/\∃ck m os,PermIn 0 d.size d ck/\SortedIn (ltOf cf) 0 d.size ck/\w'=sortWorldK enc aB w bJ 0 m ck os
theorem aiQ{enc:Fin (n+1)->List Value}(hk:∀x,(enc x).length=1)(d:Array (Fin (n+1)))(off:Nat)(c:Array Value):putCells (λx=>(enc x)[0]!) off d c=putCells id off (Go.Sort.flatK enc 1 d) c:=by
 apply Array.ext_getElem?;intro k;simp only[putCells,Vv];congr 1;funext x;simp only[Go.Sort.size_flatK,C9];split
 ·rename_i h;rw[Go.Sort.get_flatK _ _ _ _ (by omega),Nat.div_one,Nat.mod_one];rfl
 ·rfl
variable{ρ:Go.Shelf.Ren}
theorem aiR(L:SlLaysF.n6 P ρ)(g:FuncId):YW P (ρ.f 6) g 1 false:=by
 intro n enc hk h1 cf hO cb bJ cap d w aiS Lq hH hblk cE;have PW:∀ (w:World) (hU:Array (Fin (n+1))),putRow (λx=>(enc x)[0]!) w bJ 0 hU=Go.Sort.putRowK enc 1 w bJ 0 hU:=λw hU=>by
  unfold Go.Sort.putRowK;unfold putRow;congr 1;funext c;exact aiQ hk hU 0 c
 have YX:∀m hU os,sortWorld (λx=>(enc x)[0]!) w bJ 0 m hU os=sortWorldK enc 1 w bJ 0 m hU os:=λm hU os=>by
  unfold sortWorld sortWorldK
  grind
 have j5:∀x,(enc x)[0]!∈enc x:=λx=>by
  grind
 have aiT:Go.Sort.Holds (λx=>(enc x)[0]!) w bJ 0 d:=λj aq=>by
  have:=hH j (by simp_all);rw[Go.Sort.get_flatK _ _ _ _ (by omega),Nat.div_one,Nat.mod_one]at this
  grind
 have:=Any.slices_SortFunc L (λx=>(enc x)[0]!) (λx=>h1 x _ (j5 x)) cf hO g cb bJ 0 cap d w aiS (λm os hU ae x y=>by
  rw[YX];exact Lq m os hU ae x y) aiT hblk cE
 grind
open Go Go.Proofs
open Go.Sort (grow putRow putCells mapBlock HoldsK PermIn SortedIn SWO)
def QY:ak->Bool
 | .c9 _| .v _=>true
 |_=>false
theorem aiU{A:Nat->Prop}{os:c2}{w:World}{x:Value}{d:ak}(h:bg A os w x d)(aj:QY d=true):b8 A w x d:=by
 cases d<;>simp[QY]at aj
 ·obtain⟨rfl,h1⟩:=h.j1;exact .v h1
 ·exact h.wk
theorem YY{A:Nat->Prop}{w:World}:∀ {vs:List Value} {ds:List ak},vs.length=ds.length->(∀ (i:Nat) v d,vs[i]?=some v->ds[i]?=some d->b8 A w v d)->sz A w vs ds
 | [],[],_,_=>trivial
 | [],_::_,h,_=>by simp at h
 |_::_,[],h,_=>by simp at h
 |v::vs,d::ds,af,h=>⟨h 0 v d rfl rfl,YY (by simpa using af) (λi v d ab aa=>h (i+1) v d ab aa)⟩
theorem aiV{g:FuncId}{e:TypeId}{aB:Nat}{agg:Bool}(az:∀ (vs:Array Value) (w:World),(callFunc f vs).run P w= .ok (.enter f vs) w)(cF:YW P f g aB agg)
  (jn:∀ (p:Option Addr) (cap:Nat) (QZ:Value) (w:World),Calls P f #[.slice p 0 cap,QZ] w λe w'=>e= .returned (.tuple #[])/\w'=w)
  {β:Type} (F:β->List ak) (l cO:List β) (cf:β->β->Int) (hO:SWO (ltOf cf)) (aiW:∀x∈l,∀y∈l,ltOf cf x y=false->ltOf cf y x=false->x=y)
  (an:cO.Perm l) (ae:cO.Pairwise λx y=>ltOf cf y x=false) (hlen:l.length<4611686018427387904) (cu:List ak) (PI:∀d∈cu,QY d=true) (yY:agg=false->aB=1)
  (Lq:∀x∈l,∀y∈l,bl P g ([Lp agg (F x),Lp agg (F y)]++cu) (.v (.int .i64 (cf x y)))):
  cm P f [.row e aB (l.map F)] [.own 0,.fn (.func g) cu] [true] [.row e aB (cO.map F)] (.bd []):=by
 refine⟨az,λA w os fH al eh ab=> ?_⟩;obtain⟨x,rfl⟩:∃x,os=[(x,aZ.row e aB (l.map F))]:=by
  have:=eh.loc
  match os,this with
  | [(x,o)],this=>simp at this;subst this;exact⟨x,rfl⟩
 match fH,ab with
 | [fk,jo],⟨h1,ad,_⟩=>
 have aC:fk=x:=h1.q6 (i:=0) rfl;subst aC;obtain⟨wE,rfl,iy,YZ⟩:=ad.tA;obtain⟨cr,xs,⟨qt,fj⟩,cE,hc,br,dD⟩:=eh.cV 0 fk _ rfl;have Lr:∀ {w':World},l=[]->w'=w->∃v aT,Ending.returned (.tuple #[])= .returned v/\uO A aT [.row e aB (cO.map F)] w'/\bg (bi A aT) aT w' v (.bd [])/\pD (hn [(fk,aZ.row e aB (l.map F))]) w w'/\(∀b,hn aT b->hn [(fk,aZ.row e aB (l.map F))] b\/w.heap.size<=b)/\
   ∀ (i:Nat) x o,([true]:List Bool)[i]?=some true->([(fk,aZ.row e aB (l.map F))]:c2)[i]?=some (x,o)->∃aU,aT[i]?=some (x,aU):=by
  intro w' af hw;subst af hw;have:cO=[]:=an.eq_nil;subst this;exact⟨_,_,rfl,eh,.bT (.bd (vs:=[]) (ds:=[]) rfl (λi v d h=>by simp at h)),⟨rfl,rfl,rfl,bP _,λ_ _ _=>rfl⟩,λb h=>.inl h,λi x o h1 ad=>⟨o,ad⟩⟩
 rw[bF]at fj qt;rcases fj with⟨rfl,aR⟩| ⟨bJ,cap,cur,rfl,_,tT,rV,qs,lN,pU⟩
 ·have af:l=[]:=v2.1 aR;refine(jn none 0 _ w).mono λe w' he=> ?_;obtain⟨rfl,hw⟩:=he;exact Lr af hw
 by_cases ox:l.length=0
 ·have af:l=[]:=v2.1 ox;have wF:Calls P f #[.slice (some ⟨bJ,0,none⟩) l.length cap,.func (.func g) #[] wE.toArray] w λe w'=>e= .returned (.tuple #[])/\w'=w:=by
   rw[ox];exact jn _ _ _ _
  refine wF.mono λe w' he=> ?_;obtain⟨rfl,hw⟩:=he;exact Lr af hw
 obtain⟨n,aW⟩:∃n,l.length=n+1:=⟨l.length-1,by omega⟩
 have cM:∀i:Fin (n+1),i.1<l.length:=λi=>by omega
 let enc:Fin (n+1)->List Value:=λi=>(xs.drop (i.1*aB)).take aB
 let Hm:Fin (n+1)->Fin (n+1)->Int:=λi j=>cf (l[i.1]'(cM i)) (l[j.1]'(cM j))
 have Y0:∀i,enc i=(xs.drop (i.1*aB)).take aB:=λi=>rfl;have avv:∀i j,Hm i j=cf (l[i.1]'(cM i)) (l[j.1]'(cM j)):=λi j=>rfl;have aiX:∀i:Fin (n+1),i.1*aB+aB<=xs.length:=λi=>by
  rw[qt,aW];have:=kJ aB (show i.1+1<=n+1 by omega);rwa[uG,FV]at this
 have gl:∀i,(enc i).length=aB:=λi=>by
  have:=aiX i;rw[Y0,kZ,sp];omega
 have Y1:∀ (i:Fin (n+1)) j,j<aB->(enc i)[j]?=xs[i.1*aB+j]?:=λi j aq=>by
  rw[Y0,rK,b6 aq,qV]
 have DI:∀i,∀v∈enc i,v.oneCell'=true:=λi v ab=>br v (C7 (nR ab));have aiY:SWO (ltOf Hm):=⟨λx=>hO.irrefl _,λx y z=>hO.trans _ _ _,λx y z=>hO.ntrans _ _ _⟩
 let d:Array (Fin (n+1)):=Array.ofFn λi=>i
 have zk:d.size=n+1:=by simp[d]
 have Hn:∀t (h:t<n+1),d[t]! = ⟨t,h⟩:=λt h=>by
  rw[su d t (by rw[zk];exact h)];simp[d]
 have aiZ:Go.Sort.flatK enc aB d=xs.toArray:=by
  refine Go.Sort.ext_get! (by rw[Go.Sort.size_flatK,zk];simp[qt,aW]) λt cH=> ?_;rw[Go.Sort.size_flatK]at cH;have Bd:t<(n+1) *aB:=by rw[zk]at cH;exact cH
  rw[Go.Sort.get_flatK _ _ _ _ cH];have bV:t/aB<n+1:=Nat.div_lt_of_lt_mul (by rwa[Az]);rw[Hn _ bV];have ao:t%aB<aB:=uH _ cE;have aG:=Y1 ⟨t/aB,bV⟩ (t%aB) ao;have bc:t/aB*aB+t%aB=t:=by rw[Az];exact Nat.div_add_mod t aB
  simp only[bc]at aG;have ah:t<xs.length:=by rw[qt,aW];exact Bd
  rw[eP ah]at aG;obtain⟨bt,b5⟩:=eL.1 aG;rw[su _ (t%aB) bt,b5,su xs.toArray t (by simpa using ah)];simp
 have ai0:∀j,j<xs.length->cur[j]?=xs[j]?:=λj aq=>by
  rw[<-pU,rK,b6 (by rw[<-qt];exact aq)];simp
 have hH:HoldsK enc aB w bJ 0 d:=by
  unfold HoldsK;rw[aiZ];intro j aq;have Ho:j<xs.length:=by simpa using aq
  refine⟨?_,?_⟩
  ·simp only[World.cell?,tT,uI];rw[su _ j aq];simp[ai0 j Ho,Ho]
  ·simp[World.frozen?,tT]
 have hblk:bJ<w.heap.size:=(xa.1 tT).1;have fK:bi A [(Value.slice (some ⟨bJ,0,none⟩) l.length cap,aZ.row e aB (l.map F))] bJ:=.inr ⟨0,_,_,rfl,by simp,rfl⟩;have Ls:∀m hU os b,b≠bJ->b<w.heap.size->(sortWorldK enc aB w bJ 0 m hU os).heap[b]?=w.heap[b]?:=λm hU os b bu ac=>by
  unfold sortWorldK Go.Sort.putRowK putRow mapBlock grow Go.Sort.ahead;simp only;rw[FC (by simpa using ac),Od,bo (Ne.symm bu)]
 have Hp:∀m hU os,w.heap.size<=(sortWorldK enc aB w bJ 0 m hU os).heap.size:=λm hU os=>size_sortWorldK_c enc aB w bJ 0 m hU os;have ls:∀m hU os,dx (bi A [(Value.slice (some ⟨bJ,0,none⟩) l.length cap,aZ.row e aB (l.map F))]) (λ_=>False) w (sortWorldK enc aB w bJ 0 m hU os):=λm hU os=>
  ⟨Hp m hU os,λb _ h=>h.elim,λb ac Eg=>Ls m hU os b (λe=>Eg (e▸fK)) ac⟩
 have pN:∀ (i:Fin (n+1)),(F (l[i.1]'(cM i))).length=aB/\∀j v pJ,(enc i)[j]?=some v->(F (l[i.1]'(cM i)))[j]?=some pJ->b8 (bi A [(Value.slice (some ⟨bJ,0,none⟩) l.length cap,aZ.row e aB (l.map F))]) w v pJ:=λi=>by
  have qy: (l.map F)[i.1]?=some (F (l[i.1]'(cM i))):=by simp[cM i]
  refine⟨hc _ (fo qy),λj v pJ ab aa=> ?_⟩;obtain⟨u,hu,lq⟩:=dD i.1 j _ pJ qy aa;have aq:j<aB:=by
   have:=hc _ (fo qy);have:=(eL.1 aa).1;omega
  rw[Y1 i j aq,hu]at ab;cases ab;exact lq
 have DZ:∀m hU os (i:Fin (n+1)),b8 (λ_=>False) (sortWorldK enc aB w bJ 0 m hU os) (tS agg (enc i)) (Lp agg (F (l[i.1]'(cM i)))):=λm hU os i=>by
  obtain⟨ic,gQ⟩:=pN i;cases agg with
  |true=>exact .agg (by rw[gl,ic]) (DI i) (λj v pJ ab aa=>(gQ j v pJ ab aa).cC (ls m hU os))
  |false=>
   have h1:=yY rfl;have iW:=gl i;rw[h1]at ic iW;simp only[tS,Lp,bs];obtain⟨u,hu⟩:=Jx.1 iW;obtain⟨pJ,aa⟩:=Jx.1 ic;rw[hu,aa]at gQ⊢;exact(gQ 0 u pJ rfl rfl).cC (ls m hU os)
 have Bz:∀args w,(callFunc g args).run P w= .ok (.enter g args) w:=(Lq _ (eM (cM ⟨0,by omega⟩)) _ (eM (cM ⟨0,by omega⟩))).1;have il:∀ (m:Nat) (os:Array Obj) (hU:Array (Fin (n+1))),hU.size=d.size->∀x y,Calls P g (#[tS agg (enc x),tS agg (enc y)]++wE.toArray) (sortWorldK enc aB w bJ 0 m hU os) λe w'=>
   e= .returned (.int .i64 (Hm x y))/\∃q aT,w'=grow ((sortWorldK enc aB w bJ 0 m hU os).drewN q) aT:=λm os hU _ i j=>by
  have ao:=(Lq _ (eM (cM i)) _ (eM (cM j))).2 (λ_=>False) (sortWorldK enc aB w bJ 0 m hU os) ([tS agg (enc i),tS agg (enc j)]++wE) (λb h=>h.elim)
   ⟨DZ m hU os i,DZ m hU os j,YY iy (λq v pJ ab aa=>(aiU (YZ q v pJ ab aa) (PI pJ (fo aa))).cC (ls m hU os))⟩
  have ao:=aiO ao;have n0: (#[tS agg (enc i),tS agg (enc j)]++wE.toArray)=([tS agg (enc i),tS agg (enc j)]++wE).toArray:=by simp
  rw[n0];refine ao.mono λe w' he=> ?_;obtain⟨⟨v,rfl,lq,Q0⟩,aa⟩:=he;have ab:v= .int .i64 (Hm i j):=lq.j1;subst ab;exact⟨rfl,aiP Q0 (aa ⟨_,rfl⟩)⟩
 have wF:=cF n enc gl DI Hm aiY wE.toArray bJ cap d w Bz il hH hblk (by rw[zk];omega);rw[zk]at wF;have ai1: ([Value.slice (some ⟨bJ,0,none⟩) l.length cap,Value.func (.func g) #[] wE.toArray]:List Value).toArray= #[.slice (some ⟨bJ,0,none⟩) ((n+1:Nat):Nat) cap,.func (.func g) #[] wE.toArray]:=by rw[aW]
 rw[ai1];refine wF.mono λfw w' he=> ?_;obtain⟨rfl,ck,m,hI,⟨Eh,_,Y2⟩,ai2,rfl⟩:=he;rw[zk]at Eh;have Y3:ck.extract 0 ck.size=ck:=Array.extract_size;rw[Eh]at Y3;have GV:d.extract 0 d.size=d:=Array.extract_size;rw[zk]at GV;rw[Y3,GV]at Y2;have hs:ck.toList.map (λi=>l[i.1]'(cM i))=cO:=by
  have ez: (d.toList.map λi=>l[i.1]'(cM i))=l:=by
   refine FL (by simp[zk,aW]) λt avw YC=> ?_;simp only[yE,Jq];have:=Hn t (by omega);rw[su d t (by omega)]at this;simp only[this]
  have sT: (ck.toList.map λi=>l[i.1]'(cM i)).Perm l:=by
   conv=>rhs;rw[<-ez]
   exact Y2.map _
  refine Om (le:=λx y=>ltOf cf y x=false) ?_ ?_ ae (sT.trans an.symm)
  ·intro a b bb ac h1 ad;exact aiW a (sT.mem_iff.1 bb) b (an.mem_iff.1 ac) ad h1
  ·rw[mz];intro i j hi aq fW;simp only[yE,Jq];simp only[bF,CW]at hi aq;have:=ai2 i j (bX _) fW (by omega);rw[su ck i hi,su ck j aq]at this;exact this
 have wM:cO.length=n+1:=by rw[<-hs];simp[Eh]
 let xW:=Go.Sort.flatK enc aB ck
 have zl:xW.size=(n+1) *aB:=by simp[xW,Eh]
 let BA:=putCells id 0 xW cur
 have ai3:BA.size=cur.size:=by simp[BA,putCells]
 have nl: (n+1) *aB<=cur.size:=by
  rw[lN,<-aW];exact kJ _ rV
 have ai4:∀t,t<(n+1) *aB->BA[t]?=some xW[t]!:=λt cH=>by
  simp only[BA,putCells,Vv];rw[vT (by omega),qh,b6 ⟨bX _,by rw[zl];omega⟩];rfl
 have ai5:BA.toList.take ((n+1) *aB)=xW.toList:=by
  refine rJ λt=> ?_;rw[rK];by_cases cH:t<(n+1) *aB
  ·rw[b6 cH,xb,ai4 t cH,su xW t (by omega)];simp[zl,cH]
  ·rw[bo cH,xf (by simp[zl];omega)]
 have Q1: (sortWorldK enc aB w bJ 0 m ck hI).heap[bJ]?=some (.cells BA e (0,0)):=by
  unfold sortWorldK Go.Sort.putRowK putRow mapBlock grow Go.Sort.ahead;simp only;rw[FC (by simpa using hblk),Od,b6 rfl,tT];rfl
 have Lt:∀b,hn [(Value.slice (some ⟨bJ,0,none⟩) l.length cap,aZ.row e aB (cO.map F))] b->b=bJ:=λb ⟨i,x,o,hi,_,ac⟩=>by
  match i,hi with
  |0,hi=>simp at hi;obtain⟨rfl,_⟩:=hi;simp[Go.Lift.bJ]at ac;exact ac.symm
 have Eg:¬A bJ:=λh=>eh.out bJ h ⟨0,_,_,rfl,by simp,rfl⟩;have ai6:dx (bi A [(Value.slice (some ⟨bJ,0,none⟩) l.length cap,aZ.row e aB (l.map F))]) (bi A [(Value.slice (some ⟨bJ,0,none⟩) l.length cap,aZ.row e aB (cO.map F))]) w (sortWorldK enc aB w bJ 0 m ck hI):=
  ⟨Hp m ck hI,λb ac h=>by
   rcases h with h|h
   ·exact .inl h
   ·rw[Lt b h];exact fK,λb ac Eg=>Ls m ck hI b (λe=>Eg (e▸fK)) ac⟩
 refine⟨_,[(Value.slice (some ⟨bJ,0,none⟩) l.length cap,aZ.row e aB (cO.map F))],rfl,⟨rfl,?_,?_,?_⟩,.bT (.bd (vs:=[]) (ds:=[]) rfl (λi v d h=>by simp at h)),⟨rfl,rfl,rfl,Hp m ck hI,?_⟩,?_,?_⟩
 ·intro i x o hi
  match i,hi with
  |0,hi=>
   simp at hi;obtain⟨rfl,rfl⟩:=hi;refine⟨λb _=>.inr trivial,xW.toList,⟨by simp[zl,wM],.inr ⟨bJ,cap,BA,by rw[bF,wM,aW],bX _,Q1,by rw[bF,wM,<-aW];exact rV,qs,by rw[ai3];exact lN,by rw[bF,wM];exact ai5⟩⟩,cE,?_,?_,?_⟩
   ·intro r ao;obtain⟨y,bn,rfl⟩:=fT.1 ao;exact hc _ (fT.2 ⟨y,an.mem_iff.1 bn,rfl⟩)
   ·intro v ab;obtain⟨t,cH,rfl⟩:=e8 ab;simp only[CW,zl]at cH;simp only[Jq];have aG:=Go.Sort.get_flatK enc aB ck t (by rw[Eh];exact cH);rw[su xW t (by omega)]at aG;rw[aG,su _ (t%aB) (by rw[gl];exact uH _ cE)];exact DI _ _ (eM _)
   ·intro k j r pJ ao aa;have hk:k<cO.length:=by have:=(eL.1 ao).1;simpa using this
    have mG:k<n+1:=by omega
    have vg:r=F (l[(ck[k]'(by omega)).1]'(cM _)):=by
     simp only[e7,eP hk,qh,v8]at ao;rw[<-ao];congr 1;simp only[<-hs,yE,Jq]
    subst vg;obtain⟨ic,gQ⟩:=pN (ck[k]'(by omega));have aq:j<aB:=by have:=(eL.1 aa).1;omega
    have ax:k*aB+j<(n+1) *aB:=by
     have:=kJ aB (show k+1<=n+1 by omega);rw[uG,FV]at this;omega
    have aG:=Go.Sort.get_flatK enc aB ck (k*aB+j) (by rw[Eh];exact ax);have bc: (k*aB+j)/aB=k:=by
     rw[Az,Nat.mul_add_div cE,Nat.div_eq_of_lt aq,xh]
    have cn: (k*aB+j)%aB=j:=by
     rw[Az,Nat.mul_add_mod,ss aq]
    rw[bc,cn,su ck k (by omega),su _ j (by rw[gl];exact aq)]at aG;refine⟨_,?_,(gQ j _ pJ (eP (by rw[gl];exact aq)) aa).cC ai6⟩;rw[xb,vT (by omega),<-aG,su xW _ (by omega)]
 ·intro i j x o y aU b hi aq _ _ _ _;have cP:=(eL.1 hi).1;have a2:=(eL.1 aq).1;simp at cP a2;omega
 ·intro b ac h;rw[Lt b h]at ac;exact Eg ac
 ·intro k hk Ei;exact Ls m ck hI k (λe=>Ei (e▸ ⟨0,_,_,rfl,by simp,rfl⟩)) hk
 ·intro b h;rw[Lt b h];exact .inl ⟨0,_,_,rfl,by simp,rfl⟩
 ·intro i x o h1 ad
  match i,ad with
  |0,ad=>simp at ad;obtain⟨rfl,_⟩:=ad;exact⟨_,rfl⟩
open Go Go.Proofs
open Go.Sort (grow putRow putCells mapBlock Holds)
def ly(x:Int):List ak:=[.v (.int .i64 x)]
theorem ai7(cur:Array Value)(dZ cO:List Int)(h:dZ.length<=cur.size)(an:dZ.take cO.length=cO)(af:cO.length<=dZ.length): (putCells (Value.int .i64) 0 dZ.toArray cur).toList.take cO.length=cO.map (Value.int .i64):=by
 apply rJ;intro j;by_cases aq:j<cO.length
 ·have e:cO[j]?=dZ[j]?:=by
   grind
  rw[List.getElem?_take_of_lt aq,xb,e7,e];have h1:j<dZ.length:=by omega
  simp[putCells,h1,show j<cur.size by omega]
 grind
theorem ai8{A:Nat->Prop}{w:World}{bJ cap n:Nat}{hI:Array Obj}{e:TypeId}{l cO dZ:List Int}{cur:Array Value}
  (eh:uO A [(Value.slice (some ⟨bJ,0,none⟩) l.length cap,aZ.row e 1 (l.map ly))] [aZ.row e 1 (l.map ly)] w)
  (tT:w.heap[bJ]?=some (.cells cur e (0,0))) (bx:dZ.length=l.length) (rV:l.length<=cap) (qs:cap<=maxLen) (lN:cur.size=cap*1) (Q2:dZ.take cO.length=cO) (iP:cO.length<=l.length):
  uO A [(Value.slice (some ⟨bJ,0,none⟩) cO.length cap,aZ.row e 1 (cO.map ly))] [aZ.row e 1 (cO.map ly)] (grow (putRow (Value.int .i64) (Go.Sort.ahead w n) bJ 0 dZ.toArray) hI)/\
  pD (hn [(Value.slice (some ⟨bJ,0,none⟩) l.length cap,aZ.row e 1 (l.map ly))]) w (grow (putRow (Value.int .i64) (Go.Sort.ahead w n) bJ 0 dZ.toArray) hI)/\
  ∀b,hn [(Value.slice (some ⟨bJ,0,none⟩) cO.length cap,aZ.row e 1 (cO.map ly))] b->hn [(Value.slice (some ⟨bJ,0,none⟩) l.length cap,aZ.row e 1 (l.map ly))] b\/w.heap.size<=b:=by
 have hblk:bJ<w.heap.size:=(xa.1 tT).1;have Q1: (grow (putRow (Value.int .i64) (Go.Sort.ahead w n) bJ 0 dZ.toArray) hI).heap[bJ]?=some (.cells (putCells (Value.int .i64) 0 dZ.toArray cur) e (0,0)):=by
  unfold putRow mapBlock grow Go.Sort.ahead;simp only;rw[FC (by grind),Od,b6 rfl,tT];rfl
 have Ls:∀b,b≠bJ->b<w.heap.size->(grow (putRow (Value.int .i64) (Go.Sort.ahead w n) bJ 0 dZ.toArray) hI).heap[b]?=w.heap[b]?:=λb bu ac=>by
  unfold putRow mapBlock grow Go.Sort.ahead
  grind
 have Hp:w.heap.size<=(grow (putRow (Value.int .i64) (Go.Sort.ahead w n) bJ 0 dZ.toArray) hI).heap.size:=by
  simp
 have Lt:∀b,hn [(Value.slice (some ⟨bJ,0,none⟩) cO.length cap,aZ.row e 1 (cO.map ly))] b->b=bJ:=λb ⟨i,x,o,hi,_,ac⟩=>by
  match i,hi with
  |0,hi=>simp at hi;obtain⟨rfl,_⟩:=hi;simp[Go.Lift.bJ]at ac;omega
 have jB:hn [(Value.slice (some ⟨bJ,0,none⟩) l.length cap,aZ.row e 1 (l.map ly))] bJ:=⟨0,_,_,rfl,by simp,rfl⟩
 have Eg:¬A bJ:=λh=>eh.out bJ h jB;have ez: (putCells (Value.int .i64) 0 dZ.toArray cur).size=cur.size:=by simp[putCells]
 refine⟨⟨rfl,?_,?_,?_⟩,⟨rfl,rfl,rfl,Hp,?_⟩,?_⟩
 ·intro i x o hi
  match i,hi with
  |0,hi=>
   simp at hi;obtain⟨rfl,rfl⟩:=hi;refine⟨λb _=>.inr trivial,cO.map (Value.int .i64),⟨by simp,.inr ⟨bJ,cap,_,by simp,bX _,Q1,by grind,qs,by omega,?_⟩⟩,Nat.one_pos,?_,?_,?_⟩
   ·rw[bF,C9];exact ai7 cur dZ cO (by omega) Q2 (by omega)
   ·intro r ao;obtain⟨y,bn,rfl⟩:=fT.1 ao;rfl
   ·intro v ab;obtain⟨y,bn,rfl⟩:=fT.1 ab;rfl
   ·intro k j r pJ ao aa;have hk:k<cO.length:=by grind
    simp only[e7,eP hk,qh,v8]at ao;subst ao
    match j,aa with
    |0,aa=>
     simp only[ly,C1,v8]at aa;subst aa;exact⟨.int .i64 cO[k],by simp,.v rfl⟩
    |j+1,aa=>simp[ly]at aa
 all_goals grind
variable{e:TypeId}
theorem Q3(az:∀ (vs:Array Value) (w:World),(callFunc f vs).run P w= .ok (.enter f vs) w)(l cO dZ:List Int)(kept:List Bool)(d:ak)(R:Option Addr->Nat->Value)
  (jn:l=[]->∀ (p:Option Addr) (cap:Nat) (w:World),Calls P f #[.slice p 0 cap] w λe w'=>e= .returned (R p cap)/\w'=w)
  (il:∀ (bJ cap:Nat) (w:World),Go.Sort.Holds (Value.int .i64) w bJ 0 l.toArray->bJ<w.heap.size->l.length<=cap->Calls P f #[.slice (some ⟨bJ,0,none⟩) l.length cap] w λe w'=>e= .returned (R (some ⟨bJ,0,none⟩) cap)/\∃n os,w'=grow (putRow (Value.int .i64) (Go.Sort.ahead w n) bJ 0 dZ.toArray) os)
  (bx:dZ.length=l.length) (Q2:dZ.take cO.length=cO) (iP:cO.length<=l.length) (o5:kept=[false]\/cO.length=l.length)
  (b4:∀A w (aT:c2) p cap,aT[0]?=some (.slice p cO.length cap,.row e 1 (cO.map ly))->bg (bi A aT) aT w (R p cap) d):
  cm P f [.row e 1 (l.map ly)] [.own 0] kept [.row e 1 (cO.map ly)] d:=by
 refine⟨az,λA w os fH al eh ab=> ?_⟩;obtain⟨x,rfl⟩:∃x,os=[(x,aZ.row e 1 (l.map ly))]:=by
  have:=eh.loc
  simp_all
 match fH,ab with
 | [fk],⟨h1,_⟩=>
 have aC:fk=x:=h1.q6 (i:=0) rfl;subst aC;obtain⟨cr,xs,⟨qt,fj⟩,cE,hc,br,dD⟩:=eh.cV 0 fk _ rfl;rw[bF]at fj qt;have Lu:∀ (p:Option Addr) (cap:Nat),l=[]->fk= .slice p 0 cap->Calls P f [fk].toArray w λai9 w'=>∃v aT,ai9= .returned v/\uO A aT [.row e 1 (cO.map ly)] w'/\bg (bi A aT) aT w' v d/\pD (hn [(fk,aZ.row e 1 (l.map ly))]) w w'/\(∀b,hn aT b->hn [(fk,aZ.row e 1 (l.map ly))] b\/w.heap.size<=b)/\
   ∀ (i:Nat) x o,kept[i]?=some true->([(fk,aZ.row e 1 (l.map ly))]:c2)[i]?=some (x,o)->∃aU,aT[i]?=some (x,aU):=λp cap af P3=>by
  subst af P3;have:cO=[]:=v2.1 (by grind);subst this;refine(jn rfl p cap w).mono λfw w' he=> ?_;obtain⟨rfl,rfl⟩:=he;exact⟨_,_,rfl,eh,b4 _ _ _ p cap rfl,⟨rfl,rfl,rfl,bP _,λ_ _ _=>rfl⟩,λb h=>.inl h,λi x o h1 ad=>⟨o,ad⟩⟩
 rcases fj with⟨rfl,aR⟩| ⟨bJ,cap,cur,rfl,_,tT,rV,qs,lN,pU⟩
 ·grind
 by_cases ox:l.length=0
 ·grind
 have hblk:bJ<w.heap.size:=(xa.1 tT).1;have hH:Go.Sort.Holds (Value.int .i64) w bJ 0 l.toArray:=by
  intro j aq;have Ho:j<l.length:=by omega
  have nY: (l.map ly)[j]?=some (ly l[j]):=by grind
  obtain⟨u,hu,lq⟩:=dD j 0 _ _ nY (rfl: (ly l[j])[0]?=some (.v (.int .i64 l[j])));have aja:u= .int .i64 l[j]:=lq.j1;subst aja;rw[C9,xh,<-pU,rK]at hu;have gT:j<l.length*1:=by omega
  rw[b6 gT,xb]at hu;refine⟨?_,by simp[World.frozen?,tT]⟩;simp only[World.cell?,tT,uI]
  grind
 refine(il bJ cap w hH hblk rV).mono λfw w' he=> ?_;obtain⟨rfl,n,hI,rfl⟩:=he;obtain⟨g1,g2,g3⟩:=ai8 (n:=n) (hI:=hI) eh tT bx rV qs lN Q2 iP
 grind
theorem ajb{f:FuncId}{e:TypeId}(L:Lays.n189 P ρ)(zd:ρ.f 189=f)(az:∀ (vs:Array Value) (w:World),(callFunc f vs).run P w= .ok (.enter f vs) w)(l cO:List Int)(an:cO.Perm l)(ae:cO.Pairwise λx y=>x<=y)(hlen:l.length<4611686018427387904):
  cm P f [.row e 1 (l.map ly)] [.own 0] [true] [.row e 1 (cO.map ly)] (.bd []):=by
 subst zd;have he:l.mergeSort (λx y=>decide (x<=y))=cO:=by
  have h1:=OC (le:=λx y:Int=>decide (x<=y)) (λa b c h1 ad=>by grind) (λa b=>by grind) l;refine Om (le:=λx y:Int=>x<=y) (λa b _ _ h1 ad=>by omega) (h1.imp λh=>by grind) ae ((OA _ _).trans an.symm)
 refine Q3 az l cO cO [true] (.bd []) (λ_ _=>.tuple #[]) (λ_ p cap w=>Any.slices_Sort_int_none L p cap w) (λbJ cap w hH ac _=> ?_) an.length_eq (fU ..) (JE an.length_eq) (.inr an.length_eq) (λA w aT p cap h=>.bT (.bd (vs:=[]) (ds:=[]) rfl (λi v d h=>by simp)));have h:=Any.slices_Sort_int L bJ 0 cap l w hH ac hlen
 grind
theorem ajc(w:World):grow w #[]=w:=by
 rfl
theorem Y4(l:List Int): (Lib.compact l).length<=l.length:=by
 unfold Lib.compact Lib.compactUpTo
 grind
theorem ajd{f:FuncId}{e:TypeId}(L:Lays2.n20 P ρ)(zd:ρ.f 20=f)(az:∀ (vs:Array Value) (w:World),(callFunc f vs).run P w= .ok (.enter f vs) w)(l:List Int)(hlen:l.length<=9223372036854775807):
  cm P f [.row e 1 (l.map ly)] [.own 0] [false] [.row e 1 ((Lib.compact l).map ly)] (.own 0):=by
 subst zd;have aj:=Y4 l;by_cases af:l=[]
 ·subst af;refine Q3 az [] (Lib.compact []) [] [false] (.own 0) (λp cap=>.slice p (Lib.compact ([]:List Int)).length cap) (λ_ p cap w=>Any.slices_Compact_int_empty L p cap w) (λbJ cap w hH ac _=> ?_) rfl rfl (bP _) (.inl rfl) (λA w aT p cap h=>.own h rfl);refine(Any.slices_Compact_int_empty L (some ⟨bJ,0,none⟩) cap w).mono λfw w' he=> ?_;obtain⟨rfl,rfl⟩:=he;refine⟨rfl,0,#[],?_⟩;refine(Go.Sort.putRow_self (Value.int .i64) _ bJ 0 #[] ?_).symm.trans ?_;all_goals simp_all
 ·refine Q3 az l (Lib.compact l) (Lib.compact l++List.replicate (l.length- (Lib.compact l).length) 0) [false] (.own 0) (λp cap=>.slice p (Lib.compact l).length cap) (λh=>absurd h af) (λbJ cap w hH ac iL=> ?_) (by grind) (by simp) aj (.inl rfl) (λA w aT p cap h=>.own h rfl)
  ·refine(Any.slices_Compact_int L bJ 0 cap l w hH hlen iL).mono λfw w' he=> ?_;obtain⟨rfl,q,rfl⟩:=he;exact⟨rfl,q,#[],(ajc _).symm⟩
theorem Y5{dZ:List Int}(ae:dZ.Pairwise λx y=>x<=y):∀m,m<=dZ.length->(Lib.compactUpTo dZ.toArray m).Pairwise (λx y=>x<y)/\∀x,x∈Lib.compactUpTo dZ.toArray m↔x∈dZ.take m
 |0,_=>by simp[Lib.compactUpTo]
 |m+1,h=>by
  obtain⟨h1,ad⟩:=Y5 ae m (by omega);have aA:m<dZ.length:=by omega
  have aC:dZ.toArray[m]! =dZ[m]:=by grind
  have hg:∀x,x∈dZ.take m->x<=dZ[m]:=λx ah=>by
   obtain⟨j,aq,rfl⟩:=e8 ah;rw[FN];rw[kZ]at aq;exact mz.1 ae j m (by omega) aA (by omega)
  rw[Lib.compactUpTo_succ,e4 aA,aC];by_cases aR:m=0
  ·subst aR;have hk:Lib.keeps dZ.toArray 0=true:=Lib.keeps_lt_one _ 0 (by omega)
   grind
  ·have Q4:m-1<dZ.length:=by omega
   have aG:dZ.toArray[m-1]! =dZ[m-1]:=by grind
   have cL:dZ[m-1]∈dZ.take m:=by
    refine List.mem_iff_getElem.2 ⟨m-1,by grind,?_⟩;simp
   by_cases he:dZ[m]=dZ[m-1]
   ·have hk:Lib.keeps dZ.toArray m=false:=Lib.keeps_neg (by omega) (by omega)
    grind
   ·have hk:Lib.keeps dZ.toArray m=true:=Lib.keeps_pos (by omega);rw[b6 hk];refine⟨FR.2 ⟨h1,by simp,λx ah y bn=> ?_⟩,λx=> ?_⟩
    ·rw[eX]at bn;subst bn;have ah:=(ad x).1 ah;have aN:=hg x ah;obtain⟨j,aq,rfl⟩:=e8 ah;rw[FN]at aN⊢;rw[kZ]at aq;have hle:dZ[j]<=dZ[m-1]:=by
      by_cases aje:j=m-1
      ·grind
      ·exact mz.1 ae j (m-1) (by omega) Q4 (by omega)
     grind
    grind
theorem Y6{dZ:List Int}(ae:dZ.Pairwise λx y=>x<=y): (Lib.compact dZ).Pairwise (λx y=>x<y)/\∀x,x∈Lib.compact dZ↔x∈dZ:=by
 have h:=Y5 ae dZ.length (bP _);rw[fU]at h;exact h
open Go
def Q5(d:ak):Bool:=
 match d with
 | .v _=>true
 |_=>false
theorem ajf{T e:TypeId}{cs ds:List ak}{aB:Nat}{jP:List (List ak)}{R:List aZ}(kept:List Bool)(h:cm P f [] [.c9 ds] [] [.row e aB jP] (.own 0))
  (aa:∀ (i:Nat) d,ds[i]?=some d->∃c,cs[i]?=some c/\(d= .a1\/(d=c/\q0 c=true))) (an:∀r∈jP,∀d∈r,Q5 d=true) (b4:∀o∈R,∀l,o≠ .cD l):
  cm P f (.cells T cs::R) [.aV 0 0] kept (.cells T cs::R) (.ar aB jP false):=by
 refine⟨h.1,λA w os fH al eh ab=> ?_⟩
 match fH,ab with
 | [v0],⟨P4,_⟩=>
 obtain⟨g,eD,dG,hi,rfl⟩:=P4.q5;have lN:dG=cs:=by
  have:=eh.loc;have aR: (os.map (·.2))[0]?=some (.cells eD dG):=by grind
  grind
 subst lN;obtain⟨arr,bC,_,_,_,_,dD⟩:=xB eh.cV hi;have ajg:¬A g:=λaw=>eh.out g aw ⟨0,_,_,hi,by simp,rfl⟩;have qu:b8 A w (.pointer (some ⟨g,0,none⟩)) (.c9 ds):=by
  refine Gs ajg (xa.1 bC).1 (λq d bV=> ?_);obtain⟨c,aj,o4⟩:=aa q d bV;obtain⟨v,h1,ad,aN⟩:=dD q c aj;refine⟨v,by rw[Addr.pH,uI];exact h1,ad,?_⟩;rcases o4 with rfl| ⟨rfl,ez⟩
  ·exact .a1
  ·exact(aN.plain ez).2.cC (dx.ib (λ_ ac=>.inl ac))
 have fK:∀b,bi A [] b->A b:=λb ac=>by
  rcases ac with ac| ⟨i,x,o,hi,_⟩;all_goals grind
 have ajh:uO A [] [] w:=⟨rfl,λi x o hi=>by grind,λi j x o y aU b hi=>by simp,λb _ ⟨i,x,o,hi,_⟩=>by grind⟩
 refine(h.2 A w [] [.pointer (some ⟨g,0,none⟩)] al ajh ⟨.bT (qu.cC (dx.ib fK)),ai⟩).mono λfw w' he=> ?_;obtain⟨v',hI,rfl,DY,tC,rh,nD,_⟩:=he;have rW:∀b,b<w.heap.size->w'.heap[b]?=w.heap[b]?:=λb ac=>rh.block b ac (λ⟨i,x,o,hi,_⟩=>by grind);refine⟨v',os,rfl,?_,?_,⟨rh.os,rh.tape,rh.output,rh.size,λk hk _=>rW k hk⟩,λb ac=>.inl ac,λi x o _ ad=>⟨o,ad⟩⟩
 ·refine⟨eh.loc,λi x o aji=> ?_,eh.inj,eh.out⟩;have aH:=eh.cV i x o aji;have Q6:∀l,o≠ .cD l:=λl mJ=>by
   have aR: (os.map (·.2))[i]?=some o:=by grind
   rw[eh.loc]at aR
   grind
  have hk:=aH.cC (dy:=bi A os) (aT:=os) (w':=w') ⟨rh.size,λ_ _ ac=>ac,λb ac _=>rW b ac⟩ (λi x o h=>⟨o,h,by cases o<;>simp[er]⟩) (λb gV ac=>rW b (aH.iX gV ac).2);exact hk.yQ Q6 (λb _ _=>.inr trivial)
 ·obtain⟨wt,ajj⟩:∃wt,hI=[(wt,aZ.row e aB jP)]:=by
   have:=DY.loc
   simp_all
  subst ajj;have nd:=tC.q6 (i:=0) rfl;subst nd;have aH:=DY.cV 0 v' _ rfl;obtain⟨xs,b2,cE,ao⟩:=ww aH;have l9:hS (bi A os) w' xs jP aB:=⟨ao.len,ao.jP,ao.eg,λk j r d hk aq=>by
   obtain⟨v,ab,hi⟩:=ao.hq k j r d hk aq;have ez:=an r (fo hk) d (fo aq);cases d with
   |v y=>
    obtain⟨rfl,h1⟩:=(bg.bT (os:=[]) hi).j1;exact⟨_,ab,.v h1⟩
   |_=>simp[Q5]at ez⟩
  have qx:lK (bi A os) os (VR w') w' v' (.row e aB jP):=rU (DM aH) b2 cE l9;refine .bT (Kz qx (λ_ ac=>ac) (λb ac ajk=> ?_));have pM:w.heap.size<=b:=by
   rcases nD b ⟨0,_,_,rfl,by simp,ac⟩with⟨i,x,o,hi,_⟩|ad;all_goals grind
  rcases ajk with ad| ⟨i,x,o,hi,gV,cy⟩
  ·grind
  ·have:=((eh.cV i x o hi).iX gV cy).2;omega
theorem ajl{T e:TypeId}{cs dG:List ak}{off aB:Nat}{R:List aZ}{args:List ak}{kept:List Bool}{bL:List aZ}{d:ak}
  (h:cm P f (.cells T dG:: (R++ [.row e (aB+1) []])) args kept bL d) (vc:cs[off]?=some .av) (lN:dG=cs.set off (.own (R.length+1))) (n:Nat):
  cm P f (.cells T cs::R) args (kept.take n) bL d:=by
 refine⟨h.1,λA w os fH al eh ab=> ?_⟩;obtain⟨kw,mi,rfl,b4⟩:∃kw mi,os=(kw,aZ.cells T cs)::mi/\mi.map (·.2)=R:=by
  have:=eh.loc
  match os,this with
  | (x,o)::r,this=>
   grind
 have Y7:mi.length=R.length:=by grind
 have Lv:∀ (i:Nat) x o,((kw,aZ.cells T dG):: (mi++ [(Value.slice none 0 0,aZ.row e (aB+1) [])]))[i]?=some (x,o)->(i=0/\x=kw/\o= .cells T dG)\/(i≠0/\((kw,aZ.cells T cs)::mi)[i]?=some (x,o))\/(i=mi.length+1/\x= .slice none 0 0/\o= .row e (aB+1) []):=by
  grind
 have jj:uU ((kw,aZ.cells T cs)::mi) ((kw,aZ.cells T dG):: (mi++ [(Value.slice none 0 0,aZ.row e (aB+1) [])])):=by
  intro i x o hi;cases i with
  |zero=>simp at hi;obtain⟨rfl,rfl⟩:=hi;exact⟨_,rfl,rfl⟩
  |succ i=>
   simp only[C0]at hi⊢;have ax:=(eL.1 hi).1;exact⟨o,by grind,by cases o<;>simp[er]⟩
 have kt:∀b,hn ((kw,aZ.cells T dG):: (mi++ [(Value.slice none 0 0,aZ.row e (aB+1) [])])) b->hn ((kw,aZ.cells T cs)::mi) b:=by
  rintro b ⟨i,x,o,hi,gV,ac⟩;rcases Lv i x o hi with⟨rfl,rfl,rfl⟩| ⟨_,ad⟩| ⟨_,rfl,_⟩
  ·exact⟨0,_,_,rfl,by simp,ac⟩
  ·exact⟨i,x,o,ad,gV,ac⟩
  ·simp[bJ]at ac
 have avx:∀b,hn ((kw,aZ.cells T cs)::mi) b->hn ((kw,aZ.cells T dG):: (mi++ [(Value.slice none 0 0,aZ.row e (aB+1) [])])) b:=by
  rintro b ⟨i,x,o,hi,gV,ac⟩;obtain⟨aU,bp,hk⟩:=jj i x o hi;exact⟨i,x,aU,bp,by grind,ac⟩
 have fK:∀b,bi A ((kw,aZ.cells T dG):: (mi++ [(Value.slice none 0 0,aZ.row e (aB+1) [])])) b->bi A ((kw,aZ.cells T cs)::mi) b:=by
  rintro b (ac|ac)
  ·exact .inl ac
  ·exact .inr (kt b ac)
 have hk:dx (bi A ((kw,aZ.cells T cs)::mi)) (bi A ((kw,aZ.cells T dG):: (mi++ [(Value.slice none 0 0,aZ.row e (aB+1) [])]))) w w:=dx.ib fK;have DY:uO A ((kw,aZ.cells T dG):: (mi++ [(Value.slice none 0 0,aZ.row e (aB+1) [])])) (.cells T dG:: (R++ [.row e (aB+1) []])) w:=by
  refine⟨by grind,λi x o hi=> ?_,λi j x o y aU b hi aq wG kv nD hf=> ?_,λb ac bC=>eh.out b ac (kt b bC)⟩
  ·rcases Lv i x o hi with⟨rfl,rfl,rfl⟩| ⟨_,ad⟩| ⟨_,rfl,rfl⟩
   ·obtain⟨g,arr,ah,cr,bC,ae,br,ao⟩:=eh.cV 0 _ _ rfl;refine⟨g,arr,ah,cr,bC,by grind,br,λj v d ab aa=> ?_⟩;rw[lN,C2]at aa;split at aa
    ·rename_i aq;subst aq;split at aa
     ·cases aa;have:=(ao _ v _ ab vc).o0;subst this;refine .own (e:=e) (aB:=aB+1) (es:=[]) ?_ rfl
      grind
     grind
    ·exact(ao j v d ab aa).cC hk jj
   ·exact(eh.cV i x o ad).cC hk jj (λ_ _ _=>rfl)
   ·exact⟨λb ac=>by simp[bJ]at ac,[],JK w 0 e (aB+1),OO _,by simp,by simp,by simp⟩
  ·have f1:∃dw,((kw,aZ.cells T cs)::mi)[i]?=some (x,dw)/\dw≠ .bm:=by
    rcases Lv i x o hi with⟨rfl,rfl,rfl⟩| ⟨_,ad⟩| ⟨_,rfl,_⟩
    ·simp
    ·grind
    ·simp[bJ]at nD
   have f2:∃dw,((kw,aZ.cells T cs)::mi)[j]?=some (y,dw)/\dw≠ .bm:=by
    rcases Lv j y aU aq with⟨rfl,rfl,rfl⟩| ⟨_,ad⟩| ⟨_,rfl,_⟩
    ·simp
    ·grind
    ·simp[bJ]at hf
   obtain⟨dw,g1,lr⟩:=f1;obtain⟨fV,g2,ma⟩:=f2;exact eh.inj i j x dw y fV b g1 g2 lr ma nD hf
 have ct:∀ (vs:List Value) (ds:List ak),xr (bi A ((kw,aZ.cells T cs)::mi)) ((kw,aZ.cells T cs)::mi) w vs ds->xr (bi A ((kw,aZ.cells T dG):: (mi++ [(Value.slice none 0 0,aZ.row e (aB+1) [])]))) ((kw,aZ.cells T dG):: (mi++ [(Value.slice none 0 0,aZ.row e (aB+1) [])])) w vs ds:=by
  intro vs;induction vs with
  |nil=>intro ds h;cases ds<;>exact h
  |cons v vs aY=>
   intro ds h;cases ds with
   |nil=>exact h
   |cons d ds=>exact⟨h.1.cC hk jj,aY ds h.2⟩
 refine(h.2 A w _ fH al DY (ct fH args ab)).mono λfw w' he=> ?_;obtain⟨v',hI,rfl,PR,tC,rh,nD,sI⟩:=he;refine⟨v',hI,rfl,PR,tC,⟨rh.os,rh.tape,rh.output,rh.size,λk hk aW=>rh.block k hk (λbC=>aW (kt k bC))⟩,λb ac=> ?_,λi x o QS hi=> ?_⟩;all_goals grind
open Go
theorem aS{l:List ak}{r:ak}{K:List ak->ak->Prop}{R:Prop}(h:bl P f l r)(k:K l r): (∃a b,mZ l a/\bl P f a b/\K a b)\/R:=.inl ⟨_,_,AJ _,h,k⟩
theorem dz{l:List ak}{r:ak}{K:List ak->ak->Prop}{g:Prop}(h:bl P f l r)(k:K l r):∃a b,mZ l a/\(g->bl P f a b)/\K a b:=⟨_,_,AJ _,λ_=>h,k⟩
theorem Y8{loc:List aZ}{ρ:Nat->Nat}:∀ {p:List Nat} {L:List aZ},p.map (bR loc)=L.map (gP ρ)->sB loc ρ p L
 | [],[],_=>trivial
 |_::_,_::_,h=>by
  simp only[om,List.cons.injEq]at h;exact⟨by rw[h.1];exact .refl,Y8 h.2⟩
 | [],_::_,h=>by cases h
 |_::_,[],h=>by cases h
theorem bS{L bL:List aZ}{cP a0:List ak}{kept:List Bool}{d:ak}{p:List Nat}{loc:List aZ}{R:List aZ->List aZ->Nat->Nat}{C:List aZ->List ak->List Bool->List aZ->ak->Bool}{K:List aZ->List ak->List Bool->List aZ->ak->Prop}(h:cm P f L a0 kept bL d)(k:K L a0 kept bL d)(c:C L a0 kept bL d=true:=by rfl)(o:p.map (bR loc)=L.map (gP (R L bL)):=by rfl)(e:cP=a0.map (k0 (R L bL)):=by rfl):∃L a0 kept bL d,cm P f L a0 kept bL d/\C L a0 kept bL d=true/\sB loc (R L bL) p L/\mZ cP (a0.map (k0 (R L bL)))/\K L a0 kept bL d:=⟨_,_,_,_,_,h,c,Y8 o,by rw[e];exact AJ _,k⟩
theorem be{a b:Prop}(h:b): (a->a)/\b:=⟨λh=>h,h⟩
theorem cd{a b:Prop}(h:b)(k:a:=by kernel_rfl):a/\b:=⟨k,h⟩
theorem dr{a b c:Prop}(h:c): ((a->a)/\(b->b))/\c:=⟨⟨λh=>h,λh=>h⟩,h⟩
end Go.Lift
