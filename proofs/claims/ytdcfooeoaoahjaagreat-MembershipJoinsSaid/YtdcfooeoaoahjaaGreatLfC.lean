/- A data-level logic for the model: what a body does to data; its soundness (part LfC). No conditions. -/
import Derived.Test.YtdcfooeoaoahjaaGreatLfB
import Derived.Deep.LoopGhost
import Derived.Scope
import Derived.ProofKit
import Derived.OpenShut
import Derived.Carry
import Derived.Deep.Slices
import Derived.Shelf.SlSortCmp.NoneTotal
import Derived.Shelf.Sort.Plain
import Derived.Shelf.Slices.In.SortNone
import Derived.Shelf.Slices.CompactI
set_option linter.unusedSimpArgs false
set_option linter.unusedVariables false
set_option maxRecDepth 100000
set_option maxHeartbeats 16000000
namespace Go.Lift
open Go
section
variable {P:Program} {ah:dJ} {aD:Nat->Prop} {ba:e8} {n:Nat} {os:c3} {s s':bJ} {a:Act} {w:World} {o:Oper} {A:Nat->Prop} {B:e8} {ρ:Operand->ak} {loc e0:List aX} {Q:Option Prop->ak->Prop} {ops:Array Oper}
variable {E:Exit->Act->World->Prop} {idx:Nat}
theorem PH{size:Nat}:∀ {l:List (Nat×Operand)} {es:List (List ak)} {K:List (List ak)->Prop},tk ρ size l es K->∃fK,K fK/\∀qV,qV fK->tk ρ size l es qV
 | [],es,K,h=>⟨es,h,λ_ bp=>bp⟩
 | (i,x)::r,es,K,h=>by
  have h:=ir.1 h;split at h
  ·rename_i ac;obtain⟨fK,h1,ad⟩:=PH h;refine⟨fK,h1,λqV bp=> ?_⟩;unfold tk;refine ir.2 ?_
   grind
  grind
theorem b7.tc{w:World}{a:Addr}{n ay:Nat}{es:List (List ak)}{f:Bool}(h:b7 A w (.slice (some a) n n) (.av ay es false)):b7 A w (.slice (some a) n n) (.av ay es f):=by
 cases h with
 |av xs aV al az au cC ai ac br dD ag=>exact .av xs aV al az (λ_=>rfl) cC ai ac br dD ag
theorem agC(aw:dw P ah=true){t e:TypeId}{m:Nat}{parts:Array (Nat×Operand)}{K:List (List ak)->Prop}(aH:o.op= .buildSlice t m parts)(hk: (aE ah t).k= .fb e)(ae: (aE ah e).size≠0)(hle:m* (aE ah e).size<=16777216) 
  (aa:∀t,o.dst=some t->t<n) (ap:tk (bF s) (aE ah e).size parts.toList (List.replicate m (aE ah e).zero) K):
  ∃es,K es/\∀f:Bool,nC P aD ba n o ⟨gF o.dst (.av (aE ah e).size es f),[],[],[]⟩ s E:=by
 obtain⟨es,tA,lu⟩:=PH ap;refine⟨es,tA,?_⟩;intro f aP s' a w h he af hlen;obtain⟨i,hi,cC,iZ,z,bt,nT,nf⟩:=rF aw ae;have hu:=lL aw hk;obtain⟨h1,ad,aN⟩:=uK (A:=bh aD aP) (w:=w) nT;have wg:qW (bh aD aP) aP w z.cells (aE ah e).zero:=⟨by omega,ad,λi v d ab aa=>.bQ (aN i v d (by grind) aa)⟩
 have fF:=ta ae;have fm:=Ge (N:=m) (m:=m) wg (λi v d ab aa=>aN i v d (by grind) aa) (by omega) (bS _);rw[nf]at fm;have tq: (madeCells z.cells (m* (aE ah e).size)).toList.length=m* (aE ah e).size:=(Cx (xs:=madeCells z.cells (m* (aE ah e).size))).trans (CQ _ _);rw[w5 (by omega)]at fm;obtain⟨cells',fK,ap,qe,kO,wy⟩:=J9 (a:=a) (os:=aP) fF parts.toList _ _ fm (ρ:=bF s) (λp an=>by
  have az:p.2∈o.op.operands.toList:=by
   rw[aH];simp only[Op.operands,fr]
   grind
  have:=h.bF p.2
  grind) (lu (λfK=>fK=es) rfl)
 subst ap;rw[CH]at wy;have lN:cells'.size=m* (aE ah e).size:=by have:=kO.len;grind
 have az:m<=maxLen:=by
  have ad:m*1<=m* (aE ah e).size:=Jd _ fF;simp only[maxLen];omega
 have b0:=N5 (base:=0) (e:=e) (size:=(aE ah e).size) w cells' m (bZ _) az lN;have ax:w.grownBy (w.alloc (.cells cells' e)) none:=uy w (.cells cells' e) none;have fM:lK (bh aD aP) aP ba (w.alloc (.cells cells' e)) (.slice (some ⟨w.heap.size,0,none⟩) m m) (.row e (aE ah e).size fK):=
  rI (λb ac=>e8.sr h.hB (by simp[bI]at ac;omega)) (by grind) fF (kO.cA (dy.qb ax (λ_ _ h=>h)))
 have lp:b7 (bh aD aP) (w.alloc (.cells cells' e)) (.slice (some ⟨w.heap.size,0,none⟩) m m) (.av (aE ah e).size fK false):=J6 fM (λ_ h=>h) (λb ac ab=>by
  simp[bI]at ac;subst ac;rcases ab with ab| ⟨k,x,aT,hk,dq,cx⟩
  ·have:=h.Dq ab;omega
  ·have:=((h.cW k x aT hk).iY dq cx).2;omega)
 refine jG (x:=.slice (some ⟨w.heap.size,0,none⟩) m m) (w':=w.alloc (.cells cells' e)) ?_ (dM.put (h.qb ax) aa (.bQ lp.tc) xH);have uM: (parts.map λ(i,x)=>(i,a.eval x)).toList=parts.toList.map λp=>(p.1,a.eval p.2):=by simp
 have yR:¬(m* (aE ah e).size>2^24):=by omega
 by_cases uS:m* (aE ah e).size=0
 ·have yS:Instr.fill (λi=>some (i* (aE ah e).size,(aE ah e).size)) (madeCells #[] (m* (aE ah e).size)) (parts.toList.map λp=>(p.1,a.eval p.2))=some cells':=by
   rw[<-qe];congr 1;rw[uS];simp[madeCells]
  simp only[execOp,aH,Instr.buildSlice,dX,gz hu,dT,jT aw ae,bm yR,b3 uS,ex,uM];simp only[madeCells]at yS;simp only[yS,dX,newRow,vQ,dT,ex,vO]
 ·have uT: (zeroValue e).run P w= .ok z w:=by simp[zeroValue,typeInfo,hi,bt]
  simp only[madeCells]at qe;simp only[execOp,aH,Instr.buildSlice,dX,gz hu,dT,jT aw ae,bm yR,bm uS,uT,ex,uM];simp only[qe,dX,newRow,vQ,dT,ex,vO]
theorem Xc(aw:dw P ah=true){t e:TypeId}{m:Nat}{parts:Array (Nat×Operand)}{K:List (List ak)->Prop}(aH:o.op= .buildSlice t m parts)(hk: (aE ah t).k= .fb e)(ae: (aE ah e).size≠0)(hle:m* (aE ah e).size<=16777216) 
  (au:ou s.loc idx=true) (aa:∀t,o.dst=some t->t<n) (ap:tk (bF s) (aE ah e).size parts.toList (List.replicate m (aE ah e).zero) K):
  ∃es,K es/\nC P aD ba n o ⟨gF o.dst (.own idx),[],[(idx,.row e (aE ah e).size es)],[]⟩ s E:=by
 obtain⟨es,tA,lu⟩:=PH ap;refine⟨es,tA,?_⟩;intro aP s' a w h he af hlen;obtain⟨aB,fP⟩:=wx au;have fP:bN s'.loc idx= .bn:=(af idx (.inr ⟨_,s8⟩)).trans fP;obtain⟨y,GF⟩:=ww h fP (by omega);obtain⟨i,hi,cC,iZ,z,bt,nT,nf⟩:=rF aw ae;have hu:=lL aw hk;obtain⟨h1,ad,aN⟩:=uK (A:=bh aD aP) (w:=w) nT;have wg:qW (bh aD aP) aP w z.cells (aE ah e).zero:=⟨by omega,ad,λi v d ab aa=>.bQ (aN i v d (by grind) aa)⟩
 have fF:=ta ae;have fm:=Ge (N:=m) (m:=m) wg (λi v d ab aa=>aN i v d (by grind) aa) (by omega) (bS _);rw[nf]at fm;have tq: (madeCells z.cells (m* (aE ah e).size)).toList.length=m* (aE ah e).size:=(Cx (xs:=madeCells z.cells (m* (aE ah e).size))).trans (CQ _ _);rw[w5 (by omega)]at fm;obtain⟨cells',fK,ap,qe,kO,wy⟩:=J9 (a:=a) (os:=aP) fF parts.toList _ _ fm (ρ:=bF s) (λp an=>by
  have az:p.2∈o.op.operands.toList:=by
   rw[aH];simp only[Op.operands,fr]
   grind
  have:=h.bF p.2
  grind) (lu (λfK=>fK=es) rfl)
 subst ap;rw[CH]at wy;have lN:cells'.size=m* (aE ah e).size:=by have:=kO.len;grind
 have az:m<=maxLen:=by
  have ad:m*1<=m* (aE ah e).size:=Jd _ fF;simp only[maxLen];omega
 have b0:=N5 (base:=0) (e:=e) (size:=(aE ah e).size) w cells' m (bZ _) az lN;have ax:w.grownBy (w.alloc (.cells cells' e)) none:=uy w (.cells cells' e) none;have an:=h.A5 (w':=w.alloc (.cells cells' e)) (x:=.slice (some ⟨w.heap.size,0,none⟩) m m) (bC:=.row e (aE ah e).size fK) GF ax (λb ac=>by simp[bI]at ac;omega)
  (λk bb=>rI (λb ac=>e8.sr h.hB (by simp[bI]at ac;omega)) (by grind) fF (kO.cA k))
 refine jG (x:=.slice (some ⟨w.heap.size,0,none⟩) m m) (w':=w.alloc (.cells cells' e)) ?_ (dM.put an aa (.own (oT (eI.1 GF).1) rfl) tx);have uM: (parts.map λ(i,x)=>(i,a.eval x)).toList=parts.toList.map λp=>(p.1,a.eval p.2):=by simp
 have yR:¬(m* (aE ah e).size>2^24):=by omega
 by_cases uS:m* (aE ah e).size=0
 ·have yS:Instr.fill (λi=>some (i* (aE ah e).size,(aE ah e).size)) (madeCells #[] (m* (aE ah e).size)) (parts.toList.map λp=>(p.1,a.eval p.2))=some cells':=by
   rw[<-qe];congr 1;rw[uS];simp[madeCells]
  simp only[execOp,aH,Instr.buildSlice,dX,gz hu,dT,jT aw ae,bm yR,b3 uS,ex,uM];simp only[madeCells]at yS;simp only[yS,dX,newRow,vQ,dT,ex,vO]
 ·have uT: (zeroValue e).run P w= .ok z w:=by simp[zeroValue,typeInfo,hi,bt]
  simp only[madeCells]at qe;simp only[execOp,aH,Instr.buildSlice,dX,gz hu,dT,jT aw ae,bm yR,bm uS,uT,ex,uM];simp only[qe,dX,newRow,vQ,dT,ex,vO]
theorem agD(aw:dw P ah=true){t e:TypeId}{l c:Operand}{yQ tr:IntKind}{m N:Nat}(aH:o.op= .makeSlice t l c)(hk: (aE ah t).k= .fb e)(ae: (aE ah e).size≠0)(au:ou s.loc idx=true)
  (aa:∀t,o.dst=some t->t<n) (el:bF s l= .v (.int yQ m)) (j9:bF s c= .v (.int tr N)) (AO:m<=N) (ac:N* (aE ah e).bytes<=140737488355328) (cT:N<=maxLen):
  nC P aD ba n o ⟨gF o.dst (.own idx),[],[(idx,.row e (aE ah e).size (List.replicate m (aE ah e).zero))],[]⟩ s E:=by
 intro aP s' a w h he hK aul;obtain⟨aB,fP⟩:=wx au;have fP:bN s'.loc idx= .bn:=(hK idx (.inr ⟨_,s8⟩)).trans fP;obtain⟨y,GF⟩:=ww h fP (by omega);have af:a.eval l= .int yQ m:=by
  have:=h.bF l;rw[he l (by rw[aH];simp[Op.operands]),el]at this;exact this.j7.1
 have al:a.eval c= .int tr N:=by
  have:=h.bF c;rw[he c (by rw[aH];simp[Op.operands]),j9]at this;exact this.j7.1
 obtain⟨i,hi,cC,iZ,z,bt,nT,nf⟩:=rF aw ae;have hu:=lL aw hk;obtain⟨h1,ad,aN⟩:=uK (A:=bh aD aP) (w:=w) nT;have wg:qW (bh aD aP) aP w z.cells (aE ah e).zero:=⟨by omega,ad,λi v d ab aa=>.bQ (aN i v d (by grind) aa)⟩
 have AP: (N:Int)<=9223372036854775807:=by simp only[maxLen]at cT;omega
 have eo:=run_make (P:=P) w t e i z hu hi bt yQ tr m N (by omega) (by omega) (by
  grind) AP
 simp only[l6,cC]at eo;have fF:=ta ae;have fm:=Ge (N:=N) (m:=m) wg (λi v d ab aa=>aN i v d (by grind) aa) (by omega) AO;rw[nf]at fm;have hlen: (List.replicate m (aE ah e).zero).length=m:=by simp
 have an:=h.A5 (w':=w.alloc (.cells (madeCells z.cells (N* (aE ah e).size)) e)) (x:=.slice (some ⟨w.heap.size,0,none⟩) m N) (bC:=.row e (aE ah e).size (List.replicate m (aE ah e).zero)) GF (uy w _ none) (λb ac=>by simp[bI]at ac;omega)
  (λk bb=>rI (λb ac=>e8.sr h.hB (by simp[bI]at ac;omega)) (xs:=(madeCells z.cells (N* (aE ah e).size)).toList.take (m* (aE ah e).size)) ⟨by rw[fm.len],.inr ⟨w.heap.size,N,_,by simp,bZ _,Aj w _,by omega,cT,CQ _ _,by simp⟩⟩ fF (fm.cA k))
 refine jG (x:=.slice (some ⟨w.heap.size,0,none⟩) m N) (w':=w.alloc (.cells (madeCells z.cells (N* (aE ah e).size)) e)) ?_ (dM.put an aa (.own (oT (eI.1 GF).1) rfl) tx);simp only[execOp,aH,af,al,dX,eo,dT,ex]
variable{d:ak}
theorem Xd(h:qM d=true):nx d=[]:=by
 cases d
 case fn f cr=>
  simp only[qM,nv]at h;simp only[nx,UQ];intro d aa;have:=h d aa;cases d<;>simp[mz,Oc]at this⊢
 all_goals first|rfl| (simp[qM]at h)
theorem agE(h:pv (dn d)=true):gX [d]=[]:=by
 have az:=AH h;by_cases aa:∃cs,d= .agg cs
 ·obtain⟨cs,rfl⟩:=aa;simp only[gX,jQ,List.flatMap_eq_nil_iff];exact λe he=>Xd (az e he)
 ·have h1:dn d=[d]:=by cases d<;>first|rfl|exact absurd ⟨_,rfl⟩ aa
  have ad:gX [d]=nx d:=by cases d<;>first|exact absurd ⟨_,rfl⟩ aa|simp[gX]
  rw[ad];exact Xd (az d (by grind))
theorem agF(aw:dw P ah=true){t:TypeId}{x y:Operand}{d:ak}{K:fc->Prop}(aH:o.op= .store t x y)(aa:∀t,o.dst=some t->t<n)(gb:bF s y=d)(h1:∀b ck,d≠ .b8 b ck)(ad:∀l,d≠ .be l)(aN:d≠ .aY)(ap:Oj ah s o.dst t x d K):∃bz,K bz/\nC P aD ba n o bz s E:=by
 have mk:∀ (bz:fc),(∀s':bJ,bF s' x=bF s x->bF s' y=d->(∀k,(k∈bz.kr\/bz.cW k)->bN s'.loc k=bN s.loc k)->Au ah s' o.dst t x y d (λpG=>pG=bz.kM s'))->nC P aD ba n o bz s E:=by
  intro bz mf aP s' a w ao he af hlen;have aA:=he x (by rw[aH];simp[Op.operands]);have aG:=(he y (by rw[aH];simp[Op.operands])).trans gb;exact WA aw aH ao aa aG h1 ad aN (mf s' aA aG af)
 unfold Oj at ap;split at ap
 ·grind
 ·rename_i ae;obtain⟨aum,GG⟩:=Nat.exists_eq_succ_of_ne_zero ae;rw[GG]at ap;split at ap
  ·rename_i i off ec;split at ap
   ·rename_i eB cs af;split at ap
    ·grind
    ·rename_i ac;refine⟨_,w7.1 ap,mk _ (λs' aA aG hK=> ?_)⟩;have gM:=(hK i (.inl (by simp))).trans af;unfold Au;simp only[aA,ec,gM,ac,GG];exact w7.2 tx
   grind
  ·rename_i i off ec;split at ap
   ·rename_i eB cs af;split at ap
    ·rename_i ac;refine⟨_,ap.2,mk _ (λs' aA aG hK=> ?_)⟩;have gM:=(hK i (.inl (by simp))).trans af;unfold Au;simp only[aA,ec,gM,ac,GG];exact⟨ap.1,tx⟩
    grind
   grind
  ·rename_i i k off ec;split at ap
   ·rename_i e ay es an af;obtain⟨agG,xy,ap⟩:=ap;split at ap
    ·rename_i ac;refine⟨_,ap,mk _ (λs' aA aG hK=> ?_)⟩;have gM:=(hK i (.inl (by simp))).trans af;unfold Au;simp only[aA,ec,GG];rw[agE an];show gW (bF s' y) (λagH=>FJ ah s' o.dst t (bF s' x) agH _);refine ir.2 ?_;rw[aG,aA,ec];unfold FJ;simp only[an,gM];refine⟨agG,xy,?_⟩;simp only[GG,ac];exact tx
    grind
   grind
  grind
theorem Xe{e:TypeId}{d:ak}{K:List (List ak)->Bool->Prop}(h:tl ah e loc d K):∃ys mE,K ys mE/\∀e0,(∀k∈hR d,bN e0 k=bN loc k)->∀qV:List (List ak)->Bool->Prop,qV ys mE->tl ah e e0 d qV:=by
 cases d
 case ar=>exact⟨_,_,h,λ_ _ _ bp=>bp⟩
 case av ay es f=>
  unfold tl at h;simp only at h;split at h
  ·rename_i ac;refine⟨_,_,h,λe0 _ qV bp=> ?_⟩;unfold tl
   grind
  grind
 case own j=>
  unfold tl at h;simp only at h;split at h
  ·rename_i aG ay es af;split at h
   ·rename_i ac;refine⟨_,_,h,λe0 i0 qV bp=> ?_⟩;have:=(i0 j (by simp[hR,p9])).trans af;unfold tl
    grind
   grind
  grind
 all_goals exact h.elim
theorem Xf{t:TypeId}{x:Operand}{d:ak}{kr:List Nat}(aH:o.op= .box t x)(aa:∀t,o.dst=some t->t<n)(au:ou s.loc idx=true)(e:bF s x=d)(h1:∀b ck,d≠ .b8 b ck)(ad:∀l,d≠ .be l)(aN:d≠ .aY):
  nC P aD ba n o ⟨gF o.dst (.aW idx 0),kr,[(idx,.cells t (dn d))],[]⟩ s E:=by
 intro aP s' a w ao he af hlen;obtain⟨aB,fP⟩:=wx au;have fP:bN s'.loc idx= .bn:=(af idx (.inr ⟨_,s8⟩)).trans fP;obtain⟨y,hi⟩:=ww ao fP (by omega);have ag:=ao.bF x;rw[he x (by rw[aH];simp[Op.operands]),e]at ag;obtain⟨qg,br,an⟩:=ag.cells h1 ad aN;have an:=ao.A5 (x:=.pointer (some ⟨w.heap.size,0,none⟩)) (bC:=.cells t (dn d)) (w':=w.alloc (.cells (a.eval x).cells t)) hi (uy w _ none) (λb ac=>by simp[bI]at ac;omega)
  (λk bb=>⟨w.heap.size,(a.eval x).cells,rfl,e8.sr ao.hB (bS _),Aj w _,by omega,br,λi v d ab aa=>(an i v d (by grind) aa).A4 k bb⟩)
 refine jG (x:=.pointer (some ⟨w.heap.size,0,none⟩)) (w':=w.alloc (.cells (a.eval x).cells t)) ?_ (dM.put an aa (.aW (oT (eI.1 hi).1)) tx);simp only[execOp,aH,Instr.box,dX,dT,newVar,newRow,vQ,ex,vO]
theorem agI(aw:dw P ah=true){t eB e:TypeId}{x y:Operand}{args:Array Operand}{fg:Array TypeId}{K:fc->Nat->Prop}(aH:o.op= .call {callee:=.builtin .append,args:=args,argTypes:=fg})(bb:args.toList=[x,y])(jm:fg.toList=[t,eB])(lO:t=eB)
  (hk: (aE ah t).k= .fb e) (ae: (aE ah e).size≠0) (aa:∀t,o.dst=some t->t<n) (ap:Ol ah e s idx o.dst (bF s x) (bF s y) K):∃bz i,K bz i/\nC P aD ba n o bz s E:=by
 unfold Ol at ap;obtain⟨ys,mE,ap,ov⟩:=Xe ap;have fF:=ta ae;have y2:x∈o.op.operands.toList:=by rw[aH];simp[Op.operands,Call.operands];rw[<-vG,bb];simp
 have y3:y∈o.op.operands.toList:=by rw[aH];simp[Op.operands,Call.operands];rw[<-vG,bb];simp
 have KJ:∀ {aP:c3} {s':bJ} {a:Act} {w:World},cd aD ba n aP s' a w->bF s' y=bF s y->(∀k∈hR (bF s y),bN s'.loc k=bN s.loc k)->J2 (bh aD aP) w (aE ah e).size (a.eval y) ys:=by
  intro aP s' a w ao he af;have h1:=ov s'.loc af (λagJ agK=>agJ=ys/\agK=mE) ⟨rfl,rfl⟩;rw[ao.loc]at h1;have bk:=ao.bF y;rw[he]at bk;obtain⟨_,_,⟨rfl,rfl⟩,ad⟩:=OS ae ao.cW bk h1;exact ad
 have exec:=λ{a:Act} {w:World} {r:Value} {w':World}=>VU (P:=P) (w:=w) (a:=a) (r:=r) (w':=w') aH bb jm lO;split at ap
 ·-- nothing
  rename_i ec;split at ap
  ·rename_i au;obtain⟨hA,ap⟩:=ap;refine⟨_,_,ap,λaP s' a w ao he af hlen=> ?_⟩;obtain⟨aB,fP⟩:=wx au;have fP:bN s'.loc idx= .bn:=(af idx (.inr ⟨_,s8⟩)).trans fP;obtain⟨z,hi⟩:=ww ao fP (by omega);have ag:=ao.bF x;rw[he x y2,ec]at ag;obtain⟨v',w',xs,eo,b0,ax,ac,fm⟩:=VW (P:=P) (ty:=o.type) aw hk ae hA (KJ ao (he y y3) (λk hk=>af k (.inl hk)));have an:=ao.A5 (x:=v') (bC:=.row e (aE ah e).size ys) hi ax ac (λk bb=>rI (λb cx=>e8.sr ao.hB (ac b cx)) b0 fF (fm.cA k));exact jG (exec (by rw[ag.o0];omega)) (dM.put an aa (.own (oT (eI.1 hi).1) (wb b0)) tx)
  grind
 ·-- a row of Dw ae2 own
  rename_i i ec;split at ap
  ·rename_i bc Wa gj KK;split at ap
   ·rename_i KL;simp only[cq]at KL;have nB:=fB KL.1.1;have gG:=fB KL.1.2;subst nB;subst gG;have au:=KL.2;obtain⟨hA,ap⟩:=ap;refine⟨_,_,ap,λaP s' a w ao he af hlen=> ?_⟩;obtain⟨aB,fP⟩:=wx au;have fP:bN s'.loc idx= .bn:=(af idx (.inr ⟨_,Fs _ s8⟩)).trans fP;obtain⟨z,bX⟩:=ww ao fP (by omega);have Xg:=(af i (.inl (by simp))).trans KK;rw[ao.loc]at Xg;obtain⟨OW,hi⟩:=kN Xg (by simp);have ag:=ao.bF x;rw[he x y2,ec]at ag;have nd:=ag.qS hi;obtain⟨xs,b0,_,kb⟩:=wa (ao.cW _ _ _ hi);obtain⟨v',w',OU,eo,wc,ax,ac,fm⟩:=ae1 (P:=P) (ty:=o.type) aw hk ae b0 kb hA (KJ ao (he y y3) (λk hk=>af k (.inl (by grind))));obtain⟨an,iO⟩:=ao.agw hi bX ax ac wc fF fm;exact jG (exec (by grind)) (dM.put an aa (.own iO (wb wc)) agx)
   grind
  grind
 ·-- a list ae3 spare room
  rename_i ay es ec;split at ap
  ·rename_i ac;have ac:=fB ac;subst ac;obtain⟨hA,ap⟩:=ap;split at ap
   ·split at ap
    ·rename_i au;obtain⟨we,ap⟩:=ap;refine⟨_,_,ap,λaP s' a w ao he af hlen=> ?_⟩;obtain⟨aB,fP⟩:=wx au;have fP:bN s'.loc idx= .bn:=(af idx (.inr ⟨_,s8⟩)).trans fP;obtain⟨z,hi⟩:=ww ao fP (by omega);have ag:=ao.bF x;rw[he x y2,ec]at ag;obtain⟨v',w',xs,eo,b0,ax,ac,fm⟩:=VX (P:=P) (ty:=o.type) aw hk ae ag.ny hA (KJ ao (he y y3) (λk hk=>af k (.inl hk))) we;have an:=ao.A5 (x:=v') (bC:=.row e (aE ah e).size (es++ys)) hi ax ac (λk bb=>rI (λb cx=>e8.sr ao.hB (ac b cx)) b0 fF (fm.cA k));exact jG (exec eo) (dM.put an aa (.own (oT (eI.1 hi).1) (wb b0)) tx)
    grind
   ·rcases ap with⟨we,ap⟩|ap
    ·split at ap
     ·rename_i au;refine⟨_,_,ap,λaP s' a w ao he af hlen=> ?_⟩;obtain⟨aB,fP⟩:=wx au;have fP:bN s'.loc idx= .bn:=(af idx (.inr ⟨_,s8⟩)).trans fP;obtain⟨z,hi⟩:=ww ao fP (by omega);have ag:=ao.bF x;rw[he x y2,ec]at ag;obtain⟨v',w',xs,eo,b0,ax,ac,fm⟩:=VX (P:=P) (ty:=o.type) aw hk ae ag.ny hA (KJ ao (he y y3) (λk hk=>af k (.inl hk))) we;have an:=ao.A5 (x:=v') (bC:=.row e (aE ah e).size (es++ys)) hi ax ac (λk bb=>rI (λb cx=>e8.sr ao.hB (ac b cx)) b0 fF (fm.cA k));exact jG (exec eo) (dM.put an aa (.own (oT (eI.1 hi).1) (wb b0)) tx)
     grind
    ·refine⟨_,_,ap,λaP s' a w ao he af hlen=> ?_⟩;have ag:=he x y2;rw[ec]at ag;refine VY aw aH bb jm lO hk ae ao aa ?_;rw[ag,he y y3];unfold Ju;refine ov s'.loc (λk hk=>af k (.inl hk)) _ ?_;simp only[Af];exact⟨hA,xH⟩
  grind
 grind
theorem agL(aw:dw P ah=true){t eB e:TypeId}{x y:Operand}{args:Array Operand}{fg:Array TypeId}{K:fc->Prop}(aH:o.op= .call {callee:=.builtin .copy,args:=args,argTypes:=fg})(bb:args.toList=[x,y])(jm:fg.toList=[t,eB])(lO:t=eB)
  (hk: (aE ah t).k= .fb e) (ae: (aE ah e).size≠0) (aa:∀t,o.dst=some t->t<n) (ap:Om ah e s o.dst (bF s x) (bF s y) K):∃bz,K bz/\nC P aD ba n o bz s E:=by
 unfold Om at ap;obtain⟨ys,mE,ap,ov⟩:=Xe ap;have y2:x∈o.op.operands.toList:=by rw[aH];simp[Op.operands,Call.operands];rw[<-vG,bb];simp
 have y3:y∈o.op.operands.toList:=by rw[aH];simp[Op.operands,Call.operands];rw[<-vG,bb];simp
 split at ap
 ·rename_i ec;refine⟨_,ap,λaP s' a w ao he af hlen=> ?_⟩;refine O2 aw aH bb jm lO hk ae ao aa ?_;rw[he x y2,he y y3,ec];unfold FI;exact ov s'.loc (λk hk=>af k (.inl hk)) _ xH
 ·rename_i i ec;split at ap
  ·rename_i bc Wa gj KK;split at ap
   ·rename_i ac;refine⟨_,ap,λaP s' a w ao he af hlen=> ?_⟩;refine O2 aw aH bb jm lO hk ae ao aa ?_;rw[he x y2,he y y3,ec];unfold FI;refine ov s'.loc (λk hk=>af k (.inl (by grind))) _ ?_;have:=(af i (.inl (by simp))).trans KK;simp only[this,ac];simp only[cq]at ac;have nB:=fB ac.1;subst nB;exact tx
   grind
  grind
 grind
theorem PI:∀ (cR:List Nat) (DN l:List aX),qP l (cR.zip DN)=px l cR DN
 | [],DN,l=>by cases DN<;>rfl
 |i::r,[],l=>rfl
 |i::r,o::DN,l=>by
  rw[List.zip_cons_cons,qP,px];exact PI r DN _
theorem Xh{ρ:Nat->Nat}:∀ {p:List Nat} {q:List aX},(∀i∈p,bN e0 i=bN loc i)->sn loc ρ p q->sn e0 ρ p q
 | [],[],_,h=>h
 | [],_::_,_,h=>h.elim
 |_::_,[],_,h=>h.elim
 |i::p,o::q,af,h=>⟨by rw[af i (by simp)];exact h.1,Xh (λi hi=>af i (by grind)) h.2⟩
theorem PJ:∀ {c7:List Bool} {L bK:List aX} {k:Nat},yz c7 L bK=true->k<c7.length->c7[k]?≠some true->(∃e ay es,L[k]?=some (.row e ay es))/\bK[k]?=some .gone
 | [],L,bK,k,_,h,_=>by grind
 |true::c7,o::L,aT::bK,0,_,_,h=>by grind
 |true::c7,o::L,aT::bK,k+1,h,hk,aV=>PJ (c7:=c7) (L:=L) (bK:=bK) (k:=k) (by simpa[yz]using h) (by grind) (by grind)
 |true::c7,[],bK,k,h,_,_=>by simp[yz]at h
 |true::c7,o::L,[],k,h,_,_=>by simp[yz]at h
 |false::c7,L,bK,k,h,hk,aV=>by
  unfold yz at h;split at h
  ·grind
  ·rename_i e;cases e;cases k with
   |zero=>simp
   |succ k=>exact PJ (k:=k) h (by grind) (by grind)
  all_goals grind
variable{f:Operand}{k:FuncId}{cr:List ak}{args:Array Operand}{fg:Array TypeId}{K:fc->Nat->Prop}
theorem Xi(aH:o.op= .call {callee:=.value f,args:=args,argTypes:=fg})(aa:∀t,o.dst=some t->t<n)(k7:bF s f= .fn (.func k) cr)
  (h:On P k (args.toList.map (bF s)++cr) s idx o.dst (oY (bF s) o.op.operands.toList) K):∃bz i,K bz i/\nC P aD ba n o bz s E:=by
 obtain⟨pass,L,kq,kept,bK,d,jr,q0,xC,Gr,ap⟩:=h;simp only[cq]at q0;obtain⟨⟨⟨⟨⟨⟨⟨o5,wh⟩,ih⟩,aB⟩,xB⟩,AS⟩,cF⟩,GH⟩:=q0;refine⟨_,_,ap,λaP s' a w ao he af hlen=> ?_⟩;simp only[nv]at aB GH;obtain⟨xn,Gp,_⟩:=xA (k:=0) o5;obtain⟨eF,_⟩:=Gm xC;obtain⟨nb,Gs⟩:=Km Gr;generalize ov:bM idx (bK.length-L.length)=news at *
 have wz:news.length=bK.length-L.length:=by rw[<-ov,Kk]
 have agM:∀i∈pass++news,∃bC,(i,bC)∈ (pass++news).zip (bK.map (gL (dp (pass++news)))):=by
  intro i hi;obtain⟨q,bX,rfl⟩:=fv hi;have A7:q<(bK.map (gL (dp (pass++news)))).length:=by
   grind
  exact⟨_,fq (i:=q) (US.2 ⟨eN bX,eN A7⟩)⟩
 have ts:∀i∈pass++news,bN s'.loc i=bN s.loc i:=λi hi=>af i (.inr (agM i hi));have aB:∀i∈pass,i<s.loc.length:=λi hi=>nw (aB i hi);have wy:=ao.len;have ha:∀i∈news,∃y,aP[i]?=some (y,.bn):=by
  intro i hi;obtain⟨h1,ad⟩:=wx (GH i hi);exact ww ao ((ts i (eb.2 (.inr hi))).trans ad) (by omega)
 have KM:=Xh (e0:=s'.loc) (λi hi=>ts i (eb.2 (.inl hi))) xC;have oz:∀x∈o.op.operands.toList,bg (bh aD aP) aP w (a.eval x) (bF s x):=λx ag=>by rw[<-he x ag];exact ao.bF x
 have au:=oz f (by rw[aH];simp[Op.operands,Call.operands]);rw[k7]at au;obtain⟨vs,ab,jl,an⟩:=au.tn;obtain⟨h1,ad⟩:=AY (os:=aP) (A:=bh aD aP) (w:=w) (a:=a) (l:=args.toList) (ρ:=bF s) rfl (λx ag=>oz x (by rw[aH];simp only[Op.operands,Call.operands,vH,eb];grind)) jl an;have core:=Kd (pass:=pass) (news:=news) (J:=[]) ao jr (λk i hk aV=>.inr (PJ cF (by grind) aV)) o5 wh (Gi ih) (λi hi=>by grind) ha (by omega) AS xB KM (fL:=args.toList.map a.eval++vs) (by grind) (λi v d ab aa=>by
  have ek:=(eI.1 ab).1;have qk:=eN (l:=args.toList.map (bF s)++cr) (i:=i) (by omega);have kw: (kq.map (k2 (dp (pass++news))))[i]?=some (k2 (dp (pass++news)) d):=by grind
  exact((ad i v _ ab qk).ic (Gs i _ _ qk kw)).cA (dy.ic (λb ac=>xw ac)) (.refl _))
 unfold Oper.wp;rw[AX aH ab jr.1];refine core.mono λe w' ag=> ?_;obtain⟨v,k5,rfl,iz,tB⟩:=ag;refine dM.put iz aa tB ?_;have aA:FH s' (pass++news) [] bK= ⟨s'.env,px s'.loc (pass++news) (bK.map (gL (dp (pass++news))))⟩:=rfl;rw[aA,<-PI];refine AJ.2 ?_;cases o.dst<;>rfl
theorem PK{ρ:Nat->Nat}:∀ {p:List Nat} {q:List aX},C9 loc ρ p q->sn loc ρ p q
 | [],[],_=>trivial
 | [],_::_,h=>h.elim
 |_::_,[],h=>h.elim
 |i::p,o::q,h=>⟨by rw[h.1];exact .refl,PK h.2⟩
theorem Xj{ρ:Nat->Nat}:∀ {p:List Nat} {q:List aX},(∀i∈p,bN e0 i=bN loc i)->C9 loc ρ p q->C9 e0 ρ p q
 | [],[],_,h=>h
 | [],_::_,_,h=>h.elim
 |_::_,[],_,h=>h.elim
 |i::p,o::q,af,h=>⟨by rw[af i (by simp)];exact h.1,Xj (λi hi=>af i (by grind)) h.2⟩
theorem Xk{ρ:Nat->Nat}:∀ {p:List Nat} {q:List aX} {l:List aX},(∀i∈p,i<l.length)->C9 l ρ p q->px l p (q.map (gL ρ))=l
 | [],[],_,_,_=>rfl
 | [],_::_,_,_,h=>h.elim
 |_::_,[],_,_,h=>h.elim
 |i::p,o::q,l,af,h=>by
  rw[oi,px];have:gq l i (gL ρ o)=l:=by
   rw[<-h.1,mC,lm]
   simp_all
  rw[this];exact Xk (λi hi=>af i (by grind)) h.2
theorem agN(aa:∀t,o.dst=some t->t<n)(h:Ot P o idx s K):∃bz i,K bz i/\nC P aD ba n o bz s E:=by
 unfold Ot at h;split at h
 case h_2=>grind
 rename_i f args fg aH;split at h
 case h_2=>grind
 rename_i k cr k7;have h:=xq h;obtain⟨pass,L,kq,kept,d,jr,q0,xC,Gr,ap⟩:=h;simp only[cq]at q0;obtain⟨⟨⟨⟨⟨⟨o5,wh⟩,ih⟩,aB⟩,xB⟩,AS⟩,cF⟩:=q0;refine⟨_,_,ap,λaP s' a w ao he af hlen=> ?_⟩;simp only[nv]at aB cF;obtain⟨xn,Gp,_⟩:=xA (k:=0) o5;obtain⟨eF,_⟩:=Gm (PK xC);obtain⟨nb,Gs⟩:=Km Gr;have ts:∀i∈pass,bN s'.loc i=bN s.loc i:=λi hi=>af i (.inl (eb.2 (.inr hi)));have aB:∀i∈pass,i<s.loc.length:=λi hi=>nw (aB i hi);have wy:=ao.len;have KM:=Xj (e0:=s'.loc) ts xC;have oz:∀x∈o.op.operands.toList,bg (bh aD aP) aP w (a.eval x) (bF s x):=λx ag=>by rw[<-he x ag];exact ao.bF x
 have au:=oz f (by rw[aH];simp[Op.operands,Call.operands]);rw[k7]at au;obtain⟨vs,ab,jl,an⟩:=au.tn;obtain⟨h1,ad⟩:=AY (os:=aP) (A:=bh aD aP) (w:=w) (a:=a) (l:=args.toList) (ρ:=bF s) rfl (λx ag=>oz x (by rw[aH];simp only[Op.operands,Call.operands,vH,eb];grind)) jl an;have core:=Kd (pass:=pass) (news:=[]) (J:=[]) ao jr (λk i hk aV=>by
   exfalso;have hS:=(eI.1 hk).1;have mg:=eN (l:=kept) (i:=k) (by omega);have:=cF _ (fq mg)
   grind) o5 wh (by rw[jQ];exact Gi ih) (λi hi=>by grind) (by simp) (by grind) AS xB (by rw[jQ];exact PK KM) (fL:=args.toList.map a.eval++vs) (by grind) (λi v d ab aa=>by
  have ek:=(eI.1 ab).1;have qk:=eN (l:=args.toList.map (bF s)++cr) (i:=i) (by omega);have kw: (kq.map (k2 (dp pass)))[i]?=some (k2 (dp pass) d):=by grind
  rw[jQ];exact((ad i v _ ab qk).ic (Gs i _ _ qk kw)).cA (dy.ic (λb ac=>xw ac)) (.refl _))
 rw[jQ]at core;unfold Oper.wp;rw[AX aH ab jr.1];refine core.mono λe w' ag=> ?_;obtain⟨v,k5,rfl,iz,tB⟩:=ag;refine dM.put iz aa tB ?_;have aA:FH s' pass [] L=s':=by
  show (⟨s'.env,px s'.loc pass (L.map (gL (dp pass)))⟩:bJ)=s';rw[Xk (λi hi=>by grind) KM]
 rw[aA];refine AJ.2 ?_;cases o.dst<;>rfl
theorem cd.Xl{i e ay:Nat}{es:List (List ak)}{x:Value}(h:cd aD ba n os s a w)(hi:os[i]?=some (x,.row e ay es)):cd aD ba n (os.set i (.nilFunc,.gone)) ⟨s.env,gq s.loc i .gone⟩ a w:=by
 have Kw:=(eI.1 hi).1;have wk: (os.set i (.nilFunc,.gone))[i]?=some (.nilFunc,.gone):=oT Kw;generalize mD:os.set i (.nilFunc,.gone)=aP at wk⊢;have cL:∀ {j:Nat} {z:Value} {aT:aX},aP[j]?=some (z,aT)->(j=i/\z= .nilFunc/\aT= .gone)\/(j≠i/\os[j]?=some (z,aT)):=by
  grind
 have bb:KI i os aP:=by
  refine⟨⟨_,_,_,_,hi⟩,⟨_,wk⟩,λj z o aq aa aH=>⟨o,?_,by cases o<;>simp[en]⟩⟩
  grind
 have fO:∀b,b<w.heap.size->bh aD aP b->bh aD os b:=by
  intro b lo ab;rcases ab with ab| ⟨j,z,aT,aq,dq,cx⟩
  ·exact .inl ab
  ·rcases cL aq with⟨rfl,rfl,rfl⟩| ⟨_,aq⟩
   ·simp[bI]at cx
   ·exact .inr ⟨_,_,_,aq,dq,cx⟩
 have k:dy (bh aD os) (bh aD aP) w w:=⟨bS _,fO,λb lo aV=>rfl⟩
 refine⟨h.size,h.defers,h.hB,h.a0,by rw[<-mD,mC,h.loc,oj],λt=>(h.env t).A6 k bb,λj z aT aq=> ?_,λnA uP z dx lT fT b h1 ad d1 d2 cX c0=> ?_⟩
 ·rcases cL aq with⟨rfl,rfl,rfl⟩| ⟨nj,aq⟩
  ·rfl
  ·exact(h.cW j z aT aq).A6 k bb (λb dq cx=>rfl)
 ·rcases cL h1 with⟨rfl,rfl,rfl⟩| ⟨_,g1⟩
  ·simp[bI]at cX
  ·rcases cL ad with⟨rfl,rfl,rfl⟩| ⟨_,g2⟩
   ·simp[bI]at c0
   ·exact h.inj _ _ _ _ _ _ b g1 g2 d1 d2 cX c0
theorem agO{k3 cK:List ak}{r:ak}{j:Nat}(aH:o.op= .call {callee:=.value f,args:=args,argTypes:=fg})(aa:∀t,o.dst=some t->t<n)
  (k7:bF s f= .fn (.func k) cr)
  (lu:∀e0,(∀d∈args.toList.map (bF s)++cr,∀k∈hR d,bN e0 k=bN s.loc k)->∀ja:List ak->Prop,ja k3->th e0 (args.toList.map (bF s)++cr) ja)
  (hle:m4 k3 cK) (jr:bq P k cK r) (ae:gX (args.toList.map (bF s)++cr)=[.own j]) (fm:jR (bN s.loc j)=true):
  nC P aD ba n o ⟨gF o.dst r,oY (bF s) o.op.operands.toList++cr.flatMap hR,[(j,.gone)],[]⟩ s E:=by
 intro aP s' a w ao he af _;have oz:∀x∈o.op.operands.toList,bg (bh aD aP) aP w (a.eval x) (bF s x):=λx ag=>by rw[<-he x ag];exact ao.bF x
 have au:=oz f (by rw[aH];simp[Op.operands,Call.operands]);rw[k7]at au;obtain⟨vs,ab,o6,GI⟩:=au.tn;obtain⟨h1,ad⟩:=AY (os:=aP) (A:=bh aD aP) (w:=w) (a:=a) (l:=args.toList) (ρ:=bF s) rfl (λx ag=>oz x (by rw[aH];simp only[Op.operands,Call.operands,vH,eb];grind)) o6 GI;have PL:=lu s'.loc (λd ql k hk=>af k (.inl (by
  rcases eb.1 ql with ql|ql
  ·obtain⟨x,ag,rfl⟩:=fr.1 ql;refine eb.2 (.inl (GD (x:=x) ?_ hk));rw[aH];simp only[Op.operands,Call.operands,vH,eb]
   grind
  grind))) (λl=>l=k3) rfl
 obtain⟨l,rfl,cF⟩:=Gf (J:=jq (gX (args.toList.map (bF s)++cr))) ao _ _ h1 ad (λd j aa aq=>AQ aa aq) PL;have nY:jR (bN s'.loc j)=true:=by rw[af j (.inr ⟨_,s8⟩)];omega
 obtain⟨e,ay,es,nY⟩:∃e ay es,bN s'.loc j= .row e ay es:=by
  cases bX:bN s'.loc j<;>rw[bX]at nY<;>first|exact⟨_,_,_,rfl⟩| (simp[jR]at nY)
 rw[ao.loc]at nY;obtain⟨OW,hi⟩:=kN nY (by simp);unfold Oper.wp;rw[AX aH ab jr.1];refine(jr.2 _ w _ (λb ac=> ?_) (cF.le hle)).mono λe w' he=> ?_
 ·rcases ac with ac| ⟨i,x,aT,hi,aa,_,cx⟩
  ·exact ao.Dq ac
  ·exact((ao.cW i x aT hi).iY aa cx).2
 ·obtain⟨v,rfl,lp,ax⟩:=he;have an:=(ao.qb ax).Xl hi;refine dM.put an aa (.bQ (lp.cA (dy.ic (λb ac=> ?_)))) tx;rcases ac with ac| ⟨i,x,aT,fE,kw,cx⟩
  ·exact .inl ac
  ·by_cases fV:i=j
   ·subst fV;rw[oT (eI.1 hi).1]at fE;cases fE;simp[bI]at cx
   ·rw[vL (λe=>fV e.symm)]at fE;refine .inr ⟨i,x,aT,fE,kw,?_,cx⟩;rw[ae];simpa[jq,nh]using fV
theorem Xm{A:Nat->Prop}{w:World}:∀ {vs:List Value} {ds:List ak},sl A w vs ds->vs.length=ds.length/\∀ (i:Nat) v d,vs[i]?=some v->ds[i]?=some d->b7 A w v d
 | [],[],_=>⟨rfl,λi v d h=>by simp⟩
 | [],_::_,h=>h.elim
 |_::_,[],h=>h.elim
 |v::vs,d::ds,h=>by
  obtain⟨h1,ad⟩:=Xm h.2;refine⟨by grind,λi v' ck ab aa=> ?_⟩;cases i with
  |zero=>
   simp only[CE,vN]at ab aa;subst ab aa;exact h.1
  |succ i=>grind
theorem agP(aH:o.op= .call {callee:=.value f,args:=args,argTypes:=fg})(aa:∀t,o.dst=some t->t<n)(k7:bF s f= .fn (.func k) cr)
  (h:Oo P k (args.toList.map (bF s)++cr) s idx o.dst (oY (bF s) o.op.operands.toList++cr.flatMap hR) K):∃bz i,K bz i/\nC P aD ba n o bz s E:=by
 unfold Oo at h;split at h
 ·rename_i j ae;split at h
  ·rename_i fm;obtain⟨k3,⟨kq,bK,d,jr,q0,hle,ap⟩,lu⟩:=KG h;simp only[cq]at q0;obtain⟨⟨⟨o5,xB⟩,ih⟩,GH⟩:=q0;refine⟨_,_,ap,λaP s' a w ao he af hlen=> ?_⟩;generalize ov:bM idx bK.length=news at *
   have wz:news.length=bK.length:=by rw[<-ov,Kk]
   simp only[nv]at GH;have oz:∀x∈o.op.operands.toList,bg (bh aD aP) aP w (a.eval x) (bF s x):=λx ag=>by rw[<-he x ag];exact ao.bF x
   have au:=oz f (by rw[aH];simp[Op.operands,Call.operands]);rw[k7]at au;obtain⟨vs,ab,o6,GI⟩:=au.tn;obtain⟨h1,ad⟩:=AY (os:=aP) (A:=bh aD aP) (w:=w) (a:=a) (l:=args.toList) (ρ:=bF s) rfl (λx ag=>oz x (by rw[aH];simp only[Op.operands,Call.operands,vH,eb];grind)) o6 GI;have PL:=lu s'.loc (λd ql k hk=>af k (.inl (by
    rcases eb.1 ql with ql|ql
    ·obtain⟨x,ag,rfl⟩:=fr.1 ql;refine eb.2 (.inl (GD (x:=x) ?_ hk));rw[aH];simp only[Op.operands,Call.operands,vH,eb]
     grind
    grind))) (λl=>l=k3) rfl
   obtain⟨l,rfl,cF⟩:=Gf (J:=jq (gX (args.toList.map (bF s)++cr))) ao _ _ h1 ad (λd j aa aq=>AQ aa aq) PL;have nY:jR (bN s'.loc j)=true:=by rw[af j (.inr ⟨_,s8⟩)];omega
   obtain⟨e,ay,es,nY⟩:∃e ay es,bN s'.loc j= .row e ay es:=by
    cases bX:bN s'.loc j<;>rw[bX]at nY<;>first|exact⟨_,_,_,rfl⟩| (simp[jR]at nY)
   have aun:=nY;rw[ao.loc]at nY;obtain⟨OW,hi⟩:=kN nY (by simp);have ax:=ao.Xl hi;have ha:∀i∈news,∃y,(aP.set j (.nilFunc,.gone))[i]?=some (y,.bn):=by
    intro i fE;obtain⟨cX,c0⟩:=wx (GH i fE);have A7:∃bC,(i,bC)∈ (j,aX.gone)::news.zip (bK.map (gL (dp news))):=by
     obtain⟨q,bX,rfl⟩:=fv fE;have agQ:q<(bK.map (gL (dp news))).length:=by grind
     exact⟨_,Fs _ (fq (i:=q) (US.2 ⟨eN bX,eN agQ⟩))⟩
    have nb:=(af i (.inr A7)).trans c0;have bx:i≠j:=by
     grind
    obtain⟨y,bk⟩:=ww ao nb (by omega)
    grind
   have fO:∀b,mc aD (aP.set j (.nilFunc,.gone)) [] b->mc aD aP (jq (gX (args.toList.map (bF s)++cr))) b:=by
    rintro b (ac| ⟨i,x,aT,fE,kw,_,cx⟩)
    ·exact .inl ac
    ·by_cases fV:i=j
     ·subst fV;rw[oT (eI.1 hi).1]at fE;cases fE;simp[bI]at cx
     ·rw[vL (λe=>fV e.symm)]at fE;refine .inr ⟨i,x,aT,fE,kw,?_,cx⟩;rw[ae];simpa[jq,nh]using fV
   obtain⟨jl,GJ⟩:=Xm (cF.le hle);have core:=Kd (pass:=[]) (news:=news) (J:=[]) ax jr (λk i hk=>by grind) o5 rfl (Gi ih) (by simp) ha (by grind) rfl xB trivial (fL:=args.toList.map a.eval++vs) jl (λi v d ab aa=>(bg.xF (A:=mc aD (aP.set j (.nilFunc,.gone)) []) (os:=[]) (ρ:=dp ([]++news)) (λk x bC _ _ h=>by grind) (dy.refl _ _) (.bQ ((GJ i v d ab aa).cA (dy.ic fO)))).2);unfold Oper.wp;rw[AX aH ab jr.1];refine core.mono λe w' ag=> ?_;obtain⟨v,k5,rfl,iz,tB⟩:=ag;refine dM.put iz aa tB ?_;have aA:FH ⟨s'.env,gq s'.loc j .gone⟩ ([]++news) [] bK= ⟨s'.env,px (gq s'.loc j .gone) news (bK.map (gL (dp news)))⟩:=rfl;rw[aA,<-PI];refine AJ.2 ?_;cases o.dst<;>rfl
  grind
 grind
theorem PM(aw:dw P ah=true)(aQ: (aE ah 0).size=0)(aa:∀t,o.dst=some t->t<n){K:fc->Nat->Prop}(h:FM ah P o idx s K):∃bz yB,K bz yB/\nC P aD ba n o bz s E:=by
 unfold FM at h;split at h
 ·obtain⟨c,d,ap,lu⟩:=W4 _ h;obtain⟨al,ap⟩:=qT.1 ap;exact⟨_,_,ap,agz (wrap:=λd=>d) aw aQ aa lu al (λh=>h) (λh=>h)⟩
 ·split at h
  ·rename_i t aH;split at h
   ·rename_i m ae au;exact⟨_,_,h,agB aw aH aa (by omega) au⟩
   grind
  ·rename_i t x aH;split at h
   ·rename_i au;have h:=Kn h;split at h
    ·rename_i cs e;exact⟨_,_,w7.1 h,Xf (d:=.agg cs) aH aa au e (by simp) (by simp) (by simp)⟩
    ·grind
    ·grind
    ·grind
    ·rename_i d h1 ad aN bs;have o4:dn (bF s x)=[bF s x]:=by
      generalize bF s x=d at *;cases d<;>first|rfl|exact absurd rfl (h1 _)
     refine⟨_,_,h,?_⟩;rw[<-o4];exact Xf aH aa au rfl (λb ck e=>ad b ck e) (λl e=>aN l e) (λe=>bs e)
   grind
  ·rename_i args fg aH;split at h
   ·rename_i x y t eB bb jm;split at h
    ·rename_i e lO hk;split at h
     ·grind
     ·rename_i ae;exact agI aw aH bb jm (fB lO) hk ae aa h
    grind
   grind
  ·rename_i args fg aH;split at h
   ·rename_i x y t eB bb jm;split at h
    ·rename_i e lO hk;split at h
     ·grind
     ·rename_i ae;obtain⟨bz,ap,ao⟩:=agL (aD:=aD) (ba:=ba) (E:=E) aw aH bb jm (fB lO) hk ae aa h
      grind
    grind
   grind
  ·rename_i t x y aH;have h:=Kn h;split at h
   ·grind
   ·grind
   ·grind
   ·rename_i d h1 ad aN;obtain⟨bz,ap,ao⟩:=agF (aD:=aD) (ba:=ba) (E:=E) aw aH aa rfl (λb ck e=>h1 b ck e) (λl e=>ad l e) (λe=>aN e) h
    grind
  ·rename_i t m parts aH;split at h
   ·rename_i e hk;split at h
    ·rename_i m1 ae ac;split at h
     ·split at h
      ·rename_i au;obtain⟨es,ap,ao⟩:=Xc (aD:=aD) (ba:=ba) (E:=E) aw aH hk (by omega) (nw ac) au aa h
       grind
      grind
     ·obtain⟨w,h⟩:=h;cases w with
      |false=>
       obtain⟨es,ap,ao⟩:=agC (aD:=aD) (ba:=ba) (E:=E) aw aH hk (by omega) (nw ac) aa h
       grind
      |true=>
       simp only at h;split at h
       ·rename_i au;obtain⟨es,ap,ao⟩:=Xc (aD:=aD) (ba:=ba) (E:=E) aw aH hk (by omega) (nw ac) au aa h
        grind
       grind
    grind
   grind
  ·rename_i t l c aH;split at h
   ·rename_i e hk;split at h
    ·rename_i m1 yQ OJ tr wm ae el j9 au;obtain⟨m,N,rfl,rfl,AO,ac,cT,ap⟩:=h;exact⟨_,_,ap,agD aw aH hk (by omega) au aa el j9 AO ac cT⟩
    grind
   grind
  ·rename_i f args fg aH;split at h
   ·rename_i k cr k7;have h:=xq h;rcases h with h|h
    rotate_left
    ·split at h
     ·rcases h with h|h
      ·exact Xi aH aa k7 h
      ·exact agP aH aa k7 h
     ·exact Xi aH aa k7 h
    obtain⟨k3,⟨cK,r,hle,jr,ap⟩,lu⟩:=KG h;have run:=λae=>Xb (P:=P) (ba:=ba) (E:=E) (wrap:=λd=>d) (aD:=aD) (ρ:=bF s) aH aa (λh=>h) k7 (λh=>h) lu hle jr ae;split at ap
    ·grind
    ·split at ap
     ·grind
     ·split at ap
      ·rename_i j ae;split at ap
       ·rename_i fm;exact⟨_,_,ap,agO aH aa k7 lu hle jr ae fm⟩
       grind
      grind
   grind
  grind
def Xn(aD:Nat->Prop)(ba:e8)(n:Nat)(o:Oper)(bz:fc):Prop:=
 ∀ (aP:c3) (s':bJ) (a:Act) (w:World),cd aD ba n aP s' a w->dM aD ba n (λpG=>pG=bz.kM s') (a.put o.dst undef) w
theorem DO(aa:∀t,o.dst=some t->t<n){d:ak}{kr:List Nat}:Xn aD ba n o ⟨gF o.dst (.b8 false d),kr,[],[]⟩:=λaP s' a w h=>dM.put h aa Ga xH
theorem DP{g:Bool}(ax:g=true):∀ {l:List Operand} {s:bJ} {K:bJ->Prop},pz g l s K->∃aZ:List (Nat×ak),K ⟨aZ++s.env,s.loc⟩/\(∀t∈aZ.map (·.1),.tmp t∈l)/\
  ∀ (t:Nat) (A:Nat->Prop) (os:c3) (w:World) (x:Value),bg A os w x (look (aZ++s.env) t)↔bg A os w x (look s.env t)
 | [],s,K,h=>⟨[],h,by simp,λt A os w x=>Cz⟩
 | .tmp t::r,s,K,h=>by
  unfold pz at h;split at h
  ·rename_i dV d e;obtain⟨h1,h⟩:=h;obtain⟨aZ,ap,cS,b1⟩:=DP ax h;have agR:=h1 ax;subst agR;refine⟨aZ++ [(t,d)],by grind,λeB AT=> ?_,λeB A os w x=> ?_⟩
   ·grind
   ·rw[k1];refine(b1 eB A os w x).trans ?_;simp only[rq,nR,look];split
    ·rename_i ac;have:=fB ac;subst this;rw[e];exact⟨λh=>.b8 (λ_=>h) (λe=>by cases e),λh=>h.yF.1 rfl⟩
    rfl
  ·obtain⟨aZ,ap,cS,b1⟩:=DP ax h
   grind
 | .const v::r,s,K,h=>by
  obtain⟨aZ,ap,cS,b1⟩:=DP ax (l:=r) (by unfold pz at h;exact h)
  grind
 | .global v::r,s,K,h=>by
  obtain⟨aZ,ap,cS,b1⟩:=DP ax (l:=r) (by unfold pz at h;exact h)
  grind
 | .func v::r,s,K,h=>by
  obtain⟨aZ,ap,cS,b1⟩:=DP ax (l:=r) (by unfold pz at h;exact h)
  grind
theorem agS{bz:fc}{aZ:List (Nat×ak)}(cS:∀t∈aZ.map (·.1),.tmp t∈o.op.operands.toList)
  (b1:∀ (t:Nat) (A:Nat->Prop) (os:c3) (w:World) (x:Value),bg A os w x (look (aZ++s.env) t)↔bg A os w x (look s.env t)) (h:nC P aD ba n o bz ⟨aZ++s.env,s.loc⟩ E):nC P aD ba n o bz s E:=by
 intro aP s' a w ao he af hlen;have key:∀ (t:Nat) (A:Nat->Prop) (os:c3) (w:World) (x:Value),bg A os w x (look (aZ++s'.env) t)↔bg A os w x (look s'.env t):=λt A os w x=>by
  by_cases cI:t∈aZ.map (·.1)
  ·rw[Kx (e':=s.env) cI,b1 t A os w x];have:=he _ (cS t cI);simp only[bF]at this
   grind
  ·rw[Gz cI]
 have h1:=h aP ⟨aZ++s'.env,s'.loc⟩ a w ⟨ao.size,ao.defers,ao.hB,ao.a0,ao.loc,λt=>(key t _ _ _ _).2 (ao.env t),ao.cW,ao.inj⟩ (λx ag=>by
  cases x with
  |tmp t=>
   simp only[bF];by_cases cI:t∈aZ.map (·.1)
   ·exact Kx cI
   ·rw[Gz cI,Gz cI];exact he _ ag
  |const v=>rfl
  |global g=>rfl
  |func f=>rfl) af hlen
 refine Oper.wp_mono (λcH eL aV=> ?_) h1;obtain⟨k5,s2,iz,rfl⟩:=aV;refine⟨k5,bz.kM s',⟨iz.size,iz.defers,iz.hB,iz.a0,iz.loc,λt=> ?_,iz.cW,iz.inj⟩,rfl⟩;have ab:=iz.env t;by_cases cI:bz.h4 t
 ·rw[Kz (s':=bz.kM ⟨aZ++s'.env,s'.loc⟩) cI]at *;exact ab
 ·rw[A1 cI]at ab⊢
  grind
theorem Xo(aw:dw P ah=true)(aQ: (aE ah 0).size=0)(aa:∀t,o.dst=some t->t<n){g:Bool}{K:fc->Nat->Prop}(h:Jz ah P o g idx s K):
  ∃bz yB,K bz yB/\(g=true->nC P aD ba n o bz s E)/\(g=false->Xn aD ba n o bz):=by
 unfold Jz at h;split at h
 ·rename_i c x y aH;obtain⟨fD,d,ap,lu⟩:=ags _ h;obtain⟨al,ap⟩:=qT.1 ap;refine⟨_,_,ap,λax=> ?_,λax=>by subst ax;exact DO aa⟩;subst ax;intro aP s' a w ao he af _;have tz:∀z∈o.op.operands.toList,bg (bh aD aP) aP w (a.eval z) (bF s z):=λz bt=>by rw[<-he z bt];exact ao.bF z
  rw[aH]at tz;obtain⟨_,_,⟨rfl,rfl⟩,ax⟩:=WK (P:=P) (A:=bh aD aP) (os:=aP) (w:=w) (a:=a) aH (λb1=>by
   obtain⟨dh,b1,bw⟩:=GC b1;exact⟨dh,b1,λal=>bw (λz bt=>tz z (by simp[Op.operands]at bt⊢;grind)) al rfl _ (by simp)⟩) (tz x (by simp[Op.operands])) (tz y (by simp[Op.operands])) (lu (λeP ck=>eP=fD/\ck=d) ⟨rfl,rfl⟩)
  obtain⟨x,eo,xu⟩:=ax al;exact jG eo (dM.put ao aa (.b8 (λ_=>xu) (λe=>by cases e)) xH)
 ·split at h
  ·obtain⟨dh,h,fM⟩:=GC h;obtain⟨c,d,ap,lu⟩:=W4 _ h;obtain⟨al,ap⟩:=qT.1 ap;refine⟨_,_,ap,λax=> ?_,λax=>by subst ax;exact DO aa⟩;subst ax;obtain⟨kx,rG⟩:=Holds.andO.1 al;have nV:Holds c:=by
    cases c with
    |none=>exact Holds.OF
    |some p=>exact Holds.j8.2 (Holds.j8.1 rG rfl)
   exact agy (wrap:=.b8 true) aw aQ aa lu nV (λh=>fM h kx rfl) (λh=>.b8 (λ_=>h) (λe=>by cases e))
  ·split at h
   ·rename_i f args fg aH;split at h
    ·rename_i k cr k7;split at h
     ·obtain⟨dh,h,fM⟩:=GC h;have h:=xq h;obtain⟨k3,⟨cK,r,hle,jr,ap⟩,lu⟩:=KG h;obtain⟨kx,ap⟩:=qT.1 ap;have run:=λ(ax:g=true) ae=>Xb (P:=P) (ba:=ba) (E:=E) (wrap:=.b8 true) (aD:=aD) (ρ:=jD s) aH aa (λh=>fM h kx ax) k7 (λh=>.b8 (λ_=>h) (λe=>by cases e)) lu hle (jr ax) ae;split at ap
      ·rename_i ae;exact⟨_,_,ap,λax=>by grind,λax=>by subst ax;exact DO aa⟩
      ·split at ap
       ·rename_i ae;exact⟨_,_,ap,λax=>by grind,λax=>by subst ax;exact DO aa⟩
       grind
     ·cases g with
      |true=>
       obtain⟨aZ,h,cS,b1⟩:=DP rfl h;obtain⟨bz,i,ap,ao⟩:=h.elim (agN (aD:=aD) (ba:=ba) (E:=E) aa) (PM (aD:=aD) (ba:=ba) (E:=E) aw aQ aa);exact⟨bz,i,ap,λ_=>agS cS b1 ao,λe=>by cases e⟩
      |false=>
       have h:∃d:ak,K ⟨gF o.dst (.b8 false d),[],[],[]⟩ idx:=h;obtain⟨d,h⟩:=h;exact⟨_,_,h,(λe=>by cases e),λ_=>DO aa⟩
    grind
   ·cases g with
    |true=>
     obtain⟨bz,i,ap,ao⟩:=PM (aD:=aD) (ba:=ba) (E:=E) aw aQ aa h
     grind
    |false=>
     have h:K ⟨gF o.dst (.b8 false (.v (.bool false))),[],[],[]⟩ idx:=h;exact⟨_,_,h,(λe=>by cases e),λ_=>DO aa⟩
def KN(P:Program)(aD:Nat->Prop)(ba:e8)(n:Nat)(ops:Array Oper)(o:Oper)(bz:fc)(s:bJ)(E:Exit->Act->World->Prop):Prop:=
 ∀ (aP:c3) (s':bJ) (a:Act) (w:World),cd aD ba n aP s' a w->(∀t∈o.looksAt ops,look s'.env t=look s.env t)->(∀k,(k∈bz.kr\/bz.cW k)->bN s'.loc k=bN s.loc k)->s'.loc.length=s.loc.length->
  if Region.wanted o (yielded ops a.tmps)then o.wp P a w (dM aD ba n λpG=>pG=bz.kM s') E else dM aD ba n (λpG=>pG=bz.kM s') (a.put o.dst undef) w
theorem PN(h:∀t∈o.looksAt ops,look s'.env t=look s.env t):∀x∈o.op.operands.toList,bF s' x=bF s x:=by
 intro x ag;cases x with
 |tmp t=>
  refine h t ?_;simp only[Oper.looksAt,eb,NQ]
  grind
 |const v=>rfl
 |global g=>rfl
 |func f=>rfl
theorem Xp{j:Nat}{want:Bool}(ax:o.guard=some (j,want))(h:∀t∈o.looksAt ops,look s'.env t=look s.env t):uG ops.toList s' j=uG ops.toList s j:=by
 unfold uG;split
 ·rename_i auo PO;split
  ·rename_i t cI;refine h t ?_;simp only[Oper.looksAt,ax,eb]
   grind
  ·rfl
 ·rfl
theorem Xq{j:Nat}(h:cd aD ba n os s a w):
  (∀b,uG ops.toList s j= .v (.bool b)->yielded ops a.tmps j=some b)/\(∀g b,uG ops.toList s j= .b8 g (.v (.bool b))->(g=true->yielded ops a.tmps j=some b)/\(g=false->yielded ops a.tmps j=none)):=by
 have bk:∀d,uG ops.toList s j=d->d≠ .aY->∃t,(ops[j]?).bind (·.dst)=some t/\look s.env t=d:=by
  intro d e aq;unfold uG at e
  grind
 have Xr:∀ (t:Nat) (b:Bool),(ops[j]?).bind (·.dst)=some t->a.tmps.getD t undef= .bool b->yielded ops a.tmps j=some b:=by
  intro t b cI ab;have aB:t<a.tmps.size:=by
   rcases mX t a.tmps.size with aB|fU
   ·omega
   ·rw[ps,NE fU]at ab;cases ab
  rw[ps,vF aB]at ab;simp only[qJ]at ab;simp[yielded,cI,aB,ab]
 refine⟨λb e=> ?_,λg b e=>⟨λsz=> ?_,λsz=> ?_⟩⟩
 ·obtain⟨t,cI,wr⟩:=bk _ e (by simp);have ab:=h.env t;rw[wr]at ab;exact Xr t b cI ab.j7.1
 ·obtain⟨t,cI,wr⟩:=bk _ e (by simp);have ab:=h.env t;rw[wr]at ab;exact Xr t b cI (ab.yF.1 sz).j7.1
 ·obtain⟨t,cI,wr⟩:=bk _ e (by simp);have ab:=h.env t;rw[wr]at ab;have ab:=ab.yF.2 sz;have:a.tmps[t]?=none\/a.tmps[t]?=some undef:=by
   rw[ps]at ab
   grind
  rcases this with h1|h1<;>simp[yielded,cI,h1,undef]
theorem agT(aw:dw P ah=true)(aQ: (aE ah 0).size=0)(aa:∀t,o.dst=some t->t<n){K:fc->Nat->Prop}(h:Ou ah P ops.toList o idx s K):∃bz yB,K bz yB/\KN P aD ba n ops o bz s E:=by
 unfold Ou at h;split at h
 ·rename_i ax;obtain⟨bz,i,ap,ao⟩:=PM (aD:=aD) (ba:=ba) (E:=E) aw aQ aa h;refine⟨bz,i,ap,λaP s' a w h1 ad aN bs=> ?_⟩;rw[b3 (by simp[Region.wanted,ax])];exact ao aP s' a w h1 (PN ad) aN bs
 ·rename_i j want ax;split at h
  ·rename_i b e;obtain⟨bz,i,ap,v7,iz⟩:=Xo (aD:=aD) (ba:=ba) (E:=E) aw aQ aa (Kt.1 h);refine⟨bz,i,ap,λaP s' a w h1 ad aN bs=> ?_⟩;have o7:=(Xq (ops:=ops) (j:=j) h1).1 b ((Xp ax ad).trans e);by_cases ac:b=want
   ·subst ac;rw[b3 (by simp[Region.wanted,ax,o7])];exact v7 (by cases b<;>rfl) aP s' a w h1 (PN ad) aN bs
   ·rw[bm (by simp[Region.wanted,ax,o7,ac])];exact iz (by cases b<;>cases want<;>simp at ac⊢) aP s' a w h1
  ·rename_i g b e;obtain⟨bz,i,ap,v7,iz⟩:=Xo (aD:=aD) (ba:=ba) (E:=E) aw aQ aa (Kt.1 h);refine⟨bz,i,ap,λaP s' a w h1 ad aN bs=> ?_⟩;have o7:=(Xq (ops:=ops) (j:=j) h1).2 g b ((Xp ax ad).trans e);cases sz:g with
   |false=>
    have o7:=o7.2 sz;rw[bm (by simp[Region.wanted,ax,o7])];exact iz (by grind) aP s' a w h1
   |true=>
    have o7:=o7.1 sz;by_cases ac:b=want
    ·subst ac;rw[b3 (by simp[Region.wanted,ax,o7])];exact v7 (by grind) aP s' a w h1 (PN ad) aN bs
    ·rw[bm (by simp[Region.wanted,ax,o7,ac])];exact iz (by grind) aP s' a w h1
  grind
end
open Go
section
variable {P:Program} {ah:dJ} {aD:Nat->Prop} {ba:e8} {n:Nat} {os:c3} {s s':bJ} {a:Act} {w:World} {ops:Array Oper} {E:Exit->Act->World->Prop}
abbrev tC:Nat->Bool:=λ_=>true
theorem PP{bz:fc}{pH:List fc}:∀i,fG (bz::pH) s tC (i+1)=fG pH (bz.kM s) tC i
 |0=>rfl
 |i+1=>by
  have a1:fG (bz::pH) s tC (i+1)=fG pH (bz.kM s) tC i:=PP i;rw[fG,a1];rfl
theorem Xs:∀ {l e:List (Nat×ak)} {K:List (Nat×ak)->Prop},Jx l e K↔K (l++e)
 | [],e,K=>Cz
 |p::r,e,K=>Xs (l:=r)
theorem agU{bz:fc}{K:bJ->Prop}:bz.U8 s K↔K (bz.kM s):=by
 obtain⟨Ax,kr,na,p8⟩:=bz;obtain⟨e,l⟩:=s;show Jx Ax e _↔_;rw[Xs];cases na
 ·rfl
 ·exact JW
theorem Xt:∀ {m lk:List (Nat×Nat)} {K:List (Nat×Nat)->Prop},Ov lk m K->∃GK,K GK
 | [],lk,K,h=>⟨lk,h⟩
 |p::r,lk,K,h=>Xt (m:=r) h
theorem Xu(aw:dw P ah=true)(aQ: (aE ah 0).size=0){K:List fc->List (Nat×Nat)->bJ->Prop}:∀ (l:List Oper) {idx:Nat} {aL:List fc} {lk:List (Nat×Nat)} {s:bJ},l.all (AZ n)=true->JA ah P ops.toList l idx aL lk K s->
  ∃pH GK,pH.length=l.length/\K (aL++pH) GK (fG pH s tC l.length)/\∀ (i:Nat) o bz,l[i]?=some o->pH[i]?=some bz->KN P aD ba n ops o bz (fG pH s tC i) E
 | [],idx,aL,lk,s,_,h=>⟨[],lk,rfl,by simp only[jQ];exact h,λi o bz h1 _=>by grind⟩
 |o::r,idx,aL,lk,s,af,h=>by
  simp only[Fk,cq]at af;unfold JA at h;obtain⟨bz,yB,h,ao⟩:=agT (aD:=aD) (ba:=ba) (E:=E) aw aQ (Pj af.1) h;obtain⟨aup,h⟩:=Xt (agU.1 h);obtain⟨pH,GK,h1,ad,aN⟩:=Xu aw aQ r af.2 h;refine⟨bz::pH,GK,by grind,?_,λi aT iy hi mf=> ?_⟩
  ·rw[l7,PP]
   grind
  ·cases i with
   |zero=>
    simp at hi mf;subst hi;subst mf;exact ao
   |succ i=>
    rw[PP]
    grind
theorem cd.congr(h:cd aD ba n os s' a w)(af:s.loc=s'.loc)(he:∀t,look s.env t=look s'.env t):cd aD ba n os s a w:=
 ⟨h.size,h.defers,h.hB,h.a0,af.trans h.loc,λt=>by rw[he];exact h.env t,h.cW,h.inj⟩
theorem agV{l cK:List aX}(af:l.length=cK.length)(h:∀k,bN l k=bN cK k):l=cK:=by
 refine NN af (λi h1 ad=> ?_);have:=h i;rw[lm,lm,eN h1,eN ad]at this
 grind
variable {db:List fc} {e9:bJ} {N:Nat}
def o9(jb:Array Bool)(j:Nat):Bool:=jb.getD j false
def A8(aD:Nat->Prop)(ba:e8)(n:Nat)(db:List fc)(e9:bJ)(N:Nat)(S:Nat->Bool)(a:Act)(w:World):Prop:=
 ∃aP s',cd aD ba n aP s' a w/\(∀t,look s'.env t=look (fG db e9 S N).env t)/\(∀k,bN s'.loc k=bN (fG db e9 S N).loc k)/\s'.loc.length=e9.loc.length
theorem agW{S:Nat->Bool}(o4:∀i o,S i=true->ops[i]?=some o->∀e∈o.after,Region.binds .any e=true->S e.on=true){i j:Nat}(h:Reach ops i j):S i=true->S j=true:=by
 induction h with
 |KD aH he ac=>grind
 |trans _ _ agX agY=>grind
theorem agZ{S:Nat->Bool}(o4:∀i o,S i=true->ops[i]?=some o->∀e∈o.after,Region.binds .any e=true->S e.on=true){i j:Nat}(h:Reach ops i j): (∀o,ops[i]?=some o->∀e∈o.after,Region.binds .any e=true->S e.on=true)->S j=true:=by
 induction h with
 |KD aH he ac=>grind
 |trans _ ad agX agY=>grind
theorem ag0(hO:A2 db (A3 ops) (Reach ops))(js:db.length=ops.size)(GL:∀ (i:Nat) o bz,ops[i]?=some o->db[i]?=some bz->KN P aD ba n ops o bz (fG db e9 tC i) E)
  {S:Nat->Bool} (o4:∀i o,S i=true->ops[i]?=some o->∀e∈o.after,Region.binds .any e=true->S e.on=true) {i:Nat} {o:Oper} (aH:ops[i]?=some o) (hi:S i=false) (ao:∀e∈o.after,Region.binds .any e=true->S e.on=true)
  (h:A8 aD ba n db e9 ops.size S a w):
  if Region.wanted o (yielded ops a.tmps)then o.wp P a w (A8 aD ba n db e9 ops.size λj=>S j||decide (j=i)) E else A8 aD ba n db e9 ops.size (λj=>S j||decide (j=i)) (a.put o.dst undef) w:=by
 obtain⟨aP,s',h1,ad,aN,bs⟩:=h;have wv:=(wX.1 aH).1;have mf:db[i]?=some (db[i]'(by omega)):=eN (by omega);generalize(db[i]'(by omega))=bz at mf;have KO:∀i j,S i=true->Reach ops i j->S j=true:=λi j cJ b1=>agW o4 b1 cJ;have mb:∀j,Reach ops i j->S j=true:=λj b1=>agZ o4 b1 (λaT ku=>by grind);have o3:A3 ops i=o.looksAt ops:=by simp[A3,aH]
 have run:=GL i o bz aH mf aP s' a w h1 (λt cI=>(ad t).trans (af7 hO KO hi mb wv (by grind))) (λk hk=>(aN k).trans (af8 hO KO hi mb wv mf hk)) (by rw[bs,xG]);have nz:∀y4 w',dM aD ba n (λpG=>pG=bz.kM s') y4 w'->A8 aD ba n db e9 ops.size (λj=>S j||decide (j=i)) y4 w':=by
  rintro y4 w' ⟨k5,s2,kO,rfl⟩;have al:=af2 (bz:=bz) ad aN (by rw[bs,xG]);exact⟨k5,_,kO,λt=>(al.1 t).trans (af9 hO KO hi wv mf t).symm,λk=>(al.2 k).trans (aga hO KO hi wv mf k).symm,by rw[WU,bs]⟩
 split
 ·rename_i hw;rw[b3 hw]at run;exact Oper.wp_mono nz run
 grind
theorem ag1(hO:A2 db (A3 ops) (Reach ops))(js:db.length=ops.size)(xI:AA ops.toList 0=true)(GL:∀ (i:Nat) o bz,ops[i]?=some o->db[i]?=some bz->KN P aD ba n ops o bz (fG db e9 tC i) E)
  {K:bJ->Prop} (ap:K (fG db e9 tC ops.size)) (cP:∀a w,dM aD ba n K a w->E .normal a w):
  ∀ (fuel:Nat) (jb:Array Bool) (a:Act) (w:World),jb.size=ops.size->(∀i o,o9 jb i=true->ops[i]?=some o->∀e∈o.after,Region.binds .any e=true->o9 jb e.on=true)->
   jb.toList.count false<=fuel->A8 aD ba n db e9 ops.size (o9 jb) a w->wpAny P .any ops E fuel jb a w:=by
 intro fuel;have done:∀ (jb:Array Bool) (a:Act) (w:World),jb.size=ops.size->Region.ready .any ops jb=[]->A8 aD ba n db e9 ops.size (o9 jb) a w->E .normal a w:=by
  intro jb a w cC ao hinv;have cF:∀i,i<ops.size->o9 jb i=true:=by
   intro i;induction i using Nat.strongRecOn with
   |_ i a1=>
    intro hi;cases cJ:o9 jb i with
    |true=>rfl
    |false=>
     have:i∈Region.ready .any ops jb:=by
      rw[mem_ready];refine⟨?_,ops[i],vF hi,λe he ac=> ?_⟩
      ·have aB:i<jb.size:=by omega
       simp only[o9,ps,vF aB,qJ]at cJ⊢;exact cJ
      ·have:=WZ xI (i:=i) (o:=ops[i]) (by simp) e he ac;exact a1 e.on (by omega) (by omega)
     grind
  obtain⟨aP,s',h1,ad,aN,bs⟩:=hinv;have bU:fG db e9 (o9 jb) ops.size=fG db e9 tC ops.size:=KC _ (λj aq=>cF j aq);rw[bU]at ad aN;exact cP a w ⟨aP,_,h1.congr (agV (by rw[bs,xG]) (λk=>(aN k).symm)) (λt=>(ad t).symm),ap⟩
 induction fuel with
 |zero=>
  intro jb a w cC o4 ag2 hinv;have ao:Region.ready .any ops jb=[]:=by
   rw[List.eq_nil_iff_forall_not_mem];intro i hi;obtain⟨h1,o,aH,_⟩:=mem_ready.1 hi;have aB:i<jb.size:=by grind
   simp only[ps,vF aB,qJ]at h1;have:false∈jb.toList:=by grind
   grind
  exact⟨ao,done jb a w cC ao hinv⟩
 |succ fuel a1=>
  intro jb a w cC o4 ag2 hinv;refine⟨λao=>done jb a w cC ao hinv,λi hi=> ?_⟩;obtain⟨h1,o,aH,cF⟩:=mem_ready.1 hi;have aB:i<jb.size:=by grind
  have Xv:jb[i]=false:=by simpa only[ps,vF aB,qJ]using h1
  have ag3:o9 jb i=false:=by simp only[o9,ps,vF aB,qJ,Xv]
  have wu:∀j,o9 (jb.setIfInBounds i true) j=(o9 jb j||decide (j=i)):=by
   intro j;simp only[o9,ps,UH]
   grind
  have bU:=ag0 (P:=P) (E:=E) hO js GL o4 aH ag3 cF hinv;have next:∀a w,A8 aD ba n db e9 ops.size (λj=>o9 jb j||decide (j=i)) a w->wpAny P .any ops E fuel (jb.setIfInBounds i true) a w:=by
   intro a w auq;refine a1 _ a w (by grind) (λAK aT di ku e he ac=> ?_) ?_ ?_
   ·rw[wu]at di⊢;simp only[oS,fx]at di⊢;rcases di with di|rfl
    ·grind
    ·rw[aH]at ku;cases ku;exact .inl (cF e he ac)
   ·grind
   ·have:o9 (jb.setIfInBounds i true)=λj=>o9 jb j||decide (j=i):=funext wu
    grind
  unfold wpOp;rw[aH];simp only;split
  ·rename_i hw;rw[b3 hw]at bU;exact .inl (Oper.wp_mono next bU)
  grind
theorem b7.xF{A:Nat->Prop}{w:World}{x:Value}{d:ak}(i j:Nat)(h:b7 A w x d):b7 A w x (ll i j d)/\b7 A w x (xk i j d):=by
 induction h with
 |v h=>exact⟨.v h,.v h⟩
 |av xs aV al az au cC ai ac br dD ag _=>exact⟨.av xs aV al az au cC ai ac br dD ag,.av xs aV al az au cC ai ac br dD ag⟩
 |nil=>exact⟨.nil,.nil⟩
 |ar=>exact⟨.ar,.ar⟩
 |agg af br h a1=>
  refine⟨.agg af br h,.agg (by grind) br (λj v d ab aa=> ?_)⟩
  grind
 | @be vs ds af h _=>
  refine⟨.be af h,?_⟩;show b7 A w _ (qN ds);unfold qN;split
  ·exact .be af h
  ·exact .aY
 |da xs ai ac br dD ag _=>exact⟨.da xs ai ac br dD ag,.da xs ai ac br dD ag⟩
 |fn af h _=>exact⟨.fn af h,.fn af h⟩
 |b8 _ aQ a1=>exact⟨.b8 (λac=>(a1 ac).1) aQ,.b8 (λac=>(a1 ac).2) aQ⟩
 |aY=>exact⟨.aY,.aY⟩
theorem ag4{p:Nat×Nat}(h:cd aD ba n os s a w):∃aP,cd aD ba n aP (Ow s p) a w:=by
 obtain⟨i,j⟩:=p;unfold Ow;split
 ·rename_i h1 ad;simp only at h1 ad;rw[h.loc]at h1 ad;obtain⟨x,e,ay,es,hi⟩:=JN h1;have aq:∃y,os[j]?=some (y,.gone):=by
   rw[lm,fe]at ad;cases aq:os[j]? with
   |none=>rw[aq]at ad;simp[Oa]at ad
   |some p=>
    obtain⟨y,o⟩:=p;rw[aq]at ad;cases o<;>simp[Oa]at ad
    simp
  obtain⟨y,aq⟩:=aq;have fV:i≠j:=λe=>by grind
  have qk:=(eI.1 hi).1;have nY:=(eI.1 aq).1;have fm:bN s.loc i= .row e ay es:=by rw[h.loc,lm,fe,hi];rfl
  rw[fm];generalize mD: (((os.map λp=>(p.1,gv (ll i j) p.2)).set j (x,.row e ay es)).set i (.nilFunc,.bn))=aP;have ae8:aP[i]?=some (.nilFunc,.bn):=by grind
  have PO:aP[j]?=some (x,.row e ay es):=by grind
  have uQ:∀ {k:Nat},k≠i->k≠j->aP[k]?=(os[k]?).map λp=>(p.1,gv (ll i j) p.2):=by
   grind
  have cL:∀ {k:Nat} {z:Value} {aT:aX},aP[k]?=some (z,aT)->(k=j/\z=x/\aT= .row e ay es)\/(k=i/\z= .nilFunc/\aT= .bn)\/(k≠i/\k≠j/\∃dx,os[k]?=some (z,dx)/\aT=gv (ll i j) dx):=by
   grind
  have dq:∀dx:aX,gv (ll i j) dx≠ .bn↔dx≠ .bn:=by intro dx;cases dx<;>simp[gv]
  have fO:∀b,bh aD aP b->bh aD os b:=by
   rintro b (ac| ⟨k,z,aT,hk,aa,cx⟩)
   ·exact .inl ac
   ·rcases cL hk with⟨rfl,rfl,rfl⟩| ⟨rfl,rfl,rfl⟩| ⟨_,_,dx,jk,rfl⟩
    ·exact .inr ⟨i,_,_,hi,by simp,cx⟩
    ·grind
    ·exact .inr ⟨k,_,_,jk,(dq _).1 aa,cx⟩
  have ng:dy (bh aD os) (bh aD aP) w w:=dy.ic fO;have qZ:∀ {p q:Nat},p≠q->Nat.beq p q=false:=by
   intro p q bx;cases ac:Nat.beq p q;all_goals simp_all
  have AI:∀ {z:Value} {d:ak},bg (bh aD os) os w z d->(z.oneCell'=true->bg (bh aD aP) aP w z (ll i j d))/\bg (bh aD aP) aP w z (xk i j d):=by
   intro z d bt;induction bt with
   |bQ h=>exact⟨λ_=>.bQ ((h.cA ng).xF i j).1,.bQ ((h.cA ng).xF i j).2⟩
   | @aW k off g t cs hk=>
    have nj:k≠i:=λe=>by grind
    have q2:k≠j:=λe=>by grind
    have:aP[k]?=some (.pointer (some ⟨g,0,none⟩),.cells t (cs.map (ll i j))):=by rw[uQ nj q2,hk];rfl
    exact⟨λ_=>.aW this,.aW this⟩
   | @dU k off g t cs hk=>
    have nj:k≠i:=λe=>by grind
    have q2:k≠j:=λe=>by grind
    have:aP[k]?=some (.pointer (some ⟨g,0,none⟩),.cells t (cs.map (ll i j))):=by rw[uQ nj q2,hk];rfl
    exact⟨λ_=>.dU this,.dU this⟩
   | @de k gZ off g m c aG tp v8 hk=>
    have q2:k≠j:=λe=>by grind
    have key:bg (bh aD aP) aP w (.pointer (some ⟨g,gZ*tp+off,none⟩)) (ll i j (.de k gZ off)):=by
     by_cases nj:k=i
     ·subst nj;rw[hi]at hk;cases hk;simp only[ll,Af];exact .de PO
     ·simp only[ll,qZ nj,qZ q2];exact .de (e:=aG) (ay:=tp) (es:=v8) (n:=m) (c:=c) (by rw[uQ nj q2,hk];rfl)
    exact⟨λ_=>key,key⟩
   | @own k z aG tp v8 hk h1=>
    have q2:k≠j:=λe=>by grind
    have key:bg (bh aD aP) aP w z (ll i j (.own k)):=by
     by_cases nj:k=i
     ·subst nj;rw[hi]at hk;cases hk;simp only[ll,Af];exact .own PO h1
     ·simp only[ll,qZ nj,qZ q2];exact .own (e:=aG) (ay:=tp) (es:=v8) (by rw[uQ nj q2,hk];rfl) h1
    exact⟨λ_=>key,key⟩
   | @e5 k z kP d hk aa h1=>
    have nj:k≠i:=λe=>by grind
    by_cases q2:k=j
    ·rcases aa with rfl| ⟨_,_,rfl⟩
     ·have aA:ll i j (.own k)= .aY:=by simp only[ll,qZ nj,q2,Af,qZ (λe=>fV (Eq.symm e))]
      have aG:xk i j (.own k)= .aY:=aA;rw[aA,aG];exact⟨λ_=>.bQ .aY,.bQ .aY⟩
     ·rename_i gZ off;have aA:ll i j (.de k gZ off)= .aY:=by simp only[ll,qZ nj,q2,Af,qZ (λe=>fV (Eq.symm e))]
      have aG:xk i j (.de k gZ off)= .aY:=aA;rw[aA,aG];exact⟨λ_=>.bQ .aY,.bQ .aY⟩
    ·have hq:aP[k]?=some (kP,.gone):=by rw[uQ nj q2,hk];rfl
     rcases aa with rfl| ⟨gZ,off,rfl⟩
     ·have aA:ll i j (.own k)= .own k:=by simp only[ll,qZ nj,qZ q2]
      have aG:xk i j (.own k)= .own k:=aA;rw[aA,aG];exact⟨λ_=>.e5 hq (.inl rfl) h1,.e5 hq (.inl rfl) h1⟩
     ·have aA:ll i j (.de k gZ off)= .de k gZ off:=by simp only[ll,qZ nj,qZ q2]
      have aG:xk i j (.de k gZ off)= .de k gZ off:=aA;rw[aA,aG];exact⟨λ_=>.e5 hq (.inr ⟨_,_,rfl⟩) h1,.e5 hq (.inr ⟨_,_,rfl⟩) h1⟩
   | @agg vs ds af br _ a1=>
    refine⟨λh=>by simp[Value.oneCell']at h,.agg (by grind) br (λk v d ab aa=> ?_)⟩
    grind
   | @be vs ds af b0 bw a1=>
    exact⟨λh1=>by simp[Value.oneCell']at h1,.bQ (((bg.be af b0 bw).qN).cA ng)⟩
   | @fn f vs ds af iM _ a1=>
    have key:bg (bh aD aP) aP w (.func f #[] vs.toArray) (.fn f ds):=.fn af iM (λk v d ab aa=>by
     have al:=iM d (fq aa);have ad:=(a1 k v d ab aa).2;cases d<;>simp[l8,mz]at al<;>exact ad)
    exact⟨λ_=>key,key⟩
   |b8 _ aQ a1=>exact⟨λh1=>.b8 (λac=>(a1 ac).1 h1) aQ,.b8 (λac=>(a1 ac).2) aQ⟩
  refine⟨aP,h.size,h.defers,h.hB,h.a0,?_,λt=> ?_,λk z aT hk=> ?_,λcV dj z dx lT fT b h1 ad d1 d2 cX c0=> ?_⟩
  ·rw[<-mD,mC,mC,v2,h.loc,oj,oj,oU,oU];rfl
  ·show bg _ _ _ _ (look (AC (xk i j) s.env) t);rw[Dh _ (by rfl)];exact(AI (h.env t)).2
  ·rcases cL hk with⟨rfl,rfl,rfl⟩| ⟨rfl,rfl,rfl⟩| ⟨ie,lq,dx,jk,rfl⟩
   ·have:=h.cW _ _ _ hi;obtain⟨jE,xs,b0,cC,gY,br,ao⟩:=this;exact⟨jE,xs,b0,cC,gY,br,λeO jo r d h1 ad=>by
     obtain⟨v,ab,hi⟩:=ao eO jo r d h1 ad;exact⟨v,ab,hi.cA ng⟩⟩
   ·exact trivial
   ·have ka:=h.cW _ _ _ jk;cases dx with
    |bn=>exact trivial
    |gone=>exact ka
    |cB ds=>
     obtain⟨aA,aG,bc,cn⟩:=ka;refine⟨aA,by grind,bc,λAK v d ab aa=> ?_⟩
     grind
    |cells t cs=>
     obtain⟨g,arr,rfl,ct,bw,ae,br,kb⟩:=ka;refine⟨g,arr,rfl,ct,bw,by grind,br,λjo v d ab aa=> ?_⟩
     grind
    |row aG tp v8=>
     obtain⟨jE,xs,b0,cC,gY,br,ao⟩:=ka;exact⟨jE,xs,b0,cC,gY,br,λeO jo r d h1 ad=>by
      obtain⟨v,ab,hi⟩:=ao eO jo r d h1 ad;exact⟨v,ab,hi.cA ng⟩⟩
  ·have eE:∀ {k z aT},aP[k]?=some (z,aT)->aT≠ .bn->∃GM q1,os[GM]?=some (z,q1)/\q1≠ .bn/\GM≠j/\((k=j/\GM=i)\/(k≠j/\GM≠i/\GM=k)):=by
    grind
   obtain⟨fl,dc,dL,gH,_,t1⟩:=eE h1 d1;obtain⟨ff,dt,dW,s2,_,t2⟩:=eE ad d2;have:=h.inj fl ff _ _ _ _ b dL dW gH s2 cX c0;omega
 grind
theorem Xw:∀ (l:List (Nat×Nat)) {os:c3} {s:bJ},cd aD ba n os s a w->∃aP,cd aD ba n aP (Db l s) a w
 | [],os,s,h=>⟨os,h⟩
 |p::r,os,s,h=>by
  obtain⟨hM,h1⟩:=ag4 (p:=p) h;exact Xw r h1
theorem KP{all:List Oper}:∀ (l:List Oper) {os:c3} {s:bJ} {K:bJ->Prop},cd aD ba n os s a w->Dc all l s K->∃aP s',cd aD ba n aP s' a w/\K s'
 | [],os,s,K,h,ap=>⟨os,s,h,ap⟩
 |o::r,os,s,K,h,ap=>by
  unfold Dc at ap;split at ap
  ·split at ap
   ·obtain⟨aP,s',bp,ap,_,_⟩:=xv _ h ap;exact KP r bp ap
   ·exact KP r h ap
  ·exact KP r h ap
theorem ag5(az:P.follows .mixedOrders=true)(aw:dw P ah=true)(aQ: (aE ah 0).size=0){id:Nat}{K:bJ->Prop}(cP:∀a w,dM aD ba n K a w->E .normal a w)(af:ops.toList.all (AZ n)=true)(h:cd aD ba n os s a w)(ap:Oy ah P ops K s):
  (Code.region id ops true).wp P E a w:=by
 unfold Oy at ap;obtain⟨os,s,h,ap⟩:=KP _ h ap;unfold U9 at ap;have ap:=JW.1 ap;obtain⟨pH,lk,hlen,⟨PQ,A9⟩,GL⟩:=Xu (aD:=aD) (ba:=ba) (E:=E) aw aQ ops.toList af ap;have ap:K (Db lk (fG pH ⟨s.env,s.loc++List.replicate (tm ops.toList) .bn⟩ tC ops.toList.length)):=by
  split at A9
  ·exact A9
  omega
 rw[nR]at PQ;have hlen:pH.length=ops.size:=by omega
 have ap:K (Db lk (fG pH ⟨s.env,s.loc++List.replicate (tm ops.toList) .bn⟩ tC ops.size)):=by omega
 have cP:∀a w,dM aD ba n (λs'=>K (Db lk s')) a w->E .normal a w:=λa w ⟨os,s,h,ap⟩=>by
  obtain⟨aP,bp⟩:=Xw lk h;exact cP a w ⟨aP,_,bp,ap⟩
 refine wp_region_any az ?_;have ax:w.grownBy {w with drawn:=w.drawn+1} none:=⟨rfl,rfl,rfl,bS _,λ_ _ _=>rfl⟩
 obtain⟨aP,bp⟩:=Wd (h.qb ax) (tm ops.toList);have xI:AA ops.toList 0=true:=by simp only[JC,cq]at PQ;grind
 have cJ:o9 (Array.replicate ops.size false)=λ_=>false:=by
  funext j;simp only[o9,ps,Array.getElem?_replicate];split<;>rfl
 refine ag1 (agb hlen PQ) hlen xI (λi o bz aH mf=>GL i o bz (by grind) mf) ap cP _ _ _ _ (by simp) (λi o hi _=>by grind) (by simp) ?_;rw[cJ];have KQ:fG pH (⟨s.env,s.loc++List.replicate (tm ops.toList) .bn⟩:bJ) (λ_=>false) ops.size= ⟨s.env,s.loc++List.replicate (tm ops.toList) .bn⟩:=DL (m:=0) ops.size (bZ _) (λ_ _ _=>rfl);exact⟨aP,_,bp,λt=>by rw[KQ],λk=>by rw[KQ],rfl⟩
end
open Go
section
variable {P:Program} {ah:dJ} {aD:Nat->Prop} {ba:e8} {n:Nat} {os:c3} {s:bJ} {a:Act} {w:World} {A:Nat->Prop}
def pI(n:Nat):Code->Bool
 | .region _ ops _=>ops.toList.all (AZ n)
 | .seq a b=>pI n a&&pI n b
 | .cond _ a b=>pI n a&&pI n b
 | .block _ c=>pI n c
 | .loop c=>pI n c
 | .scope c=>pI n c
 |_=>true
def ag6(aD:Nat->Prop)(ba:e8)(n:Nat)(K:Exit->bJ->Prop)(e:Exit)(a:Act)(w:World):Prop:=dM aD ba n (K e) a w
theorem Xx(az:P.follows .mixedOrders=true)(aw:dw P ah=true)(aQ: (aE ah 0).size=0):∀ (c:Code) {K:Exit->bJ->Prop} {E:Exit->Act->World->Prop} {os:c3} {s:bJ} {a:Act} {w:World},
  pI n c=true->(∀e a w,ag6 aD ba n K e a w->E e a w)->cd aD ba n os s a w->rD ah P c K s->c.wp P E a w:=by
 intro c;induction c with
 |skip=>exact λ_ cP h ap=>wp_skip (cP _ _ _ ⟨_,_,h,ap⟩)
 |region id ops draw=>
  intro K E os s a w au cP h ap;cases draw with
  |false=>exact wp_region_list (Pn aw aQ (K:=λs=>K .normal s) (λa w js=>cP _ _ _ js) _ au h ap)
  |true=>exact ag5 az aw aQ (K:=λs=>K .normal s) (λa w js=>cP _ _ _ js) au h ap
 |seq x y PR PS=>
  intro K E os s a w au cP h ap;simp only[pI,cq]at au;refine wp_seq (PR au.1 (λe a w js=> ?_) h ap);obtain⟨os,s,h,ap⟩:=js;cases e with
  |normal=>exact PS au.2 cP h ap
  |_=>exact cP _ _ _ ⟨os,s,h,ap⟩
 |cond c x y PR PS=>
  intro K E os s a w au cP h ap;simp only[pI,cq]at au;have al:=h.bF c;have ap: (match bF s c with
   | .v (.bool t)=>Aw t (rD ah P x K s) (rD ah P y K s)
   |_=>False):=ap
  split at ap
  ·rename_i t e;rw[e]at al;refine wp_cond_split al.j7.1 (λcI=> ?_) (λcI=> ?_)
   ·subst cI;exact PR au.1 cP h ap
   ·subst cI;exact PS au.2 cP h ap
  grind
 |block id c a1=>
  intro K E os s a w au cP h ap;refine wp_block (a1 au (λe a w js=> ?_) h ap);obtain⟨os,s,h,ap⟩:=js;cases e with
  |exit j=>
   simp only[Exit.inBlock];have ap: (match Nat.beq j id with
    |true=>K .normal s
    |false=>K (.exit j) s):=ap
   split at ap
   ·rename_i ac;rw[b3 (fB ac)];exact cP _ _ _ ⟨os,s,h,ap⟩
   ·rename_i ac;rw[bm (λe=>by simp_all)];exact cP _ _ _ ⟨os,s,h,ap⟩
  |_=>exact cP _ _ _ ⟨os,s,h,ap⟩
 |loop c a1=>
  intro K E os s a w au cP h ap;obtain⟨S,enc,I,μ,qQ,⟨k6,ag7,OM⟩,ag8⟩:=ap;obtain⟨hM,gH,h1,hle⟩:=uY qQ h OM;obtain⟨k5,ad⟩:=h1.le hle;refine wp_loop_ghost (λm a w=>∃x,I x/\μ x=m/\∃os,cd aD ba n os (enc x) a w) (μ k6) ⟨k6,ag7,rfl,k5,ad⟩ ?_;rintro m a w ⟨x,ag,rfl,os,h⟩;refine a1 au (λe a w js=> ?_) h (ag8 x ag);obtain⟨os,s,h,ap⟩:=js;cases e with
  |normal=>
   obtain⟨x',xt,aB,hle⟩:=ap;obtain⟨u0,xJ,aN,hle⟩:=uX qQ h hle;obtain⟨aP,bp⟩:=aN.le hle;exact⟨μ x',aB,x',xt,rfl,aP,bp⟩
  |_=>exact cP _ _ _ ⟨os,s,h,ap⟩
 |exit id=>exact λ_ cP h ap=>wp_exit (cP _ _ _ ⟨_,_,h,ap⟩)
 |ret=>exact λ_ cP h ap=>wp_ret (cP _ _ _ ⟨_,_,h,ap⟩)
 |label l=>exact λ_ cP h ap=>wp_label (cP _ _ _ ⟨_,_,h,ap⟩)
 |scope c a1=>
  intro K E os s a w au cP h ap;refine wp_scope_straight (a1 au (λe a w js=> ?_) h ap);obtain⟨os,s,h,ap⟩:=js;cases e with
  |goto l=>grind
  |_=>exact cP _ _ _ ⟨os,s,h,ap⟩
 |_=>intro K E os s a w au cP h ap;exact ap.elim
theorem PT{x:Value}{d:ak}{Q:ak->Prop}(h:cd aD ba n os s a w)(ao:bg (bh aD os) os w x d)(ap:uC s.loc d Q):∃ck,Q ck/\b7 aD w x ck:=by
 have b0:∀ (e:ak) j,e∈gX [d]->nh e=some j->j∈jq (gX [d]):=λe j aa aq=>AQ aa aq;obtain⟨ck,gP,hi⟩:=V6 h ao b0 ap;exact⟨ck,gP,hi.cA (dy.ic (λb ac=>.inl ac))⟩
theorem PU(aw:dw P ah=true)(h:cd aD ba n os s a w):∀ {l9:List ResultVar} {Q:List ak->Prop},FR ah s l9 Q->∃vs ds,Q ds/\vs.length=l9.length/\vs.length=ds.length/\(∀ (i:Nat) v d,vs[i]?=some v->ds[i]?=some d->b7 aD w v d)/\
  (List.mapM (m:=Sem) (λr:ResultVar=>match r with
   | .tmp t=>pure (a.tmps.getD t undef)
   | .cell p t=>do loadVar t (<-asAddr (a.tmps.getD p undef))) l9).run P w= .ok vs w
 | [],Q,ap=>⟨[],[],ap,rfl,rfl,λi v d ab _=>by grind,by simp⟩
 | .tmp t::r,Q,ap=>by
  have ap:=ir.1 ap;obtain⟨d,ap,hi⟩:=PT h (h.env t) ap;obtain⟨vs,ds,gP,h1,ad,aN,bs⟩:=PU aw h ap;refine⟨a.tmps.getD t undef::vs,d::ds,gP,by grind,by grind,λi v ck ab aa=> ?_,?_⟩
  ·grind
  simp_all
 | .cell p ty::r,Q,ap=>by
  unfold FR at ap;have an:=h.env p;split at ap
  ·rename_i i off e;rw[e]at an;obtain⟨g,eB,dI,hi,ab⟩:=an.qR;split at ap
   ·rename_i t2 cs af;rw[h.loc]at af;obtain⟨x',di⟩:=kN af (by simp);rw[hi]at di;cases di;split at ap
    ·grind
    ·rename_i ae;obtain⟨_,_,_,_,_,_,dD⟩:=xo h.cW hi;obtain⟨_,ap⟩:=rE ap;obtain⟨d,y,ap,nZ,nD⟩:=AE (P:=P) aw ae (cE:=⟨g,off,none⟩) (λj d aa=>by rw[qI]at aa;rw[Addr.pA];exact dD _ d aa) ap;obtain⟨d,ap,lp⟩:=PT h nD ap;obtain⟨vs,ds,gP,h1,ad,aN,bs⟩:=PU aw h ap;refine⟨y::vs,d::ds,gP,by grind,by grind,λi v ck ab aa=> ?_,?_⟩
     ·grind
     ·rw[Fr];have aA: (asAddr (a.tmps.getD p undef)).run P w= .ok ⟨g,off,none⟩ w:=by rw[ab];rfl
      simp_all
   grind
  grind
theorem Xy(aw:dw P ah=true){fn:Func}{d:ak}(h:cd aD ba n os s a w)(ap:Va ah fn.results.toList d s):∃v,(results fn a.tmps).run P w= .ok v w/\b7 aD w v d:=by
 obtain⟨vs,ds,gP,h1,ad,aN,bs⟩:=PU aw h ap;have eo: (results fn a.tmps).run P w= .ok (if h:vs.toArray.size=1 then vs.toArray[0]else .tuple vs.toArray) w:=by
  unfold results;rw[NG];simp only[dX,Fx,dT,ex];exact e7 (λr:Result (List Value)=>(r.andThen λa w'=>Result.ok a.toArray w').andThen λa w'=>Result.ok (if h:a.size=1 then a[0]else .tuple a) w') bs
 refine⟨_,eo,?_⟩;have gP: (match ds with
  | [x]=>hQ x d
  |l=>hQ (.be l) d):=gP
 have many:¬vs.length=1->hQ (.be ds) d->b7 aD w (if h:vs.toArray.size=1 then vs.toArray[0]else .tuple vs.toArray) d:=by
  intro bx gP;simp only[I9,bx,dite_false];exact(b7.be ad aN).le gP
 rcases ds with _| ⟨x,_| ⟨y,r⟩⟩
 ·grind
 ·obtain⟨v,rfl⟩:∃v,vs=[v]:=I3.1 (by omega);simpa using(aN 0 v x rfl rfl).le gP
 grind
theorem PV:∀ (l:List ak) (b t:Nat),look (vU b l) t=if b<=t then(l[t-b]?).getD .aY else .aY
 | [],b,t=>by simp[vU,look]
 |d::r,b,t=>by
  simp only[vU,look];split
  ·simp_all
  ·rename_i ac;have bx:b≠t:=λe=>by simp_all
   rw[PV r (b+1) t]
   grind
theorem Xz:∀ {vs:List Value} {ds:List ak},sl A w vs ds->vs.length=ds.length
 | [],[],_=>rfl
 | [],_::_,h=>h.elim
 |_::_,[],h=>h.elim
 |_::_,_::_,h=>by simp[Xz h.2]
theorem XA:∀ {vs:List Value} {ds:List ak} {i:Nat} {v:Value} {d:ak},sl A w vs ds->vs[i]?=some v->ds[i]?=some d->b7 A w v d
 | [],_,i,v,d,_,ab,_=>by grind
 |_::_,[],i,v,d,h,_,aa=>by grind
 |x::vs,y::ds,0,v,d,h,ab,aa=>by simp at ab aa;subst ab;subst aa;exact h.1
 |x::vs,y::ds,i+1,v,d,h,ab,aa=>XA (i:=i) h.2 (by grind) (by grind)
theorem XB{w':World}(h:pw (λ_=>False) w w'):w.grownBy w' none:=⟨h.os,h.tape,h.output,h.size,λk hk _=>h.block k hk (λh=>h)⟩
theorem cp(az:P.follows .mixedOrders=true)(aw:dw P ah=true)(aQ: (aE ah 0).size=0){f:FuncId}{fn:Func}{c:Code}{args:List ak}{d:ak}(au:P.funcs[f]?=some fn)(Ba: (fn.name== "runtime.NumGoroutine")=false)(ac:fn.body=some c)
  (hA:pI fn.ntmps c=true) (aV:Nat.ble args.length fn.ntmps=true) (h:Vb ah P c fn.results.toList args d):bq P f args d:=by
 have aV:=nw aV;refine⟨λvs w=> ?_,λA w fL ai wi=> ?_⟩
 ·simp only[callFunc,dX,run_program,dT,au,Ba,ac,Option.isNone_some];rfl
 ·have hlen:=Xz wi;refine calls_of_wp au ac (Xx (aD:=A) (ba:=⟨w,λ_=>False,[]⟩) (n:=fn.ntmps) (os:=[]) (s:=⟨vU 0 args,[]⟩) az aw aQ c hA (λe a w' js=> ?_) ?_ h)
  ·obtain⟨os,s,ao,ap⟩:=js;cases e with
   |normal=>
    obtain⟨v,ab,hi⟩:=Xy aw ao ap;exact⟨ao.defers,v,ab,v,rfl,hi,XB ao.hB⟩
   |ret=>
    obtain⟨v,ab,hi⟩:=Xy aw ao ap;exact⟨ao.defers,v,ab,v,rfl,hi,XB ao.hB⟩
   |_=>grind
  ·refine⟨by grind,rfl,⟨rfl,rfl,rfl,bS _,λ_ _ _=>rfl⟩,λb ac az=>az.elim (λh=>by grind) (λh=>h),rfl,λt=> ?_,λi x o hi=>by grind,λi j x o y aT b hi=>by simp⟩;rw[PV,b3 (bZ _),N2];cases aa:args[t]? with
   |none=>exact .bQ .aY
   |some d=>
    have aB:=(eI.1 aa).1;have ab:=eN (l:=fL) (i:=t) (by omega);have hi:=XA wi ab aa;have: (fL.toArray++Array.replicate (fn.ntmps-fL.toArray.size) undef).getD t undef=fL[t]'(by omega):=by
     rw[ps,Fe (by grind)]
     grind
    simp only[qJ];rw[this];refine .bQ (hi.cA (dy.ic (λb ac=> ?_)));rcases ac with ac| ⟨i,x,o,hi,_⟩;all_goals grind
end
open Go
section
variable {P:Program} {ah:dJ} {W:World} {H:Type} {enc:TypeId×Value->H}
def PW(g:TypeId->List ak->Prop):List (TypeId×Nat)->List ak->Prop
 | [],ds=>ds=[]
 |f::r,ds=>∃a b,ds=a++b/\g f.1 a/\PW g r b
def wA(ah:dJ):Nat->TypeId->List ak->Prop
 |0,_,_=>False
 |n+1,t,ds=>match (aE ah t).k with
  | .int k=>∃i,ds=[.v (.int k i)]/\(Lit.int k i).wf=true
  | .bool=>∃b,ds=[.v (.bool b)]
  | .str=>∃s:ByteArray,ds=[.v (.string s)]/\s.size<=maxLen
  | .fb e=>∃es,ds=[.av (aE ah e).size es false]/\es.length<=maxLen/\∀r∈es,wA ah n e r
  | .b4 fs=>PW (wA ah n) fs ds
  |_=>False
def Bb(ah:dJ)(g:TypeId->Bool):List (TypeId×Nat)->Nat->Nat->Bool
 | [],off,total=>Nat.beq off total
 |f::r,off,total=>Nat.beq f.2 off&&g f.1&&Nat.blt 0 (aE ah f.1).size&&Bb ah g r (off+(aE ah f.1).size) total
def sB(ah:dJ):Nat->TypeId->Bool
 |0,_=>false
 |n+1,t=>match (aE ah t).k with
  | .int _| .bool| .str=>Nat.beq (aE ah t).size 1
  | .fb e=>Nat.beq (aE ah t).size 1&&Nat.blt 0 (aE ah e).size&&sB ah n e
  | .b4 fs=>Nat.blt 0 (aE ah t).size&&Bb ah (sB ah n) fs 0 (aE ah t).size
  |_=>false
abbrev Bc:Nat->Prop:=λ_=>False
theorem PX(aw:dw P ah=true){t:TypeId}(ae: (aE ah t).size≠0):P.cellsOf t=(aE ah t).size:=by
 obtain⟨i,hi,h1,_⟩:=rF aw ae;simp[Program.cellsOf,hi,h1]
structure wB(W:World)(cs:List Value)(ds:List ak):Prop where
 len:cs.length=ds.length
 eE:∀v∈cs,v.oneCell'=true
 bQ:∀ (i:Nat) v d,cs[i]?=some v->ds[i]?=some d->b7 Bc W v d
theorem wB.GN{v:Value}{d:ak}(h1:v.oneCell'=true)(h:b7 Bc W v d):wB W [v] [d]:=
 ⟨rfl,λu hu=>by grind,λi u e hu he=>by
  grind⟩
theorem wB.append{cs dI:List Value}{ds iw:List ak}(h:wB W cs ds)(bp:wB W dI iw):wB W (cs++dI) (ds++iw):=
 ⟨by simp[h.len,bp.len],λv ab=>by rcases eb.1 ab with ab|ab;exact h.eE v ab;exact bp.eE v ab,λi v d ab aa=>by
  by_cases hi:i<cs.length
  ·rw[sd hi]at ab;rw[sd (by rw[<-h.len];exact hi)]at aa;exact h.bQ i v d ab aa
  ·rw[w1 (by omega)]at ab;rw[w1 (by rw[<-h.len];omega),<-h.len]at aa;exact bp.bQ _ v d ab aa⟩
theorem ag9{a:Addr}{v:Value}(h:W.cell? a=some v):a.block<W.heap.size:=by
 unfold World.cell? at h
 grind
theorem aha{base:Nat}{a:Addr}{n:Nat}{cs:List Value}(h:W.cells? base a n=some cs):cs.length=n/\∀ (j:Nat) v,cs[j]?=some v->W.cell? (a.add j)=some v:=by
 unfold World.cells? at h;split at h
 ·have af:=mapM_some_length h;rw[List.length_range]at af;refine⟨af,λj v ab=> ?_⟩;have aq:=(eI.1 ab).1;have:=mapM_some_get h j j (by grind)
  grind
 grind
theorem XC{g:TypeId->List ak->Prop}{gs:TypeId->Bool}{cs:List Value}{total:Nat}(hlen:cs.length=total):
  ∀ (fs:List (TypeId×Nat)) (off:Nat),(∀f∈fs,gs f.1=true->∃ds,g f.1 ds/\ds.length=(aE ah f.1).size/\wB W ((cs.drop f.2).take (aE ah f.1).size) ds)->Bb ah gs fs off total=true->off<=total->
   ∃ds,PW g fs ds/\ds.length=total-off/\wB W (cs.drop off) ds
 | [],off,_,h,ahb=>by
  have:=fB h;subst this;refine⟨[],rfl,(Ai _).symm,?_⟩;rw[I0 (by omega)];exact⟨rfl,by simp,by simp⟩
 |f::r,off,au,h,ahb=>by
  simp only[Bb,cq]at h;obtain⟨⟨⟨h1,ad⟩,aN⟩,bs⟩:=h;have h1:=fB h1;obtain⟨ds,aa,nb,al⟩:=au f (by simp) ad;have hle:off+(aE ah f.1).size<=total:=by
   have:=al.len
   grind
  obtain⟨iw,yN,aur,pC⟩:=XC hlen r (off+(aE ah f.1).size) (λlJ VB=>au lJ (by grind)) bs hle;refine⟨ds++iw,⟨ds,iw,rfl,aa,yN⟩,by grind,?_⟩;have:cs.drop off=(cs.drop off).take (aE ah f.1).size++cs.drop (off+(aE ah f.1).size):=by
   rw[<-vJ,Fu]
  rw[this];rw[h1]at al;exact al.append pC
theorem PY(aw:dw P ah=true){GO:Nat->Bool}{base:Nat}{held:Bool}:∀ (n:Nat) (t:TypeId) (m:Nat) (cs:List Value) (x:DataW H×List MemPlace),DataW.trod enc P W base GO held m t cs=some x->sB ah n t=true->
  ∃ds,wA ah n t ds/\ds.length=(aE ah t).size/\wB W cs ds
 |0,t,m,cs,x,_,ae=>by simp[sB]at ae
 |n+1,t,m,cs,x,h,ae=>by
  unfold sB at ae;unfold wA;split at ae
  ·rename_i k hk;have bt:=fB ae;have hu:=AD aw hk;cases m with
   |zero=>simp[DataW.trod]at h
   |succ m=>
    have key:∃i,cs=[.int k i]/\(Lit.int k i).wf=true:=by
     unfold DataW.trod at h
     grind
    obtain⟨i,rfl,hw⟩:=key;exact⟨_,⟨i,rfl,hw⟩,by grind,.GN rfl (.v rfl)⟩
  ·rename_i hk;have bt:=fB ae;have hu:=JJ aw hk;cases m with
   |zero=>simp[DataW.trod]at h
   |succ m=>
    have key:∃b,cs=[.bool b]:=by
     unfold DataW.trod at h
     grind
    obtain⟨b,rfl⟩:=key;exact⟨_,⟨b,rfl⟩,by grind,.GN rfl (.v rfl)⟩
  ·rename_i hk;have bt:=fB ae;have hu:=vX aw hk;cases m with
   |zero=>simp[DataW.trod]at h
   |succ m=>
    have key:∃s:ByteArray,cs=[.string s]/\s.size<=maxLen:=by
     unfold DataW.trod at h
     grind
    obtain⟨s,rfl,hw⟩:=key;exact⟨_,⟨s,rfl,hw⟩,by grind,.GN rfl (.v rfl)⟩
  ·rename_i e hk;simp only[cq]at ae;obtain⟨⟨bt,he⟩,xr⟩:=ae;have bt:=fB bt;have he:0<(aE ah e).size:=nw he;have hu:=lL aw hk;have ahc:=PX aw (t:=e) (by omega);rcases Go.Deep.open_slice hu h with⟨rfl,_⟩| ⟨a,len,cap,ahd,JH,D,aus,rfl,ac,af,az,XD,_,rK⟩
   ·exact⟨_,⟨[],rfl,by simp,by simp⟩,by grind,.GN rfl .nil⟩
   ·have qm:len<=ahd:=by grind
    rw[ahc]at rK;obtain⟨es,ahe,tA⟩:=JR (Q:=λi r=>∃dI,W.cells? base (a.add (i* (aE ah e).size)) (aE ah e).size=some dI/\wA ah n e r/\r.length=(aE ah e).size/\wB W dI r) len (λi hi=>by
     obtain⟨dI,h1,ad⟩:=rK i (by omega);obtain⟨ds,aN,bs,cm⟩:=PY aw n e JH dI _ ad xr
     grind)
    have dD:∀ (i j:Nat) r d,es[i]?=some r->r[j]?=some d->∃v,W.cell? (a.add (i* (aE ah e).size+j))=some v/\v.oneCell'=true/\b7 Bc W v d:=by
     intro i j r d hi aq;obtain⟨dI,h1,aN,bs,cm⟩:=tA i r hi;have iv:=(eI.1 aq).1;have ab:=eN (l:=dI) (i:=j) (by rw[cm.len];omega);refine⟨dI[j]'(by grind),?_,cm.eE _ (eD _),cm.bQ j _ d ab aq⟩;rw[<-Addr.JG];exact(aha h1).2 j _ ab
    refine⟨_,⟨es,rfl,by omega,λr ao=> ?_⟩,by grind,.GN rfl (.av (λi j=>match W.cell? (a.add (i* (aE ah e).size+j))with
     |some v=>if v.oneCell' then v else .nilFunc
     |none=>.nilFunc) ahe af az (by simp) (λr ao=> ?_) (λ_ h=>h) (λbx=> ?_) (λi j=> ?_) (λi j r d hi aq=> ?_) (λi j r d hi aq=> ?_))⟩
    ·obtain⟨i,hi,rfl⟩:=fv ao;obtain⟨_,_,aN,_⟩:=tA i _ (eN hi);exact aN
    ·obtain⟨i,hi,rfl⟩:=fv ao;obtain⟨_,_,_,aN,_⟩:=tA i _ (eN hi);exact aN
    ·cases aut:es with
     |nil=>grind
     |cons r auu=>
      have aQ:es[0]?=some r:=by grind
      obtain⟨_,_,_,aN,_⟩:=tA 0 r aQ;obtain⟨v,ab,_⟩:=dD 0 0 r _ aQ (eN (by omega));have:=ag9 ab;rwa[Addr.yE]at this
    ·split
     ·split
      ·omega
      ·rfl
     ·rfl
    all_goals grind
  ·rename_i fs hk;simp only[cq]at ae;have bt:0<(aE ah t).size:=nw ae.1;obtain⟨F,hu,eZ,_⟩:=FY aw hk;obtain⟨xs,eg,rfl,rfl,hlen,qg,rM⟩:=DataW.trod_struct hu h;rw[PX aw (by omega)]at hlen;have key:∀ (F:List Field) (fs:List (TypeId×Nat)),o1 F fs=true->∀f∈fs,∃ (i:Nat) (lJ:Field),F[i]?=some lJ/\lJ.type=f.1/\lJ.offset=f.2:=by
    intro F;induction F with
    |nil=>
     intro fs eZ f au;cases fs with
     |nil=>grind
     |cons _ _=>simp[o1]at eZ
    |cons f0 F a1=>
     intro fs eZ f au;cases fs with
     |nil=>grind
     |cons g r=>
      simp only[o1,cq]at eZ;rcases pt.1 au with rfl|au
      ·exact⟨0,f0,rfl,fB eZ.1.1.1,fB eZ.1.1.2⟩
      ·obtain⟨i,lJ,h1,ad⟩:=a1 r eZ.2 f au;exact⟨i+1,lJ,by grind,ad⟩
   obtain⟨ds,h1,ad,aN⟩:=XC (W:=W) (g:=wA ah n) (gs:=λt=>sB ah n t&&Nat.blt 0 (aE ah t).size) hlen fs 0 (λf au ax=>by
    simp only[cq]at ax;have XE:0<(aE ah f.1).size:=nw ax.2;obtain⟨i,lJ,aA,aG,bc⟩:=key _ _ eZ f au;have:=rM i lJ (by grind);rw[aG,bc,PX aw (by omega)]at this;have ek:i<xs.length:=by grind
    rw[eN ek]at this;exact PY aw n f.1 eg _ _ this ax.1) (by
     have gen:∀ (fs:List (TypeId×Nat)) (off:Nat),Bb ah (sB ah n) fs off (aE ah t).size=true->Bb ah (λt=>sB ah n t&&Nat.blt 0 (aE ah t).size) fs off (aE ah t).size=true:=by
      intro fs;induction fs with
      |nil=>exact λ_ h=>h
      |cons f r a1=>
       intro off h;simp only[Bb,cq]at h⊢
       grind
     grind) (bZ _)
   grind
  grind
def GP(ah:dJ)(t:TypeId)(ds:List ak):ak:=
 match (aE ah t).agg with
 |true=>.agg ds
 |false=>ds.headD .aY
def KR(ah:dJ)(n:Nat):List TypeId->List ak->Prop
 | [],ds=>ds=[]
 |t::r,ds=>∃a b,ds=GP ah t a::b/\wA ah n t a/\KR ah n r b
theorem ahf(aw:dw P ah=true){GO:Nat->Bool}{base c0:Nat}{held:Bool}{n:Nat}{t:TypeId}{v:Value}{d:DataW H}{aZ:List MemPlace}(ab:Value.okWide P W .any c0 t v)(h:DataW.Trod enc P W base GO held t v d aZ)(ae:sB ah n t=true):
  ∃ds,wA ah n t ds/\b7 Bc W v (GP ah t ds):=by
 obtain⟨m,h⟩:=h;obtain⟨ds,h1,ad,aN⟩:=PY aw n t m _ _ h ae;refine⟨ds,h1,?_⟩;have eE:v.cells= #[v]->v.oneCell'=true->(aE ah t).agg=false->(aE ah t).size=1->b7 Bc W v (GP ah t ds):=by
  intro al aH bb bt;rw[al]at aN;rw[bt]at ad;obtain⟨d,rfl⟩:=I3.1 ad;unfold GP;rw[bb];exact aN.bQ 0 v d rfl rfl
 cases n with
 |zero=>simp[sB]at ae
 |succ n=>
  have KS:∀ {D:TypeDesc},P.underlying t=some D->((aE ah t).size≠0\/(aE ah t).k≠ .gr)->(aE ah t).agg=Dk D:=by
   intro D rN bw;obtain⟨PZ,auv,_,bb⟩:=(qc aw bw).kind
   grind
  unfold sB at ae;split at ae
  ·rename_i k hk;have hu:=AD aw hk;simp only[Value.okWide,hu,Cell.okWide]at ab;cases v<;>first|exact eE rfl rfl (KS hu (.inr (by rw[hk];simp))) (fB ae)| (simp[Cell.ok,hu]at ab)
  ·rename_i hk;have hu:=JJ aw hk;simp only[Value.okWide,hu,Cell.okWide]at ab;cases v<;>first|exact eE rfl rfl (KS hu (.inr (by rw[hk];simp))) (fB ae)| (simp[Cell.ok,hu]at ab)
  ·rename_i hk;have hu:=vX aw hk;simp only[Value.okWide,hu,Cell.okWide]at ab;cases v<;>first|exact eE rfl rfl (KS hu (.inr (by rw[hk];simp))) (fB ae)| (simp[Cell.ok,hu]at ab)
  ·rename_i e hk;have hu:=lL aw hk;simp only[cq]at ae;obtain⟨_,_,_,rfl⟩:=Go.WideShapes.okWide_slice hu ab;exact eE rfl rfl (KS hu (.inr (by grind))) (fB ae.1.1)
  ·rename_i fs hk;obtain⟨F,hu,_,bb⟩:=FY aw hk;simp only[Value.okWide,hu]at ab;obtain⟨cs,rfl,_⟩:=ab;unfold GP;rw[bb];obtain⟨l,rfl⟩:∃l:List Value,cs=l.toArray:=⟨cs.toList,by simp⟩
   exact .agg (by simpa[Value.cells]using aN.len) (λv ab=>aN.eE v (by simpa[Value.cells]using ab)) (λi v d ab aa=>aN.bQ i v d (by simpa[Value.cells]using ab) aa)
  grind
theorem XF(aw:dw P ah=true){GO:Nat->Bool}{base c0:Nat}{held:Bool}{n:Nat}:∀ {o2:List TypeId} {vs:List Value} {ds:List (DataW H)} {aZ:List MemPlace},(∀ (j:Nat) t v,o2[j]?=some t->vs[j]?=some v->Value.okWide P W .any c0 t v)->
  DataW.TrodAll enc P W base GO held o2 vs ds aZ->o2.all (sB ah n)=true->∃wC,KR ah n o2 wC/\sl Bc W vs wC/\ds.length=o2.length
 | [],[],[],aZ,_,_,_=>⟨[],rfl,aj,rfl⟩
 |t::o2,v::vs,d::ds,aZ,ab,h,ae=>by
  obtain⟨p,q,h1,ad,_⟩:=h;simp only[Fk,cq]at ae;obtain⟨a,cV,dj⟩:=ahf aw (ab 0 t v rfl rfl) h1 ae.1;obtain⟨b,hT,hN,nk⟩:=XF aw (λj t v h1 ad=>ab (j+1) t v (by grind) (by grind)) ad ae.2;exact⟨_,⟨a,b,rfl,cV,hT⟩,⟨dj,hN⟩,by grind⟩
 | [],[],_::_,aZ,_,h,_=>h.elim
 | [],_::_,_,aZ,_,h,_=>h.elim
 |_::_,[],_,aZ,_,h,_=>h.elim
 |_::_,_::_,[],aZ,_,h,_=>h.elim
theorem XG(af:laidOutB P=true){DQ:World}(ac:Go.RowKit.Below W.heap.size W DQ):∀ {o2:List TypeId} {vs:List Value} {ds:List (DataW H)} {aZ:List MemPlace},o2.all (λt=>P.readableRec t&&decide (t<P.types.size))=true->(∀x∈aZ,x.block<W.heap.size)->
  DataW.TrodAll enc P W 0 (λ_=>true) true o2 vs ds aZ->DataW.TrodAll enc P DQ 0 (λb=>decide (b<W.heap.size)) true o2 vs ds aZ
 | [],[],[],aZ,_,_,h=>h
 |t::o2,v::vs,d::ds,aZ,ao,aB,h=>by
  obtain⟨p,q,h1,ad,rfl⟩:=h;simp only[Fk,cq,fx]at ao;exact⟨p,q,Go.RowKit.Below.trod af ao.1.1 ao.1.2 h1 ac (λx ag=>aB x (by grind)),XG af ac ao.2 (λx ag=>aB x (by grind)) ad,rfl⟩
 | [],[],_::_,aZ,_,_,h=>h.elim
 | [],_::_,_,aZ,_,_,h=>h.elim
 |_::_,[],_,aZ,_,_,h=>h.elim
 |_::_,_::_,[],aZ,_,_,h=>h.elim
theorem ahg(aw:dw P ah=true){f:FuncId}{fn:Func}{s:ChangeSpec}{base n:Nat}{t:TypeId}{args:Array Value}{ds gs:List (DataW H)}{before:List MemPlace}
  (u1:∀ (j:Nat) t v,fn.params[j]?=some t->args[j]?=some v->Value.okWide P W .any base t v) (dA:DataW.Whole enc P fn.params.toList s.vars false W args.toList ds gs before)
  (XH:s.vars=[]) (ahh:∀ds:List (DataW H),ds.length=fn.params.size->s.fn H ds= {results:=[.lit (.bool true)],args:=ds,vars:=[]}) (tD:fn.resultTypes= #[t]) (ahi:P.underlying t=some .bool)
  (ae:fn.params.toList.all (sB ah n)=true) (af:laidOutB P=true) (ao:fn.params.toList.all (λt=>P.readableRec t&&decide (t<P.types.size))=true)
  (jr:∀wC,KR ah n fn.params.toList wC->bq P f wC (.v (.bool true))):
  Calls P f args W λe DQ=>∃v,e= .returned v/\s.post enc P fn false true false false W args v DQ:=by
 obtain⟨p,q,ai,rO,rfl,XE,ih⟩:=dA;rw[XH]at rO;obtain⟨wC,h1,ad,aN⟩:=XF aw (λj t v h1 ad=>u1 j t v (by grind) (by grind)) ai ae;have wo:=(jr wC h1).2 Bc W args.toList (λ_ h=>h.elim) ad;refine wo.mono λe DQ ⟨v,he,hi,ax⟩=>⟨v,he,?_⟩;have ab:=hi.j7;subst ab;obtain⟨rfl,rfl⟩:gs=[]/\q=[]:=by
  cases gs with
  |nil=>exact⟨rfl,rO⟩
  |cons _ _=>exact rO.elim
 have ac:Go.RowKit.Below W.heap.size W DQ:=⟨ax.os,ax.tape,ax.output,ax.size,λk hk=>ax.block k hk (by simp)⟩
 have aB:∀x∈p,x.block<W.heap.size:=ai.lt;have au:=ahh ds (by omega);refine⟨ds,[],p++ [],[],p,[],⟨p,[],ai,by grind,rfl,XE,ih⟩,?_,?_,?_,ac.frame _,λh=>by cases h⟩
 ·rw[jQ,au,tD];refine⟨[],[],⟨1,?_⟩,rfl,rfl⟩;simp[Value.cells,DataW.trod,ahi]
 ·rw[jQ,au];exact XG af ac ao aB ai
 ·rw[jQ,au,XH];rfl
end
open Go
variable{i:Nat}
theorem du{α:Type}{l:List α}{f:α->List ak}(h:i<l.length): (l.map f)[i]?=some (f (l[i]'h)):=by simp[h]
theorem a8{k:IntKind}{a b:Int}(h:a=b):hQ (.v (.int k a)) (.v (.int k b)):=by subst h;exact .refl
variable{ay:Nat}
theorem jI{f:Bool}{es fK:List (List ak)}(h:es=fK):hQ (.av ay es f) (.av ay fK f):=by subst h;exact .refl
theorem xK:∀ {l cK:List ak},m4 l cK->l.length=cK.length/\∀ (i:Nat) c d,l[i]?=some c->cK[i]?=some d->hQ c d
 | [],[],_=>⟨rfl,λi c d h _=>by grind⟩
 | [],_::_,h=>h.elim
 |_::_,[],h=>h.elim
 |x::l,y::cK,h=>by
  obtain⟨h1,ad⟩:=xK h.2;refine⟨by grind,λi c d al aa=> ?_⟩;cases i with
  |zero=>
   simp only[CE,vN]at al aa;subst al;subst aa;exact h.1
  |succ i=>grind
variable{cs ds:List ak}
theorem iQ(h:m4 cs ds):hQ (.agg cs) (.agg ds):=.agg (xK h).1 (xK h).2
theorem e1(h:m4 cs ds):hQ (.be cs) (.be ds):=.be (xK h).1 (xK h).2
theorem gQ{a b:Bool}(h:a=b):hQ (.v (.bool a)) (.v (.bool b)):=by subst h;exact .refl
theorem XI{α:Type}{f:α->List ak}{Q:α->Prop}:∀ {es:List (List ak)},(∀r∈es,∃x,r=f x/\Q x)->∃l:List α,es=l.map f/\∀x∈l,Q x
 | [],_=>⟨[],rfl,by simp⟩
 |r::es,h=>by
  obtain⟨x,rfl,ag⟩:=h r (by simp);obtain⟨l,rfl,af⟩:=XI (es:=es) (λr ao=>h r (by grind));exact⟨x::l,rfl,by grind⟩
theorem dQ{n:Int}(h1: -9223372036854775808<=n)(ad:n<=9223372036854775807):IntKind.i64.wrap n=n:=by
 simp[IntKind.wrap,IntKind.signed,IntKind.bits];omega
theorem ca(h:i<9223372036854775807):IntKind.i64.wrap ((i:Int)+1)=((i+1:Nat):Int):=by
 rw[dQ (by omega) (by omega)];rfl
variable{b:Bool}
theorem ht{x y:Prop}(h:b=true)(ag:x):Aw b x y:=by subst h;exact ag
theorem ft{x y:Prop}(h:b=false)(bk:y):Aw b x y:=by subst h;exact bk
def lv(p:Nat->Bool)(n:Nat):Int:=match (List.range n).find? p with
 |some i=>(i:Nat)
 |none=> -1
variable{p:Nat->Bool}{n:Nat}
theorem wD{i:Nat}(hi:i<n)(an:p i=true)(cF:∀j,j<i->p j=false):lv p n=i:=by
 have: (List.range n).find? p=some i:=by
  simp_all
 simp[lv,this]
theorem tE(cF:∀j,j<n->p j=false):lv p n= -1:=by
 have: (List.range n).find? p=none:=by
  grind
 simp[lv,this]
def ij(p:Nat->Bool)(n:Nat):Bool:=(List.range n).all p
theorem iA:ij p n=true↔∀j,j<n->p j=true:=by simp[ij]
theorem tF{i:Nat}(hi:i<n)(an:p i=false):ij p n=false:=by
 cases h:ij p n with
 |false=>rfl
 |true=>rw[iA]at h;grind
open Go
section
variable {P:Program} {ah:dJ} {aD:Nat->Prop} {ba:e8} {n:Nat} {os:c3} {s:bJ} {a:Act} {w:World} {A:Nat->Prop}
theorem XJ:∀ {vs:List Value} {ds:List ak},xg A os w vs ds->vs.length=ds.length/\∀ (i:Nat) v d,vs[i]?=some v->ds[i]?=some d->bg A os w v d
 | [],[],_=>⟨rfl,by simp⟩
 | [],_::_,h=>h.elim
 |_::_,[],h=>h.elim
 |v::vs,d::ds,h=>by
  obtain⟨h1,ad⟩:=XJ h.2;refine⟨by simp[h1],λi v' ck ab aa=> ?_⟩;cases i with
  |zero=>simp at ab aa;subst ab;subst aa;exact h.1
  |succ i=>exact ad i v' ck (by simpa using ab) (by simpa using aa)
theorem XK{x:Value}{d:ak}(h:bg A os w x d)(an:pv (dn d)=true):b7 A w x d:=by
 have az:=AH an;by_cases aa:∃cs,d= .agg cs
 ·obtain⟨cs,rfl⟩:=aa;obtain⟨vs,rfl,af,br,P0⟩:=h.xl;exact .agg af br (λi v d ab aa=>((P0 i v d ab aa).plain (az d (fq aa))).2)
 ·have:dn d=[d]:=by cases d<;>first|rfl|exact absurd ⟨_,rfl⟩ aa
  exact(h.plain (az d (by rw[this];simp))).2
theorem P1(aw:dw P ah=true)(h:cd aD ba n os s a w):∀ {l9:List ResultVar} {Q:List ak->Prop},Df ah s l9 Q->∃vs ds,Q ds/\vs.length=l9.length/\vs.length=ds.length/\(∀ (i:Nat) v d,vs[i]?=some v->ds[i]?=some d->(mY d=true\/b7 (bh aD os) w v d)/\bg (bh aD os) os w v d)/\
  (List.mapM (m:=Sem) (λr:ResultVar=>match r with
   | .tmp t=>pure (a.tmps.getD t undef)
   | .cell p t=>do loadVar t (<-asAddr (a.tmps.getD p undef))) l9).run P w= .ok vs w
 | [],Q,ap=>⟨[],[],ap,rfl,rfl,λi v d ab _=>by simp at ab,by simp⟩
 | .tmp t::r,Q,ap=>by
  have ap:=ir.1 ap;split at ap
  ·rename_i eF;have hi: (mY (look s.env t)=true\/b7 (bh aD os) w (a.tmps.getD t undef) (look s.env t))/\bg (bh aD os) os w (a.tmps.getD t undef) (look s.env t):=by
    refine⟨?_,h.env t⟩;cases aH:mY (look s.env t)
    ·rw[aH,Cy]at eF;exact .inr (XK (h.env t) eF)
    ·exact .inl rfl
   obtain⟨vs,ds,gP,h1,ad,aN,bs⟩:=P1 aw h ap;refine⟨a.tmps.getD t undef::vs,_::ds,gP,by simp[h1],by simp[ad],λi v ck ab aa=> ?_,?_⟩
   ·cases i with
    |zero=>
     simp only[CE,vN]at ab aa;subst ab aa;exact hi
    |succ i=>exact aN i v ck (by simpa using ab) (by simpa using aa)
   ·rw[Fr];simp only[dX,ex,dT,bs]
  ·exact ap.elim
 | .cell p ty::r,Q,ap=>by
  unfold Df at ap;have an:=h.env p;split at ap
  ·rename_i i off e;rw[e]at an;obtain⟨g,eB,dI,hi,ab⟩:=an.qR;split at ap
   ·rename_i t2 cs af;rw[h.loc]at af;obtain⟨x',di⟩:=kN af (by simp);rw[hi]at di;cases di;split at ap
    ·exact ap.elim
    ·rename_i ae;obtain⟨_,_,_,_,_,_,dD⟩:=xo h.cW hi;obtain⟨_,ap⟩:=rE ap;obtain⟨d,y,ap,nZ,nD⟩:=AE (P:=P) aw ae (cE:=⟨g,off,none⟩) (λj d aa=>by rw[qI]at aa;rw[Addr.pA];exact dD _ d aa) ap;split at ap
     ·rename_i eF;have lp:=XK nD eF;obtain⟨vs,ds,gP,h1,ad,aN,bs⟩:=P1 aw h ap;refine⟨y::vs,d::ds,gP,by simp[h1],by simp[ad],λi v ck ab aa=> ?_,?_⟩
      ·cases i with
       |zero=>
        simp only[CE,vN]at ab aa;subst ab aa;exact⟨.inr lp,.bQ lp⟩
       |succ i=>exact aN i v ck (by simpa using ab) (by simpa using aa)
      ·rw[Fr];have aA: (asAddr (a.tmps.getD p undef)).run P w= .ok ⟨g,off,none⟩ w:=by rw[ab];rfl
       simp only[dX,ex,dT,aA,nZ,bs]
     ·exact ap.elim
   ·exact ap.elim
  ·exact ap.elim
theorem ahj(aw:dw P ah=true){fn:Func}{Q:ak->Prop}(h:cd aD ba n os s a w)(ap:OC ah s fn.results.toList Q):∃v d,Q d/\(results fn a.tmps).run P w= .ok v w/\bg (bh aD os) os w v d:=by
 have nz:∀ {vs:List Value},(List.mapM (m:=Sem) (λr:ResultVar=>match r with
   | .tmp t=>pure (a.tmps.getD t undef)
   | .cell p t=>do loadVar t (<-asAddr (a.tmps.getD p undef))) fn.results.toList).run P w= .ok vs w->(results fn a.tmps).run P w= .ok (if h:vs.toArray.size=1 then vs.toArray[0]else .tuple vs.toArray) w:=by
  intro vs bs;unfold results;rw[NG];simp only[dX,Fx,dT,ex];exact e7 (λr:Result (List Value)=>(r.andThen λa w'=>Result.ok a.toArray w').andThen λa w'=>Result.ok (if h:a.size=1 then a[0]else .tuple a) w') bs
 have many:Df ah s fn.results.toList (λl=>Q (.be l))->fn.results.toList.length≠1->∃v d,Q d/\(results fn a.tmps).run P w= .ok v w/\bg (bh aD os) os w v d:=by
  intro ap bx;obtain⟨vs,ds,gP,h1,ad,aN,bs⟩:=P1 aw h ap;refine⟨_,_,gP,nz bs,?_⟩;have:¬(vs.toArray.size=1):=by simp;omega
  rw[dif_neg this];exact .be ad (λi v d ab aa=>(aN i v d ab aa).1) (λi v d ab aa=>(aN i v d ab aa).2)
 unfold OC at ap;split at ap
 ·rename_i t e;have ap:=ir.1 ap;refine⟨_,_,ap,nz (vs:=[a.tmps.getD t undef]) (by rw[e];simp),?_⟩;simpa using h.env t
 ·rename_i p ty e;have an:=h.env p;split at ap
  ·rename_i i off aG;rw[aG]at an;obtain⟨g,eB,dI,hi,ab⟩:=an.qR;split at ap
   ·rename_i t2 cs af;rw[h.loc]at af;obtain⟨x',di⟩:=kN af (by simp);rw[hi]at di;cases di;split at ap
    ·exact ap.elim
    ·rename_i ae;obtain⟨_,_,_,_,_,_,dD⟩:=xo h.cW hi;obtain⟨_,ap⟩:=rE ap;obtain⟨d,y,ap,nZ,nD⟩:=AE (P:=P) aw ae (cE:=⟨g,off,none⟩) (λj d aa=>by rw[qI]at aa;rw[Addr.pA];exact dD _ d aa) ap;refine⟨y,d,ap,?_,nD⟩;have:=nz (vs:=[y]) (by
      rw[e];have aA: (asAddr (a.tmps.getD p undef)).run P w= .ok ⟨g,off,none⟩ w:=by rw[ab];rfl
      simp only[Fr,List.mapM_nil,dX,ex,dT,aA,nZ])
     simpa using this
   ·exact ap.elim
  ·exact ap.elim
 ·rename_i h1 ad;refine many ap (λaf=> ?_);cases ao:fn.results.toList with
  |nil=>rw[ao]at af;simp at af
  |cons r l9=>
   cases l9 with
   |nil=>cases r with
    |tmp t=>exact h1 t ao
    |cell p t=>exact ad p t ao
   |cons dW l9=>rw[ao]at af;simp at af
theorem XL:∀ (L:List aX) (k:Nat),(vV k L).length=L.length
 | [],k=>rfl
 |o::r,k=>by rw[vV,l7,XL r];rfl
theorem XM:∀ (L:List aX) (b i:Nat) (d:ak),(vV b L)[i]?=some d->∃o,L[i]?=some o/\d=nb (b+i) o
 | [],b,i,d,h=>by simp[vV]at h
 |o::r,b,0,d,h=>by simp[vV]at h;exact⟨o,rfl,by simpa using h.symm⟩
 |o::r,b,i+1,d,h=>by
  rw[vV]at h;obtain⟨aT,h1,ad⟩:=XM r (b+1) i d (by simpa using h);exact⟨aT,by simpa using h1,by rw[ad,Jb,NX 1 i]⟩
theorem XN:∀ (c7:List Bool) (bK:List aX) (b i:Nat) (o:aX),c7[i]?=some true->bK[i]?=some o->(AB b c7 bK)[i]?=some (nb (b+i) o)
 | [],bK,b,i,o,h,_=>by simp at h
 |k::c7,[],b,i,o,_,h=>by simp at h
 |k::c7,dx::bK,b,0,o,h1,ad=>by
  simp at h1 ad;subst h1;subst ad;rfl
 |k::c7,dx::bK,b,i+1,o,h1,ad=>by
  have:=XN c7 bK (b+1) i o (by simpa using h1) (by simpa using ad);cases k<;> ·rw[AB];simpa[Jb,NX 1 i]using this
def jF(p:Value×aX):Value:=
 match p.2 with
 | .row .. =>p.1
 | .cells .. =>p.1
 |_=>.nilFunc
theorem P2:∀ {m:Nat} {l:List aX} {o:aX},FT m l=true->l[m]?=some o->o= .bn
 |m,[],o,_,h=>by simp at h
 |0,x::r,o,aa,h=>by
  simp at h;subst h;cases x<;>simp[FT]at aa
  rfl
 |m+1,x::r,o,aa,h=>P2 (m:=m) (l:=r) (by simpa[FT]using aa) (by simpa using h)
theorem lK.yC{B Du:e8}{x:Value}{o:aX}(h:lK A os B w x o)(ax:∀ds,o≠ .cB ds)(az:∀b,o≠ .bn->bI x=some b->Du.mine b):lK A os Du w x o:=by
 cases o with
 |bn=>exact trivial
 |gone=>exact h
 |cB ds=>exact absurd rfl (ax ds)
 |cells t cs=>
  obtain⟨g,arr,rfl,ct,rest⟩:=h;exact⟨g,arr,rfl,az g (by simp) rfl,rest⟩
 |row e ay es=>exact⟨λb ac=>az b (by simp) ac,h.2⟩
theorem ahk{f:FuncId}{args:List ak}{bK:List aX}{d ck:ak}(h:cj P f [] args [] bK d)(af:uC bK d (λx=>hQ x ck)):bq P f args ck:=by
 refine⟨h.1,λA w fL ai wi=> ?_⟩;have sv:uD A [] [] w:=⟨rfl,λi x o hi=>by simp at hi,λi j x o y aT b hi=>by simp at hi,λb _ ⟨i,x,o,hi,_⟩=>by simp at hi⟩
 have cF:xg (bh A []) [] w fL args:=by
  have gen:∀ (vs:List Value) (ds:List ak),sl A w vs ds->xg (bh A []) [] w vs ds:=by
   intro vs;induction vs with
   |nil=>intro ds h;cases ds<;>first|trivial|exact h.elim
   |cons v vs a1=>
    intro ds h;cases ds with
    |nil=>exact h.elim
    |cons d ds=>exact⟨.bQ (h.1.cA (dy.ic (λb ac=>by
      rcases ac with ac| ⟨i,x,o,hi,_⟩
      ·exact ac
      ·simp at hi))),a1 ds h.2⟩
  exact gen _ _ wi
 refine(h.2 A w [] fL ai sv cF).mono λe w' he=> ?_;obtain⟨v,aP,rfl,yU,uV,ox,hblk,_⟩:=he;have n0:∀b,¬hp [] b:=λb ⟨i,x,o,hi,_⟩=>by simp at hi
 have pE:∀b,hp aP b->w.heap.size<=b:=λb ac=>(hblk b ac).resolve_left (n0 b);have ahl:w.grownBy w' none:=⟨ox.os,ox.tape,ox.output,ox.size,λk hk _=>ox.block k hk (n0 k)⟩
 have kO:cd A ⟨w,λ_=>False,[]⟩ 0 aP ⟨[],bK⟩ {tmps:= #[],defers:=[]} w':=by
  refine⟨rfl,rfl,⟨ox.os,ox.tape,ox.output,ox.size,λk hk _=>ox.block k hk (n0 k)⟩,λb ac az=> ?_,yU.loc.symm,λt=>.bQ .aY,λi x o hi=> ?_,yU.inj⟩
  ·rcases az with az|az
   ·have h1:=ai b ac;have az:w.heap.size<=b:=az;omega
   ·exact az
  ·have fM:=yU.cW i x o hi;cases o with
   |bn=>exact trivial
   |gone=>exact fM
   |cB ds=>exact fM
   |cells t cs=>
    obtain⟨g,arr,rfl,ct,rest⟩:=fM;exact⟨g,arr,rfl,.inl (pE g ⟨i,_,_,hi,by simp,rfl⟩),rest⟩
   |row e ay es=>exact⟨λb ac=>.inl (pE b ⟨i,_,_,hi,by simp,ac⟩),fM.2⟩
 obtain⟨x,ag,lp⟩:=PT (s:=⟨[],bK⟩) kO uV af;exact⟨v,rfl,lp.le ag,ahl⟩
theorem XO(az:P.follows .mixedOrders=true)(aw:dw P ah=true)(aQ: (aE ah 0).size=0){f:FuncId}{fn:Func}{c:Code}{L bK:List aX}{args:List ak}{kept:List Bool}{d:ak}(au:P.funcs[f]?=some fn)(Ba: (fn.name== "runtime.NumGoroutine")=false)(ac:fn.body=some c)
  (hA:pI fn.ntmps c=true) (aV:Nat.ble args.length fn.ntmps=true) (eV:qO L=true) {D:bJ->Prop} (h:rD ah P c (λe s=>match e with
   | .normal| .ret=>D s
   |_=>False) ⟨vU 0 args,L++De L⟩)
  (rN:∀ {aD:Nat->Prop} {ba:e8} {n:Nat} {os:c3} {s:bJ} {a:Act} {w:World},cd aD ba n os s a w->D s->∃aP s',cd aD ba n aP s' a w/\Dg ah fn.results.toList L kept bK d s'):cj P f L args kept bK d:=by
 have aV:=nw aV;refine⟨λvs w=> ?_,λA w os fL ai sv wi=> ?_⟩
 ·simp only[callFunc,dX,run_program,dT,au,Ba,ac,Option.isNone_some];rfl
 ·obtain⟨hlen,wi⟩:=XJ wi;have oC:os.length=L.length:=by rw[<-sv.loc];simp
  have ts:∀ {i:Nat} {x:Value} {o:aX},os[i]?=some (x,o)->L[i]?=some o:=by
   intro i x o hi;rw[<-sv.loc,fe,hi];rfl
  let cB:c3:=match L with
   | []=>[]
   |_=>[(.tuple (os.map jF).toArray,.cB (vV 0 L))]
  have ahm:cB.map (·.2)=De L:=by simp only[cB,De];cases L<;>rfl
  have ahn:∀p∈cB,bI p.1=none:=by
   intro p an;simp only[cB]at an;split at an
   ·simp at an
   ·simp at an;subst an;rfl
  have y5:∀ {i:Nat} {x:Value} {o:aX},(os++cB)[i]?=some (x,o)->os[i]?=some (x,o)\/(os.length<=i/\cB[i-os.length]?=some (x,o)/\bI x=none):=by
   intro i x o hi;by_cases aB:i<os.length
   ·rw[sd aB]at hi;exact .inl hi
   ·rw[w1 (by omega)]at hi;exact .inr ⟨by omega,hi,ahn _ (fq hi)⟩
  have aho:∀b,hp (os++cB) b->hp os b:=by
   rintro b ⟨i,x,o,hi,aa,cx⟩;rcases y5 hi with hi| ⟨_,_,ad⟩
   ·exact⟨i,x,o,hi,aa,cx⟩
   ·rw[ad]at cx;cases cx
  have jn:uI os (os++cB):=λi x o hi=>⟨o,by rw[sd (eI.1 hi).1];exact hi,by cases o<;>simp[en]⟩;have ss:dy (bh A os) (bh A (os++cB)) w w:=dy.ic (by
   rintro b (ac|ac)
   ·exact .inl ac
   ·exact .inr (aho b ac))
  have jE:∀b,hp os b->e8.mine ⟨w,hp os,os.map jF⟩ b:=λb ac=>.inr ac;have kO:cd A ⟨w,hp os,os.map jF⟩ fn.ntmps (os++cB) ⟨vU 0 args,L++De L⟩ {tmps:=fL.toArray++Array.replicate (fn.ntmps-fL.toArray.size) undef,defers:=[]} w:=by
   refine⟨by simp;omega,rfl,⟨rfl,rfl,rfl,bS _,λ_ _ _=>rfl⟩,λb ac ahp=> ?_,by rw[ew,sv.loc,ahm],λt=> ?_,λi x o hi=> ?_,λi j x o y aT b hi aq d1 d2 cX c0=> ?_⟩
   ·rcases ahp with h1|h1
    ·have ad:=ai b ac;have h1:w.heap.size<=b:=h1;omega
    ·exact sv.out b ac h1
   ·rw[PV,b3 (bZ _),N2];cases aa:args[t]? with
    |none=>exact .bQ .aY
    |some d=>
     have aB:=(eI.1 aa).1;have ab:=eN (l:=fL) (i:=t) (by omega);have hi:=wi t _ d ab aa;have: (fL.toArray++Array.replicate (fn.ntmps-fL.toArray.size) undef).getD t undef=fL[t]'(by omega):=by
      rw[ps,Fe (by simp;omega)];simp[ab]
     simp only[qJ];rw[this];exact hi.cA ss jn
   ·rcases y5 hi with hi| ⟨fU,hb,auw⟩
    ·have fM:=(sv.cW i x o hi).yC (Du:=⟨w,hp os,os.map jF⟩) (Gl eV (ts hi)) (λb aa cx=>jE b ⟨i,x,o,hi,aa,cx⟩);exact fM.cA ss jn (λ_ _ _=>rfl)
    ·simp only[cB]at hb;split at hb
     ·simp at hb
     ·rename_i GQ;have KQ:i-os.length=0:=by
       have:=(eI.1 hb).1;simpa using this
      rw[KQ]at hb;simp at hb;obtain⟨rfl,rfl⟩:=hb;have ahq:∀ (q:Nat) v e,(os.map jF)[q]?=some v->(vV 0 L)[q]?=some e->∃x o,os[q]?=some (x,o)/\v=jF (x,o)/\e=nb q o:=by
       intro q v e ab he;obtain⟨o,h1,ad⟩:=XM L 0 q e he;rw[fe]at ab;cases bX:os[q]? with
       |none=>rw[bX]at ab;cases ab
       |some p=>
        obtain⟨x,fT⟩:=p;have:=ts bX;rw[h1]at this;cases this;rw[bX]at ab;cases ab;exact⟨x,o,rfl,rfl,by rw[ad,ux]⟩
      have eE:∀ (q:Nat) x o,os[q]?=some (x,o)->(jF (x,o)).oneCell'=true/\bg (bh A (os++cB)) (os++cB) w (jF (x,o)) (nb q o):=by
       intro q x o bX;have y6: (os++cB)[q]?=some (x,o):=by rw[sd (eI.1 bX).1];exact bX
       have fM:=sv.cW q x o bX;cases o with
       |row e ay es=>
        obtain⟨xs,b0,_⟩:=wa fM;exact⟨wb b0,.own y6 (wb b0)⟩
       |cells t cs=>
        obtain⟨g,arr,rfl,_⟩:=fM;exact⟨rfl,.aW y6⟩
       |bn=>exact⟨rfl,.bQ .aY⟩
       |gone=>exact⟨rfl,.bQ .aY⟩
       |cB ds=>exact⟨rfl,.bQ .aY⟩
      refine⟨rfl,by rw[XL,bL,oC],λv ab=> ?_,λq v e ab he=> ?_⟩
      ·obtain⟨p,an,rfl⟩:=fr.1 ab;obtain⟨q,bX,rfl⟩:=fv an;exact(eE q _ _ (eN bX)).1
      ·obtain⟨x,o,h1,ad,aN⟩:=ahq q v e ab he;subst ad;subst aN;exact(eE q x o h1).2
   ·rcases y5 hi with hi| ⟨_,_,nB⟩
    ·rcases y5 aq with aq| ⟨_,_,gG⟩
     ·exact sv.inj i j x o y aT b hi aq d1 d2 cX c0
     ·rw[gG]at c0;cases c0
    ·rw[nB]at cX;cases cX
  have done:∀ (a2:Act) (hs:World) (DR:c3) (GR:bJ),cd A ⟨w,hp os,os.map jF⟩ fn.ntmps DR GR a2 hs->Dg ah fn.results.toList L kept bK d GR->
    ∃v,(results fn a2.tmps).run P hs= .ok v hs/\∃aP,uD A aP bK hs/\bg (bh A aP) aP hs v d/\pw (hp os) w hs/\(∀b,hp aP b->hp os b\/w.heap.size<=b)/\∀ (i:Nat) x o,kept[i]?=some true->os[i]?=some (x,o)->∃aT,aP[i]?=some (x,aT):=by
   intro a2 hs DR GR ao ap;obtain⟨v,x,⟨ahr,hle,q0⟩,eo,uV⟩:=ahj aw ao ap;simp only[cq]at q0;obtain⟨⟨⟨⟨⟨o5,ahs⟩,fP⟩,tt⟩,aht⟩,y7⟩:=q0;obtain⟨xn,Gp,_⟩:=xA (k:=0) o5;refine⟨v,eo,?_⟩;have lw:=uV.ic ahr;obtain⟨k5,iz,auy,XP,GS⟩:=(show cd A ⟨w,hp os,os.map jF⟩ fn.ntmps DR ⟨[],GR.loc⟩ a2 hs from ⟨ao.size,ao.defers,ao.hB,ao.a0,ao.loc,λ_=>.bQ .aY,ao.cW,ao.inj⟩).Pr (t:=⟨[],nc L kept bK⟩) ⟨aj,hle,by simpa[C4]using y7⟩;have u2:∀ {i:Nat} {o:aX},(nc L kept bK)[i]?=some o->¬(L≠ []/\i=L.length)->bK[i]?=some o:=by
    intro i o hi bx;unfold nc at hi;split at hi
    ·exact hi
    ·rename_i GQ;have auz:=Gp;by_cases aB:i<L.length
     ·rw[sd (by simp;omega),rs,b3 aB]at hi;exact hi
     ·have uZ:L.length<i:=by
       rcases mX L.length i with h1|h1
       ·exact h1
       ·exact absurd ⟨λe=>GQ e,by omega⟩ bx
      rw[w1 (by simp;omega)]at hi;have aA: (bK.take L.length).length=L.length:=by simp;omega
      rw[aA]at hi;obtain⟨q,rfl⟩:∃q,i=L.length+(q+1):=⟨i-L.length-1,by omega⟩
      rw[show L.length+(q+1)-L.length=q+1 by omega]at hi;simp only[CD,qI]at hi;rw[<-hi];congr 1;omega
   have P3:Dd (nc L kept bK) bK:=by
    have gen:∀ (X:List aX) (Y:List aX),Y.length<=X.length->(∀ (i:Nat) o aT,X[i]?=some o->Y[i]?=some aT->hz o aT)->Dd X Y:=by
     intro X;induction X with
     |nil=>intro Y af _;cases Y<;>first|trivial|simp at af
     |cons x X a1=>
      intro Y af an;cases Y with
      |nil=>trivial
      |cons y Y=>exact⟨an 0 x y rfl rfl,a1 Y (by simpa using af) (λi o aT h1 ad=>an (i+1) o aT (by simpa using h1) (by simpa using ad))⟩
    refine gen _ _ ?_ (λi o aT h1 ad=> ?_)
    ·unfold nc;split
     ·exact bS _
     ·simp;omega
    ·by_cases bx:L≠ []/\i=L.length
     ·have:aT= .bn:=by
       obtain⟨bx,rfl⟩:=bx;unfold OB at fP;split at fP
       ·exact absurd rfl bx
       ·exact P2 fP ad
      rw[this];exact .bn
     ·have:=u2 h1 bx;rw[ad]at this;cases this;exact .refl
   obtain⟨u0,DS,ahu,ahv,XQ⟩:=iz.Pr (t:=⟨[],bK⟩) ⟨aj,P3,by simpa[C4]using aht⟩;have P4:u0.map (·.2)=bK:=DS.loc.symm;have XR:∀b,hp u0 b->e8.mine ⟨w,hp os,os.map jF⟩ b:=λb ⟨i,y,o,hi,aa,cx⟩=>((DS.cW i y o hi).iY aa cx).1;have XS:∀ (v:Value) (d:ak),bg (bh A DR) DR hs v d->kK bK d=true->bg (bh A u0) u0 hs v d:=by
     intro v d lw tt;have gG:kK (nc L kept bK) d=true:=by
      have up:∀ {j:Nat},(jR (bN bK j)=true->jR (bN (nc L kept bK) j)=true)/\(ry (bN bK j)=true->ry (bN (nc L kept bK) j)=true):=by
       intro j;have key:bN bK j≠ .bn->bN (nc L kept bK) j=bN bK j:=by
        intro ih;have aq:j<bK.length:=by
         rcases mX j bK.length with h1|h1
         ·exact h1
         ·exact absurd (by rw[lm,w2 h1];rfl) ih
        have Dr:j<(nc L kept bK).length:=by
         unfold nc;split
         ·exact aq
         ·simp;omega
        have ax:=eN Dr;have bx:¬(L≠ []/\j=L.length):=by
         rintro⟨bx,rfl⟩;unfold OB at fP;split at fP
         ·exact bx rfl
         ·have:=P2 fP (eN aq);exact ih (by rw[lm,eN aq,this];rfl)
        have:=u2 ax bx;rw[lm,lm,this,ax]
       constructor
       ·intro bX;rw[key (λe=>by rw[e]at bX;simp[jR]at bX)];exact bX
       ·intro bX;rw[key (λe=>by rw[e]at bX;simp[ry]at bX)];exact bX
      have XT:∀e:ak,kp bK e=true->kp (nc L kept bK) e=true:=by
       intro e he;cases e with
       |own j=>exact up.1 he
       |de j k o=>exact up.1 he
       |aW j o=>exact up.2 he
       |dU j o=>exact up.2 he
       |fn g cr=>
        simp only[kp,nv]at he⊢;intro c al;have:=he c al;cases c<;>first|exact up.2 this|rfl
       |_=>exact he
      by_cases yK:∃cs,d= .agg cs
      ·obtain⟨cs,rfl⟩:=yK;simp only[kK,nv]at tt⊢;exact λe he=>XT e (tt e he)
      ·have aA:∀l,kK l d=kp l d:=by intro l;cases d<;>first|rfl|exact absurd ⟨_,rfl⟩ yK
       rw[aA]at tt⊢;exact XT d tt
     exact ahv v d (XP v d lw gG) tt
   refine⟨u0,⟨P4,λi y o hi=> ?_,DS.inj,λb ac kt=>DS.a0 b ac (XR b kt)⟩,?_,DS.hB,λb ac=>(XR b ac).symm,λi y o hk hi=> ?_⟩
   ·refine(DS.cW i y o hi).yC (λds e=> ?_) (λ_ _ _=>.inr trivial);subst e;have:bK[i]?=some (.cB ds):=by rw[<-P4,fe,hi];rfl
    exact Gl ahs this ds rfl
   ·by_cases XU:∃ds,d= .be ds
    ·obtain⟨ds,rfl⟩:=XU;obtain⟨vs,rfl,jl,b0,GJ⟩:=lw.OD;refine .be jl (λi v d ab aa=> ?_) (λi v d ab aa=> ?_)
     ·rcases b0 i v d ab aa with aH|aH
      ·exact .inl aH
      ·exact .inr (aH.cA (dy.ic (λb ac=>GS b (XQ b ac))))
     ·rcases b0 i v d ab aa with aH|aH
      ·have nB:=nv.1 tt d (fq aa);rw[aH]at nB;exact XS v d (GJ i v d ab aa) (by simpa using nB)
      ·exact .bQ (aH.cA (dy.ic (λb ac=>GS b (XQ b ac))))
    ·have tt:kK bK d=true:=by
      cases d<;>first|exact tt|exact absurd ⟨_,rfl⟩ XU
     exact XS v d lw tt
   ·have GQ:L≠ []:=by
     intro e;rw[e]at oC;have:=(eI.1 hi).1;simp at oC;rw[oC]at this;simp at this
    have ek:i<L.length:=by have:=(eI.1 hi).1;omega
    have P5:=eN (l:=bK) (i:=i) (by omega);have XV:=XN kept bK 0 i _ hk P5;rw[ux]at XV;have uW:=(xA (k:=i) o5).2.2 o _ hk (ts hi) P5;have qn: (nc L kept bK)[L.length]?=some (.cB (AB 0 kept bK)):=by
     unfold nc;split
     ·exact absurd rfl GQ
     ·have aA: (bK.take L.length).length=L.length:=by simp;omega
      rw[w1 (by omega),aA,Ai];rfl
    have iP:∃y,k5[L.length]?=some (y,.cB (AB 0 kept bK)):=by
     have P6:nc L kept bK=k5.map (·.2):=iz.loc;rw[P6,fe]at qn;cases bX:k5[L.length]? with
     |none=>rw[bX]at qn;cases qn
     |some p=>
      obtain⟨y,bC⟩:=p;rw[bX]at qn;simp at qn;exact⟨y,by rw[qn]⟩
    obtain⟨kP,iP⟩:=iP;obtain⟨_,_,_,ahw⟩:=iz.cW _ _ _ iP;have P7: (os.map jF)[i]?=some (jF (y,o)):=by rw[fe,hi];rfl
    have KT:=ahw i _ _ P7 XV;have ahx:¬(L≠ []/\i=L.length):=by rintro⟨_,e⟩;omega
    have GU:∃z,k5[i]?=some (z,bK[i]'(by omega)):=by
     have P6:nc L kept bK=k5.map (·.2):=iz.loc;have rM: (nc L kept bK)[i]?=some (bK[i]'(by omega)):=by
      have Dr:i<(nc L kept bK).length:=by
       unfold nc;split
       ·exact absurd rfl GQ
       ·simp;omega
      have ax:=eN Dr;have:=u2 ax ahx;rw[P5]at this;rw[ax,<-this]
     rw[P6,fe]at rM;cases bX:k5[i]? with
     |none=>rw[bX]at rM;cases rM
     |some p=>rw[bX]at rM;simp at rM;exact⟨p.1,by rw[<-rM]⟩
    obtain⟨z,GU⟩:=GU;have bt:z=y:=by
     generalize fM: (bK[i]'(by omega))=bC at *;cases o<;>cases bC<;>simp[Js]at uW
     ·simp only[nb]at KT;obtain⟨g,eB,dI,cm,eK⟩:=KT.qR;rw[GU]at cm;cases cm;exact eK.symm
     ·simp only[nb]at KT;exact(KT.qS GU).symm
    subst bt;have ahy:i<u0.length:=by
     have:u0.length=bK.length:=by rw[<-P4];simp
     omega
    have XW:=eN ahy;obtain⟨P8,bs,_⟩:=ahu i _ _ (show u0[i]?=some (u0[i].1,u0[i].2) from XW);rw[GU]at bs;cases bs;exact⟨_,XW⟩
  refine calls_of_wp au ac (Xx (aD:=A) (ba:=⟨w,hp os,os.map jF⟩) (n:=fn.ntmps) az aw aQ c hA (λe a w' js=> ?_) kO h);obtain⟨DR,GR,ao,ap⟩:=js;cases e with
  |normal=>
   obtain⟨ahz,ahA,iz,ap⟩:=rN ao ap;obtain⟨v,ab,aP,h1,ad,aN,bs,cm⟩:=done _ _ _ _ iz ap;exact⟨ao.defers,v,ab,v,aP,rfl,h1,ad,aN,bs,cm⟩
  |ret=>
   obtain⟨ahz,ahA,iz,ap⟩:=rN ao ap;obtain⟨v,ab,aP,h1,ad,aN,bs,cm⟩:=done _ _ _ _ iz ap;exact⟨ao.defers,v,ab,v,aP,rfl,h1,ad,aN,bs,cm⟩
  |_=>exact ap.elim
theorem ik(az:P.follows .mixedOrders=true)(aw:dw P ah=true)(aQ: (aE ah 0).size=0){f:FuncId}{fn:Func}{c:Code}{L bK:List aX}{args:List ak}{kept:List Bool}{d:ak}(au:P.funcs[f]?=some fn)(Ba: (fn.name== "runtime.NumGoroutine")=false)(ac:fn.body=some c)
  (hA:pI fn.ntmps c=true) (aV:Nat.ble args.length fn.ntmps=true) (eV:qO L=true) (h:Vc ah P c fn.results.toList L args kept bK d):cj P f L args kept bK d:=
 XO az aw aQ au Ba ac hA aV eV (D:=Dg ah fn.results.toList L kept bK d) h λao ap=>⟨_,_,ao,ap⟩
def XX(ah:dJ)(P:Program)(c:Code)(l9:List ResultVar)(L:List aX)(args:List ak)(kept:List Bool)(bK:List aX)(d:ak):Prop:=
 rD ah P c (λe s=>match e with
  | .normal| .ret=>∃qQ,oZ qQ s λs=>Dg ah l9 L kept bK d s
  |_=>False) ⟨vU 0 args,L++De L⟩
theorem tG(az:P.follows .mixedOrders=true)(aw:dw P ah=true)(aQ: (aE ah 0).size=0){f:FuncId}{fn:Func}{c:Code}{L bK:List aX}{args:List ak}{kept:List Bool}{d:ak}(au:P.funcs[f]?=some fn)(Ba: (fn.name== "runtime.NumGoroutine")=false)(ac:fn.body=some c)
  (hA:pI fn.ntmps c=true) (aV:Nat.ble args.length fn.ntmps=true) (eV:qO L=true) (h:XX ah P c fn.results.toList L args kept bK d):cj P f L args kept bK d:=
 XO az aw aQ au Ba ac hA aV eV (D:=λs=>∃qQ,oZ qQ s λs=>Dg ah fn.results.toList L kept bK d s) h λao ap=>by
  obtain⟨qQ,ap⟩:=ap;exact uY qQ ao ap
theorem cj.y8{f:FuncId}{L L1 wE:List aX}{args:List ak}{kept:List Bool}{d:ak}(h:cj P f L args kept (L1++ .bn::wE) d)(hk:kept.length<=L1.length):
  cj P f L args kept ((L1++wE).map (gL (aF L1.length))) (k2 (aF L1.length) d):=by
 refine⟨h.1,λA w os fL ai sv DG=>(h.2 A w os fL ai sv DG).mono λe w' he=> ?_⟩;obtain⟨v,hM,rfl,hL,uV,ox,hblk,ss⟩:=he;have az:∃y,hM[L1.length]?=some (y,.bn):=by
  have h1: (hM.map (·.2))[L1.length]?=some .bn:=by rw[hL.loc];simp
  rw[fe]at h1;cases ax:hM[L1.length]? with
  |none=>rw[ax]at h1;cases h1
  |some p=>rw[ax]at h1;rcases p with⟨y,o⟩;simp at h1;subst h1;exact⟨y,rfl⟩
 generalize tq:L1.length=m at *;obtain⟨auA,az⟩:=az;have ahB:∀ {k:Nat},¬m<k->aF m k=k:=λ{k} hk=>by
  unfold aF;have:Nat.blt m k=false:=by
   cases ac:Nat.blt m k
   ·rfl
   ·exact absurd (nw ac) hk
  rw[this]
 have ahC:∀ {k:Nat},m<k->aF m k=k-1:=λ{k} hk=>by
  unfold aF;have:Nat.blt m k=true:=Nat.ble_eq_true_of_le hk;rw[this]
 let k5:c3:=(hM.eraseIdx m).map λp=>(p.1,gL (aF m) p.2)
 have aG:∀j,k5[j]?=(if j<m then hM[j]? else hM[j+1]?).map λp=>(p.1,gL (aF m) p.2):=λj=>by
  simp only[k5,fe,UR]
 have cL:∀ (k:Nat) x bC,(∀ds,bC≠ .cB ds)->bC≠ .bn->hM[k]?=some (x,bC)->k5[aF m k]?=some (x,gL (aF m) bC):=λk x bC _ aa hk=>by
  rcases Jc k m with aB|he|uZ
  ·rw[ahB (by omega),aG,b3 aB,hk];rfl
  ·rw[he,az]at hk;cases hk;exact absurd rfl aa
  ·rw[ahC uZ,aG,bm (by omega),show k-1+1=k by omega,hk];rfl
 have back:∀ {j:Nat} {x:Value} {aT:aX},k5[j]?=some (x,aT)->∃k o,hM[k]?=some (x,o)/\aT=gL (aF m) o/\((k<m/\k=j)\/(¬j<m/\k=j+1)):=λ{j x aT} aq=>by
  rw[aG]at aq;by_cases aB:j<m
  ·rw[b3 aB]at aq;cases ax:hM[j]? with
   |none=>rw[ax]at aq;cases aq
   |some p=>rw[ax]at aq;cases aq;exact⟨j,p.2,ax,rfl,.inl ⟨aB,rfl⟩⟩
  ·rw[bm aB]at aq;cases ax:hM[j+1]? with
   |none=>rw[ax]at aq;cases aq
   |some p=>rw[ax]at aq;cases aq;exact⟨j+1,p.2,ax,rfl,.inr ⟨aB,rfl⟩⟩
 have fP:∀ {o:aX},gL (aF m) o≠ .bn->o≠ .bn:=λ{o} aa e=>by
  subst e;exact aa rfl
 have kt:∀b,hp k5 b->hp hM b:=by
  rintro b ⟨j,x,aT,aq,aa,ac⟩;obtain⟨k,o,hk,rfl,_⟩:=back aq;exact⟨k,x,o,hk,fP aa,ac⟩
 have fO:∀b,bh A k5 b->bh A hM b:=by
  rintro b (ac|ac)
  ·exact .inl ac
  ·exact .inr (kt b ac)
 have k:dy (bh A hM) (bh A k5) w' w':=dy.ic fO;refine⟨v,k5,rfl,⟨?_,λj x aT aq=> ?_,λi j x o y aT b hi aq d1 d2 cX c0=> ?_,λb ai ac=>hL.out b ai (kt b ac)⟩,(bg.xF cL k uV).2,ox,λb ac=>hblk b (kt b ac),λi x o P9 hi=> ?_⟩
 ·have:k5.map (·.2)=((hM.map (·.2)).eraseIdx m).map (gL (aF m)):=by
   apply rr;intro j;simp only[fe,UR,aG];by_cases aq:j<m
   ·simp only[b3 aq];cases hM[j]?<;>rfl
   ·simp only[bm aq];cases hM[j+1]?<;>rfl
  rw[this,hL.loc,<-tq,List.eraseIdx_append_of_length_le (bS _),Ai];rfl
 ·obtain⟨q,o,bX,rfl,_⟩:=back aq;have fM:=hL.cW q x o bX;cases o with
  |bn=>exact trivial
  |gone=>exact fM
  |cB ds=>exact trivial
  |cells ty cs=>
   obtain⟨g,arr,rfl,ct,bw,ae,br,ao⟩:=fM;refine⟨g,arr,rfl,ct,bw,by simpa using ae,br,λjo v d ab aa=> ?_⟩;rw[fe]at aa;cases al:cs[jo]? with
   |none=>rw[al]at aa;cases aa
   |some e=>
    rw[al]at aa;simp at aa;subst aa;exact(bg.xF cL k (ao jo v e ab al)).1 (br v (fq (by rw[wY];exact ab)))
  |row e ay es=>
   obtain⟨jE,xs,b0,cC,gY,br,ao⟩:=fM;exact⟨jE,xs,b0,cC,gY,br,λeO jo r d h1 ad=>by
    obtain⟨v,ab,hi⟩:=ao eO jo r d h1 ad;exact⟨v,ab,hi.cA k⟩⟩
 ·obtain⟨p,dx,ka,rfl,fJ⟩:=back hi;obtain⟨q,fT,qj,rfl,eP⟩:=back aq;have:=hL.inj _ _ _ _ _ _ b ka qj (fP d1) (fP d2) cX c0;omega
 ·obtain⟨aT,ku⟩:=ss i x o P9 hi;have ek:i<m:=by
   have:=(eI.1 P9).1;omega
  exact⟨gL (aF m) aT,by rw[aG,b3 ek,ku];rfl⟩
end
open Go
def Qa{α:Type}:Result α->World
 | .ok _ w=>w
 | .halt _ w=>w
theorem ahD{α:Type}(a:Ask α):∀w:World,w.drawn<=(w.ask a).2.drawn:=by
 induction a with
 |done a=>intro w;simp[World.ask]
 |ask afr range k a1=>
  intro w;simp only[World.ask]
  grind
theorem XY(w:World)(c:Sys):w.drawn<=(w.sys c).2.drawn:=by
 have:=ahD (Kernel.perform c w.os) w;unfold World.sys
 grind
variable{p:Program}{w w':World}
theorem ahE{a:Addr}{u:TypeId}{k:Addr}{v:Value}{b:Bool}{l:List Addr}(h:w.viewStore p a u k v b= .ok (w',l)):w'.drawn=w.drawn:=by
 unfold World.viewStore at h;simp only[bind,Except.bind,pure,Except.pure,throw,throwThe,MonadExceptOf.throw]at h;repeat' first
  | (cases h;done)
  | (simp only[IY,N4]at h;obtain⟨h,_⟩:=h;subst h;rfl)
  |split at h
theorem Qb{α:Type}(p:Program)(s:Sem α):∀w:World,w.drawn<=(Qa (s.run p w)).drawn:=by
 induction s with
 |pure a=>intro w;exact bS _
 |load m a k a1=>
  intro w;simp only[Sem.run];split
  ·grind
  ·split
   ·grind
   ·exact bS _
 |store m a v k a1=>
  intro w;have au:∀w' l,w.farStore p a v (m== .atomic)= .ok (w',l)->w.drawn<=w'.drawn:=λw' l h=>by
   unfold World.farStore at h;split at h
   ·split at h
    ·rename_i r ao;simp only[IY]at h;subst h;exact Fv (ahE ao).symm
    grind
   grind
  cases v with
  |agg _=>exact bS _
  |tuple _=>exact bS _
  |_=>
   simp only[Sem.run];split
   ·split
    ·exact bS _
    ·refine bT ?_ (a1 _);simp
   ·split
    ·grind
    ·exact bS _
 |new o k a1=>intro w;simp only[Sem.run];grind
 |shape r k a1=>intro w;exact a1 _ _
 |freeze a n k a1=>intro w;refine bT ?_ (a1 _);simp[World.freeze];split<;>simp
 |frozen a k a1=>intro w;exact a1 _ _
 |getObj r k a1=>
  intro w;simp only[Sem.run];split
  ·exact bS _
  ·grind
  ·exact bS _
 |setObj r o k a1=>
  intro w;simp only[Sem.run];split
  ·exact bS _
  ·grind
  ·exact bS _
 |choose q k a1=>
  intro w;simp only[Sem.run]
  grind
 |sys c k a1=>intro w;exact bT (XY w c) (a1 _ _)
 |program k a1=>intro w;exact a1 _ _
 |mark m k a1=>intro w;exact a1 _
 |halt h=>intro w;exact bS _
theorem oD{α:Type}{s:Sem α}{a:α}(h:s.run p w= .ok a w'):w.drawn<=w'.drawn:=by
 have:=Qb p s w;rw[h]at this;exact this
theorem DT{α:Type}{s:Sem α}{a:Halt}(h:s.run p w= .halt a w'):w.drawn<=w'.drawn:=by
 have:=Qb p s w;rw[h]at this;exact this
theorem KU{α:Type}{s:Sem α}{r:Result α}(h:s.run p w=r):w.drawn<=(Qa r).drawn:=by
 subst h;exact Qb p s w
theorem ahF{c:Sys}{r:SysRet}(h:w.sys c=(r,w')):w.drawn<=w'.drawn:=by
 have:=XY w c
 grind
def lU:GStep->World
 | .go _ w _=>w
 | .comm _ _ _ _ w _=>w
 | .spawn _ _ w _=>w
 | .count _ w _=>w
 | .timer _ _ w _=>w
 | .alone _ _ w _=>w
 | .newcoro _ _ _ w _=>w
 | .coroswitch _ _ _ w _=>w
 | .collect _ w _=>w
 | .watch _ w _=>w
 | .ended _ w _=>w
@[simp] theorem GV(es:Array Event)(s:GStep):lU (s.after es)=lU s:=by cases s<;>rfl
theorem XZ(g:Goroutine)(w:World)(es:Array Event):lU (.go g w es)=w:=rfl
theorem X0(o:Outcome)(w:World)(es:Array Event):lU (.ended o w es)=w:=rfl
theorem ahG(w:World)(fd:Nat)(x:ByteArray)(o:Outcome):w.drawn<=(lU (endWith w fd x o)).drawn:=by
 unfold endWith;simp only[];repeat' first
  |exact ahF (by assumption)
  |split
theorem Qc(bj:Frame)(m:String)(w:World):w.drawn<=(lU (endThrow bj m w)).drawn:=bS _
theorem X1(p:Program)(bj:Frame)(v:Value)(w:World):w.drawn<=(lU (endPrinting p bj v w)).drawn:=by
 unfold endPrinting;simp only[];repeat' first
  |exact Qc _ _ _
  |exact bS _
  |split
theorem X2(p:Program)(bj:Frame)(cs:List Frame)(d:Option Dying)(m:String)(w:World):w.drawn<=(lU (endFatal p bj cs d m w)).drawn:=by
 unfold endFatal;simp only[];repeat' first
  |exact oD (by assumption)
  |exact DT (by assumption)
  |split
theorem ahH(p:Program)(bj:Frame)(d:Dying)(f:Fatal)(w:World):w.drawn<=(lU (writeOn p bj d f w)).drawn:=by
 unfold writeOn;simp only[CP];split
 ·exact bS _
 ·generalize ae:Sem.run p _ w=r;have:=KU ae;cases r with
  |ok a w'=>exact this
  |halt h w'=>cases h<;>exact this
theorem ahI(p:Program)(bj:Frame)(d:Dying)(w:World):w.drawn<=(lU (die p bj d w)).drawn:=by
 unfold die;simp only[CP];split
 ·exact ahH _ _ _ _ _
 ·split
  ·split
   ·exact bS _
   ·exact ahG _ _ _ _
  ·split
   ·exact bS _
   ·split
    ·exact oD (by assumption)
    ·exact DT (by assumption)
   ·rw[GV];generalize ae:Sem.run p _ w=r;have:=KU ae;clear ae;split
    ·exact this
    ·exact this
    ·exact this
    ·exact bT this (X1 _ _ _ _)
    ·cases r<;>exact bS _
   ·exact bS _
theorem Qd(p:Program)(main:Bool)(bj:Frame)(cs:List Frame)(d:Option Dying)(v:Value)(w:World):w.drawn<=(lU (doReturn p main bj cs d v w)).drawn:=by
 unfold doReturn;repeat' first
  |exact bS _
  |split
theorem ahJ{c:Prop} [Decidable c]{a b:GStep}{n:Nat}(h1:n<=(lU a).drawn)(ad:n<=(lU b).drawn):n<=(lU (if c then a else b)).drawn:=by
 split<;>assumption
theorem ahK(p:Program)(bj:Frame)(cs:List Frame)(tH:Option Dying)(d:Deferred)(w:World):w.drawn<=(lU (callDeferred p bj cs tH d w)).drawn:=by
 unfold callDeferred;simp only[CP];refine ahJ ?_ ?_
 ·exact bS _
 ·rw[GV];generalize ae:Sem.run p _ w=r;have:=KU ae;clear ae;repeat' first
   |exact this
   |exact bT this (X2 _ _ _ _ _ _)
   |exact bT this (Qc _ _ _)
   |split
theorem ahL(p:Program)(main:Bool)(bj:Frame)(cs:List Frame)(tH:Option Dying)(w:World):w.drawn<=(lU (unwind p main bj cs tH w)).drawn:=by
 unfold unwind;simp only[CP];repeat' first
  |exact bS _
  |exact ahK _ _ _ _ _ _
  |exact Qd _ _ _ _ _ _ _
  |exact X1 _ _ _ _
  |exact oD (by assumption)
  |exact DT (by assumption)
  |exact bT (oD (by assumption)) (Qd _ _ _ _ _ _ _)
  |rw[GV]
  |split
theorem ahM(p:Program)(bj:Frame)(cs:List Frame)(tH:Option Dying)(g:Nat)(w:World):w.drawn<=(lU (early p bj cs tH g w)).drawn:=by
 unfold early;simp only[];repeat' first
  |exact bS _
  | (refine bT (oD (by assumption)) ?_;exact bS _)
  |exact oD (by assumption)
  |exact DT (by assumption)
  |split
theorem Qe(p:Program)(bj:Frame)(cs:List Frame)(tH:Option Dying)(s:Sem Next)(w:World)(b:Bool):w.drawn<=(lU (stepG.apply p b bj cs tH s w)).drawn:=by
 unfold stepG.apply;simp only[CP];rw[GV];generalize ag: (if b=true then(Sem.run p s w,Sem.events p s w #[])else(Sem.run p s w,#[]))=x;obtain⟨r,es⟩:=x;have:w.drawn<=(Qa r).drawn:=by
  cases b<;>simp at ag<;>exact KU ag.1
 clear ag;simp only[];repeat' first
  |exact this
  |exact bT this (X2 _ _ _ _ _ _)
  |exact bT this (Qc _ _ _)
  |exact bT this (ahM _ _ _ _ _ _)
  |split
theorem ahN(p:Program)(bj:Frame)(cs:List Frame)(tH:Option Dying)(w:World)(b:Bool):w.drawn<=(lU (stepG.oper p b bj cs tH w)).drawn:=by
 unfold stepG.oper;repeat' first
  |exact bS _
  |exact Qe _ _ _ _ _ _ _
  |split
theorem ahO{α:Type}{o:Option α}{b:GStep}{f:α->GStep}{n:Nat}(h1:n<=(lU b).drawn)(ad:∀a,n<=(lU (f a)).drawn):n<=(lU (o.elim b f)).drawn:=by
 cases o;all_goals grind
theorem ahP(p:Program)(main:Bool)(bj:Frame)(cs:List Frame)(tH:Option Dying)(w:World)(b:Bool):w.drawn<=(lU (stepG.exec p main b bj cs tH w)).drawn:=by
 unfold stepG.exec;simp only[CP];split;all_goals(try simp only[XZ,X0,bS])
 all_goals repeat' first
  | (with_reducible exact bS _)
  | (with_reducible exact Qe _ _ _ _ _ _ _)
  | (with_reducible exact ahN _ _ _ _ _ _)
  | (with_reducible exact oD (by assumption))
  | (with_reducible exact DT (by assumption))
  | (with_reducible exact bT (oD (by assumption)) (Qd _ _ _ _ _ _ _))
  | (with_reducible exact bT (oD (by assumption)) (Qe _ _ _ _ _ _ _))
  | (with_reducible refine ahO ?_ (λ_=> ?_))
  |rw[GV]
  |simp only[XZ,X0,bS]
  |split
theorem ahQ(p:Program)(main:Bool)(g:Goroutine)(w:World)(b:Bool):w.drawn<=(lU (stepG p main g w b)).drawn:=by
 obtain⟨bj,cs,b4,tH,of⟩:=g;unfold stepG;simp only[];split
 ·exact ahI _ _ _ _
 ·exact ahP _ _ _ _ _ _ _
 ·exact ahL _ _ _ _ _ _
theorem ahR{rest:Rest}{gs:Array Goroutine}{i:Nat}{g:Goroutine}{cases:Array CommCase}{ahS:Bool}{shape:CommShape}{w:World}{eg:Machine}
  (h: (communicate p rest gs i g cases ahS shape w).1= .next eg):w.drawn<=eg.world.drawn:=by
 unfold communicate at h;simp only[]at h;have hw:∀w',waitingAt rest cases w=some w'->w.drawn<=w'.drawn:=λw' h=>by
  unfold waitingAt at h
  grind
 repeat' first
  | (simp at h;done)
  | (simp only[tb]at h;subst h;exact bS _)
  | (simp only[tb]at h;subst h;exact hw _ (by assumption))
  | (simp only[tb]at h;subst h;refine bT (oD (by assumption)) ?_;exact bS _)
  | (simp only[tb]at h;subst h;refine bT (oD (by assumption)) (bT (oD (by assumption)) ?_);exact bS _)
  | (simp only[tb]at h;subst h;refine bT (oD (by assumption)) (bT (DT (by assumption)) ?_);exact bS _)
  |split at h
theorem X3{gs:Array Goroutine}{rest:Rest}{w:World}{eg:Machine}(h:Go.look p gs rest w=Stepped.next eg):w.drawn<=eg.world.drawn:=by
 unfold Go.look at h;simp only[]at h;repeat' first
  | (simp at h;done)
  | (simp only[tb]at h;subst h;refine bT (oD (by assumption)) ?_;exact bS _)
  |split at h
variable{m eg:Machine}
theorem ahT{k:Nat}(h:serve p m k= .next eg):m.world.drawn<=eg.world.drawn:=by
 unfold serve at h
 grind
theorem ahU(w:World)(c:Nat): (drain w c).2.drawn=w.drawn:=by
 unfold drain;split<;>rfl
theorem X4(m:Machine)(k:Nat)(t:Timer)(a b:Nat): (retime m k t a b).2.world.drawn=m.world.drawn:=by
 unfold retime;cases t.chan<;>simp[ahU]
theorem ahV{op:TimerOp}{v:Value}(h:timerOp m op= .ok (v,eg)):m.world.drawn<=eg.world.drawn:=by
 have aH:∀var m1,timerOp.opened m var=some m1->m1.world.drawn=m.world.drawn:=λvar m1 h=>by
  unfold timerOp.opened at h
  grind
 have aV:∀ (m1:Machine) var (f:Nat->Timer->Value×Machine),(∀k t,(f k t).2.world.drawn=m.world.drawn)->timerOp.named m1 var f= .ok (v,eg)->m.world.drawn<=eg.world.drawn:=λm1 var f au h=>by
  unfold timerOp.named at h
  grind
 unfold timerOp at h;simp only[]at h;split at h
 ·split at h
  ·simp only[IY,N4]at h;obtain⟨_,h⟩:=h;subst h;exact bS _
  grind
 ·exact aV _ _ _ (λk t=>X4 _ _ _ _ _) h
 ·split at h
  ·rename_i tz;exact aV _ _ _ (λk t=>(X4 _ _ _ _ _).trans (aH _ _ tz)) h
  grind
 ·simp only[IY,N4]at h;obtain⟨_,h⟩:=h;subst h;exact bS _
theorem ahW{i:Nat}{b:Bool}(h: (runT p m i b).1= .next eg):m.world.drawn<=eg.world.drawn:=by
 simp only[runT]at h;revert h;generalize m.gs.swapAt! _ _=X5;have ax:=ahQ p (i==0) X5.1 m.world b;revert ax;generalize stepG p _ X5.1 m.world b=s;intro ax h;cases s<;>simp only[]at h<;>simp only[lU]at ax
 all_goals first
  | (simp at h;done)
  |exact bT ax (ahR h)
  |exact bT ax (X3 h)
  | (simp only[tb]at h;subst h;exact ax)
  | (repeat' first
    | (simp at h;done)
    | (simp only[tb]at h;subst h;exact ax)
    | (simp only[tb]at h;subst h;exact bT ax (ahV (by assumption)))
    | (simp only[endThrow,dieOf,tb]at h;subst h;exact ax)
    |split at h)
theorem ahX{k:Nat}{eg:Machine}{w:World}(hw:m.world.drawn<=w.drawn)(h:serve p {m with world:=w} k= .next eg):m.world.drawn<=eg.world.drawn:=
 bT hw (ahT h)
theorem X6: (∀eg i,askOn p m= .goroutine eg i->m.world.drawn<=eg.world.drawn)/\∀eg ops,askOn p m= .machine (.next eg) ops->m.world.drawn<=eg.world.drawn:=by
 constructor
 ·intro eg i h;unfold askOn at h;simp only[]at h;repeat' first
   | (simp at h;done)
   | (simp only[Move.goroutine.injEq]at h;obtain⟨h,_⟩:=h;subst h; (try simp only[Machine.advanceTo]at *);repeat (first| (with_reducible exact bS _)| (with_reducible refine bT ?_ (oD (by assumption)))|dsimp only))
   |split at h
 ·intro eg ops h;unfold askOn at h;simp only[]at h;repeat' first
   | (simp at h;done)
   | (simp only[Move.machine.injEq]at h;exact ahX (oD (by assumption)) h.1)
   | (simp only[Move.machine.injEq,tb]at h;obtain⟨h,_⟩:=h;subst h; (try simp only[Machine.advanceTo]at *);repeat (first| (with_reducible exact bS _)| (with_reducible refine bT ?_ (oD (by assumption)))|dsimp only))
   |split at h
theorem KV: (∀eg i,Go.ask p m= .goroutine eg i->m.world.drawn<=eg.world.drawn)/\∀eg ops,Go.ask p m= .machine (.next eg) ops->m.world.drawn<=eg.world.drawn:=by
 have key: (∃m2,m.world.drawn<=m2.world.drawn/\Go.ask p m=askOn p m2)\/(∃o w,Go.ask p m= .machine (.ended o w)):=by
  unfold Go.ask;split
  ·split
   ·simp
   ·rename_i ao;cases af:Go.look p m.gs m.rest _ with
    |next m2=>exact .inl ⟨m2,bT (oD ao) (X3 af),rfl⟩
    |ended o w=>simp
   ·rename_i ao;exact .inl ⟨_,oD ao,rfl⟩
  grind
 rcases key with⟨m2,h1,ad⟩| ⟨o,w,ad⟩
 ·rw[ad];exact⟨λeg i h=>bT h1 (X6.1 eg i h),λeg ops h=>bT h1 (X6.2 eg ops h)⟩
 grind
theorem X7: (∀eg i,move p m= .goroutine eg i->m.world.drawn<=eg.world.drawn)/\∀eg ops,move p m= .machine (.next eg) ops->m.world.drawn<=eg.world.drawn:=by
 constructor
 ·intro eg i h;unfold move at h;repeat' first
   | (simp at h;done)
   | (simp only[Move.goroutine.injEq]at h;obtain⟨h,_⟩:=h;subst h;exact bS _)
   |exact KV.1 _ _ h
   |exact(KV (m:={m with rest:={m.rest with slice:=none}})).1 _ _ h
   |split at h
 ·intro eg ops h;unfold move at h;repeat' first
   | (simp at h;done)
   |exact KV.2 _ _ h
   |exact(KV (m:={m with rest:={m.rest with slice:=none}})).2 _ _ h
   |split at h
theorem ahY(h:step p m= .next eg):m.world.drawn<=eg.world.drawn:=by
 unfold step stepT at h;cases az:move p m with
 |goroutine m1 i=>
  rw[az]at h;exact bT (X7.1 _ _ az) (ahW h)
 |machine s ops=>
  rw[az]at h;simp only[]at h;subst h;exact X7.2 _ _ az
theorem X8{p:Program}:∀ (n:Nat) {m eg:Machine},runN p n m= .next eg->m.world.drawn<=eg.world.drawn
 |0,m,eg,h=>by simp only[runN,tb]at h;grind
 |n+1,m,eg,h=>by
  simp only[runN]at h;cases ae:step p m with
  |next m1=>rw[ae]at h;exact bT (ahY ae) (X8 n h)
  |ended o w=>grind
variable{P:Program}{f:FuncId}
theorem ahZ{args:Array Value}{w:World}{R:Ending->World->Prop}(h:Calls P f args w R):
  Calls P f args w λe w'=>R e w'/\((∃v,e= .returned v)->w.drawn<=w'.drawn):=λcs=>by
 obtain⟨e,w',bj,ao,al,au,af⟩:=h cs;refine⟨e,w',bj,⟨ao,?_⟩,al,au,af⟩;rintro⟨v,rfl⟩;obtain⟨n,aV⟩:=al;exact X8 n aV
open Go Go.Proofs
open Go.Sort (grow putRow putCells mapBlock HoldsK PermIn SortedIn SWO)
theorem ah0(ax:w.grownBy w' none)(aa:w.drawn<=w'.drawn):∃q os,w'=grow (w.drewN q) os:=by
 refine⟨w'.drawn-w.drawn,w'.heap.extract w.heap.size w'.heap.size,?_⟩;have h1:w'.heap=w.heap++w'.heap.extract w.heap.size w'.heap.size:=by
  apply Array.ext_getElem?;intro k;rw[Array.getElem?_append];split
  ·rename_i h;exact ax.block k h (by simp)
  grind
 obtain⟨h,t,n,o,u⟩:=w;obtain⟨bp,eB,JH,aT,auB⟩:=w';obtain⟨aA,aG,bc,cn,ep⟩:=ax;simp only at aA aG bc aa h1;subst aA aG bc;simp only[grow,World.drewN];rw[<-h1];congr 1;omega
def tI(agg:Bool)(vs:List Value):Value:=bif agg then .agg vs.toArray else vs[0]!
def KW(agg:Bool)(r:List ak):ak:=bif agg then .agg r else r.headD .aY
def X9(P:Program)(f g:FuncId)(ay:Nat)(agg:Bool):Prop:=
 ∀ (n:Nat) (enc:Fin (n+1)->List Value),(∀x,(enc x).length=ay)->(∀x,∀v∈enc x,v.oneCell'=true)->∀ (cf:Fin (n+1)->Fin (n+1)->Int),SWO (ltOf cf)->∀ (cb:Array Value) (bI cap:Nat) (d:Array (Fin (n+1))) (w:World),
  (∀args w,(callFunc g args).run P w= .ok (.enter g args) w)->
  (∀ (m:Nat) (os:Array Obj) (hV:Array (Fin (n+1))),hV.size=d.size->∀x y,Calls P g (#[tI agg (enc x),tI agg (enc y)]++cb) (sortWorldK enc ay w bI 0 m hV os) λe w'=>
   e= .returned (.int .i64 (cf x y))/\∃q aP,w'=grow ((sortWorldK enc ay w bI 0 m hV os).drewN q) aP)->
  HoldsK enc ay w bI 0 d->bI<w.heap.size->d.size<4611686018427387904->
  Calls P f #[.slice (some ⟨bI,0,none⟩) d.size cap,.func (.func g) #[] cb] w λe w'=>
   e= .returned (.tuple #[])/\∃ck m os,PermIn 0 d.size d ck/\SortedIn (ltOf cf) 0 d.size ck/\w'=sortWorldK enc ay w bI 0 m ck os
theorem ah1{enc:Fin (n+1)->List Value}(hk:∀x,(enc x).length=1)(d:Array (Fin (n+1)))(off:Nat)(c:Array Value):putCells (λx=>(enc x)[0]!) off d c=putCells id off (Go.Sort.flatK enc 1 d) c:=by
 apply Array.ext_getElem?;intro k;simp only[putCells,UG];congr 1;funext x;simp only[Go.Sort.size_flatK,CO];split
 ·rename_i h;rw[Go.Sort.get_flatK _ _ _ _ (by omega),Nat.div_one,Nat.mod_one];rfl
 ·rfl
variable{ρ:Go.Shelf.Ren}
theorem ah2(L:SlLaysF.n6 P ρ)(g:FuncId):X9 P (ρ.f 6) g 1 false:=by
 intro n enc hk h1 cf hO cb bI cap d w ah3 KX hH hblk cC;have Pd:∀ (w:World) (hV:Array (Fin (n+1))),putRow (λx=>(enc x)[0]!) w bI 0 hV=Go.Sort.putRowK enc 1 w bI 0 hV:=λw hV=>by
  unfold Go.Sort.putRowK;unfold putRow;congr 1;funext c;exact ah1 hk hV 0 c
 have Ya:∀m hV os,sortWorld (λx=>(enc x)[0]!) w bI 0 m hV os=sortWorldK enc 1 w bI 0 m hV os:=λm hV os=>by
  unfold sortWorld sortWorldK
  grind
 have ni:∀x,(enc x)[0]!∈enc x:=λx=>by
  grind
 have ah4:Go.Sort.Holds (λx=>(enc x)[0]!) w bI 0 d:=λj aq=>by
  have:=hH j (by simp_all);rw[Go.Sort.get_flatK _ _ _ _ (by omega),Nat.div_one,Nat.mod_one]at this
  grind
 have:=Any.slices_SortFunc L (λx=>(enc x)[0]!) (λx=>h1 x _ (ni x)) cf hO g cb bI 0 cap d w ah3 (λm os hV ae x y=>by
  rw[Ya];exact KX m os hV ae x y) ah4 hblk cC
 grind
open Go Go.Proofs
open Go.Sort (grow putRow putCells mapBlock HoldsK PermIn SortedIn SWO)
def Qf:ak->Bool
 | .da _| .v _=>true
 |_=>false
theorem ah5{A:Nat->Prop}{os:c3}{w:World}{x:Value}{d:ak}(h:bg A os w x d)(al:Qf d=true):b7 A w x d:=by
 cases d<;>simp[Qf]at al
 ·obtain⟨rfl,h1⟩:=h.j7;exact .v h1
 ·exact h.vW
theorem Yb{A:Nat->Prop}{w:World}:∀ {vs:List Value} {ds:List ak},vs.length=ds.length->(∀ (i:Nat) v d,vs[i]?=some v->ds[i]?=some d->b7 A w v d)->sl A w vs ds
 | [],[],_,_=>trivial
 | [],_::_,h,_=>by simp at h
 |_::_,[],h,_=>by simp at h
 |v::vs,d::ds,af,h=>⟨h 0 v d rfl rfl,Yb (by simpa using af) (λi v d ab aa=>h (i+1) v d ab aa)⟩
theorem ah6{g:FuncId}{e:TypeId}{ay:Nat}{agg:Bool}(au:∀ (vs:Array Value) (w:World),(callFunc f vs).run P w= .ok (.enter f vs) w)(cJ:X9 P f g ay agg)
  (js:∀ (p:Option Addr) (cap:Nat) (Qg:Value) (w:World),Calls P f #[.slice p 0 cap,Qg] w λe w'=>e= .returned (.tuple #[])/\w'=w)
  {β:Type} (F:β->List ak) (l cK:List β) (cf:β->β->Int) (hO:SWO (ltOf cf)) (ah7:∀x∈l,∀y∈l,ltOf cf x y=false->ltOf cf y x=false->x=y)
  (an:cK.Perm l) (ae:cK.Pairwise λx y=>ltOf cf y x=false) (hlen:l.length<4611686018427387904) (cr:List ak) (O0:∀d∈cr,Qf d=true) (yK:agg=false->ay=1)
  (KX:∀x∈l,∀y∈l,bq P g ([KW agg (F x),KW agg (F y)]++cr) (.v (.int .i64 (cf x y)))):
  cj P f [.row e ay (l.map F)] [.own 0,.fn (.func g) cr] [true] [.row e ay (cK.map F)] (.be []):=by
 refine⟨au,λA w os fL ai eV ab=> ?_⟩;obtain⟨x,rfl⟩:∃x,os=[(x,aX.row e ay (l.map F))]:=by
  have:=eV.loc
  match os,this with
  | [(x,o)],this=>simp at this;subst this;exact⟨x,rfl⟩
 match fL,ab with
 | [eW,hc],⟨h1,ad,_⟩=>
 have aA:eW=x:=h1.qS (i:=0) rfl;subst aA;obtain⟨wm,rfl,ix,Yc⟩:=ad.tn;obtain⟨ct,xs,⟨qg,fm⟩,cC,gY,br,dD⟩:=eV.cW 0 eW _ rfl;have KY:∀ {w':World},l=[]->w'=w->∃v aP,Ending.returned (.tuple #[])= .returned v/\uD A aP [.row e ay (cK.map F)] w'/\bg (bh A aP) aP w' v (.be [])/\pw (hp [(eW,aX.row e ay (l.map F))]) w w'/\(∀b,hp aP b->hp [(eW,aX.row e ay (l.map F))] b\/w.heap.size<=b)/\
   ∀ (i:Nat) x o,([true]:List Bool)[i]?=some true->([(eW,aX.row e ay (l.map F))]:c3)[i]?=some (x,o)->∃aT,aP[i]?=some (x,aT):=by
  intro w' af hw;subst af hw;have:cK=[]:=an.eq_nil;subst this;exact⟨_,_,rfl,eV,.bQ (.be (vs:=[]) (ds:=[]) rfl (λi v d h=>by simp at h)),⟨rfl,rfl,rfl,bS _,λ_ _ _=>rfl⟩,λb h=>.inl h,λi x o h1 ad=>⟨o,ad⟩⟩
 rw[bL]at fm qg;rcases fm with⟨rfl,aQ⟩| ⟨bI,cap,cur,rfl,_,tJ,rJ,qf,lN,pJ⟩
 ·have af:l=[]:=ut.1 aQ;refine(js none 0 _ w).mono λe w' he=> ?_;obtain⟨rfl,hw⟩:=he;exact KY af hw
 by_cases nU:l.length=0
 ·have af:l=[]:=ut.1 nU;have wo:Calls P f #[.slice (some ⟨bI,0,none⟩) l.length cap,.func (.func g) #[] wm.toArray] w λe w'=>e= .returned (.tuple #[])/\w'=w:=by
   rw[nU];exact js _ _ _ _
  refine wo.mono λe w' he=> ?_;obtain⟨rfl,hw⟩:=he;exact KY af hw
 obtain⟨n,aV⟩:∃n,l.length=n+1:=⟨l.length-1,by omega⟩
 have cL:∀i:Fin (n+1),i.1<l.length:=λi=>by omega
 let enc:Fin (n+1)->List Value:=λi=>(xs.drop (i.1*ay)).take ay
 let GW:Fin (n+1)->Fin (n+1)->Int:=λi j=>cf (l[i.1]'(cL i)) (l[j.1]'(cL j))
 have Yd:∀i,enc i=(xs.drop (i.1*ay)).take ay:=λi=>rfl;have auC:∀i j,GW i j=cf (l[i.1]'(cL i)) (l[j.1]'(cL j)):=λi j=>rfl;have ah8:∀i:Fin (n+1),i.1*ay+ay<=xs.length:=λi=>by
  rw[qg,aV];have:=kI ay (show i.1+1<=n+1 by omega);rwa[uv,Fw]at this
 have hS:∀i,(enc i).length=ay:=λi=>by
  have:=ah8 i;rw[Yd,mW,ru];omega
 have Ye:∀ (i:Fin (n+1)) j,j<ay->(enc i)[j]?=xs[i.1*ay+j]?:=λi j aq=>by
  rw[Yd,rs,b3 aq,qI]
 have Dn:∀i,∀v∈enc i,v.oneCell'=true:=λi v ab=>br v (CM (om ab));have ah9:SWO (ltOf GW):=⟨λx=>hO.irrefl _,λx y z=>hO.trans _ _ _,λx y z=>hO.ntrans _ _ _⟩
 let d:Array (Fin (n+1)):=Array.ofFn λi=>i
 have y9:d.size=n+1:=by simp[d]
 have GX:∀t (h:t<n+1),d[t]! = ⟨t,h⟩:=λt h=>by
  rw[sg d t (by rw[y9];exact h)];simp[d]
 have aia:Go.Sort.flatK enc ay d=xs.toArray:=by
  refine Go.Sort.ext_get! (by rw[Go.Sort.size_flatK,y9];simp[qg,aV]) λt cI=> ?_;rw[Go.Sort.size_flatK]at cI;have AT:t<(n+1) *ay:=by rw[y9]at cI;exact cI
  rw[Go.Sort.get_flatK _ _ _ _ cI];have bX:t/ay<n+1:=Nat.div_lt_of_lt_mul (by rwa[Ah]);rw[GX _ bX];have ao:t%ay<ay:=uw _ cC;have aG:=Ye ⟨t/ay,bX⟩ (t%ay) ao;have bc:t/ay*ay+t%ay=t:=by rw[Ah];exact Nat.div_add_mod t ay
  simp only[bc]at aG;have ag:t<xs.length:=by rw[qg,aV];exact AT
  rw[eN ag]at aG;obtain⟨bs,cm⟩:=eI.1 aG;rw[sg _ (t%ay) bs,cm,sg xs.toArray t (by simpa using ag)];simp
 have aib:∀j,j<xs.length->cur[j]?=xs[j]?:=λj aq=>by
  rw[<-pJ,rs,b3 (by rw[<-qg];exact aq)];simp
 have hH:HoldsK enc ay w bI 0 d:=by
  unfold HoldsK;rw[aia];intro j aq;have GY:j<xs.length:=by simpa using aq
  refine⟨?_,?_⟩
  ·simp only[World.cell?,tJ,ux];rw[sg _ j aq];simp[aib j GY,GY]
  ·simp[World.frozen?,tJ]
 have hblk:bI<w.heap.size:=(wX.1 tJ).1;have fO:bh A [(Value.slice (some ⟨bI,0,none⟩) l.length cap,aX.row e ay (l.map F))] bI:=.inr ⟨0,_,_,rfl,by simp,rfl⟩;have KZ:∀m hV os b,b≠bI->b<w.heap.size->(sortWorldK enc ay w bI 0 m hV os).heap[b]?=w.heap[b]?:=λm hV os b bx ac=>by
  unfold sortWorldK Go.Sort.putRowK putRow mapBlock grow Go.Sort.ahead;simp only;rw[Fe (by simpa using ac),NF,bm (Ne.symm bx)]
 have GZ:∀m hV os,w.heap.size<=(sortWorldK enc ay w bI 0 m hV os).heap.size:=λm hV os=>size_sortWorldK_c enc ay w bI 0 m hV os;have lr:∀m hV os,dy (bh A [(Value.slice (some ⟨bI,0,none⟩) l.length cap,aX.row e ay (l.map F))]) (λ_=>False) w (sortWorldK enc ay w bI 0 m hV os):=λm hV os=>
  ⟨GZ m hV os,λb _ h=>h.elim,λb ac DU=>KZ m hV os b (λe=>DU (e▸fO)) ac⟩
 have rK:∀ (i:Fin (n+1)),(F (l[i.1]'(cL i))).length=ay/\∀j v pB,(enc i)[j]?=some v->(F (l[i.1]'(cL i)))[j]?=some pB->b7 (bh A [(Value.slice (some ⟨bI,0,none⟩) l.length cap,aX.row e ay (l.map F))]) w v pB:=λi=>by
  have qk: (l.map F)[i.1]?=some (F (l[i.1]'(cL i))):=by simp[cL i]
  refine⟨gY _ (fq qk),λj v pB ab aa=> ?_⟩;obtain⟨u,hu,lp⟩:=dD i.1 j _ pB qk aa;have aq:j<ay:=by
   have:=gY _ (fq qk);have:=(eI.1 aa).1;omega
  rw[Ye i j aq,hu]at ab;cases ab;exact lp
 have DG:∀m hV os (i:Fin (n+1)),b7 (λ_=>False) (sortWorldK enc ay w bI 0 m hV os) (tI agg (enc i)) (KW agg (F (l[i.1]'(cL i)))):=λm hV os i=>by
  obtain⟨hL,gM⟩:=rK i;cases agg with
  |true=>exact .agg (by rw[hS,hL]) (Dn i) (λj v pB ab aa=>(gM j v pB ab aa).cA (lr m hV os))
  |false=>
   have h1:=yK rfl;have jk:=hS i;rw[h1]at hL jk;simp only[tI,KW,bD];obtain⟨u,hu⟩:=I3.1 jk;obtain⟨pB,aa⟩:=I3.1 hL;rw[hu,aa]at gM⊢;exact(gM 0 u pB rfl rfl).cA (lr m hV os)
 have Bd:∀args w,(callFunc g args).run P w= .ok (.enter g args) w:=(KX _ (eD (cL ⟨0,by omega⟩)) _ (eD (cL ⟨0,by omega⟩))).1;have il:∀ (m:Nat) (os:Array Obj) (hV:Array (Fin (n+1))),hV.size=d.size->∀x y,Calls P g (#[tI agg (enc x),tI agg (enc y)]++wm.toArray) (sortWorldK enc ay w bI 0 m hV os) λe w'=>
   e= .returned (.int .i64 (GW x y))/\∃q aP,w'=grow ((sortWorldK enc ay w bI 0 m hV os).drewN q) aP:=λm os hV _ i j=>by
  have ao:=(KX _ (eD (cL i)) _ (eD (cL j))).2 (λ_=>False) (sortWorldK enc ay w bI 0 m hV os) ([tI agg (enc i),tI agg (enc j)]++wm) (λb h=>h.elim)
   ⟨DG m hV os i,DG m hV os j,Yb ix (λq v pB ab aa=>(ah5 (Yc q v pB ab aa) (O0 pB (fq aa))).cA (lr m hV os))⟩
  have ao:=ahZ ao;have n1: (#[tI agg (enc i),tI agg (enc j)]++wm.toArray)=([tI agg (enc i),tI agg (enc j)]++wm).toArray:=by simp
  rw[n1];refine ao.mono λe w' he=> ?_;obtain⟨⟨v,rfl,lp,Qh⟩,aa⟩:=he;have ab:v= .int .i64 (GW i j):=lp.j7;subst ab;exact⟨rfl,ah0 Qh (aa ⟨_,rfl⟩)⟩
 have wo:=cJ n enc hS Dn GW ah9 wm.toArray bI cap d w Bd il hH hblk (by rw[y9];omega);rw[y9]at wo;have aic: ([Value.slice (some ⟨bI,0,none⟩) l.length cap,Value.func (.func g) #[] wm.toArray]:List Value).toArray= #[.slice (some ⟨bI,0,none⟩) ((n+1:Nat):Nat) cap,.func (.func g) #[] wm.toArray]:=by rw[aV]
 rw[aic];refine wo.mono λfk w' he=> ?_;obtain⟨rfl,ck,m,hM,⟨DV,_,Yf⟩,aid,rfl⟩:=he;rw[y9]at DV;have Yg:ck.extract 0 ck.size=ck:=Array.extract_size;rw[DV]at Yg;have Gu:d.extract 0 d.size=d:=Array.extract_size;rw[y9]at Gu;rw[Yg,Gu]at Yf;have hK:ck.toList.map (λi=>l[i.1]'(cL i))=cK:=by
  have eF: (d.toList.map λi=>l[i.1]'(cL i))=l:=by
   refine NN (by simp[y9,aV]) λt auD XP=> ?_;simp only[Ae,IX];have:=GX t (by omega);rw[sg d t (by omega)]at this;simp only[this]
  have sC: (ck.toList.map λi=>l[i.1]'(cL i)).Perm l:=by
   conv=>rhs;rw[<-eF]
   exact Yf.map _
  refine UK (le:=λx y=>ltOf cf y x=false) ?_ ?_ ae (sC.trans an.symm)
  ·intro a b bb ac h1 ad;exact ah7 a (sC.mem_iff.1 bb) b (an.mem_iff.1 ac) ad h1
  ·rw[my];intro i j hi aq fV;simp only[Ae,IX];simp only[bL,Cx]at hi aq;have:=aid i j (bZ _) fV (by omega);rw[sg ck i hi,sg ck j aq]at this;exact this
 have wy:cK.length=n+1:=by rw[<-hK];simp[DV]
 let xL:=Go.Sort.flatK enc ay ck
 have za:xL.size=(n+1) *ay:=by simp[xL,DV]
 let Be:=putCells id 0 xL cur
 have aie:Be.size=cur.size:=by simp[Be,putCells]
 have kQ: (n+1) *ay<=cur.size:=by
  rw[lN,<-aV];exact kI _ rJ
 have aif:∀t,t<(n+1) *ay->Be[t]?=some xL[t]!:=λt cI=>by
  simp only[Be,putCells,UG];rw[vF (by omega),p6,b3 ⟨bZ _,by rw[za];omega⟩];rfl
 have aig:Be.toList.take ((n+1) *ay)=xL.toList:=by
  refine rr λt=> ?_;rw[rs];by_cases cI:t<(n+1) *ay
  ·rw[b3 cI,wY,aif t cI,sg xL t (by omega)];simp[za,cI]
  ·rw[bm cI,w2 (by simp[za];omega)]
 have Qi: (sortWorldK enc ay w bI 0 m ck hM).heap[bI]?=some (.cells Be e (0,0)):=by
  unfold sortWorldK Go.Sort.putRowK putRow mapBlock grow Go.Sort.ahead;simp only;rw[Fe (by simpa using hblk),NF,b3 rfl,tJ];rfl
 have K0:∀b,hp [(Value.slice (some ⟨bI,0,none⟩) l.length cap,aX.row e ay (cK.map F))] b->b=bI:=λb ⟨i,x,o,hi,_,ac⟩=>by
  match i,hi with
  |0,hi=>simp at hi;obtain⟨rfl,_⟩:=hi;simp[Go.Lift.bI]at ac;exact ac.symm
 have DU:¬A bI:=λh=>eV.out bI h ⟨0,_,_,rfl,by simp,rfl⟩;have aih:dy (bh A [(Value.slice (some ⟨bI,0,none⟩) l.length cap,aX.row e ay (l.map F))]) (bh A [(Value.slice (some ⟨bI,0,none⟩) l.length cap,aX.row e ay (cK.map F))]) w (sortWorldK enc ay w bI 0 m ck hM):=
  ⟨GZ m ck hM,λb ac h=>by
   rcases h with h|h
   ·exact .inl h
   ·rw[K0 b h];exact fO,λb ac DU=>KZ m ck hM b (λe=>DU (e▸fO)) ac⟩
 refine⟨_,[(Value.slice (some ⟨bI,0,none⟩) l.length cap,aX.row e ay (cK.map F))],rfl,⟨rfl,?_,?_,?_⟩,.bQ (.be (vs:=[]) (ds:=[]) rfl (λi v d h=>by simp at h)),⟨rfl,rfl,rfl,GZ m ck hM,?_⟩,?_,?_⟩
 ·intro i x o hi
  match i,hi with
  |0,hi=>
   simp at hi;obtain⟨rfl,rfl⟩:=hi;refine⟨λb _=>.inr trivial,xL.toList,⟨by simp[za,wy],.inr ⟨bI,cap,Be,by rw[bL,wy,aV],bZ _,Qi,by rw[bL,wy,<-aV];exact rJ,qf,by rw[aie];exact lN,by rw[bL,wy];exact aig⟩⟩,cC,?_,?_,?_⟩
   ·intro r ao;obtain⟨y,bk,rfl⟩:=fr.1 ao;exact gY _ (fr.2 ⟨y,an.mem_iff.1 bk,rfl⟩)
   ·intro v ab;obtain⟨t,cI,rfl⟩:=fv ab;simp only[Cx,za]at cI;simp only[IX];have aG:=Go.Sort.get_flatK enc ay ck t (by rw[DV];exact cI);rw[sg xL t (by omega)]at aG;rw[aG,sg _ (t%ay) (by rw[hS];exact uw _ cC)];exact Dn _ _ (eD _)
   ·intro k j r pB ao aa;have hk:k<cK.length:=by have:=(eI.1 ao).1;simpa using this
    have mF:k<n+1:=by omega
    have u3:r=F (l[(ck[k]'(by omega)).1]'(cL _)):=by
     simp only[fe,eN hk,p6,vN]at ao;rw[<-ao];congr 1;simp only[<-hK,Ae,IX]
    subst u3;obtain⟨hL,gM⟩:=rK (ck[k]'(by omega));have aq:j<ay:=by have:=(eI.1 aa).1;omega
    have aB:k*ay+j<(n+1) *ay:=by
     have:=kI ay (show k+1<=n+1 by omega);rw[uv,Fw]at this;omega
    have aG:=Go.Sort.get_flatK enc ay ck (k*ay+j) (by rw[DV];exact aB);have bc: (k*ay+j)/ay=k:=by
     rw[Ah,Nat.mul_add_div cC,Nat.div_eq_of_lt aq,w6]
    have cn: (k*ay+j)%ay=j:=by
     rw[Ah,Nat.mul_add_mod,se aq]
    rw[bc,cn,sg ck k (by omega),sg _ j (by rw[hS];exact aq)]at aG;refine⟨_,?_,(gM j _ pB (eN (by rw[hS];exact aq)) aa).cA aih⟩;rw[wY,vF (by omega),<-aG,sg xL _ (by omega)]
 ·intro i j x o y aT b hi aq _ _ _ _;have cH:=(eI.1 hi).1;have a2:=(eI.1 aq).1;simp at cH a2;omega
 ·intro b ac h;rw[K0 b h]at ac;exact DU ac
 ·intro k hk DW;exact KZ m ck hM k (λe=>DW (e▸ ⟨0,_,_,rfl,by simp,rfl⟩)) hk
 ·intro b h;rw[K0 b h];exact .inl ⟨0,_,_,rfl,by simp,rfl⟩
 ·intro i x o h1 ad
  match i,ad with
  |0,ad=>simp at ad;obtain⟨rfl,_⟩:=ad;exact⟨_,rfl⟩
open Go Go.Proofs
open Go.Sort (grow putRow putCells mapBlock Holds)
def lx(x:Int):List ak:=[.v (.int .i64 x)]
theorem aii(cur:Array Value)(dY cK:List Int)(h:dY.length<=cur.size)(an:dY.take cK.length=cK)(af:cK.length<=dY.length): (putCells (Value.int .i64) 0 dY.toArray cur).toList.take cK.length=cK.map (Value.int .i64):=by
 apply rr;intro j;by_cases aq:j<cK.length
 ·have e:cK[j]?=dY[j]?:=by
   grind
  rw[List.getElem?_take_of_lt aq,wY,fe,e];have h1:j<dY.length:=by omega
  simp[putCells,h1,show j<cur.size by omega]
 grind
theorem aij{A:Nat->Prop}{w:World}{bI cap n:Nat}{hM:Array Obj}{e:TypeId}{l cK dY:List Int}{cur:Array Value}
  (eV:uD A [(Value.slice (some ⟨bI,0,none⟩) l.length cap,aX.row e 1 (l.map lx))] [aX.row e 1 (l.map lx)] w)
  (tJ:w.heap[bI]?=some (.cells cur e (0,0))) (bt:dY.length=l.length) (rJ:l.length<=cap) (qf:cap<=maxLen) (lN:cur.size=cap*1) (Qj:dY.take cK.length=cK) (i0:cK.length<=l.length):
  uD A [(Value.slice (some ⟨bI,0,none⟩) cK.length cap,aX.row e 1 (cK.map lx))] [aX.row e 1 (cK.map lx)] (grow (putRow (Value.int .i64) (Go.Sort.ahead w n) bI 0 dY.toArray) hM)/\
  pw (hp [(Value.slice (some ⟨bI,0,none⟩) l.length cap,aX.row e 1 (l.map lx))]) w (grow (putRow (Value.int .i64) (Go.Sort.ahead w n) bI 0 dY.toArray) hM)/\
  ∀b,hp [(Value.slice (some ⟨bI,0,none⟩) cK.length cap,aX.row e 1 (cK.map lx))] b->hp [(Value.slice (some ⟨bI,0,none⟩) l.length cap,aX.row e 1 (l.map lx))] b\/w.heap.size<=b:=by
 have hblk:bI<w.heap.size:=(wX.1 tJ).1;have Qi: (grow (putRow (Value.int .i64) (Go.Sort.ahead w n) bI 0 dY.toArray) hM).heap[bI]?=some (.cells (putCells (Value.int .i64) 0 dY.toArray cur) e (0,0)):=by
  unfold putRow mapBlock grow Go.Sort.ahead;simp only;rw[Fe (by grind),NF,b3 rfl,tJ];rfl
 have KZ:∀b,b≠bI->b<w.heap.size->(grow (putRow (Value.int .i64) (Go.Sort.ahead w n) bI 0 dY.toArray) hM).heap[b]?=w.heap[b]?:=λb bx ac=>by
  unfold putRow mapBlock grow Go.Sort.ahead
  grind
 have GZ:w.heap.size<=(grow (putRow (Value.int .i64) (Go.Sort.ahead w n) bI 0 dY.toArray) hM).heap.size:=by
  simp
 have K0:∀b,hp [(Value.slice (some ⟨bI,0,none⟩) cK.length cap,aX.row e 1 (cK.map lx))] b->b=bI:=λb ⟨i,x,o,hi,_,ac⟩=>by
  match i,hi with
  |0,hi=>simp at hi;obtain⟨rfl,_⟩:=hi;simp[Go.Lift.bI]at ac;omega
 have jE:hp [(Value.slice (some ⟨bI,0,none⟩) l.length cap,aX.row e 1 (l.map lx))] bI:=⟨0,_,_,rfl,by simp,rfl⟩
 have DU:¬A bI:=λh=>eV.out bI h jE;have eF: (putCells (Value.int .i64) 0 dY.toArray cur).size=cur.size:=by simp[putCells]
 refine⟨⟨rfl,?_,?_,?_⟩,⟨rfl,rfl,rfl,GZ,?_⟩,?_⟩
 ·intro i x o hi
  match i,hi with
  |0,hi=>
   simp at hi;obtain⟨rfl,rfl⟩:=hi;refine⟨λb _=>.inr trivial,cK.map (Value.int .i64),⟨by simp,.inr ⟨bI,cap,_,by simp,bZ _,Qi,by grind,qf,by omega,?_⟩⟩,Nat.one_pos,?_,?_,?_⟩
   ·rw[bL,CO];exact aii cur dY cK (by omega) Qj (by omega)
   ·intro r ao;obtain⟨y,bk,rfl⟩:=fr.1 ao;rfl
   ·intro v ab;obtain⟨y,bk,rfl⟩:=fr.1 ab;rfl
   ·intro k j r pB ao aa;have hk:k<cK.length:=by grind
    simp only[fe,eN hk,p6,vN]at ao;subst ao
    match j,aa with
    |0,aa=>
     simp only[lx,CE,vN]at aa;subst aa;exact⟨.int .i64 cK[k],by simp,.v rfl⟩
    |j+1,aa=>simp[lx]at aa
 all_goals grind
variable{e:TypeId}
theorem Qk(au:∀ (vs:Array Value) (w:World),(callFunc f vs).run P w= .ok (.enter f vs) w)(l cK dY:List Int)(kept:List Bool)(d:ak)(R:Option Addr->Nat->Value)
  (js:l=[]->∀ (p:Option Addr) (cap:Nat) (w:World),Calls P f #[.slice p 0 cap] w λe w'=>e= .returned (R p cap)/\w'=w)
  (il:∀ (bI cap:Nat) (w:World),Go.Sort.Holds (Value.int .i64) w bI 0 l.toArray->bI<w.heap.size->l.length<=cap->Calls P f #[.slice (some ⟨bI,0,none⟩) l.length cap] w λe w'=>e= .returned (R (some ⟨bI,0,none⟩) cap)/\∃n os,w'=grow (putRow (Value.int .i64) (Go.Sort.ahead w n) bI 0 dY.toArray) os)
  (bt:dY.length=l.length) (Qj:dY.take cK.length=cK) (i0:cK.length<=l.length) (o5:kept=[false]\/cK.length=l.length)
  (b1:∀A w (aP:c3) p cap,aP[0]?=some (.slice p cK.length cap,.row e 1 (cK.map lx))->bg (bh A aP) aP w (R p cap) d):
  cj P f [.row e 1 (l.map lx)] [.own 0] kept [.row e 1 (cK.map lx)] d:=by
 refine⟨au,λA w os fL ai eV ab=> ?_⟩;obtain⟨x,rfl⟩:∃x,os=[(x,aX.row e 1 (l.map lx))]:=by
  have:=eV.loc
  simp_all
 match fL,ab with
 | [eW],⟨h1,_⟩=>
 have aA:eW=x:=h1.qS (i:=0) rfl;subst aA;obtain⟨ct,xs,⟨qg,fm⟩,cC,gY,br,dD⟩:=eV.cW 0 eW _ rfl;rw[bL]at fm qg;have K1:∀ (p:Option Addr) (cap:Nat),l=[]->eW= .slice p 0 cap->Calls P f [eW].toArray w λaik w'=>∃v aP,aik= .returned v/\uD A aP [.row e 1 (cK.map lx)] w'/\bg (bh A aP) aP w' v d/\pw (hp [(eW,aX.row e 1 (l.map lx))]) w w'/\(∀b,hp aP b->hp [(eW,aX.row e 1 (l.map lx))] b\/w.heap.size<=b)/\
   ∀ (i:Nat) x o,kept[i]?=some true->([(eW,aX.row e 1 (l.map lx))]:c3)[i]?=some (x,o)->∃aT,aP[i]?=some (x,aT):=λp cap af Pl=>by
  subst af Pl;have:cK=[]:=ut.1 (by grind);subst this;refine(js rfl p cap w).mono λfk w' he=> ?_;obtain⟨rfl,rfl⟩:=he;exact⟨_,_,rfl,eV,b1 _ _ _ p cap rfl,⟨rfl,rfl,rfl,bS _,λ_ _ _=>rfl⟩,λb h=>.inl h,λi x o h1 ad=>⟨o,ad⟩⟩
 rcases fm with⟨rfl,aQ⟩| ⟨bI,cap,cur,rfl,_,tJ,rJ,qf,lN,pJ⟩
 ·grind
 by_cases nU:l.length=0
 ·grind
 have hblk:bI<w.heap.size:=(wX.1 tJ).1;have hH:Go.Sort.Holds (Value.int .i64) w bI 0 l.toArray:=by
  intro j aq;have GY:j<l.length:=by omega
  have nY: (l.map lx)[j]?=some (lx l[j]):=by grind
  obtain⟨u,hu,lp⟩:=dD j 0 _ _ nY (rfl: (lx l[j])[0]?=some (.v (.int .i64 l[j])));have ail:u= .int .i64 l[j]:=lp.j7;subst ail;rw[CO,w6,<-pJ,rs]at hu;have iv:j<l.length*1:=by omega
  rw[b3 iv,wY]at hu;refine⟨?_,by simp[World.frozen?,tJ]⟩;simp only[World.cell?,tJ,ux]
  grind
 refine(il bI cap w hH hblk rJ).mono λfk w' he=> ?_;obtain⟨rfl,n,hM,rfl⟩:=he;obtain⟨g1,g2,g3⟩:=aij (n:=n) (hM:=hM) eV tJ bt rJ qf lN Qj i0
 grind
theorem aim{f:FuncId}{e:TypeId}(L:Lays.n189 P ρ)(yZ:ρ.f 189=f)(au:∀ (vs:Array Value) (w:World),(callFunc f vs).run P w= .ok (.enter f vs) w)(l cK:List Int)(an:cK.Perm l)(ae:cK.Pairwise λx y=>x<=y)(hlen:l.length<4611686018427387904):
  cj P f [.row e 1 (l.map lx)] [.own 0] [true] [.row e 1 (cK.map lx)] (.be []):=by
 subst yZ;have he:l.mergeSort (λx y=>decide (x<=y))=cK:=by
  have h1:=NT (le:=λx y:Int=>decide (x<=y)) (λa b c h1 ad=>by grind) (λa b=>by grind) l;refine UK (le:=λx y:Int=>x<=y) (λa b _ _ h1 ad=>by omega) (h1.imp λh=>by grind) ae ((NR _ _).trans an.symm)
 refine Qk au l cK cK [true] (.be []) (λ_ _=>.tuple #[]) (λ_ p cap w=>Any.slices_Sort_int_none L p cap w) (λbI cap w hH ac _=> ?_) an.length_eq (gn ..) (Fv an.length_eq) (.inr an.length_eq) (λA w aP p cap h=>.bQ (.be (vs:=[]) (ds:=[]) rfl (λi v d h=>by simp)));have h:=Any.slices_Sort_int L bI 0 cap l w hH ac hlen
 grind
theorem ain(w:World):grow w #[]=w:=by
 rfl
theorem Yh(l:List Int): (Lib.compact l).length<=l.length:=by
 unfold Lib.compact Lib.compactUpTo
 grind
theorem aio{f:FuncId}{e:TypeId}(L:Lays2.n20 P ρ)(yZ:ρ.f 20=f)(au:∀ (vs:Array Value) (w:World),(callFunc f vs).run P w= .ok (.enter f vs) w)(l:List Int)(hlen:l.length<=9223372036854775807):
  cj P f [.row e 1 (l.map lx)] [.own 0] [false] [.row e 1 ((Lib.compact l).map lx)] (.own 0):=by
 subst yZ;have al:=Yh l;by_cases af:l=[]
 ·subst af;refine Qk au [] (Lib.compact []) [] [false] (.own 0) (λp cap=>.slice p (Lib.compact ([]:List Int)).length cap) (λ_ p cap w=>Any.slices_Compact_int_empty L p cap w) (λbI cap w hH ac _=> ?_) rfl rfl (bS _) (.inl rfl) (λA w aP p cap h=>.own h rfl);refine(Any.slices_Compact_int_empty L (some ⟨bI,0,none⟩) cap w).mono λfk w' he=> ?_;obtain⟨rfl,rfl⟩:=he;refine⟨rfl,0,#[],?_⟩;refine(Go.Sort.putRow_self (Value.int .i64) _ bI 0 #[] ?_).symm.trans ?_;all_goals simp_all
 ·refine Qk au l (Lib.compact l) (Lib.compact l++List.replicate (l.length- (Lib.compact l).length) 0) [false] (.own 0) (λp cap=>.slice p (Lib.compact l).length cap) (λh=>absurd h af) (λbI cap w hH ac iM=> ?_) (by grind) (by simp) al (.inl rfl) (λA w aP p cap h=>.own h rfl)
  ·refine(Any.slices_Compact_int L bI 0 cap l w hH hlen iM).mono λfk w' he=> ?_;obtain⟨rfl,q,rfl⟩:=he;exact⟨rfl,q,#[],(ain _).symm⟩
theorem Yi{dY:List Int}(ae:dY.Pairwise λx y=>x<=y):∀m,m<=dY.length->(Lib.compactUpTo dY.toArray m).Pairwise (λx y=>x<y)/\∀x,x∈Lib.compactUpTo dY.toArray m↔x∈dY.take m
 |0,_=>by simp[Lib.compactUpTo]
 |m+1,h=>by
  obtain⟨h1,ad⟩:=Yi ae m (by omega);have az:m<dY.length:=by omega
  have aA:dY.toArray[m]! =dY[m]:=by grind
  have gO:∀x,x∈dY.take m->x<=dY[m]:=λx ag=>by
   obtain⟨j,aq,rfl⟩:=fv ag;rw[List.getElem_take];rw[mW]at aq;exact my.1 ae j m (by omega) az (by omega)
  rw[Lib.compactUpTo_succ,fA az,aA];by_cases aQ:m=0
  ·subst aQ;have hk:Lib.keeps dY.toArray 0=true:=Lib.keeps_lt_one _ 0 (by omega)
   grind
  ·have K2:m-1<dY.length:=by omega
   have aG:dY.toArray[m-1]! =dY[m-1]:=by grind
   have cS:dY[m-1]∈dY.take m:=by
    refine List.mem_iff_getElem.2 ⟨m-1,by grind,?_⟩;simp
   by_cases he:dY[m]=dY[m-1]
   ·have hk:Lib.keeps dY.toArray m=false:=Lib.keeps_neg (by omega) (by omega)
    grind
   ·have hk:Lib.keeps dY.toArray m=true:=Lib.keeps_pos (by omega);rw[b3 hk];refine⟨I7.2 ⟨h1,by simp,λx ag y bk=> ?_⟩,λx=> ?_⟩
    ·rw[eJ]at bk;subst bk;have ag:=(ad x).1 ag;have aN:=gO x ag;obtain⟨j,aq,rfl⟩:=fv ag;rw[List.getElem_take]at aN⊢;rw[mW]at aq;have hle:dY[j]<=dY[m-1]:=by
      by_cases aip:j=m-1
      ·grind
      ·exact my.1 ae j (m-1) (by omega) K2 (by omega)
     grind
    grind
theorem Yj{dY:List Int}(ae:dY.Pairwise λx y=>x<=y): (Lib.compact dY).Pairwise (λx y=>x<y)/\∀x,x∈Lib.compact dY↔x∈dY:=by
 have h:=Yi ae dY.length (bS _);rw[gn]at h;exact h
open Go
def Ql(d:ak):Bool:=
 match d with
 | .v _=>true
 |_=>false
theorem aiq{T e:TypeId}{cs ds:List ak}{ay:Nat}{jS:List (List ak)}{R:List aX}(kept:List Bool)(h:cj P f [] [.da ds] [] [.row e ay jS] (.own 0))
  (aa:∀ (i:Nat) d,ds[i]?=some d->∃c,cs[i]?=some c/\(d= .aY\/(d=c/\qM c=true))) (an:∀r∈jS,∀d∈r,Ql d=true) (b1:∀o∈R,∀l,o≠ .cB l):
  cj P f (.cells T cs::R) [.aW 0 0] kept (.cells T cs::R) (.av ay jS false):=by
 refine⟨h.1,λA w os fL ai eV ab=> ?_⟩
 match fL,ab with
 | [v0],⟨Pm,_⟩=>
 obtain⟨g,eB,dI,hi,rfl⟩:=Pm.qR;have lN:dI=cs:=by
  have:=eV.loc;have aQ: (os.map (·.2))[0]?=some (.cells eB dI):=by grind
  grind
 subst lN;obtain⟨arr,bw,_,_,_,_,dD⟩:=xo eV.cW hi;have air:¬A g:=λax=>eV.out g ax ⟨0,_,_,hi,by simp,rfl⟩;have qh:b7 A w (.pointer (some ⟨g,0,none⟩)) (.da ds):=by
  refine F3 air (wX.1 bw).1 (λq d bX=> ?_);obtain⟨c,al,o4⟩:=aa q d bX;obtain⟨v,h1,ad,aN⟩:=dD q c al;refine⟨v,by rw[Addr.pA,ux];exact h1,ad,?_⟩;rcases o4 with rfl| ⟨rfl,eF⟩
  ·exact .aY
  ·exact(aN.plain eF).2.cA (dy.ic (λ_ ac=>.inl ac))
 have fO:∀b,bh A [] b->A b:=λb ac=>by
  rcases ac with ac| ⟨i,x,o,hi,_⟩;all_goals grind
 have ais:uD A [] [] w:=⟨rfl,λi x o hi=>by grind,λi j x o y aT b hi=>by simp,λb _ ⟨i,x,o,hi,_⟩=>by grind⟩
 refine(h.2 A w [] [.pointer (some ⟨g,0,none⟩)] ai ais ⟨.bQ (qh.cA (dy.ic fO)),aj⟩).mono λfk w' he=> ?_;obtain⟨v',hM,rfl,DF,v7,tK,nB,_⟩:=he;have rL:∀b,b<w.heap.size->w'.heap[b]?=w.heap[b]?:=λb ac=>tK.block b ac (λ⟨i,x,o,hi,_⟩=>by grind);refine⟨v',os,rfl,?_,?_,⟨tK.os,tK.tape,tK.output,tK.size,λk hk _=>rL k hk⟩,λb ac=>.inl ac,λi x o _ ad=>⟨o,ad⟩⟩
 ·refine⟨eV.loc,λi x o ait=> ?_,eV.inj,eV.out⟩;have aH:=eV.cW i x o ait;have aiu:∀l,o≠ .cB l:=λl oC=>by
   have aQ: (os.map (·.2))[i]?=some o:=by grind
   rw[eV.loc]at aQ
   grind
  have hk:=aH.cA (dz:=bh A os) (aP:=os) (w':=w') ⟨tK.size,λ_ _ ac=>ac,λb ac _=>rL b ac⟩ (λi x o h=>⟨o,h,by cases o<;>simp[en]⟩) (λb ih ac=>rL b (aH.iY ih ac).2);exact hk.yC aiu (λb _ _=>.inr trivial)
 ·obtain⟨xp,aiv⟩:∃xp,hM=[(xp,aX.row e ay jS)]:=by
   have:=DF.loc
   simp_all
  subst aiv;have nd:=v7.qS (i:=0) rfl;subst nd;have aH:=DF.cW 0 v' _ rfl;obtain⟨xs,b0,cC,ao⟩:=wa aH;have mb:hU (bh A os) w' xs jS ay:=⟨ao.len,ao.jS,ao.eE,λk j r d hk aq=>by
   obtain⟨v,ab,hi⟩:=ao.hr k j r d hk aq;have eF:=an r (fq hk) d (fq aq);cases d with
   |v y=>
    obtain⟨rfl,h1⟩:=(bg.bQ (os:=[]) hi).j7;exact⟨_,ab,.v h1⟩
   |_=>simp[Ql]at eF⟩
  have qj:lK (bh A os) os (U4 w') w' v' (.row e ay jS):=rI (Ds aH) b0 cC mb;refine .bQ (J6 qj (λ_ ac=>ac) (λb ac aiw=> ?_));have pE:w.heap.size<=b:=by
   rcases nB b ⟨0,_,_,rfl,by simp,ac⟩with⟨i,x,o,hi,_⟩|ad;all_goals grind
  rcases aiw with ad| ⟨i,x,o,hi,ih,cx⟩
  ·grind
  ·have:=((eV.cW i x o hi).iY ih cx).2;omega
theorem aix{T e:TypeId}{cs dI:List ak}{off ay:Nat}{R:List aX}{args:List ak}{kept:List Bool}{bK:List aX}{d:ak}
  (h:cj P f (.cells T dI:: (R++ [.row e (ay+1) []])) args kept bK d) (wz:cs[off]?=some .ar) (lN:dI=cs.set off (.own (R.length+1))) (n:Nat):
  cj P f (.cells T cs::R) args (kept.take n) bK d:=by
 refine⟨h.1,λA w os fL ai eV ab=> ?_⟩;obtain⟨k6,mh,rfl,b1⟩:∃k6 mh,os=(k6,aX.cells T cs)::mh/\mh.map (·.2)=R:=by
  have:=eV.loc
  match os,this with
  | (x,o)::r,this=>
   grind
 have Yk:mh.length=R.length:=by grind
 have K3:∀ (i:Nat) x o,((k6,aX.cells T dI):: (mh++ [(Value.slice none 0 0,aX.row e (ay+1) [])]))[i]?=some (x,o)->(i=0/\x=k6/\o= .cells T dI)\/(i≠0/\((k6,aX.cells T cs)::mh)[i]?=some (x,o))\/(i=mh.length+1/\x= .slice none 0 0/\o= .row e (ay+1) []):=by
  grind
 have jn:uI ((k6,aX.cells T cs)::mh) ((k6,aX.cells T dI):: (mh++ [(Value.slice none 0 0,aX.row e (ay+1) [])])):=by
  intro i x o hi;cases i with
  |zero=>simp at hi;obtain⟨rfl,rfl⟩:=hi;exact⟨_,rfl,rfl⟩
  |succ i=>
   simp only[CD]at hi⊢;have aB:=(eI.1 hi).1;exact⟨o,by grind,by cases o<;>simp[en]⟩
 have kt:∀b,hp ((k6,aX.cells T dI):: (mh++ [(Value.slice none 0 0,aX.row e (ay+1) [])])) b->hp ((k6,aX.cells T cs)::mh) b:=by
  rintro b ⟨i,x,o,hi,ih,ac⟩;rcases K3 i x o hi with⟨rfl,rfl,rfl⟩| ⟨_,ad⟩| ⟨_,rfl,_⟩
  ·exact⟨0,_,_,rfl,by simp,ac⟩
  ·exact⟨i,x,o,ad,ih,ac⟩
  ·simp[bI]at ac
 have auE:∀b,hp ((k6,aX.cells T cs)::mh) b->hp ((k6,aX.cells T dI):: (mh++ [(Value.slice none 0 0,aX.row e (ay+1) [])])) b:=by
  rintro b ⟨i,x,o,hi,ih,ac⟩;obtain⟨aT,bp,hk⟩:=jn i x o hi;exact⟨i,x,aT,bp,by grind,ac⟩
 have fO:∀b,bh A ((k6,aX.cells T dI):: (mh++ [(Value.slice none 0 0,aX.row e (ay+1) [])])) b->bh A ((k6,aX.cells T cs)::mh) b:=by
  rintro b (ac|ac)
  ·exact .inl ac
  ·exact .inr (kt b ac)
 have hk:dy (bh A ((k6,aX.cells T cs)::mh)) (bh A ((k6,aX.cells T dI):: (mh++ [(Value.slice none 0 0,aX.row e (ay+1) [])]))) w w:=dy.ic fO;have DF:uD A ((k6,aX.cells T dI):: (mh++ [(Value.slice none 0 0,aX.row e (ay+1) [])])) (.cells T dI:: (R++ [.row e (ay+1) []])) w:=by
  refine⟨by grind,λi x o hi=> ?_,λi j x o y aT b hi aq wq kw nB gG=> ?_,λb ac bw=>eV.out b ac (kt b bw)⟩
  ·rcases K3 i x o hi with⟨rfl,rfl,rfl⟩| ⟨_,ad⟩| ⟨_,rfl,rfl⟩
   ·obtain⟨g,arr,ag,ct,bw,ae,br,ao⟩:=eV.cW 0 _ _ rfl;refine⟨g,arr,ag,ct,bw,by grind,br,λj v d ab aa=> ?_⟩;rw[lN,CF]at aa;split at aa
    ·rename_i aq;subst aq;split at aa
     ·cases aa;have:=(ao _ v _ ab wz).o0;subst this;refine .own (e:=e) (ay:=ay+1) (es:=[]) ?_ rfl
      grind
     grind
    ·exact(ao j v d ab aa).cA hk jn
   ·exact(eV.cW i x o ad).cA hk jn (λ_ _ _=>rfl)
   ·exact⟨λb ac=>by simp[bI]at ac,[],Jh w 0 e (ay+1),N3 _,by simp,by simp,by simp⟩
  ·have f1:∃dx,((k6,aX.cells T cs)::mh)[i]?=some (x,dx)/\dx≠ .bn:=by
    rcases K3 i x o hi with⟨rfl,rfl,rfl⟩| ⟨_,ad⟩| ⟨_,rfl,_⟩
    ·simp
    ·grind
    ·simp[bI]at nB
   have f2:∃dx,((k6,aX.cells T cs)::mh)[j]?=some (y,dx)/\dx≠ .bn:=by
    rcases K3 j y aT aq with⟨rfl,rfl,rfl⟩| ⟨_,ad⟩| ⟨_,rfl,_⟩
    ·simp
    ·grind
    ·simp[bI]at gG
   obtain⟨dx,g1,ie⟩:=f1;obtain⟨fT,g2,lq⟩:=f2;exact eV.inj i j x dx y fT b g1 g2 ie lq nB gG
 have cF:∀ (vs:List Value) (ds:List ak),xg (bh A ((k6,aX.cells T cs)::mh)) ((k6,aX.cells T cs)::mh) w vs ds->xg (bh A ((k6,aX.cells T dI):: (mh++ [(Value.slice none 0 0,aX.row e (ay+1) [])]))) ((k6,aX.cells T dI):: (mh++ [(Value.slice none 0 0,aX.row e (ay+1) [])])) w vs ds:=by
  intro vs;induction vs with
  |nil=>intro ds h;cases ds<;>exact h
  |cons v vs a1=>
   intro ds h;cases ds with
   |nil=>exact h
   |cons d ds=>exact⟨h.1.cA hk jn,a1 ds h.2⟩
 refine(h.2 A w _ fL ai DF (cF fL args ab)).mono λfk w' he=> ?_;obtain⟨v',hM,rfl,O8,v7,tK,nB,ss⟩:=he;refine⟨v',hM,rfl,O8,v7,⟨tK.os,tK.tape,tK.output,tK.size,λk hk aV=>tK.block k hk (λbw=>aV (kt k bw))⟩,λb ac=> ?_,λi x o P9 hi=> ?_⟩;all_goals grind
open Go
theorem aR{l:List ak}{r:ak}{K:List ak->ak->Prop}{R:Prop}(h:bq P f l r)(k:K l r): (∃a b,m4 l a/\bq P f a b/\K a b)\/R:=.inl ⟨_,_,Aq _,h,k⟩
theorem ea{l:List ak}{r:ak}{K:List ak->ak->Prop}{g:Prop}(h:bq P f l r)(k:K l r):∃a b,m4 l a/\(g->bq P f a b)/\K a b:=⟨_,_,Aq _,λ_=>h,k⟩
theorem Yl{loc:List aX}{ρ:Nat->Nat}:∀ {p:List Nat} {L:List aX},p.map (bN loc)=L.map (gL ρ)->sn loc ρ p L
 | [],[],_=>trivial
 |_::_,_::_,h=>by
  simp only[oi,List.cons.injEq]at h;exact⟨by rw[h.1];exact .refl,Yl h.2⟩
 | [],_::_,h=>by cases h
 |_::_,[],h=>by cases h
theorem bO{L bK:List aX}{cH a0:List ak}{kept:List Bool}{d:ak}{p:List Nat}{loc:List aX}{R:List aX->List aX->Nat->Nat}{C:List aX->List ak->List Bool->List aX->ak->Bool}{K:List aX->List ak->List Bool->List aX->ak->Prop}(h:cj P f L a0 kept bK d)(k:K L a0 kept bK d)(c:C L a0 kept bK d=true:=by rfl)(o:p.map (bN loc)=L.map (gL (R L bK)):=by rfl)(e:cH=a0.map (k2 (R L bK)):=by rfl):∃L a0 kept bK d,cj P f L a0 kept bK d/\C L a0 kept bK d=true/\sn loc (R L bK) p L/\m4 cH (a0.map (k2 (R L bK)))/\K L a0 kept bK d:=⟨_,_,_,_,_,h,c,Yl o,by rw[e];exact Aq _,k⟩
theorem bl{a b:Prop}(h:b): (a->a)/\b:=⟨λh=>h,h⟩
theorem ch{a b:Prop}(h:b)(k:a:=by kernel_rfl):a/\b:=⟨k,h⟩
theorem dE{a b c:Prop}(h:c): ((a->a)/\(b->b))/\c:=⟨⟨λh=>h,λh=>h⟩,h⟩
end Go.Lift
