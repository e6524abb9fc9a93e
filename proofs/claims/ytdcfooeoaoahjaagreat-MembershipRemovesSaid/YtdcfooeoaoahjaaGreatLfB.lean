/- A data-level logic for the model: what a body does to data; its soundness (part LfB). No conditions. -/
import Derived.Test.YtdcfooeoaoahjaaGreatLfA
set_option linter.unusedSimpArgs false
set_option linter.unusedVariables false
set_option maxRecDepth 100000
set_option maxHeartbeats 16000000
namespace Go.Lift
open Go
section
variable {P:Program} {ag:dH} {aE:Nat->Prop} {a8:e5} {n:Nat} {os:c2} {s:bK} {a:Act} {w:World} {o:Oper} {K:bK->Prop} {A:Nat->Prop} {B:Nat}
theorem WT:∀ (l:List Operand) {os:c2} {s:bK} {K:bK->Prop},ch aE a8 n os s a w->O2 s l K->∃aT s',ch aE a8 n aT s' a w/\K s'
 | [],os,s,K,h,ap=>⟨os,s,h,ap⟩
 |x::r,os,s,K,h,ap=>by
  obtain⟨aT,s',bp,ap,_,_⟩:=xI _ h (iv.1 ap);exact WT r bp ap
theorem hS.set{cells cells':List Value}{es:List (List ak)}{aB k off:Nat}{vs:List Value}{gd ds:List ak}(h:hS A w cells es aB)(hk:es[k]?=some gd)(az:off+vs.length<=aB)(ji:vs.length=ds.length)(br:∀v∈vs,v.oneCell'=true)
  (an:∀ (i:Nat) v d,vs[i]?=some v->ds[i]?=some d->b8 A w v d) (hlen:cells'.length=cells.length) (aj:∀j,cells'[j]?=if k*aB+off<=j/\j<k*aB+off+vs.length then vs[j- (k*aB+off)]? else cells[j]?):
  hS A w cells' (es.set k (jz gd off ds)) aB:=by
 have gl:=(eL.1 hk).1;have pN:=h.jP _ (fo hk);refine⟨by rw[hlen,h.len];simp,λr ao=> ?_,λv ab=> ?_,λeQ j r d hp aq=> ?_⟩
 ·rcases List.mem_or_eq_of_mem_set ao with ao|rfl
  ·exact h.jP r ao
  ·rw[J7];omega
 ·obtain⟨j,aq,rfl⟩:=e8 ab;have h1:=eP aq;rw[aj j]at h1;split at h1
  ·grind
  ·exact h.eg _ (fo h1)
 ·by_cases e:eQ=k
  ·subst e;rw[oS gl]at hp;cases hp;have gT:=(eL.1 aq).1;rw[J7]at gT;rw[J8 _ _ _ _ (by omega)]at aq;rw[aj];split at aq
   ·rename_i c;rw[b6 (by omega)];have af1:j-off<vs.length:=by omega
    refine⟨vs[j-off],?_,an _ _ d (eP af1) aq⟩
    grind
   ·rename_i c;rw[bo (by omega)];exact h.hq eQ j gd d hk aq
  ·rw[v1 (λe'=>e e'.symm)]at hp;have hc:=h.jP _ (fo hp);have gT:=(eL.1 aq).1;rw[aj];rw[bo ?_]
   ·exact h.hq eQ j r d hp aq
   ·intro c;rcases Nat.lt_or_gt_of_ne e with ax|ax
    ·have h1: (eQ+1) *aB<=k*aB:=kJ _ (by omega)
     grind
    ·have h1: (k+1) *aB<=eQ*aB:=kJ _ (by omega)
     grind
theorem KC{ρ:Operand->ak}{size:Nat}{K:List (List ak)->Prop}(fx:0<size):
  ∀ (parts:List (Nat×Operand)) (es:List (List ak)) (cells:Array Value),hS A w cells.toList es size->(∀p∈parts,bg A os w (a.eval p.2) (ρ p.2))->tx ρ size parts es K->
   ∃cells' fG,K fG/\Instr.fill (λi=>some (i*size,size)) cells (parts.map λp=>(p.1,a.eval p.2))=some cells'/\hS A w cells'.toList fG size/\fG.length=es.length
 | [],es,cells,ao,_,h=>⟨cells,es,h,by rfl,ao,rfl⟩
 | (i,x)::r,es,cells,ao,ah,h=>by
  have pL:=ah (i,x) (by simp);have h:=iv.1 h;split at h
  ·rename_i ac;simp only[cq]at ac;obtain⟨⟨cY,cZ⟩,iN⟩:=ac;have cY:=fz cY;have cZ:i<es.length:=nz cZ;have ez:=A0 iN;have xK:∀b ck,ρ x≠ .ca b ck:=by
    intro b ck e;have:=ez (.ca b ck) (by rw[e];simp[dc]);simp[q0]at this
   have DT:∀l,ρ x≠ .bd l:=by
    intro l e;have:=ez (.bd l) (by rw[e];simp[dc]);simp[q0]at this
   have GH:ρ x≠ .a1:=by
    intro e;have:=ez .a1 (by rw[e];simp[dc]);simp[q0]at this
   obtain⟨af,br,an⟩:=bg.cells pL xK DT GH;have cE: (a.eval x).cells.size=size:=by grind
   have Wp:cells.size=es.length*size:=by rw[<-ao.len];simp
   have cL: (i+1) *size<=es.length*size:=kJ _ (by omega);rw[uG,FV]at cL;have pO:es[i]?=some es[i]:=eP cZ;have pN:=ao.jP _ (fo pO);have auS:=λj=>(Gv (a.eval x).cells.toList 0 (i*size) cells j (by grind)).1;have lP:=(Gv (a.eval x).cells.toList 0 (i*size) cells 0 (by grind)).2;have auT: ((a.eval x).cells.zipIdx.foldl (λ(cs:Array Value) (p:Value×Nat)=>cs.setIfInBounds (i*size+p.2) p.1) cells)=((a.eval x).cells.toList.zipIdx 0).foldl (λ(cs:Array Value) (p:Value×Nat)=>cs.setIfInBounds (i*size+p.2) p.1) cells:=by
    rw[<-Ob];simp
   have af2:jz es[i] 0 (dc (ρ x))=dc (ρ x):=by
    apply rJ;intro j;rw[J8 _ _ _ _ (by omega)]
    grind
   have l9:=ao.set (cells':=((a.eval x).cells.zipIdx.foldl (λ(cs:Array Value) (p:Value×Nat)=>cs.setIfInBounds (i*size+p.2) p.1) cells).toList) (off:=0) pO (by grind) af br
    (λj v d ab aa=>(bg.plain (an j v d ab aa) (ez d (fo aa))).2) (by grind) (λj=>by
     grind)
   rw[af2]at l9;obtain⟨cells',fG,ap,qq,kP,hlen⟩:=KC fx r _ _ l9 (λp an=>ah p (by grind)) h;refine⟨cells',fG,ap,?_,kP,by grind⟩;simp only[om,Instr.fill]
   grind
  grind
theorem af3(ay:dv P ag=true){t e:TypeId}{m:Nat}{parts:Array (Nat×Operand)}{Q:Exit->Act->World->Prop}(aH:o.op= .buildSlice t m parts)(hk: (aF ag t).k= .fc e)(ae: (aF ag e).size≠0)(hle:m* (aF ag e).size<=16777216)
  (h:ch aE a8 n os s a w) (aa:∀t,o.dst=some t->t<n) (ap:tx (bG s) (aF ag e).size parts.toList (List.replicate m (aF ag e).zero) λes=>gq ⟨s.env,s.loc++ [.row e (aF ag e).size es]⟩ o.dst (.own s.loc.length) K):o.wp P a w (dN aE a8 n K) Q:=by
 obtain⟨i,hi,cE,iY,z,bx,nT,nf⟩:=rT ay ae;have hu:=lL ay hk;obtain⟨h1,ad,aN⟩:=uV (A:=bi aE os) (w:=w) nT;have xH:q9 (bi aE os) os w z.cells (aF ag e).zero:=⟨by omega,ad,λi v d ab aa=>.bT (aN i v d (by grind) aa)⟩
 have fx:=tn ae;have fj:=GF (N:=m) (m:=m) xH (λi v d ab aa=>aN i v d (by grind) aa) (by omega) (bP _);rw[nf]at fj;have xG: (madeCells z.cells (m* (aF ag e).size)).toList.length=m* (aF ag e).size:=(CW (xs:=madeCells z.cells (m* (aF ag e).size))).trans (Db _ _);rw[sr (by omega)]at fj;obtain⟨cells',fG,ap,qq,kP,hlen⟩:=KC fx parts.toList _ _ fj (λp _=>h.bG p.2) ap;rw[FO]at hlen;have lN:cells'.size=m* (aF ag e).size:=by have:=kP.len;grind
 have aA:m<=maxLen:=by
  have ad:m*1<=m* (aF ag e).size:=JG _ fx;simp only[maxLen];omega
 have b2:=OQ (base:=0) (e:=e) (size:=(aF ag e).size) w cells' m (bX _) aA lN;have an:=DN (x:=.slice (some ⟨w.heap.size,0,none⟩) m m) (es:=fG) h (uJ w (.cells cells' e) none) (λb ac=>by simp[bJ]at ac;omega) (by rw[hlen];omega) fx kP;refine jD (x:=.slice (some ⟨w.heap.size,0,none⟩) m m) (w':=w.alloc (.cells cells' e)) ?_ (dN.put an aa (by rw[h.len];exact .own y3 rfl) ap);have uX: (parts.map λ(i,x)=>(i,a.eval x)).toList=parts.toList.map λp=>(p.1,a.eval p.2):=by simp
 have y6:¬(m* (aF ag e).size>2^24):=by omega
 by_cases u2:m* (aF ag e).size=0
 ·have y7:Instr.fill (λi=>some (i* (aF ag e).size,(aF ag e).size)) (madeCells #[] (m* (aF ag e).size)) (parts.toList.map λp=>(p.1,a.eval p.2))=some cells':=by
   rw[<-qq];congr 1;rw[u2];simp[madeCells]
  simp only[execOp,aH,Instr.buildSlice,dY,gE hu,dT,jQ ay ae,bo y6,b6 u2,ey,uX];simp only[madeCells]at y7;simp only[y7,dY,newRow,wc,dT,ey,wa]
 ·have u3: (zeroValue e).run P w= .ok z w:=by simp[zeroValue,typeInfo,hi,bx]
  simp only[madeCells]at qq;simp only[execOp,aH,Instr.buildSlice,dY,gE hu,dT,jQ ay ae,bo y6,bo u2,u3,ey,uX];simp only[qq,dY,newRow,wc,dT,ey,wa]
theorem af4{i:Nat}{x:Value}{bD gR:aZ}(hi:os[i]?=some (x,bD))(hk:er bD gR):uU os (os.set i (x,gR)):=by
 intro j z aU aq;by_cases e:j=i
 ·grind
 ·exact⟨aU,by grind,by cases aU<;>simp[er]⟩
theorem KD{w':World}{i:Nat}{x:Value}{bD gR:aZ}(hi:os[i]?=some (x,bD))(aa:bD≠ .bm)(aw:w.grownBy w' (bJ x)):dx (bi aE os) (bi aE (os.set i (x,gR))) w w':=by
 refine⟨aw.size,λb ac ab=> ?_,λb ac aW=>aw.block b ac (λe=>aW (.inr ⟨i,_,_,hi,aa,e.symm⟩))⟩;rcases ab with ab| ⟨j,z,aU,aq,dp,cy⟩
 ·exact .inl ab
 ·by_cases e:j=i
  ·subst e;rw[oS (eL.1 hi).1]at aq;cases aq;exact .inr ⟨_,_,_,hi,aa,cy⟩
  ·rw[v1 (λe'=>e e'.symm)]at aq;exact .inr ⟨j,z,aU,aq,dp,cy⟩
theorem af5(ay:dv P ag=true){t ty:TypeId}{x y:Operand}{i k off g m c aB:Nat}{es:List (List ak)}{gd:List ak}{d:ak}{Q:Exit->Act->World->Prop}(aH:o.op= .store t x y)(h:ch aE a8 n os s a w)(aa:∀t,o.dst=some t->t<n)
  (ae: (aF ag t).size≠0) (ah:a.eval x= .pointer (some ⟨g,k*aB+off,none⟩)) (hi:os[i]?=some (.slice (some ⟨g,0,none⟩) m c,.row ty aB es)) (e:bG s y=d) (ez:pB (dc d)=true) (pO:es[k]?=some gd)
  (cE: (dc d).length=(aF ag t).size) (ht:off+(dc d).length<=aB) (ap:gq ⟨s.env,gr s.loc i (.row ty aB (es.set k (jz gd off (dc d))))⟩ o.dst (.ca false (.v (.bool false))) K):o.wp P a w (dN aE a8 n K) Q:=by
 have DR:=A0 ez;have bn:=h.bG y;rw[e]at bn;have xK:∀b ck,d≠ .ca b ck:=by
  intro b ck e;subst e;have:=DR (.ca b ck) (by simp[dc]);simp[q0]at this
 have DT:∀l,d≠ .bd l:=by
  intro l e;subst e;have:=DR (.bd l) (by simp[dc]);simp[q0]at this
 have GH:d≠ .a1:=by
  intro e;subst e;have:=DR .a1 (by simp[dc]);simp[q0]at this
 obtain⟨af,br,an⟩:=bn.cells xK DT GH;obtain⟨xs,b2,GI,ao⟩:=ww (h.cV _ _ _ hi);rcases b2.2 with⟨ab,_⟩| ⟨dV,cap,cur,ab,cr,bC,rV,qs,lN,Ku⟩
 ·cases ab
 ·cases ab;have hs: (a.eval y).cells.size=(dc d).length:=by omega
  have gl:=(eL.1 pO).1;have h1: (k+1) *aB<=es.length*aB:=kJ _ (by omega);rw[uG,FV]at h1;have ad:es.length*aB<=c*aB:=kJ _ rV;have GB:k*aB+off+(a.eval y).cells.toList.length<=cur.toList.length:=by grind
  have et:=WC (P:=P) (w:=w) ay aH ae ah (by omega) br bC (by omega);have aw:w.grownBy (w.setRow g (cur.toList.take (k*aB+off)++(a.eval y).cells.toList++cur.toList.drop (k*aB+off+(a.eval y).cells.toList.length)).toArray) (bJ (.slice (some ⟨g,0,none⟩) es.length c)):=Kq;refine Wx et (dN.put (os:=os.set i (.slice (some ⟨g,0,none⟩) es.length c,.row ty aB (es.set k (jz gd off (dc d))))) (h.Gz hi (gR:=.row ty aB (es.set k (jz gd off (dc d)))) ⟨rfl,rfl⟩ (by simp) (by simp) aw ?_) aa GA ap);have ls:=KD (aE:=aE) (gR:=.row ty aB (es.set k (jz gd off (dc d)))) hi (by simp) aw;have PJ:xs.length=es.length*aB:=b2.1;have l9:=ao.set (cells':=xs.take (k*aB+off)++(a.eval y).cells.toList++xs.drop (k*aB+off+(a.eval y).cells.toList.length)) (off:=off) pO (by omega) af br
   (λj v d ab aa=>(bg.plain (an j v d ab aa) (DR d (fo aa))).2) (WB (by omega)) (λj=>Kr (by omega))
  refine rU (H:=a8) (DM (h.cV _ _ _ hi)) (xs:=xs.take (k*aB+off)++(a.eval y).cells.toList++xs.drop (k*aB+off+(a.eval y).cells.toList.length)) ⟨by grind,.inr ⟨g,c,_,by simp,cr,JO w g cur _ ty _ bC,by grind,qs,?_,?_⟩⟩ GI (l9.cC ls)
  ·grind
  ·rw[Oy];apply rJ;intro j;have qt:∀j,j<es.length*aB->xs[j]?=cur.toList[j]?:=by
    grind
   rw[Kr (by omega),rK];split
   ·rename_i aq;simp only[];rw[Kr GB]
    grind
   grind
theorem af6(ay:dv P ag=true){t ty e:TypeId}(hk: (aF ag t).k= .fc e)(ae: (aF ag e).size≠0){g qw Ba xL c:Nat}{cI:Addr}{cur:Array Value}{T:TypeId}{cs:List Value}(aw:w.heap[g]?=some (.cells cur T (0,0)))
  (aW:cs.length=Nat.min xL qw* (aF ag e).size) (ix:∀ (j:Nat) v,cs[j]?=some v->w.cell? (cI.add j)=some v) (ht:cs.length<=cur.size) (h1:∀v∈cs,v.oneCell'=true):
  (Builtin.copy_ #[t,t] ty #[.slice (some ⟨g,0,none⟩) qw Ba,.slice (some cI) xL c]).run P w= .ok (.int .i64 (Nat.min xL qw:Nat)) (w.setRow g (cs++cur.toList.drop cs.length).toArray):=by
 have hu:=lL ay hk;have af:=OT (P:=P) w cI cs ix;rw[aW]at af;have b3:=OU P g 0 T cs 0 cur w aw (by omega) h1;simp only[uI,xh,OG,nS]at b3;simp[Builtin.copy_,gE hu,Builtin.lenOf,Builtin.firstCells,jQ ay ae,af,b3,goInt]
theorem af7{t eD:TypeId}{x y:Operand}{args:Array Operand}{fg:Array TypeId}(aH:o.op= .call {callee:=.builtin .copy,args:=args,argTypes:=fg})(bb:args.toList=[x,y])(iO:fg.toList=[t,eD])(lO:t=eD){r:Value}{w':World}
  (ao: (Builtin.copy_ #[t,t] o.type #[a.eval x,a.eval y]).run P w= .ok r w'): (execOp a.eval o).run P w= .ok (.value r) w':=by
 obtain rfl:args= #[x,y]:=by grind
 subst lO;obtain rfl:fg= #[t,t]:=by grind
 simp only[execOp,aH,resolve,invoke,builtin,dY,ey,dT,C5,om,xg,ao]
theorem WU(ay:dv P ag=true){t ty e:TypeId}(hk: (aF ag t).k= .fc e)(ae: (aF ag e).size≠0){cI lM:Option Addr}{qw Ba xL c:Nat}(bx:Nat.min xL qw=0):
  (Builtin.copy_ #[t,t] ty #[.slice cI qw Ba,.slice lM xL c]).run P w= .ok (.int .i64 (Nat.min xL qw:Nat)) w:=by
 have hu:=lL ay hk;cases cI<;>cases lM<;>simp[Builtin.copy_,gE hu,Builtin.lenOf,Builtin.firstCells,jQ ay ae,bx,goInt,storeCells,loadCells,loadCellsFrom]
theorem PK(ay:dv P ag=true){t eD e:TypeId}{x y:Operand}{args:Array Operand}{fg:Array TypeId}{Q:Exit->Act->World->Prop}(aH:o.op= .call {callee:=.builtin .copy,args:=args,argTypes:=fg})(bb:args.toList=[x,y])(iO:fg.toList=[t,eD])(lO:t=eD)
  (hk: (aF ag t).k= .fc e) (ae: (aF ag e).size≠0) (h:ch aE a8 n os s a w) (aa:∀t,o.dst=some t->t<n) (ap:F7 ag e s o.dst (bG s x) (bG s y) K):o.wp P a w (dN aE a8 n K) Q:=by
 unfold F7 at ap;rw[h.loc]at ap;obtain⟨ys,mF,ap,bn⟩:=PB ae h.cV (h.bG y) ap;have ah:=h.bG x;have fx:=tn ae;have exec:=λ{r:Value} {w':World}=>af7 (P:=P) (w:=w) (a:=a) (r:=r) (w':=w') aH bb iO lO;have Kx:∃lM fA,a.eval y= .slice lM ys.length fA:=by
  grind
 split at ap
 ·rename_i eb;rw[eb]at ah;have kN:=ah.o0;obtain⟨lM,fA,k2⟩:=Kx;have et:=WU (P:=P) (w:=w) (ty:=o.type) ay hk ae (cI:=none) (lM:=lM) (qw:=0) (Ba:=0) (xL:=ys.length) (c:=fA) (by simp);have WV:Nat.min ys.length 0=0:=by simp
  rw[WV]at et;exact jD (exec (by grind)) (dN.put h aa (.bT (.v rfl)) ap)
 ·rename_i i eb;rw[eb]at ah;split at ap
  ·rename_i bc WW gm af;split at ap
   ·rename_i ac;simp only[cq]at ac;have nD:=fz ac.1;have hf:=fz ac.2;obtain⟨x',hi⟩:=kO af (by simp);have nd:=ah.q6 hi;subst nd;subst nD;subst hf;rw[<-h.loc]at ap;obtain⟨xs,b2,_,j4⟩:=ww (h.cV _ _ _ hi);by_cases bx:Nat.min ys.length gm.length=0
    ·obtain⟨lM,fA,k2⟩:=Kx;have u4:∃cI c,a.eval x= .slice cI gm.length c:=by
      rcases A4 b2 with⟨ab,rfl,_⟩| ⟨g,Kw,ab,_⟩;all_goals grind
     obtain⟨cI,c,kN⟩:=u4;have et:=WU (P:=P) (w:=w) (ty:=o.type) ay hk ae (cI:=cI) (Ba:=c) (lM:=lM) (c:=fA) bx;have heq:ys.take gm.length++gm.drop ys.length=gm:=by
      grind
     rw[heq]at ap;refine jD (exec (by rw[kN,k2];omega)) (dN.put (os:=os) (s:=⟨s.env,gr s.loc i (.row bc (aF ag bc).size gm)⟩) ?_ aa (.bT (.v rfl)) ap);have ie:gr s.loc i (.row bc (aF ag bc).size gm)=s.loc:=by
      rw[mD,h.loc];apply rJ
      grind
     simp_all
    ·rcases bn with⟨k2,rfl⟩| ⟨cI,c,news,k2,ao,aj⟩
     ·grind
     ·rcases b2.2 with⟨ab,ox⟩| ⟨g,cap,cur,ab,cr,bC,rV,qs,lN,Ku⟩
      ·grind
      ·have WX:Nat.min ys.length gm.length* (aF ag bc).size<=news.length:=by rw[ao.len];exact kJ _ (Nat.min_le_left _ _)
       have auU:Nat.min ys.length gm.length* (aF ag bc).size<=gm.length* (aF ag bc).size:=kJ _ (Nat.min_le_right _ _);have iL:gm.length* (aF ag bc).size<=cap* (aF ag bc).size:=kJ _ rV;have iy: (news.take (Nat.min ys.length gm.length* (aF ag bc).size)).length=Nat.min ys.length gm.length* (aF ag bc).size:=by grind
       have et:=af6 (P:=P) (w:=w) (ty:=o.type) (qw:=gm.length) (Ba:=cap) (xL:=ys.length) (c:=c) (cI:=cI) ay hk ae bC (cs:=news.take (Nat.min ys.length gm.length* (aF ag bc).size)) iy
        (λj v aq=>aj j v (by grind)) (by omega) (λv ab=>ao.eg v (nR ab))
       have hd:=hi;rw[ab]at hd;have aw:w.grownBy (w.setRow g (news.take (Nat.min ys.length gm.length* (aF ag bc).size)++cur.toList.drop (news.take (Nat.min ys.length gm.length* (aF ag bc).size)).length).toArray) (bJ (.slice (some ⟨g,0,none⟩) gm.length cap)):=Kq;refine jD (exec (by grind)) (dN.put (os:=os.set i (.slice (some ⟨g,0,none⟩) gm.length cap,.row bc (aF ag bc).size (ys.take gm.length++gm.drop ys.length))) (h.Gz hd (gR:=.row bc (aF ag bc).size (ys.take gm.length++gm.drop ys.length)) ⟨rfl,rfl⟩ (by simp) (by simp) aw ?_) aa (.bT (.v rfl)) ap);have ls:=KD (aE:=aE) (gR:=.row bc (aF ag bc).size (ys.take gm.length++gm.drop ys.length)) hd (by simp) aw;have hlen: (ys.take gm.length++gm.drop ys.length).length=gm.length:=by grind
       have af8:∀ {dZ:List Value} {fs:List (List ak)} {q:Nat},hS (bi aE os) w dZ fs (aF ag bc).size->hS (bi aE os) w (dZ.take (q* (aF ag bc).size)) (fs.take q) (aF ag bc).size:=by
        intro dZ fs q bx;refine⟨?_,λr ao=>bx.jP r (nR ao),λv ab=>bx.eg v (nR ab),λk j r d hk aq=> ?_⟩
        ·rw[kZ,kZ,bx.len];simp
        ·rw[rK]at hk;split at hk
         ·rename_i WY;obtain⟨v,ab,hi⟩:=bx.hq k j r d hk aq;have hc:=bx.jP _ (fo hk);have gT:=(eL.1 aq).1;have b5: (k+1) * (aF ag bc).size<=q* (aF ag bc).size:=kJ _ (by omega)
          grind
         grind
       have af9:∀ {dZ:List Value} {fs:List (List ak)} {q:Nat},hS (bi aE os) w dZ fs (aF ag bc).size->hS (bi aE os) w (dZ.drop (q* (aF ag bc).size)) (fs.drop q) (aF ag bc).size:=by
        intro dZ fs q bx;refine⟨by rw[sp,sp,bx.len,OM],λr ao=>bx.jP r (C7 ao),λv ab=>bx.eg v (C7 ab),λk j r d hk aq=> ?_⟩;rw[qV]at hk;obtain⟨v,ab,hi⟩:=bx.hq _ j r d hk aq
        grind
       have PL:=(af8 (q:=Nat.min ys.length gm.length) ao).append (af9 (q:=ys.length) j4);have aC:ys.take (Nat.min ys.length gm.length)=ys.take gm.length:=by
        grind
       rw[aC]at PL;refine rU (H:=a8) (DM (h.cV _ _ _ hd)) (xs:=news.take (Nat.min ys.length gm.length* (aF ag bc).size)++xs.drop (ys.length* (aF ag bc).size)) ⟨by rw[PL.len],.inr ⟨g,cap,_,by grind,cr,JO w g cur _ bc _ bC,by omega,qs,?_,?_⟩⟩ fx (PL.cC ls)
       ·grind
       ·rw[hlen];simp only[];rw[iy];have qt:xs.length=gm.length* (aF ag bc).size:=b2.1;rw[List.take_append,iy];rw[sr (by omega)];congr 1;apply rJ;intro j;rw[rK,qV,qV];have WZ:∀q,xs[q]?=if q<gm.length* (aF ag bc).size then cur.toList[q]? else none:=by
         grind
        rw[WZ];by_cases hle:ys.length<=gm.length
        ·have eN:Nat.min ys.length gm.length=ys.length:=Nat.min_eq_left hle;rw[eN];have iV:ys.length* (aF ag bc).size<=gm.length* (aF ag bc).size:=kJ _ hle;by_cases aq:j<gm.length* (aF ag bc).size-ys.length* (aF ag bc).size
         ·rw[b6 aq,b6 (by omega)]
         grind
        ·have eN:Nat.min ys.length gm.length=gm.length:=Nat.min_eq_right (by omega);rw[eN];have iV:gm.length* (aF ag bc).size<=ys.length* (aF ag bc).size:=kJ _ (by omega)
         grind
   grind
  grind
 grind
end
open Go
section
variable {P:Program} {ag:dH} {aE:Nat->Prop} {a8:e5} {n:Nat} {os:c2} {s:bK} {a:Act} {w:World} {o:Oper} {K:bK->Prop} {A:Nat->Prop}
theorem W0(h:ch aE a8 n os s a w):∀m,∃aT,ch aE a8 n aT ⟨s.env,s.loc++List.replicate m .bm⟩ a w
 |0=>⟨os,by simp_all⟩
 |m+1=>by
  obtain⟨aT,bp⟩:=W0 h m;have:=bp.push (x:=.nilFunc) (bD:=.bm) (grownBy.uY w none) (by simp[bJ]) trivial;refine⟨aT++ [(.nilFunc,.bm)],?_⟩;rw[OD,<-km];omega
theorem bg.ib{x:Value}{d ck:ak}(aa:hP d ck)(h:bg A os w x d):bg A os w x ck:=by
 induction aa generalizing x with
 |refl=>exact h
 |nil az=>exact .bT (h.nB.le (.nil az))
 |av=>rw[h.o0];exact .bT .nil
 |ar=>exact .bT (h.nB.le .ar)
 |jP af ao bC aY=>exact .bT (h.nB.le (.jP af ao bC))
 | @agg cs ds af aj aY=>
  cases h with
  |bT h=>exact .bT (h.le (.agg af aj))
  |e2 h aa h1=>rcases aa with aa| ⟨_,_,aa⟩<;>cases aa
  | @agg vs _ hs br h=>
   refine .agg (by omega) br (λi v d ab aa=> ?_)
   grind
 | @bd cs ds af aj aY=>
  obtain⟨vs,rfl,hs,b2,an⟩:=h.Pl;have get:∀ {i:Nat} {v:Value},vs[i]?=some v->∃c,cs[i]?=some c:=λ{i v} ab=>by
   have ax:=(eL.1 ab).1
   simp_all
  refine .bd (by omega) (λi v d ab aa=> ?_) (λi v d ab aa=> ?_)
  ·obtain⟨c,lQ⟩:=get ab;rcases b2 i v c ab lQ with aH|aH
   ·have o4:=aj i c d lQ aa;cases c<;>simp[mX]at aH
    cases o4 with
    |refl=>grind
    |a1=>exact .inr .a1
   ·exact .inr (aH.le (aj i c d lQ aa))
  grind
 |a1=>exact .bT .a1
theorem DU:∀ {l:List Nat} {k:Nat},k<l.length->l[k]?=some (dn l k)
 | [],k,h=>by grind
 |i::r,0,_=>rfl
 |i::r,k+1,h=>by simpa[dn]using DU (l:=r) (k:=k) (by grind)
theorem GJ:∀ {l:List Nat},AL l=true->l.Nodup
 | [],_=>List.nodup_nil
 |i::r,h=>by
  simp only[AL,cq,mV,List.contains_eq_mem,hG]at h;exact C8.2 ⟨h.1,GJ h.2⟩
theorem W1{l:List Nat}(aW:l.Nodup){i j x:Nat}(hi:l[i]?=some x)(aq:l[j]?=some x):i=j:=by
 obtain⟨h1,aC⟩:=eL.1 hi;obtain⟨ad,aG⟩:=eL.1 aq;exact(yD aW).1 (aC.trans aG.symm)
theorem aga{l:List Nat}(aW:l.Nodup){i j:Nat}(hi:i<l.length)(aq:j<l.length)(h:dn l i=dn l j):i=j:=
 W1 aW (DU hi) (by rw[h];exact DU aq)
section
variable {m:List aZ}
theorem y8:∀ {l:List aZ} {i:Nat} {ty:TypeId} {cs:List ak},oW m l=true->l[i]?=some (.cells ty cs)->∀d∈cs,kn m d=true
 | [],i,_,_,_,hi=>by grind
 | .cells t dG::r,0,ty,cs,h,hi=>by
  simp at hi;obtain⟨rfl,rfl⟩:=hi;simp only[oW,cq,l4]at h
  grind
 | .cells t dG::r,i+1,ty,cs,h,hi=>by
  simp only[oW,cq]at h;exact y8 (i:=i) h.2 (by simpa using hi)
 | .row _ _ _::r,0,ty,cs,h,hi=>by grind
 | .row _ _ _::r,i+1,ty,cs,h,hi=>y8 (i:=i) (l:=r) h (by simpa using hi)
 | .bm::r,0,ty,cs,h,hi=>by grind
 | .bm::r,i+1,ty,cs,h,hi=>y8 (i:=i) (l:=r) h (by simpa using hi)
 | .gone::r,0,ty,cs,h,hi=>by grind
 | .gone::r,i+1,ty,cs,h,hi=>y8 (i:=i) (l:=r) h (by simpa using hi)
 | .cD _::r,0,ty,cs,h,hi=>by grind
 | .cD _::r,i+1,ty,cs,h,hi=>by
  simp only[oW,cq]at h;exact y8 (i:=i) h.2 (by simpa using hi)
end
structure Bb(aE:Nat->Prop)(os gF:c2)(cS:List Nat)(L:List aZ)(m:Nat):Prop where
 len:gF.length=m
 auV:m<=cS.length
 get:∀ (k:Nat) x bD,gF[k]?=some (x,bD)->k<m/\L[k]?=some bD/\∃o,os[dn cS k]?=some (x,o)/\hr o (gP (dn cS) bD)
 snd:gF.map (·.2)=L
theorem GK{o:aZ}{ρ:Nat->Nat}{e:TypeId}{aB:Nat}{es:List (List ak)}(h:hr o (gP ρ (.row e aB es))):o= .row e aB es:=by
 cases h with
 |refl=>rfl
theorem KE{o:aZ}{ρ:Nat->Nat}{t:TypeId}{cs:List ak}(h:hr o (gP ρ (.cells t cs))):∃dG,o= .cells t dG/\dG.length=cs.length/\∀ (i:Nat) c d,dG[i]?=some c->cs[i]?=some d->hP c (rQ ρ d):=by
 cases h with
 |refl=>exact⟨_,rfl,by simp,λi c d aj aa=>by
   rw[e7,aa]at aj;cases aj;exact .refl⟩
 |cells af h=>grind
variable {gF:c2} {cS:List Nat} {L:List aZ} {m:Nat} {nV:Nat->Prop}
theorem Bb.row(cF:Bb aE os gF cS L m){j:Nat}(h:jN (bR L j)=true):∃x e aB es,gF[j]?=some (x,.row e aB es)/\os[dn cS j]?=some (x,.row e aB es):=by
 rw[<-cF.snd]at h;obtain⟨x,e,aB,es,aq⟩:=Kg h;obtain⟨_,_,o,aH,hle⟩:=cF.get j _ _ aq;rw[GK hle]at aH
 grind
theorem Bb.cells(cF:Bb aE os gF cS L m){j:Nat}(h:rM (bR L j)=true):∃x t cs dG,gF[j]?=some (x,.cells t cs)/\os[dn cS j]?=some (x,.cells t dG):=by
 rw[<-cF.snd]at h;obtain⟨x,t,cs,aq⟩:=afg h;obtain⟨_,_,o,aH,hle⟩:=cF.get j _ _ aq;obtain⟨dG,rfl,_⟩:=KE hle
 grind
theorem PM(cF:Bb aE os gF cS L m)(k:dx A (bi nV gF) w w){v:Value}{d:ak}(ac:kn L d=true)(h:bg A os w v (rQ (dn cS) d)):bg (bi nV gF) gF w v d:=by
 cases d with
 |own j=>
  obtain⟨x,e,aB,es,h1,ad⟩:=cF.row ac;have:=h.q6 ad;subst this;exact .own h1 h.DF.1
 |db j gS off=>
  obtain⟨x,e,aB,es,h1,ad⟩:=cF.row ac;obtain⟨g,n,c,rfl,rfl⟩:=h.Gl ad;exact .db h1
 |aV j off=>
  obtain⟨x,t,cs,dG,h1,ad⟩:=cF.cells ac;obtain⟨g,eD,u1,aN,rfl⟩:=h.q5;rw[ad]at aN;cases aN;exact .aV h1
 |dU j off=>
  obtain⟨x,t,cs,dG,h1,ad⟩:=cF.cells ac;obtain⟨g,eD,u1,aN,rfl⟩:=h.yU;rw[ad]at aN;cases aN;exact .dU h1
 |fn f cu=>
  have h:bg A os w v (.fn f (cu.map (sA (dn cS)))):=h;simp only[kn,l4]at ac;have eg:∀ {x:Value} {c:ak},c∈cu->bg A os w x (sA (dn cS) c)->(∃j off,c= .aV j off)->bg (bi nV gF) gF w x c:=by
   rintro x c aj ah ⟨j,off,rfl⟩;have ac:=ac _ aj;obtain⟨x',t,cs,dG,h1,ad⟩:=cF.cells ac;obtain⟨g,eD,u1,aN,rfl⟩:=bg.q5 ah;rw[ad]at aN;cases aN;exact .aV h1
  cases h with
  |bT h=>
   cases h with
   |fn af an=>
    refine .bT (.fn (by grind) (λi x c ah aj=> ?_));have ad:=an i x (sA (dn cS) c) ah (by grind);by_cases KF:∃j off,c= .aV j off
    ·obtain⟨j,off,rfl⟩:=KF;cases ad
    ·have:sA (dn cS) c=c:=by cases c<;>first|rfl|exact absurd ⟨_,_,rfl⟩ KF
     rw[this]at ad;exact ad.cC k
  |e2 h aa h1=>rcases aa with aa| ⟨_,_,aa⟩<;>cases aa
  |fn af iL an=>
   refine .fn (by grind) (λc aj=> ?_) (λi x c ah aj=> ?_)
   ·have:=iL (sA (dn cS) c) (VI aj);cases c<;>first|exact this|rfl
   ·have ad:=an i x (sA (dn cS) c) ah (by grind);have qs:=fo aj;by_cases KF:∃j off,c= .aV j off
    ·grind
    ·have aC:sA (dn cS) c=c:=by cases c<;>first|rfl|exact absurd ⟨_,_,rfl⟩ KF
     rw[aC]at ad;have lQ:=iL _ (VI (f:=sA (dn cS)) qs);rw[aC]at lQ;by_cases DS:∃cs,c= .c9 cs
     ·obtain⟨cs,rfl⟩:=DS;exact .bT (ad.wk.cC k)
     ·refine .bT ((ad.plain ?_).2.cC k);cases c
      case aV=>grind
      case c9=>rfl
      case fn g cs=>
       have:cs=[]:=by cases cs<;>simp_all[l6,mA]
       subst this;rfl
      all_goals first|rfl| (simp[l6,mA]at lQ)
 |agg cs=>simp[kn]at ac
 |bd ds=>simp[kn]at ac
 |ca b d=>simp[kn]at ac
 |v y=>obtain⟨rfl,h1⟩:=bg.j1 h;exact .bT (.v h1)
 |ar aB es f=>exact .bT ((bg.nB h).cC k)
 |c9 cs=>exact .bT ((bg.wk h).cC k)
 |av=>rw[bg.o0 h];exact .bT .av
 |a1=>exact .bT .a1
theorem agb(cF:Bb aE os gF cS L m)(k:dx A (bi nV gF) w w){v:Value}{d:ak}(ac:kL L d=true)(h:bg A os w v (k0 (dn cS) d)):bg (bi nV gF) gF w v d:=by
 by_cases aa:∃cs,d= .agg cs
 ·obtain⟨cs,rfl⟩:=aa;obtain⟨vs,rfl,af,br,an⟩:=bg.xx h;simp only[kL,l4]at ac;exact .agg (by grind) br (λi v c ab aj=>PM cF k (ac c (fo aj)) (an i v _ ab (by grind)))
 ·by_cases hw:∃b e,d= .ca b e
  ·obtain⟨b,e,rfl⟩:=hw;simp[kL,kn]at ac
  ·have h1:kL L d=kn L d:=by cases d<;>first|rfl|exact absurd ⟨_,rfl⟩ aa
   have cH:¬ ∃ds,d= .bd ds:=by
    rintro⟨ds,rfl⟩;simp[kL,kn]at ac
   have ad:k0 (dn cS) d=rQ (dn cS) d:=by cases d<;>first|rfl|exact absurd ⟨_,rfl⟩ aa|exact absurd ⟨_,_,rfl⟩ hw|exact absurd ⟨_,rfl⟩ cH
   rw[h1]at ac;rw[ad]at h;exact PM cF k ac h
structure W2(os aT gF:c2)(cS J:List Nat)(q:Nat):Prop where
 len:gF.length=q
 auW:q=cS.length
 GL:cS.Nodup
 get:∀ (k:Nat) x bD,gF[k]?=some (x,bD)->aT[dn cS k]?=some (x,gP (dn cS) bD)
 auX:∀i,i∉cS->aT[i]?=(os[i]?).map λp=>(p.1,gw (h4 J) p.2)
theorem W3{aT:c2}{J:List Nat}{q:Nat}(cr:W2 os aT gF cS J q)(k:dx (bi nV gF) A w w){v:Value}{d:ak}(h:bg (bi nV gF) gF w v d): (v.oneCell'=true->bg A aT w v (rQ (dn cS) d))/\bg A aT w v (k0 (dn cS) d):=by
 have qu:∀ {v:Value} {d:ak},b8 (bi nV gF) w v d->b8 A w v (rQ (dn cS) d)/\b8 A w v (k0 (dn cS) d):=by
  intro v d bx;induction bx with
  |v h=>exact⟨.v h,.v h⟩
  |ar xs aW aj aA az cE al ac br dD ah aY=>exact⟨(b8.ar xs aW aj aA az cE al ac br dD ah).cC k,(b8.ar xs aW aj aA az cE al ac br dD ah).cC k⟩
  |nil=>exact⟨.nil,.nil⟩
  |av=>exact⟨.av,.av⟩
  |agg af br h aY=>
   refine⟨(b8.agg af br h).cC k,.agg (by grind) br (λj v d ab aa=> ?_)⟩
   grind
  | @bd vs ds af h aY=>
   refine⟨(b8.bd af h).cC k,.bd (by grind) (λj v d ab aa=> ?_)⟩
   grind
  |c9 xs al ac br dD ah _=>exact⟨(b8.c9 xs al ac br dD ah).cC k,(b8.c9 xs al ac br dD ah).cC k⟩
  | @fn f vs ds af h _=>
   have key:b8 A w (.func f #[] vs.toArray) (.fn f (ds.map (sA (dn cS)))):=by
    refine .fn (by grind) (λj v d ab aa=> ?_);rw[e7]at aa;cases aq:ds[j]? with
    |none=>grind
    |some e=>
     rw[aq]at aa;simp at aa;subst aa;have ad:=h j v e ab aq;cases e
     case aV=>cases ad
     all_goals exact ad.cC k
   exact⟨key,key⟩
  |ca _ aR aY=>exact⟨.ca (λac=>(aY ac).1) aR,.ca (λac=>(aY ac).2) aR⟩
  |a1=>exact⟨.a1,.a1⟩
 induction h with
 |bT h=>exact⟨λ_=>.bT (qu h).1,.bT (qu h).2⟩
 |aV h=>have:=cr.get _ _ _ h;exact⟨λ_=>.aV this,.aV this⟩
 |dU h=>have:=cr.get _ _ _ h;exact⟨λ_=>.dU this,.dU this⟩
 |db h=>have:=cr.get _ _ _ h;exact⟨λ_=>.db this,.db this⟩
 |own h h1=>have:=cr.get _ _ _ h;exact⟨λ_=>.own this h1,.own this h1⟩
 |e2 h aa h1=>
  have:=cr.get _ _ _ h;rcases aa with rfl| ⟨_,_,rfl⟩
  ·exact⟨λ_=>.e2 this (.inl rfl) h1,.e2 this (.inl rfl) h1⟩
  ·exact⟨λ_=>.e2 this (.inr ⟨_,_,rfl⟩) h1,.e2 this (.inr ⟨_,_,rfl⟩) h1⟩
 | @agg vs ds af br _ aY=>
  refine⟨λh=>by simp[Value.oneCell']at h,.agg (by grind) br (λj v d ab aa=> ?_)⟩
  grind
 | @fn f vs ds af iL bC aY=>
  have key:bg A aT w (.func f #[] vs.toArray) (.fn f (ds.map (sA (dn cS)))):=by
   refine .fn (by grind) (λd aa=> ?_) (λj v d ab aa=> ?_)
   ·obtain⟨e,he,rfl⟩:=fT.1 aa;have:=iL e he;cases e<;>first|exact this|rfl
   ·rw[e7]at aa;cases aq:ds[j]? with
    |none=>grind
    |some e=>
     rw[aq]at aa;simp at aa;subst aa;have ad:=(aY j v e ab aq).2;have aj:=iL e (fo aq);cases e
     case fn g cs=>
      have:cs=[]:=by cases cs<;>simp_all[l6,mA]
      subst this;exact ad
     all_goals first|exact ad| (simp[l6,mA]at aj)
  exact⟨λ_=>key,key⟩
 | @bd vs ds af b2 bC aY=>
  refine⟨λh1=>by simp[Value.oneCell']at h1,.bd (by grind) (λj v d ab aa=> ?_) (λj v d ab aa=> ?_)⟩
  ·rw[e7]at aa;cases aq:ds[j]? with
   |none=>grind
   |some e=>
    rw[aq]at aa;simp at aa;subst aa;rcases b2 j v e ab aq with aH|aH
    ·cases e<;>simp[mX]at aH
     exact .inl rfl
    grind
  ·rw[e7]at aa;cases aq:ds[j]? with
   |none=>grind
   |some e=>
    rw[aq]at aa;simp at aa;subst aa;rcases b2 j v e ab aq with aH|aH
    ·have ad:=bC j v e ab aq;cases e<;>simp[mX]at aH
     exact(aY j v _ ab aq).1 ad.DF.1
    ·exact .bT (qu aH).1
 |ca _ aR aY=>exact⟨λh1=>.ca (λac=>(aY ac).1 h1) aR,.ca (λac=>(aY ac).2) aR⟩
theorem PN{aT:c2}{J:List Nat}{A dy:Nat->Prop}{w':World}(k:dx A dy w w')
  (ls:∀ (i:Nat) x o,i∉J->os[i]?=some (x,o)->o≠ .bm->(∃e aB es,o= .row e aB es)\/(∃t cs,o= .cells t cs)\/o= .gone->∃y aU,aT[i]?=some (y,aU)/\(y=x/\er o aU\/(∃e aB es,o= .row e aB es)/\aU= .gone))
  {v:Value} {d:ak} (h:bg A os w v d): (v.oneCell'=true->bg dy aT w' v (h4 J d))/\bg dy aT w' v (uP J d):=by
 have qu:∀ {v:Value} {d:ak},b8 A w v d->b8 dy w' v (h4 J d)/\b8 dy w' v (uP J d):=by
  intro v d bx;induction bx with
  |v h=>exact⟨.v h,.v h⟩
  |ar xs aW aj aA az cE al ac br dD ah aY=>exact⟨(b8.ar xs aW aj aA az cE al ac br dD ah).cC k,(b8.ar xs aW aj aA az cE al ac br dD ah).cC k⟩
  |nil=>exact⟨.nil,.nil⟩
  |av=>exact⟨.av,.av⟩
  |agg af br h aY=>
   refine⟨(b8.agg af br h).cC k,.agg (by grind) br (λj v d ab aa=> ?_)⟩
   grind
  | @bd vs ds af h aY=>
   refine⟨(b8.bd af h).cC k,.bd (by grind) (λj v d ab aa=> ?_)⟩
   grind
  |c9 xs al ac br dD ah _=>exact⟨(b8.c9 xs al ac br dD ah).cC k,(b8.c9 xs al ac br dD ah).cC k⟩
  | @fn f vs ds af h _=>
   have key:b8 dy w' (.func f #[] vs.toArray) (h4 J (.fn f ds)):=by
    simp only[h4];split
    ·exact .a1
    ·exact(b8.fn af h).cC k
   exact⟨key,key⟩
  |ca _ aR aY=>exact⟨.ca (λac=>(aY ac).1) aR,.ca (λac=>(aY ac).2) aR⟩
  |a1=>exact⟨.a1,.a1⟩
 have DV:∀ {j:Nat},J.contains j=false->j∉J:=by
  simp
 induction h with
 |bT h=>exact⟨λ_=>.bT (qu h).1,.bT (qu h).2⟩
 | @aV j off g t cs h=>
  have key:bg dy aT w' (.pointer (some ⟨g,off,none⟩)) (h4 J (.aV j off)):=by
   simp only[h4];split
   ·exact .bT .a1
   ·rename_i ac;obtain⟨y,aU,bp,(⟨rfl,hk⟩| ⟨⟨_,_,_,he⟩,_⟩)⟩:=ls _ _ _ (DV ac) h (by simp) (.inr (.inl ⟨_,_,rfl⟩))
    case inr=>cases he
    cases aU<;>simp[er]at hk
    exact .aV bp
  exact⟨λ_=>key,key⟩
 | @dU j off g t cs h=>
  have key:bg dy aT w' (.pointer (some ⟨g,off,none⟩)) (h4 J (.dU j off)):=by
   simp only[h4];split
   ·exact .bT .a1
   ·rename_i ac;obtain⟨y,aU,bp,(⟨rfl,hk⟩| ⟨⟨_,_,_,he⟩,_⟩)⟩:=ls _ _ _ (DV ac) h (by simp) (.inr (.inl ⟨_,_,rfl⟩))
    case inr=>cases he
    cases aU<;>simp[er]at hk
    exact .dU bp
  exact⟨λ_=>key,key⟩
 | @db j gS off g n c e aB es h=>
  have key:bg dy aT w' (.pointer (some ⟨g,gS*aB+off,none⟩)) (h4 J (.db j gS off)):=by
   simp only[h4];split
   ·exact .bT .a1
   ·rename_i ac;obtain⟨y,aU,bp,(⟨rfl,hk⟩| ⟨_,rfl⟩)⟩:=ls _ _ _ (DV ac) h (by simp) (.inl ⟨_,_,_,rfl⟩)
    ·cases aU<;>simp[er]at hk
     obtain⟨rfl,rfl⟩:=hk;exact .db bp
    ·exact .e2 bp (.inr ⟨_,_,rfl⟩) rfl
  exact⟨λ_=>key,key⟩
 | @own j x e aB es h h1=>
  have key:bg dy aT w' x (h4 J (.own j)):=by
   simp only[h4];split
   ·exact .bT .a1
   ·rename_i ac;obtain⟨y,aU,bp,(⟨rfl,hk⟩| ⟨_,rfl⟩)⟩:=ls _ _ _ (DV ac) h (by simp) (.inl ⟨_,_,_,rfl⟩)
    ·cases aU<;>simp[er]at hk
     exact .own bp h1
    ·exact .e2 bp (.inl rfl) h1
  exact⟨λ_=>key,key⟩
 | @e2 j x y d h aa h1=>
  have gone:j∉J->∃y,aT[j]?=some (y,.gone):=λaq=>by
   obtain⟨y,aU,bp,(⟨rfl,hk⟩| ⟨⟨_,_,_,he⟩,_⟩)⟩:=ls _ _ _ aq h (by simp) (.inr (.inr rfl))
   case inr=>cases he
   cases aU<;>simp[er]at hk
   grind
  rcases aa with rfl| ⟨gS,off,rfl⟩
  ·have key:bg dy aT w' x (h4 J (.own j)):=by
    simp only[h4];split
    ·exact .bT .a1
    ·rename_i ac;obtain⟨pI,bp⟩:=gone (DV ac);exact .e2 bp (.inl rfl) h1
   exact⟨λ_=>key,key⟩
  ·have key:bg dy aT w' x (h4 J (.db j gS off)):=by
    simp only[h4];split
    ·exact .bT .a1
    ·rename_i ac;obtain⟨pI,bp⟩:=gone (DV ac);exact .e2 bp (.inr ⟨_,_,rfl⟩) h1
   exact⟨λ_=>key,key⟩
 | @agg vs ds af br _ aY=>
  refine⟨λh=>by simp[Value.oneCell']at h,.agg (by grind) br (λj v d ab aa=> ?_)⟩
  grind
 | @fn f vs ds af iL bC aY=>
  have key:bg dy aT w' (.func f #[] vs.toArray) (h4 J (.fn f ds)):=by
   simp only[h4];split
   ·exact .bT .a1
   ·rename_i ac;refine .fn af iL (λj v d ab aa=> ?_);have ad:=(aY j v d ab aa).2;have aj:=iL d (fo aa);have tG:Dr J d=false:=by
     grind
    cases d
    case aV q o=>
     have aC:J.contains q=false:=tG;simp only[uP,h4,aC]at ad;exact ad
    case fn g cs=>
     have:cs=[]:=by cases cs<;>simp_all[l6,mA]
     subst this;exact ad
    all_goals first|exact ad| (simp[l6,mA]at aj)
  exact⟨λ_=>key,key⟩
 | @bd vs ds af b2 bC aY=>
  refine⟨λh1=>by simp[Value.oneCell']at h1,.bd (by grind) (λj v d ab aa=> ?_) (λj v d ab aa=> ?_)⟩
  ·rw[e7]at aa;cases aq:ds[j]? with
   |none=>grind
   |some e=>
    rw[aq]at aa;simp at aa;subst aa;rcases b2 j v e ab aq with aH|aH
    ·cases e<;>simp[mX]at aH
     simp only[h4];split
     ·exact .inr .a1
     ·exact .inl rfl
    grind
  ·rw[e7]at aa;cases aq:ds[j]? with
   |none=>grind
   |some e=>
    rw[aq]at aa;simp at aa;subst aa;rcases b2 j v e ab aq with aH|aH
    ·have ad:=bC j v e ab aq;cases e<;>simp[mX]at aH
     exact(aY j v _ ab aq).1 ad.DF.1
    ·exact .bT (qu aH).1
 |ca _ aR aY=>exact⟨λh1=>.ca (λac=>(aY ac).1 h1) aR,.ca (λac=>(aY ac).2) aR⟩
end
open Go
section
variable {P:Program} {ag:dH} {aE:Nat->Prop} {a8:e5} {n:Nat} {os:c2} {s:bK} {a:Act} {w:World} {o:Oper} {K:bK->Prop} {A:Nat->Prop}
theorem agc{o bD:aZ}{ρ:Nat->Nat}(h:hr o (gP ρ bD))(aa:bD≠ .bm)(aw:∀ds,bD≠ .cD ds):o≠ .bm:=by
 cases bD with
 |bm=>grind
 |cD ds=>grind
 |gone=>cases h;simp[gP]
 |row e aB es=>rw[GK h];simp
 |cells t cs=>obtain⟨_,rfl,_⟩:=KE h;simp
theorem GM:∀ {L:List aZ} {k:Nat} {o:aZ},q2 L=true->L[k]?=some o->∀ds,o≠ .cD ds
 | [],k,o,_,h,_=>by grind
 |x::r,0,o,aW,h,ds=>by
  simp at h;subst h;intro e;subst e;simp[q2]at aW
 |x::r,k+1,o,aW,h,ds=>by
  have:q2 r=true:=by cases x<;>simp[q2]at aW<;>exact aW
  exact GM (k:=k) this (by grind) ds
theorem xM:∀ {c7:List Bool} {L bL:List aZ} {k:Nat},tw c7 L bL=true->c7.length=L.length/\L.length<=bL.length/\(∀o aU,c7[k]?=some true->L[k]?=some o->bL[k]?=some aU->JV o aU=true)
 | [],[],bL,k,_=>⟨rfl,by simp,λo aU h=>by simp⟩
 | [],_::_,bL,k,h=>by simp[tw]at h
 |_::_,[],bL,k,h=>by simp[tw]at h
 |_::_,_::_,[],k,h=>by simp[tw]at h
 |b::c7,dw::L,fV::bL,k,h=>by
  simp only[tw,cq]at h;obtain⟨i1,i2,i3⟩:=xM (k:=k-1) h.2
  grind
theorem GN{loc:List aZ}{ρ:Nat->Nat}:∀ {pass:List Nat} {L:List aZ},sB loc ρ pass L->pass.length=L.length/\∀ (k i:Nat) o,pass[k]?=some i->L[k]?=some o->hr (bR loc i) (gP ρ o)
 | [],[],_=>⟨rfl,λk i o h=>by simp⟩
 | [],_::_,h=>h.elim
 |_::_,[],h=>h.elim
 |i::r,o::eH,h=>by
  obtain⟨h1,ad⟩:=GN h.2;refine⟨by grind,λk A3 aU hi aH=> ?_⟩;cases k with
  |zero=>simp at hi aH;subst hi;subst aH;exact h.1
  |succ k=>grind
theorem W4:∀ {pass:List Nat} {c7:List Bool} {k i:Nat},c7.length=pass.length->pass[k]?=some i->c7[k]?≠some true->i∈yM pass c7
 | [],c7,k,i,_,h,_=>by grind
 |p::r,[],k,i,af,_,_=>by grind
 |p::r,b::c7,0,i,af,h,hk=>by
  simp at h hk;subst h;cases b<;>simp at hk
  simp[yM]
 |p::r,b::c7,k+1,i,af,h,hk=>by
  have:=W4 (k:=k) (c7:=c7) (pass:=r) (by grind) (by simpa using h) (by grind);cases b
  ·simp[yM,this]
  ·simpa[yM]using this
variable{J:List Nat}
theorem agd{e:List (Nat×ak)}(t:Nat):look (JU J e) t=if J=[]then look e t else uP J (look e t):=by
 unfold JU;split
 ·simp
 ·rename_i h;rw[bo (λe=>h e),DD _ rfl]
theorem PO:∀ (cS:List Nat) (l L:List aZ) (i:Nat),i∉cS->(pE l cS L)[i]?=l[i]?
 | [],l,L,i,_=>by cases L<;>rfl
 |j::r,l,[],i,_=>rfl
 |j::r,l,o::L,i,h=>by
  simp only[ny,not_or]at h;rw[pE,PO r _ _ _ h.2,mD,v1 (λe=>h.1 e.symm)]
theorem W5:∀ (cS:List Nat) (l L:List aZ) (k:Nat),cS.Nodup->cS.length=L.length->(∀i∈cS,i<l.length)->k<cS.length->(pE l cS L)[dn cS k]?=L[k]?
 | [],l,L,k,_,_,_,h=>by grind
 |j::r,l,[],k,_,h,_,_=>by grind
 |j::r,l,o::L,k,aW,af,hi,hk=>by
  obtain⟨h1,ad⟩:=C8.1 aW;cases k with
  |zero=>
   rw[pE];show (pE (gr l j o) r L)[j]?=_;rw[PO r _ _ _ h1,mD,oS (hi j (by simp))];rfl
  |succ k=>
   rw[pE];show (pE (gr l j o) r L)[dn r k]?=_;rw[W5 r _ L k ad (by grind) (λi aA=>by rw[mD];grind) (by grind)];rfl
theorem DW:∀d:ak,h4 [] d=d
 | .ca b d=>by simp only[h4];rw[DW d]
 | .fn f cu=>by
  have:cu.any (Dr [])=false:=by
   rw[List.any_eq_false];intro c _;cases c<;>simp[Dr]
  simp only[h4,this]
 | .own _| .aV _ _| .dU _ _| .db _ _ _=>by rfl
 | .v _| .ar _ _ _| .agg _| .bd _| .c9 _| .av| .a1=>rfl
theorem W6:∀d:ak,uP [] d=d
 | .ca b d=>by simp only[uP];rw[W6 d]
 | .agg cs=>by
  simp only[uP];congr 1;conv=>rhs;rw[<-C4 cs]
  exact C3 (λc _=>DW c)
 | .bd cs=>by
  simp only[uP];congr 1;conv=>rhs;rw[<-C4 cs]
  exact C3 (λc _=>DW c)
 | .fn f cu=>DW _
 | .own _| .aV _ _| .dU _ _| .db _ _ _=>DW _
 | .v _| .ar _ _ _| .c9 _| .av| .a1=>rfl
theorem PP{d:ak}:h4 [] d=d/\uP [] d=d:=⟨DW d,W6 d⟩
theorem age{l:List aZ}{i:Nat}: (AK J l)[i]?=(l[i]?).map (gw (h4 J)):=by
 unfold AK;split
 ·have: (gw (h4 []))=id:=by
   funext o;cases o with
   |cells t cs=>
    have:cs.map (h4 [])=cs:=by
     conv=>rhs;rw[<-C4 cs]
     exact C3 (λc _=>PP.1)
    simp[gw,this]
   |cD cs=>
    have:cs.map (h4 [])=cs:=by
     conv=>rhs;rw[<-C4 cs]
     exact C3 (λc _=>PP.1)
    simp[gw,this]
   |_=>rfl
  grind
 ·rw[wu,e7]
theorem KG{f:FuncId}{pass news J:List Nat}{L bL:List aZ}{ko:List ak}{kept:List Bool}{d:ak}{fH:List Value}(h:ch aE a8 n os s a w)(jm:cm P f L ko kept bL d)
  (gU:∀ (k i:Nat),pass[k]?=some i->kept[k]?≠some true->i∈J\/(∃e aB es,L[k]?=some (.row e aB es))/\bL[k]?=some .gone)
  (o5:tw kept L bL=true) (wA:q2 L=true) (gV: (pass++news).Nodup) (ax:∀i∈pass,i<os.length) (pM:∀i∈news,∃y,os[i]?=some (y,.bm)) (hlen:bL.length=pass.length+news.length)
  (Bc:oW L L=true) (xN:ko.all (kL L)=true) (xO:sB s.loc (dn (pass++news)) pass L)
  (af:fH.length=ko.length) (wB:∀ (i:Nat) v d,fH[i]?=some v->ko[i]?=some d->bg (mb aE os []) os w v (k0 (dn (pass++news)) d)):
  Calls P f fH.toArray w λe w'=>∃v aT,e= .returned v/\ch aE a8 n aT (F6 s (pass++news) J bL) a w'/\bg (bi aE aT) aT w' v (k0 (dn (pass++news)) d):=by
 obtain⟨ez,hole⟩:=GN xO;generalize agf:pass++news=cS at *;have tH:cS.length=bL.length:=by grind
 have agh:pass.length<=cS.length:=by omega
 have KH:∀k,k<pass.length->pass[k]?=some (dn cS k):=by
  intro k hk;have h1:=DU (l:=cS) (k:=k) (by omega)
  grind
 have nd:∀b,mb aE os [] b↔bi aE os b:=by
  intro b;constructor
  ·exact xJ
  ·rintro(ac| ⟨i,x,aU,hi,aa,cy⟩)
   ·exact .inl ac
   ·exact .inr ⟨i,x,aU,hi,aa,by simp,cy⟩
 -- DQ auY objects
 let gF:c2:=(List.range pass.length).map λk=>((os[dn cS k]?.map (·.1)).getD .nilFunc,(L[k]?).getD .bm)
 have iy:gF.length=pass.length:=by grind
 have W7:∀k,k<pass.length->∃x o bD,os[dn cS k]?=some (x,o)/\L[k]?=some bD/\gF[k]?=some (x,bD)/\hr o (gP (dn cS) bD):=by
  intro k hk;have an:=KH k hk;have hi:=ax _ (fo an);have aH:=eP hi;have eh:=eP (l:=L) (i:=k) (by omega);refine⟨os[dn cS k].1,os[dn cS k].2,L[k]'(by omega),aH,eh,?_,?_⟩
  ·grind
  ·have:=hole k _ _ an eh;rw[h.loc,ln,e7,aH]at this
   grind
 have KI:∀ {k:Nat} {x:Value} {bD:aZ},gF[k]?=some (x,bD)->k<pass.length/\L[k]?=some bD/\∃o,os[dn cS k]?=some (x,o)/\hr o (gP (dn cS) bD):=by
  grind
 have W8:gF.map (·.2)=L:=by
  apply rJ
  grind
 have cF:Bb aE os gF cS L pass.length:=⟨iy,agh,λk x bD hk=>KI hk,W8⟩
 have W9:∀ {k:Nat} {bD:aZ} {o:aZ},L[k]?=some bD->bD≠ .bm->hr o (gP (dn cS) bD)->o≠ .bm:=λhk aa hle=>agc hle aa (GM wA hk);have DX:∀ {b:Nat},hn gF b->∃k x o,k<pass.length/\os[dn cS k]?=some (x,o)/\o≠ .bm/\bJ x=some b:=by
  rintro b ⟨k,x,bD,hk,aa,ac⟩
  grind
 -- agi is jO out
 let nV:Nat->Prop:=mb aE os pass
 have agj:∀b,nV b->b<w.heap.size:=by
  rintro b (ac| ⟨i,x,aU,hi,aa,_,cy⟩)
  ·exact h.DK ac
  ·exact((h.cV _ _ _ hi).iX aa cy).2
 have agk:∀b,nV b->¬hn gF b:=by
  intro b al kt;obtain⟨k,x,o,hk,aH,wC,cy⟩:=DX kt;rcases al with ac| ⟨i,y,aU,hi,aa,PQ,hf⟩
  ·exact h.a0 b ac ((h.cV _ _ _ aH).iX wC cy).1
  ·have:=h.inj i (dn cS k) _ _ _ _ b hi aH aa wC hf cy
   grind
 have Xa:∀b,bi nV gF b->bi aE os b:=by
  rintro b (ac|kt)
  ·exact xJ ac
  ·obtain⟨k,x,o,hk,aH,wC,cy⟩:=DX kt;exact .inr ⟨_,_,_,aH,wC,cy⟩
 have cU:dx (bi aE os) (bi nV gF) w w:=dx.ib Xa;have agl:dx (mb aE os []) (bi nV gF) w w:=dx.ib (λb ac=>(nd b).2 (Xa b ac));have sK:uO nV gF L w:=by
  refine⟨W8,λk x bD hk=> ?_,λi j x o y aU b hi aq d1 d2 cY cZ=> ?_,agk⟩
  ·obtain⟨gl,Xb,o,aH,hle⟩:=KI hk;have fI:=h.cV _ _ _ aH;cases bD with
   |bm=>exact trivial
   |gone=>
    have:o= .gone:=by cases hle;rfl
    subst this;exact fI
   |cD ds=>exact absurd rfl (GM wA Xb ds)
   |row e aB es=>
    rw[GK hle]at fI;obtain⟨_,xs,b2,cE,hc,br,ao⟩:=fI;exact⟨λ_ _=>.inr trivial,xs,b2,cE,hc,br,λeQ jk r d h1 ad=>by
     obtain⟨v,ab,hi⟩:=ao eQ jk r d h1 ad;exact⟨v,ab,hi.cC cU⟩⟩
   |cells t cs=>
    obtain⟨dG,rfl,auZ,lN⟩:=KE hle;obtain⟨g,arr,rfl,cr,bC,ae,br,j4⟩:=fI;refine⟨g,arr,rfl,.inr trivial,bC,by omega,br,λj v d ab aa=> ?_⟩;have gT:=(eL.1 aa).1;have pK:=eP (l:=dG) (i:=j) (by omega);exact PM cF cU (y8 Bc Xb d (fo aa)) ((j4 j v _ ab pK).ib (lN j _ d pK aa))
  ·obtain⟨iW,DY,dw,j3,agm⟩:=KI hi;obtain⟨mG,PR,fV,qx,agn⟩:=KI aq;have:=h.inj _ _ _ _ _ _ b j3 qx (W9 DY d1 agm) (W9 PR d2 agn) cY cZ;exact aga gV (by omega) (by omega) this
 have DZ:xr (bi nV gF) gF w fH ko:=by
  have gen:∀ (vs:List Value) (ds:List ak),vs.length=ds.length->(∀ (i:Nat) v d,vs[i]?=some v->ds[i]?=some d->bg (bi nV gF) gF w v d)->xr (bi nV gF) gF w vs ds:=by
   intro vs;induction vs with
   |nil=>intro ds af _;cases ds<;>first|trivial|simp at af
   |cons v vs aY=>
    intro ds af an;cases ds with
    |nil=>grind
    |cons d ds=>exact⟨an 0 v d rfl rfl,aY ds (by grind) (λi v d ab aa=>an (i+1) v d (by grind) (by grind))⟩
  refine gen fH ko af (λi v d ab aa=> ?_);simp only[l4]at xN;exact agb cF agl (xN d (fo aa)) (wB i v d ab aa)
 refine(jm.2 nV w gF fH agj sK DZ).mono λe w' he=> ?_;obtain⟨v,sL,rfl,y9,u5,oy,hblk,sI⟩:=he;have ago:sL.length=cS.length:=by rw[tH,<-y9.loc];simp
 have Xc:∀ {k:Nat} {x:Value} {bD:aZ},sL[k]?=some (x,bD)->k<cS.length/\bL[k]?=some bD:=by
  intro k x bD hk;refine⟨by grind,?_⟩;rw[<-y9.loc,e7,hk];rfl
 -- DQ objects behind DQ call
 let aT:c2:=(List.range os.length).map λi=>if i∈cS then(match sL[cS.idxOf i]? with
  |some p=>(p.1,gP (dn cS) p.2)
  |none=>(.nilFunc,.bm))else match os[i]? with
  |some p=>(p.1,gw (h4 J) p.2)
  |none=>(.nilFunc,.bm)
 have au0:∀i∈cS,i<os.length:=by
  grind
 have j5:∀ {k:Nat},k<cS.length->dn cS k∈cS:=λhk=>fo (DU hk);have au1:∀ {k:Nat},k<cS.length->cS.idxOf (dn cS k)=k:=by
  intro k hk;have aA:=j5 hk;have h1:=Ox aA;have ad:cS[cS.idxOf (dn cS k)]?=some (dn cS k):=by grind
  exact W1 gV ad (DU hk)
 have Bd:∀ {k:Nat} {x:Value} {bD:aZ},sL[k]?=some (x,bD)->aT[dn cS k]?=some (x,gP (dn cS) bD):=by
  grind
 have ku:∀i,i∉cS->aT[i]?=(os[i]?).map λp=>(p.1,gw (h4 J) p.2):=by
  grind
 have cM:∀ {i:Nat} {x:Value} {aU:aZ},aT[i]?=some (x,aU)->(∃k bD,k<cS.length/\i=dn cS k/\sL[k]?=some (x,bD)/\aU=gP (dn cS) bD)\/(i∉cS/\∃dw,os[i]?=some (x,dw)/\aU=gw (h4 J) dw):=by
  intro i x aU hi;by_cases aA:i∈cS
  ·have h1:=Ox aA;have ad:dn cS (cS.idxOf i)=i:=by
    have aN:cS[cS.idxOf i]?=some i:=by grind
    grind
   grind
  grind
 have dp:∀dw:aZ,gw (h4 J) dw≠ .bm->dw≠ .bm:=by intro dw;cases dw<;>simp[gw]
 have D0:∀bD:aZ,gP (dn cS) bD≠ .bm->bD≠ .bm:=by intro bD;cases bD<;>simp[gP]
 have agp:∀ {i:Nat},i∉cS->i∉pass:=λhi an=>hi (by grind)
 -- blocks of DQ objects behind DQ call
 have Xd:∀ {b:Nat},hn sL b->(∃k x o,k<pass.length/\os[dn cS k]?=some (x,o)/\o≠ .bm/\bJ x=some b)\/w.heap.size<=b:=λac=>(hblk _ ac).imp DX id;have fK:∀b,b<w.heap.size->bi aE aT b->bi aE os b:=by
  rintro b lp (ac| ⟨i,x,aU,hi,aa,cy⟩)
  ·exact .inl ac
  ·rcases cM hi with⟨k,bD,hk,rfl,aj,rfl⟩| ⟨_,dw,h1,rfl⟩
   ·rcases Xd ⟨k,x,bD,aj,D0 _ aa,cy⟩with⟨_,y,o,_,ad,aN,bt⟩|ad
    ·exact .inr ⟨_,_,_,ad,aN,bt⟩
    ·omega
   ·exact .inr ⟨_,_,_,h1,dp _ aa,cy⟩
 have rW:∀b,b<w.heap.size->¬hn gF b->w'.heap[b]?=w.heap[b]?:=oy.block;have ng:dx (bi aE os) (bi aE aT) w w':=⟨oy.size,fK,λb ac aW=>rW b ac (λkt=>aW (by
  obtain⟨k,x,o,_,ad,aN,bt⟩:=DX kt;exact .inr ⟨_,_,_,ad,aN,bt⟩))⟩
 have tE:dx (bi nV sL) (bi aE aT) w' w':=dx.ib (by
  rintro b (ac| ⟨i,x,aU,hi,aa,cy⟩)
  ·exact .inl (.inl ac)
  ·rcases cM hi with⟨k,bD,hk,rfl,aj,rfl⟩| ⟨GO,dw,h1,rfl⟩
   ·exact .inr ⟨k,x,bD,aj,D0 _ aa,cy⟩
   ·exact .inl (.inr ⟨i,x,dw,h1,dp _ aa,agp GO,cy⟩))
 have cr:W2 os aT sL cS J cS.length:=⟨ago,rfl,gV,λk x bD hk=>Bd hk,ku⟩
 obtain⟨xA,GP,_⟩:=xM (k:=0) o5;have ls:∀ (i:Nat) x o,i∉J->os[i]?=some (x,o)->o≠ .bm->(∃e aB es,o= .row e aB es)\/(∃t cs,o= .cells t cs)\/o= .gone->∃y aU,aT[i]?=some (y,aU)/\(y=x/\er o aU\/(∃e aB es,o= .row e aB es)/\aU= .gone):=by
  intro i x o hi aH aa au2;by_cases aA:i∈cS
  ·rw[<-agf]at aA;rcases eo.1 aA with aA|aA
   ·obtain⟨k,hk,rfl⟩:=e8 aA;have lR:=KH k hk;rw[eP hk]at lR;have lR:=v7 lR;by_cases PS:kept[k]?=some true
    case neg=>
     rcases gU k _ (eP hk) PS with cL| ⟨⟨e,aB,es,fj⟩,wD⟩
     ·grind
     ·obtain⟨x',fV,bD,h1,ad,aN,bt⟩:=W7 k hk;rw[lR]at aH;rw[h1]at aH;cases aH;rw[fj]at ad;cases ad;have WY:k<sL.length:=by omega
      have Be:=eP WY;rcases KJ:sL[k]with⟨u6,au3⟩
      rw[KJ]at Be;have Xe:=(Xc Be).2;rw[wD]at Xe;cases Xe;rw[lR];exact⟨u6,.gone,Bd Be,.inr ⟨⟨e,aB,es,GK bt⟩,rfl⟩⟩
    obtain⟨x',fV,bD,h1,ad,aN,bt⟩:=W7 k hk;rw[lR]at aH;rw[h1]at aH;cases aH;obtain⟨aU,pK⟩:=sI k x bD PS aN;obtain⟨gl,agq⟩:=Xc pK;have u7:=(xM (k:=k) o5).2.2 bD aU PS ad agq;rw[lR];refine⟨_,_,Bd pK,.inl ⟨rfl,?_⟩⟩;cases bD<;>cases aU<;>simp[JV]at u7
    ·obtain⟨dG,rfl,_⟩:=KE bt;simpa[er,gP]using u7
    ·rw[GK bt];simpa[er,gP]using u7
   ·obtain⟨y,bn⟩:=pM i aA
    grind
  ·refine⟨x,gw (h4 J) o,by grind,.inl ⟨rfl,?_⟩⟩;cases o<;>simp[er,gw]
 have jB:∀ {b:Nat},hn gF b->a8.mine b:=by
  intro b kt;obtain⟨k,x,o,_,ad,aN,bt⟩:=DX kt;exact((h.cV _ _ _ ad).iX aN bt).1
 have au4:aT.length=os.length:=by grind
 refine⟨v,aT,rfl,⟨h.size,h.defers,⟨oy.os.trans h.hv.os,oy.tape.trans h.hv.tape,oy.output.trans h.hv.output,bQ h.hv.size oy.size,λb ac PT=> ?_⟩,h.a0,?_,λt=> ?_,λi x aU hi=> ?_,λi j x o y aU b hi aq d1 d2 cY cZ=> ?_⟩,(W3 cr tE u5).2⟩
 ·refine(rW b (Ay ac h.hv.size) (λkt=> ?_)).trans (h.hv.block b ac PT);rcases jB kt with h1|h1;all_goals grind
 ·show pE (AK J s.loc) cS (bL.map (gP (dn cS)))=_;apply rJ;intro i;rw[e7];have ji: (AK J s.loc).length=os.length:=by
   have:s.loc.length=os.length:=h.len;unfold AK;split
   ·omega
   ·rw[wu];grind
  by_cases aA:i∈cS
  ·have h1:=Ox aA;have ad:dn cS (cS.idxOf i)=i:=by
    have aN:cS[cS.idxOf i]?=some i:=by grind
    grind
   have b5:=eP (l:=sL) (i:=cS.idxOf i) (by omega);rcases an: (sL[cS.idxOf i]'(by omega))with⟨y,bD⟩
   rw[an]at b5;have eN:=Bd b5;rw[ad]at eN;rw[eN];have iV:=W5 cS (AK J s.loc) (bL.map (gP (dn cS))) (cS.idxOf i) gV (by grind) (λq bV=>by grind) h1
   grind
  ·rw[PO _ _ _ _ aA,ku i aA,age,h.loc,e7];cases os[i]?<;>rfl
 ·show bg _ _ _ _ (look (JU J s.env) t);rw[agd];have ab:=(PN (J:=J) ng ls (h.env t)).2;split
  ·rename_i aq;subst aq;rwa[PP.2]at ab
  omega
 ·rcases cM hi with⟨k,bD,hk,rfl,aj,rfl⟩| ⟨GO,dw,h1,rfl⟩
  ·have PU:=y9.cV k x bD aj;have tI:∀b,bD≠ .bm->bJ x=some b->a8.mine b:=by
    intro b aa cy;rcases hblk b ⟨k,x,bD,aj,aa,cy⟩with h1|h1
    ·grind
    ·exact e5.sH h.hv h1
   cases bD with
   |bm=>exact trivial
   |gone=>exact PU
   |cD ds=>exact trivial
   |row e aB es=>
    obtain⟨_,xs,b2,cE,hc,br,ao⟩:=PU;exact⟨λb cy=>tI b (by simp) cy,xs,b2,cE,hc,br,λeQ jk r d h1 ad=>by
     obtain⟨v,ab,hi⟩:=ao eQ jk r d h1 ad;exact⟨v,ab,hi.cC tE⟩⟩
   |cells t cs=>
    obtain⟨g,arr,rfl,KK,bC,ae,br,j4⟩:=PU;refine⟨g,arr,rfl,tI g (by simp) rfl,bC,by grind,br,λj v d ab aa=> ?_⟩;rw[e7]at aa;cases aq:cs[j]? with
    |none=>grind
    |some ck=>
     rw[aq]at aa;simp at aa;subst aa;refine(W3 cr tE (j4 j v ck ab aq)).1 (br v ?_)
     grind
  ·have fI:=h.cV _ _ _ h1;have Xf:∀b,dw≠ .bm->bJ x=some b->w'.heap[b]?=w.heap[b]?:=by
    intro b aa cy;refine rW b ((fI.iX aa cy).2) (λkt=> ?_);obtain⟨k,y,o,hk,ad,aN,bt⟩:=DX kt;have:=h.inj i (dn cS k) _ _ _ _ b h1 ad aa aN cy bt
    grind
   cases dw with
   |bm=>exact trivial
   |gone=>exact fI
   |cD ds=>
    obtain⟨aC,aG,bc,cn⟩:=fI;refine⟨aC,by grind,bc,λA3 v d ab aa=> ?_⟩;rw[e7]at aa;cases aq:ds[A3]? with
    |none=>grind
    |some ck=>
     rw[aq]at aa;simp at aa;subst aa;exact(PN (J:=J) ng ls (cn A3 v ck ab aq)).1 (bc v (fo ab))
   |cells t cs=>
    obtain⟨g,arr,rfl,KK,bC,ae,br,j4⟩:=fI;refine⟨g,arr,rfl,KK,(Xf g (by simp) rfl).trans bC,by grind,br,λj v d ab aa=> ?_⟩;rw[e7]at aa;cases aq:cs[j]? with
    |none=>grind
    |some ck=>
     rw[aq]at aa;simp at aa;subst aa;refine(PN (J:=J) ng ls (j4 j v ck ab aq)).1 (br v ?_)
     grind
   |row e aB es=>
    obtain⟨ags,xs,b2,cE,hc,br,ao⟩:=fI;refine⟨ags,xs,⟨b2.1,?_⟩,cE,hc,br,λeQ jk r d h1 ad=> ?_⟩
    ·rcases b2.2 with aW| ⟨g,cap,cur,rfl,KK,bC,rest⟩
     ·grind
     ·exact .inr ⟨g,cap,cur,rfl,KK,(Xf g (by simp) rfl).trans bC,rest⟩
    ·obtain⟨v,ab,hi⟩:=ao eQ jk r d h1 ad;exact⟨v,ab,hi.cC ng⟩
 ·have Xg:∀ {i j:Nat} {x y:Value} {k:Nat} {bD fV:aZ},k<cS.length->sL[k]?=some (x,bD)->bD≠ .bm->bJ x=some b->j∉cS->os[j]?=some (y,fV)->fV≠ .bm->bJ y=some b->False:=by
   intro i j x y k bD fV hk aj aa za aq qx kv iY;rcases Xd ⟨k,x,bD,aj,aa,za⟩with⟨eQ,z,o,hp,ad,aN,bt⟩|ad
   ·have:=h.inj j (dn cS eQ) _ _ _ _ b qx ad kv aN iY bt
    grind
   ·have:=((h.cV _ _ _ qx).iX kv iY).2;omega
  rcases cM hi with⟨cU,PG,iW,rfl,sD,rfl⟩| ⟨pP,dw,h1,rfl⟩<;>rcases cM aq with⟨dh,au5,mG,rfl,xz,rfl⟩| ⟨KL,fV,ad,rfl⟩
  ·rw[y9.inj cU dh _ _ _ _ b sD xz (D0 _ d1) (D0 _ d2) cY cZ]
  ·exact(Xg (i:=0) iW sD (D0 _ d1) cY KL ad (dp _ d2) cZ).elim
  ·exact(Xg (i:=0) mG xz (D0 _ d2) cZ pP h1 (dp _ d1) cY).elim
  ·exact h.inj _ _ _ _ _ _ b h1 ad (dp _ d1) (dp _ d2) cY cZ
end
open Go
section
variable {P:Program} {ag:dH} {aE:Nat->Prop} {a8:e5} {n:Nat} {os aT:c2} {s:bK} {a:Act} {w:World} {o:Oper} {K:bK->Prop} {A:Nat->Prop} {pass:List Nat} {J:List Nat}
def GQ(pass:List Nat):ak->Prop
 | .own j| .aV j _| .dU j _| .db j _ _=>j∈pass
 |_=>False
def Bf(aE:Nat->Prop)(os:c2)(J pass:List Nat)(w:World)(v:Value)(d:ak):Prop:=b8 (mb aE os J) w v d\/(GQ pass d/\bg (bi aE os) os w v d)
def KM(aE:Nat->Prop)(os:c2)(J pass:List Nat)(w:World)(v:Value)(d:ak):Prop:=Bf aE os J pass w v d\/∃ (vs:List Value) (ds:List ak),v= .agg vs.toArray/\d= .agg ds/\vs.length=ds.length/\(∀x∈vs,x.oneCell'=true)/\∀ (i:Nat) x e,vs[i]?=some x->ds[i]?=some e->Bf aE os J pass w x e
theorem Bf.hq(bp:∀b,bi aE aT b->mb aE os J b)(hk:∀ (i:Nat) x o,i∉J->os[i]?=some (x,o)->∃aU,aT[i]?=some (x,aU)/\er o aU)(xP:∀j∈pass,j∉J){v:Value}{d:ak}(h:Bf aE os J pass w v d):bg (bi aE aT) aT w v d:=by
 rcases h with h| ⟨an,h⟩
 ·exact .bT (h.cC (dx.ib bp))
 ·cases h with
  |bT h=>cases h<;>first|exact an.elim|exact .bT .a1
  |aV h=>
   obtain⟨aU,h1,ad⟩:=hk _ _ _ (xP _ an) h;cases aU<;>simp[er]at ad
   exact .aV h1
  |dU h=>
   obtain⟨aU,h1,ad⟩:=hk _ _ _ (xP _ an) h;cases aU<;>simp[er]at ad
   exact .dU h1
  |db h=>
   obtain⟨aU,h1,ad⟩:=hk _ _ _ (xP _ an) h;cases aU<;>simp[er]at ad
   obtain⟨rfl,rfl⟩:=ad;exact .db h1
  |own h aR=>
   obtain⟨aU,h1,ad⟩:=hk _ _ _ (xP _ an) h;cases aU<;>simp[er]at ad
   exact .own h1 aR
  |e2 h aa aR=>
   rcases aa with rfl| ⟨_,_,rfl⟩
   ·obtain⟨aU,h1,ad⟩:=hk _ _ _ (xP _ an) h;cases aU<;>simp[er]at ad
    exact .e2 h1 (.inl rfl) aR
   ·obtain⟨aU,h1,ad⟩:=hk _ _ _ (xP _ an) h;cases aU<;>simp[er]at ad
    exact .e2 h1 (.inr ⟨_,_,rfl⟩) aR
  |agg=>exact an.elim
  |bd=>exact an.elim
  |fn=>exact an.elim
  |ca=>exact an.elim
theorem KM.hq(bp:∀b,bi aE aT b->mb aE os J b)(hk:∀ (i:Nat) x o,i∉J->os[i]?=some (x,o)->∃aU,aT[i]?=some (x,aU)/\er o aU)(xP:∀j∈pass,j∉J){v:Value}{d:ak}(h:KM aE os J pass w v d):bg (bi aE aT) aT w v d:=by
 rcases h with h| ⟨vs,ds,rfl,rfl,af,br,an⟩
 ·exact h.hq bp hk xP
 ·exact .agg af br (λi x e ah he=>(an i x e ah he).hq bp hk xP)
theorem Xh(h:ch aE a8 n os s a w){v:Value}{d:ak}{Q:ak->Prop}(ao:bg (bi aE os) os w v d)(gU:∀e j,e∈nA d->nh e=some j->pass.contains j=false->j∈J)(af:xt pass s.loc d Q):∃ck,Q ck/\Bf aE os J pass w v ck:=by
 have gu: (∀e j,e∈nA d->nh e=some j->j∈J)->ot s.loc d Q->∃ck,Q ck/\Bf aE os J pass w v ck:=λaq af=>by
  obtain⟨ck,h1,ad⟩:=PH h ao aq af;exact⟨ck,h1,.inl ad⟩
 cases d with
 |own j=>
  simp only[xt]at af;split at af
  ·rename_i aj;exact⟨_,af,.inr ⟨by simpa[GQ]using aj,ao⟩⟩
  ·rename_i aj;exact gu (λe jk he aq=>by
    simp only[nA,eX]at he;subst he;simp[nh]at aq;subst aq;exact gU (.own _) _ (by simp[nA]) rfl aj) af
 |aV j off=>
  simp only[xt]at af;split at af
  ·rename_i aj;exact⟨_,af,.inr ⟨by simpa[GQ]using aj,ao⟩⟩
  ·rename_i aj;exact gu (λe jk he aq=>by
    simp only[nA,eX]at he;subst he;simp[nh]at aq;subst aq;exact gU (.aV _ off) _ (by simp[nA]) rfl aj) af
 |dU j off=>
  simp only[xt]at af;split at af
  ·rename_i aj;exact⟨_,af,.inr ⟨by simpa[GQ]using aj,ao⟩⟩
  grind
 |db j gS off=>
  simp only[xt]at af;split at af
  ·rename_i aj;exact⟨_,af,.inr ⟨by simpa[GQ]using aj,ao⟩⟩
  grind
 |fn f cu=>
  simp only[xt]at af;split at af
  ·grind
  ·rename_i aj;refine gu (λe j he aq=>gU e j he aq ?_) af;simp only[nA,h2]at he;rw[List.any_eq_false]at aj;have:=aj e he.1;cases e<;>simp[OX]at he
   simp[nh]at aq;subst aq;simpa[Dr]using this
 |_=>exact gu (λe j he=>by simp[nA]at he) af
theorem Xi(h:ch aE a8 n os s a w):∀ (vs:List Value) (ds:List ak) {Q:List ak->Prop},vs.length=ds.length->(∀ (i:Nat) v d,vs[i]?=some v->ds[i]?=some d->bg (bi aE os) os w v d)->(∀e j,e∈ds.flatMap nA->nh e=some j->pass.contains j=false->j∈J)->
  OZ pass s.loc ds Q->∃iw,Q iw/\vs.length=iw.length/\∀ (i:Nat) v d,vs[i]?=some v->iw[i]?=some d->Bf aE os J pass w v d
 | [],[],Q,_,_,_,af=>⟨[],af,rfl,by simp⟩
 | [],_::_,Q,h1,_,_,_=>by grind
 |_::_,[],Q,h1,_,_,_=>by grind
 |v::vs,d::ds,Q,h1,ao,gU,af=>by
  obtain⟨ck,af,hi⟩:=Xh h (ao 0 v d rfl rfl) (λe j he aq=>gU e j (by grind) aq) af;obtain⟨iw,bV,hlen,an⟩:=Xi h vs ds (by grind) (λi v d ab aa=>ao (i+1) v d (by grind) (by grind)) (λe j he aq=>gU e j (by grind) aq) af
  grind
theorem agt(h:ch aE a8 n os s a w){v:Value}{d:ak}{Q:ak->Prop}(ao:bg (bi aE os) os w v d)(gU:∀e j,e∈hb [d]->nh e=some j->pass.contains j=false->j∈J)(af:O0 pass s.loc d Q):∃ck,Q ck/\KM aE os J pass w v ck:=by
 by_cases aa:∃cs,d= .agg cs
 ·obtain⟨cs,rfl⟩:=aa;obtain⟨vs,rfl,hlen,br,an⟩:=ao.xx;obtain⟨iw,bV,gQ,iQ⟩:=Xi h vs cs hlen an (λe j he aq=>gU e j (by
   simp only[hb,jM];exact he) aq) af
  exact⟨_,bV,.inr ⟨vs,iw,rfl,rfl,gQ,br,iQ⟩⟩
 ·have h1:O0 pass s.loc d Q=xt pass s.loc d Q:=by cases d<;>first|rfl|exact absurd ⟨_,rfl⟩ aa
  rw[h1]at af;have ad:hb [d]=nA d:=by cases d<;>first|exact absurd ⟨_,rfl⟩ aa|simp[hb]
  rw[ad]at gU;obtain⟨ck,bV,ah⟩:=Xh h ao gU af;exact⟨ck,bV,.inl ah⟩
theorem Xj(h:ch aE a8 n os s a w):∀ (vs:List Value) (ds:List ak) {Q:List ak->Prop},vs.length=ds.length->(∀ (i:Nat) v d,vs[i]?=some v->ds[i]?=some d->bg (bi aE os) os w v d)->(∀e j,e∈hb ds->nh e=some j->pass.contains j=false->j∈J)->
  O1 pass s.loc ds Q->∃iw,Q iw/\vs.length=iw.length/\∀ (i:Nat) v d,vs[i]?=some v->iw[i]?=some d->KM aE os J pass w v d
 | [],[],Q,_,_,_,af=>⟨[],af,rfl,by simp⟩
 | [],_::_,Q,h1,_,_,_=>by grind
 |_::_,[],Q,h1,_,_,_=>by grind
 |v::vs,d::ds,Q,h1,ao,gU,af=>by
  obtain⟨ck,af,hi⟩:=agt h (ao 0 v d rfl rfl) (λe j he aq=>gU e j (by rw[KA];grind) aq) af;obtain⟨iw,bV,hlen,an⟩:=Xj h vs ds (by grind) (λi v d ab aa=>ao (i+1) v d (by grind) (by grind)) (λe j he aq=>gU e j (by rw[KA];grind) aq) af
  grind
variable{args:List ak}
theorem agu{e:ak}{j:Nat}(he:e∈hb args)(aq:nh e=some j)(aW:pass.contains j=false):j∈jl (Ds pass args):=by
 refine A9 (d:=e) ?_ aq;simp only[Ds,h2];refine⟨he,?_⟩;cases e<;>simp[nh]at aq
 all_goals grind
theorem agv{j:Nat}(h:j∈jl (Ds pass args)):j∉pass:=by
 obtain⟨e,he,aq⟩:=Oz.1 h;simp only[Ds,h2]at he;cases e<;>simp[nh]at aq
 all_goals grind
theorem KN:∀ (q i:Nat),(bO i q).length=q
 |0,i=>rfl
 |q+1,i=>by rw[bO,lI,KN q]
theorem KO:∀ (q i j:Nat),j∈bO i q↔i<=j/\j<i+q
 |0,i,j=>by simp only[bO,List.not_mem_nil,false_iff];omega
 |q+1,i,j=>by rw[bO,ny,KO q];omega
theorem Xk:∀ (q i:Nat),(bO i q).Nodup
 |0,i=>List.nodup_nil
 |q+1,i=>C8.2 ⟨λh=>by rw[KO]at h;omega,Xk q _⟩
theorem KP:∀ {l cO:List ak},mZ l cO->l.length=cO.length/\∀ (i:Nat) c d,l[i]?=some c->cO[i]?=some d->hP c d
 | [],[],_=>⟨rfl,λi c d h _=>by grind⟩
 | [],_::_,h=>h.elim
 |_::_,[],h=>h.elim
 |x::l,y::cO,h=>by
  obtain⟨h1,ad⟩:=KP h.2;refine⟨by grind,λi c d aj aa=> ?_⟩;cases i with
  |zero=>
   simp only[C1,v8]at aj aa;subst aj;subst aa;exact h.1
  |succ i=>grind
theorem Xl(h:ch aE a8 n os s a w):∀m,∃aT,ch aE a8 n aT ⟨s.env,s.loc++List.replicate m .bm⟩ a w/\(∀i,i<os.length->aT[i]?=os[i]?)/\∀i,os.length<=i->i<os.length+m->aT[i]?=some (.nilFunc,.bm)
 |0=>⟨os,by simp_all,λ_ _=>rfl,λi h1 ad=>by omega⟩
 |m+1=>by
  obtain⟨aT,bp,g1,g2⟩:=Xl h m;have af:aT.length=os.length+m:=by
   have:=bp.len;simp only[fv,FO,h.len]at this;omega
  have:=bp.push (x:=.nilFunc) (bD:=.bm) (grownBy.uY w none) (by simp[bJ]) trivial;refine⟨aT++ [(.nilFunc,.bm)],?_,λi hi=> ?_,λi h1 ad=> ?_⟩
  ·rw[OD,<-km];omega
  all_goals grind
theorem agw{f:FuncId}{args:List ak}{fH:List Value}{K:ak->bK->Prop}(h:ch aE a8 n os s a w)(af:fH.length=args.length)(an:∀ (i:Nat) v d,fH[i]?=some v->args[i]?=some d->bg (bi aE os) os w v d)(ap:VS P f args s K):
  (∀ (vs:Array Value) (w:World),(callFunc f vs).run P w= .ok (.enter f vs) w)/\Calls P f fH.toArray w λe w'=>∃v r aT s',e= .returned v/\ch aE a8 n aT s' a w'/\bg (bi aE aT) aT w' v r/\K r s':=by
 obtain⟨pass,ap⟩:=ap;obtain⟨l,ap,iP,agx⟩:=Xj (J:=jl (Ds pass args)) h fH args af an (λe j he aq aW=>agu he aq aW) ap;obtain⟨hI,s1,h1,ap,fK,sI⟩:=xI _ h ap;obtain⟨L,ko,kept,bL,d,jm,oz,xO,GR,ap⟩:=ap;simp only[cq]at oz;obtain⟨⟨⟨⟨⟨o5,wA⟩,gV⟩,ax⟩,xN⟩,Bc⟩:=oz;simp only[l4]at ax;have ax:∀i∈pass,i<s1.loc.length:=λi hi=>nz (ax i hi);obtain⟨k4,ad,g1,g2⟩:=Xl h1 (bL.length-L.length);obtain⟨xA,GP,_⟩:=xM (k:=0) o5;obtain⟨ez,_⟩:=GN xO;obtain⟨na,GS⟩:=KP GR;have au6:=h1.len;have PV:=ad.len;simp only[fv,FO]at PV;generalize ov:bO s1.loc.length (bL.length-L.length)=news at *
 have agy:sB (s1.loc++List.replicate (bL.length-L.length) .bm) (dn (pass++news)) pass L:=by
  have gen:∀ (p:List Nat) (q:List aZ),(∀i∈p,i<s1.loc.length)->sB s1.loc (dn (pass++news)) p q->sB (s1.loc++List.replicate (bL.length-L.length) .bm) (dn (pass++news)) p q:=by
   intro p;induction p with
   |nil=>intro q _ h;cases q<;>exact h
   |cons i p aY=>
    intro q hi h;cases q with
    |nil=>exact h
    |cons o q=>
     refine⟨?_,aY q (λi aA=>hi i (by grind)) h.2⟩;have:=h.1;rw[ln]at this⊢
     grind
  grind
 have core:=KG (s:=⟨s1.env,s1.loc++List.replicate (bL.length-L.length) .bm⟩) (news:=news) (pass:=pass) (J:=yM pass kept) ad jm (λk i hk aW=>.inl (W4 ((xM (k:=0) o5).1.trans ez.symm) hk aW)) o5 wA (by
   rw[List.nodup_append];refine⟨GJ gV,by rw[<-ov];exact Xk _ _,λi hi j aq e=> ?_⟩;subst e;rw[<-ov,KO]at aq
   grind) (λi hi=>by grind) (λi hi=>by
   rw[<-ov,KO]at hi
   grind) (by rw[<-ov,KN];omega) Bc (by omega) agy (fH:=fH) (by grind) (λi v d ab aa=>by
   have eI:=(eL.1 ab).1;have qy:=eP (l:=l) (i:=i) (by omega);have ah:=(agx i v _ ab qy).hq fK sI (λj aq aA=>agv aA aq);have kv: (ko.map (k0 (dn (pass++news))))[i]?=some (k0 (dn (pass++news)) d):=by grind
   have lS:=ah.ib (GS i _ _ qy kv);have xm:dx (bi aE hI) (mb aE k4 []) w w:=dx.ib (λb ac=>by
    rcases ac with ac| ⟨q,y,aU,bV,dp,_,cy⟩
    ·exact .inl ac
    ·by_cases agz:q<hI.length
     ·rw[g1 q agz]at bV;exact .inr ⟨q,y,aU,bV,dp,cy⟩
     grind)
   refine lS.cC xm (λq y bD bV=>⟨bD,?_,by cases bD<;>simp[er]⟩)
   grind)
 refine⟨jm.1,core.mono λe w' he=> ?_⟩
 grind
end
open Go
section
variable {P:Program} {ag:dH} {aE:Nat->Prop} {a8:e5} {n:Nat} {os:c2} {s:bK} {a:Act} {w:World} {o:Oper} {K:bK->Prop} {A:Nat->Prop}
theorem hS.agA{cells:List Value}{es:List (List ak)}{aB k:Nat}(h:hS A w cells es aB)(hk:k<=es.length):hS A w (cells.take (k*aB)) (es.take k) aB:=by
 have hle:k*aB<=es.length*aB:=kJ _ hk;refine⟨by rw[kZ,h.len,kZ,Nat.min_eq_left hk];omega,λr ao=>h.jP r (nR ao),λv ab=>h.eg v (nR ab),λeQ j r d hp aq=> ?_⟩;have gl:=(eL.1 hp).1;rw[kZ]at gl;rw[rK,b6 (by omega)]at hp;have hc:=h.jP _ (fo hp);have gT:=(eL.1 aq).1;have: (eQ+1) *aB<=k*aB:=kJ _ (by omega);rw[uG]at this;rw[rK,b6 (by omega)];exact h.hq eQ j r d hp aq
theorem D1(ay:dv P ag=true){t e e':TypeId}{x hi:Operand}{j k aB:Nat}{es:List (List ak)}{uQ:IntKind}{Q:Exit->Act->World->Prop}
  (aH:o.op= .slice t x none (some hi) none) (aa:∀t,o.dst=some t->t<n) (h:ch aE a8 n os s a w) (ah:bG s x= .own j) (hk: (aF ag t).k= .fc e') (aw:bR s.loc j= .row e aB es) (cE: (aF ag e').size=aB) (qp:bG s hi= .v (.int uQ (k:Int))) (hle:k<=es.length)
  (ap:gq (s.grow j e aB (es.take k)) o.dst (.own j) K):o.wp P a w (dN aE a8 n K) Q:=by
 have hu:=lL ay hk;have D3:=h.bG x;rw[ah]at D3;rw[h.loc]at aw;obtain⟨kw,ni⟩:=kO aw (by simp);have nd:=D3.q6 ni;subst nd;have nW:=h.bG hi;rw[qp]at nW;have nW:a.eval hi= .int uQ (k:Int):=nW.j1.1;obtain⟨xs,b2,GI,ao⟩:=ww (h.cV _ _ _ ni);have ae: (aF ag e').size≠0:=by omega
 have PJ:xs.length=es.length*aB:=b2.1;have nc:∀ {v':Value},(execOp a.eval o).run P w= .ok (.value v') w->w.ownsRow 0 e aB v' (es.take k).length (xs.take (k*aB))->(∀b,bJ v'=some b->bJ (a.eval x)=some b)->o.wp P a w (dN aE a8 n K) Q:=λ{v'} et wy ac=>by
  refine jD et ?_;have jE:=h.sub (i:=j) (r:=.a1) (x':=v') (gR:=.row e aB (es.take k)) ni (grownBy.uY _ _) (λb _ cy=>.inl (ac b cy)) (λaT PE=> ?_) (λaT _=>.bT .a1)
  ·have lu:gq ⟨pC (sy j .a1) s.env,gr (oU (kK j .a1) s.loc) j (.row e aB (es.take k))⟩ o.dst (.own j) K:=ap;refine dN.put jE aa (.own (e:=e) (aB:=aB) (es:=es.take k) ?_ (wx wy)) lu
   grind
  ·have ls:dx (bi aE os) (bi aE aT) w w:=by
    refine⟨bP _,λb lp ab=> ?_,λb lp aW=>rfl⟩;rcases ab with ab| ⟨i,z,aU,aq,dp,cy⟩
    ·exact .inl ab
    ·rw[PE]at aq;by_cases aG:i=j
     ·subst aG;rw[oS (by grind)]at aq;cases aq;exact .inr ⟨_,_,_,ni,by simp,ac b cy⟩
     ·rw[v1 (λe'=>aG e'.symm),e7]at aq;cases ne:os[i]? with
      |none=>grind
      |some p=>
       rw[ne]at aq;cases aq;exact .inr ⟨i,_,_,ne,λe=>dp (by rw[e];rfl),cy⟩
   exact rU (es:=es.take k) (λb cy=>DM (h.cV _ _ _ ni) b (ac b cy)) wy GI ((ao.agA hle).cC ls)
 rcases b2.2 with⟨ab,aR⟩| ⟨g,cap,cur,ab,cr,bC,rV,qs,lN,Ku⟩
 ·have GD:k=0:=by omega
  subst GD;have dE:=sF (P:=P) (w:=w) (bP 0);refine nc (v':=.slice none 0 0) ?_ ⟨by simp,.inl ⟨rfl,by simp⟩⟩ (λb ac=>by cases ac);simp[execOp,aH,ab,nW,Instr.sliceAt,gE hu,Instr.slice,Instr.sliceBounds,jQ ay ae,Instr.sliceBound,asIntOf]
 ·have dE:=sF (P:=P) (w:=w) (show k<=cap by omega);have sM: (⟨g,0,none⟩:Addr).add (0*aB)= ⟨g,0,none⟩:=by unfold Addr.add;split<;>simp_all
  have et: (execOp a.eval o).run P w= .ok (.value (.slice (some ⟨g,0,none⟩) k cap)) w:=by
   simp only[execOp,aH,ab,nW,qh,st,Instr.sliceAt,dY,gE hu,dT,Instr.slice,Instr.sliceBounds,ey,dE,jQ ay ae,cE,sM,ite_self,ON]
  have agB:k*aB<=es.length*aB:=kJ _ hle;have gl: (es.take k).length=k:=by grind
  refine nc et ⟨by grind,.inr ⟨g,cap,cur,by rw[gl],cr,bC,by omega,qs,lN,?_⟩⟩ (λb ac=>by rw[ab];exact ac)
  grind
end
open Go
section
variable {P:Program} {ag:dH} {aE:Nat->Prop} {a8:e5} {n:Nat} {os:c2} {s:bK} {a:Act} {w:World} {o:Oper} {K:bK->Prop} {A:Nat->Prop} {B:Nat}
theorem Xm{f:FuncId}{args:List ak}{fH:List Value}{K:ak->bK->Prop}(h:ch aE a8 n os s a w)(af:fH.length=args.length)(an:∀ (i:Nat) v d,fH[i]?=some v->args[i]?=some d->bg (bi aE os) os w v d)(ap:JW P f args s K):
  (∀ (vs:Array Value) (w:World),(callFunc f vs).run P w= .ok (.enter f vs) w)/\Calls P f fH.toArray w λe w'=>∃v r aT s',e= .returned v/\ch aE a8 n aT s' a w'/\bg (bi aE aT) aT w' v r/\K r s':=by
 obtain⟨l,⟨cO,r,hle,jm,ap⟩,ct⟩:=GG (J:=jl (hb args)) h fH args af an (λd j aa aq=>A9 aa aq) ap;refine⟨jm.1,(jm.2 _ w fH (λb ac=> ?_) (ct.le hle)).mono λe w' he=> ?_⟩
 ·rcases ac with ac| ⟨i,x,aU,hi,aa,_,cy⟩
  ·exact h.DK ac
  ·exact((h.cV i x aU hi).iX aa cy).2
 ·obtain⟨v,rfl,hi,aw⟩:=he;cases Bg:hb args with
  |nil=>
   rw[Bg]at ap hi;refine⟨v,r,os,s,rfl,h.qm aw,.bT ?_,ap⟩;refine hi.cC (dx.ib (λb ac=> ?_));rcases ac with ac| ⟨i,x,aU,hi,aa,cy⟩
   ·exact .inl ac
   ·exact .inr ⟨i,x,aU,hi,aa,by simp[jl],cy⟩
  |cons d ds=>
   rw[Bg]at ap hi;simp only at ap;split at ap
   ·rename_i ae;exact⟨v,r,os,s,rfl,h.qm aw,.bT (WS ae hi),ap⟩
   ·obtain⟨aT,s',ao,hk,ah,_⟩:=xI _ h ap;exact⟨v,r,aT,s',rfl,ao.qm aw,.bT (hi.cC (dx.ib ah)),hk⟩
theorem Bh{f:Operand}{k:FuncId}{cu:List Value}{args:Array Operand}{fg:Array TypeId}(aH:o.op= .call {callee:=.value f,args:=args,argTypes:=fg})(az:a.eval f= .func (.func k) #[] cu.toArray)
  (aj:∀ (vs:Array Value) (w:World),(callFunc k vs).run P w= .ok (.enter k vs) w): (execOp a.eval o).run P w= .ok (.enter k (args.toList.map a.eval++cu).toArray) w:=by
 have: (#[]++args.map a.eval++cu.toArray)=(args.toList.map a.eval++cu).toArray:=by simp
 simp only[execOp,aH,resolve,az,Deferred.ofValue,dY,ey,dT,invoke,aj];simp
theorem Bi{vs:List Value}{l:List Operand}{ds cu:List ak}{ρ:Operand->ak}(aa:ds=l.map ρ)(ah:∀x∈l,bg A os w (a.eval x) (ρ x))(af:vs.length=cu.length)(an:∀ (i:Nat) v d,vs[i]?=some v->cu[i]?=some d->bg A os w v d):
  (l.map a.eval++vs).length=(ds++cu).length/\∀ (i:Nat) v d,(l.map a.eval++vs)[i]?=some v->(ds++cu)[i]?=some d->bg A os w v d:=by
 grind
theorem GU{Q:Exit->Act->World->Prop}{d:ak}(h:ch aE a8 n os s a w)(aa:∀t,o.dst=some t->t<n)(aw:∃x,(execOp a.eval o).run P w= .ok (.value x) w/\bg (bi aE os) os w x d)(ap:gq s o.dst d K):o.wp P a w (dN aE a8 n K) Q:=by
 obtain⟨x,et,ao⟩:=aw;exact jD et (dN.put h aa ao ap)
theorem KQ{d:ak}{Q:ak->Prop}(h:ha d Q):Q d:=iv.1 h
theorem agC(ay:dv P ag=true){t:TypeId}{x y:Operand}{Q:Exit->Act->World->Prop}(aH:o.op= .store t x y)(h:ch aE a8 n os s a w)(aa:∀t,o.dst=some t->t<n)(ae: (aF ag t).size≠0)(ap:F8 ag s o.dst t (bG s x) (bG s y) K):o.wp P a w (dN aE a8 n K) Q:=by
 unfold F8 at ap;have ah:=h.bG x;split at ap
 ·rename_i i k off eb;rw[eb]at ah;split at ap
  ·rename_i e aB es ez af;rw[h.loc]at af;obtain⟨x',hi⟩:=kO af (by simp);obtain⟨g,m,c,rfl,kN⟩:=ah.Gl hi;obtain⟨gd,pO,ap⟩:=ap;split at ap
   ·rename_i ac;simp only[cq]at ac;exact af5 ay aH h aa ae kN hi rfl ez pO (fz ac.1) (nz ac.2) ap
   grind
  grind
 grind
theorem Xn(ay:dv P ag=true){t:TypeId}{x y:Operand}{d:ak}{Q:Exit->Act->World->Prop}(aH:o.op= .store t x y)(h:ch aE a8 n os s a w)(aa:∀t,o.dst=some t->t<n)(e:bG s y=d)(h1:∀b ck,d≠ .ca b ck)(ad:∀l,d≠ .bd l)(aN:d≠ .a1)(ap:AM ag s o.dst t x y d K):o.wp P a w (dN aE a8 n K) Q:=by
 unfold AM at ap;have ah:=h.bG x;split at ap
 ·grind
 ·rename_i ae;split at ap
  ·rename_i i off eb;rw[eb]at ah;obtain⟨g,eD,dG,hi,kN⟩:=ah.q5;split at ap
   ·rename_i t2 cs af;rw[h.loc]at af;obtain⟨x',df⟩:=kO af (by simp);rw[hi]at df;cases df;split at ap
    ·grind
    ·rename_i ac;simp only[cq]at ac;exact WD ay aH h aa ae kN hi e h1 ad aN (fz ac.1) (nz ac.2) (xi.1 ap)
   grind
  ·rename_i i off eb;rw[eb]at ah;obtain⟨g,eD,dG,hi,kN⟩:=ah.yU;split at ap
   ·rename_i t2 cs af;rw[h.loc]at af;obtain⟨x',df⟩:=kO af (by simp);rw[hi]at df;cases df;split at ap
    ·rename_i ac;exact WD ay aH h aa ae kN hi e h1 ad aN (fz ac) ap.1 ap.2
    grind
   grind
  ·obtain⟨aT,s',bp,ap,_,_⟩:=xI _ h ap;exact agC ay aH bp aa ae (iv.1 ap)
  grind
theorem agD(d:Nat){t e:TypeId}{p:Option Addr}{n c:Nat}(h:P.underlying t=some (.slice e)): (Op.equalIn (d+1) t (.slice p n c) (.slice none 0 0)).run P w= .ok p.isNone w:=by
 cases p<;>simp[Op.equalIn,gE h]
variable{t e:TypeId}{p:Option Addr}
theorem Xo{n c:Nat}(h:P.underlying t=some (.slice e)): (Op.equal t (.slice p n c) (.slice none 0 0)).run P w= .ok p.isNone w:=agD 9999 h
theorem Xp{op:BinOp}{t:TypeId}{x y:Operand}{p:Option Addr}{n c:Nat}{v:Value}:eqGuard op t x y (.slice p n c) v=pure ():=by cases op<;>rfl
theorem agE{n c:Nat}(h:P.underlying t=some (.slice e)): (binOp .eql t (.slice p n c) (.slice none 0 0)).run P w= .ok (.bool p.isNone) w:=by
 show (do pure (Value.bool (<-Op.equal t (.slice p n c) (.slice none 0 0))):Sem Value).run P w=_;simp only[dY,Xo h,dT,ey]
theorem agF{n c:Nat}(h:P.underlying t=some (.slice e)): (binOp .neq t (.slice p n c) (.slice none 0 0)).run P w= .ok (.bool (!p.isNone)) w:=by
 show (do pure (Value.bool (!(<-Op.equal t (.slice p n c) (.slice none 0 0)))):Sem Value).run P w=_;simp only[dY,Xo h,dT,ey]
theorem Xq{d:ak}{x:Value}{R:Bool->Prop}(h:ch aE a8 n os s a w)(ah:bg (bi aE os) os w x d)(ap:JY s.loc d R):∃p m c,x= .slice p m c/\R p.isNone:=by
 unfold JY at ap;split at ap
 ·have:=ah.o0
  grind
 ·have lq:=ah.nB;cases lq with
  |ar=>grind
  |nil=>grind
 ·split at ap
  ·rename_i j e aB es af;rw[h.loc]at af;obtain⟨x',df⟩:=kO af (by simp);have:=ah.q6 df;subst this;obtain⟨_,xs,⟨_,fj⟩,_⟩:=h.cV _ _ _ df
   grind
  grind
 grind
theorem KR(ay:dv P ag=true)(aR: (aF ag 0).size=0){Q:Exit->Act->World->Prop}(h:ch aE a8 n os s a w)(aa:∀t,o.dst=some t->t<n)(ap:Dt ag P o s K):o.wp P a w (dN aE a8 n K) Q:=by
 unfold Dt at ap;split at ap
 ·rw[h.loc]at ap;obtain⟨c,d,ap,aw⟩:=Gx ay aR h.cV (ρ:=bG s) (a:=a) (λx _=>h.bG x) ap;obtain⟨aj,ap⟩:=q7.1 ap;exact GU h aa (aw aj) ap
 ·split at ap
  ·-- alloc
   rename_i t aH;split at ap
   ·grind
   ·rename_i ae;exact afO ay aH h aa ae ap
  ·-- box
   rename_i t x aH;have ap:=KQ ap;split at ap
   ·rename_i cs e;exact WA aH h aa e (by simp) (by simp) (by simp) (xi.1 ap)
   ·grind
   ·grind
   ·grind
   ·rename_i d h1 ad aN bt;have o4:dc (bG s x)=[bG s x]:=by
     generalize bG s x=d at *;cases d<;>first|rfl|exact absurd rfl (h1 _)
    refine WA aH h aa rfl (λb ck e=>ad b ck e) (λl e=>aN l e) (λe=>bt e) ?_
    grind
  ·-- store
   rename_i t x y aH;have ap:=KQ ap;split at ap
   ·grind
   ·grind
   ·grind
   ·rename_i d h1 ad aN;exact Xn ay aH h aa rfl (λb ck e=>h1 b ck e) (λl e=>ad l e) (λe=>aN e) ap
  ·-- buildSlice
   rename_i t m parts aH;split at ap
   ·rename_i e hk;split at ap
    ·rename_i m1 ae ac;have hle:=nz ac;obtain⟨aT,s',bp,ap⟩:=WT _ h ap;exact af3 ay aH hk (by omega) hle bp aa ap
    grind
   grind
  ·-- makeSlice
   rename_i t l c aH;split at ap
   ·rename_i e hk;split at ap
    ·rename_i m1 y5 Pr tE wE ae el iM;obtain⟨m,N,rfl,rfl,A7,ac,c5,ap⟩:=ap;have af:=h.bG l;have aj:=h.bG c;rw[el]at af;rw[iM]at aj;exact afW ay aH hk (by omega) h aa af.j1.1 aj.j1.1 A7 ac c5 ap
    grind
   grind
  ·-- a cut of a row
   rename_i t x dK hi eU aH;split at ap
   ·rename_i j eb;split at ap
    ·rename_i e aB es af;split at ap
     ·rename_i bC;split at ap
      ·rename_i e' hk;split at ap
       ·rename_i ac;have ac:=fz ac;obtain⟨k,⟨⟨uQ,o3⟩,hle⟩,ap⟩:=ap;exact D1 ay aH aa h eb hk af ac o3 hle ap
       grind
      grind
     ·rw[h.loc]at af;obtain⟨x',df⟩:=kO af (by simp);obtain⟨bp,_⟩:=h.jO df;rw[bp.loc]at ap;obtain⟨c,d,ap,aw⟩:=Gx (o:=o) ay aR bp.cV (ρ:=bG (s.jO j aB es)) (a:=a) (λx _=>bp.bG x) (by rw[aH];exact ap);obtain⟨aj,ap⟩:=q7.1 ap;exact GU bp aa (aw aj) ap
    grind
   grind
  ·-- a au7 bytes
   rename_i src dst x aH;split at ap
   ·rename_i j eb;split at ap
    ·rename_i e aB es af;rw[h.loc]at af;obtain⟨x',df⟩:=kO af (by simp);obtain⟨bp,_⟩:=h.jO df;rw[bp.loc]at ap;obtain⟨c,d,ap,aw⟩:=Gx (o:=o) ay aR bp.cV (ρ:=bG (s.jO j aB es)) (a:=a) (λx _=>bp.bG x) (by rw[aH];exact ap);obtain⟨aj,ap⟩:=q7.1 ap;exact GU bp aa (aw aj) ap
    grind
   grind
  ·-- a slice au8 nil
   rename_i op t x y u aH;split at ap
   ·rename_i e hk Ps;have bn:=h.bG y;rw[Ps]at bn;have bn:=bn.o0;have hu:=lL ay hk;unfold VT at ap;split at ap
    ·obtain⟨p,m,c,ah,ap⟩:=Xq h (h.bG x) ap;exact GU h aa ⟨.bool p.isNone,by
      simp only[execOp,aH,ah,bn,Xp,dY,ey,dT];rw[agE hu];rfl,.bT (.v rfl)⟩ ap
    ·obtain⟨p,m,c,ah,ap⟩:=Xq h (h.bG x) ap;exact GU h aa ⟨.bool (!p.isNone),by
      simp only[execOp,aH,ah,bn,Xp,dY,ey,dT];rw[agF hu];rfl,.bT (.v rfl)⟩ ap
    grind
   grind
  ·-- append
   rename_i args fg aH;split at ap
   ·rename_i x y t eD bb iO;split at ap
    ·rename_i e lO hk;have lO:=fz lO;split at ap
     ·grind
     ·rename_i ae;exact WJ ay aH bb iO lO hk ae h aa ap
    grind
   grind
  ·-- copy
   rename_i args fg aH;split at ap
   ·rename_i x y t eD bb iO;split at ap
    ·rename_i e lO hk;have lO:=fz lO;split at ap
     ·grind
     ·rename_i ae;exact PK ay aH bb iO lO hk ae h aa ap
    grind
   grind
  ·-- a call
   rename_i f args fg aH;split at ap
   ·rename_i k cu k5;have az:=h.bG f;rw[k5]at az;obtain⟨vs,ab,af,an⟩:=az.tA;have ap:=xC ap;obtain⟨h1,ad⟩:=Bi (l:=args.toList) rfl (λx _=>h.bG x) af an;have agG: (∀ (vs:Array Value) (w:World),(callFunc k vs).run P w= .ok (.enter k vs) w)/\Calls P k (args.toList.map a.eval++vs).toArray w λe w'=>∃v r aT s',e= .returned v/\ch aE a8 n aT s' a w'/\bg (bi aE aT) aT w' v r/\gq s' o.dst r K:=by
     rcases ap with ap|ap
     ·exact Xm h h1 ad ap
     ·exact agw h h1 ad ap
    obtain⟨aj,wF⟩:=agG;unfold Oper.wp;rw[Bh aH ab aj];refine wF.mono λe w' he=> ?_;obtain⟨v,r,aT,s',rfl,ao,u5,hk⟩:=he;exact dN.put ao aa u5 hk
   grind
  grind
end
open Go
section
variable {P:Program} {ag:dH} {aE:Nat->Prop} {a8:e5} {n:Nat} {os:c2} {s:bK} {a:Act} {w:World} {o:Oper} {K:bK->Prop} {A:Nat->Prop}
theorem agH(ay:dv P ag=true){t ty e:TypeId}(hk: (aF ag t).k= .fc e)(ae: (aF ag e).size≠0){g off m c:Nat}{cur:Array Value}{T:TypeId}(aw:w.heap[g]?=some (.cells cur T (0,0)))(ht:off+m* (aF ag e).size<=cur.size)(aA:0<m):
  ∃dZ:List Value,dZ.length=m* (aF ag e).size/\(∀v∈dZ,v.oneCell'=true)/\(Builtin.clear_ #[t] ty #[.slice (some ⟨g,off,none⟩) m c]).run P w= .ok (.tuple #[]) (w.setRow g (cur.toList.take off++dZ++cur.toList.drop (off+dZ.length)).toArray):=by
 obtain⟨i,hi,_,_,z,bx,nT,af⟩:=rT ay ae;obtain⟨h1,ad,aN⟩:=uV (A:=λ_=>False) (w:=w) nT;have hu:=lL ay hk;have u3: (zeroValue e).run P w= .ok z w:=by simp[zeroValue,typeInfo,hi,bx]
 have cE:z.cells.size=(aF ag e).size:=by
  grind
 have fx:0<(aF ag e).size:=tn ae;have nf: (Builtin.zeroCells z.cells m).toList.length=m* (aF ag e).size:=by simp[Builtin.zeroCells,cE]
 have br:∀v∈ (Builtin.zeroCells z.cells m).toList,v.oneCell'=true:=by
  intro v ab;simp only[Builtin.zeroCells,Array.toList_map,fT]at ab;obtain⟨i,_,rfl⟩:=ab;have ax:i%z.cells.size<z.cells.size:=uH _ (by omega)
  grind
 refine⟨(Builtin.zeroCells z.cells m).toList,nf,br,?_⟩;have b3:=OU P g off T (Builtin.zeroCells z.cells m).toList 0 cur w aw (by omega) br;simp only[xh]at b3;obtain⟨m,rfl⟩:∃ei,m=ei+1:=⟨m-1,by omega⟩
 simp[Builtin.clear_,gE hu,u3,b3]
theorem Xr(ay:dv P ag=true){t ty e:TypeId}(hk: (aF ag t).k= .fc e){cI:Option Addr}{c:Nat}: (Builtin.clear_ #[t] ty #[.slice cI 0 c]).run P w= .ok (.tuple #[]) w:=by
 have hu:=lL ay hk;cases cI<;>simp[Builtin.clear_,gE hu]
theorem hS.cut{cells cells':List Value}{es:List (List ak)}{aB k:Nat}(h:hS A w cells es aB)(hk:k<=es.length)(hlen:cells'.length=cells.length)(br:∀v∈cells',v.oneCell'=true)(aj:∀j,j<k*aB->cells'[j]?=cells[j]?):
  hS A w cells' (es.take k++List.replicate (es.length-k) (List.replicate aB .a1)) aB:=by
 refine⟨?_,λr ao=> ?_,br,λeQ j r d hp aq=> ?_⟩
 ·rw[hlen,h.len]
  simp_all
 ·rcases eo.1 ao with ao|ao
  ·exact h.jP r (nR ao)
  grind
 ·by_cases ax:eQ<k
  ·rw[so (by grind),rK,b6 ax]at hp;have hc:=h.jP _ (fo hp);have gT:=(eL.1 aq).1;rw[aj _ (by
    have: (eQ+1) *aB<=k*aB:=kJ _ (by omega)
    grind)]
   exact h.hq eQ j r d hp aq
  ·have gl:=(eL.1 hp).1;rw[xe (by grind)]at hp;have aA:=fo hp;have ao:=VC aA;subst ao;have gT:=(eL.1 aq).1;have aa:=VC (fo aq);subst aa;simp at gT gl;have:eQ*aB+j<cells'.length:=by
    rw[hlen,h.len];have: (eQ+1) *aB<=es.length*aB:=kJ _ (by omega)
    grind
   exact⟨cells'[eQ*aB+j],eP this,.a1⟩
theorem agI(ay:dv P ag=true){t e e':TypeId}{x dK:Operand}{d1:Tmp}{fV:Oper}{args:Array Operand}{fg:Array TypeId}{j k aB:Nat}{es:List (List ak)}{uQ:IntKind}{Q:Exit->Act->World->Prop}
  (aH:o.op= .slice t x (some dK) none none) (wC:o.dst=some d1) (wG:d1<n) (qx:fV.op= .call {callee:=.builtin .clear,args:=args,argTypes:=fg}) (bb:args.toList=[.tmp d1]) (iO:fg.toList=[t]) (KS:fV.dst=none)
  (h:ch aE a8 n os s a w) (ah:bG s x= .own j) (hk: (aF ag t).k= .fc e') (aw:bR s.loc j= .row e aB es) (cE: (aF ag e').size=aB) (o3:bG s dK= .v (.int uQ (k:Int))) (hle:k<=es.length)
  (ap:K ⟨(d1,.a1)::s.env,gr s.loc j (.row e aB (es.take k++List.replicate (es.length-k) (List.replicate aB .a1)))⟩):
  o.wp P a w (λcP eE=>fV.wp P cP eE (dN aE a8 n K) Q) Q:=by
 have hu:=lL ay hk;have D3:=h.bG x;rw[ah]at D3;rw[h.loc]at aw;obtain⟨kw,hi⟩:=kO aw (by simp);have nd:=D3.q6 hi;subst nd;have nW:=h.bG dK;rw[o3]at nW;have nW:a.eval dK= .int uQ (k:Int):=nW.j1.1;obtain⟨xs,b2,GI,ao⟩:=ww (h.cV _ _ _ hi);have ae: (aF ag e').size≠0:=by omega
 have AW:d1<a.tmps.size:=by rw[h.size];omega
 have agJ:∀mc:Value,(a.put o.dst mc).eval (.tmp d1)=mc:=λmc=>by
  rw[wC];show (a.put (some d1) mc).tmps.getD d1 undef=mc;rw[Wt AW,b6 rfl]
 obtain rfl:args= #[.tmp d1]:=by grind
 obtain rfl:fg= #[t]:=by grind
 have GV:∀ {mc r:Value} {w':World},(Builtin.clear_ #[t] fV.type #[mc]).run P w= .ok r w'->(execOp (a.put o.dst mc).eval fV).run P w= .ok (.value r) w':=λ{mc r w'} ao=>by
  simp only[execOp,qx,resolve,invoke,builtin,dY,ey,dT,C5,om,xg,agJ mc,ao]
 have PW:∀mc:Value,ch aE a8 n os ⟨(d1,.a1)::s.env,s.loc⟩ (a.put o.dst mc) w:=λmc=>by
  rw[wC];exact h.put (dst:=some d1) (λt cH=>by grind) (.bT .a1)
 have DE:es.length-k=0->gr s.loc j (.row e aB (es.take k++List.replicate (es.length-k) (List.replicate aB .a1)))=s.loc:=λaR=>by
  have agK:es.take k=es:=sr (by omega);rw[aR,agK];simp only[List.replicate_zero,jM];rw[mD,h.loc];refine rJ λi=> ?_
  grind
 have idle:∀ {mc:Value},es.length-k=0->(execOp a.eval o).run P w= .ok (.value mc) w->(Builtin.clear_ #[t] fV.type #[mc]).run P w= .ok (.tuple #[]) w->o.wp P a w (λcP eE=>fV.wp P cP eE (dN aE a8 n K) Q) Q:=λ{mc} aR h1 ad=>by
  refine jD h1 (jD (GV ad) ?_);rw[KS];refine⟨os,_,PW mc,?_⟩
  grind
 rcases b2.2 with⟨ab,aR⟩| ⟨g,cap,cur,ab,cr,bC,rV,qs,lN,Ku⟩
 ·have GD:k=0:=by omega
  subst GD;have dE:=sF (P:=P) (w:=w) (bP 0);refine idle (mc:=.slice none 0 0) (by omega) ?_ (Xr ay hk);simp[execOp,aH,ab,nW,Instr.sliceAt,gE hu,Instr.slice,Instr.sliceBounds,jQ ay ae,Instr.sliceBound,asIntOf]
 ·have dE:=sF (P:=P) (w:=w) hle;have et: (execOp a.eval o).run P w= .ok (.value (.slice (if cap=k then some ⟨g,0,none⟩else some ((⟨g,0,none⟩:Addr).add (k*aB))) (es.length-k) (cap-k))) w:=by
   simp only[execOp,aH,ab,nW,qh,st,Instr.sliceAt,dY,gE hu,dT,Instr.slice,Instr.sliceBounds,ey,dE,jQ ay ae,cE]
  by_cases ox:es.length-k=0
  ·rw[ox]at et;exact idle ox et (Xr ay hk)
  ·have sM: (⟨g,0,none⟩:Addr).add (k*aB)= ⟨g,k*aB,none⟩:=by unfold Addr.add;split<;>simp_all
   rw[bo (by omega),sM]at et;have ht:k*aB+(es.length-k) * (aF ag e').size<=cur.size:=by
    rw[cE,<-uG,show k+(es.length-k)=es.length by omega,lN];exact kJ _ rV
   obtain⟨dZ,nf,nT,iy⟩:=agH ay (ty:=fV.type) (c:=cap-k) hk ae bC ht (by omega);rw[cE]at nf;refine jD et (jD (GV iy) ?_);rw[KS];have h1:=PW (.slice (some ⟨g,k*aB,none⟩) (es.length-k) (cap-k));have hT:w.grownBy (w.setRow g (cur.toList.take (k*aB)++dZ++cur.toList.drop (k*aB+dZ.length)).toArray) (bJ (a.eval x)):=by rw[ab];exact Kq
   have GB:k*aB+dZ.length<=cur.toList.length:=by
    grind
   have PJ:xs.length=es.length*aB:=b2.1;have ls:=KD (aE:=aE) (gR:=.row e aB (es.take k++List.replicate (es.length-k) (List.replicate aB .a1))) hi (by simp) hT;have KT:=ao.cut (cells':=xs.take (k*aB)++dZ) hle (by
    rw[fv,kZ,nf,PJ,OM];omega) (λv ab=>by
    rcases eo.1 ab with ab|ab
    ·exact ao.eg v (nR ab)
    grind) (λj aq=>by
    rw[so (by simp_all),rK,b6 aq])
   refine⟨_,_,h1.Gz hi (gR:=.row e aB (es.take k++List.replicate (es.length-k) (List.replicate aB .a1))) ⟨rfl,rfl⟩ (by simp) (by simp) hT ?_,ap⟩;have pN: (es.take k++List.replicate (es.length-k) (List.replicate aB ak.a1)).length=es.length:=by grind
   refine rU (H:=a8) (DM (h.cV _ _ _ hi)) (xs:=xs.take (k*aB)++dZ) ⟨by rw[KT.len],.inr ⟨g,cap,_,by grind,cr,JO w g cur _ e _ bC,by omega,qs,?_,?_⟩⟩ GI (KT.cC ls)
   ·grind
   ·rw[pN];apply rJ;intro i;have agB:k*aB<=es.length*aB:=kJ _ hle;have au9:dZ.length=es.length*aB-k*aB:=by grind
    grind
end
open Go
section
variable {P:Program} {ag:dH} {aE:Nat->Prop} {a8:e5} {n:Nat} {os:c2} {s:bK} {a:Act} {w:World} {o:Oper} {K:bK->Prop} {A:Nat->Prop} {B:Nat} {ρ:Operand->ak} {loc:List aZ} {Q:Option Prop->ak->Prop}
variable{d:ak}
theorem Xs{c:ak->Option Prop}(h:ha d λd=>Q (c d) d):∃c d,Q c d:=⟨c d,d,(iv (K:=λd=>Q (c d) d)).1 h⟩
theorem KU{agg:Bool}{size:Nat}{l:List ak}{R:ak->Prop}(h:mB agg size l R):∃d,R d:=by
 unfold mB at h;split at h
 ·exact⟨_,(Gi h).2⟩
 ·split at h
  ·exact⟨_,iv.1 h⟩
  grind
theorem PX{place:Nat->Nat×Nat}{R:List ak->Prop}:∀ {parts:List (Nat×Operand)} {cs:List ak},rO ρ place parts cs R->∃l,R l
 | [],cs,h=>⟨cs,h⟩
 | (i,x)::r,cs,h=>by
  have h:=iv.1 h;split at h
  ·grind
  ·grind
  ·grind
  ·split at h
   ·exact PX (xi.1 h)
   grind
theorem KV{b:Bool}{d:ak}{R:Option Prop->ak->Prop}(h:ts b d R):∃c d,R c d:=by
 unfold ts at h;split at h<;>exact⟨_,_,h⟩
theorem agL{c x y:Operand}(h:AF ρ c x y Q):∃c d,Q c d:=by
 unfold AF at h;split at h
 ·obtain⟨fF,x',h⟩:=KV h;obtain⟨eR,pI,h⟩:=KV h;obtain⟨_,_,_,_,_,h,_⟩:=Kf (iv.1 (iv.1 h))
  grind
 grind
theorem agM{t:TypeId}{op:BinOp}{x y:ak}(h:Dd ag t op x y Q):∃c d,Q c d:=by
 unfold Dd at h;split at h
 ·split at h
  ·unfold F2 at h;split at h<;>first|exact h.elim|exact⟨_,_,h⟩
  ·split at h
   ·unfold F1 at h;split at h<;>first|exact h.elim|exact⟨_,_,h⟩
   grind
 ·unfold JQ at h;split at h<;>first|exact h.elim|exact⟨_,_,h⟩
 ·split at h
  ·unfold F3 at h;split at h<;>first|exact h.elim|exact⟨_,_,h⟩
  grind
 ·unfold Dc at h;split at h
  ·split at h
   ·obtain⟨_,_,_,_,_,_,h⟩:=Kh h;grind
   ·obtain⟨_,_,_,_,_,_,h⟩:=Kh h;grind
   grind
  grind
 grind
theorem Xt{op:Op}(h:oq ag loc op ρ Q):∃c d,Q c d:=by
 unfold oq at h;split at h
 ·exact⟨_,_,iv.1 h⟩
 ·exact⟨_,_,iv.1 h⟩
 ·exact agL h
 ·unfold xn at h;split at h<;>first|exact h.elim|exact⟨_,_,h⟩| (split at h<;>first|exact h.elim|exact⟨_,_,h⟩)
 ·exact agM h
 ·unfold De at h;split at h<;>first|exact h.elim|exact⟨_,_,h⟩
 ·unfold Df at h
  grind
 ·unfold xo at h;split at h
  ·split at h
   ·grind
   ·split at h
    ·grind
    ·grind
    ·split at h<;>first|exact h.elim|exact⟨_,_,h⟩
    ·exact⟨_,_,(rS h).2⟩
    grind
  grind
 ·unfold Dg at h;split at h
  ·split at h
   ·grind
   ·split at h
    ·obtain⟨_,h⟩:=KU (rS h).2;grind
    grind
  grind
 ·unfold xp at h;split at h
  ·split at h
   ·grind
   ·unfold AG at h
    grind
  ·split at h
   ·grind
   ·unfold Dh at h
    grind
  grind
 ·unfold Di at h;split at h
  ·split at h
   ·grind
   ·split at h
    ·obtain⟨_,_,h⟩:=h;exact Xs h
    grind
   grind
  grind
 ·unfold uM at h;split at h
  ·grind
  ·split at h
   ·obtain⟨_,h⟩:=KU h;grind
   ·split at h
    ·obtain⟨_,h⟩:=KU (rS h).2;grind
    grind
   ·split at h
    ·split at h
     ·grind
     ·obtain⟨_,h⟩:=h;exact Xs h
    grind
   ·split at h
    ·obtain⟨_,h⟩:=h;obtain⟨_,h⟩:=KU (rS h).2;grind
    grind
   grind
 ·unfold Dj at h;split at h
  ·have h:=(rS h).2;split at h
   ·exact⟨_,_,iv.1 h⟩
   grind
  grind
 ·unfold Dk at h
  grind
 ·split at h
  ·have h:=xC h
   grind
  grind
 ·unfold Dm at h;split at h
  ·split at h
   ·obtain⟨_,h⟩:=PX h;grind
   grind
  ·split at h
   ·obtain⟨_,h⟩:=PX h;grind
   grind
  grind
 ·split at h
  ·unfold we at h
   grind
  grind
 ·split at h
  ·unfold AH at h;split at h<;>first|exact h.elim|exact⟨_,_,h⟩
  grind
 ·split at h
  ·unfold AI at h;split at h<;>first|exact h.elim|exact⟨_,_,h⟩
  grind
 grind
variable{R:ak->Prop}
theorem agN(h:wg loc d R):∃d,R d:=by
 unfold wg at h
 grind
theorem Xu:∀ {ds:List ak} {R:List ak->Prop},yK loc ds R->∃l,R l
 | [],R,h=>⟨_,h⟩
 |d::r,R,h=>by
  obtain⟨_,h⟩:=agN h;obtain⟨_,h⟩:=Xu h
  grind
theorem Xv(h:ot loc d R):∃d,R d:=by
 unfold ot at h;split at h
 ·grind
 ·grind
 ·obtain⟨_,h⟩:=Xu h;grind
 all_goals grind
theorem Xw:∀ {ds:List ak} {R:List ak->Prop},Dp loc ds R->∃l,R l
 | [],R,h=>⟨_,h⟩
 |d::r,R,h=>by
  obtain⟨_,h⟩:=Xv h;obtain⟨_,h⟩:=Xw h
  grind
theorem agO(h:uN loc d R):∃d,R d:=by
 unfold uN at h;split at h
 ·obtain⟨_,h⟩:=Xw h;grind
 ·grind
 ·exact Xv h
theorem PY:∀ {ds:List ak} {R:List ak->Prop},tu loc ds R->∃l,R l
 | [],R,h=>⟨_,h⟩
 |d::r,R,h=>by
  obtain⟨_,h⟩:=agO h;obtain⟨_,h⟩:=PY h
  grind
theorem GW{g:Bool}:∀ {l:List Operand} {R:Option Prop->Prop},pF g s l R->∃c,R c
 | [],R,h=>⟨_,h⟩
 |x::r,R,h=>by
  unfold pF at h;split at h
  ·obtain⟨_,h⟩:=GW h;grind
  ·exact GW h
theorem GX{g:Bool}(h:ch aE a8 n os s a w):∀ {l:List Operand} {R:Option Prop->Prop},pF g s l R->∃c,R c/\(Holds c->g=true->∀x∈l,bg (bi aE os) os w (a.eval x) (jA s x))
 | [],R,b4=>⟨_,b4,λ_ _ x ah=>by grind⟩
 |x::r,R,b4=>by
  unfold pF at b4;have ah:=h.bG x;split at b4
  ·rename_i dV d e;obtain⟨c,b4,aj⟩:=GX h b4;refine⟨_,b4,λbC aw y bn=> ?_⟩;obtain⟨h1,ad⟩:=Holds.andO.1 bC;rcases ny.1 bn with rfl|bn
   ·unfold jA;rw[e]at ah⊢;exact ah.yT.1 (Holds.j2.1 h1 aw)
   grind
  ·rename_i xK;obtain⟨c,b4,aj⟩:=GX h b4;refine⟨_,b4,λbC aw y bn=> ?_⟩;rcases ny.1 bn with rfl|bn
   ·have:jA s y=bG s y:=by
     unfold jA;generalize bG s y=d at xK;cases d<;>first|rfl|exact absurd rfl (xK _ _)
    grind
   grind
theorem zb{g:Bool}(aw:g=true){K:bK->Prop}:∀ {l:List Operand} {s:bK},ch aE a8 n os s a w->pG g l s K->∃s',ch aE a8 n os s' a w/\K s'
 | [],s,h,ap=>⟨s,h,ap⟩
 | .tmp t::r,s,h,ap=>by
  unfold pG at ap;split at ap
  ·rename_i dV d e;have ah:=h.env t;rw[e]at ah;have aa:=ah.yT.1 (ap.1 aw);refine zb aw (s:=⟨(t,d)::s.env,s.loc⟩) ⟨h.size,h.defers,h.hv,h.a0,h.loc,λeD=> ?_,h.cV,h.inj⟩ ap.2;simp only[look];split
   ·simp_all
   ·exact h.env eD
  ·exact zb aw h ap
 | .const v::r,s,h,ap=>zb aw (l:=r) h (by unfold pG at ap;exact ap)
 | .global v::r,s,h,ap=>zb aw (l:=r) h (by unfold pG at ap;exact ap)
 | .func v::r,s,h,ap=>zb aw (l:=r) h (by unfold pG at ap;exact ap)
theorem agP(ay:dv P ag=true)(aR: (aF ag 0).size=0){E:Exit->Act->World->Prop}(h:ch aE a8 n os s a w)(aa:∀t,o.dst=some t->t<n)(ap:F9 ag P o true s K):o.wp P a w (dN aE a8 n K) E:=by
 unfold F9 at ap;split at ap
 ·obtain⟨kq,ap,pQ⟩:=GX h ap;rw[h.loc]at ap;obtain⟨_,_,PZ⟩:=Xt ap;have bC:=Holds.andO.1 (q7.1 PZ).1;obtain⟨c,d,ap,aw⟩:=Gx ay aR h.cV (ρ:=jA s) (a:=a) (pQ bC.1 rfl) ap;obtain⟨aj,ap⟩:=q7.1 ap;have lQ:Holds c:=by
   have:=(Holds.andO.1 aj).2;cases c with
   |none=>exact Holds.Pn
   |some p=>exact Holds.j2.2 (Holds.j2.1 this rfl)
  obtain⟨x,et,ao⟩:=aw lQ;exact jD et (dN.put h aa (.ca (λ_=>ao) (λe=>by cases e)) ap)
 ·split at ap
  ·rename_i f args fg aH;split at ap
   ·rename_i k cu k5;split at ap
    ·obtain⟨kq,ap,pQ⟩:=GX h ap;have ap:=xC ap;have bC:Holds kq:=by
      obtain⟨k1,_,_,_,_,aW⟩:=PY ap;exact(q7.1 aW).1
     have oA:=pQ bC rfl;have az:=oA f (by rw[aH];simp[Op.operands,Call.operands]);rw[k5]at az;obtain⟨vs,ab,af,an⟩:=az.tA;obtain⟨h1,ad⟩:=Bi (os:=os) (A:=bi aE os) (w:=w) (a:=a) (l:=args.toList) (ρ:=jA s) rfl (λx ah=>oA x (by rw[aH];simp only[Op.operands,Call.operands];grind)) af an;obtain⟨k1,⟨cO,r,hle,jm,ap⟩,ct⟩:=GG (J:=jl (hb (args.toList.map (jA s)++cu))) h _ _ h1 ad (λd j aa aq=>A9 aa aq) ap;have jm:=jm rfl;have ap:=(q7.1 ap).2;have agQ: (match hb (args.toList.map (jA s)++cu)with
       | []=>gq s o.dst (.ca true r) K
       |_=>match xq r with
        |true=>gq s o.dst (.ca true r) K
        |false=>False)->o.wp P a w (dN aE a8 n K) E:=λap=>by
      unfold Oper.wp;rw[Bh aH ab jm.1];refine(jm.2 _ w _ (λb ac=> ?_) (ct.le hle)).mono λe w' he=> ?_
      ·rcases ac with ac| ⟨i,x,aU,hi,aa,_,cy⟩
       ·exact h.DK ac
       ·exact((h.cV i x aU hi).iX aa cy).2
      ·obtain⟨v,rfl,hi,aw⟩:=he;cases Bg:hb (args.toList.map (jA s)++cu)with
       |nil=>
        rw[Bg]at ap hi;refine dN.put (h.qm aw) aa (.ca (λ_=>.bT (hi.cC (dx.ib (λb ac=> ?_)))) (λe=>by cases e)) ap;rcases ac with ac| ⟨i,x,aU,hi,aa,cy⟩
        ·exact .inl ac
        ·exact .inr ⟨i,x,aU,hi,aa,by simp[jl],cy⟩
       |cons d ds=>
        rw[Bg]at ap hi;simp only at ap;split at ap
        ·rename_i ae;exact dN.put (h.qm aw) aa (.ca (λ_=>.bT (WS ae hi)) (λe=>by cases e)) ap
        grind
     cases Bg:hb (args.toList.map (jA s)++cu)with
     |nil=>grind
     |cons d ds=>
      rw[Bg]at ap agQ;cases ae:xq r with
      |true=>grind
      |false=>
       simp only[ae]at ap;obtain⟨s',bp,lu⟩:=zb rfl h (ap.1 trivial);exact KR ay aR bp aa lu
    ·obtain⟨s',bp,lu⟩:=zb rfl h (ap.1 rfl);exact KR ay aR bp aa lu
   grind
  ·obtain⟨s',bp,lu⟩:=zb rfl h (ap.1 rfl);exact KR ay aR bp aa lu
variable{g:Bool}
theorem agR(h:ch aE a8 n os s a w)(aw:g=false)(aa:∀t,o.dst=some t->t<n)(ap:F9 ag P o g s K):dN aE a8 n K (a.put o.dst undef) w:=by
 subst aw;have gone:∀ {d:ak},gq s o.dst (.ca false d) K->dN aE a8 n K (a.put o.dst undef) w:=λap=>dN.put h aa GA ap;unfold F9 at ap;split at ap
 ·obtain⟨_,ap⟩:=GW ap;obtain⟨_,_,ap⟩:=Xt ap;exact gone (q7.1 ap).2
 ·split at ap
  ·split at ap
   ·split at ap
    ·obtain⟨_,ap⟩:=GW ap;obtain⟨k1,cO,r,_,_,ap⟩:=PY (xC ap);have ap:=(q7.1 ap).2
     grind
    grind
   grind
  grind
theorem agS{c x y:Operand}(h:yO s g c x y Q):∃c d,Q c d:=by
 unfold yO at h;obtain⟨_,h⟩:=GW h;split at h
 ·obtain⟨fF,x',h⟩:=KV h;obtain⟨eR,pI,h⟩:=KV h;obtain⟨_,_,_,_,_,h,_⟩:=Kf (iv.1 (iv.1 h))
  grind
 grind
theorem Xx{c x y:Operand}(aH:o.op= .pick c x y)(D4:∀ {R:Option Prop->Prop},pF true s [c] R->∃kq,R kq/\(Holds kq->bg A os w (a.eval c) (jA s c)))
  (ah:bg A os w (a.eval x) (bG s x)) (bn:bg A os w (a.eval y) (bG s y)) (h:yO s true c x y Q):lo P A os w a o Q:=by
 unfold yO at h;obtain⟨kq,h,aj⟩:=D4 h;split at h
 ·rename_i t Po;obtain⟨fF,x',h,cU⟩:=Ke (A:=A) (os:=os) (w:=w) h;obtain⟨eR,pI,h,dh⟩:=Ke (A:=A) (os:=os) (w:=w) h;obtain⟨p,q,r,aC,aG,h,ao⟩:=Kf (iv.1 (iv.1 h));refine⟨_,_,h,λbC=> ?_⟩;obtain⟨pQ,bC⟩:=Holds.andO.1 bC;obtain⟨sD,xz⟩:=Holds.andO.1 bC;have iM:=aj pQ;rw[Po]at iM;have iM:=iM.j1.1;have kN:t=true->a.eval x= .bool p:=λcH=>by have:=cU _ sD (by grind) ah;rw[aC]at this;exact this.j1.1
  have k2:t=false->a.eval y= .bool q:=λcH=>by have:=dh _ xz (by grind) bn;rw[aG]at this;exact this.j1.1
  have l9:=ao (λhk cH=>by
   have:=kN cH;rw[Wb hk]at this
   grind) (λhk cH=>by
   have:=k2 cH;rw[Wc hk]at this
   grind)
  refine⟨.bool r,?_,.bT (.v rfl)⟩;simp only[execOp,aH,iM,asBool,dY,ey,dT]
  grind
 grind
theorem Xy(ay:dv P ag=true)(aR: (aF ag 0).size=0){E:Exit->Act->World->Prop}(h:ch aE a8 n os s a w)(aa:∀t,o.dst=some t->t<n)(ap:Du ag P o true s K):o.wp P a w (dN aE a8 n K) E:=by
 unfold Du at ap;split at ap
 ·rename_i c x y aH;obtain⟨c,d,ap,aw⟩:=Xx (P:=P) (A:=bi aE os) (os:=os) (w:=w) (a:=a) aH (λb4=>by
   obtain⟨kq,b4,bC⟩:=GX h b4
   grind) (h.bG x) (h.bG y) ap
  obtain⟨aj,ap⟩:=q7.1 ap;obtain⟨x,et,ao⟩:=aw aj;exact jD et (dN.put h aa (.ca (λ_=>ao) (λe=>by cases e)) ap)
 ·exact agP ay aR h aa ap
theorem P0(h:ch aE a8 n os s a w)(aw:g=false)(aa:∀t,o.dst=some t->t<n)(ap:Du ag P o g s K):dN aE a8 n K (a.put o.dst undef) w:=by
 unfold Du at ap;split at ap
 ·obtain⟨_,_,ap⟩:=agS ap;subst aw;exact dN.put h aa GA (q7.1 ap).2
 ·exact agR h aw aa ap
def Bj(n:Nat)(o:Oper):Bool:=
 match o.dst with
 |some t=>Nat.blt t n
 |none=>true
theorem P1(h:Bj n o=true):∀t,o.dst=some t->t<n:=by
 intro t e;unfold Bj at h
 simp_all
theorem KW{b want:Bool}{R:Bool->Prop}:Ga b want R↔R (if want then b else !b):=by cases want<;>exact CY
theorem P2{E:Exit->Act->World->Prop}{o:Oper}{a:Act}{w:World}{next next':Act->World->Prop}(aW:∀a w,next a w->next' a w)(xQ:o.wp P a w next E):o.wp P a w next' E:=by
 unfold Oper.wp at xQ⊢;unfold Oper.upon at xQ⊢;split at xQ
 ·grind
 ·grind
 ·grind
 ·refine xQ.mono λe w' he=> ?_
  grind
 ·exact xQ.mono λv w' he=>aW _ _ he
 all_goals omega
theorem Xz(ay:dv P ag=true)(aR: (aF ag 0).size=0){ops:Array Oper}{E:Exit->Act->World->Prop}{R:bK->Prop}{o:Oper}{r:List Oper}{os:c2}{s:bK}{a:Act}{w:World}(next:∀a w,dN aE a8 n R a w->wpList P ops E r a w)
  (af:Bj n o=true) (h:ch aE a8 n os s a w) (ap:JZ ag P ops.toList o s R):wpList P ops E (o::r) a w:=by
 have aa:=P1 af;unfold JZ at ap;refine wpList_step λq8 lu=> ?_;have step:∀ {a:Act} {w:World},o.wp P a w (dN aE a8 n R) E->o.wp P a w q8 E:=by
  intro a w xQ;exact P2 (λa w jn=>lu a w (next a w jn)) xQ
 split at ap
 ·rename_i aw;rw[b6 (by simp[Region.wanted,aw])];exact step (KR ay aR h aa ap)
 ·rename_i j want aw;have bn:∀d,uR ops.toList s j=d->d≠ .a1->∃t,(ops[j]?).bind (·.dst)=some t/\look s.env t=d:=by
   intro d e aq;unfold uR at e
   grind
  split at ap
  ·rename_i b e;obtain⟨t,cH,sN⟩:=bn _ e (by simp);have ab:=h.env t;rw[sN]at ab;have ab:=ab.j1.1;have o6:yielded ops a.tmps j=some b:=by
    have ax:t<a.tmps.size:=by
     rcases l5 t a.tmps.size with ax|fp
     ·omega
     ·rw[pA,Oc fp]at ab;cases ab
    rw[pA,vT ax]at ab;simp only[qW]at ab;simp[yielded,cH,ax,ab]
   have ap:=KW.1 ap;by_cases ac:b=want
   ·subst ac;rw[b6 (by simp[Region.wanted,aw,o6])];have: (if b then b else !b)=true:=by cases b<;>rfl
    rw[this]at ap;exact step (Xy ay aR h aa ap)
   ·rw[bo (by simp[Region.wanted,aw,o6,ac])];have: (if want then b else !b)=false:=by cases b<;>cases want<;>simp at ac⊢
    exact lu _ _ (next _ _ (P0 h this aa ap))
  ·rename_i g b e;obtain⟨t,cH,sN⟩:=bn _ e (by simp);have ab:=h.env t;rw[sN]at ab;obtain⟨P3,P4⟩:=ab.yT;have ap:=KW.1 ap;cases sO:g with
   |false=>
    have ab:=P4 sO;have o6:yielded ops a.tmps j=none:=by
     have:a.tmps[t]?=none\/a.tmps[t]?=some undef:=by
      rw[pA]at ab
      grind
     rcases this with h1|h1<;>simp[yielded,cH,h1,undef]
    rw[bo (by simp[Region.wanted,aw,o6])];exact lu _ _ (next _ _ (P0 h (by grind) aa ap))
   |true=>
    have ab:=(P3 sO).j1.1;have o6:yielded ops a.tmps j=some b:=by
     have ax:t<a.tmps.size:=by
      rcases l5 t a.tmps.size with ax|fp
      ·omega
      ·rw[pA,Oc fp]at ab;cases ab
     rw[pA,vT ax]at ab;simp only[qW]at ab;simp[yielded,cH,ax,ab]
    by_cases ac:b=want
    ·subst ac;rw[b6 (by simp[Region.wanted,aw,o6])];have: (g&& (if b then b else !b))=true:=by grind
     rw[this]at ap;exact step (Xy ay aR h aa ap)
    ·rw[bo (by simp[Region.wanted,aw,o6,ac])];have: (g&& (if want then b else !b))=false:=by grind
     exact lu _ _ (next _ _ (P0 h this aa ap))
  grind
theorem P5(ay:dv P ag=true)(aR: (aF ag 0).size=0){ops:Array Oper}{E:Exit->Act->World->Prop}{K:bK->Prop}(dk:∀a w,dN aE a8 n K a w->E .normal a w):
  ∀ (l:List Oper) {os:c2} {s:bK} {a:Act} {w:World},l.all (Bj n)=true->ch aE a8 n os s a w->AN ag P ops.toList l K s->wpList P ops E l a w
 | [],os,s,a,w,_,h,ap=>dk a w ⟨os,s,h,ap⟩
 | [o],os,s,a,w,af,h,ap=>by
  simp only[FI,cq]at af;exact Xz ay aR (λa w jn=>dk a w jn) af.1 h ap
 |o::fV::r,os,s,a,w,af,h,ap=>by
  simp only[FI,cq]at af;unfold AN at ap;split at ap
  ·rename_i aj;have next:∀a w,dN aE a8 n (λs=>AN ag P ops.toList r K s) a w->wpList P ops E r a w:=λa w ⟨os,s,h,ap⟩=>P5 ay aR dk r af.2.2 h ap;unfold VU at ap;split at ap
   ·rename_i t x dK args fg d1 aH qx aw hT wC KS;split at ap
    ·rename_i d2 t2 e' j bb iO hk ah;split at ap
     ·rename_i e aB es qv;split at ap
      ·rename_i ac;simp only[cq]at ac;have cY:=fz ac.1.1;have cZ:=fz ac.1.2;have iN:=fz ac.2;subst cY cZ;obtain⟨k,⟨⟨uQ,o3⟩,hle⟩,ap⟩:=ap;have xQ:=agI (Q:=E) (K:=λs=>AN ag P ops.toList r K s) ay aH wC (P1 af.1 _ wC) qx bb iO KS h ah hk qv iN o3 hle ap;refine wpList_step λq8 lu=> ?_;rw[b6 (by simp[Region.wanted,aw])];refine P2 (λcP eE h1=>lu cP eE ?_) xQ;refine wpList_step λava PZ=> ?_;rw[b6 (by simp[Region.wanted,hT])];exact P2 (λa2 gW ad=>PZ a2 gW (next a2 gW ad)) h1
      grind
     grind
    grind
   grind
  ·exact Xz ay aR (λa w ⟨os,s,h,ap⟩=>P5 ay aR dk (fV::r) (by grind) h ap) af.1 h ap
end
open Go
section
variable {P:Program} {ag:dH} {aE:Nat->Prop} {a8:e5} {n:Nat} {os aT:c2} {s t:bK} {a:Act} {w:World} {A dy:Nat->Prop} {B:e5} {m:List aZ}
theorem P6{d:ak}(h:kn m d=true):kL m d=true:=by
 cases d<;>first|exact h| (simp[kn]at h)
def GY(m:List aZ)(os aT:c2):Prop:=∀ (i:Nat) (x:Value) (o:aZ),jN (bR m i)=true\/rM (bR m i)=true->os[i]?=some (x,o)->∃aU,aT[i]?=some (x,aU)/\er o aU
theorem P7{os aT:c2}(bb:GY m os aT){i:Nat}{x:Value}{o:aZ}(aA:jN (bR m i)=true)(h:os[i]?=some (x,o)):∃aU,aT[i]?=some (x,aU)/\er o aU:=bb i x o (.inl aA) h
theorem XA{os aT:c2}(bb:GY m os aT){i:Nat}{x:Value}{o:aZ}(aA:rM (bR m i)=true)(h:os[i]?=some (x,o)):∃aU,aT[i]?=some (x,aU)/\er o aU:=bb i x o (.inr aA) h
theorem bg.KX(k:dx A dy w w)(bb:GY m os aT){x:Value}{d:ak}(h:bg A os w x d): (kn m d=true->bg dy aT w x d)/\(kL m d=true->bg dy aT w x d):=by
 induction h with
 |bT h=>exact⟨λ_=>.bT (h.cC k),λ_=>.bT (h.cC k)⟩
 | @aV i off g _ _ h=>
  have key:rM (bR m i)=true->bg dy aT w (.pointer (some ⟨g,off,none⟩)) (.aV i off):=λac=>by
   obtain⟨aU,bp,hk⟩:=XA bb ac h;cases aU<;>simp[er]at hk
   exact .aV bp
  exact⟨key,key⟩
 | @dU i off g _ _ h=>
  have key:rM (bR m i)=true->bg dy aT w (.pointer (some ⟨g,off,none⟩)) (.dU i off):=λac=>by
   obtain⟨aU,bp,hk⟩:=XA bb ac h;cases aU<;>simp[er]at hk
   exact .dU bp
  exact⟨key,key⟩
 | @db i gS off g n c e' mC fG h=>
  have key:jN (bR m i)=true->bg dy aT w (.pointer (some ⟨g,gS*mC+off,none⟩)) (.db i gS off):=λac=>by
   obtain⟨aU,bp,hk⟩:=P7 bb ac h;cases aU<;>simp[er]at hk
   obtain⟨rfl,rfl⟩:=hk;exact .db bp
  exact⟨key,key⟩
 | @own i x _ _ _ h h1=>
  have key:jN (bR m i)=true->bg dy aT w x (.own i):=λac=>by
   obtain⟨aU,bp,hk⟩:=P7 bb ac h;cases aU<;>simp[er]at hk
   exact .own bp h1
  exact⟨key,key⟩
 | @e2 i x y d h aa h1=>
  have key:jN (bR m i)=true->bg dy aT w x d:=λac=>by
   obtain⟨aU,bp,hk⟩:=P7 bb ac h;cases aU<;>simp[er]at hk
   exact .e2 bp aa h1
  rcases aa with rfl| ⟨_,_,rfl⟩
  ·exact⟨key,key⟩
  ·exact⟨key,key⟩
 | @agg vs ds af br _ aY=>
  refine⟨λh=>by simp[kn]at h,λh=>.agg af br (λi v d ab aa=>(aY i v d ab aa).1 ?_)⟩;simp only[kL,l4]at h
  grind
 | @fn f vs ds af iL _ aY=>
  have key:kn m (.fn f ds)=true->bg dy aT w (.func f #[] vs.toArray) (.fn f ds):=λac=>.fn af iL (λi v d ab aa=>by
   have aj:=iL d (fo aa);simp only[kn,l4]at ac;have ad:=ac d (fo aa);cases d<;>simp[l6,mA]at aj
   all_goals first|exact(aY i v _ ab aa).1 ad|exact(aY i v _ ab aa).1 rfl|skip
   all_goals
    rename_i g cu;have:cu=[]:=by cases cu<;>simp_all[mA]
    subst this;exact(aY i v _ ab aa).1 rfl)
  exact⟨key,key⟩
 |bd=>exact⟨λh=>by simp[kn]at h,λh=>by simp[kL,kn]at h⟩
 |ca _ aR aY=>exact⟨λh=>by simp[kn]at h,λh=>by simp[kL,kn]at h⟩
theorem bg.le(k:dx A dy w w)(bb:GY m os aT){d ck:ak}(aa:hP d ck):∀ {x:Value},bg A os w x d->kL m ck=true->bg dy aT w x ck:=by
 induction aa with
 |refl=>exact λh ac=>(h.KX k bb).2 ac
 |nil az=>
  intro x h _;exact .bT ((h.nB.le (.nil az)).cC k)
 |av=>
  intro x h _;rw[h.o0];exact .bT .nil
 |ar=>
  intro x h _;exact .bT ((h.nB.le .ar).cC k)
 |jP af ao bC aY=>
  intro x h _;exact .bT ((h.nB.le (.jP af ao bC)).cC k)
 | @agg cs ds af aj aY=>
  intro x h ac;cases h with
  |bT h=>exact .bT ((h.le (.agg af aj)).cC k)
  |e2 h aa h1=>rcases aa with aa| ⟨_,_,aa⟩<;>cases aa
  | @agg vs _ hs br h=>
   refine .agg (by omega) br (λi v d ab aa=> ?_);have ax:=(eL.1 ab).1;have pK:=eP (l:=cs) (i:=i) (by omega);refine aY i _ d pK aa (h i v _ ab pK) (P6 ?_);simp only[kL,l4]at ac
   grind
 |bd af aj aY=>
  intro x h ac;simp[kL,kn]at ac
 |a1=>exact λ_ _=>.bT .a1
theorem XB{e:List (Nat×ak)}:∀ {e':List (Nat×ak)} (t:Nat),Pg e e'->hP (look e t) (look e' t)
 | [],t,_=>.a1
 |p::r,t,h=>by
  simp only[look];split
  ·rename_i ac;have:=fz ac;subst this;exact h.1
  ·exact XB t h.2
theorem XC:∀ {e:List (Nat×ak)} (t:Nat),Dq m e=true->kL m (look e t)=true
 | [],t,_=>rfl
 |p::r,t,h=>by
  simp only[Dq,cq]at h;simp only[look];split
  ·grind
  ·exact XC t h.2
theorem KY:∀ {l cO:List aZ} {i:Nat} {aU:aZ},Dz l cO->cO[i]?=some aU->∃o,l[i]?=some o/\hr o aU
 |l,[],i,aU,_,hi=>by grind
 | [],_::_,i,aU,h,hi=>h.elim
 |o::r,p::eH,0,aU,h,hi=>by simp at hi;subst hi;exact⟨o,rfl,h.1⟩
 |o::r,p::eH,i+1,aU,h,hi=>by
  obtain⟨q,h1,ad⟩:=KY (i:=i) h.2 (by simpa using hi)
  grind
theorem Bk:∀ {l:List aZ} {i:Nat} {cs:List ak},oW m l=true->l[i]?=some (.cD cs)->∀d∈cs,kn m d=true
 | [],i,_,_,hi=>by grind
 | .cD dG::r,0,cs,h,hi=>by
  simp at hi;subst hi;simp only[oW,cq,l4]at h
  grind
 | .cD dG::r,i+1,cs,h,hi=>by
  simp only[oW,cq]at h;exact Bk (i:=i) h.2 (by grind)
 | .cells _ _::r,0,cs,h,hi=>by grind
 | .cells _ _::r,i+1,cs,h,hi=>by
  simp only[oW,cq]at h;exact Bk (i:=i) h.2 (by grind)
 | .row _ _ _::r,0,cs,h,hi=>by grind
 | .row _ _ _::r,i+1,cs,h,hi=>Bk (i:=i) (l:=r) h (by grind)
 | .bm::r,0,cs,h,hi=>by grind
 | .bm::r,i+1,cs,h,hi=>Bk (i:=i) (l:=r) h (by grind)
 | .gone::r,0,cs,h,hi=>by grind
 | .gone::r,i+1,cs,h,hi=>Bk (i:=i) (l:=r) h (by grind)
theorem agT{o aU:aZ}(h:hr o aU)(aa:aU≠ .bm):er o aU:=by
 cases h with
 |refl=>cases o<;>simp[er]
 |cells _ _=>rfl
 |cD _ _=>simp[er]
 |bm=>grind
theorem P8{o aU:aZ}(h:hr o aU)(aa:aU≠ .bm):o≠ .bm:=by
 cases h with
 |refl=>exact aa
 |cells _ _=>simp
 |cD _ _=>simp
 |bm=>grind
theorem XD{l:List aZ}{i:Nat}{x:Value}{aU:aZ}(h: ((os.map (·.1)).zip l)[i]?=some (x,aU)):l[i]?=some aU/\∃o,os[i]?=some (x,o):=by
 grind
theorem ch.P9(h:ch aE a8 n os s a w)(b3:s.le t):∃aT,ch aE a8 n aT t a w/\(∀ (i:Nat) (x:Value) (aU:aZ),aT[i]?=some (x,aU)->∃o,os[i]?=some (x,o)/\hr o aU)/\(∀ (v:Value) (d:ak),bg (bi aE os) os w v d->kL t.loc d=true->bg (bi aE aT) aT w v d)/\∀b,bi aE aT b->bi aE os b:=by
 obtain⟨he,af,ac⟩:=b3;simp only[cq]at ac;obtain⟨nD,hf⟩:=ac;have get:∀ {i:Nat} {x:Value} {aU:aZ},((os.map (·.1)).zip t.loc)[i]?=some (x,aU)->∃o,os[i]?=some (x,o)/\hr o aU:=by
  intro i x aU hi;obtain⟨h1,o,ad⟩:=XD hi;obtain⟨fV,aN,bt⟩:=KY af h1;rw[h.loc,e7,ad]at aN
  grind
 have tH:∀ {i:Nat},i<t.loc.length->i<os.length:=by
  intro i hi;obtain⟨o,aH,_⟩:=KY af (eP hi);rw[h.loc]at aH
  grind
 have ra:GY t.loc os ((os.map (·.1)).zip t.loc):=by
  intro i x o aA aH;have nW:bR t.loc i≠ .bm:=by
   intro e;rw[e]at aA;simp[jN,rM]at aA
  have hi:i<t.loc.length:=by
   rcases l5 i t.loc.length with h1|h1
   ·exact h1
   ·exact absurd (by rw[ln,xf h1];rfl) nW
  obtain⟨fV,h1,ad⟩:=KY af (eP hi);rw[h.loc,e7,aH]at h1;cases h1;refine⟨t.loc[i],?_,agT ad (by rw[ln,eP hi]at nW;grind)⟩
  grind
 have fK:∀b,bi aE ((os.map (·.1)).zip t.loc) b->bi aE os b:=by
  rintro b (ac| ⟨i,x,aU,hi,aa,cy⟩)
  ·exact .inl ac
  ·obtain⟨o,aH,hle⟩:=get hi;exact .inr ⟨i,x,o,aH,P8 hle aa,cy⟩
 have k:dx (bi aE os) (bi aE ((os.map (·.1)).zip t.loc)) w w:=dx.ib fK;refine⟨(os.map (·.1)).zip t.loc,⟨h.size,h.defers,h.hv,h.a0,?_,λu=>(h.env u).le k ra (XB u he) (XC u nD),λi x aU hi=> ?_,λi j x o y aU b hi aq d1 d2 cY cZ=> ?_⟩,λi x aU hi=>get hi,λv d ab ac=>(ab.KX k ra).2 ac,fK⟩
 ·rw[List.map_snd_zip]
  grind
 ·obtain⟨o,aH,hle⟩:=get hi;have fI:=h.cV i x o aH;have zc:=(XD hi).1;cases hle with
  |refl=>
   cases aU with
   |bm=>exact trivial
   |gone=>exact fI
   |cD ds=>
    obtain⟨aC,aG,bc,cn⟩:=fI;exact⟨aC,aG,bc,λj v d ab aa=>((cn j v d ab aa).KX k ra).1 (Bk hf zc d (fo aa))⟩
   |cells ty cs=>
    obtain⟨g,arr,rfl,cr,bC,ae,br,ao⟩:=fI;exact⟨g,arr,rfl,cr,bC,ae,br,λj v d ab aa=>((ao j v d ab aa).KX k ra).1 (y8 hf zc d (fo aa))⟩
   |row e aB es=>
    obtain⟨jB,xs,b2,cE,hc,br,ao⟩:=fI;exact⟨jB,xs,b2,cE,hc,br,λeQ j r d h1 ad=>by
     obtain⟨v,ab,hi⟩:=ao eQ j r d h1 ad;exact⟨v,ab,hi.cC k⟩⟩
  |bm=>exact trivial
  | @cD cs ds gQ aj=>
   obtain⟨aC,aG,bc,cn⟩:=fI;refine⟨aC,by omega,bc,λj v d ab aa=> ?_⟩;have ax:=(eL.1 aa).1;have pK:=eP (l:=cs) (i:=j) (by omega);exact(cn j v _ ab pK).le k ra (aj j _ d pK aa) (P6 (Bk hf zc d (fo aa)))
  | @cells ty cs ds gQ aj=>
   obtain⟨g,arr,rfl,cr,bC,ae,br,ao⟩:=fI;refine⟨g,arr,rfl,cr,bC,by omega,br,λj v d ab aa=> ?_⟩;have ax:=(eL.1 aa).1;have pK:=eP (l:=cs) (i:=j) (by omega);exact(ao j v _ ab pK).le k ra (aj j _ d pK aa) (P6 (y8 hf zc d (fo aa)))
 ·obtain⟨p,an,k1⟩:=get hi;obtain⟨q,bV,Gq⟩:=get aq;exact h.inj i j x p y q b an bV (P8 k1 d1) (P8 Gq d2) cY cZ
theorem ch.le(h:ch aE a8 n os s a w)(b3:s.le t):∃aT,ch aE a8 n aT t a w:=by
 obtain⟨aT,bp,_⟩:=h.P9 b3
 grind
theorem Qa{e:TypeId}{aB:Nat}(h:ch aE a8 n os s a w):ch aE a8 n (os++ [(.slice none 0 0,.row e (aB+1) [])]) ⟨s.env,s.loc++ [.row e (aB+1) []]⟩ a w:=
 DN (x:=.slice none 0 0) (e:=e) (aB:=aB+1) (es:=[]) (xs:=[]) h (grownBy.uY w none) (by simp[bJ]) ⟨by simp,.inl ⟨rfl,rfl⟩⟩ (OO _) .nil
theorem XE{t:Nat}{K:bK->Prop}{os:c2}{s:bK}(h:ch aE a8 n os s a w)(ap:J6 t s K):∃aT s',ch aE a8 n aT s' a w/\K s':=by
 unfold J6 at ap;split at ap
 ·split at ap
  ·rename_i e aB es af;rw[h.loc]at af;obtain⟨x',df⟩:=kO af (by simp);obtain⟨bp,_⟩:=h.jO df
   grind
  grind
 grind
theorem bg.xR{ρ:Nat->Nat}(cM:∀ (k:Nat) x bD,(∀ds,bD≠ .cD ds)->bD≠ .bm->os[k]?=some (x,bD)->aT[ρ k]?=some (x,gP ρ bD))(k:dx A dy w w){v:Value}{d:ak}(h:bg A os w v d): (v.oneCell'=true->bg dy aT w v (rQ ρ d))/\bg dy aT w v (k0 ρ d):=by
 have qu:∀ {v:Value} {d:ak},b8 A w v d->b8 dy w v (rQ ρ d)/\b8 dy w v (k0 ρ d):=by
  intro v d bx;induction bx with
  |v h=>exact⟨.v h,.v h⟩
  |ar xs aW aj aA az cE al ac br dD ah aY=>exact⟨(b8.ar xs aW aj aA az cE al ac br dD ah).cC k,(b8.ar xs aW aj aA az cE al ac br dD ah).cC k⟩
  |nil=>exact⟨.nil,.nil⟩
  |av=>exact⟨.av,.av⟩
  |agg af br h aY=>
   refine⟨(b8.agg af br h).cC k,.agg (by grind) br (λj v d ab aa=> ?_)⟩
   grind
  | @bd vs ds af h aY=>
   refine⟨(b8.bd af h).cC k,.bd (by grind) (λj v d ab aa=> ?_)⟩
   grind
  |c9 xs al ac br dD ah _=>exact⟨(b8.c9 xs al ac br dD ah).cC k,(b8.c9 xs al ac br dD ah).cC k⟩
  | @fn f vs ds af h _=>
   have key:b8 dy w (.func f #[] vs.toArray) (.fn f (ds.map (sA ρ))):=by
    refine .fn (by grind) (λj v d ab aa=> ?_);rw[e7]at aa;cases aq:ds[j]? with
    |none=>grind
    |some e=>
     rw[aq]at aa;simp at aa;subst aa;have ad:=h j v e ab aq;cases e
     case aV=>cases ad
     all_goals exact ad.cC k
   exact⟨key,key⟩
  |ca _ aR aY=>exact⟨.ca (λac=>(aY ac).1) aR,.ca (λac=>(aY ac).2) aR⟩
  |a1=>exact⟨.a1,.a1⟩
 induction h with
 |bT h=>exact⟨λ_=>.bT (qu h).1,.bT (qu h).2⟩
 |aV h=>have:=cM _ _ _ (by simp) (by simp) h;exact⟨λ_=>.aV this,.aV this⟩
 |dU h=>have:=cM _ _ _ (by simp) (by simp) h;exact⟨λ_=>.dU this,.dU this⟩
 |db h=>have:=cM _ _ _ (by simp) (by simp) h;exact⟨λ_=>.db this,.db this⟩
 |own h h1=>have:=cM _ _ _ (by simp) (by simp) h;exact⟨λ_=>.own this h1,.own this h1⟩
 |e2 h aa h1=>
  have:=cM _ _ _ (by rcases aa with rfl| ⟨_,_,rfl⟩<;>simp) (by rcases aa with rfl| ⟨_,_,rfl⟩<;>simp) h;rcases aa with rfl| ⟨_,_,rfl⟩
  ·exact⟨λ_=>.e2 this (.inl rfl) h1,.e2 this (.inl rfl) h1⟩
  ·exact⟨λ_=>.e2 this (.inr ⟨_,_,rfl⟩) h1,.e2 this (.inr ⟨_,_,rfl⟩) h1⟩
 | @agg vs ds af br _ aY=>
  refine⟨λh=>by simp[Value.oneCell']at h,.agg (by grind) br (λj v d ab aa=> ?_)⟩
  grind
 | @fn f vs ds af iL bC aY=>
  have key:bg dy aT w (.func f #[] vs.toArray) (.fn f (ds.map (sA ρ))):=by
   refine .fn (by grind) (λd aa=> ?_) (λj v d ab aa=> ?_)
   ·obtain⟨e,he,rfl⟩:=fT.1 aa;have:=iL e he;cases e<;>first|exact this|rfl
   ·rw[e7]at aa;cases aq:ds[j]? with
    |none=>grind
    |some e=>
     rw[aq]at aa;simp at aa;subst aa;have ad:=(aY j v e ab aq).2;have aj:=iL e (fo aq);cases e
     case fn g cs=>
      have:cs=[]:=by cases cs<;>simp_all[l6,mA]
      subst this;exact ad
     all_goals first|exact ad| (simp[l6,mA]at aj)
  exact⟨λ_=>key,key⟩
 | @bd vs ds af b2 bC aY=>
  refine⟨λh1=>by simp[Value.oneCell']at h1,.bd (by grind) (λj v d ab aa=> ?_) (λj v d ab aa=> ?_)⟩
  ·rw[e7]at aa;cases aq:ds[j]? with
   |none=>grind
   |some e=>
    rw[aq]at aa;simp at aa;subst aa;rcases b2 j v e ab aq with aH|aH
    ·cases e<;>simp[mX]at aH
     exact .inl rfl
    grind
  ·rw[e7]at aa;cases aq:ds[j]? with
   |none=>grind
   |some e=>
    rw[aq]at aa;simp at aa;subst aa;rcases b2 j v e ab aq with aH|aH
    ·have ad:=bC j v e ab aq;cases e<;>simp[mX]at aH
     exact(aY j v _ ab aq).1 ad.DF.1
    ·exact .bT (qu aH).1
 |ca _ aR aY=>exact⟨λh1=>.ca (λac=>(aY ac).1 h1) aR,.ca (λac=>(aY ac).2) aR⟩
theorem Qb(f:aZ->aZ):∀l:List aZ,yR f l=l.map f
 | []=>rfl
 |o::r=>by rw[yR,Qb f r,om]
theorem GZ(i j k:Nat):ks i j k=if k=i then j else if k=j then i else k:=by
 unfold ks;cases h:Nat.beq k i with
 |true=>simp_all
 |false=>
  have h1:k≠i:=λe=>by simp_all
  cases ad:Nat.beq k j with
  |true=>
   simp_all
  |false=>
   have aN:k≠j:=λe=>by simp_all
   grind
theorem Qc(i j k:Nat):ks i j (ks i j k)=k:=by
 simp only[GZ];split<;>split<;> (try split)<;>omega
theorem Qd{i j:Nat}{K:bK->Prop}{os:c2}{s:bK}(h:ch aE a8 n os s a w)(ap:Gf i j s K):∃aT s',ch aE a8 n aT s' a w/\K s':=by
 unfold Gf at ap;split at ap
 case h_2=>grind
 rename_i ac;have hlen:s.loc.length=os.length:=by rw[h.loc,bF]
 simp only[cq,Nat.blt_eq,hlen]at ac;obtain⟨hi,aq⟩:=ac;have zd:∀k,ks i j k<os.length↔k<os.length:=λk=>by
  rw[GZ];split<;> (try split)<;>omega
 let aT:c2:=(List.range os.length).map λk=>((os.getD (ks i j k) (undef,.bm)).1,tv (ks i j) (os.getD (ks i j k) (undef,.bm)).2)
 have key:∀k,aT[k]?=(os[ks i j k]?).map λp=>(p.1,tv (ks i j) p.2):=λk=>by
  grind
 have cM:∀ (k:Nat) x bD,os[k]?=some (x,bD)->aT[ks i j k]?=some (x,tv (ks i j) bD):=λk x bD hk=>by
  rw[key,Qc,hk];rfl
 have Qe:∀ (k:Nat) x bD,(∀ds,bD≠ .cD ds)->bD≠ .bm->os[k]?=some (x,bD)->aT[ks i j k]?=some (x,gP (ks i j) bD):=λk x bD aW _ hk=>by
  have:=cM k x bD hk;cases bD with
  |cD ds=>grind
  |_=>exact this
 have back:∀ {k:Nat} {x:Value} {aU:aZ},aT[k]?=some (x,aU)->∃o,os[ks i j k]?=some (x,o)/\aU=tv (ks i j) o:=λ{k x aU} hk=>by
  grind
 have fL:∀ {o:aZ},tv (ks i j) o≠ .bm->o≠ .bm:=λ{o} aa e=>by
  subst e;exact aa rfl
 have fK:∀b,bi aE aT b->bi aE os b:=by
  rintro b (ac| ⟨k,x,aU,hk,aa,cy⟩)
  ·exact .inl ac
  ·obtain⟨o,aH,rfl⟩:=back hk;exact .inr ⟨_,x,o,aH,fL aa,cy⟩
 have k:dx (bi aE os) (bi aE aT) w w:=dx.ib fK;refine⟨aT,_,⟨h.size,h.defers,h.hv,h.a0,?_,λu=> ?_,λq x aU bV=> ?_,λp q x o y aU b an bV d1 d2 cY cZ=> ?_⟩,ap⟩
 ·show Ph (yR (tv (ks i j)) s.loc) i j=aT.map (·.2);have af:∀k,(yR (tv (ks i j)) s.loc)[k]?=(os[k]?).map λ(p:Value×aZ)=>tv (ks i j) p.2:=λk=>by
   rw[Qb,h.loc,oT,e7];rfl
  have aw:∀k,k<os.length->(os[k]?).map (λ(p:Value×aZ)=>tv (ks i j) p.2)=some (bR (yR (tv (ks i j)) s.loc) k):=λk hk=>by
   rw[ln,af,eP hk];rfl
  have wH: (yR (tv (ks i j)) s.loc).length=os.length:=by
   rw[Qb,bF,hlen]
  apply rJ;intro q;rw[e7,key];unfold Ph;rw[mD,mD,C2,C2,af,Option.map_map];simp only[Oy,wH];by_cases aC:j=q
  ·subst aC;have:ks i j j=i:=by
    rw[GZ];split<;>simp_all
   grind
  ·rw[bo aC];by_cases aG:i=q
   ·subst aG;have:ks i j i=j:=by
     rw[GZ];simp
    grind
   ·have:ks i j q=q:=by
     rw[GZ,bo (λe=>aG e.symm),bo (λe=>aC e.symm)]
    rw[bo aG,this];rfl
 ·show bg _ _ _ _ (look (pC (k0 (ks i j)) s.env) u);rw[DD _ rfl];exact(bg.xR Qe k (h.env u)).2
 ·obtain⟨o,aH,rfl⟩:=back bV;have fI:=h.cV _ x o aH;cases o with
  |bm=>exact trivial
  |gone=>exact fI
  |cD ds=>
   obtain⟨ah,af,br,ao⟩:=fI;refine⟨ah,by grind,br,λjk v d ab aa=> ?_⟩;rw[e7]at aa;cases aj:ds[jk]? with
   |none=>grind
   |some e=>
    rw[aj]at aa;simp at aa;subst aa;exact(bg.xR Qe k (ao jk v e ab aj)).1 (br v (fo ab))
  |cells ty cs=>
   obtain⟨g,arr,rfl,cr,bC,ae,br,ao⟩:=fI;refine⟨g,arr,rfl,cr,bC,by grind,br,λjk v d ab aa=> ?_⟩;rw[e7]at aa;cases aj:cs[jk]? with
   |none=>grind
   |some e=>
    rw[aj]at aa;simp at aa;subst aa;exact(bg.xR Qe k (ao jk v e ab aj)).1 (br v (fo (by rw[xb];exact ab)))
  |row e aB es=>
   obtain⟨jB,xs,b2,cE,hc,br,ao⟩:=fI;exact⟨jB,xs,b2,cE,hc,br,λeQ jk r d h1 ad=>by
    obtain⟨v,ab,hi⟩:=ao eQ jk r d h1 ad;exact⟨v,ab,hi.cC k⟩⟩
 ·obtain⟨dw,j3,rfl⟩:=back an;obtain⟨fV,qx,rfl⟩:=back bV;have:=h.inj _ _ x dw y fV b j3 qx (fL d1) (fL d2) cY cZ;rw[<-Qc i j p,this,Qc]
theorem u9:∀ (q4:List Ge) {os:c2} {s:bK} {K:bK->Prop},ch aE a8 n os s a w->sC q4 s K->∃aT s',ch aE a8 n aT s' a w/\K s'
 | [],os,s,K,h,ap=>⟨os,s,h,ap⟩
 | .jO t::r,os,s,K,h,ap=>by
  obtain⟨aT,s',bp,lu⟩:=XE h ap;exact u9 r bp lu
 | .ho _ _ _::r,os,s,K,h,ap=>u9 r h ap
 | .cell _ _ _ _::r,os,s,K,h,ap=>u9 r h ap
 | .swap i j::r,os,s,K,h,ap=>by
  obtain⟨aT,s',bp,lu⟩:=Qd h ap;exact u9 r bp lu
 | .ql _ _::r,os,s,K,h,ap=>u9 r h ap
 | .fresh _ _::r,os,s,K,h,ap=>u9 r h ap
 | .fa _ _::r,os,s,K,h,ap=>u9 r h ap
 | .oY _::r,os,s,K,h,ap=>u9 r h ap
 | .yQ t i::r,os,s,K,h,ap=>by
  unfold sC at ap;split at ap
  ·obtain⟨aT,s',bp,lu⟩:=Qd h ap;exact u9 r bp lu
  ·exact u9 r h ap
theorem ch.buried{i:Nat}{y:Value}{re:aZ}(h:ch aE a8 n os s a w)(hi:os[i]?=some (y,re))(aH:re= .bm\/∃e aB es,re= .row e aB es):ch aE a8 n (os.set i (.nilFunc,.gone)) ⟨s.env,gr s.loc i .gone⟩ a w:=by
 have KZ:=(eL.1 hi).1;have cM:∀ {j:Nat} {z:Value} {aU:aZ},(os.set i (.nilFunc,.gone))[j]?=some (z,aU)->(z= .nilFunc/\aU= .gone)\/(j≠i/\os[j]?=some (z,aU)):=by
  grind
 have bb:∀ (q:Nat) (x:Value) (o:aZ),os[q]?=some (x,o)->o≠ .bm->(∀e aB es,o≠ .row e aB es)->(os.set i (.nilFunc,.gone))[q]?=some (x,o):=λq x o bV aa ao=>by
  grind
 have wD: (os.set i (.nilFunc,.gone))[i]?=some (.nilFunc,.gone):=oS KZ;have ze:∀ (q:Nat) (x:Value) (o:aZ),q≠i->os[q]?=some (x,o)->(os.set i (.nilFunc,.gone))[q]?=some (x,o):=λq x o bV h=>by
  grind
 have fK:∀b,bi aE (os.set i (.nilFunc,.gone)) b->bi aE os b:=by
  rintro b (ab| ⟨j,z,aU,aq,dp,cy⟩)
  ·exact .inl ab
  ·rcases cM aq with⟨rfl,rfl⟩| ⟨_,aq⟩
   ·simp[bJ]at cy
   ·exact .inr ⟨_,_,_,aq,dp,cy⟩
 have k:dx (bi aE os) (bi aE (os.set i (.nilFunc,.gone))) w w:=dx.ib fK;have kP:∀ {x:Value} {d:ak},bg (bi aE os) os w x d->bg (bi aE (os.set i (.nilFunc,.gone))) (os.set i (.nilFunc,.gone)) w x d:=by
  intro x d ao;induction ao with
  |bT h=>exact .bT (h.cC k)
  |aV h=>exact .aV (bb _ _ _ h (by simp) (by simp))
  |dU h=>exact .dU (bb _ _ _ h (by simp) (by simp))
  | @db q _ _ _ _ _ _ _ _ h=>
   by_cases e:q=i
   ·subst e;exact .e2 wD (.inr ⟨_,_,rfl⟩) rfl
   ·exact .db (ze _ _ _ e h)
  | @own q _ _ _ _ h h1=>
   by_cases e:q=i
   ·subst e;exact .e2 wD (.inl rfl) h1
   ·exact .own (ze _ _ _ e h) h1
  |e2 h aa h1=>exact .e2 (bb _ _ _ h (by simp) (by simp)) aa h1
  |agg af br _ aY=>exact .agg af br aY
  |bd af b2 _ aY=>exact .bd af (λi v d ab aa=>(b2 i v d ab aa).imp id (λh=>h.cC k)) aY
  |fn af iL _ aY=>exact .fn af iL aY
  |ca _ aR aY=>exact .ca aY aR
 refine⟨h.size,h.defers,h.hv,h.a0,by rw[mD,h.loc,nQ],λt=>kP (h.env t),λj z aU aq=> ?_,λnC uZ z dw mH fV b h1 ad d1 d2 cY cZ=> ?_⟩
 ·rcases cM aq with⟨rfl,rfl⟩| ⟨_,aq⟩
  ·rfl
  ·have fI:=h.cV j z aU aq;cases aU with
   |bm=>exact trivial
   |gone=>exact fI
   |cD ds=>
    obtain⟨aC,aG,bc,cn⟩:=fI;exact⟨aC,aG,bc,λi v d ab aa=>kP (cn i v d ab aa)⟩
   |cells ty cs=>
    obtain⟨g,arr,rfl,cr,bC,ae,br,ao⟩:=fI;exact⟨g,arr,rfl,cr,bC,ae,br,λjk v d ab aa=>kP (ao jk v d ab aa)⟩
   |row e aB es=>
    obtain⟨jB,xs,b2,cE,hc,br,ao⟩:=fI;exact⟨jB,xs,b2,cE,hc,br,λeQ jk r d h1 ad=>by
     obtain⟨v,ab,hi⟩:=ao eQ jk r d h1 ad;exact⟨v,ab,hi.cC k⟩⟩
 ·rcases cM h1 with⟨rfl,rfl⟩| ⟨_,g1⟩
  ·simp[bJ]at cY
  ·rcases cM ad with⟨rfl,rfl⟩| ⟨_,g2⟩
   ·simp[bJ]at cZ
   ·exact h.inj _ _ _ _ _ _ b g1 g2 d1 d2 cY cZ
theorem va:∀ (q4:List Ge) {os:c2} {s:bK} {K:bK->Prop},ch aE a8 n os s a w->oZ q4 s K->∃aT s',ch aE a8 n aT s' a w/\K s'
 | [],os,s,K,h,ap=>⟨os,s,h,ap⟩
 | .jO t::r,os,s,K,h,ap=>by
  obtain⟨aT,s',bp,lu⟩:=XE h ap;exact va r bp lu
 | .swap _ _::r,os,s,K,h,ap=>va r h ap
 | .yQ _ _::r,os,s,K,h,ap=>va r h ap
 | .fa i j::r,os,s,K,h,ap=>by
  obtain⟨aT,s',bp,lu⟩:=Qd h ap;exact va r bp lu
 | .oY i::r,os,s,K,h,ap=>by
  unfold oZ at ap;split at ap
  ·rename_i az;have key:∃y o,os[i]?=some (y,o)/\(o= .bm\/∃e aB es,o= .row e aB es):=by
    rw[oR]at az;rcases az with az|az
    ·unfold ou at az;rw[cq]at az;have ax:i<os.length:=by
      have:=nz az.1;have af:=h.len;omega
     have aw:=eP ax;rcases an:os[i]with⟨y,o⟩
     rw[an]at aw;have aa:=az.2;rw[h.loc,ln,e7,aw]at aa;have:o= .bm:=by cases o<;>simp[O3]at aa<;>rfl
     grind
    ·rw[h.loc,ln,e7]at az;cases aw:os[i]? with
     |none=>rw[aw]at az;cases az
     |some p=>
      rw[aw]at az;rcases p with⟨y,o⟩
      cases o<;>simp[jN]at az
      grind
   obtain⟨y,o,aw,aH⟩:=key;exact va r (h.buried aw aH) ap
  grind
 | .ql i off::r,os,s,K,h,ap=>by
  unfold oZ at ap;split at ap
  ·split at ap
   ·obtain⟨aT,s',bp,ap,_,_⟩:=xI _ h ap;exact va r bp ap
   grind
  grind
 | .fresh e aB::r,os,s,K,h,ap=>by
  unfold oZ at ap;split at ap
  ·exact va r (Qa h) ap
  grind
 | .ho t e aB::r,os,s,K,h,ap=>by
  unfold oZ at ap;split at ap
  ·rename_i aB el;have an:=Qa (e:=e) (aB:=aB) h;have ab:=h.env t;rw[el]at ab;have ab:=ab.o0;have b2:bg (bi aE (os++ [(.slice none 0 0,.row e (aB+1) [])])) (os++ [(.slice none 0 0,.row e (aB+1) [])]) w (a.tmps.getD t undef) (.own s.loc.length):=by
    rw[ab,h.len];exact .own y3 rfl
   refine va r (os:=os++ [(.slice none 0 0,.row e (aB+1) [])]) ⟨an.size,an.defers,an.hv,an.a0,an.loc,λu=> ?_,an.cV,an.inj⟩ ap;simp only[look];split
   ·simp_all
   ·exact an.env u
  grind
 | .cell i off e aB::r,os,s,K,h,ap=>by
  unfold oZ at ap;split at ap
  ·rename_i ty cs aB af;split at ap
   ·rename_i aj;have an:=Qa (e:=e) (aB:=aB) h;rw[h.loc]at af;obtain⟨x,hi⟩:=kO af (by simp);have ax:=(eL.1 hi).1;have df: (os++ [(Value.slice none 0 0,aZ.row e (aB+1) [])])[i]?=some (x,.cells ty cs):=by grind
    have hg:=an.Gz (gR:=.cells ty (uL cs off (.own s.loc.length))) df rfl (by simp) (by simp) (grownBy.uY w _) ?_
    ·refine va r (s:=⟨s.env,gr (s.loc++ [.row e (aB+1) []]) i (.cells ty (uL cs off (.own s.loc.length)))⟩) hg ?_;have:gr (s.loc++ [.row e (aB+1) []]) i (.cells ty (uL cs off (.own s.loc.length)))=gr s.loc i (.cells ty (uL cs off (.own s.loc.length)))++ [.row e (aB+1) []]:=by
      rw[mD,mD,List.set_append_left _ _ (by rw[h.len];omega)]
     grind
    ·obtain⟨g,arr,ah,cr,bC,ae,br,ao⟩:=an.cV i x _ df;have jj:=af4 (gR:=.cells ty (uL cs off (.own s.loc.length))) df rfl;have hk:=KD (aE:=aE) (gR:=.cells ty (uL cs off (.own s.loc.length))) df (by simp) (grownBy.uY w _);refine⟨g,arr,ah,cr,bC,by rw[Gk];grind,br,λj v d ab aa=> ?_⟩;rw[Gk,C2]at aa;split at aa
     ·rename_i aq;subst aq;split at aa
      ·cases aa;have:=(ao _ v _ ab aj).o0;subst this;rw[h.len];refine .own (e:=e) (aB:=aB+1) (es:=[]) ?_ rfl
       grind
      grind
     ·exact(ao j v d ab aa).cC hk jj
   grind
  grind
end
open Go
theorem G0:∀ {l e:List (Nat×ak)} {t:Nat},t∉l.map (·.1)->look (l++e) t=look e t
 | [],e,t,_=>rfl
 |p::r,e,t,h=>by
  simp only[om,ny,not_or]at h;simp only[rI,look];split
  ·simp_all
  ·exact G0 h.2
theorem K0:∀ {l e e':List (Nat×ak)} {t:Nat},t∈l.map (·.1)->look (l++e) t=look (l++e') t
 | [],e,e',t,h=>by grind
 |p::r,e,e',t,h=>by
  simp only[om,ny]at h;simp only[rI,look];split
  ·rfl
  ·rename_i ac;rcases h with h|h
   ·simp_all
   ·exact K0 h
theorem Qf(l:List aZ)(i j:Nat)(x:aZ):bR (gr l i x) j=if i=j/\j<l.length then x else bR l j:=by
 rw[ln,ln,mD,C2]
 grind
theorem Qg(l:List aZ)(i:Nat)(x:aZ): (gr l i x).length=l.length:=by rw[mD];simp
theorem XF:∀ (m4:List (Nat×aZ)) (l:List aZ),(q3 l m4).length=l.length
 | [],l=>rfl
 |p::r,l=>by rw[q3,XF r,Qg]
theorem K1{k:Nat}:∀ {m4:List (Nat×aZ)} {l:List aZ},(¬ ∃bD,(k,bD)∈m4)->bR (q3 l m4) k=bR l k
 | [],l,_=>rfl
 |p::r,l,h=>by
  have h1:p.1≠k:=λe=>h ⟨p.2,by grind⟩;rw[q3,K1 (λ⟨bD,aH⟩=>h ⟨bD,by grind⟩),Qf,bo (λbC=>h1 bC.1)]
theorem XG{k:Nat}:∀ {m4:List (Nat×aZ)} {l cO:List aZ},(∃bD,(k,bD)∈m4)->l.length=cO.length->bR (q3 l m4) k=bR (q3 cO m4) k
 | [],l,cO,h,_=>by grind
 |p::r,l,cO,h,af=>by
  by_cases ao:∃bD,(k,bD)∈r
  ·rw[q3,q3];exact XG ao (by rw[Qg,Qg,af])
  ·rw[q3,q3,K1 ao,K1 ao];obtain⟨bD,aH⟩:=h;rcases ny.1 aH with aH|aH
   ·rw[Qf,Qf,<-aH,af];split
    ·rfl
    ·rename_i aW;have aW:¬k<cO.length:=λbC=>aW ⟨rfl,bC⟩;rw[ln,ln,xf (by omega),xf (by omega)]
   grind
def fe.ho(bA:fe)(t:Nat):Prop:=t∈bA.AP.map (·.1)
def fe.cV(bA:fe)(k:Nat):Prop:=∃bD,(k,bD)∈bA.m4
theorem XH(bA:fe)(s:bK): (bA.kM s).loc.length=s.loc.length:=XF _ _
variable{bA:fe}{s:bK}
theorem Bl{t:Nat}(h:¬bA.ho t):look (bA.kM s).env t=look s.env t:=G0 h
variable{s':bK}
theorem K2{t:Nat}(h:bA.ho t):look (bA.kM s).env t=look (bA.kM s').env t:=K0 h
variable{k:Nat}
theorem D5(h:¬bA.cV k):bR (bA.kM s).loc k=bR s.loc k:=K1 h
theorem Qh(h:bA.cV k)(af:s.loc.length=s'.loc.length):bR (bA.kM s).loc k=bR (bA.kM s').loc k:=XG h af
theorem agU(h1:∀t,look s.env t=look s'.env t)(ad:∀k,bR s.loc k=bR s'.loc k)(af:s.loc.length=s'.loc.length):
  (∀t,look (bA.kM s).env t=look (bA.kM s').env t)/\∀k,bR (bA.kM s).loc k=bR (bA.kM s').loc k:=by
 refine⟨λt=> ?_,λk=> ?_⟩
 ·by_cases h:bA.ho t
  ·exact K2 h
  ·rw[Bl h,Bl h,h1]
 ·by_cases h:bA.cV k
  ·exact Qh h af
  ·rw[D5 h,D5 h,ad]
def fC(di:List fe)(fq:bK)(S:Nat->Bool):Nat->bK
 |0=>fq
 |n+1=>match di[n]?,S n with
  |some bA,true=>bA.kM (fC di fq S n)
  |_,_=>fC di fq S n
section
variable {di:List fe} {fq:bK} {S tJ:Nat->Bool}
theorem xS:∀n,(fC di fq S n).loc.length=fq.loc.length
 |0=>rfl
 |n+1=>by
  unfold fC;split
  ·rw[XH,xS n]
  ·exact xS n
theorem K3{t:Nat}:∀n,(∀j bA,j<n->di[j]?=some bA->bA.ho t->S j=tJ j)->look (fC di fq S n).env t=look (fC di fq tJ n).env t
 |0,_=>rfl
 |n+1,h=>by
  have aY:=K3 n (λj bA aq=>h j bA (by omega));cases mI:di[n]? with
  |none=>simp only[fC,mI];exact aY
  |some bA=>
   by_cases ae:bA.ho t
   ·have:=h n bA (by omega) mI ae;cases wI:tJ n<;>simp only[fC,mI,this,wI]
    ·exact aY
    ·exact K2 ae
   ·cases cF:S n<;>cases wI:tJ n<;>simp only[fC,mI,cF,wI]
    all_goals first| (rw[Bl ae,Bl ae];exact aY)| (rw[Bl ae];exact aY)|exact aY
theorem K4{k:Nat}:∀n,(∀j bA,j<n->di[j]?=some bA->bA.cV k->S j=tJ j)->bR (fC di fq S n).loc k=bR (fC di fq tJ n).loc k
 |0,_=>rfl
 |n+1,h=>by
  have aY:=K4 n (λj bA aq=>h j bA (by omega));cases mI:di[n]? with
  |none=>simp only[fC,mI];exact aY
  |some bA=>
   by_cases ae:bA.cV k
   ·have:=h n bA (by omega) mI ae;cases wI:tJ n<;>simp only[fC,mI,this,wI]
    ·exact aY
    ·exact Qh ae (by rw[xS,xS])
   ·cases cF:S n<;>cases wI:tJ n<;>simp only[fC,mI,cF,wI]
    all_goals first| (rw[D5 ae,D5 ae];exact aY)| (rw[D5 ae];exact aY)|exact aY
theorem K5:∀n,(∀j,j<n->S j=tJ j)->fC di fq S n=fC di fq tJ n
 |0,_=>rfl
 |n+1,h=>by
  have aY:=K5 n (λj aq=>h j (by omega));simp only[fC,h n (by omega),aY]
theorem D6{m:Nat}:∀n,m<=n->(∀j,m<=j->j<n->S j=false)->fC di fq S n=fC di fq S m
 |0,aA,h=>by
  grind
 |n+1,aA,h=>by
  by_cases e:m=n+1
  ·grind
  ·have aY:=D6 n (by omega) (λj h1 ad=>h j h1 (by omega));have:=h n (by omega) (by omega);simp only[fC,this]
   grind
structure Bm(di:List fe)(looks:Nat->List Nat)(nX:Nat->Nat->Prop):Prop where
 agV:∀i j bA t,i<j->di[i]?=some bA->bA.ho t->t∈looks j->nX j i
 agW:∀i j bA t,i<j->di[j]?=some bA->bA.ho t->t∈looks i->nX j i
 agX:∀i j bA iz t,i<j->di[i]?=some bA->di[j]?=some iz->bA.ho t->iz.ho t->nX j i
 Qi:∀i j bA iz k,i<j->di[i]?=some bA->di[j]?=some iz->bA.cV k->(k∈iz.kr\/iz.cV k)->nX j i
 agY:∀i j bA iz k,i<j->di[i]?=some bA->di[j]?=some iz->iz.cV k->k∈bA.kr->nX j i
variable {looks:Nat->List Nat} {nX:Nat->Nat->Prop} {N i:Nat} {bA:fe}
theorem agZ(hO:Bm di looks nX)(o4:∀i j,S i=true->nX i j->S j=true)(hi:S i=false)(ao:∀j,nX i j->S j=true)(wJ:i<N){t:Nat}(cH:t∈looks i):
  look (fC di fq S N).env t=look (fC di fq (λ_=>true) i).env t:=by
 have h1:look (fC di fq S N).env t=look (fC di fq (λj=>decide (j<i)) N).env t:=by
  refine K3 N (λj bA aq mI ae=> ?_);rcases JF j i with ax|rfl|vb
  ·rw[ao j (hO.agV j i bA t ax mI ae cH)];grind
  ·grind
  ·have:nX j i:=hO.agW i j bA t vb mI ae cH
   grind
 rw[h1,D6 N (m:=i) (by omega) (λj h1 ad=>by grind),K5 i (tJ:=λ_=>true) (λj aq=>by grind)]
theorem ag0(hO:Bm di looks nX)(o4:∀i j,S i=true->nX i j->S j=true)(hi:S i=false)(ao:∀j,nX i j->S j=true)(wJ:i<N)(me:di[i]?=some bA){k:Nat}(hk:k∈bA.kr\/bA.cV k):
  bR (fC di fq S N).loc k=bR (fC di fq (λ_=>true) i).loc k:=by
 have h1:bR (fC di fq S N).loc k=bR (fC di fq (λj=>decide (j<i)) N).loc k:=by
  refine K4 N (λj iz aq mI ae=> ?_);rcases JF j i with ax|rfl|vb
  ·rw[ao j (hO.Qi j i iz bA k ax mI me ae hk)];grind
  ·grind
  ·have:nX j i:=by
    rcases hk with hk|hk
    ·exact hO.agY i j bA iz k vb me mI ae hk
    ·exact hO.Qi i j bA iz k vb me mI hk (.inr ae)
   grind
 rw[h1,D6 N (m:=i) (by omega) (λj h1 ad=>by grind),K5 i (tJ:=λ_=>true) (λj aq=>by grind)]
theorem ag1(hO:Bm di looks nX)(o4:∀i j,S i=true->nX i j->S j=true)(hi:S i=false)(wJ:i<N)(me:di[i]?=some bA)(t:Nat):
  look (fC di fq (λj=>S j||decide (j=i)) N).env t=look (bA.kM (fC di fq S N)).env t:=by
 by_cases ae:bA.ho t
 ·have h1:look (fC di fq (λj=>S j||decide (j=i)) N).env t=look (fC di fq (λj=>(S j||decide (j=i))&&decide (j<=i)) N).env t:=by
   refine K3 N (λj iz aq mI oB=> ?_);by_cases hle:j<=i
   ·grind
   ·have:nX j i:=hO.agX i j bA iz t (by omega) me mI ae oB
    grind
  rw[h1,D6 N (m:=i+1) (by omega) (λj h1 ad=>by grind)];simp only[fC,me,hi,CX,wb,rH,bP];exact K2 ae
 ·rw[Bl ae];refine K3 N (λj iz aq mI oB=> ?_);by_cases e:j=i;all_goals grind
theorem ag2(hO:Bm di looks nX)(o4:∀i j,S i=true->nX i j->S j=true)(hi:S i=false)(wJ:i<N)(me:di[i]?=some bA)(k:Nat):
  bR (fC di fq (λj=>S j||decide (j=i)) N).loc k=bR (bA.kM (fC di fq S N)).loc k:=by
 by_cases ae:bA.cV k
 ·have h1:bR (fC di fq (λj=>S j||decide (j=i)) N).loc k=bR (fC di fq (λj=>(S j||decide (j=i))&&decide (j<=i)) N).loc k:=by
   refine K4 N (λj iz aq mI oB=> ?_);by_cases hle:j<=i
   ·grind
   ·have:nX j i:=hO.Qi i j bA iz k (by omega) me mI ae (.inr oB)
    grind
  rw[h1,D6 N (m:=i+1) (by omega) (λj h1 ad=>by grind)];simp only[fC,me,hi,CX,wb,rH,bP];exact Qh ae (by rw[xS,xS])
 ·rw[D5 ae];refine K4 N (λj iz aq mI oB=> ?_);by_cases e:j=i;all_goals grind
end
section
variable {ops:Array Oper}
inductive Reach(ops:Array Oper):Nat->Nat->Prop
 |K6{i:Nat}{o:Oper}{e:Edge}(aH:ops[i]?=some o)(he:e∈o.after)(ac:Region.binds .any e=true):Reach ops i e.on
 |trans{i j k:Nat}(h:Reach ops i j)(bp:Reach ops j k):Reach ops i k
theorem Qj{aP:List Nat}:∀ {l:List Edge} {m j:Nat},Nat.testBit (AQ aP l m) j=true->Nat.testBit m j=true\/∃e∈l,Region.binds .any e=true/\(e.on=j\/Nat.testBit (aP.getD e.on 0) j=true)
 | [],m,j,h=>.inl h
 |e::r,m,j,h=>by
  unfold AQ at h;split at h
  ·rename_i ac;rcases Qj h with h| ⟨e',G1,sG,aq⟩
   ·have h:Nat.testBit (m||| (2^e.on|||aP.getD e.on 0)) j=true:=h
    grind
   grind
  ·rcases Qj h with h| ⟨e',G1,sG,aq⟩;all_goals grind
def Qk(ops:Array Oper)(aP:List Nat):Prop:=∀i j,Nat.testBit (aP.getD i 0) j=true->Reach ops i j
theorem XI:∀ {l:List Oper} {aP:List Nat},ops.toList.drop aP.length=l->Qk ops aP->Qk ops (AR l aP)
 | [],aP,_,h=>h
 |o::r,aP,af,h=>by
  have aH:ops[aP.length]?=some o:=by
   have: (ops.toList.drop aP.length)[0]?=some o:=by grind
   grind
  refine XI (l:=r) ?_ (λi j fW=> ?_)
  ·rw[fv,List.length_singleton,<-vX,af];rfl
  ·rcases JF i aP.length with ax|rfl|vb
   ·rw[sn,so ax,<-sn]at fW;exact h i j fW
   ·have: (aP++ [AQ aP o.after.toList 0]).getD aP.length 0=AQ aP o.after.toList 0:=by simp
    rw[this]at fW;rcases Qj fW with aR| ⟨e,he,ac,aq⟩
    ·grind
    ·have G1:e∈o.after:=by grind
     rcases aq with rfl|aq
     ·exact .K6 aH G1 ac
     ·exact .trans (.K6 aH G1 ac) (h _ _ aq)
   grind
theorem XJ:∀ {l:List Oper} {aP:List Nat},(AR l aP).length=aP.length+l.length
 | [],aP=>by rfl
 |o::r,aP=>by rw[AR,XJ];grind
theorem G2{l r:List Nat}{x:Nat}(h1:x∈l)(ad:x∈r):Dw l r=true:=by
 simp only[Dw,List.any_eq_true];exact⟨x,h1,x,ad,by simp⟩
theorem XK{f:uS}{i:Nat}:∀ {fs:List uS} {ms:List Nat} {j:Nat} {g:uS} {m:Nat},Gc f i fs ms=true->fs[j]?=some g->ms[j]?=some m->xv f g=true->Nat.testBit m i=true
 | [],_,j,g,m,_,aw,_,_=>by grind
 |_::_,[],j,g,m,_,_,aA,_=>by grind
 |dV::r,ei::ms,0,g,m,h,aw,aA,aj=>by
  simp at aw aA;subst aw;subst aA;simp only[Gc,cq,oR,mV]at h
  grind
 |dV::r,ei::ms,j+1,g,m,h,aw,aA,aj=>by
  simp only[Gc,cq]at h;exact XK (j:=j) h.2 (by grind) (by grind) aj
theorem XL:∀ {fs:List uS} {ms:List Nat} {b i j:Nat} {f g:uS} {m:Nat},Gd b fs ms=true->i<j->fs[i]?=some f->fs[j]?=some g->ms[j]?=some m->xv f g=true->Nat.testBit m (b+i)=true
 | [],_,b,i,j,f,g,m,_,_,az,_,_,_=>by grind
 |_::_,[],b,i,j,f,g,m,_,_,_,_,aA,_=>by grind
 |lJ::r,ei::ms,b,0,j+1,f,g,m,h,fW,az,aw,aA,aj=>by
  simp at az;subst az;simp only[Gd,cq]at h;exact XK (j:=j) h.1 (by grind) (by grind) aj
 |lJ::r,ei::ms,b,i+1,j+1,f,g,m,h,fW,az,aw,aA,aj=>by
  simp only[Gd,cq]at h;have:=XL (i:=i) (j:=j) h.2 (by omega) (by grind) (by grind) (by simpa using aA) aj
  grind
 |lJ::r,ei::ms,b,i,0,f,g,m,h,fW,az,aw,aA,aj=>by omega
theorem Ql:∀ {l:List Oper} {di:List fe} {i:Nat} {o:Oper} {bA:fe},l[i]?=some o->di[i]?=some bA->(J4 ops l di)[i]?=some (wh ops o bA)
 | [],_,i,o,bA,h,_=>by grind
 |_::_,[],i,o,bA,_,h=>by grind
 |aU::r,iz::di,0,o,bA,h,bp=>by simp at h bp;subst h;subst bp;rfl
 |aU::r,iz::di,i+1,o,bA,h,bp=>by
  simp only[J4,C0];exact Ql (by grind) (by grind)
theorem XM:∀ {l:List Oper} {b i:Nat} {o:Oper},AS l b=true->l[i]?=some o->∀e∈o.after,Region.binds .any e=true->e.on<b+i
 | [],b,i,o,_,h,_,_,_=>by grind
 |aU::r,b,0,o,aa,h,e,he,ac=>by
  simp at h;subst h;simp only[AS,cq,l4]at aa;have:=aa.1 e (by grind)
  simp_all
 |aU::r,b,i+1,o,aa,h,e,he,ac=>by
  simp only[AS,cq]at aa;have:=XM (i:=i) aa.2 (by grind) e he ac;omega
def Bn(ops:Array Oper)(i:Nat):List Nat:=
 match ops[i]? with
 |some o=>o.looksAt ops
 |none=>[]
theorem ag3{di:List fe}(af:di.length=ops.size)(h:J5 ops di=true):Bm di (Bn ops) (Reach ops):=by
 simp only[J5,cq]at h;have ag4:Qk ops (AR ops.toList []):=XI (by simp) (λi j fW=>by grind);have key:∀i j bA iz o aU,i<j->di[i]?=some bA->di[j]?=some iz->ops[i]?=some o->ops[j]?=some aU->xv (wh ops o bA) (wh ops aU iz)=true->Reach ops j i:=by
  intro i j bA iz o aU fW h1 ad aN bt aj;have aq:j<(AR ops.toList []).length:=by
   rw[XJ]
   grind
  have:=XL h.2 fW (Ql (by grind) h1) (Ql (by grind) ad) (eP aq) aj;rw[uI]at this;refine ag4 j i ?_
  grind
 have zf:∀ {i:Nat} {bA:fe},di[i]?=some bA->∃o,ops[i]?=some o:=by
  intro i bA hi;have:=(eL.1 hi).1
  simp_all
 have looks:∀ {i t:Nat},t∈Bn ops i->∃o bA,ops[i]?=some o/\di[i]?=some bA/\t∈o.looksAt ops:=by
  intro i t cH;unfold Bn at cH;split at cH
  ·rename_i o aH;have:=(xa.1 aH).1
   simp_all
  grind
 have XN:∀ {bA:fe} {o:Oper} {k:Nat},bA.cV k->k∈ (wh ops o bA).m4:=by
  rintro bA o k ⟨bD,h⟩;exact fT.2 ⟨_,h,rfl⟩
 refine⟨λi j bA t fW h1 ae cH=> ?_,λi j bA t fW h1 ae cH=> ?_,λi j bA iz t fW h1 ad ae oB=> ?_,λi j bA iz k fW h1 ad hk hp=> ?_,λi j bA iz k fW h1 ad hk hp=> ?_⟩
 ·obtain⟨aU,iz,ku,Qm,cH⟩:=looks cH;obtain⟨o,aH⟩:=zf h1;refine key i j bA iz o aU fW h1 Qm aH ku ?_;simp only[xv,oR];exact .inl (.inl (.inl (G2 (l:=(wh ops o bA).a6) ae (by simp[wh,cH]))))
 ·obtain⟨o,iz,aH,Qm,cH⟩:=looks cH;obtain⟨aU,ku⟩:=zf h1;refine key i j iz bA o aU fW Qm h1 aH ku ?_;simp only[xv,oR];exact .inl (.inl (.inr (G2 (l:=(wh ops o iz).xu) cH ae)))
 ·obtain⟨o,aH⟩:=zf h1;obtain⟨aU,ku⟩:=zf ad;refine key i j bA iz o aU fW h1 ad aH ku ?_;simp only[xv,oR];exact .inl (.inl (.inl (G2 (l:=(wh ops o bA).a6) ae (eo.2 (.inr oB)))))
 ·obtain⟨o,aH⟩:=zf h1;obtain⟨aU,ku⟩:=zf ad;refine key i j bA iz o aU fW h1 ad aH ku ?_;simp only[xv,oR];refine .inl (.inr (G2 (x:=k) (XN hk) (eo.2 ?_)));rcases hp with hp|hp
  ·exact .inl hp
  grind
 ·obtain⟨o,aH⟩:=zf h1;obtain⟨aU,ku⟩:=zf ad;refine key i j bA iz o aU fW h1 ad aH ku ?_;simp only[xv,oR];exact .inr (G2 (l:=(wh ops o bA).kr) hp (XN hk))
end
open Go
def ea(F: (Option Prop->ak->Prop)->Prop):Prop:=∀Q,F Q->∃c d,Q c d/\∀o7,o7 c d->F o7
section
variable {P:Program} {ag:dH} {s:bK} {ρ:Operand->ak} {loc:List aZ}
theorem gx(c:Option Prop)(d:ak):ea (λQ=>Q c d):=λQ h=>⟨c,d,h,λ_ bp=>bp⟩
theorem cz:ea (λ_=>False):=λQ h=>h.elim
theorem oC{α:Type}{F:α->(Option Prop->ak->Prop)->Prop}(h:∀k,ea (F k)):ea (λQ=>∃k,F k Q):=λQ ⟨k,hk⟩=>by
 obtain⟨c,d,h1,ad⟩:=h k Q hk;exact⟨c,d,h1,λo7 bp=>⟨k,ad o7 bp⟩⟩
variable{F:ak->(Option Prop->ak->Prop)->Prop}{d:ak}
theorem sP(h:ea (F d)):ea (λQ=>ha d λd=>F d Q):=by cases d<;>exact h
theorem XO:∀ {n:Nat} {l:List ak} {F:List ak->(Option Prop->ak->Prop)->Prop},(∀l,ea (F l))->ea (λQ=>xl n l λl=>F l Q)
 |0,l,F,h=>h []
 |n+1,[],F,h=>cz
 |n+1,d::r,F,h=>sP (F:=λd Q=>xl n r λl=>F (d::l) Q) (XO (F:=λl Q=>F (d::l) Q) (λl=>h (d::l)))
theorem D7:∀ {n:Nat} {l:List ak} {F:List ak->(Option Prop->ak->Prop)->Prop},(∀l,ea (F l))->ea (λQ=>qY n l λl=>F l Q)
 |0,l,F,h=>h l
 |n+1,[],F,h=>cz
 |n+1,d::r,F,h=>D7 (l:=r) h
theorem K7{agg:Bool}{size:Nat}{l:List ak}{F:ak->(Option Prop->ak->Prop)->Prop}(h:∀d,ea (F d)):ea (λQ=>mB agg size l λd=>F d Q):=by
 cases agg
 ·cases l
  ·exact cz
  ·exact sP (h _)
 ·exact XO (F:=λl Q=>F (.agg l) Q) (λl=>h _)
theorem Qn{place:Nat->Nat×Nat}{F:List ak->(Option Prop->ak->Prop)->Prop}(h:∀l,ea (F l)):∀ {parts:List (Nat×Operand)} {cs:List ak},ea (λQ=>rO ρ place parts cs λl=>F l Q)
 | [],cs=>h cs
 | (i,x)::r,cs=>by
  refine sP (F:=λd Q=>match d with
   | .ca _ _=>False
   | .bd _=>False
   | .a1=>False
   |d=>match Nat.beq (dc d).length (place i).2&&Nat.ble ((place i).1+(dc d).length) cs.length&&Nat.blt 0 (place i).2 with
    |true=>tq (jz cs (place i).1 (dc d)) λdG=>rO ρ place r dG λl=>F l Q
    |false=>False) ?_
  have key:∀d,ea (λQ=>match Nat.beq (dc d).length (place i).2&&Nat.ble ((place i).1+(dc d).length) cs.length&&Nat.blt 0 (place i).2 with
    |true=>tq (jz cs (place i).1 (dc d)) λdG=>rO ρ place r dG λl=>F l Q
    |false=>False):=by
   intro d;generalize(Nat.beq (dc d).length (place i).2&&Nat.ble ((place i).1+(dc d).length) cs.length&&Nat.blt 0 (place i).2)=b;cases b
   ·exact cz
   ·have e: (λQ=>tq (jz cs (place i).1 (dc d)) λdG=>rO ρ place r dG λl=>F l Q)=λQ=>rO ρ place r (jz cs (place i).1 (dc d)) λl=>F l Q:=funext λQ=>propext xi;show ea (λQ=>tq (jz cs (place i).1 (dc d)) λdG=>rO ρ place r dG λl=>F l Q);rw[e];exact Qn h
  generalize ρ x=d;cases d<;>first|exact cz|exact key _
theorem XP{F:List ak->(Option Prop->ak->Prop)->Prop}:∀ {l:List Operand} {F:List ak->(Option Prop->ak->Prop)->Prop},(∀l,ea (F l))->ea (λQ=>tt ρ l λl=>F l Q)
 | [],F,h=>h []
 |x::r,F,h=>sP (F:=λd Q=>tt ρ r λl=>F (d::l) Q) (XP (F:=λl Q=>F (ρ x::l) Q) (λl=>h _))
theorem K8{b:Bool}{d:ak}{F:Option Prop->ak->(Option Prop->ak->Prop)->Prop}(h:∀c d,ea (F c d)):ea (λQ=>ts b d λc d=>F c d Q):=by
 cases d<;>exact h _ _
theorem XQ{c xm AD:Bool}{x y:ak}{F:ak->(Option Prop->ak->Prop)->Prop}(h:∀d,ea (F d)):ea (λQ=>rN c x y xm AD λd=>F d Q):=by
 cases x
 case v x=>
  cases x
  case bool p=>
   cases y
   case v y=>
    cases y
    case bool q=>cases xm<;>cases AD<;>exact h _
    all_goals exact cz
   all_goals exact cz
  all_goals exact cz
 all_goals exact cz
theorem ag5{c a b:Operand}:ea (AF ρ c a b):=by
 unfold AF;generalize ρ c=x;cases x
 case v x=>
  cases x
  case bool t=>
   exact K8 (F:=λfF x Q=>ts (!t) (ρ b) λeR y=>ha x λx=>ha y λy=>rN t x y (sv a) (sw b) λd=>Q (andO fF eR) d)
    (λfF x=>K8 (F:=λeR y Q=>ha x λx=>ha y λy=>rN t x y (sv a) (sw b) λd=>Q (andO fF eR) d)
    (λeR y=>sP (F:=λx Q=>ha y λy=>rN t x y (sv a) (sw b) λd=>Q (andO fF eR) d)
    (sP (F:=λy Q=>rN t x y (sv a) (sw b) λd=>Q (andO fF eR) d) (XQ (F:=λd Q=>Q (andO fF eR) d) (λd=>gx _ _)))))
  all_goals exact cz
 all_goals exact cz
theorem Qo{F:Bool->(Option Prop->ak->Prop)->Prop}:∀ {c7:List qi} {xs ys:List ak} {F:Bool->(Option Prop->ak->Prop)->Prop},(∀b,ea (F b))->ea (λQ=>qZ c7 xs ys λb=>F b Q)
 | [],[],[],F,h=>h true
 |k::c7,x::r,y::eH,F,h=>by
  have aY:∀e,ea (λQ=>qZ c7 r eH λz=>F (e&&z) Q):=λe=>Qo (F:=λz Q=>F (e&&z) Q) (λz=>h _);show ea (λQ=>F0 k x y λe=>qZ c7 r eH λz=>F (e&&z) Q);unfold F0;cases k<;>cases x
  all_goals first|exact cz|skip
  all_goals rename_i p
  all_goals cases p
  all_goals first|exact cz|skip
  all_goals cases y
  all_goals first|exact cz|skip
  all_goals rename_i q
  all_goals cases q
  all_goals first|exact cz|exact aY _|skip
  rename_i k cU a dh b;show ea (λQ=>match sx k cU&&sx k dh with
   |true=>qZ c7 r eH λz=>F (decide (a=b)&&z) Q
   |false=>False)
  generalize(sx k cU&&sx k dh)=e;cases e
  ·exact cz
  ·exact aY _
 | [],[],_::_,F,h=>cz
 | [],_::_,[],F,h=>cz
 | [],_::_,_::_,F,h=>cz
 |_::_,[],[],F,h=>cz
 |_::_,[],_::_,F,h=>cz
 |_::_,_::_,[],F,h=>cz
variable{t:TypeId}
theorem ag6{op:BinOp}{x y:ak}:ea (Dd ag t op x y):=by
 unfold Dd;cases x
 case v x=>
  cases x
  case int k a=>
   cases y
   case v y=>
    cases y
    case int eQ b=>
     show ea (λQ=>match VP op with
      |true=>F2 op k a b Q
      |false=>match sx k eQ with
       |true=>F1 op k a b Q
       |false=>False)
     cases op;all_goals first|exact gx _ _|skip
     all_goals generalize sx k eQ=e
     all_goals cases e
     all_goals first|exact cz|exact gx _ _
    all_goals exact cz
   all_goals exact cz
  case string a=>
   cases y
   case v y=>
    cases y
    case string b=>
     cases op;all_goals first|exact gx _ _|exact cz
    all_goals exact cz
   all_goals exact cz
  case bool a=>
   cases y
   case v y=>
    cases y
    case bool b=>
     show ea (λQ=>match (aF ag t).k with
      | .bool=>F3 op a b Q
      |_=>False)
     generalize(aF ag t).k=k;cases k
     case bool=>cases op<;>first|exact gx _ _|exact cz
     all_goals exact cz
    all_goals exact cz
   all_goals exact cz
  all_goals exact cz
 case agg a=>
  cases y
  case agg b=>
   show ea (λQ=>Dc ag t op a b Q);unfold Dc;generalize flatK ag 5 t=f;generalize(aF ag t).agg=g;cases f
   ·exact cz
   ·cases g
    ·exact cz
    ·cases op
     case eql=>exact Qo (F:=λr Q=>Q none (.v (.bool r))) (λ_=>gx _ _)
     case neq=>exact Qo (F:=λr Q=>Q none (.v (.bool (!r)))) (λ_=>gx _ _)
     all_goals exact cz
  all_goals exact cz
 all_goals exact cz
theorem ag7{c7 k:JP}{d:ak}:ea (Df ag c7 k d):=by
 unfold Df;cases c7
 case int=>
  cases k
  case int=>
   cases d
   case v x=>cases x<;>first|exact gx _ _|exact cz
   all_goals exact cz
  all_goals exact cz
 case str=>
  cases k
  case str=>
   cases d
   case v x=>cases x<;>first|exact gx _ _|exact cz
   all_goals exact cz
  all_goals exact cz
 case fc e=>
  cases k
  case str=>
   cases d
   case ar aB es f=>
    show ea (λQ=>match (aF ag e).k,Nat.beq aB 1 with
     | .int .u8,true=>∃rP:List UInt8,Q (some (es=rP.map AE)) (.v (.string ⟨rP.toArray⟩))
     |_,_=>False)
    generalize(aF ag e).k=k;generalize Nat.beq aB 1=b;cases k
    case int k=>
     cases k
     case u8=>
      cases b
      ·exact cz
      ·exact oC (λ_=>gx _ _)
     all_goals exact cz
    all_goals exact cz
   all_goals exact cz
  all_goals exact cz
 all_goals exact cz
theorem ag8{f:Nat}{d:ak}:ea (xo ag loc t f d):=by
 unfold xo;generalize(aF ag t).k=k;cases k
 case b7 fs=>
  show ea (λQ=>match (aF ag (h3 fs f).1).size with
   |0=>False
   |_=>match d with
    | .aV i o=>Q none (.aV i (o+(h3 fs f).2))
    | .dU i o=>Q none (.dU i (o+(h3 fs f).2))
    | .db i k o=>match jN (bR loc i)with
     |true=>Q none (.db i k (o+(h3 fs f).2))
     |false=>False
    | .c9 cs=>qY (h3 fs f).2 cs λl=>Q none (.c9 l)
    |_=>False)
  generalize(aF ag (h3 fs f).1).size=z;cases z
  ·exact cz
  ·cases d
   case c9 cs=>exact D7 (F:=λl Q=>Q none (.c9 l)) (λl=>gx _ _)
   case db i k o=>
    show ea (λQ=>match jN (bR loc i)with
     |true=>Q none (.db i k (o+(h3 fs f).2))
     |false=>False)
    generalize jN (bR loc i)=b;cases b
    ·exact cz
    ·exact gx _ _
   all_goals first|exact gx _ _|exact cz
 all_goals exact cz
theorem ag9{f:Nat}{d:ak}:ea (Dg ag t f d):=by
 unfold Dg;generalize(aF ag t).k=k;cases k
 case b7 fs=>
  show ea (λQ=>match (aF ag (h3 fs f).1).size with
   |0=>False
   |_=>match d with
    | .agg cs=>qY (h3 fs f).2 cs λl=>mB (aF ag (h3 fs f).1).agg (aF ag (h3 fs f).1).size l λd=>Q none d
    |_=>False)
  generalize(aF ag (h3 fs f).1).size=z;cases z
  ·exact cz
  ·cases d
   case agg cs=>exact D7 (F:=λl Q=>mB _ _ l λd=>Q none d) (λl=>K7 (F:=λd Q=>Q none d) (λd=>gx _ _))
   all_goals exact cz
 all_goals exact cz
theorem aha{size:Nat}{iU:Int}{d:ak}:ea (AG loc size iU d):=by
 unfold AG;cases d
 case ar aB es f=>
  show ea (λQ=>match Nat.beq aB size with
   |true=>∃ (k:Nat) (gd:List ak),Q (some (iU=k/\es[k]?=some gd)) (.c9 gd)
   |false=>False)
  generalize Nat.beq aB size=b;cases b
  ·exact cz
  ·exact oC (λk=>oC (λgd=>gx _ _))
 case own j=>
  show ea (λQ=>match bR loc j with
   | .row _ aB es=>match Nat.beq aB size with
    |true=>∃k:Nat,Q (some (iU=k/\k<es.length)) (.db j k 0)
    |false=>False
   |_=>False)
  generalize bR loc j=bD;cases bD
  case row e aB es=>
   show ea (λQ=>match Nat.beq aB size with
    |true=>∃k:Nat,Q (some (iU=k/\k<es.length)) (.db j k 0)
    |false=>False)
   generalize Nat.beq aB size=b;cases b
   ·exact cz
   ·exact oC (λk=>gx _ _)
  all_goals exact cz
 all_goals exact cz
theorem ahb{n size:Nat}{lit:Option Nat}{iU:Int}{d:ak}:ea (Dh n size lit iU d):=by
 unfold Dh;cases lit
 ·cases d
  case aV=>exact oC (λk=>gx _ _)
  case dU=>exact oC (λk=>gx _ _)
  all_goals exact cz
 ·cases d<;>first|exact gx _ _|exact cz
theorem ahc{i:Operand}{x y:ak}:ea (xp ag loc t i x y):=by
 unfold xp;generalize(aF ag t).k=k;cases k
 case fc e=>
  cases y
  case v y=>
   cases y
   case int Gt iU=>
    show ea (λQ=>match (aF ag e).size with
     |0=>False
     |_=>AG loc (aF ag e).size iU x Q)
    generalize(aF ag e).size=z;cases z
    ·exact cz
    ·exact aha
   all_goals exact cz
  all_goals exact cz
 case arr n e=>
  cases y
  case v y=>
   cases y
   case int Gt iU=>
    show ea (λQ=>match (aF ag e).size with
     |0=>False
     |_=>Dh n (aF ag e).size (JR i) iU x Q)
    generalize(aF ag e).size=z;cases z
    ·exact cz
    ·exact ahb
   all_goals exact cz
  all_goals exact cz
 all_goals exact cz
theorem ahd{x y:ak}:ea (Di ag t x y):=by
 unfold Di;cases y
 case v y=>
  cases y
  case int Gt iU=>
   show ea (λQ=>match (aF ag t).k,x with
    | .str,.v (.string s)=>∃k:Nat,Q (some (iU=k/\k<s.size)) (.v (.int .u8 (s.data.getD k 0).toNat))
    | .arr n e,.agg cs=>match (aF ag e).agg,Nat.beq (aF ag e).size 1 with
     |false,true=>∃ (k:Nat) (d:ak),ha d λd=>Q (some (iU=k/\k<n/\cs[k]?=some d)) d
     |_,_=>False
    |_,_=>False)
   generalize(aF ag t).k=k;cases k
   case str=>
    cases x
    case v x=>cases x<;>first|exact oC (λk=>gx _ _)|exact cz
    all_goals exact cz
   case arr n e=>
    cases x
    case agg cs=>
     show ea (λQ=>match (aF ag e).agg,Nat.beq (aF ag e).size 1 with
      |false,true=>∃ (k:Nat) (d:ak),ha d λd=>Q (some (iU=k/\k<n/\cs[k]?=some d)) d
      |_,_=>False)
     generalize(aF ag e).agg=g;generalize Nat.beq (aF ag e).size 1=b;cases g
     ·cases b
      ·exact cz
      ·exact oC (λk=>oC (λd=>sP (F:=λd Q=>Q (some (iU=k/\k<n/\cs[k]?=some d)) d) (gx _ _)))
     ·exact cz
    all_goals exact cz
   all_goals exact cz
  all_goals exact cz
 all_goals exact cz
theorem ahe{d:ak}:ea (uM ag loc t d):=by
 unfold uM;generalize(aF ag t).size=z;generalize(aF ag t).agg=g;cases z
 ·exact cz
 ·cases d
  case c9 cs=>exact K7 (F:=λd Q=>Q none d) (λd=>gx _ _)
  case aV i o=>
   show ea (λQ=>match bR loc i with
    | .cells _ cs=>qY o cs λl=>mB g _ l λd=>Q none d
    |_=>False)
   generalize bR loc i=bD;cases bD
   case cells eD cs=>exact D7 (F:=λl Q=>mB _ _ l λd=>Q none d) (λl=>K7 (F:=λd Q=>Q none d) (λd=>gx _ _))
   all_goals exact cz
  case dU i o=>
   rename_i z;show ea (λQ=>match bR loc i with
    | .cells _ cs=>match g with
     |true=>∃ds:List ak,Q (some ((cs.drop o).take (z+1)=ds/\ds.length=z+1)) (.agg ds)
     |false=>∃d:ak,ha d λd=>Q (some (cs[o]?=some d)) d
    |_=>False)
   generalize bR loc i=bD;cases bD
   case cells eD cs=>
    cases g
    ·exact oC (λd=>sP (F:=λd Q=>Q (some (cs[o]?=some d)) d) (gx _ _))
    ·exact oC (λd=>gx _ _)
   all_goals exact cz
  case db i k o=>
   rename_i z;show ea (λQ=>match bR loc i with
    | .row _ _ es=>∃gd:List ak,qY o gd λl=>mB g (z+1) l λd=>Q (some (es[k]?=some gd)) d
    |_=>False)
   generalize bR loc i=bD;cases bD
   case row e aB es=>
    exact oC (λgd=>D7 (F:=λl Q=>mB g (z+1) l λd=>Q (some (es[k]?=some gd)) d) (λl=>K7 (F:=λd Q=>Q (some (es[k]?=some gd)) d) (λd=>gx _ _)))
   all_goals exact cz
  all_goals exact cz
theorem ahf{n:Nat}{d:ak}:ea (Dj n d):=by
 unfold Dj;cases d
 case bd ds=>
  refine D7 (F:=λl Q=>match l with
   |d::_=>ha d λd=>Q none d
   | []=>False) (λl=> ?_)
  cases l
  ·exact cz
  ·exact sP (F:=λd Q=>Q none d) (gx _ _)
 all_goals exact cz
theorem ahg{d:ak}{dK hi eU:Option Operand}:ea (Dk ag t ρ d dK hi eU):=by
 unfold Dk;generalize(aF ag t).k=k;cases k
 case str=>
  cases d
  case v x=>
   cases x
   case string s=>
    cases eU
    ·exact oC (λl=>oC (λh=>gx _ _))
    ·exact cz
   all_goals exact cz
  all_goals exact cz
 case fc e=>
  cases d
  case av=>
   show ea (λQ=>match (aF ag e).size,eU with
    |0,_=>False
    |_,some _=>False
    |_,none=>Q (some (oo ρ dK 0 0/\oo ρ hi 0 0)) .av)
   generalize(aF ag e).size=z;cases z<;>cases eU<;>first|exact cz|exact gx _ _
  case ar aB es tp=>
   show ea (λQ=>match (aF ag e).size,Nat.beq aB (aF ag e).size with
    |0,_=>False
    |_,false=>False
    |_,true=>match hi,eU with
     |none,none=>∃l:Nat,Q (some (oo ρ dK l 0/\l<=es.length)) (.ar aB (es.drop l) tp)
     |some aH,none=>∃l h:Nat,Q (some (oo ρ dK l 0/\oo ρ (some aH) h 0/\l<=h/\h<=es.length)) (.ar aB ((es.take h).drop l) false)
     |some aH,some OY=>∃l h:Nat,Q (some (oo ρ dK l 0/\oo ρ (some aH) h 0/\oo ρ (some OY) h 0/\l<=h/\h<=es.length)) (.ar aB ((es.take h).drop l) true)
     |none,some _=>False)
   generalize Nat.beq aB (aF ag e).size=b;generalize(aF ag e).size=z;cases z
   ·exact cz
   ·cases b
    ·exact cz
    ·cases hi<;>cases eU
     ·exact oC (λl=>gx _ _)
     ·exact cz
     ·exact oC (λl=>oC (λh=>gx _ _))
     ·exact oC (λl=>oC (λh=>gx _ _))
  all_goals exact cz
 all_goals exact cz
theorem ahh{parts:List (Nat×Operand)}:ea (Dm ag t ρ parts):=by
 unfold Dm;generalize(aF ag t).k=k;generalize(aF ag t).zero=z0;generalize(aF ag t).size=z;cases k
 case b7 fs=>
  show ea (λQ=>match Dl ag fs,z with
   |true,_+1=>rO ρ _ parts z0 λl=>Q none (.agg l)
   |_,_=>False)
  generalize Dl ag fs=b;cases b
  ·exact cz
  ·cases z
   ·exact cz
   ·exact Qn (F:=λl Q=>Q none (.agg l)) (λl=>gx _ _)
 case arr n e=>
  show ea (λQ=>match (aF ag e).size,z with
   |_+1,_+1=>rO ρ (λi=>(i* (aF ag e).size,(aF ag e).size)) parts z0 λl=>Q none (.agg l)
   |_,_=>False)
  generalize(aF ag e).size=y;cases y
  ·exact cz
  ·cases z
   ·exact cz
   ·exact Qn (F:=λl Q=>Q none (.agg l)) (λl=>gx _ _)
 all_goals exact cz
theorem XR{op:Op}:ea (oq ag loc op ρ):=by
 cases op
 case move x=>exact sP (F:=λd Q=>Q none d) (gx _ _)
 case assign x=>exact sP (F:=λd Q=>Q none d) (gx _ _)
 case pick=>exact ag5
 case nilCheck x=>
  show ea (λQ=>xn loc (ρ x) Q);generalize ρ x=d;unfold xn;cases d
  case fn f c=>cases f<;>first|exact gx _ _|exact cz
  case db i k o=>
   show ea (λQ=>match jN (bR loc i)with
    |true=>Q none (.db i k o)
    |false=>False)
   generalize jN (bR loc i)=b;cases b
   ·exact cz
   ·exact gx _ _
  all_goals first|exact gx _ _|exact cz
 case binOp=>exact ag6
 case unOp op t x=>
  show ea (λQ=>De op (ρ x) Q);generalize ρ x=d;unfold De;cases op<;>cases d
  all_goals first|exact cz|skip
  all_goals rename_i y
  all_goals cases y
  all_goals first|exact gx _ _|exact cz
 case convert=>exact ag7
 case fieldAddr=>exact ag8
 case field=>exact ag9
 case indexAddr=>exact ahc
 case index=>exact ahd
 case load=>exact ahe
 case extract=>exact ahf
 case slice=>exact ahg
 case makeFunc f first cu=>
  show ea (λQ=>match first.toList with
   | []=>tt ρ cu.toList λl=>match l.all l6 with
    |true=>Q none (.fn f l)
    |false=>False
   |_=>False)
  generalize first.toList=l
  cases l
  ·refine XP (F:=λl Q=>match l.all l6 with
    |true=>Q none (.fn f l)
    |false=>False) (λl=> ?_)
   generalize l.all l6=b;cases b<;>first|exact gx _ _|exact cz
  ·exact cz
 case build=>exact ahh
 case call c=>
  obtain⟨callee,args,fg⟩:=c;cases callee
  case builtin b=>
   cases b
   case len=>
    show ea (λQ=>match args.toList,fg.toList with
     | [x],[t]=>we ag loc t (ρ x) Q
     |_,_=>False)
    generalize args.toList=l;generalize fg.toList=cO;cases l with
    |nil=>exact cz
    |cons x r=>
     cases r with
     |cons _ _=>exact cz
     |nil=>
      cases cO with
      |nil=>exact cz
      |cons t eH=>
       cases eH with
       |cons _ _=>exact cz
       |nil=>
        show ea (λQ=>we ag loc t (ρ x) Q);generalize ρ x=d;unfold we;generalize(aF ag t).k=k;cases k
        case fc e=>
         cases d
         case own j=>
          show ea (λQ=>match bR loc j with
           | .row _ _ es=>Q none (.v (.int .i64 es.length))
           |_=>False)
          generalize bR loc j=bD;cases bD<;>first|exact gx _ _|exact cz
         all_goals first|exact gx _ _|exact cz
        case str=>
         cases d
         case v x=>cases x<;>first|exact gx _ _|exact cz
         all_goals exact cz
        all_goals first|exact gx _ _|exact cz
   case min=>
    show ea (λQ=>match args.toList with
     | [x,y]=>AH (ρ x) (ρ y) Q
     |_=>False)
    generalize args.toList=l;rcases l with _| ⟨x,_| ⟨y,_|_⟩⟩
    ·exact cz
    ·exact cz
    ·show ea (λQ=>AH (ρ x) (ρ y) Q);generalize ρ x=d;generalize ρ y=e;unfold AH;cases d
     case v d=>
      cases d
      case int=>
       cases e
       case v e=>cases e<;>first|exact gx _ _|exact cz
       all_goals exact cz
      all_goals exact cz
     all_goals exact cz
    ·exact cz
   case max=>
    show ea (λQ=>match args.toList with
     | [x,y]=>AI (ρ x) (ρ y) Q
     |_=>False)
    generalize args.toList=l;rcases l with _| ⟨x,_| ⟨y,_|_⟩⟩
    ·exact cz
    ·exact cz
    ·show ea (λQ=>AI (ρ x) (ρ y) Q);generalize ρ x=d;generalize ρ y=e;unfold AI;cases d
     case v d=>
      cases d
      case int=>
       cases e
       case v e=>cases e<;>first|exact gx _ _|exact cz
       all_goals exact cz
      all_goals exact cz
     all_goals exact cz
    ·exact cz
   all_goals exact cz
  all_goals exact cz
 all_goals exact cz
theorem ahi{g:Bool}{c a b:Operand}:ea (yO s g c a b):=by
 have ahj:∀ {l:List Operand} {F:Option Prop->(Option Prop->ak->Prop)->Prop},(∀c,ea (F c))->ea (λQ=>pF g s l λc=>F c Q):=by
  intro l;induction l with
  |nil=>intro F h;exact h _
  |cons x r aY=>
   intro F h;show ea (λQ=>match bG s x with
    | .ca dV _=>pF g s r λc=>F (andO (some (g=true->dV=true)) c) Q
    |_=>pF g s r λc=>F c Q)
   generalize bG s x=d;cases d
   case ca dV d=>simp_all
   all_goals exact aY h
 unfold yO;refine ahj (F:=λkq Q=>match jA s c with
  | .v (.bool t)=>ts (g&&t) (bG s a) λfF x=>ts (g&& !t) (bG s b) λeR y=>ha x λx=>ha y λy=>rN t x y (sv a) (sw b) λd=>Q (andO kq (andO fF eR)) d
  |_=>False) (λkq=> ?_)
 generalize jA s c=x;cases x
 case v x=>
  cases x
  case bool t=>
   exact K8 (F:=λfF x Q=>ts (g&& !t) (bG s b) λeR y=>ha x λx=>ha y λy=>rN t x y (sv a) (sw b) λd=>Q (andO kq (andO fF eR)) d)
    (λfF x=>K8 (F:=λeR y Q=>ha x λx=>ha y λy=>rN t x y (sv a) (sw b) λd=>Q (andO kq (andO fF eR)) d)
    (λeR y=>sP (F:=λx Q=>ha y λy=>rN t x y (sv a) (sw b) λd=>Q (andO kq (andO fF eR)) d)
    (sP (F:=λy Q=>rN t x y (sv a) (sw b) λd=>Q (andO kq (andO fF eR)) d) (XQ (F:=λd Q=>Q (andO kq (andO fF eR)) d) (λd=>gx _ _)))))
  all_goals exact cz
 all_goals exact cz
end
open Go
section
variable {P:Program} {ag:dH} {aE:Nat->Prop} {a8:e5} {n:Nat} {os:c2} {s s':bK} {a:Act} {w:World} {o:Oper} {A:Nat->Prop} {B:e5} {ρ:Operand->ak} {loc eZ:List aZ} {Q:Option Prop->ak->Prop} {ops:Array Oper}
theorem XS{op:Op}(af:∀x∈op.operands.toList,∀k∈hQ (ρ x),bR eZ k=bR loc k)(h:oq ag loc op ρ Q):oq ag eZ op ρ Q:=by
 cases op
 case nilCheck x=>
  have ah:=af x (by simp[Op.operands]);have h:xn loc (ρ x) Q:=h;show xn eZ (ρ x) Q;generalize ρ x=d at *;cases d
  case db j k off=>
   have e:=ah j (by simp[hQ,qk]);unfold xn at h⊢
   grind
  case fn f c=>cases f<;>exact h
  all_goals exact h
 case fieldAddr t x f=>
  have ah:=af x (by simp[Op.operands]);have h:xo ag loc t f (ρ x) Q:=h;show xo ag eZ t f (ρ x) Q;generalize ρ x=d at *;cases d
  case db j k off=>
   have e:=ah j (by simp[hQ,qk]);unfold xo at h⊢
   grind
  all_goals exact h
 case indexAddr t x i=>
  have ah:=af x (by simp[Op.operands]);have h:xp ag loc t i (ρ x) (ρ i) Q:=h;show xp ag eZ t i (ρ x) (ρ i) Q;generalize ρ x=d at *;cases d
  case own j=>
   have e:=ah j (by simp[hQ,qk]);unfold xp AG at h⊢
   grind
  all_goals exact h
 case load t x=>
  have ah:=af x (by simp[Op.operands]);have h:uM ag loc t (ρ x) Q:=h;show uM ag eZ t (ρ x) Q;generalize ρ x=d at *;cases d
  case aV j off=>
   have e:=ah j (by simp[hQ,qk]);unfold uM at h⊢
   grind
  case dU j off=>
   have e:=ah j (by simp[hQ,qk]);unfold uM at h⊢
   grind
  case db j k off=>
   have e:=ah j (by simp[hQ,qk]);unfold uM at h⊢
   grind
  all_goals exact h
 case call c=>
  obtain⟨callee,args,fg⟩:=c;cases callee
  case builtin b=>
   cases b
   case len=>
    have h: (match args.toList,fg.toList with
     | [x],[t]=>we ag loc t (ρ x) Q
     |_,_=>False):=h
    show (match args.toList,fg.toList with
     | [x],[t]=>we ag eZ t (ρ x) Q
     |_,_=>False)
    split at h
    ·rename_i x t aC aG;have ah:=af x (by simp[Op.operands,Call.operands];rw[<-vU,aC];simp);generalize ρ x=d at *;cases d
     case own j=>
      have e:=ah j (by simp[hQ,qk]);unfold we at h⊢
      grind
     all_goals exact h
    omega
   all_goals exact h
  all_goals exact h
 all_goals exact h
variable{d:ak}{R:ak->Prop}
theorem ahk(h:wg loc d R):∃ck,R ck/\∀eZ,(∀k∈J1 d,bR eZ k=bR loc k)->∀iZ:ak->Prop,iZ ck->wg eZ d iZ:=by
 cases d
 case aV j o=>
  unfold wg at h;simp only at h;split at h
  ·rename_i t cs aw;split at h
   ·rename_i ez;refine⟨_,h,λeZ af iZ XT=> ?_⟩;have aq:=af j (by simp[J1]);unfold wg
    grind
   grind
  grind
 all_goals exact⟨_,h,λ_ _ _ bp=>bp⟩
theorem XU:∀ {ds:List ak} {R:List ak->Prop},yK loc ds R->∃l,R l/\∀eZ,(∀d∈ds,∀k∈J1 d,bR eZ k=bR loc k)->∀iZ:List ak->Prop,iZ l->yK eZ ds iZ
 | [],R,h=>⟨_,h,λ_ _ _ bp=>bp⟩
 |d::r,R,h=>by
  obtain⟨ck,h,cU⟩:=ahk h;obtain⟨l,h,dh⟩:=XU h;exact⟨_,h,λeZ af iZ bp=>cU eZ (af d (by simp)) _ (dh eZ (λd aa=>af d (by grind)) _ bp)⟩
theorem XV(h:ot loc d R):∃ck,R ck/\∀eZ,(∀k∈qk d,bR eZ k=bR loc k)->∀iZ:ak->Prop,iZ ck->ot eZ d iZ:=by
 cases d
 case own j=>
  unfold ot at h;simp only at h;split at h
  ·rename_i e aB es aw;refine⟨_,h,λeZ af iZ XT=> ?_⟩;have aq:=af j (by simp[qk]);unfold ot
   grind
  grind
 case aV j o=>
  unfold ot at h;simp only at h;split at h
  ·rename_i t cs aw;split at h
   ·rename_i ez;refine⟨_,h,λeZ af iZ XT=> ?_⟩;have aq:=af j (by simp[qk]);unfold ot
    grind
   grind
  grind
 case fn f cu=>
  have h:yK loc cu (λl=>R (.fn f l)):=h;obtain⟨l,h,k⟩:=XU h;exact⟨_,h,λeZ af iZ bp=>k eZ (λd aa q bV=>af q (by simp only[qk,Jy];grind)) (λl=>iZ (.fn f l)) bp⟩
 all_goals first|exact h.elim|exact⟨_,h,λ_ _ _ bp=>bp⟩
theorem XW:∀ {ds:List ak} {R:List ak->Prop},Dp loc ds R->∃l,R l/\∀eZ,(∀d∈ds,∀k∈qk d,bR eZ k=bR loc k)->∀iZ:List ak->Prop,iZ l->Dp eZ ds iZ
 | [],R,h=>⟨_,h,λ_ _ _ bp=>bp⟩
 |d::r,R,h=>by
  obtain⟨ck,h,cU⟩:=XV h;obtain⟨l,h,dh⟩:=XW h;exact⟨_,h,λeZ af iZ bp=>cU eZ (af d (by simp)) _ (dh eZ (λd aa=>af d (by grind)) _ bp)⟩
theorem ahl(h:uN loc d R):∃ck,R ck/\∀eZ,(∀k∈hQ d,bR eZ k=bR loc k)->∀iZ:ak->Prop,iZ ck->uN eZ d iZ:=by
 cases d
 case agg cs=>
  obtain⟨l,h,k⟩:=XW (ds:=cs) h;exact⟨_,h,λeZ af iZ bp=>k eZ (λd aa k hk=>af k (by simp only[hQ,Jy];grind)) _ bp⟩
 case ca=>exact h.elim
 case bd ds=>
  have h:match ds.any mX with
   |false=>R (.bd ds)
   |true=>False:=h
  cases aW:ds.any mX with
  |false=>
   rw[aW]at h;refine⟨_,h,λeZ _ iZ bp=> ?_⟩;show match ds.any mX with
    |false=>iZ (.bd ds)
    |true=>False
   grind
  |true=>
   grind
 all_goals exact XV h
theorem K9:∀ {ds:List ak} {R:List ak->Prop},tu loc ds R->∃l,R l/\∀eZ,(∀d∈ds,∀k∈hQ d,bR eZ k=bR loc k)->∀iZ:List ak->Prop,iZ l->tu eZ ds iZ
 | [],R,h=>⟨_,h,λ_ _ _ bp=>bp⟩
 |d::r,R,h=>by
  obtain⟨ck,h,cU⟩:=ahl h;obtain⟨l,h,dh⟩:=K9 h;exact⟨_,h,λeZ af iZ bp=>cU eZ (af d (by simp)) _ (dh eZ (λd aa=>af d (by grind)) _ bp)⟩
theorem G3{g:Bool}:∀ {l:List Operand} {R:Option Prop->Prop},pF g s l R->∃c,R c/\∀ {A:Nat->Prop} {os:c2} {a:Act} {w:World},(∀x∈l,bg A os w (a.eval x) (bG s x))->Holds c->g=true->∀x∈l,bg A os w (a.eval x) (jA s x)
 | [],R,b4=>⟨_,b4,λ_ _ _ x ah=>by grind⟩
 |x::r,R,b4=>by
  unfold pF at b4;split at b4
  ·rename_i dV d e;obtain⟨c,b4,aj⟩:=G3 b4;refine⟨_,b4,λah bC aw y bn=> ?_⟩;obtain⟨h1,ad⟩:=Holds.andO.1 bC;rcases ny.1 bn with rfl|bn
   ·have:=ah y (by simp);unfold jA;rw[e]at this⊢;exact this.yT.1 (Holds.j2.1 h1 aw)
   grind
  ·rename_i xK;obtain⟨c,b4,aj⟩:=G3 b4;refine⟨_,b4,λah bC aw y bn=> ?_⟩;rcases ny.1 bn with rfl|bn
   ·have:jA s y=bG s y:=by
     unfold jA;generalize bG s y=d at xK;cases d<;>first|rfl|exact absurd rfl (xK _ _)
    grind
   grind
variable{dst:Option Tmp}
theorem xT{d:ak}{kr:List Nat}{qj:List (Nat×Nat)}:gq s dst d (λpR=>pR=fe.kM ⟨gL dst d,kr,[],qj⟩ s):=by
 refine A2.2 ?_;cases s;cases dst<;>rfl
theorem tK{d:ak}{kr:List Nat}{k:Nat}{bD:aZ}{qj:List (Nat×Nat)}:gq ⟨s.env,gr s.loc k bD⟩ dst d (λpR=>pR=fe.kM ⟨gL dst d,kr,[(k,bD)],qj⟩ s):=by
 refine A2.2 ?_;cases s;cases dst<;>rfl
def La(os aT:c2):Prop:=∀ (i:Nat) (x:Value) (o:aZ),o≠ .bm->os[i]?=some (x,o)->∃aU,aT[i]?=some (x,aU)/\er o aU
variable{dy:Nat->Prop}{aT:c2}{w':World}
theorem bg.Bo(k:dx A dy w w')(bb:La os aT){x:Value}{d:ak}(h:bg A os w x d):bg dy aT w' x d:=by
 induction h with
 |bT h=>exact .bT (h.cC k)
 |aV h=>
  obtain⟨aU,bp,hk⟩:=bb _ _ _ (by simp) h;cases aU<;>simp[er]at hk
  exact .aV bp
 |dU h=>
  obtain⟨aU,bp,hk⟩:=bb _ _ _ (by simp) h;cases aU<;>simp[er]at hk
  exact .dU bp
 |db h=>
  obtain⟨aU,bp,hk⟩:=bb _ _ _ (by simp) h;cases aU<;>simp[er]at hk
  obtain⟨rfl,rfl⟩:=hk;exact .db bp
 |own h h1=>
  obtain⟨aU,bp,hk⟩:=bb _ _ _ (by simp) h;cases aU<;>simp[er]at hk
  exact .own bp h1
 |e2 h aa h1=>
  obtain⟨aU,bp,hk⟩:=bb _ _ _ (by simp) h;cases aU<;>simp[er]at hk
  exact .e2 bp aa h1
 |agg af br _ aY=>exact .agg af br aY
 |bd af b2 _ aY=>
  exact .bd af (λi v d ab aa=>by
   rcases b2 i v d ab aa with h|h
   ·grind
   ·exact .inr (h.cC k)) aY
 |fn af iL _ aY=>exact .fn af iL aY
 |ca _ aR aY=>exact .ca aY aR
theorem lK.Bo{os aT:c2}{B:e5}{w w':World}{x:Value}{bD:aZ}(h:lK A os B w x bD)(k:dx A dy w w')(bb:La os aT)(ac:∀b,bD≠ .bm->bJ x=some b->w'.heap[b]?=w.heap[b]?):lK dy aT B w' x bD:=by
 cases bD with
 |bm=>exact trivial
 |gone=>exact h
 |cD ds=>exact⟨h.1,h.2.1,h.2.2.1,λi v d ab aa=>(h.2.2.2 i v d ab aa).Bo k bb⟩
 |cells t cs=>
  obtain⟨g,arr,rfl,cr,bC,ae,br,ao⟩:=h;exact⟨g,arr,rfl,cr,(ac g (by simp) rfl).trans bC,ae,br,λj v d ab aa=>(ao j v d ab aa).Bo k bb⟩
 |row e aB es=>
  obtain⟨jB,xs,b2,cE,hc,br,ao⟩:=h;refine⟨jB,xs,⟨b2.1,?_⟩,cE,hc,br,λeQ j r d h1 ad=> ?_⟩
  ·rcases b2.2 with aW| ⟨g,cap,cur,rfl,cr,bC,rest⟩
   ·grind
   ·exact .inr ⟨g,cap,cur,rfl,cr,(ac g (by simp) rfl).trans bC,rest⟩
  ·obtain⟨v,ab,hi⟩:=ao eQ j r d h1 ad;exact⟨v,ab,hi.cC k⟩
variable{i:Nat}{x:Value}
theorem ch.Bp{y:Value}{bD:aZ}(h:ch aE a8 n os s a w)(hi:os[i]?=some (y,.bm))(aw:w.grownBy w' none)(pM:∀b,bJ x=some b->w.heap.size<=b)
  (fI:dx (bi aE os) (bi aE (os.set i (x,bD))) w w'->La os (os.set i (x,bD))->lK (bi aE (os.set i (x,bD))) (os.set i (x,bD)) a8 w' x bD):ch aE a8 n (os.set i (x,bD)) ⟨s.env,gr s.loc i bD⟩ a w':=by
 have ax:=(eL.1 hi).1;have cM:∀ {j:Nat} {y:Value} {aU:aZ},(os.set i (x,bD))[j]?=some (y,aU)->(j=i/\y=x/\aU=bD)\/(j≠i/\os[j]?=some (y,aU)):=by
  grind
 have k:dx (bi aE os) (bi aE (os.set i (x,bD))) w w':=.qm aw (λb ac ab=>by
  rcases ab with ab| ⟨j,y,aU,aq,dp,cy⟩
  ·exact .inl ab
  ·rcases cM aq with⟨rfl,rfl,rfl⟩| ⟨_,aq⟩
   ·grind
   ·exact .inr ⟨_,_,_,aq,dp,cy⟩)
 have ra:La os (os.set i (x,bD)):=by
  intro j y aU aa aq;by_cases e:j=i
  ·grind
  ·exact⟨aU,by grind,by cases aU<;>simp[er]⟩
 refine⟨h.size,h.defers,pD.DJ h.hv aw (λ_ e=>by cases e),h.a0,by rw[mD,h.loc,nQ],λt=>(h.env t).Bo k ra,λj y aU aq=> ?_,λnC uZ y dw z fV b h1 ad d1 d2 cY cZ=> ?_⟩
 ·rcases cM aq with⟨rfl,rfl,rfl⟩| ⟨bu,aq⟩
  ·grind
  ·exact(h.cV j y aU aq).Bo k ra (λb dp ac=>aw.block b ((h.cV j y aU aq).iX dp ac).2 (by simp))
 ·rcases cM h1 with⟨rfl,rfl,rfl⟩| ⟨_,g1⟩<;>rcases cM ad with⟨rfl,rfl,rfl⟩| ⟨_,g2⟩
  ·rfl
  ·have:=pM b cY;have:=((h.cV _ _ _ g2).iX d2 cZ).2;omega
  ·have:=pM b cZ;have:=((h.cV _ _ _ g1).iX d1 cY).2;omega
  ·exact h.inj _ _ _ _ _ _ b g1 g2 d1 d2 cY cZ
def Lb(i:Nat)(os aT:c2):Prop:=(∃x e aB es,os[i]?=some (x,.row e aB es))/\(∃y,aT[i]?=some (y,.gone))/\∀ (j:Nat) (x:Value) (o:aZ),j≠i->o≠ .bm->os[j]?=some (x,o)->∃aU,aT[j]?=some (x,aU)/\er o aU
theorem bg.Bq(k:dx A dy w w')(bb:Lb i os aT){x:Value}{d:ak}(h:bg A os w x d):bg dy aT w' x d:=by
 obtain⟨⟨Pz,qo,avb,avc,hi⟩,⟨avd,df⟩,bb⟩:=bb;induction h with
 |bT h=>exact .bT (h.cC k)
 |aV h=>
  obtain⟨aU,bp,hk⟩:=bb _ _ _ (λe=>by grind) (by simp) h;cases aU<;>simp[er]at hk
  exact .aV bp
 |dU h=>
  obtain⟨aU,bp,hk⟩:=bb _ _ _ (λe=>by grind) (by simp) h;cases aU<;>simp[er]at hk
  exact .dU bp
 | @db j _ _ _ _ _ _ _ _ h=>
  by_cases e:j=i
  ·subst e;exact .e2 df (.inr ⟨_,_,rfl⟩) rfl
  ·obtain⟨aU,bp,hk⟩:=bb _ _ _ e (by simp) h;cases aU<;>simp[er]at hk
   obtain⟨rfl,rfl⟩:=hk;exact .db bp
 | @own j _ _ _ _ h h1=>
  by_cases e:j=i
  ·subst e;exact .e2 df (.inl rfl) h1
  ·obtain⟨aU,bp,hk⟩:=bb _ _ _ e (by simp) h;cases aU<;>simp[er]at hk
   exact .own bp h1
 | @e2 j _ _ _ h aa h1=>
  obtain⟨aU,bp,hk⟩:=bb _ _ _ (λe=>by grind) (by simp) h;cases aU<;>simp[er]at hk
  exact .e2 bp aa h1
 |agg af br _ aY=>exact .agg af br aY
 |bd af b2 _ aY=>
  exact .bd af (λi v d ab aa=>by
   rcases b2 i v d ab aa with h|h
   ·grind
   ·exact .inr (h.cC k)) aY
 |fn af iL _ aY=>exact .fn af iL aY
 |ca _ aR aY=>exact .ca aY aR
theorem lK.Bq{os aT:c2}{B:e5}{w w':World}{i:Nat}{x:Value}{bD:aZ}(h:lK A os B w x bD)(k:dx A dy w w')(bb:Lb i os aT)(ac:∀b,bD≠ .bm->bJ x=some b->w'.heap[b]?=w.heap[b]?):lK dy aT B w' x bD:=by
 cases bD with
 |bm=>exact trivial
 |gone=>exact h
 |cD ds=>exact⟨h.1,h.2.1,h.2.2.1,λi v d ab aa=>(h.2.2.2 i v d ab aa).Bq k bb⟩
 |cells t cs=>
  obtain⟨g,arr,rfl,cr,bC,ae,br,ao⟩:=h;exact⟨g,arr,rfl,cr,(ac g (by simp) rfl).trans bC,ae,br,λj v d ab aa=>(ao j v d ab aa).Bq k bb⟩
 |row e aB es=>
  obtain⟨jB,xs,b2,cE,hc,br,ao⟩:=h;refine⟨jB,xs,⟨b2.1,?_⟩,cE,hc,br,λeQ j r d h1 ad=> ?_⟩
  ·rcases b2.2 with aW| ⟨g,cap,cur,rfl,cr,bC,rest⟩
   ·grind
   ·exact .inr ⟨g,cap,cur,rfl,cr,(ac g (by simp) rfl).trans bC,rest⟩
  ·obtain⟨v,ab,hi⟩:=ao eQ j r d h1 ad;exact⟨v,ab,hi.cC k⟩
theorem ch.ahm{q e e' aB mC:Nat}{es fG:List (List ak)}{x y x':Value}{xs:List Value}(h:ch aE a8 n os s a w)(hi:os[i]?=some (x,.row e aB es))(bV:os[q]?=some (y,.bm))(aw:w.grownBy w' (bJ x))(ac:∀b,bJ x'=some b->bJ x=some b\/w.heap.size<=b)
  (b2:w'.ownsRow 0 e' mC x' fG.length xs) (cE:0<mC) (ao:hS (bi aE os) w xs fG mC):
  ch aE a8 n ((os.set i (.nilFunc,.gone)).set q (x',.row e' mC fG)) ⟨s.env,gr (gr s.loc i .gone) q (.row e' mC fG)⟩ a w'/\((os.set i (.nilFunc,.gone)).set q (x',.row e' mC fG))[q]?=some (x',.row e' mC fG):=by
 have bu:i≠q:=λe=>by grind
 have KZ:=(eL.1 hi).1;have ave:=(eL.1 bV).1;have ie: ((os.set i (.nilFunc,.gone)).set q (x',.row e' mC fG))[q]?=some (x',.row e' mC fG):=by grind
 have wD: ((os.set i (.nilFunc,.gone)).set q (x',.row e' mC fG))[i]?=some (.nilFunc,.gone):=by grind
 generalize mE: (os.set i (.nilFunc,.gone)).set q (x',.row e' mC fG)=aT at ie wD⊢;refine⟨?_,ie⟩;have cM:∀ {j:Nat} {z:Value} {aU:aZ},aT[j]?=some (z,aU)->(j=q/\z=x'/\aU= .row e' mC fG)\/(j=i/\z= .nilFunc/\aU= .gone)\/(j≠i/\j≠q/\os[j]?=some (z,aU)):=by
  grind
 have bb:Lb i os aT:=by
  refine⟨⟨_,_,_,_,hi⟩,⟨_,wD⟩,λj z o aq aa aH=>⟨o,?_,by cases o<;>simp[er]⟩⟩
  grind
 have fK:∀b,b<w.heap.size->bi aE aT b->bi aE os b:=by
  intro b lp ab;rcases ab with ab| ⟨j,z,aU,aq,dp,cy⟩
  ·exact .inl ab
  ·rcases cM aq with⟨rfl,rfl,rfl⟩| ⟨rfl,rfl,rfl⟩| ⟨_,_,aq⟩
   ·rcases ac b cy with h1|h1
    ·exact .inr ⟨i,_,_,hi,by simp,h1⟩
    ·omega
   ·simp[bJ]at cy
   ·exact .inr ⟨_,_,_,aq,dp,cy⟩
 have k:dx (bi aE os) (bi aE aT) w w':=⟨aw.size,fK,λb lp aW=>aw.block b lp (λe=>aW (.inr ⟨i,x,_,hi,by simp,e.symm⟩))⟩
 refine⟨h.size,h.defers,pD.DJ h.hv aw (λg e=>((h.cV i x _ hi).iX (by simp) e).1),h.a0,by rw[<-mE,mD,mD,h.loc,nQ,nQ],λt=>(h.env t).Bq k bb,λj z aU aq=> ?_,λnC uZ z dw mH fV b h1 ad d1 d2 cY cZ=> ?_⟩
 ·rcases cM aq with⟨rfl,rfl,rfl⟩| ⟨rfl,rfl,rfl⟩| ⟨nj,_,aq⟩
  ·exact rU (λb cy=>(ac b cy).elim (λh1=>((h.cV _ _ _ hi).iX (by simp) h1).1) (e5.sH h.hv)) b2 cE (ao.cC k)
  ·rfl
  ·exact(h.cV j z aU aq).Bq k bb (λb dp cy=>aw.block b ((h.cV j z aU aq).iX dp cy).2 (λe=>nj (h.inj j i _ _ _ _ b aq hi dp (by simp) cy e.symm)))
 ·have eg:∀ {j z aU},aT[j]?=some (z,aU)->aU≠ .bm->bJ z=some b->(j=q/\(bJ x=some b\/w.heap.size<=b))\/(j≠i/\os[j]?=some (z,aU)/\b<w.heap.size):=by
   intro j z aU aq aa cy;rcases cM aq with⟨rfl,rfl,rfl⟩| ⟨rfl,rfl,rfl⟩| ⟨nj,_,aq⟩
   ·grind
   ·simp[bJ]at cy
   ·exact .inr ⟨nj,aq,((h.cV _ _ _ aq).iX aa cy).2⟩
  rcases eg h1 d1 cY with⟨rfl,ff⟩| ⟨lr,g1,k1⟩<;>rcases eg ad d2 cZ with⟨rfl,fB⟩| ⟨ma,g2,Gq⟩
  ·rfl
  ·rcases ff with ff|ff
   ·exact absurd (h.inj _ _ _ _ _ _ b g2 hi d2 (by simp) cZ ff) ma
   ·omega
  ·rcases fB with fB|fB
   ·exact absurd (h.inj _ _ _ _ _ _ b g1 hi d1 (by simp) cY fB) lr
   ·omega
  ·exact h.inj _ _ _ _ _ _ b g1 g2 d1 d2 cY cZ
theorem ahn{d:ak}{kr:List Nat}{k eQ:Nat}{bD gR:aZ}{qj:List (Nat×Nat)}:gq ⟨s.env,gr (gr s.loc k bD) eQ gR⟩ dst d (λpR=>pR=fe.kM ⟨gL dst d,kr,[(k,bD),(eQ,gR)],qj⟩ s):=by
 refine A2.2 ?_;cases s;cases dst<;>rfl
theorem wK(h:ch aE a8 n os s a w)(af:bR s.loc i= .bm)(hi:i<s.loc.length):∃y,os[i]?=some (y,.bm):=by
 rw[h.len]at hi;rw[ln,h.loc,e7,eP hi]at af
 grind
theorem wL{l:List aZ}{i:Nat}(h:ou l i=true):i<l.length/\bR l i= .bm:=by
 simp only[ou,cq]at h;refine⟨nz h.1,?_⟩;generalize bR l i=o at h;cases o<;>first|rfl| (simp[O3]at h)
def nE(P:Program)(aE:Nat->Prop)(a8:e5)(n:Nat)(o:Oper)(bA:fe)(s:bK)(E:Exit->Act->World->Prop):Prop:=
 ∀ (aT:c2) (s':bK) (a:Act) (w:World),ch aE a8 n aT s' a w->(∀x∈o.op.operands.toList,bG s' x=bG s x)->(∀k,(k∈bA.kr\/bA.cV k)->bR s'.loc k=bR s.loc k)->s'.loc.length=s.loc.length->
  o.wp P a w (dN aE a8 n λpR=>pR=bA.kM s') E
variable {E:Exit->Act->World->Prop} {idx:Nat}
theorem G4{l:List Operand}{x:Operand}{k:Nat}(ah:x∈l)(hk:k∈hQ (ρ x)):k∈oX ρ l:=Jy.2 ⟨x,ah,hk⟩
theorem XX(ay:dv P ag=true)(aR: (aF ag 0).size=0)(aa:∀t,o.dst=some t->t<n){wrap:ak->ak}{c:Option Prop}{d:ak}
  (lw:∀o7:Option Prop->ak->Prop,o7 c d->oq ag s.loc o.op ρ o7) (aj:Holds c)
  (tL:∀ {os:c2} {a:Act} {w:World},(∀x∈o.op.operands.toList,bg (bi aE os) os w (a.eval x) (bG s x))->∀x∈o.op.operands.toList,bg (bi aE os) os w (a.eval x) (ρ x))
  (hw:∀ {os:c2} {w:World} {x:Value} {d:ak},bg (bi aE os) os w x d->bg (bi aE os) os w x (wrap d))
  {kr:List Nat} (tF:∀ (eZ:List aZ) (o7:Option Prop->ak->Prop),(∀k∈kr,bR eZ k=bR s.loc k)->oq ag s.loc o.op ρ o7->oq ag eZ o.op ρ o7):
  nE P aE a8 n o ⟨gL o.dst (wrap d),kr,[],[]⟩ s E:=by
 intro aT s' a w ao he af _;have h1:=lw (λfA ck=>fA=c/\ck=d) ⟨rfl,rfl⟩;have ad:oq ag s'.loc o.op ρ (λfA ck=>fA=c/\ck=d):=tF s'.loc _ (λk hk=>af k (.inl hk)) h1;rw[ao.loc]at ad;obtain⟨_,_,⟨rfl,rfl⟩,aw⟩:=Gx ay aR ao.cV (a:=a) (tL (λx ah=>by rw[<-he x ah];exact ao.bG x)) ad;obtain⟨x,et,xF⟩:=aw aj;exact jD et (dN.put ao aa (hw xF) xT)
theorem aho(ay:dv P ag=true)(aR: (aF ag 0).size=0)(aa:∀t,o.dst=some t->t<n){wrap:ak->ak}{c:Option Prop}{d:ak}
  (lw:∀o7:Option Prop->ak->Prop,o7 c d->oq ag s.loc o.op ρ o7) (aj:Holds c)
  (tL:∀ {os:c2} {a:Act} {w:World},(∀x∈o.op.operands.toList,bg (bi aE os) os w (a.eval x) (bG s x))->∀x∈o.op.operands.toList,bg (bi aE os) os w (a.eval x) (ρ x))
  (hw:∀ {os:c2} {w:World} {x:Value} {d:ak},bg (bi aE os) os w x d->bg (bi aE os) os w x (wrap d)):
  nE P aE a8 n o ⟨gL o.dst (wrap d),oX ρ o.op.operands.toList,[],[]⟩ s E:=
 XX ay aR aa lw aj tL hw (λeZ o7 af h=>XS (λx ah k hk=>af k (G4 ah hk)) h)
theorem ahp(ay:dv P ag=true)(aR: (aF ag 0).size=0)(aa:∀t,o.dst=some t->t<n){wrap:ak->ak}{c:Option Prop}{d:ak}
  (lw:∀o7:Option Prop->ak->Prop,o7 c d->oq ag s.loc o.op ρ o7) (aj:Holds c)
  (tL:∀ {os:c2} {a:Act} {w:World},(∀x∈o.op.operands.toList,bg (bi aE os) os w (a.eval x) (bG s x))->∀x∈o.op.operands.toList,bg (bi aE os) os w (a.eval x) (ρ x))
  (hw:∀ {os:c2} {w:World} {x:Value} {d:ak},bg (bi aE os) os w x d->bg (bi aE os) os w x (wrap d)):
  nE P aE a8 n o ⟨gL o.dst (wrap d),O9 o.op ρ,[],[]⟩ s E:=by
 refine XX ay aR aa lw aj tL hw (λeZ o7 af h=> ?_);unfold O9 at af;split at af
 ·rename_i e;rw[e]at h⊢;exact h
 ·rename_i e;rw[e]at h⊢;exact h
 ·exact XS (λx ah k hk=>af k (G4 ah hk)) h
theorem ahq{f:Operand}{k:FuncId}{cu:List ak}{args:Array Operand}{fg:Array TypeId}{wrap:ak->ak}{K:bK->Prop}(aH:o.op= .call {callee:=.value f,args:=args,argTypes:=fg})(h:ch aE a8 n os s a w)(aa:∀t,o.dst=some t->t<n)
  (oA:∀x∈o.op.operands.toList,bg (bi aE os) os w (a.eval x) (ρ x)) (k5:ρ f= .fn (.func k) cu)
  (hw:∀ {os:c2} {w:World} {x:Value} {d:ak},bg (bi aE os) os w x d->bg (bi aE os) os w x (wrap d))
  (ap:JW P k (args.toList.map ρ++cu) s λr s=>gq s o.dst (wrap r) K):o.wp P a w (dN aE a8 n K) E:=by
 have az:=oA f (by rw[aH];simp[Op.operands,Call.operands]);rw[k5]at az;obtain⟨vs,ab,af,an⟩:=az.tA;obtain⟨h1,ad⟩:=Bi (os:=os) (A:=bi aE os) (w:=w) (a:=a) (l:=args.toList) (ρ:=ρ) rfl (λx ah=>oA x (by rw[aH];simp only[Op.operands,Call.operands,vV,eo];grind)) af an;obtain⟨aj,wF⟩:=Xm h h1 ad ap;unfold Oper.wp;rw[Bh aH ab aj];refine wF.mono λe w' he=> ?_;obtain⟨v,r,aT,s',rfl,ao,u5,hk⟩:=he;exact dN.put ao aa (hw u5) hk
theorem XY{f:Operand}{k:FuncId}{cu:List ak}{args:Array Operand}{fg:Array TypeId}{wrap:ak->ak}{k1 cO:List ak}{r:ak}(aH:o.op= .call {callee:=.value f,args:=args,argTypes:=fg})(aa:∀t,o.dst=some t->t<n)
  (oA:∀ {os:c2} {a:Act} {w:World},(∀x∈o.op.operands.toList,bg (bi aE os) os w (a.eval x) (bG s x))->∀x∈o.op.operands.toList,bg (bi aE os) os w (a.eval x) (ρ x)) (k5:ρ f= .fn (.func k) cu)
  (hw:∀ {os:c2} {w:World} {x:Value} {d:ak},bg (bi aE os) os w x d->bg (bi aE os) os w x (wrap d))
  (lw:∀eZ,(∀d∈args.toList.map ρ++cu,∀k∈hQ d,bR eZ k=bR s.loc k)->∀iZ:List ak->Prop,iZ k1->tu eZ (args.toList.map ρ++cu) iZ)
  (hle:mZ k1 cO) (jm:bl P k cO r) (ae:hb (args.toList.map ρ++cu)=[]\/xq r=true):
  nE P aE a8 n o ⟨gL o.dst (wrap r),oX ρ o.op.operands.toList++cu.flatMap hQ,[],[]⟩ s E:=by
 intro aT s' a w ao he af _;refine ahq aH ao aa (oA (λx ah=>by rw[<-he x ah];exact ao.bG x)) k5 hw (wrap:=wrap) ?_;unfold JW;refine lw _ (λd qz k hk=>af k (.inl ?_)) _ ⟨cO,r,hle,jm,?_⟩
 ·rcases eo.1 qz with qz|qz
  ·obtain⟨x,ah,rfl⟩:=fT.1 qz;refine eo.2 (.inl (G4 (x:=x) ?_ hk));rw[aH];simp only[Op.operands,Call.operands,vV,eo]
   grind
  grind
 ·rcases ae with ae|ae
  ·rw[ae];exact xT
  ·cases hb (args.toList.map ρ++cu)with
   |nil=>exact xT
   |cons d ds=>simp only[ae];exact xT
theorem ahr(ay:dv P ag=true){t:TypeId}(aH:o.op= .alloc t)(aa:∀t,o.dst=some t->t<n)(ae: (aF ag t).size≠0)(az:ou s.loc idx=true):
  nE P aE a8 n o ⟨gL o.dst (.aV idx 0),[],[(idx,.cells t (aF ag t).zero)],[]⟩ s E:=by
 intro aT s' a w ao he af hlen;obtain⟨ax,fL⟩:=wL az;have fL:bR s'.loc idx= .bm:=(af idx (.inr ⟨_,tm⟩)).trans fL;obtain⟨y,hi⟩:=wK ao fL (by omega);obtain⟨z,bx,u3,_⟩:=Kn (A:=bi aE aT) (os:=aT) (w:=w) ay ae;have an:=ao.Bp (x:=.pointer (some ⟨w.heap.size,0,none⟩)) (bD:=.cells t (aF ag t).zero) (w':=w.alloc (.cells z.cells t)) hi (uJ w _ none) (λb ac=>by simp[bJ]at ac;omega)
  (λk bb=>⟨w.heap.size,z.cells,rfl,e5.sH ao.hv (bP _),AB w _,u3.size,u3.eg,λi v d ab aa=>(u3.hq i v d ab aa).Bo k bb⟩)
 refine jD (x:=.pointer (some ⟨w.heap.size,0,none⟩)) (w':=w.alloc (.cells z.cells t)) ?_ (dN.put an aa (.aV (oS (eL.1 hi).1)) tK);simp only[execOp,aH,Instr.alloc,dY,bx,dT,newVar,newRow,wc,ey,wa]
end
end Go.Lift
