/- A data-level logic for the model: what a body does to data; its soundness (part LfB). No conditions. -/
import Derived.Test.YtdcfooeoaoahjaaGreatLfA
set_option linter.unusedSimpArgs false
set_option linter.unusedVariables false
set_option maxRecDepth 100000
set_option maxHeartbeats 16000000
namespace Go.Lift
open Go
section
variable {P:Program} {ah:c4} {aA:Nat->Prop} {aY:dP} {n:Nat} {os:cu} {s:bu} {a:Act} {w:World} {o:Oper} {K:bu->Prop} {A:Nat->Prop} {B:Nat} {H:dP}
theorem AO{z:Array Value}{zero:List aj}{m N:Nat}(bE:nW A os w z zero)(WD:∀ (i:Nat) v d,z[i]?=some v->zero[i]?=some d->bO A w v d)(eh:0<zero.length)(aT:m<=N):
  fW A w ((madeCells z (N*zero.length)).toList.take (m*zero.length)) (List.replicate m zero) zero.length:=by
 have hle:m*zero.length<=N*zero.length:=Nat.mul_le_mul_right _ aT;have wz:=bE.size;have ax:∀q,q<N*zero.length->(madeCells z (N*zero.length))[q]?=some (z[q%z.size]!):=by
  intro q bF;simp[madeCells,bF]
 have N4:∀q,z[q%z.size]?=some (z[q%z.size]!):=by
  intro q;have:q%z.size<z.size:=Nat.mod_lt _ (by omega);simp[this]
 have pt: (madeCells z (N*zero.length)).toList.length=N*zero.length:=(Array.length_toList (xs:=madeCells z (N*zero.length))).trans (size_madeCells _ _);refine⟨by rw[List.length_take,pt,List.length_replicate];omega,fun r ao=>by rw[(List.mem_replicate.1 ao).2],fun v ac=> ?_,fun k j r d hk ai=> ?_⟩
 ·obtain⟨q,bF,rfl⟩:=List.getElem_of_mem ac;have h1:=List.getElem?_eq_getElem bF;rw[List.getElem?_take]at h1;split at h1
  ·rw[Array.getElem?_toList,ax q (by omega)]at h1;rw[<-Option.some.inj h1];have:=N4 q;rw[<-Array.getElem?_toList]at this;exact bE.dD _ (List.mem_of_getElem? this)
  ·cases h1
 ·have e8:k<m:=by have:=(List.getElem?_eq_some_iff.1 hk).1;simpa using this
  have ao:r=zero:=by rw[List.getElem?_replicate]at hk;split at hk<;>simp_all
  subst ao;have fX:=(List.getElem?_eq_some_iff.1 ai).1;have h1: (k+1) *r.length<=m*r.length:=Nat.mul_le_mul_right _ (by omega);rw[Nat.add_mul,Nat.one_mul]at h1;refine⟨z[(k*r.length+j)%z.size]!,?_,?_⟩
  ·rw[List.getElem?_take,if_pos (by omega),Array.getElem?_toList,ax _ (by omega)]
  ·have WE: (k*r.length+j)%z.size=j:=by
    rw[wz,Nat.mul_comm,Nat.mul_add_mod,Nat.mod_eq_of_lt fX]
   have:=N4 (k*r.length+j);rw[WE]at this⊢;exact WD j _ d this ai
theorem WF(aO:cS P ah=true){t e:TypeId}{l c:Operand}{uN qb:IntKind}{m N:Nat}{Q:Exit->Act->World->Prop}(aF:o.op= .makeSlice t l c)(hk: (ay ah t).k= .dW e)(ag: (ay ah e).size≠0)
  (h:bT aA aY n os s a w) (aa:∀t,o.dst=some t->t<n) (af:a.eval l= .int uN m) (al:a.eval c= .int qb N) (tl:m<=N) (ae:N* (ay ah e).bytes<=140737488355328) (gg:N<=maxLen)
  (ak:e0 ⟨s.env,s.loc++ [.row e (ay ah e).size (List.replicate m (ay ah e).zero)]⟩ o.dst (.own s.loc.length) K):o.wp P a w (c8 aA aY n K) Q:=by
 obtain⟨i,ab,bZ,gx,z,bE,kU,jO⟩:=oD aO ag;have hu:=jJ aO hk;obtain⟨h1,ad,aC⟩:=q6 (A:=a8 aA os) (w:=w) kU;have tm:nW (a8 aA os) os w z.cells (ay ah e).zero:=⟨by simpa using h1,ad,fun i v d ac aa=>.bA (aC i v d (by simpa using ac) aa)⟩
 have uO: (N:Int)<=9223372036854775807:=by simp only[maxLen]at gg;omega
 have cW:=run_make (P:=P) w t e i z hu ab bE uN qb m N (by omega) (by omega) (by
  have: ((i.bytes*N:Nat):Int)<=281474976710656:=by rw[gx,Nat.mul_comm];omega
  rwa[Int.natCast_mul]at this) uO
 simp only[Int.toNat_natCast,bZ]at cW;have eh:=Nat.pos_of_ne_zero ag;have dR:=AO (N:=N) (m:=m) tm (fun i v d ac aa=>aC i v d (by simpa using ac) aa) (by omega) tl;rw[jO]at dR;have hlen: (List.replicate m (ay ah e).zero).length=m:=by simp
 have au:=yz (w':=w.alloc (.cells (madeCells z.cells (N* (ay ah e).size)) e)) (x:=.slice (some ⟨w.heap.size,0,none⟩) m N) (e:=e) (av:=(ay ah e).size) h (World.grownBy_alloc w _ none) (fun b ae=>by simp[bs]at ae;omega)
  (xs:=(madeCells z.cells (N* (ay ah e).size)).toList.take (m* (ay ah e).size)) ⟨by rw[dR.len],.inr ⟨w.heap.size,N,_,by rw[hlen],Nat.zero_le _,heap_alloc_new w _,by rw[hlen];exact tl,gg,size_madeCells _ _,by rw[hlen]⟩⟩ eh dR
 refine hB (x:=.slice (some ⟨w.heap.size,0,none⟩) m N) (w':=w.alloc (.cells (madeCells z.cells (N* (ay ah e).size)) e)) ?_ (c8.put au aa (by rw[h.len];exact .own tf rfl) ak);simp only[execOp,aF,af,al,Sem.run_bind,cW,Result.andThen_ok,Sem.run_pure]
theorem D6{cU:Nat->Prop}{x:Value}{e:TypeId}{av:Nat}{es:List (List aj)}(h:jH A os H w x (.row e av es))(aw:∀b,cU b->A b)(an:∀b,bs x=some b->¬cU b):bO cU w x (.aq av es false):=by
 obtain⟨xs,bJ,bZ,ao⟩:=r7 h;rcases wy bJ with⟨rfl,rfl,_⟩| ⟨g,c,rfl,hle,aT,cR,ax,al⟩
 ·exact .nil
 ·have iZ:=ao.b9 (cU:=cU) (w':=w) (cT.gk aw);refine .aq (fun k j=>xs.getD (k*av+j) .nilFunc) rfl hle aT (by simp) ao.hK (fun _=>an g rfl) (fun _=>ax) (fun k j=> ?_) (fun k j r d h1 ad=> ?_) (fun k j r d h1 ad=> ?_)
  ·cases bF:xs[k*av+j]? with
   |none=>simp[List.getD,bF];rfl
   |some v=>simp[List.getD,bF];exact ao.dD v (List.mem_of_getElem? bF)
  ·obtain⟨v,ac,_⟩:=ao.gw k j r d h1 ad;rw[al _ v ac];simp[List.getD,ac]
  ·obtain⟨v,ac,ab⟩:=iZ.gw k j r d h1 ad;simp only[List.getD,ac];exact ab
theorem bT.hZ{i:Nat}{x:Value}{e:TypeId}{av:Nat}{es:List (List aj)}(h:bT aA aY n os s a w)(ab:os[i]?=some (x,.row e av es)):
  bT aA aY n ((os.map fun p=>(p.1,e4 (iH i (.aq av es false)) p.2)).set i (x,.bd)) (s.hZ i av es) a w/\
  ∀b,a8 aA ((os.map fun p=>(p.1,e4 (iH i (.aq av es false)) p.2)).set i (x,.bd)) b->a8 aA os b/\bs x≠some b:=by
 have fV:∀b,a8 aA ((os.map fun p=>(p.1,e4 (iH i (.aq av es false)) p.2)).set i (x,.bd)) b->a8 aA os b/\bs x≠some b:=by
  intro b ae;rcases ae with ae| ⟨j,z,aK,ai,c2,b4⟩
  ·refine⟨.inl ae,fun cd=> ?_⟩;exact h.a0 b ae ((h.cp i _ _ ab).gW (by simp) cd).1
  ·by_cases cd:j=i
   ·subst cd;rw[List.getElem?_set_self (by simpa using(List.getElem?_eq_some_iff.1 ab).1)]at ai;cases ai;exact absurd rfl c2
   ·rw[List.getElem?_set_ne (fun aG=>cd aG.symm),List.getElem?_map]at ai;cases hR:os[j]? with
    |none=>rw[hR]at ai;cases ai
    |some p=>
     rw[hR]at ai;cases ai;have hS:p.2≠ .bd:=fun aG=>c2 (by rw[aG];rfl);exact⟨.inr ⟨j,_,_,hR,hS,b4⟩,fun aG=>cd (h.inj j i _ _ _ _ b hR ab hS (by simp) b4 aG)⟩
 refine⟨h.sub (w':=w) (x':=x) (e9:=.bd) (r:=.aq av es false) ab (grownBy.rd _ _) (fun b aa=>absurd rfl aa) (fun _ _=>trivial) (fun aJ gV=> ?_),fV⟩;subst gV;exact .bA (D6 (h.cp i _ _ ab) (fun b ae=>(fV b ae).1) (fun b ae ad=>(fV b ad).2 ae))
theorem bT.WG{aJ:cu}{s':bu}(h:bT aA aY n os s a w)(φ N5:aj->aj)
  (rb:∀ {z:Value} {d:aj},a6 (a8 aA os) os w z d->(z.oneCell'=true->a6 (a8 aA aJ) aJ w z (φ d))/\a6 (a8 aA aJ) aJ w z (N5 d))
  (k:cT (a8 aA os) (a8 aA aJ) w w) (gV:∀ (i:Nat) z aK,aJ[i]?=some (z,aK)->aK= .bd\/∃cQ,os[i]?=some (z,cQ)/\aK=e4 φ cQ)
  (qc:s'.loc=aJ.map (·.2)) (WH:∀t,look s'.env t=N5 (look s.env t)):bT aA aY n aJ s' a w:=by
 refine⟨h.size,h.defers,h.fH,h.a0,qc,fun t=>by rw[WH];exact(rb (h.env t)).2,fun i z aK ab=> ?_,fun i j x o y aK b ab ai d1 d2 cC cH=> ?_⟩
 ·rcases gV i z aK ab with rfl| ⟨cQ,h1,rfl⟩
  ·exact trivial
  ·have hQ:=h.cp _ _ _ h1;cases cQ with
   |bd=>exact trivial
   |gone=>exact hQ
   |b6 ds=>
    obtain⟨az,aG,a7,b5⟩:=hQ;refine⟨az,by simpa using aG,a7,fun nX v d ac aa=> ?_⟩;rw[List.getElem?_map]at aa;cases ai:ds[nX]? with
    |none=>rw[ai]at aa;cases aa
    |some bD=>
     rw[ai]at aa;simp at aa;subst aa;exact(rb (b5 nX v bD ac ai)).1 (a7 v (List.mem_of_getElem? ac))
   |cells t cs=>
    obtain⟨g,arr,rfl,cR,bp,ag,bf,gY⟩:=hQ;refine⟨g,arr,rfl,cR,bp,by simpa using ag,bf,fun gy v d ac aa=> ?_⟩;rw[List.getElem?_map]at aa;cases ai:cs[gy]? with
    |none=>rw[ai]at aa;cases aa
    |some bD=>
     rw[ai]at aa;simp at aa;subst aa;refine(rb (gY gy v bD ac ai)).1 (bf v ?_);rw[<-Array.getElem?_toList]at ac;exact List.mem_of_getElem? ac
   |row aG p9 r6=>
    obtain⟨gI,xs,bJ,bZ,fp,bf,ao⟩:=hQ;exact⟨gI,xs,bJ,bZ,fp,bf,fun dv gy r d h1 ad=>by
     obtain⟨v,ac,ab⟩:=ao dv gy r d h1 ad;exact⟨v,ac,ab.b9 k⟩⟩
 ·have c2:∀cQ:aU,e4 φ cQ≠ .bd->cQ≠ .bd:=by intro cQ;cases cQ<;>simp[e4]
  rcases gV i x o ab with rfl| ⟨cQ,h1,rfl⟩
  ·exact absurd rfl d1
  ·rcases gV j y aK ai with rfl| ⟨eI,ad,rfl⟩
   ·exact absurd rfl d2
   ·exact h.inj i j x cQ y eI b h1 ad (c2 _ d1) (c2 _ d2) cC cH
theorem bT.Dt{i:Nat}{x:Value}{t:TypeId}{cs:List aj}(h:bT aA aY n os s a w)(ab:os[i]?=some (x,.cells t cs))(dk:mH cs=true):
  bT aA aY n ((os.map fun p=>(p.1,e4 (kA i cs) p.2)).set i (x,.bd)) (s.Dt i cs) a w/\
  ∀b,a8 aA ((os.map fun p=>(p.1,e4 (kA i cs) p.2)).set i (x,.bd)) b->a8 aA os b/\bs x≠some b:=by
 have ap:=(List.getElem?_eq_some_iff.1 ab).1;generalize gV: (os.map fun p=>(p.1,e4 (kA i cs) p.2)).set i (x,.bd)=aJ;have H3:aJ[i]?=some (x,.bd):=by rw[<-gV,List.getElem?_set_self (by simpa using ap)]
 have pv:∀ {k:Nat},k≠i->aJ[k]?=(os[k]?).map fun p=>(p.1,e4 (kA i cs) p.2):=by
  intro k h1;rw[<-gV,List.getElem?_set_ne (fun e=>h1 e.symm),List.getElem?_map]
 have b7:∀ (k:Nat) (z:Value) (aK:aU),aJ[k]?=some (z,aK)->(k=i/\z=x/\aK= .bd)\/(k≠i/\∃cQ,os[k]?=some (z,cQ)/\aK=e4 (kA i cs) cQ):=by
  intro k z aK hk;by_cases az:k=i
  ·subst az;rw[H3]at hk;cases hk;exact .inl ⟨rfl,rfl,rfl⟩
  ·rw[pv az]at hk;cases fT:os[k]? with
   |none=>rw[fT]at hk;cases hk
   |some p=>rw[fT]at hk;cases hk;exact .inr ⟨az,_,rfl,rfl⟩
 have c2:∀cQ:aU,e4 (kA i cs) cQ≠ .bd->cQ≠ .bd:=by intro cQ;cases cQ<;>simp[e4]
 have fV:∀b,a8 aA aJ b->a8 aA os b/\bs x≠some b:=by
  intro b ae;rcases ae with ae| ⟨j,z,aK,ai,aa,b4⟩
  ·exact⟨.inl ae,fun cd=>h.a0 b ae ((h.cp i _ _ ab).gW (by simp) cd).1⟩
  ·rcases b7 j z aK ai with⟨rfl,rfl,rfl⟩| ⟨bx,cQ,hR,rfl⟩
   ·exact absurd rfl aa
   ·exact⟨.inr ⟨j,_,_,hR,c2 _ aa,b4⟩,fun aG=>bx (h.inj j i _ _ _ _ b hR ab (c2 _ aa) (by simp) b4 aG)⟩
 have kE:cT (a8 aA os) (a8 aA aJ) w w:=cT.gk (fun b ae=>(fV b ae).1);have yD:=ww dk;have nY:∀ {p q:Nat},p≠q->Nat.beq p q=false:=by
  intro p q bx;cases ae:Nat.beq p q
  ·rfl
  ·exact absurd (Nat.eq_of_beq_eq_true ae) bx
 have uP:∀ (off g:Nat) (t2:TypeId) (re:List aj),os[i]?=some (.pointer (some ⟨g,0,none⟩),.cells t2 re)->bO (a8 aA aJ) w (.pointer (some ⟨g,off,none⟩)) (.cD (cs.drop off)):=by
  intro off g t2 re hk;rw[ab]at hk;cases hk;obtain⟨arr,bp,_,_,_,_,cP⟩:=tb h.cp ab;refine AE (fun ae=>(fV g ae).2 rfl) (Array.getElem?_eq_some_iff.1 bp).1 (fun j d aa=> ?_);rw[List.getElem?_drop]at aa;obtain⟨v,h1,ad,aC⟩:=cP _ d aa;exact⟨v,by rw[Addr.mN];exact h1,ad,((aC.plain (yD d (List.mem_of_getElem? aa))).2).b9 kE⟩
 have gu:∀ {z:Value} {d:aj},bO (a8 aA os) w z d->bO (a8 aA aJ) w z (Ag i cs d):=by
  intro z d bE;cases d
  case aP=>cases bE
  all_goals exact bE.b9 kE
 have lP:∀ {z:Value} {d:aj},bO (a8 aA os) w z d->bO (a8 aA aJ) w z (kA i cs d)/\bO (a8 aA aJ) w z (ya i cs d):=by
  intro z d bE;induction bE with
  |v h=>exact⟨.v h,.v h⟩
  |aq xs aS al aT aI bZ aw ae bf cP an aN=>exact⟨(bO.aq xs aS al aT aI bZ aw ae bf cP an).b9 kE,(bO.aq xs aS al aT aI bZ aw ae bf cP an).b9 kE⟩
  |nil=>exact⟨.nil,.nil⟩
  |ar=>exact⟨.ar,.ar⟩
  |agg af bf h aN=>
   refine⟨(bO.agg af bf h).b9 kE,.agg (by simpa using af) bf (fun j v d ac aa=> ?_)⟩;rw[List.getElem?_map]at aa;rename_i ds;cases ai:ds[j]? with
   |none=>rw[ai]at aa;cases aa
   |some e=>rw[ai]at aa;simp at aa;subst aa;exact(aN j v e ac ai).1
  | @a1 vs ds af h _=>
   refine⟨(bO.a1 af h).b9 kE,?_⟩;show bO _ w _ (nN ds);unfold nN;split
   ·exact(bO.a1 af h).b9 kE
   ·exact .aW
  |cD xs aw ae bf cP an _=>exact⟨(bO.cD xs aw ae bf cP an).b9 kE,(bO.cD xs aw ae bf cP an).b9 kE⟩
  | @fn f vs ds af h _=>
   have key:bO (a8 aA aJ) w (.func f #[] vs.toArray) (.fn f (ds.map (Ag i cs))):=by
    refine .fn (by simpa using af) (fun j v d ac aa=> ?_);rw[List.getElem?_map]at aa;cases ai:ds[j]? with
    |none=>rw[ai]at aa;cases aa
    |some e=>rw[ai]at aa;simp at aa;subst aa;exact gu (h j v e ac ai)
   exact⟨key,key⟩
  |bP _ aH aN=>exact⟨.bP (fun ae=>(aN ae).1) aH,.bP (fun ae=>(aN ae).2) aH⟩
  |aW=>exact⟨.aW,.aW⟩
 have rb:∀ {z:Value} {d:aj},a6 (a8 aA os) os w z d->(z.oneCell'=true->a6 (a8 aA aJ) aJ w z (kA i cs d))/\a6 (a8 aA aJ) aJ w z (ya i cs d):=by
  intro z d bE;induction bE with
  |bA h=>exact⟨fun _=>.bA (lP h).1,.bA (lP h).2⟩
  | @aP k off g t2 re hk=>
   have key:a6 (a8 aA aJ) aJ w (.pointer (some ⟨g,off,none⟩)) (kA i cs (.aP k off)):=by
    by_cases bx:k=i
    ·subst bx;simp only[kA,Nat.beq_refl];exact .bA (uP off g t2 re hk)
    ·simp only[kA,nY (fun e=>bx e.symm)];exact .aP (t:=t2) (cs:=re.map (kA i cs)) (by rw[pv bx,hk];rfl)
   exact⟨fun _=>key,key⟩
  | @dc k off g t2 re hk=>
   have key:a6 (a8 aA aJ) aJ w (.pointer (some ⟨g,off,none⟩)) (kA i cs (.dc k off)):=by
    by_cases bx:k=i
    ·subst bx;simp only[kA,Nat.beq_refl];exact .bA (uP off g t2 re hk)
    ·simp only[kA,nY (fun e=>bx e.symm)];exact .dc (t:=t2) (cs:=re.map (kA i cs)) (by rw[pv bx,hk];rfl)
   exact⟨fun _=>key,key⟩
  | @cF k hA off g m c aG p9 r6 hk=>
   have bx:k≠i:=fun e=>by subst e;rw[ab]at hk;cases hk
   have key:a6 (a8 aA aJ) aJ w (.pointer (some ⟨g,hA*p9+off,none⟩)) (.cF k hA off):=.cF (e:=aG) (av:=p9) (es:=r6) (n:=m) (c:=c) (by rw[pv bx,hk];rfl);exact⟨fun _=>key,key⟩
  | @own k z aG p9 r6 hk h1=>
   have bx:k≠i:=fun e=>by subst e;rw[ab]at hk;cases hk
   have key:a6 (a8 aA aJ) aJ w z (.own k):=.own (e:=aG) (av:=p9) (es:=r6) (by rw[pv bx,hk];rfl) h1;exact⟨fun _=>key,key⟩
  | @dK k z D7 d hk aa h1=>
   have bx:k≠i:=fun e=>by subst e;rw[ab]at hk;cases hk
   have fi:aJ[k]?=some (D7,.gone):=by rw[pv bx,hk];rfl
   rcases aa with rfl| ⟨hA,off,rfl⟩
   ·exact⟨fun _=>.dK fi (.inl rfl) h1,.dK fi (.inl rfl) h1⟩
   ·exact⟨fun _=>.dK fi (.inr ⟨_,_,rfl⟩) h1,.dK fi (.inr ⟨_,_,rfl⟩) h1⟩
  | @agg vs ds af bf _ aN=>
   refine⟨fun h=>by simp[Value.oneCell']at h,.agg (by simpa using af) bf (fun k v d ac aa=> ?_)⟩;rw[List.getElem?_map]at aa;cases hk:ds[k]? with
   |none=>rw[hk]at aa;cases aa
   |some e=>rw[hk]at aa;simp at aa;subst aa;exact(aN k v e ac hk).1 (bf v (List.mem_of_getElem? ac))
  | @a1 vs ds af bJ bp aN=>
   exact⟨fun h1=>by simp[Value.oneCell']at h1,.bA (((a6.a1 af bJ bp).nN).b9 kE)⟩
  | @fn f vs ds af N6 bp aN=>
   have key:a6 (a8 aA aJ) aJ w (.func f #[] vs.toArray) (.fn f (ds.map (Ag i cs))):=by
    refine .fn (by simpa using af) (fun d aa=> ?_) (fun j v d ac aa=> ?_)
    ·obtain⟨e,he,rfl⟩:=List.mem_map.1 aa;have al:=N6 e he;cases e<;>simp[j0,kf]at al
     case aP k o=>
      simp only[Ag];split<;>rfl
     all_goals first|rfl|skip
     rename_i g b2;have:b2=[]:=by cases b2<;>simp_all[kf]
     subst this;rfl
    ·rw[List.getElem?_map]at aa;cases ai:ds[j]? with
     |none=>rw[ai]at aa;cases aa
     |some e=>
      rw[ai]at aa;simp at aa;subst aa;have al:=N6 e (List.mem_of_getElem? ai);have ad:=(aN j v e ac ai).2;cases e<;>simp[j0,kf]at al
      all_goals first|exact ad|skip
      rename_i g b2;have:b2=[]:=by cases b2<;>simp_all[kf]
      subst this;exact ad
   exact⟨fun _=>key,key⟩
  |bP _ aH aN=>exact⟨fun h1=>.bP (fun ae=>(aN ae).1 h1) aH,.bP (fun ae=>(aN ae).2) aH⟩
 refine⟨h.WG (kA i cs) (ya i cs) rb kE (fun k z aK hk=> ?_) ?_ (fun t=> ?_),fV⟩
 ·rcases b7 k z aK hk with⟨_,_,rfl⟩| ⟨_,cQ,h1,ad⟩
  ·exact .inl rfl
  ·exact .inr ⟨cQ,h1,ad⟩
 ·rw[<-gV];show e1 (mh (kA i cs) s.loc) i .bd=_;rw[kj,r4,h.loc,List.map_set,List.map_map,List.map_map];rfl
 ·show look (mI (ya i cs) s.env) t=_;rw[yo _ (by rfl)]
def j5(aA:Nat->Prop)(os:cu)(J:List Nat)(b:Nat):Prop:=aA b\/∃ (i:Nat) (x:Value) (bm:aU),os[i]?=some (x,bm)/\bm≠ .bd/\i∉J/\bs x=some b
def kF:aj->Option Nat
 | .own j=>some j
 | .aP j _=>some j
 |_=>none
def hm(ds:List aj):List Nat:=ds.filterMap kF
theorem wB{ds:List aj}{d:aj}{j:Nat}(h:d∈ds)(ai:kF d=some j):j∈hm ds:=List.mem_filterMap.2 ⟨d,h,ai⟩
theorem tn:∀ (ds:List aj) {os:cu} {s:bu} {K:bu->Prop},bT aA aY n os s a w->mi ds s K->∃aJ s',bT aA aY n aJ s' a w/\K s'/\(∀b,a8 aA aJ b->j5 aA os (hm ds) b)/\∀ (i:Nat) x o,i∉hm ds->os[i]?=some (x,o)->∃aK,aJ[i]?=some (x,aK)/\di o aK
 | [],os,s,K,h,ak=>⟨os,s,h,ak,fun b ae=>by
   rcases ae with ae| ⟨i,x,aK,ab,aa,b4⟩
   ·exact .inl ae
   ·exact .inr ⟨i,x,aK,ab,aa,by simp[hm],b4⟩,fun i x o _ ab=>⟨o,ab,by cases o<;>simp[di]⟩⟩
 |d::r,os,s,K,h,ak=>by
  have live:∀ {j:Nat},(∀e av es,bB s.loc j≠ .row e av es)->(∀t cs,bB s.loc j≠ .cells t cs)->kF d=some j->mi r s K->∃aJ s',bT aA aY n aJ s' a w/\K s'/\(∀b,a8 aA aJ b->j5 aA os (hm (d::r)) b)/\∀ (i:Nat) x o,i∉hm (d::r)->os[i]?=some (x,o)->∃aK,aJ[i]?=some (x,aK)/\di o aK:=by
   intro j gh fh an ak;obtain⟨aJ,s',ao,hk,te,oI⟩:=tn r h ak;refine⟨aJ,s',ao,hk,fun b ae=> ?_,fun i y bm ab aF=>oI i y bm (fun aT=>ab (by simp[hm,an];exact .inr (by simpa[hm]using aT))) aF⟩;rcases te b ae with ae| ⟨i,y,aK,cV,c2,aS,b4⟩
   ·exact .inl ae
   ·refine .inr ⟨i,y,aK,cV,c2,?_,b4⟩;have az:hm (d::r)=j::hm r:=by simp[hm,an]
    rw[az];simp only[List.mem_cons,not_or];refine⟨fun e=> ?_,aS⟩;subst e;have gi:bB s.loc i=aK:=by rw[h.loc,jn,List.getElem?_map,cV];rfl
    cases aK with
    |row e av es=>exact gh _ _ _ gi
    |cells t cs=>exact fh _ _ gi
    |bd=>exact c2 rfl
    |gone=>have hn:bs y=none:=h.cp _ _ _ cV;rw[hn]at b4;cases b4
    |b6 ds=>obtain⟨rfl,_⟩:=h.cp _ _ _ cV;simp[bs]at b4
  have step:∀ {j:Nat} {x:Value} {bm:aU} {φ:aj->aj} {s1:bu},os[j]?=some (x,bm)->kF d=some j->bT aA aY n ((os.map fun p=>(p.1,e4 φ p.2)).set j (x,.bd)) s1 a w->mi r s1 K->
    ∃aJ s',bT aA aY n aJ s' a w/\K s'/\(∀b,a8 aA aJ b->j5 aA os (hm (d::r)) b)/\∀ (i:Nat) x o,i∉hm (d::r)->os[i]?=some (x,o)->∃aK,aJ[i]?=some (x,aK)/\di o aK:=by
   intro j x bm φ s1 ab an bb ak;obtain⟨aJ,s',ao,hk,te,oI⟩:=tn r bb ak;refine⟨aJ,s',ao,hk,fun b ae=> ?_,fun i y H4 gX aF=> ?_⟩
   rotate_left
   ·have dS:i≠j:=fun e=>gX (by subst e;exact wB List.mem_cons_self an);obtain⟨aK,h1,ad⟩:=oI i y (e4 φ H4) (fun aT=>gX (by simp[hm,an];exact .inr (by simpa[hm]using aT))) (by rw[List.getElem?_set_ne (fun aG=>dS aG.symm),List.getElem?_map,aF];rfl);exact⟨aK,h1,by cases H4<;>cases aK<;>simp[di,e4]at ad⊢ <;>exact ad⟩
   rcases te b ae with ae| ⟨i,y,aK,cV,c2,aS,b4⟩
   ·exact .inl ae
   ·have dS:i≠j:=by
     intro e;subst e;rw[List.getElem?_set_self (by simpa using(List.getElem?_eq_some_iff.1 ab).1)]at cV;cases cV;exact c2 rfl
    rw[List.getElem?_set_ne (fun aG=>dS aG.symm),List.getElem?_map]at cV;cases hR:os[i]? with
    |none=>rw[hR]at cV;cases cV
    |some p=>
     rw[hR]at cV;cases cV;refine .inr ⟨i,_,_,hR,fun aG=>c2 (by rw[aG];rfl),?_,b4⟩;have az:hm (d::r)=j::hm r:=by simp[hm,an]
     rw[az];simp only[List.mem_cons,not_or];exact⟨dS,aS⟩
  by_cases aa:∃j,d= .own j
  ·obtain⟨j,rfl⟩:=aa;unfold mi at ak;split at ak
   ·rename_i e av es af;rw[h.loc]at af;obtain⟨x,ab⟩:=iM af (by simp);exact step ab rfl (h.hZ ab).1 ak
   ·exact ak.elim
   ·rename_i gh fh;exact live (fun _ _ _ e=>gh _ _ _ e) (fun _ _ e=>fh _ _ e) rfl ak
  ·by_cases hS:∃j o,d= .aP j o
   ·obtain⟨j,off,rfl⟩:=hS;unfold mi at ak;split at ak
    ·rename_i t cs af;split at ak
     ·rename_i dk;rw[h.loc]at af;obtain⟨x,ab⟩:=iM af (by simp);exact step ab rfl (h.Dt ab dk).1 ak
     ·exact ak.elim
    ·exact ak.elim
    ·rename_i gh fh;exact live (fun _ _ _ e=>fh _ _ _ e) (fun _ _ e=>gh _ _ e) rfl ak
   ·have h1:mi (d::r) s K=mi r s K:=by cases d<;>first|rfl|exact absurd ⟨_,rfl⟩ aa|exact absurd ⟨_,_,rfl⟩ hS
    have ad:hm (d::r)=hm r:=by cases d<;>first|rfl|exact absurd ⟨_,rfl⟩ aa|exact absurd ⟨_,_,rfl⟩ hS
    rw[h1]at ak;rw[ad];exact tn r h ak
theorem to{J:List Nat}{b:Nat}(h:j5 aA os J b):a8 aA os b:=by
 rcases h with h| ⟨i,x,aK,ab,aa,_,ae⟩
 ·exact .inl h
 ·exact .inr ⟨i,x,aK,ab,aa,ae⟩
theorem N7{J:List Nat}{x:Value}{j off:Nat}{t:TypeId}{cs:List aj}(h:bT aA aY n os s a w)(ao:a6 (a8 aA os) os w x (.aP j off))(gL:j∈J)(af:bB s.loc j= .cells t cs)(dk:mH cs=true):bO (j5 aA os J) w x (.cD (cs.drop off)):=by
 rw[h.loc]at af;obtain⟨x',ab⟩:=iM af (by simp);obtain⟨g,c1,cY,cV,rfl⟩:=ao.nR;rw[ab]at cV;cases cV;obtain⟨arr,bp,_,_,_,_,cP⟩:=tb h.cp ab;refine AE (fun ac=> ?_) (Array.getElem?_eq_some_iff.1 bp).1 (fun q d aa=> ?_)
 ·rcases ac with ac| ⟨i,y,aK,cV,aa,aS,b4⟩
  ·exact h.a0 g ac ((h.cp _ _ _ ab).gW (by simp) rfl).1
  ·exact aS (by rw[h.inj i j _ _ _ _ g cV ab aa (by simp) b4 rfl];exact gL)
 ·rw[List.getElem?_drop]at aa;obtain⟨v,h1,ad,aC⟩:=cP _ d aa;exact⟨v,by rw[Addr.mN];exact h1,ad,((aC.plain (ww dk d (List.mem_of_getElem? aa))).2).b9 (cT.gk (fun _=>to))⟩
theorem WI{J:List Nat}{x:Value}{d:aj}{Q:aj->Prop}(h:bT aA aY n os s a w)(ao:a6 (a8 aA os) os w x d)(al:j0 d=true\/bO (a8 aA os) w x d)(gL:∀j o,d= .aP j o->j∈J)(af:rS s.loc d Q):∃bD,Q bD/\bO (j5 aA os J) w x bD:=by
 have bA:∀ {d:aj},bO (a8 aA os) w x d->bO (j5 aA os J) w x d:=fun ab=>ab.b9 (cT.gk (fun _=>to));by_cases aa:∃j o,d= .aP j o
 ·obtain⟨j,off,rfl⟩:=aa;unfold rS at af;split at af
  ·rename_i gy aK e;cases e;split at af
   ·rename_i t cs nx;split at af
    ·rename_i dk;exact⟨_,af,N7 h ao (gL _ _ rfl) nx dk⟩
    ·exact af.elim
   ·exact af.elim
  ·rename_i bx;exact absurd rfl (bx _ _)
 ·have h1:rS s.loc d Q=Q d:=by cases d<;>first|rfl|exact absurd ⟨_,_,rfl⟩ aa
  rw[h1]at af;refine⟨d,af,bA ?_⟩;rcases al with al|al
  ·by_cases uP:∃cs,d= .cD cs
   ·obtain⟨cs,rfl⟩:=uP;exact ao.rX
   ·refine(ao.plain ?_).2;cases d
    case aP=>exact absurd ⟨_,_,rfl⟩ aa
    case cD=>exact absurd ⟨_,rfl⟩ uP
    case fn f b2=>
     have:b2=[]:=by cases b2<;>simp_all[j0,kf]
     subst this;rfl
    all_goals first|rfl| (simp[j0,kf]at al)
  ·exact al
theorem N8{J:List Nat}(h:bT aA aY n os s a w):∀ (vs:List Value) (ds:List aj) {Q:List aj->Prop},vs.length=ds.length->(∀ (i:Nat) v d,vs[i]?=some v->ds[i]?=some d->a6 (a8 aA os) os w v d/\(j0 d=true\/bO (a8 aA os) w v d))->(∀j o,.aP j o∈ds->j∈J)->uv s.loc ds Q->
  ∃fJ,Q fJ/\vs.length=fJ.length/\∀ (i:Nat) v d,vs[i]?=some v->fJ[i]?=some d->bO (j5 aA os J) w v d
 | [],[],Q,_,_,_,af=>⟨[],af,rfl,by simp⟩
 | [],_::_,Q,h1,_,_,_=>by simp at h1
 |_::_,[],Q,h1,_,_,_=>by simp at h1
 |v::vs,d::ds,Q,h1,ao,gL,af=>by
  obtain⟨bD,af,ab⟩:=WI h (ao 0 v d rfl rfl).1 (ao 0 v d rfl rfl).2 (fun j o e=>gL j o (by simp[e])) af;obtain⟨fJ,bF,hlen,au⟩:=N8 h vs ds (by simpa using h1) (fun i v d ac aa=>ao (i+1) v d (by simpa using ac) (by simpa using aa)) (fun j o ai=>gL j o (by simp[ai])) af;refine⟨bD::fJ,bF,by simp[hlen],fun i v' e ac he=> ?_⟩;cases i with
  |zero=>simp at ac he;subst ac he;exact ab
  |succ i=>exact au i v' e (by simpa using ac) (by simpa using he)
theorem H5{J:List Nat}{x:Value}{d:aj}{Q:aj->Prop}(h:bT aA aY n os s a w)(ao:a6 (a8 aA os) os w x d)(gL:∀e j,e∈kS d->kF e=some j->j∈J)(af:lH s.loc d Q):∃bD,Q bD/\bO (j5 aA os J) w x bD:=by
 have bA:∀ {d:aj},bO (a8 aA os) w x d->bO (j5 aA os J) w x d:=fun ab=>ab.b9 (cT.gk (fun _=>to));cases d with
 |own j=>
  simp only[lH]at af;split at af
  ·rename_i e av es nx;rw[h.loc]at nx;obtain⟨x',ab⟩:=iM nx (by simp);have kk:=ao.nS ab;subst kk;refine⟨_,af,D6 (h.cp _ _ _ ab) (fun _=>to) (fun b ae ac=> ?_)⟩;rcases ac with ac| ⟨i,y,aK,cV,aa,aS,b4⟩
   ·exact h.a0 b ac ((h.cp _ _ _ ab).gW (by simp) ae).1
   ·exact aS (by rw[h.inj i j _ _ _ _ b cV ab aa (by simp) b4 ae];exact gL (.own j) j (by simp[kS]) rfl)
  ·exact af.elim
 |aP j off=>
  simp only[lH]at af;split at af
  ·rename_i t cs nx;split at af
   ·rename_i dk;exact⟨_,af,N7 h ao (gL (.aP j off) j (by simp[kS]) rfl) nx dk⟩
   ·exact af.elim
  ·exact af.elim
 |dc=>exact af.elim
 |cF=>exact af.elim
 |bP=>exact af.elim
 |agg=>exact af.elim
 |v y=>obtain⟨rfl,h1⟩:=ao.h2;exact⟨_,af,.v h1⟩
 |aq=>exact⟨_,af,bA ao.kT⟩
 |a1=>exact af.elim
 |cD=>exact⟨_,af,bA ao.rX⟩
 |fn f b2=>
  have af:uv s.loc b2 fun l=>Q (.fn f l):=af;have H6:∃vs:List Value,x= .func f #[] vs.toArray/\vs.length=b2.length/\∀ (i:Nat) v d,vs[i]?=some v->b2[i]?=some d->a6 (a8 aA os) os w v d/\(j0 d=true\/bO (a8 aA os) w v d):=by
   cases ao with
   |bA h=>cases h with
    |fn af au=>exact⟨_,rfl,af,fun i v d ac aa=>⟨.bA (au i v d ac aa),.inr (au i v d ac aa)⟩⟩
   |fn af gu au=>exact⟨_,rfl,af,fun i v d ac aa=>⟨au i v d ac aa,.inl (gu d (List.mem_of_getElem? aa))⟩⟩
   |dK h aa h1=>rcases aa with aa| ⟨_,_,aa⟩<;>cases aa
  obtain⟨vs,rfl,hlen,au⟩:=H6;obtain⟨fJ,bF,fh,iQ⟩:=N8 h vs b2 hlen au (fun j o ai=>gL (.aP j o) j (by simp only[kS,List.mem_filter];exact⟨ai,rfl⟩) rfl) af;exact⟨_,bF,.fn fh iQ⟩
 |ar=>rw[ao.mo];exact⟨_,af,.ar⟩
 |aW=>exact⟨_,af,.aW⟩
theorem N9{J:List Nat}(h:bT aA aY n os s a w):∀ (vs:List Value) (ds:List aj) {Q:List aj->Prop},vs.length=ds.length->(∀ (i:Nat) v d,vs[i]?=some v->ds[i]?=some d->a6 (a8 aA os) os w v d)->(∀e j,e∈ds.flatMap kS->kF e=some j->j∈J)->yb s.loc ds Q->
  ∃fJ,Q fJ/\vs.length=fJ.length/\∀ (i:Nat) v d,vs[i]?=some v->fJ[i]?=some d->bO (j5 aA os J) w v d
 | [],[],Q,_,_,_,af=>⟨[],af,rfl,by simp⟩
 | [],_::_,Q,h1,_,_,_=>by simp at h1
 |_::_,[],Q,h1,_,_,_=>by simp at h1
 |v::vs,d::ds,Q,h1,ao,gL,af=>by
  obtain⟨bD,af,ab⟩:=H5 h (ao 0 v d rfl rfl) (fun e j he ai=>gL e j (by simp[List.flatMap_cons,he]) ai) af;obtain⟨fJ,bF,hlen,au⟩:=N9 h vs ds (by simpa using h1) (fun i v d ac aa=>ao (i+1) v d (by simpa using ac) (by simpa using aa)) (fun e j he ai=>gL e j (by rw[List.flatMap_cons];exact List.mem_append.2 (.inr he)) ai) af;refine⟨bD::fJ,bF,by simp[hlen],fun i v' e ac he=> ?_⟩;cases i with
  |zero=>simp at ac he;subst ac he;exact ab
  |succ i=>exact au i v' e (by simpa using ac) (by simpa using he)
theorem Oa{J:List Nat}{x:Value}{d:aj}{Q:aj->Prop}(h:bT aA aY n os s a w)(ao:a6 (a8 aA os) os w x d)(gL:∀e j,e∈fm [d]->kF e=some j->j∈J)(af:qX s.loc d Q):∃bD,Q bD/\bO (j5 aA os J) w x bD:=by
 by_cases aa:∃cs,d= .agg cs
 ·obtain⟨cs,rfl⟩:=aa;obtain⟨vs,rfl,hlen,bf,au⟩:=ao.s9;obtain⟨fJ,bF,fh,iQ⟩:=N9 h vs cs hlen au (fun e j he ai=>gL e j (by
   simp only[fm,List.append_nil];exact he) ai) af
  exact⟨_,bF,.agg fh bf iQ⟩
 by_cases bW:∃ds,d= .a1 ds
 ·obtain⟨ds,rfl⟩:=bW;have af:match ds.any kh with
   |false=>Q (.a1 ds)
   |true=>False:=af
  cases aS:ds.any kh with
  |false=>
   rw[aS]at af;exact⟨_,af,(ao.Nk aS).b9 (cT.gk (fun _=>to))⟩
  |true=>
   rw[aS]at af;exact af.elim
 ·have h1:qX s.loc d Q=lH s.loc d Q:=by cases d<;>first|rfl|exact absurd ⟨_,rfl⟩ aa|exact absurd ⟨_,rfl⟩ bW
  rw[h1]at af;have ad:fm [d]=kS d:=by cases d<;>first|exact absurd ⟨_,rfl⟩ aa|simp[fm]
  exact H5 h ao (fun e j he ai=>gL e j (by rw[ad];exact he) ai) af
theorem D8(d:aj)(r:List aj):fm (d::r)=fm [d]++fm r:=by
 cases d<;>simp[fm]
theorem AP{J:List Nat}(h:bT aA aY n os s a w):∀ (vs:List Value) (ds:List aj) {Q:List aj->Prop},vs.length=ds.length->(∀ (i:Nat) v d,vs[i]?=some v->ds[i]?=some d->a6 (a8 aA os) os w v d)->(∀e j,e∈fm ds->kF e=some j->j∈J)->p1 s.loc ds Q->
  ∃fJ,Q fJ/\ph (j5 aA os J) w vs fJ
 | [],[],Q,_,_,_,af=>⟨[],af,trivial⟩
 | [],_::_,Q,h1,_,_,_=>by simp at h1
 |_::_,[],Q,h1,_,_,_=>by simp at h1
 |v::vs,d::ds,Q,h1,ao,gL,af=>by
  obtain⟨bD,af,ab⟩:=Oa h (ao 0 v d rfl rfl) (fun e j he ai=>gL e j (by rw[D8];exact List.mem_append.2 (.inl he)) ai) af;obtain⟨fJ,bF,au⟩:=AP h vs ds (by simpa using h1) (fun i v d ac aa=>ao (i+1) v d (by simpa using ac) (by simpa using aa)) (fun e j he ai=>gL e j (by rw[D8];exact List.mem_append.2 (.inr he)) ai) af;exact⟨bD::fJ,bF,ab,au⟩
theorem bO.le{x:Value}{d bD:aj}(aa:fP d bD)(h:bO A w x d):bO A w x bD:=by
 induction aa generalizing x with
 |refl=>exact h
 | @nil av ki f jk aI=>
  cases h with
  |aq xs aS al aT D9 bZ aw ae bf cP an=>exact .aq xs aS al aT (fun e=>D9 (aI e)) (by simp) (fun h=>absurd rfl h) (fun h=>absurd rfl h) bf (by simp) (by simp)
  |nil=>exact .nil
 |ar=>cases h;exact .nil
 |aq=>
  cases h with
  |aq xs aS al aT D9 bZ aw ae bf cP an=>exact .aq xs aS al aT (by simp) bZ aw ae bf cP an
  |nil=>exact .nil
 | @hK av es er f af ao bp aN=>
  cases h with
  |aq xs aS al aT D9 bZ aw ae bf cP an=>
   have get:∀ {i:Nat} {dZ:List aj},er[i]?=some dZ->∃r,es[i]?=some r/\r.length=dZ.length:=fun {i dZ} h=>by
    have ab:=(List.getElem?_eq_some_iff.1 h).1;exact⟨es[i]'(by omega),List.getElem?_eq_getElem (by omega),ao i _ _ (List.getElem?_eq_getElem (by omega)) h⟩
   have ny:er≠ []->es≠ []:=fun h e=>by subst e;simp at af;exact h (List.length_eq_zero_iff.1 af.symm)
   refine .aq xs (by omega) al aT D9 (fun e he=> ?_) (fun h=>aw (ny h)) (fun h=>ae (ny h)) bf (fun i j e d he aa=> ?_) (fun i j e d he aa=> ?_)
   ·obtain⟨i,ab,rfl⟩:=List.getElem_of_mem he;obtain⟨r,h1,ad⟩:=get (List.getElem?_eq_getElem ab);rw[<-ad];exact bZ r (List.mem_of_getElem? h1)
   ·obtain⟨r,h1,ad⟩:=get he;have ai:=(List.getElem?_eq_some_iff.1 aa).1;exact cP i j r _ h1 (List.getElem?_eq_getElem (by omega))
   ·obtain⟨r,h1,ad⟩:=get he;have ai:=(List.getElem?_eq_some_iff.1 aa).1;have al:=List.getElem?_eq_getElem (l:=r) (i:=j) (by omega);exact aN i j r e _ d h1 he al aa (an i j r _ h1 al)
  |nil=>
   have:er=[]:=List.length_eq_zero_iff.1 (by simpa using af.symm);subst this;exact .nil
 | @agg cs ds af bp aN=>
  cases h with
  |agg fG bf au=>
   refine .agg (fG.trans af) bf (fun i v d ac aa=> ?_);have ab:i<cs.length:=by
    have:=(List.getElem?_eq_some_iff.1 aa).1;omega
   exact aN i cs[i] d (List.getElem?_eq_getElem ab) aa (au i v _ ac (List.getElem?_eq_getElem ab))
 | @a1 cs ds af bp aN=>
  cases h with
  |a1 fG au=>
   refine .a1 (fG.trans af) (fun i v d ac aa=> ?_);have ab:i<cs.length:=by
    have:=(List.getElem?_eq_some_iff.1 aa).1;omega
   exact aN i cs[i] d (List.getElem?_eq_getElem ab) aa (au i v _ ac (List.getElem?_eq_getElem ab))
 |aW=>exact .aW
theorem ph.le:∀ {vs:List Value} {ds fJ:List aj},lI ds fJ->ph A w vs ds->ph A w vs fJ
 | [],[],[],_,_=>trivial
 | [],[],_::_,h,_=>h.elim
 | [],_::_,_,_,h=>h.elim
 |_::_,[],_,_,h=>h.elim
 |v::vs,d::ds,[],h,_=>h.elim
 |v::vs,d::ds,e::es,h,ab=>⟨ab.1.le h.1,ph.le h.2 ab.2⟩
theorem Ob{cU:Nat->Prop}{x:Value}{d:aj}(ag:s3 d=true)(h:bO A w x d):bO cU w x d:=by
 have dD:∀ {x:Value} {d:aj},Ah d=true->bO A w x d->bO cU w x d:=by
  intro x d ag h;cases d<;>simp[Ah]at ag
  cases h with
  |v h=>exact .v h
 have agg:∀ {x:Value} {cs:List aj},cs.all Ah=true->bO A w x (.agg cs)->bO cU w x (.agg cs):=by
  intro x cs ag h;cases h with
  |agg af bf au=>exact .agg af bf (fun i v d ac aa=>dD (List.all_eq_true.1 ag d (List.mem_of_getElem? aa)) (au i v d ac aa))
 cases d<;>simp only[s3,Bool.false_eq_true]at ag
 ·cases h with
  |v h=>exact .v h
 ·exact agg ag h
 ·cases h with
  |a1 af au=>
   refine .a1 af (fun i v d ac aa=> ?_);have:=List.all_eq_true.1 ag d (List.mem_of_getElem? aa);have ab:=au i v d ac aa;cases d<;>simp at this
   ·cases ab with
    |v h=>exact .v h
   ·exact agg (by simpa using this) ab
end
open Go
section
variable {P:Program} {ah:c4} {aA:Nat->Prop} {aY:dP} {n:Nat} {os:cu} {s:bu} {a:Act} {w:World} {o:Oper} {K:bu->Prop} {A:Nat->Prop} {B:Nat}
theorem Oc:∀ (l:List Operand) {os:cu} {s:bu} {K:bu->Prop},bT aA aY n os s a w->Hn s l K->∃aJ s',bT aA aY n aJ s' a w/\K s'
 | [],os,s,K,h,ak=>⟨os,s,h,ak⟩
 |x::r,os,s,K,h,ak=>by
  obtain⟨aJ,s',bb,ak,_,_⟩:=tn _ h (gv.1 ak);exact Oc r bb ak
theorem fW.set{cells cells':List Value}{es:List (List aj)}{av k off:Nat}{vs:List Value}{ez ds:List aj}(h:fW A w cells es av)(hk:es[k]?=some ez)(aI:off+vs.length<=av)(gT:vs.length=ds.length)(bf:∀v∈vs,v.oneCell'=true)
  (au:∀ (i:Nat) v d,vs[i]?=some v->ds[i]?=some d->bO A w v d) (hlen:cells'.length=cells.length) (al:∀j,cells'[j]?=if k*av+off<=j/\j<k*av+off+vs.length then vs[j- (k*av+off)]? else cells[j]?):
  fW A w cells' (es.set k (hl ez off ds)) av:=by
 have e8:=(List.getElem?_eq_some_iff.1 hk).1;have lQ:=h.hK _ (List.mem_of_getElem? hk);refine⟨by rw[hlen,h.len];simp,fun r ao=> ?_,fun v ac=> ?_,fun dv j r d fi ai=> ?_⟩
 ·rcases List.mem_or_eq_of_mem_set ao with ao|rfl
  ·exact h.hK r ao
  ·rw[DH];exact lQ
 ·obtain⟨j,ai,rfl⟩:=List.getElem_of_mem ac;have h1:=List.getElem?_eq_getElem ai;rw[al j]at h1;split at h1
  ·exact bf _ (List.mem_of_getElem? h1)
  ·exact h.dD _ (List.mem_of_getElem? h1)
 ·by_cases e:dv=k
  ·subst e;rw[List.getElem?_set_self e8]at fi;cases fi;have fX:=(List.getElem?_eq_some_iff.1 ai).1;rw[DH]at fX;rw[DI _ _ _ _ (by omega)]at ai;rw[al];split at ai
   ·rename_i c;rw[if_pos (by omega)];have Od:j-off<vs.length:=by omega
    refine⟨vs[j-off],?_,au _ _ d (List.getElem?_eq_getElem Od) ai⟩;rw[show dv*av+j- (dv*av+off)=j-off by omega];exact List.getElem?_eq_getElem Od
   ·rename_i c;rw[if_neg (by omega)];exact h.gw dv j ez d hk ai
  ·rw[List.getElem?_set_ne (fun cd=>e cd.symm)]at fi;have fp:=h.hK _ (List.mem_of_getElem? fi);have fX:=(List.getElem?_eq_some_iff.1 ai).1;rw[al];rw[if_neg ?_]
   ·exact h.gw dv j r d fi ai
   ·intro c;rcases Nat.lt_or_gt_of_ne e with ap|ap
    ·have h1: (dv+1) *av<=k*av:=Nat.mul_le_mul_right _ (by omega);rw[Nat.add_mul]at h1;omega
    ·have h1: (k+1) *av<=dv*av:=Nat.mul_le_mul_right _ (by omega);rw[Nat.add_mul]at h1;omega
theorem Ea{ρ:Operand->aj}{size:Nat}{K:List (List aj)->Prop}(eh:0<size):
  ∀ (parts:List (Nat×Operand)) (es:List (List aj)) (cells:Array Value),fW A w cells.toList es size->(∀p∈parts,a6 A os w (a.eval p.2) (ρ p.2))->p4 ρ size parts es K->
   ∃cells' er,K er/\Instr.fill (fun i=>some (i*size,size)) cells (parts.map fun p=>(p.1,a.eval p.2))=some cells'/\fW A w cells'.toList er size/\er.length=es.length
 | [],es,cells,ao,_,h=>⟨cells,es,h,by simp[Instr.fill],ao,rfl⟩
 | (i,x)::r,es,cells,ao,an,h=>by
  have lM:=an (i,x) (by simp);have h:=gv.1 h;split at h
  ·rename_i ae;simp only[Bool.and_eq_true]at ae;obtain⟨⟨cC,cH⟩,j3⟩:=ae;have cC:=Nat.eq_of_beq_eq_true cC;have cH:i<es.length:=Nat.le_of_ble_eq_true cH;have dk:=ww j3;have tp:∀b bD,ρ x≠ .bP b bD:=by
    intro b bD e;have:=dk (.bP b bD) (by rw[e];simp[cN]);simp[nM]at this
   have yE:∀l,ρ x≠ .a1 l:=by
    intro l e;have:=dk (.a1 l) (by rw[e];simp[cN]);simp[nM]at this
   have H7:ρ x≠ .aW:=by
    intro e;have:=dk .aW (by rw[e];simp[cN]);simp[nM]at this
   obtain⟨af,bf,au⟩:=a6.cells lM tp yE H7;have bZ: (a.eval x).cells.size=size:=by rw[<-cC,<-af];simp
   have DW:cells.size=es.length*size:=by rw[<-ao.len];simp
   have cw: (i+1) *size<=es.length*size:=Nat.mul_le_mul_right _ (by omega);rw[Nat.add_mul,Nat.one_mul]at cw;have tq:es[i]?=some es[i]:=List.getElem?_eq_getElem cH;have lQ:=ao.hK _ (List.mem_of_getElem? tq);have WJ:=fun j=>(AH (a.eval x).cells.toList 0 (i*size) cells j (by rw[DW,Array.length_toList,bZ];omega)).1;have ja:=(AH (a.eval x).cells.toList 0 (i*size) cells 0 (by rw[DW,Array.length_toList,bZ];omega)).2;have Oe: ((a.eval x).cells.zipIdx.foldl (fun(cs:Array Value) (p:Value×Nat)=>cs.setIfInBounds (i*size+p.2) p.1) cells)=((a.eval x).cells.toList.zipIdx 0).foldl (fun(cs:Array Value) (p:Value×Nat)=>cs.setIfInBounds (i*size+p.2) p.1) cells:=by
    rw[<-Array.foldl_toList];simp
   have WK:hl es[i] 0 (cN (ρ x))=cN (ρ x):=by
    apply List.ext_getElem?;intro j;rw[DI _ _ _ _ (by rw[lQ,cC];omega)];split
    ·simp
    ·rename_i c;rw[List.getElem?_eq_none (by rw[lQ];omega),List.getElem?_eq_none (by omega)]
   have iZ:=ao.set (cells':=((a.eval x).cells.zipIdx.foldl (fun(cs:Array Value) (p:Value×Nat)=>cs.setIfInBounds (i*size+p.2) p.1) cells).toList) (off:=0) tq (by rw[Array.length_toList,bZ];omega) af bf
    (fun j v d ac aa=>(a6.plain (au j v d ac aa) (dk d (List.mem_of_getElem? aa))).2) (by rw[Oe,Array.length_toList,Array.length_toList];exact ja) (fun j=>by
     rw[Oe,Array.getElem?_toList,WJ j];simp)
   rw[WK]at iZ;obtain⟨cells',er,ak,lN,iP,hlen⟩:=Ea eh r _ _ iZ (fun p au=>an p (by simp[au])) h;refine⟨cells',er,ak,?_,iP,by rw[hlen];simp⟩;simp only[List.map_cons,Instr.fill];rw[if_neg (by
    simp only[bZ,ne_eq,not_true_eq_false,decide_false,Bool.false_or,gt_iff_lt,decide_eq_true_eq,Bool.or_eq_true,or_false,false_or];omega)]
   exact lN
  ·exact h.elim
theorem WL(aO:cS P ah=true){t e:TypeId}{m:Nat}{parts:Array (Nat×Operand)}{Q:Exit->Act->World->Prop}(aF:o.op= .buildSlice t m parts)(hk: (ay ah t).k= .dW e)(ag: (ay ah e).size≠0)(hle:m* (ay ah e).size<=16777216)
  (h:bT aA aY n os s a w) (aa:∀t,o.dst=some t->t<n) (ak:p4 (bq s) (ay ah e).size parts.toList (List.replicate m (ay ah e).zero) fun es=>e0 ⟨s.env,s.loc++ [.row e (ay ah e).size es]⟩ o.dst (.own s.loc.length) K):o.wp P a w (c8 aA aY n K) Q:=by
 obtain⟨i,ab,bZ,gx,z,bE,kU,jO⟩:=oD aO ag;have hu:=jJ aO hk;obtain⟨h1,ad,aC⟩:=q6 (A:=a8 aA os) (w:=w) kU;have tm:nW (a8 aA os) os w z.cells (ay ah e).zero:=⟨by simpa using h1,ad,fun i v d ac aa=>.bA (aC i v d (by simpa using ac) aa)⟩
 have eh:=Nat.pos_of_ne_zero ag;have dR:=AO (N:=m) (m:=m) tm (fun i v d ac aa=>aC i v d (by simpa using ac) aa) (by omega) (Nat.le_refl _);rw[jO]at dR;have pt: (madeCells z.cells (m* (ay ah e).size)).toList.length=m* (ay ah e).size:=(Array.length_toList (xs:=madeCells z.cells (m* (ay ah e).size))).trans (size_madeCells _ _);rw[List.take_of_length_le (by rw[pt];exact Nat.le_refl _)]at dR;obtain⟨cells',er,ak,lN,iP,hlen⟩:=Ea eh parts.toList _ _ dR (fun p _=>h.bq p.2) ak;rw[List.length_replicate]at hlen;have hC:cells'.size=m* (ay ah e).size:=by have:=iP.len;rw[hlen]at this;simpa using this
 have aT:m<=maxLen:=by
  have ad:m*1<=m* (ay ah e).size:=Nat.mul_le_mul_left _ eh;simp only[maxLen];omega
 have bJ:=World.ownsRow_lit (base:=0) (e:=e) (size:=(ay ah e).size) w cells' m (Nat.zero_le _) aT hC;have au:=yz (x:=.slice (some ⟨w.heap.size,0,none⟩) m m) (es:=er) h (World.grownBy_alloc w (.cells cells' e) none) (fun b ae=>by simp[bs]at ae;omega) (by rw[hlen];exact bJ) eh iP;refine hB (x:=.slice (some ⟨w.heap.size,0,none⟩) m m) (w':=w.alloc (.cells cells' e)) ?_ (c8.put au aa (by rw[h.len];exact .own tf rfl) ak);have ra: (parts.map fun(i,x)=>(i,a.eval x)).toList=parts.toList.map fun p=>(p.1,a.eval p.2):=by cases parts;simp
 have uQ:¬(m* (ay ah e).size>2^24):=by omega
 by_cases rf:m* (ay ah e).size=0
 ·have uR:Instr.fill (fun i=>some (i* (ay ah e).size,(ay ah e).size)) (madeCells #[] (m* (ay ah e).size)) (parts.toList.map fun p=>(p.1,a.eval p.2))=some cells':=by
   rw[<-lN];congr 1;rw[rf];simp[madeCells]
  simp only[execOp,aF,Instr.buildSlice,Sem.run_bind,run_underlying hu,Result.andThen_ok,hM aO ag,if_neg uQ,if_pos rf,Sem.run_pure,ra];simp only[madeCells]at uR;simp only[uR,Sem.run_bind,newRow,run_newObj,Result.andThen_ok,Sem.run_pure,World.alloc_eq]
 ·have rh: (zeroValue e).run P w= .ok z w:=by simp[zeroValue,typeInfo,ab,bE]
  simp only[madeCells]at lN;simp only[execOp,aF,Instr.buildSlice,Sem.run_bind,run_underlying hu,Result.andThen_ok,hM aO ag,if_neg uQ,if_neg rf,rh,Sem.run_pure,ra];simp only[lN,Sem.run_bind,newRow,run_newObj,Result.andThen_ok,Sem.run_pure,World.alloc_eq]
theorem WM{i:Nat}{x:Value}{bm e9:aU}(ab:os[i]?=some (x,bm))(hk:di bm e9):q5 os (os.set i (x,e9)):=by
 intro j z aK ai;by_cases e:j=i
 ·subst e;rw[ab]at ai;cases ai;exact⟨_,List.getElem?_set_self (List.getElem?_eq_some_iff.1 ab).1,hk⟩
 ·exact⟨aK,by rw[List.getElem?_set_ne (fun cd=>e cd.symm)];exact ai,by cases aK<;>simp[di]⟩
theorem Eb{w':World}{i:Nat}{x:Value}{bm e9:aU}(ab:os[i]?=some (x,bm))(aa:bm≠ .bd)(ax:w.grownBy w' (bs x)):cT (a8 aA os) (a8 aA (os.set i (x,e9))) w w':=by
 refine⟨ax.size,fun b ae ac=> ?_,fun b ae aS=>ax.block b ae (fun e=>aS (.inr ⟨i,_,_,ab,aa,e.symm⟩))⟩;rcases ac with ac| ⟨j,z,aK,ai,c2,b4⟩
 ·exact .inl ac
 ·by_cases e:j=i
  ·subst e;rw[List.getElem?_set_self (List.getElem?_eq_some_iff.1 ab).1]at ai;cases ai;exact .inr ⟨_,_,_,ab,aa,b4⟩
  ·rw[List.getElem?_set_ne (fun cd=>e cd.symm)]at ai;exact .inr ⟨j,z,aK,ai,c2,b4⟩
theorem WN(aO:cS P ah=true){t ty:TypeId}{x y:Operand}{i k off g m c av:Nat}{es:List (List aj)}{ez:List aj}{d:aj}{Q:Exit->Act->World->Prop}(aF:o.op= .store t x y)(h:bT aA aY n os s a w)(aa:∀t,o.dst=some t->t<n)
  (ag: (ay ah t).size≠0) (an:a.eval x= .pointer (some ⟨g,k*av+off,none⟩)) (ab:os[i]?=some (.slice (some ⟨g,0,none⟩) m c,.row ty av es)) (e:bq s y=d) (dk:mH (cN d)=true) (tq:es[k]?=some ez)
  (bZ: (cN d).length=(ay ah t).size) (eO:off+(cN d).length<=av) (ak:e0 ⟨s.env,e1 s.loc i (.row ty av (es.set k (hl ez off (cN d))))⟩ o.dst (.bP false (.v (.bool false))) K):o.wp P a w (c8 aA aY n K) Q:=by
 have yD:=ww dk;have bt:=h.bq y;rw[e]at bt;have tp:∀b bD,d≠ .bP b bD:=by
  intro b bD e;subst e;have:=yD (.bP b bD) (by simp[cN]);simp[nM]at this
 have yE:∀l,d≠ .a1 l:=by
  intro l e;subst e;have:=yD (.a1 l) (by simp[cN]);simp[nM]at this
 have H7:d≠ .aW:=by
  intro e;subst e;have:=yD .aW (by simp[cN]);simp[nM]at this
 obtain⟨af,bf,au⟩:=bt.cells tp yE H7;obtain⟨xs,bJ,AQ,ao⟩:=r7 (h.cp _ _ _ ab);rcases bJ.2 with⟨ac,_⟩| ⟨c5,cap,cur,ac,cR,bp,mq,mr,hC,th⟩
 ·cases ac
 ·cases ac;have fG: (a.eval y).cells.size=(cN d).length:=by simpa using af
  have e8:=(List.getElem?_eq_some_iff.1 tq).1;have h1: (k+1) *av<=es.length*av:=Nat.mul_le_mul_right _ (by omega);rw[Nat.add_mul,Nat.one_mul]at h1;have ad:es.length*av<=c*av:=Nat.mul_le_mul_right _ mq;have tg:k*av+off+(a.eval y).cells.toList.length<=cur.toList.length:=by simp only[Array.length_toList];omega
  have cW:=NU (P:=P) (w:=w) aO aF ag an (by omega) bf bp (by omega);have ax:w.grownBy (w.setRow g (cur.toList.take (k*av+off)++(a.eval y).cells.toList++cur.toList.drop (k*av+off+(a.eval y).cells.toList.length)).toArray) (bs (.slice (some ⟨g,0,none⟩) es.length c)):=DZ;refine NQ cW (c8.put (os:=os.set i (.slice (some ⟨g,0,none⟩) es.length c,.row ty av (es.set k (hl ez off (cN d))))) (h.AK ab (e9:=.row ty av (es.set k (hl ez off (cN d)))) ⟨rfl,rfl⟩ (by simp) (by simp) ax ?_) aa AM ak);have jq:=Eb (aA:=aA) (e9:=.row ty av (es.set k (hl ez off (cN d)))) ab (by simp) ax;have yF:xs.length=es.length*av:=bJ.1;have iZ:=ao.set (cells':=xs.take (k*av+off)++(a.eval y).cells.toList++xs.drop (k*av+off+(a.eval y).cells.toList.length)) (off:=off) tq (by simp only[Array.length_toList];omega) af bf
   (fun j v d ac aa=>(a6.plain (au j v d ac aa) (yD d (List.mem_of_getElem? aa))).2) (D0 (by simp only[Array.length_toList];omega)) (fun j=>yx (by simp only[Array.length_toList];omega))
  refine oG (H:=aY) (yy (h.cp _ _ _ ab)) (xs:=xs.take (k*av+off)++(a.eval y).cells.toList++xs.drop (k*av+off+(a.eval y).cells.toList.length)) ⟨by rw[iZ.len],.inr ⟨g,c,_,by rw[List.length_set],cR,setRow_heap w g cur _ ty _ bp,by rw[List.length_set];exact mq,mr,?_,?_⟩⟩ AQ (iZ.b9 jq)
  ·rw[List.size_toArray,D0 tg];simpa using hC
  ·rw[List.length_set];apply List.ext_getElem?;intro j;have kV:∀j,j<es.length*av->xs[j]?=cur.toList[j]?:=by
    intro j ai;rw[<-th,List.getElem?_take,if_pos ai]
   rw[yx (by simp only[Array.length_toList];omega),List.getElem?_take];split
   ·rename_i ai;simp only[];rw[yx tg];split
    ·rfl
    ·exact(kV j ai).symm
   ·rename_i ai;rw[if_neg (by simp only[Array.length_toList];omega),List.getElem?_eq_none (by omega)]
theorem WO(aO:cS P ah=true){t ty e:TypeId}(hk: (ay ah t).k= .dW e)(ag: (ay ah e).size≠0){g mQ yG tr c:Nat}{b3:Addr}{cur:Array Value}{T:TypeId}{cs:List Value}(ax:w.heap[g]?=some (.cells cur T (0,0)))
  (aS:cs.length=Nat.min tr mQ* (ay ah e).size) (mR:∀ (j:Nat) v,cs[j]?=some v->w.cell? (b3.add j)=some v) (eO:cs.length<=cur.size) (h1:∀v∈cs,v.oneCell'=true):
  (Builtin.copy_ #[t,t] ty #[.slice (some ⟨g,0,none⟩) mQ yG,.slice (some b3) tr c]).run P w= .ok (.int .i64 (Nat.min tr mQ:Nat)) (w.setRow g (cs++cur.toList.drop cs.length).toArray):=by
 have hu:=jJ aO hk;have af:=run_loadCells_list (P:=P) w b3 cs mR;rw[aS]at af;have bM:=run_storeCells_at P g 0 T cs 0 cur w ax (by simpa using eO) h1;simp only[Nat.zero_add,Nat.add_zero,List.take_zero,List.nil_append]at bM;simp[Builtin.copy_,run_underlying hu,Builtin.lenOf,Builtin.firstCells,hM aO ag,af,bM,goInt]
theorem WP{t c1:TypeId}{x y:Operand}{args:Array Operand}{dL:Array TypeId}(aF:o.op= .call {callee:=.builtin .copy,args:=args,argTypes:=dL})(aZ:args.toList=[x,y])(gJ:dL.toList=[t,c1])(jP:t=c1){r:Value}{w':World}
  (ao: (Builtin.copy_ #[t,t] o.type #[a.eval x,a.eval y]).run P w= .ok r w'): (execOp a.eval o).run P w= .ok (.value r) w':=by
 obtain rfl:args= #[x,y]:=by cases args;simp at aZ;simp[aZ]
 subst jP;obtain rfl:dL= #[t,t]:=by cases dL;simp at gJ;simp[gJ]
 simp only[execOp,aF,resolve,invoke,builtin,Sem.run_bind,Sem.run_pure,Result.andThen_ok,List.map_toArray,List.map_cons,List.map_nil,ao]
theorem Of(aO:cS P ah=true){t ty e:TypeId}(hk: (ay ah t).k= .dW e)(ag: (ay ah e).size≠0){b3 jK:Option Addr}{mQ yG tr c:Nat}(bE:Nat.min tr mQ=0):
  (Builtin.copy_ #[t,t] ty #[.slice b3 mQ yG,.slice jK tr c]).run P w= .ok (.int .i64 (Nat.min tr mQ:Nat)) w:=by
 have hu:=jJ aO hk;cases b3<;>cases jK<;>simp[Builtin.copy_,run_underlying hu,Builtin.lenOf,Builtin.firstCells,hM aO ag,bE,goInt,storeCells,loadCells,loadCellsFrom]
theorem H8(aO:cS P ah=true){t c1 e:TypeId}{x y:Operand}{args:Array Operand}{dL:Array TypeId}{Q:Exit->Act->World->Prop}(aF:o.op= .call {callee:=.builtin .copy,args:=args,argTypes:=dL})(aZ:args.toList=[x,y])(gJ:dL.toList=[t,c1])(jP:t=c1)
  (hk: (ay ah t).k= .dW e) (ag: (ay ah e).size≠0) (h:bT aA aY n os s a w) (aa:∀t,o.dst=some t->t<n) (ak:Aj ah e s o.dst (bq s x) (bq s y) K):o.wp P a w (c8 aA aY n K) Q:=by
 unfold Aj at ak;rw[h.loc]at ak;obtain⟨ys,km,ak,bt⟩:=HX ag h.cp (h.bq y) ak;have an:=h.bq x;have eh:=Nat.pos_of_ne_zero ag;have exec:=fun {r:Value} {w':World}=>WP (P:=P) (w:=w) (a:=a) (r:=r) (w':=w') aF aZ gJ jP;have D5:∃jK eA,a.eval y= .slice jK ys.length eA:=by
  rcases bt with⟨gd,rfl⟩| ⟨b3,c,news,gd,_⟩
  ·exact⟨_,_,gd⟩
  ·exact⟨_,_,gd⟩
 split at ak
 ·rename_i ex;rw[ex]at an;have hN:=an.mo;obtain⟨jK,eA,gd⟩:=D5;have cW:=Of (P:=P) (w:=w) (ty:=o.type) aO hk ag (b3:=none) (jK:=jK) (mQ:=0) (yG:=0) (tr:=ys.length) (c:=eA) (by simp[Nat.min]);have WQ:Nat.min ys.length 0=0:=by simp[Nat.min]
  rw[WQ]at cW;exact hB (exec (by rw[hN,gd];exact cW)) (c8.put h aa (.bA (.v rfl)) ak)
 ·rename_i i ex;rw[ex]at an;split at ak
  ·rename_i a7 Og eP af;split at ak
   ·rename_i ae;simp only[Bool.and_eq_true]at ae;have kD:=Nat.eq_of_beq_eq_true ae.1;have fq:=Nat.eq_of_beq_eq_true ae.2;obtain⟨x',ab⟩:=iM af (by simp);have kk:=an.nS ab;subst kk;subst kD;subst fq;rw[<-h.loc]at ak;obtain⟨xs,bJ,_,gY⟩:=r7 (h.cp _ _ _ ab);by_cases bE:Nat.min ys.length eP.length=0
    ·obtain⟨jK,eA,gd⟩:=D5;have ri:∃b3 c,a.eval x= .slice b3 eP.length c:=by
      rcases wy bJ with⟨ac,rfl,_⟩| ⟨g,D4,ac,_⟩
      ·exact⟨_,_,ac⟩
      ·exact⟨_,_,ac⟩
     obtain⟨b3,c,hN⟩:=ri;have cW:=Of (P:=P) (w:=w) (ty:=o.type) aO hk ag (b3:=b3) (yG:=c) (jK:=jK) (c:=eA) bE;have heq:ys.take eP.length++eP.drop ys.length=eP:=by
      have:ys.length=0\/eP.length=0:=by simp only[Nat.min_def]at bE;split at bE<;>omega
      rcases this with aH|aH
      ·have:=List.eq_nil_of_length_eq_zero aH;subst this;simp
      ·have:=List.eq_nil_of_length_eq_zero aH;subst this;simp
     rw[heq]at ak;refine hB (exec (by rw[hN,gd];exact cW)) (c8.put (os:=os) (s:=⟨s.env,e1 s.loc i (.row a7 (ay ah a7).size eP)⟩) ?_ aa (.bA (.v rfl)) ak);have kW:e1 s.loc i (.row a7 (ay ah a7).size eP)=s.loc:=by
      rw[kj,h.loc];apply List.ext_getElem?;intro j;by_cases e:j=i
      ·subst e;rw[List.getElem?_set_self (by simpa using(List.getElem?_eq_some_iff.1 ab).1),List.getElem?_map,ab];rfl
      ·rw[List.getElem?_set_ne (fun cd=>e cd.symm)]
     rw[kW];exact h
    ·rcases bt with⟨gd,rfl⟩| ⟨b3,c,news,gd,ao,al⟩
     ·simp[Nat.min]at bE
     ·rcases bJ.2 with⟨ac,lR⟩| ⟨g,cap,cur,ac,cR,bp,mq,mr,hC,th⟩
      ·rw[lR]at bE;simp[Nat.min]at bE
      ·have ajL:Nat.min ys.length eP.length* (ay ah a7).size<=news.length:=by rw[ao.len];exact Nat.mul_le_mul_right _ (Nat.min_le_left _ _)
       have WR:Nat.min ys.length eP.length* (ay ah a7).size<=eP.length* (ay ah a7).size:=Nat.mul_le_mul_right _ (Nat.min_le_right _ _);have gu:eP.length* (ay ah a7).size<=cap* (ay ah a7).size:=Nat.mul_le_mul_right _ mq;have fU: (news.take (Nat.min ys.length eP.length* (ay ah a7).size)).length=Nat.min ys.length eP.length* (ay ah a7).size:=by simp;omega
       have cW:=WO (P:=P) (w:=w) (ty:=o.type) (mQ:=eP.length) (yG:=cap) (tr:=ys.length) (c:=c) (b3:=b3) aO hk ag bp (cs:=news.take (Nat.min ys.length eP.length* (ay ah a7).size)) fU
        (fun j v ai=>al j v (by rw[List.getElem?_take]at ai;split at ai;exact ai;cases ai)) (by rw[fU,hC];omega) (fun v ac=>ao.dD v (List.mem_of_mem_take ac))
       have gX:=ab;rw[ac]at gX;have ax:w.grownBy (w.setRow g (news.take (Nat.min ys.length eP.length* (ay ah a7).size)++cur.toList.drop (news.take (Nat.min ys.length eP.length* (ay ah a7).size)).length).toArray) (bs (.slice (some ⟨g,0,none⟩) eP.length cap)):=DZ;refine hB (exec (by rw[ac,gd];exact cW)) (c8.put (os:=os.set i (.slice (some ⟨g,0,none⟩) eP.length cap,.row a7 (ay ah a7).size (ys.take eP.length++eP.drop ys.length))) (h.AK gX (e9:=.row a7 (ay ah a7).size (ys.take eP.length++eP.drop ys.length)) ⟨rfl,rfl⟩ (by simp) (by simp) ax ?_) aa (.bA (.v rfl)) ak);have jq:=Eb (aA:=aA) (e9:=.row a7 (ay ah a7).size (ys.take eP.length++eP.drop ys.length)) gX (by simp) ax;have hlen: (ys.take eP.length++eP.drop ys.length).length=eP.length:=by simp;omega
       have WS:∀ {da:List Value} {fs:List (List aj)} {q:Nat},fW (a8 aA os) w da fs (ay ah a7).size->fW (a8 aA os) w (da.take (q* (ay ah a7).size)) (fs.take q) (ay ah a7).size:=by
        intro da fs q bE;refine⟨?_,fun r ao=>bE.hK r (List.mem_of_mem_take ao),fun v ac=>bE.dD v (List.mem_of_mem_take ac),fun k j r d hk ai=> ?_⟩
        ·rw[List.length_take,List.length_take,bE.len];simp only[Nat.min_def];split
         ·rename_i bp;rw[if_pos (Nat.le_of_mul_le_mul_right bp eh)]
         ·rename_i bp;rw[if_neg (fun ad=>bp (Nat.mul_le_mul_right _ ad))]
        ·rw[List.getElem?_take]at hk;split at hk
         ·rename_i Ec;obtain⟨v,ac,ab⟩:=bE.gw k j r d hk ai;have fp:=bE.hK _ (List.mem_of_getElem? hk);have fX:=(List.getElem?_eq_some_iff.1 ai).1;have bL: (k+1) * (ay ah a7).size<=q* (ay ah a7).size:=Nat.mul_le_mul_right _ (by omega);rw[Nat.add_mul,Nat.one_mul]at bL;refine⟨v,?_,ab⟩;rw[List.getElem?_take,if_pos (by omega)];exact ac
         ·cases hk
       have WT:∀ {da:List Value} {fs:List (List aj)} {q:Nat},fW (a8 aA os) w da fs (ay ah a7).size->fW (a8 aA os) w (da.drop (q* (ay ah a7).size)) (fs.drop q) (ay ah a7).size:=by
        intro da fs q bE;refine⟨by rw[List.length_drop,List.length_drop,bE.len,Nat.sub_mul],fun r ao=>bE.hK r (List.mem_of_mem_drop ao),fun v ac=>bE.dD v (List.mem_of_mem_drop ac),fun k j r d hk ai=> ?_⟩;rw[List.getElem?_drop]at hk;obtain⟨v,ac,ab⟩:=bE.gw _ j r d hk ai;refine⟨v,?_,ab⟩;rw[List.getElem?_drop,<-ac];congr 1;rw[Nat.add_mul];omega
       have H9:=(WS (q:=Nat.min ys.length eP.length) ao).append (WT (q:=ys.length) gY);have az:ys.take (Nat.min ys.length eP.length)=ys.take eP.length:=by
        simp only[Nat.min_def];split
        ·rename_i hle;rw[List.take_of_length_le (Nat.le_refl _),List.take_of_length_le hle]
        ·rfl
       rw[az]at H9;refine oG (H:=aY) (yy (h.cp _ _ _ gX)) (xs:=news.take (Nat.min ys.length eP.length* (ay ah a7).size)++xs.drop (ys.length* (ay ah a7).size)) ⟨by rw[H9.len],.inr ⟨g,cap,_,by rw[hlen],cR,setRow_heap w g cur _ a7 _ bp,by rw[hlen];exact mq,mr,?_,?_⟩⟩ eh (H9.b9 jq)
       ·have WU:cur.toList.length=cap* (ay ah a7).size:=(Array.length_toList (xs:=cur)).trans hC;rw[List.size_toArray,List.length_append,fU,List.length_drop,WU];omega
       ·rw[hlen];simp only[];rw[fU];have kV:xs.length=eP.length* (ay ah a7).size:=bJ.1;rw[List.take_append,fU];rw[List.take_of_length_le (by rw[fU];exact WR)];congr 1;apply List.ext_getElem?;intro j;rw[List.getElem?_take,List.getElem?_drop,List.getElem?_drop];have Oh:∀q,xs[q]?=if q<eP.length* (ay ah a7).size then cur.toList[q]? else none:=by
         intro q;rw[<-th,List.getElem?_take]
        rw[Oh];by_cases hle:ys.length<=eP.length
        ·have c0:Nat.min ys.length eP.length=ys.length:=Nat.min_eq_left hle;rw[c0];have fo:ys.length* (ay ah a7).size<=eP.length* (ay ah a7).size:=Nat.mul_le_mul_right _ hle;by_cases ai:j<eP.length* (ay ah a7).size-ys.length* (ay ah a7).size
         ·rw[if_pos ai,if_pos (by omega)]
         ·rw[if_neg ai,if_neg (by omega)]
        ·have c0:Nat.min ys.length eP.length=eP.length:=Nat.min_eq_right (by omega);rw[c0];have fo:eP.length* (ay ah a7).size<=ys.length* (ay ah a7).size:=Nat.mul_le_mul_right _ (by omega);rw[if_neg (by omega),if_neg (by omega)]
   ·exact ak.elim
  ·exact ak.elim
 ·exact ak.elim
end
open Go
section
variable {P:Program} {ah:c4} {aA:Nat->Prop} {aY:dP} {n:Nat} {os:cu} {s:bu} {a:Act} {w:World} {o:Oper} {K:bu->Prop} {A:Nat->Prop}
theorem Oi(h:bT aA aY n os s a w):∀m,∃aJ,bT aA aY n aJ ⟨s.env,s.loc++List.replicate m .bd⟩ a w
 |0=>⟨os,by simpa using h⟩
 |m+1=>by
  obtain⟨aJ,bb⟩:=Oi h m;have:=bb.push (x:=.nilFunc) (bm:=.bd) (grownBy.rd w none) (by simp[bs]) trivial;refine⟨aJ++ [(.nilFunc,.bd)],?_⟩;rw[List.replicate_succ',<-List.append_assoc];exact this
theorem a6.gk{x:Value}{d bD:aj}(aa:fP d bD)(h:a6 A os w x d):a6 A os w x bD:=by
 induction aa generalizing x with
 |refl=>exact h
 |nil aI=>exact .bA (h.kT.le (.nil aI))
 |ar=>rw[h.mo];exact .bA .nil
 |aq=>exact .bA (h.kT.le .aq)
 |hK af ao bp aN=>exact .bA (h.kT.le (.hK af ao bp))
 | @agg cs ds af al aN=>
  cases h with
  |bA h=>exact .bA (h.le (.agg af al))
  |dK h aa h1=>rcases aa with aa| ⟨_,_,aa⟩<;>cases aa
  | @agg vs _ fG bf h=>
   refine .agg (by omega) bf (fun i v d ac aa=> ?_);have ap:=(List.getElem?_eq_some_iff.1 ac).1;have ll:=List.getElem?_eq_getElem (l:=cs) (i:=i) (by omega);exact aN i _ d ll aa (h i v _ ac ll)
 | @a1 cs ds af al aN=>
  obtain⟨vs,rfl,fG,bJ,au⟩:=h.HF;have get:∀ {i:Nat} {v:Value},vs[i]?=some v->∃c,cs[i]?=some c:=fun {i v} ac=>by
   have ap:=(List.getElem?_eq_some_iff.1 ac).1;exact⟨_,List.getElem?_eq_getElem (l:=cs) (i:=i) (by omega)⟩
  refine .a1 (by omega) (fun i v d ac aa=> ?_) (fun i v d ac aa=> ?_)
  ·obtain⟨c,ko⟩:=get ac;rcases bJ i v c ac ko with aF|aF
   ·have js:=al i c d ko aa;cases c<;>simp[kh]at aF
    cases js with
    |refl=>exact .inl rfl
    |aW=>exact .inr .aW
   ·exact .inr (aF.le (al i c d ko aa))
  ·obtain⟨c,ko⟩:=get ac;exact aN i c d ko aa (au i v c ac ko)
 |aW=>exact .bA .aW
theorem uS:∀ {l:List Nat} {k:Nat},k<l.length->l[k]?=some (cO l k)
 | [],k,h=>by simp at h
 |i::r,0,_=>rfl
 |i::r,k+1,h=>by simpa[cO]using uS (l:=r) (k:=k) (by simpa using h)
theorem AR:∀ {l:List Nat},we l=true->l.Nodup
 | [],_=>List.nodup_nil
 |i::r,h=>by
  simp only[we,Bool.and_eq_true,Bool.not_eq_true',List.contains_eq_mem,decide_eq_false_iff_not]at h;exact List.nodup_cons.2 ⟨h.1,AR h.2⟩
theorem Oj{l:List Nat}(aS:l.Nodup){i j x:Nat}(ab:l[i]?=some x)(ai:l[j]?=some x):i=j:=by
 obtain⟨h1,az⟩:=List.getElem?_eq_some_iff.1 ab;obtain⟨ad,aG⟩:=List.getElem?_eq_some_iff.1 ai;exact(List.getElem_inj aS).1 (az.trans aG.symm)
theorem WV{l:List Nat}(aS:l.Nodup){i j:Nat}(ab:i<l.length)(ai:j<l.length)(h:cO l i=cO l j):i=j:=
 Oj aS (uS ab) (by rw[h];exact uS ai)
section
variable {m:List aU}
theorem uT:∀ {l:List aU} {i:Nat} {ty:TypeId} {cs:List aj},mj m l=true->l[i]?=some (.cells ty cs)->∀d∈cs,il m d=true
 | [],i,_,_,_,ab=>by simp at ab
 | .cells t cY::r,0,ty,cs,h,ab=>by
  simp at ab;obtain⟨rfl,rfl⟩:=ab;simp only[mj,Bool.and_eq_true,List.all_eq_true]at h;exact h.1
 | .cells t cY::r,i+1,ty,cs,h,ab=>by
  simp only[mj,Bool.and_eq_true]at h;exact uT (i:=i) h.2 (by simpa using ab)
 | .row _ _ _::r,0,ty,cs,h,ab=>by simp at ab
 | .row _ _ _::r,i+1,ty,cs,h,ab=>uT (i:=i) (l:=r) h (by simpa using ab)
 | .bd::r,0,ty,cs,h,ab=>by simp at ab
 | .bd::r,i+1,ty,cs,h,ab=>uT (i:=i) (l:=r) h (by simpa using ab)
 | .gone::r,0,ty,cs,h,ab=>by simp at ab
 | .gone::r,i+1,ty,cs,h,ab=>uT (i:=i) (l:=r) h (by simpa using ab)
 | .b6 _::r,0,ty,cs,h,ab=>by simp at ab
 | .b6 _::r,i+1,ty,cs,h,ab=>by
  simp only[mj,Bool.and_eq_true]at h;exact uT (i:=i) h.2 (by simpa using ab)
end
structure wC(aA:Nat->Prop)(os eV:cu)(cm:List Nat)(L:List aU)(m:Nat):Prop where
 len:eV.length=m
 ajM:m<=cm.length
 get:∀ (k:Nat) x bm,eV[k]?=some (x,bm)->k<m/\L[k]?=some bm/\∃o,os[cO cm k]?=some (x,o)/\fF o (fw (cO cm) bm)
 snd:eV.map (·.2)=L
theorem AS{o:aU}{ρ:Nat->Nat}{e:TypeId}{av:Nat}{es:List (List aj)}(h:fF o (fw ρ (.row e av es))):o= .row e av es:=by
 cases h with
 |refl=>rfl
theorem Ed{o:aU}{ρ:Nat->Nat}{t:TypeId}{cs:List aj}(h:fF o (fw ρ (.cells t cs))):∃cY,o= .cells t cY/\cY.length=cs.length/\∀ (i:Nat) c d,cY[i]?=some c->cs[i]?=some d->fP c (oA ρ d):=by
 cases h with
 |refl=>exact⟨_,rfl,by simp,fun i c d al aa=>by
   rw[List.getElem?_map,aa]at al;cases al;exact .refl⟩
 |cells af h=>exact⟨_,rfl,by simpa using af,fun i c d al aa=>h i c _ al (by rw[List.getElem?_map,aa];rfl)⟩
variable {eV:cu} {cm:List Nat} {L:List aU} {m:Nat} {ln:Nat->Prop}
theorem wC.row(cy:wC aA os eV cm L m){j:Nat}(h:hJ (bB L j)=true):∃x e av es,eV[j]?=some (x,.row e av es)/\os[cO cm j]?=some (x,.row e av es):=by
 rw[<-cy.snd]at h;obtain⟨x,e,av,es,ai⟩:=DQ h;obtain⟨_,_,o,aF,hle⟩:=cy.get j _ _ ai;rw[AS hle]at aF;exact⟨x,e,av,es,ai,aF⟩
theorem wC.cells(cy:wC aA os eV cm L m){j:Nat}(h:ow (bB L j)=true):∃x t cs cY,eV[j]?=some (x,.cells t cs)/\os[cO cm j]?=some (x,.cells t cY):=by
 rw[<-cy.snd]at h;obtain⟨x,t,cs,ai⟩:=VV h;obtain⟨_,_,o,aF,hle⟩:=cy.get j _ _ ai;obtain⟨cY,rfl,_⟩:=Ed hle;exact⟨x,t,cs,cY,ai,aF⟩
theorem Ia(cy:wC aA os eV cm L m)(k:cT A (a8 ln eV) w w){v:Value}{d:aj}(ae:il L d=true)(h:a6 A os w v (oA (cO cm) d)):a6 (a8 ln eV) eV w v d:=by
 cases d with
 |own j=>
  obtain⟨x,e,av,es,h1,ad⟩:=cy.row ae;have:=h.nS ad;subst this;exact .own h1 h.yp.1
 |cF j hA off=>
  obtain⟨x,e,av,es,h1,ad⟩:=cy.row ae;obtain⟨g,n,c,rfl,rfl⟩:=h.Ay ad;exact .cF h1
 |aP j off=>
  obtain⟨x,t,cs,cY,h1,ad⟩:=cy.cells ae;obtain⟨g,c1,re,aC,rfl⟩:=h.nR;rw[ad]at aC;cases aC;exact .aP h1
 |dc j off=>
  obtain⟨x,t,cs,cY,h1,ad⟩:=cy.cells ae;obtain⟨g,c1,re,aC,rfl⟩:=h.uH;rw[ad]at aC;cases aC;exact .dc h1
 |fn f b2=>
  have h:a6 A os w v (.fn f (b2.map (pj (cO cm)))):=h;simp only[il,List.all_eq_true]at ae;have dD:∀ {x:Value} {c:aj},c∈b2->a6 A os w x (pj (cO cm) c)->(∃j off,c= .aP j off)->a6 (a8 ln eV) eV w x c:=by
   rintro x c al an ⟨j,off,rfl⟩;have ae:=ae _ al;obtain⟨x',t,cs,cY,h1,ad⟩:=cy.cells ae;obtain⟨g,c1,re,aC,rfl⟩:=a6.nR an;rw[ad]at aC;cases aC;exact .aP h1
  cases h with
  |bA h=>
   cases h with
   |fn af au=>
    refine .bA (.fn (by simpa using af) (fun i x c an al=> ?_));have ad:=au i x (pj (cO cm) c) an (by rw[List.getElem?_map,al];rfl);by_cases yH:∃j off,c= .aP j off
    ·obtain⟨j,off,rfl⟩:=yH;cases ad
    ·have:pj (cO cm) c=c:=by cases c<;>first|rfl|exact absurd ⟨_,_,rfl⟩ yH
     rw[this]at ad;exact ad.b9 k
  |dK h aa h1=>rcases aa with aa| ⟨_,_,aa⟩<;>cases aa
  |fn af gu au=>
   refine .fn (by simpa using af) (fun c al=> ?_) (fun i x c an al=> ?_)
   ·have:=gu (pj (cO cm) c) (List.mem_map_of_mem al);cases c<;>first|exact this|rfl
   ·have ad:=au i x (pj (cO cm) c) an (by rw[List.getElem?_map,al];rfl);have mr:=List.mem_of_getElem? al;by_cases yH:∃j off,c= .aP j off
    ·exact dD mr ad yH
    ·have az:pj (cO cm) c=c:=by cases c<;>first|rfl|exact absurd ⟨_,_,rfl⟩ yH
     rw[az]at ad;have ko:=gu _ (List.mem_map_of_mem (f:=pj (cO cm)) mr);rw[az]at ko;by_cases uP:∃cs,c= .cD cs
     ·obtain⟨cs,rfl⟩:=uP;exact .bA (ad.rX.b9 k)
     ·refine .bA ((ad.plain ?_).2.b9 k);cases c
      case aP=>exact absurd ⟨_,_,rfl⟩ yH
      case cD=>exact absurd ⟨_,rfl⟩ uP
      case fn g cs=>
       have:cs=[]:=by cases cs<;>simp_all[j0,kf]
       subst this;rfl
      all_goals first|rfl| (simp[j0,kf]at ko)
 |agg cs=>simp[il]at ae
 |a1 ds=>simp[il]at ae
 |bP b d=>simp[il]at ae
 |v y=>obtain⟨rfl,h1⟩:=a6.h2 h;exact .bA (.v h1)
 |aq av es f=>exact .bA ((a6.kT h).b9 k)
 |cD cs=>exact .bA ((a6.rX h).b9 k)
 |ar=>rw[a6.mo h];exact .bA .ar
 |aW=>exact .bA .aW
theorem WW(cy:wC aA os eV cm L m)(k:cT A (a8 ln eV) w w){v:Value}{d:aj}(ae:iI L d=true)(h:a6 A os w v (jI (cO cm) d)):a6 (a8 ln eV) eV w v d:=by
 by_cases aa:∃cs,d= .agg cs
 ·obtain⟨cs,rfl⟩:=aa;obtain⟨vs,rfl,af,bf,au⟩:=a6.s9 h;simp only[iI,List.all_eq_true]at ae;exact .agg (by simpa using af) bf (fun i v c ac al=>Ia cy k (ae c (List.mem_of_getElem? al)) (au i v _ ac (by rw[List.getElem?_map,al];rfl)))
 ·by_cases hw:∃b e,d= .bP b e
  ·obtain⟨b,e,rfl⟩:=hw;simp[iI,il]at ae
  ·have h1:iI L d=il L d:=by cases d<;>first|rfl|exact absurd ⟨_,rfl⟩ aa
   have bW:¬ ∃ds,d= .a1 ds:=by
    rintro⟨ds,rfl⟩;simp[iI,il]at ae
   have ad:jI (cO cm) d=oA (cO cm) d:=by cases d<;>first|rfl|exact absurd ⟨_,rfl⟩ aa|exact absurd ⟨_,_,rfl⟩ hw|exact absurd ⟨_,rfl⟩ bW
   rw[h1]at ae;rw[ad]at h;exact Ia cy k ae h
structure Ol(os aJ eV:cu)(cm J:List Nat)(q:Nat):Prop where
 len:eV.length=q
 ajN:q=cm.length
 AT:cm.Nodup
 get:∀ (k:Nat) x bm,eV[k]?=some (x,bm)->aJ[cO cm k]?=some (x,fw (cO cm) bm)
 ajO:∀i,i∉cm->aJ[i]?=(os[i]?).map fun p=>(p.1,e4 (fQ J) p.2)
theorem Om{aJ:cu}{J:List Nat}{q:Nat}(cR:Ol os aJ eV cm J q)(k:cT (a8 ln eV) A w w){v:Value}{d:aj}(h:a6 (a8 ln eV) eV w v d): (v.oneCell'=true->a6 A aJ w v (oA (cO cm) d))/\a6 A aJ w v (jI (cO cm) d):=by
 have lP:∀ {v:Value} {d:aj},bO (a8 ln eV) w v d->bO A w v (oA (cO cm) d)/\bO A w v (jI (cO cm) d):=by
  intro v d bE;induction bE with
  |v h=>exact⟨.v h,.v h⟩
  |aq xs aS al aT aI bZ aw ae bf cP an aN=>exact⟨(bO.aq xs aS al aT aI bZ aw ae bf cP an).b9 k,(bO.aq xs aS al aT aI bZ aw ae bf cP an).b9 k⟩
  |nil=>exact⟨.nil,.nil⟩
  |ar=>exact⟨.ar,.ar⟩
  |agg af bf h aN=>
   refine⟨(bO.agg af bf h).b9 k,.agg (by simpa using af) bf (fun j v d ac aa=> ?_)⟩;rw[List.getElem?_map]at aa;rename_i ds;cases ai:ds[j]? with
   |none=>rw[ai]at aa;cases aa
   |some e=>rw[ai]at aa;simp at aa;subst aa;exact(aN j v e ac ai).1
  | @a1 vs ds af h aN=>
   refine⟨(bO.a1 af h).b9 k,.a1 (by simpa using af) (fun j v d ac aa=> ?_)⟩;rw[List.getElem?_map]at aa;cases ai:ds[j]? with
   |none=>rw[ai]at aa;cases aa
   |some e=>rw[ai]at aa;simp at aa;subst aa;exact(aN j v e ac ai).1
  |cD xs aw ae bf cP an _=>exact⟨(bO.cD xs aw ae bf cP an).b9 k,(bO.cD xs aw ae bf cP an).b9 k⟩
  | @fn f vs ds af h _=>
   have key:bO A w (.func f #[] vs.toArray) (.fn f (ds.map (pj (cO cm)))):=by
    refine .fn (by simpa using af) (fun j v d ac aa=> ?_);rw[List.getElem?_map]at aa;cases ai:ds[j]? with
    |none=>rw[ai]at aa;cases aa
    |some e=>
     rw[ai]at aa;simp at aa;subst aa;have ad:=h j v e ac ai;cases e
     case aP=>cases ad
     all_goals exact ad.b9 k
   exact⟨key,key⟩
  |bP _ aH aN=>exact⟨.bP (fun ae=>(aN ae).1) aH,.bP (fun ae=>(aN ae).2) aH⟩
  |aW=>exact⟨.aW,.aW⟩
 induction h with
 |bA h=>exact⟨fun _=>.bA (lP h).1,.bA (lP h).2⟩
 |aP h=>have:=cR.get _ _ _ h;exact⟨fun _=>.aP this,.aP this⟩
 |dc h=>have:=cR.get _ _ _ h;exact⟨fun _=>.dc this,.dc this⟩
 |cF h=>have:=cR.get _ _ _ h;exact⟨fun _=>.cF this,.cF this⟩
 |own h h1=>have:=cR.get _ _ _ h;exact⟨fun _=>.own this h1,.own this h1⟩
 |dK h aa h1=>
  have:=cR.get _ _ _ h;rcases aa with rfl| ⟨_,_,rfl⟩
  ·exact⟨fun _=>.dK this (.inl rfl) h1,.dK this (.inl rfl) h1⟩
  ·exact⟨fun _=>.dK this (.inr ⟨_,_,rfl⟩) h1,.dK this (.inr ⟨_,_,rfl⟩) h1⟩
 | @agg vs ds af bf _ aN=>
  refine⟨fun h=>by simp[Value.oneCell']at h,.agg (by simpa using af) bf (fun j v d ac aa=> ?_)⟩;rw[List.getElem?_map]at aa;cases ai:ds[j]? with
  |none=>rw[ai]at aa;cases aa
  |some e=>rw[ai]at aa;simp at aa;subst aa;exact(aN j v e ac ai).1 (bf v (List.mem_of_getElem? ac))
 | @fn f vs ds af gu bp aN=>
  have key:a6 A aJ w (.func f #[] vs.toArray) (.fn f (ds.map (pj (cO cm)))):=by
   refine .fn (by simpa using af) (fun d aa=> ?_) (fun j v d ac aa=> ?_)
   ·obtain⟨e,he,rfl⟩:=List.mem_map.1 aa;have:=gu e he;cases e<;>first|exact this|rfl
   ·rw[List.getElem?_map]at aa;cases ai:ds[j]? with
    |none=>rw[ai]at aa;cases aa
    |some e=>
     rw[ai]at aa;simp at aa;subst aa;have ad:=(aN j v e ac ai).2;have al:=gu e (List.mem_of_getElem? ai);cases e
     case fn g cs=>
      have:cs=[]:=by cases cs<;>simp_all[j0,kf]
      subst this;exact ad
     all_goals first|exact ad| (simp[j0,kf]at al)
  exact⟨fun _=>key,key⟩
 | @a1 vs ds af bJ bp aN=>
  refine⟨fun h1=>by simp[Value.oneCell']at h1,.a1 (by simpa using af) (fun j v d ac aa=> ?_) (fun j v d ac aa=> ?_)⟩
  ·rw[List.getElem?_map]at aa;cases ai:ds[j]? with
   |none=>rw[ai]at aa;cases aa
   |some e=>
    rw[ai]at aa;simp at aa;subst aa;rcases bJ j v e ac ai with aF|aF
    ·cases e<;>simp[kh]at aF
     exact .inl rfl
    ·exact .inr (lP aF).1
  ·rw[List.getElem?_map]at aa;cases ai:ds[j]? with
   |none=>rw[ai]at aa;cases aa
   |some e=>
    rw[ai]at aa;simp at aa;subst aa;rcases bJ j v e ac ai with aF|aF
    ·have ad:=bp j v e ac ai;cases e<;>simp[kh]at aF
     exact(aN j v _ ac ai).1 ad.yp.1
    ·exact .bA (lP aF).1
 |bP _ aH aN=>exact⟨fun h1=>.bP (fun ae=>(aN ae).1 h1) aH,.bP (fun ae=>(aN ae).2) aH⟩
theorem Ib{aJ:cu}{J:List Nat}{A cU:Nat->Prop}{w':World}(k:cT A cU w w')
  (jq:∀ (i:Nat) x o,i∉J->os[i]?=some (x,o)->o≠ .bd->(∃e av es,o= .row e av es)\/(∃t cs,o= .cells t cs)\/o= .gone->∃y aK,aJ[i]?=some (y,aK)/\(y=x/\di o aK\/(∃e av es,o= .row e av es)/\aK= .gone))
  {v:Value} {d:aj} (h:a6 A os w v d): (v.oneCell'=true->a6 cU aJ w' v (fQ J d))/\a6 cU aJ w' v (qZ J d):=by
 have lP:∀ {v:Value} {d:aj},bO A w v d->bO cU w' v (fQ J d)/\bO cU w' v (qZ J d):=by
  intro v d bE;induction bE with
  |v h=>exact⟨.v h,.v h⟩
  |aq xs aS al aT aI bZ aw ae bf cP an aN=>exact⟨(bO.aq xs aS al aT aI bZ aw ae bf cP an).b9 k,(bO.aq xs aS al aT aI bZ aw ae bf cP an).b9 k⟩
  |nil=>exact⟨.nil,.nil⟩
  |ar=>exact⟨.ar,.ar⟩
  |agg af bf h aN=>
   refine⟨(bO.agg af bf h).b9 k,.agg (by simpa using af) bf (fun j v d ac aa=> ?_)⟩;rw[List.getElem?_map]at aa;rename_i ds;cases ai:ds[j]? with
   |none=>rw[ai]at aa;cases aa
   |some e=>rw[ai]at aa;simp at aa;subst aa;exact(aN j v e ac ai).1
  | @a1 vs ds af h aN=>
   refine⟨(bO.a1 af h).b9 k,.a1 (by simpa using af) (fun j v d ac aa=> ?_)⟩;rw[List.getElem?_map]at aa;cases ai:ds[j]? with
   |none=>rw[ai]at aa;cases aa
   |some e=>rw[ai]at aa;simp at aa;subst aa;exact(aN j v e ac ai).1
  |cD xs aw ae bf cP an _=>exact⟨(bO.cD xs aw ae bf cP an).b9 k,(bO.cD xs aw ae bf cP an).b9 k⟩
  | @fn f vs ds af h _=>
   have key:bO cU w' (.func f #[] vs.toArray) (fQ J (.fn f ds)):=by
    simp only[fQ];split
    ·exact .aW
    ·exact(bO.fn af h).b9 k
   exact⟨key,key⟩
  |bP _ aH aN=>exact⟨.bP (fun ae=>(aN ae).1) aH,.bP (fun ae=>(aN ae).2) aH⟩
  |aW=>exact⟨.aW,.aW⟩
 have yI:∀ {j:Nat},J.contains j=false->j∉J:=by
  intro j h;simpa using h
 induction h with
 |bA h=>exact⟨fun _=>.bA (lP h).1,.bA (lP h).2⟩
 | @aP j off g t cs h=>
  have key:a6 cU aJ w' (.pointer (some ⟨g,off,none⟩)) (fQ J (.aP j off)):=by
   simp only[fQ];split
   ·exact .bA .aW
   ·rename_i ae;obtain⟨y,aK,bb,(⟨rfl,hk⟩| ⟨⟨_,_,_,he⟩,_⟩)⟩:=jq _ _ _ (yI ae) h (by simp) (.inr (.inl ⟨_,_,rfl⟩))
    case inr=>cases he
    cases aK<;>simp[di]at hk
    exact .aP bb
  exact⟨fun _=>key,key⟩
 | @dc j off g t cs h=>
  have key:a6 cU aJ w' (.pointer (some ⟨g,off,none⟩)) (fQ J (.dc j off)):=by
   simp only[fQ];split
   ·exact .bA .aW
   ·rename_i ae;obtain⟨y,aK,bb,(⟨rfl,hk⟩| ⟨⟨_,_,_,he⟩,_⟩)⟩:=jq _ _ _ (yI ae) h (by simp) (.inr (.inl ⟨_,_,rfl⟩))
    case inr=>cases he
    cases aK<;>simp[di]at hk
    exact .dc bb
  exact⟨fun _=>key,key⟩
 | @cF j hA off g n c e av es h=>
  have key:a6 cU aJ w' (.pointer (some ⟨g,hA*av+off,none⟩)) (fQ J (.cF j hA off)):=by
   simp only[fQ];split
   ·exact .bA .aW
   ·rename_i ae;obtain⟨y,aK,bb,(⟨rfl,hk⟩| ⟨_,rfl⟩)⟩:=jq _ _ _ (yI ae) h (by simp) (.inl ⟨_,_,_,rfl⟩)
    ·cases aK<;>simp[di]at hk
     obtain⟨rfl,rfl⟩:=hk;exact .cF bb
    ·exact .dK bb (.inr ⟨_,_,rfl⟩) rfl
  exact⟨fun _=>key,key⟩
 | @own j x e av es h h1=>
  have key:a6 cU aJ w' x (fQ J (.own j)):=by
   simp only[fQ];split
   ·exact .bA .aW
   ·rename_i ae;obtain⟨y,aK,bb,(⟨rfl,hk⟩| ⟨_,rfl⟩)⟩:=jq _ _ _ (yI ae) h (by simp) (.inl ⟨_,_,_,rfl⟩)
    ·cases aK<;>simp[di]at hk
     exact .own bb h1
    ·exact .dK bb (.inl rfl) h1
  exact⟨fun _=>key,key⟩
 | @dK j x y d h aa h1=>
  have gone:j∉J->∃y,aJ[j]?=some (y,.gone):=fun ai=>by
   obtain⟨y,aK,bb,(⟨rfl,hk⟩| ⟨⟨_,_,_,he⟩,_⟩)⟩:=jq _ _ _ ai h (by simp) (.inr (.inr rfl))
   case inr=>cases he
   cases aK<;>simp[di]at hk
   exact⟨_,bb⟩
  rcases aa with rfl| ⟨hA,off,rfl⟩
  ·have key:a6 cU aJ w' x (fQ J (.own j)):=by
    simp only[fQ];split
    ·exact .bA .aW
    ·rename_i ae;obtain⟨nU,bb⟩:=gone (yI ae);exact .dK bb (.inl rfl) h1
   exact⟨fun _=>key,key⟩
  ·have key:a6 cU aJ w' x (fQ J (.cF j hA off)):=by
    simp only[fQ];split
    ·exact .bA .aW
    ·rename_i ae;obtain⟨nU,bb⟩:=gone (yI ae);exact .dK bb (.inr ⟨_,_,rfl⟩) h1
   exact⟨fun _=>key,key⟩
 | @agg vs ds af bf _ aN=>
  refine⟨fun h=>by simp[Value.oneCell']at h,.agg (by simpa using af) bf (fun j v d ac aa=> ?_)⟩;rw[List.getElem?_map]at aa;cases ai:ds[j]? with
  |none=>rw[ai]at aa;cases aa
  |some e=>rw[ai]at aa;simp at aa;subst aa;exact(aN j v e ac ai).1 (bf v (List.mem_of_getElem? ac))
 | @fn f vs ds af gu bp aN=>
  have key:a6 cU aJ w' (.func f #[] vs.toArray) (fQ J (.fn f ds)):=by
   simp only[fQ];split
   ·exact .bA .aW
   ·rename_i ae;refine .fn af gu (fun j v d ac aa=> ?_);have ad:=(aN j v d ac aa).2;have al:=gu d (List.mem_of_getElem? aa);have qd:wb J d=false:=by
     cases bF:wb J d
     ·rfl
     ·rw[List.any_eq_false]at ae;exact absurd bF (ae d (List.mem_of_getElem? aa))
    cases d
    case aP q o=>
     have az:J.contains q=false:=qd;simp only[qZ,fQ,az]at ad;exact ad
    case fn g cs=>
     have:cs=[]:=by cases cs<;>simp_all[j0,kf]
     subst this;exact ad
    all_goals first|exact ad| (simp[j0,kf]at al)
  exact⟨fun _=>key,key⟩
 | @a1 vs ds af bJ bp aN=>
  refine⟨fun h1=>by simp[Value.oneCell']at h1,.a1 (by simpa using af) (fun j v d ac aa=> ?_) (fun j v d ac aa=> ?_)⟩
  ·rw[List.getElem?_map]at aa;cases ai:ds[j]? with
   |none=>rw[ai]at aa;cases aa
   |some e=>
    rw[ai]at aa;simp at aa;subst aa;rcases bJ j v e ac ai with aF|aF
    ·cases e<;>simp[kh]at aF
     simp only[fQ];split
     ·exact .inr .aW
     ·exact .inl rfl
    ·exact .inr (lP aF).1
  ·rw[List.getElem?_map]at aa;cases ai:ds[j]? with
   |none=>rw[ai]at aa;cases aa
   |some e=>
    rw[ai]at aa;simp at aa;subst aa;rcases bJ j v e ac ai with aF|aF
    ·have ad:=bp j v e ac ai;cases e<;>simp[kh]at aF
     exact(aN j v _ ac ai).1 ad.yp.1
    ·exact .bA (lP aF).1
 |bP _ aH aN=>exact⟨fun h1=>.bP (fun ae=>(aN ae).1 h1) aH,.bP (fun ae=>(aN ae).2) aH⟩
end
open Go
section
variable {P:Program} {ah:c4} {aA:Nat->Prop} {aY:dP} {n:Nat} {os:cu} {s:bu} {a:Act} {w:World} {o:Oper} {K:bu->Prop} {A:Nat->Prop}
theorem WX{o bm:aU}{ρ:Nat->Nat}(h:fF o (fw ρ bm))(aa:bm≠ .bd)(ax:∀ds,bm≠ .b6 ds):o≠ .bd:=by
 cases bm with
 |bd=>exact absurd rfl aa
 |b6 ds=>exact absurd rfl (ax ds)
 |gone=>cases h;simp[fw]
 |row e av es=>rw[AS h];simp
 |cells t cs=>obtain⟨_,rfl,_⟩:=Ed h;simp
theorem AU:∀ {L:List aU} {k:Nat} {o:aU},nO L=true->L[k]?=some o->∀ds,o≠ .b6 ds
 | [],k,o,_,h,_=>by simp at h
 |x::r,0,o,aS,h,ds=>by
  simp at h;subst h;intro e;subst e;simp[nO]at aS
 |x::r,k+1,o,aS,h,ds=>by
  have:nO r=true:=by cases x<;>simp[nO]at aS<;>exact aS
  exact AU (k:=k) this (by simpa using h) ds
theorem ts:∀ {cA:List Bool} {L bC:List aU} {k:Nat},p3 cA L bC=true->cA.length=L.length/\L.length<=bC.length/\(∀o aK,cA[k]?=some true->L[k]?=some o->bC[k]?=some aK->Dv o aK=true)
 | [],[],bC,k,_=>⟨rfl,by simp,fun o aK h=>by simp at h⟩
 | [],_::_,bC,k,h=>by simp[p3]at h
 |_::_,[],bC,k,h=>by simp[p3]at h
 |_::_,_::_,[],k,h=>by simp[p3]at h
 |b::cA,cQ::L,eI::bC,k,h=>by
  simp only[p3,Bool.and_eq_true]at h;obtain⟨i1,i2,i3⟩:=ts (k:=k-1) h.2;refine⟨by simp[i1],by simp;omega,fun o aK h1 ad aC=> ?_⟩;cases k with
  |zero=>
   simp at h1 ad aC;subst h1;subst ad;subst aC;simpa using h.1
  |succ k=>exact i3 o aK (by simpa using h1) (by simpa using ad) (by simpa using aC)
theorem AV{loc:List aU}{ρ:Nat->Nat}:∀ {pass:List Nat} {L:List aU},q0 loc ρ pass L->pass.length=L.length/\∀ (k i:Nat) o,pass[k]?=some i->L[k]?=some o->fF (bB loc i) (fw ρ o)
 | [],[],_=>⟨rfl,fun k i o h=>by simp at h⟩
 | [],_::_,h=>h.elim
 |_::_,[],h=>h.elim
 |i::r,o::dZ,h=>by
  obtain⟨h1,ad⟩:=AV h.2;refine⟨by simp[h1],fun k nX aK ab aF=> ?_⟩;cases k with
  |zero=>simp at ab aF;subst ab;subst aF;exact h.1
  |succ k=>exact ad k nX aK (by simpa using ab) (by simpa using aF)
theorem On:∀ {pass:List Nat} {cA:List Bool} {k i:Nat},cA.length=pass.length->pass[k]?=some i->cA[k]?≠some true->i∈ux pass cA
 | [],cA,k,i,_,h,_=>by simp at h
 |p::r,[],k,i,af,_,_=>by simp at af
 |p::r,b::cA,0,i,af,h,hk=>by
  simp at h hk;subst h;cases b<;>simp at hk
  simp[ux]
 |p::r,b::cA,k+1,i,af,h,hk=>by
  have:=On (k:=k) (cA:=cA) (pass:=r) (by simpa using af) (by simpa using h) (by simpa using hk);cases b
  ·simp[ux,this]
  ·simpa[ux]using this
theorem WY{J:List Nat}{e:List (Nat×aj)}(t:Nat):look (Du J e) t=if J=[]then look e t else qZ J (look e t):=by
 unfold Du;split
 ·simp
 ·rename_i h;rw[if_neg (fun e=>h e),yo _ rfl]
theorem Ic:∀ (cm:List Nat) (l L:List aU) (i:Nat),i∉cm->(mK l cm L)[i]?=l[i]?
 | [],l,L,i,_=>by cases L<;>rfl
 |j::r,l,[],i,_=>rfl
 |j::r,l,o::L,i,h=>by
  simp only[List.mem_cons,not_or]at h;rw[mK,Ic r _ _ _ h.2,kj,List.getElem?_set_ne (fun e=>h.1 e.symm)]
theorem Oo:∀ (cm:List Nat) (l L:List aU) (k:Nat),cm.Nodup->cm.length=L.length->(∀i∈cm,i<l.length)->k<cm.length->(mK l cm L)[cO cm k]?=L[k]?
 | [],l,L,k,_,_,_,h=>by simp at h
 |j::r,l,[],k,_,h,_,_=>by simp at h
 |j::r,l,o::L,k,aS,af,ab,hk=>by
  obtain⟨h1,ad⟩:=List.nodup_cons.1 aS;cases k with
  |zero=>
   rw[mK];show (mK (e1 l j o) r L)[j]?=_;rw[Ic r _ _ _ h1,kj,List.getElem?_set_self (ab j (by simp))];rfl
  |succ k=>
   rw[mK];show (mK (e1 l j o) r L)[cO r k]?=_;rw[Oo r _ L k ad (by simpa using af) (fun i aT=>by rw[kj];simpa using ab i (by simp[aT])) (by simpa using hk)];rfl
theorem yJ:∀d:aj,fQ [] d=d
 | .bP b d=>by simp only[fQ];rw[yJ d]
 | .fn f b2=>by
  have:b2.any (wb [])=false:=by
   rw[List.any_eq_false];intro c _;cases c<;>simp[wb]
  simp only[fQ,this]
 | .own _| .aP _ _| .dc _ _| .cF _ _ _=>by simp[fQ]
 | .v _| .aq _ _ _| .agg _| .a1 _| .cD _| .ar| .aW=>rfl
theorem Oq:∀d:aj,qZ [] d=d
 | .bP b d=>by simp only[qZ];rw[Oq d]
 | .agg cs=>by
  simp only[qZ];congr 1;conv=>rhs;rw[<-List.map_id cs]
  exact List.map_congr_left (fun c _=>yJ c)
 | .a1 cs=>by
  simp only[qZ];congr 1;conv=>rhs;rw[<-List.map_id cs]
  exact List.map_congr_left (fun c _=>yJ c)
 | .fn f b2=>yJ _
 | .own _| .aP _ _| .dc _ _| .cF _ _ _=>yJ _
 | .v _| .aq _ _ _| .cD _| .ar| .aW=>rfl
theorem Ie{d:aj}:fQ [] d=d/\qZ [] d=d:=⟨yJ d,Oq d⟩
theorem WZ{J:List Nat}{l:List aU}{i:Nat}: (wc J l)[i]?=(l[i]?).map (e4 (fQ J)):=by
 unfold wc;split
 ·have: (e4 (fQ []))=id:=by
   funext o;cases o with
   |cells t cs=>
    have:cs.map (fQ [])=cs:=by
     conv=>rhs;rw[<-List.map_id cs]
     exact List.map_congr_left (fun c _=>Ie.1)
    simp[e4,this]
   |b6 cs=>
    have:cs.map (fQ [])=cs:=by
     conv=>rhs;rw[<-List.map_id cs]
     exact List.map_congr_left (fun c _=>Ie.1)
    simp[e4,this]
   |_=>rfl
  rw[this];simp
 ·rw[r4,List.getElem?_map]
theorem Ee{f:FuncId}{pass news J:List Nat}{L bC:List aU}{im:List aj}{kept:List Bool}{d:aj}{et:List Value}(h:bT aA aY n os s a w)(ho:b0 P f L im kept bC d)
  (gL:∀ (k i:Nat),pass[k]?=some i->kept[k]?≠some true->i∈J\/(∃e av es,L[k]?=some (.row e av es))/\bC[k]?=some .gone)
  (lS:p3 kept L bC=true) (r9:nO L=true) (gZ: (pass++news).Nodup) (ap:∀i∈pass,i<os.length) (kl:∀i∈news,∃y,os[i]?=some (y,.bd)) (hlen:bC.length=pass.length+news.length)
  (wD:mj L L=true) (sa:im.all (iI L)=true) (sb:q0 s.loc (cO (pass++news)) pass L)
  (af:et.length=im.length) (sc:∀ (i:Nat) v d,et[i]?=some v->im[i]?=some d->a6 (j5 aA os []) os w v (jI (cO (pass++news)) d)):
  Calls P f et.toArray w fun e w'=>∃v aJ,e= .returned v/\bT aA aY n aJ (Ai s (pass++news) J bC) a w'/\a6 (a8 aA aJ) aJ w' v (jI (cO (pass++news)) d):=by
 obtain⟨dk,hole⟩:=AV sb;generalize wE:pass++news=cm at *;have kp:cm.length=bC.length:=by rw[<-wE,hlen];simp
 have W0:pass.length<=cm.length:=by rw[<-wE];simp
 have AW:∀k,k<pass.length->pass[k]?=some (cO cm k):=by
  intro k hk;have h1:=uS (l:=cm) (k:=k) (by omega);rw[<-wE,List.getElem?_append_left hk]at h1;rw[h1,wE]
 have kk:∀b,j5 aA os [] b↔a8 aA os b:=by
  intro b;constructor
  ·exact to
  ·rintro(ae| ⟨i,x,aK,ab,aa,b4⟩)
   ·exact .inl ae
   ·exact .inr ⟨i,x,aK,ab,aa,by simp,b4⟩
 -- yC ajP objects
 let eV:cu:=(List.range pass.length).map fun k=>((os[cO cm k]?.map (·.1)).getD .nilFunc,(L[k]?).getD .bd)
 have fU:eV.length=pass.length:=by simp[eV]
 have Ef:∀k,k<pass.length->∃x o bm,os[cO cm k]?=some (x,o)/\L[k]?=some bm/\eV[k]?=some (x,bm)/\fF o (fw (cO cm) bm):=by
  intro k hk;have au:=AW k hk;have ab:=ap _ (List.mem_of_getElem? au);have aF:=List.getElem?_eq_getElem ab;have fY:=List.getElem?_eq_getElem (l:=L) (i:=k) (by omega);refine⟨os[cO cm k].1,os[cO cm k].2,L[k]'(by omega),aF,fY,?_,?_⟩
  ·simp only[eV,List.getElem?_map,List.getElem?_range hk,Option.map_some,aF,fY,Option.getD_some]
  ·have:=hole k _ _ au fY;rw[h.loc,jn,List.getElem?_map,aF]at this;exact this
 have AX:∀ {k:Nat} {x:Value} {bm:aU},eV[k]?=some (x,bm)->k<pass.length/\L[k]?=some bm/\∃o,os[cO cm k]?=some (x,o)/\fF o (fw (cO cm) bm):=by
  intro k x bm hk;have e8:k<pass.length:=by have:=(List.getElem?_eq_some_iff.1 hk).1;omega
  obtain⟨x',o,e9,h1,ad,aC,bh⟩:=Ef k e8;rw[hk]at aC;cases aC;exact⟨e8,ad,o,h1,bh⟩
 have Ot:eV.map (·.2)=L:=by
  apply List.ext_getElem?;intro k;rw[List.getElem?_map];by_cases hk:k<pass.length
  ·obtain⟨x,o,bm,h1,ad,aC,bh⟩:=Ef k hk;rw[aC,ad];rfl
  ·rw[List.getElem?_eq_none (by omega),List.getElem?_eq_none (by omega)];rfl
 have cy:wC aA os eV cm L pass.length:=⟨fU,W0,fun k x bm hk=>AX hk,Ot⟩
 have If:∀ {k:Nat} {bm:aU} {o:aU},L[k]?=some bm->bm≠ .bd->fF o (fw (cO cm) bm)->o≠ .bd:=fun hk aa hle=>WX hle aa (AU r9 hk);have yK:∀ {b:Nat},fv eV b->∃k x o,k<pass.length/\os[cO cm k]?=some (x,o)/\o≠ .bd/\bs x=some b:=by
  rintro b ⟨k,x,bm,hk,aa,ae⟩;obtain⟨h1,ad,o,aC,bh⟩:=AX hk;exact⟨k,x,o,h1,aC,If ad aa bh,ae⟩
 -- W1 is hZ out
 let ln:Nat->Prop:=j5 aA os pass
 have W2:∀b,ln b->b<w.heap.size:=by
  rintro b (ae| ⟨i,x,aK,ab,aa,_,b4⟩)
  ·exact h.yw ae
  ·exact((h.cp _ _ _ ab).gW aa b4).2
 have W3:∀b,ln b->¬fv eV b:=by
  intro b aw h5;obtain⟨k,x,o,hk,aF,sd,b4⟩:=yK h5;rcases aw with ae| ⟨i,y,aK,ab,aa,W4,fq⟩
  ·exact h.a0 b ae ((h.cp _ _ _ aF).gW sd b4).1
  ·have:=h.inj i (cO cm k) _ _ _ _ b ab aF aa sd fq b4;exact W4 (by rw[this];exact List.mem_of_getElem? (AW k hk))
 have Ou:∀b,a8 ln eV b->a8 aA os b:=by
  rintro b (ae|h5)
  ·exact to ae
  ·obtain⟨k,x,o,hk,aF,sd,b4⟩:=yK h5;exact .inr ⟨_,_,_,aF,sd,b4⟩
 have cx:cT (a8 aA os) (a8 ln eV) w w:=cT.gk Ou;have W5:cT (j5 aA os []) (a8 ln eV) w w:=cT.gk (fun b ae=>(kk b).2 (Ou b ae));have pw:qY ln eV L w:=by
  refine⟨Ot,fun k x bm hk=> ?_,fun i j x o y aK b ab ai d1 d2 cC cH=> ?_,W3⟩
  ·obtain⟨e8,Ov,o,aF,hle⟩:=AX hk;have eg:=h.cp _ _ _ aF;cases bm with
   |bd=>exact trivial
   |gone=>
    have:o= .gone:=by cases hle;rfl
    subst this;exact eg
   |b6 ds=>exact absurd rfl (AU r9 Ov ds)
   |row e av es=>
    rw[AS hle]at eg;obtain⟨_,xs,bJ,bZ,fp,bf,ao⟩:=eg;exact⟨fun _ _=>.inr trivial,xs,bJ,bZ,fp,bf,fun dv gy r d h1 ad=>by
     obtain⟨v,ac,ab⟩:=ao dv gy r d h1 ad;exact⟨v,ac,ab.b9 cx⟩⟩
   |cells t cs=>
    obtain⟨cY,rfl,ajQ,hC⟩:=Ed hle;obtain⟨g,arr,rfl,cR,bp,ag,bf,gY⟩:=eg;refine⟨g,arr,rfl,.inr trivial,bp,by omega,bf,fun j v d ac aa=> ?_⟩;have fX:=(List.getElem?_eq_some_iff.1 aa).1;have ll:=List.getElem?_eq_getElem (l:=cY) (i:=j) (by omega);exact Ia cy cx (uT wD Ov d (List.mem_of_getElem? aa)) ((gY j v _ ac ll).gk (hC j _ d ll aa))
  ·obtain⟨fT,yL,cQ,hQ,W6⟩:=AX ab;obtain⟨lm,Ig,eI,nz,Ow⟩:=AX ai;have:=h.inj _ _ _ _ _ _ b hQ nz (If yL d1 W6) (If Ig d2 Ow) cC cH;exact WV gZ (by omega) (by omega) this
 have yM:s4 (a8 ln eV) eV w et im:=by
  have gen:∀ (vs:List Value) (ds:List aj),vs.length=ds.length->(∀ (i:Nat) v d,vs[i]?=some v->ds[i]?=some d->a6 (a8 ln eV) eV w v d)->s4 (a8 ln eV) eV w vs ds:=by
   intro vs;induction vs with
   |nil=>intro ds af _;cases ds<;>first|trivial|simp at af
   |cons v vs aN=>
    intro ds af au;cases ds with
    |nil=>simp at af
    |cons d ds=>exact⟨au 0 v d rfl rfl,aN ds (by simpa using af) (fun i v d ac aa=>au (i+1) v d (by simpa using ac) (by simpa using aa))⟩
  refine gen et im af (fun i v d ac aa=> ?_);simp only[List.all_eq_true]at sa;exact WW cy W5 (sa d (List.mem_of_getElem? aa)) (sc i v d ac aa)
 refine(ho.2 ln w eV et W2 pw yM).mono fun e w' he=> ?_;obtain⟨v,nZ,rfl,uU,rj,lT,hblk,oI⟩:=he;have W7:nZ.length=cm.length:=by rw[kp,<-uU.loc];simp
 have Eg:∀ {k:Nat} {x:Value} {bm:aU},nZ[k]?=some (x,bm)->k<cm.length/\bC[k]?=some bm:=by
  intro k x bm hk;refine⟨by have:=(List.getElem?_eq_some_iff.1 hk).1;omega,?_⟩;rw[<-uU.loc,List.getElem?_map,hk];rfl
 -- yC objects behind yC call
 let aJ:cu:=(List.range os.length).map fun i=>if i∈cm then(match nZ[cm.idxOf i]? with
  |some p=>(p.1,fw (cO cm) p.2)
  |none=>(.nilFunc,.bd))else match os[i]? with
  |some p=>(p.1,e4 (fQ J) p.2)
  |none=>(.nilFunc,.bd)
 have Ox:∀i∈cm,i<os.length:=by
  intro i ab;rw[<-wE]at ab;rcases List.mem_append.1 ab with ab|ab
  ·exact ap i ab
  ·obtain⟨y,bt⟩:=kl i ab;exact(List.getElem?_eq_some_iff.1 bt).1
 have px:∀ {k:Nat},k<cm.length->cO cm k∈cm:=fun hk=>List.mem_of_getElem? (uS hk);have W8:∀ {k:Nat},k<cm.length->cm.idxOf (cO cm k)=k:=by
  intro k hk;have aT:=px hk;have h1:=List.idxOf_lt_length_of_mem aT;have ad:cm[cm.idxOf (cO cm k)]?=some (cO cm k):=by rw[List.getElem?_eq_getElem h1];simp
  exact Oj gZ ad (uS hk)
 have kq:∀ {k:Nat} {x:Value} {bm:aU},nZ[k]?=some (x,bm)->aJ[cO cm k]?=some (x,fw (cO cm) bm):=by
  intro k x bm hk;obtain⟨e8,_⟩:=Eg hk;have aT:=px e8;simp only[aJ,List.getElem?_map,List.getElem?_range (Ox _ aT),Option.map_some,if_pos aT,W8 e8,hk]
 have gU:∀i,i∉cm->aJ[i]?=(os[i]?).map fun p=>(p.1,e4 (fQ J) p.2):=by
  intro i ab;by_cases af:i<os.length
  ·simp only[aJ,List.getElem?_map,List.getElem?_range af,Option.map_some,if_neg ab,List.getElem?_eq_getElem af]
  ·have h1:aJ[i]?=none:=List.getElem?_eq_none (by simp[aJ];omega);rw[h1,List.getElem?_eq_none (by omega)];rfl
 have b7:∀ {i:Nat} {x:Value} {aK:aU},aJ[i]?=some (x,aK)->(∃k bm,k<cm.length/\i=cO cm k/\nZ[k]?=some (x,bm)/\aK=fw (cO cm) bm)\/(i∉cm/\∃cQ,os[i]?=some (x,cQ)/\aK=e4 (fQ J) cQ):=by
  intro i x aK ab;by_cases aT:i∈cm
  ·have h1:=List.idxOf_lt_length_of_mem aT;have ad:cO cm (cm.idxOf i)=i:=by
    have aC:cm[cm.idxOf i]?=some i:=by rw[List.getElem?_eq_getElem h1];simp
    have bh:=uS h1;rw[aC]at bh;exact(Option.some.inj bh).symm
   have bL:=List.getElem?_eq_getElem (l:=nZ) (i:=cm.idxOf i) (by omega);rcases au: (nZ[cm.idxOf i]'(by omega))with⟨y,bm⟩
   rw[au]at bL;have c0:=kq bL;rw[ad,ab]at c0;cases c0;exact .inl ⟨_,_,h1,ad.symm,bL,rfl⟩
  ·rw[gU i aT]at ab;cases h1:os[i]? with
   |none=>rw[h1]at ab;cases ab
   |some p=>rw[h1]at ab;cases ab;exact .inr ⟨aT,_,rfl,rfl⟩
 have c2:∀cQ:aU,e4 (fQ J) cQ≠ .bd->cQ≠ .bd:=by intro cQ;cases cQ<;>simp[e4]
 have yN:∀bm:aU,fw (cO cm) bm≠ .bd->bm≠ .bd:=by intro bm;cases bm<;>simp[fw]
 have W9:∀ {i:Nat},i∉cm->i∉pass:=fun ab au=>ab (by rw[<-wE];exact List.mem_append.2 (.inl au))
 -- blocks of yC objects behind yC call
 have Oy:∀ {b:Nat},fv nZ b->(∃k x o,k<pass.length/\os[cO cm k]?=some (x,o)/\o≠ .bd/\bs x=some b)\/w.heap.size<=b:=fun ae=>(hblk _ ae).imp yK id;have fV:∀b,b<w.heap.size->a8 aA aJ b->a8 aA os b:=by
  rintro b iO (ae| ⟨i,x,aK,ab,aa,b4⟩)
  ·exact .inl ae
  ·rcases b7 ab with⟨k,bm,hk,rfl,al,rfl⟩| ⟨_,cQ,h1,rfl⟩
   ·rcases Oy ⟨k,x,bm,al,yN _ aa,b4⟩with⟨_,y,o,_,ad,aC,bh⟩|ad
    ·exact .inr ⟨_,_,_,ad,aC,bh⟩
    ·omega
   ·exact .inr ⟨_,_,_,h1,c2 _ aa,b4⟩
 have lo:∀b,b<w.heap.size->¬fv eV b->w'.heap[b]?=w.heap[b]?:=lT.block;have kE:cT (a8 aA os) (a8 aA aJ) w w':=⟨lT.size,fV,fun b ae aS=>lo b ae (fun h5=>aS (by
  obtain⟨k,x,o,_,ad,aC,bh⟩:=yK h5;exact .inr ⟨_,_,_,ad,aC,bh⟩))⟩
 have qb:cT (a8 ln nZ) (a8 aA aJ) w' w':=cT.gk (by
  rintro b (ae| ⟨i,x,aK,ab,aa,b4⟩)
  ·exact .inl (.inl ae)
  ·rcases b7 ab with⟨k,bm,hk,rfl,al,rfl⟩| ⟨yO,cQ,h1,rfl⟩
   ·exact .inr ⟨k,x,bm,al,yN _ aa,b4⟩
   ·exact .inl (.inr ⟨i,x,cQ,h1,c2 _ aa,W9 yO,b4⟩))
 have cR:Ol os aJ nZ cm J cm.length:=⟨W7,rfl,gZ,fun k x bm hk=>kq hk,gU⟩
 obtain⟨q8,AY,_⟩:=ts (k:=0) lS;have jq:∀ (i:Nat) x o,i∉J->os[i]?=some (x,o)->o≠ .bd->(∃e av es,o= .row e av es)\/(∃t cs,o= .cells t cs)\/o= .gone->∃y aK,aJ[i]?=some (y,aK)/\(y=x/\di o aK\/(∃e av es,o= .row e av es)/\aK= .gone):=by
  intro i x o ab aF aa ajR;by_cases aT:i∈cm
  ·rw[<-wE]at aT;rcases List.mem_append.1 aT with aT|aT
   ·obtain⟨k,hk,rfl⟩:=List.getElem_of_mem aT;have kX:=AW k hk;rw[List.getElem?_eq_getElem hk]at kX;have kX:=Option.some.inj kX;by_cases Ih:kept[k]?=some true
    case neg=>
     rcases gL k _ (List.getElem?_eq_getElem hk) Ih with cw| ⟨⟨e,av,es,dR⟩,qe⟩
     ·exact absurd cw ab
     ·obtain⟨x',eI,bm,h1,ad,aC,bh⟩:=Ef k hk;rw[kX]at aF;rw[h1]at aF;cases aF;rw[dR]at ad;cases ad;have Ec:k<nZ.length:=by omega
      have Ii:=List.getElem?_eq_getElem Ec;rcases Oz:nZ[k]with⟨Xa,ajS⟩
      rw[Oz]at Ii;have OA:=(Eg Ii).2;rw[qe]at OA;cases OA;rw[kX];exact⟨Xa,.gone,kq Ii,.inr ⟨⟨e,av,es,AS bh⟩,rfl⟩⟩
    obtain⟨x',eI,bm,h1,ad,aC,bh⟩:=Ef k hk;rw[kX]at aF;rw[h1]at aF;cases aF;obtain⟨aK,ll⟩:=oI k x bm Ih aC;obtain⟨e8,Xb⟩:=Eg ll;have rk:=(ts (k:=k) lS).2.2 bm aK Ih ad Xb;rw[kX];refine⟨_,_,kq ll,.inl ⟨rfl,?_⟩⟩;cases bm<;>cases aK<;>simp[Dv]at rk
    ·obtain⟨cY,rfl,_⟩:=Ed bh;simpa[di,fw]using rk
    ·rw[AS bh];simpa[di,fw]using rk
   ·obtain⟨y,bt⟩:=kl i aT;rw[aF]at bt;cases bt;exact absurd rfl aa
  ·refine⟨x,e4 (fQ J) o,by rw[gU i aT,aF];rfl,.inl ⟨rfl,?_⟩⟩;cases o<;>simp[di,e4]
 have gI:∀ {b:Nat},fv eV b->aY.mine b:=by
  intro b h5;obtain⟨k,x,o,_,ad,aC,bh⟩:=yK h5;exact((h.cp _ _ _ ad).gW aC bh).1
 have ajT:aJ.length=os.length:=by simp[aJ]
 refine⟨v,aJ,rfl,⟨h.size,h.defers,⟨lT.os.trans h.fH.os,lT.tape.trans h.fH.tape,lT.output.trans h.fH.output,Nat.le_trans h.fH.size lT.size,fun b ae wF=> ?_⟩,h.a0,?_,fun t=> ?_,fun i x aK ab=> ?_,fun i j x o y aK b ab ai d1 d2 cC cH=> ?_⟩,(Om cR qb rj).2⟩
 ·refine(lo b (Nat.lt_of_lt_of_le ae h.fH.size) (fun h5=> ?_)).trans (h.fH.block b ae wF);rcases gI h5 with h1|h1
  ·omega
  ·exact wF h1
 ·show mK (wc J s.loc) cm (bC.map (fw (cO cm)))=_;apply List.ext_getElem?;intro i;rw[List.getElem?_map];have gT: (wc J s.loc).length=os.length:=by
   have:s.loc.length=os.length:=h.len;unfold wc;split
   ·exact this
   ·rw[r4];simpa using this
  by_cases aT:i∈cm
  ·have h1:=List.idxOf_lt_length_of_mem aT;have ad:cO cm (cm.idxOf i)=i:=by
    have aC:cm[cm.idxOf i]?=some i:=by rw[List.getElem?_eq_getElem h1];simp
    have bh:=uS h1;rw[aC]at bh;exact(Option.some.inj bh).symm
   have bL:=List.getElem?_eq_getElem (l:=nZ) (i:=cm.idxOf i) (by omega);rcases au: (nZ[cm.idxOf i]'(by omega))with⟨y,bm⟩
   rw[au]at bL;have c0:=kq bL;rw[ad]at c0;rw[c0];have fo:=Oo cm (wc J s.loc) (bC.map (fw (cO cm))) (cm.idxOf i) gZ (by simp[kp]) (fun q bF=>by rw[gT];exact Ox q bF) h1;rw[ad]at fo;rw[fo,List.getElem?_map,(Eg bL).2];rfl
  ·rw[Ic _ _ _ _ aT,gU i aT,WZ,h.loc,List.getElem?_map];cases os[i]?<;>rfl
 ·show a6 _ _ _ _ (look (Du J s.env) t);rw[WY];have ac:=(Ib (J:=J) kE jq (h.env t)).2;split
  ·rename_i ai;subst ai;rwa[Ie.2]at ac
  ·exact ac
 ·rcases b7 ab with⟨k,bm,hk,rfl,al,rfl⟩| ⟨yO,cQ,h1,rfl⟩
  ·have Ij:=uU.cp k x bm al;have tt:∀b,bm≠ .bd->bs x=some b->aY.mine b:=by
    intro b aa b4;rcases hblk b ⟨k,x,bm,al,aa,b4⟩with h1|h1
    ·exact gI h1
    ·exact dP.pr h.fH h1
   cases bm with
   |bd=>exact trivial
   |gone=>exact Ij
   |b6 ds=>exact trivial
   |row e av es=>
    obtain⟨_,xs,bJ,bZ,fp,bf,ao⟩:=Ij;exact⟨fun b b4=>tt b (by simp) b4,xs,bJ,bZ,fp,bf,fun dv gy r d h1 ad=>by
     obtain⟨v,ac,ab⟩:=ao dv gy r d h1 ad;exact⟨v,ac,ab.b9 qb⟩⟩
   |cells t cs=>
    obtain⟨g,arr,rfl,Eh,bp,ag,bf,gY⟩:=Ij;refine⟨g,arr,rfl,tt g (by simp) rfl,bp,by simpa using ag,bf,fun j v d ac aa=> ?_⟩;rw[List.getElem?_map]at aa;cases ai:cs[j]? with
    |none=>rw[ai]at aa;cases aa
    |some bD=>
     rw[ai]at aa;simp at aa;subst aa;refine(Om cR qb (gY j v bD ac ai)).1 (bf v ?_);rw[<-Array.getElem?_toList]at ac;exact List.mem_of_getElem? ac
  ·have eg:=h.cp _ _ _ h1;have OB:∀b,cQ≠ .bd->bs x=some b->w'.heap[b]?=w.heap[b]?:=by
    intro b aa b4;refine lo b ((eg.gW aa b4).2) (fun h5=> ?_);obtain⟨k,y,o,hk,ad,aC,bh⟩:=yK h5;have:=h.inj i (cO cm k) _ _ _ _ b h1 ad aa aC b4 bh;exact yO (by rw[this];exact px (by omega))
   cases cQ with
   |bd=>exact trivial
   |gone=>exact eg
   |b6 ds=>
    obtain⟨az,aG,a7,b5⟩:=eg;refine⟨az,by simpa using aG,a7,fun nX v d ac aa=> ?_⟩;rw[List.getElem?_map]at aa;cases ai:ds[nX]? with
    |none=>rw[ai]at aa;cases aa
    |some bD=>
     rw[ai]at aa;simp at aa;subst aa;exact(Ib (J:=J) kE jq (b5 nX v bD ac ai)).1 (a7 v (List.mem_of_getElem? ac))
   |cells t cs=>
    obtain⟨g,arr,rfl,Eh,bp,ag,bf,gY⟩:=eg;refine⟨g,arr,rfl,Eh,(OB g (by simp) rfl).trans bp,by simpa using ag,bf,fun j v d ac aa=> ?_⟩;rw[List.getElem?_map]at aa;cases ai:cs[j]? with
    |none=>rw[ai]at aa;cases aa
    |some bD=>
     rw[ai]at aa;simp at aa;subst aa;refine(Ib (J:=J) kE jq (gY j v bD ac ai)).1 (bf v ?_);rw[<-Array.getElem?_toList]at ac;exact List.mem_of_getElem? ac
   |row e av es=>
    obtain⟨Xc,xs,bJ,bZ,fp,bf,ao⟩:=eg;refine⟨Xc,xs,⟨bJ.1,?_⟩,bZ,fp,bf,fun dv gy r d h1 ad=> ?_⟩
    ·rcases bJ.2 with aS| ⟨g,cap,cur,rfl,Eh,bp,rest⟩
     ·exact .inl aS
     ·exact .inr ⟨g,cap,cur,rfl,Eh,(OB g (by simp) rfl).trans bp,rest⟩
    ·obtain⟨v,ac,ab⟩:=ao dv gy r d h1 ad;exact⟨v,ac,ab.b9 kE⟩
 ·have OC:∀ {i j:Nat} {x y:Value} {k:Nat} {bm eI:aU},k<cm.length->nZ[k]?=some (x,bm)->bm≠ .bd->bs x=some b->j∉cm->os[j]?=some (y,eI)->eI≠ .bd->bs y=some b->False:=by
   intro i j x y k bm eI hk al aa uV ai nz hS gx;rcases Oy ⟨k,x,bm,al,aa,uV⟩with⟨dv,z,o,fi,ad,aC,bh⟩|ad
   ·have:=h.inj j (cO cm dv) _ _ _ _ b nz ad hS aC gx bh;exact ai (by rw[this];exact px (by omega))
   ·have:=((h.cp _ _ _ nz).gW hS gx).2;omega
  rcases b7 ab with⟨cx,H4,fT,rfl,pn,rfl⟩| ⟨tu,cQ,h1,rfl⟩<;>rcases b7 ai with⟨cM,ajU,lm,rfl,q7,rfl⟩| ⟨AZ,eI,ad,rfl⟩
  ·rw[uU.inj cx cM _ _ _ _ b pn q7 (yN _ d1) (yN _ d2) cC cH]
  ·exact(OC (i:=0) fT pn (yN _ d1) cC AZ ad (c2 _ d2) cH).elim
  ·exact(OC (i:=0) lm q7 (yN _ d2) cH tu h1 (c2 _ d1) cC).elim
  ·exact h.inj _ _ _ _ _ _ b h1 ad (c2 _ d1) (c2 _ d2) cC cH
end
open Go
section
variable {P:Program} {ah:c4} {aA:Nat->Prop} {aY:dP} {n:Nat} {os aJ:cu} {s:bu} {a:Act} {w:World} {o:Oper} {K:bu->Prop} {A:Nat->Prop} {pass:List Nat} {J:List Nat}
def A0(pass:List Nat):aj->Prop
 | .own j| .aP j _| .dc j _| .cF j _ _=>j∈pass
 |_=>False
def wG(aA:Nat->Prop)(os:cu)(J pass:List Nat)(w:World)(v:Value)(d:aj):Prop:=bO (j5 aA os J) w v d\/(A0 pass d/\a6 (a8 aA os) os w v d)
def Ei(aA:Nat->Prop)(os:cu)(J pass:List Nat)(w:World)(v:Value)(d:aj):Prop:=wG aA os J pass w v d\/∃ (vs:List Value) (ds:List aj),v= .agg vs.toArray/\d= .agg ds/\vs.length=ds.length/\(∀x∈vs,x.oneCell'=true)/\∀ (i:Nat) x e,vs[i]?=some x->ds[i]?=some e->wG aA os J pass w x e
theorem wG.gw(bb:∀b,a8 aA aJ b->j5 aA os J b)(hk:∀ (i:Nat) x o,i∉J->os[i]?=some (x,o)->∃aK,aJ[i]?=some (x,aK)/\di o aK)(tv:∀j∈pass,j∉J){v:Value}{d:aj}(h:wG aA os J pass w v d):a6 (a8 aA aJ) aJ w v d:=by
 rcases h with h| ⟨au,h⟩
 ·exact .bA (h.b9 (cT.gk bb))
 ·cases h with
  |bA h=>cases h<;>first|exact au.elim|exact .bA .aW
  |aP h=>
   obtain⟨aK,h1,ad⟩:=hk _ _ _ (tv _ au) h;cases aK<;>simp[di]at ad
   exact .aP h1
  |dc h=>
   obtain⟨aK,h1,ad⟩:=hk _ _ _ (tv _ au) h;cases aK<;>simp[di]at ad
   exact .dc h1
  |cF h=>
   obtain⟨aK,h1,ad⟩:=hk _ _ _ (tv _ au) h;cases aK<;>simp[di]at ad
   obtain⟨rfl,rfl⟩:=ad;exact .cF h1
  |own h aH=>
   obtain⟨aK,h1,ad⟩:=hk _ _ _ (tv _ au) h;cases aK<;>simp[di]at ad
   exact .own h1 aH
  |dK h aa aH=>
   rcases aa with rfl| ⟨_,_,rfl⟩
   ·obtain⟨aK,h1,ad⟩:=hk _ _ _ (tv _ au) h;cases aK<;>simp[di]at ad
    exact .dK h1 (.inl rfl) aH
   ·obtain⟨aK,h1,ad⟩:=hk _ _ _ (tv _ au) h;cases aK<;>simp[di]at ad
    exact .dK h1 (.inr ⟨_,_,rfl⟩) aH
  |agg=>exact au.elim
  |a1=>exact au.elim
  |fn=>exact au.elim
  |bP=>exact au.elim
theorem Ei.gw(bb:∀b,a8 aA aJ b->j5 aA os J b)(hk:∀ (i:Nat) x o,i∉J->os[i]?=some (x,o)->∃aK,aJ[i]?=some (x,aK)/\di o aK)(tv:∀j∈pass,j∉J){v:Value}{d:aj}(h:Ei aA os J pass w v d):a6 (a8 aA aJ) aJ w v d:=by
 rcases h with h| ⟨vs,ds,rfl,rfl,af,bf,au⟩
 ·exact h.gw bb hk tv
 ·exact .agg af bf (fun i x e an he=>(au i x e an he).gw bb hk tv)
theorem OD(h:bT aA aY n os s a w){v:Value}{d:aj}{Q:aj->Prop}(ao:a6 (a8 aA os) os w v d)(gL:∀e j,e∈kS d->kF e=some j->pass.contains j=false->j∈J)(af:s5 pass s.loc d Q):∃bD,Q bD/\wG aA os J pass w v bD:=by
 have e2: (∀e j,e∈kS d->kF e=some j->j∈J)->lH s.loc d Q->∃bD,Q bD/\wG aA os J pass w v bD:=fun ai af=>by
  obtain⟨bD,h1,ad⟩:=H5 h ao ai af;exact⟨bD,h1,.inl ad⟩
 cases d with
 |own j=>
  simp only[s5]at af;split at af
  ·rename_i al;exact⟨_,af,.inr ⟨by simpa[A0]using al,ao⟩⟩
  ·rename_i al;exact e2 (fun e gy he ai=>by
    simp only[kS,List.mem_singleton]at he;subst he;simp[kF]at ai;subst ai;exact gL (.own _) _ (by simp[kS]) rfl al) af
 |aP j off=>
  simp only[s5]at af;split at af
  ·rename_i al;exact⟨_,af,.inr ⟨by simpa[A0]using al,ao⟩⟩
  ·rename_i al;exact e2 (fun e gy he ai=>by
    simp only[kS,List.mem_singleton]at he;subst he;simp[kF]at ai;subst ai;exact gL (.aP _ off) _ (by simp[kS]) rfl al) af
 |dc j off=>
  simp only[s5]at af;split at af
  ·rename_i al;exact⟨_,af,.inr ⟨by simpa[A0]using al,ao⟩⟩
  ·exact af.elim
 |cF j hA off=>
  simp only[s5]at af;split at af
  ·rename_i al;exact⟨_,af,.inr ⟨by simpa[A0]using al,ao⟩⟩
  ·exact af.elim
 |fn f b2=>
  simp only[s5]at af;split at af
  ·exact af.elim
  ·rename_i al;refine e2 (fun e j he ai=>gL e j he ai ?_) af;simp only[kS,List.mem_filter]at he;rw[List.any_eq_false]at al;have:=al e he.1;cases e<;>simp[Hi]at he
   simp[kF]at ai;subst ai;simpa[wb]using this
 |_=>exact e2 (fun e j he=>by simp[kS]at he) af
theorem OE(h:bT aA aY n os s a w):∀ (vs:List Value) (ds:List aj) {Q:List aj->Prop},vs.length=ds.length->(∀ (i:Nat) v d,vs[i]?=some v->ds[i]?=some d->a6 (a8 aA os) os w v d)->(∀e j,e∈ds.flatMap kS->kF e=some j->pass.contains j=false->j∈J)->
  Hk pass s.loc ds Q->∃fJ,Q fJ/\vs.length=fJ.length/\∀ (i:Nat) v d,vs[i]?=some v->fJ[i]?=some d->wG aA os J pass w v d
 | [],[],Q,_,_,_,af=>⟨[],af,rfl,by simp⟩
 | [],_::_,Q,h1,_,_,_=>by simp at h1
 |_::_,[],Q,h1,_,_,_=>by simp at h1
 |v::vs,d::ds,Q,h1,ao,gL,af=>by
  obtain⟨bD,af,ab⟩:=OD h (ao 0 v d rfl rfl) (fun e j he ai=>gL e j (by simp[List.flatMap_cons,he]) ai) af;obtain⟨fJ,bF,hlen,au⟩:=OE h vs ds (by simpa using h1) (fun i v d ac aa=>ao (i+1) v d (by simpa using ac) (by simpa using aa)) (fun e j he ai=>gL e j (by rw[List.flatMap_cons];exact List.mem_append.2 (.inr he)) ai) af;refine⟨bD::fJ,bF,by simp[hlen],fun i v' e ac he=> ?_⟩;cases i with
  |zero=>simp at ac he;subst ac he;exact ab
  |succ i=>exact au i v' e (by simpa using ac) (by simpa using he)
theorem Xd(h:bT aA aY n os s a w){v:Value}{d:aj}{Q:aj->Prop}(ao:a6 (a8 aA os) os w v d)(gL:∀e j,e∈fm [d]->kF e=some j->pass.contains j=false->j∈J)(af:Hl pass s.loc d Q):∃bD,Q bD/\Ei aA os J pass w v bD:=by
 by_cases aa:∃cs,d= .agg cs
 ·obtain⟨cs,rfl⟩:=aa;obtain⟨vs,rfl,hlen,bf,au⟩:=ao.s9;obtain⟨fJ,bF,fh,iQ⟩:=OE h vs cs hlen au (fun e j he ai=>gL e j (by
   simp only[fm,List.append_nil];exact he) ai) af
  exact⟨_,bF,.inr ⟨vs,fJ,rfl,rfl,fh,bf,iQ⟩⟩
 ·have h1:Hl pass s.loc d Q=s5 pass s.loc d Q:=by cases d<;>first|rfl|exact absurd ⟨_,rfl⟩ aa
  rw[h1]at af;have ad:fm [d]=kS d:=by cases d<;>first|exact absurd ⟨_,rfl⟩ aa|simp[fm]
  rw[ad]at gL;obtain⟨bD,bF,an⟩:=OD h ao gL af;exact⟨bD,bF,.inl an⟩
theorem OF(h:bT aA aY n os s a w):∀ (vs:List Value) (ds:List aj) {Q:List aj->Prop},vs.length=ds.length->(∀ (i:Nat) v d,vs[i]?=some v->ds[i]?=some d->a6 (a8 aA os) os w v d)->(∀e j,e∈fm ds->kF e=some j->pass.contains j=false->j∈J)->
  Hm pass s.loc ds Q->∃fJ,Q fJ/\vs.length=fJ.length/\∀ (i:Nat) v d,vs[i]?=some v->fJ[i]?=some d->Ei aA os J pass w v d
 | [],[],Q,_,_,_,af=>⟨[],af,rfl,by simp⟩
 | [],_::_,Q,h1,_,_,_=>by simp at h1
 |_::_,[],Q,h1,_,_,_=>by simp at h1
 |v::vs,d::ds,Q,h1,ao,gL,af=>by
  obtain⟨bD,af,ab⟩:=Xd h (ao 0 v d rfl rfl) (fun e j he ai=>gL e j (by rw[D8];exact List.mem_append.2 (.inl he)) ai) af;obtain⟨fJ,bF,hlen,au⟩:=OF h vs ds (by simpa using h1) (fun i v d ac aa=>ao (i+1) v d (by simpa using ac) (by simpa using aa)) (fun e j he ai=>gL e j (by rw[D8];exact List.mem_append.2 (.inr he)) ai) af;refine⟨bD::fJ,bF,by simp[hlen],fun i v' e ac he=> ?_⟩;cases i with
  |zero=>simp at ac he;subst ac he;exact ab
  |succ i=>exact au i v' e (by simpa using ac) (by simpa using he)
theorem Xe{args:List aj}{e:aj}{j:Nat}(he:e∈fm args)(ai:kF e=some j)(aS:pass.contains j=false):j∈hm (yd pass args):=by
 refine wB (d:=e) ?_ ai;simp only[yd,List.mem_filter];refine⟨he,?_⟩;cases e<;>simp[kF]at ai
 ·subst ai;simpa using aS
 ·subst ai;simpa using aS
theorem Xf{args:List aj}{j:Nat}(h:j∈hm (yd pass args)):j∉pass:=by
 obtain⟨e,he,ai⟩:=List.mem_filterMap.1 h;simp only[yd,List.mem_filter]at he;cases e<;>simp[kF]at ai
 ·subst ai;simpa using he.2
 ·subst ai;simpa using he.2
theorem Ej:∀ (q i:Nat),(bz i q).length=q
 |0,i=>rfl
 |q+1,i=>by rw[bz,List.length_cons,Ej q]
theorem Ek:∀ (q i j:Nat),j∈bz i q↔i<=j/\j<i+q
 |0,i,j=>by simp only[bz,List.not_mem_nil,false_iff];omega
 |q+1,i,j=>by rw[bz,List.mem_cons,Ek q];omega
theorem OG:∀ (q i:Nat),(bz i q).Nodup
 |0,i=>List.nodup_nil
 |q+1,i=>List.nodup_cons.2 ⟨fun h=>by rw[Ek]at h;omega,OG q _⟩
theorem El:∀ {l ck:List aj},lI l ck->l.length=ck.length/\∀ (i:Nat) c d,l[i]?=some c->ck[i]?=some d->fP c d
 | [],[],_=>⟨rfl,fun i c d h _=>by simp at h⟩
 | [],_::_,h=>h.elim
 |_::_,[],h=>h.elim
 |x::l,y::ck,h=>by
  obtain⟨h1,ad⟩:=El h.2;refine⟨by simp[h1],fun i c d al aa=> ?_⟩;cases i with
  |zero=>
   simp only[List.getElem?_cons_zero,Option.some.injEq]at al aa;subst al;subst aa;exact h.1
  |succ i=>exact ad i c d (by simpa using al) (by simpa using aa)
theorem OH(h:bT aA aY n os s a w):∀m,∃aJ,bT aA aY n aJ ⟨s.env,s.loc++List.replicate m .bd⟩ a w/\(∀i,i<os.length->aJ[i]?=os[i]?)/\∀i,os.length<=i->i<os.length+m->aJ[i]?=some (.nilFunc,.bd)
 |0=>⟨os,by simpa using h,fun _ _=>rfl,fun i h1 ad=>by omega⟩
 |m+1=>by
  obtain⟨aJ,bb,g1,g2⟩:=OH h m;have af:aJ.length=os.length+m:=by
   have:=bb.len;simp only[List.length_append,List.length_replicate,h.len]at this;omega
  have:=bb.push (x:=.nilFunc) (bm:=.bd) (grownBy.rd w none) (by simp[bs]) trivial;refine⟨aJ++ [(.nilFunc,.bd)],?_,fun i ab=> ?_,fun i h1 ad=> ?_⟩
  ·rw[List.replicate_succ',<-List.append_assoc];exact this
  ·rw[List.getElem?_append_left (by omega)];exact g1 i ab
  ·by_cases ab:i<os.length+m
   ·rw[List.getElem?_append_left (by omega)];exact g2 i h1 ab
   ·rw[List.getElem?_append_right (by omega)];have:i-aJ.length=0:=by omega
    rw[this];rfl
theorem Xg{f:FuncId}{args:List aj}{et:List Value}{K:aj->bu->Prop}(h:bT aA aY n os s a w)(af:et.length=args.length)(au:∀ (i:Nat) v d,et[i]?=some v->args[i]?=some d->a6 (a8 aA os) os w v d)(ak:M6 P f args s K):
  (∀ (vs:Array Value) (w:World),(callFunc f vs).run P w= .ok (.enter f vs) w)/\Calls P f et.toArray w fun e w'=>∃v r aJ s',e= .returned v/\bT aA aY n aJ s' a w'/\a6 (a8 aA aJ) aJ w' v r/\K r s':=by
 obtain⟨pass,ak⟩:=ak;obtain⟨l,ak,gi,Xh⟩:=OF (J:=hm (yd pass args)) h et args af au (fun e j he ai aS=>Xe he ai aS) ak;obtain⟨fy,s1,h1,ak,fV,oI⟩:=tn _ h ak;obtain⟨L,im,kept,bC,d,ho,oJ,sb,A1,ak⟩:=ak;simp only[Bool.and_eq_true]at oJ;obtain⟨⟨⟨⟨⟨lS,r9⟩,gZ⟩,ap⟩,sa⟩,wD⟩:=oJ;simp only[List.all_eq_true]at ap;have ap:∀i∈pass,i<s1.loc.length:=fun i ab=>Nat.le_of_ble_eq_true (ap i ab);obtain⟨jb,ad,g1,g2⟩:=OH h1 (bC.length-L.length);obtain⟨q8,AY,_⟩:=ts (k:=0) lS;obtain⟨dk,_⟩:=AV sb;obtain⟨iL,A2⟩:=El A1;have ajV:=h1.len;have Ik:=ad.len;simp only[List.length_append,List.length_replicate]at Ik;generalize lO:bz s1.loc.length (bC.length-L.length)=news at *
 have Xi:q0 (s1.loc++List.replicate (bC.length-L.length) .bd) (cO (pass++news)) pass L:=by
  have gen:∀ (p:List Nat) (q:List aU),(∀i∈p,i<s1.loc.length)->q0 s1.loc (cO (pass++news)) p q->q0 (s1.loc++List.replicate (bC.length-L.length) .bd) (cO (pass++news)) p q:=by
   intro p;induction p with
   |nil=>intro q _ h;cases q<;>exact h
   |cons i p aN=>
    intro q ab h;cases q with
    |nil=>exact h
    |cons o q=>
     refine⟨?_,aN q (fun i aT=>ab i (by simp[aT])) h.2⟩;have:=h.1;rw[jn]at this⊢;rw[List.getElem?_append_left (ab i (by simp))];exact this
  exact gen pass L ap sb
 have core:=Ee (s:=⟨s1.env,s1.loc++List.replicate (bC.length-L.length) .bd⟩) (news:=news) (pass:=pass) (J:=ux pass kept) ad ho (fun k i hk aS=>.inl (On ((ts (k:=0) lS).1.trans dk.symm) hk aS)) lS r9 (by
   rw[List.nodup_append];refine⟨AR gZ,by rw[<-lO];exact OG _ _,fun i ab j ai e=> ?_⟩;subst e;rw[<-lO,Ek]at ai;have:=ap i ab;omega) (fun i ab=>by have:=ap i ab;omega) (fun i ab=>by
   rw[<-lO,Ek]at ab;exact⟨_,g2 i (by omega) (by omega)⟩) (by rw[<-lO,Ej];omega) wD (by simpa using sa) Xi (et:=et) (by rw[gi,iL];simp) (fun i v d ac aa=>by
   have dG:=(List.getElem?_eq_some_iff.1 ac).1;have mS:=List.getElem?_eq_getElem (l:=l) (i:=i) (by omega);have an:=(Xh i v _ ac mS).gw fV oI (fun j ai aT=>Xf aT ai);have hS: (im.map (jI (cO (pass++news))))[i]?=some (jI (cO (pass++news)) d):=by rw[List.getElem?_map,aa];rfl
   have py:=an.gk (A2 i _ _ mS hS);have sX:cT (a8 aA fy) (j5 aA jb []) w w:=cT.gk (fun b ae=>by
    rcases ae with ae| ⟨q,y,aK,bF,c2,_,b4⟩
    ·exact .inl ae
    ·by_cases Xj:q<fy.length
     ·rw[g1 q Xj]at bF;exact .inr ⟨q,y,aK,bF,c2,b4⟩
     ·have tw:q<fy.length+(bC.length-L.length):=by
       have:=(List.getElem?_eq_some_iff.1 bF).1;omega
      rw[g2 q (by omega) tw]at bF;cases bF;exact absurd rfl c2)
   refine py.b9 sX (fun q y bm bF=>⟨bm,?_,by cases bm<;>simp[di]⟩);rw[g1 q (List.getElem?_eq_some_iff.1 bF).1];exact bF)
 refine⟨ho.1,core.mono fun e w' he=> ?_⟩;obtain⟨v,aJ,rfl,ao,ac⟩:=he;exact⟨v,_,aJ,_,rfl,ao,ac,ak⟩
end
open Go
section
variable {P:Program} {ah:c4} {aA:Nat->Prop} {aY:dP} {n:Nat} {os:cu} {s:bu} {a:Act} {w:World} {o:Oper} {K:bu->Prop} {A:Nat->Prop}
theorem fW.Xk{cells:List Value}{es:List (List aj)}{av k:Nat}(h:fW A w cells es av)(hk:k<=es.length):fW A w (cells.take (k*av)) (es.take k) av:=by
 have hle:k*av<=es.length*av:=Nat.mul_le_mul_right _ hk;refine⟨by rw[List.length_take,h.len,List.length_take,Nat.min_eq_left hk];omega,fun r ao=>h.hK r (List.mem_of_mem_take ao),fun v ac=>h.dD v (List.mem_of_mem_take ac),fun dv j r d fi ai=> ?_⟩;have e8:=(List.getElem?_eq_some_iff.1 fi).1;rw[List.length_take]at e8;rw[List.getElem?_take,if_pos (by omega)]at fi;have fp:=h.hK _ (List.mem_of_getElem? fi);have fX:=(List.getElem?_eq_some_iff.1 ai).1;have: (dv+1) *av<=k*av:=Nat.mul_le_mul_right _ (by omega);rw[Nat.add_mul]at this;rw[List.getElem?_take,if_pos (by omega)];exact h.gw dv j r d fi ai
theorem yP(aO:cS P ah=true){t e cd:TypeId}{x ab:Operand}{j k av:Nat}{es:List (List aj)}{q1:IntKind}{Q:Exit->Act->World->Prop}
  (aF:o.op= .slice t x none (some ab) none) (aa:∀t,o.dst=some t->t<n) (h:bT aA aY n os s a w) (an:bq s x= .own j) (hk: (ay ah t).k= .dW cd) (ax:bB s.loc j= .row e av es) (bZ: (ay ah cd).size=av) (nt:bq s ab= .v (.int q1 (k:Int))) (hle:k<=es.length)
  (ak:e0 (s.grow j e av (es.take k)) o.dst (.own j) K):o.wp P a w (c8 aA aY n K) Q:=by
 have hu:=jJ aO hk;have wH:=h.bq x;rw[an]at wH;rw[h.loc]at ax;obtain⟨iR,lp⟩:=iM ax (by simp);have kk:=wH.nS lp;subst kk;have lU:=h.bq ab;rw[nt]at lU;have lU:a.eval ab= .int q1 (k:Int):=lU.h2.1;obtain⟨xs,bJ,AQ,ao⟩:=r7 (h.cp _ _ _ lp);have ag: (ay ah cd).size≠0:=by omega
 have yF:xs.length=es.length*av:=bJ.1;have fin:∀ {v':Value},(execOp a.eval o).run P w= .ok (.value v') w->w.ownsRow 0 e av v' (es.take k).length (xs.take (k*av))->(∀b,bs v'=some b->bs (a.eval x)=some b)->o.wp P a w (c8 aA aY n K) Q:=fun {v'} cW qa ae=>by
  refine hB cW ?_;have iv:=h.sub (i:=j) (r:=.aW) (x':=v') (e9:=.row e av (es.take k)) lp (grownBy.rd _ _) (fun b _ b4=>.inl (ae b b4)) (fun aJ H0=> ?_) (fun aJ _=>.bA .aW)
  ·have jr:e0 ⟨mI (pg j .aW) s.env,e1 (mh (iH j .aW) s.loc) j (.row e av (es.take k))⟩ o.dst (.own j) K:=ak;refine c8.put iv aa (.own (e:=e) (av:=av) (es:=es.take k) ?_ (r8 qa)) jr;rw[List.getElem?_set_self (by simpa using(List.getElem?_eq_some_iff.1 lp).1)]
  ·have jq:cT (a8 aA os) (a8 aA aJ) w w:=by
    refine⟨Nat.le_refl _,fun b iO ac=> ?_,fun b iO aS=>rfl⟩;rcases ac with ac| ⟨i,z,aK,ai,c2,b4⟩
    ·exact .inl ac
    ·rw[H0]at ai;by_cases aG:i=j
     ·subst aG;rw[List.getElem?_set_self (by simpa using(List.getElem?_eq_some_iff.1 lp).1)]at ai;cases ai;exact .inr ⟨_,_,_,lp,by simp,ae b b4⟩
     ·rw[List.getElem?_set_ne (fun cd=>aG cd.symm),List.getElem?_map]at ai;cases hR:os[i]? with
      |none=>rw[hR]at ai;cases ai
      |some p=>
       rw[hR]at ai;cases ai;exact .inr ⟨i,_,_,hR,fun e=>c2 (by rw[e];rfl),b4⟩
   exact oG (es:=es.take k) (fun b b4=>yy (h.cp _ _ _ lp) b (ae b b4)) qa AQ ((ao.Xk hle).b9 jq)
 rcases bJ.2 with⟨ac,aH⟩| ⟨g,cap,cur,ac,cR,bp,mq,mr,hC,th⟩
 ·have ti:k=0:=by omega
  subst ti;have gf:=po (P:=P) (w:=w) (Nat.le_refl 0);refine fin (v':=.slice none 0 0) ?_ ⟨by simp,.inl ⟨rfl,by simp⟩⟩ (fun b ae=>by cases ae);simp[execOp,aF,ac,lU,Instr.sliceAt,run_underlying hu,Instr.slice,Instr.sliceBounds,hM aO ag,Instr.sliceBound,asIntOf]
 ·have gf:=po (P:=P) (w:=w) (show k<=cap by omega);have rl: (⟨g,0,none⟩:Addr).add (0*av)= ⟨g,0,none⟩:=by unfold Addr.add;split<;>simp_all
  have cW: (execOp a.eval o).run P w= .ok (.value (.slice (some ⟨g,0,none⟩) k cap)) w:=by
   simp only[execOp,aF,ac,lU,Option.map_some,Option.map_none,Instr.sliceAt,Sem.run_bind,run_underlying hu,Result.andThen_ok,Instr.slice,Instr.sliceBounds,Sem.run_pure,gf,hM aO ag,bZ,rl,ite_self,Nat.sub_zero]
  have OI:k*av<=es.length*av:=Nat.mul_le_mul_right _ hle;have e8: (es.take k).length=k:=by simp;omega
  refine fin cW ⟨by rw[e8,List.length_take,yF];omega,.inr ⟨g,cap,cur,by rw[e8],cR,bp,by rw[e8];omega,mr,hC,?_⟩⟩ (fun b ae=>by rw[ac];exact ae);rw[e8,<-th,List.take_take,Nat.min_eq_left OI]
end
open Go
section
variable {P:Program} {ah:c4} {aA:Nat->Prop} {aY:dP} {n:Nat} {os:cu} {s:bu} {a:Act} {w:World} {o:Oper} {K:bu->Prop} {A:Nat->Prop} {B:Nat}
theorem OJ{f:FuncId}{args:List aj}{et:List Value}{K:aj->bu->Prop}(h:bT aA aY n os s a w)(af:et.length=args.length)(au:∀ (i:Nat) v d,et[i]?=some v->args[i]?=some d->a6 (a8 aA os) os w v d)(ak:Dw P f args s K):
  (∀ (vs:Array Value) (w:World),(callFunc f vs).run P w= .ok (.enter f vs) w)/\Calls P f et.toArray w fun e w'=>∃v r aJ s',e= .returned v/\bT aA aY n aJ s' a w'/\a6 (a8 aA aJ) aJ w' v r/\K r s':=by
 obtain⟨l,⟨ck,r,hle,ho,ak⟩,bQ⟩:=AP (J:=hm (fm args)) h et args af au (fun d j aa ai=>wB aa ai) ak;refine⟨ho.1,(ho.2 _ w et (fun b ae=> ?_) (bQ.le hle)).mono fun e w' he=> ?_⟩
 ·rcases ae with ae| ⟨i,x,aK,ab,aa,_,b4⟩
  ·exact h.yw ae
  ·exact((h.cp i x aK ab).gW aa b4).2
 ·obtain⟨v,rfl,ab,ax⟩:=he;cases uW:fm args with
  |nil=>
   rw[uW]at ak ab;refine⟨v,r,os,s,rfl,h.nq ax,.bA ?_,ak⟩;refine ab.b9 (cT.gk (fun b ae=> ?_));rcases ae with ae| ⟨i,x,aK,ab,aa,b4⟩
   ·exact .inl ae
   ·exact .inr ⟨i,x,aK,ab,aa,by simp[hm],b4⟩
  |cons d ds=>
   rw[uW]at ak ab;simp only at ak;split at ak
   ·rename_i ag;exact⟨v,r,os,s,rfl,h.nq ax,.bA (Ob ag ab),ak⟩
   ·obtain⟨aJ,s',ao,hk,an,_⟩:=tn _ h ak;exact⟨v,r,aJ,s',rfl,ao.nq ax,.bA (ab.b9 (cT.gk an)),hk⟩
theorem wI{f:Operand}{k:FuncId}{b2:List Value}{args:Array Operand}{dL:Array TypeId}(aF:o.op= .call {callee:=.value f,args:=args,argTypes:=dL})(aI:a.eval f= .func (.func k) #[] b2.toArray)
  (al:∀ (vs:Array Value) (w:World),(callFunc k vs).run P w= .ok (.enter k vs) w): (execOp a.eval o).run P w= .ok (.enter k (args.toList.map a.eval++b2).toArray) w:=by
 have: (#[]++args.map a.eval++b2.toArray)=(args.toList.map a.eval++b2).toArray:=by cases args;simp
 simp only[execOp,aF,resolve,aI,Deferred.ofValue,Sem.run_bind,Sem.run_pure,Result.andThen_ok,invoke,al];rw[this]
theorem wJ{vs:List Value}{l:List Operand}{ds b2:List aj}{ρ:Operand->aj}(aa:ds=l.map ρ)(an:∀x∈l,a6 A os w (a.eval x) (ρ x))(af:vs.length=b2.length)(au:∀ (i:Nat) v d,vs[i]?=some v->b2[i]?=some d->a6 A os w v d):
  (l.map a.eval++vs).length=(ds++b2).length/\∀ (i:Nat) v d,(l.map a.eval++vs)[i]?=some v->(ds++b2)[i]?=some d->a6 A os w v d:=by
 subst aa;refine⟨by simp[af],fun i v d ac aa=> ?_⟩;by_cases ab:i<l.length
 ·rw[List.getElem?_append_left (by simpa using ab),List.getElem?_map,List.getElem?_eq_getElem ab]at ac aa;cases ac;cases aa;exact an _ (List.getElem_mem ab)
 ·rw[List.getElem?_append_right (by simpa using ab)]at ac aa;simp only[List.length_map]at ac aa;exact au _ v d ac aa
theorem A3{Q:Exit->Act->World->Prop}{d:aj}(h:bT aA aY n os s a w)(aa:∀t,o.dst=some t->t<n)(ax:∃x,(execOp a.eval o).run P w= .ok (.value x) w/\a6 (a8 aA os) os w x d)(ak:e0 s o.dst d K):o.wp P a w (c8 aA aY n K) Q:=by
 obtain⟨x,cW,ao⟩:=ax;exact hB cW (c8.put h aa ao ak)
theorem Em{d:aj}{Q:aj->Prop}(h:fl d Q):Q d:=gv.1 h
theorem Xl(aO:cS P ah=true){t:TypeId}{x y:Operand}{Q:Exit->Act->World->Prop}(aF:o.op= .store t x y)(h:bT aA aY n os s a w)(aa:∀t,o.dst=some t->t<n)(ag: (ay ah t).size≠0)(ak:Ak ah s o.dst t (bq s x) (bq s y) K):o.wp P a w (c8 aA aY n K) Q:=by
 unfold Ak at ak;have an:=h.bq x;split at ak
 ·rename_i i k off ex;rw[ex]at an;split at ak
  ·rename_i e av es dk af;rw[h.loc]at af;obtain⟨x',ab⟩:=iM af (by simp);obtain⟨g,m,c,rfl,hN⟩:=an.Ay ab;obtain⟨ez,tq,ak⟩:=ak;split at ak
   ·rename_i ae;simp only[Bool.and_eq_true]at ae;exact WN aO aF h aa ag hN ab rfl dk tq (Nat.eq_of_beq_eq_true ae.1) (Nat.le_of_ble_eq_true ae.2) ak
   ·exact ak.elim
  ·exact ak.elim
 ·exact ak.elim
theorem OK(aO:cS P ah=true){t:TypeId}{x y:Operand}{d:aj}{Q:Exit->Act->World->Prop}(aF:o.op= .store t x y)(h:bT aA aY n os s a w)(aa:∀t,o.dst=some t->t<n)(e:bq s y=d)(h1:∀b bD,d≠ .bP b bD)(ad:∀l,d≠ .a1 l)(aC:d≠ .aW)(ak:wg ah s o.dst t x y d K):o.wp P a w (c8 aA aY n K) Q:=by
 unfold wg at ak;have an:=h.bq x;split at ak
 ·exact ak.elim
 ·rename_i ag;split at ak
  ·rename_i i off ex;rw[ex]at an;obtain⟨g,c1,cY,ab,hN⟩:=an.nR;split at ak
   ·rename_i t2 cs af;rw[h.loc]at af;obtain⟨x',cV⟩:=iM af (by simp);rw[ab]at cV;cases cV;split at ak
    ·exact ak.elim
    ·rename_i ae;simp only[Bool.and_eq_true]at ae;exact NV aO aF h aa ag hN ab e h1 ad aC (Nat.eq_of_beq_eq_true ae.1) (Nat.le_of_ble_eq_true ae.2) (sV.1 ak)
   ·exact ak.elim
  ·rename_i i off ex;rw[ex]at an;obtain⟨g,c1,cY,ab,hN⟩:=an.uH;split at ak
   ·rename_i t2 cs af;rw[h.loc]at af;obtain⟨x',cV⟩:=iM af (by simp);rw[ab]at cV;cases cV;split at ak
    ·rename_i ae;exact NV aO aF h aa ag hN ab e h1 ad aC (Nat.eq_of_beq_eq_true ae) ak.1 ak.2
    ·exact ak.elim
   ·exact ak.elim
  ·obtain⟨aJ,s',bb,ak,_,_⟩:=tn _ h ak;exact Xl aO aF bb aa ag (gv.1 ak)
  ·exact ak.elim
theorem Xm(d:Nat){t e:TypeId}{p:Option Addr}{n c:Nat}(h:P.underlying t=some (.slice e)): (Op.equalIn (d+1) t (.slice p n c) (.slice none 0 0)).run P w= .ok p.isNone w:=by
 cases p<;>simp[Op.equalIn,run_underlying h]
theorem OL{t e:TypeId}{p:Option Addr}{n c:Nat}(h:P.underlying t=some (.slice e)): (Op.equal t (.slice p n c) (.slice none 0 0)).run P w= .ok p.isNone w:=Xm 9999 h
theorem OM{op:BinOp}{t:TypeId}{x y:Operand}{p:Option Addr}{n c:Nat}{v:Value}:eqGuard op t x y (.slice p n c) v=pure ():=by cases op<;>rfl
theorem Xn{t e:TypeId}{p:Option Addr}{n c:Nat}(h:P.underlying t=some (.slice e)): (binOp .eql t (.slice p n c) (.slice none 0 0)).run P w= .ok (.bool p.isNone) w:=by
 show (do pure (Value.bool (<-Op.equal t (.slice p n c) (.slice none 0 0))):Sem Value).run P w=_;simp only[Sem.run_bind,OL h,Result.andThen_ok,Sem.run_pure]
theorem Xo{t e:TypeId}{p:Option Addr}{n c:Nat}(h:P.underlying t=some (.slice e)): (binOp .neq t (.slice p n c) (.slice none 0 0)).run P w= .ok (.bool (!p.isNone)) w:=by
 show (do pure (Value.bool (!(<-Op.equal t (.slice p n c) (.slice none 0 0)))):Sem Value).run P w=_;simp only[Sem.run_bind,OL h,Result.andThen_ok,Sem.run_pure]
theorem ON{d:aj}{x:Value}{R:Bool->Prop}(h:bT aA aY n os s a w)(an:a6 (a8 aA os) os w x d)(ak:Dy s.loc d R):∃p m c,x= .slice p m c/\R p.isNone:=by
 unfold Dy at ak;split at ak
 ·have:=an.mo;exact⟨_,_,_,this,ak⟩
 ·have jL:=an.kT;cases jL with
  |aq=>exact⟨_,_,_,rfl,ak.2⟩
  |nil=>exact⟨_,_,_,rfl,ak.1 rfl⟩
 ·split at ak
  ·rename_i j e av es af;rw[h.loc]at af;obtain⟨x',cV⟩:=iM af (by simp);have:=an.nS cV;subst this;obtain⟨_,xs,⟨_,dR⟩,_⟩:=h.cp _ _ _ cV;rcases dR with⟨rfl,aH⟩| ⟨g,cap,cur,rfl,_⟩
   ·exact⟨_,_,_,rfl,ak.1 (List.length_eq_zero_iff.1 aH)⟩
   ·exact⟨_,_,_,rfl,ak.2⟩
  ·exact ak.elim
 ·exact ak.elim
theorem En(aO:cS P ah=true)(aH: (ay ah 0).size=0){Q:Exit->Act->World->Prop}(h:bT aA aY n os s a w)(aa:∀t,o.dst=some t->t<n)(ak:ye ah P o s K):o.wp P a w (c8 aA aY n K) Q:=by
 unfold ye at ak;split at ak
 ·rw[h.loc]at ak;obtain⟨c,d,ak,ax⟩:=AI aO aH h.cp (ρ:=bq s) (a:=a) (fun x _=>h.bq x) ak;obtain⟨al,ak⟩:=nT.1 ak;exact A3 h aa (ax al) ak
 ·split at ak
  ·-- alloc
   rename_i t aF;split at ak
   ·exact ak.elim
   ·rename_i ag;exact Ws aO aF h aa ag ak
  ·-- box
   rename_i t x aF;have ak:=Em ak;split at ak
   ·rename_i cs e;exact NT aF h aa e (by simp) (by simp) (by simp) (sV.1 ak)
   ·exact ak.elim
   ·exact ak.elim
   ·exact ak.elim
   ·rename_i d h1 ad aC bh;have js:cN (bq s x)=[bq s x]:=by
     generalize bq s x=d at *;cases d<;>first|rfl|exact absurd rfl (h1 _)
    refine NT aF h aa rfl (fun b bD e=>ad b bD e) (fun l e=>aC l e) (fun e=>bh e) ?_;rw[js];exact ak
  ·-- store
   rename_i t x y aF;have ak:=Em ak;split at ak
   ·exact ak.elim
   ·exact ak.elim
   ·exact ak.elim
   ·rename_i d h1 ad aC;exact OK aO aF h aa rfl (fun b bD e=>h1 b bD e) (fun l e=>ad l e) (fun e=>aC e) ak
  ·-- buildSlice
   rename_i t m parts aF;split at ak
   ·rename_i e hk;split at ak
    ·rename_i m1 ag ae;have hle:=Nat.le_of_ble_eq_true ae;obtain⟨aJ,s',bb,ak⟩:=Oc _ h ak;exact WL aO aF hk (by omega) hle bb aa ak
    ·exact ak.elim
   ·exact ak.elim
  ·-- makeSlice
   rename_i t l c aF;split at ak
   ·rename_i e hk;split at ak
    ·rename_i m1 uN HL qb se ag el h4;obtain⟨m,N,rfl,rfl,tl,ae,gg,ak⟩:=ak;have af:=h.bq l;have al:=h.bq c;rw[el]at af;rw[h4]at al;exact WF aO aF hk (by omega) h aa af.h2.1 al.h2.1 tl ae gg ak
    ·exact ak.elim
   ·exact ak.elim
  ·-- a cut of a row
   rename_i t x gE ab dF aF;split at ak
   ·rename_i j ex;split at ak
    ·rename_i e av es af;split at ak
     ·rename_i bp;split at ak
      ·rename_i cd hk;split at ak
       ·rename_i ae;have ae:=Nat.eq_of_beq_eq_true ae;obtain⟨k,⟨⟨q1,mP⟩,hle⟩,ak⟩:=ak;exact yP aO aF aa h ex hk af ae mP hle ak
       ·exact ak.elim
      ·exact ak.elim
     ·rw[h.loc]at af;obtain⟨x',cV⟩:=iM af (by simp);obtain⟨bb,_⟩:=h.hZ cV;rw[bb.loc]at ak;obtain⟨c,d,ak,ax⟩:=AI (o:=o) aO aH bb.cp (ρ:=bq (s.hZ j av es)) (a:=a) (fun x _=>bb.bq x) (by rw[aF];exact ak);obtain⟨al,ak⟩:=nT.1 ak;exact A3 bb aa (ax al) ak
    ·exact ak.elim
   ·exact ak.elim
  ·-- a ajW bytes
   rename_i src dst x aF;split at ak
   ·rename_i j ex;split at ak
    ·rename_i e av es af;rw[h.loc]at af;obtain⟨x',cV⟩:=iM af (by simp);obtain⟨bb,_⟩:=h.hZ cV;rw[bb.loc]at ak;obtain⟨c,d,ak,ax⟩:=AI (o:=o) aO aH bb.cp (ρ:=bq (s.hZ j av es)) (a:=a) (fun x _=>bb.bq x) (by rw[aF];exact ak);obtain⟨al,ak⟩:=nT.1 ak;exact A3 bb aa (ax al) ak
    ·exact ak.elim
   ·exact ak.elim
  ·-- a slice ajX nil
   rename_i op t x y u aF;split at ak
   ·rename_i e hk HM;have bt:=h.bq y;rw[HM]at bt;have bt:=bt.mo;have hu:=jJ aO hk;unfold M7 at ak;split at ak
    ·obtain⟨p,m,c,an,ak⟩:=ON h (h.bq x) ak;exact A3 h aa ⟨.bool p.isNone,by
      simp only[execOp,aF,an,bt,OM,Sem.run_bind,Sem.run_pure,Result.andThen_ok];rw[Xn hu];rfl,.bA (.v rfl)⟩ ak
    ·obtain⟨p,m,c,an,ak⟩:=ON h (h.bq x) ak;exact A3 h aa ⟨.bool (!p.isNone),by
      simp only[execOp,aF,an,bt,OM,Sem.run_bind,Sem.run_pure,Result.andThen_ok];rw[Xo hu];rfl,.bA (.v rfl)⟩ ak
    ·exact ak.elim
   ·exact ak.elim
  ·-- append
   rename_i args dL aF;split at ak
   ·rename_i x y t c1 aZ gJ;split at ak
    ·rename_i e jP hk;have jP:=Nat.eq_of_beq_eq_true jP;split at ak
     ·exact ak.elim
     ·rename_i ag;exact N1 aO aF aZ gJ jP hk ag h aa ak
    ·exact ak.elim
   ·exact ak.elim
  ·-- copy
   rename_i args dL aF;split at ak
   ·rename_i x y t c1 aZ gJ;split at ak
    ·rename_i e jP hk;have jP:=Nat.eq_of_beq_eq_true jP;split at ak
     ·exact ak.elim
     ·rename_i ag;exact H8 aO aF aZ gJ jP hk ag h aa ak
    ·exact ak.elim
   ·exact ak.elim
  ·-- a call
   rename_i f args dL aF;split at ak
   ·rename_i k b2 jt;have aI:=h.bq f;rw[jt]at aI;obtain⟨vs,ac,af,au⟩:=aI.p6;have ak:=tc ak;obtain⟨h1,ad⟩:=wJ (l:=args.toList) rfl (fun x _=>h.bq x) af au;have Xp: (∀ (vs:Array Value) (w:World),(callFunc k vs).run P w= .ok (.enter k vs) w)/\Calls P k (args.toList.map a.eval++vs).toArray w fun e w'=>∃v r aJ s',e= .returned v/\bT aA aY n aJ s' a w'/\a6 (a8 aA aJ) aJ w' v r/\e0 s' o.dst r K:=by
     rcases ak with ak|ak
     ·exact OJ h h1 ad ak
     ·exact Xg h h1 ad ak
    obtain⟨al,sf⟩:=Xp;unfold Oper.wp;rw[wI aF ac al];refine sf.mono fun e w' he=> ?_;obtain⟨v,r,aJ,s',rfl,ao,rj,hk⟩:=he;exact c8.put ao aa rj hk
   ·exact ak.elim
  ·exact ak.elim
end
open Go
section
variable {P:Program} {ah:c4} {aA:Nat->Prop} {aY:dP} {n:Nat} {os:cu} {s:bu} {a:Act} {w:World} {o:Oper} {K:bu->Prop} {A:Nat->Prop}
theorem Xq(aO:cS P ah=true){t ty e:TypeId}(hk: (ay ah t).k= .dW e)(ag: (ay ah e).size≠0){g off m c:Nat}{cur:Array Value}{T:TypeId}(ax:w.heap[g]?=some (.cells cur T (0,0)))(eO:off+m* (ay ah e).size<=cur.size)(aT:0<m):
  ∃da:List Value,da.length=m* (ay ah e).size/\(∀v∈da,v.oneCell'=true)/\(Builtin.clear_ #[t] ty #[.slice (some ⟨g,off,none⟩) m c]).run P w= .ok (.tuple #[]) (w.setRow g (cur.toList.take off++da++cur.toList.drop (off+da.length)).toArray):=by
 obtain⟨i,ab,_,_,z,bE,kU,af⟩:=oD aO ag;obtain⟨h1,ad,aC⟩:=q6 (A:=fun _=>False) (w:=w) kU;have hu:=jJ aO hk;have rh: (zeroValue e).run P w= .ok z w:=by simp[zeroValue,typeInfo,ab,bE]
 have bZ:z.cells.size=(ay ah e).size:=by
  have:z.cells.toList.length=(ay ah e).zero.length:=by simpa using h1
  simpa[af]using this
 have eh:0<(ay ah e).size:=Nat.pos_of_ne_zero ag;have jO: (Builtin.zeroCells z.cells m).toList.length=m* (ay ah e).size:=by simp[Builtin.zeroCells,bZ]
 have bf:∀v∈ (Builtin.zeroCells z.cells m).toList,v.oneCell'=true:=by
  intro v ac;simp only[Builtin.zeroCells,Array.toList_map,List.mem_map]at ac;obtain⟨i,_,rfl⟩:=ac;have ap:i%z.cells.size<z.cells.size:=Nat.mod_lt _ (by omega);rw[getElem!_pos z.cells _ ap];exact ad _ (by simp)
 refine⟨(Builtin.zeroCells z.cells m).toList,jO,bf,?_⟩;have bM:=run_storeCells_at P g off T (Builtin.zeroCells z.cells m).toList 0 cur w ax (by rw[jO];omega) bf;simp only[Nat.add_zero]at bM;obtain⟨m,rfl⟩:∃dM,m=dM+1:=⟨m-1,by omega⟩
 simp[Builtin.clear_,run_underlying hu,rh,bM]
theorem OO(aO:cS P ah=true){t ty e:TypeId}(hk: (ay ah t).k= .dW e){b3:Option Addr}{c:Nat}: (Builtin.clear_ #[t] ty #[.slice b3 0 c]).run P w= .ok (.tuple #[]) w:=by
 have hu:=jJ aO hk;cases b3<;>simp[Builtin.clear_,run_underlying hu]
theorem fW.cut{cells cells':List Value}{es:List (List aj)}{av k:Nat}(h:fW A w cells es av)(hk:k<=es.length)(hlen:cells'.length=cells.length)(bf:∀v∈cells',v.oneCell'=true)(al:∀j,j<k*av->cells'[j]?=cells[j]?):
  fW A w cells' (es.take k++List.replicate (es.length-k) (List.replicate av .aW)) av:=by
 refine⟨?_,fun r ao=> ?_,bf,fun dv j r d fi ai=> ?_⟩
 ·rw[hlen,h.len];simp;rw[show min k es.length+(es.length-k)=es.length by omega]
 ·rcases List.mem_append.1 ao with ao|ao
  ·exact h.hK r (List.mem_of_mem_take ao)
  ·rw[List.eq_of_mem_replicate ao];simp
 ·by_cases ap:dv<k
  ·rw[List.getElem?_append_left (by simp;omega),List.getElem?_take,if_pos ap]at fi;have fp:=h.hK _ (List.mem_of_getElem? fi);have fX:=(List.getElem?_eq_some_iff.1 ai).1;rw[al _ (by
    have: (dv+1) *av<=k*av:=Nat.mul_le_mul_right _ (by omega);rw[Nat.add_mul]at this;omega)]
   exact h.gw dv j r d fi ai
  ·have e8:=(List.getElem?_eq_some_iff.1 fi).1;rw[List.getElem?_append_right (by simp;omega)]at fi;have aT:=List.mem_of_getElem? fi;have ao:=List.eq_of_mem_replicate aT;subst ao;have fX:=(List.getElem?_eq_some_iff.1 ai).1;have aa:=List.eq_of_mem_replicate (List.mem_of_getElem? ai);subst aa;simp at fX e8;have:dv*av+j<cells'.length:=by
    rw[hlen,h.len];have: (dv+1) *av<=es.length*av:=Nat.mul_le_mul_right _ (by omega);rw[Nat.add_mul]at this;omega
   exact⟨cells'[dv*av+j],List.getElem?_eq_getElem this,.aW⟩
theorem Xr(aO:cS P ah=true){t e cd:TypeId}{x gE:Operand}{d1:Tmp}{eI:Oper}{args:Array Operand}{dL:Array TypeId}{j k av:Nat}{es:List (List aj)}{q1:IntKind}{Q:Exit->Act->World->Prop}
  (aF:o.op= .slice t x (some gE) none none) (sd:o.dst=some d1) (sg:d1<n) (nz:eI.op= .call {callee:=.builtin .clear,args:=args,argTypes:=dL}) (aZ:args.toList=[.tmp d1]) (gJ:dL.toList=[t]) (Eo:eI.dst=none)
  (h:bT aA aY n os s a w) (an:bq s x= .own j) (hk: (ay ah t).k= .dW cd) (ax:bB s.loc j= .row e av es) (bZ: (ay ah cd).size=av) (mP:bq s gE= .v (.int q1 (k:Int))) (hle:k<=es.length)
  (ak:K ⟨(d1,.aW)::s.env,e1 s.loc j (.row e av (es.take k++List.replicate (es.length-k) (List.replicate av .aW)))⟩):
  o.wp P a w (fun dl eJ=>eI.wp P dl eJ (c8 aA aY n K) Q) Q:=by
 have hu:=jJ aO hk;have wH:=h.bq x;rw[an]at wH;rw[h.loc]at ax;obtain⟨iR,ab⟩:=iM ax (by simp);have kk:=wH.nS ab;subst kk;have lU:=h.bq gE;rw[mP]at lU;have lU:a.eval gE= .int q1 (k:Int):=lU.h2.1;obtain⟨xs,bJ,AQ,ao⟩:=r7 (h.cp _ _ _ ab);have ag: (ay ah cd).size≠0:=by omega
 have wt:d1<a.tmps.size:=by rw[h.size];exact sg
 have Xs:∀kG:Value,(a.put o.dst kG).eval (.tmp d1)=kG:=fun kG=>by
  rw[sd];show (a.put (some d1) kG).tmps.getD d1 undef=kG;rw[NK wt,if_pos rfl]
 obtain rfl:args= #[.tmp d1]:=by cases args;simp at aZ;simp[aZ]
 obtain rfl:dL= #[t]:=by cases dL;simp at gJ;simp[gJ]
 have A4:∀ {kG r:Value} {w':World},(Builtin.clear_ #[t] eI.type #[kG]).run P w= .ok r w'->(execOp (a.put o.dst kG).eval eI).run P w= .ok (.value r) w':=fun {kG r w'} ao=>by
  simp only[execOp,nz,resolve,invoke,builtin,Sem.run_bind,Sem.run_pure,Result.andThen_ok,List.map_toArray,List.map_cons,List.map_nil,Xs kG,ao]
 have Ep:∀kG:Value,bT aA aY n os ⟨(d1,.aW)::s.env,s.loc⟩ (a.put o.dst kG) w:=fun kG=>by
  rw[sd];exact h.put (dst:=some d1) (fun t bW=>by cases bW;exact sg) (.bA .aW)
 have wo:es.length-k=0->e1 s.loc j (.row e av (es.take k++List.replicate (es.length-k) (List.replicate av .aW)))=s.loc:=fun aH=>by
  have Xt:es.take k=es:=List.take_of_length_le (by omega);rw[aH,Xt];simp only[List.replicate_zero,List.append_nil];rw[kj,h.loc];refine List.ext_getElem? fun i=> ?_;by_cases aG:j=i
  ·subst aG;have ap:=(List.getElem?_eq_some_iff.1 ab).1;rw[List.getElem?_set_self (by simpa using ap),List.getElem?_map,ab];rfl
  ·rw[List.getElem?_set_ne aG]
 have idle:∀ {kG:Value},es.length-k=0->(execOp a.eval o).run P w= .ok (.value kG) w->(Builtin.clear_ #[t] eI.type #[kG]).run P w= .ok (.tuple #[]) w->o.wp P a w (fun dl eJ=>eI.wp P dl eJ (c8 aA aY n K) Q) Q:=fun {kG} aH h1 ad=>by
  refine hB h1 (hB (A4 ad) ?_);rw[Eo];refine⟨os,_,Ep kG,?_⟩;rw[<-wo aH];exact ak
 rcases bJ.2 with⟨ac,aH⟩| ⟨g,cap,cur,ac,cR,bp,mq,mr,hC,th⟩
 ·have ti:k=0:=by omega
  subst ti;have gf:=po (P:=P) (w:=w) (Nat.le_refl 0);refine idle (kG:=.slice none 0 0) (by omega) ?_ (OO aO hk);simp[execOp,aF,ac,lU,Instr.sliceAt,run_underlying hu,Instr.slice,Instr.sliceBounds,hM aO ag,Instr.sliceBound,asIntOf]
 ·have gf:=po (P:=P) (w:=w) hle;have cW: (execOp a.eval o).run P w= .ok (.value (.slice (if cap=k then some ⟨g,0,none⟩else some ((⟨g,0,none⟩:Addr).add (k*av))) (es.length-k) (cap-k))) w:=by
   simp only[execOp,aF,ac,lU,Option.map_some,Option.map_none,Instr.sliceAt,Sem.run_bind,run_underlying hu,Result.andThen_ok,Instr.slice,Instr.sliceBounds,Sem.run_pure,gf,hM aO ag,bZ]
  by_cases lR:es.length-k=0
  ·rw[lR]at cW;exact idle lR cW (OO aO hk)
  ·have rl: (⟨g,0,none⟩:Addr).add (k*av)= ⟨g,k*av,none⟩:=by unfold Addr.add;split<;>simp_all
   rw[if_neg (by omega),rl]at cW;have eO:k*av+(es.length-k) * (ay ah cd).size<=cur.size:=by
    rw[bZ,<-Nat.add_mul,show k+(es.length-k)=es.length by omega,hC];exact Nat.mul_le_mul_right _ mq
   obtain⟨da,jO,kU,fU⟩:=Xq aO (ty:=eI.type) (c:=cap-k) hk ag bp eO (by omega);rw[bZ]at jO;refine hB cW (hB (A4 fU) ?_);rw[Eo];have h1:=Ep (.slice (some ⟨g,k*av,none⟩) (es.length-k) (cap-k));have gK:w.grownBy (w.setRow g (cur.toList.take (k*av)++da++cur.toList.drop (k*av+da.length)).toArray) (bs (a.eval x)):=by rw[ac];exact DZ
   have tg:k*av+da.length<=cur.toList.length:=by
    rw[jO];rw[bZ]at eO;simpa using eO
   have yF:xs.length=es.length*av:=bJ.1;have jq:=Eb (aA:=aA) (e9:=.row e av (es.take k++List.replicate (es.length-k) (List.replicate av .aW))) ab (by simp) gK;have Er:=ao.cut (cells':=xs.take (k*av)++da) hle (by
    rw[List.length_append,List.length_take,jO,yF,Nat.sub_mul];have:k*av<=es.length*av:=Nat.mul_le_mul_right _ hle;omega) (fun v ac=>by
    rcases List.mem_append.1 ac with ac|ac
    ·exact ao.dD v (List.mem_of_mem_take ac)
    ·exact kU v ac) (fun j ai=>by
    rw[List.getElem?_append_left (by rw[List.length_take,yF];have:k*av<=es.length*av:=Nat.mul_le_mul_right _ hle;omega),List.getElem?_take,if_pos ai])
   refine⟨_,_,h1.AK ab (e9:=.row e av (es.take k++List.replicate (es.length-k) (List.replicate av .aW))) ⟨rfl,rfl⟩ (by simp) (by simp) gK ?_,ak⟩;have lQ: (es.take k++List.replicate (es.length-k) (List.replicate av aj.aW)).length=es.length:=by simp;omega
   refine oG (H:=aY) (yy (h.cp _ _ _ ab)) (xs:=xs.take (k*av)++da) ⟨by rw[Er.len],.inr ⟨g,cap,_,by rw[lQ];exact ac,cR,setRow_heap w g cur _ e _ bp,by rw[lQ];exact mq,mr,?_,?_⟩⟩ AQ (Er.b9 jq)
   ·rw[List.size_toArray,D0 tg];simpa using hC
   ·rw[lQ];apply List.ext_getElem?;intro i;have OI:k*av<=es.length*av:=Nat.mul_le_mul_right _ hle;have ajY:da.length=es.length*av-k*av:=by rw[jO,Nat.sub_mul]
    have kp: (xs.take (k*av)).length=k*av:=by rw[List.length_take,yF];omega
    have kV:∀i,i<es.length*av->xs[i]?=cur.toList[i]?:=by
     intro i ab;rw[<-th,List.getElem?_take,if_pos ab]
    rw[List.getElem?_take];split
    ·rename_i gX;simp only[];rw[yx tg];by_cases dX:i<k*av
     ·rw[if_neg (by omega),List.getElem?_append_left (by omega),List.getElem?_take,if_pos dX];exact(kV i gX).symm
     ·rw[if_pos ⟨by omega,by omega⟩,List.getElem?_append_right (by omega),kp]
    ·rename_i gX;rw[List.getElem?_eq_none];rw[List.length_append,kp];omega
end
open Go
section
variable {P:Program} {ah:c4} {aA:Nat->Prop} {aY:dP} {n:Nat} {os:cu} {s:bu} {a:Act} {w:World} {o:Oper} {K:bu->Prop} {A:Nat->Prop} {B:Nat} {ρ:Operand->aj} {loc:List aU} {Q:Option Prop->aj->Prop}
theorem OP{d:aj}{c:aj->Option Prop}(h:fl d fun d=>Q (c d) d):∃c d,Q c d:=⟨c d,d,(gv (K:=fun d=>Q (c d) d)).1 h⟩
theorem Es{agg:Bool}{size:Nat}{l:List aj}{R:aj->Prop}(h:kg agg size l R):∃d,R d:=by
 unfold kg at h;split at h
 ·exact⟨_,(Av h).2⟩
 ·split at h
  ·exact⟨_,gv.1 h⟩
  ·exact h.elim
theorem Il{place:Nat->Nat×Nat}{R:List aj->Prop}:∀ {parts:List (Nat×Operand)} {cs:List aj},oy ρ place parts cs R->∃l,R l
 | [],cs,h=>⟨cs,h⟩
 | (i,x)::r,cs,h=>by
  have h:=gv.1 h;split at h
  ·exact h.elim
  ·exact h.elim
  ·exact h.elim
  ·split at h
   ·exact Il (sV.1 h)
   ·exact h.elim
theorem Et{b:Bool}{d:aj}{R:Option Prop->aj->Prop}(h:pZ b d R):∃c d,R c d:=by
 unfold pZ at h;split at h<;>exact⟨_,_,h⟩
theorem Xu{c x y:Operand}(h:v2 ρ c x y Q):∃c d,Q c d:=by
 unfold v2 at h;split at h
 ·obtain⟨dX,x',h⟩:=Et h;obtain⟨de,nU,h⟩:=Et h;obtain⟨_,_,_,_,_,h,_⟩:=DP (gv.1 (gv.1 h));exact⟨_,_,h⟩
 ·exact h.elim
theorem Xv{t:TypeId}{op:BinOp}{x y:aj}(h:x0 ah t op x y Q):∃c d,Q c d:=by
 unfold x0 at h;split at h
 ·split at h
  ·unfold Ae at h;split at h<;>first|exact h.elim|exact⟨_,_,h⟩
  ·split at h
   ·unfold Ad at h;split at h<;>first|exact h.elim|exact⟨_,_,h⟩
   ·exact h.elim
 ·unfold Dq at h;split at h<;>first|exact h.elim|exact⟨_,_,h⟩
 ·split at h
  ·unfold Af at h;split at h<;>first|exact h.elim|exact⟨_,_,h⟩
  ·exact h.elim
 ·unfold xZ at h;split at h
  ·split at h
   ·obtain⟨_,_,_,_,_,_,h⟩:=DR h;exact⟨_,_,h⟩
   ·obtain⟨_,_,_,_,_,_,h⟩:=DR h;exact⟨_,_,h⟩
   ·exact h.elim
  ·exact h.elim
 ·exact h.elim
theorem OQ{op:Op}(h:lG ah loc op ρ Q):∃c d,Q c d:=by
 unfold lG at h;split at h
 ·exact⟨_,_,gv.1 h⟩
 ·exact⟨_,_,gv.1 h⟩
 ·exact Xu h
 ·unfold sY at h;split at h<;>first|exact h.elim|exact⟨_,_,h⟩| (split at h<;>first|exact h.elim|exact⟨_,_,h⟩)
 ·exact Xv h
 ·unfold x1 at h;split at h<;>first|exact h.elim|exact⟨_,_,h⟩
 ·unfold x2 at h;split at h
  ·exact⟨_,_,h⟩
  ·exact⟨_,_,h⟩
  ·split at h
   ·obtain⟨_,h⟩:=h;exact⟨_,_,h⟩
   ·exact h.elim
  ·exact h.elim
 ·unfold sZ at h;split at h
  ·split at h
   ·exact h.elim
   ·split at h
    ·exact⟨_,_,h⟩
    ·exact⟨_,_,h⟩
    ·split at h<;>first|exact h.elim|exact⟨_,_,h⟩
    ·exact⟨_,_,(oC h).2⟩
    ·exact h.elim
  ·exact h.elim
 ·unfold x3 at h;split at h
  ·split at h
   ·exact h.elim
   ·split at h
    ·obtain⟨_,h⟩:=Es (oC h).2;exact⟨_,_,h⟩
    ·exact h.elim
  ·exact h.elim
 ·unfold s0 at h;split at h
  ·split at h
   ·exact h.elim
   ·unfold v7 at h;split at h
    ·split at h
     ·obtain⟨_,_,h⟩:=h;exact⟨_,_,h⟩
     ·exact h.elim
    ·split at h
     ·split at h
      ·obtain⟨_,h⟩:=h;exact⟨_,_,h⟩
      ·exact h.elim
     ·exact h.elim
    ·exact h.elim
  ·split at h
   ·exact h.elim
   ·unfold x4 at h;split at h
    ·split at h<;>first|exact h.elim|exact⟨_,_,h⟩
    ·split at h
     ·obtain⟨_,h⟩:=h;exact⟨_,_,h⟩
     ·obtain⟨_,h⟩:=h;exact⟨_,_,h⟩
     ·exact h.elim
  ·exact h.elim
 ·unfold x5 at h;split at h
  ·split at h
   ·obtain⟨_,h⟩:=h;exact⟨_,_,h⟩
   ·split at h
    ·obtain⟨_,_,h⟩:=h;exact OP h
    ·exact h.elim
   ·exact h.elim
  ·exact h.elim
 ·unfold qW at h;split at h
  ·exact h.elim
  ·split at h
   ·obtain⟨_,h⟩:=Es h;exact⟨_,_,h⟩
   ·split at h
    ·obtain⟨_,h⟩:=Es (oC h).2;exact⟨_,_,h⟩
    ·exact h.elim
   ·split at h
    ·split at h
     ·obtain⟨_,h⟩:=h;exact⟨_,_,h⟩
     ·obtain⟨_,h⟩:=h;exact OP h
    ·exact h.elim
   ·split at h
    ·obtain⟨_,h⟩:=h;obtain⟨_,h⟩:=Es (oC h).2;exact⟨_,_,h⟩
    ·exact h.elim
   ·exact h.elim
 ·unfold x6 at h;split at h
  ·have h:=(oC h).2;split at h
   ·exact⟨_,_,gv.1 h⟩
   ·exact h.elim
  ·exact h.elim
 ·unfold x7 at h;split at h
  ·split at h
   ·obtain⟨_,_,h⟩:=h;exact⟨_,_,h⟩
   ·exact h.elim
  ·split at h<;>first|exact h.elim|exact⟨_,_,h⟩
  ·split at h
   ·exact h.elim
   ·exact h.elim
   ·split at h
    ·obtain⟨_,h⟩:=h;exact⟨_,_,h⟩
    ·obtain⟨_,_,h⟩:=h;exact⟨_,_,h⟩
    ·obtain⟨_,_,h⟩:=h;exact⟨_,_,h⟩
    ·exact h.elim
  ·exact h.elim
 ·split at h
  ·have h:=tc h;split at h
   ·exact⟨_,_,h⟩
   ·exact h.elim
  ·exact h.elim
 ·unfold x9 at h;split at h
  ·split at h
   ·obtain⟨_,h⟩:=Il h;exact⟨_,_,h⟩
   ·exact h.elim
  ·split at h
   ·obtain⟨_,h⟩:=Il h;exact⟨_,_,h⟩
   ·exact h.elim
  ·exact h.elim
 ·split at h
  ·unfold rR at h;split at h
   ·split at h
    ·exact⟨_,_,h⟩
    ·exact⟨_,_,h⟩
    ·split at h<;>first|exact h.elim|exact⟨_,_,h⟩
    ·exact h.elim
   ·split at h<;>first|exact h.elim|exact⟨_,_,h⟩
   ·exact⟨_,_,h⟩
   ·exact h.elim
  ·exact h.elim
 ·split at h
  ·unfold v8 at h;split at h<;>first|exact h.elim|exact⟨_,_,h⟩
  ·exact h.elim
 ·split at h
  ·unfold wa at h;split at h<;>first|exact h.elim|exact⟨_,_,h⟩
  ·exact h.elim
 ·exact h.elim
theorem Xw{d:aj}{R:aj->Prop}(h:rS loc d R):∃d,R d:=by
 unfold rS at h;split at h
 ·split at h
  ·split at h
   ·exact⟨_,h⟩
   ·exact h.elim
  ·exact h.elim
 ·exact⟨_,h⟩
theorem OR:∀ {ds:List aj} {R:List aj->Prop},uv loc ds R->∃l,R l
 | [],R,h=>⟨_,h⟩
 |d::r,R,h=>by
  obtain⟨_,h⟩:=Xw h;obtain⟨_,h⟩:=OR h;exact⟨_,h⟩
theorem OS{d:aj}{R:aj->Prop}(h:lH loc d R):∃d,R d:=by
 unfold lH at h;split at h
 ·split at h
  ·exact⟨_,h⟩
  ·exact h.elim
 ·split at h
  ·split at h
   ·exact⟨_,h⟩
   ·exact h.elim
  ·exact h.elim
 ·obtain⟨_,h⟩:=OR h;exact⟨_,h⟩
 all_goals first|exact h.elim|exact⟨_,h⟩
theorem OT:∀ {ds:List aj} {R:List aj->Prop},yb loc ds R->∃l,R l
 | [],R,h=>⟨_,h⟩
 |d::r,R,h=>by
  obtain⟨_,h⟩:=OS h;obtain⟨_,h⟩:=OT h;exact⟨_,h⟩
theorem Xx{d:aj}{R:aj->Prop}(h:qX loc d R):∃d,R d:=by
 unfold qX at h;split at h
 ·obtain⟨_,h⟩:=OT h;exact⟨_,h⟩
 ·rename_i ds;revert h;cases ds.any kh<;>intro h
  ·exact⟨_,h⟩
  ·exact h.elim
 ·exact OS h
theorem Im:∀ {ds:List aj} {R:List aj->Prop},p1 loc ds R->∃l,R l
 | [],R,h=>⟨_,h⟩
 |d::r,R,h=>by
  obtain⟨_,h⟩:=Xx h;obtain⟨_,h⟩:=Im h;exact⟨_,h⟩
theorem A5{g:Bool}:∀ {l:List Operand} {R:Option Prop->Prop},mL g s l R->∃c,R c
 | [],R,h=>⟨_,h⟩
 |x::r,R,h=>by
  unfold mL at h;split at h
  ·obtain⟨_,h⟩:=A5 h;exact⟨_,h⟩
  ·exact A5 h
theorem A6{g:Bool}(h:bT aA aY n os s a w):∀ {l:List Operand} {R:Option Prop->Prop},mL g s l R->∃c,R c/\(Holds c->g=true->∀x∈l,a6 (a8 aA os) os w (a.eval x) (hz s x))
 | [],R,b1=>⟨_,b1,fun _ _ x an=>by simp at an⟩
 |x::r,R,b1=>by
  unfold mL at b1;have an:=h.bq x;split at b1
  ·rename_i c5 d e;obtain⟨c,b1,al⟩:=A6 h b1;refine⟨_,b1,fun bp ax y bt=> ?_⟩;obtain⟨h1,ad⟩:=Holds.andO.1 bp;rcases List.mem_cons.1 bt with rfl|bt
   ·unfold hz;rw[e]at an⊢;exact an.uG.1 (Holds.h3.1 h1 ax)
   ·exact al ad ax y bt
  ·rename_i tp;obtain⟨c,b1,al⟩:=A6 h b1;refine⟨_,b1,fun bp ax y bt=> ?_⟩;rcases List.mem_cons.1 bt with rfl|bt
   ·have:hz s y=bq s y:=by
     unfold hz;generalize bq s y=d at tp;cases d<;>first|rfl|exact absurd rfl (tp _ _)
    rw[this];exact an
   ·exact al bp ax y bt
theorem uX{g:Bool}(ax:g=true){K:bu->Prop}:∀ {l:List Operand} {s:bu},bT aA aY n os s a w->mM g l s K->∃s',bT aA aY n os s' a w/\K s'
 | [],s,h,ak=>⟨s,h,ak⟩
 | .tmp t::r,s,h,ak=>by
  unfold mM at ak;split at ak
  ·rename_i c5 d e;have an:=h.env t;rw[e]at an;have aa:=an.uG.1 (ak.1 ax);refine uX ax (s:=⟨(t,d)::s.env,s.loc⟩) ⟨h.size,h.defers,h.fH,h.a0,h.loc,fun c1=> ?_,h.cp,h.inj⟩ ak.2;simp only[look];split
   ·rename_i bW;first
     | (subst bW;exact aa)
     | (rw[show c1=t from by simpa using bW];exact aa)
     | (rw[<-show t=c1 from by simpa using bW];exact aa)
   ·exact h.env c1
  ·exact uX ax h ak
 | .const v::r,s,h,ak=>uX ax (l:=r) h (by unfold mM at ak;exact ak)
 | .global v::r,s,h,ak=>uX ax (l:=r) h (by unfold mM at ak;exact ak)
 | .func v::r,s,h,ak=>uX ax (l:=r) h (by unfold mM at ak;exact ak)
theorem Xy(aO:cS P ah=true)(aH: (ay ah 0).size=0){E:Exit->Act->World->Prop}(h:bT aA aY n os s a w)(aa:∀t,o.dst=some t->t<n)(ak:Al ah P o true s K):o.wp P a w (c8 aA aY n K) E:=by
 unfold Al at ak;split at ak
 ·obtain⟨h0,ak,qf⟩:=A6 h ak;rw[h.loc]at ak;obtain⟨_,_,Io⟩:=OQ ak;have bp:=Holds.andO.1 (nT.1 Io).1;obtain⟨c,d,ak,ax⟩:=AI aO aH h.cp (ρ:=hz s) (a:=a) (qf bp.1 rfl) ak;obtain⟨al,ak⟩:=nT.1 ak;have ko:Holds c:=by
   have:=(Holds.andO.1 al).2;cases c with
   |none=>exact Holds.HH
   |some p=>exact Holds.h3.2 (Holds.h3.1 this rfl)
  obtain⟨x,cW,ao⟩:=ax ko;exact hB cW (c8.put h aa (.bP (fun _=>ao) (fun e=>by cases e)) ak)
 ·split at ak
  ·rename_i f args dL aF;split at ak
   ·rename_i k b2 jt;split at ak
    ·obtain⟨h0,ak,qf⟩:=A6 h ak;have ak:=tc ak;have bp:Holds h0:=by
      obtain⟨iY,_,_,_,_,aS⟩:=Im ak;exact(nT.1 aS).1
     have lV:=qf bp rfl;have aI:=lV f (by rw[aF];simp[Op.operands,Call.operands]);rw[jt]at aI;obtain⟨vs,ac,af,au⟩:=aI.p6;obtain⟨h1,ad⟩:=wJ (os:=os) (A:=a8 aA os) (w:=w) (a:=a) (l:=args.toList) (ρ:=hz s) rfl (fun x an=>lV x (by rw[aF];simp only[Op.operands,Call.operands];simp only[Array.toList_append,List.mem_append];exact .inr an)) af au;obtain⟨iY,⟨ck,r,hle,ho,ak⟩,bQ⟩:=AP (J:=hm (fm (args.toList.map (hz s)++b2))) h _ _ h1 ad (fun d j aa ai=>wB aa ai) ak;have ho:=ho rfl;have ak:=(nT.1 ak).2;have A7: (match fm (args.toList.map (hz s)++b2)with
       | []=>e0 s o.dst (.bP true r) K
       |_=>match s3 r with
        |true=>e0 s o.dst (.bP true r) K
        |false=>False)->o.wp P a w (c8 aA aY n K) E:=fun ak=>by
      unfold Oper.wp;rw[wI aF ac ho.1];refine(ho.2 _ w _ (fun b ae=> ?_) (bQ.le hle)).mono fun e w' he=> ?_
      ·rcases ae with ae| ⟨i,x,aK,ab,aa,_,b4⟩
       ·exact h.yw ae
       ·exact((h.cp i x aK ab).gW aa b4).2
      ·obtain⟨v,rfl,ab,ax⟩:=he;cases uW:fm (args.toList.map (hz s)++b2)with
       |nil=>
        rw[uW]at ak ab;refine c8.put (h.nq ax) aa (.bP (fun _=>.bA (ab.b9 (cT.gk (fun b ae=> ?_)))) (fun e=>by cases e)) ak;rcases ae with ae| ⟨i,x,aK,ab,aa,b4⟩
        ·exact .inl ae
        ·exact .inr ⟨i,x,aK,ab,aa,by simp[hm],b4⟩
       |cons d ds=>
        rw[uW]at ak ab;simp only at ak;split at ak
        ·rename_i ag;exact c8.put (h.nq ax) aa (.bP (fun _=>.bA (Ob ag ab)) (fun e=>by cases e)) ak
        ·exact ak.elim
     cases uW:fm (args.toList.map (hz s)++b2)with
     |nil=>rw[uW]at ak A7;exact A7 ak
     |cons d ds=>
      rw[uW]at ak A7;cases ag:s3 r with
      |true=>simp only[ag]at ak A7;exact A7 ak
      |false=>
       simp only[ag]at ak;obtain⟨s',bb,jr⟩:=uX rfl h (ak.1 trivial);exact En aO aH bb aa jr
    ·obtain⟨s',bb,jr⟩:=uX rfl h (ak.1 rfl);exact En aO aH bb aa jr
   ·exact ak.elim
  ·obtain⟨s',bb,jr⟩:=uX rfl h (ak.1 rfl);exact En aO aH bb aa jr
theorem Xz{g:Bool}(h:bT aA aY n os s a w)(ax:g=false)(aa:∀t,o.dst=some t->t<n)(ak:Al ah P o g s K):c8 aA aY n K (a.put o.dst undef) w:=by
 subst ax;have gone:∀ {d:aj},e0 s o.dst (.bP false d) K->c8 aA aY n K (a.put o.dst undef) w:=fun ak=>c8.put h aa AM ak;unfold Al at ak;split at ak
 ·obtain⟨_,ak⟩:=A5 ak;obtain⟨_,_,ak⟩:=OQ ak;exact gone (nT.1 ak).2
 ·split at ak
  ·split at ak
   ·split at ak
    ·obtain⟨_,ak⟩:=A5 ak;obtain⟨iY,ck,r,_,_,ak⟩:=Im (tc ak);have ak:=(nT.1 ak).2;split at ak
     ·exact gone ak
     ·split at ak
      ·exact gone ak
      ·exact gone (ak.2 rfl)
    ·exact gone (ak.2 rfl)
   ·exact ak.elim
  ·exact gone (ak.2 rfl)
theorem XA{g:Bool}{c x y:Operand}(h:uz s g c x y Q):∃c d,Q c d:=by
 unfold uz at h;obtain⟨_,h⟩:=A5 h;split at h
 ·obtain⟨dX,x',h⟩:=Et h;obtain⟨de,nU,h⟩:=Et h;obtain⟨_,_,_,_,_,h,_⟩:=DP (gv.1 (gv.1 h));exact⟨_,_,h⟩
 ·exact h.elim
theorem OU{c x y:Operand}(aF:o.op= .pick c x y)(wK:∀ {R:Option Prop->Prop},mL true s [c] R->∃h0,R h0/\(Holds h0->a6 A os w (a.eval c) (hz s c)))
  (an:a6 A os w (a.eval x) (bq s x)) (bt:a6 A os w (a.eval y) (bq s y)) (h:uz s true c x y Q):jo P A os w a o Q:=by
 unfold uz at h;obtain⟨h0,h,al⟩:=wK h;split at h
 ·rename_i t HI;obtain⟨dX,x',h,cx⟩:=DO (A:=A) (os:=os) (w:=w) h;obtain⟨de,nU,h,cM⟩:=DO (A:=A) (os:=os) (w:=w) h;obtain⟨p,q,r,az,aG,h,ao⟩:=DP (gv.1 (gv.1 h));refine⟨_,_,h,fun bp=> ?_⟩;obtain⟨qf,bp⟩:=Holds.andO.1 bp;obtain⟨pn,q7⟩:=Holds.andO.1 bp;have h4:=al qf;rw[HI]at h4;have h4:=h4.h2.1;have hN:t=true->a.eval x= .bool p:=fun bW=>by have:=cx _ pn (by simp[bW]) an;rw[az]at this;exact this.h2.1
  have gd:t=false->a.eval y= .bool q:=fun bW=>by have:=cM _ q7 (by simp[bW]) bt;rw[aG]at this;exact this.h2.1
  have iZ:=ao (fun hk bW=>by
   have:=hN bW;rw[Ns hk]at this;injection this with this;exact this.symm) (fun hk bW=>by
   have:=gd bW;rw[Nt hk]at this;injection this with this;exact this.symm)
  refine⟨.bool r,?_,.bA (.v rfl)⟩;simp only[execOp,aF,h4,asBool,Sem.run_bind,Sem.run_pure,Result.andThen_ok];rw[iZ];cases t
  ·simp[gd rfl]
  ·simp[hN rfl]
 ·exact h.elim
theorem OV(aO:cS P ah=true)(aH: (ay ah 0).size=0){E:Exit->Act->World->Prop}(h:bT aA aY n os s a w)(aa:∀t,o.dst=some t->t<n)(ak:yf ah P o true s K):o.wp P a w (c8 aA aY n K) E:=by
 unfold yf at ak;split at ak
 ·rename_i c x y aF;obtain⟨c,d,ak,ax⟩:=OU (P:=P) (A:=a8 aA os) (os:=os) (w:=w) (a:=a) aF (fun b1=>by
   obtain⟨h0,b1,bp⟩:=A6 h b1;exact⟨h0,b1,fun al=>bp al rfl _ (by simp)⟩) (h.bq x) (h.bq y) ak
  obtain⟨al,ak⟩:=nT.1 ak;obtain⟨x,cW,ao⟩:=ax al;exact hB cW (c8.put h aa (.bP (fun _=>ao) (fun e=>by cases e)) ak)
 ·exact Xy aO aH h aa ak
theorem Ip{g:Bool}(h:bT aA aY n os s a w)(ax:g=false)(aa:∀t,o.dst=some t->t<n)(ak:yf ah P o g s K):c8 aA aY n K (a.put o.dst undef) w:=by
 unfold yf at ak;split at ak
 ·obtain⟨_,_,ak⟩:=XA ak;subst ax;exact c8.put h aa AM (nT.1 ak).2
 ·exact Xz h ax aa ak
def wL(n:Nat)(o:Oper):Bool:=
 match o.dst with
 |some t=>Nat.blt t n
 |none=>true
theorem Iq(h:wL n o=true):∀t,o.dst=some t->t<n:=by
 intro t e;unfold wL at h;rw[e]at h;exact Nat.le_of_ble_eq_true h
theorem Eu{b want:Bool}{R:Bool->Prop}:Am b want R↔R (if want then b else !b):=by cases want<;>exact Iff.rfl
theorem Ir{E:Exit->Act->World->Prop}{o:Oper}{a:Act}{w:World}{next next':Act->World->Prop}(aS:∀a w,next a w->next' a w)(oK:o.wp P a w next E):o.wp P a w next' E:=by
 unfold Oper.wp at oK⊢;unfold Oper.upon at oK⊢;split at oK
 ·exact aS _ _ oK
 ·exact aS _ _ oK
 ·exact aS _ _ oK
 ·refine oK.mono fun e w' he=> ?_;cases e with
  |returned v=>exact aS _ _ he
  |panicked c=>exact he
  |outgrown=>exact he
 ·exact oK.mono fun v w' he=>aS _ _ he
 ·exact oK
 ·exact oK.elim
theorem OW(aO:cS P ah=true)(aH: (ay ah 0).size=0){ops:Array Oper}{E:Exit->Act->World->Prop}{R:bu->Prop}{o:Oper}{r:List Oper}{os:cu}{s:bu}{a:Act}{w:World}(next:∀a w,c8 aA aY n R a w->wpList P ops E r a w)
  (af:wL n o=true) (h:bT aA aY n os s a w) (ak:Dz ah P ops.toList o s R):wpList P ops E (o::r) a w:=by
 have aa:=Iq af;unfold Dz at ak;refine wpList_step fun ns jr=> ?_;have step:∀ {a:Act} {w:World},o.wp P a w (c8 aA aY n R) E->o.wp P a w ns E:=by
  intro a w oK;exact Ir (fun a w ha=>jr a w (next a w ha)) oK
 split at ak
 ·rename_i ax;rw[if_pos (by simp[Region.wanted,ax])];exact step (En aO aH h aa ak)
 ·rename_i j want ax;have bt:∀d,q2 ops.toList s j=d->d≠ .aW->∃t,(ops[j]?).bind (·.dst)=some t/\look s.env t=d:=by
   intro d e ai;unfold q2 at e;split at e
   ·rename_i OX qg;split at e
    ·rename_i t bW;exact⟨t,by simp only[Array.getElem?_toList]at qg;simp[qg,bW],e⟩
    ·exact absurd e.symm ai
   ·exact absurd e.symm ai
  split at ak
  ·rename_i b e;obtain⟨t,bW,sh⟩:=bt _ e (by simp);have ac:=h.env t;rw[sh]at ac;have ac:=ac.h2.1;have mt:yielded ops a.tmps j=some b:=by
    have ap:t<a.tmps.size:=by
     rcases Nat.lt_or_ge t a.tmps.size with ap|dB
     ·exact ap
     ·rw[Array.getD_eq_getD_getElem?,Array.getElem?_eq_none dB]at ac;cases ac
    rw[Array.getD_eq_getD_getElem?,Array.getElem?_eq_getElem ap]at ac;simp only[Option.getD_some]at ac;simp[yielded,bW,ap,ac]
   have ak:=Eu.1 ak;by_cases ae:b=want
   ·subst ae;rw[if_pos (by simp[Region.wanted,ax,mt])];have: (if b then b else !b)=true:=by cases b<;>rfl
    rw[this]at ak;exact step (OV aO aH h aa ak)
   ·rw[if_neg (by simp[Region.wanted,ax,mt,ae])];have: (if want then b else !b)=false:=by cases b<;>cases want<;>simp at ae⊢
    exact jr _ _ (next _ _ (Ip h this aa ak))
  ·rename_i g b e;obtain⟨t,bW,sh⟩:=bt _ e (by simp);have ac:=h.env t;rw[sh]at ac;obtain⟨Is,It⟩:=ac.uG;have ak:=Eu.1 ak;cases lW:g with
   |false=>
    have ac:=It lW;have mt:yielded ops a.tmps j=none:=by
     have:a.tmps[t]?=none\/a.tmps[t]?=some undef:=by
      rw[Array.getD_eq_getD_getElem?]at ac;cases bW:a.tmps[t]? with
      |none=>exact .inl rfl
      |some v=>rw[bW]at ac;exact .inr (by simpa using ac)
     rcases this with h1|h1<;>simp[yielded,bW,h1,undef]
    rw[if_neg (by simp[Region.wanted,ax,mt])];exact jr _ _ (next _ _ (Ip h (by simp[lW]) aa ak))
   |true=>
    have ac:=(Is lW).h2.1;have mt:yielded ops a.tmps j=some b:=by
     have ap:t<a.tmps.size:=by
      rcases Nat.lt_or_ge t a.tmps.size with ap|dB
      ·exact ap
      ·rw[Array.getD_eq_getD_getElem?,Array.getElem?_eq_none dB]at ac;cases ac
     rw[Array.getD_eq_getD_getElem?,Array.getElem?_eq_getElem ap]at ac;simp only[Option.getD_some]at ac;simp[yielded,bW,ap,ac]
    by_cases ae:b=want
    ·subst ae;rw[if_pos (by simp[Region.wanted,ax,mt])];have: (g&& (if b then b else !b))=true:=by rw[lW];cases b<;>rfl
     rw[this]at ak;exact step (OV aO aH h aa ak)
    ·rw[if_neg (by simp[Region.wanted,ax,mt,ae])];have: (g&& (if want then b else !b))=false:=by rw[lW];cases b<;>cases want<;>simp at ae⊢
     exact jr _ _ (next _ _ (Ip h this aa ak))
  ·exact ak.elim
theorem Iu(aO:cS P ah=true)(aH: (ay ah 0).size=0){ops:Array Oper}{E:Exit->Act->World->Prop}{K:bu->Prop}(ee:∀a w,c8 aA aY n K a w->E .normal a w):
  ∀ (l:List Oper) {os:cu} {s:bu} {a:Act} {w:World},l.all (wL n)=true->bT aA aY n os s a w->wh ah P ops.toList l K s->wpList P ops E l a w
 | [],os,s,a,w,_,h,ak=>ee a w ⟨os,s,h,ak⟩
 | [o],os,s,a,w,af,h,ak=>by
  simp only[List.all_cons,Bool.and_eq_true]at af;exact OW aO aH (fun a w ha=>ee a w ha) af.1 h ak
 |o::eI::r,os,s,a,w,af,h,ak=>by
  simp only[List.all_cons,Bool.and_eq_true]at af;unfold wh at ak;split at ak
  ·rename_i al;have next:∀a w,c8 aA aY n (fun s=>wh ah P ops.toList r K s) a w->wpList P ops E r a w:=fun a w ⟨os,s,h,ak⟩=>Iu aO aH ee r af.2.2 h ak;unfold M8 at ak;split at ak
   ·rename_i t x gE args dL d1 aF nz ax gK sd Eo;split at ak
    ·rename_i d2 t2 cd j aZ gJ hk an;split at ak
     ·rename_i e av es nx;split at ak
      ·rename_i ae;simp only[Bool.and_eq_true]at ae;have cC:=Nat.eq_of_beq_eq_true ae.1.1;have cH:=Nat.eq_of_beq_eq_true ae.1.2;have j3:=Nat.eq_of_beq_eq_true ae.2;subst cC cH;obtain⟨k,⟨⟨q1,mP⟩,hle⟩,ak⟩:=ak;have oK:=Xr (Q:=E) (K:=fun s=>wh ah P ops.toList r K s) aO aF sd (Iq af.1 _ sd) nz aZ gJ Eo h an hk nx j3 mP hle ak;refine wpList_step fun ns jr=> ?_;rw[if_pos (by simp[Region.wanted,ax])];refine Ir (fun dl eJ h1=>jr dl eJ ?_) oK;refine wpList_step fun ajZ Io=> ?_;rw[if_pos (by simp[Region.wanted,gK])];exact Ir (fun a2 kr ad=>Io a2 kr (next a2 kr ad)) h1
      ·exact ak.elim
     ·exact ak.elim
    ·exact ak.elim
   ·exact ak.elim
  ·exact OW aO aH (fun a w ⟨os,s,h,ak⟩=>Iu aO aH ee (eI::r) (by simp only[List.all_cons,Bool.and_eq_true];exact af.2) h ak) af.1 h ak
end
open Go
section
variable {P:Program} {ah:c4} {aA:Nat->Prop} {aY:dP} {n:Nat} {os aJ:cu} {s t:bu} {a:Act} {w:World} {A cU:Nat->Prop} {B:dP} {m:List aU}
theorem Iv{d:aj}(h:il m d=true):iI m d=true:=by
 cases d<;>first|exact h| (simp[il]at h)
def A8(m:List aU)(os aJ:cu):Prop:=∀ (i:Nat) (x:Value) (o:aU),hJ (bB m i)=true\/ow (bB m i)=true->os[i]?=some (x,o)->∃aK,aJ[i]?=some (x,aK)/\di o aK
theorem Iw{m:List aU}{os aJ:cu}(aZ:A8 m os aJ){i:Nat}{x:Value}{o:aU}(aT:hJ (bB m i)=true)(h:os[i]?=some (x,o)):∃aK,aJ[i]?=some (x,aK)/\di o aK:=aZ i x o (.inl aT) h
theorem OY{m:List aU}{os aJ:cu}(aZ:A8 m os aJ){i:Nat}{x:Value}{o:aU}(aT:ow (bB m i)=true)(h:os[i]?=some (x,o)):∃aK,aJ[i]?=some (x,aK)/\di o aK:=aZ i x o (.inr aT) h
theorem a6.Ev(k:cT A cU w w)(aZ:A8 m os aJ){x:Value}{d:aj}(h:a6 A os w x d): (il m d=true->a6 cU aJ w x d)/\(iI m d=true->a6 cU aJ w x d):=by
 induction h with
 |bA h=>exact⟨fun _=>.bA (h.b9 k),fun _=>.bA (h.b9 k)⟩
 | @aP i off g _ _ h=>
  have key:ow (bB m i)=true->a6 cU aJ w (.pointer (some ⟨g,off,none⟩)) (.aP i off):=fun ae=>by
   obtain⟨aK,bb,hk⟩:=OY aZ ae h;cases aK<;>simp[di]at hk
   exact .aP bb
  exact⟨key,key⟩
 | @dc i off g _ _ h=>
  have key:ow (bB m i)=true->a6 cU aJ w (.pointer (some ⟨g,off,none⟩)) (.dc i off):=fun ae=>by
   obtain⟨aK,bb,hk⟩:=OY aZ ae h;cases aK<;>simp[di]at hk
   exact .dc bb
  exact⟨key,key⟩
 | @cF i hA off g n c cd ki er h=>
  have key:hJ (bB m i)=true->a6 cU aJ w (.pointer (some ⟨g,hA*ki+off,none⟩)) (.cF i hA off):=fun ae=>by
   obtain⟨aK,bb,hk⟩:=Iw aZ ae h;cases aK<;>simp[di]at hk
   obtain⟨rfl,rfl⟩:=hk;exact .cF bb
  exact⟨key,key⟩
 | @own i x _ _ _ h h1=>
  have key:hJ (bB m i)=true->a6 cU aJ w x (.own i):=fun ae=>by
   obtain⟨aK,bb,hk⟩:=Iw aZ ae h;cases aK<;>simp[di]at hk
   exact .own bb h1
  exact⟨key,key⟩
 | @dK i x y d h aa h1=>
  have key:hJ (bB m i)=true->a6 cU aJ w x d:=fun ae=>by
   obtain⟨aK,bb,hk⟩:=Iw aZ ae h;cases aK<;>simp[di]at hk
   exact .dK bb aa h1
  rcases aa with rfl| ⟨_,_,rfl⟩
  ·exact⟨key,key⟩
  ·exact⟨key,key⟩
 | @agg vs ds af bf _ aN=>
  refine⟨fun h=>by simp[il]at h,fun h=>.agg af bf (fun i v d ac aa=>(aN i v d ac aa).1 ?_)⟩;simp only[iI,List.all_eq_true]at h;exact h d (List.mem_of_getElem? aa)
 | @fn f vs ds af gu _ aN=>
  have key:il m (.fn f ds)=true->a6 cU aJ w (.func f #[] vs.toArray) (.fn f ds):=fun ae=>.fn af gu (fun i v d ac aa=>by
   have al:=gu d (List.mem_of_getElem? aa);simp only[il,List.all_eq_true]at ae;have ad:=ae d (List.mem_of_getElem? aa);cases d<;>simp[j0,kf]at al
   all_goals first|exact(aN i v _ ac aa).1 ad|exact(aN i v _ ac aa).1 rfl|skip
   all_goals
    rename_i g b2;have:b2=[]:=by cases b2<;>simp_all[kf]
    subst this;exact(aN i v _ ac aa).1 rfl)
  exact⟨key,key⟩
 |a1=>exact⟨fun h=>by simp[il]at h,fun h=>by simp[iI,il]at h⟩
 |bP _ aH aN=>exact⟨fun h=>by simp[il]at h,fun h=>by simp[iI,il]at h⟩
theorem a6.le(k:cT A cU w w)(aZ:A8 m os aJ){d bD:aj}(aa:fP d bD):∀ {x:Value},a6 A os w x d->iI m bD=true->a6 cU aJ w x bD:=by
 induction aa with
 |refl=>exact fun h ae=>(h.Ev k aZ).2 ae
 |nil aI=>
  intro x h _;exact .bA ((h.kT.le (.nil aI)).b9 k)
 |ar=>
  intro x h _;rw[h.mo];exact .bA .nil
 |aq=>
  intro x h _;exact .bA ((h.kT.le .aq).b9 k)
 |hK af ao bp aN=>
  intro x h _;exact .bA ((h.kT.le (.hK af ao bp)).b9 k)
 | @agg cs ds af al aN=>
  intro x h ae;cases h with
  |bA h=>exact .bA ((h.le (.agg af al)).b9 k)
  |dK h aa h1=>rcases aa with aa| ⟨_,_,aa⟩<;>cases aa
  | @agg vs _ fG bf h=>
   refine .agg (by omega) bf (fun i v d ac aa=> ?_);have ap:=(List.getElem?_eq_some_iff.1 ac).1;have ll:=List.getElem?_eq_getElem (l:=cs) (i:=i) (by omega);refine aN i _ d ll aa (h i v _ ac ll) (Iv ?_);simp only[iI,List.all_eq_true]at ae;exact ae d (List.mem_of_getElem? aa)
 |a1 af al aN=>
  intro x h ae;simp[iI,il]at ae
 |aW=>exact fun _ _=>.bA .aW
theorem OZ{e:List (Nat×aj)}:∀ {cd:List (Nat×aj)} (t:Nat),HB e cd->fP (look e t) (look cd t)
 | [],t,_=>.aW
 |p::r,t,h=>by
  simp only[look];split
  ·rename_i ae;have:=Nat.eq_of_beq_eq_true ae;subst this;exact h.1
  ·exact OZ t h.2
theorem O0:∀ {e:List (Nat×aj)} (t:Nat),yc m e=true->iI m (look e t)=true
 | [],t,_=>rfl
 |p::r,t,h=>by
  simp only[yc,Bool.and_eq_true]at h;simp only[look];split
  ·exact h.1
  ·exact O0 t h.2
theorem Ew:∀ {l ck:List aU} {i:Nat} {aK:aU},yk l ck->ck[i]?=some aK->∃o,l[i]?=some o/\fF o aK
 |l,[],i,aK,_,ab=>by simp at ab
 | [],_::_,i,aK,h,ab=>h.elim
 |o::r,p::dZ,0,aK,h,ab=>by simp at ab;subst ab;exact⟨o,rfl,h.1⟩
 |o::r,p::dZ,i+1,aK,h,ab=>by
  obtain⟨q,h1,ad⟩:=Ew (i:=i) h.2 (by simpa using ab);exact⟨q,by simpa using h1,ad⟩
theorem wM:∀ {l:List aU} {i:Nat} {cs:List aj},mj m l=true->l[i]?=some (.b6 cs)->∀d∈cs,il m d=true
 | [],i,_,_,ab=>by simp at ab
 | .b6 cY::r,0,cs,h,ab=>by
  simp at ab;subst ab;simp only[mj,Bool.and_eq_true,List.all_eq_true]at h;exact h.1
 | .b6 cY::r,i+1,cs,h,ab=>by
  simp only[mj,Bool.and_eq_true]at h;exact wM (i:=i) h.2 (by simpa using ab)
 | .cells _ _::r,0,cs,h,ab=>by simp at ab
 | .cells _ _::r,i+1,cs,h,ab=>by
  simp only[mj,Bool.and_eq_true]at h;exact wM (i:=i) h.2 (by simpa using ab)
 | .row _ _ _::r,0,cs,h,ab=>by simp at ab
 | .row _ _ _::r,i+1,cs,h,ab=>wM (i:=i) (l:=r) h (by simpa using ab)
 | .bd::r,0,cs,h,ab=>by simp at ab
 | .bd::r,i+1,cs,h,ab=>wM (i:=i) (l:=r) h (by simpa using ab)
 | .gone::r,0,cs,h,ab=>by simp at ab
 | .gone::r,i+1,cs,h,ab=>wM (i:=i) (l:=r) h (by simpa using ab)
theorem XB{o aK:aU}(h:fF o aK)(aa:aK≠ .bd):di o aK:=by
 cases h with
 |refl=>cases o<;>simp[di]
 |cells _ _=>simp[di]
 |b6 _ _=>simp[di]
 |bd=>exact absurd rfl aa
theorem Ix{o aK:aU}(h:fF o aK)(aa:aK≠ .bd):o≠ .bd:=by
 cases h with
 |refl=>exact aa
 |cells _ _=>simp
 |b6 _ _=>simp
 |bd=>exact absurd rfl aa
theorem O1{l:List aU}{i:Nat}{x:Value}{aK:aU}(h: ((os.map (·.1)).zip l)[i]?=some (x,aK)):l[i]?=some aK/\∃o,os[i]?=some (x,o):=by
 rw[List.getElem?_zip_eq_some]at h;obtain⟨h1,ad⟩:=h;refine⟨ad,?_⟩;rw[List.getElem?_map]at h1;cases ab:os[i]? with
 |none=>rw[ab]at h1;cases h1
 |some p=>rw[ab]at h1;cases h1;exact⟨p.2,rfl⟩
theorem bT.Iy(h:bT aA aY n os s a w)(bM:s.le t):∃aJ,bT aA aY n aJ t a w/\(∀ (i:Nat) (x:Value) (aK:aU),aJ[i]?=some (x,aK)->∃o,os[i]?=some (x,o)/\fF o aK)/\(∀ (v:Value) (d:aj),a6 (a8 aA os) os w v d->iI t.loc d=true->a6 (a8 aA aJ) aJ w v d)/\∀b,a8 aA aJ b->a8 aA os b:=by
 obtain⟨he,af,ae⟩:=bM;simp only[Bool.and_eq_true]at ae;obtain⟨kD,fq⟩:=ae;have get:∀ {i:Nat} {x:Value} {aK:aU},((os.map (·.1)).zip t.loc)[i]?=some (x,aK)->∃o,os[i]?=some (x,o)/\fF o aK:=by
  intro i x aK ab;obtain⟨h1,o,ad⟩:=O1 ab;obtain⟨eI,aC,bh⟩:=Ew af h1;rw[h.loc,List.getElem?_map,ad]at aC;cases aC;exact⟨o,ad,bh⟩
 have kp:∀ {i:Nat},i<t.loc.length->i<os.length:=by
  intro i ab;obtain⟨o,aF,_⟩:=Ew af (List.getElem?_eq_getElem ab);rw[h.loc]at aF;simpa using(List.getElem?_eq_some_iff.1 aF).1
 have nv:A8 t.loc os ((os.map (·.1)).zip t.loc):=by
  intro i x o aT aF;have lU:bB t.loc i≠ .bd:=by
   intro e;rw[e]at aT;simp[hJ,ow]at aT
  have ab:i<t.loc.length:=by
   rcases Nat.lt_or_ge i t.loc.length with h1|h1
   ·exact h1
   ·exact absurd (by rw[jn,List.getElem?_eq_none h1];rfl) lU
  obtain⟨eI,h1,ad⟩:=Ew af (List.getElem?_eq_getElem ab);rw[h.loc,List.getElem?_map,aF]at h1;cases h1;refine⟨t.loc[i],?_,XB ad (by rw[jn,List.getElem?_eq_getElem ab]at lU;exact lU)⟩;rw[List.getElem?_zip_eq_some,List.getElem?_map,aF];exact⟨rfl,List.getElem?_eq_getElem ab⟩
 have fV:∀b,a8 aA ((os.map (·.1)).zip t.loc) b->a8 aA os b:=by
  rintro b (ae| ⟨i,x,aK,ab,aa,b4⟩)
  ·exact .inl ae
  ·obtain⟨o,aF,hle⟩:=get ab;exact .inr ⟨i,x,o,aF,Ix hle aa,b4⟩
 have k:cT (a8 aA os) (a8 aA ((os.map (·.1)).zip t.loc)) w w:=cT.gk fV;refine⟨(os.map (·.1)).zip t.loc,⟨h.size,h.defers,h.fH,h.a0,?_,fun u=>(h.env u).le k nv (OZ u he) (O0 u kD),fun i x aK ab=> ?_,fun i j x o y aK b ab ai d1 d2 cC cH=> ?_⟩,fun i x aK ab=>get ab,fun v d ac ae=>(ac.Ev k nv).2 ae,fV⟩
 ·rw[List.map_snd_zip];rw[List.length_map];rcases Nat.lt_or_ge os.length t.loc.length with ap|dB
  ·exact absurd (kp ap) (by omega)
  ·exact dB
 ·obtain⟨o,aF,hle⟩:=get ab;have eg:=h.cp i x o aF;have uY:=(O1 ab).1;cases hle with
  |refl=>
   cases aK with
   |bd=>exact trivial
   |gone=>exact eg
   |b6 ds=>
    obtain⟨az,aG,a7,b5⟩:=eg;exact⟨az,aG,a7,fun j v d ac aa=>((b5 j v d ac aa).Ev k nv).1 (wM fq uY d (List.mem_of_getElem? aa))⟩
   |cells ty cs=>
    obtain⟨g,arr,rfl,cR,bp,ag,bf,ao⟩:=eg;exact⟨g,arr,rfl,cR,bp,ag,bf,fun j v d ac aa=>((ao j v d ac aa).Ev k nv).1 (uT fq uY d (List.mem_of_getElem? aa))⟩
   |row e av es=>
    obtain⟨gI,xs,bJ,bZ,fp,bf,ao⟩:=eg;exact⟨gI,xs,bJ,bZ,fp,bf,fun dv j r d h1 ad=>by
     obtain⟨v,ac,ab⟩:=ao dv j r d h1 ad;exact⟨v,ac,ab.b9 k⟩⟩
  |bd=>exact trivial
  | @b6 cs ds fh al=>
   obtain⟨az,aG,a7,b5⟩:=eg;refine⟨az,by omega,a7,fun j v d ac aa=> ?_⟩;have ap:=(List.getElem?_eq_some_iff.1 aa).1;have ll:=List.getElem?_eq_getElem (l:=cs) (i:=j) (by omega);exact(b5 j v _ ac ll).le k nv (al j _ d ll aa) (Iv (wM fq uY d (List.mem_of_getElem? aa)))
  | @cells ty cs ds fh al=>
   obtain⟨g,arr,rfl,cR,bp,ag,bf,ao⟩:=eg;refine⟨g,arr,rfl,cR,bp,by omega,bf,fun j v d ac aa=> ?_⟩;have ap:=(List.getElem?_eq_some_iff.1 aa).1;have ll:=List.getElem?_eq_getElem (l:=cs) (i:=j) (by omega);exact(ao j v _ ac ll).le k nv (al j _ d ll aa) (Iv (uT fq uY d (List.mem_of_getElem? aa)))
 ·obtain⟨p,au,iY⟩:=get ab;obtain⟨q,bF,AC⟩:=get ai;exact h.inj i j x p y q b au bF (Ix iY d1) (Ix AC d2) cC cH
theorem bT.le(h:bT aA aY n os s a w)(bM:s.le t):∃aJ,bT aA aY n aJ t a w:=by
 obtain⟨aJ,bb,_⟩:=h.Iy bM;exact⟨aJ,bb⟩
theorem Iz{e:TypeId}{av:Nat}(h:bT aA aY n os s a w):bT aA aY n (os++ [(.slice none 0 0,.row e (av+1) [])]) ⟨s.env,s.loc++ [.row e (av+1) []]⟩ a w:=
 yz (x:=.slice none 0 0) (e:=e) (av:=av+1) (es:=[]) (xs:=[]) h (grownBy.rd w none) (by simp[bs]) ⟨by simp,.inl ⟨rfl,rfl⟩⟩ (Nat.succ_pos _) .nil
theorem O2{t:Nat}{K:bu->Prop}{os:cu}{s:bu}(h:bT aA aY n os s a w)(ak:DG t s K):∃aJ s',bT aA aY n aJ s' a w/\K s':=by
 unfold DG at ak;split at ak
 ·split at ak
  ·rename_i e av es af;rw[h.loc]at af;obtain⟨x',cV⟩:=iM af (by simp);obtain⟨bb,_⟩:=h.hZ cV;exact⟨_,_,bb,ak⟩
  ·exact⟨_,_,h,ak⟩
 ·exact⟨_,_,h,ak⟩
theorem a6.tx{aJ:cu}{ρ:Nat->Nat}(b7:∀ (k:Nat) x bm,(∀ds,bm≠ .b6 ds)->bm≠ .bd->os[k]?=some (x,bm)->aJ[ρ k]?=some (x,fw ρ bm))(k:cT A cU w w){v:Value}{d:aj}(h:a6 A os w v d): (v.oneCell'=true->a6 cU aJ w v (oA ρ d))/\a6 cU aJ w v (jI ρ d):=by
 have lP:∀ {v:Value} {d:aj},bO A w v d->bO cU w v (oA ρ d)/\bO cU w v (jI ρ d):=by
  intro v d bE;induction bE with
  |v h=>exact⟨.v h,.v h⟩
  |aq xs aS al aT aI bZ aw ae bf cP an aN=>exact⟨(bO.aq xs aS al aT aI bZ aw ae bf cP an).b9 k,(bO.aq xs aS al aT aI bZ aw ae bf cP an).b9 k⟩
  |nil=>exact⟨.nil,.nil⟩
  |ar=>exact⟨.ar,.ar⟩
  |agg af bf h aN=>
   refine⟨(bO.agg af bf h).b9 k,.agg (by simpa using af) bf (fun j v d ac aa=> ?_)⟩;rw[List.getElem?_map]at aa;rename_i ds;cases ai:ds[j]? with
   |none=>rw[ai]at aa;cases aa
   |some e=>rw[ai]at aa;simp at aa;subst aa;exact(aN j v e ac ai).1
  | @a1 vs ds af h aN=>
   refine⟨(bO.a1 af h).b9 k,.a1 (by simpa using af) (fun j v d ac aa=> ?_)⟩;rw[List.getElem?_map]at aa;cases ai:ds[j]? with
   |none=>rw[ai]at aa;cases aa
   |some e=>rw[ai]at aa;simp at aa;subst aa;exact(aN j v e ac ai).1
  |cD xs aw ae bf cP an _=>exact⟨(bO.cD xs aw ae bf cP an).b9 k,(bO.cD xs aw ae bf cP an).b9 k⟩
  | @fn f vs ds af h _=>
   have key:bO cU w (.func f #[] vs.toArray) (.fn f (ds.map (pj ρ))):=by
    refine .fn (by simpa using af) (fun j v d ac aa=> ?_);rw[List.getElem?_map]at aa;cases ai:ds[j]? with
    |none=>rw[ai]at aa;cases aa
    |some e=>
     rw[ai]at aa;simp at aa;subst aa;have ad:=h j v e ac ai;cases e
     case aP=>cases ad
     all_goals exact ad.b9 k
   exact⟨key,key⟩
  |bP _ aH aN=>exact⟨.bP (fun ae=>(aN ae).1) aH,.bP (fun ae=>(aN ae).2) aH⟩
  |aW=>exact⟨.aW,.aW⟩
 induction h with
 |bA h=>exact⟨fun _=>.bA (lP h).1,.bA (lP h).2⟩
 |aP h=>have:=b7 _ _ _ (by simp) (by simp) h;exact⟨fun _=>.aP this,.aP this⟩
 |dc h=>have:=b7 _ _ _ (by simp) (by simp) h;exact⟨fun _=>.dc this,.dc this⟩
 |cF h=>have:=b7 _ _ _ (by simp) (by simp) h;exact⟨fun _=>.cF this,.cF this⟩
 |own h h1=>have:=b7 _ _ _ (by simp) (by simp) h;exact⟨fun _=>.own this h1,.own this h1⟩
 |dK h aa h1=>
  have:=b7 _ _ _ (by rcases aa with rfl| ⟨_,_,rfl⟩<;>simp) (by rcases aa with rfl| ⟨_,_,rfl⟩<;>simp) h;rcases aa with rfl| ⟨_,_,rfl⟩
  ·exact⟨fun _=>.dK this (.inl rfl) h1,.dK this (.inl rfl) h1⟩
  ·exact⟨fun _=>.dK this (.inr ⟨_,_,rfl⟩) h1,.dK this (.inr ⟨_,_,rfl⟩) h1⟩
 | @agg vs ds af bf _ aN=>
  refine⟨fun h=>by simp[Value.oneCell']at h,.agg (by simpa using af) bf (fun j v d ac aa=> ?_)⟩;rw[List.getElem?_map]at aa;cases ai:ds[j]? with
  |none=>rw[ai]at aa;cases aa
  |some e=>rw[ai]at aa;simp at aa;subst aa;exact(aN j v e ac ai).1 (bf v (List.mem_of_getElem? ac))
 | @fn f vs ds af gu bp aN=>
  have key:a6 cU aJ w (.func f #[] vs.toArray) (.fn f (ds.map (pj ρ))):=by
   refine .fn (by simpa using af) (fun d aa=> ?_) (fun j v d ac aa=> ?_)
   ·obtain⟨e,he,rfl⟩:=List.mem_map.1 aa;have:=gu e he;cases e<;>first|exact this|rfl
   ·rw[List.getElem?_map]at aa;cases ai:ds[j]? with
    |none=>rw[ai]at aa;cases aa
    |some e=>
     rw[ai]at aa;simp at aa;subst aa;have ad:=(aN j v e ac ai).2;have al:=gu e (List.mem_of_getElem? ai);cases e
     case fn g cs=>
      have:cs=[]:=by cases cs<;>simp_all[j0,kf]
      subst this;exact ad
     all_goals first|exact ad| (simp[j0,kf]at al)
  exact⟨fun _=>key,key⟩
 | @a1 vs ds af bJ bp aN=>
  refine⟨fun h1=>by simp[Value.oneCell']at h1,.a1 (by simpa using af) (fun j v d ac aa=> ?_) (fun j v d ac aa=> ?_)⟩
  ·rw[List.getElem?_map]at aa;cases ai:ds[j]? with
   |none=>rw[ai]at aa;cases aa
   |some e=>
    rw[ai]at aa;simp at aa;subst aa;rcases bJ j v e ac ai with aF|aF
    ·cases e<;>simp[kh]at aF
     exact .inl rfl
    ·exact .inr (lP aF).1
  ·rw[List.getElem?_map]at aa;cases ai:ds[j]? with
   |none=>rw[ai]at aa;cases aa
   |some e=>
    rw[ai]at aa;simp at aa;subst aa;rcases bJ j v e ac ai with aF|aF
    ·have ad:=bp j v e ac ai;cases e<;>simp[kh]at aF
     exact(aN j v _ ac ai).1 ad.yp.1
    ·exact .bA (lP aF).1
 |bP _ aH aN=>exact⟨fun h1=>.bP (fun ae=>(aN ae).1 h1) aH,.bP (fun ae=>(aN ae).2) aH⟩
theorem IA(f:aU->aU):∀l:List aU,uE f l=l.map f
 | []=>rfl
 |o::r=>by rw[uE,IA f r,List.map_cons]
theorem A9(i j k:Nat):hL i j k=if k=i then j else if k=j then i else k:=by
 unfold hL;cases h:Nat.beq k i with
 |true=>simp[Nat.eq_of_beq_eq_true h]
 |false=>
  have h1:k≠i:=fun e=>by simp[e]at h
  cases ad:Nat.beq k j with
  |true=>
   have aC:=Nat.eq_of_beq_eq_true ad;rw[if_neg h1,if_pos aC]
  |false=>
   have aC:k≠j:=fun e=>by simp[e]at ad
   simp[h1,aC]
theorem IB(i j k:Nat):hL i j (hL i j k)=k:=by
 simp only[A9];split<;>split<;> (try split)<;>omega
theorem IC{i j:Nat}{K:bu->Prop}{os:cu}{s:bu}(h:bT aA aY n os s a w)(ak:Ar i j s K):∃aJ s',bT aA aY n aJ s' a w/\K s':=by
 unfold Ar at ak;split at ak
 case h_2=>exact ak.elim
 rename_i ae;have hlen:s.loc.length=os.length:=by rw[h.loc,List.length_map]
 simp only[Bool.and_eq_true,Nat.blt_eq,hlen]at ae;obtain⟨ab,ai⟩:=ae;have yQ:∀k,hL i j k<os.length↔k<os.length:=fun k=>by
  rw[A9];split<;> (try split)<;>omega
 let aJ:cu:=(List.range os.length).map fun k=>((os.getD (hL i j k) (undef,.bd)).1,p2 (hL i j) (os.getD (hL i j k) (undef,.bd)).2)
 have key:∀k,aJ[k]?=(os[hL i j k]?).map fun p=>(p.1,p2 (hL i j) p.2):=fun k=>by
  rcases Nat.lt_or_ge k os.length with hk|hk
  ·have ad:=(yQ k).2 hk;simp[aJ,hk,ad,List.getElem?_range]
  ·have ad:¬hL i j k<os.length:=fun e=>absurd ((yQ k).1 e) (by omega);rw[List.getElem?_eq_none (by simp[aJ];omega),List.getElem?_eq_none (by omega)];rfl
 have b7:∀ (k:Nat) x bm,os[k]?=some (x,bm)->aJ[hL i j k]?=some (x,p2 (hL i j) bm):=fun k x bm hk=>by
  rw[key,IB,hk];rfl
 have ID:∀ (k:Nat) x bm,(∀ds,bm≠ .b6 ds)->bm≠ .bd->os[k]?=some (x,bm)->aJ[hL i j k]?=some (x,fw (hL i j) bm):=fun k x bm aS _ hk=>by
  have:=b7 k x bm hk;cases bm with
  |b6 ds=>exact absurd rfl (aS ds)
  |_=>exact this
 have back:∀ {k:Nat} {x:Value} {aK:aU},aJ[k]?=some (x,aK)->∃o,os[hL i j k]?=some (x,o)/\aK=p2 (hL i j) o:=fun {k x aK} hk=>by
  rw[key]at hk;cases he:os[hL i j k]? with
  |none=>rw[he]at hk;cases hk
  |some p=>
   rw[he]at hk;cases hk;exact⟨p.2,rfl,rfl⟩
 have eB:∀ {o:aU},p2 (hL i j) o≠ .bd->o≠ .bd:=fun {o} aa e=>by
  subst e;exact aa rfl
 have fV:∀b,a8 aA aJ b->a8 aA os b:=by
  rintro b (ae| ⟨k,x,aK,hk,aa,b4⟩)
  ·exact .inl ae
  ·obtain⟨o,aF,rfl⟩:=back hk;exact .inr ⟨_,x,o,aF,eB aa,b4⟩
 have k:cT (a8 aA os) (a8 aA aJ) w w:=cT.gk fV;refine⟨aJ,_,⟨h.size,h.defers,h.fH,h.a0,?_,fun u=> ?_,fun q x aK bF=> ?_,fun p q x o y aK b au bF d1 d2 cC cH=> ?_⟩,ak⟩
 ·show HC (uE (p2 (hL i j)) s.loc) i j=aJ.map (·.2);have af:∀k,(uE (p2 (hL i j)) s.loc)[k]?=(os[k]?).map fun(p:Value×aU)=>p2 (hL i j) p.2:=fun k=>by
   rw[IA,h.loc,List.map_map,List.getElem?_map];rfl
  have ax:∀k,k<os.length->(os[k]?).map (fun(p:Value×aU)=>p2 (hL i j) p.2)=some (bB (uE (p2 (hL i j)) s.loc) k):=fun k hk=>by
   rw[jn,af,List.getElem?_eq_getElem hk];rfl
  have si: (uE (p2 (hL i j)) s.loc).length=os.length:=by
   rw[IA,List.length_map,hlen]
  apply List.ext_getElem?;intro q;rw[List.getElem?_map,key];unfold HC;rw[kj,kj,List.getElem?_set,List.getElem?_set,af,Option.map_map];simp only[List.length_set,si];by_cases az:j=q
  ·subst az;have:hL i j j=i:=by
    rw[A9];split<;>simp_all
   rw[if_pos rfl,if_pos ai,this];exact(ax i ab).symm
  ·rw[if_neg az];by_cases aG:i=q
   ·subst aG;have:hL i j i=j:=by
     rw[A9];simp
    rw[if_pos rfl,if_pos ab,this];exact(ax j ai).symm
   ·have:hL i j q=q:=by
     rw[A9,if_neg (fun e=>aG e.symm),if_neg (fun e=>az e.symm)]
    rw[if_neg aG,this];rfl
 ·show a6 _ _ _ _ (look (mI (jI (hL i j)) s.env) u);rw[yo _ rfl];exact(a6.tx ID k (h.env u)).2
 ·obtain⟨o,aF,rfl⟩:=back bF;have eg:=h.cp _ x o aF;cases o with
  |bd=>exact trivial
  |gone=>exact eg
  |b6 ds=>
   obtain⟨an,af,bf,ao⟩:=eg;refine⟨an,by simpa using af,bf,fun gy v d ac aa=> ?_⟩;rw[List.getElem?_map]at aa;cases al:ds[gy]? with
   |none=>rw[al]at aa;cases aa
   |some e=>
    rw[al]at aa;simp at aa;subst aa;exact(a6.tx ID k (ao gy v e ac al)).1 (bf v (List.mem_of_getElem? ac))
  |cells ty cs=>
   obtain⟨g,arr,rfl,cR,bp,ag,bf,ao⟩:=eg;refine⟨g,arr,rfl,cR,bp,by simpa using ag,bf,fun gy v d ac aa=> ?_⟩;rw[List.getElem?_map]at aa;cases al:cs[gy]? with
   |none=>rw[al]at aa;cases aa
   |some e=>
    rw[al]at aa;simp at aa;subst aa;exact(a6.tx ID k (ao gy v e ac al)).1 (bf v (List.mem_of_getElem? (by rw[Array.getElem?_toList];exact ac)))
  |row e av es=>
   obtain⟨gI,xs,bJ,bZ,fp,bf,ao⟩:=eg;exact⟨gI,xs,bJ,bZ,fp,bf,fun dv gy r d h1 ad=>by
    obtain⟨v,ac,ab⟩:=ao dv gy r d h1 ad;exact⟨v,ac,ab.b9 k⟩⟩
 ·obtain⟨cQ,hQ,rfl⟩:=back au;obtain⟨eI,nz,rfl⟩:=back bF;have:=h.inj _ _ x cQ y eI b hQ nz (eB d1) (eB d2) cC cH;rw[<-IB i j p,this,IB]
theorem rm:∀ (nQ:List Aq) {os:cu} {s:bu} {K:bu->Prop},bT aA aY n os s a w->pk nQ s K->∃aJ s',bT aA aY n aJ s' a w/\K s'
 | [],os,s,K,h,ak=>⟨os,s,h,ak⟩
 | .hZ t::r,os,s,K,h,ak=>by
  obtain⟨aJ,s',bb,jr⟩:=O2 h ak;exact rm r bb jr
 | .fS _ _ _::r,os,s,K,h,ak=>rm r h ak
 | .cell _ _ _ _::r,os,s,K,h,ak=>rm r h ak
 | .swap i j::r,os,s,K,h,ak=>by
  obtain⟨aJ,s',bb,jr⟩:=IC h ak;exact rm r bb jr
 | .np _ _::r,os,s,K,h,ak=>rm r h ak
 | .fresh _ _::r,os,s,K,h,ak=>rm r h ak
 | .dQ _ _::r,os,s,K,h,ak=>rm r h ak
 | .mm _::r,os,s,K,h,ak=>rm r h ak
 | .uD t i::r,os,s,K,h,ak=>by
  unfold pk at ak;split at ak
  ·obtain⟨aJ,s',bb,jr⟩:=IC h ak;exact rm r bb jr
  ·exact rm r h ak
theorem bT.buried{i:Nat}{y:Value}{yR:aU}(h:bT aA aY n os s a w)(ab:os[i]?=some (y,yR))(aF:yR= .bd\/∃e av es,yR= .row e av es):bT aA aY n (os.set i (.nilFunc,.gone)) ⟨s.env,e1 s.loc i .gone⟩ a w:=by
 have yS:=(List.getElem?_eq_some_iff.1 ab).1;have b7:∀ {j:Nat} {z:Value} {aK:aU},(os.set i (.nilFunc,.gone))[j]?=some (z,aK)->(z= .nilFunc/\aK= .gone)\/(j≠i/\os[j]?=some (z,aK)):=by
  intro j z aK ai;by_cases aG:j=i
  ·subst aG;rw[List.getElem?_set_self yS]at ai;cases ai;exact .inl ⟨rfl,rfl⟩
  ·rw[List.getElem?_set_ne (fun cd=>aG cd.symm)]at ai;exact .inr ⟨aG,ai⟩
 have aZ:∀ (q:Nat) (x:Value) (o:aU),os[q]?=some (x,o)->o≠ .bd->(∀e av es,o≠ .row e av es)->(os.set i (.nilFunc,.gone))[q]?=some (x,o):=fun q x o bF aa ao=>by
  rw[List.getElem?_set_ne (fun e=>by
   subst e;rw[ab]at bF;cases bF;rcases aF with rfl| ⟨_,_,_,rfl⟩
   ·exact aa rfl
   ·exact ao _ _ _ rfl)]
  exact bF
 have qe: (os.set i (.nilFunc,.gone))[i]?=some (.nilFunc,.gone):=List.getElem?_set_self yS;have O3:∀ (q:Nat) (x:Value) (o:aU),q≠i->os[q]?=some (x,o)->(os.set i (.nilFunc,.gone))[q]?=some (x,o):=fun q x o bF h=>by
  rw[List.getElem?_set_ne (fun e=>bF e.symm)];exact h
 have fV:∀b,a8 aA (os.set i (.nilFunc,.gone)) b->a8 aA os b:=by
  rintro b (ac| ⟨j,z,aK,ai,c2,b4⟩)
  ·exact .inl ac
  ·rcases b7 ai with⟨rfl,rfl⟩| ⟨_,ai⟩
   ·simp[bs]at b4
   ·exact .inr ⟨_,_,_,ai,c2,b4⟩
 have k:cT (a8 aA os) (a8 aA (os.set i (.nilFunc,.gone))) w w:=cT.gk fV;have iP:∀ {x:Value} {d:aj},a6 (a8 aA os) os w x d->a6 (a8 aA (os.set i (.nilFunc,.gone))) (os.set i (.nilFunc,.gone)) w x d:=by
  intro x d ao;induction ao with
  |bA h=>exact .bA (h.b9 k)
  |aP h=>exact .aP (aZ _ _ _ h (by simp) (by simp))
  |dc h=>exact .dc (aZ _ _ _ h (by simp) (by simp))
  | @cF q _ _ _ _ _ _ _ _ h=>
   by_cases e:q=i
   ·subst e;exact .dK qe (.inr ⟨_,_,rfl⟩) rfl
   ·exact .cF (O3 _ _ _ e h)
  | @own q _ _ _ _ h h1=>
   by_cases e:q=i
   ·subst e;exact .dK qe (.inl rfl) h1
   ·exact .own (O3 _ _ _ e h) h1
  |dK h aa h1=>exact .dK (aZ _ _ _ h (by simp) (by simp)) aa h1
  |agg af bf _ aN=>exact .agg af bf aN
  |a1 af bJ _ aN=>exact .a1 af (fun i v d ac aa=>(bJ i v d ac aa).imp id (fun h=>h.b9 k)) aN
  |fn af gu _ aN=>exact .fn af gu aN
  |bP _ aH aN=>exact .bP aN aH
 refine⟨h.size,h.defers,h.fH,h.a0,by rw[kj,h.loc,List.map_set],fun t=>iP (h.env t),fun j z aK ai=> ?_,fun ps r3 z cQ nA eI b h1 ad d1 d2 cC cH=> ?_⟩
 ·rcases b7 ai with⟨rfl,rfl⟩| ⟨_,ai⟩
  ·exact rfl
  ·have eg:=h.cp j z aK ai;cases aK with
   |bd=>exact trivial
   |gone=>exact eg
   |b6 ds=>
    obtain⟨az,aG,a7,b5⟩:=eg;exact⟨az,aG,a7,fun i v d ac aa=>iP (b5 i v d ac aa)⟩
   |cells ty cs=>
    obtain⟨g,arr,rfl,cR,bp,ag,bf,ao⟩:=eg;exact⟨g,arr,rfl,cR,bp,ag,bf,fun gy v d ac aa=>iP (ao gy v d ac aa)⟩
   |row e av es=>
    obtain⟨gI,xs,bJ,bZ,fp,bf,ao⟩:=eg;exact⟨gI,xs,bJ,bZ,fp,bf,fun dv gy r d h1 ad=>by
     obtain⟨v,ac,ab⟩:=ao dv gy r d h1 ad;exact⟨v,ac,ab.b9 k⟩⟩
 ·rcases b7 h1 with⟨rfl,rfl⟩| ⟨_,g1⟩
  ·simp[bs]at cC
  ·rcases b7 ad with⟨rfl,rfl⟩| ⟨_,g2⟩
   ·simp[bs]at cH
   ·exact h.inj _ _ _ _ _ _ b g1 g2 d1 d2 cC cH
theorem rn:∀ (nQ:List Aq) {os:cu} {s:bu} {K:bu->Prop},bT aA aY n os s a w->mn nQ s K->∃aJ s',bT aA aY n aJ s' a w/\K s'
 | [],os,s,K,h,ak=>⟨os,s,h,ak⟩
 | .hZ t::r,os,s,K,h,ak=>by
  obtain⟨aJ,s',bb,jr⟩:=O2 h ak;exact rn r bb jr
 | .swap _ _::r,os,s,K,h,ak=>rn r h ak
 | .uD _ _::r,os,s,K,h,ak=>rn r h ak
 | .dQ i j::r,os,s,K,h,ak=>by
  obtain⟨aJ,s',bb,jr⟩:=IC h ak;exact rn r bb jr
 | .mm i::r,os,s,K,h,ak=>by
  unfold mn at ak;split at ak
  ·rename_i aI;have key:∃y o,os[i]?=some (y,o)/\(o= .bd\/∃e av es,o= .row e av es):=by
    rw[Bool.or_eq_true]at aI;rcases aI with aI|aI
    ·unfold lJ at aI;rw[Bool.and_eq_true]at aI;have ap:i<os.length:=by
      have:=Nat.le_of_ble_eq_true aI.1;have af:=h.len;omega
     have ax:=List.getElem?_eq_getElem ap;rcases au:os[i]with⟨y,o⟩
     rw[au]at ax;have aa:=aI.2;rw[h.loc,jn,List.getElem?_map,ax]at aa;have:o= .bd:=by cases o<;>simp[Ho]at aa<;>rfl
     exact⟨y,o,ax,.inl this⟩
    ·rw[h.loc,jn,List.getElem?_map]at aI;cases ax:os[i]? with
     |none=>rw[ax]at aI;cases aI
     |some p=>
      rw[ax]at aI;rcases p with⟨y,o⟩
      cases o<;>simp[hJ]at aI
      exact⟨y,_,rfl,.inr ⟨_,_,_,rfl⟩⟩
   obtain⟨y,o,ax,aF⟩:=key;exact rn r (h.buried ax aF) ak
  ·exact ak.elim
 | .np i off::r,os,s,K,h,ak=>by
  unfold mn at ak;split at ak
  ·split at ak
   ·obtain⟨aJ,s',bb,ak,_,_⟩:=tn _ h ak;exact rn r bb ak
   ·exact ak.elim
  ·exact ak.elim
 | .fresh e av::r,os,s,K,h,ak=>by
  unfold mn at ak;split at ak
  ·exact rn r (Iz h) ak
  ·exact ak.elim
 | .fS t e av::r,os,s,K,h,ak=>by
  unfold mn at ak;split at ak
  ·rename_i av el;have au:=Iz (e:=e) (av:=av) h;have ac:=h.env t;rw[el]at ac;have ac:=ac.mo;have bJ:a6 (a8 aA (os++ [(.slice none 0 0,.row e (av+1) [])])) (os++ [(.slice none 0 0,.row e (av+1) [])]) w (a.tmps.getD t undef) (.own s.loc.length):=by
    rw[ac,h.len];exact .own tf rfl
   refine rn r (os:=os++ [(.slice none 0 0,.row e (av+1) [])]) ⟨au.size,au.defers,au.fH,au.a0,au.loc,fun u=> ?_,au.cp,au.inj⟩ ak;simp only[look];split
   ·rename_i ae;have:=Nat.eq_of_beq_eq_true ae;subst this;exact bJ
   ·exact au.env u
  ·exact ak.elim
 | .cell i off e av::r,os,s,K,h,ak=>by
  unfold mn at ak;split at ak
  ·rename_i ty cs av af;split at ak
   ·rename_i al;have au:=Iz (e:=e) (av:=av) h;rw[h.loc]at af;obtain⟨x,ab⟩:=iM af (by simp);have ap:=(List.getElem?_eq_some_iff.1 ab).1;have cV: (os++ [(Value.slice none 0 0,aU.row e (av+1) [])])[i]?=some (x,.cells ty cs):=by rw[List.getElem?_append_left ap];exact ab
    have sj:=au.AK (e9:=.cells ty (qT cs off (.own s.loc.length))) cV rfl (by simp) (by simp) (grownBy.rd w _) ?_
    ·refine rn r (s:=⟨s.env,e1 (s.loc++ [.row e (av+1) []]) i (.cells ty (qT cs off (.own s.loc.length)))⟩) sj ?_;have:e1 (s.loc++ [.row e (av+1) []]) i (.cells ty (qT cs off (.own s.loc.length)))=e1 s.loc i (.cells ty (qT cs off (.own s.loc.length)))++ [.row e (av+1) []]:=by
      rw[kj,kj,List.set_append_left _ _ (by rw[h.len];exact ap)]
     rw[this];exact ak
    ·obtain⟨g,arr,an,cR,bp,ag,bf,ao⟩:=au.cp i x _ cV;have h7:=WM (e9:=.cells ty (qT cs off (.own s.loc.length))) cV rfl;have hk:=Eb (aA:=aA) (e9:=.cells ty (qT cs off (.own s.loc.length))) cV (by simp) (grownBy.rd w _);refine⟨g,arr,an,cR,bp,by rw[Ax];simpa using ag,bf,fun j v d ac aa=> ?_⟩;rw[Ax,List.getElem?_set]at aa;split at aa
     ·rename_i ai;subst ai;split at aa
      ·cases aa;have:=(ao _ v _ ac al).mo;subst this;rw[h.len];refine .own (e:=e) (av:=av+1) (es:=[]) ?_ rfl;rw[List.getElem?_set_ne (by omega)];exact tf
      ·cases aa
     ·exact(ao j v d ac aa).b9 hk h7
   ·exact ak.elim
  ·exact ak.elim
end
open Go
theorem Ba:∀ {l e:List (Nat×aj)} {t:Nat},t∉l.map (·.1)->look (l++e) t=look e t
 | [],e,t,_=>rfl
 |p::r,e,t,h=>by
  simp only[List.map_cons,List.mem_cons,not_or]at h;simp only[List.cons_append,look];split
  ·rename_i ae;exact absurd (Nat.eq_of_beq_eq_true ae).symm h.1
  ·exact Ba h.2
theorem Ex:∀ {l e cd:List (Nat×aj)} {t:Nat},t∈l.map (·.1)->look (l++e) t=look (l++cd) t
 | [],e,cd,t,h=>by simp at h
 |p::r,e,cd,t,h=>by
  simp only[List.map_cons,List.mem_cons]at h;simp only[List.cons_append,look];split
  ·rfl
  ·rename_i ae;rcases h with h|h
   ·subst h;simp at ae
   ·exact Ex h
theorem IE(l:List aU)(i j:Nat)(x:aU):bB (e1 l i x) j=if i=j/\j<l.length then x else bB l j:=by
 rw[jn,jn,kj,List.getElem?_set];by_cases h:i=j
 ·subst h;by_cases ad:i<l.length
  ·simp[ad]
  ·simp[ad]
 ·simp[h]
theorem IF(l:List aU)(i:Nat)(x:aU): (e1 l i x).length=l.length:=by rw[kj];simp
theorem O4:∀ (kB:List (Nat×aU)) (l:List aU),(nP l kB).length=l.length
 | [],l=>rfl
 |p::r,l=>by rw[nP,O4 r,IF]
theorem Ey{k:Nat}:∀ {kB:List (Nat×aU)} {l:List aU},(¬ ∃bm,(k,bm)∈kB)->bB (nP l kB) k=bB l k
 | [],l,_=>rfl
 |p::r,l,h=>by
  have h1:p.1≠k:=fun e=>h ⟨p.2,by rw[<-e];simp⟩;rw[nP,Ey (fun⟨bm,aF⟩=>h ⟨bm,by simp[aF]⟩),IE,if_neg (fun bp=>h1 bp.1)]
theorem O5{k:Nat}:∀ {kB:List (Nat×aU)} {l ck:List aU},(∃bm,(k,bm)∈kB)->l.length=ck.length->bB (nP l kB) k=bB (nP ck kB) k
 | [],l,ck,h,_=>by obtain⟨_,h⟩:=h;simp at h
 |p::r,l,ck,h,af=>by
  by_cases ao:∃bm,(k,bm)∈r
  ·rw[nP,nP];exact O5 ao (by rw[IF,IF,af])
  ·rw[nP,nP,Ey ao,Ey ao];obtain⟨bm,aF⟩:=h;rcases List.mem_cons.1 aF with aF|aF
   ·rw[IE,IE,<-aF,af];split
    ·rfl
    ·rename_i aS;have aS:¬k<ck.length:=fun bp=>aS ⟨rfl,bp⟩;rw[jn,jn,List.getElem?_eq_none (by omega),List.getElem?_eq_none (by omega)]
   ·exact absurd ⟨bm,aF⟩ ao
def dY.fS(bl:dY)(t:Nat):Prop:=t∈bl.wj.map (·.1)
def dY.cp(bl:dY)(k:Nat):Prop:=∃bm,(k,bm)∈bl.kB
theorem O6(bl:dY)(s:bu): (bl.iK s).loc.length=s.loc.length:=O4 _ _
theorem wN{bl:dY}{s:bu}{t:Nat}(h:¬bl.fS t):look (bl.iK s).env t=look s.env t:=Ba h
theorem Ez{bl:dY}{s s':bu}{t:Nat}(h:bl.fS t):look (bl.iK s).env t=look (bl.iK s').env t:=Ex h
theorem yT{bl:dY}{s:bu}{k:Nat}(h:¬bl.cp k):bB (bl.iK s).loc k=bB s.loc k:=Ey h
theorem IG{bl:dY}{s s':bu}{k:Nat}(h:bl.cp k)(af:s.loc.length=s'.loc.length):bB (bl.iK s).loc k=bB (bl.iK s').loc k:=O5 h af
theorem XC{bl:dY}{s s':bu}(h1:∀t,look s.env t=look s'.env t)(ad:∀k,bB s.loc k=bB s'.loc k)(af:s.loc.length=s'.loc.length):
  (∀t,look (bl.iK s).env t=look (bl.iK s').env t)/\∀k,bB (bl.iK s).loc k=bB (bl.iK s').loc k:=by
 refine⟨fun t=> ?_,fun k=> ?_⟩
 ·by_cases h:bl.fS t
  ·exact Ez h
  ·rw[wN h,wN h,h1]
 ·by_cases h:bl.cp k
  ·exact IG h af
  ·rw[yT h,yT h,ad]
def en(cK:List dY)(eW:bu)(S:Nat->Bool):Nat->bu
 |0=>eW
 |n+1=>match cK[n]?,S n with
  |some bl,true=>bl.iK (en cK eW S n)
  |_,_=>en cK eW S n
section
variable {cK:List dY} {eW:bu} {S qh:Nat->Bool}
theorem tz:∀n,(en cK eW S n).loc.length=eW.loc.length
 |0=>rfl
 |n+1=>by
  unfold en;split
  ·rw[O6,tz n]
  ·exact tz n
theorem EA{t:Nat}:∀n,(∀j bl,j<n->cK[j]?=some bl->bl.fS t->S j=qh j)->look (en cK eW S n).env t=look (en cK eW qh n).env t
 |0,_=>rfl
 |n+1,h=>by
  have aN:=EA n (fun j bl ai=>h j bl (by omega));cases jc:cK[n]? with
  |none=>simp only[en,jc];exact aN
  |some bl=>
   by_cases ag:bl.fS t
   ·have:=h n bl (by omega) jc ag;cases sk:qh n<;>simp only[en,jc,this,sk]
    ·exact aN
    ·exact Ez ag
   ·cases cy:S n<;>cases sk:qh n<;>simp only[en,jc,cy,sk]
    all_goals first| (rw[wN ag,wN ag];exact aN)| (rw[wN ag];exact aN)|exact aN
theorem EB{k:Nat}:∀n,(∀j bl,j<n->cK[j]?=some bl->bl.cp k->S j=qh j)->bB (en cK eW S n).loc k=bB (en cK eW qh n).loc k
 |0,_=>rfl
 |n+1,h=>by
  have aN:=EB n (fun j bl ai=>h j bl (by omega));cases jc:cK[n]? with
  |none=>simp only[en,jc];exact aN
  |some bl=>
   by_cases ag:bl.cp k
   ·have:=h n bl (by omega) jc ag;cases sk:qh n<;>simp only[en,jc,this,sk]
    ·exact aN
    ·exact IG ag (by rw[tz,tz])
   ·cases cy:S n<;>cases sk:qh n<;>simp only[en,jc,cy,sk]
    all_goals first| (rw[yT ag,yT ag];exact aN)| (rw[yT ag];exact aN)|exact aN
theorem EC:∀n,(∀j,j<n->S j=qh j)->en cK eW S n=en cK eW qh n
 |0,_=>rfl
 |n+1,h=>by
  have aN:=EC n (fun j ai=>h j (by omega));simp only[en,h n (by omega),aN]
theorem yU{m:Nat}:∀n,m<=n->(∀j,m<=j->j<n->S j=false)->en cK eW S n=en cK eW S m
 |0,aT,h=>by
  have:m=0:=by omega
  subst this;rfl
 |n+1,aT,h=>by
  by_cases e:m=n+1
  ·subst e;rfl
  ·have aN:=yU n (by omega) (fun j h1 ad=>h j h1 (by omega));have:=h n (by omega) (by omega);simp only[en,this];split
   ·rename_i ad;cases ad
   ·exact aN
structure wO(cK:List dY)(looks:Nat->List Nat)(lq:Nat->Nat->Prop):Prop where
 XD:∀i j bl t,i<j->cK[i]?=some bl->bl.fS t->t∈looks j->lq j i
 XE:∀i j bl t,i<j->cK[j]?=some bl->bl.fS t->t∈looks i->lq j i
 XF:∀i j bl gm t,i<j->cK[i]?=some bl->cK[j]?=some gm->bl.fS t->gm.fS t->lq j i
 IH:∀i j bl gm k,i<j->cK[i]?=some bl->cK[j]?=some gm->bl.cp k->(k∈gm.ip\/gm.cp k)->lq j i
 XG:∀i j bl gm k,i<j->cK[i]?=some bl->cK[j]?=some gm->gm.cp k->k∈bl.ip->lq j i
variable {looks:Nat->List Nat} {lq:Nat->Nat->Prop} {N i:Nat} {bl:dY}
theorem XH(hO:wO cK looks lq)(js:∀i j,S i=true->lq i j->S j=true)(ab:S i=false)(ao:∀j,lq i j->S j=true)(uZ:i<N){t:Nat}(bW:t∈looks i):
  look (en cK eW S N).env t=look (en cK eW (fun _=>true) i).env t:=by
 have h1:look (en cK eW S N).env t=look (en cK eW (fun j=>decide (j<i)) N).env t:=by
  refine EA N (fun j bl ai jc ag=> ?_);rcases Nat.lt_trichotomy j i with ap|rfl|qi
  ·rw[ao j (hO.XD j i bl t ap jc ag bW)];simp[ap]
  ·rw[ab];simp
  ·have:lq j i:=hO.XE i j bl t qi jc ag bW;cases cy:S j with
   |false=>simp;omega
   |true=>exact absurd (js j i cy this) (by simp[ab])
 rw[h1,yU N (m:=i) (by omega) (fun j h1 ad=>by simp;omega),EC i (qh:=fun _=>true) (fun j ai=>by simp[ai])]
theorem XI(hO:wO cK looks lq)(js:∀i j,S i=true->lq i j->S j=true)(ab:S i=false)(ao:∀j,lq i j->S j=true)(uZ:i<N)(jQ:cK[i]?=some bl){k:Nat}(hk:k∈bl.ip\/bl.cp k):
  bB (en cK eW S N).loc k=bB (en cK eW (fun _=>true) i).loc k:=by
 have h1:bB (en cK eW S N).loc k=bB (en cK eW (fun j=>decide (j<i)) N).loc k:=by
  refine EB N (fun j gm ai jc ag=> ?_);rcases Nat.lt_trichotomy j i with ap|rfl|qi
  ·rw[ao j (hO.IH j i gm bl k ap jc jQ ag hk)];simp[ap]
  ·rw[ab];simp
  ·have:lq j i:=by
    rcases hk with hk|hk
    ·exact hO.XG i j bl gm k qi jQ jc ag hk
    ·exact hO.IH i j bl gm k qi jQ jc hk (.inr ag)
   cases cy:S j with
   |false=>simp;omega
   |true=>exact absurd (js j i cy this) (by simp[ab])
 rw[h1,yU N (m:=i) (by omega) (fun j h1 ad=>by simp;omega),EC i (qh:=fun _=>true) (fun j ai=>by simp[ai])]
theorem XJ(hO:wO cK looks lq)(js:∀i j,S i=true->lq i j->S j=true)(ab:S i=false)(uZ:i<N)(jQ:cK[i]?=some bl)(t:Nat):
  look (en cK eW (fun j=>S j||decide (j=i)) N).env t=look (bl.iK (en cK eW S N)).env t:=by
 by_cases ag:bl.fS t
 ·have h1:look (en cK eW (fun j=>S j||decide (j=i)) N).env t=look (en cK eW (fun j=>(S j||decide (j=i))&&decide (j<=i)) N).env t:=by
   refine EA N (fun j gm ai jc kY=> ?_);by_cases hle:j<=i
   ·simp[hle]
   ·have:lq j i:=hO.XF i j bl gm t (by omega) jQ jc ag kY;cases cy:S j with
    |false=>simp[hle];omega
    |true=>exact absurd (js j i cy this) (by simp[ab])
  rw[h1,yU N (m:=i+1) (by omega) (fun j h1 ad=>by simp;omega)];simp only[en,jQ,ab,Bool.false_or,decide_true,Bool.true_and,Nat.le_refl];exact Ez ag
 ·rw[wN ag];refine EA N (fun j gm ai jc kY=> ?_);by_cases e:j=i
  ·subst e;rw[jQ]at jc;cases jc;exact absurd kY ag
  ·simp[e]
theorem XK(hO:wO cK looks lq)(js:∀i j,S i=true->lq i j->S j=true)(ab:S i=false)(uZ:i<N)(jQ:cK[i]?=some bl)(k:Nat):
  bB (en cK eW (fun j=>S j||decide (j=i)) N).loc k=bB (bl.iK (en cK eW S N)).loc k:=by
 by_cases ag:bl.cp k
 ·have h1:bB (en cK eW (fun j=>S j||decide (j=i)) N).loc k=bB (en cK eW (fun j=>(S j||decide (j=i))&&decide (j<=i)) N).loc k:=by
   refine EB N (fun j gm ai jc kY=> ?_);by_cases hle:j<=i
   ·simp[hle]
   ·have:lq j i:=hO.IH i j bl gm k (by omega) jQ jc ag (.inr kY);cases cy:S j with
    |false=>simp[hle];omega
    |true=>exact absurd (js j i cy this) (by simp[ab])
  rw[h1,yU N (m:=i+1) (by omega) (fun j h1 ad=>by simp;omega)];simp only[en,jQ,ab,Bool.false_or,decide_true,Bool.true_and,Nat.le_refl];exact IG ag (by rw[tz,tz])
 ·rw[yT ag];refine EB N (fun j gm ai jc kY=> ?_);by_cases e:j=i
  ·subst e;rw[jQ]at jc;cases jc;exact absurd kY ag
  ·simp[e]
end
section
variable {ops:Array Oper}
inductive Reach(ops:Array Oper):Nat->Nat->Prop
 |ED{i:Nat}{o:Oper}{e:Edge}(aF:ops[i]?=some o)(he:e∈o.after)(ae:Region.binds .any e=true):Reach ops i e.on
 |trans{i j k:Nat}(h:Reach ops i j)(bb:Reach ops j k):Reach ops i k
theorem II{aL:List Nat}:∀ {l:List Edge} {m j:Nat},Nat.testBit (uB aL l m) j=true->Nat.testBit m j=true\/∃e∈l,Region.binds .any e=true/\(e.on=j\/Nat.testBit (aL.getD e.on 0) j=true)
 | [],m,j,h=>.inl h
 |e::r,m,j,h=>by
  unfold uB at h;split at h
  ·rename_i ae;rcases II h with h| ⟨cd,rY,nu,ai⟩
   ·have h:Nat.testBit (m||| (2^e.on|||aL.getD e.on 0)) j=true:=h;rw[Nat.testBit_or,Nat.testBit_or,Nat.testBit_two_pow]at h;simp only[Bool.or_eq_true,decide_eq_true_eq]at h;rcases h with h|h|h
    ·exact .inl h
    ·exact .inr ⟨e,by simp,ae,.inl h⟩
    ·exact .inr ⟨e,by simp,ae,.inr h⟩
   ·exact .inr ⟨cd,by simp[rY],nu,ai⟩
  ·rcases II h with h| ⟨cd,rY,nu,ai⟩
   ·exact .inl h
   ·exact .inr ⟨cd,by simp[rY],nu,ai⟩
def IJ(ops:Array Oper)(aL:List Nat):Prop:=∀i j,Nat.testBit (aL.getD i 0) j=true->Reach ops i j
theorem O7:∀ {l:List Oper} {aL:List Nat},ops.toList.drop aL.length=l->IJ ops aL->IJ ops (uC l aL)
 | [],aL,_,h=>h
 |o::r,aL,af,h=>by
  have aF:ops[aL.length]?=some o:=by
   have: (ops.toList.drop aL.length)[0]?=some o:=by rw[af];rfl
   simpa using this
  refine O7 (l:=r) ?_ (fun i j dS=> ?_)
  ·rw[List.length_append,List.length_singleton,<-List.drop_drop,af];rfl
  ·rcases Nat.lt_trichotomy i aL.length with ap|rfl|qi
   ·rw[List.getD_eq_getElem?_getD,List.getElem?_append_left ap,<-List.getD_eq_getElem?_getD]at dS;exact h i j dS
   ·have: (aL++ [uB aL o.after.toList 0]).getD aL.length 0=uB aL o.after.toList 0:=by simp
    rw[this]at dS;rcases II dS with aH| ⟨e,he,ae,ai⟩
    ·simp at aH
    ·have rY:e∈o.after:=by simpa using he
     rcases ai with rfl|ai
     ·exact .ED aF rY ae
     ·exact .trans (.ED aF rY ae) (h _ _ ai)
   ·have: (aL++ [uB aL o.after.toList 0]).getD i 0=0:=by
     rw[List.getD_eq_getElem?_getD,List.getElem?_eq_none (by simp;omega)];rfl
    rw[this]at dS;simp at dS
theorem O8:∀ {l:List Oper} {aL:List Nat},(uC l aL).length=aL.length+l.length
 | [],aL=>by simp[uC]
 |o::r,aL=>by rw[uC,O8];simp;omega
theorem Bb{l r:List Nat}{x:Nat}(h1:x∈l)(ad:x∈r):yh l r=true:=by
 simp only[yh,List.any_eq_true];exact⟨x,h1,x,ad,by simp⟩
theorem O9{f:q3}{i:Nat}:∀ {fs:List q3} {ms:List Nat} {j:Nat} {g:q3} {m:Nat},Ao f i fs ms=true->fs[j]?=some g->ms[j]?=some m->s7 f g=true->Nat.testBit m i=true
 | [],_,j,g,m,_,ax,_,_=>by simp at ax
 |_::_,[],j,g,m,_,_,aT,_=>by simp at aT
 |c5::r,dM::ms,0,g,m,h,ax,aT,al=>by
  simp at ax aT;subst ax;subst aT;simp only[Ao,Bool.and_eq_true,Bool.or_eq_true,Bool.not_eq_true']at h;rcases h.1 with h1|h1
  ·rw[al]at h1;cases h1
  ·exact h1
 |c5::r,dM::ms,j+1,g,m,h,ax,aT,al=>by
  simp only[Ao,Bool.and_eq_true]at h;exact O9 (j:=j) h.2 (by simpa using ax) (by simpa using aT) al
theorem Pa:∀ {fs:List q3} {ms:List Nat} {b i j:Nat} {f g:q3} {m:Nat},Ap b fs ms=true->i<j->fs[i]?=some f->fs[j]?=some g->ms[j]?=some m->s7 f g=true->Nat.testBit m (b+i)=true
 | [],_,b,i,j,f,g,m,_,_,aI,_,_,_=>by simp at aI
 |_::_,[],b,i,j,f,g,m,_,_,_,_,aT,_=>by simp at aT
 |jk::r,dM::ms,b,0,j+1,f,g,m,h,dS,aI,ax,aT,al=>by
  simp at aI;subst aI;simp only[Ap,Bool.and_eq_true]at h;exact O9 (j:=j) h.1 (by simpa using ax) (by simpa using aT) al
 |jk::r,dM::ms,b,i+1,j+1,f,g,m,h,dS,aI,ax,aT,al=>by
  simp only[Ap,Bool.and_eq_true]at h;have:=Pa (i:=i) (j:=j) h.2 (by omega) (by simpa using aI) (by simpa using ax) (by simpa using aT) al;rwa[Nat.add_assoc,Nat.add_comm 1 i]at this
 |jk::r,dM::ms,b,i,0,f,g,m,h,dS,aI,ax,aT,al=>by omega
theorem IK:∀ {l:List Oper} {cK:List dY} {i:Nat} {o:Oper} {bl:dY},l[i]?=some o->cK[i]?=some bl->(DE ops l cK)[i]?=some (rU ops o bl)
 | [],_,i,o,bl,h,_=>by simp at h
 |_::_,[],i,o,bl,_,h=>by simp at h
 |aK::r,gm::cK,0,o,bl,h,bb=>by simp at h bb;subst h;subst bb;rfl
 |aK::r,gm::cK,i+1,o,bl,h,bb=>by
  simp only[DE,List.getElem?_cons_succ];exact IK (by simpa using h) (by simpa using bb)
theorem Pb:∀ {l:List Oper} {b i:Nat} {o:Oper},wk l b=true->l[i]?=some o->∀e∈o.after,Region.binds .any e=true->e.on<b+i
 | [],b,i,o,_,h,_,_,_=>by simp at h
 |aK::r,b,0,o,aa,h,e,he,ae=>by
  simp at h;subst h;simp only[wk,Bool.and_eq_true,List.all_eq_true]at aa;have:=aa.1 e (by simpa using he);rw[ae]at this;have this:e.on<b:=by simpa using this
  omega
 |aK::r,b,i+1,o,aa,h,e,he,ae=>by
  simp only[wk,Bool.and_eq_true]at aa;have:=Pb (i:=i) aa.2 (by simpa using h) e he ae;omega
def wP(ops:Array Oper)(i:Nat):List Nat:=
 match ops[i]? with
 |some o=>o.looksAt ops
 |none=>[]
theorem XL{cK:List dY}(af:cK.length=ops.size)(h:DF ops cK=true):wO cK (wP ops) (Reach ops):=by
 simp only[DF,Bool.and_eq_true]at h;have XM:IJ ops (uC ops.toList []):=O7 (by simp) (fun i j dS=>by simp at dS);have key:∀i j bl gm o aK,i<j->cK[i]?=some bl->cK[j]?=some gm->ops[i]?=some o->ops[j]?=some aK->s7 (rU ops o bl) (rU ops aK gm)=true->Reach ops j i:=by
  intro i j bl gm o aK dS h1 ad aC bh al;have ai:j<(uC ops.toList []).length:=by
   rw[O8];have:=(Array.getElem?_eq_some_iff.1 bh).1;simpa using this
  have:=Pa h.2 dS (IK (by simpa using aC) h1) (IK (by simpa using bh) ad) (List.getElem?_eq_getElem ai) al;rw[Nat.zero_add]at this;refine XM j i ?_;rwa[List.getD_eq_getElem?_getD,List.getElem?_eq_getElem ai]
 have u0:∀ {i:Nat} {bl:dY},cK[i]?=some bl->∃o,ops[i]?=some o:=by
  intro i bl ab;have:=(List.getElem?_eq_some_iff.1 ab).1;exact⟨ops[i],Array.getElem?_eq_getElem (by omega)⟩
 have looks:∀ {i t:Nat},t∈wP ops i->∃o bl,ops[i]?=some o/\cK[i]?=some bl/\t∈o.looksAt ops:=by
  intro i t bW;unfold wP at bW;split at bW
  ·rename_i o aF;have:=(Array.getElem?_eq_some_iff.1 aF).1;exact⟨o,cK[i]'(by omega),aF,List.getElem?_eq_getElem (by omega),bW⟩
  ·simp at bW
 have IL:∀ {bl:dY} {o:Oper} {k:Nat},bl.cp k->k∈ (rU ops o bl).kB:=by
  rintro bl o k ⟨bm,h⟩;exact List.mem_map.2 ⟨_,h,rfl⟩
 refine⟨fun i j bl t dS h1 ag bW=> ?_,fun i j bl t dS h1 ag bW=> ?_,fun i j bl gm t dS h1 ad ag kY=> ?_,fun i j bl gm k dS h1 ad hk fi=> ?_,fun i j bl gm k dS h1 ad hk fi=> ?_⟩
 ·obtain⟨aK,gm,gU,IM,bW⟩:=looks bW;obtain⟨o,aF⟩:=u0 h1;refine key i j bl gm o aK dS h1 IM aF gU ?_;simp only[s7,Bool.or_eq_true];exact .inl (.inl (.inl (Bb (l:=(rU ops o bl).aX) ag (by simp[rU,bW]))))
 ·obtain⟨o,gm,aF,IM,bW⟩:=looks bW;obtain⟨aK,gU⟩:=u0 h1;refine key i j gm bl o aK dS IM h1 aF gU ?_;simp only[s7,Bool.or_eq_true];exact .inl (.inl (.inr (Bb (l:=(rU ops o gm).s6) bW ag)))
 ·obtain⟨o,aF⟩:=u0 h1;obtain⟨aK,gU⟩:=u0 ad;refine key i j bl gm o aK dS h1 ad aF gU ?_;simp only[s7,Bool.or_eq_true];exact .inl (.inl (.inl (Bb (l:=(rU ops o bl).aX) ag (List.mem_append.2 (.inr kY)))))
 ·obtain⟨o,aF⟩:=u0 h1;obtain⟨aK,gU⟩:=u0 ad;refine key i j bl gm o aK dS h1 ad aF gU ?_;simp only[s7,Bool.or_eq_true];refine .inl (.inr (Bb (x:=k) (IL hk) (List.mem_append.2 ?_)));rcases fi with fi|fi
  ·exact .inl fi
  ·exact .inr (IL fi)
 ·obtain⟨o,aF⟩:=u0 h1;obtain⟨aK,gU⟩:=u0 ad;refine key i j bl gm o aK dS h1 ad aF gU ?_;simp only[s7,Bool.or_eq_true];exact .inr (Bb (l:=(rU ops o bl).ip) fi (IL hk))
end
open Go
def df(F: (Option Prop->aj->Prop)->Prop):Prop:=∀Q,F Q->∃c d,Q c d/\∀mu,mu c d->F mu
section
variable {P:Program} {ah:c4} {s:bu} {ρ:Operand->aj} {loc:List aU}
theorem e5(c:Option Prop)(d:aj):df (fun Q=>Q c d):=fun Q h=>⟨c,d,h,fun _ bb=>bb⟩
theorem b8:df (fun _=>False):=fun Q h=>h.elim
theorem lX{α:Type}{F:α->(Option Prop->aj->Prop)->Prop}(h:∀k,df (F k)):df (fun Q=>∃k,F k Q):=fun Q ⟨k,hk⟩=>by
 obtain⟨c,d,h1,ad⟩:=h k Q hk;exact⟨c,d,h1,fun mu bb=>⟨k,ad mu bb⟩⟩
theorem pz{F:aj->(Option Prop->aj->Prop)->Prop}{d:aj}(h:df (F d)):df (fun Q=>fl d fun d=>F d Q):=by cases d<;>exact h
theorem Pc:∀ {n:Nat} {l:List aj} {F:List aj->(Option Prop->aj->Prop)->Prop},(∀l,df (F l))->df (fun Q=>sW n l fun l=>F l Q)
 |0,l,F,h=>h []
 |n+1,[],F,h=>b8
 |n+1,d::r,F,h=>pz (F:=fun d Q=>sW n r fun l=>F (d::l) Q) (Pc (F:=fun l Q=>F (d::l) Q) (fun l=>h (d::l)))
theorem yV:∀ {n:Nat} {l:List aj} {F:List aj->(Option Prop->aj->Prop)->Prop},(∀l,df (F l))->df (fun Q=>nK n l fun l=>F l Q)
 |0,l,F,h=>h l
 |n+1,[],F,h=>b8
 |n+1,d::r,F,h=>yV (l:=r) h
theorem EE{agg:Bool}{size:Nat}{l:List aj}{F:aj->(Option Prop->aj->Prop)->Prop}(h:∀d,df (F d)):df (fun Q=>kg agg size l fun d=>F d Q):=by
 cases agg
 ·cases l
  ·exact b8
  ·exact pz (h _)
 ·exact Pc (F:=fun l Q=>F (.agg l) Q) (fun l=>h _)
theorem IN{place:Nat->Nat×Nat}{F:List aj->(Option Prop->aj->Prop)->Prop}(h:∀l,df (F l)):∀ {parts:List (Nat×Operand)} {cs:List aj},df (fun Q=>oy ρ place parts cs fun l=>F l Q)
 | [],cs=>h cs
 | (i,x)::r,cs=>by
  refine pz (F:=fun d Q=>match d with
   | .bP _ _=>False
   | .a1 _=>False
   | .aW=>False
   |d=>match Nat.beq (cN d).length (place i).2&&Nat.ble ((place i).1+(cN d).length) cs.length&&Nat.blt 0 (place i).2 with
    |true=>pX (hl cs (place i).1 (cN d)) fun cY=>oy ρ place r cY fun l=>F l Q
    |false=>False) ?_
  have key:∀d,df (fun Q=>match Nat.beq (cN d).length (place i).2&&Nat.ble ((place i).1+(cN d).length) cs.length&&Nat.blt 0 (place i).2 with
    |true=>pX (hl cs (place i).1 (cN d)) fun cY=>oy ρ place r cY fun l=>F l Q
    |false=>False):=by
   intro d;generalize(Nat.beq (cN d).length (place i).2&&Nat.ble ((place i).1+(cN d).length) cs.length&&Nat.blt 0 (place i).2)=b;cases b
   ·exact b8
   ·have e: (fun Q=>pX (hl cs (place i).1 (cN d)) fun cY=>oy ρ place r cY fun l=>F l Q)=fun Q=>oy ρ place r (hl cs (place i).1 (cN d)) fun l=>F l Q:=funext fun Q=>propext sV;show df (fun Q=>pX (hl cs (place i).1 (cN d)) fun cY=>oy ρ place r cY fun l=>F l Q);rw[e];exact IN h
  generalize ρ x=d;cases d<;>first|exact b8|exact key _
theorem Pd{F:List aj->(Option Prop->aj->Prop)->Prop}:∀ {l:List Operand} {F:List aj->(Option Prop->aj->Prop)->Prop},(∀l,df (F l))->df (fun Q=>p0 ρ l fun l=>F l Q)
 | [],F,h=>h []
 |x::r,F,h=>pz (F:=fun d Q=>p0 ρ r fun l=>F (d::l) Q) (Pd (F:=fun l Q=>F (ρ x::l) Q) (fun l=>h _))
theorem EF{b:Bool}{d:aj}{F:Option Prop->aj->(Option Prop->aj->Prop)->Prop}(h:∀c d,df (F c d)):df (fun Q=>pZ b d fun c d=>F c d Q):=by
 cases d<;>exact h _ _
theorem Pe{c sX vZ:Bool}{x y:aj}{F:aj->(Option Prop->aj->Prop)->Prop}(h:∀d,df (F d)):df (fun Q=>ox c x y sX vZ fun d=>F d Q):=by
 cases x
 case v x=>
  cases x
  case bool p=>
   cases y
   case v y=>
    cases y
    case bool q=>cases sX<;>cases vZ<;>exact h _
    all_goals exact b8
   all_goals exact b8
  all_goals exact b8
 all_goals exact b8
theorem XN{c a b:Operand}:df (v2 ρ c a b):=by
 unfold v2;generalize ρ c=x;cases x
 case v x=>
  cases x
  case bool t=>
   exact EF (F:=fun dX x Q=>pZ (!t) (ρ b) fun de y=>fl x fun x=>fl y fun y=>ox t x y (pd a) (pe b) fun d=>Q (andO dX de) d)
    (fun dX x=>EF (F:=fun de y Q=>fl x fun x=>fl y fun y=>ox t x y (pd a) (pe b) fun d=>Q (andO dX de) d)
    (fun de y=>pz (F:=fun x Q=>fl y fun y=>ox t x y (pd a) (pe b) fun d=>Q (andO dX de) d)
    (pz (F:=fun y Q=>ox t x y (pd a) (pe b) fun d=>Q (andO dX de) d) (Pe (F:=fun d Q=>Q (andO dX de) d) (fun d=>e5 _ _)))))
  all_goals exact b8
 all_goals exact b8
theorem IP{F:Bool->(Option Prop->aj->Prop)->Prop}:∀ {cA:List nm} {xs ys:List aj} {F:Bool->(Option Prop->aj->Prop)->Prop},(∀b,df (F b))->df (fun Q=>nL cA xs ys fun b=>F b Q)
 | [],[],[],F,h=>h true
 |k::cA,x::r,y::dZ,F,h=>by
  have aN:∀e,df (fun Q=>nL cA r dZ fun z=>F (e&&z) Q):=fun e=>IP (F:=fun z Q=>F (e&&z) Q) (fun z=>h _);show df (fun Q=>Ac k x y fun e=>nL cA r dZ fun z=>F (e&&z) Q);unfold Ac;cases k<;>cases x
  all_goals first|exact b8|skip
  all_goals rename_i p
  all_goals cases p
  all_goals first|exact b8|skip
  all_goals cases y
  all_goals first|exact b8|skip
  all_goals rename_i q
  all_goals cases q
  all_goals first|exact b8|exact aN _|skip
  rename_i k cx a cM b;show df (fun Q=>match pf k cx&&pf k cM with
   |true=>nL cA r dZ fun z=>F (decide (a=b)&&z) Q
   |false=>False)
  generalize(pf k cx&&pf k cM)=e;cases e
  ·exact b8
  ·exact aN _
 | [],[],_::_,F,h=>b8
 | [],_::_,[],F,h=>b8
 | [],_::_,_::_,F,h=>b8
 |_::_,[],[],F,h=>b8
 |_::_,[],_::_,F,h=>b8
 |_::_,_::_,[],F,h=>b8
theorem XO{t:TypeId}{op:BinOp}{x y:aj}:df (x0 ah t op x y):=by
 unfold x0;cases x
 case v x=>
  cases x
  case int k a=>
   cases y
   case v y=>
    cases y
    case int dv b=>
     show df (fun Q=>match M3 op with
      |true=>Ae op k a b Q
      |false=>match pf k dv with
       |true=>Ad op k a b Q
       |false=>False)
     cases op;all_goals first|exact e5 _ _|skip
     all_goals generalize pf k dv=e
     all_goals cases e
     all_goals first|exact b8|exact e5 _ _
    all_goals exact b8
   all_goals exact b8
  case string a=>
   cases y
   case v y=>
    cases y
    case string b=>
     cases op;all_goals first|exact e5 _ _|exact b8
    all_goals exact b8
   all_goals exact b8
  case bool a=>
   cases y
   case v y=>
    cases y
    case bool b=>
     show df (fun Q=>match (ay ah t).k with
      | .bool=>Af op a b Q
      |_=>False)
     generalize(ay ah t).k=k;cases k
     case bool=>cases op<;>first|exact e5 _ _|exact b8
     all_goals exact b8
    all_goals exact b8
   all_goals exact b8
  all_goals exact b8
 case agg a=>
  cases y
  case agg b=>
   show df (fun Q=>xZ ah t op a b Q);unfold xZ;generalize flatK ah 5 t=f;generalize(ay ah t).agg=g;cases f
   ·exact b8
   ·cases g
    ·exact b8
    ·cases op
     case eql=>exact IP (F:=fun r Q=>Q none (.v (.bool r))) (fun _=>e5 _ _)
     case neq=>exact IP (F:=fun r Q=>Q none (.v (.bool (!r)))) (fun _=>e5 _ _)
     all_goals exact b8
  all_goals exact b8
 all_goals exact b8
theorem XP{cA k:Dp}{d:aj}:df (x2 ah cA k d):=by
 unfold x2;cases cA
 case int=>
  cases k
  case int=>
   cases d
   case v x=>cases x<;>first|exact e5 _ _|exact b8
   all_goals exact b8
  all_goals exact b8
 case str=>
  cases k
  case str=>
   cases d
   case v x=>cases x<;>first|exact e5 _ _|exact b8
   all_goals exact b8
  all_goals exact b8
 case dW e=>
  cases k
  case str=>
   cases d
   case aq av es f=>
    show df (fun Q=>match (ay ah e).k,Nat.beq av 1 with
     | .int .u8,true=>∃oz:List UInt8,Q (some (es=oz.map v1)) (.v (.string ⟨oz.toArray⟩))
     |_,_=>False)
    generalize(ay ah e).k=k;generalize Nat.beq av 1=b;cases k
    case int k=>
     cases k
     case u8=>
      cases b
      ·exact b8
      ·exact lX (fun _=>e5 _ _)
     all_goals exact b8
    all_goals exact b8
   all_goals exact b8
  all_goals exact b8
 all_goals exact b8
theorem XQ{t:TypeId}{f:Nat}{d:aj}:df (sZ ah loc t f d):=by
 unfold sZ;generalize(ay ah t).k=k;cases k
 case cr fs=>
  show df (fun Q=>match (ay ah (fO fs f).1).size with
   |0=>False
   |_=>match d with
    | .aP i o=>Q none (.aP i (o+(fO fs f).2))
    | .dc i o=>Q none (.dc i (o+(fO fs f).2))
    | .cF i k o=>match hJ (bB loc i)with
     |true=>Q none (.cF i k (o+(fO fs f).2))
     |false=>False
    | .cD cs=>nK (fO fs f).2 cs fun l=>Q none (.cD l)
    |_=>False)
  generalize(ay ah (fO fs f).1).size=z;cases z
  ·exact b8
  ·cases d
   case cD cs=>exact yV (F:=fun l Q=>Q none (.cD l)) (fun l=>e5 _ _)
   case cF i k o=>
    show df (fun Q=>match hJ (bB loc i)with
     |true=>Q none (.cF i k (o+(fO fs f).2))
     |false=>False)
    generalize hJ (bB loc i)=b;cases b
    ·exact b8
    ·exact e5 _ _
   all_goals first|exact e5 _ _|exact b8
 all_goals exact b8
theorem XR{t:TypeId}{f:Nat}{d:aj}:df (x3 ah t f d):=by
 unfold x3;generalize(ay ah t).k=k;cases k
 case cr fs=>
  show df (fun Q=>match (ay ah (fO fs f).1).size with
   |0=>False
   |_=>match d with
    | .agg cs=>nK (fO fs f).2 cs fun l=>kg (ay ah (fO fs f).1).agg (ay ah (fO fs f).1).size l fun d=>Q none d
    |_=>False)
  generalize(ay ah (fO fs f).1).size=z;cases z
  ·exact b8
  ·cases d
   case agg cs=>exact yV (F:=fun l Q=>kg _ _ l fun d=>Q none d) (fun l=>EE (F:=fun d Q=>Q none d) (fun d=>e5 _ _))
   all_goals exact b8
 all_goals exact b8
theorem XS{size:Nat}{gS:Int}{d:aj}:df (v7 loc size gS d):=by
 unfold v7;cases d
 case aq av es f=>
  show df (fun Q=>match Nat.beq av size with
   |true=>∃ (k:Nat) (ez:List aj),Q (some (gS=k/\es[k]?=some ez)) (.cD ez)
   |false=>False)
  generalize Nat.beq av size=b;cases b
  ·exact b8
  ·exact lX (fun k=>lX (fun ez=>e5 _ _))
 case own j=>
  show df (fun Q=>match bB loc j with
   | .row _ av es=>match Nat.beq av size with
    |true=>∃k:Nat,Q (some (gS=k/\k<es.length)) (.cF j k 0)
    |false=>False
   |_=>False)
  generalize bB loc j=bm;cases bm
  case row e av es=>
   show df (fun Q=>match Nat.beq av size with
    |true=>∃k:Nat,Q (some (gS=k/\k<es.length)) (.cF j k 0)
    |false=>False)
   generalize Nat.beq av size=b;cases b
   ·exact b8
   ·exact lX (fun k=>e5 _ _)
  all_goals exact b8
 all_goals exact b8
theorem XT{n size:Nat}{lit:Option Nat}{gS:Int}{d:aj}:df (x4 n size lit gS d):=by
 unfold x4;cases lit
 ·cases d
  case aP=>exact lX (fun k=>e5 _ _)
  case dc=>exact lX (fun k=>e5 _ _)
  all_goals exact b8
 ·cases d<;>first|exact e5 _ _|exact b8
theorem XU{t:TypeId}{i:Operand}{x y:aj}:df (s0 ah loc t i x y):=by
 unfold s0;generalize(ay ah t).k=k;cases k
 case dW e=>
  cases y
  case v y=>
   cases y
   case int AF gS=>
    show df (fun Q=>match (ay ah e).size with
     |0=>False
     |_=>v7 loc (ay ah e).size gS x Q)
    generalize(ay ah e).size=z;cases z
    ·exact b8
    ·exact XS
   all_goals exact b8
  all_goals exact b8
 case arr n e=>
  cases y
  case v y=>
   cases y
   case int AF gS=>
    show df (fun Q=>match (ay ah e).size with
     |0=>False
     |_=>x4 n (ay ah e).size (Dr i) gS x Q)
    generalize(ay ah e).size=z;cases z
    ·exact b8
    ·exact XT
   all_goals exact b8
  all_goals exact b8
 all_goals exact b8
theorem XV{t:TypeId}{x y:aj}:df (x5 ah t x y):=by
 unfold x5;cases y
 case v y=>
  cases y
  case int AF gS=>
   show df (fun Q=>match (ay ah t).k,x with
    | .str,.v (.string s)=>∃k:Nat,Q (some (gS=k/\k<s.size)) (.v (.int .u8 (s.data.getD k 0).toNat))
    | .arr n e,.agg cs=>match (ay ah e).agg,Nat.beq (ay ah e).size 1 with
     |false,true=>∃ (k:Nat) (d:aj),fl d fun d=>Q (some (gS=k/\k<n/\cs[k]?=some d)) d
     |_,_=>False
    |_,_=>False)
   generalize(ay ah t).k=k;cases k
   case str=>
    cases x
    case v x=>cases x<;>first|exact lX (fun k=>e5 _ _)|exact b8
    all_goals exact b8
   case arr n e=>
    cases x
    case agg cs=>
     show df (fun Q=>match (ay ah e).agg,Nat.beq (ay ah e).size 1 with
      |false,true=>∃ (k:Nat) (d:aj),fl d fun d=>Q (some (gS=k/\k<n/\cs[k]?=some d)) d
      |_,_=>False)
     generalize(ay ah e).agg=g;generalize Nat.beq (ay ah e).size 1=b;cases g
     ·cases b
      ·exact b8
      ·exact lX (fun k=>lX (fun d=>pz (F:=fun d Q=>Q (some (gS=k/\k<n/\cs[k]?=some d)) d) (e5 _ _)))
     ·exact b8
    all_goals exact b8
   all_goals exact b8
  all_goals exact b8
 all_goals exact b8
theorem XW{t:TypeId}{d:aj}:df (qW ah loc t d):=by
 unfold qW;generalize(ay ah t).size=z;generalize(ay ah t).agg=g;cases z
 ·exact b8
 ·cases d
  case cD cs=>exact EE (F:=fun d Q=>Q none d) (fun d=>e5 _ _)
  case aP i o=>
   show df (fun Q=>match bB loc i with
    | .cells _ cs=>nK o cs fun l=>kg g _ l fun d=>Q none d
    |_=>False)
   generalize bB loc i=bm;cases bm
   case cells c1 cs=>exact yV (F:=fun l Q=>kg _ _ l fun d=>Q none d) (fun l=>EE (F:=fun d Q=>Q none d) (fun d=>e5 _ _))
   all_goals exact b8
  case dc i o=>
   rename_i z;show df (fun Q=>match bB loc i with
    | .cells _ cs=>match g with
     |true=>∃ds:List aj,Q (some ((cs.drop o).take (z+1)=ds/\ds.length=z+1)) (.agg ds)
     |false=>∃d:aj,fl d fun d=>Q (some (cs[o]?=some d)) d
    |_=>False)
   generalize bB loc i=bm;cases bm
   case cells c1 cs=>
    cases g
    ·exact lX (fun d=>pz (F:=fun d Q=>Q (some (cs[o]?=some d)) d) (e5 _ _))
    ·exact lX (fun d=>e5 _ _)
   all_goals exact b8
  case cF i k o=>
   rename_i z;show df (fun Q=>match bB loc i with
    | .row _ _ es=>∃ez:List aj,nK o ez fun l=>kg g (z+1) l fun d=>Q (some (es[k]?=some ez)) d
    |_=>False)
   generalize bB loc i=bm;cases bm
   case row e av es=>
    exact lX (fun ez=>yV (F:=fun l Q=>kg g (z+1) l fun d=>Q (some (es[k]?=some ez)) d) (fun l=>EE (F:=fun d Q=>Q (some (es[k]?=some ez)) d) (fun d=>e5 _ _)))
   all_goals exact b8
  all_goals exact b8
theorem XX{n:Nat}{d:aj}:df (x6 n d):=by
 unfold x6;cases d
 case a1 ds=>
  refine yV (F:=fun l Q=>match l with
   |d::_=>fl d fun d=>Q none d
   | []=>False) (fun l=> ?_)
  cases l
  ·exact b8
  ·exact pz (F:=fun d Q=>Q none d) (e5 _ _)
 all_goals exact b8
theorem XY{t:TypeId}{d:aj}{gE ab dF:Option Operand}:df (x7 ah t ρ d gE ab dF):=by
 unfold x7;generalize(ay ah t).k=k;cases k
 case str=>
  cases d
  case v x=>
   cases x
   case string s=>
    cases dF
    ·exact lX (fun l=>lX (fun h=>e5 _ _))
    ·exact b8
   all_goals exact b8
  all_goals exact b8
 case dW e=>
  cases d
  case ar=>
   show df (fun Q=>match (ay ah e).size,dF with
    |0,_=>False
    |_,some _=>False
    |_,none=>Q (some (lF ρ gE 0 0/\lF ρ ab 0 0)) .ar)
   generalize(ay ah e).size=z;cases z<;>cases dF<;>first|exact b8|exact e5 _ _
  case aq av es pW=>
   show df (fun Q=>match (ay ah e).size,Nat.beq av (ay ah e).size with
    |0,_=>False
    |_,false=>False
    |_,true=>match ab,dF with
     |none,none=>∃l:Nat,Q (some (lF ρ gE l 0/\l<=es.length)) (.aq av (es.drop l) pW)
     |some aF,none=>∃l h:Nat,Q (some (lF ρ gE l 0/\lF ρ (some aF) h 0/\l<=h/\h<=es.length)) (.aq av ((es.take h).drop l) false)
     |some aF,some Hj=>∃l h:Nat,Q (some (lF ρ gE l 0/\lF ρ (some aF) h 0/\lF ρ (some Hj) h 0/\l<=h/\h<=es.length)) (.aq av ((es.take h).drop l) true)
     |none,some _=>False)
   generalize Nat.beq av (ay ah e).size=b;generalize(ay ah e).size=z;cases z
   ·exact b8
   ·cases b
    ·exact b8
    ·cases ab<;>cases dF
     ·exact lX (fun l=>e5 _ _)
     ·exact b8
     ·exact lX (fun l=>lX (fun h=>e5 _ _))
     ·exact lX (fun l=>lX (fun h=>e5 _ _))
  all_goals exact b8
 all_goals exact b8
theorem XZ{t:TypeId}{parts:List (Nat×Operand)}:df (x9 ah t ρ parts):=by
 unfold x9;generalize(ay ah t).k=k;generalize(ay ah t).zero=z0;generalize(ay ah t).size=z;cases k
 case cr fs=>
  show df (fun Q=>match x8 ah fs,z with
   |true,_+1=>oy ρ _ parts z0 fun l=>Q none (.agg l)
   |_,_=>False)
  generalize x8 ah fs=b;cases b
  ·exact b8
  ·cases z
   ·exact b8
   ·exact IN (F:=fun l Q=>Q none (.agg l)) (fun l=>e5 _ _)
 case arr n e=>
  show df (fun Q=>match (ay ah e).size,z with
   |_+1,_+1=>oy ρ (fun i=>(i* (ay ah e).size,(ay ah e).size)) parts z0 fun l=>Q none (.agg l)
   |_,_=>False)
  generalize(ay ah e).size=y;cases y
  ·exact b8
  ·cases z
   ·exact b8
   ·exact IN (F:=fun l Q=>Q none (.agg l)) (fun l=>e5 _ _)
 all_goals exact b8
theorem Pf{op:Op}:df (lG ah loc op ρ):=by
 cases op
 case move x=>exact pz (F:=fun d Q=>Q none d) (e5 _ _)
 case assign x=>exact pz (F:=fun d Q=>Q none d) (e5 _ _)
 case pick=>exact XN
 case nilCheck x=>
  show df (fun Q=>sY loc (ρ x) Q);generalize ρ x=d;unfold sY;cases d
  case fn f c=>cases f<;>first|exact e5 _ _|exact b8
  case cF i k o=>
   show df (fun Q=>match hJ (bB loc i)with
    |true=>Q none (.cF i k o)
    |false=>False)
   generalize hJ (bB loc i)=b;cases b
   ·exact b8
   ·exact e5 _ _
  all_goals first|exact e5 _ _|exact b8
 case binOp=>exact XO
 case unOp op t x=>
  show df (fun Q=>x1 op (ρ x) Q);generalize ρ x=d;unfold x1;cases op<;>cases d
  all_goals first|exact b8|skip
  all_goals rename_i y
  all_goals cases y
  all_goals first|exact e5 _ _|exact b8
 case convert=>exact XP
 case fieldAddr=>exact XQ
 case field=>exact XR
 case indexAddr=>exact XU
 case index=>exact XV
 case load=>exact XW
 case extract=>exact XX
 case slice=>exact XY
 case makeFunc f first b2=>
  show df (fun Q=>match first.toList with
   | []=>p0 ρ b2.toList fun l=>match l.all j0 with
    |true=>Q none (.fn f l)
    |false=>False
   |_=>False)
  generalize first.toList=l
  cases l
  ·refine Pd (F:=fun l Q=>match l.all j0 with
    |true=>Q none (.fn f l)
    |false=>False) (fun l=> ?_)
   generalize l.all j0=b;cases b<;>first|exact e5 _ _|exact b8
  ·exact b8
 case build=>exact XZ
 case call c=>
  obtain⟨callee,args,dL⟩:=c;cases callee
  case builtin b=>
   cases b
   case len=>
    show df (fun Q=>match args.toList,dL.toList with
     | [x],[t]=>rR ah loc t (ρ x) Q
     |_,_=>False)
    generalize args.toList=l;generalize dL.toList=ck;cases l with
    |nil=>exact b8
    |cons x r=>
     cases r with
     |cons _ _=>exact b8
     |nil=>
      cases ck with
      |nil=>exact b8
      |cons t dZ=>
       cases dZ with
       |cons _ _=>exact b8
       |nil=>
        show df (fun Q=>rR ah loc t (ρ x) Q);generalize ρ x=d;unfold rR;generalize(ay ah t).k=k;cases k
        case dW e=>
         cases d
         case own j=>
          show df (fun Q=>match bB loc j with
           | .row _ _ es=>Q none (.v (.int .i64 es.length))
           |_=>False)
          generalize bB loc j=bm;cases bm<;>first|exact e5 _ _|exact b8
         all_goals first|exact e5 _ _|exact b8
        case str=>
         cases d
         case v x=>cases x<;>first|exact e5 _ _|exact b8
         all_goals exact b8
        all_goals first|exact e5 _ _|exact b8
   case min=>
    show df (fun Q=>match args.toList with
     | [x,y]=>v8 (ρ x) (ρ y) Q
     |_=>False)
    generalize args.toList=l;rcases l with _| ⟨x,_| ⟨y,_|_⟩⟩
    ·exact b8
    ·exact b8
    ·show df (fun Q=>v8 (ρ x) (ρ y) Q);generalize ρ x=d;generalize ρ y=e;unfold v8;cases d
     case v d=>
      cases d
      case int=>
       cases e
       case v e=>cases e<;>first|exact e5 _ _|exact b8
       all_goals exact b8
      all_goals exact b8
     all_goals exact b8
    ·exact b8
   case max=>
    show df (fun Q=>match args.toList with
     | [x,y]=>wa (ρ x) (ρ y) Q
     |_=>False)
    generalize args.toList=l;rcases l with _| ⟨x,_| ⟨y,_|_⟩⟩
    ·exact b8
    ·exact b8
    ·show df (fun Q=>wa (ρ x) (ρ y) Q);generalize ρ x=d;generalize ρ y=e;unfold wa;cases d
     case v d=>
      cases d
      case int=>
       cases e
       case v e=>cases e<;>first|exact e5 _ _|exact b8
       all_goals exact b8
      all_goals exact b8
     all_goals exact b8
    ·exact b8
   all_goals exact b8
  all_goals exact b8
 all_goals exact b8
theorem X0{g:Bool}{c a b:Operand}:df (uz s g c a b):=by
 have X1:∀ {l:List Operand} {F:Option Prop->(Option Prop->aj->Prop)->Prop},(∀c,df (F c))->df (fun Q=>mL g s l fun c=>F c Q):=by
  intro l;induction l with
  |nil=>intro F h;exact h _
  |cons x r aN=>
   intro F h;show df (fun Q=>match bq s x with
    | .bP c5 _=>mL g s r fun c=>F (andO (some (g=true->c5=true)) c) Q
    |_=>mL g s r fun c=>F c Q)
   generalize bq s x=d;cases d
   case bP c5 d=>exact aN (F:=fun c Q=>F (andO (some (g=true->c5=true)) c) Q) (fun c=>h _)
   all_goals exact aN h
 unfold uz;refine X1 (F:=fun h0 Q=>match hz s c with
  | .v (.bool t)=>pZ (g&&t) (bq s a) fun dX x=>pZ (g&& !t) (bq s b) fun de y=>fl x fun x=>fl y fun y=>ox t x y (pd a) (pe b) fun d=>Q (andO h0 (andO dX de)) d
  |_=>False) (fun h0=> ?_)
 generalize hz s c=x;cases x
 case v x=>
  cases x
  case bool t=>
   exact EF (F:=fun dX x Q=>pZ (g&& !t) (bq s b) fun de y=>fl x fun x=>fl y fun y=>ox t x y (pd a) (pe b) fun d=>Q (andO h0 (andO dX de)) d)
    (fun dX x=>EF (F:=fun de y Q=>fl x fun x=>fl y fun y=>ox t x y (pd a) (pe b) fun d=>Q (andO h0 (andO dX de)) d)
    (fun de y=>pz (F:=fun x Q=>fl y fun y=>ox t x y (pd a) (pe b) fun d=>Q (andO h0 (andO dX de)) d)
    (pz (F:=fun y Q=>ox t x y (pd a) (pe b) fun d=>Q (andO h0 (andO dX de)) d) (Pe (F:=fun d Q=>Q (andO h0 (andO dX de)) d) (fun d=>e5 _ _)))))
  all_goals exact b8
 all_goals exact b8
end
end Go.Lift
