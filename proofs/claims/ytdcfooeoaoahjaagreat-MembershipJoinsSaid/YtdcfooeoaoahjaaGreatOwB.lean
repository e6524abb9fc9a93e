/- The laws of this seat, part OwB: contracts of the functions, plain laws. No conditions. -/
import Derived.Test.YtdcfooeoaoahjaaGreatOwA
import Derived.Test.YtdcfooeoaoahjaaGreatLfC
set_option linter.unusedSimpArgs false
set_option linter.unusedVariables false
set_option maxRecDepth 100000
set_option maxHeartbeats 16000000
namespace Go.Proofs.YtdcfooeoaoahjaaGreat
open Go.Lift
theorem akU(l:List c6)(af:l.length<=1000000):cj Tryz.prog 192 [] [.av 2 (l.map ee) false] [] [.row 201 2 (l.map ee)] (.own 0):=by
 refine tG (fn:=Tryz.f192) (c:=Tryz.f192.body.getD .skip) az aw (by rfl) Tryz.func192 (by rfl) (by rfl) (by rfl) (by rfl) (by rfl) ?_;repeat' ((conv=>whnf);first|refine bl ?_|fail)
 refine aS (λow=> ?_) ?_
 ·repeat' ((conv=>whnf);first|refine bl ?_|fail)
  all_goals(conv=>whnf)
  refine⟨[.h4 2 201 2],?_⟩;conv=>whnf
  rw[ow];exact⟨.r,⟨.r,aj⟩,by rfl⟩
 ·repeat' ((conv=>whnf);first|refine bl ?_|fail)
  all_goals(conv=>whnf)
  refine aS (Eg (by grind)) ?_;repeat' ((conv=>whnf);first|refine bl ?_|fail)
  all_goals(conv=>whnf)
  refine⟨[],?_⟩;conv=>whnf
  exact⟨.r,⟨.r,aj⟩,by rfl⟩
variable{v:aK}{l:List c6}{b:c6}
theorem akV(aQ: (!hX v l|| !ga v b.cut)=false)(h1: (!bP v.mem b.mem)=false){x:c6}(ag:x∈l)(he:x.mem=b.mem):h6 v l b=([],7):=by
 have:decide (0<=lf l b.mem)=true:=by
  cases h:decide (0<=lf l b.mem)
  ·exact absurd he (Rg h x ag)
  ·rfl
 simp only[h6,aQ,h1,this,b6,bD]
theorem akW(aQ: (!hX v l|| !ga v b.cut)=false)(h1: (!bP v.mem b.mem)=false)(aV:∀x∈l,x.mem≠b.mem):h6 v l b=(iB l b,0):=by
 have:decide (0<=lf l b.mem)=false:=by
  cases h:decide (0<=lf l b.mem)
  ·rfl
  ·obtain⟨x,ag,he⟩:=ZC h
   grind
 simp only[h6,aQ,h1,this,bD]
def zq(l:List c6)(b:c6)(i:Nat):List c6:=if i<=l.length then pR l b i else iB l b
theorem akX(l:List c6)(b:c6)(i:Nat)(h:i<=l.length+1): (zq l b i).length<=i+1:=by
 unfold zq;split
 ·exact akA l b i
 ·have:=ZA l b;omega
def Bt:List ak:=[i64 1001,.ar]
theorem ZF(v:aK)(ab:v.mem.length<=400000)(l:List c6)(af:l.length<=400000)(al:∀b∈l,b.cut.length<=400000)(b:c6)(ac:b.cut.length<=400000):bq Tryz.prog 149 [.agg (cG v),.av 2 (l.map ee) false,.agg (ee b)] (.be [.av 2 ((h6 v l b).1.map ee) false,i64 (h6 v l b).2]):=by
 have hK:l.length<=maxLen:=by simp only[maxLen];omega
 have h1:v.mem.length<=maxLen:=by simp only[maxLen];omega
 have Rq:=Rh v (by omega) l hK (λb ac=>bT (al b ac) (by omega));have Ri:=Zy v (by omega) b.cut (by omega);refine cp (fn:=Tryz.f149) (c:=Tryz.f149.body.getD .skip) az aw (by rfl) Tryz.func149 (by rfl) (by rfl) (by rfl) (by rfl) ?_;repeat' ((conv=>whnf);first|refine bl ?_| (apply bo<;>intro h)|refine dE ?_|refine aR Rq ?_|refine ea Ri ?_|refine aR (jt _ h1 _) ?_|refine .inr ⟨[],bO (akU l (by omega)) ?_⟩|refine aS (Eg (by simp<;>omega)) ?_|fail)
 all_goals(conv=>whnf)
 ·simp only[h6,h,b6];exact e1 ⟨.ar,.r,aj⟩
 ·rename_i aQ;simp only[h6,aQ,h,b6,bD];exact e1 ⟨.ar,.r,aj⟩
 ·rename_i aQ;have ad:=h;clear h;have yV:hX v l=true/\b2 v=true/\bP v.mem b.mem=true:=by
   have aN:hX v l=true:=by
    grind
   refine⟨aN,?_,by grind⟩;simp only[hX,cq]at aN
   grind
  have Li:=Rm yV.2.1 yV.2.2;have qk:=((tU yV.2.1).1 yV.1).1;refine⟨Nat,λi=>⟨[(5,.aW 1 0),(8,.own 4),(9,.v (.bool (decide (gC l b.mem<i)))),(35,.own 2),(36,i64 ((l.length+1:Nat):Int)),(37,i64 i)],[.cells 24 (cG v),.cells 201 (ee b),.row 201 2 (l.map ee++ [Bt]),.bn,.row 201 2 ((zq l b i).map ee)]⟩,λi=>i<=l.length+1/\∀j (aq:j<l.length),j<i->l[j].mem≠b.mem,λi=>l.length+1-i,[.h4 8 201 2],⟨0,⟨bZ _,λj aq h=>absurd h (Nat.not_lt_zero _)⟩,?_⟩,?_⟩
  ·conv=>whnf
   refine⟨⟨.r,.r,.r,.r,a8 (by simp),.r,aj⟩,⟨.r,.r,.r,.bn,cM ?_,aj⟩,by rfl⟩;rfl
  ·intro i ⟨hi,cF⟩;have oC:=akX l b i hi;have auN: (l.map ee++ [Bt]).length=l.length+1:=by simp
   conv=>whnf
   apply bo<;>intro h
   ·have auO:i<l.length+1:=by
     grind
    clear h;have Rr:i<(l.map ee++ [Bt]).length:=by omega
    rcases mX i l.length with aB|fU
    ·have hb: (l.map ee++ [Bt])[i]?=some (ee l[i]):=by
      grind
     have ZG:=qk _ (eD aB);have Rs:=Rm yV.2.1 ZG.1;have yP:=al _ (eD aB);have ka:zq l b (i+1)=pR l b (i+1):=b3 (by omega);have DJ:zq l b i=pR l b i:=b3 (by omega);have Rt:= @akD l b i aB;have Bu:= @akE l b i aB;have ZH:= @akB l b i aB;have ZI:= @akC l b i aB;have kQ:= @akH l b i;have ZJ:=λh=>akV aQ ad (eD aB) h;obtain⟨x,pD⟩:∃x,l[i]=x:=⟨_,rfl⟩
     rw[pD]at hb ZG Rs yP Rt Bu ZH ZI ZJ;repeat' ((conv=>whnf);first|refine bl ?_| (apply bo<;>intro h)|refine ch ?_|refine dE ?_|refine⟨i,aS ⟨rfl,Rr⟩ ?_⟩|refine⟨ee x,aS hb ?_⟩|refine aR (pa b.cut (by omega)) ?_|refine aR (pa x.cut (by omega)) ?_|refine aS (Eg (by simp<;>omega)) ?_|refine Exists.intro false ?_|fail)
     all_goals(conv=>whnf)
     ·rw[ZJ (fC h)];exact e1 ⟨.ar,.r,aj⟩
     ·rename_i bx eF;have bx:=rv bx;have e:=ZH (by
       grind)
      have Lx:true=decide (gC l b.mem<i+1):=by
       grind
      refine⟨i+1,⟨by omega,λj aq sJ=> ?_⟩,by grind,?_⟩
      ·grind
      ·conv=>whnf
       refine⟨⟨.r,.r,gQ Lx,.r,.r,a8 (ca (by omega)),aj⟩,⟨.r,.r,.r,.bn,cM ?_,aj⟩,by rfl⟩;rw[ka,<-Rt e,DJ];simp[ee,dn];all_goals exact⟨rfl,rfl⟩
     ·grind
     ·rename_i bx eF;have bx:=rv bx;have e:=ZI (by
       grind)
      refine⟨i+1,⟨by omega,λj aq sJ=> ?_⟩,by grind,?_⟩
      ·grind
      ·conv=>whnf
       refine⟨⟨.r,.r,gQ (kQ e),.r,.r,a8 (ca (by omega)),aj⟩,⟨.r,.r,.r,.bn,cM ?_,aj⟩,by rfl⟩;rw[ka,<-Bu e,DJ];simp[ee,dn];all_goals exact⟨rfl,rfl⟩
     grind
    ·have Ru:i=l.length:=by omega
     subst Ru;have hb: (l.map ee++ [Bt])[l.length]?=some Bt:=by
      simp
     have ka:zq l b (l.length+1)=iB l b:=bm (by omega);have DJ:zq l b l.length=pR l b l.length:=b3 (by omega);have Rt:= @akF l b;have Bu:= @akG l b;have ha:=Lv l b.mem;have Lx:true=decide (gC l b.mem<l.length+1):=by
      grind
     repeat' ((conv=>whnf);first|refine bl ?_| (apply bo<;>intro h)|refine ch ?_|refine dE ?_|refine⟨l.length,aS ⟨rfl,Rr⟩ ?_⟩|refine⟨Bt,aS hb ?_⟩|refine aR (pa b.cut (by omega)) ?_|refine aS (Eg (by simp<;>omega)) ?_|refine Exists.intro false ?_|fail)
     all_goals(conv=>whnf)
     ·grind
     ·have eF:=h;have aa:decide (gC l b.mem<l.length)=false:=by
       grind
      refine⟨l.length+1,⟨bS _,λj aq sJ=>cF j aq aq⟩,by simp,?_⟩;conv=>whnf
      refine⟨⟨.r,.r,gQ Lx,.r,.r,a8 (ca (by omega)),aj⟩,⟨.r,.r,.r,.bn,cM ?_,aj⟩,by rfl⟩;rw[ka,<-Bu aa,DJ];simp[ee,dn];all_goals exact⟨rfl,rfl⟩
     ·have eF:=h;have aa:decide (gC l b.mem<l.length)=true:=by
       grind
      refine⟨l.length+1,⟨bS _,λj aq sJ=>cF j aq aq⟩,by simp,?_⟩;conv=>whnf
      refine⟨⟨.r,.r,gQ (aa.trans Lx),.r,.r,a8 (ca (by omega)),aj⟩,⟨.r,.r,.r,.bn,cM ?_,aj⟩,by rfl⟩
      grind
   ·have Ru:i=l.length+1:=by
     grind
    subst Ru;clear h;repeat' ((conv=>whnf);first|refine bl ?_|fail)
    all_goals(conv=>whnf)
    have ka:zq l b (l.length+1)=iB l b:=bm (by omega);rw[akW aQ ad (λx ag=>by
     obtain⟨j,aq,rfl⟩:=fv ag
     grind),ka]
    exact .refl
def Bv(v:aK)(l:List cg)(i:Nat):Bool:= !(decide (0<(l.getD i dB).aC)&& !gJ v (l.getD i dB).aC)
def zr(m:Int)(l:List cg)(i:Nat):Bool:= !decide ((l.getD i dB).aC<m)
def tV(v:aK)(l:List cg):Bool:=ij (Bv v l) l.length&&gI v l
theorem Hp(l:List cg)(af:l.length<=maxLen)(x:Int):bq Tryz.prog 182 [.av 3 (l.map bW) false,.v (.int .i64 x)] (.v (.int .i64 (eQ l x))):=by
 have hK:l.length<=9223372036854775807:=af;refine cp (fn:=Tryz.f182) (c:=Tryz.f182.body.getD .skip) az aw (by rfl) Tryz.func182 (by rfl) (by rfl) (by rfl) (by rfl) ?_;repeat' ((conv=>whnf);first|refine bl ?_|fail)
 refine⟨Nat,λi=>⟨[(1,.v (.int .i64 x)),(7,.av 3 (l.map bW) false),(8,i64 (l.map bW).length),(9,i64 i)],[]⟩,λi=>i<=l.length/\∀j,j<i->decide ((l.getD j dB).mem=x)=false,λi=>l.length-i,[],⟨0,⟨bZ _,by omega⟩,?_⟩,?_⟩
 ·exact⟨by repeat' ((conv=>whnf);first|exact trivial|refine aS (by(conv=>arg 1;whnf);first| (with_reducible exact .refl)|exact a8 (ca (by omega))|exact .refl) ?_|fail),by repeat' ((conv=>whnf);first|exact trivial|fail),rfl⟩
 ·intro i ⟨hi,cF⟩;repeat' ((conv=>whnf);first| (apply bo<;>intro h)|fail)
  ·have aB:i<l.length:=by grind
   repeat' ((conv=>whnf);first| (apply bo<;>intro h)|refine⟨_,_,aS ⟨rfl,du aB⟩ ?_⟩|fail)
   ·have ad:=h;refine a8 (wD aB ?_ cF).symm
    grind
   ·have ad:=h;conv=>whnf
    refine⟨i+1,⟨aB,λj aq=> ?_⟩,by grind,?_⟩
    ·grind
    ·exact⟨by repeat' ((conv=>whnf);first|exact trivial|refine aS (by(conv=>arg 1;whnf);first| (with_reducible exact .refl)|exact a8 (ca (by omega))|exact .refl) ?_|fail),by repeat' ((conv=>whnf);first|exact trivial|fail),rfl⟩
  ·have fU:¬i<l.length:=by grind
   conv=>whnf
   refine a8 (tE (λj aq=>cF j (by omega))).symm
theorem ZK(v:aK)(ab:v.mem.length<=500000)(l:List cg)(af:l.length<=maxLen)(al:∀r∈l,r.cut.length<=500000):bq Tryz.prog 117 [.agg (cG v),.av 3 (l.map bW) false] (.v (.bool (tV v l))):=by
 have hK:l.length<=9223372036854775807:=af;have h1:v.mem.length<=maxLen:=bT ab (by decide);refine cp (fn:=Tryz.f117) (c:=Tryz.f117.body.getD .skip) az aw (by rfl) Tryz.func117 (by rfl) (by rfl) (by rfl) (by rfl) ?_;repeat' ((conv=>whnf);first|refine bl ?_|fail)
 refine⟨Nat,λi=>⟨[(1,.av 3 (l.map bW) false),(2,.aW 0 0),(7,.av 3 (l.map bW) false),(8,i64 (l.map bW).length),(9,i64 i)],[.cells 24 (cG v)]⟩,λi=>i<=l.length/\∀j,j<i->Bv v l j=true,λi=>l.length-i,[],⟨0,⟨bZ _,by omega⟩,?_⟩,?_⟩
 ·exact⟨by repeat' ((conv=>whnf);first|exact trivial|refine aS (by(conv=>arg 1;whnf);first| (with_reducible exact .refl)|exact a8 (ca (by omega))|exact .refl) ?_|fail),by repeat' ((conv=>whnf);first|exact trivial|refine aS ?_ ?_|exact .refl|fail),rfl⟩
 ·intro i ⟨hi,cF⟩;conv=>whnf
  apply bo<;>intro h
  ·have aB:i<l.length:=by grind
   clear h;have ax:l.getD i dB=l[i]:=by grind
   repeat' ((conv=>whnf);first|refine bl ?_| (apply bo<;>intro h)|refine dE ?_|refine⟨_,_,aS ⟨rfl,du aB⟩ ?_⟩|refine ea (Hn _ h1 _) ?_|fail)
   all_goals(conv=>whnf)
   ·refine gQ ?_;rw[tV,tF aB (by rw[Bv,ax,h];rfl),wZ]
   ·refine⟨i+1,⟨aB,λj aq=> ?_⟩,by grind,?_⟩
    ·rcases yv.1 aq with aq|rfl
     ·grind
     ·rw[Bv,ax,h];rfl
    ·exact⟨by repeat' ((conv=>whnf);first|exact trivial|refine aS (by(conv=>arg 1;whnf);first| (with_reducible exact .refl)|exact a8 (ca (by omega))|exact .refl) ?_|fail),by repeat' ((conv=>whnf);first|exact trivial|refine aS ?_ ?_|exact .refl|fail),rfl⟩
  ·have fU:¬i<l.length:=by grind
   clear h;repeat' ((conv=>whnf);first|refine aR (Ef _ ab _ af al) ?_|fail)
   all_goals(conv=>whnf)
   all_goals(refine gQ ?_)
   all_goals(rw[tV,iA.2 (λj aq=>cF j (by omega))])
   rfl
def zs(s:bi):Bool:=
 bif !decide (s.aC=0)&& (!gJ s.view s.aC|| !decide (h5 s.aC=s.self))then false
 else bif !(decide (0<(s.c4.length:Int))==decide (s.phase=2))then false
 else bif decide (s.phase=0)then decide ((s.bu.length:Int)=0)
 else bif decide (s.phase=1)||decide (s.phase=2)then
  !decide (s.aC=0)&&decide (0<(s.prop.length:Int))&&decide (0<=eQ s.bu s.self)&& (decide ((s.bu.length:Int)<fY s.view.mem.length)||decide (s.phase=2))
 else false
structure ez(s:bi):Prop where
 mem:s.view.mem.length<=1000
 gT:s.aL.cut.length<=1000
 prop:s.prop.length<=1000
 box:s.box.length<=1000
 kA:∀b∈s.box,b.cut.length<=1000
 bu:s.bu.length<=1000
 mm:∀b∈s.bu,b.cut.length<=1000
 c4:s.c4.length<=1000
 aM:s.aM.length<=1000
 kf:∀b∈s.aM,b.cut.length<=1000
 dec:s.dec.length<=1000
variable{n:Nat}
theorem eS(h:n<=1000):n<=maxLen:=by simp only[maxLen];omega
theorem akY(s:bi)(ae:ez s):bq Tryz.prog 118 [.agg (dg s)] (.v (.bool (zs s))):=by
 refine cp (fn:=Tryz.f118) (c:=Tryz.f118.body.getD .skip) az aw (by rfl) Tryz.func118 (by rfl) (by rfl) (by rfl) (by rfl) ?_;repeat' ((conv=>whnf);first|refine bl ?_|refine ht (by assumption) ?_| (apply bo<;>intro h)|refine ch ?_|refine dE ?_|refine ea (Hn _ (eS ae.mem) _) ?_|refine ea (Lo _) ?_|refine aR (Hj _) ?_|refine ea (Hp _ (eS ae.bu) _) ?_|fail)
 all_goals(conv=>whnf)
 all_goals(refine gQ ?_)
 all_goals(try simp only[bL]at *)
 all_goals(simp only[zs, *,b6,bD,NJ,Fh,Cy,Bool.or_false,Aa])
 all_goals grind
def fI(s:bi):Bool:=
 bif !b2 s.view|| !bP s.view.mem s.self||decide (s.cD<0)||decide (1099511627776<s.cD)then false
 else bif !la s.aL|| !decide (s.aL.cc=0)&& !gJ s.view s.aL.cc||decide (0<s.aL.aC)&& !gJ s.view s.aL.aC|| !jX s.view s.aL.cut then false
 else bif !jX s.view s.prop|| !jX s.view s.c4|| !jX s.view s.dec|| !hX s.view s.box then false
 else bif (hY s.box s.self).2&& !iG (hY s.box s.self).1 s.prop then false
 else ij (zr 1 s.aM) s.aM.length&& (tV s.view s.bu&&tV s.view s.aM&&zs s)
theorem pe(s:bi)(ae:ez s):bq Tryz.prog 63 [.agg (dg s)] (.v (.bool (fI s))):=by
 have xX:=eS ae.mem;have Kq: (hY s.box s.self).1.length<=maxLen:=by
  unfold hY;cases decide (0<=lf s.box s.self)
  ·simp
  ·rcases mX (lf s.box s.self).toNat s.box.length with h|h
   ·simp only[b6,sc,eN h,qJ];exact eS (ae.kA _ (eD h))
   ·simp only[b6,sc,w2 h,Jf];exact bZ _
 have aA:=Rj s.box (eS ae.box) s.self;have aG:=G1 (hY s.box s.self).1 s.prop Kq;have bc:=Rh s.view (by have:=ae.mem;omega) s.box (eS ae.box) (λb ac=>by have:=ae.kA b ac;omega);have cn:=ZK s.view (by have:=ae.mem;omega) s.bu (eS ae.bu) (λb ac=>by have:=ae.mm b ac;omega);have ep:=ZK s.view (by have:=ae.mem;omega) s.aM (eS ae.aM) (λb ac=>by have:=ae.kf b ac;omega);have iI:=akY s ae;have dx:=Lu s.view (by have:=ae.mem;omega) s.aL.cut (by have:=ae.gT;omega);have fT:=Lu s.view (by have:=ae.mem;omega) s.prop (by have:=ae.prop;omega);have ZL:=Lu s.view (by have:=ae.mem;omega) s.c4 (by have:=ae.c4;omega);have P8:=Lu s.view (by have:=ae.mem;omega) s.dec (by have:=ae.dec;omega);have Hq:=Lq s.aL (eS ae.gT);have jn:s.aM.length<=1000:=ae.aM;unfold fI;generalize hY s.box s.self=C at *;generalize hX s.view s.box=B1 at *;generalize tV s.view s.bu=B2 at *;generalize tV s.view s.aM=aj2 at *;generalize zs s=auP at *;generalize la s.aL=auQ at *;generalize jX s.view s.aL.cut=auR at *;refine cp (fn:=Tryz.f63) (c:=Tryz.f63.body.getD .skip) az aw (by rfl) Tryz.func63 (by rfl) (by rfl) (by rfl) (by rfl) ?_;repeat' ((conv=>whnf);first|refine bl ?_| (apply bo<;>intro h)|refine dE ?_|refine aR (q3 _ xX) ?_|refine ea (jt _ xX _) ?_|refine aR Hq ?_|refine ea (Hn _ xX _) ?_|refine ea dx ?_|refine aR fT ?_|refine ea ZL ?_|refine ea P8 ?_|refine ea bc ?_|refine aR aA ?_|refine ea aG ?_|fail)
 all_goals(conv=>whnf)
 ·refine gQ ?_
  grind
 ·rename_i h1;refine gQ ?_
  grind
 ·rename_i h1 ad;refine gQ ?_
  grind
 ·rename_i h1 ad aN;refine gQ ?_
  grind
 ·rename_i h1 ad aN;simp only[h1,ad,aN,h,bD];clear h1 ad aN h;refine⟨Nat,λi=>⟨[(1,.aW 0 0),(3,.aW 1 0),(111,.av 3 (s.aM.map bW) false),(112,i64 s.aM.length),(113,i64 i)],[.cells 53 (dg s),.cells 24 (cG s.view)]⟩,λi=>i<=s.aM.length/\∀j,j<i->zr 1 s.aM j=true,λi=>s.aM.length-i,[],⟨0,⟨bZ _,by omega⟩,?_⟩,?_⟩
  ·conv=>whnf
   exact⟨⟨.r,.r,.r,a8 (by simp),.r,aj⟩,⟨.r,.r,aj⟩,by rfl⟩
  ·intro i ⟨hi,cF⟩;conv=>whnf
   apply bo<;>intro h
   ·have aB:i<s.aM.length:=by grind
    clear h;have ax:s.aM.getD i dB=s.aM[i]:=by grind
    repeat' ((conv=>whnf);first| (apply bo<;>intro h)|refine⟨_,_,aS ⟨rfl,du aB⟩ ?_⟩|fail)
    all_goals(conv=>whnf)
    ·refine gQ ?_;rw[tF aB (by rw[zr,ax,h];rfl),wZ]
    ·refine⟨i+1,⟨aB,λj aq=> ?_⟩,by grind,?_⟩
     ·rcases yv.1 aq with aq|rfl
      ·grind
      ·rw[zr,ax,h];rfl
     ·conv=>whnf
      exact⟨⟨.r,.r,.r,.r,a8 (ca (by omega)),aj⟩,⟨.r,.r,aj⟩,by rfl⟩
   ·have fU:¬i<s.aM.length:=by grind
    clear h;rw[iA.2 (λj aq=>cF j (by omega)),rp];repeat' ((conv=>whnf);first|refine bl ?_|exact .refl|refine dE ?_|refine aR cn ?_|refine ea ep ?_|refine ea iI ?_|fail)
def z3:List ak:=[i64 0,i64 0,.ar]
def lT:List ak:=[i64 0,.ar]
variable{z:List ak}{i:Nat}
theorem Ly{α:Type}{f:α->List ak}{l:List α}(h:i<l.length): ((l.take i).map f++List.replicate (l.length-i) z).set i (f l[i])=(l.take (i+1)).map f++List.replicate (l.length- (i+1)) z:=by
 have af: ((l.take i).map f).length=i:=by grind
 rw[UV _ _ (by omega),af,Ai];obtain⟨m,az⟩:∃m,l.length-i=m+1:=⟨l.length-i-1,by omega⟩
 rw[az,List.replicate_succ,List.set_cons_zero,fA h,ew,show l.length- (i+1)=m by omega];simp
theorem Lz{α:Type}{f:α->List ak}{l:List α}(h:i<=l.length): ((l.take i).map f++List.replicate (l.length-i) z).length=l.length:=by
 grind
theorem LA{α:Type}{f:α->List ak}{l:List α}(h:i<l.length): ((l.take i).map f++List.replicate (l.length-i) z)[i]?=some z:=by
 grind
theorem LB{α:Type}{f:α->List ak}{l:List α}: (l.take l.length).map f++List.replicate (l.length-l.length) z=l.map f:=by simp
theorem ZM(h:n<=1000000):n* (aE ah 179).bytes<=140737488355328/\n<=maxLen:=by
 have e: (aE ah 179).bytes=40:=by rfl
 refine⟨?_,?_⟩
 ·grind
 ·simp only[maxLen];omega
theorem Rv(h:n<=1000000):n* (aE ah 201).bytes<=140737488355328/\n<=maxLen:=by
 have e: (aE ah 201).bytes=32:=by rfl
 refine⟨?_,?_⟩
 ·grind
 ·simp only[maxLen];omega
theorem ZN(l:List cg)(af:l.length<=1000000)(al:∀r∈l,r.cut.length<=1000000):bq Tryz.prog 191 [.av 3 (l.map bW) false] (.av 3 (l.map bW) false):=by
 have iZ:=ZM (n:=(l.map bW).length) (by grind);refine cp (fn:=Tryz.f191) (c:=Tryz.f191.body.getD .skip) az aw (by rfl) Tryz.func191 (by rfl) (by rfl) (by rfl) (by rfl) ?_;repeat' ((conv=>whnf);first|refine⟨(l.map bW).length,(l.map bW).length,rfl,rfl,bS _,iZ.1,iZ.2,?_⟩|fail)
 all_goals(conv=>whnf)
 refine⟨Nat,λi=>⟨[(3,.own 0),(9,.av 3 (l.map bW) false),(10,i64 l.length),(11,i64 i)],[.row 179 3 ((l.take i).map bW++List.replicate (l.length-i) z3)]⟩,λi=>i<=l.length,λi=>l.length-i,[],⟨0,bZ _,?_⟩,?_⟩
 ·conv=>whnf
  refine⟨⟨.r,.r,a8 (by simp),.r,aj⟩,⟨cM ?_,aj⟩,by rfl⟩;rw[bL];rfl
 ·intro i hi;conv=>whnf
  apply bo<;>intro h
  ·have aB:i<l.length:=by grind
   clear h;have hlen:=Lz (f:=bW) (z:=z3) (l:=l) (i:=i) hi;have gD:i<((l.take i).map bW++List.replicate (l.length-i) z3).length:=by omega
   have cL:=LA (f:=bW) (z:=z3) aB;have lV:=Ly (f:=bW) (z:=z3) aB;repeat' ((conv=>whnf);first|refine ch ?_|refine⟨_,_,aS ⟨rfl,du aB⟩ ?_⟩|refine aR (qs _ (al _ (eD aB))) ?_|refine⟨i,aS ⟨rfl,gD⟩ ?_⟩|refine⟨z3,aS cL ?_⟩|fail)
   all_goals(conv=>whnf)
   refine⟨i+1,aB,by grind,?_⟩;conv=>whnf
   refine⟨⟨.r,.r,.r,a8 (ca (by omega)),aj⟩,⟨cM ?_,aj⟩,by rfl⟩;rw[<-lV];rfl
  ·have fU:¬i<l.length:=by grind
   have:i=l.length:=by omega
   subst this;clear h;rw[LB];repeat' ((conv=>whnf);first|exact .refl|fail)
theorem xY(s:bi)(ae:ez s):bq Tryz.prog 147 [.agg (dg s)] (.agg (dg s)):=by
 have cX:=ae.mem;have c0:=ae.gT;have iu:=ae.prop;have ly:=ae.c4;have tW:=ae.dec;have sL:=ae.bu;have sM:∀b∈s.bu,b.cut.length<=1000000:=λb ac=>by have:=ae.mm b ac;omega
 have sN:=ae.aM;have vi:∀b∈s.aM,b.cut.length<=1000000:=λb ac=>by have:=ae.kf b ac;omega
 have lo:=ae.box;have iZ:=Rv (n:=(s.box.map ee).length) (by simp;omega);refine fX Tryz.func147 ?_;repeat' ((conv=>whnf);first|refine ch ?_|refine aR (qs _ (by omega)) ?_|refine aR (ZN _ (by omega) (by assumption)) ?_|refine⟨(s.box.map ee).length,(s.box.map ee).length,rfl,rfl,bS _,iZ.1,iZ.2,?_⟩|fail)
 all_goals(conv=>whnf)
 refine⟨Nat,λi=>⟨[(2,.aW 1 0),(3,.aW 3 0),(54,.av 2 (s.box.map ee) false),(55,i64 s.box.length),(56,i64 i)],[.cells 53 (dg s),.cells 53 (aE ah 53).zero,.row 201 2 ((s.box.take i).map ee++List.replicate (s.box.length-i) lT),.cells 53 [i64 s.self,i64 s.view.num,.av 1 (s.view.mem.map aU) false,i64 s.aL.cc,i64 s.aL.aC,.av 1 (s.aL.cut.map aU) false,.av 1 (s.prop.map aU) false,.own 2,i64 s.aC,i64 s.phase,.av 3 (s.bu.map bW) false,.av 1 (s.c4.map aU) false,.av 3 (s.aM.map bW) false,.av 1 (s.dec.map aU) false,i64 s.cD]]⟩,λi=>i<=s.box.length,λi=>s.box.length-i,[],⟨0,bZ _,?_⟩,?_⟩
 ·conv=>whnf
  refine⟨⟨.r,.r,.r,a8 (by simp),.r,aj⟩,⟨.r,.r,cM ?_,.r,aj⟩,by rfl⟩;rw[bL];rfl
 ·intro i hi;conv=>whnf
  apply bo<;>intro h
  ·have aB:i<s.box.length:=by simpa using h
   clear h;have hlen:=Lz (f:=ee) (z:=lT) (l:=s.box) (i:=i) hi;have gD:i<((s.box.take i).map ee++List.replicate (s.box.length-i) lT).length:=by omega
   have cL:=LA (f:=ee) (z:=lT) aB;have lV:=Ly (f:=ee) (z:=lT) aB;have Hk:=ae.kA _ (eD aB);repeat' ((conv=>whnf);first|refine ch ?_|refine⟨_,_,aS ⟨rfl,du aB⟩ ?_⟩|refine aR (qs _ (by omega)) ?_|refine⟨i,aS ⟨rfl,gD⟩ ?_⟩|refine⟨lT,aS cL ?_⟩|fail)
   all_goals(conv=>whnf)
   refine⟨i+1,aB,by simp only[];omega,?_⟩;conv=>whnf
   refine⟨⟨.r,.r,.r,.r,a8 (ca (by omega)),aj⟩,⟨.r,.r,cM ?_,.r,aj⟩,by rfl⟩;rw[<-lV];rfl
  ·have fU:¬i<s.box.length:=by simpa using h
   have:i=s.box.length:=by omega
   subst this;clear h;rw[LB];repeat' ((conv=>whnf);first|exact .refl|fail)
   all_goals trace_state
theorem akZ(l:List cg)(af:l.length<=1000000)(al:∀r∈l,r.cut.length<=1000000):cj Tryz.prog 191 [] [.av 3 (l.map bW) false] [] [.row 179 3 (l.map bW)] (.own 0):=by
 have iZ:=ZM (n:=(l.map bW).length) (by grind);refine ik (fn:=Tryz.f191) (c:=Tryz.f191.body.getD .skip) az aw (by rfl) Tryz.func191 (by rfl) (by rfl) (by rfl) (by rfl) (by rfl) ?_;repeat' ((conv=>whnf);first|refine⟨(l.map bW).length,(l.map bW).length,rfl,rfl,bS _,iZ.1,iZ.2,?_⟩|fail)
 all_goals(conv=>whnf)
 refine⟨Nat,λi=>⟨[(3,.own 0),(9,.av 3 (l.map bW) false),(10,i64 l.length),(11,i64 i)],[.row 179 3 ((l.take i).map bW++List.replicate (l.length-i) z3)]⟩,λi=>i<=l.length,λi=>l.length-i,[],⟨0,bZ _,?_⟩,?_⟩
 ·conv=>whnf
  refine⟨⟨.r,.r,a8 (by simp),.r,aj⟩,⟨cM ?_,aj⟩,by rfl⟩;rw[bL];rfl
 ·intro i hi;conv=>whnf
  apply bo<;>intro h
  ·have aB:i<l.length:=by grind
   clear h;have hlen:=Lz (f:=bW) (z:=z3) (l:=l) (i:=i) hi;have gD:i<((l.take i).map bW++List.replicate (l.length-i) z3).length:=by omega
   have cL:=LA (f:=bW) (z:=z3) aB;have lV:=Ly (f:=bW) (z:=z3) aB;repeat' ((conv=>whnf);first|refine ch ?_|refine⟨_,_,aS ⟨rfl,du aB⟩ ?_⟩|refine aR (qs _ (al _ (eD aB))) ?_|refine⟨i,aS ⟨rfl,gD⟩ ?_⟩|refine⟨z3,aS cL ?_⟩|fail)
   all_goals(conv=>whnf)
   refine⟨i+1,aB,by grind,?_⟩;conv=>whnf
   refine⟨⟨.r,.r,.r,a8 (ca (by omega)),aj⟩,⟨cM ?_,aj⟩,by rfl⟩;rw[<-lV];rfl
  ·have fU:¬i<l.length:=by grind
   have:i=l.length:=by omega
   subst this;clear h;rw[LB];repeat' ((conv=>whnf);first|refine bl ?_|fail)
   all_goals(conv=>whnf)
   exact⟨.r,⟨.r,aj⟩,by rfl⟩
theorem ZO(v:aK)(ab:v.mem.length<=400000)(l:List cg)(af:l.length<=400000)(al:∀r∈l,r.cut.length<=400000)(r:cg)(ao:r.cut.length<=400000)(cy:gI v l=true):
  cj Tryz.prog 195 [] [.agg (cG v),.av 3 (l.map bW) false,.agg (bW r)] [] [.row 179 3 ((fN v l r).1.map bW)] (.be [.own 0,.v (.bool (fN v l r).2)]):=by
 have qm:l.length<=maxLen:=bT af (by decide);have Q9:=Ef v (bT ab (by omega)) l qm (λx ag=>bT (al x ag) (by omega));have ek:=Q8 l r;have Ra:=Ef v (bT ab (by omega)) (iS l r) (by simp only[maxLen];omega) (λx ag=>by
  rcases Bq ag with rfl|ag
  ·omega
  ·exact bT (al x ag) (by omega))
 have Rb:=Hl l (by omega) (λx ag=>bT (al x ag) (by omega));have Rc:=Hl (iS l r) (by omega) (λx ag=>by
  rcases Bq ag with rfl|ag
  ·omega
  ·exact bT (al x ag) (by omega))
 obtain⟨R,b1⟩:∃R,R=fN v l r:=⟨_,rfl⟩
 rw[<-b1];refine mi Tryz.func195 ?_;repeat' ((conv=>whnf);first| (apply bo<;>intro h)|refine aR Q9 ?_|fail)
 all_goals(conv=>whnf)
 ·rw[cy]at h;cases h
 ·have aQ:=h;clear h;refine⟨Nat,λi=>⟨[(1,.av 3 (l.map bW) false),(3,.aW 0 0),(5,.aW 1 0),(8,i64 i)],[.cells 24 (cG v),.cells 179 (bW r)]⟩,λi=>i<=l.length/\∀j,(aq:j<l.length)->j<i->l[j].mem<r.mem,λi=>l.length-i,[],⟨0,⟨bZ _,λj _ aq=>by omega⟩,?_⟩,?_⟩
  ·exact⟨by repeat' ((conv=>whnf);first|exact trivial|refine aS (by(conv=>arg 1;whnf);first| (with_reducible exact .refl)|exact a8 (ca (by omega))|exact .refl) ?_|fail),by repeat' ((conv=>whnf);first|exact trivial|refine aS ?_ ?_|exact .refl|fail),rfl⟩
  ·intro i ⟨hi,cF⟩;have kv:∃x:cg,(i<l.length->(l.map bW)[i]?=some (bW x))/\∀ (ek:i<l.length),x=l[i]:=by
    by_cases ek:i<l.length
    ·exact⟨l[i],λ_=>du ek,λ_=>rfl⟩
    ·exact⟨r,λaV=>absurd aV ek,λaV=>absurd aV ek⟩
   obtain⟨x,Br,lS⟩:=kv;repeat' ((conv=>whnf);first|refine bl ?_| (apply bo<;>intro h)|refine ch ?_|refine dE ?_|refine⟨i,bW x,aS ⟨⟨λh=>h,λh=>h⟩,λax=>⟨rfl,Br (by simpa using ax)⟩⟩ ?_⟩|fail)
   ·have ek:i<l.length:=by simpa using((cq ..).mp h).1
    have aB:l[i].mem<r.mem:=by
     have:=((cq ..).mp h).2;rw[lS ek]at this;simpa using this
    clear h;repeat' ((conv=>whnf);first|refine bl ?_|fail)
    all_goals(conv=>whnf)
    refine⟨i+1,⟨ek,λj aq sJ=> ?_⟩,by simp only[];omega,?_⟩
    ·rcases Nat.lt_succ_iff_lt_or_eq.mp sJ with h1|rfl
     ·exact cF j aq h1
     ·exact aB
    ·exact⟨⟨.r,.r,.r,a8 (ca (by omega)),aj⟩,⟨.r,.r,aj⟩,rfl⟩
   ·have au:qq l r.mem=i:=by
     rcases mX i l.length with ek|ek
     ·refine Q6 ek (λj aq=>cF j (by omega) aq) ?_;intro aB;rw[lS ek]at h;simp[ek,aB]at h
     ·have:i=l.length:=by omega
      subst this;exact Q7 λj aq=>cF j aq aq
    clear h;have Re:cj Tryz.prog 226 [] [ak.av 3 (((l.map bW).take i).drop 0) false] [] [aX.row 179 3 ((l.take i).map bW)] (ak.own 0):=by
     have:=Hl (l.take i) (by simp;omega) (λx ag=>bT (al x (om ag)) (by omega));rw[<-yt];exact this
    have hlen: (l.take i).length=i:=by simp;omega
    have qm:i<=(l.map bW).length:=by simpa using hi
    repeat' ((conv=>whnf);first|refine ch ?_|refine⟨0,i,aS ⟨rfl,⟨_,rfl⟩,bZ _,qm⟩ ?_⟩|refine .inr ⟨[],bO Re ?_⟩|refine aS (Lt (by simp<;>omega)) ?_|refine⟨i,aS ⟨⟨_,rfl⟩,qm⟩ ?_⟩|refine Exists.intro false ?_|fail)
    have Hm:List.map bW (List.take i l)++(List.replicate 1 (aE ah 179).zero).set 0 (dn (.agg [.v (.int .i64 r.mem),.v (.int .i64 r.aC),.av 1 (List.map aU r.cut) false]))++List.drop i (List.map bW l)=(iS l r).map bW:=by
     simp[iS,au,bW,dn]
    refine .inl ⟨[.agg (cG v),.av 3 ((iS l r).map bW) false],_,⟨.r,jI Hm,aj⟩,Ra,?_⟩;repeat' ((conv=>whnf);first| (apply bo<;>intro h)|refine .inr ⟨[],bO Rb ?_⟩|refine .inr ⟨[],[],_,[],_,_,Rc,by rfl,aj,⟨jI Hm,aj⟩,?_⟩|fail)
    all_goals(conv=>whnf)
    ·have Rw:R=(l,false):=by
      rw[b1];simp only[fN,aQ,h,b6,bD]
     clear b1;subst Rw;refine⟨[.eT 0 6],?_⟩;conv=>whnf
     exact⟨.r,⟨.r,aj⟩,by rfl⟩
    ·have Rw:R=(iS l r,true):=by
      rw[b1];simp only[fN,aQ,h,b6,bD]
     clear b1;subst Rw;refine⟨[.eT 0 6],?_⟩;conv=>whnf
     exact⟨.r,⟨.r,aj⟩,by rfl⟩
def pf(s:bi)(k:Nat):List ak:=[i64 s.self,i64 s.view.num,.av 1 (s.view.mem.map aU) false,i64 s.aL.cc,i64 s.aL.aC,.av 1 (s.aL.cut.map aU) false,.av 1 (s.prop.map aU) false,.av 2 (s.box.map ee) false,i64 s.aC,i64 s.phase,.av 3 (s.bu.map bW) false,.av 1 (s.c4.map aU) false,.own k,.av 1 (s.dec.map aU) false,i64 s.cD]
theorem ak0(s:bi)(ae:ez s):cj Tryz.prog 147 [] [.agg (dg s)] [] [.bn,.bn,.bn,.row 179 3 (s.aM.map bW)] (.agg (pf s 3)):=by
 have ak1:=ZN s.bu (by have:=ae.bu;omega) (λb ac=>by have:=ae.mm b ac;omega);have ak2:=akZ s.aM (by have:=ae.aM;omega) (λb ac=>by have:=ae.kf b ac;omega);have cX:=ae.mem;have c0:=ae.gT;have iu:=ae.prop;have ly:=ae.c4;have tW:=ae.dec;have sL:=ae.bu;have sM:∀b∈s.bu,b.cut.length<=1000000:=λb ac=>by have:=ae.mm b ac;omega
 have sN:=ae.aM;have vi:∀b∈s.aM,b.cut.length<=1000000:=λb ac=>by have:=ae.kf b ac;omega
 have lo:=ae.box;have iZ:=Rv (n:=(s.box.map ee).length) (by simp;omega);refine mi Tryz.func147 ?_;repeat' ((conv=>whnf);first|refine ch ?_|refine aR (qs _ (by omega)) ?_|refine aR ak1 ?_|refine .inr ⟨[],bO ak2 ?_⟩|refine⟨(s.box.map ee).length,(s.box.map ee).length,rfl,rfl,bS _,iZ.1,iZ.2,?_⟩|fail)
 all_goals(conv=>whnf)
 refine⟨Nat,λi=>⟨[(2,.aW 1 0),(3,.aW 4 0),(54,.av 2 (s.box.map ee) false),(55,i64 s.box.length),(56,i64 i)],[.cells 53 (dg s),.cells 53 (aE ah 53).zero,.row 201 2 ((s.box.take i).map ee++List.replicate (s.box.length-i) lT),.row 179 3 (s.aM.map bW),.cells 53 [i64 s.self,i64 s.view.num,.av 1 (s.view.mem.map aU) false,i64 s.aL.cc,i64 s.aL.aC,.av 1 (s.aL.cut.map aU) false,.av 1 (s.prop.map aU) false,.own 2,i64 s.aC,i64 s.phase,.av 3 (s.bu.map bW) false,.av 1 (s.c4.map aU) false,.own 3,.av 1 (s.dec.map aU) false,i64 s.cD]]⟩,λi=>i<=s.box.length,λi=>s.box.length-i,[],⟨0,bZ _,?_⟩,?_⟩
 ·conv=>whnf
  refine⟨⟨.r,.r,.r,a8 (by simp),.r,aj⟩,⟨.r,.r,cM ?_,.r,.r,aj⟩,by rfl⟩;rw[bL];rfl
 ·intro i hi;conv=>whnf
  apply bo<;>intro h
  ·have aB:i<s.box.length:=by simpa using h
   clear h;have hlen:=Lz (f:=ee) (z:=lT) (l:=s.box) (i:=i) hi;have gD:i<((s.box.take i).map ee++List.replicate (s.box.length-i) lT).length:=by omega
   have cL:=LA (f:=ee) (z:=lT) aB;have lV:=Ly (f:=ee) (z:=lT) aB;have Hk:=ae.kA _ (eD aB);repeat' ((conv=>whnf);first|refine ch ?_|refine⟨_,_,aS ⟨rfl,du aB⟩ ?_⟩|refine aR (qs _ (by omega)) ?_|refine⟨i,aS ⟨rfl,gD⟩ ?_⟩|refine⟨lT,aS cL ?_⟩|fail)
   all_goals(conv=>whnf)
   refine⟨i+1,aB,by simp only[];omega,?_⟩;conv=>whnf
   refine⟨⟨.r,.r,.r,.r,a8 (ca (by omega)),aj⟩,⟨.r,.r,cM ?_,.r,.r,aj⟩,by rfl⟩;rw[<-lV];rfl
  ·have fU:¬i<s.box.length:=by simpa using h
   have:i=s.box.length:=by omega
   subst this;clear h;rw[LB];repeat' ((conv=>whnf);first|refine bl ?_|fail)
   all_goals(conv=>whnf)
   refine⟨[.qa 1 7],?_⟩;conv=>whnf
   exact⟨.r,⟨.bn,.bn,.bn,.r,aj⟩,by rfl⟩
theorem ak3(s:bi)(p:ak):bq Tryz.prog 227 [.da (dg s++ [p])] (i64 (fY s.view.mem.length)):=by
 have e:bq Tryz.prog 181 [i64 ((s.view.mem.map aU).length:Int)] (i64 (fY s.view.mem.length)):=by
  rw[bL];exact Hj _
 refine cp (fn:=Tryz.f227) (c:=Tryz.f227.body.getD .skip) az aw (by rfl) Tryz.func227 (by rfl) (by rfl) (by rfl) (by rfl) ?_;repeat' ((conv=>whnf);first|exact .refl|refine aR e ?_|fail)
theorem nJ{a d:ak}:hz (.cB [a,d]) (.cB [a,.aY]):=.cB rfl λi x y ag bk=>by
 rcases i with _|_|i
 ·simp at ag bk;subst ag bk;exact .refl
 ·simp at ag bk;subst ag bk;exact .aY
 grind
def eC(s:bi)(dd kind aC cU:Int)(cut:List Int):dN:=⟨dd,⟨kind,s.view.num,s.self,aC,cU,cut⟩⟩
theorem Rx(h:n<=1000000):kL ah 218 n:=by
 have e: (aE ah 218).bytes=72:=by rfl
 refine⟨?_,?_⟩
 ·grind
 ·simp only[maxLen];omega
theorem LC(s:bi)(dd kind aC cU:Int)(cut:List Int)(al:cut.length<=1000000):
  cj Tryz.prog 148 [.cells 210 (dg s++ [.ar])] [.aW 0 0,i64 dd,i64 kind,i64 aC,i64 cU,.av 1 (cut.map aU) false] [true] [.cells 210 (dg s++ [.own 2]),.bn,.row 218 7 [fu (eC s dd kind aC cU cut)]] (.be []):=by
 refine ik (fn:=Tryz.f148) (c:=Tryz.f148.body.getD .skip) az aw (by rfl) Tryz.func148 (by rfl) (by rfl) (by rfl) (by rfl) (by rfl) ?_;repeat' ((conv=>whnf);first|refine ch ?_|refine aR (qs _ al) ?_|refine aS (Rx (by simp<;>omega)) ?_|refine Exists.intro false ?_|fail)
 all_goals(conv=>whnf)
 exact⟨.r,⟨.r,.r,.r,aj⟩,by rfl⟩
theorem ak4(s:bi)(aZ:List dN)(oI:aZ.length<=100)(dd kind aC cU:Int)(cut:List Int)(al:cut.length<=1000000):
  cj Tryz.prog 148 [.cells 210 (dg s++ [.own 1]),.row 218 7 (aZ.map fu)] [.aW 0 0,i64 dd,i64 kind,i64 aC,i64 cU,.av 1 (cut.map aU) false] [true,false] [.cells 210 (dg s++ [.own 1]),.row 218 7 ((aZ++ [eC s dd kind aC cU cut]).map fu),.bn] (.be []):=by
 refine ik (fn:=Tryz.f148) (c:=Tryz.f148.body.getD .skip) az aw (by rfl) Tryz.func148 (by rfl) (by rfl) (by rfl) (by rfl) (by rfl) ?_;repeat' ((conv=>whnf);first|refine ch ?_|refine aR (qs _ al) ?_|refine aS (Rx (by simp<;>omega)) ?_|refine Exists.intro false ?_|fail)
 all_goals(conv=>whnf)
 refine⟨.r,⟨.r,cM ?_,nJ,aj⟩,by rfl⟩;rw[ew];rfl
def oK(l:List cg)(r:cg)(k:Nat):Nat:=((l.take k).filter λx=>decide (x.aC=r.aC)&&iG x.cut r.cut).length
variable{l:List cg}{r:cg}
theorem ZP{k:Nat}(h:k<l.length):oK l r (k+1)=oK l r k+if(decide (l[k].aC=r.aC)&&iG l[k].cut r.cut)=true then 1 else 0:=by
 unfold oK;rw[fA h,oh,fw];cases bX: (decide (l[k].aC=r.aC)&&iG l[k].cut r.cut)<;>simp[bX]
theorem ZQ(l:List cg)(r:cg)(k:Nat):oK l r k<=k:=
 bT (uu _ _) (by grind)
def kB(l:List cg)(m:Int):Nat->Int×List Int
 |0=>(0,[])
 |i+1=>bif decide (m<=(oK l (l.getD i dB) l.length:Int))&&decide ((kB l m i).1<(l.getD i dB).aC)then((l.getD i dB).aC,(l.getD i dB).cut)else kB l m i
def vj(s:bi):List Int:=(kB s.aM (fY s.view.mem.length) s.aM.length).2
theorem ak5(s:bi)(aZ:List dN):cj Tryz.prog 227 [.cells 210 (dg s++ [.own 1]),.row 218 7 (aZ.map fu)] [.aW 0 0] [true,true] [.cells 210 (dg s++ [.own 1]),.row 218 7 (aZ.map fu)] (i64 (fY s.view.mem.length)):=by
 have e:bq Tryz.prog 181 [i64 ((s.view.mem.map aU).length:Int)] (i64 (fY s.view.mem.length)):=by
  rw[bL];exact Hj _
 refine ik (fn:=Tryz.f227) (c:=Tryz.f227.body.getD .skip) az aw (by rfl) Tryz.func227 (by rfl) (by rfl) (by rfl) (by rfl) (by rfl) ?_;repeat' ((conv=>whnf);first|refine aR e ?_|fail)
 all_goals(conv=>whnf)
 exact⟨.r,⟨.r,.r,.r,aj⟩,by rfl⟩
theorem ak6(s:bi)(ae:ez s):cj Tryz.prog 199 [.cells 210 (dg s++ [.ar])] [.aW 0 0] [true] [.cells 210 (dg s++ [.ar])] (.av 1 ((vj s).map aU) false):=by
 have ak7:=ak3 s .ar;have jn:=ae.aM;refine jV Tryz.func199 ?_;repeat' ((conv=>whnf);first|refine bl ?_|fail)
 all_goals(conv=>whnf)
 refine⟨Nat,λi=>⟨[(0,.aW 0 0),(3,i64 (kB s.aM (fY s.view.mem.length) i).1),(4,.av 1 ((kB s.aM (fY s.view.mem.length) i).2.map aU) false),(14,.av 3 (s.aM.map bW) false),(15,i64 s.aM.length),(16,i64 i)],[.cells 210 (dg s++ [.ar]),.cB [.aW 0 0]]⟩,λi=>i<=s.aM.length,λi=>s.aM.length-i,[],⟨0,bZ _,?_⟩,?_⟩
 ·conv=>whnf
  exact⟨⟨.r,.r,.ar,.r,a8 (by simp),.r,aj⟩,⟨.r,.r,aj⟩,by rfl⟩
 ·intro i hi;conv=>whnf
  apply bo<;>intro h
  ·have aB:i<s.aM.length:=by simpa using h
   clear h;have ax:s.aM.getD i dB=s.aM[i]:=by simp[aB]
   have Ry:=ae.kf _ (eD aB);have lA:kB s.aM (fY s.view.mem.length) (i+1)=bif decide (fY s.view.mem.length<=(oK s.aM s.aM[i] s.aM.length:Int))&&decide ((kB s.aM (fY s.view.mem.length) i).1<s.aM[i].aC)then(s.aM[i].aC,s.aM[i].cut)else kB s.aM (fY s.view.mem.length) i:=by
    rw[<-ax];rfl
   have xU: (s.aM.map bW)[i]?=some (bW s.aM[i]):=du aB;obtain⟨r,ao⟩:∃r,r=s.aM[i]:=⟨_,rfl⟩
   rw[<-ao]at Ry lA xU;repeat' ((conv=>whnf);first|refine⟨i,bW r,aS ⟨rfl,xU⟩ ?_⟩|fail)
   all_goals(conv=>whnf)
   refine⟨Nat,λk=>⟨[(0,.aW 0 0),(3,i64 (kB s.aM (fY s.view.mem.length) i).1),(4,.av 1 ((kB s.aM (fY s.view.mem.length) i).2.map aU) false),(6,.aW 2 0),(7,i64 (oK s.aM r k)),(14,.av 3 (s.aM.map bW) false),(15,i64 s.aM.length),(16,i64 i),(24,.av 3 (s.aM.map bW) false),(25,i64 s.aM.length),(26,i64 k)],[.cells 210 (dg s++ [.ar]),.cB [.aW 0 0],.cells 179 (bW r)]⟩,λk=>k<=s.aM.length,λk=>s.aM.length-k,[],⟨0,bZ _,?_⟩,?_⟩
   ·conv=>whnf
    exact⟨⟨.r,.r,.r,.r,.r,.r,.r,.r,.r,a8 (by simp),.r,aj⟩,⟨.r,.r,.r,aj⟩,by rfl⟩
   ·intro k hk;conv=>whnf
    apply bo<;>intro h
    ·have vk:k<s.aM.length:=by simpa using h
     clear h;have lB:=ZP (r:=r) vk;have jl:=ZQ s.aM r k;have Rz:=G1 s.aM[k].cut r.cut (by have:=ae.kf _ (eD vk);exact eS this);repeat' ((conv=>whnf);first|refine bl ?_| (apply bo<;>intro h)|refine dE ?_|refine⟨_,_,aS ⟨rfl,du vk⟩ ?_⟩|refine ea Rz ?_|fail)
     all_goals(conv=>whnf)
     ·refine⟨k+1,vk,by simp only[];omega,?_⟩;conv=>whnf
      refine⟨⟨.r,.r,.r,.r,?_,.r,.r,.r,.r,.r,a8 (ca (by omega)),aj⟩,⟨.r,.r,.r,aj⟩,by rfl⟩;rw[lB,b3 h];exact a8 (ca (by omega))
     ·refine⟨k+1,vk,by simp only[];omega,?_⟩;conv=>whnf
      refine⟨⟨.r,.r,.r,.r,?_,.r,.r,.r,.r,.r,a8 (ca (by omega)),aj⟩,⟨.r,.r,.r,aj⟩,by rfl⟩;rw[lB,bm (by rw[h];simp)];exact .refl
    ·have fU:¬k<s.aM.length:=by simpa using h
     have:k=s.aM.length:=by omega
     subst this;clear h;repeat' ((conv=>whnf);first|refine bl ?_| (apply bo<;>intro h)|refine ch ?_|refine dE ?_|refine aR ak7 ?_|fail)
     all_goals(conv=>whnf)
     ·rw[h,b6]at lA;refine⟨i+1,aB,by simp only[];omega,?_⟩;conv=>whnf
      exact⟨⟨.r,a8 (by rw[lA]),jI (by rw[lA]),.r,.r,a8 (ca (by omega)),aj⟩,⟨.r,.r,aj⟩,by rfl⟩
     ·rw[h,bD]at lA;refine⟨i+1,aB,by simp only[];omega,?_⟩;conv=>whnf
      exact⟨⟨.r,a8 (by rw[lA]),jI (by rw[lA]),.r,.r,a8 (ca (by omega)),aj⟩,⟨.r,.r,aj⟩,by rfl⟩
  ·have fU:¬i<s.aM.length:=by simpa using h
   have:i=s.aM.length:=by omega
   subst this;clear h;repeat' ((conv=>whnf);first|refine bl ?_|fail)
   all_goals(conv=>whnf)
   exact⟨.r,⟨.r,.r,aj⟩,by rfl⟩
theorem ak8(s:bi)(ae:ez s)(aZ:List dN):cj Tryz.prog 199 [.cells 210 (dg s++ [.own 1]),.row 218 7 (aZ.map fu)] [.aW 0 0] [true,true] [.cells 210 (dg s++ [.own 1]),.row 218 7 (aZ.map fu)] (.av 1 ((vj s).map aU) false):=by
 have jn:=ae.aM;refine jV Tryz.func199 ?_;repeat' ((conv=>whnf);first|refine bl ?_|fail)
 all_goals(conv=>whnf)
 refine⟨Nat,λi=>⟨[(0,.aW 0 0),(3,i64 (kB s.aM (fY s.view.mem.length) i).1),(4,.av 1 ((kB s.aM (fY s.view.mem.length) i).2.map aU) false),(14,.av 3 (s.aM.map bW) false),(15,i64 s.aM.length),(16,i64 i)],[.cells 210 (dg s++ [.own 1]),.row 218 7 (aZ.map fu),.cB [.aW 0 0,.own 1]]⟩,λi=>i<=s.aM.length,λi=>s.aM.length-i,[],⟨0,bZ _,?_⟩,?_⟩
 ·conv=>whnf
  exact⟨⟨.r,.r,.ar,.r,a8 (by simp),.r,aj⟩,⟨.r,.r,.r,aj⟩,by rfl⟩
 ·intro i hi;conv=>whnf
  apply bo<;>intro h
  ·have aB:i<s.aM.length:=by simpa using h
   clear h;have ax:s.aM.getD i dB=s.aM[i]:=by simp[aB]
   have Ry:=ae.kf _ (eD aB);have lA:kB s.aM (fY s.view.mem.length) (i+1)=bif decide (fY s.view.mem.length<=(oK s.aM s.aM[i] s.aM.length:Int))&&decide ((kB s.aM (fY s.view.mem.length) i).1<s.aM[i].aC)then(s.aM[i].aC,s.aM[i].cut)else kB s.aM (fY s.view.mem.length) i:=by
    rw[<-ax];rfl
   have xU: (s.aM.map bW)[i]?=some (bW s.aM[i]):=du aB;obtain⟨r,ao⟩:∃r,r=s.aM[i]:=⟨_,rfl⟩
   rw[<-ao]at Ry lA xU;repeat' ((conv=>whnf);first|refine⟨i,bW r,aS ⟨rfl,xU⟩ ?_⟩|fail)
   all_goals(conv=>whnf)
   refine⟨Nat,λk=>⟨[(0,.aW 0 0),(3,i64 (kB s.aM (fY s.view.mem.length) i).1),(4,.av 1 ((kB s.aM (fY s.view.mem.length) i).2.map aU) false),(6,.aW 3 0),(7,i64 (oK s.aM r k)),(14,.av 3 (s.aM.map bW) false),(15,i64 s.aM.length),(16,i64 i),(24,.av 3 (s.aM.map bW) false),(25,i64 s.aM.length),(26,i64 k)],[.cells 210 (dg s++ [.own 1]),.row 218 7 (aZ.map fu),.cB [.aW 0 0,.own 1],.cells 179 (bW r)]⟩,λk=>k<=s.aM.length,λk=>s.aM.length-k,[],⟨0,bZ _,?_⟩,?_⟩
   ·conv=>whnf
    exact⟨⟨.r,.r,.r,.r,.r,.r,.r,.r,.r,a8 (by simp),.r,aj⟩,⟨.r,.r,.r,.r,aj⟩,by rfl⟩
   ·intro k hk;conv=>whnf
    apply bo<;>intro h
    ·have vk:k<s.aM.length:=by simpa using h
     clear h;have lB:=ZP (r:=r) vk;have jl:=ZQ s.aM r k;have Rz:=G1 s.aM[k].cut r.cut (by have:=ae.kf _ (eD vk);exact eS this);repeat' ((conv=>whnf);first|refine bl ?_| (apply bo<;>intro h)|refine dE ?_|refine⟨_,_,aS ⟨rfl,du vk⟩ ?_⟩|refine ea Rz ?_|fail)
     all_goals(conv=>whnf)
     ·refine⟨k+1,vk,by simp only[];omega,?_⟩;conv=>whnf
      refine⟨⟨.r,.r,.r,.r,?_,.r,.r,.r,.r,.r,a8 (ca (by omega)),aj⟩,⟨.r,.r,.r,.r,aj⟩,by rfl⟩;rw[lB,b3 h];exact a8 (ca (by omega))
     ·refine⟨k+1,vk,by simp only[];omega,?_⟩;conv=>whnf
      refine⟨⟨.r,.r,.r,.r,?_,.r,.r,.r,.r,.r,a8 (ca (by omega)),aj⟩,⟨.r,.r,.r,.r,aj⟩,by rfl⟩;rw[lB,bm (by rw[h];simp)];exact .refl
    ·have fU:¬k<s.aM.length:=by simpa using h
     have:k=s.aM.length:=by omega
     subst this;clear h;repeat' ((conv=>whnf);first|refine bl ?_| (apply bo<;>intro h)|refine ch ?_|refine dE ?_|refine .inr ⟨[0,1],bO (ak5 s aZ) ?_⟩|fail)
     all_goals(conv=>whnf)
     ·rw[h,b6]at lA;refine⟨i+1,aB,by simp only[];omega,?_⟩;conv=>whnf
      exact⟨⟨.r,a8 (by rw[lA]),jI (by rw[lA]),.r,.r,a8 (ca (by omega)),aj⟩,⟨.r,.r,.r,aj⟩,by rfl⟩
     ·rw[h,bD]at lA;refine⟨i+1,aB,by simp only[];omega,?_⟩;conv=>whnf
      exact⟨⟨.r,a8 (by rw[lA]),jI (by rw[lA]),.r,.r,a8 (ca (by omega)),aj⟩,⟨.r,.r,.r,aj⟩,by rfl⟩
  ·have fU:¬i<s.aM.length:=by simpa using h
   have:i=s.aM.length:=by omega
   subst this;clear h;repeat' ((conv=>whnf);first|refine bl ?_|fail)
   all_goals(conv=>whnf)
   exact⟨.r,⟨.r,.r,.r,aj⟩,by rfl⟩
def hh(s:bi):List Int:=bif (jx s.view s.box).2 then(jx s.view s.box).1 else vj s
def dk(s:bi)(aZ:List dN):bi×List dN:=
 bif decide ((s.dec.length:Int)=0)&&decide (0<((hh s).length:Int))then({s with dec:=hh s},aZ++ [eC s 0 6 0 0 (hh s)])else(s,aZ)
variable{l:List c6}{N:Nat}
theorem ZR(al:∀b∈l,b.cut.length<=N): (jx v l).1.length<=N:=by
 unfold jx
 grind
theorem ZS{l:List cg}{N:Nat}(al:∀b∈l,b.cut.length<=N)(m:Int):∀i,i<=l.length->(kB l m i).2.length<=N
 |0,_=>bZ _
 |i+1,h=>by
  unfold kB;cases decide (m<=(oK l (l.getD i dB) l.length:Int))&&decide ((kB l m i).1<(l.getD i dB).aC)
  ·exact ZS al m i (by omega)
  grind
variable{s:bi}
theorem ZT(ae:ez s): (vj s).length<=1000:=ZS ae.kf _ _ (bS _)
theorem Hr{a d:ak}:hz (.cB [a,d]) (.cB [.aY,.aY]):=.cB rfl λi x y ag bk=>by
 rcases i with _|_|i
 ·simp at ag bk;subst ag bk;exact .aY
 ·simp at ag bk;subst ag bk;exact .aY
 grind
theorem ZU{s:bi}{aZ:List dN}{c:List Int}(aQ:decide (((s.dec.map aU).length:Int)=0)=true)(al:hh s=c)(h:decide (0<((c.map aU).length:Int))=true):dk s aZ=({s with dec:=c},aZ++ [eC s 0 6 0 0 c]):=by
 rw[bL]at aQ h;simp only[dk,al,aQ,h,NH,b6]
theorem ZV{s:bi}{aZ:List dN}{c:List Int}(al:hh s=c)(h:decide (0<((c.map aU).length:Int))=false):dk s aZ=(s,aZ):=by
 rw[bL]at h;simp only[dk,al,h,oR,bD]
theorem ZW{s:bi}{aZ:List dN}(aQ:decide (((s.dec.map aU).length:Int)=0)=false):dk s aZ=(s,aZ):=by
 rw[bL]at aQ;simp only[dk,aQ,wZ,bD]
theorem LD(s:bi)(ae:ez s):cj Tryz.prog 154 [.cells 210 (dg s++ [.ar])] [.aW 0 0] [false] [.bn] (.be [.agg (dg (dk s []).1),.av 7 ((dk s []).2.map fu) false]):=by
 have ab:=ae.mem;have RA:=ZE s.view (by omega) s.box (by have:=ae.box;omega) (λb ac=>by have:=ae.kA b ac;omega);have RB:=ak6 s ae;have hw:=ZR (v:=s.view) ae.kA;have bb:=ZT ae;have wq: (jx s.view s.box).2=true->hh s=(jx s.view s.box).1:=λh=>by rw[hh,h,b6]
 have kw: (jx s.view s.box).2=false->hh s=vj s:=λh=>by rw[hh,h,bD]
 generalize jx s.view s.box=W at *;generalize vj s=D at *;have RC:=λc h=>LC {s with dec:=c} 0 6 0 0 c h;have bk:=λc aQ al h=> @ZU s [] c aQ al h;have aV:=λc al h=> @ZV s [] c al h;have aH:=λh=> @ZW s [] h;generalize dk s []=R at *;refine mi Tryz.func154 ?_;repeat' ((conv=>whnf);first| (apply bo<;>intro h)|refine ch ?_|refine aR RA ?_|refine .inr ⟨[0],bO RB ?_⟩|refine aR (qs _ (by omega)) ?_|refine .inr ⟨[0],_,_,_,_,_,RC _ (by omega),by rfl,⟨.r,aj⟩,⟨.r,.r,.r,.r,.r,.r,aj⟩,?_⟩|fail)
 all_goals(conv=>whnf)
 ·rename_i aQ oH;rw[bk D aQ (kw (by simpa using oH)) h];refine⟨[.j6 3],?_⟩;conv=>whnf
  exact⟨.r,⟨.bn,rU,aj⟩,by rfl⟩
 ·rename_i aQ oH;rw[aV D (kw (by simpa using oH)) h];refine⟨[],?_⟩;conv=>whnf
  exact⟨e1 ⟨.r,.ar,aj⟩,⟨.bn,rU,aj⟩,by rfl⟩
 ·rename_i aQ oH;rw[bk W.1 aQ (wq (by simpa using oH)) h];refine⟨[.j6 3],?_⟩;conv=>whnf
  exact⟨.r,⟨.bn,rU,aj⟩,by rfl⟩
 ·rename_i aQ oH;rw[aV W.1 (wq (by simpa using oH)) h];refine⟨[],?_⟩;conv=>whnf
  exact⟨e1 ⟨.r,.ar,aj⟩,⟨.bn,rU,aj⟩,by rfl⟩
 ·rw[aH h];refine⟨[],?_⟩;conv=>whnf
  exact⟨e1 ⟨.r,.ar,aj⟩,⟨.bn,rU,aj⟩,by rfl⟩
theorem zt(s:bi)(ae:ez s)(aZ:List dN)(oI:aZ.length<=100):cj Tryz.prog 154 [.cells 210 (dg s++ [.own 1]),.row 218 7 (aZ.map fu)] [.aW 0 0] [false,false] [.bn,.bn] (.be [.agg (dg (dk s aZ).1),.av 7 ((dk s aZ).2.map fu) false]):=by
 have ab:=ae.mem;have RA:=ZE s.view (by omega) s.box (by have:=ae.box;omega) (λb ac=>by have:=ae.kA b ac;omega);have RB:=ak8 s ae aZ;have hw:=ZR (v:=s.view) ae.kA;have bb:=ZT ae;have wq: (jx s.view s.box).2=true->hh s=(jx s.view s.box).1:=λh=>by rw[hh,h,b6]
 have kw: (jx s.view s.box).2=false->hh s=vj s:=λh=>by rw[hh,h,bD]
 generalize jx s.view s.box=W at *;generalize vj s=D at *;have RC:=λc h=>ak4 {s with dec:=c} aZ oI 0 6 0 0 c h;have bk:=λc aQ al h=> @ZU s aZ c aQ al h;have aV:=λc al h=> @ZV s aZ c al h;have aH:=λh=> @ZW s aZ h;generalize dk s aZ=R at *;refine mi Tryz.func154 ?_;repeat' ((conv=>whnf);first| (apply bo<;>intro h)|refine ch ?_|refine aR RA ?_|refine .inr ⟨[0,1],bO RB ?_⟩|refine aR (qs _ (by omega)) ?_|refine .inr ⟨[0,1],_,_,_,_,_,RC _ (by omega),by rfl,⟨.r,.r,aj⟩,⟨.r,.r,.r,.r,.r,.r,aj⟩,?_⟩|fail)
 all_goals(conv=>whnf)
 ·rename_i aQ oH;rw[bk D aQ (kw (by simpa using oH)) h];refine⟨[.j6 3],?_⟩;conv=>whnf
  exact⟨.r,⟨.bn,.bn,Hr,aj⟩,by rfl⟩
 ·rename_i aQ oH;rw[aV D (kw (by simpa using oH)) h];refine⟨[.j6 3],?_⟩;conv=>whnf
  exact⟨.r,⟨.bn,.bn,Hr,aj⟩,by rfl⟩
 ·rename_i aQ oH;rw[bk W.1 aQ (wq (by simpa using oH)) h];refine⟨[.j6 3],?_⟩;conv=>whnf
  exact⟨.r,⟨.bn,.bn,Hr,aj⟩,by rfl⟩
 ·rename_i aQ oH;rw[aV W.1 (wq (by simpa using oH)) h];refine⟨[.j6 3],?_⟩;conv=>whnf
  exact⟨.r,⟨.bn,.bn,Hr,aj⟩,by rfl⟩
 ·rw[aH h];refine⟨[.j6 3],?_⟩;conv=>whnf
  exact⟨.r,⟨.bn,.bn,Hr,aj⟩,by rfl⟩
def eH(s:bi)(cut:List Int):bi×List dN×Int:=
 bif !fI s|| !ga s.view cut then(gf,[],1)
 else bif decide (0<(s.prop.length:Int))||decide (0<(s.dec.length:Int))then(gf,[],7)
 else bif (oJ s.aL cut).2 then
  ((dk {s with prop:=cut,cD:=0,aL:=(oJ s.aL cut).1,box:=(h6 s.view s.box ⟨s.self,cut⟩).1} [eC s 0 1 0 0 cut]).1,(dk {s with prop:=cut,cD:=0,aL:=(oJ s.aL cut).1,box:=(h6 s.view s.box ⟨s.self,cut⟩).1} [eC s 0 1 0 0 cut]).2,0)
 else((dk {s with prop:=cut,cD:=0} []).1,(dk {s with prop:=cut,cD:=0} []).2,0)
theorem Bw(h:fI s=true):b2 s.view=true/\bP s.view.mem s.self=true/\0<=s.cD/\s.cD<=1099511627776:=by
 unfold fI at h
 grind
theorem ZX(h:fI s=true):jX s.view s.prop=true/\jX s.view s.c4=true/\jX s.view s.dec=true/\hX s.view s.box=true:=by
 unfold fI at h
 grind
theorem ZY(h:fI s=true):s.box.length<=16:=by
 have:=Rn (ZX h).2.2.2;have:=sK (Bw h).1;omega
theorem ZZ{b:c6}: (h6 v l b).1.length<=l.length+1:=by
 unfold h6;have:=ZA l b
 grind
theorem Z0{b:c6}{N:Nat}(af:∀x∈l,x.cut.length<=N)(ac:b.cut.length<=N):∀x∈ (h6 v l b).1,x.cut.length<=N:=by
 unfold h6;intro x ag;cases h1: !hX v l|| !ga v b.cut<;>cases ad: !bP v.mem b.mem<;>cases aN:decide (0<=lf l b.mem)<;>rw[h1,ad,aN]at ag<;>simp only[b6,bD]at ag<;>try(cases ag;done)
 rcases zp ag with rfl|ag;all_goals grind
theorem ak9(s:bi)(ae:ez s)(cut:List Int)(al:cut.length<=1000):bq Tryz.prog 97 [.agg (dg s),.av 1 (cut.map aU) false] (.be [.agg (dg (eH s cut).1),.av 7 ((eH s cut).2.1.map fu) false,i64 (eH s cut).2.2]):=by
 have ab:=ae.mem;have fR:=pe s ae;have ala:=Rf s.view (by omega) cut (by omega);have mJ:=xY s ae;have alb:=akg s.aL (by have:=ae.gT;omega) cut (by omega);have RD:=ZF s.view (by omega) s.box (by have:=ae.box;omega) (λb ac=>by have:=ae.kA b ac;omega) ⟨s.self,cut⟩ (by simp only[];omega);have vZ:ez {s with prop:=cut,cD:=0}:=⟨ae.mem,ae.gT,al,ae.box,ae.kA,ae.bu,ae.mm,ae.c4,ae.aM,ae.kf,ae.dec⟩
 have jH:fI s=true->ez {s with prop:=cut,cD:=0,aL:=(oJ s.aL cut).1,box:=(h6 s.view s.box ⟨s.self,cut⟩).1}:=λh=>
  ⟨ae.mem,akr ae.gT al,al,by
   have:=ZZ (v:=s.view) (l:=s.box) (b:=⟨s.self,cut⟩);have:=ZY h;simp only[];omega,Z0 ae.kA al,ae.bu,ae.mm,ae.c4,ae.aM,ae.kf,ae.dec⟩
 obtain⟨R,b1⟩:∃R,R=eH s cut:=⟨_,rfl⟩
 rw[<-b1];unfold eH at b1;generalize oJ s.aL cut=V at *;generalize(h6 s.view s.box ⟨s.self,cut⟩)=X at *;generalize fI s=B at *;have alc:=LC {s with prop:=cut,cD:=0,aL:=V.1,box:=X.1} 0 1 0 0 cut (by omega);have ald:=LD _ vZ;have ale:=λh=>zt _ (jH h) [eC s 0 1 0 0 cut] (by simp);refine fX Tryz.func97 ?_;repeat' ((conv=>whnf);first|refine bl ?_| (apply bo<;>intro h)|refine dE ?_|refine aR fR ?_|refine ea ala ?_|refine aR mJ ?_|fail)
 ·simp only[h,b6]at b1;subst b1;exact e1 ⟨iQ ⟨.r,.r,.ar,.r,.r,.ar,.ar,.ar,.r,.r,.ar,.ar,.ar,.ar,.r,aj⟩,.ar,.r,aj⟩
 ·rename_i aQ;rw[bL,bL]at h;simp only[aQ,h,b6,bD]at b1;subst b1;exact e1 ⟨iQ ⟨.r,.r,.ar,.r,.r,.ar,.ar,.ar,.r,.r,.ar,.ar,.ar,.ar,.r,aj⟩,.ar,.r,aj⟩
 rename_i aQ;rw[bL,bL]at h;simp only[aQ,h,bD]at b1;clear h;have ct:B=true:=by
  cases B
  ·cases aQ
  ·rfl
 repeat' ((conv=>whnf);first| (apply bo<;>intro h)|refine ch ?_|refine aR (qs _ (by omega)) ?_|refine aR alb ?_|refine aR RD ?_|refine .inr ⟨[2],bO alc ?_⟩|refine .inr ⟨[2],bO ald ?_⟩|refine .inr ⟨[2,6],bO (ale ct) ?_⟩|fail)
 all_goals(conv=>whnf)
 all_goals(simp only[h,b6,bD]at b1)
 all_goals subst b1
 all_goals exact .refl
def kg(s:bi)(m:c1):bi:=bif decide ((h6 s.view s.box ⟨m.src,m.cut⟩).2=0)then {s with box:=(h6 s.view s.box ⟨m.src,m.cut⟩).1}else s
theorem alf(s:bi)(ae:ez s)(m:c1)(al:m.cut.length<=1000)(h1:fI s=true)(ad:m.view=s.view.num)(aN:eG s.view m=true)(bs:m.src≠s.self)(cm:s.dec=[])(eK:m.kind=1):
  bq Tryz.prog 88 [.agg (dg s),.agg (pQ m)] (.be [.agg (dg (dk (kg s m) []).1),.av 7 ((dk (kg s m) []).2.map fu) false,i64 0]):=by
 have ab:=ae.mem;have fR:=pe s ae;have jy:=zo s.view (by omega) m (by omega);have mJ:=xY s ae;have RD:=ZF s.view (by omega) s.box (by have:=ae.box;omega) (λb ac=>by have:=ae.kA b ac;omega) ⟨m.src,m.cut⟩ (by simp only[];omega);have yV:=ZY h1;have jH:ez (kg s m):=by
  unfold kg;cases decide ((h6 s.view s.box ⟨m.src,m.cut⟩).2=0)
  ·exact ae
  ·exact⟨ae.mem,ae.gT,ae.prop,by
    have:=ZZ (v:=s.view) (l:=s.box) (b:=⟨m.src,m.cut⟩);simp only[b6];omega,Z0 ae.kA al,ae.bu,ae.mm,ae.c4,ae.aM,ae.kf,ae.dec⟩
 have oL:=LD _ jH;have bk:decide ((h6 s.view s.box ⟨m.src,m.cut⟩).2=0)=true->kg s m= {s with box:=(h6 s.view s.box ⟨m.src,m.cut⟩).1}:=λh=>by rw[kg,h,b6]
 have aV:decide ((h6 s.view s.box ⟨m.src,m.cut⟩).2=0)=false->kg s m=s:=λh=>by rw[kg,h,bD]
 have alg:decide ((h6 s.view s.box ⟨m.src,m.cut⟩).2=0)=true->cj Tryz.prog 154 [.cells 210 (dg {s with box:=(h6 s.view s.box ⟨m.src,m.cut⟩).1}++ [.ar])] [.aW 0 0] [false] [.bn] (.be [.agg (dg (dk (kg s m) []).1),.av 7 ((dk (kg s m) []).2.map fu) false]):=λh=>by
  have:=oL;rw[bk h]at this⊢;exact this
 have alh:decide ((h6 s.view s.box ⟨m.src,m.cut⟩).2=0)=false->cj Tryz.prog 154 [.cells 210 (dg s++ [.ar])] [.aW 0 0] [false] [.bn] (.be [.agg (dg (dk (kg s m) []).1),.av 7 ((dk (kg s m) []).2.map fu) false]):=λh=>by
  have:=oL;rw[aV h]at this⊢;exact this
 clear oL bk aV jH;generalize dk (kg s m) []=E at *;generalize h6 s.view s.box ⟨m.src,m.cut⟩=X at *;rw[h1]at fR;rw[aN]at jy;have Hs:decide (m.src=s.self)=false:=c5 bs;have pg:decide (m.view=s.view.num)=true:=e4 ad;have mK:decide (0<((s.dec.map aU).length:Int))=false:=by rw[cm];rfl
 have RE:decide (m.kind=1)=true:=e4 eK;refine fX Tryz.func88 ?_;repeat' ((conv=>whnf);first|refine bl ?_|refine ht (by assumption) ?_|refine ft (by assumption) ?_| (apply bo<;>intro h)|exact .refl|refine ch ?_|refine dE ?_|refine aR fR ?_|refine aR jy ?_|refine aR mJ ?_|refine aR RD ?_|refine .inr ⟨[3],bO (alg (by assumption)) ?_⟩|refine .inr ⟨[3],bO (alh (by assumption)) ?_⟩|fail)
 all_goals(conv=>whnf)
 rw[pg]at h;cases h
theorem ali(h1:s.view.mem.length<=1000)(ad:s.aL.cut.length<=1000)(aN:s.prop.length<=1000)(bs:s.box.length<=1000)(cm:∀b∈s.box,b.cut.length<=1000)(eK:s.bu=[])(jj:s.c4.length<=1000)(Dm:s.aM=[])(st:s.dec.length<=1000):ez s:=
 ⟨h1,ad,aN,bs,cm,(by grind),(λb ac=>by grind),jj,(by grind),(λb ac=>by grind),st⟩
theorem zu{l:List cg}{x:Int}(h:decide (0<=eQ l x)=true):eQ l x=((eQ l x).toNat:Int)/\(eQ l x).toNat<l.length:=by
 have h:=fC h;refine⟨by omega,?_⟩;unfold eQ at h⊢;rcases au: (List.range l.length).find? (λi=>decide ((l.getD i dB).mem=x))with _|n
 ·simp only[lv,au]at h;omega
 ·have aV:n<l.length:=w4.1 (I5 au);simp only[lv,au,l6];exact aV
theorem mn{t:TypeId}{cs ds:List ak}(h:m4 cs ds):hz (.cells t cs) (.cells t ds):=.cells (xK h).1 (xK h).2
def fS(v:aK)(l:List cg)(r:cg):List cg:=
 bif decide (0<=eQ l r.mem)then(bif decide ((l.getD (eQ l r.mem).toNat dB).aC<r.aC)then l.set (eQ l r.mem).toNat r else l)else(fN v l r).1
theorem alj(s:bi)(ae:ez s)(cy:gI s.view s.aM=true)(r:cg)(ao:r.cut.length<=1000):
  cj Tryz.prog 153 [.cells 210 (pf s 1++ [.ar]),.row 179 3 (s.aM.map bW)] [.aW 0 0,.agg (bW r)] [true,false] [.cells 210 (pf s 3++ [.ar]),.gone,.bn,.row 179 3 ((fS s.view s.aM r).map bW)] (.be []):=by
 have RF:=Hp s.aM (eS ae.aM) r.mem;have Ht:=ZO s.view (by have:=ae.mem;omega) s.aM (by have:=ae.aM;omega) (λb ac=>by have:=ae.kf b ac;omega) r (by omega) cy;have kv:= @zu s.aM r.mem;have nZ:decide (0<=eQ s.aM r.mem)=true->decide ((s.aM.getD (eQ s.aM r.mem).toNat dB).aC<r.aC)=true->fS s.view s.aM r=s.aM.set (eQ s.aM r.mem).toNat r:=λh1 ad=>by rw[fS,h1,ad];rfl
 have nD:decide (0<=eQ s.aM r.mem)=true->decide ((s.aM.getD (eQ s.aM r.mem).toNat dB).aC<r.aC)=false->fS s.view s.aM r=s.aM:=λh1 ad=>by rw[fS,h1,ad];rfl
 have Bx:decide (0<=eQ s.aM r.mem)=false->fS s.view s.aM r=(fN s.view s.aM r).1:=λh1=>by rw[fS,h1];rfl
 generalize fS s.view s.aM r=E at *;generalize fN s.view s.aM r=R at *;refine mi Tryz.func153 ?_;repeat' ((conv=>whnf);first| (apply bo<;>intro h)|refine ch ?_|refine aR (qs _ (by omega)) ?_|refine aR RF ?_|fail)
 all_goals(conv=>whnf)
 ·have aQ:=h;clear h;obtain⟨jk,mF⟩:=kv aQ;have nZ:=nZ aQ;have nD:=nD aQ;clear kv Bx Ht;generalize(eQ s.aM r.mem).toNat=k at *;have hS:k<(s.aM.map bW).length:=by rw[bL];exact mF
  have ax:s.aM.getD k dB=s.aM[k]:=by simp[mF]
  have cL: (s.aM.map bW)[k]?=some (bW s.aM[k]):=du mF;rw[ax]at nZ nD;repeat' ((conv=>whnf);first| (apply bo<;>intro h)|refine ch ?_|refine⟨k,aS ⟨jk,hS⟩ ?_⟩|refine⟨bW s.aM[k],aS cL ?_⟩|fail)
  all_goals(conv=>whnf)
  ·rw[nZ h];refine⟨[.fresh 179 3,.eT 1 5,.eT 3 5,.nS 1],?_⟩;conv=>whnf
   refine⟨.r,⟨.r,.r,nJ,cM ?_,aj⟩,by rfl⟩;rw[oj];rfl
  ·rw[nD h];refine⟨[.fresh 179 3,.eT 1 5,.eT 3 5,.nS 1],?_⟩;conv=>whnf
   exact⟨.r,⟨.r,.r,nJ,.r,aj⟩,by rfl⟩
 ·rw[Bx h];clear nZ nD Bx kv;repeat' ((conv=>whnf);first|refine ch ?_|refine .inr ?_<;> (conv=>whnf)<;>refine .inr ?_<;> (conv=>whnf)<;>refine⟨_,_,_,Ht,by rfl,⟨.r,.r,.r,aj⟩,?_⟩|fail)
  all_goals(conv=>whnf)
  refine⟨[.eT 3 5],?_⟩;conv=>whnf
  exact⟨.r,⟨.r,.r,nJ,.r,aj⟩,by rfl⟩
theorem alk(s:bi)(ae:ez s)(cy:gI s.view s.aM=true)(r:cg)(ao:r.cut.length<=1000):
  cj Tryz.prog 153 [.cells 210 (pf s 1++ [.ar]),.row 179 3 (s.aM.map bW)] [.aW 0 0,.agg (bW r)] [true,false] [.cells 210 (pf s 2++ [.ar]),.gone,.row 179 3 ((fS s.view s.aM r).map bW)] (.be []):=
 (alj s ae cy r ao).y8 (L1:=[.cells 210 (pf s 3++ [.ar]),.gone]) (wE:=[.row 179 3 ((fS s.view s.aM r).map bW)]) (bS _)
theorem RG(s:bi)(ae:ez s)(cy:gI s.view s.aM=true)(r:cg)(ao:r.cut.length<=1000):
  cj Tryz.prog 153 [.cells 210 (pf s 1++ [.ar]),.row 179 3 (s.aM.map bW)] [.aW 0 0,.agg (bW r)] [true,false] [.cells 210 (dg {s with aM:=fS s.view s.aM r}++ [.ar]),.gone] (.be []):=by
 have RF:=Hp s.aM (eS ae.aM) r.mem;have Ht:=ZO s.view (by have:=ae.mem;omega) s.aM (by have:=ae.aM;omega) (λb ac=>by have:=ae.kf b ac;omega) r (by omega) cy;have kv:= @zu s.aM r.mem;have nZ:decide (0<=eQ s.aM r.mem)=true->decide ((s.aM.getD (eQ s.aM r.mem).toNat dB).aC<r.aC)=true->fS s.view s.aM r=s.aM.set (eQ s.aM r.mem).toNat r:=λh1 ad=>by rw[fS,h1,ad];rfl
 have nD:decide (0<=eQ s.aM r.mem)=true->decide ((s.aM.getD (eQ s.aM r.mem).toNat dB).aC<r.aC)=false->fS s.view s.aM r=s.aM:=λh1 ad=>by rw[fS,h1,ad];rfl
 have Bx:decide (0<=eQ s.aM r.mem)=false->fS s.view s.aM r=(fN s.view s.aM r).1:=λh1=>by rw[fS,h1];rfl
 generalize fS s.view s.aM r=E at *;generalize fN s.view s.aM r=R at *;refine mi Tryz.func153 ?_;repeat' ((conv=>whnf);first| (apply bo<;>intro h)|refine ch ?_|refine aR (qs _ (by omega)) ?_|refine aR RF ?_|fail)
 all_goals(conv=>whnf)
 ·have aQ:=h;clear h;obtain⟨jk,mF⟩:=kv aQ;have nZ:=nZ aQ;have nD:=nD aQ;clear kv Bx Ht;generalize(eQ s.aM r.mem).toNat=k at *;have hS:k<(s.aM.map bW).length:=by rw[bL];exact mF
  have ax:s.aM.getD k dB=s.aM[k]:=by simp[mF]
  have cL: (s.aM.map bW)[k]?=some (bW s.aM[k]):=du mF;rw[ax]at nZ nD;repeat' ((conv=>whnf);first| (apply bo<;>intro h)|refine ch ?_|refine⟨k,aS ⟨jk,hS⟩ ?_⟩|refine⟨bW s.aM[k],aS cL ?_⟩|fail)
  all_goals(conv=>whnf)
  ·rw[nZ h];refine⟨[.qa 0 12,.nS 1],?_⟩;conv=>whnf
   refine⟨.r,⟨mn ⟨.r,.r,.r,.r,.r,.r,.r,.r,.r,.r,.r,.r,jI ?_,.r,.r,.r,aj⟩,.r,nJ,aj⟩,by rfl⟩;rw[oj];rfl
  ·rw[nD h];refine⟨[.qa 0 12,.nS 1],?_⟩;conv=>whnf
   exact⟨.r,⟨.r,.r,nJ,aj⟩,by rfl⟩
 ·rw[Bx h];clear nZ nD Bx kv;repeat' ((conv=>whnf);first|refine ch ?_|refine .inr ?_<;> (conv=>whnf)<;>refine .inr ?_<;> (conv=>whnf)<;>refine⟨_,_,_,Ht,by rfl,⟨.r,.r,.r,aj⟩,?_⟩|fail)
  all_goals(conv=>whnf)
  refine⟨[.eT 1 5,.qa 0 12,.nS 1],?_⟩;conv=>whnf
  exact⟨.r,⟨.r,.r,nJ,aj⟩,by rfl⟩
def q7(s:bi):bi:={s with phase:=0,bu:=[],c4:=[]}
theorem alm(s:bi):cj Tryz.prog 194 [.cells 210 (dg s++ [.ar])] [.aW 0 0] [true] [.cells 210 (dg (q7 s)++ [.ar])] (.be []):=by
 refine tG (fn:=Tryz.f194) (c:=Tryz.f194.body.getD .skip) az aw (by rfl) Tryz.func194 (by rfl) (by rfl) (by rfl) (by rfl) (by rfl) ?_;repeat' ((conv=>whnf);first|refine bl ?_|fail)
 all_goals(conv=>whnf)
 all_goals(refine⟨[],?_⟩)
 all_goals(conv=>whnf)
 all_goals(exact⟨.r,⟨mn ⟨.r,.r,.r,.r,.r,.r,.r,.r,.r,.r,.ar,.ar,.r,.r,.r,.r,aj⟩,.r,aj⟩,by rfl⟩)
theorem aln(s:bi):cj Tryz.prog 194 [.cells 210 (pf s 1++ [.ar]),.row 179 3 (s.aM.map bW)] [.aW 0 0] [true,true] [.cells 210 (pf (q7 s) 1++ [.ar]),.row 179 3 (s.aM.map bW)] (.be []):=by
 refine tG (fn:=Tryz.f194) (c:=Tryz.f194.body.getD .skip) az aw (by rfl) Tryz.func194 (by rfl) (by rfl) (by rfl) (by rfl) (by rfl) ?_;repeat' ((conv=>whnf);first|refine bl ?_|fail)
 all_goals(conv=>whnf)
 all_goals(refine⟨[],?_⟩)
 all_goals(conv=>whnf)
 all_goals(exact⟨.r,⟨mn ⟨.r,.r,.r,.r,.r,.r,.r,.r,.r,.r,.ar,.ar,.r,.r,.r,.r,aj⟩,.r,.r,aj⟩,by rfl⟩)
theorem alo(s:bi):cj Tryz.prog 227 [.cells 210 (pf s 1++ [.ar]),.row 179 3 (s.aM.map bW)] [.aW 0 0] [true,true] [.cells 210 (pf s 1++ [.ar]),.row 179 3 (s.aM.map bW)] (i64 (fY s.view.mem.length)):=by
 have e:bq Tryz.prog 181 [i64 ((s.view.mem.map aU).length:Int)] (i64 (fY s.view.mem.length)):=by
  rw[bL];exact Hj _
 refine ik (fn:=Tryz.f227) (c:=Tryz.f227.body.getD .skip) az aw (by rfl) Tryz.func227 (by rfl) (by rfl) (by rfl) (by rfl) (by rfl) ?_;repeat' ((conv=>whnf);first|refine aR e ?_|fail)
 all_goals(conv=>whnf)
 exact⟨.r,⟨.r,.r,.r,aj⟩,by rfl⟩
variable{l:List cg}
theorem RH{own:List Int}{N:Nat}(al:∀r∈l,r.cut.length<=N)(aH:own.length<=N): (gB v l own).1.length<=N:=by
 unfold gB;cases q5 v l own
 ·rw[bD];cases decide (0<(l.getD (hW l l.length) dB).aC)
  ·rw[bD];cases au: (fZ l).find? (λb=>decide (tT v l<=(iH (fZ l) b.cut:Int)))with
   |some b=>exact Zr al b (I5 au)
   |none=>
    grind
  ·rw[b6];rcases mX (hW l l.length) l.length with h|h
   ·grind
   ·simp only[sc,w2 h,Jf];exact bZ _
 simp
def gx(s:bi):bi:=
 bif !decide (s.phase=1)||decide ((s.bu.length:Int)<fY s.view.mem.length)then s
 else bif (jc s.aL s.aC (gB s.view s.bu s.prop).1).2 then
  {s with c4:=(gB s.view s.bu s.prop).1,phase:=2,aL:=(jc s.aL s.aC (gB s.view s.bu s.prop).1).1,aM:=fS s.view s.aM ⟨s.self,s.aC,(gB s.view s.bu s.prop).1⟩}
 else q7 s
theorem Z1(s:bi)(ae:ez s)(cy:gI s.view s.aM=true):cj Tryz.prog 196 [.cells 210 (pf s 1++ [.ar]),.row 179 3 (s.aM.map bW)] [.aW 0 0] [true,false] [.cells 210 (dg (gx s)++ [.ar]),.gone] (.be []):=by
 have aA:=alo s;have ix:=RH (v:=s.view) (l:=s.bu) (own:=s.prop) ae.mm ae.prop;have aG:=akl s.view (by have:=ae.mem;omega) s.bu (by have:=ae.bu;omega) (λb ac=>by have:=ae.mm b ac;omega) s.prop (by have:=ae.prop;omega);have Z2: (!decide (s.phase=1)||decide ((s.bu.length:Int)<fY s.view.mem.length))=true->gx s=s:=λh=>by rw[gx,h,b6]
 have nZ: (!decide (s.phase=1)||decide ((s.bu.length:Int)<fY s.view.mem.length))=false->(jc s.aL s.aC (gB s.view s.bu s.prop).1).2=true->gx s= {s with c4:=(gB s.view s.bu s.prop).1,phase:=2,aL:=(jc s.aL s.aC (gB s.view s.bu s.prop).1).1,aM:=fS s.view s.aM ⟨s.self,s.aC,(gB s.view s.bu s.prop).1⟩}:=λh ad=>by rw[gx,h,ad,bD,b6]
 have nD: (!decide (s.phase=1)||decide ((s.bu.length:Int)<fY s.view.mem.length))=false->(jc s.aL s.aC (gB s.view s.bu s.prop).1).2=false->gx s=q7 s:=λh ad=>by rw[gx,h,ad,bD,bD]
 generalize gB s.view s.bu s.prop=C at *;have bc:=Zj s.aL (by have:=ae.gT;omega) s.aC C.1 (by omega);have jn:=Ls (aC:=s.aC) ae.gT ix;generalize jc s.aL s.aC C.1=X at *;have cn:=aln {s with c4:=C.1,phase:=2};have jH:ez {s with c4:=C.1,phase:=2,aL:=X.1}:=⟨ae.mem,jn,ae.prop,ae.box,ae.kA,ae.bu,ae.mm,ix,ae.aM,ae.kf,ae.dec⟩
 have ep:=RG _ jH cy ⟨s.self,s.aC,C.1⟩ ix;generalize gx s=A at *;refine mi Tryz.func196 ?_;repeat' ((conv=>whnf);first|refine bl ?_| (apply bo<;>intro h)|refine ch ?_|refine Exists.intro (i64 0) ?_|refine aS ⟨λh=>h,λax=>Bool.noConfusion (ax.symm.trans h)⟩ ?_|refine .inl ⟨[0,1],_,_,_,_,aA,by rfl,⟨rfl,rfl,aj⟩,⟨.r,aj⟩,?_⟩|refine aR aG ?_|refine aR bc ?_|refine .inr ⟨[0,1],bO cn ?_⟩|refine .inr ⟨[0,1],bO ep ?_⟩|fail)
 all_goals(conv=>whnf)
 all_goals simp only[bL]at *
 ·rw[Z2 (by assumption)];refine⟨[.qa 0 12,.nS 1],?_⟩;conv=>whnf
  exact⟨.r,⟨.r,.r,nJ,aj⟩,by rfl⟩
 ·rename_i h1 ad;rw[nD h (by simpa using ad)];refine⟨[.qa 0 12,.nS 1],?_⟩;conv=>whnf
  exact⟨.r,⟨.r,.r,nJ,aj⟩,by rfl⟩
 ·rename_i h1 ad;rw[nZ h (by simpa using ad)];refine⟨[],?_⟩;conv=>whnf
  exact⟨.r,⟨.r,.r,nJ,aj⟩,by rfl⟩
 ·rename_i h1;rw[Z2 (by simp at h1;simp[h1])];refine⟨[.qa 0 12,.nS 1],?_⟩;conv=>whnf
  exact⟨.r,⟨.r,.r,nJ,aj⟩,by rfl⟩
 all_goals
  rename_i h1 ad;simp at h1 h;exact absurd h h1
theorem alp(s:bi)(aZ:List dN):cj Tryz.prog 194 [.cells 210 (dg s++ [.own 1]),.row 218 7 (aZ.map fu)] [.aW 0 0] [true,true] [.cells 210 (dg (q7 s)++ [.own 1]),.row 218 7 (aZ.map fu)] (.be []):=by
 refine tG (fn:=Tryz.f194) (c:=Tryz.f194.body.getD .skip) az aw (by rfl) Tryz.func194 (by rfl) (by rfl) (by rfl) (by rfl) (by rfl) ?_;repeat' ((conv=>whnf);first|refine bl ?_|fail)
 all_goals(conv=>whnf)
 all_goals(refine⟨[],?_⟩)
 all_goals(conv=>whnf)
 all_goals(exact⟨.r,⟨mn ⟨.r,.r,.r,.r,.r,.r,.r,.r,.r,.r,.ar,.ar,.r,.r,.r,.r,aj⟩,.r,.r,aj⟩,by rfl⟩)
def kS(s:bi)(m:c1):bi×List dN:=
 (bif decide (s.aC<m.aC)&& !decide (s.phase=0)then q7 (bif (im s.aL m.aC).2.2 then {s with aL:=(im s.aL m.aC).1}else s)else(bif (im s.aL m.aC).2.2 then {s with aL:=(im s.aL m.aC).1}else s),
  bif (im s.aL m.aC).2.2 then [eC s m.src 3 m.aC (im s.aL m.aC).2.1.aC (im s.aL m.aC).2.1.cut]else [])
theorem alq(s:bi)(ae:ez s)(m:c1):cj Tryz.prog 150 [.cells 210 (dg s++ [.ar])] [.aW 0 0,.agg (pQ m)] [true] [.cells 210 (dg (kS s m).1++ [.own 2]),.bn,.row 218 7 ((kS s m).2.map fu)] (.be []):=by
 have aA:=Zi s.aL (by have:=ae.gT;omega) m.aC;have eF:=(Lr (aC:=m.aC) ae.gT).2;obtain⟨R,b1⟩:∃R,R=kS s m:=⟨_,rfl⟩
 rw[<-b1];unfold kS at b1;generalize im s.aL m.aC=X at *;have aG:=LC {s with aL:=X.1} m.src 3 m.aC X.2.1.aC X.2.1.cut (by omega);have bc:=alp {s with aL:=X.1} [eC s m.src 3 m.aC X.2.1.aC X.2.1.cut];have cn:=alm s;refine mi Tryz.func150 ?_;repeat' ((conv=>whnf);first|refine bl ?_| (apply bo<;>intro h)|refine ch ?_|refine aR aA ?_|refine .inr ⟨[0],bO aG ?_⟩|refine .inr ⟨[0,7],bO bc ?_⟩|refine .inr ⟨[0],bO cn ?_⟩|fail)
 all_goals(conv=>whnf)
 all_goals simp only[bL]at *
 all_goals(simp only[*,b6,bD]at b1)
 all_goals subst b1
 ·(refine⟨[.eT 2 7],?_⟩; (conv=>whnf);exact⟨.r,⟨.r,.r,.r,aj⟩,by rfl⟩)
 ·(refine⟨[.eT 2 7],?_⟩; (conv=>whnf);exact⟨.r,⟨.r,.r,.r,aj⟩,by rfl⟩)
 ·(refine⟨[.cell 0 15 218 7,.eT 2 6],?_⟩; (conv=>whnf);exact⟨.r,⟨.r,.r,.r,aj⟩,by rfl⟩)
 ·(refine⟨[.cell 0 15 218 7,.eT 2 6],?_⟩; (conv=>whnf);exact⟨.r,⟨.r,.r,.r,aj⟩,by rfl⟩)
theorem Ej{r x:cg}(h:x∈ (fN v l r).1):x=r\/x∈l:=by
 unfold fN at h;cases h1:gI v l with
 |false=>grind
 |true=>
  cases ad:gI v (iS l r)with
  |false=>grind
  |true=>simp[h1,ad]at h;exact Bq h
theorem RI{r:cg}(h:gI v l=true):gI v (fN v l r).1=true:=by
 unfold fN
 grind
theorem RJ{v:aK}{l:List cg}{r:cg}: (fN v l r).1.length<=l.length+1:=by
 have:=Q8 l r;unfold fN
 grind
variable{x:Int}
theorem RK(h:decide (0<=eQ l x)=true): (l.getD (eQ l x).toNat dB).mem=x:=by
 have h:=fC h;unfold eQ at h⊢;rcases au: (List.range l.length).find? (λi=>decide ((l.getD i dB).mem=x))with _|n
 ·simp only[lv,au]at h;omega
 ·have aV:=I2 au;simp only[lv,au,l6]
  grind
theorem Ek{r x:cg}(h:x∈fS v l r):x=r\/x∈l:=by
 unfold fS at h;cases h1:decide (0<=eQ l r.mem)
 ·rw[h1]at h;exact Ej h
 grind
theorem RL{v:aK}{l:List cg}{r:cg}: (fS v l r).length<=l.length+1:=by
 unfold fS;have:= @RJ v l r
 grind
theorem alr(ab:b2 v=true){l:List cg}{r:cg}(h:gI v l=true)(ao:jK v r=true){k:Nat}(hk:k<l.length)(he:l[k].mem=r.mem):gI v (l.set k r)=true:=by
 obtain⟨h1,ad⟩:=(q6 ab).1 h;refine(q6 ab).2 ⟨λx ag=> ?_,?_⟩
 ·grind
 ·rw[my]at ad⊢
  grind
theorem RM(ab:b2 v=true){l:List cg}{r:cg}(h:gI v l=true)(ao:jK v r=true):gI v (fS v l r)=true:=by
 unfold fS;cases h1:decide (0<=eQ l r.mem)
 ·exact RI h
 ·cases decide ((l.getD (eQ l r.mem).toNat dB).aC<r.aC)
  ·exact h
  ·obtain⟨_,hk⟩:=zu h1;have:=RK h1;rw[show l.getD (eQ l r.mem).toNat dB=l[(eQ l r.mem).toNat] by grind]at this;exact alr ab h ao hk this
theorem xZ(s:bi)(dd kind aC cU:Int)(cut:List Int)(al:cut.length<=1000000):
  cj Tryz.prog 148 [.cells 210 (dg s++ [.ar])] [.aW 0 0,i64 dd,i64 kind,i64 aC,i64 cU,.av 1 (cut.map aU) false] [true] [.cells 210 (dg s++ [.own 1]),.row 218 7 [fu (eC s dd kind aC cU cut)]] (.be []):=
 (LC s dd kind aC cU cut al).y8 (L1:=[.cells 210 (dg s++ [.own 2])]) (wE:=[.row 218 7 [fu (eC s dd kind aC cU cut)]]) (bS _)
def kT(s:bi)(m:c1):bi×List dN:=
 bif !decide (s.phase=1)|| !decide (m.aC=s.aC)then(s,[])
 else(gx {s with bu:=(fN s.view s.bu ⟨m.src,m.cU,m.cut⟩).1},
  bif decide ((gx {s with bu:=(fN s.view s.bu ⟨m.src,m.cU,m.cut⟩).1}).phase=2)then [eC (gx {s with bu:=(fN s.view s.bu ⟨m.src,m.cU,m.cut⟩).1}) 0 4 (gx {s with bu:=(fN s.view s.bu ⟨m.src,m.cU,m.cut⟩).1}).aC 0 (gx {s with bu:=(fN s.view s.bu ⟨m.src,m.cU,m.cut⟩).1}).c4]else [])
theorem alu(ae:ez s): (gx s).c4.length<=1000:=by
 unfold gx;cases !decide (s.phase=1)||decide ((s.bu.length:Int)<fY s.view.mem.length)
 ·cases (jc s.aL s.aC (gB s.view s.bu s.prop).1).2
  ·exact bZ _
  ·exact RH ae.mm ae.prop
 ·exact ae.c4
theorem alv(s:bi)(ae:ez s)(cy:gI s.view s.aM=true)(gY:s.bu.length<=900)(m:c1)(al:m.cut.length<=1000):cj Tryz.prog 151 [.cells 210 (pf s 1++ [.ar]),.row 179 3 (s.aM.map bW)] [.aW 0 0,.agg (pQ m)] [true,false] [.cells 210 (dg (kT s m).1++ [.own 3]),.gone,.bn,.row 218 7 ((kT s m).2.map fu)] (.be []):=by
 have aA:=akt s.view (by have:=ae.mem;omega) s.bu (by have:=ae.bu;omega) (λb ac=>by have:=ae.mm b ac;omega) ⟨m.src,m.cU,m.cut⟩ (by simp only[];omega);have hL:= @RJ s.view s.bu ⟨m.src,m.cU,m.cut⟩;have gM:∀x∈ (fN s.view s.bu ⟨m.src,m.cU,m.cut⟩).1,x.cut.length<=1000:=λx ag=>by
  rcases Ej ag with rfl|ag
  ·exact al
  ·exact ae.mm x ag
 obtain⟨R,b1⟩:∃R,R=kT s m:=⟨_,rfl⟩
 rw[<-b1];unfold kT at b1;generalize fN s.view s.bu ⟨m.src,m.cU,m.cut⟩=X at *;have jH:ez {s with bu:=X.1}:=⟨ae.mem,ae.gT,ae.prop,ae.box,ae.kA,(by simp only[];omega),gM,ae.c4,ae.aM,ae.kf,ae.dec⟩
 have aG:=Z1 _ jH cy;have ix:=alu jH;generalize gx {s with bu:=X.1}=A at *;have bc:=xZ A 0 4 A.aC 0 A.c4 (by omega);refine mi Tryz.func151 ?_;repeat' ((conv=>whnf);first|refine bl ?_| (apply bo<;>intro h)|refine ch ?_|refine dE ?_|refine aR aA ?_|refine .inr ⟨[0,1],bO aG ?_⟩|refine .inr ⟨[0],bO bc ?_⟩|fail)
 all_goals(conv=>whnf)
 all_goals simp only[*,b6,bD]at b1
 all_goals subst b1
 ·(refine⟨[.qa 0 12,.nS 1,.cell 0 15 218 7,.eT 3 4],?_⟩; (conv=>whnf);exact⟨.r,⟨.r,.r,nJ,.r,aj⟩,by rfl⟩)
 ·(refine⟨[.eT 3 5],?_⟩; (conv=>whnf);exact⟨.r,⟨.r,.r,nJ,.r,aj⟩,by rfl⟩)
 ·(refine⟨[.cell 0 15 218 7,.eT 3 5],?_⟩; (conv=>whnf);exact⟨.r,⟨.r,.r,nJ,.r,aj⟩,by rfl⟩)
def lW(s:bi)(m:c1):bi×List dN:=
 bif (jc s.aL m.aC m.cut).2 then({s with aL:=(jc s.aL m.aC m.cut).1,aM:=fS s.view (fS s.view s.aM ⟨m.src,m.aC,m.cut⟩) ⟨s.self,m.aC,m.cut⟩},[eC s 0 5 m.aC 0 m.cut])
 else({s with aM:=fS s.view s.aM ⟨m.src,m.aC,m.cut⟩},[])
theorem alw(s:bi)(ae:ez s)(ab:b2 s.view=true)(cy:gI s.view s.aM=true)(jn:s.aM.length<=900)(m:c1)(al:m.cut.length<=1000)(ao:jK s.view ⟨m.src,m.aC,m.cut⟩=true):cj Tryz.prog 152 [.cells 210 (pf s 1++ [.ar]),.row 179 3 (s.aM.map bW)] [.aW 0 0,.agg (pQ m)] [true,false] [.cells 210 (dg (lW s m).1++ [.own 3]),.gone,.bn,.row 218 7 ((lW s m).2.map fu)] (.be []):=by
 have aA:=alk s ae cy ⟨m.src,m.aC,m.cut⟩ al;have aG:=Zj s.aL (by have:=ae.gT;omega) m.aC m.cut (by omega);have hL:= @RL s.view s.aM ⟨m.src,m.aC,m.cut⟩;have gM:∀x∈fS s.view s.aM ⟨m.src,m.aC,m.cut⟩,x.cut.length<=1000:=λx ag=>by
  rcases Ek ag with rfl|ag
  ·exact al
  ·exact ae.kf x ag
 have alx:=RM ab cy ao;have aly:=Ls (aC:=m.aC) ae.gT al;obtain⟨R,b1⟩:∃R,R=lW s m:=⟨_,rfl⟩
 rw[<-b1];unfold lW at b1;generalize jc s.aL m.aC m.cut=X at *;generalize fS s.view s.aM ⟨m.src,m.aC,m.cut⟩=E at *;have jH:ez {s with aL:=X.1,aM:=E}:=⟨ae.mem,aly,ae.prop,ae.box,ae.kA,ae.bu,ae.mm,ae.c4,(by simp only[];omega),gM,ae.dec⟩
 have bc:=RG _ jH alx ⟨s.self,m.aC,m.cut⟩ al;have cn:=xZ {s with aL:=X.1,aM:=fS s.view E ⟨s.self,m.aC,m.cut⟩} 0 5 m.aC 0 m.cut (by omega);refine mi Tryz.func152 ?_;repeat' ((conv=>whnf);first| (apply bo<;>intro h)|refine ch ?_|refine .inr ⟨[0,1],bO aA ?_⟩|refine aR aG ?_|refine .inr ⟨[0,4],bO bc ?_⟩|refine .inr ⟨[0],bO cn ?_⟩|fail)
 all_goals(conv=>whnf)
 all_goals simp only[*,b6,bD]at b1
 all_goals subst b1
 ·(refine⟨[.eT 3 8],?_⟩; (conv=>whnf);exact⟨.r,⟨.r,.r,nJ,.r,aj⟩,by rfl⟩)
 ·(refine⟨[.qa 0 12,.cell 0 15 218 7,.eT 3 7],?_⟩; (conv=>whnf);exact⟨.r,⟨.r,.r,nJ,.r,aj⟩,by rfl⟩)
theorem LF(s:bi)(ae:ez s):cj Tryz.prog 147 [] [.agg (dg s)] [] [.row 179 3 (s.aM.map bW)] (.agg (pf s 0)):=by
 have h1:=(ak0 s ae).y8 (L1:=[]) (wE:=[.bn,.bn,.row 179 3 (s.aM.map bW)]) (bS _);have ad:=cj.y8 (L1:=[]) (wE:=[.bn,.row 179 3 (s.aM.map bW)]) (d:=.agg (pf s 2)) h1 (bS _);exact cj.y8 (L1:=[]) (wE:=[.row 179 3 (s.aM.map bW)]) (d:=.agg (pf s 1)) ad (bS _)
theorem RN(ae:ez s):ez (q7 s):=⟨ae.mem,ae.gT,ae.prop,ae.box,ae.kA,bZ _,(λb ac=>by cases ac),bZ _,ae.aM,ae.kf,ae.dec⟩
theorem alz(ae:ez s)(m:c1):ez (kS s m).1:=by
 have h1:ez {s with aL:=(im s.aL m.aC).1}:=⟨ae.mem,(Lr ae.gT).1,ae.prop,ae.box,ae.kA,ae.bu,ae.mm,ae.c4,ae.aM,ae.kf,ae.dec⟩
 unfold kS;cases decide (s.aC<m.aC)&& !decide (s.phase=0)<;>cases (im s.aL m.aC).2.2
 ·exact ae
 ·exact h1
 ·exact RN ae
 ·exact RN h1
theorem LG(ae:ez s){r:cg}(ao:r.cut.length<=1000)(af:s.aM.length<=900):ez {s with aM:=fS s.view s.aM r}:=
 ⟨ae.mem,ae.gT,ae.prop,ae.box,ae.kA,ae.bu,ae.mm,ae.c4,(by have:= @RL s.view s.aM r;grind),(λx ag=>by
  rcases Ek ag with rfl|ag
  ·exact ao
  ·exact ae.kf x ag),ae.dec⟩
theorem Z3(ae:ez s)(af:s.aM.length<=900):ez (gx s):=by
 have ix:=RH (v:=s.view) (l:=s.bu) (own:=s.prop) ae.mm ae.prop;unfold gx;cases !decide (s.phase=1)||decide ((s.bu.length:Int)<fY s.view.mem.length)
 ·cases (jc s.aL s.aC (gB s.view s.bu s.prop).1).2
  ·exact RN ae
  ·have h1:=LG (r:=⟨s.self,s.aC,(gB s.view s.bu s.prop).1⟩) ae ix af;exact⟨ae.mem,Ls ae.gT ix,ae.prop,ae.box,ae.kA,ae.bu,ae.mm,ix,h1.aM,h1.kf,ae.dec⟩
 grind
theorem alA(ae:ez s)(gY:s.bu.length<=900)(af:s.aM.length<=900){m:c1}(al:m.cut.length<=1000):ez (kT s m).1:=by
 unfold kT;cases !decide (s.phase=1)|| !decide (m.aC=s.aC)
 ·refine Z3 ⟨ae.mem,ae.gT,ae.prop,ae.box,ae.kA,(by have:= @RJ s.view s.bu ⟨m.src,m.cU,m.cut⟩;grind),(λx ag=> ?_),ae.c4,ae.aM,ae.kf,ae.dec⟩ af;rcases Ej ag with rfl|ag
  ·exact al
  ·exact ae.mm x ag
 grind
theorem alB(ae:ez s)(af:s.aM.length<=800){m:c1}(al:m.cut.length<=1000):ez (lW s m).1:=by
 have h1:=LG (r:=⟨m.src,m.aC,m.cut⟩) ae al (by omega);have ad:=LG (r:=⟨s.self,m.aC,m.cut⟩) h1 al (by have:= @RL s.view s.aM ⟨m.src,m.aC,m.cut⟩;grind);unfold lW;cases (jc s.aL m.aC m.cut).2
 ·exact h1
 ·exact⟨ae.mem,Ls ae.gT al,ae.prop,ae.box,ae.kA,ae.bu,ae.mm,ae.c4,ad.aM,ad.kf,ae.dec⟩
theorem Z4(s:bi)(m:c1): (kS s m).2.length<=100:=by
 unfold kS;cases (im s.aL m.aC).2.2<;>simp
theorem Z5(s:bi)(m:c1): (kT s m).2.length<=100:=by
 unfold kT
 grind
theorem Z6(s:bi)(m:c1): (lW s m).2.length<=100:=by
 unfold lW;cases (jc s.aL m.aC m.cut).2<;>simp
theorem rX(h:gI v l=true):l.length<=16:=by
 have ab:b2 v=true:=by
  simp only[gI,cq]at h
  grind
 have ad:=((q6 ab).1 h)
 have aN: (l.map (·.mem)).Nodup:=by
  grind
 have bs:=wK aN (b:=v.mem) (λx ag=>by
  obtain⟨r,ao,rfl⟩:=fr.1 ag;have:=ad.1 r ao;simp only[jK,cq]at this;exact Ei this.1)
 rw[bL]at bs;have:=sK ab;omega
theorem By(h:fI s=true):gI s.view s.bu=true/\gI s.view s.aM=true/\zs s=true/\(∀i,i<s.aM.length->zr 1 s.aM i=true):=by
 unfold fI at h;cases h1: !b2 s.view|| !bP s.view.mem s.self||decide (s.cD<0)||decide (1099511627776<s.cD)
 ·rw[h1,bD]at h;cases ad: (!la s.aL|| !decide (s.aL.cc=0)&& !gJ s.view s.aL.cc||decide (0<s.aL.aC)&& !gJ s.view s.aL.aC|| !jX s.view s.aL.cut)
  ·rw[ad,bD]at h;cases aN: !jX s.view s.prop|| !jX s.view s.c4|| !jX s.view s.dec|| !hX s.view s.box
   ·rw[aN,bD]at h;cases bs: (hY s.box s.self).2&& !iG (hY s.box s.self).1 s.prop
    ·rw[bs,bD]at h;simp only[cq,tV]at h;exact⟨h.2.1.1.2,h.2.1.2.2,h.2.2,iA.1 h.1⟩
    grind
   grind
  grind
 grind
variable{m:c1}
theorem alC(h:eG v m=true)(hk:m.kind=4\/m.kind=5):jK v ⟨m.src,m.aC,m.cut⟩=true:=by
 unfold eG at h;cases h1: !b2 v|| !bP v.mem m.src|| !decide (m.view=v.num)
 ·rw[h1,bD]at h;simp only[iW,mw,fx]at h1;rcases hk with hk|hk<;>simp[hk]at h<;>simp only[jK,jw,gJ,ga,cq,oS,nu,fx,ib]at h⊢
  all_goals grind
 grind
theorem alD(s:bi)(ae:ez s)(m:c1)(al:m.cut.length<=1000)(h1:fI s=true)(ad:m.view=s.view.num)(aN:eG s.view m=true)(bs:m.src≠s.self)(cm:s.dec=[])(eK:m.kind=2):
  bq Tryz.prog 88 [.agg (dg s),.agg (pQ m)] (.be [.agg (dg (dk (kS s m).1 (kS s m).2).1),.av 7 ((dk (kS s m).1 (kS s m).2).2.map fu) false,i64 0]):=by
 have ab:=ae.mem;have fR:=pe s ae;have jy:=zo s.view (by omega) m (by omega);have mJ:=xY s ae;have Hu:=(Bw h1).1;obtain⟨tX,lg,_,_⟩:=By h1;have LH:=rX tX;have Hv:=rX lg;have bc:=alq s ae m;have oL:=zt _ (alz ae m) (kS s m).2 (Z4 s m);generalize dk (kS s m).1 (kS s m).2=E at *;generalize(kS s m)=X at *;rw[h1]at fR;rw[aN]at jy;have Hs:decide (m.src=s.self)=false:=c5 bs;have pg:decide (m.view=s.view.num)=true:=e4 ad;have mK:decide (0<((s.dec.map aU).length:Int))=false:=by rw[cm];rfl
 have LI:decide (m.kind=1)=false:=c5 (by omega);have LJ:decide (m.kind=2)=true:=e4 eK;refine fX Tryz.func88 ?_;repeat' ((conv=>whnf);first|refine bl ?_|refine ht (by assumption) ?_|refine ft (by assumption) ?_| (apply bo<;>intro h)|exact .refl|refine dE ?_|refine aR fR ?_|refine aR jy ?_|refine aR mJ ?_|refine .inr ⟨[3],bO bc ?_⟩|refine .inr ⟨[3,5],bO oL ?_⟩|fail)
 all_goals(conv=>whnf)
 rw[pg]at h;cases h
theorem alE(s:bi)(ae:ez s)(m:c1)(al:m.cut.length<=1000)(h1:fI s=true)(ad:m.view=s.view.num)(aN:eG s.view m=true)(bs:m.src≠s.self)(cm:s.dec=[])(eK:m.kind=3):
  bq Tryz.prog 88 [.agg (dg s),.agg (pQ m)] (.be [.agg (dg (dk (kT s m).1 (kT s m).2).1),.av 7 ((dk (kT s m).1 (kT s m).2).2.map fu) false,i64 0]):=by
 have ab:=ae.mem;have fR:=pe s ae;have jy:=zo s.view (by omega) m (by omega);have mJ:=LF s ae;have Hu:=(Bw h1).1;obtain⟨tX,lg,_,_⟩:=By h1;have LH:=rX tX;have Hv:=rX lg;have bc:=alv s ae lg (by omega) m al;have oL:=zt _ (alA ae (by omega) (by omega) al) (kT s m).2 (Z5 s m);generalize dk (kT s m).1 (kT s m).2=E at *;generalize(kT s m)=X at *;rw[h1]at fR;rw[aN]at jy;have Hs:decide (m.src=s.self)=false:=c5 bs;have pg:decide (m.view=s.view.num)=true:=e4 ad;have mK:decide (0<((s.dec.map aU).length:Int))=false:=by rw[cm];rfl
 have LI:decide (m.kind=1)=false:=c5 (by omega);have LJ:decide (m.kind=2)=false:=c5 (by omega);have RO:decide (m.kind=3)=true:=e4 eK;refine fX Tryz.func88 ?_;repeat' ((conv=>whnf);first|refine bl ?_|refine ht (by assumption) ?_|refine ft (by assumption) ?_| (apply bo<;>intro h)|exact .refl|refine dE ?_|refine aR fR ?_|refine aR jy ?_|refine .inr ⟨[],bO mJ ?_⟩|refine .inr ⟨[4,3],bO bc ?_⟩|refine .inr ⟨[4,6],bO oL ?_⟩|fail)
 all_goals(conv=>whnf)
 rw[pg]at h;cases h
theorem alF(s:bi)(ae:ez s)(m:c1)(al:m.cut.length<=1000)(h1:fI s=true)(ad:m.view=s.view.num)(aN:eG s.view m=true)(bs:m.src≠s.self)(cm:s.dec=[])(eK:m.kind=4):
  bq Tryz.prog 88 [.agg (dg s),.agg (pQ m)] (.be [.agg (dg (dk (lW s m).1 (lW s m).2).1),.av 7 ((dk (lW s m).1 (lW s m).2).2.map fu) false,i64 0]):=by
 have ab:=ae.mem;have fR:=pe s ae;have jy:=zo s.view (by omega) m (by omega);have mJ:=LF s ae;have Hu:=(Bw h1).1;obtain⟨tX,lg,_,_⟩:=By h1;have LH:=rX tX;have Hv:=rX lg;have bc:=alw s ae Hu lg (by omega) m al (alC aN (.inl eK));have oL:=zt _ (alB ae (by omega) al) (lW s m).2 (Z6 s m);generalize dk (lW s m).1 (lW s m).2=E at *;generalize(lW s m)=X at *;rw[h1]at fR;rw[aN]at jy;have Hs:decide (m.src=s.self)=false:=c5 bs;have pg:decide (m.view=s.view.num)=true:=e4 ad;have mK:decide (0<((s.dec.map aU).length:Int))=false:=by rw[cm];rfl
 have LI:decide (m.kind=1)=false:=c5 (by omega);have LJ:decide (m.kind=2)=false:=c5 (by omega);have RO:decide (m.kind=3)=false:=c5 (by omega);have Z7:decide (m.kind=4)=true:=e4 eK;refine fX Tryz.func88 ?_;repeat' ((conv=>whnf);first|refine bl ?_|refine ht (by assumption) ?_|refine ft (by assumption) ?_| (apply bo<;>intro h)|exact .refl|refine dE ?_|refine aR fR ?_|refine aR jy ?_|refine .inr ⟨[],bO mJ ?_⟩|refine .inr ⟨[4,3],bO bc ?_⟩|refine .inr ⟨[4,6],bO oL ?_⟩|fail)
 all_goals(conv=>whnf)
 rw[pg]at h;cases h
theorem alG(s:bi)(ae:ez s)(m:c1)(al:m.cut.length<=1000)(h1:fI s=true)(ad:m.view=s.view.num)(aN:eG s.view m=true)(bs:m.src≠s.self)(cm:s.dec=[])(eK:m.kind=5):
  bq Tryz.prog 88 [.agg (dg s),.agg (pQ m)] (.be [.agg (dg (dk (({s with aM:=fS s.view s.aM ⟨m.src,m.aC,m.cut⟩},([]:List dN))).1 (({s with aM:=fS s.view s.aM ⟨m.src,m.aC,m.cut⟩},([]:List dN))).2).1),.av 7 ((dk (({s with aM:=fS s.view s.aM ⟨m.src,m.aC,m.cut⟩},([]:List dN))).1 (({s with aM:=fS s.view s.aM ⟨m.src,m.aC,m.cut⟩},([]:List dN))).2).2.map fu) false,i64 0]):=by
 have ab:=ae.mem;have fR:=pe s ae;have jy:=zo s.view (by omega) m (by omega);have mJ:=LF s ae;have Hu:=(Bw h1).1;obtain⟨tX,lg,_,_⟩:=By h1;have LH:=rX tX;have Hv:=rX lg;have bc:=RG s ae lg ⟨m.src,m.aC,m.cut⟩ al;have oL:=LD _ (LG (r:=⟨m.src,m.aC,m.cut⟩) ae al (by omega));generalize dk ({s with aM:=fS s.view s.aM ⟨m.src,m.aC,m.cut⟩},([]:List dN)).1 ({s with aM:=fS s.view s.aM ⟨m.src,m.aC,m.cut⟩},([]:List dN)).2=E at *;rw[h1]at fR;rw[aN]at jy;have Hs:decide (m.src=s.self)=false:=c5 bs;have pg:decide (m.view=s.view.num)=true:=e4 ad;have mK:decide (0<((s.dec.map aU).length:Int))=false:=by rw[cm];rfl
 have LI:decide (m.kind=1)=false:=c5 (by omega);have LJ:decide (m.kind=2)=false:=c5 (by omega);have RO:decide (m.kind=3)=false:=c5 (by omega);have Z7:decide (m.kind=4)=false:=c5 (by omega);have alH:decide (m.kind=5)=true:=e4 eK;refine fX Tryz.func88 ?_;repeat' ((conv=>whnf);first|refine bl ?_|refine ht (by assumption) ?_|refine ft (by assumption) ?_| (apply bo<;>intro h)|exact .refl|refine dE ?_|refine aR fR ?_|refine aR jy ?_|refine .inr ⟨[],bO mJ ?_⟩|refine .inr ⟨[4,3],bO bc ?_⟩|refine .inr ⟨[4],bO oL ?_⟩|fail)
 all_goals(conv=>whnf)
 rw[pg]at h;cases h
theorem alI(s:bi)(ae:ez s)(m:c1)(al:m.cut.length<=1000)(h1:fI s=true)(ad:m.view=s.view.num)(aN:eG s.view m=true)(bs:m.src≠s.self)(cm:s.dec=[])(eK:m.kind=6):
  bq Tryz.prog 88 [.agg (dg s),.agg (pQ m)] (.be [.agg (dg (dk (({s with dec:=m.cut},[eC s 0 6 0 0 m.cut])).1 (({s with dec:=m.cut},[eC s 0 6 0 0 m.cut])).2).1),.av 7 ((dk (({s with dec:=m.cut},[eC s 0 6 0 0 m.cut])).1 (({s with dec:=m.cut},[eC s 0 6 0 0 m.cut])).2).2.map fu) false,i64 0]):=by
 have ab:=ae.mem;have fR:=pe s ae;have jy:=zo s.view (by omega) m (by omega);have mJ:=xY s ae;have Hu:=(Bw h1).1;obtain⟨tX,lg,_,_⟩:=By h1;have LH:=rX tX;have Hv:=rX lg;have jH:ez {s with dec:=m.cut}:=⟨ae.mem,ae.gT,ae.prop,ae.box,ae.kA,ae.bu,ae.mm,ae.c4,ae.aM,ae.kf,al⟩
 have bc:=xZ {s with dec:=m.cut} 0 6 0 0 m.cut (by omega);have oL:=zt _ jH [eC s 0 6 0 0 m.cut] (by simp);generalize dk ({s with dec:=m.cut},[eC s 0 6 0 0 m.cut]).1 ({s with dec:=m.cut},[eC s 0 6 0 0 m.cut]).2=E at *;rw[h1]at fR;rw[aN]at jy;have Hs:decide (m.src=s.self)=false:=c5 bs;have pg:decide (m.view=s.view.num)=true:=e4 ad;have mK:decide (0<((s.dec.map aU).length:Int))=false:=by rw[cm];rfl
 have LI:decide (m.kind=1)=false:=c5 (by omega);have LJ:decide (m.kind=2)=false:=c5 (by omega);have RO:decide (m.kind=3)=false:=c5 (by omega);have Z7:decide (m.kind=4)=false:=c5 (by omega);have alH:decide (m.kind=5)=false:=c5 (by omega);have auS:decide (m.kind=6)=true:=e4 eK;refine fX Tryz.func88 ?_;repeat' ((conv=>whnf);first|refine bl ?_|refine ht (by assumption) ?_|refine ft (by assumption) ?_| (apply bo<;>intro h)|exact .refl|refine dE ?_|refine aR fR ?_|refine aR jy ?_|refine aR mJ ?_|refine aR (qs _ (by omega)) ?_|refine .inr ⟨[3],bO bc ?_⟩|refine .inr ⟨[3,4],bO oL ?_⟩|fail)
 all_goals(conv=>whnf)
 rw[pg]at h;cases h
theorem LK:hQ (.agg [i64 0,i64 0,.ar,i64 0,i64 0,.ar,.ar,.ar,i64 0,i64 0,.ar,.ar,.ar,.ar,i64 0]) (.agg (dg gf)):=
 iQ ⟨.r,.r,.ar,.r,.r,.ar,.ar,.ar,.r,.r,.ar,.ar,.ar,.ar,.r,aj⟩
theorem alJ(s:bi)(ae:ez s)(m:c1)(al:m.cut.length<=1000)(h1:fI s=false):bq Tryz.prog 88 [.agg (dg s),.agg (pQ m)] (.be [.agg (dg gf),.av 7 (([]:List dN).map fu) false,i64 1]):=by
 have fR:=pe s ae;rw[h1]at fR;refine fX Tryz.func88 ?_;repeat' ((conv=>whnf);first|refine aR fR ?_|fail)
 all_goals(conv=>whnf)
 all_goals exact e1 ⟨LK,.ar,.r,aj⟩
theorem alK(s:bi)(ae:ez s)(m:c1)(al:m.cut.length<=1000)(h1:fI s=true)(ad:decide (m.view=s.view.num)=false):bq Tryz.prog 88 [.agg (dg s),.agg (pQ m)] (.be [.agg (dg gf),.av 7 (([]:List dN).map fu) false,i64 8]):=by
 have fR:=pe s ae;rw[h1]at fR;refine fX Tryz.func88 ?_;repeat' ((conv=>whnf);first| (apply bo<;>intro h)|refine aR fR ?_|fail)
 all_goals(conv=>whnf)
 ·exact e1 ⟨LK,.ar,.r,aj⟩
 all_goals
  rw[ad]at h;cases h
theorem alL(s:bi)(ae:ez s)(m:c1)(al:m.cut.length<=1000)(h1:fI s=true)(ad:decide (m.view=s.view.num)=true)(aN: (!eG s.view m||decide (m.src=s.self))=true):bq Tryz.prog 88 [.agg (dg s),.agg (pQ m)] (.be [.agg (dg gf),.av 7 (([]:List dN).map fu) false,i64 1]):=by
 have ab:=ae.mem;have fR:=pe s ae;have jy:=zo s.view (by omega) m (by omega);rw[h1]at fR;generalize eG s.view m=V at *;refine fX Tryz.func88 ?_;repeat' ((conv=>whnf);first|refine bl ?_|refine ht (by assumption) ?_| (apply bo<;>intro h)|refine dE ?_|refine aR fR ?_|refine aR jy ?_|fail)
 all_goals(conv=>whnf)
 ·rw[ad]at h;cases h
 ·exact e1 ⟨LK,.ar,.r,aj⟩
theorem alM(s:bi)(ae:ez s)(m:c1)(al:m.cut.length<=1000)(h1:fI s=true)(ad:decide (m.view=s.view.num)=true)(aN: (!eG s.view m||decide (m.src=s.self))=false)(cm:decide (0<(s.dec.length:Int))=true):bq Tryz.prog 88 [.agg (dg s),.agg (pQ m)] (.be [.agg (dg s),.av 7 ((bif decide (m.kind=6)then []else [eC s m.src 6 0 0 s.dec]).map fu) false,i64 0]):=by
 have ab:=ae.mem;have aa:=ae.dec;have fR:=pe s ae;have jy:=zo s.view (by omega) m (by omega);have mJ:=xY s ae;have bc:=xZ s m.src 6 0 0 s.dec (by omega);rw[h1]at fR;generalize eG s.view m=V at *;have mK:decide (0<((s.dec.map aU).length:Int))=true:=by rw[bL];exact cm
 refine fX Tryz.func88 ?_;repeat' ((conv=>whnf);first|refine bl ?_|refine ht (by assumption) ?_|refine ft (by assumption) ?_| (apply bo<;>intro h)|refine ch ?_|refine dE ?_|refine aR fR ?_|refine aR jy ?_|refine aR mJ ?_|refine .inr ⟨[3],bO bc ?_⟩|fail)
 all_goals(conv=>whnf)
 ·rw[ad]at h;cases h
 ·rw[show decide (m.kind=6)=false by simpa using h];exact .refl
 ·rw[show decide (m.kind=6)=true by simpa using h];exact e1 ⟨.r,.ar,.r,aj⟩
def e2(s:bi)(m:c1):bi×List dN:=
 if m.kind=1 then(kg s m,[])
 else if m.kind=2 then kS s m
 else if m.kind=3 then kT s m
 else if m.kind=4 then lW s m
 else if m.kind=5 then({s with aM:=fS s.view s.aM ⟨m.src,m.aC,m.cut⟩},[])
 else({s with dec:=m.cut},[eC s 0 6 0 0 m.cut])
def dC(s:bi)(m:c1):bi×List dN×Int:=
 if fI s=false then(gf,[],1)
 else if decide (m.view=s.view.num)=false then(gf,[],8)
 else if(!eG s.view m||decide (m.src=s.self))=true then(gf,[],1)
 else if decide (0<(s.dec.length:Int))=true then(s,(bif decide (m.kind=6)then []else [eC s m.src 6 0 0 s.dec]),0)
 else((dk (e2 s m).1 (e2 s m).2).1,(dk (e2 s m).1 (e2 s m).2).2,0)
theorem zv(h:eG v m=true):m.kind=1\/m.kind=2\/m.kind=3\/m.kind=4\/m.kind=5\/m.kind=6:=by
 unfold eG at h
 grind
theorem alN(s:bi)(ae:ez s)(m:c1)(al:m.cut.length<=1000):
  bq Tryz.prog 88 [.agg (dg s),.agg (pQ m)] (.be [.agg (dg (dC s m).1),.av 7 ((dC s m).2.1.map fu) false,i64 (dC s m).2.2]):=by
 unfold dC;by_cases h1:fI s=false
 ·rw[b3 h1];exact alJ s ae m al h1
 rw[bm h1];have h1:fI s=true:=by grind
 by_cases ad:decide (m.view=s.view.num)=false
 ·rw[b3 ad];exact alK s ae m al h1 ad
 rw[bm ad];have ad:decide (m.view=s.view.num)=true:=by grind
 by_cases aN: (!eG s.view m||decide (m.src=s.self))=true
 ·rw[b3 aN];exact alL s ae m al h1 ad aN
 rw[bm aN];have aN: (!eG s.view m||decide (m.src=s.self))=false:=by grind
 by_cases cm:decide (0<(s.dec.length:Int))=true
 ·rw[b3 cm];exact alM s ae m al h1 ad aN cm
 rw[bm cm];have mK:s.dec=[]:=by
  simp_all
 have pg:=fC ad;simp only[iW,mw,ib]at aN;unfold e2;rcases zv aN.1 with hk|hk|hk|hk|hk|hk
 ·rw[b3 hk];exact alf s ae m al h1 pg aN.1 aN.2 mK hk
 ·rw[bm (by omega),b3 hk];exact alD s ae m al h1 pg aN.1 aN.2 mK hk
 ·rw[bm (by omega),bm (by omega),b3 hk];exact alE s ae m al h1 pg aN.1 aN.2 mK hk
 ·rw[bm (by omega),bm (by omega),bm (by omega),b3 hk];exact alF s ae m al h1 pg aN.1 aN.2 mK hk
 ·rw[bm (by omega),bm (by omega),bm (by omega),bm (by omega),b3 hk];exact alG s ae m al h1 pg aN.1 aN.2 mK hk
 ·rw[bm (by omega),bm (by omega),bm (by omega),bm (by omega),bm (by omega)];exact alI s ae m al h1 pg aN.1 aN.2 mK hk
theorem alO(s:bi)(aZ:List dN)(oI:aZ.length<=100)(dd kind aC cU:Int)(cut:List Int)(al:cut.length<=1000000):
  cj Tryz.prog 148 [.cells 210 (dg s++ [.own 1]),.row 218 7 (aZ.map fu)] [.aW 0 0,i64 dd,i64 kind,i64 aC,i64 cU,.av 1 (cut.map aU) false] [true,false] [.cells 210 (dg s++ [.own 3]),.gone,.bn,.row 218 7 ((aZ++ [eC s dd kind aC cU cut]).map fu)] (.be []):=by
 refine tG (fn:=Tryz.f148) (c:=Tryz.f148.body.getD .skip) az aw (by rfl) Tryz.func148 (by rfl) (by rfl) (by rfl) (by rfl) (by rfl) ?_;repeat' ((conv=>whnf);first|refine ch ?_|refine aR (qs _ al) ?_|refine aS (Rx (by simp<;>omega)) ?_|refine Exists.intro false ?_|fail)
 all_goals(conv=>whnf)
 (refine⟨[.fresh 218 7,.eT 1 3,.eT 3 3,.nS 1],?_⟩; (conv=>whnf);refine⟨.r,⟨.r,.r,nJ,cM ?_,aj⟩,by rfl⟩)
 rw[ew];rfl
theorem Hw(s:bi)(aZ:List dN)(oI:aZ.length<=100)(dd kind aC cU:Int)(cut:List Int)(al:cut.length<=1000000):
  cj Tryz.prog 148 [.cells 210 (dg s++ [.own 1]),.row 218 7 (aZ.map fu)] [.aW 0 0,i64 dd,i64 kind,i64 aC,i64 cU,.av 1 (cut.map aU) false] [true,false] [.cells 210 (dg s++ [.own 2]),.gone,.row 218 7 ((aZ++ [eC s dd kind aC cU cut]).map fu)] (.be []):=
 (alO s aZ oI dd kind aC cU cut al).y8 (L1:=[.cells 210 (dg s++ [.own 3]),.gone]) (wE:=[.row 218 7 ((aZ++ [eC s dd kind aC cU cut]).map fu)]) (bS _)
def iC(s:bi):Int:=vg (IntKind.i64.wrap ((if IntKind.i64.wrap (s.aC.tdiv 1024)<IntKind.i64.wrap (s.aL.cc.tdiv 1024)then IntKind.i64.wrap (s.aL.cc.tdiv 1024)else IntKind.i64.wrap (s.aC.tdiv 1024))+1)) s.self
def nn(s:bi):bi:=
 bif decide (iC s=0)then s
 else bif (im s.aL (iC s)).2.2 then gx {s with aL:=(im s.aL (iC s)).1,cD:=0,aC:=iC s,phase:=1,c4:=[],bu:=[⟨s.self,(im s.aL (iC s)).2.1.aC,(im s.aL (iC s)).2.1.cut⟩]}
 else s
theorem alP(s:bi)(ae:ez s)(cy:gI s.view s.aM=true):cj Tryz.prog 165 [.cells 210 (pf s 1++ [.ar]),.row 179 3 (s.aM.map bW)] [.aW 0 0] [true,false] [.cells 210 (dg (nn s)++ [.ar]),.gone] (.be []):=by
 have aA:bq Tryz.prog 204 [.v (.int .i64 (IntKind.i64.wrap ((if IntKind.i64.wrap (s.aC.tdiv 1024)<IntKind.i64.wrap (s.aL.cc.tdiv 1024)then IntKind.i64.wrap (s.aL.cc.tdiv 1024)else IntKind.i64.wrap (s.aC.tdiv 1024))+1))),.v (.int .i64 s.self)] (.v (.int .i64 (iC s))):=ake _ _;obtain⟨R,b1⟩:∃R,R=nn s:=⟨_,rfl⟩
 rw[<-b1];unfold nn at b1;generalize iC s=k at *;have aG:=Zi s.aL (by have:=ae.gT;omega) k;have eF:=Lr (aC:=k) ae.gT;generalize im s.aL k=X at *;have jH:ez {s with aL:=X.1,cD:=0,aC:=k,phase:=1,c4:=[],bu:=[⟨s.self,X.2.1.aC,X.2.1.cut⟩]}:=⟨ae.mem,eF.1,ae.prop,ae.box,ae.kA,(by simp),(λb ac=>by
  rcases eJ.1 ac with rfl;exact eF.2),bZ _,ae.aM,ae.kf,ae.dec⟩
 have bc:=Z1 _ jH cy;generalize gx {s with aL:=X.1,cD:=0,aC:=k,phase:=1,c4:=[],bu:=[⟨s.self,X.2.1.aC,X.2.1.cut⟩]}=A at *;refine mi Tryz.func165 ?_;repeat' ((conv=>whnf);first| (apply bo<;>intro h)|refine ch ?_|refine aR aA ?_|refine aR aG ?_|refine .inr ⟨[0,1],_,_,_,_,_,bc,by rfl,⟨mn ⟨.r,.r,.r,.r,.r,.r,.r,.r,.r,.r,.av,.ar,.r,.r,.r,.r,aj⟩,.r,aj⟩,⟨.r,aj⟩,?_⟩|refine Exists.intro false ?_| (refine aS ?_ ?_;focus (simp;done))|fail)
 all_goals(conv=>whnf)
 ·simp only[h,b6]at b1;subst b1;refine⟨[.qa 0 12,.nS 1],?_⟩;conv=>whnf
  exact⟨.r,⟨.r,.r,nJ,aj⟩,by rfl⟩
 ·rename_i aQ;have st:X.2.2=false:=by simpa using h
  simp only[aQ,st,bD]at b1;subst b1;refine⟨[.qa 0 12,.nS 1],?_⟩;conv=>whnf
  exact⟨.r,⟨.r,.r,nJ,aj⟩,by rfl⟩
 ·rename_i aQ;have st:X.2.2=true:=by simpa using h
  simp only[aQ,st,bD,b6]at b1;subst b1;refine⟨[],?_⟩;conv=>whnf
  exact⟨.r,⟨.r,.r,nJ,aj⟩,by rfl⟩
def x0(s:bi):List dN:=bif (hY s.box s.self).2 then [eC s 0 1 0 0 (hY s.box s.self).1]else []
def vl(s:bi):List dN:=bif decide (s.phase=1)then [eC s 0 2 s.aC 0 []]else bif decide (s.phase=2)then [eC s 0 4 s.aC 0 s.c4]else []
def x1(s:bi):List dN:=bif decide (0<=eQ s.aM s.self)&& !decide (s.phase=2)then [eC s 0 5 (s.aM.getD (eQ s.aM s.self).toNat dB).aC 0 (s.aM.getD (eQ s.aM s.self).toNat dB).cut]else []
def hE(s:bi):List dN:=x0 s++vl s++x1 s
variable{l:List c6}
theorem alQ{N:Nat}(al:∀b∈l,b.cut.length<=N)(x:Int): (hY l x).1.length<=N:=by
 unfold hY;cases decide (0<=lf l x)
 ·simp
 ·rcases mX (lf l x).toNat l.length with h|h
  ·grind
  ·simp only[b6,sc,w2 h,Jf];exact bZ _
theorem RP(s:bi)(ae:ez s):cj Tryz.prog 166 [.cells 210 (dg s++ [.ar])] [.aW 0 0] [true] [.cells 210 (dg s++ [.own 2]),.bn,.row 218 7 ((hE s).map fu)] (.be []):=by
 have aA:=Rj s.box (eS ae.box) s.self;have ix:=alQ ae.kA s.self;have aG:=Hp s.aM (eS ae.aM) s.self;have kv:= @zu s.aM s.self;have sO:=ae.kf;have zw:=ae.c4;obtain⟨R,b1⟩:∃R,R=hE s:=⟨_,rfl⟩
 rw[<-b1];unfold hE x0 vl x1 at b1;generalize hY s.box s.self=C at *;generalize eQ s.aM s.self=K at *;generalize rN:s.aM.getD K.toNat dB=D at *;have nb:D.cut.length<=1000:=by
  rw[<-rN];rcases mX K.toNat s.aM.length with h|h
  ·simp only[sc,eN h,qJ];exact sO _ (eD h)
  ·simp only[sc,w2 h,Jf];exact bZ _
 have cL:decide (0<=K)=true->(s.aM.map bW)[K.toNat]?=some (bW D):=λh=>by
  have:=(kv h).2;rw[<-rN];simp[this]
 have A9:decide (0<=K)=true->K=(K.toNat:Int):=λh=>(kv h).1;have eW:=xZ s 0 1 0 0 C.1 (by omega);have fl:=xZ s 0 2 s.aC 0 [] (by simp);have ff:=Hw s [eC s 0 1 0 0 C.1] (by simp) 0 2 s.aC 0 [] (by simp);have dc:=xZ s 0 4 s.aC 0 s.c4 (by omega);have dt:=Hw s [eC s 0 1 0 0 C.1] (by simp) 0 4 s.aC 0 s.c4 (by omega);have cH:=xZ s 0 5 D.aC 0 D.cut (by omega);have a2:=Hw s [eC s 0 1 0 0 C.1] (by simp) 0 5 D.aC 0 D.cut (by omega);have a3:=Hw s [eC s 0 2 s.aC 0 []] (by simp) 0 5 D.aC 0 D.cut (by omega);have a4:=Hw s [eC s 0 1 0 0 C.1,eC s 0 2 s.aC 0 []] (by simp) 0 5 D.aC 0 D.cut (by omega);clear sO kv nb rN ix;refine mi Tryz.func166 ?_;repeat' ((conv=>whnf);first|refine bl ?_| (apply bo<;>intro h)|refine ch ?_|refine aR aA ?_|refine aR aG ?_|refine .inr ⟨[0],bO eW ?_⟩|fail)
 all_goals(conv=>whnf)
 ·rename_i il;have h1:=h;clear h;repeat' ((conv=>whnf);first|refine bl ?_| (apply bo<;>intro h)|refine ch ?_|refine aR aG ?_|refine .inr ⟨[0,3],_,_,_,_,_,ff,by rfl,⟨.r,.r,aj⟩,⟨.r,.r,.r,.r,.r,.ar,aj⟩,?_⟩|fail)
  all_goals(conv=>whnf)
  ·have q8:decide (0<=K)=true:=((cq ..).mp h).1;have Bz:=A9 q8;have fU:=cL q8;repeat' ((conv=>whnf);first|refine ch ?_|refine⟨K.toNat,bW D,aS ⟨Bz,fU⟩ ?_⟩|refine .inr ⟨[0,4],bO a4 ?_⟩|fail)
   all_goals(conv=>whnf)
   have ad:decide (s.phase=2)=false:=c5 (by have:=fC h1;omega);simp only[il,h1,ad,q8,ur,oR,kZ,s7,b6,bD,nR,jQ,rq]at b1;subst b1;(refine⟨[.eT 2 6],?_⟩; (conv=>whnf);exact⟨.r,⟨.r,.r,.r,aj⟩,by rfl⟩)
  ·have ad:decide (s.phase=2)=false:=c5 (by have:=fC h1;omega);simp only[il,h1,h,ur,oR,kZ,s7,b6,bD,nR,jQ,rq]at b1;subst b1;(refine⟨[.eT 2 4],?_⟩; (conv=>whnf);exact⟨.r,⟨.r,.r,.r,aj⟩,by rfl⟩)
 ·rename_i il h1;have ad:=h;clear h;repeat' ((conv=>whnf);first|refine bl ?_| (apply bo<;>intro h)|refine ch ?_|refine aR aG ?_|refine .inr ⟨[0,3],bO dt ?_⟩|fail)
  all_goals(conv=>whnf)
  ·rw[ad]at h;simp at h
  ·simp only[il,h1,ad,h,ur,oR,kZ,s7,b6,bD,nR,jQ,rq]at b1;subst b1;(refine⟨[.eT 2 4],?_⟩; (conv=>whnf);exact⟨.r,⟨.r,.r,.r,aj⟩,by rfl⟩)
 ·rename_i il h1 ad;have q8:decide (0<=K)=true:=((cq ..).mp h).1;have Bz:=A9 q8;have fU:=cL q8;repeat' ((conv=>whnf);first|refine ch ?_|refine⟨K.toNat,bW D,aS ⟨Bz,fU⟩ ?_⟩|refine .inr ⟨[0,3],bO a2 ?_⟩|fail)
  all_goals(conv=>whnf)
  simp only[il,h1,ad,q8,ur,oR,kZ,s7,b6,bD,nR,jQ,rq]at b1;subst b1;(refine⟨[.eT 2 5],?_⟩; (conv=>whnf);exact⟨.r,⟨.r,.r,.r,aj⟩,by rfl⟩)
 ·rename_i il h1 ad;have aQ:decide (0<=K)=false:=by
   rw[ad]at h;simpa using h
  simp only[il,h1,ad,aQ,wZ,ur,oR,kZ,s7,b6,bD,nR,jQ,rq]at b1;subst b1;(refine⟨[.eT 2 3],?_⟩; (conv=>whnf);exact⟨.r,⟨.r,.r,.r,aj⟩,by rfl⟩)
 ·rename_i il;have h1:=h;clear h;repeat' ((conv=>whnf);first|refine bl ?_| (apply bo<;>intro h)|refine ch ?_|refine aR aG ?_|refine .inr ⟨[0],_,_,_,_,_,fl,by rfl,⟨.r,aj⟩,⟨.r,.r,.r,.r,.r,.ar,aj⟩,?_⟩|fail)
  all_goals(conv=>whnf)
  ·have q8:decide (0<=K)=true:=((cq ..).mp h).1;have Bz:=A9 q8;have fU:=cL q8;repeat' ((conv=>whnf);first|refine ch ?_|refine⟨K.toNat,bW D,aS ⟨Bz,fU⟩ ?_⟩|refine .inr ⟨[0,3],bO a3 ?_⟩|fail)
   all_goals(conv=>whnf)
   have ad:decide (s.phase=2)=false:=c5 (by have:=fC h1;omega);simp only[il,h1,ad,q8,ur,oR,kZ,s7,b6,bD,nR,jQ,rq]at b1;subst b1;(refine⟨[.eT 2 5],?_⟩; (conv=>whnf);exact⟨.r,⟨.r,.r,.r,aj⟩,by rfl⟩)
  ·have ad:decide (s.phase=2)=false:=c5 (by have:=fC h1;omega);simp only[il,h1,h,ur,oR,kZ,s7,b6,bD,nR,jQ,rq]at b1;subst b1;(refine⟨[.eT 2 3],?_⟩; (conv=>whnf);exact⟨.r,⟨.r,.r,.r,aj⟩,by rfl⟩)
 ·rename_i il h1;have ad:=h;clear h;repeat' ((conv=>whnf);first|refine bl ?_| (apply bo<;>intro h)|refine ch ?_|refine aR aG ?_|refine .inr ⟨[0],bO dc ?_⟩|fail)
  all_goals(conv=>whnf)
  ·rw[ad]at h;simp at h
  ·simp only[il,h1,ad,h,ur,oR,kZ,s7,b6,bD,nR,jQ,rq]at b1;subst b1;(refine⟨[.eT 2 3],?_⟩; (conv=>whnf);exact⟨.r,⟨.r,.r,.r,aj⟩,by rfl⟩)
 ·rename_i il h1 ad;have q8:decide (0<=K)=true:=((cq ..).mp h).1;have Bz:=A9 q8;have fU:=cL q8;repeat' ((conv=>whnf);first|refine ch ?_|refine⟨K.toNat,bW D,aS ⟨Bz,fU⟩ ?_⟩|refine .inr ⟨[0],bO cH ?_⟩|fail)
  all_goals(conv=>whnf)
  simp only[il,h1,ad,q8,ur,oR,kZ,s7,b6,bD,nR,jQ,rq]at b1;subst b1;(refine⟨[.eT 2 4],?_⟩; (conv=>whnf);exact⟨.r,⟨.r,.r,.r,aj⟩,by rfl⟩)
 ·rename_i il h1 ad;have aQ:decide (0<=K)=false:=by
   rw[ad]at h;simpa using h
  simp only[il,h1,ad,aQ,wZ,ur,oR,kZ,s7,b6,bD,nR,jQ,rq]at b1;subst b1;(refine⟨[.cell 0 15 218 7,.eT 2 4],?_⟩; (conv=>whnf);exact⟨.r,⟨.r,.r,.r,aj⟩,by rfl⟩)
theorem LL(s:bi): (hE s).length<=100:=by
 have h1: (x0 s).length<=1:=by unfold x0;cases (hY s.box s.self).2<;>simp
 have ad: (vl s).length<=1:=by unfold vl;cases decide (s.phase=1)<;>cases decide (s.phase=2)<;>simp
 have aN: (x1 s).length<=1:=by unfold x1;cases decide (0<=eQ s.aM s.self)&& !decide (s.phase=2)<;>simp
 unfold hE
 grind
def kU(s:bi):Int:=if 1099511627776<IntKind.i64.wrap (s.cD+1)then 1099511627776 else IntKind.i64.wrap (s.cD+1)
def rY(s:bi):Bool:=decide (IntKind.i64.wrap (8+IntKind.i64.wrap (6*gR s.view.mem s.self))<=kU s)
def gK(s:bi):bi:=
 if decide (0<(s.prop.length:Int))=true then(if rY s=true then nn {s with cD:=kU s}else {s with cD:=kU s})else s
theorem alR(s:bi)(ae:ez s)(h1:fI s=false):bq Tryz.prog 98 [.agg (dg s)] (.be [.agg (dg gf),.av 7 (([]:List dN).map fu) false]):=by
 have fR:=pe s ae;rw[h1]at fR;refine fX Tryz.func98 ?_;repeat' ((conv=>whnf);first|refine aR fR ?_|fail)
 all_goals(conv=>whnf)
 all_goals exact e1 ⟨LK,.ar,aj⟩
theorem alS(s:bi)(ae:ez s)(h1:fI s=true)(cm:decide (0<(s.dec.length:Int))=true):bq Tryz.prog 98 [.agg (dg s)] (.be [.agg (dg s),.av 7 ([eC s 0 6 0 0 s.dec].map fu) false]):=by
 have aa:=ae.dec;have fR:=pe s ae;have mJ:=xY s ae;have bc:=xZ s 0 6 0 0 s.dec (by omega);rw[h1]at fR;have mK:decide (0<((s.dec.map aU).length:Int))=true:=by rw[bL];exact cm
 refine fX Tryz.func98 ?_;repeat' ((conv=>whnf);first|refine ht (by assumption) ?_|exact .refl|refine ch ?_|refine aR fR ?_|refine aR mJ ?_|refine .inr ⟨[2],bO bc ?_⟩|fail)
theorem alT(s:bi)(ae:ez s)(h1:fI s=true)(cm:s.dec=[])(eK:decide (0<(s.prop.length:Int))=false):bq Tryz.prog 98 [.agg (dg s)] (.be [.agg (dg (dk s (hE s)).1),.av 7 ((dk s (hE s)).2.map fu) false]):=by
 have fR:=pe s ae;have mJ:=xY s ae;have bc:=RP s ae;have oL:=zt s ae (hE s) (LL s);generalize dk s (hE s)=E at *;rw[h1]at fR;have mK:decide (0<((s.dec.map aU).length:Int))=false:=by rw[cm];rfl
 have RE:decide (0<((s.prop.map aU).length:Int))=false:=by rw[bL];exact eK
 refine fX Tryz.func98 ?_;repeat' ((conv=>whnf);first|refine ft (by assumption) ?_|exact .refl|refine aR fR ?_|refine aR mJ ?_|refine .inr ⟨[2],bO bc ?_⟩|refine .inr ⟨[2,4],bO oL ?_⟩|fail)
theorem alU(s:bi)(ae:ez s)(h1:fI s=true)(cm:s.dec=[])(eK:decide (0<(s.prop.length:Int))=true)(jj:rY s=false):bq Tryz.prog 98 [.agg (dg s)] (.be [.agg (dg (dk {s with cD:=kU s} (hE s)).1),.av 7 ((dk {s with cD:=kU s} (hE s)).2.map fu) false]):=by
 have ab:=ae.mem;have jH:ez {s with cD:=kU s}:=⟨ae.mem,ae.gT,ae.prop,ae.box,ae.kA,ae.bu,ae.mm,ae.c4,ae.aM,ae.kf,ae.dec⟩
 have fR:=pe s ae;have mJ:=xY s ae;have bc:=RP _ jH;have oL:=zt _ jH (hE s) (LL s);have oF:=G2 s.view.mem (eS ab) s.self;have hw:kU s=if 1099511627776<IntKind.i64.wrap (s.cD+1)then 1099511627776 else IntKind.i64.wrap (s.cD+1):=rfl;have aa:rY s=decide (IntKind.i64.wrap (8+IntKind.i64.wrap (6*gR s.view.mem s.self))<=kU s):=rfl;generalize dk {s with cD:=kU s} (hE s)=E at *;rw[h1]at fR;have mK:decide (0<((s.dec.map aU).length:Int))=false:=by rw[cm];rfl
 have RE:decide (0<((s.prop.map aU).length:Int))=true:=by rw[bL];exact eK
 refine fX Tryz.func98 ?_;repeat' ((conv=>whnf);first|refine ht (by assumption) ?_|refine ft (by assumption) ?_|exact .refl|refine ch ?_|refine aR fR ?_|refine aR mJ ?_|refine aR oF ?_|refine .inr ⟨[2],bO bc ?_⟩|refine .inr ⟨[2,5],bO oL ?_⟩|fail)
theorem alV(ae:ez s)(af:s.aM.length<=900):ez (nn s):=by
 have eF:=Lr (aC:=iC s) ae.gT;unfold nn;cases decide (iC s=0)
 ·cases (im s.aL (iC s)).2.2
  ·exact ae
  ·exact Z3 ⟨ae.mem,eF.1,ae.prop,ae.box,ae.kA,(by simp),(λb ac=>by
    grind),bZ _,ae.aM,ae.kf,ae.dec⟩ af
 grind
theorem alW(s:bi)(ae:ez s)(h1:fI s=true)(cm:s.dec=[])(eK:decide (0<(s.prop.length:Int))=true)(jj:rY s=true):bq Tryz.prog 98 [.agg (dg s)] (.be [.agg (dg (dk (nn {s with cD:=kU s}) (hE (nn {s with cD:=kU s}))).1),.av 7 ((dk (nn {s with cD:=kU s}) (hE (nn {s with cD:=kU s}))).2.map fu) false]):=by
 have ab:=ae.mem;have jH:ez {s with cD:=kU s}:=⟨ae.mem,ae.gT,ae.prop,ae.box,ae.kA,ae.bu,ae.mm,ae.c4,ae.aM,ae.kf,ae.dec⟩
 obtain⟨_,lg,_,_⟩:=By h1;have Hv:=rX lg;have fR:=pe s ae;have mJ:=LF s ae;have aG:=alP _ jH lg;have Z8:=alV jH (by simp only[];omega);have oF:=G2 s.view.mem (eS ab) s.self;have hw:kU s=if 1099511627776<IntKind.i64.wrap (s.cD+1)then 1099511627776 else IntKind.i64.wrap (s.cD+1):=rfl;have aa:rY s=decide (IntKind.i64.wrap (8+IntKind.i64.wrap (6*gR s.view.mem s.self))<=kU s):=rfl;generalize nn {s with cD:=kU s}=A at *;have bc:=RP _ Z8;have oL:=zt _ Z8 (hE A) (LL A);generalize dk A (hE A)=E at *;rw[h1]at fR;have mK:decide (0<((s.dec.map aU).length:Int))=false:=by rw[cm];rfl
 have RE:decide (0<((s.prop.map aU).length:Int))=true:=by rw[bL];exact eK
 refine fX Tryz.func98 ?_;repeat' ((conv=>whnf);first|refine ht (by assumption) ?_|refine ft (by assumption) ?_|exact .refl|refine ch ?_|refine aR fR ?_|refine .inr ⟨[],bO mJ ?_⟩|refine aR oF ?_|refine .inr ⟨[3,2],bO aG ?_⟩|refine .inr ⟨[3],bO bc ?_⟩|refine .inr ⟨[3,6],bO oL ?_⟩|fail)
def cN(s:bi):bi×List dN:=
 if fI s=false then(gf,[])
 else if decide (0<(s.dec.length:Int))=true then(s,[eC s 0 6 0 0 s.dec])
 else dk (gK s) (hE (gK s))
theorem Z9(s:bi)(ae:ez s):bq Tryz.prog 98 [.agg (dg s)] (.be [.agg (dg (cN s).1),.av 7 ((cN s).2.map fu) false]):=by
 unfold cN;by_cases h1:fI s=false
 ·rw[b3 h1];exact alR s ae h1
 rw[bm h1];have h1:fI s=true:=by grind
 by_cases cm:decide (0<(s.dec.length:Int))=true
 ·rw[b3 cm];exact alS s ae h1 cm
 rw[bm cm];have mK:s.dec=[]:=by
  simp_all
 unfold gK;by_cases eK:decide (0<(s.prop.length:Int))=true
 ·rw[b3 eK];by_cases jj:rY s=true
  ·rw[b3 jj];exact alW s ae h1 mK eK jj
  ·rw[bm jj];exact alU s ae h1 mK eK (by grind)
 ·rw[bm eK];exact alT s ae h1 mK (by grind)
variable{c:List Int}
theorem x2(h: (er v c).2=0):dF c 32=true:=by
 unfold er at h
 grind
variable{m:Int}
theorem RQ(h:dF c m=true):c≠ []/\(c.length:Int)<=m:=by
 simp only[dF,cq,nu,iW,ib]at h
 grind
theorem wL(h:ga v c=true):c≠ []:=(RQ (x2 (fC h))).1
theorem n5:jX v c=true↔c=[]\/ga v c=true:=by
 unfold jX;simp
theorem zx(h:jX v c=true)(aV:c≠ []):ga v c=true:=(n5.1 h).resolve_left aV
variable{l:List cg}
theorem aaa{own:List Int}(aQ:q5 v l own=false)(aH:own≠ []): (gB v l own).2=true/\((gB v l own).1=own\/∃r∈l,0<=r.aC/\(gB v l own).1=r.cut):=by
 have fF:=(Q4 aQ).1;have aB:=Q3 l fF;cases h1:decide (0<(l.getD (hW l l.length) dB).aC)
 ·cases au:l.find? (vh v l)with
  |none=>
   have cF:∀j (aq:j<l.length),vh v l l[j]=false:=λj aq=>by
    grind
   rw[akz aQ h1 cF];refine⟨?_,.inl rfl⟩;cases own with
   |nil=>grind
   |cons x l=>simp
  |some r=>
   obtain⟨bX,i,hi,he,cF⟩:=I1.1 au;subst he;rw[Zw aQ h1 hi bX (λj aq sJ=>by grind)];refine⟨rfl,.inr ⟨_,eD hi,?_,rfl⟩⟩;simp only[vh,cq,fx]at bX;omega
 ·rw[Zx aQ h1]
  grind
variable{a:kz}
theorem alX{c:List Int}(h:la a=true)(cy: (oJ a c).2=true):a.cc=0/\a.aC= -1/\dF c 32=true/\(oJ a c).1= ⟨0,0,c⟩:=by
 simp only[oJ,h,kZ,bD]at cy⊢
 grind
variable{r:Int}
theorem RR(h:la a=true)(cy: (im a r).2.2=true):jw r=true/\a.cc<=r/\(im a r).1= ⟨r,a.aC,a.cut⟩/\(im a r).2.1= ⟨0,a.aC,a.cut⟩:=by
 simp only[im,h,kZ,bD]at cy⊢
 grind
theorem LM{c:List Int}(h:la a=true)(cy: (jc a r c).2=true):jw r=true/\a.cc<=r/\dF c 32=true/\(jc a r c).1= ⟨r,r,c⟩/\(a.aC=r->a.cut=c):=by
 simp only[jc,h,kZ,bD]at cy⊢;cases al: (!jw r||decide (r<a.cc)|| !dF c 32||decide (a.aC=r)&& !iG a.cut c)with
 |true=>grind
 |false=>
  simp only[iW,mw,ib,vI]at al;refine⟨al.1.1.1,by omega,al.1.2,rfl,λe=> ?_⟩;rcases al.2 with ad|ad
  ·omega
  ·exact zc.1 ad
theorem nK(h:gJ v r=true):jw r=true/\bP v.mem (h5 r)=true:=by
 simp only[gJ,cq]at h;exact h
theorem q9(h:jw r=true):1024<r:=Zs (by simpa[jw]using h)
structure c2(s:bi):Prop where
 v:b2 s.view=true
 self:bP s.view.mem s.self=true
 ba:0<=s.cD
 eL:s.cD<=1099511627776
 aL:la s.aL=true
 cc:s.aL.cc≠0->gJ s.view s.aL.cc=true
 ip:0<s.aL.aC->gJ s.view s.aL.aC=true
 gT:jX s.view s.aL.cut=true
 prop:jX s.view s.prop=true
 c4:jX s.view s.c4=true
 dec:jX s.view s.dec=true
 box:hX s.view s.box=true
 own: (hY s.box s.self).2=true->(hY s.box s.self).1=s.prop
 bu:gI s.view s.bu=true
 ra:∀r∈s.bu,0<r.aC->gJ s.view r.aC=true
 aM:gI s.view s.aM=true
 n8:∀r∈s.aM,1<=r.aC/\gJ s.view r.aC=true
 aC:s.aC≠0->gJ s.view s.aC=true/\h5 s.aC=s.self
 h7: (s.phase=0/\s.bu=[]/\s.c4=[])\/(s.phase=1/\s.c4=[]\/s.phase=2/\s.c4≠ [])/\s.aC≠0/\s.prop≠ []/\0<=eQ s.bu s.self
def fW(s:bi):Prop:=s.phase=1->(s.bu.length:Int)<fY s.view.mem.length
theorem aab{p:Nat->Bool}{q:cg->Prop}(h:∀i (hi:i<l.length),p i=true->q l[i])(bb:ij p l.length=true):∀r∈l,q r:=λr ao=>by
 obtain⟨i,hi,rfl⟩:=fv ao;exact h i hi (iA.1 bb i hi)
theorem aac{p:Nat->Bool}{q:cg->Prop}(h:∀i (hi:i<l.length),q l[i]->p i=true)(bb:∀r∈l,q r):ij p l.length=true:=
 iA.2 λi hi=>h i hi (bb _ (eD hi))
theorem LN:ij (Bv v l) l.length=true↔∀r∈l,0<r.aC->gJ v r.aC=true:=by
 constructor
 ·refine aab λi hi h aQ=> ?_;have ax:l.getD i dB=l[i]:=by grind
  rw[Bv,ax,e4 aQ]at h
  grind
 ·refine aac λi hi h=> ?_;have ax:l.getD i dB=l[i]:=by grind
  rw[Bv,ax]
  grind
theorem aad:ij (zr m l) l.length=true↔∀r∈l,m<=r.aC:=by
 constructor
 ·refine aab λi hi h=> ?_;have ax:l.getD i dB=l[i]:=by grind
  rw[zr,ax]at h
  grind
 ·refine aac λi hi h=> ?_;have ax:l.getD i dB=l[i]:=by grind
  rw[zr,ax]
  grind
theorem RS{α:Type}{l:List α}:decide ((l.length:Int)=0)=true↔l=[]:=by
 simp
theorem rb{α:Type}{l:List α}:decide (0<(l.length:Int))=true↔l≠ []:=by
 rw[fx];constructor
 ·grind
 ·intro h;have:l.length≠0:=λe=>h (ut.1 e);omega
theorem RT{α:Type}{l:List α}:decide (0<(l.length:Int))=false↔l=[]:=by
 simp
theorem aae(s:bi):zs s=true↔ ((s.aC≠0->gJ s.view s.aC=true/\h5 s.aC=s.self)/\((s.phase=0/\s.bu=[]/\s.c4=[])\/(s.phase=1/\s.c4=[]\/s.phase=2/\s.c4≠ [])/\s.aC≠0/\s.prop≠ []/\0<=eQ s.bu s.self)/\fW s):=by
 unfold zs fW;have aA:= @RS _ s.bu;have aG:= @rb _ s.c4;have bc:= @rb _ s.prop
 grind
theorem rd(s:bi):fI s=true↔c2 s/\fW s:=by
 constructor
 ·intro h;obtain⟨v,self,ba,eL⟩:=Bw h;obtain⟨g1,g2,g3,g4⟩:=ZX h;obtain⟨dL,dW,eU,hj⟩:=By h;obtain⟨fl,ff,lX⟩:=(aae s).1 eU;have af:=aad.1 (iA.2 hj);unfold fI at h;cases h1: !b2 s.view|| !bP s.view.mem s.self||decide (s.cD<0)||decide (1099511627776<s.cD)
  ·rw[h1,bD]at h;cases ad: (!la s.aL|| !decide (s.aL.cc=0)&& !gJ s.view s.aL.cc||decide (0<s.aL.aC)&& !gJ s.view s.aL.aC|| !jX s.view s.aL.cut)
   ·rw[ad,bD]at h;simp only[iW,vI,mw,fx,ib]at ad;cases aN: !jX s.view s.prop|| !jX s.view s.c4|| !jX s.view s.dec|| !hX s.view s.box
    ·rw[aN,bD]at h;cases bs: (hY s.box s.self).2&& !iG (hY s.box s.self).1 s.prop
     ·rw[bs,bD]at h;simp only[cq,tV]at h;refine⟨⟨v,self,ba,eL,ad.1.1.1,λe=>ad.1.1.2.resolve_left e,λe=>ad.1.2.resolve_left (λh=>h e),ad.2,g1,g2,g3,g4,λe=> ?_,dL,LN.1 h.2.1.1.1,dW,λr ao=>⟨af r ao,LN.1 h.2.1.2.1 r ao (by grind)⟩,fl,ff⟩,lX⟩;rw[e,rp]at bs;exact zc.1 (by grind)
     grind
    grind
   grind
  grind
 ·rintro⟨h,au⟩;have h1: (!b2 s.view|| !bP s.view.mem s.self||decide (s.cD<0)||decide (1099511627776<s.cD))=false:=by
   have:=h.ba;have:=h.eL;rw[h.v,h.self,c5 (by omega),c5 (by omega)];rfl
  have ad: (!la s.aL|| !decide (s.aL.cc=0)&& !gJ s.view s.aL.cc||decide (0<s.aL.aC)&& !gJ s.view s.aL.aC|| !jX s.view s.aL.cut)=false:=by
   rw[h.aL,h.gT];simp only[iW,vI,mw,fx,ib];refine⟨⟨⟨by simp,?_⟩,?_⟩,by simp⟩
   ·by_cases e:s.aL.cc=0
    ·omega
    ·exact .inr (h.cc e)
   ·by_cases e:0<s.aL.aC
    ·exact .inr (h.ip e)
    omega
  have aN: (!jX s.view s.prop|| !jX s.view s.c4|| !jX s.view s.dec|| !hX s.view s.box)=false:=by
   rw[h.prop,h.c4,h.dec,h.box];rfl
  have bs: ((hY s.box s.self).2&& !iG (hY s.box s.self).1 s.prop)=false:=by
   cases e: (hY s.box s.self).2
   ·rfl
   ·rw[h.own e,zc.2 rfl];rfl
  unfold fI;rw[h1,ad,aN,bs];simp only[bD,cq,tV];exact⟨aad.2 λr ao=>(h.n8 r ao).1,⟨⟨LN.2 h.ra,h.bu⟩,LN.2 λr ao _=>(h.n8 r ao).2,h.aM⟩,(aae s).2 ⟨h.aC,h.h7,au⟩⟩
theorem LO(ab:b2 v=true)(h:bP v.mem x=true):1<=x/\x<=1000:=Rm ab h
theorem RU(ab:b2 v=true):gI v []=true:=(q6 ab).2 ⟨by simp,.nil⟩
theorem x3{c:List Int}(h1:bP v.mem m=true)(ad:jw r=true)(aN:ga v c=true):jK v ⟨m,r,c⟩=true:=by
 simp only[jK,ga,cq,oS,fx]at *
 grind
variable{r:cg}
theorem aaf(h:jK v r=true):bP v.mem r.mem=true:=by
 simp only[jK,cq]at h
 grind
theorem El(h:jK v r=true): (r.aC= -1/\r.cut=[])\/(r.aC=0\/jw r.aC=true)/\ga v r.cut=true:=by
 simp only[jK,ga,cq,oS,fx]at *
 simp_all
theorem BA{x:Int}:0<=eQ l x↔∃r∈l,r.mem=x:=by
 constructor
 ·intro h;exact akv (e4 h)
 ·rintro⟨r,ao,he⟩;cases h:decide (0<=eQ l x)
  ·exact absurd he (aku h r ao)
  grind
theorem alY{x:cg}(ag:x∈l):x∈iS l r:=by
 unfold iS;rw[<-Fu (qq l r.mem) l,eb]at ag
 grind
theorem Hx{x:cg}(h:gI v l=true)(ag:x∈l):x∈ (fN v l r).1:=by
 unfold fN;cases ad:gI v (iS l r)
 ·grind
 ·simp[h];exact alY ag
theorem aag(h:c2 s):c2 (q7 s):=
 ⟨h.v,h.self,h.ba,h.eL,h.aL,h.cc,h.ip,h.gT,h.prop,n5.2 (.inl rfl),h.dec,h.box,h.own,RU h.v,(λr ao=>by cases ao),h.aM,h.n8,h.aC,.inl ⟨rfl,rfl,rfl⟩⟩
theorem aah(s:bi):fW (q7 s):=λe=>by
 have: (0:Int)=1:=e;omega
theorem LP(h:c2 s){r:cg}(ao:jK s.view r=true)(an:gJ s.view r.aC=true):c2 {s with aM:=fS s.view s.aM r}:=
 ⟨h.v,h.self,h.ba,h.eL,h.aL,h.cc,h.ip,h.gT,h.prop,h.c4,h.dec,h.box,h.own,h.bu,h.ra,RM h.v h.aM ao,(λx ag=>by
  rcases Ek ag with rfl|ag
  ·have:=q9 (nK an).1
   grind
  ·exact h.n8 x ag),h.aC,h.h7⟩
variable{r:Int}
theorem alZ{c:List Int}(h1:jw r=true)(ad:dF c 32=true):la ⟨r,r,c⟩=true:=by
 have aQ:=q9 h1;have aN:h5 r≠0:=by simpa[jw]using h1
 exact(xW _).2 ⟨.inr aN,k0 _,.inr ⟨.inr aN,by grind,ad⟩⟩
theorem aai(h:c2 s){r:Int}{c:List Int}(an:gJ s.view r=true)(al:ga s.view c=true):c2 {s with aL:=⟨r,r,c⟩}:=
 ⟨h.v,h.self,h.ba,h.eL,alZ (nK an).1 (x2 (fC al)),λ_=>an,λ_=>an,n5.2 (.inr al),h.prop,h.c4,h.dec,h.box,h.own,h.bu,h.ra,h.aM,h.n8,h.aC,h.h7⟩
theorem al0(h:la a=true){r:Int}(h1:jw r=true)(ad:a.cc<=r):la ⟨r,a.aC,a.cut⟩=true:=by
 obtain⟨_,bs,cm⟩:=(xW a).1 h;exact(xW _).2 ⟨.inr (by simpa[jw]using h1),by grind,cm⟩
theorem aaj(h:c2 s){r:Int}(an:gJ s.view r=true)(hle:s.aL.cc<=r):c2 {s with aL:=⟨r,s.aL.aC,s.aL.cut⟩}:=
 ⟨h.v,h.self,h.ba,h.eL,al0 h.aL (nK an).1 hle,λ_=>an,h.ip,h.gT,h.prop,h.c4,h.dec,h.box,h.own,h.bu,h.ra,h.aM,h.n8,h.aC,h.h7⟩
theorem RV(h:c2 s): (fW s/\gx s=s)\/
  (s.phase=1/\q5 s.view s.bu s.prop=false/\s.prop≠ []/\ga s.view (gB s.view s.bu s.prop).1=true/\(gB s.view s.bu s.prop).2=true/\
   (((jc s.aL s.aC (gB s.view s.bu s.prop).1).2=true/\gx s= {s with c4:=(gB s.view s.bu s.prop).1,phase:=2,aL:=⟨s.aC,s.aC,(gB s.view s.bu s.prop).1⟩,aM:=fS s.view s.aM ⟨s.self,s.aC,(gB s.view s.bu s.prop).1⟩})\/
   ((jc s.aL s.aC (gB s.view s.bu s.prop).1).2=false/\gx s=q7 s))):=by
 unfold gx;cases ac: !decide (s.phase=1)||decide ((s.bu.length:Int)<fY s.view.mem.length)
 ·simp only[iW,mw,fx,ib]at ac;right;have jZ:s.prop≠ []:=by
   rcases h.h7 with aQ|aQ;all_goals grind
  have lg:=zx h.prop jZ;have ax:q5 s.view s.bu s.prop=false:=by
   unfold q5;rw[h.bu,c5 ac.2,fC lg];simp
  obtain⟨eP,fJ⟩:=aaa ax jZ;refine⟨ac.1,ax,jZ,?_,eP,?_⟩
  ·rcases fJ with fJ| ⟨r,ao,aQ,fJ⟩
   ·grind
   ·rw[fJ];rcases El (((q6 h.v).1 h.bu).1 r ao)with ad|ad;all_goals grind
  ·cases bb: (jc s.aL s.aC (gB s.view s.bu s.prop).1).2
   ·simp
   ·left;have:=(LM h.aL bb).2.2.2.1
    grind
 ·left;simp only[oS,nu,ib,fx]at ac;refine⟨λe=> ?_,rfl⟩;omega
theorem Em(h:c2 s):c2 (gx s)/\fW (gx s)/\(gx s).view=s.view/\(gx s).self=s.self/\(gx s).dec=s.dec/\(gx s).aC=s.aC:=by
 rcases RV h with⟨au,e⟩| ⟨h1,ax,jZ,lg,_,⟨bb,e⟩| ⟨bb,e⟩⟩
 ·grind
 ·rw[e];have mo:=h.h7;rw[h1]at mo;have RW:s.aC≠0:=by
   omega
  have kt:0<=eQ s.bu s.self:=by
   omega
  obtain⟨an,aH⟩:=h.aC RW;have ad:=LP (r:=⟨s.self,s.aC,(gB s.view s.bu s.prop).1⟩) h (x3 h.self (nK an).1 lg) an;have aN:=aai ad an lg;exact⟨⟨aN.v,aN.self,aN.ba,aN.eL,aN.aL,aN.cc,aN.ip,aN.gT,aN.prop,n5.2 (.inr lg),aN.dec,aN.box,aN.own,aN.bu,aN.ra,aN.aM,aN.n8,aN.aC,.inr ⟨.inr ⟨rfl,wL lg⟩,RW,jZ,kt⟩⟩,(λe=>by
   grind),rfl,rfl,rfl,rfl⟩
 ·rw[e];exact⟨aag h,aah s,rfl,rfl,rfl,rfl⟩
structure tY(s:bi)(p:dN):Prop where
 pS:eG s.view p.m=true
 src:p.m.src=s.self
 lP:p.dd≠s.self
 dd:p.dd=0\/bP s.view.mem p.dd=true
theorem BB{k self aC cU:Int}{c:List Int}(ab:b2 v=true)(ae:bP v.mem self=true)
  (h: (bif decide (k=1)||decide (k=6)then decide (aC=0)&&decide (cU=0)&&ga v c
 else bif decide (k=2)then gJ v aC&&decide (h5 aC=self)&&decide (cU=0)&&decide ((c.length:Int)=0)
 else bif decide (k=3)then gJ v aC&& !decide (aC<cU)&& (decide (cU= -1)&&decide ((c.length:Int)=0)|| (decide (cU=0)||gJ v cU)&&ga v c)
 else bif decide (k=4)then gJ v aC&&decide (h5 aC=self)&&decide (cU=0)&&ga v c
 else bif decide (k=5)then gJ v aC&&decide (cU=0)&&ga v c
 else false)=true):eG v ⟨k,v.num,self,aC,cU,c⟩=true:=by
 unfold eG
 grind
theorem Hy(h:c2 s){k aC cU:Int}{c:List Int}(az:eG s.view ⟨k,s.view.num,s.self,aC,cU,c⟩=true):tY s (eC s 0 k aC cU c):=
 ⟨az,rfl,(by have:=LO h.v h.self;show (0:Int)≠s.self;omega),.inl rfl⟩
theorem RX(h:c2 s){c:List Int}(al:ga s.view c=true):tY s (eC s 0 6 0 0 c):=
 Hy h (BB h.v h.self (by grind))
theorem aak(h:c2 s){c:List Int}(al:ga s.view c=true):tY s (eC s 0 1 0 0 c):=
 Hy h (BB h.v h.self (by grind))
theorem al1(h:c2 s)(ao:s.aC≠0):tY s (eC s 0 2 s.aC 0 []):=by
 obtain⟨an,aH⟩:=h.aC ao;exact Hy h (BB h.v h.self (by grind))
theorem aal(h:c2 s)(ao:s.aC≠0){c:List Int}(al:ga s.view c=true):tY s (eC s 0 4 s.aC 0 c):=by
 obtain⟨an,aH⟩:=h.aC ao;exact Hy h (BB h.v h.self (by grind))
theorem aam(h:c2 s){r:Int}(an:gJ s.view r=true){c:List Int}(al:ga s.view c=true):tY s (eC s 0 5 r 0 c):=
 Hy h (BB h.v h.self (by grind))
variable{l:List c6}
theorem aan(h: (jx v l).2=true):∃b∈l,b.cut=(jx v l).1:=by
 unfold jx at h⊢
 grind
theorem RY{l:List cg}{m:Int}:∀i,i<=l.length->(kB l m i).2=[]\/∃r∈l,r.aC=(kB l m i).1/\r.cut=(kB l m i).2/\m<=(oK l r l.length:Int)
 |0,_=>.inl rfl
 |i+1,hi=>by
  unfold kB;cases ac:decide (m<=(oK l (l.getD i dB) l.length:Int))&&decide ((kB l m i).1<(l.getD i dB).aC)
  ·exact RY i (by omega)
  grind
theorem al2(h:c2 s)(aV:hh s≠ []):ga s.view (hh s)=true:=by
 unfold hh at aV⊢;cases hw: (jx s.view s.box).2
 ·rw[hw,bD]at aV;rw[bD];unfold vj at aV⊢;rcases RY (l:=s.aM) (m:=fY s.view.mem.length) s.aM.length (bS _)with h1| ⟨r,ao,ad,aN,_⟩
  ·grind
  ·rw[<-aN];have lg:=h.n8 r ao;rcases El (((q6 h.v).1 h.aM).1 r ao)with bs|bs;all_goals grind
 ·rw[b6];obtain⟨b,ac,he⟩:=aan hw;rw[<-he];exact(((tU h.v).1 h.box).1 b ac).2
theorem al3(h:c2 s)(au:fW s){aZ:List dN}(an:∀p∈aZ,tY s p):c2 (dk s aZ).1/\fW (dk s aZ).1/\(dk s aZ).1.view=s.view/\(dk s aZ).1.self=s.self/\∀p∈ (dk s aZ).2,tY s p:=by
 unfold dk;cases ac:decide ((s.dec.length:Int)=0)&&decide (0<((hh s).length:Int))
 ·grind
 ·rw[cq]at ac;have bb:=al2 h (rb.1 ac.2);refine⟨⟨h.v,h.self,h.ba,h.eL,h.aL,h.cc,h.ip,h.gT,h.prop,h.c4,n5.2 (.inr bb),h.box,h.own,h.bu,h.ra,h.aM,h.n8,h.aC,h.h7⟩,au,rfl,rfl,λp iN=> ?_⟩;simp only[b6,eb,eJ]at iN;rcases iN with iN|rfl
  ·grind
  ·exact RX h bb
def rZ(s:bi)(x:bi×List dN):Prop:=c2 x.1/\fW x.1/\x.1.view=s.view/\x.1.self=s.self/\∀p∈x.2,tY s p
variable{x:bi×List dN}
theorem LQ(h:rZ s x):rZ s (dk x.1 x.2):=by
 obtain⟨h1,ad,aN,bs,cm⟩:=h;have mK:∀p∈x.2,tY x.1 p:=λp an=>by
  have:=cm p an;exact⟨by rw[aN];exact this.pS,by rw[bs];exact this.src,by rw[bs];exact this.lP,by rw[aN];exact this.dd⟩
 obtain⟨aA,aG,bc,cn,ep⟩:=al3 h1 ad mK;refine⟨aA,aG,bc.trans aN,cn.trans bs,λp an=> ?_⟩;have:=ep p an;exact⟨by rw[<-aN];exact this.pS,by rw[<-bs];exact this.src,by rw[<-bs];exact this.lP,by rw[<-aN];exact this.dd⟩
theorem kC{m:c1}(h:eG v m=true):bP v.mem m.src=true/\m.view=v.num:=by
 unfold eG at h
 grind
theorem ph{m:c1}(h:eG v m=true): (m.kind=1\/m.kind=6->ga v m.cut=true)/\(m.kind=2->gJ v m.aC=true/\h5 m.aC=m.src)/\
  (m.kind=3->gJ v m.aC=true/\m.cU<=m.aC/\(m.cU= -1/\m.cut=[]\/(m.cU=0\/gJ v m.cU=true)/\ga v m.cut=true))/\
  (m.kind=4->gJ v m.aC=true/\h5 m.aC=m.src/\ga v m.cut=true)/\(m.kind=5->gJ v m.aC=true/\ga v m.cut=true):=by
 unfold eG at h;cases h1: !b2 v|| !bP v.mem m.src|| !decide (m.view=v.num)
 ·rw[h1,bD]at h;refine⟨λhk=> ?_,λhk=> ?_,λhk=> ?_,λhk=> ?_,λhk=> ?_⟩;all_goals simp_all
 grind
theorem aao(h:c2 s): (s.aL.aC= -1/\s.aL.cut=[])\/(s.aL.aC=0\/gJ s.view s.aL.aC=true)/\ga s.view s.aL.cut=true:=by
 rcases((xW s.aL).1 h.aL).2.2 with h1| ⟨h1,_,aN⟩
 ·grind
 ·right;refine⟨?_,zx h.gT (RQ aN).1⟩;rcases h1 with h1|h1
  ·omega
  ·have:=Zs h1;exact .inr (h.ip (by omega))
theorem al4(h:c2 s)(au:fW s){m:c1}(az:eG s.view m=true)(hk:m.kind=2)(aV:m.src≠s.self):rZ s (kS s m):=by
 obtain⟨ig,_⟩:=kC az;obtain⟨an,_⟩:=(ph az).2.1 hk;unfold kS;have key:∀t:bi,c2 t->fW t->t.view=s.view->t.self=s.self->∀aZ:List dN,(∀p∈aZ,tY s p)->rZ s ((bif decide (s.aC<m.aC)&& !decide (s.phase=0)then q7 t else t),aZ):=by
  intro t h1 ad aN bs aZ oI;cases decide (s.aC<m.aC)&& !decide (s.phase=0)
  ·exact⟨h1,ad,aN,bs,oI⟩
  ·exact⟨aag h1,aah t,aN,bs,oI⟩
 cases aH: (im s.aL m.aC).2.2
 ·grind
 ·obtain⟨hu,hle,aA,aG⟩:=RR h.aL aH;rw[aA,aG];have gY:=((xW s.aL).1 h.aL).2.1;refine key _ (aaj h an hle) au rfl rfl _ (λp iN=> ?_);simp only[b6,eJ]at iN;subst iN;refine⟨BB h.v h.self ?_,rfl,aV,.inr ig⟩;simp only[an,rp];have aQ:decide (m.aC<s.aL.aC)=false:=c5 (by omega);rcases aao h with⟨h1,ad⟩| ⟨h1,ad⟩;all_goals grind
theorem al5(h:c2 s)(au:fW s){m:c1}(az:eG s.view m=true)(hk:m.kind=3):rZ s (kT s m):=by
 obtain⟨ig,_⟩:=kC az;obtain⟨an,_,af⟩:=(ph az).2.2.1 hk;unfold kT;cases ac: !decide (s.phase=1)|| !decide (m.aC=s.aC)
 ·simp only[iW,mw,fx]at ac;have mo:=h.h7;rw[ac.1]at mo;have mo:s.c4=[]/\s.aC≠0/\s.prop≠ []/\0<=eQ s.bu s.self:=by
   grind
  have h1:c2 {s with bu:=(fN s.view s.bu ⟨m.src,m.cU,m.cut⟩).1}:=by
   refine⟨h.v,h.self,h.ba,h.eL,h.aL,h.cc,h.ip,h.gT,h.prop,h.c4,h.dec,h.box,h.own,RI h.bu,λr ao aQ=> ?_,h.aM,h.n8,h.aC,.inr ⟨.inl ⟨ac.1,mo.1⟩,mo.2.1,mo.2.2.1,?_⟩⟩
   ·rcases Ej ao with rfl|ao
    ·grind
    ·exact h.ra r ao aQ
   ·obtain⟨r,ao,he⟩:=BA.1 mo.2.2.2;exact BA.2 ⟨r,Hx h.bu ao,he⟩
  obtain⟨ad,aN,bs,cm,_,eK⟩:=Em h1;refine⟨ad,aN,bs,cm,λp iN=> ?_⟩;simp only[bD]at iN;generalize gx {s with bu:=(fN s.view s.bu ⟨m.src,m.cU,m.cut⟩).1}=A at *;cases ai:decide (A.phase=2)
  ·grind
  ·rw[ai]at iN;simp only[b6,eJ]at iN;subst iN;have ai:=fC ai;have al:A.c4≠ []/\A.aC≠0:=by
    rcases ad.h7 with aQ| ⟨aQ|aQ,jj⟩;all_goals grind
   have:=aal ad al.2 (zx ad.c4 al.1);exact⟨by rw[<-bs];exact this.pS,by rw[<-cm];rfl,by rw[<-cm];exact this.lP,by rw[<-bs];exact this.dd⟩
 ·exact⟨h,au,rfl,rfl,by simp⟩
theorem al6(h:c2 s)(au:fW s){m:c1}(az:eG s.view m=true)(hk:m.kind=4):rZ s (lW s m):=by
 obtain⟨ig,_⟩:=kC az;obtain⟨an,_,al⟩:=(ph az).2.2.2.1 hk;have h1:=LP (r:=⟨m.src,m.aC,m.cut⟩) h (x3 ig (nK an).1 al) an;unfold lW;cases bb: (jc s.aL m.aC m.cut).2
 ·exact⟨h1,au,rfl,rfl,by simp⟩
 ·have e:=(LM h.aL bb).2.2.2.1;rw[e];have ad:=LP (r:=⟨s.self,m.aC,m.cut⟩) h1 (x3 h.self (nK an).1 al) an;have aN:=aai ad an al;refine⟨aN,au,rfl,rfl,λp iN=> ?_⟩;simp only[b6,eJ]at iN;subst iN;exact aam h an al
theorem al7(h:c2 s)(au:fW s){m:c1}(az:eG s.view m=true)(hk:m.kind=5):rZ s ({s with aM:=fS s.view s.aM ⟨m.src,m.aC,m.cut⟩},[]):=by
 obtain⟨ig,_⟩:=kC az;obtain⟨an,al⟩:=(ph az).2.2.2.2 hk;exact⟨LP h (x3 ig (nK an).1 al) an,au,rfl,rfl,by simp⟩
theorem al8(h:c2 s)(au:fW s){m:c1}(az:eG s.view m=true)(hk:m.kind=6):rZ s ({s with dec:=m.cut},[eC s 0 6 0 0 m.cut]):=by
 have al:=(ph az).1 (.inr hk);refine⟨⟨h.v,h.self,h.ba,h.eL,h.aL,h.cc,h.ip,h.gT,h.prop,h.c4,n5.2 (.inr al),h.box,h.own,h.bu,h.ra,h.aM,h.n8,h.aC,h.h7⟩,au,rfl,rfl,λp an=> ?_⟩;simp only[eJ]at an;subst an;exact RX h al
variable{x:Int}
theorem al9(h:decide (0<=lf l x)=true): (lf l x).toNat<l.length/\(l.getD (lf l x).toNat jY).mem=x:=by
 have h:=fC h;unfold lf at h⊢;rcases au: (List.range l.length).find? (λi=>decide ((l.getD i jY).mem=x))with _|n
 ·simp only[lv,au]at h;omega
 ·have aV:n<l.length:=w4.1 (I5 au);have Ki:=I2 au;simp only[lv,au,l6]
  grind
theorem LR(h: (hY l x).2=true):∃b∈l,b.mem=x/\b.cut=(hY l x).1:=by
 unfold hY at h⊢;cases aa:decide (0<=lf l x)
 ·grind
 ·obtain⟨h1,ad⟩:=al9 aa
  grind
theorem ama(h: (hY l x).2=false):∀b∈l,b.mem≠x:=by
 unfold hY at h;cases aa:decide (0<=lf l x)
 ·exact Rg aa
 grind
theorem amb(an:List.Pairwise (λa b:c6=>a.mem<b.mem) l){a b:c6}(bb:a∈l)(ac:b∈l)(he:a.mem=b.mem):a=b:=by
 obtain⟨i,hi,rfl⟩:=fv bb;obtain⟨j,aq,rfl⟩:=fv ac;rw[my]at an
 grind
theorem BC(ab:b2 v=true){l:List c6}(ac:hX v l=true){x:Int}{c:List Int}: ((hY l x).2=true->(hY l x).1=c)↔∀b∈l,b.mem=x->b.cut=c:=by
 constructor
 ·intro h b En he;cases al: (hY l x).2
  ·exact absurd he (ama al b En)
  ·obtain⟨c0,ad,aN,bs⟩:=LR al;have:=amb ((tU ab).1 ac).2 En ad (he.trans aN.symm)
   grind
 ·intro h al;obtain⟨c0,ad,aN,bs⟩:=LR al
  grind
theorem aap{b:c6}(h: (h6 v l b).2=0):hX v l=true/\ga v b.cut=true/\bP v.mem b.mem=true/\(∀x∈l,x.mem≠b.mem)/\(h6 v l b).1=iB l b:=by
 unfold h6 at h⊢;cases h1: !hX v l|| !ga v b.cut
 ·rw[h1,bD]at h;rw[bD];simp only[iW,mw]at h1;cases ad: !bP v.mem b.mem
  ·rw[ad,bD]at h;rw[bD];cases aN:decide (0<=lf l b.mem)
   ·exact⟨h1.1,h1.2,by grind,Rg aN,rfl⟩
   grind
  grind
 grind
theorem aaq(ab:b2 v=true){l:List c6}{b:c6}(h:hX v l=true)(al:ga v b.cut=true)(hi:bP v.mem b.mem=true)(aV:∀x∈l,x.mem≠b.mem):hX v (iB l b)=true:=by
 obtain⟨h1,ad⟩:=(tU ab).1 h;refine(tU ab).2 ⟨λx ag=> ?_,(akI ad).2 aV⟩;rcases zp ag with rfl|ag;all_goals grind
theorem amc(h:c2 s){l:List c6}(ac:hX s.view l=true)(aH:∀b∈l,b.mem=s.self->b.cut=s.prop):c2 {s with box:=l}:=
 ⟨h.v,h.self,h.ba,h.eL,h.aL,h.cc,h.ip,h.gT,h.prop,h.c4,h.dec,ac,(BC h.v ac).2 aH,h.bu,h.ra,h.aM,h.n8,h.aC,h.h7⟩
theorem amd(h:c2 s)(au:fW s){m:c1}(aV:m.src≠s.self):rZ s (kg s m,[]):=by
 unfold kg;cases al:decide ((h6 s.view s.box ⟨m.src,m.cut⟩).2=0)
 ·exact⟨h,au,rfl,rfl,by simp⟩
 ·obtain⟨h1,ad,aN,bs,cm⟩:=aap (fC al);rw[b6,cm];refine⟨amc h (aaq h.v h1 ad aN bs) (λb ac he=> ?_),au,rfl,rfl,by simp⟩;rcases zp ac with rfl|ac
  ·grind
  ·exact(BC h.v h.box).1 h.own b ac he
theorem RZ(h:c2 s)(au:fW s){m:c1}(az:eG s.view m=true)(aV:m.src≠s.self):rZ s (e2 s m):=by
 unfold e2;rcases zv az with hk|hk|hk|hk|hk|hk
 ·rw[b3 hk];exact amd h au aV
 ·rw[bm (by omega),b3 hk];exact al4 h au az hk aV
 ·rw[bm (by omega),bm (by omega),b3 hk];exact al5 h au az hk
 ·rw[bm (by omega),bm (by omega),bm (by omega),b3 hk];exact al6 h au az hk
 ·rw[bm (by omega),bm (by omega),bm (by omega),bm (by omega),b3 hk];exact al7 h au az hk
 ·rw[bm (by omega),bm (by omega),bm (by omega),bm (by omega),bm (by omega)];exact al8 h au az hk
theorem zy(h:c2 s)(au:fW s){m:c1}(cy: (dC s m).2.2=0):rZ s ((dC s m).1,(dC s m).2.1):=by
 have ac:fI s=true:=(rd s).2 ⟨h,au⟩;unfold dC at cy⊢;rw[bm (by grind)]at cy⊢;by_cases ad:decide (m.view=s.view.num)=false
 ·grind
 rw[bm ad]at cy⊢;by_cases aN: (!eG s.view m||decide (m.src=s.self))=true
 ·grind
 rw[bm aN]at cy⊢;have aN: (!eG s.view m||decide (m.src=s.self))=false:=by grind
 simp only[iW,mw,ib]at aN;by_cases cm:decide (0<(s.dec.length:Int))=true
 ·rw[b3 cm];refine⟨h,au,rfl,rfl,λp an=> ?_⟩;cases hk:decide (m.kind=6)
  ·simp only[hk,bD,eJ]at an;subst an;have aa:=zx h.dec (rb.1 cm);exact⟨BB h.v h.self (by grind),rfl,aN.2,.inr (kC aN.1).1⟩
  grind
 rw[bm cm];exact LQ (RZ h au aN.1 aN.2)
theorem Eo(h:jX v c=true):c.length<=32:=by
 rcases n5.1 h with rfl|h
 ·simp
 ·have:=(RQ (x2 (fC h))).2;omega
theorem aar{r:cg}(h:jK v r=true):r.cut.length<=32:=by
 rcases El h with h|h
 ·grind
 ·exact Eo (n5.2 (.inr h.2))
theorem LS(h:c2 s):ez s:=by
 have aV:=sK h.v;have ao:=rX h.bu;have bb:=rX h.aM;have ac:=Rn h.box;refine⟨by omega,by have:=Eo h.gT;omega,by have:=Eo h.prop;omega,by omega,λb gG=> ?_,by omega,λr iz=> ?_,by have:=Eo h.c4;omega,by omega,λr iz=> ?_,by have:=Eo h.dec;omega⟩
 ·have:=Eo (n5.2 (.inr (((tU h.v).1 h.box).1 b gG).2));omega
 ·have:=aar (((q6 h.v).1 h.bu).1 r iz);omega
 ·have:=aar (((q6 h.v).1 h.aM).1 r iz);omega
theorem ame(h:c2 s):∀p∈hE s,tY s p:=by
 intro p an;unfold hE at an;rw[eb,eb]at an;rcases an with(an|an)|an
 ·unfold x0 at an;cases al: (hY s.box s.self).2
  ·grind
  ·rw[al]at an;simp only[b6,eJ]at an;subst an;obtain⟨b,ac,_,he⟩:=LR al;rw[<-he];exact aak h (((tU h.v).1 h.box).1 b ac).2
 ·unfold vl at an;cases h1:decide (s.phase=1)
  ·cases ad:decide (s.phase=2)
   ·grind
   ·rw[h1,ad]at an;simp only[b6,bD,eJ]at an;subst an;have ad:=fC ad;rcases h.h7 with aQ| ⟨aQ|aQ,jj⟩
    ·omega
    ·omega
    ·exact aal h jj.1 (zx h.c4 aQ.2)
  ·rw[h1]at an;simp only[b6,eJ]at an;subst an;have h1:=fC h1;rcases h.h7 with aQ| ⟨aQ|aQ,jj⟩
   ·omega
   ·exact al1 h jj.1
   ·omega
 ·unfold x1 at an;cases ac:decide (0<=eQ s.aM s.self)&& !decide (s.phase=2)
  ·grind
  ·rw[ac]at an;simp only[b6,eJ]at an;subst an;obtain⟨_,hk⟩:=zu ((cq ..).mp ac).1;have az:s.aM.getD (eQ s.aM s.self).toNat dB∈s.aM:=by grind
   generalize s.aM.getD (eQ s.aM s.self).toNat dB=r at *;have bb:=h.n8 r az;refine aam h bb.2 ?_;rcases El (((q6 h.v).1 h.aM).1 r az)with bs|bs;all_goals grind
variable{a:Int}
theorem R0{m:Int}(h:vg a m≠0):1<=a/\a<=1048575/\vg a m=1024*a+m/\h5 (vg a m)=m/\1<=m/\m<=1000:=by
 by_cases al:1<=a/\a<=1048575/\1<=m/\m<=1000
 ·have e:=Q5 al.1 al.2.1 al.2.2.1 al.2.2.2;refine⟨al.1,al.2.1,e,?_,al.2.2.1,al.2.2.2⟩;rw[e,akp (by omega) (by omega) (by omega)];omega
 ·exact absurd (ako al) h
theorem aas(h:c2 s)(aV:iC s≠0):gJ s.view (iC s)=true/\h5 (iC s)=s.self:=by
 unfold iC at aV⊢;obtain⟨_,_,_,bs,cm,_⟩:=R0 aV;refine⟨?_,bs⟩;unfold gJ;rw[bs,h.self,c5 (by omega)];rfl
theorem amf(h:c2 s):jK s.view ⟨s.self,s.aL.aC,s.aL.cut⟩=true:=by
 simp only[jK,h.self,rp,oS,cq,fx];rcases aao h with⟨h1,ad⟩| ⟨h1,ad⟩
 ·grind
 ·right;refine⟨?_,fC ad⟩;rcases h1 with h1|h1
  ·omega
  ·exact .inr (nK h1).1
theorem amg(ab:b2 v=true){r:cg}(h:jK v r=true):gI v [r]=true:=
 (q6 ab).2 ⟨λx ag=>by grind,List.pairwise_singleton ..⟩
def Ep(s:bi):bi:={s with aL:=⟨iC s,s.aL.aC,s.aL.cut⟩,cD:=0,aC:=iC s,phase:=1,c4:=[],bu:=[⟨s.self,s.aL.aC,s.aL.cut⟩]}
theorem LU(h:c2 s)(an:s.prop≠ [])(ao:gJ s.view (iC s)=true)(aH:h5 (iC s)=s.self)(hle:s.aL.cc<=iC s):c2 (Ep s):=by
 have h1:=aaj h ao hle;have fF:=q9 (nK ao).1;refine⟨h.v,h.self,k0 _,(by show (0:Int)<=_;omega),h1.aL,h1.cc,h1.ip,h1.gT,h.prop,n5.2 (.inl rfl),h.dec,h.box,h.own,amg h.v (amf h),λr iz aQ=> ?_,h.aM,h.n8,λ_=>⟨ao,aH⟩,.inr ⟨.inl ⟨rfl,rfl⟩,?_,an,BA.2 ⟨_,eJ.2 rfl,rfl⟩⟩⟩
 ·rcases eJ.1 iz with rfl;exact h.ip aQ
 ·show iC s≠0;omega
theorem R1(h:c2 s):nn s=s\/(gJ s.view (iC s)=true/\h5 (iC s)=s.self/\s.aL.cc<=iC s/\nn s=gx (Ep s)):=by
 unfold nn;cases aQ:decide (iC s=0)
 ·cases aH: (im s.aL (iC s)).2.2
  ·simp
  ·obtain⟨h1,ad⟩:=aas h (rv aQ);obtain⟨_,hle,aA,aG⟩:=RR h.aL aH;right;refine⟨h1,ad,hle,?_⟩;rw[aA,aG];rfl
 simp
theorem amh(h:c2 s)(au:fW s)(an:s.prop≠ []):c2 (nn s)/\fW (nn s)/\(nn s).view=s.view/\(nn s).self=s.self:=by
 rcases R1 h with e| ⟨h1,ad,aN,e⟩
 ·grind
 ·rw[e];obtain⟨cH,a2,a3,a4,_⟩:=Em (LU h an h1 ad aN);exact⟨cH,a2,a3,a4⟩
theorem R2(h:c2 s):0<=kU s/\kU s<=1099511627776:=by
 have aQ:=h.ba;have h1:=h.eL;unfold kU;rw[dQ (by omega) (by omega)];split<;>omega
theorem LV(h:c2 s){w:Int}(aQ:0<=w)(h1:w<=1099511627776):c2 {s with cD:=w}:=
 ⟨h.v,h.self,aQ,h1,h.aL,h.cc,h.ip,h.gT,h.prop,h.c4,h.dec,h.box,h.own,h.bu,h.ra,h.aM,h.n8,h.aC,h.h7⟩
theorem R3(h:c2 s)(au:fW s):c2 (gK s)/\fW (gK s)/\(gK s).view=s.view/\(gK s).self=s.self:=by
 have hw:=R2 h;have h1:=LV h hw.1 hw.2;unfold gK;by_cases eK:decide (0<(s.prop.length:Int))=true
 ·rw[b3 eK];by_cases jj:rY s=true
  ·rw[b3 jj];exact amh h1 au (rb.1 eK)
  ·rw[bm jj];exact⟨h1,au,rfl,rfl⟩
 grind
theorem Er(h:c2 s)(au:fW s):rZ s (cN s):=by
 have ac:fI s=true:=(rd s).2 ⟨h,au⟩;unfold cN;rw[bm (by grind)];by_cases cm:decide (0<(s.dec.length:Int))=true
 ·rw[b3 cm];refine⟨h,au,rfl,rfl,λp an=> ?_⟩;rcases eJ.1 an with rfl;exact RX h (zx h.dec (rb.1 cm))
 ·rw[bm cm];obtain⟨cH,a2,a3,a4⟩:=R3 h au;refine LQ (x:=(gK s,hE (gK s))) ⟨cH,a2,a3,a4,λp an=> ?_⟩;have:=ame cH p an;exact⟨by rw[<-a3];exact this.pS,by rw[<-a4];exact this.src,by rw[<-a4];exact this.lP,by rw[<-a3];exact this.dd⟩
theorem R4(h:c2 s)(an:s.prop=[]):∀b∈s.box,b.mem≠s.self:=λb ac he=>by
 have h1:=(BC h.v h.box).1 h.own b ac he;rw[an]at h1;exact wL (((tU h.v).1 h.box).1 b ac).2 h1
theorem LW(h:c2 s)(au:fW s){cut:List Int}(cy: (eH s cut).2.2=0):s.prop=[]/\s.dec=[]/\ga s.view cut=true/\
  (((oJ s.aL cut).2=true/\s.aL.cc=0/\s.aL.aC= -1/\hX s.view (iB s.box ⟨s.self,cut⟩)=true/\((eH s cut).1,(eH s cut).2.1)=dk {s with prop:=cut,cD:=0,aL:=⟨0,0,cut⟩,box:=iB s.box ⟨s.self,cut⟩} [eC s 0 1 0 0 cut])\/
   ((oJ s.aL cut).2=false/\((eH s cut).1,(eH s cut).2.1)=dk {s with prop:=cut,cD:=0} [])):=by
 have ac:fI s=true:=(rd s).2 ⟨h,au⟩;unfold eH at cy⊢;cases h1: !fI s|| !ga s.view cut
 ·rw[h1,bD]at cy;rw[bD];simp only[iW,mw]at h1;cases ad:decide (0<(s.prop.length:Int))||decide (0<(s.dec.length:Int))
  ·rw[bD];rw[iW]at ad;have an:=RT.1 ad.1;refine⟨an,RT.1 ad.2,h1.2,?_⟩;cases ab: (oJ s.aL cut).2
   ·simp
   ·left;obtain⟨eW,hc,v3,v4⟩:=alX h.aL ab;have aV:=R4 h an;have al:h6 s.view s.box ⟨s.self,cut⟩=(iB s.box ⟨s.self,cut⟩,0):=by
     unfold h6;have aN:decide (0<=lf s.box s.self)=false:=by
      cases bs:decide (0<=lf s.box s.self)
      ·rfl
      ·obtain⟨b,ac,he⟩:=ZC bs
       grind
     simp only[h.box,h1.2,h.self,aN];rfl
    refine⟨rfl,eW,hc,aaq h.v h.box h1.2 h.self aV,?_⟩
    grind
  grind
 grind
theorem R5(h:c2 s)(au:fW s){cut:List Int}(cy: (eH s cut).2.2=0):rZ s ((eH s cut).1,(eH s cut).2.1):=by
 obtain⟨an,aa,al,tZ⟩:=LW h au cy;have aQ:s.phase=0/\s.bu=[]/\s.c4=[]:=by
  rcases h.h7 with aQ|aQ;all_goals grind
 have aV:=R4 h an;have rW:∀t:bi,t.phase=s.phase->fW t:=λt cI e=>by
  omega
 rcases tZ with⟨_,fl,ff,ac,e⟩| ⟨_,e⟩
 ·rw[e];have ai:c2 {s with prop:=cut,cD:=0,aL:=⟨0,0,cut⟩,box:=iB s.box ⟨s.self,cut⟩}:=⟨h.v,h.self,k0 _,(by simp),(xW _).2 ⟨.inl rfl,k0 _,.inr ⟨.inl rfl,by simp,x2 (fC al)⟩⟩,(λe=>absurd rfl e),(λe=>absurd e (Fi _)),n5.2 (.inr al),n5.2 (.inr al),h.c4,h.dec,ac,(BC h.v ac).2 (λb gG he=>by
   rcases zp gG with rfl|gG;all_goals grind),h.bu,h.ra,h.aM,h.n8,h.aC,.inl aQ⟩
  refine LQ (x:=({s with prop:=cut,cD:=0,aL:=⟨0,0,cut⟩,box:=iB s.box ⟨s.self,cut⟩},[eC s 0 1 0 0 cut])) ⟨ai,rW _ rfl,rfl,rfl,λp iN=> ?_⟩;rcases eJ.1 iN with rfl;exact aak h al
 ·rw[e];have ai:c2 {s with prop:=cut,cD:=0}:=⟨h.v,h.self,k0 _,(by simp),h.aL,h.cc,h.ip,h.gT,n5.2 (.inr al),h.c4,h.dec,h.box,(BC h.v h.box).2 (λb gG he=>absurd he (aV b gG)),h.bu,h.ra,h.aM,h.n8,h.aC,.inl aQ⟩
  exact LQ (x:=({s with prop:=cut,cD:=0},[])) ⟨ai,rW _ rfl,rfl,rfl,by simp⟩
theorem aat:ez gf:=ali (bZ _) (bZ _) (bZ _) (bZ _) (λb ac=>by cases ac) rfl (bZ _) rfl (bZ _)
theorem aau{α:Type} [DecidableEq α]{m k S:List α}(az:m.Nodup)(hk:k.Nodup)(BD:∀x∈m,x∈S)(xn:∀x∈k,x∈S):m.length+k.length<=S.length+(k.filter λx=>decide (x∈m)).length:=by
 have h1: (m++k.filter λx=> !decide (x∈m)).Nodup:=by
  grind
 have ad:=wK h1 (b:=S) (λx ag=>by
  grind)
 rw[fw]at ad;have aN:∀l:List α,(l.filter λx=>decide (x∈m)).length+(l.filter λx=> !decide (x∈m)).length=l.length:=λl=>by
  induction l with
  |nil=>rfl
  |cons x l a1=>
   grind
 grind
theorem aav{α:Type} [DecidableEq α]{m k S:List α}(az:m.Nodup)(hk:k.Nodup)(BD:∀x∈m,x∈S)(xn:∀x∈k,x∈S)(h:S.length<m.length+k.length):∃x,x∈m/\x∈k:=by
 have:=aau az hk BD xn;obtain⟨x,ag⟩:=Fo (l:=k.filter λx=>decide (x∈m)) (by omega)
 grind
theorem aaw{α β:Type}(f:α->β)(p:β->Bool):∀l:List α,((l.map f).filter p).length=(l.filter λx=>p (f x)).length
 | []=>rfl
 |x::l=>by
  rw[oi,Ab,Ab];have a1:=aaw f p l;cases p (f x)<;>simp[a1]
theorem aax{α:Type}{p q:α->Bool}:∀ {l:List α},(∀x∈l,p x=true->q x=true)->(l.filter p).length<=(l.filter q).length
 | [],_=>bS _
 |x::l,h=>by
  have a1:=aax (p:=p) (q:=q) (l:=l) (λy bk=>h y (Fs _ bk))
  grind
structure e3 where
 V:Int->List Int->Prop
 A:Int->Int->List Int->Prop
 C:Int->List Int->Prop
 P:List Int->Prop
 cc:Int->Int
structure Es(g:e3)(a r cU:Int)(cut:List Int):Prop where
 cc:r<=g.cc a
 le:cU<=r
 none:cU= -1->∀c,¬g.V a c
 zero:cU=0->g.V a cut
 pos:0<cU->g.A a cU cut
 re:∀eY c,g.A a eY c->eY<r->eY<=cU
def Hz(v:aK)(g:e3)(r:Int)(c:List Int):Prop:=
 ∃l:List cg,(l.map (·.mem)).Nodup/\(∀x∈l,x.mem∈v.mem/\Es g x.mem r x.aC x.cut/\x.aC<r/\(x.aC= -1\/0<=x.aC))/\v.mem.length/2+1<=l.length/\
  ((∃x∈l,0<x.aC/\c=x.cut/\∀y∈l,y.aC<=x.aC)\/
   (∀x∈l,x.aC<=0)/\∀y:List Int,v.mem.length- (v.mem.length-1)/4+l.length<=v.mem.length+(l.filter λr=>decide (r.aC=0)&&decide (r.cut=y)).length->c=y)
structure kD(v:aK)(g:e3):Prop where
 eW:∀a c fD,g.V a c->g.V a fD->c=fD
 hc:∀a c,g.V a c->g.P c
 cH:∀a r c,g.A a r c->g.C r c/\r<=g.cc a
 fJ:∀r c fD,g.C r c->g.C r fD->c=fD
 eP:∀r c,g.C r c->0<r/\Hz v g r c/\g.P c
structure aay(v:aK)(m:List Int):Prop where
 Gk:m.Nodup
 sub:∀x∈m,x∈v.mem
def LX(v:aK)(g:e3)(r:Int)(c:List Int):Prop:=∃m,aay v m/\v.mem.length/2+1<=m.length/\∀a∈m,g.A a r c
def R6(v:aK)(g:e3)(c:List Int):Prop:=∃m,aay v m/\v.mem.length- (v.mem.length-1)/4<=m.length/\∀a∈m,g.V a c
def ua(v:aK)(g:e3)(c:List Int):Prop:=R6 v g c\/∃r,LX v g r c
section
variable {v:aK} {g:e3}
theorem HA{c:List Int}(h:LX v g r c):∃a,g.A a r c:=by
 obtain⟨m,_,af,bb⟩:=h;obtain⟨x,ag⟩:=Fo (l:=m) (by omega)
 grind
theorem aaz(b5:kD v g):∀ (N:Nat) (r eY:Int) (c fD:List Int),r.toNat<=N->g.C r c->LX v g eY fD->eY<r->c=fD:=by
 intro N;induction N with
 |zero=>
  intro r eY c fD js il _ _;have:=(b5.eP r c il).1;omega
 |succ N a1=>
  intro r eY c fD js il cT aB;obtain⟨ao,⟨l,ih,af,LY,Et⟩,_⟩:=b5.eP r c il;obtain⟨a0,Eu⟩:=HA cT;have HB:=(b5.cH _ _ _ Eu).1;have mb:=(b5.eP _ _ HB).1;have ami:=cT;obtain⟨m,bX,az,ai⟩:=ami;obtain⟨y,nZ,nD⟩:=aav bX.Gk ih bX.sub (λx ag=>by
   grind) (by grind)
  obtain⟨z,bt,rfl⟩:=fr.1 nD;have auT:=(af z bt).2.1.re eY fD (ai _ nZ) aB;rcases Et with⟨x,ag,nL,yP,LZ⟩| ⟨hle,_⟩
  ·have R7:=(af x ag).2.1.pos nL;have R8:=(b5.cH _ _ _ R7).1;have yW:=(af x ag).2.2.1;have auU:=LZ z bt;rw[yP];rcases NK (show eY<=x.aC by omega)with h1|h1
   ·exact a1 x.aC eY x.cut fD (by omega) R8 cT h1
   ·subst h1;exact b5.fJ _ _ _ R8 HB
  grind
theorem amj(b5:kD v g){y:List Int}(eZ:R6 v g y):∀ (N:Nat) (r:Int) (c:List Int),r.toNat<=N->g.C r c->c=y:=by
 intro N;induction N with
 |zero=>
  intro r c js il;have:=(b5.eP r c il).1;omega
 |succ N a1=>
  intro r c js il;obtain⟨ao,⟨l,ih,af,LY,Et⟩,_⟩:=b5.eP r c il;rcases Et with⟨x,ag,nL,yP,LZ⟩| ⟨hle,cF⟩
  ·have R7:=(af x ag).2.1.pos nL;have R8:=(b5.cH _ _ _ R7).1
   grind
  ·obtain⟨m,bX,az,rO⟩:=eZ;refine cF y ?_;have h1:=aau bX.Gk ih bX.sub (λx ag=>by
    grind)
   rw[aaw,bL]at h1;have ad:=aax (l:=l) (p:=λx=>decide (x.mem∈m)) (q:=λr=>decide (r.aC=0)&&decide (r.cut=y)) (λx ag an=>by
    have an:=fC an;have ab:=rO _ an;obtain⟨_,gP,_,bs⟩:=af x ag;have cm:=hle x ag;rcases bs with bs|bs
    ·exact absurd ab (gP.none bs y)
    ·have eK:x.aC=0:=by omega
     rw[cq];exact⟨e4 eK,e4 (b5.eW _ _ _ (gP.zero eK) ab)⟩)
   omega
theorem amk(aV:1<=v.mem.length)(b5:kD v g){y qU:List Int}(h:ua v g y)(bp:ua v g qU):y=qU:=by
 have key:∀ {y qU:List Int} {r:Int},R6 v g y->LX v g r qU->y=qU:=λ{y qU r} eZ cT=>by
  obtain⟨a,bb⟩:=HA cT;exact(amj b5 eZ _ r qU (bS _) (b5.cH _ _ _ bb).1).symm
 rcases h with eZ| ⟨r,cT⟩
 ·rcases bp with za| ⟨eY,AP⟩
  ·obtain⟨m,bX,az,rO⟩:=eZ;obtain⟨k,y6,hk,aml⟩:=za;obtain⟨x,Br,lS⟩:=aav bX.Gk y6.Gk bX.sub y6.sub (by omega);exact b5.eW _ _ _ (rO x Br) (aml x lS)
  grind
 ·rcases bp with za| ⟨eY,AP⟩
  ·grind
  ·obtain⟨a,bb⟩:=HA cT;obtain⟨y4,HC⟩:=HA AP;have il:=(b5.cH _ _ _ bb).1;have HB:=(b5.cH _ _ _ HC).1;rcases Int.lt_trichotomy r eY with aB|he|aB
   ·exact(aaz b5 _ eY r qU y (bS _) HB cT aB).symm
   ·subst he;exact b5.fJ _ _ _ il HB
   ·exact aaz b5 _ r eY y qU (bS _) il AP aB
theorem HD(aV:1<=v.mem.length)(b5:kD v g){y:List Int}(h:ua v g y):g.P y:=by
 rcases h with⟨m,bX,az,rO⟩| ⟨r,cT⟩
 ·obtain⟨x,ag⟩:=Fo (l:=m) (by omega);exact b5.hc _ _ (rO x ag)
 ·obtain⟨a,bb⟩:=HA cT;exact(b5.eP _ _ (b5.cH _ _ _ bb).1).2.2
end
structure rf(g dV:e3):Prop where
 v:∀a c,g.V a c->dV.V a c
 a:∀a r c,g.A a r c->dV.A a r c
 c:∀r c,g.C r c->dV.C r c
 p:∀c,g.P c->dV.P c
 cc:∀a,g.cc a<=dV.cc a
 vc:∀a c,dV.V a c->g.V a c\/g.cc a<=0
 zz:∀a r c,dV.A a r c->g.A a r c\/g.cc a<=r
theorem amm(g:e3):rf g g:=⟨λ_ _ h=>h,λ_ _ _ h=>h,λ_ _ h=>h,λ_ h=>h,λ_=>k0 _,λ_ _ h=>.inl h,λ_ _ _ h=>.inl h⟩
variable{g dV:e3}
theorem amn{HE:e3}(h:rf g dV)(bp:rf dV HE):rf g HE:=
 ⟨λa c x=>bp.v a c (h.v a c x),λa r c x=>bp.a a r c (h.a a r c x),λr c x=>bp.c r c (h.c r c x),λc x=>bp.p c (h.p c x),λa=>w0 (h.cc a) (bp.cc a),λa c x=>by
  rcases bp.vc a c x with x|x
  ·exact h.vc a c x
  ·exact .inr (w0 (h.cc a) x),λa r c x=>by
  rcases bp.zz a r c x with x|x
  ·exact h.zz a r c x
  ·exact .inr (w0 (h.cc a) x)⟩
theorem HF(h:rf g dV){a r cU:Int}{cut:List Int}(ao:0<r)(q:Es g a r cU cut):Es dV a r cU cut:=
 ⟨w0 q.cc (h.cc a),q.le,λe c x=>by
  rcases h.vc a c x with x|x
  ·exact q.none e c x
  ·have:=q.cc;omega,λe=>h.v _ _ (q.zero e),λe=>h.a _ _ _ (q.pos e),λeY c x aB=>by
  rcases h.zz a eY c x with x|x
  ·exact q.re eY c x aB
  ·have:=q.cc;omega⟩
theorem Ev(h:rf g dV){r:Int}{c:List Int}(ao:0<r)(q:Hz v g r c):Hz v dV r c:=by
 obtain⟨l,h1,ad,aN,bs⟩:=q;exact⟨l,h1,λx ag=>⟨(ad x ag).1,HF h ao (ad x ag).2.1,(ad x ag).2.2⟩,aN,bs⟩
theorem BE(h:rf g dV){c:List Int}(aa:ua v g c):ua v dV c:=by
 rcases aa with⟨m,bX,az,rO⟩| ⟨r,m,bX,az,ai⟩
 ·exact .inl ⟨m,bX,az,λa bb=>h.v _ _ (rO a bb)⟩
 ·exact .inr ⟨r,m,bX,az,λa bb=>h.a _ _ _ (ai a bb)⟩
structure r0(a:Int)(g dV:e3):Prop where
 ext:rf g dV
 cc:∀b,b≠a->dV.cc b=g.cc b
 vc:∀b c,b≠a->dV.V b c->g.V b c
 zz:∀b r c,b≠a->dV.A b r c->g.A b r c
 cb:∀r c,dV.C r c->g.C r c\/h5 r=a
theorem zA(a:Int)(g:e3):r0 a g g:=⟨amm g,λ_ _=>rfl,λ_ _ _ h=>h,λ_ _ _ _ h=>h,λ_ _ h=>.inl h⟩
theorem HG{HE:e3}(h:r0 a g dV)(bp:r0 a dV HE):r0 a g HE:=
 ⟨amn h.ext bp.ext,λb ac=>(bp.cc b ac).trans (h.cc b ac),λb c ac x=>h.vc b c ac (bp.vc b c ac x),λb r c ac x=>h.zz b r c ac (bp.zz b r c ac x),λr c x=>by
  rcases bp.cb r c x with x|x
  ·exact h.cb r c x
  omega⟩
section
variable {v:aK} {g:e3} {a r:Int} {c:List Int}
def L2(g:e3)(a:Int)(c:List Int):e3:={g with V:=λb d=>g.V b d\/(b=a/\d=c)}
theorem amo(b5:kD v g)(an:g.cc a<=0)(ab:∀d,¬g.V a d)(df:g.P c):kD v (L2 g a c)/\r0 a g (L2 g a c):=by
 have cP:rf g (L2 g a c):=⟨λ_ _ h=>.inl h,λ_ _ _ h=>h,λ_ _ h=>h,λ_ h=>h,λ_=>k0 _,λb d h=>by
  rcases h with h| ⟨rfl,rfl⟩;all_goals grind,λ_ _ _ h=>.inl h⟩
 refine⟨⟨λb d ck h bp=> ?_,λb d h=> ?_,b5.cH,b5.fJ,λr d h=>⟨(b5.eP r d h).1,Ev cP (b5.eP r d h).1 (b5.eP r d h).2.1,(b5.eP r d h).2.2⟩⟩,⟨cP,λ_ _=>rfl,λb d ac h=> ?_,λ_ _ _ _ h=>h,λ_ _ h=>.inl h⟩⟩
 ·rcases h with h| ⟨rfl,rfl⟩
  ·rcases bp with bp| ⟨rfl,rfl⟩
   ·exact b5.eW _ _ _ h bp
   grind
  ·rcases bp with bp| ⟨_,rfl⟩;all_goals grind
 ·rcases h with h| ⟨rfl,rfl⟩
  ·exact b5.hc _ _ h
  ·exact df
 ·rcases h with h| ⟨rfl,rfl⟩;all_goals omega
def BF(g:e3)(a r:Int):e3:={g with cc:=λb=>if b=a then r else g.cc b}
theorem aaA(g:e3)(a r:Int): (BF g a r).cc a=r:=b3 rfl
theorem aaB(hle:g.cc a<=r):rf g (BF g a r):=⟨λ_ _ h=>h,λ_ _ _ h=>h,λ_ _ h=>h,λ_ h=>h,λb=>by
 show g.cc b<=if b=a then r else g.cc b
 grind,λ_ _ h=>.inl h,λ_ _ _ h=>.inl h⟩
theorem aaC(b5:kD v g)(hle:g.cc a<=r):kD v (BF g a r)/\r0 a g (BF g a r):=by
 have cP:=aaB (g:=g) hle;exact⟨⟨b5.eW,b5.hc,λb q d h=>⟨(b5.cH b q d h).1,w0 (b5.cH b q d h).2 (cP.cc b)⟩,b5.fJ,λq d h=>⟨(b5.eP q d h).1,Ev cP (b5.eP q d h).1 (b5.eP q d h).2.1,(b5.eP q d h).2.2⟩⟩,
  ⟨cP,λb ac=>bm ac,λ_ _ _ h=>h,λ_ _ _ _ h=>h,λ_ _ h=>.inl h⟩⟩
def L3(g:e3)(r:Int)(c:List Int):e3:={g with C:=λq d=>g.C q d\/(q=r/\d=c)}
theorem amp(b5:kD v g)(ao:0<r)(aH:h5 r=a)(n0:∀d,¬g.C r d)(al:Hz v g r c)(df:g.P c):kD v (L3 g r c)/\r0 a g (L3 g r c):=by
 have cP:rf g (L3 g r c):=⟨λ_ _ h=>h,λ_ _ _ h=>h,λ_ _ h=>.inl h,λ_ h=>h,λ_=>k0 _,λ_ _ h=>.inl h,λ_ _ _ h=>.inl h⟩
 refine⟨⟨b5.eW,b5.hc,λb q d h=>⟨.inl (b5.cH b q d h).1,(b5.cH b q d h).2⟩,λq d ck h bp=> ?_,λq d h=> ?_⟩,⟨cP,λ_ _=>rfl,λ_ _ _ h=>h,λ_ _ _ _ h=>h,λq d h=> ?_⟩⟩
 ·rcases h with h| ⟨rfl,rfl⟩
  ·rcases bp with bp| ⟨rfl,rfl⟩
   ·exact b5.fJ _ _ _ h bp
   grind
  ·rcases bp with bp| ⟨_,rfl⟩;all_goals grind
 ·rcases h with h| ⟨rfl,rfl⟩
  ·exact⟨(b5.eP q d h).1,Ev cP (b5.eP q d h).1 (b5.eP q d h).2.1,(b5.eP q d h).2.2⟩
  ·exact⟨ao,Ev cP ao al,df⟩
 ·rcases h with h| ⟨rfl,rfl⟩;all_goals grind
def HH(g:e3)(a r:Int)(c:List Int):e3:={g with A:=λb q d=>g.A b q d\/(b=a/\q=r/\d=c),cc:=λb=>if b=a then r else g.cc b}
theorem aaD(b5:kD v g)(hle:g.cc a<=r)(il:g.C r c):kD v (HH g a r c)/\r0 a g (HH g a r c):=by
 have jZ:∀b,g.cc b<=(HH g a r c).cc b:=(aaB (g:=g) hle).cc;have cP:rf g (HH g a r c):=⟨λ_ _ h=>h,λ_ _ _ h=>.inl h,λ_ _ h=>h,λ_ h=>h,jZ,λ_ _ h=>.inl h,λb q d h=>by
  rcases h with h| ⟨rfl,rfl,rfl⟩;all_goals grind⟩
 refine⟨⟨b5.eW,b5.hc,λb q d h=> ?_,b5.fJ,λq d h=>⟨(b5.eP q d h).1,Ev cP (b5.eP q d h).1 (b5.eP q d h).2.1,(b5.eP q d h).2.2⟩⟩,⟨cP,λb ac=>bm ac,λ_ _ _ h=>h,λb q d ac h=> ?_,λ_ _ h=>.inl h⟩⟩
 ·rcases h with h| ⟨rfl,rfl,rfl⟩
  ·exact⟨(b5.cH b q d h).1,w0 (b5.cH b q d h).2 (jZ b)⟩
  ·refine⟨il,?_⟩;show q<=if b=b then q else g.cc b
   simp
 ·rcases h with h| ⟨rfl,rfl,rfl⟩;all_goals omega
def HI(g:e3)(c:List Int):e3:={g with P:=λd=>g.P d\/d=c}
theorem aaE(b5:kD v g)(a:Int):kD v (HI g c)/\r0 a g (HI g c):=by
 have cP:rf g (HI g c):=⟨λ_ _ h=>h,λ_ _ _ h=>h,λ_ _ h=>h,λ_ h=>.inl h,λ_=>k0 _,λ_ _ h=>.inl h,λ_ _ _ h=>.inl h⟩
 exact⟨⟨b5.eW,λb d h=>.inl (b5.hc b d h),b5.cH,b5.fJ,λq d h=>⟨(b5.eP q d h).1,Ev cP (b5.eP q d h).1 (b5.eP q d h).2.1,.inl (b5.eP q d h).2.2⟩⟩,
  ⟨cP,λ_ _=>rfl,λ_ _ _ h=>h,λ_ _ _ _ h=>h,λ_ _ h=>.inl h⟩⟩
end
theorem aaF(l:List cg):∀i,i<=l.length->∀j,(aq:j<l.length)->j<i->l[j].aC<=(l.getD (hW l i) dB).aC
 |0,_,j,_,h=>absurd h (Nat.not_lt_zero _)
 |i+1,hi,j,aq,sJ=>by
  have a1:=aaF l i (by omega);have aB:i<l.length:=by omega
  have ax:l.getD i dB=l[i]:=by grind
  rw[aky,ax]
  grind
def Ew(l:List cg)(y:List Int):Nat:=(l.filter λr=>decide (r.aC=0)&&decide (r.cut=y)).length
theorem aaG(l:List cg)(y:List Int):iH (fZ l) y=Ew l y:=by
 unfold iH fZ Ew;rw[List.filter_map,bL,List.filter_filter];congr 1;apply List.filter_congr;intro r _;show (iG r.cut y&&decide (r.aC=0))=_;rw[Bool.and_comm];congr 1;rw[NI,zc,fx]
theorem amq(ab:b2 v=true){l:List cg}(auV:l.length<=16){own:List Int}(aH:own≠ [])(aQ:q5 v l own=false):
  v.mem.length/2+1<=l.length/\
  ((∃r∈l,0<r.aC/\(gB v l own).1=r.cut/\∀eY∈l,eY.aC<=r.aC)\/
  (∀r∈l,r.aC<=0)/\∀y:List Int,v.mem.length- (v.mem.length-1)/4+l.length<=v.mem.length+(l.filter λr=>decide (r.aC=0)&&decide (r.cut=y)).length->(gB v l own).1=y):=by
 have aV:=sK ab;have ax:=aQ;simp only[q5,iW,mw,ib]at ax;obtain⟨⟨ao,az⟩,_⟩:=ax;rw[Lw ab]at az;have fF:=(Q4 aQ).1;have aB:=Q3 l fF;have wh:l.getD (hW l l.length) dB=l[hW l l.length]:=by grind
 have LZ:=aaF l l.length (bS _);refine⟨by omega,?_⟩;cases h1:decide (0<(l.getD (hW l l.length) dB).aC)with
 |true=>
  left;rw[Zx aQ h1];rw[wh]at h1 LZ⊢;refine⟨l[hW l l.length],eD aB,fC h1,rfl,λeY mb=> ?_⟩;obtain⟨j,aq,rfl⟩:=fv mb
  grind
 |false=>
  right;have Xv:=rv h1;refine⟨λr mb=> ?_,λy bk=> ?_⟩
  ·obtain⟨j,aq,rfl⟩:=fv mb
   grind
  ·have bk:v.mem.length- (v.mem.length-1)/4+l.length<=v.mem.length+Ew l y:=bk;have aaH:tT v l=((v.mem.length- (v.mem.length-1)/4:Nat):Int)+(l.length:Int)- (v.mem.length:Int):=by
    unfold tT;rw[Rl ab,dQ (n:=(((v.mem.length- (v.mem.length-1)/4:Nat):Int)+(l.length:Int))) (by omega) (by omega),dQ (by omega) (by omega)]
   cases au:l.find? (vh v l)with
   |none=>
    exfalso;have GJ:0<Ew l y:=by omega
    obtain⟨r,BG⟩:=Fo GJ;rw[ko,cq,fx,fx]at BG;have bX:=Ac.1 au r BG.1;refine bX ?_;unfold vh;rw[e4 BG.2.1,aaG,BG.2.2,rp,fx,aaH];omega
   |some r=>
    obtain⟨bX,i,hi,he,cF⟩:=I1.1 au;subst he;rw[Zw aQ h1 hi bX (λj aq sJ=>by grind)];show l[i].cut=y;simp only[vh,cq,fx,aaG,aaH]at bX;by_cases aaI:l[i].cut=y
    ·omega
    ·exfalso;have ad:=Rk (p:=λr:cg=>decide (r.aC=0)&&decide (r.cut=l[i].cut)) (q:=λr:cg=>decide (r.aC=0)&&decide (r.cut=y)) (λx an bX=>by
      grind) l
     have aN:Ew l l[i].cut+Ew l y<=l.length:=ad;omega
structure zB(g:e3)(a:Int)(aL:kz):Prop where
 cc:g.cc a=aL.cc
 neg:aL.aC= -1->∀c,¬g.V a c
 zero:aL.aC=0->g.V a aL.cut
 pos:0<aL.aC->g.A a aL.aC aL.cut
 re:∀r c,g.A a r c->r<=aL.aC
structure zC(v:aK)(g:e3)(s:bi):Prop where
 box:∀b∈s.box,g.V b.mem b.cut
 bu:s.phase=1->∀x∈s.bu,Es g x.mem s.aC x.aC x.cut
 rh:s.phase=1->∀c,¬g.C s.aC c
 pT:∀r c,g.C r c->h5 r=s.self->r<=s.aC
 c4:s.phase=2->g.A s.self s.aC s.c4
 aM:∀x∈s.aM,g.A x.mem x.aC x.cut
 dec:s.dec≠ []->ua v g s.dec
 prop:s.prop≠ []->g.P s.prop
structure kE(v:aK)(g:e3)(s:bi):Prop where
 jd:zB g s.self s.aL
 dO:zC v g s
structure qt(v:aK)(g:e3)(m:c1):Prop where
 cV:m.kind=1->g.V m.src m.cut
 hT:m.kind=3->Es g m.src m.aC m.cU m.cut
 hN:m.kind=4\/m.kind=5->g.A m.src m.aC m.cut
 qu:m.kind=6->ua v g m.cut
theorem amr{dV:e3}(h:rf g dV){m:c1}(ab:eG v m=true)(f:qt v g m):qt v dV m:=
 ⟨λk=>h.v _ _ (f.cV k),λk=>HF h (by
  have:=q9 (nK ((ph ab).2.2.1 k).1).1;omega) (f.hT k),λk=>h.a _ _ _ (f.hN k),λk=>BE h (f.qu k)⟩
theorem BH(h:c2 s)(an:s.phase=1\/s.phase=2):s.aC≠0/\s.prop≠ []/\0<s.aC/\h5 s.aC=s.self:=by
 have ad:s.aC≠0/\s.prop≠ []:=by
  rcases h.h7 with aQ|aQ;all_goals grind
 have:=q9 (nK (h.aC ad.1).1).1;exact⟨ad.1,ad.2,by omega,(h.aC ad.1).2⟩
theorem L4{dV:e3}{s:bi}(h:rf g dV)(il:∀r c,dV.C r c->g.C r c)(an:s.phase=1->0<s.aC)(q:zC v g s):zC v dV s:=
 ⟨λb ac=>h.v _ _ (q.box b ac),λp x ag=>HF h (an p) (q.bu p x ag),λp c x=>q.rh p c (il _ _ x),λr c x o=>q.pT r c (il _ _ x) o,λp=>h.a _ _ _ (q.c4 p),λx ag=>h.a _ _ _ (q.aM x ag),λp=>BE h (q.dec p),λp=>h.p _ (q.prop p)⟩
theorem ams{dV:e3}{s:bi}{a:Int}(ai:c2 s)(h:r0 a g dV)(bx:s.self≠a)(q:kE v g s):kE v dV s:=by
 obtain⟨⟨dc,dt,gy,ef,np⟩,q⟩:=q;refine⟨⟨(h.cc _ bx).trans dc,λe c x=>dt e c (h.vc _ _ bx x),λe=>h.ext.v _ _ (gy e),λe=>h.ext.a _ _ _ (ef e),λr c x=>np r c (h.zz _ _ _ bx x)⟩,?_⟩;refine⟨λb ac=>h.ext.v _ _ (q.box b ac),λp x ag=>HF h.ext (BH ai (.inl p)).2.2.1 (q.bu p x ag),λp c x=> ?_,λr c x o=> ?_,λp=>h.ext.a _ _ _ (q.c4 p),λx ag=>h.ext.a _ _ _ (q.aM x ag),λp=>BE h.ext (q.dec p),λp=>h.ext.p _ (q.prop p)⟩
 ·rcases h.cb _ _ x with x|x
  ·exact q.rh p c x
  ·exact bx ((BH ai (.inl p)).2.2.2.symm.trans x)
 ·rcases h.cb _ _ x with x|x
  ·exact q.pT r c x o
  omega
variable{aL:kz}
theorem aaJ(h:zB g a aL):zB (BF g a r) a ⟨r,aL.aC,aL.cut⟩:=⟨aaA g a r,h.neg,h.zero,h.pos,h.re⟩
theorem amt{c:List Int}(h:zB g a aL)(h1:aL.cc=0)(ad:aL.aC= -1):zB (L2 g a c) a ⟨0,0,c⟩:=
 ⟨h.cc.trans h1,(λe=>by
  grind),λ_=>.inr ⟨rfl,rfl⟩,(λe=>absurd e (Fi _)),λr d x=>by
  have:=h.re r d x
  grind⟩
theorem aaK{c:List Int}(h:zB g a aL)(ao:0<r)(hle:aL.aC<=r):zB (HH g a r c) a ⟨r,r,c⟩:=
 ⟨b3 rfl,(λe=>by
  grind),(λe=>by
  grind),λ_=>.inr ⟨rfl,rfl,rfl⟩,λq d x=>by
  show q<=r;rcases x with x| ⟨_,rfl,_⟩
  ·have:=h.re q d x;omega
  simp⟩
theorem R9{a:kz}(h:la a=true):a.aC<=a.cc:=((xW a).1 h).2.1
theorem aaL(h:zB g a aL)(ac:la aL=true)(hle:aL.cc<=r):Es (BF g a r) a r aL.aC aL.cut:=
 ⟨by rw[aaA];simp,w0 (R9 ac) hle,h.neg,h.zero,h.pos,λq d x _=>h.re q d x⟩
theorem aaM{s:bi}(q:zC v g s):zC v g (q7 s):=
 ⟨q.box,(λp=>by
  have p: (0:Int)=1:=p;omega),(λp=>by
  have p: (0:Int)=1:=p;omega),q.pT,(λp=>by
  have p: (0:Int)=2:=p;omega),q.aM,q.dec,q.prop⟩
theorem L5{s:bi}(q:zC v g s){r:cg}(ao:g.A r.mem r.aC r.cut):zC v g {s with aM:=fS s.view s.aM r}:=
 ⟨q.box,q.bu,q.rh,q.pT,q.c4,λx ag=>by
  rcases Ek ag with rfl|ag
  ·exact ao
  ·exact q.aM x ag,q.dec,q.prop⟩
theorem amu{s:bi}(ab:s.view=v)(ai:c2 s)(q:zC v g s)(aV:hh s≠ []):ua v g (hh s):=by
 subst ab;unfold hh at aV⊢;cases hw: (jx s.view s.box).2
 ·rw[hw,bD]at aV;rw[bD];unfold vj at aV⊢;rcases RY (l:=s.aM) (m:=fY s.view.mem.length) s.aM.length (bS _)with h| ⟨r,ao,h1,ad,aN⟩
  ·grind
  ·have an:=(q6 ai.v).1 ai.aM;rw[<-ad];rw[Lw ai.v]at aN;unfold oK at aN;rw[gn]at aN;refine .inr ⟨r.aC,(s.aM.filter λx=>decide (x.aC=r.aC)&&iG x.cut r.cut).map (·.mem),⟨?_,λx ag=> ?_⟩,by grind,λa bb=> ?_⟩
   ·unfold List.Nodup;rw[yu];exact(an.2.sublist CC).imp λh=>by omega
   ·obtain⟨z,bt,rfl⟩:=fr.1 ag;exact Ei (aaf (an.1 z (ko.1 bt).1))
   ·obtain⟨z,bt,rfl⟩:=fr.1 bb;obtain⟨Sa,HJ⟩:=ko.1 bt;rw[cq,fx,zc]at HJ;have:=q.aM z Sa
    grind
 ·rw[b6];unfold jx at hw⊢;have ac:=ai.box;rw[ac]at hw⊢;simp only[kZ,bD]at hw⊢;cases au:s.box.find? (λb=>decide (tR s.view.mem.length<=(iH s.box b.cut:Int)))with
  |none=>grind
  |some b=>
   have bX:=I2 au;simp only[fx]at bX;have an:=(tU ai.v).1 ac;rw[Rl ai.v]at bX;unfold iH at bX;refine .inl ⟨(s.box.filter λx=>iG x.cut b.cut).map (·.mem),⟨?_,λx ag=> ?_⟩,by grind,λa bb=> ?_⟩
   ·unfold List.Nodup;rw[yu];exact(an.2.sublist CC).imp λh=>by omega
   ·obtain⟨z,bt,rfl⟩:=fr.1 ag;exact Ei (an.1 z (ko.1 bt).1).1
   ·obtain⟨z,bt,rfl⟩:=fr.1 bb;obtain⟨Sa,HJ⟩:=ko.1 bt;have:=q.box z Sa;rw[zc.1 HJ]at this;omega
theorem amv{s:bi}(ab:s.view=v)(ai:c2 s)(q:kE v g s){aZ:List dN}(an:∀p∈aZ,qt v g p.m):kE v g (dk s aZ).1/\∀p∈ (dk s aZ).2,qt v g p.m:=by
 unfold dk;cases al:decide ((s.dec.length:Int)=0)&&decide (0<((hh s).length:Int))
 ·grind
 ·rw[cq]at al;have aa:=amu ab ai q.dO (rb.1 al.2);refine⟨⟨q.jd,⟨q.dO.box,q.dO.bu,q.dO.rh,q.dO.pT,q.dO.c4,q.dO.aM,λ_=>aa,q.dO.prop⟩⟩,λp ag=> ?_⟩;simp only[b6]at ag;rcases eb.1 ag with ag|ag
  ·grind
  ·rw[eJ.1 ag];exact⟨λk=>by
    have k: (6:Int)=1:=k;omega,λk=>by
    have k: (6:Int)=3:=k;omega,λk=>by
    have k: (6:Int)=4\/(6:Int)=5:=k;omega,λ_=>aa⟩
def pU(v:aK)(g:e3)(s:bi)(x:bi×List dN):Prop:=∃dV,kD v dV/\r0 s.self g dV/\(∀c,dV.P c->g.P c)/\kE v dV x.1/\∀p∈x.2,qt v dV p.m
theorem ri{s:bi}{x:bi×List dN}(b5:kD v g)(q:kE v g x.1)(an:∀p∈x.2,qt v g p.m):pU v g s x:=⟨g,b5,zA _ _,λ_ h=>h,q,an⟩
theorem sP:∀p∈ ([]:List dN),qt v g p.m:=λp an=>by cases an
theorem L6{s:bi}{x:bi×List dN}(ab:x.1.view=v)(ai:c2 x.1)(h:pU v g s x):pU v g s (dk x.1 x.2):=by
 obtain⟨dV,h1,ad,aN,bs,cm⟩:=h;obtain⟨eK,jj⟩:=amv ab ai bs cm;exact⟨dV,h1,ad,aN,eK,jj⟩
theorem aaN{s:bi}(b5:kD v g)(ai:c2 s)(ab:s.view=v)(q:kE v g s):pU v g s (gx s,[]):=by
 rcases RV ai with⟨_,e⟩| ⟨h1,ax,jZ,lg,_,⟨bb,e⟩| ⟨bb,e⟩⟩
 ·rw[e];exact ri b5 q sP
 ·obtain⟨RW,_,tX,amw⟩:=BH ai (.inl h1);obtain⟨LY,Et⟩:=amq ai.v (rX ai.bu) jZ ax;obtain⟨_,hle,_,_,_⟩:=LM ai.aL bb;obtain⟨_,AN⟩:=aaa ax jZ;have df:g.P (gB s.view s.bu s.prop).1:=by
   rcases AN with AN| ⟨r,ao,aQ,AN⟩
   ·rw[AN];exact q.dO.prop jZ
   ·rw[AN];have gP:=q.dO.bu h1 r ao;rcases NK aQ with aQ|aQ
    ·exact(b5.eP _ _ (b5.cH _ _ _ (gP.pos aQ)).1).2.2
    ·exact b5.hc _ _ (gP.zero aQ.symm)
  rw[e];rw[ab]at LY Et df⊢;generalize il: (gB v s.bu s.prop).1=C at *;have an:=(q6 ai.v).1 ai.bu;have zw:Hz v g s.aC C:=by
   refine⟨s.bu,?_,λx ag=> ?_,LY,Et⟩
   ·grind
   ·have gP:=q.dO.bu h1 x ag;have al:=El (an.1 x ag);have az:=Ei (aaf (an.1 x ag));rw[ab]at az;refine⟨az,gP,?_,?_⟩
    ·have ad:=gP.le;by_cases aN:x.aC=s.aC
     ·have:=(b5.cH _ _ _ (gP.pos (by omega))).1;rw[aN]at this;exact absurd this (q.dO.rh h1 _)
     ·omega
    ·rcases al with al| ⟨al|al,_⟩
     ·omega
     ·omega
     ·have:=q9 al;omega
  obtain⟨i1,gH⟩:=amp b5 tX amw (q.dO.rh h1) zw df;obtain⟨i2,s2⟩:=aaD (a:=s.self) (r:=s.aC) (c:=C) i1 (by
   show g.cc s.self<=s.aC;rw[q.jd.cc];omega) (.inr ⟨rfl,rfl⟩)
  have wM:=(HG gH s2).ext;refine⟨_,i2,HG gH s2,λ_ h=>h,⟨aaK (g:=L3 g s.aC C) ⟨q.jd.cc,q.jd.neg,q.jd.zero,q.jd.pos,q.jd.re⟩ tX (w0 (R9 ai.aL) hle),?_⟩,sP⟩;refine⟨λb ac=>wM.v _ _ (q.dO.box b ac),(λp=>by
   grind),(λp=>by
   grind),λr c x o=> ?_,λ_=>.inr ⟨rfl,rfl,rfl⟩,λx ag=> ?_,λp=>BE wM (q.dO.dec p),λp=>wM.p _ (q.dO.prop p)⟩
  ·rcases x with x| ⟨rfl,_⟩
   ·exact q.dO.pT r c x o
   simp
  ·rcases Ek ag with rfl|ag
   ·exact .inr ⟨rfl,rfl,rfl⟩
   ·exact wM.a _ _ _ (q.dO.aM x ag)
 ·rw[e];exact ri b5 ⟨q.jd,aaM q.dO⟩ sP
theorem amx{s:bi}(b5:kD v g)(ai:c2 s)(q:kE v g s){m:c1}(f:qt v g m)(hk:m.kind=1):pU v g s (kg s m,[]):=by
 unfold kg;cases al:decide ((h6 s.view s.box ⟨m.src,m.cut⟩).2=0)
 ·exact ri b5 q sP
 ·have cm:=(aap (fC al)).2.2.2.2;rw[b6,cm];refine ri b5 ⟨q.jd,⟨λb ac=> ?_,q.dO.bu,q.dO.rh,q.dO.pT,q.dO.c4,q.dO.aM,q.dO.dec,q.dO.prop⟩⟩ sP;rcases zp ac with rfl|ac
  ·exact f.cV hk
  ·exact q.dO.box b ac
theorem amy{s:bi}(b5:kD v g)(ai:c2 s)(q:kE v g s){m:c1}(az:eG s.view m=true)(hk:m.kind=2):pU v g s (kS s m):=by
 have key:∀ (t:bi) (aZ:List dN) (b:Bool),pU v g s (t,aZ)->pU v g s ((bif b then q7 t else t),aZ):=λt aZ b h=>by
  cases b
  ·exact h
  ·obtain⟨dV,h1,ad,aN,bs,cm⟩:=h;exact⟨dV,h1,ad,aN,⟨bs.jd,aaM bs.dO⟩,cm⟩
 unfold kS;refine key _ _ _ ?_;cases aH: (im s.aL m.aC).2.2
 ·exact ri b5 q sP
 ·obtain⟨hu,hle,aA,aG⟩:=RR ai.aL aH;rw[aA,aG];obtain⟨i1,gH⟩:=aaC (a:=s.self) (r:=m.aC) b5 (by
   rw[q.jd.cc];omega)
  refine⟨_,i1,gH,λ_ h=>h,⟨aaJ q.jd,?_⟩,λp an=> ?_⟩
  ·have:=L4 gH.ext (λ_ _ h=>h) (λp=>(BH ai (.inl p)).2.2.1) q.dO;exact⟨this.box,this.bu,this.rh,this.pT,this.c4,this.aM,this.dec,this.prop⟩
  ·simp only[b6,eJ]at an;subst an;exact⟨λk=>by
    have k: (3:Int)=1:=k;omega,λ_=>aaL q.jd ai.aL hle,λk=>by
    have k: (3:Int)=4\/(3:Int)=5:=k;omega,λk=>by
    have k: (3:Int)=6:=k;omega⟩
theorem aaO(h:c2 s){m:c1}(az:eG s.view m=true)(hk:m.kind=3)(ac:s.phase=1):c2 {s with bu:=(fN s.view s.bu ⟨m.src,m.cU,m.cut⟩).1}:=by
 obtain⟨an,_,af⟩:=(ph az).2.2.1 hk;have mo:=h.h7;rw[ac]at mo;have mo:s.c4=[]/\s.aC≠0/\s.prop≠ []/\0<=eQ s.bu s.self:=by
  grind
 refine⟨h.v,h.self,h.ba,h.eL,h.aL,h.cc,h.ip,h.gT,h.prop,h.c4,h.dec,h.box,h.own,RI h.bu,λr ao aQ=> ?_,h.aM,h.n8,h.aC,.inr ⟨.inl ⟨ac,mo.1⟩,mo.2.1,mo.2.2.1,?_⟩⟩
 ·rcases Ej ao with rfl|ao
  ·grind
  ·exact h.ra r ao aQ
 ·obtain⟨r,ao,he⟩:=BA.1 mo.2.2.2;exact BA.2 ⟨r,Hx h.bu ao,he⟩
theorem amz{s:bi}(b5:kD v g)(ai:c2 s)(ab:s.view=v)(q:kE v g s){m:c1}(az:eG s.view m=true)(hk:m.kind=3)(f:qt v g m):pU v g s (kT s m):=by
 unfold kT;cases ac: !decide (s.phase=1)|| !decide (m.aC=s.aC)
 ·simp only[iW,mw,fx]at ac;have lh:=aaO ai az hk ac.1;have A7:kE v g {s with bu:=(fN s.view s.bu ⟨m.src,m.cU,m.cut⟩).1}:=⟨q.jd,q.dO.box,λp x ag=>by
   rcases Ej ag with rfl|ag
   ·have:=f.hT hk
    grind
   ·exact q.dO.bu p x ag,q.dO.rh,q.dO.pT,q.dO.c4,q.dO.aM,q.dO.dec,q.dO.prop⟩
  obtain⟨dV,h1,ad,aN,bs,_⟩:=aaN b5 lh ab A7;have ae:=(Em lh).2.2.2.1;generalize gx {s with bu:=(fN s.view s.bu ⟨m.src,m.cU,m.cut⟩).1}=T at *;refine⟨dV,h1,ad,aN,bs,λp an=> ?_⟩;simp only[bD]at an;cases al:decide (T.phase=2)
  ·grind
  ·rw[al]at an;simp only[b6,eJ]at an;subst an;exact⟨λk=>by
    have k: (4:Int)=1:=k;omega,λk=>by
    have k: (4:Int)=3:=k;omega,λ_=>bs.dO.c4 (fC al),λk=>by
    have k: (4:Int)=6:=k;omega⟩
 ·exact ri b5 q sP
theorem amA{s:bi}(b5:kD v g)(ai:c2 s)(q:kE v g s){m:c1}(az:eG s.view m=true)(hk:m.kind=4)(f:qt v g m):pU v g s (lW s m):=by
 have Sb:=f.hN (.inl hk);have fF:=q9 (nK ((ph az).2.2.2.1 hk).1).1;have dc:=L5 q.dO (r:=⟨m.src,m.aC,m.cut⟩) Sb;unfold lW;cases bb: (jc s.aL m.aC m.cut).2
 ·exact ri b5 ⟨q.jd,dc⟩ sP
 ·obtain⟨_,hle,_,e,_⟩:=LM ai.aL bb;rw[e];obtain⟨i2,s2⟩:=aaD (a:=s.self) (r:=m.aC) (c:=m.cut) b5 (by
   rw[q.jd.cc];omega) (b5.cH _ _ _ Sb).1
  have dt:=L4 s2.ext (λ_ _ h=>h) (λp=>(BH ai (.inl p)).2.2.1) q.dO;have gy:=L5 dt (r:=⟨m.src,m.aC,m.cut⟩) (s2.ext.a _ _ _ Sb);have ef:=L5 gy (r:=⟨s.self,m.aC,m.cut⟩) (.inr ⟨rfl,rfl,rfl⟩);refine⟨_,i2,s2,λ_ h=>h,⟨aaK q.jd (by omega) (w0 (R9 ai.aL) hle),⟨ef.box,ef.bu,ef.rh,ef.pT,ef.c4,ef.aM,ef.dec,ef.prop⟩⟩,λp an=> ?_⟩;simp only[b6,eJ]at an;subst an;exact⟨λk=>by
   have k: (5:Int)=1:=k;omega,λk=>by
   have k: (5:Int)=3:=k;omega,λ_=>.inr ⟨rfl,rfl,rfl⟩,λk=>by
   have k: (5:Int)=6:=k;omega⟩
theorem amB{s:bi}(b5:kD v g)(ai:c2 s)(ab:s.view=v)(q:kE v g s){m:c1}(az:eG s.view m=true)(f:qt v g m):pU v g s (e2 s m):=by
 unfold e2;rcases zv az with hk|hk|hk|hk|hk|hk
 ·rw[b3 hk];exact amx b5 ai q f hk
 ·rw[bm (by omega),b3 hk];exact amy b5 ai q az hk
 ·rw[bm (by omega),bm (by omega),b3 hk];exact amz b5 ai ab q az hk f
 ·rw[bm (by omega),bm (by omega),bm (by omega),b3 hk];exact amA b5 ai q az hk f
 ·rw[bm (by omega),bm (by omega),bm (by omega),bm (by omega),b3 hk];exact ri b5 ⟨q.jd,L5 q.dO (r:=⟨m.src,m.aC,m.cut⟩) (f.hN (.inr hk))⟩ sP
 ·rw[bm (by omega),bm (by omega),bm (by omega),bm (by omega),bm (by omega)];refine ri b5 ⟨q.jd,q.dO.box,q.dO.bu,q.dO.rh,q.dO.pT,q.dO.c4,q.dO.aM,λ_=>f.qu hk,q.dO.prop⟩ (λp an=> ?_);rw[eJ.1 an];exact⟨λk=>by
   have k: (6:Int)=1:=k;omega,λk=>by
   have k: (6:Int)=3:=k;omega,λk=>by
   have k: (6:Int)=4\/(6:Int)=5:=k;omega,λ_=>f.qu hk⟩
theorem aaP{s:bi}{dd:Int}{c:List Int}(aa:ua v g c):qt v g (eC s dd 6 0 0 c).m:=
 ⟨λk=>by
  have k: (6:Int)=1:=k;omega,λk=>by
  have k: (6:Int)=3:=k;omega,λk=>by
  have k: (6:Int)=4\/(6:Int)=5:=k;omega,λ_=>aa⟩
theorem L7{s:bi}(b5:kD v g)(ai:c2 s)(au:fW s)(ab:s.view=v)(q:kE v g s){m:c1}(az:eG v m=true)(ae:m.src≠s.self)(f:qt v g m): (dC s m).2.2=0/\pU v g s ((dC s m).1,(dC s m).2.1):=by
 have ac:fI s=true:=(rd s).2 ⟨ai,au⟩;have Ex:eG s.view m=true:=by grind
 unfold dC;rw[bm (by grind),bm (by rw[e4 (kC Ex).2];simp),bm (by grind)];by_cases cm:decide (0<(s.dec.length:Int))=true
 ·rw[b3 cm];refine⟨rfl,ri b5 q (λp an=> ?_)⟩;cases hk:decide (m.kind=6)
  ·simp only[hk,bD,eJ]at an;subst an;exact aaP (q.dO.dec (rb.1 cm))
  grind
 ·rw[bm cm];refine⟨rfl,L6 (x:=e2 s m) ?_ ?_ (amB b5 ai ab q Ex f)⟩
  ·rw[(RZ ai au Ex ae).2.2.1];exact ab
  ·exact(RZ ai au Ex ae).1
theorem Sc(h:jw r=true):r<1073741824:=by
 unfold jw h5 at h
 grind
theorem amC{p:Int}(ao:0<=r/\r<1073741824)(an:0<=p/\p<1073741824):∃M,IntKind.i64.wrap ((if IntKind.i64.wrap (r.tdiv 1024)<IntKind.i64.wrap (p.tdiv 1024)then IntKind.i64.wrap (p.tdiv 1024)else IntKind.i64.wrap (r.tdiv 1024))+1)=M+1/\r/1024<=M/\p/1024<=M:=by
 have aA:IntKind.i64.wrap (p.tdiv 1024)=p/1024:=by
  rw[UJ an.1];exact dQ (by omega) (by omega)
 have aG:IntKind.i64.wrap (r.tdiv 1024)=r/1024:=by
  rw[UJ ao.1];exact dQ (by omega) (by omega)
 rw[aA,aG];by_cases h:r/1024<p/1024
 ·rw[b3 h,dQ (by omega) (by omega)];exact⟨_,rfl,by omega,by omega⟩
 ·rw[bm h,dQ (by omega) (by omega)]
  simp_all
theorem amD(h:c2 s)(aV:iC s≠0):s.aC<iC s/\s.aL.cc<iC s:=by
 have amE:0<=s.aL.cc/\s.aL.cc<1073741824:=by
  by_cases aQ:s.aL.cc=0
  ·omega
  ·have:=Sc (nK (h.cc aQ)).1;have:=q9 (nK (h.cc aQ)).1;omega
 have QM:0<=s.aC/\s.aC<1073741824:=by
  by_cases aQ:s.aC=0
  ·omega
  ·have:=Sc (nK (h.aC aQ).1).1;have:=q9 (nK (h.aC aQ).1).1;omega
 obtain⟨M,e,h1,ad⟩:=amC QM amE;unfold iC at aV⊢;rw[e]at aV⊢;obtain⟨_,_,aN,_,cm,_⟩:=R0 aV;omega
theorem amF{s:bi}(b5:kD v g)(ai:c2 s)(ab:s.view=v)(an:s.prop≠ [])(q:kE v g s):pU v g s (nn s,[]):=by
 rcases R1 ai with e| ⟨h1,ad,aN,e⟩
 ·rw[e];exact ri b5 q sP
 ·rw[e];have fF:=q9 (nK h1).1;have uZ:=(amD ai (by omega)).1;obtain⟨i1,gH⟩:=aaC (a:=s.self) (r:=iC s) b5 (by
   rw[q.jd.cc];exact aN)
  have A7:kE v (BF g s.self (iC s)) (Ep s):=by
   refine⟨aaJ q.jd,λb ac=>gH.ext.v _ _ (q.dO.box b ac),λ_ x ag=> ?_,λ_ c x=> ?_,λr c x o=> ?_,(λp=>by
    have p: (1:Int)=2:=p;omega),λx ag=>gH.ext.a _ _ _ (q.dO.aM x ag),λp=>BE gH.ext (q.dO.dec p),λp=>gH.ext.p _ (q.dO.prop p)⟩
   ·rcases eJ.1 ag with rfl;exact aaL q.jd ai.aL aN
   ·have:iC s<=s.aC:=q.dO.pT _ _ x ad;omega
   ·have:=q.dO.pT _ _ x o;show r<=iC s;omega
  obtain⟨dV,bs,cm,eK,jj,Dm⟩:=aaN i1 (LU ai an h1 ad aN) ab A7;exact⟨dV,bs,HG gH cm,λc x=>eK c x,jj,Dm⟩
theorem aaQ{s:bi}{w:Int}(q:kE v g s):kE v g {s with cD:=w}:=⟨q.jd,q.dO.box,q.dO.bu,q.dO.rh,q.dO.pT,q.dO.c4,q.dO.aM,q.dO.dec,q.dO.prop⟩
theorem amG{s:bi}(b5:kD v g)(ai:c2 s)(ab:s.view=v)(q:kE v g s):pU v g s (gK s,[]):=by
 have hw:=R2 ai;have h1:=LV ai hw.1 hw.2;unfold gK;by_cases eK:decide (0<(s.prop.length:Int))=true
 ·rw[b3 eK];by_cases jj:rY s=true
  ·rw[b3 jj];exact amF b5 h1 ab (rb.1 eK) (aaQ q)
  ·rw[bm jj];exact ri b5 (aaQ q) sP
 ·rw[bm eK];exact ri b5 q sP
theorem amH{s:bi}(q:kE v g s):∀p∈hE s,qt v g p.m:=by
 intro p an;unfold hE at an;rw[eb,eb]at an;rcases an with(an|an)|an
 ·unfold x0 at an;cases al: (hY s.box s.self).2
  ·grind
  ·rw[al]at an;simp only[b6,eJ]at an;subst an;obtain⟨b,ac,az,he⟩:=LR al;have rO:=q.dO.box b ac;rw[az,he]at rO;exact⟨λ_=>rO,λk=>by
    have k: (1:Int)=3:=k;omega,λk=>by
    have k: (1:Int)=4\/(1:Int)=5:=k;omega,λk=>by
    have k: (1:Int)=6:=k;omega⟩
 ·unfold vl at an;cases h1:decide (s.phase=1)
  ·cases ad:decide (s.phase=2)
   ·grind
   ·rw[h1,ad]at an;simp only[b6,bD,eJ]at an;subst an;have ad:=fC ad;exact⟨λk=>by
     have k: (4:Int)=1:=k;omega,λk=>by
     have k: (4:Int)=3:=k;omega,λ_=>q.dO.c4 ad,λk=>by
     have k: (4:Int)=6:=k;omega⟩
  ·rw[h1]at an;simp only[b6,eJ]at an;subst an;exact⟨λk=>by
    have k: (2:Int)=1:=k;omega,λk=>by
    have k: (2:Int)=3:=k;omega,λk=>by
    have k: (2:Int)=4\/(2:Int)=5:=k;omega,λk=>by
    have k: (2:Int)=6:=k;omega⟩
 ·unfold x1 at an;cases ac:decide (0<=eQ s.aM s.self)&& !decide (s.phase=2)
  ·grind
  ·rw[ac]at an;simp only[b6,eJ]at an;subst an;have aQ:=((cq ..).mp ac).1;obtain⟨_,hk⟩:=zu aQ;have jm:=RK aQ;have az:s.aM.getD (eQ s.aM s.self).toNat dB∈s.aM:=by grind
   generalize s.aM.getD (eQ s.aM s.self).toNat dB=r at *;have bb:=q.dO.aM r az;rw[jm]at bb;exact⟨λk=>by
    have k: (5:Int)=1:=k;omega,λk=>by
    have k: (5:Int)=3:=k;omega,λ_=>bb,λk=>by
    have k: (5:Int)=6:=k;omega⟩
theorem amI{s:bi}(b5:kD v g)(ai:c2 s)(au:fW s)(ab:s.view=v)(q:kE v g s):pU v g s (cN s):=by
 have ac:fI s=true:=(rd s).2 ⟨ai,au⟩;unfold cN;rw[bm (by grind)];by_cases cm:decide (0<(s.dec.length:Int))=true
 ·rw[b3 cm];refine ri b5 q (λp an=> ?_);rw[eJ.1 an];exact aaP (q.dO.dec (rb.1 cm))
 ·rw[bm cm];obtain⟨cH,_,a3,_⟩:=R3 ai au;obtain⟨dV,h1,ad,aN,bs,_⟩:=amG b5 ai ab q;exact L6 (x:=(gK s,hE (gK s))) (a3.trans ab) cH ⟨dV,h1,ad,aN,bs,amH bs⟩
theorem amJ{s:bi}(b5:kD v g)(ai:c2 s)(au:fW s)(ab:s.view=v)(q:kE v g s){cut:List Int}(cy: (eH s cut).2.2=0):pU v (HI g cut) s ((eH s cut).1,(eH s cut).2.1):=by
 obtain⟨lC,e9⟩:=aaE (c:=cut) b5 s.self;have qv:kE v (HI g cut) s:=⟨⟨q.jd.cc,q.jd.neg,q.jd.zero,q.jd.pos,q.jd.re⟩,L4 e9.ext (λ_ _ h=>h) (λp=>(BH ai (.inl p)).2.2.1) q.dO⟩
 obtain⟨an,aa,al,tZ⟩:=LW ai au cy;have aV:=R4 ai an;rcases tZ with⟨_,fl,ff,ac,e⟩| ⟨_,e⟩
 ·rw[e];obtain⟨i1,gH⟩:=amo (a:=s.self) (c:=cut) lC (by
   rw[qv.jd.cc];omega) (qv.jd.neg ff) (.inr rfl)
  have dc:=L4 gH.ext (λ_ _ h=>h) (λp=>(BH ai (.inl p)).2.2.1) qv.dO;have aQ:s.phase=0/\s.bu=[]/\s.c4=[]:=by
   rcases ai.h7 with aQ|aQ;all_goals grind
  have lh:c2 {s with prop:=cut,cD:=0,aL:=⟨0,0,cut⟩,box:=iB s.box ⟨s.self,cut⟩}:=⟨ai.v,ai.self,k0 _,(by simp),(xW _).2 ⟨.inl rfl,k0 _,.inr ⟨.inl rfl,by simp,x2 (fC al)⟩⟩,(λe=>absurd rfl e),(λe=>absurd e (Fi _)),n5.2 (.inr al),n5.2 (.inr al),ai.c4,ai.dec,ac,(BC ai.v ac).2 (λb gG he=>by
   rcases zp gG with rfl|gG;all_goals grind),ai.bu,ai.ra,ai.aM,ai.n8,ai.aC,.inl aQ⟩
  refine L6 (x:=({s with prop:=cut,cD:=0,aL:=⟨0,0,cut⟩,box:=iB s.box ⟨s.self,cut⟩},[eC s 0 1 0 0 cut])) ab lh ⟨_,i1,gH,λ_ h=>h,⟨amt qv.jd fl ff,⟨λb gG=> ?_,dc.bu,dc.rh,dc.pT,dc.c4,dc.aM,dc.dec,λ_=>.inr rfl⟩⟩,λp iN=> ?_⟩
  ·rcases zp gG with rfl|gG
   ·exact .inr ⟨rfl,rfl⟩
   ·exact dc.box b gG
  ·rw[eJ.1 iN];exact⟨λ_=>.inr ⟨rfl,rfl⟩,λk=>by
    have k: (1:Int)=3:=k;omega,λk=>by
    have k: (1:Int)=4\/(1:Int)=5:=k;omega,λk=>by
    have k: (1:Int)=6:=k;omega⟩
 ·rw[e];have aQ:s.phase=0/\s.bu=[]/\s.c4=[]:=by
   rcases ai.h7 with aQ|aQ;all_goals grind
  have lh:c2 {s with prop:=cut,cD:=0}:=⟨ai.v,ai.self,k0 _,(by simp),ai.aL,ai.cc,ai.ip,ai.gT,n5.2 (.inr al),ai.c4,ai.dec,ai.box,(BC ai.v ai.box).2 (λb gG he=>absurd he (aV b gG)),ai.bu,ai.ra,ai.aM,ai.n8,ai.aC,.inl aQ⟩
  exact L6 (x:=({s with prop:=cut,cD:=0},[])) ab lh (ri lC ⟨qv.jd,⟨qv.dO.box,qv.dO.bu,qv.dO.rh,qv.dO.pT,qv.dO.c4,qv.dO.aM,qv.dO.dec,λ_=>.inr rfl⟩⟩ sP)
theorem L8(l cK:List Int)(an:cK.Perm l)(ae:cK.Pairwise λx y=>x<=y)(hlen:l.length<4611686018427387904):cj Tryz.prog 101 [.row 3 1 (l.map aU)] [.own 0] [true] [.row 3 1 (cK.map aU)] (.be []):=
 aim Tryz.pK rfl (enters_of Tryz.func101 (by rfl) rfl) l cK an ae hlen
theorem L9(l:List Int)(hlen:l.length<=9223372036854775807):cj Tryz.prog 102 [.row 3 1 (l.map aU)] [.own 0] [false] [.row 3 1 ((Go.Lib.compact l).map aU)] (.own 0):=
 aio Tryz.n2 rfl (enters_of Tryz.func102 (by rfl) rfl) l hlen
def pK(l:List Int):List Int:=l.mergeSort λx y=>decide (x<=y)
theorem wN(l:List Int): (pK l).Perm l:=NR _ _
theorem Ey(l:List Int): (pK l).Pairwise λx y=>x<=y:=by
 have h1:=NT (le:=λx y:Int=>decide (x<=y)) (λa b c h1 ad=>by grind) (λa b=>by grind) l;exact h1.imp λh=>by grind
def kh(l:List Int):List Int:=Go.Lib.compact (pK l)
theorem amK(l:List Int): (kh l).Pairwise λx y=>x<y:=(Yj (Ey l)).1
variable{l:List Int}
theorem HK{x:Int}:x∈kh l↔x∈l:=((Yj (Ey l)).2 x).trans (wN l).mem_iff
theorem BI(l:List Int): (kh l).length<=l.length:=by
 have h1:=Yh (pK l);have ad:=(wN l).length_eq;unfold kh;omega
theorem BJ{a b:List Int}(bb:a.Pairwise λx y=>x<y)(ac:b.Pairwise λx y=>x<y)(h:∀x,x∈a↔x∈b):a=b:=by
 have amL:a.Nodup:=bb.imp λ{x y} aaI he=>by omega
 have amM:b.Nodup:=ac.imp λ{x y} aaI he=>by omega
 have an:a.Perm b:=(List.perm_ext_iff_of_nodup amL amM).2 h;exact an.eq_of_pairwise (le:=λx y=>x<y) (λx y _ _ h1 ad=>by omega) bb ac
theorem amN(l:List bR)(af:l.length<=1000000):bq Tryz.prog 238 [.av 4 (l.map ey) false] (.av 1 ((kh (l.map (·.bG))).map aU) false):=by
 have HL:∀n,n<=2000000->kL ah 3 n:=λn h=>by
  have e: (aE ah 3).bytes=8:=by rfl
  refine⟨?_,?_⟩
  ·grind
  ·simp only[maxLen];omega
 have m1:=L8 (l.map (·.bG)) (pK (l.map (·.bG))) (wN _) (Ey _) (by grind);have m2:=L9 (pK (l.map (·.bG))) (by rw[(wN _).length_eq,bL];omega);refine cp (fn:=Tryz.f238) (c:=Tryz.f238.body.getD .skip) az aw (by rfl) Tryz.func238 (by rfl) (by rfl) (by rfl) (by rfl) ?_;repeat' ((conv=>whnf);first|refine bl ?_|fail)
 all_goals(conv=>whnf)
 refine⟨Nat,λi=>⟨[(3,.own 0),(6,.av 4 (l.map ey) false),(7,i64 l.length),(8,i64 i)],[.row 3 1 (((l.take i).map (·.bG)).map aU)]⟩,λi=>i<=l.length,λi=>l.length-i,[.h4 3 3 1],⟨0,bZ _,?_⟩,?_⟩
 ·conv=>whnf
  exact⟨⟨.r,.r,a8 (by simp),.r,aj⟩,⟨.r,aj⟩,by rfl⟩
 ·intro i hi;repeat' ((conv=>whnf);first| (apply bo<;>intro h)|fail)
  ·have aB:i<l.length:=by grind
   clear h;repeat' ((conv=>whnf);first|refine⟨_,_,aS ⟨rfl,du aB⟩ ?_⟩|refine aS (HL _ (by simp<;>omega)) ?_|fail)
   all_goals(conv=>whnf)
   refine⟨i+1,aB,by grind,?_⟩;conv=>whnf
   refine⟨⟨.r,.r,.r,a8 (ca (by omega)),aj⟩,⟨cM ?_,aj⟩,by rfl⟩;rw[fA aB,ew,ew];rfl
  ·have:i=l.length:=by
    grind
   subst this;rw[gn];repeat' ((conv=>whnf);first|exact .refl|refine .inr ⟨[0],bO m1 ?_⟩|refine .inr ⟨[0],bO m2 ?_⟩|fail)
def je(S:List bR)(x:Int):Nat:=zl S x S.length
theorem amO(S:List bR)(x:Int):je S x<=S.length:=Zb S x S.length
theorem Sd(S:List bR)(x:Int):je S x=S.countP λa=>decide (a.bG=x):=by rw[je,zl,gn]
def sQ(S:List bR)(x r:Int):Bool:=S.any λa=>decide (a.bG=x)&&decide (a.et=r)
def Ez(S:List bR)(R:List Int)(x:Int)(r:Nat):Bool:= !sQ S x (r:Nat)&&decide (2<=je S (R.getD r 0))
def vm(S:List bR)(R:List Int)(x:Int)(i:Nat):Nat:=(List.range i).countP (Ez S R x)
theorem amP(S:List bR)(R:List Int)(x:Int)(i:Nat):vm S R x (i+1)=vm S R x i+if Ez S R x i=true then 1 else 0:=by
 unfold vm;rw[CN,List.countP_append,List.countP_cons,List.countP_nil];simp
theorem aaR(S:List bR)(R:List Int)(x:Int)(i:Nat):vm S R x i<=i:=bT UM (by simp)
theorem amQ(v:aK)(ab:v.mem.length<=maxLen)(S:List bR)(af:S.length<=1000000)(x:Int):bq Tryz.prog 240 [.agg (cG v),.av 4 (S.map ey) false,i64 x] (i64 (vm S (cQ v.mem x) x (cQ v.mem x).length:Nat)):=by
 have aA:=K9 v.mem ab x;have cm:=zg v.mem x;have cJ:=amP S;have hle:=aaR S;generalize cQ v.mem x=R at *;refine cp (fn:=Tryz.f240) (c:=Tryz.f240.body.getD .skip) az aw (by rfl) Tryz.func240 (by rfl) (by rfl) (by rfl) (by rfl) ?_;repeat' ((conv=>whnf);first|refine aR aA ?_|fail)
 all_goals(conv=>whnf)
 refine⟨Nat,λi=>⟨[(1,.av 4 (S.map ey) false),(2,i64 x),(7,i64 (vm S R x i:Nat)),(15,.av 1 (R.map aU) false),(16,i64 R.length),(17,i64 i)],[.cells 24 (cG v)]⟩,λi=>i<=R.length,λi=>R.length-i,[],⟨0,bZ _,?_⟩,?_⟩
 ·conv=>whnf
  exact⟨⟨.r,.r,.r,.r,a8 (by simp),.r,aj⟩,⟨.r,aj⟩,by rfl⟩
 ·intro i hi;repeat' ((conv=>whnf);first| (apply bo<;>intro h)|fail)
  ·have aB:i<R.length:=by grind
   clear h;have ae:=cJ R x i;have qk:=hle R x i;have ax:R.getD i 0=R[i]:=by grind
   repeat' ((conv=>whnf);first|refine⟨_,_,aS ⟨rfl,du aB⟩ ?_⟩|fail)
   all_goals(conv=>whnf)
   refine⟨Nat,λj=>⟨[(1,.av 4 (S.map ey) false),(2,i64 x),(7,i64 (vm S R x i:Nat)),(8,i64 i),(9,i64 R[i]),(15,.av 1 (R.map aU) false),(16,i64 R.length),(17,i64 i),(22,.av 4 (S.map ey) false),(23,i64 S.length),(24,i64 j)],[.cells 24 (cG v)]⟩,λj=>j<=S.length/\((S.take j).any λa=>decide (a.bG=x)&&decide (a.et=(i:Nat)))=false,λj=>S.length-j,[],⟨0,⟨bZ _,by simp⟩,?_⟩,?_⟩
   ·conv=>whnf
    exact⟨⟨.r,.r,.r,.r,.r,.r,a8 (by simp),.r,.r,a8 (by simp),.r,aj⟩,⟨.r,aj⟩,by rfl⟩
   ·intro j ⟨aq,n0⟩;repeat' ((conv=>whnf);first| (apply bo<;>intro h)|fail)
    ·have iv:j<S.length:=by grind
     clear h;repeat' ((conv=>whnf);first|refine bl ?_| (apply bo<;>intro h)|refine dE ?_|refine⟨_,_,aS ⟨rfl,du iv⟩ ?_⟩|fail)
     all_goals(conv=>whnf)
     ·have amR:sQ S x (i:Nat)=true:=by
       unfold sQ
       grind
      have ac:Ez S R x i=false:=by
       unfold Ez
       grind
      rw[ac,bm (by simp),w6]at ae;refine⟨i+1,aB,by grind,?_⟩;conv=>whnf
      exact⟨⟨.r,.r,a8 (by omega),.r,.r,a8 (ca (by omega)),aj⟩,⟨.r,aj⟩,by rfl⟩
     ·refine⟨j+1,⟨iv,?_⟩,by grind,?_⟩
      ·rw[fA iv,List.any_append,n0,Cy]
       grind
      ·conv=>whnf
       exact⟨⟨.r,.r,.r,.r,.r,.r,.r,.r,.r,.r,a8 (ca (by omega)),aj⟩,⟨.r,aj⟩,by rfl⟩
    ·have:j=S.length:=by
      grind
     subst this;clear h;rw[gn]at n0;have amR:sQ S x (i:Nat)=false:=n0;have ac:Ez S R x i=decide (2<=je S R[i]):=by
      unfold Ez
      grind
     have j9:=Zc S af R[i];change bq _ _ _ (i64 (je S R[i]:Nat))at j9;repeat' ((conv=>whnf);first| (apply bo<;>intro h)|refine aR j9 ?_|fail)
     all_goals(conv=>whnf)
     ·rw[ac,b3 (e4 (by grind))]at ae;refine⟨i+1,aB,by grind,?_⟩;conv=>whnf
      refine⟨⟨.r,.r,a8 ?_,.r,.r,a8 (ca (by omega)),aj⟩,⟨.r,aj⟩,by rfl⟩;rw[ae,dQ (by omega) (by omega)];omega
     ·rw[ac,bm (by
       grind),w6]at ae
      refine⟨i+1,aB,by grind,?_⟩;conv=>whnf
      exact⟨⟨.r,.r,a8 (by omega),.r,.r,a8 (ca (by omega)),aj⟩,⟨.r,aj⟩,by rfl⟩
  ·have:i=R.length:=by
    grind
   subst this;repeat' ((conv=>whnf);first|exact .refl|fail)
structure Ma where
 bG:Int
 ub:Nat
 imp:Nat
def Se(t:Ma):List ak:=[i64 t.bG,i64 t.ub,i64 t.imp]
def uc(v:aK)(S:List bR)(x:Int):Ma:=⟨x,je S x,if 2<=je S x then vm S (cQ v.mem x) x (cQ v.mem x).length else 0⟩
def ud(v:aK)(S:List bR):List Ma:=bif !dG v S then []else(kh (S.map (·.bG))).map (uc v S)
theorem amS(h:n<=2000000):kL ah 267 n:=by
 have e: (aE ah 267).bytes=24:=by rfl
 refine⟨?_,?_⟩
 ·grind
 ·simp only[maxLen];omega
theorem amT{S:List bR}{x:Int}(h:¬2<=je S x):uc v S x= ⟨x,je S x,0⟩:=by
 unfold uc
 grind
theorem aaS{S:List bR}{x:Int}(h:2<=je S x):uc v S x= ⟨x,je S x,vm S (cQ v.mem x) x (cQ v.mem x).length⟩:=by
 unfold uc
 grind
theorem amU(v:aK)(ab:v.mem.length<=maxLen)(S:List bR)(af:S.length<=1000000):bq Tryz.prog 221 [.agg (cG v),.av 4 (S.map ey) false] (.av 3 ((ud v S).map Se) false):=by
 have aA:=D9 v ab S (by simp only[maxLen];omega);have aG:=amN S af;have zD:=BI (S.map (·.bG));rw[bL]at zD;have aa:ud v S=bif !dG v S then []else(kh (S.map (·.bG))).map (uc v S):=rfl;have o3:=λx h=>amT (v:=v) (S:=S) (x:=x) h;have qd:=λx h=>aaS (v:=v) (S:=S) (x:=x) h;have rH:=amQ v ab S af;generalize uc v S=amV at *;generalize kh (S.map (·.bG))=X at *;generalize ud v S=res at *;generalize dG v S=auW at *;refine cp (fn:=Tryz.f221) (c:=Tryz.f221.body.getD .skip) az aw (by rfl) Tryz.func221 (by rfl) (by rfl) (by rfl) (by rfl) ?_;repeat' ((conv=>whnf);first| (apply bo<;>intro h)|refine aR aA ?_|refine aR aG ?_|fail)
 all_goals(conv=>whnf)
 ·rw[aa,h];exact .ar
 ·rw[h,bD]at aa;clear h;subst aa;refine⟨Nat,λi=>⟨[(1,.av 4 (S.map ey) false),(2,.aW 0 0),(5,.own 1),(14,.av 1 (X.map aU) false),(15,i64 X.length),(16,i64 i)],[.cells 24 (cG v),.row 267 3 (((X.take i).map amV).map Se)]⟩,λi=>i<=X.length,λi=>X.length-i,[.h4 5 267 3],⟨0,bZ _,?_⟩,?_⟩
  ·conv=>whnf
   exact⟨⟨.r,.r,.r,.r,a8 (by simp),.r,aj⟩,⟨.r,.r,aj⟩,by rfl⟩
  ·intro i hi;repeat' ((conv=>whnf);first| (apply bo<;>intro h)|fail)
   ·have aB:i<X.length:=by grind
    clear h;have j9:=Zc S af X[i];have rH:=rH X[i];have o3:=o3 X[i];have qd:=qd X[i];change bq _ _ _ (i64 (je S X[i]:Nat))at j9;generalize vm S (cQ v.mem X[i]) X[i] (cQ v.mem X[i]).length=auX at *;generalize je S X[i]=auY at *;repeat' ((conv=>whnf);first| (apply bo<;>intro h)|refine⟨_,_,aS ⟨rfl,du aB⟩ ?_⟩|refine aR j9 ?_|refine aR rH ?_|refine aS (amS (by simp<;>omega)) ?_|fail)
    all_goals(conv=>whnf)
    all_goals refine⟨i+1,aB,by simp only[];omega,?_⟩
    all_goals(conv=>whnf)
    all_goals refine⟨⟨.r,.r,.r,.r,.r,a8 (ca (by omega)),aj⟩,⟨.r,cM ?_,aj⟩,by rfl⟩
    all_goals rw[fA aB,ew,ew,List.map_singleton,List.map_singleton]
    ·rw[qd (by grind)];rfl
    ·rw[o3 (by grind)];rfl
   ·have:i=X.length:=by
     grind
    subst this;rw[gn];repeat' ((conv=>whnf);first|exact .refl|fail)
def r1(b:Bool)(t:Ma):Bool:=decide (2<=t.ub)&& (decide (4<=t.ub+t.imp)==b)
def ev(v:aK)(S:List bR)(b:Bool):List Int:=((ud v S).filter (r1 b)).map (·.bG)
theorem aaT(v:aK)(S:List bR): (ud v S).length<=S.length/\∀t∈ud v S,t.ub<=S.length/\t.imp<=5:=by
 unfold ud;cases !dG v S
 ·rw[bD];have zD:=BI (S.map (·.bG));rw[bL]at zD;refine⟨by grind,λt cI=> ?_⟩;obtain⟨x,_,rfl⟩:=fr.1 cI;unfold uc;refine⟨amO S x,?_⟩;split
  ·exact bT (aaR ..) (zg v.mem x)
  simp
 simp
theorem aaU(v:aK)(ab:v.mem.length<=maxLen)(S:List bR)(af:S.length<=1000000)(b:Bool):bq Tryz.prog 184 [.agg (cG v),.av 4 (S.map ey) false,.v (.bool b)] (.av 1 ((ev v S b).map aU) false):=by
 have aA:=amU v ab S af;obtain⟨nB,gG⟩:=aaT v S;unfold ev;generalize ud v S=T at *;have HL:∀n,n<=2000000->kL ah 3 n:=λn h=>by
  have e: (aE ah 3).bytes=8:=by rfl
  refine⟨?_,?_⟩
  ·grind
  ·simp only[maxLen];omega
 refine cp (fn:=Tryz.f184) (c:=Tryz.f184.body.getD .skip) az aw (by rfl) Tryz.func184 (by rfl) (by rfl) (by rfl) (by rfl) ?_;repeat' ((conv=>whnf);first|refine aR aA ?_|fail)
 all_goals(conv=>whnf)
 refine⟨Nat,λi=>⟨[(2,.v (.bool b)),(7,.own 1),(12,.av 3 (T.map Se) false),(13,i64 T.length),(14,i64 i)],[.cells 24 (cG v),.row 3 1 ((((T.take i).filter (r1 b)).map (·.bG)).map aU)]⟩,λi=>i<=T.length,λi=>T.length-i,[.h4 7 3 1],⟨0,bZ _,?_⟩,?_⟩
 ·conv=>whnf
  exact⟨⟨.r,.r,.r,a8 (by simp),.r,aj⟩,⟨.r,.r,aj⟩,by rfl⟩
 ·intro i hi;repeat' ((conv=>whnf);first| (apply bo<;>intro h)|fail)
  ·have aB:i<T.length:=by grind
   clear h;obtain⟨Br,lS⟩:=gG T[i] (eD aB);have auZ: ((T.take i).filter (r1 b)).length<=i:=bT (uu ..) (by grind);have ae: ((T.take (i+1)).filter (r1 b)).map (·.bG)=((T.take i).filter (r1 b)).map (·.bG)++bif r1 b T[i]then [T[i].bG]else []:=by
    rw[fA aB,oh,ew];cases ac:r1 b T[i]<;>simp[ac]
   have Sf:r1 b T[i]=(decide (T[i].ub>= (2:Int))&&decide ((decide (IntKind.i64.wrap ((T[i].ub:Int)+(T[i].imp:Int))>=4))=b)):=by
    rw[dQ (by omega) (by omega)];unfold r1;have h1:decide (2<=T[i].ub)=decide (((T[i].ub:Nat):Int)>= (2:Int)):=by
     grind
    have ad:decide (4<=T[i].ub+T[i].imp)=decide (((T[i].ub:Nat):Int)+((T[i].imp:Nat):Int)>=4):=by
     grind
    grind
   have au0: (((T.take i).filter (r1 b)).map (·.bG)).length<=i:=by grind
   generalize((T.take i).filter (r1 b)).map (·.bG)=Mb at *;generalize r1 b T[i]=amW at *;repeat' ((conv=>whnf);first|refine bl ?_| (apply bo<;>intro h)|refine dE ?_|refine⟨_,_,aS ⟨rfl,du aB⟩ ?_⟩|refine aS (HL _ (by simp<;>omega)) ?_|fail)
   all_goals(conv=>whnf)
   all_goals refine⟨i+1,aB,by simp only[];omega,?_⟩
   all_goals(conv=>whnf)
   all_goals refine⟨⟨.r,.r,.r,.r,a8 (ca (by omega)),aj⟩,⟨.r,cM ?_,aj⟩,by rfl⟩
   ·rw[ae,Sf.trans h,b6,ew];rfl
   grind
  ·have:i=T.length:=by
    grind
   subst this;rw[gn];repeat' ((conv=>whnf);first|exact .refl|fail)
theorem EA(v:aK)(ab:v.mem.length<=maxLen)(S:List bR)(af:S.length<=1000000):bq Tryz.prog 121 [.agg (cG v),.av 4 (S.map ey) false] (.av 1 ((ev v S false).map aU) false):=by
 have aA:=aaU v ab S af false;refine cp (fn:=Tryz.f121) (c:=Tryz.f121.body.getD .skip) az aw (by rfl) Tryz.func121 (by rfl) (by rfl) (by rfl) (by rfl) ?_;repeat' ((conv=>whnf);first|exact .refl|refine aR aA ?_|fail)
theorem amX(v:aK)(ab:v.mem.length<=maxLen)(S:List bR)(af:S.length<=1000000):bq Tryz.prog 162 [.agg (cG v),.av 4 (S.map ey) false] (.av 1 ((ev v S true).map aU) false):=by
 have aA:=aaU v ab S af true;refine cp (fn:=Tryz.f162) (c:=Tryz.f162.body.getD .skip) az aw (by rfl) Tryz.func162 (by rfl) (by rfl) (by rfl) (by rfl) ?_;repeat' ((conv=>whnf);first|exact .refl|refine aR aA ?_|fail)
def pj(v:aK):Nat->List Int->List Int×Bool
 |0,_=>([],false)
 |n+1,l=>bif decide ((er v l).2=0)then(l,true)else bif !decide ((er v l).2=5)||decide (((hd v l).length:Int)=0)then([],false)
  else pj v n (l.take (gR l ((hd v l).getD ((hd v l).length-1) 0)).toNat++l.drop ((gR l ((hd v l).getD ((hd v l).length-1) 0)).toNat+1))
def zE(v:aK)(l:List Int):List Int×Bool:=pj v (l.length+1) l
theorem Mc(v:aK)(l:List Int):pj v (l.length+1) l=bif decide ((er v l).2=0)then(l,true)else bif !decide ((er v l).2=5)||decide (((hd v l).length:Int)=0)then([],false)
  else pj v l.length (l.take (gR l ((hd v l).getD ((hd v l).length-1) 0)).toNat++l.drop ((gR l ((hd v l).getD ((hd v l).length-1) 0)).toNat+1)):=by rfl
theorem amY{x:Int}(h:x∈hd v l):x∈l:=by
 unfold hd sD at h
 grind
theorem amZ(h: (hd v l).length≠0):∃ (k:Nat) (hk:k<l.length),gR l ((hd v l).getD ((hd v l).length-1) 0)=k/\l[k]=(hd v l).getD ((hd v l).length-1) 0:=by
 refine D4 (amY (v:=v) ?_)
 grind
def dl(v:aK)(S:List bR):List Int×Bool:=bif decide (0<((ev v S false).length:Int))then([],false)else zE v (ev v S true)
theorem HM(v:aK)(S:List bR)(b:Bool): (ev v S b).length<=S.length:=by
 unfold ev;rw[bL];exact bT (uu ..) (aaT v S).1
theorem Sg(v:aK)(ab:v.mem.length<=500000)(S:List bR)(af:S.length<=500000):bq Tryz.prog 96 [.agg (cG v),.av 4 (S.map ey) false] (.be [.av 1 ((dl v S).1.map aU) false,.v (.bool (dl v S).2)]):=by
 have J0:v.mem.length<=maxLen:=by simp only[maxLen];omega
 have aA:=EA v J0 S (by omega);have aG:=amX v J0 S (by omega);have i0:=HM v S true;have aa:dl v S=bif decide (0<((ev v S false).length:Int))then([],false)else pj v ((ev v S true).length+1) (ev v S true):=rfl;generalize dl v S=res at *;generalize ev v S false=U at *;generalize ev v S true=L at *;refine cp (fn:=Tryz.f96) (c:=Tryz.f96.body.getD .skip) az aw (by rfl) Tryz.func96 (by rfl) (by rfl) (by rfl) (by rfl) ?_;repeat' ((conv=>whnf);first| (apply bo<;>intro h)|refine aR aA ?_|refine aR aG ?_|fail)
 all_goals(conv=>whnf)
 ·rw[bL]at h;rw[aa,h];exact e1 ⟨.ar,.r,aj⟩
 ·rw[bL]at h;rw[h,bD]at aa;clear h;subst aa;refine⟨List Int,λl=>⟨[(2,.aW 0 0),(6,.av 1 (l.map aU) false)],[.cells 24 (cG v)]⟩,λl=>l.length<=L.length/\pj v (l.length+1) l=pj v (L.length+1) L,λl=>l.length,[],⟨L,⟨bS _,rfl⟩,?_⟩,?_⟩
  ·conv=>whnf
   exact⟨⟨.r,.r,aj⟩,⟨.r,aj⟩,by rfl⟩
  ·intro l ⟨hlen,hinv⟩;have Ha:=DX v ab l (by omega);have lY:bq Tryz.prog 108 [.agg (cG v),.av 1 (l.map aU) false] (.av 1 ((hd v l).map aU) false):=Yo v (by omega) l (by omega);rw[Mc]at hinv;have sR:=amZ (v:=v) (l:=l);have iv: (hd v l).length<=l.length:=Qn v l l v.mem;generalize hd v l=J at *;generalize er v l=N at *;obtain⟨au1,au2⟩:=N;simp only[]at Ha hinv;generalize pj v (L.length+1) L=res at *;repeat' ((conv=>whnf);first|refine bl ?_| (apply bo<;>intro h)|refine aR Ha ?_|refine aR lY ?_|fail)
   all_goals(conv=>whnf)
   ·rw[h,b6]at hinv;rw[<-hinv];exact .refl
   ·rename_i h1;rw[bL]at h;rw[h1,h,b6,bD]at hinv;rw[<-hinv];exact e1 ⟨.ar,.r,aj⟩
   ·rename_i h1;rw[bL]at h;rw[h1,h,bD,bD]at hinv;have am0:J.length≠0:=by
     grind
    obtain⟨k,hk,eF,_⟩:=sR am0;clear h h1 sR;have kv:IntKind.i64.wrap (((J.map aU).length:Int)-1)=((J.length-1:Nat):Int):=by
     rw[bL,dQ (by omega) (by omega)];omega
    have QD: (J.map aU)[J.length-1]?=some (aU (J.getD (J.length-1) 0)):=by
     grind
    generalize J.getD (J.length-1) 0=y at *;have oF:=G2 l (by simp only[maxLen];omega) y;rw[eF]at oF hinv;rw[l6]at hinv;have jk:IntKind.i64.wrap ((k:Int)+1)=((k+1:Nat):Int):=by
     rw[dQ (by omega) (by omega)];omega
    have hS:k+1<=(l.map aU).length:=by
     grind
    have am1:k<=(l.map aU).length:=by omega
    have HL:∀n,n<=2000000->kL ah 3 n:=λn h=>by
     have e: (aE ah 3).bytes=8:=by rfl
     refine⟨?_,?_⟩
     ·grind
     ·simp only[maxLen];omega
    repeat' ((conv=>whnf);first|refine ch ?_|refine⟨J.length-1,_,aS ⟨kv,QD⟩ ?_⟩|refine aR oF ?_|refine⟨0,k,aS ⟨rfl,⟨_,rfl⟩,⟨_,rfl⟩,bZ _,am1⟩ ?_⟩|refine⟨k+1,aS ⟨⟨_,e7 (λx=>ak.v (Value.int .i64 x)) jk⟩,hS⟩ ?_⟩|refine aS (HL _ (by simp<;>omega)) ?_|refine .inr ?_|fail)
    all_goals(conv=>whnf)
    have hL: (l.take k++l.drop (k+1)).length+1=l.length:=by
     grind
    refine⟨l.take k++l.drop (k+1),⟨by omega,by grind⟩,by grind,?_⟩;conv=>whnf
    refine⟨⟨.r,jI ?_,aj⟩,⟨.r,aj⟩,by rfl⟩;simp
theorem am2(l:List Nat)(af:l.length<=800000)(v:Int)(h1: -1<=v)(ad:v<=1099511627776):bq Tryz.prog 155 [.av 1 (l.map bE) false,i64 v] (.av 1 ((l++bB (fQ v)).map bE) false):=by
 have m1:=QP l (by omega);have m2:=Y8 l (by omega) v h1 ad;refine cp (fn:=Tryz.f155) (c:=Tryz.f155.body.getD .skip) az aw (by rfl) Tryz.func155 (by rfl) (by rfl) (by rfl) (by rfl) ?_;repeat' ((conv=>whnf);first|exact .refl|refine .inr ⟨[],bO m1 ?_⟩|refine .inr ⟨[0],bO m2 ?_⟩|fail)
def jf(l:List Int):List Nat:=l.flatMap λv=>bB (fQ v)
def gg(l:List Int):List Nat:=bB l.length++jf l
theorem BK(l:List Int): (jf l).length<=10*l.length:=by
 induction l with
 |nil=>simp[jf]
 |cons x l a1=>
  have h:=hP 9 (fQ x);have e:jf (x::l)=bB (fQ x)++jf l:=rfl;rw[e,fw,l7];have: (bB (fQ x)).length<=10:=h;omega
theorem Sh(b:List Nat)(ac:b.length<=700000)(l:List Int)(af:l.length<=1000)(ao:∀v∈l,-1<=v/\v<=1099511627776):bq Tryz.prog 143 [.av 1 (b.map bE) false,.av 1 (l.map aU) false] (.av 1 ((b++gg l).map bE) false):=by
 have m1:=Ll b (by omega) (10+2*l.length) (by omega);have m2:=Ea b (by omega) l.length (by omega);have vf:IntKind.i64.wrap (10+IntKind.i64.wrap (2* ((l.map aU).length:Int)))=((10+2*l.length:Nat):Int):=by
  rw[bL,dQ (n:=2* (l.length:Int)) (by omega) (by omega),dQ (by omega) (by omega)];omega
 have hu:IntKind.u64.wrap ((l.map aU).length:Int)=((l.length:Nat):Int):=by
  rw[bL];exact kc (by omega) (by omega)
 refine fX Tryz.func143 ?_;repeat' ((conv=>whnf);first|refine .inr ⟨[],[],_,[],_,_,m1,by rfl,aj,⟨.r,a8 vf,aj⟩,?_⟩|refine .inr ⟨[0],_,_,_,_,_,m2,by rfl,⟨.r,aj⟩,⟨.r,a8 hu,aj⟩,?_⟩|fail)
 all_goals(conv=>whnf)
 have i0: (bB l.length).length<=10:=hP 9 l.length;clear m1 m2 vf hu;refine⟨Nat,λi=>⟨[(5,.own 0),(18,.av 1 (l.map aU) false),(19,i64 l.length),(20,i64 i)],[.row 5 1 ((b++bB l.length++jf (l.take i)).map bE)]⟩,λi=>i<=l.length,λi=>l.length-i,[],⟨0,bZ _,?_⟩,?_⟩
 ·conv=>whnf
  exact⟨⟨.r,.r,a8 (by simp),.r,aj⟩,⟨cM (by simp[jf]),aj⟩,by rfl⟩
 ·intro i hi;repeat' ((conv=>whnf);first| (apply bo<;>intro h)|fail)
  all_goals(conv=>whnf)
  ·have aB:i<l.length:=by simpa using h
   clear h;have ab:=ao _ (eD aB);have hlen:=BK (l.take i);have yY: (l.take i).length=i:=by simp;omega
   have m3:=Y8 (b++bB l.length++jf (l.take i)) (by simp only[fw];omega) l[i] ab.1 ab.2;have hx:b++bB l.length++jf (l.take i)++bB (fQ l[i])=b++bB l.length++jf (l.take (i+1)):=by
    rw[k1 (b++bB l.length)];congr 1;unfold jf;rw[fA aB,Ad];simp
   rw[hx]at m3;repeat' ((conv=>whnf);first|refine⟨_,_,aS ⟨rfl,du aB⟩ ?_⟩|refine .inr ⟨[0],bO m3 ?_⟩|fail)
   all_goals(conv=>whnf)
   refine⟨i+1,aB,by simp only[];omega,?_⟩;conv=>whnf
   exact⟨⟨.r,.r,.r,a8 (ca (by omega)),aj⟩,⟨.r,aj⟩,by rfl⟩
  ·have cS:i=l.length:=by
    have:=rv h;simp at this;omega
   subst cS;rw[gn];refine jI ?_;simp[gg]
theorem am3{v:Int}(ad:v<=1099511627776):fQ v<18446744073709551616:=QX ad
theorem am4{v:Int}(h1: -1<=v)(ad:v<=1099511627776):bits .xor .i64 (IntKind.i64.wrap (((fQ v:Nat):Int).fdiv (2^ (min (1:Int).toNat 64)))) (IntKind.i64.wrap (0-IntKind.i64.wrap (bits .and .u64 ((fQ v:Nat):Int) 1)))=v:=by
 by_cases h:v<0
 ·have e:v= -1:=by omega
  subst e;rfl
 ·have bt: ((fQ v:Nat):Int)=2*v:=by
   unfold fQ
   grind
  have aG: (2:Int)^ (min (1:Int).toNat 64)=2:=by decide
  have bb:∀n:Nat,n<9223372036854775808->bits .and .u64 ((2*n:Nat):Int) 1=0:=λn aV=>by
   unfold bits;simp only[IntKind.bits,IntKind.signed];have ac: (BitVec.ofInt 64 ((2*n:Nat):Int)&&&BitVec.ofInt 64 1).toNat=0:=by
    rw[BitVec.toNat_and,Ff,Fg];simp
   exact(e7 (λk:Nat=>IntKind.u64.wrap (k:Int)) ac).trans (by decide)
  have bc:IntKind.i64.wrap (2*v)=2*v:=dQ (by omega) (by omega);have ag:∀n:Nat,n<9223372036854775808->bits .xor .i64 (n:Int) 0=(n:Int):=λn aV=>by
   unfold bits;simp only[IntKind.bits,IntKind.signed];have ac: (BitVec.ofInt 64 (n:Int)^^^BitVec.ofInt 64 0).toNat=n:=by
    grind
   exact(e7 (λk:Nat=>IntKind.i64.wrap (k:Int)) ac).trans (dQ (by omega) (by omega))
  obtain⟨n,aV⟩:∃n:Nat,v=(n:Int):=⟨v.toNat,by omega⟩
  have HJ: ((fQ v:Nat):Int)=((2*n:Nat):Int):=by omega
  rw[HJ,bb n (by omega),aG,UI _ (by omega)];have aa: ((2*n:Nat):Int)/2=(n:Int):=by omega
  have eL:IntKind.i64.wrap (n:Int)=n:=dQ (by omega) (by omega);have ba:IntKind.i64.wrap (0-IntKind.i64.wrap 0)=0:=by decide
  grind
theorem aaV(v:Int)(h1: -1<=v)(ad:v<=1099511627776)(r:List Nat)(ao:r.length<=900000):bq Tryz.prog 136 [.av 1 ((bB (fQ v)++r).map bE) false] (.be [i64 v,i64 (bB (fQ v)).length,i64 0]):=by
 have i0: (bB (fQ v)).length<=10:=hP 9 (fQ v);have e:=Bl (bB (fQ v)++r) (by grind);rw[zi (am3 ad)]at e;have bt:=am4 h1 ad;refine cp (fn:=Tryz.f136) (c:=Tryz.f136.body.getD .skip) az aw (by rfl) Tryz.func136 (by rfl) (by rfl) (by rfl) (by rfl) ?_;repeat' ((conv=>whnf);first|refine aR e ?_| (refine aS ?_ ?_;focus (simp;done))|fail)
 all_goals(conv=>whnf)
 all_goals exact e1 ⟨a8 bt,.r,.r,aj⟩
theorem am5(l:List Int){i:Nat}(h:i<l.length):jf l=jf (l.take i)++(bB (fQ l[i])++jf (l.drop (i+1))):=by
 have e:l=l.take i++(l[i]::l.drop (i+1)):=by
  simp
 have aG:jf l=jf (l.take i++(l[i]::l.drop (i+1))):=e7 jf e;rw[aG];unfold jf
 grind
theorem am6(l:List Int){i:Nat}(h:i<l.length): (jf (l.take (i+1))).length=(jf (l.take i)).length+(bB (fQ l[i])).length:=by
 unfold jf;rw[fA h,Ad,fw];simp
theorem am7(af:l.length<=1000){eS:Int}(h: (l.length:Int)<=eS)(to:eS<=1000000)(r:List Nat):xT (gg l++r) eS=((l.length:Int),(((bB l.length).length:Nat):Int),0):=by
 unfold xT gg;rw[k1,zi (by omega)];rw[c5 (show ¬eS<0 by omega)];have e:IntKind.u64.wrap eS=eS:=kc (by omega) (by omega);rw[e,c5 (show ¬eS<(l.length:Int) by omega),dQ (by omega) (by omega)];rfl
theorem am8(l:List Int)(af:l.length<=1000)(ao:∀v∈l,-1<=v/\v<=1099511627776)(eS:Int)(am9: (l.length:Int)<=eS)(to:eS<=1000000)(r:List Nat)(gY:r.length<=800000):
  bq Tryz.prog 225 [.av 1 ((gg l++r).map bE) false,i64 eS,.fn (.func 136) []] (.be [.av 1 (l.map aU) false,i64 (gg l).length,i64 0]):=by
 have i0: (bB l.length).length<=10:=hP 9 l.length;have ek:=BK l;have aaW: (gg l).length=(bB l.length).length+(jf l).length:=by simp[gg]
 have aA:=Y1 (gg l++r) (by simp only[fw];omega) eS;rw[am7 af am9 to]at aA;refine fX Tryz.func225 ?_;repeat' ((conv=>whnf);first|refine aR aA ?_|fail)
 all_goals(conv=>whnf)
 obtain⟨F,eZ⟩:∃F:Nat->Nat,∀i,F i=(bB l.length).length+(jf (l.take i)).length:=⟨_,λ_=>rfl⟩
 refine⟨Nat,λi=>⟨[(0,.av 1 ((gg l++r).map bE) false),(2,.fn (.func 136) []),(6,.own 0),(7,i64 ((F i:Nat):Int)),(8,i64 0),(9,i64 l.length),(10,i64 i)],[.row 3 1 ((l.take i).map aU)]⟩,λi=>i<=l.length,λi=>l.length-i,[.h4 6 3 1],⟨0,bZ _,?_⟩,?_⟩
 ·conv=>whnf
  exact⟨⟨.r,.r,.r,a8 (by rw[eZ 0];simp[jf]),.r,.r,.r,aj⟩,⟨.r,aj⟩,by rfl⟩
 ·intro i hi;have ai:=eZ i;have qw:=eZ (i+1);have yY:=BK (l.take i);have tu: (l.take i).length=i:=by simp;omega
  repeat' ((conv=>whnf);first|refine bl ?_| (apply bo<;>intro h)|refine dE ?_|fail)
  all_goals(conv=>whnf)
  ·have aQ:=h;have aB:i<l.length:=by simpa using aQ
   clear aQ h;have ab:=ao _ (eD aB);have HN:=am5 l aB;have jL:=am6 l aB;have mG:=BK (l.drop (i+1));have nb: (l.drop (i+1)).length=l.length- (i+1):=ru;have au3: (bB (fQ l[i])).length<=10:=hP 9 _;have ana:F i<=((gg l++r).map bE).length:=by
    rw[bL,fw,aaW,HN];simp only[fw];omega
   have jF: ((gg l++r).map bE).drop (F i)=(bB (fQ l[i])++(jf (l.drop (i+1))++r)).map bE:=by
    rw[<-yr];congr 1;have e:gg l++r=(bB l.length++jf (l.take i))++(bB (fQ l[i])++(jf (l.drop (i+1))++r)):=by
     unfold gg;rw[HN];simp only[k1]
    rw[e,Fl (by rw[fw];omega),I0 (by rw[fw];omega)];rfl
   have aG:=aaV l[i] ab.1 ab.2 (jf (l.drop (i+1))++r) (by rw[fw];omega);repeat' ((conv=>whnf);first|refine⟨F i,aS ⟨⟨_,rfl⟩,ana⟩ ?_⟩|refine .inl ⟨[.av 1 ((bB (fQ l[i])++(jf (l.drop (i+1))++r)).map bE) false],_,⟨jI jF,aj⟩,aG,?_⟩|refine aS (qo (by simp<;>omega)) ?_|fail)
   all_goals(conv=>whnf)
   refine⟨i+1,aB,by simp only[];omega,?_⟩;conv=>whnf
   refine⟨⟨.r,.r,.r,a8 ?_,.r,.r,a8 (ca (by omega)),aj⟩,⟨cM ?_,aj⟩,by rfl⟩
   ·rw[dQ (by omega) (by omega)];omega
   ·rw[fA aB,ew];rfl
  ·have aQ:=h;have cS:i=l.length:=by
    simp at aQ;omega
   subst cS;rw[gn]at ai⊢;refine e1 ⟨.r,a8 ?_,.r,aj⟩;rw[aaW,ai]
theorem aaX(l:List Int)(af:l.length<=1000)(ao:∀v∈l,-1<=v/\v<=1099511627776)(eS:Int)(h: (l.length:Int)<=eS)(to:eS<=1000000)(r:List Nat)(gY:r.length<=800000):
  bq Tryz.prog 188 [.av 1 ((gg l++r).map bE) false,i64 eS] (.be [.av 1 (l.map aU) false,i64 (gg l).length,i64 0]):=by
 refine cp (fn:=Tryz.f188) (c:=Tryz.f188.body.getD .skip) az aw (by rfl) Tryz.func188 (by rfl) (by rfl) (by rfl) (by rfl) ?_;repeat' ((conv=>whnf);first|exact .refl|refine aR (am8 l af ao eS h to r gY) ?_|fail)
def jz(v:aK):List Nat:=bB v.num.toNat++gg v.mem
theorem lD(h:b2 v=true):0<=v.num/\v.num<=1099511627776/\dF v.mem 16=true:=by
 unfold b2 at h
 grind
theorem HO{m:Int}(h:dF l m=true):1<=l.length/\(l.length:Int)<=m:=by
 unfold dF at h
 grind
theorem HP{m:Int}(h:dF l m=true):∀x∈l,1<=x/\x<=1000:=by
 unfold dF at h;simp only[cq]at h;have bb:=iA.1 h.2;have key:∀i,i<l.length->1<=l.getD i 0/\l.getD i 0<=1000:=by
  intro i;induction i with
  |zero=>
   intro hi;have:=bb 0 hi;unfold u4 at this
   grind
  |succ i a1=>
   intro hi;have:=bb (i+1) hi;unfold u4 at this
   grind
 intro x ag;obtain⟨i,hi,rfl⟩:=fv ag
 grind
theorem Md(h:b2 v=true):v.mem.length<=16/\∀x∈v.mem,-1<=x/\x<=1099511627776:=by
 have aN:=(lD h).2.2;have:=HO aN;refine⟨by omega,λx ag=> ?_⟩;have:=HP aN x ag;omega
theorem BL{n:Int}(aQ:0<=n)(h1:n<=1099511627776):IntKind.u64.wrap n=((n.toNat:Nat):Int):=by
 rw[kc (by omega) (by omega)];omega
theorem anb(v:aK)(h:b2 v=true):bq Tryz.prog 142 [.agg (cG v)] (.av 1 ((jz v).map bE) false):=by
 obtain⟨h1,ad,aN⟩:=lD h;obtain⟨bs,cm⟩:=Md h;have aA:=q3 v (bT bs (by decide));rw[h]at aA;have i0: (bB v.num.toNat).length<=10:=hP 9 _;have aG:=Bk [] (by simp) v.num.toNat (by omega);have bc:=Sh (bB v.num.toNat) (by omega) v.mem (by omega) cm;have hu:=BL h1 ad;refine fX Tryz.func142 ?_;repeat' ((conv=>whnf);first|exact .refl|refine ch ?_|refine aR aA ?_|refine .inl ⟨[.av 1 (([]:List Nat).map bE) false,_],_,⟨.ar,a8 hu,aj⟩,aG,?_⟩|refine aR bc ?_|fail)
theorem EB(v:aK)(h:b2 v=true): (jz v).length<=1000:=by
 obtain⟨bs,cm⟩:=Md h;have i0: (bB v.num.toNat).length<=10:=hP 9 _;have au4: (bB v.mem.length).length<=10:=hP 9 _;have:=BK v.mem;unfold jz gg
 grind
theorem anc(v:aK)(h:b2 v=true)(r:List Nat)(ao:r.length<=700000):bq Tryz.prog 138 [.av 1 ((jz v++r).map bE) false] (.be [.agg (cG v),i64 (jz v).length,i64 0]):=by
 obtain⟨h1,ad,aN⟩:=lD h;obtain⟨bs,cm⟩:=Md h;have af:=EB v h;have wt: (jz v).length=(bB v.num.toNat).length+(gg v.mem).length:=by simp[jz]
 have aA:=Bl (jz v++r) (by rw[fw];omega);have HN:jz v++r=bB v.num.toNat++(gg v.mem++r):=by
  unfold jz;rw[k1]
 have ane:eh (jz v++r) 0 0=(((v.num.toNat:Nat):Int),(((bB v.num.toNat).length:Nat):Int),0):=by
  rw[HN];exact zi (by omega) _
 rw[ane]at aA;have aV: ((v.num.toNat:Nat):Int)=v.num:=by omega
 rw[aV]at aA;have aG:=aaX v.mem (by omega) cm 16 (by omega) (by omega) r (by omega);have bc:=zb v.mem (bT bs (by decide));rw[aN]at bc;obtain⟨A,ai⟩:∃A,A=(bB v.num.toNat).length:=⟨_,rfl⟩
 rw[<-ai]at aA wt;have jF: ((jz v++r).map bE).drop A=(gg v.mem++r).map bE:=by
  rw[<-yr,HN,ai,Fm]
 have anf:A<=((jz v++r).map bE).length:=by
  rw[bL,fw];omega
 have al:decide ((1099511627776:Int)<v.num)=false:=c5 (by omega);have hw:IntKind.i64.wrap v.num=v.num:=dQ (by omega) (by omega);have oH:IntKind.i64.wrap ((A:Int)+((gg v.mem).length:Int))=(((jz v).length:Nat):Int):=by
  rw[dQ (by omega) (by omega)];omega
 refine fX Tryz.func138 ?_;repeat' ((conv=>whnf);first|refine ft (by assumption) ?_|refine aR aA ?_|refine⟨A,aS ⟨⟨_,rfl⟩,anf⟩ ?_⟩|refine .inl ⟨[.av 1 ((gg v.mem++r).map bE) false,_],_,⟨jI jF,.r,aj⟩,aG,?_⟩|refine aR bc ?_|fail)
 all_goals(conv=>whnf)
 all_goals exact e1 ⟨iQ ⟨a8 hw,.r,aj⟩,a8 oH,.r,aj⟩
def vn(b:List Nat):List ak:=[.av 1 (b.map bE) false,.v (.bool false)]
theorem HQ(b:List Nat)(n:Nat)(h:n<=b.length):cj Tryz.prog 76 [.cells 135 (vn b)] [.aW 0 0,i64 n,i64 0] [true] [.cells 135 (vn (b.drop n))] (.be []):=by
 have af:n<=(b.map bE).length:=by grind
 refine ik (fn:=Tryz.f76) (c:=Tryz.f76.body.getD .skip) az aw (by rfl) Tryz.func76 (by rfl) (by rfl) (by rfl) (by rfl) (by rfl) ?_;repeat' ((conv=>whnf);first|refine⟨n,aS ⟨⟨_,rfl⟩,af⟩ ?_⟩|fail)
 all_goals(conv=>whnf)
 refine⟨.r,⟨mn ⟨jI ?_,.r,aj⟩,.r,aj⟩,by rfl⟩;simp
theorem BM(v:Nat)(ab: (v:Int)<=1099511627776)(r:List Nat)(ao:r.length<=700000):cj Tryz.prog 74 [.cells 135 (vn (bB v++r))] [.aW 0 0] [true] [.cells 135 (vn r)] (i64 v):=by
 have i0: (bB v).length<=10:=hP 9 _;have aA:=Bl (bB v++r) (by grind);rw[zi (by omega)]at aA;have aG:=HQ (bB v++r) (bB v).length (by simp);rw[Fm]at aG;have al:decide ((1099511627776:Int)<(v:Int))=false:=c5 (by omega);have hw:IntKind.i64.wrap (v:Int)=v:=dQ (by omega) (by omega);refine ik (fn:=Tryz.f74) (c:=Tryz.f74.body.getD .skip) az aw (by rfl) Tryz.func74 (by rfl) (by rfl) (by rfl) (by rfl) (by rfl) ?_;repeat' ((conv=>whnf);first|refine ft (by assumption) ?_|refine aR aA ?_|refine .inr ⟨[0],bO aG ?_⟩|fail)
 all_goals(conv=>whnf)
 all_goals exact⟨a8 hw,⟨.r,.r,aj⟩,by rfl⟩
theorem aaY(l:List Int)(af:l.length<=32)(hi:∀v∈l,-1<=v/\v<=1099511627776)(r:List Nat)(ao:r.length<=700000):cj Tryz.prog 137 [.cells 135 (vn (gg l++r))] [.aW 0 0] [true] [.cells 135 (vn r)] (.av 1 (l.map aU) false):=by
 have aA:=aaX l (by omega) hi 32 (by omega) (by omega) r (by omega);have aG:=HQ (gg l++r) (gg l).length (by simp);rw[Fm]at aG;refine ik (fn:=Tryz.f137) (c:=Tryz.f137.body.getD .skip) az aw (by rfl) Tryz.func137 (by rfl) (by rfl) (by rfl) (by rfl) (by rfl) ?_;repeat' ((conv=>whnf);first|refine aR aA ?_|refine .inr ⟨[0],bO aG ?_⟩|fail)
 all_goals(conv=>whnf)
 all_goals exact⟨.r,⟨.r,.r,aj⟩,by rfl⟩
def c8(c:List Int):List ak:=[.av 1 (c.map aU) false]
theorem BN(h:n<=2000000):kL ah 22 n:=by
 have e: (aE ah 22).bytes=24:=by rfl
 refine⟨?_,?_⟩
 ·grind
 ·simp only[maxLen];omega
structure iD where
 bG:Int
 j0:Int
def dR(d:iD):List ak:=[i64 d.bG,i64 d.j0]
structure Mem where
 self:Int
 status:Int
 cont:List Int
 first:aK
 hist:List (List Int)
 view:aK
 a7:ju
 als:List bR
 dbts:List iD
 agr:bi
def cv(s:Mem):List ak:=[i64 s.self,i64 s.status,.av 1 (s.cont.map aU) false,i64 s.first.num,.av 1 (s.first.mem.map aU) false,.av 1 (s.hist.map c8) false,i64 s.view.num,.av 1 (s.view.mem.map aU) false,i64 s.a7.self,i64 s.a7.view.num,.av 1 (s.a7.view.mem.map aU) false,.av 6 (s.a7.bV.map kR) false,.av 4 (s.als.map ey) false,.av 2 (s.dbts.map dR) false,i64 s.agr.self,i64 s.agr.view.num,.av 1 (s.agr.view.mem.map aU) false,i64 s.agr.aL.cc,i64 s.agr.aL.aC,.av 1 (s.agr.aL.cut.map aU) false,.av 1 (s.agr.prop.map aU) false,.av 2 (s.agr.box.map ee) false,i64 s.agr.aC,i64 s.agr.phase,.av 3 (s.agr.bu.map bW) false,.av 1 (s.agr.c4.map aU) false,.av 3 (s.agr.aM.map bW) false,.av 1 (s.agr.dec.map aU) false,i64 s.agr.cD]
def lZ:aK:=⟨0,[]⟩
def l0(a b:aK):Bool:=decide (a.num=b.num)&&iG a.mem b.mem
def mq(x:Int):Bool:=decide (1<=x)&&decide (x<=1000)
theorem BO(x:Int):bq Tryz.prog 31 [i64 x] (.v (.bool (mq x))):=by
 refine cp (fn:=Tryz.f31) (c:=Tryz.f31.body.getD .skip) az aw (by rfl) Tryz.func31 (by rfl) (by rfl) (by rfl) (by rfl) ?_;repeat' ((conv=>whnf);first|refine bl ?_|exact .refl|fail)
theorem x4(a b:aK)(bb:a.mem.length<=maxLen):bq Tryz.prog 34 [.agg (cG a),.agg (cG b)] (.v (.bool (l0 a b))):=by
 refine cp (fn:=Tryz.f34) (c:=Tryz.f34.body.getD .skip) az aw (by rfl) Tryz.func34 (by rfl) (by rfl) (by rfl) (by rfl) ?_;repeat' ((conv=>whnf);first|refine bl ?_|exact .refl|refine dE ?_|refine ea (Qm _ _ bb) ?_|fail)
theorem r2(v:aK)(ab:v.mem.length<=1000000):bq Tryz.prog 44 [.agg (cG v)] (.agg (cG v)):=by
 refine cp (fn:=Tryz.f44) (c:=Tryz.f44.body.getD .skip) az aw (by rfl) Tryz.func44 (by rfl) (by rfl) (by rfl) (by rfl) ?_;repeat' ((conv=>whnf);first|exact .refl|refine ch ?_|refine aR (pa _ ab) ?_|fail)
def dK(first:aK)(aI:List (List Int)):Nat->aK
 |0=>first
 |i+1=>(er (dK first aI i) (aI.getD i [])).1
def r3(first:aK)(aI:List (List Int))(i:Nat):Bool:=decide ((er (dK first aI i) (aI.getD i [])).2=0)
def kV(first:aK)(aI:List (List Int)):Nat->List aK
 |0=>[first]
 |i+1=>kV first aI i++ [dK first aI (i+1)]
def jM(first:aK)(aI:List (List Int)):List aK×Bool:=
 bif !b2 first||decide (400<(aI.length:Int))then([],false)
 else bif ij (r3 first aI) aI.length then(kV first aI aI.length,true)else([],false)
def eR(s:Mem)(v:aK):Mem:=
 bif bP v.mem s.self then {s with view:=v,als:=[],dbts:=[],status:=1,a7:=(ke v s.self).1,agr:=(lb v s.self).1}
 else {s with view:=v,als:=[],dbts:=[],status:=2,a7:=pd,agr:=gf}
def dv:Mem:=⟨0,0,[],lZ,[],lZ,pd,[],[],gf⟩
def BP(v:aK)(self:Int):Mem×Int:=bif !b2 v|| !bP v.mem self then(dv,1)else(eR {dv with self:=self,first:=v} v,0)
def zF(self:Int)(cont:List Int):Mem×Int:=bif !mq self|| !dF cont 16||bP cont self then(dv,1)else({dv with self:=self,cont:=cont},0)
end Go.Proofs.YtdcfooeoaoahjaaGreat
