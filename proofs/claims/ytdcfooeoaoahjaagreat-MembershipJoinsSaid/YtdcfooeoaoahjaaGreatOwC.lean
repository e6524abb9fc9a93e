/- The laws of this seat, part OwC: contracts of the functions, plain laws. No conditions. -/
import Derived.Test.YtdcfooeoaoahjaaGreatOwB
import Derived.Test.YtdcfooeoaoahjaaGreatLfC
set_option linter.unusedSimpArgs false
set_option linter.unusedVariables false
set_option maxRecDepth 100000
set_option maxHeartbeats 16000000
namespace Go.Proofs.YtdcfooeoaoahjaaGreat
open Go.Lift
structure hl(s:Mem):Prop where
 cont:s.cont.length<=1000
 first:s.first.mem.length<=1000
 hist:s.hist.length<=1000
 EC:∀c∈s.hist,c.length<=1000
 view:s.view.mem.length<=1000
 sS:s.a7.view.mem.length<=1000
 bV:s.a7.bV.length<=1000
 Me:∀e∈s.a7.bV,0<=e.kd.bits
 als:s.als.length<=6000
 dbts:s.dbts.length<=1000
 agr:ez s.agr
variable{n:Nat}
theorem Si(h:n<=2000000):kL ah 150 n:=by
 have e: (aE ah 150).bytes=16:=by rfl
 refine⟨?_,?_⟩
 ·grind
 ·simp only[maxLen];omega
theorem ang(h:n<=2000000):kL ah 24 n:=by
 have e: (aE ah 24).bytes=32:=by rfl
 refine⟨?_,?_⟩
 ·grind
 ·simp only[maxLen];omega
theorem aaZ(l:List iD)(af:l.length<=1000000):bq Tryz.prog 82 [.av 2 (l.map dR) false] (.av 2 (l.map dR) false):=by
 refine cp (fn:=Tryz.f82) (c:=Tryz.f82.body.getD .skip) az aw (by rfl) Tryz.func82 (by rfl) (by rfl) (by rfl) (by rfl) ?_;repeat' ((conv=>whnf);first|refine bl ?_|fail)
 refine aS (λow=> ?_) ?_
 ·repeat' ((conv=>whnf);first|refine bl ?_|fail)
  all_goals(conv=>whnf)
  rw[ow];exact .ar
 ·repeat' ((conv=>whnf);first|refine bl ?_|fail)
  all_goals(conv=>whnf)
  refine aS (Si (by grind)) ?_;repeat' ((conv=>whnf);first|exact .refl|fail)
theorem Sj(l:List Edge)(af:l.length<=1000000):bq Tryz.prog 80 [.av 6 (l.map kR) false] (.av 6 (l.map kR) false):=by
 refine cp (fn:=Tryz.f80) (c:=Tryz.f80.body.getD .skip) az aw (by rfl) Tryz.func80 (by rfl) (by rfl) (by rfl) (by rfl) ?_;repeat' ((conv=>whnf);first|refine bl ?_|fail)
 refine aS (λow=> ?_) ?_
 ·repeat' ((conv=>whnf);first|refine bl ?_|fail)
  all_goals(conv=>whnf)
  rw[ow];exact .ar
 ·repeat' ((conv=>whnf);first|refine bl ?_|fail)
  all_goals(conv=>whnf)
  refine aS (QG (by grind)) ?_;repeat' ((conv=>whnf);first|exact .refl|fail)
theorem anh(l:List (List Int))(af:l.length<=1000000)(bx:l≠ []):cj Tryz.prog 139 [] [.av 1 (l.map c8) false] [] [.row 22 1 (l.map c8)] (.own 0):=by
 refine ik (fn:=Tryz.f139) (c:=Tryz.f139.body.getD .skip) az aw (by rfl) Tryz.func139 (by rfl) (by rfl) (by rfl) (by rfl) (by rfl) ?_;repeat' ((conv=>whnf);first|refine bl ?_|fail)
 refine aS (λow=> ?_) ?_
 ·simp_all
 ·repeat' ((conv=>whnf);first|refine bl ?_|fail)
  all_goals(conv=>whnf)
  refine aS (BN (by grind)) ?_;repeat' ((conv=>whnf);first|refine bl ?_|fail)
  all_goals(conv=>whnf)
  exact⟨.r,⟨.r,aj⟩,by rfl⟩
theorem ani:bq Tryz.prog 139 [.av 1 (([]:List (List Int)).map c8) false] (.av 1 (([]:List (List Int)).map c8) false):=by
 refine cp (fn:=Tryz.f139) (c:=Tryz.f139.body.getD .skip) az aw (by rfl) Tryz.func139 (by rfl) (by rfl) (by rfl) (by rfl) ?_;repeat' ((conv=>whnf);first|refine bl ?_|fail)
 refine aS (λow=> ?_) ?_
 ·repeat' ((conv=>whnf);first|refine bl ?_|fail)
  all_goals(conv=>whnf)
  exact .ar
 ·repeat' ((conv=>whnf);first|refine bl ?_|fail)
  all_goals(conv=>whnf)
  refine aS (BN (by simp)) ?_;repeat' ((conv=>whnf);first|exact .refl|fail)
theorem anj(l:List cg)(af:l.length<=1000000)(bx:l≠ []):cj Tryz.prog 189 [] [.av 3 (l.map bW) false] [] [.row 179 3 (l.map bW)] (.own 0):=by
 refine ik (fn:=Tryz.f189) (c:=Tryz.f189.body.getD .skip) az aw (by rfl) Tryz.func189 (by rfl) (by rfl) (by rfl) (by rfl) (by rfl) ?_;repeat' ((conv=>whnf);first|refine bl ?_|fail)
 refine aS (λow=> ?_) ?_
 ·simp_all
 ·repeat' ((conv=>whnf);first|refine bl ?_|fail)
  all_goals(conv=>whnf)
  refine aS (Lt (by grind)) ?_;repeat' ((conv=>whnf);first|refine bl ?_|fail)
  all_goals(conv=>whnf)
  exact⟨.r,⟨.r,aj⟩,by rfl⟩
theorem ank:bq Tryz.prog 189 [.av 3 (([]:List cg).map bW) false] (.av 3 (([]:List cg).map bW) false):=by
 refine cp (fn:=Tryz.f189) (c:=Tryz.f189.body.getD .skip) az aw (by rfl) Tryz.func189 (by rfl) (by rfl) (by rfl) (by rfl) ?_;repeat' ((conv=>whnf);first|refine bl ?_|fail)
 refine aS (λow=> ?_) ?_
 ·repeat' ((conv=>whnf);first|refine bl ?_|fail)
  all_goals(conv=>whnf)
  exact .ar
 ·repeat' ((conv=>whnf);first|refine bl ?_|fail)
  all_goals(conv=>whnf)
  refine aS (Lt (by simp)) ?_;repeat' ((conv=>whnf);first|exact .refl|fail)
variable{i:Nat}
theorem Mf{α:Type}{l:List α}{f:α->List ak}(h:i<l.length): (l.map f).set i (f l[i])=l.map f:=by
 rw[<-oj,Ft]
theorem aa0(l:List (List Int))(af:l.length<=1000000)(al:∀c∈l,c.length<=1000000):bq Tryz.prog 79 [.av 1 (l.map c8) false] (.av 1 (l.map c8) false):=by
 by_cases bx:l=[]
 ·subst bx;refine cp (fn:=Tryz.f79) (c:=Tryz.f79.body.getD .skip) az aw (by rfl) Tryz.func79 (by rfl) (by rfl) (by rfl) (by rfl) ?_;repeat' ((conv=>whnf);first|refine aR ani ?_|fail)
  all_goals(conv=>whnf)
  refine⟨Nat,λi=>⟨[(3,.av 1 (([]:List (List Int)).map c8) false),(8,i64 0),(9,i64 i)],[]⟩,λi=>i=0,λi=>0,[],⟨0,rfl,?_⟩,?_⟩
  ·conv=>whnf
   exact⟨⟨.r,.r,.r,aj⟩,aj,by rfl⟩
  ·intro i hi;subst hi;repeat' ((conv=>whnf);first|exact .refl|fail)
 ·refine cp (fn:=Tryz.f79) (c:=Tryz.f79.body.getD .skip) az aw (by rfl) Tryz.func79 (by rfl) (by rfl) (by rfl) (by rfl) ?_;repeat' ((conv=>whnf);first|refine .inr ⟨[],bO (anh l (by omega) bx) ?_⟩|fail)
  all_goals(conv=>whnf)
  refine⟨Nat,λi=>⟨[(3,.own 0),(8,i64 l.length),(9,i64 i)],[.row 22 1 (l.map c8)]⟩,λi=>i<=l.length,λi=>l.length-i,[],⟨0,bZ _,?_⟩,?_⟩
  ·conv=>whnf
   exact⟨⟨.r,a8 (by simp),.r,aj⟩,⟨.r,aj⟩,by rfl⟩
  ·intro i hi;repeat' ((conv=>whnf);first| (apply bo<;>intro h)|exact .refl|fail)
   ·have aB:i<l.length:=by grind
    clear h;have gD:i<(l.map c8).length:=by grind
    have cL: (l.map c8)[i]?=some (c8 l[i]):=by grind
    have lV:=Mf (f:=c8) aB;repeat' ((conv=>whnf);first|refine aR (pa _ (al _ (eD aB))) ?_|refine⟨i,aS ⟨rfl,gD⟩ ?_⟩|refine⟨c8 l[i],aS cL ?_⟩|fail)
    all_goals(conv=>whnf)
    refine⟨i+1,aB,by grind,?_⟩;conv=>whnf
    refine⟨⟨.r,.r,a8 (ca (by omega)),aj⟩,⟨cM ?_,aj⟩,by rfl⟩;exact lV
theorem anl(l:List cg)(af:l.length<=1000000)(al:∀r∈l,r.cut.length<=1000000):bq Tryz.prog 140 [.av 3 (l.map bW) false] (.av 3 (l.map bW) false):=by
 by_cases bx:l=[]
 ·subst bx;refine cp (fn:=Tryz.f140) (c:=Tryz.f140.body.getD .skip) az aw (by rfl) Tryz.func140 (by rfl) (by rfl) (by rfl) (by rfl) ?_;repeat' ((conv=>whnf);first|refine aR ank ?_|fail)
  all_goals(conv=>whnf)
  refine⟨Nat,λi=>⟨[(3,.av 3 (([]:List cg).map bW) false),(8,i64 0),(9,i64 i)],[]⟩,λi=>i=0,λi=>0,[],⟨0,rfl,?_⟩,?_⟩
  ·conv=>whnf
   exact⟨⟨.r,.r,.r,aj⟩,aj,by rfl⟩
  ·intro i hi;subst hi;repeat' ((conv=>whnf);first|exact .refl|fail)
 ·refine cp (fn:=Tryz.f140) (c:=Tryz.f140.body.getD .skip) az aw (by rfl) Tryz.func140 (by rfl) (by rfl) (by rfl) (by rfl) ?_;repeat' ((conv=>whnf);first|refine .inr ⟨[],bO (anj l (by omega) bx) ?_⟩|fail)
  all_goals(conv=>whnf)
  refine⟨Nat,λi=>⟨[(3,.own 0),(8,i64 l.length),(9,i64 i)],[.row 179 3 (l.map bW)]⟩,λi=>i<=l.length,λi=>l.length-i,[],⟨0,bZ _,?_⟩,?_⟩
  ·conv=>whnf
   exact⟨⟨.r,a8 (by simp),.r,aj⟩,⟨.r,aj⟩,by rfl⟩
  ·intro i hi;repeat' ((conv=>whnf);first| (apply bo<;>intro h)|exact .refl|fail)
   ·have aB:i<l.length:=by grind
    clear h;have gD:i<(l.map bW).length:=by grind
    have cL: (l.map bW)[i]?=some (bW l[i]):=by grind
    have lV:=Mf (f:=bW) aB;repeat' ((conv=>whnf);first|refine aR (pa _ (al _ (eD aB))) ?_|refine⟨i,aS ⟨rfl,gD⟩ ?_⟩|refine⟨bW l[i],aS cL ?_⟩|fail)
    all_goals(conv=>whnf)
    refine⟨i+1,aB,by grind,?_⟩;conv=>whnf
    refine⟨⟨.r,.r,a8 (ca (by omega)),aj⟩,⟨cM ?_,aj⟩,by rfl⟩;exact lV
theorem Sk(s:bi)(ae:ez s):bq Tryz.prog 83 [.agg (dg s)] (.agg (dg s)):=by
 have cX:=ae.mem;have c0:=ae.gT;have iu:=ae.prop;have ly:=ae.c4;have tW:=ae.dec;have sL:=ae.bu;have sM:∀b∈s.bu,b.cut.length<=1000000:=λb ac=>by have:=ae.mm b ac;omega
 have sN:=ae.aM;have vi:∀b∈s.aM,b.cut.length<=1000000:=λb ac=>by have:=ae.kf b ac;omega
 have lo:=ae.box;have iZ:=Rv (n:=(s.box.map ee).length) (by simp;omega);refine fX Tryz.func83 ?_;repeat' ((conv=>whnf);first|refine ch ?_|refine aR (r2 _ (by omega)) ?_|refine aR (pa _ (by omega)) ?_|refine aR (anl _ (by omega) (by assumption)) ?_|fail)
 all_goals(conv=>whnf)
 refine aS (by exact iZ) ?_;repeat' ((conv=>whnf);first|refine bl ?_|fail)
 all_goals(conv=>whnf)
 refine⟨Nat,λi=>⟨[(1,.aW 0 0),(2,.aW 1 0),(40,i64 s.box.length),(41,i64 i)],[.cells 53 [i64 s.self,i64 s.view.num,.av 1 (s.view.mem.map aU) false,i64 s.aL.cc,i64 s.aL.aC,.av 1 (s.aL.cut.map aU) false,.av 1 (s.prop.map aU) false,.own 7,i64 s.aC,i64 s.phase,.av 3 (s.bu.map bW) false,.av 1 (s.c4.map aU) false,.av 3 (s.aM.map bW) false,.av 1 (s.dec.map aU) false,i64 s.cD],.cells 53 (aE ah 53).zero,.bn,.bn,.bn,.bn,.bn,.row 201 2 (s.box.map ee)]⟩,λi=>i<=s.box.length,λi=>s.box.length-i,[],⟨0,bZ _,?_⟩,?_⟩
 ·conv=>whnf
  exact⟨⟨.r,.r,a8 (by simp),.r,aj⟩,⟨.r,.r,.r,.r,.r,.r,.r,.r,aj⟩,by rfl⟩
 ·intro i hi;repeat' ((conv=>whnf);first| (apply bo<;>intro h)|exact .refl|fail)
  ·have aB:i<s.box.length:=by simpa using h
   clear h;have gD:i<(s.box.map ee).length:=by rw[bL];exact aB
   have cL: (s.box.map ee)[i]?=some (ee s.box[i]):=by simp[aB]
   have lV:=Mf (f:=ee) aB;have Hk:=ae.kA _ (eD aB);repeat' ((conv=>whnf);first|refine ch ?_|refine aR (pa _ (by omega)) ?_|refine⟨i,aS ⟨rfl,gD⟩ ?_⟩|refine⟨ee s.box[i],aS cL ?_⟩|fail)
   all_goals(conv=>whnf)
   refine⟨i+1,aB,by simp only[];omega,?_⟩;conv=>whnf
   refine⟨⟨.r,.r,.r,a8 (ca (by omega)),aj⟩,⟨.r,.r,.r,.r,.r,.r,.r,cM ?_,aj⟩,by rfl⟩;exact lV
theorem aa1(s:Mem)(ae:hl s):bq Tryz.prog 52 [.agg (cv s)] (.agg (cv s)):=by
 have cX:=ae.cont;have c0:=ae.first
 have iu:=ae.hist;have ly:∀c∈s.hist,c.length<=1000000:=λc al=>by have:=ae.EC c al;omega
 have tW:=ae.view;have sL:=ae.sS;have sM:=ae.bV;have sN:=ae.als;have vi:=ae.dbts;refine fX Tryz.func52 ?_;repeat' ((conv=>whnf);first|exact .refl|refine ch ?_|refine aR (pa _ (by omega)) ?_|refine aR (aa0 _ (by omega) ly) ?_|refine aR (r2 _ (by omega)) ?_|refine aR (Sj _ (by omega)) ?_|refine aR (Hd _ (by omega)) ?_|refine aR (aaZ _ (by omega)) ?_|refine aR (Sk _ ae.agr) ?_|fail)
variable{s:Mem}{v:aK}
theorem vo(h:bP v.mem s.self=true):eR s v= {s with view:=v,als:=[],dbts:=[],status:=1,a7:=(ke v s.self).1,agr:=(lb v s.self).1}:=by
 rw[eR,h];rfl
theorem ED(h:bP v.mem s.self=false):eR s v= {s with view:=v,als:=[],dbts:=[],status:=2,a7:=pd,agr:=gf}:=by
 rw[eR,h];rfl
theorem anm(s:Mem)(v:aK)(ab:v.mem.length<=1000):cj Tryz.prog 45 [.cells 55 (cv s)] [.aW 0 0,.agg (cG v)] [true] [.cells 55 (cv (eR s v))] (.be []):=by
 have aA:=r2 v (by omega);have aG:=jt v.mem (bT ab (by decide)) s.self;have bc:=D6 v (bT ab (by decide)) s.self;have cn:=Ho v (by omega) s.self;by_cases cS:bP v.mem s.self=true
 ·rw[vo cS];generalize ke v s.self=N at *;generalize lb v s.self=Q at *;refine jV Tryz.func45 ?_;repeat' ((conv=>whnf);first|refine ht (by assumption) ?_|refine ch ?_|refine aR aA ?_|refine aR aG ?_|refine aR bc ?_|refine aR cn ?_|fail)
  all_goals(conv=>whnf)
  exact⟨.r,⟨mn ⟨.r,.r,.r,.r,.r,.r,.r,.r,.r,.r,.r,.r,.ar,.ar,.r,.r,.r,.r,.r,.r,.r,.r,.r,.r,.r,.r,.r,.r,.r,aj⟩,.r,aj⟩,by rfl⟩
 ·have cS:bP v.mem s.self=false:=by simpa using cS
  rw[ED cS];refine jV Tryz.func45 ?_;repeat' ((conv=>whnf);first|refine ft (by assumption) ?_|refine ch ?_|refine aR aA ?_|refine aR aG ?_|fail)
  all_goals(conv=>whnf)
  exact⟨.r,⟨mn ⟨.r,.r,.r,.r,.r,.r,.r,.r,.r,.r,.ar,.ar,.ar,.ar,.r,.r,.ar,.r,.r,.ar,.ar,.ar,.r,.r,.ar,.ar,.ar,.ar,.r,aj⟩,.r,aj⟩,by rfl⟩
theorem ann(s:Mem)(v:aK)(ab:v.mem.length<=1000):cj Tryz.prog 45 [.cells 116 (cv s++ [.ar])] [.aW 0 0,.agg (cG v)] [true] [.cells 116 (cv (eR s v)++ [.ar])] (.be []):=by
 have aA:=r2 v (by omega);have aG:=jt v.mem (bT ab (by decide)) s.self;have bc:=D6 v (bT ab (by decide)) s.self;have cn:=Ho v (by omega) s.self;by_cases cS:bP v.mem s.self=true
 ·rw[vo cS];generalize ke v s.self=N at *;generalize lb v s.self=Q at *;refine jV Tryz.func45 ?_;repeat' ((conv=>whnf);first|refine ht (by assumption) ?_|refine ch ?_|refine aR aA ?_|refine aR aG ?_|refine aR bc ?_|refine aR cn ?_|fail)
  all_goals(conv=>whnf)
  exact⟨.r,⟨mn ⟨.r,.r,.r,.r,.r,.r,.r,.r,.r,.r,.r,.r,.ar,.ar,.r,.r,.r,.r,.r,.r,.r,.r,.r,.r,.r,.r,.r,.r,.r,.r,aj⟩,.r,aj⟩,by rfl⟩
 ·have cS:bP v.mem s.self=false:=by simpa using cS
  rw[ED cS];refine jV Tryz.func45 ?_;repeat' ((conv=>whnf);first|refine ft (by assumption) ?_|refine ch ?_|refine aR aA ?_|refine aR aG ?_|fail)
  all_goals(conv=>whnf)
  exact⟨.r,⟨mn ⟨.r,.r,.r,.r,.r,.r,.r,.r,.r,.r,.ar,.ar,.ar,.ar,.r,.r,.ar,.r,.r,.ar,.ar,.ar,.r,.r,.ar,.ar,.ar,.ar,.r,.r,aj⟩,.r,aj⟩,by rfl⟩
theorem Mg{self:Int}(h: (!b2 v|| !bP v.mem self)=false):BP v self=(eR {dv with self:=self,first:=v} v,0):=by
 rw[BP,h];rfl
theorem ano(v:aK)(ab:v.mem.length<=1000)(self:Int):bq Tryz.prog 20 [.agg (cG v),i64 self] (.be [.agg (cv (BP v self).1),i64 (BP v self).2]):=by
 have aA:=q3 v (bT ab (by decide));have aG:=jt v.mem (bT ab (by decide)) self;have bc:=r2 v (by omega);have m1:=anm {dv with self:=self,first:=v} v ab;cases al: (!b2 v|| !bP v.mem self)
 ·rw[Mg al];generalize eR {dv with self:=self,first:=v} v=E at *;refine fX Tryz.func20 ?_;repeat' ((conv=>whnf);first|refine bl ?_|refine ft (by assumption) ?_|exact .refl|refine dE ?_|refine aR aA ?_|refine ea aG ?_|refine aR bc ?_|refine .inr ⟨[2],_,_,_,_,_,m1,by rfl,⟨mn ⟨.r,.r,.ar,.r,.r,.ar,.r,.ar,.r,.r,.ar,.ar,.ar,.ar,.r,.r,.ar,.r,.r,.ar,.ar,.ar,.r,.r,.ar,.ar,.ar,.ar,.r,aj⟩,aj⟩,⟨.r,.r,aj⟩,?_⟩|fail)
 ·have ax:BP v self=(dv,1):=by
   rw[BP,al];rfl
  rw[ax];refine fX Tryz.func20 ?_;repeat' ((conv=>whnf);first|refine bl ?_|refine ht (by assumption) ?_|refine dE ?_|refine aR aA ?_|refine ea aG ?_|fail)
  all_goals(conv=>whnf)
  exact e1 ⟨iQ ⟨.r,.r,.ar,.r,.ar,.ar,.r,.ar,.r,.r,.ar,.ar,.ar,.ar,.r,.r,.ar,.r,.r,.ar,.ar,.ar,.r,.r,.ar,.ar,.ar,.ar,.r,aj⟩,.r,aj⟩
theorem aa2(self:Int)(cont:List Int)(af:cont.length<=1000):bq Tryz.prog 21 [i64 self,.av 1 (cont.map aU) false] (.be [.agg (cv (zF self cont).1),i64 (zF self cont).2]):=by
 have aA:=BO self;have aG:=zb cont (bT af (by decide));have bc:=jt cont (bT af (by decide)) self;have cn:=pa cont (by omega);have aa:zF self cont=bif !mq self|| !dF cont 16||bP cont self then(dv,1)else({dv with self:=self,cont:=cont},0):=rfl;rw[aa];refine fX Tryz.func21 ?_;repeat' ((conv=>whnf);first|refine bl ?_| (apply bo<;>intro h)|refine dE ?_|refine aR aA ?_|refine ea aG ?_|refine ea bc ?_|refine aR cn ?_|fail)
 all_goals(conv=>whnf)
 ·rw[h];exact e1 ⟨iQ ⟨.r,.r,.ar,.r,.ar,.ar,.r,.ar,.r,.r,.ar,.ar,.ar,.ar,.r,.r,.ar,.r,.r,.ar,.ar,.ar,.r,.r,.ar,.ar,.ar,.ar,.r,aj⟩,.r,aj⟩
 ·rw[h];exact e1 ⟨iQ ⟨.r,.r,.r,.r,.ar,.ar,.r,.ar,.r,.r,.ar,.ar,.ar,.ar,.r,.r,.ar,.r,.r,.ar,.ar,.ar,.r,.r,.ar,.ar,.ar,.ar,.r,aj⟩,.r,aj⟩
theorem Sl:∀b a:List Int,(ky a b).length=a.length+b.length
 | [],a=>by rfl
 |x::b,a=>by
  have a1:=Sl b (a.dropWhile λy=> !decide (x<y));have e: (a.takeWhile λy=> !decide (x<y)).length+(a.dropWhile λy=> !decide (x<y)).length=a.length:=by
   rw[<-fw,UX]
  rw[ky,fw,l7,a1,l7];omega
theorem aa3(v:aK)(c:List Int): (er v c).1.mem.length<=16:=by
 unfold er;cases al: (!b2 v|| !dF c 32)
 ·rw[bD];cases ad:decide (2* ((mH v c).length:Int)<=(v.mem.length:Int))
  ·rw[bD];cases aN: (decide (v.num=1099511627776)||decide (16<((mH v c).length:Int)+((hd v c).length:Int)))
   ·rw[bD];simp only[iW,ib]at aN;simp only[Sl];omega
   ·simp
  ·simp
 ·simp
variable{first:aK}
theorem BQ(h:b2 first=true)(aI:List (List Int)):∀i,(dK first aI i).mem.length<=16
 |0=>(k8 h).2
 |i+1=>aa3 _ _
theorem x5(first:aK)(aI:List (List Int)):∀i,(kV first aI i).length=i+1
 |0=>rfl
 |i+1=>by rw[kV,fw,x5 first aI i];rfl
theorem BR(first:aK)(aI:List (List Int)):∀n i,i<=n->(kV first aI n)[i]?=some (dK first aI i)
 |0,i,h=>by
  have:i=0:=by omega
  subst this;rfl
 |n+1,i,h=>by
  rw[kV];by_cases hi:i<=n
  ·rw[sd (by rw[x5];omega)];exact BR first aI n i hi
  ·have:i=n+1:=by omega
   subst this;rw[w1 (by rw[x5];omega),x5,Ai];rfl
theorem BS(first:aK)(au:first.mem.length<=1000)(aI:List (List Int))(af:aI.length<=100000)(al:∀c∈aI,c.length<=100000):bq Tryz.prog 36 [.agg (cG first),.av 1 (aI.map c8) false] (.be [.av 2 ((jM first aI).1.map cG) false,.v (.bool (jM first aI).2)]):=by
 have aA:=q3 first (bT au (by decide))
 have aa:jM first aI=bif !b2 first||decide (400<(aI.length:Int))then([],false)else bif ij (r3 first aI) aI.length then(kV first aI aI.length,true)else([],false):=rfl
 refine cp (fn:=Tryz.f36) (c:=Tryz.f36.body.getD .skip) az aw (by rfl) Tryz.func36 (by rfl) (by rfl) (by rfl) (by rfl) ?_;repeat' ((conv=>whnf);first|refine bl ?_| (apply bo<;>intro h)|refine aR aA ?_|refine aR (r2 _ (by omega)) ?_|fail)
 all_goals(conv=>whnf)
 ·rw[bL]at h;rw[aa,h];exact e1 ⟨.ar,.r,aj⟩
 ·rw[bL]at h;rw[h,bD]at aa;rw[aa];have ab:b2 first=true:=by
   grind
  clear h;have hv:=BQ ab aI;have jn:=x5 first aI
  have gi:=BR first aI
  have cy:∀i,r3 first aI i=decide ((er (dK first aI i) (aI.getD i [])).2=0):=λi=>rfl
  have hx:∀i,dK first aI (i+1)=(er (dK first aI i) (aI.getD i [])).1:=λi=>rfl
  have has:∀i,kV first aI (i+1)=kV first aI i++ [dK first aI (i+1)]:=λi=>rfl
  have aQ:kV first aI 0=[first]:=rfl
  generalize dK first aI=V at *
  generalize r3 first aI=K at *
  generalize kV first aI=A at *
  refine⟨Nat,λi=>⟨[(6,.own 1),(22,.av 1 (aI.map c8) false),(23,i64 aI.length),(24,i64 i)],[.cells 24 (cG first),.row 24 2 ((A i).map cG)]⟩,λi=>i<=aI.length/\∀j,j<i->K j=true,λi=>aI.length-i,[],⟨0,⟨bZ _,by omega⟩,?_⟩,?_⟩
  ·conv=>whnf
   exact⟨⟨.r,.r,a8 (by simp),.r,aj⟩,⟨.r,cM (by rw[aQ];rfl),aj⟩,by rfl⟩
  ·intro i ⟨hi,cF⟩;have au5:=jn i;repeat' ((conv=>whnf);first| (apply bo<;>intro h)|fail)
   ·have aB:i<aI.length:=by grind
    clear h;have ax:aI.getD i []=aI[i]:=by grind
    have hk:=cy i;have aV:=hx i;rw[ax]at hk aV;have aG:=DX (V i) (by grind) aI[i] (by grind);have hlen:IntKind.i64.wrap ((((A i).map cG).length:Int)-1)=((i:Nat):Int):=by
     rw[bL,jn i,dQ (by omega) (by omega)];omega
    have gD:i<((A i).map cG).length:=by grind
    have cL: ((A i).map cG)[i]?=some (cG (V i)):=by
     grind
    repeat' ((conv=>whnf);first| (apply bo<;>intro h)|refine⟨_,_,aS ⟨rfl,du aB⟩ ?_⟩|refine⟨i,aS ⟨hlen,gD⟩ ?_⟩|refine⟨cG (V i),aS cL ?_⟩|refine aR aG ?_|refine aS (ang (by simp<;>omega)) ?_|fail)
    all_goals(conv=>whnf)
    all_goals(conv=>whnf)
    ·have Sm:K i=false:=by grind
     rw[tF aB Sm];exact e1 ⟨.ar,.r,aj⟩
    ·have ve:K i=true:=by grind
     refine⟨i+1,⟨aB,λj aq=> ?_⟩,by grind,?_⟩
     ·grind
     ·conv=>whnf
      refine⟨⟨.r,.r,.r,a8 (ca (by omega)),aj⟩,⟨.r,cM ?_,aj⟩,by rfl⟩;rw[has,ew,aV];rfl
   ·have:i=aI.length:=by
     grind
    subst this;clear h;rw[iA.2 (λj aq=>cF j aq),b6];repeat' ((conv=>whnf);first|exact .refl|fail)
def ki:iD:=⟨0,0⟩
def Mh(s:Mem)(i:Nat):Bool:= !(decide ((s.dbts.getD i ki).bG<=(0::s.dbts.map (·.bG)).getD i 0)||decide ((s.dbts.getD i ki).bG=s.self)|| !bP (ev s.view s.als false) (s.dbts.getD i ki).bG||decide ((s.dbts.getD i ki).j0<1)||decide (6<(s.dbts.getD i ki).j0))
def BT(s:Mem):Bool:=ij (Mh s) s.dbts.length
theorem anp(s:Mem)(ae:hl s):bq Tryz.prog 65 [.agg (cv s)] (.v (.bool (BT s))):=by
 have aA:=EA s.view (bT ae.view (by decide)) s.als (by have:=ae.als;omega);have anq: (ev s.view s.als false).length<=6000:=bT (HM _ _ _) ae.als;have pV:=ae.dbts;have cy:∀i,Mh s i= !(decide ((s.dbts.getD i ki).bG<=(0::s.dbts.map (·.bG)).getD i 0)||decide ((s.dbts.getD i ki).bG=s.self)|| !bP (ev s.view s.als false) (s.dbts.getD i ki).bG||decide ((s.dbts.getD i ki).j0<1)||decide (6<(s.dbts.getD i ki).j0)):=λ_=>rfl;generalize ev s.view s.als false=U at *;unfold BT;generalize Mh s=K at *;obtain⟨F,eZ⟩:∃F:Nat->Int,∀i,F i=(0::s.dbts.map (·.bG)).getD i 0:=⟨_,λ_=>rfl⟩
 refine cp (fn:=Tryz.f65) (c:=Tryz.f65.body.getD .skip) az aw (by rfl) Tryz.func65 (by rfl) (by rfl) (by rfl) (by rfl) ?_;repeat' ((conv=>whnf);first|refine aR aA ?_|fail)
 all_goals(conv=>whnf)
 refine⟨Nat,λi=>⟨[(1,.aW 0 0),(3,.av 1 (U.map aU) false),(4,i64 (F i)),(13,.av 2 (s.dbts.map dR) false),(14,i64 s.dbts.length),(15,i64 i)],[.cells 55 (cv s)]⟩,λi=>i<=s.dbts.length/\∀j,j<i->K j=true,λi=>s.dbts.length-i,[],⟨0,⟨bZ _,by omega⟩,?_⟩,?_⟩
 ·conv=>whnf
  exact⟨⟨.r,.r,a8 (by grind),.r,a8 (by simp),.r,aj⟩,⟨.r,aj⟩,by rfl⟩
 ·intro i ⟨hi,cF⟩;repeat' ((conv=>whnf);first| (apply bo<;>intro h)|fail)
  ·have aB:i<s.dbts.length:=by grind
   clear h;have ax:s.dbts.getD i ki=s.dbts[i]:=by grind
   have hk:=cy i;have Mi:F (i+1)=s.dbts[i].bG:=by
    grind
   rw[ax,<-eZ]at hk;have aG:=Yw U (bT anq (by decide)) s.dbts[i].bG;repeat' ((conv=>whnf);first|refine bl ?_| (apply bo<;>intro h)|refine dE ?_|refine⟨_,_,aS ⟨rfl,du aB⟩ ?_⟩|refine ea aG ?_|fail)
   all_goals(conv=>whnf)
   ·have Sm:K i=false:=by grind
    rw[tF aB Sm];exact .refl
   ·have ve:K i=true:=by grind
    refine⟨i+1,⟨aB,λj aq=> ?_⟩,by grind,?_⟩
    ·grind
    ·conv=>whnf
     exact⟨⟨.r,.r,a8 Mi.symm,.r,.r,a8 (ca (by omega)),aj⟩,⟨.r,aj⟩,by rfl⟩
  ·have:i=s.dbts.length:=by
    grind
   subst this;clear h;rw[iA.2 (λj aq=>cF j aq)];repeat' ((conv=>whnf);first|exact .refl|fail)
def anr(a:bi):Bool:=decide (a.self=0)&&l0 a.view lZ&&decide (a.aL.cc=0)&&decide (a.aL.aC=0)&&decide ((a.aL.cut.length:Int)=0)&&decide ((a.prop.length:Int)=0)&&decide ((a.box.length:Int)=0)&&decide (a.aC=0)&&decide (a.phase=0)&&decide ((a.bu.length:Int)=0)&&decide ((a.c4.length:Int)=0)&&decide ((a.aM.length:Int)=0)&&decide ((a.dec.length:Int)=0)&&decide (a.cD=0)
def x6(s:Mem):Bool:=anr s.agr&&decide (s.a7.self=0)&&l0 s.a7.view lZ&&decide ((s.a7.bV.length:Int)=0)&&decide ((s.als.length:Int)=0)&&decide ((s.dbts.length:Int)=0)
theorem ans(s:Mem)(ae:hl s):bq Tryz.prog 35 [.agg (cv s)] (.v (.bool (x6 s))):=by
 have aA:=x4 s.agr.view lZ (bT ae.agr.mem (by decide));have aG:=x4 s.a7.view lZ (bT ae.sS (by decide));refine cp (fn:=Tryz.f35) (c:=Tryz.f35.body.getD .skip) az aw (by rfl) Tryz.func35 (by rfl) (by rfl) (by rfl) (by rfl) ?_;repeat' ((conv=>whnf);first|refine bl ?_|refine dE ?_|refine⟨[.agg (cG s.agr.view),.agg (cG lZ)],_,⟨.r,iQ ⟨.r,.ar,aj⟩,aj⟩,λ_=>aA,?_⟩|refine⟨[.agg (cG s.a7.view),.agg (cG lZ)],_,⟨.r,iQ ⟨.r,.ar,aj⟩,aj⟩,λ_=>aG,?_⟩|fail)
 all_goals(conv=>whnf)
 all_goals refine gQ ?_
 all_goals simp only[bL]
 rfl
def zG(s:Mem):Bool:=bP s.view.mem s.self&&pN s.a7&&decide (s.a7.self=s.self)&&l0 s.a7.view s.view&&fI s.agr&&decide (s.agr.self=s.self)&&l0 s.agr.view s.view&&decide ((s.agr.dec.length:Int)=0)&&dG s.view s.als&&BT s
theorem ant(s:Mem)(ae:hl s):bq Tryz.prog 37 [.agg (cv s)] (.v (.bool (zG s))):=by
 have aA:=jt s.view.mem (bT ae.view (by decide)) s.self;have aG:=QH s.a7 (bT ae.sS (by decide)) (bT ae.bV (by decide));have bc:=x4 s.a7.view s.view (bT ae.sS (by decide));have cn:=pe s.agr ae.agr;have ep:=x4 s.agr.view s.view (bT ae.agr.mem (by decide));have iI:=D9 s.view (bT ae.view (by decide)) s.als (bT ae.als (by decide));have mr:=anp s ae;refine cp (fn:=Tryz.f37) (c:=Tryz.f37.body.getD .skip) az aw (by rfl) Tryz.func37 (by rfl) (by rfl) (by rfl) (by rfl) ?_;repeat' ((conv=>whnf);first|refine bl ?_|refine dE ?_|refine aR aA ?_|refine ea aG ?_|refine ea bc ?_|refine ea cn ?_|refine ea ep ?_|refine ea iI ?_|refine ea mr ?_|fail)
 all_goals(conv=>whnf)
 all_goals refine gQ ?_
 all_goals simp only[bL]
 rfl
def pk(s:Mem):Bool:=
 bif !mq s.self then false
 else bif decide (s.status=0)then dF s.cont 16&& !bP s.cont s.self&&l0 s.first lZ&&decide ((s.hist.length:Int)=0)&&l0 s.view lZ&&x6 s
 else bif !(jM s.first s.hist).2||decide (0<(s.cont.length:Int))|| !l0 (dK s.first s.hist s.hist.length) s.view then false
 else bif decide (s.status=1)then zG s
 else bif decide (s.status=2)then !bP s.view.mem s.self&&x6 s
 else false
variable{aI:List (List Int)}
theorem zH(h: (jM first aI).2=true):b2 first=true/\aI.length<=400/\(∀i,i<aI.length->r3 first aI i=true)/\jM first aI=(kV first aI aI.length,true):=by
 have aa:jM first aI=bif !b2 first||decide (400<(aI.length:Int))then([],false)else bif ij (r3 first aI) aI.length then(kV first aI aI.length,true)else([],false):=rfl
 cases al: (!b2 first||decide (400<(aI.length:Int)))
 ·rw[al,bD]at aa;cases bb:ij (r3 first aI) aI.length
  ·grind
  ·rw[bb,b6]at aa;simp only[iW,mw,ib]at al;exact⟨al.1,by omega,iA.1 bb,aa⟩
 grind
theorem wO(s:Mem)(ae:hl s):bq Tryz.prog 14 [.agg (cv s)] (.v (.bool (pk s))):=by
 have aA:=BO s.self;have aG:=zb s.cont (bT ae.cont (by decide));have bc:=jt s.cont (bT ae.cont (by decide)) s.self;have cn:=x4 s.first lZ (bT ae.first (by decide))
 have ep:=x4 s.view lZ (bT ae.view (by decide));have iI:=ans s ae;have mr:=BS s.first ae.first s.hist (by have:=ae.hist;omega) (λc al=>by have:=ae.EC c al;omega)
 have qx:=ant s ae;have ue:=jt s.view.mem (bT ae.view (by decide)) s.self;have aa:pk s=bif !mq s.self then false
  else bif decide (s.status=0)then dF s.cont 16&& !bP s.cont s.self&&l0 s.first lZ&&decide ((s.hist.length:Int)=0)&&l0 s.view lZ&&x6 s
  else bif !(jM s.first s.hist).2||decide (0<(s.cont.length:Int))|| !l0 (dK s.first s.hist s.hist.length) s.view then false
  else bif decide (s.status=1)then zG s
  else bif decide (s.status=2)then !bP s.view.mem s.self&&x6 s
  else false:=rfl
 have zw:=zH (first:=s.first) (aI:=s.hist);have anu:=BR s.first s.hist s.hist.length s.hist.length (bS _)
 have ix:=x5 s.first s.hist s.hist.length
 have jl:b2 s.first=true->(dK s.first s.hist s.hist.length).mem.length<=16:=λh=>BQ h _ _
 generalize dK s.first s.hist s.hist.length=L at *
 generalize kV s.first s.hist s.hist.length=A at *
 generalize jM s.first s.hist=R at *
 generalize x6 s=em at *;generalize zG s=jd at *;have hlen:R.2=true->IntKind.i64.wrap (((R.1.map cG).length:Int)-1)=((s.hist.length:Nat):Int)/\(R.1.map cG)[s.hist.length]?=some (cG L):=λh=>by
  obtain⟨cH,a2,_,a4⟩:=zw h;rw[a4];simp only[];rw[bL,ix,dQ (by omega) (by omega)]
  grind
 have b1:∀ {b:Bool},(!(!R.2||b))=true->R.2=true:=λh=>by
  grind
 refine cp (fn:=Tryz.f14) (c:=Tryz.f14.body.getD .skip) az aw (by rfl) Tryz.func14 (by rfl) (by rfl) (by rfl) (by rfl) ?_;repeat' ((conv=>whnf);first|refine bl ?_| (apply bo<;>intro h)|refine ch ?_|refine dE ?_|refine aR aA ?_|refine aR aG ?_|refine ea bc ?_|refine⟨[.agg (cG s.first),.agg (cG lZ)],_,⟨.r,iQ ⟨.r,.ar,aj⟩,aj⟩,λ_=>cn,?_⟩|refine⟨[.agg (cG s.view),.agg (cG lZ)],_,⟨.r,iQ ⟨.r,.ar,aj⟩,aj⟩,λ_=>ep,?_⟩|refine ea iI ?_|refine aR mr ?_|refine aR qx ?_|refine aR ue ?_|refine⟨s.hist.length,cG L,aS ⟨⟨λh=>h,λh=>h⟩,λax=>hlen (b1 ax)⟩ ?_⟩|refine⟨_,_,Aq _,λax=>x4 L s.view (bT (jl (zw (b1 ax)).1) (by decide)),?_⟩|fail)
 all_goals(conv=>whnf)
 all_goals clear aA aG bc cn ep iI mr qx ue zw hlen anu ix jl b1
 all_goals refine gQ ?_
 all_goals grind
def HR(s:Mem):List aK:=bif !pk s||decide (s.status=0)then []else(jM s.first s.hist).1
theorem anv(s:Mem)(ae:hl s):bq Tryz.prog 25 [.agg (cv s)] (.av 2 ((HR s).map cG) false):=by
 have aA:=wO s ae;have mr:=BS s.first ae.first s.hist (by have:=ae.hist;omega) (λc al=>by have:=ae.EC c al;omega)
 have aa:HR s=bif !pk s||decide (s.status=0)then []else(jM s.first s.hist).1:=rfl;generalize jM s.first s.hist=R at *
 generalize pk s=QN at *;refine cp (fn:=Tryz.f25) (c:=Tryz.f25.body.getD .skip) az aw (by rfl) Tryz.func25 (by rfl) (by rfl) (by rfl) (by rfl) ?_;repeat' ((conv=>whnf);first|refine bl ?_| (apply bo<;>intro h)|refine aR aA ?_|refine aR mr ?_|fail)
 all_goals(conv=>whnf)
 all_goals rw[aa,h]
 ·exact .ar
 ·exact .refl
def jN(l:List (List Int)):List Nat:=l.flatMap gg
def qy(first:aK)(aI:List (List Int)):List Nat:=jz first++(bB aI.length++jN aI)
def mL(c:List Int):Prop:=c.length<=32/\∀v∈c,-1<=v/\v<=1099511627776
theorem HS{c:List Int}(h:mL c): (gg c).length<=330:=by
 have h1:=BK c;have ad: (bB c.length).length<=10:=hP 9 _;have:=h.1;unfold gg
 grind
theorem BU:∀ {l:List (List Int)},(∀c∈l,mL c)->(jN l).length<=330*l.length
 | [],_=>by simp[jN]
 |c::l,h=>by
  have h1:=HS (h c (by simp));have ad:=BU (l:=l) (λc al=>h c (by grind));have e:jN (c::l)=gg c++jN l:=rfl
  grind
theorem anw{l:List (List Int)}{i:Nat}(h:i<l.length):jN (l.drop i)=gg l[i]++jN (l.drop (i+1)):=by
 rw[vK h];rfl
theorem anx(first:aK)(aI:List (List Int))(ab:b2 first=true)(aV:aI.length<=400)(al:∀c∈aI,mL c)(cy: (jM first aI).2=true):
  cj Tryz.prog 78 [.cells 135 (vn (qy first aI))] [.aW 0 0] [true] [.cells 135 (vn [])] (.be [.agg (cG first),.av 1 (aI.map c8) false]):=by
 have hv:=k8 ab;have jl:=EB first ab
 have jg:=BU al;have i0: (bB aI.length).length<=10:=hP 9 _;have aA:=anc first ab (bB aI.length++jN aI) (by grind)
 have aG:=HQ (qy first aI) (jz first).length (by unfold qy;simp);have bc:=BM aI.length (by omega) (jN aI) (by omega);have cn:=BS first (by omega) aI (by omega) (λc h=>by have:=(al c h).1;omega)
 have aa: (qy first aI).drop (jz first).length=bB aI.length++jN aI:=by unfold qy;simp
 rw[aa]at aG;rw[cy]at cn;unfold qy at *;refine ik (fn:=Tryz.f78) (c:=Tryz.f78.body.getD .skip) az aw (by rfl) Tryz.func78 (by rfl) (by rfl) (by rfl) (by rfl) (by rfl) ?_;repeat' ((conv=>whnf);first|refine aR aA ?_|refine .inr ⟨[0],bO aG ?_⟩|refine .inr ⟨[0],bO bc ?_⟩|fail)
 all_goals(conv=>whnf)
 refine⟨Nat,λi=>⟨[(0,.aW 0 0),(2,.aW 2 0),(4,.aW 3 0),(7,.own 4),(8,i64 ((aI.length:Int)-i))],[.cells 135 (vn (jN (aI.drop i))),.cB [.aW 0 0],.cells 24 (cG lZ),.cells 24 (cG first),.row 22 1 ((aI.take i).map c8)]⟩,λi=>i<=aI.length,λi=>aI.length-i,[.h4 7 22 1],⟨0,bZ _,?_⟩,?_⟩
 ·conv=>whnf
  refine⟨⟨.r,.r,.r,.r,a8 (by simp),aj⟩,⟨.r,.r,mn ⟨.r,.ar,aj⟩,.r,.r,aj⟩,by rfl⟩
 ·intro i hi;repeat' ((conv=>whnf);first|refine bl ?_| (apply bo<;>intro h)|fail)
  ·have aB:i<aI.length:=by
    grind
   clear h;have aH:=al _ (eD aB);have gG:=BU (l:=aI.drop (i+1)) (λc h=>al c (CM h));rw[ru]at gG;have ep:=aaY aI[i] aH.1 aH.2 (jN (aI.drop (i+1))) (by omega);rw[<-anw aB]at ep;repeat' ((conv=>whnf);first|refine .inr ⟨[0],bO ep ?_⟩|refine aS (BN (by simp<;>omega)) ?_|fail)
   all_goals(conv=>whnf)
   refine⟨i+1,aB,by grind,?_⟩;conv=>whnf
   refine⟨⟨.r,.r,.r,.r,a8 (by rw[dQ (by omega) (by omega)];omega),aj⟩,⟨.r,.r,.r,.r,cM ?_,aj⟩,by rfl⟩;rw[fA aB,ew];rfl
  ·have:i=aI.length:=by
    grind
   subst this;clear h;rw[gn,CB];repeat' ((conv=>whnf);first|refine aR cn ?_|fail)
   all_goals(conv=>whnf)
   exact⟨.r,⟨.r,.r,aj⟩,by rfl⟩
structure sT where
 kind:Int
 num:Int
 set:List bR
 agr:c1
 first:aK
 aI:List (List Int)
def kj(m:sT):List ak:=[i64 m.kind,i64 m.num,.av 4 (m.set.map ey) false,i64 m.agr.kind,i64 m.agr.view,i64 m.agr.src,i64 m.agr.aC,i64 m.agr.cU,.av 1 (m.agr.cut.map aU) false,i64 m.first.num,.av 1 (m.first.mem.map aU) false,.av 1 (m.aI.map c8) false]
def Mj:c1:=⟨0,0,0,0,0,[]⟩
def y7(num:Int):sT:=⟨1,num,[],Mj,lZ,[]⟩
def vp(first:aK)(aI:List (List Int)):sT:=⟨4,0,[],Mj,first,aI⟩
def Mk(num:Int):List Nat:=eu 1 (bB num.toNat)
def r4(first:aK)(aI:List (List Int)):List Nat:=eu 4 (qy first aI)
theorem aa4(s:Mem)(num:Int)(h1:0<=num)(ad:num<=1099511627776):bq Tryz.prog 51 [.agg (cv s),.av 1 ((Mk num).map bE) false] (.be [.agg (kj (y7 num)),.v (.bool true)]):=by
 have i0: (bB num.toNat).length<=10:=hP 9 _;have aA:=Hg 1 (by omega) (by omega) (bB num.toNat) (by omega);have aG:=BM num.toNat (by omega) [] (by simp);rw[jQ]at aG;have aV: ((num.toNat:Nat):Int)=num:=by omega
 rw[aV]at aG;have l1: (!decide ((0:Int)=0)|| !decide (((eu 1 (bB num.toNat)).length:Int)=(((eu 1 (bB num.toNat)).map bE).length:Int)))=false:=by simp
 unfold Mk;generalize eu 1 (bB num.toNat)=W at *;refine cp (fn:=Tryz.f51) (c:=Tryz.f51.body.getD .skip) az aw (by rfl) Tryz.func51 (by rfl) (by rfl) (by rfl) (by rfl) ?_;repeat' ((conv=>whnf);first|refine bl ?_|refine ft (by assumption) ?_|refine ch ?_|refine dE ?_|refine aR aA ?_|refine .inr ⟨[2],bO aG ?_⟩|fail)
 all_goals(conv=>whnf)
 exact e1 ⟨iQ ⟨.r,.r,.ar,.r,.r,.r,.r,.r,.ar,.r,.ar,.ar,aj⟩,gQ rfl,aj⟩
theorem aa5(ab:b2 first=true)(aV:aI.length<=400)(al:∀c∈aI,mL c): (qy first aI).length<=200000:=by
 have jl:=EB first ab
 have jg:=BU al;have i0: (bB aI.length).length<=10:=hP 9 _;unfold qy
 grind
theorem HT(s:Mem)(first:aK)(aI:List (List Int))(ab:b2 first=true)(aV:aI.length<=400)(al:∀c∈aI,mL c)(cy: (jM first aI).2=true):bq Tryz.prog 51 [.agg (cv s),.av 1 ((r4 first aI).map bE) false] (.be [.agg (kj (vp first aI)),.v (.bool true)]):=by
 have Sn:=aa5 ab aV al;have aA:=Hg 4 (by omega) (by omega) (qy first aI) (by omega);have aG:=anx first aI ab aV al cy
 have l1: (!decide ((0:Int)=0)|| !decide (((eu 4 (qy first aI)).length:Int)=(((eu 4 (qy first aI)).map bE).length:Int)))=false:=by simp
 unfold r4;generalize eu 4 (qy first aI)=W at *;refine cp (fn:=Tryz.f51) (c:=Tryz.f51.body.getD .skip) az aw (by rfl) Tryz.func51 (by rfl) (by rfl) (by rfl) (by rfl) ?_;repeat' ((conv=>whnf);first|refine bl ?_|refine ft (by assumption) ?_|refine ch ?_|refine dE ?_|refine aR aA ?_|refine .inr ⟨[2],bO aG ?_⟩|fail)
 all_goals(conv=>whnf)
 exact e1 ⟨iQ ⟨.r,.r,.ar,.r,.r,.r,.r,.r,.ar,.r,.r,.r,aj⟩,gQ rfl,aj⟩
structure ei where
 dd:Int
 frame:List Nat
def gh(p:ei):List ak:=[i64 p.dd,.av 1 (p.frame.map bE) false]
theorem Sp(h:n<=2000000):kL ah 121 n:=by
 have e: (aE ah 121).bytes=32:=by rfl
 refine⟨?_,?_⟩
 ·grind
 ·simp only[maxLen];omega
theorem anz(s:Mem)(aZ:List ei)(oI:aZ.length<=100000)(dd:Int)(k:Nat)(jk:1<=k)(hk:k<=255)(b:List Nat)(ac:b.length<=800000):
  cj Tryz.prog 55 [.cells 116 (cv s++ [.own 1]),.row 121 2 (aZ.map gh)] [.aW 0 0,i64 dd,i64 k,.av 1 (b.map bE) false] [true,false] [.cells 116 (cv s++ [.own 1]),.row 121 2 ((aZ++ [ei.mk dd (eu k b)]).map gh),.bn] (.be []):=by
 have aA:=Y3 k jk hk b ac;generalize eu k b=W at *;refine ik (fn:=Tryz.f55) (c:=Tryz.f55.body.getD .skip) az aw (by rfl) Tryz.func55 (by rfl) (by rfl) (by rfl) (by rfl) (by rfl) ?_;repeat' ((conv=>whnf);first|refine aR aA ?_|refine aS (Sp (by simp<;>omega)) ?_|fail)
 all_goals(conv=>whnf)
 refine⟨.r,⟨.r,cM ?_,nJ,aj⟩,by rfl⟩;rw[ew];rfl
theorem aa6(s:Mem)(aa:s.agr.dec=[]):bq Tryz.prog 90 [.da (cv s++ [.ar])] (.v (.bool false)):=by
 have aQ:decide (((s.agr.dec.map aU).length:Int)=0)=true:=by grind
 refine cp (fn:=Tryz.f90) (c:=Tryz.f90.body.getD .skip) az aw (by rfl) Tryz.func90 (by rfl) (by rfl) (by rfl) (by rfl) ?_;repeat' ((conv=>whnf);first|refine ht (by assumption) ?_|exact .refl|fail)
theorem anA(U:List Int):bq Tryz.prog 200 [.av 2 (([]:List iD).map dR) false,.fn (.func 157) [.da [.av 1 (U.map aU) false]]] (i64 (-1)):=by
 refine cp (fn:=Tryz.f200) (c:=Tryz.f200.body.getD .skip) az aw (by rfl) Tryz.func200 (by rfl) (by rfl) (by rfl) (by rfl) ?_;repeat' ((conv=>whnf);first|refine bl ?_|fail)
 all_goals(conv=>whnf)
 refine⟨Nat,λi=>⟨[(0,.av 2 (([]:List iD).map dR) false),(1,.fn (.func 157) [.da [.av 1 (U.map aU) false]]),(7,i64 0),(8,i64 i)],[]⟩,λi=>i=0,λi=>0,[],⟨0,rfl,?_⟩,?_⟩
 ·conv=>whnf
  exact⟨⟨.r,.r,.r,.r,aj⟩,aj,by rfl⟩
 ·intro i hi;subst hi;repeat' ((conv=>whnf);first|exact .refl|fail)
theorem anB(U:List Int):bq Tryz.prog 156 [.av 2 (([]:List iD).map dR) false,.fn (.func 157) [.da [.av 1 (U.map aU) false]]] (.av 2 (([]:List iD).map dR) false):=by
 have aA:=anA U;refine cp (fn:=Tryz.f156) (c:=Tryz.f156.body.getD .skip) az aw (by rfl) Tryz.func156 (by rfl) (by rfl) (by rfl) (by rfl) ?_;repeat' ((conv=>whnf);first|exact .refl|refine aR aA ?_|fail)
theorem aa7(s:Mem)(ae:hl s)(aa:s.dbts=[]):cj Tryz.prog 91 [.cells 116 (cv s++ [.ar])] [.aW 0 0] [true] [.cells 116 (cv s++ [.ar])] (.be []):=by
 have aA:=EA s.view (bT ae.view (by decide)) s.als (by have:=ae.als;omega);have ql:s.dbts.map dR=([]:List iD).map dR:=by rw[aa]
 generalize ev s.view s.als false=U at *;have aG:=anB U;rw[<-ql]at aG;refine ik (fn:=Tryz.f91) (c:=Tryz.f91.body.getD .skip) az aw (by rfl) Tryz.func91 (by rfl) (by rfl) (by rfl) (by rfl) (by rfl) ?_;repeat' ((conv=>whnf);first|refine ch ?_|refine aR aA ?_|refine aR aG ?_|fail)
 all_goals(conv=>whnf)
 exact⟨.r,⟨.r,.r,aj⟩,by rfl⟩
theorem anC(s:Mem)(ae:hl s)(aa:s.dbts=[])(rj:ev s.view s.als false=[]):cj Tryz.prog 95 [.cells 116 (cv s++ [.ar])] [.aW 0 0] [true] [.cells 116 (cv s++ [.ar])] (.be []):=by
 have aA:=EA s.view (bT ae.view (by decide)) s.als (by have:=ae.als;omega);rw[rj]at aA;have aG:=aa7 s ae aa;obtain⟨self,status,cont,first,hist,view,a7,als,dbts,agr⟩:=s;simp only at aa;subst aa;refine ik (fn:=Tryz.f95) (c:=Tryz.f95.body.getD .skip) az aw (by rfl) Tryz.func95 (by rfl) (by rfl) (by rfl) (by rfl) (by rfl) ?_;repeat' ((conv=>whnf);first|refine ch ?_|refine aR aA ?_|fail)
 all_goals(conv=>whnf)
 refine⟨Nat,λi=>⟨[(0,.aW 0 0),(2,.ar),(3,.ar),(22,.av 1 (([]:List Int).map aU) false),(23,i64 0),(24,i64 i)],[.cells 116 (cv ⟨self,status,cont,first,hist,view,a7,als,[],agr⟩++ [.ar]),.cB [.aW 0 0]]⟩,λi=>i=0,λi=>0,[],⟨0,rfl,?_⟩,?_⟩
 ·conv=>whnf
  exact⟨⟨.r,.r,.r,.r,.r,.r,aj⟩,⟨.r,.r,aj⟩,by rfl⟩
 ·intro i hi;subst hi;repeat' ((conv=>whnf);first|refine bl ?_|fail)
  all_goals(conv=>whnf)
  refine⟨Nat,λi=>⟨[(0,.aW 0 0),(78,.ar),(79,i64 0),(80,i64 i)],[.cells 116 (cv ⟨self,status,cont,first,hist,view,a7,als,[],agr⟩++ [.ar]),.cB [.aW 0 0]]⟩,λi=>i=0,λi=>0,[],⟨0,rfl,?_⟩,?_⟩
  ·conv=>whnf
   exact⟨⟨.r,.r,.r,.r,aj⟩,⟨mn ⟨.r,.r,.r,.r,.r,.r,.r,.r,.r,.r,.r,.r,.r,.ar,.r,.r,.r,.r,.r,.r,.r,.r,.r,.r,.r,.r,.r,.r,.r,.r,aj⟩,.r,aj⟩,by rfl⟩
  ·intro i hi;subst hi;repeat' ((conv=>whnf);first|refine .inr ⟨[0],bO aG ?_⟩|fail)
   all_goals(conv=>whnf)
   exact⟨.r,⟨.r,.r,aj⟩,by rfl⟩
theorem anD(s:Mem):cj Tryz.prog 89 [.cells 116 (cv s++ [.ar])] [.aW 0 0,.av 7 (([]:List dN).map fu) false] [true] [.cells 116 (cv s++ [.ar])] (.be []):=by
 refine ik (fn:=Tryz.f89) (c:=Tryz.f89.body.getD .skip) az aw (by rfl) Tryz.func89 (by rfl) (by rfl) (by rfl) (by rfl) (by rfl) ?_;repeat' ((conv=>whnf);first|refine bl ?_|fail)
 all_goals(conv=>whnf)
 refine⟨Nat,λi=>⟨[(0,.aW 0 0),(13,.av 7 (([]:List dN).map fu) false),(14,i64 0),(15,i64 i)],[.cells 116 (cv s++ [.ar]),.cB [.aW 0 0]]⟩,λi=>i=0,λi=>0,[],⟨0,rfl,?_⟩,?_⟩
 ·conv=>whnf
  exact⟨⟨.r,.r,.r,.r,aj⟩,⟨.r,.r,aj⟩,by rfl⟩
 ·intro i hi;subst hi;repeat' ((conv=>whnf);first|refine bl ?_|fail)
  all_goals(conv=>whnf)
  exact⟨.r,⟨.r,.r,aj⟩,by rfl⟩
theorem Sq(ms:List Int)(af:ms.length<=maxLen)(x:Int):cj Tryz.prog 100 [] [.av 1 (ms.map aU) false,i64 x] [] [.row 3 1 ((cQ ms x).map aU)] (.own 0):=by
 have aA:=zb ms af;have aG:=QA x;have n1:dF ms 16=true->∀r:Nat,r<5->bq Tryz.prog 169 [.av 1 (ms.map aU) false,.fn (.func 170) [.da [u64 (fo r x)],.da [i64 r]]] (i64 (mj ms x r)):=λab r ao=>YI ms ab r ao x;have oF:∀r:Nat,bq Tryz.prog 168 [i64 r,i64 x] (u64 (fo r x)):=λr=>G4 r x;have aH:cQ ms x=bif !dF ms 16|| !(decide (1<=x)&&decide (x<=1000))|| (decide ((ms.length:Int)=1)&&decide (ms.getD 0 0=x))then []else(List.range 5).map (mj ms x):=rfl;have ax:∀c:Bool,(c&&decide (((ms.map aU).length:Int)=1))=true->(ms.map aU)[0]?=some (aU (ms.getD 0 0)):=λc h=>by
  grind
 generalize mj ms x=A at n1 aH;generalize cQ ms x=R at aH⊢;generalize dF ms 16=cX at *;generalize(decide (1<=x)&&decide (x<=1000))=c0 at *;generalize df: (λr:Nat=>fo r x)=P;have df:∀r:Nat,fo r x=P r:=λr=>by grind
 simp only[df]at n1 oF;clear df;refine tG (fn:=Tryz.f100) (c:=Tryz.f100.body.getD .skip) az aw (by rfl) Tryz.func100 (by rfl) (by rfl) (by rfl) (by rfl) (by rfl) ?_;repeat' ((conv=>whnf);first|refine bl ?_| (apply bo<;>intro h)|refine dE ?_|refine aR aA ?_|refine ea aG ?_|refine⟨0,aU (ms.getD 0 0),aS ⟨λh=>h,λh=>⟨rfl,ax _ h⟩⟩ ?_⟩|fail)
 all_goals(conv=>whnf)
 ·rw[bL]at h;rw[aH,h];refine⟨[.h4 4 3 1],?_⟩;conv=>whnf
  exact⟨.r,⟨.r,aj⟩,by rfl⟩
 ·rw[bL]at h;rw[h,bD]at aH;have ac:cX=true:=by
   grind
  have n1:=n1 ac;clear h ax;subst aH;refine⟨Nat,λi=>⟨[(0,.av 1 (ms.map aU) false),(1,i64 x),(5,.own 0),(28,i64 i)],[.row 3 1 (((List.range i).map A).map aU)]⟩,λi=>i<=5,λi=>5-i,[.h4 5 3 1],⟨0,bZ _,?_⟩,?_⟩
  ·exact⟨by repeat' ((conv=>whnf);first|exact trivial|refine aS (by(conv=>arg 1;whnf);first| (with_reducible exact .refl)|exact a8 (ca (by omega))|exact .refl) ?_|fail),by repeat' ((conv=>whnf);first|exact trivial|refine aS ?_ ?_|exact .refl|fail),rfl⟩
  ·intro i hi;repeat' ((conv=>whnf);first| (apply bo<;>intro h)|fail)
   ·have aB:i<5:=by
     grind
    clear h;have e:=n1 i aB;have aG:=oF i;have rM: (((List.range i).map A).map aU).length+1<=2000000:=by
     grind
    repeat' ((conv=>whnf);first|refine aR aG ?_|refine aR e ?_|refine aS (qo rM) ?_|fail)
    all_goals(conv=>whnf)
    refine⟨i+1,aB,by grind,?_⟩;conv=>whnf
    refine⟨⟨.r,.r,.r,a8 (ca (by omega)),aj⟩,⟨cM ?_,aj⟩,by rfl⟩;rw[CN,ew,ew];rfl
   ·have:i=5:=by
     grind
    subst this;repeat' ((conv=>whnf);first|refine bl ?_|fail)
    all_goals(conv=>whnf)
    refine⟨[],?_⟩;conv=>whnf
    exact⟨.r,⟨.r,aj⟩,by rfl⟩
structure Ml(s:bi):Prop where
 ok:fI s=true
 dec:s.dec=[]
 prop:s.prop=[]
 anE: (hY s.box s.self).2=false
 phase:s.phase=0
 hr:decide (0<=eQ s.aM s.self)=false
 done:hh s=[]
theorem anF(s:bi)(ae:ez s)(al:Ml s):cj Tryz.prog 166 [.cells 210 (dg s++ [.ar])] [.aW 0 0] [true] [.cells 210 (dg s++ [.ar])] (.be []):=by
 have aA:=Rj s.box (bT ae.box (by decide)) s.self;rw[al.anE]at aA;have aG:=Hp s.aM (bT ae.aM (by decide)) s.self;have sC:decide (s.phase=1)=false:=by rw[al.phase];rfl
 have iN:decide (s.phase=2)=false:=by rw[al.phase];rfl
 have ao: (decide (0<=eQ s.aM s.self)&& !decide (s.phase=2))=false:=by rw[al.hr];rfl
 refine jV Tryz.func166 ?_;repeat' ((conv=>whnf);first|refine bl ?_|refine ft (by assumption) ?_|refine ch ?_|refine aR aA ?_|refine aR aG ?_|fail)
 all_goals(conv=>whnf)
 all_goals exact⟨.r,⟨.r,.r,aj⟩,by rfl⟩
theorem anG(s:bi)(ae:ez s)(al:Ml s):bq Tryz.prog 98 [.agg (dg s)] (.be [.agg (dg s),.av 7 (([]:List dN).map fu) false]):=by
 have aA:=pe s ae;rw[al.ok]at aA;have aG:=xY s ae;have cm:decide (0<((s.dec.map aU).length:Int))=false:=by rw[al.dec];rfl
 have eK:decide (0<((s.prop.map aU).length:Int))=false:=by rw[al.prop];rfl
 have bc:=anF s ae al;have cn:=LD s ae;have he:dk s []=(s,[]):=by
  unfold dk;rw[al.done];simp
 rw[he]at cn;refine fX Tryz.func98 ?_;repeat' ((conv=>whnf);first|refine ft (by assumption) ?_|exact .refl|refine aR aA ?_|refine aR aG ?_|refine .inr ⟨[2],bO bc ?_⟩|refine .inr ⟨[2],bO cn ?_⟩|fail)
theorem Sr(v:aK)(b:Bool):ev v [] b=[]:=ut.1 (Nat.le_zero.1 (HM v [] b))
theorem anH(v:aK): (er v []).2=1:=by
 unfold er;have:dF [] 32=false:=by rfl
 grind
theorem anI(v:aK):dl v []=([],false):=by
 have h:zE v []=([],false):=by
  rw[zE,Mc,anH];rfl
 unfold dl;rw[Sr,Sr];exact h
structure Ss(s:Mem):Prop where
 mE:hl s
 als:s.als=[]
 dbts:s.dbts=[]
 prop:s.agr.prop=[]
 dec:s.agr.dec=[]
 anJ:Ml s.agr
 view:b2 s.view=true
theorem anK(h:hl s){D:ju}{l:List bR}(cI:cO s.a7=(D,l)):hl {s with a7:=D}:=by
 have rN:D=(cO s.a7).1:=by rw[cI]
 have ac:=h.Me;have he:=h.bV;have aa:=h.sS;refine⟨h.cont,h.first,h.hist,h.EC,h.view,?_,?_,?_,h.als,h.dbts,h.agr⟩;all_goals simp only[]
 all_goals rw[rN]
 all_goals unfold cO
 all_goals cases !pN s.a7
 ·exact aa
 ·exact bZ _
 ·grind
 ·exact bZ _
 ·intro e az;simp only[bD,fr]at az;obtain⟨e',Ex,rfl⟩:=az;exact QF (ac e' Ex) _
 ·intro e az;simp[pd]at az
def kk(num:Int)(m:Int):ei:=⟨m,Mk num⟩
theorem anL(s:Mem)(ae:Ss s)(D:ju)(Mm:cO s.a7=(D,[])):
  cj Tryz.prog 56 [.cells 116 (cv s++ [.ar])] [.aW 0 0] [true] [.cells 116 (cv {s with a7:=D}++ [.own 5]),.bn,.bn,.bn,.bn,.row 121 2 (((kh (cQ s.view.mem s.self)).map (kk s.view.num)).map gh)] (.be []):=by
 have dS:=ae.mE;obtain⟨h1,ad,aN⟩:=lD ae.view;have i0: (bB s.view.num.toNat).length<=10:=hP 9 _;have aA:=QJ s.a7 (bT dS.sS (by decide)) (bT dS.bV (by decide)) dS.Me;rw[Mm]at aA;have anM:hl {s with a7:=D}:=anK dS Mm;have aG:=anC {s with a7:=D} anM ae.dbts (by rw[show ({s with a7:=D}:Mem).als=[] from ae.als];exact Sr _ _);have bc:=Sg s.view (by have:=dS.view;omega) s.als (by rw[ae.als];simp);have Ke:dl s.view s.als=([],false):=by rw[ae.als];exact anI _
 rw[Ke]at bc;have cn:=anG s.agr dS.agr ae.anJ;have ep:=anD {s with a7:=D};have iI:=aa6 {s with a7:=D} ae.dec;have mr:=Bk [] (by simp) s.view.num.toNat (by omega);have hu:=BL h1 ad;have qx:=Sq s.view.mem (bT dS.view (by decide)) s.self;have oC:=zg s.view.mem s.self;have u6: (kh (cQ s.view.mem s.self)).length<=5:=bT (BI _) oC;have al:kh (cQ s.view.mem s.self)=Go.Lib.compact (pK (cQ s.view.mem s.self)):=rfl;generalize cQ s.view.mem s.self=O at *;have ue:=L8 O (pK O) (wN _) (Ey _) (by omega);have EE:=L9 (pK O) (by rw[(wN _).length_eq];omega);rw[<-al]at EE;have F5:decide (((s.agr.prop.map aU).length:Int)=0)=true:=by rw[ae.prop];rfl
 have Eu:decide (0<((s.als.map ey).length:Int))=false:=by rw[ae.als];rfl
 generalize kh O=C at *;refine jV Tryz.func56 ?_;repeat' ((conv=>whnf);first|refine aR aA ?_|fail)
 all_goals(conv=>whnf)
 refine⟨Nat,λi=>⟨[(0,.aW 0 0),(34,.av 4 (([]:List bR).map ey) false),(35,i64 0),(36,i64 i)],[.cells 116 (cv {s with a7:=D}++ [.ar]),.cB [.aW 0 0]]⟩,λi=>i=0,λi=>0,[],⟨0,rfl,?_⟩,?_⟩
 ·conv=>whnf
  exact⟨⟨.r,.r,.r,.r,aj⟩,⟨.r,.r,aj⟩,by rfl⟩
 ·intro i hi;subst hi;repeat' ((conv=>whnf);first|refine ht (by assumption) ?_|refine ch ?_|refine .inr ⟨[0],bO aG ?_⟩|refine aR bc ?_|refine aR cn ?_|refine .inr ⟨[0],bO ep ?_⟩|refine aR iI ?_|refine .inl ⟨[.av 1 (([]:List Nat).map bE) false,_],_,⟨.ar,a8 hu,aj⟩,mr,?_⟩|refine .inr ⟨[],bO qx ?_⟩|refine .inr ⟨[4],bO ue ?_⟩|refine .inr ⟨[4],bO EE ?_⟩|fail)
  all_goals(conv=>whnf)
  refine⟨Nat,λi=>⟨[(0,.aW 0 0),(13,.av 1 ((bB s.view.num.toNat).map bE) false),(132,.own 4),(133,i64 C.length),(134,i64 i)],[.cells 116 (cv {s with a7:=D}++ [.own 5]),.cB [.aW 0 0],.bn,.bn,.row 3 1 (C.map aU),.row 121 2 (((C.take i).map (kk s.view.num)).map gh)]⟩,λi=>i<=C.length,λi=>C.length-i,[.cell 0 29 121 2],⟨0,bZ _,?_⟩,?_⟩
  ·conv=>whnf
   exact⟨⟨.r,.r,.r,a8 (by simp),.r,aj⟩,⟨.r,.r,.bn,.bn,.r,.r,aj⟩,by rfl⟩
  ·intro i hi;repeat' ((conv=>whnf);first|refine ft (by assumption) ?_| (apply bo<;>intro h)|fail)
   ·have aB:i<C.length:=by simpa using h
    clear h;have BV:=anz {s with a7:=D} ((C.take i).map (kk s.view.num)) (by simp;omega) C[i] 1 (by omega) (by omega) (bB s.view.num.toNat) (by omega);have hx: (C.take i).map (kk s.view.num)++ [ei.mk C[i] (eu 1 (bB s.view.num.toNat))]=(C.take (i+1)).map (kk s.view.num):=by
     rw[fA aB,ew];rfl
    rw[hx]at BV;have gD:i<(C.map aU).length:=by rw[bL];exact aB
    have cL: (C.map aU)[i]?=some (aU C[i]):=by simp[aB]
    repeat' ((conv=>whnf);first|refine⟨i,aS ⟨rfl,gD⟩ ?_⟩|refine⟨aU C[i],aS cL ?_⟩|refine .inr ⟨[0,5],bO BV ?_⟩|fail)
    all_goals(conv=>whnf)
    refine⟨i+1,aB,by simp only[];omega,?_⟩;conv=>whnf
    exact⟨⟨.r,.r,.r,.r,a8 (ca (by omega)),aj⟩,⟨.r,.r,.r,.r,.r,.r,aj⟩,by rfl⟩
   ·have:i=C.length:=by
     simp at h;omega
    subst this;clear h;rw[gn];repeat' ((conv=>whnf);first|refine bl ?_|fail)
    all_goals(conv=>whnf)
    exact⟨.r,⟨.r,.r,.bn,.bn,.bn,.r,aj⟩,by rfl⟩
theorem anN(s:Mem)(ae:Ss s)(bU:s.status=1)(ab:pk s=true)(D:ju)(Mm:cO s.a7=(D,[])):
  bq Tryz.prog 24 [.agg (cv s)] (.be [.agg (cv {s with a7:=D}),.av 2 (((kh (cQ s.view.mem s.self)).map (kk s.view.num)).map gh) false]):=by
 have aA:=wO s ae.mE;rw[ab]at aA;have aG:=aa1 s ae.mE;have bc:=anL s ae D Mm;have aQ:decide (s.status=0)=false:=by rw[bU];rfl
 have h1:decide (s.status=1)=true:=by rw[bU];rfl
 generalize(kh (cQ s.view.mem s.self)).map (kk s.view.num)=P at *;refine fX Tryz.func24 ?_;repeat' ((conv=>whnf);first|refine ht (by assumption) ?_|refine ft (by assumption) ?_|exact .refl|refine ch ?_|refine aR aA ?_|refine aR aG ?_|refine .inr ⟨[2],bO bc ?_⟩|fail)
def pW(s:Mem)(h:ak):List ak:=[i64 s.self,i64 s.status,.av 1 (s.cont.map aU) false,i64 s.first.num,.av 1 (s.first.mem.map aU) false,h,i64 s.view.num,.av 1 (s.view.mem.map aU) false,i64 s.a7.self,i64 s.a7.view.num,.av 1 (s.a7.view.mem.map aU) false,.av 6 (s.a7.bV.map kR) false,.av 4 (s.als.map ey) false,.av 2 (s.dbts.map dR) false,i64 s.agr.self,i64 s.agr.view.num,.av 1 (s.agr.view.mem.map aU) false,i64 s.agr.aL.cc,i64 s.agr.aL.aC,.av 1 (s.agr.aL.cut.map aU) false,.av 1 (s.agr.prop.map aU) false,.av 2 (s.agr.box.map ee) false,i64 s.agr.aC,i64 s.agr.phase,.av 3 (s.agr.bu.map bW) false,.av 1 (s.agr.c4.map aU) false,.av 3 (s.agr.aM.map bW) false,.av 1 (s.agr.dec.map aU) false,i64 s.agr.cD]
theorem anO:bq Tryz.prog 139 [.ar] .ar:=by
 refine cp (fn:=Tryz.f139) (c:=Tryz.f139.body.getD .skip) az aw (by rfl) Tryz.func139 (by rfl) (by rfl) (by rfl) (by rfl) ?_;repeat' ((conv=>whnf);first|exact .refl|fail)
theorem anP:bq Tryz.prog 79 [.ar] .ar:=by
 refine cp (fn:=Tryz.f79) (c:=Tryz.f79.body.getD .skip) az aw (by rfl) Tryz.func79 (by rfl) (by rfl) (by rfl) (by rfl) ?_;repeat' ((conv=>whnf);first|refine aR anO ?_|fail)
 all_goals(conv=>whnf)
 refine⟨Nat,λi=>⟨[(3,.ar),(8,i64 0),(9,i64 i)],[]⟩,λi=>i=0,λi=>0,[],⟨0,rfl,?_⟩,?_⟩
 ·conv=>whnf
  exact⟨⟨.r,.r,.r,aj⟩,aj,by rfl⟩
 ·intro i hi;subst hi;repeat' ((conv=>whnf);first|exact .refl|fail)
theorem anQ(s:Mem)(ae:hl s):bq Tryz.prog 52 [.agg (pW s .ar)] (.agg (pW s .ar)):=by
 have cX:=ae.cont;have c0:=ae.first
 have tW:=ae.view;have sL:=ae.sS;have sM:=ae.bV;have sN:=ae.als;have vi:=ae.dbts;refine fX Tryz.func52 ?_;repeat' ((conv=>whnf);first|exact .refl|refine ch ?_|refine aR (pa _ (by omega)) ?_|refine aR anP ?_|refine aR (r2 _ (by omega)) ?_|refine aR (Sj _ (by omega)) ?_|refine aR (Hd _ (by omega)) ?_|refine aR (aaZ _ (by omega)) ?_|refine aR (Sk _ ae.agr) ?_|fail)
theorem anR(s:Mem)(v:aK)(ab:v.mem.length<=1000):cj Tryz.prog 45 [.cells 116 (pW s (.own 1)++ [.ar]),.row 22 1 (s.hist.map c8)] [.aW 0 0,.agg (cG v)] [true,true] [.cells 116 (pW (eR s v) (.own 1)++ [.ar]),.row 22 1 (s.hist.map c8)] (.be []):=by
 have aA:=r2 v (by omega);have aG:=jt v.mem (bT ab (by decide)) s.self;have bc:=D6 v (bT ab (by decide)) s.self;have cn:=Ho v (by omega) s.self;by_cases cS:bP v.mem s.self=true
 ·rw[vo cS];generalize ke v s.self=N at *;generalize lb v s.self=Q at *;refine jV Tryz.func45 ?_;repeat' ((conv=>whnf);first|refine ht (by assumption) ?_|refine ch ?_|refine aR aA ?_|refine aR aG ?_|refine aR bc ?_|refine aR cn ?_|fail)
  all_goals(conv=>whnf)
  exact⟨.r,⟨mn ⟨.r,.r,.r,.r,.r,.r,.r,.r,.r,.r,.r,.r,.ar,.ar,.r,.r,.r,.r,.r,.r,.r,.r,.r,.r,.r,.r,.r,.r,.r,.r,aj⟩,.r,.r,aj⟩,by rfl⟩
 ·have cS:bP v.mem s.self=false:=by simpa using cS
  rw[ED cS];refine jV Tryz.func45 ?_;repeat' ((conv=>whnf);first|refine ft (by assumption) ?_|refine ch ?_|refine aR aA ?_|refine aR aG ?_|fail)
  all_goals(conv=>whnf)
  exact⟨.r,⟨mn ⟨.r,.r,.r,.r,.r,.r,.r,.r,.r,.r,.ar,.ar,.ar,.ar,.r,.r,.ar,.r,.r,.ar,.ar,.ar,.r,.r,.ar,.ar,.ar,.ar,.r,.r,aj⟩,.r,.r,aj⟩,by rfl⟩
def mM(s:Mem)(first:aK)(aI:List (List Int)):Nat->Mem
 |0=>{s with hist:=[]}
 |j+1=>eR {mM s first aI j with hist:=aI.take (j+1)} (dK first aI (j+1))
theorem HU(s:Mem)(v:aK): (eR s v).hist=s.hist:=by
 unfold eR;cases bP v.mem s.self<;>rfl
theorem anS(s:Mem)(first:aK)(aI:List (List Int)):∀j,(mM s first aI j).hist=aI.take j
 |0=>by rfl
 |j+1=>HU _ _
theorem anT(s:Mem)(ae:hl s)(first:aK)(aI:List (List Int))(cy: (jM first aI).2=true)(al:∀c∈aI,mL c)(bU:s.status=1)(au:l0 first s.first=true)(nU:aI≠ [])
  (cF:∀i,i<aI.length->(mM s first aI i).status=1):
  cj Tryz.prog 53 [.cells 116 (pW s .ar++ [.ar])] [.aW 0 0,.agg (kj (vp first aI))] [true] [.cells 116 (cv (mM s first aI aI.length)++ [.ar])] (.be []):=by
 obtain⟨cV,dj,hT,hN⟩:=zH cy;have hv:=BQ cV aI;have jl:=(k8 cV).2;have aA:=BS first (by omega) aI (by omega) (λc h=>by have:=(al c h).1;omega)
 rw[hN]at aA;have jn:=x5 first aI aI.length
 have gi:=BR first aI aI.length
 have sR:IntKind.i64.wrap ((((kV first aI aI.length).map cG).length:Int)-1)=((aI.length:Nat):Int)/\((kV first aI aI.length).map cG)[aI.length]?=some (cG (dK first aI aI.length)):=by
  rw[bL,jn,dQ (by omega) (by omega)];refine⟨by omega,?_⟩;rw[fe,gi _ (bS _)];rfl
 have sz:∀j,j<aI.length->((kV first aI aI.length).map cG)[j+1]?=some (cG (dK first aI (j+1))):=λj aq=>by
  rw[fe,gi _ (by omega)];rfl
 have aG:=x4 first s.first (by exact bT jl (by decide))
 rw[au]at aG;have aQ:decide (s.status=0)=false:=by rw[bU];rfl
 have fF:0<aI.length:=Fq.2 nU;have nL:mM s first aI 0= {s with hist:=[]}:=rfl
 have uU:∀j,mM s first aI (j+1)=eR {mM s first aI j with hist:=aI.take (j+1)} (dK first aI (j+1)):=λ_=>rfl
 have Rs:=anS s first aI
 generalize dK first aI=V at *
 generalize kV first aI aI.length=A at *
 generalize mM s first aI=X at *
 have hle:decide (((aI.map c8).length:Int)<=0)=false:=c5 (by rw[bL];omega);have l1: (!true||decide (((aI.map c8).length:Int)<=0))=false:=by rw[hle];rfl
 refine mi Tryz.func53 ?_;repeat' ((conv=>whnf);first|refine bl ?_|refine ft (by assumption) ?_|refine ch ?_|refine dE ?_|refine aR aA ?_|refine⟨aI.length,cG (V aI.length),aS sR ?_⟩|refine aR aG ?_|fail)
 all_goals(conv=>whnf)
 refine⟨Nat,λi=>⟨[(0,.aW 0 0),(3,.aW 2 0),(4,.av 2 (A.map cG) false),(7,i64 0),(96,.ar),(97,i64 0),(98,i64 i)],[.cells 116 (pW s .ar++ [.ar]),.cB [.aW 0 0],.cells 110 (kj (vp first aI))]⟩,λi=>i=0,λi=>0,[],⟨0,rfl,?_⟩,?_⟩
 ·conv=>whnf
  exact⟨⟨.r,.r,.r,.r,.r,.r,.r,aj⟩,⟨.r,.r,.r,aj⟩,by rfl⟩
 ·intro i hi;subst hi;repeat' ((conv=>whnf);first|refine bl ?_|fail)
  all_goals(conv=>whnf)
  refine⟨Nat,λj=>⟨[(0,.aW 0 0),(3,.aW 2 0),(4,.av 2 (A.map cG) false),(10,i64 j)],[.cells 116 (pW (X j) (.own 3)++ [.ar]),.cB [.aW 0 0],.cells 110 (kj (vp first aI)),.row 22 1 ((aI.take j).map c8)]⟩,λj=>j<=aI.length,λj=>aI.length-j,[.cell 0 5 22 1],⟨0,bZ _,?_⟩,?_⟩
  ·conv=>whnf
   have anU:pW (X 0) (.own 3)=pW s (.own 3):=by rw[nL];rfl
   refine⟨⟨.r,.r,.r,.r,aj⟩,⟨?_,.r,.r,.r,aj⟩,by rfl⟩;show hz _ (.cells _ (pW (X 0) (.own 3)++ [.ar]));rw[anU];exact .refl
  ·intro j aq;repeat' ((conv=>whnf);first|refine bl ?_| (apply bo<;>intro h)|fail)
   ·have aB:j<aI.length:=by
     simp only[bL,cq,fx]at h;have:=h.1;change (j:Int)<(aI.length:Int)at this;omega
    clear h;have HV: (aI.map c8)[j]?=some (c8 aI[j]):=du aB;have ix:=(al _ (eD aB)).1;have ep:=anR {X j with hist:=aI.take (j+1)} (V (j+1)) (by have:=hv (j+1);omega);rw[<-uU]at ep;have fm: (aI.take j).map c8++ [c8 aI[j]]=(aI.take (j+1)).map c8:=by
     rw[fA aB,ew];rfl
    repeat' ((conv=>whnf);first|refine ch ?_|refine⟨j,c8 aI[j],aS ⟨rfl,HV⟩ ?_⟩|refine aR (pa _ (by omega)) ?_|refine aS (BN (by simp<;>omega)) ?_|refine⟨j+1,cG (V (j+1)),aS ⟨ca (by omega),sz j aB⟩ ?_⟩|refine .inr ⟨[0,3],_,_,_,_,_,ep,by rfl,⟨.r,cM fm,aj⟩,⟨.r,.r,aj⟩,?_⟩|refine Exists.intro false ?_|fail)
    all_goals(conv=>whnf)
    refine⟨j+1,aB,by simp only[];omega,?_⟩;conv=>whnf
    exact⟨⟨.r,.r,.r,a8 (ca (by omega)),aj⟩,⟨.r,.r,.r,.r,aj⟩,by rfl⟩
   ·have:j=aI.length:=by
     rcases mX j aI.length with aB|fU
     ·exfalso;have cH:=cF j aB;simp only[bL,cH,vP,ur,ib]at h;change ¬(j:Int)<(aI.length:Int)at h;omega
     ·exact Nat.le_antisymm aq fU
    subst this;clear h;repeat' ((conv=>whnf);first|refine bl ?_|fail)
    all_goals(conv=>whnf)
    refine⟨[.qa 0 5],?_⟩;conv=>whnf
    refine⟨.r,⟨mn ⟨.r,.r,.r,.r,.r,?_,.r,.r,.r,.r,.r,.r,.r,.r,.r,.r,.r,.r,.r,.r,.r,.r,.r,.r,.r,.r,.r,.r,.r,.r,aj⟩,.r,aj⟩,by rfl⟩;rw[Rs];exact .refl
theorem anV(ab:v.mem.length<=1000)(self:Int):ez (lb v self).1:=by
 unfold lb;cases (!b2 v|| !bP v.mem self)
 ·exact⟨ab,by simp,by simp,by simp,by simp,by simp,by simp,by simp,by simp,by simp,by simp⟩
 ·exact⟨by simp[gf],by simp[gf],by simp[gf],by simp[gf],by simp[gf],by simp[gf],by simp[gf],by simp[gf],by simp[gf],by simp[gf],by simp[gf]⟩
theorem anW(ab:v.mem.length<=1000)(self:Int): (ke v self).1.view.mem.length<=1000/\(ke v self).1.bV.length<=1000/\∀e∈ (ke v self).1.bV,0<=e.kd.bits:=by
 have af:=Ld v.mem self;unfold ke;cases (!b2 v|| !bP v.mem self)
 ·refine⟨ab,by simp[D5];omega,λe he=> ?_⟩;simp only[bD,pM,fr]at he;obtain⟨k,_,rfl⟩:=he;exact k0 0
 ·exact⟨by simp[pd],by simp[pd],by simp[pd]⟩
theorem Mn(ab:v.mem.length<=1000)(h1:s.cont.length<=1000)(ad:s.first.mem.length<=1000)(aN:s.hist.length<=1000)(bs:∀c∈s.hist,c.length<=1000):hl (eR s v):=by
 have ao:=anW ab s.self;have bb:=anV ab s.self;unfold eR;cases bP v.mem s.self
 ·exact⟨h1,ad,aN,bs,ab,by simp[pd],by simp[pd],by simp[pd],by simp,by simp,⟨by simp[gf],by simp[gf],by simp[gf],by simp[gf],by simp[gf],by simp[gf],by simp[gf],by simp[gf],by simp[gf],by simp[gf],by simp[gf]⟩⟩
 ·exact⟨h1,ad,aN,bs,ab,ao.1,ao.2.1,ao.2.2,by simp,by simp,bb⟩
theorem anX(v:aK)(x:Int): (lb v x).1.dec=[]/\(lb v x).1.prop=[]:=by
 unfold lb;cases (!b2 v|| !bP v.mem x)<;>exact⟨rfl,rfl⟩
theorem zI(s:Mem)(v:aK): (eR s v).agr.dec=[]/\(eR s v).dbts=[]/\(eR s v).als=[]/\(eR s v).view=v/\(eR s v).self=s.self/\(eR s v).cont=s.cont/\(eR s v).first=s.first:=by
 have h:=(anX v s.self).1;unfold eR;generalize lb v s.self=Q at *;cases bP v.mem s.self
 ·exact⟨rfl,rfl,rfl,rfl,rfl,rfl,rfl⟩
 grind
theorem aa8(s:Mem)(first:aK)(aI:List (List Int)):∀j,(mM s first aI j).cont=s.cont/\(mM s first aI j).first=s.first/\(mM s first aI j).self=s.self
 |0=>⟨rfl,rfl,rfl⟩
 |j+1=>by
  have h:=zI {mM s first aI j with hist:=aI.take (j+1)} (dK first aI (j+1));have a1:=aa8 s first aI j
  exact⟨h.2.2.2.2.2.1.trans a1.1,h.2.2.2.2.2.2.trans a1.2.1,h.2.2.2.2.1.trans a1.2.2⟩
theorem anY(s:Mem)(ae:hl s)(first:aK)(aI:List (List Int))(cy: (jM first aI).2=true)(al:∀c∈aI,mL c)(bU:s.status=0)(cS:bP (dK first aI aI.length).mem s.self=true):
  cj Tryz.prog 53 [.cells 116 (cv s++ [.ar])] [.aW 0 0,.agg (kj (vp first aI))] [true] [.cells 116 (cv (eR {s with first:=first,hist:=aI,cont:=[]} (dK first aI aI.length))++ [.ar])] (.be []):=by
 obtain⟨cV,dj,hT,hN⟩:=zH cy;have hv:=BQ cV aI aI.length;have jl:=(k8 cV).2;have aA:=BS first (by omega) aI (by omega) (λc h=>by have:=(al c h).1;omega)
 rw[hN]at aA;have jn:=x5 first aI aI.length
 have gi:=BR first aI aI.length
 have sR:IntKind.i64.wrap ((((kV first aI aI.length).map cG).length:Int)-1)=((aI.length:Nat):Int)/\((kV first aI aI.length).map cG)[aI.length]?=some (cG (dK first aI aI.length)):=by
  rw[bL,jn,dQ (by omega) (by omega)];refine⟨by omega,?_⟩;rw[fe,gi _ (bS _)];rfl
 have aQ:decide (s.status=0)=true:=by rw[bU];rfl
 have aG:=jt (dK first aI aI.length).mem (by exact bT hv (by decide)) s.self;rw[cS]at aG;have bc:=r2 first (by omega)
 have cn:=aa0 aI (by omega) (λc h=>by have:=(al c h).1;omega);have ep:=ann {s with first:=first,hist:=aI,cont:=[]} (dK first aI aI.length) (by omega);generalize dK first aI aI.length=V at *
 generalize kV first aI aI.length=A at *
 generalize eR {s with first:=first,hist:=aI,cont:=[]} V=E at *;refine jV Tryz.func53 ?_;repeat' ((conv=>whnf);first|refine ht (by assumption) ?_|refine ch ?_|refine aR aA ?_|refine⟨aI.length,cG V,aS sR ?_⟩|refine aR aG ?_|refine aR bc ?_|refine aR cn ?_|refine .inr ⟨[0],_,_,_,_,_,ep,by rfl,⟨mn ⟨.r,.r,.ar,.r,.r,.r,.r,.r,.r,.r,.r,.r,.r,.r,.r,.r,.r,.r,.r,.r,.r,.r,.r,.r,.r,.r,.r,.r,.r,.r,aj⟩,aj⟩,⟨.r,.r,aj⟩,?_⟩|fail)
 all_goals(conv=>whnf)
 exact⟨.r,⟨.r,.r,aj⟩,by rfl⟩
theorem anZ(s:Mem)(ae:hl s)(bM:Int)(first:aK)(aI:List (List Int))(cy: (jM first aI).2=true)(al:∀c∈aI,mL c)(bU:s.status=1)(au:l0 first s.first=true)(nU:aI≠ [])
  (cF:∀i,i<aI.length->(mM s first aI i).status=1):
  cj Tryz.prog 54 [.cells 116 (pW s .ar++ [.ar])] [.aW 0 0,i64 bM,.agg (kj (vp first aI))] [true] [.cells 116 (cv (mM s first aI aI.length)++ [.ar])] (.be []):=by
 have k:=zH cy;have hv:=BQ k.1 aI aI.length;have aA:=jt s.view.mem (bT ae.view (by decide)) bM
 have aG:=anT s ae first aI cy al bU au nU cF
 obtain⟨n,aV⟩:∃n,aI.length=n+1:=⟨aI.length-1,by have:=Fq.2 nU;omega⟩
 have wM:mM s first aI aI.length=eR {mM s first aI n with hist:=aI.take (n+1)} (dK first aI (n+1)):=by rw[aV];rfl
 have hk:=aa8 s first aI n
 have jh:=zI {mM s first aI n with hist:=aI.take (n+1)} (dK first aI (n+1));have dS:hl (mM s first aI aI.length):=by
  rw[wM];refine Mn (by rw[<-aV];omega) ?_ ?_ ?_ ?_
  ·simp only[];rw[hk.1];exact ae.cont
  ·simp only[];rw[hk.2.1];exact ae.first
  ·simp only[mW];have:=k.2.1;omega
  ·intro c az;have:=(al c (om az)).1;omega
 rw[<-wM]at jh;generalize mM s first aI aI.length=X at *
 have bc:=aa6 X jh.1;have cn:=aa7 X dS jh.2.1;refine jV Tryz.func54 ?_;repeat' ((conv=>whnf);first|refine bl ?_| (apply bo<;>intro h)|refine aR aA ?_|refine .inr ⟨[0],bO aG ?_⟩|refine ea bc ?_|refine .inr ⟨[0],bO cn ?_⟩|fail)
 all_goals(conv=>whnf)
 all_goals exact⟨.r,⟨.r,.r,aj⟩,by rfl⟩
theorem an0(s:Mem)(ae:hl s)(bw:s.hist=[])(ab:pk s=true)(bM:Int)(gS:mq bM=true)(bx:bM≠s.self)(first:aK)(aI:List (List Int))(cy: (jM first aI).2=true)(al:∀c∈aI,mL c)(bU:s.status=1)(au:l0 first s.first=true)(nU:aI≠ [])
  (cF:∀i,i<aI.length->(mM s first aI i).status=1):
  bq Tryz.prog 23 [.agg (pW s .ar),i64 bM,.av 1 ((r4 first aI).map bE) false] (.be [.agg (cv (mM s first aI aI.length)),.av 2 (([]:List ei).map gh) false,i64 0]):=by
 have k:=zH cy;have aA:=wO s ae;rw[ab]at aA;have aG:=BO bM
 rw[gS]at aG;have bc:=HT s first aI k.1 k.2.1 al cy
 have cn:=anQ s ae;have ep:=anZ s ae bM first aI cy al bU au nU cF
 have hle:hQ (.agg (pW s .ar)) (.agg (cv s)):=iQ ⟨.r,.r,.r,.r,.r,by rw[bw];exact .ar,.r,.r,.r,.r,.r,.r,.r,.r,.r,.r,.r,.r,.r,.r,.r,.r,.r,.r,.r,.r,.r,.r,.r,aj⟩;have aa:decide (bM=s.self)=false:=c5 bx;have aQ:decide (s.status=0)=false:=by rw[bU];rfl
 have h1:decide (s.status=1)=true:=by rw[bU];rfl
 have ax: (!true|| !true||decide (bM=s.self))=false:=by rw[aa];rfl
 have iP: (decide (s.status=0)&&decide ((4:Int)=4))=false:=by rw[aQ];rfl
 generalize mM s first aI aI.length=X at *
 generalize r4 first aI=W at *
 refine fX Tryz.func23 ?_;repeat' ((conv=>whnf);first|refine bl ?_|refine ht (by assumption) ?_|refine ft (by assumption) ?_|refine ch ?_|refine dE ?_|refine .inl ⟨[.agg (cv s)],_,⟨hle,aj⟩,aA,?_⟩|refine ea aG ?_|refine .inl ⟨[.agg (cv s),_],_,⟨hle,.r,aj⟩,bc,?_⟩|refine aR cn ?_|refine .inr ⟨[3],bO ep ?_⟩|fail)
 all_goals(conv=>whnf)
 exact e1 ⟨.r,.ar,.r,aj⟩
theorem an1(s:Mem)(ae:hl s)(ab:pk s=true)(bM:Int)(gS:mq bM=true)(bx:bM≠s.self)(first:aK)(aI:List (List Int))(cy: (jM first aI).2=true)(al:∀c∈aI,mL c)(bU:s.status=0)(cS:bP (dK first aI aI.length).mem s.self=true):
  bq Tryz.prog 23 [.agg (cv s),i64 bM,.av 1 ((r4 first aI).map bE) false] (.be [.agg (cv (eR {s with first:=first,hist:=aI,cont:=[]} (dK first aI aI.length))),.av 2 (([]:List ei).map gh) false,i64 0]):=by
 have k:=zH cy;have aA:=wO s ae;rw[ab]at aA;have aG:=BO bM
 rw[gS]at aG;have bc:=HT s first aI k.1 k.2.1 al cy
 have cn:=aa1 s ae;have ep:=anY s ae first aI cy al bU cS
 have aa:decide (bM=s.self)=false:=c5 bx;have aQ:decide (s.status=0)=true:=by rw[bU];rfl
 have ax: (!true|| !true||decide (bM=s.self))=false:=by rw[aa];rfl
 have iP: (decide (s.status=0)&&decide ((4:Int)=4))=true:=by rw[aQ];rfl
 generalize eR {s with first:=first,hist:=aI,cont:=[]} (dK first aI aI.length)=X at *;generalize r4 first aI=W at *
 refine fX Tryz.func23 ?_;repeat' ((conv=>whnf);first|refine bl ?_|refine ht (by assumption) ?_|refine ft (by assumption) ?_|refine ch ?_|refine dE ?_|refine aR aA ?_|refine ea aG ?_|refine aR bc ?_|refine aR cn ?_|refine .inr ⟨[3],bO ep ?_⟩|fail)
 all_goals(conv=>whnf)
 exact e1 ⟨.r,.ar,.r,aj⟩
theorem St(n:Int):IntKind.u8.wrap n=n%256:=by rfl
theorem an2(w:Nat):IntKind.u8.wrap (IntKind.u8.wrap ((w:Int).tmod 128)+128)=((w%128+128:Nat):Int):=by
 have e: (w:Int).tmod 128=((w%128:Nat):Int):=(Int.ofNat_tmod w 128).symm;rw[e,St,St];omega
theorem an3(w:Nat)(h:w<18446744073709551616):IntKind.u64.wrap ((w:Int).tdiv 128)=((w/128:Nat):Int):=by
 have e: (w:Int).tdiv 128=((w/128:Nat):Int):=(Int.ofNat_tdiv w 128).symm;rw[e];exact kc (by omega) (by omega)
theorem HW(v:Nat)(ab:v<18446744073709551616):cj Tryz.prog 48 [] [u64 v] [] [.row 5 1 ((bB v).map bE)] (.own 0):=by
 refine ik (fn:=Tryz.f48) (c:=Tryz.f48.body.getD .skip) az aw (by rfl) Tryz.func48 (by rfl) (by rfl) (by rfl) (by rfl) (by rfl) ?_;repeat' ((conv=>whnf);first|refine bl ?_|fail)
 all_goals(conv=>whnf)
 refine⟨Nat×Nat×List Nat,λs=>⟨[(0,u64 s.2.1),(3,.own 0)],[.row 5 1 (s.2.2.map bE)]⟩,λs=>s.2.2++n4 s.1 s.2.1=bB v/\s.2.1<2^ (7*s.1+1)/\s.1<=9/\s.2.2.length<=9-s.1,λs=>s.1,[.h4 3 5 1],⟨(9,v,[]),⟨rfl,ab,by omega,by simp⟩,?_⟩,?_⟩
 ·conv=>whnf
  exact⟨⟨.r,.r,aj⟩,⟨.r,aj⟩,by rfl⟩
 ·rintro⟨k,w,out⟩ ⟨hinv,hw,hk,oC⟩;simp only[]at hinv hw hk oC;have an4:w<18446744073709551616:=Ag hw (by
   have:2^ (7*k+1)<=2^64:=Je (by decide) (by omega);omega)
  have an5:=an2 w;have an6:=an3 w an4;repeat' ((conv=>whnf);first| (apply bo<;>intro h)|refine aS (rT (by simp<;>omega)) ?_| (refine aS ?_ ?_;focus (simp;done))|fail)
  all_goals(conv=>whnf)
  ·have He:128<=w:=by
    grind
   clear h;obtain⟨k,rfl⟩:∃m,k=m+1:=by
    cases k with
    |zero=>omega
    |succ m=>simp
   rw[n4,bm (by omega)]at hinv;refine⟨⟨k,w/128,out++ [w%128+128]⟩,⟨by grind,?_,by omega,by grind⟩,by simp,?_⟩
   ·grind
   ·conv=>whnf
    refine⟨⟨a8 an6,.r,aj⟩,⟨cM ?_,aj⟩,by rfl⟩;show out.map bE++ [[.v (.int .u8 (IntKind.u8.wrap (IntKind.u8.wrap ((w:Int).tmod 128)+128)))]]=_;rw[an5,ew];rfl
  ·have He:w<128:=by
    grind
   clear h;have hL:n4 k w=[w]:=by
    cases k with
    |zero=>rw[n4,se (by omega)]
    |succ m=>rw[n4,b3 He]
   rw[hL]at hinv;have QQ:IntKind.u8.wrap (w:Int)=(w:Int):=by
    rw[St];omega
   refine⟨.r,⟨cM ?_,aj⟩,by rfl⟩;show out.map bE++ [[.v (.int .u8 (IntKind.u8.wrap (w:Int)))]]=_;rw[<-hinv,QQ,ew];rfl
theorem an7(v:Int)(h1: -1<=v)(ad:v<=1099511627776):bq Tryz.prog 127 [i64 v] (u64 (fQ v)):=by
 have bt:fQ v=if v<0 then 1 else(2*v).toNat:=rfl;refine cp (fn:=Tryz.f127) (c:=Tryz.f127.body.getD .skip) az aw (by rfl) Tryz.func127 (by rfl) (by rfl) (by rfl) (by rfl) ?_;repeat' ((conv=>whnf);first| (apply bo<;>intro h)|fail)
 all_goals(conv=>whnf)
 ·have ab:v= -1:=by
   grind
  subst ab;exact a8 (by decide)
 ·have ab:¬v<0:=rv h;refine a8 ?_;rw[bt,bm ab,kc (n:=v) (by omega) (by omega),kc (by omega) (by omega)];omega
theorem an8(v:Int)(h1: -1<=v)(ad:v<=1099511627776):cj Tryz.prog 71 [] [i64 v] [] [.row 5 1 ((bB (fQ v)).map bE)] (.own 0):=by
 have aA:=an7 v h1 ad;have aG:=HW (fQ v) (QX ad);refine ik (fn:=Tryz.f71) (c:=Tryz.f71.body.getD .skip) az aw (by rfl) Tryz.func71 (by rfl) (by rfl) (by rfl) (by rfl) (by rfl) ?_;repeat' ((conv=>whnf);first|refine aR aA ?_|refine .inr ⟨[],bO aG ?_⟩|fail)
 all_goals(conv=>whnf)
 exact⟨.r,⟨.r,aj⟩,by rfl⟩
theorem aa9(l:List Int)(af:l.length<=1000)(ao:∀v∈l,-1<=v/\v<=1099511627776):cj Tryz.prog 49 [] [.av 1 (l.map aU) false] [] [.row 5 1 ((gg l).map bE)] (.own 0):=by
 have hu:IntKind.u64.wrap ((l.map aU).length:Int)=((l.length:Nat):Int):=by
  rw[bL];exact kc (by omega) (by omega)
 have aA:=HW l.length (by omega);have i0: (bB l.length).length<=10:=hP 9 l.length;refine ik (fn:=Tryz.f49) (c:=Tryz.f49.body.getD .skip) az aw (by rfl) Tryz.func49 (by rfl) (by rfl) (by rfl) (by rfl) (by rfl) ?_;repeat' ((conv=>whnf);first|refine .inr ⟨[],[],_,[],_,_,aA,by rfl,aj,⟨a8 hu,aj⟩,?_⟩|fail)
 all_goals(conv=>whnf)
 refine⟨Nat,λi=>⟨[(0,.av 1 (l.map aU) false),(3,.own 0),(4,i64 i)],[.row 5 1 ((bB l.length++jf (l.take i)).map bE)]⟩,λi=>i<=l.length,λi=>l.length-i,[],⟨0,bZ _,?_⟩,?_⟩
 ·conv=>whnf
  exact⟨⟨.r,.r,.r,aj⟩,⟨cM (by simp[jf]),aj⟩,by rfl⟩
 ·intro i hi;repeat' ((conv=>whnf);first| (apply bo<;>intro h)|fail)
  all_goals(conv=>whnf)
  ·have aB:i<l.length:=by grind
   clear h;have ab:=ao _ (eD aB);have hlen:=BK (l.take i);have yY: (l.take i).length=i:=by grind
   have gM: (bB (fQ l[i])).length<=10:=hP 9 _;have m3:=an8 l[i] ab.1 ab.2;have hx: (bB l.length++jf (l.take i)).map bE++(bB (fQ l[i])).map bE=(bB l.length++jf (l.take (i+1))).map bE:=by
    rw[<-ew,k1];congr 2;unfold jf;rw[fA aB,Ad];simp
   repeat' ((conv=>whnf);first|refine⟨_,_,aS ⟨rfl,du aB⟩ ?_⟩|refine .inr ⟨[],bO m3 ?_⟩|refine aS (rT (by simp<;>omega)) ?_|fail)
   all_goals(conv=>whnf)
   refine⟨i+1,aB,by grind,?_⟩;conv=>whnf
   exact⟨⟨.r,.r,a8 (ca (by omega)),aj⟩,⟨cM hx,aj⟩,by rfl⟩
  ·have cS:i=l.length:=by
    grind
   subst cS;rw[gn];exact⟨.r,⟨.r,aj⟩,by rfl⟩
theorem aba(op:BinOp)(x y:Int):∃n:Nat,n<4294967296/\bits op .u32 x y=(n:Int):=by
 obtain⟨z,bt⟩:∃z:Int,bits op .u32 x y=IntKind.u32.wrap z:=⟨_,rfl⟩
 rw[bt,Lb];refine⟨(z%4294967296).toNat,?_,?_⟩<;>omega
theorem an9(n:Nat)(h:n<4294967296):bits .and .u32 (n:Int) 1=((n%2:Nat):Int):=by
 unfold bits;simp only[IntKind.bits];have ac: (BitVec.ofInt 32 (n:Int)&&&BitVec.ofInt 32 1).toNat=n%2:=by
  simp
 exact(e7 (λk:Nat=>IntKind.u32.wrap (k:Int)) ac).trans (by rw[Lb];omega)
theorem aoa(n:Nat)(h:n<4294967296):bits .xor .u32 (n:Int) 0=(n:Int):=by
 unfold bits;simp only[IntKind.bits];have ac: (BitVec.ofInt 32 (n:Int)^^^BitVec.ofInt 32 0).toNat=n:=by
  grind
 exact(e7 (λk:Nat=>IntKind.u32.wrap (k:Int)) ac).trans (by rw[Lb];omega)
theorem aob(n:Nat)(h:n<4294967296): (bits .and .u32 (n:Int) 1=1->zj n=bits .xor .u32 ((n:Int).fdiv (2^ (min (1:Int).toNat 32))) 3988292384)/\(bits .and .u32 (n:Int) 1≠1->zj n=(n:Int).fdiv (2^ (min (1:Int).toNat 32))):=by
 have aa: (n:Int).fdiv (2^ (min (1:Int).toNat 32))=((n/2:Nat):Int):=(Int.ofNat_fdiv n 2).symm;unfold zj;rw[aa,an9 n h];constructor
 ·intro e;rw[e];rfl
 ·intro e;have fk: ((n%2:Nat):Int)=0:=by omega
  rw[fk];have:IntKind.u32.wrap (3988292384*0)=0:=by decide
  rw[this,aoa _ (by omega)]
theorem aoc(x:Int):∃n:Nat,n<4294967296/\zj x=(n:Int):=aba _ _ _
variable{x:Int}
theorem aod(h:∃n:Nat,n<4294967296/\x=(n:Int)):∀k,∃n:Nat,n<4294967296/\sG x k=(n:Int)
 |0=>h
 |k+1=>aoc _
theorem aoe(l:List Nat)(af:l.length<=1000000):bq Tryz.prog 129 [.av 1 (l.map bE) false] (.v (.int .u32 (rV l))):=by
 refine cp (fn:=Tryz.f129) (c:=Tryz.f129.body.getD .skip) az aw (by rfl) Tryz.func129 (by rfl) (by rfl) (by rfl) (by rfl) ?_;repeat' ((conv=>whnf);first|refine bl ?_|fail)
 all_goals(conv=>whnf)
 refine⟨Nat,λi=>⟨[(0,.av 1 (l.map bE) false),(3,.v (.int .u32 (tP l i))),(4,i64 i)],[]⟩,λi=>i<=l.length,λi=>l.length-i,[],⟨0,bZ _,?_⟩,?_⟩
 ·conv=>whnf
  exact⟨⟨.r,.r,.r,aj⟩,aj,by rfl⟩
 ·intro i hi;repeat' ((conv=>whnf);first| (apply bo<;>intro h)|fail)
  all_goals(conv=>whnf)
  ·have aB:i<l.length:=by grind
   clear h;have ax:l.getD i 0=l[i]:=by grind
   have hx:tP l (i+1)=sG (bits .xor .u32 (tP l i) (IntKind.u32.wrap ((l.getD i 0:Nat):Int))) 8:=rfl;rw[ax]at hx;generalize tP l i=a at *;have qn: (l.map bE)[i]?=some (bE l[i]):=du aB;obtain⟨y,bk⟩:∃y,y=l[i]:=⟨_,rfl⟩
   rw[<-bk]at qn hx;have aof:=aod (aba .xor a (IntKind.u32.wrap (y:Int)));repeat' ((conv=>whnf);first|refine⟨i,bE y,aS ⟨rfl,qn⟩ ?_⟩|fail)
   all_goals(conv=>whnf)
   refine⟨Nat,λk=>⟨[(0,.av 1 (l.map bE) false),(3,.v (.int .u32 (sG (bits .xor .u32 a (IntKind.u32.wrap (y:Int))) k))),(4,i64 i),(5,i64 k)],[]⟩,λk=>k<=8,λk=>8-k,[],⟨0,bZ _,?_⟩,?_⟩
   ·conv=>whnf
    exact⟨⟨.r,.r,.r,.r,aj⟩,aj,by rfl⟩
   ·intro k hk;have DW:sG (bits .xor .u32 a (IntKind.u32.wrap (y:Int))) (k+1)=zj (sG (bits .xor .u32 a (IntKind.u32.wrap (y:Int))) k):=rfl;have xS:k=8->sG (bits .xor .u32 a (IntKind.u32.wrap (y:Int))) k=tP l (i+1):=λe=>by grind
    obtain⟨n,aV,bx⟩:=aof k;have bU:=aob n aV;rw[<-bx]at bU;rw[<-DW]at bU;repeat' ((conv=>whnf);first| (apply bo<;>intro h)| (refine aS ?_ ?_;focus (simp;done))|fail)
    all_goals(conv=>whnf)
    ·have ve:k<8:=by
      grind
     have aA:=bU.1 (fC h);refine⟨k+1,ve,by grind,?_⟩;conv=>whnf
     exact⟨⟨.r,a8 aA.symm,.r,a8 (ca (by omega)),aj⟩,aj,by rfl⟩
    ·have ve:k<8:=by
      grind
     have aA:=bU.2 (rv h);refine⟨k+1,ve,by grind,?_⟩;conv=>whnf
     exact⟨⟨.r,a8 aA.symm,.r,a8 (ca (by omega)),aj⟩,aj,by rfl⟩
    ·have ve:k=8:=by
      grind
     clear h;refine⟨i+1,aB,by grind,?_⟩;conv=>whnf
     exact⟨⟨.r,a8 (xS ve),a8 (ca (by omega)),aj⟩,aj,by rfl⟩
  ·have cS:i=l.length:=by
    grind
   subst cS;exact .refl
theorem aog(n:Int):bq Tryz.prog 128 [.v (.int .u32 n)] (.av 1 ((qp n).map bE) false):=by
 rw[<-QV];refine cp (fn:=Tryz.f128) (c:=Tryz.f128.body.getD .skip) az aw (by rfl) Tryz.func128 (by rfl) (by rfl) (by rfl) (by rfl) ?_;repeat' ((conv=>whnf);first|exact .refl| (refine aS ?_ ?_;focus (simp;done))|fail)
theorem aoh(k:Nat)(jk:1<=k)(hk:k<=255)(b:List Nat)(ac:b.length<=800000):bq Tryz.prog 72 [i64 k,.av 1 (b.map bE) false] (.be [.av 1 ((eu k b).map bE) false,i64 0]):=by
 have xS:=QW hk;have fm: [[ak.v (.int .u8 65)],[ak.v (.int .u8 71)],[ak.v (.int .u8 (IntKind.u8.wrap (k:Int)))]]=List.map bE [65,71,k]:=by rw[xS];rfl
 have i0: (bB b.length).length<=10:=hP 9 b.length;have Lm: [65,71,k]++bB b.length++b=hD k b:=rfl;have hH: (hD k b).length<=900000:=by
  unfold hD;simp only[fw,l7,yq];omega
 have aA:=HW b.length (by omega);have bc:=aoe (hD k b) (by omega);have cn:=aog (rV (hD k b));have au6: (qp (rV (hD k b))).length=4:=rfl;have hu:IntKind.u64.wrap ((b.map bE).length:Int)=((b.length:Nat):Int):=by
  rw[bL];exact kc (by omega) (by omega)
 have Hf: (decide ((k:Int)<1)||decide ((255:Int)<k)||decide ((16777216:Int)<((b.map bE).length:Int)))=false:=by
  rw[c5 (by omega),c5 (by omega),bL,c5 (by omega)];rfl
 have zk: ([[ak.v (.int .u8 65)],[ak.v (.int .u8 71)],[ak.v (.int .u8 (IntKind.u8.wrap (k:Int)))]]++(bB b.length).map bE)++b.map bE=(hD k b).map bE:=by
  rw[fm,<-Lm,ew (l₁:=[65,71,k]++bB b.length),ew]
 refine fX Tryz.func72 ?_;repeat' ((conv=>whnf);first|refine bl ?_|refine ft (by assumption) ?_|refine .inr ⟨[],[],_,[],_,_,aA,by rfl,aj,⟨a8 hu,aj⟩,?_⟩|refine aS (rT (by simp<;>omega)) ?_|refine .inl ⟨[.av 1 ((hD k b).map bE) false],_,⟨jI zk,aj⟩,bc,?_⟩|refine aR cn ?_|fail)
 all_goals(conv=>whnf)
 refine e1 ⟨jI ?_,.r,aj⟩;unfold eu;rw[ew,<-zk];rfl
theorem aoi(k:Nat)(jk:1<=k)(hk:k<=255)(b:List Nat)(ac:b.length<=800000):bq Tryz.prog 50 [i64 k,.av 1 (b.map bE) false] (.av 1 ((eu k b).map bE) false):=by
 have aA:=aoh k jk hk b ac;generalize eu k b=W at *;refine cp (fn:=Tryz.f50) (c:=Tryz.f50.body.getD .skip) az aw (by rfl) Tryz.func50 (by rfl) (by rfl) (by rfl) (by rfl) ?_;repeat' ((conv=>whnf);first|exact .refl|refine aR aA ?_|fail)
theorem aoj(v:aK)(h:b2 v=true):cj Tryz.prog 47 [] [.agg (cG v)] [] [.row 5 1 ((jz v).map bE)] (.own 0):=by
 obtain⟨h1,ad,aN⟩:=lD h;obtain⟨bs,cm⟩:=Md h;have aA:=Yt v (bT bs (by decide));rw[h]at aA;have hu:=BL h1 ad;have aG:=HW v.num.toNat (by omega);have bc:=aa9 v.mem (by omega) cm;have i0: (bB v.num.toNat).length<=10:=hP 9 _;have gM:=EB v h;have KK: (gg v.mem).length<=1000:=by
  unfold jz at gM
  grind
 refine tG (fn:=Tryz.f47) (c:=Tryz.f47.body.getD .skip) az aw (by rfl) Tryz.func47 (by rfl) (by rfl) (by rfl) (by rfl) (by rfl) ?_;repeat' ((conv=>whnf);first|refine ch ?_|refine aR aA ?_|refine .inr ⟨[],[],_,[],_,_,aG,by rfl,aj,⟨a8 hu,aj⟩,?_⟩|refine .inr ⟨[],bO bc ?_⟩|refine aS (rT (by simp<;>omega)) ?_|fail)
 all_goals(conv=>whnf)
 refine⟨[.eT 0 1],?_⟩;conv=>whnf
 refine⟨.r,⟨cM ?_,aj⟩,by rfl⟩;unfold jz;simp
theorem aok(s:Mem)(ab:b2 s.first=true)(aV:s.hist.length<=400)(al:∀c∈s.hist,mL c):bq Tryz.prog 22 [.agg (cv s)] (.av 1 ((r4 s.first s.hist).map bE) false):=by
 have aA:=aoj s.first ab
 have jl:=EB s.first ab
 have Sn:=aa5 ab aV al;have aG:=HW s.hist.length (by omega);have i0: (bB s.hist.length).length<=10:=hP 9 _;have hu:IntKind.u64.wrap ((s.hist.map c8).length:Int)=((s.hist.length:Nat):Int):=by
  rw[bL];exact kc (by omega) (by omega)
 have cn:=aoi 4 (by omega) (by omega) (qy s.first s.hist) (by omega);unfold r4;generalize eu 4 (qy s.first s.hist)=W at *;refine cp (fn:=Tryz.f22) (c:=Tryz.f22.body.getD .skip) az aw (by rfl) Tryz.func22 (by rfl) (by rfl) (by rfl) (by rfl) ?_;repeat' ((conv=>whnf);first|refine ch ?_|refine .inr ⟨[],bO aA ?_⟩|refine .inr ⟨[],[],_,[],_,_,aG,by rfl,aj,⟨a8 hu,aj⟩,?_⟩|refine aS (rT (by simp<;>omega)) ?_|fail)
 all_goals(conv=>whnf)
 refine⟨Nat,λi=>⟨[(1,.aW 0 0),(3,.own 1),(4,i64 i)],[.cells 55 (cv s),.row 5 1 ((jz s.first++(bB s.hist.length++jN (s.hist.take i))).map bE)]⟩,λi=>i<=s.hist.length,λi=>s.hist.length-i,[],⟨0,bZ _,?_⟩,?_⟩
 ·conv=>whnf
  refine⟨⟨.r,.r,.r,aj⟩,⟨.r,cM ?_,aj⟩,by rfl⟩;simp[jN]
 ·intro i hi;repeat' ((conv=>whnf);first| (apply bo<;>intro h)|fail)
  all_goals(conv=>whnf)
  ·have aB:i<s.hist.length:=by grind
   clear h;have aH:=al _ (eD aB);have jg:=HS aH;have gG:=BU (l:=s.hist.take i) (λc h=>al c (om h));have yY: (s.hist.take i).length=i:=by grind
   have m3:=aa9 s.hist[i] (by have:=aH.1;omega) aH.2;have hx: (jz s.first++(bB s.hist.length++jN (s.hist.take i))).map bE++(gg s.hist[i]).map bE=(jz s.first++(bB s.hist.length++jN (s.hist.take (i+1)))).map bE:=by
    have e:jN (s.hist.take (i+1))=jN (s.hist.take i)++gg s.hist[i]:=by
     unfold jN;rw[fA aB,Ad];simp
    grind
   repeat' ((conv=>whnf);first|refine⟨_,_,aS ⟨rfl,du aB⟩ ?_⟩|refine .inr ⟨[],bO m3 ?_⟩|refine aS (rT (by simp<;>omega)) ?_|fail)
   all_goals(conv=>whnf)
   refine⟨i+1,aB,by grind,?_⟩;conv=>whnf
   exact⟨⟨.r,.r,a8 (ca (by omega)),aj⟩,⟨.r,cM hx,aj⟩,by rfl⟩
  ·have cS:i=s.hist.length:=by
    grind
   subst cS;rw[gn];repeat' ((conv=>whnf);first|exact .refl|refine aR cn ?_|fail)
def abb:Nat->nF
 |0=>⟨0,0⟩
 |t+1=>jJ (abb t) (decide (0<t))
def BW(S:List Int)(W:nF)(H:Int->Bool)(k:Nat):Edge:=⟨k,S.getD k 0,H (S.getD k 0),false,W⟩
def pl(v:aK)(x:Int)(W:nF)(H:Int->Bool):ju:=⟨x,v,(List.range (hC v.mem x).length).map (BW (hC v.mem x) W H)⟩
theorem Su(ab:b2 v=true)(hi:bP v.mem x=true):ke v x=(pl v x ⟨0,0⟩ (λ_=>false),0):=by
 rw[ke,ab,hi];rfl
theorem abc(v:aK)(x:Int)(W:nF)(H:Int->Bool): (pl v x W H).bV.length=(hC v.mem x).length:=by simp[pl]
theorem abd(ab:b2 v=true)(hi:bP v.mem x=true){W:nF}(dA:pL W=true)(H:Int->Bool):pN (pl v x W H)=true:=by
 unfold pN;show (bif !decide ((ke v x).2=0)|| !decide (((pl v x W H).bV.length:Int)=((ke v x).1.bV.length:Int))then false else ij (xP (pl v x W H).bV (ke v x).1.bV) (pl v x W H).bV.length)=true;rw[Su ab hi];simp only[abc,vP,kZ,Aa,bD];refine iA.2 (λk hk=> ?_);have ax:∀W H,(pl v x W H).bV.getD k wH=BW (hC v.mem x) W H k:=λW H=>by
  rw[sc,eN (by rw[abc];exact hk),qJ];simp[pl]
 unfold xP;rw[ax,ax];simp[BW,dA]
theorem aol(ab:b2 v=true)(hi:bP v.mem x=true){W:nF}(dA:pL W=true){H:Int->Bool}(b:Bool)(hH:∀s∈hC v.mem x,H s=b)(au:rR (jJ W b)=false):
  cO (pl v x W H)=(pl v x (jJ W b) (λ_=>false),[]):=by
 have hk:∀k∈List.range (hC v.mem x).length,H ((hC v.mem x).getD k 0)=b:=by
  grind
 unfold cO;rw[abd ab hi dA,kZ,bD];refine Prod.ext ?_ ?_
 ·simp only[pl,oU,ju.mk.injEq,true_and];refine CI λk mg=> ?_;show wI (BW (hC v.mem x) W H k)=BW (hC v.mem x) (jJ W b) (λ_=>false) k;unfold wI BW
  grind
 ·show rS (pl v x W H) (pl v x W H).bV.length=[];unfold rS;rw[gn];have: (pl v x W H).bV.filter zh=[]:=by
   rw[UQ];intro e he;simp only[pl,fr]at he;obtain⟨k,mg,rfl⟩:=he;have:=hk k mg;unfold zh BW
   grind
  grind
variable{ms:List Int}
theorem Sv{id:Int}:∀x∈hC ms id,x∈ms/\x≠id/\id∈cQ ms x:=by
 intro x ag;cases al: (!dF ms 16|| !bP ms id||decide ((ms.length:Int)=1))
 ·obtain⟨ab,cS,hlen,cJ⟩:=YA al;rw[cJ]at ag;simp only[rP,fr,w4]at ag;obtain⟨r,ao,rfl⟩:=ag;have aH:=Bh (ms:=ms) (r:=(r:Nat)) ab (by omega) (by omega);have af: (hf ms (r:Nat)).length=ms.length:=by rw[aH,G5]
  have az: ((gR (hf ms (r:Nat)) id).toNat+1)% (hf ms (r:Nat)).length<(hf ms (r:Nat)).length:=uw _ (by omega);have Sw:sF (hf ms (r:Nat)) id∈ms:=by
   unfold sF;rw[sc,eN az,qJ];have:=eD az;generalize(hf ms (r:Nat))[((gR (hf ms (r:Nat)) id).toNat+1)% (hf ms (r:Nat)).length]'az=y at this;rw[aH,u5]at this;omega
  have bx:sF (hf ms (r:Nat)) id≠id:=by
   intro h;have ih: (hf ms (r:Nat)).Nodup:=by
    rw[aH];exact(Bg _ _).nodup_iff.2 (G6 (nE.1 ab).2.1)
   have XD:id∈hf ms (r:Nat):=by rw[aH,u5];grind
   unfold sF at h;generalize hf ms (r:Nat)=O at *;obtain⟨j,aq,an,tB⟩:=D4 XD;rw[an,l6]at h;have J5: (j+1)%O.length<O.length:=uw _ (by omega);rw[sc,eN J5,qJ]at h;have h:=h.trans tB.symm;have:=(CG ih).1 h;by_cases iv:j+1=O.length
   ·rw[iv,Nat.mod_self]at this;omega
   ·rw[se (by omega)]at this;omega
  refine⟨Sw,bx,?_⟩;have jZ:=(YC ab ao (iR.1 cS) Sw (Ne.symm bx)).2 rfl;have ac:=(nE.1 ab).2.2 _ Sw;have hO:cQ ms (sF (hf ms (r:Nat)) id)=(List.range 5).map (mj ms (sF (hf ms (r:Nat)) id)):=by
   generalize sF (hf ms (r:Nat)) id=s at *;unfold cQ
   grind
  grind
 ·rw[Yz al]at ag
  grind
theorem aom{x:Int}{r:Nat}(ab:dF ms 16=true)(ao:r<5)(ag:x∈ms)(ad:2<=ms.length):mj ms x r∈ms/\mj ms x r≠x:=by
 have hO:=K8 (r:=(r:Nat)) ab (by omega) (by omega);have aH:=Bh (ms:=ms) (r:=(r:Nat)) ab (by omega) (by omega);have ih: (hf ms r).Nodup:=by
  rw[aH];exact(Bg _ _).nodup_iff.2 (G6 (nE.1 ab).2.1)
 have tv:x∈hf ms r:=by rw[aH,u5];exact ag
 have af: (hf ms (r:Nat)).length=ms.length:=by rw[aH,G5]
 have cF:∀y,y∈hf ms r->y∈ms:=λy bk=>by rw[aH,u5]at bk;exact bk
 unfold mj;generalize hf ms r=O at hO ih tv af cF;obtain⟨j,aq,rfl⟩:=fv tv;rw[Qy hO aq _ (bS _)];have df: (if O.length=0\/j=0 then O.length-1 else min O.length j-1)<O.length:=by split<;>omega
 rw[sc,eN df,qJ];refine⟨cF _ (eD df),λh=> ?_⟩;have:=(CG ih).1 h;split at this<;>omega
theorem abe{x:Int}(ab:dF ms 16=true)(ag:x∈ms):∀y∈cQ ms x,y∈ms/\y≠x:=by
 intro y bk;unfold cQ at bk;cases al: (!dF ms 16|| !(decide (1<=x)&&decide (x<=1000))|| (decide ((ms.length:Int)=1)&&decide (ms.getD 0 0=x)))
 ·rw[al,bD,fr]at bk;obtain⟨r,ao,rfl⟩:=bk;have ao:=w4.1 ao;have ad:2<=ms.length:=by
   obtain⟨j,aq,rfl⟩:=fv ag
   grind
  exact aom ab ao ag ad
 grind
theorem HX(ab:b2 v=true)(hi:bP v.mem x=true): (lb v x).1= ⟨x,v,⟨0,-1,[]⟩,[],[],0,0,[],[],[],[],0⟩:=by
 unfold lb
 grind
theorem abf(ab:b2 v=true)(hi:bP v.mem x=true):fI (lb v x).1=true:=by
 rw[HX ab hi];have ax:jX v []=true:=rfl;have ac:hX v []=true:=by
  unfold hX;rw[ab];rfl
 have an:tV v []=true:=by
  unfold tV gI;rw[ab];rfl
 have mo:zs ⟨x,v,⟨0,-1,[]⟩,[],[],0,0,[],[],[],[],0⟩=true:=by
  rfl
 have bb:la ⟨0,-1,[]⟩=true:=by rfl
 unfold fI;simp only[ab,hi,ax,ac,an,mo,bb];rfl
theorem aon(ab:b2 v=true)(hi:bP v.mem x=true):Ml (lb v x).1:=by
 have cy:=abf ab hi;rw[HX ab hi]at *;have ac:hX v []=true:=by
  unfold hX;rw[ab];rfl
 have hw:jx v []=([],false):=by
  unfold jx;simp
 refine⟨cy,rfl,rfl,rfl,rfl,rfl,?_⟩;unfold hh;simp only[hw];rfl
theorem zJ(v:aK):l0 v v=true:=by
 unfold l0;rw[e4 rfl,rp];unfold iG;rw[e4 rfl,rp];exact iA.2 (λi _=>e4 rfl)
theorem abg(ab:b2 v=true):dG v []=true:=by
 unfold dG;first
 |rw[ab]
  rfl
 |rfl
theorem abh(ab:b2 v=true)(hi:bP v.mem x=true):mq x=true:=by
 have:=HP (lD ab).2.2 x (iR.1 hi);unfold mq
 grind
structure EF(s:Mem):Prop where
 b4:s.status=1
 n9: (jM s.first s.hist).2=true
 cU:dK s.first s.hist s.hist.length=s.view
 cont:s.cont=[]
 jO:bP s.view.mem s.self=true
 a7:pN s.a7=true
 aoo:s.a7.self=s.self
 sS:s.a7.view=s.view
 agr:s.agr=(lb s.view s.self).1
 als:s.als=[]
 dbts:s.dbts=[]
 view:b2 s.view=true
theorem Sx(h:EF s):pk s=true:=by
 have gS:=abh h.view h.jO;have uf:l0 (dK s.first s.hist s.hist.length) s.view=true:=by rw[h.cU];exact zJ _
 have aQ:decide (s.status=0)=false:=by rw[h.b4];rfl
 have h1:decide (s.status=1)=true:=by rw[h.b4];rfl
 have al:decide (0<(s.cont.length:Int))=false:=by rw[h.cont];rfl
 have pV:BT s=true:=by
  unfold BT;rw[h.dbts];rfl
 have bb:zG s=true:=by
  unfold zG;rw[h.jO,h.a7,h.aoo,h.sS,h.agr,abf h.view h.jO,HX h.view h.jO,h.als,abg h.view,pV];simp only[zJ];simp
 unfold pk;rw[gS,aQ,h.n9,al,uf,h1,bb];rfl
theorem aop(h:EF s)(ae:hl s):Ss s:=by
 refine⟨ae,h.als,h.dbts,?_,?_,?_,h.view⟩
 ·rw[h.agr,HX h.view h.jO]
 ·rw[h.agr,HX h.view h.jO]
 ·rw[h.agr];exact aon h.view h.jO
theorem Sy(ab:b2 v=true)(hi:bP v.mem s.self=true)(al:s.cont=[])(zw: (jM s.first s.hist).2=true)(af:dK s.first s.hist s.hist.length=v):EF (eR s v):=by
 rw[vo hi];rw[Su ab hi];exact⟨rfl,zw,af,al,hi,abd ab hi (by rfl) _,rfl,rfl,rfl,rfl,rfl,ab⟩
theorem aoq(s:Mem)(v:aK)(ab:v.mem.length<=1000):cj Tryz.prog 45 [.cells 55 (pW s .ar)] [.aW 0 0,.agg (cG v)] [true] [.cells 55 (pW (eR s v) .ar)] (.be []):=by
 have aA:=r2 v (by omega);have aG:=jt v.mem (bT ab (by decide)) s.self;have bc:=D6 v (bT ab (by decide)) s.self;have cn:=Ho v (by omega) s.self;by_cases cS:bP v.mem s.self=true
 ·rw[vo cS];generalize ke v s.self=N at *;generalize lb v s.self=Q at *;refine jV Tryz.func45 ?_;repeat' ((conv=>whnf);first|refine ht (by assumption) ?_|refine ch ?_|refine aR aA ?_|refine aR aG ?_|refine aR bc ?_|refine aR cn ?_|fail)
  all_goals(conv=>whnf)
  exact⟨.r,⟨mn ⟨.r,.r,.r,.r,.r,.r,.r,.r,.r,.r,.r,.r,.ar,.ar,.r,.r,.r,.r,.r,.r,.r,.r,.r,.r,.r,.r,.r,.r,.r,aj⟩,.r,aj⟩,by rfl⟩
 ·have cS:bP v.mem s.self=false:=by simpa using cS
  rw[ED cS];refine jV Tryz.func45 ?_;repeat' ((conv=>whnf);first|refine ft (by assumption) ?_|refine ch ?_|refine aR aA ?_|refine aR aG ?_|fail)
  all_goals(conv=>whnf)
  exact⟨.r,⟨mn ⟨.r,.r,.r,.r,.r,.r,.r,.r,.r,.r,.ar,.ar,.ar,.ar,.r,.r,.ar,.r,.r,.ar,.ar,.ar,.r,.r,.ar,.ar,.ar,.ar,.r,aj⟩,.r,aj⟩,by rfl⟩
theorem aor(v:aK)(ab:v.mem.length<=1000)(self:Int)(al: (!b2 v|| !bP v.mem self)=false):bq Tryz.prog 20 [.agg (cG v),i64 self] (.be [.agg (pW (eR {dv with self:=self,first:=v} v) .ar),i64 0]):=by
 have aA:=q3 v (bT ab (by decide));have aG:=jt v.mem (bT ab (by decide)) self;have bc:=r2 v (by omega);have m1:=aoq {dv with self:=self,first:=v} v ab;generalize eR {dv with self:=self,first:=v} v=E at *;refine fX Tryz.func20 ?_;repeat' ((conv=>whnf);first|refine bl ?_|refine ft (by assumption) ?_|exact .refl|refine dE ?_|refine aR aA ?_|refine ea aG ?_|refine aR bc ?_|refine .inr ⟨[2],_,_,_,_,_,m1,by rfl,⟨mn ⟨.r,.r,.ar,.r,.r,.r,.r,.ar,.r,.r,.ar,.ar,.ar,.ar,.r,.r,.ar,.r,.r,.ar,.ar,.ar,.r,.r,.ar,.ar,.ar,.ar,.r,aj⟩,aj⟩,⟨.r,.r,aj⟩,?_⟩|fail)
def nq:aK:=⟨0,[1,2,3]⟩
def r5:aK:=⟨1,[1,2,9]⟩
def mN:List (List Int):=[[3,9]]
def ug:Mem:=eR {dv with self:=1,first:=nq} nq
def lj:Mem:={dv with self:=9,cont:=[1]}
def zK:Mem:=mM ug nq mN 1
def x7:Mem:=eR {lj with first:=nq,hist:=mN,cont:=[]} r5
def Sz:Mem:={dv with self:=2,first:=nq,hist:=mN}
theorem abi: (jM nq mN).2=true:=by rfl
theorem aos:dK nq mN 1=r5:=by rfl
theorem SA:∀c∈mN,mL c:=by
 intro c al;have:c=[3,9]:=by simpa[mN]using al
 subst this;exact⟨by simp,λv ab=>by
  grind⟩
theorem SB:EF ug:=Sy (by rfl) (by rfl) rfl (by rfl) rfl
theorem aot:hl ug:=Mn (by simp[nq]) (by simp[dv]) (by simp[nq]) (by simp[dv]) (by simp[dv])
theorem SC:zK=eR {ug with hist:=mN} r5:=by
 rfl
theorem abj:EF zK:=by
 rw[SC];exact Sy (by rfl) (by rfl) (by rfl) (by rfl) (by rfl)
theorem aou:hl zK:=by
 rw[SC];refine Mn (by simp[r5]) ?_ ?_ (by simp[mN]) (by simp[mN])
 ·show ug.cont.length<=1000;rw[show ug.cont=[] from by rfl];simp
 ·show ug.first.mem.length<=1000
  rw[show ug.first=nq from by rfl];simp[nq]
theorem Mo:EF x7:=Sy (by rfl) (by rfl) rfl (by rfl) (by rfl)
theorem aov:hl x7:=Mn (by simp[r5]) (by simp) (by simp[nq]) (by simp[mN]) (by simp[mN])
theorem aow:pk lj=true:=by rfl
theorem aox:hl lj:=⟨by simp[lj],by simp[lj,dv,lZ],by simp[lj,dv],by simp[lj,dv],by simp[lj,dv,lZ],by simp[lj,dv,pd],by simp[lj,dv,pd],by simp[lj,dv,pd],by simp[lj,dv],by simp[lj,dv],⟨by simp[lj,dv,gf],by simp[lj,dv,gf],by simp[lj,dv,gf],by simp[lj,dv,gf],by simp[lj,dv,gf],by simp[lj,dv,gf],by simp[lj,dv,gf],by simp[lj,dv,gf],by simp[lj,dv,gf],by simp[lj,dv,gf],by simp[lj,dv,gf]⟩⟩
theorem aoy:∃D,cO x7.a7=(D,[]):=by
 have e:x7.a7=pl r5 9 ⟨0,0⟩ (λ_=>false):=by
  rfl
 rw[e];exact⟨_,aol (by rfl) (by rfl) (by rfl) false (λ_ _=>rfl) (by rfl)⟩
theorem aoz:0<(kh (cQ r5.mem 9)).length:=by
 have h: (cQ r5.mem 9).length=5:=by
  rfl
 have az: (cQ r5.mem 9)[0]∈kh (cQ r5.mem 9):=HK.2 (eD (by omega))
 grind
theorem aoA: (HR zK).length=2:=by
 unfold HR;rw[Sx abj,abj.b4];rfl
theorem aoB:bq Tryz.prog 7 [] (.v (.bool true)):=by
 have aA:=aor nq (by simp[nq]) 1 (by kernel_rfl);have aG:=aa2 9 [1] (by simp);rw[show zF 9 [1]=(lj,0) from by kernel_rfl]at aG;have bc:=aok Sz (by kernel_rfl) (by simp[Sz,mN]) SA;have cn:=an0 ug aot (by kernel_rfl) (Sx SB) 2 (by kernel_rfl) (by rw[show ug.self=1 from by kernel_rfl];decide) nq mN abi SA SB.b4 (by kernel_rfl) (by simp[mN]) (λi hi=>by
  have:i=0:=by simp[mN]at hi;exact hi
  subst this;exact SB.b4)
 have ep:=an1 lj aox aow 2 (by kernel_rfl) (by decide) nq mN abi SA rfl (by kernel_rfl);obtain⟨D,rN⟩:=aoy;have iI:=anN x7 (aop Mo aov) Mo.b4 (Sx Mo) D rN;have mr:=anv zK aou;have aH:=aoz;have ab:=aoA;change bq _ _ _ (.be [.agg (cv zK),_,_])at cn;have aoC:eR {lj with first:=nq,hist:=mN,cont:=[]} (dK nq mN mN.length)=x7:=by
  show eR _ (dK nq mN 1)=_;rw[aos];rfl
 rw[aoC]at ep;have aoD:zK.view=r5:=by rw[SC];exact(zI _ _).2.2.2.1
 have aoE:x7.view=r5:=(zI _ _).2.2.2.1;have aoF:x7.self=9:=by kernel_rfl
 have ne:=Mo.b4;rw[aoE,aoF]at iI;change bq _ _ _ (.be [.agg (pW ug .ar),_])at aA;change bq _ _ _ (.av 1 ((r4 nq mN).map bE) false)at bc;generalize ug=Mp at *;generalize zK=S1 at *;generalize x7=au7 at *;generalize kh (cQ r5.mem 9)=O at *;generalize HR S1=au8 at *;generalize r4 nq mN=W at *;refine fX Tryz.func7 ?_;repeat' ((conv=>whnf);first|refine bl ?_|refine .inl ?_<;> (conv=>whnf)<;>refine⟨[.agg (cG nq),i64 1],_,⟨.r,.r,aj⟩,aA,?_⟩|refine aR aG ?_|refine .inl ?_<;> (conv=>whnf)<;>refine⟨[.agg (cv Sz)],_,⟨iQ ⟨.r,.r,.ar,.r,.r,.r,.r,.ar,.r,.r,.ar,.ar,.ar,.ar,.r,.r,.ar,.r,.r,.ar,.ar,.ar,.r,.r,.ar,.ar,.ar,.ar,.r,aj⟩,aj⟩,bc,?_⟩|refine aR cn ?_|refine aR ep ?_|refine aR iI ?_|refine ea mr ?_|fail)
 all_goals(conv=>whnf)
 refine gQ ?_;have qj:decide (0<((O.length:Nat):Int))=true:=e4 (by omega);simp only[bL,aoD,ne,ab,qj];simp[r5]
structure BX where
 src:Int
 dst:Int
 frame:List Nat
def l2(f:BX):List ak:=[i64 f.src,i64 f.dst,.av 1 (f.frame.map bE) false]
def iJ(b:Bool):List ak:=[.v (.bool b)]
def pX(a b c:Nat):List ak:=[.own a,.own b,.own c]
theorem abk(h:n<=2000000):kL ah 55 n:=by
 have e: (aE ah 55).bytes=488:=by rfl
 refine⟨?_,?_⟩
 ·grind
 ·simp only[maxLen];omega
theorem abl(h:n<=2000000):kL ah 4 n:=by
 have e: (aE ah 4).bytes=1:=by rfl
 refine⟨?_,?_⟩
 ·grind
 ·simp only[maxLen];omega
theorem aoG(f t:Int)(au:0<=f)(cI:0<=t):bq Tryz.prog 29 [u64 0,i64 f,i64 t] (.v (.bool false)):=by
 refine cp (fn:=Tryz.f29) (c:=Tryz.f29.body.getD .skip) az aw (by rfl) Tryz.func29 (by rfl) (by rfl) (by rfl) (by rfl) ?_;repeat' ((conv=>whnf);first|refine bl ?_|refine dE ?_|refine aS ⟨⟨λh=>h,λh=>h⟩,λ_=>(sE _).1⟩ ?_| (refine aS ?_ ?_;focus (simp;done))|fail)
 all_goals(conv=>whnf)
 all_goals refine gQ ?_
 simp
theorem aoH(Ms:List Mem)(af:Ms.length<=1000)(aF:List Bool)(hg:List BX)(x:Int)(k:Nat)(hk:k<Ms.length)(ag:Ms[k].self=x)(bx:∀j (aq:j<k),Ms[j].self≠x):
  cj Tryz.prog 28 [.cells 32 (pX 1 2 3),.row 55 29 (Ms.map cv),.row 4 1 (aF.map iJ),.row 82 3 (hg.map l2)] [.aW 0 0,i64 x] [true,true,true,true] [.cells 32 (pX 1 2 3),.row 55 29 (Ms.map cv),.row 4 1 (aF.map iJ),.row 82 3 (hg.map l2)] (i64 k):=by
 refine ik (fn:=Tryz.f28) (c:=Tryz.f28.body.getD .skip) az aw (by rfl) Tryz.func28 (by rfl) (by rfl) (by rfl) (by rfl) (by rfl) ?_;repeat' ((conv=>whnf);first|refine bl ?_|fail)
 all_goals(conv=>whnf)
 refine⟨Nat,λi=>⟨[(0,.aW 0 0),(1,i64 x),(5,i64 i)],[.cells 32 (pX 1 2 3),.row 55 29 (Ms.map cv),.row 4 1 (aF.map iJ),.row 82 3 (hg.map l2),.cB [.aW 0 0,.own 1,.own 2,.own 3]]⟩,λi=>i<=k,λi=>k-i,[],⟨0,bZ _,?_⟩,?_⟩
 ·conv=>whnf
  exact⟨⟨.r,.r,.r,aj⟩,⟨.r,.r,.r,.r,.r,aj⟩,by rfl⟩
 ·intro i hi;have ek:i<Ms.length:=NZ hi hk;have gD:i<(Ms.map cv).length:=by grind
  have cL: (Ms.map cv)[i]?=some (cv Ms[i]):=du ek;repeat' ((conv=>whnf);first| (apply bo<;>intro h)|refine⟨i,aS ⟨rfl,gD⟩ ?_⟩|refine⟨cv Ms[i],aS cL ?_⟩|fail)
  all_goals(conv=>whnf)
  ·have uL:i=k:=by
    grind
   subst uL;exact⟨.r,⟨.r,.r,.r,.r,.r,aj⟩,by rfl⟩
  ·have uL:i<k:=by
    grind
   refine⟨i+1,uL,by grind,?_⟩;conv=>whnf
   exact⟨⟨.r,.r,a8 (ca (by omega)),aj⟩,⟨.r,.r,.r,.r,.r,aj⟩,by rfl⟩
  grind
theorem HY{a b c d:ak}:hz (.cB [a,b,c,d]) (.cB [a,b,c,.aY]):=.cB rfl λi x y ag bk=>by
 rcases i with _|_|_|_|i
 ·simp at ag bk;subst ag bk;exact .refl
 ·simp at ag bk;subst ag bk;exact .refl
 ·simp at ag bk;subst ag bk;exact .refl
 ·simp at ag bk;subst ag bk;exact .aY
 grind
def SD(s:Int)(p:ei):BX:=⟨s,p.dd,p.frame⟩
def nM:Int->Int->Bool:=λ_ _=>false
def nN(v:aK)(t:Nat)(H:Int->Int->Bool)(x:Int):Mem:=⟨x,1,[],v,[],v,pl v x (abb t) (H x),[],[],(lb v x).1⟩
theorem SE(ab:b2 v=true)(hi:bP v.mem x=true):BP v x=(nN v 0 nM x,0):=by
 rw[Mg (by grind),vo (by exact hi)];simp only[];rw[Su ab hi];rfl
theorem aoI(v:aK)(ab:b2 v=true):cj Tryz.prog 9 [] [.agg (cG v)] [] [.row 55 29 ((v.mem.map (nN v 0 nM)).map cv),.row 4 1 ((List.replicate v.mem.length false).map iJ)] (.agg [.own 0,.own 1,.ar]):=by
 have af:=(k8 ab).2;refine mi Tryz.func9 ?_;repeat' ((conv=>whnf);first|refine bl ?_|fail)
 all_goals(conv=>whnf)
 refine⟨Nat,λi=>⟨[(1,.aW 0 0),(2,.aW 1 0),(3,.aW 2 0),(4,i64 i)],[.cells 24 (cG v),.cells 32 [.ar,.ar,.ar],.cells 32 [.own 3,.own 4,.ar],.row 55 29 (((v.mem.take i).map (nN v 0 nM)).map cv),.row 4 1 ((List.replicate i false).map iJ)]⟩,λi=>i<=v.mem.length,λi=>v.mem.length-i,[.cell 2 0 55 29,.cell 2 1 4 1],⟨0,bZ _,?_⟩,?_⟩
 ·conv=>whnf
  exact⟨⟨.r,.r,.r,.r,aj⟩,⟨.r,.r,.r,.r,.r,aj⟩,by rfl⟩
 ·intro i hi;repeat' ((conv=>whnf);first| (apply bo<;>intro h)|fail)
  all_goals(conv=>whnf)
  ·have aB:i<v.mem.length:=by simpa using h
   clear h;have cS:bP v.mem v.mem[i]=true:=iR.2 (eD aB);have aA:=ano v (by omega) v.mem[i];rw[SE ab cS]at aA;have xU: (v.mem.map aU)[i]?=some (aU v.mem[i]):=du aB;have fm: ((v.mem.take i).map (nN v 0 nM)).map cv++ [cv (nN v 0 nM v.mem[i])]=((v.mem.take (i+1)).map (nN v 0 nM)).map cv:=by
    rw[fA aB,ew,ew];rfl
   have aoJ: (List.replicate i false).map iJ++ [iJ false]=(List.replicate (i+1) false).map iJ:=by
    rw[I8,ew];rfl
   generalize nN v 0 nM v.mem[i]=m0 at aA fm;repeat' ((conv=>whnf);first|refine ch ?_|refine⟨i,aU v.mem[i],aS ⟨rfl,xU⟩ ?_⟩|refine aR aA ?_|refine aS (abk (by simp<;>omega)) ?_|refine aS (abl (by simp<;>omega)) ?_|fail)
   all_goals(conv=>whnf)
   refine⟨i+1,aB,by simp only[];omega,?_⟩;conv=>whnf
   exact⟨⟨.r,.r,.r,a8 (ca (by omega)),aj⟩,⟨.r,.r,.r,cM fm,cM aoJ,aj⟩,by rfl⟩
  ·have cS:i=v.mem.length:=by
    have:=rv h;simp at this;omega
   subst cS;rw[gn];refine⟨[.eT 0 3,.eT 1 4],?_⟩;conv=>whnf
   exact⟨.r,⟨.r,.r,aj⟩,by rfl⟩
def mt(U:List Int)(d:iD):Bool:=bP U d.bG
theorem abm(U:List Int)(rj:U.length<=maxLen)(d:iD):bq Tryz.prog 157 [.agg (dR d),.da [.av 1 (U.map aU) false]] (.v (.bool (!mt U d))):=by
 have aA:=Yw U rj d.bG;unfold mt;refine cp (fn:=Tryz.f157) (c:=Tryz.f157.body.getD .skip) az aw (by rfl) Tryz.func157 (by rfl) (by rfl) (by rfl) (by rfl) ?_;repeat' ((conv=>whnf);first|exact .refl|refine aR aA ?_|fail)
def HZ(U:List Int)(l:List iD):Int:=lv (λi=> !mt U (l.getD i ki)) l.length
theorem aoK(U:List Int)(rj:U.length<=maxLen)(l:List iD)(af:l.length<=100000):bq Tryz.prog 200 [.av 2 (l.map dR) false,.fn (.func 157) [.da [.av 1 (U.map aU) false]]] (i64 (HZ U l)):=by
 have j9:=λd=>abm U rj d;unfold HZ;obtain⟨p,an⟩:∃p:Nat->Bool,∀i,p i= !mt U (l.getD i ki):=⟨_,λ_=>rfl⟩
 have SF: (λi=> !mt U (l.getD i ki))=p:=by grind
 rw[SF];refine cp (fn:=Tryz.f200) (c:=Tryz.f200.body.getD .skip) az aw (by rfl) Tryz.func200 (by rfl) (by rfl) (by rfl) (by rfl) ?_;repeat' ((conv=>whnf);first|refine bl ?_|fail)
 all_goals(conv=>whnf)
 refine⟨Nat,λi=>⟨[(0,.av 2 (l.map dR) false),(1,.fn (.func 157) [.da [.av 1 (U.map aU) false]]),(7,i64 l.length),(8,i64 i)],[]⟩,λi=>i<=l.length/\∀j,j<i->p j=false,λi=>l.length-i,[],⟨0,⟨bZ _,by omega⟩,?_⟩,?_⟩
 ·conv=>whnf
  exact⟨⟨.r,.r,a8 (by simp),.r,aj⟩,aj,by rfl⟩
 ·intro i ⟨hi,cF⟩;repeat' ((conv=>whnf);first| (apply bo<;>intro h)|fail)
  ·have aB:i<l.length:=by grind
   clear h;have H0:=an i;rw[show l.getD i ki=l[i] by grind]at H0;have aA:=j9 l[i];rw[<-H0]at aA;repeat' ((conv=>whnf);first| (apply bo<;>intro h)|refine⟨_,_,aS ⟨rfl,du aB⟩ ?_⟩|refine aR aA ?_|fail)
   all_goals(conv=>whnf)
   ·refine a8 ?_;rw[wD aB h cF]
   ·refine⟨i+1,⟨aB,λj aq=> ?_⟩,by grind,?_⟩
    ·grind
    ·conv=>whnf
     exact⟨⟨.r,.r,.r,a8 (ca (by omega)),aj⟩,aj,by rfl⟩
  ·have:i=l.length:=by
    grind
   subst this;rw[tE (λj aq=>cF j aq)];repeat' ((conv=>whnf);first|exact .refl|fail)
theorem aoL(U:List Int)(l:List iD): (HZ U l= -1/\∀d∈l,mt U d=true)\/∃i:Nat,∃hi:i<l.length,HZ U l=i/\mt U l[i]=false/\∀j (aq:j<i),mt U (l[j]'(by omega))=true:=by
 unfold HZ;by_cases h:∃i,i<l.length/\mt U (l.getD i ki)=false
 ·obtain⟨i,hi,h1⟩:=h;have hex:∃k,k<l.length/\(!mt U (l.getD k ki))=true/\∀j,j<k->(!mt U (l.getD j ki))=false:=by
   have hw:∃i,i<l.length/\mt U (l.getD i ki)=false:=⟨i,hi,h1⟩
   clear hi h1;have:∀n,(∃i,i<n/\mt U (l.getD i ki)=false)->∃k,k<n/\(!mt U (l.getD k ki))=true/\∀j,j<k->(!mt U (l.getD j ki))=false:=by
    intro n;induction n with
    |zero=>simp
    |succ n a1=>
     rintro⟨i,hi,h1⟩;by_cases ag:∃i,i<n/\mt U (l.getD i ki)=false;all_goals grind
   exact this _ hw
  obtain⟨k,cV,dj,hT⟩:=hex;refine .inr ⟨k,cV,wD cV dj hT,?_,λj aq=> ?_⟩;all_goals grind
 ·refine .inl ⟨tE (λj aq=> ?_),λd aa=> ?_⟩
  ·grind
  ·obtain⟨i,hi,rfl⟩:=fv aa
   simp_all
theorem aoM(U:List Int)(rj:U.length<=maxLen)(l:List iD)(af:l.length<=100000):cj Tryz.prog 156 [.row 150 2 (l.map dR)] [.own 0,.fn (.func 157) [.da [.av 1 (U.map aU) false]]] [false] [.row 150 2 ((l.filter (mt U)).map dR)] (.own 0):=by
 have aA:=aoK U rj l af;have j9:=λd=>abm U rj d;rcases aoL U l with⟨hi,cF⟩| ⟨lC,oy,hi,n0,aoN⟩
 ·rw[hi]at aA;have au:l.filter (mt U)=l:=yp.2 cF;rw[au];refine ik (fn:=Tryz.f156) (c:=Tryz.f156.body.getD .skip) az aw (by rfl) Tryz.func156 (by rfl) (by rfl) (by rfl) (by rfl) (by rfl) ?_;repeat' ((conv=>whnf);first|refine .inl ?_<;> (conv=>whnf)<;>refine⟨[.av 2 (l.map dR) false,_],_,⟨.r,.r,aj⟩,aA,?_⟩|fail)
  all_goals(conv=>whnf)
  all_goals exact⟨.r,⟨.r,rU,aj⟩,by rfl⟩
 ·rw[hi]at aA;have bx:decide ((lC:Int)= -1)=false:=c5 (by omega);generalize mt U=p at *;refine ik (fn:=Tryz.f156) (c:=Tryz.f156.body.getD .skip) az aw (by rfl) Tryz.func156 (by rfl) (by rfl) (by rfl) (by rfl) (by rfl) ?_;repeat' ((conv=>whnf);first|refine .inl ?_<;> (conv=>whnf)<;>refine⟨[.av 2 (l.map dR) false,_],_,⟨.r,.r,aj⟩,aA,?_⟩|fail)
  all_goals(conv=>whnf)
  refine⟨Nat×List iD,λs=>⟨[(0,.own 0),(1,.fn (.func 157) [.da [.av 1 (U.map aU) false]]),(5,i64 (((l.take s.1).filter p).length:Nat)),(6,i64 s.1)],[.row 150 2 (s.2.map dR),.cB [.aY]]⟩,λs=>s.1<=l.length/\s.2.length=l.length/\s.2.take ((l.take s.1).filter p).length=(l.take s.1).filter p/\s.2.drop s.1=l.drop s.1/\((l.take s.1).filter p).length<s.1,λs=>l.length-s.1,[],⟨(lC+1,l),?_,?_⟩,?_⟩
  ·have bU: (l.take (lC+1)).filter p=l.take lC:=by
    rw[fA oy,oh,Ab,n0];simp only[s6,uz,Fp,jQ];refine yp.2 λx ag=> ?_;obtain⟨j,aq,rfl⟩:=fv ag
    grind
   grind
  ·have bU: ((l.take (lC+1)).filter p).length=lC:=by
    rw[fA oy,oh,Ab,n0];simp only[s6,uz,Fp,jQ];rw[yp.2 λx ag=> ?_]
    ·grind
    ·obtain⟨j,aq,rfl⟩:=fv ag
     grind
   conv=>whnf
   exact⟨⟨.r,.r,a8 (by grind),a8 (ca (by omega)),aj⟩,⟨.r,rU,aj⟩,by rfl⟩
  ·rintro⟨j,R⟩ ⟨h1,ad,aN,bs,cm⟩;simp only[]at h1 ad aN bs cm;repeat' ((conv=>whnf);first| (apply bo<;>intro h)|fail)
   ·have aB:j<l.length:=by
     grind
    clear h;have aoO:R[j]?=some l[j]:=by
     have:=e7 (λx:List iD=>x[0]?) bs
     grind
    have gD:j<(R.map dR).length:=by grind
    have cL: (R.map dR)[j]?=some (dR l[j]):=by grind
    have eZ: (l.take (j+1)).filter p=(l.take j).filter p++ [l[j]].filter p:=by rw[fA aB,oh]
    have aG:=j9 l[j];generalize(l.take j).filter p=Fj at *;have al:Fj.length<R.length:=by omega
    have hL:Fj.length<(R.map dR).length:=by omega
    have y5: (R.map dR)[Fj.length]?=some (dR R[Fj.length]):=du al;have lV: (R.map dR).set Fj.length (dR l[j])=(R.set Fj.length l[j]).map dR:=by simp
    repeat' ((conv=>whnf);first| (apply bo<;>intro h)|refine⟨j,aS ⟨rfl,gD⟩ ?_⟩|refine⟨dR l[j],aS cL ?_⟩|refine aR aG ?_|refine⟨Fj.length,aS ⟨rfl,hL⟩ ?_⟩|refine⟨dR R[Fj.length],y5,?_⟩|fail)
    all_goals(conv=>whnf)
    ·have an:p l[j]=true:=by grind
     have H2: (l.take (j+1)).filter p=Fj++ [l[j]]:=by grind
     have ix: ((l.take (j+1)).filter p).length=Fj.length+1:=by grind
     refine⟨(j+1,R.set Fj.length l[j]),⟨aB,by grind,?_,?_,?_⟩,by grind,?_⟩
     ·simp only[];rw[ix,H2,fA (by grind),UT,UZ (bS _),aN]
     ·simp only[];rw[UO (by omega),<-vJ (i:=1),bs,vJ]
     ·grind
     ·conv=>whnf
      exact⟨⟨.r,.r,a8 (by rw[ca (by omega)];grind),a8 (ca (by omega)),aj⟩,⟨cM lV,.r,aj⟩,by rfl⟩
    ·have an:p l[j]=false:=by grind
     have H2: (l.take (j+1)).filter p=Fj:=by grind
     refine⟨(j+1,R),⟨aB,ad,?_,?_,?_⟩,by grind,?_⟩
     ·grind
     ·simp only[];rw[<-vJ (i:=1),bs,vJ]
     ·grind
     ·conv=>whnf
      exact⟨⟨.r,.r,a8 (by grind),a8 (ca (by omega)),aj⟩,⟨.r,.r,aj⟩,by rfl⟩
   ·have iv:j=l.length:=by
     grind
    subst iv;clear h;rw[gn]at aN cm;simp only[gn];have hle: (l.filter p).length<=(R.map dR).length:=by grind
    repeat' ((conv=>whnf);first|refine⟨(l.filter p).length,aS ⟨⟨_,rfl⟩,hle⟩ ?_⟩|refine⟨(l.filter p).length,aS ⟨⟨_,rfl⟩,by simp<;>omega⟩ ?_⟩|fail)
    all_goals(conv=>whnf)
    refine⟨.r,⟨cM ?_,.r,aj⟩,by rfl⟩;have aB: ((R.map dR).take (l.filter p).length).length=(l.filter p).length:=by
     grind
    rw[Ja (by omega),List.take_take,Nat.min_self,<-yt,aN]
def zL(x:Int)(mem:List Int):List ak:=[i64 x,.aY,.aY,.aY,.aY,.aY,.aY,.av 1 (mem.map aU) false]
def hZ(x:Int)(m:Int):Bool:= !decide (m=x)
theorem abn(x:Int)(mem:List Int)(d:Int):bq Tryz.prog 175 [i64 d,.da [.da (zL x mem)]] (.v (.bool (!hZ x d))):=by
 unfold hZ;rw[Bool.not_not];refine cp (fn:=Tryz.f175) (c:=Tryz.f175.body.getD .skip) az aw (by rfl) Tryz.func175 (by rfl) (by rfl) (by rfl) (by rfl) ?_;repeat' ((conv=>whnf);first|exact .refl|fail)
def H3(x:Int)(l:List Int):Int:=lv (λi=> !hZ x (l.getD i 0)) l.length
theorem aoP(x:Int)(mem:List Int)(l:List Int)(af:l.length<=100000):bq Tryz.prog 218 [.av 1 (l.map aU) false,.fn (.func 175) [.da [.da (zL x mem)]]] (i64 (H3 x l)):=by
 have j9:=λd=>abn x mem d;unfold H3;obtain⟨p,an⟩:∃p:Nat->Bool,∀i,p i= !hZ x (l.getD i 0):=⟨_,λ_=>rfl⟩
 have SF: (λi=> !hZ x (l.getD i 0))=p:=by grind
 rw[SF];refine cp (fn:=Tryz.f218) (c:=Tryz.f218.body.getD .skip) az aw (by rfl) Tryz.func218 (by rfl) (by rfl) (by rfl) (by rfl) ?_;repeat' ((conv=>whnf);first|refine bl ?_|fail)
 all_goals(conv=>whnf)
 refine⟨Nat,λi=>⟨[(0,.av 1 (l.map aU) false),(1,.fn (.func 175) [.da [.da (zL x mem)]]),(7,i64 l.length),(8,i64 i)],[]⟩,λi=>i<=l.length/\∀j,j<i->p j=false,λi=>l.length-i,[],⟨0,⟨bZ _,by omega⟩,?_⟩,?_⟩
 ·conv=>whnf
  exact⟨⟨.r,.r,a8 (by simp),.r,aj⟩,aj,by rfl⟩
 ·intro i ⟨hi,cF⟩;repeat' ((conv=>whnf);first| (apply bo<;>intro h)|fail)
  ·have aB:i<l.length:=by grind
   clear h;have H0:=an i;rw[show l.getD i 0=l[i] by grind]at H0;have aA:=j9 l[i];rw[<-H0]at aA;repeat' ((conv=>whnf);first| (apply bo<;>intro h)|refine⟨_,_,aS ⟨rfl,du aB⟩ ?_⟩|refine aR aA ?_|fail)
   all_goals(conv=>whnf)
   ·refine a8 ?_;rw[wD aB h cF]
   ·refine⟨i+1,⟨aB,λj aq=> ?_⟩,by grind,?_⟩
    ·grind
    ·conv=>whnf
     exact⟨⟨.r,.r,.r,a8 (ca (by omega)),aj⟩,aj,by rfl⟩
  ·have:i=l.length:=by
    grind
   subst this;rw[tE (λj aq=>cF j aq)];repeat' ((conv=>whnf);first|exact .refl|fail)
theorem aoQ(x:Int)(l:List Int): (H3 x l= -1/\∀d∈l,hZ x d=true)\/∃i:Nat,∃hi:i<l.length,H3 x l=i/\hZ x l[i]=false/\∀j (aq:j<i),hZ x (l[j]'(by omega))=true:=by
 unfold H3;by_cases h:∃i,i<l.length/\hZ x (l.getD i 0)=false
 ·obtain⟨i,hi,h1⟩:=h;have hex:∃k,k<l.length/\(!hZ x (l.getD k 0))=true/\∀j,j<k->(!hZ x (l.getD j 0))=false:=by
   have hw:∃i,i<l.length/\hZ x (l.getD i 0)=false:=⟨i,hi,h1⟩
   clear hi h1;have:∀n,(∃i,i<n/\hZ x (l.getD i 0)=false)->∃k,k<n/\(!hZ x (l.getD k 0))=true/\∀j,j<k->(!hZ x (l.getD j 0))=false:=by
    intro n;induction n with
    |zero=>simp
    |succ n a1=>
     rintro⟨i,hi,h1⟩;by_cases ag:∃i,i<n/\hZ x (l.getD i 0)=false;all_goals grind
   exact this _ hw
  obtain⟨k,cV,dj,hT⟩:=hex;refine .inr ⟨k,cV,wD cV dj hT,?_,λj aq=> ?_⟩;all_goals grind
 ·refine .inl ⟨tE (λj aq=> ?_),λd aa=> ?_⟩
  ·grind
  ·obtain⟨i,hi,rfl⟩:=fv aa
   simp_all
theorem aoR(x:Int)(mem:List Int)(l:List Int)(af:l.length<=100000):cj Tryz.prog 174 [.row 3 1 (l.map aU)] [.own 0,.fn (.func 175) [.da [.da (zL x mem)]]] [false] [.row 3 1 ((l.filter (hZ x)).map aU)] (.own 0):=by
 have aA:=aoP x mem l af;have j9:=λd=>abn x mem d;rcases aoQ x l with⟨hi,cF⟩| ⟨lC,oy,hi,n0,aoN⟩
 ·rw[hi]at aA;have au:l.filter (hZ x)=l:=yp.2 cF;rw[au];refine ik (fn:=Tryz.f174) (c:=Tryz.f174.body.getD .skip) az aw (by rfl) Tryz.func174 (by rfl) (by rfl) (by rfl) (by rfl) (by rfl) ?_;repeat' ((conv=>whnf);first|refine .inl ?_<;> (conv=>whnf)<;>refine⟨[.av 1 (l.map aU) false,_],_,⟨.r,.r,aj⟩,aA,?_⟩|fail)
  all_goals(conv=>whnf)
  all_goals exact⟨.r,⟨.r,rU,aj⟩,by rfl⟩
 ·rw[hi]at aA;have bx:decide ((lC:Int)= -1)=false:=c5 (by omega);generalize hZ x=p at *;refine ik (fn:=Tryz.f174) (c:=Tryz.f174.body.getD .skip) az aw (by rfl) Tryz.func174 (by rfl) (by rfl) (by rfl) (by rfl) (by rfl) ?_;repeat' ((conv=>whnf);first|refine .inl ?_<;> (conv=>whnf)<;>refine⟨[.av 1 (l.map aU) false,_],_,⟨.r,.r,aj⟩,aA,?_⟩|fail)
  all_goals(conv=>whnf)
  refine⟨Nat×List Int,λs=>⟨[(0,.own 0),(1,.fn (.func 175) [.da [.da (zL x mem)]]),(5,i64 (((l.take s.1).filter p).length:Nat)),(6,i64 s.1)],[.row 3 1 (s.2.map aU),.cB [.aY]]⟩,λs=>s.1<=l.length/\s.2.length=l.length/\s.2.take ((l.take s.1).filter p).length=(l.take s.1).filter p/\s.2.drop s.1=l.drop s.1/\((l.take s.1).filter p).length<s.1,λs=>l.length-s.1,[],⟨(lC+1,l),?_,?_⟩,?_⟩
  ·have bU: (l.take (lC+1)).filter p=l.take lC:=by
    rw[fA oy,oh,Ab,n0];simp only[s6,uz,Fp,jQ];refine yp.2 λx ag=> ?_;obtain⟨j,aq,rfl⟩:=fv ag
    grind
   grind
  ·have bU: ((l.take (lC+1)).filter p).length=lC:=by
    rw[fA oy,oh,Ab,n0];simp only[s6,uz,Fp,jQ];rw[yp.2 λx ag=> ?_]
    ·grind
    ·obtain⟨j,aq,rfl⟩:=fv ag
     grind
   conv=>whnf
   exact⟨⟨.r,.r,a8 (by grind),a8 (ca (by omega)),aj⟩,⟨.r,rU,aj⟩,by rfl⟩
  ·rintro⟨j,R⟩ ⟨h1,ad,aN,bs,cm⟩;simp only[]at h1 ad aN bs cm;repeat' ((conv=>whnf);first| (apply bo<;>intro h)|fail)
   ·have aB:j<l.length:=by
     grind
    clear h;have aoO:R[j]?=some l[j]:=by
     have:=e7 (λx:List Int=>x[0]?) bs
     grind
    have gD:j<(R.map aU).length:=by grind
    have cL: (R.map aU)[j]?=some (aU l[j]):=by grind
    have eZ: (l.take (j+1)).filter p=(l.take j).filter p++ [l[j]].filter p:=by rw[fA aB,oh]
    have aG:=j9 l[j];generalize(l.take j).filter p=Fj at *;have al:Fj.length<R.length:=by omega
    have hL:Fj.length<(R.map aU).length:=by omega
    have y5: (R.map aU)[Fj.length]?=some (aU R[Fj.length]):=du al;have lV: (R.map aU).set Fj.length (aU l[j])=(R.set Fj.length l[j]).map aU:=by simp
    repeat' ((conv=>whnf);first| (apply bo<;>intro h)|refine⟨j,aS ⟨rfl,gD⟩ ?_⟩|refine⟨aU l[j],aS cL ?_⟩|refine aR aG ?_|refine⟨Fj.length,aS ⟨rfl,hL⟩ ?_⟩|refine⟨aU R[Fj.length],y5,?_⟩|fail)
    all_goals(conv=>whnf)
    ·have an:p l[j]=true:=by grind
     have H2: (l.take (j+1)).filter p=Fj++ [l[j]]:=by grind
     have ix: ((l.take (j+1)).filter p).length=Fj.length+1:=by grind
     refine⟨(j+1,R.set Fj.length l[j]),⟨aB,by grind,?_,?_,?_⟩,by grind,?_⟩
     ·simp only[];rw[ix,H2,fA (by grind),UT,UZ (bS _),aN]
     ·simp only[];rw[UO (by omega),<-vJ (i:=1),bs,vJ]
     ·grind
     ·conv=>whnf
      exact⟨⟨.r,.r,a8 (by rw[ca (by omega)];grind),a8 (ca (by omega)),aj⟩,⟨cM lV,.r,aj⟩,by rfl⟩
    ·have an:p l[j]=false:=by grind
     have H2: (l.take (j+1)).filter p=Fj:=by grind
     refine⟨(j+1,R),⟨aB,ad,?_,?_,?_⟩,by grind,?_⟩
     ·grind
     ·simp only[];rw[<-vJ (i:=1),bs,vJ]
     ·grind
     ·conv=>whnf
      exact⟨⟨.r,.r,a8 (by grind),a8 (ca (by omega)),aj⟩,⟨.r,.r,aj⟩,by rfl⟩
   ·have iv:j=l.length:=by
     grind
    subst iv;clear h;rw[gn]at aN cm;simp only[gn];have hle: (l.filter p).length<=(R.map aU).length:=by grind
    repeat' ((conv=>whnf);first|refine⟨(l.filter p).length,aS ⟨⟨_,rfl⟩,hle⟩ ?_⟩|refine⟨(l.filter p).length,aS ⟨⟨_,rfl⟩,by simp<;>omega⟩ ?_⟩|fail)
    all_goals(conv=>whnf)
    refine⟨.r,⟨cM ?_,.r,aj⟩,by rfl⟩;have aB: ((R.map aU).take (l.filter p).length).length=(l.filter p).length:=by
     grind
    rw[Ja (by omega),List.take_take,Nat.min_self,<-yt,aN]
theorem aoS(x:Int)(mem:List Int)(af:mem.length<=100000)(bx:mem≠ []):cj Tryz.prog 104 [] [.da (zL x mem)] [] [.row 3 1 ((mem.filter (hZ x)).map aU)] (.own 0):=by
 have aA:=Yy mem (by omega) bx;have aG:=aoR x mem mem af;refine tG (fn:=Tryz.f104) (c:=Tryz.f104.body.getD .skip) az aw (by rfl) Tryz.func104 (by rfl) (by rfl) (by rfl) (by rfl) (by rfl) ?_;repeat' ((conv=>whnf);first|refine .inr ⟨[],bO aA ?_⟩|refine .inr ⟨[1],bO aG ?_⟩|fail)
 all_goals(conv=>whnf)
 refine⟨[.eT 0 1],?_⟩;conv=>whnf
 exact⟨.r,⟨.r,aj⟩,by rfl⟩
def l3(ms:List Int)(a x:Int):List Int:=bif !(decide (1<=a)&&decide (a<=1000))then []else u9 (cQ ms x) a (cQ ms x).length
theorem aoT(ms:List Int)(af:ms.length<=maxLen)(a x:Int):bq Tryz.prog 141 [.av 1 (ms.map aU) false,i64 a,i64 x] (.av 1 ((l3 ms a x).map aU) false):=by
 have aA:=QA a;have aG:=K9 ms af x;have oC:=zg ms x;have aa:l3 ms a x=bif !(decide (1<=a)&&decide (a<=1000))then []else u9 (cQ ms x) a (cQ ms x).length:=rfl;generalize cQ ms x=O at *;refine cp (fn:=Tryz.f141) (c:=Tryz.f141.body.getD .skip) az aw (by rfl) Tryz.func141 (by rfl) (by rfl) (by rfl) (by rfl) ?_;repeat' ((conv=>whnf);first| (apply bo<;>intro h)|refine aR aA ?_|refine aR aG ?_|fail)
 all_goals(conv=>whnf)
 ·rw[aa,h];exact .ar
 ·rw[h,bD]at aa;rw[aa];clear h aa;refine⟨Nat,λi=>⟨[(1,i64 a),(7,.own 0),(15,.av 1 (O.map aU) false),(16,i64 O.length),(17,i64 i)],[.row 3 1 ((u9 O a i).map aU)]⟩,λi=>i<=O.length,λi=>O.length-i,[.h4 7 3 1],⟨0,bZ _,?_⟩,?_⟩
  ·conv=>whnf
   exact⟨⟨.r,.r,.r,a8 (by simp),.r,aj⟩,⟨.r,aj⟩,by rfl⟩
  ·intro i hi;repeat' ((conv=>whnf);first| (apply bo<;>intro h)|fail)
   ·have aB:i<O.length:=by grind
    clear h;have ae:=ajh O a i;have u6:=YE O a i;have ax:O.getD i 0=O[i]:=by grind
    rw[ax]at ae;have rM: ((u9 O a i).map aU).length+1<=2000000:=by
     grind
    repeat' ((conv=>whnf);first| (apply bo<;>intro h)|refine⟨_,_,aS ⟨rfl,du aB⟩ ?_⟩|refine aS (qo rM) ?_|fail)
    all_goals(conv=>whnf)
    all_goals refine⟨i+1,aB,by simp only[];omega,?_⟩
    all_goals(conv=>whnf)
    all_goals refine⟨⟨.r,.r,.r,.r,a8 (ca (by omega)),aj⟩,⟨cM ?_,aj⟩,by rfl⟩
    ·rw[ae,h,b6,ew];rfl
    grind
   ·have:i=O.length:=by
     grind
    subst this;repeat' ((conv=>whnf);first|exact .refl|fail)
def iT(s:Mem)(ab H4 Hq:ak):List ak:=[i64 s.self,i64 s.status,.av 1 (s.cont.map aU) false,i64 s.first.num,.av 1 (s.first.mem.map aU) false,ab,i64 s.view.num,.av 1 (s.view.mem.map aU) false,i64 s.a7.self,i64 s.a7.view.num,.av 1 (s.a7.view.mem.map aU) false,.av 6 (s.a7.bV.map kR) false,.av 4 (s.als.map ey) false,H4,i64 s.agr.self,i64 s.agr.view.num,.av 1 (s.agr.view.mem.map aU) false,i64 s.agr.aL.cc,i64 s.agr.aL.aC,.av 1 (s.agr.aL.cut.map aU) false,.av 1 (s.agr.prop.map aU) false,.av 2 (s.agr.box.map ee) false,i64 s.agr.aC,i64 s.agr.phase,.av 3 (s.agr.bu.map bW) false,.av 1 (s.agr.c4.map aU) false,.av 3 (s.agr.aM.map bW) false,.av 1 (s.agr.dec.map aU) false,i64 s.agr.cD,Hq]
def aoU(s:Mem)(ab H4:ak):List ak:=[i64 s.self,i64 s.status,.av 1 (s.cont.map aU) false,i64 s.first.num,.av 1 (s.first.mem.map aU) false,ab,i64 s.view.num,.av 1 (s.view.mem.map aU) false,i64 s.a7.self,i64 s.a7.view.num,.av 1 (s.a7.view.mem.map aU) false,.av 6 (s.a7.bV.map kR) false,.av 4 (s.als.map ey) false,H4,i64 s.agr.self,i64 s.agr.view.num,.av 1 (s.agr.view.mem.map aU) false,i64 s.agr.aL.cc,i64 s.agr.aL.aC,.av 1 (s.agr.aL.cut.map aU) false,.av 1 (s.agr.prop.map aU) false,.av 2 (s.agr.box.map ee) false,i64 s.agr.aC,i64 s.agr.phase,.av 3 (s.agr.bu.map bW) false,.av 1 (s.agr.c4.map aU) false,.av 3 (s.agr.aM.map bW) false,.av 1 (s.agr.dec.map aU) false,i64 s.agr.cD]
theorem aoV(l:List (List Int))(af:l.length<=1000000):cj Tryz.prog 139 [] [.av 1 (l.map c8) false] [] [.row 22 1 (l.map c8)] (.own 0):=by
 refine tG (fn:=Tryz.f139) (c:=Tryz.f139.body.getD .skip) az aw (by rfl) Tryz.func139 (by rfl) (by rfl) (by rfl) (by rfl) (by rfl) ?_;repeat' ((conv=>whnf);first|refine bl ?_|fail)
 refine aS (λow=> ?_) ?_
 ·repeat' ((conv=>whnf);first|refine bl ?_|fail)
  all_goals(conv=>whnf)
  rw[ow];refine⟨[.h4 2 22 1],?_⟩;conv=>whnf
  exact⟨.r,⟨.r,aj⟩,by rfl⟩
 ·repeat' ((conv=>whnf);first|refine bl ?_|fail)
  all_goals(conv=>whnf)
  refine aS (BN (by grind)) ?_;repeat' ((conv=>whnf);first|refine bl ?_|fail)
  all_goals(conv=>whnf)
  refine⟨[],?_⟩;conv=>whnf
  exact⟨.r,⟨.r,aj⟩,by rfl⟩
theorem aoW(l:List iD)(af:l.length<=1000000):cj Tryz.prog 82 [] [.av 2 (l.map dR) false] [] [.row 150 2 (l.map dR)] (.own 0):=by
 refine tG (fn:=Tryz.f82) (c:=Tryz.f82.body.getD .skip) az aw (by rfl) Tryz.func82 (by rfl) (by rfl) (by rfl) (by rfl) (by rfl) ?_;repeat' ((conv=>whnf);first|refine bl ?_|fail)
 refine aS (λow=> ?_) ?_
 ·repeat' ((conv=>whnf);first|refine bl ?_|fail)
  all_goals(conv=>whnf)
  rw[ow];refine⟨[.h4 2 150 2],?_⟩;conv=>whnf
  exact⟨.r,⟨.r,aj⟩,by rfl⟩
 ·repeat' ((conv=>whnf);first|refine bl ?_|fail)
  all_goals(conv=>whnf)
  refine aS (Si (by grind)) ?_;repeat' ((conv=>whnf);first|refine bl ?_|fail)
  all_goals(conv=>whnf)
  refine⟨[],?_⟩;conv=>whnf
  exact⟨.r,⟨.r,aj⟩,by rfl⟩
theorem abo(l:List (List Int))(af:l.length<=1000000)(al:∀c∈l,c.length<=1000000):cj Tryz.prog 79 [] [.av 1 (l.map c8) false] [] [.row 22 1 (l.map c8)] (.own 0):=by
 refine ik (fn:=Tryz.f79) (c:=Tryz.f79.body.getD .skip) az aw (by rfl) Tryz.func79 (by rfl) (by rfl) (by rfl) (by rfl) (by rfl) ?_;repeat' ((conv=>whnf);first|refine .inr ⟨[],bO (aoV l (by omega)) ?_⟩|fail)
 all_goals(conv=>whnf)
 refine⟨Nat,λi=>⟨[(3,.own 0),(8,i64 l.length),(9,i64 i)],[.row 22 1 (l.map c8)]⟩,λi=>i<=l.length,λi=>l.length-i,[],⟨0,bZ _,?_⟩,?_⟩
 ·conv=>whnf
  exact⟨⟨.r,a8 (by simp),.r,aj⟩,⟨.r,aj⟩,by rfl⟩
 ·intro i hi;repeat' ((conv=>whnf);first| (apply bo<;>intro h)|fail)
  ·have aB:i<l.length:=by grind
   clear h;have gD:i<(l.map c8).length:=by grind
   have cL: (l.map c8)[i]?=some (c8 l[i]):=by grind
   have lV:=Mf (f:=c8) aB;repeat' ((conv=>whnf);first|refine aR (pa _ (al _ (eD aB))) ?_|refine⟨i,aS ⟨rfl,gD⟩ ?_⟩|refine⟨c8 l[i],aS cL ?_⟩|fail)
   all_goals(conv=>whnf)
   refine⟨i+1,aB,by grind,?_⟩;conv=>whnf
   refine⟨⟨.r,.r,a8 (ca (by omega)),aj⟩,⟨cM ?_,aj⟩,by rfl⟩;exact lV
  ·repeat' ((conv=>whnf);first|refine bl ?_|fail)
   all_goals(conv=>whnf)
   exact⟨.r,⟨.r,aj⟩,by rfl⟩
theorem EG(s:Mem)(ae:hl s):cj Tryz.prog 52 [] [.agg (cv s)] [] [.row 22 1 (s.hist.map c8),.row 150 2 (s.dbts.map dR)] (.agg (aoU s (.own 0) (.own 1))):=by
 have cX:=ae.cont;have c0:=ae.first
 have iu:=ae.hist;have ly:∀c∈s.hist,c.length<=1000000:=λc al=>by have:=ae.EC c al;omega
 have tW:=ae.view;have sL:=ae.sS;have sM:=ae.bV;have sN:=ae.als;have vi:=ae.dbts;have aA:=abo s.hist (by omega) ly;have aG:=aoW s.dbts (by omega);refine mi Tryz.func52 ?_;repeat' ((conv=>whnf);first|refine ch ?_|refine aR (pa _ (by omega)) ?_|refine .inr ⟨[],bO aA ?_⟩|refine aR (r2 _ (by omega)) ?_|refine aR (Sj _ (by omega)) ?_|refine aR (Hd _ (by omega)) ?_|refine .inr ⟨[],bO aG ?_⟩|refine aR (Sk _ ae.agr) ?_|fail)
 all_goals(conv=>whnf)
 refine⟨[.eT 0 2,.eT 1 8],?_⟩;conv=>whnf
 exact⟨.r,⟨.r,.r,aj⟩,by rfl⟩
def fh(s:Mem)(aZ:List ei):List aX:=[.cells 116 (iT s (.own 1) (.own 2) (.own 3)),.row 22 1 (s.hist.map c8),.row 150 2 (s.dbts.map dR),.row 121 2 (aZ.map gh)]
def abp(s:Mem):List aX:=[.cells 116 (iT s (.own 1) (.own 2) .ar),.row 22 1 (s.hist.map c8),.row 150 2 (s.dbts.map dR)]
theorem SG(s:Mem){f:Go.FuncId}{args:List ak}{bK:List aX}{d:ak}{cX c0 iu ly:Bool}(h:cj Tryz.prog f (fh s []) args [cX,c0,iu,ly] bK d):cj Tryz.prog f (abp s) args [cX,c0,iu] bK d:=
 aix (T:=116) (e:=121) (cs:=iT s (.own 1) (.own 2) .ar) (off:=29) (ay:=1) (R:=[.row 22 1 (s.hist.map c8),.row 150 2 (s.dbts.map dR)]) (kept:=[cX,c0,iu,ly]) h rfl rfl 3
def mO(s:Mem)(a:bR):Mem:=bif decide ((nH s.view s.als a).2.2=0)then {s with als:=(nH s.view s.als a).1}else s
theorem SH(s:Mem)(ab:s.view.mem.length<=1000)(af:s.als.length<=100000)(aZ:List ei)(a:bR):cj Tryz.prog 94 (fh s aZ) [.aW 0 0,.agg (ey a)] [true,true,true,true] (fh (mO s a) aZ) (.be []):=by
 have aA:=ajE s.view (bT ab (by decide)) s.als (by omega) a;have aa:mO s a=bif decide ((nH s.view s.als a).2.2=0)then {s with als:=(nH s.view s.als a).1}else s:=rfl;rw[aa];generalize nH s.view s.als a=X at *;clear aa;cases ag:decide (X.2.2=0);all_goals refine jV Tryz.func94 ?_
 all_goals repeat' ((conv=>whnf);first|refine ht (by assumption) ?_|refine ft (by assumption) ?_|refine ch ?_|refine aR aA ?_|fail)
 all_goals(conv=>whnf)
 all_goals exact⟨.r,⟨.r,.r,.r,.r,.r,aj⟩,by rfl⟩
theorem Mq(s:Mem)(a:bR): (mO s a).view=s.view/\(mO s a).self=s.self/\(mO s a).hist=s.hist/\(mO s a).first=s.first/\(mO s a).status=s.status/\(mO s a).cont=s.cont/\(mO s a).a7=s.a7/\(mO s a).dbts=s.dbts/\(mO s a).agr=s.agr:=by
 unfold mO;cases decide ((nH s.view s.als a).2.2=0)<;>exact⟨rfl,rfl,rfl,rfl,rfl,rfl,rfl,rfl,rfl⟩
theorem aoX(l:List bR)(a:bR): (k9 l a).1.length<=l.length+1:=by
 unfold k9
 grind
theorem aoY(v:aK)(l:List bR)(a:bR): (nH v l a).1.length<=l.length+1:=by
 have h:=aoX l a;unfold nH
 grind
theorem abq(s:Mem)(a:bR): (mO s a).als.length<=s.als.length+1:=by
 unfold mO;have:=aoY s.view s.als a
 grind
def kF(s:Mem)(x:Int):Nat->Mem
 |0=>s
 |i+1=>mO (kF s x i) ⟨s.view.num,(l3 s.view.mem s.self x).getD i 0,s.self,x⟩
def gU(s:Mem)(x:Int):Mem:=kF s x (l3 s.view.mem s.self x).length
theorem H5(s:Mem)(x:Int):∀i,(kF s x i).view=s.view/\(kF s x i).self=s.self/\(kF s x i).hist=s.hist/\(kF s x i).dbts=s.dbts/\(kF s x i).als.length<=s.als.length+i
 |0=>⟨rfl,rfl,rfl,rfl,bS _⟩
 |i+1=>by
  have a1:=H5 s x i;have h:=Mq (kF s x i) ⟨s.view.num,(l3 s.view.mem s.self x).getD i 0,s.self,x⟩;have af:=abq (kF s x i) ⟨s.view.num,(l3 s.view.mem s.self x).getD i 0,s.self,x⟩;exact⟨h.1.trans a1.1,h.2.1.trans a1.2.1,h.2.2.1.trans a1.2.2.1,h.2.2.2.2.2.2.2.1.trans a1.2.2.2.1,by unfold kF;omega⟩
theorem abr(ms:List Int)(a x:Int): (l3 ms a x).length<=5:=by
 unfold l3;cases (!(decide (1<=a)&&decide (a<=1000)))
 ·exact bT (YE _ _ _) (zg _ _)
 ·simp
theorem abt(s:Mem)(ab:s.view.mem.length<=1000)(af:s.als.length<=90000)(aZ:List ei)(x:Int):cj Tryz.prog 84 (fh s aZ) [.aW 0 0,i64 x] [true,true,true,true] (fh (gU s x) aZ) (.be []):=by
 have aA:=aoT s.view.mem (bT ab (by decide)) s.self x;have u6:=abr s.view.mem s.self x;have aa:gU s x=kF s x (l3 s.view.mem s.self x).length:=rfl;have ae:∀i,kF s x (i+1)=mO (kF s x i) ⟨s.view.num,(l3 s.view.mem s.self x).getD i 0,s.self,x⟩:=λ_=>rfl;have aQ:kF s x 0=s:=rfl;have hk:=H5 s x;rw[aa];generalize l3 s.view.mem s.self x=R at *;generalize kF s x=X at *;clear aa;subst aQ;refine jV Tryz.func84 ?_;repeat' ((conv=>whnf);first|refine ch ?_|refine aR aA ?_|fail)
 all_goals(conv=>whnf)
 refine⟨Nat,λi=>⟨[(0,.aW 0 0),(1,i64 x),(18,.av 1 (R.map aU) false),(19,i64 R.length),(20,i64 i)],[.cells 116 (iT (X i) (.own 1) (.own 2) (.own 3)),.row 22 1 ((X i).hist.map c8),.row 150 2 ((X i).dbts.map dR),.row 121 2 (aZ.map gh),.cB [.aW 0 0,.own 1,.own 2,.own 3],.bn]⟩,λi=>i<=R.length,λi=>R.length-i,[],⟨0,bZ _,?_⟩,?_⟩
 ·conv=>whnf
  exact⟨⟨.r,.r,.r,a8 (by simp),.r,aj⟩,⟨.r,.r,.r,.r,.r,.r,aj⟩,by rfl⟩
 ·intro i hi;obtain⟨cV,dj,hT,hN,nk⟩:=hk i;repeat' ((conv=>whnf);first| (apply bo<;>intro h)|fail)
  ·have aB:i<R.length:=by simpa using h
   clear h;have aG:=SH (X i) (by rw[cV];exact ab) (by omega) aZ ⟨(X i).view.num,R[i],(X i).self,x⟩;have ax:R.getD i 0=R[i]:=by simp[aB]
   have oA:=ae i;rw[ax,<-cV,<-dj]at oA;rw[<-oA]at aG;repeat' ((conv=>whnf);first|refine ch ?_|refine⟨_,_,aS ⟨rfl,du aB⟩ ?_⟩|refine .inr ⟨[0,1,2,3],bO aG ?_⟩|fail)
   all_goals(conv=>whnf)
   refine⟨i+1,aB,by simp only[];omega,?_⟩;conv=>whnf
   exact⟨⟨.r,.r,.r,.r,a8 (ca (by omega)),aj⟩,⟨.r,.r,.r,.r,.r,.bn,aj⟩,by rfl⟩
  ·have:i=R.length:=by
    simp at h;omega
   subst this;repeat' ((conv=>whnf);first|refine bl ?_|fail)
   all_goals(conv=>whnf)
   exact⟨.r,⟨.r,.r,.r,.r,.r,aj⟩,by rfl⟩
theorem aoZ(s:Mem)(ab H4 Hq:ak):∀ (i:Nat) d,(zL s.self s.view.mem)[i]?=some d->∃c,(iT s ab H4 Hq)[i]?=some c/\(d= .aY\/(d=c/\qM c=true)):=by
 intro i d hi;rcases i with _|_|_|_|_|_|_|_|i
 ·exact⟨_,rfl,.inr ⟨(vM hi).symm,rfl⟩⟩
 ·exact⟨_,rfl,.inl (vM hi).symm⟩
 ·exact⟨_,rfl,.inl (vM hi).symm⟩
 ·exact⟨_,rfl,.inl (vM hi).symm⟩
 ·exact⟨_,rfl,.inl (vM hi).symm⟩
 ·exact⟨_,rfl,.inl (vM hi).symm⟩
 ·exact⟨_,rfl,.inl (vM hi).symm⟩
 ·exact⟨_,rfl,.inr ⟨(vM hi).symm,rfl⟩⟩
 ·simp[zL]at hi
def pY(s:Mem):List Int:=s.view.mem.filter (hZ s.self)
theorem SI(s:Mem)(af:s.view.mem.length<=1000)(bx:s.view.mem≠ [])(aZ:List ei):cj Tryz.prog 104 (fh s aZ) [.aW 0 0] [true,true,true,true] (fh s aZ) (.av 1 ((pY s).map aU) false):=by
 have e:=aoS s.self s.view.mem (by omega) bx;have an:∀r∈ (s.view.mem.filter (hZ s.self)).map aU,∀d∈r,Ql d=true:=by
  intro r ao d aa;obtain⟨x,_,rfl⟩:=fr.1 ao;simp only[aU,eJ]at aa;subst aa;rfl
 refine aiq _ e (aoZ s _ _ _) an ?_;simp
theorem SJ(s:Mem)(aZ:List ei)(oI:aZ.length<=100000)(dd:Int)(k:Nat)(jk:1<=k)(hk:k<=255)(b:List Nat)(ac:b.length<=800000):
  cj Tryz.prog 55 (fh s aZ) [.aW 0 0,i64 dd,i64 k,.av 1 (b.map bE) false] [true,true,true,false] (fh s (aZ++ [ei.mk dd (eu k b)])) (.be []):=by
 have aA:=Y3 k jk hk b ac;generalize eu k b=W at *;refine jV Tryz.func55 ?_;repeat' ((conv=>whnf);first|refine aR aA ?_|refine aS (Sp (by simp<;>omega)) ?_|fail)
 all_goals(conv=>whnf)
 refine⟨.r,⟨.r,.r,.r,cM ?_,HY,aj⟩,by rfl⟩;rw[ew];rfl
def wP(s:Mem)(dd:Int):ei:=⟨dd,r4 s.first s.hist⟩
structure EH(s:Mem):Prop where
 first:b2 s.first=true
 len:s.hist.length<=400
 aI:∀c∈s.hist,mL c
theorem ao0{l:List (List Int)}{i:Nat}(h:i<l.length):jN (l.take (i+1))=jN (l.take i)++gg l[i]:=by
 unfold jN;rw[fA h,Ad];simp
theorem SK(s:Mem)(ae:EH s)(aZ:List ei)(oI:aZ.length<=90000)(dd:Int):cj Tryz.prog 85 (fh s aZ) [.aW 0 0,i64 dd] [true,true,true,false] (fh s (aZ++ [wP s dd])) (.be []):=by
 obtain⟨ab,aV,al⟩:=ae;have hv:=k8 ab;have jl:=EB s.first ab
 have jg:=BU al;have abu:∀i,(jN (s.hist.take i)).length<=330*s.hist.length:=λi=>by
  have:=BU (l:=s.hist.take i) (λc h=>al c (om h));have ad: (s.hist.take i).length<=s.hist.length:=by rw[mW];omega
  omega
 have i0: (bB s.hist.length).length<=10:=hP 9 _;have aA:=anb s.first ab
 have hu:IntKind.u64.wrap ((s.hist.map c8).length:Int)=((s.hist.length:Nat):Int):=by rw[bL];exact BL (n:=(s.hist.length:Int)) (by omega) (by omega)
 have aG:=Bk (jz s.first) (by omega) s.hist.length (by omega);have dA:jz s.first++bB s.hist.length++jN (s.hist.take s.hist.length)=qy s.first s.hist:=by
  rw[gn,k1];rfl
 have cn:=SJ s aZ (by omega) dd 4 (by omega) (by omega) (jz s.first++bB s.hist.length++jN (s.hist.take s.hist.length)) (by have:=abu s.hist.length;simp only[fw];omega);have Lk:∀i (h:i<s.hist.length),jz s.first++bB s.hist.length++jN (s.hist.take i)++gg s.hist[i]=jz s.first++bB s.hist.length++jN (s.hist.take (i+1)):=λi h=>by
  rw[ao0 h,k1]
 have hlen:∀i,(jz s.first++bB s.hist.length++jN (s.hist.take i)).length<=700000:=λi=>by
  have:=abu i;simp only[fw];omega
 have ao1:jz s.first++bB s.hist.length++jN (s.hist.take 0)=jz s.first++bB s.hist.length:=by simp[jN]
 rw[dA]at cn;rw[<-ao1]at aG;generalize ct: (λi=>jz s.first++bB s.hist.length++jN (s.hist.take i))=B;have abv:∀i,jz s.first++bB s.hist.length++jN (s.hist.take i)=B i:=λi=>by rw[<-ct]
 simp only[abv]at *;clear ct abv;rw[<-dA]at cn;refine jV Tryz.func85 ?_;repeat' ((conv=>whnf);first|refine ch ?_|refine aR aA ?_|refine .inl ⟨[_,_],_,⟨.r,a8 hu,aj⟩,aG,?_⟩|fail)
 all_goals(conv=>whnf)
 refine⟨Nat,λi=>⟨[(0,.aW 0 0),(1,i64 dd),(4,.av 1 ((B i).map bE) false),(25,.own 1),(26,i64 s.hist.length),(27,i64 i)],[.cells 116 (iT s (.own 1) (.own 2) (.own 3)),.row 22 1 (s.hist.map c8),.row 150 2 (s.dbts.map dR),.row 121 2 (aZ.map gh),.cB [.aW 0 0,.own 1,.own 2,.own 3]]⟩,λi=>i<=s.hist.length,λi=>s.hist.length-i,[],⟨0,bZ _,?_⟩,?_⟩
 ·conv=>whnf
  exact⟨⟨.r,.r,.r,.r,a8 (by simp),.r,aj⟩,⟨.r,.r,.r,.r,.r,aj⟩,by rfl⟩
 ·intro i hi;repeat' ((conv=>whnf);first| (apply bo<;>intro h)|fail)
  ·have aB:i<s.hist.length:=by simpa using h
   clear h;have gD:i<(s.hist.map c8).length:=by rw[bL];exact aB
   have cL: (s.hist.map c8)[i]?=some (c8 s.hist[i]):=by simp[aB]
   have ix:=al _ (eD aB);have bc:=Sh (B i) (hlen i) s.hist[i] (by have:=ix.1;omega) ix.2;rw[Lk i aB]at bc;repeat' ((conv=>whnf);first|refine⟨i,aS ⟨rfl,gD⟩ ?_⟩|refine⟨c8 s.hist[i],aS cL ?_⟩|refine aR bc ?_|fail)
   all_goals(conv=>whnf)
   refine⟨i+1,aB,by simp only[];omega,?_⟩;conv=>whnf
   exact⟨⟨.r,.r,.r,.r,.r,a8 (ca (by omega)),aj⟩,⟨.r,.r,.r,.r,.r,aj⟩,by rfl⟩
  ·have:i=s.hist.length:=by
    simp at h;omega
   subst this;repeat' ((conv=>whnf);first|refine .inr ⟨[0,1,2,3],bO cn ?_⟩|fail)
   all_goals(conv=>whnf)
   refine⟨.r,⟨.r,.r,.r,cM ?_,HY,aj⟩,by rfl⟩;rw[dA];rfl
structure vq(m:c1):Prop where
 kind:0<=m.kind/\m.kind<=1099511627776
 view:0<=m.view/\m.view<=1099511627776
 src:0<=m.src/\m.src<=1099511627776
 aC:0<=m.aC/\m.aC<=1099511627776
 cU: -1<=m.cU/\m.cU<=1099511627776
 cut:mL m.cut
def oG(m:c1):List Int:=[m.kind,m.view,m.src,m.aC]
def r6(m:c1)(i:Nat):List Nat:=((oG m).take i).flatMap λn=>bB n.toNat
def rk(m:c1):List Nat:=r6 m 4++bB (fQ m.cU)++gg m.cut
def qz(s:Mem)(p:dN):List Int:=bif decide (p.dd=0)then pY s else [p.dd]
def H6(s:Mem)(p:dN):List ei:=(qz s p).map λid=>⟨id,eu 3 (rk p.m)⟩
def jP(s:Mem)(l:List dN):List ei:=l.flatMap (H6 s)
theorem abw(m:c1)(i:Nat): (r6 m i).length<=40:=by
 have h:∀l:List Int,(l.flatMap λn=>bB n.toNat).length<=10*l.length:=by
  intro l;induction l with
  |nil=>simp
  |cons x l a1=>
   have: (bB x.toNat).length<=10:=hP 9 _
   grind
 have h1:=h ((oG m).take i);have ad: ((oG m).take i).length<=4:=by rw[mW];exact Nat.min_le_right _ _
 unfold r6;omega
theorem Mr(s:Mem)(h:s.view.mem.length<=16): (pY s).length<=16:=bT (uu _ _) h
theorem SL(s:Mem)(h:s.view.mem.length<=16)(p:dN): (qz s p).length<=16:=by
 unfold qz;cases decide (p.dd=0)
 ·simp
 ·exact Mr s h
theorem H7(s:Mem)(h:s.view.mem.length<=16):∀l:List dN,(jP s l).length<=16*l.length
 | []=>by simp[jP]
 |p::l=>by
  have h1:=H7 s h l;have ad:=SL s h p;have e:jP s (p::l)=H6 s p++jP s l:=rfl;rw[e,fw,l7];unfold H6
  grind
theorem Mt(s:Mem)(ab:s.view.mem.length<=16)(bx:s.view.mem≠ [])(l:List dN)(af:l.length<=1000)(cy:∀p∈l,vq p.m)(aZ:List ei)(oI:aZ.length<=50000):
  cj Tryz.prog 89 (fh s aZ) [.aW 0 0,.av 7 (l.map fu) false] [true,true,true,false] (fh s (aZ++jP s l)) (.be []):=by
 have aA:=λQ=>SI s (by omega) bx Q;have fk:=λQ gP dd b ac=>SJ s Q gP dd 3 (by omega) (by omega) b ac;have wM:∀i,(jP s (l.take i)).length<=16*l.length:=λi=>by
  have:=H7 s ab (l.take i);have ad: (l.take i).length<=l.length:=by rw[mW];omega
  omega
 have BY:=SL s ab;have Mu:aZ++jP s (l.take 0)=aZ:=by simp[jP]
 have SM:∀i (h:i<l.length),aZ++jP s (l.take (i+1))=aZ++jP s (l.take i)++(qz s l[i]).map λid=>ei.mk id (eu 3 (rk l[i].m)):=λi h=>by
  rw[fA h];unfold jP;rw[Ad,k1];simp[H6]
 have ao2:aZ++jP s (l.take l.length)=aZ++jP s l:=by rw[gn]
 have zD:∀i,(aZ++jP s (l.take i)).length<=70000:=λi=>by rw[fw];have:=wM i;omega
 rw[<-ao2];generalize abx: (λi=>aZ++jP s (l.take i))=X;have aby:∀i,aZ++jP s (l.take i)=X i:=λi=>by rw[<-abx]
 simp only[aby]at *;rw[<-Mu];clear abx aby wM;refine jV Tryz.func89 ?_;repeat' ((conv=>whnf);first|refine bl ?_|fail)
 all_goals(conv=>whnf)
 refine⟨Nat,λi=>⟨[(0,.aW 0 0),(13,.av 7 (l.map fu) false),(14,i64 l.length),(15,i64 i)],[.cells 116 (iT s (.own 1) (.own 2) (.own 3)),.row 22 1 (s.hist.map c8),.row 150 2 (s.dbts.map dR),.row 121 2 ((X i).map gh),.cB [.aW 0 0,.own 1,.own 2,.aY]]⟩,λi=>i<=l.length,λi=>l.length-i,[],⟨0,bZ _,?_⟩,?_⟩
 ·conv=>whnf
  exact⟨⟨.r,.r,a8 (by simp),.r,aj⟩,⟨.r,.r,.r,.r,HY,aj⟩,by rfl⟩
 ·intro i hi;repeat' ((conv=>whnf);first| (apply bo<;>intro h)|fail)
  ·have aB:i<l.length:=by simpa using h
   clear h;obtain⟨hk,q4,EI,u3,D7,Mv⟩:=cy _ (eD aB);have ao3:=SM i aB;have au9:=zD i;have tu:=BY l[i];have cL: (l.map fu)[i]?=some (fu l[i]):=du aB;have H8:=abw l[i].m;have jg:=HS Mv;have nf: (bB (fQ l[i].m.cU)).length<=10:=hP 9 _;have EJ:qz s l[i]=bif decide (l[i].dd=0)then pY s else [l[i].dd]:=rfl;have tv:rk l[i].m=r6 l[i].m 4++bB (fQ l[i].m.cU)++gg l[i].m.cut:=rfl;have bs:∀j,j<4->∃n:Int,[i64 l[i].m.kind,i64 l[i].m.view,i64 l[i].m.src,i64 l[i].m.aC][j]?=some (i64 n)/\0<=n/\n<=1099511627776/\r6 l[i].m (j+1)=r6 l[i].m j++bB n.toNat:=by
    intro j aq;rcases j with _|_|_|_|j
    ·exact⟨_,rfl,hk.1,hk.2,by simp[r6,oG]⟩
    ·exact⟨_,rfl,q4.1,q4.2,by simp[r6,oG]⟩
    ·exact⟨_,rfl,EI.1,EI.2,by simp[r6,oG]⟩
    ·exact⟨_,rfl,u3.1,u3.2,by simp[r6,oG]⟩
    ·omega
   have abz:r6 l[i].m 0=[]:=by simp[r6]
   generalize l[i]=p at *;generalize r6 p.m=B at *;generalize qz s p=Z at *;generalize rk p.m=W at *;repeat' ((conv=>whnf);first|refine⟨i,fu p,aS ⟨rfl,cL⟩ ?_⟩|fail)
   all_goals(conv=>whnf)
   refine⟨Nat,λj=>⟨[(0,.aW 0 0),(5,.aW 5 0),(6,.aW 6 0),(7,.av 1 ((B j).map bE) false),(13,.av 7 (l.map fu) false),(14,i64 l.length),(15,i64 i),(29,.agg [i64 p.m.kind,i64 p.m.view,i64 p.m.src,i64 p.m.aC]),(30,i64 j)],[.cells 116 (iT s (.own 1) (.own 2) (.own 3)),.row 22 1 (s.hist.map c8),.row 150 2 (s.dbts.map dR),.row 121 2 ((X i).map gh),.cB [.aW 0 0,.own 1,.own 2,.aY],.cells 218 (fu p),.cells 108 (pQ p.m)]⟩,λj=>j<=4,λj=>4-j,[],⟨0,bZ _,?_⟩,?_⟩
   ·conv=>whnf
    exact⟨⟨.r,.r,.r,(by show hQ _ (.av 1 ((B 0).map bE) false);rw[abz];exact .ar),.r,.r,.r,.r,.r,aj⟩,⟨.r,.r,.r,.r,.r,.r,.r,aj⟩,by rfl⟩
   ·intro j aq;repeat' ((conv=>whnf);first| (apply bo<;>intro h)|fail)
    ·have SN:j<4:=by have h:=fC h;omega
     clear h;obtain⟨n,pF,Ki,ao4,ao5⟩:=bs j SN;have bc:=Bk (B j) (by have:=H8 j;omega) n.toNat (by omega);rw[<-ao5]at bc;repeat' ((conv=>whnf);first|refine⟨j,i64 n,aS ⟨rfl,SN,pF⟩ ?_⟩|refine .inl ⟨[_,_],_,⟨.r,a8 (BL Ki ao4),aj⟩,bc,?_⟩|fail)
     all_goals(conv=>whnf)
     refine⟨j+1,SN,by simp only[];omega,?_⟩;conv=>whnf
     exact⟨⟨.r,.r,.r,.r,.r,.r,.r,.r,a8 (ca (by omega)),aj⟩,⟨.r,.r,.r,.r,.r,.r,.r,aj⟩,by rfl⟩
    ·have:j=4:=by
      simp at h;omega
     subst this;clear h;have cn:=am2 (B 4) (by have:=H8 4;omega) p.m.cU D7.1 D7.2;have ep:=Sh (B 4++bB (fQ p.m.cU)) (by have:=H8 4;rw[fw];omega) p.m.cut (by have:=Mv.1;omega) Mv.2;rw[<-tv]at ep;have ao6:W.length<=800000:=by
      have:=H8 4;rw[tv];simp only[fw];omega
     clear bs abz;repeat' ((conv=>whnf);first| (apply bo<;>intro h)|refine ch ?_|refine aR cn ?_|refine aR ep ?_|refine .inr ⟨[0,1,2,3],bO (aA (X i)) ?_⟩|fail)
     all_goals(conv=>whnf)
     all_goals rw[h]at EJ
     all_goals clear h cL jg nf tv H8 hk q4 EI u3 D7 Mv cn ep
     refine⟨Nat,λj=>⟨[(0,.aW 0 0),(7,.av 1 (W.map bE) false),(13,.av 7 (l.map fu) false),(14,i64 l.length),(15,i64 i),(53,.av 1 (Z.map aU) false),(54,i64 Z.length),(55,i64 j)],[.cells 116 (iT s (.own 1) (.own 2) (.own 3)),.row 22 1 (s.hist.map c8),.row 150 2 (s.dbts.map dR),.row 121 2 ((X i++(Z.take j).map λid=>ei.mk id (eu 3 W)).map gh),.cB [.aW 0 0,.own 1,.own 2,.aY]]⟩,λj=>j<=Z.length,λj=>Z.length-j,[],⟨0,bZ _,?_⟩,?_⟩
     ·conv=>whnf
      exact⟨⟨.r,.r,.r,.r,.r,(by rw[EJ];exact .refl),(by rw[EJ];exact a8 (by simp)),.r,aj⟩,⟨.r,.r,.r,cM (by simp),.r,aj⟩,by rfl⟩
     rotate_left
     refine⟨Nat,λj=>⟨[(0,.aW 0 0),(7,.av 1 (W.map bE) false),(13,.av 7 (l.map fu) false),(14,i64 l.length),(15,i64 i),(53,.av 1 (Z.map aU) false),(54,i64 Z.length),(55,i64 j)],[.cells 116 (iT s (.own 1) (.own 2) (.own 3)),.row 22 1 (s.hist.map c8),.row 150 2 (s.dbts.map dR),.row 121 2 ((X i++(Z.take j).map λid=>ei.mk id (eu 3 W)).map gh),.cB [.aW 0 0,.own 1,.own 2,.aY]]⟩,λj=>j<=Z.length,λj=>Z.length-j,[.j6 53],⟨0,bZ _,?_⟩,?_⟩
     ·conv=>whnf
      exact⟨⟨.r,.r,.r,.r,.r,(by rw[EJ];exact hQ.av),(by rw[EJ];exact .refl),.r,aj⟩,⟨.r,.r,.r,cM (by simp),.r,aj⟩,by rfl⟩
     all_goals clear EJ
     all_goals intro j aq
     all_goals repeat' ((conv=>whnf);first| (apply bo<;>intro h)|fail)
     all_goals first
      | (have nl:j<Z.length:=by simpa using h
         clear h;have iI:=fk (X i++(Z.take j).map λid=>ei.mk id (eu 3 W)) (by rw[fw,bL,mW];omega) Z[j] W ao6;have hx:X i++(Z.take j).map (λid=>ei.mk id (eu 3 W))++ [ei.mk Z[j] (eu 3 W)]=X i++(Z.take (j+1)).map λid=>ei.mk id (eu 3 W):=by
           rw[fA nl,ew,k1];rfl
         rw[hx]at iI;repeat' ((conv=>whnf);first|refine⟨_,_,aS ⟨rfl,du nl⟩ ?_⟩|refine .inr ⟨[0,1,2,3],bO iI ?_⟩|fail)
         all_goals(conv=>whnf)
         refine⟨j+1,nl,by simp only[];omega,?_⟩;conv=>whnf
         exact⟨⟨.r,.r,.r,.r,.r,.r,.r,a8 (ca (by omega)),aj⟩,⟨.r,.r,.r,.r,.r,aj⟩,by rfl⟩)
      | (have:j=Z.length:=by
           simp at h;omega
         subst this;rw[gn,<-ao3];repeat' ((conv=>whnf);first|refine bl ?_|fail)
         all_goals(conv=>whnf)
         refine⟨i+1,aB,by simp only[];omega,?_⟩;conv=>whnf
         exact⟨⟨.r,.r,.r,a8 (ca (by omega)),aj⟩,⟨.r,.r,.r,.r,.r,aj⟩,by rfl⟩)
  ·have:i=l.length:=by
    simp at h;omega
   subst this;repeat' ((conv=>whnf);first|refine bl ?_|fail)
   all_goals(conv=>whnf)
   exact⟨.r,⟨.r,.r,.r,.r,.r,aj⟩,by rfl⟩
theorem gV{cs ds:List ak}(h:m4 cs ds):hz (.cB cs) (.cB ds):=.cB (xK h).1 (xK h).2
def nO(s:Mem):Mem:={s with dbts:=s.dbts.filter (mt (ev s.view s.als false))}
theorem abA(s:Mem)(ab:s.view.mem.length<=1000)(bb:s.als.length<=100000)(aa:s.dbts.length<=100000)(aZ:List ei):cj Tryz.prog 91 (fh s aZ) [.aW 0 0] [true,true,false,true] (fh (nO s) aZ) (.be []):=by
 have aA:=EA s.view (bT ab (by decide)) s.als (by omega);have rj:=HM s.view s.als false;have abB:nO s= {s with dbts:=s.dbts.filter (mt (ev s.view s.als false))}:=rfl;rw[abB];generalize ev s.view s.als false=U at *;have aG:=aoM U (bT rj (by have: (100000:Nat)<=maxLen:=(by decide);omega)) s.dbts aa;refine ik (fn:=Tryz.f91) (c:=Tryz.f91.body.getD .skip) az aw (by rfl) Tryz.func91 (by rfl) (by rfl) (by rfl) (by rfl) (by rfl) ?_;repeat' ((conv=>whnf);first|refine ch ?_|refine aR aA ?_|refine .inr ⟨[2],bO aG ?_⟩|fail)
 all_goals(conv=>whnf)
 exact⟨.r,⟨.r,.r,.r,.r,gV ⟨.r,.r,.aY,.r,aj⟩,aj⟩,by rfl⟩
def pZ(l:List iD)(x:Int):Nat->Int
 |0=>0
 |j+1=>bif decide ((l.getD j ki).bG=x)then(l.getD j ki).j0 else pZ l x j
def EK(l:List iD)(x:Int):Int:=pZ l x l.length
def x8(l:List iD)(x:Int):Int:=if 6<EK l x+1 then 6 else EK l x+1
def EL(l:List iD)(x:Int):Bool:=decide (x8 l x=6)&&decide (EK l x<x8 l x)
def kl(self:Int)(l:List iD)(U:List Int):List iD:=(U.filter (hZ self)).map λx=>⟨x,x8 l x⟩
def iU(self:Int)(l:List iD)(U:List Int):List Int:=(U.filter (hZ self)).filter (EL l)
def km(s:Mem)(l:List Int):Nat->Mem
 |0=>s
 |i+1=>gU (km s l i) (l.getD i 0)
def p0(s:Mem):Mem:=nO (km {s with dbts:=kl s.self s.dbts (ev s.view s.als false)} (iU s.self s.dbts (ev s.view s.als false)) (iU s.self s.dbts (ev s.view s.als false)).length)
theorem zM(s:Mem)(x:Int): (gU s x).view=s.view/\(gU s x).self=s.self/\(gU s x).hist=s.hist/\(gU s x).dbts=s.dbts/\(gU s x).als.length<=s.als.length+5:=by
 have h:=H5 s x (l3 s.view.mem s.self x).length;have:=abr s.view.mem s.self x;exact⟨h.1,h.2.1,h.2.2.1,h.2.2.2.1,by unfold gU;omega⟩
theorem EM(s:Mem)(l:List Int):∀i,(km s l i).view=s.view/\(km s l i).self=s.self/\(km s l i).hist=s.hist/\(km s l i).dbts=s.dbts/\(km s l i).als.length<=s.als.length+5*i
 |0=>⟨rfl,rfl,rfl,rfl,bS _⟩
 |i+1=>by
  have a1:=EM s l i;have h:=zM (km s l i) (l.getD i 0);exact⟨h.1.trans a1.1,h.2.1.trans a1.2.1,h.2.2.1.trans a1.2.2.1,h.2.2.2.1.trans a1.2.2.2.1,by unfold km;omega⟩
theorem abC{l:List iD}(h:∀d∈l,0<=d.j0/\d.j0<=1000)(x:Int):∀j,0<=pZ l x j/\pZ l x j<=1000
 |0=>by simp[pZ]
 |j+1=>by
  have a1:=abC h x j;unfold pZ;cases decide ((l.getD j ki).bG=x)
  ·exact a1
  ·by_cases aq:j<l.length
   ·grind
   ·rw[show l.getD j ki=ki by grind];exact⟨k0 0,by show (0:Int)<=1000;omega⟩
theorem abD(s:Mem)(ab:s.view.mem.length<=1000)(bb:s.als.length<=6000)(aa:s.dbts.length<=1000)(cI:∀d∈s.dbts,0<=d.j0/\d.j0<=1000)(aZ:List ei):cj Tryz.prog 95 (fh s aZ) [.aW 0 0] [true,true,false,true] (fh (p0 s) aZ) (.be []):=by
 have aA:=EA s.view (bT ab (by decide)) s.als (by omega);have ao7:=HM s.view s.als false;have abE:p0 s=nO (km {s with dbts:=kl s.self s.dbts (ev s.view s.als false)} (iU s.self s.dbts (ev s.view s.als false)) (iU s.self s.dbts (ev s.view s.als false)).length):=rfl;rw[abE];clear abE;generalize ev s.view s.als false=U at *;refine mi Tryz.func95 ?_;repeat' ((conv=>whnf);first|refine ch ?_|refine aR aA ?_|fail)
 all_goals(conv=>whnf)
 refine⟨Nat,λi=>⟨[(0,.aW 0 0),(2,.own 6),(3,.own 7),(22,.av 1 (U.map aU) false),(23,i64 U.length),(24,i64 i)],[.cells 116 (iT s (.own 1) (.own 2) (.own 3)),.row 22 1 (s.hist.map c8),.row 150 2 (s.dbts.map dR),.row 121 2 (aZ.map gh),.cB [.aW 0 0,.own 1,.own 2,.own 3],.bn,.row 150 2 ((kl s.self s.dbts (U.take i)).map dR),.row 3 1 ((iU s.self s.dbts (U.take i)).map aU)]⟩,λi=>i<=U.length,λi=>U.length-i,[.h4 2 150 2,.h4 3 3 1],⟨0,bZ _,?_⟩,?_⟩
 ·conv=>whnf
  exact⟨⟨.r,.r,.r,.r,a8 (by simp),.r,aj⟩,⟨.r,.r,.r,.r,.r,.r,.r,.r,aj⟩,by rfl⟩
 ·intro i hi;repeat' ((conv=>whnf);first| (apply bo<;>intro h)|fail)
  ·have aB:i<U.length:=by simpa using h
   clear h;have hx:kl s.self s.dbts (U.take (i+1))=kl s.self s.dbts (U.take i)++kl s.self s.dbts [U[i]]:=by
    rw[fA aB];unfold kl;rw[oh,ew]
   have qi:iU s.self s.dbts (U.take (i+1))=iU s.self s.dbts (U.take i)++iU s.self s.dbts [U[i]]:=by
    rw[fA aB];unfold iU;rw[oh,oh]
   have ao8: (U.map aU)[i]?=some (aU U[i]):=du aB;have wz: (kl s.self s.dbts (U.take i)).length<=6000:=by
    unfold kl;rw[bL];have:=uu (hZ s.self) (U.take i);have ad: (U.take i).length<=U.length:=by rw[mW];omega
    omega
   have i0: (iU s.self s.dbts (U.take i)).length<=6000:=by
    unfold iU;have:=uu (hZ s.self) (U.take i);have aN:=uu (EL s.dbts) ((U.take i).filter (hZ s.self));have ad: (U.take i).length<=U.length:=by rw[mW];omega
    omega
   have Dl:hZ s.self U[i]= !decide (U[i]=s.self):=rfl;have pF:kl s.self s.dbts [U[i]]=bif hZ s.self U[i]then [⟨U[i],x8 s.dbts U[i]⟩]else []:=by
    unfold kl;cases rG:hZ s.self U[i]<;>simp[rG]
   have hL:iU s.self s.dbts [U[i]]=bif hZ s.self U[i]&&EL s.dbts U[i]then [U[i]]else []:=by
    unfold iU;cases rG:hZ s.self U[i]<;>cases xm:EL s.dbts U[i]<;>simp[rG,xm]
   rw[pF]at hx;rw[hL]at qi;have Hb:=abC cI U[i];have hw:∀j,IntKind.i64.wrap (pZ s.dbts U[i] j+1)=pZ s.dbts U[i] j+1:=λj=>dQ (by have:=Hb j;omega) (by have:=Hb j;omega);clear pF hL;generalize U[i]=x at *;generalize kl s.self s.dbts=N at *;generalize iU s.self s.dbts=G at *;repeat' ((conv=>whnf);first| (apply bo<;>intro h)|refine⟨i,aU x,aS ⟨rfl,ao8⟩ ?_⟩|fail)
   ·rw[Dl,h]at hx qi;all_goals(conv=>whnf)
    refine⟨i+1,aB,by simp only[];omega,?_⟩;conv=>whnf
    exact⟨⟨.r,.r,.r,.r,.r,a8 (ca (by omega)),aj⟩,⟨.r,.r,.r,.r,.r,.r,cM (by rw[hx];simp),cM (by rw[qi];simp),aj⟩,by rfl⟩
   ·rw[Dl,h]at hx qi;clear h Dl;conv=>whnf
    refine⟨Nat,λj=>⟨[(0,.aW 0 0),(2,.own 6),(3,.own 7),(5,i64 x),(6,i64 (pZ s.dbts x j)),(22,.av 1 (U.map aU) false),(23,i64 U.length),(24,i64 i),(39,.own 2),(40,i64 s.dbts.length),(41,i64 j)],[.cells 116 (iT s (.own 1) (.own 2) (.own 3)),.row 22 1 (s.hist.map c8),.row 150 2 (s.dbts.map dR),.row 121 2 (aZ.map gh),.cB [.aW 0 0,.own 1,.own 2,.own 3],.bn,.row 150 2 ((N (U.take i)).map dR),.row 3 1 ((G (U.take i)).map aU)]⟩,λj=>j<=s.dbts.length,λj=>s.dbts.length-j,[],⟨0,bZ _,?_⟩,?_⟩
    ·conv=>whnf
     exact⟨⟨.r,.r,.r,.r,.r,.r,.r,.r,.r,a8 (by simp),.r,aj⟩,⟨.r,.r,.r,.r,.r,.r,.r,.r,aj⟩,by rfl⟩
    ·intro j aq;repeat' ((conv=>whnf);first|refine bl ?_| (apply bo<;>intro h)|refine dE ?_|fail)
     ·have nY:j<s.dbts.length:=by simpa using h
      clear h;have gD:j<(s.dbts.map dR).length:=by rw[bL];exact nY
      have cL: (s.dbts.map dR)[j]?=some (dR s.dbts[j]):=du nY;have zN:pZ s.dbts x (j+1)=bif decide (s.dbts[j].bG=x)then s.dbts[j].j0 else pZ s.dbts x j:=by
       rw[pZ,show s.dbts.getD j ki=s.dbts[j] by simp[nY]]
      repeat' ((conv=>whnf);first| (apply bo<;>intro h)|refine⟨j,aS ⟨rfl,gD⟩ ?_⟩|refine⟨dR s.dbts[j],aS cL ?_⟩|fail)
      all_goals rw[h]at zN
      all_goals(conv=>whnf)
      all_goals refine⟨j+1,nY,by simp only[];omega,?_⟩
      all_goals(conv=>whnf)
      all_goals exact⟨⟨.r,.r,.r,.r,a8 zN.symm,.r,.r,.r,.r,.r,a8 (ca (by omega)),aj⟩,⟨.r,.r,.r,.r,.r,.r,.r,.r,aj⟩,by rfl⟩
     all_goals rename_i aQ
     all_goals have iv:j=s.dbts.length:=by(simp at aQ;omega)
     all_goals subst iv
     all_goals have abF:=hw s.dbts.length
     all_goals rw[abF]at h
     all_goals have eV:EL s.dbts x=_:=h
     all_goals clear h aQ hw
     all_goals rw[eV]at qi
     all_goals have Mi: ((N (U.take i)).map dR).length+1<=2000000:=by(rw[bL];omega)
     all_goals have rW: ((G (U.take i)).map aU).length+1<=2000000:=by(rw[bL];omega)
     all_goals have pJ:x8 s.dbts x=(if 6<IntKind.i64.wrap (pZ s.dbts x s.dbts.length+1)then 6 else IntKind.i64.wrap (pZ s.dbts x s.dbts.length+1)):=by(rw[abF];rfl)
     all_goals rw[pJ]at hx
     all_goals repeat' ((conv=>whnf);first|refine aS (Si Mi) ?_|refine aS (qo rW) ?_|fail)
     all_goals(conv=>whnf)
     all_goals refine⟨i+1,aB,by simp only[];omega,?_⟩
     all_goals(conv=>whnf)
     all_goals refine⟨⟨.r,.r,.r,.r,.r,a8 (ca (by omega)),aj⟩,⟨.r,.r,.r,.r,.r,.r,cM ?_,cM ?_,aj⟩,by rfl⟩
     all_goals first
      | (rw[hx,ew];rfl)
      | (rw[qi,ew];rfl)
      | (rw[qi];simp)
  ·have:i=U.length:=by
    simp at h;omega
   subst this;clear h;rw[gn];have ava: (iU s.self s.dbts U).length<=6000:=by
    unfold iU;have:=uu (hZ s.self) U;have aN:=uu (EL s.dbts) (U.filter (hZ s.self));omega
   have avb: (kl s.self s.dbts U).length<=6000:=by
    unfold kl;rw[bL];have:=uu (hZ s.self) U;omega
   have zO:km {s with dbts:=kl s.self s.dbts U} (iU s.self s.dbts U) 0= {s with dbts:=kl s.self s.dbts U}:=rfl;have H9:∀k,km {s with dbts:=kl s.self s.dbts U} (iU s.self s.dbts U) (k+1)=gU (km {s with dbts:=kl s.self s.dbts U} (iU s.self s.dbts U) k) ((iU s.self s.dbts U).getD k 0):=λ_=>rfl;have abG:=EM {s with dbts:=kl s.self s.dbts U} (iU s.self s.dbts U);generalize km {s with dbts:=kl s.self s.dbts U} (iU s.self s.dbts U)=Y at *;generalize iU s.self s.dbts U=L at *;generalize kl s.self s.dbts U=N at *;simp only[]at abG;repeat' ((conv=>whnf);first|refine bl ?_|fail)
   all_goals(conv=>whnf)
   refine⟨Nat,λk=>⟨[(0,.aW 0 0),(78,.own 7),(79,i64 L.length),(80,i64 k)],[.cells 116 (iT (Y k) (.own 1) (.own 6) (.own 3)),.row 22 1 ((Y k).hist.map c8),.row 150 2 (s.dbts.map dR),.row 121 2 (aZ.map gh),.cB [.aW 0 0,.own 1,.own 2,.own 3],.bn,.row 150 2 ((Y k).dbts.map dR),.row 3 1 (L.map aU)]⟩,λk=>k<=L.length,λk=>L.length-k,[],⟨0,bZ _,?_⟩,?_⟩
   ·conv=>whnf
    exact⟨⟨.r,.r,a8 (by simp),.r,aj⟩,⟨by show hz _ (.cells _ (iT (Y 0) (.own 1) (.own 6) (.own 3)));rw[zO];exact .refl,by show hz _ (.row _ _ ((Y 0).hist.map c8));rw[zO];exact .refl,.r,.r,.r,.r,by show hz _ (.row _ _ ((Y 0).dbts.map dR));rw[zO];exact .refl,.r,aj⟩,by rfl⟩
   ·intro k hk;obtain⟨cV,dj,hT,hN,nk⟩:=abG k;repeat' ((conv=>whnf);first| (apply bo<;>intro h)|fail)
    ·have aB:k<L.length:=by simpa using h
     clear h;have aG:=abt (Y k) (by rw[cV];exact ab) (by omega) aZ L[k];have ax:L.getD k 0=L[k]:=by simp[aB]
     have oA:=H9 k;rw[ax]at oA;rw[<-oA]at aG;have gD:k<(L.map aU).length:=by rw[bL];exact aB
     have cL: (L.map aU)[k]?=some (aU L[k]):=du aB;repeat' ((conv=>whnf);first|refine⟨k,aS ⟨rfl,gD⟩ ?_⟩|refine⟨aU L[k],aS cL ?_⟩|refine .inr ⟨[0,1,6,3],bO aG ?_⟩|fail)
     all_goals(conv=>whnf)
     refine⟨k+1,aB,by simp only[];omega,?_⟩;conv=>whnf
     exact⟨⟨.r,.r,.r,a8 (ca (by omega)),aj⟩,⟨.r,.r,.r,.r,.r,.r,.r,.r,aj⟩,by rfl⟩
    ·have:k=L.length:=by
      simp at h;omega
     subst this;have bc:=abA (Y L.length) (by rw[cV];exact ab) (by omega) (by rw[hN];omega) aZ;repeat' ((conv=>whnf);first|refine .inr ⟨[0,1,6,3],bO bc ?_⟩|fail)
     all_goals(conv=>whnf)
     refine⟨[.eT 2 6],?_⟩;conv=>whnf
     exact⟨.r,⟨.r,.r,.r,.r,gV ⟨.r,.r,.aY,.r,aj⟩,aj⟩,by rfl⟩
theorem ao9(s:Mem)(v:aK)(ab:v.mem.length<=1000)(aZ:List ei):cj Tryz.prog 45 (fh s aZ) [.aW 0 0,.agg (cG v)] [true,true,false,true] [.cells 116 (iT (eR s v) (.own 1) (.own 5) (.own 3)),.row 22 1 (s.hist.map c8),.gone,.row 121 2 (aZ.map gh),.bn,.row 150 2 (([]:List iD).map dR)] (.be []):=by
 have aA:=r2 v (by omega);have aG:=jt v.mem (bT ab (by decide)) s.self;have bc:=D6 v (bT ab (by decide)) s.self;have cn:=Ho v (by omega) s.self;by_cases cS:bP v.mem s.self=true
 ·rw[vo cS];generalize ke v s.self=N at *;generalize lb v s.self=Q at *;refine mi Tryz.func45 ?_;repeat' ((conv=>whnf);first|refine ht (by assumption) ?_|refine ch ?_|refine aR aA ?_|refine aR aG ?_|refine aR bc ?_|refine aR cn ?_|fail)
  all_goals(conv=>whnf)
  refine⟨[.cell 0 13 150 2,.nS 2,.eT 5 9],?_⟩;conv=>whnf
  exact⟨.r,⟨mn ⟨.r,.r,.r,.r,.r,.r,.r,.r,.r,.r,.r,.r,.ar,.r,.r,.r,.r,.r,.r,.r,.r,.r,.r,.r,.r,.r,.r,.r,.r,.r,aj⟩,.r,.r,.r,gV ⟨.r,.r,.aY,.r,aj⟩,.r,aj⟩,by rfl⟩
 ·have cS:bP v.mem s.self=false:=by simpa using cS
  rw[ED cS];refine mi Tryz.func45 ?_;repeat' ((conv=>whnf);first|refine ft (by assumption) ?_|refine ch ?_|refine aR aA ?_|refine aR aG ?_|fail)
  all_goals(conv=>whnf)
  refine⟨[.cell 0 13 150 2,.nS 2,.eT 5 7],?_⟩;conv=>whnf
  exact⟨.r,⟨mn ⟨.r,.r,.r,.r,.r,.r,.r,.r,.r,.r,.ar,.ar,.ar,.r,.r,.r,.ar,.r,.r,.ar,.ar,.ar,.r,.r,.ar,.ar,.ar,.ar,.r,.r,aj⟩,.r,.r,.r,gV ⟨.r,.r,.aY,.r,aj⟩,.r,aj⟩,by rfl⟩
theorem SO(s:Mem)(v:aK)(ab:v.mem.length<=1000)(aZ:List ei):cj Tryz.prog 45 (fh s aZ) [.aW 0 0,.agg (cG v)] [true,true,false,true] [.cells 116 (iT (eR s v) (.own 1) (.own 4) (.own 3)),.row 22 1 (s.hist.map c8),.gone,.row 121 2 (aZ.map gh),.row 150 2 (([]:List iD).map dR)] (.be []):=
 cj.y8 (L1:=[.cells 116 (iT (eR s v) (.own 1) (.own 5) (.own 3)),.row 22 1 (s.hist.map c8),.gone,.row 121 2 (aZ.map gh)]) (wE:=[.row 150 2 (([]:List iD).map dR)]) (ao9 s v ab aZ) (bS _)
def ej(s:Mem):Mem×Bool:=
 bif decide ((s.agr.dec.length:Int)=0)then(s,false)
 else bif !decide ((er s.view s.agr.dec).2=0)||decide (400<=(s.hist.length:Int))then({s with agr:={s.agr with dec:=[]}},false)
 else(eR {s with hist:=s.hist++ [s.agr.dec]} (er s.view s.agr.dec).1,true)
theorem SP(s:Mem)(ab:s.view.mem.length<=1000)(bw:s.hist.length<=1000)(aa:s.agr.dec.length<=1000)(aZ:List ei):cj Tryz.prog 90 (fh s aZ) [.aW 0 0] [true,false,false,true] (fh (ej s).1 aZ) (.v (.bool (ej s).2)):=by
 have aA:=DX s.view (by omega) s.agr.dec (by omega);have aG:=pa s.agr.dec (by omega);have bc:=SO {s with hist:=s.hist++ [s.agr.dec]} (er s.view s.agr.dec).1 (bT (aa3 _ _) (by decide)) aZ;have EI:ej s=bif decide ((s.agr.dec.length:Int)=0)then(s,false)
  else bif !decide ((er s.view s.agr.dec).2=0)||decide (400<=(s.hist.length:Int))then({s with agr:={s.agr with dec:=[]}},false)
  else(eR {s with hist:=s.hist++ [s.agr.dec]} (er s.view s.agr.dec).1,true):=rfl
 have au: (s.hist.map c8).length+1<=2000000:=by rw[bL];omega
 have fm:s.hist.map c8++ [c8 s.agr.dec]=(s.hist++ [s.agr.dec]).map c8:=by rw[ew];rfl
 rw[EI];clear EI;have Ia: (eR {s with hist:=s.hist++ [s.agr.dec]} (er s.view s.agr.dec).1).hist=s.hist++ [s.agr.dec]:=HU _ _;have Ib: (eR {s with hist:=s.hist++ [s.agr.dec]} (er s.view s.agr.dec).1).dbts=[]:=(zI _ _).2.1;generalize er s.view s.agr.dec=W at *;generalize eR {s with hist:=s.hist++ [s.agr.dec]} W.1=E at *;refine mi Tryz.func90 ?_;repeat' ((conv=>whnf);first|refine bl ?_| (apply bo<;>intro h)|refine ch ?_|refine aR aA ?_|refine aR aG ?_|refine aS (BN au) ?_|refine .inr ⟨[0,1,2,3],_,_,_,_,_,bc,by rfl,⟨.r,cM fm,.r,.r,aj⟩,⟨.r,.r,aj⟩,?_⟩|refine Exists.intro false ?_|fail)
 all_goals(conv=>whnf)
 ·rw[bL]at h;rw[h];refine⟨[],?_⟩;conv=>whnf
  exact⟨.r,⟨.r,.r,.r,.r,gV ⟨.r,.aY,.aY,.r,aj⟩,aj⟩,by rfl⟩
 ·rename_i aQ;rw[bL]at aQ h;rw[aQ,h];refine⟨[],?_⟩;conv=>whnf
  exact⟨.r,⟨mn ⟨.r,.r,.r,.r,.r,.r,.r,.r,.r,.r,.r,.r,.r,.r,.r,.r,.r,.r,.r,.r,.r,.r,.r,.r,.r,.r,.r,.ar,.r,.r,aj⟩,.r,.r,.r,gV ⟨.r,.aY,.aY,.r,aj⟩,aj⟩,by rfl⟩
 ·rename_i aQ;rw[bL]at aQ h;rw[aQ,h];refine⟨[.eT 2 10],?_⟩;conv=>whnf
  exact⟨.r,⟨.r,cM (by show _=E.hist.map c8;rw[Ia]),cM (by show _=E.dbts.map dR;rw[Ib]),.r,gV ⟨.r,.aY,.aY,.r,aj⟩,aj⟩,by rfl⟩
def vr(s:Mem)(first:aK)(aI:List (List Int)):Mem:=
 bif bP (dK first aI aI.length).mem s.self then eR {s with first:=first,hist:=aI,cont:=[]} (dK first aI aI.length)else {s with cont:=(dK first aI aI.length).mem}
def iq(s:Mem)(first:aK)(aI:List (List Int))(k:Nat):Nat->Mem
 |0=>s
 |j+1=>bif decide ((iq s first aI k j).status=1)then eR {iq s first aI k j with hist:=(iq s first aI k j).hist++ [aI.getD (k+j) []]} (dK first aI (k+j+1))else iq s first aI k j
def lE(s:Mem)(first:aK)(aI:List (List Int)):Mem:=
 bif !l0 first s.first||decide ((aI.length:Int)<=(s.hist.length:Int))then s
 else bif ij (λi=>iG (s.hist.getD i []) (aI.getD i [])) s.hist.length then iq s first aI s.hist.length (aI.length-s.hist.length)else s
theorem abH(aV:aI.length<=400):IntKind.i64.wrap ((((kV first aI aI.length).map cG).length:Int)-1)=((aI.length:Nat):Int)/\((kV first aI aI.length).map cG)[aI.length]?=some (cG (dK first aI aI.length)):=by
 rw[bL,x5 first aI aI.length,dQ (by omega) (by omega)];refine⟨by omega,?_⟩;rw[fe,BR first aI aI.length _ (bS _)];rfl
theorem apa(s:Mem)(first:aK)(aI:List (List Int))(cy: (jM first aI).2=true)(al:∀c∈aI,mL c)(bU:s.status=0)(aZ:List ei):
  cj Tryz.prog 53 (fh s aZ) [.aW 0 0,.agg (kj (vp first aI))] [true,false,false,true] (fh (vr s first aI) aZ) (.be []):=by
 obtain⟨cV,dj,hT,hN⟩:=zH cy;have hv:=BQ cV aI aI.length;have jl:=(k8 cV).2;have aA:=BS first (by omega) aI (by omega) (λc h=>by have:=(al c h).1;omega)
 rw[hN]at aA;have sR:=abH (first:=first) (aI:=aI) (by omega);have aQ:decide (s.status=0)=true:=by rw[bU];rfl
 have aG:=jt (dK first aI aI.length).mem (by exact bT hv (by decide)) s.self;have bc:=r2 first (by omega)
 have cn:=abo aI (by omega) (λc h=>by have:=(al c h).1;omega);have ep:=SO {s with first:=first,hist:=aI,cont:=[]} (dK first aI aI.length) (by omega) aZ;have iI:=pa (dK first aI aI.length).mem (by omega);have Ia: (eR {s with first:=first,hist:=aI,cont:=[]} (dK first aI aI.length)).hist=aI:=HU _ _;have Ib: (eR {s with first:=first,hist:=aI,cont:=[]} (dK first aI aI.length)).dbts=[]:=(zI _ _).2.1;unfold vr;generalize dK first aI aI.length=V at *
 generalize kV first aI aI.length=A at *
 generalize eR {s with first:=first,hist:=aI,cont:=[]} V=E at *;generalize bP V.mem s.self=abI at *;refine mi Tryz.func53 ?_;repeat' ((conv=>whnf);first|refine ht (by assumption) ?_| (apply bo<;>intro h)|refine ch ?_|refine aR aA ?_|refine⟨aI.length,cG V,aS sR ?_⟩|refine aR aG ?_|refine aR bc ?_|refine aR iI ?_|refine .inr ⟨[],bO cn ?_⟩|fail)
 all_goals(conv=>whnf)
 ·have Ic:abI=false:=by simpa using h
  rw[Ic];refine⟨[],?_⟩;conv=>whnf
  exact⟨.r,⟨.r,.r,.r,.r,gV ⟨.r,.aY,.aY,.r,aj⟩,aj⟩,by rfl⟩
 ·have Ic:abI=true:=by simpa using h
  rw[Ic];repeat' ((conv=>whnf);first|refine ch ?_|refine .inr ⟨[0,8,2,3],_,_,_,_,_,ep,by rfl,⟨mn ⟨.r,.r,.ar,.r,.r,.r,.r,.r,.r,.r,.r,.r,.r,.r,.r,.r,.r,.r,.r,.r,.r,.r,.r,.r,.r,.r,.r,.r,.r,.r,aj⟩,.r,.r,.r,aj⟩,⟨.r,.r,aj⟩,?_⟩|fail)
  conv=>whnf
  refine⟨[.eT 1 8,.eT 2 10],?_⟩;conv=>whnf
  exact⟨.r,⟨.r,cM (by show _=E.hist.map c8;rw[Ia]),cM (by show _=E.dbts.map dR;rw[Ib]),.r,gV ⟨.r,.aY,.aY,.r,aj⟩,aj⟩,by rfl⟩
theorem abJ(s:Mem)(first:aK)(aI:List (List Int))(k:Nat):∀j,(iq s first aI k j).hist.length<=s.hist.length+j/\(iq s first aI k j).self=s.self
 |0=>⟨bS _,rfl⟩
 |j+1=>by
  have a1:=abJ s first aI k j
  unfold iq;cases decide ((iq s first aI k j).status=1)
  ·grind
  ·simp only[b6,HU,fw,l7,yq];refine⟨by omega,?_⟩;have:=(zI {iq s first aI k j with hist:=(iq s first aI k j).hist++ [aI.getD (k+j) []]} (dK first aI (k+j+1))).2.2.2.2.1
   grind
theorem abK{s:Mem}{first:aK}{aI:List (List Int)}{k j:Nat}(h:decide ((iq s first aI k j).status=1)=false):∀n,iq s first aI k (j+n)=iq s first aI k j
 |0=>rfl
 |n+1=>by
  have a1:=abK h n;show (bif decide ((iq s first aI k (j+n)).status=1)then _ else iq s first aI k (j+n))=_
  grind
theorem apb(s:Mem)(bw:s.hist.length<=1000)(apc:∀c∈s.hist,c.length<=1000)(abL:s.first.mem.length<=1000)(first:aK)(aI:List (List Int))(cy: (jM first aI).2=true)(al:∀c∈aI,mL c)(bU:s.status=1)(aZ:List ei):
  cj Tryz.prog 53 (fh s aZ) [.aW 0 0,.agg (kj (vp first aI))] [true,false,false,true] (fh (lE s first aI) aZ) (.be []):=by
 obtain⟨cV,dj,hT,hN⟩:=zH cy;have hv:=BQ cV aI;have jl:=(k8 cV).2;have aA:=BS first (by omega) aI (by omega) (λc h=>by have:=(al c h).1;omega)
 rw[hN]at aA;have gi:=BR first aI aI.length
 have sR:=abH (first:=first) (aI:=aI) (by omega);have sz:∀j,j<aI.length->((kV first aI aI.length).map cG)[j+1]?=some (cG (dK first aI (j+1))):=λj aq=>by
  rw[fe,gi _ (by omega)];rfl
 have aG:=x4 first s.first (bT jl (by decide))
 have aQ:decide (s.status=0)=false:=by rw[bU];rfl
 have abM:lE s first aI=bif !l0 first s.first||decide ((aI.length:Int)<=(s.hist.length:Int))then s
  else bif ij (λi=>iG (s.hist.getD i []) (aI.getD i [])) s.hist.length then iq s first aI s.hist.length (aI.length-s.hist.length)else s:=rfl
 rw[abM];clear abM gi;generalize kV first aI aI.length=A at *
 generalize uf:l0 first s.first=me at *
 refine mi Tryz.func53 ?_;repeat' ((conv=>whnf);first|refine bl ?_|refine ft (by assumption) ?_| (apply bo<;>intro h)|refine ch ?_|refine dE ?_|refine aR aA ?_|refine⟨aI.length,cG (dK first aI aI.length),aS sR ?_⟩|refine aR aG ?_|fail)
 all_goals(conv=>whnf)
 ·have ac: (!me||decide ((aI.length:Int)<=(s.hist.length:Int)))=true:=by
   rw[bL,bL]at h;exact h
  rw[ac];refine⟨[],?_⟩;conv=>whnf
  exact⟨.r,⟨.r,.r,.r,.r,gV ⟨.r,.aY,.aY,.r,aj⟩,aj⟩,by rfl⟩
 ·have ac: (!me||decide ((aI.length:Int)<=(s.hist.length:Int)))=false:=by
   rw[bL,bL]at h;exact h
  rw[ac];have Rr:s.hist.length<aI.length:=by
   simp only[iW,ib]at ac;omega
  clear h ac;refine⟨Nat,λi=>⟨[(0,.aW 0 0),(3,.aW 5 0),(4,.av 2 (A.map cG) false),(7,i64 s.hist.length),(96,.own 1),(97,i64 s.hist.length),(98,i64 i)],[.cells 116 (iT s (.own 1) (.own 2) (.own 3)),.row 22 1 (s.hist.map c8),.row 150 2 (s.dbts.map dR),.row 121 2 (aZ.map gh),.cB [.aW 0 0,.own 1,.own 2,.own 3],.cells 110 (kj (vp first aI))]⟩,λi=>i<=s.hist.length/\∀j,j<i->iG (s.hist.getD j []) (aI.getD j [])=true,λi=>s.hist.length-i,[],⟨0,⟨bZ _,by omega⟩,?_⟩,?_⟩
  ·conv=>whnf
   exact⟨⟨.r,.r,.r,a8 (by simp),.r,a8 (by simp),.r,aj⟩,⟨.r,.r,.r,.r,.r,.r,aj⟩,by rfl⟩
  ·intro i ⟨hi,cF⟩;repeat' ((conv=>whnf);first| (apply bo<;>intro h)|fail)
   ·have aB:i<s.hist.length:=by simpa using h
    clear h;have gD:i<(s.hist.map c8).length:=by rw[bL];exact aB
    have cL: (s.hist.map c8)[i]?=some (c8 s.hist[i]):=du aB;have HV: (aI.map c8)[i]?=some (c8 (aI[i]'(by omega))):=du (by omega);have bc:=Qm s.hist[i] (aI[i]'(by omega)) (bT (apc _ (eD aB)) (by decide));have EN:iG (s.hist.getD i []) (aI.getD i [])=iG s.hist[i] (aI[i]'(by omega)):=by
     rw[show s.hist.getD i []=s.hist[i] by simp[aB],show aI.getD i []=aI[i]'(by omega) by simp[show i<aI.length by omega]]
    repeat' ((conv=>whnf);first| (apply bo<;>intro h)|refine⟨i,aS ⟨rfl,gD⟩ ?_⟩|refine⟨c8 s.hist[i],aS cL ?_⟩|refine⟨i,c8 (aI[i]'(by omega)),aS ⟨rfl,HV⟩ ?_⟩|refine aR bc ?_|fail)
    all_goals(conv=>whnf)
    ·have au:ij (λi=>iG (s.hist.getD i []) (aI.getD i [])) s.hist.length=false:=tF aB (by rw[EN];simpa using h);rw[au];refine⟨[],?_⟩;conv=>whnf
     exact⟨.r,⟨.r,.r,.r,.r,gV ⟨.r,.aY,.aY,.r,aj⟩,aj⟩,by rfl⟩
    ·refine⟨i+1,⟨aB,λj aq=> ?_⟩,by simp only[];omega,?_⟩
     ·by_cases sJ:j=i
      ·subst sJ;rw[EN];simpa using h
      ·exact cF j (by omega)
     ·conv=>whnf
      exact⟨⟨.r,.r,.r,.r,.r,.r,a8 (ca (by omega)),aj⟩,⟨.r,.r,.r,.r,.r,.r,aj⟩,by rfl⟩
   ·have:i=s.hist.length:=by
     simp at h;omega
    subst this;clear h;rw[iA.2 (λj aq=>cF j aq)];clear cF aA aG sR;have qg:=abJ s first aI s.hist.length
    have uU:∀j,iq s first aI s.hist.length (j+1)=bif decide ((iq s first aI s.hist.length j).status=1)then eR {iq s first aI s.hist.length j with hist:=(iq s first aI s.hist.length j).hist++ [aI.getD (s.hist.length+j) []]} (dK first aI (s.hist.length+j+1))else iq s first aI s.hist.length j:=λ_=>rfl
    have nL:iq s first aI s.hist.length 0=s:=rfl
    have apd:=λj h n=>abK (s:=s) (first:=first) (aI:=aI) (k:=s.hist.length) (j:=j) h n;generalize iq s first aI s.hist.length=X at *
    repeat' ((conv=>whnf);first|refine bl ?_|fail)
    all_goals(conv=>whnf)
    refine⟨Nat,λj=>⟨[(0,.aW 0 0),(3,.aW 5 0),(4,.av 2 (A.map cG) false),(10,i64 (s.hist.length+j:Nat))],[.cells 116 (iT (X j) (.own 1) (.own 2) (.own 3)),.row 22 1 ((X j).hist.map c8),.row 150 2 ((X j).dbts.map dR),.row 121 2 (aZ.map gh),.cB [.aW 0 0,.aY,.aY,.own 3],.cells 110 (kj (vp first aI))]⟩,λj=>s.hist.length+j<=aI.length,λj=>aI.length-j,[.swap 2 9],⟨0,by omega,?_⟩,?_⟩
    ·conv=>whnf
     exact⟨⟨.r,.r,.r,.r,aj⟩,⟨by show hz _ (.cells _ (iT (X 0) (.own 1) (.own 2) (.own 3)));rw[nL];exact .refl,by show hz _ (.row _ _ ((X 0).hist.map c8));rw[nL];exact .refl,by show hz _ (.row _ _ ((X 0).dbts.map dR));rw[nL];exact .refl,.r,gV ⟨.r,.aY,.aY,.r,aj⟩,.r,aj⟩,by rfl⟩
    ·intro j aq;repeat' ((conv=>whnf);first|refine bl ?_| (apply bo<;>intro h)|fail)
     ·have h1:s.hist.length+j<aI.length/\decide ((X j).status=1)=true:=by
       simp only[bL,cq,fx]at h;have ad: ((s.hist.length+j:Nat):Int)<(aI.length:Int):=h.1;exact⟨by omega,by simpa using h.2⟩
      clear h;obtain⟨aB,h1⟩:=h1;have HV: (aI.map c8)[s.hist.length+j]?=some (c8 aI[s.hist.length+j]):=du aB;have ix:=(al _ (eD aB)).1;have l1:aI.getD (s.hist.length+j) []=aI[s.hist.length+j]:=by simp[aB]
      have ep:=SO {X j with hist:=(X j).hist++ [aI.getD (s.hist.length+j) []]} (dK first aI (s.hist.length+j+1)) (by have:=hv (s.hist.length+j+1);omega) aZ;have Mw:=uU j;rw[h1,b6]at Mw;rw[<-Mw]at ep;have Ia: (X (j+1)).hist=(X j).hist++ [aI.getD (s.hist.length+j) []]:=by rw[Mw];exact HU _ _
      have Ib: (X (j+1)).dbts=[]:=by rw[Mw];exact(zI _ _).2.1
      have fm: (X j).hist.map c8++ [c8 aI[s.hist.length+j]]=((X j).hist++ [aI.getD (s.hist.length+j) []]).map c8:=by
       rw[l1,ew];rfl
      have Wc:=(qg j).1;have au: ((X j).hist.map c8).length+1<=2000000:=by rw[bL];omega
      repeat' ((conv=>whnf);first|refine ch ?_|refine⟨s.hist.length+j,c8 aI[s.hist.length+j],aS ⟨rfl,HV⟩ ?_⟩|refine aR (pa _ (by omega)) ?_|refine aS (BN au) ?_|refine⟨s.hist.length+j+1,cG (dK first aI (s.hist.length+j+1)),aS ⟨ca (by omega),sz _ aB⟩ ?_⟩|refine .inr ⟨[0,1,2,3],_,_,_,_,_,ep,by rfl,⟨.r,cM fm,.r,.r,aj⟩,⟨.r,.r,aj⟩,?_⟩|refine Exists.intro false ?_|fail)
      all_goals(conv=>whnf)
      refine⟨j+1,by omega,by simp only[];omega,?_⟩;conv=>whnf
      exact⟨⟨.r,.r,.r,a8 (ca (by omega)),aj⟩,⟨.r,cM (by rw[Ia]),cM (by rw[Ib]),.r,.r,.r,aj⟩,by rfl⟩
     ·have u2:X j=X (aI.length-s.hist.length):=by
       by_cases aB:s.hist.length+j<aI.length
       ·have h1:decide ((X j).status=1)=false:=by
         simp only[bL,vI,ib]at h;rcases h with h|h
         ·exfalso;have ad:¬((s.hist.length+j:Nat):Int)<(aI.length:Int):=h;omega
         ·simpa using h
        have:=apd j h1 (aI.length-s.hist.length-j);rw[<-this];congr 1;omega
       ·have:j=aI.length-s.hist.length:=by omega
        rw[<-this]
      clear h;rw[<-u2];repeat' ((conv=>whnf);first|refine bl ?_|fail)
      all_goals(conv=>whnf)
      refine⟨[],?_⟩;conv=>whnf
      exact⟨.r,⟨.r,.r,.r,.r,.r,aj⟩,by rfl⟩
variable{a:bR}
theorem BZ(h:gk v a=true):b2 v=true/\a.view=v.num/\n3 a=true/\a.et<((cQ v.mem a.bG).length:Int)/\(cQ v.mem a.bG).getD a.et.toNat 0=a.jW:=by
 unfold gk at h
 grind
theorem abN{b:bR}(bb:gk v a=true)(ac:gk v b=true)(h1:a.bG=b.bG)(ad:a.et=b.et):a=b:=by
 have YF:=BZ bb;have avc:=BZ ac;obtain⟨jA,nP,avd,ave⟩:=a;obtain⟨bv,avf,avg,amW⟩:=b
 grind
def vt(a:bR):List Nat:=bB a.bG.toNat++bB a.et.toNat
theorem ape(bb:gk v a=true):1<=a.bG/\a.bG<=1000/\0<=a.et/\a.et<5/\a.view=v.num/\(cQ v.mem a.bG).length≠0/\(cQ v.mem a.bG).getD a.et.toNat 0=a.jW:=by
 obtain⟨_,h1,ad,aN,bs⟩:=BZ bb;simp only[n3,cq,fx]at ad;omega
theorem apf{l:List Nat}{s r:Int}{ie lq:Nat}(aA:eh l 0 0=(s,(ie:Int),0))(aG:eh (l.drop ie) 0 0=(r,(lq:Int),0))(fJ: (decide (s<1)||decide (1000<s)||decide (5<=r))=false)(eP: (cQ v.mem s).length≠0):
  nm v l=(⟨v.num,r,(cQ v.mem s).getD r.toNat 0,s⟩,(ie:Int)+(lq:Int),0):=by
 have JU:eh (l.drop (eh l 0 0).2.1.toNat) 0 0=(r,(lq:Int),0):=by
  grind
 have avh:decide (((cQ v.mem s).length:Int)=0)=false:=c5 (by omega);unfold nm
 grind
theorem apg(bb:gk v a=true)(rest:List Nat):nm v (vt a++rest)=(a,(((vt a).length:Nat):Int),0):=by
 obtain⟨h1,ad,aN,bs,cm,eK,jj⟩:=ape bb;have aA:=zi (v:=a.bG.toNat) (by omega) (bB a.et.toNat++rest);have aG:=zi (v:=a.et.toNat) (by omega) rest;have ae: ((a.bG.toNat:Nat):Int)=a.bG:=by omega
 have ao: ((a.et.toNat:Nat):Int)=a.et:=by omega
 rw[ae]at aA;rw[ao]at aG;have af:vt a++rest=bB a.bG.toNat++(bB a.et.toNat++rest):=by rw[vt,k1]
 have aa: (bB a.bG.toNat++(bB a.et.toNat++rest)).drop (bB a.bG.toNat).length=bB a.et.toNat++rest:=Fm;have hlen: (((vt a).length:Nat):Int)=(((bB a.bG.toNat).length:Nat):Int)+(((bB a.et.toNat).length:Nat):Int):=by
  rw[vt,fw];omega
 rw[hlen,af,apf aA (by rw[aa];exact aG) (by
  grind) eK,jj,<-cm]
theorem abO{l:List bR}{i:Nat}(h:i<l.length):∀j,i<j->j<=l.length->∃r,fH l j=fH l i++(vt l[i]++r)
 |0,h1,_=>by omega
 |j+1,h1,ad=>by
  rw[Ln (by omega)];rcases yv.1 h1 with h1|rfl
  ·obtain⟨r,ao⟩:=abO h j h1 (by omega)
   grind
  ·exact⟨[],by simp[vt,k1]⟩
variable{l:List bR}
theorem aph(ae:tQ l){i:Nat}(hi:i<l.length): (decide (0<((l.take i).length:Int))&& !jv ((l.take i).getD ((l.take i).length-1) gd) l[i])=false:=by
 by_cases aQ:0<i
 ·have hlen: (l.take i).length=i:=by grind
  have h1:i-1<l.length:=by omega
  have ad:i-1<(l.take i).length:=by omega
  have ax: (l.take i).getD (i-1) gd=l[i-1]:=by
   grind
  have:=my.1 ae (i-1) i h1 hi (by omega)
  grind
 grind
theorem abP{v:aK}{l:List bR}(ab:∀a∈l,gk v a=true)(ae:tQ l)(rest:List Nat):∀k i,k+i=l.length->sH v (fH l l.length++rest) k (l.take i) (fH l i).length=(l,(((fH l l.length).length:Nat):Int),0)
 |0,i,h=>by
  have:i=l.length:=by omega
  subst this;rw[sH,gn]
 |k+1,i,h=>by
  have hi:i<l.length:=by omega
  obtain⟨r,ao⟩:=abO hi l.length hi (bS _);have aa: (fH l l.length++rest).drop (fH l i).length=vt l[i]++(r++rest):=by
   grind
  have h1:=apg (ab _ (eD hi)) (r++rest);have ad:=aph ae hi;have he:zm v (fH l l.length++rest) (l.take i) (fH l i).length=0:=by
   unfold zm
   grind
  have a1:=abP ab ae rest k (i+1) (by omega);have cI:l.take i++ [l[i]]=l.take (i+1):=(fA hi).symm;have af: (fH l i).length+(vt l[i]).length=(fH l (i+1)).length:=by
   rw[Ln hi,vt];simp
  rw[sH,he,aa,h1]
  grind
theorem api(l:List bR):∃r,fH l l.length=bB l.length++r:=⟨_,rfl⟩
theorem apj(l:List bR):fH l 0=bB l.length:=by simp[fH]
theorem apk(cJ:dG v l=true)(af:l.length<=5000)(rest:List Nat):Bn v (fH l l.length++rest)=(l,(((fH l l.length).length:Nat):Int),0):=by
 obtain⟨ab,bb,ae⟩:=sI.1 cJ;obtain⟨r,ao⟩:=api l;have aA:=zi (v:=l.length) (by omega) (r++rest);rw[<-k1,<-ao]at aA;have ax:=abP bb ae rest l.length 0 rfl;rw[NW,apj]at ax;unfold Bn
 grind
theorem abQ(cJ:dG v l=true):Hh v l=fH l l.length:=by
 unfold Hh
 grind
def kW(A B:List bR)(i:Nat):List bR:=(B.take i).foldl (λaL a=>(k9 aL a).1) A
theorem SQ{A B:List bR}{i:Nat}(h:i<B.length):kW A B (i+1)=(k9 (kW A B i) B[i]).1:=by
 unfold kW;rw[fA h,List.foldl_append];rfl
theorem apl(l:List bR)(a:bR):l.length<=(k9 l a).1.length/\(k9 l a).1.length<=l.length+1:=by
 have hS:tN l a<=l.length:=(NV _).length_le;unfold k9
 grind
theorem SR(A B:List bR):∀i,i<=B.length->A.length<=(kW A B i).length/\(kW A B i).length<=A.length+i
 |0,_=>by simp[kW]
 |i+1,h=>by
  have a1:=SR A B i (by omega);have h1:=apl (kW A B i) (B[i]'(by omega));rw[SQ (by omega)];omega
theorem abR{v:aK}{A B:List bR}(ai:∀a∈A,gk v a=true)(ae:tQ A)(ct:∀a∈B,gk v a=true):∀i,i<=B.length->tQ (kW A B i)/\∀x,x∈kW A B i↔x∈A\/x∈B.take i
 |0,_=>by simp[kW,ae]
 |i+1,hi=>by
  obtain⟨h1,aN⟩:=abR ai ae ct i (by omega);have ek:i<B.length:=by omega
  rw[SQ ek,fA ek];obtain⟨g1,g2,g3,g4,g5⟩:=QZ h1 B[i];refine⟨g1,λx=> ?_⟩;rw[eb,eJ];constructor
  ·grind
  ·rintro(ag|ag|rfl)
   ·grind
   ·grind
   ·rcases g5 with h| ⟨e,he,jk,mF⟩
    ·exact h
    ·have apm:gk v e=true:=by
      grind
     have:=abN apm (ct _ (eD ek)) jk mF
     grind
theorem Mx{A B:List bR}(ai:dG v A=true)(ct:dG v B=true):dG v (kW A B B.length)=true/\∀x,x∈kW A B B.length↔x∈A\/x∈B:=by
 obtain⟨ab,cH,a2⟩:=sI.1 ai;obtain⟨_,cX,c0⟩:=sI.1 ct;obtain⟨h1,ad⟩:=abR cH a2 cX _ (bS _);rw[gn]at ad;refine⟨sI.2 ⟨ab,λa bb=> ?_,h1⟩,ad⟩
 grind
theorem apn(v:aK)(ab:v.mem.length<=maxLen)(A B:List bR)(ai:A.length<=10000)(ct:B.length<=10000)(oK:dG v A=true)(SS:dG v B=true):bq Tryz.prog 87 [.agg (cG v),.av 4 (A.map ey) false,.av 4 (B.map ey) false] (.be [.av 4 ((kW A B B.length).map ey) false,i64 0]):=by
 have aA:=D9 v ab A (by simp only[maxLen];omega);have aG:=D9 v ab B (by simp only[maxLen];omega);rw[oK]at aA;rw[SS]at aG;have j9:=Hd A (by omega);refine cp (fn:=Tryz.f87) (c:=Tryz.f87.body.getD .skip) az aw (by rfl) Tryz.func87 (by rfl) (by rfl) (by rfl) (by rfl) ?_;repeat' ((conv=>whnf);first|refine bl ?_|refine dE ?_|refine aR aA ?_|refine ea aG ?_|refine aR j9 ?_|fail)
 all_goals(conv=>whnf)
 refine⟨Nat,λi=>⟨[(8,.av 4 ((kW A B i).map ey) false),(23,.av 4 (B.map ey) false),(24,i64 B.length),(25,i64 i)],[.cells 24 (cG v)]⟩,λi=>i<=B.length,λi=>B.length-i,[],⟨0,bZ _,?_⟩,?_⟩
 ·conv=>whnf
  exact⟨⟨.r,.r,a8 (by simp),.r,aj⟩,⟨.r,aj⟩,by rfl⟩
 ·intro i hi;have af:=SR A B i hi;repeat' ((conv=>whnf);first| (apply bo<;>intro h)|fail)
  ·have aB:i<B.length:=by grind
   clear h;have rH:=YX (kW A B i) (by omega) B[i];rw[<-SQ aB]at rH;generalize(k9 (kW A B i) B[i]).2=hg at rH;repeat' ((conv=>whnf);first|refine⟨_,_,aS ⟨rfl,du aB⟩ ?_⟩|refine aR rH ?_|fail)
   all_goals(conv=>whnf)
   refine⟨i+1,aB,by grind,?_⟩;conv=>whnf
   exact⟨⟨.r,.r,.r,a8 (ca (by omega)),aj⟩,⟨.r,aj⟩,by rfl⟩
  ·have:i=B.length:=by
    grind
   subst this;repeat' ((conv=>whnf);first|exact .refl|fail)
def My:sT:=⟨5,0,[],Mj,lZ,[]⟩
def zP:List Nat:=eu 5 []
def Ie(m:c1):sT:=⟨3,m.view,[],m,lZ,[]⟩
def SU(m:c1):List Nat:=eu 3 (rk m)
def Mz(num:Int)(l:List bR):sT:=⟨2,num,l,Mj,lZ,[]⟩
def MA(num:Int)(l:List bR):List Nat:=eu 2 (bB num.toNat++fH l l.length)
theorem SV(s:Mem):bq Tryz.prog 51 [.agg (cv s),.av 1 (zP.map bE) false] (.be [.agg (kj My),.v (.bool true)]):=by
 obtain⟨b,ac⟩:∃b:List Nat,b=[]:=⟨_,rfl⟩
 have abS: (b.map bE).length=0:=by grind
 have aA:=Hg 5 (by omega) (by omega) b (by grind);have l1: (!decide ((0:Int)=0)|| !decide (((eu 5 b).length:Int)=(((eu 5 b).map bE).length:Int)))=false:=by simp
 unfold zP;rw[<-ac];clear ac;generalize eu 5 b=W at *;refine cp (fn:=Tryz.f51) (c:=Tryz.f51.body.getD .skip) az aw (by rfl) Tryz.func51 (by rfl) (by rfl) (by rfl) (by rfl) ?_;repeat' ((conv=>whnf);first|refine bl ?_|refine ft (by assumption) ?_|refine ch ?_|refine dE ?_|refine aR aA ?_|fail)
 all_goals(conv=>whnf)
 exact e1 ⟨iQ ⟨.r,.r,.ar,.r,.r,.r,.r,.r,.ar,.r,.ar,.ar,aj⟩,gQ (by grind),aj⟩
theorem apo(m:c1)(h:vq m):cj Tryz.prog 77 [.cells 135 (vn (rk m))] [.aW 0 0] [true] [.cells 135 (vn [])] (.agg (pQ m)):=by
 obtain⟨hk,ab,ae,ao,af,al⟩:=h;have jg:=HS al;have k3: (bB m.view.toNat).length<=10:=hP 9 _;have F1: (bB m.src.toNat).length<=10:=hP 9 _;have avi: (bB m.aC.toNat).length<=10:=hP 9 _;have app: (bB (fQ m.cU)).length<=10:=hP 9 _;have ac:rk m=bB m.kind.toNat++(bB m.view.toNat++(bB m.src.toNat++(bB m.aC.toNat++(bB (fQ m.cU)++(gg m.cut++ []))))):=by simp[rk,r6,oG]
 have aA:=BM m.kind.toNat (by omega) (bB m.view.toNat++(bB m.src.toNat++(bB m.aC.toNat++(bB (fQ m.cU)++(gg m.cut++ []))))) (by grind);have aG:=BM m.view.toNat (by omega) (bB m.src.toNat++(bB m.aC.toNat++(bB (fQ m.cU)++(gg m.cut++ [])))) (by grind);have bc:=BM m.src.toNat (by omega) (bB m.aC.toNat++(bB (fQ m.cU)++(gg m.cut++ []))) (by grind);have cn:=BM m.aC.toNat (by omega) (bB (fQ m.cU)++(gg m.cut++ [])) (by grind);have ep:=aaV m.cU af.1 af.2 (gg m.cut++ []) (by grind);have iI:=HQ (bB (fQ m.cU)++(gg m.cut++ [])) (bB (fQ m.cU)).length (by simp);rw[Fm]at iI;have mr:=aaY m.cut al.1 al.2 [] (by simp);rw[<-ac]at aA;have ie: ((m.kind.toNat:Nat):Int)=m.kind:=by omega
 have lq: ((m.view.toNat:Nat):Int)=m.view:=by omega
 have oM: ((m.src.toNat:Nat):Int)=m.src:=by omega
 have MB: ((m.aC.toNat:Nat):Int)=m.aC:=by omega
 rw[ie]at aA;rw[lq]at aG;rw[oM]at bc;rw[MB]at cn;clear ac ie lq oM MB;generalize rk m=avj at *;generalize bB m.view.toNat++(bB m.src.toNat++(bB m.aC.toNat++(bB (fQ m.cU)++(gg m.cut++ []))))=avk at *;generalize bB m.src.toNat++(bB m.aC.toNat++(bB (fQ m.cU)++(gg m.cut++ [])))=avl at *;generalize bB m.aC.toNat++(bB (fQ m.cU)++(gg m.cut++ []))=avm at *;generalize bB (fQ m.cU)++(gg m.cut++ [])=avn at *;refine ik (fn:=Tryz.f77) (c:=Tryz.f77.body.getD .skip) az aw (by rfl) Tryz.func77 (by rfl) (by rfl) (by rfl) (by rfl) (by rfl) ?_;repeat' ((conv=>whnf);first|refine .inr ⟨[0],bO aA ?_⟩|refine .inr ⟨[0],bO aG ?_⟩|refine .inr ⟨[0],bO bc ?_⟩|refine .inr ⟨[0],bO cn ?_⟩|refine aR ep ?_|refine .inr ⟨[0],bO iI ?_⟩|refine .inr ⟨[0],bO mr ?_⟩|fail)
 all_goals(conv=>whnf)
 exact⟨.r,⟨.r,.r,aj⟩,by rfl⟩
theorem apq{m:c1}(h:vq m): (rk m).length<=400:=by
 have h1:=abw m 4;have ad:=HS h.cut;have app: (bB (fQ m.cU)).length<=10:=hP 9 _;unfold rk
 grind
theorem abT(s:Mem)(m:c1)(h:vq m):bq Tryz.prog 51 [.agg (cv s),.av 1 ((SU m).map bE) false] (.be [.agg (kj (Ie m)),.v (.bool true)]):=by
 have tq:=apq h;have aA:=Hg 3 (by omega) (by omega) (rk m) (by omega);have aG:=apo m h;have l1: (!decide ((0:Int)=0)|| !decide (((eu 3 (rk m)).length:Int)=(((eu 3 (rk m)).map bE).length:Int)))=false:=by simp
 unfold SU;generalize eu 3 (rk m)=W at *;refine cp (fn:=Tryz.f51) (c:=Tryz.f51.body.getD .skip) az aw (by rfl) Tryz.func51 (by rfl) (by rfl) (by rfl) (by rfl) ?_;repeat' ((conv=>whnf);first|refine bl ?_|refine ft (by assumption) ?_|refine ch ?_|refine dE ?_|refine aR aA ?_|refine .inr ⟨[2],bO aG ?_⟩|fail)
 all_goals(conv=>whnf)
 exact e1 ⟨iQ ⟨.r,.r,.ar,.r,.r,.r,.r,.r,.r,.r,.ar,.ar,aj⟩,gQ rfl,aj⟩
theorem SX{v:aK}{l:List bR}(n:Nat): (fH l n).length<=10+20*l.length:=by
 have h:∀l:List bR,(l.flatMap λa=>bB a.bG.toNat++bB a.et.toNat).length<=20*l.length:=by
  intro l;induction l with
  |nil=>simp
  |cons x l a1=>
   have h1: (bB x.bG.toNat).length<=10:=hP 9 _;have ad: (bB x.et.toNat).length<=10:=hP 9 _
   grind
 have h1:=h (l.take n);have ad: (l.take n).length<=l.length:=by grind
 have aN: (bB l.length).length<=10:=hP 9 _;unfold fH
 grind
theorem abU(s:Mem)(num:Int)(h1:0<=num)(ad:num<=1099511627776)(l:List bR)(af:l.length<=5000)(ab:s.status=1->num=s.view.num->dG s.view l=true):
  bq Tryz.prog 51 [.agg (cv s),.av 1 ((MA num l).map bE) false] (.be [.agg (kj (Mz num (bif !decide (s.status=1)|| !decide (num=s.view.num)then []else l))),.v (.bool true)]):=by
 have rK:=SX (v:=s.view) (l:=l) l.length;have i0: (bB num.toNat).length<=10:=hP 9 _;have aA:=Hg 2 (by omega) (by omega) (bB num.toNat++fH l l.length) (by rw[fw];omega);have aG:=BM num.toNat (by omega) (fH l l.length) (by omega);have aV: ((num.toNat:Nat):Int)=num:=by omega
 rw[aV]at aG;have l1: (!decide ((0:Int)=0)|| !decide (((eu 2 (bB num.toNat++fH l l.length)).length:Int)=(((eu 2 (bB num.toNat++fH l l.length)).map bE).length:Int)))=false:=by rw[bL];simp
 unfold MA;generalize eu 2 (bB num.toNat++fH l l.length)=W at *;cases al: (!decide (s.status=1)|| !decide (num=s.view.num))
 ·simp only[iW,mw,fx]at al;have jl:=ab al.1 al.2;have kx: (!decide (s.status=1)|| !decide (num=s.view.num))=false:=by rw[al.1,al.2];simp
  obtain⟨hF,_⟩:=sI.1 jl;have bc:=aj8 s.view (bT (k8 hF).2 (by decide)) (fH l l.length) (by omega);have ac:=apk jl af [];rw[jQ]at ac;rw[ac]at bc;have cn:=HQ (fH l l.length) (fH l l.length).length (bS _);rw[CB]at cn;refine fX Tryz.func51 ?_;repeat' ((conv=>whnf);first|refine bl ?_|refine ft (by assumption) ?_|refine ch ?_|refine dE ?_|refine aR aA ?_|refine .inr ⟨[2],bO aG ?_⟩|refine aR bc ?_|refine .inr ⟨[2],bO cn ?_⟩|fail)
  all_goals(conv=>whnf)
  exact e1 ⟨iQ ⟨.r,.r,.r,.r,.r,.r,.r,.r,.ar,.r,.ar,.ar,aj⟩,gQ rfl,aj⟩
 ·refine fX Tryz.func51 ?_;repeat' ((conv=>whnf);first|refine bl ?_|refine ht (by assumption) ?_|refine ft (by assumption) ?_|refine ch ?_|refine dE ?_|refine aR aA ?_|refine .inr ⟨[2],bO aG ?_⟩|fail)
  all_goals(conv=>whnf)
  exact e1 ⟨iQ ⟨.r,.r,.ar,.r,.r,.r,.r,.r,.ar,.r,.ar,.ar,aj⟩,gQ rfl,aj⟩
def fp(s:Mem):Mem:=bif decide (s.status=1)then(bif (ej s).2 then(ej s).1 else nO (ej s).1)else s
theorem SY(h: (ej s).2=false): (ej s).1.view=s.view/\(ej s).1.als=s.als/\(ej s).1.dbts=s.dbts/\(ej s).1.hist=s.hist/\(ej s).1.self=s.self/\(ej s).1.first=s.first/\(ej s).1.a7=s.a7/\(ej s).1.status=s.status/\(ej s).1.cont=s.cont:=by
 unfold ej at h⊢;cases h1:decide ((s.agr.dec.length:Int)=0);all_goals grind
structure sU(s:Mem):Prop where
 view:s.view.mem.length<=1000
 hist:s.hist.length<=1000
 dec:s.agr.dec.length<=1000
 als:s.als.length<=100000
 dbts:s.dbts.length<=100000
theorem x9(h:sU s)(aZ:List ei):cj Tryz.prog 90 (fh s aZ) [.aW 0 0] [true,false,false,true] (fh (ej s).1 aZ) (.v (.bool (ej s).2)):=SP s h.view h.hist h.dec aZ
theorem ya(h:sU s)(ac: (ej s).2=false)(aZ:List ei):cj Tryz.prog 91 (fh (ej s).1 aZ) [.aW 0 0] [true,true,false,true] (fh (nO (ej s).1) aZ) (.be []):=by
 obtain⟨cV,dj,hT,_⟩:=SY ac;exact abA (ej s).1 (by rw[cV];exact h.view) (by rw[dj];exact h.als) (by rw[hT];exact h.dbts) aZ
theorem sV(h:s.status=1):fp s=bif (ej s).2 then(ej s).1 else nO (ej s).1:=by
 unfold fp
 grind
theorem SZ(s:Mem)(bU:s.status=1)(dS:hl s)(bM:Int)(aZ:List ei)(cC:aZ.length<=80000)(hi:EH s)(f:sT)(MC:f.kind≠4)(S0:f.kind≠5)(aV:f.num<s.view.num)(au:sU (s)):
  cj Tryz.prog 54 (fh s aZ) [.aW 0 0,i64 bM,.agg (kj f)] [true,false,false,false] (fh (fp (s)) (aZ++ [wP s bM])) (.be []):=by
 have aA:=jt s.view.mem (bT dS.view (by decide)) bM
 have aG:=SK s hi aZ (by omega) bM
 have g4:decide (f.kind=4)=false:=c5 MC;have g5:decide (f.kind=5)=false:=c5 S0;have apr:decide (f.num<s.view.num)=true:=e4 aV;have cJ:decide (s.status=1)=true:=by rw[bU];rfl
 have eZ:decide (s.status=1)=false->False:=λh=>by rw[cJ]at h;cases h
 have bc:=x9 au (aZ++ [wP s bM]);have cn: (decide (s.status=1)&& !(ej (s)).2)=true->_:=λh=>ya au (by rw[cJ]at h;simpa using h) (aZ++ [wP s bM]);rw[sV (s:=s) (by simpa using cJ)];generalize ej (s)=W at *;refine jV Tryz.func54 ?_;repeat' ((conv=>whnf);first|refine bl ?_|refine ht (by assumption) ?_|refine ft (by assumption) ?_| (apply bo<;>intro h)|refine ch ?_|refine aR aA ?_|refine .inr ⟨[0,1,2,3],bO aG ?_⟩|refine aS (λ(ax:decide _=true)=> ?_) (λ(ax:decide _=false)=>(eZ ax).elim)|refine .inr ⟨[0,1,2,3],bO bc ?_⟩|refine .inr ⟨[0,1,2,3],bO (cn (by assumption)) ?_⟩|fail)
 all_goals(conv=>whnf)
 ·have ac:W.2=false:=by rw[cJ]at h;simpa using h
  rw[ac];exact⟨.r,⟨.r,.r,.r,.r,gV ⟨.r,.aY,.aY,.aY,aj⟩,aj⟩,by rfl⟩
 ·have ac:W.2=true:=by rw[cJ]at h;simpa using h
  rw[ac];exact⟨.r,⟨.r,.r,.r,.r,gV ⟨.r,.aY,.aY,.aY,aj⟩,aj⟩,by rfl⟩
theorem S2(s:Mem)(bU:s.status=1)(dS:hl s)(bM:Int)(aZ:List ei)(f:sT)(MC:f.kind≠4)(S0:f.kind≠5)(aV:s.view.num<f.num)(au:sU (s)):
  cj Tryz.prog 54 (fh s aZ) [.aW 0 0,i64 bM,.agg (kj f)] [true,false,false,false] (fh (fp (s)) (aZ)) (.be []):=by
 have aA:=jt s.view.mem (bT dS.view (by decide)) bM
 have g4:decide (f.kind=4)=false:=c5 MC;have g5:decide (f.kind=5)=false:=c5 S0;have apr:decide (f.num<s.view.num)=false:=c5 (by omega);have avo:decide (s.view.num<f.num)=true:=e4 aV;have cJ:decide (s.status=1)=true:=by rw[bU];rfl
 have eZ:decide (s.status=1)=false->False:=λh=>by rw[cJ]at h;cases h
 have bc:=x9 au (aZ);have cn: (decide (s.status=1)&& !(ej (s)).2)=true->_:=λh=>ya au (by rw[cJ]at h;simpa using h) (aZ);rw[sV (s:=s) (by simpa using cJ)];generalize ej (s)=W at *;refine jV Tryz.func54 ?_;repeat' ((conv=>whnf);first|refine bl ?_|refine ht (by assumption) ?_|refine ft (by assumption) ?_| (apply bo<;>intro h)|refine ch ?_|refine aR aA ?_|refine aS (λ(ax:decide _=true)=> ?_) (λ(ax:decide _=false)=>(eZ ax).elim)|refine .inr ⟨[0,1,2,3],bO bc ?_⟩|refine .inr ⟨[0,1,2,3],bO (cn (by assumption)) ?_⟩|fail)
 all_goals(conv=>whnf)
 ·have ac:W.2=false:=by rw[cJ]at h;simpa using h
  rw[ac];exact⟨.r,⟨.r,.r,.r,.r,gV ⟨.r,.aY,.aY,.aY,aj⟩,aj⟩,by rfl⟩
 ·have ac:W.2=true:=by rw[cJ]at h;simpa using h
  rw[ac];exact⟨.r,⟨.r,.r,.r,.r,gV ⟨.r,.aY,.aY,.aY,aj⟩,aj⟩,by rfl⟩
theorem aps(s:Mem)(bU:s.status=1)(dS:hl s)(bM:Int)(aZ:List ei)(cS:bP s.view.mem bM=true)(au:sU ({s with a7:=nG s.a7 bM})):
  cj Tryz.prog 54 (fh s aZ) [.aW 0 0,i64 bM,.agg (kj (y7 s.view.num))] [true,false,false,false] (fh (fp ({s with a7:=nG s.a7 bM})) (aZ)) (.be []):=by
 have aA:=jt s.view.mem (bT dS.view (by decide)) bM
 have af:decide (s.view.num<s.view.num)=false:=c5 (by omega);have aG:=ajz s.a7 (bT dS.sS (by decide)) (bT dS.bV (by decide)) bM
 rw[cS]at aA;have cJ:decide (s.status=1)=true:=by rw[bU];rfl
 have eZ:decide (s.status=1)=false->False:=λh=>by rw[cJ]at h;cases h
 have bc:=x9 au (aZ);have cn: (decide (s.status=1)&& !(ej ({s with a7:=nG s.a7 bM})).2)=true->_:=λh=>ya au (by rw[cJ]at h;simpa using h) (aZ);rw[sV (s:={s with a7:=nG s.a7 bM}) (by simpa using cJ)];generalize ej ({s with a7:=nG s.a7 bM})=W at *;generalize nG s.a7 bM=H at *
 refine jV Tryz.func54 ?_;repeat' ((conv=>whnf);first|refine bl ?_|refine ft (by assumption) ?_| (apply bo<;>intro h)|refine ch ?_|refine aR aA ?_|refine aR aG ?_|refine aS (λ(ax:decide _=true)=> ?_) (λ(ax:decide _=false)=>(eZ ax).elim)|refine .inr ⟨[0,1,2,3],bO bc ?_⟩|refine .inr ⟨[0,1,2,3],bO (cn (by assumption)) ?_⟩|fail)
 all_goals(conv=>whnf)
 ·have ac:W.2=false:=by rw[cJ]at h;simpa using h
  rw[ac];exact⟨.r,⟨.r,.r,.r,.r,gV ⟨.r,.aY,.aY,.aY,aj⟩,aj⟩,by rfl⟩
 ·have ac:W.2=true:=by rw[cJ]at h;simpa using h
  rw[ac];exact⟨.r,⟨.r,.r,.r,.r,gV ⟨.r,.aY,.aY,.aY,aj⟩,aj⟩,by rfl⟩
theorem apt(s:Mem)(bU:s.status=1)(dS:hl s)(bM:Int)(aZ:List ei)(cS:bP s.view.mem bM=false)(au:sU (s)):
  cj Tryz.prog 54 (fh s aZ) [.aW 0 0,i64 bM,.agg (kj (y7 s.view.num))] [true,false,false,false] (fh (fp (s)) (aZ)) (.be []):=by
 have aA:=jt s.view.mem (bT dS.view (by decide)) bM
 have af:decide (s.view.num<s.view.num)=false:=c5 (by omega);rw[cS]at aA;have cJ:decide (s.status=1)=true:=by rw[bU];rfl
 have eZ:decide (s.status=1)=false->False:=λh=>by rw[cJ]at h;cases h
 have bc:=x9 au (aZ);have cn: (decide (s.status=1)&& !(ej (s)).2)=true->_:=λh=>ya au (by rw[cJ]at h;simpa using h) (aZ);rw[sV (s:=s) (by simpa using cJ)];generalize ej (s)=W at *;refine jV Tryz.func54 ?_;repeat' ((conv=>whnf);first|refine bl ?_|refine ft (by assumption) ?_| (apply bo<;>intro h)|refine ch ?_|refine dE ?_|refine aR aA ?_|refine aS (λ(ax:decide _=true)=> ?_) (λ(ax:decide _=false)=>(eZ ax).elim)|refine .inr ⟨[0,1,2,3],bO bc ?_⟩|refine .inr ⟨[0,1,2,3],bO (cn (by assumption)) ?_⟩|fail)
 all_goals(conv=>whnf)
 ·have ac:W.2=false:=by rw[cJ]at h;simpa using h
  rw[ac];exact⟨.r,⟨.r,.r,.r,.r,gV ⟨.r,.aY,.aY,.aY,aj⟩,aj⟩,by rfl⟩
 ·have ac:W.2=true:=by rw[cJ]at h;simpa using h
  rw[ac];exact⟨.r,⟨.r,.r,.r,.r,gV ⟨.r,.aY,.aY,.aY,aj⟩,aj⟩,by rfl⟩
theorem abV(s:Mem)(x:Int):∀i,(kF s x i).status=s.status/\(kF s x i).first=s.first/\(kF s x i).hist=s.hist/\(kF s x i).agr=s.agr
 |0=>⟨rfl,rfl,rfl,rfl⟩
 |i+1=>by
  have a1:=abV s x i;have h:=Mq (kF s x i) ⟨s.view.num,(l3 s.view.mem s.self x).getD i 0,s.self,x⟩;exact⟨h.2.2.2.2.1.trans a1.1,h.2.2.2.1.trans a1.2.1,h.2.2.1.trans a1.2.2.1,h.2.2.2.2.2.2.2.2.trans a1.2.2.2⟩
theorem zQ(s:Mem)(x:Int): (gU s x).status=s.status/\(gU s x).first=s.first/\(gU s x).hist=s.hist/\(gU s x).agr=s.agr:=abV s x _
theorem apu(s:Mem)(bU:s.status=1)(dS:hl s)(bM:Int)(aZ:List ei)(l:List bR)(af:l.length<=10000)(oK:dG s.view s.als=true)(SS:dG s.view l=true)(au:sU ({s with als:=kW s.als l l.length})):
  cj Tryz.prog 54 (fh s aZ) [.aW 0 0,i64 bM,.agg (kj (Mz s.view.num l))] [true,false,false,false] (fh (fp ({s with als:=kW s.als l l.length})) (aZ)) (.be []):=by
 have aA:=jt s.view.mem (bT dS.view (by decide)) bM
 have i0:decide (s.view.num<s.view.num)=false:=c5 (by omega);have aG:=apn s.view (bT dS.view (by decide)) s.als l (by have:=dS.als;omega) af oK SS;have cJ:decide (s.status=1)=true:=by rw[bU];rfl
 have eZ:decide (s.status=1)=false->False:=λh=>by rw[cJ]at h;cases h
 have bc:=x9 au (aZ);have cn: (decide (s.status=1)&& !(ej ({s with als:=kW s.als l l.length})).2)=true->_:=λh=>ya au (by rw[cJ]at h;simpa using h) (aZ);rw[sV (s:={s with als:=kW s.als l l.length}) (by simpa using cJ)];generalize ej ({s with als:=kW s.als l l.length})=W at *;generalize kW s.als l l.length=H at *;refine jV Tryz.func54 ?_;repeat' ((conv=>whnf);first|refine bl ?_|refine ft (by assumption) ?_| (apply bo<;>intro h)|refine ch ?_|refine aR aA ?_|refine aR aG ?_|refine aS (λ(ax:decide _=true)=> ?_) (λ(ax:decide _=false)=>(eZ ax).elim)|refine .inr ⟨[0,1,2,3],bO bc ?_⟩|refine .inr ⟨[0,1,2,3],bO (cn (by assumption)) ?_⟩|fail)
 all_goals(conv=>whnf)
 ·have ac:W.2=false:=by rw[cJ]at h;simpa using h
  rw[ac];exact⟨.r,⟨.r,.r,.r,.r,gV ⟨.r,.aY,.aY,.aY,aj⟩,aj⟩,by rfl⟩
 ·have ac:W.2=true:=by rw[cJ]at h;simpa using h
  rw[ac];exact⟨.r,⟨.r,.r,.r,.r,gV ⟨.r,.aY,.aY,.aY,aj⟩,aj⟩,by rfl⟩
theorem apv(s:Mem)(bU:s.status=1)(dS:hl s)(bM:Int)(aZ:List ei)(cC:aZ.length<=40000)(m:c1)(cy:vq m)(ab:m.view=s.view.num)(ig:m.src=bM)(hv:s.view.mem.length<=16)(bx:s.view.mem≠ [])(ao: (dC s.agr m).2.2=0)(tq: (dC s.agr m).2.1.length<=1000)(apw:∀p∈ (dC s.agr m).2.1,vq p.m)(au:sU ({s with agr:=(dC s.agr m).1})):
  cj Tryz.prog 54 (fh s aZ) [.aW 0 0,i64 bM,.agg (kj (Ie m))] [true,false,false,false] (fh (fp ({s with agr:=(dC s.agr m).1})) (aZ++jP {s with agr:=(dC s.agr m).1} (dC s.agr m).2.1)) (.be []):=by
 have aA:=jt s.view.mem (bT dS.view (by decide)) bM
 have aG:=alN s.agr dS.agr m (by have:=cy.cut.1;omega);have uf:decide (m.view<s.view.num)=false:=c5 (by omega);have Ya:decide (s.view.num<m.view)=false:=c5 (by omega);have xr: (decide ((3:Int)=3)&&decide (m.src=bM))=true:=by rw[ig];simp
 rw[ao]at aG;have ep:=Mt {s with agr:=(dC s.agr m).1} hv bx (dC s.agr m).2.1 tq apw aZ (by omega);have cJ:decide (s.status=1)=true:=by rw[bU];rfl
 have eZ:decide (s.status=1)=false->False:=λh=>by rw[cJ]at h;cases h
 have bc:=x9 au (aZ++jP {s with agr:=(dC s.agr m).1} (dC s.agr m).2.1);have cn: (decide (s.status=1)&& !(ej ({s with agr:=(dC s.agr m).1})).2)=true->_:=λh=>ya au (by rw[cJ]at h;simpa using h) (aZ++jP {s with agr:=(dC s.agr m).1} (dC s.agr m).2.1);rw[sV (s:={s with agr:=(dC s.agr m).1}) (by simpa using cJ)];generalize ej ({s with agr:=(dC s.agr m).1})=W at *;generalize jP {s with agr:=(dC s.agr m).1} (dC s.agr m).2.1=Q at *;generalize(dC s.agr m).2.1=P at *;generalize(dC s.agr m).1=H at *;refine jV Tryz.func54 ?_;repeat' ((conv=>whnf);first|refine bl ?_|refine ht (by assumption) ?_|refine ft (by assumption) ?_| (apply bo<;>intro h)|refine ch ?_|refine dE ?_|refine aR aA ?_|refine aR aG ?_|refine .inr ⟨[0,1,2,3],bO ep ?_⟩|refine aS (λ(ax:decide _=true)=> ?_) (λ(ax:decide _=false)=>(eZ ax).elim)|refine .inr ⟨[0,1,2,3],bO bc ?_⟩|refine .inr ⟨[0,1,2,3],bO (cn (by assumption)) ?_⟩|fail)
 all_goals(conv=>whnf)
 ·have ac:W.2=false:=by rw[cJ]at h;simpa using h
  rw[ac];exact⟨.r,⟨.r,.r,.r,.r,gV ⟨.r,.aY,.aY,.aY,aj⟩,aj⟩,by rfl⟩
 ·have ac:W.2=true:=by rw[cJ]at h;simpa using h
  rw[ac];exact⟨.r,⟨.r,.r,.r,.r,gV ⟨.r,.aY,.aY,.aY,aj⟩,aj⟩,by rfl⟩
theorem apx(s:Mem)(bU:s.status=1)(dS:hl s)(bM:Int)(aZ:List ei)(cC:aZ.length<=80000)(hi:EH s)(cS:bP s.view.mem bM=true)(au:sU (s)):
  cj Tryz.prog 54 (fh s aZ) [.aW 0 0,i64 bM,.agg (kj My)] [true,false,false,false] (fh (fp (s)) (aZ++ [wP s bM])) (.be []):=by
 have aA:=jt s.view.mem (bT dS.view (by decide)) bM
 have aG:=SK s hi aZ (by omega) bM
 rw[cS]at aA;have cJ:decide (s.status=1)=true:=by rw[bU];rfl
 have eZ:decide (s.status=1)=false->False:=λh=>by rw[cJ]at h;cases h
 have bc:=x9 au (aZ++ [wP s bM]);have cn: (decide (s.status=1)&& !(ej (s)).2)=true->_:=λh=>ya au (by rw[cJ]at h;simpa using h) (aZ++ [wP s bM]);rw[sV (s:=s) (by simpa using cJ)];generalize ej (s)=W at *;refine jV Tryz.func54 ?_;repeat' ((conv=>whnf);first|refine bl ?_| (apply bo<;>intro h)|refine aR aA ?_|refine .inr ⟨[0,1,2,3],bO aG ?_⟩|refine aS (λ(ax:decide _=true)=> ?_) (λ(ax:decide _=false)=>(eZ ax).elim)|refine .inr ⟨[0,1,2,3],bO bc ?_⟩|refine .inr ⟨[0,1,2,3],bO (cn (by assumption)) ?_⟩|fail)
 all_goals(conv=>whnf)
 ·have ac:W.2=false:=by rw[cJ]at h;simpa using h
  rw[ac];exact⟨.r,⟨.r,.r,.r,.r,gV ⟨.r,.aY,.aY,.aY,aj⟩,aj⟩,by rfl⟩
 ·have ac:W.2=true:=by rw[cJ]at h;simpa using h
  rw[ac];exact⟨.r,⟨.r,.r,.r,.r,gV ⟨.r,.aY,.aY,.aY,aj⟩,aj⟩,by rfl⟩
theorem apy(s:Mem)(bU:s.status=1)(dS:hl s)(bM:Int)(aZ:List ei)(cC:aZ.length<=80000)(hi:EH s)(cS:bP s.view.mem bM=false)(au:sU (gU s bM)):
  cj Tryz.prog 54 (fh s aZ) [.aW 0 0,i64 bM,.agg (kj My)] [true,false,false,false] (fh (fp (gU s bM)) (aZ++ [wP (gU s bM) bM])) (.be []):=by
 have aA:=jt s.view.mem (bT dS.view (by decide)) bM
 have aG:=abt s dS.view (by have:=dS.als;omega) aZ bM
 obtain⟨dL,dW,eU,hj⟩:=zQ s bM
 have ep:=SK (gU s bM) ⟨by rw[dW];exact hi.first,by rw[eU];exact hi.len,by rw[eU];exact hi.aI⟩ aZ (by omega) bM
 rw[cS]at aA;have cJ:decide ((gU s bM).status=1)=true:=by rw[(zQ s bM).1,bU];rfl
 have eZ:decide ((gU s bM).status=1)=false->False:=λh=>by rw[cJ]at h;cases h
 have bc:=x9 au (aZ++ [wP (gU s bM) bM]);have cn: (decide ((gU s bM).status=1)&& !(ej (gU s bM)).2)=true->_:=λh=>ya au (by rw[cJ]at h;simpa using h) (aZ++ [wP (gU s bM) bM]);rw[sV (s:=gU s bM) (by simpa using cJ)];generalize ej (gU s bM)=W at *;generalize gU s bM=R at *
 refine jV Tryz.func54 ?_;repeat' ((conv=>whnf);first|refine bl ?_| (apply bo<;>intro h)|refine aR aA ?_|refine .inr ⟨[0,1,2,3],bO aG ?_⟩|refine .inr ⟨[0,1,2,3],bO ep ?_⟩|refine aS (λ(ax:decide _=true)=> ?_) (λ(ax:decide _=false)=>(eZ ax).elim)|refine .inr ⟨[0,1,2,3],bO bc ?_⟩|refine .inr ⟨[0,1,2,3],bO (cn (by assumption)) ?_⟩|fail)
 all_goals(conv=>whnf)
 ·have ac:W.2=false:=by rw[cJ]at h;simpa using h
  rw[ac];exact⟨.r,⟨.r,.r,.r,.r,gV ⟨.r,.aY,.aY,.aY,aj⟩,aj⟩,by rfl⟩
 ·have ac:W.2=true:=by rw[cJ]at h;simpa using h
  rw[ac];exact⟨.r,⟨.r,.r,.r,.r,gV ⟨.r,.aY,.aY,.aY,aj⟩,aj⟩,by rfl⟩
theorem If(h:decide (s.status=1)=false):fp s=s:=by
 unfold fp
 grind
theorem apz(s:Mem)(bU:s.status=1)(dS:hl s)(bM:Int)(aZ:List ei)(first:aK)(aI:List (List Int))(cy: (jM first aI).2=true)(al:∀c∈aI,mL c)(au:sU (lE s first aI)):
  cj Tryz.prog 54 (fh s aZ) [.aW 0 0,i64 bM,.agg (kj (vp first aI))] [true,false,false,false] (fh (fp (lE s first aI)) aZ) (.be []):=by
 have aA:=jt s.view.mem (bT dS.view (by decide)) bM
 have aG:=apb s dS.hist dS.EC dS.first first aI cy al bU aZ
 have bc:=x9 au aZ;have cn: (decide ((lE s first aI).status=1)&& !(ej (lE s first aI)).2)=true->_:=λh=>ya au (by simp only[cq,nu]at h;exact h.2) aZ;cases cJ:decide ((lE s first aI).status=1)
 ·have eZ:decide ((lE s first aI).status=1)=true->False:=λh=>by rw[cJ]at h;cases h
  have avp: (decide ((lE s first aI).status=1)&& !false)=false:=by rw[cJ];rfl
  rw[If cJ];clear bc cn au;generalize lE s first aI=H at *
  refine jV Tryz.func54 ?_;repeat' ((conv=>whnf);first|refine bl ?_|refine ft (by assumption) ?_|refine aR aA ?_|refine .inr ⟨[0,1,2,3],bO aG ?_⟩|refine aS (λh=>(eZ h).elim) ?_|intro (ax:decide _=false)|fail)
  all_goals(conv=>whnf)
  exact⟨.r,⟨.r,.r,.r,.r,gV ⟨.r,.aY,.aY,.aY,aj⟩,aj⟩,by rfl⟩
 ·have eZ:decide ((lE s first aI).status=1)=false->False:=λh=>by rw[cJ]at h;cases h
  rw[sV (s:=lE s first aI) (by simpa using cJ)];generalize ej (lE s first aI)=W at *;generalize lE s first aI=H at *
  refine jV Tryz.func54 ?_;repeat' ((conv=>whnf);first|refine bl ?_| (apply bo<;>intro h)|refine aR aA ?_|refine .inr ⟨[0,1,2,3],bO aG ?_⟩|refine aS (λ(ax:decide _=true)=> ?_) (λ(ax:decide _=false)=>(eZ ax).elim)|refine .inr ⟨[0,1,2,3],bO bc ?_⟩|refine .inr ⟨[0,1,2,3],bO (cn (by assumption)) ?_⟩|fail)
  all_goals(conv=>whnf)
  ·have ac:W.2=false:=by rw[cJ]at h;simpa using h
   rw[ac];exact⟨.r,⟨.r,.r,.r,.r,gV ⟨.r,.aY,.aY,.aY,aj⟩,aj⟩,by rfl⟩
  ·have ac:W.2=true:=by rw[cJ]at h;simpa using h
   rw[ac];exact⟨.r,⟨.r,.r,.r,.r,gV ⟨.r,.aY,.aY,.aY,aj⟩,aj⟩,by rfl⟩
theorem apA(s:Mem)(ae:hl s)(ab:pk s=true)(bU:s.status=1)(bM:Int)(gS:mq bM=true)(bx:bM≠s.self)(f:sT)(W:List Nat)
  (ao:bq Tryz.prog 51 [.agg (cv s),.av 1 (W.map bE) false] (.be [.agg (kj f),.v (.bool true)])) {s':Mem} {MD:List ei}
  (bw:cj Tryz.prog 54 (abp s) [.aW 0 0,i64 bM,.agg (kj f)] [true,false,false] (fh s' MD) (.be [])):
  bq Tryz.prog 23 [.agg (cv s),i64 bM,.av 1 (W.map bE) false] (.be [.agg (cv s'),.av 2 (MD.map gh) false,i64 0]):=by
 have aA:=wO s ae;rw[ab]at aA;have aG:=BO bM
 rw[gS]at aG;have cn:=EG s ae;have aa:decide (bM=s.self)=false:=c5 bx;have aQ:decide (s.status=0)=false:=by rw[bU];rfl
 have h1:decide (s.status=1)=true:=by rw[bU];rfl
 have ax: (!true|| !true||decide (bM=s.self))=false:=by rw[aa];rfl
 have iP: (decide (s.status=0)&&decide (f.kind=4))=false:=by rw[aQ];rfl
 refine fX Tryz.func23 ?_;repeat' ((conv=>whnf);first|refine bl ?_|refine ht (by assumption) ?_|refine ft (by assumption) ?_|exact .refl|refine ch ?_|refine dE ?_|refine aR aA ?_|refine ea aG ?_|refine aR ao ?_|refine .inr ⟨[],bO cn ?_⟩|refine .inr ⟨[5,3,4],bO bw ?_⟩|fail)
theorem apB(s:Mem)(ae:hl s)(ab:pk s=true)(bU:s.status=0)(bM:Int)(gS:mq bM=true)(bx:bM≠s.self)(first:aK)(aI:List (List Int))(abL:b2 first=true)(aV:aI.length<=400)(cy: (jM first aI).2=true)(al:∀c∈aI,mL c):
  bq Tryz.prog 23 [.agg (cv s),i64 bM,.av 1 ((r4 first aI).map bE) false] (.be [.agg (cv (vr s first aI)),.av 2 (([]:List ei).map gh) false,i64 0]):=by
 have aA:=wO s ae;rw[ab]at aA;have aG:=BO bM
 rw[gS]at aG;have bc:=HT s first aI abL aV al cy
 have cn:=EG s ae;have ep:=SG s (apa s first aI cy al bU []);have aa:decide (bM=s.self)=false:=c5 bx;have aQ:decide (s.status=0)=true:=by rw[bU];rfl
 have ax: (!true|| !true||decide (bM=s.self))=false:=by rw[aa];rfl
 have iP: (decide (s.status=0)&&decide ((4:Int)=4))=true:=by rw[aQ];rfl
 generalize vr s first aI=H at *
 generalize r4 first aI=W at *
 refine fX Tryz.func23 ?_;repeat' ((conv=>whnf);first|refine bl ?_|refine ht (by assumption) ?_|refine ft (by assumption) ?_|exact .refl|refine ch ?_|refine dE ?_|refine aR aA ?_|refine ea aG ?_|refine aR bc ?_|refine .inr ⟨[],bO cn ?_⟩|refine .inr ⟨[5,3,4],bO ep ?_⟩|fail)
theorem apC(s:Mem)(ae:hl s)(ab:pk s=true)(bU:s.status≠1)(bM:Int)(gS:mq bM=true)(bx:bM≠s.self)(f:sT)(W:List Nat)(hk:s.status=0->f.kind≠4)
  (ao:bq Tryz.prog 51 [.agg (cv s),.av 1 (W.map bE) false] (.be [.agg (kj f),.v (.bool true)])):
  bq Tryz.prog 23 [.agg (cv s),i64 bM,.av 1 (W.map bE) false] (.be [.agg (cv s),.av 2 (([]:List ei).map gh) false,i64 0]):=by
 have aA:=wO s ae;rw[ab]at aA;have aG:=BO bM
 rw[gS]at aG;have cn:=EG s ae;have aa:decide (bM=s.self)=false:=c5 bx;have h1:decide (s.status=1)=false:=c5 bU;have ax: (!true|| !true||decide (bM=s.self))=false:=by grind
 have iP: (decide (s.status=0)&&decide (f.kind=4))=false:=by
  grind
 refine cp (fn:=Tryz.f23) (c:=Tryz.f23.body.getD .skip) az aw (by rfl) Tryz.func23 (by rfl) (by rfl) (by rfl) (by rfl) ?_;repeat' ((conv=>whnf);first|refine bl ?_|refine ft (by assumption) ?_|refine ch ?_|refine dE ?_|refine aR aA ?_|refine ea aG ?_|refine aR ao ?_|refine .inr ⟨[],bO cn ?_⟩|fail)
 all_goals(conv=>whnf)
 all_goals exact e1 ⟨.r,.ar,.r,aj⟩
theorem abW(l:List Nat)(af:l.length<=900000)(v:Nat)(ab:v<18446744073709551616):cj Tryz.prog 99 [] [.av 1 (l.map bE) false,u64 v] [] [.row 5 1 ((l++bB v).map bE)] (.own 0):=by
 have m1:=QP l (by omega);have m2:=Ea l (by omega) v ab;refine ik (fn:=Tryz.f99) (c:=Tryz.f99.body.getD .skip) az aw (by rfl) Tryz.func99 (by rfl) (by rfl) (by rfl) (by rfl) (by rfl) ?_;repeat' ((conv=>whnf);first|refine .inr ⟨[],bO m1 ?_⟩|refine .inr ⟨[0],bO m2 ?_⟩|fail)
 all_goals(conv=>whnf)
 exact⟨.r,⟨.r,aj⟩,by rfl⟩
def j1(s:Mem)(l:List bR):Nat->Mem
 |0=>s
 |i+1=>mO (j1 s l i) (l.getD i gd)
def mu(s:Mem)(l:List bR):Mem:=j1 s l l.length
theorem wQ(s:Mem)(l:List bR):∀i,(j1 s l i).view=s.view/\(j1 s l i).self=s.self/\(j1 s l i).hist=s.hist/\(j1 s l i).dbts=s.dbts/\(j1 s l i).agr=s.agr/\(j1 s l i).status=s.status/\(j1 s l i).first=s.first/\(j1 s l i).a7=s.a7/\(j1 s l i).cont=s.cont/\(j1 s l i).als.length<=s.als.length+i
 |0=>⟨rfl,rfl,rfl,rfl,rfl,rfl,rfl,rfl,rfl,bS _⟩
 |i+1=>by
  have a1:=wQ s l i;have h:=Mq (j1 s l i) (l.getD i gd);have af:=abq (j1 s l i) (l.getD i gd);exact⟨h.1.trans a1.1,h.2.1.trans a1.2.1,h.2.2.1.trans a1.2.2.1,h.2.2.2.2.2.2.2.1.trans a1.2.2.2.1,h.2.2.2.2.2.2.2.2.trans a1.2.2.2.2.1,h.2.2.2.2.1.trans a1.2.2.2.2.2.1,h.2.2.2.1.trans a1.2.2.2.2.2.2.1,h.2.2.2.2.2.2.1.trans a1.2.2.2.2.2.2.2.1,h.2.2.2.2.2.1.trans a1.2.2.2.2.2.2.2.2.1,by unfold j1;omega⟩
def bY(s:Mem):Mem:=p0 (mu {s with a7:=(cO s.a7).1} (cO s.a7).2)
def fa(s:Mem):Mem×List ei:=
 bif decide ((s.agr.prop.length:Int)=0)then
  bif (dl s.view s.als).2 then
   bif decide ((eH s.agr (dl s.view s.als).1).2.2=0)then({s with agr:=(eH s.agr (dl s.view s.als).1).1},jP {s with agr:=(eH s.agr (dl s.view s.als).1).1} (eH s.agr (dl s.view s.als).1).2.1)
   else(s,[])
  else(s,[])
 else(s,[])
def iK(s:Mem):Mem×List ei:=({s with agr:=(cN s.agr).1},jP {s with agr:=(cN s.agr).1} (cN s.agr).2)
def B0(s:Mem)(m:Int):ei:=⟨m,MA s.view.num s.als⟩
def B3(s:Mem):List ei:=(kh (cQ s.view.mem s.self)).map (kk s.view.num)++bif decide (0<(s.als.length:Int))then(pY s).map (B0 s)else []
def pn(s:Mem):Mem×List ei:=
 bif (ej (iK (fa (bY s)).1).1).2 then((ej (iK (fa (bY s)).1).1).1,(fa (bY s)).2++(iK (fa (bY s)).1).2)
 else((ej (iK (fa (bY s)).1).1).1,(fa (bY s)).2++(iK (fa (bY s)).1).2++B3 (ej (iK (fa (bY s)).1).1).1)
theorem apD(s:Mem)(l:List Int)(i:Nat): (km s l i).agr=s.agr/\(km s l i).status=s.status/\(km s l i).first=s.first:=by
 induction i with
 |zero=>exact⟨rfl,rfl,rfl⟩
 |succ i a1=>
  have h:=zQ (km s l i) (l.getD i 0);exact⟨h.2.2.2.trans a1.1,h.1.trans a1.2.1,h.2.1.trans a1.2.2⟩
theorem abX(s:Mem): (p0 s).view=s.view/\(p0 s).self=s.self/\(p0 s).hist=s.hist/\(p0 s).agr=s.agr/\(p0 s).status=s.status/\(p0 s).first=s.first:=by
 unfold p0 nO;simp only[];have h:=EM {s with dbts:=kl s.self s.dbts (ev s.view s.als false)} (iU s.self s.dbts (ev s.view s.als false)) (iU s.self s.dbts (ev s.view s.als false)).length;have ad:=apD {s with dbts:=kl s.self s.dbts (ev s.view s.als false)} (iU s.self s.dbts (ev s.view s.als false)) (iU s.self s.dbts (ev s.view s.als false)).length
 grind
theorem qA(s:Mem): (bY s).view=s.view/\(bY s).self=s.self/\(bY s).hist=s.hist/\(bY s).agr=s.agr/\(bY s).status=s.status/\(bY s).first=s.first:=by
 have h:=abX (mu {s with a7:=(cO s.a7).1} (cO s.a7).2);have ad:=wQ {s with a7:=(cO s.a7).1} (cO s.a7).2 (cO s.a7).2.length;exact⟨h.1.trans ad.1,h.2.1.trans ad.2.1,h.2.2.1.trans ad.2.2.1,h.2.2.2.1.trans ad.2.2.2.2.1,h.2.2.2.2.1.trans ad.2.2.2.2.2.1,h.2.2.2.2.2.trans ad.2.2.2.2.2.2.1⟩
theorem Ig(s:Mem): (fa s).1.view=s.view/\(fa s).1.self=s.self/\(fa s).1.hist=s.hist/\(fa s).1.als=s.als/\(fa s).1.status=s.status/\(fa s).1.first=s.first/\(fa s).1.dbts=s.dbts:=by
 unfold fa;cases decide ((s.agr.prop.length:Int)=0)<;>cases (dl s.view s.als).2<;>cases decide ((eH s.agr (dl s.view s.als).1).2.2=0)<;>exact⟨rfl,rfl,rfl,rfl,rfl,rfl,rfl⟩
structure ME(s:Mem):Prop where
 mE:hl s
 v:b2 s.view=true
 avq: (mu {s with a7:=(cO s.a7).1} (cO s.a7).2).als.length<=6000
 j0:∀d∈s.dbts,0<=d.j0/\d.j0<=1000
 avr: (bY s).als.length<=6000
 avs:dG (bY s).view (bY s).als=true
 cc: (eH (bY s).agr (dl (bY s).view (bY s).als).1).2.1.length<=1000/\∀p∈ (eH (bY s).agr (dl (bY s).view (bY s).als).1).2.1,vq p.m
 avt:ez (fa (bY s)).1.agr
 apE: (cN (fa (bY s)).1.agr).2.length<=1000/\∀p∈ (cN (fa (bY s)).1.agr).2,vq p.m
 dec: (cN (fa (bY s)).1.agr).1.dec.length<=1000
 avu: (dl (bY s).view (bY s).als).1.length<=1000
theorem abY(v:aK):∀ (n:Nat) (l:List Int),(pj v n l).1.length<=l.length
 |0,l=>by simp[pj]
 |n+1,l=>by
  rw[pj];cases decide ((er v l).2=0)
  ·cases (!decide ((er v l).2=5)||decide (((hd v l).length:Int)=0))
   ·have:=abY v n (l.take (gR l ((hd v l).getD ((hd v l).length-1) 0)).toNat++l.drop ((gR l ((hd v l).getD ((hd v l).length-1) 0)).toNat+1))
    grind
   ·simp
  simp
theorem apF(v:aK)(l:List Int): (zE v l).1.length<=l.length:=abY v _ l
theorem apG(k:Nat)(jk:1<=k)(hk:k<=255)(b:List Nat)(ac:b.length<=800000):cj Tryz.prog 92 [.row 5 1 (b.map bE)] [i64 k,.own 0] [true] [.row 5 1 (b.map bE),.bn,.bn,.row 5 1 ((eu k b).map bE)] (.be [.own 3,i64 0]):=by
 have xS:=QW hk;have fm: [[ak.v (.int .u8 65)],[ak.v (.int .u8 71)],[ak.v (.int .u8 (IntKind.u8.wrap (k:Int)))]]=List.map bE [65,71,k]:=by rw[xS];rfl
 have m1:=Ll [65,71,k] (by simp) (b.length+8) (by omega);have m2:=Ea [65,71,k] (by simp) b.length (by omega);have i0: (bB b.length).length<=10:=hP 9 b.length;have Lm: [65,71,k]++bB b.length++b=hD k b:=rfl;have hH: (hD k b).length<=900000:=by
  grind
 have bc:=QU (hD k b) (by omega);have oG:=Y2 (hD k b) (by omega) (rV (hD k b));have hw:IntKind.i64.wrap (((b.map bE).length:Int)+8)=((b.length+8:Nat):Int):=by
  rw[bL,dQ (by omega) (by omega)];omega
 have hu:IntKind.u64.wrap ((b.map bE).length:Int)=((b.length:Nat):Int):=by
  rw[bL];exact kc (by omega) (by omega)
 have Hf: (decide ((k:Int)<1)||decide ((255:Int)<k)||decide ((16777216:Int)<((b.map bE).length:Int)))=false:=by
  grind
 have zk: ([65,71,k]++bB b.length).map bE++b.map bE=(hD k b).map bE:=by
  grind
 refine ik (fn:=Tryz.f92) (c:=Tryz.f92.body.getD .skip) az aw (by rfl) Tryz.func92 (by rfl) (by rfl) (by rfl) (by rfl) (by rfl) ?_;repeat' ((conv=>whnf);first|refine bl ?_|refine ft (by assumption) ?_|refine .inr ⟨[],[],_,[],_,_,m1,by rfl,aj,⟨jI fm,a8 hw,aj⟩,?_⟩|refine .inr ⟨[3],_,_,_,_,_,m2,by rfl,⟨.r,aj⟩,⟨.r,a8 hu,aj⟩,?_⟩|refine aS (rT (by simp<;>omega)) ?_|refine .inl ⟨[.av 1 ((hD k b).map bE) false],_,⟨jI zk,aj⟩,bc,?_⟩|refine .inr ⟨[3],_,_,_,_,_,oG,by rfl,⟨cM zk,aj⟩,⟨.r,.r,aj⟩,?_⟩|fail)
 all_goals(conv=>whnf)
 exact⟨.r,⟨.r,.r,.bn,.r,aj⟩,by rfl⟩
theorem MF(s:Mem)(aZ:List ei)(oI:aZ.length<=100000)(dd:Int)(k:Nat)(jk:1<=k)(hk:k<=255)(b:List Nat)(ac:b.length<=800000):
  cj Tryz.prog 55 (fh s aZ++ [.row 5 1 (b.map bE)]) [.aW 0 0,i64 dd,i64 k,.own 4] [true,true,true,false,true] (fh s (aZ++ [ei.mk dd (eu k b)])++ [.row 5 1 (b.map bE)]) (.be []):=by
 have aA:=apG k jk hk b ac;generalize eu k b=W at *;refine jV Tryz.func55 ?_;repeat' ((conv=>whnf);first|refine .inr ⟨[4],bO aA ?_⟩|refine aS (Sp (by simp<;>omega)) ?_|fail)
 all_goals(conv=>whnf)
 refine⟨.r,⟨.r,.r,.r,cM ?_,.r,gV ⟨.r,.r,.r,.aY,.r,aj⟩,aj⟩,by rfl⟩;rw[ew];rfl
end Go.Proofs.YtdcfooeoaoahjaaGreat
