/- A data-level logic for the model: what a body does to data; its soundness (part LfC). No conditions. -/
import Derived.Test.YtdcfooeoaoahjaaGreatLfB
import Derived.Deep.LoopGhost
import Derived.Scope
import Derived.ProofKit
import Derived.OpenShut
import Derived.Carry
import Derived.Deep.Slices
import Derived.Shelf.SlSortCmp.NoneTotal
import Derived.Shelf.Sort.Plain
import Derived.Shelf.Slices.In.SortNone
import Derived.Shelf.Slices.CompactI
set_option linter.unusedSimpArgs false
set_option linter.unusedVariables false
set_option maxRecDepth 100000
set_option maxHeartbeats 16000000
namespace Go.Lift
open Go
section
variable {P:Program} {ah:c4} {aA:Nat->Prop} {aY:dP} {n:Nat} {os:cu} {s s':bu} {a:Act} {w:World} {o:Oper} {A:Nat->Prop} {B:dP} {ρ:Operand->aj} {loc dH:List aU} {Q:Option Prop->aj->Prop} {ops:Array Oper}
theorem Pg{op:Op}(af:∀x∈op.operands.toList,∀k∈fR (ρ x),bB dH k=bB loc k)(h:lG ah loc op ρ Q):lG ah dH op ρ Q:=by
 cases op
 case nilCheck x=>
  have an:=af x (by simp[Op.operands]);have h:sY loc (ρ x) Q:=h;show sY dH (ρ x) Q;generalize ρ x=d at *;cases d
  case cF j k off=>
   have e:=an j (by simp[fR,nn]);unfold sY at h⊢;simp only[e];exact h
  case fn f c=>cases f<;>exact h
  all_goals exact h
 case fieldAddr t x f=>
  have an:=af x (by simp[Op.operands]);have h:sZ ah loc t f (ρ x) Q:=h;show sZ ah dH t f (ρ x) Q;generalize ρ x=d at *;cases d
  case cF j k off=>
   have e:=an j (by simp[fR,nn]);unfold sZ at h⊢;simp only[e];exact h
  all_goals exact h
 case indexAddr t x i=>
  have an:=af x (by simp[Op.operands]);have h:s0 ah loc t i (ρ x) (ρ i) Q:=h;show s0 ah dH t i (ρ x) (ρ i) Q;generalize ρ x=d at *;cases d
  case own j=>
   have e:=an j (by simp[fR,nn]);unfold s0 v7 at h⊢;simp only[e];exact h
  all_goals exact h
 case load t x=>
  have an:=af x (by simp[Op.operands]);have h:qW ah loc t (ρ x) Q:=h;show qW ah dH t (ρ x) Q;generalize ρ x=d at *;cases d
  case aP j off=>
   have e:=an j (by simp[fR,nn]);unfold qW at h⊢;simp only[e];exact h
  case dc j off=>
   have e:=an j (by simp[fR,nn]);unfold qW at h⊢;simp only[e];exact h
  case cF j k off=>
   have e:=an j (by simp[fR,nn]);unfold qW at h⊢;simp only[e];exact h
  all_goals exact h
 case call c=>
  obtain⟨callee,args,dL⟩:=c;cases callee
  case builtin b=>
   cases b
   case len=>
    have h: (match args.toList,dL.toList with
     | [x],[t]=>rR ah loc t (ρ x) Q
     |_,_=>False):=h
    show (match args.toList,dL.toList with
     | [x],[t]=>rR ah dH t (ρ x) Q
     |_,_=>False)
    split at h
    ·rename_i x t az aG;have an:=af x (by simp[Op.operands,Call.operands];rw[<-Array.mem_toList_iff,az];simp);generalize ρ x=d at *;cases d
     case own j=>
      have e:=an j (by simp[fR,nn]);unfold rR at h⊢;simp only[e];exact h
     all_goals exact h
    ·exact h.elim
   all_goals exact h
  all_goals exact h
 all_goals exact h
theorem X2{d:aj}{R:aj->Prop}(h:rS loc d R):∃bD,R bD/\∀dH,(∀k∈DB d,bB dH k=bB loc k)->∀hb:aj->Prop,hb bD->rS dH d hb:=by
 cases d
 case aP j o=>
  unfold rS at h;simp only at h;split at h
  ·rename_i t cs ax;split at h
   ·rename_i dk;refine⟨_,h,fun dH af hb Bc=> ?_⟩;have ai:=af j (by simp[DB]);unfold rS;simp only[ai,ax,dk];exact Bc
   ·exact h.elim
  ·exact h.elim
 all_goals exact⟨_,h,fun _ _ _ bb=>bb⟩
theorem Ph:∀ {ds:List aj} {R:List aj->Prop},uv loc ds R->∃l,R l/\∀dH,(∀d∈ds,∀k∈DB d,bB dH k=bB loc k)->∀hb:List aj->Prop,hb l->uv dH ds hb
 | [],R,h=>⟨_,h,fun _ _ _ bb=>bb⟩
 |d::r,R,h=>by
  obtain⟨bD,h,cx⟩:=X2 h;obtain⟨l,h,cM⟩:=Ph h;exact⟨_,h,fun dH af hb bb=>cx dH (af d (by simp)) _ (cM dH (fun d aa=>af d (by simp[aa])) _ bb)⟩
theorem Pi{d:aj}{R:aj->Prop}(h:lH loc d R):∃bD,R bD/\∀dH,(∀k∈nn d,bB dH k=bB loc k)->∀hb:aj->Prop,hb bD->lH dH d hb:=by
 cases d
 case own j=>
  unfold lH at h;simp only at h;split at h
  ·rename_i e av es ax;refine⟨_,h,fun dH af hb Bc=> ?_⟩;have ai:=af j (by simp[nn]);unfold lH;simp only[ai,ax];exact Bc
  ·exact h.elim
 case aP j o=>
  unfold lH at h;simp only at h;split at h
  ·rename_i t cs ax;split at h
   ·rename_i dk;refine⟨_,h,fun dH af hb Bc=> ?_⟩;have ai:=af j (by simp[nn]);unfold lH;simp only[ai,ax,dk];exact Bc
   ·exact h.elim
  ·exact h.elim
 case fn f b2=>
  have h:uv loc b2 (fun l=>R (.fn f l)):=h;obtain⟨l,h,k⟩:=Ph h;exact⟨_,h,fun dH af hb bb=>k dH (fun d aa q bF=>af q (by simp only[nn,List.mem_flatMap];exact⟨d,aa,bF⟩)) (fun l=>hb (.fn f l)) bb⟩
 all_goals first|exact h.elim|exact⟨_,h,fun _ _ _ bb=>bb⟩
theorem Pj:∀ {ds:List aj} {R:List aj->Prop},yb loc ds R->∃l,R l/\∀dH,(∀d∈ds,∀k∈nn d,bB dH k=bB loc k)->∀hb:List aj->Prop,hb l->yb dH ds hb
 | [],R,h=>⟨_,h,fun _ _ _ bb=>bb⟩
 |d::r,R,h=>by
  obtain⟨bD,h,cx⟩:=Pi h;obtain⟨l,h,cM⟩:=Pj h;exact⟨_,h,fun dH af hb bb=>cx dH (af d (by simp)) _ (cM dH (fun d aa=>af d (by simp[aa])) _ bb)⟩
theorem X3{d:aj}{R:aj->Prop}(h:qX loc d R):∃bD,R bD/\∀dH,(∀k∈fR d,bB dH k=bB loc k)->∀hb:aj->Prop,hb bD->qX dH d hb:=by
 cases d
 case agg cs=>
  obtain⟨l,h,k⟩:=Pj (ds:=cs) h;exact⟨_,h,fun dH af hb bb=>k dH (fun d aa k hk=>af k (by simp only[fR,List.mem_flatMap];exact⟨d,aa,hk⟩)) _ bb⟩
 case bP=>exact h.elim
 case a1 ds=>
  have h:match ds.any kh with
   |false=>R (.a1 ds)
   |true=>False:=h
  cases aS:ds.any kh with
  |false=>
   rw[aS]at h;refine⟨_,h,fun dH _ hb bb=> ?_⟩;show match ds.any kh with
    |false=>hb (.a1 ds)
    |true=>False
   rw[aS];exact bb
  |true=>
   rw[aS]at h;exact h.elim
 all_goals exact Pi h
theorem EG:∀ {ds:List aj} {R:List aj->Prop},p1 loc ds R->∃l,R l/\∀dH,(∀d∈ds,∀k∈fR d,bB dH k=bB loc k)->∀hb:List aj->Prop,hb l->p1 dH ds hb
 | [],R,h=>⟨_,h,fun _ _ _ bb=>bb⟩
 |d::r,R,h=>by
  obtain⟨bD,h,cx⟩:=X3 h;obtain⟨l,h,cM⟩:=EG h;exact⟨_,h,fun dH af hb bb=>cx dH (af d (by simp)) _ (cM dH (fun d aa=>af d (by simp[aa])) _ bb)⟩
theorem Bd{g:Bool}:∀ {l:List Operand} {R:Option Prop->Prop},mL g s l R->∃c,R c/\∀ {A:Nat->Prop} {os:cu} {a:Act} {w:World},(∀x∈l,a6 A os w (a.eval x) (bq s x))->Holds c->g=true->∀x∈l,a6 A os w (a.eval x) (hz s x)
 | [],R,b1=>⟨_,b1,fun _ _ _ x an=>by simp at an⟩
 |x::r,R,b1=>by
  unfold mL at b1;split at b1
  ·rename_i c5 d e;obtain⟨c,b1,al⟩:=Bd b1;refine⟨_,b1,fun an bp ax y bt=> ?_⟩;obtain⟨h1,ad⟩:=Holds.andO.1 bp;rcases List.mem_cons.1 bt with rfl|bt
   ·have:=an y (by simp);unfold hz;rw[e]at this⊢;exact this.uG.1 (Holds.h3.1 h1 ax)
   ·exact al (fun x aT=>an x (by simp[aT])) ad ax y bt
  ·rename_i tp;obtain⟨c,b1,al⟩:=Bd b1;refine⟨_,b1,fun an bp ax y bt=> ?_⟩;rcases List.mem_cons.1 bt with rfl|bt
   ·have:hz s y=bq s y:=by
     unfold hz;generalize bq s y=d at tp;cases d<;>first|rfl|exact absurd rfl (tp _ _)
    rw[this];exact an y (by simp)
   ·exact al (fun x aT=>an x (by simp[aT])) bp ax y bt
theorem tA{dst:Option Tmp}{d:aj}{ip:List Nat}{rT:List (Nat×Nat)}:e0 s dst d (fun mT=>mT=dY.iK ⟨fa dst d,ip,[],rT⟩ s):=by
 refine wx.2 ?_;cases s;cases dst<;>rfl
theorem qj{dst:Option Tmp}{d:aj}{ip:List Nat}{k:Nat}{bm:aU}{rT:List (Nat×Nat)}:e0 ⟨s.env,e1 s.loc k bm⟩ dst d (fun mT=>mT=dY.iK ⟨fa dst d,ip,[(k,bm)],rT⟩ s):=by
 refine wx.2 ?_;cases s;cases dst<;>rfl
def EH(os aJ:cu):Prop:=∀ (i:Nat) (x:Value) (o:aU),o≠ .bd->os[i]?=some (x,o)->∃aK,aJ[i]?=some (x,aK)/\di o aK
theorem a6.wQ{A cU:Nat->Prop}{aJ:cu}{w':World}(k:cT A cU w w')(aZ:EH os aJ){x:Value}{d:aj}(h:a6 A os w x d):a6 cU aJ w' x d:=by
 induction h with
 |bA h=>exact .bA (h.b9 k)
 |aP h=>
  obtain⟨aK,bb,hk⟩:=aZ _ _ _ (by simp) h;cases aK<;>simp[di]at hk
  exact .aP bb
 |dc h=>
  obtain⟨aK,bb,hk⟩:=aZ _ _ _ (by simp) h;cases aK<;>simp[di]at hk
  exact .dc bb
 |cF h=>
  obtain⟨aK,bb,hk⟩:=aZ _ _ _ (by simp) h;cases aK<;>simp[di]at hk
  obtain⟨rfl,rfl⟩:=hk;exact .cF bb
 |own h h1=>
  obtain⟨aK,bb,hk⟩:=aZ _ _ _ (by simp) h;cases aK<;>simp[di]at hk
  exact .own bb h1
 |dK h aa h1=>
  obtain⟨aK,bb,hk⟩:=aZ _ _ _ (by simp) h;cases aK<;>simp[di]at hk
  exact .dK bb aa h1
 |agg af bf _ aN=>exact .agg af bf aN
 |a1 af bJ _ aN=>
  exact .a1 af (fun i v d ac aa=>by
   rcases bJ i v d ac aa with h|h
   ·exact .inl h
   ·exact .inr (h.b9 k)) aN
 |fn af gu _ aN=>exact .fn af gu aN
 |bP _ aH aN=>exact .bP aN aH
theorem jH.wQ{A cU:Nat->Prop}{os aJ:cu}{B:dP}{w w':World}{x:Value}{bm:aU}(h:jH A os B w x bm)(k:cT A cU w w')(aZ:EH os aJ)(ae:∀b,bm≠ .bd->bs x=some b->w'.heap[b]?=w.heap[b]?):jH cU aJ B w' x bm:=by
 cases bm with
 |bd=>exact trivial
 |gone=>exact h
 |b6 ds=>exact⟨h.1,h.2.1,h.2.2.1,fun i v d ac aa=>(h.2.2.2 i v d ac aa).wQ k aZ⟩
 |cells t cs=>
  obtain⟨g,arr,rfl,cR,bp,ag,bf,ao⟩:=h;exact⟨g,arr,rfl,cR,(ae g (by simp) rfl).trans bp,ag,bf,fun j v d ac aa=>(ao j v d ac aa).wQ k aZ⟩
 |row e av es=>
  obtain⟨gI,xs,bJ,bZ,fp,bf,ao⟩:=h;refine⟨gI,xs,⟨bJ.1,?_⟩,bZ,fp,bf,fun dv j r d h1 ad=> ?_⟩
  ·rcases bJ.2 with aS| ⟨g,cap,cur,rfl,cR,bp,rest⟩
   ·exact .inl aS
   ·exact .inr ⟨g,cap,cur,rfl,cR,(ae g (by simp) rfl).trans bp,rest⟩
  ·obtain⟨v,ac,ab⟩:=ao dv j r d h1 ad;exact⟨v,ac,ab.b9 k⟩
theorem bT.wR{w':World}{i:Nat}{x y:Value}{bm:aU}(h:bT aA aY n os s a w)(ab:os[i]?=some (y,.bd))(ax:w.grownBy w' none)(kl:∀b,bs x=some b->w.heap.size<=b)
  (eg:cT (a8 aA os) (a8 aA (os.set i (x,bm))) w w'->EH os (os.set i (x,bm))->jH (a8 aA (os.set i (x,bm))) (os.set i (x,bm)) aY w' x bm):bT aA aY n (os.set i (x,bm)) ⟨s.env,e1 s.loc i bm⟩ a w':=by
 have ap:=(List.getElem?_eq_some_iff.1 ab).1;have b7:∀ {j:Nat} {y:Value} {aK:aU},(os.set i (x,bm))[j]?=some (y,aK)->(j=i/\y=x/\aK=bm)\/(j≠i/\os[j]?=some (y,aK)):=by
  intro j y aK ai;by_cases e:j=i
  ·subst e;rw[List.getElem?_set_self ap]at ai;cases ai;exact .inl ⟨rfl,rfl,rfl⟩
  ·rw[List.getElem?_set_ne (fun cd=>e cd.symm)]at ai;exact .inr ⟨e,ai⟩
 have k:cT (a8 aA os) (a8 aA (os.set i (x,bm))) w w':=.nq ax (fun b ae ac=>by
  rcases ac with ac| ⟨j,y,aK,ai,c2,b4⟩
  ·exact .inl ac
  ·rcases b7 ai with⟨rfl,rfl,rfl⟩| ⟨_,ai⟩
   ·have:=kl b b4;omega
   ·exact .inr ⟨_,_,_,ai,c2,b4⟩)
 have nv:EH os (os.set i (x,bm)):=by
  intro j y aK aa ai;by_cases e:j=i
  ·subst e;rw[ab]at ai;cases ai;exact absurd rfl aa
  ·exact⟨aK,by rw[List.getElem?_set_ne (fun cd=>e cd.symm)];exact ai,by cases aK<;>simp[di]⟩
 refine⟨h.size,h.defers,mJ.yv h.fH ax (fun _ e=>by cases e),h.a0,by rw[kj,h.loc,List.map_set],fun t=>(h.env t).wQ k nv,fun j y aK ai=> ?_,fun ps r3 y cQ z eI b h1 ad d1 d2 cC cH=> ?_⟩
 ·rcases b7 ai with⟨rfl,rfl,rfl⟩| ⟨bx,ai⟩
  ·exact eg k nv
  ·exact(h.cp j y aK ai).wQ k nv (fun b c2 ae=>ax.block b ((h.cp j y aK ai).gW c2 ae).2 (by simp))
 ·rcases b7 h1 with⟨rfl,rfl,rfl⟩| ⟨_,g1⟩<;>rcases b7 ad with⟨rfl,rfl,rfl⟩| ⟨_,g2⟩
  ·rfl
  ·have:=kl b cC;have:=((h.cp _ _ _ g2).gW d2 cH).2;omega
  ·have:=kl b cH;have:=((h.cp _ _ _ g1).gW d1 cC).2;omega
  ·exact h.inj _ _ _ _ _ _ b g1 g2 d1 d2 cC cH
def EI(i:Nat)(os aJ:cu):Prop:=(∃x e av es,os[i]?=some (x,.row e av es))/\(∃y,aJ[i]?=some (y,.gone))/\∀ (j:Nat) (x:Value) (o:aU),j≠i->o≠ .bd->os[j]?=some (x,o)->∃aK,aJ[j]?=some (x,aK)/\di o aK
theorem a6.wS{A cU:Nat->Prop}{aJ:cu}{w':World}{i:Nat}(k:cT A cU w w')(aZ:EI i os aJ){x:Value}{d:aj}(h:a6 A os w x d):a6 cU aJ w' x d:=by
 obtain⟨⟨HU,oE,aj0,aj1,ab⟩,⟨aj2,cV⟩,aZ⟩:=aZ;induction h with
 |bA h=>exact .bA (h.b9 k)
 |aP h=>
  obtain⟨aK,bb,hk⟩:=aZ _ _ _ (fun e=>by subst e;rw[ab]at h;cases h) (by simp) h;cases aK<;>simp[di]at hk
  exact .aP bb
 |dc h=>
  obtain⟨aK,bb,hk⟩:=aZ _ _ _ (fun e=>by subst e;rw[ab]at h;cases h) (by simp) h;cases aK<;>simp[di]at hk
  exact .dc bb
 | @cF j _ _ _ _ _ _ _ _ h=>
  by_cases e:j=i
  ·subst e;exact .dK cV (.inr ⟨_,_,rfl⟩) rfl
  ·obtain⟨aK,bb,hk⟩:=aZ _ _ _ e (by simp) h;cases aK<;>simp[di]at hk
   obtain⟨rfl,rfl⟩:=hk;exact .cF bb
 | @own j _ _ _ _ h h1=>
  by_cases e:j=i
  ·subst e;exact .dK cV (.inl rfl) h1
  ·obtain⟨aK,bb,hk⟩:=aZ _ _ _ e (by simp) h;cases aK<;>simp[di]at hk
   exact .own bb h1
 | @dK j _ _ _ h aa h1=>
  obtain⟨aK,bb,hk⟩:=aZ _ _ _ (fun e=>by subst e;rw[ab]at h;cases h) (by simp) h;cases aK<;>simp[di]at hk
  exact .dK bb aa h1
 |agg af bf _ aN=>exact .agg af bf aN
 |a1 af bJ _ aN=>
  exact .a1 af (fun i v d ac aa=>by
   rcases bJ i v d ac aa with h|h
   ·exact .inl h
   ·exact .inr (h.b9 k)) aN
 |fn af gu _ aN=>exact .fn af gu aN
 |bP _ aH aN=>exact .bP aN aH
theorem jH.wS{A cU:Nat->Prop}{os aJ:cu}{B:dP}{w w':World}{i:Nat}{x:Value}{bm:aU}(h:jH A os B w x bm)(k:cT A cU w w')(aZ:EI i os aJ)(ae:∀b,bm≠ .bd->bs x=some b->w'.heap[b]?=w.heap[b]?):jH cU aJ B w' x bm:=by
 cases bm with
 |bd=>exact trivial
 |gone=>exact h
 |b6 ds=>exact⟨h.1,h.2.1,h.2.2.1,fun i v d ac aa=>(h.2.2.2 i v d ac aa).wS k aZ⟩
 |cells t cs=>
  obtain⟨g,arr,rfl,cR,bp,ag,bf,ao⟩:=h;exact⟨g,arr,rfl,cR,(ae g (by simp) rfl).trans bp,ag,bf,fun j v d ac aa=>(ao j v d ac aa).wS k aZ⟩
 |row e av es=>
  obtain⟨gI,xs,bJ,bZ,fp,bf,ao⟩:=h;refine⟨gI,xs,⟨bJ.1,?_⟩,bZ,fp,bf,fun dv j r d h1 ad=> ?_⟩
  ·rcases bJ.2 with aS| ⟨g,cap,cur,rfl,cR,bp,rest⟩
   ·exact .inl aS
   ·exact .inr ⟨g,cap,cur,rfl,cR,(ae g (by simp) rfl).trans bp,rest⟩
  ·obtain⟨v,ac,ab⟩:=ao dv j r d h1 ad;exact⟨v,ac,ab.b9 k⟩
theorem bT.X4{w':World}{i q e cd av ki:Nat}{es er:List (List aj)}{x y x':Value}{xs:List Value}(h:bT aA aY n os s a w)(ab:os[i]?=some (x,.row e av es))(bF:os[q]?=some (y,.bd))(ax:w.grownBy w' (bs x))(ae:∀b,bs x'=some b->bs x=some b\/w.heap.size<=b)
  (bJ:w'.ownsRow 0 cd ki x' er.length xs) (bZ:0<ki) (ao:fW (a8 aA os) w xs er ki):
  bT aA aY n ((os.set i (.nilFunc,.gone)).set q (x',.row cd ki er)) ⟨s.env,e1 (e1 s.loc i .gone) q (.row cd ki er)⟩ a w'/\((os.set i (.nilFunc,.gone)).set q (x',.row cd ki er))[q]?=some (x',.row cd ki er):=by
 have bx:i≠q:=fun e=>by subst e;rw[ab]at bF;cases bF
 have yS:=(List.getElem?_eq_some_iff.1 ab).1;have X5:=(List.getElem?_eq_some_iff.1 bF).1;have kW: ((os.set i (.nilFunc,.gone)).set q (x',.row cd ki er))[q]?=some (x',.row cd ki er):=by rw[List.getElem?_set_self (by simpa using X5)]
 have qe: ((os.set i (.nilFunc,.gone)).set q (x',.row cd ki er))[i]?=some (.nilFunc,.gone):=by rw[List.getElem?_set_ne (fun e=>bx e.symm),List.getElem?_set_self yS]
 generalize gV: (os.set i (.nilFunc,.gone)).set q (x',.row cd ki er)=aJ at kW qe⊢;refine⟨?_,kW⟩;have b7:∀ {j:Nat} {z:Value} {aK:aU},aJ[j]?=some (z,aK)->(j=q/\z=x'/\aK= .row cd ki er)\/(j=i/\z= .nilFunc/\aK= .gone)\/(j≠i/\j≠q/\os[j]?=some (z,aK)):=by
  intro j z aK ai;by_cases az:j=q
  ·subst az;rw[kW]at ai;cases ai;exact .inl ⟨rfl,rfl,rfl⟩
  ·by_cases aG:j=i
   ·subst aG;rw[qe]at ai;cases ai;exact .inr (.inl ⟨rfl,rfl,rfl⟩)
   ·rw[<-gV,List.getElem?_set_ne (fun cd=>az cd.symm),List.getElem?_set_ne (fun cd=>aG cd.symm)]at ai;exact .inr (.inr ⟨aG,az,ai⟩)
 have aZ:EI i os aJ:=by
  refine⟨⟨_,_,_,_,ab⟩,⟨_,qe⟩,fun j z o ai aa aF=>⟨o,?_,by cases o<;>simp[di]⟩⟩;have:j≠q:=fun e=>by subst e;rw[bF]at aF;cases aF;exact aa rfl
  rw[<-gV,List.getElem?_set_ne (fun cd=>this cd.symm),List.getElem?_set_ne (fun cd=>ai cd.symm)];exact aF
 have fV:∀b,b<w.heap.size->a8 aA aJ b->a8 aA os b:=by
  intro b iO ac;rcases ac with ac| ⟨j,z,aK,ai,c2,b4⟩
  ·exact .inl ac
  ·rcases b7 ai with⟨rfl,rfl,rfl⟩| ⟨rfl,rfl,rfl⟩| ⟨_,_,ai⟩
   ·rcases ae b b4 with h1|h1
    ·exact .inr ⟨i,_,_,ab,by simp,h1⟩
    ·omega
   ·simp[bs]at b4
   ·exact .inr ⟨_,_,_,ai,c2,b4⟩
 have k:cT (a8 aA os) (a8 aA aJ) w w':=⟨ax.size,fV,fun b iO aS=>ax.block b iO (fun e=>aS (.inr ⟨i,x,_,ab,by simp,e.symm⟩))⟩
 refine⟨h.size,h.defers,mJ.yv h.fH ax (fun g e=>((h.cp i x _ ab).gW (by simp) e).1),h.a0,by rw[<-gV,kj,kj,h.loc,List.map_set,List.map_set],fun t=>(h.env t).wS k aZ,fun j z aK ai=> ?_,fun ps r3 z cQ nA eI b h1 ad d1 d2 cC cH=> ?_⟩
 ·rcases b7 ai with⟨rfl,rfl,rfl⟩| ⟨rfl,rfl,rfl⟩| ⟨kH,_,ai⟩
  ·exact oG (fun b b4=>(ae b b4).elim (fun h1=>((h.cp _ _ _ ab).gW (by simp) h1).1) (dP.pr h.fH)) bJ bZ (ao.b9 k)
  ·exact rfl
  ·exact(h.cp j z aK ai).wS k aZ (fun b c2 b4=>ax.block b ((h.cp j z aK ai).gW c2 b4).2 (fun e=>kH (h.inj j i _ _ _ _ b ai ab c2 (by simp) b4 e.symm)))
 ·have dD:∀ {j z aK},aJ[j]?=some (z,aK)->aK≠ .bd->bs z=some b->(j=q/\(bs x=some b\/w.heap.size<=b))\/(j≠i/\os[j]?=some (z,aK)/\b<w.heap.size):=by
   intro j z aK ai aa b4;rcases b7 ai with⟨rfl,rfl,rfl⟩| ⟨rfl,rfl,rfl⟩| ⟨kH,_,ai⟩
   ·exact .inl ⟨rfl,ae b b4⟩
   ·simp[bs]at b4
   ·exact .inr ⟨kH,ai,((h.cp _ _ _ ai).gW aa b4).2⟩
  rcases dD h1 d1 cC with⟨rfl,hP⟩| ⟨jM,g1,iY⟩<;>rcases dD ad d2 cH with⟨rfl,ir⟩| ⟨j4,g2,AC⟩
  ·rfl
  ·rcases hP with hP|hP
   ·exact absurd (h.inj _ _ _ _ _ _ b g2 ab d2 (by simp) cH hP) j4
   ·omega
  ·rcases ir with ir|ir
   ·exact absurd (h.inj _ _ _ _ _ _ b g1 ab d1 (by simp) cC ir) jM
   ·omega
  ·exact h.inj _ _ _ _ _ _ b g1 g2 d1 d2 cC cH
theorem X6{dst:Option Tmp}{d:aj}{ip:List Nat}{k dv:Nat}{bm e9:aU}{rT:List (Nat×Nat)}:e0 ⟨s.env,e1 (e1 s.loc k bm) dv e9⟩ dst d (fun mT=>mT=dY.iK ⟨fa dst d,ip,[(k,bm),(dv,e9)],rT⟩ s):=by
 refine wx.2 ?_;cases s;cases dst<;>rfl
theorem sl{i:Nat}(h:bT aA aY n os s a w)(af:bB s.loc i= .bd)(ab:i<s.loc.length):∃y,os[i]?=some (y,.bd):=by
 rw[h.len]at ab;rw[jn,h.loc,List.getElem?_map,List.getElem?_eq_getElem ab]at af;simp only[Option.map_some,Option.getD_some]at af;exact⟨os[i].1,by rw[List.getElem?_eq_getElem ab,<-af]⟩
theorem sm{l:List aU}{i:Nat}(h:lJ l i=true):i<l.length/\bB l i= .bd:=by
 simp only[lJ,Bool.and_eq_true]at h;refine⟨Nat.le_of_ble_eq_true h.1,?_⟩;generalize bB l i=o at h;cases o<;>first|rfl| (simp[Ho]at h)
def kZ(P:Program)(aA:Nat->Prop)(aY:dP)(n:Nat)(o:Oper)(bl:dY)(s:bu)(E:Exit->Act->World->Prop):Prop:=
 ∀ (aJ:cu) (s':bu) (a:Act) (w:World),bT aA aY n aJ s' a w->(∀x∈o.op.operands.toList,bq s' x=bq s x)->(∀k,(k∈bl.ip\/bl.cp k)->bB s'.loc k=bB s.loc k)->s'.loc.length=s.loc.length->
  o.wp P a w (c8 aA aY n fun mT=>mT=bl.iK s') E
variable {E:Exit->Act->World->Prop} {idx:Nat}
theorem Be{l:List Operand}{x:Operand}{k:Nat}(an:x∈l)(hk:k∈fR (ρ x)):k∈ml ρ l:=List.mem_flatMap.2 ⟨x,an,hk⟩
theorem Pk(aO:cS P ah=true)(aH: (ay ah 0).size=0)(aa:∀t,o.dst=some t->t<n){wrap:aj->aj}{c:Option Prop}{d:aj}
  (ju:∀mu:Option Prop->aj->Prop,mu c d->lG ah s.loc o.op ρ mu) (al:Holds c)
  (qk:∀ {os:cu} {a:Act} {w:World},(∀x∈o.op.operands.toList,a6 (a8 aA os) os w (a.eval x) (bq s x))->∀x∈o.op.operands.toList,a6 (a8 aA os) os w (a.eval x) (ρ x))
  (hw:∀ {os:cu} {w:World} {x:Value} {d:aj},a6 (a8 aA os) os w x d->a6 (a8 aA os) os w x (wrap d))
  {ip:List Nat} (qc:∀ (dH:List aU) (mu:Option Prop->aj->Prop),(∀k∈ip,bB dH k=bB s.loc k)->lG ah s.loc o.op ρ mu->lG ah dH o.op ρ mu):
  kZ P aA aY n o ⟨fa o.dst (wrap d),ip,[],[]⟩ s E:=by
 intro aJ s' a w ao he af _;have h1:=ju (fun eA bD=>eA=c/\bD=d) ⟨rfl,rfl⟩;have ad:lG ah s'.loc o.op ρ (fun eA bD=>eA=c/\bD=d):=qc s'.loc _ (fun k hk=>af k (.inl hk)) h1;rw[ao.loc]at ad;obtain⟨_,_,⟨rfl,rfl⟩,ax⟩:=AI aO aH ao.cp (a:=a) (qk (fun x an=>by rw[<-he x an];exact ao.bq x)) ad;obtain⟨x,cW,tk⟩:=ax al;exact hB cW (c8.put ao aa (hw tk) tA)
theorem X7(aO:cS P ah=true)(aH: (ay ah 0).size=0)(aa:∀t,o.dst=some t->t<n){wrap:aj->aj}{c:Option Prop}{d:aj}
  (ju:∀mu:Option Prop->aj->Prop,mu c d->lG ah s.loc o.op ρ mu) (al:Holds c)
  (qk:∀ {os:cu} {a:Act} {w:World},(∀x∈o.op.operands.toList,a6 (a8 aA os) os w (a.eval x) (bq s x))->∀x∈o.op.operands.toList,a6 (a8 aA os) os w (a.eval x) (ρ x))
  (hw:∀ {os:cu} {w:World} {x:Value} {d:aj},a6 (a8 aA os) os w x d->a6 (a8 aA os) os w x (wrap d)):
  kZ P aA aY n o ⟨fa o.dst (wrap d),ml ρ o.op.operands.toList,[],[]⟩ s E:=
 Pk aO aH aa ju al qk hw (fun dH mu af h=>Pg (fun x an k hk=>af k (Be an hk)) h)
theorem X8(aO:cS P ah=true)(aH: (ay ah 0).size=0)(aa:∀t,o.dst=some t->t<n){wrap:aj->aj}{c:Option Prop}{d:aj}
  (ju:∀mu:Option Prop->aj->Prop,mu c d->lG ah s.loc o.op ρ mu) (al:Holds c)
  (qk:∀ {os:cu} {a:Act} {w:World},(∀x∈o.op.operands.toList,a6 (a8 aA os) os w (a.eval x) (bq s x))->∀x∈o.op.operands.toList,a6 (a8 aA os) os w (a.eval x) (ρ x))
  (hw:∀ {os:cu} {w:World} {x:Value} {d:aj},a6 (a8 aA os) os w x d->a6 (a8 aA os) os w x (wrap d)):
  kZ P aA aY n o ⟨fa o.dst (wrap d),Hu o.op ρ,[],[]⟩ s E:=by
 refine Pk aO aH aa ju al qk hw (fun dH mu af h=> ?_);unfold Hu at af;split at af
 ·rename_i e;rw[e]at h⊢;exact h
 ·rename_i e;rw[e]at h⊢;exact h
 ·exact Pg (fun x an k hk=>af k (Be an hk)) h
theorem X9{f:Operand}{k:FuncId}{b2:List aj}{args:Array Operand}{dL:Array TypeId}{wrap:aj->aj}{K:bu->Prop}(aF:o.op= .call {callee:=.value f,args:=args,argTypes:=dL})(h:bT aA aY n os s a w)(aa:∀t,o.dst=some t->t<n)
  (lV:∀x∈o.op.operands.toList,a6 (a8 aA os) os w (a.eval x) (ρ x)) (jt:ρ f= .fn (.func k) b2)
  (hw:∀ {os:cu} {w:World} {x:Value} {d:aj},a6 (a8 aA os) os w x d->a6 (a8 aA os) os w x (wrap d))
  (ak:Dw P k (args.toList.map ρ++b2) s fun r s=>e0 s o.dst (wrap r) K):o.wp P a w (c8 aA aY n K) E:=by
 have aI:=lV f (by rw[aF];simp[Op.operands,Call.operands]);rw[jt]at aI;obtain⟨vs,ac,af,au⟩:=aI.p6;obtain⟨h1,ad⟩:=wJ (os:=os) (A:=a8 aA os) (w:=w) (a:=a) (l:=args.toList) (ρ:=ρ) rfl (fun x an=>lV x (by rw[aF];simp only[Op.operands,Call.operands,Array.toList_append,List.mem_append];exact .inr an)) af au;obtain⟨al,sf⟩:=OJ h h1 ad ak;unfold Oper.wp;rw[wI aF ac al];refine sf.mono fun e w' he=> ?_;obtain⟨v,r,aJ,s',rfl,ao,rj,hk⟩:=he;exact c8.put ao aa (hw rj) hk
theorem Pl{f:Operand}{k:FuncId}{b2:List aj}{args:Array Operand}{dL:Array TypeId}{wrap:aj->aj}{iY ck:List aj}{r:aj}(aF:o.op= .call {callee:=.value f,args:=args,argTypes:=dL})(aa:∀t,o.dst=some t->t<n)
  (lV:∀ {os:cu} {a:Act} {w:World},(∀x∈o.op.operands.toList,a6 (a8 aA os) os w (a.eval x) (bq s x))->∀x∈o.op.operands.toList,a6 (a8 aA os) os w (a.eval x) (ρ x)) (jt:ρ f= .fn (.func k) b2)
  (hw:∀ {os:cu} {w:World} {x:Value} {d:aj},a6 (a8 aA os) os w x d->a6 (a8 aA os) os w x (wrap d))
  (ju:∀dH,(∀d∈args.toList.map ρ++b2,∀k∈fR d,bB dH k=bB s.loc k)->∀hb:List aj->Prop,hb iY->p1 dH (args.toList.map ρ++b2) hb)
  (hle:lI iY ck) (ho:bg P k ck r) (ag:fm (args.toList.map ρ++b2)=[]\/s3 r=true):
  kZ P aA aY n o ⟨fa o.dst (wrap r),ml ρ o.op.operands.toList++b2.flatMap fR,[],[]⟩ s E:=by
 intro aJ s' a w ao he af _;refine X9 aF ao aa (lV (fun x an=>by rw[<-he x an];exact ao.bq x)) jt hw (wrap:=wrap) ?_;unfold Dw;refine ju _ (fun d lY k hk=>af k (.inl ?_)) _ ⟨ck,r,hle,ho,?_⟩
 ·rcases List.mem_append.1 lY with lY|lY
  ·obtain⟨x,an,rfl⟩:=List.mem_map.1 lY;refine List.mem_append.2 (.inl (Be (x:=x) ?_ hk));rw[aF];simp only[Op.operands,Call.operands,Array.toList_append,List.mem_append];exact .inr an
  ·exact List.mem_append.2 (.inr (List.mem_flatMap.2 ⟨d,lY,hk⟩))
 ·rcases ag with ag|ag
  ·rw[ag];exact tA
  ·cases fm (args.toList.map ρ++b2)with
   |nil=>exact tA
   |cons d ds=>simp only[ag];exact tA
theorem Ya(aO:cS P ah=true){t:TypeId}(aF:o.op= .alloc t)(aa:∀t,o.dst=some t->t<n)(ag: (ay ah t).size≠0)(aI:lJ s.loc idx=true):
  kZ P aA aY n o ⟨fa o.dst (.aP idx 0),[],[(idx,.cells t (ay ah t).zero)],[]⟩ s E:=by
 intro aJ s' a w ao he af hlen;obtain⟨ap,eB⟩:=sm aI;have eB:bB s'.loc idx= .bd:=(af idx (.inr ⟨_,List.mem_cons_self⟩)).trans eB;obtain⟨y,ab⟩:=sl ao eB (by omega);obtain⟨z,bE,rh,_⟩:=DX (A:=a8 aA aJ) (os:=aJ) (w:=w) aO ag;have au:=ao.wR (x:=.pointer (some ⟨w.heap.size,0,none⟩)) (bm:=.cells t (ay ah t).zero) (w':=w.alloc (.cells z.cells t)) ab (World.grownBy_alloc w _ none) (fun b ae=>by simp[bs]at ae;omega)
  (fun k aZ=>⟨w.heap.size,z.cells,rfl,dP.pr ao.fH (Nat.le_refl _),heap_alloc_new w _,rh.size,rh.dD,fun i v d ac aa=>(rh.gw i v d ac aa).wQ k aZ⟩)
 refine hB (x:=.pointer (some ⟨w.heap.size,0,none⟩)) (w':=w.alloc (.cells z.cells t)) ?_ (c8.put au aa (.aP (List.getElem?_set_self (List.getElem?_eq_some_iff.1 ab).1)) qj);simp only[execOp,aF,Instr.alloc,Sem.run_bind,bE,Result.andThen_ok,newVar,newRow,run_newObj,Sem.run_pure,World.alloc_eq]
end
open Go
section
variable {P:Program} {ah:c4} {aA:Nat->Prop} {aY:dP} {n:Nat} {os:cu} {s s':bu} {a:Act} {w:World} {o:Oper} {A:Nat->Prop} {B:dP} {ρ:Operand->aj} {loc dH:List aU} {Q:Option Prop->aj->Prop} {ops:Array Oper}
variable {E:Exit->Act->World->Prop} {idx:Nat}
theorem IQ{size:Nat}:∀ {l:List (Nat×Operand)} {es:List (List aj)} {K:List (List aj)->Prop},p4 ρ size l es K->∃er,K er/\∀ns,ns er->p4 ρ size l es ns
 | [],es,K,h=>⟨es,h,fun _ bb=>bb⟩
 | (i,x)::r,es,K,h=>by
  have h:=gv.1 h;split at h
  ·rename_i ae;obtain⟨er,h1,ad⟩:=IQ h;refine⟨er,h1,fun ns bb=> ?_⟩;unfold p4;refine gv.2 ?_;simp only[ae];exact ad ns bb
  ·exact h.elim
theorem bO.pW{A:Nat->Prop}{w:World}{a:Addr}{n av:Nat}{es:List (List aj)}{f:Bool}(h:bO A w (.slice (some a) n n) (.aq av es false)):bO A w (.slice (some a) n n) (.aq av es f):=by
 cases h with
 |aq xs aS al aT aI bZ aw ae bf cP an=>exact .aq xs aS al aT (fun _=>rfl) bZ aw ae bf cP an
theorem Yb(aO:cS P ah=true){t e:TypeId}{m:Nat}{parts:Array (Nat×Operand)}{K:List (List aj)->Prop}(aF:o.op= .buildSlice t m parts)(hk: (ay ah t).k= .dW e)(ag: (ay ah e).size≠0)(hle:m* (ay ah e).size<=16777216) 
  (aa:∀t,o.dst=some t->t<n) (ak:p4 (bq s) (ay ah e).size parts.toList (List.replicate m (ay ah e).zero) K):
  ∃es,K es/\∀f:Bool,kZ P aA aY n o ⟨fa o.dst (.aq (ay ah e).size es f),[],[],[]⟩ s E:=by
 obtain⟨es,oL,ju⟩:=IQ ak;refine⟨es,oL,?_⟩;intro f aJ s' a w h he af hlen;obtain⟨i,ab,bZ,gx,z,bE,kU,jO⟩:=oD aO ag;have hu:=jJ aO hk;obtain⟨h1,ad,aC⟩:=q6 (A:=a8 aA aJ) (w:=w) kU;have tm:nW (a8 aA aJ) aJ w z.cells (ay ah e).zero:=⟨by simpa using h1,ad,fun i v d ac aa=>.bA (aC i v d (by simpa using ac) aa)⟩
 have eh:=Nat.pos_of_ne_zero ag;have dR:=AO (N:=m) (m:=m) tm (fun i v d ac aa=>aC i v d (by simpa using ac) aa) (by omega) (Nat.le_refl _);rw[jO]at dR;have pt: (madeCells z.cells (m* (ay ah e).size)).toList.length=m* (ay ah e).size:=(Array.length_toList (xs:=madeCells z.cells (m* (ay ah e).size))).trans (size_madeCells _ _);rw[List.take_of_length_le (by rw[pt];exact Nat.le_refl _)]at dR;obtain⟨cells',er,ak,lN,iP,oM⟩:=Ea (a:=a) (os:=aJ) eh parts.toList _ _ dR (ρ:=bq s) (fun p au=>by
  have aT:p.2∈o.op.operands.toList:=by
   rw[aF];simp only[Op.operands,List.mem_map];exact⟨p,au,rfl⟩
  have:=h.bq p.2;rwa[he _ aT]at this) (ju (fun er=>er=es) rfl)
 subst ak;rw[List.length_replicate]at oM;have hC:cells'.size=m* (ay ah e).size:=by have:=iP.len;rw[oM]at this;simpa using this
 have aT:m<=maxLen:=by
  have ad:m*1<=m* (ay ah e).size:=Nat.mul_le_mul_left _ eh;simp only[maxLen];omega
 have bJ:=World.ownsRow_lit (base:=0) (e:=e) (size:=(ay ah e).size) w cells' m (Nat.zero_le _) aT hC;have ax:w.grownBy (w.alloc (.cells cells' e)) none:=World.grownBy_alloc w (.cells cells' e) none;have eg:jH (a8 aA aJ) aJ aY (w.alloc (.cells cells' e)) (.slice (some ⟨w.heap.size,0,none⟩) m m) (.row e (ay ah e).size er):=
  oG (fun b ae=>dP.pr h.fH (by simp[bs]at ae;omega)) (by rw[oM];exact bJ) eh (iP.b9 (cT.nq ax (fun _ _ h=>h)))
 have jL:bO (a8 aA aJ) (w.alloc (.cells cells' e)) (.slice (some ⟨w.heap.size,0,none⟩) m m) (.aq (ay ah e).size er false):=D6 eg (fun _ h=>h) (fun b ae ac=>by
  simp[bs]at ae;subst ae;rcases ac with ac| ⟨k,x,aK,hk,c2,b4⟩
  ·have:=h.yw ac;omega
  ·have:=((h.cp k x aK hk).gW c2 b4).2;omega)
 refine hB (x:=.slice (some ⟨w.heap.size,0,none⟩) m m) (w':=w.alloc (.cells cells' e)) ?_ (c8.put (h.nq ax) aa (.bA jL.pW) tA);have ra: (parts.map fun(i,x)=>(i,a.eval x)).toList=parts.toList.map fun p=>(p.1,a.eval p.2):=by cases parts;simp
 have uQ:¬(m* (ay ah e).size>2^24):=by omega
 by_cases rf:m* (ay ah e).size=0
 ·have uR:Instr.fill (fun i=>some (i* (ay ah e).size,(ay ah e).size)) (madeCells #[] (m* (ay ah e).size)) (parts.toList.map fun p=>(p.1,a.eval p.2))=some cells':=by
   rw[<-lN];congr 1;rw[rf];simp[madeCells]
  simp only[execOp,aF,Instr.buildSlice,Sem.run_bind,run_underlying hu,Result.andThen_ok,hM aO ag,if_neg uQ,if_pos rf,Sem.run_pure,ra];simp only[madeCells]at uR;simp only[uR,Sem.run_bind,newRow,run_newObj,Result.andThen_ok,Sem.run_pure,World.alloc_eq]
 ·have rh: (zeroValue e).run P w= .ok z w:=by simp[zeroValue,typeInfo,ab,bE]
  simp only[madeCells]at lN;simp only[execOp,aF,Instr.buildSlice,Sem.run_bind,run_underlying hu,Result.andThen_ok,hM aO ag,if_neg uQ,if_neg rf,rh,Sem.run_pure,ra];simp only[lN,Sem.run_bind,newRow,run_newObj,Result.andThen_ok,Sem.run_pure,World.alloc_eq]
theorem Pm(aO:cS P ah=true){t e:TypeId}{m:Nat}{parts:Array (Nat×Operand)}{K:List (List aj)->Prop}(aF:o.op= .buildSlice t m parts)(hk: (ay ah t).k= .dW e)(ag: (ay ah e).size≠0)(hle:m* (ay ah e).size<=16777216) 
  (aI:lJ s.loc idx=true) (aa:∀t,o.dst=some t->t<n) (ak:p4 (bq s) (ay ah e).size parts.toList (List.replicate m (ay ah e).zero) K):
  ∃es,K es/\kZ P aA aY n o ⟨fa o.dst (.own idx),[],[(idx,.row e (ay ah e).size es)],[]⟩ s E:=by
 obtain⟨es,oL,ju⟩:=IQ ak;refine⟨es,oL,?_⟩;intro aJ s' a w h he af hlen;obtain⟨ap,eB⟩:=sm aI;have eB:bB s'.loc idx= .bd:=(af idx (.inr ⟨_,List.mem_cons_self⟩)).trans eB;obtain⟨y,Bf⟩:=sl h eB (by omega);obtain⟨i,ab,bZ,gx,z,bE,kU,jO⟩:=oD aO ag;have hu:=jJ aO hk;obtain⟨h1,ad,aC⟩:=q6 (A:=a8 aA aJ) (w:=w) kU;have tm:nW (a8 aA aJ) aJ w z.cells (ay ah e).zero:=⟨by simpa using h1,ad,fun i v d ac aa=>.bA (aC i v d (by simpa using ac) aa)⟩
 have eh:=Nat.pos_of_ne_zero ag;have dR:=AO (N:=m) (m:=m) tm (fun i v d ac aa=>aC i v d (by simpa using ac) aa) (by omega) (Nat.le_refl _);rw[jO]at dR;have pt: (madeCells z.cells (m* (ay ah e).size)).toList.length=m* (ay ah e).size:=(Array.length_toList (xs:=madeCells z.cells (m* (ay ah e).size))).trans (size_madeCells _ _);rw[List.take_of_length_le (by rw[pt];exact Nat.le_refl _)]at dR;obtain⟨cells',er,ak,lN,iP,oM⟩:=Ea (a:=a) (os:=aJ) eh parts.toList _ _ dR (ρ:=bq s) (fun p au=>by
  have aT:p.2∈o.op.operands.toList:=by
   rw[aF];simp only[Op.operands,List.mem_map];exact⟨p,au,rfl⟩
  have:=h.bq p.2;rwa[he _ aT]at this) (ju (fun er=>er=es) rfl)
 subst ak;rw[List.length_replicate]at oM;have hC:cells'.size=m* (ay ah e).size:=by have:=iP.len;rw[oM]at this;simpa using this
 have aT:m<=maxLen:=by
  have ad:m*1<=m* (ay ah e).size:=Nat.mul_le_mul_left _ eh;simp only[maxLen];omega
 have bJ:=World.ownsRow_lit (base:=0) (e:=e) (size:=(ay ah e).size) w cells' m (Nat.zero_le _) aT hC;have ax:w.grownBy (w.alloc (.cells cells' e)) none:=World.grownBy_alloc w (.cells cells' e) none;have au:=h.wR (w':=w.alloc (.cells cells' e)) (x:=.slice (some ⟨w.heap.size,0,none⟩) m m) (bm:=.row e (ay ah e).size er) Bf ax (fun b ae=>by simp[bs]at ae;omega)
  (fun k aZ=>oG (fun b ae=>dP.pr h.fH (by simp[bs]at ae;omega)) (by rw[oM];exact bJ) eh (iP.b9 k))
 refine hB (x:=.slice (some ⟨w.heap.size,0,none⟩) m m) (w':=w.alloc (.cells cells' e)) ?_ (c8.put au aa (.own (List.getElem?_set_self (List.getElem?_eq_some_iff.1 Bf).1) rfl) qj);have ra: (parts.map fun(i,x)=>(i,a.eval x)).toList=parts.toList.map fun p=>(p.1,a.eval p.2):=by cases parts;simp
 have uQ:¬(m* (ay ah e).size>2^24):=by omega
 by_cases rf:m* (ay ah e).size=0
 ·have uR:Instr.fill (fun i=>some (i* (ay ah e).size,(ay ah e).size)) (madeCells #[] (m* (ay ah e).size)) (parts.toList.map fun p=>(p.1,a.eval p.2))=some cells':=by
   rw[<-lN];congr 1;rw[rf];simp[madeCells]
  simp only[execOp,aF,Instr.buildSlice,Sem.run_bind,run_underlying hu,Result.andThen_ok,hM aO ag,if_neg uQ,if_pos rf,Sem.run_pure,ra];simp only[madeCells]at uR;simp only[uR,Sem.run_bind,newRow,run_newObj,Result.andThen_ok,Sem.run_pure,World.alloc_eq]
 ·have rh: (zeroValue e).run P w= .ok z w:=by simp[zeroValue,typeInfo,ab,bE]
  simp only[madeCells]at lN;simp only[execOp,aF,Instr.buildSlice,Sem.run_bind,run_underlying hu,Result.andThen_ok,hM aO ag,if_neg uQ,if_neg rf,rh,Sem.run_pure,ra];simp only[lN,Sem.run_bind,newRow,run_newObj,Result.andThen_ok,Sem.run_pure,World.alloc_eq]
theorem Yc(aO:cS P ah=true){t e:TypeId}{l c:Operand}{uN qb:IntKind}{m N:Nat}(aF:o.op= .makeSlice t l c)(hk: (ay ah t).k= .dW e)(ag: (ay ah e).size≠0)(aI:lJ s.loc idx=true)
  (aa:∀t,o.dst=some t->t<n) (el:bq s l= .v (.int uN m)) (h4:bq s c= .v (.int qb N)) (tl:m<=N) (ae:N* (ay ah e).bytes<=140737488355328) (gg:N<=maxLen):
  kZ P aA aY n o ⟨fa o.dst (.own idx),[],[(idx,.row e (ay ah e).size (List.replicate m (ay ah e).zero))],[]⟩ s E:=by
 intro aJ s' a w h he fG aj3;obtain⟨ap,eB⟩:=sm aI;have eB:bB s'.loc idx= .bd:=(fG idx (.inr ⟨_,List.mem_cons_self⟩)).trans eB;obtain⟨y,Bf⟩:=sl h eB (by omega);have af:a.eval l= .int uN m:=by
  have:=h.bq l;rw[he l (by rw[aF];simp[Op.operands]),el]at this;exact this.h2.1
 have al:a.eval c= .int qb N:=by
  have:=h.bq c;rw[he c (by rw[aF];simp[Op.operands]),h4]at this;exact this.h2.1
 obtain⟨i,ab,bZ,gx,z,bE,kU,jO⟩:=oD aO ag;have hu:=jJ aO hk;obtain⟨h1,ad,aC⟩:=q6 (A:=a8 aA aJ) (w:=w) kU;have tm:nW (a8 aA aJ) aJ w z.cells (ay ah e).zero:=⟨by simpa using h1,ad,fun i v d ac aa=>.bA (aC i v d (by simpa using ac) aa)⟩
 have uO: (N:Int)<=9223372036854775807:=by simp only[maxLen]at gg;omega
 have cW:=run_make (P:=P) w t e i z hu ab bE uN qb m N (by omega) (by omega) (by
  have: ((i.bytes*N:Nat):Int)<=281474976710656:=by rw[gx,Nat.mul_comm];omega
  rwa[Int.natCast_mul]at this) uO
 simp only[Int.toNat_natCast,bZ]at cW;have eh:=Nat.pos_of_ne_zero ag;have dR:=AO (N:=N) (m:=m) tm (fun i v d ac aa=>aC i v d (by simpa using ac) aa) (by omega) tl;rw[jO]at dR;have hlen: (List.replicate m (ay ah e).zero).length=m:=by simp
 have au:=h.wR (w':=w.alloc (.cells (madeCells z.cells (N* (ay ah e).size)) e)) (x:=.slice (some ⟨w.heap.size,0,none⟩) m N) (bm:=.row e (ay ah e).size (List.replicate m (ay ah e).zero)) Bf (World.grownBy_alloc w _ none) (fun b ae=>by simp[bs]at ae;omega)
  (fun k aZ=>oG (fun b ae=>dP.pr h.fH (by simp[bs]at ae;omega)) (xs:=(madeCells z.cells (N* (ay ah e).size)).toList.take (m* (ay ah e).size)) ⟨by rw[dR.len],.inr ⟨w.heap.size,N,_,by rw[hlen],Nat.zero_le _,heap_alloc_new w _,by rw[hlen];exact tl,gg,size_madeCells _ _,by rw[hlen]⟩⟩ eh (dR.b9 k))
 refine hB (x:=.slice (some ⟨w.heap.size,0,none⟩) m N) (w':=w.alloc (.cells (madeCells z.cells (N* (ay ah e).size)) e)) ?_ (c8.put au aa (.own (List.getElem?_set_self (List.getElem?_eq_some_iff.1 Bf).1) rfl) qj);simp only[execOp,aF,af,al,Sem.run_bind,cW,Result.andThen_ok,Sem.run_pure]
theorem Pn{d:aj}(h:nM d=true):kS d=[]:=by
 cases d
 case fn f b2=>
  simp only[nM,List.all_eq_true]at h;simp only[kS,List.filter_eq_nil_iff];intro d aa;have:=h d aa;cases d<;>simp[kf,Hi]at this⊢
 all_goals first|rfl| (simp[nM]at h)
theorem Yd{d:aj}(h:mH (cN d)=true):fm [d]=[]:=by
 have aT:=ww h;by_cases aa:∃cs,d= .agg cs
 ·obtain⟨cs,rfl⟩:=aa;simp only[fm,List.append_nil,List.flatMap_eq_nil_iff];exact fun e he=>Pn (aT e he)
 ·have h1:cN d=[d]:=by cases d<;>first|rfl|exact absurd ⟨_,rfl⟩ aa
  have ad:fm [d]=kS d:=by cases d<;>first|exact absurd ⟨_,rfl⟩ aa|simp[fm]
  rw[ad];exact Pn (aT d (by rw[h1];simp))
theorem Ye(aO:cS P ah=true){t:TypeId}{x y:Operand}{d:aj}{K:dY->Prop}(aF:o.op= .store t x y)(aa:∀t,o.dst=some t->t<n)(ez:bq s y=d)(h1:∀b bD,d≠ .bP b bD)(ad:∀l,d≠ .a1 l)(aC:d≠ .aW)(ak:Hp ah s o.dst t x d K):∃bl,K bl/\kZ P aA aY n o bl s E:=by
 have mk:∀ (bl:dY),(∀s':bu,bq s' x=bq s x->bq s' y=d->(∀k,(k∈bl.ip\/bl.cp k)->bB s'.loc k=bB s.loc k)->wg ah s' o.dst t x y d (fun mT=>mT=bl.iK s'))->kZ P aA aY n o bl s E:=by
  intro bl jQ aJ s' a w ao he af hlen;have az:=he x (by rw[aF];simp[Op.operands]);have aG:=(he y (by rw[aF];simp[Op.operands])).trans ez;exact OK aO aF ao aa aG h1 ad aC (jQ s' az aG af)
 unfold Hp at ak;split at ak
 ·exact ak.elim
 ·rename_i ag;obtain⟨aj4,Bg⟩:=Nat.exists_eq_succ_of_ne_zero ag;rw[Bg]at ak;split at ak
  ·rename_i i off ex;split at ak
   ·rename_i c1 cs af;split at ak
    ·exact ak.elim
    ·rename_i ae;refine⟨_,sV.1 ak,mk _ (fun s' az aG fG=> ?_)⟩;have fh:=(fG i (.inl (by simp))).trans af;unfold wg;simp only[az,ex,fh,ae,Bg];exact sV.2 qj
   ·exact ak.elim
  ·rename_i i off ex;split at ak
   ·rename_i c1 cs af;split at ak
    ·rename_i ae;refine⟨_,ak.2,mk _ (fun s' az aG fG=> ?_)⟩;have fh:=(fG i (.inl (by simp))).trans af;unfold wg;simp only[az,ex,fh,ae,Bg];exact⟨ak.1,qj⟩
    ·exact ak.elim
   ·exact ak.elim
  ·rename_i i k off ex;split at ak
   ·rename_i e av es au af;obtain⟨Yf,tq,ak⟩:=ak;split at ak
    ·rename_i ae;refine⟨_,ak,mk _ (fun s' az aG fG=> ?_)⟩;have fh:=(fG i (.inl (by simp))).trans af;unfold wg;simp only[az,ex,Bg];rw[Yd au];show fl (bq s' y) (fun Yg=>Ak ah s' o.dst t (bq s' x) Yg _);refine gv.2 ?_;rw[aG,az,ex];unfold Ak;simp only[au,fh];refine⟨Yf,tq,?_⟩;simp only[Bg,ae];exact qj
    ·exact ak.elim
   ·exact ak.elim
  ·exact ak.elim
theorem Po{e:TypeId}{d:aj}{K:List (List aj)->Bool->Prop}(h:p5 ah e loc d K):∃ys km,K ys km/\∀dH,(∀k∈fR d,bB dH k=bB loc k)->∀ns:List (List aj)->Bool->Prop,ns ys km->p5 ah e dH d ns:=by
 cases d
 case ar=>exact⟨_,_,h,fun _ _ _ bb=>bb⟩
 case aq av es f=>
  unfold p5 at h;simp only at h;split at h
  ·rename_i ae;refine⟨_,_,h,fun dH _ ns bb=> ?_⟩;unfold p5;simp only[ae];exact bb
  ·exact h.elim
 case own j=>
  unfold p5 at h;simp only at h;split at h
  ·rename_i aG av es af;split at h
   ·rename_i ae;refine⟨_,_,h,fun dH gi ns bb=> ?_⟩;have:=(gi j (by simp[fR,nn])).trans af;unfold p5;simp only[this,ae];exact bb
   ·exact h.elim
  ·exact h.elim
 all_goals exact h.elim
theorem Pp{t:TypeId}{x:Operand}{d:aj}{ip:List Nat}(aF:o.op= .box t x)(aa:∀t,o.dst=some t->t<n)(aI:lJ s.loc idx=true)(e:bq s x=d)(h1:∀b bD,d≠ .bP b bD)(ad:∀l,d≠ .a1 l)(aC:d≠ .aW):
  kZ P aA aY n o ⟨fa o.dst (.aP idx 0),ip,[(idx,.cells t (cN d))],[]⟩ s E:=by
 intro aJ s' a w ao he af hlen;obtain⟨ap,eB⟩:=sm aI;have eB:bB s'.loc idx= .bd:=(af idx (.inr ⟨_,List.mem_cons_self⟩)).trans eB;obtain⟨y,ab⟩:=sl ao eB (by omega);have an:=ao.bq x;rw[he x (by rw[aF];simp[Op.operands]),e]at an;obtain⟨kV,bf,au⟩:=an.cells h1 ad aC;have au:=ao.wR (x:=.pointer (some ⟨w.heap.size,0,none⟩)) (bm:=.cells t (cN d)) (w':=w.alloc (.cells (a.eval x).cells t)) ab (World.grownBy_alloc w _ none) (fun b ae=>by simp[bs]at ae;omega)
  (fun k aZ=>⟨w.heap.size,(a.eval x).cells,rfl,dP.pr ao.fH (Nat.le_refl _),heap_alloc_new w _,by simpa using kV,bf,fun i v d ac aa=>(au i v d (by simpa using ac) aa).wQ k aZ⟩)
 refine hB (x:=.pointer (some ⟨w.heap.size,0,none⟩)) (w':=w.alloc (.cells (a.eval x).cells t)) ?_ (c8.put au aa (.aP (List.getElem?_set_self (List.getElem?_eq_some_iff.1 ab).1)) qj);simp only[execOp,aF,Instr.box,Sem.run_bind,Result.andThen_ok,newVar,newRow,run_newObj,Sem.run_pure,World.alloc_eq]
theorem Yh(aO:cS P ah=true){t c1 e:TypeId}{x y:Operand}{args:Array Operand}{dL:Array TypeId}{K:dY->Nat->Prop}(aF:o.op= .call {callee:=.builtin .append,args:=args,argTypes:=dL})(aZ:args.toList=[x,y])(gJ:dL.toList=[t,c1])(jP:t=c1)
  (hk: (ay ah t).k= .dW e) (ag: (ay ah e).size≠0) (aa:∀t,o.dst=some t->t<n) (ak:Hq ah e s idx o.dst (bq s x) (bq s y) K):∃bl i,K bl i/\kZ P aA aY n o bl s E:=by
 unfold Hq at ak;obtain⟨ys,km,ak,lO⟩:=Po ak;have eh:=Nat.pos_of_ne_zero ag;have u1:x∈o.op.operands.toList:=by rw[aF];simp[Op.operands,Call.operands];rw[<-Array.mem_toList_iff,aZ];simp
 have u2:y∈o.op.operands.toList:=by rw[aF];simp[Op.operands,Call.operands];rw[<-Array.mem_toList_iff,aZ];simp
 have EJ:∀ {aJ:cu} {s':bu} {a:Act} {w:World},bT aA aY n aJ s' a w->bq s' y=bq s y->(∀k∈fR (bq s y),bB s'.loc k=bB s.loc k)->D3 (a8 aA aJ) w (ay ah e).size (a.eval y) ys:=by
  intro aJ s' a w ao he af;have h1:=lO s'.loc af (fun Yi Yj=>Yi=ys/\Yj=km) ⟨rfl,rfl⟩;rw[ao.loc]at h1;have bt:=ao.bq y;rw[he]at bt;obtain⟨_,_,⟨rfl,rfl⟩,ad⟩:=HX ag ao.cp bt h1;exact ad
 have exec:=fun {a:Act} {w:World} {r:Value} {w':World}=>NX (P:=P) (w:=w) (a:=a) (r:=r) (w':=w') aF aZ gJ jP;split at ak
 ·-- nothing
  rename_i ex;split at ak
  ·rename_i aI;obtain⟨eO,ak⟩:=ak;refine⟨_,_,ak,fun aJ s' a w ao he af hlen=> ?_⟩;obtain⟨ap,eB⟩:=sm aI;have eB:bB s'.loc idx= .bd:=(af idx (.inr ⟨_,List.mem_cons_self⟩)).trans eB;obtain⟨z,ab⟩:=sl ao eB (by omega);have an:=ao.bq x;rw[he x u1,ex]at an;obtain⟨v',w',xs,cW,bJ,ax,ae,dR⟩:=NZ (P:=P) (ty:=o.type) aO hk ag eO (EJ ao (he y u2) (fun k hk=>af k (.inl hk)));have au:=ao.wR (x:=v') (bm:=.row e (ay ah e).size ys) ab ax ae (fun k aZ=>oG (fun b b4=>dP.pr ao.fH (ae b b4)) bJ eh (dR.b9 k));exact hB (exec (by rw[an.mo];exact cW)) (c8.put au aa (.own (List.getElem?_set_self (List.getElem?_eq_some_iff.1 ab).1) (r8 bJ)) qj)
  ·exact ak.elim
 ·-- a row of yC WA own
  rename_i i ex;split at ak
  ·rename_i a7 Og eP EK;split at ak
   ·rename_i EL;simp only[Bool.and_eq_true]at EL;have kD:=Nat.eq_of_beq_eq_true EL.1.1;have fq:=Nat.eq_of_beq_eq_true EL.1.2;subst kD;subst fq;have aI:=EL.2;obtain⟨eO,ak⟩:=ak;refine⟨_,_,ak,fun aJ s' a w ao he af hlen=> ?_⟩;obtain⟨ap,eB⟩:=sm aI;have eB:bB s'.loc idx= .bd:=(af idx (.inr ⟨_,List.mem_cons_of_mem _ List.mem_cons_self⟩)).trans eB;obtain⟨z,bF⟩:=sl ao eB (by omega);have Pq:=(af i (.inl (by simp))).trans EK;rw[ao.loc]at Pq;obtain⟨H2,ab⟩:=iM Pq (by simp);have an:=ao.bq x;rw[he x u1,ex]at an;have kk:=an.nS ab;obtain⟨xs,bJ,_,gY⟩:=r7 (ao.cp _ _ _ ab);obtain⟨v',w',HZ,cW,qa,ax,ae,dR⟩:=Wz (P:=P) (ty:=o.type) aO hk ag bJ gY eO (EJ ao (he y u2) (fun k hk=>af k (.inl (by simp[hk]))));obtain⟨au,kW⟩:=ao.X4 ab bF ax ae qa eh dR;exact hB (exec (by rw[kk];exact cW)) (c8.put au aa (.own kW (r8 qa)) X6)
   ·exact ak.elim
  ·exact ak.elim
 ·-- a list WB spare room
  rename_i av es ex;split at ak
  ·rename_i ae;have ae:=Nat.eq_of_beq_eq_true ae;subst ae;obtain⟨eO,ak⟩:=ak;split at ak
   ·split at ak
    ·rename_i aI;obtain⟨oH,ak⟩:=ak;refine⟨_,_,ak,fun aJ s' a w ao he af hlen=> ?_⟩;obtain⟨ap,eB⟩:=sm aI;have eB:bB s'.loc idx= .bd:=(af idx (.inr ⟨_,List.mem_cons_self⟩)).trans eB;obtain⟨z,ab⟩:=sl ao eB (by omega);have an:=ao.bq x;rw[he x u1,ex]at an;obtain⟨v',w',xs,cW,bJ,ax,ae,dR⟩:=N0 (P:=P) (ty:=o.type) aO hk ag an.kT eO (EJ ao (he y u2) (fun k hk=>af k (.inl hk))) oH;have au:=ao.wR (x:=v') (bm:=.row e (ay ah e).size (es++ys)) ab ax ae (fun k aZ=>oG (fun b b4=>dP.pr ao.fH (ae b b4)) bJ eh (dR.b9 k));exact hB (exec cW) (c8.put au aa (.own (List.getElem?_set_self (List.getElem?_eq_some_iff.1 ab).1) (r8 bJ)) qj)
    ·exact ak.elim
   ·rcases ak with⟨oH,ak⟩|ak
    ·split at ak
     ·rename_i aI;refine⟨_,_,ak,fun aJ s' a w ao he af hlen=> ?_⟩;obtain⟨ap,eB⟩:=sm aI;have eB:bB s'.loc idx= .bd:=(af idx (.inr ⟨_,List.mem_cons_self⟩)).trans eB;obtain⟨z,ab⟩:=sl ao eB (by omega);have an:=ao.bq x;rw[he x u1,ex]at an;obtain⟨v',w',xs,cW,bJ,ax,ae,dR⟩:=N0 (P:=P) (ty:=o.type) aO hk ag an.kT eO (EJ ao (he y u2) (fun k hk=>af k (.inl hk))) oH;have au:=ao.wR (x:=v') (bm:=.row e (ay ah e).size (es++ys)) ab ax ae (fun k aZ=>oG (fun b b4=>dP.pr ao.fH (ae b b4)) bJ eh (dR.b9 k));exact hB (exec cW) (c8.put au aa (.own (List.getElem?_set_self (List.getElem?_eq_some_iff.1 ab).1) (r8 bJ)) qj)
     ·exact ak.elim
    ·refine⟨_,_,ak,fun aJ s' a w ao he af hlen=> ?_⟩;have an:=he x u1;rw[ex]at an;refine N1 aO aF aZ gJ jP hk ag ao aa ?_;rw[an,he y u2];unfold Dx;refine lO s'.loc (fun k hk=>af k (.inl hk)) _ ?_;simp only[Nat.beq_refl];exact⟨eO,tA⟩
  ·exact ak.elim
 ·exact ak.elim
theorem Yk(aO:cS P ah=true){t c1 e:TypeId}{x y:Operand}{args:Array Operand}{dL:Array TypeId}{K:dY->Prop}(aF:o.op= .call {callee:=.builtin .copy,args:=args,argTypes:=dL})(aZ:args.toList=[x,y])(gJ:dL.toList=[t,c1])(jP:t=c1)
  (hk: (ay ah t).k= .dW e) (ag: (ay ah e).size≠0) (aa:∀t,o.dst=some t->t<n) (ak:Hr ah e s o.dst (bq s x) (bq s y) K):∃bl,K bl/\kZ P aA aY n o bl s E:=by
 unfold Hr at ak;obtain⟨ys,km,ak,lO⟩:=Po ak;have u1:x∈o.op.operands.toList:=by rw[aF];simp[Op.operands,Call.operands];rw[<-Array.mem_toList_iff,aZ];simp
 have u2:y∈o.op.operands.toList:=by rw[aF];simp[Op.operands,Call.operands];rw[<-Array.mem_toList_iff,aZ];simp
 split at ak
 ·rename_i ex;refine⟨_,ak,fun aJ s' a w ao he af hlen=> ?_⟩;refine H8 aO aF aZ gJ jP hk ag ao aa ?_;rw[he x u1,he y u2,ex];unfold Aj;exact lO s'.loc (fun k hk=>af k (.inl hk)) _ tA
 ·rename_i i ex;split at ak
  ·rename_i a7 Og eP EK;split at ak
   ·rename_i ae;refine⟨_,ak,fun aJ s' a w ao he af hlen=> ?_⟩;refine H8 aO aF aZ gJ jP hk ag ao aa ?_;rw[he x u1,he y u2,ex];unfold Aj;refine lO s'.loc (fun k hk=>af k (.inl (by simp[hk]))) _ ?_;have:=(af i (.inl (by simp))).trans EK;simp only[this,ae];simp only[Bool.and_eq_true]at ae;have kD:=Nat.eq_of_beq_eq_true ae.1;subst kD;exact qj
   ·exact ak.elim
  ·exact ak.elim
 ·exact ak.elim
theorem IR:∀ (cm:List Nat) (yW l:List aU),nP l (cm.zip yW)=mK l cm yW
 | [],yW,l=>by cases yW<;>rfl
 |i::r,[],l=>rfl
 |i::r,o::yW,l=>by
  rw[List.zip_cons_cons,nP,mK];exact IR r yW _
theorem Pr{ρ:Nat->Nat}:∀ {p:List Nat} {q:List aU},(∀i∈p,bB dH i=bB loc i)->q0 loc ρ p q->q0 dH ρ p q
 | [],[],_,h=>h
 | [],_::_,_,h=>h.elim
 |_::_,[],_,h=>h.elim
 |i::p,o::q,af,h=>⟨by rw[af i (by simp)];exact h.1,Pr (fun i ab=>af i (by simp[ab])) h.2⟩
theorem IS:∀ {cA:List Bool} {L bC:List aU} {k:Nat},uy cA L bC=true->k<cA.length->cA[k]?≠some true->(∃e av es,L[k]?=some (.row e av es))/\bC[k]?=some .gone
 | [],L,bC,k,_,h,_=>by simp at h
 |true::cA,o::L,aK::bC,0,_,_,h=>by simp at h
 |true::cA,o::L,aK::bC,k+1,h,hk,aS=>IS (cA:=cA) (L:=L) (bC:=bC) (k:=k) (by simpa[uy]using h) (by simpa using hk) (by simpa using aS)
 |true::cA,[],bC,k,h,_,_=>by simp[uy]at h
 |true::cA,o::L,[],k,h,_,_=>by simp[uy]at h
 |false::cA,L,bC,k,h,hk,aS=>by
  unfold uy at h;split at h
  ·rename_i e;cases e
  ·rename_i e;cases e;cases k with
   |zero=>exact⟨⟨_,_,_,rfl⟩,rfl⟩
   |succ k=>exact IS (k:=k) h (by simpa using hk) (by simpa using aS)
  ·rename_i e;cases e
  ·cases h
theorem Ps{f:Operand}{k:FuncId}{b2:List aj}{args:Array Operand}{dL:Array TypeId}{K:dY->Nat->Prop}(aF:o.op= .call {callee:=.value f,args:=args,argTypes:=dL})(aa:∀t,o.dst=some t->t<n)(jt:bq s f= .fn (.func k) b2)
  (h:Hs P k (args.toList.map (bq s)++b2) s idx o.dst (ml (bq s) o.op.operands.toList) K):∃bl i,K bl i/\kZ P aA aY n o bl s E:=by
 obtain⟨pass,L,im,kept,bC,d,ho,oJ,sb,A1,ak⟩:=h;simp only[Bool.and_eq_true]at oJ;obtain⟨⟨⟨⟨⟨⟨⟨lS,r9⟩,gZ⟩,ap⟩,sa⟩,wD⟩,bQ⟩,Bh⟩:=oJ;refine⟨_,_,ak,fun aJ s' a w ao he af hlen=> ?_⟩;simp only[List.all_eq_true]at ap Bh;obtain⟨q8,AY,_⟩:=ts (k:=0) lS;obtain⟨dk,_⟩:=AV sb;obtain⟨iL,A2⟩:=El A1;generalize lO:bz idx (bC.length-L.length)=news at *
 have oN:news.length=bC.length-L.length:=by rw[<-lO,Ej]
 have Yl:∀i∈pass++news,∃bm,(i,bm)∈ (pass++news).zip (bC.map (fw (cO (pass++news)))):=by
  intro i ab;obtain⟨q,bF,rfl⟩:=List.getElem_of_mem ab;have tw:q<(bC.map (fw (cO (pass++news)))).length:=by
   simp only[List.length_append,List.length_map]at bF⊢;omega
  exact⟨_,List.mem_of_getElem? (i:=q) (List.getElem?_zip_eq_some.2 ⟨List.getElem?_eq_getElem bF,List.getElem?_eq_getElem tw⟩)⟩
 have qc:∀i∈pass++news,bB s'.loc i=bB s.loc i:=fun i ab=>af i (.inr (Yl i ab));have ap:∀i∈pass,i<s.loc.length:=fun i ab=>Nat.le_of_ble_eq_true (ap i ab);have oM:=ao.len;have kI:∀i∈news,∃y,aJ[i]?=some (y,.bd):=by
  intro i ab;obtain⟨h1,ad⟩:=sm (Bh i ab);exact sl ao ((qc i (List.mem_append.2 (.inr ab))).trans ad) (by omega)
 have EM:=Pr (dH:=s'.loc) (fun i ab=>qc i (List.mem_append.2 (.inl ab))) sb;have lV:∀x∈o.op.operands.toList,a6 (a8 aA aJ) aJ w (a.eval x) (bq s x):=fun x an=>by rw[<-he x an];exact ao.bq x
 have aI:=lV f (by rw[aF];simp[Op.operands,Call.operands]);rw[jt]at aI;obtain⟨vs,ac,gT,au⟩:=aI.p6;obtain⟨h1,ad⟩:=wJ (os:=aJ) (A:=a8 aA aJ) (w:=w) (a:=a) (l:=args.toList) (ρ:=bq s) rfl (fun x an=>lV x (by rw[aF];simp only[Op.operands,Call.operands,Array.toList_append,List.mem_append];exact .inr an)) gT au;have core:=Ee (pass:=pass) (news:=news) (J:=[]) ao ho (fun k i hk aS=>.inr (IS bQ (by rw[q8,<-dk];exact(List.getElem?_eq_some_iff.1 hk).1) aS)) lS r9 (AR gZ) (fun i ab=>by have:=ap i ab;omega) kI (by omega) wD sa EM (et:=args.toList.map a.eval++vs) (by rw[h1,iL];simp) (fun i v d ac aa=>by
  have dG:=(List.getElem?_eq_some_iff.1 ac).1;have mS:=List.getElem?_eq_getElem (l:=args.toList.map (bq s)++b2) (i:=i) (by omega);have hS: (im.map (jI (cO (pass++news))))[i]?=some (jI (cO (pass++news)) d):=by rw[List.getElem?_map,aa];rfl
  exact((ad i v _ ac mS).gk (A2 i _ _ mS hS)).b9 (cT.gk (fun b ae=>to ae)) (.refl _))
 unfold Oper.wp;rw[wI aF ac ho.1];refine core.mono fun e w' an=> ?_;obtain⟨v,jb,rfl,hc,wT⟩:=an;refine c8.put hc aa wT ?_;have az:Ai s' (pass++news) [] bC= ⟨s'.env,mK s'.loc (pass++news) (bC.map (fw (cO (pass++news))))⟩:=rfl;rw[az,<-IR];refine wx.2 ?_;cases o.dst<;>rfl
theorem IT{ρ:Nat->Nat}:∀ {p:List Nat} {q:List aU},yg loc ρ p q->q0 loc ρ p q
 | [],[],_=>trivial
 | [],_::_,h=>h.elim
 |_::_,[],h=>h.elim
 |i::p,o::q,h=>⟨by rw[h.1];exact .refl,IT h.2⟩
theorem Pt{ρ:Nat->Nat}:∀ {p:List Nat} {q:List aU},(∀i∈p,bB dH i=bB loc i)->yg loc ρ p q->yg dH ρ p q
 | [],[],_,h=>h
 | [],_::_,_,h=>h.elim
 |_::_,[],_,h=>h.elim
 |i::p,o::q,af,h=>⟨by rw[af i (by simp)];exact h.1,Pt (fun i ab=>af i (by simp[ab])) h.2⟩
theorem Pu{ρ:Nat->Nat}:∀ {p:List Nat} {q:List aU} {l:List aU},(∀i∈p,i<l.length)->yg l ρ p q->mK l p (q.map (fw ρ))=l
 | [],[],_,_,_=>rfl
 | [],_::_,_,_,h=>h.elim
 |_::_,[],_,_,h=>h.elim
 |i::p,o::q,l,af,h=>by
  rw[List.map_cons,mK];have:e1 l i (fw ρ o)=l:=by
   rw[<-h.1,kj,jn];have:=af i (by simp);rw[List.getElem?_eq_getElem this];simp
  rw[this];exact Pu (fun i ab=>af i (by simp[ab])) h.2
theorem Ym{K:dY->Nat->Prop}(aa:∀t,o.dst=some t->t<n)(h:Hv P o idx s K):∃bl i,K bl i/\kZ P aA aY n o bl s E:=by
 unfold Hv at h;split at h
 case h_2=>exact h.elim
 rename_i f args dL aF;split at h
 case h_2=>exact h.elim
 rename_i k b2 jt;have h:=tc h;obtain⟨pass,L,im,kept,d,ho,oJ,sb,A1,ak⟩:=h;simp only[Bool.and_eq_true]at oJ;obtain⟨⟨⟨⟨⟨⟨lS,r9⟩,gZ⟩,ap⟩,sa⟩,wD⟩,bQ⟩:=oJ;refine⟨_,_,ak,fun aJ s' a w ao he af hlen=> ?_⟩;simp only[List.all_eq_true]at ap bQ;obtain⟨q8,AY,_⟩:=ts (k:=0) lS;obtain⟨dk,_⟩:=AV (IT sb);obtain⟨iL,A2⟩:=El A1;have qc:∀i∈pass,bB s'.loc i=bB s.loc i:=fun i ab=>af i (.inl (List.mem_append.2 (.inr ab)));have ap:∀i∈pass,i<s.loc.length:=fun i ab=>Nat.le_of_ble_eq_true (ap i ab);have oM:=ao.len;have EM:=Pt (dH:=s'.loc) qc sb;have lV:∀x∈o.op.operands.toList,a6 (a8 aA aJ) aJ w (a.eval x) (bq s x):=fun x an=>by rw[<-he x an];exact ao.bq x
 have aI:=lV f (by rw[aF];simp[Op.operands,Call.operands]);rw[jt]at aI;obtain⟨vs,ac,gT,au⟩:=aI.p6;obtain⟨h1,ad⟩:=wJ (os:=aJ) (A:=a8 aA aJ) (w:=w) (a:=a) (l:=args.toList) (ρ:=bq s) rfl (fun x an=>lV x (by rw[aF];simp only[Op.operands,Call.operands,Array.toList_append,List.mem_append];exact .inr an)) gT au;have core:=Ee (pass:=pass) (news:=[]) (J:=[]) ao ho (fun k i hk aS=>by
   exfalso;have e8:=(List.getElem?_eq_some_iff.1 hk).1;have kJ:=List.getElem?_eq_getElem (l:=kept) (i:=k) (by omega);have:=bQ _ (List.mem_of_getElem? kJ);rw[kJ]at aS;exact aS (by rw[this])) lS r9 (by rw[List.append_nil];exact AR gZ) (fun i ab=>by have:=ap i ab;omega) (by simp) (by simp;omega) wD sa (by rw[List.append_nil];exact IT EM) (et:=args.toList.map a.eval++vs) (by rw[h1,iL];simp) (fun i v d ac aa=>by
  have dG:=(List.getElem?_eq_some_iff.1 ac).1;have mS:=List.getElem?_eq_getElem (l:=args.toList.map (bq s)++b2) (i:=i) (by omega);have hS: (im.map (jI (cO pass)))[i]?=some (jI (cO pass) d):=by rw[List.getElem?_map,aa];rfl
  rw[List.append_nil];exact((ad i v _ ac mS).gk (A2 i _ _ mS hS)).b9 (cT.gk (fun b ae=>to ae)) (.refl _))
 rw[List.append_nil]at core;unfold Oper.wp;rw[wI aF ac ho.1];refine core.mono fun e w' an=> ?_;obtain⟨v,jb,rfl,hc,wT⟩:=an;refine c8.put hc aa wT ?_;have az:Ai s' pass [] L=s':=by
  show (⟨s'.env,mK s'.loc pass (L.map (fw (cO pass)))⟩:bu)=s';rw[Pu (fun i ab=>by have:=ap i ab;omega) EM]
 rw[az];refine wx.2 ?_;cases o.dst<;>rfl
theorem bT.Pv{i e av:Nat}{es:List (List aj)}{x:Value}(h:bT aA aY n os s a w)(ab:os[i]?=some (x,.row e av es)):bT aA aY n (os.set i (.nilFunc,.gone)) ⟨s.env,e1 s.loc i .gone⟩ a w:=by
 have yS:=(List.getElem?_eq_some_iff.1 ab).1;have qe: (os.set i (.nilFunc,.gone))[i]?=some (.nilFunc,.gone):=List.getElem?_set_self yS;generalize gV:os.set i (.nilFunc,.gone)=aJ at qe⊢;have b7:∀ {j:Nat} {z:Value} {aK:aU},aJ[j]?=some (z,aK)->(j=i/\z= .nilFunc/\aK= .gone)\/(j≠i/\os[j]?=some (z,aK)):=by
  intro j z aK ai;by_cases aG:j=i
  ·subst aG;rw[qe]at ai;cases ai;exact .inl ⟨rfl,rfl,rfl⟩
  ·rw[<-gV,List.getElem?_set_ne (fun cd=>aG cd.symm)]at ai;exact .inr ⟨aG,ai⟩
 have aZ:EI i os aJ:=by
  refine⟨⟨_,_,_,_,ab⟩,⟨_,qe⟩,fun j z o ai aa aF=>⟨o,?_,by cases o<;>simp[di]⟩⟩;rw[<-gV,List.getElem?_set_ne (fun cd=>ai cd.symm)];exact aF
 have fV:∀b,b<w.heap.size->a8 aA aJ b->a8 aA os b:=by
  intro b iO ac;rcases ac with ac| ⟨j,z,aK,ai,c2,b4⟩
  ·exact .inl ac
  ·rcases b7 ai with⟨rfl,rfl,rfl⟩| ⟨_,ai⟩
   ·simp[bs]at b4
   ·exact .inr ⟨_,_,_,ai,c2,b4⟩
 have k:cT (a8 aA os) (a8 aA aJ) w w:=⟨Nat.le_refl _,fV,fun b iO aS=>rfl⟩
 refine⟨h.size,h.defers,h.fH,h.a0,by rw[<-gV,kj,h.loc,List.map_set],fun t=>(h.env t).wS k aZ,fun j z aK ai=> ?_,fun ps r3 z cQ nA eI b h1 ad d1 d2 cC cH=> ?_⟩
 ·rcases b7 ai with⟨rfl,rfl,rfl⟩| ⟨kH,ai⟩
  ·exact rfl
  ·exact(h.cp j z aK ai).wS k aZ (fun b c2 b4=>rfl)
 ·rcases b7 h1 with⟨rfl,rfl,rfl⟩| ⟨_,g1⟩
  ·simp[bs]at cC
  ·rcases b7 ad with⟨rfl,rfl,rfl⟩| ⟨_,g2⟩
   ·simp[bs]at cH
   ·exact h.inj _ _ _ _ _ _ b g1 g2 d1 d2 cC cH
theorem Yn{f:Operand}{k:FuncId}{b2:List aj}{args:Array Operand}{dL:Array TypeId}{iY ck:List aj}{r:aj}{j:Nat}(aF:o.op= .call {callee:=.value f,args:=args,argTypes:=dL})(aa:∀t,o.dst=some t->t<n)
  (jt:bq s f= .fn (.func k) b2)
  (ju:∀dH,(∀d∈args.toList.map (bq s)++b2,∀k∈fR d,bB dH k=bB s.loc k)->∀hb:List aj->Prop,hb iY->p1 dH (args.toList.map (bq s)++b2) hb)
  (hle:lI iY ck) (ho:bg P k ck r) (ag:fm (args.toList.map (bq s)++b2)=[.own j]) (dR:hJ (bB s.loc j)=true):
  kZ P aA aY n o ⟨fa o.dst r,ml (bq s) o.op.operands.toList++b2.flatMap fR,[(j,.gone)],[]⟩ s E:=by
 intro aJ s' a w ao he af _;have lV:∀x∈o.op.operands.toList,a6 (a8 aA aJ) aJ w (a.eval x) (bq s x):=fun x an=>by rw[<-he x an];exact ao.bq x
 have aI:=lV f (by rw[aF];simp[Op.operands,Call.operands]);rw[jt]at aI;obtain⟨vs,ac,lU,IU⟩:=aI.p6;obtain⟨h1,ad⟩:=wJ (os:=aJ) (A:=a8 aA aJ) (w:=w) (a:=a) (l:=args.toList) (ρ:=bq s) rfl (fun x an=>lV x (by rw[aF];simp only[Op.operands,Call.operands,Array.toList_append,List.mem_append];exact .inr an)) lU IU;have IV:=ju s'.loc (fun d lY k hk=>af k (.inl (by
  rcases List.mem_append.1 lY with lY|lY
  ·obtain⟨x,an,rfl⟩:=List.mem_map.1 lY;refine List.mem_append.2 (.inl (Be (x:=x) ?_ hk));rw[aF];simp only[Op.operands,Call.operands,Array.toList_append,List.mem_append];exact .inr an
  ·exact List.mem_append.2 (.inr (List.mem_flatMap.2 ⟨d,lY,hk⟩))))) (fun l=>l=iY) rfl
 obtain⟨l,rfl,bQ⟩:=AP (J:=hm (fm (args.toList.map (bq s)++b2))) ao _ _ h1 ad (fun d j aa ai=>wB aa ai) IV;have k0:hJ (bB s'.loc j)=true:=by rw[af j (.inr ⟨_,List.mem_cons_self⟩)];exact dR
 obtain⟨e,av,es,k0⟩:∃e av es,bB s'.loc j= .row e av es:=by
  cases bF:bB s'.loc j<;>rw[bF]at k0<;>first|exact⟨_,_,_,rfl⟩| (simp[hJ]at k0)
 rw[ao.loc]at k0;obtain⟨H2,ab⟩:=iM k0 (by simp);unfold Oper.wp;rw[wI aF ac ho.1];refine(ho.2 _ w _ (fun b ae=> ?_) (bQ.le hle)).mono fun e w' he=> ?_
 ·rcases ae with ae| ⟨i,x,aK,ab,aa,_,b4⟩
  ·exact ao.yw ae
  ·exact((ao.cp i x aK ab).gW aa b4).2
 ·obtain⟨v,rfl,jL,ax⟩:=he;have au:=(ao.nq ax).Pv ab;refine c8.put au aa (.bA (jL.b9 (cT.gk (fun b ae=> ?_)))) qj;rcases ae with ae| ⟨i,x,aK,gX,hS,b4⟩
  ·exact .inl ae
  ·by_cases dS:i=j
   ·subst dS;rw[List.getElem?_set_self (List.getElem?_eq_some_iff.1 ab).1]at gX;cases gX;simp[bs]at b4
   ·rw[List.getElem?_set_ne (fun e=>dS e.symm)]at gX;refine .inr ⟨i,x,aK,gX,hS,?_,b4⟩;rw[ag];simpa[hm,kF]using dS
theorem Pw{A:Nat->Prop}{w:World}:∀ {vs:List Value} {ds:List aj},ph A w vs ds->vs.length=ds.length/\∀ (i:Nat) v d,vs[i]?=some v->ds[i]?=some d->bO A w v d
 | [],[],_=>⟨rfl,fun i v d h=>by simp at h⟩
 | [],_::_,h=>h.elim
 |_::_,[],h=>h.elim
 |v::vs,d::ds,h=>by
  obtain⟨h1,ad⟩:=Pw h.2;refine⟨by simp[h1],fun i v' bD ac aa=> ?_⟩;cases i with
  |zero=>
   simp only[List.getElem?_cons_zero,Option.some.injEq]at ac aa;subst ac aa;exact h.1
  |succ i=>exact ad i v' bD (by simpa using ac) (by simpa using aa)
theorem Yo{f:Operand}{k:FuncId}{b2:List aj}{args:Array Operand}{dL:Array TypeId}{K:dY->Nat->Prop}(aF:o.op= .call {callee:=.value f,args:=args,argTypes:=dL})(aa:∀t,o.dst=some t->t<n)(jt:bq s f= .fn (.func k) b2)
  (h:Ht P k (args.toList.map (bq s)++b2) s idx o.dst (ml (bq s) o.op.operands.toList++b2.flatMap fR) K):∃bl i,K bl i/\kZ P aA aY n o bl s E:=by
 unfold Ht at h;split at h
 ·rename_i j ag;split at h
  ·rename_i dR;obtain⟨iY,⟨im,bC,d,ho,oJ,hle,ak⟩,ju⟩:=EG h;simp only[Bool.and_eq_true]at oJ;obtain⟨⟨⟨lS,sa⟩,gZ⟩,Bh⟩:=oJ;refine⟨_,_,ak,fun aJ s' a w ao he af hlen=> ?_⟩;generalize lO:bz idx bC.length=news at *
   have oN:news.length=bC.length:=by rw[<-lO,Ej]
   simp only[List.all_eq_true]at Bh;have lV:∀x∈o.op.operands.toList,a6 (a8 aA aJ) aJ w (a.eval x) (bq s x):=fun x an=>by rw[<-he x an];exact ao.bq x
   have aI:=lV f (by rw[aF];simp[Op.operands,Call.operands]);rw[jt]at aI;obtain⟨vs,ac,lU,IU⟩:=aI.p6;obtain⟨h1,ad⟩:=wJ (os:=aJ) (A:=a8 aA aJ) (w:=w) (a:=a) (l:=args.toList) (ρ:=bq s) rfl (fun x an=>lV x (by rw[aF];simp only[Op.operands,Call.operands,Array.toList_append,List.mem_append];exact .inr an)) lU IU;have IV:=ju s'.loc (fun d lY k hk=>af k (.inl (by
    rcases List.mem_append.1 lY with lY|lY
    ·obtain⟨x,an,rfl⟩:=List.mem_map.1 lY;refine List.mem_append.2 (.inl (Be (x:=x) ?_ hk));rw[aF];simp only[Op.operands,Call.operands,Array.toList_append,List.mem_append];exact .inr an
    ·exact List.mem_append.2 (.inr (List.mem_flatMap.2 ⟨d,lY,hk⟩))))) (fun l=>l=iY) rfl
   obtain⟨l,rfl,bQ⟩:=AP (J:=hm (fm (args.toList.map (bq s)++b2))) ao _ _ h1 ad (fun d j aa ai=>wB aa ai) IV;have k0:hJ (bB s'.loc j)=true:=by rw[af j (.inr ⟨_,List.mem_cons_self⟩)];exact dR
   obtain⟨e,av,es,k0⟩:∃e av es,bB s'.loc j= .row e av es:=by
    cases bF:bB s'.loc j<;>rw[bF]at k0<;>first|exact⟨_,_,_,rfl⟩| (simp[hJ]at k0)
   have Yp:=k0;rw[ao.loc]at k0;obtain⟨H2,ab⟩:=iM k0 (by simp);have ax:=ao.Pv ab;have kI:∀i∈news,∃y,(aJ.set j (.nilFunc,.gone))[i]?=some (y,.bd):=by
    intro i gX;obtain⟨cC,cH⟩:=sm (Bh i gX);have tw:∃bm,(i,bm)∈ (j,aU.gone)::news.zip (bC.map (fw (cO news))):=by
     obtain⟨q,bF,rfl⟩:=List.getElem_of_mem gX;have Yq:q<(bC.map (fw (cO news))).length:=by simp only[List.length_map];omega
     exact⟨_,List.mem_cons_of_mem _ (List.mem_of_getElem? (i:=q) (List.getElem?_zip_eq_some.2 ⟨List.getElem?_eq_getElem bF,List.getElem?_eq_getElem Yq⟩))⟩
    have iL:=(af i (.inr tw)).trans cH;have bx:i≠j:=by
     rintro rfl;rw[Yp]at iL;cases iL
    obtain⟨y,bt⟩:=sl ao iL (by omega);exact⟨y,by rw[List.getElem?_set_ne (fun e=>bx e.symm)];exact bt⟩
   have fV:∀b,j5 aA (aJ.set j (.nilFunc,.gone)) [] b->j5 aA aJ (hm (fm (args.toList.map (bq s)++b2))) b:=by
    rintro b (ae| ⟨i,x,aK,gX,hS,_,b4⟩)
    ·exact .inl ae
    ·by_cases dS:i=j
     ·subst dS;rw[List.getElem?_set_self (List.getElem?_eq_some_iff.1 ab).1]at gX;cases gX;simp[bs]at b4
     ·rw[List.getElem?_set_ne (fun e=>dS e.symm)]at gX;refine .inr ⟨i,x,aK,gX,hS,?_,b4⟩;rw[ag];simpa[hm,kF]using dS
   obtain⟨gT,Bi⟩:=Pw (bQ.le hle);have core:=Ee (pass:=[]) (news:=news) (J:=[]) ax ho (fun k i hk=>by simp at hk) lS rfl (AR gZ) (by simp) kI (by simp;omega) rfl sa trivial (et:=args.toList.map a.eval++vs) gT (fun i v d ac aa=>(a6.tx (A:=j5 aA (aJ.set j (.nilFunc,.gone)) []) (os:=[]) (ρ:=cO ([]++news)) (fun k x bm _ _ h=>by simp at h) (cT.refl _ _) (.bA ((Bi i v d ac aa).b9 (cT.gk fV)))).2);unfold Oper.wp;rw[wI aF ac ho.1];refine core.mono fun e w' an=> ?_;obtain⟨v,jb,rfl,hc,wT⟩:=an;refine c8.put hc aa wT ?_;have az:Ai ⟨s'.env,e1 s'.loc j .gone⟩ ([]++news) [] bC= ⟨s'.env,mK (e1 s'.loc j .gone) news (bC.map (fw (cO news)))⟩:=rfl;rw[az,<-IR];refine wx.2 ?_;cases o.dst<;>rfl
  ·exact h.elim
 ·exact h.elim
theorem IW(aO:cS P ah=true)(aH: (ay ah 0).size=0)(aa:∀t,o.dst=some t->t<n){K:dY->Nat->Prop}(h:An ah P o idx s K):∃bl uA,K bl uA/\kZ P aA aY n o bl s E:=by
 unfold An at h;split at h
 ·obtain⟨c,d,ak,ju⟩:=Pf _ h;obtain⟨al,ak⟩:=nT.1 ak;exact⟨_,_,ak,X8 (wrap:=fun d=>d) aO aH aa ju al (fun h=>h) (fun h=>h)⟩
 ·split at h
  ·rename_i t aF;split at h
   ·rename_i m ag aI;exact⟨_,_,h,Ya aO aF aa (by omega) aI⟩
   ·exact h.elim
  ·rename_i t x aF;split at h
   ·rename_i aI;have h:=Em h;split at h
    ·rename_i cs e;exact⟨_,_,sV.1 h,Pp (d:=.agg cs) aF aa aI e (by simp) (by simp) (by simp)⟩
    ·exact h.elim
    ·exact h.elim
    ·exact h.elim
    ·rename_i d h1 ad aC bh;have js:cN (bq s x)=[bq s x]:=by
      generalize bq s x=d at *;cases d<;>first|rfl|exact absurd rfl (h1 _)
     refine⟨_,_,h,?_⟩;rw[<-js];exact Pp aF aa aI rfl (fun b bD e=>ad b bD e) (fun l e=>aC l e) (fun e=>bh e)
   ·exact h.elim
  ·rename_i args dL aF;split at h
   ·rename_i x y t c1 aZ gJ;split at h
    ·rename_i e jP hk;split at h
     ·exact h.elim
     ·rename_i ag;exact Yh aO aF aZ gJ (Nat.eq_of_beq_eq_true jP) hk ag aa h
    ·exact h.elim
   ·exact h.elim
  ·rename_i args dL aF;split at h
   ·rename_i x y t c1 aZ gJ;split at h
    ·rename_i e jP hk;split at h
     ·exact h.elim
     ·rename_i ag;obtain⟨bl,ak,ao⟩:=Yk (aA:=aA) (aY:=aY) (E:=E) aO aF aZ gJ (Nat.eq_of_beq_eq_true jP) hk ag aa h;exact⟨bl,_,ak,ao⟩
    ·exact h.elim
   ·exact h.elim
  ·rename_i t x y aF;have h:=Em h;split at h
   ·exact h.elim
   ·exact h.elim
   ·exact h.elim
   ·rename_i d h1 ad aC;obtain⟨bl,ak,ao⟩:=Ye (aA:=aA) (aY:=aY) (E:=E) aO aF aa rfl (fun b bD e=>h1 b bD e) (fun l e=>ad l e) (fun e=>aC e) h;exact⟨bl,_,ak,ao⟩
  ·rename_i t m parts aF;split at h
   ·rename_i e hk;split at h
    ·rename_i m1 ag ae;split at h
     ·split at h
      ·rename_i aI;obtain⟨es,ak,ao⟩:=Pm (aA:=aA) (aY:=aY) (E:=E) aO aF hk (by omega) (Nat.le_of_ble_eq_true ae) aI aa h;exact⟨_,_,ak,ao⟩
      ·exact h.elim
     ·obtain⟨w,h⟩:=h;cases w with
      |false=>
       obtain⟨es,ak,ao⟩:=Yb (aA:=aA) (aY:=aY) (E:=E) aO aF hk (by omega) (Nat.le_of_ble_eq_true ae) aa h;exact⟨_,_,ak,ao _⟩
      |true=>
       simp only at h;split at h
       ·rename_i aI;obtain⟨es,ak,ao⟩:=Pm (aA:=aA) (aY:=aY) (E:=E) aO aF hk (by omega) (Nat.le_of_ble_eq_true ae) aI aa h;exact⟨_,_,ak,ao⟩
       ·exact h.elim
    ·exact h.elim
   ·exact h.elim
  ·rename_i t l c aF;split at h
   ·rename_i e hk;split at h
    ·rename_i m1 uN HL qb se ag el h4 aI;obtain⟨m,N,rfl,rfl,tl,ae,gg,ak⟩:=h;exact⟨_,_,ak,Yc aO aF hk (by omega) aI aa el h4 tl ae gg⟩
    ·exact h.elim
   ·exact h.elim
  ·rename_i f args dL aF;split at h
   ·rename_i k b2 jt;have h:=tc h;rcases h with h|h
    rotate_left
    ·split at h
     ·rcases h with h|h
      ·exact Ps aF aa jt h
      ·exact Yo aF aa jt h
     ·exact Ps aF aa jt h
    obtain⟨iY,⟨ck,r,hle,ho,ak⟩,ju⟩:=EG h;have run:=fun ag=>Pl (P:=P) (aY:=aY) (E:=E) (wrap:=fun d=>d) (aA:=aA) (ρ:=bq s) aF aa (fun h=>h) jt (fun h=>h) ju hle ho ag;split at ak
    ·rename_i ag;exact⟨_,_,ak,run (.inl ag)⟩
    ·split at ak
     ·rename_i ag;exact⟨_,_,ak,run (.inr ag)⟩
     ·split at ak
      ·rename_i j ag;split at ak
       ·rename_i dR;exact⟨_,_,ak,Yn aF aa jt ju hle ho ag dR⟩
       ·exact ak.elim
      ·exact ak.elim
   ·exact h.elim
  ·exact h.elim
def Px(aA:Nat->Prop)(aY:dP)(n:Nat)(o:Oper)(bl:dY):Prop:=
 ∀ (aJ:cu) (s':bu) (a:Act) (w:World),bT aA aY n aJ s' a w->c8 aA aY n (fun mT=>mT=bl.iK s') (a.put o.dst undef) w
theorem yX(aa:∀t,o.dst=some t->t<n){d:aj}{ip:List Nat}:Px aA aY n o ⟨fa o.dst (.bP false d),ip,[],[]⟩:=fun aJ s' a w h=>c8.put h aa AM tA
theorem yY{g:Bool}(ax:g=true):∀ {l:List Operand} {s:bu} {K:bu->Prop},mM g l s K->∃aX:List (Nat×aj),K ⟨aX++s.env,s.loc⟩/\(∀t∈aX.map (·.1),.tmp t∈l)/\
  ∀ (t:Nat) (A:Nat->Prop) (os:cu) (w:World) (x:Value),a6 A os w x (look (aX++s.env) t)↔a6 A os w x (look s.env t)
 | [],s,K,h=>⟨[],h,by simp,fun t A os w x=>Iff.rfl⟩
 | .tmp t::r,s,K,h=>by
  unfold mM at h;split at h
  ·rename_i c5 d e;obtain⟨h1,h⟩:=h;obtain⟨aX,ak,cw,b1⟩:=yY ax h;have Yr:=h1 ax;subst Yr;refine⟨aX++ [(t,d)],by rw[List.append_assoc];exact ak,fun c1 kq=> ?_,fun c1 A os w x=> ?_⟩
   ·rw[List.map_append,List.mem_append]at kq;rcases kq with kq|kq
    ·exact List.mem_cons_of_mem _ (cw c1 kq)
    ·simp at kq;subst kq;exact List.mem_cons_self ..
   ·rw[List.append_assoc];refine(b1 c1 A os w x).trans ?_;simp only[List.cons_append,List.nil_append,look];split
    ·rename_i ae;have:=Nat.eq_of_beq_eq_true ae;subst this;rw[e];exact⟨fun h=>.bP (fun _=>h) (fun e=>by cases e),fun h=>h.uG.1 rfl⟩
    ·exact Iff.rfl
  ·obtain⟨aX,ak,cw,b1⟩:=yY ax h;exact⟨aX,ak,fun c1 kq=>List.mem_cons_of_mem _ (cw c1 kq),b1⟩
 | .const v::r,s,K,h=>by
  obtain⟨aX,ak,cw,b1⟩:=yY ax (l:=r) (by unfold mM at h;exact h);exact⟨aX,ak,fun c1 kq=>List.mem_cons_of_mem _ (cw c1 kq),b1⟩
 | .global v::r,s,K,h=>by
  obtain⟨aX,ak,cw,b1⟩:=yY ax (l:=r) (by unfold mM at h;exact h);exact⟨aX,ak,fun c1 kq=>List.mem_cons_of_mem _ (cw c1 kq),b1⟩
 | .func v::r,s,K,h=>by
  obtain⟨aX,ak,cw,b1⟩:=yY ax (l:=r) (by unfold mM at h;exact h);exact⟨aX,ak,fun c1 kq=>List.mem_cons_of_mem _ (cw c1 kq),b1⟩
theorem Ys{bl:dY}{aX:List (Nat×aj)}(cw:∀t∈aX.map (·.1),.tmp t∈o.op.operands.toList)
  (b1:∀ (t:Nat) (A:Nat->Prop) (os:cu) (w:World) (x:Value),a6 A os w x (look (aX++s.env) t)↔a6 A os w x (look s.env t)) (h:kZ P aA aY n o bl ⟨aX++s.env,s.loc⟩ E):kZ P aA aY n o bl s E:=by
 intro aJ s' a w ao he af hlen;have key:∀ (t:Nat) (A:Nat->Prop) (os:cu) (w:World) (x:Value),a6 A os w x (look (aX++s'.env) t)↔a6 A os w x (look s'.env t):=fun t A os w x=>by
  by_cases bW:t∈aX.map (·.1)
  ·rw[Ex (cd:=s.env) bW,b1 t A os w x];have:=he _ (cw t bW);simp only[bq]at this;rw[this]
  ·rw[Ba bW]
 have h1:=h aJ ⟨aX++s'.env,s'.loc⟩ a w ⟨ao.size,ao.defers,ao.fH,ao.a0,ao.loc,fun t=>(key t _ _ _ _).2 (ao.env t),ao.cp,ao.inj⟩ (fun x an=>by
  cases x with
  |tmp t=>
   simp only[bq];by_cases bW:t∈aX.map (·.1)
   ·exact Ex bW
   ·rw[Ba bW,Ba bW];exact he _ an
  |const v=>rfl
  |global g=>rfl
  |func f=>rfl) af hlen
 refine Oper.wp_mono (fun dl eJ aS=> ?_) h1;obtain⟨jb,s2,hc,rfl⟩:=aS;refine⟨jb,bl.iK s',⟨hc.size,hc.defers,hc.fH,hc.a0,hc.loc,fun t=> ?_,hc.cp,hc.inj⟩,rfl⟩;have ac:=hc.env t;by_cases bW:bl.fS t
 ·rw[Ez (s':=bl.iK ⟨aX++s'.env,s'.loc⟩) bW]at *;exact ac
 ·rw[wN bW]at ac⊢;exact(key t _ _ _ _).1 ac
theorem Py(aO:cS P ah=true)(aH: (ay ah 0).size=0)(aa:∀t,o.dst=some t->t<n){g:Bool}{K:dY->Nat->Prop}(h:DC ah P o g idx s K):
  ∃bl uA,K bl uA/\(g=true->kZ P aA aY n o bl s E)/\(g=false->Px aA aY n o bl):=by
 unfold DC at h;split at h
 ·rename_i c x y aF;obtain⟨eA,d,ak,ju⟩:=X0 _ h;obtain⟨al,ak⟩:=nT.1 ak;refine⟨_,_,ak,fun ax=> ?_,fun ax=>by subst ax;exact yX aa⟩;subst ax;intro aJ s' a w ao he af _;have qk:∀z∈o.op.operands.toList,a6 (a8 aA aJ) aJ w (a.eval z) (bq s z):=fun z bE=>by rw[<-he z bE];exact ao.bq z
  rw[aF]at qk;obtain⟨_,_,⟨rfl,rfl⟩,ax⟩:=OU (P:=P) (A:=a8 aA aJ) (os:=aJ) (w:=w) (a:=a) aF (fun b1=>by
   obtain⟨h0,b1,bp⟩:=Bd b1;exact⟨h0,b1,fun al=>bp (fun z bE=>qk z (by simp[Op.operands]at bE⊢;exact .inl bE)) al rfl _ (by simp)⟩) (qk x (by simp[Op.operands])) (qk y (by simp[Op.operands])) (ju (fun de bD=>de=eA/\bD=d) ⟨rfl,rfl⟩)
  obtain⟨x,cW,tk⟩:=ax al;exact hB cW (c8.put ao aa (.bP (fun _=>tk) (fun e=>by cases e)) tA)
 ·split at h
  ·obtain⟨h0,h,eg⟩:=Bd h;obtain⟨c,d,ak,ju⟩:=Pf _ h;obtain⟨al,ak⟩:=nT.1 ak;refine⟨_,_,ak,fun ax=> ?_,fun ax=>by subst ax;exact yX aa⟩;subst ax;obtain⟨qf,pn⟩:=Holds.andO.1 al;have ko:Holds c:=by
    cases c with
    |none=>exact Holds.HH
    |some p=>exact Holds.h3.2 (Holds.h3.1 pn rfl)
   exact X7 (wrap:=.bP true) aO aH aa ju ko (fun h=>eg h qf rfl) (fun h=>.bP (fun _=>h) (fun e=>by cases e))
  ·split at h
   ·rename_i f args dL aF;split at h
    ·rename_i k b2 jt;split at h
     ·obtain⟨h0,h,eg⟩:=Bd h;have h:=tc h;obtain⟨iY,⟨ck,r,hle,ho,ak⟩,ju⟩:=EG h;obtain⟨qf,ak⟩:=nT.1 ak;have run:=fun(ax:g=true) ag=>Pl (P:=P) (aY:=aY) (E:=E) (wrap:=.bP true) (aA:=aA) (ρ:=hz s) aF aa (fun h=>eg h qf ax) jt (fun h=>.bP (fun _=>h) (fun e=>by cases e)) ju hle (ho ax) ag;split at ak
      ·rename_i ag;exact⟨_,_,ak,fun ax=>by have:=run ax (.inl ag);subst ax;exact this,fun ax=>by subst ax;exact yX aa⟩
      ·split at ak
       ·rename_i ag;exact⟨_,_,ak,fun ax=>by have:=run ax (.inr ag);subst ax;exact this,fun ax=>by subst ax;exact yX aa⟩
       ·exact ak.elim
     ·cases g with
      |true=>
       obtain⟨aX,h,cw,b1⟩:=yY rfl h;obtain⟨bl,i,ak,ao⟩:=h.elim (Ym (aA:=aA) (aY:=aY) (E:=E) aa) (IW (aA:=aA) (aY:=aY) (E:=E) aO aH aa);exact⟨bl,i,ak,fun _=>Ys cw b1 ao,fun e=>by cases e⟩
      |false=>
       have h:∃d:aj,K ⟨fa o.dst (.bP false d),[],[],[]⟩ idx:=h;obtain⟨d,h⟩:=h;exact⟨_,_,h,(fun e=>by cases e),fun _=>yX aa⟩
    ·exact h.elim
   ·cases g with
    |true=>
     obtain⟨bl,i,ak,ao⟩:=IW (aA:=aA) (aY:=aY) (E:=E) aO aH aa h;exact⟨bl,i,ak,fun _=>ao,fun e=>by cases e⟩
    |false=>
     have h:K ⟨fa o.dst (.bP false (.v (.bool false))),[],[],[]⟩ idx:=h;exact⟨_,_,h,(fun e=>by cases e),fun _=>yX aa⟩
def EN(P:Program)(aA:Nat->Prop)(aY:dP)(n:Nat)(ops:Array Oper)(o:Oper)(bl:dY)(s:bu)(E:Exit->Act->World->Prop):Prop:=
 ∀ (aJ:cu) (s':bu) (a:Act) (w:World),bT aA aY n aJ s' a w->(∀t∈o.looksAt ops,look s'.env t=look s.env t)->(∀k,(k∈bl.ip\/bl.cp k)->bB s'.loc k=bB s.loc k)->s'.loc.length=s.loc.length->
  if Region.wanted o (yielded ops a.tmps)then o.wp P a w (c8 aA aY n fun mT=>mT=bl.iK s') E else c8 aA aY n (fun mT=>mT=bl.iK s') (a.put o.dst undef) w
theorem IX(h:∀t∈o.looksAt ops,look s'.env t=look s.env t):∀x∈o.op.operands.toList,bq s' x=bq s x:=by
 intro x an;cases x with
 |tmp t=>
  refine h t ?_;simp only[Oper.looksAt,List.mem_append,List.mem_filterMap];exact .inl ⟨_,an,rfl⟩
 |const v=>rfl
 |global g=>rfl
 |func f=>rfl
theorem Pz{j:Nat}{want:Bool}(ax:o.guard=some (j,want))(h:∀t∈o.looksAt ops,look s'.env t=look s.env t):q2 ops.toList s' j=q2 ops.toList s j:=by
 unfold q2;split
 ·rename_i OX qg;split
  ·rename_i t bW;refine h t ?_;simp only[Oper.looksAt,ax,List.mem_append];refine .inr ?_;simp only[Array.getElem?_toList]at qg;simp[qg,bW]
  ·rfl
 ·rfl
theorem PA{j:Nat}(h:bT aA aY n os s a w):
  (∀b,q2 ops.toList s j= .v (.bool b)->yielded ops a.tmps j=some b)/\(∀g b,q2 ops.toList s j= .bP g (.v (.bool b))->(g=true->yielded ops a.tmps j=some b)/\(g=false->yielded ops a.tmps j=none)):=by
 have bt:∀d,q2 ops.toList s j=d->d≠ .aW->∃t,(ops[j]?).bind (·.dst)=some t/\look s.env t=d:=by
  intro d e ai;unfold q2 at e;split at e
  ·rename_i OX qg;split at e
   ·rename_i t bW;exact⟨t,by simp only[Array.getElem?_toList]at qg;simp[qg,bW],e⟩
   ·exact absurd e.symm ai
  ·exact absurd e.symm ai
 have PB:∀ (t:Nat) (b:Bool),(ops[j]?).bind (·.dst)=some t->a.tmps.getD t undef= .bool b->yielded ops a.tmps j=some b:=by
  intro t b bW ac;have ap:t<a.tmps.size:=by
   rcases Nat.lt_or_ge t a.tmps.size with ap|dB
   ·exact ap
   ·rw[Array.getD_eq_getD_getElem?,Array.getElem?_eq_none dB]at ac;cases ac
  rw[Array.getD_eq_getD_getElem?,Array.getElem?_eq_getElem ap]at ac;simp only[Option.getD_some]at ac;simp[yielded,bW,ap,ac]
 refine⟨fun b e=> ?_,fun g b e=>⟨fun lW=> ?_,fun lW=> ?_⟩⟩
 ·obtain⟨t,bW,sh⟩:=bt _ e (by simp);have ac:=h.env t;rw[sh]at ac;exact PB t b bW ac.h2.1
 ·obtain⟨t,bW,sh⟩:=bt _ e (by simp);have ac:=h.env t;rw[sh]at ac;exact PB t b bW (ac.uG.1 lW).h2.1
 ·obtain⟨t,bW,sh⟩:=bt _ e (by simp);have ac:=h.env t;rw[sh]at ac;have ac:=ac.uG.2 lW;have:a.tmps[t]?=none\/a.tmps[t]?=some undef:=by
   rw[Array.getD_eq_getD_getElem?]at ac;cases bW:a.tmps[t]? with
   |none=>exact .inl rfl
   |some v=>rw[bW]at ac;exact .inr (by simpa using ac)
  rcases this with h1|h1<;>simp[yielded,bW,h1,undef]
theorem Yt(aO:cS P ah=true)(aH: (ay ah 0).size=0)(aa:∀t,o.dst=some t->t<n){K:dY->Nat->Prop}(h:Hw ah P ops.toList o idx s K):∃bl uA,K bl uA/\EN P aA aY n ops o bl s E:=by
 unfold Hw at h;split at h
 ·rename_i ax;obtain⟨bl,i,ak,ao⟩:=IW (aA:=aA) (aY:=aY) (E:=E) aO aH aa h;refine⟨bl,i,ak,fun aJ s' a w h1 ad aC bh=> ?_⟩;rw[if_pos (by simp[Region.wanted,ax])];exact ao aJ s' a w h1 (IX ad) aC bh
 ·rename_i j want ax;split at h
  ·rename_i b e;obtain⟨bl,i,ak,r5,hc⟩:=Py (aA:=aA) (aY:=aY) (E:=E) aO aH aa (Eu.1 h);refine⟨bl,i,ak,fun aJ s' a w h1 ad aC bh=> ?_⟩;have mt:=(PA (ops:=ops) (j:=j) h1).1 b ((Pz ax ad).trans e);by_cases ae:b=want
   ·subst ae;rw[if_pos (by simp[Region.wanted,ax,mt])];exact r5 (by cases b<;>rfl) aJ s' a w h1 (IX ad) aC bh
   ·rw[if_neg (by simp[Region.wanted,ax,mt,ae])];exact hc (by cases b<;>cases want<;>simp at ae⊢) aJ s' a w h1
  ·rename_i g b e;obtain⟨bl,i,ak,r5,hc⟩:=Py (aA:=aA) (aY:=aY) (E:=E) aO aH aa (Eu.1 h);refine⟨bl,i,ak,fun aJ s' a w h1 ad aC bh=> ?_⟩;have mt:=(PA (ops:=ops) (j:=j) h1).2 g b ((Pz ax ad).trans e);cases lW:g with
   |false=>
    have mt:=mt.2 lW;rw[if_neg (by simp[Region.wanted,ax,mt])];exact hc (by simp[lW]) aJ s' a w h1
   |true=>
    have mt:=mt.1 lW;by_cases ae:b=want
    ·subst ae;rw[if_pos (by simp[Region.wanted,ax,mt])];exact r5 (by rw[lW];cases b<;>rfl) aJ s' a w h1 (IX ad) aC bh
    ·rw[if_neg (by simp[Region.wanted,ax,mt,ae])];exact hc (by rw[lW];cases b<;>cases want<;>simp at ae⊢) aJ s' a w h1
  ·exact h.elim
end
open Go
section
variable {P:Program} {ah:c4} {aA:Nat->Prop} {aY:dP} {n:Nat} {os:cu} {s s':bu} {a:Act} {w:World} {ops:Array Oper} {E:Exit->Act->World->Prop}
abbrev ql:Nat->Bool:=fun _=>true
theorem IY{bl:dY}{mU:List dY}:∀i,en (bl::mU) s ql (i+1)=en mU (bl.iK s) ql i
 |0=>rfl
 |i+1=>by
  have aN:en (bl::mU) s ql (i+1)=en mU (bl.iK s) ql i:=IY i;rw[en,aN];simp only[List.getElem?_cons_succ];rfl
theorem PC:∀ {l e:List (Nat×aj)} {K:List (Nat×aj)->Prop},DA l e K↔K (l++e)
 | [],e,K=>Iff.rfl
 |p::r,e,K=>PC (l:=r)
theorem Yu{bl:dY}{K:bu->Prop}:bl.M9 s K↔K (bl.iK s):=by
 obtain⟨wj,ip,kB,rT⟩:=bl;obtain⟨e,l⟩:=s;show DA wj e _↔_;rw[PC];cases kB
 ·exact Iff.rfl
 ·exact DY
theorem PD:∀ {m jl:List (Nat×Nat)} {K:List (Nat×Nat)->Prop},Hx jl m K->∃Bj,K Bj
 | [],jl,K,h=>⟨jl,h⟩
 |p::r,jl,K,h=>PD (m:=r) h
theorem PE(aO:cS P ah=true)(aH: (ay ah 0).size=0){K:List dY->List (Nat×Nat)->bu->Prop}:∀ (l:List Oper) {idx:Nat} {aL:List dY} {jl:List (Nat×Nat)} {s:bu},l.all (wL n)=true->DD ah P ops.toList l idx aL jl K s->
  ∃mU Bj,mU.length=l.length/\K (aL++mU) Bj (en mU s ql l.length)/\∀ (i:Nat) o bl,l[i]?=some o->mU[i]?=some bl->EN P aA aY n ops o bl (en mU s ql i) E
 | [],idx,aL,jl,s,_,h=>⟨[],jl,rfl,by simp only[List.append_nil];exact h,fun i o bl h1 _=>by simp at h1⟩
 |o::r,idx,aL,jl,s,af,h=>by
  simp only[List.all_cons,Bool.and_eq_true]at af;unfold DD at h;obtain⟨bl,uA,h,ao⟩:=Yt (aA:=aA) (aY:=aY) (E:=E) aO aH (Iq af.1) h;obtain⟨aj5,h⟩:=PD (Yu.1 h);obtain⟨mU,Bj,h1,ad,aC⟩:=PE aO aH r af.2 h;refine⟨bl::mU,Bj,by simp[h1],?_,fun i aK gm ab jQ=> ?_⟩
  ·rw[List.length_cons,IY];simpa using ad
  ·cases i with
   |zero=>
    simp at ab jQ;subst ab;subst jQ;exact ao
   |succ i=>
    rw[IY];exact aC i aK gm (by simpa using ab) (by simpa using jQ)
theorem bT.congr(h:bT aA aY n os s' a w)(af:s.loc=s'.loc)(he:∀t,look s.env t=look s'.env t):bT aA aY n os s a w:=
 ⟨h.size,h.defers,h.fH,h.a0,af.trans h.loc,fun t=>by rw[he];exact h.env t,h.cp,h.inj⟩
theorem Yv{l ck:List aU}(af:l.length=ck.length)(h:∀k,bB l k=bB ck k):l=ck:=by
 refine List.ext_getElem af (fun i h1 ad=> ?_);have:=h i;rw[jn,jn,List.getElem?_eq_getElem h1,List.getElem?_eq_getElem ad]at this;simpa using this
variable {cK:List dY} {eW:bu} {N:Nat}
def mv(gz:Array Bool)(j:Nat):Bool:=gz.getD j false
def wU(aA:Nat->Prop)(aY:dP)(n:Nat)(cK:List dY)(eW:bu)(N:Nat)(S:Nat->Bool)(a:Act)(w:World):Prop:=
 ∃aJ s',bT aA aY n aJ s' a w/\(∀t,look s'.env t=look (en cK eW S N).env t)/\(∀k,bB s'.loc k=bB (en cK eW S N).loc k)/\s'.loc.length=eW.loc.length
theorem PF{S:Nat->Bool}(js:∀i o,S i=true->ops[i]?=some o->∀e∈o.after,Region.binds .any e=true->S e.on=true){i j:Nat}(h:Reach ops i j):S i=true->S j=true:=by
 induction h with
 |ED aF he ae=>exact fun ab=>js _ _ ab aF _ he ae
 |trans _ _ IZ PG=>exact fun ab=>PG (IZ ab)
theorem Yw{S:Nat->Bool}(js:∀i o,S i=true->ops[i]?=some o->∀e∈o.after,Region.binds .any e=true->S e.on=true){i j:Nat}(h:Reach ops i j): (∀o,ops[i]?=some o->∀e∈o.after,Region.binds .any e=true->S e.on=true)->S j=true:=by
 induction h with
 |ED aF he ae=>exact fun ab=>ab _ aF _ he ae
 |trans _ ad IZ PG=>exact fun ab=>PF js ad (IZ ab)
theorem Yx(hO:wO cK (wP ops) (Reach ops))(ha:cK.length=ops.size)(Bk:∀ (i:Nat) o bl,ops[i]?=some o->cK[i]?=some bl->EN P aA aY n ops o bl (en cK eW ql i) E)
  {S:Nat->Bool} (js:∀i o,S i=true->ops[i]?=some o->∀e∈o.after,Region.binds .any e=true->S e.on=true) {i:Nat} {o:Oper} (aF:ops[i]?=some o) (ab:S i=false) (ao:∀e∈o.after,Region.binds .any e=true->S e.on=true)
  (h:wU aA aY n cK eW ops.size S a w):
  if Region.wanted o (yielded ops a.tmps)then o.wp P a w (wU aA aY n cK eW ops.size fun j=>S j||decide (j=i)) E else wU aA aY n cK eW ops.size (fun j=>S j||decide (j=i)) (a.put o.dst undef) w:=by
 obtain⟨aJ,s',h1,ad,aC,bh⟩:=h;have uZ:=(Array.getElem?_eq_some_iff.1 aF).1;have jQ:cK[i]?=some (cK[i]'(by omega)):=List.getElem?_eq_getElem (by omega);generalize(cK[i]'(by omega))=bl at jQ;have EO:∀i j,S i=true->Reach ops i j->S j=true:=fun i j cy b1=>PF js b1 cy;have iZ:∀j,Reach ops i j->S j=true:=fun j b1=>Yw js b1 (fun aK gU=>by rw[aF]at gU;cases gU;exact ao);have mP:wP ops i=o.looksAt ops:=by simp[wP,aF]
 have run:=Bk i o bl aF jQ aJ s' a w h1 (fun t bW=>(ad t).trans (XH hO EO ab iZ uZ (by rw[mP];exact bW))) (fun k hk=>(aC k).trans (XI hO EO ab iZ uZ jQ hk)) (by rw[bh,tz]);have fin:∀wV w',c8 aA aY n (fun mT=>mT=bl.iK s') wV w'->wU aA aY n cK eW ops.size (fun j=>S j||decide (j=i)) wV w':=by
  rintro wV w' ⟨jb,s2,iP,rfl⟩;have al:=XC (bl:=bl) ad aC (by rw[bh,tz]);exact⟨jb,_,iP,fun t=>(al.1 t).trans (XJ hO EO ab uZ jQ t).symm,fun k=>(al.2 k).trans (XK hO EO ab uZ jQ k).symm,by rw[O6,bh]⟩
 split
 ·rename_i hw;rw[if_pos hw]at run;exact Oper.wp_mono fin run
 ·rename_i hw;rw[if_neg hw]at run;exact fin _ _ run
theorem Yy(hO:wO cK (wP ops) (Reach ops))(ha:cK.length=ops.size)(Bl:wk ops.toList 0=true)(Bk:∀ (i:Nat) o bl,ops[i]?=some o->cK[i]?=some bl->EN P aA aY n ops o bl (en cK eW ql i) E)
  {K:bu->Prop} (ak:K (en cK eW ql ops.size)) (ee:∀a w,c8 aA aY n K a w->E .normal a w):
  ∀ (fuel:Nat) (gz:Array Bool) (a:Act) (w:World),gz.size=ops.size->(∀i o,mv gz i=true->ops[i]?=some o->∀e∈o.after,Region.binds .any e=true->mv gz e.on=true)->
   gz.toList.count false<=fuel->wU aA aY n cK eW ops.size (mv gz) a w->wpAny P .any ops E fuel gz a w:=by
 intro fuel;have done:∀ (gz:Array Bool) (a:Act) (w:World),gz.size=ops.size->Region.ready .any ops gz=[]->wU aA aY n cK eW ops.size (mv gz) a w->E .normal a w:=by
  intro gz a w bZ ao hinv;have bQ:∀i,i<ops.size->mv gz i=true:=by
   intro i;induction i using Nat.strongRecOn with
   |_ i aN=>
    intro ab;cases cy:mv gz i with
    |true=>rfl
    |false=>
     have:i∈Region.ready .any ops gz:=by
      rw[mem_ready];refine⟨?_,ops[i],Array.getElem?_eq_getElem ab,fun e he ae=> ?_⟩
      ·have ap:i<gz.size:=by omega
       simp only[mv,Array.getD_eq_getD_getElem?,Array.getElem?_eq_getElem ap,Option.getD_some]at cy⊢;exact cy
      ·have:=Pb Bl (i:=i) (o:=ops[i]) (by simp[ab]) e he ae;exact aN e.on (by omega) (by omega)
     rw[ao]at this;cases this
  obtain⟨aJ,s',h1,ad,aC,bh⟩:=hinv;have bM:en cK eW (mv gz) ops.size=en cK eW ql ops.size:=EC _ (fun j ai=>bQ j ai);rw[bM]at ad aC;exact ee a w ⟨aJ,_,h1.congr (Yv (by rw[bh,tz]) (fun k=>(aC k).symm)) (fun t=>(ad t).symm),ak⟩
 induction fuel with
 |zero=>
  intro gz a w bZ js Yz hinv;have ao:Region.ready .any ops gz=[]:=by
   rw[List.eq_nil_iff_forall_not_mem];intro i ab;obtain⟨h1,o,aF,_⟩:=mem_ready.1 ab;have ap:i<gz.size:=by have:=(Array.getElem?_eq_some_iff.1 aF).1;omega
   simp only[Array.getD_eq_getD_getElem?,Array.getElem?_eq_getElem ap,Option.getD_some]at h1;have:false∈gz.toList:=by rw[<-h1];simp
   have:=List.count_pos_iff.2 this;omega
  exact⟨ao,done gz a w bZ ao hinv⟩
 |succ fuel aN=>
  intro gz a w bZ js Yz hinv;refine⟨fun ao=>done gz a w bZ ao hinv,fun i ab=> ?_⟩;obtain⟨h1,o,aF,bQ⟩:=mem_ready.1 ab;have ap:i<gz.size:=by have:=(Array.getElem?_eq_some_iff.1 aF).1;omega
  have EP:gz[i]=false:=by simpa only[Array.getD_eq_getD_getElem?,Array.getElem?_eq_getElem ap,Option.getD_some]using h1
  have YA:mv gz i=false:=by simp only[mv,Array.getD_eq_getD_getElem?,Array.getElem?_eq_getElem ap,Option.getD_some,EP]
  have sk:∀j,mv (gz.setIfInBounds i true) j=(mv gz j||decide (j=i)):=by
   intro j;simp only[mv,Array.getD_eq_getD_getElem?,Array.getElem?_setIfInBounds];by_cases e:i=j
   ·subst e;simp[ap]
   ·have:j≠i:=fun h=>e h.symm;simp[e,this]
  have bM:=Yx (P:=P) (E:=E) hO ha Bk js aF YA bQ hinv;have next:∀a w,wU aA aY n cK eW ops.size (fun j=>mv gz j||decide (j=i)) a w->wpAny P .any ops E fuel (gz.setIfInBounds i true) a w:=by
   intro a w YB;refine aN _ a w (by simpa using bZ) (fun nX aK cV gU e he ae=> ?_) ?_ ?_
   ·rw[sk]at cV⊢;simp only[Bool.or_eq_true,decide_eq_true_eq]at cV⊢;rcases cV with cV|rfl
    ·exact .inl (js nX aK cV gU e he ae)
    ·rw[aF]at gU;cases gU;exact .inl (bQ e he ae)
   ·have al:=List.count_set (l:=gz.toList) (i:=i) (a:=true) (b:=false) (by simpa using ap);have eh:0<gz.toList.count false:=List.count_pos_iff.2 (by rw[<-EP];simp);simp only[Array.toList_setIfInBounds];rw[al,show (gz.toList[i]'(by simpa using ap))=false by simpa using EP];have az: (if(false==false)=true then 1 else 0:Nat)=1:=rfl;have aG: (if(true==false)=true then 1 else 0:Nat)=0:=rfl;rw[az,aG];omega
   ·have:mv (gz.setIfInBounds i true)=fun j=>mv gz j||decide (j=i):=funext sk;rw[this];exact YB
  unfold wpOp;rw[aF];simp only;split
  ·rename_i hw;rw[if_pos hw]at bM;exact .inl (Oper.wp_mono next bM)
  ·rename_i hw;rw[if_neg hw]at bM;exact next _ _ bM
theorem bO.tx{A:Nat->Prop}{w:World}{x:Value}{d:aj}(i j:Nat)(h:bO A w x d):bO A w x (jm i j d)/\bO A w x (s8 i j d):=by
 induction h with
 |v h=>exact⟨.v h,.v h⟩
 |aq xs aS al aT aI bZ aw ae bf cP an _=>exact⟨.aq xs aS al aT aI bZ aw ae bf cP an,.aq xs aS al aT aI bZ aw ae bf cP an⟩
 |nil=>exact⟨.nil,.nil⟩
 |ar=>exact⟨.ar,.ar⟩
 |agg af bf h aN=>
  refine⟨.agg af bf h,.agg (by simpa using af) bf (fun j v d ac aa=> ?_)⟩;rw[List.getElem?_map]at aa;rename_i ds;cases ai:ds[j]? with
  |none=>rw[ai]at aa;cases aa
  |some e=>rw[ai]at aa;simp at aa;subst aa;exact(aN j v e ac ai).1
 | @a1 vs ds af h _=>
  refine⟨.a1 af h,?_⟩;show bO A w _ (nN ds);unfold nN;split
  ·exact .a1 af h
  ·exact .aW
 |cD xs aw ae bf cP an _=>exact⟨.cD xs aw ae bf cP an,.cD xs aw ae bf cP an⟩
 |fn af h _=>exact⟨.fn af h,.fn af h⟩
 |bP _ aH aN=>exact⟨.bP (fun ae=>(aN ae).1) aH,.bP (fun ae=>(aN ae).2) aH⟩
 |aW=>exact⟨.aW,.aW⟩
theorem YC{p:Nat×Nat}(h:bT aA aY n os s a w):∃aJ,bT aA aY n aJ (Hy s p) a w:=by
 obtain⟨i,j⟩:=p;unfold Hy;split
 ·rename_i h1 ad;simp only at h1 ad;rw[h.loc]at h1 ad;obtain⟨x,e,av,es,ab⟩:=DQ h1;have ai:∃y,os[j]?=some (y,.gone):=by
   rw[jn,List.getElem?_map]at ad;cases ai:os[j]? with
   |none=>rw[ai]at ad;simp[Hg]at ad
   |some p=>
    obtain⟨y,o⟩:=p;rw[ai]at ad;cases o<;>simp[Hg]at ad
    exact⟨y,rfl⟩
  obtain⟨y,ai⟩:=ai;have dS:i≠j:=fun e=>by subst e;rw[ab]at ai;cases ai
  have mS:=(List.getElem?_eq_some_iff.1 ab).1;have k0:=(List.getElem?_eq_some_iff.1 ai).1;have dR:bB s.loc i= .row e av es:=by rw[h.loc,jn,List.getElem?_map,ab];rfl
  rw[dR];generalize gV: (((os.map fun p=>(p.1,e4 (jm i j) p.2)).set j (x,.row e av es)).set i (.nilFunc,.bd))=aJ;have H3:aJ[i]?=some (.nilFunc,.bd):=by rw[<-gV,List.getElem?_set_self (by simpa using mS)]
  have qg:aJ[j]?=some (x,.row e av es):=by rw[<-gV,List.getElem?_set_ne dS,List.getElem?_set_self (by simpa using k0)]
  have pv:∀ {k:Nat},k≠i->k≠j->aJ[k]?=(os[k]?).map fun p=>(p.1,e4 (jm i j) p.2):=by
   intro k h1 ad;rw[<-gV,List.getElem?_set_ne (fun e=>h1 e.symm),List.getElem?_set_ne (fun e=>ad e.symm),List.getElem?_map]
  have b7:∀ {k:Nat} {z:Value} {aK:aU},aJ[k]?=some (z,aK)->(k=j/\z=x/\aK= .row e av es)\/(k=i/\z= .nilFunc/\aK= .bd)\/(k≠i/\k≠j/\∃cQ,os[k]?=some (z,cQ)/\aK=e4 (jm i j) cQ):=by
   intro k z aK hk;by_cases az:k=j
   ·subst az;rw[qg]at hk;cases hk;exact .inl ⟨rfl,rfl,rfl⟩
   ·by_cases aG:k=i
    ·subst aG;rw[H3]at hk;cases hk;exact .inr (.inl ⟨rfl,rfl,rfl⟩)
    ·rw[pv aG az]at hk;cases fT:os[k]? with
     |none=>rw[fT]at hk;cases hk
     |some p=>rw[fT]at hk;cases hk;exact .inr (.inr ⟨aG,az,_,rfl,rfl⟩)
  have c2:∀cQ:aU,e4 (jm i j) cQ≠ .bd↔cQ≠ .bd:=by intro cQ;cases cQ<;>simp[e4]
  have fV:∀b,a8 aA aJ b->a8 aA os b:=by
   rintro b (ae| ⟨k,z,aK,hk,aa,b4⟩)
   ·exact .inl ae
   ·rcases b7 hk with⟨rfl,rfl,rfl⟩| ⟨rfl,rfl,rfl⟩| ⟨_,_,cQ,fT,rfl⟩
    ·exact .inr ⟨i,_,_,ab,by simp,b4⟩
    ·exact absurd rfl aa
    ·exact .inr ⟨k,_,_,fT,(c2 _).1 aa,b4⟩
  have kE:cT (a8 aA os) (a8 aA aJ) w w:=cT.gk fV;have nY:∀ {p q:Nat},p≠q->Nat.beq p q=false:=by
   intro p q bx;cases ae:Nat.beq p q
   ·rfl
   ·exact absurd (Nat.eq_of_beq_eq_true ae) bx
  have rb:∀ {z:Value} {d:aj},a6 (a8 aA os) os w z d->(z.oneCell'=true->a6 (a8 aA aJ) aJ w z (jm i j d))/\a6 (a8 aA aJ) aJ w z (s8 i j d):=by
   intro z d bE;induction bE with
   |bA h=>exact⟨fun _=>.bA ((h.b9 kE).tx i j).1,.bA ((h.b9 kE).tx i j).2⟩
   | @aP k off g t cs hk=>
    have kH:k≠i:=fun e=>by subst e;rw[ab]at hk;cases hk
    have n0:k≠j:=fun e=>by subst e;rw[ai]at hk;cases hk
    have:aJ[k]?=some (.pointer (some ⟨g,0,none⟩),.cells t (cs.map (jm i j))):=by rw[pv kH n0,hk];rfl
    exact⟨fun _=>.aP this,.aP this⟩
   | @dc k off g t cs hk=>
    have kH:k≠i:=fun e=>by subst e;rw[ab]at hk;cases hk
    have n0:k≠j:=fun e=>by subst e;rw[ai]at hk;cases hk
    have:aJ[k]?=some (.pointer (some ⟨g,0,none⟩),.cells t (cs.map (jm i j))):=by rw[pv kH n0,hk];rfl
    exact⟨fun _=>.dc this,.dc this⟩
   | @cF k hA off g m c aG p9 r6 hk=>
    have n0:k≠j:=fun e=>by subst e;rw[ai]at hk;cases hk
    have key:a6 (a8 aA aJ) aJ w (.pointer (some ⟨g,hA*p9+off,none⟩)) (jm i j (.cF k hA off)):=by
     by_cases kH:k=i
     ·subst kH;rw[ab]at hk;cases hk;simp only[jm,Nat.beq_refl];exact .cF qg
     ·simp only[jm,nY kH,nY n0];exact .cF (e:=aG) (av:=p9) (es:=r6) (n:=m) (c:=c) (by rw[pv kH n0,hk];rfl)
    exact⟨fun _=>key,key⟩
   | @own k z aG p9 r6 hk h1=>
    have n0:k≠j:=fun e=>by subst e;rw[ai]at hk;cases hk
    have key:a6 (a8 aA aJ) aJ w z (jm i j (.own k)):=by
     by_cases kH:k=i
     ·subst kH;rw[ab]at hk;cases hk;simp only[jm,Nat.beq_refl];exact .own qg h1
     ·simp only[jm,nY kH,nY n0];exact .own (e:=aG) (av:=p9) (es:=r6) (by rw[pv kH n0,hk];rfl) h1
    exact⟨fun _=>key,key⟩
   | @dK k z D7 d hk aa h1=>
    have kH:k≠i:=fun e=>by subst e;rw[ab]at hk;cases hk
    by_cases n0:k=j
    ·rcases aa with rfl| ⟨_,_,rfl⟩
     ·have az:jm i j (.own k)= .aW:=by simp only[jm,nY kH,n0,Nat.beq_refl,nY (fun e=>dS (Eq.symm e))]
      have aG:s8 i j (.own k)= .aW:=az;rw[az,aG];exact⟨fun _=>.bA .aW,.bA .aW⟩
     ·rename_i hA off;have az:jm i j (.cF k hA off)= .aW:=by simp only[jm,nY kH,n0,Nat.beq_refl,nY (fun e=>dS (Eq.symm e))]
      have aG:s8 i j (.cF k hA off)= .aW:=az;rw[az,aG];exact⟨fun _=>.bA .aW,.bA .aW⟩
    ·have fi:aJ[k]?=some (D7,.gone):=by rw[pv kH n0,hk];rfl
     rcases aa with rfl| ⟨hA,off,rfl⟩
     ·have az:jm i j (.own k)= .own k:=by simp only[jm,nY kH,nY n0]
      have aG:s8 i j (.own k)= .own k:=az;rw[az,aG];exact⟨fun _=>.dK fi (.inl rfl) h1,.dK fi (.inl rfl) h1⟩
     ·have az:jm i j (.cF k hA off)= .cF k hA off:=by simp only[jm,nY kH,nY n0]
      have aG:s8 i j (.cF k hA off)= .cF k hA off:=az;rw[az,aG];exact⟨fun _=>.dK fi (.inr ⟨_,_,rfl⟩) h1,.dK fi (.inr ⟨_,_,rfl⟩) h1⟩
   | @agg vs ds af bf _ aN=>
    refine⟨fun h=>by simp[Value.oneCell']at h,.agg (by simpa using af) bf (fun k v d ac aa=> ?_)⟩;rw[List.getElem?_map]at aa;cases hk:ds[k]? with
    |none=>rw[hk]at aa;cases aa
    |some e=>rw[hk]at aa;simp at aa;subst aa;exact(aN k v e ac hk).1 (bf v (List.mem_of_getElem? ac))
   | @a1 vs ds af bJ bp aN=>
    exact⟨fun h1=>by simp[Value.oneCell']at h1,.bA (((a6.a1 af bJ bp).nN).b9 kE)⟩
   | @fn f vs ds af gu _ aN=>
    have key:a6 (a8 aA aJ) aJ w (.func f #[] vs.toArray) (.fn f ds):=.fn af gu (fun k v d ac aa=>by
     have al:=gu d (List.mem_of_getElem? aa);have ad:=(aN k v d ac aa).2;cases d<;>simp[j0,kf]at al<;>exact ad)
    exact⟨fun _=>key,key⟩
   |bP _ aH aN=>exact⟨fun h1=>.bP (fun ae=>(aN ae).1 h1) aH,.bP (fun ae=>(aN ae).2) aH⟩
  refine⟨aJ,h.size,h.defers,h.fH,h.a0,?_,fun t=> ?_,fun k z aK hk=> ?_,fun cx cM z cQ nA eI b h1 ad d1 d2 cC cH=> ?_⟩
  ·rw[<-gV,kj,kj,r4,h.loc,List.map_set,List.map_set,List.map_map,List.map_map];rfl
  ·show a6 _ _ _ _ (look (mI (s8 i j) s.env) t);rw[yo _ (by rfl)];exact(rb (h.env t)).2
  ·rcases b7 hk with⟨rfl,rfl,rfl⟩| ⟨rfl,rfl,rfl⟩| ⟨jM,j4,cQ,fT,rfl⟩
   ·have:=h.cp _ _ _ ab;obtain⟨gI,xs,bJ,bZ,fp,bf,ao⟩:=this;exact⟨gI,xs,bJ,bZ,fp,bf,fun dv gy r d h1 ad=>by
     obtain⟨v,ac,ab⟩:=ao dv gy r d h1 ad;exact⟨v,ac,ab.b9 kE⟩⟩
   ·exact trivial
   ·have hQ:=h.cp _ _ _ fT;cases cQ with
    |bd=>exact trivial
    |gone=>exact hQ
    |b6 ds=>
     obtain⟨az,aG,a7,b5⟩:=hQ;refine⟨az,by simpa using aG,a7,fun nX v d ac aa=> ?_⟩;rw[List.getElem?_map]at aa;cases ai:ds[nX]? with
     |none=>rw[ai]at aa;cases aa
     |some bD=>
      rw[ai]at aa;simp at aa;subst aa;exact(rb (b5 nX v bD ac ai)).1 (a7 v (List.mem_of_getElem? ac))
    |cells t cs=>
     obtain⟨g,arr,rfl,cR,bp,ag,bf,gY⟩:=hQ;refine⟨g,arr,rfl,cR,bp,by simpa using ag,bf,fun gy v d ac aa=> ?_⟩;rw[List.getElem?_map]at aa;cases ai:cs[gy]? with
     |none=>rw[ai]at aa;cases aa
     |some bD=>
      rw[ai]at aa;simp at aa;subst aa;refine(rb (gY gy v bD ac ai)).1 (bf v ?_);rw[<-Array.getElem?_toList]at ac;exact List.mem_of_getElem? ac
    |row aG p9 r6=>
     obtain⟨gI,xs,bJ,bZ,fp,bf,ao⟩:=hQ;exact⟨gI,xs,bJ,bZ,fp,bf,fun dv gy r d h1 ad=>by
      obtain⟨v,ac,ab⟩:=ao dv gy r d h1 ad;exact⟨v,ac,ab.b9 kE⟩⟩
  ·have dD:∀ {k z aK},aJ[k]?=some (z,aK)->aK≠ .bd->∃Bm yR,os[Bm]?=some (z,yR)/\yR≠ .bd/\Bm≠j/\((k=j/\Bm=i)\/(k≠j/\Bm≠i/\Bm=k)):=by
    intro k z aK hk aa;rcases b7 hk with⟨rfl,rfl,rfl⟩| ⟨rfl,rfl,rfl⟩| ⟨jM,j4,cQ,fT,rfl⟩
    ·exact⟨i,_,ab,by simp,dS,.inl ⟨rfl,rfl⟩⟩
    ·exact absurd rfl aa
    ·exact⟨k,_,fT,(c2 _).1 aa,j4,.inr ⟨j4,jM,rfl⟩⟩
   obtain⟨hP,jN,gf,s1,_,t1⟩:=dD h1 d1;obtain⟨ir,nw,iu,s2,_,t2⟩:=dD ad d2;have:=h.inj hP ir _ _ _ _ b gf iu s1 s2 cC cH;omega
 ·exact⟨os,h⟩
theorem PH:∀ (l:List (Nat×Nat)) {os:cu} {s:bu},bT aA aY n os s a w->∃aJ,bT aA aY n aJ (yi l s) a w
 | [],os,s,h=>⟨os,h⟩
 |p::r,os,s,h=>by
  obtain⟨fy,h1⟩:=YC (p:=p) h;exact PH r h1
theorem EQ{all:List Oper}:∀ (l:List Oper) {os:cu} {s:bu} {K:bu->Prop},bT aA aY n os s a w->yj all l s K->∃aJ s',bT aA aY n aJ s' a w/\K s'
 | [],os,s,K,h,ak=>⟨os,s,h,ak⟩
 |o::r,os,s,K,h,ak=>by
  unfold yj at ak;split at ak
  ·split at ak
   ·obtain⟨aJ,s',bb,ak,_,_⟩:=tn _ h ak;exact EQ r bb ak
   ·exact EQ r h ak
  ·exact EQ r h ak
theorem YD(aT:P.follows .mixedOrders=true)(aO:cS P ah=true)(aH: (ay ah 0).size=0){id:Nat}{K:bu->Prop}(ee:∀a w,c8 aA aY n K a w->E .normal a w)(af:ops.toList.all (wL n)=true)(h:bT aA aY n os s a w)(ak:HA ah P ops K s):
  (Code.region id ops true).wp P E a w:=by
 unfold HA at ak;obtain⟨os,s,h,ak⟩:=EQ _ h ak;unfold Na at ak;have ak:=DY.1 ak;obtain⟨mU,jl,hlen,⟨ER,u3⟩,Bk⟩:=PE (aA:=aA) (aY:=aY) (E:=E) aO aH ops.toList af ak;have ak:K (yi jl (en mU ⟨s.env,s.loc++List.replicate (q4 ops.toList) .bd⟩ ql ops.toList.length)):=by
  split at u3
  ·exact u3
  ·exact u3
 rw[List.nil_append]at ER;have hlen:mU.length=ops.size:=by simpa using hlen
 have ak:K (yi jl (en mU ⟨s.env,s.loc++List.replicate (q4 ops.toList) .bd⟩ ql ops.size)):=by simpa using ak
 have ee:∀a w,c8 aA aY n (fun s'=>K (yi jl s')) a w->E .normal a w:=fun a w ⟨os,s,h,ak⟩=>by
  obtain⟨aJ,bb⟩:=PH jl h;exact ee a w ⟨aJ,_,bb,ak⟩
 refine wp_region_any aT ?_;have ax:w.grownBy {w with drawn:=w.drawn+1} none:=⟨rfl,rfl,rfl,Nat.le_refl _,fun _ _ _=>rfl⟩
 obtain⟨aJ,bb⟩:=Oi (h.nq ax) (q4 ops.toList);have Bl:wk ops.toList 0=true:=by simp only[DF,Bool.and_eq_true]at ER;exact ER.1
 have cy:mv (Array.replicate ops.size false)=fun _=>false:=by
  funext j;simp only[mv,Array.getD_eq_getD_getElem?,Array.getElem?_replicate];split<;>rfl
 refine Yy (XL hlen ER) hlen Bl (fun i o bl aF jQ=>Bk i o bl (by simpa using aF) jQ) ak ee _ _ _ _ (by simp) (fun i o ab _=>by rw[cy]at ab;cases ab) (by simp) ?_;rw[cy];have ES:en mU (⟨s.env,s.loc++List.replicate (q4 ops.toList) .bd⟩:bu) (fun _=>false) ops.size= ⟨s.env,s.loc++List.replicate (q4 ops.toList) .bd⟩:=yU (m:=0) ops.size (Nat.zero_le _) (fun _ _ _=>rfl);exact⟨aJ,_,bb,fun t=>by rw[ES],fun k=>by rw[ES],rfl⟩
end
open Go
section
variable {P:Program} {ah:c4} {aA:Nat->Prop} {aY:dP} {n:Nat} {os:cu} {s:bu} {a:Act} {w:World} {A:Nat->Prop}
def mV(n:Nat):Code->Bool
 | .region _ ops _=>ops.toList.all (wL n)
 | .seq a b=>mV n a&&mV n b
 | .cond _ a b=>mV n a&&mV n b
 | .block _ c=>mV n c
 | .loop c=>mV n c
 | .scope c=>mV n c
 |_=>true
def YE(aA:Nat->Prop)(aY:dP)(n:Nat)(K:Exit->bu->Prop)(e:Exit)(a:Act)(w:World):Prop:=c8 aA aY n (K e) a w
theorem PI(aT:P.follows .mixedOrders=true)(aO:cS P ah=true)(aH: (ay ah 0).size=0):∀ (c:Code) {K:Exit->bu->Prop} {E:Exit->Act->World->Prop} {os:cu} {s:bu} {a:Act} {w:World},
  mV n c=true->(∀e a w,YE aA aY n K e a w->E e a w)->bT aA aY n os s a w->oB ah P c K s->c.wp P E a w:=by
 intro c;induction c with
 |skip=>exact fun _ ee h ak=>wp_skip (ee _ _ _ ⟨_,_,h,ak⟩)
 |region id ops draw=>
  intro K E os s a w aI ee h ak;cases draw with
  |false=>exact wp_region_list (Iu aO aH (K:=fun s=>K .normal s) (fun a w ha=>ee _ _ _ ha) _ aI h ak)
  |true=>exact YD aT aO aH (K:=fun s=>K .normal s) (fun a w ha=>ee _ _ _ ha) aI h ak
 |seq x y I0 I1=>
  intro K E os s a w aI ee h ak;simp only[mV,Bool.and_eq_true]at aI;refine wp_seq (I0 aI.1 (fun e a w ha=> ?_) h ak);obtain⟨os,s,h,ak⟩:=ha;cases e with
  |normal=>exact I1 aI.2 ee h ak
  |_=>exact ee _ _ _ ⟨os,s,h,ak⟩
 |cond c x y I0 I1=>
  intro K E os s a w aI ee h ak;simp only[mV,Bool.and_eq_true]at aI;have al:=h.bq c;have ak: (match bq s c with
   | .v (.bool t)=>wi t (oB ah P x K s) (oB ah P y K s)
   |_=>False):=ak
  split at ak
  ·rename_i t e;rw[e]at al;refine wp_cond_split al.h2.1 (fun bW=> ?_) (fun bW=> ?_)
   ·subst bW;exact I0 aI.1 ee h ak
   ·subst bW;exact I1 aI.2 ee h ak
  ·exact ak.elim
 |block id c aN=>
  intro K E os s a w aI ee h ak;refine wp_block (aN aI (fun e a w ha=> ?_) h ak);obtain⟨os,s,h,ak⟩:=ha;cases e with
  |exit j=>
   simp only[Exit.inBlock];have ak: (match Nat.beq j id with
    |true=>K .normal s
    |false=>K (.exit j) s):=ak
   split at ak
   ·rename_i ae;rw[if_pos (Nat.eq_of_beq_eq_true ae)];exact ee _ _ _ ⟨os,s,h,ak⟩
   ·rename_i ae;rw[if_neg (fun e=>by subst e;simp at ae)];exact ee _ _ _ ⟨os,s,h,ak⟩
  |_=>exact ee _ _ _ ⟨os,s,h,ak⟩
 |loop c aN=>
  intro K E os s a w aI ee h ak;obtain⟨S,enc,I,μ,nQ,⟨iR,YF,HO⟩,YG⟩:=ak;obtain⟨fy,s1,h1,hle⟩:=rn nQ h HO;obtain⟨jb,ad⟩:=h1.le hle;refine wp_loop_ghost (fun m a w=>∃x,I x/\μ x=m/\∃os,bT aA aY n os (enc x) a w) (μ iR) ⟨iR,YF,rfl,jb,ad⟩ ?_;rintro m a w ⟨x,an,rfl,os,h⟩;refine aN aI (fun e a w ha=> ?_) h (YG x an);obtain⟨os,s,h,ak⟩:=ha;cases e with
  |normal=>
   obtain⟨x',te,ap,hle⟩:=ak;obtain⟨rp,ET,aC,hle⟩:=rm nQ h hle;obtain⟨aJ,bb⟩:=aC.le hle;exact⟨μ x',ap,x',te,rfl,aJ,bb⟩
  |_=>exact ee _ _ _ ⟨os,s,h,ak⟩
 |exit id=>exact fun _ ee h ak=>wp_exit (ee _ _ _ ⟨_,_,h,ak⟩)
 |ret=>exact fun _ ee h ak=>wp_ret (ee _ _ _ ⟨_,_,h,ak⟩)
 |label l=>exact fun _ ee h ak=>wp_label (ee _ _ _ ⟨_,_,h,ak⟩)
 |scope c aN=>
  intro K E os s a w aI ee h ak;refine wp_scope_straight (aN aI (fun e a w ha=> ?_) h ak);obtain⟨os,s,h,ak⟩:=ha;cases e with
  |goto l=>exact ak.elim
  |_=>exact ee _ _ _ ⟨os,s,h,ak⟩
 |_=>intro K E os s a w aI ee h ak;exact ak.elim
theorem I2{x:Value}{d:aj}{Q:aj->Prop}(h:bT aA aY n os s a w)(ao:a6 (a8 aA os) os w x d)(ak:qX s.loc d Q):∃bD,Q bD/\bO aA w x bD:=by
 have bJ:∀ (e:aj) j,e∈fm [d]->kF e=some j->j∈hm (fm [d]):=fun e j aa ai=>wB aa ai;obtain⟨bD,fz,ab⟩:=Oa h ao bJ ak;exact⟨bD,fz,ab.b9 (cT.gk (fun b ae=>.inl ae))⟩
theorem I3(aO:cS P ah=true)(h:bT aA aY n os s a w):∀ {j1:List ResultVar} {Q:List aj->Prop},As ah s j1 Q->∃vs ds,Q ds/\vs.length=j1.length/\vs.length=ds.length/\(∀ (i:Nat) v d,vs[i]?=some v->ds[i]?=some d->bO aA w v d)/\
  (List.mapM (m:=Sem) (fun r:ResultVar=>match r with
   | .tmp t=>pure (a.tmps.getD t undef)
   | .cell p t=>do loadVar t (<-asAddr (a.tmps.getD p undef))) j1).run P w= .ok vs w
 | [],Q,ak=>⟨[],[],ak,rfl,rfl,fun i v d ac _=>by simp at ac,by simp⟩
 | .tmp t::r,Q,ak=>by
  have ak:=gv.1 ak;obtain⟨d,ak,ab⟩:=I2 h (h.env t) ak;obtain⟨vs,ds,fz,h1,ad,aC,bh⟩:=I3 aO h ak;refine⟨a.tmps.getD t undef::vs,d::ds,fz,by simp[h1],by simp[ad],fun i v bD ac aa=> ?_,?_⟩
  ·cases i with
   |zero=>
    simp only[List.getElem?_cons_zero,Option.some.injEq]at ac aa;subst ac aa;exact ab
   |succ i=>exact aC i v bD (by simpa using ac) (by simpa using aa)
  ·rw[List.mapM_cons];simp only[Sem.run_bind,Sem.run_pure,Result.andThen_ok,bh]
 | .cell p ty::r,Q,ak=>by
  unfold As at ak;have au:=h.env p;split at ak
  ·rename_i i off e;rw[e]at au;obtain⟨g,c1,cY,ab,ac⟩:=au.nR;split at ak
   ·rename_i t2 cs af;rw[h.loc]at af;obtain⟨x',cV⟩:=iM af (by simp);rw[ab]at cV;cases cV;split at ak
    ·exact ak.elim
    ·rename_i ag;obtain⟨_,_,_,_,_,_,cP⟩:=tb h.cp ab;obtain⟨_,ak⟩:=oC ak;obtain⟨d,y,ak,k1,k2⟩:=wr (P:=P) aO ag (b3:=⟨g,off,none⟩) (fun j d aa=>by rw[List.getElem?_drop]at aa;rw[Addr.mN];exact cP _ d aa) ak;obtain⟨d,ak,jL⟩:=I2 h k2 ak;obtain⟨vs,ds,fz,h1,ad,aC,bh⟩:=I3 aO h ak;refine⟨y::vs,d::ds,fz,by simp[h1],by simp[ad],fun i v bD ac aa=> ?_,?_⟩
     ·cases i with
      |zero=>
    simp only[List.getElem?_cons_zero,Option.some.injEq]at ac aa;subst ac aa;exact jL
      |succ i=>exact aC i v bD (by simpa using ac) (by simpa using aa)
     ·rw[List.mapM_cons];have az: (asAddr (a.tmps.getD p undef)).run P w= .ok ⟨g,off,none⟩ w:=by rw[ac];rfl
      simp only[Sem.run_bind,Sem.run_pure,Result.andThen_ok,az,k1,bh]
   ·exact ak.elim
  ·exact ak.elim
theorem PJ(aO:cS P ah=true){fn:Func}{d:aj}(h:bT aA aY n os s a w)(ak:Nb ah fn.results.toList d s):∃v,(results fn a.tmps).run P w= .ok v w/\bO aA w v d:=by
 obtain⟨vs,ds,fz,h1,ad,aC,bh⟩:=I3 aO h ak;have cW: (results fn a.tmps).run P w= .ok (if h:vs.toArray.size=1 then vs.toArray[0]else .tuple vs.toArray) w:=by
  unfold results;rw[Array.mapM_eq_mapM_toList];simp only[Sem.run_bind,Sem.run_map,Result.andThen_ok,Sem.run_pure];exact congrArg (fun r:Result (List Value)=>(r.andThen fun a w'=>Result.ok a.toArray w').andThen fun a w'=>Result.ok (if h:a.size=1 then a[0]else .tuple a) w') bh
 refine⟨_,cW,?_⟩;have fz: (match ds with
  | [x]=>fP x d
  |l=>fP (.a1 l) d):=fz
 have many:¬vs.length=1->fP (.a1 ds) d->bO aA w (if h:vs.toArray.size=1 then vs.toArray[0]else .tuple vs.toArray) d:=by
  intro bx fz;simp only[List.size_toArray,bx,dite_false];exact(bO.a1 ad aC).le fz
 rcases ds with _| ⟨x,_| ⟨y,r⟩⟩
 ·exact many (by simp at ad;simp[ad]) fz
 ·obtain⟨v,rfl⟩:∃v,vs=[v]:=List.length_eq_one_iff.1 (by simpa using ad);simpa using(aC 0 v x rfl rfl).le fz
 ·exact many (by simp at ad;omega) fz
theorem I4:∀ (l:List aj) (b t:Nat),look (rV b l) t=if b<=t then(l[t-b]?).getD .aW else .aW
 | [],b,t=>by simp[rV,look]
 |d::r,b,t=>by
  simp only[rV,look];split
  ·rename_i ae;have:=Nat.eq_of_beq_eq_true ae;subst this;simp
  ·rename_i ae;have bx:b≠t:=fun e=>by subst e;simp at ae
   rw[I4 r (b+1) t];by_cases hle:b<=t
   ·rw[if_pos hle,if_pos (by omega)];obtain⟨m,rfl⟩:∃m,t=b+1+m:=⟨t-b-1,by omega⟩
    rw[show b+1+m-b=m+1 by omega,show b+1+m- (b+1)=m by omega];simp
   ·rw[if_neg hle,if_neg (by omega)]
theorem PK:∀ {vs:List Value} {ds:List aj},ph A w vs ds->vs.length=ds.length
 | [],[],_=>rfl
 | [],_::_,h=>h.elim
 |_::_,[],h=>h.elim
 |_::_,_::_,h=>by simp[PK h.2]
theorem PL:∀ {vs:List Value} {ds:List aj} {i:Nat} {v:Value} {d:aj},ph A w vs ds->vs[i]?=some v->ds[i]?=some d->bO A w v d
 | [],_,i,v,d,_,ac,_=>by simp at ac
 |_::_,[],i,v,d,h,_,aa=>by simp at aa
 |x::vs,y::ds,0,v,d,h,ac,aa=>by simp at ac aa;subst ac;subst aa;exact h.1
 |x::vs,y::ds,i+1,v,d,h,ac,aa=>PL (i:=i) h.2 (by simpa using ac) (by simpa using aa)
theorem PM{w w':World}(h:mJ (fun _=>False) w w'):w.grownBy w' none:=⟨h.os,h.tape,h.output,h.size,fun k hk _=>h.block k hk (fun h=>h)⟩
theorem YH(aT:P.follows .mixedOrders=true)(aO:cS P ah=true)(aH: (ay ah 0).size=0){f:FuncId}{fn:Func}{c:Code}{args:List aj}{d:aj}(aI:P.funcs[f]?=some fn)(wW: (fn.name== "runtime.NumGoroutine")=false)(ae:fn.body=some c)
  (eO:mV fn.ntmps c=true) (aS:Nat.ble args.length fn.ntmps=true) (h:Nc ah P c fn.results.toList args d):bg P f args d:=by
 have aS:=Nat.le_of_ble_eq_true aS;refine⟨fun vs w=> ?_,fun A w et aw sc=> ?_⟩
 ·simp only[callFunc,Sem.run_bind,run_program,Result.andThen_ok,aI,wW,ae,Option.isNone_some];rfl
 ·have hlen:=PK sc;refine calls_of_wp aI ae (PI (aA:=A) (aY:=⟨w,fun _=>False,[]⟩) (n:=fn.ntmps) (os:=[]) (s:=⟨rV 0 args,[]⟩) aT aO aH c eO (fun e a w' ha=> ?_) ?_ h)
  ·obtain⟨os,s,ao,ak⟩:=ha;cases e with
   |normal=>
    obtain⟨v,ac,ab⟩:=PJ aO ao ak;exact⟨ao.defers,v,ac,v,rfl,ab,PM ao.fH⟩
   |ret=>
    obtain⟨v,ac,ab⟩:=PJ aO ao ak;exact⟨ao.defers,v,ac,v,rfl,ab,PM ao.fH⟩
   |_=>exact ak.elim
  ·refine⟨by simp;omega,rfl,⟨rfl,rfl,rfl,Nat.le_refl _,fun _ _ _=>rfl⟩,fun b ae aT=>aT.elim (fun h=>by have:=aw b ae;have h:w.heap.size<=b:=h;omega) (fun h=>h),rfl,fun t=> ?_,fun i x o ab=>by simp at ab,fun i j x o y aK b ab=>by simp at ab⟩;rw[I4,if_pos (Nat.zero_le _),Nat.sub_zero];cases aa:args[t]? with
   |none=>exact .bA .aW
   |some d=>
    have ap:=(List.getElem?_eq_some_iff.1 aa).1;have ac:=List.getElem?_eq_getElem (l:=et) (i:=t) (by omega);have ab:=PL sc ac aa;have: (et.toArray++Array.replicate (fn.ntmps-et.toArray.size) undef).getD t undef=et[t]'(by omega):=by
     rw[Array.getD_eq_getD_getElem?,Array.getElem?_append_left (by simp;omega)];simp[ac]
    simp only[Option.getD_some];rw[this];refine .bA (ab.b9 (cT.gk (fun b ae=> ?_)));rcases ae with ae| ⟨i,x,o,ab,_⟩
    ·exact ae
    ·simp at ab
end
open Go
section
variable {P:Program} {ah:c4} {W:World} {H:Type} {enc:TypeId×Value->H}
def I5(g:TypeId->List aj->Prop):List (TypeId×Nat)->List aj->Prop
 | [],ds=>ds=[]
 |f::r,ds=>∃a b,ds=a++b/\g f.1 a/\I5 g r b
def qm(ah:c4):Nat->TypeId->List aj->Prop
 |0,_,_=>False
 |n+1,t,ds=>match (ay ah t).k with
  | .int k=>∃i,ds=[.v (.int k i)]/\(Lit.int k i).wf=true
  | .bool=>∃b,ds=[.v (.bool b)]
  | .str=>∃s:ByteArray,ds=[.v (.string s)]/\s.size<=maxLen
  | .dW e=>∃es,ds=[.aq (ay ah e).size es false]/\es.length<=maxLen/\∀r∈es,qm ah n e r
  | .cr fs=>I5 (qm ah n) fs ds
  |_=>False
def wX(ah:c4)(g:TypeId->Bool):List (TypeId×Nat)->Nat->Nat->Bool
 | [],off,total=>Nat.beq off total
 |f::r,off,total=>Nat.beq f.2 off&&g f.1&&Nat.blt 0 (ay ah f.1).size&&wX ah g r (off+(ay ah f.1).size) total
def pA(ah:c4):Nat->TypeId->Bool
 |0,_=>false
 |n+1,t=>match (ay ah t).k with
  | .int _| .bool| .str=>Nat.beq (ay ah t).size 1
  | .dW e=>Nat.beq (ay ah t).size 1&&Nat.blt 0 (ay ah e).size&&pA ah n e
  | .cr fs=>Nat.blt 0 (ay ah t).size&&wX ah (pA ah n) fs 0 (ay ah t).size
  |_=>false
abbrev wY:Nat->Prop:=fun _=>False
theorem I6(aO:cS P ah=true){t:TypeId}(ag: (ay ah t).size≠0):P.cellsOf t=(ay ah t).size:=by
 obtain⟨i,ab,h1,_⟩:=oD aO ag;simp[Program.cellsOf,ab,h1]
structure sn(W:World)(cs:List Value)(ds:List aj):Prop where
 len:cs.length=ds.length
 dD:∀v∈cs,v.oneCell'=true
 bA:∀ (i:Nat) v d,cs[i]?=some v->ds[i]?=some d->bO wY W v d
theorem sn.Bn{v:Value}{d:aj}(h1:v.oneCell'=true)(h:bO wY W v d):sn W [v] [d]:=
 ⟨rfl,fun u hu=>by simp at hu;subst hu;exact h1,fun i u e hu he=>by
  cases i with
  |zero=>simp at hu he;subst hu;subst he;exact h
  |succ i=>simp at hu⟩
theorem sn.append{cs cY:List Value}{ds fJ:List aj}(h:sn W cs ds)(bb:sn W cY fJ):sn W (cs++cY) (ds++fJ):=
 ⟨by simp[h.len,bb.len],fun v ac=>by rcases List.mem_append.1 ac with ac|ac;exact h.dD v ac;exact bb.dD v ac,fun i v d ac aa=>by
  by_cases ab:i<cs.length
  ·rw[List.getElem?_append_left ab]at ac;rw[List.getElem?_append_left (by rw[<-h.len];exact ab)]at aa;exact h.bA i v d ac aa
  ·rw[List.getElem?_append_right (by omega)]at ac;rw[List.getElem?_append_right (by rw[<-h.len];omega),<-h.len]at aa;exact bb.bA _ v d ac aa⟩
theorem YI{a:Addr}{v:Value}(h:W.cell? a=some v):a.block<W.heap.size:=by
 unfold World.cell? at h;split at h
 ·rename_i bp;exact(Array.getElem?_eq_some_iff.1 bp).1
 ·cases h
theorem YJ{base:Nat}{a:Addr}{n:Nat}{cs:List Value}(h:W.cells? base a n=some cs):cs.length=n/\∀ (j:Nat) v,cs[j]?=some v->W.cell? (a.add j)=some v:=by
 unfold World.cells? at h;split at h
 ·have af:=mapM_some_length h;rw[List.length_range]at af;refine⟨af,fun j v ac=> ?_⟩;have ai:=(List.getElem?_eq_some_iff.1 ac).1;have:=mapM_some_get h j j (by rw[List.getElem?_range (by omega)]);rw[this,ac]
 ·cases h
theorem PN{g:TypeId->List aj->Prop}{gs:TypeId->Bool}{cs:List Value}{total:Nat}(hlen:cs.length=total):
  ∀ (fs:List (TypeId×Nat)) (off:Nat),(∀f∈fs,gs f.1=true->∃ds,g f.1 ds/\ds.length=(ay ah f.1).size/\sn W ((cs.drop f.2).take (ay ah f.1).size) ds)->wX ah gs fs off total=true->off<=total->
   ∃ds,I5 g fs ds/\ds.length=total-off/\sn W (cs.drop off) ds
 | [],off,_,h,YK=>by
  have:=Nat.eq_of_beq_eq_true h;subst this;refine⟨[],rfl,(Nat.sub_self _).symm,?_⟩;rw[List.drop_of_length_le (by omega)];exact⟨rfl,by simp,by simp⟩
 |f::r,off,aI,h,YK=>by
  simp only[wX,Bool.and_eq_true]at h;obtain⟨⟨⟨h1,ad⟩,aC⟩,bh⟩:=h;have h1:=Nat.eq_of_beq_eq_true h1;obtain⟨ds,aa,iL,al⟩:=aI f (by simp) ad;have hle:off+(ay ah f.1).size<=total:=by
   have:=al.len;rw[iL,List.length_take,List.length_drop,h1,hlen]at this;omega
  obtain⟨fJ,p7,YL,ll⟩:=PN hlen r (off+(ay ah f.1).size) (fun jk DV=>aI jk (by simp[DV])) bh hle;refine⟨ds++fJ,⟨ds,fJ,rfl,aa,p7⟩,by rw[List.length_append,iL,YL];omega,?_⟩;have:cs.drop off=(cs.drop off).take (ay ah f.1).size++cs.drop (off+(ay ah f.1).size):=by
   rw[<-List.drop_drop,List.take_append_drop]
  rw[this];rw[h1]at al;exact al.append ll
theorem I7(aO:cS P ah=true){Bo:Nat->Bool}{base:Nat}{held:Bool}:∀ (n:Nat) (t:TypeId) (m:Nat) (cs:List Value) (x:DataW H×List MemPlace),DataW.trod enc P W base Bo held m t cs=some x->pA ah n t=true->
  ∃ds,qm ah n t ds/\ds.length=(ay ah t).size/\sn W cs ds
 |0,t,m,cs,x,_,ag=>by simp[pA]at ag
 |n+1,t,m,cs,x,h,ag=>by
  unfold pA at ag;unfold qm;split at ag
  ·rename_i k hk;have bE:=Nat.eq_of_beq_eq_true ag;have hu:=wq aO hk;cases m with
   |zero=>simp[DataW.trod]at h
   |succ m=>
    have key:∃i,cs=[.int k i]/\(Lit.int k i).wf=true:=by
     unfold DataW.trod at h;rw[hu]at h;split at h<;>simp_all
    obtain⟨i,rfl,hw⟩:=key;exact⟨_,⟨i,rfl,hw⟩,by simp[bE],.Bn rfl (.v rfl)⟩
  ·rename_i hk;have bE:=Nat.eq_of_beq_eq_true ag;have hu:=DM aO hk;cases m with
   |zero=>simp[DataW.trod]at h
   |succ m=>
    have key:∃b,cs=[.bool b]:=by
     unfold DataW.trod at h;rw[hu]at h;split at h<;>simp_all
    obtain⟨b,rfl⟩:=key;exact⟨_,⟨b,rfl⟩,by simp[bE],.Bn rfl (.v rfl)⟩
  ·rename_i hk;have bE:=Nat.eq_of_beq_eq_true ag;have hu:=rZ aO hk;cases m with
   |zero=>simp[DataW.trod]at h
   |succ m=>
    have key:∃s:ByteArray,cs=[.string s]/\s.size<=maxLen:=by
     unfold DataW.trod at h;rw[hu]at h;split at h<;>simp_all
    obtain⟨s,rfl,hw⟩:=key;exact⟨_,⟨s,rfl,hw⟩,by simp[bE],.Bn rfl (.v rfl)⟩
  ·rename_i e hk;simp only[Bool.and_eq_true]at ag;obtain⟨⟨bE,he⟩,td⟩:=ag;have bE:=Nat.eq_of_beq_eq_true bE;have he:0<(ay ah e).size:=Nat.le_of_ble_eq_true he;have hu:=jJ aO hk;have YM:=I6 aO (t:=e) (by omega);rcases Go.Deep.open_slice hu h with⟨rfl,_⟩| ⟨a,len,cap,YN,DK,D,aj6,rfl,ae,af,aT,YO,_,lQ⟩
   ·exact⟨_,⟨[],rfl,by simp,by simp⟩,by simp[bE],.Bn rfl .nil⟩
   ·have lr:len<=YN:=by rw[YO];split<;>omega
    rw[YM]at lQ;obtain⟨es,YP,oL⟩:=DU (Q:=fun i r=>∃cY,W.cells? base (a.add (i* (ay ah e).size)) (ay ah e).size=some cY/\qm ah n e r/\r.length=(ay ah e).size/\sn W cY r) len (fun i ab=>by
     obtain⟨cY,h1,ad⟩:=lQ i (by omega);obtain⟨ds,aC,bh,bL⟩:=I7 aO n e DK cY _ ad td;exact⟨ds,cY,h1,aC,bh,bL⟩)
    have cP:∀ (i j:Nat) r d,es[i]?=some r->r[j]?=some d->∃v,W.cell? (a.add (i* (ay ah e).size+j))=some v/\v.oneCell'=true/\bO wY W v d:=by
     intro i j r d ab ai;obtain⟨cY,h1,aC,bh,bL⟩:=oL i r ab;have fX:=(List.getElem?_eq_some_iff.1 ai).1;have ac:=List.getElem?_eq_getElem (l:=cY) (i:=j) (by rw[bL.len];exact fX);refine⟨cY[j]'(by rw[bL.len];exact fX),?_,bL.dD _ (List.getElem_mem _),bL.bA j _ d ac ai⟩;rw[<-Addr.DJ];exact(YJ h1).2 j _ ac
    refine⟨_,⟨es,rfl,by omega,fun r ao=> ?_⟩,by simp[bE],.Bn rfl (.aq (fun i j=>match W.cell? (a.add (i* (ay ah e).size+j))with
     |some v=>if v.oneCell' then v else .nilFunc
     |none=>.nilFunc) YP af aT (by simp) (fun r ao=> ?_) (fun _ h=>h) (fun bx=> ?_) (fun i j=> ?_) (fun i j r d ab ai=> ?_) (fun i j r d ab ai=> ?_))⟩
    ·obtain⟨i,ab,rfl⟩:=List.getElem_of_mem ao;obtain⟨_,_,aC,_⟩:=oL i _ (List.getElem?_eq_getElem ab);exact aC
    ·obtain⟨i,ab,rfl⟩:=List.getElem_of_mem ao;obtain⟨_,_,_,aC,_⟩:=oL i _ (List.getElem?_eq_getElem ab);exact aC
    ·cases PO:es with
     |nil=>exact absurd PO bx
     |cons r aj7=>
      have aH:es[0]?=some r:=by rw[PO];rfl
      obtain⟨_,_,_,aC,_⟩:=oL 0 r aH;obtain⟨v,ac,_⟩:=cP 0 0 r _ aH (List.getElem?_eq_getElem (by omega));have:=YI ac;rwa[Addr.uF]at this
    ·split
     ·split
      ·assumption
      ·rfl
     ·rfl
    ·obtain⟨v,ac,h1,_⟩:=cP i j r d ab ai;simp only[ac,h1,if_true]
    ·obtain⟨v,ac,h1,ad⟩:=cP i j r d ab ai;simp only[ac,h1,if_true];exact ad
  ·rename_i fs hk;simp only[Bool.and_eq_true]at ag;have bE:0<(ay ah t).size:=Nat.le_of_ble_eq_true ag.1;obtain⟨F,hu,dA,_⟩:=Az aO hk;obtain⟨xs,dM,rfl,rfl,hlen,kV,oO⟩:=DataW.trod_struct hu h;rw[I6 aO (by omega)]at hlen;have key:∀ (F:List Field) (fs:List (TypeId×Nat)),lK F fs=true->∀f∈fs,∃ (i:Nat) (jk:Field),F[i]?=some jk/\jk.type=f.1/\jk.offset=f.2:=by
    intro F;induction F with
    |nil=>
     intro fs dA f aI;cases fs with
     |nil=>simp at aI
     |cons _ _=>simp[lK]at dA
    |cons f0 F aN=>
     intro fs dA f aI;cases fs with
     |nil=>simp at aI
     |cons g r=>
      simp only[lK,Bool.and_eq_true]at dA;rcases List.mem_cons.1 aI with rfl|aI
      ·exact⟨0,f0,rfl,Nat.eq_of_beq_eq_true dA.1.1.1,Nat.eq_of_beq_eq_true dA.1.1.2⟩
      ·obtain⟨i,jk,h1,ad⟩:=aN r dA.2 f aI;exact⟨i+1,jk,by simpa using h1,ad⟩
   obtain⟨ds,h1,ad,aC⟩:=PN (W:=W) (g:=qm ah n) (gs:=fun t=>pA ah n t&&Nat.blt 0 (ay ah t).size) hlen fs 0 (fun f aI ax=>by
    simp only[Bool.and_eq_true]at ax;have PP:0<(ay ah f.1).size:=Nat.le_of_ble_eq_true ax.2;obtain⟨i,jk,az,aG,a7⟩:=key _ _ dA f aI;have:=oO i jk (by simpa using az);rw[aG,a7,I6 aO (by omega)]at this;have dG:i<xs.length:=by rw[kV];have:=(List.getElem?_eq_some_iff.1 az).1;simpa using this
    rw[List.getElem?_eq_getElem dG]at this;exact I7 aO n f.1 dM _ _ this ax.1) (by
     have gen:∀ (fs:List (TypeId×Nat)) (off:Nat),wX ah (pA ah n) fs off (ay ah t).size=true->wX ah (fun t=>pA ah n t&&Nat.blt 0 (ay ah t).size) fs off (ay ah t).size=true:=by
      intro fs;induction fs with
      |nil=>exact fun _ h=>h
      |cons f r aN=>
       intro off h;simp only[wX,Bool.and_eq_true]at h⊢;exact⟨⟨⟨h.1.1.1,h.1.1.2,h.1.2⟩,h.1.2⟩,aN _ h.2⟩
     exact gen fs 0 ag.2) (Nat.zero_le _)
   exact⟨ds,h1,by omega,by simpa using aC⟩
  ·cases ag
def Bp(ah:c4)(t:TypeId)(ds:List aj):aj:=
 match (ay ah t).agg with
 |true=>.agg ds
 |false=>ds.headD .aW
def EU(ah:c4)(n:Nat):List TypeId->List aj->Prop
 | [],ds=>ds=[]
 |t::r,ds=>∃a b,ds=Bp ah t a::b/\qm ah n t a/\EU ah n r b
theorem YQ(aO:cS P ah=true){Bo:Nat->Bool}{base cH:Nat}{held:Bool}{n:Nat}{t:TypeId}{v:Value}{d:DataW H}{aX:List MemPlace}(ac:Value.okWide P W .any cH t v)(h:DataW.Trod enc P W base Bo held t v d aX)(ag:pA ah n t=true):
  ∃ds,qm ah n t ds/\bO wY W v (Bp ah t ds):=by
 obtain⟨m,h⟩:=h;obtain⟨ds,h1,ad,aC⟩:=I7 aO n t m _ _ h ag;refine⟨ds,h1,?_⟩;have dD:v.cells= #[v]->v.oneCell'=true->(ay ah t).agg=false->(ay ah t).size=1->bO wY W v (Bp ah t ds):=by
  intro al aF aZ bE;rw[al]at aC;rw[bE]at ad;obtain⟨d,rfl⟩:=List.length_eq_one_iff.1 ad;unfold Bp;rw[aZ];exact aC.bA 0 v d rfl rfl
 cases n with
 |zero=>simp[pA]at ag
 |succ n=>
  have EV:∀ {D:TypeDesc},P.underlying t=some D->((ay ah t).size≠0\/(ay ah t).k≠ .e2)->(ay ah t).agg=yq D:=by
   intro D qn bp;obtain⟨I8,PQ,_,aZ⟩:=(nr aO bp).kind;rw[qn]at PQ;cases PQ;exact aZ.symm
  unfold pA at ag;split at ag
  ·rename_i k hk;have hu:=wq aO hk;simp only[Value.okWide,hu,Cell.okWide]at ac;cases v<;>first|exact dD rfl rfl (EV hu (.inr (by rw[hk];simp))) (Nat.eq_of_beq_eq_true ag)| (simp[Cell.ok,hu]at ac)
  ·rename_i hk;have hu:=DM aO hk;simp only[Value.okWide,hu,Cell.okWide]at ac;cases v<;>first|exact dD rfl rfl (EV hu (.inr (by rw[hk];simp))) (Nat.eq_of_beq_eq_true ag)| (simp[Cell.ok,hu]at ac)
  ·rename_i hk;have hu:=rZ aO hk;simp only[Value.okWide,hu,Cell.okWide]at ac;cases v<;>first|exact dD rfl rfl (EV hu (.inr (by rw[hk];simp))) (Nat.eq_of_beq_eq_true ag)| (simp[Cell.ok,hu]at ac)
  ·rename_i e hk;have hu:=jJ aO hk;simp only[Bool.and_eq_true]at ag;obtain⟨_,_,_,rfl⟩:=Go.WideShapes.okWide_slice hu ac;exact dD rfl rfl (EV hu (.inr (by rw[hk];simp))) (Nat.eq_of_beq_eq_true ag.1.1)
  ·rename_i fs hk;obtain⟨F,hu,_,aZ⟩:=Az aO hk;simp only[Value.okWide,hu]at ac;obtain⟨cs,rfl,_⟩:=ac;unfold Bp;rw[aZ];obtain⟨l,rfl⟩:∃l:List Value,cs=l.toArray:=⟨cs.toList,by simp⟩
   exact .agg (by simpa[Value.cells]using aC.len) (fun v ac=>aC.dD v (by simpa[Value.cells]using ac)) (fun i v d ac aa=>aC.bA i v d (by simpa[Value.cells]using ac) aa)
  ·cases ag
theorem PR(aO:cS P ah=true){Bo:Nat->Bool}{base cH:Nat}{held:Bool}{n:Nat}:∀ {lL:List TypeId} {vs:List Value} {ds:List (DataW H)} {aX:List MemPlace},(∀ (j:Nat) t v,lL[j]?=some t->vs[j]?=some v->Value.okWide P W .any cH t v)->
  DataW.TrodAll enc P W base Bo held lL vs ds aX->lL.all (pA ah n)=true->∃so,EU ah n lL so/\ph wY W vs so/\ds.length=lL.length
 | [],[],[],aX,_,_,_=>⟨[],rfl,trivial,rfl⟩
 |t::lL,v::vs,d::ds,aX,ac,h,ag=>by
  obtain⟨p,q,h1,ad,_⟩:=h;simp only[List.all_cons,Bool.and_eq_true]at ag;obtain⟨a,cx,cM⟩:=YQ aO (ac 0 t v rfl rfl) h1 ag.1;obtain⟨b,gl,kK,tB⟩:=PR aO (fun j t v h1 ad=>ac (j+1) t v (by simpa using h1) (by simpa using ad)) ad ag.2;exact⟨_,⟨a,b,rfl,cx,gl⟩,⟨cM,kK⟩,by simp[tB]⟩
 | [],[],_::_,aX,_,h,_=>h.elim
 | [],_::_,_,aX,_,h,_=>h.elim
 |_::_,[],_,aX,_,h,_=>h.elim
 |_::_,_::_,[],aX,_,h,_=>h.elim
theorem PS(af:laidOutB P=true){yZ:World}(ae:Go.RowKit.Below W.heap.size W yZ):∀ {lL:List TypeId} {vs:List Value} {ds:List (DataW H)} {aX:List MemPlace},lL.all (fun t=>P.readableRec t&&decide (t<P.types.size))=true->(∀x∈aX,x.block<W.heap.size)->
  DataW.TrodAll enc P W 0 (fun _=>true) true lL vs ds aX->DataW.TrodAll enc P yZ 0 (fun b=>decide (b<W.heap.size)) true lL vs ds aX
 | [],[],[],aX,_,_,h=>h
 |t::lL,v::vs,d::ds,aX,ao,ap,h=>by
  obtain⟨p,q,h1,ad,rfl⟩:=h;simp only[List.all_cons,Bool.and_eq_true,decide_eq_true_eq]at ao;exact⟨p,q,Go.RowKit.Below.trod af ao.1.1 ao.1.2 h1 ae (fun x an=>ap x (by simp[an])),PS af ae ao.2 (fun x an=>ap x (by simp[an])) ad,rfl⟩
 | [],[],_::_,aX,_,_,h=>h.elim
 | [],_::_,_,aX,_,_,h=>h.elim
 |_::_,[],_,aX,_,_,h=>h.elim
 |_::_,_::_,[],aX,_,_,h=>h.elim
theorem YR(aO:cS P ah=true){f:FuncId}{fn:Func}{s:ChangeSpec}{base n:Nat}{t:TypeId}{args:Array Value}{ds gs:List (DataW H)}{before:List MemPlace}
  (Bq:∀ (j:Nat) t v,fn.params[j]?=some t->args[j]?=some v->Value.okWide P W .any base t v) (dT:DataW.Whole enc P fn.params.toList s.vars false W args.toList ds gs before)
  (I9:s.vars=[]) (YS:∀ds:List (DataW H),ds.length=fn.params.size->s.fn H ds= {results:=[.lit (.bool true)],args:=ds,vars:=[]}) (sp:fn.resultTypes= #[t]) (YT:P.underlying t=some .bool)
  (ag:fn.params.toList.all (pA ah n)=true) (af:laidOutB P=true) (ao:fn.params.toList.all (fun t=>P.readableRec t&&decide (t<P.types.size))=true)
  (ho:∀so,EU ah n fn.params.toList so->bg P f so (.v (.bool true))):
  Calls P f args W fun e yZ=>∃v,e= .returned v/\s.post enc P fn false true false false W args v yZ:=by
 obtain⟨p,q,aw,n1,rfl,PP,gZ⟩:=dT;rw[I9]at n1;obtain⟨so,h1,ad,aC⟩:=PR aO (fun j t v h1 ad=>Bq j t v (by simpa using h1) (by simpa using ad)) aw ag;have sf:=(ho so h1).2 wY W args.toList (fun _ h=>h.elim) ad;refine sf.mono fun e yZ ⟨v,he,ab,ax⟩=>⟨v,he,?_⟩;have ac:=ab.h2;subst ac;obtain⟨rfl,rfl⟩:gs=[]/\q=[]:=by
  cases gs with
  |nil=>exact⟨rfl,n1⟩
  |cons _ _=>exact n1.elim
 have ae:Go.RowKit.Below W.heap.size W yZ:=⟨ax.os,ax.tape,ax.output,ax.size,fun k hk=>ax.block k hk (by simp)⟩
 have ap:∀x∈p,x.block<W.heap.size:=aw.lt;have aI:=YS ds (by rw[aC];simp);refine⟨ds,[],p++ [],[],p,[],⟨p,[],aw,by rw[I9];exact n1,rfl,PP,gZ⟩,?_,?_,?_,ae.frame _,fun h=>by cases h⟩
 ·rw[List.append_nil,aI,sp];refine⟨[],[],⟨1,?_⟩,rfl,rfl⟩;simp[Value.cells,DataW.trod,YT]
 ·rw[List.append_nil,aI];exact PS af ae ao ap aw
 ·rw[List.append_nil,aI,I9];rfl
end
open Go
theorem cE{α:Type}{l:List α}{f:α->List aj}{i:Nat}(h:i<l.length): (l.map f)[i]?=some (f (l[i]'h)):=by simp[h]
theorem aV{k:IntKind}{a b:Int}(h:a=b):fP (.v (.int k a)) (.v (.int k b)):=by subst h;exact .refl
theorem hT{av:Nat}{f:Bool}{es er:List (List aj)}(h:es=er):fP (.aq av es f) (.aq av er f):=by subst h;exact .refl
theorem tC:∀ {l ck:List aj},lI l ck->l.length=ck.length/\∀ (i:Nat) c d,l[i]?=some c->ck[i]?=some d->fP c d
 | [],[],_=>⟨rfl,fun i c d h _=>by simp at h⟩
 | [],_::_,h=>h.elim
 |_::_,[],h=>h.elim
 |x::l,y::ck,h=>by
  obtain⟨h1,ad⟩:=tC h.2;refine⟨by simp[h1],fun i c d al aa=> ?_⟩;cases i with
  |zero=>
   simp only[List.getElem?_cons_zero,Option.some.injEq]at al aa;subst al;subst aa;exact h.1
  |succ i=>exact ad i c d (by simpa using al) (by simpa using aa)
theorem gM{cs ds:List aj}(h:lI cs ds):fP (.agg cs) (.agg ds):=.agg (tC h).1 (tC h).2
theorem dI{cs ds:List aj}(h:lI cs ds):fP (.a1 cs) (.a1 ds):=.a1 (tC h).1 (tC h).2
theorem eK{a b:Bool}(h:a=b):fP (.v (.bool a)) (.v (.bool b)):=by subst h;exact .refl
theorem Ja{α:Type}{f:α->List aj}{Q:α->Prop}:∀ {es:List (List aj)},(∀r∈es,∃x,r=f x/\Q x)->∃l:List α,es=l.map f/\∀x∈l,Q x
 | [],_=>⟨[],rfl,by simp⟩
 |r::es,h=>by
  obtain⟨x,rfl,an⟩:=h r (by simp);obtain⟨l,rfl,af⟩:=Ja (es:=es) (fun r ao=>h r (by simp[ao]));exact⟨x::l,rfl,by simpa using⟨an,af⟩⟩
theorem dC{n:Int}(h1: -9223372036854775808<=n)(ad:n<=9223372036854775807):IntKind.i64.wrap n=n:=by
 simp[IntKind.wrap,IntKind.signed,IntKind.bits];omega
theorem bH{i:Nat}(h:i<9223372036854775807):IntKind.i64.wrap ((i:Int)+1)=((i+1:Nat):Int):=by
 rw[dC (by omega) (by omega)];rfl
theorem eC{b:Bool}{x y:Prop}(h:b=true)(an:x):wi b x y:=by subst h;exact an
theorem dE{b:Bool}{x y:Prop}(h:b=false)(bt:y):wi b x y:=by subst h;exact bt
def jv(p:Nat->Bool)(n:Nat):Int:=match (List.range n).find? p with
 |some i=>(i:Nat)
 |none=> -1
theorem sq{p:Nat->Bool}{n i:Nat}(ab:i<n)(au:p i=true)(bQ:∀j,j<i->p j=false):jv p n=i:=by
 have: (List.range n).find? p=some i:=by
  rw[List.find?_range_eq_some];exact⟨au,by simpa using ab,fun j ai=>by simp[bQ j ai]⟩
 simp[jv,this]
theorem qo{p:Nat->Bool}{n:Nat}(bQ:∀j,j<n->p j=false):jv p n= -1:=by
 have: (List.range n).find? p=none:=by
  rw[List.find?_eq_none];intro j ai;simp[bQ j (by simpa using ai)]
 simp[jv,this]
def gA(p:Nat->Bool)(n:Nat):Bool:=(List.range n).all p
theorem gB{p:Nat->Bool}{n:Nat}:gA p n=true↔∀j,j<n->p j=true:=by simp[gA]
theorem pB{p:Nat->Bool}{n i:Nat}(ab:i<n)(au:p i=false):gA p n=false:=by
 cases h:gA p n with
 |false=>rfl
 |true=>rw[gB]at h;rw[h i ab]at au;cases au
open Go
section
variable {P:Program} {ah:c4} {aA:Nat->Prop} {aY:dP} {n:Nat} {os:cu} {s:bu} {a:Act} {w:World} {A:Nat->Prop}
theorem PT:∀ {vs:List Value} {ds:List aj},s4 A os w vs ds->vs.length=ds.length/\∀ (i:Nat) v d,vs[i]?=some v->ds[i]?=some d->a6 A os w v d
 | [],[],_=>⟨rfl,by simp⟩
 | [],_::_,h=>h.elim
 |_::_,[],h=>h.elim
 |v::vs,d::ds,h=>by
  obtain⟨h1,ad⟩:=PT h.2;refine⟨by simp[h1],fun i v' bD ac aa=> ?_⟩;cases i with
  |zero=>simp at ac aa;subst ac;subst aa;exact h.1
  |succ i=>exact ad i v' bD (by simpa using ac) (by simpa using aa)
theorem PU{x:Value}{d:aj}(h:a6 A os w x d)(au:mH (cN d)=true):bO A w x d:=by
 have aT:=ww au;by_cases aa:∃cs,d= .agg cs
 ·obtain⟨cs,rfl⟩:=aa;obtain⟨vs,rfl,af,bf,YU⟩:=h.s9;exact .agg af bf (fun i v d ac aa=>((YU i v d ac aa).plain (aT d (List.mem_of_getElem? aa))).2)
 ·have:cN d=[d]:=by cases d<;>first|rfl|exact absurd ⟨_,rfl⟩ aa
  exact(h.plain (aT d (by rw[this];simp))).2
theorem Jb(aO:cS P ah=true)(h:bT aA aY n os s a w):∀ {j1:List ResultVar} {Q:List aj->Prop},ym ah s j1 Q->∃vs ds,Q ds/\vs.length=j1.length/\vs.length=ds.length/\(∀ (i:Nat) v d,vs[i]?=some v->ds[i]?=some d->(kh d=true\/bO (a8 aA os) w v d)/\a6 (a8 aA os) os w v d)/\
  (List.mapM (m:=Sem) (fun r:ResultVar=>match r with
   | .tmp t=>pure (a.tmps.getD t undef)
   | .cell p t=>do loadVar t (<-asAddr (a.tmps.getD p undef))) j1).run P w= .ok vs w
 | [],Q,ak=>⟨[],[],ak,rfl,rfl,fun i v d ac _=>by simp at ac,by simp⟩
 | .tmp t::r,Q,ak=>by
  have ak:=gv.1 ak;split at ak
  ·rename_i dk;have ab: (kh (look s.env t)=true\/bO (a8 aA os) w (a.tmps.getD t undef) (look s.env t))/\a6 (a8 aA os) os w (a.tmps.getD t undef) (look s.env t):=by
    refine⟨?_,h.env t⟩;cases aF:kh (look s.env t)
    ·rw[aF,Bool.false_or]at dk;exact .inr (PU (h.env t) dk)
    ·exact .inl rfl
   obtain⟨vs,ds,fz,h1,ad,aC,bh⟩:=Jb aO h ak;refine⟨a.tmps.getD t undef::vs,_::ds,fz,by simp[h1],by simp[ad],fun i v bD ac aa=> ?_,?_⟩
   ·cases i with
    |zero=>
     simp only[List.getElem?_cons_zero,Option.some.injEq]at ac aa;subst ac aa;exact ab
    |succ i=>exact aC i v bD (by simpa using ac) (by simpa using aa)
   ·rw[List.mapM_cons];simp only[Sem.run_bind,Sem.run_pure,Result.andThen_ok,bh]
  ·exact ak.elim
 | .cell p ty::r,Q,ak=>by
  unfold ym at ak;have au:=h.env p;split at ak
  ·rename_i i off e;rw[e]at au;obtain⟨g,c1,cY,ab,ac⟩:=au.nR;split at ak
   ·rename_i t2 cs af;rw[h.loc]at af;obtain⟨x',cV⟩:=iM af (by simp);rw[ab]at cV;cases cV;split at ak
    ·exact ak.elim
    ·rename_i ag;obtain⟨_,_,_,_,_,_,cP⟩:=tb h.cp ab;obtain⟨_,ak⟩:=oC ak;obtain⟨d,y,ak,k1,k2⟩:=wr (P:=P) aO ag (b3:=⟨g,off,none⟩) (fun j d aa=>by rw[List.getElem?_drop]at aa;rw[Addr.mN];exact cP _ d aa) ak;split at ak
     ·rename_i dk;have jL:=PU k2 dk;obtain⟨vs,ds,fz,h1,ad,aC,bh⟩:=Jb aO h ak;refine⟨y::vs,d::ds,fz,by simp[h1],by simp[ad],fun i v bD ac aa=> ?_,?_⟩
      ·cases i with
       |zero=>
        simp only[List.getElem?_cons_zero,Option.some.injEq]at ac aa;subst ac aa;exact⟨.inr jL,.bA jL⟩
       |succ i=>exact aC i v bD (by simpa using ac) (by simpa using aa)
      ·rw[List.mapM_cons];have az: (asAddr (a.tmps.getD p undef)).run P w= .ok ⟨g,off,none⟩ w:=by rw[ac];rfl
       simp only[Sem.run_bind,Sem.run_pure,Result.andThen_ok,az,k1,bh]
     ·exact ak.elim
   ·exact ak.elim
  ·exact ak.elim
theorem YV(aO:cS P ah=true){fn:Func}{Q:aj->Prop}(h:bT aA aY n os s a w)(ak:HE ah s fn.results.toList Q):∃v d,Q d/\(results fn a.tmps).run P w= .ok v w/\a6 (a8 aA os) os w v d:=by
 have fin:∀ {vs:List Value},(List.mapM (m:=Sem) (fun r:ResultVar=>match r with
   | .tmp t=>pure (a.tmps.getD t undef)
   | .cell p t=>do loadVar t (<-asAddr (a.tmps.getD p undef))) fn.results.toList).run P w= .ok vs w->(results fn a.tmps).run P w= .ok (if h:vs.toArray.size=1 then vs.toArray[0]else .tuple vs.toArray) w:=by
  intro vs bh;unfold results;rw[Array.mapM_eq_mapM_toList];simp only[Sem.run_bind,Sem.run_map,Result.andThen_ok,Sem.run_pure];exact congrArg (fun r:Result (List Value)=>(r.andThen fun a w'=>Result.ok a.toArray w').andThen fun a w'=>Result.ok (if h:a.size=1 then a[0]else .tuple a) w') bh
 have many:ym ah s fn.results.toList (fun l=>Q (.a1 l))->fn.results.toList.length≠1->∃v d,Q d/\(results fn a.tmps).run P w= .ok v w/\a6 (a8 aA os) os w v d:=by
  intro ak bx;obtain⟨vs,ds,fz,h1,ad,aC,bh⟩:=Jb aO h ak;refine⟨_,_,fz,fin bh,?_⟩;have:¬(vs.toArray.size=1):=by simp;omega
  rw[dif_neg this];exact .a1 ad (fun i v d ac aa=>(aC i v d ac aa).1) (fun i v d ac aa=>(aC i v d ac aa).2)
 unfold HE at ak;split at ak
 ·rename_i t e;have ak:=gv.1 ak;refine⟨_,_,ak,fin (vs:=[a.tmps.getD t undef]) (by rw[e];simp),?_⟩;simpa using h.env t
 ·rename_i p ty e;have au:=h.env p;split at ak
  ·rename_i i off aG;rw[aG]at au;obtain⟨g,c1,cY,ab,ac⟩:=au.nR;split at ak
   ·rename_i t2 cs af;rw[h.loc]at af;obtain⟨x',cV⟩:=iM af (by simp);rw[ab]at cV;cases cV;split at ak
    ·exact ak.elim
    ·rename_i ag;obtain⟨_,_,_,_,_,_,cP⟩:=tb h.cp ab;obtain⟨_,ak⟩:=oC ak;obtain⟨d,y,ak,k1,k2⟩:=wr (P:=P) aO ag (b3:=⟨g,off,none⟩) (fun j d aa=>by rw[List.getElem?_drop]at aa;rw[Addr.mN];exact cP _ d aa) ak;refine⟨y,d,ak,?_,k2⟩;have:=fin (vs:=[y]) (by
      rw[e];have az: (asAddr (a.tmps.getD p undef)).run P w= .ok ⟨g,off,none⟩ w:=by rw[ac];rfl
      simp only[List.mapM_cons,List.mapM_nil,Sem.run_bind,Sem.run_pure,Result.andThen_ok,az,k1])
     simpa using this
   ·exact ak.elim
  ·exact ak.elim
 ·rename_i h1 ad;refine many ak (fun af=> ?_);cases ao:fn.results.toList with
  |nil=>rw[ao]at af;simp at af
  |cons r j1=>
   cases j1 with
   |nil=>cases r with
    |tmp t=>exact h1 t ao
    |cell p t=>exact ad p t ao
   |cons iu j1=>rw[ao]at af;simp at af
theorem PV:∀ (L:List aU) (k:Nat),(rW k L).length=L.length
 | [],k=>rfl
 |o::r,k=>by rw[rW,List.length_cons,PV r];rfl
theorem PW:∀ (L:List aU) (b i:Nat) (d:aj),(rW b L)[i]?=some d->∃o,L[i]?=some o/\d=iL (b+i) o
 | [],b,i,d,h=>by simp[rW]at h
 |o::r,b,0,d,h=>by simp[rW]at h;exact⟨o,rfl,by simpa using h.symm⟩
 |o::r,b,i+1,d,h=>by
  rw[rW]at h;obtain⟨aK,h1,ad⟩:=PW r (b+1) i d (by simpa using h);exact⟨aK,by simpa using h1,by rw[ad,Nat.add_assoc,Nat.add_comm 1 i]⟩
theorem PX:∀ (cA:List Bool) (bC:List aU) (b i:Nat) (o:aU),cA[i]?=some true->bC[i]?=some o->(wm b cA bC)[i]?=some (iL (b+i) o)
 | [],bC,b,i,o,h,_=>by simp at h
 |k::cA,[],b,i,o,_,h=>by simp at h
 |k::cA,cQ::bC,b,0,o,h1,ad=>by
  simp at h1 ad;subst h1;subst ad;rfl
 |k::cA,cQ::bC,b,i+1,o,h1,ad=>by
  have:=PX cA bC (b+1) i o (by simpa using h1) (by simpa using ad);cases k<;> ·rw[wm];simpa[Nat.add_assoc,Nat.add_comm 1 i]using this
def iN(p:Value×aU):Value:=
 match p.2 with
 | .row .. =>p.1
 | .cells .. =>p.1
 |_=>.nilFunc
theorem Jc:∀ {m:Nat} {l:List aU} {o:aU},Au m l=true->l[m]?=some o->o= .bd
 |m,[],o,_,h=>by simp at h
 |0,x::r,o,aa,h=>by
  simp at h;subst h;cases x<;>simp[Au]at aa
  rfl
 |m+1,x::r,o,aa,h=>Jc (m:=m) (l:=r) (by simpa[Au]using aa) (by simpa using h)
theorem jH.uD{B yA:dP}{x:Value}{o:aU}(h:jH A os B w x o)(ax:∀ds,o≠ .b6 ds)(aT:∀b,o≠ .bd->bs x=some b->yA.mine b):jH A os yA w x o:=by
 cases o with
 |bd=>exact trivial
 |gone=>exact h
 |b6 ds=>exact absurd rfl (ax ds)
 |cells t cs=>
  obtain⟨g,arr,rfl,cR,rest⟩:=h;exact⟨g,arr,rfl,aT g (by simp) rfl,rest⟩
 |row e av es=>exact⟨fun b ae=>aT b (by simp) ae,h.2⟩
theorem YW{f:FuncId}{args:List aj}{bC:List aU}{d bD:aj}(h:b0 P f [] args [] bC d)(af:qX bC d (fun x=>fP x bD)):bg P f args bD:=by
 refine⟨h.1,fun A w et aw sc=> ?_⟩;have pw:qY A [] [] w:=⟨rfl,fun i x o ab=>by simp at ab,fun i j x o y aK b ab=>by simp at ab,fun b _ ⟨i,x,o,ab,_⟩=>by simp at ab⟩
 have bQ:s4 (a8 A []) [] w et args:=by
  have gen:∀ (vs:List Value) (ds:List aj),ph A w vs ds->s4 (a8 A []) [] w vs ds:=by
   intro vs;induction vs with
   |nil=>intro ds h;cases ds<;>first|trivial|exact h.elim
   |cons v vs aN=>
    intro ds h;cases ds with
    |nil=>exact h.elim
    |cons d ds=>exact⟨.bA (h.1.b9 (cT.gk (fun b ae=>by
      rcases ae with ae| ⟨i,x,o,ab,_⟩
      ·exact ae
      ·simp at ab))),aN ds h.2⟩
  exact gen _ _ sc
 refine(h.2 A w [] et aw pw bQ).mono fun e w' he=> ?_;obtain⟨v,aJ,rfl,uU,rj,lT,hblk,_⟩:=he;have k3:∀b,¬fv [] b:=fun b ⟨i,x,o,ab,_⟩=>by simp at ab
 have kl:∀b,fv aJ b->w.heap.size<=b:=fun b ae=>(hblk b ae).resolve_left (k3 b);have YX:w.grownBy w' none:=⟨lT.os,lT.tape,lT.output,lT.size,fun k hk _=>lT.block k hk (k3 k)⟩
 have iP:bT A ⟨w,fun _=>False,[]⟩ 0 aJ ⟨[],bC⟩ {tmps:= #[],defers:=[]} w':=by
  refine⟨rfl,rfl,⟨lT.os,lT.tape,lT.output,lT.size,fun k hk _=>lT.block k hk (k3 k)⟩,fun b ae aT=> ?_,uU.loc.symm,fun t=>.bA .aW,fun i x o ab=> ?_,uU.inj⟩
  ·rcases aT with aT|aT
   ·have h1:=aw b ae;have aT:w.heap.size<=b:=aT;omega
   ·exact aT
  ·have eg:=uU.cp i x o ab;cases o with
   |bd=>exact trivial
   |gone=>exact eg
   |b6 ds=>exact eg
   |cells t cs=>
    obtain⟨g,arr,rfl,cR,rest⟩:=eg;exact⟨g,arr,rfl,.inl (kl g ⟨i,_,_,ab,by simp,rfl⟩),rest⟩
   |row e av es=>exact⟨fun b ae=>.inl (kl b ⟨i,_,_,ab,by simp,ae⟩),eg.2⟩
 obtain⟨x,an,jL⟩:=I2 (s:=⟨[],bC⟩) iP rj af;exact⟨v,rfl,jL.le an,YX⟩
theorem PY(aT:P.follows .mixedOrders=true)(aO:cS P ah=true)(aH: (ay ah 0).size=0){f:FuncId}{fn:Func}{c:Code}{L bC:List aU}{args:List aj}{kept:List Bool}{d:aj}(aI:P.funcs[f]?=some fn)(wW: (fn.name== "runtime.NumGoroutine")=false)(ae:fn.body=some c)
  (eO:mV fn.ntmps c=true) (aS:Nat.ble args.length fn.ntmps=true) (fY:nO L=true) {D:bu->Prop} (h:oB ah P c (fun e s=>match e with
   | .normal| .ret=>D s
   |_=>False) ⟨rV 0 args,L++yl L⟩)
  (qn:∀ {aA:Nat->Prop} {aY:dP} {n:Nat} {os:cu} {s:bu} {a:Act} {w:World},bT aA aY n os s a w->D s->∃aJ s',bT aA aY n aJ s' a w/\yn ah fn.results.toList L kept bC d s'):b0 P f L args kept bC d:=by
 have aS:=Nat.le_of_ble_eq_true aS;refine⟨fun vs w=> ?_,fun A w os et aw pw sc=> ?_⟩
 ·simp only[callFunc,Sem.run_bind,run_program,Result.andThen_ok,aI,wW,ae,Option.isNone_some];rfl
 ·obtain⟨hlen,sc⟩:=PT sc;have j6:os.length=L.length:=by rw[<-pw.loc];simp
  have qc:∀ {i:Nat} {x:Value} {o:aU},os[i]?=some (x,o)->L[i]?=some o:=by
   intro i x o ab;rw[<-pw.loc,List.getElem?_map,ab];rfl
  let b6:cu:=match L with
   | []=>[]
   |_=>[(.tuple (os.map iN).toArray,.b6 (rW 0 L))]
  have YY:b6.map (·.2)=yl L:=by simp only[b6,yl];cases L<;>rfl
  have YZ:∀p∈b6,bs p.1=none:=by
   intro p au;simp only[b6]at au;split at au
   ·simp at au
   ·simp at au;subst au;rfl
  have u4:∀ {i:Nat} {x:Value} {o:aU},(os++b6)[i]?=some (x,o)->os[i]?=some (x,o)\/(os.length<=i/\b6[i-os.length]?=some (x,o)/\bs x=none):=by
   intro i x o ab;by_cases ap:i<os.length
   ·rw[List.getElem?_append_left ap]at ab;exact .inl ab
   ·rw[List.getElem?_append_right (by omega)]at ab;exact .inr ⟨by omega,ab,YZ _ (List.mem_of_getElem? ab)⟩
  have Y0:∀b,fv (os++b6) b->fv os b:=by
   rintro b ⟨i,x,o,ab,aa,b4⟩;rcases u4 ab with ab| ⟨_,_,ad⟩
   ·exact⟨i,x,o,ab,aa,b4⟩
   ·rw[ad]at b4;cases b4
  have h7:q5 os (os++b6):=fun i x o ab=>⟨o,by rw[List.getElem?_append_left (List.getElem?_eq_some_iff.1 ab).1];exact ab,by cases o<;>simp[di]⟩;have oI:cT (a8 A os) (a8 A (os++b6)) w w:=cT.gk (by
   rintro b (ae|ae)
   ·exact .inl ae
   ·exact .inr (Y0 b ae))
  have gI:∀b,fv os b->dP.mine ⟨w,fv os,os.map iN⟩ b:=fun b ae=>.inr ae;have iP:bT A ⟨w,fv os,os.map iN⟩ fn.ntmps (os++b6) ⟨rV 0 args,L++yl L⟩ {tmps:=et.toArray++Array.replicate (fn.ntmps-et.toArray.size) undef,defers:=[]} w:=by
   refine⟨by simp;omega,rfl,⟨rfl,rfl,rfl,Nat.le_refl _,fun _ _ _=>rfl⟩,fun b ae Y1=> ?_,by rw[List.map_append,pw.loc,YY],fun t=> ?_,fun i x o ab=> ?_,fun i j x o y aK b ab ai d1 d2 cC cH=> ?_⟩
   ·rcases Y1 with h1|h1
    ·have ad:=aw b ae;have h1:w.heap.size<=b:=h1;omega
    ·exact pw.out b ae h1
   ·rw[I4,if_pos (Nat.zero_le _),Nat.sub_zero];cases aa:args[t]? with
    |none=>exact .bA .aW
    |some d=>
     have ap:=(List.getElem?_eq_some_iff.1 aa).1;have ac:=List.getElem?_eq_getElem (l:=et) (i:=t) (by omega);have ab:=sc t _ d ac aa;have: (et.toArray++Array.replicate (fn.ntmps-et.toArray.size) undef).getD t undef=et[t]'(by omega):=by
      rw[Array.getD_eq_getD_getElem?,Array.getElem?_append_left (by simp;omega)];simp[ac]
     simp only[Option.getD_some];rw[this];exact ab.b9 oI h7
   ·rcases u4 ab with ab| ⟨dB,hU,aj8⟩
    ·have eg:=(pw.cp i x o ab).uD (yA:=⟨w,fv os,os.map iN⟩) (AU fY (qc ab)) (fun b aa b4=>gI b ⟨i,x,o,ab,aa,b4⟩);exact eg.b9 oI h7 (fun _ _ _=>rfl)
    ·simp only[b6]at hU;split at hU
     ·simp at hU
     ·rename_i Br;have ES:i-os.length=0:=by
       have:=(List.getElem?_eq_some_iff.1 hU).1;simpa using this
      rw[ES]at hU;simp at hU;obtain⟨rfl,rfl⟩:=hU;have Y2:∀ (q:Nat) v e,(os.map iN)[q]?=some v->(rW 0 L)[q]?=some e->∃x o,os[q]?=some (x,o)/\v=iN (x,o)/\e=iL q o:=by
       intro q v e ac he;obtain⟨o,h1,ad⟩:=PW L 0 q e he;rw[List.getElem?_map]at ac;cases bF:os[q]? with
       |none=>rw[bF]at ac;cases ac
       |some p=>
        obtain⟨x,eI⟩:=p;have:=qc bF;rw[h1]at this;cases this;rw[bF]at ac;cases ac;exact⟨x,o,rfl,rfl,by rw[ad,Nat.zero_add]⟩
      have dD:∀ (q:Nat) x o,os[q]?=some (x,o)->(iN (x,o)).oneCell'=true/\a6 (a8 A (os++b6)) (os++b6) w (iN (x,o)) (iL q o):=by
       intro q x o bF;have Bs: (os++b6)[q]?=some (x,o):=by rw[List.getElem?_append_left (List.getElem?_eq_some_iff.1 bF).1];exact bF
       have eg:=pw.cp q x o bF;cases o with
       |row e av es=>
        obtain⟨xs,bJ,_⟩:=r7 eg;exact⟨r8 bJ,.own Bs (r8 bJ)⟩
       |cells t cs=>
        obtain⟨g,arr,rfl,_⟩:=eg;exact⟨rfl,.aP Bs⟩
       |bd=>exact⟨rfl,.bA .aW⟩
       |gone=>exact⟨rfl,.bA .aW⟩
       |b6 ds=>exact⟨rfl,.bA .aW⟩
      refine⟨rfl,by rw[PV,List.length_map,j6],fun v ac=> ?_,fun q v e ac he=> ?_⟩
      ·obtain⟨p,au,rfl⟩:=List.mem_map.1 ac;obtain⟨q,bF,rfl⟩:=List.getElem_of_mem au;exact(dD q _ _ (List.getElem?_eq_getElem bF)).1
      ·obtain⟨x,o,h1,ad,aC⟩:=Y2 q v e ac he;subst ad;subst aC;exact(dD q x o h1).2
   ·rcases u4 ab with ab| ⟨_,_,kD⟩
    ·rcases u4 ai with ai| ⟨_,_,fq⟩
     ·exact pw.inj i j x o y aK b ab ai d1 d2 cC cH
     ·rw[fq]at cH;cases cH
    ·rw[kD]at cC;cases cC
  have done:∀ (a2:Act) (kr:World) (y0:cu) (Bt:bu),bT A ⟨w,fv os,os.map iN⟩ fn.ntmps y0 Bt a2 kr->yn ah fn.results.toList L kept bC d Bt->
    ∃v,(results fn a2.tmps).run P kr= .ok v kr/\∃aJ,qY A aJ bC kr/\a6 (a8 A aJ) aJ kr v d/\mJ (fv os) w kr/\(∀b,fv aJ b->fv os b\/w.heap.size<=b)/\∀ (i:Nat) x o,kept[i]?=some true->os[i]?=some (x,o)->∃aK,aJ[i]?=some (x,aK):=by
   intro a2 kr y0 Bt ao ak;obtain⟨v,x,⟨Y3,hle,oJ⟩,cW,rj⟩:=YV aO ao ak;simp only[Bool.and_eq_true]at oJ;obtain⟨⟨⟨⟨⟨lS,Y4⟩,eB⟩,qd⟩,Y5⟩,u5⟩:=oJ;obtain⟨q8,AY,_⟩:=ts (k:=0) lS;refine⟨v,cW,?_⟩;have EW:=rj.gk Y3;obtain⟨jb,hc,aj9,PZ,P0⟩:=(show bT A ⟨w,fv os,os.map iN⟩ fn.ntmps y0 ⟨[],Bt.loc⟩ a2 kr from ⟨ao.size,ao.defers,ao.fH,ao.a0,ao.loc,fun _=>.bA .aW,ao.cp,ao.inj⟩).Iy (t:=⟨[],kC L kept bC⟩) ⟨trivial,hle,by simpa[yc]using u5⟩;have oP:∀ {i:Nat} {o:aU},(kC L kept bC)[i]?=some o->¬(L≠ []/\i=L.length)->bC[i]?=some o:=by
    intro i o ab bx;unfold kC at ab;split at ab
    ·exact ab
    ·rename_i Br;have aka:=AY;by_cases ap:i<L.length
     ·rw[List.getElem?_append_left (by simp;omega),List.getElem?_take,if_pos ap]at ab;exact ab
     ·have qi:L.length<i:=by
       rcases Nat.lt_or_ge L.length i with h1|h1
       ·exact h1
       ·exact absurd ⟨fun e=>Br e,by omega⟩ bx
      rw[List.getElem?_append_right (by simp;omega)]at ab;have az: (bC.take L.length).length=L.length:=by simp;omega
      rw[az]at ab;obtain⟨q,rfl⟩:∃q,i=L.length+(q+1):=⟨i-L.length-1,by omega⟩
      rw[show L.length+(q+1)-L.length=q+1 by omega]at ab;simp only[List.getElem?_cons_succ,List.getElem?_drop]at ab;rw[<-ab];congr 1;omega
   have Jd:yk (kC L kept bC) bC:=by
    have gen:∀ (X:List aU) (Y:List aU),Y.length<=X.length->(∀ (i:Nat) o aK,X[i]?=some o->Y[i]?=some aK->fF o aK)->yk X Y:=by
     intro X;induction X with
     |nil=>intro Y af _;cases Y<;>first|trivial|simp at af
     |cons x X aN=>
      intro Y af au;cases Y with
      |nil=>trivial
      |cons y Y=>exact⟨au 0 x y rfl rfl,aN Y (by simpa using af) (fun i o aK h1 ad=>au (i+1) o aK (by simpa using h1) (by simpa using ad))⟩
    refine gen _ _ ?_ (fun i o aK h1 ad=> ?_)
    ·unfold kC;split
     ·exact Nat.le_refl _
     ·simp;omega
    ·by_cases bx:L≠ []/\i=L.length
     ·have:aK= .bd:=by
       obtain⟨bx,rfl⟩:=bx;unfold HD at eB;split at eB
       ·exact absurd rfl bx
       ·exact Jc eB ad
      rw[this];exact .bd
     ·have:=oP h1 bx;rw[ad]at this;cases this;exact .refl
   obtain⟨rp,y1,Y6,Y7,P1⟩:=hc.Iy (t:=⟨[],bC⟩) ⟨trivial,Jd,by simpa[yc]using Y5⟩;have Je:rp.map (·.2)=bC:=y1.loc.symm;have P2:∀b,fv rp b->dP.mine ⟨w,fv os,os.map iN⟩ b:=fun b ⟨i,y,o,ab,aa,b4⟩=>((y1.cp i y o ab).gW aa b4).1;have P3:∀ (v:Value) (d:aj),a6 (a8 A y0) y0 kr v d->iI bC d=true->a6 (a8 A rp) rp kr v d:=by
     intro v d EW qd;have fq:iI (kC L kept bC) d=true:=by
      have up:∀ {j:Nat},(hJ (bB bC j)=true->hJ (bB (kC L kept bC) j)=true)/\(ow (bB bC j)=true->ow (bB (kC L kept bC) j)=true):=by
       intro j;have key:bB bC j≠ .bd->bB (kC L kept bC) j=bB bC j:=by
        intro gZ;have ai:j<bC.length:=by
         rcases Nat.lt_or_ge j bC.length with h1|h1
         ·exact h1
         ·exact absurd (by rw[jn,List.getElem?_eq_none h1];rfl) gZ
        have oF:j<(kC L kept bC).length:=by
         unfold kC;split
         ·exact ai
         ·simp;omega
        have ax:=List.getElem?_eq_getElem oF;have bx:¬(L≠ []/\j=L.length):=by
         rintro⟨bx,rfl⟩;unfold HD at eB;split at eB
         ·exact bx rfl
         ·have:=Jc eB (List.getElem?_eq_getElem ai);exact gZ (by rw[jn,List.getElem?_eq_getElem ai,this];rfl)
        have:=oP ax bx;rw[jn,jn,this,ax]
       constructor
       ·intro bF;rw[key (fun e=>by rw[e]at bF;simp[hJ]at bF)];exact bF
       ·intro bF;rw[key (fun e=>by rw[e]at bF;simp[ow]at bF)];exact bF
      have P4:∀e:aj,il bC e=true->il (kC L kept bC) e=true:=by
       intro e he;cases e with
       |own j=>exact up.1 he
       |cF j k o=>exact up.1 he
       |aP j o=>exact up.2 he
       |dc j o=>exact up.2 he
       |fn g b2=>
        simp only[il,List.all_eq_true]at he⊢;intro c al;have:=he c al;cases c<;>first|exact up.2 this|rfl
       |_=>exact he
      by_cases uL:∃cs,d= .agg cs
      ·obtain⟨cs,rfl⟩:=uL;simp only[iI,List.all_eq_true]at qd⊢;exact fun e he=>P4 e (qd e he)
      ·have az:∀l,iI l d=il l d:=by intro l;cases d<;>first|rfl|exact absurd ⟨_,rfl⟩ uL
       rw[az]at qd⊢;exact P4 d qd
     exact Y7 v d (PZ v d EW fq) qd
   refine⟨rp,⟨Je,fun i y o ab=> ?_,y1.inj,fun b ae h5=>y1.a0 b ae (P2 b h5)⟩,?_,y1.fH,fun b ae=>(P2 b ae).symm,fun i y o hk ab=> ?_⟩
   ·refine(y1.cp i y o ab).uD (fun ds e=> ?_) (fun _ _ _=>.inr trivial);subst e;have:bC[i]?=some (.b6 ds):=by rw[<-Je,List.getElem?_map,ab];rfl
    exact AU Y4 this ds rfl
   ·by_cases P5:∃ds,d= .a1 ds
    ·obtain⟨ds,rfl⟩:=P5;obtain⟨vs,rfl,gT,bJ,Bi⟩:=EW.HF;refine .a1 gT (fun i v d ac aa=> ?_) (fun i v d ac aa=> ?_)
     ·rcases bJ i v d ac aa with aF|aF
      ·exact .inl aF
      ·exact .inr (aF.b9 (cT.gk (fun b ae=>P0 b (P1 b ae))))
     ·rcases bJ i v d ac aa with aF|aF
      ·have kD:=List.all_eq_true.1 qd d (List.mem_of_getElem? aa);rw[aF]at kD;exact P3 v d (Bi i v d ac aa) (by simpa using kD)
      ·exact .bA (aF.b9 (cT.gk (fun b ae=>P0 b (P1 b ae))))
    ·have qd:iI bC d=true:=by
      cases d<;>first|exact qd|exact absurd ⟨_,rfl⟩ P5
     exact P3 v d EW qd
   ·have Br:L≠ []:=by
     intro e;rw[e]at j6;have:=(List.getElem?_eq_some_iff.1 ab).1;simp at j6;rw[j6]at this;simp at this
    have dG:i<L.length:=by have:=(List.getElem?_eq_some_iff.1 ab).1;omega
    have Jf:=List.getElem?_eq_getElem (l:=bC) (i:=i) (by omega);have y2:=PX kept bC 0 i _ hk Jf;rw[Nat.zero_add]at y2;have rk:=(ts (k:=i) lS).2.2 o _ hk (qc ab) Jf;have nB: (kC L kept bC)[L.length]?=some (.b6 (wm 0 kept bC)):=by
     unfold kC;split
     ·exact absurd rfl Br
     ·have az: (bC.take L.length).length=L.length:=by simp;omega
      rw[List.getElem?_append_right (by omega),az,Nat.sub_self];rfl
    have gK:∃y,jb[L.length]?=some (y,.b6 (wm 0 kept bC)):=by
     have Jg:kC L kept bC=jb.map (·.2):=hc.loc;rw[Jg,List.getElem?_map]at nB;cases bF:jb[L.length]? with
     |none=>rw[bF]at nB;cases nB
     |some p=>
      obtain⟨y,bm⟩:=p;rw[bF]at nB;simp at nB;exact⟨y,by rw[nB]⟩
    obtain⟨D7,gK⟩:=gK;obtain⟨_,_,_,Y8⟩:=hc.cp _ _ _ gK;have Y9: (os.map iN)[i]?=some (iN (y,o)):=by rw[List.getElem?_map,ab];rfl
    have EX:=Y8 i _ _ Y9 y2;have Za:¬(L≠ []/\i=L.length):=by rintro⟨_,e⟩;omega
    have Bu:∃z,jb[i]?=some (z,bC[i]'(by omega)):=by
     have Jg:kC L kept bC=jb.map (·.2):=hc.loc;have oO: (kC L kept bC)[i]?=some (bC[i]'(by omega)):=by
      have oF:i<(kC L kept bC).length:=by
       unfold kC;split
       ·exact absurd rfl Br
       ·simp;omega
      have ax:=List.getElem?_eq_getElem oF;have:=oP ax Za;rw[Jf]at this;rw[ax,<-this]
     rw[Jg,List.getElem?_map]at oO;cases bF:jb[i]? with
     |none=>rw[bF]at oO;cases oO
     |some p=>rw[bF]at oO;simp at oO;exact⟨p.1,by rw[<-oO]⟩
    obtain⟨z,Bu⟩:=Bu;have bE:z=y:=by
     generalize eg: (bC[i]'(by omega))=bm at *;cases o<;>cases bm<;>simp[Dv]at rk
     ·simp only[iL]at EX;obtain⟨g,c1,cY,bL,c0⟩:=EX.nR;rw[Bu]at bL;cases bL;exact c0.symm
     ·simp only[iL]at EX;exact(EX.nS Bu).symm
    subst bE;have Zb:i<rp.length:=by
     have:rp.length=bC.length:=by rw[<-Je];simp
     omega
    have P6:=List.getElem?_eq_getElem Zb;obtain⟨P7,bh,_⟩:=Y6 i _ _ (show rp[i]?=some (rp[i].1,rp[i].2) from P6);rw[Bu]at bh;cases bh;exact⟨_,P6⟩
  refine calls_of_wp aI ae (PI (aA:=A) (aY:=⟨w,fv os,os.map iN⟩) (n:=fn.ntmps) aT aO aH c eO (fun e a w' ha=> ?_) iP h);obtain⟨y0,Bt,ao,ak⟩:=ha;cases e with
  |normal=>
   obtain⟨Zc,Zd,hc,ak⟩:=qn ao ak;obtain⟨v,ac,aJ,h1,ad,aC,bh,bL⟩:=done _ _ _ _ hc ak;exact⟨ao.defers,v,ac,v,aJ,rfl,h1,ad,aC,bh,bL⟩
  |ret=>
   obtain⟨Zc,Zd,hc,ak⟩:=qn ao ak;obtain⟨v,ac,aJ,h1,ad,aC,bh,bL⟩:=done _ _ _ _ hc ak;exact⟨ao.defers,v,ac,v,aJ,rfl,h1,ad,aC,bh,bL⟩
  |_=>exact ak.elim
theorem Ze(aT:P.follows .mixedOrders=true)(aO:cS P ah=true)(aH: (ay ah 0).size=0){f:FuncId}{fn:Func}{c:Code}{L bC:List aU}{args:List aj}{kept:List Bool}{d:aj}(aI:P.funcs[f]?=some fn)(wW: (fn.name== "runtime.NumGoroutine")=false)(ae:fn.body=some c)
  (eO:mV fn.ntmps c=true) (aS:Nat.ble args.length fn.ntmps=true) (fY:nO L=true) (h:Nd ah P c fn.results.toList L args kept bC d):b0 P f L args kept bC d:=
 PY aT aO aH aI wW ae eO aS fY (D:=yn ah fn.results.toList L kept bC d) h fun ao ak=>⟨_,_,ao,ak⟩
def P8(ah:c4)(P:Program)(c:Code)(j1:List ResultVar)(L:List aU)(args:List aj)(kept:List Bool)(bC:List aU)(d:aj):Prop:=
 oB ah P c (fun e s=>match e with
  | .normal| .ret=>∃nQ,mn nQ s fun s=>yn ah j1 L kept bC d s
  |_=>False) ⟨rV 0 args,L++yl L⟩
theorem Zf(aT:P.follows .mixedOrders=true)(aO:cS P ah=true)(aH: (ay ah 0).size=0){f:FuncId}{fn:Func}{c:Code}{L bC:List aU}{args:List aj}{kept:List Bool}{d:aj}(aI:P.funcs[f]?=some fn)(wW: (fn.name== "runtime.NumGoroutine")=false)(ae:fn.body=some c)
  (eO:mV fn.ntmps c=true) (aS:Nat.ble args.length fn.ntmps=true) (fY:nO L=true) (h:P8 ah P c fn.results.toList L args kept bC d):b0 P f L args kept bC d:=
 PY aT aO aH aI wW ae eO aS fY (D:=fun s=>∃nQ,mn nQ s fun s=>yn ah fn.results.toList L kept bC d s) h fun ao ak=>by
  obtain⟨nQ,ak⟩:=ak;exact rn nQ ao ak
theorem b0.wZ{f:FuncId}{L L1 tD:List aU}{args:List aj}{kept:List Bool}{d:aj}(h:b0 P f L args kept (L1++ .bd::tD) d)(hk:kept.length<=L1.length):
  b0 P f L args kept ((L1++tD).map (fw (ba L1.length))) (jI (ba L1.length) d):=by
 refine⟨h.1,fun A w os et aw pw yM=>(h.2 A w os et aw pw yM).mono fun e w' he=> ?_⟩;obtain⟨v,fy,rfl,gh,rj,lT,hblk,oI⟩:=he;have aT:∃y,fy[L1.length]?=some (y,.bd):=by
  have h1: (fy.map (·.2))[L1.length]?=some .bd:=by rw[gh.loc];simp
  rw[List.getElem?_map]at h1;cases ax:fy[L1.length]? with
  |none=>rw[ax]at h1;cases h1
  |some p=>rw[ax]at h1;rcases p with⟨y,o⟩;simp at h1;subst h1;exact⟨y,rfl⟩
 generalize pt:L1.length=m at *;obtain⟨akb,aT⟩:=aT;have Zg:∀ {k:Nat},¬m<k->ba m k=k:=fun {k} hk=>by
  unfold ba;have:Nat.blt m k=false:=by
   cases ae:Nat.blt m k
   ·rfl
   ·exact absurd (Nat.le_of_ble_eq_true ae) hk
  rw[this]
 have Zh:∀ {k:Nat},m<k->ba m k=k-1:=fun {k} hk=>by
  unfold ba;have:Nat.blt m k=true:=Nat.ble_eq_true_of_le hk;rw[this]
 let jb:cu:=(fy.eraseIdx m).map fun p=>(p.1,fw (ba m) p.2)
 have aG:∀j,jb[j]?=(if j<m then fy[j]? else fy[j+1]?).map fun p=>(p.1,fw (ba m) p.2):=fun j=>by
  simp only[jb,List.getElem?_map,List.getElem?_eraseIdx]
 have b7:∀ (k:Nat) x bm,(∀ds,bm≠ .b6 ds)->bm≠ .bd->fy[k]?=some (x,bm)->jb[ba m k]?=some (x,fw (ba m) bm):=fun k x bm _ aa hk=>by
  rcases Nat.lt_trichotomy k m with ap|he|qi
  ·rw[Zg (by omega),aG,if_pos ap,hk];rfl
  ·rw[he,aT]at hk;cases hk;exact absurd rfl aa
  ·rw[Zh qi,aG,if_neg (by omega),show k-1+1=k by omega,hk];rfl
 have back:∀ {j:Nat} {x:Value} {aK:aU},jb[j]?=some (x,aK)->∃k o,fy[k]?=some (x,o)/\aK=fw (ba m) o/\((k<m/\k=j)\/(¬j<m/\k=j+1)):=fun {j x aK} ai=>by
  rw[aG]at ai;by_cases ap:j<m
  ·rw[if_pos ap]at ai;cases ax:fy[j]? with
   |none=>rw[ax]at ai;cases ai
   |some p=>rw[ax]at ai;cases ai;exact⟨j,p.2,ax,rfl,.inl ⟨ap,rfl⟩⟩
  ·rw[if_neg ap]at ai;cases ax:fy[j+1]? with
   |none=>rw[ax]at ai;cases ai
   |some p=>rw[ax]at ai;cases ai;exact⟨j+1,p.2,ax,rfl,.inr ⟨ap,rfl⟩⟩
 have eB:∀ {o:aU},fw (ba m) o≠ .bd->o≠ .bd:=fun {o} aa e=>by
  subst e;exact aa rfl
 have h5:∀b,fv jb b->fv fy b:=by
  rintro b ⟨j,x,aK,ai,aa,ae⟩;obtain⟨k,o,hk,rfl,_⟩:=back ai;exact⟨k,x,o,hk,eB aa,ae⟩
 have fV:∀b,a8 A jb b->a8 A fy b:=by
  rintro b (ae|ae)
  ·exact .inl ae
  ·exact .inr (h5 b ae)
 have k:cT (a8 A fy) (a8 A jb) w' w':=cT.gk fV;refine⟨v,jb,rfl,⟨?_,fun j x aK ai=> ?_,fun i j x o y aK b ab ai d1 d2 cC cH=> ?_,fun b aw ae=>gh.out b aw (h5 b ae)⟩,(a6.tx b7 k rj).2,lT,fun b ae=>hblk b (h5 b ae),fun i x o w0 ab=> ?_⟩
 ·have:jb.map (·.2)=((fy.map (·.2)).eraseIdx m).map (fw (ba m)):=by
   apply List.ext_getElem?;intro j;simp only[List.getElem?_map,List.getElem?_eraseIdx,aG];by_cases ai:j<m
   ·simp only[if_pos ai];cases fy[j]?<;>rfl
   ·simp only[if_neg ai];cases fy[j+1]?<;>rfl
  rw[this,gh.loc,<-pt,List.eraseIdx_append_of_length_le (Nat.le_refl _),Nat.sub_self];rfl
 ·obtain⟨q,o,bF,rfl,_⟩:=back ai;have eg:=gh.cp q x o bF;cases o with
  |bd=>exact trivial
  |gone=>exact eg
  |b6 ds=>exact trivial
  |cells ty cs=>
   obtain⟨g,arr,rfl,cR,bp,ag,bf,ao⟩:=eg;refine⟨g,arr,rfl,cR,bp,by simpa using ag,bf,fun gy v d ac aa=> ?_⟩;rw[List.getElem?_map]at aa;cases al:cs[gy]? with
   |none=>rw[al]at aa;cases aa
   |some e=>
    rw[al]at aa;simp at aa;subst aa;exact(a6.tx b7 k (ao gy v e ac al)).1 (bf v (List.mem_of_getElem? (by rw[Array.getElem?_toList];exact ac)))
  |row e av es=>
   obtain⟨gI,xs,bJ,bZ,fp,bf,ao⟩:=eg;exact⟨gI,xs,bJ,bZ,fp,bf,fun dv gy r d h1 ad=>by
    obtain⟨v,ac,ab⟩:=ao dv gy r d h1 ad;exact⟨v,ac,ab.b9 k⟩⟩
 ·obtain⟨p,cQ,hQ,rfl,dX⟩:=back ab;obtain⟨q,eI,nz,rfl,de⟩:=back ai;have:=gh.inj _ _ _ _ _ _ b hQ nz (eB d1) (eB d2) cC cH;omega
 ·obtain⟨aK,gU⟩:=oI i x o w0 ab;have dG:i<m:=by
   have:=(List.getElem?_eq_some_iff.1 w0).1;omega
  exact⟨fw (ba m) aK,by rw[aG,if_pos dG,gU];rfl⟩
end
open Go
def Jh{α:Type}:Result α->World
 | .ok _ w=>w
 | .halt _ w=>w
theorem Zi{α:Type}(a:Ask α):∀w:World,w.drawn<=(w.ask a).2.drawn:=by
 induction a with
 |done a=>intro w;simp[World.ask]
 |ask W1 range k aN=>
  intro w;simp only[World.ask];split
  ·exact aN _ _
  ·refine Nat.le_trans ?_ (aN _ _);exact Nat.le_succ _
theorem P9(w:World)(c:Sys):w.drawn<=(w.sys c).2.drawn:=by
 have:=Zi (Kernel.perform c w.os) w;unfold World.sys;generalize w.ask (Kernel.perform c w.os)=x at this;obtain⟨⟨r,os⟩,w'⟩:=x;cases r<;>simp_all
theorem Zj{p:Program}{w w':World}{a:Addr}{u:TypeId}{k:Addr}{v:Value}{b:Bool}{l:List Addr}(h:w.viewStore p a u k v b= .ok (w',l)):w'.drawn=w.drawn:=by
 unfold World.viewStore at h;simp only[bind,Except.bind,pure,Except.pure,throw,throwThe,MonadExceptOf.throw]at h;repeat' first
  | (cases h;done)
  | (simp only[Except.ok.injEq,Prod.mk.injEq]at h;obtain⟨h,_⟩:=h;subst h;rfl)
  |split at h
theorem Ji{α:Type}(p:Program)(s:Sem α):∀w:World,w.drawn<=(Jh (s.run p w)).drawn:=by
 induction s with
 |pure a=>intro w;exact Nat.le_refl _
 |load m a k aN=>
  intro w;simp only[Sem.run];split
  ·exact aN _ _
  ·split
   ·exact aN _ _
   ·exact Nat.le_refl _
 |store m a v k aN=>
  intro w;have aI:∀w' l,w.farStore p a v (m== .atomic)= .ok (w',l)->w.drawn<=w'.drawn:=fun w' l h=>by
   unfold World.farStore at h;split at h
   ·split at h
    ·rename_i r ao;simp only[Except.ok.injEq]at h;subst h;exact Nat.le_of_eq (Zj ao).symm
    ·cases h
   ·cases h
  cases v with
  |agg _=>exact Nat.le_refl _
  |tuple _=>exact Nat.le_refl _
  |_=>
   simp only[Sem.run];split
   ·split
    ·exact Nat.le_refl _
    ·refine Nat.le_trans ?_ (aN _);exact Nat.le_refl _
   ·split
    ·rename_i hw;exact Nat.le_trans (aI _ _ hw) (aN _)
    ·exact Nat.le_refl _
 |new o k aN=>intro w;simp only[Sem.run];refine Nat.le_trans ?_ (aN _ _);exact Nat.le_refl _
 |shape r k aN=>intro w;exact aN _ _
 |freeze a n k aN=>intro w;refine Nat.le_trans ?_ (aN _);simp[World.freeze];split<;>simp
 |frozen a k aN=>intro w;exact aN _ _
 |getObj r k aN=>
  intro w;simp only[Sem.run];split
  ·exact Nat.le_refl _
  ·exact aN _ _
  ·exact Nat.le_refl _
 |setObj r o k aN=>
  intro w;simp only[Sem.run];split
  ·exact Nat.le_refl _
  ·refine Nat.le_trans ?_ (aN _);exact Nat.le_refl _
  ·exact Nat.le_refl _
 |choose q k aN=>
  intro w;simp only[Sem.run];split
  ·exact aN _ _
  ·refine Nat.le_trans ?_ (aN _ _);exact Nat.le_succ _
 |sys c k aN=>intro w;exact Nat.le_trans (P9 w c) (aN _ _)
 |program k aN=>intro w;exact aN _ _
 |mark m k aN=>intro w;exact aN _
 |halt h=>intro w;exact Nat.le_refl _
theorem lZ{α:Type}{p:Program}{s:Sem α}{w w':World}{a:α}(h:s.run p w= .ok a w'):w.drawn<=w'.drawn:=by
 have:=Ji p s w;rw[h]at this;exact this
theorem y3{α:Type}{p:Program}{s:Sem α}{w w':World}{a:Halt}(h:s.run p w= .halt a w'):w.drawn<=w'.drawn:=by
 have:=Ji p s w;rw[h]at this;exact this
theorem EY{α:Type}{p:Program}{s:Sem α}{w:World}{r:Result α}(h:s.run p w=r):w.drawn<=(Jh r).drawn:=by
 subst h;exact Ji p s w
theorem Zk{w w':World}{c:Sys}{r:SysRet}(h:w.sys c=(r,w')):w.drawn<=w'.drawn:=by
 have:=P9 w c;rw[h]at this;exact this
def jR:GStep->World
 | .go _ w _=>w
 | .comm _ _ _ _ w _=>w
 | .spawn _ _ w _=>w
 | .count _ w _=>w
 | .timer _ _ w _=>w
 | .alone _ _ w _=>w
 | .newcoro _ _ _ w _=>w
 | .coroswitch _ _ _ w _=>w
 | .collect _ w _=>w
 | .watch _ w _=>w
 | .ended _ w _=>w
@[simp] theorem Bv(es:Array Event)(s:GStep):jR (s.after es)=jR s:=by cases s<;>rfl
theorem Qa(g:Goroutine)(w:World)(es:Array Event):jR (.go g w es)=w:=rfl
theorem Qb(o:Outcome)(w:World)(es:Array Event):jR (.ended o w es)=w:=rfl
theorem Zl(w:World)(fd:Nat)(x:ByteArray)(o:Outcome):w.drawn<=(jR (endWith w fd x o)).drawn:=by
 unfold endWith;simp only[];repeat' first
  |exact Zk (by assumption)
  |split
theorem Jj(cL:Frame)(m:String)(w:World):w.drawn<=(jR (endThrow cL m w)).drawn:=Nat.le_refl _
theorem Qc(p:Program)(cL:Frame)(v:Value)(w:World):w.drawn<=(jR (endPrinting p cL v w)).drawn:=by
 unfold endPrinting;simp only[];repeat' first
  |exact Jj _ _ _
  |exact Nat.le_refl _
  |split
theorem Qd(p:Program)(cL:Frame)(cs:List Frame)(d:Option Dying)(m:String)(w:World):w.drawn<=(jR (endFatal p cL cs d m w)).drawn:=by
 unfold endFatal;simp only[];repeat' first
  |exact lZ (by assumption)
  |exact y3 (by assumption)
  |split
theorem Zm(p:Program)(cL:Frame)(d:Dying)(f:Fatal)(w:World):w.drawn<=(jR (writeOn p cL d f w)).drawn:=by
 unfold writeOn;simp only[Sem.runT_eq];split
 ·exact Nat.le_refl _
 ·generalize ag:Sem.run p _ w=r;have:=EY ag;cases r with
  |ok a w'=>exact this
  |halt h w'=>cases h<;>exact this
theorem Zn(p:Program)(cL:Frame)(d:Dying)(w:World):w.drawn<=(jR (die p cL d w)).drawn:=by
 unfold die;simp only[Sem.runT_eq];split
 ·exact Zm _ _ _ _ _
 ·split
  ·split
   ·exact Nat.le_refl _
   ·exact Zl _ _ _ _
  ·split
   ·exact Nat.le_refl _
   ·split
    ·exact lZ (by assumption)
    ·exact y3 (by assumption)
   ·rw[Bv];generalize ag:Sem.run p _ w=r;have:=EY ag;clear ag;split
    ·exact this
    ·exact this
    ·exact this
    ·exact Nat.le_trans this (Qc _ _ _ _)
    ·cases r<;>exact Nat.le_refl _
   ·exact Nat.le_refl _
theorem Jk(p:Program)(main:Bool)(cL:Frame)(cs:List Frame)(d:Option Dying)(v:Value)(w:World):w.drawn<=(jR (doReturn p main cL cs d v w)).drawn:=by
 unfold doReturn;repeat' first
  |exact Nat.le_refl _
  |split
theorem Zo{c:Prop} [Decidable c]{a b:GStep}{n:Nat}(h1:n<=(jR a).drawn)(ad:n<=(jR b).drawn):n<=(jR (if c then a else b)).drawn:=by
 split<;>assumption
theorem Zp(p:Program)(cL:Frame)(cs:List Frame)(qp:Option Dying)(d:Deferred)(w:World):w.drawn<=(jR (callDeferred p cL cs qp d w)).drawn:=by
 unfold callDeferred;simp only[Sem.runT_eq];refine Zo ?_ ?_
 ·exact Nat.le_refl _
 ·rw[Bv];generalize ag:Sem.run p _ w=r;have:=EY ag;clear ag;repeat' first
   |exact this
   |exact Nat.le_trans this (Qd _ _ _ _ _ _)
   |exact Nat.le_trans this (Jj _ _ _)
   |split
theorem Zq(p:Program)(main:Bool)(cL:Frame)(cs:List Frame)(qp:Option Dying)(w:World):w.drawn<=(jR (unwind p main cL cs qp w)).drawn:=by
 unfold unwind;simp only[Sem.runT_eq];repeat' first
  |exact Nat.le_refl _
  |exact Zp _ _ _ _ _ _
  |exact Jk _ _ _ _ _ _ _
  |exact Qc _ _ _ _
  |exact lZ (by assumption)
  |exact y3 (by assumption)
  |exact Nat.le_trans (lZ (by assumption)) (Jk _ _ _ _ _ _ _)
  |rw[Bv]
  |split
theorem Zr(p:Program)(cL:Frame)(cs:List Frame)(qp:Option Dying)(g:Nat)(w:World):w.drawn<=(jR (early p cL cs qp g w)).drawn:=by
 unfold early;simp only[];repeat' first
  |exact Nat.le_refl _
  | (refine Nat.le_trans (lZ (by assumption)) ?_;exact Nat.le_refl _)
  |exact lZ (by assumption)
  |exact y3 (by assumption)
  |split
theorem Jl(p:Program)(cL:Frame)(cs:List Frame)(qp:Option Dying)(s:Sem Next)(w:World)(b:Bool):w.drawn<=(jR (stepG.apply p b cL cs qp s w)).drawn:=by
 unfold stepG.apply;simp only[Sem.runT_eq];rw[Bv];generalize an: (if b=true then(Sem.run p s w,Sem.events p s w #[])else(Sem.run p s w,#[]))=x;obtain⟨r,es⟩:=x;have:w.drawn<=(Jh r).drawn:=by
  cases b<;>simp at an<;>exact EY an.1
 clear an;simp only[];repeat' first
  |exact this
  |exact Nat.le_trans this (Qd _ _ _ _ _ _)
  |exact Nat.le_trans this (Jj _ _ _)
  |exact Nat.le_trans this (Zr _ _ _ _ _ _)
  |split
theorem Zs(p:Program)(cL:Frame)(cs:List Frame)(qp:Option Dying)(w:World)(b:Bool):w.drawn<=(jR (stepG.oper p b cL cs qp w)).drawn:=by
 unfold stepG.oper;repeat' first
  |exact Nat.le_refl _
  |exact Jl _ _ _ _ _ _ _
  |split
theorem Zt{α:Type}{o:Option α}{b:GStep}{f:α->GStep}{n:Nat}(h1:n<=(jR b).drawn)(ad:∀a,n<=(jR (f a)).drawn):n<=(jR (o.elim b f)).drawn:=by
 cases o
 ·exact h1
 ·exact ad _
theorem Zu(p:Program)(main:Bool)(cL:Frame)(cs:List Frame)(qp:Option Dying)(w:World)(b:Bool):w.drawn<=(jR (stepG.exec p main b cL cs qp w)).drawn:=by
 unfold stepG.exec;simp only[Sem.runT_eq];split;all_goals(try simp only[Qa,Qb,Nat.le_refl])
 all_goals repeat' first
  | (with_reducible exact Nat.le_refl _)
  | (with_reducible exact Jl _ _ _ _ _ _ _)
  | (with_reducible exact Zs _ _ _ _ _ _)
  | (with_reducible exact lZ (by assumption))
  | (with_reducible exact y3 (by assumption))
  | (with_reducible exact Nat.le_trans (lZ (by assumption)) (Jk _ _ _ _ _ _ _))
  | (with_reducible exact Nat.le_trans (lZ (by assumption)) (Jl _ _ _ _ _ _ _))
  | (with_reducible refine Zt ?_ (fun _=> ?_))
  |rw[Bv]
  |simp only[Qa,Qb,Nat.le_refl]
  |split
theorem Zv(p:Program)(main:Bool)(g:Goroutine)(w:World)(b:Bool):w.drawn<=(jR (stepG p main g w b)).drawn:=by
 obtain⟨cL,cs,cr,qp,of⟩:=g;unfold stepG;simp only[];split
 ·exact Zn _ _ _ _
 ·exact Zu _ _ _ _ _ _ _
 ·exact Zq _ _ _ _ _ _
theorem Zw{p:Program}{rest:Rest}{gs:Array Goroutine}{i:Nat}{g:Goroutine}{cases:Array CommCase}{Zx:Bool}{shape:CommShape}{w:World}{dM:Machine}
  (h: (communicate p rest gs i g cases Zx shape w).1= .next dM):w.drawn<=dM.world.drawn:=by
 unfold communicate at h;simp only[]at h;have hw:∀w',waitingAt rest cases w=some w'->w.drawn<=w'.drawn:=fun w' h=>by
  unfold waitingAt at h;split at h
  ·split at h
   ·simp only[Option.some.injEq]at h;subst h;exact Nat.le_refl _
   ·cases h
  ·simp only[Option.some.injEq]at h;subst h;exact Nat.le_refl _
 repeat' first
  | (simp at h;done)
  | (simp only[Stepped.next.injEq]at h;subst h;exact Nat.le_refl _)
  | (simp only[Stepped.next.injEq]at h;subst h;exact hw _ (by assumption))
  | (simp only[Stepped.next.injEq]at h;subst h;refine Nat.le_trans (lZ (by assumption)) ?_;exact Nat.le_refl _)
  | (simp only[Stepped.next.injEq]at h;subst h;refine Nat.le_trans (lZ (by assumption)) (Nat.le_trans (lZ (by assumption)) ?_);exact Nat.le_refl _)
  | (simp only[Stepped.next.injEq]at h;subst h;refine Nat.le_trans (lZ (by assumption)) (Nat.le_trans (y3 (by assumption)) ?_);exact Nat.le_refl _)
  |split at h
theorem Qe{p:Program}{gs:Array Goroutine}{rest:Rest}{w:World}{dM:Machine}(h:Go.look p gs rest w=Stepped.next dM):w.drawn<=dM.world.drawn:=by
 unfold Go.look at h;simp only[]at h;repeat' first
  | (simp at h;done)
  | (simp only[Stepped.next.injEq]at h;subst h;refine Nat.le_trans (lZ (by assumption)) ?_;exact Nat.le_refl _)
  |split at h
theorem Zy{p:Program}{m dM:Machine}{k:Nat}(h:serve p m k= .next dM):m.world.drawn<=dM.world.drawn:=by
 unfold serve at h;simp only[]at h;repeat' first
  | (simp at h;done)
  | (simp only[Stepped.next.injEq]at h;subst h;exact Nat.le_refl _)
  |split at h
theorem Zz(w:World)(c:Nat): (drain w c).2.drawn=w.drawn:=by
 unfold drain;split<;>rfl
theorem Qf(m:Machine)(k:Nat)(t:Timer)(a b:Nat): (retime m k t a b).2.world.drawn=m.world.drawn:=by
 unfold retime;cases t.chan<;>simp[Zz]
theorem ZA{m dM:Machine}{op:TimerOp}{v:Value}(h:timerOp m op= .ok (v,dM)):m.world.drawn<=dM.world.drawn:=by
 have aF:∀var m1,timerOp.opened m var=some m1->m1.world.drawn=m.world.drawn:=fun var m1 h=>by
  unfold timerOp.opened at h;split at h
  ·split at h
   ·simp only[Option.some.injEq]at h;subst h;rfl
   ·cases h
  ·simp only[Option.some.injEq]at h;subst h;rfl
 have aS:∀ (m1:Machine) var (f:Nat->Timer->Value×Machine),(∀k t,(f k t).2.world.drawn=m.world.drawn)->timerOp.named m1 var f= .ok (v,dM)->m.world.drawn<=dM.world.drawn:=fun m1 var f aI h=>by
  unfold timerOp.named at h;split at h
  ·simp only[Except.ok.injEq]at h;have:=congrArg (fun(x:Value×Machine)=>x.2.world.drawn) h;simp only[aI]at this;exact Nat.le_of_eq this
  ·cases h
 unfold timerOp at h;simp only[]at h;split at h
 ·split at h
  ·simp only[Except.ok.injEq,Prod.mk.injEq]at h;obtain⟨_,h⟩:=h;subst h;exact Nat.le_refl _
  ·split at h
   ·split at h
    ·cases h
    ·simp only[Except.ok.injEq,Prod.mk.injEq]at h;obtain⟨_,h⟩:=h;subst h;exact Nat.le_refl _
   ·cases h
 ·exact aS _ _ _ (fun k t=>Qf _ _ _ _ _) h
 ·split at h
  ·rename_i qk;exact aS _ _ _ (fun k t=>(Qf _ _ _ _ _).trans (aF _ _ qk)) h
  ·cases h
 ·simp only[Except.ok.injEq,Prod.mk.injEq]at h;obtain⟨_,h⟩:=h;subst h;exact Nat.le_refl _
theorem ZB{p:Program}{m dM:Machine}{i:Nat}{b:Bool}(h: (runT p m i b).1= .next dM):m.world.drawn<=dM.world.drawn:=by
 simp only[runT]at h;revert h;generalize m.gs.swapAt! _ _=Qg;have ax:=Zv p (i==0) Qg.1 m.world b;revert ax;generalize stepG p _ Qg.1 m.world b=s;intro ax h;cases s<;>simp only[]at h<;>simp only[jR]at ax
 all_goals first
  | (simp at h;done)
  |exact Nat.le_trans ax (Zw h)
  |exact Nat.le_trans ax (Qe h)
  | (simp only[Stepped.next.injEq]at h;subst h;exact ax)
  | (repeat' first
    | (simp at h;done)
    | (simp only[Stepped.next.injEq]at h;subst h;exact ax)
    | (simp only[Stepped.next.injEq]at h;subst h;exact Nat.le_trans ax (ZA (by assumption)))
    | (simp only[endThrow,dieOf,Stepped.next.injEq]at h;subst h;exact ax)
    |split at h)
theorem ZC{p:Program}{m:Machine}{k:Nat}{dM:Machine}{w:World}(hw:m.world.drawn<=w.drawn)(h:serve p {m with world:=w} k= .next dM):m.world.drawn<=dM.world.drawn:=
 Nat.le_trans hw (Zy h)
theorem Qh{p:Program}{m:Machine}: (∀dM i,askOn p m= .goroutine dM i->m.world.drawn<=dM.world.drawn)/\∀dM ops,askOn p m= .machine (.next dM) ops->m.world.drawn<=dM.world.drawn:=by
 constructor
 ·intro dM i h;unfold askOn at h;simp only[]at h;repeat' first
   | (simp at h;done)
   | (simp only[Move.goroutine.injEq]at h;obtain⟨h,_⟩:=h;subst h; (try simp only[Machine.advanceTo]at *);repeat (first| (with_reducible exact Nat.le_refl _)| (with_reducible refine Nat.le_trans ?_ (lZ (by assumption)))|dsimp only))
   |split at h
 ·intro dM ops h;unfold askOn at h;simp only[]at h;repeat' first
   | (simp at h;done)
   | (simp only[Move.machine.injEq]at h;exact ZC (lZ (by assumption)) h.1)
   | (simp only[Move.machine.injEq,Stepped.next.injEq]at h;obtain⟨h,_⟩:=h;subst h; (try simp only[Machine.advanceTo]at *);repeat (first| (with_reducible exact Nat.le_refl _)| (with_reducible refine Nat.le_trans ?_ (lZ (by assumption)))|dsimp only))
   |split at h
theorem EZ{p:Program}{m:Machine}: (∀dM i,Go.ask p m= .goroutine dM i->m.world.drawn<=dM.world.drawn)/\∀dM ops,Go.ask p m= .machine (.next dM) ops->m.world.drawn<=dM.world.drawn:=by
 have key: (∃m2,m.world.drawn<=m2.world.drawn/\Go.ask p m=askOn p m2)\/(∃o w,Go.ask p m= .machine (.ended o w)):=by
  unfold Go.ask;split
  ·split
   ·exact .inr ⟨_,_,rfl⟩
   ·rename_i ao;cases af:Go.look p m.gs m.rest _ with
    |next m2=>exact .inl ⟨m2,Nat.le_trans (lZ ao) (Qe af),rfl⟩
    |ended o w=>exact .inr ⟨o,w,rfl⟩
   ·rename_i ao;exact .inl ⟨_,lZ ao,rfl⟩
  ·exact .inl ⟨m,Nat.le_refl _,rfl⟩
 rcases key with⟨m2,h1,ad⟩| ⟨o,w,ad⟩
 ·rw[ad];exact⟨fun dM i h=>Nat.le_trans h1 (Qh.1 dM i h),fun dM ops h=>Nat.le_trans h1 (Qh.2 dM ops h)⟩
 ·rw[ad];exact⟨fun dM i h=>(by simp at h),fun dM ops h=>(by simp at h)⟩
theorem Qi{p:Program}{m:Machine}: (∀dM i,move p m= .goroutine dM i->m.world.drawn<=dM.world.drawn)/\∀dM ops,move p m= .machine (.next dM) ops->m.world.drawn<=dM.world.drawn:=by
 constructor
 ·intro dM i h;unfold move at h;repeat' first
   | (simp at h;done)
   | (simp only[Move.goroutine.injEq]at h;obtain⟨h,_⟩:=h;subst h;exact Nat.le_refl _)
   |exact EZ.1 _ _ h
   |exact(EZ (m:={m with rest:={m.rest with slice:=none}})).1 _ _ h
   |split at h
 ·intro dM ops h;unfold move at h;repeat' first
   | (simp at h;done)
   |exact EZ.2 _ _ h
   |exact(EZ (m:={m with rest:={m.rest with slice:=none}})).2 _ _ h
   |split at h
theorem ZD{p:Program}{m dM:Machine}(h:step p m= .next dM):m.world.drawn<=dM.world.drawn:=by
 unfold step stepT at h;cases aT:move p m with
 |goroutine m1 i=>
  rw[aT]at h;exact Nat.le_trans (Qi.1 _ _ aT) (ZB h)
 |machine s ops=>
  rw[aT]at h;simp only[]at h;subst h;exact Qi.2 _ _ aT
theorem Qj{p:Program}:∀ (n:Nat) {m dM:Machine},runN p n m= .next dM->m.world.drawn<=dM.world.drawn
 |0,m,dM,h=>by simp only[runN,Stepped.next.injEq]at h;subst h;exact Nat.le_refl _
 |n+1,m,dM,h=>by
  simp only[runN]at h;cases ag:step p m with
  |next m1=>rw[ag]at h;exact Nat.le_trans (ZD ag) (Qj n h)
  |ended o w=>rw[ag]at h;simp at h
theorem ZE{P:Program}{f:FuncId}{args:Array Value}{w:World}{R:Ending->World->Prop}(h:Calls P f args w R):
  Calls P f args w fun e w'=>R e w'/\((∃v,e= .returned v)->w.drawn<=w'.drawn):=fun cs=>by
 obtain⟨e,w',cL,ao,al,aI,af⟩:=h cs;refine⟨e,w',cL,⟨ao,?_⟩,al,aI,af⟩;rintro⟨v,rfl⟩;obtain⟨n,aS⟩:=al;exact Qj n aS
open Go Go.Proofs
open Go.Sort (grow putRow putCells mapBlock HoldsK PermIn SortedIn SWO)
theorem ZF{w w':World}(ax:w.grownBy w' none)(aa:w.drawn<=w'.drawn):∃q os,w'=grow (w.drewN q) os:=by
 refine⟨w'.drawn-w.drawn,w'.heap.extract w.heap.size w'.heap.size,?_⟩;have h1:w'.heap=w.heap++w'.heap.extract w.heap.size w'.heap.size:=by
  apply Array.ext_getElem?;intro k;rw[Array.getElem?_append];split
  ·rename_i h;exact ax.block k h (by simp)
  ·rename_i h;rw[Array.getElem?_extract];by_cases hk:k<w'.heap.size
   ·rw[if_pos (by omega)];congr 1;omega
   ·rw[if_neg (by omega),Array.getElem?_eq_none (by omega)]
 obtain⟨h,t,n,o,u⟩:=w;obtain⟨bb,c1,DK,aK,akc⟩:=w';obtain⟨az,aG,a7,b5,du⟩:=ax;simp only at az aG a7 aa h1;subst az aG a7;simp only[grow,World.drewN];rw[<-h1];congr 1;omega
def qq(agg:Bool)(vs:List Value):Value:=bif agg then .agg vs.toArray else vs[0]!
def E0(agg:Bool)(r:List aj):aj:=bif agg then .agg r else r.headD .aW
def Qk(P:Program)(f g:FuncId)(av:Nat)(agg:Bool):Prop:=
 ∀ (n:Nat) (enc:Fin (n+1)->List Value),(∀x,(enc x).length=av)->(∀x,∀v∈enc x,v.oneCell'=true)->∀ (cf:Fin (n+1)->Fin (n+1)->Int),SWO (ltOf cf)->∀ (cn:Array Value) (bs cap:Nat) (d:Array (Fin (n+1))) (w:World),
  (∀args w,(callFunc g args).run P w= .ok (.enter g args) w)->
  (∀ (m:Nat) (os:Array Obj) (fZ:Array (Fin (n+1))),fZ.size=d.size->∀x y,Calls P g (#[qq agg (enc x),qq agg (enc y)]++cn) (sortWorldK enc av w bs 0 m fZ os) fun e w'=>
   e= .returned (.int .i64 (cf x y))/\∃q aJ,w'=grow ((sortWorldK enc av w bs 0 m fZ os).drewN q) aJ)->
  HoldsK enc av w bs 0 d->bs<w.heap.size->d.size<4611686018427387904->
  Calls P f #[.slice (some ⟨bs,0,none⟩) d.size cap,.func (.func g) #[] cn] w fun e w'=>
   e= .returned (.tuple #[])/\∃bD m os,PermIn 0 d.size d bD/\SortedIn (ltOf cf) 0 d.size bD/\w'=sortWorldK enc av w bs 0 m bD os
theorem ZG{n:Nat}{enc:Fin (n+1)->List Value}(hk:∀x,(enc x).length=1)(d:Array (Fin (n+1)))(off:Nat)(c:Array Value):putCells (fun x=>(enc x)[0]!) off d c=putCells id off (Go.Sort.flatK enc 1 d) c:=by
 apply Array.ext_getElem?;intro k;simp only[putCells,Array.getElem?_mapIdx];congr 1;funext x;simp only[Go.Sort.size_flatK,Nat.mul_one];split
 ·rename_i h;rw[Go.Sort.get_flatK _ _ _ _ (by omega),Nat.div_one,Nat.mod_one];rfl
 ·rfl
theorem ZH{P:Program}{ρ:Go.Shelf.Ren}(L:SlLaysF.n6 P ρ)(g:FuncId):Qk P (ρ.f 6) g 1 false:=by
 intro n enc hk h1 cf hO cn bs cap d w ZI E1 hH hblk bZ;have Ep:∀ (w:World) (fZ:Array (Fin (n+1))),putRow (fun x=>(enc x)[0]!) w bs 0 fZ=Go.Sort.putRowK enc 1 w bs 0 fZ:=fun w fZ=>by
  unfold Go.Sort.putRowK;unfold putRow;congr 1;funext c;exact ZG hk fZ 0 c
 have Jm:∀m fZ os,sortWorld (fun x=>(enc x)[0]!) w bs 0 m fZ os=sortWorldK enc 1 w bs 0 m fZ os:=fun m fZ os=>by
  unfold sortWorld sortWorldK;rw[Ep]
 have px:∀x,(enc x)[0]!∈enc x:=fun x=>by
  have:=hk x;rw[getElem!_pos _ 0 (by omega)];exact List.getElem_mem _
 have ZJ:Go.Sort.Holds (fun x=>(enc x)[0]!) w bs 0 d:=fun j ai=>by
  have:=hH j (by rw[Go.Sort.size_flatK];omega);rw[Go.Sort.get_flatK _ _ _ _ (by omega),Nat.div_one,Nat.mod_one]at this;exact this
 have:=Any.slices_SortFunc L (fun x=>(enc x)[0]!) (fun x=>h1 x _ (px x)) cf hO g cn bs 0 cap d w ZI (fun m os fZ ag x y=>by
  rw[Jm];exact E1 m os fZ ag x y) ZJ hblk bZ
 simp only[Jm]at this;exact this
open Go Go.Proofs
open Go.Sort (grow putRow putCells mapBlock HoldsK PermIn SortedIn SWO)
def Jn:aj->Bool
 | .cD _| .v _=>true
 |_=>false
theorem ZK{A:Nat->Prop}{os:cu}{w:World}{x:Value}{d:aj}(h:a6 A os w x d)(al:Jn d=true):bO A w x d:=by
 cases d<;>simp[Jn]at al
 ·obtain⟨rfl,h1⟩:=h.h2;exact .v h1
 ·exact h.rX
theorem Ql{A:Nat->Prop}{w:World}:∀ {vs:List Value} {ds:List aj},vs.length=ds.length->(∀ (i:Nat) v d,vs[i]?=some v->ds[i]?=some d->bO A w v d)->ph A w vs ds
 | [],[],_,_=>trivial
 | [],_::_,h,_=>by simp at h
 |_::_,[],h,_=>by simp at h
 |v::vs,d::ds,af,h=>⟨h 0 v d rfl rfl,Ql (by simpa using af) (fun i v d ac aa=>h (i+1) v d ac aa)⟩
theorem ZL{P:Program}{f g:FuncId}{e:TypeId}{av:Nat}{agg:Bool}(aI:∀ (vs:Array Value) (w:World),(callFunc f vs).run P w= .ok (.enter f vs) w)(cy:Qk P f g av agg)
  (ha:∀ (p:Option Addr) (cap:Nat) (Jo:Value) (w:World),Calls P f #[.slice p 0 cap,Jo] w fun e w'=>e= .returned (.tuple #[])/\w'=w)
  {β:Type} (F:β->List aj) (l ck:List β) (cf:β->β->Int) (hO:SWO (ltOf cf)) (ZM:∀x∈l,∀y∈l,ltOf cf x y=false->ltOf cf y x=false->x=y)
  (au:ck.Perm l) (ag:ck.Pairwise fun x y=>ltOf cf y x=false) (hlen:l.length<4611686018427387904) (b2:List aj) (H6:∀d∈b2,Jn d=true) (uL:agg=false->av=1)
  (E1:∀x∈l,∀y∈l,bg P g ([E0 agg (F x),E0 agg (F y)]++b2) (.v (.int .i64 (cf x y)))):
  b0 P f [.row e av (l.map F)] [.own 0,.fn (.func g) b2] [true] [.row e av (ck.map F)] (.a1 []):=by
 refine⟨aI,fun A w os et aw fY ac=> ?_⟩;obtain⟨x,rfl⟩:∃x,os=[(x,aU.row e av (l.map F))]:=by
  have:=fY.loc
  match os,this with
  | [(x,o)],this=>simp at this;subst this;exact⟨x,rfl⟩
 match et,ac with
 | [jS,sr],⟨h1,ad,_⟩=>
 have az:jS=x:=h1.nS (i:=0) rfl;subst az;obtain⟨se,rfl,fU,ZN⟩:=ad.p6;obtain⟨cR,xs,⟨kV,dR⟩,bZ,fp,bf,cP⟩:=fY.cp 0 jS _ rfl;have Qm:∀ {w':World},l=[]->w'=w->∃v aJ,Ending.returned (.tuple #[])= .returned v/\qY A aJ [.row e av (ck.map F)] w'/\a6 (a8 A aJ) aJ w' v (.a1 [])/\mJ (fv [(jS,aU.row e av (l.map F))]) w w'/\(∀b,fv aJ b->fv [(jS,aU.row e av (l.map F))] b\/w.heap.size<=b)/\
   ∀ (i:Nat) x o,([true]:List Bool)[i]?=some true->([(jS,aU.row e av (l.map F))]:cu)[i]?=some (x,o)->∃aK,aJ[i]?=some (x,aK):=by
  intro w' af hw;subst af hw;have:ck=[]:=au.eq_nil;subst this;exact⟨_,_,rfl,fY,.bA (.a1 (vs:=[]) (ds:=[]) rfl (fun i v d h=>by simp at h)),⟨rfl,rfl,rfl,Nat.le_refl _,fun _ _ _=>rfl⟩,fun b h=>.inl h,fun i x o h1 ad=>⟨o,ad⟩⟩
 rw[List.length_map]at dR kV;rcases dR with⟨rfl,aH⟩| ⟨bs,cap,cur,rfl,_,qs,mq,mr,hC,n2⟩
 ·have af:l=[]:=List.length_eq_zero_iff.1 aH;refine(ha none 0 _ w).mono fun e w' he=> ?_;obtain⟨rfl,hw⟩:=he;exact Qm af hw
 by_cases lR:l.length=0
 ·have af:l=[]:=List.length_eq_zero_iff.1 lR;have sf:Calls P f #[.slice (some ⟨bs,0,none⟩) l.length cap,.func (.func g) #[] se.toArray] w fun e w'=>e= .returned (.tuple #[])/\w'=w:=by
   rw[lR];exact ha _ _ _ _
  refine sf.mono fun e w' he=> ?_;obtain⟨rfl,hw⟩:=he;exact Qm af hw
 obtain⟨n,aS⟩:∃n,l.length=n+1:=⟨l.length-1,by omega⟩
 have b7:∀i:Fin (n+1),i.1<l.length:=fun i=>by omega
 let enc:Fin (n+1)->List Value:=fun i=>(xs.drop (i.1*av)).take av
 let Bw:Fin (n+1)->Fin (n+1)->Int:=fun i j=>cf (l[i.1]'(b7 i)) (l[j.1]'(b7 j))
 have Qn:∀i,enc i=(xs.drop (i.1*av)).take av:=fun i=>rfl;have akd:∀i j,Bw i j=cf (l[i.1]'(b7 i)) (l[j.1]'(b7 j)):=fun i j=>rfl;have ZO:∀i:Fin (n+1),i.1*av+av<=xs.length:=fun i=>by
  rw[kV,aS];have:=Nat.mul_le_mul_right av (show i.1+1<=n+1 by omega);rwa[Nat.add_mul,Nat.one_mul]at this
 have e8:∀i,(enc i).length=av:=fun i=>by
  have:=ZO i;rw[Qn,List.length_take,List.length_drop];omega
 have Qo:∀ (i:Fin (n+1)) j,j<av->(enc i)[j]?=xs[i.1*av+j]?:=fun i j ai=>by
  rw[Qn,List.getElem?_take,if_pos ai,List.getElem?_drop]
 have yu:∀i,∀v∈enc i,v.oneCell'=true:=fun i v ac=>bf v (List.mem_of_mem_drop (List.mem_of_mem_take ac));have ZP:SWO (ltOf Bw):=⟨fun x=>hO.irrefl _,fun x y z=>hO.trans _ _ _,fun x y z=>hO.ntrans _ _ _⟩
 let d:Array (Fin (n+1)):=Array.ofFn fun i=>i
 have u6:d.size=n+1:=by simp[d]
 have Bx:∀t (h:t<n+1),d[t]! = ⟨t,h⟩:=fun t h=>by
  rw[getElem!_pos d t (by rw[u6];exact h)];simp[d]
 have ZQ:Go.Sort.flatK enc av d=xs.toArray:=by
  refine Go.Sort.ext_get! (by rw[Go.Sort.size_flatK,u6];simp[kV,aS]) fun t bW=> ?_;rw[Go.Sort.size_flatK]at bW;have kq:t<(n+1) *av:=by rw[u6]at bW;exact bW
  rw[Go.Sort.get_flatK _ _ _ _ bW];have bF:t/av<n+1:=Nat.div_lt_of_lt_mul (by rwa[Nat.mul_comm]);rw[Bx _ bF];have ao:t%av<av:=Nat.mod_lt _ bZ;have aG:=Qo ⟨t/av,bF⟩ (t%av) ao;have a7:t/av*av+t%av=t:=by rw[Nat.mul_comm];exact Nat.div_add_mod t av
  simp only[a7]at aG;have an:t<xs.length:=by rw[kV,aS];exact kq
  rw[List.getElem?_eq_getElem an]at aG;obtain⟨bh,bL⟩:=List.getElem?_eq_some_iff.1 aG;rw[getElem!_pos _ (t%av) bh,bL,getElem!_pos xs.toArray t (by simpa using an)];simp
 have ZR:∀j,j<xs.length->cur[j]?=xs[j]?:=fun j ai=>by
  rw[<-n2,List.getElem?_take,if_pos (by rw[<-kV];exact ai)];simp
 have hH:HoldsK enc av w bs 0 d:=by
  unfold HoldsK;rw[ZQ];intro j ai;have tE:j<xs.length:=by simpa using ai
  refine⟨?_,?_⟩
  ·simp only[World.cell?,qs,Nat.zero_add];rw[getElem!_pos _ j ai];simp[ZR j tE,tE]
  ·simp[World.frozen?,qs]
 have hblk:bs<w.heap.size:=(Array.getElem?_eq_some_iff.1 qs).1;have fV:a8 A [(Value.slice (some ⟨bs,0,none⟩) l.length cap,aU.row e av (l.map F))] bs:=.inr ⟨0,_,_,rfl,by simp,rfl⟩;have By:∀m fZ os b,b≠bs->b<w.heap.size->(sortWorldK enc av w bs 0 m fZ os).heap[b]?=w.heap[b]?:=fun m fZ os b bx ae=>by
  unfold sortWorldK Go.Sort.putRowK putRow mapBlock grow Go.Sort.ahead;simp only;rw[Array.getElem?_append_left (by simpa using ae),Array.getElem?_modify,if_neg (Ne.symm bx)]
 have Bz:∀m fZ os,w.heap.size<=(sortWorldK enc av w bs 0 m fZ os).heap.size:=fun m fZ os=>size_sortWorldK_c enc av w bs 0 m fZ os;have jq:∀m fZ os,cT (a8 A [(Value.slice (some ⟨bs,0,none⟩) l.length cap,aU.row e av (l.map F))]) (fun _=>False) w (sortWorldK enc av w bs 0 m fZ os):=fun m fZ os=>
  ⟨Bz m fZ os,fun b _ h=>h.elim,fun b ae w1=>By m fZ os b (fun e=>w1 (e▸fV)) ae⟩
 have lQ:∀ (i:Fin (n+1)),(F (l[i.1]'(b7 i))).length=av/\∀j v mO,(enc i)[j]?=some v->(F (l[i.1]'(b7 i)))[j]?=some mO->bO (a8 A [(Value.slice (some ⟨bs,0,none⟩) l.length cap,aU.row e av (l.map F))]) w v mO:=fun i=>by
  have mS: (l.map F)[i.1]?=some (F (l[i.1]'(b7 i))):=by simp[b7 i]
  refine⟨fp _ (List.mem_of_getElem? mS),fun j v mO ac aa=> ?_⟩;obtain⟨u,hu,jL⟩:=cP i.1 j _ mO mS aa;have ai:j<av:=by
   have:=fp _ (List.mem_of_getElem? mS);have:=(List.getElem?_eq_some_iff.1 aa).1;omega
  rw[Qo i j ai,hu]at ac;cases ac;exact jL
 have yM:∀m fZ os (i:Fin (n+1)),bO (fun _=>False) (sortWorldK enc av w bs 0 m fZ os) (qq agg (enc i)) (E0 agg (F (l[i.1]'(b7 i)))):=fun m fZ os i=>by
  obtain⟨gh,fh⟩:=lQ i;cases agg with
  |true=>exact .agg (by rw[e8,gh]) (yu i) (fun j v mO ac aa=>(fh j v mO ac aa).b9 (jq m fZ os))
  |false=>
   have h1:=uL rfl;have fT:=e8 i;rw[h1]at gh fT;simp only[qq,E0,cond_false];obtain⟨u,hu⟩:=List.length_eq_one_iff.1 fT;obtain⟨mO,aa⟩:=List.length_eq_one_iff.1 gh;rw[hu,aa]at fh⊢;exact(fh 0 u mO rfl rfl).b9 (jq m fZ os)
 have E2:∀args w,(callFunc g args).run P w= .ok (.enter g args) w:=(E1 _ (List.getElem_mem (b7 ⟨0,by omega⟩)) _ (List.getElem_mem (b7 ⟨0,by omega⟩))).1;have gn:∀ (m:Nat) (os:Array Obj) (fZ:Array (Fin (n+1))),fZ.size=d.size->∀x y,Calls P g (#[qq agg (enc x),qq agg (enc y)]++se.toArray) (sortWorldK enc av w bs 0 m fZ os) fun e w'=>
   e= .returned (.int .i64 (Bw x y))/\∃q aJ,w'=grow ((sortWorldK enc av w bs 0 m fZ os).drewN q) aJ:=fun m os fZ _ i j=>by
  have ao:=(E1 _ (List.getElem_mem (b7 i)) _ (List.getElem_mem (b7 j))).2 (fun _=>False) (sortWorldK enc av w bs 0 m fZ os) ([qq agg (enc i),qq agg (enc j)]++se) (fun b h=>h.elim)
   ⟨yM m fZ os i,yM m fZ os j,Ql fU (fun q v mO ac aa=>(ZK (ZN q v mO ac aa) (H6 mO (List.mem_of_getElem? aa))).b9 (jq m fZ os))⟩
  have ao:=ZE ao;have ls: (#[qq agg (enc i),qq agg (enc j)]++se.toArray)=([qq agg (enc i),qq agg (enc j)]++se).toArray:=by simp
  rw[ls];refine ao.mono fun e w' he=> ?_;obtain⟨⟨v,rfl,jL,ZS⟩,aa⟩:=he;have ac:v= .int .i64 (Bw i j):=jL.h2;subst ac;exact⟨rfl,ZF ZS (aa ⟨_,rfl⟩)⟩
 have sf:=cy n enc e8 yu Bw ZP se.toArray bs cap d w E2 gn hH hblk (by rw[u6];omega);rw[u6]at sf;have ZT: ([Value.slice (some ⟨bs,0,none⟩) l.length cap,Value.func (.func g) #[] se.toArray]:List Value).toArray= #[.slice (some ⟨bs,0,none⟩) ((n+1:Nat):Nat) cap,.func (.func g) #[] se.toArray]:=by rw[aS]
 rw[ZT];refine sf.mono fun iq w' he=> ?_;obtain⟨rfl,bD,m,fy,⟨y4,_,Qp⟩,ZU,rfl⟩:=he;rw[u6]at y4;have Qq:bD.extract 0 bD.size=bD:=Array.extract_size;rw[y4]at Qq;have A4:d.extract 0 d.size=d:=Array.extract_size;rw[u6]at A4;rw[Qq,A4]at Qp;have fG:bD.toList.map (fun i=>l[i.1]'(b7 i))=ck:=by
  have dk: (d.toList.map fun i=>l[i.1]'(b7 i))=l:=by
   refine List.ext_getElem (by simp[u6,aS]) fun t ake PZ=> ?_;simp only[List.getElem_map,Array.getElem_toList];have:=Bx t (by omega);rw[getElem!_pos d t (by omega)]at this;simp only[this]
  have Jp: (bD.toList.map fun i=>l[i.1]'(b7 i)).Perm l:=by
   conv=>rhs;rw[<-dk]
   exact Qp.map _
  refine List.Perm.eq_of_pairwise (le:=fun x y=>ltOf cf y x=false) ?_ ?_ ag (Jp.trans au.symm)
  ·intro a b aZ ae h1 ad;exact ZM a (Jp.mem_iff.1 aZ) b (au.mem_iff.1 ae) ad h1
  ·rw[List.pairwise_iff_getElem];intro i j ab ai dS;simp only[List.getElem_map,Array.getElem_toList];simp only[List.length_map,Array.length_toList]at ab ai;have:=ZU i j (Nat.zero_le _) dS (by omega);rw[getElem!_pos bD i ab,getElem!_pos bD j ai]at this;exact this
 have oM:ck.length=n+1:=by rw[<-fG];simp[y4]
 let tF:=Go.Sort.flatK enc av bD
 have tG:tF.size=(n+1) *av:=by simp[tF,y4]
 let w2:=putCells id 0 tF cur
 have ZV:w2.size=cur.size:=by simp[w2,putCells]
 have ss: (n+1) *av<=cur.size:=by
  rw[hC,<-aS];exact Nat.mul_le_mul_right _ mq
 have ZW:∀t,t<(n+1) *av->w2[t]?=some tF[t]!:=fun t bW=>by
  simp only[w2,putCells,Array.getElem?_mapIdx];rw[Array.getElem?_eq_getElem (by omega),Option.map_some,if_pos ⟨Nat.zero_le _,by rw[tG];omega⟩];rfl
 have ZX:w2.toList.take ((n+1) *av)=tF.toList:=by
  refine List.ext_getElem? fun t=> ?_;rw[List.getElem?_take];by_cases bW:t<(n+1) *av
  ·rw[if_pos bW,Array.getElem?_toList,ZW t bW,getElem!_pos tF t (by omega)];simp[tG,bW]
  ·rw[if_neg bW,List.getElem?_eq_none (by simp[tG];omega)]
 have Jq: (sortWorldK enc av w bs 0 m bD fy).heap[bs]?=some (.cells w2 e (0,0)):=by
  unfold sortWorldK Go.Sort.putRowK putRow mapBlock grow Go.Sort.ahead;simp only;rw[Array.getElem?_append_left (by simpa using hblk),Array.getElem?_modify,if_pos rfl,qs];rfl
 have y5:∀b,fv [(Value.slice (some ⟨bs,0,none⟩) l.length cap,aU.row e av (ck.map F))] b->b=bs:=fun b ⟨i,x,o,ab,_,ae⟩=>by
  match i,ab with
  |0,ab=>simp at ab;obtain⟨rfl,_⟩:=ab;simp[Go.Lift.bs]at ae;exact ae.symm
 have w1:¬A bs:=fun h=>fY.out bs h ⟨0,_,_,rfl,by simp,rfl⟩;have ZY:cT (a8 A [(Value.slice (some ⟨bs,0,none⟩) l.length cap,aU.row e av (l.map F))]) (a8 A [(Value.slice (some ⟨bs,0,none⟩) l.length cap,aU.row e av (ck.map F))]) w (sortWorldK enc av w bs 0 m bD fy):=
  ⟨Bz m bD fy,fun b ae h=>by
   rcases h with h|h
   ·exact .inl h
   ·rw[y5 b h];exact fV,fun b ae w1=>By m bD fy b (fun e=>w1 (e▸fV)) ae⟩
 refine⟨_,[(Value.slice (some ⟨bs,0,none⟩) l.length cap,aU.row e av (ck.map F))],rfl,⟨rfl,?_,?_,?_⟩,.bA (.a1 (vs:=[]) (ds:=[]) rfl (fun i v d h=>by simp at h)),⟨rfl,rfl,rfl,Bz m bD fy,?_⟩,?_,?_⟩
 ·intro i x o ab
  match i,ab with
  |0,ab=>
   simp at ab;obtain⟨rfl,rfl⟩:=ab;refine⟨fun b _=>.inr trivial,tF.toList,⟨by simp[tG,oM],.inr ⟨bs,cap,w2,by rw[List.length_map,oM,aS],Nat.zero_le _,Jq,by rw[List.length_map,oM,<-aS];exact mq,mr,by rw[ZV];exact hC,by rw[List.length_map,oM];exact ZX⟩⟩,bZ,?_,?_,?_⟩
   ·intro r ao;obtain⟨y,bt,rfl⟩:=List.mem_map.1 ao;exact fp _ (List.mem_map.2 ⟨y,au.mem_iff.1 bt,rfl⟩)
   ·intro v ac;obtain⟨t,bW,rfl⟩:=List.getElem_of_mem ac;simp only[Array.length_toList,tG]at bW;simp only[Array.getElem_toList];have aG:=Go.Sort.get_flatK enc av bD t (by rw[y4];exact bW);rw[getElem!_pos tF t (by omega)]at aG;rw[aG,getElem!_pos _ (t%av) (by rw[e8];exact Nat.mod_lt _ bZ)];exact yu _ _ (List.getElem_mem _)
   ·intro k j r mO ao aa;have hk:k<ck.length:=by have:=(List.getElem?_eq_some_iff.1 ao).1;simpa using this
    have lm:k<n+1:=by omega
    have BA:r=F (l[(bD[k]'(by omega)).1]'(b7 _)):=by
     simp only[List.getElem?_map,List.getElem?_eq_getElem hk,Option.map_some,Option.some.injEq]at ao;rw[<-ao];congr 1;simp only[<-fG,List.getElem_map,Array.getElem_toList]
    subst BA;obtain⟨gh,fh⟩:=lQ (bD[k]'(by omega));have ai:j<av:=by have:=(List.getElem?_eq_some_iff.1 aa).1;omega
    have ap:k*av+j<(n+1) *av:=by
     have:=Nat.mul_le_mul_right av (show k+1<=n+1 by omega);rw[Nat.add_mul,Nat.one_mul]at this;omega
    have aG:=Go.Sort.get_flatK enc av bD (k*av+j) (by rw[y4];exact ap);have a7: (k*av+j)/av=k:=by
     rw[Nat.mul_comm,Nat.mul_add_div bZ,Nat.div_eq_of_lt ai,Nat.add_zero]
    have b5: (k*av+j)%av=j:=by
     rw[Nat.mul_comm,Nat.mul_add_mod,Nat.mod_eq_of_lt ai]
    rw[a7,b5,getElem!_pos bD k (by omega),getElem!_pos _ j (by rw[e8];exact ai)]at aG;refine⟨_,?_,(fh j _ mO (List.getElem?_eq_getElem (by rw[e8];exact ai)) aa).b9 ZY⟩;rw[Array.getElem?_toList,Array.getElem?_eq_getElem (by omega),<-aG,getElem!_pos tF _ (by omega)]
 ·intro i j x o y aK b ab ai _ _ _ _;have dl:=(List.getElem?_eq_some_iff.1 ab).1;have a2:=(List.getElem?_eq_some_iff.1 ai).1;simp at dl a2;omega
 ·intro b ae h;rw[y5 b h]at ae;exact w1 ae
 ·intro k hk u7;exact By m bD fy k (fun e=>u7 (e▸ ⟨0,_,_,rfl,by simp,rfl⟩)) hk
 ·intro b h;rw[y5 b h];exact .inl ⟨0,_,_,rfl,by simp,rfl⟩
 ·intro i x o h1 ad
  match i,ad with
  |0,ad=>simp at ad;obtain⟨rfl,_⟩:=ad;exact⟨_,rfl⟩
open Go Go.Proofs
open Go.Sort (grow putRow putCells mapBlock Holds)
def jw(x:Int):List aj:=[.v (.int .i64 x)]
theorem ZZ(cur:Array Value)(da ck:List Int)(h:da.length<=cur.size)(au:da.take ck.length=ck)(af:ck.length<=da.length): (putCells (Value.int .i64) 0 da.toArray cur).toList.take ck.length=ck.map (Value.int .i64):=by
 apply List.ext_getElem?;intro j;by_cases ai:j<ck.length
 ·have e:ck[j]?=da[j]?:=by
   conv=>lhs;rw[<-au]
   rw[List.getElem?_take_of_lt ai]
  rw[List.getElem?_take_of_lt ai,Array.getElem?_toList,List.getElem?_map,e];have h1:j<da.length:=by omega
  simp[putCells,h1,show j<cur.size by omega]
 ·rw[List.getElem?_take_eq_none (by omega),List.getElem?_eq_none (by simp;omega)]
theorem Z0{A:Nat->Prop}{w:World}{bs cap n:Nat}{fy:Array Obj}{e:TypeId}{l ck da:List Int}{cur:Array Value}
  (fY:qY A [(Value.slice (some ⟨bs,0,none⟩) l.length cap,aU.row e 1 (l.map jw))] [aU.row e 1 (l.map jw)] w)
  (qs:w.heap[bs]?=some (.cells cur e (0,0))) (bE:da.length=l.length) (mq:l.length<=cap) (mr:cap<=maxLen) (hC:cur.size=cap*1) (Jr:da.take ck.length=ck) (gi:ck.length<=l.length):
  qY A [(Value.slice (some ⟨bs,0,none⟩) ck.length cap,aU.row e 1 (ck.map jw))] [aU.row e 1 (ck.map jw)] (grow (putRow (Value.int .i64) (Go.Sort.ahead w n) bs 0 da.toArray) fy)/\
  mJ (fv [(Value.slice (some ⟨bs,0,none⟩) l.length cap,aU.row e 1 (l.map jw))]) w (grow (putRow (Value.int .i64) (Go.Sort.ahead w n) bs 0 da.toArray) fy)/\
  ∀b,fv [(Value.slice (some ⟨bs,0,none⟩) ck.length cap,aU.row e 1 (ck.map jw))] b->fv [(Value.slice (some ⟨bs,0,none⟩) l.length cap,aU.row e 1 (l.map jw))] b\/w.heap.size<=b:=by
 have hblk:bs<w.heap.size:=(Array.getElem?_eq_some_iff.1 qs).1;have Jq: (grow (putRow (Value.int .i64) (Go.Sort.ahead w n) bs 0 da.toArray) fy).heap[bs]?=some (.cells (putCells (Value.int .i64) 0 da.toArray cur) e (0,0)):=by
  unfold putRow mapBlock grow Go.Sort.ahead;simp only;rw[Array.getElem?_append_left (by simpa using hblk),Array.getElem?_modify,if_pos rfl,qs];rfl
 have By:∀b,b≠bs->b<w.heap.size->(grow (putRow (Value.int .i64) (Go.Sort.ahead w n) bs 0 da.toArray) fy).heap[b]?=w.heap[b]?:=fun b bx ae=>by
  unfold putRow mapBlock grow Go.Sort.ahead;simp only;rw[Array.getElem?_append_left (by simpa using ae),Array.getElem?_modify,if_neg (Ne.symm bx)]
 have Bz:w.heap.size<=(grow (putRow (Value.int .i64) (Go.Sort.ahead w n) bs 0 da.toArray) fy).heap.size:=by
  unfold putRow mapBlock grow Go.Sort.ahead;simp
 have y5:∀b,fv [(Value.slice (some ⟨bs,0,none⟩) ck.length cap,aU.row e 1 (ck.map jw))] b->b=bs:=fun b ⟨i,x,o,ab,_,ae⟩=>by
  match i,ab with
  |0,ab=>simp at ab;obtain⟨rfl,_⟩:=ab;simp[Go.Lift.bs]at ae;exact ae.symm
 have gI:fv [(Value.slice (some ⟨bs,0,none⟩) l.length cap,aU.row e 1 (l.map jw))] bs:=⟨0,_,_,rfl,by simp,rfl⟩
 have w1:¬A bs:=fun h=>fY.out bs h gI;have dk: (putCells (Value.int .i64) 0 da.toArray cur).size=cur.size:=by simp[putCells]
 refine⟨⟨rfl,?_,?_,?_⟩,⟨rfl,rfl,rfl,Bz,?_⟩,?_⟩
 ·intro i x o ab
  match i,ab with
  |0,ab=>
   simp at ab;obtain⟨rfl,rfl⟩:=ab;refine⟨fun b _=>.inr trivial,ck.map (Value.int .i64),⟨by simp,.inr ⟨bs,cap,_,by rw[List.length_map],Nat.zero_le _,Jq,by rw[List.length_map];omega,mr,by rw[dk];exact hC,?_⟩⟩,Nat.one_pos,?_,?_,?_⟩
   ·rw[List.length_map,Nat.mul_one];exact ZZ cur da ck (by omega) Jr (by omega)
   ·intro r ao;obtain⟨y,bt,rfl⟩:=List.mem_map.1 ao;rfl
   ·intro v ac;obtain⟨y,bt,rfl⟩:=List.mem_map.1 ac;rfl
   ·intro k j r mO ao aa;have hk:k<ck.length:=by have:=(List.getElem?_eq_some_iff.1 ao).1;simpa using this
    simp only[List.getElem?_map,List.getElem?_eq_getElem hk,Option.map_some,Option.some.injEq]at ao;subst ao
    match j,aa with
    |0,aa=>
     simp only[jw,List.getElem?_cons_zero,Option.some.injEq]at aa;subst aa;exact⟨.int .i64 ck[k],by simp[hk],.v rfl⟩
    |j+1,aa=>simp[jw]at aa
 ·intro i j x o y aK b ab ai _ _ _ _;have dl:=(List.getElem?_eq_some_iff.1 ab).1;have a2:=(List.getElem?_eq_some_iff.1 ai).1;simp at dl a2;omega
 ·intro b ae h;rw[y5 b h]at ae;exact w1 ae
 ·intro k hk u7;exact By k (fun e=>u7 (e▸gI)) hk
 ·intro b h;rw[y5 b h];exact .inl gI
theorem Js{P:Program}{f:FuncId}{e:TypeId}(aI:∀ (vs:Array Value) (w:World),(callFunc f vs).run P w= .ok (.enter f vs) w)(l ck da:List Int)(kept:List Bool)(d:aj)(R:Option Addr->Nat->Value)
  (ha:l=[]->∀ (p:Option Addr) (cap:Nat) (w:World),Calls P f #[.slice p 0 cap] w fun e w'=>e= .returned (R p cap)/\w'=w)
  (gn:∀ (bs cap:Nat) (w:World),Go.Sort.Holds (Value.int .i64) w bs 0 l.toArray->bs<w.heap.size->l.length<=cap->Calls P f #[.slice (some ⟨bs,0,none⟩) l.length cap] w fun e w'=>e= .returned (R (some ⟨bs,0,none⟩) cap)/\∃n os,w'=grow (putRow (Value.int .i64) (Go.Sort.ahead w n) bs 0 da.toArray) os)
  (bE:da.length=l.length) (Jr:da.take ck.length=ck) (gi:ck.length<=l.length) (lS:kept=[false]\/ck.length=l.length)
  (b1:∀A w (aJ:cu) p cap,aJ[0]?=some (.slice p ck.length cap,.row e 1 (ck.map jw))->a6 (a8 A aJ) aJ w (R p cap) d):
  b0 P f [.row e 1 (l.map jw)] [.own 0] kept [.row e 1 (ck.map jw)] d:=by
 refine⟨aI,fun A w os et aw fY ac=> ?_⟩;obtain⟨x,rfl⟩:∃x,os=[(x,aU.row e 1 (l.map jw))]:=by
  have:=fY.loc
  match os,this with
  | [(x,o)],this=>simp at this;subst this;exact⟨x,rfl⟩
 match et,ac with
 | [jS],⟨h1,_⟩=>
 have az:jS=x:=h1.nS (i:=0) rfl;subst az;obtain⟨cR,xs,⟨kV,dR⟩,bZ,fp,bf,cP⟩:=fY.cp 0 jS _ rfl;rw[List.length_map]at dR kV;have oQ:∀ (p:Option Addr) (cap:Nat),l=[]->jS= .slice p 0 cap->Calls P f [jS].toArray w fun Z1 w'=>∃v aJ,Z1= .returned v/\qY A aJ [.row e 1 (ck.map jw)] w'/\a6 (a8 A aJ) aJ w' v d/\mJ (fv [(jS,aU.row e 1 (l.map jw))]) w w'/\(∀b,fv aJ b->fv [(jS,aU.row e 1 (l.map jw))] b\/w.heap.size<=b)/\
   ∀ (i:Nat) x o,kept[i]?=some true->([(jS,aU.row e 1 (l.map jw))]:cu)[i]?=some (x,o)->∃aK,aJ[i]?=some (x,aK):=fun p cap af Is=>by
  subst af Is;have:ck=[]:=List.length_eq_zero_iff.1 (by simpa using gi);subst this;refine(ha rfl p cap w).mono fun iq w' he=> ?_;obtain⟨rfl,rfl⟩:=he;exact⟨_,_,rfl,fY,b1 _ _ _ p cap rfl,⟨rfl,rfl,rfl,Nat.le_refl _,fun _ _ _=>rfl⟩,fun b h=>.inl h,fun i x o h1 ad=>⟨o,ad⟩⟩
 rcases dR with⟨rfl,aH⟩| ⟨bs,cap,cur,rfl,_,qs,mq,mr,hC,n2⟩
 ·exact oQ none 0 (List.length_eq_zero_iff.1 aH) rfl
 by_cases lR:l.length=0
 ·exact oQ (some ⟨bs,0,none⟩) cap (List.length_eq_zero_iff.1 lR) (by rw[lR])
 have hblk:bs<w.heap.size:=(Array.getElem?_eq_some_iff.1 qs).1;have hH:Go.Sort.Holds (Value.int .i64) w bs 0 l.toArray:=by
  intro j ai;have tE:j<l.length:=by simpa using ai
  have k0: (l.map jw)[j]?=some (jw l[j]):=by simp[tE]
  obtain⟨u,hu,jL⟩:=cP j 0 _ _ k0 (rfl: (jw l[j])[0]?=some (.v (.int .i64 l[j])));have Z2:u= .int .i64 l[j]:=jL.h2;subst Z2;rw[Nat.mul_one,Nat.add_zero,<-n2,List.getElem?_take]at hu;have fX:j<l.length*1:=by omega
  rw[if_pos fX,Array.getElem?_toList]at hu;refine⟨?_,by simp[World.frozen?,qs]⟩;simp only[World.cell?,qs,Nat.zero_add];simp only[Option.isSome_none,Bool.false_eq_true,if_false];rw[hu];simp[tE]
 refine(gn bs cap w hH hblk mq).mono fun iq w' he=> ?_;obtain⟨rfl,n,fy,rfl⟩:=he;obtain⟨g1,g2,g3⟩:=Z0 (n:=n) (fy:=fy) fY qs bE mq mr hC Jr gi;refine⟨_,_,rfl,g1,b1 _ _ _ _ _ rfl,g2,g3,?_⟩;intro i x o h1 ad
 match i,ad with
 |0,ad=>
  simp at ad;obtain⟨rfl,_⟩:=ad;rcases lS with rfl|hk
  ·simp at h1
  ·rw[<-hk];exact⟨_,rfl⟩
theorem Z3{P:Program}{ρ:Go.Shelf.Ren}{f:FuncId}{e:TypeId}(L:Lays.n189 P ρ)(yQ:ρ.f 189=f)(aI:∀ (vs:Array Value) (w:World),(callFunc f vs).run P w= .ok (.enter f vs) w)(l ck:List Int)(au:ck.Perm l)(ag:ck.Pairwise fun x y=>x<=y)(hlen:l.length<4611686018427387904):
  b0 P f [.row e 1 (l.map jw)] [.own 0] [true] [.row e 1 (ck.map jw)] (.a1 []):=by
 subst yQ;have he:l.mergeSort (fun x y=>decide (x<=y))=ck:=by
  have h1:=List.pairwise_mergeSort (le:=fun x y:Int=>decide (x<=y)) (fun a b c h1 ad=>by simp at *;omega) (fun a b=>by simp;omega) l;refine List.Perm.eq_of_pairwise (le:=fun x y:Int=>x<=y) (fun a b _ _ h1 ad=>by omega) (h1.imp fun h=>by simpa using h) ag ((List.mergeSort_perm _ _).trans au.symm)
 refine Js aI l ck ck [true] (.a1 []) (fun _ _=>.tuple #[]) (fun _ p cap w=>Any.slices_Sort_int_none L p cap w) (fun bs cap w hH ae _=> ?_) au.length_eq (List.take_length ..) (Nat.le_of_eq au.length_eq) (.inr au.length_eq) (fun A w aJ p cap h=>.bA (.a1 (vs:=[]) (ds:=[]) rfl (fun i v d h=>by simp at h)));have h:=Any.slices_Sort_int L bs 0 cap l w hH ae hlen;rw[he]at h;exact h
theorem Qr(w:World):grow w #[]=w:=by
 cases w;simp[grow]
theorem Qs(l:List Int): (Lib.compact l).length<=l.length:=by
 unfold Lib.compact Lib.compactUpTo;rw[List.length_map];exact Nat.le_trans (List.length_filter_le ..) (by simp)
theorem Z4{P:Program}{ρ:Go.Shelf.Ren}{f:FuncId}{e:TypeId}(L:Lays2.n20 P ρ)(yQ:ρ.f 20=f)(aI:∀ (vs:Array Value) (w:World),(callFunc f vs).run P w= .ok (.enter f vs) w)(l:List Int)(hlen:l.length<=9223372036854775807):
  b0 P f [.row e 1 (l.map jw)] [.own 0] [false] [.row e 1 ((Lib.compact l).map jw)] (.own 0):=by
 subst yQ;have al:=Qs l;by_cases af:l=[]
 ·subst af;refine Js aI [] (Lib.compact []) [] [false] (.own 0) (fun p cap=>.slice p (Lib.compact ([]:List Int)).length cap) (fun _ p cap w=>Any.slices_Compact_int_empty L p cap w) (fun bs cap w hH ae _=> ?_) rfl rfl (Nat.le_refl _) (.inl rfl) (fun A w aJ p cap h=>.own h rfl);refine(Any.slices_Compact_int_empty L (some ⟨bs,0,none⟩) cap w).mono fun iq w' he=> ?_;obtain⟨rfl,rfl⟩:=he;refine⟨rfl,0,#[],?_⟩;refine(Go.Sort.putRow_self (Value.int .i64) _ bs 0 #[] ?_).symm.trans ?_
  ·intro j ai;simp at ai
  ·rw[Qr];rfl
 ·refine Js aI l (Lib.compact l) (Lib.compact l++List.replicate (l.length- (Lib.compact l).length) 0) [false] (.own 0) (fun p cap=>.slice p (Lib.compact l).length cap) (fun h=>absurd h af) (fun bs cap w hH ae gu=> ?_) (by simp;omega) (by simp) al (.inl rfl) (fun A w aJ p cap h=>.own h rfl)
  ·refine(Any.slices_Compact_int L bs 0 cap l w hH hlen gu).mono fun iq w' he=> ?_;obtain⟨rfl,q,rfl⟩:=he;exact⟨rfl,q,#[],(Qr _).symm⟩
theorem Qt{da:List Int}(ag:da.Pairwise fun x y=>x<=y):∀m,m<=da.length->(Lib.compactUpTo da.toArray m).Pairwise (fun x y=>x<y)/\∀x,x∈Lib.compactUpTo da.toArray m↔x∈da.take m
 |0,_=>by simp[Lib.compactUpTo]
 |m+1,h=>by
  obtain⟨h1,ad⟩:=Qt ag m (by omega);have aT:m<da.length:=by omega
  have az:da.toArray[m]! =da[m]:=by simp[getElem!_pos,aT]
  have sj:∀x,x∈da.take m->x<=da[m]:=fun x an=>by
   obtain⟨j,ai,rfl⟩:=List.getElem_of_mem an;rw[List.getElem_take];rw[List.length_take]at ai;exact List.pairwise_iff_getElem.1 ag j m (by omega) aT (by omega)
  rw[Lib.compactUpTo_succ,List.take_succ_eq_append_getElem aT,az];by_cases aH:m=0
  ·subst aH;have hk:Lib.keeps da.toArray 0=true:=Lib.keeps_lt_one _ 0 (by omega);rw[if_pos hk];simp[Lib.compactUpTo]
  ·have Jt:m-1<da.length:=by omega
   have aG:da.toArray[m-1]! =da[m-1]:=by simp[getElem!_pos,Jt]
   have cw:da[m-1]∈da.take m:=by
    refine List.mem_iff_getElem.2 ⟨m-1,by simp;omega,?_⟩;rw[List.getElem_take]
   by_cases he:da[m]=da[m-1]
   ·have hk:Lib.keeps da.toArray m=false:=Lib.keeps_neg (by omega) (by rw[az,aG,he]);rw[hk,if_neg (by simp),List.append_nil];refine⟨h1,fun x=> ?_⟩;rw[ad,List.mem_append,List.mem_singleton];refine⟨.inl,fun h=>h.elim id fun h=> ?_⟩;rw[h,he];exact cw
   ·have hk:Lib.keeps da.toArray m=true:=Lib.keeps_pos (by rw[az,aG];exact he);rw[if_pos hk];refine⟨List.pairwise_append.2 ⟨h1,by simp,fun x an y bt=> ?_⟩,fun x=> ?_⟩
    ·rw[List.mem_singleton]at bt;subst bt;have an:=(ad x).1 an;have aC:=sj x an;obtain⟨j,ai,rfl⟩:=List.getElem_of_mem an;rw[List.getElem_take]at aC⊢;rw[List.length_take]at ai;have hle:da[j]<=da[m-1]:=by
      by_cases Z5:j=m-1
      ·subst Z5;exact Int.le_refl _
      ·exact List.pairwise_iff_getElem.1 ag j (m-1) (by omega) Jt (by omega)
     have Ow:da[m-1]<=da[m]:=sj _ cw;omega
    ·rw[List.mem_append,List.mem_append,ad]
theorem Qu{da:List Int}(ag:da.Pairwise fun x y=>x<=y): (Lib.compact da).Pairwise (fun x y=>x<y)/\∀x,x∈Lib.compact da↔x∈da:=by
 have h:=Qt ag da.length (Nat.le_refl _);rw[List.take_length]at h;exact h
open Go
def Ju(d:aj):Bool:=
 match d with
 | .v _=>true
 |_=>false
theorem Z6{P:Program}{f:FuncId}{T e:TypeId}{cs ds:List aj}{av:Nat}{hK:List (List aj)}{R:List aU}(kept:List Bool)(h:b0 P f [] [.cD ds] [] [.row e av hK] (.own 0))
  (aa:∀ (i:Nat) d,ds[i]?=some d->∃c,cs[i]?=some c/\(d= .aW\/(d=c/\nM c=true))) (au:∀r∈hK,∀d∈r,Ju d=true) (b1:∀o∈R,∀l,o≠ .b6 l):
  b0 P f (.cells T cs::R) [.aP 0 0] kept (.cells T cs::R) (.aq av hK false):=by
 refine⟨h.1,fun A w os et aw fY ac=> ?_⟩
 match et,ac with
 | [v0],⟨It,_⟩=>
 obtain⟨g,c1,cY,ab,rfl⟩:=It.nR;have hC:cY=cs:=by
  have:=fY.loc;have aH: (os.map (·.2))[0]?=some (.cells c1 cY):=by rw[List.getElem?_map,ab];rfl
  rw[this]at aH;simp at aH;exact aH.2.symm
 subst hC;obtain⟨arr,bp,_,_,_,_,cP⟩:=tb fY.cp ab;have Z7:¬A g:=fun ax=>fY.out g ax ⟨0,_,_,ab,by simp,rfl⟩;have lP:bO A w (.pointer (some ⟨g,0,none⟩)) (.cD ds):=by
  refine AE Z7 (Array.getElem?_eq_some_iff.1 bp).1 (fun q d bF=> ?_);obtain⟨c,al,js⟩:=aa q d bF;obtain⟨v,h1,ad,aC⟩:=cP q c al;refine⟨v,by rw[Addr.mN,Nat.zero_add];exact h1,ad,?_⟩;rcases js with rfl| ⟨rfl,dk⟩
  ·exact .aW
  ·exact(aC.plain dk).2.b9 (cT.gk (fun _ ae=>.inl ae))
 have fV:∀b,a8 A [] b->A b:=fun b ae=>by
  rcases ae with ae| ⟨i,x,o,ab,_⟩
  ·exact ae
  ·simp at ab
 have Z8:qY A [] [] w:=⟨rfl,fun i x o ab=>by simp at ab,fun i j x o y aK b ab=>by simp at ab,fun b _ ⟨i,x,o,ab,_⟩=>by simp at ab⟩
 refine(h.2 A w [] [.pointer (some ⟨g,0,none⟩)] aw Z8 ⟨.bA (lP.b9 (cT.gk fV)),trivial⟩).mono fun iq w' he=> ?_;obtain⟨v',fy,rfl,yL,r5,qt,kD,_⟩:=he;have lo:∀b,b<w.heap.size->w'.heap[b]?=w.heap[b]?:=fun b ae=>qt.block b ae (fun⟨i,x,o,ab,_⟩=>by simp at ab);refine⟨v',os,rfl,?_,?_,⟨qt.os,qt.tape,qt.output,qt.size,fun k hk _=>lo k hk⟩,fun b ae=>.inl ae,fun i x o _ ad=>⟨o,ad⟩⟩
 ·refine⟨fY.loc,fun i x o Qv=> ?_,fY.inj,fY.out⟩;have aF:=fY.cp i x o Qv;have Z9:∀l,o≠ .b6 l:=fun l j6=>by
   have aH: (os.map (·.2))[i]?=some o:=by rw[List.getElem?_map,Qv];rfl
   rw[fY.loc]at aH;cases i with
   |zero=>simp at aH;rw[<-aH]at j6;cases j6
   |succ i=>
    simp at aH;exact b1 o (List.mem_of_getElem? aH) l j6
  have hk:=aF.b9 (cU:=a8 A os) (aJ:=os) (w':=w') ⟨qt.size,fun _ _ ae=>ae,fun b ae _=>lo b ae⟩ (fun i x o h=>⟨o,h,by cases o<;>simp[di]⟩) (fun b gZ ae=>lo b (aF.gW gZ ae).2);exact hk.uD Z9 (fun b _ _=>.inr trivial)
 ·obtain⟨wv,aaa⟩:∃wv,fy=[(wv,aU.row e av hK)]:=by
   have:=yL.loc
   match fy,this with
   | [(x,o)],this=>simp at this;subst this;exact⟨x,rfl⟩
  subst aaa;have kk:=r5.nS (i:=0) rfl;subst kk;have aF:=yL.cp 0 v' _ rfl;obtain⟨xs,bJ,bZ,ao⟩:=r7 aF;have iZ:fW (a8 A os) w' xs hK av:=⟨ao.len,ao.hK,ao.dD,fun k j r d hk ai=>by
   obtain⟨v,ac,ab⟩:=ao.gw k j r d hk ai;have dk:=au r (List.mem_of_getElem? hk) d (List.mem_of_getElem? ai);cases d with
   |v y=>
    obtain⟨rfl,h1⟩:=(a6.bA (os:=[]) ab).h2;exact⟨_,ac,.v h1⟩
   |_=>simp[Ju]at dk⟩
  have nz:jH (a8 A os) os (M5 w') w' v' (.row e av hK):=oG (yy aF) bJ bZ iZ;refine .bA (D6 nz (fun _ ae=>ae) (fun b ae aab=> ?_));have kl:w.heap.size<=b:=by
   rcases kD b ⟨0,_,_,rfl,by simp,ae⟩with⟨i,x,o,ab,_⟩|ad
   ·simp at ab
   ·exact ad
  rcases aab with ad| ⟨i,x,o,ab,gZ,b4⟩
  ·have:=aw b ad;omega
  ·have:=((fY.cp i x o ab).gW gZ b4).2;omega
theorem aac{P:Program}{f:FuncId}{T e:TypeId}{cs cY:List aj}{off av:Nat}{R:List aU}{args:List aj}{kept:List Bool}{bC:List aU}{d:aj}
  (h:b0 P f (.cells T cY:: (R++ [.row e (av+1) []])) args kept bC d) (oN:cs[off]?=some .ar) (hC:cY=cs.set off (.own (R.length+1))) (n:Nat):
  b0 P f (.cells T cs::R) args (kept.take n) bC d:=by
 refine⟨h.1,fun A w os et aw fY ac=> ?_⟩;obtain⟨iR,jx,rfl,b1⟩:∃iR jx,os=(iR,aU.cells T cs)::jx/\jx.map (·.2)=R:=by
  have:=fY.loc
  match os,this with
  | (x,o)::r,this=>
   simp only[List.map_cons,List.cons.injEq]at this;exact⟨x,r,by rw[this.1],this.2⟩
 have Jv:jx.length=R.length:=by rw[<-b1,List.length_map]
 have E3:∀ (i:Nat) x o,((iR,aU.cells T cY):: (jx++ [(Value.slice none 0 0,aU.row e (av+1) [])]))[i]?=some (x,o)->(i=0/\x=iR/\o= .cells T cY)\/(i≠0/\((iR,aU.cells T cs)::jx)[i]?=some (x,o))\/(i=jx.length+1/\x= .slice none 0 0/\o= .row e (av+1) []):=by
  intro i x o ab;cases i with
  |zero=>simp at ab;exact .inl ⟨rfl,ab.1.symm,ab.2.symm⟩
  |succ i=>
   simp only[List.getElem?_cons_succ]at ab⊢;by_cases ap:i<jx.length
   ·rw[List.getElem?_append_left ap]at ab;exact .inr (.inl ⟨by omega,ab⟩)
   ·rw[List.getElem?_append_right (by omega)]at ab;cases hk:i-jx.length with
    |zero=>
     rw[hk]at ab;simp at ab;exact .inr (.inr ⟨by omega,ab.1.symm,ab.2.symm⟩)
    |succ k=>rw[hk]at ab;simp at ab
 have h7:q5 ((iR,aU.cells T cs)::jx) ((iR,aU.cells T cY):: (jx++ [(Value.slice none 0 0,aU.row e (av+1) [])])):=by
  intro i x o ab;cases i with
  |zero=>simp at ab;obtain⟨rfl,rfl⟩:=ab;exact⟨_,rfl,rfl⟩
  |succ i=>
   simp only[List.getElem?_cons_succ]at ab⊢;have ap:=(List.getElem?_eq_some_iff.1 ab).1;exact⟨o,by rw[List.getElem?_append_left ap];exact ab,by cases o<;>simp[di]⟩
 have h5:∀b,fv ((iR,aU.cells T cY):: (jx++ [(Value.slice none 0 0,aU.row e (av+1) [])])) b->fv ((iR,aU.cells T cs)::jx) b:=by
  rintro b ⟨i,x,o,ab,gZ,ae⟩;rcases E3 i x o ab with⟨rfl,rfl,rfl⟩| ⟨_,ad⟩| ⟨_,rfl,_⟩
  ·exact⟨0,_,_,rfl,by simp,ae⟩
  ·exact⟨i,x,o,ad,gZ,ae⟩
  ·simp[bs]at ae
 have akf:∀b,fv ((iR,aU.cells T cs)::jx) b->fv ((iR,aU.cells T cY):: (jx++ [(Value.slice none 0 0,aU.row e (av+1) [])])) b:=by
  rintro b ⟨i,x,o,ab,gZ,ae⟩;obtain⟨aK,bb,hk⟩:=h7 i x o ab;exact⟨i,x,aK,bb,by rintro rfl;cases o<;>simp[di]at hk;exact gZ rfl,ae⟩
 have fV:∀b,a8 A ((iR,aU.cells T cY):: (jx++ [(Value.slice none 0 0,aU.row e (av+1) [])])) b->a8 A ((iR,aU.cells T cs)::jx) b:=by
  rintro b (ae|ae)
  ·exact .inl ae
  ·exact .inr (h5 b ae)
 have hk:cT (a8 A ((iR,aU.cells T cs)::jx)) (a8 A ((iR,aU.cells T cY):: (jx++ [(Value.slice none 0 0,aU.row e (av+1) [])]))) w w:=cT.gk fV;have yL:qY A ((iR,aU.cells T cY):: (jx++ [(Value.slice none 0 0,aU.row e (av+1) [])])) (.cells T cY:: (R++ [.row e (av+1) []])) w:=by
  refine⟨by simp[b1],fun i x o ab=> ?_,fun i j x o y aK b ab ai sg hS kD fq=> ?_,fun b ae bp=>fY.out b ae (h5 b bp)⟩
  ·rcases E3 i x o ab with⟨rfl,rfl,rfl⟩| ⟨_,ad⟩| ⟨_,rfl,rfl⟩
   ·obtain⟨g,arr,an,cR,bp,ag,bf,ao⟩:=fY.cp 0 _ _ rfl;refine⟨g,arr,an,cR,bp,by rw[hC,List.length_set];exact ag,bf,fun j v d ac aa=> ?_⟩;rw[hC,List.getElem?_set]at aa;split at aa
    ·rename_i ai;subst ai;split at aa
     ·cases aa;have:=(ao _ v _ ac oN).mo;subst this;refine .own (e:=e) (av:=av+1) (es:=[]) ?_ rfl;simp only[List.getElem?_cons_succ];rw[List.getElem?_append_right (by omega),Jv,Nat.sub_self];rfl
     ·cases aa
    ·exact(ao j v d ac aa).b9 hk h7
   ·exact(fY.cp i x o ad).b9 hk h7 (fun _ _ _=>rfl)
   ·exact⟨fun b ae=>by simp[bs]at ae,[],World.ownsRow_nil w 0 e (av+1),Nat.succ_pos _,by simp,by simp,by simp⟩
  ·have f1:∃cQ,((iR,aU.cells T cs)::jx)[i]?=some (x,cQ)/\cQ≠ .bd:=by
    rcases E3 i x o ab with⟨rfl,rfl,rfl⟩| ⟨_,ad⟩| ⟨_,rfl,_⟩
    ·exact⟨_,rfl,by simp⟩
    ·exact⟨_,ad,sg⟩
    ·simp[bs]at kD
   have f2:∃cQ,((iR,aU.cells T cs)::jx)[j]?=some (y,cQ)/\cQ≠ .bd:=by
    rcases E3 j y aK ai with⟨rfl,rfl,rfl⟩| ⟨_,ad⟩| ⟨_,rfl,_⟩
    ·exact⟨_,rfl,by simp⟩
    ·exact⟨_,ad,hS⟩
    ·simp[bs]at fq
   obtain⟨cQ,g1,jM⟩:=f1;obtain⟨eI,g2,j4⟩:=f2;exact fY.inj i j x cQ y eI b g1 g2 jM j4 kD fq
 have bQ:∀ (vs:List Value) (ds:List aj),s4 (a8 A ((iR,aU.cells T cs)::jx)) ((iR,aU.cells T cs)::jx) w vs ds->s4 (a8 A ((iR,aU.cells T cY):: (jx++ [(Value.slice none 0 0,aU.row e (av+1) [])]))) ((iR,aU.cells T cY):: (jx++ [(Value.slice none 0 0,aU.row e (av+1) [])])) w vs ds:=by
  intro vs;induction vs with
  |nil=>intro ds h;cases ds<;>exact h
  |cons v vs aN=>
   intro ds h;cases ds with
   |nil=>exact h
   |cons d ds=>exact⟨h.1.b9 hk h7,aN ds h.2⟩
 refine(h.2 A w _ et aw yL (bQ et args ac)).mono fun iq w' he=> ?_;obtain⟨v',fy,rfl,Ig,r5,qt,kD,oI⟩:=he;refine⟨v',fy,rfl,Ig,r5,⟨qt.os,qt.tape,qt.output,qt.size,fun k hk aS=>qt.block k hk (fun bp=>aS (h5 k bp))⟩,fun b ae=> ?_,fun i x o w0 ab=> ?_⟩
 ·rcases kD b ae with ae|ae
  ·exact .inl (h5 b ae)
  ·exact .inr ae
 ·obtain⟨aK,bb,_⟩:=h7 i x o ab;refine oI i x aK ?_ bb;rw[List.getElem?_take]at w0;split at w0
  ·exact w0
  ·cases w0
end Go.Lift
