/- The laws of this seat, part OwD: contracts of the functions, plain laws. No conditions. -/
import Derived.Test.YtdcfooeoaoahjaaGreatOwC
set_option linter.unusedSimpArgs false
set_option linter.unusedVariables false
set_option maxRecDepth 100000
set_option maxHeartbeats 16000000
namespace Go.Proofs.YtdcfooeoaoahjaaGreat
open Go.Lift
theorem acM(s:Mem)(x:Int):∀i,(kG s x i).status=s.status/\(kG s x i).first=s.first/\(kG s x i).hist=s.hist/\(kG s x i).agr=s.agr
 |0=>⟨rfl,rfl,rfl,rfl⟩
 |i+1=>by
  have aY:=acM s x i;have h:=MZ (kG s x i) ⟨s.view.num,(l0 s.view.mem s.self x).getD i 0,s.self,x⟩;exact⟨h.2.2.2.2.1.trans aY.1,h.2.2.2.1.trans aY.2.1,h.2.2.1.trans aY.2.2.1,h.2.2.2.2.2.2.2.2.trans aY.2.2.2⟩
theorem z8(s:Mem)(x:Int): (gZ s x).status=s.status/\(gZ s x).first=s.first/\(gZ s x).hist=s.hist/\(gZ s x).agr=s.agr:=acM s x _
theorem aqx(s:Mem)(b3:s.status=1)(dS:hj s)(bO:Int)(a6:List ek)(l:List bU)(af:l.length<=10000)(oK:dF s.view s.als=true)(TQ:dF s.view l=true)(az:s9 ({s with als:=kV s.als l l.length})):
  cm Tryz.prog 54 (fh s a6) [.aV 0 0,i64 bO,.agg (kf (M7 s.view.num l))] [true,false,false,false] (fh (fl ({s with als:=kV s.als l l.length})) (a6)) (.bd []):=by
 have aC:=jq s.view.mem (bQ dS.view (by decide)) bO
 have iP:decide (s.view.num<s.view.num)=false:=cX (by omega);have aG:=aqq s.view (bQ dS.view (by decide)) s.als l (by have:=dS.als;omega) af oK TQ;have cF:decide (s.status=1)=true:=by rw[b3];rfl
 have ec:decide (s.status=1)=false->False:=λh=>by rw[cF]at h;cases h
 have bc:=yn az (a6);have cn: (decide (s.status=1)&& !(en ({s with als:=kV s.als l l.length})).2)=true->_:=λh=>yo az (by rw[cF]at h;simpa using h) (a6);rw[ta (s:={s with als:=kV s.als l l.length}) (by simpa using cF)];generalize en ({s with als:=kV s.als l l.length})=W at *;generalize kV s.als l l.length=H at *;refine jS Tryz.func54 ?_;repeat' ((conv=>whnf);first|refine be ?_|refine e3 (by assumption) ?_| (apply bh<;>intro h)|refine cd ?_|refine aS aC ?_|refine aS aG ?_|refine aO (λ(aw:decide _=true)=> ?_) (λ(aw:decide _=false)=>(ec aw).elim)|refine .inr ⟨[0,1,2,3],bS bc ?_⟩|refine .inr ⟨[0,1,2,3],bS (cn (by assumption)) ?_⟩|fail)
 all_goals(conv=>whnf)
 ·have ac:W.2=false:=by rw[cF]at h;simpa using h
  rw[ac];exact⟨.r,⟨.r,.r,.r,.r,hl ⟨.r,.a1,.a1,.a1,ai⟩,ai⟩,by rfl⟩
 ·have ac:W.2=true:=by rw[cF]at h;simpa using h
  rw[ac];exact⟨.r,⟨.r,.r,.r,.r,hl ⟨.r,.a1,.a1,.a1,ai⟩,ai⟩,by rfl⟩
theorem aqy(s:Mem)(b3:s.status=1)(dS:hj s)(bO:Int)(a6:List ek)(cE:a6.length<=40000)(m:c0)(cw:vD m)(ab:m.view=s.view.num)(ix:m.src=bO)(gX:s.view.mem.length<=16)(bu:s.view.mem≠ [])(ao: (dB s.agr m).2.2=0)(xG: (dB s.agr m).2.1.length<=1000)(aqz:∀p∈ (dB s.agr m).2.1,vD p.m)(az:s9 ({s with agr:=(dB s.agr m).1})):
  cm Tryz.prog 54 (fh s a6) [.aV 0 0,i64 bO,.agg (kf (IC m))] [true,false,false,false] (fh (fl ({s with agr:=(dB s.agr m).1})) (a6++jL {s with agr:=(dB s.agr m).1} (dB s.agr m).2.1)) (.bd []):=by
 have aC:=jq s.view.mem (bQ dS.view (by decide)) bO
 have aG:=amQ s.agr dS.agr m (by have:=cw.cut.1;omega);have um:decide (m.view<s.view.num)=false:=cX (by omega);have YX:decide (s.view.num<m.view)=false:=cX (by omega);have xD: (decide ((3:Int)=3)&&decide (m.src=bO))=true:=by rw[ix];simp
 rw[ao]at aG;have eu:=M1 {s with agr:=(dB s.agr m).1} gX bu (dB s.agr m).2.1 xG aqz a6 (by omega);have cF:decide (s.status=1)=true:=by rw[b3];rfl
 have ec:decide (s.status=1)=false->False:=λh=>by rw[cF]at h;cases h
 have bc:=yn az (a6++jL {s with agr:=(dB s.agr m).1} (dB s.agr m).2.1);have cn: (decide (s.status=1)&& !(en ({s with agr:=(dB s.agr m).1})).2)=true->_:=λh=>yo az (by rw[cF]at h;simpa using h) (a6++jL {s with agr:=(dB s.agr m).1} (dB s.agr m).2.1);rw[ta (s:={s with agr:=(dB s.agr m).1}) (by simpa using cF)];generalize en ({s with agr:=(dB s.agr m).1})=W at *;generalize jL {s with agr:=(dB s.agr m).1} (dB s.agr m).2.1=Q at *;generalize(dB s.agr m).2.1=P at *;generalize(dB s.agr m).1=H at *;refine jS Tryz.func54 ?_;repeat' ((conv=>whnf);first|refine be ?_|refine fZ (by assumption) ?_|refine e3 (by assumption) ?_| (apply bh<;>intro h)|refine cd ?_|refine dr ?_|refine aS aC ?_|refine aS aG ?_|refine .inr ⟨[0,1,2,3],bS eu ?_⟩|refine aO (λ(aw:decide _=true)=> ?_) (λ(aw:decide _=false)=>(ec aw).elim)|refine .inr ⟨[0,1,2,3],bS bc ?_⟩|refine .inr ⟨[0,1,2,3],bS (cn (by assumption)) ?_⟩|fail)
 all_goals(conv=>whnf)
 ·have ac:W.2=false:=by rw[cF]at h;simpa using h
  rw[ac];exact⟨.r,⟨.r,.r,.r,.r,hl ⟨.r,.a1,.a1,.a1,ai⟩,ai⟩,by rfl⟩
 ·have ac:W.2=true:=by rw[cF]at h;simpa using h
  rw[ac];exact⟨.r,⟨.r,.r,.r,.r,hl ⟨.r,.a1,.a1,.a1,ai⟩,ai⟩,by rfl⟩
theorem aqA(s:Mem)(b3:s.status=1)(dS:hj s)(bO:Int)(a6:List ek)(cE:a6.length<=80000)(hi:E3 s)(cL:bH s.view.mem bO=true)(az:s9 (s)):
  cm Tryz.prog 54 (fh s a6) [.aV 0 0,i64 bO,.agg (kf M6)] [true,false,false,false] (fh (fl (s)) (a6++ [w4 s bO])) (.bd []):=by
 have aC:=jq s.view.mem (bQ dS.view (by decide)) bO
 have aG:=TH s hi a6 (by omega) bO
 rw[cL]at aC;have cF:decide (s.status=1)=true:=by rw[b3];rfl
 have ec:decide (s.status=1)=false->False:=λh=>by rw[cF]at h;cases h
 have bc:=yn az (a6++ [w4 s bO]);have cn: (decide (s.status=1)&& !(en (s)).2)=true->_:=λh=>yo az (by rw[cF]at h;simpa using h) (a6++ [w4 s bO]);rw[ta (s:=s) (by simpa using cF)];generalize en (s)=W at *;refine jS Tryz.func54 ?_;repeat' ((conv=>whnf);first|refine be ?_| (apply bh<;>intro h)|refine aS aC ?_|refine .inr ⟨[0,1,2,3],bS aG ?_⟩|refine aO (λ(aw:decide _=true)=> ?_) (λ(aw:decide _=false)=>(ec aw).elim)|refine .inr ⟨[0,1,2,3],bS bc ?_⟩|refine .inr ⟨[0,1,2,3],bS (cn (by assumption)) ?_⟩|fail)
 all_goals(conv=>whnf)
 ·have ac:W.2=false:=by rw[cF]at h;simpa using h
  rw[ac];exact⟨.r,⟨.r,.r,.r,.r,hl ⟨.r,.a1,.a1,.a1,ai⟩,ai⟩,by rfl⟩
 ·have ac:W.2=true:=by rw[cF]at h;simpa using h
  rw[ac];exact⟨.r,⟨.r,.r,.r,.r,hl ⟨.r,.a1,.a1,.a1,ai⟩,ai⟩,by rfl⟩
theorem aqB(s:Mem)(b3:s.status=1)(dS:hj s)(bO:Int)(a6:List ek)(cE:a6.length<=80000)(hi:E3 s)(cL:bH s.view.mem bO=false)(az:s9 (gZ s bO)):
  cm Tryz.prog 54 (fh s a6) [.aV 0 0,i64 bO,.agg (kf M6)] [true,false,false,false] (fh (fl (gZ s bO)) (a6++ [w4 (gZ s bO) bO])) (.bd []):=by
 have aC:=jq s.view.mem (bQ dS.view (by decide)) bO
 have aG:=ack s dS.view (by have:=dS.als;omega) a6 bO
 obtain⟨dE,dL,eY,iI⟩:=z8 s bO
 have eu:=TH (gZ s bO) ⟨by rw[dL];exact hi.first,by rw[eY];exact hi.len,by rw[eY];exact hi.aI⟩ a6 (by omega) bO
 rw[cL]at aC;have cF:decide ((gZ s bO).status=1)=true:=by rw[(z8 s bO).1,b3];rfl
 have ec:decide ((gZ s bO).status=1)=false->False:=λh=>by rw[cF]at h;cases h
 have bc:=yn az (a6++ [w4 (gZ s bO) bO]);have cn: (decide ((gZ s bO).status=1)&& !(en (gZ s bO)).2)=true->_:=λh=>yo az (by rw[cF]at h;simpa using h) (a6++ [w4 (gZ s bO) bO]);rw[ta (s:=gZ s bO) (by simpa using cF)];generalize en (gZ s bO)=W at *;generalize gZ s bO=R at *
 refine jS Tryz.func54 ?_;repeat' ((conv=>whnf);first|refine be ?_| (apply bh<;>intro h)|refine aS aC ?_|refine .inr ⟨[0,1,2,3],bS aG ?_⟩|refine .inr ⟨[0,1,2,3],bS eu ?_⟩|refine aO (λ(aw:decide _=true)=> ?_) (λ(aw:decide _=false)=>(ec aw).elim)|refine .inr ⟨[0,1,2,3],bS bc ?_⟩|refine .inr ⟨[0,1,2,3],bS (cn (by assumption)) ?_⟩|fail)
 all_goals(conv=>whnf)
 ·have ac:W.2=false:=by rw[cF]at h;simpa using h
  rw[ac];exact⟨.r,⟨.r,.r,.r,.r,hl ⟨.r,.a1,.a1,.a1,ai⟩,ai⟩,by rfl⟩
 ·have ac:W.2=true:=by rw[cF]at h;simpa using h
  rw[ac];exact⟨.r,⟨.r,.r,.r,.r,hl ⟨.r,.a1,.a1,.a1,ai⟩,ai⟩,by rfl⟩
variable{s:Mem}
theorem ID(h:decide (s.status=1)=false):fl s=s:=by
 unfold fl
 grind
theorem aqC(s:Mem)(b3:s.status=1)(dS:hj s)(bO:Int)(a6:List ek)(first:aK)(aI:List (List Int))(cw: (jI first aI).2=true)(aj:∀c∈aI,mP c)(az:s9 (lC s first aI)):
  cm Tryz.prog 54 (fh s a6) [.aV 0 0,i64 bO,.agg (kf (vC first aI))] [true,false,false,false] (fh (fl (lC s first aI)) a6) (.bd []):=by
 have aC:=jq s.view.mem (bQ dS.view (by decide)) bO
 have aG:=aqe s dS.hist dS.EY dS.first first aI cw aj b3 a6
 have bc:=yn az a6;have cn: (decide ((lC s first aI).status=1)&& !(en (lC s first aI)).2)=true->_:=λh=>yo az (by simp only[cq,mV]at h;exact h.2) a6;cases cF:decide ((lC s first aI).status=1)
 ·have ec:decide ((lC s first aI).status=1)=true->False:=λh=>by rw[cF]at h;cases h
  have awh: (decide ((lC s first aI).status=1)&& !false)=false:=by rw[cF];rfl
  rw[ID cF];clear bc cn az;generalize lC s first aI=H at *
  refine jS Tryz.func54 ?_;repeat' ((conv=>whnf);first|refine be ?_|refine e3 (by assumption) ?_|refine aS aC ?_|refine .inr ⟨[0,1,2,3],bS aG ?_⟩|refine aO (λh=>(ec h).elim) ?_|intro (aw:decide _=false)|fail)
  all_goals(conv=>whnf)
  exact⟨.r,⟨.r,.r,.r,.r,hl ⟨.r,.a1,.a1,.a1,ai⟩,ai⟩,by rfl⟩
 ·have ec:decide ((lC s first aI).status=1)=false->False:=λh=>by rw[cF]at h;cases h
  rw[ta (s:=lC s first aI) (by simpa using cF)];generalize en (lC s first aI)=W at *;generalize lC s first aI=H at *
  refine jS Tryz.func54 ?_;repeat' ((conv=>whnf);first|refine be ?_| (apply bh<;>intro h)|refine aS aC ?_|refine .inr ⟨[0,1,2,3],bS aG ?_⟩|refine aO (λ(aw:decide _=true)=> ?_) (λ(aw:decide _=false)=>(ec aw).elim)|refine .inr ⟨[0,1,2,3],bS bc ?_⟩|refine .inr ⟨[0,1,2,3],bS (cn (by assumption)) ?_⟩|fail)
  all_goals(conv=>whnf)
  ·have ac:W.2=false:=by rw[cF]at h;simpa using h
   rw[ac];exact⟨.r,⟨.r,.r,.r,.r,hl ⟨.r,.a1,.a1,.a1,ai⟩,ai⟩,by rfl⟩
  ·have ac:W.2=true:=by rw[cF]at h;simpa using h
   rw[ac];exact⟨.r,⟨.r,.r,.r,.r,hl ⟨.r,.a1,.a1,.a1,ai⟩,ai⟩,by rfl⟩
theorem aqD(s:Mem)(ae:hj s)(ab:po s=true)(b3:s.status=1)(bO:Int)(hM:nq bO=true)(bu:bO≠s.self)(f:s8)(W:List Nat)
  (ao:bl Tryz.prog 51 [.agg (cA s),.ar 1 (W.map bE) false] (.bd [.agg (kf f),.v (.bool true)])) {s':Mem} {Nc:List ek}
  (bC:cm Tryz.prog 54 (ach s) [.aV 0 0,i64 bO,.agg (kf f)] [true,false,false] (fh s' Nc) (.bd [])):
  bl Tryz.prog 23 [.agg (cA s),i64 bO,.ar 1 (W.map bE) false] (.bd [.agg (cA s'),.ar 2 (Nc.map gi) false,i64 0]):=by
 have aC:=w3 s ae;rw[ab]at aC;have aG:=Cg bO
 rw[hM]at aG;have cn:=E2 s ae;have aa:decide (bO=s.self)=false:=cX bu;have aR:decide (s.status=0)=false:=by rw[b3];rfl
 have h1:decide (s.status=1)=true:=by rw[b3];rfl
 have aw: (!true|| !true||decide (bO=s.self))=false:=by rw[aa];rfl
 have hT: (decide (s.status=0)&&decide (f.kind=4))=false:=by rw[aR];rfl
 refine fM Tryz.func23 ?_;repeat' ((conv=>whnf);first|refine be ?_|refine fZ (by assumption) ?_|refine e3 (by assumption) ?_|exact .refl|refine cd ?_|refine dr ?_|refine aS aC ?_|refine dz aG ?_|refine aS ao ?_|refine .inr ⟨[],bS cn ?_⟩|refine .inr ⟨[5,3,4],bS bC ?_⟩|fail)
theorem aqE(s:Mem)(ae:hj s)(ab:po s=true)(b3:s.status=0)(bO:Int)(hM:nq bO=true)(bu:bO≠s.self)(first:aK)(aI:List (List Int))(acD:b0 first=true)(aW:aI.length<=400)(cw: (jI first aI).2=true)(aj:∀c∈aI,mP c):
  bl Tryz.prog 23 [.agg (cA s),i64 bO,.ar 1 ((sf first aI).map bE) false] (.bd [.agg (cA (Cr s first aI)),.ar 2 (([]:List ek).map gi) false,i64 0]):=by
 have aC:=w3 s ae;rw[ab]at aC;have aG:=Cg bO
 rw[hM]at aG;have bc:=Ii s first aI acD aW aj cw
 have cn:=E2 s ae;have eu:=TD s (aqd s first aI cw aj b3 []);have aa:decide (bO=s.self)=false:=cX bu;have aR:decide (s.status=0)=true:=by rw[b3];rfl
 have aw: (!true|| !true||decide (bO=s.self))=false:=by rw[aa];rfl
 have hT: (decide (s.status=0)&&decide ((4:Int)=4))=true:=by rw[aR];rfl
 generalize Cr s first aI=H at *
 generalize sf first aI=W at *
 refine fM Tryz.func23 ?_;repeat' ((conv=>whnf);first|refine be ?_|refine fZ (by assumption) ?_|refine e3 (by assumption) ?_|exact .refl|refine cd ?_|refine dr ?_|refine aS aC ?_|refine dz aG ?_|refine aS bc ?_|refine .inr ⟨[],bS cn ?_⟩|refine .inr ⟨[5,3,4],bS eu ?_⟩|fail)
theorem aqF(s:Mem)(ae:hj s)(ab:po s=true)(b3:s.status≠1)(bO:Int)(hM:nq bO=true)(bu:bO≠s.self)(f:s8)(W:List Nat)(hk:s.status=0->f.kind≠4)
  (ao:bl Tryz.prog 51 [.agg (cA s),.ar 1 (W.map bE) false] (.bd [.agg (kf f),.v (.bool true)])):
  bl Tryz.prog 23 [.agg (cA s),i64 bO,.ar 1 (W.map bE) false] (.bd [.agg (cA s),.ar 2 (([]:List ek).map gi) false,i64 0]):=by
 have aC:=w3 s ae;rw[ab]at aC;have aG:=Cg bO
 rw[hM]at aG;have cn:=E2 s ae;have aa:decide (bO=s.self)=false:=cX bu;have h1:decide (s.status=1)=false:=cX b3;have aw: (!true|| !true||decide (bO=s.self))=false:=by grind
 have hT: (decide (s.status=0)&&decide (f.kind=4))=false:=by
  grind
 refine b9 (fn:=Tryz.f23) (c:=Tryz.f23.body.getD .skip) aA ay (by rfl) Tryz.func23 (by rfl) (by rfl) (by rfl) (by rfl) ?_;repeat' ((conv=>whnf);first|refine be ?_|refine e3 (by assumption) ?_|refine cd ?_|refine dr ?_|refine aS aC ?_|refine dz aG ?_|refine aS ao ?_|refine .inr ⟨[],bS cn ?_⟩|fail)
 all_goals(conv=>whnf)
 all_goals exact eO ⟨.r,.av,.r,ai⟩
theorem acN(l:List Nat)(af:l.length<=900000)(v:Nat)(ab:v<18446744073709551616):cm Tryz.prog 99 [] [.ar 1 (l.map bE) false,u64 v] [] [.row 5 1 ((l++bB v).map bE)] (.own 0):=by
 have m1:=RG l (by omega);have m2:=Ey l (by omega) v ab;refine ik (fn:=Tryz.f99) (c:=Tryz.f99.body.getD .skip) aA ay (by rfl) Tryz.func99 (by rfl) (by rfl) (by rfl) (by rfl) (by rfl) ?_;repeat' ((conv=>whnf);first|refine .inr ⟨[],bS m1 ?_⟩|refine .inr ⟨[0],bS m2 ?_⟩|fail)
 all_goals(conv=>whnf)
 exact⟨.r,⟨.r,ai⟩,by rfl⟩
def jX(s:Mem)(l:List bU):Nat->Mem
 |0=>s
 |i+1=>mS (jX s l i) (l.getD i gf)
def mv(s:Mem)(l:List bU):Mem:=jX s l l.length
theorem w5(s:Mem)(l:List bU):∀i,(jX s l i).view=s.view/\(jX s l i).self=s.self/\(jX s l i).hist=s.hist/\(jX s l i).dbts=s.dbts/\(jX s l i).agr=s.agr/\(jX s l i).status=s.status/\(jX s l i).first=s.first/\(jX s l i).a7=s.a7/\(jX s l i).cont=s.cont/\(jX s l i).als.length<=s.als.length+i
 |0=>⟨rfl,rfl,rfl,rfl,rfl,rfl,rfl,rfl,rfl,bP _⟩
 |i+1=>by
  have aY:=w5 s l i;have h:=MZ (jX s l i) (l.getD i gf);have af:=aci (jX s l i) (l.getD i gf);exact⟨h.1.trans aY.1,h.2.1.trans aY.2.1,h.2.2.1.trans aY.2.2.1,h.2.2.2.2.2.2.2.1.trans aY.2.2.2.1,h.2.2.2.2.2.2.2.2.trans aY.2.2.2.2.1,h.2.2.2.2.1.trans aY.2.2.2.2.2.1,h.2.2.2.1.trans aY.2.2.2.2.2.2.1,h.2.2.2.2.2.2.1.trans aY.2.2.2.2.2.2.2.1,h.2.2.2.2.2.1.trans aY.2.2.2.2.2.2.2.2.1,by unfold jX;omega⟩
def b1(s:Mem):Mem:=qa (mv {s with a7:=(cR s.a7).1} (cR s.a7).2)
def fb(s:Mem):Mem×List ek:=
 bif decide ((s.agr.prop.length:Int)=0)then
  bif (dm s.view s.als).2 then
   bif decide ((eK s.agr (dm s.view s.als).1).2.2=0)then({s with agr:=(eK s.agr (dm s.view s.als).1).1},jL {s with agr:=(eK s.agr (dm s.view s.als).1).1} (eK s.agr (dm s.view s.als).1).2.1)
   else(s,[])
  else(s,[])
 else(s,[])
def iJ(s:Mem):Mem×List ek:=({s with agr:=(cQ s.agr).1},jL {s with agr:=(cQ s.agr).1} (cQ s.agr).2)
def Ct(s:Mem)(m:Int):ek:=⟨m,M8 s.view.num s.als⟩
def Cu(s:Mem):List ek:=(kd (cv s.view.mem s.self)).map (kg s.view.num)++bif decide (0<(s.als.length:Int))then(p8 s).map (Ct s)else []
def pt(s:Mem):Mem×List ek:=
 bif (en (iJ (fb (b1 s)).1).1).2 then((en (iJ (fb (b1 s)).1).1).1,(fb (b1 s)).2++(iJ (fb (b1 s)).1).2)
 else((en (iJ (fb (b1 s)).1).1).1,(fb (b1 s)).2++(iJ (fb (b1 s)).1).2++Cu (en (iJ (fb (b1 s)).1).1).1)
theorem aqG(s:Mem)(l:List Int)(i:Nat): (ki s l i).agr=s.agr/\(ki s l i).status=s.status/\(ki s l i).first=s.first:=by
 induction i with
 |zero=>exact⟨rfl,rfl,rfl⟩
 |succ i aY=>
  have h:=z8 (ki s l i) (l.getD i 0);exact⟨h.2.2.2.trans aY.1,h.1.trans aY.2.1,h.2.1.trans aY.2.2⟩
theorem acO(s:Mem): (qa s).view=s.view/\(qa s).self=s.self/\(qa s).hist=s.hist/\(qa s).agr=s.agr/\(qa s).status=s.status/\(qa s).first=s.first:=by
 unfold qa nM;simp only[];have h:=E7 {s with dbts:=kh s.self s.dbts (ex s.view s.als false)} (iT s.self s.dbts (ex s.view s.als false)) (iT s.self s.dbts (ex s.view s.als false)).length;have ad:=aqG {s with dbts:=kh s.self s.dbts (ex s.view s.als false)} (iT s.self s.dbts (ex s.view s.als false)) (iT s.self s.dbts (ex s.view s.als false)).length
 grind
theorem qL(s:Mem): (b1 s).view=s.view/\(b1 s).self=s.self/\(b1 s).hist=s.hist/\(b1 s).agr=s.agr/\(b1 s).status=s.status/\(b1 s).first=s.first:=by
 have h:=acO (mv {s with a7:=(cR s.a7).1} (cR s.a7).2);have ad:=w5 {s with a7:=(cR s.a7).1} (cR s.a7).2 (cR s.a7).2.length;exact⟨h.1.trans ad.1,h.2.1.trans ad.2.1,h.2.2.1.trans ad.2.2.1,h.2.2.2.1.trans ad.2.2.2.2.1,h.2.2.2.2.1.trans ad.2.2.2.2.2.1,h.2.2.2.2.2.trans ad.2.2.2.2.2.2.1⟩
theorem IE(s:Mem): (fb s).1.view=s.view/\(fb s).1.self=s.self/\(fb s).1.hist=s.hist/\(fb s).1.als=s.als/\(fb s).1.status=s.status/\(fb s).1.first=s.first/\(fb s).1.dbts=s.dbts:=by
 unfold fb;cases decide ((s.agr.prop.length:Int)=0)<;>cases (dm s.view s.als).2<;>cases decide ((eK s.agr (dm s.view s.als).1).2.2=0)<;>exact⟨rfl,rfl,rfl,rfl,rfl,rfl,rfl⟩
structure Nd(s:Mem):Prop where
 mF:hj s
 v:b0 s.view=true
 awi: (mv {s with a7:=(cR s.a7).1} (cR s.a7).2).als.length<=6000
 jW:∀d∈s.dbts,0<=d.jW/\d.jW<=1000
 awj: (b1 s).als.length<=6000
 awk:dF (b1 s).view (b1 s).als=true
 cg: (eK (b1 s).agr (dm (b1 s).view (b1 s).als).1).2.1.length<=1000/\∀p∈ (eK (b1 s).agr (dm (b1 s).view (b1 s).als).1).2.1,vD p.m
 awl:eB (fb (b1 s)).1.agr
 aqH: (cQ (fb (b1 s)).1.agr).2.length<=1000/\∀p∈ (cQ (fb (b1 s)).1.agr).2,vD p.m
 dec: (cQ (fb (b1 s)).1.agr).1.dec.length<=1000
 awm: (dm (b1 s).view (b1 s).als).1.length<=1000
theorem acP(v:aK):∀ (n:Nat) (l:List Int),(pn v n l).1.length<=l.length
 |0,l=>by simp[pn]
 |n+1,l=>by
  rw[pn];cases decide ((dJ v l).2=0)
  ·cases (!decide ((dJ v l).2=5)||decide (((e6 v l).length:Int)=0))
   ·have:=acP v n (l.take (gG l ((e6 v l).getD ((e6 v l).length-1) 0)).toNat++l.drop ((gG l ((e6 v l).getD ((e6 v l).length-1) 0)).toNat+1))
    grind
   ·simp
  simp
theorem aqI(v:aK)(l:List Int): (zT v l).1.length<=l.length:=acP v _ l
theorem aqJ(k:Nat)(iW:1<=k)(hk:k<=255)(b:List Nat)(ac:b.length<=800000):cm Tryz.prog 92 [.row 5 1 (b.map bE)] [i64 k,.own 0] [true] [.row 5 1 (b.map bE),.bm,.bm,.row 5 1 ((ew k b).map bE)] (.bd [.own 3,i64 0]):=by
 have x5:=RN hk;have fj: [[ak.v (.int .u8 65)],[ak.v (.int .u8 71)],[ak.v (.int .u8 (IntKind.u8.wrap (k:Int)))]]=List.map bE [65,71,k]:=by rw[x5];rfl
 have m1:=LU [65,71,k] (by simp) (b.length+8) (by omega);have m2:=Ey [65,71,k] (by simp) b.length (by omega);have iP: (bB b.length).length<=10:=hN 9 b.length;have LV: [65,71,k]++bB b.length++b=hz k b:=rfl;have hH: (hz k b).length<=900000:=by
  grind
 have bc:=RL (hz k b) (by omega);have oG:=ZV (hz k b) (by omega) (r4 (hz k b));have hw:IntKind.i64.wrap (((b.map bE).length:Int)+8)=((b.length+8:Nat):Int):=by
  rw[bF,dW (by omega) (by omega)];omega
 have hu:IntKind.u64.wrap ((b.map bE).length:Int)=((b.length:Nat):Int):=by
  rw[bF];exact j8 (by omega) (by omega)
 have HD: (decide ((k:Int)<1)||decide ((255:Int)<k)||decide ((16777216:Int)<((b.map bE).length:Int)))=false:=by
  grind
 have zz: ([65,71,k]++bB b.length).map bE++b.map bE=(hz k b).map bE:=by
  grind
 refine ik (fn:=Tryz.f92) (c:=Tryz.f92.body.getD .skip) aA ay (by rfl) Tryz.func92 (by rfl) (by rfl) (by rfl) (by rfl) (by rfl) ?_;repeat' ((conv=>whnf);first|refine be ?_|refine e3 (by assumption) ?_|refine .inr ⟨[],[],_,[],_,_,m1,by rfl,ai,⟨ig fj,aX hw,ai⟩,?_⟩|refine .inr ⟨[3],_,_,_,_,_,m2,by rfl,⟨.r,ai⟩,⟨.r,aX hu,ai⟩,?_⟩|refine aO (r2 (by simp<;>omega)) ?_|refine .inl ⟨[.ar 1 ((hz k b).map bE) false],_,⟨ig zz,ai⟩,bc,?_⟩|refine .inr ⟨[3],_,_,_,_,_,oG,by rfl,⟨cK zz,ai⟩,⟨.r,.r,ai⟩,?_⟩|fail)
 all_goals(conv=>whnf)
 exact⟨.r,⟨.r,.r,.bm,.r,ai⟩,by rfl⟩
theorem Nf(s:Mem)(a6:List ek)(oI:a6.length<=100000)(da:Int)(k:Nat)(iW:1<=k)(hk:k<=255)(b:List Nat)(ac:b.length<=800000):
  cm Tryz.prog 55 (fh s a6++ [.row 5 1 (b.map bE)]) [.aV 0 0,i64 da,i64 k,.own 4] [true,true,true,false,true] (fh s (a6++ [ek.mk da (ew k b)])++ [.row 5 1 (b.map bE)]) (.bd []):=by
 have aC:=aqJ k iW hk b ac;generalize ew k b=W at *;refine jS Tryz.func55 ?_;repeat' ((conv=>whnf);first|refine .inr ⟨[4],bS aC ?_⟩|refine aO (Tn (by simp<;>omega)) ?_|fail)
 all_goals(conv=>whnf)
 refine⟨.r,⟨.r,.r,.r,cK ?_,.r,hl ⟨.r,.r,.r,.a1,.r,ai⟩,ai⟩,by rfl⟩;rw[ef];rfl
theorem acQ(d:jr): (cR d).2.length<=d.bN.length:=by
 unfold cR;cases (!pX d)
 ·exact ZJ d _
 simp
theorem acR(s:Mem)(af: (eK s.agr (dm s.view s.als).1).2.1.length<=1000)(gX:s.view.mem.length<=16): (fb s).2.length<=16000:=by
 have h:=Iw {s with agr:=(eK s.agr (dm s.view s.als).1).1} gX (eK s.agr (dm s.view s.als).1).2.1;unfold fb;cases decide ((s.agr.prop.length:Int)=0)<;>cases (dm s.view s.als).2<;>cases decide ((eK s.agr (dm s.view s.als).1).2.2=0)<;>simp only[bY,bs,yF]<;>omega
theorem acS(s:Mem)(h:Nd s)(pe:decide (((b1 s).agr.prop.length:Int)=0)=false\/(decide (((b1 s).agr.prop.length:Int)=0)=true/\(dm (b1 s).view (b1 s).als).2=false)):cm Tryz.prog 56 (fh s []) [.aV 0 0] [true,false,false,false] (fh (pt s).1 (pt s).2) (.bd []):=by
 obtain⟨dS,hC,IF,TY,TZ,T0,⟨ez,T1⟩,IG,⟨tH,Cq⟩,jf,acT⟩:=h;have gX:=mK hC;have bu:s.view.mem≠ []:=λe=>by have:=(Ie (kF hC).2.2).1;rw[e]at this;simp at this
 obtain⟨t1,t2,t3,t4,t5,t6⟩:=qL s;have aC:=RA s.a7 (bQ dS.s7 (by decide)) (bQ dS.bN (by decide)) dS.MN;have sM:=w5 {s with a7:=(cR s.a7).1} (cR s.a7).2;have Cv:=sM (cR s.a7).2.length;have mO:jX {s with a7:=(cR s.a7).1} (cR s.a7).2 0= {s with a7:=(cR s.a7).1}:=rfl;have u4:∀i,jX {s with a7:=(cR s.a7).1} (cR s.a7).2 (i+1)=mS (jX {s with a7:=(cR s.a7).1} (cR s.a7).2 i) ((cR s.a7).2.getD i gf):=λ_=>rfl;have Y7:=acQ s.a7;have bc:=acv (mv {s with a7:=(cR s.a7).1} (cR s.a7).2) (by unfold mv;rw[Cv.1];exact dS.view) IF (by unfold mv;rw[Cv.2.2.2.1];exact dS.dbts) (by unfold mv;rw[Cv.2.2.2.1];exact TY) [];have E9:mv {s with a7:=(cR s.a7).1} (cR s.a7).2=jX {s with a7:=(cR s.a7).1} (cR s.a7).2 (cR s.a7).2.length:=rfl;change cm _ _ _ _ _ (fh (b1 s) []) _ at bc;rw[E9]at bc;have IH:pt s=bif (en (iJ (fb (b1 s)).1).1).2 then((en (iJ (fb (b1 s)).1).1).1,(fb (b1 s)).2++(iJ (fb (b1 s)).1).2)
  else((en (iJ (fb (b1 s)).1).1).1,(fb (b1 s)).2++(iJ (fb (b1 s)).1).2++Cu (en (iJ (fb (b1 s)).1).1).1):=rfl
 rw[IH];clear IH E9 IF;have aqK:=dS.bN;generalize b1 s=S3 at *;generalize jX {s with a7:=(cR s.a7).1} (cR s.a7).2=X at *;generalize cR s.a7=oN at *;have lR:=IE S3;have T2:=acR S3 ez (by rw[t1];exact gX.2);generalize dd:fb S3=P at *;obtain⟨S4,Cw⟩:=P;simp only[]at lR T2 IG tH Cq jf;obtain⟨ff,fB,oM,rE,Cx,T3,Ng⟩:=lR;have v4:S4.view=s.view:=ff.trans t1;have iH:=aa2 S4.agr IG;have gk:iJ S4=({S4 with agr:=(cQ S4.agr).1},jL {S4 with agr:=(cQ S4.agr).1} (cQ S4.agr).2):=rfl;have aqL:=Iw {S4 with agr:=(cQ S4.agr).1} (by show S4.view.mem.length<=16;rw[v4];exact gX.2) (cQ S4.agr).2;have mt:=M1 {S4 with agr:=(cQ S4.agr).1} (by show S4.view.mem.length<=16;rw[v4];exact gX.2) (by show S4.view.mem≠ [];rw[v4];exact bu) (cQ S4.agr).2 tH Cq Cw (by omega);have pq:=TN {S4 with agr:=(cQ S4.agr).1} (by show S4.view.mem.length<=1000;rw[v4];omega) (by show S4.hist.length<=1000;rw[oM,t3];exact dS.hist) jf (Cw++jL {S4 with agr:=(cQ S4.agr).1} (cQ S4.agr).2);have u7:=λac=>TU (s:={S4 with agr:=(cQ S4.agr).1}) ac;simp only[gk];simp only[gk]at mt pq u7;clear gk;generalize jL {S4 with agr:=(cQ S4.agr).1} (cQ S4.agr).2=II at *;generalize en {S4 with agr:=(cQ S4.agr).1}=W at *;generalize cQ S4.agr=aqM at *;have Nh:fb S3=(S3,[]):=by
  rcases pe with an| ⟨an,j6⟩
  ·rw[fb,an];rfl
  ·rw[fb,an,j6];rfl
 rw[Nh]at dd;cases dd;have pe:decide (((S3.agr.prop.map aM).length:Int)=0)=false\/(decide (((S3.agr.prop.map aM).length:Int)=0)=true/\(dm S3.view S3.als).2=false):=by rw[bF];exact pe
 have nm:=Tf S3.view (by rw[t1];omega) S3.als (by omega);generalize dm S3.view S3.als=aqN at *;refine mj Tryz.func56 ?_;repeat' ((conv=>whnf);first|refine aS aC ?_|fail)
 all_goals(conv=>whnf)
 refine⟨Nat,λi=>⟨[(0,.aV 0 0),(34,.ar 4 (oN.2.map eA) false),(35,i64 oN.2.length),(36,i64 i)],[.cells 116 (iS (X i) (.own 1) (.own 2) (.own 3)),.row 22 1 (((X i)).hist.map c8),.row 150 2 (((X i)).dbts.map dR),.row 121 2 ((([]:List ek)).map gi),.cD [.aV 0 0,.own 1,.own 2,.own 3],.bm]⟩,λi=>i<=oN.2.length,λi=>oN.2.length-i,[],⟨0,bX _,?_⟩,?_⟩
 ·conv=>whnf
  exact⟨⟨.r,.r,aX (by simp),.r,ai⟩,⟨by show hr _ (.cells _ (iS (X 0) (.own 1) (.own 2) (.own 3)));rw[mO];exact .refl,by show hr _ (.row _ _ ((X 0).hist.map c8));rw[mO];exact .refl,by show hr _ (.row _ _ ((X 0).dbts.map dR));rw[mO];exact .refl,.r,.r,.bm,ai⟩,by rfl⟩
 ·intro i hi;obtain⟨cP,_,_,_,_,_,_,_,_,a2⟩:=sM i;simp only[]at cP a2;repeat' ((conv=>whnf);first| (apply bh<;>intro h)|fail)
  ·have ax:i<oN.2.length:=by simpa using h
   clear h;have aG:=TE (X i) (by rw[cP];exact dS.view) (by have:=dS.als;omega) [] oN.2[i];have aw:oN.2.getD i gf=oN.2[i]:=by simp[ax]
   have oB:=u4 i;rw[aw]at oB;rw[<-oB]at aG;repeat' ((conv=>whnf);first|refine⟨_,_,aO ⟨rfl,c3 ax⟩ ?_⟩|refine .inr ⟨[0,1,2,3],bS aG ?_⟩|fail)
   all_goals(conv=>whnf)
   refine⟨i+1,ax,by simp only[];omega,?_⟩;conv=>whnf
   exact⟨⟨.r,.r,.r,aX (bW (by omega)),ai⟩,⟨.r,.r,.r,.r,.r,.bm,ai⟩,by rfl⟩
  ·have:i=oN.2.length:=by
    simp at h;omega
   subst this;clear h;rcases pe with yZ| ⟨yZ,j6⟩;all_goals repeat' ((conv=>whnf);first|refine fZ (by assumption) ?_|refine e3 (by assumption) ?_| (apply bh<;>intro h)|refine cd ?_|refine .inr ⟨[0,1,2,3],bS bc ?_⟩|refine aS nm ?_|refine aS iH ?_|refine .inr ⟨[0,1,2,3],bS mt ?_⟩|refine .inr ⟨[0,1,2,3],bS pq ?_⟩|fail)
   all_goals(conv=>whnf)
   all_goals rw[h]
   all_goals first
    | (refine⟨[],?_⟩<;> (conv=>whnf)<;>exact⟨.r,⟨.r,.r,.r,.r,hl ⟨.r,.a1,.a1,.a1,ai⟩,ai⟩,by rfl⟩)
    |skip
   all_goals
    obtain⟨eE,gW,_,tb,vF,Ni,_⟩:=u7 h;have eE:W.1.view=s.view:=eE.trans v4;generalize W.1=S6 at *;clear aC iH mt pq sM mO u4;obtain⟨lr,ma,rD⟩:=kF hC;have iP: (bB S6.view.num.toNat).length<=10:=hN 9 _;have hu:=Cd (n:=S6.view.num) (by rw[eE];exact lr) (by rw[eE];exact ma);have se:=acN [] (by simp) S6.view.num.toNat (by rw[eE];omega);rw[nS]at se;have E0:=To S6.view.mem (by rw[eE];exact bQ gX.2 (by decide)) S6.self;have mJ:=zu S6.view.mem S6.self;have pd: (kd (cv S6.view.mem S6.self)).length<=5:=bQ (B9 _) mJ;have aj:kd (cv S6.view.mem S6.self)=Go.Lib.compact (pV (cv S6.view.mem S6.self)):=rfl;have BL:Cu S6=(kd (cv S6.view.mem S6.self)).map (kg S6.view.num)++bif decide (0<(S6.als.length:Int))then(p8 S6).map (Ct S6)else []:=rfl;generalize cv S6.view.mem S6.self=O at *;have Cn:=MG O (pV O) (w1 _) (EU _) (by omega);have fQ:=MH (pV O) (by rw[(w1 _).length_eq];omega);rw[<-aj]at fQ;rw[BL];clear BL aj;generalize kd O=C at *;generalize hK: (_++II)=Q at *;have aqO:Q.length<=40000:=by rw[<-hK,fv]; (try simp only[yF]at *);omega
    repeat' ((conv=>whnf);first|refine cd ?_|refine .inr ⟨[],[],_,[],_,_,se,by rfl,ai,⟨.av,aX hu,ai⟩,?_⟩|refine .inr ⟨[],bS E0 ?_⟩|refine .inr ⟨[8],bS Cn ?_⟩|refine .inr ⟨[9],bS Cn ?_⟩|refine .inr ⟨[8],bS fQ ?_⟩|refine .inr ⟨[9],bS fQ ?_⟩|fail)
    all_goals(conv=>whnf)
    have T4:=λ(P:List ek) (dd:P.length<=100000) (da:Int)=>Nf S6 P dd da 1 (by omega) (by omega) (bB S6.view.num.toNat) (by omega);first
     | (refine⟨Nat,λi=>⟨[(0,.aV 0 0),(13,.own 5),(132,.own 6),(133,i64 C.length),(134,i64 i)],[.cells 116 (iS S6 (.own 1) (.own 2) (.own 3)),.row 22 1 ((S6).hist.map c8),.row 150 2 ((S6).dbts.map dR),.row 121 2 ((Q++(C.take i).map (kg S6.view.num)).map gi),.cD [.aV 0 0,.a1,.a1,.a1],.row 5 1 ((bB S6.view.num.toNat).map bE),.row 3 1 (C.map aM)]⟩,λi=>i<=C.length,λi=>C.length-i,[.fa 5 7,.fa 6 8],⟨0,bX _,?_⟩,?_⟩
        focus ((conv=>whnf)<;>exact⟨⟨.r,.r,.r,aX (by simp),.r,ai⟩,⟨.r,.r,.r,cK (by simp[<-hK]),hl ⟨.r,.a1,.a1,.a1,ai⟩,.r,.r,ai⟩,by rfl⟩))
     | (refine⟨Nat,λi=>⟨[(0,.aV 0 0),(13,.own 5),(132,.own 6),(133,i64 C.length),(134,i64 i)],[.cells 116 (iS S6 (.own 1) (.own 2) (.own 3)),.row 22 1 ((S6).hist.map c8),.row 150 2 ((S6).dbts.map dR),.row 121 2 ((Q++(C.take i).map (kg S6.view.num)).map gi),.cD [.aV 0 0,.a1,.a1,.a1],.row 5 1 ((bB S6.view.num.toNat).map bE),.row 3 1 (C.map aM)]⟩,λi=>i<=C.length,λi=>C.length-i,[.fa 5 8,.fa 6 9],⟨0,bX _,?_⟩,?_⟩
        focus ((conv=>whnf)<;>exact⟨⟨.r,.r,.r,aX (by simp),.r,ai⟩,⟨.r,.r,.r,cK (by simp[<-hK]),hl ⟨.r,.a1,.a1,.a1,ai⟩,.r,.r,ai⟩,by rfl⟩))
     | (refine⟨Nat,λi=>⟨[(0,.aV 0 0),(13,.own 5),(132,.own 6),(133,i64 C.length),(134,i64 i)],[.cells 116 (iS S6 (.own 1) (.own 2) (.own 3)),.row 22 1 ((S6).hist.map c8),.row 150 2 ((S6).dbts.map dR),.row 121 2 ((Q++(C.take i).map (kg S6.view.num)).map gi),.cD [.aV 0 0,.a1,.a1,.a1],.row 5 1 ((bB S6.view.num.toNat).map bE),.row 3 1 (C.map aM)]⟩,λi=>i<=C.length,λi=>C.length-i,[.fa 5 9,.fa 6 10],⟨0,bX _,?_⟩,?_⟩
        focus ((conv=>whnf)<;>exact⟨⟨.r,.r,.r,aX (by simp),.r,ai⟩,⟨.r,.r,.r,cK (by simp[<-hK]),hl ⟨.r,.a1,.a1,.a1,ai⟩,.r,.r,ai⟩,by rfl⟩))
     | (refine⟨Nat,λi=>⟨[(0,.aV 0 0),(13,.own 5),(132,.own 6),(133,i64 C.length),(134,i64 i)],[.cells 116 (iS S6 (.own 1) (.own 2) (.own 3)),.row 22 1 ((S6).hist.map c8),.row 150 2 ((S6).dbts.map dR),.row 121 2 ((Q++(C.take i).map (kg S6.view.num)).map gi),.cD [.aV 0 0,.a1,.a1,.a1],.row 5 1 ((bB S6.view.num.toNat).map bE),.row 3 1 (C.map aM)]⟩,λi=>i<=C.length,λi=>C.length-i,[.fa 5 10,.fa 6 11],⟨0,bX _,?_⟩,?_⟩
        focus ((conv=>whnf)<;>exact⟨⟨.r,.r,.r,aX (by simp),.r,ai⟩,⟨.r,.r,.r,cK (by simp[<-hK]),hl ⟨.r,.a1,.a1,.a1,ai⟩,.r,.r,ai⟩,by rfl⟩))
    ·intro i hi;repeat' ((conv=>whnf);first| (apply bh<;>intro h)|fail)
     ·have ax:i<C.length:=by simpa using h
      clear h;have jv:=T4 (Q++(C.take i).map (kg S6.view.num)) (by rw[fv,bF,kZ];omega) C[i];have hy:Q++(C.take i).map (kg S6.view.num)++ [ek.mk C[i] (ew 1 (bB S6.view.num.toNat))]=Q++(C.take (i+1)).map (kg S6.view.num):=by
       rw[e4 ax,ef,km];rfl
      rw[hy]at jv;have gn:i<(C.map aM).length:=by rw[bF];exact ax
      have cM: (C.map aM)[i]?=some (aM C[i]):=c3 ax;repeat' ((conv=>whnf);first|refine⟨i,aO ⟨rfl,gn⟩ ?_⟩|refine⟨aM C[i],aO cM ?_⟩|refine .inr ⟨[0,1,2,3,5],bS jv ?_⟩|fail)
      all_goals(conv=>whnf)
      refine⟨i+1,ax,by simp only[];omega,?_⟩;conv=>whnf
      exact⟨⟨.r,.r,.r,.r,aX (bW (by omega)),ai⟩,⟨.r,.r,.r,.r,.r,.r,.r,ai⟩,by rfl⟩
     ·rename_i aR;have:i=C.length:=by
       simp at aR;omega
      subst this;clear aR;rw[fU];rw[bF]at h;rw[h];have T5:dF S6.view S6.als=true:=by rw[gW,rE,eE,<-t1];exact T0
      have jj:S6.als.length<=6000:=by rw[gW,rE];exact TZ
      have pN:=TT (v:=S6.view) (l:=S6.als) S6.als.length;have IJ:=Z7 S6.view (by rw[eE];exact bQ gX.2 (by decide)) S6.als (by omega);rw[acI T5]at IJ;have T6:=TF S6 (by rw[eE];omega) (by rw[eE];exact bu) (Q++C.map (kg S6.view.num));have T7: ((bB S6.view.num.toNat).map bE).length+((fD S6.als S6.als.length).map bE).length<=2000000:=by rw[bF,bF];omega
      have lp: (bB S6.view.num.toNat++fD S6.als S6.als.length).length<=800000:=by rw[fv];omega
      have EL: (bB S6.view.num.toNat).map bE++(fD S6.als S6.als.length).map bE=(bB S6.view.num.toNat++fD S6.als S6.als.length).map bE:=by rw[ef]
      have Aa:=λ(P:List ek) (dd:P.length<=100000) (da:Int)=>Nf S6 P dd da 2 (by omega) (by omega) (bB S6.view.num.toNat++fD S6.als S6.als.length) lp;have T8:∀m:Int,ek.mk m (ew 2 (bB S6.view.num.toNat++fD S6.als S6.als.length))=Ct S6 m:=λ_=>rfl;have aqP: (p8 S6).length<=16:=M0 S6 (by rw[eE];exact gX.2);simp only[T8]at Aa;have aqQ: (Q++C.map (kg S6.view.num)).length<=50000:=by rw[fv,bF];omega
      rw[<-km];generalize Q++C.map (kg S6.view.num)=yp at *;generalize bB S6.view.num.toNat++fD S6.als S6.als.length=B2 at *;generalize Ct S6=F at *;generalize p8 S6=Z at *;repeat' ((conv=>whnf);first|refine cd ?_|refine aS IJ ?_|refine aO (r2 T7) ?_|refine .inr ⟨[0,1,2,3],bS T6 ?_⟩|fail)
      all_goals(conv=>whnf)
      refine⟨Nat,λi=>⟨[(0,.aV 0 0),(17,.own 5),(164,.ar 1 (Z.map aM) false),(165,i64 Z.length),(166,i64 i)],[.cells 116 (iS S6 (.own 1) (.own 2) (.own 3)),.row 22 1 ((S6).hist.map c8),.row 150 2 ((S6).dbts.map dR),.row 121 2 ((yp++(Z.take i).map F).map gi),.cD [.aV 0 0,.a1,.a1,.a1],.row 5 1 (B2.map bE)]⟩,λi=>i<=Z.length,λi=>Z.length-i,[],⟨0,bX _,?_⟩,?_⟩
      ·conv=>whnf
       exact⟨⟨.r,.r,.r,aX (by simp),.r,ai⟩,⟨.r,.r,.r,cK (by simp),hl ⟨.r,.a1,.a1,.a1,ai⟩,cK EL,ai⟩,by rfl⟩
      ·intro i hi;repeat' ((conv=>whnf);first| (apply bh<;>intro h)|fail)
       ·have ax:i<Z.length:=by simpa using h
        clear h;have jv:=Aa (yp++(Z.take i).map F) (by rw[fv,bF,kZ];omega) Z[i];have hy:yp++(Z.take i).map F++ [F Z[i]]=yp++(Z.take (i+1)).map F:=by
         rw[e4 ax,ef,km];rfl
        rw[hy]at jv;repeat' ((conv=>whnf);first|refine⟨_,_,aO ⟨rfl,c3 ax⟩ ?_⟩|refine .inr ⟨[0,1,2,3,5],bS jv ?_⟩|fail)
        all_goals(conv=>whnf)
        refine⟨i+1,ax,by simp only[];omega,?_⟩;conv=>whnf
        exact⟨⟨.r,.r,.r,.r,aX (bW (by omega)),ai⟩,⟨.r,.r,.r,.r,.r,.r,ai⟩,by rfl⟩
       ·have:i=Z.length:=by
         simp at h;omega
        subst this;rw[fU];repeat' ((conv=>whnf);first|refine be ?_|fail)
        all_goals(conv=>whnf)
        refine⟨[],?_⟩;conv=>whnf
        exact⟨.r,⟨.r,.r,.r,.r,.r,ai⟩,by rfl⟩
     ·rename_i aR;have:i=C.length:=by
       simp at aR;omega
      subst this;clear aR;rw[fU];rw[bF]at h;rw[h];conv=>whnf
      refine⟨[],?_⟩;conv=>whnf
      exact⟨.r,⟨.r,.r,.r,cK (by simp),.r,ai⟩,by rfl⟩
theorem acU{b c:Nat}(aj:c<=10)(ac:b<2^c):pW ⟨b,c⟩=true:=by
 have an:∀c:Fin 11,IntKind.u32.wrap (1*2^ (min ((c.1:Nat):Int).toNat 32))=((2^c.1:Nat):Int):=by decide+kernel
 have an:=an ⟨c,by omega⟩;have cP: (0:Int)<=((c:Nat):Int):=by omega
 have a2: ((c:Nat):Int)<=10:=by omega
 have a3: ((b:Nat):Int)<IntKind.u32.wrap (1*2^ (min ((c:Nat):Int).toNat 32)):=by
  grind
 show ((decide ((0:Int)<=((c:Nat):Int))&&decide (((c:Nat):Int)<=10))&&decide (((b:Nat):Int)<IntKind.u32.wrap (1*2^ (min ((c:Nat):Int).toNat 32))))=true
 grind
variable{w:nG}
theorem aqR(ac:0<=w.bits)(ok:Bool):pW (jF w ok)=true:=by
 unfold jF;cases h:pW w
 ·rfl
 ·obtain⟨h1,ad,aN,bt⟩:=LK h ac;rw[kY,bs];obtain⟨dr,awn⟩:=w;simp only[]at h1 ad aN bt ac⊢;obtain⟨b,rfl⟩:=qU ac;obtain⟨c,rfl⟩:=qU h1;have an: ((2:Int)^c)=((2^c:Nat):Int):=(Int.natCast_pow 2 c).symm;rw[lH,an]at aN;have aN:b<2^c:=by omega
  have aj: (if(10:Int)<(c:Int)+1 then(10:Int)else(c:Int)+1)=((min (c+1) 10:Nat):Int):=by split<;>omega
  have az: (bif ok then(0:Int)else 1)=((bif ok then 0 else 1:Nat):Int):=by cases ok<;>rfl
  have cy: (b:Int) *2%1024+(bif ok then(0:Int)else 1)=((b*2%1024+(bif ok then 0 else 1):Nat):Int):=by
   omega
  rw[aj,cy];refine acU (by omega) ?_;have MR: (bif ok then 0 else 1:Nat)<=1:=by cases ok<;>simp
  generalize(bif ok then 0 else 1:Nat)=f at *;by_cases h:c<10
  ·have aG:min (c+1) 10=c+1:=by omega
   grind
  grind
def pZ(v:aK)(id:Int)(d:jr):Prop:=d.view=v/\d.self=id/\d.bN.length=(ft v.mem id).length/\∀ (k:Nat) (h:k<d.bN.length),d.bN[k].ev=k/\d.bN[k].bI=(ft v.mem id).getD k 0/\pW d.bN[k].j9=true/\0<=d.bN[k].j9.bits
variable{v:aK}{id:Int}
theorem Nj(ab:b0 v=true)(hi:bH v.mem id=true):gA v id=(⟨id,v,mL (ft v.mem id) (ft v.mem id).length⟩,0):=by
 rw[gA,ab,hi];rfl
theorem aqS(v:aK)(id:Int):pZ v id ⟨id,v,mL (ft v.mem id) (ft v.mem id).length⟩:=by
 refine⟨rfl,rfl,x1 _ _,λk h=> ?_⟩;simp only[mL,yE,List.getElem_range,Et];exact⟨ai,ai,acU (b:=0) (c:=0) (by decide) (by decide),lk _⟩
variable{d:jr}
theorem IK(ab:b0 v=true)(hi:bH v.mem id=true)(h:pZ v id d):pX d=true:=by
 obtain⟨rfl,rfl,af,he⟩:=h;unfold pX;rw[Nj ab hi];simp only[x1];rw[ep (by omega: (d.bN.length:Int)=((ft d.view.mem d.self).length:Int))];show ih (x2 d.bN (mL (ft d.view.mem d.self) (ft d.view.mem d.self).length)) d.bN.length=true;refine ij.2 (λk hk=> ?_);have aw:d.bN.getD k wV=d.bN[k]:=by grind
 have mG:k<(mL (ft d.view.mem d.self) (ft d.view.mem d.self).length).length:=by rw[x1];omega
 have hT: (mL (ft d.view.mem d.self) (ft d.view.mem d.self).length).getD k wV=Et k ((ft d.view.mem d.self).getD k 0):=by
  rw[sn,eP mG];simp[mL]
 obtain⟨cP,a2,a3,_⟩:=he k hk;unfold x2;rw[aw,hT,cP,a2,a3];simp[Et]
theorem T9(ab:b0 v=true)(hi:bH v.mem id=true)(h:pZ v id d)(x:Int):pZ v id (nH d x):=by
 have aa:=IK ab hi h;unfold nH;rw[aa,kY,bs];obtain⟨h1,ad,aN,bt⟩:=h;refine⟨h1,ad,by grind,λk hk=> ?_⟩;simp only[yE,bF]at hk⊢;have:=bt k hk;unfold vk;cases decide (d.bN[k].bI=x)<;>exact this
theorem aqT(ab:b0 v=true)(hi:bH v.mem id=true)(h:pZ v id d):pZ v id (cR d).1:=by
 have aa:=IK ab hi h;unfold cR;rw[aa,kY,bs];obtain⟨h1,ad,aN,bt⟩:=h;refine⟨h1,ad,by grind,λk hk=> ?_⟩;simp only[yE,bF]at hk⊢;have:=bt k hk;exact⟨this.1,this.2.1,aqR this.2.2.2 _,Rx this.2.2.2 _⟩
variable{S:List bU}{x:Int}
theorem Cy{r:Int}:s6 S x r=true↔∃a∈S,a.bI=x/\a.ev=r:=by
 unfold s6;simp
variable{a:bU}
theorem Fa(bb:gB v a=true):1<=a.bI/\a.bI<=1000/\0<=a.ev/\a.ev<5/\a.view=v.num/\(cv v.mem a.bI).length=5/\(cv v.mem a.bI).getD a.ev.toNat 0=a.ka:=by
 obtain⟨_,h1,ad,aN,bt⟩:=Cs bb;simp only[n3,cq,fr]at ad;have b5: (cv v.mem a.bI).length=0\/(cv v.mem a.bI).length=5:=by
  unfold cv;cases (!dq v.mem 16|| !(decide (1<=a.bI)&&decide (a.bI<=1000))|| (decide ((v.mem.length:Int)=1)&&decide (v.mem.getD 0 0=a.bI)))<;>simp
 omega
theorem Fb(h:dF v S=true)(x:Int):jd S x=(List.range 5).countP λr=>s6 S x (r:Nat):=by
 obtain⟨_,ab,ae⟩:=s0.1 h;rw[Tc,Vz,Vz];have e: (S.filter λa=>decide (a.bI=x)).map (·.ev)=((List.range 5).filter λr=>s6 S x (r:Nat)).map (λr:Nat=>(r:Int)):=by
  refine Ca ?_ ?_ λr=> ?_
  ·rw[yI];refine List.Pairwise.imp_of_mem (λ{a b} bb ac pe=> ?_) (ae.sublist (vZ ..));have aC:a.bI=x:=by grind
   have aG:b.bI=x:=by grind
   simp only[js,oR,cq,fr]at pe;omega
  ·rw[yI];exact((List.pairwise_lt_range (n:=5)).sublist (vZ ..)).imp λh=>by omega
  ·simp only[fT,h2,fr,uF];constructor
   ·rintro⟨a,⟨bb,ah⟩,rfl⟩;have:=Fa (ab a bb);exact⟨a.ev.toNat,⟨by omega,Cy.2 ⟨a,bb,ah,by omega⟩⟩,by omega⟩
   ·rintro⟨k,⟨hk,bC⟩,rfl⟩;obtain⟨a,bb,ah,ao⟩:=Cy.1 bC
    grind
 have:=e9 List.length e
 grind
theorem acV{α:Type}(p q:α->Bool):∀l:List α,l.countP p+l.countP (λx=> !p x&&q x)=l.countP λx=>p x||q x
 | []=>rfl
 |x::l=>by
  have aY:=acV p q l
  grind
def Cz(v:aK)(S:List bU)(x:Int):Nat:=(List.range 5).countP λr=>s6 S x (r:Nat)||decide (2<=jd S ((cv v.mem x).getD r 0))
theorem Ua(h:dF v S=true){x:Int}(aj:1<=jd S x):x∈S.map (·.bI)/\(cv v.mem x).length=5:=by
 rw[Tc]at aj;obtain⟨a,bb,ah⟩:=List.countP_pos_iff.1 aj;have ah:a.bI=x:=by grind
 subst ah;exact⟨fT.2 ⟨a,bb,rfl⟩,(Fa ((s0.1 h).2.1 a bb)).2.2.2.2.2.1⟩
theorem aqU(h:dF v S=true){x:Int}(aj:1<=jd S x):jd S x+vz S (cv v.mem x) x (cv v.mem x).length=Cz v S x:=by
 obtain⟨_,b5⟩:=Ua h aj;have:=acV (λr:Nat=>s6 S x (r:Nat)) (λr=>decide (2<=jd S ((cv v.mem x).getD r 0))) (List.range 5);rw[<-Fb h x]at this;rw[b5];exact this
theorem acW(h:dF v S=true){x:Int}(aj:2<=jd S x): (uk v S x).uj+(uk v S x).imp=Cz v S x:=by
 rw[abM aj];exact aqU h (by omega)
theorem Ub(h:dF v S=true){b:Bool}{x:Int}:x∈ex v S b↔2<=jd S x/\decide (4<=Cz v S x)=b:=by
 unfold ex ul;rw[h];simp only[kY,bs,fT,h2];constructor
 ·rintro⟨t,⟨⟨y,bn,rfl⟩,cH⟩,rfl⟩;unfold sb at cH;rw[cq,fr,JL]at cH;have aj:2<=jd S y:=cH.1;rw[acW h aj]at cH;exact cH
 ·rintro⟨h1,ad⟩;refine⟨uk v S x,⟨⟨x,H9.2 (Ua h (by omega)).1,rfl⟩,?_⟩,rfl⟩;unfold sb;rw[acW h h1,ad,ep (show 2<=(uk v S x).uj from h1)];simp
theorem CA(v:aK)(S:List bU)(b:Bool): (ex v S b).Pairwise λx y=>x<y:=by
 unfold ex ul;cases !dF v S
 ·rw[bs,yI];refine List.Pairwise.sublist (vZ ..) ?_;rw[yI];exact anO _
 ·simp
theorem aqV{T:List bU}(h:∀a∈S,a∈T){x r:Int}(bC:s6 S x r=true):s6 T x r=true:=by
 obtain⟨a,bb,h1,ad⟩:=Cy.1 bC;exact Cy.2 ⟨a,h a bb,h1,ad⟩
theorem aqW{T:List bU}(cF:dF v S=true)(ay:dF v T=true)(h:∀a∈S,a∈T)(x:Int):jd S x<=jd T x:=by
 rw[Fb cF,Fb ay];exact VA λr _ ao=>aqV h ao
theorem acX{l:List Int}(h: (dJ v l).2=0):zT v l=(l,true):=by
 rw[zT,MK,ep h];rfl
theorem aqX(v:aK): (dJ v []).2=1:=by
 unfold dJ;have:dq [] 32=false:=by rfl
 grind
theorem acY(v:aK):zT v []=([],false):=by
 rw[zT,MK,aqX];rfl
theorem Uc:∀ (b a:List Int) (z:Int),z∈kx a b↔z∈a\/z∈b
 | [],a,z=>by simp[kx]
 |x::b,a,z=>by
  have aY:=Uc b (a.dropWhile λy=> !decide (x<y)) z;rw[kx,eo,ny,aY];have e:z∈a↔z∈a.takeWhile (λy=> !decide (x<y))\/z∈a.dropWhile (λy=> !decide (x<y)):=by
   rw[<-eo,OF]
  grind
theorem acZ{x:Int}:∀ {a:List Int},a.Pairwise (· < ·)->∀z∈a.dropWhile (λy=> !decide (x<y)),x<z
 | [],_,z,h=>by simp at h
 |y::a,an,z,h=>by
  rw[rL]at an;rw[List.dropWhile_cons]at h;by_cases bn:x<y
  ·grind
  ·rw[cX bn]at h;simp only[tl,if_true]at h;exact acZ an.2 z h
theorem ac0:∀ (b a:List Int),a.Pairwise (· < ·)->b.Pairwise (· < ·)->(∀z∈a,z∉b)->(kx a b).Pairwise (· < ·)
 | [],a,bb,_,_=>by simpa[kx]using bb
 |x::b,a,bb,ac,aa=>by
  rw[rL]at ac;have nU:∀z∈a.dropWhile (λy=> !decide (x<y)),z∈a:=λz bx=>(Ou _).subset bx;have aY:=ac0 b (a.dropWhile λy=> !decide (x<y)) (bb.sublist (Ou _)) ac.2 (λz bx Nk=>aa z (nU z bx) (FQ _ Nk));have vb:∀z∈kx (a.dropWhile λy=> !decide (x<y)) b,x<z:=λz bx=>by
   rcases(Uc _ _ _).1 bx with h|h
   ·exact acZ bb z h
   grind
  have hle:∀z∈a.takeWhile (λy=> !decide (x<y)),z<x:=λz bx=>by
   have h1:=RP bx;have ad:=(VL _).subset bx
   grind
  rw[kx,FR];refine⟨bb.sublist (VL _),rL.2 ⟨vb,aY⟩,λz bx w hw=> ?_⟩
  grind
variable{c:List Int}
theorem IL(h: (dJ v c).2=0):b0 v=true/\dq c 32=true/\(v.mem.length:Int)<2* ((iA v c).length:Int)/\v.num≠1099511627776/\((iA v c).length:Int)+((e6 v c).length:Int)<=16/\(dJ v c).1= ⟨IntKind.i64.wrap (v.num+1),kx (iA v c) (e6 v c)⟩:=by
 unfold dJ at h⊢
 grind
theorem IM(ab:b0 v=true)(aj:dq c 32=true):iA v c=v.mem.filter (λx=> !bH c x):=by
 unfold iA pa
 grind
theorem ac1(ab:b0 v=true)(aj:dq c 32=true):e6 v c=c.filter (λx=> !bH v.mem x):=by
 unfold e6 pa
 grind
theorem Fc(h: (dJ v c).2=0):b0 (dJ v c).1=true/\(dJ v c).1.num=v.num+1/\∀x,x∈ (dJ v c).1.mem↔ (x∈v.mem/\x∉c)\/(x∈c/\x∉v.mem):=by
 obtain⟨ab,aj,h1,ad,aN,he⟩:=IL h;obtain⟨lr,ma,rD⟩:=kF ab;obtain⟨_,ff,fB⟩:=lW.1 rD;obtain⟨_,dj,dM⟩:=lW.1 aj;have ae:=IM ab aj;have aA:=ac1 ab aj;have j5:∀x,x∈kx (iA v c) (e6 v c)↔ (x∈v.mem/\x∉c)\/(x∈c/\x∉v.mem):=λx=>by
  have GO:∀ (l:List Int) (x:Int),(!bH l x)=true↔x∉l:=λl x=>by
   rw[mV,<-Oh,gz]
  rw[Uc,ae,aA,h2,h2,GO,GO]
 have Fe:IntKind.i64.wrap (v.num+1)=v.num+1:=dW (by omega) (by omega);rw[he,Fe];refine⟨?_,rfl,j5⟩;have af: (kx (iA v c) (e6 v c)).length=(iA v c).length+(e6 v c).length:=Tk _ _;have si:dq (kx (iA v c) (e6 v c)) 16=true:=by
  rw[lW];refine⟨⟨by omega,by omega⟩,ac0 _ _ (by grind) (by grind) (λz bx Nk=> ?_),λx ah=> ?_⟩
  ·rw[ae]at bx;rw[aA]at Nk;have h1:=(h2.1 bx).2;have ad:=(h2.1 Nk).1;rw[mV,<-Oh,gz]at h1
   grind
  grind
 unfold b0
 grind
theorem ac2{m:Int}(aA:m<=32)(h:dq c m=true):mP c:=by
 obtain⟨h1,_,aN⟩:=lW.1 h;exact⟨by omega,λx ah=>by grind⟩
def Nl(first:aK)(D:List (List Int)):Prop:=b0 first=true/\∀i,i<D.length->sd first D i=true
theorem Ud{first:aK}{D QI:List (List Int)}:∀k,(∀i,i<k->D.getD i []=QI.getD i [])->dQ first D k=dQ first QI k
 |0,_=>rfl
 |k+1,h=>by
  unfold dQ;rw[Ud k (λi hi=>h i (by omega)),h k (by omega)]
variable{D:List (List Int)}
theorem IN{k i:Nat}(h:i<k): (D.take k).getD i []=D.getD i []:=by
 grind
theorem Ue{E:List (List Int)}{i:Nat}(h:i<D.length): (D++E).getD i []=D.getD i []:=by
 grind
theorem IP(first:aK)(D:List (List Int)){k i:Nat}(h:i<=k):dQ first (D.take k) i=dQ first D i:=Ud i λj aq=>IN (by omega)
theorem IQ(first:aK)(D E:List (List Int)){i:Nat}(h:i<=D.length):dQ first (D++E) i=dQ first D i:=Ud i λj aq=>Ue (by omega)
theorem ac3{first:aK}{D:List (List Int)}(h:Nl first D):∀k,k<=D.length->b0 (dQ first D k)=true/\(dQ first D k).num=first.num+k
 |0,_=>⟨h.1,by simp[dQ]⟩
 |k+1,hk=>by
  obtain⟨h1,ad⟩:=ac3 h k (by omega);have cw:=h.2 k (by omega);unfold sd at cw;obtain⟨cP,a2,_⟩:=Fc (fi cw);unfold dQ
  grind
theorem ac4{first:aK}{D:List (List Int)}(h:Nl first D)(aW:D.length<=400)(k:Nat)(hk:k<=D.length): (jI first (D.take k)).2=true/\(jI first (D.take k)).1=kU first (D.take k) (D.take k).length:=by
 have af: (D.take k).length=k:=by grind
 have ct:ih (sd first (D.take k)) (D.take k).length=true:=ij.2 λi hi=>by
  rw[af]at hi;have:=h.2 i (by omega);unfold sd at this⊢;rw[IP first D (Nat.le_of_lt hi),IN hi];omega
 unfold jI;rw[h.1,ct,cX (by omega)];simp
theorem D1{first:aK}{D:List (List Int)}(h:Nl first D):∀c∈D,mP c/\dq c 32=true:=λc aj=>by
 obtain⟨i,hi,rfl⟩:=e8 aj;have cw:=h.2 i hi;unfold sd at cw;have aw:D.getD i []=D[i]:=by grind
 rw[aw]at cw;have:=(IL (fi cw)).2.1;exact⟨ac2 (by decide) this,this⟩
variable{l:List bU}
theorem aqY(ae:tY l)(h:∀a∈l,n3 a=true):l.length<=5000:=by
 have h1: (l.map λa=>(a.bI*5+a.ev).toNat).Pairwise (· < ·):=by
  rw[yI];refine(OB.2 λ{a b} pe=> ?_);have bb:=h a (pe.subset (by simp));have ac:=h b (pe.subset (by simp));have af:=OB.1 ae pe;simp only[n3,js,cq,oR,fr]at bb ac af;omega
 have ad:∀x∈l.map (λa=>(a.bI*5+a.ev).toNat),x∈List.range' 5 5000:=λx ah=>by
  obtain⟨a,bb,rfl⟩:=fT.1 ah;have:=h a bb;simp only[n3,cq,fr]at this
  grind
 have aN:=rn (h1.imp λh=>Nat.ne_of_lt h) ad
 grind
theorem Nn(h:dF v l=true):l.length<=5000:=by
 obtain⟨_,h1,ad⟩:=s0.1 h;exact aqY ad λa bb=>(Cs (h1 a bb)).2.2.1
theorem aqZ{a:bU}(h:dF v l=true)(bb:gB v a=true):dF v (k7 l a).1=true:=by
 obtain⟨ab,h1,ad⟩:=s0.1 h;have:=RQ ad a;exact s0.2 ⟨ab,λx ah=>by
  grind,this.1⟩
theorem ac5{a:bU}(h:dF v l=true)(cw: (nI v l a).2.2=0):gB v a=true/\(nI v l a).1=(k7 l a).1:=by
 unfold nI at cw⊢
 grind
theorem ac6(h:dF s.view s.als=true):dF s.view (mS s a).als=true:=by
 unfold mS;cases aj:decide ((nI s.view s.als a).2.2=0)
 ·exact h
 ·obtain⟨h1,ad⟩:=ac5 h (fi aj);rw[bY];show dF s.view (nI s.view s.als a).1=true;rw[ad];exact aqZ h h1
theorem Uf{s:Mem}{x:Int}(h:dF s.view s.als=true):∀i,dF s.view (kG s x i).als=true
 |0=>h
 |i+1=>by
  have aY:=Uf (x:=x) h i;have hk:=(Iu s x i).1;unfold kG;have:=ac6 (s:=kG s x i) (a:=⟨s.view.num,(l0 s.view.mem s.self x).getD i 0,s.self,x⟩) (by grind)
  grind
theorem ac7(x:Int)(h:dF s.view s.als=true):dF s.view (gZ s x).als=true:=Uf h _
theorem Ug{s:Mem}{l:List Int}(h:dF s.view s.als=true):∀i,dF s.view (ki s l i).als=true
 |0=>h
 |i+1=>by
  have aY:=Ug (l:=l) h i;have hk:=(E7 s l i).1;unfold ki;have:=ac7 (s:=ki s l i) (l.getD i 0) (by grind)
  grind
theorem IR{s:Mem}{l:List bU}(h:dF s.view s.als=true):∀i,dF s.view (jX s l i).als=true
 |0=>h
 |i+1=>by
  have aY:=IR (l:=l) h i;have hk:=(w5 s l i).1;unfold jX;have:=ac6 (s:=jX s l i) (a:=l.getD i gf) (by grind)
  grind
theorem aq0(h:dF s.view s.als=true):dF s.view (qa s).als=true:=by
 unfold qa nM;exact Ug (s:={s with dbts:=kh s.self s.dbts (ex s.view s.als false)}) h _
theorem IS(h:dF s.view s.als=true):dF s.view (b1 s).als=true:=by
 have h1:=IR (s:={s with a7:=(cR s.a7).1}) (l:=(cR s.a7).2) h (cR s.a7).2.length;have hk:=(w5 {s with a7:=(cR s.a7).1} (cR s.a7).2 (cR s.a7).2.length).1;have ad:=aq0 (s:=mv {s with a7:=(cR s.a7).1} (cR s.a7).2) (by unfold mv;grind);unfold b1;have e: (mv {s with a7:=(cR s.a7).1} (cR s.a7).2).view=s.view:=hk
 grind
theorem Uh{b:Bool}{x:Int}(h:x∈ex v S b):1<=x/\x<=1000:=by
 unfold ex ul at h;obtain⟨t,cH,rfl⟩:=fT.1 h;have cH:=(h2.1 cH).1;cases ab:dF v S
 ·grind
 ·rw[ab]at cH;simp only[kY,bs]at cH;obtain⟨y,bn,rfl⟩:=fT.1 cH;obtain⟨a,bb,rfl⟩:=fT.1 (H9.1 bn);have:=(Cs ((s0.1 ab).2.1 a bb)).2.2.1;simp only[n3,cq,fr]at this;show 1<=a.bI/\a.bI<=1000;omega
theorem ac8{l:List Int}(an:l.Pairwise λx y=>x<y)(h:∀x∈l,1<=x/\x<=1000):l.length<=1000:=by
 have h1: (l.map Int.toNat).Pairwise (· < ·):=by
  rw[yI];refine(OB.2 λ{a b} pe=> ?_)
  grind
 have ad:∀x∈l.map Int.toNat,x∈List.range' 1 1000:=λx ah=>by
  grind
 have aN:=rn (h1.imp λh=>Nat.ne_of_lt h) ad
 grind
theorem aq1(v:aK)(S:List bU)(b:Bool): (ex v S b).length<=1000:=ac8 (CA v S b) λ_ h=>Uh h
theorem aq2(v:aK)(S:List bU): (dm v S).1.length<=1000:=by
 unfold dm;cases decide (0<((ex v S false).length:Int))
 ·exact bQ (aqI _ _) (aq1 _ _ _)
 simp
theorem ac9(v:aK):∀ (n:Nat) (l:List Int),(pn v n l).2=true->(dJ v (pn v n l).1).2=0
 |0,l,h=>by simp[pn]at h
 |n+1,l,h=>by
  rw[pn]at h⊢;cases h1:decide ((dJ v l).2=0)
  ·rw[h1,bs]at h;rw[bs];cases ad: (!decide ((dJ v l).2=5)||decide (((e6 v l).length:Int)=0))
   ·rw[ad,bs]at h;rw[bs];exact ac9 v n _ h
   grind
  grind
theorem aq3(h: (dm v S).2=true):gb v (dm v S).1=true:=by
 unfold dm at h⊢;cases h1:decide (0<((ex v S false).length:Int))
 ·rw[h1,bs]at h;rw[bs];exact ep (ac9 v _ _ h)
 grind
structure Ab(v:aK)(x:Int)(als:List bU)(l:List iD):Prop where
 up: (l.map (·.bI)).Pairwise λa b=>a<b
 Ff:∀d∈l,d.bI≠x/\d.bI∈ex v als false/\1<=d.jW/\d.jW<=6
theorem aq4{als:List bU}{l:List iD}(h:Ab v x als l):l.length<=1000:=by
 have:=ac8 h.up λy bn=>by
  obtain⟨d,aa,rfl⟩:=fT.1 bn;exact Uh (h.Ff d aa).2.1
 grind
theorem aq5(h:Ab s.view s.self s.als s.dbts):Cl s=true:=by
 unfold Cl;refine ij.2 λi hi=> ?_;have aw:s.dbts.getD i ke=s.dbts[i]:=by grind
 obtain⟨h1,ad,aN,bt⟩:=h.Ff _ (eM hi);have b5: (0::s.dbts.map (·.bI)).getD i 0<s.dbts[i].bI:=by
  rcases i with _|i
  ·have:=Uh ad
   grind
  ·rw[List.getD_cons_succ];have df:i<(s.dbts.map (·.bI)).length:=by grind
   have hd:i+1<(s.dbts.map (·.bI)).length:=by grind
   have:=mz.1 h.up i (i+1) df hd (by omega)
   grind
 unfold MQ;rw[aw,cX (show ¬s.dbts[i].bI<=_ by omega),cX h1,gz.2 ad,cX (by omega),cX (by omega)];rfl
theorem aq6{als aq7:List bU}{l:List iD}(hg: (l.map (·.bI)).Pairwise λa b=>a<b)(he:∀d∈l,d.bI≠x/\1<=d.jW/\d.jW<=6):Ab v x als (l.filter (mu (ex v als false))):=by
 refine⟨hg.sublist (List.filter_sublist.map _),λd aa=> ?_⟩;obtain⟨h1,ad⟩:=h2.1 aa;obtain⟨a,b,c⟩:=he d h1;unfold mu at ad;exact⟨a,gz.1 ad,b,c⟩
theorem aq8{als:List bU}(h:Ab s.view s.self als s.dbts):Ab s.view s.self s.als (nM s).dbts:=
 aq6 (aq7:=als) h.up λd aa=>⟨(h.Ff d aa).1,(h.Ff d aa).2.2⟩
theorem ada(l:List iD)(x:Int):∀j,j<=l.length->p9 l x j=0\/∃d∈l,p9 l x j=d.jW
 |0,_=>.inl rfl
 |j+1,aq=>by
  have aY:=ada l x j (by omega);unfold p9
  grind
theorem aq9{l:List iD}(h:∀d∈l,1<=d.jW/\d.jW<=6)(x:Int):1<=ym l x/\ym l x<=6:=by
 have h1:0<=E5 l x/\E5 l x<=6:=by
  unfold E5;rcases ada l x l.length (bP _)with e| ⟨d,aa,e⟩;all_goals grind
 unfold ym;split<;>omega
theorem ara(h:∀d∈s.dbts,1<=d.jW/\d.jW<=6):Ab s.view s.self s.als (kh s.self s.dbts (ex s.view s.als false)):=by
 unfold kh;refine⟨?_,λd aa=> ?_⟩
 ·rw[oT];have e: ((λd:iD=>d.bI)∘λx=>iD.mk x (ym s.dbts x))=id:=rfl;rw[e,C4];exact(CA _ _ _).sublist vZ
 ·obtain⟨x,ah,rfl⟩:=fT.1 aa;obtain⟨h1,ad⟩:=h2.1 ah;unfold hZ at ad;have:=aq9 h x
  grind
theorem arb(h:∀d∈s.dbts,1<=d.jW/\d.jW<=6):Ab s.view s.self (qa s).als (qa s).dbts:=by
 have h1:=ara h;have hk:=E7 {s with dbts:=kh s.self s.dbts (ex s.view s.als false)} (iT s.self s.dbts (ex s.view s.als false)) (iT s.self s.dbts (ex s.view s.als false)).length;have ad:=aq8 (s:=ki {s with dbts:=kh s.self s.dbts (ex s.view s.als false)} (iT s.self s.dbts (ex s.view s.als false)) (iT s.self s.dbts (ex s.view s.als false)).length) (als:=s.als) (by grind);rw[hk.1,hk.2.1]at ad;exact ad
inductive lj where
 |ac(n:Int)
 |hD(n:Int)(l:List bU)
 |dX(m:c0)
 |hi(first:aK)(aI:List (List Int))
 |gD
def Fg:lj->List Nat
 | .ac n=>MT n
 | .hD n l=>M8 n l
 | .dX m=>TR m
 | .hi f c=>sf f c
 | .gD=>z7
structure dg where
 da:Int
 bq:lj
def tc(p:dg):ek:=⟨p.da,Fg p.bq⟩
def uq(s:Mem)(da:Int):dg:=⟨da,.hi s.first s.hist⟩
def CB(s:Mem)(p:dO):List dg:=(qK s p).map λid=>⟨id,.dX p.m⟩
def h0(s:Mem)(l:List dO):List dg:=l.flatMap (CB s)
theorem No(s:Mem)(l:List dO): (h0 s l).map tc=jL s l:=by
 unfold h0 jL;rw[List.map_flatMap];congr 1;funext p;unfold CB Iv;rw[oT];rfl
def vG(s:Mem)(bO:Int):lj->Mem×List dg
 | .hi f c=>(fl (lC s f c),[])
 | .gD=>bif bH s.view.mem bO then(fl s,[uq s bO])else(fl (gZ s bO),[uq (gZ s bO) bO])
 | .ac n=>if n<s.view.num then(fl s,[uq s bO])else if s.view.num<n then(fl s,[])else bif bH s.view.mem bO then(fl {s with a7:=nH s.a7 bO},[])else(fl s,[])
 | .hD n l=>if n<s.view.num then(fl s,[uq s bO])else if s.view.num<n then(fl s,[])else(fl {s with als:=kV s.als l l.length},[])
 | .dX m=>if m.view<s.view.num then(fl s,[uq s bO])else if s.view.num<m.view then(fl s,[])else
  bif decide ((dB s.agr m).2.2=0)then(fl {s with agr:=(dB s.agr m).1},h0 {s with agr:=(dB s.agr m).1} (dB s.agr m).2.1)else(fl s,[])
def CC(s:Mem):lj->Mem×List dg
 | .hi f c=>(Cr s f c,[])
 |_=>(s,[])
def fm(s:Mem)(bO:Int)(f:lj):Mem×List dg:=if s.status=1 then vG s bO f else if s.status=0 then CC s f else(s,[])
def arc(s:Mem)(bO:Int):lj->Prop
 | .ac n=>0<=n/\n<=1099511627776
 | .hD n l=>(0<=n/\n<=1099511627776)/\l.length<=5000/\(s.status=1->n=s.view.num->dF s.view l=true)
 | .dX m=>vD m/\m.src=bO/\(s.status=1->m.view=s.view.num->(dB s.agr m).2.2=0/\(dB s.agr m).2.1.length<=1000/\(∀p∈ (dB s.agr m).2.1,vD p.m)/\(dB s.agr m).1.dec.length<=1000)
 | .hi f c=>b0 f=true/\c.length<=400/\(∀x∈c,mP x)/\(jI f c).2=true/\(s.status=1->s9 (lC s f c))
 | .gD=>True
structure IT(s:Mem)(bO:Int)(f:lj):Prop where
 mF:hj s
 v:po s=true
 id:nq bO=true
 k3:bO≠s.self
 act:s.status=1->E3 s/\b0 s.view=true/\dF s.view s.als=true
 bq:arc s bO f
theorem adb(h:hj s):s9 s:=⟨h.view,h.hist,h.agr.dec,by have:=h.als;omega,by have:=h.dbts;omega⟩
theorem ard(s:Mem)(bO:Int)(f:lj)(h:IT s bO f)(b3:s.status=1):bl Tryz.prog 23 [.agg (cA s),i64 bO,.ar 1 ((Fg f).map bE) false] (.bd [.agg (cA (vG s bO f).1),.ar 2 (((vG s bO f).2.map tc).map gi) false,i64 0]):=by
 obtain⟨dS,ab,hM,bu,w6,h5⟩:=h;obtain⟨qp,hC,ve⟩:=w6 b3;have gX:=mK hC;have ox:s.view.mem≠ []:=λe=>by grind
 have lP:=adb dS;have key:=λ{ob:s8} {W:List Nat} (ao:bl Tryz.prog 51 [.agg (cA s),.ar 1 (W.map bE) false] (.bd [.agg (kf ob),.v (.bool true)])) {s':Mem} {Nc:List ek}
  (bC:cm Tryz.prog 54 (fh s []) [.aV 0 0,i64 bO,.agg (kf ob)] [true,false,false,false] (fh s' Nc) (.bd []))=>aqD s dS ab b3 bO hM bu ob W ao (TD s bC)
 cases f with
 |hi f c=>
  obtain⟨cP,a2,a3,a4,a5⟩:=h5;exact key (Ii s f c cP a2 a3 a4) (aqC s b3 dS bO [] f c a4 a3 (a5 b3))
 |gD=>
  unfold vG;cases cL:bH s.view.mem bO
  ·refine key (TS s) (aqB s b3 dS bO [] (by simp) qp cL ?_);have hk:=z1 s bO
   have hi:=z8 s bO
   exact⟨by grind,by rw[hk.2.2.1];exact lP.hist,by rw[hi.2.2.2];exact lP.dec,by have:=hk.2.2.2.2;have:=dS.als;omega,by rw[hk.2.2.2.1];exact lP.dbts⟩
  ·exact key (TS s) (aqA s b3 dS bO [] (by simp) qp cL lP)
 |ac n=>
  have ao:=abX s n h5.1 h5.2;unfold vG;by_cases h1:n<s.view.num
  ·simp only[b6 h1];exact key ao (TV s b3 dS bO [] (by simp) qp (zj n) (by show (1:Int)≠4;omega) (by show (1:Int)≠5;omega) h1 lP)
  ·by_cases ad:s.view.num<n
   ·simp only[bo h1,b6 ad];exact key ao (TX s b3 dS bO [] (zj n) (by show (1:Int)≠4;omega) (by show (1:Int)≠5;omega) ad lP)
   ·simp only[bo h1,bo ad];have e:n=s.view.num:=by omega
    subst e;cases cL:bH s.view.mem bO
    ·exact key ao (aqw s b3 dS bO [] cL lP)
    ·exact key ao (aqv s b3 dS bO [] cL ⟨lP.view,lP.hist,lP.dec,lP.als,lP.dbts⟩)
 |hD n l=>
  obtain⟨cP,a2,a3⟩:=h5;have ao:=acL s n cP.1 cP.2 l a2 a3;unfold vG;by_cases h1:n<s.view.num
  ·simp only[b6 h1];exact key ao (TV s b3 dS bO [] (by simp) qp (M7 n _) (by show (2:Int)≠4;omega) (by show (2:Int)≠5;omega) h1 lP)
  ·by_cases ad:s.view.num<n
   ·simp only[bo h1,b6 ad];exact key ao (TX s b3 dS bO [] (M7 n _) (by show (2:Int)≠4;omega) (by show (2:Int)≠5;omega) ad lP)
   ·simp only[bo h1,bo ad];have e:n=s.view.num:=by omega
    subst e;rw[show (bif !decide (s.status=1)|| !decide (s.view.num=s.view.num)then([]:List bU)else l)=l by grind]at ao;have xG:=(TP s.als l l.length (bP _)).2;exact key ao (aqx s b3 dS bO [] l (by omega) ve (a3 b3 rfl) ⟨lP.view,lP.hist,lP.dec,by show (kV s.als l l.length).length<=100000;have:=dS.als;omega,lP.dbts⟩)
 |dX m=>
  obtain⟨cP,a2,a3⟩:=h5;have ao:=acK s m cP;unfold vG;by_cases h1:m.view<s.view.num
  ·simp only[b6 h1];exact key ao (TV s b3 dS bO [] (by simp) qp (IC m) (by show (3:Int)≠4;omega) (by show (3:Int)≠5;omega) h1 lP)
  ·by_cases ad:s.view.num<m.view
   ·simp only[bo h1,b6 ad];exact key ao (TX s b3 dS bO [] (IC m) (by show (3:Int)≠4;omega) (by show (3:Int)≠5;omega) ad lP)
   ·simp only[bo h1,bo ad];have e:m.view=s.view.num:=by omega
    obtain⟨cY,cZ,iN,mm⟩:=a3 b3 e;have bC:=aqy s b3 dS bO [] (by simp) m cP e a2 gX.2 ox cY cZ iN ⟨lP.view,lP.hist,mm,lP.als,lP.dbts⟩
    rw[ep cY];have hk:=key ao bC;simp only[bY];rw[No];rw[nS]at hk;exact hk
theorem are(s:Mem)(bO:Int)(f:lj)(h:IT s bO f):bl Tryz.prog 23 [.agg (cA s),i64 bO,.ar 1 ((Fg f).map bE) false] (.bd [.agg (cA (fm s bO f).1),.ar 2 (((fm s bO f).2.map tc).map gi) false,i64 0]):=by
 unfold fm;by_cases h1:s.status=1
 ·rw[b6 h1];exact ard s bO f h h1
 ·rw[bo h1];obtain⟨dS,ab,hM,bu,w6,h5⟩:=h;have key:=λ{ob:s8} {W:List Nat} (hk:s.status=0->ob.kind≠4) (ao:bl Tryz.prog 51 [.agg (cA s),.ar 1 (W.map bE) false] (.bd [.agg (kf ob),.v (.bool true)]))=>aqF s dS ab h1 bO hM bu ob W hk ao
  have ug:∀ {ob:s8},ob.kind≠4->∀ {W:List Nat},W=Fg f->(∀lJ fA,f≠ .hi lJ fA)->bl Tryz.prog 51 [.agg (cA s),.ar 1 (W.map bE) false] (.bd [.agg (kf ob),.v (.bool true)])->
    bl Tryz.prog 23 [.agg (cA s),i64 bO,.ar 1 ((Fg f).map bE) false] (.bd [.agg (cA (if s.status=0 then CC s f else(s,[])).1),.ar 2 (((if s.status=0 then CC s f else(s,[])).2.map tc).map gi) false,i64 0]):=λ{ob} Nb {W} dI awo ao=>by
   have e: (if s.status=0 then CC s f else(s,[]))=(s,[]):=by
    by_cases aR:s.status=0
    ·rw[b6 aR];cases f with
     |hi lJ fA=>grind
     |_=>rfl
    grind
   grind
  cases f with
  |hi f c=>
   obtain⟨cP,a2,a3,a4,a5⟩:=h5;by_cases aR:s.status=0
   ·rw[b6 aR];exact aqE s dS ab aR bO hM bu f c cP a2 a4 a3
   ·rw[bo aR];exact key (λe=>absurd e aR) (Ii s f c cP a2 a3 a4)
  |gD=>exact ug (ob:=M6) (by show (5:Int)≠4;omega) rfl (λ_ _ e=>by cases e) (TS s)
  |ac n=>exact ug (ob:=zj n) (by show (1:Int)≠4;omega) rfl (λ_ _ e=>by cases e) (abX s n h5.1 h5.2)
  |hD n l=>exact ug (by show (2:Int)≠4;omega) rfl (λ_ _ e=>by cases e) (acL s n h5.1.1 h5.1.2 l h5.2.1 h5.2.2)
  |dX m=>exact ug (ob:=IC m) (by show (3:Int)≠4;omega) rfl (λ_ _ e=>by cases e) (acK s m h5.1)
theorem Np(s:bj)(a6:List dO): (dl s a6).2.length<=a6.length+1:=by
 unfold dl;cases decide ((s.dec.length:Int)=0)&&decide (0<((hh s).length:Int))<;>simp
theorem arf(s:bj)(cut:List Int): (eK s cut).2.1.length<=200:=by
 unfold eK;have h1:=Np {s with prop:=cut,cG:=0,aP:=(oJ s.aP cut).1,box:=(h8 s.view s.box ⟨s.self,cut⟩).1} [eF s 0 1 0 0 cut];have ad:=Np {s with prop:=cut,cG:=0} []
 grind
theorem arh(s:bj)(m:c0): (e0 s m).2.length<=100:=by
 unfold e0;split
 ·simp
 ·split
  ·exact aaX s m
  ·split
   ·exact aaY s m
   ·split
    ·exact aaZ s m
    grind
theorem ari(s:bj)(m:c0): (dB s m).2.1.length<=200:=by
 unfold dB;split
 ·simp
 ·split
  ·simp
  ·split
   ·simp
   ·split
    ·cases decide (m.kind=6)<;>simp
    ·have:=Np (e0 s m).1 (e0 s m).2;have:=arh s m
     grind
theorem arj(s:bj): (cQ s).2.length<=200:=by
 unfold cQ;split
 ·simp
 ·split
  ·simp
  ·have:=Np (gO s) (hA (gO s));have:=Ml (gO s);omega
def qM:e1:=⟨λ_ _=>False,λ_ _ _=>False,λ_ _=>False,λ_=>False,λ_=>0⟩
theorem adc(v:aK):kC v qM:=⟨λ_ _ _ h=>h.elim,λ_ _ h=>h.elim,λ_ _ _ h=>h.elim,λ_ _ _ h=>h.elim,λ_ _ h=>h.elim⟩
def qN(v:aK)(m:Int):bj:=⟨m,v,⟨0,-1,[]⟩,[],[],0,0,[],[],[],[],0⟩
theorem ade(ab:b0 v=true){m:Int}(aA:bH v.mem m=true):k9 v m=(qN v m,0):=by
 unfold k9;rw[ab,aA];rfl
theorem adf(ab:b0 v=true){m:Int}(aA:bH v.mem m=true):c1 (qN v m):=
 ⟨ab,aA,lk _,(by show (0:Int)<=_;omega),(x9 _).2 ⟨.inl rfl,(by show (-1:Int)<=0;omega),.inl ⟨rfl,rfl⟩⟩,λe=>absurd rfl e,(λe=>absurd e (by show ¬(0:Int)< -1;omega)),n5.2 (.inl rfl),n5.2 (.inl rfl),n5.2 (.inl rfl),n5.2 (.inl rfl),(uc ab).2 ⟨by simp[qN],.nil⟩,(λe=>by
  rfl),SM ab,(λr ao=>by cases ao),SM ab,(λr ao=>by cases ao),λe=>absurd rfl e,.inl ⟨rfl,rfl,rfl⟩⟩
theorem Ui(v:aK)(m:Int):kD v qM (qN v m):=
 ⟨⟨rfl,λ_ _ h=>h,(λe=>by
  have e: (-1:Int)=0:=e;omega),(λe=>absurd e (by show ¬(0:Int)< -1;omega)),λ_ _ h=>h.elim⟩,
  ⟨(λb ac=>by cases ac),(λe=>by
  have e: (0:Int)=1:=e;omega),λ_ _ h=>h,λ_ _ h=>h.elim,(λe=>by
  have e: (0:Int)=2:=e;omega),(λx ah=>by cases ah),λe=>absurd rfl e,λe=>absurd rfl e⟩⟩
def jY(k:Int):Nat:=if k=6 then 1 else if k=2\/k=4 then 273 else 17
theorem adg(k:Int):1<=jY k/\jY k<=273:=by
 unfold jY
 grind
def lD(l:List dO):Nat:=(l.map λp=>jY p.m.kind).sum
theorem Uj(l cO:List dO):lD (l++cO)=lD l+lD cO:=by simp[lD]
theorem adh(p:dO)(l:List dO):lD (p::l)=jY p.m.kind+lD l:=by rfl
def gK(s:bj):Nat:=(if s.dec=[]then 16 else 0)+(if s.phase=1 then 4368 else 0)
theorem Uk(s:bj):gK s<=4384:=by
 unfold gK;split<;>split<;>omega
theorem Nq(s:bj)(a6:List dO):16*lD (dl s a6).2+gK (dl s a6).1<=16*lD a6+gK s:=by
 unfold dl;cases aj:decide ((s.dec.length:Int)=0)&&decide (0<((hh s).length:Int))
 ·simp
 ·rw[cq]at aj;have h1:=SK.1 aj.1;have ad:=ru.1 aj.2;have aC:gK {s with dec:=hh s}+16=gK s:=by
   unfold gK
   grind
  have aG:jY (eF s 0 6 0 0 (hh s)).m.kind=1:=rfl;simp only[bY];rw[Uj,adh,aG];have:lD []=0:=rfl;omega
theorem vH(p:dO):lD [p]=jY p.m.kind:=by
 rfl
variable{s:bj}
theorem ark(aa:s.dec=[]){m:c0}(aA:eJ s.view m=true):16*lD (e0 s m).2+gK (e0 s m).1+1<=jY m.kind+gK s:=by
 have aR:lD []=0:=rfl;have hi:∀t:bj,t.dec=s.dec->t.phase=s.phase->gK t=gK s:=λt a b=>by
  unfold gK
  grind
 unfold e0;rcases zK aA with hk|hk|hk|hk|hk|hk
 ·rw[b6 hk,hk];have e:gK (kc s m)=gK s:=by
   unfold kc;cases decide ((h8 s.view s.box ⟨m.src,m.cut⟩).2=0)<;>exact hi _ rfl rfl
  have:jY 1=17:=rfl
  grind
 ·rw[bo (by omega),b6 hk,hk];have hw:jY 2=273:=rfl;have aC:16*lD (kR s m).2<=272:=by
   unfold kR;cases (ip s.aP m.aD).2.2
   ·grind
   ·simp only[bY];rw[vH];exact bP 272
  have aG:gK (kR s m).1<=gK s:=by
   have hM:∀t:bj,t.dec=s.dec->gK (rp t)<=gK s:=λt a=>by
    unfold gK rp
    grind
   unfold kR;cases decide (s.aD<m.aD)&& !decide (s.phase=0)<;>cases (ip s.aP m.aD).2.2
   all_goals grind
  omega
 ·rw[bo (by omega),bo (by omega),b6 hk,hk];have hw:jY 3=17:=rfl;rw[hw];unfold kS;cases ac: !decide (s.phase=1)|| !decide (m.aD=s.aD)
  ·simp only[iK,l3,fr]at ac;have awp: (gC {s with bw:=(fJ s.view s.bw ⟨m.src,m.cT,m.cut⟩).1}).dec=s.dec:=by
    unfold gC;cases !decide (({s with bw:=(fJ s.view s.bw ⟨m.src,m.cT,m.cut⟩).1}:bj).phase=1)||decide ((({s with bw:=(fJ s.view s.bw ⟨m.src,m.cT,m.cut⟩).1}:bj).bw.length:Int)<fP ({s with bw:=(fJ s.view s.bw ⟨m.src,m.cT,m.cut⟩).1}:bj).view.mem.length)
    ·cases (jb ({s with bw:=(fJ s.view s.bw ⟨m.src,m.cT,m.cut⟩).1}:bj).aP ({s with bw:=(fJ s.view s.bw ⟨m.src,m.cT,m.cut⟩).1}:bj).aD (gH ({s with bw:=(fJ s.view s.bw ⟨m.src,m.cT,m.cut⟩).1}:bj).view ({s with bw:=(fJ s.view s.bw ⟨m.src,m.cT,m.cut⟩).1}:bj).bw ({s with bw:=(fJ s.view s.bw ⟨m.src,m.cT,m.cut⟩).1}:bj).prop).1).2<;>rfl
    ·rfl
   generalize gC {s with bw:=(fJ s.view s.bw ⟨m.src,m.cT,m.cut⟩).1}=A at *;simp only[bs];have ae:gK s=4384:=by
    unfold gK
    grind
   cases al:decide (A.phase=2)
   ·simp only[bs];have:=Uk A;omega
   ·simp only[bY];rw[vH];have al:=fi al;have aC:gK A=16:=by
     unfold gK
     grind
    have aG:jY (eF A 0 4 A.aD 0 A.c4).m.kind=273:=rfl;omega
  grind
 ·rw[bo (by omega),bo (by omega),bo (by omega),b6 hk,hk];have hw:jY 4=273:=rfl;rw[hw];unfold lX;cases (jb s.aP m.aD m.cut).2
  ·grind
  ·simp only[bY];have e:=hi {s with aP:=(jb s.aP m.aD m.cut).1,aQ:=fR s.view (fR s.view s.aQ ⟨m.src,m.aD,m.cut⟩) ⟨s.self,m.aD,m.cut⟩} rfl rfl;rw[vH];have:jY (eF s 0 5 m.aD 0 m.cut).m.kind=17:=rfl;omega
 ·rw[bo (by omega),bo (by omega),bo (by omega),bo (by omega),b6 hk,hk];have hw:jY 5=17:=rfl
  grind
 ·rw[bo (by omega),bo (by omega),bo (by omega),bo (by omega),bo (by omega),hk];have hw:jY 6=1:=rfl;have aj:=wZ ((pl aA).1 (.inr hk));simp only[];rw[vH,hw];have aC:gK {s with dec:=m.cut}+16=gK s:=by
   unfold gK
   grind
  have aG:jY (eF s 0 6 0 0 m.cut).m.kind=1:=rfl;omega
theorem arl(al:c1 s)(az:fX s){m:c0}(aA:eJ s.view m=true)(ae:m.src≠s.self):16*lD (dB s m).2.1+gK (dB s m).1+1<=jY m.kind+gK s:=by
 have ac:fE s=true:=(rv s).2 ⟨al,az⟩;have aR:lD []=0:=rfl;unfold dB;rw[bo (by grind),bo (by rw[ep (kB aA).2];simp),bo (by grind)];by_cases b5:decide (0<(s.dec.length:Int))=true
 ·rw[b6 b5];cases hk:decide (m.kind=6)
  ·simp only[bs];rw[vH];have aG:jY (eF s m.src 6 0 0 s.dec).m.kind=1:=rfl;have hk:=qX hk;have:17<=jY m.kind:=by
    unfold jY
    grind
   omega
  ·simp only[bY];have:=adg m.kind;omega
 ·rw[bo b5];have aa:=SL.1 (by simpa using b5);have h1:=Nq (e0 s m).1 (e0 s m).2;have ad:=ark aa aA
  grind
theorem arn(al:c1 s)(az:fX s):16*lD (cQ s).2+gK (cQ s).1<=gK s+9400:=by
 have ac:fE s=true:=(rv s).2 ⟨al,az⟩;have aR:lD []=0:=rfl;unfold cQ;rw[bo (by grind)];by_cases b5:decide (0<(s.dec.length:Int))=true
 ·rw[b6 b5,vH];have aG:jY (eF s 0 6 0 0 s.dec).m.kind=1:=rfl
  grind
 ·rw[bo b5];have h1:=Nq (gO s) (hA (gO s));have ad:lD (hA (gO s))<=307:=by
   unfold hA;rw[Uj,Uj];have aC:lD (yd (gO s))<=17:=by
    unfold yd;cases (hY (gO s).box (gO s).self).2
    ·grind
    ·simp only[bY];rw[vH];exact bP 17
   have aG:lD (vy (gO s))<=273:=by
    unfold vy;cases decide ((gO s).phase=1)
    ·cases decide ((gO s).phase=2)
     ·grind
     ·simp only[bY,bs];rw[vH];exact bP 273
    ·simp only[bY];rw[vH];exact bP 273
   have bc:lD (ye (gO s))<=17:=by
    unfold ye;cases decide (0<=eS (gO s).aQ (gO s).self)&& !decide ((gO s).phase=2)
    ·grind
    ·simp only[bY];rw[vH];exact bP 17
   omega
  have aN:=Uk (gO s);omega
theorem aro(al:c1 s)(az:fX s){cut:List Int}(cw: (eK s cut).2.2=0):16*lD (eK s cut).2.1+gK (eK s cut).1<=gK s+272:=by
 obtain⟨_,_,_,ug⟩:=Mw al az cw;have aR:lD []=0:=rfl;rcases ug with⟨_,_,_,_,e⟩| ⟨_,e⟩
 ·have h1:=Nq {s with prop:=cut,cG:=0,aP:=⟨0,0,cut⟩,box:=iB s.box ⟨s.self,cut⟩} [eF s 0 1 0 0 cut];rw[<-e,vH]at h1;have aG:jY (eF s 0 1 0 0 cut).m.kind=17:=rfl;have bc:gK {s with prop:=cut,cG:=0,aP:=⟨0,0,cut⟩,box:=iB s.box ⟨s.self,cut⟩}=gK s:=rfl
  grind
 ·have h1:=Nq {s with prop:=cut,cG:=0} [];rw[<-e,aR]at h1;have bc:gK {s with prop:=cut,cG:=0}=gK s:=rfl
  grind
structure jg where
 v0:aK
 D:List (List Int)
 gs:Nat->e1
def eV(G:jg)(k:Nat):aK:=dQ G.v0 G.D k
structure dt(bz:aK->Int->Prop)(T:Nat)(G:jg):Prop where
 oa:Nl G.v0 G.D
 num:G.v0.num<=1000
 len:G.D.length<=T
 yq:T<=399
 ry:G.D.length=T->∀c,¬(G.gs G.D.length).P c
 qO:∀k,k<=G.D.length->kC (eV G k) (G.gs k)
 dec:∀k,k<G.D.length->uh (eV G k) (G.gs k) (G.D.getD k [])
 Ac:∀k,k<=G.D.length->∀c,(G.gs k).P c->∀y∈c,bz (eV G k) y
def vI(G:jg)(a:Int)(k:Nat):Prop:=kD (eV G k) (G.gs k) (qN (eV G k) a)
structure Go(a:Int)(G bk:jg):Prop where
 v0:bk.v0=G.v0
 IU:∃E,bk.D=G.D++E
 b7:∀k,k<=G.D.length->sa a (G.gs k) (bk.gs k)
 new:∀k,G.D.length<k->k<=bk.D.length->∀b,b≠a->vI bk b k
section
variable {bz:aK->Int->Prop} {T:Nat} {G bk CD:jg} {a:Int}
theorem CE(h:Go a G bk):G.D.length<=bk.D.length:=by
 obtain⟨E,e⟩:=h.IU
 grind
theorem Ad(h:Go a G bk){k:Nat}(hk:k<=G.D.length):eV bk k=eV G k:=by
 obtain⟨E,e⟩:=h.IU;unfold eV;rw[h.v0,e];exact IQ _ _ _ hk
theorem Ul(h:Go a G bk){k:Nat}(hk:k<=G.D.length):bk.D.take k=G.D.take k:=by
 obtain⟨E,e⟩:=h.IU
 grind
theorem arp{g dV:e1}{s:bj}(an:s.phase=1->0<s.aD/\h7 s.aD=s.self)(h:sa a g dV)(bu:s.self≠a)(q:kD v g s):kD v dV s:=by
 obtain⟨⟨dj,dM,gJ,eG,n9⟩,q⟩:=q;refine⟨⟨(h.cg _ bu).trans dj,λe c x=>dM e c (h.vl _ _ bu x),λe=>h.ext.v _ _ (gJ e),λe=>h.ext.a _ _ _ (eG e),λr c x=>n9 r c (h.zO _ _ _ bu x)⟩,?_⟩;refine⟨λb ac=>h.ext.v _ _ (q.box b ac),λp x ah=>H4 h.ext (an p).1 (q.bw p x ah),λp c x=> ?_,λr c x o=> ?_,λp=>h.ext.a _ _ _ (q.c4 p),λx ah=>h.ext.a _ _ _ (q.aQ x ah),λp=>B5 h.ext (q.dec p),λp=>h.ext.p _ (q.prop p)⟩
 ·rcases h.cb _ _ x with x|x
  ·exact q.rA p c x
  omega
 ·rcases h.cb _ _ x with x|x
  ·exact q.p3 r c x o
  omega
theorem Nr(h:Go a G bk){b:Int}(ac:b≠a){k:Nat}(hk:k<=G.D.length)(az:vI G b k):vI bk b k:=by
 unfold vI at *;rw[Ad h hk];exact arp (λe=>by
  have e: (0:Int)=1:=e;omega) (h.b7 k hk) ac az
theorem vJ(a:Int)(G:jg):Go a G G:=⟨rfl,⟨[],by simp⟩,λ_ _=>zP _ _,λk h1 ad=>by omega⟩
theorem Um(h:Go a G bk)(bp:Go a bk CD):Go a G CD:=by
 have af:=CE h;refine⟨bp.v0.trans h.v0,?_,λk hk=>H5 (h.b7 k hk) (bp.b7 k (by omega)),λk h1 ad b ac=> ?_⟩
 ·obtain⟨E,e⟩:=h.IU;obtain⟨awq,e'⟩:=bp.IU
  grind
 ·by_cases hk:k<=bk.D.length
  ·exact Nr bp ac hk (h.new k h1 hk b ac)
  ·exact bp.new k (by omega) ad b ac
theorem jZ(bf:dt bz T G){k:Nat}(hk:k<=G.D.length):b0 (eV G k)=true/\(eV G k).num=G.v0.num+k:=ac3 bf.oa k hk
theorem Ae(bf:dt bz T G){k j:Nat}(hk:k<=G.D.length)(aq:j<=G.D.length)(h: (eV G k).num=(eV G j).num):k=j:=by
 have h1:=(jZ bf hk).2;have ad:=(jZ bf aq).2;omega
end
structure gj(G:jg)(s:Mem):Prop where
 id:nq s.self=true
 b7:s.status=1
 cont:s.cont=[]
 first:s.first=G.v0
 af:s.hist.length<=G.D.length
 hist:s.hist=G.D.take s.hist.length
 view:s.view=eV G s.hist.length
 jK:bH s.view.mem s.self=true
 a7:pZ s.view s.self s.a7
 jy:s.agr.view=s.view
 nu:s.agr.self=s.self
 hm:c1 s.agr
 ia:fX s.agr
 qP:kD s.view (G.gs s.hist.length) s.agr
 als:dF s.view s.als=true
 Af: (s.dbts.map (·.bI)).Pairwise λa b=>a<b
 td:∀d∈s.dbts,d.bI≠s.self/\1<=d.jW/\d.jW<=6
 bq:∀k,s.hist.length<k->k<=G.D.length->vI G s.self k
structure arq(G:jg)(s:Mem):Prop where
 id:nq s.self=true
 eq:s= {du with self:=s.self,cont:=s.cont}
 cont:dq s.cont 16=true
 out:bH s.cont s.self=false
 bq:∀k,k<=G.D.length->vI G s.self k
structure ars(G:jg)(s:Mem):Prop where
 id:nq s.self=true
 b7:s.status=2
 cont:s.cont=[]
 first:s.first=G.v0
 af:s.hist.length<=G.D.length
 hist:s.hist=G.D.take s.hist.length
 view:s.view=eV G s.hist.length
 out:bH s.view.mem s.self=false
 a7:s.a7=oE
 als:s.als=[]
 dbts:s.dbts=[]
 agr:s.agr=gg
def CF(G:jg)(s:Mem):Prop:=gj G s/\s.agr.dec=[]/\∀d∈s.dbts,d.bI∈ex s.view s.als false
def fS(G:jg)(s:Mem):Prop:=CF G s\/arq G s\/ars G s
def oc(G:jg)(src:Int):lj->Prop
 | .ac n=>∃k,k<=G.D.length/\n=(eV G k).num
 | .hD n l=>∃k,k<=G.D.length/\n=(eV G k).num/\dF (eV G k) l=true
 | .dX m=>∃k,k<=G.D.length/\eJ (eV G k) m=true/\qF (eV G k) (G.gs k) m/\m.src=src
 | .hi f c=>f=G.v0/\∃k,k<=G.D.length/\c=G.D.take k
 | .gD=>True
def qb(G:jg)(self:Int)(p:dg):Prop:=oc G self p.bq/\p.da≠self
section
variable {bz:aK->Int->Prop} {T:Nat} {G bk CD:jg} {a:Int}
theorem art(h:Go a G bk){s:Mem}(bu:s.self≠a)(q:gj G s):gj bk s:=by
 have af:=CE h;have ab:=Ad h q.af;refine⟨q.id,q.b7,q.cont,q.first.trans h.v0.symm,bQ q.af af,?_,?_,q.jK,q.a7,q.jy,q.nu,q.hm,q.ia,?_,q.als,q.Af,q.td,λk h1 ad=> ?_⟩
 ·rw[Ul h q.af];exact q.hist
 ·rw[ab];exact q.view
 ·exact anv q.hm (h.b7 _ q.af) (by rw[q.nu];omega) q.qP
 ·by_cases hk:k<=G.D.length
  ·exact Nr h bu hk (q.bq k h1 hk)
  ·exact h.new k (by omega) ad _ bu
theorem aru(h:Go a G bk){s:Mem}(bu:s.self≠a)(q:fS G s):fS bk s:=by
 have af:=CE h;rcases q with⟨dj,dM⟩|q|q
 ·exact .inl ⟨art h bu dj,dM⟩
 ·refine .inr (.inl ⟨q.id,q.eq,q.cont,q.out,λk hk=> ?_⟩);by_cases hp:k<=G.D.length
  ·exact Nr h bu hp (q.bq k hp)
  ·exact h.new k (by omega) hk _ bu
 ·have ab:=Ad h q.af;refine .inr (.inr ⟨q.id,q.b7,q.cont,q.first.trans h.v0.symm,bQ q.af af,?_,?_,q.out,q.a7,q.als,q.dbts,q.agr⟩)
  ·rw[Ul h q.af];exact q.hist
  ·rw[ab];exact q.view
theorem adi(h:Go a G bk){src:Int}{f:lj}(q:oc G src f):oc bk src f:=by
 have af:=CE h;cases f with
 |ac n=>
  obtain⟨k,hk,e⟩:=q;exact⟨k,by omega,by rw[Ad h hk];exact e⟩
 |hD n l=>
  obtain⟨k,hk,e,aG⟩:=q;exact⟨k,by omega,by rw[Ad h hk];exact e,by rw[Ad h hk];exact aG⟩
 |dX m=>
  obtain⟨k,hk,e,aG,bc⟩:=q;refine⟨k,by omega,by rw[Ad h hk];exact e,?_,bc⟩;rw[Ad h hk];exact anu (h.b7 k hk).ext e aG
 |hi f c=>
  obtain⟨e,k,hk,aG⟩:=q;exact⟨e.trans h.v0.symm,k,by omega,by rw[Ul h hk];exact aG⟩
 |gD=>exact trivial
theorem IV(h:Go a G bk){src:Int}{p:dg}(q:qb G src p):qb bk src p:=⟨adi h q.1,q.2⟩
theorem IW(bf:dt bz T G){s:Mem}{k:Nat}(hM:nq s.self=true)(az:s.first=G.v0)(aj:s.cont=[])(hk:k<=G.D.length)(bC:s.hist=G.D.take k)(bq:∀j,k<=j->j<=G.D.length->vI G s.self j):fS G (eT s (eV G k)):=by
 have ab:=(jZ bf hk).1;have af:s.hist.length=k:=by grind
 cases hi:bH (eV G k).mem s.self
 ·rw[EZ hi];exact .inr (.inr ⟨hM,rfl,aj,az,by grind,by grind,by grind,hi,rfl,rfl,rfl,rfl⟩)
 ·have al:=adf ab hi;have jn:=ade ab hi;have b4:=Nj ab hi;rw[w2 hi,jn,b4];refine .inl ⟨⟨hM,rfl,aj,az,by grind,by grind,by grind,hi,aqS _ _,rfl,rfl,al,?_,?_,aca ab,.nil,(λd aa=>by cases aa),λj h1 ad=>bq j (by grind) ad⟩,rfl,λd aa=>by cases aa⟩
  ·intro e;have e: (0:Int)=1:=e;omega
  ·show kD (eV G k) (G.gs s.hist.length) (qN (eV G k) s.self);rw[af];exact bq k (bP _) hk
theorem Ns(bf:dt bz T G){s:Mem}(al:gj G s)(aa:s.agr.dec≠ []): (en s).2=true/\∃bk,dt bz T bk/\Go s.self G bk/\fS bk (en s).1:=by
 have kQ:=jZ bf al.af;have pP:=(s3 kQ.1).1;have jf:uh (eV G s.hist.length) (G.gs s.hist.length) s.agr.dec:=by
  have:=al.qP.dP.dec aa;rw[al.view]at this;omega
 have vK: (dJ s.view s.agr.dec).2=0:=by
  have h1:=zM al.hm.dec aa;rw[al.jy]at h1;exact fi h1
 have dd:=H2 pP (bf.qO _ al.af) jf;have ax:s.hist.length<399:=by
  have h1:=bf.len;have ad:=bf.yq;have aN:=al.af;by_cases he:s.hist.length=T
  ·have e:G.D.length=T:=by omega
   have:=bf.ry e s.agr.dec
   grind
  ·omega
 have lb:en s=(eT {s with hist:=s.hist++ [s.agr.dec]} (dJ s.view s.agr.dec).1,true):=by
  unfold en;rw[cX (λe=>aa (v2.1 (by omega))),vK,cX (show ¬(400:Int)<=(s.hist.length:Int) by omega)];rfl
 rw[lb];refine⟨rfl,?_⟩;by_cases hk:s.hist.length<G.D.length
 ·have aj:s.agr.dec=G.D.getD s.hist.length []:=ano pP (bf.qO _ al.af) jf (bf.dec _ hk);refine⟨G,bf,vJ _ _,?_⟩;have vL: (dJ s.view s.agr.dec).1=eV G (s.hist.length+1):=by
   rw[al.view,aj];rfl
  rw[vL];refine IW bf al.id al.first al.cont hk ?_ (λj h1 ad=>al.bq j (by omega) ad)
  show s.hist++ [s.agr.dec]=G.D.take (s.hist.length+1);have aw:G.D.getD s.hist.length []=G.D[s.hist.length]:=by grind
  rw[e4 hk,<-al.hist,aj,aw]
 ·have gl:s.hist.length=G.D.length:=by
   have:=al.af;omega
  have awr:G.D.length+1<=T:=by
   have h1:=bf.len;by_cases he:G.D.length=T
   ·have:=bf.ry he s.agr.dec
    grind
   ·omega
  have Nt:∀k,k<=G.D.length->eV ⟨G.v0,G.D++ [s.agr.dec],λj=>if j<=G.D.length then G.gs j else qM⟩ k=eV G k:=λk hk=>IQ _ _ _ hk;have aws:∀k,k<=G.D.length->(λj=>if j<=G.D.length then G.gs j else qM) k=G.gs k:=λk hk=>b6 hk;have Bz: (λj=>if j<=G.D.length then G.gs j else qM) (G.D.length+1)=qM:=bo (by omega);have vc: (G.D++ [s.agr.dec]).length=G.D.length+1:=by simp
  have jx: (G.D++ [s.agr.dec]).getD G.D.length []=s.agr.dec:=by simp
  have h5:∀b,vI ⟨G.v0,G.D++ [s.agr.dec],λj=>if j<=G.D.length then G.gs j else qM⟩ b (G.D.length+1):=λb=>by
   unfold vI;simp only[];rw[bo (by omega)];exact Ui _ _
  have w7:Go s.self G ⟨G.v0,G.D++ [s.agr.dec],λj=>if j<=G.D.length then G.gs j else qM⟩:=by
   refine⟨rfl,⟨_,rfl⟩,λk hk=> ?_,λk h1 ad b _=> ?_⟩
   ·simp only[];rw[b6 hk];exact zP _ _
   grind
  have arv: (dJ (eV G G.D.length) s.agr.dec).2=0:=by
   rw[<-gl,<-al.view];omega
  have dI:dt bz T ⟨G.v0,G.D++ [s.agr.dec],λj=>if j<=G.D.length then G.gs j else qM⟩:=by
   refine⟨⟨bf.oa.1,λi hi=> ?_⟩,bf.num,by grind,bf.yq,λ_ c aj=> ?_,λk hk=> ?_,λk hk=> ?_,λk hk c aj=> ?_⟩
   ·rw[vc]at hi;by_cases h:i<G.D.length
    ·have:=bf.oa.2 i h;unfold sd at this⊢;rw[IQ _ _ _ (Nat.le_of_lt h),Ue h];omega
    ·have df:i=G.D.length:=by omega
     subst df;unfold sd;rw[IQ _ _ _ (bP _),jx];exact ep arv
   ·simp only[vc]at aj;rw[bo (by omega)]at aj;exact aj
   ·simp only[vc]at hk;by_cases h:k<=G.D.length
    ·rw[Nt k h];simp only[];rw[b6 h];exact bf.qO k h
    ·simp only[];rw[bo h];exact adc _
   ·simp only[vc]at hk;have hk:k<=G.D.length:=by omega
    rw[Nt k hk];simp only[];rw[b6 hk];by_cases h:k<G.D.length
    ·rw[Ue h];exact bf.dec k h
    grind
   ·simp only[]at aj;by_cases h:k<=G.D.length
    ·rw[b6 h]at aj;rw[Nt k h];exact bf.Ac k h c aj
    ·rw[bo h]at aj;exact aj.elim
  refine⟨_,dI,w7,?_⟩;have vL: (dJ s.view s.agr.dec).1=eV ⟨G.v0,G.D++ [s.agr.dec],λj=>if j<=G.D.length then G.gs j else qM⟩ (G.D.length+1):=by
   unfold eV dQ;simp only[];rw[jx,IQ _ _ _ (bP _),al.view,gl];rfl
  rw[vL];refine IW dI al.id al.first al.cont (by simp) ?_ (λj h1 ad=> ?_)
  ·show s.hist++ [s.agr.dec]=(G.D++ [s.agr.dec]).take (G.D.length+1);rw[sr (by simp),al.hist,gl,fU]
  grind
theorem Fh{s:Mem}(aa:s.agr.dec=[]):en s=(s,false):=by
 unfold en
 grind
theorem Nu(s:Mem)(v:aK): (eT s v).self=s.self:=by
 unfold eT;cases bH v.mem s.self<;>rfl
theorem Un(s:Mem): (en s).1.self=s.self:=by
 unfold en;cases decide ((s.agr.dec.length:Int)=0)
 ·cases (!decide ((dJ s.view s.agr.dec).2=0)||decide (400<=(s.hist.length:Int)))
  ·exact Nu _ _
  ·rfl
 ·rfl
theorem arw(s:Mem): (fl s).self=s.self:=by
 unfold fl;cases decide (s.status=1)
 ·rfl
 ·cases (en s).2
  ·exact Un s
  ·exact Un s
theorem Uo(bf:dt bz T G){s:Mem}(al:gj G s):∃bk,dt bz T bk/\Go s.self G bk/\fS bk (fl s):=by
 rw[ta al.b7];by_cases aa:s.agr.dec=[]
 ·rw[Fh aa];refine⟨G,bf,vJ _ _,.inl ⟨?_,aa,λd aa=> ?_⟩⟩
  ·exact⟨al.id,al.b7,al.cont,al.first,al.af,al.hist,al.view,al.jK,al.a7,al.jy,al.nu,al.hm,al.ia,al.qP,al.als,al.Af.sublist (List.filter_sublist.map _),λd aa=>al.td d (h2.1 aa).1,al.bq⟩
  ·have:=(h2.1 aa).2;unfold mu at this;exact gz.1 this
 ·obtain⟨h1,bk,ad,aN,bt⟩:=Ns bf al aa
  grind
end
section
variable {bz:aK->Int->Prop} {T:Nat} {G bk CD:jg} {a:Int}
def adj(G:jg)(s:Mem)(p:dO):Prop:=eJ (eV G s.hist.length) p.m=true/\qF (eV G s.hist.length) (G.gs s.hist.length) p.m/\p.m.src=s.self/\p.da≠s.self
theorem IX(bf:dt bz T G){s:Mem}(al:gj G s){x:bj×List dO}(aW:r9 s.agr x){g0:e1}(yX:sa s.self (G.gs s.hist.length) g0)(cH: (∀c,g0.P c->(G.gs s.hist.length).P c)\/s.hist.length<T)
  (an:∀c,g0.P c->(G.gs s.hist.length).P c\/∀y∈c,bz s.view y) (ao:p4 s.view g0 s.agr x):∃bk,dt bz T bk/\Go s.self G bk/\gj bk {s with agr:=x.1}/\∀p∈x.2,adj bk s p:=by
 obtain⟨dV,i1,s1,ff,dj,f1⟩:=ao;obtain⟨lr,ma,rD,Na,Up⟩:=aW;rw[al.nu]at s1;have b3:=H5 yX s1;have w7:Go s.self G ⟨G.v0,G.D,λj=>if j=s.hist.length then dV else G.gs j⟩:=by
  refine⟨rfl,⟨[],by simp⟩,λk hk=> ?_,λk h1 ad=>by grind⟩;simp only[];by_cases h:k=s.hist.length
  ·grind
  ·rw[bo h];exact zP _ _
 have kQ:∀k,eV ⟨G.v0,G.D,λj=>if j=s.hist.length then dV else G.gs j⟩ k=eV G k:=λ_=>rfl;have dI:dt bz T ⟨G.v0,G.D,λj=>if j=s.hist.length then dV else G.gs j⟩:=by
  refine⟨bf.oa,bf.num,bf.len,bf.yq,λe c aj=> ?_,λk hk=> ?_,λk hk=> ?_,λk hk c aj=> ?_⟩
  ·simp only[]at e aj;by_cases h:G.D.length=s.hist.length
   ·rw[b6 h]at aj;rcases cH with cH|cH
    ·have:=bf.ry e c
     grind
    ·omega
   ·rw[bo h]at aj;exact bf.ry e c aj
  ·rw[kQ];simp only[];by_cases h:k=s.hist.length
   ·rw[b6 h,h,<-al.view];exact i1
   ·rw[bo h];exact bf.qO k hk
  ·rw[kQ];simp only[];by_cases h:k=s.hist.length
   ·rw[b6 h,h];have:=bf.dec k hk;rw[h]at this;exact B5 b3.ext this
   ·rw[bo h];exact bf.dec k hk
  ·simp only[]at aj;by_cases h:k=s.hist.length
   ·rw[b6 h]at aj;rw[kQ,h];rcases an c (ff c aj)with q|q
    ·exact bf.Ac _ al.af c q
    ·rw[<-al.view];exact q
   ·rw[bo h]at aj;exact bf.Ac k hk c aj
 refine⟨_,dI,w7,⟨al.id,al.b7,al.cont,al.first,al.af,al.hist,al.view,al.jK,al.a7,rD.trans al.jy,Na.trans al.nu,lr,ma,?_,al.als,al.Af,al.td,λk h1 ad=> ?_⟩,λp an=> ?_⟩
 ·grind
 ·unfold vI;rw[kQ];simp only[];rw[bo (by grind)];exact al.bq k h1 ad
 ·have b5:=Up p an;refine⟨by rw[kQ,<-al.view,<-al.jy];exact b5.p2,?_,by rw[<-al.nu];exact b5.src,by rw[<-al.nu];exact b5.k3⟩;rw[kQ,<-al.view]
  grind
variable{s:Mem}
theorem arx{p:dO}(bu:p.da≠s.self):∀x∈qK s p,x≠s.self:=λx ah=>by
 unfold qK at ah;cases h:decide (p.da=0)
 ·grind
 ·rw[h]at ah;simp only[bY,p8]at ah;have:=(h2.1 ah).2;unfold hZ at this
  grind
theorem Uq{s':Mem}(ae:s'.self=s.self)(af:s.hist.length<=G.D.length){l:List dO}(h:∀p∈l,adj G s p):∀p∈h0 s' l,qb G s.self p:=λp an=>by
 unfold h0 at an;obtain⟨q,bV,an⟩:=Jy.1 an;unfold CB at an;obtain⟨x,ah,rfl⟩:=fT.1 an;obtain⟨h1,ad,aN,bt⟩:=h q bV;exact⟨⟨_,af,h1,ad,aN⟩,by rw[<-ae];exact arx (by omega) x ah⟩
theorem adk(az:s.first=G.v0)(af:s.hist.length<=G.D.length)(bC:s.hist=G.D.take s.hist.length){da:Int}(bu:da≠s.self):∀p∈ [uq s da],qb G s.self p:=λp an=>by
 rw[eX.1 an];exact⟨⟨az,_,af,bC⟩,bu⟩
theorem Fi:∀p∈ ([]:List dg),qb G a p:=λp an=>by cases an
theorem adl(bf:dt bz T G){s:Mem}(al:CF G s){m:Nat}(aA:m<=G.D.length):∀j,s.hist.length+j<=m->fS G (ir s G.v0 (G.D.take m) s.hist.length j)/\(ir s G.v0 (G.D.take m) s.hist.length j).self=s.self/\
  ((ir s G.v0 (G.D.take m) s.hist.length j).status=1->(ir s G.v0 (G.D.take m) s.hist.length j).hist.length=s.hist.length+j)
 |0,_=>⟨.inl al,rfl,λ_=>rfl⟩
 |j+1,aq=>by
  obtain⟨h1,ad,aN⟩:=adl bf al aA j (by omega);unfold ir;cases b3:decide ((ir s G.v0 (G.D.take m) s.hist.length j).status=1)
  ·grind
  ·have b3:=fi b3;have af:=aN b3;simp only[bY];generalize ir s G.v0 (G.D.take m) s.hist.length j=E at *;rcases h1 with⟨q,dM⟩|q|q
   ·have ab:dQ G.v0 (G.D.take m) (s.hist.length+j+1)=eV G (s.hist.length+j+1):=IP _ _ (by omega);rw[ab];refine⟨IW bf q.id q.first q.cont (by omega) ?_ (λi a b=>q.bq i (by omega) b),?_,λ_=> ?_⟩
    ·show E.hist++ [(G.D.take m).getD (s.hist.length+j) []]=_;have ax:s.hist.length+j<G.D.length:=by omega
     have aw:G.D.getD (s.hist.length+j) []=G.D[s.hist.length+j]:=by grind
     rw[IN (by omega),e4 ax,aw];have:=q.hist
     grind
    ·rw[Nu];exact ad
    ·have:∀ (s:Mem) (v:aK),(eT s v).hist=s.hist:=λs v=>by
      unfold eT;cases bH v.mem s.self<;>rfl
     grind
   ·rw[q.eq]at b3;have b3: (0:Int)=1:=b3;omega
   ·rw[q.b7]at b3;omega
theorem Ur(bf:dt bz T G){s:Mem}(al:CF G s){m:Nat}(aA:m<=G.D.length):fS G (lC s G.v0 (G.D.take m))/\(lC s G.v0 (G.D.take m)).self=s.self:=by
 have af: (G.D.take m).length=m:=by grind
 unfold lC;cases h1: (!lZ G.v0 s.first||decide (((G.D.take m).length:Int)<=(s.hist.length:Int)))
 ·rw[bs];cases ih (λi=>hx (s.hist.getD i []) ((G.D.take m).getD i [])) s.hist.length
  ·exact⟨.inl al,rfl⟩
  ·simp only[iK,hG,af]at h1;have:=adl bf al aA ((G.D.take m).length-s.hist.length) (by omega)
   grind
 ·exact⟨.inl al,rfl⟩
theorem ary(bf:dt bz T G){s:Mem}(h:fS G s):∃bk,dt bz T bk/\Go s.self G bk/\fS bk (fl s):=by
 rcases h with⟨q,_⟩|q|q
 ·exact Uo bf q
 ·have ae:s.status=0:=by rw[q.eq];rfl
  have:fl s=s:=ID (cX (by omega));rw[this];exact⟨G,bf,vJ _ _,.inr (.inl q)⟩
 ·have:fl s=s:=ID (cX (by have:=q.b7;omega));rw[this];exact⟨G,bf,vJ _ _,.inr (.inr q)⟩
theorem Us(al:gj G s){L:List bU}(h:dF s.view L=true):gj G {s with als:=L}:=
 ⟨al.id,al.b7,al.cont,al.first,al.af,al.hist,al.view,al.jK,al.a7,al.jy,al.nu,al.hm,al.ia,al.qP,h,al.Af,al.td,al.bq⟩
theorem Ut(al:gj G s){d:jr}(h:pZ s.view s.self d):gj G {s with a7:=d}:=
 ⟨al.id,al.b7,al.cont,al.first,al.af,al.hist,al.view,al.jK,h,al.jy,al.nu,al.hm,al.ia,al.qP,al.als,al.Af,al.td,al.bq⟩
theorem adm{t:Mem}(al:gj G s)(h1:t.view=s.view)(ad:t.self=s.self)(aN:t.hist=s.hist)(bt:t.first=s.first)(b5:t.status=s.status)(eN:t.cont=s.cont)(iV:pZ s.view s.self t.a7)(sJ:t.agr=s.agr)(Nv:dF s.view t.als=true)
  (arz: (t.dbts.map (·.bI)).Pairwise λa b=>a<b) (awt:∀d∈t.dbts,d.bI≠s.self/\1<=d.jW/\d.jW<=6):gj G t:=
 ⟨by rw[ad];exact al.id,b5.trans al.b7,eN.trans al.cont,bt.trans al.first,by rw[aN];exact al.af,by rw[aN];exact al.hist,by rw[h1,aN];exact al.view,by rw[h1,ad];exact al.jK,by grind,by rw[sJ,h1];exact al.jy,by rw[sJ,ad];exact al.nu,by rw[sJ];exact al.hm,by rw[sJ];exact al.ia,by rw[h1,aN,sJ];exact al.qP,by grind,arz,by grind,by rw[ad,aN];exact al.bq⟩
theorem Nw(s:Mem)(x:Int):∀i,(kG s x i).cont=s.cont/\(kG s x i).a7=s.a7
 |0=>⟨rfl,rfl⟩
 |i+1=>by
  have aY:=Nw s x i;have h:=MZ (kG s x i) ⟨s.view.num,(l0 s.view.mem s.self x).getD i 0,s.self,x⟩;exact⟨h.2.2.2.2.2.1.trans aY.1,h.2.2.2.2.2.2.1.trans aY.2⟩
theorem Uu(al:gj G s)(x:Int):gj G (gZ s x):=by
 have h1:=z1 s x;have ad:=z8 s x;have aN:=Nw s x (l0 s.view.mem s.self x).length;have bt:=ac7 x al.als;exact adm al h1.1 h1.2.1 h1.2.2.1 ad.2.1 ad.1 aN.1 (by have e: (gZ s x).a7=s.a7:=aN.2;rw[e];exact al.a7) ad.2.2.2 bt (by rw[h1.2.2.2.1];exact al.Af) (by rw[h1.2.2.2.1];exact al.td)
theorem Uv(bf:dt bz T G){s:Mem}(c5:fS G s){src:Int}(bu:src≠s.self){f:lj}(az:oc G src f):
  (fm s src f).1.self=s.self/\∃bk,dt bz T bk/\Go s.self G bk/\fS bk (fm s src f).1/\∀p∈ (fm s src f).2,qb bk s.self p:=by
 unfold fm;rcases c5 with⟨al,aa,p5⟩|q|q
 ·rw[b6 al.b7];have kQ:=jZ bf al.af;have rk:s.view.num=G.v0.num+s.hist.length:=by rw[al.view];omega
  have ie:∀ {t:Mem},t.self=s.self->(fl t).self=s.self:=λh=>(arw _).trans h;have sS:∀ {t:Mem},t.self=s.self->gj G t->∃bk,dt bz T bk/\Go s.self G bk/\fS bk (fl t):=λh1 ad=>by
   obtain⟨bk,a,b,c⟩:=Uo bf ad
   grind
  have arA: (fl s).self=s.self/\∃bk,dt bz T bk/\Go s.self G bk/\fS bk (fl s)/\∀p∈ [uq s src],qb bk s.self p:=by
   obtain⟨bk,a,b,c⟩:=sS rfl al;exact⟨ie rfl,bk,a,b,c,λp an=>IV b (adk al.first al.af al.hist bu p an)⟩
  have Lu: (fl s).self=s.self/\∃bk,dt bz T bk/\Go s.self G bk/\fS bk (fl s)/\∀p∈ ([]:List dg),qb bk s.self p:=by
   grind
  have lb:∀ {t:Mem},t.self=s.self->gj G t->(fl t).self=s.self/\∃bk,dt bz T bk/\Go s.self G bk/\fS bk (fl t)/\∀p∈ ([]:List dg),qb bk s.self p:=λh1 ad=>by
   grind
  unfold vG;cases f with
  |hi f c=>
   obtain⟨rfl,m,aA,rfl⟩:=az;obtain⟨fF,eR⟩:=Ur bf ⟨al,aa,p5⟩ aA;obtain⟨bk,a,b,c⟩:=ary bf fF
   grind
  |gD=>
   cases cL:bH s.view.mem src
   ·have ao:=Uu al src;have h1:=(z1 s src).2.1;obtain⟨bk,a,b,c⟩:=sS h1 ao;refine⟨ie h1,bk,a,b,c,λp an=>IV b ?_⟩;have:=adk ao.first ao.af ao.hist (da:=src) (by omega) p an
    grind
   grind
  |ac n=>
   simp only[];by_cases h1:n<s.view.num
   ·grind
   ·rw[bo h1];by_cases ad:s.view.num<n
    ·grind
    ·rw[bo ad];cases bH s.view.mem src
     ·grind
     ·exact lb rfl (Ut al (T9 (by rw[al.view];grind) al.jK al.a7 src))
  |hD n l=>
   simp only[];by_cases h1:n<s.view.num
   ·grind
   ·rw[bo h1];by_cases ad:s.view.num<n
    ·grind
    ·rw[bo ad];obtain⟨k,hk,e,ab⟩:=az;have mf:k=s.hist.length:=Ae bf hk al.af (by omega);rw[mf,<-al.view]at ab;exact lb rfl (Us al (M5 al.als ab).1)
  |dX m=>
   obtain⟨k,hk,ab,ur,ix⟩:=az;have sj:=(kB ab).2;simp only[];by_cases h1:m.view<s.view.num
   ·grind
   ·rw[bo h1];by_cases ad:s.view.num<m.view
    ·grind
    ·rw[bo ad];have mf:k=s.hist.length:=Ae bf hk al.af (by omega);rw[mf,<-al.view]at ab ur;have gy:=bf.qO _ al.af;rw[<-al.view]at gy;obtain⟨cw,tP⟩:=MF gy al.hm al.ia al.jy al.qP ab (by rw[ix,al.nu];omega) ur;have vM:=zN al.hm al.ia cw;obtain⟨qc,g1,g2,g3,g4⟩:=IX bf al vM (zP _ _) (.inl λ_ h=>h) (λ_ h=>.inl h) tP;rw[ep cw,bY];obtain⟨yr,cU,dh,hR⟩:=Uo g1 g3;have ic:=CE g2;exact⟨ie rfl,yr,cU,Um g2 dh,hR,λp an=>IV dh (Uq (s:=s) rfl (by omega) g4 p an)⟩
 ·have ae:s.status=0:=by rw[q.eq];rfl
  rw[bo (by omega),b6 ae];have rW:s.self=s.self/\∃bk,dt bz T bk/\Go s.self G bk/\fS bk s/\∀p∈ ([]:List dg),qb bk s.self p:=⟨rfl,G,bf,vJ _ _,.inr (.inl q),Fi⟩
  cases f with
  |hi f c=>
   obtain⟨rfl,m,aA,rfl⟩:=az;unfold CC Cr;have af: (G.D.take m).length=m:=by grind
   have ab:dQ G.v0 (G.D.take m) (G.D.take m).length=eV G m:=by rw[af];exact IP _ _ (bP _)
   simp only[ab];cases cL:bH (eV G m).mem s.self
   ·refine⟨rfl,G,bf,vJ _ _,.inr (.inl ⟨q.id,?_,(kF (jZ bf aA).1).2.2,cL,q.bq⟩),Fi⟩;rw[bs];conv=>lhs;rw[q.eq]
   ·rw[bY];exact⟨Nu _ _,G,bf,vJ _ _,IW bf q.id rfl rfl aA rfl (λj _ ad=>q.bq j ad),Fi⟩
  |gD=>exact rW
  |ac n=>exact rW
  |hD n l=>exact rW
  |dX m=>exact rW
 ·rw[bo (by have:=q.b7;omega),bo (by have:=q.b7;omega)];exact⟨rfl,G,bf,vJ _ _,.inr (.inr q),Fi⟩
end
def kj(s:Mem):List dg:=(kd (cv s.view.mem s.self)).map (λm=>⟨m,.ac s.view.num⟩)++bif decide (0<(s.als.length:Int))then(p8 s).map (λm=>⟨m,.hD s.view.num s.als⟩)else []
theorem arB(s:Mem): (kj s).map tc=Cu s:=by
 unfold kj Cu;rw[ef,oT];congr 1;cases decide (0<(s.als.length:Int))
 ·rfl
 ·simp only[bY,oT];rfl
def ut(s:Mem):List dg:=
 bif decide ((s.agr.prop.length:Int)=0)then
  bif (dm s.view s.als).2 then
   bif decide ((eK s.agr (dm s.view s.als).1).2.2=0)then h0 {s with agr:=(eK s.agr (dm s.view s.als).1).1} (eK s.agr (dm s.view s.als).1).2.1
   else []
  else []
 else []
theorem adn(s:Mem): (ut s).map tc=(fb s).2:=by
 unfold ut fb;cases decide ((s.agr.prop.length:Int)=0)
 ·rfl
 ·cases (dm s.view s.als).2
  ·rfl
  ·cases decide ((eK s.agr (dm s.view s.als).1).2.2=0)
   ·rfl
   ·exact No _ _
def te(s:Mem):List dg:=h0 {s with agr:=(cQ s.agr).1} (cQ s.agr).2
def CG(s:Mem):List dg:=
 bif (en (iJ (fb (b1 s)).1).1).2 then ut (b1 s)++te (fb (b1 s)).1
 else ut (b1 s)++te (fb (b1 s)).1++kj (en (iJ (fb (b1 s)).1).1).1
theorem arC(s:Mem): (CG s).map tc=(pt s).2:=by
 unfold CG pt;cases (en (iJ (fb (b1 s)).1).1).2
 ·simp only[bs,ef,adn,arB];rw[show (te (fb (b1 s)).1).map tc=_ from No _ _];rfl
 ·simp only[bY,ef,adn];rw[show (te (fb (b1 s)).1).map tc=_ from No _ _];rfl
def fy(s:Mem):Mem×List dg:=if s.status=1 then((pt s).1,CG s)else if s.status=0 then(s,s.cont.map λm=>⟨m,.gD⟩)else(s,[])
structure CH(s:Mem):Prop where
 mF:hj s
 v:po s=true
 act:s.status=1->Nd s
section
variable {bz:aK->Int->Prop} {T:Nat} {G bk CD:jg} {a:Int}
theorem ado(s:Mem)(l:List Int):∀i,(ki s l i).cont=s.cont/\(ki s l i).a7=s.a7
 |0=>⟨rfl,rfl⟩
 |i+1=>by
  have aY:=ado s l i;have h:=Nw (ki s l i) (l.getD i 0) (l0 (ki s l i).view.mem (ki s l i).self (l.getD i 0)).length;exact⟨h.1.trans aY.1,h.2.trans aY.2⟩
theorem Uw(s:Mem): (b1 s).cont=s.cont/\(b1 s).a7=(cR s.a7).1:=by
 have h:=w5 {s with a7:=(cR s.a7).1} (cR s.a7).2 (cR s.a7).2.length;have ad:=λt:Mem=>ado {t with dbts:=kh t.self t.dbts (ex t.view t.als false)} (iT t.self t.dbts (ex t.view t.als false)) (iT t.self t.dbts (ex t.view t.als false)).length;have ad:=ad (mv {s with a7:=(cR s.a7).1} (cR s.a7).2);exact⟨ad.1.trans h.2.2.2.2.2.2.2.2.1,ad.2.trans h.2.2.2.2.2.2.2.1⟩
theorem adp(s:Mem)(h:∀d∈s.dbts,1<=d.jW/\d.jW<=6):Ab (b1 s).view (b1 s).self (b1 s).als (b1 s).dbts:=by
 have hk:=w5 {s with a7:=(cR s.a7).1} (cR s.a7).2 (cR s.a7).2.length;have h1:=arb (s:=mv {s with a7:=(cR s.a7).1} (cR s.a7).2) (by
  have e: (mv {s with a7:=(cR s.a7).1} (cR s.a7).2).dbts=s.dbts:=hk.2.2.2.1
  grind)
 have ao:=acO (mv {s with a7:=(cR s.a7).1} (cR s.a7).2);rw[<-ao.1,<-ao.2.1]at h1;exact h1
theorem Nx(bf:dt bz T G){s:Mem}(al:gj G s):gj G (b1 s):=by
 obtain⟨cU,dh,hR,hL,nk,qG⟩:=qL s;obtain⟨fF,eR⟩:=Uw s;have p5:=adp s λd aa=>(al.td d aa).2;have kQ:=jZ bf al.af;refine adm al cU dh hR qG nk fF ?_ hL (IS al.als) p5.up (λd aa=> ?_)
 ·rw[eR];exact aqT (by rw[al.view];grind) al.jK al.a7
 ·have:=p5.Ff d aa;omega
def mw(bz:aK->Int->Prop)(s:Mem):Prop:=s.status=1->(dm (b1 s).view (b1 s).als).2=true->∀y∈ (dm (b1 s).view (b1 s).als).1,bz (b1 s).view y
theorem Ny(bf:dt bz T G){s:Mem}(al:gj G s)(ay:s.hist.length<T)(dd: (dm s.view s.als).2=true->∀y∈ (dm s.view s.als).1,bz s.view y):∃bk,dt bz T bk/\Go s.self G bk/\gj bk (fb s).1/\∀p∈ut s,qb bk s.self p:=by
 have rW:∃bk,dt bz T bk/\Go s.self G bk/\gj bk s/\∀p∈ ([]:List dg),qb bk s.self p:=⟨G,bf,vJ _ _,al,Fi⟩
 unfold fb ut;cases decide ((s.agr.prop.length:Int)=0)
 ·grind
 ·cases ad: (dm s.view s.als).2
  ·grind
  ·cases aN:decide ((eK s.agr (dm s.view s.als).1).2.2=0)
   ·grind
   ·have cw:=fi aN;have gy:=bf.qO _ al.af;rw[<-al.view]at gy;have tP:=anN gy al.hm al.ia al.jy al.qP cw;have vM:=SZ al.hm al.ia cw;have aR:=(aby (c:=(dm s.view s.als).1) gy s.self).2;obtain⟨qc,g1,g2,g3,g4⟩:=IX bf al vM aR (.inr ay) (λfA aj=>by
     rcases aj with aj|aj;all_goals grind) tP
    have ic:=CE g2;exact⟨qc,g1,g2,g3,Uq (s:=s) rfl (by have:=al.af;omega) g4⟩
theorem Ux(bf:dt bz T G){s:Mem}(al:gj G s):∃bk,dt bz T bk/\Go s.self G bk/\gj bk (iJ s).1/\∀p∈te s,qb bk s.self p:=by
 have gy:=bf.qO _ al.af;rw[<-al.view]at gy;have tP:=anM gy al.hm al.ia al.jy al.qP;have vM:=EO al.hm al.ia;obtain⟨qc,g1,g2,g3,g4⟩:=IX bf al vM (zP _ _) (.inl λ_ h=>h) (λ_ h=>.inl h) tP;have ic:=CE g2;exact⟨qc,g1,g2,g3,Uq (s:=s) rfl (by have:=al.af;omega) g4⟩
theorem arD(bf:dt bz T G){s:Mem}(al:gj G s):∀p∈kj s,qb G s.self p:=λp an=>by
 have kQ:=jZ bf al.af;have si:=(kF kQ.1).2.2;rw[<-al.view]at si;unfold kj at an;rcases eo.1 an with an|an
 ·obtain⟨m,aA,rfl⟩:=fT.1 an;have:=ab8 si (gz.1 al.jK) m (H9.1 aA);exact⟨⟨_,al.af,by rw[al.view]⟩,this.2⟩
 ·cases h:decide (0<(s.als.length:Int))
  ·grind
  ·rw[h,bY]at an;obtain⟨m,aA,rfl⟩:=fT.1 an;have aA:=(h2.1 aA).2;unfold hZ at aA;exact⟨⟨_,al.af,by rw[al.view],by rw[<-al.view];exact al.als⟩,by grind⟩
theorem Nz(bf:dt bz T G){s:Mem}(c5:fS G s)(ay:s.hist.length<T)(dd:mw bz s):
  (fy s).1.self=s.self/\∃bk,dt bz T bk/\Go s.self G bk/\fS bk (fy s).1/\∀p∈ (fy s).2,qb bk s.self p:=by
 unfold fy;rcases c5 with⟨al,aa,p5⟩|q|q
 ·rw[b6 al.b7];obtain⟨cU,dh,hR,hL,nk,qG⟩:=qL s;have arE:=adp s λd aa=>(al.td d aa).2;have qI:=Nx bf al;have lR:=IE (b1 s);obtain⟨yr,g1,g2,g3,g4⟩:=Ny bf qI (by grind) (dd al.b7);unfold CG pt;generalize b1 s=S3 at *;rw[dh]at g2 g4;generalize ut S3=Uy at *;generalize fb S3=P at *;obtain⟨S4,Cw⟩:=P;simp only[]at lR g3⊢;obtain⟨ff,fB,oM,rE,Cx,T3,Ng⟩:=lR;obtain⟨Fk,nC,uZ,kW,Uz⟩:=Ux g1 g3;have gk: (iJ S4).1.self=S4.self/\(iJ S4).1.als=S4.als/\(iJ S4).1.view=S4.view/\(iJ S4).1.dbts=S4.dbts:=⟨rfl,rfl,rfl,rfl⟩
  generalize te S4=UA at *;generalize(iJ S4).2=II at *;generalize(iJ S4).1=S5 at *;rw[fB,dh]at uZ Uz;have UB:S5.self=s.self:=by omega
  have adq:=Um g2 uZ;have arF:∀p∈Uy++UA,qb Fk s.self p:=λp an=>by
   rcases eo.1 an with an|an
   ·exact IV uZ (g4 p an)
   grind
  by_cases dp:S5.agr.dec=[]
  ·rw[Fh dp,bs,bs];refine⟨UB,Fk,nC,adq,.inl ⟨kW,dp,λd aa=> ?_⟩,λp an=> ?_⟩
   ·simp only[]at aa⊢;rw[gk.2.2.2,Ng]at aa;have:=(arE.Ff d aa).2.1
    grind
   ·rcases eo.1 an with an|an
    ·grind
    ·have:=arD nC kW p an
     grind
  ·obtain⟨s1,arG,s2,Eb,UC⟩:=Ns nC kW dp;rw[s1,bY,bY];rw[UB]at Eb;exact⟨(Un S5).trans UB,arG,s2,Um adq Eb,UC,λp an=>IV Eb (arF p an)⟩
 ·have ae:s.status=0:=by rw[q.eq];rfl
  rw[bo (by omega),b6 ae];refine⟨rfl,G,bf,vJ _ _,.inr (.inl q),λp an=> ?_⟩;obtain⟨m,aA,rfl⟩:=fT.1 an;refine⟨ai,λe=> ?_⟩;have e:m=s.self:=e;have:=q.out;rw[<-e,gz.2 aA]at this
  grind
 ·rw[bo (by have:=q.b7;omega),bo (by have:=q.b7;omega)];exact⟨rfl,G,bf,vJ _ _,.inr (.inr q),Fi⟩
end
variable{m:c0}
theorem NA(ab:b0 v=true)(h:eJ v m=true):vD m:=by
 obtain⟨h1,ad⟩:=kB h;obtain⟨lr,ma,rD⟩:=kF ab;have ae:=Cc rD _ (gz.1 h1);have hk:=zK h;have ac:=pl h;have jV:∀ {r:Int},gN v r=true->1024<r/\r<1073741824:=λan=>⟨rr (nL an).1,Tb (nL an).1⟩;have vK:∀ {c:List Int},gb v c=true->mP c:=λaj=>ac2 (by decide) (yf (fi aj));have aR:mP []:=⟨by simp,λx ah=>by cases ah⟩
 unfold eJ at h;cases aj: (!b0 v|| !bH v.mem m.src|| !decide (m.view=v.num))
 ·simp only[aj,bs]at h;rcases hk with hk|hk|hk|hk|hk|hk;all_goals simp only[hk]at h
  ·simp only[wb,Oi,bY,cq,fr]at h;exact⟨by omega,by omega,by omega,by omega,by omega,vK h.2⟩
  ·simp only[show decide ((2:Int)=1)=false from rfl,show decide ((2:Int)=6)=false from rfl,wb,Ap,bY,bs,cq,fr]at h;have:=jV h.1.1.1;have pQ:m.cut=[]:=v2.1 (by omega);exact⟨by omega,by omega,by omega,by omega,by omega,by grind⟩
  ·have aN:=ac.2.2.1 hk;have:=jV aN.1;rcases aN.2.2 with⟨aC,aG⟩| ⟨aC,aG⟩
   ·exact⟨by omega,by omega,by omega,by omega,by omega,by grind⟩
   ·refine⟨by omega,by omega,by omega,by omega,?_,vK aG⟩
    grind
  ·simp only[show decide ((4:Int)=1)=false from rfl,show decide ((4:Int)=6)=false from rfl,show decide ((4:Int)=2)=false from rfl,show decide ((4:Int)=3)=false from rfl,wb,Ap,bY,bs,cq,fr]at h;have:=jV h.1.1.1;exact⟨by omega,by omega,by omega,by omega,by omega,vK h.2⟩
  ·simp only[show decide ((5:Int)=1)=false from rfl,show decide ((5:Int)=6)=false from rfl,show decide ((5:Int)=2)=false from rfl,show decide ((5:Int)=3)=false from rfl,show decide ((5:Int)=4)=false from rfl,wb,Ap,bY,bs,cq,fr]at h;have:=jV h.1.1;exact⟨by omega,by omega,by omega,by omega,by omega,vK h.2⟩
  ·simp only[show decide ((6:Int)=1)=false from rfl,wb,FF,bY,cq,fr]at h;exact⟨by omega,by omega,by omega,by omega,by omega,vK h.2⟩
 grind
section
variable {bz:aK->Int->Prop} {T:Nat} {G:jg}
theorem adr(bf:dt bz T G){s:Mem}(h:CF G s):hj s:=by
 obtain⟨al,_,p5⟩:=h;have ab:=(mK (jZ bf al.af).1).2;rw[<-al.view]at ab;have aR:=(mK bf.oa.1).2;obtain⟨d1,d2,d3,d4⟩:=al.a7;have awu:=BI s.view.mem s.self;have ax:=bf.len;have ay:=bf.yq;have Tm:=al.af;refine⟨by rw[al.cont];simp,by rw[al.first];omega,by omega,λc aj=> ?_,by omega,by grind,by omega,λe he=> ?_,by have:=Nn al.als;omega,?_,Mt al.hm⟩
 ·rw[al.hist]at aj;have:=(D1 bf.oa c (nR aj)).1.1;omega
 ·obtain⟨k,hk,rfl⟩:=e8 he
  grind
 ·exact aq4 ⟨al.Af,λd aa=>⟨(al.td d aa).1,p5 d aa,(al.td d aa).2⟩⟩
theorem UD(bf:dt bz T G){s:Mem}(h:fS G s):hj s:=by
 rcases h with h|q|q
 ·exact adr bf h
 ·have af:=(Ie q.cont).2;rw[q.eq];refine⟨?_,bX _,bX _,(λc aj=>by cases aj),bX _,bX _,bX _,(λc aj=>by cases aj),bX _,bX _,abm⟩
  grind
 ·have ab:=(mK (jZ bf q.af).1).2;rw[<-q.view]at ab;have aR:=(mK bf.oa.1).2;have ax:=bf.len;have ay:=bf.yq;have Tm:=q.af;refine⟨by rw[q.cont];simp,by rw[q.first];omega,by omega,λc aj=> ?_,by omega,by rw[q.a7];exact bX _,by rw[q.a7];exact bX _,(by rw[q.a7];exact λe he=>by cases he),by rw[q.als];simp,by rw[q.dbts];simp,by rw[q.agr];exact abm⟩;rw[q.hist]at aj;have:=(D1 bf.oa c (nR aj)).1.1;omega
theorem ads(bf:dt bz T G){s:Mem}(az:s.first=G.v0)(af:s.hist.length<=G.D.length)(bC:s.hist=G.D.take s.hist.length): (jI s.first s.hist).2=true/\(jI s.first s.hist).1=kU s.first s.hist s.hist.length/\dQ s.first s.hist s.hist.length=eV G s.hist.length:=by
 have ay:=bf.yq;have ax:=bf.len;have:=ac4 bf.oa (by omega) s.hist.length af;rw[<-bC]at this;rw[az];refine⟨this.1,this.2,?_⟩;have e:=IP G.v0 G.D (bP s.hist.length);rw[<-bC]at e;exact e
theorem adt(bf:dt bz T G){s:Mem}(h:fS G s):po s=true:=by
 unfold po;rcases h with⟨al,aa,p5⟩|q|q
 ·obtain⟨fF,eR,IY⟩:=ads bf al.first al.af al.hist
  have kQ:=(jZ bf al.af).1;rw[<-al.view]at IY kQ;have ae:lZ (dQ s.first s.hist s.hist.length) s.view=true:=by rw[IY];exact yk _
  have h1:zU s=true:=by
   unfold zU;have adu:=IK kQ al.jK al.a7;obtain⟨d1,d2,_⟩:=al.a7;have gk:=(rv s.agr).2 ⟨al.hm,al.ia⟩;have arH:=aq5 (s:=s) ⟨al.Af,λd aa=>⟨(al.td d aa).1,p5 d aa,(al.td d aa).2⟩⟩;rw[al.jK,adu,ep d2,d1,yk,gk,ep al.nu,al.jy,yk,aa,al.als,arH];rfl
  rw[al.id,fF,al.cont,ae,h1,al.b7];rfl
 ·have hM:=q.id;have aj:=q.cont;have aH:=q.out;rw[hM];have e:s.status=0:=by rw[q.eq];rfl
  rw[e,aj,aH];have aC:s.first=lY:=by rw[q.eq];rfl
  have aG:s.hist=[]:=by rw[q.eq];rfl
  have bc:s.view=lY:=by rw[q.eq];rfl
  have cn:yj s=true:=by rw[q.eq];rfl
  rw[aC,aG,bc,cn,yk];rfl
 ·obtain⟨fF,eR,IY⟩:=ads bf q.first q.af q.hist
  rw[<-q.view]at IY;have ae:lZ (dQ s.first s.hist s.hist.length) s.view=true:=by rw[IY];exact yk _
  have cn:yj s=true:=by
   unfold yj;rw[q.agr,q.a7,q.als,q.dbts];rfl
  rw[q.id,fF,q.cont,ae,q.b7,q.out,cn];rfl
theorem arI(bf:dt bz T G){s:Mem}(al:gj G s):E3 s:=by
 have ay:=bf.yq;have ax:=bf.len;have af:=al.af;refine⟨by rw[al.first];exact bf.oa.1,by omega,λc aj=> ?_⟩;rw[al.hist]at aj;exact(D1 bf.oa c (nR aj)).1
theorem arJ(bf:dt bz T G){s:Mem}(c5:fS G s){src:Int}(hM:nq src=true)(bu:src≠s.self){f:lj}(az:oc G src f):IT s src f:=by
 have w6:s.status=1->CF G s:=λb3=>by
  rcases c5 with h|q|q
  ·exact h
  ·rw[q.eq]at b3;have b3: (0:Int)=1:=b3;omega
  ·have:=q.b7;omega
 refine⟨UD bf c5,adt bf c5,hM,bu,λb3=> ?_,?_⟩
 ·have al:=(w6 b3).1;exact⟨arI bf al,by rw[al.view];exact(jZ bf al.af).1,al.als⟩
 ·have adv:∀k,k<=G.D.length->0<=(eV G k).num/\(eV G k).num<=1099511627776:=λk hk=>⟨(kF (jZ bf hk).1).1,(kF (jZ bf hk).1).2.1⟩;cases f with
  |ac n=>
   obtain⟨k,hk,rfl⟩:=az;exact adv k hk
  |hD n l=>
   obtain⟨k,hk,rfl,ab⟩:=az;refine⟨adv k hk,Nn ab,λb3 e=> ?_⟩;have al:=(w6 b3).1;have mf:k=s.hist.length:=Ae bf hk al.af (by rw[<-al.view];exact e);rw[mf,<-al.view]at ab;exact ab
  |dX m=>
   obtain⟨k,hk,ab,ur,ix⟩:=az;refine⟨NA (jZ bf hk).1 ab,ix,λb3 e=> ?_⟩;have al:=(w6 b3).1;have sj:=(kB ab).2;have mf:k=s.hist.length:=Ae bf hk al.af (by rw[<-al.view,<-sj];exact e);rw[mf,<-al.view]at ab ur;have gy:=bf.qO _ al.af;rw[<-al.view]at gy;have hC:=(jZ bf al.af).1;rw[<-al.view]at hC;obtain⟨cw,tP⟩:=MF gy al.hm al.ia al.jy al.qP ab (by rw[ix,al.nu];omega) ur;obtain⟨lr,_,rD,_,Up⟩:=zN al.hm al.ia cw;exact⟨cw,bQ (ari _ _) (by decide),λp an=>NA hC (by rw[<-al.jy];exact(Up p an).p2),(Mt lr).dec⟩
  |hi f c=>
   obtain⟨rfl,k,hk,rfl⟩:=az;have ay:=bf.yq;have ax:=bf.len;refine⟨bf.oa.1,by grind,λx ah=>(D1 bf.oa x (nR ah)).1,(ac4 bf.oa (by omega) k hk).1,λb3=> ?_⟩;exact adb (UD bf (Ur bf (w6 b3) hk).1)
  |gD=>exact trivial
theorem arK{c:List Int}(h: (eK s c).2.2≠0): (eK s c).2.1=[]:=by
 unfold eK at h⊢
 grind
theorem arL(bf:dt bz T G){s:Mem}(c5:fS G s)(ay:s.hist.length<T)(dd:mw bz s):CH s:=by
 refine⟨UD bf c5,adt bf c5,λb3=> ?_⟩;have w6:CF G s:=by
  rcases c5 with h|q|q
  ·exact h
  ·rw[q.eq]at b3;have b3: (0:Int)=1:=b3;omega
  ·have:=q.b7;omega
 have al:=w6.1;obtain⟨cU,dh,hR,hL,nk,qG⟩:=qL s;have qI:=Nx bf al;obtain⟨yr,g1,g2,g3,g4⟩:=Ny bf qI (by grind) (dd al.b7);have hC:=(jZ bf al.af).1;rw[<-al.view]at hC;have lR:=IE (b1 s);have DT:=EO g3.hm g3.ia;have arM:=IS (s:=s) al.als;refine⟨adr bf w6,hC,?_,λd aa=> ?_,?_,by grind,⟨bQ (arf _ _) (by decide),λp an=> ?_⟩,Mt g3.hm,⟨bQ (arj _) (by decide),λp an=> ?_⟩,(Mt DT.1).dec,aq2 _ _⟩
 ·have:=Nn (IR (s:={s with a7:=(cR s.a7).1}) (l:=(cR s.a7).2) al.als (cR s.a7).2.length);exact bQ this (by decide)
 ·have:=(al.td d aa).2;omega
 ·have:=Nn arM;omega
 ·by_cases aN: (eK (b1 s).agr (dm (b1 s).view (b1 s).als).1).2.2=0
  ·have:=((SZ qI.hm qI.ia aN).2.2.2.2 p an).p2;exact NA hC (by rw[<-cU,<-qI.jy];omega)
  ·rw[arK aN]at an;cases an
 ·have:=(DT.2.2.2.2 p an).p2;exact NA hC (by rw[<-cU,<-lR.1,<-g3.jy];omega)
end
def wf:lj->Nat
 | .ac _=>2
 | .hD _ _=>2
 | .dX m=>jY m.kind
 | .hi _ _=>1
 | .gD=>2
theorem adw(f:lj):1<=wf f:=by
 cases f with
 |dX m=>exact(adg m.kind).1
 |hi f c=>exact bP 1
 |_=>exact(by decide:1<=2)
def nv(l:List dg):Nat:=(l.map λp=>wf p.bq).sum
theorem w8:nv []=0:=rfl
theorem arN(p:dg)(l:List dg):nv (p::l)=wf p.bq+nv l:=by rfl
theorem IZ(l cO:List dg):nv (l++cO)=nv l+nv cO:=by simp[nv]
theorem I0{α:Type}{g:α->dg}{n:Nat}(h:∀x,wf (g x).bq<=n):∀l:List α,nv (l.map g)<=n*l.length
 | []=>by simp[nv]
 |x::l=>by
  have:=I0 h l;have:=h x;rw[om,arN,lI,Nat.mul_succ];omega
theorem NB{s:Mem}(gX:s.view.mem.length<=16):∀l:List dO,nv (h0 s l)<=16*lD l
 | []=>by simp[h0,nv,lD]
 |p::l=>by
  have aY:=NB gX l;have e:h0 s (p::l)=CB s p++h0 s l:=by rfl
  have h1:nv (CB s p)<=jY p.m.kind* (qK s p).length:=I0 (g:=λid=>dg.mk id (.dX p.m)) (n:=jY p.m.kind) (λ_=>bP _) (qK s p);have ad:jY p.m.kind* (qK s p).length<=jY p.m.kind*16:=JG _ (TI s gX p);rw[e,IZ,adh];omega
def gp(s:Mem):Nat:=(if s.status=1 then gK s.agr else 16)+16* (401-s.hist.length)
theorem arO(s:Mem):gp s<=10800:=by
 have:=Uk s.agr;unfold gp;split<;>omega
theorem arP(v:aK)(x:Int):gK (k9 v x).1<=16:=by
 unfold k9;cases (!b0 v|| !bH v.mem x)
 ·exact bP 16
 ·exact bP 16
theorem UE(s:Mem)(v:aK):gp (eT s v)<=16+16* (401-s.hist.length):=by
 unfold eT gp;have:=arP v s.self
 grind
theorem arQ(h:s.dec=[]):16<=gK s:=by
 unfold gK
 grind
section
variable {bz:aK->Int->Prop} {T:Nat} {G:jg}
theorem adx(bf:dt bz T G){s:Mem}(al:gj G s):gp (en s).1<=gp s:=by
 by_cases aa:s.agr.dec=[]
 ·rw[Fh aa];simp
 ·have ad:=(Ns bf al aa).1;unfold en at ad⊢;cases aN:decide ((s.agr.dec.length:Int)=0)
  ·rw[aN,bs]at ad;rw[bs];cases bt: (!decide ((dJ s.view s.agr.dec).2=0)||decide (400<=(s.hist.length:Int)))
   ·rw[bs];simp only[iK,hG]at bt;have:=UE {s with hist:=s.hist++ [s.agr.dec]} (dJ s.view s.agr.dec).1;simp only[fv,lI,yF]at this;have b5:16* (401-s.hist.length)<=gp s:=by
     unfold gp;omega
    grind
   grind
  simp
theorem UF(bf:dt bz T G){s:Mem}(al:gj G s):gp (fl s)<=gp s:=by
 rw[ta al.b7];have h1:=adx bf al;cases (en s).2
 ·exact h1
 grind
theorem NC{s t:Mem}(h1:t.status=s.status)(ad:t.agr=s.agr)(aN:t.hist=s.hist):gp t=gp s:=by
 unfold gp
 grind
theorem arR(bf:dt bz T G){s:Mem}(h:fS G s):gp (fl s)<=gp s:=by
 rcases h with⟨q,_⟩|q|q
 ·exact UF bf q
 ·rw[ID (cX (by rw[q.eq];show ¬(0:Int)=1;omega))];simp
 ·rw[ID (cX (by have:=q.b7;omega))];simp
theorem ady(s:Mem)(first:aK)(aI:List (List Int))(k:Nat)(h:s.agr.dec=[])(b3:s.status=1):∀j,(ir s first aI k j).agr.dec=[]/\gp (ir s first aI k j)<=gp s
 |0=>⟨h,bP _⟩
 |j+1=>by
  have aY:=ady s first aI k h b3 j
  unfold ir;cases BT:decide ((ir s first aI k j).status=1)
  ·exact aY
  ·simp only[bY];generalize ir s first aI k j=E at *
   have BT:=fi BT;refine⟨?_,?_⟩
   ·unfold eT;cases bH (dQ first aI (k+j+1)).mem E.self
    ·rfl
    ·simp only[bY];unfold k9;cases (!b0 (dQ first aI (k+j+1))|| !bH (dQ first aI (k+j+1)).mem E.self)<;>rfl
   ·have h1:=UE {E with hist:=E.hist++ [aI.getD (k+j) []]} (dQ first aI (k+j+1));have ad:=arQ aY.1;have aN:gp E=gK E.agr+16* (401-E.hist.length):=by
     unfold gp
     grind
    grind
theorem arS{s:Mem}(f:aK)(c:List (List Int))(h:s.agr.dec=[])(b3:s.status=1):gp (lC s f c)<=gp s:=by
 unfold lC;cases (!lZ f s.first||decide ((c.length:Int)<=(s.hist.length:Int)))
 ·rw[bs];cases ih (λi=>hx (s.hist.getD i []) (c.getD i [])) s.hist.length
  ·simp
  ·exact(ady s f c _ h b3 _).2
 simp
theorem arT(bf:dt bz T G){s:Mem}(c5:fS G s){src:Int}(bu:src≠s.self){f:lj}(az:oc G src f):nv (fm s src f).2+gp (fm s src f).1<=wf f+gp s:=by
 have fx:=adw f;have br:∀s' da,nv [uq s' da]=1:=λ_ _=>rfl;unfold fm;rcases c5 with⟨al,aa,p5⟩|q|q
 ·rw[b6 al.b7];have sS:∀ {t:Mem},gj G t->gp t=gp s->gp (fl t)<=gp s:=λh1 ad=>by rw[<-ad];exact UF bf h1
  have arA:nv [uq s src]+gp (fl s)<=wf f+gp s:=by
   grind
  have Lu:∀ {t:Mem},gj G t->gp t=gp s->nv []+gp (fl t)<=wf f+gp s:=λh1 ad=>by
   have:=sS h1 ad;rw[w8];omega
  have kQ:=jZ bf al.af;unfold vG;cases f with
  |hi f c=>
   obtain⟨rfl,m,aA,rfl⟩:=az;obtain⟨fF,eR⟩:=Ur bf ⟨al,aa,p5⟩ aA;have h1:=arR bf fF;have ad:=arS G.v0 (G.D.take m) aa al.b7;simp only[w8];omega
  |gD=>
   cases cL:bH s.view.mem src
   ·have ao:=Uu al src;have h1:=z8 s src;have ad:=sS ao (NC h1.1 h1.2.2.2 h1.2.2.1)
    grind
   grind
  |ac n=>
   simp only[];by_cases h1:n<s.view.num
   ·grind
   ·rw[bo h1];by_cases ad:s.view.num<n
    ·grind
    ·rw[bo ad];cases bH s.view.mem src
     ·grind
     ·exact Lu (Ut al (T9 (by rw[al.view];grind) al.jK al.a7 src)) (NC rfl rfl rfl)
  |hD n l=>
   simp only[];by_cases h1:n<s.view.num
   ·grind
   ·rw[bo h1];by_cases ad:s.view.num<n
    ·grind
    ·rw[bo ad];obtain⟨k,hk,e,ab⟩:=az;have mf:k=s.hist.length:=Ae bf hk al.af (by rw[<-al.view,<-e];omega);rw[mf,<-al.view]at ab;exact Lu (Us al (M5 al.als ab).1) (NC rfl rfl rfl)
  |dX m=>
   obtain⟨k,hk,ab,ur,ix⟩:=az;have sj:=(kB ab).2;simp only[];by_cases h1:m.view<s.view.num
   ·grind
   ·rw[bo h1];by_cases ad:s.view.num<m.view
    ·grind
    ·rw[bo ad];have mf:k=s.hist.length:=Ae bf hk al.af (by rw[<-al.view,<-sj];omega);rw[mf,<-al.view]at ab ur;have gy:=bf.qO _ al.af;rw[<-al.view]at gy;have adz:m.src≠s.agr.self:=by rw[ix,al.nu];omega
     obtain⟨cw,tP⟩:=MF gy al.hm al.ia al.jy al.qP ab adz ur;have vM:=zN al.hm al.ia cw;obtain⟨qc,g1,g2,g3,g4⟩:=IX bf al vM (zP _ _) (.inl λ_ h=>h) (λ_ h=>.inl h) tP;rw[ep cw,bY];have hw:=arl al.hm al.ia (by rw[al.jy];exact ab) adz;have aN:=UF g1 g3;have bt:=NB (s:={s with agr:=(dB s.agr m).1}) (by show s.view.mem.length<=16;rw[al.view];exact(mK kQ.1).2) (dB s.agr m).2.1;have b5:∀a:bj,gp {s with agr:=a}=gK a+16* (401-s.hist.length):=λa=>by
      unfold gp;simp only[];rw[b6 al.b7]
     have eN:gp s=gK s.agr+16* (401-s.hist.length):=by
      simp_all
     have iV:=b5 (dB s.agr m).1;simp only[]at aN bt⊢;show _<=jY m.kind+_;omega
 ·have ae:s.status=0:=by rw[q.eq];rfl
  rw[bo (by omega),b6 ae];cases f with
  |hi f c=>
   have bC:s.hist=[]:=by rw[q.eq];rfl
   have an:gp s=16+16*401:=by
    unfold gp
    grind
   unfold CC Cr;simp only[w8];cases bH (dQ f c c.length).mem s.self
   ·simp only[bs];have:gp {s with cont:=(dQ f c c.length).mem}=gp s:=NC rfl rfl rfl;omega
   ·simp only[bY];have:=UE {s with first:=f,hist:=c,cont:=[]} (dQ f c c.length);omega
  |_=>
   simp only[CC,w8];omega
 ·rw[bo (by have:=q.b7;omega),bo (by have:=q.b7;omega)];simp only[w8];omega
theorem arU(bf:dt bz T G){s:Mem}(c5:fS G s)(ay:s.hist.length<T)(dd:mw bz s):nv (fy s).2+gp (fy s).1<=gp s+10000:=by
 unfold fy;rcases c5 with⟨al,aa,p5⟩|q|q
 ·rw[b6 al.b7];obtain⟨cU,dh,hR,hL,nk,qG⟩:=qL s;have qI:=Nx bf al;have gX:∀ {G:jg} {t:Mem},dt bz T G->gj G t->t.view.mem.length<=16:=λbf al=>by rw[al.view];exact(mK (jZ bf al.af).1).2
  have adA:∀ {t:Mem},t.status=1->t.hist=s.hist->gp t=gK t.agr+16* (401-s.hist.length):=λh1 ad=>by
   unfold gp
   grind
  have AZ:=adA al.b7 rfl;have ND:nv (ut (b1 s))+gK (fb (b1 s)).1.agr<=gK (b1 s).agr+272:=by
   unfold ut fb;cases decide (((b1 s).agr.prop.length:Int)=0)
   ·simp only[bs,w8];omega
   ·cases (dm (b1 s).view (b1 s).als).2
    ·simp only[bs,bY,w8];omega
    ·cases aN:decide ((eK (b1 s).agr (dm (b1 s).view (b1 s).als).1).2.2=0)
     ·simp only[bs,bY,w8];omega
     ·have h1:=aro qI.hm qI.ia (fi aN);have ad:=NB (s:={b1 s with agr:=(eK (b1 s).agr (dm (b1 s).view (b1 s).als).1).1}) (by grind) (eK (b1 s).agr (dm (b1 s).view (b1 s).als).1).2.1
      grind
  have lR:=IE (b1 s);obtain⟨yr,g1,g2,g3,g4⟩:=Ny bf qI (by grind) (dd al.b7);unfold CG pt;rw[hL]at ND;generalize b1 s=S3 at *;generalize ut S3=Uy at *;generalize fb S3=P at *;obtain⟨S4,Cw⟩:=P;simp only[]at lR g3 ND⊢;obtain⟨ff,fB,oM,rE,Cx,T3,Ng⟩:=lR;have gk:=arn g3.hm g3.ia;have adB:=NB (s:={S4 with agr:=(cQ S4.agr).1}) (by grind) (cQ S4.agr).2;obtain⟨Fk,nC,uZ,kW,Uz⟩:=Ux g1 g3;have eu: (iJ S4).1= {S4 with agr:=(cQ S4.agr).1}:=rfl;have iH:te S4=h0 {S4 with agr:=(cQ S4.agr).1} (cQ S4.agr).2:=rfl;have adB:nv (te S4)<=16*lD (cQ S4.agr).2:=adB;have KJ:gp (iJ S4).1=gK (cQ S4.agr).1+16* (401-s.hist.length):=adA (by rw[eu];exact Cx.trans (nk.trans al.b7)) (by grind);generalize te S4=UA at *;generalize(iJ S4).2=II at *;generalize(iJ S4).1=S5 at *;have lb:=adx nC kW;by_cases dp:S5.agr.dec=[]
  ·have ac:nv (kj S5)<=42:=by
    unfold kj;have h1:=I0 (g:=λm=>dg.mk m (.ac S5.view.num)) (n:=2) (λ_=>bP _) (kd (cv S5.view.mem S5.self));have ad: (kd (cv S5.view.mem S5.self)).length<=5:=bQ (B9 _) (zu _ _);have aN:=I0 (g:=λm=>dg.mk m (.hD S5.view.num S5.als)) (n:=2) (λ_=>bP _) (p8 S5);have bt:=M0 S5 (gX nC kW);rw[IZ];cases decide (0<(S5.als.length:Int))
    ·simp only[bs,w8];omega
    grind
   rw[Fh dp,bs,bs,IZ,IZ]
   grind
  ·obtain⟨s1,_⟩:=Ns nC kW dp;rw[s1,bY,bY,IZ]
   grind
 ·have ae:s.status=0:=by rw[q.eq];rfl
  rw[bo (by omega),b6 ae];have h1:=I0 (g:=λm=>dg.mk m .gD) (n:=2) (λ_=>bP _) s.cont;have ad:=(Ie q.cont).2
  grind
 ·rw[bo (by have:=q.b7;omega),bo (by have:=q.b7;omega)];simp only[w8];omega
end
structure dC where
 src:Int
 dst:Int
 bq:lj
def od(f:dC):Cp:=⟨f.src,f.dst,Fg f.bq⟩
def Fl:dC:=⟨0,0,.gD⟩
def lE(Ms:List Mem)(x:Int):Int:=lx (λi=>decide ((Ms.getD i du).self=x)) Ms.length
theorem Ag(Ms:List Mem)(x:Int): (lE Ms x= -1/\∀i (h:i<Ms.length),Ms[i].self≠x)\/∃k,∃h:k<Ms.length,lE Ms x=(k:Int)/\Ms[k].self=x/\∀j (aq:j<k),(Ms[j]'(by omega)).self≠x:=by
 by_cases h:∃k,k<Ms.length/\decide ((Ms.getD k du).self=x)=true/\∀j,j<k->decide ((Ms.getD j du).self=x)=false
 ·obtain⟨k,hk,h1,ad⟩:=h;have aw:∀j (aq:j<Ms.length),Ms.getD j du=Ms[j]:=λj aq=>by grind
  refine .inr ⟨k,hk,wR hk h1 ad,?_,λj aq=> ?_⟩;all_goals grind
 ·have ct:∀i,i<Ms.length->decide ((Ms.getD i du).self=x)=false:=by
   intro i;induction i using Nat.strongRecOn with
   |ind i aY=>
    grind
  refine .inl ⟨tQ ct,λi hi=> ?_⟩
  grind
theorem arV{n:Nat}(h:n<=2000000000):kp ag 82 n:=by
 have e: (aF ag 82).bytes=40:=by rfl
 refine⟨?_,?_⟩
 ·grind
 ·simp only[maxLen];omega
theorem arW(Ms:List Mem)(af:Ms.length<=1000)(au:List Bool)(im:List Cp)(x:Int)(bu:∀i (h:i<Ms.length),Ms[i].self≠x):
  cm Tryz.prog 28 [.cells 32 (ps 1 2 3),.row 55 29 (Ms.map cA),.row 4 1 (au.map hB),.row 82 3 (im.map lB)] [.aV 0 0,i64 x] [true,true,true,true] [.cells 32 (ps 1 2 3),.row 55 29 (Ms.map cA),.row 4 1 (au.map hB),.row 82 3 (im.map lB)] (i64 (-1)):=by
 refine ik (fn:=Tryz.f28) (c:=Tryz.f28.body.getD .skip) aA ay (by rfl) Tryz.func28 (by rfl) (by rfl) (by rfl) (by rfl) (by rfl) ?_;repeat' ((conv=>whnf);first|refine be ?_|fail)
 all_goals(conv=>whnf)
 refine⟨Nat,λi=>⟨[(0,.aV 0 0),(1,i64 x),(5,i64 i)],[.cells 32 (ps 1 2 3),.row 55 29 (Ms.map cA),.row 4 1 (au.map hB),.row 82 3 (im.map lB),.cD [.aV 0 0,.own 1,.own 2,.own 3]]⟩,λi=>i<=Ms.length,λi=>Ms.length-i,[],⟨0,bX _,?_⟩,?_⟩
 ·conv=>whnf
  exact⟨⟨.r,.r,.r,ai⟩,⟨.r,.r,.r,.r,.r,ai⟩,by rfl⟩
 ·intro i hi;by_cases eI:i<Ms.length
  ·have gn:i<(Ms.map cA).length:=by grind
   have cM: (Ms.map cA)[i]?=some (cA Ms[i]):=c3 eI;repeat' ((conv=>whnf);first| (apply bh<;>intro h)|refine⟨i,aO ⟨rfl,gn⟩ ?_⟩|refine⟨cA Ms[i],aO cM ?_⟩|fail)
   all_goals(conv=>whnf)
   ·grind
   ·refine⟨i+1,eI,by grind,?_⟩;conv=>whnf
    exact⟨⟨.r,.r,aX (bW (by omega)),ai⟩,⟨.r,.r,.r,.r,.r,ai⟩,by rfl⟩
   grind
  ·have aa:decide ((i:Int)<((Ms.map cA).length:Int))=false:=by grind
   repeat' ((conv=>whnf);first|refine e3 (by assumption) ?_|fail)
   all_goals(conv=>whnf)
   exact⟨.r,⟨.r,.r,.r,.r,.r,ai⟩,by rfl⟩
theorem adC(Ms:List Mem)(af:Ms.length<=1000)(au:List Bool)(im:List Cp)(x:Int):
  cm Tryz.prog 28 [.cells 32 (ps 1 2 3),.row 55 29 (Ms.map cA),.row 4 1 (au.map hB),.row 82 3 (im.map lB)] [.aV 0 0,i64 x] [true,true,true,true] [.cells 32 (ps 1 2 3),.row 55 29 (Ms.map cA),.row 4 1 (au.map hB),.row 82 3 (im.map lB)] (i64 (lE Ms x)):=by
 rcases Ag Ms x with⟨e,bu⟩| ⟨k,hk,e,ah,bu⟩
 ·rw[e];exact arW Ms af au im x bu
 ·rw[e];exact apL Ms af au im x k hk ah bu
theorem adD(Ms:List Mem)(af:Ms.length<=1000)(au:List Bool)(im:List Cp)(i:Nat)(hi:i<Ms.length)(a6:List ek)(az:im.length+a6.length<=2000000000):
  cm Tryz.prog 30 [.cells 32 (ps 1 2 3),.row 55 29 (Ms.map cA),.row 4 1 (au.map hB),.row 82 3 (im.map lB)] [.aV 0 0,i64 i,.ar 2 (a6.map gi) false] [true,true,true,false] [.cells 32 (ps 1 2 3),.row 55 29 (Ms.map cA),.row 4 1 (au.map hB),.row 82 3 ((im++a6.map (TA Ms[i].self)).map lB)] (.bd []):=by
 refine ik (fn:=Tryz.f30) (c:=Tryz.f30.body.getD .skip) aA ay (by rfl) Tryz.func30 (by rfl) (by rfl) (by rfl) (by rfl) (by rfl) ?_;repeat' ((conv=>whnf);first|refine be ?_|fail)
 all_goals(conv=>whnf)
 refine⟨Nat,λk=>⟨[(0,.aV 0 0),(1,i64 i),(2,.ar 2 (a6.map gi) false),(6,i64 k)],[.cells 32 (ps 1 2 3),.row 55 29 (Ms.map cA),.row 4 1 (au.map hB),.row 82 3 ((im++(a6.take k).map (TA Ms[i].self)).map lB),.cD [.aV 0 0,.own 1,.own 2,.a1]]⟩,λk=>k<=a6.length,λk=>a6.length-k,[],⟨0,bX _,?_⟩,?_⟩
 ·conv=>whnf
  exact⟨⟨.r,.r,.r,.r,ai⟩,⟨.r,.r,.r,cK (by simp),Io,ai⟩,by rfl⟩
 ·intro k hk;have gn:i<(Ms.map cA).length:=by grind
  have cM: (Ms.map cA)[i]?=some (cA Ms[i]):=c3 hi;repeat' ((conv=>whnf);first| (apply bh<;>intro h)|fail)
  all_goals(conv=>whnf)
  ·have ax:k<a6.length:=by grind
   clear h;have arX: (a6.map gi)[k]?=some (gi a6[k]):=c3 ax;repeat' ((conv=>whnf);first|refine cd ?_|refine⟨i,aO ⟨rfl,gn⟩ ?_⟩|refine⟨cA Ms[i],aO cM ?_⟩|refine⟨k,gi a6[k],aO ⟨rfl,arX⟩ ?_⟩|refine aO (arV (by simp<;>omega)) ?_|refine Exists.intro false ?_|fail)
   all_goals(conv=>whnf)
   refine⟨k+1,ax,by grind,?_⟩;conv=>whnf
   refine⟨⟨.r,.r,.r,aX (bW (by omega)),ai⟩,⟨.r,.r,.r,cK ?_,.r,ai⟩,by rfl⟩;rw[e4 ax,ef (l₁:=a6.take k),<-km,ef (l₂:=List.map _ [a6[k]])];rfl
  ·have:k=a6.length:=by
    grind
   subst this;rw[fU];exact⟨.r,⟨.r,.r,.r,.r,.r,ai⟩,by rfl⟩
def l1(x:Int)(p:dg):dC:=⟨x,p.da,p.bq⟩
theorem adE(x:Int)(a6:List dg): (a6.map (l1 x)).map od=(a6.map tc).map (TA x):=by
 rw[oT,oT];rfl
def tf(cb:Int->Int->Bool)(au:List Bool)(X:List Mem×List dC)(f:dC):List Mem×List dC:=
 if lE X.1 f.src<0 then X else if lE X.1 f.dst<0 then X
 else bif au.getD (lE X.1 f.dst).toNat true||cb (lE X.1 f.src) (lE X.1 f.dst)then X
 else(X.1.set (lE X.1 f.dst).toNat (fm (X.1.getD (lE X.1 f.dst).toNat du) f.src f.bq).1,X.2++(fm (X.1.getD (lE X.1 f.dst).toNat du) f.src f.bq).2.map (l1 (fm (X.1.getD (lE X.1 f.dst).toNat du) f.src f.bq).1.self))
def eW(cb:Int->Int->Bool)(au:List Bool)(Ms:List Mem)(aL:List dC):Nat->List Mem×List dC
 |0=>(Ms,[])
 |k+1=>tf cb au (eW cb au Ms aL k) (aL.getD k Fl)
def sk(au:List Bool)(X:List Mem×List dC)(i:Nat):List Mem×List dC:=
 bif au.getD i true then X else(X.1.set i (fy (X.1.getD i du)).1,X.2++(fy (X.1.getD i du)).2.map (l1 (fy (X.1.getD i du)).1.self))
def kH(au:List Bool)(X:List Mem×List dC):Nat->List Mem×List dC
 |0=>X
 |i+1=>sk au (kH au X i) i
def cJ(cb:Int->Int->Bool)(au:List Bool)(Ms:List Mem)(aL:List dC):List Mem×List dC:=kH au (eW cb au Ms aL aL.length) Ms.length
theorem arY(cb:Int->Int->Bool)(au:List Bool)(X:List Mem×List dC)(f:dC): (tf cb au X f).1.length=X.1.length:=by
 unfold tf
 grind
theorem CI(cb:Int->Int->Bool)(au:List Bool)(Ms:List Mem)(aL:List dC):∀k,(eW cb au Ms aL k).1.length=Ms.length
 |0=>rfl
 |k+1=>(arY _ _ _ _).trans (CI cb au Ms aL k)
theorem arZ(au:List Bool)(X:List Mem×List dC)(i:Nat): (sk au X i).1.length=X.1.length:=by
 unfold sk
 grind
theorem I1(au:List Bool)(X:List Mem×List dC):∀i,(kH au X i).1.length=X.1.length
 |0=>rfl
 |i+1=>(arZ _ _ _).trans (I1 au X i)
structure vN(cb:Int->Int->Bool)(au:List Bool)(Ms:List Mem)(aL:List dC):Prop where
 n:Ms.length<=1000
 qw:au.length=Ms.length
 im:aL.length<=1000000000
 awv:∀k (hk:k<aL.length),∀b:Nat,lE (eW cb au Ms aL k).1 aL[k].dst=(b:Int)->b<Ms.length->au.getD b true=false->IT ((eW cb au Ms aL k).1.getD b du) aL[k].src aL[k].bq
 aqH:∀i,i<Ms.length->au.getD i true=false->CH ((kH au (eW cb au Ms aL aL.length) i).1.getD i du)
 len:∀k,k<=aL.length->(eW cb au Ms aL k).2.length<=1000000000
 aww:∀i,i<=Ms.length->(kH au (eW cb au Ms aL aL.length) i).2.length<=1000000000
structure lF(bz:aK->Int->Prop)(T:Nat)(G:jg)(Ms:List Mem)(aL:List dC):Prop where
 g:dt bz T G
 mem:∀i (h:i<Ms.length),fS G Ms[i]
 k3:∀i j (hi:i<Ms.length) (aq:j<Ms.length),i≠j->Ms[i].self≠Ms[j].self
 im:∀f∈aL,oc G f.src f.bq/\f.src≠f.dst/\nq f.src=true
 bq:∀a,(∀i (h:i<Ms.length),Ms[i].self≠a)->∀k,k<=G.D.length->vI G a k
def mT(Ms:List Mem):Nat:=(Ms.map gp).sum
def kI(l:List dC):Nat:=(l.map λf=>wf f.bq).sum
theorem adF(l cO:List dC):kI (l++cO)=kI l+kI cO:=by simp[kI]
theorem NE:∀l:List dC,l.length<=kI l
 | []=>by simp
 |f::l=>by
  have:=NE l;have:=adw f.bq;have e:kI (f::l)=wf f.bq+kI l:=by rfl
  grind
theorem adG(x:Int)(a6:List dg):kI (a6.map (l1 x))=nv a6:=by
 unfold kI nv;rw[oT];rfl
theorem ar0{l:List dC}{k:Nat}(h:k<l.length):kI (l.drop k)=wf l[k].bq+kI (l.drop (k+1)):=by
 rw[vY h];rfl
theorem UG{x:Mem}:∀ {Ms:List Mem} {b:Nat} (h:b<Ms.length),mT (Ms.set b x)+gp Ms[b]=mT Ms+gp x
 | [],b,h=>by grind
 |s::S,0,_=>by
  simp[mT];omega
 |s::S,b+1,h=>by
  have:=UG (x:=x) (Ms:=S) (b:=b) (by grind);simp[mT]at this⊢;omega
theorem adH:∀Ms:List Mem,mT Ms<=10800*Ms.length
 | []=>by simp[mT]
 |s::S=>by
  have:=adH S;have:=arO s;have e:mT (s::S)=gp s+mT S:=by rfl
  grind
theorem I2{l cO:List Mem}{i:Nat}{h:i<l.length}{bp:i<cO.length}(e:l[i]?=cO[i]?):l[i]=cO[i]:=by
 grind
section
variable {bz:aK->Int->Prop} {T:Nat} {G bk:jg} {Ms:List Mem} {aL:List dC}
theorem UH{uu:List dC}(h:lF bz T G Ms aL)(ae:∀f∈uu,f∈aL):lF bz T G Ms uu:=⟨h.g,h.mem,h.k3,λf az=>h.im f (ae f az),h.bq⟩
theorem adI(h:lF bz T G Ms aL){b:Nat}(ac:b<Ms.length){s':Mem}(ae:s'.self=Ms[b].self)(dI:dt bz T bk)(w7:Go Ms[b].self G bk)(c5:fS bk s'){a6:List dg}(an:∀p∈a6,qb bk Ms[b].self p):
  lF bz T bk (Ms.set b s') (aL++a6.map (l1 s'.self)):=by
 have ie:∀i (hi:i<(Ms.set b s').length),(Ms.set b s')[i].self=(Ms[i]'(by grind)).self:=λi hi=>by
  grind
 refine⟨dI,λi hi=> ?_,λi j hi aq fW=> ?_,λf az=> ?_,λa bb k hk=> ?_⟩
 ·rw[List.getElem_set];by_cases e:b=i
  ·grind
  ·rw[bo e];have df:i<Ms.length:=by grind
   exact aru w7 (h.k3 i b df ac (λx=>e x.symm)) (h.mem i df)
 ·rw[ie,ie];exact h.k3 i j _ _ fW
 ·rcases eo.1 az with az|az
  ·obtain⟨h1,ad,aN⟩:=h.im f az;exact⟨adi w7 h1,ad,aN⟩
  ·obtain⟨p,yZ,rfl⟩:=fT.1 az;obtain⟨h1,ad⟩:=an p yZ;have hM:nq Ms[b].self=true:=by
    rcases h.mem b ac with⟨q,_⟩|q|q
    ·exact q.id
    ·exact q.id
    ·exact q.id
   refine⟨?_,?_,?_⟩
   ·show oc bk s'.self p.bq
    grind
   ·show s'.self≠p.da;omega
   ·show nq s'.self=true
    grind
 ·have H0:∀i (hi:i<Ms.length),Ms[i].self≠a:=λi hi=>by
   grind
  by_cases hp:k<=G.D.length
  ·exact Nr w7 (λe=>H0 b ac e.symm) hp (h.bq a H0 k hp)
  ·exact w7.new k (by omega) hk a (λe=>H0 b ac e.symm)
theorem adJ(cb:Int->Int->Bool)(au:List Bool){X:List Mem×List dC}(h:lF bz T G X.1 (aL++X.2)){f:dC}(az:f∈aL):
  (∀b:Nat,lE X.1 f.dst=(b:Int)->b<X.1.length->IT (X.1.getD b du) f.src f.bq)/\
  (∃bk,bk.v0=G.v0/\lF bz T bk (tf cb au X f).1 (aL++(tf cb au X f).2))/\mT (tf cb au X f).1+kI (tf cb au X f).2<=mT X.1+kI X.2+wf f.bq:=by
 obtain⟨f1,f2,f3⟩:=h.im f (C6 _ az);have ie:∀ {b:Nat} (ac:b<X.1.length),lE X.1 f.dst=(b:Int)->X.1[b].self=f.dst:=λ{b} ac e=>by
  rcases Ag X.1 f.dst with⟨aC,_⟩| ⟨k,hk,aC,aG,_⟩;all_goals grind
 have rW: (∃bk,bk.v0=G.v0/\lF bz T bk X.1 (aL++X.2))/\mT X.1+kI X.2<=mT X.1+kI X.2+wf f.bq:=⟨⟨G,rfl,h⟩,by omega⟩
 refine⟨λb e ac=> ?_,?_⟩
 ·have aw:X.1.getD b du=X.1[b]:=by grind
  rw[aw];exact arJ h.g (h.mem b ac) f3 (by grind) f1
 ·unfold tf;by_cases h1:lE X.1 f.src<0
  ·grind
  ·rw[bo h1];by_cases ad:lE X.1 f.dst<0
   ·grind
   ·rw[bo ad];cases au.getD (lE X.1 f.dst).toNat true||cb (lE X.1 f.src) (lE X.1 f.dst)
    ·obtain⟨b,ac,e⟩:∃b,b<X.1.length/\lE X.1 f.dst=(b:Int):=by
      rcases Ag X.1 f.dst with⟨aC,_⟩| ⟨k,hk,aC,_⟩;all_goals grind
     have aw:X.1.getD b du=X.1[b]:=by grind
     rw[e,lH,aw,bs];have bu:f.src≠X.1[b].self:=by grind
     obtain⟨dE,bk,dL,eY,iI,j0⟩:=Uv h.g (h.mem b ac) bu f1;have hw:=arT h.g (h.mem b ac) bu f1;have b3:=adI h ac dE dL eY iI j0;refine⟨⟨bk,eY.v0,?_⟩,?_⟩
     ·grind
     ·have oI:=UG (x:=(fm X.1[b] f.src f.bq).1) ac;simp only[];rw[adF,adG];omega
    grind
theorem I3(cb:Int->Int->Bool)(au:List Bool)(h:lF bz T G Ms aL):∀k,k<=aL.length->(∃bk,bk.v0=G.v0/\lF bz T bk (eW cb au Ms aL k).1 (aL++(eW cb au Ms aL k).2))/\mT (eW cb au Ms aL k).1+kI (eW cb au Ms aL k).2+kI (aL.drop k)<=mT Ms+kI aL
 |0,_=>⟨⟨G,rfl,by simpa[eW]using h⟩,by simp[eW,kI]⟩
 |k+1,hk=>by
  obtain⟨⟨bk,e,h1⟩,ad⟩:=I3 cb au h k (by omega);have ax:k<aL.length:=by omega
  have aw:aL.getD k Fl=aL[k]:=by grind
  obtain⟨_,⟨CD,e',aN⟩,bt⟩:=adJ cb au h1 (eM ax);have aa:=ar0 ax;unfold eW
  grind
theorem UI(h:dt bz T G)(ay:T+1<=399):dt bz (T+1) G:=⟨h.oa,h.num,by have:=h.len;omega,ay,λe=>by have:=h.len;omega,h.qO,h.dec,h.Ac⟩
theorem UJ{s:Mem}(h:fS G s):s.hist.length<=G.D.length:=by
 rcases h with⟨q,_⟩|q|q
 ·exact q.af
 ·rw[q.eq];exact bX _
 ·exact q.af
theorem adK(au:List Bool){X:List Mem×List dC}(h:lF bz T G X.1 X.2){i:Nat}(hi:i<X.1.length)(bC:X.1[i].hist.length<T)(dd:au.getD i true=false->mw bz X.1[i]):
  (au.getD i true=false->CH (X.1.getD i du))/\(∃bk,bk.v0=G.v0/\lF bz T bk (sk au X i).1 (sk au X i).2)/\mT (sk au X i).1+kI (sk au X i).2<=mT X.1+kI X.2+10000/\∀j,j≠i->(sk au X i).1[j]?=X.1[j]?:=by
 have aw:X.1.getD i du=X.1[i]:=by grind
 refine⟨λaa=>by rw[aw];exact arL h.g (h.mem i hi) bC (dd aa),?_⟩;unfold sk;cases Fm:au.getD i true
 ·rw[aw];simp only[bs];obtain⟨dE,bk,dL,eY,iI,j0⟩:=Nz h.g (h.mem i hi) bC (dd Fm);have hw:=arU h.g (h.mem i hi) bC (dd Fm);have b3:=adI h hi dE dL eY iI j0;have oI:=UG (x:=(fy X.1[i]).1) hi;refine⟨⟨bk,eY.v0,b3⟩,?_,λj bu=> ?_⟩
  ·rw[adF,adG];omega
  grind
 grind
theorem UK(au:List Bool){X:List Mem×List dC}(h:lF bz T G X.1 X.2)(bC:∀i (hi:i<X.1.length),X.1[i].hist.length<T)(dd:∀i (hi:i<X.1.length),au.getD i true=false->mw bz X.1[i]):∀i,i<=X.1.length->(∃bk,bk.v0=G.v0/\lF bz T bk (kH au X i).1 (kH au X i).2)/\mT (kH au X i).1+kI (kH au X i).2<=mT X.1+kI X.2+10000*i/\∀j,i<=j->(kH au X i).1[j]?=X.1[j]?
 |0,_=>⟨⟨G,rfl,h⟩,by simp[kH],λ_ _=>rfl⟩
 |i+1,hi=>by
  obtain⟨⟨bk,e,h1⟩,ad,aN⟩:=UK au h bC dd i (by omega);have eI:i<(kH au X i).1.length:=by rw[I1];omega
  have ah: (kH au X i).1[i]=X.1[i]:=I2 (aN i (bP _));obtain⟨_,⟨CD,e',bt⟩,b5,eN⟩:=adK au h1 eI (by grind) (by grind);unfold kH
  grind
theorem ar1(cb:Int->Int->Bool)(au:List Bool)(Bt:au.length=Ms.length)(aW:Ms.length<=8)(h:lF bz T G Ms aL)(ay:T+1<=399)(hw:mT Ms+kI aL<=10800*Ms.length+80000*T)(dd:∀i (hi:i<(eW cb au Ms aL aL.length).1.length),au.getD i true=false->mw bz (eW cb au Ms aL aL.length).1[i]):
  vN cb au Ms aL/\(∃bk,bk.v0=G.v0/\lF bz (T+1) bk (cJ cb au Ms aL).1 (cJ cb au Ms aL).2)/\(cJ cb au Ms aL).1.length=Ms.length/\mT (cJ cb au Ms aL).1+kI (cJ cb au Ms aL).2<=10800*Ms.length+80000* (T+1):=by
 have al:=I3 cb au h;obtain⟨⟨qc,aC,h1⟩,ad⟩:=al aL.length (bP _);have hg:lF bz (T+1) qc (eW cb au Ms aL aL.length).1 (eW cb au Ms aL aL.length).2:=by
  have:=UH h1 (uu:=(eW cb au Ms aL aL.length).2) (λf az=>mW _ az);exact⟨UI this.g ay,this.mem,this.k3,this.im,this.bq⟩
 have ic:=CI cb au Ms aL aL.length;have bC:∀i (hi:i<(eW cb au Ms aL aL.length).1.length),(eW cb au Ms aL aL.length).1[i].hist.length<T+1:=λi hi=>by
  have:=UJ (h1.mem i hi);have:=h1.g.len;omega
 have cr:=UK au hg bC dd;have nl:=NE aL;refine⟨⟨by omega,Bt,by omega,λk hk b e ac _=> ?_,λi hi Fm=> ?_,λk hk=> ?_,λi hi=> ?_⟩,?_,?_,?_⟩
 ·obtain⟨⟨bk,_,aN⟩,_⟩:=al k (by omega);exact(adJ cb au aN (eM hk)).1 b e (by rw[CI];exact ac)
 ·have Es:i<(eW cb au Ms aL aL.length).1.length:=by omega
  obtain⟨⟨bk,_,aN⟩,_,bt⟩:=cr i (by omega);have eI:i<(kH au (eW cb au Ms aL aL.length) i).1.length:=by grind
  exact(adK au aN eI (by rw[I2 (bt i (bP _))];exact bC i Es) (by rw[I2 (bt i (bP _))];exact dd i Es)).1 Fm
 ·have:=(al k hk).2;have:=NE (eW cb au Ms aL k).2;omega
 ·have:=(cr i (by omega)).2.1;have:=NE (kH au (eW cb au Ms aL aL.length) i).2;omega
 ·obtain⟨⟨bk,e',aN⟩,_⟩:=cr Ms.length (by omega);exact⟨bk,e'.trans aC,aN⟩
 ·exact(I1 _ _ _).trans ic
 ·have:=(cr Ms.length (by omega)).2.1;unfold cJ;omega
end
theorem ar2(s:Mem)(h:Nd s)(an:decide (((b1 s).agr.prop.length:Int)=0)=true)(j6: (dm (b1 s).view (b1 s).als).2=true):cm Tryz.prog 56 (fh s []) [.aV 0 0] [true,false,false,false] (fh (pt s).1 (pt s).2) (.bd []):=by
 obtain⟨dS,hC,IF,TY,TZ,T0,⟨ez,T1⟩,IG,⟨tH,Cq⟩,jf,acT⟩:=h;have gX:=mK hC;have bu:s.view.mem≠ []:=λe=>by have:=(Ie (kF hC).2.2).1;rw[e]at this;simp at this
 obtain⟨t1,t2,t3,t4,t5,t6⟩:=qL s;have aC:=RA s.a7 (bQ dS.s7 (by decide)) (bQ dS.bN (by decide)) dS.MN;have sM:=w5 {s with a7:=(cR s.a7).1} (cR s.a7).2;have Cv:=sM (cR s.a7).2.length;have mO:jX {s with a7:=(cR s.a7).1} (cR s.a7).2 0= {s with a7:=(cR s.a7).1}:=rfl;have u4:∀i,jX {s with a7:=(cR s.a7).1} (cR s.a7).2 (i+1)=mS (jX {s with a7:=(cR s.a7).1} (cR s.a7).2 i) ((cR s.a7).2.getD i gf):=λ_=>rfl;have Y7:=acQ s.a7;have bc:=acv (mv {s with a7:=(cR s.a7).1} (cR s.a7).2) (by unfold mv;rw[Cv.1];exact dS.view) IF (by unfold mv;rw[Cv.2.2.2.1];exact dS.dbts) (by unfold mv;rw[Cv.2.2.2.1];exact TY) [];have E9:mv {s with a7:=(cR s.a7).1} (cR s.a7).2=jX {s with a7:=(cR s.a7).1} (cR s.a7).2 (cR s.a7).2.length:=rfl;change cm _ _ _ _ _ (fh (b1 s) []) _ at bc;rw[E9]at bc;have IH:pt s=bif (en (iJ (fb (b1 s)).1).1).2 then((en (iJ (fb (b1 s)).1).1).1,(fb (b1 s)).2++(iJ (fb (b1 s)).1).2)
  else((en (iJ (fb (b1 s)).1).1).1,(fb (b1 s)).2++(iJ (fb (b1 s)).1).2++Cu (en (iJ (fb (b1 s)).1).1).1):=rfl
 rw[IH];clear IH E9 IF;have aqK:=dS.bN;generalize b1 s=S3 at *;generalize jX {s with a7:=(cR s.a7).1} (cR s.a7).2=X at *;generalize cR s.a7=oN at *;have lR:=IE S3;have T2:=acR S3 ez (by rw[t1];exact gX.2);generalize dd:fb S3=P at *;obtain⟨S4,Cw⟩:=P;simp only[]at lR T2 IG tH Cq jf;obtain⟨ff,fB,oM,rE,Cx,T3,Ng⟩:=lR;have v4:S4.view=s.view:=ff.trans t1;have iH:=aa2 S4.agr IG;have gk:iJ S4=({S4 with agr:=(cQ S4.agr).1},jL {S4 with agr:=(cQ S4.agr).1} (cQ S4.agr).2):=rfl;have aqL:=Iw {S4 with agr:=(cQ S4.agr).1} (by show S4.view.mem.length<=16;rw[v4];exact gX.2) (cQ S4.agr).2;have mt:=M1 {S4 with agr:=(cQ S4.agr).1} (by show S4.view.mem.length<=16;rw[v4];exact gX.2) (by show S4.view.mem≠ [];rw[v4];exact bu) (cQ S4.agr).2 tH Cq Cw (by omega);have pq:=TN {S4 with agr:=(cQ S4.agr).1} (by show S4.view.mem.length<=1000;rw[v4];omega) (by show S4.hist.length<=1000;rw[oM,t3];exact dS.hist) jf (Cw++jL {S4 with agr:=(cQ S4.agr).1} (cQ S4.agr).2);have u7:=λac=>TU (s:={S4 with agr:=(cQ S4.agr).1}) ac;simp only[gk];simp only[gk]at mt pq u7;clear gk;generalize jL {S4 with agr:=(cQ S4.agr).1} (cQ S4.agr).2=II at *;generalize en {S4 with agr:=(cQ S4.agr).1}=W at *;generalize cQ S4.agr=aqM at *;have Nh:fb S3=bif decide ((eK S3.agr (dm S3.view S3.als).1).2.2=0)then({S3 with agr:=(eK S3.agr (dm S3.view S3.als).1).1},jL {S3 with agr:=(eK S3.agr (dm S3.view S3.als).1).1} (eK S3.agr (dm S3.view S3.als).1).2.1)else(S3,[]):=by rw[fb,an,j6];rfl
 rw[Nh]at dd;clear Nh;have yZ:decide (((S3.agr.prop.map aM).length:Int)=0)=true:=by rw[bF];exact an
 have nm:=Tf S3.view (by rw[t1];omega) S3.als (by omega);have pd:=acT;have n0:=amf S3.agr (by rw[t4];exact dS.agr) (dm S3.view S3.als).1 pd;have eu:=M1 {S3 with agr:=(eK S3.agr (dm S3.view S3.als).1).1} (by show S3.view.mem.length<=16;rw[t1];exact gX.2) (by show S3.view.mem≠ [];rw[t1];exact bu) (eK S3.agr (dm S3.view S3.als).1).2.1 ez T1 [] (by simp);rw[nS]at eu;generalize jL {S3 with agr:=(eK S3.agr (dm S3.view S3.als).1).1} (eK S3.agr (dm S3.view S3.als).1).2.1=Ah at *;generalize eK S3.agr (dm S3.view S3.als).1=uv at *;generalize dm S3.view S3.als=aqN at *;clear ez T1;refine mj Tryz.func56 ?_;repeat' ((conv=>whnf);first|refine aS aC ?_|fail)
 all_goals(conv=>whnf)
 refine⟨Nat,λi=>⟨[(0,.aV 0 0),(34,.ar 4 (oN.2.map eA) false),(35,i64 oN.2.length),(36,i64 i)],[.cells 116 (iS (X i) (.own 1) (.own 2) (.own 3)),.row 22 1 (((X i)).hist.map c8),.row 150 2 (((X i)).dbts.map dR),.row 121 2 ((([]:List ek)).map gi),.cD [.aV 0 0,.own 1,.own 2,.own 3],.bm]⟩,λi=>i<=oN.2.length,λi=>oN.2.length-i,[],⟨0,bX _,?_⟩,?_⟩
 ·conv=>whnf
  exact⟨⟨.r,.r,aX (by simp),.r,ai⟩,⟨by show hr _ (.cells _ (iS (X 0) (.own 1) (.own 2) (.own 3)));rw[mO];exact .refl,by show hr _ (.row _ _ ((X 0).hist.map c8));rw[mO];exact .refl,by show hr _ (.row _ _ ((X 0).dbts.map dR));rw[mO];exact .refl,.r,.r,.bm,ai⟩,by rfl⟩
 ·intro i hi;obtain⟨cP,_,_,_,_,_,_,_,_,a2⟩:=sM i;simp only[]at cP a2;repeat' ((conv=>whnf);first| (apply bh<;>intro h)|fail)
  ·have ax:i<oN.2.length:=by simpa using h
   clear h;have aG:=TE (X i) (by rw[cP];exact dS.view) (by have:=dS.als;omega) [] oN.2[i];have aw:oN.2.getD i gf=oN.2[i]:=by simp[ax]
   have oB:=u4 i;rw[aw]at oB;rw[<-oB]at aG;repeat' ((conv=>whnf);first|refine⟨_,_,aO ⟨rfl,c3 ax⟩ ?_⟩|refine .inr ⟨[0,1,2,3],bS aG ?_⟩|fail)
   all_goals(conv=>whnf)
   refine⟨i+1,ax,by simp only[];omega,?_⟩;conv=>whnf
   exact⟨⟨.r,.r,.r,aX (bW (by omega)),ai⟩,⟨.r,.r,.r,.r,.r,.bm,ai⟩,by rfl⟩
  ·have:i=oN.2.length:=by
    simp at h;omega
   subst this;clear h;cases he:decide (uv.2.2=0);all_goals rw[he]at dd
   all_goals cases dd
   all_goals repeat' ((conv=>whnf);first|refine fZ (by assumption) ?_|refine e3 (by assumption) ?_| (apply bh<;>intro h)|refine cd ?_|refine .inr ⟨[0,1,2,3],bS bc ?_⟩|refine aS nm ?_|refine aS n0 ?_|refine .inr ⟨[0,1,2,3],bS eu ?_⟩|refine aS iH ?_|refine .inr ⟨[0,1,2,3],bS mt ?_⟩|refine .inr ⟨[0,1,2,3],bS pq ?_⟩|fail)
   all_goals(conv=>whnf)
   all_goals rw[h]
   all_goals first
    | (refine⟨[],?_⟩<;> (conv=>whnf)<;>exact⟨.r,⟨.r,.r,.r,.r,hl ⟨.r,.a1,.a1,.a1,ai⟩,ai⟩,by rfl⟩)
    |skip
   all_goals
    obtain⟨eE,gW,_,tb,vF,Ni,_⟩:=u7 h;have eE:W.1.view=s.view:=eE.trans v4;generalize W.1=S6 at *;clear aC iH mt pq sM mO u4;obtain⟨lr,ma,rD⟩:=kF hC;have iP: (bB S6.view.num.toNat).length<=10:=hN 9 _;have hu:=Cd (n:=S6.view.num) (by rw[eE];exact lr) (by rw[eE];exact ma);have se:=acN [] (by simp) S6.view.num.toNat (by rw[eE];omega);rw[nS]at se;have E0:=To S6.view.mem (by rw[eE];exact bQ gX.2 (by decide)) S6.self;have mJ:=zu S6.view.mem S6.self;have pd: (kd (cv S6.view.mem S6.self)).length<=5:=bQ (B9 _) mJ;have aj:kd (cv S6.view.mem S6.self)=Go.Lib.compact (pV (cv S6.view.mem S6.self)):=rfl;have BL:Cu S6=(kd (cv S6.view.mem S6.self)).map (kg S6.view.num)++bif decide (0<(S6.als.length:Int))then(p8 S6).map (Ct S6)else []:=rfl;generalize cv S6.view.mem S6.self=O at *;have Cn:=MG O (pV O) (w1 _) (EU _) (by omega);have fQ:=MH (pV O) (by rw[(w1 _).length_eq];omega);rw[<-aj]at fQ;rw[BL];clear BL aj;generalize kd O=C at *;generalize hK: (_++II)=Q at *;have aqO:Q.length<=40000:=by rw[<-hK,fv]; (try simp only[yF]at *);omega
    repeat' ((conv=>whnf);first|refine cd ?_|refine .inr ⟨[],[],_,[],_,_,se,by rfl,ai,⟨.av,aX hu,ai⟩,?_⟩|refine .inr ⟨[],bS E0 ?_⟩|refine .inr ⟨[10],bS Cn ?_⟩|refine .inr ⟨[10],bS fQ ?_⟩|fail)
    all_goals(conv=>whnf)
    have T4:=λ(P:List ek) (dd:P.length<=100000) (da:Int)=>Nf S6 P dd da 1 (by omega) (by omega) (bB S6.view.num.toNat) (by omega);first
     | (refine⟨Nat,λi=>⟨[(0,.aV 0 0),(13,.own 5),(132,.own 6),(133,i64 C.length),(134,i64 i)],[.cells 116 (iS S6 (.own 1) (.own 2) (.own 3)),.row 22 1 ((S6).hist.map c8),.row 150 2 ((S6).dbts.map dR),.row 121 2 ((Q++(C.take i).map (kg S6.view.num)).map gi),.cD [.aV 0 0,.a1,.a1,.a1],.row 5 1 ((bB S6.view.num.toNat).map bE),.row 3 1 (C.map aM)]⟩,λi=>i<=C.length,λi=>C.length-i,[.fa 5 7,.fa 6 8],⟨0,bX _,?_⟩,?_⟩
        focus ((conv=>whnf)<;>exact⟨⟨.r,.r,.r,aX (by simp),.r,ai⟩,⟨.r,.r,.r,cK (by simp[<-hK]),hl ⟨.r,.a1,.a1,.a1,ai⟩,.r,.r,ai⟩,by rfl⟩))
     | (refine⟨Nat,λi=>⟨[(0,.aV 0 0),(13,.own 5),(132,.own 6),(133,i64 C.length),(134,i64 i)],[.cells 116 (iS S6 (.own 1) (.own 2) (.own 3)),.row 22 1 ((S6).hist.map c8),.row 150 2 ((S6).dbts.map dR),.row 121 2 ((Q++(C.take i).map (kg S6.view.num)).map gi),.cD [.aV 0 0,.a1,.a1,.a1],.row 5 1 ((bB S6.view.num.toNat).map bE),.row 3 1 (C.map aM)]⟩,λi=>i<=C.length,λi=>C.length-i,[.fa 5 8,.fa 6 9],⟨0,bX _,?_⟩,?_⟩
        focus ((conv=>whnf)<;>exact⟨⟨.r,.r,.r,aX (by simp),.r,ai⟩,⟨.r,.r,.r,cK (by simp[<-hK]),hl ⟨.r,.a1,.a1,.a1,ai⟩,.r,.r,ai⟩,by rfl⟩))
     | (refine⟨Nat,λi=>⟨[(0,.aV 0 0),(13,.own 5),(132,.own 6),(133,i64 C.length),(134,i64 i)],[.cells 116 (iS S6 (.own 1) (.own 2) (.own 3)),.row 22 1 ((S6).hist.map c8),.row 150 2 ((S6).dbts.map dR),.row 121 2 ((Q++(C.take i).map (kg S6.view.num)).map gi),.cD [.aV 0 0,.a1,.a1,.a1],.row 5 1 ((bB S6.view.num.toNat).map bE),.row 3 1 (C.map aM)]⟩,λi=>i<=C.length,λi=>C.length-i,[.fa 5 9,.fa 6 10],⟨0,bX _,?_⟩,?_⟩
        focus ((conv=>whnf)<;>exact⟨⟨.r,.r,.r,aX (by simp),.r,ai⟩,⟨.r,.r,.r,cK (by simp[<-hK]),hl ⟨.r,.a1,.a1,.a1,ai⟩,.r,.r,ai⟩,by rfl⟩))
     | (refine⟨Nat,λi=>⟨[(0,.aV 0 0),(13,.own 5),(132,.own 6),(133,i64 C.length),(134,i64 i)],[.cells 116 (iS S6 (.own 1) (.own 2) (.own 3)),.row 22 1 ((S6).hist.map c8),.row 150 2 ((S6).dbts.map dR),.row 121 2 ((Q++(C.take i).map (kg S6.view.num)).map gi),.cD [.aV 0 0,.a1,.a1,.a1],.row 5 1 ((bB S6.view.num.toNat).map bE),.row 3 1 (C.map aM)]⟩,λi=>i<=C.length,λi=>C.length-i,[.fa 5 10,.fa 6 11],⟨0,bX _,?_⟩,?_⟩
        focus ((conv=>whnf)<;>exact⟨⟨.r,.r,.r,aX (by simp),.r,ai⟩,⟨.r,.r,.r,cK (by simp[<-hK]),hl ⟨.r,.a1,.a1,.a1,ai⟩,.r,.r,ai⟩,by rfl⟩))
    ·intro i hi;repeat' ((conv=>whnf);first| (apply bh<;>intro h)|fail)
     ·have ax:i<C.length:=by simpa using h
      clear h;have jv:=T4 (Q++(C.take i).map (kg S6.view.num)) (by rw[fv,bF,kZ];omega) C[i];have hy:Q++(C.take i).map (kg S6.view.num)++ [ek.mk C[i] (ew 1 (bB S6.view.num.toNat))]=Q++(C.take (i+1)).map (kg S6.view.num):=by
       rw[e4 ax,ef,km];rfl
      rw[hy]at jv;have gn:i<(C.map aM).length:=by rw[bF];exact ax
      have cM: (C.map aM)[i]?=some (aM C[i]):=c3 ax;repeat' ((conv=>whnf);first|refine⟨i,aO ⟨rfl,gn⟩ ?_⟩|refine⟨aM C[i],aO cM ?_⟩|refine .inr ⟨[0,1,2,3,5],bS jv ?_⟩|fail)
      all_goals(conv=>whnf)
      refine⟨i+1,ax,by simp only[];omega,?_⟩;conv=>whnf
      exact⟨⟨.r,.r,.r,.r,aX (bW (by omega)),ai⟩,⟨.r,.r,.r,.r,.r,.r,.r,ai⟩,by rfl⟩
     ·rename_i aR;have:i=C.length:=by
       simp at aR;omega
      subst this;clear aR;rw[fU];rw[bF]at h;rw[h];have T5:dF S6.view S6.als=true:=by rw[gW,rE,eE,<-t1];exact T0
      have jj:S6.als.length<=6000:=by rw[gW,rE];exact TZ
      have pN:=TT (v:=S6.view) (l:=S6.als) S6.als.length;have IJ:=Z7 S6.view (by rw[eE];exact bQ gX.2 (by decide)) S6.als (by omega);rw[acI T5]at IJ;have T6:=TF S6 (by rw[eE];omega) (by rw[eE];exact bu) (Q++C.map (kg S6.view.num));have T7: ((bB S6.view.num.toNat).map bE).length+((fD S6.als S6.als.length).map bE).length<=2000000:=by rw[bF,bF];omega
      have lp: (bB S6.view.num.toNat++fD S6.als S6.als.length).length<=800000:=by rw[fv];omega
      have EL: (bB S6.view.num.toNat).map bE++(fD S6.als S6.als.length).map bE=(bB S6.view.num.toNat++fD S6.als S6.als.length).map bE:=by rw[ef]
      have Aa:=λ(P:List ek) (dd:P.length<=100000) (da:Int)=>Nf S6 P dd da 2 (by omega) (by omega) (bB S6.view.num.toNat++fD S6.als S6.als.length) lp;have T8:∀m:Int,ek.mk m (ew 2 (bB S6.view.num.toNat++fD S6.als S6.als.length))=Ct S6 m:=λ_=>rfl;have aqP: (p8 S6).length<=16:=M0 S6 (by rw[eE];exact gX.2);simp only[T8]at Aa;have aqQ: (Q++C.map (kg S6.view.num)).length<=50000:=by rw[fv,bF];omega
      rw[<-km];generalize Q++C.map (kg S6.view.num)=yp at *;generalize bB S6.view.num.toNat++fD S6.als S6.als.length=B2 at *;generalize Ct S6=F at *;generalize p8 S6=Z at *;repeat' ((conv=>whnf);first|refine cd ?_|refine aS IJ ?_|refine aO (r2 T7) ?_|refine .inr ⟨[0,1,2,3],bS T6 ?_⟩|fail)
      all_goals(conv=>whnf)
      refine⟨Nat,λi=>⟨[(0,.aV 0 0),(17,.own 5),(164,.ar 1 (Z.map aM) false),(165,i64 Z.length),(166,i64 i)],[.cells 116 (iS S6 (.own 1) (.own 2) (.own 3)),.row 22 1 ((S6).hist.map c8),.row 150 2 ((S6).dbts.map dR),.row 121 2 ((yp++(Z.take i).map F).map gi),.cD [.aV 0 0,.a1,.a1,.a1],.row 5 1 (B2.map bE)]⟩,λi=>i<=Z.length,λi=>Z.length-i,[],⟨0,bX _,?_⟩,?_⟩
      ·conv=>whnf
       exact⟨⟨.r,.r,.r,aX (by simp),.r,ai⟩,⟨.r,.r,.r,cK (by simp),hl ⟨.r,.a1,.a1,.a1,ai⟩,cK EL,ai⟩,by rfl⟩
      ·intro i hi;repeat' ((conv=>whnf);first| (apply bh<;>intro h)|fail)
       ·have ax:i<Z.length:=by simpa using h
        clear h;have jv:=Aa (yp++(Z.take i).map F) (by rw[fv,bF,kZ];omega) Z[i];have hy:yp++(Z.take i).map F++ [F Z[i]]=yp++(Z.take (i+1)).map F:=by
         rw[e4 ax,ef,km];rfl
        rw[hy]at jv;repeat' ((conv=>whnf);first|refine⟨_,_,aO ⟨rfl,c3 ax⟩ ?_⟩|refine .inr ⟨[0,1,2,3,5],bS jv ?_⟩|fail)
        all_goals(conv=>whnf)
        refine⟨i+1,ax,by simp only[];omega,?_⟩;conv=>whnf
        exact⟨⟨.r,.r,.r,.r,aX (bW (by omega)),ai⟩,⟨.r,.r,.r,.r,.r,.r,ai⟩,by rfl⟩
       ·have:i=Z.length:=by
         simp at h;omega
        subst this;rw[fU];repeat' ((conv=>whnf);first|refine be ?_|fail)
        all_goals(conv=>whnf)
        refine⟨[],?_⟩;conv=>whnf
        exact⟨.r,⟨.r,.r,.r,.r,.r,ai⟩,by rfl⟩
     ·rename_i aR;have:i=C.length:=by
       simp at aR;omega
      subst this;clear aR;rw[fU];rw[bF]at h;rw[h];conv=>whnf
      refine⟨[],?_⟩;conv=>whnf
      exact⟨.r,⟨.r,.r,.r,cK (by simp),.r,ai⟩,by rfl⟩
theorem ar3(s:Mem)(h:Nd s):cm Tryz.prog 56 (fh s []) [.aV 0 0] [true,false,false,false] (fh (pt s).1 (pt s).2) (.bd []):=by
 cases h1:decide (((b1 s).agr.prop.length:Int)=0)
 ·exact acS s h (.inl h1)
 ·cases ad: (dm (b1 s).view (b1 s).als).2
  ·exact acS s h (.inr ⟨h1,ad⟩)
  ·exact ar2 s h h1 ad
theorem ar4(s:Mem)(h:CH s)(b3:s.status=1):bl Tryz.prog 24 [.agg (cA s)] (.bd [.agg (cA (pt s).1),.ar 2 ((pt s).2.map gi) false]):=by
 have aC:=w3 s h.mF;rw[h.v]at aC;have cn:=E2 s h.mF;have bC:=TD s (ar3 s (h.act b3));have aR:decide (s.status=0)=false:=by rw[b3];rfl
 have h1:decide (s.status=1)=true:=by rw[b3];rfl
 generalize pt s=R at *;refine fM Tryz.func24 ?_;repeat' ((conv=>whnf);first|refine fZ (by assumption) ?_|refine e3 (by assumption) ?_|exact .refl|refine cd ?_|refine aS aC ?_|refine .inr ⟨[],bS cn ?_⟩|refine .inr ⟨[4,2,3],bS bC ?_⟩|fail)
theorem ar5(s:Mem)(h:CH s)(aR:s.status≠0)(h1:s.status≠1):bl Tryz.prog 24 [.agg (cA s)] (.bd [.agg (cA s),.ar 2 (([]:List ek).map gi) false]):=by
 have aC:=w3 s h.mF;rw[h.v]at aC;have cn:=E2 s h.mF;have aR:decide (s.status=0)=false:=cX aR;have h1:decide (s.status=1)=false:=cX h1;refine fM Tryz.func24 ?_;repeat' ((conv=>whnf);first|refine e3 (by assumption) ?_|refine cd ?_|refine aS aC ?_|refine .inr ⟨[],bS cn ?_⟩|fail)
 all_goals(conv=>whnf)
 all_goals exact eO ⟨.r,.av,ai⟩
theorem ar6(s:Mem)(h:CH s)(b3:s.status=0)(aj:s.cont.length<=1000):bl Tryz.prog 24 [.agg (cA s)] (.bd [.agg (cA s),.ar 2 ((s.cont.map λm=>ek.mk m z7).map gi) false]):=by
 have aC:=w3 s h.mF;rw[h.v]at aC;have cn:=E2 s h.mF;have aR:decide (s.status=0)=true:=ep b3;have es:=λ(a6:List ek) (oI:a6.length<=100000) (da:Int)=>TG s a6 oI da 5 (by omega) (by omega) [] (by simp);refine fM Tryz.func24 ?_;repeat' ((conv=>whnf);first|refine fZ (by assumption) ?_|refine aS aC ?_|refine .inr ⟨[],bS cn ?_⟩|fail)
 all_goals(conv=>whnf)
 refine⟨Nat,λi=>⟨[(2,.aV 1 0),(4,.aV 4 0),(26,.ar 1 (s.cont.map aM) false),(27,i64 s.cont.length),(28,i64 i)],[.cells 55 (cA s),.cells 55 (aF ag 55).zero,.row 22 1 (s.hist.map c8),.row 150 2 (s.dbts.map dR),.cells 116 (iS s (.own 2) (.own 3) (.own 5)),.row 121 2 (((s.cont.take i).map λm=>ek.mk m z7).map gi)]⟩,λi=>i<=s.cont.length,λi=>s.cont.length-i,[.cell 4 29 121 2],⟨0,bX _,?_⟩,?_⟩
 ·conv=>whnf
  exact⟨⟨.r,.r,.r,aX (by simp),.r,ai⟩,⟨.r,.r,.r,.r,.r,.r,ai⟩,by rfl⟩
 ·intro i hi;repeat' ((conv=>whnf);first| (apply bh<;>intro h)|refine cd ?_|fail)
  ·have ax:i<s.cont.length:=by simpa using h
   clear h;have eu:=es ((s.cont.take i).map λm=>ek.mk m z7) (by rw[bF,kZ];omega) s.cont[i];have hy: ((s.cont.take i).map λm=>ek.mk m z7)++ [ek.mk s.cont[i] (ew 5 [])]=(s.cont.take (i+1)).map λm=>ek.mk m z7:=by
    rw[e4 ax,ef];rfl
   rw[hy]at eu;repeat' ((conv=>whnf);first|refine⟨_,_,aO ⟨rfl,c3 ax⟩ ?_⟩|refine .inr ⟨[4,2,3,5],_,_,_,_,_,eu,by rfl,⟨.r,.r,.r,.r,ai⟩,⟨.r,.r,.r,.av,ai⟩,?_⟩|fail)
   all_goals(conv=>whnf)
   refine⟨i+1,ax,by simp only[];omega,?_⟩;conv=>whnf
   exact⟨⟨.r,.r,.r,.r,aX (bW (by omega)),ai⟩,⟨.r,.r,.r,.r,.r,.r,ai⟩,by rfl⟩
  ·have:i=s.cont.length:=by
    simp at h;omega
   subst this;clear h;rw[fU];repeat' ((conv=>whnf);first|exact .refl|fail)
theorem ar7(s:Mem)(h:CH s):bl Tryz.prog 24 [.agg (cA s)] (.bd [.agg (cA (fy s).1),.ar 2 (((fy s).2.map tc).map gi) false]):=by
 unfold fy;by_cases h1:s.status=1
 ·rw[b6 h1];have e:=ar4 s h h1;have an:=arC s
  grind
 ·rw[bo h1];by_cases aR:s.status=0
  ·rw[b6 aR];have:=ar6 s h aR h.mF.cont;simp only[oT]at this⊢;exact this
  ·rw[bo aR];exact ar5 s h aR h1
theorem adL{Ms:List Mem}{b:Nat}{s:Mem}: (Ms.map cA).set b (cA s)=(Ms.set b s).map cA:=by simp
theorem ar8(c:Int)(cb:Int->Int->Bool)(iE:∀f t:Int,0<=f->0<=t->bl Tryz.prog 29 [u64 c,i64 f,i64 t] (.v (.bool (cb f t))))(au:List Bool)(Ms:List Mem)(aL:List dC)(h:vN cb au Ms aL):
  cm Tryz.prog 12 [.cells 32 (ps 1 2 3),.row 55 29 (Ms.map cA),.row 4 1 (au.map hB),.row 82 3 ((aL.map od).map lB)] [.aV 0 0,u64 c] [true,true,true,false] [.cells 32 (ps 1 2 3),.row 55 29 ((cJ cb au Ms aL).1.map cA),.row 4 1 (au.map hB),.row 82 3 (((cJ cb au Ms aL).2.map od).map lB)] (.v (.bool true)):=by
 obtain⟨aW,na,nl,ar9,asa,hlen,PV⟩:=h;have M2:eW cb au Ms aL 0=(Ms,[]):=rfl;have TJ:∀k,eW cb au Ms aL (k+1)=tf cb au (eW cb au Ms aL k) (aL.getD k Fl):=λ_=>rfl;have zS:=CI cb au Ms aL;have z6:∀X,kH au X 0=X:=λ_=>rfl;have Iy:∀X i,kH au X (i+1)=sk au (kH au X i) i:=λ_ _=>rfl;have asb:=I1 au (eW cb au Ms aL aL.length);have b4:cJ cb au Ms aL=kH au (eW cb au Ms aL aL.length) Ms.length:=rfl;rw[b4];clear b4;generalize eW cb au Ms aL=X at *;have Hn:∀b (ac:b<Ms.length),(au.map hB)[b]?=some (hB (au.getD b true)):=λb ac=>by
  rw[e7];simp[show b<au.length by omega]
 refine mj Tryz.func12 ?_;repeat' ((conv=>whnf);first|refine be ?_|fail)
 all_goals(conv=>whnf)
 refine⟨Nat,λk=>⟨[(0,.aV 0 0),(1,u64 c),(5,.own 3),(6,i64 k)],[.cells 32 (ps 1 2 5),.row 55 29 ((X k).1.map cA),.row 4 1 (au.map hB),.row 82 3 ((aL.map od).map lB),.cD [.aV 0 0,.own 1,.own 2,.own 3],.row 82 3 (((X k).2.map od).map lB)]⟩,λk=>k<=aL.length,λk=>aL.length-k,[.cell 0 2 82 3],⟨0,bX _,?_⟩,?_⟩
 ·conv=>whnf
  refine⟨⟨.r,.r,.r,.r,ai⟩,⟨.r,cK (by rw[M2]),.r,.r,.r,cK (by rw[M2];rfl),ai⟩,by rfl⟩
 ·intro k hk;repeat' ((conv=>whnf);first| (apply bh<;>intro h)|fail)
  all_goals(conv=>whnf)
  ·have ax:k<aL.length:=by
    have:=fi h;rw[bF,bF]at this;omega
   clear h;have I4: ((aL.map od).map lB)[k]?=some (lB (od aL[k])):=by simp[ax]
   have gn:k<((aL.map od).map lB).length:=by simp[ax]
   have jH:=TJ k;have jx:aL.getD k Fl=aL[k]:=by simp[ax]
   rw[jx]at jH;have UL:=ar9 k ax;have Fo:=hlen (k+1) ax;have sN:=zS k;rw[jH]at Fo;generalize aL[k]=f at *;have aC:=adC (X k).1 (by omega) au ((X k).2.map od) f.src;have aG:=adC (X k).1 (by omega) au ((X k).2.map od) f.dst;unfold tf at jH Fo;have awx:=Ag (X k).1 f.src;have IB:=Ag (X k).1 f.dst;generalize lE (X k).1 f.src=a at *;generalize lE (X k).1 f.dst=b at *;by_cases pe:a<0\/b<0
   ·have jH:X (k+1)=X k:=by
     rw[jH];by_cases bb:a<0
     ·rw[b6 bb]
     ·rw[bo bb,b6 (pe.resolve_left bb)]
    have Fp: (decide (a<0)||decide (b<0))=true:=by
     rcases pe with h|h
     ·rw[ep h];rfl
     ·rw[ep h,FF]
    have aw:∀ {p:Prop},(!(decide (a<0)||decide (b<0)))=true->p:=λh=>by rw[Fp]at h;cases h
    have hT:∀ {p:Prop},(!(decide (a<0)||decide (b<0)||false))=true->p:=λh=>by rw[Fp]at h;cases h
    have HD: (decide (a<0)||decide (b<0)||false||false)=true:=by rw[Fp];rfl
    repeat' ((conv=>whnf);first|refine be ?_|refine fZ (by assumption) ?_|refine cd ?_|refine⟨k,aO ⟨rfl,gn⟩ ?_⟩|refine⟨lB (od f),aO I4 ?_⟩|refine .inr ⟨[0,1,2,5],bS aC ?_⟩|refine .inr ⟨[0,1,2,5],bS aG ?_⟩|refine⟨0,aO ⟨⟨λh=>h,λh=>h⟩,λh=>aw h⟩ ?_⟩|refine⟨hB false,aO ⟨λh=>h,λh=>aw h⟩ ?_⟩|refine⟨_,.v (.bool false),AJ _,λh=>hT h,?_⟩| (refine aO ?_ ?_;focus (simp;done))|fail)
    all_goals(conv=>whnf)
    refine⟨k+1,ax,by simp only[];omega,?_⟩;conv=>whnf
    exact⟨⟨.r,.r,.r,aX (bW (by omega)),ai⟩,⟨.r,cK (by rw[jH]),.r,.r,.r,cK (by rw[jH]),ai⟩,by rfl⟩
   ·have ER:0<=a:=by omega
    have M9:0<=b:=by omega
    obtain⟨kk,lp,Te⟩:∃kk,kk<(X k).1.length/\b=(kk:Int):=by
     rcases IB with⟨e,_⟩| ⟨j,aq,e,_⟩
     ·omega
     ·exact⟨j,aq,e⟩
    subst Te;rw[bo (show ¬a<0 by omega),bo (show ¬((kk:Int))<0 by omega),lH]at jH Fo;have cn:=iE a kk ER M9;have yt:kk<(au.map hB).length:=by rw[bF,na];omega
    have jx:=Hn kk (by omega);have UL:=UL kk rfl (by omega);have n0:decide (a<0)=false:=cX (by omega);have adM:decide ((kk:Int)<0)=false:=cX (by omega);generalize au.getD kk true=w at *;generalize cb a kk=y at *;cases NF: (w||y)
    ·rw[NF,bs]at jH Fo;have HD: (decide (a<0)||decide ((kk:Int)<0)||w||y)=false:=by rw[n0,adM,Bool.or_assoc,NF];rfl
     have asc:w=false:=by cases w<;>simp_all
     have bc:=are ((X k).1.getD kk du) f.src f.bq (UL asc);have aw: (X k).1.getD kk du=(X k).1[kk]:=by simp[lp]
     rw[aw]at bc jH Fo;generalize fm (X k).1[kk] f.src f.bq=R at *;obtain⟨s',a6⟩:=R;simp only[]at bc jH Fo;have E8: ((X k).1.set kk s')[kk]'(by simp;omega)=s':=by simp
     have eu:=adD ((X k).1.set kk s') (by simp;omega) au ((X k).2.map od) kk (by simp;omega) (a6.map tc) (by simp only[fv,bF]at *;omega);rw[E8,<-adE,<-ef]at eu;have asd:kk<((X k).1.map cA).length:=by rw[bF];exact lp
     have UM: ((X k).1.map cA)[kk]?=some (cA (X k).1[kk]):=c3 lp;have b3:=adL (Ms:=(X k).1) (b:=kk) (s:=s');have wq: (X (k+1)).1=(X k).1.set kk s':=by rw[jH]
     have jE: (X (k+1)).2=(X k).2++a6.map (l1 s'.self):=by rw[jH]
     generalize(X k).1[kk]=ase at *;repeat' ((conv=>whnf);first|refine be ?_|refine e3 (by assumption) ?_|refine cd ?_|refine⟨k,aO ⟨rfl,gn⟩ ?_⟩|refine⟨lB (od f),aO I4 ?_⟩|refine .inr ⟨[0,1,2,5],bS aC ?_⟩|refine .inr ⟨[0,1,2,5],bS aG ?_⟩|refine⟨kk,aO ⟨⟨λh=>h,λh=>h⟩,λ_=>⟨rfl,yt⟩⟩ ?_⟩|refine⟨hB w,aO ⟨λh=>h,λ_=>jx⟩ ?_⟩|refine dz cn ?_|refine⟨kk,aO ⟨rfl,asd⟩ ?_⟩|refine⟨cA ase,aO UM ?_⟩|refine aS bc ?_|refine .inr ⟨[0,1,2,5],_,_,_,_,_,eu,by rfl,⟨.r,cK b3,.r,.r,ai⟩,⟨.r,.r,.r,ai⟩,?_⟩| (refine aO ?_ ?_;focus (simp;done))|fail)
     all_goals(conv=>whnf)
     refine⟨k+1,ax,by simp only[];omega,?_⟩;conv=>whnf
     exact⟨⟨.r,.r,.r,aX (bW (by omega)),ai⟩,⟨.r,cK (by rw[wq]),.r,.r,.r,cK (by rw[jE]),ai⟩,by rfl⟩
    ·rw[NF,bY]at jH;have HD: (decide (a<0)||decide ((kk:Int)<0)||w||y)=true:=by rw[n0,adM,Bool.or_assoc,NF];rfl
     repeat' ((conv=>whnf);first|refine be ?_|refine fZ (by assumption) ?_|refine cd ?_|refine⟨k,aO ⟨rfl,gn⟩ ?_⟩|refine⟨lB (od f),aO I4 ?_⟩|refine .inr ⟨[0,1,2,5],bS aC ?_⟩|refine .inr ⟨[0,1,2,5],bS aG ?_⟩|refine⟨kk,aO ⟨⟨λh=>h,λh=>h⟩,λ_=>⟨rfl,yt⟩⟩ ?_⟩|refine⟨hB w,aO ⟨λh=>h,λ_=>jx⟩ ?_⟩|refine dz cn ?_| (refine aO ?_ ?_;focus (simp;done))|fail)
     all_goals(conv=>whnf)
     refine⟨k+1,ax,by simp only[];omega,?_⟩;conv=>whnf
     exact⟨⟨.r,.r,.r,aX (bW (by omega)),ai⟩,⟨.r,cK (by rw[jH]),.r,.r,.r,cK (by rw[jH]),ai⟩,by rfl⟩
  ·have gl:k=aL.length:=by
    have:=qX h;rw[bF,bF]at this;exact Nat.le_antisymm hk (by omega)
   clear h;subst gl;have asf:=zS aL.length;generalize X aL.length=Z at *;obtain⟨MY,MJ⟩:=Z;have z6:=z6 (MY,MJ);have Iy:=Iy (MY,MJ);simp only[]at asf;generalize kH au (MY,MJ)=Y at *;refine⟨Nat,λi=>⟨[(0,.aV 0 0),(12,i64 i)],[.cells 32 (ps 1 2 5),.row 55 29 ((Y i).1.map cA),.row 4 1 (au.map hB),.row 82 3 ((aL.map od).map lB),.cD [.aV 0 0,.own 1,.own 2,.own 3],.row 82 3 (((Y i).2.map od).map lB)]⟩,λi=>i<=Ms.length,λi=>Ms.length-i,[],⟨0,bX _,?_⟩,?_⟩
   ·conv=>whnf
    exact⟨⟨.r,.r,ai⟩,⟨.r,cK (by rw[z6]),.r,.r,.r,cK (by rw[z6]),ai⟩,by rfl⟩
   ·intro i hi;have asg:=asb i;simp only[]at asg;by_cases ax:i<Ms.length
    ·have jH:=Iy i;have pU:=asa i ax;have wH:=PV (i+1) ax;rw[jH]at wH;have eI:i<(Y i).1.length:=by omega
     have UN:decide ((i:Int)<(((Y i).1.map cA).length:Int))=true:=by rw[bF];exact ep (by omega)
     unfold sk at jH wH;have yt:i<(au.map hB).length:=by rw[bF,na];exact ax
     have jx:=Hn i ax;cases UO:au.getD i true
     ·rw[UO]at jx jH wH;simp only[bs]at jH wH;have aC:=ar7 ((Y i).1.getD i du) (pU UO);have aw: (Y i).1.getD i du=(Y i).1[i]:=by simp[eI]
      rw[aw]at aC jH wH;generalize fy (Y i).1[i]=R at *;obtain⟨s',a6⟩:=R;simp only[]at aC jH wH;have E8: ((Y i).1.set i s')[i]'(by simp;omega)=s':=by simp
      have aG:=adD ((Y i).1.set i s') (by simp;omega) au ((Y i).2.map od) i (by simp;omega) (a6.map tc) (by simp only[fv,bF]at *;omega);rw[E8,<-adE,<-ef]at aG;have ash:i<((Y i).1.map cA).length:=by rw[bF];exact eI
      have UM: ((Y i).1.map cA)[i]?=some (cA (Y i).1[i]):=c3 eI;have b3:=adL (Ms:=(Y i).1) (b:=i) (s:=s');have wq: (Y (i+1)).1=(Y i).1.set i s':=by rw[jH]
      have jE: (Y (i+1)).2=(Y i).2++a6.map (l1 s'.self):=by rw[jH]
      generalize(Y i).1[i]=m0 at *;repeat' ((conv=>whnf);first|refine fZ (by assumption) ?_|refine cd ?_|refine⟨i,aO ⟨rfl,yt⟩ ?_⟩|refine⟨hB false,aO jx ?_⟩|refine⟨i,aO ⟨rfl,ash⟩ ?_⟩|refine⟨cA m0,aO UM ?_⟩|refine aS aC ?_|refine .inr ⟨[0,1,2,5],_,_,_,_,_,aG,by rfl,⟨.r,cK b3,.r,.r,ai⟩,⟨.r,.r,.r,ai⟩,?_⟩|fail)
      all_goals(conv=>whnf)
      refine⟨i+1,ax,by simp only[];omega,?_⟩;conv=>whnf
      exact⟨⟨.r,aX (bW (by omega)),ai⟩,⟨.r,cK (by rw[wq]),.r,.r,.r,cK (by rw[jE]),ai⟩,by rfl⟩
     ·rw[UO]at jx jH;simp only[bY]at jH;repeat' ((conv=>whnf);first|refine fZ (by assumption) ?_|refine⟨i,aO ⟨rfl,yt⟩ ?_⟩|refine⟨hB true,aO jx ?_⟩|fail)
      all_goals(conv=>whnf)
      refine⟨i+1,ax,by simp only[];omega,?_⟩;conv=>whnf
      exact⟨⟨.r,aX (bW (by omega)),ai⟩,⟨.r,cK (by rw[jH]),.r,.r,.r,cK (by rw[jH]),ai⟩,by rfl⟩
    ·have cL:i=Ms.length:=by omega
     have UN:decide ((i:Int)<(((Y i).1.map cA).length:Int))=false:=by rw[bF];exact cX (by omega)
     subst cL;repeat' ((conv=>whnf);first|refine e3 (by assumption) ?_|fail)
     all_goals(conv=>whnf)
     refine⟨[.fa 3 5],?_⟩;conv=>whnf
     exact⟨.r,⟨.r,.r,.r,.r,Io,ai⟩,by rfl⟩
section
variable {bz:aK->Int->Prop} {T:Nat} {G bk:jg} {Ms:List Mem} {aL:List dC}
theorem asi(cb:Int->Int->Bool)(au:List Bool){X:List Mem×List dC}(h:lF bz T G X.1 (aL++X.2)){f:dC}(az:f∈aL): (tf cb au X f).1.map (·.self)=X.1.map (·.self):=by
 obtain⟨f1,f2,f3⟩:=h.im f (C6 _ az);unfold tf;by_cases h1:lE X.1 f.src<0
 ·grind
 ·rw[bo h1];rcases Ag X.1 f.dst with⟨aC,_⟩| ⟨b,ac,aC,aG,_⟩
  ·grind
  ·rw[bo (by omega),aC,lH];cases au.getD b true||cb (lE X.1 f.src) (b:Int)
   ·have aw:X.1.getD b du=X.1[b]:=by grind
    rw[aw,bs];have ao:=(Uv h.g (h.mem b ac) (by omega) f1).1;simp only[];rw[nQ,ao];have: (X.1.map (·.self))[b]'(by grind)=X.1[b].self:=by simp
    rw[<-this,FT]
   ·rfl
theorem asj(au:List Bool){X:List Mem×List dC}(h:lF bz T G X.1 X.2){i:Nat}(hi:i<X.1.length)(bC:X.1[i].hist.length<T)(dd:au.getD i true=false->mw bz X.1[i]): (sk au X i).1.map (·.self)=X.1.map (·.self):=by
 have aw:X.1.getD i du=X.1[i]:=by grind
 unfold sk;cases Fm:au.getD i true
 ·rw[aw];simp only[bs];have ao:=(Nz h.g (h.mem i hi) bC (dd Fm)).1;rw[nQ,ao];have: (X.1.map (·.self))[i]'(by grind)=X.1[i].self:=by simp
  rw[<-this,FT]
 ·rfl
theorem asl(cb:Int->Int->Bool)(au:List Bool)(h:lF bz T G Ms aL)(ay:T+1<=399)(dd:∀i (hi:i<(eW cb au Ms aL aL.length).1.length),au.getD i true=false->mw bz (eW cb au Ms aL aL.length).1[i]): (cJ cb au Ms aL).1.map (·.self)=Ms.map (·.self):=by
 have al:=I3 cb au h;have lg:∀k,k<=aL.length->(eW cb au Ms aL k).1.map (·.self)=Ms.map (·.self):=by
  intro k;induction k with
  |zero=>intro _;rfl
  |succ k aY=>
   intro hk;obtain⟨⟨bk,_,h1⟩,_⟩:=al k (by omega);have ax:k<aL.length:=by omega
   have aw:aL.getD k Fl=aL[k]:=by grind
   unfold eW;rw[aw];exact(asi cb au h1 (eM ax)).trans (aY (by omega))
 obtain⟨⟨qc,aC,h1⟩,ad⟩:=al aL.length (bP _);have hg:lF bz (T+1) qc (eW cb au Ms aL aL.length).1 (eW cb au Ms aL aL.length).2:=by
  have:=UH h1 (uu:=(eW cb au Ms aL aL.length).2) (λf az=>mW _ az);exact⟨UI this.g ay,this.mem,this.k3,this.im,this.bq⟩
 have ic:=CI cb au Ms aL aL.length;have bC:∀i (hi:i<(eW cb au Ms aL aL.length).1.length),(eW cb au Ms aL aL.length).1[i].hist.length<T+1:=λi hi=>by
  have:=UJ (h1.mem i hi);have:=h1.g.len;omega
 have cr:=UK au hg bC dd;have asm:∀i,i<=Ms.length->(kH au (eW cb au Ms aL aL.length) i).1.map (·.self)=Ms.map (·.self):=by
  intro i;induction i with
  |zero=>intro _;exact lg _ (bP _)
  |succ i aY=>
   intro hi;have Es:i<(eW cb au Ms aL aL.length).1.length:=by omega
   obtain⟨⟨bk,_,aN⟩,_,bt⟩:=cr i (by omega);have eI:i<(kH au (eW cb au Ms aL aL.length) i).1.length:=by grind
   unfold kH;exact(asj au aN eI (by rw[I2 (bt i (bP _))];exact bC i Es) (by rw[I2 (bt i (bP _))];exact dd i Es)).trans (aY (by omega))
 exact asm _ (bP _)
end
theorem asn{bz:aK->Int->Prop}{v:aK}(ab:b0 v=true)(aW:v.num<=1000){x:Int}(ah:x∈v.mem):dt bz 0 ⟨v,[],λ_=>qM⟩/\fS ⟨v,[],λ_=>qM⟩ (nt v 0 ns x):=by
 have dI:dt bz 0 ⟨v,[],λ_=>qM⟩:=⟨⟨ab,λi hi=>by grind⟩,aW,bP _,by decide,λ_ _ h=>h,λk _=>adc _,λk hk=>by grind,λ_ _ _ h=>h.elim⟩
 have cL:=gz.2 ah;refine⟨dI,?_⟩;have h1:=MP (v:=v) (self:=x) (by grind);rw[TB ab cL]at h1;have ad:nt v 0 ns x=eT {du with self:=x,first:=v} v:=(Prod.mk.inj h1).1;rw[ad];exact IW dI (k:=0) (s:={du with self:=x,first:=v}) (acb ab cL) rfl rfl (bP _) rfl λj _ _=>Ui _ _
def has(l:List cj)(x:Int):Prop:=∃y∈l,y.mem=x
variable{l:List cj}{r:cj}
theorem aso(h:gM v l=true)(ao:jG v r=true)(aW:∀x∈l,x.mem≠r.mem): (fJ v l r).1=iR l r:=by
 have ab:b0 v=true:=by
  simp only[gM,cq]at h
  grind
 obtain⟨h1,ad⟩:=(rm ab).1 h;have aN:gM v (iR l r)=true:=(rm ab).2 ⟨λx ah=>by
  rcases BP ah with rfl|ah;all_goals grind,(alD ad).2 aW⟩
 unfold fJ
 grind
theorem asp(l:List cj)(r:cj):r∈iR l r:=by
 unfold iR;simp
theorem adN(h:gM v l=true)(ao:jG v r=true):has (fJ v l r).1 r.mem:=by
 by_cases ah:∃y∈l,y.mem=r.mem
 ·obtain⟨y,bn,e⟩:=ah;exact⟨y,HV h bn,e⟩
 ·rw[aso h ao (λx lS e=>ah ⟨x,lS,e⟩)];exact⟨r,asp l r,rfl⟩
theorem Ai{x:Int}(h:gM v l=true)(ah:has l x):has (fR v l r) x:=by
 obtain⟨y,bn,rfl⟩:=ah;unfold fR;cases h1:decide (0<=eS l r.mem)
 ·exact⟨y,HV h bn,rfl⟩
 ·simp only[bY];cases decide ((l.getD (eS l r.mem).toNat dA).aD<r.aD)
  ·exact⟨y,bn,rfl⟩
  ·simp only[bY];obtain⟨_,hk⟩:=zJ h1;have iO:=SC h1;rw[show l.getD (eS l r.mem).toNat dA=l[(eS l r.mem).toNat] by grind]at iO;obtain⟨j,aq,rfl⟩:=e8 bn;generalize(eS l r.mem).toNat=k at *;by_cases e:j=k
   ·subst e;exact⟨r,fo (i:=j) (by grind),iO.symm⟩
   ·exact⟨l[j],fo (i:=j) (by grind),rfl⟩
theorem I5(h:gM v l=true)(ao:jG v r=true):has (fR v l r) r.mem:=by
 by_cases ah:has l r.mem
 ·exact Ai h ah
 ·have h1:decide (0<=eS l r.mem)=false:=by
   cases aj:decide (0<=eS l r.mem)
   ·rfl
   ·exact absurd (BZ.1 (fi aj)) ah
  unfold fR;rw[h1];exact adN h ao
theorem I6{P:Int->Prop}(h:∀x∈l,P x.aD)(ao:P r.aD):∀x∈fR v l r,P x.aD:=λx ah=>by
 rcases EI ah with rfl|ah;all_goals grind
structure iu(b:Prop)(ρ w:Int)(s:bj):Prop where
 dec:s.dec=[]
 prop:s.prop≠ []
 cg:s.aP.cg=0\/b/\s.aP.cg=ρ
 nN:s.aP.aD=0\/b/\s.aP.aD=ρ
 aQ:∀x∈s.aQ,b/\x.aD=ρ
 iq:s.aD=0
 h9:s.phase=0
 cG:s.cG=w
structure sl(ρ w:Int)(s:bj):Prop where
 dec:s.dec=[]
 prop:s.prop≠ []
 cg:s.aP.cg=ρ
 nN:s.phase=1/\s.aP.aD=0\/s.phase=2/\has s.aQ s.self
 aQ:∀x∈s.aQ,x.aD=ρ
 iq:s.aD=ρ
 cG:s.cG=w
def rF(b:Prop)(ρ:Int)(m:c0):Prop:=m.kind=1\/b/\m.kind≠6/\m.aD=ρ
theorem CJ(h:s.dec=[])(a6:List dO): (dl s a6).1.dec≠ []\/dl s a6=(s,a6):=by
 unfold dl
 grind
theorem I7(al:c1 s)(az:fX s){m:c0}(aA:eJ s.view m=true)(ae:m.src≠s.self)(aa:s.dec=[]): (dB s m).1=(dl (e0 s m).1 (e0 s m).2).1/\(dB s m).2.1=(dl (e0 s m).1 (e0 s m).2).2:=by
 have ac:fE s=true:=(rv s).2 ⟨al,az⟩;unfold dB;rw[bo (by grind),bo (by rw[ep (kB aA).2];simp),bo (by grind),bo (by grind)];simp
theorem asq(al:c1 s)(az:fX s){m:c0}(aA:eJ s.view m=true)(ae:m.src≠s.self)(aa:s.dec≠ []): (dB s m).1=s:=by
 have ac:fE s=true:=(rv s).2 ⟨al,az⟩;unfold dB;rw[bo (by grind),bo (by rw[ep (kB aA).2];simp),bo (by grind),b6 (ru.2 aa)]
theorem asr(al:c1 s)(az:fX s){m:c0}(aA:eJ s.view m=true)(ae:m.src≠s.self)(hk:m.kind=6): (dB s m).1.dec≠ []:=by
 by_cases aa:s.dec=[]
 ·have aj:=wZ ((pl aA).1 (.inr hk));rw[(I7 al az aA ae aa).1];have e:e0 s m=({s with dec:=m.cut},[eF s 0 6 0 0 m.cut]):=by
   unfold e0
   grind
  rw[e];unfold dl
  grind
 ·rw[asq al az aA ae aa];exact aa
theorem ass(h:eJ v m=true)(hk:m.kind=3):jG v ⟨m.src,m.cT,m.cut⟩=true:=by
 obtain⟨h1,_,aN⟩:=(pl h).2.2.1 hk;simp only[jG,cq,oR,fr];refine⟨(kB h).1,?_⟩;rcases aN with aN|aN
 ·grind
 ·right;refine⟨?_,fi aN.2⟩;rcases aN.1 with bt|bt
  ·omega
  ·exact .inr (nL bt).1
theorem adO{a:ky}{r:Int}{c:List Int}(h:k8 a=true)(hu:jt r=true)(hle:a.cg<=r)(aj:dq c 32=true)(he:a.aD=r->a.cut=c):jb a r c=(⟨r,r,c⟩,true):=by
 have h1: (!jt r||decide (r<a.cg)|| !dq c 32||decide (a.aD=r)&& !hx a.cut c)=false:=by
  rw[hu,cX (by omega),aj];by_cases e:a.aD=r
  ·rw[he e,Lz];simp
  grind
 unfold jb
 grind
section
variable {b:Prop} {ρ w:Int} {s:bj} {m:c0}
theorem ast(al:c1 s)(hu:iu b ρ w s)(aA:eJ s.view m=true)(c5:rF b ρ m)(ao:jt ρ=true)(lA:m.kind=4->s.aP.aD=ρ->s.aP.cut=m.cut):
  iu b ρ w (e0 s m).1/\(∀p∈ (e0 s m).2,rF b ρ p.m)/\(∀x,has s.aQ x->has (e0 s m).1.aQ x)/\
  (m.kind=2->∃l c,eF s m.src 3 ρ l c∈ (e0 s m).2)/\
  (m.kind=4->has (e0 s m).1.aQ m.src/\has (e0 s m).1.aQ s.self/\∃c,eF s 0 5 ρ 0 c∈ (e0 s m).2)/\
  (m.kind=5->has (e0 s m).1.aQ m.src):=by
 have fx:=rr ao;have UP:s.aP.cg<=ρ:=by
  rcases hu.cg with h|h<;>omega
 unfold e0;rcases zK aA with hk|hk|hk|hk|hk|hk
 ·rw[b6 hk];have key:iu b ρ w (kc s m)/\∀x,has s.aQ x->has (kc s m).aQ x:=by
   unfold kc;cases decide ((h8 s.view s.box ⟨m.src,m.cut⟩).2=0)
   ·grind
   ·exact⟨⟨hu.dec,hu.prop,hu.cg,hu.nN,hu.aQ,hu.iq,hu.h9,hu.cG⟩,λ_ h=>h⟩
  grind
 ·rw[bo (by omega),b6 hk];have ac:b/\m.aD=ρ:=by
   rcases c5 with h|h;all_goals grind
  have fw:ip s.aP m.aD=(⟨ρ,s.aP.aD,s.aP.cut⟩,⟨0,s.aP.aD,s.aP.cut⟩,true):=by
   unfold ip;rw[al.aP,ac.2,ao,cX (by omega)];rfl
  have e:kR s m=({s with aP:=⟨ρ,s.aP.aD,s.aP.cut⟩},[eF s m.src 3 m.aD s.aP.aD s.aP.cut]):=by
   unfold kR;rw[fw,hu.h9];simp
  rw[e,ac.2];refine⟨⟨hu.dec,hu.prop,.inr ⟨ac.1,rfl⟩,hu.nN,hu.aQ,hu.iq,hu.h9,hu.cG⟩,λp an=> ?_,λ_ h=>h,λ_=>⟨_,_,eX.2 rfl⟩,λe=>by omega,λe=>by omega⟩;rw[eX.1 an];exact .inr ⟨ac.1,(by show (3:Int)≠6;omega),rfl⟩
 ·rw[bo (by omega),bo (by omega),b6 hk];have e:kS s m=(s,[]):=by
   unfold kS;rw[hu.h9];rfl
  grind
 ·rw[bo (by omega),bo (by omega),bo (by omega),b6 hk];obtain⟨awy,_,UQ⟩:=(pl aA).2.2.2.1 hk;have ac:b/\m.aD=ρ:=by
   rcases c5 with h|h;all_goals grind
  have fw:jb s.aP m.aD m.cut=(⟨ρ,ρ,m.cut⟩,true):=by
   rw[ac.2];exact adO al.aP ao UP (yf (fi UQ)) (lA hk)
  have e:lX s m=({s with aP:=⟨ρ,ρ,m.cut⟩,aQ:=fR s.view (fR s.view s.aQ ⟨m.src,m.aD,m.cut⟩) ⟨s.self,m.aD,m.cut⟩},[eF s 0 5 m.aD 0 m.cut]):=by
   unfold lX
   grind
  rw[e,ac.2];have fk:jG s.view ⟨m.src,ρ,m.cut⟩=true:=yg (kB aA).1 ao UQ;have jo:jG s.view ⟨s.self,ρ,m.cut⟩=true:=yg al.self ao UQ;have dE:=SE al.v al.aQ fk;refine⟨⟨hu.dec,hu.prop,.inr ⟨ac.1,rfl⟩,.inr ⟨ac.1,rfl⟩,?_,hu.iq,hu.h9,hu.cG⟩,λp an=> ?_,λx h=>Ai dE (Ai al.aQ h),λe=>by omega,λ_=>⟨Ai dE (I5 al.aQ fk),I5 dE jo,_,eX.2 rfl⟩,λe=>by omega⟩
  ·exact I6 (P:=λx=>b/\x=ρ) (I6 (P:=λx=>b/\x=ρ) hu.aQ ⟨ac.1,rfl⟩) ⟨ac.1,rfl⟩
  ·rw[eX.1 an];exact .inr ⟨ac.1,(by show (5:Int)≠6;omega),rfl⟩
 ·rw[bo (by omega),bo (by omega),bo (by omega),bo (by omega),b6 hk];obtain⟨KJ,Be⟩:=(pl aA).2.2.2.2 hk;have ac:b/\m.aD=ρ:=by
   rcases c5 with h|h;all_goals grind
  rw[ac.2];have fk:jG s.view ⟨m.src,ρ,m.cut⟩=true:=yg (kB aA).1 ao Be;exact⟨⟨hu.dec,hu.prop,hu.cg,hu.nN,I6 (P:=λx=>b/\x=ρ) hu.aQ ⟨ac.1,rfl⟩,hu.iq,hu.h9,hu.cG⟩,(λp an=>by cases an),λx h=>Ai al.aQ h,λe=>by omega,λe=>by omega,λ_=>I5 al.aQ fk⟩
 ·rcases c5 with h|h;all_goals omega
theorem adP(al:c1 s)(aR:s.dec=[])(an:s.prop≠ [])(UP:s.aP.cg=ρ)(ze:s.aP.aD=0)(s4:∀x∈s.aQ,x.aD=ρ)(vg:s.aD=ρ)(mr:s.phase=1)(hw:s.cG=w)(ao:jt ρ=true):
  sl ρ w (gC s)/\(∀x,has s.aQ x->has (gC s).aQ x)/\(gC s=s\/(gC s).phase=2):=by
 have fx:=rr ao;rcases SN al with⟨_,e⟩| ⟨h1,aw,jV,lf,_,⟨bb,e⟩| ⟨bb,e⟩⟩
 ·rw[e];exact⟨⟨aR,an,UP,.inl ⟨mr,ze⟩,s4,vg,hw⟩,λ_ h=>h,.inl rfl⟩
 ·rw[e];have fk:jG s.view ⟨s.self,s.aD,(gH s.view s.bw s.prop).1⟩=true:=yg al.self (by grind) lf;refine⟨⟨aR,an,vg,.inr ⟨rfl,I5 al.aQ fk⟩,I6 (P:=λx=>x=ρ) s4 vg,vg,hw⟩,λx h=>Ai al.aQ h,.inr rfl⟩
 ·have:=adO (a:=s.aP) (r:=s.aD) (c:=(gH s.view s.bw s.prop).1) al.aP (by grind) (by omega) (yf (fi lf)) (λe=>by omega)
  grind
theorem asu(al:c1 s)(hu:sl ρ w s)(aA:eJ s.view m=true)(ae:m.src≠s.self)(c5:rF True ρ m)(ao:jt ρ=true)(b2:h7 ρ=s.self):
  sl ρ w (e0 s m).1/\(∀p∈ (e0 s m).2,rF True ρ p.m)/\(∀x,has s.aQ x->has (e0 s m).1.aQ x)/\
  (m.kind=3->(e0 s m).1.phase=2\/has (e0 s m).1.bw m.src)/\(m.kind=5->has (e0 s m).1.aQ m.src)/\
  (s.phase=2->(e0 s m).1.phase=2)/\(∀x,has s.bw x->(e0 s m).1.phase=2\/has (e0 s m).1.bw x):=by
 have fx:=rr ao;unfold e0;rcases zK aA with hk|hk|hk|hk|hk|hk
 ·rw[b6 hk];have key:sl ρ w (kc s m)/\(kc s m).aQ=s.aQ/\(kc s m).phase=s.phase/\(kc s m).bw=s.bw:=by
   unfold kc;cases decide ((h8 s.view s.box ⟨m.src,m.cut⟩).2=0)
   ·grind
   ·exact⟨⟨hu.dec,hu.prop,hu.cg,hu.nN,hu.aQ,hu.iq,hu.cG⟩,rfl,rfl,rfl⟩
  grind
 ·exfalso;obtain⟨_,aH⟩:=(pl aA).2.1 hk;rcases c5 with h|h;all_goals grind
 ·rw[bo (by omega),bo (by omega),b6 hk];have ac:m.aD=ρ:=by
   rcases c5 with h|h;all_goals omega
  rcases hu.nN with⟨sT,ER⟩| ⟨iQ,bC⟩
  ·have lg:=abI al aA hk sT;obtain⟨cP,a2,a3⟩:=adP (w:=w) lg hu.dec hu.prop hu.cg ER hu.aQ hu.iq sT hu.cG ao;have sM:has (fJ s.view s.bw ⟨m.src,m.cT,m.cut⟩).1 m.src:=adN al.bw (ass aA hk);have hold:∀x,has s.bw x->has (fJ s.view s.bw ⟨m.src,m.cT,m.cut⟩).1 x:=λx ⟨y,bn,e⟩=>⟨y,HV al.bw bn,e⟩;have awz:=(EK lg).2.2.2.2.2;unfold kS;have aj: (!decide (s.phase=1)|| !decide (m.aD=s.aD))=false:=by
    rw[sT,ac,hu.iq];simp
   rw[aj];simp only[bs];have b4:∀x,has (fJ s.view s.bw ⟨m.src,m.cT,m.cut⟩).1 x->(gC {s with bw:=(fJ s.view s.bw ⟨m.src,m.cT,m.cut⟩).1}).phase=2\/has (gC {s with bw:=(fJ s.view s.bw ⟨m.src,m.cT,m.cut⟩).1}).bw x:=λx h=>by
    grind
   refine⟨cP,λp an=> ?_,a2,λ_=>b4 _ sM,λe=>by omega,λe=>by omega,λx h=>b4 x (hold x h)⟩;generalize gC {s with bw:=(fJ s.view s.bw ⟨m.src,m.cT,m.cut⟩).1}=A at *;cases aa:decide (A.phase=2)
   ·grind
   ·rw[aa]at an;simp only[bY,eX]at an;subst an;exact .inr ⟨ai,(by show (4:Int)≠6;omega),cP.iq⟩
  ·have e:kS s m=(s,[]):=by
    unfold kS
    grind
   grind
 ·exfalso;obtain⟨_,aH,_⟩:=(pl aA).2.2.2.1 hk;rcases c5 with h|h;all_goals grind
 ·rw[bo (by omega),bo (by omega),bo (by omega),bo (by omega),b6 hk];obtain⟨KJ,Be⟩:=(pl aA).2.2.2.2 hk;have ac:m.aD=ρ:=by
   rcases c5 with h|h;all_goals omega
  rw[ac];have fk:jG s.view ⟨m.src,ρ,m.cut⟩=true:=yg (kB aA).1 ao Be;refine⟨⟨hu.dec,hu.prop,hu.cg,?_,I6 (P:=λx=>x=ρ) hu.aQ rfl,hu.iq,hu.cG⟩,(λp an=>by cases an),λx h=>Ai al.aQ h,λe=>by omega,λ_=>I5 al.aQ fk,λh=>h,λ_ h=>.inr h⟩;rcases hu.nN with h|h
  ·grind
  ·exact .inr ⟨h.1,Ai al.aQ h.2⟩
 ·rcases c5 with h|h;all_goals omega
end
theorem Fq(al:c1 s)(az:fX s)(aa:s.dec=[]):cQ s=dl (gO s) (hA (gO s)):=by
 have ac:fE s=true:=(rv s).2 ⟨al,az⟩;unfold cQ
 grind
theorem asv(al:c1 s)(az:fX s)(h: (cQ s).1.dec≠ []):∃p∈ (cQ s).2,p.da=0/\p.m.kind=6/\p.m.src=s.self:=by
 by_cases aa:s.dec=[]
 ·rw[Fq al az aa]at h⊢;have ae:=(SX al az).2.2.2;unfold dl at h⊢;cases aj:decide (((gO s).dec.length:Int)=0)&&decide (0<((hh (gO s)).length:Int))
  ·rw[aj]at h;have acs: (gO s).dec=[]:=by
    have hw:=SV al;have lg:=Mv al hw.1 hw.2;unfold gO;split
    ·split
     ·rcases SU lg with e| ⟨h1,ad,aN,e⟩
      ·grind
      ·rw[e];by_cases an:s.prop=[]
       ·grind
       ·rw[(EK (Mu lg an h1 ad aN)).2.2.2.2.1];exact aa
     omega
    omega
   grind
  ·refine⟨eF (gO s) 0 6 0 0 (hh (gO s)),by simp,rfl,rfl,ae⟩
 ·have ac:fE s=true:=(rv s).2 ⟨al,az⟩;unfold cQ;rw[bo (by grind),b6 (ru.2 aa)];exact⟨_,eX.2 rfl,rfl,rfl,rfl⟩
theorem asw(al:c1 s)(az:fX s)(h:s.dec≠ []): (cQ s).1=s:=by
 have ac:fE s=true:=(rv s).2 ⟨al,az⟩;unfold cQ;rw[bo (by grind),b6 (ru.2 h)]
theorem asx{ρ:Int}(al:c1 s)(zd:0<ρ)(ao:∀x∈s.aQ,x.aD=ρ)(aj:∀x∈s.aQ,∀y∈s.aQ,x.cut=y.cut)(af:fP s.view.mem.length<=(s.aQ.length:Int)):hh s≠ []:=by
 unfold hh;cases hw: (ju s.view s.box).2
 ·simp only[bs];unfold vw;have ab:∀r∈s.aQ,oK s.aQ r s.aQ.length=s.aQ.length:=λr hJ=>by
   unfold oK;rw[fU];rw[Aq.2];intro x ah;rw[ao x ah,ao r hJ,aj x ah r hJ,Lz];simp
  have Q4:1<=fP s.view.mem.length:=by
   rw[L7 al.v];omega
  have key:∀i,i<=s.aQ.length->0<i->(kA s.aQ (fP s.view.mem.length) i).1=ρ/\∃r∈s.aQ,(kA s.aQ (fP s.view.mem.length) i).2=r.cut:=by
   intro i;induction i with
   |zero=>simp
   |succ i aY=>
    intro hi _;have aw:s.aQ.getD i dA=s.aQ[i]:=by grind
    have aA:=eM (show i<s.aQ.length by omega);unfold kA;rw[aw,ab _ aA,ep af,ao _ aA,rH];by_cases aR:i=0
    ·subst aR;have:decide ((kA s.aQ (fP s.view.mem.length) 0).1<ρ)=true:=ep zd
     grind
    grind
  obtain⟨_,r,B7,e⟩:=key s.aQ.length (bP _) (by omega);rw[e];have h1:=ao r B7;rcases EJ (((rm al.v).1 al.aQ).1 r B7)with ad|ad
  ·omega
  ·exact wZ ad.2
 ·obtain⟨x,ah,e⟩:=abg hw;simp only[bY];rw[<-e];exact wZ (((uc al.v).1 al.box).1 x ah).2
theorem adQ(aa:s.dec=[])(h:hh s≠ [])(a6:List dO): (dl s a6).1.dec≠ []:=by
 unfold dl;rw[SK.2 aa,ru.2 h];exact h
section
variable {b:Prop} {ρ w:Int} {s:bj}
theorem adR(al:c1 s)(hw:s.cG=w)(x8:0<=w)(vo:w<=1000){k:Nat}(hk:gG s.view.mem s.self=(k:Int))(CK:k<=16)(aW:w+1<8+6* (k:Int)):kT s=w+1/\r8 s=false:=by
 have aC:kT s=w+1:=by
  unfold kT;rw[hw,dW (by omega) (by omega),bo (by omega)]
 refine⟨aC,?_⟩;unfold r8;rw[aC,hk,dW (n:=6* (k:Int)) (by omega) (by omega),dW (by omega) (by omega)]
 grind
theorem asy(al:c1 s)(hw:s.cG=w)(x8:0<=w)(vo:w<=1000){k:Nat}(hk:gG s.view.mem s.self=(k:Int))(CK:k<=16)(aW:8+6* (k:Int)<=w+1):kT s=w+1/\r8 s=true:=by
 have aC:kT s=w+1:=by
  unfold kT;rw[hw,dW (by omega) (by omega),bo (by omega)]
 refine⟨aC,?_⟩;unfold r8;rw[aC,hk,dW (n:=6* (k:Int)) (by omega) (by omega),dW (by omega) (by omega)]
 grind
theorem adS(al:c1 s)(an:s.prop≠ [])(h:r8 s=false):gO s= {s with cG:=kT s}:=by
 unfold gO
 simp_all
theorem asz(al:c1 s)(an:s.prop≠ [])(h:r8 s=true):gO s=np {s with cG:=kT s}:=by
 unfold gO
 simp_all
theorem NG(bb:∀x∈s.aQ,b/\x.aD=ρ)(an:s.phase=0\/b/\s.aD=ρ):∀p∈hA s,rF b ρ p.m:=by
 intro p ah;unfold hA at ah;rw[eo,eo]at ah;rcases ah with(ah|ah)|ah
 ·unfold yd at ah;cases aj: (hY s.box s.self).2
  ·grind
  ·rw[aj]at ah;rw[eX.1 ah];exact .inl rfl
 ·unfold vy at ah;cases h1:decide (s.phase=1)
  ·cases ad:decide (s.phase=2)
   ·grind
   ·rw[h1,ad]at ah;have ad:=fi ad;rw[eX.1 ah];rcases an with an|an
    ·omega
    ·exact .inr ⟨an.1,(by show (4:Int)≠6;omega),an.2⟩
  ·rw[h1]at ah;have h1:=fi h1;rw[eX.1 ah];rcases an with an|an
   ·omega
   ·exact .inr ⟨an.1,(by show (2:Int)≠6;omega),an.2⟩
 ·unfold ye at ah;cases ac:decide (0<=eS s.aQ s.self)&& !decide (s.phase=2)
  ·grind
  ·rw[ac]at ah;obtain⟨_,hk⟩:=zJ ((cq ..).mp ac).1;have aA:s.aQ.getD (eS s.aQ s.self).toNat dA∈s.aQ:=by grind
   generalize s.aQ.getD (eS s.aQ s.self).toNat dA=r at *;rw[eX.1 ah];have:=bb r aA;exact .inr ⟨this.1,(by show (5:Int)≠6;omega),this.2⟩
theorem adT(h:s.phase=1):eF s 0 2 s.aD 0 []∈hA s:=by
 unfold hA vy
 grind
theorem adU(h:s.phase=2):eF s 0 4 s.aD 0 s.c4∈hA s:=by
 unfold hA vy
 grind
theorem NH(al:c1 s)(az:fX s)(hu:iu b ρ w s)(x8:0<=w)(vo:w<=1000){k:Nat}(hk:gG s.view.mem s.self=(k:Int))(CK:k<=16)(aW:w+1<8+6* (k:Int)):
  (cQ s).1.dec≠ []\/(iu b ρ (w+1) (cQ s).1/\(cQ s).1.aQ=s.aQ/\(∀p∈ (cQ s).2,rF b ρ p.m)/\hh s=[]):=by
 obtain⟨aC,aG⟩:=adR al hu.cG x8 vo hk CK aW;rw[Fq al az hu.dec,adS al hu.prop aG,aC];by_cases jC:hh s=[]
 ·right;have bc:dl {s with cG:=w+1} (hA {s with cG:=w+1})=({s with cG:=w+1},hA {s with cG:=w+1}):=by
   unfold dl;have cn:hh {s with cG:=w+1}=hh s:=rfl
   grind
  rw[bc];exact⟨⟨hu.dec,hu.prop,hu.cg,hu.nN,hu.aQ,hu.iq,hu.h9,rfl⟩,rfl,NG (s:={s with cG:=w+1}) hu.aQ (.inl hu.h9),jC⟩
 ·left;exact adQ (s:={s with cG:=w+1}) hu.dec jC _
theorem asA(al:c1 s)(az:fX s)(hu:sl ρ w s)(x8:0<=w)(vo:w+1<8){k:Nat}(hk:gG s.view.mem s.self=(k:Int))(CK:k<=16):
  (cQ s).1.dec≠ []\/(sl ρ (w+1) (cQ s).1/\(cQ s).1.aQ=s.aQ/\(cQ s).1.phase=s.phase/\(cQ s).1.bw=s.bw/\(∀p∈ (cQ s).2,rF True ρ p.m)/\(s.phase=1->∃p∈ (cQ s).2,p.da=0/\p.m.kind=2/\p.m.src=s.self)/\(s.phase=2->∃p∈ (cQ s).2,p.da=0/\p.m.kind=4/\p.m.src=s.self)/\hh s=[]):=by
 obtain⟨aC,aG⟩:=adR al hu.cG x8 (by omega) hk CK (by omega);rw[Fq al az hu.dec,adS al hu.prop aG,aC];by_cases jC:hh s=[]
 ·right;have bc:dl {s with cG:=w+1} (hA {s with cG:=w+1})=({s with cG:=w+1},hA {s with cG:=w+1}):=by
   unfold dl;have cn:hh {s with cG:=w+1}=hh s:=rfl
   grind
  rw[bc];refine⟨⟨hu.dec,hu.prop,hu.cg,hu.nN,hu.aQ,hu.iq,rfl⟩,rfl,rfl,rfl,NG (s:={s with cG:=w+1}) (λx ah=>⟨ai,hu.aQ x ah⟩) (.inr ⟨ai,hu.iq⟩),λh=>⟨_,adT (s:={s with cG:=w+1}) h,rfl,rfl,rfl⟩,λh=>⟨_,adU (s:={s with cG:=w+1}) h,rfl,rfl,rfl⟩,jC⟩
 ·left;exact adQ (s:={s with cG:=w+1}) hu.dec jC _
end
theorem asB(h1:s.aD=0)(ad:s.aP.cg=0)(aN:1<=s.self)(bt:s.self<=1000):iC s=1024+s.self:=by
 unfold iC;rw[h1,ad];have e:IntKind.i64.wrap ((if IntKind.i64.wrap (Int.tdiv 0 1024)<IntKind.i64.wrap (Int.tdiv 0 1024)then IntKind.i64.wrap (Int.tdiv 0 1024)else IntKind.i64.wrap (Int.tdiv 0 1024))+1)=1:=by decide
 rw[e,RX (by omega) (by omega) aN bt];omega
theorem asC{ρ w:Int}(al:c1 s)(az:fX s)(hu:iu False ρ w s)(x8:0<=w)(vo:w<=1000){k:Nat}(hk:gG s.view.mem s.self=(k:Int))(CK:k<=16)(aW:8+6* (k:Int)<=w+1)(zd:ρ=1024+s.self):
  (cQ s).1.dec≠ []\/(sl ρ 0 (cQ s).1/\(∀p∈ (cQ s).2,rF True ρ p.m)/\((cQ s).1.phase=1->∃p∈ (cQ s).2,p.da=0/\p.m.kind=2/\p.m.src=s.self)/\((cQ s).1.phase=2->∃p∈ (cQ s).2,p.da=0/\p.m.kind=4/\p.m.src=s.self)):=by
 obtain⟨aC,aG⟩:=asy al hu.cG x8 vo hk CK aW;have ie:=Mo al.v al.self;have asD:s.aP.cg=0:=hu.cg.resolve_right (λh=>h.1);have asE:s.aP.aD=0:=hu.nN.resolve_right (λh=>h.1);have awA:s.aQ=[]:=by
  cases s4:s.aQ with
  |nil=>rfl
  |cons x l=>exact absurd (hu.aQ x (by grind)).1 id
 have lg:=Mv al (w:=w+1) (by omega) (by omega);have ze:iC {s with cG:=w+1}=ρ:=by
  rw[zd];exact asB (s:={s with cG:=w+1}) hu.iq asD ie.1 ie.2
 rw[Fq al az hu.dec,asz al hu.prop aG,aC];obtain⟨an,aH⟩:=abl lg (by omega);have ao:jt ρ=true:=by
  have:=(nL an).1
  grind
 have asF: (ip ({s with cG:=w+1}:bj).aP ρ)=(⟨ρ,s.aP.aD,s.aP.cut⟩,⟨0,s.aP.aD,s.aP.cut⟩,true):=by
  unfold ip;show (bif !k8 s.aP then _ else bif !jt ρ||decide (ρ<s.aP.cg)then _ else _)=_;rw[al.aP,ao,cX (by omega)];rfl
 have asG:np {s with cG:=w+1}=gC (EN {s with cG:=w+1}):=by
  unfold np;rw[ze,asF,cX (show ¬ρ=0 by omega)];unfold EN
  grind
 rw[asG];have adV:=Mu lg hu.prop (by omega) aH (by
  grind)
 obtain⟨cP,_,a3⟩:=adP (w:=0) (ρ:=ρ) adV hu.dec hu.prop ze asE (λx ah=>by
  have ah:x∈s.aQ:=ah
  grind) ze rfl rfl ao
 have adW:=(EK adV).2.2.2.1;generalize gC (EN {s with cG:=w+1})=T at *;rcases CJ cP.dec (hA T)with h|h
 ·grind
 ·right;rw[h];refine⟨cP,NG (λx ah=>⟨ai,cP.aQ x ah⟩) (.inr ⟨ai,cP.iq⟩),λh1=>⟨_,adT h1,rfl,rfl,adW⟩,λad=>⟨_,adU ad,rfl,rfl,adW⟩⟩
theorem UR{A B:List Mem}(h:A.map (·.self)=B.map (·.self)){i:Nat}(bb:i<A.length)(ac:i<B.length):A[i].self=B[i].self:=by
 have e:=e9 (λl=>l[i]?) h
 grind
section
variable {bz:aK->Int->Prop} {T:Nat} {G:jg} {Ms:List Mem} {aL:List dC} {cb:Int->Int->Bool} {au:List Bool}
theorem adX(iE:∀a b,cb a b=false)(h:lF bz T G Ms aL)(ix:∀f∈aL,∃i,∃hi:i<Ms.length,Ms[i].self=f.src)
  {I:Nat->Mem->List dC->List dg->Prop} (aR:∀i (hi:i<Ms.length),au.getD i true=false->I i Ms[i] [] [])
  (ae:∀i (hi:i<Ms.length),au.getD i true=false->∀s l o f bk,bk.v0=G.v0->dt bz T bk->fS bk s->s.self=Ms[i].self->f∈aL->f.dst=s.self->f.src≠s.self->oc bk f.src f.bq->I i s l o->I i (fm s f.src f.bq).1 (l++ [f]) (o++(fm s f.src f.bq).2)):
  ∀k,k<=aL.length->∃ (L:Nat->List dC) (O:Nat->List dg),
   (∀i (hi:i<Ms.length),au.getD i true=false->I i ((eW cb au Ms aL k).1.getD i du) (L i) (O i)/\∀f∈aL.take k,f.dst=Ms[i].self->f∈L i)/\
   (∀f,f∈ (eW cb au Ms aL k).2↔∃i,∃hi:i<Ms.length,au.getD i true=false/\∃p∈O i,f=l1 Ms[i].self p)/\(eW cb au Ms aL k).1.map (·.self)=Ms.map (·.self)
 |0,_=>by
  refine⟨λ_=>[],λ_=>[],λi hi aa=>⟨?_,λf az=>by grind⟩,λf=> ?_,rfl⟩
  ·have aw:Ms.getD i du=Ms[i]:=by grind
   show I i (Ms.getD i du) [] []
   grind
  ·constructor
   ·intro az;cases az
   simp
 |k+1,hk=>by
  obtain⟨L,O,cP,a2,a3⟩:=adX iE h ix aR ae k (by omega);obtain⟨⟨bk,e',dI⟩,_⟩:=I3 cb au h k (by omega);have ax:k<aL.length:=by omega
  have aw:aL.getD k Fl=aL[k]:=by grind
  have j5:aL[k]∈aL:=eM ax;have hlen: (eW cb au Ms aL k).1.length=Ms.length:=CI cb au Ms aL k;have pU:aL.take (k+1)=aL.take k++ [aL[k]]:=e4 ax;unfold eW;rw[aw,pU];generalize eW cb au Ms aL k=X at *;generalize aL[k]=f at *;have ie:∀i (hi:i<Ms.length) (df:i<X.1.length),X.1[i].self=Ms[i].self:=λi hi df=>UR a3 df hi;obtain⟨f1,f2,f3⟩:=dI.im f (C6 _ j5);obtain⟨kE,ni,fw⟩:=ix f j5;unfold tf;have yX:¬lE X.1 f.src<0:=by
   rcases Ag X.1 f.src with⟨_,aW⟩| ⟨j,aq,e,_⟩;all_goals grind
  rw[bo yX];rcases Ag X.1 f.dst with⟨aC,aW⟩| ⟨b,ac,aC,aG,_⟩
  ·rw[b6 (by omega)];refine⟨L,O,λi hi aa=>⟨(cP i hi aa).1,λg hT jx=> ?_⟩,a2,a3⟩
   grind
  ·have US:b<Ms.length:=by omega
   rw[bo (by omega),aC,lH,iE,Bool.or_false];cases p5:au.getD b true
   ·have Q0:X.1.getD b du=X.1[b]:=by grind
    have bu:f.src≠X.1[b].self:=by omega
    have ao:=(Uv dI.g (dI.mem b ac) bu f1).1;have cp:=ae b US p5 X.1[b] (L b) (O b) f bk e' dI.g (dI.mem b ac) (ie b US ac) j5 aG.symm bu f1 (by grind);rw[Q0,bs];have Ks:=ao.trans (ie b US ac);generalize fm X.1[b] f.src f.bq=R at *;refine⟨λi=>if i=b then L b++ [f]else L i,λi=>if i=b then O b++R.2 else O i,λi hi aa=> ?_,λg=> ?_,?_⟩
    ·by_cases e:i=b
     ·grind
     ·simp only[];rw[bo e,bo e];have rb: (X.1.set b R.1).getD i du=X.1.getD i du:=by
       grind
      rw[rb];refine⟨(cP i hi aa).1,λg hT jx=> ?_⟩;rcases eo.1 hT with hT|hT
      ·grind
      ·exfalso;rw[eX.1 hT]at jx;exact dI.k3 i b (by omega) ac e (by grind)
    ·grind
    ·simp only[];rw[nQ,ao,<-a3];have: (X.1.map (·.self))[b]'(by grind)=X.1[b].self:=by simp
     rw[<-this,FT]
   ·rw[bY];refine⟨L,O,λi hi aa=>⟨(cP i hi aa).1,λg hT jx=> ?_⟩,a2,a3⟩;rcases eo.1 hT with hT|hT
    ·grind
    ·exfalso;rw[eX.1 hT]at jx;by_cases e:i=b
     ·grind
     ·exact dI.k3 i b (by omega) ac e (by grind)
theorem adY{X:List Mem×List dC}(h:lF bz T G X.1 X.2)(bC:∀i (hi:i<X.1.length),X.1[i].hist.length<T)(dd:∀i (hi:i<X.1.length),au.getD i true=false->mw bz X.1[i]):∀i,i<=X.1.length->
  (∀j,(kH au X i).1.getD j du=if j<i/\au.getD j true=false then(fy (X.1.getD j du)).1 else X.1.getD j du)/\
  (∀f,f∈ (kH au X i).2↔f∈X.2\/∃j,j<i/\au.getD j true=false/\∃p∈ (fy (X.1.getD j du)).2,f=l1 (X.1.getD j du).self p)
 |0,_=>by
  refine⟨λj=> ?_,λf=> ?_⟩
  ·rfl
  ·constructor
   ·exact λaz=>.inl az
   ·rintro(az| ⟨j,aq,_⟩)
    ·exact az
    ·omega
 |i+1,hi=>by
  obtain⟨cP,a2⟩:=adY h bC dd i (by omega);have eI:i<X.1.length:=by omega
  have gQ: (kH au X i).1.length=X.1.length:=I1 au X i;have gy:=cP i;rw[bo (by omega)]at gy;have asH:X.1.getD i du=X.1[i]:=by grind
  unfold kH sk;rw[gy];generalize kH au X i=Y at *;cases aa:au.getD i true
  ·rw[bs];have ae: (fy (X.1.getD i du)).1.self=(X.1.getD i du).self:=by rw[asH];exact(Nz h.g (h.mem i eI) (bC i eI) (dd i eI aa)).1
   grind
  grind
theorem asI(iE:∀a b,cb a b=false)(Bt:au.length=Ms.length)(aW:Ms.length<=8)(h:lF bz T G Ms aL)(ay:T+1<=399)(hw:mT Ms+kI aL<=10800*Ms.length+80000*T)(ix:∀f∈aL,∃i,∃hi:i<Ms.length,Ms[i].self=f.src)
  {I:Nat->Mem->List dC->List dg->Prop} {Q:Nat->Mem->List dg->Prop} (aR:∀i (hi:i<Ms.length),au.getD i true=false->I i Ms[i] [] [])
  (ae:∀i (hi:i<Ms.length),au.getD i true=false->∀s l o f bk,bk.v0=G.v0->dt bz T bk->fS bk s->s.self=Ms[i].self->f∈aL->f.dst=s.self->f.src≠s.self->oc bk f.src f.bq->I i s l o->I i (fm s f.src f.bq).1 (l++ [f]) (o++(fm s f.src f.bq).2))
  (an:∀i (hi:i<Ms.length),au.getD i true=false->∀s l o bk,bk.v0=G.v0->dt bz T bk->fS bk s->s.self=Ms[i].self->(∀f∈aL,f.dst=s.self->f∈l)->I i s l o->mw bz s)
  (cH:∀i (hi:i<Ms.length),au.getD i true=false->∀s l o bk,bk.v0=G.v0->dt bz (T+1) bk->fS bk s->s.hist.length<T+1->s.self=Ms[i].self->(∀f∈aL,f.dst=s.self->f∈l)->I i s l o->mw bz s->Q i (fy s).1 (o++(fy s).2)):
  vN cb au Ms aL/\(∃bk,bk.v0=G.v0/\lF bz (T+1) bk (cJ cb au Ms aL).1 (cJ cb au Ms aL).2)/\(cJ cb au Ms aL).1.length=Ms.length/\mT (cJ cb au Ms aL).1+kI (cJ cb au Ms aL).2<=10800*Ms.length+80000* (T+1)/\
  (cJ cb au Ms aL).1.map (·.self)=Ms.map (·.self)/\(∀f∈ (cJ cb au Ms aL).2,∃i,∃hi:i<Ms.length,au.getD i true=false/\Ms[i].self=f.src)/\
  ∃O:Nat->List dg,(∀i (hi:i<Ms.length),au.getD i true=false->Q i ((cJ cb au Ms aL).1.getD i du) (O i))/\
   ∀f,f∈ (cJ cb au Ms aL).2↔∃i,∃hi:i<Ms.length,au.getD i true=false/\∃p∈O i,f=l1 Ms[i].self p:=by
 obtain⟨L,O,cP,a2,a3⟩:=adX (cb:=cb) (au:=au) iE h ix aR ae aL.length (bP _);obtain⟨⟨qc,aC,h1⟩,_⟩:=I3 cb au h aL.length (bP _);have ic:=CI cb au Ms aL aL.length;have ie:∀i (hi:i<Ms.length) (df:i<(eW cb au Ms aL aL.length).1.length),(eW cb au Ms aL aL.length).1[i].self=Ms[i].self:=λi hi df=>UR a3 df hi;have NI:∀i (hi:i<(eW cb au Ms aL aL.length).1.length),au.getD i true=false->mw bz (eW cb au Ms aL aL.length).1[i]:=λi hi aa=>by
  have df:i<Ms.length:=by omega
  obtain⟨cY,cZ⟩:=cP i df aa;have aw: (eW cb au Ms aL aL.length).1.getD i du=(eW cb au Ms aL aL.length).1[i]:=by grind
  rw[aw]at cY;rw[fU]at cZ;exact an i df aa _ _ _ qc aC h1.g (h1.mem i hi) (ie i df hi) (λf az mh=>cZ f az (mh.trans (ie i df hi))) cY
 obtain⟨dE,dL,eY,iI⟩:=ar1 cb au Bt aW h ay hw NI;have j0:=asl cb au h ay NI;have hg:lF bz (T+1) qc (eW cb au Ms aL aL.length).1 (eW cb au Ms aL aL.length).2:=by
  have:=UH h1 (uu:=(eW cb au Ms aL aL.length).2) (λf az=>mW _ az);exact⟨UI this.g ay,this.mem,this.k3,this.im,this.bq⟩
 have bC:∀i (hi:i<(eW cb au Ms aL aL.length).1.length),(eW cb au Ms aL aL.length).1[i].hist.length<T+1:=λi hi=>by
  have:=UJ (h1.mem i hi);have:=h1.g.len;omega
 obtain⟨t1,t2⟩:=adY (au:=au) hg bC NI Ms.length (by omega);have key:∀f,f∈ (cJ cb au Ms aL).2↔∃i,∃hi:i<Ms.length,au.getD i true=false/\∃p∈O i++(fy ((eW cb au Ms aL aL.length).1.getD i du)).2,f=l1 Ms[i].self p:=λf=>by
  unfold cJ
  grind
 refine⟨dE,dL,eY,iI,j0,λf az=> ?_,λi=>O i++(fy ((eW cb au Ms aL aL.length).1.getD i du)).2,λi hi aa=> ?_,key⟩
 ·obtain⟨i,hi,aa,p,_,e⟩:=(key f).1 az;exact⟨i,hi,aa,by rw[e];rfl⟩
 ·have df:i<(eW cb au Ms aL aL.length).1.length:=by omega
  obtain⟨cY,cZ⟩:=cP i hi aa;rw[fU]at cZ;have aw: (eW cb au Ms aL aL.length).1.getD i du=(eW cb au Ms aL aL.length).1[i]:=by grind
  have e:=t1 i;rw[b6 ⟨hi,aa⟩]at e;unfold cJ;simp only[]at e⊢;rw[e,aw];rw[aw]at cY;exact cH i hi aa _ _ _ qc aC hg.g (hg.mem i df) (bC i df) (ie i hi df) (λf az mh=>cZ f az (mh.trans (ie i hi df))) cY (NI i df aa)
end
def qQ:Nat->nG
 |0=>⟨0,0⟩
 |a+1=>jF (qQ a) false
theorem adZ:∀a:Fin 11,r0 (qQ a.1)=decide (a.1=10):=by decide+kernel
theorem asJ:jF (qQ 10) false=qQ 10:=by kernel_rfl
theorem ad0:∀ {a:Nat},10<=a->qQ a=qQ 10
 |0,h=>by omega
 |a+1,h=>by
  by_cases e:a+1=10
  ·rw[e]
  ·show jF (qQ a) false=_;rw[ad0 (by omega),asJ]
theorem UT(a:Nat):r0 (qQ a)=decide (10<=a):=by
 by_cases h:a<11
 ·have:=adZ ⟨a,h⟩
  grind
 ·have:=adZ ⟨10,by decide⟩;simp only[]at this;rw[ad0 (by omega),this,ep (show 10<=a by omega)];rfl
theorem asK:∀n:Fin 1024,pg ((n.1:Int) *2%1024+0) 10<=pg (n.1:Int) 10/\pg ((n.1:Int) *2%1024+1) 10<=pg (n.1:Int) 10+1:=by decide+kernel
theorem asL(h:pW w=true)(ac:0<=w.bits):pg (jF w true).bits 10<=pg w.bits 10/\pg (jF w false).bits 10<=pg w.bits 10+1:=by
 obtain⟨_,_,_,bt⟩:=LK h ac;obtain⟨n,aW⟩:=qU ac;have:=asK ⟨n,by omega⟩;unfold jF
 grind
theorem ad1(h:pg w.bits 10<=3):r0 w=false:=by
 unfold r0
 grind
def asM(a:Nat)(e:Edge):Prop:=e.j9=qQ a/\e.mn=false/\e.hq=decide (10<=a)
def asN(b:Nat)(e:Edge):Prop:=pg e.j9.bits 10<=(b:Int)/\e.hq=false
def yu(C:Int->Prop)(d:jr)(a b:Nat):Prop:=∀e∈d.bN,(C e.bI->asM a e)/\(¬C e.bI->asN b e)
def qR(d:jr)(y:Int):Prop:=∀e∈d.bN,e.bI=y->e.mn=true
section
variable {C:Int->Prop} {v:aK} {id:Int} {d:jr} {a b b':Nat}
theorem asO(ab:b0 v=true)(hi:bH v.mem id=true):yu C (gA v id).1 0 0:=λe he=>by
 rw[Nj ab hi]at he;have he:e∈mL (ft v.mem id) (ft v.mem id).length:=he;obtain⟨k,_,rfl⟩:=fT.1 he;exact⟨λ_=>⟨rfl,rfl,rfl⟩,λ_=>⟨by show pg 0 10<=0;decide,rfl⟩⟩
theorem ad2(ab:b0 v=true)(hi:bH v.mem id=true)(aw:pZ v id d){x:Int}(ah:¬C x)(h:yu C d a b):yu C (nH d x) a b/\qR (nH d x) x/\∀y,qR d y->qR (nH d x) y:=by
 have aa:=IK ab hi aw;unfold nH;rw[aa,kY,bs];have key:∀e'∈d.bN.map (vk x),∃e∈d.bN,e'.bI=e.bI/\e'.j9=e.j9/\e'.hq=e.hq/\(e.bI=x->e'.mn=true)/\(e.bI≠x->e'.mn=e.mn):=λe' he=>by
  obtain⟨e,CL,rfl⟩:=fT.1 he;refine⟨e,CL,?_⟩;unfold vk
  grind
 refine⟨λe' he=> ?_,λe' he ae=> ?_,λy bn e' he ae=> ?_⟩
 ·obtain⟨e,he,cU,dh,hR,hL,nk⟩:=key e' he;obtain⟨h1,ad⟩:=h e he;refine⟨λaj=> ?_,λaj=> ?_⟩
  ·rw[cU]at aj;obtain⟨dj,dM,gJ⟩:=h1 aj;have bu:e.bI≠x:=λaG=>ah (aG▸aj);exact⟨dh.trans dj,(nk bu).trans dM,hR.trans gJ⟩
  ·rw[cU]at aj;obtain⟨dj,dM⟩:=ad aj;exact⟨by grind,hR.trans dM⟩
 ·grind
 ·obtain⟨e,he,cU,dh,hR,hL,nk⟩:=key e' he;by_cases aj:e.bI=x
  ·grind
  ·rw[nk aj];exact bn e he (cU.symm.trans ae)
theorem ad3(ab:b0 v=true)(hi:bH v.mem id=true)(aw:pZ v id d)(h:yu C d a b)(ac:b+1<=b'\/(b<=b'/\∀e∈d.bN,¬C e.bI->e.mn=true))(aN:b'<=3):
  yu C (cR d).1 (a+1) b'/\(∀z∈ (cR d).2,C z.bI/\a+1=10/\z.ka=id/\∃e∈d.bN,z.bI=e.bI)/\(a+1=10->∀e∈d.bN,C e.bI->(⟨v.num,e.ev,id,e.bI⟩:bU)∈ (cR d).2):=by
 have aa:=IK ab hi aw;obtain⟨g1,g2,g3,g4⟩:=aw;unfold cR;rw[aa,kY,bs];have eh:∀e∈d.bN,¬C e.bI->pg (jF e.j9 e.mn).bits 10<=(b':Int):=λe he aj=>by
  obtain⟨k,hk,rfl⟩:=e8 he;obtain⟨_,_,eE,gW⟩:=g4 k hk;have an:=asL eE gW;have h1:=((h _ he).2 aj).1;cases bC:d.bN[k].mn;all_goals grind
 refine⟨λe' he=> ?_,λz bx=> ?_,λbb e he aj=> ?_⟩
 ·obtain⟨e,CL,rfl⟩:=fT.1 he;refine⟨λaj=> ?_,λaj=> ?_⟩
  ·obtain⟨dj,dM,gJ⟩:=(h e CL).1 aj;refine⟨?_,rfl,?_⟩
   ·show jF e.j9 e.mn=qQ (a+1);rw[dj,dM];rfl
   ·show (e.hq||r0 (jF e.j9 e.mn))=decide (10<=a+1);rw[dj,dM,gJ,show jF (qQ a) false=qQ (a+1) from rfl,UT]
    grind
  ·have q:=eh e CL aj;refine⟨q,?_⟩;show (e.hq||r0 (jF e.j9 e.mn))=false;rw[((h e CL).2 aj).2,ad1 (by omega)];rfl
 ·have bx:z∈r1 d d.bN.length:=bx;unfold r1 at bx;rw[fU]at bx;obtain⟨e,he,rfl⟩:=fT.1 bx;obtain⟨he,bC⟩:=h2.1 he;unfold zw at bC;rw[cq]at bC;by_cases aj:C e.bI
  ·obtain⟨dj,dM,gJ⟩:=(h e he).1 aj;rw[dj,dM,gJ,show jF (qQ a) false=qQ (a+1) from rfl,UT]at bC;have h1:=fi bC.1;have ad:¬10<=a:=λx=>by
    grind
   exact⟨aj,by omega,g2,e,he,rfl⟩
  ·have q:=eh e he aj;rw[ad1 (by omega)]at bC
   grind
 ·show _∈r1 d d.bN.length;unfold r1;rw[fU];obtain⟨dj,dM,gJ⟩:=(h e he).1 aj;refine fT.2 ⟨e,h2.2 ⟨he,?_⟩,?_⟩
  ·unfold zw;rw[dj,dM,gJ,show jF (qQ a) false=qQ (a+1) from rfl,UT,ep (show 10<=a+1 by omega),cX (show ¬10<=a by omega)];rfl
  ·unfold LN
   grind
theorem UU(aw:pZ v id d){e:Edge}(he:e∈d.bN):e.bI∈ft v.mem id:=by
 obtain⟨g1,g2,g3,g4⟩:=aw;obtain⟨k,hk,rfl⟩:=e8 he
 grind
theorem asP(ab:b0 v=true)(hi:bH v.mem id=true)(aw:pZ v id d){z:bU}(bx:gB v z=true)(aH:z.ka=id)(ae:z.bI∈v.mem)(bu:z.bI≠id):∃e∈d.bN,z= ⟨v.num,e.ev,id,e.bI⟩:=by
 obtain⟨g1,g2,g3,g4⟩:=aw;obtain⟨fk,jo,v3,v4,v5,v6,ad4⟩:=Fa bx;have si:=(kF ab).2.2;have cL:=gz.1 hi;obtain⟨r,ao⟩:=qU v3;have CM:r<5:=by omega
 have ad:2<=v.mem.length:=by
  obtain⟨i,df,aC⟩:=e8 ae;obtain⟨j,aq,aG⟩:=e8 cL
  grind
 have CN:cv v.mem z.bI=(List.range 5).map (k6 v.mem z.bI):=by
  unfold cv
  grind
 have an:k6 v.mem z.bI r=id:=by
  grind
 have aW:=(Rr si CM cL ae (λe=>bu e.symm)).1 an;have cF:ft v.mem id=n2 v.mem id 5:=by
  unfold ft
  grind
 have af:r<d.bN.length:=by
  rw[g3,cF];simp[n2];omega
 obtain⟨a8,eE,_,_⟩:=g4 r af;refine⟨d.bN[r],eM af,?_⟩;rw[a8,eE,cF];have: (n2 v.mem id 5).getD r 0=z.bI:=by
  unfold n2
  grind
 rw[this];obtain⟨xy,mH,z3,z4⟩:=z
 grind
end
theorem asQ{l:List bU}{a:bU}(af:dF v l=true)(bb:gB v a=true)(x:bU):x∈ (k7 l a).1↔x∈l\/x=a:=by
 obtain⟨_,h1,ad⟩:=s0.1 af;obtain⟨g1,g2,g3,g4,g5⟩:=RQ ad a;constructor
 ·grind
 ·rintro(ah|rfl)
  ·grind
  ·rcases g5 with h| ⟨e,he,iW,mG⟩
   ·exact h
   ·have:=acF (h1 e he) bb iW mG
    grind
variable{s:Mem}
theorem ad5{a:bU}(af:dF s.view s.als=true)(x:bU):x∈ (mS s a).als↔x∈s.als\/(x=a/\gB s.view a=true):=by
 unfold mS;cases aj:decide ((nI s.view s.als a).2.2=0)
 ·rw[bs];refine⟨.inl,?_⟩;rintro(h| ⟨_,h⟩)
  ·exact h
  ·exfalso;have aR:=qX aj;apply aR;obtain⟨_,dj,dM,_,_⟩:=Cs h;unfold nI
   grind
 ·obtain⟨h1,ad⟩:=ac5 af (fi aj);rw[bY];show x∈ (nI s.view s.als a).1↔_;rw[ad,asQ af h1]
  grind
theorem ad6{s:Mem}{l:List bU}(af:dF s.view s.als=true)(x:bU):∀i,i<=l.length->(x∈ (jX s l i).als↔x∈s.als\/(x∈l.take i/\gB s.view x=true))
 |0,_=>by simp[jX]
 |i+1,hi=>by
  have hk:=(w5 s l i).1;have aw:l.getD i gf=l[i]:=by grind
  unfold jX;rw[ad5 (by rw[hk];exact IR af i),ad6 af x i (by omega),hk,aw,e4 (by omega),eo,eX]
  grind
theorem ad7{s:Mem}{y:Int}(af:dF s.view s.als=true)(x:bU):∀i,i<=(l0 s.view.mem s.self y).length->(x∈ (kG s y i).als↔x∈s.als\/((∃r∈ (l0 s.view.mem s.self y).take i,x= ⟨s.view.num,r,s.self,y⟩)/\gB s.view x=true))
 |0,_=>by simp[kG]
 |i+1,hi=>by
  have hk:=(Iu s y i).1;have aw: (l0 s.view.mem s.self y).getD i 0=(l0 s.view.mem s.self y)[i]:=by grind
  unfold kG;rw[ad5 (by rw[hk];exact Uf af i),ad7 af x i (by omega),hk,aw,e4 (by omega)]
  grind
theorem UV{y:Int}(af:dF s.view s.als=true)(x:bU):x∈ (gZ s y).als↔x∈s.als\/((∃r∈l0 s.view.mem s.self y,x= ⟨s.view.num,r,s.self,y⟩)/\gB s.view x=true):=by
 have:=ad7 (y:=y) af x _ (bP _);rw[fU]at this;exact this
theorem asR{a:Int}{z:bU}(bx:gB v z=true)(aH:z.ka=a)(bb:1<=a/\a<=1000):∃r∈l0 v.mem a z.bI,z= ⟨v.num,r,a,z.bI⟩:=by
 obtain⟨fk,jo,v3,v4,v5,v6,ad4⟩:=Fa bx;refine⟨z.ev,?_,?_⟩
 ·unfold l0;rw[ep bb.1,ep bb.2];show z.ev∈vj (cv v.mem z.bI) a (cv v.mem z.bI).length;unfold vj
  grind
 ·obtain⟨xy,mH,z3,z4⟩:=z
  grind
theorem ad8{s:Mem}{l:List Int}(af:dF s.view s.als=true):∀i,i<=l.length->(∀z∈s.als,z∈ (ki s l i).als)/\∀z∈ (ki s l i).als,z∈s.als\/(z.ka=s.self/\z.bI∈l)
 |0,_=>⟨λz h=>h,λz h=>.inl h⟩
 |i+1,hi=>by
  have hk:=E7 s l i;have aw:l.getD i 0=l[i]:=by grind
  obtain⟨h1,ad⟩:=ad8 (l:=l) af i (by omega);have ab:=Ug (l:=l) af i;rw[<-hk.1]at ab;unfold ki;rw[aw];refine⟨λz bx=>(UV ab z).2 (.inl (h1 z bx)),λz bx=> ?_⟩;rcases(UV ab z).1 bx with h| ⟨⟨r,_,e⟩,_⟩;all_goals grind
theorem asS(x:Int)(l:List iD)(U:List Int):∀y∈iT x l U,y∈U:=λy bn=>(h2.1 (h2.1 bn).1).1
variable{A:List bU}
theorem ad9(h:dF v A=true){b:Bool}{x:Int}(ah:x∈ex v A b):∃z∈A,z.bI=x:=by
 have:=(Ub h).1 ah;obtain⟨z,bx,e⟩:=fT.1 (Ua h (x:=x) (by omega)).1
 grind
theorem asT(af:dF s.view s.als=true): (∀z∈s.als,z∈ (qa s).als)/\∀z∈ (qa s).als,z∈s.als\/(z.ka=s.self/\∃y∈s.als,y.bI=z.bI):=by
 unfold qa nM;simp only[];obtain⟨h1,ad⟩:=ad8 (s:={s with dbts:=kh s.self s.dbts (ex s.view s.als false)}) (l:=iT s.self s.dbts (ex s.view s.als false)) af _ (bP _);refine⟨h1,λz bx=> ?_⟩;rcases ad z bx with h| ⟨aN,bt⟩
 ·grind
 ·exact .inr ⟨aN,ad9 af (asS _ _ _ _ bt)⟩
theorem NJ(af:dF s.view s.als=true): (∀z∈s.als,z∈ (b1 s).als)/\(∀z∈ (cR s.a7).2,gB s.view z=true->z∈ (b1 s).als)/\
  ∀z∈ (b1 s).als,z∈s.als\/z∈ (cR s.a7).2\/(z.ka=s.self/\∃y,(y∈s.als\/y∈ (cR s.a7).2)/\y.bI=z.bI):=by
 have hk:=w5 {s with a7:=(cR s.a7).1} (cR s.a7).2 (cR s.a7).2.length;have aA:=λx=>ad6 (s:={s with a7:=(cR s.a7).1}) (l:=(cR s.a7).2) af x _ (bP _);rw[fU]at aA;have ab:=IR (s:={s with a7:=(cR s.a7).1}) (l:=(cR s.a7).2) af (cR s.a7).2.length;have e: (mv {s with a7:=(cR s.a7).1} (cR s.a7).2).view=s.view:=hk.1;have ao:=asT (s:=mv {s with a7:=(cR s.a7).1} (cR s.a7).2) (by rw[e];exact ab);have es: (mv {s with a7:=(cR s.a7).1} (cR s.a7).2).self=s.self:=hk.2.1;rw[es]at ao;have aA:∀x,x∈ (mv {s with a7:=(cR s.a7).1} (cR s.a7).2).als↔x∈s.als\/(x∈ (cR s.a7).2/\gB s.view x=true):=aA;refine⟨λz bx=>ao.1 z ((aA z).2 (.inl bx)),λz bx asU=>ao.1 z ((aA z).2 (.inr ⟨bx,asU⟩)),λz bx=> ?_⟩;rcases ao.2 z bx with h| ⟨h1,y,bn,e⟩;all_goals grind
theorem aea(v:aK):∀ (n:Nat) (l:List Int),∀x∈ (pn v n l).1,x∈l
 |0,l,x,ah=>by
  rw[pn]at ah;cases ah
 |n+1,l,x,ah=>by
  rw[pn]at ah;cases h1:decide ((dJ v l).2=0)
  ·rw[h1,bs]at ah;cases ad: (!decide ((dJ v l).2=5)||decide (((e6 v l).length:Int)=0))
   ·rw[ad,bs]at ah;have:=aea v n _ x ah
    grind
   grind
  grind
theorem asV(h:dF v A=true):∀x∈ (dm v A).1,∃z∈A,z.bI=x:=λx ah=>by
 unfold dm at ah;cases h1:decide (0<((ex v A false).length:Int))
 ·rw[h1]at ah;exact ad9 h (aea v _ _ x ah)
 grind
theorem aeb(h: (dm v A).2=true):∃z∈A,True:=by
 cases al:A with
 |nil=>
  rw[al]at h;have fw:kd ([]:List Int)=[]:=v2.1 (by have:=B9 ([]:List Int);grind);have e:∀b,ex v [] b=[]:=λb=>by
   unfold ex ul
   grind
  unfold dm at h;rw[e,e,acY]at h;cases h
 |cons z l=>simp
variable{ms:List Int}
theorem aec{x:Int}{r:Nat}(ab:dq ms 16=true)(ao:r<5):k6 ms x r∈ms:=by
 have hO:=LG (r:=(r:Nat)) ab (by omega) (by omega);have aH:=x0 (ms:=ms) (r:=(r:Nat)) ab (by omega) (by omega);have mJ: (fN ms (r:Nat)).length=ms.length:=by rw[aH,Eo]
 have gX:=(lW.1 ab).1;have j5:∀m,m∈fN ms (r:Nat)↔m∈ms:=λm=>by rw[aH,sV]
 unfold k6;generalize fN ms (r:Nat)=O at *;exact(j5 _).1 (Rv (x:=x) hO (by omega) O.length (bP _)).1
theorem UW{x:Int}(h: (cv ms x).length=5):dq ms 16=true/\1<=x/\x<=1000/\cv ms x=(List.range 5).map (k6 ms x):=by
 have aH:cv ms x=bif !dq ms 16|| !(decide (1<=x)&&decide (x<=1000))|| (decide ((ms.length:Int)=1)&&decide (ms.getD 0 0=x))then []else(List.range 5).map (k6 ms x):=rfl
 grind
theorem asW(oF:b0 v=true){x:Int}(b5: (cv v.mem x).length=5){r:Nat}(ao:r<5):gB v ⟨v.num,(r:Nat),(cv v.mem x).getD r 0,x⟩=true:=by
 obtain⟨ab,BQ,lS,aH⟩:=UW b5;have aw: (cv v.mem x).getD r 0=k6 v.mem x r:=by
  grind
 have aA:=(lW.1 ab).2.2 _ (aec (x:=x) ab ao);have awB:n3 ⟨v.num,(r:Nat),(cv v.mem x).getD r 0,x⟩=true:=by
  simp only[n3,cq,fr];omega
 unfold gB
 grind
theorem aed(ab:dq ms 16=true){x:Int}{r:Nat}(b5: (cv ms x).length=5)(ao:r<5): (cv ms x).getD r 0∈ms:=by
 obtain⟨_,_,_,aH⟩:=UW b5;have aw: (cv ms x).getD r 0=k6 ms x r:=by
  grind
 rw[aw];exact aec (x:=x) ab ao
theorem asX(al:dF v A=true){C:Int->Prop} [DecidablePred C]{L:List Int}(hg:L.Pairwise λx y=>x<y)(asY:∀x,C x->x∈v.mem->x∈L)
  (nU:∀z∈A,z.bI∈L/\¬C z.ka) (asZ:∀z,gB v z=true->z.bI∈L->¬C z.ka->z∈A) (b5:∀x∈L,(cv v.mem x).length=5)
  (ad:∀x∈L,2<=(List.range 5).countP λr=>decide (¬C ((cv v.mem x).getD r 0))) (ab:b0 v=true) (aW: (dJ v L).2=0):dm v A=(L,true):=by
 have UX:∀ (p q:Nat->Bool),(∀r,r<5->p r=q r)->(List.range 5).countP p=(List.range 5).countP q:=λp q h=>List.countP_congr λr ao=>by grind
 have bC:∀x∈L,∀r,r<5->s6 A x (r:Nat)=decide (¬C ((cv v.mem x).getD r 0)):=λx ah r ao=>by
  by_cases aj:C ((cv v.mem x).getD r 0)
  ·rw[cX (λh=>h aj)];refine Bool.eq_false_iff.2 λh=> ?_;obtain⟨a,bb,aC,aG⟩:=Cy.1 h;obtain⟨fk,jo,v3,v4,v5,v6,ad4⟩:=Fa ((s0.1 al).2.1 a bb)
   grind
  ·rw[ep aj];exact Cy.2 ⟨⟨v.num,(r:Nat),(cv v.mem x).getD r 0,x⟩,asZ _ (asW ab (b5 x ah) ao) ah aj,rfl,rfl⟩
 have aj:∀x∈L,2<=jd A x:=λx ah=>by
  rw[Fb al,UX _ _ (bC x ah)]
  grind
 have pQ:∀x,x∉L->jd A x=0:=λx ah=>by
  rw[Fb al,UX _ (λ_=>false) (λr ao=>by
   refine Bool.eq_false_iff.2 λh=> ?_;obtain⟨a,bb,aC,_⟩:=Cy.1 h
   grind)]
  simp
 have jH:∀x∈L,Cz v A x=5:=λx ah=>by
  unfold Cz;rw[UX _ (λ_=>true) (λr ao=>by
   rw[bC x ah r ao];by_cases bV:C ((cv v.mem x).getD r 0)
   ·rw[ep (aj _ (asY _ bV (aed (kF ab).2.2 (b5 x ah) ao))),FF]
   grind)]
  rfl
 have key:∀x b,x∈ex v A b↔x∈L/\b=true:=λx b=>by
  rw[Ub al];by_cases ah:x∈L;all_goals grind
 have aC:ex v A true=L:=Ca (CA ..) hg λx=>by
  grind
 have aG:ex v A false=[]:=Ca (CA ..) (by simp) λx=>by
  grind
 unfold dm;rw[aC,aG,acX aW];rfl
theorem aee(al:dF v A=true){g:Int}(nU:∀z∈A,z.bI=g)(CN:∀r,(cv v.mem g).getD r 0≠g)(aW: (dJ v [g]).2=0): (4<=jd A g->dm v A=([g],true))/\((dm v A).2=true->4<=jd A g):=by
 have pQ:∀x,x≠g->jd A x=0:=λx ah=>by
  rw[Tc,List.countP_eq_zero]
  grind
 have jH:Cz v A g=jd A g:=by
  rw[Fb al];unfold Cz
  grind
 have key:∀x b,x∈ex v A b↔x=g/\2<=jd A g/\decide (4<=jd A g)=b:=λx b=>by
  rw[Ub al]
  grind
 constructor
 ·intro bt;have aC:ex v A true=[g]:=Ca (CA ..) (by simp) λx=>by
   grind
  have aG:ex v A false=[]:=Ca (CA ..) (by simp) λx=>by
   grind
  unfold dm;rw[aC,aG,acX aW];rfl
 ·intro h;by_cases bt:4<=jd A g
  ·exact bt
  ·exfalso;have aC:ex v A true=[]:=Ca (CA ..) (by simp) λx=>by
    grind
   unfold dm at h;rw[aC,acY]at h;cases bC:decide (0<((ex v A false).length:Int))<;>rw[bC]at h<;>cases h
structure nw(s:bj):Prop where
 dec:s.dec=[]
 prop:s.prop=[]
 cg:s.aP.cg=0
 nN:s.aP.aD= -1
 aQ:s.aQ=[]
 iq:s.aD=0
 h9:s.phase=0
theorem as0(v:aK)(m:Int):nw (qN v m):=⟨rfl,rfl,rfl,rfl,rfl,rfl,rfl⟩
section
variable {s:bj} {m:c0} {ρ as1 w:Int}
theorem as2(h:iu False ρ w s):iu False as1 w s:=⟨h.dec,h.prop,h.cg.imp id (λh=>h.1.elim),h.nN.imp id (λh=>h.1.elim),λx ah=>(h.aQ x ah).1.elim,h.iq,h.h9,h.cG⟩
theorem aef(hk:m.kind=1): (e0 s m).2=[]/\(e0 s m).1= {s with box:=(e0 s m).1.box}:=by
 unfold e0;rw[b6 hk];unfold kc;cases decide ((h8 s.view s.box ⟨m.src,m.cut⟩).2=0)<;>exact⟨rfl,rfl⟩
theorem as3(al:c1 s)(az:fX s)(h:nw s)(aA:eJ s.view m=true)(ae:m.src≠s.self)(hk:m.kind=1): (dB s m).1.dec≠ []\/(nw (dB s m).1/\(dB s m).2.1=[]):=by
 obtain⟨aC,aG⟩:=I7 al az aA ae h.dec;obtain⟨cP,a2⟩:=aef (s:=s) hk;rw[aC,aG,cP];have aW:nw (e0 s m).1:=by
  rw[a2];exact⟨h.dec,h.prop,h.cg,h.nN,h.aQ,h.iq,h.h9⟩
 rcases CJ aW.dec []with e|e;all_goals grind
theorem aeg(al:c1 s)(az:fX s)(h:iu False ρ w s)(aA:eJ s.view m=true)(ae:m.src≠s.self)(hk:m.kind=1): (dB s m).1.dec≠ []\/(iu False ρ w (dB s m).1/\(dB s m).2.1=[]):=by
 obtain⟨aC,aG⟩:=I7 al az aA ae h.dec;obtain⟨cP,a2⟩:=aef (s:=s) hk;rw[aC,aG,cP];have aW:iu False ρ w (e0 s m).1:=by
  rw[a2];exact⟨h.dec,h.prop,h.cg,h.nN,h.aQ,h.iq,h.h9,h.cG⟩
 rcases CJ aW.dec []with e|e;all_goals grind
theorem NK{p:c0}(h:rF False ρ p):p.kind=1:=h.resolve_right λh=>h.1
theorem as4(al:c1 s)(az:fX s)(h:nw s): (cQ s).1.dec≠ []\/(nw (cQ s).1/\∀p∈ (cQ s).2,p.m.kind=1):=by
 have aC:gO s=s:=by
  unfold gO;rw[h.prop];rfl
 rw[Fq al az h.dec,aC];rcases CJ h.dec (hA s)with e|e
 ·grind
 ·rw[e];exact .inr ⟨h,λp an=>NK (NG (b:=False) (ρ:=0) (λx ah=>by rw[h.aQ]at ah;cases ah) (.inl h.h9) p an)⟩
theorem as5(al:c1 s)(az:fX s)(h:nw s){c:List Int}(aj:gb s.view c=true): (eK s c).2.2=0/\((eK s c).1.dec≠ []\/(iu False ρ 0 (eK s c).1/\∀p∈ (eK s c).2.1,p.m.kind=1)):=by
 have ac:fE s=true:=(rv _).2 ⟨al,az⟩;have si:=yf (fi aj);have as6: (oJ s.aP c).2=true:=by
  unfold oJ;rw[al.aP,h.cg,h.nN,si];rfl
 have cw: (eK s c).2.2=0:=by
  unfold eK;rw[ac,aj,h.prop,h.dec,as6];rfl
 refine⟨cw,?_⟩;obtain⟨_,_,_,ug⟩:=Mw al az cw;rcases ug with⟨_,_,_,_,e⟩| ⟨e,_⟩
 ·have hu:iu False ρ 0 {s with prop:=c,cG:=0,aP:=⟨0,0,c⟩,box:=iB s.box ⟨s.self,c⟩}:=
   ⟨h.dec,wZ aj,.inl rfl,.inl rfl,(λx ah=>by rw[show ({s with prop:=c,cG:=0,aP:=⟨0,0,c⟩,box:=iB s.box ⟨s.self,c⟩}:bj).aQ=s.aQ from rfl,h.aQ]at ah;cases ah),h.iq,h.h9,rfl⟩
  have aC: (eK s c).1=(dl {s with prop:=c,cG:=0,aP:=⟨0,0,c⟩,box:=iB s.box ⟨s.self,c⟩} [eF s 0 1 0 0 c]).1:=by grind
  have aG: (eK s c).2.1=(dl {s with prop:=c,cG:=0,aP:=⟨0,0,c⟩,box:=iB s.box ⟨s.self,c⟩} [eF s 0 1 0 0 c]).2:=by grind
  rw[aC,aG];rcases CJ hu.dec [eF s 0 1 0 0 c]with bc|bc
  ·grind
  ·rw[bc];refine .inr ⟨hu,λp an=> ?_⟩;rw[eX.1 an];rfl
 grind
theorem as7(s:bj): (gC s).dec=s.dec:=by
 unfold gC;cases !decide (s.phase=1)||decide ((s.bw.length:Int)<fP s.view.mem.length)
 ·cases (jb s.aP s.aD (gH s.view s.bw s.prop).1).2<;>rfl
 ·rfl
theorem as8(hk:eJ s.view m=true)(eN:m.kind≠6): (e0 s m).1.dec=s.dec:=by
 unfold e0;rcases zK hk with k|k|k|k|k|k
 ·rw[b6 k];unfold kc;cases decide ((h8 s.view s.box ⟨m.src,m.cut⟩).2=0)<;>rfl
 ·rw[bo (by omega),b6 k];unfold kR;cases decide (s.aD<m.aD)&& !decide (s.phase=0)<;>cases (ip s.aP m.aD).2.2<;>rfl
 ·rw[bo (by omega),bo (by omega),b6 k];unfold kS;cases !decide (s.phase=1)|| !decide (m.aD=s.aD)
  ·exact as7 _
  ·rfl
 ·rw[bo (by omega),bo (by omega),bo (by omega),b6 k];unfold lX;cases (jb s.aP m.aD m.cut).2<;>rfl
 all_goals grind
theorem as9{a6:List dO}(aa:s.dec=[])(h: (dl s a6).1.dec≠ []):∃p∈ (dl s a6).2,p.da=0/\p.m.kind=6:=by
 unfold dl at h⊢;cases aj:decide ((s.dec.length:Int)=0)&&decide (0<((hh s).length:Int))
 ·grind
 ·exact⟨eF s 0 6 0 0 (hh s),by simp,rfl,rfl⟩
theorem UY(al:c1 s)(az:fX s)(aA:eJ s.view m=true)(ae:m.src≠s.self): (dB s m).2.2=0:=by
 have ac:fE s=true:=(rv s).2 ⟨al,az⟩;unfold dB;rw[bo (by grind),bo (by rw[ep (kB aA).2];simp),bo (by grind)];split<;>rfl
theorem ata(al:c1 s)(az:fX s)(aA:eJ s.view m=true)(ae:m.src≠s.self)(aa:s.dec=[])(h: (dB s m).1.dec≠ []):∃p∈ (dB s m).2.1,p.da=0/\p.m.kind=6:=by
 obtain⟨aC,aG⟩:=I7 al az aA ae aa;rw[aC]at h;rw[aG];by_cases hk:m.kind=6
 ·have aj:=wZ ((pl aA).1 (.inr hk));have e:e0 s m=({s with dec:=m.cut},[eF s 0 6 0 0 m.cut]):=by
   unfold e0
   grind
  rw[e];have:decide (((({s with dec:=m.cut}:bj).dec).length:Int)=0)=false:=by
   simp_all
  unfold dl;rw[this];exact⟨_,eX.2 rfl,rfl,rfl⟩
 ·have atb: (e0 s m).1.dec=[]:=by
   have:=as8 aA hk
   grind
  exact as9 atb h
end
end Go.Proofs.YtdcfooeoaoahjaaGreat
