/- The laws of this seat, part OwE: contracts of the functions, plain laws. No conditions. -/
import Derived.Test.YtdcfooeoaoahjaaGreatOwD
set_option linter.unusedSimpArgs false
set_option linter.unusedVariables false
set_option maxRecDepth 100000
set_option maxHeartbeats 16000000
namespace Go.Proofs.YtdcfooeoaoahjaaGreat
open Go.Lift
theorem ajs(n:Nat)(h:n<=255):IntKind.i64.wrap ((n:Int).tmod 16)=((n%16:Nat):Int):=by
 have key:∀x:Fin 256,IntKind.i64.wrap (((x.1:Nat):Int).tmod 16)=((x.1%16:Nat):Int):=by decide+kernel
 exact key ⟨n,by omega⟩
theorem ajt{ba:List Bool}{k:Nat}: (ba.map eG).set k (eG true)=(ba.set k true).map eG:=by rw[List.map_set]
theorem aju(v:aQ)(gT:v.mem.length<=maxLen)(l:List Dn)(gi:l.length<=maxLen)(bY:∀e∈l,He e):bg Tryz.prog 3 [.agg (bN v),.aq 4 (l.map jG) false] (.v (.bool true)):=by
 have az:=QC v gT;refine bw Tryz.func3 ?_;repeat' ((conv=>whnf);first|refine bc ?_| (refine be ?_ ?_<;>intro h)|exact .refl|refine .inl ⟨_,_,aD _,agn,?_⟩|refine .inl ⟨_,_,aD _,az,?_⟩|fail)
 all_goals(conv=>whnf)
 have al:bX v=true/\v.mem.length<=5/\v.num<=1000/\l.length<=12:=by
  simp only[Bool.or_eq_false_iff,Bool.not_eq_false',decide_eq_false_iff_not,List.length_map]at h;exact⟨h.1.1.1,by omega,by omega,by omega⟩
 clear h;obtain⟨ac,bL,Mp,U1⟩:=al;have aG:=agv v ac;refine .inr ⟨[],[],_,[],_,_,aG,by rfl,trivial,⟨.r,trivial⟩,?_⟩;repeat' ((conv=>whnf);first|refine bc ?_|fail)
 all_goals(conv=>whnf)
 refine⟨List Mem×List Bool×List fg×Int×Nat,fun X=>⟨[(1,.aq 4 (l.map jG) false),(2,.aP 0 0),(5,.aP 3 0),(6,i64 X.2.2.2.1),(7,i64 X.2.2.2.2)],[.cells 24 (bN v),.row 55 29 (X.1.map bU),.row 4 1 (X.2.1.map eG),.cells 32 (iE 1 2 4),.row 82 3 ((X.2.2.1.map iG).map gD)]⟩,fun X=>X.2.2.2.2<=l.length/\∃T,T<=15*X.2.2.2.2/\ov v T X.1 X.2.1 X.2.2.1 X.2.2.2.1,fun X=>l.length-X.2.2.2.2,[.cell 3 2 82 3],⟨(v.mem.map (o5 v 0 o4),List.replicate v.mem.length false,[],1000,0),⟨Nat.zero_le _,0,Nat.le_refl _,ajl ac Mp bL⟩,?_⟩,?_⟩
 ·conv=>whnf
  exact⟨⟨.r,.r,.r,.r,.r,trivial⟩,⟨.r,.r,.r,.r,.r,trivial⟩,by rfl⟩
 ·intro (Ms,ba,bK,x,i) ⟨ab,T,aO,cg⟩;simp only[]at ab aO cg;by_cases ap:i<l.length
  ·have Dm:decide ((i:Int)<((l.map jG).length:Int))=true:=by rw[List.length_map];exact decide_eq_true (by omega)
   have dB: (l.map jG)[i]?=some (jG l[i]):=cE ap;obtain⟨cx,cM,gl⟩:=bY l[i] (List.getElem_mem ap);generalize l[i]=e at *;have ea:=ajs e.ep gl;have iL:=cg.mQ;have eh:=cg.pos;have ss:=cg.cL.len;have bx: (((ba.map eG).length:Nat):Int)≠0:=by rw[List.length_map];omega
   have ajv:e.nl%ba.length<(ba.map eG).length:=by rw[List.length_map];exact Nat.mod_lt _ (by omega)
   have ajw: (IntKind.i64.wrap (e.nl:Int)).tmod ((ba.map eG).length:Int)=((e.nl%ba.length:Nat):Int):=by
    rw[List.length_map,dC (n:=(e.nl:Int)) (by omega) (by omega),<-Int.ofNat_tmod]
   have ajx: (ba.map eG)[e.nl%ba.length]?=some (eG (ba.getD (e.nl%ba.length) true)):=by
    have iw:e.nl%ba.length<ba.length:=Nat.mod_lt _ (by omega);rw[List.getElem?_map];simp[iw]
   cases fT:decide ((e.kind:Int).tmod 4=1)
   ·cases lm:decide ((e.kind:Int).tmod 4=2)
    ·repeat' ((conv=>whnf);first|refine eC (by assumption) ?_|refine dE (by assumption) ?_|refine⟨i,jG e,And.intro ⟨rfl,dB⟩ ?_⟩| (refine And.intro ?_ ?_;focus (simp;done))|fail)
     all_goals(conv=>whnf)
     refine⟨Nat×List Mem×List fg,fun Y=>⟨[(1,.aq 4 (l.map jG) false),(2,.aP 0 0),(5,.aP 3 0),(6,i64 (x)),(7,i64 i),(8,i64 Y.1)],[.cells 24 (bN v),.row 55 29 (Y.2.1.map bU),.row 4 1 ((ba).map eG),.cells 32 (iE 1 2 4),.row 82 3 ((Y.2.2.map iG).map gD)]⟩,fun Y=>Y.1<=e.ep%16/\ov v (T+Y.1) Y.2.1 (ba) Y.2.2 (x),fun Y=>e.ep%16-Y.1,[],⟨(0,Ms,bK),⟨Nat.zero_le _,cg⟩,?_⟩,?_⟩
     ·conv=>whnf
      exact⟨⟨.r,.r,.r,.r,.r,.r,trivial⟩,⟨.r,.r,.r,.r,.r,trivial⟩,by rfl⟩
     ·intro (t,Ms2,mg) ⟨bW,kz⟩;simp only[]at bW kz;obtain⟨cn,nI⟩:=G7 e.cut;by_cases kp:t<e.ep%16
      ·have xW:decide ((t:Int)<IntKind.i64.wrap ((e.ep:Int).tmod 16))=true:=by rw[ea];exact decide_eq_true (by omega)
       obtain⟨xX,xY⟩:=Hc kz (by omega) cn;have b5:=G5 e.cut cn nI (ba) Ms2 mg xX;generalize nk cn (ba) Ms2 mg=R at *;repeat' ((conv=>whnf);first|refine eC (by assumption) ?_|refine⟨i,jG e,And.intro ⟨rfl,dB⟩ ?_⟩|refine .inr ⟨[3,1,2,4],_,_,_,_,_,b5,by rfl,⟨.r,.r,.r,.r,trivial⟩,⟨.r,.r,trivial⟩,?_⟩| (refine And.intro ?_ ?_;focus (simp;done))|fail)
       all_goals(conv=>whnf)
       refine⟨(t+1,R.1,R.2),⟨kp,xY⟩,by simp only[];omega,?_⟩;conv=>whnf
       exact⟨⟨.r,.r,.r,.r,.r,aV (bH (by omega)),trivial⟩,⟨.r,.r,.r,.r,.r,trivial⟩,by rfl⟩
      ·have xW:decide ((t:Int)<IntKind.i64.wrap ((e.ep:Int).tmod 16))=false:=by rw[ea];exact decide_eq_false (by omega)
       obtain⟨G,zl,dT⟩:=kz.w;have du:=G8 Ms2 (by have:=kz.cL.len;omega) (ba) (mg.map iG) (sT G) (fun j=>sU (Ms2.getD j cX)) (fun j ai=>by
        have:=Hd dT.g (dT.mem j ai);have ax:Ms2.getD j cX=Ms2[j]:=by simp[ai]
        rw[ax];exact this) (fun j k _ _ h=>by
        have h1:=(qS dT.g j).1;have ad:=(qS dT.g k).1;omega) (fun k _=>(qS dT.g k).2)
       repeat' ((conv=>whnf);first|refine dE (by assumption) ?_|refine⟨i,jG e,And.intro ⟨rfl,dB⟩ ?_⟩|refine .inr ⟨[3,1,2,4],_,_,_,_,_,du,by rfl,⟨.r,.r,.r,.r,trivial⟩,⟨.r,trivial⟩,?_⟩| (refine And.intro ?_ ?_;focus (simp;done))|fail)
       all_goals(conv=>whnf)
       refine⟨(Ms2,ba,mg,x,i+1),⟨ap,T+t,by simp only[];omega,kz⟩,by simp only[];omega,?_⟩;conv=>whnf
       exact⟨⟨.r,.r,.r,.r,aV (bH (by omega)),trivial⟩,⟨.r,.r,.r,.r,.r,trivial⟩,by rfl⟩
    ·repeat' ((conv=>whnf);first|refine eC (by assumption) ?_|refine dE (by assumption) ?_|refine⟨i,jG e,And.intro ⟨rfl,dB⟩ ?_⟩| (refine And.intro ?_ ?_;focus (simp;done))|fail)
     all_goals(conv=>whnf)
     refine⟨Int,fun y=>⟨[(1,.aq 4 (l.map jG) false),(2,.aP 0 0),(5,.aP 3 0),(6,i64 y),(7,i64 i)],[.cells 24 (bN v),.row 55 29 (Ms.map bU),.row 4 1 (ba.map eG),.cells 32 (iE 1 2 4),.row 82 3 ((bK.map iG).map gD)]⟩,fun y=>ov v T Ms ba bK y,fun y=>y.toNat,[],⟨x,cg,?_⟩,?_⟩
     ·conv=>whnf
      exact⟨⟨.r,.r,.r,.r,.r,trivial⟩,⟨.r,.r,.r,.r,.r,trivial⟩,by rfl⟩
     ·intro y Hf;have a7:=aat v.mem gT y;have ak7:=VH Hf.cL;cases cw:bR v.mem y
      ·rw[cw]at a7;by_cases r1:Ms.length<8
       ·have ajy:decide (((Ms.map bU).length:Int)<8)=true:=by rw[List.length_map];exact decide_eq_true (by omega)
        obtain⟨hR,oF⟩:=ajo ac bL Hf cw r1;have iU:=ajp Ms (by omega) ba (by omega) (bK.map iG) y v.mem (by omega) _ hR;generalize({cX with self:=y,cont:=v.mem}:Mem)=s' at *;repeat' ((conv=>whnf);first|refine eC (by assumption) ?_|refine .inl ⟨_,_,aD _,a7,?_⟩|refine .inr ⟨[3,1,2,4],_,_,_,_,_,iU,by rfl,⟨.r,.r,.r,.r,trivial⟩,⟨.r,.r,.r,trivial⟩,?_⟩|fail)
        all_goals(conv=>whnf)
        refine⟨Nat×List Mem×List fg,fun Y=>⟨[(1,.aq 4 (l.map jG) false),(2,.aP 0 0),(5,.aP 3 0),(6,i64 (y-1)),(7,i64 i),(8,i64 Y.1)],[.cells 24 (bN v),.row 55 29 (Y.2.1.map bU),.row 4 1 ((ba++ [false]).map eG),.cells 32 (iE 1 2 4),.row 82 3 ((Y.2.2.map iG).map gD)]⟩,fun Y=>Y.1<=e.ep%16/\ov v (T+Y.1) Y.2.1 (ba++ [false]) Y.2.2 (y-1),fun Y=>e.ep%16-Y.1,[],⟨(0,(Ms++ [s']),bK),⟨Nat.zero_le _,oF⟩,?_⟩,?_⟩
        ·conv=>whnf
         exact⟨⟨.r,.r,.r,aV (dC (by omega) (by omega)),.r,.r,trivial⟩,⟨.r,.r,.r,.r,.r,trivial⟩,by rfl⟩
        ·intro (t,Ms2,mg) ⟨bW,kz⟩;simp only[]at bW kz;obtain⟨cn,nI⟩:=G7 e.cut;by_cases kp:t<e.ep%16
         ·have xW:decide ((t:Int)<IntKind.i64.wrap ((e.ep:Int).tmod 16))=true:=by rw[ea];exact decide_eq_true (by omega)
          obtain⟨xX,xY⟩:=Hc kz (by omega) cn;have b5:=G5 e.cut cn nI (ba++ [false]) Ms2 mg xX;generalize nk cn (ba++ [false]) Ms2 mg=R at *;repeat' ((conv=>whnf);first|refine eC (by assumption) ?_|refine⟨i,jG e,And.intro ⟨rfl,dB⟩ ?_⟩|refine .inr ⟨[3,1,2,4],_,_,_,_,_,b5,by rfl,⟨.r,.r,.r,.r,trivial⟩,⟨.r,.r,trivial⟩,?_⟩| (refine And.intro ?_ ?_;focus (simp;done))|fail)
          all_goals(conv=>whnf)
          refine⟨(t+1,R.1,R.2),⟨kp,xY⟩,by simp only[];omega,?_⟩;conv=>whnf
          exact⟨⟨.r,.r,.r,.r,.r,aV (bH (by omega)),trivial⟩,⟨.r,.r,.r,.r,.r,trivial⟩,by rfl⟩
         ·have xW:decide ((t:Int)<IntKind.i64.wrap ((e.ep:Int).tmod 16))=false:=by rw[ea];exact decide_eq_false (by omega)
          obtain⟨G,zl,dT⟩:=kz.w;have du:=G8 Ms2 (by have:=kz.cL.len;omega) (ba++ [false]) (mg.map iG) (sT G) (fun j=>sU (Ms2.getD j cX)) (fun j ai=>by
           have:=Hd dT.g (dT.mem j ai);have ax:Ms2.getD j cX=Ms2[j]:=by simp[ai]
           rw[ax];exact this) (fun j k _ _ h=>by
           have h1:=(qS dT.g j).1;have ad:=(qS dT.g k).1;omega) (fun k _=>(qS dT.g k).2)
          repeat' ((conv=>whnf);first|refine dE (by assumption) ?_|refine⟨i,jG e,And.intro ⟨rfl,dB⟩ ?_⟩|refine .inr ⟨[3,1,2,4],_,_,_,_,_,du,by rfl,⟨.r,.r,.r,.r,trivial⟩,⟨.r,trivial⟩,?_⟩| (refine And.intro ?_ ?_;focus (simp;done))|fail)
          all_goals(conv=>whnf)
          refine⟨(Ms2,ba++ [false],mg,y-1,i+1),⟨ap,T+t,by simp only[];omega,kz⟩,by simp only[];omega,?_⟩;conv=>whnf
          exact⟨⟨.r,.r,.r,.r,aV (bH (by omega)),trivial⟩,⟨.r,.r,.r,.r,.r,trivial⟩,by rfl⟩
       ·have ajy:decide (((Ms.map bU).length:Int)<8)=false:=by rw[List.length_map];exact decide_eq_false (by omega)
        repeat' ((conv=>whnf);first|refine dE (by assumption) ?_|refine .inl ⟨_,_,aD _,a7,?_⟩|fail)
        all_goals(conv=>whnf)
        refine⟨Nat×List Mem×List fg,fun Y=>⟨[(1,.aq 4 (l.map jG) false),(2,.aP 0 0),(5,.aP 3 0),(6,i64 (y)),(7,i64 i),(8,i64 Y.1)],[.cells 24 (bN v),.row 55 29 (Y.2.1.map bU),.row 4 1 ((ba).map eG),.cells 32 (iE 1 2 4),.row 82 3 ((Y.2.2.map iG).map gD)]⟩,fun Y=>Y.1<=e.ep%16/\ov v (T+Y.1) Y.2.1 (ba) Y.2.2 (y),fun Y=>e.ep%16-Y.1,[],⟨(0,Ms,bK),⟨Nat.zero_le _,Hf⟩,?_⟩,?_⟩
        ·conv=>whnf
         exact⟨⟨.r,.r,.r,.r,.r,.r,trivial⟩,⟨.r,.r,.r,.r,.r,trivial⟩,by rfl⟩
        ·intro (t,Ms2,mg) ⟨bW,kz⟩;simp only[]at bW kz;obtain⟨cn,nI⟩:=G7 e.cut;by_cases kp:t<e.ep%16
         ·have xW:decide ((t:Int)<IntKind.i64.wrap ((e.ep:Int).tmod 16))=true:=by rw[ea];exact decide_eq_true (by omega)
          obtain⟨xX,xY⟩:=Hc kz (by omega) cn;have b5:=G5 e.cut cn nI (ba) Ms2 mg xX;generalize nk cn (ba) Ms2 mg=R at *;repeat' ((conv=>whnf);first|refine eC (by assumption) ?_|refine⟨i,jG e,And.intro ⟨rfl,dB⟩ ?_⟩|refine .inr ⟨[3,1,2,4],_,_,_,_,_,b5,by rfl,⟨.r,.r,.r,.r,trivial⟩,⟨.r,.r,trivial⟩,?_⟩| (refine And.intro ?_ ?_;focus (simp;done))|fail)
          all_goals(conv=>whnf)
          refine⟨(t+1,R.1,R.2),⟨kp,xY⟩,by simp only[];omega,?_⟩;conv=>whnf
          exact⟨⟨.r,.r,.r,.r,.r,aV (bH (by omega)),trivial⟩,⟨.r,.r,.r,.r,.r,trivial⟩,by rfl⟩
         ·have xW:decide ((t:Int)<IntKind.i64.wrap ((e.ep:Int).tmod 16))=false:=by rw[ea];exact decide_eq_false (by omega)
          obtain⟨G,zl,dT⟩:=kz.w;have du:=G8 Ms2 (by have:=kz.cL.len;omega) (ba) (mg.map iG) (sT G) (fun j=>sU (Ms2.getD j cX)) (fun j ai=>by
           have:=Hd dT.g (dT.mem j ai);have ax:Ms2.getD j cX=Ms2[j]:=by simp[ai]
           rw[ax];exact this) (fun j k _ _ h=>by
           have h1:=(qS dT.g j).1;have ad:=(qS dT.g k).1;omega) (fun k _=>(qS dT.g k).2)
          repeat' ((conv=>whnf);first|refine dE (by assumption) ?_|refine⟨i,jG e,And.intro ⟨rfl,dB⟩ ?_⟩|refine .inr ⟨[3,1,2,4],_,_,_,_,_,du,by rfl,⟨.r,.r,.r,.r,trivial⟩,⟨.r,trivial⟩,?_⟩| (refine And.intro ?_ ?_;focus (simp;done))|fail)
          all_goals(conv=>whnf)
          refine⟨(Ms2,ba,mg,y,i+1),⟨ap,T+t,by simp only[];omega,kz⟩,by simp only[];omega,?_⟩;conv=>whnf
          exact⟨⟨.r,.r,.r,.r,aV (bH (by omega)),trivial⟩,⟨.r,.r,.r,.r,.r,trivial⟩,by rfl⟩
      ·rw[cw]at a7;repeat' ((conv=>whnf);first|refine .inl ⟨_,_,aD _,a7,?_⟩|fail)
       all_goals(conv=>whnf)
       refine⟨y-1,ajn ac Hf cw,by simp only[];omega,?_⟩;conv=>whnf
       exact⟨⟨.r,.r,.r,aV (dC (by omega) (by omega)),.r,trivial⟩,⟨.r,.r,.r,.r,.r,trivial⟩,by rfl⟩
   ·repeat' ((conv=>whnf);first|refine eC (by assumption) ?_|refine And.intro (by kernel_rfl) ?_|refine⟨i,jG e,And.intro ⟨rfl,dB⟩ ?_⟩|refine And.intro bx ?_|refine⟨e.nl%ba.length,And.intro ⟨ajw,ajv⟩ ?_⟩|refine⟨eG (ba.getD (e.nl%ba.length) true),ajx,?_⟩| (refine And.intro ?_ ?_;focus (simp;done))|fail)
    all_goals(conv=>whnf)
    refine⟨Nat×List Mem×List fg,fun Y=>⟨[(1,.aq 4 (l.map jG) false),(2,.aP 0 0),(5,.aP 3 0),(6,i64 (x)),(7,i64 i),(8,i64 Y.1)],[.cells 24 (bN v),.row 55 29 (Y.2.1.map bU),.row 4 1 ((ba.set (e.nl%ba.length) true).map eG),.cells 32 (iE 1 2 4),.row 82 3 ((Y.2.2.map iG).map gD)]⟩,fun Y=>Y.1<=e.ep%16/\ov v (T+Y.1) Y.2.1 (ba.set (e.nl%ba.length) true) Y.2.2 (x),fun Y=>e.ep%16-Y.1,[],⟨(0,Ms,bK),⟨Nat.zero_le _,ajm cg (by simp)⟩,?_⟩,?_⟩
    ·conv=>whnf
     exact⟨⟨.r,.r,.r,.r,.r,.r,trivial⟩,⟨.r,.r,ch (by rw[<-ajt];rfl),.r,.r,trivial⟩,by rfl⟩
    ·intro (t,Ms2,mg) ⟨bW,kz⟩;simp only[]at bW kz;obtain⟨cn,nI⟩:=G7 e.cut;by_cases kp:t<e.ep%16
     ·have xW:decide ((t:Int)<IntKind.i64.wrap ((e.ep:Int).tmod 16))=true:=by rw[ea];exact decide_eq_true (by omega)
      obtain⟨xX,xY⟩:=Hc kz (by omega) cn;have b5:=G5 e.cut cn nI (ba.set (e.nl%ba.length) true) Ms2 mg xX;generalize nk cn (ba.set (e.nl%ba.length) true) Ms2 mg=R at *;repeat' ((conv=>whnf);first|refine eC (by assumption) ?_|refine⟨i,jG e,And.intro ⟨rfl,dB⟩ ?_⟩|refine .inr ⟨[3,1,2,4],_,_,_,_,_,b5,by rfl,⟨.r,.r,.r,.r,trivial⟩,⟨.r,.r,trivial⟩,?_⟩| (refine And.intro ?_ ?_;focus (simp;done))|fail)
      all_goals(conv=>whnf)
      refine⟨(t+1,R.1,R.2),⟨kp,xY⟩,by simp only[];omega,?_⟩;conv=>whnf
      exact⟨⟨.r,.r,.r,.r,.r,aV (bH (by omega)),trivial⟩,⟨.r,.r,.r,.r,.r,trivial⟩,by rfl⟩
     ·have xW:decide ((t:Int)<IntKind.i64.wrap ((e.ep:Int).tmod 16))=false:=by rw[ea];exact decide_eq_false (by omega)
      obtain⟨G,zl,dT⟩:=kz.w;have du:=G8 Ms2 (by have:=kz.cL.len;omega) (ba.set (e.nl%ba.length) true) (mg.map iG) (sT G) (fun j=>sU (Ms2.getD j cX)) (fun j ai=>by
       have:=Hd dT.g (dT.mem j ai);have ax:Ms2.getD j cX=Ms2[j]:=by simp[ai]
       rw[ax];exact this) (fun j k _ _ h=>by
       have h1:=(qS dT.g j).1;have ad:=(qS dT.g k).1;omega) (fun k _=>(qS dT.g k).2)
      repeat' ((conv=>whnf);first|refine dE (by assumption) ?_|refine⟨i,jG e,And.intro ⟨rfl,dB⟩ ?_⟩|refine .inr ⟨[3,1,2,4],_,_,_,_,_,du,by rfl,⟨.r,.r,.r,.r,trivial⟩,⟨.r,trivial⟩,?_⟩| (refine And.intro ?_ ?_;focus (simp;done))|fail)
      all_goals(conv=>whnf)
      refine⟨(Ms2,ba.set (e.nl%ba.length) true,mg,x,i+1),⟨ap,T+t,by simp only[];omega,kz⟩,by simp only[];omega,?_⟩;conv=>whnf
      exact⟨⟨.r,.r,.r,.r,aV (bH (by omega)),trivial⟩,⟨.r,.r,.r,.r,.r,trivial⟩,by rfl⟩
  ·have Dm:decide ((i:Int)<((l.map jG).length:Int))=false:=by rw[List.length_map];exact decide_eq_false (by omega)
   repeat' ((conv=>whnf);first|refine dE (by assumption) ?_|fail)
   all_goals(conv=>whnf)
   obtain⟨G,zl,dT⟩:=cg.w;have ss:=cg.cL.len;refine⟨Nat,fun j=>⟨[(5,.aP 3 0),(9,i64 j)],[.cells 24 (bN v),.row 55 29 (Ms.map bU),.row 4 1 (ba.map eG),.cells 32 (iE 1 2 4),.row 82 3 ((bK.map iG).map gD)]⟩,fun j=>j<=Ms.length,fun j=>Ms.length-j,[],⟨0,Nat.zero_le _,?_⟩,?_⟩
   ·conv=>whnf
    exact⟨⟨.r,.r,trivial⟩,⟨.r,.r,.r,.r,.r,trivial⟩,by rfl⟩
   ·intro j ai;by_cases fX:j<Ms.length
    ·have ajz:decide ((j:Int)<((Ms.map bU).length:Int))=true:=by rw[List.length_map];exact decide_eq_true (by omega)
     have eY:j<(Ms.map bU).length:=by rw[List.length_map];exact fX
     have b7: (Ms.map bU)[j]?=some (bU Ms[j]):=cE fX;have kw:=rG Ms[j] (Dg dT.g (dT.mem j fX));rw[G0 dT.g (dT.mem j fX)]at kw;repeat' ((conv=>whnf);first|refine eC (by assumption) ?_|refine⟨j,And.intro ⟨rfl,eY⟩ ?_⟩|refine⟨bU Ms[j],And.intro b7 ?_⟩|refine .inl ⟨_,_,aD _,kw,?_⟩|fail)
     all_goals(conv=>whnf)
     refine⟨j+1,fX,by simp only[];omega,?_⟩;conv=>whnf
     exact⟨⟨.r,aV (bH (by omega)),trivial⟩,⟨.r,.r,.r,.r,.r,trivial⟩,by rfl⟩
    ·have ajz:decide ((j:Int)<((Ms.map bU).length:Int))=false:=by rw[List.length_map];exact decide_eq_false (by omega)
     repeat' ((conv=>whnf);first|refine dE (by assumption) ?_|exact .refl|fail)
theorem ajA(so:List aj)(h:EU ah 6 [24,25] so):bg Tryz.prog 3 so (.v (.bool true)):=by
 obtain⟨dl,_,rfl,h1,a2,_,rfl,ad,rfl⟩:=h;obtain⟨v,rfl,ac⟩:=aaA (n:=3) h1;obtain⟨l,rfl,af,bY⟩:=ajr (n:=3) ad;exact aju v ac l af bY
end Go.Proofs.YtdcfooeoaoahjaaGreat
