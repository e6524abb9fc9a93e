/- The laws of this seat, part OwA: contracts of the functions, plain laws. No conditions. -/
import Derived.Test.YtdcfooeoaoahjaaGreatRows
import Derived.Test.YtdcfooeoaoahjaaGreatLfC
import Derived.Shelf.SlLaysF
import Derived.Shelf.Lays
import Derived.Shelf.Lays2
import Derived.Test.YtdcfooeoaoahjaaGreatProg
set_option linter.unusedSimpArgs false
set_option linter.unusedVariables false
set_option maxRecDepth 100000
set_option maxHeartbeats 16000000
namespace Go.Proofs.YtdcfooeoaoahjaaGreat
open Go.Lift
def ah:c4:=[(2,⟨1,8,false,[.v (.int .i64 0)],.int .i64⟩),
 (3,⟨1,8,false,[.v (.int .i64 0)],.int .i64⟩),
 (4,⟨1,1,false,[.v (.bool false)],.bool⟩),
 (5,⟨1,1,false,[.v (.int .u8 0)],.int .u8⟩),
 (9,⟨1,16,false,[.v (.string ⟨#[]⟩)],.str⟩),
 (21,⟨1,4,false,[.v (.int .i32 0)],.int .i32⟩),
 (22,⟨1,24,false,[.ar],.dW 3⟩),
 (23,⟨2,32,true,[.v (.int .i64 0),.ar],.cr [(3,0),(22,1)]⟩),
 (24,⟨2,32,true,[.v (.int .i64 0),.ar],.cr [(3,0),(22,1)]⟩),
 (25,⟨1,24,false,[.ar],.dW 36⟩),
 (28,⟨1,24,false,[.ar],.dW 55⟩),
 (29,⟨1,24,false,[.ar],.dW 4⟩),
 (30,⟨1,24,false,[.ar],.dW 82⟩),
 (31,⟨3,72,true,[.ar,.ar,.ar],.cr [(28,0),(29,1),(30,2)]⟩),
 (32,⟨3,72,true,[.ar,.ar,.ar],.cr [(28,0),(29,1),(30,2)]⟩),
 (34,⟨1,8,false,[.v (.int .u64 0)],.int .u64⟩),
 (35,⟨4,16,true,[.v (.int .u8 0),.v (.int .u8 0),.v (.int .u8 0),.v (.int .u64 0)],.cr [(5,0),(5,1),(5,2),(34,3)]⟩),
 (36,⟨4,16,true,[.v (.int .u8 0),.v (.int .u8 0),.v (.int .u8 0),.v (.int .u64 0)],.cr [(5,0),(5,1),(5,2),(34,3)]⟩),
 (40,⟨1,8,false,[.v (.int .u64 0)],.int .u64⟩),
 (42,⟨1,24,false,[.ar],.dW 22⟩),
 (43,⟨1,24,false,[.ar],.dW 96⟩),
 (44,⟨4,64,true,[.v (.int .i64 0),.v (.int .i64 0),.ar,.ar],.cr [(3,0),(24,1),(43,3)]⟩),
 (45,⟨4,64,true,[.v (.int .i64 0),.v (.int .i64 0),.ar,.ar],.cr [(3,0),(24,1),(43,3)]⟩),
 (46,⟨1,24,false,[.ar],.dW 147⟩),
 (47,⟨1,24,false,[.ar],.dW 150⟩),
 (48,⟨3,40,true,[.v (.int .i64 0),.v (.int .i64 0),.ar],.cr [(3,0),(3,1),(22,2)]⟩),
 (49,⟨3,40,true,[.v (.int .i64 0),.v (.int .i64 0),.ar],.cr [(3,0),(3,1),(22,2)]⟩),
 (50,⟨1,24,false,[.ar],.dW 201⟩),
 (51,⟨1,24,false,[.ar],.dW 179⟩),
 (52,⟨15,248,true,[.v (.int .i64 0),.v (.int .i64 0),.ar,.v (.int .i64 0),.v (.int .i64 0),.ar,.ar,.ar,.v (.int .i64 0),.v (.int .i64 0),.ar,.ar,.ar,.ar,.v (.int .i64 0)],.cr [(3,0),(24,1),(49,3),(22,6),(50,7),(3,8),(3,9),(51,10),(22,11),(51,12),(22,13),(3,14)]⟩),
 (53,⟨15,248,true,[.v (.int .i64 0),.v (.int .i64 0),.ar,.v (.int .i64 0),.v (.int .i64 0),.ar,.ar,.ar,.v (.int .i64 0),.v (.int .i64 0),.ar,.ar,.ar,.ar,.v (.int .i64 0)],.cr [(3,0),(24,1),(49,3),(22,6),(50,7),(3,8),(3,9),(51,10),(22,11),(51,12),(22,13),(3,14)]⟩),
 (54,⟨29,488,true,[.v (.int .i64 0),.v (.int .i64 0),.ar,.v (.int .i64 0),.ar,.ar,.v (.int .i64 0),.ar,.v (.int .i64 0),.v (.int .i64 0),.ar,.ar,.ar,.ar,.v (.int .i64 0),.v (.int .i64 0),.ar,.v (.int .i64 0),.v (.int .i64 0),.ar,.ar,.ar,.v (.int .i64 0),.v (.int .i64 0),.ar,.ar,.ar,.ar,.v (.int .i64 0)],.cr [(3,0),(3,1),(22,2),(24,3),(42,5),(24,6),(45,8),(46,12),(47,13),(53,14)]⟩),
 (55,⟨29,488,true,[.v (.int .i64 0),.v (.int .i64 0),.ar,.v (.int .i64 0),.ar,.ar,.v (.int .i64 0),.ar,.v (.int .i64 0),.v (.int .i64 0),.ar,.ar,.ar,.ar,.v (.int .i64 0),.v (.int .i64 0),.ar,.v (.int .i64 0),.v (.int .i64 0),.ar,.ar,.ar,.v (.int .i64 0),.v (.int .i64 0),.ar,.ar,.ar,.ar,.v (.int .i64 0)],.cr [(3,0),(3,1),(22,2),(24,3),(42,5),(24,6),(45,8),(46,12),(47,13),(53,14)]⟩),
 (57,⟨1,8,false,[.v (.int .u64 0)],.int .u64⟩),
 (63,⟨1,2,false,[.v (.int .u16 0)],.int .u16⟩),
 (65,⟨1,8,false,[.v (.int .i64 0)],.int .i64⟩),
 (69,⟨1,24,false,[.ar],.dW 5⟩),
 (71,⟨1,24,false,[.ar],.dW 121⟩),
 (76,⟨1,24,false,[.ar],.dW 24⟩),
 (81,⟨3,40,true,[.v (.int .i64 0),.v (.int .i64 0),.ar],.cr [(3,0),(3,1),(69,2)]⟩),
 (82,⟨3,40,true,[.v (.int .i64 0),.v (.int .i64 0),.ar],.cr [(3,0),(3,1),(69,2)]⟩),
 (92,⟨1,4,false,[.v (.int .u32 0)],.int .u32⟩),
 (93,⟨2,16,true,[.v (.int .u32 0),.v (.int .i64 0)],.cr [(92,0),(3,1)]⟩),
 (94,⟨2,16,true,[.v (.int .u32 0),.v (.int .i64 0)],.cr [(92,0),(3,1)]⟩),
 (95,⟨6,40,true,[.v (.int .i64 0),.v (.int .i64 0),.v (.bool false),.v (.bool false),.v (.int .u32 0),.v (.int .i64 0)],.cr [(3,0),(3,1),(4,2),(4,3),(94,4)]⟩),
 (96,⟨6,40,true,[.v (.int .i64 0),.v (.int .i64 0),.v (.bool false),.v (.bool false),.v (.int .u32 0),.v (.int .i64 0)],.cr [(3,0),(3,1),(4,2),(4,3),(94,4)]⟩),
 (107,⟨6,64,true,[.v (.int .i64 0),.v (.int .i64 0),.v (.int .i64 0),.v (.int .i64 0),.v (.int .i64 0),.ar],.cr [(3,0),(3,1),(3,2),(3,3),(3,4),(22,5)]⟩),
 (108,⟨6,64,true,[.v (.int .i64 0),.v (.int .i64 0),.v (.int .i64 0),.v (.int .i64 0),.v (.int .i64 0),.ar],.cr [(3,0),(3,1),(3,2),(3,3),(3,4),(22,5)]⟩),
 (109,⟨12,160,true,[.v (.int .i64 0),.v (.int .i64 0),.ar,.v (.int .i64 0),.v (.int .i64 0),.v (.int .i64 0),.v (.int .i64 0),.v (.int .i64 0),.ar,.v (.int .i64 0),.ar,.ar],.cr [(3,0),(3,1),(46,2),(108,3),(24,9),(42,11)]⟩),
 (110,⟨12,160,true,[.v (.int .i64 0),.v (.int .i64 0),.ar,.v (.int .i64 0),.v (.int .i64 0),.v (.int .i64 0),.v (.int .i64 0),.v (.int .i64 0),.ar,.v (.int .i64 0),.ar,.ar],.cr [(3,0),(3,1),(46,2),(108,3),(24,9),(42,11)]⟩),
 (113,⟨1,8,false,[.v (.pointer none)],.e2⟩),
 (115,⟨30,512,true,[.v (.int .i64 0),.v (.int .i64 0),.ar,.v (.int .i64 0),.ar,.ar,.v (.int .i64 0),.ar,.v (.int .i64 0),.v (.int .i64 0),.ar,.ar,.ar,.ar,.v (.int .i64 0),.v (.int .i64 0),.ar,.v (.int .i64 0),.v (.int .i64 0),.ar,.ar,.ar,.v (.int .i64 0),.v (.int .i64 0),.ar,.ar,.ar,.ar,.v (.int .i64 0),.ar],.cr [(55,0),(71,29)]⟩),
 (116,⟨30,512,true,[.v (.int .i64 0),.v (.int .i64 0),.ar,.v (.int .i64 0),.ar,.ar,.v (.int .i64 0),.ar,.v (.int .i64 0),.v (.int .i64 0),.ar,.ar,.ar,.ar,.v (.int .i64 0),.v (.int .i64 0),.ar,.v (.int .i64 0),.v (.int .i64 0),.ar,.ar,.ar,.v (.int .i64 0),.v (.int .i64 0),.ar,.ar,.ar,.ar,.v (.int .i64 0),.ar],.cr [(55,0),(71,29)]⟩),
 (120,⟨2,32,true,[.v (.int .i64 0),.ar],.cr [(3,0),(69,1)]⟩),
 (121,⟨2,32,true,[.v (.int .i64 0),.ar],.cr [(3,0),(69,1)]⟩),
 (134,⟨2,32,true,[.ar,.v (.bool false)],.cr [(69,0),(4,1)]⟩),
 (135,⟨2,32,true,[.ar,.v (.bool false)],.cr [(69,0),(4,1)]⟩),
 (146,⟨4,32,true,[.v (.int .i64 0),.v (.int .i64 0),.v (.int .i64 0),.v (.int .i64 0)],.cr [(3,0),(3,1),(3,2),(3,3)]⟩),
 (147,⟨4,32,true,[.v (.int .i64 0),.v (.int .i64 0),.v (.int .i64 0),.v (.int .i64 0)],.cr [(3,0),(3,1),(3,2),(3,3)]⟩),
 (149,⟨2,16,true,[.v (.int .i64 0),.v (.int .i64 0)],.cr [(3,0),(3,1)]⟩),
 (150,⟨2,16,true,[.v (.int .i64 0),.v (.int .i64 0)],.cr [(3,0),(3,1)]⟩),
 (156,⟨1,24,false,[.ar],.dW 218⟩),
 (178,⟨3,40,true,[.v (.int .i64 0),.v (.int .i64 0),.ar],.cr [(3,0),(3,1),(22,2)]⟩),
 (179,⟨3,40,true,[.v (.int .i64 0),.v (.int .i64 0),.ar],.cr [(3,0),(3,1),(22,2)]⟩),
 (200,⟨2,32,true,[.v (.int .i64 0),.ar],.cr [(3,0),(22,1)]⟩),
 (201,⟨2,32,true,[.v (.int .i64 0),.ar],.cr [(3,0),(22,1)]⟩),
 (209,⟨16,272,true,[.v (.int .i64 0),.v (.int .i64 0),.ar,.v (.int .i64 0),.v (.int .i64 0),.ar,.ar,.ar,.v (.int .i64 0),.v (.int .i64 0),.ar,.ar,.ar,.ar,.v (.int .i64 0),.ar],.cr [(53,0),(156,15)]⟩),
 (210,⟨16,272,true,[.v (.int .i64 0),.v (.int .i64 0),.ar,.v (.int .i64 0),.v (.int .i64 0),.ar,.ar,.ar,.v (.int .i64 0),.v (.int .i64 0),.ar,.ar,.ar,.ar,.v (.int .i64 0),.ar],.cr [(53,0),(156,15)]⟩),
 (217,⟨7,72,true,[.v (.int .i64 0),.v (.int .i64 0),.v (.int .i64 0),.v (.int .i64 0),.v (.int .i64 0),.v (.int .i64 0),.ar],.cr [(3,0),(108,1)]⟩),
 (218,⟨7,72,true,[.v (.int .i64 0),.v (.int .i64 0),.v (.int .i64 0),.v (.int .i64 0),.v (.int .i64 0),.v (.int .i64 0),.ar],.cr [(3,0),(108,1)]⟩),
 (219,⟨4,32,true,[.v (.int .i64 0),.v (.int .i64 0),.v (.int .i64 0),.v (.int .i64 0)],.arr 4 3⟩),
 (255,⟨1,8,false,[.v (.int .i64 0)],.int .i64⟩),
 (264,⟨1,24,false,[.ar],.dW 267⟩),
 (266,⟨3,24,true,[.v (.int .i64 0),.v (.int .i64 0),.v (.int .i64 0)],.cr [(3,0),(3,1),(3,2)]⟩),
 (267,⟨3,24,true,[.v (.int .i64 0),.v (.int .i64 0),.v (.int .i64 0)],.cr [(3,0),(3,1),(3,2)]⟩),
 (274,⟨1,8,false,[.v (.int .u64 0)],.int .u64⟩),
 (285,⟨3,24,true,[.v (.int .u64 0),.v (.int .u64 0),.v (.int .u64 0)],.arr 3 57⟩),
 (287,⟨2,16,true,[.v (.int .u64 0),.v (.int .u64 0)],.arr 2 34⟩)]
theorem aT:Tryz.prog.follows .mixedOrders=true:=by kernel_rfl
theorem aO:cS Tryz.prog ah=true:=by kernel_rfl
theorem bw{f:Go.FuncId}{fn:Go.Func}{args:List aj}{d:aj}(aI:Tryz.prog.funcs[f]?=some fn)(h:Nc ah Tryz.prog (fn.body.getD .skip) fn.results.toList args d)(hk: (!(fn.name== "runtime.NumGoroutine")&&fn.body.isSome&&mV fn.ntmps (fn.body.getD .skip)&&Nat.ble args.length fn.ntmps)=true:=by kernel_rfl):bg Tryz.prog f args d:=by
 simp only[Bool.and_eq_true,Bool.not_eq_true']at hk;exact YH aT aO (by kernel_rfl) aI hk.1.1.1 (by cases ae:fn.body<;>simp_all) hk.1.2 hk.2 h
theorem dw{f:Go.FuncId}{fn:Go.Func}{L bC:List aU}{args:List aj}{kept:List Bool}{d:aj}(aI:Tryz.prog.funcs[f]?=some fn)(h:Nd ah Tryz.prog (fn.body.getD .skip) fn.results.toList L args kept bC d)(hk: (!(fn.name== "runtime.NumGoroutine")&&fn.body.isSome&&mV fn.ntmps (fn.body.getD .skip)&&Nat.ble args.length fn.ntmps&&nO L)=true:=by kernel_rfl):b0 Tryz.prog f L args kept bC d:=by
 simp only[Bool.and_eq_true,Bool.not_eq_true']at hk;exact Ze aT aO (by kernel_rfl) aI hk.1.1.1.1 (by cases ae:fn.body<;>simp_all) hk.1.1.2 hk.1.2 hk.2 h
theorem hd{f:Go.FuncId}{fn:Go.Func}{L bC:List aU}{args:List aj}{kept:List Bool}{d:aj}(aI:Tryz.prog.funcs[f]?=some fn)(h:P8 ah Tryz.prog (fn.body.getD .skip) fn.results.toList L args kept bC d)(hk: (!(fn.name== "runtime.NumGoroutine")&&fn.body.isSome&&mV fn.ntmps (fn.body.getD .skip)&&Nat.ble args.length fn.ntmps&&nO L)=true:=by kernel_rfl):b0 Tryz.prog f L args kept bC d:=by
 simp only[Bool.and_eq_true,Bool.not_eq_true']at hk;exact Zf aT aO (by kernel_rfl) aI hk.1.1.1.1 (by cases ae:fn.body<;>simp_all) hk.1.1.2 hk.1.2 hk.2 h
def i64(n:Int):aj:=.v (.int .i64 n)
def aM(n:Int):List aj:=[.v (.int .i64 n)]
def bo(n:Nat):List aj:=[.v (.int .u8 n)]
theorem nC{n:Nat}(h:n<=2000000):iJ ah 3 n:=by
 have e: (ay ah 3).bytes=8:=by kernel_rfl
 refine⟨?_,?_⟩
 ·rw[e];omega
 ·simp only[maxLen];omega
theorem ch{e:TypeId}{av:Nat}{es er:List (List aj)}(h:es=er):fF (.row e av es) (.row e av er):=by subst h;exact .refl
def rq(l:List Int)(i:Nat):Bool:= !(decide (l.getD i 0<=(0::l).getD i 0)||decide (1000<l.getD i 0))
def c9(l:List Int)(aad:Int):Bool:= !(decide ((l.length:Int)<1)||decide (aad<(l.length:Int)))&&gA (rq l) l.length
theorem Qw(l:List Int)(af:l.length<=maxLen)(m:Int):bg Tryz.prog 58 [.aq 1 (l.map aM) false,.v (.int .i64 m)] (.v (.bool (c9 l m))):=by
 have fG:l.length<=9223372036854775807:=af;refine bw Tryz.func58 ?_;repeat' ((conv=>whnf);first|refine bc ?_| (refine be ?_ ?_<;>intro h)|refine And.intro ⟨fun h=>h,fun h=>h⟩ ?_|fail)
 ·skip
  refine eK ?_;simp only[List.length_map]at h;simp only[c9,h];rfl
 ·skip
  simp only[List.length_map]at h;have aH:=h;clear h;conv=>whnf
  refine⟨Nat,fun i=>⟨[(5,i64 ((0::l).getD i 0)),(17,.aq 1 (l.map aM) false),(18,i64 (l.map aM).length),(19,i64 i)],[]⟩,fun i=>i<=l.length/\∀j,j<i->rq l j=true,fun i=>l.length-i,[],⟨0,⟨Nat.zero_le _,by omega⟩,?_⟩,?_⟩
  ·exact⟨by repeat' ((conv=>whnf);first|exact trivial|refine And.intro (by(conv=>arg 1;whnf);first| (with_reducible exact .refl)|exact aV (bH (by omega))|exact .refl) ?_|fail),by repeat' ((conv=>whnf);first|exact trivial|fail),rfl⟩
  ·intro i ⟨ab,bQ⟩;repeat' ((conv=>whnf);first| (refine be ?_ ?_<;>intro h)|fail)
   ·have h1:=h;have ap:i<l.length:=by simpa using h1
    have ax:l.getD i 0=l[i]:=by simp[ap]
    repeat' ((conv=>whnf);first|refine bc ?_| (refine be ?_ ?_<;>intro h)|refine⟨_,_,And.intro ⟨rfl,cE ap⟩ ?_⟩|fail)
    ·have ad:=h;refine eK ?_;have:rq l i=false:=by simp only[rq,ax,ad];rfl
     rw[c9,pB ap this,Bool.and_false]
    ·have ad:=h;conv=>whnf
     refine⟨i+1,⟨ap,fun j ai=> ?_⟩,by simp only[];omega,?_⟩
     ·rcases Nat.lt_succ_iff_lt_or_eq.1 ai with ai|rfl
      ·exact bQ j ai
      ·simp only[rq,ax,ad];rfl
     ·refine⟨⟨?_,.r,.r,aV (bH (by omega)),trivial⟩,trivial,rfl⟩;refine aV ?_;simp[ap]
   ·have h1:=h;have dB:¬i<l.length:=by simpa using h1
    conv=>whnf
    refine eK ?_;rw[c9,aH,gB.2 (fun j ai=>bQ j (by omega))];rfl
theorem BB(l:List Int)(af:l.length<=maxLen):bg Tryz.prog 106 [.aq 1 (l.map aM) false] (.v (.bool (c9 l 32))):=by
 refine bw Tryz.func106 ?_;repeat' ((conv=>whnf);first|exact .refl|refine .inl ⟨_,_,aD _,Qw _ af _,?_⟩|fail)
def fK(a b:List Int):Bool:=decide ((a.length:Int)=(b.length:Int))&&gA (fun i=>decide (a.getD i 0=b.getD i 0)) a.length
theorem Jw(a b:List Int)(aZ:a.length<=maxLen):bg Tryz.prog 60 [.aq 1 (a.map aM) false,.aq 1 (b.map aM) false] (.v (.bool (fK a b))):=by
 have fG:a.length<=9223372036854775807:=aZ;refine bw Tryz.func60 ?_;repeat' ((conv=>whnf);first| (refine be ?_ ?_<;>intro h)|fail)
 ·refine eK ?_;simp only[List.length_map]at h;have h:decide ((a.length:Int)=(b.length:Int))=false:=by simpa using h
  simp only[fK,h,Bool.false_and]
 ·have aH:a.length=b.length:=by
   simp at h;omega
  clear h;conv=>whnf
  refine⟨Nat,fun i=>⟨[(0,.aq 1 (a.map aM) false),(1,.aq 1 (b.map aM) false),(12,i64 (a.map aM).length),(13,i64 i)],[]⟩,fun i=>i<=a.length/\∀j,j<i->decide (a.getD j 0=b.getD j 0)=true,fun i=>a.length-i,[],⟨0,⟨Nat.zero_le _,by omega⟩,?_⟩,?_⟩
  ·exact⟨by repeat' ((conv=>whnf);first|exact trivial|refine And.intro (by(conv=>arg 1;whnf);first| (with_reducible exact .refl)|exact aV (bH (by omega))|exact .refl) ?_|fail),by repeat' ((conv=>whnf);first|exact trivial|fail),rfl⟩
  ·intro i ⟨ab,bQ⟩;repeat' ((conv=>whnf);first| (refine be ?_ ?_<;>intro h)|fail)
   ·have ap:i<a.length:=by simpa using h
    have iw:i<b.length:=by omega
    clear h;have ax:a.getD i 0=a[i]:=by simp[ap]
    have gK:b.getD i 0=b[i]:=by simp[iw]
    repeat' ((conv=>whnf);first| (refine be ?_ ?_<;>intro h)|refine And.intro (by kernel_rfl) ?_|refine⟨_,_,And.intro ⟨rfl,cE ap⟩ ?_⟩|refine⟨_,_,And.intro ⟨rfl,cE iw⟩ ?_⟩|fail)
    ·refine eK ?_;rw[fK,pB ap (i:=i),Bool.and_false];rw[ax,gK];simpa using h
    ·conv=>whnf
     refine⟨i+1,⟨ap,fun j ai=> ?_⟩,by simp only[];omega,?_⟩
     ·rcases Nat.lt_succ_iff_lt_or_eq.1 ai with ai|rfl
      ·exact bQ j ai
      ·rw[ax,gK];simpa using h
     ·exact⟨by repeat' ((conv=>whnf);first|exact trivial|refine And.intro (by(conv=>arg 1;whnf);first| (with_reducible exact .refl)|exact aV (bH (by omega))|exact .refl) ?_|fail),by repeat' ((conv=>whnf);first|exact trivial|fail),rfl⟩
   ·have dB:¬i<a.length:=by simpa using h
    conv=>whnf
    refine eK ?_;rw[fK,gB.2 (fun j ai=>bQ j (by omega)),aH];simp
theorem BC(a b:List Int)(aZ:a.length<=maxLen):bg Tryz.prog 116 [.aq 1 (a.map aM) false,.aq 1 (b.map aM) false] (.v (.bool (fK a b))):=by
 refine bw Tryz.func116 ?_;repeat' ((conv=>whnf);first|exact .refl|refine .inl ⟨_,_,aD _,Jw _ _ aZ,?_⟩|fail)
structure aQ where
 num:Int
 mem:List Int
def bN(v:aQ):List aj:=[.v (.int .i64 v.num),.aq 1 (v.mem.map aM) false]
def ks(l:List Int)(x:Int):Int:=jv (fun i=>decide (l[i]?=some x)) l.length
theorem BD(l:List Int)(af:l.length<=maxLen)(x:Int):bg Tryz.prog 59 [.aq 1 (l.map aM) false,.v (.int .i64 x)] (.v (.int .i64 (ks l x))):=by
 have fG:l.length<=9223372036854775807:=af;refine bw Tryz.func59 ?_;repeat' ((conv=>whnf);first|refine bc ?_|fail)
 refine⟨Nat,fun i=>⟨[(1,.v (.int .i64 x)),(7,.aq 1 (l.map aM) false),(8,i64 (l.map aM).length),(9,i64 i)],[]⟩,fun i=>i<=l.length/\∀j,j<i->decide (l[j]?=some x)=false,fun i=>l.length-i,[],⟨0,⟨Nat.zero_le _,by omega⟩,?_⟩,?_⟩
 ·exact⟨by repeat' ((conv=>whnf);first|exact trivial|refine And.intro (by(conv=>arg 1;whnf);first| (with_reducible exact .refl)|exact aV (bH (by omega))|exact .refl) ?_|fail),by repeat' ((conv=>whnf);first|exact trivial|fail),rfl⟩
 ·intro i ⟨ab,bQ⟩;repeat' ((conv=>whnf);first| (refine be ?_ ?_<;>intro h)|fail)
  ·have ap:i<l.length:=by simpa using h
   repeat' ((conv=>whnf);first| (refine be ?_ ?_<;>intro h)|refine⟨_,_,And.intro ⟨rfl,cE ap⟩ ?_⟩|fail)
   ·have ad:=h;refine aV (sq ap ?_ bQ).symm;simpa[ap]using ad
   ·have ad:=h;conv=>whnf
    refine⟨i+1,⟨ap,fun j ai=> ?_⟩,by simp only[];omega,?_⟩
    ·rcases Nat.lt_succ_iff_lt_or_eq.1 ai with ai|rfl
     ·exact bQ j ai
     ·simpa[ap]using ad
    ·exact⟨by repeat' ((conv=>whnf);first|exact trivial|refine And.intro (by(conv=>arg 1;whnf);first| (with_reducible exact .refl)|exact aV (bH (by omega))|exact .refl) ?_|fail),by repeat' ((conv=>whnf);first|exact trivial|fail),rfl⟩
  ·have dB:¬i<l.length:=by simpa using h
   conv=>whnf
   refine aV (qo (fun j ai=>bQ j (by omega))).symm
def bR(l:List Int)(x:Int):Bool:=decide (0<=ks l x)
theorem hp(l:List Int)(af:l.length<=maxLen)(x:Int):bg Tryz.prog 33 [.aq 1 (l.map aM) false,.v (.int .i64 x)] (.v (.bool (bR l x))):=by
 refine bw Tryz.func33 ?_;repeat' ((conv=>whnf);first|exact .refl|refine .inl ⟨_,_,aD _,BD _ af _,?_⟩|fail)
theorem u9(l:List Int)(af:l.length<=maxLen):bg Tryz.prog 32 [.aq 1 (l.map aM) false] (.v (.bool (c9 l 16))):=by
 refine bw Tryz.func32 ?_;repeat' ((conv=>whnf);first|exact .refl|refine .inl ⟨_,_,aD _,Qw _ af _,?_⟩|fail)
def bX(v:aQ):Bool:=(decide (0<=v.num)&&decide (v.num<=1099511627776))&&c9 v.mem 16
theorem n3(v:aQ)(af:v.mem.length<=maxLen):bg Tryz.prog 43 [.agg (bN v)] (.v (.bool (bX v))):=by
 refine bw Tryz.func43 ?_;repeat' ((conv=>whnf);first|refine bc ?_|exact .refl|refine⟨_,_,aD _,fun _=>u9 _ af,?_⟩|fail)
def pC(v:aQ)(cut l e2:List Int):List Int×List Int:=
 bif !bX v|| !c9 cut 32 then([],[])else(l.filter (bR e2),l.filter (fun x=> !bR e2 x))
def st(e2 l:List Int)(i:Nat):List (List aj):=((l.take i).filter (bR e2)).map aM
def su(e2 l:List Int)(i:Nat):List (List aj):=((l.take i).filter (fun x=> !bR e2 x)).map aM
theorem aae(e2 l:List Int)(i:Nat): (st e2 l i).length<=i:=by
 simp only[st,List.length_map];exact Nat.le_trans (List.length_filter_le _ _) (by simp;omega)
theorem aaf(e2 l:List Int)(i:Nat): (su e2 l i).length<=i:=by
 simp only[su,List.length_map];exact Nat.le_trans (List.length_filter_le _ _) (by simp;omega)
theorem aag{e2 l:List Int}{i:Nat}(ap:i<l.length)(h:bR e2 (l[i]'ap)=true):st e2 l i++ [aM (l[i]'ap)]=st e2 l (i+1)/\su e2 l i=su e2 l (i+1):=by
 simp only[st,su,List.take_succ_eq_append_getElem ap,List.filter_append];simp[h]
theorem aah{e2 l:List Int}{i:Nat}(ap:i<l.length)(h:bR e2 (l[i]'ap)=false):st e2 l i=st e2 l (i+1)/\su e2 l i++ [aM (l[i]'ap)]=su e2 l (i+1):=by
 simp only[st,su,List.take_succ_eq_append_getElem ap,List.filter_append];simp[h]
theorem Qx(v:aQ)(ac:v.mem.length<=maxLen)(cut l e2:List Int)(al:cut.length<=maxLen)(af:l.length<=1000000)(aF:e2.length<=maxLen):
  bg Tryz.prog 176 [.agg (bN v),.aq 1 (cut.map aM) false,.aq 1 (l.map aM) false,.aq 1 (e2.map aM) false] (.a1 [.aq 1 ((pC v cut l e2).1.map aM) false,.aq 1 ((pC v cut l e2).2.map aM) false]):=by
 refine bw Tryz.func176 ?_;repeat' ((conv=>whnf);first|refine bc ?_| (refine be ?_ ?_<;>intro h)|refine .inl ⟨_,_,aD _,n3 _ ac,?_⟩|refine⟨_,_,aD _,fun _=>BB _ al,?_⟩|fail)
 all_goals(conv=>whnf)
 ·simp only[pC,h,cond_true];exact dI ⟨.ar,.ar,trivial⟩
 ·simp only[pC,h,cond_false];clear h;refine⟨Nat,fun i=>⟨[(3,.aq 1 (e2.map aM) false),(8,.own 1),(9,.own 2),(20,.aq 1 (l.map aM) false),(21,i64 (l.map aM).length),(22,i64 i)],[.cells 24 (bN v),.row 3 1 (st e2 l i),.row 3 1 (su e2 l i)]⟩,fun i=>i<=l.length,fun i=>l.length-i,[.fS 8 3 1,.fS 9 3 1],⟨0,Nat.zero_le _,?_⟩,?_⟩
  ·conv=>whnf
   exact⟨by repeat' ((conv=>whnf);first|exact trivial|refine And.intro (by(conv=>arg 1;whnf);first| (with_reducible exact .refl)|exact aV (bH (by omega))|exact .refl) ?_|fail),by repeat' ((conv=>whnf);first|exact trivial|refine And.intro ?_ ?_|exact .refl|fail),rfl⟩
  ·intro i ab;repeat' ((conv=>whnf);first| (refine be ?_ ?_<;>intro h)|fail)
   ·have ap:i<l.length:=by simpa using h
    clear h;repeat' ((conv=>whnf);first| (refine be ?_ ?_<;>intro h)|refine⟨_,_,And.intro ⟨rfl,cE ap⟩ ?_⟩|refine .inl ⟨_,_,aD _,hp _ aF _,?_⟩|fail)
    ·have aw:=aae e2 l i;have au:=aag ap h;conv=>whnf
     refine And.intro (nC (by simp;omega)) ?_;repeat' ((conv=>whnf);first|refine bc ?_|fail)
     all_goals(conv=>whnf)
     refine⟨i+1,ap,by simp only[];omega,?_⟩;exact⟨⟨.r,.r,.r,.r,.r,aV (bH (by omega)),trivial⟩,⟨.r,ch au.1,ch au.2,trivial⟩,rfl⟩
    ·have cR:=aaf e2 l i;have au:=aah ap h;conv=>whnf
     refine And.intro (nC (by simp;omega)) ?_;repeat' ((conv=>whnf);first|refine bc ?_|fail)
     all_goals(conv=>whnf)
     refine⟨i+1,ap,by simp only[];omega,?_⟩;exact⟨⟨.r,.r,.r,.r,.r,aV (bH (by omega)),trivial⟩,⟨.r,ch au.1,ch au.2,trivial⟩,rfl⟩
   ·have dB:¬i<l.length:=by simpa using h
    have:i=l.length:=by omega
    subst this;conv=>whnf
    refine dI ⟨hT ?_,hT ?_,trivial⟩
    ·simp[st]
    ·simp[su]
theorem aai(v:aQ)(ac:v.mem.length<=1000000)(cut:List Int)(al:cut.length<=1000000):bg Tryz.prog 107 [.agg (bN v),.aq 1 (cut.map aM) false] (.aq 1 ((pC v cut v.mem cut).2.map aM) false):=by
 have h1:v.mem.length<=maxLen:=Nat.le_trans ac (by decide);have ad:cut.length<=maxLen:=Nat.le_trans al (by decide);refine bw Tryz.func107 ?_;repeat' ((conv=>whnf);first|exact .refl|refine .inl ⟨_,_,aD _,Qx _ h1 _ _ _ ad ac ad,?_⟩|fail)
theorem Qy(v:aQ)(ac:v.mem.length<=1000000)(cut:List Int)(al:cut.length<=1000000):bg Tryz.prog 108 [.agg (bN v),.aq 1 (cut.map aM) false] (.aq 1 ((pC v cut cut v.mem).2.map aM) false):=by
 have h1:v.mem.length<=maxLen:=Nat.le_trans ac (by decide);have ad:cut.length<=maxLen:=Nat.le_trans al (by decide);refine bw Tryz.func108 ?_;repeat' ((conv=>whnf);first|exact .refl|refine .inl ⟨_,_,aD _,Qx _ h1 _ _ _ ad al h1,?_⟩|fail)
theorem Qz(n:Int):bg Tryz.prog 220 [.v (.int .i64 n)] (.v (.bool (decide (1<=n)&&decide (n<=16)))):=by
 refine bw Tryz.func220 ?_;repeat' ((conv=>whnf);first|refine bc ?_|exact .refl|fail)
def hV:List Int->List Int->List Int
 |a,[]=>a
 |a,x::b=>a.takeWhile (fun y=> !decide (x<y))++x::hV (a.dropWhile (fun y=> !decide (x<y))) b
theorem aaj{y x:Int}{a b:List Int}(h:x<y):hV (y::a) (x::b)=x::hV (y::a) b:=by simp[hV,h]
theorem aak{y x:Int}{a b:List Int}(h:¬x<y):hV (y::a) (x::b)=y::hV a (x::b):=by simp[hV,h]
theorem aal{x:Int}{b:List Int}:hV [] (x::b)=x::hV [] b:=by simp[hV]
theorem aam(a b:List Int)(aZ:a.length<=500000)(ae:b.length<=500000):bg Tryz.prog 109 [.aq 1 (a.map aM) false,.aq 1 (b.map aM) false] (.aq 1 ((hV a b).map aM) false):=by
 refine bw Tryz.func109 ?_;repeat' ((conv=>whnf);first|refine bc ?_|fail)
 refine⟨Nat×Nat×List Int,fun s=>⟨[(0,.aq 1 (a.map aM) false),(5,.own 0),(6,i64 s.2.1),(9,.aq 1 (b.map aM) false),(10,i64 (b.map aM).length),(11,i64 s.1)],[.row 3 1 (s.2.2.map aM)]⟩,
  fun s=>s.1<=b.length/\s.2.1<=a.length/\s.2.2.length<=s.1+s.2.1/\s.2.2++hV (a.drop s.2.1) (b.drop s.1)=hV a b,fun s=>b.length-s.1,[.fS 5 3 1],⟨(0,0,[]),⟨Nat.zero_le _,Nat.zero_le _,Nat.zero_le _,rfl⟩,?_⟩,?_⟩
 ·conv=>whnf
  exact⟨by repeat' ((conv=>whnf);first|exact trivial|refine And.intro (by(conv=>arg 1;whnf);first| (with_reducible exact .refl)|exact aV (bH (by omega))|exact .refl) ?_|fail),by repeat' ((conv=>whnf);first|exact trivial|refine And.intro ?_ ?_|exact .refl|fail),rfl⟩
 ·intro ⟨j,i,out⟩ ⟨ai,ab,aF,aT⟩;simp only at ai ab aF aT;repeat' ((conv=>whnf);first| (refine be ?_ ?_<;>intro h)|fail)
  ·have ap:j<b.length:=by simpa using h
   clear h;have aa:b.drop j=b[j]::b.drop (j+1):=List.drop_eq_getElem_cons ap;repeat' ((conv=>whnf);first|refine⟨_,_,And.intro ⟨rfl,cE ap⟩ ?_⟩|fail)
   conv=>whnf
   refine⟨Nat×List Int,fun s=>⟨[(0,.aq 1 (a.map aM) false),(5,.own 0),(6,i64 s.1),(8,.v (.int .i64 b[j])),(9,.aq 1 (b.map aM) false),(10,i64 (b.map aM).length),(11,i64 j)],[.row 3 1 (s.2.map aM)]⟩,
    fun s=>s.1<=a.length/\s.2.length<=j+s.1/\s.2++hV (a.drop s.1) (b.drop j)=hV a b,fun s=>a.length-s.1,[],⟨(i,out),⟨ab,aF,aT⟩,?_⟩,?_⟩
   ·exact⟨by repeat' ((conv=>whnf);first|exact trivial|refine And.intro (by(conv=>arg 1;whnf);first| (with_reducible exact .refl)|exact aV (bH (by omega))|exact .refl) ?_|fail),by repeat' ((conv=>whnf);first|exact trivial|refine And.intro ?_ ?_|exact .refl|fail),rfl⟩
   ·intro ⟨i,out⟩ ⟨ab,aF,aT⟩;simp only at ab aF aT;repeat' ((conv=>whnf);first| (refine be ?_ ?_<;>intro h)|fail)
    ·have iw:i<a.length:=by simpa using h
     clear h;have hS:a.drop i=a[i]::a.drop (i+1):=List.drop_eq_getElem_cons iw;repeat' ((conv=>whnf);first| (refine be ?_ ?_<;>intro h)|refine⟨_,_,And.intro ⟨rfl,cE iw⟩ ?_⟩|fail)
     ·conv=>whnf
      refine And.intro (nC (by simp;omega)) ?_;repeat' ((conv=>whnf);first|refine bc ?_|fail)
      all_goals(conv=>whnf)
      refine⟨(j+1,i,out++ [b[j]]),⟨ap,ab,by simp;omega,?_⟩,by simp only[];omega,?_⟩
      ·have h:b[j]<a[i]:=by simpa using h
       rw[aa,hS,aaj h]at aT;rw[<-aT,hS];simp
      ·refine⟨by repeat' ((conv=>whnf);first|exact trivial|refine And.intro (by(conv=>arg 1;whnf);first| (with_reducible exact .refl)|exact aV (bH (by omega))|exact .refl) ?_|fail),⟨ch ?_,trivial⟩,rfl⟩;simp;rfl
     ·conv=>whnf
      refine And.intro (nC (by simp;omega)) ?_;repeat' ((conv=>whnf);first|refine bc ?_|fail)
      all_goals(conv=>whnf)
      refine⟨(i+1,out++ [a[i]]),⟨iw,by simp;omega,?_⟩,by simp only[];omega,?_⟩
      ·have h:¬b[j]<a[i]:=by simpa using h
       rw[aa,hS,aak h]at aT;rw[<-aT,aa];simp
      ·refine⟨by repeat' ((conv=>whnf);first|exact trivial|refine And.intro (by(conv=>arg 1;whnf);first| (with_reducible exact .refl)|exact aV (bH (by omega))|exact .refl) ?_|fail),⟨ch ?_,trivial⟩,rfl⟩;simp;rfl
    ·have dB:¬i<a.length:=by simpa using h
     have:i=a.length:=by omega
     subst this;conv=>whnf
     refine And.intro (nC (by simp;omega)) ?_;repeat' ((conv=>whnf);first|refine bc ?_|fail)
     all_goals(conv=>whnf)
     refine⟨(j+1,a.length,out++ [b[j]]),⟨ap,ab,by simp;omega,?_⟩,by simp only[];omega,?_⟩
     ·rw[aa,List.drop_length,aal]at aT;rw[<-aT];simp
     ·refine⟨by repeat' ((conv=>whnf);first|exact trivial|refine And.intro (by(conv=>arg 1;whnf);first| (with_reducible exact .refl)|exact aV (bH (by omega))|exact .refl) ?_|fail),⟨ch ?_,trivial⟩,rfl⟩;simp;rfl
  ·have dB:¬j<b.length:=by simpa using h
   have:j=b.length:=by omega
   subst this;conv=>whnf
   refine⟨i,And.intro ⟨⟨_,rfl⟩,by simpa using ab⟩ ?_⟩;conv=>whnf
   refine And.intro (nC (by simp;omega)) ?_;repeat' ((conv=>whnf);first|refine bc ?_|fail)
   all_goals(conv=>whnf)
   refine hT ?_;rw[List.drop_length]at aT;rw[<-aT];simp[hV]
theorem Jx(v:aQ)(cut l o:List Int): (pC v cut l o).2.length<=l.length:=by
 unfold pC;cases (!bX v|| !c9 cut 32)
 ·exact List.length_filter_le _ _
 ·simp
def kL(v:aQ)(cut:List Int):List Int:=(pC v cut v.mem cut).2
def fA(v:aQ)(cut:List Int):List Int:=(pC v cut cut v.mem).2
def eQ(v:aQ)(cut:List Int):aQ×Int:=
 bif !bX v|| !c9 cut 32 then(⟨0,[]⟩,1)
 else bif decide (2* ((kL v cut).length:Int)<=(v.mem.length:Int))then(⟨0,[]⟩,9)
 else bif decide (v.num=1099511627776)||decide (16<((kL v cut).length:Int)+((fA v cut).length:Int))then(⟨0,[]⟩,5)
 else(⟨IntKind.i64.wrap (v.num+1),hV (kL v cut) (fA v cut)⟩,0)
theorem y6(v:aQ)(ac:v.mem.length<=500000)(cut:List Int)(al:cut.length<=500000):bg Tryz.prog 61 [.agg (bN v),.aq 1 (cut.map aM) false] (.a1 [.agg (bN (eQ v cut).1),.v (.int .i64 (eQ v cut).2)]):=by
 have h1:v.mem.length<=maxLen:=Nat.le_trans ac (by decide);have ad:cut.length<=maxLen:=Nat.le_trans al (by decide);have aC: (kL v cut).length<=500000:=Nat.le_trans (Jx _ _ _ _) ac;have bh: (fA v cut).length<=500000:=Nat.le_trans (Jx _ _ _ _) al;have QA:bg Tryz.prog 107 [.agg (bN v),.aq 1 (cut.map aM) false] (.aq 1 ((kL v cut).map aM) false):=aai v (by omega) cut (by omega);have QB:bg Tryz.prog 108 [.agg (bN v),.aq 1 (cut.map aM) false] (.aq 1 ((fA v cut).map aM) false):=Qy v (by omega) cut (by omega);have eJ:IntKind.i64.wrap (2* ((kL v cut).length:Int))=2* ((kL v cut).length:Int):=dC (by omega) (by omega);have kr:IntKind.i64.wrap (((kL v cut).length:Int)+((fA v cut).length:Int))=((kL v cut).length:Int)+((fA v cut).length:Int):=dC (by omega) (by omega);refine bw Tryz.func61 ?_;repeat' ((conv=>whnf);first|refine bc ?_| (refine be ?_ ?_<;>intro h)|refine And.intro (by kernel_rfl) ?_|refine And.intro ⟨fun h=>h,fun h=>h⟩ ?_|refine .inl ⟨_,_,aD _,n3 _ h1,?_⟩|refine⟨_,_,aD _,fun _=>BB _ ad,?_⟩|refine .inl ⟨_,_,aD _,QA,?_⟩|refine .inl ⟨_,_,aD _,QB,?_⟩|refine .inl ⟨_,_,aD _,aam _ _ aC bh,?_⟩|fail)
 all_goals(conv=>whnf)
 all_goals clear QA QB
 all_goals(try simp only[List.length_map,eJ,kr]at *)
 all_goals simp only[eQ, *,cond_true,cond_false]
 ·exact dI ⟨gM ⟨.r,.ar,trivial⟩,.r,trivial⟩
 ·exact dI ⟨gM ⟨.r,.ar,trivial⟩,.r,trivial⟩
 ·exact dI ⟨gM ⟨.r,.ar,trivial⟩,.r,trivial⟩
 ·exact .refl
theorem aan(n:Int):bg Tryz.prog 105 [.v (.int .i64 n)] (.v (.bool (decide (1<=n)&&decide (n<=1000)))):=by
 refine bw Tryz.func105 ?_;repeat' ((conv=>whnf);first|refine bc ?_|exact .refl|fail)
def w3(l:List Int)(i:Nat):Bool:= !(!(decide (1<=l.getD i 0)&&decide (l.getD i 0<=1000))|| (decide (0<(i:Int))&&decide (l.getD i 0<=l.getD (i-1) 0)))
def tH(l:List Int):Bool:=gA (w3 l) l.length
theorem aao(l:List Int)(af:l.length<=maxLen):bg Tryz.prog 57 [.aq 1 (l.map aM) false] (.v (.bool (tH l))):=by
 have fG:l.length<=9223372036854775807:=af;refine bw Tryz.func57 ?_;repeat' ((conv=>whnf);first|refine bc ?_|fail)
 refine⟨Nat,fun i=>⟨[(0,.aq 1 (l.map aM) false),(3,i64 i)],[]⟩,fun i=>i<=l.length/\∀j,j<i->w3 l j=true,fun i=>l.length-i,[],⟨0,⟨Nat.zero_le _,by omega⟩,?_⟩,?_⟩
 ·exact⟨by repeat' ((conv=>whnf);first|exact trivial|refine And.intro (by(conv=>arg 1;whnf);first| (with_reducible exact .refl)|exact aV (bH (by omega))|exact .refl) ?_|fail),by repeat' ((conv=>whnf);first|exact trivial|fail),rfl⟩
 ·intro i ⟨ab,bQ⟩;repeat' ((conv=>whnf);first| (refine be ?_ ?_<;>intro h)|fail)
  ·have ap:i<l.length:=by simpa using h
   clear h;have ax:l.getD i 0=l[i]:=by simp[ap]
   repeat' ((conv=>whnf);first|refine bc ?_|refine⟨_,_,And.intro ⟨rfl,cE ap⟩ ?_⟩|refine .inl ⟨_,_,aD _,aan _,?_⟩|refine⟨i,aM (l[i]'ap),And.intro ⟨⟨fun h=>h,fun h=>h⟩,fun ax=>⟨rfl,cE ap⟩⟩ ?_⟩|fail)
   have au:∀ (ax: (!(decide (1<=l[i])&&decide (l[i]<=1000)))=false/\0<i),(IntKind.i64.wrap ((i:Int)-1))=((i-1:Nat):Int)/\(l.map aM)[i-1]?=some (aM (l.getD (i-1) 0)):=by
    rintro⟨_,aH⟩;refine⟨by rw[dC (by omega) (by omega)];omega,?_⟩;have:i-1<l.length:=by omega
    simp[this]
   refine⟨i-1,aM (l.getD (i-1) 0),And.intro ⟨⟨fun h=>h,fun h=>h⟩,fun ax=>au ?_⟩ ?_⟩
   ·simp only[Bool.and_eq_true,Bool.not_eq_true',decide_eq_true_eq]at ax;refine⟨?_,by omega⟩;have:=ax.1;simpa using this
   repeat' ((conv=>whnf);first|refine bc ?_| (refine be ?_ ?_<;>intro h)|refine And.intro (by kernel_rfl) ?_|refine And.intro ⟨fun h=>h,fun h=>h⟩ ?_|fail)
   all_goals(conv=>whnf)
   ·refine eK ?_;have:w3 l i=false:=by simp only[w3,ax,h];rfl
    rw[tH,pB ap this]
   ·refine⟨i+1,⟨ap,fun j ai=> ?_⟩,by simp only[];omega,?_⟩
    ·rcases Nat.lt_succ_iff_lt_or_eq.1 ai with ai|rfl
     ·exact bQ j ai
     ·simp only[w3,ax,h];rfl
    ·exact⟨by repeat' ((conv=>whnf);first|exact trivial|refine And.intro (by(conv=>arg 1;whnf);first| (with_reducible exact .refl)|exact aV (bH (by omega))|exact .refl) ?_|fail),by repeat' ((conv=>whnf);first|exact trivial|fail),rfl⟩
  ·have dB:¬i<l.length:=by simpa using h
   conv=>whnf
   refine eK ?_;rw[tH,gB.2 (fun j ai=>bQ j (by omega))]
theorem aap(a b:List Int)(aZ:a.length<=maxLen):bg Tryz.prog 42 [.aq 1 (a.map aM) false,.aq 1 (b.map aM) false] (.v (.bool (fK a b))):=by
 have fG:a.length<=9223372036854775807:=aZ;refine bw Tryz.func42 ?_;repeat' ((conv=>whnf);first| (refine be ?_ ?_<;>intro h)|fail)
 ·refine eK ?_;simp only[List.length_map]at h;have h:decide ((a.length:Int)=(b.length:Int))=false:=by simpa using h
  simp only[fK,h,Bool.false_and]
 ·have aH:a.length=b.length:=by
   simp at h;omega
  clear h;conv=>whnf
  refine⟨Nat,fun i=>⟨[(0,.aq 1 (a.map aM) false),(1,.aq 1 (b.map aM) false),(5,i64 i)],[]⟩,fun i=>i<=a.length/\∀j,j<i->decide (a.getD j 0=b.getD j 0)=true,fun i=>a.length-i,[],⟨0,⟨Nat.zero_le _,by omega⟩,?_⟩,?_⟩
  ·exact⟨by repeat' ((conv=>whnf);first|exact trivial|refine And.intro (by(conv=>arg 1;whnf);first| (with_reducible exact .refl)|exact aV (bH (by omega))|exact .refl) ?_|fail),by repeat' ((conv=>whnf);first|exact trivial|fail),rfl⟩
  ·intro i ⟨ab,bQ⟩;repeat' ((conv=>whnf);first| (refine be ?_ ?_<;>intro h)|fail)
   ·have ap:i<a.length:=by simpa using h
    have iw:i<b.length:=by omega
    clear h;have ax:a.getD i 0=a[i]:=by simp[ap]
    have gK:b.getD i 0=b[i]:=by simp[iw]
    repeat' ((conv=>whnf);first| (refine be ?_ ?_<;>intro h)|refine And.intro (by kernel_rfl) ?_|refine⟨_,_,And.intro ⟨rfl,cE ap⟩ ?_⟩|refine⟨_,_,And.intro ⟨rfl,cE iw⟩ ?_⟩|fail)
    ·refine eK ?_;rw[fK,pB ap (i:=i),Bool.and_false];rw[ax,gK];simpa using h
    ·conv=>whnf
     refine⟨i+1,⟨ap,fun j ai=> ?_⟩,by simp only[];omega,?_⟩
     ·rcases Nat.lt_succ_iff_lt_or_eq.1 ai with ai|rfl
      ·exact bQ j ai
      ·rw[ax,gK];simpa using h
     ·exact⟨by repeat' ((conv=>whnf);first|exact trivial|refine And.intro (by(conv=>arg 1;whnf);first| (with_reducible exact .refl)|exact aV (bH (by omega))|exact .refl) ?_|fail),by repeat' ((conv=>whnf);first|exact trivial|fail),rfl⟩
   ·have dB:¬i<a.length:=by simpa using h
    conv=>whnf
    refine eK ?_;rw[fK,gB.2 (fun j ai=>bQ j (by omega)),aH];simp
theorem E4{l:List Int}:tH l=true↔∀i,(h:i<l.length)->1<=l[i]/\l[i]<=1000/\(0<i->l.getD (i-1) 0<l[i]):=by
 rw[tH,gB];refine forall_congr' fun i=> ?_;constructor
 ·intro h ab;have h:=h ab;have ax:l.getD i 0=l[i]:=by simp[ab]
  simp only[w3,ax,Bool.not_eq_true',Bool.or_eq_false_iff,Bool.not_eq_false',Bool.and_eq_true,decide_eq_true_eq,Bool.and_eq_false_iff,decide_eq_false_iff_not]at h;omega
 ·intro h ab;have h:=h ab;have ax:l.getD i 0=l[i]:=by simp[ab]
  simp only[w3,ax,Bool.not_eq_true',Bool.or_eq_false_iff,Bool.not_eq_false',Bool.and_eq_true,decide_eq_true_eq,Bool.and_eq_false_iff,decide_eq_false_iff_not];omega
theorem aaq{l:List Int}:gA (rq l) l.length=true↔∀i,(h:i<l.length)->(0::l).getD i 0<l[i]/\l[i]<=1000:=by
 rw[gB];refine forall_congr' fun i=> ?_;constructor
 ·intro h ab;have h:=h ab;have ax:l.getD i 0=l[i]:=by simp[ab]
  simp only[rq,ax,Bool.not_eq_true',Bool.or_eq_false_iff,decide_eq_false_iff_not]at h;omega
 ·intro h ab;have h:=h ab;have ax:l.getD i 0=l[i]:=by simp[ab]
  simp only[rq,ax,Bool.not_eq_true',Bool.or_eq_false_iff,decide_eq_false_iff_not];omega
theorem aar(l:List Int):tH l=gA (rq l) l.length:=by
 rw[Bool.eq_iff_iff,E4,aaq];constructor
 ·intro h i ab;have h1:=h i ab;cases i with
  |zero=>simp;omega
  |succ i=>exact⟨by simpa using h1.2.2 (by omega),h1.2.1⟩
 ·intro h i;induction i with
  |zero=>intro ab;have h1:=h 0 ab;simp at h1;exact⟨by omega,h1.2,fun h=>by omega⟩
  |succ i aN=>
   intro ab;have h1:=h (i+1) ab;have ad:=aN (by omega);have e: (0::l).getD (i+1) 0=l[i]:=by simp[show i<l.length by omega]
   rw[e]at h1;exact⟨by omega,h1.2,fun _=>by simp[show i<l.length by omega];omega⟩
theorem y7(l:List Int)(m:Int):c9 l m=((decide (1<=(l.length:Int))&&decide ((l.length:Int)<=m))&&tH l):=by
 rw[c9,aar];congr 1;rw[Bool.eq_iff_iff];simp only[Bool.not_eq_true',Bool.or_eq_false_iff,decide_eq_false_iff_not,Bool.and_eq_true,decide_eq_true_eq];omega
theorem aas(l:List Int)(af:l.length<=maxLen)(x:Int):bg Tryz.prog 27 [.aq 1 (l.map aM) false,.v (.int .i64 x)] (.v (.int .i64 (ks l x))):=by
 have fG:l.length<=9223372036854775807:=af;refine bw Tryz.func27 ?_;repeat' ((conv=>whnf);first|refine bc ?_|fail)
 refine⟨Nat,fun i=>⟨[(0,.aq 1 (l.map aM) false),(1,.v (.int .i64 x)),(5,i64 i)],[]⟩,fun i=>i<=l.length/\∀j,j<i->decide (l[j]?=some x)=false,fun i=>l.length-i,[],⟨0,⟨Nat.zero_le _,by omega⟩,?_⟩,?_⟩
 ·exact⟨by repeat' ((conv=>whnf);first|exact trivial|refine And.intro (by(conv=>arg 1;whnf);first| (with_reducible exact .refl)|exact aV (bH (by omega))|exact .refl) ?_|fail),by repeat' ((conv=>whnf);first|exact trivial|fail),rfl⟩
 ·intro i ⟨ab,bQ⟩;repeat' ((conv=>whnf);first| (refine be ?_ ?_<;>intro h)|fail)
  ·have ap:i<l.length:=by simpa using h
   repeat' ((conv=>whnf);first| (refine be ?_ ?_<;>intro h)|refine⟨_,_,And.intro ⟨rfl,cE ap⟩ ?_⟩|fail)
   ·have ad:=h;refine aV (sq ap ?_ bQ).symm;simpa[ap]using ad
   ·have ad:=h;conv=>whnf
    refine⟨i+1,⟨ap,fun j ai=> ?_⟩,by simp only[];omega,?_⟩
    ·rcases Nat.lt_succ_iff_lt_or_eq.1 ai with ai|rfl
     ·exact bQ j ai
     ·simpa[ap]using ad
    ·exact⟨by repeat' ((conv=>whnf);first|exact trivial|refine And.intro (by(conv=>arg 1;whnf);first| (with_reducible exact .refl)|exact aV (bH (by omega))|exact .refl) ?_|fail),by repeat' ((conv=>whnf);first|exact trivial|fail),rfl⟩
  ·have dB:¬i<l.length:=by simpa using h
   conv=>whnf
   refine aV (qo (fun j ai=>bQ j (by omega))).symm
theorem aat(l:List Int)(af:l.length<=maxLen)(x:Int):bg Tryz.prog 10 [.aq 1 (l.map aM) false,.v (.int .i64 x)] (.v (.bool (bR l x))):=by
 refine bw Tryz.func10 ?_;repeat' ((conv=>whnf);first|exact .refl|refine .inl ⟨_,_,aD _,aas _ af _,?_⟩|fail)
def Jy(l:List Int):Bool:=(decide (1<=(l.length:Int))&&decide ((l.length:Int)<=16))&&tH l
theorem aau(l:List Int):Jy l=c9 l 16:=by rw[y7,Jy]
theorem aav(l:List Int)(af:l.length<=maxLen):bg Tryz.prog 26 [.aq 1 (l.map aM) false] (.v (.bool (c9 l 16))):=by
 rw[<-aau];refine bw Tryz.func26 ?_;repeat' ((conv=>whnf);first|refine bc ?_|refine⟨_,_,aD _,fun _=>aao _ af,?_⟩|fail)
 all_goals(conv=>whnf)
 refine eK ?_;simp only[Jy,List.length_map]
theorem QC(v:aQ)(af:v.mem.length<=maxLen):bg Tryz.prog 8 [.agg (bN v)] (.v (.bool (bX v))):=by
 refine bw Tryz.func8 ?_;repeat' ((conv=>whnf);first|refine bc ?_|exact .refl|refine⟨_,_,aD _,fun _=>aav _ af,?_⟩|fail)
theorem aaw{v:aQ}(ac:bX v=true):c9 v.mem 16=true:=by
 simp only[bX,Bool.and_eq_true]at ac;exact ac.2
theorem kM{v:aQ}(ac:bX v=true):1<=v.mem.length/\v.mem.length<=16:=by
 have fj:=aaw ac;rw[y7]at fj;simp only[Bool.and_eq_true,decide_eq_true_eq]at fj;omega
theorem aax{l:List Int}{i:Nat}(h:i<l.length):bR l l[i]=true:=by
 rcases aI: (List.range l.length).find? (fun j=>decide (l[j]?=some l[i]))with _|n
 ·have:=List.find?_eq_none.1 aI i (List.mem_range.2 h);simp[h]at this
 ·simp only[bR,ks,jv,aI];exact decide_eq_true (by omega)
theorem oR{l:List Int}{x:Int}:bR l x=true↔x∈l:=by
 constructor
 ·intro h;rcases aI: (List.range l.length).find? (fun i=>decide (l[i]?=some x))with _|n
  ·simp only[bR,ks,jv,aI]at h;cases h
  ·have au:=List.find?_some aI;simp only[decide_eq_true_eq]at au;exact List.mem_of_getElem? au
 ·intro h;obtain⟨i,ab,rfl⟩:=List.getElem_of_mem h;exact aax ab
theorem aay(l:List Int):fK l l=true:=by
 simp only[fK,decide_true,Bool.true_and];exact gB.2 (fun j _=>by simp)
theorem va{a b:List Int}:fK a b=true↔a=b:=by
 constructor
 ·intro h;simp only[fK,Bool.and_eq_true,decide_eq_true_eq,gB]at h;refine List.ext_getElem (by omega) fun i h1 ad=> ?_;have:=h.2 i h1;simpa[h1,ad]using this
 ·rintro rfl;exact aay a
theorem aaz{n:Nat}{r:List aj}(h:qm ah (n+2) 22 r):∃l:List Int,r=[.aq 1 (l.map aM) false]/\l.length<=maxLen:=by
 obtain⟨es,rfl,af,oL⟩:=h;obtain⟨d,rfl,_⟩:=Ja (f:=aM) (Q:=fun _=>True) (fun r ao=>by
  obtain⟨i,rfl,_⟩:=oL r ao;exact⟨i,rfl,trivial⟩)
 exact⟨d,rfl,by simpa using af⟩
theorem aaA{n:Nat}{r:List aj}(h:qm ah (n+3) 24 r):∃a:aQ,r=bN a/\a.mem.length<=maxLen:=by
 obtain⟨p,q,rfl,⟨aaB,rfl,_⟩,l,s,rfl,af,rfl⟩:=h;obtain⟨l,rfl,gi⟩:=aaz (n:=n) af;exact⟨⟨aaB,l⟩,rfl,gi⟩
def lu(a b:Int):Int:=bif decide (a<b)then -1 else bif decide (b<a)then 1 else 0
theorem BE(a b:Int): (lu a b<0↔a<b)/\(lu a b=0↔a=b)/\(lu a b= -1\/lu a b=0\/lu a b=1):=by
 unfold lu;by_cases h1:a<b
 ·simp[h1];omega
 ·by_cases ad:b<a
  ·simp[h1,ad];omega
  ·simp[h1,ad];omega
theorem aaC(a:Int):bg Tryz.prog 206 [.v (.int .u64 a)] (.v (.bool false)):=by
 refine bw Tryz.func206 ?_;repeat' ((conv=>whnf);first|refine bc ?_|fail)
 all_goals(conv=>whnf)
 refine eK ?_;simp
theorem QD(a b:Int):bg Tryz.prog 171 [.v (.int .u64 a),.v (.int .u64 b)] (.v (.int .i64 (lu a b))):=by
 refine bw Tryz.func171 ?_;repeat' ((conv=>whnf);first| (refine be ?_ ?_<;>intro h)|refine .inl ⟨_,_,aD _,aaC _,?_⟩|fail)
 all_goals(conv=>whnf)
 all_goals refine aV ?_
 all_goals simp only[lu, *,cond_true,cond_false]
def u64(n:Int):aj:=.v (.int .u64 n)
def E5(x s f:Int):Int:=IntKind.u64.wrap (bits .xor .u64 x (x.fdiv (2^ (min s.toNat 64))) *f)
def E6(x:Int):Nat->Int
 |0=>x
 |1=>E5 x 30 13787848793156543929
 |_=>E5 (E5 x 30 13787848793156543929) 27 10723151780598845931
def vb(x:Int):Int:=bits .xor .u64 (E6 x 2) ((E6 x 2).fdiv (2^ (min (31:Int).toNat 64)))
theorem aaD:bg Tryz.prog 244 [] (.agg [u64 30,u64 27,u64 31]):=by
 refine bw Tryz.func244 ?_;repeat' ((conv=>whnf);first|exact .refl|fail)
theorem aaE:bg Tryz.prog 245 [] (.agg [u64 13787848793156543929,u64 10723151780598845931]):=by
 refine bw Tryz.func245 ?_;repeat' ((conv=>whnf);first|exact .refl|fail)
theorem aaF(x:Int):bg Tryz.prog 231 [u64 x] (u64 (vb x)):=by
 refine bw Tryz.func231 ?_;repeat' ((conv=>whnf);first|refine .inl ⟨_,_,aD _,aaD,?_⟩|refine .inl ⟨_,_,aD _,aaE,?_⟩|fail)
 refine⟨Nat,fun i=>⟨[(0,u64 (E6 x i)),(3,.aP 0 0),(4,.aP 1 0),(8,i64 i)],[.cells 285 [u64 30,u64 27,u64 31],.cells 287 [u64 13787848793156543929,u64 10723151780598845931]]⟩,fun i=>i<=2,fun i=>2-i,[],⟨0,Nat.zero_le _,?_⟩,?_⟩
 ·exact⟨by repeat' ((conv=>whnf);first|exact trivial|refine And.intro (by(conv=>arg 1;whnf);first| (with_reducible exact .refl)|exact aV (bH (by omega))|exact .refl) ?_|fail),by repeat' ((conv=>whnf);first|exact trivial|refine And.intro ?_ ?_|exact .refl|fail),rfl⟩
 ·intro i ab;repeat' ((conv=>whnf);first| (refine be ?_ ?_<;>intro h)| (refine And.intro ?_ ?_;focus (simp;done))|fail)
  ·have ap:i<2:=by
    simp at h;omega
   clear h;have al:i=0\/i=1:=by omega
   rcases al with rfl|rfl
   ·repeat' ((conv=>whnf);first|refine And.intro (by kernel_rfl) ?_|refine⟨0,And.intro ⟨rfl,by decide⟩ ?_⟩|refine⟨.v (.int .u64 30),And.intro rfl ?_⟩|refine⟨.v (.int .u64 13787848793156543929),And.intro rfl ?_⟩| (refine And.intro ?_ ?_;focus (simp;done))|fail)
    all_goals(conv=>whnf)
    refine⟨1,by omega,by decide,?_⟩;exact⟨⟨aV rfl,.r,.r,.r,trivial⟩,⟨.r,.r,trivial⟩,rfl⟩
   ·repeat' ((conv=>whnf);first|refine And.intro (by kernel_rfl) ?_|refine⟨1,And.intro ⟨rfl,by decide⟩ ?_⟩|refine⟨.v (.int .u64 27),And.intro rfl ?_⟩|refine⟨.v (.int .u64 10723151780598845931),And.intro rfl ?_⟩| (refine And.intro ?_ ?_;focus (simp;done))|fail)
    all_goals(conv=>whnf)
    refine⟨2,by omega,by decide,?_⟩;exact⟨⟨aV rfl,.r,.r,.r,trivial⟩,⟨.r,.r,trivial⟩,rfl⟩
  ·have:i=2:=by
    simp at h;omega
   subst this;repeat' ((conv=>whnf);first|exact .refl|fail)
   all_goals(conv=>whnf)
   all_goals trace_state
def Jz(h x:Int):Int:=vb (IntKind.u64.wrap (h+IntKind.u64.wrap (11400714819323198485*IntKind.u64.wrap (x+1))))
theorem aaG(h x:Int):bg Tryz.prog 205 [u64 h,u64 x] (u64 (Jz h x)):=by
 refine bw Tryz.func205 ?_;repeat' ((conv=>whnf);first|exact .refl|refine .inl ⟨_,_,aD _,aaF _,?_⟩|fail)
def ed(r m:Int):Int:=Jz (IntKind.u64.wrap r) (IntKind.u64.wrap m)
theorem BF(r m:Int):bg Tryz.prog 168 [i64 r,i64 m] (u64 (ed r m)):=by
 refine bw Tryz.func168 ?_;repeat' ((conv=>whnf);first|exact .refl|refine .inl ⟨_,_,aD _,aaG _ _,?_⟩|fail)
open Go.Sort (SWO)
def qu{β:Type}(cf:β->β->Int)(l:List β):List β:=l.mergeSort fun x y=> !Go.Proofs.ltOf cf y x
theorem BG{β:Type}(cf:β->β->Int)(l:List β): (qu cf l).Perm l:=List.mergeSort_perm _ _
theorem QE{β:Type}{cf:β->β->Int}(hO:SWO (Go.Proofs.ltOf cf))(l:List β): (qu cf l).Pairwise fun x y=>Go.Proofs.ltOf cf y x=false:=by
 have h:=List.pairwise_mergeSort (le:=fun x y=> !Go.Proofs.ltOf cf y x) (fun a b c h1 ad=>by
  simp only[Bool.not_eq_true']at *;exact hO.ntrans _ _ _ ad h1) (fun a b=>by
  cases h:Go.Proofs.ltOf cf b a
  ·simp
  ·cases ad:Go.Proofs.ltOf cf a b
   ·simp
   ·have:=hO.trans _ _ _ h ad;rw[hO.irrefl]at this;cases this) l
 exact h.imp fun h=>by simpa using h
theorem y8{β:Type}{cf:β->β->Int}{l:List β}{x:β}:x∈qu cf l↔x∈l:=(BG cf l).mem_iff
theorem JA{β:Type}(cf:β->β->Int)(l:List β): (qu cf l).length=l.length:=(BG cf l).length_eq
theorem aaH(l:List Int)(af:l.length<=maxLen)(x:Int):bg Tryz.prog 185 [.aq 1 (l.map aM) false,.v (.int .i64 x)] (.v (.int .i64 (ks l x))):=by
 have fG:l.length<=9223372036854775807:=af;refine bw Tryz.func185 ?_;repeat' ((conv=>whnf);first|refine bc ?_|fail)
 refine⟨Nat,fun i=>⟨[(0,.aq 1 (l.map aM) false),(1,.v (.int .i64 x)),(7,i64 l.length),(8,i64 i)],[]⟩,fun i=>i<=l.length/\∀j,j<i->decide (l[j]?=some x)=false,fun i=>l.length-i,[],⟨0,⟨Nat.zero_le _,by omega⟩,?_⟩,?_⟩
 ·exact⟨⟨.r,.r,aV (by simp),.r,trivial⟩,trivial,rfl⟩
 ·intro i ⟨ab,bQ⟩;repeat' ((conv=>whnf);first| (refine be ?_ ?_<;>intro h)|fail)
  ·have ap:i<l.length:=by simpa using h
   repeat' ((conv=>whnf);first| (refine be ?_ ?_<;>intro h)|refine⟨_,_,And.intro ⟨rfl,cE ap⟩ ?_⟩|fail)
   ·have ad:=h;refine aV (sq ap ?_ bQ).symm;simp[ap];simpa using(of_decide_eq_true ad).symm
   ·have ad:=h;conv=>whnf
    refine⟨i+1,⟨ap,fun j ai=> ?_⟩,by simp only[];omega,?_⟩
    ·rcases Nat.lt_succ_iff_lt_or_eq.1 ai with ai|rfl
     ·exact bQ j ai
     ·simp[ap];exact fun e=>of_decide_eq_false ad e.symm
    ·exact⟨by repeat' ((conv=>whnf);first|exact trivial|refine And.intro (by(conv=>arg 1;whnf);first| (with_reducible exact .refl)|exact aV (bH (by omega))|exact .refl) ?_|fail),by repeat' ((conv=>whnf);first|exact trivial|fail),rfl⟩
  ·have dB:¬i<l.length:=by simpa using h
   conv=>whnf
   refine aV (qo (fun j ai=>bQ j (by omega))).symm
theorem QF(l:List Int)(af:l.length<=maxLen)(x:Int):bg Tryz.prog 122 [.aq 1 (l.map aM) false,.v (.int .i64 x)] (.v (.bool (bR l x))):=by
 refine bw Tryz.func122 ?_;repeat' ((conv=>whnf);first|exact .refl|refine .inl ⟨_,_,aD _,aaH _ af _,?_⟩|fail)
theorem aaI{l:List Int}:tH l=true↔l.Pairwise (· < ·)/\∀x∈l,1<=x/\x<=1000:=by
 rw[E4];constructor
 ·intro h;have QG:∀i (ab:i+1<l.length),l[i]<l[i+1]:=fun i ab=>by
   have:=(h (i+1) ab).2.2 (by omega);simpa[show i<l.length by omega]using this
  refine⟨?_,fun x an=> ?_⟩
  ·rw[List.pairwise_iff_getElem];intro i j ab ai dS;have key:∀d (aa:i+(d+1)<l.length),l[i]<l[i+(d+1)]:=by
    intro d;induction d with
    |zero=>intro aa;exact QG i aa
    |succ d aN=>
     intro aa;have h1:=aN (by omega);have ad:=QG (i+(d+1)) aa;exact Int.lt_trans h1 ad
   have:=key (j-i-1) (by omega);simpa[show i+(j-i-1+1)=j by omega]using this
  ·obtain⟨i,ab,rfl⟩:=List.getElem_of_mem an;have:=h i ab;exact⟨this.1,this.2.1⟩
 ·intro ⟨h1,ad⟩ i ab;have:=ad _ (List.getElem_mem ab);refine⟨this.1,this.2,fun aH=> ?_⟩;have aC:=List.pairwise_iff_getElem.1 h1 (i-1) i (by omega) ab (by omega);simpa[show i-1<l.length by omega]using aC
theorem n4{l:List Int}{m:Int}:c9 l m=true↔ (1<=(l.length:Int)/\(l.length:Int)<=m)/\l.Pairwise (· < ·)/\∀x∈l,1<=x/\x<=1000:=by
 rw[y7];simp only[Bool.and_eq_true,decide_eq_true_eq,aaI]
theorem BH{l:List Int}(h:l.Pairwise (· < ·)):l.Nodup:=h.imp (fun h=>by omega)
theorem vc(n:Int):IntKind.u64.wrap n=n%18446744073709551616:=by
 simp[IntKind.wrap,IntKind.bits,IntKind.signed]
theorem pD(n:Int):0<=IntKind.u64.wrap n/\IntKind.u64.wrap n<18446744073709551616:=by
 rw[vc];omega
theorem h8{n:Int}(h1:0<=n)(ad:n<18446744073709551616):IntKind.u64.wrap n=n:=by
 rw[vc];omega
def xs(s x:Nat):Nat:=x^^^ (x>>>s)
theorem y9{s x:Nat}(h:x<2^64):xs s x<2^64:=by
 unfold xs;refine Nat.xor_lt_two_pow h ?_;rw[Nat.shiftRight_eq_div_pow];exact Nat.lt_of_le_of_lt (Nat.div_le_self _ _) h
theorem JB{s x y:Nat}(ag:0<s)(an:x<2^64)(bt:y<2^64)(h:xs s x=xs s y):x=y:=by
 have key:∀d i,i+d=64\/64<=i->x.testBit i=y.testBit i:=by
  intro d;induction d using Nat.strongRecOn with
  |ind d aN=>
   intro i ab;rcases Nat.lt_or_ge i 64 with c0|c0
   ·have ae:=congrArg (fun n=>n.testBit i) h;simp only[xs,Nat.testBit_xor,Nat.testBit_shiftRight]at ae;have aS:x.testBit (s+i)=y.testBit (s+i):=by
     rcases Nat.lt_or_ge (s+i) 64 with fo|fo
     ·exact aN (64- (s+i)) (by omega) (s+i) (.inl (by omega))
     ·exact aN 0 (by omega) (s+i) (.inr fo)
    rw[aS]at ae;cases E7:x.testBit i<;>cases aaJ:y.testBit i<;>cases vd:y.testBit (s+i)<;>rw[E7,aaJ,vd]at ae<;>simp at ae<;>rfl
   ·rw[Nat.testBit_lt_two_pow (Nat.lt_of_lt_of_le an (Nat.pow_le_pow_right (by decide) c0)),Nat.testBit_lt_two_pow (Nat.lt_of_lt_of_le bt (Nat.pow_le_pow_right (by decide) c0))]
 refine Nat.eq_of_testBit_eq fun i=> ?_;rcases Nat.lt_or_ge i 64 with c0|c0
 ·exact key (64-i) i (.inl (by omega))
 ·exact key 0 i (.inr c0)
theorem JC{x:Nat}(h:x<2^64)(s:Nat):bits .xor .u64 (x:Int) ((x:Int).fdiv (2^s))=((xs s x:Nat):Int):=by
 have aa: (x:Int).fdiv (2^s)=((x>>>s:Nat):Int):=by
  rw[Int.fdiv_eq_ediv_of_nonneg _ (Int.pow_nonneg (by decide)),Nat.shiftRight_eq_div_pow]
  norm_cast
 rw[aa];have ad:x>>>s<2^64:=by
  rw[Nat.shiftRight_eq_div_pow];exact Nat.lt_of_le_of_lt (Nat.div_le_self _ _) h
 have e: (BitVec.ofInt 64 (x:Int)^^^BitVec.ofInt 64 ((x>>>s:Nat):Int)).toNat=xs s x:=by
  rw[BitVec.toNat_xor,BitVec.ofInt_natCast,BitVec.ofInt_natCast,BitVec.toNat_ofNat,BitVec.toNat_ofNat,Nat.mod_eq_of_lt h,Nat.mod_eq_of_lt ad];rfl
 show IntKind.u64.wrap ((BitVec.ofInt 64 (x:Int)^^^BitVec.ofInt 64 ((x>>>s:Nat):Int)).toNat:Int)=_;rw[e];have:=y9 (s:=s) h;exact h8 (by omega) (by omega)
theorem JD{c ci a b:Int}(al:c*ci%18446744073709551616=1)(aZ:0<=a/\a<18446744073709551616)(ae:0<=b/\b<18446744073709551616)(h:IntKind.u64.wrap (a*c)=IntKind.u64.wrap (b*c)):a=b:=by
 rw[vc,vc]at h;have h1: (a*c*ci)%18446744073709551616=(b*c*ci)%18446744073709551616:=by
  rw[Int.mul_emod,h,<-Int.mul_emod]
 rw[Int.mul_assoc,Int.mul_assoc,Int.mul_emod a,Int.mul_emod b,al]at h1;simp only[Int.mul_one,Int.emod_emod_of_dvd _ (Int.dvd_refl _)]at h1;omega
def BI(x:Nat):Nat:=xs 31 ((IntKind.u64.wrap ((xs 27 ((IntKind.u64.wrap ((xs 30 x:Nat) *13787848793156543929)).toNat):Nat) *10723151780598845931)).toNat)
theorem za(n:Int): (((IntKind.u64.wrap n).toNat:Nat):Int)=IntKind.u64.wrap n:=Int.toNat_of_nonneg (pD n).1
theorem tI(n:Int): (IntKind.u64.wrap n).toNat<2^64:=by
 have:=pD n;omega
theorem JE{x:Nat}(h:x<2^64):vb (x:Int)=((BI x:Nat):Int):=by
 have aaK:min (30:Int).toNat 64=30:=rfl;have aaL:min (27:Int).toNat 64=27:=rfl;have aaM:min (31:Int).toNat 64=31:=rfl;unfold vb;simp only[E6,E5,aaK,aaL,aaM];rw[JC h];rw[<-za ((xs 30 x:Nat) *13787848793156543929)];rw[JC (tI _)];rw[<-za (((xs 27 _:Nat):Int) *10723151780598845931)];rw[JC (tI _)];rfl
theorem aaN{x y:Nat}(an:x<2^64)(bt:y<2^64)(h:BI x=BI y):x=y:=by
 unfold BI at h;have h1:=JB (by decide) (tI _) (tI _) h;have ad:IntKind.u64.wrap (((xs 27 ((IntKind.u64.wrap ((xs 30 x:Nat) *13787848793156543929)).toNat):Nat):Int) *10723151780598845931)=IntKind.u64.wrap (((xs 27 ((IntKind.u64.wrap ((xs 30 y:Nat) *13787848793156543929)).toNat):Nat):Int) *10723151780598845931):=by
  rw[<-za,<-za (((xs 27 ((IntKind.u64.wrap ((xs 30 y:Nat) *13787848793156543929)).toNat):Nat):Int) *10723151780598845931),h1]
 have cC:=y9 (s:=27) (tI ((xs 30 x:Nat) *13787848793156543929));have cH:=y9 (s:=27) (tI ((xs 30 y:Nat) *13787848793156543929));have aC:=JD (ci:=3573116690164977347) (by decide) (by omega) (by omega) ad;have bh:=JB (by decide) (tI _) (tI _) (Int.ofNat_inj.1 aC);have bL:IntKind.u64.wrap (((xs 30 x:Nat):Int) *13787848793156543929)=IntKind.u64.wrap (((xs 30 y:Nat):Int) *13787848793156543929):=by
  rw[<-za,<-za (((xs 30 y:Nat):Int) *13787848793156543929),bh]
 have j3:=y9 (s:=30) an;have n5:=y9 (s:=30) bt;have c0:=JD (ci:=10871156337175269513) (by decide) (by omega) (by omega) bL;exact JB (by decide) an bt (Int.ofNat_inj.1 c0)
theorem aaO{a:Int}(h1:0<=a)(ad:a<18446744073709551616):0<=vb a/\vb a<18446744073709551616:=by
 obtain⟨x,rfl⟩:=Int.eq_ofNat_of_zero_le h1;have:=JE (x:=x) (by omega);have aC:BI x<2^64:=y9 (tI _);omega
theorem aaP{a b:Int}(h1:0<=a)(ad:a<18446744073709551616)(aC:0<=b)(bh:b<18446744073709551616)(h:vb a=vb b):a=b:=by
 obtain⟨x,rfl⟩:=Int.eq_ofNat_of_zero_le h1;obtain⟨y,rfl⟩:=Int.eq_ofNat_of_zero_le aC;rw[JE (x:=x) (by omega),JE (x:=y) (by omega)]at h;rw[aaN (by omega) (by omega) (Int.ofNat_inj.1 h)]
theorem ve(r m:Int):0<=ed r m/\ed r m<18446744073709551616:=aaO (pD _).1 (pD _).2
theorem JF{r a b:Int}(aZ:1<=a/\a<=1000)(ae:1<=b/\b<=1000)(h:ed r a=ed r b):a=b:=by
 unfold ed Jz at h;have h1:=aaP (pD _).1 (pD _).2 (pD _).1 (pD _).2 h;rw[h8 (n:=a) (by omega) (by omega),h8 (n:=b) (by omega) (by omega),h8 (n:=a+1) (by omega) (by omega),h8 (n:=b+1) (by omega) (by omega)]at h1;have gf:=pD (11400714819323198485* (a+1));have iu:=pD (11400714819323198485* (b+1));have ad:IntKind.u64.wrap (11400714819323198485* (a+1))=IntKind.u64.wrap (11400714819323198485* (b+1)):=by
  generalize IntKind.u64.wrap (11400714819323198485* (a+1))=p at *;generalize IntKind.u64.wrap (11400714819323198485* (b+1))=q at *;have aaQ:=pD r;generalize IntKind.u64.wrap r=R at h1 aaQ;rw[vc (R+p),vc (R+q)]at h1;omega
 rw[Int.mul_comm,Int.mul_comm 11400714819323198485]at ad;have:=JD (ci:=17428512612931826493) (by decide) (by omega) (by omega) ad;omega
end Go.Proofs.YtdcfooeoaoahjaaGreat
namespace Go.Proofs
open Go.Shelf
def Tryz.aaR:Go.Shelf.Ren:=⟨fun|6=>223|15=>173|14=>242|28=>216|29=>217|20=>247|21=>248|22=>249|23=>250|24=>251|25=>252|26=>253|27=>254|46=>255|47=>233|48=>234|49=>256|50=>257|57=>258|n=>n,fun|22=>22|24=>3|25=>231|3=>3|39=>57|0=>0|53=>92|55=>34|4=>4|46=>256|45=>255|50=>260|5=>5|9=>9|66=>274|70=>278|76=>289|77=>290|n=>n,fun|n=>n⟩
theorem Tryz.JG:Go.Proofs.SlLaysF.n6 Tryz.prog Tryz.aaR:={
 mixed:=by kernel_rfl
 f6:=⟨Tryz.f223.name,by decide,Tryz.func223.trans (congrArg some (by kernel_rfl))⟩
 f14:=⟨Tryz.f242.name,by decide,Tryz.func242.trans (congrArg some (by kernel_rfl))⟩
 f15:=Tryz.func173.trans (congrArg some (by kernel_rfl))
 f20:=⟨Tryz.f247.name,by decide,Tryz.func247.trans (congrArg some (by kernel_rfl))⟩
 f21:=⟨Tryz.f248.name,by decide,Tryz.func248.trans (congrArg some (by kernel_rfl))⟩
 f22:=⟨Tryz.f249.name,by decide,Tryz.func249.trans (congrArg some (by kernel_rfl))⟩
 f23:=⟨Tryz.f250.name,by decide,Tryz.func250.trans (congrArg some (by kernel_rfl))⟩
 f24:=⟨Tryz.f251.name,by decide,Tryz.func251.trans (congrArg some (by kernel_rfl))⟩
 f25:=⟨Tryz.f252.name,by decide,Tryz.func252.trans (congrArg some (by kernel_rfl))⟩
 f26:=⟨Tryz.f253.name,by decide,Tryz.func253.trans (congrArg some (by kernel_rfl))⟩
 f27:=⟨Tryz.f254.name,by decide,Tryz.func254.trans (congrArg some (by kernel_rfl))⟩
 f28:=Tryz.func216.trans (congrArg some (by kernel_rfl))
 f29:=Tryz.func217.trans (congrArg some (by kernel_rfl))
 f46:=⟨Tryz.f255.name,by decide,Tryz.func255.trans (congrArg some (by kernel_rfl))⟩
 f47:=Tryz.func233.trans (congrArg some (by kernel_rfl))
 f48:=Tryz.func234.trans (congrArg some (by kernel_rfl))
 f49:=⟨Tryz.f256.name,by decide,Tryz.func256.trans (congrArg some (by kernel_rfl))⟩
 f50:=⟨Tryz.f257.name,by decide,Tryz.func257.trans (congrArg some (by kernel_rfl))⟩
 f57:=⟨Tryz.f258.name,by decide,Tryz.func258.trans (congrArg some (by kernel_rfl))⟩
 t0:=Tryz.underlying0
 a0:=Tryz.isAgg0
 z0:=Tryz.sizeOf0
 v0:=Tryz.zeroValue0
 t3:=Tryz.underlying3
 a3:=Tryz.isAgg3
 z3:=Tryz.sizeOf3
 v3:=Tryz.zeroValue3
 t4:=Tryz.underlying4
 a4:=Tryz.isAgg4
 z4:=Tryz.sizeOf4
 v4:=Tryz.zeroValue4
 t5:=Tryz.underlying5
 a5:=Tryz.isAgg5
 z5:=Tryz.sizeOf5
 v5:=Tryz.zeroValue5
 t9:=Tryz.underlying9
 a9:=Tryz.isAgg9
 z9:=Tryz.sizeOf9
 v9:=Tryz.zeroValue9
 t22:=Tryz.underlying22
 a22:=Tryz.isAgg22
 z22:=Tryz.sizeOf22
 v22:=Tryz.zeroValue22
 a24:=Tryz.isAgg3
 z24:=Tryz.sizeOf3
 t25:=Tryz.underlying231
 a25:=Tryz.isAgg231
 z25:=Tryz.sizeOf231
 v25:=Tryz.zeroValue231
 t39:=Tryz.underlying57
 a39:=Tryz.isAgg57
 z39:=Tryz.sizeOf57
 v39:=Tryz.zeroValue57
 t45:=Tryz.underlying255
 a45:=Tryz.isAgg255
 z45:=Tryz.sizeOf255
 v45:=Tryz.zeroValue255
 t46:=Tryz.underlying256
 a46:=Tryz.isAgg256
 z46:=Tryz.sizeOf256
 v46:=Tryz.zeroValue256
 t50:=Tryz.underlying260
 a50:=Tryz.isAgg260
 z50:=Tryz.sizeOf260
 v50:=Tryz.zeroValue260
 t53:=Tryz.underlying92
 a53:=Tryz.isAgg92
 z53:=Tryz.sizeOf92
 v53:=Tryz.zeroValue92
 t55:=Tryz.underlying34
 a55:=Tryz.isAgg34
 z55:=Tryz.sizeOf34
 v55:=Tryz.zeroValue34
 t66:=Tryz.underlying274
 a66:=Tryz.isAgg274
 z66:=Tryz.sizeOf274
 v66:=Tryz.zeroValue274
 t70:=Tryz.underlying278
 a70:=Tryz.isAgg278
 z70:=Tryz.sizeOf278
 v70:=Tryz.zeroValue278
 t76:=Tryz.underlying289
 a76:=Tryz.isAgg289
 z76:=Tryz.sizeOf289
 v76:=Tryz.zeroValue289
 t77:=Tryz.underlying290
 a77:=Tryz.isAgg290
 z77:=Tryz.sizeOf290
 v77:=Tryz.zeroValue290}
def Tryz.aaS:Go.Shelf.Ren:=⟨fun|189=>101|125=>173|257=>172|128=>216|129=>217|294=>207|295=>208|296=>209|297=>210|298=>211|299=>212|216=>213|300=>214|301=>215|328=>232|329=>233|330=>234|331=>235|332=>236|215=>237|343=>246|n=>n,fun|28=>22|3=>3|46=>57|0=>0|51=>92|53=>34|4=>4|183=>256|182=>255|131=>260|5=>5|9=>9|218=>274|222=>278|228=>289|229=>290|n=>n,fun|n=>n⟩
theorem Tryz.mW:Go.Proofs.Lays.n189 Tryz.prog Tryz.aaS:={
 mixed:=by kernel_rfl
 f125:=Tryz.func173.trans (congrArg some (by kernel_rfl))
 f128:=Tryz.func216.trans (congrArg some (by kernel_rfl))
 f129:=Tryz.func217.trans (congrArg some (by kernel_rfl))
 f189:=Tryz.func101.trans (congrArg some (by kernel_rfl))
 f215:=Tryz.func237.trans (congrArg some (by kernel_rfl))
 f216:=Tryz.func213.trans (congrArg some (by kernel_rfl))
 f257:=Tryz.func172.trans (congrArg some (by kernel_rfl))
 f294:=Tryz.func207.trans (congrArg some (by kernel_rfl))
 f295:=Tryz.func208.trans (congrArg some (by kernel_rfl))
 f296:=Tryz.func209.trans (congrArg some (by kernel_rfl))
 f297:=Tryz.func210.trans (congrArg some (by kernel_rfl))
 f298:=Tryz.func211.trans (congrArg some (by kernel_rfl))
 f299:=Tryz.func212.trans (congrArg some (by kernel_rfl))
 f300:=Tryz.func214.trans (congrArg some (by kernel_rfl))
 f301:=Tryz.func215.trans (congrArg some (by kernel_rfl))
 f328:=Tryz.func232.trans (congrArg some (by kernel_rfl))
 f329:=Tryz.func233.trans (congrArg some (by kernel_rfl))
 f330:=Tryz.func234.trans (congrArg some (by kernel_rfl))
 f331:=Tryz.func235.trans (congrArg some (by kernel_rfl))
 f332:=Tryz.func236.trans (congrArg some (by kernel_rfl))
 f343:=Tryz.func246.trans (congrArg some (by kernel_rfl))
 t0:=Tryz.underlying0
 a0:=Tryz.isAgg0
 z0:=Tryz.sizeOf0
 v0:=Tryz.zeroValue0
 t3:=Tryz.underlying3
 a3:=Tryz.isAgg3
 z3:=Tryz.sizeOf3
 v3:=Tryz.zeroValue3
 t4:=Tryz.underlying4
 a4:=Tryz.isAgg4
 z4:=Tryz.sizeOf4
 v4:=Tryz.zeroValue4
 t5:=Tryz.underlying5
 a5:=Tryz.isAgg5
 z5:=Tryz.sizeOf5
 v5:=Tryz.zeroValue5
 t9:=Tryz.underlying9
 a9:=Tryz.isAgg9
 z9:=Tryz.sizeOf9
 v9:=Tryz.zeroValue9
 t28:=Tryz.underlying22
 a28:=Tryz.isAgg22
 z28:=Tryz.sizeOf22
 v28:=Tryz.zeroValue22
 t46:=Tryz.underlying57
 a46:=Tryz.isAgg57
 z46:=Tryz.sizeOf57
 v46:=Tryz.zeroValue57
 t51:=Tryz.underlying92
 a51:=Tryz.isAgg92
 z51:=Tryz.sizeOf92
 v51:=Tryz.zeroValue92
 t53:=Tryz.underlying34
 a53:=Tryz.isAgg34
 z53:=Tryz.sizeOf34
 v53:=Tryz.zeroValue34
 t131:=Tryz.underlying260
 a131:=Tryz.isAgg260
 z131:=Tryz.sizeOf260
 v131:=Tryz.zeroValue260
 t182:=Tryz.underlying255
 a182:=Tryz.isAgg255
 z182:=Tryz.sizeOf255
 v182:=Tryz.zeroValue255
 t183:=Tryz.underlying256
 a183:=Tryz.isAgg256
 z183:=Tryz.sizeOf256
 v183:=Tryz.zeroValue256
 t218:=Tryz.underlying274
 a218:=Tryz.isAgg274
 z218:=Tryz.sizeOf274
 v218:=Tryz.zeroValue274
 t222:=Tryz.underlying278
 a222:=Tryz.isAgg278
 z222:=Tryz.sizeOf278
 v222:=Tryz.zeroValue278
 t228:=Tryz.underlying289
 a228:=Tryz.isAgg289
 z228:=Tryz.sizeOf289
 v228:=Tryz.zeroValue289
 t229:=Tryz.underlying290
 a229:=Tryz.isAgg290
 z229:=Tryz.sizeOf290
 v229:=Tryz.zeroValue290}
def Tryz.aaT:Go.Shelf.Ren:=⟨fun|20=>102|n=>n,fun|22=>22|3=>3|4=>4|0=>0|n=>n,fun|n=>n⟩
theorem Tryz.lu:Go.Proofs.Lays2.n20 Tryz.prog Tryz.aaT:={
 mixed:=by kernel_rfl
 f20:=Tryz.func102.trans (congrArg some (by kernel_rfl))
 t0:=Tryz.underlying0
 a0:=Tryz.isAgg0
 z0:=Tryz.sizeOf0
 v0:=Tryz.zeroValue0
 t3:=Tryz.underlying3
 a3:=Tryz.isAgg3
 z3:=Tryz.sizeOf3
 v3:=Tryz.zeroValue3
 t4:=Tryz.underlying4
 a4:=Tryz.isAgg4
 z4:=Tryz.sizeOf4
 v4:=Tryz.zeroValue4
 t22:=Tryz.underlying22
 a22:=Tryz.isAgg22
 z22:=Tryz.sizeOf22
 v22:=Tryz.zeroValue22
 i3:=by kernel_rfl}
end Go.Proofs
namespace Go.Proofs.YtdcfooeoaoahjaaGreat
open Go.Lift
open Go.Sort (SWO)
def l0(r a b:Int):Int:=lu (ed r a) (ed r b)
theorem JH(r:Int):SWO (Go.Proofs.ltOf (l0 r)) where
 irrefl x:=by
  have:=(BE (ed r x) (ed r x)).1;simp only[Go.Proofs.ltOf,l0,decide_eq_false_iff_not,this];omega
 trans x y z h1 ad:=by
  simp only[Go.Proofs.ltOf,l0,decide_eq_true_eq,(BE _ _).1]at *;omega
 ntrans x y z h1 ad:=by
  simp only[Go.Proofs.ltOf,l0,decide_eq_false_iff_not,(BE _ _).1]at *;omega
theorem QH(r a b:Int):Go.Proofs.ltOf (l0 r) a b=decide (ed r a<ed r b):=by
 simp only[Go.Proofs.ltOf,l0,(BE _ _).1]
theorem aaU{r a b:Int}(aZ:1<=a/\a<=1000)(ae:1<=b/\b<=1000)(h1:Go.Proofs.ltOf (l0 r) a b=false)(ad:Go.Proofs.ltOf (l0 r) b a=false):a=b:=by
 rw[QH,decide_eq_false_iff_not]at h1 ad;have h:ed r a=ed r b:=by omega
 exact JF aZ ae h
theorem mw(l:List Int)(af:l.length<=1000000):bg Tryz.prog 46 [.aq 1 (l.map aM) false] (.aq 1 (l.map aM) false):=by
 refine bw Tryz.func46 ?_;repeat' ((conv=>whnf);first|refine bc ?_|fail)
 refine And.intro (fun kn=> ?_) ?_
 ·repeat' ((conv=>whnf);first|refine bc ?_|fail)
  all_goals(conv=>whnf)
  rw[kn];exact .ar
 ·repeat' ((conv=>whnf);first|refine bc ?_|fail)
  all_goals(conv=>whnf)
  refine And.intro (nC (by simp;omega)) ?_;repeat' ((conv=>whnf);first|exact .refl|fail)
theorem QI(l:List Int)(af:l.length<=1000000)(bx:l≠ []):b0 Tryz.prog 46 [] [.aq 1 (l.map aM) false] [] [.row 3 1 (l.map aM)] (.own 0):=by
 refine dw Tryz.func46 ?_;repeat' ((conv=>whnf);first|refine bc ?_|fail)
 refine And.intro (fun kn=> ?_) ?_
 ·exact absurd (List.map_eq_nil_iff.1 kn) bx
 ·repeat' ((conv=>whnf);first|refine bc ?_|fail)
  all_goals(conv=>whnf)
  refine And.intro (nC (by simp;omega)) ?_;repeat' ((conv=>whnf);first|refine bc ?_|fail)
  all_goals(conv=>whnf)
  exact⟨.r,⟨.r,trivial⟩,by rfl⟩
theorem aaV(r a b:Int):bg Tryz.prog 224 [i64 a,i64 b,.cD [i64 r]] (i64 (l0 r a b)):=by
 unfold l0;refine bw Tryz.func224 ?_;repeat' ((conv=>whnf);first|exact .refl|refine And.intro (by kernel_rfl) ?_|refine .inl ⟨_,_,aD _,BF _ _,?_⟩|refine .inl ⟨_,_,aD _,QD _ _,?_⟩|fail)
theorem aaW(r:Int)(l:List Int)(af:l.length<=1000000)(ae:∀x∈l,1<=x/\x<=1000):b0 Tryz.prog 223 [.row 3 1 (l.map aM)] [.own 0,.fn (.func 224) [.cD [i64 r]]] [true] [.row 3 1 ((qu (l0 r) l).map aM)] (.a1 []):=
 ZL (agg:=false) (fun vs w=>Tryz.JG.f6.enters rfl vs w) (ZH Tryz.JG _) (fun p cap Jo w=>AnyF.slices_SortFunc_none {Tryz.JG with} p cap Jo w)
  aM l (qu (l0 r) l) (l0 r) (JH r) (fun x an y bt=>aaU (ae x an) (ae y bt)) (BG _ _) (QE (JH r) _) (by omega) [.cD [i64 r]] (fun d aa=>by simp at aa;subst aa;rfl) (fun _=>rfl) (fun x _ y _=>aaV r x y)
def k4(ms:List Int)(r:Int):List Int:=bif !c9 ms 16||decide (r<0)||decide (5<=r)then []else qu (l0 r) ms
theorem E8{ms:List Int}{r:Int}(h:c9 ms 16=true)(h1:0<=r)(ad:r<5):k4 ms r=qu (l0 r) ms:=by
 have az:decide (r<0)=false:=decide_eq_false (by omega);have aG:decide (5<=r)=false:=decide_eq_false (by omega);simp only[k4,h,az,aG,Bool.not_true,Bool.or_self,cond_false]
theorem aaX(ms:List Int)(af:ms.length<=maxLen)(r:Int):bg Tryz.prog 187 [.aq 1 (ms.map aM) false,i64 r] (.aq 1 ((k4 ms r).map aM) false):=by
 have az:=u9 ms af;have aF:k4 ms r=bif !c9 ms 16||decide (r<0)||decide (5<=r)then []else qu (l0 r) ms:=rfl;refine bw Tryz.func187 ?_;repeat' ((conv=>whnf);first|refine bc ?_| (refine be ?_ ?_<;>intro h)|refine .inl ⟨_,_,aD _,az,?_⟩|fail)
 all_goals(conv=>whnf)
 ·rw[aF,h];exact .ar
 ·have ac:c9 ms 16=true:=by
   simp only[Bool.or_eq_false_iff,Bool.not_eq_false']at h;exact h.1.1
  have ea:=(n4.1 ac)
  rw[h,cond_false]at aF;have JI:=aaW r ms (by omega) ea.2.2;rw[<-aF]at JI;generalize k4 ms r=O at JI;have fU:=QI ms (by omega) (by intro e;rw[e]at ea;simp at ea);repeat' ((conv=>whnf);first|exact .refl|refine .inr ⟨[],[],_,[],_,_,fU,by rfl,trivial,⟨.r,trivial⟩,?_⟩|refine .inr ⟨[1],_,_,_,_,_,JI,by rfl,⟨.r,trivial⟩,⟨.r,.r,trivial⟩,?_⟩|fail)
def E9(o:List Int)(id:Int):Int:=o.getD (((ks o id).toNat+1)%o.length) 0
def tJ(ms:List Int)(id:Int)(i:Nat):List Int:=(List.range i).map fun(r:Nat)=>E9 (k4 ms r) id
def ga(ms:List Int)(id:Int):List Int:=bif !c9 ms 16|| !bR ms id||decide ((ms.length:Int)=1)then []else tJ ms id 5
theorem aaY{l:List Int}{x:Int}(h:x∈l):∃k:Nat,ks l x=k/\k<l.length:=by
 rcases aI: (List.range l.length).find? (fun i=>decide (l[i]?=some x))with _|n
 ·obtain⟨i,ab,rfl⟩:=List.getElem_of_mem h;have:=List.find?_eq_none.1 aI i (List.mem_range.2 ab);simp[ab]at this
 ·refine⟨n,by simp only[ks,jv,aI],?_⟩;have:=List.mem_range.1 (List.mem_of_find?_eq_some aI);exact this
theorem aaZ{ms:List Int}{id:Int}(h: (!c9 ms 16|| !bR ms id||decide ((ms.length:Int)=1))=true):ga ms id=[]:=by
 simp only[ga,h,cond_true]
theorem aa0{ms:List Int}{id:Int}(h: (!c9 ms 16|| !bR ms id||decide ((ms.length:Int)=1))=false):c9 ms 16=true/\bR ms id=true/\(2<=ms.length/\ms.length<=16)/\ga ms id=tJ ms id 5:=by
 have bb:=h;simp only[Bool.or_eq_false_iff,Bool.not_eq_false',decide_eq_false_iff_not]at bb;have:=(n4.1 bb.1.1).1;exact⟨bb.1.1,bb.1.2,by omega,by simp only[ga,h,cond_false]⟩
theorem aa1(ms:List Int)(af:ms.length<=maxLen)(id:Int):bg Tryz.prog 124 [.aq 1 (ms.map aM) false,i64 id] (.aq 1 ((ga ms id).map aM) false):=by
 have az:=u9 ms af;have aG:=hp ms af id;refine bw Tryz.func124 ?_;repeat' ((conv=>whnf);first|refine bc ?_| (refine be ?_ ?_<;>intro h)|refine And.intro ⟨fun h=>h,fun h=>h⟩ ?_|refine .inl ⟨_,_,aD _,az,?_⟩|refine⟨_,_,aD _,fun _=>aG,?_⟩|fail)
 all_goals(conv=>whnf)
 ·rw[List.length_map]at h;rw[aaZ h];exact .ar
 ·rw[List.length_map]at h;obtain⟨ac,cw,hlen,cy⟩:=aa0 h;clear h;refine⟨Nat,fun i=>⟨[(0,.aq 1 (ms.map aM) false),(1,i64 id),(5,.own 0),(22,i64 i)],[.row 3 1 ((tJ ms id i).map aM)]⟩,fun i=>i<=5,fun i=>5-i,[.fS 5 3 1],⟨0,Nat.zero_le _,?_⟩,?_⟩
  ·exact⟨by repeat' ((conv=>whnf);first|exact trivial|refine And.intro (by(conv=>arg 1;whnf);first| (with_reducible exact .refl)|exact aV (bH (by omega))|exact .refl) ?_|fail),by repeat' ((conv=>whnf);first|exact trivial|refine And.intro ?_ ?_|exact .refl|fail),rfl⟩
  ·intro i ab;repeat' ((conv=>whnf);first| (refine be ?_ ?_<;>intro h)|fail)
   ·have ap:i<5:=by
     simp at h;omega
    clear h;have aF:=E8 (ms:=ms) (r:=(i:Nat)) ac (by omega) (by omega);have j6: (k4 ms (i:Nat)).length=ms.length:=by rw[aF,JA]
    have QJ:id∈k4 ms (i:Nat):=by rw[aF,y8];exact oR.1 cw
    have QK:=aaX ms af (i:Nat);have zb:tJ ms id (i+1)=tJ ms id i++ [E9 (k4 ms (i:Nat)) id]:=by
     unfold tJ;rw[List.range_succ,List.map_append];rfl
    have rr: (tJ ms id i).length=i:=by simp[tJ]
    generalize k4 ms (i:Nat)=O at j6 QJ QK zb;have l1:=BD O (by rw[j6];exact af) id;obtain⟨k,hk,e8⟩:=aaY QJ;rw[hk]at l1;have ao: (k+1)%O.length<O.length:=Nat.mod_lt _ (by omega);have bx: ((O.map aM).length:Int)≠0:=by
     rw[List.length_map];omega
    have h6:Int.tmod (IntKind.i64.wrap ((k:Int)+1)) ((O.map aM).length:Int)=(((k+1)%O.length:Nat):Int):=by
     rw[dC (by omega) (by omega),List.length_map];rfl
    have ax:E9 O id=O[(k+1)%O.length]:=by
     simp only[E9,hk,Int.toNat_natCast];simp[ao]
    repeat' ((conv=>whnf);first|refine .inl ⟨_,_,aD _,QK,?_⟩|refine .inl ⟨_,_,aD _,l1,?_⟩|refine And.intro bx ?_|refine⟨(k+1)%O.length,_,And.intro ⟨h6,cE ao⟩ ?_⟩|fail)
    all_goals(conv=>whnf)
    refine And.intro (nC (by simp;omega)) ?_;repeat' ((conv=>whnf);first|refine bc ?_|fail)
    all_goals(conv=>whnf)
    refine⟨i+1,ap,by simp only[];omega,?_⟩;refine⟨⟨.r,.r,.r,aV (bH (by omega)),trivial⟩,⟨ch ?_,trivial⟩,rfl⟩;rw[zb,ax,List.map_append];rfl
   ·have:i=5:=by
     simp at h;omega
    subst this;clear h;conv=>whnf
    rw[cy];exact .refl
theorem QL{ms:List Int}{r:Int}(ac:c9 ms 16=true)(h1:0<=r)(ad:r<5): (k4 ms r).Pairwise fun a b=>ed r a<ed r b:=by
 rw[E8 ac h1 ad];have ae:=(n4.1 ac).2.2;have aS: (qu (l0 r) ms).Nodup:=(BG _ _).nodup_iff.2 (BH (n4.1 ac).2.1);have ag:=QE (JH r) ms;refine(List.pairwise_iff_getElem.2 fun i j ab ai dS=> ?_);have aC:=List.pairwise_iff_getElem.1 ag i j ab ai dS;rw[QH,decide_eq_false_iff_not]at aC;have bx: (qu (l0 r) ms)[i]≠ (qu (l0 r) ms)[j]:=(List.pairwise_iff_getElem.1 aS) i j ab ai dS;have aZ:=ae _ (y8.1 (List.getElem_mem ab));have nu:=ae _ (y8.1 (List.getElem_mem ai));rcases Int.lt_or_eq_of_le (Int.not_lt.1 aC)with h|h
 ·exact h
 ·exact absurd (JF aZ nu h) bx
def qv(r:Int)(O:List Int)(x:Int):Nat->Int
 |0=>O.getD (O.length-1) 0
 |i+1=>if ed r (O.getD i 0)<ed r x then O.getD i 0 else qv r O x i
theorem QM{r:Int}{O:List Int}(au:O.Pairwise fun a b=>ed r a<ed r b){k:Nat}(hk:k<O.length):∀i,i<=O.length->qv r O O[k] i=O.getD (if i=0\/k=0 then O.length-1 else min i k-1) 0
 |0,_=>by simp[qv]
 |i+1,ab=>by
  have aN:=QM au hk i (by omega);have dG:i<O.length:=by omega
  have ax:O.getD i 0=O[i]:=by simp[dG]
  have ap:ed r O[i]<ed r O[k]↔i<k:=by
   constructor
   ·intro h;rcases Nat.lt_or_ge i k with ad|ad
    ·exact ad
    ·rcases Nat.lt_or_eq_of_le ad with ad|ad
     ·have:=List.pairwise_iff_getElem.1 au k i hk dG ad;omega
     ·subst ad;omega
   ·intro h;exact List.pairwise_iff_getElem.1 au i k dG hk h
  unfold qv;rw[ax,aN];by_cases h:i<k
  ·rw[if_pos (ap.2 h),if_neg (by omega)];have:min (i+1) k-1=i:=by omega
   rw[this,ax]
  ·rw[if_neg (fun bb=>h (ap.1 bb))];congr 1;by_cases ti:k=0
   ·rw[if_pos (.inr ti),if_pos (.inr ti)]
   ·rw[if_neg (by omega),if_neg (by omega)];omega
def pE(ms:List Int)(x:Int)(r:Nat):Int:=qv r (k4 ms r) x (k4 ms r).length
theorem aa2{l:List Int}{x:Int}(h:x∈l):∃ (k:Nat) (hk:k<l.length),ks l x=k/\l[k]=x:=by
 rcases aI: (List.range l.length).find? (fun i=>decide (l[i]?=some x))with _|n
 ·obtain⟨i,ab,rfl⟩:=List.getElem_of_mem h;have:=List.find?_eq_none.1 aI i (List.mem_range.2 ab);simp[ab]at this
 ·have h1:=List.mem_range.1 (List.mem_of_find?_eq_some aI);refine⟨n,h1,by simp only[ks,jv,aI],?_⟩;have ad:decide (l[n]?=some x)=true:=List.find?_some (p:=fun i=>decide (l[i]?=some x)) aI;have ad:=of_decide_eq_true ad;rw[List.getElem?_eq_getElem h1]at ad;exact Option.some.inj ad
def dq(ms:List Int)(x:Int):List Int:=bif !c9 ms 16|| !(decide (1<=x)&&decide (x<=1000))|| (decide ((ms.length:Int)=1)&&decide (ms.getD 0 0=x))then []else(List.range 5).map (pE ms x)
def tK(R:List Int)(a:Int)(i:Nat):List Int:=((List.range i).filter fun k=>decide (R.getD k 0=a)).map fun(k:Nat)=>(k:Int)
theorem aa3(R:List Int)(a:Int)(i:Nat):tK R a (i+1)=tK R a i++bif decide (R.getD i 0=a)then [(i:Int)]else []:=by
 unfold tK;rw[List.range_succ,List.filter_append,List.map_append,List.filter_cons,List.filter_nil];cases h:decide (R.getD i 0=a)<;>simp
theorem QN(R:List Int)(a:Int)(i:Nat): (tK R a i).length<=i:=by
 unfold tK;rw[List.length_map];exact Nat.le_trans (List.length_filter_le ..) (by simp)
theorem vf(ms:List Int)(x:Int): (dq ms x).length<=5:=by
 unfold dq;cases (!c9 ms 16|| !(decide (1<=x)&&decide (x<=1000))|| (decide ((ms.length:Int)=1)&&decide (ms.getD 0 0=x)))<;>simp
def jy(r x m:Int):Int:=IntKind.u64.wrap (IntKind.u64.wrap (ed r x-ed r m)-1)
def n9(cf:Int->Int->Int)(l:List Int):Nat->Int
 |0=>l.getD 0 0
 |i+1=>if cf (l.getD i 0) (n9 cf l i)<0 then l.getD i 0 else n9 cf l i
theorem aa4(cf:Int->Int->Int)(l:List Int):n9 cf l 1=l.getD 0 0:=by
 rw[n9,n9];split<;>rfl
theorem JJ(x:Int):bg Tryz.prog 167 [i64 x] (.v (.bool (decide (1<=x)&&decide (x<=1000)))):=by
 refine bw Tryz.func167 ?_;repeat' ((conv=>whnf);first|refine bc ?_|exact .refl|fail)
theorem aa5(r x a b:Int):bg Tryz.prog 170 [i64 a,i64 b,.cD [u64 (ed r x)],.cD [i64 r]] (i64 (lu (jy r x a) (jy r x b))):=by
 have az:=BF r a;have aG:=BF r b;have a7:=QD (jy r x a) (jy r x b);unfold jy at a7⊢;generalize ed r a=hP at *;generalize ed r b=ir at *;generalize ed r x=QO at *;refine bw Tryz.func170 ?_;repeat' ((conv=>whnf);first|exact .refl|refine And.intro (by kernel_rfl) ?_|refine .inl ⟨_,_,aD _,az,?_⟩|refine .inl ⟨_,_,aD _,aG,?_⟩|refine .inl ⟨_,_,aD _,a7,?_⟩|fail)
theorem aa6(l:List Int)(gh:1<=l.length)(af:l.length<=maxLen)(b2:List aj)(cf:Int->Int->Int)(A:Nat->Int)(h1:A 1=l.getD 0 0)(ag:∀i,A (i+1)=if cf (l.getD i 0) (A i)<0 then l.getD i 0 else A i)
  (p q:aj) (al:∀a b,bg Tryz.prog 170 [i64 a,i64 b,p,q] (i64 (cf a b))) (au:∃a,p= .cD [u64 a]) (bF:∃a,q= .cD [i64 a]):bg Tryz.prog 169 [.aq 1 (l.map aM) false,.fn (.func 170) [p,q]] (i64 (A l.length)):=by
 have fG:l.length<=9223372036854775807:=af;obtain⟨Fa,rfl⟩:=au;obtain⟨aa7,rfl⟩:=bF;refine bw Tryz.func169 ?_;repeat' ((conv=>whnf);first| (refine be ?_ ?_<;>intro h)|fail)
 ·exfalso;simp at h;omega
 ·clear h;have E2: (l.map aM)[0]?=some (aM (A 1)):=by
   rw[h1];have:0<l.length:=by omega
   simp[this]
  repeat' ((conv=>whnf);first|refine⟨0,aM (A 1),And.intro ⟨rfl,E2⟩ ?_⟩|fail)
  all_goals(conv=>whnf)
  refine⟨Nat,fun i=>⟨[(0,.aq 1 (l.map aM) false),(1,.fn (.func 170) [.cD [u64 Fa],.cD [i64 aa7]]),(5,i64 (A i)),(6,i64 i)],[]⟩,fun i=>1<=i/\i<=l.length,fun i=>l.length-i,[],⟨1,⟨Nat.le_refl _,gh⟩,?_⟩,?_⟩
  ·conv=>whnf
   exact⟨⟨.r,.r,.r,.r,trivial⟩,trivial,by rfl⟩
  ·intro i ⟨Fb,ab⟩;repeat' ((conv=>whnf);first| (refine be ?_ ?_<;>intro h)|fail)
   ·have ap:i<l.length:=by simpa using h
    clear h;have ax:l.getD i 0=l[i]:=by simp[ap]
    have ag:=ag i;rw[ax]at ag;have e:=al l[i] (A i);repeat' ((conv=>whnf);first| (refine be ?_ ?_<;>intro h)|refine⟨_,_,And.intro ⟨rfl,cE ap⟩ ?_⟩|refine .inl ⟨_,_,aD _,e,?_⟩|fail)
    all_goals(conv=>whnf)
    all_goals refine⟨i+1,⟨by omega,ap⟩,by simp only[];omega,?_⟩
    all_goals(conv=>whnf)
    all_goals refine⟨⟨.r,.r,aV ?_,aV (bH (by omega)),trivial⟩,trivial,by rfl⟩
    ·rw[ag,if_pos (of_decide_eq_true h)]
    ·rw[ag,if_neg (of_decide_eq_false h)]
   ·have:i=l.length:=by
     simp at h;omega
    subst this;clear h;repeat' ((conv=>whnf);first|exact .refl|fail)
theorem w4{r x m:Int}(h:ed r m<ed r x):jy r x m=ed r x-ed r m-1:=by
 have h1:=ve r m;have ad:=ve r x;unfold jy;generalize ed r m=p at *;generalize ed r x=q at *;rw[h8 (n:=q-p) (by omega) (by omega),h8 (by omega) (by omega)]
theorem w5{r x m:Int}(h:¬ed r m<ed r x):jy r x m=ed r x-ed r m-1+18446744073709551616:=by
 have h1:=ve r m;have ad:=ve r x;unfold jy;generalize ed r m=p at *;generalize ed r x=q at *;rw[vc,vc];omega
theorem QP{cf:Int->Int->Int}{l:List Int}(af:1<=l.length):∀i,i<=l.length->n9 cf l i∈l
 |0,_=>by
  rw[n9];have:0<l.length:=by omega
  simp[this]
 |i+1,ab=>by
  have aN:=QP (cf:=cf) af i (by omega);rw[n9];split
  ·have:i<l.length:=by omega
   simp[this]
  ·exact aN
theorem QQ{d:Int->Int}{l:List Int}:∀i,i<=l.length->∀j,j<i->d (n9 (fun a b=>lu (d a) (d b)) l i)<=d (l.getD j 0)
 |0,_,j,ai=>by omega
 |i+1,ab,j,ai=>by
  have aN:=QQ (d:=d) (l:=l) i (by omega);rw[n9];have al:=(BE (d (l.getD i 0)) (d (n9 (fun a b=>lu (d a) (d b)) l i))).1;split
  ·rename_i h;have h:=al.1 h;rcases Nat.lt_succ_iff_lt_or_eq.1 ai with ai|rfl
   ·have:=aN j ai;omega
   ·exact Int.le_refl _
  ·rename_i h;have h:=fun ad=>h (al.2 ad);rcases Nat.lt_succ_iff_lt_or_eq.1 ai with ai|rfl
   ·exact aN j ai
   ·omega
theorem QR{r x:Int}{O:List Int}(au:O.Pairwise fun a b=>ed r a<ed r b)(hO:1<=O.length):∀i,i<=O.length->qv r O x i∈O/\(qv r O x i=O.getD (O.length-1) 0\/ed r (qv r O x i)<ed r x)/\∀j,j<i->jy r x (qv r O x i)<=jy r x (O.getD j 0)
 |0,_=>by
  rw[qv];have:O.length-1<O.length:=by omega
  exact⟨by simp[this],.inl rfl,fun j ai=>by omega⟩
 |i+1,ab=>by
  obtain⟨h1,ad,aC⟩:=QR (x:=x) au hO i (by omega);have dG:i<O.length:=by omega
  have ax:O.getD i 0=O[i]:=by simp[dG]
  have ap:∀a b (aZ:a<O.length) (ae:b<O.length),a<=b->ed r O[a]<=ed r O[b]:=by
   intro a b aZ ae l2;rcases Nat.lt_or_eq_of_le l2 with h|h
   ·exact Int.le_of_lt (List.pairwise_iff_getElem.1 au a b aZ ae h)
   ·subst h;exact Int.le_refl _
  rw[qv];split
  ·rename_i h;refine⟨by rw[ax];exact List.getElem_mem _,.inr h,fun j ai=> ?_⟩;have fX:j<O.length:=by omega
   have JK:O.getD j 0=O[j]:=by simp[fX]
   have:=ap j i fX dG (by omega);rw[ax]at h⊢;rw[JK,w4 h,w4 (by omega)];omega
  ·rename_i h;refine⟨h1,ad,fun j ai=> ?_⟩;rcases Nat.lt_succ_iff_lt_or_eq.1 ai with ai|rfl
   ·exact aC j ai
   ·rcases ad with ad|ad
    ·have af:O.length-1<O.length:=by omega
     have nB:O.getD (O.length-1) 0=O[O.length-1]:=by simp[af]
     have:=ap j (O.length-1) dG af (by omega);rw[ad,nB];rw[ax]at h⊢;rw[w5 h,w5 (by omega)];omega
    ·have gf:=ve r (qv r O x j);have iu:=ve r (O.getD j 0);rw[w4 ad,w5 h];omega
theorem aa8{r x a b:Int}(aZ:1<=a/\a<=1000)(ae:1<=b/\b<=1000)(h:jy r x a=jy r x b):a=b:=by
 refine JF (r:=r) aZ ae ?_;have gf:=ve r a;have iu:=ve r b;by_cases h1:ed r a<ed r x<;>by_cases ad:ed r b<ed r x
 ·rw[w4 h1,w4 ad]at h;omega
 ·rw[w4 h1,w5 ad]at h;omega
 ·rw[w5 h1,w4 ad]at h;omega
 ·rw[w5 h1,w5 ad]at h;omega
theorem aa9{ms:List Int}{x:Int}{r:Nat}(ac:c9 ms 16=true)(ao:r<5):n9 (fun a b=>lu (jy r x a) (jy r x b)) ms ms.length=pE ms x r:=by
 have hO:=QL (r:=(r:Nat)) ac (by omega) (by omega);have aF:=E8 (ms:=ms) (r:=(r:Nat)) ac (by omega) (by omega);have j6: (k4 ms (r:Nat)).length=ms.length:=by rw[aF,JA]
 have ea:=(n4.1 ac).1;have ae:=(n4.1 ac).2.2;have px:∀m,m∈k4 ms (r:Nat)↔m∈ms:=fun m=>by rw[aF,y8]
 unfold pE;generalize k4 ms (r:Nat)=O at *;obtain⟨dl,_,a3⟩:=QR (x:=x) hO (by omega) O.length (Nat.le_refl _);have cC:=QP (cf:=fun a b=>lu (jy r x a) (jy r x b)) (l:=ms) (by omega) ms.length (Nat.le_refl _);have cH:=QQ (d:=jy r x) (l:=ms) ms.length (Nat.le_refl _);refine aa8 (r:=r) (x:=x) (ae _ cC) (ae _ ((px _).1 dl)) ?_;obtain⟨j,ai,aba⟩:=List.getElem_of_mem ((px _).1 dl);obtain⟨k,hk,wu⟩:=List.getElem_of_mem ((px _).2 cC);have dX:=cH j ai;have de:=a3 k hk;have g1:ms.getD j 0=ms[j]:=by simp[ai]
 have g2:O.getD k 0=O[k]:=by simp[hk]
 rw[g1,aba]at dX;rw[g2,wu]at de;exact Int.le_antisymm dX de
theorem abb(r x:Int)(l:List Int):∃A:Nat->Int,A 1=l.getD 0 0/\(∀i,A (i+1)=if lu (jy r x (l.getD i 0)) (jy r x (A i))<0 then l.getD i 0 else A i)/\n9 (fun a b=>lu (jy r x a) (jy r x b)) l l.length=A l.length:=
 ⟨n9 (fun a b=>lu (jy r x a) (jy r x b)) l,aa4 _ _,fun i=>by rw[n9],rfl⟩
theorem QS(ms:List Int)(ac:c9 ms 16=true)(r:Nat)(ao:r<5)(x:Int):bg Tryz.prog 169 [.aq 1 (ms.map aM) false,.fn (.func 170) [.cD [u64 (ed r x)],.cD [i64 r]]] (i64 (pE ms x r)):=by
 have ea:=(n4.1 ac).1;obtain⟨A,h1,ag,he⟩:=abb r x ms;have au:=aa9 (x:=x) ac ao;rw[he]at au;rw[<-au];exact aa6 ms (by omega) (by simp only[maxLen];omega) [] (fun a b=>lu (jy r x a) (jy r x b)) A h1 ag _ _ (fun a b=>aa5 r x a b) ⟨_,rfl⟩ ⟨_,rfl⟩
theorem Fc(ms:List Int)(af:ms.length<=maxLen)(x:Int):bg Tryz.prog 100 [.aq 1 (ms.map aM) false,i64 x] (.aq 1 ((dq ms x).map aM) false):=by
 have az:=u9 ms af;have aG:=JJ x;have ls:c9 ms 16=true->∀r:Nat,r<5->bg Tryz.prog 169 [.aq 1 (ms.map aM) false,.fn (.func 170) [.cD [u64 (ed r x)],.cD [i64 r]]] (i64 (pE ms x r)):=fun ac r ao=>QS ms ac r ao x;have l1:∀r:Nat,bg Tryz.prog 168 [i64 r,i64 x] (u64 (ed r x)):=fun r=>BF r x;have aF:dq ms x=bif !c9 ms 16|| !(decide (1<=x)&&decide (x<=1000))|| (decide ((ms.length:Int)=1)&&decide (ms.getD 0 0=x))then []else(List.range 5).map (pE ms x):=rfl;have ax:∀c:Bool,(c&&decide (((ms.map aM).length:Int)=1))=true->(ms.map aM)[0]?=some (aM (ms.getD 0 0)):=fun c h=>by
  simp only[Bool.and_eq_true,decide_eq_true_eq,List.length_map]at h;have:0<ms.length:=by omega
  simp[this]
 generalize pE ms x=A at ls aF;generalize dq ms x=R at aF⊢;generalize c9 ms 16=cC at *;generalize(decide (1<=x)&&decide (x<=1000))=cH at *;generalize gj: (fun r:Nat=>ed r x)=P;have gj:∀r:Nat,ed r x=P r:=fun r=>by rw[<-gj]
 simp only[gj]at ls l1;clear gj;refine bw Tryz.func100 ?_;repeat' ((conv=>whnf);first|refine bc ?_| (refine be ?_ ?_<;>intro h)|refine And.intro ⟨fun h=>h,fun h=>h⟩ ?_|refine .inl ⟨_,_,aD _,az,?_⟩|refine⟨_,_,aD _,fun _=>aG,?_⟩|refine⟨0,aM (ms.getD 0 0),And.intro ⟨fun h=>h,fun h=>⟨rfl,ax _ h⟩⟩ ?_⟩|fail)
 all_goals(conv=>whnf)
 ·rw[List.length_map]at h;rw[aF,h];exact .ar
 ·rw[List.length_map]at h;rw[h,cond_false]at aF;have ae:cC=true:=by
   simp only[Bool.or_eq_false_iff,Bool.not_eq_false']at h;exact h.1.1
  have ls:=ls ae;clear h ax;subst aF;refine⟨Nat,fun i=>⟨[(0,.aq 1 (ms.map aM) false),(1,i64 x),(5,.own 0),(28,i64 i)],[.row 3 1 (((List.range i).map A).map aM)]⟩,fun i=>i<=5,fun i=>5-i,[.fS 5 3 1],⟨0,Nat.zero_le _,?_⟩,?_⟩
  ·exact⟨by repeat' ((conv=>whnf);first|exact trivial|refine And.intro (by(conv=>arg 1;whnf);first| (with_reducible exact .refl)|exact aV (bH (by omega))|exact .refl) ?_|fail),by repeat' ((conv=>whnf);first|exact trivial|refine And.intro ?_ ?_|exact .refl|fail),rfl⟩
  ·intro i ab;repeat' ((conv=>whnf);first| (refine be ?_ ?_<;>intro h)|fail)
   ·have ap:i<5:=by
     simp at h;omega
    clear h;have e:=ls i ap;have aG:=l1 i;have oO: (((List.range i).map A).map aM).length+1<=2000000:=by
     simp;omega
    repeat' ((conv=>whnf);first|refine .inl ⟨_,_,aD _,aG,?_⟩|refine .inl ⟨_,_,aD _,e,?_⟩|refine And.intro (nC oO) ?_|fail)
    all_goals(conv=>whnf)
    refine⟨i+1,ap,by simp only[];omega,?_⟩;conv=>whnf
    refine⟨⟨.r,.r,.r,aV (bH (by omega)),trivial⟩,⟨ch ?_,trivial⟩,by rfl⟩;rw[List.range_succ,List.map_append,List.map_append];rfl
   ·have:i=5:=by
     simp at h;omega
    subst this;repeat' ((conv=>whnf);first|exact .refl|fail)
structure mx where
 bits:Int
 qw:Int
def u32(n:Int):aj:=.v (.int .u32 n)
def Fe(w:mx):List aj:=[u32 w.bits,i64 w.qw]
def mX(w:mx):Bool:=(decide (0<=w.qw)&&decide (w.qw<=10))&&decide (w.bits<IntKind.u32.wrap (1*2^ (min w.qw.toNat 32)))
theorem Ff(n:Int):IntKind.u32.wrap n=n%4294967296:=by
 simp[IntKind.wrap,IntKind.bits,IntKind.signed]
theorem abc{c:Int}(h: (decide (0<=c)&&decide (c<=10))=true):0<=c:=by
 simp only[Bool.and_eq_true,decide_eq_true_eq]at h;exact h.1
theorem JL{w:mx}(h:mX w=true)(ae:0<=w.bits):0<=w.qw/\w.qw<=10/\w.bits<2^w.qw.toNat/\w.bits<1024:=by
 simp only[mX,Bool.and_eq_true,decide_eq_true_eq]at h;obtain⟨⟨h1,ad⟩,aC⟩:=h;obtain⟨c,al⟩:=Int.eq_ofNat_of_zero_le h1;rw[al]at aC ad⊢;have abd:c<=10:=by omega
 have e:min ((c:Int)).toNat 32=c:=by omega
 have au: (2:Nat)^c<=2^10:=Nat.pow_le_pow_right (by decide) abd;have ta: ((2:Int)^c)=((2^c:Nat):Int):=by norm_cast
 rw[e,Int.one_mul,Ff,ta]at aC;rw[show ((c:Nat):Int).toNat=c from Int.toNat_natCast c,ta];generalize(2:Nat)^c=q at *;omega
theorem JM(w:mx):bg Tryz.prog 110 [.agg (Fe w)] (.v (.bool (mX w))):=by
 refine bw Tryz.func110 ?_;repeat' ((conv=>whnf);first|refine bc ?_|exact .refl|refine And.intro (by kernel_rfl) ?_|refine And.intro ⟨fun h=>h,fun h=>h⟩ ?_|refine And.intro ⟨fun h=>h,fun ax=>abc ax⟩ ?_|fail)
def l3(w:mx)(ok:Bool):mx:=bif !mX w then⟨0,0⟩else⟨w.bits*2%1024+(bif ok then 0 else 1),if 10<w.qw+1 then 10 else w.qw+1⟩
theorem abe:∀b:Fin 1024,bits .and .u32 (IntKind.u32.wrap ((b.1:Int) *2^ (min 1 32))) 1023=(b.1:Int) *2%1024/\bits .and .u32 (bits .or .u32 (IntKind.u32.wrap ((b.1:Int) *2^ (min 1 32))) 1) 1023=(b.1:Int) *2%1024+1/\
  Int.tmod (IntKind.u32.wrap ((b.1:Int) *2)) 1024=(b.1:Int) *2%1024/\IntKind.u32.wrap (Int.tmod (IntKind.u32.wrap ((b.1:Int) *2)) 1024+1)=(b.1:Int) *2%1024+1:=by decide+kernel
theorem abf{b:Int}(h1:0<=b)(ad:b<1024):bits .and .u32 (IntKind.u32.wrap (b*2^ (min (1:Int).toNat 32))) 1023=b*2%1024/\bits .and .u32 (bits .or .u32 (IntKind.u32.wrap (b*2^ (min (1:Int).toNat 32))) 1) 1023=b*2%1024+1/\
  Int.tmod (IntKind.u32.wrap (b*2)) 1024=b*2%1024/\IntKind.u32.wrap (Int.tmod (IntKind.u32.wrap (b*2)) 1024+1)=b*2%1024+1:=by
 obtain⟨n,rfl⟩:=Int.eq_ofNat_of_zero_le h1;exact abe ⟨n,by omega⟩
theorem JN{w:mx}(ae:0<=w.bits)(ok:Bool):0<=(l3 w ok).bits:=by
 unfold l3;cases !mX w
 ·simp only[cond_false];have:=Int.emod_nonneg (w.bits*2) (b:=1024) (by decide);cases ok<;>simp<;>omega
 ·simp
theorem abg(w:mx)(ae:0<=w.bits)(ok:Bool):bg Tryz.prog 159 [.agg (Fe w),.v (.bool ok)] (.agg (Fe (l3 w ok))):=by
 refine bw Tryz.func159 ?_;repeat' ((conv=>whnf);first| (refine be ?_ ?_<;>intro h)|refine .inl ⟨_,_,aD _,JM w,?_⟩|refine And.intro (by decide) ?_|fail)
 all_goals(conv=>whnf)
 ·rw[l3,h];exact .refl
 all_goals
  rename_i aH;have ac:mX w=true:=by simpa using aH
  obtain⟨cx,cM,_,gl⟩:=JL ac ae;obtain⟨jN,nw,_,_⟩:=abf ae gl;rw[l3,aH,cond_false];refine gM ⟨aV ?_,aV ?_,trivial⟩
 ·have bY:ok=false:=by simpa using h
  subst bY;exact nw
 ·rw[dC (by omega) (by omega)]
 ·have bY:ok=true:=by simpa using h
  subst bY;exact jN.trans (Int.add_zero _).symm
 ·rw[dC (by omega) (by omega)]
def zc(b:Int):Nat->Int
 |0=>0
 |k+1=>bif decide (Int.tmod (b.fdiv (2^k)) 2=1)then zc b k+1 else zc b k
def vg(w:mx):Bool:=mX w&&decide (w.qw=10)&&decide (4<=zc w.bits 10)
theorem abh(n:Nat)(aS:n<1024):bg Tryz.prog 201 [u32 n] (i64 (zc n 10)):=by
 have h6: (n:Int).fdiv (2^ (min (24:Int).toNat 32))=((0:Nat):Int)/\bits .and .u32 ((n:Int).fdiv (2^ (min (16:Int).toNat 32))) 255=((0:Nat):Int)/\bits .and .u32 ((n:Int).fdiv (2^ (min (8:Int).toNat 32))) 255=((n/256:Nat):Int)/\bits .and .u32 (n:Int) 255=((n%256:Nat):Int):=by
  have:∀n:Nat,n<1024->(n:Int).fdiv (2^ (min (24:Int).toNat 32))=((0:Nat):Int)/\bits .and .u32 ((n:Int).fdiv (2^ (min (16:Int).toNat 32))) 255=((0:Nat):Int)/\bits .and .u32 ((n:Int).fdiv (2^ (min (8:Int).toNat 32))) 255=((n/256:Nat):Int)/\bits .and .u32 (n:Int) 255=((n%256:Nat):Int):=by decide+kernel
  exact this n aS
 obtain⟨i1,i2,i3,i4⟩:=h6;have j3:n/256<256:=by omega
 have n5:n%256<256:=by omega
 refine bw Tryz.func201 ?_;repeat' ((conv=>whnf);first|refine And.intro (by kernel_rfl) ?_|refine And.intro (by decide) ?_|refine⟨0,And.intro ⟨i1,by decide⟩ ?_⟩|refine⟨0,And.intro ⟨i2,by decide⟩ ?_⟩|refine⟨n/256,And.intro ⟨i3,j3⟩ ?_⟩|refine⟨n%256,And.intro ⟨i4,n5⟩ ?_⟩|fail)
 all_goals(conv=>whnf)
 refine aV ?_;clear i1 i2 i3 i4 j3 n5;revert n
 decide+kernel
theorem abi(w:mx)(ae:0<=w.bits):bg Tryz.prog 160 [.agg (Fe w)] (.v (.bool (vg w))):=by
 have e: (mX w&&decide (w.qw=10))=true->bg Tryz.prog 201 [u32 w.bits] (i64 (zc w.bits 10)):=fun h=>by
  simp only[Bool.and_eq_true]at h;obtain⟨_,_,_,k⟩:=JL h.1 ae;obtain⟨n,aS⟩:=Int.eq_ofNat_of_zero_le ae;rw[aS];exact abh n (by omega)
 unfold vg;generalize zc w.bits 10=p at e;refine bw Tryz.func160 ?_;repeat' ((conv=>whnf);first|refine bc ?_|exact .refl|refine .inl ⟨_,_,aD _,JM w,?_⟩|refine⟨_,_,aD _,e,?_⟩|fail)
structure Edge where
 dN:Int
 cj:Int
 sv:Bool
 gw:Bool
 kN:mx
def iS(e:Edge):List aj:=[i64 e.dN,i64 e.cj,.v (.bool e.sv),.v (.bool e.gw),u32 e.kN.bits,i64 e.kN.qw]
structure h9 where
 self:Int
 view:aQ
 bS:List Edge
def rs(d:h9):List aj:=[i64 d.self,i64 d.view.num,.aq 1 (d.view.mem.map aM) false,.aq 6 (d.bS.map iS) false]
structure ca where
 view:Int
 dN:Int
 w6:Int
 cj:Int
def dr(a:ca):List aj:=[i64 a.view,i64 a.dN,i64 a.w6,i64 a.cj]
def BJ(r:Nat)(s:Int):Edge:=⟨r,s,false,false,⟨0,0⟩⟩
def sw:Edge:=⟨0,0,false,false,⟨0,0⟩⟩
def nD(S:List Int)(i:Nat):List Edge:=(List.range i).map fun k=>BJ k (S.getD k 0)
theorem zd(S:List Int)(i:Nat): (nD S i).length=i:=by simp[nD]
theorem abj(S:List Int)(i:Nat):nD S (i+1)=nD S i++ [BJ i (S.getD i 0)]:=by
 unfold nD;rw[List.range_succ,List.map_append];rfl
def my:h9:=⟨0,⟨0,[]⟩,[]⟩
def ix(v:aQ)(self:Int):h9×Int:=bif !bX v|| !bR v.mem self then(my,1)else(⟨self,v,nD (ga v.mem self) (ga v.mem self).length⟩,0)
theorem JO{n:Nat}(h:n<=2000000):iJ ah 96 n:=by
 have e: (ay ah 96).bytes=40:=by kernel_rfl
 refine⟨?_,?_⟩
 ·rw[e];omega
 ·simp only[maxLen];omega
theorem Fg(ms:List Int)(id:Int): (ga ms id).length<=5:=by
 unfold ga;cases (!c9 ms 16|| !bR ms id||decide ((ms.length:Int)=1))<;>simp[tJ]
theorem ze(v:aQ)(ac:v.mem.length<=maxLen)(self:Int):bg Tryz.prog 69 [.agg (bN v),i64 self] (.a1 [.agg (rs (ix v self).1),i64 (ix v self).2]):=by
 have az:=n3 v ac;have aG:=hp v.mem ac self;have aS:ix v self=bif !bX v|| !bR v.mem self then(my,1)else(⟨self,v,nD (ga v.mem self) (ga v.mem self).length⟩,0):=rfl;refine bw Tryz.func69 ?_;repeat' ((conv=>whnf);first|refine bc ?_| (refine be ?_ ?_<;>intro h)|refine And.intro ⟨fun h=>h,fun h=>h⟩ ?_|refine .inl ⟨_,_,aD _,az,?_⟩|refine⟨_,_,aD _,fun _=>aG,?_⟩|fail)
 all_goals(conv=>whnf)
 ·rw[aS,h];exact dI ⟨gM ⟨.r,.r,.ar,.ar,trivial⟩,.r,trivial⟩
 ·have tL:bX v=true:=by
   simp only[Bool.or_eq_false_iff,Bool.not_eq_false']at h;exact h.1
  have ea:=kM tL;rw[h,cond_false]at aS;rw[aS];have es:=aa1 v.mem ac self;have rr:=Fg v.mem self;generalize ga v.mem self=S at es rr;clear h aS;refine And.intro (nC (by simp;omega)) ?_;repeat' ((conv=>whnf);first|refine And.intro (by kernel_rfl) ?_|refine .inl ⟨_,_,aD _,es,?_⟩|fail)
  all_goals(conv=>whnf)
  refine⟨Nat,fun i=>⟨[(4,.aP 1 0),(6,.aP 3 0),(31,.aq 1 (S.map aM) false),(32,i64 S.length),(33,i64 i)],[.cells 24 (bN v),.cells 45 [i64 0,i64 0,.ar,.ar],.row 3 1 (v.mem.map aM),.cells 45 [i64 self,i64 v.num,.own 2,.own 4],.row 96 6 ((nD S i).map iS)]⟩,fun i=>i<=S.length,fun i=>S.length-i,[.cell 3 3 96 6],⟨0,Nat.zero_le _,?_⟩,?_⟩
  ·conv=>whnf
   exact⟨⟨.r,.r,.r,aV (by simp),.r,trivial⟩,⟨.r,.r,.r,.r,.r,trivial⟩,by rfl⟩
  ·intro i ab;have lQ:=zd S i;repeat' ((conv=>whnf);first| (refine be ?_ ?_<;>intro h)|fail)
   ·have ap:i<S.length:=by simpa using h
    clear h;have ax:S.getD i 0=S[i]:=by simp[ap]
    have zb:=abj S i;rw[ax]at zb;repeat' ((conv=>whnf);first|refine⟨_,_,And.intro ⟨rfl,cE ap⟩ ?_⟩|fail)
    all_goals(conv=>whnf)
    refine And.intro (JO (by simp;omega)) ?_;repeat' ((conv=>whnf);first|refine bc ?_|fail)
    all_goals(conv=>whnf)
    refine⟨i+1,ap,by simp only[];omega,?_⟩;conv=>whnf
    refine⟨⟨.r,.r,.r,.r,aV (bH (by omega)),trivial⟩,⟨.r,.r,.r,.r,ch ?_,trivial⟩,by rfl⟩;rw[zb,List.map_append];rfl
   ·have:i=S.length:=by
     simp at h;omega
    subst this;repeat' ((conv=>whnf);first|exact .refl|fail)
def tM(E W:List Edge)(i:Nat):Bool:= !(!decide ((E.getD i sw).dN=(W.getD i sw).dN)|| !decide ((E.getD i sw).cj=(W.getD i sw).cj)|| !mX (E.getD i sw).kN)
def mY(d:h9):Bool:=bif !decide ((ix d.view d.self).2=0)|| !decide ((d.bS.length:Int)=((ix d.view d.self).1.bS.length:Int))then false else gA (tM d.bS (ix d.view d.self).1.bS) d.bS.length
theorem JP(d:h9)(ac:d.view.mem.length<=maxLen)(he:d.bS.length<=maxLen):bg Tryz.prog 62 [.agg (rs d)] (.v (.bool (mY d))):=by
 have rY:d.bS.length<=9223372036854775807:=he;have BK:=ze d.view ac d.self;have aa:mY d=bif !decide ((ix d.view d.self).2=0)|| !decide ((d.bS.length:Int)=((ix d.view d.self).1.bS.length:Int))then false else gA (tM d.bS (ix d.view d.self).1.bS) d.bS.length:=rfl;generalize ix d.view d.self=N at BK aa;obtain⟨n,e⟩:=N;refine bw Tryz.func62 ?_;repeat' ((conv=>whnf);first|refine bc ?_| (refine be ?_ ?_<;>intro h)|refine And.intro ⟨fun h=>h,fun h=>h⟩ ?_|refine .inl ⟨_,_,aD _,BK,?_⟩|fail)
 all_goals(conv=>whnf)
 ·rw[List.length_map,List.length_map]at h;rw[aa,h];exact .refl
 ·rw[List.length_map,List.length_map]at h;rw[h,cond_false]at aa;have af:d.bS.length=n.bS.length:=by
   simp only[Bool.or_eq_false_iff,Bool.not_eq_false',decide_eq_true_eq]at h;have:=h.2;omega
  clear h;refine⟨Nat,fun i=>⟨[(3,.aP 1 0),(27,.aq 6 (d.bS.map iS) false),(28,i64 d.bS.length),(29,i64 i)],[.cells 45 (rs d),.cells 45 (rs n)]⟩,fun i=>i<=d.bS.length/\∀j,j<i->tM d.bS n.bS j=true,fun i=>d.bS.length-i,[],⟨0,⟨Nat.zero_le _,by omega⟩,?_⟩,?_⟩
  ·exact⟨⟨.r,.r,aV (by simp),.r,trivial⟩,⟨.r,.r,trivial⟩,rfl⟩
  ·intro i ⟨ab,bQ⟩;repeat' ((conv=>whnf);first| (refine be ?_ ?_<;>intro h)|fail)
   ·have ap:i<d.bS.length:=by simpa using h
    clear h;have iw:i<n.bS.length:=by omega
    have ax:d.bS.getD i sw=d.bS[i]:=by simp[ap]
    have gK:n.bS.getD i sw=n.bS[i]:=by simp[iw]
    have bY:tM d.bS n.bS i= !(!decide (d.bS[i].dN=n.bS[i].dN)|| !decide (d.bS[i].cj=n.bS[i].cj)|| !mX d.bS[i].kN):=by
     simp only[tM,ax,gK]
    have QT:=JM d.bS[i].kN;generalize mX d.bS[i].kN=akg at QT bY;repeat' ((conv=>whnf);first|refine bc ?_| (refine be ?_ ?_<;>intro h)|refine And.intro (by kernel_rfl) ?_|refine And.intro ⟨fun h=>h,fun h=>h⟩ ?_|refine⟨_,_,And.intro ⟨rfl,cE ap⟩ ?_⟩|refine⟨_,_,And.intro ⟨rfl,cE iw⟩ ?_⟩|refine⟨_,_,aD _,fun _=>QT,?_⟩|refine⟨i,iS (n.bS[i]'iw),And.intro ⟨⟨fun h=>h,fun h=>h⟩,fun ax=>⟨rfl,cE iw⟩⟩ ?_⟩|fail)
    all_goals(conv=>whnf)
    ·rw[aa,pB ap (by rw[bY,h];rfl)];exact .refl
    ·refine⟨i+1,⟨ap,fun j ai=> ?_⟩,by simp only[];omega,?_⟩
     ·rcases Nat.lt_succ_iff_lt_or_eq.1 ai with ai|rfl
      ·exact bQ j ai
      ·rw[bY,h];rfl
     ·exact⟨⟨.r,.r,.r,aV (bH (by omega)),trivial⟩,⟨.r,.r,trivial⟩,rfl⟩
   ·have dB:¬i<d.bS.length:=by simpa using h
    conv=>whnf
    refine eK ?_;rw[aa,gB.2 (fun j ai=>bQ j (by omega))]
def mZ{α:Type}(f:α->α)(l:List α)(i:Nat):List α:=(l.take i).map f++l.drop i
theorem JQ{α:Type}(f:α->α)(l:List α)(i:Nat): (mZ f l i).length=l.length:=by
 simp[mZ];omega
theorem QU{α:Type}{f:α->α}{l:List α}{i:Nat}(h:i<l.length): (mZ f l i)[i]'(by rw[JQ];exact h)=l[i]:=by
 have af: ((l.take i).map f).length=i:=by simp;omega
 simp only[mZ];rw[List.getElem_append_right (by omega)];simp only[af,Nat.sub_self,List.getElem_drop,Nat.add_zero]
theorem QV{α:Type}{f:α->α}{l:List α}{i:Nat}(h:i<l.length): (mZ f l i).set i (f l[i])=mZ f l (i+1):=by
 have af: ((l.take i).map f).length=i:=by simp;omega
 unfold mZ;rw[List.set_append_right _ _ (by omega),af,Nat.sub_self,List.drop_eq_getElem_cons h,List.set_cons_zero,List.take_succ_eq_append_getElem h,List.map_append];simp
theorem QW{α:Type}(f:α->α)(l:List α):mZ f l l.length=l.map f:=by simp[mZ]
theorem abk{n:Nat}(h:n<=2000000):n* (ay ah 96).bytes<=140737488355328/\n<=maxLen:=JO h
theorem abl{n:Nat}(h:n<=2000000):n* (ay ah 3).bytes<=140737488355328/\n<=maxLen:=nC h
theorem QX{l:List (List aj)}{z:List aj}:l.take (List.replicate l.length z).length++(List.replicate l.length z).drop l.length=l:=by
 rw[List.length_replicate,List.drop_of_length_le (Nat.le_of_eq (List.length_replicate ..)),List.append_nil,List.take_of_length_le (Nat.le_refl _)]
theorem QY(d:h9)(ac:d.view.mem.length<=1000000)(he:d.bS.length<=1000000):
  b0 Tryz.prog 144 [] [.agg (rs d)] [] [.bd,.bd,.row 3 1 (d.view.mem.map aM),.row 96 6 (d.bS.map iS)] (.agg [i64 d.self,i64 d.view.num,.own 2,.own 3]):=by
 have f1:=abl (n:=(d.view.mem.map aM).length) (by simp;omega);have f2:=abk (n:=(d.bS.map iS).length) (by simp;omega);refine dw Tryz.func144 ?_;repeat' ((conv=>whnf);first|refine And.intro (by kernel_rfl) ?_|refine⟨(d.view.mem.map aM).length,(d.view.mem.map aM).length,rfl,rfl,Nat.le_refl _,f1.1,f1.2,?_⟩|refine⟨(d.bS.map iS).length,(d.bS.map iS).length,rfl,rfl,Nat.le_refl _,f2.1,f2.2,?_⟩|fail)
 all_goals(conv=>whnf)
 exact⟨.r,⟨.bd,.bd,ch QX,ch QX,trivial⟩,by rfl⟩
theorem abm{d:h9}(h:mY d=true):bX d.view=true/\bR d.view.mem d.self=true/\d.bS.length=(ga d.view.mem d.self).length:=by
 unfold mY at h;rw[ix]at h;cases al: (!bX d.view|| !bR d.view.mem d.self)
 ·rw[al]at h;simp only[cond_false]at h;simp only[Bool.or_eq_false_iff,Bool.not_eq_false']at al;refine⟨al.1,al.2,?_⟩;simp only[zd]at h;by_cases aa:d.bS.length=(ga d.view.mem d.self).length
  ·exact aa
  ·have:decide ((d.bS.length:Int)=((ga d.view.mem d.self).length:Int))=false:=decide_eq_false (by omega);rw[this,Bool.not_false,Bool.or_true]at h;exact absurd h (by simp)
 ·rw[al]at h;simp at h
theorem QZ{d:h9}(h:mY d=true):d.view.mem.length<=16/\d.bS.length<=5:=by
 have a:=abm h;have b:=Fg d.view.mem d.self;exact⟨(kM a.1).2,by omega⟩
def tN(i:Int)(e:Edge):Edge:=bif decide (e.cj=i)then⟨e.dN,e.cj,true,e.gw,e.kN⟩else e
def qx(d:h9)(i:Int):h9:=bif !mY d then my else⟨d.self,d.view,d.bS.map (tN i)⟩
theorem abn(d:h9)(ac:d.view.mem.length<=maxLen)(he:d.bS.length<=maxLen)(id:Int):bg Tryz.prog 86 [.agg (rs d),i64 id] (.agg (rs (qx d id))):=by
 have az:=JP d ac he;refine bw Tryz.func86 ?_;repeat' ((conv=>whnf);first| (refine be ?_ ?_<;>intro h)|refine .inl ⟨_,_,aD _,az,?_⟩|fail)
 all_goals(conv=>whnf)
 ·rw[qx,h];exact gM ⟨.r,.r,.ar,.ar,trivial⟩
 ·have wt:mY d=true:=by simpa using h
  have af:=QZ wt;rw[qx,h,cond_false];refine .inr ⟨[],[],_,[],_,_,QY d (by omega) (by omega),by rfl,trivial,⟨.r,trivial⟩,?_⟩;clear h;repeat' ((conv=>whnf);first|refine bc ?_|fail)
  all_goals(conv=>whnf)
  refine⟨Nat,fun i=>⟨[(1,i64 id),(4,.aP 1 0),(5,.aP 6 0),(15,i64 d.bS.length),(16,i64 i)],[.cells 45 (rs d),.cells 45 [i64 0,i64 0,.ar,.ar],.bd,.bd,.row 3 1 (d.view.mem.map aM),.row 96 6 ((mZ (tN id) d.bS i).map iS),.cells 45 [i64 d.self,i64 d.view.num,.own 4,.own 5]]⟩,fun i=>i<=d.bS.length,fun i=>d.bS.length-i,[],⟨0,Nat.zero_le _,?_⟩,?_⟩
  ·conv=>whnf
   exact⟨⟨.r,.r,.r,aV (by simp),.r,trivial⟩,⟨.r,.r,.r,.r,.r,.r,.r,trivial⟩,by rfl⟩
  ·intro i ab;repeat' ((conv=>whnf);first| (refine be ?_ ?_<;>intro h)|fail)
   ·have ap:i<d.bS.length:=by simpa using h
    clear h;have lr:i<(mZ (tN id) d.bS i).length:=by rw[JQ];exact ap
    have dB:=QU (f:=tN id) ap;have td:=QV (f:=tN id) ap;have Fh: ((mZ (tN id) d.bS i).map iS)[i]?=some (iS d.bS[i]):=by rw[<-dB];exact cE lr
    have fh:i<((mZ (tN id) d.bS i).map iS).length:=by rw[List.length_map];exact lr
    have aI:tN id d.bS[i]=bif decide (d.bS[i].cj=id)then⟨d.bS[i].dN,d.bS[i].cj,true,d.bS[i].gw,d.bS[i].kN⟩else d.bS[i]:=rfl;repeat' ((conv=>whnf);first| (refine be ?_ ?_<;>intro h)|refine⟨i,And.intro ⟨rfl,fh⟩ ?_⟩|refine⟨iS d.bS[i],And.intro Fh ?_⟩|fail)
    all_goals(conv=>whnf)
    all_goals refine⟨i+1,ap,by simp only[];omega,?_⟩
    all_goals(conv=>whnf)
    all_goals refine⟨⟨.r,.r,.r,.r,aV (bH (by omega)),trivial⟩,⟨.r,.r,.r,.r,.r,ch ?_,.r,trivial⟩,by rfl⟩
    all_goals rw[<-td,aI,h]
    ·rw[cond_true,List.map_set];rfl
    ·rw[cond_false];conv=>rhs;rw[<-dB,List.set_getElem_self]
   ·have:i=d.bS.length:=by
     simp at h;omega
    subst this;rw[QW];repeat' ((conv=>whnf);first|exact .refl|fail)
def sx(e:Edge):Edge:=⟨e.dN,e.cj,false,e.gw||vg (l3 e.kN e.sv),l3 e.kN e.sv⟩
def zf(e:Edge):Bool:=vg (l3 e.kN e.sv)&& !e.gw
def JR(d:h9)(e:Edge):ca:=⟨d.view.num,e.dN,d.self,e.cj⟩
def sy(d:h9)(i:Nat):List ca:=((d.bS.take i).filter zf).map (JR d)
theorem abo(d:h9)(i:Nat)(h:i<d.bS.length):sy d (i+1)=sy d i++bif zf d.bS[i]then [JR d d.bS[i]]else []:=by
 unfold sy;rw[List.take_succ_eq_append_getElem h,List.filter_append,List.map_append];cases bp:zf d.bS[i]<;>simp[bp]
theorem Q0(d:h9)(i:Nat): (sy d i).length<=i:=by
 unfold sy;rw[List.length_map];exact Nat.le_trans (List.length_filter_le ..) (by simp;omega)
def cJ(d:h9):h9×List ca:=bif !mY d then(my,[])else(⟨d.self,d.view,d.bS.map sx⟩,sy d d.bS.length)
theorem Fi{n:Nat}(h:n<=2000000):iJ ah 147 n:=by
 have e: (ay ah 147).bytes=32:=by kernel_rfl
 refine⟨?_,?_⟩
 ·rw[e];omega
 ·simp only[maxLen];omega
theorem Fk{α:Type}{l:List α}{i:Nat}{x:α}(h:i<l.length): (l.set i x)[i]?=some x:=by simp[h]
theorem JS(d:h9)(ac:d.view.mem.length<=maxLen)(he:d.bS.length<=maxLen)(ae:∀e∈d.bS,0<=e.kN.bits):bg Tryz.prog 93 [.agg (rs d)] (.a1 [.agg (rs (cJ d).1),.aq 4 ((cJ d).2.map dr) false]):=by
 have az:=JP d ac he;refine bw Tryz.func93 ?_;repeat' ((conv=>whnf);first| (refine be ?_ ?_<;>intro h)|refine .inl ⟨_,_,aD _,az,?_⟩|fail)
 all_goals(conv=>whnf)
 ·rw[cJ,h];exact dI ⟨gM ⟨.r,.r,.ar,.ar,trivial⟩,.ar,trivial⟩
 ·have wt:mY d=true:=by simpa using h
  have af:=QZ wt;rw[cJ,h,cond_false];refine .inr ⟨[],[],_,[],_,_,QY d (by omega) (by omega),by rfl,trivial,⟨.r,trivial⟩,?_⟩;clear h;repeat' ((conv=>whnf);first|refine bc ?_|fail)
  all_goals(conv=>whnf)
  refine⟨Nat,fun i=>⟨[(2,.aP 1 0),(4,.aP 6 0),(5,.own 7),(16,i64 d.bS.length),(17,i64 i)],[.cells 45 (rs d),.cells 45 [i64 0,i64 0,.ar,.ar],.bd,.bd,.row 3 1 (d.view.mem.map aM),.row 96 6 ((mZ sx d.bS i).map iS),.cells 45 [i64 d.self,i64 d.view.num,.own 4,.own 5],.row 147 4 ((sy d i).map dr)]⟩,fun i=>i<=d.bS.length,fun i=>d.bS.length-i,[.fS 5 147 4],⟨0,Nat.zero_le _,?_⟩,?_⟩
  ·conv=>whnf
   exact⟨⟨.r,.r,.r,aV (by simp),.r,trivial⟩,⟨.r,.r,.r,.r,.r,.r,.r,.r,trivial⟩,by rfl⟩
  ·intro i ab;repeat' ((conv=>whnf);first| (refine be ?_ ?_<;>intro h)|fail)
   ·have ap:i<d.bS.length:=by simpa using h
    clear h;have lr:i<(mZ sx d.bS i).length:=by rw[JQ];exact ap
    have dB:=QU (f:=sx) ap;have td:=QV (f:=sx) ap;have Q1:=abo d i ap;have zg:=Q0 d i;have Fh: ((mZ sx d.bS i).map iS)[i]?=some (iS d.bS[i]):=by rw[<-dB];exact cE lr
    have abp: ((sy d i).map dr).length+1<=2000000:=by rw[List.length_map];omega
    have fh:i<((mZ sx d.bS i).map iS).length:=by rw[List.length_map];exact lr
    have Fl:=ae d.bS[i] (List.getElem_mem ap);have BL:=JN (w:=d.bS[i].kN) Fl d.bS[i].sv;have JT:=abg d.bS[i].kN Fl d.bS[i].sv;have jt:=abi (l3 d.bS[i].kN d.bS[i].sv) BL;have n2:sx d.bS[i]= ⟨d.bS[i].dN,d.bS[i].cj,false,d.bS[i].gw||vg (l3 d.bS[i].kN d.bS[i].sv),l3 d.bS[i].kN d.bS[i].sv⟩:=rfl;have JU:zf d.bS[i]=(vg (l3 d.bS[i].kN d.bS[i].sv)&& !d.bS[i].gw):=rfl;have h7:JR d d.bS[i]= ⟨d.view.num,d.bS[i].dN,d.self,d.bS[i].cj⟩:=rfl;generalize an:d.bS[i]=x at *;obtain⟨BM,xs,JV,tO,Q2⟩:=x;simp only[]at Fh Fl BL JT jt n2 JU h7;generalize l3 Q2 JV=w at *;generalize vg w=fL at *;repeat' ((conv=>whnf);first|refine bc ?_| (refine be ?_ ?_<;>intro h)|refine And.intro (by kernel_rfl) ?_|refine⟨i,And.intro ⟨rfl,fh⟩ ?_⟩|refine⟨iS ⟨BM,xs,JV,tO,Q2⟩,And.intro Fh ?_⟩|refine⟨iS ⟨BM,xs,JV,tO,w⟩,Fk fh,?_⟩|refine⟨iS ⟨BM,xs,false,tO,w⟩,And.intro (Fk (by simpa using fh)) ?_⟩|refine⟨iS ⟨BM,xs,false,true,w⟩,And.intro (Fk (by simpa using fh)) ?_⟩|refine⟨iS ⟨BM,xs,false,tO,w⟩,And.intro ⟨fun h=>h,fun _=>Fk (by simpa using fh)⟩ ?_⟩|refine And.intro (Fi abp) ?_|refine .inl ⟨_,_,aD _,JT,?_⟩|refine .inl ⟨_,_,aD _,jt,?_⟩|refine Exists.intro false ?_|fail)
    all_goals(conv=>whnf)
    all_goals refine⟨i+1,ap,by simp only[];omega,?_⟩
    all_goals(conv=>whnf)
    all_goals refine⟨⟨.r,.r,.r,.r,aV (bH (by omega)),trivial⟩,⟨.r,.r,.r,.r,.r,ch ?_,.r,ch ?_,trivial⟩,by rfl⟩
    ·rw[List.set_set,List.set_set,<-td,n2,List.map_set];have JW: (tO||fL)=true:=by
      cases tO<;>cases fL<;>simp_all
     rw[JW];rfl
    ·rw[Q1,JU,h,cond_true,List.map_append,h7];rfl
    ·rw[List.set_set,<-td,n2,List.map_set];have JW: (tO||fL)=tO:=by
      cases tO<;>cases fL<;>simp_all
     rw[JW];rfl
    ·rw[Q1,JU,h,cond_false,List.append_nil]
   ·have:i=d.bS.length:=by
     simp at h;omega
    subst this;rw[QW];repeat' ((conv=>whnf);first|exact .refl|fail)
def eu:ca:=⟨0,0,0,0⟩
def k5(a:ca):Bool:=decide (0<=a.dN)&&decide (a.dN<5)&&decide (1<=a.w6)&&decide (a.w6<=1000)&&decide (1<=a.cj)&&decide (a.cj<=1000)
def gN(a b:ca):Bool:=decide (a.cj<b.cj)|| (decide (a.cj=b.cj)&&decide (a.dN<b.dN))
theorem Q3(a:ca):bg Tryz.prog 183 [.agg (dr a)] (.v (.bool (k5 a))):=by
 refine bw Tryz.func183 ?_;repeat' ((conv=>whnf);first|refine bc ?_|exact .refl|fail)
theorem Fm(a b:ca):bg Tryz.prog 120 [.agg (dr a),.agg (dr b)] (.v (.bool (gN a b))):=by
 refine bw Tryz.func120 ?_;repeat' ((conv=>whnf);first|refine bc ?_|exact .refl|refine And.intro ⟨fun h=>h,fun h=>h⟩ ?_|fail)
def jz(v:aQ)(a:ca):Bool:=bif !bX v|| !decide (a.view=v.num)|| !k5 a then false else decide (a.dN<((dq v.mem a.cj).length:Int))&&decide ((dq v.mem a.cj).getD a.dN.toNat 0=a.w6)
theorem Q4(v:aQ)(ac:v.mem.length<=maxLen)(a:ca):bg Tryz.prog 119 [.agg (bN v),.agg (dr a)] (.v (.bool (jz v a))):=by
 have az:=n3 v ac;have aG:=Q3 a;have a7:=Fc v.mem ac a.cj;have aa:jz v a=bif !bX v|| !decide (a.view=v.num)|| !k5 a then false else decide (a.dN<((dq v.mem a.cj).length:Int))&&decide ((dq v.mem a.cj).getD a.dN.toNat 0=a.w6):=rfl;have ao:k5 a=true->0<=a.dN:=fun h=>by
  simp only[k5,Bool.and_eq_true,decide_eq_true_eq]at h;exact h.1.1.1.1.1
 generalize dq v.mem a.cj=R at a7 aa;generalize k5 a=abq at *;generalize bX v=ru at *;generalize jz v a=res at *;refine bw Tryz.func119 ?_;repeat' ((conv=>whnf);first|refine bc ?_| (refine be ?_ ?_<;>intro h)|refine And.intro ⟨fun h=>h,fun h=>h⟩ ?_|refine .inl ⟨_,_,aD _,az,?_⟩|refine⟨_,_,aD _,fun _=>aG,?_⟩|fail)
 ·rw[aa,h];exact .refl
 ·have JX:abq=true:=by
   simp only[Bool.or_eq_false_iff,Bool.not_eq_false']at h;exact h.2
  have aH:=ao JX;rw[h,cond_false]at aa;clear h;have h6:decide (a.dN<((R.map aM).length:Int))=true->a.dN=((a.dN.toNat:Nat):Int)/\(R.map aM)[a.dN.toNat]?=some (aM (R.getD a.dN.toNat 0)):=fun h=>by
   have h:=of_decide_eq_true h;rw[List.length_map]at h;have:a.dN.toNat<R.length:=by omega
   refine⟨by omega,?_⟩;simp[this]
  repeat' ((conv=>whnf);first|refine bc ?_|refine And.intro (by kernel_rfl) ?_|refine And.intro ⟨fun h=>h,fun h=>h⟩ ?_|refine .inl ⟨_,_,aD _,a7,?_⟩|refine⟨a.dN.toNat,aM (R.getD a.dN.toNat 0),And.intro ⟨⟨fun h=>h,fun h=>h⟩,fun h=>h6 h⟩ ?_⟩|fail)
  all_goals(conv=>whnf)
  refine eK ?_;rw[aa,List.length_map]
def rv(v:aQ)(l:List ca)(i:Nat):Bool:=jz v (l.getD i eu)&& !(decide (0<(i:Int))&& !gN (l.getD (i-1) eu) (l.getD i eu))
def dU(v:aQ)(l:List ca):Bool:=bif !bX v then false else gA (rv v l) l.length
theorem zh(v:aQ)(ac:v.mem.length<=maxLen)(l:List ca)(af:l.length<=maxLen):bg Tryz.prog 64 [.agg (bN v),.aq 4 (l.map dr) false] (.v (.bool (dU v l))):=by
 have fG:l.length<=9223372036854775807:=af;have az:=n3 v ac;have aa:dU v l=bif !bX v then false else gA (rv v l) l.length:=rfl;have ls:=Q4 v ac;generalize dU v l=res at *;generalize bX v=ru at *;refine bw Tryz.func64 ?_;repeat' ((conv=>whnf);first| (refine be ?_ ?_<;>intro h)|refine .inl ⟨_,_,aD _,az,?_⟩|fail)
 all_goals(conv=>whnf)
 ·rw[aa,h];exact .refl
 ·rw[h,cond_false]at aa;clear h;subst aa;refine⟨Nat,fun i=>⟨[(1,.aq 4 (l.map dr) false),(2,.aP 0 0),(10,.aq 4 (l.map dr) false),(11,i64 l.length),(12,i64 i)],[.cells 24 (bN v)]⟩,fun i=>i<=l.length/\∀j,j<i->rv v l j=true,fun i=>l.length-i,[],⟨0,⟨Nat.zero_le _,by omega⟩,?_⟩,?_⟩
  ·conv=>whnf
   exact⟨⟨.r,.r,.r,aV (by simp),.r,trivial⟩,⟨.r,trivial⟩,by rfl⟩
  ·intro i ⟨ab,bQ⟩;repeat' ((conv=>whnf);first| (refine be ?_ ?_<;>intro h)|fail)
   ·have ap:i<l.length:=by simpa using h
    clear h;have ax:l.getD i eu=l[i]:=by simp[ap]
    have bY:rv v l i=(jz v l[i]&& !(decide (0<(i:Int))&& !gN (l.getD (i-1) eu) l[i])):=by
     unfold rv;rw[ax]
    have b5:=ls l[i];have du:=Fm (l.getD (i-1) eu) l[i];have h6:decide ((i:Int)>0)=true->IntKind.i64.wrap ((i:Int)-1)=((i-1:Nat):Int)/\(l.map dr)[i-1]?=some (dr (l.getD (i-1) eu)):=fun h=>by
     have h:=of_decide_eq_true h;have:i-1<l.length:=by omega
     refine⟨by rw[dC (by omega) (by omega)];omega,?_⟩;simp[this]
    have Q5:∀c:Bool,(c&&decide ((0:Int)<(i:Int)))=true->IntKind.i64.wrap ((i:Int)-1)=((i-1:Nat):Int)/\(l.map dr)[i-1]?=some (dr (l.getD (i-1) eu)):=fun c h=>by
     rw[Bool.and_eq_true]at h;exact h6 h.2
    generalize jz v l[i]=JY at b5 bY;generalize gN (l.getD (i-1) eu) l[i]=JZ at du bY;generalize l.getD (i-1) eu=aP at du Q5;repeat' ((conv=>whnf);first|refine bc ?_| (refine be ?_ ?_<;>intro h)|refine And.intro (by kernel_rfl) ?_|refine And.intro ⟨fun h=>h,fun h=>h⟩ ?_|refine⟨_,_,And.intro ⟨rfl,cE ap⟩ ?_⟩|refine .inl ⟨_,_,aD _,b5,?_⟩|refine⟨i-1,dr aP,And.intro ⟨⟨fun h=>h,fun h=>h⟩,fun h=>Q5 _ h⟩ ?_⟩|refine⟨_,_,aD _,fun _=>du,?_⟩|fail)
    all_goals(conv=>whnf)
    have ae:rv v l i= !(!JY|| (decide ((0:Int)<(i:Int))&& !JZ)):=by
     rw[bY,Bool.not_or,Bool.not_not]
    ·rw[pB ap (by rw[ae,h];rfl)];exact .refl
    ·have ae:rv v l i= !(!JY|| (decide ((0:Int)<(i:Int))&& !JZ)):=by
      rw[bY,Bool.not_or,Bool.not_not]
     refine⟨i+1,⟨ap,fun j ai=> ?_⟩,by simp only[];omega,?_⟩
     ·rcases Nat.lt_succ_iff_lt_or_eq.1 ai with ai|rfl
      ·exact bQ j ai
      ·rw[ae,h];rfl
     ·conv=>whnf
      exact⟨⟨.r,.r,.r,.r,aV (bH (by omega)),trivial⟩,⟨.r,trivial⟩,by rfl⟩
   ·have dB:¬i<l.length:=by simpa using h
    conv=>whnf
    refine eK ?_;rw[gB.2 (fun j ai=>bQ j (by omega))]
theorem Q6{α:Type}{p:α->Bool}{d:α}:∀ {l:List α} {k:Nat},k<=l.length->(∀j,j<k->p (l.getD j d)=true)->(k=l.length\/p (l.getD k d)=false)->(l.takeWhile p).length=k
 | [],k,h,_,_=>by
  have:k=0:=by simpa using h
  subst this;rfl
 |x::t,0,_,_,ad=>by
  have:p x=false:=by
   rcases ad with ad|ad
   ·simp at ad
   ·simpa using ad
  rw[List.takeWhile_cons,this];rfl
 |x::t,k+1,h,h1,ad=>by
  have an:p x=true:=by simpa using h1 0 (by omega)
  have aN:=Q6 (p:=p) (d:=d) (l:=t) (k:=k) (by simpa using h) (fun j ai=>by simpa using h1 (j+1) (by omega)) (by simpa using ad);rw[List.takeWhile_cons,an];simp[aN]
def oa(l:List ca)(a:ca):Nat:=(l.takeWhile fun x=>gN x a).length
def jA(l:List ca)(a:ca):List ca×Bool:=bif decide (((oa l a:Nat):Int)<(l.length:Int))&& !gN a (l.getD (oa l a) eu)then(l,false)else(l.take (oa l a)++ [a]++l.drop (oa l a),true)
theorem BN(l:List ca)(af:l.length<=1000000):bg Tryz.prog 81 [.aq 4 (l.map dr) false] (.aq 4 (l.map dr) false):=by
 refine bw Tryz.func81 ?_;repeat' ((conv=>whnf);first|refine bc ?_|fail)
 refine And.intro (fun kn=> ?_) ?_
 ·repeat' ((conv=>whnf);first|refine bc ?_|fail)
  all_goals(conv=>whnf)
  rw[kn];exact .ar
 ·repeat' ((conv=>whnf);first|refine bc ?_|fail)
  all_goals(conv=>whnf)
  refine And.intro (Fi (by simp;omega)) ?_;repeat' ((conv=>whnf);first|exact .refl|fail)
theorem Q7(l:List ca)(af:l.length<=1000000)(a:ca):bg Tryz.prog 145 [.aq 4 (l.map dr) false,.agg (dr a)] (.a1 [.aq 4 ((jA l a).1.map dr) false,.v (.bool (jA l a).2)]):=by
 refine bw Tryz.func145 ?_;repeat' ((conv=>whnf);first|refine bc ?_|fail)
 all_goals(conv=>whnf)
 refine⟨Nat,fun i=>⟨[(0,.aq 4 (l.map dr) false),(3,.aP 0 0),(6,i64 i)],[.cells 147 (dr a)]⟩,fun i=>i<=l.length/\∀j,j<i->gN (l.getD j eu) a=true,fun i=>l.length-i,[],⟨0,⟨Nat.zero_le _,by omega⟩,?_⟩,?_⟩
 ·conv=>whnf
  exact⟨⟨.r,.r,.r,trivial⟩,⟨.r,trivial⟩,by rfl⟩
 ·intro i ⟨ab,bQ⟩;have hU:decide ((i:Int)<((l.map dr).length:Int))=true->(l.map dr)[i]?=some (dr (l.getD i eu)):=fun h=>by
   have h:=of_decide_eq_true h;rw[List.length_map]at h;have:i<l.length:=by omega
   simp[this]
  have az:=Fm (l.getD i eu) a;have aG:=Fm a (l.getD i eu);have ak: (i=l.length\/gN (l.getD i eu) a=false)->oa l a=i:=fun h=>Q6 ab bQ h;have b1:oa l a=i->jA l a=bif decide ((i:Int)<(l.length:Int))&& !gN a (l.getD i eu)then(l,false)else(l.take i++ [a]++l.drop i,true):=fun h=>by
   unfold jA;rw[h]
  have Fo:gN (l.getD i eu) a=true->∀j,j<i+1->gN (l.getD j eu) a=true:=fun h j ai=>by
   rcases Nat.lt_succ_iff_lt_or_eq.1 ai with ai|rfl
   ·exact bQ j ai
   ·exact h
  generalize jA l a=res at *;generalize gN (l.getD i eu) a=cC at *;generalize gN a (l.getD i eu)=cH at *;generalize l.getD i eu=li at hU az aG;repeat' ((conv=>whnf);first|refine bc ?_| (refine be ?_ ?_<;>intro h)|refine And.intro (by kernel_rfl) ?_|refine And.intro ⟨fun h=>h,fun h=>h⟩ ?_|refine⟨i,dr li,And.intro ⟨⟨fun h=>h,fun h=>h⟩,fun ax=>⟨rfl,hU ax⟩⟩ ?_⟩|refine⟨_,_,aD _,fun _=>az,?_⟩|fail)
  all_goals(conv=>whnf)
  ·have bb:=h;rw[Bool.and_eq_true,decide_eq_true_eq,List.length_map]at bb;refine⟨i+1,⟨by omega,Fo bb.2⟩,by simp only[];omega,?_⟩;conv=>whnf
   exact⟨⟨.r,.r,aV (bH (by omega)),trivial⟩,⟨.r,trivial⟩,by rfl⟩
  ·rw[Bool.and_eq_false_iff,decide_eq_false_iff_not,List.length_map]at h;have hk:=ak (by rcases h with h|h;exact .inl (by omega);exact .inr h);have ao:=b1 hk;clear h ak b1 hk Fo bQ az;have h4:=BN l af;repeat' ((conv=>whnf);first|refine bc ?_| (refine be ?_ ?_<;>intro h)|refine And.intro (by kernel_rfl) ?_|refine And.intro ⟨fun h=>h,fun h=>h⟩ ?_|refine⟨_,_,aD _,fun _=>aG,?_⟩|refine .inl ⟨_,_,aD _,h4,?_⟩|fail)
   all_goals(conv=>whnf)
   ·rw[List.length_map]at h;rw[ao,h];exact .refl
   ·rw[List.length_map]at h;rw[ao,h,cond_false];clear ao;repeat' ((conv=>whnf);first|refine And.intro (by kernel_rfl) ?_|refine⟨0,i,And.intro ⟨rfl,⟨_,rfl⟩,⟨_,rfl⟩,Nat.zero_le _,by simpa using ab⟩ ?_⟩|refine⟨i,And.intro ⟨⟨_,rfl⟩,by simpa using ab⟩ ?_⟩|refine And.intro (Fi (by simp<;>omega)) ?_|refine .inl (And.intro (Nat.succ_pos _) ?_)|refine Exists.intro false ?_|fail)
    all_goals(conv=>whnf)
    refine dI ⟨hT ?_,.r,trivial⟩;rw[List.drop_zero,<-List.map_take,<-List.map_drop,List.map_append,List.map_append];rfl
def l4(v:aQ)(l:List ca)(a:ca):List ca×Bool×Int:=bif !dU v l|| !k5 a then([],false,1)else bif !decide (a.view=v.num)then([],false,8)else bif !jz v a then([],false,6)else((jA l a).1,(jA l a).2,0)
theorem abr(v:aQ)(ac:v.mem.length<=maxLen)(l:List ca)(af:l.length<=1000000)(a:ca):bg Tryz.prog 161 [.agg (bN v),.aq 4 (l.map dr) false,.agg (dr a)] (.a1 [.aq 4 ((l4 v l a).1.map dr) false,.v (.bool (l4 v l a).2.1),i64 (l4 v l a).2.2]):=by
 have az:=zh v ac l (by simp only[maxLen];omega);have aG:=Q3 a;have a7:=Q4 v ac a;have b5:=Q7 l af a;have aa:l4 v l a=bif !dU v l|| !k5 a then([],false,1)else bif !decide (a.view=v.num)then([],false,8)else bif !jz v a then([],false,6)else((jA l a).1,(jA l a).2,0):=rfl;generalize l4 v l a=res at *;generalize dU v l=cC at *;generalize k5 a=cH at *;generalize jz v a=j3 at *;generalize jA l a=ins at *;obtain⟨i1,i2⟩:=ins;simp only[]at b5 aa;refine bw Tryz.func161 ?_;repeat' ((conv=>whnf);first|refine bc ?_| (refine be ?_ ?_<;>intro h)|refine .inl ⟨_,_,aD _,az,?_⟩|refine⟨_,_,aD _,fun _=>aG,?_⟩|refine .inl ⟨_,_,aD _,a7,?_⟩|refine .inl ⟨_,_,aD _,b5,?_⟩|fail)
 all_goals(conv=>whnf)
 ·rw[aa,h];exact dI ⟨.ar,.r,.r,trivial⟩
 ·rename_i h1;rw[aa,h1,h];exact dI ⟨.ar,.r,.r,trivial⟩
 ·rename_i h1 ad;rw[aa,h1,ad,h];exact dI ⟨.ar,.r,.r,trivial⟩
 ·rename_i h1 ad;rw[aa,h1,ad,h];exact .refl
theorem Q8{l:List (List aj)}{z:List aj}:l.take (List.replicate l.length z).length++(List.replicate l.length z).drop l.length=l:=by
 rw[List.length_replicate,List.drop_of_length_le (Nat.le_of_eq (List.length_replicate ..)),List.append_nil,List.take_of_length_le (Nat.le_refl _)]
theorem oS{n:Nat}(h:n<=2000000):iJ ah 5 n:=by
 have e: (ay ah 5).bytes=1:=by kernel_rfl
 refine⟨?_,?_⟩
 ·rw[e];omega
 ·simp only[maxLen];omega
theorem Q9{n:Nat}(h:n<=2000000):n* (ay ah 5).bytes<=140737488355328/\n<=maxLen:=oS h
theorem J0(l:List Nat)(af:l.length<=1000000):b0 Tryz.prog 133 [] [.aq 1 (l.map bo) false,i64 10] [] [.row 5 1 (l.map bo)] (.own 0):=by
 have al:IntKind.i64.wrap (((l.map bo).length:Int)+10)=((l.length+10:Nat):Int):=by
  rw[List.length_map,dC (by omega) (by omega)];omega
 have f1:=Q9 (n:=l.length+10) (by omega);refine dw Tryz.func133 ?_;repeat' ((conv=>whnf);first|refine bc ?_|fail)
 all_goals(conv=>whnf)
 refine⟨(l.map bo).length,l.length+10,rfl,al,by simp,f1.1,f1.2,?_⟩;repeat' ((conv=>whnf);first|refine bc ?_|fail)
 all_goals(conv=>whnf)
 exact⟨.r,⟨ch Q8,trivial⟩,by rfl⟩
def lv:Nat->Nat->List Nat
 |0,v=>[v%256]
 |k+1,v=>if v<128 then [v]else(v%128+128)::lv k (v/128)
def bn(v:Nat):List Nat:=lv 9 v
theorem abt(w:Nat):bits .or .u8 (IntKind.u8.wrap (w:Int)) 128=((w%128+128:Nat):Int):=by
 have h:∀b:Fin 256,bits .or .u8 ((b.1:Nat):Int) 128=((b.1%128+128:Nat):Int):=by decide+kernel
 have h:=h ⟨w%256,Nat.mod_lt _ (by decide)⟩;have e:IntKind.u8.wrap (w:Int)=((w%256:Nat):Int):=by
  simp[IntKind.wrap,IntKind.bits,IntKind.signed]
 rw[e];refine h.trans ?_;simp only[];omega
theorem abu(w:Nat): (w:Int).fdiv (2^ (min (7:Int).toNat 64))=((w/128:Nat):Int):=(Int.ofNat_fdiv w 128).symm
theorem oT{d:aj}:fF (.b6 [d]) (.b6 [.aW]):=.b6 rfl fun i a b aZ ae=>by
 cases i with
 |zero=>
  simp at aZ ae;subst aZ ae;exact .aW
 |succ n=>simp at aZ
theorem zi(l:List Nat)(af:l.length<=1000000)(v:Nat)(ac:v<18446744073709551616):b0 Tryz.prog 158 [.row 5 1 (l.map bo)] [.own 0,u64 v] [false] [.row 5 1 ((l++bn v).map bo),.bd] (.own 0):=by
 refine dw Tryz.func158 ?_;repeat' ((conv=>whnf);first|refine bc ?_|fail)
 all_goals(conv=>whnf)
 refine⟨List Nat×Nat×Nat,fun x=>⟨[(0,.own 0),(1,u64 x.2.1)],[.row 5 1 (x.1.map bo),.b6 [.aW]]⟩,fun x=>x.1++lv x.2.2 x.2.1=l++bn v/\x.2.1<128^ (x.2.2+1)/\x.1.length+x.2.2<=l.length+9,fun x=>x.2.2,[],⟨⟨l,v,9⟩,⟨rfl,by simp only[];omega,Nat.le_refl _⟩,?_⟩,?_⟩
 ·conv=>whnf
  exact⟨⟨.r,.r,trivial⟩,⟨.r,oT,trivial⟩,by rfl⟩
 ·intro ⟨es,w,k⟩ ⟨ab,hw,hk⟩;simp only[]at ab hw hk;have aF:=abt w;have ag:=abu w;have aI: (es.map bo).length+1<=2000000:=by
   rw[List.length_map];omega
  repeat' ((conv=>whnf);first| (refine be ?_ ?_<;>intro h)|refine And.intro (oS aI) ?_| (refine And.intro ?_ ?_;focus (simp;done))|fail)
  all_goals(conv=>whnf)
  ·have BO:128<=w:=by
    have:=of_decide_eq_true h;simp only[]at this;omega
   clear h;obtain⟨k,rfl⟩:∃m,k=m+1:=by
    cases k with
    |zero=>omega
    |succ m=>exact⟨m,rfl⟩
   rw[lv,if_neg (by omega)]at ab;refine⟨⟨es++ [w%128+128],w/128,k⟩,⟨by simpa using ab,?_,by simp;omega⟩,by simp only[];omega,?_⟩
   ·simp only[];refine Nat.div_lt_of_lt_mul ?_;rw[Nat.pow_succ,Nat.mul_comm]at hw;exact hw
   ·conv=>whnf
    refine⟨⟨.r,aV ag,trivial⟩,⟨ch ?_,oT,trivial⟩,by rfl⟩;show es.map bo++ [[.v (.int .u8 (bits .or .u8 (IntKind.u8.wrap (w:Int)) 128))]]=_;rw[aF,List.map_append];rfl
  ·have BO:w<128:=by
    have:=of_decide_eq_false h;simp only[]at this;omega
   clear h;have gh:lv k w=[w]:=by
    cases k with
    |zero=>rw[lv,Nat.mod_eq_of_lt (by omega)]
    |succ m=>rw[lv,if_pos BO]
   rw[gh]at ab;have J1:IntKind.u8.wrap (w:Int)=(w:Int):=by
    simp only[IntKind.wrap,IntKind.bits,IntKind.signed];simp;omega
   refine⟨.r,⟨ch ?_,oT,trivial⟩,by rfl⟩;show es.map bo++ [[.v (.int .u8 (IntKind.u8.wrap (w:Int)))]]=_;rw[<-ab,J1,List.map_append];rfl
theorem fM:∀ (k v:Nat),(lv k v).length<=k+1
 |0,v=>by simp[lv]
 |k+1,v=>by
  rw[lv];split
  ·simp
  ·simpa using fM k (v/128)
theorem w7(l:List Nat)(af:l.length<=900000)(v:Nat)(ac:v<18446744073709551616):bg Tryz.prog 99 [.aq 1 (l.map bo) false,u64 v] (.aq 1 ((l++bn v).map bo) false):=by
 have m1:=J0 l (by omega);have m2:=zi l (by omega) v ac;refine bw Tryz.func99 ?_;repeat' ((conv=>whnf);first|exact .refl|refine .inr ⟨[],[],_,[],_,_,m1,by rfl,trivial,⟨.r,.r,trivial⟩,?_⟩|refine .inr ⟨[0],_,_,_,_,_,m2,by rfl,⟨.r,trivial⟩,⟨.r,.r,trivial⟩,?_⟩|fail)
def pF(i:Nat)(b:Nat)(aL:Int):Int:=bits .or .u64 aL (IntKind.u64.wrap (IntKind.u64.wrap (bits .and .u8 (b:Int) 127) *2^ (min (IntKind.i64.wrap (7* (i:Int))).toNat 64)))
def sz(i:Nat)(b:Nat):Bool:=(decide ((i:Int)=9)&&decide (1<(b:Int)))|| (decide (0<(i:Int))&&decide ((b:Int)=0))
def dd:List Nat->Nat->Int->Int×Int×Int
 | [],_,_=>(0,0,2)
 |b::r,i,aL=>bif sz i b then(0,0,3)else bif decide ((b:Int)<128)then(pF i b aL,(i:Int)+1,0)else dd r (i+1) (pF i b aL)
theorem abv{l:List Nat}{i:Nat}(h:i<l.length)(aL:Int):dd (l.drop i) i aL=bif sz i l[i]then(0,0,3)else bif decide ((l[i]:Int)<128)then(pF i l[i] aL,(i:Int)+1,0)else dd (l.drop (i+1)) (i+1) (pF i l[i] aL):=by
 rw[List.drop_eq_getElem_cons h,dd]
theorem w8(l:List Nat)(af:l.length<=1000000):bg Tryz.prog 134 [.aq 1 (l.map bo) false] (.a1 [u64 (dd l 0 0).1,i64 (dd l 0 0).2.1,i64 (dd l 0 0).2.2]):=by
 have ag:∀i (h:i<l.length) aL,dd (l.drop i) i aL=bif sz i l[i]then(0,0,3)else bif decide ((l[i]:Int)<128)then(pF i l[i] aL,(i:Int)+1,0)else dd (l.drop (i+1)) (i+1) (pF i l[i] aL):=fun i h aL=>abv h aL;have he:∀aL,dd (l.drop l.length) l.length aL=(0,0,2):=fun aL=>by rw[List.drop_length,dd]
 have aH:dd (l.drop 0) 0 0=dd l 0 0:=rfl;generalize dd l 0 0=R at *;refine bw Tryz.func134 ?_;repeat' ((conv=>whnf);first|refine bc ?_|fail)
 all_goals(conv=>whnf)
 refine⟨Nat×Int,fun x=>⟨[(2,u64 x.2),(7,.aq 1 (l.map bo) false),(8,i64 l.length),(9,i64 x.1)],[]⟩,fun x=>x.1<=l.length/\dd (l.drop x.1) x.1 x.2=R,fun x=>l.length-x.1,[],⟨⟨0,0⟩,⟨Nat.zero_le _,aH⟩,?_⟩,?_⟩
 ·conv=>whnf
  exact⟨⟨.r,.r,aV (by simp),.r,trivial⟩,trivial,by rfl⟩
 ·intro ⟨i,aL⟩ ⟨ab,b1⟩;simp only[]at ab b1;repeat' ((conv=>whnf);first| (refine be ?_ ?_<;>intro h)|fail)
  ·have ap:i<l.length:=by simpa using h
   clear h;have ag:=ag i ap aL;rw[b1]at ag;have ae:sz i l[i]=((decide ((i:Int)=9)&&decide (1<(l[i]:Int)))|| (decide (0<(i:Int))&&decide ((l[i]:Int)=0))):=rfl;have bM:pF i l[i] aL=bits .or .u64 aL (IntKind.u64.wrap (IntKind.u64.wrap (bits .and .u8 (l[i]:Int) 127) *2^ (min (IntKind.i64.wrap (7* (i:Int))).toNat 64))):=rfl;have abw:0<=IntKind.i64.wrap (7* (i:Int)):=by rw[dC (by omega) (by omega)];omega
   generalize pF i l[i] aL=wV at *;generalize sz i l[i]=J2 at *;repeat' ((conv=>whnf);first|refine bc ?_| (refine be ?_ ?_<;>intro h)|refine And.intro ⟨fun h=>h,fun h=>h⟩ ?_|refine⟨_,_,And.intro ⟨rfl,cE ap⟩ ?_⟩|refine And.intro abw ?_|fail)
   all_goals(conv=>whnf)
   ·have w9:J2=true:=ae.trans h;rw[ag,w9];exact .refl
   ·rename_i h1;have J3:J2=false:=ae.trans h1;rw[ag,J3,h];exact dI ⟨aV bM.symm,aV (bH (by omega)),.r,trivial⟩
   ·rename_i h1;have J3:J2=false:=ae.trans h1;rw[J3,h,cond_false,cond_false]at ag;refine⟨⟨i+1,wV⟩,⟨ap,ag.symm⟩,by simp only[];omega,?_⟩;conv=>whnf
    exact⟨⟨aV bM.symm,.r,.r,aV (bH (by omega)),trivial⟩,trivial,by rfl⟩
  ·have:i=l.length:=by
    simp at h;omega
   subst this;rw[he]at b1;subst b1;conv=>whnf
   exact .refl
theorem abx{a b k:Nat}(aZ:a<2^k)(ag:a+b*2^k<18446744073709551616):bits .or .u64 (a:Int) ((b*2^k:Nat):Int)=((a+b*2^k:Nat):Int):=by
 have h1:a<2^64:=by omega
 have ad:b*2^k<2^64:=by omega
 have e: (BitVec.ofInt 64 (a:Int)|||BitVec.ofInt 64 ((b*2^k:Nat):Int)).toNat=a+b*2^k:=by
  rw[BitVec.toNat_or,BitVec.ofInt_natCast,BitVec.ofInt_natCast,BitVec.toNat_ofNat,BitVec.toNat_ofNat,Nat.mod_eq_of_lt h1,Nat.mod_eq_of_lt ad];rw[Nat.or_comm,Nat.mul_comm b,<-Nat.two_pow_add_eq_or_of_lt aZ,Nat.add_comm]
 show IntKind.u64.wrap ((BitVec.ofInt 64 (a:Int)|||BitVec.ofInt 64 ((b*2^k:Nat):Int)).toNat:Int)=_;rw[e];exact h8 (by omega) (by omega)
theorem aby{b:Nat}(h:b<256):bits .and .u8 (b:Int) 127=((b%128:Nat):Int):=by
 have bb:∀b:Fin 256,bits .and .u8 ((b.1:Nat):Int) 127=((b.1%128:Nat):Int):=by decide+kernel
 exact bb ⟨b,h⟩
theorem Ra{i b aL:Nat}(ab:i<=9)(ae:b<256)(aZ:aL<2^ (7*i))(ag:aL+b%128*2^ (7*i)<18446744073709551616):pF i b aL=((aL+b%128*2^ (7*i):Nat):Int):=by
 unfold pF;have aT:min (IntKind.i64.wrap (7* (i:Int))).toNat 64=7*i:=by
  rw[dC (by omega) (by omega)];omega
 rw[aT,aby ae,h8 (n:=((b%128:Nat):Int)) (by omega) (by omega)];have au: ((2:Int)^ (7*i))=((2^ (7*i):Nat):Int):=(Int.natCast_pow 2 (7*i)).symm;rw[au,<-Int.natCast_mul,h8 (n:=((b%128*2^ (7*i):Nat):Int)) (by omega) (by omega)];exact abx aZ ag
theorem abz(rest:List Nat):∀ (k v i aL:Nat),v<128^ (k+1)->i+k=9->(0<i->0<v)->aL<2^ (7*i)->aL+v*2^ (7*i)<18446744073709551616->dd (lv k v++rest) i (aL:Int)=(((aL+v*2^ (7*i):Nat):Int),((i+(lv k v).length:Nat):Int),0):=by
 intro k;have dD:∀ (v i aL:Nat),v<128->i<=9->(0<i->0<v)->aL<2^ (7*i)->aL+v*2^ (7*i)<18446744073709551616->dd (v::rest) i (aL:Int)=(((aL+v*2^ (7*i):Nat):Int),((i+1:Nat):Int),0):=by
  intro v i aL ac ab eh aZ ag;have J4:sz i v=false:=by
   unfold sz;rw[Bool.or_eq_false_iff];constructor
   ·by_cases hn:i=9
    ·subst hn;have:v*2^63<18446744073709551616:=by
      have:2^ (7*9)=2^63:=rfl;omega
     rw[Bool.and_eq_false_iff];exact .inr (decide_eq_false (by omega))
    ·rw[decide_eq_false (show ¬((i:Int)=9) by omega),Bool.false_and]
   ·by_cases aH:0<i
    ·have:=eh aH;rw[decide_eq_false (show ¬((v:Int)=0) by omega),Bool.and_false]
    ·rw[decide_eq_false (show ¬((0:Int)<(i:Int)) by omega),Bool.false_and]
  have aT:v%128=v:=Nat.mod_eq_of_lt ac;rw[dd,J4,cond_false,decide_eq_true (show (v:Int)<128 by omega),cond_true,Ra ab (by omega) aZ (by rw[aT];exact ag),aT];rfl
 induction k with
 |zero=>
  intro v i aL ac ab eh aZ ag;have ac:v<128:=by simpa using ac
  have e:lv 0 v=[v]:=by rw[lv,Nat.mod_eq_of_lt (by omega)]
  rw[e];exact dD v i aL ac (by omega) eh aZ ag
 |succ k aN=>
  intro v i aL ac ab eh aZ ag;rw[lv];by_cases h:v<128
  ·rw[if_pos h];exact dD v i aL h (by omega) eh aZ ag
  ·rw[if_neg h];have au:0<2^ (7*i):=Nat.pow_pos (by decide);have aa:v=v%128+128* (v/128):=by omega
   have hmul:v*2^ (7*i)=v%128*2^ (7*i)+v/128*2^ (7* (i+1)):=by
    have e:2^ (7* (i+1))=2^ (7*i) *128:=by
     rw[show 7* (i+1)=7*i+7 by omega,Nat.pow_add]
    rw[e];conv=>lhs;rw[aa]
    rw[Nat.add_mul,Nat.mul_comm 128,Nat.mul_assoc,Nat.mul_comm 128]
   have J4:sz i (v%128+128)=false:=by
    unfold sz;rw[decide_eq_false (show ¬((i:Int)=9) by omega),decide_eq_false (show ¬(((v%128+128:Nat):Int)=0) by omega)];simp
   have aT: (v%128+128)%128=v%128:=by omega
   have bM:=Ra (i:=i) (b:=v%128+128) (aL:=aL) (by omega) (by omega) aZ (by rw[aT];omega);rw[aT]at bM;rw[List.cons_append,dd,J4,cond_false,decide_eq_false (show ¬(((v%128+128:Nat):Int)<128) by omega),cond_false,bM];have lw:aL+v%128*2^ (7*i)<2^ (7* (i+1)):=by
    have e:2^ (7* (i+1))=2^ (7*i) *128:=by
     rw[show 7* (i+1)=7*i+7 by omega,Nat.pow_add]
    rw[e];have:v%128*2^ (7*i)<=127*2^ (7*i):=Nat.mul_le_mul_right _ (by omega);omega
   have wT:v/128<128^ (k+1):=by
    refine Nat.div_lt_of_lt_mul ?_;rw[Nat.pow_succ,Nat.mul_comm]at ac;exact ac
   rw[aN (v/128) (i+1) (aL+v%128*2^ (7*i)) wT (by omega) (fun _=>by omega) lw (by omega)];refine Prod.ext ?_ (Prod.ext ?_ rfl)
   ·simp only[];rw[hmul,Nat.add_assoc]
   ·simp only[List.length_cons];omega
theorem vh{v:Nat}(ac:v<18446744073709551616)(rest:List Nat):dd (bn v++rest) 0 0=((v:Int),(((bn v).length:Nat):Int),0):=by
 have h:=abz rest 9 v 0 0 (by omega) rfl (fun h=>by omega) (by decide) (by omega);simp only[Nat.mul_zero,Nat.pow_zero,Nat.mul_one,Nat.zero_add]at h;exact h
theorem Fp(l:List Nat)(af:l.length<=1000000)(k:Nat)(hk:k<=900000):b0 Tryz.prog 133 [] [.aq 1 (l.map bo) false,i64 k] [] [.row 5 1 (l.map bo)] (.own 0):=by
 have al:IntKind.i64.wrap (((l.map bo).length:Int)+(k:Int))=((l.length+k:Nat):Int):=by
  rw[List.length_map,dC (by omega) (by omega)];omega
 have f1:=Q9 (n:=l.length+k) (by omega);refine dw Tryz.func133 ?_;repeat' ((conv=>whnf);first|refine bc ?_|fail)
 all_goals(conv=>whnf)
 refine⟨(l.map bo).length,l.length+k,rfl,al,by simp,f1.1,f1.2,?_⟩;repeat' ((conv=>whnf);first|refine bc ?_|fail)
 all_goals(conv=>whnf)
 exact⟨.r,⟨ch Q8,trivial⟩,by rfl⟩
def vi(s:Int):Int:=bits .xor .u32 (s.fdiv (2^ (min (1:Int).toNat 32))) (IntKind.u32.wrap (3988292384*bits .and .u32 s 1))
def pG(s:Int):Nat->Int
 |0=>s
 |k+1=>vi (pG s k)
def qy(l:List Nat):Nat->Int
 |0=>4294967295
 |i+1=>pG (bits .xor .u32 (qy l i) (IntKind.u32.wrap ((l.getD i 0:Nat):Int))) 8
def oU(l:List Nat):Int:=bits .xor .u32 (if IntKind.u32.signed=true then -1 else IntKind.u32.max) (qy l l.length)
theorem J5(l:List Nat)(af:l.length<=1000000):bg Tryz.prog 132 [.aq 1 (l.map bo) false] (.v (.int .u32 (oU l))):=by
 refine bw Tryz.func132 ?_;repeat' ((conv=>whnf);first|refine bc ?_|fail)
 all_goals(conv=>whnf)
 refine⟨Nat,fun i=>⟨[(3,.v (.int .u32 (qy l i))),(6,.aq 1 (l.map bo) false),(7,i64 l.length),(8,i64 i)],[]⟩,fun i=>i<=l.length,fun i=>l.length-i,[],⟨0,Nat.zero_le _,?_⟩,?_⟩
 ·conv=>whnf
  exact⟨⟨.r,.r,aV (by simp),.r,trivial⟩,trivial,by rfl⟩
 ·intro i ab;repeat' ((conv=>whnf);first| (refine be ?_ ?_<;>intro h)|fail)
  all_goals(conv=>whnf)
  ·have ap:i<l.length:=by simpa using h
   clear h;have ax:l.getD i 0=l[i]:=by simp[ap]
   have gF:qy l (i+1)=pG (bits .xor .u32 (qy l i) (IntKind.u32.wrap ((l.getD i 0:Nat):Int))) 8:=rfl;rw[ax]at gF;generalize qy l i=a at *;have nB: (l.map bo)[i]?=some (bo l[i]):=cE ap;obtain⟨y,bt⟩:∃y,y=l[i]:=⟨_,rfl⟩
   rw[<-bt]at nB gF;repeat' ((conv=>whnf);first|refine⟨i,bo y,And.intro ⟨rfl,nB⟩ ?_⟩|fail)
   all_goals(conv=>whnf)
   refine⟨Nat,fun k=>⟨[(3,.v (.int .u32 (pG (bits .xor .u32 a (IntKind.u32.wrap (y:Int))) k))),(6,.aq 1 (l.map bo) false),(7,i64 l.length),(8,i64 i),(16,i64 k)],[]⟩,fun k=>k<=8,fun k=>8-k,[],⟨0,Nat.zero_le _,?_⟩,?_⟩
   ·conv=>whnf
    exact⟨⟨.r,.r,.r,.r,.r,trivial⟩,trivial,by rfl⟩
   ·intro k hk;have u7:pG (bits .xor .u32 a (IntKind.u32.wrap (y:Int))) (k+1)=vi (pG (bits .xor .u32 a (IntKind.u32.wrap (y:Int))) k):=rfl;unfold vi at u7;have tP:k=8->pG (bits .xor .u32 a (IntKind.u32.wrap (y:Int))) k=qy l (i+1):=fun e=>by rw[gF,e]
    repeat' ((conv=>whnf);first| (refine be ?_ ?_<;>intro h)| (refine And.intro ?_ ?_;focus (simp;done))|fail)
    all_goals(conv=>whnf)
    ·have pH:k<8:=by
      have:=of_decide_eq_true h;omega
     clear h;refine⟨k+1,pH,by simp only[];omega,?_⟩;conv=>whnf
     exact⟨⟨aV u7.symm,.r,.r,.r,aV (bH (by omega)),trivial⟩,trivial,by rfl⟩
    ·have pH:k=8:=by
      have:=of_decide_eq_false h;omega
     clear h;refine⟨i+1,ap,by simp only[];omega,?_⟩;conv=>whnf
     exact⟨⟨aV (tP pH),.r,.r,aV (bH (by omega)),trivial⟩,trivial,by rfl⟩
  ·have cw:i=l.length:=by
    have:=of_decide_eq_false h;omega
   subst cw;exact .refl
def zj(n:Int):List Int:=[IntKind.u8.wrap n,IntKind.u8.wrap (n.fdiv (2^ (min (8:Int).toNat 32))),IntKind.u8.wrap (n.fdiv (2^ (min (16:Int).toNat 32))),IntKind.u8.wrap (n.fdiv (2^ (min (24:Int).toNat 32)))]
def nE(n:Int):List Nat:=(zj n).map (·.toNat)
theorem abA(n:Int): ((IntKind.u8.wrap n).toNat:Int)=IntKind.u8.wrap n:=by
 have e:IntKind.u8.wrap n=n%256:=by simp[IntKind.wrap,IntKind.bits,IntKind.signed]
 rw[e];omega
theorem J6(n:Int): (zj n).map (fun x=>[aj.v (.int .u8 x)])=(nE n).map bo:=by
 simp only[nE,zj,List.map_cons,List.map_nil,bo,abA]
theorem abB(n:Int):bg Tryz.prog 131 [.ar,.v (.int .u32 n)] (.aq 1 ((nE n).map bo) false):=by
 rw[<-J6];refine bw Tryz.func131 ?_;repeat' ((conv=>whnf);first|exact .refl|refine And.intro (oS (by simp<;>omega)) ?_| (refine And.intro ?_ ?_;focus (simp;done))|fail)
def tQ(l:List Nat)(dF:Int):Int×Int×Int:=
 bif decide (dF<0)then(0,0,1)else bif !decide ((dd l 0 0).2.2=0)then(0,0,(dd l 0 0).2.2)else bif decide (IntKind.u64.wrap dF<(dd l 0 0).1)then(0,0,5)else(IntKind.i64.wrap (dd l 0 0).1,(dd l 0 0).2.1,0)
theorem Rb(l:List Nat)(af:l.length<=1000000)(dF:Int):bg Tryz.prog 130 [.aq 1 (l.map bo) false,i64 dF] (.a1 [i64 (tQ l dF).1,i64 (tQ l dF).2.1,i64 (tQ l dF).2.2]):=by
 have e:=w8 l af;obtain⟨R,b1⟩:∃R,R=tQ l dF:=⟨_,rfl⟩
 rw[<-b1];unfold tQ at b1;generalize dd l 0 0=U at *;refine bw Tryz.func130 ?_;repeat' ((conv=>whnf);first| (refine be ?_ ?_<;>intro h)|refine .inl ⟨_,_,aD _,e,?_⟩|fail)
 all_goals(conv=>whnf)
 all_goals(simp only[*,cond_true,cond_false]at b1)
 all_goals subst b1
 all_goals exact .refl
theorem Rc(l:List Nat)(af:l.length<=1900000)(n:Int):b0 Tryz.prog 131 [.row 5 1 (l.map bo)] [.own 0,.v (.int .u32 n)] [false] [.row 5 1 ((l++nE n).map bo)] (.own 0):=by
 rw[List.map_append,<-J6];refine dw Tryz.func131 ?_;repeat' ((conv=>whnf);first|refine And.intro (oS (by simp<;>omega)) ?_| (refine And.intro ?_ ?_;focus (simp;done))|fail)
 all_goals(conv=>whnf)
 all_goals exact⟨.r,⟨ch rfl,oT,trivial⟩,by rfl⟩
def fB(k:Nat)(b:List Nat):List Nat:=[65,71,k]++bn b.length++b
def dm(k:Nat)(b:List Nat):List Nat:=fB k b++nE (oU (fB k b))
theorem J7{k:Nat}(h:k<=255):IntKind.u8.wrap (k:Int)=(k:Int):=by
 have e:IntKind.u8.wrap (k:Int)=(k:Int)%256:=by simp[IntKind.wrap,IntKind.bits,IntKind.signed]
 rw[e];omega
theorem Re(k:Nat)(fT:1<=k)(hk:k<=255)(b:List Nat)(ae:b.length<=800000):bg Tryz.prog 92 [i64 k,.aq 1 (b.map bo) false] (.a1 [.aq 1 ((dm k b).map bo) false,i64 0]):=by
 have tP:=J7 hk;have dR: [[aj.v (.int .u8 65)],[aj.v (.int .u8 71)],[aj.v (.int .u8 (IntKind.u8.wrap (k:Int)))]]=List.map bo [65,71,k]:=by rw[tP];rfl
 have m1:=Fp [65,71,k] (by simp) (b.length+8) (by omega);have m2:=zi [65,71,k] (by simp) b.length (by omega);have gi: (bn b.length).length<=10:=fM 9 b.length;have BP: [65,71,k]++bn b.length++b=fB k b:=rfl;have hH: (fB k b).length<=900000:=by
  unfold fB;simp only[List.length_append,List.length_cons,List.length_nil];omega
 have a7:=J5 (fB k b) (by omega);have qz:=Rc (fB k b) (by omega) (oU (fB k b));have hw:IntKind.i64.wrap (((b.map bo).length:Int)+8)=((b.length+8:Nat):Int):=by
  rw[List.length_map,dC (by omega) (by omega)];omega
 have hu:IntKind.u64.wrap ((b.map bo).length:Int)=((b.length:Nat):Int):=by
  rw[List.length_map];exact h8 (by omega) (by omega)
 have BQ: (decide ((k:Int)<1)||decide ((255:Int)<k)||decide ((16777216:Int)<((b.map bo).length:Int)))=false:=by
  rw[decide_eq_false (by omega),decide_eq_false (by omega),List.length_map,decide_eq_false (by omega)];rfl
 have vj: ([65,71,k]++bn b.length).map bo++b.map bo=(fB k b).map bo:=by
  rw[<-BP,List.map_append (l₁:=[65,71,k]++bn b.length)]
 refine bw Tryz.func92 ?_;repeat' ((conv=>whnf);first|refine bc ?_|refine dE (by assumption) ?_|exact .refl|refine .inr ⟨[],[],_,[],_,_,m1,by rfl,trivial,⟨hT dR,aV hw,trivial⟩,?_⟩|refine .inr ⟨[1],_,_,_,_,_,m2,by rfl,⟨.r,trivial⟩,⟨.r,aV hu,trivial⟩,?_⟩|refine And.intro (oS (by simp<;>omega)) ?_|refine .inl ⟨[.aq 1 ((fB k b).map bo) false],_,⟨hT vj,trivial⟩,a7,?_⟩|refine .inr ⟨[1],_,_,_,_,_,qz,by rfl,⟨ch vj,trivial⟩,⟨.r,.r,trivial⟩,?_⟩|fail)
theorem abC(k:Nat)(b:List Nat): (dm k b).drop 3=bn b.length++(b++nE (oU (fB k b))):=by
 unfold dm fB;simp
theorem abD(k:Nat)(b:List Nat): (dm k b).length=3+(bn b.length).length+b.length+4:=by
 unfold dm fB nE zj;simp;omega
theorem abE(k:Nat){b:List Nat}(ae:b.length<=800000):tQ ((dm k b).drop 3) 16777216=((b.length:Int),(((bn b.length).length:Nat):Int),0):=by
 unfold tQ;rw[abC,vh (by omega)];rw[decide_eq_false (show ¬(16777216:Int)<0 by omega)];have e:IntKind.u64.wrap 16777216=16777216:=h8 (by omega) (by omega);rw[e,decide_eq_false (show ¬(16777216:Int)<(b.length:Int) by omega),dC (by omega) (by omega)];rfl
theorem BR(k:Nat)(fT:1<=k)(hk:k<=255)(b:List Nat)(ae:b.length<=800000):bg Tryz.prog 73 [.aq 1 ((dm k b).map bo) false] (.a1 [i64 k,.aq 1 (b.map bo) false,i64 (dm k b).length,i64 0]):=by
 have gi: (bn b.length).length<=10:=fM 9 b.length;have ss:=abD k b;have Rf:=Rb ((dm k b).drop 3) (by rw[List.length_drop];omega) 16777216;rw[abE k ae]at Rf;have abF:=J5 (fB k b) (by have: (fB k b).length=3+(bn b.length).length+b.length:=(by unfold fB;simp;omega);omega);have abG:=abB (oU (fB k b));have g0: ((dm k b).map bo)[0]?=some (bo 65):=rfl;have g1: ((dm k b).map bo)[1]?=some (bo 71):=rfl;have g2: ((dm k b).map bo)[2]?=some (bo k):=rfl;have lr: ((dm k b).map bo).length=3+(bn b.length).length+b.length+4:=by rw[List.length_map,ss]
 have pn:decide (((((dm k b).map bo).length:Nat):Int)<3)=false:=decide_eq_false (by rw[lr];omega);have ti:decide ((k:Int)=0)=false:=decide_eq_false (by omega);have iN: ((dm k b).map bo).drop 3=((dm k b).drop 3).map bo:=by rw[List.map_drop]
 have Jd:3<=((dm k b).map bo).length:=by rw[lr];omega
 have bM:IntKind.i64.wrap (3+(((bn b.length).length:Nat):Int))=((3+(bn b.length).length:Nat):Int):=by
  rw[dC (by omega) (by omega)];omega
 have q7:decide (IntKind.i64.wrap ((((dm k b).map bo).length:Int)-IntKind.i64.wrap (3+(((bn b.length).length:Nat):Int)))<IntKind.i64.wrap ((b.length:Int)+4))=false:=by
  rw[bM,lr,dC (by omega) (by omega),dC (by omega) (by omega)];exact decide_eq_false (by omega)
 obtain⟨E,akh⟩:∃E,E=3+(bn b.length).length+b.length:=⟨_,rfl⟩
 have ee:IntKind.i64.wrap (IntKind.i64.wrap (3+(((bn b.length).length:Nat):Int))+(b.length:Int))=(E:Int):=by
  rw[bM,dC (by omega) (by omega)];omega
 have Rg:IntKind.i64.wrap (IntKind.i64.wrap (IntKind.i64.wrap (3+(((bn b.length).length:Nat):Int))+(b.length:Int))+4)=((E+4:Nat):Int):=by
  rw[ee,dC (by omega) (by omega)];omega
 have Rh:E<=((dm k b).map bo).length:=by omega
 have abH:E+4<=((dm k b).map bo).length:=by omega
 have abI: (fB k b).length=E:=by
  unfold fB;simp;omega
 have n2: (((dm k b).map bo).take E).drop 0=(fB k b).map bo:=by
  rw[List.drop_zero,<-List.map_take];unfold dm;rw[List.take_append_of_le_length (by omega),List.take_of_length_le (by omega)]
 have Ri: (nE (oU (fB k b))).map bo=((nE (oU (fB k b))).map UInt8.ofNat).map v1:=by
  rw[List.map_map];apply List.map_congr_left;intro x an;have py:x<256:=by
   unfold nE zj at an;simp only[List.map_cons,List.map_nil,List.mem_cons,List.not_mem_nil,or_false]at an;have key:∀n:Int,(IntKind.u8.wrap n).toNat<256:=fun n=>by
    have e:IntKind.u8.wrap n=n%256:=by simp[IntKind.wrap,IntKind.bits,IntKind.signed]
    rw[e];omega
   rcases an with h|h|h|h<;>rw[h]<;>exact key _
  show bo x=v1 (UInt8.ofNat x);unfold bo v1;simp[UInt8.toNat_ofNat_of_lt' py,Nat.mod_eq_of_lt py]
 have abJ: (((dm k b).map bo).take (E+4)).drop E=((nE (oU (fB k b))).map UInt8.ofNat).map v1:=by
  rw[<-Ri,<-List.map_take,<-List.map_drop];unfold dm;rw[List.take_of_length_le (by rw[List.length_append,abI];simp[nE,zj]),List.drop_append_of_le_length (by omega),List.drop_of_length_le (by omega)];rfl
 have rr: (((dm k b).map bo).take E).drop (3+(bn b.length).length)=b.map bo:=by
  rw[<-List.map_take,<-List.map_drop];unfold dm;rw[List.take_append_of_le_length (by omega),List.take_of_length_le (by omega)];unfold fB;rw[List.drop_append_of_le_length (by simp;omega),List.drop_of_length_le (by simp;omega)];rfl
 have abK:3+(bn b.length).length<=E:=by omega
 have m0:=Fp b (by omega) 0 (by omega);have kJ:IntKind.i64.wrap (k:Int)=(k:Int):=dC (by omega) (by omega);refine bw Tryz.func73 ?_;repeat' ((conv=>whnf);first|refine bc ?_|refine dE (by assumption) ?_| (refine be ?_ ?_<;>intro h)|refine And.intro (by kernel_rfl) ?_|refine⟨0,bo 65,And.intro ⟨rfl,g0⟩ ?_⟩|refine⟨2,bo k,And.intro ⟨rfl,g2⟩ ?_⟩|refine⟨1,bo 71,And.intro ⟨fun h=>h,fun _=>⟨rfl,g1⟩⟩ ?_⟩|refine⟨2,bo k,And.intro ⟨fun h=>h,fun _=>⟨rfl,g2⟩⟩ ?_⟩|refine⟨3,And.intro ⟨⟨_,rfl⟩,Jd⟩ ?_⟩|refine .inl ⟨[.aq 1 (((dm k b).drop 3).map bo) false,_],_,⟨hT iN,.r,trivial⟩,Rf,?_⟩|refine⟨0,E,And.intro ⟨rfl,⟨.i64,congrArg (fun z=>aj.v (.int .i64 z)) ee⟩,Nat.zero_le _,Rh⟩ ?_⟩|refine⟨E,E+4,And.intro ⟨⟨.i64,congrArg (fun z=>aj.v (.int .i64 z)) ee⟩,⟨.i64,congrArg (fun z=>aj.v (.int .i64 z)) Rg⟩,Nat.le_add_right _ _,abH⟩ ?_⟩|refine .inl ⟨[.aq 1 ((fB k b).map bo) false],_,⟨hT n2,trivial⟩,abF,?_⟩|refine .inl ⟨_,_,aD _,abG,?_⟩|refine⟨(nE (oU (fB k b))).map UInt8.ofNat,And.intro Ri ?_⟩|refine⟨(nE (oU (fB k b))).map UInt8.ofNat,And.intro abJ ?_⟩|refine⟨3+(bn b.length).length,E,And.intro ⟨⟨.i64,congrArg (fun z=>aj.v (.int .i64 z)) bM⟩,⟨.i64,congrArg (fun z=>aj.v (.int .i64 z)) ee⟩,abK,Rh⟩ ?_⟩|refine .inr ⟨[],[],_,[],_,_,m0,by rfl,trivial,⟨hT rr,.r,trivial⟩,?_⟩|fail)
 all_goals(conv=>whnf)
 ·exfalso;simp at h
 ·refine dI ⟨aV kJ,.r,aV (Rg.trans ?_),.r,trivial⟩;rw[ss];omega
def eD(v:Int):Nat:=if v<0 then 1 else(2*v).toNat
theorem J8{v:Int}(h:v<=1099511627776):eD v<18446744073709551616:=by
 unfold eD;split<;>omega
theorem abL{v:Int}(h1: -1<=v)(ad:v<=1099511627776):bits .xor .u64 (IntKind.u64.wrap (IntKind.u64.wrap v*2^ (min (1:Int).toNat 64))) (IntKind.u64.wrap (v.fdiv (2^ (min (63:Int).toNat 64))))=((eD v:Nat):Int):=by
 by_cases h:v<0
 ·have e:v= -1:=by omega
  subst e
  decide+kernel
 ·have az:IntKind.u64.wrap v=v:=h8 (by omega) (by omega);have aG: (2:Int)^ (min (1:Int).toNat 64)=2:=by decide
  have a7:v.fdiv (2^ (min (63:Int).toNat 64))=0:=by
   have e: (2:Int)^ (min (63:Int).toNat 64)=9223372036854775808:=by decide
   rw[e,Int.fdiv_eq_ediv_of_nonneg _ (by omega)];exact Int.ediv_eq_zero_of_lt (by omega) (by omega)
  have b5:IntKind.u64.wrap (v*2)=v*2:=h8 (by omega) (by omega);have du:IntKind.u64.wrap 0=0:=h8 (by omega) (by omega);rw[az,aG,a7,b5,du];have bE:eD v=(v*2).toNat:=by
   unfold eD;rw[if_neg h,Int.mul_comm]
  rw[bE];have an:∀n:Nat,n<18446744073709551616->bits .xor .u64 (n:Int) 0=(n:Int):=fun n aS=>by
   unfold bits;simp only[IntKind.bits,IntKind.signed];simp;have ae: (BitVec.ofNat 64 n^^^0#64).toNat=n:=by
    rw[BitVec.xor_zero,BitVec.toNat_ofNat];exact Nat.mod_eq_of_lt (by simpa using aS)
   exact(congrArg (fun k:Nat=>IntKind.u64.wrap (k:Int)) ae).trans (h8 (by omega) (by omega))
  have:=an (v*2).toNat (by omega);rw[Int.toNat_of_nonneg (by omega)]at this⊢;exact this
theorem Rj(l:List Nat)(af:l.length<=900000)(v:Int)(h1: -1<=v)(ad:v<=1099511627776):b0 Tryz.prog 190 [.row 5 1 (l.map bo)] [.own 0,i64 v] [false] [.row 5 1 ((l++bn (eD v)).map bo),.bd] (.own 0):=by
 have m2:=zi l (by omega) (eD v) (J8 ad);refine dw Tryz.func190 ?_;repeat' ((conv=>whnf);first|refine .inr ⟨[0],_,_,_,_,_,m2,by rfl,⟨.r,trivial⟩,⟨.r,aV (abL h1 ad),trivial⟩,?_⟩| (refine And.intro ?_ ?_;focus (simp;done))|fail)
 all_goals(conv=>whnf)
 all_goals exact⟨.r,⟨.r,oT,trivial⟩,by rfl⟩
theorem abM(i b:Nat)(aL:Int):0<=pF i b aL:=(pD _).1
theorem zk:∀ (l:List Nat) (i:Nat) (aL:Int),0<=aL->0<=(dd l i aL).1/\0<=(dd l i aL).2.1/\(dd l i aL).2.1<=((i+l.length:Nat):Int)
 | [],i,aL,h=>by
  rw[dd];simp
 |b::r,i,aL,h=>by
  have au:=abM i b aL;have aN:=zk r (i+1) (pF i b aL) au;rw[dd];generalize pF i b aL=wV at *;cases sz i b
  ·rw[cond_false];cases decide ((b:Int)<128)
   ·rw[cond_false];refine⟨aN.1,aN.2.1,?_⟩;have:=aN.2.2;simp only[List.length_cons];omega
   ·rw[cond_true];simp only[List.length_cons];omega
  ·rw[cond_true];simp only[List.length_cons];omega
def kO(v:aQ)(l:List Nat):ca×Int×Int:=
 bif !decide ((dd l 0 0).2.2=0)then(eu,0,(dd l 0 0).2.2)else
 bif !decide ((dd (l.drop (dd l 0 0).2.1.toNat) 0 0).2.2=0)then(eu,0,(dd (l.drop (dd l 0 0).2.1.toNat) 0 0).2.2)else
 bif decide ((dd l 0 0).1<1)||decide (1000<(dd l 0 0).1)||decide (5<=(dd (l.drop (dd l 0 0).2.1.toNat) 0 0).1)then(eu,0,3)else
 bif decide (((dq v.mem (dd l 0 0).1).length:Int)=0)then(eu,0,3)else
 (⟨v.num,(dd (l.drop (dd l 0 0).2.1.toNat) 0 0).1,(dq v.mem (dd l 0 0).1).getD (dd (l.drop (dd l 0 0).2.1.toNat) 0 0).1.toNat 0,(dd l 0 0).1⟩,(dd l 0 0).2.1+(dd (l.drop (dd l 0 0).2.1.toNat) 0 0).2.1,0)
theorem abN(ms:List Int)(x:Int): (dq ms x).length=0\/(dq ms x).length=5:=by
 unfold dq;cases (!c9 ms 16|| !(decide (1<=x)&&decide (x<=1000))|| (decide ((ms.length:Int)=1)&&decide (ms.getD 0 0=x)))<;>simp
theorem abO(v:aQ)(ac:v.mem.length<=maxLen)(l:List Nat)(af:l.length<=1000000):bg Tryz.prog 135 [.agg (bN v),.aq 1 (l.map bo) false] (.a1 [.agg (dr (kO v l).1),i64 (kO v l).2.1,i64 (kO v l).2.2]):=by
 have az:=w8 l af;have gf:=zk l 0 0 (Int.le_refl _);have aG:=w8 (l.drop (dd l 0 0).2.1.toNat) (by simp;omega);have iu:=zk (l.drop (dd l 0 0).2.1.toNat) 0 0 (Int.le_refl _);have a7:=Fc v.mem ac (dd l 0 0).1;have bL:=abN v.mem (dd l 0 0).1;unfold kO;generalize dd (l.drop (dd l 0 0).2.1.toNat) 0 0=B at *;generalize aw:dd l 0 0=A at *;clear aw;generalize dq v.mem A.1=R at *;obtain⟨tR,Rk,Fq⟩:=A;obtain⟨B1,B2,J9⟩:=B;simp only[]at *;obtain⟨n,rfl⟩:=Int.eq_ofNat_of_zero_le gf.2.1;obtain⟨m,rfl⟩:=Int.eq_ofNat_of_zero_le iu.2.1;have aS:n<=(l.map bo).length:=by
  rw[List.length_map];omega
 have iN: (l.map bo).drop n=(l.drop n).map bo:=by rw[List.map_drop]
 have Rl:=iu.2.2;rw[List.length_drop]at Rl;rw[Int.toNat_natCast,<-iN]at aG;refine bw Tryz.func135 ?_;repeat' ((conv=>whnf);first|refine bc ?_| (refine be ?_ ?_<;>intro h)|refine .inl ⟨_,_,aD _,az,?_⟩|refine .inl ⟨_,_,aD _,aG,?_⟩|refine⟨n,And.intro ⟨⟨_,rfl⟩,aS⟩ ?_⟩|fail)
 all_goals(conv=>whnf)
 ·rw[h];exact .refl
 ·rename_i h1;rw[h1,h];exact .refl
 ·rename_i h1 ad;rw[h1,ad,h];exact .refl
 ·rename_i h1 ad;rw[h1,ad,h,cond_false,cond_false,cond_false];have ao:1<=tR/\tR<=1000/\B1<5:=by
   simp only[Bool.or_eq_false_iff,decide_eq_false_iff_not]at h;omega
  have hw:IntKind.i64.wrap tR=tR:=dC (by omega) (by omega);have abP:IntKind.i64.wrap B1=B1:=dC (by omega) (by omega);have HQ:bg Tryz.prog 100 [.aq 1 (v.mem.map aM) false,.v (.int .i64 (IntKind.i64.wrap tR))] (.aq 1 (R.map aM) false):=by
   rw[hw];exact a7
  clear h h1 ad;have wF:IntKind.i64.wrap ((n:Int)+(m:Int))=(n:Int)+(m:Int):=by
   rw[List.length_map]at aS;have h1: ((n:Int)).toNat=n:=Int.toNat_natCast n;rw[h1]at Rl;rw[dC (by omega) (by omega)]
  repeat' ((conv=>whnf);first| (refine be ?_ ?_<;>intro h)|refine .inl ⟨_,_,aD _,HQ,?_⟩|fail)
  ·rw[List.length_map]at h;rw[h];exact .refl
  ·have b1:R.length=5:=by
    rcases bL with bL|bL
    ·rw[List.length_map,bL]at h;simp at h
    ·exact bL
   rw[List.length_map]at h;rw[h,cond_false];clear h;have h6:B1=((B1.toNat:Nat):Int):=by omega
   have tS: (R.map aM)[B1.toNat]?=some (aM (R.getD B1.toNat 0)):=by
    have:B1.toNat<R.length:=by omega
    simp[this]
   repeat' ((conv=>whnf);first|refine And.intro (by kernel_rfl) ?_|refine⟨B1.toNat,aM (R.getD B1.toNat 0),And.intro ⟨h6,tS⟩ ?_⟩|fail)
   all_goals(conv=>whnf)
   refine dI ⟨gM ⟨.r,aV abP,.r,aV hw,trivial⟩,aV wF,.r,trivial⟩
def xa(l:List ca)(s:Int)(i:Nat):Nat:=(l.take i).countP fun a=>decide (a.cj=s)
theorem abQ{l:List ca}{s:Int}{i:Nat}(h:i<l.length):xa l s (i+1)=xa l s i+if l[i].cj=s then 1 else 0:=by
 unfold xa;rw[List.take_succ_eq_append_getElem h,List.countP_append,List.countP_cons,List.countP_nil];simp
theorem Rm(l:List ca)(s:Int)(i:Nat):xa l s i<=i:=Nat.le_trans List.countP_le_length (by simp;omega)
theorem Rn(l:List ca)(af:l.length<=1000000)(s:Int):bg Tryz.prog 239 [.aq 4 (l.map dr) false,i64 s] (i64 (xa l s l.length:Nat)):=by
 refine bw Tryz.func239 ?_;repeat' ((conv=>whnf);first|refine bc ?_|fail)
 all_goals(conv=>whnf)
 refine⟨Nat,fun i=>⟨[(1,i64 s),(5,i64 (xa l s i:Nat)),(8,.aq 4 (l.map dr) false),(9,i64 l.length),(10,i64 i)],[]⟩,fun i=>i<=l.length,fun i=>l.length-i,[],⟨0,Nat.zero_le _,?_⟩,?_⟩
 ·conv=>whnf
  exact⟨⟨.r,.r,.r,aV (by simp),.r,trivial⟩,trivial,by rfl⟩
 ·intro i ab;repeat' ((conv=>whnf);first| (refine be ?_ ?_<;>intro h)|fail)
  ·have ap:i<l.length:=by simpa using h
   clear h;have ag:=abQ (s:=s) ap;have al:=Rm l s i;repeat' ((conv=>whnf);first| (refine be ?_ ?_<;>intro h)|refine⟨_,_,And.intro ⟨rfl,cE ap⟩ ?_⟩|fail)
   all_goals(conv=>whnf)
   all_goals refine⟨i+1,ap,by simp only[];omega,?_⟩
   all_goals(conv=>whnf)
   all_goals refine⟨⟨.r,aV ?_,.r,.r,aV (bH (by omega)),trivial⟩,trivial,by rfl⟩
   ·rw[ag,if_pos (of_decide_eq_true h),dC (by omega) (by omega)];omega
   ·rw[ag,if_neg (of_decide_eq_false h)];rfl
  ·have:i=l.length:=by
    simp at h;omega
   subst this;repeat' ((conv=>whnf);first|exact .refl|fail)
def eo(l:List ca)(i:Nat):List Nat:=bn l.length++(l.take i).flatMap fun a=>bn a.cj.toNat++bn a.dN.toNat
theorem Fr{l:List ca}{i:Nat}(h:i<l.length):eo l (i+1)=eo l i++bn l[i].cj.toNat++bn l[i].dN.toNat:=by
 unfold eo;rw[List.take_succ_eq_append_getElem h,List.flatMap_append];simp
theorem Ro(l:List ca):∀i,i<=l.length->(eo l i).length<=10+20*i
 |0,_=>by
  have:=fM 9 l.length;simp only[eo,List.take_zero,List.flatMap_nil,List.append_nil,bn];omega
 |i+1,h=>by
  have aN:=Ro l i (by omega);have h1:=fM 9 l[i].cj.toNat;have ad:=fM 9 l[i].dN.toNat;rw[Fr (by omega),List.length_append,List.length_append];unfold bn;omega
def BS(v:aQ)(l:List ca):List Nat:=bif !dU v l then []else eo l l.length
theorem abR{v:aQ}{l:List ca}(h:dU v l=true){i:Nat}(ab:i<l.length):jz v l[i]=true/\k5 l[i]=true:=by
 unfold dU at h;cases ac:bX v
 ·rw[ac]at h;simp at h
 ·rw[ac,Bool.not_true,cond_false]at h;have h1:=gB.1 h i ab;have ax:l.getD i eu=l[i]:=by simp[ab]
  unfold rv at h1;rw[ax,Bool.and_eq_true]at h1;refine⟨h1.1,?_⟩;have ad:=h1.1;unfold jz at ad;cases ao:k5 l[i]
  ·rw[ao]at ad;simp at ad
  ·rfl
theorem Rp(v:aQ)(ac:v.mem.length<=maxLen)(l:List ca)(af:l.length<=40000):bg Tryz.prog 103 [.agg (bN v),.aq 4 (l.map dr) false] (.aq 1 ((BS v l).map bo) false):=by
 have az:=zh v ac l (by simp only[maxLen];omega);have aa:BS v l=bif !dU v l then []else eo l l.length:=rfl;have ao:=fun h i ab=>(abR (v:=v) (l:=l) h (i:=i) ab).2;have iq:bg Tryz.prog 99 [.aq 1 [] false,.v (.int .u64 (IntKind.u64.wrap ((l.map dr).length:Int)))] (.aq 1 ((eo l 0).map bo) false):=by
  have aH:=w7 [] (by simp) l.length (by omega);have abS:IntKind.u64.wrap ((l.map dr).length:Int)=((l.length:Nat):Int):=by
   rw[List.length_map];exact h8 (by omega) (by omega)
  have he:eo l 0=[]++bn l.length:=by simp[eo]
  rw[abS,he];exact aH
 generalize BS v l=R at *;generalize dU v l=cC at *;refine bw Tryz.func103 ?_;repeat' ((conv=>whnf);first| (refine be ?_ ?_<;>intro h)|refine .inl ⟨_,_,aD _,az,?_⟩|refine .inl ⟨[.aq 1 [] false,_],_,⟨.ar,.r,trivial⟩,iq,?_⟩|fail)
 ·rw[aa,h];exact .ar
 ·have ae:cC=true:=by simpa using h
  rw[h,cond_false]at aa;clear h;have ao:=ao ae;subst aa;repeat' ((conv=>whnf);first|refine bc ?_|fail)
  all_goals(conv=>whnf)
  refine⟨Nat,fun i=>⟨[(5,.aq 1 ((eo l i).map bo) false),(16,.aq 4 (l.map dr) false),(17,i64 l.length),(18,i64 i)],[.cells 24 (bN v)]⟩,fun i=>i<=l.length,fun i=>l.length-i,[],⟨0,Nat.zero_le _,?_⟩,?_⟩
  ·conv=>whnf
   exact⟨⟨.r,.r,aV (by simp),.r,trivial⟩,⟨.r,trivial⟩,by rfl⟩
  ·intro i ab;repeat' ((conv=>whnf);first| (refine be ?_ ?_<;>intro h)|fail)
   ·have ap:i<l.length:=by simpa using h
    clear h;have abT:=ao i ap;simp only[k5,Bool.and_eq_true,decide_eq_true_eq]at abT;have ag:=Fr ap;have lQ:=Ro l i ab;have h1:=fM 9 l[i].cj.toNat;have Fs:IntKind.u64.wrap l[i].cj=((l[i].cj.toNat:Nat):Int):=by rw[h8 (by omega) (by omega)];omega
    have l5:IntKind.u64.wrap l[i].dN=((l[i].dN.toNat:Nat):Int):=by rw[h8 (by omega) (by omega)];omega
    have aG:=w7 (eo l i) (by omega) l[i].cj.toNat (by omega);have a7:=w7 (eo l i++bn l[i].cj.toNat) (by rw[List.length_append];unfold bn;omega) l[i].dN.toNat (by omega);rw[<-ag]at a7;unfold u64 at aG a7;rw[<-Fs]at aG;rw[<-l5]at a7;repeat' ((conv=>whnf);first|refine And.intro (by kernel_rfl) ?_|refine⟨_,_,And.intro ⟨rfl,cE ap⟩ ?_⟩|refine .inl ⟨_,_,aD _,aG,?_⟩|refine .inl ⟨_,_,aD _,a7,?_⟩|fail)
    all_goals(conv=>whnf)
    refine⟨i+1,ap,by simp only[];omega,?_⟩;conv=>whnf
    exact⟨⟨.r,.r,.r,aV (bH (by omega)),trivial⟩,⟨.r,trivial⟩,by rfl⟩
   ·have:i=l.length:=by
     simp at h;omega
    subst this;repeat' ((conv=>whnf);first|exact .refl|fail)
theorem abU(v:aQ)(l:List Nat):0<=(kO v l).2.1/\(kO v l).2.1<=(l.length:Int):=by
 have gf:=zk l 0 0 (Int.le_refl _);have iu:=zk (l.drop (dd l 0 0).2.1.toNat) 0 0 (Int.le_refl _);rw[List.length_drop]at iu;unfold kO;generalize dd (l.drop (dd l 0 0).2.1.toNat) 0 0=B at *;generalize dd l 0 0=A at *;generalize dq v.mem A.1=R at *;obtain⟨tR,Rk,Fq⟩:=A;obtain⟨B1,B2,J9⟩:=B;simp only[]at *;cases !decide (Fq=0)<;>cases !decide (J9=0)<;>cases (decide (tR<1)||decide (1000<tR)||decide (5<=B1))<;>cases decide ((R.length:Int)=0)<;>simp only[cond_true,cond_false]<;>omega
def vk(v:aQ)(b:List Nat)(aL:List ca)(pos:Nat):Int:=bif (decide ((kO v (b.drop pos)).2.2=0)&&decide (0<(aL.length:Int)))&& !gN (aL.getD (aL.length-1) eu) (kO v (b.drop pos)).1 then 3 else(kO v (b.drop pos)).2.2
def pI(v:aQ)(b:List Nat):Nat->List ca->Nat->List ca×Int×Int
 |0,aL,pos=>(aL,(pos:Int),0)
 |k+1,aL,pos=>bif !decide (vk v b aL pos=0)then([],0,vk v b aL pos)else pI v b k (aL++ [(kO v (b.drop pos)).1]) (pos+(kO v (b.drop pos)).2.1.toNat)
def xb(v:aQ)(b:List Nat):List ca×Int×Int:=
 bif !bX v then([],0,1)else bif !decide ((dd b 0 0).2.2=0)then([],0,(dd b 0 0).2.2)else bif decide (5000<(dd b 0 0).1)then([],0,5)else pI v b (dd b 0 0).1.toNat [] (dd b 0 0).2.1.toNat
theorem abV(v:aQ)(ac:v.mem.length<=maxLen)(b:List Nat)(af:b.length<=1000000):bg Tryz.prog 75 [.agg (bN v),.aq 1 (b.map bo) false] (.a1 [.aq 4 ((xb v b).1.map dr) false,i64 (xb v b).2.1,i64 (xb v b).2.2]):=by
 have az:=n3 v ac;have aG:=w8 b af;have gf:=zk b 0 0 (Int.le_refl _);have aa:xb v b=bif !bX v then([],0,1)else bif !decide ((dd b 0 0).2.2=0)then([],0,(dd b 0 0).2.2)else bif decide (5000<(dd b 0 0).1)then([],0,5)else pI v b (dd b 0 0).1.toNat [] (dd b 0 0).2.1.toNat:=rfl;have bI:∀k aL pos,pI v b (k+1) aL pos=bif !decide (vk v b aL pos=0)then([],0,vk v b aL pos)else pI v b k (aL++ [(kO v (b.drop pos)).1]) (pos+(kO v (b.drop pos)).2.1.toNat):=fun k aL pos=>by rw[pI]
 have zl:∀aL pos,pI v b 0 aL pos=(aL,(pos:Int),0):=fun aL pos=>by rw[pI]
 generalize xb v b=R at *;generalize dd b 0 0=A at *;obtain⟨tR,Rk,Fq⟩:=A;simp only[]at aG gf aa;obtain⟨n,rfl⟩:=Int.eq_ofNat_of_zero_le gf.2.1;obtain⟨c,rfl⟩:=Int.eq_ofNat_of_zero_le gf.1;generalize bX v=ru at *;refine bw Tryz.func75 ?_;repeat' ((conv=>whnf);first| (refine be ?_ ?_<;>intro h)|refine .inl ⟨_,_,aD _,az,?_⟩|refine .inl ⟨_,_,aD _,aG,?_⟩|fail)
 all_goals(conv=>whnf)
 ·rw[aa,h];exact dI ⟨.ar,.r,.r,trivial⟩
 ·rename_i h1;rw[aa,h1,h];exact dI ⟨.ar,.r,.r,trivial⟩
 ·rename_i h1 ad;rw[aa,h1,ad,h];exact dI ⟨.ar,.r,.r,trivial⟩
 ·rename_i h1 ad;rw[h1,ad,h,cond_false,cond_false,cond_false,Int.toNat_natCast,Int.toNat_natCast]at aa;have al:c<=5000:=by
   have:=of_decide_eq_false h;omega
  have aki:Fq=0:=by simpa using ad
  clear h h1 ad;subst aa;refine⟨Nat×List ca×Nat,fun x=>⟨[(1,.aq 1 (b.map bo) false),(2,.aP 0 0),(4,.own 1),(5,i64 x.2.2),(25,u64 c),(26,u64 x.1)],[.cells 24 (bN v),.row 147 4 (x.2.1.map dr)]⟩,fun x=>x.1<=c/\pI v b (c-x.1) x.2.1 x.2.2=pI v b c [] n/\x.2.2<=b.length/\x.2.1.length=x.1,fun x=>c-x.1,[.fS 4 147 4],⟨⟨0,[],n⟩,⟨Nat.zero_le _,rfl,by simp only[];omega,rfl⟩,?_⟩,?_⟩
  ·conv=>whnf
   exact⟨⟨.r,.r,.r,.r,.r,.r,trivial⟩,⟨.r,.r,trivial⟩,by rfl⟩
  ·intro ⟨i,aL,pos⟩ ⟨ab,ax,eh,lw⟩;simp only[]at ab ax eh lw;repeat' ((conv=>whnf);first| (refine be ?_ ?_<;>intro h)|fail)
   ·have ap:i<c:=by
     have:=of_decide_eq_true h;simp only[]at this;omega
    clear h;have hk:c-i=(c- (i+1))+1:=by omega
    rw[hk,bI]at ax;have ez:=abO v ac (b.drop pos) (by simp;omega);have Rq:=abU v (b.drop pos);rw[List.length_drop]at Rq;have xc:vk v b aL pos=bif (decide ((kO v (b.drop pos)).2.2=0)&&decide (0<(aL.length:Int)))&& !gN (aL.getD (aL.length-1) eu) (kO v (b.drop pos)).1 then 3 else(kO v (b.drop pos)).2.2:=rfl;have el:=Fm (aL.getD (aL.length-1) eu) (kO v (b.drop pos)).1;generalize vk v b aL pos=JT at *;generalize kO v (b.drop pos)=D at *;obtain⟨Rr,D2,akj⟩:=D;simp only[]at ez Rq xc el ax;have iN: (b.map bo).drop pos=(b.drop pos).map bo:=by rw[List.map_drop]
    rw[<-iN]at ez;have l6:pos<=(b.map bo).length:=by simpa using eh
    have zg:∀x:Bool,(x&&decide (0<((aL.map dr).length:Int)))=true->IntKind.i64.wrap (((aL.map dr).length:Int)-1)=((aL.length-1:Nat):Int)/\aL.length-1<(aL.map dr).length:=fun x h=>by
     simp only[Bool.and_eq_true,decide_eq_true_eq,List.length_map]at h⊢;rw[dC (by omega) (by omega)];omega
    have nB:∀x:Bool,(x&&decide (0<((aL.map dr).length:Int)))=true->(aL.map dr)[aL.length-1]?=some (dr (aL.getD (aL.length-1) eu)):=fun x h=>by
     simp only[Bool.and_eq_true,decide_eq_true_eq,List.length_map]at h;have:aL.length-1<aL.length:=by omega
     simp[this]
    generalize gN (aL.getD (aL.length-1) eu) Rr=JZ at *;generalize aL.getD (aL.length-1) eu=abW at *;repeat' ((conv=>whnf);first|refine bc ?_| (refine be ?_ ?_<;>intro h)|refine And.intro (by kernel_rfl) ?_|refine And.intro ⟨fun h=>h,fun h=>h⟩ ?_|refine⟨pos,And.intro ⟨⟨_,rfl⟩,l6⟩ ?_⟩|refine .inl ⟨_,_,aD _,ez,?_⟩|refine⟨_,_,aD _,fun _=>el,?_⟩|refine⟨aL.length-1,And.intro ⟨⟨fun h=>h,fun h=>h⟩,fun h=>zg _ h⟩ ?_⟩|refine⟨dr abW,And.intro ⟨fun h=>h,fun h=>nB _ h⟩ ?_⟩|fail)
    all_goals(conv=>whnf)
    ·simp only[List.length_map]at h;rw[h,cond_true]at xc;rw[xc]at ax;rw[<-ax];exact dI ⟨.ar,.r,.r,trivial⟩
    ·rename_i h1;simp only[List.length_map]at h1;rw[h1,cond_false]at xc;rw[xc,h,cond_true]at ax;rw[<-ax];exact dI ⟨.ar,.r,.r,trivial⟩
    ·rename_i h1;simp only[List.length_map]at h1;rw[h1,cond_false]at xc;rw[xc,h,cond_false]at ax;clear h h1;refine And.intro (Fi (by simp;omega)) ?_;repeat' ((conv=>whnf);first|refine bc ?_|fail)
     all_goals(conv=>whnf)
     refine⟨⟨i+1,aL++ [Rr],pos+D2.toNat⟩,⟨ap,ax,by simp only[];omega,by simp[lw]⟩,by simp only[];omega,?_⟩;conv=>whnf
     refine⟨⟨.r,.r,.r,aV ?_,.r,aV ?_,trivial⟩,⟨.r,ch ?_,trivial⟩,by rfl⟩
     ·simp only[];rw[dC (by omega) (by omega)];omega
     ·simp only[];rw[h8 (by omega) (by omega)];omega
     ·rw[List.map_append];rfl
   ·have:i=c:=by
     have:=of_decide_eq_false h;simp only[]at this;omega
    subst this;clear h;rw[Nat.sub_self,zl]at ax;rw[<-ax];repeat' ((conv=>whnf);first|exact .refl|fail)
theorem BT{a b c:ca}(h1:gN a b=true)(ad:gN b c=true):gN a c=true:=by
 simp only[gN,Bool.or_eq_true,Bool.and_eq_true,decide_eq_true_eq]at *;omega
theorem abX{a b:ca}(h1:gN a b=false)(ad:gN b a=false):a.cj=b.cj/\a.dN=b.dN:=by
 simp only[gN,Bool.or_eq_false_iff,Bool.and_eq_false_iff,decide_eq_false_iff_not]at *;omega
def qA(l:List ca):Prop:=l.Pairwise fun a b=>gN a b=true
theorem abY{l:List ca}(h:∀i (ab:i+1<l.length),gN l[i] l[i+1]=true):qA l:=by
 rw[qA,List.pairwise_iff_getElem];intro i j ab ai dS;obtain⟨d,rfl⟩:∃d,j=i+1+d:=⟨j- (i+1),by omega⟩
 clear dS;induction d with
 |zero=>exact h i ai
 |succ d aN=>
  have h1:=aN (by omega);have ad:=h (i+1+d) (by omega);exact BT h1 ad
theorem tT{v:aQ}{l:List ca}:dU v l=true↔bX v=true/\(∀a∈l,jz v a=true)/\qA l:=by
 unfold dU;cases ac:bX v
 ·simp
 ·rw[Bool.not_true,cond_false,gB];constructor
  ·intro h;refine⟨rfl,fun a aZ=> ?_,abY fun i ab=> ?_⟩
   ·obtain⟨i,ab,rfl⟩:=List.getElem_of_mem aZ;have h1:=h i ab;have ax:l.getD i eu=l[i]:=by simp[ab]
    unfold rv at h1;rw[ax,Bool.and_eq_true]at h1;exact h1.1
   ·have h1:=h (i+1) ab;have ax:l.getD (i+1) eu=l[i+1]:=by simp[ab]
    have lp:i<l.length:=by omega
    have gK:l.getD (i+1-1) eu=l[i]:=by simp[lp]
    unfold rv at h1;rw[ax,gK,Bool.and_eq_true,decide_eq_true (show (0:Int)<((i+1:Nat):Int) by omega)]at h1;simpa using h1.2
  ·rintro⟨_,h1,ad⟩ i ab;have ax:l.getD i eu=l[i]:=by simp[ab]
   unfold rv;rw[ax,h1 _ (List.getElem_mem ab),Bool.true_and];by_cases aH:0<i
   ·have lp:i-1<l.length:=by omega
    have gK:l.getD (i-1) eu=l[i-1]:=by simp[lp]
    have:=List.pairwise_iff_getElem.1 ad (i-1) i lp ab (by omega);rw[gK,this];simp
   ·rw[decide_eq_false (by omega)];rfl
theorem Ka{α:Type}{p:α->Bool}{x:α}:∀ {l:List α},x∈l.takeWhile p->p x=true
 | [],h=>by simp at h
 |y::t,h=>by
  rw[List.takeWhile_cons]at h;split at h
  ·rename_i bt;rcases List.mem_cons.1 h with rfl|h
   ·exact bt
   ·exact Ka h
  ·simp at h
theorem abZ{α:Type}{p:α->Bool}{l:List α}{x:α}(h:x∈l.take (l.takeWhile p).length):p x=true:=by
 rw[<-List.prefix_iff_eq_take.1 (List.takeWhile_prefix p)]at h;exact Ka h
theorem Rs{α:Type}{p:α->Bool}:∀ {l:List α} (h: (l.takeWhile p).length<l.length),p (l[(l.takeWhile p).length])=false
 | [],h=>by simp at h
 |x::t,h=>by
  cases an:p x
  ·simp[List.takeWhile_cons,an]
  ·have ad: (t.takeWhile p).length<t.length:=by
    simpa[List.takeWhile_cons,an]using h
   have:=Rs (p:=p) ad;simpa[List.takeWhile_cons,an]using this
theorem Rt{l:List ca}(ag:qA l)(a:ca):qA (jA l a).1/\(jA l a).1.length<=l.length+1/\(∀x,x∈ (jA l a).1->x∈l\/x=a)/\(∀x,x∈l->x∈ (jA l a).1)/\(a∈ (jA l a).1\/∃e∈l,e.cj=a.cj/\e.dN=a.dN):=by
 have ae:∀x∈l.take (oa l a),gN x a=true:=fun x an=>abZ (p:=fun y=>gN y a) an;have gJ:∀h:oa l a<l.length,gN l[oa l a] a=false:=fun h=>Rs (p:=fun y=>gN y a) h;have e8:oa l a<=l.length:=(List.takeWhile_prefix _).length_le;unfold jA;generalize oa l a=k at *;by_cases hk:k<l.length
 ·have ax:l.getD k eu=l[k]:=by simp[hk]
  rw[decide_eq_true (show ((k:Nat):Int)<(l.length:Int) by omega),ax];cases af:gN a l[k]
  ·simp only[Bool.not_false,Bool.and_self,cond_true];have:=abX (gJ hk) af;exact⟨ag,by omega,fun x h=>.inl h,fun x h=>h,.inr ⟨_,List.getElem_mem hk,this⟩⟩
  ·simp only[Bool.not_true,Bool.and_false,cond_false];refine⟨?_,by simp;omega,?_,?_,.inl (by simp)⟩
   ·rw[qA,List.append_assoc,List.pairwise_append];refine⟨ag.sublist (List.take_sublist _ _),?_,?_⟩
    ·rw[List.singleton_append,List.pairwise_cons];refine⟨fun y bt=> ?_,ag.sublist (List.drop_sublist _ _)⟩;obtain⟨j,ai,rfl⟩:=List.getElem_of_mem bt;rw[List.getElem_drop];rw[List.length_drop]at ai;rcases Nat.eq_zero_or_pos j with rfl|Kb
     ·exact af
     ·exact BT af (List.pairwise_iff_getElem.1 ag k (k+j) hk (by omega) (by omega))
    ·intro x an y bt;rw[List.singleton_append,List.mem_cons]at bt;have h1:=ae x an;rcases bt with rfl|bt
     ·exact h1
     ·obtain⟨j,ai,rfl⟩:=List.getElem_of_mem bt;rw[List.getElem_drop];rw[List.length_drop]at ai;rcases Nat.eq_zero_or_pos j with rfl|Kb
      ·exact BT h1 af
      ·exact BT h1 (BT af (List.pairwise_iff_getElem.1 ag k (k+j) hk (by omega) (by omega)))
   ·intro x an;simp only[List.append_assoc,List.singleton_append,List.mem_append,List.mem_cons]at an;rcases an with h|h|h
    ·exact .inl (List.mem_of_mem_take h)
    ·exact .inr h
    ·exact .inl (List.mem_of_mem_drop h)
   ·intro x an;rw[<-List.take_append_drop k l,List.mem_append]at an;simp only[List.append_assoc,List.singleton_append,List.mem_append,List.mem_cons];rcases an with h|h
    ·exact .inl h
    ·exact .inr (.inr h)
 ·have kJ:k=l.length:=by omega
  rw[decide_eq_false (show ¬((k:Nat):Int)<(l.length:Int) by omega),Bool.false_and,cond_false];subst kJ;rw[List.take_length]at ae;refine⟨?_,by simp,?_,?_,.inl (by simp)⟩
  ·rw[List.take_length,List.drop_length,List.append_nil,qA,List.pairwise_append];refine⟨ag,by simp,fun x an y bt=> ?_⟩;rw[List.mem_singleton]at bt;subst bt;exact ae x an
  ·intro x an;simpa using an
  ·intro x an;simp[an]
structure iT where
 cc:Int
 aB:Int
 cut:List Int
structure cb where
 mem:Int
 aB:Int
 cut:List Int
def sA(a:iT):List aj:=[.v (.int .i64 a.cc),.v (.int .i64 a.aB),.aq 1 (a.cut.map aM) false]
def bG(a:cb):List aj:=[.v (.int .i64 a.mem),.v (.int .i64 a.aB),.aq 1 (a.cut.map aM) false]
def sB(a m:Int):Int:=bif decide (a<1)||decide (1048575<a)||decide (m<1)||decide (1000<m)then 0 else IntKind.i64.wrap (IntKind.i64.wrap (1024*a)+m)
def gC(r:Int):Int:=bif decide (r<=1024)||decide (1073741824<=r)||decide (1000<r.tmod 1024)then 0 else r.tmod 1024
theorem ab0(a m:Int):bg Tryz.prog 204 [.v (.int .i64 a),.v (.int .i64 m)] (.v (.int .i64 (sB a m))):=by
 refine bw Tryz.func204 ?_;repeat' ((conv=>whnf);first|refine bc ?_| (refine be ?_ ?_<;>intro h)|fail)
 all_goals(conv=>whnf)
 all_goals refine aV ?_
 all_goals simp only[sB,h,cond_true,cond_false]
theorem Ft(r:Int):bg Tryz.prog 178 [.v (.int .i64 r)] (.v (.int .i64 (gC r))):=by
 refine bw Tryz.func178 ?_;repeat' ((conv=>whnf);first|refine bc ?_| (refine be ?_ ?_<;>intro h)| (refine And.intro ?_ ?_;focus (simp;done))|fail)
 all_goals(conv=>whnf)
 all_goals refine aV ?_
 all_goals simp only[gC,h,cond_true,cond_false]
def jB(r:Int):Bool:= !decide (gC r=0)
theorem Fu(r:Int):bg Tryz.prog 177 [.v (.int .i64 r)] (.v (.bool (jB r))):=by
 refine bw Tryz.func177 ?_;repeat' ((conv=>whnf);first|exact .refl|refine .inl ⟨_,_,aD _,Ft _,?_⟩|fail)
theorem vl(l:List Int)(af:l.length<=1000000):bg Tryz.prog 203 [.aq 1 (l.map aM) false] (.aq 1 (l.map aM) false):=by
 have gx: (l.map aM).length* (ay ah 3).bytes<=140737488355328:=by
  have e: (ay ah 3).bytes=8:=by kernel_rfl
  rw[e];simp;omega
 have p8: (l.map aM).length<=maxLen:=by simp only[maxLen];simp;omega
 refine bw Tryz.func203 ?_;repeat' ((conv=>whnf);first|refine⟨(l.map aM).length,(l.map aM).length,rfl,rfl,Nat.le_refl _,gx,p8,?_⟩|fail)
 all_goals(conv=>whnf)
 refine hT ?_;simp;exact List.take_of_length_le (by simp)
theorem Kc(a:iT)(af:a.cut.length<=1000000):bg Tryz.prog 202 [.agg (sA a)] (.agg (sA a)):=by
 refine bw Tryz.func202 ?_;repeat' ((conv=>whnf);first|exact .refl|refine .inl ⟨_,_,aD _,vl _ af,?_⟩|fail)
theorem ab1:bg Tryz.prog 126 [] (.agg (sA ⟨0,-1,[]⟩)):=by
 refine bw Tryz.func126 ?_;repeat' ((conv=>whnf);first|refine bc ?_|fail)
 all_goals(conv=>whnf)
 exact gM ⟨.r,.r,.ar,trivial⟩
def jC(a:iT):Bool:=
 bif !decide (a.cc=0)&& !jB a.cc||decide (a.cc<a.aB)then false
 else bif decide (a.aB= -1)then decide ((a.cut.length:Int)=0)
 else(decide (a.aB=0)||jB a.aB)&&c9 a.cut 32
theorem Fv(a:iT)(af:a.cut.length<=maxLen):bg Tryz.prog 111 [.agg (sA a)] (.v (.bool (jC a))):=by
 refine bw Tryz.func111 ?_;repeat' ((conv=>whnf);first|refine bc ?_| (refine be ?_ ?_<;>intro h)|refine And.intro ⟨fun h=>h,fun h=>h⟩ ?_|refine⟨_,_,aD _,fun _=>Fu _,?_⟩|refine⟨_,_,aD _,fun _=>BB _ af,?_⟩|fail)
 all_goals(conv=>whnf)
 all_goals refine eK ?_
 all_goals(try simp only[List.length_map]at *)
 all_goals simp only[jC, *,cond_true,cond_false]
def l7(a:iT)(cut:List Int):iT×Bool:=
 bif !jC a then(⟨0,0,[]⟩,false)
 else bif !decide (a.cc=0)|| !decide (a.aB= -1)|| !c9 cut 32 then(a,false)
 else(⟨0,0,cut⟩,true)
theorem ab2(a:iT)(af:a.cut.length<=1000000)(cut:List Int)(al:cut.length<=1000000):bg Tryz.prog 164 [.agg (sA a),.aq 1 (cut.map aM) false] (.a1 [.agg (sA (l7 a cut).1),.v (.bool (l7 a cut).2)]):=by
 have h1:a.cut.length<=maxLen:=Nat.le_trans af (by decide);have ad:cut.length<=maxLen:=Nat.le_trans al (by decide);refine bw Tryz.func164 ?_;repeat' ((conv=>whnf);first|refine bc ?_| (refine be ?_ ?_<;>intro h)|refine .inl ⟨_,_,aD _,Fv _ h1,?_⟩|refine⟨_,_,aD _,fun _=>BB _ ad,?_⟩|refine .inl ⟨_,_,aD _,Kc _ af,?_⟩|refine .inl ⟨_,_,aD _,vl _ al,?_⟩|fail)
 all_goals(conv=>whnf)
 all_goals simp only[l7, *,cond_true,cond_false]
 ·exact dI ⟨gM ⟨.r,.r,.ar,trivial⟩,.r,trivial⟩
 ·exact .refl
 ·exact .refl
def hq(a:iT)(aB:Int):iT×cb×Bool:=
 bif !jC a then(⟨0,0,[]⟩,⟨0,0,[]⟩,false)
 else bif !jB aB||decide (aB<a.cc)then(a,⟨0,0,[]⟩,false)
 else(⟨aB,a.aB,a.cut⟩,⟨0,a.aB,a.cut⟩,true)
theorem Ru(a:iT)(af:a.cut.length<=1000000)(aB:Int):bg Tryz.prog 193 [.agg (sA a),.v (.int .i64 aB)] (.a1 [.agg (sA (hq a aB).1),.agg (bG (hq a aB).2.1),.v (.bool (hq a aB).2.2)]):=by
 have h1:a.cut.length<=maxLen:=Nat.le_trans af (by decide);refine bw Tryz.func193 ?_;repeat' ((conv=>whnf);first|refine bc ?_| (refine be ?_ ?_<;>intro h)|refine And.intro (by kernel_rfl) ?_|refine And.intro ⟨fun h=>h,fun h=>h⟩ ?_|refine .inl ⟨_,_,aD _,Fv _ h1,?_⟩|refine .inl ⟨_,_,aD _,Fu _,?_⟩|refine .inl ⟨_,_,aD _,Kc _ af,?_⟩|refine .inl ⟨_,_,aD _,vl _ af,?_⟩|fail)
 all_goals(conv=>whnf)
 all_goals simp only[hq, *,cond_true,cond_false]
 ·exact dI ⟨gM ⟨.r,.r,.ar,trivial⟩,gM ⟨.r,.r,.ar,trivial⟩,.r,trivial⟩
 ·exact dI ⟨.r,gM ⟨.r,.r,.ar,trivial⟩,.r,trivial⟩
 ·exact .refl
def iy(a:iT)(aB:Int)(cut:List Int):iT×Bool:=
 bif !jC a then(⟨0,0,[]⟩,false)
 else bif !jB aB||decide (aB<a.cc)|| !c9 cut 32||decide (a.aB=aB)&& !fK a.cut cut then(a,false)
 else(⟨aB,aB,cut⟩,true)
theorem Rv(a:iT)(af:a.cut.length<=1000000)(aB:Int)(cut:List Int)(al:cut.length<=1000000):bg Tryz.prog 197 [.agg (sA a),.v (.int .i64 aB),.aq 1 (cut.map aM) false] (.a1 [.agg (sA (iy a aB cut).1),.v (.bool (iy a aB cut).2)]):=by
 have h1:a.cut.length<=maxLen:=Nat.le_trans af (by decide);have ad:cut.length<=maxLen:=Nat.le_trans al (by decide);refine bw Tryz.func197 ?_;repeat' ((conv=>whnf);first|refine bc ?_| (refine be ?_ ?_<;>intro h)|refine And.intro ⟨fun h=>h,fun h=>h⟩ ?_|refine .inl ⟨_,_,aD _,Fv _ h1,?_⟩|refine .inl ⟨_,_,aD _,Fu _,?_⟩|refine⟨_,_,aD _,fun _=>BB _ ad,?_⟩|refine⟨_,_,aD _,fun _=>BC _ _ h1,?_⟩|refine .inl ⟨_,_,aD _,Kc _ af,?_⟩|refine .inl ⟨_,_,aD _,vl _ al,?_⟩|fail)
 all_goals(conv=>whnf)
 all_goals simp only[iy, *,cond_true,cond_false]
 ·exact dI ⟨gM ⟨.r,.r,.ar,trivial⟩,.r,trivial⟩
 ·exact .refl
 ·exact .refl
theorem Rw(v:aQ)(ac:v.mem.length<=500000)(cut:List Int)(al:cut.length<=500000):bg Tryz.prog 219 [.agg (bN v),.aq 1 (cut.map aM) false] (.v (.bool (decide ((eQ v cut).2=0)))):=by
 refine bw Tryz.func219 ?_;repeat' ((conv=>whnf);first|exact .refl|refine .inl ⟨_,_,aD _,y6 _ ac _ al,?_⟩|fail)
def fI(n:Int):Int:=bif !(decide (1<=n)&&decide (n<=16))then 0 else IntKind.i64.wrap (IntKind.i64.wrap (n.tdiv 2)+1)
theorem BU(n:Int):bg Tryz.prog 181 [.v (.int .i64 n)] (.v (.int .i64 (fI n))):=by
 refine bw Tryz.func181 ?_;repeat' ((conv=>whnf);first| (refine be ?_ ?_<;>intro h)|refine .inl ⟨_,_,aD _,Qz _,?_⟩| (refine And.intro ?_ ?_;focus (simp;done))|fail)
 all_goals(conv=>whnf)
 all_goals refine aV ?_
 all_goals simp only[fI,h,cond_true,cond_false]
def oV(n:Int):Int:=bif !(decide (1<=n)&&decide (n<=16))then 0 else IntKind.i64.wrap (n-IntKind.i64.wrap ((IntKind.i64.wrap (n-1)).tdiv 4))
theorem Rx(n:Int):bg Tryz.prog 230 [.v (.int .i64 n)] (.v (.int .i64 (oV n))):=by
 refine bw Tryz.func230 ?_;repeat' ((conv=>whnf);first| (refine be ?_ ?_<;>intro h)|refine .inl ⟨_,_,aD _,Qz _,?_⟩| (refine And.intro ?_ ?_;focus (simp;done))|fail)
 all_goals(conv=>whnf)
 all_goals refine aV ?_
 all_goals simp only[oV,h,cond_true,cond_false]
def cI:cb:=⟨0,0,[]⟩
def vm(l:List cb)(i:Nat):Int:=(0::l.map (·.mem)).getD i 0
def qB(v:aQ)(l:List cb)(i:Nat):Bool:=
 !(decide ((l.getD i cI).mem<=vm l i)|| !bR v.mem (l.getD i cI).mem)&&
  (decide ((l.getD i cI).aB= -1)&&decide (((l.getD i cI).cut.length:Int)=0)||
   (decide ((l.getD i cI).aB=0)||jB (l.getD i cI).aB)&&decide ((eQ v (l.getD i cI).cut).2=0))
def fC(v:aQ)(l:List cb):Bool:=bX v&&gA (qB v l) l.length
theorem zm(v:aQ)(ac:v.mem.length<=500000)(l:List cb)(af:l.length<=maxLen)(al:∀r∈l,r.cut.length<=500000):bg Tryz.prog 180 [.agg (bN v),.aq 3 (l.map bG) false] (.v (.bool (fC v l))):=by
 have fG:l.length<=9223372036854775807:=af;have h1:v.mem.length<=maxLen:=Nat.le_trans ac (by decide);refine bw Tryz.func180 ?_;repeat' ((conv=>whnf);first| (refine be ?_ ?_<;>intro h)|refine .inl ⟨_,_,aD _,n3 _ h1,?_⟩|fail)
 ·refine eK ?_;have h:bX v=false:=by simpa using h
  simp[fC,h]
 ·have tL:bX v=true:=by simpa using h
  clear h;conv=>whnf
  refine⟨Nat,fun i=>⟨[(2,.aP 0 0),(5,i64 (vm l i)),(11,.aq 3 (l.map bG) false),(12,i64 (l.map bG).length),(13,i64 i)],[.cells 24 (bN v)]⟩,fun i=>i<=l.length/\∀j,j<i->qB v l j=true,fun i=>l.length-i,[],⟨0,⟨Nat.zero_le _,by omega⟩,?_⟩,?_⟩
  ·exact⟨by repeat' ((conv=>whnf);first|exact trivial|refine And.intro (by(conv=>arg 1;whnf);first| (with_reducible exact .refl)|exact aV (bH (by omega))|exact .refl) ?_|fail),by repeat' ((conv=>whnf);first|exact trivial|refine And.intro ?_ ?_|exact .refl|fail),rfl⟩
  ·intro i ⟨ab,bQ⟩;repeat' ((conv=>whnf);first| (refine be ?_ ?_<;>intro h)|fail)
   ·have ap:i<l.length:=by simpa using h
    clear h;have ax:l.getD i cI=l[i]:=by simp[ap]
    have ko: (l[i]).cut.length<=500000:=al _ (List.getElem_mem ap);have bad:qB v l i=false->false=fC v l:=fun ae=>by rw[fC,pB ap ae,Bool.and_false]
    have qC:qB v l i=true->∃x',(fun i=>i<=l.length/\∀j,j<i->qB v l j=true) x'/\(fun i=>l.length-i) x'<(fun i=>l.length-i) i/\x'=i+1:=fun ae=>
     ⟨i+1,⟨ap,fun j ai=>by
      rcases Nat.lt_succ_iff_lt_or_eq.1 ai with ai|rfl
      ·exact bQ j ai
      ·exact ae⟩,by simp only[];omega,rfl⟩
    have au:vm l (i+1)=l[i].mem:=by simp[vm,ap]
    repeat' ((conv=>whnf);first|refine bc ?_| (refine be ?_ ?_<;>intro h)|refine And.intro ⟨fun h=>h,fun h=>h⟩ ?_|refine⟨_,_,And.intro ⟨rfl,cE ap⟩ ?_⟩|refine⟨_,_,aD _,fun _=>hp _ h1 _,?_⟩|refine⟨_,_,aD _,fun _=>Fu _,?_⟩|refine⟨_,_,aD _,fun _=>Rw _ ac _ ko,?_⟩|fail)
    all_goals(conv=>whnf)
    ·refine eK (bad ?_);simp only[qB,ax,h];rfl
    ·rename_i aH;rw[List.length_map]at h;obtain⟨x',cx,cM,rfl⟩:=qC (by simp only[qB,ax,aH,h];rfl);refine⟨i+1,cx,cM,?_⟩;refine⟨⟨.r,?_,.r,.r,aV (bH (by omega)),trivial⟩,⟨.r,trivial⟩,rfl⟩;exact aV au.symm
    ·rename_i aH ad;rw[List.length_map]at ad;obtain⟨x',cx,cM,rfl⟩:=qC (by simp only[qB,ax,aH,ad,h];rfl);refine⟨i+1,cx,cM,?_⟩;refine⟨⟨.r,?_,.r,.r,aV (bH (by omega)),trivial⟩,⟨.r,trivial⟩,rfl⟩;exact aV au.symm
    ·rename_i aH ad;rw[List.length_map]at ad;refine eK (bad ?_);simp only[qB,ax,aH,ad,h];rfl
   ·have dB:¬i<l.length:=by simpa using h
    conv=>whnf
    refine eK ?_;rw[fC,tL,gB.2 (fun j ai=>bQ j (by omega))];rfl
structure cv where
 mem:Int
 cut:List Int
def dh(b:cv):List aj:=[.v (.int .i64 b.mem),.aq 1 (b.cut.map aM) false]
def gp(l:List cv)(cut:List Int):Nat:=(l.filter fun b=>fK b.cut cut).length
theorem ab3{l:List cv}{cut:List Int}{i:Nat}(h:i<l.length)(ag:fK (l[i]'h).cut cut=true):gp (l.take (i+1)) cut=gp (l.take i) cut+1:=by
 simp only[gp,List.take_succ_eq_append_getElem h,List.filter_append];simp[ag]
theorem ab4{l:List cv}{cut:List Int}{i:Nat}(h:i<l.length)(ag:fK (l[i]'h).cut cut=false):gp (l.take (i+1)) cut=gp (l.take i) cut:=by
 simp only[gp,List.take_succ_eq_append_getElem h,List.filter_append];simp[ag]
theorem ab5(l:List cv)(cut:List Int)(i:Nat):gp (l.take i) cut<=i:=
 Nat.le_trans (List.length_filter_le _ _) (by simp;omega)
theorem Ry(l:List cv)(af:l.length<=500000)(al:∀b∈l,b.cut.length<=maxLen)(cut:List Int):bg Tryz.prog 243 [.aq 2 (l.map dh) false,.aq 1 (cut.map aM) false] (.v (.int .i64 (gp l cut))):=by
 refine bw Tryz.func243 ?_;repeat' ((conv=>whnf);first|refine bc ?_|fail)
 refine⟨Nat,fun i=>⟨[(1,.aq 1 (cut.map aM) false),(5,i64 (gp (l.take i) cut)),(8,.aq 2 (l.map dh) false),(9,i64 (l.map dh).length),(10,i64 i)],[]⟩,fun i=>i<=l.length,fun i=>l.length-i,[],⟨0,Nat.zero_le _,?_⟩,?_⟩
 ·exact⟨by repeat' ((conv=>whnf);first|exact trivial|refine And.intro (by(conv=>arg 1;whnf);first| (with_reducible exact .refl)|exact aV (bH (by omega))|exact .refl) ?_|fail),by repeat' ((conv=>whnf);first|exact trivial|fail),rfl⟩
 ·intro i ab;repeat' ((conv=>whnf);first| (refine be ?_ ?_<;>intro h)|fail)
  ·have ap:i<l.length:=by simpa using h
   clear h;have ko:=al _ (List.getElem_mem ap);have hle:=ab5 l cut i;repeat' ((conv=>whnf);first| (refine be ?_ ?_<;>intro h)|refine⟨_,_,And.intro ⟨rfl,cE ap⟩ ?_⟩|refine .inl ⟨_,_,aD _,BC _ _ ko,?_⟩|fail)
   all_goals(conv=>whnf)
   all_goals refine⟨i+1,ap,by simp only[];omega,?_⟩
   ·refine⟨⟨.r,?_,.r,.r,aV (bH (by omega)),trivial⟩,trivial,rfl⟩;rw[ab3 ap h];exact aV (bH (by omega))
   ·refine⟨⟨.r,?_,.r,.r,aV (bH (by omega)),trivial⟩,trivial,rfl⟩;rw[ab4 ap h];exact .refl
  ·have dB:¬i<l.length:=by simpa using h
   have:i=l.length:=by omega
   subst this;conv=>whnf
   rw[List.take_length];exact .refl
def fb(l:List cb):Nat->Nat
 |0=>0
 |i+1=>bif decide ((l.getD (fb l i) cI).aB<(l.getD i cI).aB)then i else fb l i
theorem Kd(l:List cb):∀i,fb l i<=i
 |0=>Nat.le_refl _
 |i+1=>by
  have:=Kd l i;unfold fb;cases decide ((l.getD (fb l i) cI).aB<(l.getD i cI).aB)<;>simp<;>omega
def eL(l:List cb):List cv:=(l.filter fun r=>decide (r.aB=0)).map fun r=>⟨r.mem,r.cut⟩
def qD(v:aQ)(l:List cb):Int:=IntKind.i64.wrap (IntKind.i64.wrap (oV v.mem.length+(l.length:Int))- (v.mem.length:Int))
def ob(v:aQ)(l:List cb)(own:List Int):Bool:= !fC v l||decide ((l.length:Int)<fI v.mem.length)||decide (0<(own.length:Int))&& !decide ((eQ v own).2=0)
def fr(v:aQ)(l:List cb)(own:List Int):List Int×Bool:=
 bif ob v l own then([],false)
 else bif decide (0<(l.getD (fb l l.length) cI).aB)then((l.getD (fb l l.length) cI).cut,true)
 else match (eL l).find? (fun b=>decide (qD v l<=(gp (eL l) b.cut:Int)))with
  |some b=>(b.cut,true)
  |none=>bif decide ((own.length:Int)=0)then([],false)else(own,true)
theorem Rz{l:List cb}{i:Nat}(h1:i<l.length)(ad:fb l i<l.length)(h:decide ((l[fb l i]'ad).aB<(l[i]'h1).aB)=true):fb l (i+1)=i:=by
 have az:l.getD (fb l i) cI=l[fb l i]:=by simp[ad]
 have aG:l.getD i cI=l[i]:=by simp[h1]
 simp only[fb,az,aG,h,cond_true]
theorem RA{l:List cb}{i:Nat}(h1:i<l.length)(ad:fb l i<l.length)(h:decide ((l[fb l i]'ad).aB<(l[i]'h1).aB)=false):fb l (i+1)=fb l i:=by
 have az:l.getD (fb l i) cI=l[fb l i]:=by simp[ad]
 have aG:l.getD i cI=l[i]:=by simp[h1]
 simp only[fb,az,aG,h,cond_false]
theorem Ke(l:List cb)(i:Nat): (eL (l.take i)).length<=i:=by
 simp only[eL,List.length_map];exact Nat.le_trans (List.length_filter_le _ _) (by simp;omega)
theorem RB{l:List cb}{i:Nat}(h1:i<l.length)(h:decide ((l[i]'h1).aB=0)=true): (eL (l.take i)).map dh++ [dh ⟨(l[i]'h1).mem,(l[i]'h1).cut⟩]=(eL (l.take (i+1))).map dh:=by
 simp only[eL,List.take_succ_eq_append_getElem h1,List.filter_append,List.map_append];simp only[List.filter_cons,h,if_true,List.filter_nil,List.map_cons,List.map_nil]
theorem RC{l:List cb}{i:Nat}(h1:i<l.length)(h:decide ((l[i]'h1).aB=0)=false): (eL (l.take i)).map dh=(eL (l.take (i+1))).map dh:=by
 simp only[eL,List.take_succ_eq_append_getElem h1,List.filter_append,List.map_append];simp[List.filter_cons,h]
theorem Kf(l:List cb){n:Nat}(h:0<n):fb l n<n:=by
 obtain⟨i,rfl⟩:∃i,n=i+1:=⟨n-1,by omega⟩
 have:=Kd l i;unfold fb;cases decide ((l.getD (fb l i) cI).aB<(l.getD i cI).aB)<;>simp<;>omega
theorem ab6{n:Nat}(h1:1<=n)(ad:n<=16):1<=fI n:=by
 have e: (!(decide (1<=(n:Int))&&decide ((n:Int)<=16)))=false:=by simp;omega
 have aG:Int.tdiv (n:Int) 2=((n/2:Nat):Int):=rfl;simp only[fI,e,cond_false,aG];rw[dC (n:=((n/2:Nat):Int)) (by omega) (by omega),dC (by omega) (by omega)];omega
theorem Kg{v:aQ}{l:List cb}{own:List Int}(h:ob v l own=false):0<l.length/\1<=v.mem.length/\v.mem.length<=16:=by
 simp only[ob,Bool.or_eq_false_iff,Bool.not_eq_false',decide_eq_false_iff_not]at h;obtain⟨⟨h1,ad⟩,_⟩:=h;simp only[fC,bX,c9,Bool.and_eq_true,Bool.not_eq_true',Bool.or_eq_false_iff,decide_eq_false_iff_not]at h1;have aC:=h1.1.2.1;have:=ab6 (n:=v.mem.length) (by omega) (by omega);omega
theorem RD{l:List cb}{N:Nat}(al:∀r∈l,r.cut.length<=N):∀b∈eL l,b.cut.length<=N:=by
 intro b ae;simp only[eL,List.mem_map,List.mem_filter]at ae;obtain⟨r,⟨ao,_⟩,rfl⟩:=ae;exact al r ao
theorem zn{n:Nat}(h:n<=2000000):iJ ah 201 n:=by
 have e: (ay ah 201).bytes=32:=by kernel_rfl
 refine⟨?_,?_⟩
 ·rw[e];omega
 ·simp only[maxLen];omega
theorem ab7(v:aQ)(ac:v.mem.length<=500000)(l:List cb)(af:l.length<=500000)(al:∀r∈l,r.cut.length<=500000)(own:List Int)(aF:own.length<=500000):
  bg Tryz.prog 228 [.agg (bN v),.aq 3 (l.map bG) false,.aq 1 (own.map aM) false] (.a1 [.aq 1 ((fr v l own).1.map aM) false,.v (.bool (fr v l own).2)]):=by
 have fG:l.length<=maxLen:=Nat.le_trans af (by decide);refine bw Tryz.func228 ?_;repeat' ((conv=>whnf);first|refine bc ?_| (refine be ?_ ?_<;>intro h)|refine And.intro ⟨fun h=>h,fun h=>h⟩ ?_|refine .inl ⟨_,_,aD _,zm _ ac _ fG al,?_⟩|refine⟨_,_,aD _,fun _=>BU _,?_⟩|refine⟨_,_,aD _,fun _=>Rw _ ac _ aF,?_⟩|fail)
 all_goals(conv=>whnf)
 ·have h:ob v l own=true:=by
   simp only[List.length_map]at h;exact h
  simp only[fr,h,cond_true];exact dI ⟨.ar,.r,trivial⟩
 ·have aH:=h;clear h;refine⟨Nat,fun i=>⟨[(1,.aq 3 (l.map bG) false),(2,.aq 1 (own.map aM) false),(8,i64 (v.mem.map aM).length),(9,i64 (fb l i)),(10,.own 1),(40,.aq 3 (l.map bG) false),(41,i64 (l.map bG).length),(42,i64 i)],[.cells 24 (bN v),.row 201 2 ((eL (l.take i)).map dh)]⟩,fun i=>i<=l.length,fun i=>l.length-i,[.fS 10 201 2],⟨0,Nat.zero_le _,?_⟩,?_⟩
  ·conv=>whnf
   exact⟨by repeat' ((conv=>whnf);first|exact trivial|refine And.intro (by(conv=>arg 1;whnf);first| (with_reducible exact .refl)|exact aV (bH (by omega))|exact .refl) ?_|fail),by repeat' ((conv=>whnf);first|exact trivial|refine And.intro ?_ ?_|exact .refl|fail),rfl⟩
  ·intro i ab;repeat' ((conv=>whnf);first| (refine be ?_ ?_<;>intro h)|fail)
   ·have ap:i<l.length:=by simpa using h
    clear h;have hle:=Kd l i;have iw:fb l i<l.length:=by omega
    repeat' ((conv=>whnf);first| (refine be ?_ ?_<;>intro h)|refine And.intro (by kernel_rfl) ?_|refine⟨_,_,And.intro ⟨rfl,cE ap⟩ ?_⟩|refine⟨_,_,And.intro ⟨rfl,cE iw⟩ ?_⟩|fail)
    all_goals(conv=>whnf)
    ·rename_i ao;have ae:=Ke l i;refine And.intro (zn (by simp;omega)) ?_;repeat' ((conv=>whnf);first|refine bc ?_|fail)
     all_goals(conv=>whnf)
     refine⟨i+1,ap,by simp only[];omega,?_⟩;refine⟨⟨.r,.r,.r,aV (by rw[Rz ap iw ao]),.r,.r,.r,aV (bH (by omega)),trivial⟩,⟨.r,ch (RB ap h),trivial⟩,rfl⟩
    ·rename_i ao;refine⟨i+1,ap,by simp only[];omega,?_⟩;refine⟨⟨.r,.r,.r,aV (by rw[Rz ap iw ao]),.r,.r,.r,aV (bH (by omega)),trivial⟩,⟨.r,ch (RC ap h),trivial⟩,rfl⟩
    ·rename_i ao;have ae:=Ke l i;refine And.intro (zn (by simp;omega)) ?_;repeat' ((conv=>whnf);first|refine bc ?_|fail)
     all_goals(conv=>whnf)
     refine⟨i+1,ap,by simp only[];omega,?_⟩;refine⟨⟨.r,.r,.r,aV (by rw[RA ap iw ao]),.r,.r,.r,aV (bH (by omega)),trivial⟩,⟨.r,ch (RB ap h),trivial⟩,rfl⟩
    ·rename_i ao;refine⟨i+1,ap,by simp only[];omega,?_⟩;refine⟨⟨.r,.r,.r,aV (by rw[RA ap iw ao]),.r,.r,.r,aV (bH (by omega)),trivial⟩,⟨.r,ch (RC ap h),trivial⟩,rfl⟩
   ·have dB:¬i<l.length:=by simpa using h
    have:i=l.length:=by omega
    subst this;clear h;have aH:ob v l own=false:=by
     simp only[List.length_map]at aH;exact aH
    obtain⟨eh,Jt,akk⟩:=Kg aH;have ap:=Kf l eh;have ax:l.getD (fb l l.length) cI=l[fb l l.length]:=by simp[ap]
    have ko:=al _ (List.getElem_mem ap);conv=>whnf
    repeat' ((conv=>whnf);first| (refine be ?_ ?_<;>intro h)|refine⟨_,_,And.intro ⟨rfl,cE ap⟩ ?_⟩|refine .inl ⟨_,_,aD _,vl _ (Nat.le_trans ko (by decide)),?_⟩|fail)
    all_goals(conv=>whnf)
    ·simp only[fr,aH,ax,h,cond_true,cond_false];exact .refl
    ·have h1:=h;clear h;have iO: (eL l).length<=500000:=by
      have:=Ke l l.length;rw[List.take_length]at this;omega
     have BV:=RD al;have ab8:=fun cut=>Ry (eL l) iO (fun b ae=>Nat.le_trans (BV b ae) (by decide)) cut;have n2:l.take l.length=l:=List.take_length;rw[n2];refine⟨Nat,fun i=>⟨[(1,.aq 3 (l.map bG) false),(2,.aq 1 (own.map aM) false),(8,i64 (v.mem.map aM).length),(10,.own 1),(80,.own 1),(81,i64 (eL l).length),(82,i64 i)],[.cells 24 (bN v),.row 201 2 ((eL l).map dh)]⟩,fun i=>i<=(eL l).length/\∀j (ai:j<(eL l).length),j<i->decide (qD v l<=(gp (eL l) (eL l)[j].cut:Int))=false,fun i=>(eL l).length-i,[],⟨0,⟨Nat.zero_le _,by omega⟩,?_⟩,?_⟩
     ·refine⟨⟨.r,.r,.r,.r,.r,aV (by simp),.r,trivial⟩,⟨.r,.r,trivial⟩,rfl⟩
     ·intro i ⟨ab,bQ⟩;repeat' ((conv=>whnf);first| (refine be ?_ ?_<;>intro h)|refine .inl ⟨_,_,aD _,vl _ (Nat.le_trans aF (by decide)),?_⟩|fail)
      ·have ap:i<(eL l).length:=by simpa using h
       clear h;have ab9:i<((eL l).map dh).length:=by simpa using ap
       have oL: ((eL l).map dh)[i]?=some (dh ((eL l)[i]'ap)):=cE ap;have ko:=BV _ (List.getElem_mem ap);repeat' ((conv=>whnf);first| (refine be ?_ ?_<;>intro h)|refine .inl ⟨_,_,aD _,ab8 _,?_⟩|refine .inl ⟨_,_,aD _,Rx _,?_⟩|refine .inl ⟨_,_,aD _,vl _ (Nat.le_trans ko (by decide)),?_⟩|refine⟨i,And.intro ⟨rfl,ab9⟩ ?_⟩|refine⟨dh ((eL l)[i]'ap),And.intro oL ?_⟩|fail)
       all_goals(conv=>whnf)
       ·have h:decide (qD v l<=(gp (eL l) (eL l)[i].cut:Int))=true:=by
         simp only[List.length_map]at h;exact h
        have aI: (eL l).find? (fun b=>decide (qD v l<=(gp (eL l) b.cut:Int)))=some (eL l)[i]:=
         List.find?_eq_some_iff_getElem.2 ⟨h,i,ap,rfl,fun j ai=>by simpa using bQ j (by omega) ai⟩
        simp only[fr,aH,ax,h1,aI,cond_true,cond_false];exact .refl
       ·have h:decide (qD v l<=(gp (eL l) (eL l)[i].cut:Int))=false:=by
         simp only[List.length_map]at h;exact h
        refine⟨i+1,⟨ap,fun j ai hf=> ?_⟩,by simp only[];omega,?_⟩
        ·rcases Nat.lt_succ_iff_lt_or_eq.1 hf with hf|rfl
         ·exact bQ j ai hf
         ·exact h
        ·exact⟨⟨.r,.r,.r,.r,.r,.r,aV (bH (by omega)),trivial⟩,⟨.r,.r,trivial⟩,rfl⟩
      all_goals(conv=>whnf)
      all_goals rename_i an
      all_goals have dB:¬i<(eL l).length:=by simpa using an
      all_goals have aI: (eL l).find? (fun b=>decide (qD v l<=(gp (eL l) b.cut:Int)))=none:=List.find?_eq_none.2 (fun b ae=>by
       obtain⟨j,ai,rfl⟩:=List.getElem_of_mem ae;simpa using bQ j ai (by omega))
      all_goals rw[List.length_map]at h
      all_goals simp only[fr,aH,ax,h1,aI,h,cond_true,cond_false]
      ·exact dI ⟨.ar,.r,trivial⟩
      ·exact .refl
theorem aca{a m:Int}(h1:1<=a)(ad:a<=1048575)(aC:1<=m)(bh:m<=1000):sB a m=1024*a+m:=by
 have e: (decide (a<1)||decide (1048575<a)||decide (m<1)||decide (1000<m))=false:=by
  simp only[Bool.or_eq_false_iff,decide_eq_false_iff_not];omega
 simp only[sB,e,cond_false];rw[dC (n:=1024*a) (by omega) (by omega),dC (by omega) (by omega)]
theorem acb{a m:Int}(h:¬(1<=a/\a<=1048575/\1<=m/\m<=1000)):sB a m=0:=by
 have e: (decide (a<1)||decide (1048575<a)||decide (m<1)||decide (1000<m))=true:=by
  simp only[Bool.or_eq_true,decide_eq_true_eq];omega
 simp only[sB,e,cond_true]
theorem acc{r:Int}(h1:1024<r)(ad:r<1073741824)(aC:r%1024<=1000):gC r=r%1024:=by
 have em:r.tmod 1024=r%1024:=Int.tmod_eq_emod_of_nonneg (by omega);have e: (decide (r<=1024)||decide (1073741824<=r)||decide (1000<r.tmod 1024))=false:=by
  rw[em];simp only[Bool.or_eq_false_iff,decide_eq_false_iff_not];omega
 simp only[gC];rw[e,cond_false,em]
theorem acd{r:Int}(h:¬(1024<r/\r<1073741824/\r%1024<=1000)):gC r=0:=by
 have e: (decide (r<=1024)||decide (1073741824<=r)||decide (1000<r.tmod 1024))=true:=by
  simp only[Bool.or_eq_true,decide_eq_true_eq];by_cases au:0<=r
  ·rw[Int.tmod_eq_emod_of_nonneg au];omega
  ·omega
 simp only[gC,e,cond_true]
theorem RE{r:Int}(h:gC r≠0):1024<r:=by
 by_cases h1:1024<r/\r<1073741824/\r%1024<=1000
 ·exact h1.1
 ·exact absurd (acd h1) h
theorem ace{a:iT}{cut:List Int}{N:Nat}(h1:a.cut.length<=N)(ad:cut.length<=N): (l7 a cut).1.cut.length<=N:=by
 unfold l7;cases !jC a<;>simp only[cond_true,cond_false]
 ·cases (!decide (a.cc=0)|| !decide (a.aB= -1)|| !c9 cut 32)<;>simp only[cond_true,cond_false]<;>assumption
 ·simp
theorem Fw{a:iT}{aB:Int}{N:Nat}(h1:a.cut.length<=N): (hq a aB).1.cut.length<=N/\(hq a aB).2.1.cut.length<=N:=by
 unfold hq;cases !jC a<;>simp only[cond_true,cond_false]
 ·cases (!jB aB||decide (aB<a.cc))<;>simp only[cond_true,cond_false]
  ·exact⟨h1,h1⟩
  ·exact⟨h1,by simp⟩
 ·simp
theorem Fx{a:iT}{aB:Int}{cut:List Int}{N:Nat}(h1:a.cut.length<=N)(ad:cut.length<=N): (iy a aB cut).1.cut.length<=N:=by
 unfold iy;cases !jC a<;>simp only[cond_true,cond_false]
 ·cases (!jB aB||decide (aB<a.cc)|| !c9 cut 32||decide (a.aB=aB)&& !fK a.cut cut)<;>simp only[cond_true,cond_false]<;>assumption
 ·simp
theorem tU(a:iT):jC a=true↔ (a.cc=0\/gC a.cc≠0)/\a.aB<=a.cc/\((a.aB= -1/\a.cut=[])\/((a.aB=0\/gC a.aB≠0)/\a.aB≠ -1/\c9 a.cut 32=true)):=by
 simp only[jC,jB];by_cases h1:a.cc=0<;>by_cases ad:gC a.cc=0<;>by_cases aC:a.aB= -1<;>by_cases bh:a.aB=0<;>by_cases bL:gC a.aB=0<;>by_cases c0:a.cc<a.aB<;>simp[*]
 all_goals(try omega)
 all_goals(try(intro;omega))
theorem BW(l:List cb)(af:l.length<=500000)(al:∀r∈l,r.cut.length<=1000000):b0 Tryz.prog 226 [] [.aq 3 (l.map bG) false] [] [.row 179 3 (l.map bG)] (.own 0):=by
 have gx: (l.map bG).length* (ay ah 179).bytes<=140737488355328:=by
  have e: (ay ah 179).bytes=40:=by kernel_rfl
  rw[e];simp;omega
 have p8: (l.map bG).length<=maxLen:=by simp only[maxLen];simp;omega
 refine dw Tryz.func226 ?_;repeat' ((conv=>whnf);first|refine⟨(l.map bG).length,(l.map bG).length,rfl,rfl,Nat.le_refl _,gx,p8,?_⟩|fail)
 all_goals(conv=>whnf)
 have iq: (l.map bG).take (List.replicate (l.map bG).length (ay ah 179).zero).length++(List.replicate (l.map bG).length (ay ah 179).zero).drop (l.map bG).length=l.map bG:=by
  simp only[List.length_replicate,List.drop_of_length_le (Nat.le_of_eq (List.length_replicate ..)),List.append_nil];exact List.take_of_length_le (Nat.le_refl _)
 rw[iq];refine⟨Nat,fun i=>⟨[(3,.own 0),(12,i64 (l.map bG).length),(13,i64 i)],[.row 179 3 (l.map bG)]⟩,fun i=>i<=l.length,fun i=>l.length-i,[],⟨0,Nat.zero_le _,?_⟩,?_⟩
 ·exact⟨⟨.r,.r,.r,trivial⟩,⟨.r,trivial⟩,rfl⟩
 ·intro i ab;repeat' ((conv=>whnf);first| (refine be ?_ ?_<;>intro h)|fail)
  ·have ap:i<l.length:=by simpa using h
   have iw:i<(l.map bG).length:=by simpa using ap
   have ko:=al _ (List.getElem_mem ap);repeat' ((conv=>whnf);first|refine .inl ⟨_,_,aD _,vl _ ko,?_⟩|refine⟨i,And.intro ⟨rfl,iw⟩ ?_⟩|refine⟨bG (l[i]'ap),And.intro (cE ap) ?_⟩|fail)
   all_goals(conv=>whnf)
   refine⟨i+1,ap,by simp only[];omega,?_⟩;refine⟨⟨.r,.r,aV (bH (by omega)),trivial⟩,⟨ch ?_,trivial⟩,rfl⟩;apply List.ext_getElem?;intro j;rw[List.getElem?_set];split
   ·rename_i ai;subst ai;first
     |rw[if_pos iw,cE ap];rfl
     |rw[cE ap];rfl
   ·rfl
  ·have dB:¬i<l.length:=by simpa using h
   repeat' ((conv=>whnf);first|refine bc ?_|fail)
   all_goals(conv=>whnf)
   exact⟨.r,⟨.r,trivial⟩,rfl⟩
theorem RF(l:List cb)(af:l.length<=500000)(al:∀r∈l,r.cut.length<=1000000):bg Tryz.prog 226 [.aq 3 (l.map bG) false] (.aq 3 (l.map bG) false):=
 YW (BW l af al) .refl
def pJ:List cb->Int->Nat
 | [],_=>0
 |r::l,m=>if r.mem<m then pJ l m+1 else 0
theorem acf(l:List cb)(m:Int):pJ l m<=l.length:=by
 induction l with
 |nil=>exact Nat.le_refl _
 |cons r l aN=>simp only[pJ,List.length_cons];split<;>omega
theorem Kh{m:Int}:∀ {l:List cb} {i:Nat} (af:i<l.length),(∀j,(ai:j<i)->(l[j]'(by omega)).mem<m)->¬l[i].mem<m->pJ l m=i
 |r::l,0,af,h,aS=>by simp only[pJ];exact if_neg aS
 |r::l,i+1,af,h,aS=>by
  have aH:r.mem<m:=h 0 (by omega);simp only[pJ,if_pos aH];exact congrArg (· +1) (Kh (l:=l) (by simpa using af) (fun j ai=>h (j+1) (by omega)) aS)
theorem Ki{m:Int}:∀ {l:List cb},(∀j,(ai:j<l.length)->l[j].mem<m)->pJ l m=l.length
 | [],_=>rfl
 |r::l,h=>by
  have aH:r.mem<m:=h 0 (by simp);simp only[pJ,if_pos aH,List.length_cons];exact congrArg (· +1) (Ki (l:=l) fun j ai=>h (j+1) (by simpa using ai))
def j7(l:List cb)(r:cb):List cb:=l.take (pJ l r.mem)++ [r]++l.drop (pJ l r.mem)
def fc(v:aQ)(l:List cb)(r:cb):List cb×Bool:=
 bif !fC v l then([],false)else bif !fC v (j7 l r)then(l,false)else(j7 l r,true)
theorem Kj(l:List cb)(r:cb): (j7 l r).length=l.length+1:=by
 have:=acf l r.mem;simp[j7];omega
theorem BX{l:List cb}{r x:cb}(h:x∈j7 l r):x=r\/x∈l:=by
 simp only[j7,List.mem_append,List.mem_singleton]at h;rcases h with(h|h)|h
 ·exact .inr (List.mem_of_mem_take h)
 ·exact .inl h
 ·exact .inr (List.mem_of_mem_drop h)
theorem Fy{n:Nat}(h:n<=2000000):iJ ah 179 n:=by
 have e: (ay ah 179).bytes=40:=by kernel_rfl
 refine⟨?_,?_⟩
 ·rw[e];omega
 ·simp only[maxLen];omega
theorem acg(v:aQ)(ac:v.mem.length<=400000)(l:List cb)(af:l.length<=400000)(al:∀r∈l,r.cut.length<=400000)(r:cb)(ao:r.cut.length<=400000):
  bg Tryz.prog 195 [.agg (bN v),.aq 3 (l.map bG) false,.agg (bG r)] (.a1 [.aq 3 ((fc v l r).1.map bG) false,.v (.bool (fc v l r).2)]):=by
 have lr:l.length<=maxLen:=Nat.le_trans af (by decide);have Kk:=zm v (Nat.le_trans ac (by omega)) l lr (fun x an=>Nat.le_trans (al x an) (by omega));have dG:=Kj l r;have Kl:=zm v (Nat.le_trans ac (by omega)) (j7 l r) (by simp only[maxLen];omega) (fun x an=>by
  rcases BX an with rfl|an
  ·omega
  ·exact Nat.le_trans (al x an) (by omega))
 have Km:=RF l (by omega) (fun x an=>Nat.le_trans (al x an) (by omega));have Kn:=RF (j7 l r) (by omega) (fun x an=>by
  rcases BX an with rfl|an
  ·omega
  ·exact Nat.le_trans (al x an) (by omega))
 refine bw Tryz.func195 ?_;repeat' ((conv=>whnf);first| (refine be ?_ ?_<;>intro h)|refine .inl ⟨_,_,aD _,Kk,?_⟩|fail)
 all_goals(conv=>whnf)
 ·simp only[fc,h,cond_true];exact dI ⟨.ar,.r,trivial⟩
 ·have aH:=h;clear h;refine⟨Nat,fun i=>⟨[(1,.aq 3 (l.map bG) false),(3,.aP 0 0),(5,.aP 1 0),(8,i64 i)],[.cells 24 (bN v),.cells 179 (bG r)]⟩,fun i=>i<=l.length/\∀j,(ai:j<l.length)->j<i->l[j].mem<r.mem,fun i=>l.length-i,[],⟨0,⟨Nat.zero_le _,fun j _ ai=>by omega⟩,?_⟩,?_⟩
  ·exact⟨by repeat' ((conv=>whnf);first|exact trivial|refine And.intro (by(conv=>arg 1;whnf);first| (with_reducible exact .refl)|exact aV (bH (by omega))|exact .refl) ?_|fail),by repeat' ((conv=>whnf);first|exact trivial|refine And.intro ?_ ?_|exact .refl|fail),rfl⟩
  ·intro i ⟨ab,bQ⟩;have h6:∃x:cb,(i<l.length->(l.map bG)[i]?=some (bG x))/\∀ (dG:i<l.length),x=l[i]:=by
    by_cases dG:i<l.length
    ·exact⟨l[i],fun _=>cE dG,fun _=>rfl⟩
    ·exact⟨r,fun aS=>absurd aS dG,fun aS=>absurd aS dG⟩
   obtain⟨x,zo,py⟩:=h6;repeat' ((conv=>whnf);first|refine bc ?_| (refine be ?_ ?_<;>intro h)|refine And.intro (by kernel_rfl) ?_|refine And.intro ⟨fun h=>h,fun h=>h⟩ ?_|refine⟨i,bG x,And.intro ⟨⟨fun h=>h,fun h=>h⟩,fun ax=>⟨rfl,zo (by simpa using ax)⟩⟩ ?_⟩|fail)
   ·have dG:i<l.length:=by simpa using((Bool.and_eq_true ..).mp h).1
    have ap:l[i].mem<r.mem:=by
     have:=((Bool.and_eq_true ..).mp h).2;rw[py dG]at this;simpa using this
    clear h;repeat' ((conv=>whnf);first|refine bc ?_|fail)
    all_goals(conv=>whnf)
    refine⟨i+1,⟨dG,fun j ai hf=> ?_⟩,by simp only[];omega,?_⟩
    ·rcases Nat.lt_succ_iff_lt_or_eq.mp hf with h1|rfl
     ·exact bQ j ai h1
     ·exact ap
    ·exact⟨⟨.r,.r,.r,aV (bH (by omega)),trivial⟩,⟨.r,.r,trivial⟩,rfl⟩
   ·have aI:pJ l r.mem=i:=by
     rcases Nat.lt_or_ge i l.length with dG|dG
     ·refine Kh dG (fun j ai=>bQ j (by omega) ai) ?_;intro ap;rw[py dG]at h;simp[dG,ap]at h
     ·have:i=l.length:=by omega
      subst this;exact Ki fun j ai=>bQ j ai ai
    clear h;have Ko:b0 Tryz.prog 226 [] [aj.aq 3 (((l.map bG).take i).drop 0) false] [] [aU.row 179 3 ((l.take i).map bG)] (aj.own 0):=by
     have:=BW (l.take i) (by simp;omega) (fun x an=>Nat.le_trans (al x (List.mem_of_mem_take an)) (by omega));rw[<-List.map_take];exact this
    have hlen: (l.take i).length=i:=by simp;omega
    have lr:i<=(l.map bG).length:=by simpa using ab
    repeat' ((conv=>whnf);first|refine And.intro (by kernel_rfl) ?_|refine⟨0,i,And.intro ⟨rfl,⟨_,rfl⟩,Nat.zero_le _,lr⟩ ?_⟩|refine .inr ⟨[],[],_,[],_,_,Ko,by rfl,trivial,⟨.r,trivial⟩,?_⟩|refine And.intro (Fy (by simp<;>omega)) ?_|refine⟨i,And.intro ⟨⟨_,rfl⟩,lr⟩ ?_⟩|refine Exists.intro false ?_|fail)
    have BY:List.map bG (List.take i l)++(List.replicate 1 (ay ah 179).zero).set 0 (cN (.agg [.v (.int .i64 r.mem),.v (.int .i64 r.aB),.aq 1 (List.map aM r.cut) false]))++List.drop i (List.map bG l)=(j7 l r).map bG:=by
     simp[j7,aI,bG,cN]
    refine .inl ⟨[.agg (bN v),.aq 3 ((j7 l r).map bG) false],_,⟨.r,hT BY,trivial⟩,Kl,?_⟩;repeat' ((conv=>whnf);first| (refine be ?_ ?_<;>intro h)|refine .inl ⟨_,_,aD _,Km,?_⟩|refine .inl ⟨[.aq 3 ((j7 l r).map bG) false],_,⟨hT BY,trivial⟩,Kn,?_⟩|fail)
    all_goals(conv=>whnf)
    ·simp only[fc,aH,h,cond_true,cond_false];exact .refl
    ·simp only[fc,aH,h,cond_true,cond_false];exact .refl
def kP(v:aQ)(r:cb):Bool:=bR v.mem r.mem&&
  (decide (r.aB= -1)&&decide ((r.cut.length:Int)=0)|| (decide (r.aB=0)||jB r.aB)&&decide ((eQ v r.cut).2=0))
def dV(l:List cb)(x:Int):Int:=jv (fun i=>decide ((l.getD i cI).mem=x)) l.length
theorem ach{l:List cb}{x:Int}(h:decide (0<=dV l x)=false):∀r∈l,r.mem≠x:=by
 intro r ao e;obtain⟨i,ab,rfl⟩:=List.getElem_of_mem ao;have au:∃n,jv (fun i=>decide ((l.getD i cI).mem=x)) l.length=((n:Nat):Int):=by
  rcases aI: (List.range l.length).find? (fun i=>decide ((l.getD i cI).mem=x))with _|n
  ·have:=List.find?_eq_none.1 aI i (List.mem_range.2 ab);simp[ab,e]at this
  ·exact⟨n,by simp only[jv,aI]⟩
 obtain⟨n,aS⟩:=au;simp only[dV,aS,decide_eq_false_iff_not]at h;omega
theorem aci{l:List cb}{x:Int}(h:decide (0<=dV l x)=true):∃r∈l,r.mem=x:=by
 refine Classical.byContradiction fun aS=> ?_;have bQ:∀j,j<l.length->decide ((l.getD j cI).mem=x)=false:=fun j ai=>by
  simp only[List.getD_eq_getElem?_getD,List.getElem?_eq_getElem ai,Option.getD_some,decide_eq_false_iff_not];exact fun e=>aS ⟨_,List.getElem_mem ai,e⟩
 rw[dV,qo bQ]at h;cases h
def zp(v:aQ)(l:List cb)(i:Nat):Bool:= !(!kP v (l.getD i cI)||decide (0<(i:Int))&&decide ((l.getD i cI).mem<=(l.getD (i-1) cI).mem))
theorem acj{v:aQ}{x:Int}(ac:bX v=true)(h:bR v.mem x=true):1<=x:=by
 have fj:c9 v.mem 16=true:=by
  simp only[bX,Bool.and_eq_true]at ac;exact ac.2
 rw[y7]at fj;simp only[Bool.and_eq_true]at fj;have ao:=E4.1 fj.2;rcases aI: (List.range v.mem.length).find? (fun i=>decide (v.mem[i]?=some x))with _|n
 ·simp only[bR,ks,jv,aI]at h;cases h
 ·have aT:=List.mem_of_find?_eq_some aI;have au:=List.find?_some aI;simp only[decide_eq_true_eq]at au;obtain⟨aS,rfl⟩:=List.getElem?_eq_some_iff.1 au;exact(ao n aS).1
theorem RG{v:aQ}(ac:bX v=true)(l:List cb){i:Nat}(ab:i<l.length):zp v l i=qB v l i:=by
 simp only[zp,qB,kP];cases cw:bR v.mem (l.getD i cI).mem
 ·simp
 ·have au:=acj ac cw;have e: (decide (0<(i:Int))&&decide ((l.getD i cI).mem<=(l.getD (i-1) cI).mem))=decide ((l.getD i cI).mem<=vm l i):=by
   cases i with
   |zero=>simp[vm];simp at au;omega
   |succ j=>
    have ai:j<l.length:=by omega
    simp[vm,ai,ab]
  rw[e];cases decide ((l.getD i cI).mem<=vm l i)<;>simp
theorem qE{v:aQ}(ac:bX v=true){l:List cb}:fC v l=true↔ (∀r∈l,kP v r=true)/\List.Pairwise (fun a b:cb=>a.mem<b.mem) l:=by
 have e:fC v l=gA (zp v l) l.length:=by
  rw[fC,ac,Bool.true_and];cases h:gA (zp v l) l.length
  ·cases ad:gA (qB v l) l.length
   ·rfl
   ·have:=gB.2 (fun i ab=>(RG ac l ab).trans (gB.1 ad i ab));rw[h]at this;cases this
  ·exact gB.2 (fun i ab=>(RG ac l ab).symm.trans (gB.1 h i ab))
 rw[e,gB];have bY:∀i (ab:i<l.length),zp v l i=true↔kP v l[i]=true/\(0<i->(l.getD (i-1) cI).mem<l[i].mem):=by
  intro i ab;have ax:l.getD i cI=l[i]:=by simp[ab]
  simp only[zp,ax,Bool.not_eq_true',Bool.or_eq_false_iff,Bool.not_eq_false',Bool.and_eq_false_iff,decide_eq_false_iff_not];constructor
  ·rintro⟨h1,ad⟩;refine⟨h1,fun aH=> ?_⟩;rcases ad with ad|ad
   ·omega
   ·omega
  ·rintro⟨h1,ad⟩;refine⟨h1,?_⟩;by_cases aH:0<i
   ·have:=ad aH;right;omega
   ·left;omega
 constructor
 ·intro h;have h1:∀i (ab:i<l.length),kP v l[i]=true/\(0<i->(l.getD (i-1) cI).mem<l[i].mem):=fun i ab=>(bY i ab).1 (h i ab);refine⟨fun r ao=> ?_,?_⟩
  ·obtain⟨i,ab,rfl⟩:=List.getElem_of_mem ao;exact(h1 i ab).1
  ·rw[List.pairwise_iff_getElem];intro i j ab ai dS;obtain⟨d,rfl⟩:∃d,j=i+1+d:=⟨j- (i+1),by omega⟩
   clear dS;induction d with
   |zero=>
    have:=(h1 (i+1) ai).2 (by omega);simpa[ab]using this
   |succ d aN=>
    have oF:i+1+d<l.length:=by omega
    have cx:=aN oF;have cM:=(h1 (i+1+(d+1)) ai).2 (by omega);have aG:l.getD (i+1+(d+1)-1) cI=l[i+1+d]:=by
     have:i+1+(d+1)-1=i+1+d:=by omega
     rw[this];simp[oF]
    rw[aG]at cM;omega
 ·rintro⟨h1,ad⟩ i ab;refine(bY i ab).2 ⟨h1 _ (List.getElem_mem ab),fun aH=> ?_⟩;have gX:i-1<l.length:=by omega
  have:=List.pairwise_iff_getElem.1 ad (i-1) i gX ab (by omega);simpa[gX]using this
theorem ack(l:List cb)(i:Nat):fb l (i+1)=bif decide ((l.getD (fb l i) cI).aB<(l.getD i cI).aB)then i else fb l i:=rfl
theorem RH(l:List cb)(p:cv->Bool): (eL l).find? p=(l.find? fun r=>decide (r.aB=0)&&p ⟨r.mem,r.cut⟩).map fun r=>⟨r.mem,r.cut⟩:=by
 induction l with
 |nil=>rfl
 |cons y l aN=>
  by_cases bt:y.aB=0
  ·have e:eL (y::l)= ⟨y.mem,y.cut⟩::eL l:=by simp[eL,bt]
   rw[e,List.find?_cons,List.find?_cons,aN];cases au:p ⟨y.mem,y.cut⟩<;>simp[bt]
  ·have e:eL (y::l)=eL l:=by simp[eL,bt]
   rw[e,List.find?_cons,aN];simp[bt]
def ry(v:aQ)(l:List cb)(r:cb):Bool:=decide (r.aB=0)&&decide (qD v l<=(gp (eL l) r.cut:Int))
theorem RI{v:aQ}{l:List cb}{own:List Int}(aH:ob v l own=false)(h1:decide (0<(l.getD (fb l l.length) cI).aB)=false){i:Nat}(ab:i<l.length)(h:ry v l l[i]=true)(bQ:∀j (ai:j<l.length),j<i->ry v l l[j]=false):fr v l own=(l[i].cut,true):=by
 have aI: (l.find? fun r=>decide (r.aB=0)&&decide (qD v l<=(gp (eL l) r.cut:Int)))=some l[i]:=
  List.find?_eq_some_iff_getElem.2 ⟨h,i,ab,rfl,fun j ai=>by
   have:=bQ j (by omega) ai;simp only[ry]at this;rw[this];rfl⟩
 simp only[fr,aH,h1,cond_false,RH,aI,Option.map_some]
theorem acl{v:aQ}{l:List cb}{own:List Int}(aH:ob v l own=false)(h1:decide (0<(l.getD (fb l l.length) cI).aB)=false)(bQ:∀j (ai:j<l.length),ry v l l[j]=false):fr v l own=(own,decide (0<(own.length:Int))):=by
 have aI: (l.find? fun r=>decide (r.aB=0)&&decide (qD v l<=(gp (eL l) r.cut:Int)))=none:=
  List.find?_eq_none.2 fun r ao=>by
   obtain⟨j,ai,rfl⟩:=List.getElem_of_mem ao;have:=bQ j ai;simp only[ry]at this;simp[this]
 simp only[fr,aH,h1,cond_false,RH,aI,Option.map_none];cases own with
 |nil=>rfl
 |cons x l=>
  have az:decide (((x::l).length:Int)=0)=false:=decide_eq_false (by simp only[List.length_cons];omega);have aG:decide (0<((x::l).length:Int))=true:=decide_eq_true (by simp only[List.length_cons];omega);rw[az,aG];rfl
theorem RJ{v:aQ}{l:List cb}{own:List Int}(aH:ob v l own=false)(h1:decide (0<(l.getD (fb l l.length) cI).aB)=true):fr v l own=((l.getD (fb l l.length) cI).cut,true):=by
 simp only[fr,aH,h1,cond_false,cond_true]
structure bj where
 self:Int
 view:aQ
 aL:iT
 prop:List Int
 box:List cv
 aB:Int
 phase:Int
 br:List cb
 ct:List Int
 aR:List cb
 dec:List Int
 dn:Int
structure dx where
 kind:Int
 view:Int
 src:Int
 aB:Int
 cq:Int
 cut:List Int
structure dy where
 cZ:Int
 m:dx
def cG(s:bj):List aj:=[i64 s.self,i64 s.view.num,.aq 1 (s.view.mem.map aM) false,i64 s.aL.cc,i64 s.aL.aB,.aq 1 (s.aL.cut.map aM) false,.aq 1 (s.prop.map aM) false,.aq 2 (s.box.map dh) false,i64 s.aB,i64 s.phase,.aq 3 (s.br.map bG) false,.aq 1 (s.ct.map aM) false,.aq 3 (s.aR.map bG) false,.aq 1 (s.dec.map aM) false,i64 s.dn]
def m4(m:dx):List aj:=[i64 m.kind,i64 m.view,i64 m.src,i64 m.aB,i64 m.cq,.aq 1 (m.cut.map aM) false]
def ei(p:dy):List aj:=[i64 p.cZ,i64 p.m.kind,i64 p.m.view,i64 p.m.src,i64 p.m.aB,i64 p.m.cq,.aq 1 (p.m.cut.map aM) false]
def eM(v:aQ)(c:List Int):Bool:=decide ((eQ v c).2=0)
def ev(v:aQ)(r:Int):Bool:= !decide (gC r=0)&&bR v.mem (gC r)
def gO(v:aQ)(c:List Int):Bool:=decide ((c.length:Int)=0)||eM v c
theorem BZ(v:aQ)(ac:v.mem.length<=maxLen)(r:Int):bg Tryz.prog 112 [.agg (bN v),i64 r] (.v (.bool (ev v r))):=by
 refine bw Tryz.func112 ?_;repeat' ((conv=>whnf);first|refine bc ?_|exact .refl|refine And.intro ⟨fun h=>h,fun h=>h⟩ ?_|refine .inl ⟨_,_,aD _,Ft _,?_⟩|refine⟨_,_,aD _,fun _=>hp _ ac _,?_⟩|fail)
theorem Kp(v:aQ)(ac:v.mem.length<=500000)(cut:List Int)(al:cut.length<=500000):bg Tryz.prog 163 [.agg (bN v),.aq 1 (cut.map aM) false] (.v (.bool (eM v cut))):=by
 refine bw Tryz.func163 ?_;repeat' ((conv=>whnf);first|exact .refl|refine .inl ⟨_,_,aD _,y6 _ ac _ al,?_⟩|fail)
theorem RK(v:aQ)(ac:v.mem.length<=500000)(cut:List Int)(al:cut.length<=500000):bg Tryz.prog 179 [.agg (bN v),.aq 1 (cut.map aM) false] (.v (.bool (eM v cut))):=by
 refine bw Tryz.func179 ?_;repeat' ((conv=>whnf);first|exact .refl|refine .inl ⟨_,_,aD _,y6 _ ac _ al,?_⟩|fail)
theorem Fz(v:aQ)(ac:v.mem.length<=500000)(cut:List Int)(al:cut.length<=500000):bg Tryz.prog 113 [.agg (bN v),.aq 1 (cut.map aM) false] (.v (.bool (gO v cut))):=by
 have e:gO v cut=(decide (((cut.map aM).length:Int)=0)||eM v cut):=by rw[List.length_map];rfl
 rw[e];refine bw Tryz.func113 ?_;repeat' ((conv=>whnf);first|refine bc ?_|exact .refl|refine And.intro ⟨fun h=>h,fun h=>h⟩ ?_|refine⟨_,_,aD _,fun _=>Kp _ ac _ al,?_⟩|fail)
theorem nF(l:List Int)(af:l.length<=1000000):bg Tryz.prog 125 [.aq 1 (l.map aM) false] (.aq 1 (l.map aM) false):=by
 have gx: (l.map aM).length* (ay ah 3).bytes<=140737488355328:=by
  have e: (ay ah 3).bytes=8:=by kernel_rfl
  rw[e];simp;omega
 have p8: (l.map aM).length<=maxLen:=by simp only[maxLen];simp;omega
 refine bw Tryz.func125 ?_;repeat' ((conv=>whnf);first|refine⟨(l.map aM).length,(l.map aM).length,rfl,rfl,Nat.le_refl _,gx,p8,?_⟩|fail)
 all_goals(conv=>whnf)
 refine hT ?_;simp;exact List.take_of_length_le (by simp)
def eR:bj:=⟨0,⟨0,[]⟩,⟨0,0,[]⟩,[],[],0,0,[],[],[],[],0⟩
def jd(v:aQ)(self:Int):bj×Int:=bif !bX v|| !bR v.mem self then(eR,1)else(⟨self,v,⟨0,-1,[]⟩,[],[],0,0,[],[],[],[],0⟩,0)
theorem B0(v:aQ)(ac:v.mem.length<=500000)(self:Int):bg Tryz.prog 70 [.agg (bN v),i64 self] (.a1 [.agg (cG (jd v self).1),i64 (jd v self).2]):=by
 have h1:v.mem.length<=maxLen:=Nat.le_trans ac (by decide);refine bw Tryz.func70 ?_;repeat' ((conv=>whnf);first|refine bc ?_| (refine be ?_ ?_<;>intro h)|refine And.intro (by kernel_rfl) ?_|refine And.intro ⟨fun h=>h,fun h=>h⟩ ?_|refine .inl ⟨_,_,aD _,n3 _ h1,?_⟩|refine⟨_,_,aD _,fun _=>hp _ h1 _,?_⟩|refine .inl ⟨_,_,aD _,nF _ (by omega),?_⟩|refine .inl ⟨_,_,aD _,ab1,?_⟩|fail)
 all_goals(conv=>whnf)
 all_goals simp only[jd,h,cond_true,cond_false]
 ·exact dI ⟨gM ⟨.r,.r,.ar,.r,.r,.ar,.ar,.ar,.r,.r,.ar,.ar,.ar,.ar,.r,trivial⟩,.r,trivial⟩
 ·exact dI ⟨gM ⟨.r,.r,.r,.r,.r,.r,.ar,.ar,.r,.r,.ar,.ar,.ar,.ar,.r,trivial⟩,.r,trivial⟩
def eX(v:aQ)(m:dx):Bool:=
 bif !bX v|| !bR v.mem m.src|| !decide (m.view=v.num)then false
 else bif decide (m.kind=1)||decide (m.kind=6)then decide (m.aB=0)&&decide (m.cq=0)&&eM v m.cut
 else bif decide (m.kind=2)then ev v m.aB&&decide (gC m.aB=m.src)&&decide (m.cq=0)&&decide ((m.cut.length:Int)=0)
 else bif decide (m.kind=3)then ev v m.aB&& !decide (m.aB<m.cq)&& (decide (m.cq= -1)&&decide ((m.cut.length:Int)=0)|| (decide (m.cq=0)||ev v m.cq)&&eM v m.cut)
 else bif decide (m.kind=4)then ev v m.aB&&decide (gC m.aB=m.src)&&decide (m.cq=0)&&eM v m.cut
 else bif decide (m.kind=5)then ev v m.aB&&decide (m.cq=0)&&eM v m.cut
 else false
theorem vn(v:aQ)(ac:v.mem.length<=500000)(m:dx)(al:m.cut.length<=500000):bg Tryz.prog 146 [.agg (bN v),.agg (m4 m)] (.v (.bool (eX v m))):=by
 have h1:v.mem.length<=maxLen:=Nat.le_trans ac (by decide);have iq: ((m.cut.map aM).length:Int)=(m.cut.length:Int):=by rw[List.length_map]
 refine bw Tryz.func146 ?_;repeat' ((conv=>whnf);first|refine bc ?_|refine eC (by assumption) ?_| (refine be ?_ ?_<;>intro h)|refine And.intro (by kernel_rfl) ?_|refine And.intro ⟨fun h=>h,fun h=>h⟩ ?_|refine .inl ⟨_,_,aD _,n3 _ h1,?_⟩|refine⟨_,_,aD _,fun _=>hp _ h1 _,?_⟩|refine⟨_,_,aD _,fun _=>Kp _ ac _ al,?_⟩|refine .inl ⟨_,_,aD _,BZ _ h1 _,?_⟩|refine⟨_,_,aD _,fun _=>BZ _ h1 _,?_⟩|refine⟨_,_,aD _,fun _=>Ft _,?_⟩|fail)
 all_goals(conv=>whnf)
 all_goals(refine eK ?_)
 all_goals(try rw[iq])
 all_goals(try rw[iq]at *)
 all_goals(simp only[eX, *,cond_true,cond_false,Bool.true_or,Bool.or_true,Bool.or_self,Bool.false_or])
 ·have hn: (ev v m.aB&& !decide (m.aB<m.cq))=false:=by
   cases au:ev v m.aB<;>cases aa:decide (m.aB<m.cq)<;>simp_all
  rw[hn,Bool.false_and]
 ·have hn: (ev v m.aB&& !decide (m.aB<m.cq))=true:=by
   cases au:ev v m.aB<;>cases aa:decide (m.aB<m.cq)<;>simp_all
  rw[hn,Bool.true_and]
def gP:cv:=⟨0,[]⟩
def xd(v:aQ)(l:List cv)(i:Nat):Bool:= !(!bR v.mem (l.getD i gP).mem||decide (0<(i:Int))&&decide ((l.getD i gP).mem<=(l.getD (i-1) gP).mem)|| !eM v (l.getD i gP).cut)
def fD(v:aQ)(l:List cv):Bool:=bX v&&gA (xd v l) l.length
theorem rz{v:aQ}(ac:bX v=true){l:List cv}:fD v l=true↔ (∀b∈l,bR v.mem b.mem=true/\eM v b.cut=true)/\List.Pairwise (fun a b:cv=>a.mem<b.mem) l:=by
 rw[fD,ac,Bool.true_and,gB];have bY:∀i (ab:i<l.length),xd v l i=true↔ (bR v.mem l[i].mem=true/\eM v l[i].cut=true)/\(0<i->(l.getD (i-1) gP).mem<l[i].mem):=by
  intro i ab;have ax:l.getD i gP=l[i]:=by simp[ab]
  simp only[xd,ax,Bool.not_eq_true',Bool.or_eq_false_iff,Bool.not_eq_false',Bool.and_eq_false_iff,decide_eq_false_iff_not];constructor
  ·rintro⟨⟨h1,ad⟩,aC⟩;refine⟨⟨h1,aC⟩,fun aH=> ?_⟩;rcases ad with ad|ad<;>omega
  ·rintro⟨⟨h1,aC⟩,ad⟩;refine⟨⟨h1,?_⟩,aC⟩;by_cases aH:0<i
   ·have:=ad aH;right;omega
   ·left;omega
 constructor
 ·intro h;have h1:∀i (ab:i<l.length),(bR v.mem l[i].mem=true/\eM v l[i].cut=true)/\(0<i->(l.getD (i-1) gP).mem<l[i].mem):=fun i ab=>(bY i ab).1 (h i ab);refine⟨fun r ao=> ?_,?_⟩
  ·obtain⟨i,ab,rfl⟩:=List.getElem_of_mem ao;exact(h1 i ab).1
  ·rw[List.pairwise_iff_getElem];intro i j ab ai dS;obtain⟨d,rfl⟩:∃d,j=i+1+d:=⟨j- (i+1),by omega⟩
   clear dS;induction d with
   |zero=>
    have:=(h1 (i+1) ai).2 (by omega);simpa[ab]using this
   |succ d aN=>
    have oF:i+1+d<l.length:=by omega
    have cx:=aN oF;have cM:=(h1 (i+1+(d+1)) ai).2 (by omega);have aG:l.getD (i+1+(d+1)-1) gP=l[i+1+d]:=by
     have:i+1+(d+1)-1=i+1+d:=by omega
     rw[this];simp[oF]
    rw[aG]at cM;omega
 ·rintro⟨h1,ad⟩ i ab;refine(bY i ab).2 ⟨h1 _ (List.getElem_mem ab),fun aH=> ?_⟩;have gX:i-1<l.length:=by omega
  have:=List.pairwise_iff_getElem.1 ad (i-1) i gX ab (by omega);simpa[gX]using this
def eN:List cv->Int->Nat
 | [],_=>0
 |r::l,m=>if r.mem<m then eN l m+1 else 0
def hr(l:List cv)(r:cv):List cv:=l.take (eN l r.mem)++ [r]++l.drop (eN l r.mem)
def iz(l:List cv)(x:Int):Int:=jv (fun i=>decide ((l.getD i gP).mem=x)) l.length
theorem FA(l:List cv)(m:Int):eN l m<=l.length:=by
 induction l with
 |nil=>exact Nat.le_refl _
 |cons r l aN=>simp only[eN,List.length_cons];split<;>omega
theorem RL{m:Int}:∀ {l:List cv} {i:Nat},i<eN l m->(af:i<l.length)->l[i].mem<m
 |r::l,i,h,af=>by
  simp only[eN]at h;split at h
  ·rename_i ao;cases i with
   |zero=>exact ao
   |succ i=>exact RL (l:=l) (by omega) (by simpa using af)
  ·omega
theorem RM(l:List cv)(r:cv): (hr l r).length=l.length+1:=by
 have:=FA l r.mem;simp[hr];omega
theorem vo{l:List cv}{r x:cv}(h:x∈hr l r):x=r\/x∈l:=by
 simp only[hr,List.mem_append,List.mem_singleton]at h;rcases h with(h|h)|h
 ·exact .inr (List.mem_of_mem_take h)
 ·exact .inl h
 ·exact .inr (List.mem_of_mem_drop h)
def mz(l:List cv)(r:cv)(i:Nat):List cv:=bif decide (eN l r.mem<i)then l.take (eN l r.mem)++ [r]++(l.take i).drop (eN l r.mem)else l.take i
theorem acm(l:List cv)(r:cv)(i:Nat): (mz l r i).length<=i+1:=by
 have:=FA l r.mem;unfold mz;cases h:decide (eN l r.mem<i)<;>simp at h<;>simp<;>omega
theorem RN{m:Int}:∀ {l:List cv} (h:eN l m<l.length),m<=l[eN l m].mem
 |r::l,h=>by
  by_cases ao:r.mem<m
  ·have e:eN (r::l) m=eN l m+1:=by simp[eN,ao]
   have ad:eN l m<l.length:=by rw[e]at h;simpa using h
   have:=RN ad;simp only[e];simpa using this
  ·have e:eN (r::l) m=0:=by simp[eN,ao]
   simp only[e];simpa using ao
theorem acn{l:List cv}{r:cv}{i:Nat}(ab:i<l.length)(h: (!decide (eN l r.mem<i)&&decide (r.mem<=l[i].mem))=true):eN l r.mem=i:=by
 simp only[Bool.and_eq_true,Bool.not_eq_true',decide_eq_false_iff_not,decide_eq_true_eq]at h;rcases Nat.lt_or_ge i (eN l r.mem)with h1|h1
 ·have:=RL h1 ab;omega
 ·omega
theorem aco{l:List cv}{r:cv}{i:Nat}(ab:i<l.length)(h: (!decide (eN l r.mem<i)&&decide (r.mem<=l[i].mem))=false):eN l r.mem≠i:=by
 intro e;have h1:=RN (l:=l) (m:=r.mem) (by omega);simp only[Bool.and_eq_false_iff,Bool.not_eq_false',decide_eq_false_iff_not,decide_eq_true_eq]at h;rcases h with h|h
 ·omega
 ·subst e;exact h h1
theorem acp{l:List cv}{r:cv}{i:Nat}(ab:i<l.length)(h:eN l r.mem=i):mz l r i++ [r]++ [l[i]]=mz l r (i+1):=by
 have az:decide (eN l r.mem<i)=false:=by simp;omega
 have aG:decide (eN l r.mem<i+1)=true:=by simp;omega
 simp only[mz,az,aG,cond_true,cond_false,h];rw[List.take_succ_eq_append_getElem ab,List.drop_append_of_le_length (by simp;omega)];simp
theorem acq{l:List cv}{r:cv}{i:Nat}(ab:i<l.length)(h:eN l r.mem≠i):mz l r i++ [l[i]]=mz l r (i+1):=by
 rcases Nat.lt_or_ge (eN l r.mem) i with h1|h1
 ·have az:decide (eN l r.mem<i)=true:=by simp;omega
  have aG:decide (eN l r.mem<i+1)=true:=by simp;omega
  simp only[mz,az,aG,cond_true];rw[List.take_succ_eq_append_getElem ab,List.drop_append_of_le_length (by simp;omega)];simp
 ·have az:decide (eN l r.mem<i)=false:=by simp;omega
  have aG:decide (eN l r.mem<i+1)=false:=by simp;omega
  simp only[mz,az,aG,cond_false];rw[List.take_succ_eq_append_getElem ab]
theorem acr{l:List cv}{r:cv}(h:decide (eN l r.mem<l.length)=true):mz l r l.length=hr l r:=by
 simp only[mz,h,cond_true,hr,List.take_length]
theorem acs{l:List cv}{r:cv}(h:decide (eN l r.mem<l.length)=false):mz l r l.length++ [r]=hr l r:=by
 have:=FA l r.mem;have e:eN l r.mem=l.length:=by simp at h;omega
 simp only[mz,h,cond_false,hr];simp[e]
theorem acu{l:List cv}{r:cv}{i:Nat}(h:eN l r.mem≠i):decide (eN l r.mem<i)=decide (eN l r.mem<i+1):=by
 by_cases h1:eN l r.mem<i
 ·have ad:eN l r.mem<i+1:=by omega
  simp[h1,ad]
 ·have ad:¬eN l r.mem<i+1:=by omega
  simp[h1,ad]
theorem acv{l:List cv}{r:cv}(au:List.Pairwise (fun a b:cv=>a.mem<b.mem) l):List.Pairwise (fun a b:cv=>a.mem<b.mem) (hr l r)↔∀x∈l,x.mem≠r.mem:=by
 induction l with
 |nil=>simp[hr]
 |cons y l aN=>
  rw[List.pairwise_cons]at au;by_cases bt:y.mem<r.mem
  ·have e:hr (y::l) r=y::hr l r:=by simp[hr,eN,bt]
   have aT:∀z,z∈hr l r↔z=r\/z∈l:=fun z=>by
    constructor
    ·exact vo
    ·intro h;simp only[hr,List.mem_append,List.mem_singleton];rcases h with rfl|h
     ·exact .inl (.inr rfl)
     ·rw[<-List.take_append_drop (eN l r.mem) l,List.mem_append]at h;rcases h with h|h
      ·exact .inl (.inl h)
      ·exact .inr h
   rw[e,List.pairwise_cons,aN au.2];constructor
   ·rintro⟨h1,ad⟩ x an;rcases List.mem_cons.1 an with rfl|an
    ·omega
    ·exact ad x an
   ·intro h;refine⟨fun z bE=> ?_,fun x an=>h x (List.mem_cons_of_mem _ an)⟩;rcases(aT z).1 bE with rfl|bE
    ·exact bt
    ·exact au.1 z bE
  ·have e:hr (y::l) r=r::y::l:=by simp[hr,eN,bt]
   rw[e,List.pairwise_cons];constructor
   ·rintro⟨h1,ad⟩ x an he;have:=h1 x an;omega
   ·intro h;refine⟨fun z bE=> ?_,List.pairwise_cons.2 au⟩;have aH:=h y (by simp);rcases List.mem_cons.1 bE with rfl|bE
    ·omega
    ·have:=au.1 z bE;omega
theorem Kq{l:List cv}{x:Int}(h:decide (0<=iz l x)=false):∀r∈l,r.mem≠x:=by
 intro r ao e;obtain⟨i,ab,rfl⟩:=List.getElem_of_mem ao;have au:∃n,jv (fun i=>decide ((l.getD i gP).mem=x)) l.length=((n:Nat):Int):=by
  rcases aI: (List.range l.length).find? (fun i=>decide ((l.getD i gP).mem=x))with _|n
  ·have:=List.find?_eq_none.1 aI i (List.mem_range.2 ab);simp[ab,e]at this
  ·exact⟨n,by simp only[jv,aI]⟩
 obtain⟨n,aS⟩:=au;simp only[iz,aS,decide_eq_false_iff_not]at h;omega
theorem RO{l:List cv}{x:Int}(h:decide (0<=iz l x)=true):∃r∈l,r.mem=x:=by
 refine Classical.byContradiction fun aS=> ?_;have bQ:∀j,j<l.length->decide ((l.getD j gP).mem=x)=false:=fun j ai=>by
  simp only[List.getD_eq_getElem?_getD,List.getElem?_eq_getElem ai,Option.getD_some,decide_eq_false_iff_not];exact fun e=>aS ⟨_,List.getElem_mem ai,e⟩
 rw[iz,qo bQ]at h;cases h
def gQ(v:aQ)(l:List cv)(b:cv):List cv×Int:=
 bif !fD v l|| !eM v b.cut then([],1)
 else bif !bR v.mem b.mem then([],6)
 else bif decide (0<=iz l b.mem)then([],7)
 else(hr l b,0)
def iA(v:aQ)(l:List cv):List Int×Bool:=
 bif !fD v l then([],false)
 else match l.find? (fun b=>decide (oV v.mem.length<=(gp l b.cut:Int)))with
  |some b=>(b.cut,true)
  |none=>([],false)
end Go.Proofs.YtdcfooeoaoahjaaGreat
