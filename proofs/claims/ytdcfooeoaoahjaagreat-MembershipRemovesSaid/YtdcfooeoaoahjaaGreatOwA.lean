/- The laws of this seat, part OwA: contracts of the functions, plain laws. No conditions. -/
import Derived.Test.YtdcfooeoaoahjaaGreatRows
import Derived.Test.YtdcfooeoaoahjaaGreatLfC
import Derived.Shelf.SlLaysF
import Derived.Shelf.Lays
import Derived.Shelf.Lays2
import Derived.Test.YtdcfooeoaoahjaaGreatProg
set_option linter.unusedSimpArgs false
set_option linter.unusedVariables false
set_option maxRecDepth 100000
set_option maxHeartbeats 16000000
namespace Go.Proofs.YtdcfooeoaoahjaaGreat
open Go.Lift
def ag:dH:=[(2,⟨1,8,false,[.v (.int .i64 0)],.int .i64⟩),
 (3,⟨1,8,false,[.v (.int .i64 0)],.int .i64⟩),
 (4,⟨1,1,false,[.v (.bool false)],.bool⟩),
 (5,⟨1,1,false,[.v (.int .u8 0)],.int .u8⟩),
 (9,⟨1,16,false,[.v (.string ⟨#[]⟩)],.str⟩),
 (21,⟨1,4,false,[.v (.int .i32 0)],.int .i32⟩),
 (22,⟨1,24,false,[.av],.fc 3⟩),
 (23,⟨2,32,true,[.v (.int .i64 0),.av],.b7 [(3,0),(22,1)]⟩),
 (24,⟨2,32,true,[.v (.int .i64 0),.av],.b7 [(3,0),(22,1)]⟩),
 (25,⟨1,24,false,[.av],.fc 36⟩),
 (28,⟨1,24,false,[.av],.fc 55⟩),
 (29,⟨1,24,false,[.av],.fc 4⟩),
 (30,⟨1,24,false,[.av],.fc 82⟩),
 (31,⟨3,72,true,[.av,.av,.av],.b7 [(28,0),(29,1),(30,2)]⟩),
 (32,⟨3,72,true,[.av,.av,.av],.b7 [(28,0),(29,1),(30,2)]⟩),
 (34,⟨1,8,false,[.v (.int .u64 0)],.int .u64⟩),
 (35,⟨4,16,true,[.v (.int .u8 0),.v (.int .u8 0),.v (.int .u8 0),.v (.int .u64 0)],.b7 [(5,0),(5,1),(5,2),(34,3)]⟩),
 (36,⟨4,16,true,[.v (.int .u8 0),.v (.int .u8 0),.v (.int .u8 0),.v (.int .u64 0)],.b7 [(5,0),(5,1),(5,2),(34,3)]⟩),
 (40,⟨1,8,false,[.v (.int .u64 0)],.int .u64⟩),
 (42,⟨1,24,false,[.av],.fc 22⟩),
 (43,⟨1,24,false,[.av],.fc 96⟩),
 (44,⟨4,64,true,[.v (.int .i64 0),.v (.int .i64 0),.av,.av],.b7 [(3,0),(24,1),(43,3)]⟩),
 (45,⟨4,64,true,[.v (.int .i64 0),.v (.int .i64 0),.av,.av],.b7 [(3,0),(24,1),(43,3)]⟩),
 (46,⟨1,24,false,[.av],.fc 147⟩),
 (47,⟨1,24,false,[.av],.fc 150⟩),
 (48,⟨3,40,true,[.v (.int .i64 0),.v (.int .i64 0),.av],.b7 [(3,0),(3,1),(22,2)]⟩),
 (49,⟨3,40,true,[.v (.int .i64 0),.v (.int .i64 0),.av],.b7 [(3,0),(3,1),(22,2)]⟩),
 (50,⟨1,24,false,[.av],.fc 201⟩),
 (51,⟨1,24,false,[.av],.fc 179⟩),
 (52,⟨15,248,true,[.v (.int .i64 0),.v (.int .i64 0),.av,.v (.int .i64 0),.v (.int .i64 0),.av,.av,.av,.v (.int .i64 0),.v (.int .i64 0),.av,.av,.av,.av,.v (.int .i64 0)],.b7 [(3,0),(24,1),(49,3),(22,6),(50,7),(3,8),(3,9),(51,10),(22,11),(51,12),(22,13),(3,14)]⟩),
 (53,⟨15,248,true,[.v (.int .i64 0),.v (.int .i64 0),.av,.v (.int .i64 0),.v (.int .i64 0),.av,.av,.av,.v (.int .i64 0),.v (.int .i64 0),.av,.av,.av,.av,.v (.int .i64 0)],.b7 [(3,0),(24,1),(49,3),(22,6),(50,7),(3,8),(3,9),(51,10),(22,11),(51,12),(22,13),(3,14)]⟩),
 (54,⟨29,488,true,[.v (.int .i64 0),.v (.int .i64 0),.av,.v (.int .i64 0),.av,.av,.v (.int .i64 0),.av,.v (.int .i64 0),.v (.int .i64 0),.av,.av,.av,.av,.v (.int .i64 0),.v (.int .i64 0),.av,.v (.int .i64 0),.v (.int .i64 0),.av,.av,.av,.v (.int .i64 0),.v (.int .i64 0),.av,.av,.av,.av,.v (.int .i64 0)],.b7 [(3,0),(3,1),(22,2),(24,3),(42,5),(24,6),(45,8),(46,12),(47,13),(53,14)]⟩),
 (55,⟨29,488,true,[.v (.int .i64 0),.v (.int .i64 0),.av,.v (.int .i64 0),.av,.av,.v (.int .i64 0),.av,.v (.int .i64 0),.v (.int .i64 0),.av,.av,.av,.av,.v (.int .i64 0),.v (.int .i64 0),.av,.v (.int .i64 0),.v (.int .i64 0),.av,.av,.av,.v (.int .i64 0),.v (.int .i64 0),.av,.av,.av,.av,.v (.int .i64 0)],.b7 [(3,0),(3,1),(22,2),(24,3),(42,5),(24,6),(45,8),(46,12),(47,13),(53,14)]⟩),
 (57,⟨1,8,false,[.v (.int .u64 0)],.int .u64⟩),
 (63,⟨1,2,false,[.v (.int .u16 0)],.int .u16⟩),
 (65,⟨1,8,false,[.v (.int .i64 0)],.int .i64⟩),
 (69,⟨1,24,false,[.av],.fc 5⟩),
 (71,⟨1,24,false,[.av],.fc 121⟩),
 (76,⟨1,24,false,[.av],.fc 24⟩),
 (81,⟨3,40,true,[.v (.int .i64 0),.v (.int .i64 0),.av],.b7 [(3,0),(3,1),(69,2)]⟩),
 (82,⟨3,40,true,[.v (.int .i64 0),.v (.int .i64 0),.av],.b7 [(3,0),(3,1),(69,2)]⟩),
 (92,⟨1,4,false,[.v (.int .u32 0)],.int .u32⟩),
 (93,⟨2,16,true,[.v (.int .u32 0),.v (.int .i64 0)],.b7 [(92,0),(3,1)]⟩),
 (94,⟨2,16,true,[.v (.int .u32 0),.v (.int .i64 0)],.b7 [(92,0),(3,1)]⟩),
 (95,⟨6,40,true,[.v (.int .i64 0),.v (.int .i64 0),.v (.bool false),.v (.bool false),.v (.int .u32 0),.v (.int .i64 0)],.b7 [(3,0),(3,1),(4,2),(4,3),(94,4)]⟩),
 (96,⟨6,40,true,[.v (.int .i64 0),.v (.int .i64 0),.v (.bool false),.v (.bool false),.v (.int .u32 0),.v (.int .i64 0)],.b7 [(3,0),(3,1),(4,2),(4,3),(94,4)]⟩),
 (107,⟨6,64,true,[.v (.int .i64 0),.v (.int .i64 0),.v (.int .i64 0),.v (.int .i64 0),.v (.int .i64 0),.av],.b7 [(3,0),(3,1),(3,2),(3,3),(3,4),(22,5)]⟩),
 (108,⟨6,64,true,[.v (.int .i64 0),.v (.int .i64 0),.v (.int .i64 0),.v (.int .i64 0),.v (.int .i64 0),.av],.b7 [(3,0),(3,1),(3,2),(3,3),(3,4),(22,5)]⟩),
 (109,⟨12,160,true,[.v (.int .i64 0),.v (.int .i64 0),.av,.v (.int .i64 0),.v (.int .i64 0),.v (.int .i64 0),.v (.int .i64 0),.v (.int .i64 0),.av,.v (.int .i64 0),.av,.av],.b7 [(3,0),(3,1),(46,2),(108,3),(24,9),(42,11)]⟩),
 (110,⟨12,160,true,[.v (.int .i64 0),.v (.int .i64 0),.av,.v (.int .i64 0),.v (.int .i64 0),.v (.int .i64 0),.v (.int .i64 0),.v (.int .i64 0),.av,.v (.int .i64 0),.av,.av],.b7 [(3,0),(3,1),(46,2),(108,3),(24,9),(42,11)]⟩),
 (113,⟨1,8,false,[.v (.pointer none)],.gu⟩),
 (115,⟨30,512,true,[.v (.int .i64 0),.v (.int .i64 0),.av,.v (.int .i64 0),.av,.av,.v (.int .i64 0),.av,.v (.int .i64 0),.v (.int .i64 0),.av,.av,.av,.av,.v (.int .i64 0),.v (.int .i64 0),.av,.v (.int .i64 0),.v (.int .i64 0),.av,.av,.av,.v (.int .i64 0),.v (.int .i64 0),.av,.av,.av,.av,.v (.int .i64 0),.av],.b7 [(55,0),(71,29)]⟩),
 (116,⟨30,512,true,[.v (.int .i64 0),.v (.int .i64 0),.av,.v (.int .i64 0),.av,.av,.v (.int .i64 0),.av,.v (.int .i64 0),.v (.int .i64 0),.av,.av,.av,.av,.v (.int .i64 0),.v (.int .i64 0),.av,.v (.int .i64 0),.v (.int .i64 0),.av,.av,.av,.v (.int .i64 0),.v (.int .i64 0),.av,.av,.av,.av,.v (.int .i64 0),.av],.b7 [(55,0),(71,29)]⟩),
 (120,⟨2,32,true,[.v (.int .i64 0),.av],.b7 [(3,0),(69,1)]⟩),
 (121,⟨2,32,true,[.v (.int .i64 0),.av],.b7 [(3,0),(69,1)]⟩),
 (134,⟨2,32,true,[.av,.v (.bool false)],.b7 [(69,0),(4,1)]⟩),
 (135,⟨2,32,true,[.av,.v (.bool false)],.b7 [(69,0),(4,1)]⟩),
 (146,⟨4,32,true,[.v (.int .i64 0),.v (.int .i64 0),.v (.int .i64 0),.v (.int .i64 0)],.b7 [(3,0),(3,1),(3,2),(3,3)]⟩),
 (147,⟨4,32,true,[.v (.int .i64 0),.v (.int .i64 0),.v (.int .i64 0),.v (.int .i64 0)],.b7 [(3,0),(3,1),(3,2),(3,3)]⟩),
 (149,⟨2,16,true,[.v (.int .i64 0),.v (.int .i64 0)],.b7 [(3,0),(3,1)]⟩),
 (150,⟨2,16,true,[.v (.int .i64 0),.v (.int .i64 0)],.b7 [(3,0),(3,1)]⟩),
 (156,⟨1,24,false,[.av],.fc 218⟩),
 (178,⟨3,40,true,[.v (.int .i64 0),.v (.int .i64 0),.av],.b7 [(3,0),(3,1),(22,2)]⟩),
 (179,⟨3,40,true,[.v (.int .i64 0),.v (.int .i64 0),.av],.b7 [(3,0),(3,1),(22,2)]⟩),
 (200,⟨2,32,true,[.v (.int .i64 0),.av],.b7 [(3,0),(22,1)]⟩),
 (201,⟨2,32,true,[.v (.int .i64 0),.av],.b7 [(3,0),(22,1)]⟩),
 (209,⟨16,272,true,[.v (.int .i64 0),.v (.int .i64 0),.av,.v (.int .i64 0),.v (.int .i64 0),.av,.av,.av,.v (.int .i64 0),.v (.int .i64 0),.av,.av,.av,.av,.v (.int .i64 0),.av],.b7 [(53,0),(156,15)]⟩),
 (210,⟨16,272,true,[.v (.int .i64 0),.v (.int .i64 0),.av,.v (.int .i64 0),.v (.int .i64 0),.av,.av,.av,.v (.int .i64 0),.v (.int .i64 0),.av,.av,.av,.av,.v (.int .i64 0),.av],.b7 [(53,0),(156,15)]⟩),
 (217,⟨7,72,true,[.v (.int .i64 0),.v (.int .i64 0),.v (.int .i64 0),.v (.int .i64 0),.v (.int .i64 0),.v (.int .i64 0),.av],.b7 [(3,0),(108,1)]⟩),
 (218,⟨7,72,true,[.v (.int .i64 0),.v (.int .i64 0),.v (.int .i64 0),.v (.int .i64 0),.v (.int .i64 0),.v (.int .i64 0),.av],.b7 [(3,0),(108,1)]⟩),
 (219,⟨4,32,true,[.v (.int .i64 0),.v (.int .i64 0),.v (.int .i64 0),.v (.int .i64 0)],.arr 4 3⟩),
 (255,⟨1,8,false,[.v (.int .i64 0)],.int .i64⟩),
 (264,⟨1,24,false,[.av],.fc 267⟩),
 (266,⟨3,24,true,[.v (.int .i64 0),.v (.int .i64 0),.v (.int .i64 0)],.b7 [(3,0),(3,1),(3,2)]⟩),
 (267,⟨3,24,true,[.v (.int .i64 0),.v (.int .i64 0),.v (.int .i64 0)],.b7 [(3,0),(3,1),(3,2)]⟩),
 (274,⟨1,8,false,[.v (.int .u64 0)],.int .u64⟩),
 (285,⟨3,24,true,[.v (.int .u64 0),.v (.int .u64 0),.v (.int .u64 0)],.arr 3 57⟩),
 (287,⟨2,16,true,[.v (.int .u64 0),.v (.int .u64 0)],.arr 2 34⟩)]
theorem aA:Tryz.prog.follows .mixedOrders=true:=by rfl
theorem ay:dv Tryz.prog ag=true:=by kernel_rfl
variable{f:Go.FuncId}{fn:Go.Func}{args:List ak}{d:ak}
theorem fM(az:Tryz.prog.funcs[f]?=some fn)(h:VY ag Tryz.prog (fn.body.getD .skip) fn.results.toList args d)(hk: (!(fn.name== "runtime.NumGoroutine")&&fn.body.isSome&&pT fn.ntmps (fn.body.getD .skip)&&Nat.ble args.length fn.ntmps)=true:=by kernel_rfl):bl Tryz.prog f args d:=by
 simp only[cq,mV]at hk;exact b9 aA ay (by kernel_rfl) az hk.1.1.1 (by cases ac:fn.body<;>simp_all) hk.1.2 hk.2 h
theorem jS{L bL:List aZ}{args:List ak}{kept:List Bool}{d:ak}(az:Tryz.prog.funcs[f]?=some fn)(h:VZ ag Tryz.prog (fn.body.getD .skip) fn.results.toList L args kept bL d)(hk: (!(fn.name== "runtime.NumGoroutine")&&fn.body.isSome&&pT fn.ntmps (fn.body.getD .skip)&&Nat.ble args.length fn.ntmps&&q2 L)=true:=by kernel_rfl):cm Tryz.prog f L args kept bL d:=by
 simp only[cq,mV]at hk;exact ik aA ay (by kernel_rfl) az hk.1.1.1.1 (by cases ac:fn.body<;>simp_all) hk.1.1.2 hk.1.2 hk.2 h
theorem mj{L bL:List aZ}{args:List ak}{kept:List Bool}{d:ak}(az:Tryz.prog.funcs[f]?=some fn)(h:YK ag Tryz.prog (fn.body.getD .skip) fn.results.toList L args kept bL d)(hk: (!(fn.name== "runtime.NumGoroutine")&&fn.body.isSome&&pT fn.ntmps (fn.body.getD .skip)&&Nat.ble args.length fn.ntmps&&q2 L)=true:=by kernel_rfl):cm Tryz.prog f L args kept bL d:=by
 simp only[cq,mV]at hk;exact vf aA ay (by kernel_rfl) az hk.1.1.1.1 (by cases ac:fn.body<;>simp_all) hk.1.1.2 hk.1.2 hk.2 h
def i64(n:Int):ak:=.v (.int .i64 n)
def aM(n:Int):List ak:=[.v (.int .i64 n)]
def bE(n:Nat):List ak:=[.v (.int .u8 n)]
variable{n:Nat}
theorem lU(h:n<=2000000):kp ag 3 n:=by
 have e: (aF ag 3).bytes=8:=by rfl
 refine⟨?_,?_⟩
 ·grind
 ·simp only[maxLen];omega
theorem cK{e:TypeId}{aB:Nat}{es fG:List (List ak)}(h:es=fG):hr (.row e aB es) (.row e aB fG):=by subst h;exact .refl
def vh(l:List Int)(i:Nat):Bool:= !(decide (l.getD i 0<=(0::l).getD i 0)||decide (1000<l.getD i 0))
def dq(l:List Int)(ajm:Int):Bool:= !(decide ((l.length:Int)<1)||decide (ajm<(l.length:Int)))&&ih (vh l) l.length
theorem Y9(l:List Int)(af:l.length<=maxLen)(m:Int):bl Tryz.prog 58 [.ar 1 (l.map aM) false,.v (.int .i64 m)] (.v (.bool (dq l m))):=by
 have hs:l.length<=9223372036854775807:=af;refine b9 (fn:=Tryz.f58) (c:=Tryz.f58.body.getD .skip) aA ay (by rfl) Tryz.func58 (by rfl) (by rfl) (by rfl) (by rfl) ?_;repeat' ((conv=>whnf);first|refine be ?_| (apply bh<;>intro h)|refine dr ?_|fail)
 ·skip
  refine fY ?_;simp only[bF]at h;simp only[dq,h];rfl
 ·skip
  simp only[bF]at h;have aR:=h;clear h;conv=>whnf
  refine⟨Nat,λi=>⟨[(5,i64 ((0::l).getD i 0)),(17,.ar 1 (l.map aM) false),(18,i64 (l.map aM).length),(19,i64 i)],[]⟩,λi=>i<=l.length/\∀j,j<i->vh l j=true,λi=>l.length-i,[],⟨0,⟨bX _,by omega⟩,?_⟩,?_⟩
  ·exact⟨by repeat' ((conv=>whnf);first|exact trivial|refine aO (by(conv=>arg 1;whnf);first| (with_reducible exact .refl)|exact aX (bW (by omega))|exact .refl) ?_|fail),by repeat' ((conv=>whnf);first|exact trivial|fail),rfl⟩
  ·intro i ⟨hi,ct⟩;repeat' ((conv=>whnf);first| (apply bh<;>intro h)|fail)
   ·have h1:=h;have ax:i<l.length:=by grind
    have aw:l.getD i 0=l[i]:=by grind
    repeat' ((conv=>whnf);first|refine be ?_| (apply bh<;>intro h)|refine⟨_,_,aO ⟨rfl,c3 ax⟩ ?_⟩|fail)
    ·have ad:=h;refine fY ?_;have:vh l i=false:=by simp only[vh,aw,ad];rfl
     rw[dq,sR ax this,oj]
    ·have ad:=h;conv=>whnf
     refine⟨i+1,⟨ax,λj aq=> ?_⟩,by grind,?_⟩
     ·rcases yJ.1 aq with aq|rfl
      ·grind
      ·simp only[vh,aw,ad];rfl
     ·refine⟨⟨?_,.r,.r,aX (bW (by omega)),ai⟩,ai,rfl⟩;refine aX ?_
      grind
   ·have h1:=h;have fp:¬i<l.length:=by grind
    conv=>whnf
    refine fY ?_;rw[dq,aR,ij.2 (λj aq=>ct j (by omega))];rfl
theorem Hq(l:List Int)(af:l.length<=maxLen):bl Tryz.prog 106 [.ar 1 (l.map aM) false] (.v (.bool (dq l 32))):=by
 refine b9 (fn:=Tryz.f106) (c:=Tryz.f106.body.getD .skip) aA ay (by rfl) Tryz.func106 (by rfl) (by rfl) (by rfl) (by rfl) ?_;repeat' ((conv=>whnf);first|exact .refl|refine aS (Y9 _ af _) ?_|fail)
def hx(a b:List Int):Bool:=decide ((a.length:Int)=(b.length:Int))&&ih (λi=>decide (a.getD i 0=b.getD i 0)) a.length
theorem Q7(a b:List Int)(bb:a.length<=maxLen):bl Tryz.prog 60 [.ar 1 (a.map aM) false,.ar 1 (b.map aM) false] (.v (.bool (hx a b))):=by
 have hs:a.length<=9223372036854775807:=bb;refine b9 (fn:=Tryz.f60) (c:=Tryz.f60.body.getD .skip) aA ay (by rfl) Tryz.func60 (by rfl) (by rfl) (by rfl) (by rfl) ?_;repeat' ((conv=>whnf);first| (apply bh<;>intro h)|fail)
 ·refine fY ?_;simp only[bF]at h;have h:decide ((a.length:Int)=(b.length:Int))=false:=by grind
  simp only[hx,h,vW]
 ·have aR:a.length=b.length:=by
   grind
  clear h;conv=>whnf
  refine⟨Nat,λi=>⟨[(0,.ar 1 (a.map aM) false),(1,.ar 1 (b.map aM) false),(12,i64 (a.map aM).length),(13,i64 i)],[]⟩,λi=>i<=a.length/\∀j,j<i->decide (a.getD j 0=b.getD j 0)=true,λi=>a.length-i,[],⟨0,⟨bX _,by omega⟩,?_⟩,?_⟩
  ·exact⟨by repeat' ((conv=>whnf);first|exact trivial|refine aO (by(conv=>arg 1;whnf);first| (with_reducible exact .refl)|exact aX (bW (by omega))|exact .refl) ?_|fail),by repeat' ((conv=>whnf);first|exact trivial|fail),rfl⟩
  ·intro i ⟨hi,ct⟩;repeat' ((conv=>whnf);first| (apply bh<;>intro h)|fail)
   ·have ax:i<a.length:=by grind
    have ml:i<b.length:=by omega
    clear h;have aw:a.getD i 0=a[i]:=by grind
    have hT:b.getD i 0=b[i]:=by grind
    repeat' ((conv=>whnf);first| (apply bh<;>intro h)|refine cd ?_|refine⟨_,_,aO ⟨rfl,c3 ax⟩ ?_⟩|refine⟨_,_,aO ⟨rfl,c3 ml⟩ ?_⟩|fail)
    ·refine fY ?_;rw[hx,sR ax (i:=i),oj]
     grind
    ·conv=>whnf
     refine⟨i+1,⟨ax,λj aq=> ?_⟩,by grind,?_⟩
     ·grind
     ·exact⟨by repeat' ((conv=>whnf);first|exact trivial|refine aO (by(conv=>arg 1;whnf);first| (with_reducible exact .refl)|exact aX (bW (by omega))|exact .refl) ?_|fail),by repeat' ((conv=>whnf);first|exact trivial|fail),rfl⟩
   ·have fp:¬i<a.length:=by grind
    conv=>whnf
    refine fY ?_;rw[hx,ij.2 (λj aq=>ct j (by omega)),aR];simp
theorem Hr(a b:List Int)(bb:a.length<=maxLen):bl Tryz.prog 116 [.ar 1 (a.map aM) false,.ar 1 (b.map aM) false] (.v (.bool (hx a b))):=by
 refine b9 (fn:=Tryz.f116) (c:=Tryz.f116.body.getD .skip) aA ay (by rfl) Tryz.func116 (by rfl) (by rfl) (by rfl) (by rfl) ?_;repeat' ((conv=>whnf);first|exact .refl|refine aS (Q7 _ _ bb) ?_|fail)
structure aK where
 num:Int
 mem:List Int
def cc(v:aK):List ak:=[.v (.int .i64 v.num),.ar 1 (v.mem.map aM) false]
def gG(l:List Int)(x:Int):Int:=lx (λi=>decide (l[i]?=some x)) l.length
theorem Hs(l:List Int)(af:l.length<=maxLen)(x:Int):bl Tryz.prog 59 [.ar 1 (l.map aM) false,.v (.int .i64 x)] (.v (.int .i64 (gG l x))):=by
 have hs:l.length<=9223372036854775807:=af;refine b9 (fn:=Tryz.f59) (c:=Tryz.f59.body.getD .skip) aA ay (by rfl) Tryz.func59 (by rfl) (by rfl) (by rfl) (by rfl) ?_;repeat' ((conv=>whnf);first|refine be ?_|fail)
 refine⟨Nat,λi=>⟨[(1,.v (.int .i64 x)),(7,.ar 1 (l.map aM) false),(8,i64 (l.map aM).length),(9,i64 i)],[]⟩,λi=>i<=l.length/\∀j,j<i->decide (l[j]?=some x)=false,λi=>l.length-i,[],⟨0,⟨bX _,by omega⟩,?_⟩,?_⟩
 ·exact⟨by repeat' ((conv=>whnf);first|exact trivial|refine aO (by(conv=>arg 1;whnf);first| (with_reducible exact .refl)|exact aX (bW (by omega))|exact .refl) ?_|fail),by repeat' ((conv=>whnf);first|exact trivial|fail),rfl⟩
 ·intro i ⟨hi,ct⟩;repeat' ((conv=>whnf);first| (apply bh<;>intro h)|fail)
  ·have ax:i<l.length:=by grind
   repeat' ((conv=>whnf);first| (apply bh<;>intro h)|refine⟨_,_,aO ⟨rfl,c3 ax⟩ ?_⟩|fail)
   ·have ad:=h;refine aX (wR ax ?_ ct).symm
    grind
   ·have ad:=h;conv=>whnf
    refine⟨i+1,⟨ax,λj aq=> ?_⟩,by grind,?_⟩
    ·grind
    ·exact⟨by repeat' ((conv=>whnf);first|exact trivial|refine aO (by(conv=>arg 1;whnf);first| (with_reducible exact .refl)|exact aX (bW (by omega))|exact .refl) ?_|fail),by repeat' ((conv=>whnf);first|exact trivial|fail),rfl⟩
  ·have fp:¬i<l.length:=by grind
   conv=>whnf
   refine aX (tQ (λj aq=>ct j (by omega))).symm
def bH(l:List Int)(x:Int):Bool:=decide (0<=gG l x)
theorem jq(l:List Int)(af:l.length<=maxLen)(x:Int):bl Tryz.prog 33 [.ar 1 (l.map aM) false,.v (.int .i64 x)] (.v (.bool (bH l x))):=by
 refine b9 (fn:=Tryz.f33) (c:=Tryz.f33.body.getD .skip) aA ay (by rfl) Tryz.func33 (by rfl) (by rfl) (by rfl) (by rfl) ?_;repeat' ((conv=>whnf);first|exact .refl|refine aS (Hs _ af _) ?_|fail)
theorem zm(l:List Int)(af:l.length<=maxLen):bl Tryz.prog 32 [.ar 1 (l.map aM) false] (.v (.bool (dq l 16))):=by
 refine b9 (fn:=Tryz.f32) (c:=Tryz.f32.body.getD .skip) aA ay (by rfl) Tryz.func32 (by rfl) (by rfl) (by rfl) (by rfl) ?_;repeat' ((conv=>whnf);first|exact .refl|refine aS (Y9 _ af _) ?_|fail)
def b0(v:aK):Bool:=(decide (0<=v.num)&&decide (v.num<=1099511627776))&&dq v.mem 16
theorem ri(v:aK)(af:v.mem.length<=maxLen):bl Tryz.prog 43 [.agg (cc v)] (.v (.bool (b0 v))):=by
 refine b9 (fn:=Tryz.f43) (c:=Tryz.f43.body.getD .skip) aA ay (by rfl) Tryz.func43 (by rfl) (by rfl) (by rfl) (by rfl) ?_;repeat' ((conv=>whnf);first|refine be ?_|exact .refl|refine dz (zm _ af) ?_|fail)
def pa(v:aK)(cut l gu:List Int):List Int×List Int:=
 bif !b0 v|| !dq cut 32 then([],[])else(l.filter (bH gu),l.filter (λx=> !bH gu x))
def wS(gu l:List Int)(i:Nat):List (List ak):=((l.take i).filter (bH gu)).map aM
def wT(gu l:List Int)(i:Nat):List (List ak):=((l.take i).filter (λx=> !bH gu x)).map aM
theorem ajn(gu l:List Int)(i:Nat): (wS gu l i).length<=i:=by
 simp only[wS,bF]
 grind
theorem ajo(gu l:List Int)(i:Nat): (wT gu l i).length<=i:=by
 simp only[wT,bF]
 grind
theorem ajp{gu l:List Int}{i:Nat}(ax:i<l.length)(h:bH gu (l[i]'ax)=true):wS gu l i++ [aM (l[i]'ax)]=wS gu l (i+1)/\wT gu l i=wT gu l (i+1):=by
 simp only[wS,wT,e4 ax,nx];simp[h]
theorem ajq{gu l:List Int}{i:Nat}(ax:i<l.length)(h:bH gu (l[i]'ax)=false):wS gu l i=wS gu l (i+1)/\wT gu l i++ [aM (l[i]'ax)]=wT gu l (i+1):=by
 simp only[wS,wT,e4 ax,nx];simp[h]
theorem Za(v:aK)(ab:v.mem.length<=maxLen)(cut l gu:List Int)(aj:cut.length<=maxLen)(af:l.length<=1000000)(aH:gu.length<=maxLen):
  bl Tryz.prog 176 [.agg (cc v),.ar 1 (cut.map aM) false,.ar 1 (l.map aM) false,.ar 1 (gu.map aM) false] (.bd [.ar 1 ((pa v cut l gu).1.map aM) false,.ar 1 ((pa v cut l gu).2.map aM) false]):=by
 refine fM Tryz.func176 ?_;repeat' ((conv=>whnf);first|refine be ?_| (apply bh<;>intro h)|refine aS (ri _ ab) ?_|refine dz (Hq _ aj) ?_|fail)
 all_goals(conv=>whnf)
 ·simp only[pa,h,bY];exact eO ⟨.av,.av,ai⟩
 ·simp only[pa,h,bs];clear h;refine⟨Nat,λi=>⟨[(3,.ar 1 (gu.map aM) false),(8,.own 1),(9,.own 2),(20,.ar 1 (l.map aM) false),(21,i64 (l.map aM).length),(22,i64 i)],[.cells 24 (cc v),.row 3 1 (wS gu l i),.row 3 1 (wT gu l i)]⟩,λi=>i<=l.length,λi=>l.length-i,[.ho 8 3 1,.ho 9 3 1],⟨0,bX _,?_⟩,?_⟩
  ·conv=>whnf
   exact⟨by repeat' ((conv=>whnf);first|exact trivial|refine aO (by(conv=>arg 1;whnf);first| (with_reducible exact .refl)|exact aX (bW (by omega))|exact .refl) ?_|fail),by repeat' ((conv=>whnf);first|exact trivial|refine aO ?_ ?_|exact .refl|fail),rfl⟩
  ·intro i hi;repeat' ((conv=>whnf);first| (apply bh<;>intro h)|fail)
   ·have ax:i<l.length:=by simpa using h
    clear h;repeat' ((conv=>whnf);first| (apply bh<;>intro h)|refine⟨_,_,aO ⟨rfl,c3 ax⟩ ?_⟩|refine aS (jq _ aH _) ?_|fail)
    ·have al:=ajn gu l i;have an:=ajp ax h;conv=>whnf
     refine aO (lU (by simp;omega)) ?_;repeat' ((conv=>whnf);first|refine be ?_|fail)
     all_goals(conv=>whnf)
     refine⟨i+1,ax,by simp only[];omega,?_⟩;exact⟨⟨.r,.r,.r,.r,.r,aX (bW (by omega)),ai⟩,⟨.r,cK an.1,cK an.2,ai⟩,rfl⟩
    ·have cr:=ajo gu l i;have an:=ajq ax h;conv=>whnf
     refine aO (lU (by simp;omega)) ?_;repeat' ((conv=>whnf);first|refine be ?_|fail)
     all_goals(conv=>whnf)
     refine⟨i+1,ax,by simp only[];omega,?_⟩;exact⟨⟨.r,.r,.r,.r,.r,aX (bW (by omega)),ai⟩,⟨.r,cK an.1,cK an.2,ai⟩,rfl⟩
   ·have fp:¬i<l.length:=by simpa using h
    have:i=l.length:=by omega
    subst this;conv=>whnf
    refine eO ⟨ig ?_,ig ?_,ai⟩
    ·simp[wS]
    ·simp[wT]
theorem ajr(v:aK)(ab:v.mem.length<=1000000)(cut:List Int)(aj:cut.length<=1000000):bl Tryz.prog 107 [.agg (cc v),.ar 1 (cut.map aM) false] (.ar 1 ((pa v cut v.mem cut).2.map aM) false):=by
 have h1:v.mem.length<=maxLen:=bQ ab (by decide);have ad:cut.length<=maxLen:=bQ aj (by decide);refine b9 (fn:=Tryz.f107) (c:=Tryz.f107.body.getD .skip) aA ay (by rfl) Tryz.func107 (by rfl) (by rfl) (by rfl) (by rfl) ?_;repeat' ((conv=>whnf);first|exact .refl|refine aS (Za _ h1 _ _ _ ad ab ad) ?_|fail)
theorem Zb(v:aK)(ab:v.mem.length<=1000000)(cut:List Int)(aj:cut.length<=1000000):bl Tryz.prog 108 [.agg (cc v),.ar 1 (cut.map aM) false] (.ar 1 ((pa v cut cut v.mem).2.map aM) false):=by
 have h1:v.mem.length<=maxLen:=bQ ab (by decide);have ad:cut.length<=maxLen:=bQ aj (by decide);refine b9 (fn:=Tryz.f108) (c:=Tryz.f108.body.getD .skip) aA ay (by rfl) Tryz.func108 (by rfl) (by rfl) (by rfl) (by rfl) ?_;repeat' ((conv=>whnf);first|exact .refl|refine aS (Za _ h1 _ _ _ ad aj h1) ?_|fail)
theorem Zc(n:Int):bl Tryz.prog 220 [.v (.int .i64 n)] (.v (.bool (decide (1<=n)&&decide (n<=16)))):=by
 refine b9 (fn:=Tryz.f220) (c:=Tryz.f220.body.getD .skip) aA ay (by rfl) Tryz.func220 (by rfl) (by rfl) (by rfl) (by rfl) ?_;repeat' ((conv=>whnf);first|refine be ?_|exact .refl|fail)
def kx:List Int->List Int->List Int
 |a,[]=>a
 |a,x::b=>a.takeWhile (λy=> !decide (x<y))++x::kx (a.dropWhile (λy=> !decide (x<y))) b
theorem ajs{y x:Int}{a b:List Int}(h:x<y):kx (y::a) (x::b)=x::kx (y::a) b:=by simp[kx,h]
theorem ajt{y x:Int}{a b:List Int}(h:¬x<y):kx (y::a) (x::b)=y::kx a (x::b):=by simp[kx,h]
theorem aju{x:Int}{b:List Int}:kx [] (x::b)=x::kx [] b:=by rfl
theorem ajv(a b:List Int)(bb:a.length<=500000)(ac:b.length<=500000):bl Tryz.prog 109 [.ar 1 (a.map aM) false,.ar 1 (b.map aM) false] (.ar 1 ((kx a b).map aM) false):=by
 refine b9 (fn:=Tryz.f109) (c:=Tryz.f109.body.getD .skip) aA ay (by rfl) Tryz.func109 (by rfl) (by rfl) (by rfl) (by rfl) ?_;repeat' ((conv=>whnf);first|refine be ?_|fail)
 refine⟨Nat×Nat×List Int,λs=>⟨[(0,.ar 1 (a.map aM) false),(5,.own 0),(6,i64 s.2.1),(9,.ar 1 (b.map aM) false),(10,i64 (b.map aM).length),(11,i64 s.1)],[.row 3 1 (s.2.2.map aM)]⟩,
  λs=>s.1<=b.length/\s.2.1<=a.length/\s.2.2.length<=s.1+s.2.1/\s.2.2++kx (a.drop s.2.1) (b.drop s.1)=kx a b,λs=>b.length-s.1,[.ho 5 3 1],⟨(0,0,[]),⟨bX _,bX _,bX _,rfl⟩,?_⟩,?_⟩
 ·conv=>whnf
  exact⟨by repeat' ((conv=>whnf);first|exact trivial|refine aO (by(conv=>arg 1;whnf);first| (with_reducible exact .refl)|exact aX (bW (by omega))|exact .refl) ?_|fail),by repeat' ((conv=>whnf);first|exact trivial|refine aO ?_ ?_|exact .refl|fail),rfl⟩
 ·intro ⟨j,i,out⟩ ⟨aq,hi,aH,aA⟩;simp only at aq hi aH aA;repeat' ((conv=>whnf);first| (apply bh<;>intro h)|fail)
  ·have ax:j<b.length:=by grind
   clear h;have aa:b.drop j=b[j]::b.drop (j+1):=vY ax;repeat' ((conv=>whnf);first|refine⟨_,_,aO ⟨rfl,c3 ax⟩ ?_⟩|fail)
   conv=>whnf
   refine⟨Nat×List Int,λs=>⟨[(0,.ar 1 (a.map aM) false),(5,.own 0),(6,i64 s.1),(8,.v (.int .i64 b[j])),(9,.ar 1 (b.map aM) false),(10,i64 (b.map aM).length),(11,i64 j)],[.row 3 1 (s.2.map aM)]⟩,
    λs=>s.1<=a.length/\s.2.length<=j+s.1/\s.2++kx (a.drop s.1) (b.drop j)=kx a b,λs=>a.length-s.1,[],⟨(i,out),⟨hi,aH,aA⟩,?_⟩,?_⟩
   ·exact⟨by repeat' ((conv=>whnf);first|exact trivial|refine aO (by(conv=>arg 1;whnf);first| (with_reducible exact .refl)|exact aX (bW (by omega))|exact .refl) ?_|fail),by repeat' ((conv=>whnf);first|exact trivial|refine aO ?_ ?_|exact .refl|fail),rfl⟩
   ·intro ⟨i,out⟩ ⟨hi,aH,aA⟩;simp only at hi aH aA;repeat' ((conv=>whnf);first| (apply bh<;>intro h)|fail)
    ·have ml:i<a.length:=by grind
     clear h;have kv:a.drop i=a[i]::a.drop (i+1):=vY ml;repeat' ((conv=>whnf);first| (apply bh<;>intro h)|refine⟨_,_,aO ⟨rfl,c3 ml⟩ ?_⟩|fail)
     ·conv=>whnf
      refine aO (lU (by grind)) ?_;repeat' ((conv=>whnf);first|refine be ?_|fail)
      all_goals(conv=>whnf)
      refine⟨(j+1,i,out++ [b[j]]),⟨ax,hi,by grind,?_⟩,by grind,?_⟩
      ·have h:b[j]<a[i]:=by grind
       rw[aa,kv,ajs h]at aA
       grind
      ·refine⟨by repeat' ((conv=>whnf);first|exact trivial|refine aO (by(conv=>arg 1;whnf);first| (with_reducible exact .refl)|exact aX (bW (by omega))|exact .refl) ?_|fail),⟨cK ?_,ai⟩,rfl⟩;simp;rfl
     ·conv=>whnf
      refine aO (lU (by grind)) ?_;repeat' ((conv=>whnf);first|refine be ?_|fail)
      all_goals(conv=>whnf)
      refine⟨(i+1,out++ [a[i]]),⟨ml,by grind,?_⟩,by grind,?_⟩
      ·have h:¬b[j]<a[i]:=by grind
       rw[aa,kv,ajt h]at aA
       grind
      ·refine⟨by repeat' ((conv=>whnf);first|exact trivial|refine aO (by(conv=>arg 1;whnf);first| (with_reducible exact .refl)|exact aX (bW (by omega))|exact .refl) ?_|fail),⟨cK ?_,ai⟩,rfl⟩;simp;rfl
    ·have fp:¬i<a.length:=by grind
     have:i=a.length:=by omega
     subst this;conv=>whnf
     refine aO (lU (by grind)) ?_;repeat' ((conv=>whnf);first|refine be ?_|fail)
     all_goals(conv=>whnf)
     refine⟨(j+1,a.length,out++ [b[j]]),⟨ax,hi,by grind,?_⟩,by grind,?_⟩
     ·rw[aa,CZ,aju]at aA
      grind
     ·refine⟨by repeat' ((conv=>whnf);first|exact trivial|refine aO (by(conv=>arg 1;whnf);first| (with_reducible exact .refl)|exact aX (bW (by omega))|exact .refl) ?_|fail),⟨cK ?_,ai⟩,rfl⟩;simp;rfl
  ·have fp:¬j<b.length:=by grind
   have:j=b.length:=by omega
   subst this;conv=>whnf
   refine⟨i,aO ⟨⟨_,rfl⟩,by grind⟩ ?_⟩;conv=>whnf
   refine aO (lU (by grind)) ?_;repeat' ((conv=>whnf);first|refine be ?_|fail)
   all_goals(conv=>whnf)
   refine ig ?_;rw[CZ]at aA;rw[<-aA];simp[kx]
theorem Ht(v:aK)(cut l o:List Int): (pa v cut l o).2.length<=l.length:=by
 unfold pa
 grind
def iA(v:aK)(cut:List Int):List Int:=(pa v cut v.mem cut).2
def e6(v:aK)(cut:List Int):List Int:=(pa v cut cut v.mem).2
def dJ(v:aK)(cut:List Int):aK×Int:=
 bif !b0 v|| !dq cut 32 then(⟨0,[]⟩,1)
 else bif decide (2* ((iA v cut).length:Int)<=(v.mem.length:Int))then(⟨0,[]⟩,9)
 else bif decide (v.num=1099511627776)||decide (16<((iA v cut).length:Int)+((e6 v cut).length:Int))then(⟨0,[]⟩,5)
 else(⟨IntKind.i64.wrap (v.num+1),kx (iA v cut) (e6 v cut)⟩,0)
theorem Ej(v:aK)(ab:v.mem.length<=500000)(cut:List Int)(aj:cut.length<=500000):bl Tryz.prog 61 [.agg (cc v),.ar 1 (cut.map aM) false] (.bd [.agg (cc (dJ v cut).1),.v (.int .i64 (dJ v cut).2)]):=by
 have h1:v.mem.length<=maxLen:=bQ ab (by decide);have ad:cut.length<=maxLen:=bQ aj (by decide);have aN: (iA v cut).length<=500000:=bQ (Ht _ _ _ _) ab;have bt: (e6 v cut).length<=500000:=bQ (Ht _ _ _ _) aj;have Zd:bl Tryz.prog 107 [.agg (cc v),.ar 1 (cut.map aM) false] (.ar 1 ((iA v cut).map aM) false):=ajr v (by omega) cut (by omega);have Ze:bl Tryz.prog 108 [.agg (cc v),.ar 1 (cut.map aM) false] (.ar 1 ((e6 v cut).map aM) false):=Zb v (by omega) cut (by omega);have eE:IntKind.i64.wrap (2* ((iA v cut).length:Int))=2* ((iA v cut).length:Int):=dW (by omega) (by omega);have gW:IntKind.i64.wrap (((iA v cut).length:Int)+((e6 v cut).length:Int))=((iA v cut).length:Int)+((e6 v cut).length:Int):=dW (by omega) (by omega);refine fM Tryz.func61 ?_;repeat' ((conv=>whnf);first|refine be ?_| (apply bh<;>intro h)|refine cd ?_|refine dr ?_|refine aS (ri _ h1) ?_|refine dz (Hq _ ad) ?_|refine aS Zd ?_|refine aS Ze ?_|refine aS (ajv _ _ aN bt) ?_|fail)
 all_goals(conv=>whnf)
 all_goals clear Zd Ze
 all_goals(try simp only[bF,eE,gW]at *)
 all_goals simp only[dJ, *,bY,bs]
 ·exact eO ⟨h6 ⟨.r,.av,ai⟩,.r,ai⟩
 ·exact eO ⟨h6 ⟨.r,.av,ai⟩,.r,ai⟩
 ·exact eO ⟨h6 ⟨.r,.av,ai⟩,.r,ai⟩
 ·exact .refl
theorem ajw(n:Int):bl Tryz.prog 105 [.v (.int .i64 n)] (.v (.bool (decide (1<=n)&&decide (n<=1000)))):=by
 refine b9 (fn:=Tryz.f105) (c:=Tryz.f105.body.getD .skip) aA ay (by rfl) Tryz.func105 (by rfl) (by rfl) (by rfl) (by rfl) ?_;repeat' ((conv=>whnf);first|refine be ?_|exact .refl|fail)
def BB(l:List Int)(i:Nat):Bool:= !(!(decide (1<=l.getD i 0)&&decide (l.getD i 0<=1000))|| (decide (0<(i:Int))&&decide (l.getD i 0<=l.getD (i-1) 0)))
def wU(l:List Int):Bool:=ih (BB l) l.length
theorem Zf(l:List Int)(af:l.length<=maxLen):bl Tryz.prog 57 [.ar 1 (l.map aM) false] (.v (.bool (wU l))):=by
 have hs:l.length<=9223372036854775807:=af;refine b9 (fn:=Tryz.f57) (c:=Tryz.f57.body.getD .skip) aA ay (by rfl) Tryz.func57 (by rfl) (by rfl) (by rfl) (by rfl) ?_;repeat' ((conv=>whnf);first|refine be ?_|fail)
 refine⟨Nat,λi=>⟨[(0,.ar 1 (l.map aM) false),(3,i64 i)],[]⟩,λi=>i<=l.length/\∀j,j<i->BB l j=true,λi=>l.length-i,[],⟨0,⟨bX _,by omega⟩,?_⟩,?_⟩
 ·exact⟨by repeat' ((conv=>whnf);first|exact trivial|refine aO (by(conv=>arg 1;whnf);first| (with_reducible exact .refl)|exact aX (bW (by omega))|exact .refl) ?_|fail),by repeat' ((conv=>whnf);first|exact trivial|fail),rfl⟩
 ·intro i ⟨hi,ct⟩;repeat' ((conv=>whnf);first| (apply bh<;>intro h)|fail)
  ·have ax:i<l.length:=by grind
   clear h;have aw:l.getD i 0=l[i]:=by grind
   repeat' ((conv=>whnf);first|refine be ?_|refine⟨_,_,aO ⟨rfl,c3 ax⟩ ?_⟩|refine aS (ajw _) ?_|refine⟨i,aM (l[i]'ax),aO ⟨⟨λh=>h,λh=>h⟩,λaw=>⟨rfl,c3 ax⟩⟩ ?_⟩|fail)
   have an:∀ (aw: (!(decide (1<=l[i])&&decide (l[i]<=1000)))=false/\0<i),(IntKind.i64.wrap ((i:Int)-1))=((i-1:Nat):Int)/\(l.map aM)[i-1]?=some (aM (l.getD (i-1) 0)):=by
    rintro⟨_,aR⟩;refine⟨by rw[dW (by omega) (by omega)];omega,?_⟩
    grind
   refine⟨i-1,aM (l.getD (i-1) 0),aO ⟨⟨λh=>h,λh=>h⟩,λaw=>an ?_⟩ ?_⟩
   ·grind
   repeat' ((conv=>whnf);first|refine be ?_| (apply bh<;>intro h)|refine cd ?_|refine dr ?_|fail)
   all_goals(conv=>whnf)
   ·refine fY ?_;have:BB l i=false:=by simp only[BB,aw,h];rfl
    rw[wU,sR ax this]
   ·refine⟨i+1,⟨ax,λj aq=> ?_⟩,by grind,?_⟩
    ·rcases yJ.1 aq with aq|rfl
     ·grind
     ·simp only[BB,aw,h];rfl
    ·exact⟨by repeat' ((conv=>whnf);first|exact trivial|refine aO (by(conv=>arg 1;whnf);first| (with_reducible exact .refl)|exact aX (bW (by omega))|exact .refl) ?_|fail),by repeat' ((conv=>whnf);first|exact trivial|fail),rfl⟩
  ·have fp:¬i<l.length:=by grind
   conv=>whnf
   refine fY ?_;rw[wU,ij.2 (λj aq=>ct j (by omega))]
def Lw(l:List Int):Bool:=(decide (1<=(l.length:Int))&&decide ((l.length:Int)<=32))&&wU l
theorem Q8(l:List Int)(af:l.length<=maxLen):bl Tryz.prog 40 [.ar 1 (l.map aM) false] (.v (.bool (Lw l))):=by
 refine b9 (fn:=Tryz.f40) (c:=Tryz.f40.body.getD .skip) aA ay (by rfl) Tryz.func40 (by rfl) (by rfl) (by rfl) (by rfl) ?_;repeat' ((conv=>whnf);first|refine be ?_|refine dz (Zf _ af) ?_|fail)
 all_goals(conv=>whnf)
 refine fY ?_;simp only[Lw,bF]
theorem ajx(a b:List Int)(bb:a.length<=maxLen):bl Tryz.prog 42 [.ar 1 (a.map aM) false,.ar 1 (b.map aM) false] (.v (.bool (hx a b))):=by
 have hs:a.length<=9223372036854775807:=bb;refine b9 (fn:=Tryz.f42) (c:=Tryz.f42.body.getD .skip) aA ay (by rfl) Tryz.func42 (by rfl) (by rfl) (by rfl) (by rfl) ?_;repeat' ((conv=>whnf);first| (apply bh<;>intro h)|fail)
 ·refine fY ?_;simp only[bF]at h;have h:decide ((a.length:Int)=(b.length:Int))=false:=by grind
  simp only[hx,h,vW]
 ·have aR:a.length=b.length:=by
   grind
  clear h;conv=>whnf
  refine⟨Nat,λi=>⟨[(0,.ar 1 (a.map aM) false),(1,.ar 1 (b.map aM) false),(5,i64 i)],[]⟩,λi=>i<=a.length/\∀j,j<i->decide (a.getD j 0=b.getD j 0)=true,λi=>a.length-i,[],⟨0,⟨bX _,by omega⟩,?_⟩,?_⟩
  ·exact⟨by repeat' ((conv=>whnf);first|exact trivial|refine aO (by(conv=>arg 1;whnf);first| (with_reducible exact .refl)|exact aX (bW (by omega))|exact .refl) ?_|fail),by repeat' ((conv=>whnf);first|exact trivial|fail),rfl⟩
  ·intro i ⟨hi,ct⟩;repeat' ((conv=>whnf);first| (apply bh<;>intro h)|fail)
   ·have ax:i<a.length:=by grind
    have ml:i<b.length:=by omega
    clear h;have aw:a.getD i 0=a[i]:=by grind
    have hT:b.getD i 0=b[i]:=by grind
    repeat' ((conv=>whnf);first| (apply bh<;>intro h)|refine cd ?_|refine⟨_,_,aO ⟨rfl,c3 ax⟩ ?_⟩|refine⟨_,_,aO ⟨rfl,c3 ml⟩ ?_⟩|fail)
    ·refine fY ?_;rw[hx,sR ax (i:=i),oj]
     grind
    ·conv=>whnf
     refine⟨i+1,⟨ax,λj aq=> ?_⟩,by grind,?_⟩
     ·grind
     ·exact⟨by repeat' ((conv=>whnf);first|exact trivial|refine aO (by(conv=>arg 1;whnf);first| (with_reducible exact .refl)|exact aX (bW (by omega))|exact .refl) ?_|fail),by repeat' ((conv=>whnf);first|exact trivial|fail),rfl⟩
   ·have fp:¬i<a.length:=by grind
    conv=>whnf
    refine fY ?_;rw[hx,ij.2 (λj aq=>ct j (by omega)),aR];simp
variable{l:List Int}
theorem Lx:wU l=true↔∀i,(h:i<l.length)->1<=l[i]/\l[i]<=1000/\(0<i->l.getD (i-1) 0<l[i]):=by
 rw[wU,ij];refine forall_congr' λi=> ?_;constructor
 ·intro h hi;have h:=h hi;have aw:l.getD i 0=l[i]:=by grind
  simp only[BB,aw,mV,iK,l3,cq,fr,uD,hG]at h;omega
 ·intro h hi;have h:=h hi;have aw:l.getD i 0=l[i]:=by grind
  simp only[BB,aw,mV,iK,l3,cq,fr,uD,hG];omega
theorem ajy:ih (vh l) l.length=true↔∀i,(h:i<l.length)->(0::l).getD i 0<l[i]/\l[i]<=1000:=by
 rw[ij];refine forall_congr' λi=> ?_;constructor
 ·intro h hi;have h:=h hi;have aw:l.getD i 0=l[i]:=by grind
  simp only[vh,aw,mV,iK,hG]at h;omega
 ·intro h hi;have h:=h hi;have aw:l.getD i 0=l[i]:=by grind
  simp only[vh,aw,mV,iK,hG];omega
theorem ajz(l:List Int):wU l=ih (vh l) l.length:=by
 rw[Og,Lx,ajy];constructor
 ·grind
 ·intro h i;induction i with
  |zero=>grind
  |succ i aY=>
   grind
theorem BC(l:List Int)(m:Int):dq l m=((decide (1<=(l.length:Int))&&decide ((l.length:Int)<=m))&&wU l):=by
 rw[dq,ajz]
 grind
theorem Q9(l:List Int):Lw l=dq l 32:=by rw[BC,Lw]
theorem Zg(l:List Int)(af:l.length<=maxLen)(x:Int):bl Tryz.prog 27 [.ar 1 (l.map aM) false,.v (.int .i64 x)] (.v (.int .i64 (gG l x))):=by
 have hs:l.length<=9223372036854775807:=af;refine b9 (fn:=Tryz.f27) (c:=Tryz.f27.body.getD .skip) aA ay (by rfl) Tryz.func27 (by rfl) (by rfl) (by rfl) (by rfl) ?_;repeat' ((conv=>whnf);first|refine be ?_|fail)
 refine⟨Nat,λi=>⟨[(0,.ar 1 (l.map aM) false),(1,.v (.int .i64 x)),(5,i64 i)],[]⟩,λi=>i<=l.length/\∀j,j<i->decide (l[j]?=some x)=false,λi=>l.length-i,[],⟨0,⟨bX _,by omega⟩,?_⟩,?_⟩
 ·exact⟨by repeat' ((conv=>whnf);first|exact trivial|refine aO (by(conv=>arg 1;whnf);first| (with_reducible exact .refl)|exact aX (bW (by omega))|exact .refl) ?_|fail),by repeat' ((conv=>whnf);first|exact trivial|fail),rfl⟩
 ·intro i ⟨hi,ct⟩;repeat' ((conv=>whnf);first| (apply bh<;>intro h)|fail)
  ·have ax:i<l.length:=by grind
   repeat' ((conv=>whnf);first| (apply bh<;>intro h)|refine⟨_,_,aO ⟨rfl,c3 ax⟩ ?_⟩|fail)
   ·have ad:=h;refine aX (wR ax ?_ ct).symm
    grind
   ·have ad:=h;conv=>whnf
    refine⟨i+1,⟨ax,λj aq=> ?_⟩,by grind,?_⟩
    ·grind
    ·exact⟨by repeat' ((conv=>whnf);first|exact trivial|refine aO (by(conv=>arg 1;whnf);first| (with_reducible exact .refl)|exact aX (bW (by omega))|exact .refl) ?_|fail),by repeat' ((conv=>whnf);first|exact trivial|fail),rfl⟩
  ·have fp:¬i<l.length:=by grind
   conv=>whnf
   refine aX (tQ (λj aq=>ct j (by omega))).symm
theorem Ly(l:List Int)(af:l.length<=maxLen)(x:Int):bl Tryz.prog 10 [.ar 1 (l.map aM) false,.v (.int .i64 x)] (.v (.bool (bH l x))):=by
 refine b9 (fn:=Tryz.f10) (c:=Tryz.f10.body.getD .skip) aA ay (by rfl) Tryz.func10 (by rfl) (by rfl) (by rfl) (by rfl) ?_;repeat' ((conv=>whnf);first|exact .refl|refine aS (Zg _ af _) ?_|fail)
def Ra(l:List Int):Bool:=(decide (1<=(l.length:Int))&&decide ((l.length:Int)<=16))&&wU l
theorem ajA(l:List Int):Ra l=dq l 16:=by rw[BC,Ra]
theorem Rb(l:List Int)(af:l.length<=maxLen):bl Tryz.prog 26 [.ar 1 (l.map aM) false] (.v (.bool (dq l 16))):=by
 rw[<-ajA];refine b9 (fn:=Tryz.f26) (c:=Tryz.f26.body.getD .skip) aA ay (by rfl) Tryz.func26 (by rfl) (by rfl) (by rfl) (by rfl) ?_;repeat' ((conv=>whnf);first|refine be ?_|refine dz (Zf _ af) ?_|fail)
 all_goals(conv=>whnf)
 refine fY ?_;simp only[Ra,bF]
theorem Ek(v:aK)(af:v.mem.length<=maxLen):bl Tryz.prog 8 [.agg (cc v)] (.v (.bool (b0 v))):=by
 refine b9 (fn:=Tryz.f8) (c:=Tryz.f8.body.getD .skip) aA ay (by rfl) Tryz.func8 (by rfl) (by rfl) (by rfl) (by rfl) ?_;repeat' ((conv=>whnf);first|refine be ?_|exact .refl|refine dz (Rb _ af) ?_|fail)
def El(m:List Int)(b:Bool)(x:Int):Bool:=bH m x==b
def Em(l m:List Int)(b:Bool)(i:Nat):List (List ak):=((l.take i).filter (El m b)).map aM
theorem ajB(l m:List Int)(b:Bool)(i:Nat): (Em l m b i).length<=i:=by
 simp only[Em,bF]
 grind
theorem Zh(l m:List Int)(af:l.length<=1000000)(tU:m.length<=maxLen)(b:Bool):bl Tryz.prog 41 [.ar 1 (l.map aM) false,.ar 1 (m.map aM) false,.v (.bool b)] (.ar 1 ((l.filter (El m b)).map aM) false):=by
 refine b9 (fn:=Tryz.f41) (c:=Tryz.f41.body.getD .skip) aA ay (by rfl) Tryz.func41 (by rfl) (by rfl) (by rfl) (by rfl) ?_;repeat' ((conv=>whnf);first|refine be ?_|fail)
 refine⟨Nat,λi=>⟨[(0,.ar 1 (l.map aM) false),(1,.ar 1 (m.map aM) false),(2,.v (.bool b)),(7,.own 0),(8,i64 i)],[.row 3 1 (Em l m b i)]⟩,λi=>i<=l.length,λi=>l.length-i,[.ho 7 3 1],⟨0,bX _,?_⟩,?_⟩
 ·conv=>whnf
  exact⟨by repeat' ((conv=>whnf);first|exact trivial|refine aO (by(conv=>arg 1;whnf);first| (with_reducible exact .refl)|exact aX (bW (by omega))|exact .refl) ?_|fail),by repeat' ((conv=>whnf);first|exact trivial|refine aO ?_ ?_|exact .refl|fail),rfl⟩
 ·intro i hi;repeat' ((conv=>whnf);first| (apply bh<;>intro h)|fail)
  ·have ax:i<l.length:=by grind
   clear h;repeat' ((conv=>whnf);first| (apply bh<;>intro h)|refine⟨_,_,aO ⟨rfl,c3 ax⟩ ?_⟩|refine aS (Ly _ tU _) ?_|fail)
   all_goals(conv=>whnf)
   ·have al:=ajB l m b i;refine aO (lU (by grind)) ?_;repeat' ((conv=>whnf);first|refine be ?_|fail)
    all_goals(conv=>whnf)
    refine⟨i+1,ax,by grind,?_⟩;refine⟨⟨.r,.r,.r,.r,aX (bW (by omega)),ai⟩,⟨cK ?_,ai⟩,rfl⟩;simp only[Em,e4 ax,nx,ef];have bp:El m b l[i]=true:=h;simp[yC,bp,aM,dc]
   ·refine⟨i+1,ax,by grind,?_⟩;refine⟨⟨.r,.r,.r,.r,aX (bW (by omega)),ai⟩,⟨cK ?_,ai⟩,rfl⟩;simp only[Em,e4 ax,nx,ef];have bp:El m b l[i]=false:=h
    grind
  ·have fp:¬i<l.length:=by grind
   have:i=l.length:=by omega
   subst this;repeat' ((conv=>whnf);first|refine be ?_|fail)
   all_goals(conv=>whnf)
   refine ig ?_;simp[Em]
theorem Zi(v:aK)(ab:v.mem.length<=1000000)(cut:List Int)(aj:cut.length<=1000000):bl Tryz.prog 18 [.agg (cc v),.ar 1 (cut.map aM) false] (.ar 1 ((pa v cut v.mem cut).2.map aM) false):=by
 have h1:v.mem.length<=maxLen:=bQ ab (by decide);have ad:cut.length<=maxLen:=bQ aj (by decide);refine b9 (fn:=Tryz.f18) (c:=Tryz.f18.body.getD .skip) aA ay (by rfl) Tryz.func18 (by rfl) (by rfl) (by rfl) (by rfl) ?_;repeat' ((conv=>whnf);first|refine be ?_| (apply bh<;>intro h)|refine aS (Ek _ h1) ?_|refine dz (Q8 _ ad) ?_|refine aS (Zh _ _ ab ad _) ?_|fail)
 all_goals(conv=>whnf)
 all_goals(try simp only[Q9]at *)
 all_goals simp only[pa, *,bY,bs]
 ·exact .av
 ·refine ig ?_;congr 1;apply Ju;intro x _;simp[El]
theorem ajC(v:aK)(ab:v.mem.length<=1000000)(cut:List Int)(aj:cut.length<=1000000):bl Tryz.prog 66 [.agg (cc v),.ar 1 (cut.map aM) false] (.ar 1 ((pa v cut cut v.mem).2.map aM) false):=by
 have h1:v.mem.length<=maxLen:=bQ ab (by decide);have ad:cut.length<=maxLen:=bQ aj (by decide);refine b9 (fn:=Tryz.f66) (c:=Tryz.f66.body.getD .skip) aA ay (by rfl) Tryz.func66 (by rfl) (by rfl) (by rfl) (by rfl) ?_;repeat' ((conv=>whnf);first|refine be ?_| (apply bh<;>intro h)|refine aS (Ek _ h1) ?_|refine dz (Q8 _ ad) ?_|refine aS (Zh _ _ aj h1 _) ?_|fail)
 all_goals(conv=>whnf)
 all_goals(try simp only[Q9]at *)
 all_goals simp only[pa, *,bY,bs]
 ·exact .av
 ·refine ig ?_;congr 1;apply Ju;intro x _;simp[El]
def lV(l:List Int)(x:Int):Nat->List Int×Bool
 |0=>([],false)
 |i+1=>bif !(lV l x i).2&&decide (x<l.getD i 0)then((lV l x i).1++ [x]++ [l.getD i 0],true)else((lV l x i).1++ [l.getD i 0],(lV l x i).2)
def En(l:List Int)(x:Int):List Int:=bif (lV l x l.length).2 then(lV l x l.length).1 else(lV l x l.length).1++ [x]
theorem Rc(l:List Int)(x:Int):∀i,(lV l x i).1.length<=i+1/\((lV l x i).2=false->(lV l x i).1.length<=i)
 |0=>by simp[lV]
 |i+1=>by
  have aY:=Rc l x i;simp only[lV];cases h: (lV l x i).2<;>cases ad:decide (x<l.getD i 0)<;>simp_all<;>omega
theorem ajD(l:List Int)(x:Int): (En l x).length<=l.length+1:=by
 have:=Rc l x l.length;unfold En;cases h: (lV l x l.length).2<;>simp_all
theorem ajE(l:List Int)(af:l.length<=1000000)(x:Int):bl Tryz.prog 67 [.ar 1 (l.map aM) false,.v (.int .i64 x)] (.ar 1 ((En l x).map aM) false):=by
 refine b9 (fn:=Tryz.f67) (c:=Tryz.f67.body.getD .skip) aA ay (by rfl) Tryz.func67 (by rfl) (by rfl) (by rfl) (by rfl) ?_;repeat' ((conv=>whnf);first|refine be ?_|fail)
 refine⟨Nat,λi=>⟨[(0,.ar 1 (l.map aM) false),(1,.v (.int .i64 x)),(5,.own 0),(6,.v (.bool (lV l x i).2)),(7,i64 i)],[.row 3 1 ((lV l x i).1.map aM)]⟩,λi=>i<=l.length,λi=>l.length-i,[.ho 5 3 1],⟨0,bX _,?_⟩,?_⟩
 ·conv=>whnf
  exact⟨by repeat' ((conv=>whnf);first|exact trivial|refine aO (by(conv=>arg 1;whnf);first| (with_reducible exact .refl)|exact aX (bW (by omega))|exact .refl) ?_|fail),by repeat' ((conv=>whnf);first|exact trivial|refine aO ?_ ?_|exact .refl|fail),rfl⟩
 ·intro i hi;have al:=Rc l x i;repeat' ((conv=>whnf);first| (apply bh<;>intro h)|fail)
  ·have ax:i<l.length:=by grind
   clear h;have aw:l.getD i 0=l[i]:=by grind
   repeat' ((conv=>whnf);first|refine be ?_| (apply bh<;>intro h)|refine dr ?_|refine⟨_,_,aO ⟨rfl,c3 ax⟩ ?_⟩|refine⟨i,aM (l[i]'ax),aO ⟨⟨λh=>h,λh=>h⟩,λaw=>⟨rfl,c3 ax⟩⟩ ?_⟩|fail)
   all_goals(conv=>whnf)
   ·have e:lV l x (i+1)=((lV l x i).1++ [x]++ [l[i]],true):=by simp only[lV,aw,h,bY]
    refine aO (lU (by grind)) ?_;repeat' ((conv=>whnf);first|refine⟨_,_,aO ⟨rfl,c3 ax⟩ ?_⟩|fail)
    all_goals(conv=>whnf)
    refine aO (lU (by grind)) ?_;repeat' ((conv=>whnf);first|refine be ?_|fail)
    all_goals(conv=>whnf)
    refine⟨i+1,ax,by grind,?_⟩;refine⟨⟨.r,.r,.r,fY (by rw[e]),aX (bW (by omega)),ai⟩,⟨cK ?_,ai⟩,rfl⟩;rw[e];simp[aM,dc]
   ·have e:lV l x (i+1)=((lV l x i).1++ [l[i]],(lV l x i).2):=by simp only[lV,aw,h,bs]
    repeat' ((conv=>whnf);first|refine be ?_|fail)
    all_goals(conv=>whnf)
    refine aO (lU (by grind)) ?_;repeat' ((conv=>whnf);first|refine be ?_|fail)
    all_goals(conv=>whnf)
    refine⟨i+1,ax,by grind,?_⟩;refine⟨⟨.r,.r,.r,fY (by rw[e]),aX (bW (by omega)),ai⟩,⟨cK ?_,ai⟩,rfl⟩;rw[e];simp[aM,dc]
  ·rename_i Re;have fp:¬i<l.length:=by grind
   have:i=l.length:=by omega
   subst this;clear Re;have h: (lV l x l.length).2=false:=by grind
   conv=>whnf
   refine aO (lU (by grind)) ?_;repeat' ((conv=>whnf);first|refine be ?_|fail)
   all_goals(conv=>whnf)
   refine ig ?_;simp only[En,h,bs];simp[aM,dc]
  ·rename_i Re;have fp:¬i<l.length:=by grind
   have:i=l.length:=by omega
   subst this;clear Re;have h: (lV l x l.length).2=true:=by grind
   repeat' ((conv=>whnf);first|refine be ?_|fail)
   all_goals(conv=>whnf)
   refine ig ?_;simp only[En,h,bY]
def zn(l j:List Int):Nat->List Int
 |0=>l
 |i+1=>En (zn l j i) (j.getD i 0)
theorem Zj(l j:List Int):∀i,(zn l j i).length<=l.length+i
 |0=>bP _
 |i+1=>by
  have:=Zj l j i;have ad:=ajD (zn l j i) (j.getD i 0);simp only[zn];omega
def xX(v:aK)(cut:List Int):aK×Int:=
 bif !b0 v|| !dq cut 32 then(⟨0,[]⟩,1)
 else bif decide (2* ((iA v cut).length:Int)<=(v.mem.length:Int))then(⟨0,[]⟩,9)
 else bif decide (v.num=1099511627776)||decide (16<((iA v cut).length:Int)+((e6 v cut).length:Int))then(⟨0,[]⟩,5)
 else(⟨IntKind.i64.wrap (v.num+1),zn (iA v cut) (e6 v cut) (e6 v cut).length⟩,0)
theorem ajF(v:aK)(cut:List Int): (xX v cut).2=(dJ v cut).2:=by
 unfold xX dJ;cases (!b0 v|| !dq cut 32)<;>simp only[bY,bs]
 cases decide (2* ((iA v cut).length:Int)<=(v.mem.length:Int))<;>simp only[bY,bs]
 cases (decide (v.num=1099511627776)||decide (16<((iA v cut).length:Int)+((e6 v cut).length:Int)))<;>simp only[bY,bs]
theorem ajG(v:aK)(ab:v.mem.length<=500000)(cut:List Int)(aj:cut.length<=500000):bl Tryz.prog 38 [.agg (cc v),.ar 1 (cut.map aM) false] (.bd [.agg (cc (xX v cut).1),.v (.int .i64 (xX v cut).2)]):=by
 have h1:v.mem.length<=maxLen:=bQ ab (by decide);have ad:cut.length<=maxLen:=bQ aj (by decide);have aN: (iA v cut).length<=500000:=bQ (Ht _ _ _ _) ab;have bt: (e6 v cut).length<=500000:=bQ (Ht _ _ _ _) aj;have es:bl Tryz.prog 18 [.agg (cc v),.ar 1 (cut.map aM) false] (.ar 1 ((iA v cut).map aM) false):=Zi v (by omega) cut (by omega);have j7:bl Tryz.prog 66 [.agg (cc v),.ar 1 (cut.map aM) false] (.ar 1 ((e6 v cut).map aM) false):=ajC v (by omega) cut (by omega);have eE:IntKind.i64.wrap (2* ((iA v cut).length:Int))=2* ((iA v cut).length:Int):=dW (by omega) (by omega);have gW:IntKind.i64.wrap (((iA v cut).length:Int)+((e6 v cut).length:Int))=((iA v cut).length:Int)+((e6 v cut).length:Int):=dW (by omega) (by omega);refine fM Tryz.func38 ?_;repeat' ((conv=>whnf);first|refine be ?_| (apply bh<;>intro h)|refine dr ?_|refine aS (Ek _ h1) ?_|refine dz (Q8 _ ad) ?_|refine aS es ?_|refine aS j7 ?_|fail)
 all_goals(conv=>whnf)
 all_goals(try simp only[bF,eE,gW,Q9]at *)
 ·simp only[xX, *,bY,bs];exact eO ⟨h6 ⟨.r,.av,ai⟩,.r,ai⟩
 ·simp only[xX, *,bY,bs];exact eO ⟨h6 ⟨.r,.av,ai⟩,.r,ai⟩
 ·simp only[xX, *,bY,bs];exact eO ⟨h6 ⟨.r,.av,ai⟩,.r,ai⟩
 ·have e:xX v cut=(⟨IntKind.i64.wrap (v.num+1),zn (iA v cut) (e6 v cut) (e6 v cut).length⟩,0):=by simp only[xX, *,bY,bs]
  rw[e];refine⟨Nat,λi=>⟨[(2,.aV 0 0),(4,.aV 1 0),(6,.ar 1 ((zn (iA v cut) (e6 v cut) i).map aM) false),(7,.ar 1 ((e6 v cut).map aM) false),(8,i64 i)],[.cells 24 (cc v),.cells 24 [.v (.int .i64 0),.av]]⟩,λi=>i<=(e6 v cut).length,λi=>(e6 v cut).length-i,[],⟨0,bX _,?_⟩,?_⟩
  ·exact⟨by repeat' ((conv=>whnf);first|exact trivial|refine aO (by(conv=>arg 1;whnf);first| (with_reducible exact .refl)|exact aX (bW (by omega))|exact .refl) ?_|fail),by repeat' ((conv=>whnf);first|exact trivial|refine aO ?_ ?_|exact .refl|fail),rfl⟩
  ·intro i hi;have af:=Zj (iA v cut) (e6 v cut) i;repeat' ((conv=>whnf);first| (apply bh<;>intro h)|fail)
   ·have ax:i<(e6 v cut).length:=by simpa using h
    repeat' ((conv=>whnf);first|refine⟨_,_,aO ⟨rfl,c3 ax⟩ ?_⟩|refine aS (ajE _ (by omega) _) ?_|fail)
    all_goals(conv=>whnf)
    refine⟨i+1,ax,by simp only[];omega,?_⟩;refine⟨⟨.r,.r,ig ?_,.r,aX (bW (by omega)),ai⟩,⟨.r,.r,ai⟩,rfl⟩;have aw: (e6 v cut).getD i 0=(e6 v cut)[i]:=by simp[ax]
    simp only[zn,aw]
   ·have fp:¬i<(e6 v cut).length:=by simpa using h
    have:i=(e6 v cut).length:=by omega
    subst this;repeat' ((conv=>whnf);first|exact .refl|fail)
theorem ajH(v:aK)(ab:v.mem.length<=500000)(cut:List Int)(aj:cut.length<=500000):bl Tryz.prog 15 [.agg (cc v),.ar 1 (cut.map aM) false] (.v (.bool (decide ((dJ v cut).2=0)))):=by
 rw[<-ajF];refine b9 (fn:=Tryz.f15) (c:=Tryz.f15.body.getD .skip) aA ay (by rfl) Tryz.func15 (by rfl) (by rfl) (by rfl) (by rfl) ?_;repeat' ((conv=>whnf);first|exact .refl|refine aS (ajG _ ab _ aj) ?_|fail)
theorem ajI{v:aK}(ab:b0 v=true):dq v.mem 16=true:=by
 simp only[b0,cq]at ab
 grind
theorem mK{v:aK}(ab:b0 v=true):1<=v.mem.length/\v.mem.length<=16:=by
 have hM:=ajI ab;rw[BC]at hM
 grind
theorem ajJ{i:Nat}(h:i<l.length):bH l l[i]=true:=by
 rcases az: (List.range l.length).find? (λj=>decide (l[j]?=some l[i]))with _|n
 ·have:=Ar.1 az i (uF.2 h)
  grind
 ·simp only[bH,gG,lx,az];rfl
theorem gz{x:Int}:bH l x=true↔x∈l:=by
 constructor
 ·intro h;rcases az: (List.range l.length).find? (λi=>decide (l[i]?=some x))with _|n
  ·simp only[bH,gG,lx,az]at h;cases h
  grind
 ·intro h;obtain⟨i,hi,rfl⟩:=e8 h;exact ajJ hi
theorem Lz(l:List Int):hx l l=true:=by
 simp only[hx,wb,rH];exact ij.2 (λj _=>by simp)
theorem zo{a b:List Int}:hx a b=true↔a=b:=by
 constructor
 ·intro h;simp only[hx,cq,fr,ij]at h;refine FL (by omega) λi h1 ad=> ?_
  grind
 ·rintro rfl;exact Lz a
theorem ajK{r:List ak}(h:wO ag (n+2) 22 r):∃l:List Int,r=[.ar 1 (l.map aM) false]/\l.length<=maxLen:=by
 obtain⟨es,rfl,af,tM⟩:=h;obtain⟨d,rfl,_⟩:=Yv (f:=aM) (Q:=λ_=>True) (λr ao=>by
  obtain⟨i,rfl,_⟩:=tM r ao;exact⟨i,rfl,ai⟩)
 exact⟨d,rfl,by grind⟩
theorem ajL{r:List ak}(h:wO ag (n+3) 24 r):∃a:aK,r=cc a/\a.mem.length<=maxLen:=by
 obtain⟨p,q,rfl,⟨ajM,rfl,_⟩,l,s,rfl,af,rfl⟩:=h;obtain⟨l,rfl,iP⟩:=ajK (n:=n) af;exact⟨⟨ajM,l⟩,rfl,iP⟩
def n1(a b:Int):Int:=bif decide (a<b)then -1 else bif decide (b<a)then 1 else 0
theorem Hu(a b:Int): (n1 a b<0↔a<b)/\(n1 a b=0↔a=b)/\(n1 a b= -1\/n1 a b=0\/n1 a b=1):=by
 unfold n1
 grind
theorem ajN(a:Int):bl Tryz.prog 206 [.v (.int .u64 a)] (.v (.bool false)):=by
 refine b9 (fn:=Tryz.f206) (c:=Tryz.f206.body.getD .skip) aA ay (by rfl) Tryz.func206 (by rfl) (by rfl) (by rfl) (by rfl) ?_;repeat' ((conv=>whnf);first|refine be ?_|fail)
 all_goals(conv=>whnf)
 refine fY ?_;simp
theorem Zk(a b:Int):bl Tryz.prog 171 [.v (.int .u64 a),.v (.int .u64 b)] (.v (.int .i64 (n1 a b))):=by
 refine b9 (fn:=Tryz.f171) (c:=Tryz.f171.body.getD .skip) aA ay (by rfl) Tryz.func171 (by rfl) (by rfl) (by rfl) (by rfl) ?_;repeat' ((conv=>whnf);first| (apply bh<;>intro h)|refine aS (ajN _) ?_|fail)
 all_goals(conv=>whnf)
 all_goals refine aX ?_
 all_goals simp only[n1, *,bY,bs]
def u64(n:Int):ak:=.v (.int .u64 n)
def LA(x s f:Int):Int:=IntKind.u64.wrap (bits .xor .u64 x (x.fdiv (2^ (min s.toNat 64))) *f)
def LB(x:Int):Nat->Int
 |0=>x
 |1=>LA x 30 13787848793156543929
 |_=>LA (LA x 30 13787848793156543929) 27 10723151780598845931
def xY(x:Int):Int:=bits .xor .u64 (LB x 2) ((LB x 2).fdiv (2^ (min (31:Int).toNat 64)))
theorem ajO:bl Tryz.prog 244 [] (.agg [u64 30,u64 27,u64 31]):=by
 refine b9 (fn:=Tryz.f244) (c:=Tryz.f244.body.getD .skip) aA ay (by rfl) Tryz.func244 (by rfl) (by rfl) (by rfl) (by rfl) ?_;repeat' ((conv=>whnf);first|exact .refl|fail)
theorem ajP:bl Tryz.prog 245 [] (.agg [u64 13787848793156543929,u64 10723151780598845931]):=by
 refine b9 (fn:=Tryz.f245) (c:=Tryz.f245.body.getD .skip) aA ay (by rfl) Tryz.func245 (by rfl) (by rfl) (by rfl) (by rfl) ?_;repeat' ((conv=>whnf);first|exact .refl|fail)
theorem ajQ(x:Int):bl Tryz.prog 231 [u64 x] (u64 (xY x)):=by
 refine b9 (fn:=Tryz.f231) (c:=Tryz.f231.body.getD .skip) aA ay (by rfl) Tryz.func231 (by rfl) (by rfl) (by rfl) (by rfl) ?_;repeat' ((conv=>whnf);first|refine aS ajO ?_|refine aS ajP ?_|fail)
 refine⟨Nat,λi=>⟨[(0,u64 (LB x i)),(3,.aV 0 0),(4,.aV 1 0),(8,i64 i)],[.cells 285 [u64 30,u64 27,u64 31],.cells 287 [u64 13787848793156543929,u64 10723151780598845931]]⟩,λi=>i<=2,λi=>2-i,[],⟨0,bX _,?_⟩,?_⟩
 ·exact⟨by repeat' ((conv=>whnf);first|exact trivial|refine aO (by(conv=>arg 1;whnf);first| (with_reducible exact .refl)|exact aX (bW (by omega))|exact .refl) ?_|fail),by repeat' ((conv=>whnf);first|exact trivial|refine aO ?_ ?_|exact .refl|fail),rfl⟩
 ·intro i hi;repeat' ((conv=>whnf);first| (apply bh<;>intro h)| (refine aO ?_ ?_;focus (simp;done))|fail)
  ·have ax:i<2:=by
    grind
   clear h;have aj:i=0\/i=1:=by omega
   rcases aj with rfl|rfl
   ·repeat' ((conv=>whnf);first|refine cd ?_|refine⟨0,aO ⟨rfl,by decide⟩ ?_⟩|refine⟨.v (.int .u64 30),aO rfl ?_⟩|refine⟨.v (.int .u64 13787848793156543929),aO rfl ?_⟩| (refine aO ?_ ?_;focus (simp;done))|fail)
    all_goals(conv=>whnf)
    refine⟨1,by omega,by decide,?_⟩;exact⟨⟨aX rfl,.r,.r,.r,ai⟩,⟨.r,.r,ai⟩,rfl⟩
   ·repeat' ((conv=>whnf);first|refine cd ?_|refine⟨1,aO ⟨rfl,by decide⟩ ?_⟩|refine⟨.v (.int .u64 27),aO rfl ?_⟩|refine⟨.v (.int .u64 10723151780598845931),aO rfl ?_⟩| (refine aO ?_ ?_;focus (simp;done))|fail)
    all_goals(conv=>whnf)
    refine⟨2,by omega,by decide,?_⟩;exact⟨⟨aX rfl,.r,.r,.r,ai⟩,⟨.r,.r,ai⟩,rfl⟩
  ·have:i=2:=by
    grind
   subst this;repeat' ((conv=>whnf);first|exact .refl|fail)
   all_goals(conv=>whnf)
   all_goals trace_state
def LC(h x:Int):Int:=xY (IntKind.u64.wrap (h+IntKind.u64.wrap (11400714819323198485*IntKind.u64.wrap (x+1))))
theorem ajR(h x:Int):bl Tryz.prog 205 [u64 h,u64 x] (u64 (LC h x)):=by
 refine b9 (fn:=Tryz.f205) (c:=Tryz.f205.body.getD .skip) aA ay (by rfl) Tryz.func205 (by rfl) (by rfl) (by rfl) (by rfl) ?_;repeat' ((conv=>whnf);first|exact .refl|refine aS (ajQ _) ?_|fail)
def cW(r m:Int):Int:=LC (IntKind.u64.wrap r) (IntKind.u64.wrap m)
theorem Hv(r m:Int):bl Tryz.prog 168 [i64 r,i64 m] (u64 (cW r m)):=by
 refine b9 (fn:=Tryz.f168) (c:=Tryz.f168.body.getD .skip) aA ay (by rfl) Tryz.func168 (by rfl) (by rfl) (by rfl) (by rfl) ?_;repeat' ((conv=>whnf);first|exact .refl|refine aS (ajR _ _) ?_|fail)
open Go.Sort (SWO)
def sU{β:Type}(cf:β->β->Int)(l:List β):List β:=l.mergeSort λx y=> !Go.Proofs.ltOf cf y x
theorem zp{β:Type}(cf:β->β->Int)(l:List β): (sU cf l).Perm l:=OA _ _
theorem Rf{β:Type}{cf:β->β->Int}(hO:SWO (Go.Proofs.ltOf cf))(l:List β): (sU cf l).Pairwise λx y=>Go.Proofs.ltOf cf y x=false:=by
 have h:=OC (le:=λx y=> !Go.Proofs.ltOf cf y x) (λa b c h1 ad=>by
  simp only[mV]at *;exact hO.ntrans _ _ _ ad h1) (λa b=>by
  cases h:Go.Proofs.ltOf cf b a
  ·simp
  ·cases ad:Go.Proofs.ltOf cf a b
   ·simp
   ·have:=hO.trans _ _ _ h ad;rw[hO.irrefl]at this
    grind) l
 exact h.imp λh=>by grind
theorem sV{β:Type}{cf:β->β->Int}{l:List β}{x:β}:x∈sU cf l↔x∈l:=(zp cf l).mem_iff
theorem Eo{β:Type}(cf:β->β->Int)(l:List β): (sU cf l).length=l.length:=(zp cf l).length_eq
theorem ajS(l:List Int)(af:l.length<=maxLen)(x:Int):bl Tryz.prog 185 [.ar 1 (l.map aM) false,.v (.int .i64 x)] (.v (.int .i64 (gG l x))):=by
 have hs:l.length<=9223372036854775807:=af;refine b9 (fn:=Tryz.f185) (c:=Tryz.f185.body.getD .skip) aA ay (by rfl) Tryz.func185 (by rfl) (by rfl) (by rfl) (by rfl) ?_;repeat' ((conv=>whnf);first|refine be ?_|fail)
 refine⟨Nat,λi=>⟨[(0,.ar 1 (l.map aM) false),(1,.v (.int .i64 x)),(7,i64 l.length),(8,i64 i)],[]⟩,λi=>i<=l.length/\∀j,j<i->decide (l[j]?=some x)=false,λi=>l.length-i,[],⟨0,⟨bX _,by omega⟩,?_⟩,?_⟩
 ·exact⟨⟨.r,.r,aX (by simp),.r,ai⟩,ai,rfl⟩
 ·intro i ⟨hi,ct⟩;repeat' ((conv=>whnf);first| (apply bh<;>intro h)|fail)
  ·have ax:i<l.length:=by grind
   repeat' ((conv=>whnf);first| (apply bh<;>intro h)|refine⟨_,_,aO ⟨rfl,c3 ax⟩ ?_⟩|fail)
   ·have ad:=h;refine aX (wR ax ?_ ct).symm
    grind
   ·have ad:=h;conv=>whnf
    refine⟨i+1,⟨ax,λj aq=> ?_⟩,by grind,?_⟩
    ·grind
    ·exact⟨by repeat' ((conv=>whnf);first|exact trivial|refine aO (by(conv=>arg 1;whnf);first| (with_reducible exact .refl)|exact aX (bW (by omega))|exact .refl) ?_|fail),by repeat' ((conv=>whnf);first|exact trivial|fail),rfl⟩
  ·have fp:¬i<l.length:=by grind
   conv=>whnf
   refine aX (tQ (λj aq=>ct j (by omega))).symm
theorem Zl(l:List Int)(af:l.length<=maxLen)(x:Int):bl Tryz.prog 122 [.ar 1 (l.map aM) false,.v (.int .i64 x)] (.v (.bool (bH l x))):=by
 refine b9 (fn:=Tryz.f122) (c:=Tryz.f122.body.getD .skip) aA ay (by rfl) Tryz.func122 (by rfl) (by rfl) (by rfl) (by rfl) ?_;repeat' ((conv=>whnf);first|exact .refl|refine aS (ajS _ af _) ?_|fail)
theorem ajT:wU l=true↔l.Pairwise (· < ·)/\∀x∈l,1<=x/\x<=1000:=by
 rw[Lx];constructor
 ·intro h;have avy:∀i (hi:i+1<l.length),l[i]<l[i+1]:=λi hi=>by
   grind
  refine⟨?_,λx ah=> ?_⟩
  ·rw[mz];intro i j hi aq fW;have key:∀d (aa:i+(d+1)<l.length),l[i]<l[i+(d+1)]:=by
    intro d;induction d with
    |zero=>grind
    |succ d aY=>
     grind
   have:=key (j-i-1) (by omega);simpa[show i+(j-i-1+1)=j by omega]using this
  ·obtain⟨i,hi,rfl⟩:=e8 ah
   grind
 ·intro ⟨h1,ad⟩ i hi;have:=ad _ (eM hi);refine⟨this.1,this.2,λaR=> ?_⟩;have aN:=mz.1 h1 (i-1) i (by omega) hi (by omega)
  grind
theorem lW{m:Int}:dq l m=true↔ (1<=(l.length:Int)/\(l.length:Int)<=m)/\l.Pairwise (· < ·)/\∀x∈l,1<=x/\x<=1000:=by
 rw[BC];simp only[cq,fr,ajT]
theorem BD(h:l.Pairwise (· < ·)):l.Nodup:=h.imp (λh=>by omega)
theorem zq(n:Int):IntKind.u64.wrap n=n%18446744073709551616:=by
 rfl
theorem rj(n:Int):0<=IntKind.u64.wrap n/\IntKind.u64.wrap n<18446744073709551616:=by
 rw[zq];omega
theorem j8{n:Int}(h1:0<=n)(ad:n<18446744073709551616):IntKind.u64.wrap n=n:=by
 rw[zq];omega
def xs(s x:Nat):Nat:=x^^^ (x>>>s)
theorem Ep{s x:Nat}(h:x<2^64):xs s x<2^64:=by
 unfold xs;refine Nat.xor_lt_two_pow h ?_;rw[OL];exact OJ (Nat.div_le_self _ _) h
theorem Rg{s x y:Nat}(ae:0<s)(ah:x<2^64)(bn:y<2^64)(h:xs s x=xs s y):x=y:=by
 have key:∀d i,i+d=64\/64<=i->x.testBit i=y.testBit i:=by
  intro d;induction d using Nat.strongRecOn with
  |ind d aY=>
   intro i hi;rcases l5 i 64 with eN|eN
   ·have ac:=e9 (λn=>n.testBit i) h;simp only[xs,Nat.testBit_xor,Nat.testBit_shiftRight]at ac;have aW:x.testBit (s+i)=y.testBit (s+i):=by
     rcases l5 (s+i) 64 with iV|iV
     ·exact aY (64- (s+i)) (by omega) (s+i) (.inl (by omega))
     ·exact aY 0 (by omega) (s+i) (.inr iV)
    grind
   ·rw[VN (Ay ah (JH (by decide) eN)),VN (Ay bn (JH (by decide) eN))]
 refine Nat.eq_of_testBit_eq λi=> ?_;rcases l5 i 64 with eN|eN
 ·exact key (64-i) i (.inl (by omega))
 ·exact key 0 i (.inr eN)
variable{x:Nat}
theorem Rh(h:x<2^64)(s:Nat):bits .xor .u64 (x:Int) ((x:Int).fdiv (2^s))=((xs s x:Nat):Int):=by
 have aa: (x:Int).fdiv (2^s)=((x>>>s:Nat):Int):=by
  rw[Vx _ (Int.pow_nonneg (by decide)),OL];rfl
 rw[aa];have ad:x>>>s<2^64:=by
  rw[OL];exact OJ (Nat.div_le_self _ _) h
 have e: (BitVec.ofInt 64 (x:Int)^^^BitVec.ofInt 64 ((x>>>s:Nat):Int)).toNat=xs s x:=by
  rw[BitVec.toNat_xor,FD,FD,FE,FE,ss h,ss ad];rfl
 show IntKind.u64.wrap ((BitVec.ofInt 64 (x:Int)^^^BitVec.ofInt 64 ((x>>>s:Nat):Int)).toNat:Int)=_;rw[e];have:=Ep (s:=s) h;exact j8 (by omega) (by omega)
theorem Ri{c ci a b:Int}(aj:c*ci%18446744073709551616=1)(bb:0<=a/\a<18446744073709551616)(ac:0<=b/\b<18446744073709551616)(h:IntKind.u64.wrap (a*c)=IntKind.u64.wrap (b*c)):a=b:=by
 rw[zq,zq]at h;have h1: (a*c*ci)%18446744073709551616=(b*c*ci)%18446744073709551616:=by
  rw[Js,h,<-Js]
 rw[Int.mul_assoc,Int.mul_assoc,Js a,Js b,aj]at h1;omega
def Hw(x:Nat):Nat:=xs 31 ((IntKind.u64.wrap ((xs 27 ((IntKind.u64.wrap ((xs 30 x:Nat) *13787848793156543929)).toNat):Nat) *10723151780598845931)).toNat)
theorem Er(n:Int): (((IntKind.u64.wrap n).toNat:Nat):Int)=IntKind.u64.wrap n:=Int.toNat_of_nonneg (rj n).1
theorem xZ(n:Int): (IntKind.u64.wrap n).toNat<2^64:=by
 have:=rj n;omega
theorem Rj(h:x<2^64):xY (x:Int)=((Hw x:Nat):Int):=by
 have ajU:min (30:Int).toNat 64=30:=rfl;have ajV:min (27:Int).toNat 64=27:=rfl;have ajW:min (31:Int).toNat 64=31:=rfl;unfold xY;simp only[LB,LA,ajU,ajV,ajW];rw[Rh h];rw[<-Er ((xs 30 x:Nat) *13787848793156543929)];rw[Rh (xZ _)];rw[<-Er (((xs 27 _:Nat):Int) *10723151780598845931)];rw[Rh (xZ _)];rfl
theorem ajX{y:Nat}(ah:x<2^64)(bn:y<2^64)(h:Hw x=Hw y):x=y:=by
 unfold Hw at h;have h1:=Rg (by decide) (xZ _) (xZ _) h;have ad:IntKind.u64.wrap (((xs 27 ((IntKind.u64.wrap ((xs 30 x:Nat) *13787848793156543929)).toNat):Nat):Int) *10723151780598845931)=IntKind.u64.wrap (((xs 27 ((IntKind.u64.wrap ((xs 30 y:Nat) *13787848793156543929)).toNat):Nat):Int) *10723151780598845931):=by
  rw[<-Er,<-Er (((xs 27 ((IntKind.u64.wrap ((xs 30 y:Nat) *13787848793156543929)).toNat):Nat):Int) *10723151780598845931),h1]
 have cY:=Ep (s:=27) (xZ ((xs 30 x:Nat) *13787848793156543929));have cZ:=Ep (s:=27) (xZ ((xs 30 y:Nat) *13787848793156543929));have aN:=Ri (ci:=3573116690164977347) (by decide) (by omega) (by omega) ad;have bt:=Rg (by decide) (xZ _) (xZ _) (Ol.1 aN);have b5:IntKind.u64.wrap (((xs 30 x:Nat):Int) *13787848793156543929)=IntKind.u64.wrap (((xs 30 y:Nat):Int) *13787848793156543929):=by
  rw[<-Er,<-Er (((xs 30 y:Nat):Int) *13787848793156543929),bt]
 have iN:=Ep (s:=30) ah;have mm:=Ep (s:=30) bn;have eN:=Ri (ci:=10871156337175269513) (by decide) (by omega) (by omega) b5;exact Rg (by decide) ah bn (Ol.1 eN)
variable{a:Int}
theorem ajY(h1:0<=a)(ad:a<18446744073709551616):0<=xY a/\xY a<18446744073709551616:=by
 obtain⟨x,rfl⟩:=qU h1;have:=Rj (x:=x) (by omega);have aN:Hw x<2^64:=Ep (xZ _);omega
theorem ajZ{b:Int}(h1:0<=a)(ad:a<18446744073709551616)(aN:0<=b)(bt:b<18446744073709551616)(h:xY a=xY b):a=b:=by
 obtain⟨x,rfl⟩:=qU h1;obtain⟨y,rfl⟩:=qU aN;rw[Rj (x:=x) (by omega),Rj (x:=y) (by omega)]at h;rw[ajX (by omega) (by omega) (Ol.1 h)]
theorem zr(r m:Int):0<=cW r m/\cW r m<18446744073709551616:=ajY (rj _).1 (rj _).2
theorem Rk{r a b:Int}(bb:1<=a/\a<=1000)(ac:1<=b/\b<=1000)(h:cW r a=cW r b):a=b:=by
 unfold cW LC at h;have h1:=ajZ (rj _).1 (rj _).2 (rj _).1 (rj _).2 h;rw[j8 (n:=a) (by omega) (by omega),j8 (n:=b) (by omega) (by omega),j8 (n:=a+1) (by omega) (by omega),j8 (n:=b+1) (by omega) (by omega)]at h1;have dE:=rj (11400714819323198485* (a+1));have dL:=rj (11400714819323198485* (b+1));have ad:IntKind.u64.wrap (11400714819323198485* (a+1))=IntKind.u64.wrap (11400714819323198485* (b+1)):=by
  generalize IntKind.u64.wrap (11400714819323198485* (a+1))=p at *;generalize IntKind.u64.wrap (11400714819323198485* (b+1))=q at *;have aj0:=rj r;generalize IntKind.u64.wrap r=R at h1 aj0;rw[zq (R+p),zq (R+q)]at h1;omega
 rw[Int.mul_comm,Int.mul_comm 11400714819323198485]at ad;have:=Ri (ci:=17428512612931826493) (by decide) (by omega) (by omega) ad;omega
end Go.Proofs.YtdcfooeoaoahjaaGreat
namespace Go.Proofs
open Go.Shelf
def Tryz.aj1:Go.Shelf.Ren:=⟨fun|6=>223|15=>173|14=>242|28=>216|29=>217|20=>247|21=>248|22=>249|23=>250|24=>251|25=>252|26=>253|27=>254|46=>255|47=>233|48=>234|49=>256|50=>257|57=>258|n=>n,fun|22=>22|24=>3|25=>231|3=>3|39=>57|0=>0|53=>92|55=>34|4=>4|46=>256|45=>255|50=>260|5=>5|9=>9|66=>274|70=>278|76=>289|77=>290|n=>n,fun|n=>n⟩
theorem Tryz.Rl:Go.Proofs.SlLaysF.n6 Tryz.prog Tryz.aj1:={
 mixed:=by rfl
 f6:=⟨Tryz.f223.name,by decide,Tryz.func223.trans (e9 some (by rfl))⟩
 f14:=⟨Tryz.f242.name,by decide,Tryz.func242.trans (e9 some (by rfl))⟩
 f15:=Tryz.func173.trans (e9 some (by rfl))
 f20:=⟨Tryz.f247.name,by decide,Tryz.func247.trans (e9 some (by rfl))⟩
 f21:=⟨Tryz.f248.name,by decide,Tryz.func248.trans (e9 some (by rfl))⟩
 f22:=⟨Tryz.f249.name,by decide,Tryz.func249.trans (e9 some (by rfl))⟩
 f23:=⟨Tryz.f250.name,by decide,Tryz.func250.trans (e9 some (by rfl))⟩
 f24:=⟨Tryz.f251.name,by decide,Tryz.func251.trans (e9 some (by rfl))⟩
 f25:=⟨Tryz.f252.name,by decide,Tryz.func252.trans (e9 some (by rfl))⟩
 f26:=⟨Tryz.f253.name,by decide,Tryz.func253.trans (e9 some (by rfl))⟩
 f27:=⟨Tryz.f254.name,by decide,Tryz.func254.trans (e9 some (by rfl))⟩
 f28:=Tryz.func216.trans (e9 some (by rfl))
 f29:=Tryz.func217.trans (e9 some (by rfl))
 f46:=⟨Tryz.f255.name,by decide,Tryz.func255.trans (e9 some (by rfl))⟩
 f47:=Tryz.func233.trans (e9 some (by rfl))
 f48:=Tryz.func234.trans (e9 some (by rfl))
 f49:=⟨Tryz.f256.name,by decide,Tryz.func256.trans (e9 some (by rfl))⟩
 f50:=⟨Tryz.f257.name,by decide,Tryz.func257.trans (e9 some (by rfl))⟩
 f57:=⟨Tryz.f258.name,by decide,Tryz.func258.trans (e9 some (by rfl))⟩
 t0:=Tryz.underlying0
 a0:=Tryz.isAgg0
 z0:=Tryz.sizeOf0
 v0:=Tryz.zeroValue0
 t3:=Tryz.underlying3
 a3:=Tryz.isAgg3
 z3:=Tryz.sizeOf3
 v3:=Tryz.zeroValue3
 t4:=Tryz.underlying4
 a4:=Tryz.isAgg4
 z4:=Tryz.sizeOf4
 v4:=Tryz.zeroValue4
 t5:=Tryz.underlying5
 a5:=Tryz.isAgg5
 z5:=Tryz.sizeOf5
 v5:=Tryz.zeroValue5
 t9:=Tryz.underlying9
 a9:=Tryz.isAgg9
 z9:=Tryz.sizeOf9
 v9:=Tryz.zeroValue9
 t22:=Tryz.underlying22
 a22:=Tryz.isAgg22
 z22:=Tryz.sizeOf22
 v22:=Tryz.zeroValue22
 a24:=Tryz.isAgg3
 z24:=Tryz.sizeOf3
 t25:=Tryz.underlying231
 a25:=Tryz.isAgg231
 z25:=Tryz.sizeOf231
 v25:=Tryz.zeroValue231
 t39:=Tryz.underlying57
 a39:=Tryz.isAgg57
 z39:=Tryz.sizeOf57
 v39:=Tryz.zeroValue57
 t45:=Tryz.underlying255
 a45:=Tryz.isAgg255
 z45:=Tryz.sizeOf255
 v45:=Tryz.zeroValue255
 t46:=Tryz.underlying256
 a46:=Tryz.isAgg256
 z46:=Tryz.sizeOf256
 v46:=Tryz.zeroValue256
 t50:=Tryz.underlying260
 a50:=Tryz.isAgg260
 z50:=Tryz.sizeOf260
 v50:=Tryz.zeroValue260
 t53:=Tryz.underlying92
 a53:=Tryz.isAgg92
 z53:=Tryz.sizeOf92
 v53:=Tryz.zeroValue92
 t55:=Tryz.underlying34
 a55:=Tryz.isAgg34
 z55:=Tryz.sizeOf34
 v55:=Tryz.zeroValue34
 t66:=Tryz.underlying274
 a66:=Tryz.isAgg274
 z66:=Tryz.sizeOf274
 v66:=Tryz.zeroValue274
 t70:=Tryz.underlying278
 a70:=Tryz.isAgg278
 z70:=Tryz.sizeOf278
 v70:=Tryz.zeroValue278
 t76:=Tryz.underlying289
 a76:=Tryz.isAgg289
 z76:=Tryz.sizeOf289
 v76:=Tryz.zeroValue289
 t77:=Tryz.underlying290
 a77:=Tryz.isAgg290
 z77:=Tryz.sizeOf290
 v77:=Tryz.zeroValue290}
def Tryz.aj2:Go.Shelf.Ren:=⟨fun|189=>101|125=>173|257=>172|128=>216|129=>217|294=>207|295=>208|296=>209|297=>210|298=>211|299=>212|216=>213|300=>214|301=>215|328=>232|329=>233|330=>234|331=>235|332=>236|215=>237|343=>246|n=>n,fun|28=>22|3=>3|46=>57|0=>0|51=>92|53=>34|4=>4|183=>256|182=>255|131=>260|5=>5|9=>9|218=>274|222=>278|228=>289|229=>290|n=>n,fun|n=>n⟩
theorem Tryz.pV:Go.Proofs.Lays.n189 Tryz.prog Tryz.aj2:={
 mixed:=by rfl
 f125:=Tryz.func173.trans (e9 some (by rfl))
 f128:=Tryz.func216.trans (e9 some (by rfl))
 f129:=Tryz.func217.trans (e9 some (by rfl))
 f189:=Tryz.func101.trans (e9 some (by rfl))
 f215:=Tryz.func237.trans (e9 some (by rfl))
 f216:=Tryz.func213.trans (e9 some (by rfl))
 f257:=Tryz.func172.trans (e9 some (by rfl))
 f294:=Tryz.func207.trans (e9 some (by rfl))
 f295:=Tryz.func208.trans (e9 some (by rfl))
 f296:=Tryz.func209.trans (e9 some (by rfl))
 f297:=Tryz.func210.trans (e9 some (by rfl))
 f298:=Tryz.func211.trans (e9 some (by rfl))
 f299:=Tryz.func212.trans (e9 some (by rfl))
 f300:=Tryz.func214.trans (e9 some (by rfl))
 f301:=Tryz.func215.trans (e9 some (by rfl))
 f328:=Tryz.func232.trans (e9 some (by rfl))
 f329:=Tryz.func233.trans (e9 some (by rfl))
 f330:=Tryz.func234.trans (e9 some (by rfl))
 f331:=Tryz.func235.trans (e9 some (by rfl))
 f332:=Tryz.func236.trans (e9 some (by rfl))
 f343:=Tryz.func246.trans (e9 some (by rfl))
 t0:=Tryz.underlying0
 a0:=Tryz.isAgg0
 z0:=Tryz.sizeOf0
 v0:=Tryz.zeroValue0
 t3:=Tryz.underlying3
 a3:=Tryz.isAgg3
 z3:=Tryz.sizeOf3
 v3:=Tryz.zeroValue3
 t4:=Tryz.underlying4
 a4:=Tryz.isAgg4
 z4:=Tryz.sizeOf4
 v4:=Tryz.zeroValue4
 t5:=Tryz.underlying5
 a5:=Tryz.isAgg5
 z5:=Tryz.sizeOf5
 v5:=Tryz.zeroValue5
 t9:=Tryz.underlying9
 a9:=Tryz.isAgg9
 z9:=Tryz.sizeOf9
 v9:=Tryz.zeroValue9
 t28:=Tryz.underlying22
 a28:=Tryz.isAgg22
 z28:=Tryz.sizeOf22
 v28:=Tryz.zeroValue22
 t46:=Tryz.underlying57
 a46:=Tryz.isAgg57
 z46:=Tryz.sizeOf57
 v46:=Tryz.zeroValue57
 t51:=Tryz.underlying92
 a51:=Tryz.isAgg92
 z51:=Tryz.sizeOf92
 v51:=Tryz.zeroValue92
 t53:=Tryz.underlying34
 a53:=Tryz.isAgg34
 z53:=Tryz.sizeOf34
 v53:=Tryz.zeroValue34
 t131:=Tryz.underlying260
 a131:=Tryz.isAgg260
 z131:=Tryz.sizeOf260
 v131:=Tryz.zeroValue260
 t182:=Tryz.underlying255
 a182:=Tryz.isAgg255
 z182:=Tryz.sizeOf255
 v182:=Tryz.zeroValue255
 t183:=Tryz.underlying256
 a183:=Tryz.isAgg256
 z183:=Tryz.sizeOf256
 v183:=Tryz.zeroValue256
 t218:=Tryz.underlying274
 a218:=Tryz.isAgg274
 z218:=Tryz.sizeOf274
 v218:=Tryz.zeroValue274
 t222:=Tryz.underlying278
 a222:=Tryz.isAgg278
 z222:=Tryz.sizeOf278
 v222:=Tryz.zeroValue278
 t228:=Tryz.underlying289
 a228:=Tryz.isAgg289
 z228:=Tryz.sizeOf289
 v228:=Tryz.zeroValue289
 t229:=Tryz.underlying290
 a229:=Tryz.isAgg290
 z229:=Tryz.sizeOf290
 v229:=Tryz.zeroValue290}
def Tryz.aj3:Go.Shelf.Ren:=⟨fun|20=>102|n=>n,fun|22=>22|3=>3|4=>4|0=>0|n=>n,fun|n=>n⟩
theorem Tryz.n1:Go.Proofs.Lays2.n20 Tryz.prog Tryz.aj3:={
 mixed:=by rfl
 f20:=Tryz.func102.trans (e9 some (by rfl))
 t0:=Tryz.underlying0
 a0:=Tryz.isAgg0
 z0:=Tryz.sizeOf0
 v0:=Tryz.zeroValue0
 t3:=Tryz.underlying3
 a3:=Tryz.isAgg3
 z3:=Tryz.sizeOf3
 v3:=Tryz.zeroValue3
 t4:=Tryz.underlying4
 a4:=Tryz.isAgg4
 z4:=Tryz.sizeOf4
 v4:=Tryz.zeroValue4
 t22:=Tryz.underlying22
 a22:=Tryz.isAgg22
 z22:=Tryz.sizeOf22
 v22:=Tryz.zeroValue22
 i3:=by rfl}
end Go.Proofs
namespace Go.Proofs.YtdcfooeoaoahjaaGreat
open Go.Lift
open Go.Sort (SWO)
def nF(r a b:Int):Int:=n1 (cW r a) (cW r b)
theorem LD(r:Int):SWO (Go.Proofs.ltOf (nF r)) where
 irrefl x:=by
  have:=(Hu (cW r x) (cW r x)).1;simp only[Go.Proofs.ltOf,nF,hG,this];omega
 trans x y z h1 ad:=by
  simp only[Go.Proofs.ltOf,nF,fr,(Hu _ _).1]at *;omega
 ntrans x y z h1 ad:=by
  simp only[Go.Proofs.ltOf,nF,hG,(Hu _ _).1]at *;omega
theorem Rm(r a b:Int):Go.Proofs.ltOf (nF r) a b=decide (cW r a<cW r b):=by
 simp only[Go.Proofs.ltOf,nF,(Hu _ _).1]
variable{r a:Int}
theorem Zm{b:Int}(bb:1<=a/\a<=1000)(ac:1<=b/\b<=1000)(h1:Go.Proofs.ltOf (nF r) a b=false)(ad:Go.Proofs.ltOf (nF r) b a=false):a=b:=by
 rw[Rm,hG]at h1 ad;have h:cW r a=cW r b:=by omega
 exact Rk bb ac h
theorem pb(l:List Int)(af:l.length<=1000000):bl Tryz.prog 46 [.ar 1 (l.map aM) false] (.ar 1 (l.map aM) false):=by
 refine b9 (fn:=Tryz.f46) (c:=Tryz.f46.body.getD .skip) aA ay (by rfl) Tryz.func46 (by rfl) (by rfl) (by rfl) (by rfl) ?_;repeat' ((conv=>whnf);first|refine be ?_|fail)
 refine aO (λow=> ?_) ?_
 ·repeat' ((conv=>whnf);first|refine be ?_|fail)
  all_goals(conv=>whnf)
  rw[ow];exact .av
 ·repeat' ((conv=>whnf);first|refine be ?_|fail)
  all_goals(conv=>whnf)
  refine aO (lU (by grind)) ?_;repeat' ((conv=>whnf);first|exact .refl|fail)
theorem Zn(l:List Int)(af:l.length<=1000000)(bu:l≠ []):cm Tryz.prog 46 [] [.ar 1 (l.map aM) false] [] [.row 3 1 (l.map aM)] (.own 0):=by
 refine ik (fn:=Tryz.f46) (c:=Tryz.f46.body.getD .skip) aA ay (by rfl) Tryz.func46 (by rfl) (by rfl) (by rfl) (by rfl) (by rfl) ?_;repeat' ((conv=>whnf);first|refine be ?_|fail)
 refine aO (λow=> ?_) ?_
 ·simp_all
 ·repeat' ((conv=>whnf);first|refine be ?_|fail)
  all_goals(conv=>whnf)
  refine aO (lU (by grind)) ?_;repeat' ((conv=>whnf);first|refine be ?_|fail)
  all_goals(conv=>whnf)
  exact⟨.r,⟨.r,ai⟩,by rfl⟩
theorem aj4(r a b:Int):bl Tryz.prog 224 [i64 a,i64 b,.c9 [i64 r]] (i64 (nF r a b)):=by
 unfold nF;refine b9 (fn:=Tryz.f224) (c:=Tryz.f224.body.getD .skip) aA ay (by rfl) Tryz.func224 (by rfl) (by rfl) (by rfl) (by rfl) ?_;repeat' ((conv=>whnf);first|exact .refl|refine cd ?_|refine aS (Hv _ _) ?_|refine aS (Zk _ _) ?_|fail)
theorem aj5(r:Int)(l:List Int)(af:l.length<=1000000)(ac:∀x∈l,1<=x/\x<=1000):cm Tryz.prog 223 [.row 3 1 (l.map aM)] [.own 0,.fn (.func 224) [.c9 [i64 r]]] [true] [.row 3 1 ((sU (nF r) l).map aM)] (.bd []):=
 aiV (agg:=false) (λvs w=>Tryz.Rl.f6.enters rfl vs w) (aiR Tryz.Rl _) (λp cap QZ w=>AnyF.slices_SortFunc_none {Tryz.Rl with} p cap QZ w)
  aM l (sU (nF r) l) (nF r) (LD r) (λx ah y bn=>Zm (ac x ah) (ac y bn)) (zp _ _) (Rf (LD r) _) (by omega) [.c9 [i64 r]] (λd aa=>by simp at aa;subst aa;rfl) (λ_=>rfl) (λx _ y _=>aj4 r x y)
def fN(ms:List Int)(r:Int):List Int:=bif !dq ms 16||decide (r<0)||decide (5<=r)then []else sU (nF r) ms
variable{ms:List Int}
theorem x0{r:Int}(h:dq ms 16=true)(h1:0<=r)(ad:r<5):fN ms r=sU (nF r) ms:=by
 have aC:decide (r<0)=false:=cX (by omega);have aG:decide (5<=r)=false:=cX (by omega);simp only[fN,h,aC,aG,kY,Ap,bs]
theorem aj6(ms:List Int)(af:ms.length<=maxLen)(r:Int):bl Tryz.prog 187 [.ar 1 (ms.map aM) false,i64 r] (.ar 1 ((fN ms r).map aM) false):=by
 have aC:=zm ms af;have aH:fN ms r=bif !dq ms 16||decide (r<0)||decide (5<=r)then []else sU (nF r) ms:=rfl;refine b9 (fn:=Tryz.f187) (c:=Tryz.f187.body.getD .skip) aA ay (by rfl) Tryz.func187 (by rfl) (by rfl) (by rfl) (by rfl) ?_;repeat' ((conv=>whnf);first|refine be ?_| (apply bh<;>intro h)|refine aS aC ?_|fail)
 all_goals(conv=>whnf)
 ·rw[aH,h];exact .av
 ·have ab:dq ms 16=true:=by
   grind
  have gX:=(lW.1 ab)
  rw[h,bs]at aH;have Rn:=aj5 r ms (by omega) gX.2.2;rw[<-aH]at Rn;generalize fN ms r=O at Rn;have iy:=Zn ms (by omega) (by grind);repeat' ((conv=>whnf);first|exact .refl|refine .inr ⟨[],bS iy ?_⟩|refine .inr ⟨[1],bS Rn ?_⟩|fail)
def pc(o:List Int)(id:Int):Int:=o.getD (((gG o id).toNat+1)%o.length) 0
def n2(ms:List Int)(id:Int)(i:Nat):List Int:=(List.range i).map λ(r:Nat)=>pc (fN ms r) id
def ft(ms:List Int)(id:Int):List Int:=bif !dq ms 16|| !bH ms id||decide ((ms.length:Int)=1)then []else n2 ms id 5
theorem Zo{l:List Int}{x:Int}(h:x∈l):∃k:Nat,gG l x=k/\k<l.length:=by
 rcases az: (List.range l.length).find? (λi=>decide (l[i]?=some x))with _|n
 ·obtain⟨i,hi,rfl⟩:=e8 h;have:=Ar.1 az i (uF.2 hi)
  grind
 ·refine⟨n,by simp only[gG,lx,az],?_⟩
  grind
theorem Ro{id:Int}(h: (!dq ms 16|| !bH ms id||decide ((ms.length:Int)=1))=true):ft ms id=[]:=by
 simp only[ft,h,bY]
theorem Rp{id:Int}(h: (!dq ms 16|| !bH ms id||decide ((ms.length:Int)=1))=false):dq ms 16=true/\bH ms id=true/\(2<=ms.length/\ms.length<=16)/\ft ms id=n2 ms id 5:=by
 have bp:=h;simp only[iK,l3,hG]at bp;have:=(lW.1 bp.1.1).1;exact⟨bp.1.1,bp.1.2,by omega,by simp only[ft,h,bs]⟩
theorem Zp(ms:List Int)(id:Int): (!dq ms 16||decide ((ms.length:Int)<2)|| !bH ms id)=(!dq ms 16|| !bH ms id||decide ((ms.length:Int)=1)):=by
 cases ab:dq ms 16
 ·simp
 ·have:=(lW.1 ab).1
  grind
theorem aj7(ms:List Int)(af:ms.length<=maxLen)(id:Int):bl Tryz.prog 124 [.ar 1 (ms.map aM) false,i64 id] (.ar 1 ((ft ms id).map aM) false):=by
 have aC:=zm ms af;have aG:=jq ms af id;refine b9 (fn:=Tryz.f124) (c:=Tryz.f124.body.getD .skip) aA ay (by rfl) Tryz.func124 (by rfl) (by rfl) (by rfl) (by rfl) ?_;repeat' ((conv=>whnf);first|refine be ?_| (apply bh<;>intro h)|refine dr ?_|refine aS aC ?_|refine dz aG ?_|fail)
 all_goals(conv=>whnf)
 ·rw[bF]at h;rw[Ro h];exact .av
 ·rw[bF]at h;obtain⟨ab,cL,hlen,cF⟩:=Rp h;clear h;refine⟨Nat,λi=>⟨[(0,.ar 1 (ms.map aM) false),(1,i64 id),(5,.own 0),(22,i64 i)],[.row 3 1 ((n2 ms id i).map aM)]⟩,λi=>i<=5,λi=>5-i,[.ho 5 3 1],⟨0,bX _,?_⟩,?_⟩
  ·exact⟨by repeat' ((conv=>whnf);first|exact trivial|refine aO (by(conv=>arg 1;whnf);first| (with_reducible exact .refl)|exact aX (bW (by omega))|exact .refl) ?_|fail),by repeat' ((conv=>whnf);first|exact trivial|refine aO ?_ ?_|exact .refl|fail),rfl⟩
  ·intro i hi;repeat' ((conv=>whnf);first| (apply bh<;>intro h)|fail)
   ·have ax:i<5:=by
     grind
    clear h;have aH:=x0 (ms:=ms) (r:=(i:Nat)) ab (by omega) (by omega);have mJ: (fN ms (i:Nat)).length=ms.length:=by rw[aH,Eo]
    have BE:id∈fN ms (i:Nat):=by rw[aH,sV];exact gz.1 cL
    have Hx:=aj6 ms af (i:Nat);have rk:n2 ms id (i+1)=n2 ms id i++ [pc (fN ms (i:Nat)) id]:=by
     unfold n2;rw[Av,ef];rfl
    have pd: (n2 ms id i).length=i:=by simp[n2]
    generalize fN ms (i:Nat)=O at mJ BE Hx rk;have nm:=Hs O (by omega) id;obtain⟨k,hk,gl⟩:=Zo BE;rw[hk]at nm;have ao: (k+1)%O.length<O.length:=uH _ (by omega);have bu: ((O.map aM).length:Int)≠0:=by
     grind
    have jR:Int.tmod (IntKind.i64.wrap ((k:Int)+1)) ((O.map aM).length:Int)=(((k+1)%O.length:Nat):Int):=by
     rw[dW (by omega) (by omega),bF];rfl
    have aw:pc O id=O[(k+1)%O.length]:=by
     simp only[pc,hk,lH]
     grind
    repeat' ((conv=>whnf);first|refine aS Hx ?_|refine aS nm ?_|refine aO bu ?_|refine⟨(k+1)%O.length,_,aO ⟨jR,c3 ao⟩ ?_⟩|fail)
    all_goals(conv=>whnf)
    refine aO (lU (by grind)) ?_;repeat' ((conv=>whnf);first|refine be ?_|fail)
    all_goals(conv=>whnf)
    refine⟨i+1,ax,by grind,?_⟩;refine⟨⟨.r,.r,.r,aX (bW (by omega)),ai⟩,⟨cK ?_,ai⟩,rfl⟩;rw[rk,aw,ef];rfl
   ·have:i=5:=by
     grind
    subst this;clear h;conv=>whnf
    rw[cF];exact .refl
theorem aj8(x:Int):bl Tryz.prog 241 [u64 x] (u64 (xY x)):=by
 refine b9 (fn:=Tryz.f241) (c:=Tryz.f241.body.getD .skip) aA ay (by rfl) Tryz.func241 (by rfl) (by rfl) (by rfl) (by rfl) ?_;repeat' ((conv=>whnf);first|exact .refl| (refine aO ?_ ?_;focus (simp;done))|fail)
theorem aj9(h x:Int):bl Tryz.prog 222 [u64 h,u64 x] (u64 (LC h x)):=by
 refine b9 (fn:=Tryz.f222) (c:=Tryz.f222.body.getD .skip) aA ay (by rfl) Tryz.func222 (by rfl) (by rfl) (by rfl) (by rfl) ?_;repeat' ((conv=>whnf);first|exact .refl|refine aS (aj8 _) ?_|fail)
theorem Zq(r m:Int):bl Tryz.prog 186 [i64 r,i64 m] (u64 (cW r m)):=by
 refine b9 (fn:=Tryz.f186) (c:=Tryz.f186.body.getD .skip) aA ay (by rfl) Tryz.func186 (by rfl) (by rfl) (by rfl) (by rfl) ?_;repeat' ((conv=>whnf);first|exact .refl|refine aS (aj9 _ _) ?_|fail)
def sW(r:Int)(o:List Int)(x:Int):Nat:=(o.takeWhile λy=>decide (cW r y<cW r x)).length
def zs(r:Int)(o:List Int)(x:Int):List Int:=o.take (sW r o x)++ [x]++o.drop (sW r o x)
def qB(r:Int)(ms:List Int)(i:Nat):List Int:=(ms.take i).foldl (zs r) []
theorem Zr(r:Int)(o:List Int)(x:Int):sW r o x<=o.length:=(FU _).length_le
variable{o:List Int}{x:Int}
theorem aka{j:Nat}(h:j<sW r o x):cW r (o.getD j 0)<cW r x:=by
 have af:=Zr r o x;have h1: (o.takeWhile λy=>decide (cW r y<cW r x))[j]'h∈o.takeWhile λy=>decide (cW r y<cW r x):=eM h;have ad:=l4.1 (List.all_takeWhile (p:=λy=>decide (cW r y<cW r x)) (l:=o)) _ h1;have aN: (o.takeWhile λy=>decide (cW r y<cW r x))[j]'h=o[j]'(by omega):=(FU _).getElem h
 grind
variable{k:Nat}
theorem akb(hk:k<=o.length)(h1:∀j,j<k->cW r (o.getD j 0)<cW r x)(ad:k=o.length\/¬cW r (o.getD k 0)<cW r x):sW r o x=k:=by
 have cH:o.takeWhile (λy=>decide (cW r y<cW r x))=o.take k:=by
  conv=>lhs;rw[<-Aw k o]
  rw[List.takeWhile_append_of_pos]
  ·have: (o.drop k).takeWhile (λy=>decide (cW r y<cW r x))=[]:=by
    rcases ad with ad|ad
    ·simp_all
    ·rcases l5 k o.length with aN|aN
     ·rw[vY aN,VK]
      simp_all
     ·rw[List.drop_eq_nil_of_le aN];rfl
   grind
  ·intro y bn;obtain⟨j,aq,rfl⟩:=e8 bn;rw[kZ]at aq;have:=h1 j (by omega);simp only[FN];simpa[show j<o.length by omega]using this
 rw[sW,cH,kZ];omega
theorem akc(r:Int)(o:List Int)(x:Int): (zs r o x).Perm (x::o):=by
 unfold zs;rw[km,JA];refine List.perm_middle.trans ?_;simp
theorem LF(r:Int)(ms:List Int):∀i,(qB r ms i).Perm (ms.take i)
 |0=>by rfl
 |i+1=>by
  rcases l5 i ms.length with h|h
  ·have aY:=LF r ms i;have e:qB r ms (i+1)=zs r (qB r ms i) ms[i]:=by
    simp only[qB,e4 h,Ow];rfl
   rw[e,e4 h];refine(akc _ _ _).trans ?_
   grind
  ·have e:qB r ms (i+1)=qB r ms i:=by
    simp only[qB,sr (show ms.length<=i+1 by omega),sr h]
   rw[e,sr (show ms.length<=i+1 by omega)];have:=LF r ms i;rwa[sr h]at this
variable{i:Nat}
theorem Zs(h:i<ms.length):qB r ms (i+1)=zs r (qB r ms i) ms[i]:=by
 simp only[qB,e4 h,Ow];rfl
theorem akd(h:i<=ms.length): (qB r ms i).length=i:=by
 have:=(LF r ms i).length_eq
 grind
theorem ake(h:o.Pairwise λa b=>cW r a<=cW r b): (zs r o x).Pairwise λa b=>cW r a<=cW r b:=by
 have af:=Zr r o x;unfold zs;rw[km,JA];have h1:∀y∈o.take (sW r o x),cW r y<cW r x:=λy bn=>by
  obtain⟨j,aq,rfl⟩:=e8 bn;rw[kZ]at aq;have:=aka (r:=r) (o:=o) (x:=x) (j:=j) (by omega)
  grind
 have ad:∀y∈o.drop (sW r o x),cW r x<=cW r y:=λy bn=>by
  have cH:=OF (p:=λy=>decide (cW r y<cW r x)) (l:=o);have aa:o.drop (sW r o x)=o.dropWhile λy=>decide (cW r y<cW r x):=by
   have e: (o.takeWhile (λy=>decide (cW r y<cW r x))++o.dropWhile (λy=>decide (cW r y<cW r x))).drop (o.takeWhile (λy=>decide (cW r y<cW r x))).length=o.dropWhile (λy=>decide (cW r y<cW r x)):=by
    grind
   rw[cH]at e;exact e
  rw[aa]at bn;have bu:o.dropWhile (λy=>decide (cW r y<cW r x))≠ []:=List.ne_nil_of_mem bn;have bt:=List.head_dropWhile_not (λy=>decide (cW r y<cW r x)) bu;simp only[hG]at bt;have b5: (o.dropWhile (λy=>decide (cW r y<cW r x))).Pairwise λa b=>cW r a<=cW r b:=h.sublist (Ou _);obtain⟨a,q,bV⟩:=List.exists_cons_of_ne_nil bu;simp only[bV,List.head_cons]at bt bn b5;rcases ny.1 bn with rfl|bn
  ·omega
  ·have:=(rL.1 b5).1 y bn;omega
 have aN:=Aw (sW r o x) o;generalize o.take (sW r o x)=A at *;generalize o.drop (sW r o x)=B at *;subst aN;rw[FR]at h⊢;refine⟨h.1,rL.2 ⟨ad,h.2.1⟩,λa bb b ac=> ?_⟩
 grind
theorem Zt(r:Int)(ms:List Int):∀i,i<=ms.length->(qB r ms i).Pairwise λa b=>cW r a<=cW r b
 |0,_=>by simp[qB]
 |i+1,h=>by
  rw[Zs (by omega)];exact ake (Zt r ms i (by omega))
theorem akf(ab:dq ms 16=true)(h1:0<=r)(ad:r<5):qB r ms ms.length=fN ms r:=by
 rw[x0 ab h1 ad];have ac:=(lW.1 ab).2.2;have an:=LF r ms ms.length;rw[fU]at an;refine Om (le:=λx y=>Go.Proofs.ltOf (nF r) y x=false) (λa b bb sG h1 ad=>Zm (ac a (an.mem_iff.1 bb)) (ac b (sV.1 sG)) ad h1) ?_ (Rf (LD r) _) (an.trans (zp _ _).symm);refine(Zt r ms ms.length (bP _)).imp λ{a b} h=> ?_;rw[Rm]
 grind
theorem akg(ms:List Int)(af:ms.length<=maxLen)(r:Int):bl Tryz.prog 123 [.ar 1 (ms.map aM) false,i64 r] (.ar 1 ((fN ms r).map aM) false):=by
 have aC:=Rb ms af;have aH:fN ms r=bif !dq ms 16||decide (r<0)||decide (5<=r)then []else sU (nF r) ms:=rfl;refine b9 (fn:=Tryz.f123) (c:=Tryz.f123.body.getD .skip) aA ay (by rfl) Tryz.func123 (by rfl) (by rfl) (by rfl) (by rfl) ?_;repeat' ((conv=>whnf);first|refine be ?_| (apply bh<;>intro h)|refine aS aC ?_|fail)
 all_goals(conv=>whnf)
 ·rw[aH,h];exact .av
 ·have ae:dq ms 16=true/\0<=r/\r<5:=by
   grind
  clear h aH;obtain⟨ab,tC,hJ⟩:=ae;have gX:=(lW.1 ab).1;rw[<-akf ab tC hJ];refine⟨Nat,λi=>⟨[(0,.ar 1 (ms.map aM) false),(1,i64 r),(5,.ar 1 ((qB r ms i).map aM) false),(6,i64 i)],[]⟩,λi=>i<=ms.length,λi=>ms.length-i,[.jO 5],⟨0,bX _,?_⟩,?_⟩
  ·exact⟨⟨.r,.r,.av,.r,ai⟩,ai,rfl⟩
  ·intro i hi;have mJ:=akd (r:=r) hi;repeat' ((conv=>whnf);first| (apply bh<;>intro h)|fail)
   ·have ax:i<ms.length:=by grind
    clear h;have rk:=Zs (r:=r) ax;generalize qB r ms i=O at mJ rk;conv=>whnf
    refine⟨Nat,λk=>⟨[(0,.ar 1 (ms.map aM) false),(1,i64 r),(5,.ar 1 (O.map aM) false),(6,i64 i),(7,i64 k)],[]⟩,λk=>k<=O.length/\∀j,j<k->cW r (O.getD j 0)<cW r (ms[i]'ax),λk=>O.length-k,[],⟨0,⟨bX _,by omega⟩,?_⟩,?_⟩
    ·exact⟨by repeat' ((conv=>whnf);first|exact trivial|refine aO (by(conv=>arg 1;whnf);first| (with_reducible exact .refl)|exact aX (bW (by omega))|exact .refl) ?_|fail),by repeat' ((conv=>whnf);first|exact trivial|fail),rfl⟩
    ·intro k ⟨hk,ct⟩;have zt:decide ((k:Int)<((O.map aM).length:Int))=true->(O.map aM)[k]?=some (aM (O.getD k 0)):=λh=>by
      grind
     have akh:=Zq r (O.getD k 0);have aki:=Zq r (ms[i]'ax);repeat' ((conv=>whnf);first|refine be ?_| (apply bh<;>intro h)|refine cd ?_|refine dr ?_|refine⟨k,_,aO ⟨⟨λh=>h,λh=>h⟩,λaw=>⟨rfl,zt aw⟩⟩ ?_⟩|refine⟨i,aM (ms[i]'ax),aO ⟨⟨λh=>h,λh=>h⟩,λaw=>⟨rfl,c3 ax⟩⟩ ?_⟩|refine dz akh ?_|refine dz aki ?_|fail)
     all_goals(conv=>whnf)
     ·have mG:k<O.length/\cW r (O.getD k 0)<cW r (ms[i]'ax):=by
       grind
      refine⟨k+1,⟨mG.1,λj aq=> ?_⟩,by grind,?_⟩
      ·grind
      ·exact⟨by repeat' ((conv=>whnf);first|exact trivial|refine aO (by(conv=>arg 1;whnf);first| (with_reducible exact .refl)|exact aX (bW (by omega))|exact .refl) ?_|fail),by repeat' ((conv=>whnf);first|exact trivial|fail),rfl⟩
     ·have iO:sW r O (ms[i]'ax)=k:=by
       refine akb hk ct ?_;simp only[uD,hG,bF]at h;omega
      clear h;repeat' ((conv=>whnf);first|refine⟨0,k,aO ⟨rfl,⟨_,rfl⟩,bX _,by simpa using hk⟩ ?_⟩|fail)
      all_goals(conv=>whnf)
      refine aO (lU (by grind)) ?_;repeat' ((conv=>whnf);first|refine⟨_,_,aO ⟨rfl,c3 ax⟩ ?_⟩|fail)
      all_goals(conv=>whnf)
      refine aO (lU (by grind)) ?_;repeat' ((conv=>whnf);first|refine⟨k,aO ⟨⟨_,rfl⟩,by simpa using hk⟩ ?_⟩|fail)
      all_goals(conv=>whnf)
      refine aO (lU (by grind)) ?_;repeat' ((conv=>whnf);first|refine be ?_|fail)
      all_goals(conv=>whnf)
      refine⟨i+1,ax,by grind,?_⟩;conv=>whnf
      refine⟨⟨.r,.r,ig ?_,aX (bW (by omega)),ai⟩,ai,rfl⟩;rw[rk,zs,iO];simp[aM,dc];try kernel_rfl
   ·have fp:¬i<ms.length:=by grind
    have:i=ms.length:=by omega
    subst this;conv=>whnf
    exact .refl
theorem akj(ms:List Int)(af:ms.length<=maxLen)(id:Int):bl Tryz.prog 68 [.ar 1 (ms.map aM) false,i64 id] (.ar 1 ((ft ms id).map aM) false):=by
 have aC:=Rb ms af;have aG:=Ly ms af id;refine b9 (fn:=Tryz.f68) (c:=Tryz.f68.body.getD .skip) aA ay (by rfl) Tryz.func68 (by rfl) (by rfl) (by rfl) (by rfl) ?_;repeat' ((conv=>whnf);first|refine be ?_| (apply bh<;>intro h)|refine dr ?_|refine aS aC ?_|refine dz aG ?_|fail)
 all_goals(conv=>whnf)
 ·rw[bF,Zp]at h;rw[Ro h];exact .av
 ·rw[bF,Zp]at h;obtain⟨ab,cL,hlen,cF⟩:=Rp h;clear h;refine⟨Nat,λi=>⟨[(0,.ar 1 (ms.map aM) false),(1,i64 id),(5,.own 0),(6,i64 i)],[.row 3 1 ((n2 ms id i).map aM)]⟩,λi=>i<=5,λi=>5-i,[.ho 5 3 1],⟨0,bX _,?_⟩,?_⟩
  ·exact⟨by repeat' ((conv=>whnf);first|exact trivial|refine aO (by(conv=>arg 1;whnf);first| (with_reducible exact .refl)|exact aX (bW (by omega))|exact .refl) ?_|fail),by repeat' ((conv=>whnf);first|exact trivial|refine aO ?_ ?_|exact .refl|fail),rfl⟩
  ·intro i hi;repeat' ((conv=>whnf);first| (apply bh<;>intro h)|fail)
   ·have ax:i<5:=by
     grind
    clear h;have aH:=x0 (ms:=ms) (r:=(i:Nat)) ab (by omega) (by omega);have mJ: (fN ms (i:Nat)).length=ms.length:=by rw[aH,Eo]
    have BE:id∈fN ms (i:Nat):=by rw[aH,sV];exact gz.1 cL
    have Hx:=akg ms af (i:Nat);have rk:n2 ms id (i+1)=n2 ms id i++ [pc (fN ms (i:Nat)) id]:=by
     unfold n2;rw[Av,ef];rfl
    have pd: (n2 ms id i).length=i:=by simp[n2]
    generalize fN ms (i:Nat)=O at mJ BE Hx rk;have nm:=Zg O (by omega) id;obtain⟨k,hk,gl⟩:=Zo BE;rw[hk]at nm;have ao: (k+1)%O.length<O.length:=uH _ (by omega);have bu: ((O.map aM).length:Int)≠0:=by
     grind
    have jR:Int.tmod (IntKind.i64.wrap ((k:Int)+1)) ((O.map aM).length:Int)=(((k+1)%O.length:Nat):Int):=by
     rw[dW (by omega) (by omega),bF];rfl
    have aw:pc O id=O[(k+1)%O.length]:=by
     simp only[pc,hk,lH]
     grind
    repeat' ((conv=>whnf);first|refine aS Hx ?_|refine aS nm ?_|refine aO bu ?_|refine⟨(k+1)%O.length,_,aO ⟨jR,c3 ao⟩ ?_⟩|fail)
    all_goals(conv=>whnf)
    refine aO (lU (by grind)) ?_;repeat' ((conv=>whnf);first|refine be ?_|fail)
    all_goals(conv=>whnf)
    refine⟨i+1,ax,by grind,?_⟩;refine⟨⟨.r,.r,.r,aX (bW (by omega)),ai⟩,⟨cK ?_,ai⟩,rfl⟩;rw[rk,aw,ef];rfl
   ·have:i=5:=by
     grind
    subst this;clear h;conv=>whnf
    rw[cF];exact .refl
theorem LG{r:Int}(ab:dq ms 16=true)(h1:0<=r)(ad:r<5): (fN ms r).Pairwise λa b=>cW r a<cW r b:=by
 rw[x0 ab h1 ad];have ac:=(lW.1 ab).2.2;have aW: (sU (nF r) ms).Nodup:=(zp _ _).nodup_iff.2 (BD (lW.1 ab).2.1);have ae:=Rf (LD r) ms;refine(mz.2 λi j hi aq fW=> ?_);have aN:=mz.1 ae i j hi aq fW;rw[Rm,hG]at aN;have bu: (sU (nF r) ms)[i]≠ (sU (nF r) ms)[j]:=(mz.1 aW) i j hi aq fW;have bb:=ac _ (sV.1 (eM hi));have sG:=ac _ (sV.1 (eM aq));rcases Oj (Int.not_lt.1 aN)with h|h
 ·exact h
 ·exact absurd (Rk bb sG h) bu
def vi(r:Int)(O:List Int)(x:Int):Nat->Int
 |0=>O.getD (O.length-1) 0
 |i+1=>if cW r (O.getD i 0)<cW r x then O.getD i 0 else vi r O x i
theorem Rq{r:Int}{O:List Int}(an:O.Pairwise λa b=>cW r a<cW r b){k:Nat}(hk:k<O.length):∀i,i<=O.length->vi r O O[k] i=O.getD (if i=0\/k=0 then O.length-1 else min i k-1) 0
 |0,_=>by rfl
 |i+1,hi=>by
  have aY:=Rq an hk i (by omega);have eI:i<O.length:=by omega
  have aw:O.getD i 0=O[i]:=by grind
  have ax:cW r O[i]<cW r O[k]↔i<k:=by
   constructor
   ·intro h;rcases l5 i k with ad|ad
    ·exact ad
    ·rcases Nat.lt_or_eq_of_le ad with ad|ad
     ·have:=mz.1 an k i hk eI ad;omega
     grind
   ·intro h;exact mz.1 an i k eI hk h
  unfold vi;rw[aw,aY];by_cases h:i<k
  ·rw[b6 (ax.2 h),bo (by omega)]
   grind
  ·rw[bo (λbp=>h (ax.1 bp))]
   grind
def k6(ms:List Int)(x:Int)(r:Nat):Int:=vi r (fN ms r) x (fN ms r).length
theorem Hy{l:List Int}{x:Int}(h:x∈l):∃ (k:Nat) (hk:k<l.length),gG l x=k/\l[k]=x:=by
 rcases az: (List.range l.length).find? (λi=>decide (l[i]?=some x))with _|n
 ·obtain⟨i,hi,rfl⟩:=e8 h;have:=Ar.1 az i (uF.2 hi)
  grind
 ·have h1:=uF.1 (Jz az);refine⟨n,h1,by simp only[gG,lx,az],?_⟩
  grind
theorem Rr{a b:Int}{r:Nat}(ab:dq ms 16=true)(ao:r<5)(bb:a∈ms)(ac:b∈ms)(pe:a≠b):k6 ms b r=a↔pc (fN ms r) a=b:=by
 have hO:=LG (r:=(r:Nat)) ab (by omega) (by omega);have aH:=x0 (ms:=ms) (r:=(r:Nat)) ab (by omega) (by omega);have gV: (fN ms r).Nodup:=by
  rw[aH];exact(zp _ _).nodup_iff.2 (BD (lW.1 ab).2.1)
 have Zu:a∈fN ms r:=by rw[aH,sV];exact bb
 have tI:b∈fN ms r:=by rw[aH,sV];exact ac
 unfold k6 pc;generalize fN ms r=O at hO gV Zu tI;obtain⟨k,gl,hk,avz⟩:=Hy Zu;obtain⟨j,aq,rfl⟩:=e8 tI;rw[Rq hO aq _ (bP _),hk,lH];have Ky: (k+1)%O.length<O.length:=uH _ (by omega);have hT:O.getD ((k+1)%O.length) 0=O[(k+1)%O.length]:=by grind
 have avA:k≠j:=λe=>pe (by grind);rw[hT];have akk:∀ (p q:Nat) (an:p<O.length) (bV:q<O.length),O[p]=O[q]↔p=q:=λp q an bV=>by
  constructor
  ·intro h;exact(yD gV).1 h
  grind
 rw[akk _ _ Ky aq];have Rs: (k+1)%O.length=if k+1=O.length then 0 else k+1:=by
  split
  ·simp_all
  ·exact ss (by omega)
 grind
def cv(ms:List Int)(x:Int):List Int:=bif !dq ms 16|| !(decide (1<=x)&&decide (x<=1000))|| (decide ((ms.length:Int)=1)&&decide (ms.getD 0 0=x))then []else(List.range 5).map (k6 ms x)
def vj(R:List Int)(a:Int)(i:Nat):List Int:=((List.range i).filter λk=>decide (R.getD k 0=a)).map λ(k:Nat)=>(k:Int)
theorem akl(R:List Int)(a:Int)(i:Nat):vj R a (i+1)=vj R a i++bif decide (R.getD i 0=a)then [(i:Int)]else []:=by
 unfold vj;rw[Av,nx,ef,yC,FM];cases h:decide (R.getD i 0=a)<;>simp
theorem Zv(R:List Int)(a:Int)(i:Nat): (vj R a i).length<=i:=by
 unfold vj
 grind
theorem zu(ms:List Int)(x:Int): (cv ms x).length<=5:=by
 unfold cv;cases (!dq ms 16|| !(decide (1<=x)&&decide (x<=1000))|| (decide ((ms.length:Int)=1)&&decide (ms.getD 0 0=x)))<;>simp
def lz(r x m:Int):Int:=IntKind.u64.wrap (IntKind.u64.wrap (cW r x-cW r m)-1)
def rZ(cf:Int->Int->Int)(l:List Int):Nat->Int
 |0=>l.getD 0 0
 |i+1=>if cf (l.getD i 0) (rZ cf l i)<0 then l.getD i 0 else rZ cf l i
theorem akm(cf:Int->Int->Int)(l:List Int):rZ cf l 1=l.getD 0 0:=by
 rw[rZ,rZ];split<;>rfl
theorem Rt(x:Int):bl Tryz.prog 167 [i64 x] (.v (.bool (decide (1<=x)&&decide (x<=1000)))):=by
 refine b9 (fn:=Tryz.f167) (c:=Tryz.f167.body.getD .skip) aA ay (by rfl) Tryz.func167 (by rfl) (by rfl) (by rfl) (by rfl) ?_;repeat' ((conv=>whnf);first|refine be ?_|exact .refl|fail)
theorem akn(r x a b:Int):bl Tryz.prog 170 [i64 a,i64 b,.c9 [u64 (cW r x)],.c9 [i64 r]] (i64 (n1 (lz r x a) (lz r x b))):=by
 have aC:=Hv r a;have aG:=Hv r b;have bc:=Zk (lz r x a) (lz r x b);unfold lz at bc⊢;generalize cW r a=ff at *;generalize cW r b=fB at *;generalize cW r x=hV at *;refine b9 (fn:=Tryz.f170) (c:=Tryz.f170.body.getD .skip) aA ay (by rfl) Tryz.func170 (by rfl) (by rfl) (by rfl) (by rfl) ?_;repeat' ((conv=>whnf);first|exact .refl|refine cd ?_|refine aS aC ?_|refine aS aG ?_|refine aS bc ?_|fail)
theorem ako(l:List Int)(ic:1<=l.length)(af:l.length<=maxLen)(cu:List ak)(cf:Int->Int->Int)(A:Nat->Int)(h1:A 1=l.getD 0 0)(ae:∀i,A (i+1)=if cf (l.getD i 0) (A i)<0 then l.getD i 0 else A i)
  (p q:ak) (aj:∀a b,bl Tryz.prog 170 [i64 a,i64 b,p,q] (i64 (cf a b))) (an:∃a,p= .c9 [u64 a]) (bV:∃a,q= .c9 [i64 a]):bl Tryz.prog 169 [.ar 1 (l.map aM) false,.fn (.func 170) [p,q]] (i64 (A l.length)):=by
 have hs:l.length<=9223372036854775807:=af;obtain⟨Zw,rfl⟩:=an;obtain⟨Ru,rfl⟩:=bV;refine b9 (fn:=Tryz.f169) (c:=Tryz.f169.body.getD .skip) aA ay (by rfl) Tryz.func169 (by rfl) (by rfl) (by rfl) (by rfl) ?_;repeat' ((conv=>whnf);first| (apply bh<;>intro h)|fail)
 ·grind
 ·clear h;have Bz: (l.map aM)[0]?=some (aM (A 1)):=by
   grind
  repeat' ((conv=>whnf);first|refine⟨0,aM (A 1),aO ⟨rfl,Bz⟩ ?_⟩|fail)
  all_goals(conv=>whnf)
  refine⟨Nat,λi=>⟨[(0,.ar 1 (l.map aM) false),(1,.fn (.func 170) [.c9 [u64 Zw],.c9 [i64 Ru]]),(5,i64 (A i)),(6,i64 i)],[]⟩,λi=>1<=i/\i<=l.length,λi=>l.length-i,[],⟨1,⟨bP _,ic⟩,?_⟩,?_⟩
  ·conv=>whnf
   exact⟨⟨.r,.r,.r,.r,ai⟩,ai,by rfl⟩
  ·intro i ⟨Es,hi⟩;repeat' ((conv=>whnf);first| (apply bh<;>intro h)|fail)
   ·have ax:i<l.length:=by grind
    clear h;have aw:l.getD i 0=l[i]:=by grind
    have ae:=ae i;rw[aw]at ae;have e:=aj l[i] (A i);repeat' ((conv=>whnf);first| (apply bh<;>intro h)|refine⟨_,_,aO ⟨rfl,c3 ax⟩ ?_⟩|refine aS e ?_|fail)
    all_goals(conv=>whnf)
    all_goals refine⟨i+1,⟨by omega,ax⟩,by simp only[];omega,?_⟩
    all_goals(conv=>whnf)
    all_goals refine⟨⟨.r,.r,aX ?_,aX (bW (by omega)),ai⟩,ai,by rfl⟩
    all_goals grind
   ·have:i=l.length:=by
     grind
    subst this;clear h;repeat' ((conv=>whnf);first|exact .refl|fail)
theorem BF{m:Int}(h:cW r m<cW r x):lz r x m=cW r x-cW r m-1:=by
 have h1:=zr r m;have ad:=zr r x;unfold lz;generalize cW r m=p at *;generalize cW r x=q at *;rw[j8 (n:=q-p) (by omega) (by omega),j8 (by omega) (by omega)]
theorem BG{m:Int}(h:¬cW r m<cW r x):lz r x m=cW r x-cW r m-1+18446744073709551616:=by
 have h1:=zr r m;have ad:=zr r x;unfold lz;generalize cW r m=p at *;generalize cW r x=q at *;rw[zq,zq];omega
theorem Zx{cf:Int->Int->Int}{l:List Int}(af:1<=l.length):∀i,i<=l.length->rZ cf l i∈l
 |0,_=>by
  rw[rZ]
  grind
 |i+1,hi=>by
  have aY:=Zx (cf:=cf) af i (by omega);rw[rZ]
  grind
theorem Zy{d:Int->Int}{l:List Int}:∀i,i<=l.length->∀j,j<i->d (rZ (λa b=>n1 (d a) (d b)) l i)<=d (l.getD j 0)
 |0,_,j,aq=>by omega
 |i+1,hi,j,aq=>by
  have aY:=Zy (d:=d) (l:=l) i (by omega);rw[rZ];have aj:=(Hu (d (l.getD i 0)) (d (rZ (λa b=>n1 (d a) (d b)) l i))).1
  grind
theorem Rv{r x:Int}{O:List Int}(an:O.Pairwise λa b=>cW r a<cW r b)(hO:1<=O.length):∀i,i<=O.length->vi r O x i∈O/\(vi r O x i=O.getD (O.length-1) 0\/cW r (vi r O x i)<cW r x)/\∀j,j<i->lz r x (vi r O x i)<=lz r x (O.getD j 0)
 |0,_=>by
  rw[vi]
  grind
 |i+1,hi=>by
  obtain⟨h1,ad,aN⟩:=Rv (x:=x) an hO i (by omega);have eI:i<O.length:=by omega
  have aw:O.getD i 0=O[i]:=by grind
  have ax:∀a b (bb:a<O.length) (ac:b<O.length),a<=b->cW r O[a]<=cW r O[b]:=by
   intro a b bb ac pe;rcases Nat.lt_or_eq_of_le pe with h|h
   ·exact Int.le_of_lt (mz.1 an a b bb ac h)
   grind
  rw[vi];split
  ·rename_i h;refine⟨by grind,.inr h,λj aq=> ?_⟩;have gT:j<O.length:=by omega
   have BH:O.getD j 0=O[j]:=by grind
   have:=ax j i gT eI (by omega);rw[aw]at h⊢;rw[BH,BF h,BF (by omega)];omega
  ·rename_i h;refine⟨h1,ad,λj aq=> ?_⟩;rcases yJ.1 aq with aq|rfl
   ·grind
   ·rcases ad with ad|ad
    ·have af:O.length-1<O.length:=by omega
     have o9:O.getD (O.length-1) 0=O[O.length-1]:=by grind
     have:=ax j (O.length-1) eI af (by omega);rw[ad,o9];rw[aw]at h⊢;rw[BG h,BG (by omega)];omega
    ·have dE:=zr r (vi r O x j);have dL:=zr r (O.getD j 0);rw[BF ad,BG h];omega
theorem akp{a b:Int}(bb:1<=a/\a<=1000)(ac:1<=b/\b<=1000)(h:lz r x a=lz r x b):a=b:=by
 refine Rk (r:=r) bb ac ?_;have dE:=zr r a;have dL:=zr r b;by_cases h1:cW r a<cW r x<;>by_cases ad:cW r b<cW r x
 ·rw[BF h1,BF ad]at h;omega
 ·rw[BF h1,BG ad]at h;omega
 ·rw[BG h1,BF ad]at h;omega
 ·rw[BG h1,BG ad]at h;omega
theorem akq{r:Nat}(ab:dq ms 16=true)(ao:r<5):rZ (λa b=>n1 (lz r x a) (lz r x b)) ms ms.length=k6 ms x r:=by
 have hO:=LG (r:=(r:Nat)) ab (by omega) (by omega);have aH:=x0 (ms:=ms) (r:=(r:Nat)) ab (by omega) (by omega);have mJ: (fN ms (r:Nat)).length=ms.length:=by rw[aH,Eo]
 have gX:=(lW.1 ab).1;have ac:=(lW.1 ab).2.2;have j5:∀m,m∈fN ms (r:Nat)↔m∈ms:=λm=>by rw[aH,sV]
 unfold k6;generalize fN ms (r:Nat)=O at *;obtain⟨cP,_,a3⟩:=Rv (x:=x) hO (by omega) O.length (bP _);have cY:=Zx (cf:=λa b=>n1 (lz r x a) (lz r x b)) (l:=ms) (by omega) ms.length (bP _);have cZ:=Zy (d:=lz r x) (l:=ms) ms.length (bP _);refine akp (r:=r) (x:=x) (ac _ cY) (ac _ ((j5 _).1 cP)) ?_;obtain⟨j,aq,Zz⟩:=e8 ((j5 _).1 cP);obtain⟨k,hk,y0⟩:=e8 ((j5 _).2 cY)
 grind
theorem akr(r x:Int)(l:List Int):∃A:Nat->Int,A 1=l.getD 0 0/\(∀i,A (i+1)=if n1 (lz r x (l.getD i 0)) (lz r x (A i))<0 then l.getD i 0 else A i)/\rZ (λa b=>n1 (lz r x a) (lz r x b)) l l.length=A l.length:=
 ⟨rZ (λa b=>n1 (lz r x a) (lz r x b)) l,akm _ _,λi=>by rfl,rfl⟩
theorem ZA(ms:List Int)(ab:dq ms 16=true)(r:Nat)(ao:r<5)(x:Int):bl Tryz.prog 169 [.ar 1 (ms.map aM) false,.fn (.func 170) [.c9 [u64 (cW r x)],.c9 [i64 r]]] (i64 (k6 ms x r)):=by
 have gX:=(lW.1 ab).1;obtain⟨A,h1,ae,he⟩:=akr r x ms;have an:=akq (x:=x) ab ao;rw[he]at an;rw[<-an];exact ako ms (by omega) (by simp only[maxLen];omega) [] (λa b=>n1 (lz r x a) (lz r x b)) A h1 ae _ _ (λa b=>akn r x a b) ⟨_,rfl⟩ ⟨_,rfl⟩
theorem LH(ms:List Int)(af:ms.length<=maxLen)(x:Int):bl Tryz.prog 100 [.ar 1 (ms.map aM) false,i64 x] (.ar 1 ((cv ms x).map aM) false):=by
 have aC:=zm ms af;have aG:=Rt x;have n0:dq ms 16=true->∀r:Nat,r<5->bl Tryz.prog 169 [.ar 1 (ms.map aM) false,.fn (.func 170) [.c9 [u64 (cW r x)],.c9 [i64 r]]] (i64 (k6 ms x r)):=λab r ao=>ZA ms ab r ao x;have nm:∀r:Nat,bl Tryz.prog 168 [i64 r,i64 x] (u64 (cW r x)):=λr=>Hv r x;have aH:cv ms x=bif !dq ms 16|| !(decide (1<=x)&&decide (x<=1000))|| (decide ((ms.length:Int)=1)&&decide (ms.getD 0 0=x))then []else(List.range 5).map (k6 ms x):=rfl;have aw:∀c:Bool,(c&&decide (((ms.map aM).length:Int)=1))=true->(ms.map aM)[0]?=some (aM (ms.getD 0 0)):=λc h=>by
  grind
 generalize k6 ms x=A at n0 aH;generalize cv ms x=R at aH⊢;generalize dq ms 16=cY at *;generalize(decide (1<=x)&&decide (x<=1000))=cZ at *;generalize dd: (λr:Nat=>cW r x)=P;have dd:∀r:Nat,cW r x=P r:=λr=>by grind
 simp only[dd]at n0 nm;clear dd;refine b9 (fn:=Tryz.f100) (c:=Tryz.f100.body.getD .skip) aA ay (by rfl) Tryz.func100 (by rfl) (by rfl) (by rfl) (by rfl) ?_;repeat' ((conv=>whnf);first|refine be ?_| (apply bh<;>intro h)|refine dr ?_|refine aS aC ?_|refine dz aG ?_|refine⟨0,aM (ms.getD 0 0),aO ⟨λh=>h,λh=>⟨rfl,aw _ h⟩⟩ ?_⟩|fail)
 all_goals(conv=>whnf)
 ·rw[bF]at h;rw[aH,h];exact .av
 ·rw[bF]at h;rw[h,bs]at aH;have ac:cY=true:=by
   grind
  have n0:=n0 ac;clear h aw;subst aH;refine⟨Nat,λi=>⟨[(0,.ar 1 (ms.map aM) false),(1,i64 x),(5,.own 0),(28,i64 i)],[.row 3 1 (((List.range i).map A).map aM)]⟩,λi=>i<=5,λi=>5-i,[.ho 5 3 1],⟨0,bX _,?_⟩,?_⟩
  ·exact⟨by repeat' ((conv=>whnf);first|exact trivial|refine aO (by(conv=>arg 1;whnf);first| (with_reducible exact .refl)|exact aX (bW (by omega))|exact .refl) ?_|fail),by repeat' ((conv=>whnf);first|exact trivial|refine aO ?_ ?_|exact .refl|fail),rfl⟩
  ·intro i hi;repeat' ((conv=>whnf);first| (apply bh<;>intro h)|fail)
   ·have ax:i<5:=by
     grind
    clear h;have e:=n0 i ax;have aG:=nm i;have rX: (((List.range i).map A).map aM).length+1<=2000000:=by
     grind
    repeat' ((conv=>whnf);first|refine aS aG ?_|refine aS e ?_|refine aO (lU rX) ?_|fail)
    all_goals(conv=>whnf)
    refine⟨i+1,ax,by grind,?_⟩;conv=>whnf
    refine⟨⟨.r,.r,.r,aX (bW (by omega)),ai⟩,⟨cK ?_,ai⟩,by rfl⟩;rw[Av,ef,ef];rfl
   ·have:i=5:=by
     grind
    subst this;repeat' ((conv=>whnf);first|exact .refl|fail)
structure nG where
 bits:Int
 pf:Int
def u32(n:Int):ak:=.v (.int .u32 n)
def LI(w:nG):List ak:=[u32 w.bits,i64 w.pf]
def pW(w:nG):Bool:=(decide (0<=w.pf)&&decide (w.pf<=10))&&decide (w.bits<IntKind.u32.wrap (1*2^ (min w.pf.toNat 32)))
theorem LJ(n:Int):IntKind.u32.wrap n=n%4294967296:=by
 rfl
theorem aks{c:Int}(h: (decide (0<=c)&&decide (c<=10))=true):0<=c:=by
 grind
theorem LK{w:nG}(h:pW w=true)(ac:0<=w.bits):0<=w.pf/\w.pf<=10/\w.bits<2^w.pf.toNat/\w.bits<1024:=by
 simp only[pW,cq,fr]at h;obtain⟨⟨h1,ad⟩,aN⟩:=h;obtain⟨c,aj⟩:=qU h1;rw[aj]at aN ad⊢;have akt:c<=10:=by omega
 have e:min ((c:Int)).toNat 32=c:=by omega
 have an: (2:Nat)^c<=2^10:=JH (by decide) akt;have yZ: ((2:Int)^c)=((2^c:Nat):Int):=by rfl
 rw[e,Int.one_mul,LJ,yZ]at aN
 grind
theorem Rw(w:nG):bl Tryz.prog 110 [.agg (LI w)] (.v (.bool (pW w))):=by
 refine b9 (fn:=Tryz.f110) (c:=Tryz.f110.body.getD .skip) aA ay (by rfl) Tryz.func110 (by rfl) (by rfl) (by rfl) (by rfl) ?_;repeat' ((conv=>whnf);first|refine be ?_|exact .refl|refine cd ?_|refine dr ?_|refine aO ⟨λh=>h,λaw=>aks aw⟩ ?_|fail)
def jF(w:nG)(ok:Bool):nG:=bif !pW w then⟨0,0⟩else⟨w.bits*2%1024+(bif ok then 0 else 1),if 10<w.pf+1 then 10 else w.pf+1⟩
theorem aku:∀b:Fin 1024,bits .and .u32 (IntKind.u32.wrap ((b.1:Int) *2^ (min 1 32))) 1023=(b.1:Int) *2%1024/\bits .and .u32 (bits .or .u32 (IntKind.u32.wrap ((b.1:Int) *2^ (min 1 32))) 1) 1023=(b.1:Int) *2%1024+1/\
  Int.tmod (IntKind.u32.wrap ((b.1:Int) *2)) 1024=(b.1:Int) *2%1024/\IntKind.u32.wrap (Int.tmod (IntKind.u32.wrap ((b.1:Int) *2)) 1024+1)=(b.1:Int) *2%1024+1:=by decide+kernel
theorem akv{b:Int}(h1:0<=b)(ad:b<1024):bits .and .u32 (IntKind.u32.wrap (b*2^ (min (1:Int).toNat 32))) 1023=b*2%1024/\bits .and .u32 (bits .or .u32 (IntKind.u32.wrap (b*2^ (min (1:Int).toNat 32))) 1) 1023=b*2%1024+1/\
  Int.tmod (IntKind.u32.wrap (b*2)) 1024=b*2%1024/\IntKind.u32.wrap (Int.tmod (IntKind.u32.wrap (b*2)) 1024+1)=b*2%1024+1:=by
 obtain⟨n,rfl⟩:=qU h1;exact aku ⟨n,by omega⟩
theorem Rx{w:nG}(ac:0<=w.bits)(ok:Bool):0<=(jF w ok).bits:=by
 unfold jF
 grind
theorem akw(w:nG)(ac:0<=w.bits)(ok:Bool):bl Tryz.prog 159 [.agg (LI w),.v (.bool ok)] (.agg (LI (jF w ok))):=by
 refine b9 (fn:=Tryz.f159) (c:=Tryz.f159.body.getD .skip) aA ay (by rfl) Tryz.func159 (by rfl) (by rfl) (by rfl) (by rfl) ?_;repeat' ((conv=>whnf);first| (apply bh<;>intro h)|refine aS (Rw w) ?_|refine aO (by decide) ?_|fail)
 all_goals(conv=>whnf)
 ·rw[jF,h];exact .refl
 all_goals
  rename_i aR;have ab:pW w=true:=by simpa using aR
  obtain⟨cU,dh,_,hR⟩:=LK ab ac;obtain⟨dj,dM,_,_⟩:=akv ac hR;rw[jF,aR,bs];refine h6 ⟨aX ?_,aX ?_,ai⟩
 ·have cw:ok=false:=by grind
  subst cw;exact dM
 ·rw[dW (by omega) (by omega)]
 ·have cw:ok=true:=by grind
  subst cw;exact dj.trans (Int.add_zero _).symm
 ·rw[dW (by omega) (by omega)]
def pg(b:Int):Nat->Int
 |0=>0
 |k+1=>bif decide (Int.tmod (b.fdiv (2^k)) 2=1)then pg b k+1 else pg b k
def r0(w:nG):Bool:=pW w&&decide (w.pf=10)&&decide (4<=pg w.bits 10)
theorem akx(n:Nat)(aW:n<1024):bl Tryz.prog 201 [u32 n] (i64 (pg n 10)):=by
 have jR: (n:Int).fdiv (2^ (min (24:Int).toNat 32))=((0:Nat):Int)/\bits .and .u32 ((n:Int).fdiv (2^ (min (16:Int).toNat 32))) 255=((0:Nat):Int)/\bits .and .u32 ((n:Int).fdiv (2^ (min (8:Int).toNat 32))) 255=((n/256:Nat):Int)/\bits .and .u32 (n:Int) 255=((n%256:Nat):Int):=by
  have:∀n:Nat,n<1024->(n:Int).fdiv (2^ (min (24:Int).toNat 32))=((0:Nat):Int)/\bits .and .u32 ((n:Int).fdiv (2^ (min (16:Int).toNat 32))) 255=((0:Nat):Int)/\bits .and .u32 ((n:Int).fdiv (2^ (min (8:Int).toNat 32))) 255=((n/256:Nat):Int)/\bits .and .u32 (n:Int) 255=((n%256:Nat):Int):=by decide+kernel
  exact this n aW
 obtain⟨i1,i2,i3,i4⟩:=jR;have iN:n/256<256:=by omega
 have mm:n%256<256:=by omega
 refine fM Tryz.func201 ?_;repeat' ((conv=>whnf);first|refine cd ?_|refine aO (by decide) ?_|refine⟨0,aO ⟨i1,by decide⟩ ?_⟩|refine⟨0,aO ⟨i2,by decide⟩ ?_⟩|refine⟨n/256,aO ⟨i3,iN⟩ ?_⟩|refine⟨n%256,aO ⟨i4,mm⟩ ?_⟩|fail)
 all_goals(conv=>whnf)
 refine aX ?_;clear i1 i2 i3 i4 iN mm;revert n
 decide+kernel
theorem aky(w:nG)(ac:0<=w.bits):bl Tryz.prog 160 [.agg (LI w)] (.v (.bool (r0 w))):=by
 have e: (pW w&&decide (w.pf=10))=true->bl Tryz.prog 201 [u32 w.bits] (i64 (pg w.bits 10)):=λh=>by
  simp only[cq]at h;obtain⟨_,_,_,k⟩:=LK h.1 ac;obtain⟨n,aW⟩:=qU ac;rw[aW];exact akx n (by omega)
 unfold r0;generalize pg w.bits 10=p at e;refine b9 (fn:=Tryz.f160) (c:=Tryz.f160.body.getD .skip) aA ay (by rfl) Tryz.func160 (by rfl) (by rfl) (by rfl) (by rfl) ?_;repeat' ((conv=>whnf);first|refine be ?_|exact .refl|refine aS (Rw w) ?_|refine⟨_,_,AJ _,e,?_⟩|fail)
structure Edge where
 ev:Int
 bI:Int
 mn:Bool
 hq:Bool
 j9:nG
def ja(e:Edge):List ak:=[i64 e.ev,i64 e.bI,.v (.bool e.mn),.v (.bool e.hq),u32 e.j9.bits,i64 e.j9.pf]
structure jr where
 self:Int
 view:aK
 bN:List Edge
def sX(d:jr):List ak:=[i64 d.self,i64 d.view.num,.ar 1 (d.view.mem.map aM) false,.ar 6 (d.bN.map ja) false]
structure bU where
 view:Int
 ev:Int
 ka:Int
 bI:Int
def eA(a:bU):List ak:=[i64 a.view,i64 a.ev,i64 a.ka,i64 a.bI]
def Et(r:Nat)(s:Int):Edge:=⟨r,s,false,false,⟨0,0⟩⟩
def wV:Edge:=⟨0,0,false,false,⟨0,0⟩⟩
def mL(S:List Int)(i:Nat):List Edge:=(List.range i).map λk=>Et k (S.getD k 0)
theorem x1(S:List Int)(i:Nat): (mL S i).length=i:=by simp[mL]
theorem ZB(S:List Int)(i:Nat):mL S (i+1)=mL S i++ [Et i (S.getD i 0)]:=by
 unfold mL;rw[Av,ef];rfl
def oE:jr:=⟨0,⟨0,[]⟩,[]⟩
def gA(v:aK)(self:Int):jr×Int:=bif !b0 v|| !bH v.mem self then(oE,1)else(⟨self,v,mL (ft v.mem self) (ft v.mem self).length⟩,0)
variable{n:Nat}
theorem LL(h:n<=2000000):kp ag 96 n:=by
 have e: (aF ag 96).bytes=40:=by rfl
 refine⟨?_,?_⟩
 ·grind
 ·simp only[maxLen];omega
theorem BI(ms:List Int)(id:Int): (ft ms id).length<=5:=by
 unfold ft;cases (!dq ms 16|| !bH ms id||decide ((ms.length:Int)=1))<;>simp[n2]
theorem Eu(v:aK)(ab:v.mem.length<=maxLen)(self:Int):bl Tryz.prog 69 [.agg (cc v),i64 self] (.bd [.agg (sX (gA v self).1),i64 (gA v self).2]):=by
 have aC:=ri v ab;have aG:=jq v.mem ab self;have aW:gA v self=bif !b0 v|| !bH v.mem self then(oE,1)else(⟨self,v,mL (ft v.mem self) (ft v.mem self).length⟩,0):=rfl;refine b9 (fn:=Tryz.f69) (c:=Tryz.f69.body.getD .skip) aA ay (by rfl) Tryz.func69 (by rfl) (by rfl) (by rfl) (by rfl) ?_;repeat' ((conv=>whnf);first|refine be ?_| (apply bh<;>intro h)|refine dr ?_|refine aS aC ?_|refine dz aG ?_|fail)
 all_goals(conv=>whnf)
 ·rw[aW,h];exact eO ⟨h6 ⟨.r,.r,.av,.av,ai⟩,.r,ai⟩
 ·have oF:b0 v=true:=by
   grind
  have gX:=mK oF;rw[h,bs]at aW;rw[aW];have es:=aj7 v.mem ab self;have pd:=BI v.mem self;generalize ft v.mem self=S at es pd;clear h aW;refine aO (lU (by grind)) ?_;repeat' ((conv=>whnf);first|refine cd ?_|refine aS es ?_|fail)
  all_goals(conv=>whnf)
  refine⟨Nat,λi=>⟨[(4,.aV 1 0),(6,.aV 3 0),(31,.ar 1 (S.map aM) false),(32,i64 S.length),(33,i64 i)],[.cells 24 (cc v),.cells 45 [i64 0,i64 0,.av,.av],.row 3 1 (v.mem.map aM),.cells 45 [i64 self,i64 v.num,.own 2,.own 4],.row 96 6 ((mL S i).map ja)]⟩,λi=>i<=S.length,λi=>S.length-i,[.cell 3 3 96 6],⟨0,bX _,?_⟩,?_⟩
  ·conv=>whnf
   exact⟨⟨.r,.r,.r,aX (by simp),.r,ai⟩,⟨.r,.r,.r,.r,.r,ai⟩,by rfl⟩
  ·intro i hi;have pN:=x1 S i;repeat' ((conv=>whnf);first| (apply bh<;>intro h)|fail)
   ·have ax:i<S.length:=by grind
    clear h;have aw:S.getD i 0=S[i]:=by grind
    have rk:=ZB S i;rw[aw]at rk;repeat' ((conv=>whnf);first|refine⟨_,_,aO ⟨rfl,c3 ax⟩ ?_⟩|fail)
    all_goals(conv=>whnf)
    refine aO (LL (by grind)) ?_;repeat' ((conv=>whnf);first|refine be ?_|fail)
    all_goals(conv=>whnf)
    refine⟨i+1,ax,by grind,?_⟩;conv=>whnf
    refine⟨⟨.r,.r,.r,.r,aX (bW (by omega)),ai⟩,⟨.r,.r,.r,.r,cK ?_,ai⟩,by rfl⟩;rw[rk,ef];rfl
   ·have:i=S.length:=by
     grind
    subst this;repeat' ((conv=>whnf);first|exact .refl|fail)
theorem akz(v:aK)(ab:v.mem.length<=maxLen)(self:Int):bl Tryz.prog 39 [.agg (cc v),i64 self] (.bd [.agg (sX (gA v self).1),i64 (gA v self).2]):=by
 have aC:=Ek v ab;have aG:=Ly v.mem ab self;have aW:gA v self=bif !b0 v|| !bH v.mem self then(oE,1)else(⟨self,v,mL (ft v.mem self) (ft v.mem self).length⟩,0):=rfl;refine b9 (fn:=Tryz.f39) (c:=Tryz.f39.body.getD .skip) aA ay (by rfl) Tryz.func39 (by rfl) (by rfl) (by rfl) (by rfl) ?_;repeat' ((conv=>whnf);first|refine be ?_| (apply bh<;>intro h)|refine dr ?_|refine aS aC ?_|refine dz aG ?_|fail)
 all_goals(conv=>whnf)
 ·rw[aW,h];exact eO ⟨h6 ⟨.r,.r,.av,.av,ai⟩,.r,ai⟩
 ·have oF:b0 v=true:=by
   grind
  have gX:=mK oF;rw[h,bs]at aW;rw[aW];have es:=akj v.mem ab self;have pd:=BI v.mem self;generalize ft v.mem self=S at es pd;clear h aW;repeat' ((conv=>whnf);first|refine aS es ?_|fail)
  all_goals(conv=>whnf)
  refine⟨Nat,λi=>⟨[(4,.aV 1 0),(6,.aV 2 0),(7,.ar 1 (S.map aM) false),(8,i64 i)],[.cells 24 (cc v),.cells 45 [i64 0,i64 0,.av,.av],.cells 45 [i64 self,i64 v.num,.ar 1 (v.mem.map aM) false,.own 3],.row 96 6 ((mL S i).map ja)]⟩,λi=>i<=S.length,λi=>S.length-i,[.cell 2 3 96 6],⟨0,bX _,?_⟩,?_⟩
  ·conv=>whnf
   exact⟨⟨.r,.r,.r,.r,ai⟩,⟨.r,.r,.r,.r,ai⟩,by rfl⟩
  ·intro i hi;have pN:=x1 S i;repeat' ((conv=>whnf);first| (apply bh<;>intro h)|fail)
   ·have ax:i<S.length:=by grind
    clear h;have aw:S.getD i 0=S[i]:=by grind
    have rk:=ZB S i;rw[aw]at rk;repeat' ((conv=>whnf);first|refine⟨_,_,aO ⟨rfl,c3 ax⟩ ?_⟩|refine Exists.intro false ?_|fail)
    all_goals(conv=>whnf)
    refine aO (LL (by grind)) ?_;repeat' ((conv=>whnf);first|refine cd ?_|fail)
    all_goals(conv=>whnf)
    refine⟨i+1,ax,by grind,?_⟩;conv=>whnf
    refine⟨⟨.r,.r,.r,aX (bW (by omega)),ai⟩,⟨.r,.r,.r,cK ?_,ai⟩,by rfl⟩;rw[rk,ef];rfl
   ·have:i=S.length:=by
     grind
    subst this;repeat' ((conv=>whnf);first|exact .refl|fail)
def x2(E W:List Edge)(i:Nat):Bool:= !(!decide ((E.getD i wV).ev=(W.getD i wV).ev)|| !decide ((E.getD i wV).bI=(W.getD i wV).bI)|| !pW (E.getD i wV).j9)
def pX(d:jr):Bool:=bif !decide ((gA d.view d.self).2=0)|| !decide ((d.bN.length:Int)=((gA d.view d.self).1.bN.length:Int))then false else ih (x2 d.bN (gA d.view d.self).1.bN) d.bN.length
theorem Ry(d:jr)(ab:d.view.mem.length<=maxLen)(he:d.bN.length<=maxLen):bl Tryz.prog 62 [.agg (sX d)] (.v (.bool (pX d))):=by
 have G1:d.bN.length<=9223372036854775807:=he;have zv:=Eu d.view ab d.self;have aa:pX d=bif !decide ((gA d.view d.self).2=0)|| !decide ((d.bN.length:Int)=((gA d.view d.self).1.bN.length:Int))then false else ih (x2 d.bN (gA d.view d.self).1.bN) d.bN.length:=rfl;generalize gA d.view d.self=N at zv aa;obtain⟨n,e⟩:=N;refine b9 (fn:=Tryz.f62) (c:=Tryz.f62.body.getD .skip) aA ay (by rfl) Tryz.func62 (by rfl) (by rfl) (by rfl) (by rfl) ?_;repeat' ((conv=>whnf);first|refine be ?_| (apply bh<;>intro h)|refine dr ?_|refine aS zv ?_|fail)
 all_goals(conv=>whnf)
 ·rw[bF,bF]at h;rw[aa,h];exact .refl
 ·rw[bF,bF]at h;rw[h,bs]at aa;have af:d.bN.length=n.bN.length:=by
   grind
  clear h;refine⟨Nat,λi=>⟨[(3,.aV 1 0),(27,.ar 6 (d.bN.map ja) false),(28,i64 d.bN.length),(29,i64 i)],[.cells 45 (sX d),.cells 45 (sX n)]⟩,λi=>i<=d.bN.length/\∀j,j<i->x2 d.bN n.bN j=true,λi=>d.bN.length-i,[],⟨0,⟨bX _,by omega⟩,?_⟩,?_⟩
  ·exact⟨⟨.r,.r,aX (by simp),.r,ai⟩,⟨.r,.r,ai⟩,rfl⟩
  ·intro i ⟨hi,ct⟩;repeat' ((conv=>whnf);first| (apply bh<;>intro h)|fail)
   ·have ax:i<d.bN.length:=by grind
    clear h;have ml:i<n.bN.length:=by omega
    have aw:d.bN.getD i wV=d.bN[i]:=by grind
    have hT:n.bN.getD i wV=n.bN[i]:=by grind
    have cw:x2 d.bN n.bN i= !(!decide (d.bN[i].ev=n.bN[i].ev)|| !decide (d.bN[i].bI=n.bN[i].bI)|| !pW d.bN[i].j9):=by
     simp only[x2,aw,hT]
    have ZC:=Rw d.bN[i].j9;generalize pW d.bN[i].j9=avB at ZC cw;repeat' ((conv=>whnf);first|refine be ?_| (apply bh<;>intro h)|refine cd ?_|refine dr ?_|refine⟨_,_,aO ⟨rfl,c3 ax⟩ ?_⟩|refine⟨_,_,aO ⟨rfl,c3 ml⟩ ?_⟩|refine dz ZC ?_|refine⟨i,ja (n.bN[i]'ml),aO ⟨⟨λh=>h,λh=>h⟩,λaw=>⟨rfl,c3 ml⟩⟩ ?_⟩|fail)
    all_goals(conv=>whnf)
    ·rw[aa,sR ax (by grind)];exact .refl
    ·refine⟨i+1,⟨ax,λj aq=> ?_⟩,by grind,?_⟩
     ·grind
     ·exact⟨⟨.r,.r,.r,aX (bW (by omega)),ai⟩,⟨.r,.r,ai⟩,rfl⟩
   ·have fp:¬i<d.bN.length:=by grind
    conv=>whnf
    refine fY ?_;rw[aa,ij.2 (λj aq=>ct j (by omega))]
def pY{α:Type}(f:α->α)(l:List α)(i:Nat):List α:=(l.take i).map f++l.drop i
theorem Rz{α:Type}(f:α->α)(l:List α)(i:Nat): (pY f l i).length=l.length:=by
 simp[pY];omega
theorem ZD{α:Type}{f:α->α}{l:List α}(h:i<l.length): (pY f l i)[i]'(by rw[Rz];exact h)=l[i]:=by
 have af: ((l.take i).map f).length=i:=by grind
 simp only[pY]
 grind
theorem ZE{α:Type}{f:α->α}{l:List α}(h:i<l.length): (pY f l i).set i (f l[i])=pY f l (i+1):=by
 have af: ((l.take i).map f).length=i:=by grind
 unfold pY;rw[VJ _ _ (by omega),af,AA,vY h,List.set_cons_zero,e4 h,ef];simp
theorem ZF{α:Type}(f:α->α)(l:List α):pY f l l.length=l.map f:=by simp[pY]
theorem akA(h:n<=2000000):n* (aF ag 96).bytes<=140737488355328/\n<=maxLen:=LL h
theorem akB(h:n<=2000000):n* (aF ag 3).bytes<=140737488355328/\n<=maxLen:=lU h
theorem ZG{l:List (List ak)}{z:List ak}:l.take (List.replicate l.length z).length++(List.replicate l.length z).drop l.length=l:=by
 simp
theorem ZH(d:jr)(ab:d.view.mem.length<=1000000)(he:d.bN.length<=1000000):
  cm Tryz.prog 144 [] [.agg (sX d)] [] [.bm,.bm,.row 3 1 (d.view.mem.map aM),.row 96 6 (d.bN.map ja)] (.agg [i64 d.self,i64 d.view.num,.own 2,.own 3]):=by
 have f1:=akB (n:=(d.view.mem.map aM).length) (by grind);have f2:=akA (n:=(d.bN.map ja).length) (by grind);refine ik (fn:=Tryz.f144) (c:=Tryz.f144.body.getD .skip) aA ay (by rfl) Tryz.func144 (by rfl) (by rfl) (by rfl) (by rfl) (by rfl) ?_;repeat' ((conv=>whnf);first|refine cd ?_|refine⟨(d.view.mem.map aM).length,(d.view.mem.map aM).length,rfl,rfl,bP _,f1.1,f1.2,?_⟩|refine⟨(d.bN.map ja).length,(d.bN.map ja).length,rfl,rfl,bP _,f2.1,f2.2,?_⟩|fail)
 all_goals(conv=>whnf)
 exact⟨.r,⟨.bm,.bm,cK ZG,cK ZG,ai⟩,by rfl⟩
theorem akC{d:jr}(h:pX d=true):b0 d.view=true/\bH d.view.mem d.self=true/\d.bN.length=(ft d.view.mem d.self).length:=by
 unfold pX at h;rw[gA]at h;cases aj: (!b0 d.view|| !bH d.view.mem d.self)
 ·rw[aj]at h;simp only[bs]at h;simp only[iK,l3]at aj;refine⟨aj.1,aj.2,?_⟩;simp only[x1]at h
  grind
 grind
theorem ZI{d:jr}(h:pX d=true):d.view.mem.length<=16/\d.bN.length<=5:=by
 have a:=akC h;have b:=BI d.view.mem d.self;exact⟨(mK a.1).2,by omega⟩
def vk(i:Int)(e:Edge):Edge:=bif decide (e.bI=i)then⟨e.ev,e.bI,true,e.hq,e.j9⟩else e
def nH(d:jr)(i:Int):jr:=bif !pX d then oE else⟨d.self,d.view,d.bN.map (vk i)⟩
theorem akD(d:jr)(ab:d.view.mem.length<=maxLen)(he:d.bN.length<=maxLen)(id:Int):bl Tryz.prog 86 [.agg (sX d),i64 id] (.agg (sX (nH d id))):=by
 have aC:=Ry d ab he;refine b9 (fn:=Tryz.f86) (c:=Tryz.f86.body.getD .skip) aA ay (by rfl) Tryz.func86 (by rfl) (by rfl) (by rfl) (by rfl) ?_;repeat' ((conv=>whnf);first| (apply bh<;>intro h)|refine aS aC ?_|fail)
 all_goals(conv=>whnf)
 ·rw[nH,h];exact h6 ⟨.r,.r,.av,.av,ai⟩
 ·have AW:pX d=true:=by grind
  have af:=ZI AW;rw[nH,h,bs];refine .inr ⟨[],bS (ZH d (by omega) (by omega)) ?_⟩;clear h;repeat' ((conv=>whnf);first|refine be ?_|fail)
  all_goals(conv=>whnf)
  refine⟨Nat,λi=>⟨[(1,i64 id),(4,.aV 1 0),(5,.aV 6 0),(15,i64 d.bN.length),(16,i64 i)],[.cells 45 (sX d),.cells 45 [i64 0,i64 0,.av,.av],.bm,.bm,.row 3 1 (d.view.mem.map aM),.row 96 6 ((pY (vk id) d.bN i).map ja),.cells 45 [i64 d.self,i64 d.view.num,.own 4,.own 5]]⟩,λi=>i<=d.bN.length,λi=>d.bN.length-i,[],⟨0,bX _,?_⟩,?_⟩
  ·conv=>whnf
   exact⟨⟨.r,.r,.r,aX (by simp),.r,ai⟩,⟨.r,.r,.r,.r,.r,.r,.r,ai⟩,by rfl⟩
  ·intro i hi;repeat' ((conv=>whnf);first| (apply bh<;>intro h)|fail)
   ·have ax:i<d.bN.length:=by grind
    clear h;have qA:i<(pY (vk id) d.bN i).length:=by rw[Rz];omega
    have fp:=ZD (f:=vk id) ax;have xD:=ZE (f:=vk id) ax;have LM: ((pY (vk id) d.bN i).map ja)[i]?=some (ja d.bN[i]):=by grind
    have gQ:i<((pY (vk id) d.bN i).map ja).length:=by grind
    have az:vk id d.bN[i]=bif decide (d.bN[i].bI=id)then⟨d.bN[i].ev,d.bN[i].bI,true,d.bN[i].hq,d.bN[i].j9⟩else d.bN[i]:=rfl;repeat' ((conv=>whnf);first| (apply bh<;>intro h)|refine⟨i,aO ⟨rfl,gQ⟩ ?_⟩|refine⟨ja d.bN[i],aO LM ?_⟩|fail)
    all_goals(conv=>whnf)
    all_goals refine⟨i+1,ax,by simp only[];omega,?_⟩
    all_goals(conv=>whnf)
    all_goals refine⟨⟨.r,.r,.r,.r,aX (bW (by omega)),ai⟩,⟨.r,.r,.r,.r,.r,cK ?_,.r,ai⟩,by rfl⟩
    all_goals rw[<-xD,az,h]
    ·rw[bY,nQ];rfl
    ·rw[bs];conv=>rhs;rw[<-fp,FT]
   ·have:i=d.bN.length:=by
     grind
    subst this;rw[ZF];repeat' ((conv=>whnf);first|exact .refl|fail)
def wW(e:Edge):Edge:=⟨e.ev,e.bI,false,e.hq||r0 (jF e.j9 e.mn),jF e.j9 e.mn⟩
def zw(e:Edge):Bool:=r0 (jF e.j9 e.mn)&& !e.hq
def LN(d:jr)(e:Edge):bU:=⟨d.view.num,e.ev,d.self,e.bI⟩
def r1(d:jr)(i:Nat):List bU:=((d.bN.take i).filter zw).map (LN d)
theorem akE(d:jr)(i:Nat)(h:i<d.bN.length):r1 d (i+1)=r1 d i++bif zw d.bN[i]then [LN d d.bN[i]]else []:=by
 unfold r1;rw[e4 h,nx,ef];cases bC:zw d.bN[i]<;>simp[bC]
theorem ZJ(d:jr)(i:Nat): (r1 d i).length<=i:=by
 unfold r1
 grind
def cR(d:jr):jr×List bU:=bif !pX d then(oE,[])else(⟨d.self,d.view,d.bN.map wW⟩,r1 d d.bN.length)
theorem LO(h:n<=2000000):kp ag 147 n:=by
 have e: (aF ag 147).bytes=32:=by rfl
 refine⟨?_,?_⟩
 ·grind
 ·simp only[maxLen];omega
theorem LP{α:Type}{l:List α}{x:α}(h:i<l.length): (l.set i x)[i]?=some x:=by simp[h]
theorem RA(d:jr)(ab:d.view.mem.length<=maxLen)(he:d.bN.length<=maxLen)(ac:∀e∈d.bN,0<=e.j9.bits):bl Tryz.prog 93 [.agg (sX d)] (.bd [.agg (sX (cR d).1),.ar 4 ((cR d).2.map eA) false]):=by
 have aC:=Ry d ab he;refine b9 (fn:=Tryz.f93) (c:=Tryz.f93.body.getD .skip) aA ay (by rfl) Tryz.func93 (by rfl) (by rfl) (by rfl) (by rfl) ?_;repeat' ((conv=>whnf);first| (apply bh<;>intro h)|refine aS aC ?_|fail)
 all_goals(conv=>whnf)
 ·rw[cR,h];exact eO ⟨h6 ⟨.r,.r,.av,.av,ai⟩,.av,ai⟩
 ·have AW:pX d=true:=by grind
  have af:=ZI AW;rw[cR,h,bs];refine .inr ⟨[],bS (ZH d (by omega) (by omega)) ?_⟩;clear h;repeat' ((conv=>whnf);first|refine be ?_|fail)
  all_goals(conv=>whnf)
  refine⟨Nat,λi=>⟨[(2,.aV 1 0),(4,.aV 6 0),(5,.own 7),(16,i64 d.bN.length),(17,i64 i)],[.cells 45 (sX d),.cells 45 [i64 0,i64 0,.av,.av],.bm,.bm,.row 3 1 (d.view.mem.map aM),.row 96 6 ((pY wW d.bN i).map ja),.cells 45 [i64 d.self,i64 d.view.num,.own 4,.own 5],.row 147 4 ((r1 d i).map eA)]⟩,λi=>i<=d.bN.length,λi=>d.bN.length-i,[.ho 5 147 4],⟨0,bX _,?_⟩,?_⟩
  ·conv=>whnf
   exact⟨⟨.r,.r,.r,aX (by simp),.r,ai⟩,⟨.r,.r,.r,.r,.r,.r,.r,.r,ai⟩,by rfl⟩
  ·intro i hi;repeat' ((conv=>whnf);first| (apply bh<;>intro h)|fail)
   ·have ax:i<d.bN.length:=by grind
    clear h;have qA:i<(pY wW d.bN i).length:=by rw[Rz];omega
    have fp:=ZD (f:=wW) ax;have xD:=ZE (f:=wW) ax;have akF:=akE d i ax;have Ev:=ZJ d i;have LM: ((pY wW d.bN i).map ja)[i]?=some (ja d.bN[i]):=by grind
    have akG: ((r1 d i).map eA).length+1<=2000000:=by grind
    have gQ:i<((pY wW d.bN i).map ja).length:=by grind
    have LQ:=ac d.bN[i] (eM ax);have Hz:=Rx (w:=d.bN[i].j9) LQ d.bN[i].mn;have Ew:=akw d.bN[i].j9 LQ d.bN[i].mn;have k5:=aky (jF d.bN[i].j9 d.bN[i].mn) Hz;have pU:wW d.bN[i]= ⟨d.bN[i].ev,d.bN[i].bI,false,d.bN[i].hq||r0 (jF d.bN[i].j9 d.bN[i].mn),jF d.bN[i].j9 d.bN[i].mn⟩:=rfl;have ZK:zw d.bN[i]=(r0 (jF d.bN[i].j9 d.bN[i].mn)&& !d.bN[i].hq):=rfl;have jj:LN d d.bN[i]= ⟨d.view.num,d.bN[i].ev,d.self,d.bN[i].bI⟩:=rfl;generalize ah:d.bN[i]=x at *;obtain⟨HA,xs,RB,x3,ZL⟩:=x;simp only[]at LM LQ Hz Ew k5 pU ZK jj;generalize jF ZL RB=w at *;generalize r0 w=im at *;repeat' ((conv=>whnf);first|refine be ?_| (apply bh<;>intro h)|refine cd ?_|refine⟨i,aO ⟨rfl,gQ⟩ ?_⟩|refine⟨ja ⟨HA,xs,RB,x3,ZL⟩,aO LM ?_⟩|refine⟨ja ⟨HA,xs,RB,x3,w⟩,LP gQ,?_⟩|refine⟨ja ⟨HA,xs,false,x3,w⟩,aO (LP (by simpa using gQ)) ?_⟩|refine⟨ja ⟨HA,xs,false,true,w⟩,aO (LP (by simpa using gQ)) ?_⟩|refine⟨ja ⟨HA,xs,false,x3,w⟩,aO ⟨λh=>h,λ_=>LP (by simpa using gQ)⟩ ?_⟩|refine aO (LO akG) ?_|refine aS Ew ?_|refine aS k5 ?_|refine Exists.intro false ?_|fail)
    all_goals(conv=>whnf)
    all_goals refine⟨i+1,ax,by simp only[];omega,?_⟩
    all_goals(conv=>whnf)
    all_goals refine⟨⟨.r,.r,.r,.r,aX (bW (by omega)),ai⟩,⟨.r,.r,.r,.r,.r,cK ?_,.r,cK ?_,ai⟩,by rfl⟩
    ·rw[OE,OE,<-xD,pU,nQ];have RC: (x3||im)=true:=by
      cases x3<;>cases im<;>simp_all
     rw[RC];rfl
    ·rw[akF,ZK,h,bY,ef,jj];rfl
    ·rw[OE,<-xD,pU,nQ];have RC: (x3||im)=x3:=by
      cases x3<;>cases im<;>simp_all
     rw[RC];rfl
    grind
   ·have:i=d.bN.length:=by
     grind
    subst this;rw[ZF];repeat' ((conv=>whnf);first|exact .refl|fail)
def gf:bU:=⟨0,0,0,0⟩
def n3(a:bU):Bool:=decide (0<=a.ev)&&decide (a.ev<5)&&decide (1<=a.ka)&&decide (a.ka<=1000)&&decide (1<=a.bI)&&decide (a.bI<=1000)
def js(a b:bU):Bool:=decide (a.bI<b.bI)|| (decide (a.bI=b.bI)&&decide (a.ev<b.ev))
theorem ZM(a:bU):bl Tryz.prog 183 [.agg (eA a)] (.v (.bool (n3 a))):=by
 refine b9 (fn:=Tryz.f183) (c:=Tryz.f183.body.getD .skip) aA ay (by rfl) Tryz.func183 (by rfl) (by rfl) (by rfl) (by rfl) ?_;repeat' ((conv=>whnf);first|refine be ?_|exact .refl|fail)
theorem LR(a b:bU):bl Tryz.prog 120 [.agg (eA a),.agg (eA b)] (.v (.bool (js a b))):=by
 refine b9 (fn:=Tryz.f120) (c:=Tryz.f120.body.getD .skip) aA ay (by rfl) Tryz.func120 (by rfl) (by rfl) (by rfl) (by rfl) ?_;repeat' ((conv=>whnf);first|refine be ?_|exact .refl|refine dr ?_|fail)
def gB(v:aK)(a:bU):Bool:=bif !b0 v|| !decide (a.view=v.num)|| !n3 a then false else decide (a.ev<((cv v.mem a.bI).length:Int))&&decide ((cv v.mem a.bI).getD a.ev.toNat 0=a.ka)
theorem ZN(v:aK)(ab:v.mem.length<=maxLen)(a:bU):bl Tryz.prog 119 [.agg (cc v),.agg (eA a)] (.v (.bool (gB v a))):=by
 have aC:=ri v ab;have aG:=ZM a;have bc:=LH v.mem ab a.bI;have aa:gB v a=bif !b0 v|| !decide (a.view=v.num)|| !n3 a then false else decide (a.ev<((cv v.mem a.bI).length:Int))&&decide ((cv v.mem a.bI).getD a.ev.toNat 0=a.ka):=rfl;have ao:n3 a=true->0<=a.ev:=λh=>by
  simp only[n3,cq,fr]at h;omega
 generalize cv v.mem a.bI=R at bc aa;generalize n3 a=akH at *;generalize b0 v=vl at *;generalize gB v a=res at *;refine b9 (fn:=Tryz.f119) (c:=Tryz.f119.body.getD .skip) aA ay (by rfl) Tryz.func119 (by rfl) (by rfl) (by rfl) (by rfl) ?_;repeat' ((conv=>whnf);first|refine be ?_| (apply bh<;>intro h)|refine dr ?_|refine aS aC ?_|refine dz aG ?_|fail)
 ·rw[aa,h];exact .refl
 ·have RD:akH=true:=by
   grind
  have aR:=ao RD;rw[h,bs]at aa;clear h;have jR:decide (a.ev<((R.map aM).length:Int))=true->a.ev=((a.ev.toNat:Nat):Int)/\(R.map aM)[a.ev.toNat]?=some (aM (R.getD a.ev.toNat 0)):=λh=>by
   grind
  repeat' ((conv=>whnf);first|refine be ?_|refine cd ?_|refine dr ?_|refine aS bc ?_|refine⟨a.ev.toNat,aM (R.getD a.ev.toNat 0),aO ⟨⟨λh=>h,λh=>h⟩,λh=>jR h⟩ ?_⟩|fail)
  all_goals(conv=>whnf)
  refine fY ?_
  grind
def vm(v:aK)(l:List bU)(i:Nat):Bool:=gB v (l.getD i gf)&& !(decide (0<(i:Int))&& !js (l.getD (i-1) gf) (l.getD i gf))
def dF(v:aK)(l:List bU):Bool:=bif !b0 v then false else ih (vm v l) l.length
theorem Ex(v:aK)(ab:v.mem.length<=maxLen)(l:List bU)(af:l.length<=maxLen):bl Tryz.prog 64 [.agg (cc v),.ar 4 (l.map eA) false] (.v (.bool (dF v l))):=by
 have hs:l.length<=9223372036854775807:=af;have aC:=ri v ab;have aa:dF v l=bif !b0 v then false else ih (vm v l) l.length:=rfl;have n0:=ZN v ab;generalize dF v l=res at *;generalize b0 v=vl at *;refine b9 (fn:=Tryz.f64) (c:=Tryz.f64.body.getD .skip) aA ay (by rfl) Tryz.func64 (by rfl) (by rfl) (by rfl) (by rfl) ?_;repeat' ((conv=>whnf);first| (apply bh<;>intro h)|refine aS aC ?_|fail)
 all_goals(conv=>whnf)
 ·rw[aa,h];exact .refl
 ·rw[h,bs]at aa;clear h;subst aa;refine⟨Nat,λi=>⟨[(1,.ar 4 (l.map eA) false),(2,.aV 0 0),(10,.ar 4 (l.map eA) false),(11,i64 l.length),(12,i64 i)],[.cells 24 (cc v)]⟩,λi=>i<=l.length/\∀j,j<i->vm v l j=true,λi=>l.length-i,[],⟨0,⟨bX _,by omega⟩,?_⟩,?_⟩
  ·conv=>whnf
   exact⟨⟨.r,.r,.r,aX (by simp),.r,ai⟩,⟨.r,ai⟩,by rfl⟩
  ·intro i ⟨hi,ct⟩;repeat' ((conv=>whnf);first| (apply bh<;>intro h)|fail)
   ·have ax:i<l.length:=by grind
    clear h;have aw:l.getD i gf=l[i]:=by grind
    have cw:vm v l i=(gB v l[i]&& !(decide (0<(i:Int))&& !js (l.getD (i-1) gf) l[i])):=by
     unfold vm;rw[aw]
    have cn:=n0 l[i];have eu:=LR (l.getD (i-1) gf) l[i];have jR:decide ((i:Int)>0)=true->IntKind.i64.wrap ((i:Int)-1)=((i-1:Nat):Int)/\(l.map eA)[i-1]?=some (eA (l.getD (i-1) gf)):=λh=>by
     have h:=fi h;have:i-1<l.length:=by omega
     refine⟨by rw[dW (by omega) (by omega)];omega,?_⟩
     grind
    have ZO:∀c:Bool,(c&&decide ((0:Int)<(i:Int)))=true->IntKind.i64.wrap ((i:Int)-1)=((i-1:Nat):Int)/\(l.map eA)[i-1]?=some (eA (l.getD (i-1) gf)):=λc h=>by
     grind
    generalize gB v l[i]=RE at cn cw;generalize js (l.getD (i-1) gf) l[i]=RF at eu cw;generalize l.getD (i-1) gf=aV at eu ZO;repeat' ((conv=>whnf);first|refine be ?_| (apply bh<;>intro h)|refine cd ?_|refine dr ?_|refine⟨_,_,aO ⟨rfl,c3 ax⟩ ?_⟩|refine aS cn ?_|refine⟨i-1,eA aV,aO ⟨⟨λh=>h,λh=>h⟩,λh=>ZO _ h⟩ ?_⟩|refine dz eu ?_|fail)
    all_goals(conv=>whnf)
    have ac:vm v l i= !(!RE|| (decide ((0:Int)<(i:Int))&& !RF)):=by
     grind
    ·rw[sR ax (by grind)];exact .refl
    ·have ac:vm v l i= !(!RE|| (decide ((0:Int)<(i:Int))&& !RF)):=by
      grind
     refine⟨i+1,⟨ax,λj aq=> ?_⟩,by grind,?_⟩
     ·grind
     ·conv=>whnf
      exact⟨⟨.r,.r,.r,.r,aX (bW (by omega)),ai⟩,⟨.r,ai⟩,by rfl⟩
   ·have fp:¬i<l.length:=by grind
    conv=>whnf
    refine fY ?_;rw[ij.2 (λj aq=>ct j (by omega))]
theorem ZP{α:Type}{p:α->Bool}{d:α}:∀ {l:List α} {k:Nat},k<=l.length->(∀j,j<k->p (l.getD j d)=true)->(k=l.length\/p (l.getD k d)=false)->(l.takeWhile p).length=k
 | [],k,h,_,_=>by
  simp_all
 |x::t,0,_,_,ad=>by
  simp_all
 |x::t,k+1,h,h1,ad=>by
  have ah:p x=true:=by simpa using h1 0 (by omega)
  have aY:=ZP (p:=p) (d:=d) (l:=t) (k:=k) (by grind) (λj aq=>by grind) (by grind)
  simp_all
def tV(l:List bU)(a:bU):Nat:=(l.takeWhile λx=>js x a).length
def k7(l:List bU)(a:bU):List bU×Bool:=bif decide (((tV l a:Nat):Int)<(l.length:Int))&& !js a (l.getD (tV l a) gf)then(l,false)else(l.take (tV l a)++ [a]++l.drop (tV l a),true)
theorem HB(l:List bU)(af:l.length<=1000000):bl Tryz.prog 81 [.ar 4 (l.map eA) false] (.ar 4 (l.map eA) false):=by
 refine b9 (fn:=Tryz.f81) (c:=Tryz.f81.body.getD .skip) aA ay (by rfl) Tryz.func81 (by rfl) (by rfl) (by rfl) (by rfl) ?_;repeat' ((conv=>whnf);first|refine be ?_|fail)
 refine aO (λow=> ?_) ?_
 ·repeat' ((conv=>whnf);first|refine be ?_|fail)
  all_goals(conv=>whnf)
  rw[ow];exact .av
 ·repeat' ((conv=>whnf);first|refine be ?_|fail)
  all_goals(conv=>whnf)
  refine aO (LO (by grind)) ?_;repeat' ((conv=>whnf);first|exact .refl|fail)
theorem ZQ(l:List bU)(af:l.length<=1000000)(a:bU):bl Tryz.prog 145 [.ar 4 (l.map eA) false,.agg (eA a)] (.bd [.ar 4 ((k7 l a).1.map eA) false,.v (.bool (k7 l a).2)]):=by
 refine b9 (fn:=Tryz.f145) (c:=Tryz.f145.body.getD .skip) aA ay (by rfl) Tryz.func145 (by rfl) (by rfl) (by rfl) (by rfl) ?_;repeat' ((conv=>whnf);first|refine be ?_|fail)
 all_goals(conv=>whnf)
 refine⟨Nat,λi=>⟨[(0,.ar 4 (l.map eA) false),(3,.aV 0 0),(6,i64 i)],[.cells 147 (eA a)]⟩,λi=>i<=l.length/\∀j,j<i->js (l.getD j gf) a=true,λi=>l.length-i,[],⟨0,⟨bX _,by omega⟩,?_⟩,?_⟩
 ·conv=>whnf
  exact⟨⟨.r,.r,.r,ai⟩,⟨.r,ai⟩,by rfl⟩
 ·intro i ⟨hi,ct⟩;have gy:decide ((i:Int)<((l.map eA).length:Int))=true->(l.map eA)[i]?=some (eA (l.getD i gf)):=λh=>by
   grind
  have aC:=LR (l.getD i gf) a;have aG:=LR a (l.getD i gf);have ap: (i=l.length\/js (l.getD i gf) a=false)->tV l a=i:=λh=>ZP hi ct h;have b4:tV l a=i->k7 l a=bif decide ((i:Int)<(l.length:Int))&& !js a (l.getD i gf)then(l,false)else(l.take i++ [a]++l.drop i,true):=λh=>by
   unfold k7;rw[h]
  have LS:js (l.getD i gf) a=true->∀j,j<i+1->js (l.getD j gf) a=true:=λh j aq=>by
   grind
  generalize k7 l a=res at *;generalize js (l.getD i gf) a=cY at *;generalize js a (l.getD i gf)=cZ at *;generalize l.getD i gf=li at gy aC aG;repeat' ((conv=>whnf);first|refine be ?_| (apply bh<;>intro h)|refine cd ?_|refine dr ?_|refine⟨i,eA li,aO ⟨⟨λh=>h,λh=>h⟩,λaw=>⟨rfl,gy aw⟩⟩ ?_⟩|refine dz aC ?_|fail)
  all_goals(conv=>whnf)
  ·have bp:=h;rw[cq,fr,bF]at bp;refine⟨i+1,⟨by omega,LS bp.2⟩,by grind,?_⟩;conv=>whnf
   exact⟨⟨.r,.r,aX (bW (by omega)),ai⟩,⟨.r,ai⟩,by rfl⟩
  ·rw[uD,hG,bF]at h;have hk:=ap (by grind);have ao:=b4 hk;clear h ap b4 hk LS ct aC;have iM:=HB l af;repeat' ((conv=>whnf);first|refine be ?_| (apply bh<;>intro h)|refine cd ?_|refine dr ?_|refine dz aG ?_|refine aS iM ?_|fail)
   all_goals(conv=>whnf)
   ·rw[bF]at h;rw[ao,h];exact .refl
   ·rw[bF]at h;rw[ao,h,bs];clear ao;repeat' ((conv=>whnf);first|refine cd ?_|refine⟨0,i,aO ⟨rfl,⟨_,rfl⟩,⟨_,rfl⟩,bX _,by simpa using hi⟩ ?_⟩|refine⟨i,aO ⟨⟨_,rfl⟩,by simpa using hi⟩ ?_⟩|refine aO (LO (by simp<;>omega)) ?_|refine .inl (aO (OO _) ?_)|refine Exists.intro false ?_|fail)
    all_goals(conv=>whnf)
    refine eO ⟨ig ?_,.r,ai⟩;rw[List.drop_zero,<-yH,<-yG,ef,ef];rfl
def nI(v:aK)(l:List bU)(a:bU):List bU×Bool×Int:=bif !dF v l|| !n3 a then([],false,1)else bif !decide (a.view=v.num)then([],false,8)else bif !gB v a then([],false,6)else((k7 l a).1,(k7 l a).2,0)
theorem akI(v:aK)(ab:v.mem.length<=maxLen)(l:List bU)(af:l.length<=1000000)(a:bU):bl Tryz.prog 161 [.agg (cc v),.ar 4 (l.map eA) false,.agg (eA a)] (.bd [.ar 4 ((nI v l a).1.map eA) false,.v (.bool (nI v l a).2.1),i64 (nI v l a).2.2]):=by
 have aC:=Ex v ab l (by simp only[maxLen];omega);have aG:=ZM a;have bc:=ZN v ab a;have cn:=ZQ l af a;have aa:nI v l a=bif !dF v l|| !n3 a then([],false,1)else bif !decide (a.view=v.num)then([],false,8)else bif !gB v a then([],false,6)else((k7 l a).1,(k7 l a).2,0):=rfl;generalize nI v l a=res at *;generalize dF v l=cY at *;generalize n3 a=cZ at *;generalize gB v a=iN at *;generalize k7 l a=ins at *;obtain⟨i1,i2⟩:=ins;simp only[]at cn aa;refine b9 (fn:=Tryz.f161) (c:=Tryz.f161.body.getD .skip) aA ay (by rfl) Tryz.func161 (by rfl) (by rfl) (by rfl) (by rfl) ?_;repeat' ((conv=>whnf);first|refine be ?_| (apply bh<;>intro h)|refine aS aC ?_|refine dz aG ?_|refine aS bc ?_|refine aS cn ?_|fail)
 all_goals(conv=>whnf)
 ·rw[aa,h];exact eO ⟨.av,.r,.r,ai⟩
 ·rename_i h1;rw[aa,h1,h];exact eO ⟨.av,.r,.r,ai⟩
 ·rename_i h1 ad;rw[aa,h1,ad,h];exact eO ⟨.av,.r,.r,ai⟩
 ·rename_i h1 ad;rw[aa,h1,ad,h];exact .refl
theorem ZR{l:List (List ak)}{z:List ak}:l.take (List.replicate l.length z).length++(List.replicate l.length z).drop l.length=l:=by
 simp
theorem r2(h:n<=2000000):kp ag 5 n:=by
 have e: (aF ag 5).bytes=1:=by rfl
 refine⟨?_,?_⟩
 ·grind
 ·simp only[maxLen];omega
theorem ZS(h:n<=2000000):n* (aF ag 5).bytes<=140737488355328/\n<=maxLen:=r2 h
theorem RG(l:List Nat)(af:l.length<=1000000):cm Tryz.prog 133 [] [.ar 1 (l.map bE) false,i64 10] [] [.row 5 1 (l.map bE)] (.own 0):=by
 have aj:IntKind.i64.wrap (((l.map bE).length:Int)+10)=((l.length+10:Nat):Int):=by
  rw[bF,dW (by omega) (by omega)];omega
 have f1:=ZS (n:=l.length+10) (by omega);refine ik (fn:=Tryz.f133) (c:=Tryz.f133.body.getD .skip) aA ay (by rfl) Tryz.func133 (by rfl) (by rfl) (by rfl) (by rfl) (by rfl) ?_;repeat' ((conv=>whnf);first|refine be ?_|fail)
 all_goals(conv=>whnf)
 refine⟨(l.map bE).length,l.length+10,rfl,aj,by simp,f1.1,f1.2,?_⟩;repeat' ((conv=>whnf);first|refine be ?_|fail)
 all_goals(conv=>whnf)
 exact⟨.r,⟨cK ZR,ai⟩,by rfl⟩
def n4:Nat->Nat->List Nat
 |0,v=>[v%256]
 |k+1,v=>if v<128 then [v]else(v%128+128)::n4 k (v/128)
def bB(v:Nat):List Nat:=n4 9 v
theorem akJ(w:Nat):bits .or .u8 (IntKind.u8.wrap (w:Int)) 128=((w%128+128:Nat):Int):=by
 have h:∀b:Fin 256,bits .or .u8 ((b.1:Nat):Int) 128=((b.1%128+128:Nat):Int):=by decide+kernel
 have h:=h ⟨w%256,uH _ (by decide)⟩;have e:IntKind.u8.wrap (w:Int)=((w%256:Nat):Int):=by
  rfl
 grind
theorem akK(w:Nat): (w:Int).fdiv (2^ (min (7:Int).toNat 64))=((w/128:Nat):Int):=(Int.ofNat_fdiv w 128).symm
theorem r3{d:ak}:hr (.cD [d]) (.cD [.a1]):=.cD rfl λi a b bb ac=>by
 cases i with
 |zero=>
  simp at bb ac;subst bb ac;exact .a1
 |succ n=>grind
theorem Ey(l:List Nat)(af:l.length<=1000000)(v:Nat)(ab:v<18446744073709551616):cm Tryz.prog 158 [.row 5 1 (l.map bE)] [.own 0,u64 v] [false] [.row 5 1 ((l++bB v).map bE),.bm] (.own 0):=by
 refine ik (fn:=Tryz.f158) (c:=Tryz.f158.body.getD .skip) aA ay (by rfl) Tryz.func158 (by rfl) (by rfl) (by rfl) (by rfl) (by rfl) ?_;repeat' ((conv=>whnf);first|refine be ?_|fail)
 all_goals(conv=>whnf)
 refine⟨List Nat×Nat×Nat,λx=>⟨[(0,.own 0),(1,u64 x.2.1)],[.row 5 1 (x.1.map bE),.cD [.a1]]⟩,λx=>x.1++n4 x.2.2 x.2.1=l++bB v/\x.2.1<128^ (x.2.2+1)/\x.1.length+x.2.2<=l.length+9,λx=>x.2.2,[],⟨⟨l,v,9⟩,⟨rfl,by grind,bP _⟩,?_⟩,?_⟩
 ·conv=>whnf
  exact⟨⟨.r,.r,ai⟩,⟨.r,r3,ai⟩,by rfl⟩
 ·intro ⟨es,w,k⟩ ⟨hi,hw,hk⟩;simp only[]at hi hw hk;have aH:=akJ w;have ae:=akK w;have az: (es.map bE).length+1<=2000000:=by
   grind
  repeat' ((conv=>whnf);first| (apply bh<;>intro h)|refine aO (r2 az) ?_| (refine aO ?_ ?_;focus (simp;done))|fail)
  all_goals(conv=>whnf)
  ·have HC:128<=w:=by
    grind
   clear h;obtain⟨k,rfl⟩:∃m,k=m+1:=by
    cases k with
    |zero=>omega
    |succ m=>simp
   rw[n4,bo (by omega)]at hi;refine⟨⟨es++ [w%128+128],w/128,k⟩,⟨by grind,?_,by grind⟩,by simp,?_⟩
   ·grind
   ·conv=>whnf
    refine⟨⟨.r,aX ae,ai⟩,⟨cK ?_,r3,ai⟩,by rfl⟩;show es.map bE++ [[.v (.int .u8 (bits .or .u8 (IntKind.u8.wrap (w:Int)) 128))]]=_;rw[aH,ef];rfl
  ·have HC:w<128:=by
    grind
   clear h;have ic:n4 k w=[w]:=by
    cases k with
    |zero=>rw[n4,ss (by omega)]
    |succ m=>rw[n4,b6 HC]
   rw[ic]at hi;have RH:IntKind.u8.wrap (w:Int)=(w:Int):=by
    simp only[IntKind.wrap,IntKind.bits,IntKind.signed]
    grind
   refine⟨.r,⟨cK ?_,r3,ai⟩,by rfl⟩;show es.map bE++ [[.v (.int .u8 (IntKind.u8.wrap (w:Int)))]]=_;rw[<-hi,RH,ef];rfl
theorem hN:∀ (k v:Nat),(n4 k v).length<=k+1
 |0,v=>by simp[n4]
 |k+1,v=>by
  rw[n4];split
  ·simp
  ·simpa using hN k (v/128)
theorem BJ(l:List Nat)(af:l.length<=900000)(v:Nat)(ab:v<18446744073709551616):bl Tryz.prog 99 [.ar 1 (l.map bE) false,u64 v] (.ar 1 ((l++bB v).map bE) false):=by
 have m1:=RG l (by omega);have m2:=Ey l (by omega) v ab;refine b9 (fn:=Tryz.f99) (c:=Tryz.f99.body.getD .skip) aA ay (by rfl) Tryz.func99 (by rfl) (by rfl) (by rfl) (by rfl) ?_;repeat' ((conv=>whnf);first|exact .refl|refine .inr ⟨[],bS m1 ?_⟩|refine .inr ⟨[0],bS m2 ?_⟩|fail)
def tW(i:Nat)(b:Nat)(aP:Int):Int:=bits .or .u64 aP (IntKind.u64.wrap (IntKind.u64.wrap (bits .and .u8 (b:Int) 127) *2^ (min (IntKind.i64.wrap (7* (i:Int))).toNat 64)))
def x4(i:Nat)(b:Nat):Bool:=(decide ((i:Int)=9)&&decide (1<(b:Int)))|| (decide (0<(i:Int))&&decide ((b:Int)=0))
def ej:List Nat->Nat->Int->Int×Int×Int
 | [],_,_=>(0,0,2)
 |b::r,i,aP=>bif x4 i b then(0,0,3)else bif decide ((b:Int)<128)then(tW i b aP,(i:Int)+1,0)else ej r (i+1) (tW i b aP)
theorem akL{l:List Nat}{i:Nat}(h:i<l.length)(aP:Int):ej (l.drop i) i aP=bif x4 i l[i]then(0,0,3)else bif decide ((l[i]:Int)<128)then(tW i l[i] aP,(i:Int)+1,0)else ej (l.drop (i+1)) (i+1) (tW i l[i] aP):=by
 rw[vY h,ej]
theorem BK(l:List Nat)(af:l.length<=1000000):bl Tryz.prog 134 [.ar 1 (l.map bE) false] (.bd [u64 (ej l 0 0).1,i64 (ej l 0 0).2.1,i64 (ej l 0 0).2.2]):=by
 have ae:∀i (h:i<l.length) aP,ej (l.drop i) i aP=bif x4 i l[i]then(0,0,3)else bif decide ((l[i]:Int)<128)then(tW i l[i] aP,(i:Int)+1,0)else ej (l.drop (i+1)) (i+1) (tW i l[i] aP):=λi h aP=>akL h aP;have he:∀aP,ej (l.drop l.length) l.length aP=(0,0,2):=λaP=>by rw[CZ,ej]
 have aR:ej (l.drop 0) 0 0=ej l 0 0:=rfl;generalize ej l 0 0=R at *;refine fM Tryz.func134 ?_;repeat' ((conv=>whnf);first|refine be ?_|fail)
 all_goals(conv=>whnf)
 refine⟨Nat×Int,λx=>⟨[(2,u64 x.2),(7,.ar 1 (l.map bE) false),(8,i64 l.length),(9,i64 x.1)],[]⟩,λx=>x.1<=l.length/\ej (l.drop x.1) x.1 x.2=R,λx=>l.length-x.1,[],⟨⟨0,0⟩,⟨bX _,aR⟩,?_⟩,?_⟩
 ·conv=>whnf
  exact⟨⟨.r,.r,aX (by simp),.r,ai⟩,ai,by rfl⟩
 ·intro ⟨i,aP⟩ ⟨hi,b4⟩;simp only[]at hi b4;repeat' ((conv=>whnf);first| (apply bh<;>intro h)|fail)
  ·have ax:i<l.length:=by simpa using h
   clear h;have ae:=ae i ax aP;rw[b4]at ae;have ac:x4 i l[i]=((decide ((i:Int)=9)&&decide (1<(l[i]:Int)))|| (decide (0<(i:Int))&&decide ((l[i]:Int)=0))):=rfl;have b3:tW i l[i] aP=bits .or .u64 aP (IntKind.u64.wrap (IntKind.u64.wrap (bits .and .u8 (l[i]:Int) 127) *2^ (min (IntKind.i64.wrap (7* (i:Int))).toNat 64))):=rfl;have akM:0<=IntKind.i64.wrap (7* (i:Int)):=by rw[dW (by omega) (by omega)];omega
   generalize tW i l[i] aP=wN at *;generalize x4 i l[i]=RI at *;repeat' ((conv=>whnf);first|refine be ?_| (apply bh<;>intro h)|refine dr ?_|refine⟨_,_,aO ⟨rfl,c3 ax⟩ ?_⟩|refine aO akM ?_|fail)
   all_goals(conv=>whnf)
   ·have BL:RI=true:=ac.trans h;rw[ae,BL];exact .refl
   ·rename_i h1;have RJ:RI=false:=ac.trans h1;rw[ae,RJ,h];exact eO ⟨aX b3.symm,aX (bW (by omega)),.r,ai⟩
   ·rename_i h1;have RJ:RI=false:=ac.trans h1;rw[RJ,h,bs,bs]at ae;refine⟨⟨i+1,wN⟩,⟨ax,ae.symm⟩,by simp only[];omega,?_⟩;conv=>whnf
    exact⟨⟨aX b3.symm,.r,.r,aX (bW (by omega)),ai⟩,ai,by rfl⟩
  ·have:i=l.length:=by
    simp at h;omega
   subst this;rw[he]at b4;subst b4;conv=>whnf
   exact .refl
theorem akN{a b k:Nat}(bb:a<2^k)(ae:a+b*2^k<18446744073709551616):bits .or .u64 (a:Int) ((b*2^k:Nat):Int)=((a+b*2^k:Nat):Int):=by
 have h1:a<2^64:=by omega
 have ad:b*2^k<2^64:=by omega
 have e: (BitVec.ofInt 64 (a:Int)|||BitVec.ofInt 64 ((b*2^k:Nat):Int)).toNat=a+b*2^k:=by
  rw[BitVec.toNat_or,FD,FD,FE,FE,ss h1,ss ad];rw[Nat.or_comm,Az b,<-Nat.two_pow_add_eq_or_of_lt bb,OH]
 show IntKind.u64.wrap ((BitVec.ofInt 64 (a:Int)|||BitVec.ofInt 64 ((b*2^k:Nat):Int)).toNat:Int)=_;rw[e];exact j8 (by omega) (by omega)
theorem akO{b:Nat}(h:b<256):bits .and .u8 (b:Int) 127=((b%128:Nat):Int):=by
 have bp:∀b:Fin 256,bits .and .u8 ((b.1:Nat):Int) 127=((b.1%128:Nat):Int):=by decide+kernel
 exact bp ⟨b,h⟩
theorem ZT{b aP:Nat}(hi:i<=9)(ac:b<256)(bb:aP<2^ (7*i))(ae:aP+b%128*2^ (7*i)<18446744073709551616):tW i b aP=((aP+b%128*2^ (7*i):Nat):Int):=by
 unfold tW;have aA:min (IntKind.i64.wrap (7* (i:Int))).toNat 64=7*i:=by
  rw[dW (by omega) (by omega)];omega
 rw[aA,akO ac,j8 (n:=((b%128:Nat):Int)) (by omega) (by omega)];have an: ((2:Int)^ (7*i))=((2^ (7*i):Nat):Int):=(Int.natCast_pow 2 (7*i)).symm;rw[an,<-Int.natCast_mul,j8 (n:=((b%128*2^ (7*i):Nat):Int)) (by omega) (by omega)];exact akN bb ae
theorem akP(rest:List Nat):∀ (k v i aP:Nat),v<128^ (k+1)->i+k=9->(0<i->0<v)->aP<2^ (7*i)->aP+v*2^ (7*i)<18446744073709551616->ej (n4 k v++rest) i (aP:Int)=(((aP+v*2^ (7*i):Nat):Int),((i+(n4 k v).length:Nat):Int),0):=by
 intro k;have eg:∀ (v i aP:Nat),v<128->i<=9->(0<i->0<v)->aP<2^ (7*i)->aP+v*2^ (7*i)<18446744073709551616->ej (v::rest) i (aP:Int)=(((aP+v*2^ (7*i):Nat):Int),((i+1:Nat):Int),0):=by
  intro v i aP ab hi fx bb ae;have RK:x4 i v=false:=by
   unfold x4
   grind
  have aA:v%128=v:=ss ab;rw[ej,RK,bs,ep (show (v:Int)<128 by omega),bY,ZT hi (by omega) bb (by grind),aA];rfl
 induction k with
 |zero=>
  intro v i aP ab hi fx bb ae;have ab:v<128:=by omega
  have e:n4 0 v=[v]:=by rw[n4,ss (by omega)]
  grind
 |succ k aY=>
  intro v i aP ab hi fx bb ae;rw[n4];by_cases h:v<128
  ·grind
  ·rw[bo h];have an:0<2^ (7*i):=Nat.pow_pos (by decide);have aa:v=v%128+128* (v/128):=by omega
   have hmul:v*2^ (7*i)=v%128*2^ (7*i)+v/128*2^ (7* (i+1)):=by
    grind
   have RK:x4 i (v%128+128)=false:=by
    unfold x4
    grind
   have aA: (v%128+128)%128=v%128:=by omega
   have b3:=ZT (i:=i) (b:=v%128+128) (aP:=aP) (by omega) (by omega) bb (by grind);rw[aA]at b3;rw[rI,ej,RK,bs,cX (show ¬(((v%128+128:Nat):Int)<128) by omega),bs,b3];have lA:aP+v%128*2^ (7*i)<2^ (7* (i+1)):=by
    have e:2^ (7* (i+1))=2^ (7*i) *128:=by
     grind
    rw[e];have:v%128*2^ (7*i)<=127*2^ (7*i):=kJ _ (by omega);omega
   have tN:v/128<128^ (k+1):=by
    omega
   rw[aY (v/128) (i+1) (aP+v%128*2^ (7*i)) tN (by omega) (λ_=>by omega) lA (by omega)]
   grind
theorem zx{v:Nat}(ab:v<18446744073709551616)(rest:List Nat):ej (bB v++rest) 0 0=((v:Int),(((bB v).length:Nat):Int),0):=by
 have h:=akP rest 9 v 0 0 (by omega) rfl (λh=>by omega) (by decide) (by omega);simp only[Nat.mul_zero,Nat.pow_zero,C9,uI]at h;exact h
theorem LU(l:List Nat)(af:l.length<=1000000)(k:Nat)(hk:k<=900000):cm Tryz.prog 133 [] [.ar 1 (l.map bE) false,i64 k] [] [.row 5 1 (l.map bE)] (.own 0):=by
 have aj:IntKind.i64.wrap (((l.map bE).length:Int)+(k:Int))=((l.length+k:Nat):Int):=by
  rw[bF,dW (by omega) (by omega)];omega
 have f1:=ZS (n:=l.length+k) (by omega);refine ik (fn:=Tryz.f133) (c:=Tryz.f133.body.getD .skip) aA ay (by rfl) Tryz.func133 (by rfl) (by rfl) (by rfl) (by rfl) (by rfl) ?_;repeat' ((conv=>whnf);first|refine be ?_|fail)
 all_goals(conv=>whnf)
 refine⟨(l.map bE).length,l.length+k,rfl,aj,by simp,f1.1,f1.2,?_⟩;repeat' ((conv=>whnf);first|refine be ?_|fail)
 all_goals(conv=>whnf)
 exact⟨.r,⟨cK ZR,ai⟩,by rfl⟩
def zy(s:Int):Int:=bits .xor .u32 (s.fdiv (2^ (min (1:Int).toNat 32))) (IntKind.u32.wrap (3988292384*bits .and .u32 s 1))
def sY(s:Int):Nat->Int
 |0=>s
 |k+1=>zy (sY s k)
def tX(l:List Nat):Nat->Int
 |0=>4294967295
 |i+1=>sY (bits .xor .u32 (tX l i) (IntKind.u32.wrap ((l.getD i 0:Nat):Int))) 8
def r4(l:List Nat):Int:=bits .xor .u32 (if IntKind.u32.signed=true then -1 else IntKind.u32.max) (tX l l.length)
theorem RL(l:List Nat)(af:l.length<=1000000):bl Tryz.prog 132 [.ar 1 (l.map bE) false] (.v (.int .u32 (r4 l))):=by
 refine b9 (fn:=Tryz.f132) (c:=Tryz.f132.body.getD .skip) aA ay (by rfl) Tryz.func132 (by rfl) (by rfl) (by rfl) (by rfl) ?_;repeat' ((conv=>whnf);first|refine be ?_|fail)
 all_goals(conv=>whnf)
 refine⟨Nat,λi=>⟨[(3,.v (.int .u32 (tX l i))),(6,.ar 1 (l.map bE) false),(7,i64 l.length),(8,i64 i)],[]⟩,λi=>i<=l.length,λi=>l.length-i,[],⟨0,bX _,?_⟩,?_⟩
 ·conv=>whnf
  exact⟨⟨.r,.r,aX (by simp),.r,ai⟩,ai,by rfl⟩
 ·intro i hi;repeat' ((conv=>whnf);first| (apply bh<;>intro h)|fail)
  all_goals(conv=>whnf)
  ·have ax:i<l.length:=by grind
   clear h;have aw:l.getD i 0=l[i]:=by grind
   have hy:tX l (i+1)=sY (bits .xor .u32 (tX l i) (IntKind.u32.wrap ((l.getD i 0:Nat):Int))) 8:=rfl;rw[aw]at hy;generalize tX l i=a at *;have o9: (l.map bE)[i]?=some (bE l[i]):=c3 ax;obtain⟨y,bn⟩:∃y,y=l[i]:=⟨_,rfl⟩
   rw[<-bn]at o9 hy;repeat' ((conv=>whnf);first|refine⟨i,bE y,aO ⟨rfl,o9⟩ ?_⟩|fail)
   all_goals(conv=>whnf)
   refine⟨Nat,λk=>⟨[(3,.v (.int .u32 (sY (bits .xor .u32 a (IntKind.u32.wrap (y:Int))) k))),(6,.ar 1 (l.map bE) false),(7,i64 l.length),(8,i64 i),(16,i64 k)],[]⟩,λk=>k<=8,λk=>8-k,[],⟨0,bX _,?_⟩,?_⟩
   ·conv=>whnf
    exact⟨⟨.r,.r,.r,.r,.r,ai⟩,ai,by rfl⟩
   ·intro k hk;have Ei:sY (bits .xor .u32 a (IntKind.u32.wrap (y:Int))) (k+1)=zy (sY (bits .xor .u32 a (IntKind.u32.wrap (y:Int))) k):=rfl;unfold zy at Ei;have x5:k=8->sY (bits .xor .u32 a (IntKind.u32.wrap (y:Int))) k=tX l (i+1):=λe=>by grind
    repeat' ((conv=>whnf);first| (apply bh<;>intro h)| (refine aO ?_ ?_;focus (simp;done))|fail)
    all_goals(conv=>whnf)
    ·have vn:k<8:=by
      grind
     clear h;refine⟨k+1,vn,by grind,?_⟩;conv=>whnf
     exact⟨⟨aX Ei.symm,.r,.r,.r,aX (bW (by omega)),ai⟩,ai,by rfl⟩
    ·have vn:k=8:=by
      grind
     clear h;refine⟨i+1,ax,by grind,?_⟩;conv=>whnf
     exact⟨⟨aX (x5 vn),.r,.r,aX (bW (by omega)),ai⟩,ai,by rfl⟩
  ·have cL:i=l.length:=by
    grind
   subst cL;exact .refl
def Ez(n:Int):List Int:=[IntKind.u8.wrap n,IntKind.u8.wrap (n.fdiv (2^ (min (8:Int).toNat 32))),IntKind.u8.wrap (n.fdiv (2^ (min (16:Int).toNat 32))),IntKind.u8.wrap (n.fdiv (2^ (min (24:Int).toNat 32)))]
def qC(n:Int):List Nat:=(Ez n).map (·.toNat)
theorem akQ(n:Int): ((IntKind.u8.wrap n).toNat:Int)=IntKind.u8.wrap n:=by
 have e:IntKind.u8.wrap n=n%256:=by rfl
 omega
theorem RM(n:Int): (Ez n).map (λx=>[ak.v (.int .u8 x)])=(qC n).map bE:=by
 simp only[qC,Ez,om,xg,bE,akQ]
theorem akR(n:Int):bl Tryz.prog 131 [.av,.v (.int .u32 n)] (.ar 1 ((qC n).map bE) false):=by
 rw[<-RM];refine b9 (fn:=Tryz.f131) (c:=Tryz.f131.body.getD .skip) aA ay (by rfl) Tryz.func131 (by rfl) (by rfl) (by rfl) (by rfl) ?_;repeat' ((conv=>whnf);first|exact .refl|refine aO (r2 (by simp<;>omega)) ?_| (refine aO ?_ ?_;focus (simp;done))|fail)
def x6(l:List Nat)(eU:Int):Int×Int×Int:=
 bif decide (eU<0)then(0,0,1)else bif !decide ((ej l 0 0).2.2=0)then(0,0,(ej l 0 0).2.2)else bif decide (IntKind.u64.wrap eU<(ej l 0 0).1)then(0,0,5)else(IntKind.i64.wrap (ej l 0 0).1,(ej l 0 0).2.1,0)
theorem ZU(l:List Nat)(af:l.length<=1000000)(eU:Int):bl Tryz.prog 130 [.ar 1 (l.map bE) false,i64 eU] (.bd [i64 (x6 l eU).1,i64 (x6 l eU).2.1,i64 (x6 l eU).2.2]):=by
 have e:=BK l af;obtain⟨R,b4⟩:∃R,R=x6 l eU:=⟨_,rfl⟩
 rw[<-b4];unfold x6 at b4;generalize ej l 0 0=U at *;refine b9 (fn:=Tryz.f130) (c:=Tryz.f130.body.getD .skip) aA ay (by rfl) Tryz.func130 (by rfl) (by rfl) (by rfl) (by rfl) ?_;repeat' ((conv=>whnf);first| (apply bh<;>intro h)|refine aS e ?_|fail)
 all_goals(conv=>whnf)
 all_goals(simp only[*,bY,bs]at b4)
 all_goals subst b4
 all_goals exact .refl
theorem ZV(l:List Nat)(af:l.length<=1900000)(n:Int):cm Tryz.prog 131 [.row 5 1 (l.map bE)] [.own 0,.v (.int .u32 n)] [false] [.row 5 1 ((l++qC n).map bE)] (.own 0):=by
 rw[ef,<-RM];refine ik (fn:=Tryz.f131) (c:=Tryz.f131.body.getD .skip) aA ay (by rfl) Tryz.func131 (by rfl) (by rfl) (by rfl) (by rfl) (by rfl) ?_;repeat' ((conv=>whnf);first|refine aO (r2 (by simp<;>omega)) ?_| (refine aO ?_ ?_;focus (simp;done))|fail)
 all_goals(conv=>whnf)
 all_goals exact⟨.r,⟨cK rfl,r3,ai⟩,by rfl⟩
def hz(k:Nat)(b:List Nat):List Nat:=[65,71,k]++bB b.length++b
def ew(k:Nat)(b:List Nat):List Nat:=hz k b++qC (r4 (hz k b))
theorem RN(h:k<=255):IntKind.u8.wrap (k:Int)=(k:Int):=by
 have e:IntKind.u8.wrap (k:Int)=(k:Int)%256:=by rfl
 omega
theorem ZW(k:Nat)(iW:1<=k)(hk:k<=255)(b:List Nat)(ac:b.length<=800000):bl Tryz.prog 92 [i64 k,.ar 1 (b.map bE) false] (.bd [.ar 1 ((ew k b).map bE) false,i64 0]):=by
 have x5:=RN hk;have fj: [[ak.v (.int .u8 65)],[ak.v (.int .u8 71)],[ak.v (.int .u8 (IntKind.u8.wrap (k:Int)))]]=List.map bE [65,71,k]:=by rw[x5];rfl
 have m1:=LU [65,71,k] (by simp) (b.length+8) (by omega);have m2:=Ey [65,71,k] (by simp) b.length (by omega);have iP: (bB b.length).length<=10:=hN 9 b.length;have LV: [65,71,k]++bB b.length++b=hz k b:=rfl;have hH: (hz k b).length<=900000:=by
  unfold hz;simp only[fv,lI,yF];omega
 have bc:=RL (hz k b) (by omega);have oG:=ZV (hz k b) (by omega) (r4 (hz k b));have hw:IntKind.i64.wrap (((b.map bE).length:Int)+8)=((b.length+8:Nat):Int):=by
  rw[bF,dW (by omega) (by omega)];omega
 have hu:IntKind.u64.wrap ((b.map bE).length:Int)=((b.length:Nat):Int):=by
  rw[bF];exact j8 (by omega) (by omega)
 have HD: (decide ((k:Int)<1)||decide ((255:Int)<k)||decide ((16777216:Int)<((b.map bE).length:Int)))=false:=by
  rw[cX (by omega),cX (by omega),bF,cX (by omega)];rfl
 have zz: ([65,71,k]++bB b.length).map bE++b.map bE=(hz k b).map bE:=by
  rw[<-LV,ef (l₁:=[65,71,k]++bB b.length)]
 refine fM Tryz.func92 ?_;repeat' ((conv=>whnf);first|refine be ?_|refine e3 (by assumption) ?_|exact .refl|refine .inr ⟨[],[],_,[],_,_,m1,by rfl,ai,⟨ig fj,aX hw,ai⟩,?_⟩|refine .inr ⟨[1],_,_,_,_,_,m2,by rfl,⟨.r,ai⟩,⟨.r,aX hu,ai⟩,?_⟩|refine aO (r2 (by simp<;>omega)) ?_|refine .inl ⟨[.ar 1 ((hz k b).map bE) false],_,⟨ig zz,ai⟩,bc,?_⟩|refine .inr ⟨[1],_,_,_,_,_,oG,by rfl,⟨cK zz,ai⟩,⟨.r,.r,ai⟩,?_⟩|fail)
theorem akS(k:Nat)(b:List Nat): (ew k b).drop 3=bB b.length++(b++qC (r4 (hz k b))):=by
 unfold ew hz;simp
theorem akT(k:Nat)(b:List Nat): (ew k b).length=3+(bB b.length).length+b.length+4:=by
 unfold ew hz qC Ez
 grind
theorem akU(k:Nat){b:List Nat}(ac:b.length<=800000):x6 ((ew k b).drop 3) 16777216=((b.length:Int),(((bB b.length).length:Nat):Int),0):=by
 unfold x6;rw[akS,zx (by omega)];rw[cX (show ¬(16777216:Int)<0 by omega)];have e:IntKind.u64.wrap 16777216=16777216:=j8 (by omega) (by omega);rw[e,cX (show ¬(16777216:Int)<(b.length:Int) by omega),dW (by omega) (by omega)];rfl
theorem HE(k:Nat)(iW:1<=k)(hk:k<=255)(b:List Nat)(ac:b.length<=800000):bl Tryz.prog 73 [.ar 1 ((ew k b).map bE) false] (.bd [i64 k,.ar 1 (b.map bE) false,i64 (ew k b).length,i64 0]):=by
 have iP: (bB b.length).length<=10:=hN 9 b.length;have nl:=akT k b;have ZX:=ZU ((ew k b).drop 3) (by rw[sp];omega) 16777216;rw[akU k ac]at ZX;have akV:=RL (hz k b) (by have: (hz k b).length=3+(bB b.length).length+b.length:=(by unfold hz;simp;omega);omega);have akW:=akR (r4 (hz k b));have g0: ((ew k b).map bE)[0]?=some (bE 65):=rfl;have g1: ((ew k b).map bE)[1]?=some (bE 71):=rfl;have g2: ((ew k b).map bE)[2]?=some (bE k):=rfl;have qA: ((ew k b).map bE).length=3+(bB b.length).length+b.length+4:=by rw[bF,nl]
 have sD:decide (((((ew k b).map bE).length:Nat):Int)<3)=false:=cX (by rw[qA];omega);have GD:decide ((k:Int)=0)=false:=cX (by omega);have jC: ((ew k b).map bE).drop 3=((ew k b).drop 3).map bE:=by rw[yG]
 have QM:3<=((ew k b).map bE).length:=by rw[qA];omega
 have b3:IntKind.i64.wrap (3+(((bB b.length).length:Nat):Int))=((3+(bB b.length).length:Nat):Int):=by
  rw[dW (by omega) (by omega)];omega
 have xz:decide (IntKind.i64.wrap ((((ew k b).map bE).length:Int)-IntKind.i64.wrap (3+(((bB b.length).length:Nat):Int)))<IntKind.i64.wrap ((b.length:Int)+4))=false:=by
  rw[b3,qA,dW (by omega) (by omega),dW (by omega) (by omega)];exact cX (by omega)
 obtain⟨E,avC⟩:∃E,E=3+(bB b.length).length+b.length:=⟨_,rfl⟩
 have dk:IntKind.i64.wrap (IntKind.i64.wrap (3+(((bB b.length).length:Nat):Int))+(b.length:Int))=(E:Int):=by
  rw[b3,dW (by omega) (by omega)];omega
 have ZY:IntKind.i64.wrap (IntKind.i64.wrap (IntKind.i64.wrap (3+(((bB b.length).length:Nat):Int))+(b.length:Int))+4)=((E+4:Nat):Int):=by
  rw[dk,dW (by omega) (by omega)];omega
 have ZZ:E<=((ew k b).map bE).length:=by omega
 have akX:E+4<=((ew k b).map bE).length:=by omega
 have akY: (hz k b).length=E:=by
  unfold hz;simp;omega
 have pU: (((ew k b).map bE).take E).drop 0=(hz k b).map bE:=by
  rw[List.drop_zero,<-yH];unfold ew;rw[JC (by omega),sr (by omega)]
 have Z0: (qC (r4 (hz k b))).map bE=((qC (r4 (hz k b))).map UInt8.ofNat).map AE:=by
  rw[oT];apply C3;intro x ah;have lS:x<256:=by
   unfold qC Ez at ah;simp only[om,xg,ny,List.not_mem_nil,or_false]at ah;have key:∀n:Int,(IntKind.u8.wrap n).toNat<256:=λn=>by
    have e:IntKind.u8.wrap n=n%256:=by simp[IntKind.wrap,IntKind.bits,IntKind.signed]
    rw[e];omega
   rcases ah with h|h|h|h<;>rw[h]<;>exact key _
  show bE x=AE (UInt8.ofNat x);unfold bE AE;simp[UInt8.toNat_ofNat_of_lt' lS,ss lS]
 have akZ: (((ew k b).map bE).take (E+4)).drop E=((qC (r4 (hz k b))).map UInt8.ofNat).map AE:=by
  rw[<-Z0,<-yH,<-yG];unfold ew;rw[sr (by rw[fv,akY];simp[qC,Ez]),FJ (by omega),Jt (by omega)];rfl
 have pd: (((ew k b).map bE).take E).drop (3+(bB b.length).length)=b.map bE:=by
  rw[<-yH,<-yG];unfold ew;rw[JC (by omega),sr (by omega)];unfold hz;rw[FJ (by simp;omega),Jt (by simp;omega)];rfl
 have ak0:3+(bB b.length).length<=E:=by omega
 have m0:=LU b (by omega) 0 (by omega);have mf:IntKind.i64.wrap (k:Int)=(k:Int):=dW (by omega) (by omega);refine fM Tryz.func73 ?_;repeat' ((conv=>whnf);first|refine be ?_|refine e3 (by assumption) ?_| (apply bh<;>intro h)|refine cd ?_|refine⟨0,bE 65,aO ⟨rfl,g0⟩ ?_⟩|refine⟨2,bE k,aO ⟨rfl,g2⟩ ?_⟩|refine⟨1,bE 71,aO ⟨λh=>h,λ_=>⟨rfl,g1⟩⟩ ?_⟩|refine⟨2,bE k,aO ⟨λh=>h,λ_=>⟨rfl,g2⟩⟩ ?_⟩|refine⟨3,aO ⟨⟨_,rfl⟩,QM⟩ ?_⟩|refine .inl ⟨[.ar 1 (((ew k b).drop 3).map bE) false,_],_,⟨ig jC,.r,ai⟩,ZX,?_⟩|refine⟨0,E,aO ⟨rfl,⟨.i64,e9 (λz=>ak.v (.int .i64 z)) dk⟩,bX _,ZZ⟩ ?_⟩|refine⟨E,E+4,aO ⟨⟨.i64,e9 (λz=>ak.v (.int .i64 z)) dk⟩,⟨.i64,e9 (λz=>ak.v (.int .i64 z)) ZY⟩,Nat.le_add_right _ _,akX⟩ ?_⟩|refine .inl ⟨[.ar 1 ((hz k b).map bE) false],_,⟨ig pU,ai⟩,akV,?_⟩|refine aS akW ?_|refine⟨(qC (r4 (hz k b))).map UInt8.ofNat,aO Z0 ?_⟩|refine⟨(qC (r4 (hz k b))).map UInt8.ofNat,aO akZ ?_⟩|refine⟨3+(bB b.length).length,E,aO ⟨⟨.i64,e9 (λz=>ak.v (.int .i64 z)) b3⟩,⟨.i64,e9 (λz=>ak.v (.int .i64 z)) dk⟩,ak0,ZZ⟩ ?_⟩|refine .inr ⟨[],[],_,[],_,_,m0,by rfl,ai,⟨ig pd,.r,ai⟩,?_⟩|fail)
 all_goals(conv=>whnf)
 ·exfalso;simp at h
 ·refine eO ⟨aX mf,.r,aX (ZY.trans ?_),.r,ai⟩;rw[nl];omega
def fO(v:Int):Nat:=if v<0 then 1 else(2*v).toNat
theorem RO{v:Int}(h:v<=1099511627776):fO v<18446744073709551616:=by
 unfold fO;split<;>omega
theorem ak1{v:Int}(h1: -1<=v)(ad:v<=1099511627776):bits .xor .u64 (IntKind.u64.wrap (IntKind.u64.wrap v*2^ (min (1:Int).toNat 64))) (IntKind.u64.wrap (v.fdiv (2^ (min (63:Int).toNat 64))))=((fO v:Nat):Int):=by
 by_cases h:v<0
 ·have e:v= -1:=by omega
  subst e;rfl
 ·have aC:IntKind.u64.wrap v=v:=j8 (by omega) (by omega);have aG: (2:Int)^ (min (1:Int).toNat 64)=2:=by decide
  have bc:v.fdiv (2^ (min (63:Int).toNat 64))=0:=by
   grind
  have cn:IntKind.u64.wrap (v*2)=v*2:=j8 (by omega) (by omega);have eu:IntKind.u64.wrap 0=0:=j8 (by omega) (by omega);rw[aC,aG,bc,cn,eu];have bx:fO v=(v*2).toNat:=by
   unfold fO
   grind
  rw[bx];have ah:∀n:Nat,n<18446744073709551616->bits .xor .u64 (n:Int) 0=(n:Int):=λn aW=>by
   unfold bits;simp only[IntKind.bits,IntKind.signed];simp;have ac: (BitVec.ofNat 64 n^^^0#64).toNat=n:=by
    grind
   exact(e9 (λk:Nat=>IntKind.u64.wrap (k:Int)) ac).trans (j8 (by omega) (by omega))
  grind
theorem Z1(l:List Nat)(af:l.length<=900000)(v:Int)(h1: -1<=v)(ad:v<=1099511627776):cm Tryz.prog 190 [.row 5 1 (l.map bE)] [.own 0,i64 v] [false] [.row 5 1 ((l++bB (fO v)).map bE),.bm] (.own 0):=by
 have m2:=Ey l (by omega) (fO v) (RO ad);refine jS Tryz.func190 ?_;repeat' ((conv=>whnf);first|refine .inr ⟨[0],_,_,_,_,_,m2,by rfl,⟨.r,ai⟩,⟨.r,aX (ak1 h1 ad),ai⟩,?_⟩| (refine aO ?_ ?_;focus (simp;done))|fail)
 all_goals(conv=>whnf)
 all_goals exact⟨.r,⟨.r,r3,ai⟩,by rfl⟩
theorem ak2(i b:Nat)(aP:Int):0<=tW i b aP:=(rj _).1
theorem EA:∀ (l:List Nat) (i:Nat) (aP:Int),0<=aP->0<=(ej l i aP).1/\0<=(ej l i aP).2.1/\(ej l i aP).2.1<=((i+l.length:Nat):Int)
 | [],i,aP,h=>by
  rw[ej];simp
 |b::r,i,aP,h=>by
  have an:=ak2 i b aP;have aY:=EA r (i+1) (tW i b aP) an;rw[ej]
  grind
def nn(v:aK)(l:List Nat):bU×Int×Int:=
 bif !decide ((ej l 0 0).2.2=0)then(gf,0,(ej l 0 0).2.2)else
 bif !decide ((ej (l.drop (ej l 0 0).2.1.toNat) 0 0).2.2=0)then(gf,0,(ej (l.drop (ej l 0 0).2.1.toNat) 0 0).2.2)else
 bif decide ((ej l 0 0).1<1)||decide (1000<(ej l 0 0).1)||decide (5<=(ej (l.drop (ej l 0 0).2.1.toNat) 0 0).1)then(gf,0,3)else
 bif decide (((cv v.mem (ej l 0 0).1).length:Int)=0)then(gf,0,3)else
 (⟨v.num,(ej (l.drop (ej l 0 0).2.1.toNat) 0 0).1,(cv v.mem (ej l 0 0).1).getD (ej (l.drop (ej l 0 0).2.1.toNat) 0 0).1.toNat 0,(ej l 0 0).1⟩,(ej l 0 0).2.1+(ej (l.drop (ej l 0 0).2.1.toNat) 0 0).2.1,0)
theorem ak3(ms:List Int)(x:Int): (cv ms x).length=0\/(cv ms x).length=5:=by
 unfold cv;cases (!dq ms 16|| !(decide (1<=x)&&decide (x<=1000))|| (decide ((ms.length:Int)=1)&&decide (ms.getD 0 0=x)))<;>simp
theorem ak4(v:aK)(ab:v.mem.length<=maxLen)(l:List Nat)(af:l.length<=1000000):bl Tryz.prog 135 [.agg (cc v),.ar 1 (l.map bE) false] (.bd [.agg (eA (nn v l).1),i64 (nn v l).2.1,i64 (nn v l).2.2]):=by
 have aC:=BK l af;have dE:=EA l 0 0 (lk _);have aG:=BK (l.drop (ej l 0 0).2.1.toNat) (by simp;omega);have dL:=EA (l.drop (ej l 0 0).2.1.toNat) 0 0 (lk _);have bc:=LH v.mem ab (ej l 0 0).1;have b5:=ak3 v.mem (ej l 0 0).1;unfold nn;generalize ej (l.drop (ej l 0 0).2.1.toNat) 0 0=B at *;generalize al:ej l 0 0=A at *;clear al;generalize cv v.mem A.1=R at *;obtain⟨EB,ak5,Z2⟩:=A;obtain⟨B1,B2,ak6⟩:=B;simp only[]at *;obtain⟨n,rfl⟩:=qU dE.2.1;obtain⟨m,rfl⟩:=qU dL.2.1;have aW:n<=(l.map bE).length:=by
  rw[bF];omega
 have jC: (l.map bE).drop n=(l.drop n).map bE:=by rw[yG]
 have Z3:=dL.2.2;rw[sp]at Z3;rw[lH,<-jC]at aG;refine fM Tryz.func135 ?_;repeat' ((conv=>whnf);first|refine be ?_| (apply bh<;>intro h)|refine aS aC ?_|refine aS aG ?_|refine⟨n,aO ⟨⟨_,rfl⟩,aW⟩ ?_⟩|fail)
 all_goals(conv=>whnf)
 ·rw[h];exact .refl
 ·rename_i h1;rw[h1,h];exact .refl
 ·rename_i h1 ad;rw[h1,ad,h];exact .refl
 ·rename_i h1 ad;rw[h1,ad,h,bs,bs,bs];have ao:1<=EB/\EB<=1000/\B1<5:=by
   simp only[iK,hG]at h;omega
  have hw:IntKind.i64.wrap EB=EB:=dW (by omega) (by omega);have ak7:IntKind.i64.wrap B1=B1:=dW (by omega) (by omega);have Pw:bl Tryz.prog 100 [.ar 1 (v.mem.map aM) false,.v (.int .i64 (IntKind.i64.wrap EB))] (.ar 1 (R.map aM) false):=by
   rw[hw];exact bc
  clear h h1 ad;have PT:IntKind.i64.wrap ((n:Int)+(m:Int))=(n:Int)+(m:Int):=by
   rw[bF]at aW;have h1: ((n:Int)).toNat=n:=lH n;rw[h1]at Z3;rw[dW (by omega) (by omega)]
  repeat' ((conv=>whnf);first| (apply bh<;>intro h)|refine aS Pw ?_|fail)
  ·rw[bF]at h;rw[h];exact .refl
  ·have b4:R.length=5:=by
    rcases b5 with b5|b5
    ·rw[bF,b5]at h;simp at h
    ·exact b5
   rw[bF]at h;rw[h,bs];clear h;have jR:B1=((B1.toNat:Nat):Int):=by omega
   have x7: (R.map aM)[B1.toNat]?=some (aM (R.getD B1.toNat 0)):=by
    have:B1.toNat<R.length:=by omega
    simp[this]
   repeat' ((conv=>whnf);first|refine cd ?_|refine⟨B1.toNat,aM (R.getD B1.toNat 0),aO ⟨jR,x7⟩ ?_⟩|fail)
   all_goals(conv=>whnf)
   refine eO ⟨h6 ⟨.r,aX ak7,.r,aX hw,ai⟩,aX PT,.r,ai⟩
def zA(l:List bU)(s:Int)(i:Nat):Nat:=(l.take i).countP λa=>decide (a.bI=s)
variable{l:List bU}
theorem ak8{s:Int}{i:Nat}(h:i<l.length):zA l s (i+1)=zA l s i+if l[i].bI=s then 1 else 0:=by
 unfold zA;rw[e4 h,On,Oo,Ot];simp
theorem Z4(l:List bU)(s:Int)(i:Nat):zA l s i<=i:=bQ Oq (by grind)
theorem Z5(l:List bU)(af:l.length<=1000000)(s:Int):bl Tryz.prog 239 [.ar 4 (l.map eA) false,i64 s] (i64 (zA l s l.length:Nat)):=by
 refine b9 (fn:=Tryz.f239) (c:=Tryz.f239.body.getD .skip) aA ay (by rfl) Tryz.func239 (by rfl) (by rfl) (by rfl) (by rfl) ?_;repeat' ((conv=>whnf);first|refine be ?_|fail)
 all_goals(conv=>whnf)
 refine⟨Nat,λi=>⟨[(1,i64 s),(5,i64 (zA l s i:Nat)),(8,.ar 4 (l.map eA) false),(9,i64 l.length),(10,i64 i)],[]⟩,λi=>i<=l.length,λi=>l.length-i,[],⟨0,bX _,?_⟩,?_⟩
 ·conv=>whnf
  exact⟨⟨.r,.r,.r,aX (by simp),.r,ai⟩,ai,by rfl⟩
 ·intro i hi;repeat' ((conv=>whnf);first| (apply bh<;>intro h)|fail)
  ·have ax:i<l.length:=by grind
   clear h;have ae:=ak8 (s:=s) ax;have aj:=Z4 l s i;repeat' ((conv=>whnf);first| (apply bh<;>intro h)|refine⟨_,_,aO ⟨rfl,c3 ax⟩ ?_⟩|fail)
   all_goals(conv=>whnf)
   all_goals refine⟨i+1,ax,by simp only[];omega,?_⟩
   all_goals(conv=>whnf)
   all_goals refine⟨⟨.r,aX ?_,.r,.r,aX (bW (by omega)),ai⟩,ai,by rfl⟩
   ·rw[ae,b6 (fi h),dW (by omega) (by omega)];omega
   grind
  ·have:i=l.length:=by
    grind
   subst this;repeat' ((conv=>whnf);first|exact .refl|fail)
def fD(l:List bU)(i:Nat):List Nat:=bB l.length++(l.take i).flatMap λa=>bB a.bI.toNat++bB a.ev.toNat
theorem LW{i:Nat}(h:i<l.length):fD l (i+1)=fD l i++bB l[i].bI.toNat++bB l[i].ev.toNat:=by
 unfold fD;rw[e4 h,As];simp
theorem Z6(l:List bU):∀i,i<=l.length->(fD l i).length<=10+20*i
 |0,_=>by
  have:=hN 9 l.length;simp only[fD,OG,List.flatMap_nil,jM,bB];omega
 |i+1,h=>by
  have aY:=Z6 l i (by omega);have h1:=hN 9 l[i].bI.toNat;have ad:=hN 9 l[i].ev.toNat;rw[LW (by omega),fv,fv];unfold bB;omega
def HF(v:aK)(l:List bU):List Nat:=bif !dF v l then []else fD l l.length
variable{v:aK}
theorem ak9{l:List bU}(h:dF v l=true){i:Nat}(hi:i<l.length):gB v l[i]=true/\n3 l[i]=true:=by
 unfold dF at h;cases ab:b0 v
 ·grind
 ·rw[ab,kY,bs]at h;have h1:=ij.1 h i hi;have aw:l.getD i gf=l[i]:=by grind
  unfold vm at h1;rw[aw,cq]at h1;refine⟨h1.1,?_⟩;have ad:=h1.1;unfold gB at ad
  grind
theorem Z7(v:aK)(ab:v.mem.length<=maxLen)(l:List bU)(af:l.length<=40000):bl Tryz.prog 103 [.agg (cc v),.ar 4 (l.map eA) false] (.ar 1 ((HF v l).map bE) false):=by
 have aC:=Ex v ab l (by simp only[maxLen];omega);have aa:HF v l=bif !dF v l then []else fD l l.length:=rfl;have ao:=λh i hi=>(ak9 (v:=v) (l:=l) h (i:=i) hi).2;have fw:bl Tryz.prog 99 [.ar 1 [] false,.v (.int .u64 (IntKind.u64.wrap ((l.map eA).length:Int)))] (.ar 1 ((fD l 0).map bE) false):=by
  have aR:=BJ [] (by simp) l.length (by omega);have x8:IntKind.u64.wrap ((l.map eA).length:Int)=((l.length:Nat):Int):=by
   rw[bF];exact j8 (by omega) (by omega)
  have he:fD l 0=[]++bB l.length:=by simp[fD]
  rw[x8,he];exact aR
 generalize HF v l=R at *;generalize dF v l=cY at *;refine b9 (fn:=Tryz.f103) (c:=Tryz.f103.body.getD .skip) aA ay (by rfl) Tryz.func103 (by rfl) (by rfl) (by rfl) (by rfl) ?_;repeat' ((conv=>whnf);first| (apply bh<;>intro h)|refine aS aC ?_|refine .inl ⟨[.ar 1 [] false,_],_,⟨.av,.r,ai⟩,fw,?_⟩|fail)
 ·rw[aa,h];exact .av
 ·have ac:cY=true:=by grind
  rw[h,bs]at aa;clear h;have ao:=ao ac;subst aa;repeat' ((conv=>whnf);first|refine be ?_|fail)
  all_goals(conv=>whnf)
  refine⟨Nat,λi=>⟨[(5,.ar 1 ((fD l i).map bE) false),(16,.ar 4 (l.map eA) false),(17,i64 l.length),(18,i64 i)],[.cells 24 (cc v)]⟩,λi=>i<=l.length,λi=>l.length-i,[],⟨0,bX _,?_⟩,?_⟩
  ·conv=>whnf
   exact⟨⟨.r,.r,aX (by simp),.r,ai⟩,⟨.r,ai⟩,by rfl⟩
  ·intro i hi;repeat' ((conv=>whnf);first| (apply bh<;>intro h)|fail)
   ·have ax:i<l.length:=by grind
    clear h;have ala:=ao i ax;simp only[n3,cq,fr]at ala;have ae:=LW ax;have pN:=Z6 l i hi;have h1:=hN 9 l[i].bI.toNat;have vo:IntKind.u64.wrap l[i].bI=((l[i].bI.toNat:Nat):Int):=by rw[j8 (by omega) (by omega)];omega
    have oH:IntKind.u64.wrap l[i].ev=((l[i].ev.toNat:Nat):Int):=by rw[j8 (by omega) (by omega)];omega
    have aG:=BJ (fD l i) (by omega) l[i].bI.toNat (by omega);have bc:=BJ (fD l i++bB l[i].bI.toNat) (by rw[fv];unfold bB;omega) l[i].ev.toNat (by omega);rw[<-ae]at bc;unfold u64 at aG bc;rw[<-vo]at aG;rw[<-oH]at bc;repeat' ((conv=>whnf);first|refine cd ?_|refine⟨_,_,aO ⟨rfl,c3 ax⟩ ?_⟩|refine aS aG ?_|refine aS bc ?_|fail)
    all_goals(conv=>whnf)
    refine⟨i+1,ax,by grind,?_⟩;conv=>whnf
    exact⟨⟨.r,.r,.r,aX (bW (by omega)),ai⟩,⟨.r,ai⟩,by rfl⟩
   ·have:i=l.length:=by
     grind
    subst this;repeat' ((conv=>whnf);first|exact .refl|fail)
theorem alb(v:aK)(l:List Nat):0<=(nn v l).2.1/\(nn v l).2.1<=(l.length:Int):=by
 have dE:=EA l 0 0 (lk _);have dL:=EA (l.drop (ej l 0 0).2.1.toNat) 0 0 (lk _);rw[sp]at dL;unfold nn
 grind
def zB(v:aK)(b:List Nat)(aP:List bU)(pos:Nat):Int:=bif (decide ((nn v (b.drop pos)).2.2=0)&&decide (0<(aP.length:Int)))&& !js (aP.getD (aP.length-1) gf) (nn v (b.drop pos)).1 then 3 else(nn v (b.drop pos)).2.2
def sZ(v:aK)(b:List Nat):Nat->List bU->Nat->List bU×Int×Int
 |0,aP,pos=>(aP,(pos:Int),0)
 |k+1,aP,pos=>bif !decide (zB v b aP pos=0)then([],0,zB v b aP pos)else sZ v b k (aP++ [(nn v (b.drop pos)).1]) (pos+(nn v (b.drop pos)).2.1.toNat)
def BM(v:aK)(b:List Nat):List bU×Int×Int:=
 bif !b0 v then([],0,1)else bif !decide ((ej b 0 0).2.2=0)then([],0,(ej b 0 0).2.2)else bif decide (5000<(ej b 0 0).1)then([],0,5)else sZ v b (ej b 0 0).1.toNat [] (ej b 0 0).2.1.toNat
theorem alc(v:aK)(ab:v.mem.length<=maxLen)(b:List Nat)(af:b.length<=1000000):bl Tryz.prog 75 [.agg (cc v),.ar 1 (b.map bE) false] (.bd [.ar 4 ((BM v b).1.map eA) false,i64 (BM v b).2.1,i64 (BM v b).2.2]):=by
 have aC:=ri v ab;have aG:=BK b af;have dE:=EA b 0 0 (lk _);have aa:BM v b=bif !b0 v then([],0,1)else bif !decide ((ej b 0 0).2.2=0)then([],0,(ej b 0 0).2.2)else bif decide (5000<(ej b 0 0).1)then([],0,5)else sZ v b (ej b 0 0).1.toNat [] (ej b 0 0).2.1.toNat:=rfl;have bf:∀k aP pos,sZ v b (k+1) aP pos=bif !decide (zB v b aP pos=0)then([],0,zB v b aP pos)else sZ v b k (aP++ [(nn v (b.drop pos)).1]) (pos+(nn v (b.drop pos)).2.1.toNat):=λk aP pos=>by rw[sZ]
 have EC:∀aP pos,sZ v b 0 aP pos=(aP,(pos:Int),0):=λaP pos=>by rw[sZ]
 generalize BM v b=R at *;generalize ej b 0 0=A at *;obtain⟨EB,ak5,Z2⟩:=A;simp only[]at aG dE aa;obtain⟨n,rfl⟩:=qU dE.2.1;obtain⟨c,rfl⟩:=qU dE.1;generalize b0 v=vl at *;refine fM Tryz.func75 ?_;repeat' ((conv=>whnf);first| (apply bh<;>intro h)|refine aS aC ?_|refine aS aG ?_|fail)
 all_goals(conv=>whnf)
 ·rw[aa,h];exact eO ⟨.av,.r,.r,ai⟩
 ·rename_i h1;rw[aa,h1,h];exact eO ⟨.av,.r,.r,ai⟩
 ·rename_i h1 ad;rw[aa,h1,ad,h];exact eO ⟨.av,.r,.r,ai⟩
 ·rename_i h1 ad;rw[h1,ad,h,bs,bs,bs,lH,lH]at aa;have aj:c<=5000:=by
   have:=qX h;omega
  have avD:Z2=0:=by simpa using ad
  clear h h1 ad;subst aa;refine⟨Nat×List bU×Nat,λx=>⟨[(1,.ar 1 (b.map bE) false),(2,.aV 0 0),(4,.own 1),(5,i64 x.2.2),(25,u64 c),(26,u64 x.1)],[.cells 24 (cc v),.row 147 4 (x.2.1.map eA)]⟩,λx=>x.1<=c/\sZ v b (c-x.1) x.2.1 x.2.2=sZ v b c [] n/\x.2.2<=b.length/\x.2.1.length=x.1,λx=>c-x.1,[.ho 4 147 4],⟨⟨0,[],n⟩,⟨bX _,rfl,by simp only[];omega,rfl⟩,?_⟩,?_⟩
  ·conv=>whnf
   exact⟨⟨.r,.r,.r,.r,.r,.r,ai⟩,⟨.r,.r,ai⟩,by rfl⟩
  ·intro ⟨i,aP,pos⟩ ⟨hi,aw,fx,lA⟩;simp only[]at hi aw fx lA;repeat' ((conv=>whnf);first| (apply bh<;>intro h)|fail)
   ·have ax:i<c:=by
     have:=fi h;simp only[]at this;omega
    clear h;have hk:c-i=(c- (i+1))+1:=by omega
    rw[hk,bf]at aw;have gd:=ak4 v ab (b.drop pos) (by simp;omega);have Z8:=alb v (b.drop pos);rw[sp]at Z8;have BN:zB v b aP pos=bif (decide ((nn v (b.drop pos)).2.2=0)&&decide (0<(aP.length:Int)))&& !js (aP.getD (aP.length-1) gf) (nn v (b.drop pos)).1 then 3 else(nn v (b.drop pos)).2.2:=rfl;have el:=LR (aP.getD (aP.length-1) gf) (nn v (b.drop pos)).1;generalize zB v b aP pos=Ew at *;generalize nn v (b.drop pos)=D at *;obtain⟨Z9,D2,avE⟩:=D;simp only[]at gd Z8 BN el aw;have jC: (b.map bE).drop pos=(b.drop pos).map bE:=by rw[yG]
    rw[<-jC]at gd;have oI:pos<=(b.map bE).length:=by simpa using fx
    have Ev:∀x:Bool,(x&&decide (0<((aP.map eA).length:Int)))=true->IntKind.i64.wrap (((aP.map eA).length:Int)-1)=((aP.length-1:Nat):Int)/\aP.length-1<(aP.map eA).length:=λx h=>by
     simp only[cq,fr,bF]at h⊢;rw[dW (by omega) (by omega)];omega
    have o9:∀x:Bool,(x&&decide (0<((aP.map eA).length:Int)))=true->(aP.map eA)[aP.length-1]?=some (eA (aP.getD (aP.length-1) gf)):=λx h=>by
     simp only[cq,fr,bF]at h;have:aP.length-1<aP.length:=by omega
     simp[this]
    generalize js (aP.getD (aP.length-1) gf) Z9=RF at *;generalize aP.getD (aP.length-1) gf=ald at *;repeat' ((conv=>whnf);first|refine be ?_| (apply bh<;>intro h)|refine cd ?_|refine dr ?_|refine⟨pos,aO ⟨⟨_,rfl⟩,oI⟩ ?_⟩|refine aS gd ?_|refine dz el ?_|refine⟨aP.length-1,aO ⟨⟨λh=>h,λh=>h⟩,λh=>Ev _ h⟩ ?_⟩|refine⟨eA ald,aO ⟨λh=>h,λh=>o9 _ h⟩ ?_⟩|fail)
    all_goals(conv=>whnf)
    ·simp only[bF]at h;rw[h,bY]at BN;rw[BN]at aw;rw[<-aw];exact eO ⟨.av,.r,.r,ai⟩
    ·rename_i h1;simp only[bF]at h1;rw[h1,bs]at BN;rw[BN,h,bY]at aw;rw[<-aw];exact eO ⟨.av,.r,.r,ai⟩
    ·rename_i h1;simp only[bF]at h1;rw[h1,bs]at BN;rw[BN,h,bs]at aw;clear h h1;refine aO (LO (by simp;omega)) ?_;repeat' ((conv=>whnf);first|refine be ?_|fail)
     all_goals(conv=>whnf)
     refine⟨⟨i+1,aP++ [Z9],pos+D2.toNat⟩,⟨ax,aw,by simp only[];omega,by simp[lA]⟩,by simp only[];omega,?_⟩;conv=>whnf
     refine⟨⟨.r,.r,.r,aX ?_,.r,aX ?_,ai⟩,⟨.r,cK ?_,ai⟩,by rfl⟩
     ·simp only[];rw[dW (by omega) (by omega)];omega
     ·simp only[];rw[j8 (by omega) (by omega)];omega
     ·rw[ef];rfl
   ·have:i=c:=by
     have:=qX h;simp only[]at this;omega
    subst this;clear h;rw[AA,EC]at aw;rw[<-aw];repeat' ((conv=>whnf);first|exact .refl|fail)
theorem HG{a b c:bU}(h1:js a b=true)(ad:js b c=true):js a c=true:=by
 simp only[js,oR,cq,fr]at *;omega
theorem ale{a b:bU}(h1:js a b=false)(ad:js b a=false):a.bI=b.bI/\a.ev=b.ev:=by
 simp only[js,iK,uD,hG]at *;omega
def tY(l:List bU):Prop:=l.Pairwise λa b=>js a b=true
theorem alf(h:∀i (hi:i+1<l.length),js l[i] l[i+1]=true):tY l:=by
 rw[tY,mz];intro i j hi aq fW;obtain⟨d,rfl⟩:∃d,j=i+1+d:=⟨j- (i+1),by omega⟩
 clear fW;induction d with
 |zero=>grind
 |succ d aY=>
  have h1:=aY (by omega);have ad:=h (i+1+d) (by omega);exact HG h1 ad
theorem s0{l:List bU}:dF v l=true↔b0 v=true/\(∀a∈l,gB v a=true)/\tY l:=by
 unfold dF;cases ab:b0 v
 ·simp
 ·rw[kY,bs,ij];constructor
  ·intro h;refine⟨rfl,λa bb=> ?_,alf λi hi=> ?_⟩
   ·obtain⟨i,hi,rfl⟩:=e8 bb;have h1:=h i hi;have aw:l.getD i gf=l[i]:=by grind
    unfold vm at h1
    grind
   ·have h1:=h (i+1) hi;have aw:l.getD (i+1) gf=l[i+1]:=by grind
    have ni:i<l.length:=by omega
    have hT:l.getD (i+1-1) gf=l[i]:=by grind
    unfold vm at h1
    grind
  ·rintro⟨_,h1,ad⟩ i hi;have aw:l.getD i gf=l[i]:=by grind
   unfold vm;rw[aw,h1 _ (eM hi),rH];by_cases aR:0<i
   ·have ni:i-1<l.length:=by omega
    have hT:l.getD (i-1) gf=l[i-1]:=by grind
    have:=mz.1 ad (i-1) i ni hi (by omega)
    grind
   grind
theorem RP{α:Type}{p:α->Bool}{x:α}:∀ {l:List α},x∈l.takeWhile p->p x=true
 | [],h=>by simp at h
 |y::t,h=>by
  rw[VK]at h;split at h
  ·rename_i bn;rcases ny.1 h with rfl|h
   ·exact bn
   ·exact RP h
  grind
theorem alg{α:Type}{p:α->Bool}{l:List α}{x:α}(h:x∈l.take (l.takeWhile p).length):p x=true:=by
 rw[<-List.prefix_iff_eq_take.1 (FU p)]at h;exact RP h
theorem aaa{α:Type}{p:α->Bool}:∀ {l:List α} (h: (l.takeWhile p).length<l.length),p (l[(l.takeWhile p).length])=false
 | [],h=>by grind
 |x::t,h=>by
  cases ah:p x
  ·simp_all
  ·have ad: (t.takeWhile p).length<t.length:=by
    simp_all
   have:=aaa (p:=p) ad
   simp_all
theorem RQ(ae:tY l)(a:bU):tY (k7 l a).1/\(k7 l a).1.length<=l.length+1/\(∀x,x∈ (k7 l a).1->x∈l\/x=a)/\(∀x,x∈l->x∈ (k7 l a).1)/\(a∈ (k7 l a).1\/∃e∈l,e.bI=a.bI/\e.ev=a.ev):=by
 have ac:∀x∈l.take (tV l a),js x a=true:=λx ah=>alg (p:=λy=>js y a) ah;have iO:∀h:tV l a<l.length,js l[tV l a] a=false:=λh=>aaa (p:=λy=>js y a) h;have gl:tV l a<=l.length:=(FU _).length_le;unfold k7;generalize tV l a=k at *;by_cases hk:k<l.length
 ·have aw:l.getD k gf=l[k]:=by grind
  rw[ep (show ((k:Nat):Int)<(l.length:Int) by omega),aw];cases af:js a l[k]
  ·simp only[tl,Of,bY];have:=ale (iO hk) af
   grind
  ·simp only[kY,oj,bs];refine⟨?_,by grind,?_,?_,.inl (by simp)⟩
   ·rw[tY,km,FR];refine⟨ae.sublist (List.take_sublist _ _),?_,?_⟩
    ·rw[JA,rL];refine⟨λy bn=> ?_,ae.sublist (List.drop_sublist _ _)⟩;obtain⟨j,aq,rfl⟩:=e8 bn;rw[List.getElem_drop];rw[sp]at aq;rcases Nat.eq_zero_or_pos j with rfl|RR
     ·exact af
     ·exact HG af (mz.1 ae k (k+j) hk (by omega) (by omega))
    ·intro x ah y bn;rw[JA,ny]at bn;have h1:=ac x ah;rcases bn with rfl|bn
     ·exact h1
     ·obtain⟨j,aq,rfl⟩:=e8 bn;rw[List.getElem_drop];rw[sp]at aq;rcases Nat.eq_zero_or_pos j with rfl|RR
      ·exact HG h1 af
      ·exact HG h1 (HG af (mz.1 ae k (k+j) hk (by omega) (by omega)))
   ·grind
   ·intro x ah;rw[<-Aw k l,eo]at ah
    grind
 ·have mf:k=l.length:=by omega
  rw[cX (show ¬((k:Nat):Int)<(l.length:Int) by omega),vW,bs];subst mf;rw[fU]at ac;refine⟨?_,by simp,?_,?_,.inl (by simp)⟩
  ·rw[fU,CZ,jM,tY,FR];refine⟨ae,by simp,λx ah y bn=> ?_⟩
   grind
  all_goals grind
structure ky where
 cg:Int
 aD:Int
 cut:List Int
structure cj where
 mem:Int
 aD:Int
 cut:List Int
def wX(a:ky):List ak:=[.v (.int .i64 a.cg),.v (.int .i64 a.aD),.ar 1 (a.cut.map aM) false]
def bZ(a:cj):List ak:=[.v (.int .i64 a.mem),.v (.int .i64 a.aD),.ar 1 (a.cut.map aM) false]
def vp(a m:Int):Int:=bif decide (a<1)||decide (1048575<a)||decide (m<1)||decide (1000<m)then 0 else IntKind.i64.wrap (IntKind.i64.wrap (1024*a)+m)
def h7(r:Int):Int:=bif decide (r<=1024)||decide (1073741824<=r)||decide (1000<r.tmod 1024)then 0 else r.tmod 1024
theorem alh(a m:Int):bl Tryz.prog 204 [.v (.int .i64 a),.v (.int .i64 m)] (.v (.int .i64 (vp a m))):=by
 refine b9 (fn:=Tryz.f204) (c:=Tryz.f204.body.getD .skip) aA ay (by rfl) Tryz.func204 (by rfl) (by rfl) (by rfl) (by rfl) ?_;repeat' ((conv=>whnf);first|refine be ?_| (apply bh<;>intro h)|fail)
 all_goals(conv=>whnf)
 all_goals refine aX ?_
 all_goals simp only[vp,h,bY,bs]
theorem LX(r:Int):bl Tryz.prog 178 [.v (.int .i64 r)] (.v (.int .i64 (h7 r))):=by
 refine b9 (fn:=Tryz.f178) (c:=Tryz.f178.body.getD .skip) aA ay (by rfl) Tryz.func178 (by rfl) (by rfl) (by rfl) (by rfl) ?_;repeat' ((conv=>whnf);first|refine be ?_| (apply bh<;>intro h)| (refine aO ?_ ?_;focus (simp;done))|fail)
 all_goals(conv=>whnf)
 all_goals refine aX ?_
 all_goals simp only[h7,h,bY,bs]
def jt(r:Int):Bool:= !decide (h7 r=0)
theorem LY(r:Int):bl Tryz.prog 177 [.v (.int .i64 r)] (.v (.bool (jt r))):=by
 refine b9 (fn:=Tryz.f177) (c:=Tryz.f177.body.getD .skip) aA ay (by rfl) Tryz.func177 (by rfl) (by rfl) (by rfl) (by rfl) ?_;repeat' ((conv=>whnf);first|exact .refl|refine aS (LX _) ?_|fail)
theorem zC(l:List Int)(af:l.length<=1000000):bl Tryz.prog 203 [.ar 1 (l.map aM) false] (.ar 1 (l.map aM) false):=by
 have iY: (l.map aM).length* (aF ag 3).bytes<=140737488355328:=by
  have e: (aF ag 3).bytes=8:=by rfl
  grind
 have tB: (l.map aM).length<=maxLen:=by simp only[maxLen];grind
 refine b9 (fn:=Tryz.f203) (c:=Tryz.f203.body.getD .skip) aA ay (by rfl) Tryz.func203 (by rfl) (by rfl) (by rfl) (by rfl) ?_;repeat' ((conv=>whnf);first|refine⟨(l.map aM).length,(l.map aM).length,rfl,rfl,bP _,iY,tB,?_⟩|fail)
 all_goals(conv=>whnf)
 refine ig ?_
 grind
theorem RS(a:ky)(af:a.cut.length<=1000000):bl Tryz.prog 202 [.agg (wX a)] (.agg (wX a)):=by
 refine b9 (fn:=Tryz.f202) (c:=Tryz.f202.body.getD .skip) aA ay (by rfl) Tryz.func202 (by rfl) (by rfl) (by rfl) (by rfl) ?_;repeat' ((conv=>whnf);first|exact .refl|refine aS (zC _ af) ?_|fail)
theorem ali:bl Tryz.prog 126 [] (.agg (wX ⟨0,-1,[]⟩)):=by
 refine b9 (fn:=Tryz.f126) (c:=Tryz.f126.body.getD .skip) aA ay (by rfl) Tryz.func126 (by rfl) (by rfl) (by rfl) (by rfl) ?_;repeat' ((conv=>whnf);first|refine be ?_|fail)
 all_goals(conv=>whnf)
 exact h6 ⟨.r,.r,.av,ai⟩
def k8(a:ky):Bool:=
 bif !decide (a.cg=0)&& !jt a.cg||decide (a.cg<a.aD)then false
 else bif decide (a.aD= -1)then decide ((a.cut.length:Int)=0)
 else(decide (a.aD=0)||jt a.aD)&&dq a.cut 32
theorem LZ(a:ky)(af:a.cut.length<=maxLen):bl Tryz.prog 111 [.agg (wX a)] (.v (.bool (k8 a))):=by
 refine b9 (fn:=Tryz.f111) (c:=Tryz.f111.body.getD .skip) aA ay (by rfl) Tryz.func111 (by rfl) (by rfl) (by rfl) (by rfl) ?_;repeat' ((conv=>whnf);first|refine be ?_| (apply bh<;>intro h)|refine dr ?_|refine dz (LY _) ?_|refine dz (Hq _ af) ?_|fail)
 all_goals(conv=>whnf)
 all_goals refine fY ?_
 all_goals(try simp only[bF]at *)
 all_goals simp only[k8, *,bY,bs]
def oJ(a:ky)(cut:List Int):ky×Bool:=
 bif !k8 a then(⟨0,0,[]⟩,false)
 else bif !decide (a.cg=0)|| !decide (a.aD= -1)|| !dq cut 32 then(a,false)
 else(⟨0,0,cut⟩,true)
theorem alj(a:ky)(af:a.cut.length<=1000000)(cut:List Int)(aj:cut.length<=1000000):bl Tryz.prog 164 [.agg (wX a),.ar 1 (cut.map aM) false] (.bd [.agg (wX (oJ a cut).1),.v (.bool (oJ a cut).2)]):=by
 have h1:a.cut.length<=maxLen:=bQ af (by decide);have ad:cut.length<=maxLen:=bQ aj (by decide);refine b9 (fn:=Tryz.f164) (c:=Tryz.f164.body.getD .skip) aA ay (by rfl) Tryz.func164 (by rfl) (by rfl) (by rfl) (by rfl) ?_;repeat' ((conv=>whnf);first|refine be ?_| (apply bh<;>intro h)|refine aS (LZ _ h1) ?_|refine dz (Hq _ ad) ?_|refine aS (RS _ af) ?_|refine aS (zC _ aj) ?_|fail)
 all_goals(conv=>whnf)
 all_goals simp only[oJ, *,bY,bs]
 ·exact eO ⟨h6 ⟨.r,.r,.av,ai⟩,.r,ai⟩
 ·exact .refl
 ·exact .refl
def ip(a:ky)(aD:Int):ky×cj×Bool:=
 bif !k8 a then(⟨0,0,[]⟩,⟨0,0,[]⟩,false)
 else bif !jt aD||decide (aD<a.cg)then(a,⟨0,0,[]⟩,false)
 else(⟨aD,a.aD,a.cut⟩,⟨0,a.aD,a.cut⟩,true)
theorem aab(a:ky)(af:a.cut.length<=1000000)(aD:Int):bl Tryz.prog 193 [.agg (wX a),.v (.int .i64 aD)] (.bd [.agg (wX (ip a aD).1),.agg (bZ (ip a aD).2.1),.v (.bool (ip a aD).2.2)]):=by
 have h1:a.cut.length<=maxLen:=bQ af (by decide);refine b9 (fn:=Tryz.f193) (c:=Tryz.f193.body.getD .skip) aA ay (by rfl) Tryz.func193 (by rfl) (by rfl) (by rfl) (by rfl) ?_;repeat' ((conv=>whnf);first|refine be ?_| (apply bh<;>intro h)|refine cd ?_|refine dr ?_|refine aS (LZ _ h1) ?_|refine aS (LY _) ?_|refine aS (RS _ af) ?_|refine aS (zC _ af) ?_|fail)
 all_goals(conv=>whnf)
 all_goals simp only[ip, *,bY,bs]
 ·exact eO ⟨h6 ⟨.r,.r,.av,ai⟩,h6 ⟨.r,.r,.av,ai⟩,.r,ai⟩
 ·exact eO ⟨.r,h6 ⟨.r,.r,.av,ai⟩,.r,ai⟩
 ·exact .refl
def jb(a:ky)(aD:Int)(cut:List Int):ky×Bool:=
 bif !k8 a then(⟨0,0,[]⟩,false)
 else bif !jt aD||decide (aD<a.cg)|| !dq cut 32||decide (a.aD=aD)&& !hx a.cut cut then(a,false)
 else(⟨aD,aD,cut⟩,true)
theorem aac(a:ky)(af:a.cut.length<=1000000)(aD:Int)(cut:List Int)(aj:cut.length<=1000000):bl Tryz.prog 197 [.agg (wX a),.v (.int .i64 aD),.ar 1 (cut.map aM) false] (.bd [.agg (wX (jb a aD cut).1),.v (.bool (jb a aD cut).2)]):=by
 have h1:a.cut.length<=maxLen:=bQ af (by decide);have ad:cut.length<=maxLen:=bQ aj (by decide);refine b9 (fn:=Tryz.f197) (c:=Tryz.f197.body.getD .skip) aA ay (by rfl) Tryz.func197 (by rfl) (by rfl) (by rfl) (by rfl) ?_;repeat' ((conv=>whnf);first|refine be ?_| (apply bh<;>intro h)|refine dr ?_|refine aS (LZ _ h1) ?_|refine aS (LY _) ?_|refine dz (Hq _ ad) ?_|refine dz (Hr _ _ h1) ?_|refine aS (RS _ af) ?_|refine aS (zC _ aj) ?_|fail)
 all_goals(conv=>whnf)
 all_goals simp only[jb, *,bY,bs]
 ·exact eO ⟨h6 ⟨.r,.r,.av,ai⟩,.r,ai⟩
 ·exact .refl
 ·exact .refl
theorem aad(v:aK)(ab:v.mem.length<=500000)(cut:List Int)(aj:cut.length<=500000):bl Tryz.prog 219 [.agg (cc v),.ar 1 (cut.map aM) false] (.v (.bool (decide ((dJ v cut).2=0)))):=by
 refine b9 (fn:=Tryz.f219) (c:=Tryz.f219.body.getD .skip) aA ay (by rfl) Tryz.func219 (by rfl) (by rfl) (by rfl) (by rfl) ?_;repeat' ((conv=>whnf);first|exact .refl|refine aS (Ej _ ab _ aj) ?_|fail)
def fP(n:Int):Int:=bif !(decide (1<=n)&&decide (n<=16))then 0 else IntKind.i64.wrap (IntKind.i64.wrap (n.tdiv 2)+1)
theorem HH(n:Int):bl Tryz.prog 181 [.v (.int .i64 n)] (.v (.int .i64 (fP n))):=by
 refine b9 (fn:=Tryz.f181) (c:=Tryz.f181.body.getD .skip) aA ay (by rfl) Tryz.func181 (by rfl) (by rfl) (by rfl) (by rfl) ?_;repeat' ((conv=>whnf);first| (apply bh<;>intro h)|refine aS (Zc _) ?_| (refine aO ?_ ?_;focus (simp;done))|fail)
 all_goals(conv=>whnf)
 all_goals refine aX ?_
 all_goals simp only[fP,h,bY,bs]
def tZ(n:Int):Int:=bif !(decide (1<=n)&&decide (n<=16))then 0 else IntKind.i64.wrap (n-IntKind.i64.wrap ((IntKind.i64.wrap (n-1)).tdiv 4))
theorem aae(n:Int):bl Tryz.prog 230 [.v (.int .i64 n)] (.v (.int .i64 (tZ n))):=by
 refine b9 (fn:=Tryz.f230) (c:=Tryz.f230.body.getD .skip) aA ay (by rfl) Tryz.func230 (by rfl) (by rfl) (by rfl) (by rfl) ?_;repeat' ((conv=>whnf);first| (apply bh<;>intro h)|refine aS (Zc _) ?_| (refine aO ?_ ?_;focus (simp;done))|fail)
 all_goals(conv=>whnf)
 all_goals refine aX ?_
 all_goals simp only[tZ,h,bY,bs]
def dA:cj:=⟨0,0,[]⟩
def BO(l:List cj)(i:Nat):Int:=(0::l.map (·.mem)).getD i 0
def ua(v:aK)(l:List cj)(i:Nat):Bool:=
 !(decide ((l.getD i dA).mem<=BO l i)|| !bH v.mem (l.getD i dA).mem)&&
  (decide ((l.getD i dA).aD= -1)&&decide (((l.getD i dA).cut.length:Int)=0)||
   (decide ((l.getD i dA).aD=0)||jt (l.getD i dA).aD)&&decide ((dJ v (l.getD i dA).cut).2=0))
def gM(v:aK)(l:List cj):Bool:=b0 v&&ih (ua v l) l.length
theorem ED(v:aK)(ab:v.mem.length<=500000)(l:List cj)(af:l.length<=maxLen)(aj:∀r∈l,r.cut.length<=500000):bl Tryz.prog 180 [.agg (cc v),.ar 3 (l.map bZ) false] (.v (.bool (gM v l))):=by
 have hs:l.length<=9223372036854775807:=af;have h1:v.mem.length<=maxLen:=bQ ab (by decide);refine b9 (fn:=Tryz.f180) (c:=Tryz.f180.body.getD .skip) aA ay (by rfl) Tryz.func180 (by rfl) (by rfl) (by rfl) (by rfl) ?_;repeat' ((conv=>whnf);first| (apply bh<;>intro h)|refine aS (ri _ h1) ?_|fail)
 ·refine fY ?_;have h:b0 v=false:=by grind
  simp[gM,h]
 ·have oF:b0 v=true:=by grind
  clear h;conv=>whnf
  refine⟨Nat,λi=>⟨[(2,.aV 0 0),(5,i64 (BO l i)),(11,.ar 3 (l.map bZ) false),(12,i64 (l.map bZ).length),(13,i64 i)],[.cells 24 (cc v)]⟩,λi=>i<=l.length/\∀j,j<i->ua v l j=true,λi=>l.length-i,[],⟨0,⟨bX _,by omega⟩,?_⟩,?_⟩
  ·exact⟨by repeat' ((conv=>whnf);first|exact trivial|refine aO (by(conv=>arg 1;whnf);first| (with_reducible exact .refl)|exact aX (bW (by omega))|exact .refl) ?_|fail),by repeat' ((conv=>whnf);first|exact trivial|refine aO ?_ ?_|exact .refl|fail),rfl⟩
  ·intro i ⟨hi,ct⟩;repeat' ((conv=>whnf);first| (apply bh<;>intro h)|fail)
   ·have ax:i<l.length:=by grind
    clear h;have aw:l.getD i dA=l[i]:=by grind
    have lQ: (l[i]).cut.length<=500000:=aj _ (eM ax);have bad:ua v l i=false->false=gM v l:=λac=>by rw[gM,sR ax ac,oj]
    have pZ:ua v l i=true->∃x',(λi=>i<=l.length/\∀j,j<i->ua v l j=true) x'/\(λi=>l.length-i) x'<(λi=>l.length-i) i/\x'=i+1:=λac=>
     ⟨i+1,⟨ax,λj aq=>by
      grind⟩,by grind,rfl⟩
    have an:BO l (i+1)=l[i].mem:=by simp[BO,ax]
    repeat' ((conv=>whnf);first|refine be ?_| (apply bh<;>intro h)|refine dr ?_|refine⟨_,_,aO ⟨rfl,c3 ax⟩ ?_⟩|refine dz (jq _ h1 _) ?_|refine dz (LY _) ?_|refine dz (aad _ ab _ lQ) ?_|fail)
    all_goals(conv=>whnf)
    ·refine fY (bad ?_);simp only[ua,aw,h];rfl
    ·rename_i aR;rw[bF]at h;obtain⟨x',cU,dh,rfl⟩:=pZ (by simp only[ua,aw,aR,h];rfl);refine⟨i+1,cU,dh,?_⟩;refine⟨⟨.r,?_,.r,.r,aX (bW (by omega)),ai⟩,⟨.r,ai⟩,rfl⟩;exact aX an.symm
    ·rename_i aR ad;rw[bF]at ad;obtain⟨x',cU,dh,rfl⟩:=pZ (by simp only[ua,aw,aR,ad,h];rfl);refine⟨i+1,cU,dh,?_⟩;refine⟨⟨.r,?_,.r,.r,aX (bW (by omega)),ai⟩,⟨.r,ai⟩,rfl⟩;exact aX an.symm
    ·rename_i aR ad;rw[bF]at ad;refine fY (bad ?_);simp only[ua,aw,aR,ad,h];rfl
   ·have fp:¬i<l.length:=by grind
    conv=>whnf
    refine fY ?_;rw[gM,oF,ij.2 (λj aq=>ct j (by omega))];rfl
structure c6 where
 mem:Int
 cut:List Int
def ee(b:c6):List ak:=[.v (.int .i64 b.mem),.ar 1 (b.cut.map aM) false]
def iG(l:List c6)(cut:List Int):Nat:=(l.filter λb=>hx b.cut cut).length
theorem alk{l:List c6}{cut:List Int}{i:Nat}(h:i<l.length)(ae:hx (l[i]'h).cut cut=true):iG (l.take (i+1)) cut=iG (l.take i) cut+1:=by
 simp only[iG,e4 h,nx]
 grind
theorem alm{l:List c6}{cut:List Int}{i:Nat}(h:i<l.length)(ae:hx (l[i]'h).cut cut=false):iG (l.take (i+1)) cut=iG (l.take i) cut:=by
 simp only[iG,e4 h,nx]
 grind
theorem aln(l:List c6)(cut:List Int)(i:Nat):iG (l.take i) cut<=i:=
 bQ (sq _ _) (by grind)
theorem aaf(l:List c6)(af:l.length<=500000)(aj:∀b∈l,b.cut.length<=maxLen)(cut:List Int):bl Tryz.prog 243 [.ar 2 (l.map ee) false,.ar 1 (cut.map aM) false] (.v (.int .i64 (iG l cut))):=by
 refine b9 (fn:=Tryz.f243) (c:=Tryz.f243.body.getD .skip) aA ay (by rfl) Tryz.func243 (by rfl) (by rfl) (by rfl) (by rfl) ?_;repeat' ((conv=>whnf);first|refine be ?_|fail)
 refine⟨Nat,λi=>⟨[(1,.ar 1 (cut.map aM) false),(5,i64 (iG (l.take i) cut)),(8,.ar 2 (l.map ee) false),(9,i64 (l.map ee).length),(10,i64 i)],[]⟩,λi=>i<=l.length,λi=>l.length-i,[],⟨0,bX _,?_⟩,?_⟩
 ·exact⟨by repeat' ((conv=>whnf);first|exact trivial|refine aO (by(conv=>arg 1;whnf);first| (with_reducible exact .refl)|exact aX (bW (by omega))|exact .refl) ?_|fail),by repeat' ((conv=>whnf);first|exact trivial|fail),rfl⟩
 ·intro i hi;repeat' ((conv=>whnf);first| (apply bh<;>intro h)|fail)
  ·have ax:i<l.length:=by grind
   clear h;have lQ:=aj _ (eM ax);have hle:=aln l cut i;repeat' ((conv=>whnf);first| (apply bh<;>intro h)|refine⟨_,_,aO ⟨rfl,c3 ax⟩ ?_⟩|refine aS (Hr _ _ lQ) ?_|fail)
   all_goals(conv=>whnf)
   all_goals refine⟨i+1,ax,by simp only[];omega,?_⟩
   ·refine⟨⟨.r,?_,.r,.r,aX (bW (by omega)),ai⟩,ai,rfl⟩;rw[alk ax h];exact aX (bW (by omega))
   ·refine⟨⟨.r,?_,.r,.r,aX (bW (by omega)),ai⟩,ai,rfl⟩;rw[alm ax h];exact .refl
  ·have fp:¬i<l.length:=by grind
   have:i=l.length:=by omega
   subst this;conv=>whnf
   rw[fU];exact .refl
def hW(l:List cj):Nat->Nat
 |0=>0
 |i+1=>bif decide ((l.getD (hW l i) dA).aD<(l.getD i dA).aD)then i else hW l i
theorem RT(l:List cj):∀i,hW l i<=i
 |0=>bP _
 |i+1=>by
  have:=RT l i;unfold hW
  grind
def ga(l:List cj):List c6:=(l.filter λr=>decide (r.aD=0)).map λr=>⟨r.mem,r.cut⟩
def ub(v:aK)(l:List cj):Int:=IntKind.i64.wrap (IntKind.i64.wrap (tZ v.mem.length+(l.length:Int))- (v.mem.length:Int))
def rl(v:aK)(l:List cj)(own:List Int):Bool:= !gM v l||decide ((l.length:Int)<fP v.mem.length)||decide (0<(own.length:Int))&& !decide ((dJ v own).2=0)
def gH(v:aK)(l:List cj)(own:List Int):List Int×Bool:=
 bif rl v l own then([],false)
 else bif decide (0<(l.getD (hW l l.length) dA).aD)then((l.getD (hW l l.length) dA).cut,true)
 else match (ga l).find? (λb=>decide (ub v l<=(iG (ga l) b.cut:Int)))with
  |some b=>(b.cut,true)
  |none=>bif decide ((own.length:Int)=0)then([],false)else(own,true)
variable{l:List cj}
theorem aag{i:Nat}(h1:i<l.length)(ad:hW l i<l.length)(h:decide ((l[hW l i]'ad).aD<(l[i]'h1).aD)=true):hW l (i+1)=i:=by
 have aC:l.getD (hW l i) dA=l[hW l i]:=by grind
 have aG:l.getD i dA=l[i]:=by grind
 simp only[hW,aC,aG,h,bY]
theorem aah{i:Nat}(h1:i<l.length)(ad:hW l i<l.length)(h:decide ((l[hW l i]'ad).aD<(l[i]'h1).aD)=false):hW l (i+1)=hW l i:=by
 have aC:l.getD (hW l i) dA=l[hW l i]:=by grind
 have aG:l.getD i dA=l[i]:=by grind
 simp only[hW,aC,aG,h,bs]
theorem RU(l:List cj)(i:Nat): (ga (l.take i)).length<=i:=by
 simp only[ga,bF]
 grind
theorem aai{i:Nat}(h1:i<l.length)(h:decide ((l[i]'h1).aD=0)=true): (ga (l.take i)).map ee++ [ee ⟨(l[i]'h1).mem,(l[i]'h1).cut⟩]=(ga (l.take (i+1))).map ee:=by
 simp only[ga,e4 h1,nx,ef]
 grind
theorem aaj{i:Nat}(h1:i<l.length)(h:decide ((l[i]'h1).aD=0)=false): (ga (l.take i)).map ee=(ga (l.take (i+1))).map ee:=by
 simp only[ga,e4 h1,nx,ef]
 grind
theorem RV(l:List cj){n:Nat}(h:0<n):hW l n<n:=by
 obtain⟨i,rfl⟩:∃i,n=i+1:=⟨n-1,by omega⟩
 have:=RT l i;unfold hW
 grind
theorem alo(h1:1<=n)(ad:n<=16):1<=fP n:=by
 have e: (!(decide (1<=(n:Int))&&decide ((n:Int)<=16)))=false:=by grind
 have aG:Int.tdiv (n:Int) 2=((n/2:Nat):Int):=rfl;simp only[fP,e,bs,aG];rw[dW (n:=((n/2:Nat):Int)) (by omega) (by omega),dW (by omega) (by omega)];omega
variable{own:List Int}
theorem RW(h:rl v l own=false):0<l.length/\1<=v.mem.length/\v.mem.length<=16:=by
 simp only[rl,iK,l3,hG]at h;obtain⟨⟨h1,ad⟩,_⟩:=h;simp only[gM,b0,dq,cq,mV,iK,hG]at h1;have aN:=h1.1.2.1;have:=alo (n:=v.mem.length) (by omega) (by omega);omega
variable{N:Nat}
theorem aak(aj:∀r∈l,r.cut.length<=N):∀b∈ga l,b.cut.length<=N:=by
 intro b ac;simp only[ga,fT,h2]at ac
 grind
theorem EE(h:n<=2000000):kp ag 201 n:=by
 have e: (aF ag 201).bytes=32:=by rfl
 refine⟨?_,?_⟩
 ·grind
 ·simp only[maxLen];omega
theorem alp(v:aK)(ab:v.mem.length<=500000)(l:List cj)(af:l.length<=500000)(aj:∀r∈l,r.cut.length<=500000)(own:List Int)(aH:own.length<=500000):
  bl Tryz.prog 228 [.agg (cc v),.ar 3 (l.map bZ) false,.ar 1 (own.map aM) false] (.bd [.ar 1 ((gH v l own).1.map aM) false,.v (.bool (gH v l own).2)]):=by
 have hs:l.length<=maxLen:=bQ af (by decide);refine b9 (fn:=Tryz.f228) (c:=Tryz.f228.body.getD .skip) aA ay (by rfl) Tryz.func228 (by rfl) (by rfl) (by rfl) (by rfl) ?_;repeat' ((conv=>whnf);first|refine be ?_| (apply bh<;>intro h)|refine dr ?_|refine aS (ED _ ab _ hs aj) ?_|refine dz (HH _) ?_|refine dz (aad _ ab _ aH) ?_|fail)
 all_goals(conv=>whnf)
 ·have h:rl v l own=true:=by
   simp only[bF]at h;exact h
  simp only[gH,h,bY];exact eO ⟨.av,.r,ai⟩
 ·have aR:=h;clear h;refine⟨Nat,λi=>⟨[(1,.ar 3 (l.map bZ) false),(2,.ar 1 (own.map aM) false),(8,i64 (v.mem.map aM).length),(9,i64 (hW l i)),(10,.own 1),(40,.ar 3 (l.map bZ) false),(41,i64 (l.map bZ).length),(42,i64 i)],[.cells 24 (cc v),.row 201 2 ((ga (l.take i)).map ee)]⟩,λi=>i<=l.length,λi=>l.length-i,[.ho 10 201 2],⟨0,bX _,?_⟩,?_⟩
  ·conv=>whnf
   exact⟨by repeat' ((conv=>whnf);first|exact trivial|refine aO (by(conv=>arg 1;whnf);first| (with_reducible exact .refl)|exact aX (bW (by omega))|exact .refl) ?_|fail),by repeat' ((conv=>whnf);first|exact trivial|refine aO ?_ ?_|exact .refl|fail),rfl⟩
  ·intro i hi;repeat' ((conv=>whnf);first| (apply bh<;>intro h)|fail)
   ·have ax:i<l.length:=by grind
    clear h;have hle:=RT l i;have ml:hW l i<l.length:=by omega
    repeat' ((conv=>whnf);first| (apply bh<;>intro h)|refine cd ?_|refine⟨_,_,aO ⟨rfl,c3 ax⟩ ?_⟩|refine⟨_,_,aO ⟨rfl,c3 ml⟩ ?_⟩|fail)
    all_goals(conv=>whnf)
    ·rename_i ao;have ac:=RU l i;refine aO (EE (by grind)) ?_;repeat' ((conv=>whnf);first|refine be ?_|fail)
     all_goals(conv=>whnf)
     refine⟨i+1,ax,by grind,?_⟩;refine⟨⟨.r,.r,.r,aX (by rw[aag ax ml ao]),.r,.r,.r,aX (bW (by omega)),ai⟩,⟨.r,cK (aai ax h),ai⟩,rfl⟩
    ·rename_i ao;refine⟨i+1,ax,by grind,?_⟩;refine⟨⟨.r,.r,.r,aX (by rw[aag ax ml ao]),.r,.r,.r,aX (bW (by omega)),ai⟩,⟨.r,cK (aaj ax h),ai⟩,rfl⟩
    ·rename_i ao;have ac:=RU l i;refine aO (EE (by grind)) ?_;repeat' ((conv=>whnf);first|refine be ?_|fail)
     all_goals(conv=>whnf)
     refine⟨i+1,ax,by grind,?_⟩;refine⟨⟨.r,.r,.r,aX (by rw[aah ax ml ao]),.r,.r,.r,aX (bW (by omega)),ai⟩,⟨.r,cK (aai ax h),ai⟩,rfl⟩
    ·rename_i ao;refine⟨i+1,ax,by grind,?_⟩;refine⟨⟨.r,.r,.r,aX (by rw[aah ax ml ao]),.r,.r,.r,aX (bW (by omega)),ai⟩,⟨.r,cK (aaj ax h),ai⟩,rfl⟩
   ·have fp:¬i<l.length:=by grind
    have:i=l.length:=by omega
    subst this;clear h;have aR:rl v l own=false:=by
     simp only[bF]at aR;exact aR
    obtain⟨fx,Q4,Rs⟩:=RW aR;have ax:=RV l fx;have aw:l.getD (hW l l.length) dA=l[hW l l.length]:=by grind
    have lQ:=aj _ (eM ax);conv=>whnf
    repeat' ((conv=>whnf);first| (apply bh<;>intro h)|refine⟨_,_,aO ⟨rfl,c3 ax⟩ ?_⟩|refine aS (zC _ (bQ lQ (by decide))) ?_|fail)
    all_goals(conv=>whnf)
    ·simp only[gH,aR,aw,h,bY,bs];exact .refl
    ·have h1:=h;clear h;have lp: (ga l).length<=500000:=by
      have:=RU l l.length
      grind
     have HI:=aak aj;have alq:=λcut=>aaf (ga l) lp (λb ac=>bQ (HI b ac) (by decide)) cut;have pU:l.take l.length=l:=fU;rw[pU];refine⟨Nat,λi=>⟨[(1,.ar 3 (l.map bZ) false),(2,.ar 1 (own.map aM) false),(8,i64 (v.mem.map aM).length),(10,.own 1),(80,.own 1),(81,i64 (ga l).length),(82,i64 i)],[.cells 24 (cc v),.row 201 2 ((ga l).map ee)]⟩,λi=>i<=(ga l).length/\∀j (aq:j<(ga l).length),j<i->decide (ub v l<=(iG (ga l) (ga l)[j].cut:Int))=false,λi=>(ga l).length-i,[],⟨0,⟨bX _,by omega⟩,?_⟩,?_⟩
     ·refine⟨⟨.r,.r,.r,.r,.r,aX (by simp),.r,ai⟩,⟨.r,.r,ai⟩,rfl⟩
     ·intro i ⟨hi,ct⟩;repeat' ((conv=>whnf);first| (apply bh<;>intro h)|refine aS (zC _ (bQ aH (by decide))) ?_|fail)
      ·have ax:i<(ga l).length:=by grind
       clear h;have alr:i<((ga l).map ee).length:=by grind
       have tM: ((ga l).map ee)[i]?=some (ee ((ga l)[i]'ax)):=c3 ax;have lQ:=HI _ (eM ax);repeat' ((conv=>whnf);first| (apply bh<;>intro h)|refine aS (alq _) ?_|refine aS (aae _) ?_|refine aS (zC _ (bQ lQ (by decide))) ?_|refine⟨i,aO ⟨rfl,alr⟩ ?_⟩|refine⟨ee ((ga l)[i]'ax),aO tM ?_⟩|fail)
       all_goals(conv=>whnf)
       ·have h:decide (ub v l<=(iG (ga l) (ga l)[i].cut:Int))=true:=by
         simp only[bF]at h;exact h
        have az: (ga l).find? (λb=>decide (ub v l<=(iG (ga l) b.cut:Int)))=some (ga l)[i]:=
         Jv.2 ⟨h,i,ax,rfl,λj aq=>by grind⟩
        simp only[gH,aR,aw,h1,az,bY,bs];exact .refl
       ·have h:decide (ub v l<=(iG (ga l) (ga l)[i].cut:Int))=false:=by
         simp only[bF]at h;exact h
        refine⟨i+1,⟨ax,λj aq r5=> ?_⟩,by grind,?_⟩
        ·grind
        ·exact⟨⟨.r,.r,.r,.r,.r,.r,aX (bW (by omega)),ai⟩,⟨.r,.r,ai⟩,rfl⟩
      all_goals(conv=>whnf)
      all_goals rename_i ah
      all_goals have fp:¬i<(ga l).length:=by simpa using ah
      all_goals have az: (ga l).find? (λb=>decide (ub v l<=(iG (ga l) b.cut:Int)))=none:=Ar.2 (λb ac=>by
       obtain⟨j,aq,rfl⟩:=e8 ac;simpa using ct j aq (by omega))
      all_goals rw[bF]at h
      all_goals simp only[gH,aR,aw,h1,az,h,bY,bs]
      ·exact eO ⟨.av,.r,ai⟩
      ·exact .refl
theorem RX{m:Int}(h1:1<=a)(ad:a<=1048575)(aN:1<=m)(bt:m<=1000):vp a m=1024*a+m:=by
 have e: (decide (a<1)||decide (1048575<a)||decide (m<1)||decide (1000<m))=false:=by
  grind
 simp only[vp,e,bs];rw[dW (n:=1024*a) (by omega) (by omega),dW (by omega) (by omega)]
theorem alu{m:Int}(h:¬(1<=a/\a<=1048575/\1<=m/\m<=1000)):vp a m=0:=by
 have e: (decide (a<1)||decide (1048575<a)||decide (m<1)||decide (1000<m))=true:=by
  grind
 simp only[vp,e,bY]
theorem alv(h1:1024<r)(ad:r<1073741824)(aN:r%1024<=1000):h7 r=r%1024:=by
 have em:r.tmod 1024=r%1024:=Int.tmod_eq_emod_of_nonneg (by omega);have e: (decide (r<=1024)||decide (1073741824<=r)||decide (1000<r.tmod 1024))=false:=by
  grind
 simp only[h7]
 grind
theorem alw(h:¬(1024<r/\r<1073741824/\r%1024<=1000)):h7 r=0:=by
 have e: (decide (r<=1024)||decide (1073741824<=r)||decide (1000<r.tmod 1024))=true:=by
  grind
 simp only[h7,e,bY]
theorem aal(h:h7 r≠0):1024<r:=by
 by_cases h1:1024<r/\r<1073741824/\r%1024<=1000
 ·omega
 ·exact absurd (alw h1) h
variable{a:ky}
theorem alx{cut:List Int}{N:Nat}(h1:a.cut.length<=N)(ad:cut.length<=N): (oJ a cut).1.cut.length<=N:=by
 unfold oJ;cases !k8 a<;>simp only[bY,bs]
 all_goals grind
theorem L2{aD:Int}{N:Nat}(h1:a.cut.length<=N): (ip a aD).1.cut.length<=N/\(ip a aD).2.1.cut.length<=N:=by
 unfold ip;cases !k8 a<;>simp only[bY,bs]
 all_goals grind
theorem L3{aD:Int}{cut:List Int}{N:Nat}(h1:a.cut.length<=N)(ad:cut.length<=N): (jb a aD cut).1.cut.length<=N:=by
 unfold jb;cases !k8 a<;>simp only[bY,bs]
 all_goals grind
theorem x9(a:ky):k8 a=true↔ (a.cg=0\/h7 a.cg≠0)/\a.aD<=a.cg/\((a.aD= -1/\a.cut=[])\/((a.aD=0\/h7 a.aD≠0)/\a.aD≠ -1/\dq a.cut 32=true)):=by
 simp only[k8,jt];by_cases h1:a.cg=0<;>by_cases ad:h7 a.cg=0<;>by_cases aN:a.aD= -1<;>by_cases bt:a.aD=0<;>by_cases b5:h7 a.aD=0<;>by_cases eN:a.cg<a.aD<;>simp[*]
 all_goals omega
theorem HJ(l:List cj)(af:l.length<=500000)(aj:∀r∈l,r.cut.length<=1000000):cm Tryz.prog 226 [] [.ar 3 (l.map bZ) false] [] [.row 179 3 (l.map bZ)] (.own 0):=by
 have iY: (l.map bZ).length* (aF ag 179).bytes<=140737488355328:=by
  have e: (aF ag 179).bytes=40:=by rfl
  grind
 have tB: (l.map bZ).length<=maxLen:=by simp only[maxLen];grind
 refine ik (fn:=Tryz.f226) (c:=Tryz.f226.body.getD .skip) aA ay (by rfl) Tryz.func226 (by rfl) (by rfl) (by rfl) (by rfl) (by rfl) ?_;repeat' ((conv=>whnf);first|refine⟨(l.map bZ).length,(l.map bZ).length,rfl,rfl,bP _,iY,tB,?_⟩|fail)
 all_goals(conv=>whnf)
 have fw: (l.map bZ).take (List.replicate (l.map bZ).length (aF ag 179).zero).length++(List.replicate (l.map bZ).length (aF ag 179).zero).drop (l.map bZ).length=l.map bZ:=by
  grind
 rw[fw];refine⟨Nat,λi=>⟨[(3,.own 0),(12,i64 (l.map bZ).length),(13,i64 i)],[.row 179 3 (l.map bZ)]⟩,λi=>i<=l.length,λi=>l.length-i,[],⟨0,bX _,?_⟩,?_⟩
 ·exact⟨⟨.r,.r,.r,ai⟩,⟨.r,ai⟩,rfl⟩
 ·intro i hi;repeat' ((conv=>whnf);first| (apply bh<;>intro h)|fail)
  ·have ax:i<l.length:=by grind
   have ml:i<(l.map bZ).length:=by grind
   have lQ:=aj _ (eM ax);repeat' ((conv=>whnf);first|refine aS (zC _ lQ) ?_|refine⟨i,aO ⟨rfl,ml⟩ ?_⟩|refine⟨bZ (l[i]'ax),aO (c3 ax) ?_⟩|fail)
   all_goals(conv=>whnf)
   refine⟨i+1,ax,by grind,?_⟩;refine⟨⟨.r,.r,aX (bW (by omega)),ai⟩,⟨cK ?_,ai⟩,rfl⟩;apply rJ;intro j;rw[C2];split
   ·rename_i aq;subst aq;first
     |rw[b6 ml,c3 ax];rfl
     |rw[c3 ax];rfl
   ·rfl
  ·have fp:¬i<l.length:=by grind
   repeat' ((conv=>whnf);first|refine be ?_|fail)
   all_goals(conv=>whnf)
   exact⟨.r,⟨.r,ai⟩,rfl⟩
theorem aam(l:List cj)(af:l.length<=500000)(aj:∀r∈l,r.cut.length<=1000000):bl Tryz.prog 226 [.ar 3 (l.map bZ) false] (.ar 3 (l.map bZ) false):=
 ah9 (HJ l af aj) .refl
def qD:List cj->Int->Nat
 | [],_=>0
 |r::l,m=>if r.mem<m then qD l m+1 else 0
theorem aly(l:List cj)(m:Int):qD l m<=l.length:=by
 induction l with
 |nil=>exact bP _
 |cons r l aY=>simp only[qD,lI];split<;>omega
theorem RY{m:Int}:∀ {l:List cj} {i:Nat} (af:i<l.length),(∀j,(aq:j<i)->(l[j]'(by omega)).mem<m)->¬l[i].mem<m->qD l m=i
 |r::l,0,af,h,aW=>by simp only[qD];grind
 |r::l,i+1,af,h,aW=>by
  have aR:r.mem<m:=h 0 (by omega);simp only[qD,b6 aR];exact e9 (· +1) (RY (l:=l) (by grind) (λj aq=>h (j+1) (by omega)) aW)
theorem RZ{m:Int}:∀ {l:List cj},(∀j,(aq:j<l.length)->l[j].mem<m)->qD l m=l.length
 | [],_=>rfl
 |r::l,h=>by
  have aR:r.mem<m:=h 0 (by simp);simp only[qD,b6 aR,lI];exact e9 (· +1) (RZ (l:=l) λj aq=>h (j+1) (by grind))
def iR(l:List cj)(r:cj):List cj:=l.take (qD l r.mem)++ [r]++l.drop (qD l r.mem)
def fJ(v:aK)(l:List cj)(r:cj):List cj×Bool:=
 bif !gM v l then([],false)else bif !gM v (iR l r)then(l,false)else(iR l r,true)
theorem R0(l:List cj)(r:cj): (iR l r).length=l.length+1:=by
 have:=aly l r.mem;simp[iR];omega
theorem BP{r x:cj}(h:x∈iR l r):x=r\/x∈l:=by
 simp only[iR,eo,eX]at h
 grind
theorem L4(h:n<=2000000):kp ag 179 n:=by
 have e: (aF ag 179).bytes=40:=by rfl
 refine⟨?_,?_⟩
 ·grind
 ·simp only[maxLen];omega
theorem alz(v:aK)(ab:v.mem.length<=400000)(l:List cj)(af:l.length<=400000)(aj:∀r∈l,r.cut.length<=400000)(r:cj)(ao:r.cut.length<=400000):
  bl Tryz.prog 195 [.agg (cc v),.ar 3 (l.map bZ) false,.agg (bZ r)] (.bd [.ar 3 ((fJ v l r).1.map bZ) false,.v (.bool (fJ v l r).2)]):=by
 have qA:l.length<=maxLen:=bQ af (by decide);have R1:=ED v (bQ ab (by omega)) l qA (λx ah=>bQ (aj x ah) (by omega));have eI:=R0 l r;have R2:=ED v (bQ ab (by omega)) (iR l r) (by simp only[maxLen];omega) (λx ah=>by
  rcases BP ah with rfl|ah
  ·omega
  ·exact bQ (aj x ah) (by omega))
 have R3:=aam l (by omega) (λx ah=>bQ (aj x ah) (by omega));have R4:=aam (iR l r) (by omega) (λx ah=>by
  rcases BP ah with rfl|ah
  ·omega
  ·exact bQ (aj x ah) (by omega))
 refine fM Tryz.func195 ?_;repeat' ((conv=>whnf);first| (apply bh<;>intro h)|refine aS R1 ?_|fail)
 all_goals(conv=>whnf)
 ·simp only[fJ,h,bY];exact eO ⟨.av,.r,ai⟩
 ·have aR:=h;clear h;refine⟨Nat,λi=>⟨[(1,.ar 3 (l.map bZ) false),(3,.aV 0 0),(5,.aV 1 0),(8,i64 i)],[.cells 24 (cc v),.cells 179 (bZ r)]⟩,λi=>i<=l.length/\∀j,(aq:j<l.length)->j<i->l[j].mem<r.mem,λi=>l.length-i,[],⟨0,⟨bX _,λj _ aq=>by omega⟩,?_⟩,?_⟩
  ·exact⟨by repeat' ((conv=>whnf);first|exact trivial|refine aO (by(conv=>arg 1;whnf);first| (with_reducible exact .refl)|exact aX (bW (by omega))|exact .refl) ?_|fail),by repeat' ((conv=>whnf);first|exact trivial|refine aO ?_ ?_|exact .refl|fail),rfl⟩
  ·intro i ⟨hi,ct⟩;have jR:∃x:cj,(i<l.length->(l.map bZ)[i]?=some (bZ x))/\∀ (eI:i<l.length),x=l[i]:=by
    by_cases eI:i<l.length
    ·exact⟨l[i],λ_=>c3 eI,λ_=>rfl⟩
    ·exact⟨r,λaW=>absurd aW eI,λaW=>absurd aW eI⟩
   obtain⟨x,BQ,lS⟩:=jR;repeat' ((conv=>whnf);first|refine be ?_| (apply bh<;>intro h)|refine cd ?_|refine dr ?_|refine⟨i,bZ x,aO ⟨⟨λh=>h,λh=>h⟩,λaw=>⟨rfl,BQ (by simpa using aw)⟩⟩ ?_⟩|fail)
   ·have eI:i<l.length:=by simpa using((cq ..).mp h).1
    have ax:l[i].mem<r.mem:=by
     have:=((cq ..).mp h).2;rw[lS eI]at this;simpa using this
    clear h;repeat' ((conv=>whnf);first|refine be ?_|fail)
    all_goals(conv=>whnf)
    refine⟨i+1,⟨eI,λj aq r5=> ?_⟩,by simp only[];omega,?_⟩
    ·rcases Nat.lt_succ_iff_lt_or_eq.mp r5 with h1|rfl
     ·exact ct j aq h1
     ·exact ax
    ·exact⟨⟨.r,.r,.r,aX (bW (by omega)),ai⟩,⟨.r,.r,ai⟩,rfl⟩
   ·have az:qD l r.mem=i:=by
     rcases l5 i l.length with eI|eI
     ·refine RY eI (λj aq=>ct j (by omega) aq) ?_;intro ax;rw[lS eI]at h;simp[eI,ax]at h
     ·have:i=l.length:=by omega
      subst this;exact RZ λj aq=>ct j aq aq
    clear h;have R5:cm Tryz.prog 226 [] [ak.ar 3 (((l.map bZ).take i).drop 0) false] [] [aZ.row 179 3 ((l.take i).map bZ)] (ak.own 0):=by
     have:=HJ (l.take i) (by simp;omega) (λx ah=>bQ (aj x (nR ah)) (by omega));rw[<-yH];exact this
    have hlen: (l.take i).length=i:=by simp;omega
    have qA:i<=(l.map bZ).length:=by simpa using hi
    repeat' ((conv=>whnf);first|refine cd ?_|refine⟨0,i,aO ⟨rfl,⟨_,rfl⟩,bX _,qA⟩ ?_⟩|refine .inr ⟨[],bS R5 ?_⟩|refine aO (L4 (by simp<;>omega)) ?_|refine⟨i,aO ⟨⟨_,rfl⟩,qA⟩ ?_⟩|refine Exists.intro false ?_|fail)
    have HK:List.map bZ (List.take i l)++(List.replicate 1 (aF ag 179).zero).set 0 (dc (.agg [.v (.int .i64 r.mem),.v (.int .i64 r.aD),.ar 1 (List.map aM r.cut) false]))++List.drop i (List.map bZ l)=(iR l r).map bZ:=by
     simp[iR,az,bZ,dc]
    refine .inl ⟨[.agg (cc v),.ar 3 ((iR l r).map bZ) false],_,⟨.r,ig HK,ai⟩,R2,?_⟩;repeat' ((conv=>whnf);first| (apply bh<;>intro h)|refine aS R3 ?_|refine .inl ⟨[.ar 3 ((iR l r).map bZ) false],_,⟨ig HK,ai⟩,R4,?_⟩|fail)
    all_goals(conv=>whnf)
    ·simp only[fJ,aR,h,bY,bs];exact .refl
    ·simp only[fJ,aR,h,bY,bs];exact .refl
def jG(v:aK)(r:cj):Bool:=bH v.mem r.mem&&
  (decide (r.aD= -1)&&decide ((r.cut.length:Int)=0)|| (decide (r.aD=0)||jt r.aD)&&decide ((dJ v r.cut).2=0))
def eS(l:List cj)(x:Int):Int:=lx (λi=>decide ((l.getD i dA).mem=x)) l.length
theorem alA{x:Int}(h:decide (0<=eS l x)=false):∀r∈l,r.mem≠x:=by
 intro r ao e;obtain⟨i,hi,rfl⟩:=e8 ao;have an:∃n,lx (λi=>decide ((l.getD i dA).mem=x)) l.length=((n:Nat):Int):=by
  rcases az: (List.range l.length).find? (λi=>decide ((l.getD i dA).mem=x))with _|n
  ·simp_all
  ·exact⟨n,by simp only[lx,az]⟩
 obtain⟨n,aW⟩:=an;simp only[eS,aW,hG]at h;omega
theorem alB{x:Int}(h:decide (0<=eS l x)=true):∃r∈l,r.mem=x:=by
 refine qg λaW=> ?_;have ct:∀j,j<l.length->decide ((l.getD j dA).mem=x)=false:=λj aq=>by
  grind
 rw[eS,tQ ct]at h;cases h
def EF(v:aK)(l:List cj)(i:Nat):Bool:= !(!jG v (l.getD i dA)||decide (0<(i:Int))&&decide ((l.getD i dA).mem<=(l.getD (i-1) dA).mem))
theorem alC{x:Int}(ab:b0 v=true)(h:bH v.mem x=true):1<=x:=by
 have hM:dq v.mem 16=true:=by
  simp only[b0,cq]at ab
  grind
 rw[BC]at hM;simp only[cq]at hM;have ao:=Lx.1 hM.2;rcases az: (List.range v.mem.length).find? (λi=>decide (v.mem[i]?=some x))with _|n
 ·simp only[bH,gG,lx,az]at h;cases h
 grind
theorem aan(ab:b0 v=true)(l:List cj){i:Nat}(hi:i<l.length):EF v l i=ua v l i:=by
 simp only[EF,ua,jG];cases cL:bH v.mem (l.getD i dA).mem
 ·simp
 ·have an:=alC ab cL;have e: (decide (0<(i:Int))&&decide ((l.getD i dA).mem<=(l.getD (i-1) dA).mem))=decide ((l.getD i dA).mem<=BO l i):=by
   cases i with
   |zero=>simp[BO];grind
   |succ j=>
    have aq:j<l.length:=by omega
    simp[BO,aq,hi]
  grind
theorem rm(ab:b0 v=true){l:List cj}:gM v l=true↔ (∀r∈l,jG v r=true)/\List.Pairwise (λa b:cj=>a.mem<b.mem) l:=by
 have e:gM v l=ih (EF v l) l.length:=by
  rw[gM,ab,rH];cases h:ih (EF v l) l.length
  ·cases ad:ih (ua v l) l.length
   ·rfl
   ·have:=ij.2 (λi hi=>(aan ab l hi).trans (ij.1 ad i hi))
    grind
  ·exact ij.2 (λi hi=>(aan ab l hi).symm.trans (ij.1 h i hi))
 rw[e,ij];have cw:∀i (hi:i<l.length),EF v l i=true↔jG v l[i]=true/\(0<i->(l.getD (i-1) dA).mem<l[i].mem):=by
  intro i hi;have aw:l.getD i dA=l[i]:=by grind
  simp only[EF,aw,mV,iK,l3,uD,hG]
  grind
 constructor
 ·intro h;have h1:∀i (hi:i<l.length),jG v l[i]=true/\(0<i->(l.getD (i-1) dA).mem<l[i].mem):=λi hi=>(cw i hi).1 (h i hi);refine⟨λr ao=> ?_,?_⟩
  ·obtain⟨i,hi,rfl⟩:=e8 ao
   grind
  ·rw[mz];intro i j hi aq fW;obtain⟨d,rfl⟩:∃d,j=i+1+d:=⟨j- (i+1),by omega⟩
   clear fW;induction d with
   |zero=>
    grind
   |succ d aY=>
    grind
 ·rintro⟨h1,ad⟩ i hi;refine(cw i hi).2 ⟨h1 _ (eM hi),λaR=> ?_⟩;have hd:i-1<l.length:=by omega
  have:=mz.1 ad (i-1) i hd hi (by omega)
  grind
theorem alD{r:cj}(an:List.Pairwise (λa b:cj=>a.mem<b.mem) l):List.Pairwise (λa b:cj=>a.mem<b.mem) (iR l r)↔∀x∈l,x.mem≠r.mem:=by
 induction l with
 |nil=>simp[iR]
 |cons y l aY=>
  rw[rL]at an;by_cases bn:y.mem<r.mem
  ·have e:iR (y::l) r=y::iR l r:=by simp[iR,qD,bn]
   have aA:∀z,z∈iR l r↔z=r\/z∈l:=λz=>by
    constructor
    ·exact BP
    ·intro h;simp only[iR,eo,eX];rcases h with rfl|h
     ·simp
     ·rw[<-Aw (qD l r.mem) l,eo]at h
      grind
   rw[e,rL,aY an.2]
   grind
  ·have e:iR (y::l) r=r::y::l:=by simp[iR,qD,bn]
   rw[e,rL];constructor
   ·grind
   ·intro h;refine⟨λz bx=> ?_,rL.2 an⟩
    grind
theorem alE(l:List cj)(i:Nat):hW l (i+1)=bif decide ((l.getD (hW l i) dA).aD<(l.getD i dA).aD)then i else hW l i:=rfl
theorem aao(l:List cj)(p:c6->Bool): (ga l).find? p=(l.find? λr=>decide (r.aD=0)&&p ⟨r.mem,r.cut⟩).map λr=>⟨r.mem,r.cut⟩:=by
 induction l with
 |nil=>rfl
 |cons y l aY=>
  by_cases bn:y.aD=0
  ·have e:ga (y::l)= ⟨y.mem,y.cut⟩::ga l:=by simp[ga,bn]
   grind
  ·have e:ga (y::l)=ga l:=by simp[ga,bn]
   grind
def vq(v:aK)(l:List cj)(r:cj):Bool:=decide (r.aD=0)&&decide (ub v l<=(iG (ga l) r.cut:Int))
theorem aap(aR:rl v l own=false)(h1:decide (0<(l.getD (hW l l.length) dA).aD)=false){i:Nat}(hi:i<l.length)(h:vq v l l[i]=true)(ct:∀j (aq:j<l.length),j<i->vq v l l[j]=false):gH v l own=(l[i].cut,true):=by
 have az: (l.find? λr=>decide (r.aD=0)&&decide (ub v l<=(iG (ga l) r.cut:Int)))=some l[i]:=
  Jv.2 ⟨h,i,hi,rfl,λj aq=>by
   have:=ct j (by omega) aq;simp only[vq]at this
   grind⟩
 simp only[gH,aR,h1,bs,aao,az,qh]
theorem alF(aR:rl v l own=false)(h1:decide (0<(l.getD (hW l l.length) dA).aD)=false)(ct:∀j (aq:j<l.length),vq v l l[j]=false):gH v l own=(own,decide (0<(own.length:Int))):=by
 have az: (l.find? λr=>decide (r.aD=0)&&decide (ub v l<=(iG (ga l) r.cut:Int)))=none:=
  Ar.2 λr ao=>by
   obtain⟨j,aq,rfl⟩:=e8 ao;have:=ct j aq;simp only[vq]at this
   grind
 simp only[gH,aR,h1,bs,aao,az,st];cases own with
 |nil=>rfl
 |cons x l=>
  have aC:decide (((x::l).length:Int)=0)=false:=cX (by grind)
  simp_all
theorem aaq(aR:rl v l own=false)(h1:decide (0<(l.getD (hW l l.length) dA).aD)=true):gH v l own=((l.getD (hW l l.length) dA).cut,true):=by
 simp only[gH,aR,h1,bs,bY]
end Go.Proofs.YtdcfooeoaoahjaaGreat
