/- The laws of this seat, part OwA: contracts of the functions, plain laws. No conditions. -/
import Derived.Test.YtdcfooeoaoahjaaGreatRows
import Derived.Test.YtdcfooeoaoahjaaGreatLfC
import Derived.Shelf.SlLaysF
import Derived.Shelf.Lays
import Derived.Shelf.Lays2
import Derived.Test.YtdcfooeoaoahjaaGreatProg
set_option linter.unusedSimpArgs false
set_option linter.unusedVariables false
set_option maxRecDepth 100000
set_option maxHeartbeats 16000000
namespace Go.Proofs.YtdcfooeoaoahjaaGreat
open Go.Lift
def ah:dJ:=[(2,⟨1,8,false,[.v (.int .i64 0)],.int .i64⟩),
 (3,⟨1,8,false,[.v (.int .i64 0)],.int .i64⟩),
 (4,⟨1,1,false,[.v (.bool false)],.bool⟩),
 (5,⟨1,1,false,[.v (.int .u8 0)],.int .u8⟩),
 (9,⟨1,16,false,[.v (.string ⟨#[]⟩)],.str⟩),
 (21,⟨1,4,false,[.v (.int .i32 0)],.int .i32⟩),
 (22,⟨1,24,false,[.ar],.fb 3⟩),
 (23,⟨2,32,true,[.v (.int .i64 0),.ar],.b4 [(3,0),(22,1)]⟩),
 (24,⟨2,32,true,[.v (.int .i64 0),.ar],.b4 [(3,0),(22,1)]⟩),
 (25,⟨1,24,false,[.ar],.fb 36⟩),
 (28,⟨1,24,false,[.ar],.fb 55⟩),
 (29,⟨1,24,false,[.ar],.fb 4⟩),
 (30,⟨1,24,false,[.ar],.fb 82⟩),
 (31,⟨3,72,true,[.ar,.ar,.ar],.b4 [(28,0),(29,1),(30,2)]⟩),
 (32,⟨3,72,true,[.ar,.ar,.ar],.b4 [(28,0),(29,1),(30,2)]⟩),
 (34,⟨1,8,false,[.v (.int .u64 0)],.int .u64⟩),
 (35,⟨4,16,true,[.v (.int .u8 0),.v (.int .u8 0),.v (.int .u8 0),.v (.int .u64 0)],.b4 [(5,0),(5,1),(5,2),(34,3)]⟩),
 (36,⟨4,16,true,[.v (.int .u8 0),.v (.int .u8 0),.v (.int .u8 0),.v (.int .u64 0)],.b4 [(5,0),(5,1),(5,2),(34,3)]⟩),
 (40,⟨1,8,false,[.v (.int .u64 0)],.int .u64⟩),
 (42,⟨1,24,false,[.ar],.fb 22⟩),
 (43,⟨1,24,false,[.ar],.fb 96⟩),
 (44,⟨4,64,true,[.v (.int .i64 0),.v (.int .i64 0),.ar,.ar],.b4 [(3,0),(24,1),(43,3)]⟩),
 (45,⟨4,64,true,[.v (.int .i64 0),.v (.int .i64 0),.ar,.ar],.b4 [(3,0),(24,1),(43,3)]⟩),
 (46,⟨1,24,false,[.ar],.fb 147⟩),
 (47,⟨1,24,false,[.ar],.fb 150⟩),
 (48,⟨3,40,true,[.v (.int .i64 0),.v (.int .i64 0),.ar],.b4 [(3,0),(3,1),(22,2)]⟩),
 (49,⟨3,40,true,[.v (.int .i64 0),.v (.int .i64 0),.ar],.b4 [(3,0),(3,1),(22,2)]⟩),
 (50,⟨1,24,false,[.ar],.fb 201⟩),
 (51,⟨1,24,false,[.ar],.fb 179⟩),
 (52,⟨15,248,true,[.v (.int .i64 0),.v (.int .i64 0),.ar,.v (.int .i64 0),.v (.int .i64 0),.ar,.ar,.ar,.v (.int .i64 0),.v (.int .i64 0),.ar,.ar,.ar,.ar,.v (.int .i64 0)],.b4 [(3,0),(24,1),(49,3),(22,6),(50,7),(3,8),(3,9),(51,10),(22,11),(51,12),(22,13),(3,14)]⟩),
 (53,⟨15,248,true,[.v (.int .i64 0),.v (.int .i64 0),.ar,.v (.int .i64 0),.v (.int .i64 0),.ar,.ar,.ar,.v (.int .i64 0),.v (.int .i64 0),.ar,.ar,.ar,.ar,.v (.int .i64 0)],.b4 [(3,0),(24,1),(49,3),(22,6),(50,7),(3,8),(3,9),(51,10),(22,11),(51,12),(22,13),(3,14)]⟩),
 (54,⟨29,488,true,[.v (.int .i64 0),.v (.int .i64 0),.ar,.v (.int .i64 0),.ar,.ar,.v (.int .i64 0),.ar,.v (.int .i64 0),.v (.int .i64 0),.ar,.ar,.ar,.ar,.v (.int .i64 0),.v (.int .i64 0),.ar,.v (.int .i64 0),.v (.int .i64 0),.ar,.ar,.ar,.v (.int .i64 0),.v (.int .i64 0),.ar,.ar,.ar,.ar,.v (.int .i64 0)],.b4 [(3,0),(3,1),(22,2),(24,3),(42,5),(24,6),(45,8),(46,12),(47,13),(53,14)]⟩),
 (55,⟨29,488,true,[.v (.int .i64 0),.v (.int .i64 0),.ar,.v (.int .i64 0),.ar,.ar,.v (.int .i64 0),.ar,.v (.int .i64 0),.v (.int .i64 0),.ar,.ar,.ar,.ar,.v (.int .i64 0),.v (.int .i64 0),.ar,.v (.int .i64 0),.v (.int .i64 0),.ar,.ar,.ar,.v (.int .i64 0),.v (.int .i64 0),.ar,.ar,.ar,.ar,.v (.int .i64 0)],.b4 [(3,0),(3,1),(22,2),(24,3),(42,5),(24,6),(45,8),(46,12),(47,13),(53,14)]⟩),
 (57,⟨1,8,false,[.v (.int .u64 0)],.int .u64⟩),
 (63,⟨1,2,false,[.v (.int .u16 0)],.int .u16⟩),
 (65,⟨1,8,false,[.v (.int .i64 0)],.int .i64⟩),
 (69,⟨1,24,false,[.ar],.fb 5⟩),
 (71,⟨1,24,false,[.ar],.fb 121⟩),
 (76,⟨1,24,false,[.ar],.fb 24⟩),
 (81,⟨3,40,true,[.v (.int .i64 0),.v (.int .i64 0),.ar],.b4 [(3,0),(3,1),(69,2)]⟩),
 (82,⟨3,40,true,[.v (.int .i64 0),.v (.int .i64 0),.ar],.b4 [(3,0),(3,1),(69,2)]⟩),
 (92,⟨1,4,false,[.v (.int .u32 0)],.int .u32⟩),
 (93,⟨2,16,true,[.v (.int .u32 0),.v (.int .i64 0)],.b4 [(92,0),(3,1)]⟩),
 (94,⟨2,16,true,[.v (.int .u32 0),.v (.int .i64 0)],.b4 [(92,0),(3,1)]⟩),
 (95,⟨6,40,true,[.v (.int .i64 0),.v (.int .i64 0),.v (.bool false),.v (.bool false),.v (.int .u32 0),.v (.int .i64 0)],.b4 [(3,0),(3,1),(4,2),(4,3),(94,4)]⟩),
 (96,⟨6,40,true,[.v (.int .i64 0),.v (.int .i64 0),.v (.bool false),.v (.bool false),.v (.int .u32 0),.v (.int .i64 0)],.b4 [(3,0),(3,1),(4,2),(4,3),(94,4)]⟩),
 (107,⟨6,64,true,[.v (.int .i64 0),.v (.int .i64 0),.v (.int .i64 0),.v (.int .i64 0),.v (.int .i64 0),.ar],.b4 [(3,0),(3,1),(3,2),(3,3),(3,4),(22,5)]⟩),
 (108,⟨6,64,true,[.v (.int .i64 0),.v (.int .i64 0),.v (.int .i64 0),.v (.int .i64 0),.v (.int .i64 0),.ar],.b4 [(3,0),(3,1),(3,2),(3,3),(3,4),(22,5)]⟩),
 (109,⟨12,160,true,[.v (.int .i64 0),.v (.int .i64 0),.ar,.v (.int .i64 0),.v (.int .i64 0),.v (.int .i64 0),.v (.int .i64 0),.v (.int .i64 0),.ar,.v (.int .i64 0),.ar,.ar],.b4 [(3,0),(3,1),(46,2),(108,3),(24,9),(42,11)]⟩),
 (110,⟨12,160,true,[.v (.int .i64 0),.v (.int .i64 0),.ar,.v (.int .i64 0),.v (.int .i64 0),.v (.int .i64 0),.v (.int .i64 0),.v (.int .i64 0),.ar,.v (.int .i64 0),.ar,.ar],.b4 [(3,0),(3,1),(46,2),(108,3),(24,9),(42,11)]⟩),
 (113,⟨1,8,false,[.v (.pointer none)],.gr⟩),
 (115,⟨30,512,true,[.v (.int .i64 0),.v (.int .i64 0),.ar,.v (.int .i64 0),.ar,.ar,.v (.int .i64 0),.ar,.v (.int .i64 0),.v (.int .i64 0),.ar,.ar,.ar,.ar,.v (.int .i64 0),.v (.int .i64 0),.ar,.v (.int .i64 0),.v (.int .i64 0),.ar,.ar,.ar,.v (.int .i64 0),.v (.int .i64 0),.ar,.ar,.ar,.ar,.v (.int .i64 0),.ar],.b4 [(55,0),(71,29)]⟩),
 (116,⟨30,512,true,[.v (.int .i64 0),.v (.int .i64 0),.ar,.v (.int .i64 0),.ar,.ar,.v (.int .i64 0),.ar,.v (.int .i64 0),.v (.int .i64 0),.ar,.ar,.ar,.ar,.v (.int .i64 0),.v (.int .i64 0),.ar,.v (.int .i64 0),.v (.int .i64 0),.ar,.ar,.ar,.v (.int .i64 0),.v (.int .i64 0),.ar,.ar,.ar,.ar,.v (.int .i64 0),.ar],.b4 [(55,0),(71,29)]⟩),
 (120,⟨2,32,true,[.v (.int .i64 0),.ar],.b4 [(3,0),(69,1)]⟩),
 (121,⟨2,32,true,[.v (.int .i64 0),.ar],.b4 [(3,0),(69,1)]⟩),
 (134,⟨2,32,true,[.ar,.v (.bool false)],.b4 [(69,0),(4,1)]⟩),
 (135,⟨2,32,true,[.ar,.v (.bool false)],.b4 [(69,0),(4,1)]⟩),
 (146,⟨4,32,true,[.v (.int .i64 0),.v (.int .i64 0),.v (.int .i64 0),.v (.int .i64 0)],.b4 [(3,0),(3,1),(3,2),(3,3)]⟩),
 (147,⟨4,32,true,[.v (.int .i64 0),.v (.int .i64 0),.v (.int .i64 0),.v (.int .i64 0)],.b4 [(3,0),(3,1),(3,2),(3,3)]⟩),
 (149,⟨2,16,true,[.v (.int .i64 0),.v (.int .i64 0)],.b4 [(3,0),(3,1)]⟩),
 (150,⟨2,16,true,[.v (.int .i64 0),.v (.int .i64 0)],.b4 [(3,0),(3,1)]⟩),
 (156,⟨1,24,false,[.ar],.fb 218⟩),
 (178,⟨3,40,true,[.v (.int .i64 0),.v (.int .i64 0),.ar],.b4 [(3,0),(3,1),(22,2)]⟩),
 (179,⟨3,40,true,[.v (.int .i64 0),.v (.int .i64 0),.ar],.b4 [(3,0),(3,1),(22,2)]⟩),
 (200,⟨2,32,true,[.v (.int .i64 0),.ar],.b4 [(3,0),(22,1)]⟩),
 (201,⟨2,32,true,[.v (.int .i64 0),.ar],.b4 [(3,0),(22,1)]⟩),
 (209,⟨16,272,true,[.v (.int .i64 0),.v (.int .i64 0),.ar,.v (.int .i64 0),.v (.int .i64 0),.ar,.ar,.ar,.v (.int .i64 0),.v (.int .i64 0),.ar,.ar,.ar,.ar,.v (.int .i64 0),.ar],.b4 [(53,0),(156,15)]⟩),
 (210,⟨16,272,true,[.v (.int .i64 0),.v (.int .i64 0),.ar,.v (.int .i64 0),.v (.int .i64 0),.ar,.ar,.ar,.v (.int .i64 0),.v (.int .i64 0),.ar,.ar,.ar,.ar,.v (.int .i64 0),.ar],.b4 [(53,0),(156,15)]⟩),
 (217,⟨7,72,true,[.v (.int .i64 0),.v (.int .i64 0),.v (.int .i64 0),.v (.int .i64 0),.v (.int .i64 0),.v (.int .i64 0),.ar],.b4 [(3,0),(108,1)]⟩),
 (218,⟨7,72,true,[.v (.int .i64 0),.v (.int .i64 0),.v (.int .i64 0),.v (.int .i64 0),.v (.int .i64 0),.v (.int .i64 0),.ar],.b4 [(3,0),(108,1)]⟩),
 (219,⟨4,32,true,[.v (.int .i64 0),.v (.int .i64 0),.v (.int .i64 0),.v (.int .i64 0)],.arr 4 3⟩),
 (255,⟨1,8,false,[.v (.int .i64 0)],.int .i64⟩),
 (264,⟨1,24,false,[.ar],.fb 267⟩),
 (266,⟨3,24,true,[.v (.int .i64 0),.v (.int .i64 0),.v (.int .i64 0)],.b4 [(3,0),(3,1),(3,2)]⟩),
 (267,⟨3,24,true,[.v (.int .i64 0),.v (.int .i64 0),.v (.int .i64 0)],.b4 [(3,0),(3,1),(3,2)]⟩),
 (274,⟨1,8,false,[.v (.int .u64 0)],.int .u64⟩),
 (285,⟨3,24,true,[.v (.int .u64 0),.v (.int .u64 0),.v (.int .u64 0)],.arr 3 57⟩),
 (287,⟨2,16,true,[.v (.int .u64 0),.v (.int .u64 0)],.arr 2 34⟩)]
theorem az:Tryz.prog.follows .mixedOrders=true:=by rfl
theorem aw:dw Tryz.prog ah=true:=by kernel_rfl
variable{f:Go.FuncId}{fn:Go.Func}{args:List ak}{d:ak}
theorem fX(au:Tryz.prog.funcs[f]?=some fn)(h:Vb ah Tryz.prog (fn.body.getD .skip) fn.results.toList args d)(hk: (!(fn.name== "runtime.NumGoroutine")&&fn.body.isSome&&pI fn.ntmps (fn.body.getD .skip)&&Nat.ble args.length fn.ntmps)=true:=by kernel_rfl):bq Tryz.prog f args d:=by
 simp only[cq,nu]at hk;exact cp az aw (by kernel_rfl) au hk.1.1.1 (by cases ac:fn.body<;>simp_all) hk.1.2 hk.2 h
theorem jV{L bK:List aX}{args:List ak}{kept:List Bool}{d:ak}(au:Tryz.prog.funcs[f]?=some fn)(h:Vc ah Tryz.prog (fn.body.getD .skip) fn.results.toList L args kept bK d)(hk: (!(fn.name== "runtime.NumGoroutine")&&fn.body.isSome&&pI fn.ntmps (fn.body.getD .skip)&&Nat.ble args.length fn.ntmps&&qO L)=true:=by kernel_rfl):cj Tryz.prog f L args kept bK d:=by
 simp only[cq,nu]at hk;exact ik az aw (by kernel_rfl) au hk.1.1.1.1 (by cases ac:fn.body<;>simp_all) hk.1.1.2 hk.1.2 hk.2 h
theorem mi{L bK:List aX}{args:List ak}{kept:List Bool}{d:ak}(au:Tryz.prog.funcs[f]?=some fn)(h:XX ah Tryz.prog (fn.body.getD .skip) fn.results.toList L args kept bK d)(hk: (!(fn.name== "runtime.NumGoroutine")&&fn.body.isSome&&pI fn.ntmps (fn.body.getD .skip)&&Nat.ble args.length fn.ntmps&&qO L)=true:=by kernel_rfl):cj Tryz.prog f L args kept bK d:=by
 simp only[cq,nu]at hk;exact tG az aw (by kernel_rfl) au hk.1.1.1.1 (by cases ac:fn.body<;>simp_all) hk.1.1.2 hk.1.2 hk.2 h
def i64(n:Int):ak:=.v (.int .i64 n)
def aU(n:Int):List ak:=[.v (.int .i64 n)]
def bE(n:Nat):List ak:=[.v (.int .u8 n)]
variable{n:Nat}
theorem qo(h:n<=2000000):kL ah 3 n:=by
 have e: (aE ah 3).bytes=8:=by rfl
 refine⟨?_,?_⟩
 ·grind
 ·simp only[maxLen];omega
theorem cM{e:TypeId}{ay:Nat}{es fK:List (List ak)}(h:es=fK):hz (.row e ay es) (.row e ay fK):=by subst h;exact .refl
def u4(l:List Int)(i:Nat):Bool:= !(decide (l.getD i 0<=(0::l).getD i 0)||decide (1000<l.getD i 0))
def dF(l:List Int)(aiy:Int):Bool:= !(decide ((l.length:Int)<1)||decide (aiy<(l.length:Int)))&&ij (u4 l) l.length
theorem Ym(l:List Int)(af:l.length<=maxLen)(m:Int):bq Tryz.prog 58 [.av 1 (l.map aU) false,.v (.int .i64 m)] (.v (.bool (dF l m))):=by
 have hK:l.length<=9223372036854775807:=af;refine cp (fn:=Tryz.f58) (c:=Tryz.f58.body.getD .skip) az aw (by rfl) Tryz.func58 (by rfl) (by rfl) (by rfl) (by rfl) ?_;repeat' ((conv=>whnf);first|refine bl ?_| (apply bo<;>intro h)|refine dE ?_|fail)
 ·skip
  refine gQ ?_;simp only[bL]at h;simp only[dF,h];rfl
 ·skip
  simp only[bL]at h;have aQ:=h;clear h;conv=>whnf
  refine⟨Nat,λi=>⟨[(5,i64 ((0::l).getD i 0)),(17,.av 1 (l.map aU) false),(18,i64 (l.map aU).length),(19,i64 i)],[]⟩,λi=>i<=l.length/\∀j,j<i->u4 l j=true,λi=>l.length-i,[],⟨0,⟨bZ _,by omega⟩,?_⟩,?_⟩
  ·exact⟨by repeat' ((conv=>whnf);first|exact trivial|refine aS (by(conv=>arg 1;whnf);first| (with_reducible exact .refl)|exact a8 (ca (by omega))|exact .refl) ?_|fail),by repeat' ((conv=>whnf);first|exact trivial|fail),rfl⟩
  ·intro i ⟨hi,cF⟩;repeat' ((conv=>whnf);first| (apply bo<;>intro h)|fail)
   ·have h1:=h;have aB:i<l.length:=by grind
    have ax:l.getD i 0=l[i]:=by grind
    repeat' ((conv=>whnf);first|refine bl ?_| (apply bo<;>intro h)|refine⟨_,_,aS ⟨rfl,du aB⟩ ?_⟩|fail)
    ·have ad:=h;refine gQ ?_;have:u4 l i=false:=by simp only[u4,ax,ad];rfl
     rw[dF,tF aB this,oR]
    ·have ad:=h;conv=>whnf
     refine⟨i+1,⟨aB,λj aq=> ?_⟩,by grind,?_⟩
     ·rcases yv.1 aq with aq|rfl
      ·grind
      ·simp only[u4,ax,ad];rfl
     ·refine⟨⟨?_,.r,.r,a8 (ca (by omega)),aj⟩,aj,rfl⟩;refine a8 ?_
      grind
   ·have h1:=h;have fU:¬i<l.length:=by grind
    conv=>whnf
    refine gQ ?_;rw[dF,aQ,iA.2 (λj aq=>cF j (by omega))];rfl
theorem G0(l:List Int)(af:l.length<=maxLen):bq Tryz.prog 106 [.av 1 (l.map aU) false] (.v (.bool (dF l 32))):=by
 refine cp (fn:=Tryz.f106) (c:=Tryz.f106.body.getD .skip) az aw (by rfl) Tryz.func106 (by rfl) (by rfl) (by rfl) (by rfl) ?_;repeat' ((conv=>whnf);first|exact .refl|refine aR (Ym _ af _) ?_|fail)
def iG(a b:List Int):Bool:=decide ((a.length:Int)=(b.length:Int))&&ij (λi=>decide (a.getD i 0=b.getD i 0)) a.length
theorem Qm(a b:List Int)(bb:a.length<=maxLen):bq Tryz.prog 60 [.av 1 (a.map aU) false,.av 1 (b.map aU) false] (.v (.bool (iG a b))):=by
 have hK:a.length<=9223372036854775807:=bb;refine cp (fn:=Tryz.f60) (c:=Tryz.f60.body.getD .skip) az aw (by rfl) Tryz.func60 (by rfl) (by rfl) (by rfl) (by rfl) ?_;repeat' ((conv=>whnf);first| (apply bo<;>intro h)|fail)
 ·refine gQ ?_;simp only[bL]at h;have h:decide ((a.length:Int)=(b.length:Int))=false:=by grind
  simp only[iG,h,wZ]
 ·have aQ:a.length=b.length:=by
   grind
  clear h;conv=>whnf
  refine⟨Nat,λi=>⟨[(0,.av 1 (a.map aU) false),(1,.av 1 (b.map aU) false),(12,i64 (a.map aU).length),(13,i64 i)],[]⟩,λi=>i<=a.length/\∀j,j<i->decide (a.getD j 0=b.getD j 0)=true,λi=>a.length-i,[],⟨0,⟨bZ _,by omega⟩,?_⟩,?_⟩
  ·exact⟨by repeat' ((conv=>whnf);first|exact trivial|refine aS (by(conv=>arg 1;whnf);first| (with_reducible exact .refl)|exact a8 (ca (by omega))|exact .refl) ?_|fail),by repeat' ((conv=>whnf);first|exact trivial|fail),rfl⟩
  ·intro i ⟨hi,cF⟩;repeat' ((conv=>whnf);first| (apply bo<;>intro h)|fail)
   ·have aB:i<a.length:=by grind
    have nl:i<b.length:=by omega
    clear h;have ax:a.getD i 0=a[i]:=by grind
    have iP:b.getD i 0=b[i]:=by grind
    repeat' ((conv=>whnf);first| (apply bo<;>intro h)|refine ch ?_|refine⟨_,_,aS ⟨rfl,du aB⟩ ?_⟩|refine⟨_,_,aS ⟨rfl,du nl⟩ ?_⟩|fail)
    ·refine gQ ?_;rw[iG,tF aB (i:=i),oR]
     grind
    ·conv=>whnf
     refine⟨i+1,⟨aB,λj aq=> ?_⟩,by grind,?_⟩
     ·grind
     ·exact⟨by repeat' ((conv=>whnf);first|exact trivial|refine aS (by(conv=>arg 1;whnf);first| (with_reducible exact .refl)|exact a8 (ca (by omega))|exact .refl) ?_|fail),by repeat' ((conv=>whnf);first|exact trivial|fail),rfl⟩
   ·have fU:¬i<a.length:=by grind
    conv=>whnf
    refine gQ ?_;rw[iG,iA.2 (λj aq=>cF j (by omega)),aQ];simp
theorem G1(a b:List Int)(bb:a.length<=maxLen):bq Tryz.prog 116 [.av 1 (a.map aU) false,.av 1 (b.map aU) false] (.v (.bool (iG a b))):=by
 refine cp (fn:=Tryz.f116) (c:=Tryz.f116.body.getD .skip) az aw (by rfl) Tryz.func116 (by rfl) (by rfl) (by rfl) (by rfl) ?_;repeat' ((conv=>whnf);first|exact .refl|refine aR (Qm _ _ bb) ?_|fail)
structure aK where
 num:Int
 mem:List Int
def cG(v:aK):List ak:=[.v (.int .i64 v.num),.av 1 (v.mem.map aU) false]
def gR(l:List Int)(x:Int):Int:=lv (λi=>decide (l[i]?=some x)) l.length
theorem G2(l:List Int)(af:l.length<=maxLen)(x:Int):bq Tryz.prog 59 [.av 1 (l.map aU) false,.v (.int .i64 x)] (.v (.int .i64 (gR l x))):=by
 have hK:l.length<=9223372036854775807:=af;refine cp (fn:=Tryz.f59) (c:=Tryz.f59.body.getD .skip) az aw (by rfl) Tryz.func59 (by rfl) (by rfl) (by rfl) (by rfl) ?_;repeat' ((conv=>whnf);first|refine bl ?_|fail)
 refine⟨Nat,λi=>⟨[(1,.v (.int .i64 x)),(7,.av 1 (l.map aU) false),(8,i64 (l.map aU).length),(9,i64 i)],[]⟩,λi=>i<=l.length/\∀j,j<i->decide (l[j]?=some x)=false,λi=>l.length-i,[],⟨0,⟨bZ _,by omega⟩,?_⟩,?_⟩
 ·exact⟨by repeat' ((conv=>whnf);first|exact trivial|refine aS (by(conv=>arg 1;whnf);first| (with_reducible exact .refl)|exact a8 (ca (by omega))|exact .refl) ?_|fail),by repeat' ((conv=>whnf);first|exact trivial|fail),rfl⟩
 ·intro i ⟨hi,cF⟩;repeat' ((conv=>whnf);first| (apply bo<;>intro h)|fail)
  ·have aB:i<l.length:=by grind
   repeat' ((conv=>whnf);first| (apply bo<;>intro h)|refine⟨_,_,aS ⟨rfl,du aB⟩ ?_⟩|fail)
   ·have ad:=h;refine a8 (wD aB ?_ cF).symm
    grind
   ·have ad:=h;conv=>whnf
    refine⟨i+1,⟨aB,λj aq=> ?_⟩,by grind,?_⟩
    ·grind
    ·exact⟨by repeat' ((conv=>whnf);first|exact trivial|refine aS (by(conv=>arg 1;whnf);first| (with_reducible exact .refl)|exact a8 (ca (by omega))|exact .refl) ?_|fail),by repeat' ((conv=>whnf);first|exact trivial|fail),rfl⟩
  ·have fU:¬i<l.length:=by grind
   conv=>whnf
   refine a8 (tE (λj aq=>cF j (by omega))).symm
def bP(l:List Int)(x:Int):Bool:=decide (0<=gR l x)
theorem jt(l:List Int)(af:l.length<=maxLen)(x:Int):bq Tryz.prog 33 [.av 1 (l.map aU) false,.v (.int .i64 x)] (.v (.bool (bP l x))):=by
 refine cp (fn:=Tryz.f33) (c:=Tryz.f33.body.getD .skip) az aw (by rfl) Tryz.func33 (by rfl) (by rfl) (by rfl) (by rfl) ?_;repeat' ((conv=>whnf);first|exact .refl|refine aR (G2 _ af _) ?_|fail)
theorem zb(l:List Int)(af:l.length<=maxLen):bq Tryz.prog 32 [.av 1 (l.map aU) false] (.v (.bool (dF l 16))):=by
 refine cp (fn:=Tryz.f32) (c:=Tryz.f32.body.getD .skip) az aw (by rfl) Tryz.func32 (by rfl) (by rfl) (by rfl) (by rfl) ?_;repeat' ((conv=>whnf);first|exact .refl|refine aR (Ym _ af _) ?_|fail)
def b2(v:aK):Bool:=(decide (0<=v.num)&&decide (v.num<=1099511627776))&&dF v.mem 16
theorem q3(v:aK)(af:v.mem.length<=maxLen):bq Tryz.prog 43 [.agg (cG v)] (.v (.bool (b2 v))):=by
 refine cp (fn:=Tryz.f43) (c:=Tryz.f43.body.getD .skip) az aw (by rfl) Tryz.func43 (by rfl) (by rfl) (by rfl) (by rfl) ?_;repeat' ((conv=>whnf);first|refine bl ?_|exact .refl|refine ea (zb _ af) ?_|fail)
def sD(v:aK)(cut l gr:List Int):List Int×List Int:=
 bif !b2 v|| !dF cut 32 then([],[])else(l.filter (bP gr),l.filter (λx=> !bP gr x))
def wF(gr l:List Int)(i:Nat):List (List ak):=((l.take i).filter (bP gr)).map aU
def wG(gr l:List Int)(i:Nat):List (List ak):=((l.take i).filter (λx=> !bP gr x)).map aU
theorem aiz(gr l:List Int)(i:Nat): (wF gr l i).length<=i:=by
 simp only[wF,bL]
 grind
theorem aiA(gr l:List Int)(i:Nat): (wG gr l i).length<=i:=by
 simp only[wG,bL]
 grind
theorem aiB{gr l:List Int}{i:Nat}(aB:i<l.length)(h:bP gr (l[i]'aB)=true):wF gr l i++ [aU (l[i]'aB)]=wF gr l (i+1)/\wG gr l i=wG gr l (i+1):=by
 simp only[wF,wG,fA aB,oh];simp[h]
theorem aiC{gr l:List Int}{i:Nat}(aB:i<l.length)(h:bP gr (l[i]'aB)=false):wF gr l i=wF gr l (i+1)/\wG gr l i++ [aU (l[i]'aB)]=wG gr l (i+1):=by
 simp only[wF,wG,fA aB,oh];simp[h]
theorem Yn(v:aK)(ab:v.mem.length<=maxLen)(cut l gr:List Int)(al:cut.length<=maxLen)(af:l.length<=1000000)(aH:gr.length<=maxLen):
  bq Tryz.prog 176 [.agg (cG v),.av 1 (cut.map aU) false,.av 1 (l.map aU) false,.av 1 (gr.map aU) false] (.be [.av 1 ((sD v cut l gr).1.map aU) false,.av 1 ((sD v cut l gr).2.map aU) false]):=by
 refine fX Tryz.func176 ?_;repeat' ((conv=>whnf);first|refine bl ?_| (apply bo<;>intro h)|refine aR (q3 _ ab) ?_|refine ea (G0 _ al) ?_|fail)
 all_goals(conv=>whnf)
 ·simp only[sD,h,b6];exact e1 ⟨.ar,.ar,aj⟩
 ·simp only[sD,h,bD];clear h;refine⟨Nat,λi=>⟨[(3,.av 1 (gr.map aU) false),(8,.own 1),(9,.own 2),(20,.av 1 (l.map aU) false),(21,i64 (l.map aU).length),(22,i64 i)],[.cells 24 (cG v),.row 3 1 (wF gr l i),.row 3 1 (wG gr l i)]⟩,λi=>i<=l.length,λi=>l.length-i,[.h4 8 3 1,.h4 9 3 1],⟨0,bZ _,?_⟩,?_⟩
  ·conv=>whnf
   exact⟨by repeat' ((conv=>whnf);first|exact trivial|refine aS (by(conv=>arg 1;whnf);first| (with_reducible exact .refl)|exact a8 (ca (by omega))|exact .refl) ?_|fail),by repeat' ((conv=>whnf);first|exact trivial|refine aS ?_ ?_|exact .refl|fail),rfl⟩
  ·intro i hi;repeat' ((conv=>whnf);first| (apply bo<;>intro h)|fail)
   ·have aB:i<l.length:=by simpa using h
    clear h;repeat' ((conv=>whnf);first| (apply bo<;>intro h)|refine⟨_,_,aS ⟨rfl,du aB⟩ ?_⟩|refine aR (jt _ aH _) ?_|fail)
    ·have ai:=aiz gr l i;have an:=aiB aB h;conv=>whnf
     refine aS (qo (by simp;omega)) ?_;repeat' ((conv=>whnf);first|refine bl ?_|fail)
     all_goals(conv=>whnf)
     refine⟨i+1,aB,by simp only[];omega,?_⟩;exact⟨⟨.r,.r,.r,.r,.r,a8 (ca (by omega)),aj⟩,⟨.r,cM an.1,cM an.2,aj⟩,rfl⟩
    ·have ct:=aiA gr l i;have an:=aiC aB h;conv=>whnf
     refine aS (qo (by simp;omega)) ?_;repeat' ((conv=>whnf);first|refine bl ?_|fail)
     all_goals(conv=>whnf)
     refine⟨i+1,aB,by simp only[];omega,?_⟩;exact⟨⟨.r,.r,.r,.r,.r,a8 (ca (by omega)),aj⟩,⟨.r,cM an.1,cM an.2,aj⟩,rfl⟩
   ·have fU:¬i<l.length:=by simpa using h
    have:i=l.length:=by omega
    subst this;conv=>whnf
    refine e1 ⟨jI ?_,jI ?_,aj⟩
    ·simp[wF]
    ·simp[wG]
theorem aiD(v:aK)(ab:v.mem.length<=1000000)(cut:List Int)(al:cut.length<=1000000):bq Tryz.prog 107 [.agg (cG v),.av 1 (cut.map aU) false] (.av 1 ((sD v cut v.mem cut).2.map aU) false):=by
 have h1:v.mem.length<=maxLen:=bT ab (by decide);have ad:cut.length<=maxLen:=bT al (by decide);refine cp (fn:=Tryz.f107) (c:=Tryz.f107.body.getD .skip) az aw (by rfl) Tryz.func107 (by rfl) (by rfl) (by rfl) (by rfl) ?_;repeat' ((conv=>whnf);first|exact .refl|refine aR (Yn _ h1 _ _ _ ad ab ad) ?_|fail)
theorem Yo(v:aK)(ab:v.mem.length<=1000000)(cut:List Int)(al:cut.length<=1000000):bq Tryz.prog 108 [.agg (cG v),.av 1 (cut.map aU) false] (.av 1 ((sD v cut cut v.mem).2.map aU) false):=by
 have h1:v.mem.length<=maxLen:=bT ab (by decide);have ad:cut.length<=maxLen:=bT al (by decide);refine cp (fn:=Tryz.f108) (c:=Tryz.f108.body.getD .skip) az aw (by rfl) Tryz.func108 (by rfl) (by rfl) (by rfl) (by rfl) ?_;repeat' ((conv=>whnf);first|exact .refl|refine aR (Yn _ h1 _ _ _ ad al h1) ?_|fail)
theorem Yp(n:Int):bq Tryz.prog 220 [.v (.int .i64 n)] (.v (.bool (decide (1<=n)&&decide (n<=16)))):=by
 refine cp (fn:=Tryz.f220) (c:=Tryz.f220.body.getD .skip) az aw (by rfl) Tryz.func220 (by rfl) (by rfl) (by rfl) (by rfl) ?_;repeat' ((conv=>whnf);first|refine bl ?_|exact .refl|fail)
def ky:List Int->List Int->List Int
 |a,[]=>a
 |a,x::b=>a.takeWhile (λy=> !decide (x<y))++x::ky (a.dropWhile (λy=> !decide (x<y))) b
theorem aiE{y x:Int}{a b:List Int}(h:x<y):ky (y::a) (x::b)=x::ky (y::a) b:=by simp[ky,h]
theorem aiF{y x:Int}{a b:List Int}(h:¬x<y):ky (y::a) (x::b)=y::ky a (x::b):=by simp[ky,h]
theorem aiG{x:Int}{b:List Int}:ky [] (x::b)=x::ky [] b:=by rfl
theorem aiH(a b:List Int)(bb:a.length<=500000)(ac:b.length<=500000):bq Tryz.prog 109 [.av 1 (a.map aU) false,.av 1 (b.map aU) false] (.av 1 ((ky a b).map aU) false):=by
 refine cp (fn:=Tryz.f109) (c:=Tryz.f109.body.getD .skip) az aw (by rfl) Tryz.func109 (by rfl) (by rfl) (by rfl) (by rfl) ?_;repeat' ((conv=>whnf);first|refine bl ?_|fail)
 refine⟨Nat×Nat×List Int,λs=>⟨[(0,.av 1 (a.map aU) false),(5,.own 0),(6,i64 s.2.1),(9,.av 1 (b.map aU) false),(10,i64 (b.map aU).length),(11,i64 s.1)],[.row 3 1 (s.2.2.map aU)]⟩,
  λs=>s.1<=b.length/\s.2.1<=a.length/\s.2.2.length<=s.1+s.2.1/\s.2.2++ky (a.drop s.2.1) (b.drop s.1)=ky a b,λs=>b.length-s.1,[.h4 5 3 1],⟨(0,0,[]),⟨bZ _,bZ _,bZ _,rfl⟩,?_⟩,?_⟩
 ·conv=>whnf
  exact⟨by repeat' ((conv=>whnf);first|exact trivial|refine aS (by(conv=>arg 1;whnf);first| (with_reducible exact .refl)|exact a8 (ca (by omega))|exact .refl) ?_|fail),by repeat' ((conv=>whnf);first|exact trivial|refine aS ?_ ?_|exact .refl|fail),rfl⟩
 ·intro ⟨j,i,out⟩ ⟨aq,hi,aH,az⟩;simp only at aq hi aH az;repeat' ((conv=>whnf);first| (apply bo<;>intro h)|fail)
  ·have aB:j<b.length:=by grind
   clear h;have aa:b.drop j=b[j]::b.drop (j+1):=vK aB;repeat' ((conv=>whnf);first|refine⟨_,_,aS ⟨rfl,du aB⟩ ?_⟩|fail)
   conv=>whnf
   refine⟨Nat×List Int,λs=>⟨[(0,.av 1 (a.map aU) false),(5,.own 0),(6,i64 s.1),(8,.v (.int .i64 b[j])),(9,.av 1 (b.map aU) false),(10,i64 (b.map aU).length),(11,i64 j)],[.row 3 1 (s.2.map aU)]⟩,
    λs=>s.1<=a.length/\s.2.length<=j+s.1/\s.2++ky (a.drop s.1) (b.drop j)=ky a b,λs=>a.length-s.1,[],⟨(i,out),⟨hi,aH,az⟩,?_⟩,?_⟩
   ·exact⟨by repeat' ((conv=>whnf);first|exact trivial|refine aS (by(conv=>arg 1;whnf);first| (with_reducible exact .refl)|exact a8 (ca (by omega))|exact .refl) ?_|fail),by repeat' ((conv=>whnf);first|exact trivial|refine aS ?_ ?_|exact .refl|fail),rfl⟩
   ·intro ⟨i,out⟩ ⟨hi,aH,az⟩;simp only at hi aH az;repeat' ((conv=>whnf);first| (apply bo<;>intro h)|fail)
    ·have nl:i<a.length:=by grind
     clear h;have kw:a.drop i=a[i]::a.drop (i+1):=vK nl;repeat' ((conv=>whnf);first| (apply bo<;>intro h)|refine⟨_,_,aS ⟨rfl,du nl⟩ ?_⟩|fail)
     ·conv=>whnf
      refine aS (qo (by grind)) ?_;repeat' ((conv=>whnf);first|refine bl ?_|fail)
      all_goals(conv=>whnf)
      refine⟨(j+1,i,out++ [b[j]]),⟨aB,hi,by grind,?_⟩,by grind,?_⟩
      ·have h:b[j]<a[i]:=by grind
       rw[aa,kw,aiE h]at az
       grind
      ·refine⟨by repeat' ((conv=>whnf);first|exact trivial|refine aS (by(conv=>arg 1;whnf);first| (with_reducible exact .refl)|exact a8 (ca (by omega))|exact .refl) ?_|fail),⟨cM ?_,aj⟩,rfl⟩;simp;rfl
     ·conv=>whnf
      refine aS (qo (by grind)) ?_;repeat' ((conv=>whnf);first|refine bl ?_|fail)
      all_goals(conv=>whnf)
      refine⟨(i+1,out++ [a[i]]),⟨nl,by grind,?_⟩,by grind,?_⟩
      ·have h:¬b[j]<a[i]:=by grind
       rw[aa,kw,aiF h]at az
       grind
      ·refine⟨by repeat' ((conv=>whnf);first|exact trivial|refine aS (by(conv=>arg 1;whnf);first| (with_reducible exact .refl)|exact a8 (ca (by omega))|exact .refl) ?_|fail),⟨cM ?_,aj⟩,rfl⟩;simp;rfl
    ·have fU:¬i<a.length:=by grind
     have:i=a.length:=by omega
     subst this;conv=>whnf
     refine aS (qo (by grind)) ?_;repeat' ((conv=>whnf);first|refine bl ?_|fail)
     all_goals(conv=>whnf)
     refine⟨(j+1,a.length,out++ [b[j]]),⟨aB,hi,by grind,?_⟩,by grind,?_⟩
     ·rw[aa,CB,aiG]at az
      grind
     ·refine⟨by repeat' ((conv=>whnf);first|exact trivial|refine aS (by(conv=>arg 1;whnf);first| (with_reducible exact .refl)|exact a8 (ca (by omega))|exact .refl) ?_|fail),⟨cM ?_,aj⟩,rfl⟩;simp;rfl
  ·have fU:¬j<b.length:=by grind
   have:j=b.length:=by omega
   subst this;conv=>whnf
   refine⟨i,aS ⟨⟨_,rfl⟩,by grind⟩ ?_⟩;conv=>whnf
   refine aS (qo (by grind)) ?_;repeat' ((conv=>whnf);first|refine bl ?_|fail)
   all_goals(conv=>whnf)
   refine jI ?_;rw[CB]at az;rw[<-az];simp[ky]
theorem Qn(v:aK)(cut l o:List Int): (sD v cut l o).2.length<=l.length:=by
 unfold sD
 grind
def mH(v:aK)(cut:List Int):List Int:=(sD v cut v.mem cut).2
def hd(v:aK)(cut:List Int):List Int:=(sD v cut cut v.mem).2
def er(v:aK)(cut:List Int):aK×Int:=
 bif !b2 v|| !dF cut 32 then(⟨0,[]⟩,1)
 else bif decide (2* ((mH v cut).length:Int)<=(v.mem.length:Int))then(⟨0,[]⟩,9)
 else bif decide (v.num=1099511627776)||decide (16<((mH v cut).length:Int)+((hd v cut).length:Int))then(⟨0,[]⟩,5)
 else(⟨IntKind.i64.wrap (v.num+1),ky (mH v cut) (hd v cut)⟩,0)
theorem DX(v:aK)(ab:v.mem.length<=500000)(cut:List Int)(al:cut.length<=500000):bq Tryz.prog 61 [.agg (cG v),.av 1 (cut.map aU) false] (.be [.agg (cG (er v cut).1),.v (.int .i64 (er v cut).2)]):=by
 have h1:v.mem.length<=maxLen:=bT ab (by decide);have ad:cut.length<=maxLen:=bT al (by decide);have aN: (mH v cut).length<=500000:=bT (Qn _ _ _ _) ab;have bs: (hd v cut).length<=500000:=bT (Qn _ _ _ _) al;have Yq:bq Tryz.prog 107 [.agg (cG v),.av 1 (cut.map aU) false] (.av 1 ((mH v cut).map aU) false):=aiD v (by omega) cut (by omega);have Yr:bq Tryz.prog 108 [.agg (cG v),.av 1 (cut.map aU) false] (.av 1 ((hd v cut).map aU) false):=Yo v (by omega) cut (by omega);have eL:IntKind.i64.wrap (2* ((mH v cut).length:Int))=2* ((mH v cut).length:Int):=dQ (by omega) (by omega);have hs:IntKind.i64.wrap (((mH v cut).length:Int)+((hd v cut).length:Int))=((mH v cut).length:Int)+((hd v cut).length:Int):=dQ (by omega) (by omega);refine fX Tryz.func61 ?_;repeat' ((conv=>whnf);first|refine bl ?_| (apply bo<;>intro h)|refine ch ?_|refine dE ?_|refine aR (q3 _ h1) ?_|refine ea (G0 _ ad) ?_|refine aR Yq ?_|refine aR Yr ?_|refine aR (aiH _ _ aN bs) ?_|fail)
 all_goals(conv=>whnf)
 all_goals clear Yq Yr
 all_goals(try simp only[bL,eL,hs]at *)
 all_goals simp only[er, *,b6,bD]
 ·exact e1 ⟨iQ ⟨.r,.ar,aj⟩,.r,aj⟩
 ·exact e1 ⟨iQ ⟨.r,.ar,aj⟩,.r,aj⟩
 ·exact e1 ⟨iQ ⟨.r,.ar,aj⟩,.r,aj⟩
 ·exact .refl
theorem aiI(n:Int):bq Tryz.prog 105 [.v (.int .i64 n)] (.v (.bool (decide (1<=n)&&decide (n<=1000)))):=by
 refine cp (fn:=Tryz.f105) (c:=Tryz.f105.body.getD .skip) az aw (by rfl) Tryz.func105 (by rfl) (by rfl) (by rfl) (by rfl) ?_;repeat' ((conv=>whnf);first|refine bl ?_|exact .refl|fail)
def Bf(l:List Int)(i:Nat):Bool:= !(!(decide (1<=l.getD i 0)&&decide (l.getD i 0<=1000))|| (decide (0<(i:Int))&&decide (l.getD i 0<=l.getD (i-1) 0)))
def xM(l:List Int):Bool:=ij (Bf l) l.length
theorem aiJ(l:List Int)(af:l.length<=maxLen):bq Tryz.prog 57 [.av 1 (l.map aU) false] (.v (.bool (xM l))):=by
 have hK:l.length<=9223372036854775807:=af;refine cp (fn:=Tryz.f57) (c:=Tryz.f57.body.getD .skip) az aw (by rfl) Tryz.func57 (by rfl) (by rfl) (by rfl) (by rfl) ?_;repeat' ((conv=>whnf);first|refine bl ?_|fail)
 refine⟨Nat,λi=>⟨[(0,.av 1 (l.map aU) false),(3,i64 i)],[]⟩,λi=>i<=l.length/\∀j,j<i->Bf l j=true,λi=>l.length-i,[],⟨0,⟨bZ _,by omega⟩,?_⟩,?_⟩
 ·exact⟨by repeat' ((conv=>whnf);first|exact trivial|refine aS (by(conv=>arg 1;whnf);first| (with_reducible exact .refl)|exact a8 (ca (by omega))|exact .refl) ?_|fail),by repeat' ((conv=>whnf);first|exact trivial|fail),rfl⟩
 ·intro i ⟨hi,cF⟩;repeat' ((conv=>whnf);first| (apply bo<;>intro h)|fail)
  ·have aB:i<l.length:=by grind
   clear h;have ax:l.getD i 0=l[i]:=by grind
   repeat' ((conv=>whnf);first|refine bl ?_|refine⟨_,_,aS ⟨rfl,du aB⟩ ?_⟩|refine aR (aiI _) ?_|refine⟨i,aU (l[i]'aB),aS ⟨⟨λh=>h,λh=>h⟩,λax=>⟨rfl,du aB⟩⟩ ?_⟩|fail)
   have an:∀ (ax: (!(decide (1<=l[i])&&decide (l[i]<=1000)))=false/\0<i),(IntKind.i64.wrap ((i:Int)-1))=((i-1:Nat):Int)/\(l.map aU)[i-1]?=some (aU (l.getD (i-1) 0)):=by
    rintro⟨_,aQ⟩;refine⟨by rw[dQ (by omega) (by omega)];omega,?_⟩
    grind
   refine⟨i-1,aU (l.getD (i-1) 0),aS ⟨⟨λh=>h,λh=>h⟩,λax=>an ?_⟩ ?_⟩
   ·grind
   repeat' ((conv=>whnf);first|refine bl ?_| (apply bo<;>intro h)|refine ch ?_|refine dE ?_|fail)
   all_goals(conv=>whnf)
   ·refine gQ ?_;have:Bf l i=false:=by simp only[Bf,ax,h];rfl
    rw[xM,tF aB this]
   ·refine⟨i+1,⟨aB,λj aq=> ?_⟩,by grind,?_⟩
    ·rcases yv.1 aq with aq|rfl
     ·grind
     ·simp only[Bf,ax,h];rfl
    ·exact⟨by repeat' ((conv=>whnf);first|exact trivial|refine aS (by(conv=>arg 1;whnf);first| (with_reducible exact .refl)|exact a8 (ca (by omega))|exact .refl) ?_|fail),by repeat' ((conv=>whnf);first|exact trivial|fail),rfl⟩
  ·have fU:¬i<l.length:=by grind
   conv=>whnf
   refine gQ ?_;rw[xM,iA.2 (λj aq=>cF j (by omega))]
variable{l:List Int}
theorem K4:xM l=true↔∀i,(h:i<l.length)->1<=l[i]/\l[i]<=1000/\(0<i->l.getD (i-1) 0<l[i]):=by
 rw[xM,iA];refine forall_congr' λi=> ?_;constructor
 ·intro h hi;have h:=h hi;have ax:l.getD i 0=l[i]:=by grind
  simp only[Bf,ax,nu,iW,mw,cq,fx,vI,ib]at h;omega
 ·intro h hi;have h:=h hi;have ax:l.getD i 0=l[i]:=by grind
  simp only[Bf,ax,nu,iW,mw,cq,fx,vI,ib];omega
theorem aiK:ij (u4 l) l.length=true↔∀i,(h:i<l.length)->(0::l).getD i 0<l[i]/\l[i]<=1000:=by
 rw[iA];refine forall_congr' λi=> ?_;constructor
 ·intro h hi;have h:=h hi;have ax:l.getD i 0=l[i]:=by grind
  simp only[u4,ax,nu,iW,ib]at h;omega
 ·intro h hi;have h:=h hi;have ax:l.getD i 0=l[i]:=by grind
  simp only[u4,ax,nu,iW,ib];omega
theorem aiL(l:List Int):xM l=ij (u4 l) l.length:=by
 rw[NI,K4,aiK];constructor
 ·grind
 ·intro h i;induction i with
  |zero=>grind
  |succ i a1=>
   grind
theorem DY(l:List Int)(m:Int):dF l m=((decide (1<=(l.length:Int))&&decide ((l.length:Int)<=m))&&xM l):=by
 rw[dF,aiL]
 grind
theorem aiM(l:List Int)(af:l.length<=maxLen)(x:Int):bq Tryz.prog 27 [.av 1 (l.map aU) false,.v (.int .i64 x)] (.v (.int .i64 (gR l x))):=by
 have hK:l.length<=9223372036854775807:=af;refine cp (fn:=Tryz.f27) (c:=Tryz.f27.body.getD .skip) az aw (by rfl) Tryz.func27 (by rfl) (by rfl) (by rfl) (by rfl) ?_;repeat' ((conv=>whnf);first|refine bl ?_|fail)
 refine⟨Nat,λi=>⟨[(0,.av 1 (l.map aU) false),(1,.v (.int .i64 x)),(5,i64 i)],[]⟩,λi=>i<=l.length/\∀j,j<i->decide (l[j]?=some x)=false,λi=>l.length-i,[],⟨0,⟨bZ _,by omega⟩,?_⟩,?_⟩
 ·exact⟨by repeat' ((conv=>whnf);first|exact trivial|refine aS (by(conv=>arg 1;whnf);first| (with_reducible exact .refl)|exact a8 (ca (by omega))|exact .refl) ?_|fail),by repeat' ((conv=>whnf);first|exact trivial|fail),rfl⟩
 ·intro i ⟨hi,cF⟩;repeat' ((conv=>whnf);first| (apply bo<;>intro h)|fail)
  ·have aB:i<l.length:=by grind
   repeat' ((conv=>whnf);first| (apply bo<;>intro h)|refine⟨_,_,aS ⟨rfl,du aB⟩ ?_⟩|fail)
   ·have ad:=h;refine a8 (wD aB ?_ cF).symm
    grind
   ·have ad:=h;conv=>whnf
    refine⟨i+1,⟨aB,λj aq=> ?_⟩,by grind,?_⟩
    ·grind
    ·exact⟨by repeat' ((conv=>whnf);first|exact trivial|refine aS (by(conv=>arg 1;whnf);first| (with_reducible exact .refl)|exact a8 (ca (by omega))|exact .refl) ?_|fail),by repeat' ((conv=>whnf);first|exact trivial|fail),rfl⟩
  ·have fU:¬i<l.length:=by grind
   conv=>whnf
   refine a8 (tE (λj aq=>cF j (by omega))).symm
theorem Ys(l:List Int)(af:l.length<=maxLen)(x:Int):bq Tryz.prog 10 [.av 1 (l.map aU) false,.v (.int .i64 x)] (.v (.bool (bP l x))):=by
 refine cp (fn:=Tryz.f10) (c:=Tryz.f10.body.getD .skip) az aw (by rfl) Tryz.func10 (by rfl) (by rfl) (by rfl) (by rfl) ?_;repeat' ((conv=>whnf);first|exact .refl|refine aR (aiM _ af _) ?_|fail)
def Qo(l:List Int):Bool:=(decide (1<=(l.length:Int))&&decide ((l.length:Int)<=16))&&xM l
theorem aiN(l:List Int):Qo l=dF l 16:=by rw[DY,Qo]
theorem aiO(l:List Int)(af:l.length<=maxLen):bq Tryz.prog 26 [.av 1 (l.map aU) false] (.v (.bool (dF l 16))):=by
 rw[<-aiN];refine cp (fn:=Tryz.f26) (c:=Tryz.f26.body.getD .skip) az aw (by rfl) Tryz.func26 (by rfl) (by rfl) (by rfl) (by rfl) ?_;repeat' ((conv=>whnf);first|refine bl ?_|refine ea (aiJ _ af) ?_|fail)
 all_goals(conv=>whnf)
 refine gQ ?_;simp only[Qo,bL]
theorem Yt(v:aK)(af:v.mem.length<=maxLen):bq Tryz.prog 8 [.agg (cG v)] (.v (.bool (b2 v))):=by
 refine cp (fn:=Tryz.f8) (c:=Tryz.f8.body.getD .skip) az aw (by rfl) Tryz.func8 (by rfl) (by rfl) (by rfl) (by rfl) ?_;repeat' ((conv=>whnf);first|refine bl ?_|exact .refl|refine ea (aiO _ af) ?_|fail)
theorem aiP{v:aK}(ab:b2 v=true):dF v.mem 16=true:=by
 simp only[b2,cq]at ab
 grind
theorem k8{v:aK}(ab:b2 v=true):1<=v.mem.length/\v.mem.length<=16:=by
 have gS:=aiP ab;rw[DY]at gS
 grind
theorem aiQ{i:Nat}(h:i<l.length):bP l l[i]=true:=by
 rcases au: (List.range l.length).find? (λj=>decide (l[j]?=some l[i]))with _|n
 ·have:=Ac.1 au i (w4.2 h)
  grind
 ·simp only[bP,gR,lv,au];rfl
theorem iR{x:Int}:bP l x=true↔x∈l:=by
 constructor
 ·intro h;rcases au: (List.range l.length).find? (λi=>decide (l[i]?=some x))with _|n
  ·simp only[bP,gR,lv,au]at h;cases h
  grind
 ·intro h;obtain⟨i,hi,rfl⟩:=fv h;exact aiQ hi
theorem K5(l:List Int):iG l l=true:=by
 simp only[iG,vP,rp];exact iA.2 (λj _=>by simp)
theorem zc{a b:List Int}:iG a b=true↔a=b:=by
 constructor
 ·intro h;simp only[iG,cq,fx,iA]at h;refine NN (by omega) λi h1 ad=> ?_
  grind
 ·rintro rfl;exact K5 a
theorem aiR{r:List ak}(h:wA ah (n+2) 22 r):∃l:List Int,r=[.av 1 (l.map aU) false]/\l.length<=maxLen:=by
 obtain⟨es,rfl,af,tA⟩:=h;obtain⟨d,rfl,_⟩:=XI (f:=aU) (Q:=λ_=>True) (λr ao=>by
  obtain⟨i,rfl,_⟩:=tA r ao;exact⟨i,rfl,aj⟩)
 exact⟨d,rfl,by grind⟩
theorem aiS{r:List ak}(h:wA ah (n+3) 24 r):∃a:aK,r=cG a/\a.mem.length<=maxLen:=by
 obtain⟨p,q,rfl,⟨DZ,rfl,_⟩,l,s,rfl,af,rfl⟩:=h;obtain⟨l,rfl,i0⟩:=aiR (n:=n) af;exact⟨⟨DZ,l⟩,rfl,i0⟩
def n2(a b:Int):Int:=bif decide (a<b)then -1 else bif decide (b<a)then 1 else 0
theorem G3(a b:Int): (n2 a b<0↔a<b)/\(n2 a b=0↔a=b)/\(n2 a b= -1\/n2 a b=0\/n2 a b=1):=by
 unfold n2
 grind
theorem aiT(a:Int):bq Tryz.prog 206 [.v (.int .u64 a)] (.v (.bool false)):=by
 refine cp (fn:=Tryz.f206) (c:=Tryz.f206.body.getD .skip) az aw (by rfl) Tryz.func206 (by rfl) (by rfl) (by rfl) (by rfl) ?_;repeat' ((conv=>whnf);first|refine bl ?_|fail)
 all_goals(conv=>whnf)
 refine gQ ?_;simp
theorem Yu(a b:Int):bq Tryz.prog 171 [.v (.int .u64 a),.v (.int .u64 b)] (.v (.int .i64 (n2 a b))):=by
 refine cp (fn:=Tryz.f171) (c:=Tryz.f171.body.getD .skip) az aw (by rfl) Tryz.func171 (by rfl) (by rfl) (by rfl) (by rfl) ?_;repeat' ((conv=>whnf);first| (apply bo<;>intro h)|refine aR (aiT _) ?_|fail)
 all_goals(conv=>whnf)
 all_goals refine a8 ?_
 all_goals simp only[n2, *,b6,bD]
def u64(n:Int):ak:=.v (.int .u64 n)
def K6(x s f:Int):Int:=IntKind.u64.wrap (bits .xor .u64 x (x.fdiv (2^ (min s.toNat 64))) *f)
def K7(x:Int):Nat->Int
 |0=>x
 |1=>K6 x 30 13787848793156543929
 |_=>K6 (K6 x 30 13787848793156543929) 27 10723151780598845931
def zd(x:Int):Int:=bits .xor .u64 (K7 x 2) ((K7 x 2).fdiv (2^ (min (31:Int).toNat 64)))
theorem aiU:bq Tryz.prog 244 [] (.agg [u64 30,u64 27,u64 31]):=by
 refine cp (fn:=Tryz.f244) (c:=Tryz.f244.body.getD .skip) az aw (by rfl) Tryz.func244 (by rfl) (by rfl) (by rfl) (by rfl) ?_;repeat' ((conv=>whnf);first|exact .refl|fail)
theorem aiV:bq Tryz.prog 245 [] (.agg [u64 13787848793156543929,u64 10723151780598845931]):=by
 refine cp (fn:=Tryz.f245) (c:=Tryz.f245.body.getD .skip) az aw (by rfl) Tryz.func245 (by rfl) (by rfl) (by rfl) (by rfl) ?_;repeat' ((conv=>whnf);first|exact .refl|fail)
theorem aiW(x:Int):bq Tryz.prog 231 [u64 x] (u64 (zd x)):=by
 refine cp (fn:=Tryz.f231) (c:=Tryz.f231.body.getD .skip) az aw (by rfl) Tryz.func231 (by rfl) (by rfl) (by rfl) (by rfl) ?_;repeat' ((conv=>whnf);first|refine aR aiU ?_|refine aR aiV ?_|fail)
 refine⟨Nat,λi=>⟨[(0,u64 (K7 x i)),(3,.aW 0 0),(4,.aW 1 0),(8,i64 i)],[.cells 285 [u64 30,u64 27,u64 31],.cells 287 [u64 13787848793156543929,u64 10723151780598845931]]⟩,λi=>i<=2,λi=>2-i,[],⟨0,bZ _,?_⟩,?_⟩
 ·exact⟨by repeat' ((conv=>whnf);first|exact trivial|refine aS (by(conv=>arg 1;whnf);first| (with_reducible exact .refl)|exact a8 (ca (by omega))|exact .refl) ?_|fail),by repeat' ((conv=>whnf);first|exact trivial|refine aS ?_ ?_|exact .refl|fail),rfl⟩
 ·intro i hi;repeat' ((conv=>whnf);first| (apply bo<;>intro h)| (refine aS ?_ ?_;focus (simp;done))|fail)
  ·have aB:i<2:=by
    grind
   clear h;have al:i=0\/i=1:=by omega
   rcases al with rfl|rfl
   ·repeat' ((conv=>whnf);first|refine ch ?_|refine⟨0,aS ⟨rfl,by decide⟩ ?_⟩|refine⟨.v (.int .u64 30),aS rfl ?_⟩|refine⟨.v (.int .u64 13787848793156543929),aS rfl ?_⟩| (refine aS ?_ ?_;focus (simp;done))|fail)
    all_goals(conv=>whnf)
    refine⟨1,by omega,by decide,?_⟩;exact⟨⟨a8 rfl,.r,.r,.r,aj⟩,⟨.r,.r,aj⟩,rfl⟩
   ·repeat' ((conv=>whnf);first|refine ch ?_|refine⟨1,aS ⟨rfl,by decide⟩ ?_⟩|refine⟨.v (.int .u64 27),aS rfl ?_⟩|refine⟨.v (.int .u64 10723151780598845931),aS rfl ?_⟩| (refine aS ?_ ?_;focus (simp;done))|fail)
    all_goals(conv=>whnf)
    refine⟨2,by omega,by decide,?_⟩;exact⟨⟨a8 rfl,.r,.r,.r,aj⟩,⟨.r,.r,aj⟩,rfl⟩
  ·have:i=2:=by
    grind
   subst this;repeat' ((conv=>whnf);first|exact .refl|fail)
   all_goals(conv=>whnf)
   all_goals trace_state
def Qp(h x:Int):Int:=zd (IntKind.u64.wrap (h+IntKind.u64.wrap (11400714819323198485*IntKind.u64.wrap (x+1))))
theorem aiX(h x:Int):bq Tryz.prog 205 [u64 h,u64 x] (u64 (Qp h x)):=by
 refine cp (fn:=Tryz.f205) (c:=Tryz.f205.body.getD .skip) az aw (by rfl) Tryz.func205 (by rfl) (by rfl) (by rfl) (by rfl) ?_;repeat' ((conv=>whnf);first|exact .refl|refine aR (aiW _) ?_|fail)
def fo(r m:Int):Int:=Qp (IntKind.u64.wrap r) (IntKind.u64.wrap m)
theorem G4(r m:Int):bq Tryz.prog 168 [i64 r,i64 m] (u64 (fo r m)):=by
 refine cp (fn:=Tryz.f168) (c:=Tryz.f168.body.getD .skip) az aw (by rfl) Tryz.func168 (by rfl) (by rfl) (by rfl) (by rfl) ?_;repeat' ((conv=>whnf);first|exact .refl|refine aR (aiX _ _) ?_|fail)
open Go.Sort (SWO)
def tL{β:Type}(cf:β->β->Int)(l:List β):List β:=l.mergeSort λx y=> !Go.Proofs.ltOf cf y x
theorem Bg{β:Type}(cf:β->β->Int)(l:List β): (tL cf l).Perm l:=NR _ _
theorem Yv{β:Type}{cf:β->β->Int}(hO:SWO (Go.Proofs.ltOf cf))(l:List β): (tL cf l).Pairwise λx y=>Go.Proofs.ltOf cf y x=false:=by
 have h:=NT (le:=λx y=> !Go.Proofs.ltOf cf y x) (λa b c h1 ad=>by
  simp only[nu]at *;exact hO.ntrans _ _ _ ad h1) (λa b=>by
  cases h:Go.Proofs.ltOf cf b a
  ·simp
  ·cases ad:Go.Proofs.ltOf cf a b
   ·simp
   ·have:=hO.trans _ _ _ h ad;rw[hO.irrefl]at this
    grind) l
 exact h.imp λh=>by grind
theorem u5{β:Type}{cf:β->β->Int}{l:List β}{x:β}:x∈tL cf l↔x∈l:=(Bg cf l).mem_iff
theorem G5{β:Type}(cf:β->β->Int)(l:List β): (tL cf l).length=l.length:=(Bg cf l).length_eq
theorem aiY(l:List Int)(af:l.length<=maxLen)(x:Int):bq Tryz.prog 185 [.av 1 (l.map aU) false,.v (.int .i64 x)] (.v (.int .i64 (gR l x))):=by
 have hK:l.length<=9223372036854775807:=af;refine cp (fn:=Tryz.f185) (c:=Tryz.f185.body.getD .skip) az aw (by rfl) Tryz.func185 (by rfl) (by rfl) (by rfl) (by rfl) ?_;repeat' ((conv=>whnf);first|refine bl ?_|fail)
 refine⟨Nat,λi=>⟨[(0,.av 1 (l.map aU) false),(1,.v (.int .i64 x)),(7,i64 l.length),(8,i64 i)],[]⟩,λi=>i<=l.length/\∀j,j<i->decide (l[j]?=some x)=false,λi=>l.length-i,[],⟨0,⟨bZ _,by omega⟩,?_⟩,?_⟩
 ·exact⟨⟨.r,.r,a8 (by simp),.r,aj⟩,aj,rfl⟩
 ·intro i ⟨hi,cF⟩;repeat' ((conv=>whnf);first| (apply bo<;>intro h)|fail)
  ·have aB:i<l.length:=by grind
   repeat' ((conv=>whnf);first| (apply bo<;>intro h)|refine⟨_,_,aS ⟨rfl,du aB⟩ ?_⟩|fail)
   ·have ad:=h;refine a8 (wD aB ?_ cF).symm
    grind
   ·have ad:=h;conv=>whnf
    refine⟨i+1,⟨aB,λj aq=> ?_⟩,by grind,?_⟩
    ·grind
    ·exact⟨by repeat' ((conv=>whnf);first|exact trivial|refine aS (by(conv=>arg 1;whnf);first| (with_reducible exact .refl)|exact a8 (ca (by omega))|exact .refl) ?_|fail),by repeat' ((conv=>whnf);first|exact trivial|fail),rfl⟩
  ·have fU:¬i<l.length:=by grind
   conv=>whnf
   refine a8 (tE (λj aq=>cF j (by omega))).symm
theorem Yw(l:List Int)(af:l.length<=maxLen)(x:Int):bq Tryz.prog 122 [.av 1 (l.map aU) false,.v (.int .i64 x)] (.v (.bool (bP l x))):=by
 refine cp (fn:=Tryz.f122) (c:=Tryz.f122.body.getD .skip) az aw (by rfl) Tryz.func122 (by rfl) (by rfl) (by rfl) (by rfl) ?_;repeat' ((conv=>whnf);first|exact .refl|refine aR (aiY _ af _) ?_|fail)
theorem aiZ:xM l=true↔l.Pairwise (· < ·)/\∀x∈l,1<=x/\x<=1000:=by
 rw[K4];constructor
 ·intro h;have auF:∀i (hi:i+1<l.length),l[i]<l[i+1]:=λi hi=>by
   grind
  refine⟨?_,λx ag=> ?_⟩
  ·rw[my];intro i j hi aq fV;have key:∀d (aa:i+(d+1)<l.length),l[i]<l[i+(d+1)]:=by
    intro d;induction d with
    |zero=>grind
    |succ d a1=>
     grind
   have:=key (j-i-1) (by omega);simpa[show i+(j-i-1+1)=j by omega]using this
  ·obtain⟨i,hi,rfl⟩:=fv ag
   grind
 ·intro ⟨h1,ad⟩ i hi;have:=ad _ (eD hi);refine⟨this.1,this.2,λaQ=> ?_⟩;have aN:=my.1 h1 (i-1) i (by omega) hi (by omega)
  grind
theorem nE{m:Int}:dF l m=true↔ (1<=(l.length:Int)/\(l.length:Int)<=m)/\l.Pairwise (· < ·)/\∀x∈l,1<=x/\x<=1000:=by
 rw[DY];simp only[cq,fx,aiZ]
theorem G6(h:l.Pairwise (· < ·)):l.Nodup:=h.imp (λh=>by omega)
theorem ze(n:Int):IntKind.u64.wrap n=n%18446744073709551616:=by
 rfl
theorem sE(n:Int):0<=IntKind.u64.wrap n/\IntKind.u64.wrap n<18446744073709551616:=by
 rw[ze];omega
theorem kc{n:Int}(h1:0<=n)(ad:n<18446744073709551616):IntKind.u64.wrap n=n:=by
 rw[ze];omega
def xs(s x:Nat):Nat:=x^^^ (x>>>s)
theorem D0{s x:Nat}(h:x<2^64):xs s x<2^64:=by
 unfold xs;refine Nat.xor_lt_two_pow h ?_;rw[N0];exact NZ (Nat.div_le_self _ _) h
theorem Qq{s x y:Nat}(ae:0<s)(ag:x<2^64)(bk:y<2^64)(h:xs s x=xs s y):x=y:=by
 have key:∀d i,i+d=64\/64<=i->x.testBit i=y.testBit i:=by
  intro d;induction d using Nat.strongRecOn with
  |ind d a1=>
   intro i hi;rcases mX i 64 with eK|eK
   ·have ac:=e7 (λn=>n.testBit i) h;simp only[xs,Nat.testBit_xor,Nat.testBit_shiftRight]at ac;have aV:x.testBit (s+i)=y.testBit (s+i):=by
     rcases mX (s+i) 64 with jj|jj
     ·exact a1 (64- (s+i)) (by omega) (s+i) (.inl (by omega))
     ·exact a1 0 (by omega) (s+i) (.inr jj)
    grind
   ·rw[U0 (Ag ag (Je (by decide) eK)),U0 (Ag bk (Je (by decide) eK))]
 refine Nat.eq_of_testBit_eq λi=> ?_;rcases mX i 64 with eK|eK
 ·exact key (64-i) i (.inl (by omega))
 ·exact key 0 i (.inr eK)
variable{x:Nat}
theorem Qr(h:x<2^64)(s:Nat):bits .xor .u64 (x:Int) ((x:Int).fdiv (2^s))=((xs s x:Nat):Int):=by
 have aa: (x:Int).fdiv (2^s)=((x>>>s:Nat):Int):=by
  rw[UI _ (Int.pow_nonneg (by decide)),N0];rfl
 rw[aa];have ad:x>>>s<2^64:=by
  rw[N0];exact NZ (Nat.div_le_self _ _) h
 have e: (BitVec.ofInt 64 (x:Int)^^^BitVec.ofInt 64 ((x>>>s:Nat):Int)).toNat=xs s x:=by
  rw[BitVec.toNat_xor,Ff,Ff,Fg,Fg,se h,se ad];rfl
 show IntKind.u64.wrap ((BitVec.ofInt 64 (x:Int)^^^BitVec.ofInt 64 ((x>>>s:Nat):Int)).toNat:Int)=_;rw[e];have:=D0 (s:=s) h;exact kc (by omega) (by omega)
theorem Qs{c ci a b:Int}(al:c*ci%18446744073709551616=1)(bb:0<=a/\a<18446744073709551616)(ac:0<=b/\b<18446744073709551616)(h:IntKind.u64.wrap (a*c)=IntKind.u64.wrap (b*c)):a=b:=by
 rw[ze,ze]at h;have h1: (a*c*ci)%18446744073709551616=(b*c*ci)%18446744073709551616:=by
  rw[IZ,h,<-IZ]
 rw[Int.mul_assoc,Int.mul_assoc,IZ a,IZ b,al]at h1;omega
def G7(x:Nat):Nat:=xs 31 ((IntKind.u64.wrap ((xs 27 ((IntKind.u64.wrap ((xs 30 x:Nat) *13787848793156543929)).toNat):Nat) *10723151780598845931)).toNat)
theorem D1(n:Int): (((IntKind.u64.wrap n).toNat:Nat):Int)=IntKind.u64.wrap n:=Int.toNat_of_nonneg (sE n).1
theorem xN(n:Int): (IntKind.u64.wrap n).toNat<2^64:=by
 have:=sE n;omega
theorem Qt(h:x<2^64):zd (x:Int)=((G7 x:Nat):Int):=by
 have ai0:min (30:Int).toNat 64=30:=rfl;have ai1:min (27:Int).toNat 64=27:=rfl;have ai2:min (31:Int).toNat 64=31:=rfl;unfold zd;simp only[K7,K6,ai0,ai1,ai2];rw[Qr h];rw[<-D1 ((xs 30 x:Nat) *13787848793156543929)];rw[Qr (xN _)];rw[<-D1 (((xs 27 _:Nat):Int) *10723151780598845931)];rw[Qr (xN _)];rfl
theorem ai3{y:Nat}(ag:x<2^64)(bk:y<2^64)(h:G7 x=G7 y):x=y:=by
 unfold G7 at h;have h1:=Qq (by decide) (xN _) (xN _) h;have ad:IntKind.u64.wrap (((xs 27 ((IntKind.u64.wrap ((xs 30 x:Nat) *13787848793156543929)).toNat):Nat):Int) *10723151780598845931)=IntKind.u64.wrap (((xs 27 ((IntKind.u64.wrap ((xs 30 y:Nat) *13787848793156543929)).toNat):Nat):Int) *10723151780598845931):=by
  rw[<-D1,<-D1 (((xs 27 ((IntKind.u64.wrap ((xs 30 y:Nat) *13787848793156543929)).toNat):Nat):Int) *10723151780598845931),h1]
 have cX:=D0 (s:=27) (xN ((xs 30 x:Nat) *13787848793156543929));have c0:=D0 (s:=27) (xN ((xs 30 y:Nat) *13787848793156543929));have aN:=Qs (ci:=3573116690164977347) (by decide) (by omega) (by omega) ad;have bs:=Qq (by decide) (xN _) (xN _) (NL.1 aN);have cm:IntKind.u64.wrap (((xs 30 x:Nat):Int) *13787848793156543929)=IntKind.u64.wrap (((xs 30 y:Nat):Int) *13787848793156543929):=by
  rw[<-D1,<-D1 (((xs 30 y:Nat):Int) *13787848793156543929),bs]
 have iu:=D0 (s:=30) ag;have ly:=D0 (s:=30) bk;have eK:=Qs (ci:=10871156337175269513) (by decide) (by omega) (by omega) cm;exact Qq (by decide) ag bk (NL.1 eK)
variable{a:Int}
theorem ai4(h1:0<=a)(ad:a<18446744073709551616):0<=zd a/\zd a<18446744073709551616:=by
 obtain⟨x,rfl⟩:=p5 h1;have:=Qt (x:=x) (by omega);have aN:G7 x<2^64:=D0 (xN _);omega
theorem ai5{b:Int}(h1:0<=a)(ad:a<18446744073709551616)(aN:0<=b)(bs:b<18446744073709551616)(h:zd a=zd b):a=b:=by
 obtain⟨x,rfl⟩:=p5 h1;obtain⟨y,rfl⟩:=p5 aN;rw[Qt (x:=x) (by omega),Qt (x:=y) (by omega)]at h;rw[ai3 (by omega) (by omega) (NL.1 h)]
theorem zf(r m:Int):0<=fo r m/\fo r m<18446744073709551616:=ai4 (sE _).1 (sE _).2
theorem Qu{r a b:Int}(bb:1<=a/\a<=1000)(ac:1<=b/\b<=1000)(h:fo r a=fo r b):a=b:=by
 unfold fo Qp at h;have h1:=ai5 (sE _).1 (sE _).2 (sE _).1 (sE _).2 h;rw[kc (n:=a) (by omega) (by omega),kc (n:=b) (by omega) (by omega),kc (n:=a+1) (by omega) (by omega),kc (n:=b+1) (by omega) (by omega)]at h1;have dL:=sE (11400714819323198485* (a+1));have dW:=sE (11400714819323198485* (b+1));have ad:IntKind.u64.wrap (11400714819323198485* (a+1))=IntKind.u64.wrap (11400714819323198485* (b+1)):=by
  generalize IntKind.u64.wrap (11400714819323198485* (a+1))=p at *;generalize IntKind.u64.wrap (11400714819323198485* (b+1))=q at *;have ai6:=sE r;generalize IntKind.u64.wrap r=R at h1 ai6;rw[ze (R+p),ze (R+q)]at h1;omega
 rw[Int.mul_comm,Int.mul_comm 11400714819323198485]at ad;have:=Qs (ci:=17428512612931826493) (by decide) (by omega) (by omega) ad;omega
end Go.Proofs.YtdcfooeoaoahjaaGreat
namespace Go.Proofs
open Go.Shelf
def Tryz.ai7:Go.Shelf.Ren:=⟨fun|6=>223|15=>173|14=>242|28=>216|29=>217|20=>247|21=>248|22=>249|23=>250|24=>251|25=>252|26=>253|27=>254|46=>255|47=>233|48=>234|49=>256|50=>257|57=>258|n=>n,fun|22=>22|24=>3|25=>231|3=>3|39=>57|0=>0|53=>92|55=>34|4=>4|46=>256|45=>255|50=>260|5=>5|9=>9|66=>274|70=>278|76=>289|77=>290|n=>n,fun|n=>n⟩
theorem Tryz.Qv:Go.Proofs.SlLaysF.n6 Tryz.prog Tryz.ai7:={
 mixed:=by rfl
 f6:=⟨Tryz.f223.name,by decide,Tryz.func223.trans (e7 some (by rfl))⟩
 f14:=⟨Tryz.f242.name,by decide,Tryz.func242.trans (e7 some (by rfl))⟩
 f15:=Tryz.func173.trans (e7 some (by rfl))
 f20:=⟨Tryz.f247.name,by decide,Tryz.func247.trans (e7 some (by rfl))⟩
 f21:=⟨Tryz.f248.name,by decide,Tryz.func248.trans (e7 some (by rfl))⟩
 f22:=⟨Tryz.f249.name,by decide,Tryz.func249.trans (e7 some (by rfl))⟩
 f23:=⟨Tryz.f250.name,by decide,Tryz.func250.trans (e7 some (by rfl))⟩
 f24:=⟨Tryz.f251.name,by decide,Tryz.func251.trans (e7 some (by rfl))⟩
 f25:=⟨Tryz.f252.name,by decide,Tryz.func252.trans (e7 some (by rfl))⟩
 f26:=⟨Tryz.f253.name,by decide,Tryz.func253.trans (e7 some (by rfl))⟩
 f27:=⟨Tryz.f254.name,by decide,Tryz.func254.trans (e7 some (by rfl))⟩
 f28:=Tryz.func216.trans (e7 some (by rfl))
 f29:=Tryz.func217.trans (e7 some (by rfl))
 f46:=⟨Tryz.f255.name,by decide,Tryz.func255.trans (e7 some (by rfl))⟩
 f47:=Tryz.func233.trans (e7 some (by rfl))
 f48:=Tryz.func234.trans (e7 some (by rfl))
 f49:=⟨Tryz.f256.name,by decide,Tryz.func256.trans (e7 some (by rfl))⟩
 f50:=⟨Tryz.f257.name,by decide,Tryz.func257.trans (e7 some (by rfl))⟩
 f57:=⟨Tryz.f258.name,by decide,Tryz.func258.trans (e7 some (by rfl))⟩
 t0:=Tryz.underlying0
 a0:=Tryz.isAgg0
 z0:=Tryz.sizeOf0
 v0:=Tryz.zeroValue0
 t3:=Tryz.underlying3
 a3:=Tryz.isAgg3
 z3:=Tryz.sizeOf3
 v3:=Tryz.zeroValue3
 t4:=Tryz.underlying4
 a4:=Tryz.isAgg4
 z4:=Tryz.sizeOf4
 v4:=Tryz.zeroValue4
 t5:=Tryz.underlying5
 a5:=Tryz.isAgg5
 z5:=Tryz.sizeOf5
 v5:=Tryz.zeroValue5
 t9:=Tryz.underlying9
 a9:=Tryz.isAgg9
 z9:=Tryz.sizeOf9
 v9:=Tryz.zeroValue9
 t22:=Tryz.underlying22
 a22:=Tryz.isAgg22
 z22:=Tryz.sizeOf22
 v22:=Tryz.zeroValue22
 a24:=Tryz.isAgg3
 z24:=Tryz.sizeOf3
 t25:=Tryz.underlying231
 a25:=Tryz.isAgg231
 z25:=Tryz.sizeOf231
 v25:=Tryz.zeroValue231
 t39:=Tryz.underlying57
 a39:=Tryz.isAgg57
 z39:=Tryz.sizeOf57
 v39:=Tryz.zeroValue57
 t45:=Tryz.underlying255
 a45:=Tryz.isAgg255
 z45:=Tryz.sizeOf255
 v45:=Tryz.zeroValue255
 t46:=Tryz.underlying256
 a46:=Tryz.isAgg256
 z46:=Tryz.sizeOf256
 v46:=Tryz.zeroValue256
 t50:=Tryz.underlying260
 a50:=Tryz.isAgg260
 z50:=Tryz.sizeOf260
 v50:=Tryz.zeroValue260
 t53:=Tryz.underlying92
 a53:=Tryz.isAgg92
 z53:=Tryz.sizeOf92
 v53:=Tryz.zeroValue92
 t55:=Tryz.underlying34
 a55:=Tryz.isAgg34
 z55:=Tryz.sizeOf34
 v55:=Tryz.zeroValue34
 t66:=Tryz.underlying274
 a66:=Tryz.isAgg274
 z66:=Tryz.sizeOf274
 v66:=Tryz.zeroValue274
 t70:=Tryz.underlying278
 a70:=Tryz.isAgg278
 z70:=Tryz.sizeOf278
 v70:=Tryz.zeroValue278
 t76:=Tryz.underlying289
 a76:=Tryz.isAgg289
 z76:=Tryz.sizeOf289
 v76:=Tryz.zeroValue289
 t77:=Tryz.underlying290
 a77:=Tryz.isAgg290
 z77:=Tryz.sizeOf290
 v77:=Tryz.zeroValue290}
def Tryz.ai8:Go.Shelf.Ren:=⟨fun|189=>101|125=>173|257=>172|128=>216|129=>217|294=>207|295=>208|296=>209|297=>210|298=>211|299=>212|216=>213|300=>214|301=>215|328=>232|329=>233|330=>234|331=>235|332=>236|215=>237|343=>246|n=>n,fun|28=>22|3=>3|46=>57|0=>0|51=>92|53=>34|4=>4|183=>256|182=>255|131=>260|5=>5|9=>9|218=>274|222=>278|228=>289|229=>290|n=>n,fun|n=>n⟩
theorem Tryz.pK:Go.Proofs.Lays.n189 Tryz.prog Tryz.ai8:={
 mixed:=by rfl
 f125:=Tryz.func173.trans (e7 some (by rfl))
 f128:=Tryz.func216.trans (e7 some (by rfl))
 f129:=Tryz.func217.trans (e7 some (by rfl))
 f189:=Tryz.func101.trans (e7 some (by rfl))
 f215:=Tryz.func237.trans (e7 some (by rfl))
 f216:=Tryz.func213.trans (e7 some (by rfl))
 f257:=Tryz.func172.trans (e7 some (by rfl))
 f294:=Tryz.func207.trans (e7 some (by rfl))
 f295:=Tryz.func208.trans (e7 some (by rfl))
 f296:=Tryz.func209.trans (e7 some (by rfl))
 f297:=Tryz.func210.trans (e7 some (by rfl))
 f298:=Tryz.func211.trans (e7 some (by rfl))
 f299:=Tryz.func212.trans (e7 some (by rfl))
 f300:=Tryz.func214.trans (e7 some (by rfl))
 f301:=Tryz.func215.trans (e7 some (by rfl))
 f328:=Tryz.func232.trans (e7 some (by rfl))
 f329:=Tryz.func233.trans (e7 some (by rfl))
 f330:=Tryz.func234.trans (e7 some (by rfl))
 f331:=Tryz.func235.trans (e7 some (by rfl))
 f332:=Tryz.func236.trans (e7 some (by rfl))
 f343:=Tryz.func246.trans (e7 some (by rfl))
 t0:=Tryz.underlying0
 a0:=Tryz.isAgg0
 z0:=Tryz.sizeOf0
 v0:=Tryz.zeroValue0
 t3:=Tryz.underlying3
 a3:=Tryz.isAgg3
 z3:=Tryz.sizeOf3
 v3:=Tryz.zeroValue3
 t4:=Tryz.underlying4
 a4:=Tryz.isAgg4
 z4:=Tryz.sizeOf4
 v4:=Tryz.zeroValue4
 t5:=Tryz.underlying5
 a5:=Tryz.isAgg5
 z5:=Tryz.sizeOf5
 v5:=Tryz.zeroValue5
 t9:=Tryz.underlying9
 a9:=Tryz.isAgg9
 z9:=Tryz.sizeOf9
 v9:=Tryz.zeroValue9
 t28:=Tryz.underlying22
 a28:=Tryz.isAgg22
 z28:=Tryz.sizeOf22
 v28:=Tryz.zeroValue22
 t46:=Tryz.underlying57
 a46:=Tryz.isAgg57
 z46:=Tryz.sizeOf57
 v46:=Tryz.zeroValue57
 t51:=Tryz.underlying92
 a51:=Tryz.isAgg92
 z51:=Tryz.sizeOf92
 v51:=Tryz.zeroValue92
 t53:=Tryz.underlying34
 a53:=Tryz.isAgg34
 z53:=Tryz.sizeOf34
 v53:=Tryz.zeroValue34
 t131:=Tryz.underlying260
 a131:=Tryz.isAgg260
 z131:=Tryz.sizeOf260
 v131:=Tryz.zeroValue260
 t182:=Tryz.underlying255
 a182:=Tryz.isAgg255
 z182:=Tryz.sizeOf255
 v182:=Tryz.zeroValue255
 t183:=Tryz.underlying256
 a183:=Tryz.isAgg256
 z183:=Tryz.sizeOf256
 v183:=Tryz.zeroValue256
 t218:=Tryz.underlying274
 a218:=Tryz.isAgg274
 z218:=Tryz.sizeOf274
 v218:=Tryz.zeroValue274
 t222:=Tryz.underlying278
 a222:=Tryz.isAgg278
 z222:=Tryz.sizeOf278
 v222:=Tryz.zeroValue278
 t228:=Tryz.underlying289
 a228:=Tryz.isAgg289
 z228:=Tryz.sizeOf289
 v228:=Tryz.zeroValue289
 t229:=Tryz.underlying290
 a229:=Tryz.isAgg290
 z229:=Tryz.sizeOf290
 v229:=Tryz.zeroValue290}
def Tryz.ai9:Go.Shelf.Ren:=⟨fun|20=>102|n=>n,fun|22=>22|3=>3|4=>4|0=>0|n=>n,fun|n=>n⟩
theorem Tryz.n2:Go.Proofs.Lays2.n20 Tryz.prog Tryz.ai9:={
 mixed:=by rfl
 f20:=Tryz.func102.trans (e7 some (by rfl))
 t0:=Tryz.underlying0
 a0:=Tryz.isAgg0
 z0:=Tryz.sizeOf0
 v0:=Tryz.zeroValue0
 t3:=Tryz.underlying3
 a3:=Tryz.isAgg3
 z3:=Tryz.sizeOf3
 v3:=Tryz.zeroValue3
 t4:=Tryz.underlying4
 a4:=Tryz.isAgg4
 z4:=Tryz.sizeOf4
 v4:=Tryz.zeroValue4
 t22:=Tryz.underlying22
 a22:=Tryz.isAgg22
 z22:=Tryz.sizeOf22
 v22:=Tryz.zeroValue22
 i3:=by rfl}
end Go.Proofs
namespace Go.Proofs.YtdcfooeoaoahjaaGreat
open Go.Lift
open Go.Sort (SWO)
def oE(r a b:Int):Int:=n2 (fo r a) (fo r b)
theorem Qw(r:Int):SWO (Go.Proofs.ltOf (oE r)) where
 irrefl x:=by
  have:=(G3 (fo r x) (fo r x)).1;simp only[Go.Proofs.ltOf,oE,ib,this];omega
 trans x y z h1 ad:=by
  simp only[Go.Proofs.ltOf,oE,fx,(G3 _ _).1]at *;omega
 ntrans x y z h1 ad:=by
  simp only[Go.Proofs.ltOf,oE,ib,(G3 _ _).1]at *;omega
theorem Yx(r a b:Int):Go.Proofs.ltOf (oE r) a b=decide (fo r a<fo r b):=by
 simp only[Go.Proofs.ltOf,oE,(G3 _ _).1]
variable{r a:Int}
theorem aja{b:Int}(bb:1<=a/\a<=1000)(ac:1<=b/\b<=1000)(h1:Go.Proofs.ltOf (oE r) a b=false)(ad:Go.Proofs.ltOf (oE r) b a=false):a=b:=by
 rw[Yx,ib]at h1 ad;have h:fo r a=fo r b:=by omega
 exact Qu bb ac h
theorem pa(l:List Int)(af:l.length<=1000000):bq Tryz.prog 46 [.av 1 (l.map aU) false] (.av 1 (l.map aU) false):=by
 refine cp (fn:=Tryz.f46) (c:=Tryz.f46.body.getD .skip) az aw (by rfl) Tryz.func46 (by rfl) (by rfl) (by rfl) (by rfl) ?_;repeat' ((conv=>whnf);first|refine bl ?_|fail)
 refine aS (λow=> ?_) ?_
 ·repeat' ((conv=>whnf);first|refine bl ?_|fail)
  all_goals(conv=>whnf)
  rw[ow];exact .ar
 ·repeat' ((conv=>whnf);first|refine bl ?_|fail)
  all_goals(conv=>whnf)
  refine aS (qo (by grind)) ?_;repeat' ((conv=>whnf);first|exact .refl|fail)
theorem Yy(l:List Int)(af:l.length<=1000000)(bx:l≠ []):cj Tryz.prog 46 [] [.av 1 (l.map aU) false] [] [.row 3 1 (l.map aU)] (.own 0):=by
 refine ik (fn:=Tryz.f46) (c:=Tryz.f46.body.getD .skip) az aw (by rfl) Tryz.func46 (by rfl) (by rfl) (by rfl) (by rfl) (by rfl) ?_;repeat' ((conv=>whnf);first|refine bl ?_|fail)
 refine aS (λow=> ?_) ?_
 ·simp_all
 ·repeat' ((conv=>whnf);first|refine bl ?_|fail)
  all_goals(conv=>whnf)
  refine aS (qo (by grind)) ?_;repeat' ((conv=>whnf);first|refine bl ?_|fail)
  all_goals(conv=>whnf)
  exact⟨.r,⟨.r,aj⟩,by rfl⟩
theorem ajb(r a b:Int):bq Tryz.prog 224 [i64 a,i64 b,.da [i64 r]] (i64 (oE r a b)):=by
 unfold oE;refine cp (fn:=Tryz.f224) (c:=Tryz.f224.body.getD .skip) az aw (by rfl) Tryz.func224 (by rfl) (by rfl) (by rfl) (by rfl) ?_;repeat' ((conv=>whnf);first|exact .refl|refine ch ?_|refine aR (G4 _ _) ?_|refine aR (Yu _ _) ?_|fail)
theorem ajc(r:Int)(l:List Int)(af:l.length<=1000000)(ac:∀x∈l,1<=x/\x<=1000):cj Tryz.prog 223 [.row 3 1 (l.map aU)] [.own 0,.fn (.func 224) [.da [i64 r]]] [true] [.row 3 1 ((tL (oE r) l).map aU)] (.be []):=
 ah6 (agg:=false) (λvs w=>Tryz.Qv.f6.enters rfl vs w) (ah2 Tryz.Qv _) (λp cap Qg w=>AnyF.slices_SortFunc_none {Tryz.Qv with} p cap Qg w)
  aU l (tL (oE r) l) (oE r) (Qw r) (λx ag y bk=>aja (ac x ag) (ac y bk)) (Bg _ _) (Yv (Qw r) _) (by omega) [.da [i64 r]] (λd aa=>by simp at aa;subst aa;rfl) (λ_=>rfl) (λx _ y _=>ajb r x y)
def hf(ms:List Int)(r:Int):List Int:=bif !dF ms 16||decide (r<0)||decide (5<=r)then []else tL (oE r) ms
variable{ms:List Int}
theorem Bh{r:Int}(h:dF ms 16=true)(h1:0<=r)(ad:r<5):hf ms r=tL (oE r) ms:=by
 have aA:decide (r<0)=false:=c5 (by omega);have aG:decide (5<=r)=false:=c5 (by omega);simp only[hf,h,aA,aG,kZ,Aa,bD]
theorem ajd(ms:List Int)(af:ms.length<=maxLen)(r:Int):bq Tryz.prog 187 [.av 1 (ms.map aU) false,i64 r] (.av 1 ((hf ms r).map aU) false):=by
 have aA:=zb ms af;have aH:hf ms r=bif !dF ms 16||decide (r<0)||decide (5<=r)then []else tL (oE r) ms:=rfl;refine cp (fn:=Tryz.f187) (c:=Tryz.f187.body.getD .skip) az aw (by rfl) Tryz.func187 (by rfl) (by rfl) (by rfl) (by rfl) ?_;repeat' ((conv=>whnf);first|refine bl ?_| (apply bo<;>intro h)|refine aR aA ?_|fail)
 all_goals(conv=>whnf)
 ·rw[aH,h];exact .ar
 ·have ab:dF ms 16=true:=by
   grind
  have hv:=(nE.1 ab)
  rw[h,bD]at aH;have Qx:=ajc r ms (by omega) hv.2.2;rw[<-aH]at Qx;generalize hf ms r=O at Qx;have ix:=Yy ms (by omega) (by grind);repeat' ((conv=>whnf);first|exact .refl|refine .inr ⟨[],bO ix ?_⟩|refine .inr ⟨[1],bO Qx ?_⟩|fail)
def sF(o:List Int)(id:Int):Int:=o.getD (((gR o id).toNat+1)%o.length) 0
def rP(ms:List Int)(id:Int)(i:Nat):List Int:=(List.range i).map λ(r:Nat)=>sF (hf ms r) id
def hC(ms:List Int)(id:Int):List Int:=bif !dF ms 16|| !bP ms id||decide ((ms.length:Int)=1)then []else rP ms id 5
variable{l:List Int}{x:Int}
theorem aje(h:x∈l):∃k:Nat,gR l x=k/\k<l.length:=by
 rcases au: (List.range l.length).find? (λi=>decide (l[i]?=some x))with _|n
 ·obtain⟨i,hi,rfl⟩:=fv h;have:=Ac.1 au i (w4.2 hi)
  grind
 ·refine⟨n,by simp only[gR,lv,au],?_⟩
  grind
theorem Yz{id:Int}(h: (!dF ms 16|| !bP ms id||decide ((ms.length:Int)=1))=true):hC ms id=[]:=by
 simp only[hC,h,b6]
theorem YA{id:Int}(h: (!dF ms 16|| !bP ms id||decide ((ms.length:Int)=1))=false):dF ms 16=true/\bP ms id=true/\(2<=ms.length/\ms.length<=16)/\hC ms id=rP ms id 5:=by
 have bp:=h;simp only[iW,mw,ib]at bp;have:=(nE.1 bp.1.1).1;exact⟨bp.1.1,bp.1.2,by omega,by simp only[hC,h,bD]⟩
theorem ajf(ms:List Int)(af:ms.length<=maxLen)(id:Int):bq Tryz.prog 124 [.av 1 (ms.map aU) false,i64 id] (.av 1 ((hC ms id).map aU) false):=by
 have aA:=zb ms af;have aG:=jt ms af id;refine cp (fn:=Tryz.f124) (c:=Tryz.f124.body.getD .skip) az aw (by rfl) Tryz.func124 (by rfl) (by rfl) (by rfl) (by rfl) ?_;repeat' ((conv=>whnf);first|refine bl ?_| (apply bo<;>intro h)|refine dE ?_|refine aR aA ?_|refine ea aG ?_|fail)
 all_goals(conv=>whnf)
 ·rw[bL]at h;rw[Yz h];exact .ar
 ·rw[bL]at h;obtain⟨ab,cS,hlen,cJ⟩:=YA h;clear h;refine⟨Nat,λi=>⟨[(0,.av 1 (ms.map aU) false),(1,i64 id),(5,.own 0),(22,i64 i)],[.row 3 1 ((rP ms id i).map aU)]⟩,λi=>i<=5,λi=>5-i,[.h4 5 3 1],⟨0,bZ _,?_⟩,?_⟩
  ·exact⟨by repeat' ((conv=>whnf);first|exact trivial|refine aS (by(conv=>arg 1;whnf);first| (with_reducible exact .refl)|exact a8 (ca (by omega))|exact .refl) ?_|fail),by repeat' ((conv=>whnf);first|exact trivial|refine aS ?_ ?_|exact .refl|fail),rfl⟩
  ·intro i hi;repeat' ((conv=>whnf);first| (apply bo<;>intro h)|fail)
   ·have aB:i<5:=by
     grind
    clear h;have aH:=Bh (ms:=ms) (r:=(i:Nat)) ab (by omega) (by omega);have oC: (hf ms (i:Nat)).length=ms.length:=by rw[aH,G5]
    have G8:id∈hf ms (i:Nat):=by rw[aH,u5];exact iR.1 cS
    have YB:=ajd ms af (i:Nat);have D3:rP ms id (i+1)=rP ms id i++ [sF (hf ms (i:Nat)) id]:=by
     unfold rP;rw[CN,ew];rfl
    have u6: (rP ms id i).length=i:=by simp[rP]
    generalize hf ms (i:Nat)=O at oC G8 YB D3;have oF:=G2 O (by omega) id;obtain⟨k,hk,hS⟩:=aje G8;rw[hk]at oF;have ao: (k+1)%O.length<O.length:=uw _ (by omega);have bx: ((O.map aU).length:Int)≠0:=by
     grind
    have kv:Int.tmod (IntKind.i64.wrap ((k:Int)+1)) ((O.map aU).length:Int)=(((k+1)%O.length:Nat):Int):=by
     rw[dQ (by omega) (by omega),bL];rfl
    have ax:sF O id=O[(k+1)%O.length]:=by
     simp only[sF,hk,l6]
     grind
    repeat' ((conv=>whnf);first|refine aR YB ?_|refine aR oF ?_|refine aS bx ?_|refine⟨(k+1)%O.length,_,aS ⟨kv,du ao⟩ ?_⟩|fail)
    all_goals(conv=>whnf)
    refine aS (qo (by grind)) ?_;repeat' ((conv=>whnf);first|refine bl ?_|fail)
    all_goals(conv=>whnf)
    refine⟨i+1,aB,by grind,?_⟩;refine⟨⟨.r,.r,.r,a8 (ca (by omega)),aj⟩,⟨cM ?_,aj⟩,rfl⟩;rw[D3,ax,ew];rfl
   ·have:i=5:=by
     grind
    subst this;clear h;conv=>whnf
    rw[cJ];exact .refl
theorem K8{r:Int}(ab:dF ms 16=true)(h1:0<=r)(ad:r<5): (hf ms r).Pairwise λa b=>fo r a<fo r b:=by
 rw[Bh ab h1 ad];have ac:=(nE.1 ab).2.2;have aV: (tL (oE r) ms).Nodup:=(Bg _ _).nodup_iff.2 (G6 (nE.1 ab).2.1);have ae:=Yv (Qw r) ms;refine(my.2 λi j hi aq fV=> ?_);have aN:=my.1 ae i j hi aq fV;rw[Yx,ib]at aN;have bx: (tL (oE r) ms)[i]≠ (tL (oE r) ms)[j]:=(my.1 aV) i j hi aq fV;have bb:=ac _ (u5.1 (eD hi));have uN:=ac _ (u5.1 (eD aq));rcases NK (Int.not_lt.1 aN)with h|h
 ·exact h
 ·exact absurd (Qu bb uN h) bx
def u7(r:Int)(O:List Int)(x:Int):Nat->Int
 |0=>O.getD (O.length-1) 0
 |i+1=>if fo r (O.getD i 0)<fo r x then O.getD i 0 else u7 r O x i
theorem Qy{r:Int}{O:List Int}(an:O.Pairwise λa b=>fo r a<fo r b){k:Nat}(hk:k<O.length):∀i,i<=O.length->u7 r O O[k] i=O.getD (if i=0\/k=0 then O.length-1 else min i k-1) 0
 |0,_=>by rfl
 |i+1,hi=>by
  have a1:=Qy an hk i (by omega);have ek:i<O.length:=by omega
  have ax:O.getD i 0=O[i]:=by grind
  have aB:fo r O[i]<fo r O[k]↔i<k:=by
   constructor
   ·intro h;rcases mX i k with ad|ad
    ·exact ad
    ·rcases Nat.lt_or_eq_of_le ad with ad|ad
     ·have:=my.1 an k i hk ek ad;omega
     grind
   ·intro h;exact my.1 an i k ek hk h
  unfold u7;rw[ax,a1];by_cases h:i<k
  ·rw[b3 (aB.2 h),bm (by omega)]
   grind
  ·rw[bm (λbp=>h (aB.1 bp))]
   grind
def mj(ms:List Int)(x:Int)(r:Nat):Int:=u7 r (hf ms r) x (hf ms r).length
theorem D4(h:x∈l):∃ (k:Nat) (hk:k<l.length),gR l x=k/\l[k]=x:=by
 rcases au: (List.range l.length).find? (λi=>decide (l[i]?=some x))with _|n
 ·obtain⟨i,hi,rfl⟩:=fv h;have:=Ac.1 au i (w4.2 hi)
  grind
 ·have h1:=w4.1 (I5 au);refine⟨n,h1,by simp only[gR,lv,au],?_⟩
  grind
theorem YC{a b:Int}{r:Nat}(ab:dF ms 16=true)(ao:r<5)(bb:a∈ms)(ac:b∈ms)(pb:a≠b):mj ms b r=a↔sF (hf ms r) a=b:=by
 have hO:=K8 (r:=(r:Nat)) ab (by omega) (by omega);have aH:=Bh (ms:=ms) (r:=(r:Nat)) ab (by omega) (by omega);have ih: (hf ms r).Nodup:=by
  rw[aH];exact(Bg _ _).nodup_iff.2 (G6 (nE.1 ab).2.1)
 have YD:a∈hf ms r:=by rw[aH,u5];exact bb
 have tv:b∈hf ms r:=by rw[aH,u5];exact ac
 unfold mj sF;generalize hf ms r=O at hO ih YD tv;obtain⟨k,hS,hk,auG⟩:=D4 YD;obtain⟨j,aq,rfl⟩:=fv tv;rw[Qy hO aq _ (bS _),hk,l6];have J5: (k+1)%O.length<O.length:=uw _ (by omega);have iP:O.getD ((k+1)%O.length) 0=O[(k+1)%O.length]:=by grind
 have auH:k≠j:=λe=>pb (by grind);rw[iP];have ajg:∀ (p q:Nat) (an:p<O.length) (bX:q<O.length),O[p]=O[q]↔p=q:=λp q an bX=>by
  constructor
  ·intro h;exact(CG ih).1 h
  grind
 rw[ajg _ _ J5 aq];have Qz: (k+1)%O.length=if k+1=O.length then 0 else k+1:=by
  split
  ·simp_all
  ·exact se (by omega)
 grind
def cQ(ms:List Int)(x:Int):List Int:=bif !dF ms 16|| !(decide (1<=x)&&decide (x<=1000))|| (decide ((ms.length:Int)=1)&&decide (ms.getD 0 0=x))then []else(List.range 5).map (mj ms x)
def u9(R:List Int)(a:Int)(i:Nat):List Int:=((List.range i).filter λk=>decide (R.getD k 0=a)).map λ(k:Nat)=>(k:Int)
theorem ajh(R:List Int)(a:Int)(i:Nat):u9 R a (i+1)=u9 R a i++bif decide (R.getD i 0=a)then [(i:Int)]else []:=by
 unfold u9;rw[CN,oh,ew,Ab,Fp];cases h:decide (R.getD i 0=a)<;>simp
theorem YE(R:List Int)(a:Int)(i:Nat): (u9 R a i).length<=i:=by
 unfold u9
 grind
theorem zg(ms:List Int)(x:Int): (cQ ms x).length<=5:=by
 unfold cQ;cases (!dF ms 16|| !(decide (1<=x)&&decide (x<=1000))|| (decide ((ms.length:Int)=1)&&decide (ms.getD 0 0=x)))<;>simp
def lz(r x m:Int):Int:=IntKind.u64.wrap (IntKind.u64.wrap (fo r x-fo r m)-1)
def rQ(cf:Int->Int->Int)(l:List Int):Nat->Int
 |0=>l.getD 0 0
 |i+1=>if cf (l.getD i 0) (rQ cf l i)<0 then l.getD i 0 else rQ cf l i
theorem aji(cf:Int->Int->Int)(l:List Int):rQ cf l 1=l.getD 0 0:=by
 rw[rQ,rQ];split<;>rfl
theorem QA(x:Int):bq Tryz.prog 167 [i64 x] (.v (.bool (decide (1<=x)&&decide (x<=1000)))):=by
 refine cp (fn:=Tryz.f167) (c:=Tryz.f167.body.getD .skip) az aw (by rfl) Tryz.func167 (by rfl) (by rfl) (by rfl) (by rfl) ?_;repeat' ((conv=>whnf);first|refine bl ?_|exact .refl|fail)
theorem ajj(r x a b:Int):bq Tryz.prog 170 [i64 a,i64 b,.da [u64 (fo r x)],.da [i64 r]] (i64 (n2 (lz r x a) (lz r x b))):=by
 have aA:=G4 r a;have aG:=G4 r b;have bc:=Yu (lz r x a) (lz r x b);unfold lz at bc⊢;generalize fo r a=fl at *;generalize fo r b=ff at *;generalize fo r x=mI at *;refine cp (fn:=Tryz.f170) (c:=Tryz.f170.body.getD .skip) az aw (by rfl) Tryz.func170 (by rfl) (by rfl) (by rfl) (by rfl) ?_;repeat' ((conv=>whnf);first|exact .refl|refine ch ?_|refine aR aA ?_|refine aR aG ?_|refine aR bc ?_|fail)
theorem ajk(l:List Int)(hL:1<=l.length)(af:l.length<=maxLen)(cr:List ak)(cf:Int->Int->Int)(A:Nat->Int)(h1:A 1=l.getD 0 0)(ae:∀i,A (i+1)=if cf (l.getD i 0) (A i)<0 then l.getD i 0 else A i)
  (p q:ak) (al:∀a b,bq Tryz.prog 170 [i64 a,i64 b,p,q] (i64 (cf a b))) (an:∃a,p= .da [u64 a]) (bX:∃a,q= .da [i64 a]):bq Tryz.prog 169 [.av 1 (l.map aU) false,.fn (.func 170) [p,q]] (i64 (A l.length)):=by
 have hK:l.length<=9223372036854775807:=af;obtain⟨YF,rfl⟩:=an;obtain⟨QB,rfl⟩:=bX;refine cp (fn:=Tryz.f169) (c:=Tryz.f169.body.getD .skip) az aw (by rfl) Tryz.func169 (by rfl) (by rfl) (by rfl) (by rfl) ?_;repeat' ((conv=>whnf);first| (apply bo<;>intro h)|fail)
 ·grind
 ·clear h;have Bd: (l.map aU)[0]?=some (aU (A 1)):=by
   grind
  repeat' ((conv=>whnf);first|refine⟨0,aU (A 1),aS ⟨rfl,Bd⟩ ?_⟩|fail)
  all_goals(conv=>whnf)
  refine⟨Nat,λi=>⟨[(0,.av 1 (l.map aU) false),(1,.fn (.func 170) [.da [u64 YF],.da [i64 QB]]),(5,i64 (A i)),(6,i64 i)],[]⟩,λi=>1<=i/\i<=l.length,λi=>l.length-i,[],⟨1,⟨bS _,hL⟩,?_⟩,?_⟩
  ·conv=>whnf
   exact⟨⟨.r,.r,.r,.r,aj⟩,aj,by rfl⟩
  ·intro i ⟨xO,hi⟩;repeat' ((conv=>whnf);first| (apply bo<;>intro h)|fail)
   ·have aB:i<l.length:=by grind
    clear h;have ax:l.getD i 0=l[i]:=by grind
    have ae:=ae i;rw[ax]at ae;have e:=al l[i] (A i);repeat' ((conv=>whnf);first| (apply bo<;>intro h)|refine⟨_,_,aS ⟨rfl,du aB⟩ ?_⟩|refine aR e ?_|fail)
    all_goals(conv=>whnf)
    all_goals refine⟨i+1,⟨by omega,aB⟩,by simp only[];omega,?_⟩
    all_goals(conv=>whnf)
    all_goals refine⟨⟨.r,.r,a8 ?_,a8 (ca (by omega)),aj⟩,aj,by rfl⟩
    all_goals grind
   ·have:i=l.length:=by
     grind
    subst this;clear h;repeat' ((conv=>whnf);first|exact .refl|fail)
theorem Bi{m:Int}(h:fo r m<fo r x):lz r x m=fo r x-fo r m-1:=by
 have h1:=zf r m;have ad:=zf r x;unfold lz;generalize fo r m=p at *;generalize fo r x=q at *;rw[kc (n:=q-p) (by omega) (by omega),kc (by omega) (by omega)]
theorem Bj{m:Int}(h:¬fo r m<fo r x):lz r x m=fo r x-fo r m-1+18446744073709551616:=by
 have h1:=zf r m;have ad:=zf r x;unfold lz;generalize fo r m=p at *;generalize fo r x=q at *;rw[ze,ze];omega
theorem YG{cf:Int->Int->Int}{l:List Int}(af:1<=l.length):∀i,i<=l.length->rQ cf l i∈l
 |0,_=>by
  rw[rQ]
  grind
 |i+1,hi=>by
  have a1:=YG (cf:=cf) af i (by omega);rw[rQ]
  grind
theorem YH{d:Int->Int}{l:List Int}:∀i,i<=l.length->∀j,j<i->d (rQ (λa b=>n2 (d a) (d b)) l i)<=d (l.getD j 0)
 |0,_,j,aq=>by omega
 |i+1,hi,j,aq=>by
  have a1:=YH (d:=d) (l:=l) i (by omega);rw[rQ];have al:=(G3 (d (l.getD i 0)) (d (rQ (λa b=>n2 (d a) (d b)) l i))).1
  grind
theorem QC{r x:Int}{O:List Int}(an:O.Pairwise λa b=>fo r a<fo r b)(hO:1<=O.length):∀i,i<=O.length->u7 r O x i∈O/\(u7 r O x i=O.getD (O.length-1) 0\/fo r (u7 r O x i)<fo r x)/\∀j,j<i->lz r x (u7 r O x i)<=lz r x (O.getD j 0)
 |0,_=>by
  rw[u7]
  grind
 |i+1,hi=>by
  obtain⟨h1,ad,aN⟩:=QC (x:=x) an hO i (by omega);have ek:i<O.length:=by omega
  have ax:O.getD i 0=O[i]:=by grind
  have aB:∀a b (bb:a<O.length) (ac:b<O.length),a<=b->fo r O[a]<=fo r O[b]:=by
   intro a b bb ac pb;rcases Nat.lt_or_eq_of_le pb with h|h
   ·exact Int.le_of_lt (my.1 an a b bb ac h)
   grind
  rw[u7];split
  ·rename_i h;refine⟨by grind,.inr h,λj aq=> ?_⟩;have iv:j<O.length:=by omega
   have QD:O.getD j 0=O[j]:=by grind
   have:=aB j i iv ek (by omega);rw[ax]at h⊢;rw[QD,Bi h,Bi (by omega)];omega
  ·rename_i h;refine⟨h1,ad,λj aq=> ?_⟩;rcases yv.1 aq with aq|rfl
   ·grind
   ·rcases ad with ad|ad
    ·have af:O.length-1<O.length:=by omega
     have qn:O.getD (O.length-1) 0=O[O.length-1]:=by grind
     have:=aB j (O.length-1) ek af (by omega);rw[ad,qn];rw[ax]at h⊢;rw[Bj h,Bj (by omega)];omega
    ·have dL:=zf r (u7 r O x j);have dW:=zf r (O.getD j 0);rw[Bi ad,Bj h];omega
theorem ajl{a b:Int}(bb:1<=a/\a<=1000)(ac:1<=b/\b<=1000)(h:lz r x a=lz r x b):a=b:=by
 refine Qu (r:=r) bb ac ?_;have dL:=zf r a;have dW:=zf r b;by_cases h1:fo r a<fo r x<;>by_cases ad:fo r b<fo r x
 ·rw[Bi h1,Bi ad]at h;omega
 ·rw[Bi h1,Bj ad]at h;omega
 ·rw[Bj h1,Bi ad]at h;omega
 ·rw[Bj h1,Bj ad]at h;omega
theorem ajm{r:Nat}(ab:dF ms 16=true)(ao:r<5):rQ (λa b=>n2 (lz r x a) (lz r x b)) ms ms.length=mj ms x r:=by
 have hO:=K8 (r:=(r:Nat)) ab (by omega) (by omega);have aH:=Bh (ms:=ms) (r:=(r:Nat)) ab (by omega) (by omega);have oC: (hf ms (r:Nat)).length=ms.length:=by rw[aH,G5]
 have hv:=(nE.1 ab).1;have ac:=(nE.1 ab).2.2;have ni:∀m,m∈hf ms (r:Nat)↔m∈ms:=λm=>by rw[aH,u5]
 unfold mj;generalize hf ms (r:Nat)=O at *;obtain⟨cH,_,a3⟩:=QC (x:=x) hO (by omega) O.length (bS _);have cX:=YG (cf:=λa b=>n2 (lz r x a) (lz r x b)) (l:=ms) (by omega) ms.length (bS _);have c0:=YH (d:=lz r x) (l:=ms) ms.length (bS _);refine ajl (r:=r) (x:=x) (ac _ cX) (ac _ ((ni _).1 cH)) ?_;obtain⟨j,aq,auI⟩:=fv ((ni _).1 cH);obtain⟨k,hk,JS⟩:=fv ((ni _).2 cX)
 grind
theorem ajn(r x:Int)(l:List Int):∃A:Nat->Int,A 1=l.getD 0 0/\(∀i,A (i+1)=if n2 (lz r x (l.getD i 0)) (lz r x (A i))<0 then l.getD i 0 else A i)/\rQ (λa b=>n2 (lz r x a) (lz r x b)) l l.length=A l.length:=
 ⟨rQ (λa b=>n2 (lz r x a) (lz r x b)) l,aji _ _,λi=>by rfl,rfl⟩
theorem YI(ms:List Int)(ab:dF ms 16=true)(r:Nat)(ao:r<5)(x:Int):bq Tryz.prog 169 [.av 1 (ms.map aU) false,.fn (.func 170) [.da [u64 (fo r x)],.da [i64 r]]] (i64 (mj ms x r)):=by
 have hv:=(nE.1 ab).1;obtain⟨A,h1,ae,he⟩:=ajn r x ms;have an:=ajm (x:=x) ab ao;rw[he]at an;rw[<-an];exact ajk ms (by omega) (by simp only[maxLen];omega) [] (λa b=>n2 (lz r x a) (lz r x b)) A h1 ae _ _ (λa b=>ajj r x a b) ⟨_,rfl⟩ ⟨_,rfl⟩
theorem K9(ms:List Int)(af:ms.length<=maxLen)(x:Int):bq Tryz.prog 100 [.av 1 (ms.map aU) false,i64 x] (.av 1 ((cQ ms x).map aU) false):=by
 have aA:=zb ms af;have aG:=QA x;have n1:dF ms 16=true->∀r:Nat,r<5->bq Tryz.prog 169 [.av 1 (ms.map aU) false,.fn (.func 170) [.da [u64 (fo r x)],.da [i64 r]]] (i64 (mj ms x r)):=λab r ao=>YI ms ab r ao x;have oF:∀r:Nat,bq Tryz.prog 168 [i64 r,i64 x] (u64 (fo r x)):=λr=>G4 r x;have aH:cQ ms x=bif !dF ms 16|| !(decide (1<=x)&&decide (x<=1000))|| (decide ((ms.length:Int)=1)&&decide (ms.getD 0 0=x))then []else(List.range 5).map (mj ms x):=rfl;have ax:∀c:Bool,(c&&decide (((ms.map aU).length:Int)=1))=true->(ms.map aU)[0]?=some (aU (ms.getD 0 0)):=λc h=>by
  grind
 generalize mj ms x=A at n1 aH;generalize cQ ms x=R at aH⊢;generalize dF ms 16=cX at *;generalize(decide (1<=x)&&decide (x<=1000))=c0 at *;generalize df: (λr:Nat=>fo r x)=P;have df:∀r:Nat,fo r x=P r:=λr=>by grind
 simp only[df]at n1 oF;clear df;refine cp (fn:=Tryz.f100) (c:=Tryz.f100.body.getD .skip) az aw (by rfl) Tryz.func100 (by rfl) (by rfl) (by rfl) (by rfl) ?_;repeat' ((conv=>whnf);first|refine bl ?_| (apply bo<;>intro h)|refine dE ?_|refine aR aA ?_|refine ea aG ?_|refine⟨0,aU (ms.getD 0 0),aS ⟨λh=>h,λh=>⟨rfl,ax _ h⟩⟩ ?_⟩|fail)
 all_goals(conv=>whnf)
 ·rw[bL]at h;rw[aH,h];exact .ar
 ·rw[bL]at h;rw[h,bD]at aH;have ac:cX=true:=by
   grind
  have n1:=n1 ac;clear h ax;subst aH;refine⟨Nat,λi=>⟨[(0,.av 1 (ms.map aU) false),(1,i64 x),(5,.own 0),(28,i64 i)],[.row 3 1 (((List.range i).map A).map aU)]⟩,λi=>i<=5,λi=>5-i,[.h4 5 3 1],⟨0,bZ _,?_⟩,?_⟩
  ·exact⟨by repeat' ((conv=>whnf);first|exact trivial|refine aS (by(conv=>arg 1;whnf);first| (with_reducible exact .refl)|exact a8 (ca (by omega))|exact .refl) ?_|fail),by repeat' ((conv=>whnf);first|exact trivial|refine aS ?_ ?_|exact .refl|fail),rfl⟩
  ·intro i hi;repeat' ((conv=>whnf);first| (apply bo<;>intro h)|fail)
   ·have aB:i<5:=by
     grind
    clear h;have e:=n1 i aB;have aG:=oF i;have rM: (((List.range i).map A).map aU).length+1<=2000000:=by
     grind
    repeat' ((conv=>whnf);first|refine aR aG ?_|refine aR e ?_|refine aS (qo rM) ?_|fail)
    all_goals(conv=>whnf)
    refine⟨i+1,aB,by grind,?_⟩;conv=>whnf
    refine⟨⟨.r,.r,.r,a8 (ca (by omega)),aj⟩,⟨cM ?_,aj⟩,by rfl⟩;rw[CN,ew,ew];rfl
   ·have:i=5:=by
     grind
    subst this;repeat' ((conv=>whnf);first|exact .refl|fail)
structure nF where
 bits:Int
 tM:Int
def u32(n:Int):ak:=.v (.int .u32 n)
def La(w:nF):List ak:=[u32 w.bits,i64 w.tM]
def pL(w:nF):Bool:=(decide (0<=w.tM)&&decide (w.tM<=10))&&decide (w.bits<IntKind.u32.wrap (1*2^ (min w.tM.toNat 32)))
theorem Lb(n:Int):IntKind.u32.wrap n=n%4294967296:=by
 rfl
theorem ajo{c:Int}(h: (decide (0<=c)&&decide (c<=10))=true):0<=c:=by
 grind
theorem Lc{w:nF}(h:pL w=true)(ac:0<=w.bits):0<=w.tM/\w.tM<=10/\w.bits<2^w.tM.toNat/\w.bits<1024:=by
 simp only[pL,cq,fx]at h;obtain⟨⟨h1,ad⟩,aN⟩:=h;obtain⟨c,al⟩:=p5 h1;rw[al]at aN ad⊢;have ajp:c<=10:=by omega
 have e:min ((c:Int)).toNat 32=c:=by omega
 have an: (2:Nat)^c<=2^10:=Je (by decide) ajp;have yL: ((2:Int)^c)=((2^c:Nat):Int):=by rfl
 rw[e,Int.one_mul,Lb,yL]at aN
 grind
theorem QE(w:nF):bq Tryz.prog 110 [.agg (La w)] (.v (.bool (pL w))):=by
 refine cp (fn:=Tryz.f110) (c:=Tryz.f110.body.getD .skip) az aw (by rfl) Tryz.func110 (by rfl) (by rfl) (by rfl) (by rfl) ?_;repeat' ((conv=>whnf);first|refine bl ?_|exact .refl|refine ch ?_|refine dE ?_|refine aS ⟨λh=>h,λax=>ajo ax⟩ ?_|fail)
def jJ(w:nF)(ok:Bool):nF:=bif !pL w then⟨0,0⟩else⟨w.bits*2%1024+(bif ok then 0 else 1),if 10<w.tM+1 then 10 else w.tM+1⟩
theorem ajq:∀b:Fin 1024,bits .and .u32 (IntKind.u32.wrap ((b.1:Int) *2^ (min 1 32))) 1023=(b.1:Int) *2%1024/\bits .and .u32 (bits .or .u32 (IntKind.u32.wrap ((b.1:Int) *2^ (min 1 32))) 1) 1023=(b.1:Int) *2%1024+1/\
  Int.tmod (IntKind.u32.wrap ((b.1:Int) *2)) 1024=(b.1:Int) *2%1024/\IntKind.u32.wrap (Int.tmod (IntKind.u32.wrap ((b.1:Int) *2)) 1024+1)=(b.1:Int) *2%1024+1:=by decide+kernel
theorem ajr{b:Int}(h1:0<=b)(ad:b<1024):bits .and .u32 (IntKind.u32.wrap (b*2^ (min (1:Int).toNat 32))) 1023=b*2%1024/\bits .and .u32 (bits .or .u32 (IntKind.u32.wrap (b*2^ (min (1:Int).toNat 32))) 1) 1023=b*2%1024+1/\
  Int.tmod (IntKind.u32.wrap (b*2)) 1024=b*2%1024/\IntKind.u32.wrap (Int.tmod (IntKind.u32.wrap (b*2)) 1024+1)=b*2%1024+1:=by
 obtain⟨n,rfl⟩:=p5 h1;exact ajq ⟨n,by omega⟩
theorem QF{w:nF}(ac:0<=w.bits)(ok:Bool):0<=(jJ w ok).bits:=by
 unfold jJ
 grind
theorem ajs(w:nF)(ac:0<=w.bits)(ok:Bool):bq Tryz.prog 159 [.agg (La w),.v (.bool ok)] (.agg (La (jJ w ok))):=by
 refine cp (fn:=Tryz.f159) (c:=Tryz.f159.body.getD .skip) az aw (by rfl) Tryz.func159 (by rfl) (by rfl) (by rfl) (by rfl) ?_;repeat' ((conv=>whnf);first| (apply bo<;>intro h)|refine aR (QE w) ?_|refine aS (by decide) ?_|fail)
 all_goals(conv=>whnf)
 ·rw[jJ,h];exact .refl
 all_goals
  rename_i aQ;have ab:pL w=true:=by simpa using aQ
  obtain⟨cV,dj,_,hT⟩:=Lc ab ac;obtain⟨dc,dt,_,_⟩:=ajr ac hT;rw[jJ,aQ,bD];refine iQ ⟨a8 ?_,a8 ?_,aj⟩
 ·have cy:ok=false:=by grind
  subst cy;exact dt
 ·rw[dQ (by omega) (by omega)]
 ·have cy:ok=true:=by grind
  subst cy;exact dc.trans (Int.add_zero _).symm
 ·rw[dQ (by omega) (by omega)]
def pc(b:Int):Nat->Int
 |0=>0
 |k+1=>bif decide (Int.tmod (b.fdiv (2^k)) 2=1)then pc b k+1 else pc b k
def rR(w:nF):Bool:=pL w&&decide (w.tM=10)&&decide (4<=pc w.bits 10)
theorem ajt(n:Nat)(aV:n<1024):bq Tryz.prog 201 [u32 n] (i64 (pc n 10)):=by
 have kv: (n:Int).fdiv (2^ (min (24:Int).toNat 32))=((0:Nat):Int)/\bits .and .u32 ((n:Int).fdiv (2^ (min (16:Int).toNat 32))) 255=((0:Nat):Int)/\bits .and .u32 ((n:Int).fdiv (2^ (min (8:Int).toNat 32))) 255=((n/256:Nat):Int)/\bits .and .u32 (n:Int) 255=((n%256:Nat):Int):=by
  have:∀n:Nat,n<1024->(n:Int).fdiv (2^ (min (24:Int).toNat 32))=((0:Nat):Int)/\bits .and .u32 ((n:Int).fdiv (2^ (min (16:Int).toNat 32))) 255=((0:Nat):Int)/\bits .and .u32 ((n:Int).fdiv (2^ (min (8:Int).toNat 32))) 255=((n/256:Nat):Int)/\bits .and .u32 (n:Int) 255=((n%256:Nat):Int):=by decide+kernel
  exact this n aV
 obtain⟨i1,i2,i3,i4⟩:=kv;have iu:n/256<256:=by omega
 have ly:n%256<256:=by omega
 refine fX Tryz.func201 ?_;repeat' ((conv=>whnf);first|refine ch ?_|refine aS (by decide) ?_|refine⟨0,aS ⟨i1,by decide⟩ ?_⟩|refine⟨0,aS ⟨i2,by decide⟩ ?_⟩|refine⟨n/256,aS ⟨i3,iu⟩ ?_⟩|refine⟨n%256,aS ⟨i4,ly⟩ ?_⟩|fail)
 all_goals(conv=>whnf)
 refine a8 ?_;clear i1 i2 i3 i4 iu ly;revert n
 decide+kernel
theorem aju(w:nF)(ac:0<=w.bits):bq Tryz.prog 160 [.agg (La w)] (.v (.bool (rR w))):=by
 have e: (pL w&&decide (w.tM=10))=true->bq Tryz.prog 201 [u32 w.bits] (i64 (pc w.bits 10)):=λh=>by
  simp only[cq]at h;obtain⟨_,_,_,k⟩:=Lc h.1 ac;obtain⟨n,aV⟩:=p5 ac;rw[aV];exact ajt n (by omega)
 unfold rR;generalize pc w.bits 10=p at e;refine cp (fn:=Tryz.f160) (c:=Tryz.f160.body.getD .skip) az aw (by rfl) Tryz.func160 (by rfl) (by rfl) (by rfl) (by rfl) ?_;repeat' ((conv=>whnf);first|refine bl ?_|exact .refl|refine aR (QE w) ?_|refine⟨_,_,Aq _,e,?_⟩|fail)
structure Edge where
 et:Int
 bG:Int
 ml:Bool
 hr:Bool
 kd:nF
def kR(e:Edge):List ak:=[i64 e.et,i64 e.bG,.v (.bool e.ml),.v (.bool e.hr),u32 e.kd.bits,i64 e.kd.tM]
structure ju where
 self:Int
 view:aK
 bV:List Edge
def va(d:ju):List ak:=[i64 d.self,i64 d.view.num,.av 1 (d.view.mem.map aU) false,.av 6 (d.bV.map kR) false]
structure bR where
 view:Int
 et:Int
 jW:Int
 bG:Int
def ey(a:bR):List ak:=[i64 a.view,i64 a.et,i64 a.jW,i64 a.bG]
def G9(r:Nat)(s:Int):Edge:=⟨r,s,false,false,⟨0,0⟩⟩
def wH:Edge:=⟨0,0,false,false,⟨0,0⟩⟩
def pM(S:List Int)(i:Nat):List Edge:=(List.range i).map λk=>G9 k (S.getD k 0)
theorem D5(S:List Int)(i:Nat): (pM S i).length=i:=by simp[pM]
theorem ajv(S:List Int)(i:Nat):pM S (i+1)=pM S i++ [G9 i (S.getD i 0)]:=by
 unfold pM;rw[CN,ew];rfl
def pd:ju:=⟨0,⟨0,[]⟩,[]⟩
def ke(v:aK)(self:Int):ju×Int:=bif !b2 v|| !bP v.mem self then(pd,1)else(⟨self,v,pM (hC v.mem self) (hC v.mem self).length⟩,0)
variable{n:Nat}
theorem QG(h:n<=2000000):kL ah 96 n:=by
 have e: (aE ah 96).bytes=40:=by rfl
 refine⟨?_,?_⟩
 ·grind
 ·simp only[maxLen];omega
theorem Ld(ms:List Int)(id:Int): (hC ms id).length<=5:=by
 unfold hC;cases (!dF ms 16|| !bP ms id||decide ((ms.length:Int)=1))<;>simp[rP]
theorem D6(v:aK)(ab:v.mem.length<=maxLen)(self:Int):bq Tryz.prog 69 [.agg (cG v),i64 self] (.be [.agg (va (ke v self).1),i64 (ke v self).2]):=by
 have aA:=q3 v ab;have aG:=jt v.mem ab self;have aV:ke v self=bif !b2 v|| !bP v.mem self then(pd,1)else(⟨self,v,pM (hC v.mem self) (hC v.mem self).length⟩,0):=rfl;refine cp (fn:=Tryz.f69) (c:=Tryz.f69.body.getD .skip) az aw (by rfl) Tryz.func69 (by rfl) (by rfl) (by rfl) (by rfl) ?_;repeat' ((conv=>whnf);first|refine bl ?_| (apply bo<;>intro h)|refine dE ?_|refine aR aA ?_|refine ea aG ?_|fail)
 all_goals(conv=>whnf)
 ·rw[aV,h];exact e1 ⟨iQ ⟨.r,.r,.ar,.ar,aj⟩,.r,aj⟩
 ·have q4:b2 v=true:=by
   grind
  have hv:=k8 q4;rw[h,bD]at aV;rw[aV];have es:=ajf v.mem ab self;have u6:=Ld v.mem self;generalize hC v.mem self=S at es u6;clear h aV;refine aS (qo (by grind)) ?_;repeat' ((conv=>whnf);first|refine ch ?_|refine aR es ?_|fail)
  all_goals(conv=>whnf)
  refine⟨Nat,λi=>⟨[(4,.aW 1 0),(6,.aW 3 0),(31,.av 1 (S.map aU) false),(32,i64 S.length),(33,i64 i)],[.cells 24 (cG v),.cells 45 [i64 0,i64 0,.ar,.ar],.row 3 1 (v.mem.map aU),.cells 45 [i64 self,i64 v.num,.own 2,.own 4],.row 96 6 ((pM S i).map kR)]⟩,λi=>i<=S.length,λi=>S.length-i,[.cell 3 3 96 6],⟨0,bZ _,?_⟩,?_⟩
  ·conv=>whnf
   exact⟨⟨.r,.r,.r,a8 (by simp),.r,aj⟩,⟨.r,.r,.r,.r,.r,aj⟩,by rfl⟩
  ·intro i hi;have rK:=D5 S i;repeat' ((conv=>whnf);first| (apply bo<;>intro h)|fail)
   ·have aB:i<S.length:=by grind
    clear h;have ax:S.getD i 0=S[i]:=by grind
    have D3:=ajv S i;rw[ax]at D3;repeat' ((conv=>whnf);first|refine⟨_,_,aS ⟨rfl,du aB⟩ ?_⟩|fail)
    all_goals(conv=>whnf)
    refine aS (QG (by grind)) ?_;repeat' ((conv=>whnf);first|refine bl ?_|fail)
    all_goals(conv=>whnf)
    refine⟨i+1,aB,by grind,?_⟩;conv=>whnf
    refine⟨⟨.r,.r,.r,.r,a8 (ca (by omega)),aj⟩,⟨.r,.r,.r,.r,cM ?_,aj⟩,by rfl⟩;rw[D3,ew];rfl
   ·have:i=S.length:=by
     grind
    subst this;repeat' ((conv=>whnf);first|exact .refl|fail)
def xP(E W:List Edge)(i:Nat):Bool:= !(!decide ((E.getD i wH).et=(W.getD i wH).et)|| !decide ((E.getD i wH).bG=(W.getD i wH).bG)|| !pL (E.getD i wH).kd)
def pN(d:ju):Bool:=bif !decide ((ke d.view d.self).2=0)|| !decide ((d.bV.length:Int)=((ke d.view d.self).1.bV.length:Int))then false else ij (xP d.bV (ke d.view d.self).1.bV) d.bV.length
theorem QH(d:ju)(ab:d.view.mem.length<=maxLen)(he:d.bV.length<=maxLen):bq Tryz.prog 62 [.agg (va d)] (.v (.bool (pN d))):=by
 have GA:d.bV.length<=9223372036854775807:=he;have Ha:=D6 d.view ab d.self;have aa:pN d=bif !decide ((ke d.view d.self).2=0)|| !decide ((d.bV.length:Int)=((ke d.view d.self).1.bV.length:Int))then false else ij (xP d.bV (ke d.view d.self).1.bV) d.bV.length:=rfl;generalize ke d.view d.self=N at Ha aa;obtain⟨n,e⟩:=N;refine cp (fn:=Tryz.f62) (c:=Tryz.f62.body.getD .skip) az aw (by rfl) Tryz.func62 (by rfl) (by rfl) (by rfl) (by rfl) ?_;repeat' ((conv=>whnf);first|refine bl ?_| (apply bo<;>intro h)|refine dE ?_|refine aR Ha ?_|fail)
 all_goals(conv=>whnf)
 ·rw[bL,bL]at h;rw[aa,h];exact .refl
 ·rw[bL,bL]at h;rw[h,bD]at aa;have af:d.bV.length=n.bV.length:=by
   grind
  clear h;refine⟨Nat,λi=>⟨[(3,.aW 1 0),(27,.av 6 (d.bV.map kR) false),(28,i64 d.bV.length),(29,i64 i)],[.cells 45 (va d),.cells 45 (va n)]⟩,λi=>i<=d.bV.length/\∀j,j<i->xP d.bV n.bV j=true,λi=>d.bV.length-i,[],⟨0,⟨bZ _,by omega⟩,?_⟩,?_⟩
  ·exact⟨⟨.r,.r,a8 (by simp),.r,aj⟩,⟨.r,.r,aj⟩,rfl⟩
  ·intro i ⟨hi,cF⟩;repeat' ((conv=>whnf);first| (apply bo<;>intro h)|fail)
   ·have aB:i<d.bV.length:=by grind
    clear h;have nl:i<n.bV.length:=by omega
    have ax:d.bV.getD i wH=d.bV[i]:=by grind
    have iP:n.bV.getD i wH=n.bV[i]:=by grind
    have cy:xP d.bV n.bV i= !(!decide (d.bV[i].et=n.bV[i].et)|| !decide (d.bV[i].bG=n.bV[i].bG)|| !pL d.bV[i].kd):=by
     simp only[xP,ax,iP]
    have YJ:=QE d.bV[i].kd;generalize pL d.bV[i].kd=auJ at YJ cy;repeat' ((conv=>whnf);first|refine bl ?_| (apply bo<;>intro h)|refine ch ?_|refine dE ?_|refine⟨_,_,aS ⟨rfl,du aB⟩ ?_⟩|refine⟨_,_,aS ⟨rfl,du nl⟩ ?_⟩|refine ea YJ ?_|refine⟨i,kR (n.bV[i]'nl),aS ⟨⟨λh=>h,λh=>h⟩,λax=>⟨rfl,du nl⟩⟩ ?_⟩|fail)
    all_goals(conv=>whnf)
    ·rw[aa,tF aB (by grind)];exact .refl
    ·refine⟨i+1,⟨aB,λj aq=> ?_⟩,by grind,?_⟩
     ·grind
     ·exact⟨⟨.r,.r,.r,a8 (ca (by omega)),aj⟩,⟨.r,.r,aj⟩,rfl⟩
   ·have fU:¬i<d.bV.length:=by grind
    conv=>whnf
    refine gQ ?_;rw[aa,iA.2 (λj aq=>cF j (by omega))]
def pO{α:Type}(f:α->α)(l:List α)(i:Nat):List α:=(l.take i).map f++l.drop i
theorem QI{α:Type}(f:α->α)(l:List α)(i:Nat): (pO f l i).length=l.length:=by
 simp[pO];omega
variable{i:Nat}
theorem YK{α:Type}{f:α->α}{l:List α}(h:i<l.length): (pO f l i)[i]'(by rw[QI];exact h)=l[i]:=by
 have af: ((l.take i).map f).length=i:=by grind
 simp only[pO]
 grind
theorem YL{α:Type}{f:α->α}{l:List α}(h:i<l.length): (pO f l i).set i (f l[i])=pO f l (i+1):=by
 have af: ((l.take i).map f).length=i:=by grind
 unfold pO;rw[UV _ _ (by omega),af,Ai,vK h,List.set_cons_zero,fA h,ew];simp
theorem YM{α:Type}(f:α->α)(l:List α):pO f l l.length=l.map f:=by simp[pO]
theorem ajw(h:n<=2000000):n* (aE ah 96).bytes<=140737488355328/\n<=maxLen:=QG h
theorem ajx(h:n<=2000000):n* (aE ah 3).bytes<=140737488355328/\n<=maxLen:=qo h
theorem YN{l:List (List ak)}{z:List ak}:l.take (List.replicate l.length z).length++(List.replicate l.length z).drop l.length=l:=by
 simp
theorem YO(d:ju)(ab:d.view.mem.length<=1000000)(he:d.bV.length<=1000000):
  cj Tryz.prog 144 [] [.agg (va d)] [] [.bn,.bn,.row 3 1 (d.view.mem.map aU),.row 96 6 (d.bV.map kR)] (.agg [i64 d.self,i64 d.view.num,.own 2,.own 3]):=by
 have f1:=ajx (n:=(d.view.mem.map aU).length) (by grind);have f2:=ajw (n:=(d.bV.map kR).length) (by grind);refine ik (fn:=Tryz.f144) (c:=Tryz.f144.body.getD .skip) az aw (by rfl) Tryz.func144 (by rfl) (by rfl) (by rfl) (by rfl) (by rfl) ?_;repeat' ((conv=>whnf);first|refine ch ?_|refine⟨(d.view.mem.map aU).length,(d.view.mem.map aU).length,rfl,rfl,bS _,f1.1,f1.2,?_⟩|refine⟨(d.bV.map kR).length,(d.bV.map kR).length,rfl,rfl,bS _,f2.1,f2.2,?_⟩|fail)
 all_goals(conv=>whnf)
 exact⟨.r,⟨.bn,.bn,cM YN,cM YN,aj⟩,by rfl⟩
theorem ajy{d:ju}(h:pN d=true):b2 d.view=true/\bP d.view.mem d.self=true/\d.bV.length=(hC d.view.mem d.self).length:=by
 unfold pN at h;rw[ke]at h;cases al: (!b2 d.view|| !bP d.view.mem d.self)
 ·rw[al]at h;simp only[bD]at h;simp only[iW,mw]at al;refine⟨al.1,al.2,?_⟩;simp only[D5]at h
  grind
 grind
theorem YP{d:ju}(h:pN d=true):d.view.mem.length<=16/\d.bV.length<=5:=by
 have a:=ajy h;have b:=Ld d.view.mem d.self;exact⟨(k8 a.1).2,by omega⟩
def vb(i:Int)(e:Edge):Edge:=bif decide (e.bG=i)then⟨e.et,e.bG,true,e.hr,e.kd⟩else e
def nG(d:ju)(i:Int):ju:=bif !pN d then pd else⟨d.self,d.view,d.bV.map (vb i)⟩
theorem ajz(d:ju)(ab:d.view.mem.length<=maxLen)(he:d.bV.length<=maxLen)(id:Int):bq Tryz.prog 86 [.agg (va d),i64 id] (.agg (va (nG d id))):=by
 have aA:=QH d ab he;refine cp (fn:=Tryz.f86) (c:=Tryz.f86.body.getD .skip) az aw (by rfl) Tryz.func86 (by rfl) (by rfl) (by rfl) (by rfl) ?_;repeat' ((conv=>whnf);first| (apply bo<;>intro h)|refine aR aA ?_|fail)
 all_goals(conv=>whnf)
 ·rw[nG,h];exact iQ ⟨.r,.r,.ar,.ar,aj⟩
 ·have AF:pN d=true:=by grind
  have af:=YP AF;rw[nG,h,bD];refine .inr ⟨[],bO (YO d (by omega) (by omega)) ?_⟩;clear h;repeat' ((conv=>whnf);first|refine bl ?_|fail)
  all_goals(conv=>whnf)
  refine⟨Nat,λi=>⟨[(1,i64 id),(4,.aW 1 0),(5,.aW 6 0),(15,i64 d.bV.length),(16,i64 i)],[.cells 45 (va d),.cells 45 [i64 0,i64 0,.ar,.ar],.bn,.bn,.row 3 1 (d.view.mem.map aU),.row 96 6 ((pO (vb id) d.bV i).map kR),.cells 45 [i64 d.self,i64 d.view.num,.own 4,.own 5]]⟩,λi=>i<=d.bV.length,λi=>d.bV.length-i,[],⟨0,bZ _,?_⟩,?_⟩
  ·conv=>whnf
   exact⟨⟨.r,.r,.r,a8 (by simp),.r,aj⟩,⟨.r,.r,.r,.r,.r,.r,.r,aj⟩,by rfl⟩
  ·intro i hi;repeat' ((conv=>whnf);first| (apply bo<;>intro h)|fail)
   ·have aB:i<d.bV.length:=by grind
    clear h;have qm:i<(pO (vb id) d.bV i).length:=by rw[QI];omega
    have fU:=YK (f:=vb id) aB;have xr:=YL (f:=vb id) aB;have Le: ((pO (vb id) d.bV i).map kR)[i]?=some (kR d.bV[i]):=by grind
    have gM:i<((pO (vb id) d.bV i).map kR).length:=by grind
    have au:vb id d.bV[i]=bif decide (d.bV[i].bG=id)then⟨d.bV[i].et,d.bV[i].bG,true,d.bV[i].hr,d.bV[i].kd⟩else d.bV[i]:=rfl;repeat' ((conv=>whnf);first| (apply bo<;>intro h)|refine⟨i,aS ⟨rfl,gM⟩ ?_⟩|refine⟨kR d.bV[i],aS Le ?_⟩|fail)
    all_goals(conv=>whnf)
    all_goals refine⟨i+1,aB,by simp only[];omega,?_⟩
    all_goals(conv=>whnf)
    all_goals refine⟨⟨.r,.r,.r,.r,a8 (ca (by omega)),aj⟩,⟨.r,.r,.r,.r,.r,cM ?_,.r,aj⟩,by rfl⟩
    all_goals rw[<-xr,au,h]
    ·rw[b6,oj];rfl
    ·rw[bD];conv=>rhs;rw[<-fU,Ft]
   ·have:i=d.bV.length:=by
     grind
    subst this;rw[YM];repeat' ((conv=>whnf);first|exact .refl|fail)
def wI(e:Edge):Edge:=⟨e.et,e.bG,false,e.hr||rR (jJ e.kd e.ml),jJ e.kd e.ml⟩
def zh(e:Edge):Bool:=rR (jJ e.kd e.ml)&& !e.hr
def Lf(d:ju)(e:Edge):bR:=⟨d.view.num,e.et,d.self,e.bG⟩
def rS(d:ju)(i:Nat):List bR:=((d.bV.take i).filter zh).map (Lf d)
theorem ajA(d:ju)(i:Nat)(h:i<d.bV.length):rS d (i+1)=rS d i++bif zh d.bV[i]then [Lf d d.bV[i]]else []:=by
 unfold rS;rw[fA h,oh,ew];cases bw:zh d.bV[i]<;>simp[bw]
theorem YQ(d:ju)(i:Nat): (rS d i).length<=i:=by
 unfold rS
 grind
def cO(d:ju):ju×List bR:=bif !pN d then(pd,[])else(⟨d.self,d.view,d.bV.map wI⟩,rS d d.bV.length)
theorem Lg(h:n<=2000000):kL ah 147 n:=by
 have e: (aE ah 147).bytes=32:=by rfl
 refine⟨?_,?_⟩
 ·grind
 ·simp only[maxLen];omega
theorem Lh{α:Type}{l:List α}{x:α}(h:i<l.length): (l.set i x)[i]?=some x:=by simp[h]
theorem QJ(d:ju)(ab:d.view.mem.length<=maxLen)(he:d.bV.length<=maxLen)(ac:∀e∈d.bV,0<=e.kd.bits):bq Tryz.prog 93 [.agg (va d)] (.be [.agg (va (cO d).1),.av 4 ((cO d).2.map ey) false]):=by
 have aA:=QH d ab he;refine cp (fn:=Tryz.f93) (c:=Tryz.f93.body.getD .skip) az aw (by rfl) Tryz.func93 (by rfl) (by rfl) (by rfl) (by rfl) ?_;repeat' ((conv=>whnf);first| (apply bo<;>intro h)|refine aR aA ?_|fail)
 all_goals(conv=>whnf)
 ·rw[cO,h];exact e1 ⟨iQ ⟨.r,.r,.ar,.ar,aj⟩,.ar,aj⟩
 ·have AF:pN d=true:=by grind
  have af:=YP AF;rw[cO,h,bD];refine .inr ⟨[],bO (YO d (by omega) (by omega)) ?_⟩;clear h;repeat' ((conv=>whnf);first|refine bl ?_|fail)
  all_goals(conv=>whnf)
  refine⟨Nat,λi=>⟨[(2,.aW 1 0),(4,.aW 6 0),(5,.own 7),(16,i64 d.bV.length),(17,i64 i)],[.cells 45 (va d),.cells 45 [i64 0,i64 0,.ar,.ar],.bn,.bn,.row 3 1 (d.view.mem.map aU),.row 96 6 ((pO wI d.bV i).map kR),.cells 45 [i64 d.self,i64 d.view.num,.own 4,.own 5],.row 147 4 ((rS d i).map ey)]⟩,λi=>i<=d.bV.length,λi=>d.bV.length-i,[.h4 5 147 4],⟨0,bZ _,?_⟩,?_⟩
  ·conv=>whnf
   exact⟨⟨.r,.r,.r,a8 (by simp),.r,aj⟩,⟨.r,.r,.r,.r,.r,.r,.r,.r,aj⟩,by rfl⟩
  ·intro i hi;repeat' ((conv=>whnf);first| (apply bo<;>intro h)|fail)
   ·have aB:i<d.bV.length:=by grind
    clear h;have qm:i<(pO wI d.bV i).length:=by rw[QI];omega
    have fU:=YK (f:=wI) aB;have xr:=YL (f:=wI) aB;have ajB:=ajA d i aB;have D7:=YQ d i;have Le: ((pO wI d.bV i).map kR)[i]?=some (kR d.bV[i]):=by grind
    have ajC: ((rS d i).map ey).length+1<=2000000:=by grind
    have gM:i<((pO wI d.bV i).map kR).length:=by grind
    have Li:=ac d.bV[i] (eD aB);have Hb:=QF (w:=d.bV[i].kd) Li d.bV[i].ml;have D8:=ajs d.bV[i].kd Li d.bV[i].ml;have k7:=aju (jJ d.bV[i].kd d.bV[i].ml) Hb;have pJ:wI d.bV[i]= ⟨d.bV[i].et,d.bV[i].bG,false,d.bV[i].hr||rR (jJ d.bV[i].kd d.bV[i].ml),jJ d.bV[i].kd d.bV[i].ml⟩:=rfl;have YR:zh d.bV[i]=(rR (jJ d.bV[i].kd d.bV[i].ml)&& !d.bV[i].hr):=rfl;have jn:Lf d d.bV[i]= ⟨d.view.num,d.bV[i].et,d.self,d.bV[i].bG⟩:=rfl;generalize ag:d.bV[i]=x at *;obtain⟨Hc,xs,QK,xQ,YS⟩:=x;simp only[]at Le Li Hb D8 k7 pJ YR jn;generalize jJ YS QK=w at *;generalize rR w=hg at *;repeat' ((conv=>whnf);first|refine bl ?_| (apply bo<;>intro h)|refine ch ?_|refine⟨i,aS ⟨rfl,gM⟩ ?_⟩|refine⟨kR ⟨Hc,xs,QK,xQ,YS⟩,aS Le ?_⟩|refine⟨kR ⟨Hc,xs,QK,xQ,w⟩,Lh gM,?_⟩|refine⟨kR ⟨Hc,xs,false,xQ,w⟩,aS (Lh (by simpa using gM)) ?_⟩|refine⟨kR ⟨Hc,xs,false,true,w⟩,aS (Lh (by simpa using gM)) ?_⟩|refine⟨kR ⟨Hc,xs,false,xQ,w⟩,aS ⟨λh=>h,λ_=>Lh (by simpa using gM)⟩ ?_⟩|refine aS (Lg ajC) ?_|refine aR D8 ?_|refine aR k7 ?_|refine Exists.intro false ?_|fail)
    all_goals(conv=>whnf)
    all_goals refine⟨i+1,aB,by simp only[];omega,?_⟩
    all_goals(conv=>whnf)
    all_goals refine⟨⟨.r,.r,.r,.r,a8 (ca (by omega)),aj⟩,⟨.r,.r,.r,.r,.r,cM ?_,.r,cM ?_,aj⟩,by rfl⟩
    ·rw[NU,NU,<-xr,pJ,oj];have QL: (xQ||hg)=true:=by
      cases xQ<;>cases hg<;>simp_all
     rw[QL];rfl
    ·rw[ajB,YR,h,b6,ew,jn];rfl
    ·rw[NU,<-xr,pJ,oj];have QL: (xQ||hg)=xQ:=by
      cases xQ<;>cases hg<;>simp_all
     rw[QL];rfl
    grind
   ·have:i=d.bV.length:=by
     grind
    subst this;rw[YM];repeat' ((conv=>whnf);first|exact .refl|fail)
def gd:bR:=⟨0,0,0,0⟩
def n3(a:bR):Bool:=decide (0<=a.et)&&decide (a.et<5)&&decide (1<=a.jW)&&decide (a.jW<=1000)&&decide (1<=a.bG)&&decide (a.bG<=1000)
def jv(a b:bR):Bool:=decide (a.bG<b.bG)|| (decide (a.bG=b.bG)&&decide (a.et<b.et))
theorem YT(a:bR):bq Tryz.prog 183 [.agg (ey a)] (.v (.bool (n3 a))):=by
 refine cp (fn:=Tryz.f183) (c:=Tryz.f183.body.getD .skip) az aw (by rfl) Tryz.func183 (by rfl) (by rfl) (by rfl) (by rfl) ?_;repeat' ((conv=>whnf);first|refine bl ?_|exact .refl|fail)
theorem Lj(a b:bR):bq Tryz.prog 120 [.agg (ey a),.agg (ey b)] (.v (.bool (jv a b))):=by
 refine cp (fn:=Tryz.f120) (c:=Tryz.f120.body.getD .skip) az aw (by rfl) Tryz.func120 (by rfl) (by rfl) (by rfl) (by rfl) ?_;repeat' ((conv=>whnf);first|refine bl ?_|exact .refl|refine dE ?_|fail)
def gk(v:aK)(a:bR):Bool:=bif !b2 v|| !decide (a.view=v.num)|| !n3 a then false else decide (a.et<((cQ v.mem a.bG).length:Int))&&decide ((cQ v.mem a.bG).getD a.et.toNat 0=a.jW)
theorem YU(v:aK)(ab:v.mem.length<=maxLen)(a:bR):bq Tryz.prog 119 [.agg (cG v),.agg (ey a)] (.v (.bool (gk v a))):=by
 have aA:=q3 v ab;have aG:=YT a;have bc:=K9 v.mem ab a.bG;have aa:gk v a=bif !b2 v|| !decide (a.view=v.num)|| !n3 a then false else decide (a.et<((cQ v.mem a.bG).length:Int))&&decide ((cQ v.mem a.bG).getD a.et.toNat 0=a.jW):=rfl;have ao:n3 a=true->0<=a.et:=λh=>by
  simp only[n3,cq,fx]at h;omega
 generalize cQ v.mem a.bG=R at bc aa;generalize n3 a=ajD at *;generalize b2 v=vc at *;generalize gk v a=res at *;refine cp (fn:=Tryz.f119) (c:=Tryz.f119.body.getD .skip) az aw (by rfl) Tryz.func119 (by rfl) (by rfl) (by rfl) (by rfl) ?_;repeat' ((conv=>whnf);first|refine bl ?_| (apply bo<;>intro h)|refine dE ?_|refine aR aA ?_|refine ea aG ?_|fail)
 ·rw[aa,h];exact .refl
 ·have QM:ajD=true:=by
   grind
  have aQ:=ao QM;rw[h,bD]at aa;clear h;have kv:decide (a.et<((R.map aU).length:Int))=true->a.et=((a.et.toNat:Nat):Int)/\(R.map aU)[a.et.toNat]?=some (aU (R.getD a.et.toNat 0)):=λh=>by
   grind
  repeat' ((conv=>whnf);first|refine bl ?_|refine ch ?_|refine dE ?_|refine aR bc ?_|refine⟨a.et.toNat,aU (R.getD a.et.toNat 0),aS ⟨⟨λh=>h,λh=>h⟩,λh=>kv h⟩ ?_⟩|fail)
  all_goals(conv=>whnf)
  refine gQ ?_
  grind
def vd(v:aK)(l:List bR)(i:Nat):Bool:=gk v (l.getD i gd)&& !(decide (0<(i:Int))&& !jv (l.getD (i-1) gd) (l.getD i gd))
def dG(v:aK)(l:List bR):Bool:=bif !b2 v then false else ij (vd v l) l.length
theorem D9(v:aK)(ab:v.mem.length<=maxLen)(l:List bR)(af:l.length<=maxLen):bq Tryz.prog 64 [.agg (cG v),.av 4 (l.map ey) false] (.v (.bool (dG v l))):=by
 have hK:l.length<=9223372036854775807:=af;have aA:=q3 v ab;have aa:dG v l=bif !b2 v then false else ij (vd v l) l.length:=rfl;have n1:=YU v ab;generalize dG v l=res at *;generalize b2 v=vc at *;refine cp (fn:=Tryz.f64) (c:=Tryz.f64.body.getD .skip) az aw (by rfl) Tryz.func64 (by rfl) (by rfl) (by rfl) (by rfl) ?_;repeat' ((conv=>whnf);first| (apply bo<;>intro h)|refine aR aA ?_|fail)
 all_goals(conv=>whnf)
 ·rw[aa,h];exact .refl
 ·rw[h,bD]at aa;clear h;subst aa;refine⟨Nat,λi=>⟨[(1,.av 4 (l.map ey) false),(2,.aW 0 0),(10,.av 4 (l.map ey) false),(11,i64 l.length),(12,i64 i)],[.cells 24 (cG v)]⟩,λi=>i<=l.length/\∀j,j<i->vd v l j=true,λi=>l.length-i,[],⟨0,⟨bZ _,by omega⟩,?_⟩,?_⟩
  ·conv=>whnf
   exact⟨⟨.r,.r,.r,a8 (by simp),.r,aj⟩,⟨.r,aj⟩,by rfl⟩
  ·intro i ⟨hi,cF⟩;repeat' ((conv=>whnf);first| (apply bo<;>intro h)|fail)
   ·have aB:i<l.length:=by grind
    clear h;have ax:l.getD i gd=l[i]:=by grind
    have cy:vd v l i=(gk v l[i]&& !(decide (0<(i:Int))&& !jv (l.getD (i-1) gd) l[i])):=by
     unfold vd;rw[ax]
    have cn:=n1 l[i];have ep:=Lj (l.getD (i-1) gd) l[i];have kv:decide ((i:Int)>0)=true->IntKind.i64.wrap ((i:Int)-1)=((i-1:Nat):Int)/\(l.map ey)[i-1]?=some (ey (l.getD (i-1) gd)):=λh=>by
     have h:=fC h;have:i-1<l.length:=by omega
     refine⟨by rw[dQ (by omega) (by omega)];omega,?_⟩
     grind
    have YV:∀c:Bool,(c&&decide ((0:Int)<(i:Int)))=true->IntKind.i64.wrap ((i:Int)-1)=((i-1:Nat):Int)/\(l.map ey)[i-1]?=some (ey (l.getD (i-1) gd)):=λc h=>by
     grind
    generalize gk v l[i]=QN at cn cy;generalize jv (l.getD (i-1) gd) l[i]=QO at ep cy;generalize l.getD (i-1) gd=aW at ep YV;repeat' ((conv=>whnf);first|refine bl ?_| (apply bo<;>intro h)|refine ch ?_|refine dE ?_|refine⟨_,_,aS ⟨rfl,du aB⟩ ?_⟩|refine aR cn ?_|refine⟨i-1,ey aW,aS ⟨⟨λh=>h,λh=>h⟩,λh=>YV _ h⟩ ?_⟩|refine ea ep ?_|fail)
    all_goals(conv=>whnf)
    have ac:vd v l i= !(!QN|| (decide ((0:Int)<(i:Int))&& !QO)):=by
     grind
    ·rw[tF aB (by grind)];exact .refl
    ·have ac:vd v l i= !(!QN|| (decide ((0:Int)<(i:Int))&& !QO)):=by
      grind
     refine⟨i+1,⟨aB,λj aq=> ?_⟩,by grind,?_⟩
     ·grind
     ·conv=>whnf
      exact⟨⟨.r,.r,.r,.r,a8 (ca (by omega)),aj⟩,⟨.r,aj⟩,by rfl⟩
   ·have fU:¬i<l.length:=by grind
    conv=>whnf
    refine gQ ?_;rw[iA.2 (λj aq=>cF j (by omega))]
theorem YW{α:Type}{p:α->Bool}{d:α}:∀ {l:List α} {k:Nat},k<=l.length->(∀j,j<k->p (l.getD j d)=true)->(k=l.length\/p (l.getD k d)=false)->(l.takeWhile p).length=k
 | [],k,h,_,_=>by
  simp_all
 |x::t,0,_,_,ad=>by
  simp_all
 |x::t,k+1,h,h1,ad=>by
  have ag:p x=true:=by simpa using h1 0 (by omega)
  have a1:=YW (p:=p) (d:=d) (l:=t) (k:=k) (by grind) (λj aq=>by grind) (by grind)
  simp_all
def tN(l:List bR)(a:bR):Nat:=(l.takeWhile λx=>jv x a).length
def k9(l:List bR)(a:bR):List bR×Bool:=bif decide (((tN l a:Nat):Int)<(l.length:Int))&& !jv a (l.getD (tN l a) gd)then(l,false)else(l.take (tN l a)++ [a]++l.drop (tN l a),true)
theorem Hd(l:List bR)(af:l.length<=1000000):bq Tryz.prog 81 [.av 4 (l.map ey) false] (.av 4 (l.map ey) false):=by
 refine cp (fn:=Tryz.f81) (c:=Tryz.f81.body.getD .skip) az aw (by rfl) Tryz.func81 (by rfl) (by rfl) (by rfl) (by rfl) ?_;repeat' ((conv=>whnf);first|refine bl ?_|fail)
 refine aS (λow=> ?_) ?_
 ·repeat' ((conv=>whnf);first|refine bl ?_|fail)
  all_goals(conv=>whnf)
  rw[ow];exact .ar
 ·repeat' ((conv=>whnf);first|refine bl ?_|fail)
  all_goals(conv=>whnf)
  refine aS (Lg (by grind)) ?_;repeat' ((conv=>whnf);first|exact .refl|fail)
theorem YX(l:List bR)(af:l.length<=1000000)(a:bR):bq Tryz.prog 145 [.av 4 (l.map ey) false,.agg (ey a)] (.be [.av 4 ((k9 l a).1.map ey) false,.v (.bool (k9 l a).2)]):=by
 refine cp (fn:=Tryz.f145) (c:=Tryz.f145.body.getD .skip) az aw (by rfl) Tryz.func145 (by rfl) (by rfl) (by rfl) (by rfl) ?_;repeat' ((conv=>whnf);first|refine bl ?_|fail)
 all_goals(conv=>whnf)
 refine⟨Nat,λi=>⟨[(0,.av 4 (l.map ey) false),(3,.aW 0 0),(6,i64 i)],[.cells 147 (ey a)]⟩,λi=>i<=l.length/\∀j,j<i->jv (l.getD j gd) a=true,λi=>l.length-i,[],⟨0,⟨bZ _,by omega⟩,?_⟩,?_⟩
 ·conv=>whnf
  exact⟨⟨.r,.r,.r,aj⟩,⟨.r,aj⟩,by rfl⟩
 ·intro i ⟨hi,cF⟩;have hb:decide ((i:Int)<((l.map ey).length:Int))=true->(l.map ey)[i]?=some (ey (l.getD i gd)):=λh=>by
   grind
  have aA:=Lj (l.getD i gd) a;have aG:=Lj a (l.getD i gd);have ap: (i=l.length\/jv (l.getD i gd) a=false)->tN l a=i:=λh=>YW hi cF h;have b1:tN l a=i->k9 l a=bif decide ((i:Int)<(l.length:Int))&& !jv a (l.getD i gd)then(l,false)else(l.take i++ [a]++l.drop i,true):=λh=>by
   unfold k9;rw[h]
  have Lk:jv (l.getD i gd) a=true->∀j,j<i+1->jv (l.getD j gd) a=true:=λh j aq=>by
   grind
  generalize k9 l a=res at *;generalize jv (l.getD i gd) a=cX at *;generalize jv a (l.getD i gd)=c0 at *;generalize l.getD i gd=li at hb aA aG;repeat' ((conv=>whnf);first|refine bl ?_| (apply bo<;>intro h)|refine ch ?_|refine dE ?_|refine⟨i,ey li,aS ⟨⟨λh=>h,λh=>h⟩,λax=>⟨rfl,hb ax⟩⟩ ?_⟩|refine ea aA ?_|fail)
  all_goals(conv=>whnf)
  ·have bp:=h;rw[cq,fx,bL]at bp;refine⟨i+1,⟨by omega,Lk bp.2⟩,by grind,?_⟩;conv=>whnf
   exact⟨⟨.r,.r,a8 (ca (by omega)),aj⟩,⟨.r,aj⟩,by rfl⟩
  ·rw[vI,ib,bL]at h;have hk:=ap (by grind);have ao:=b1 hk;clear h ap b1 hk Lk cF aA;have j9:=Hd l af;repeat' ((conv=>whnf);first|refine bl ?_| (apply bo<;>intro h)|refine ch ?_|refine dE ?_|refine ea aG ?_|refine aR j9 ?_|fail)
   all_goals(conv=>whnf)
   ·rw[bL]at h;rw[ao,h];exact .refl
   ·rw[bL]at h;rw[ao,h,bD];clear ao;repeat' ((conv=>whnf);first|refine ch ?_|refine⟨0,i,aS ⟨rfl,⟨_,rfl⟩,⟨_,rfl⟩,bZ _,by simpa using hi⟩ ?_⟩|refine⟨i,aS ⟨⟨_,rfl⟩,by simpa using hi⟩ ?_⟩|refine aS (Lg (by simp<;>omega)) ?_|refine .inl (aS (N3 _) ?_)|refine Exists.intro false ?_|fail)
    all_goals(conv=>whnf)
    refine e1 ⟨jI ?_,.r,aj⟩;rw[List.drop_zero,<-yt,<-yr,ew,ew];rfl
def nH(v:aK)(l:List bR)(a:bR):List bR×Bool×Int:=bif !dG v l|| !n3 a then([],false,1)else bif !decide (a.view=v.num)then([],false,8)else bif !gk v a then([],false,6)else((k9 l a).1,(k9 l a).2,0)
theorem ajE(v:aK)(ab:v.mem.length<=maxLen)(l:List bR)(af:l.length<=1000000)(a:bR):bq Tryz.prog 161 [.agg (cG v),.av 4 (l.map ey) false,.agg (ey a)] (.be [.av 4 ((nH v l a).1.map ey) false,.v (.bool (nH v l a).2.1),i64 (nH v l a).2.2]):=by
 have aA:=D9 v ab l (by simp only[maxLen];omega);have aG:=YT a;have bc:=YU v ab a;have cn:=YX l af a;have aa:nH v l a=bif !dG v l|| !n3 a then([],false,1)else bif !decide (a.view=v.num)then([],false,8)else bif !gk v a then([],false,6)else((k9 l a).1,(k9 l a).2,0):=rfl;generalize nH v l a=res at *;generalize dG v l=cX at *;generalize n3 a=c0 at *;generalize gk v a=iu at *;generalize k9 l a=ins at *;obtain⟨i1,i2⟩:=ins;simp only[]at cn aa;refine cp (fn:=Tryz.f161) (c:=Tryz.f161.body.getD .skip) az aw (by rfl) Tryz.func161 (by rfl) (by rfl) (by rfl) (by rfl) ?_;repeat' ((conv=>whnf);first|refine bl ?_| (apply bo<;>intro h)|refine aR aA ?_|refine ea aG ?_|refine aR bc ?_|refine aR cn ?_|fail)
 all_goals(conv=>whnf)
 ·rw[aa,h];exact e1 ⟨.ar,.r,.r,aj⟩
 ·rename_i h1;rw[aa,h1,h];exact e1 ⟨.ar,.r,.r,aj⟩
 ·rename_i h1 ad;rw[aa,h1,ad,h];exact e1 ⟨.ar,.r,.r,aj⟩
 ·rename_i h1 ad;rw[aa,h1,ad,h];exact .refl
theorem YY{l:List (List ak)}{z:List ak}:l.take (List.replicate l.length z).length++(List.replicate l.length z).drop l.length=l:=by
 simp
theorem rT(h:n<=2000000):kL ah 5 n:=by
 have e: (aE ah 5).bytes=1:=by rfl
 refine⟨?_,?_⟩
 ·grind
 ·simp only[maxLen];omega
theorem YZ(h:n<=2000000):n* (aE ah 5).bytes<=140737488355328/\n<=maxLen:=rT h
theorem QP(l:List Nat)(af:l.length<=1000000):cj Tryz.prog 133 [] [.av 1 (l.map bE) false,i64 10] [] [.row 5 1 (l.map bE)] (.own 0):=by
 have al:IntKind.i64.wrap (((l.map bE).length:Int)+10)=((l.length+10:Nat):Int):=by
  rw[bL,dQ (by omega) (by omega)];omega
 have f1:=YZ (n:=l.length+10) (by omega);refine ik (fn:=Tryz.f133) (c:=Tryz.f133.body.getD .skip) az aw (by rfl) Tryz.func133 (by rfl) (by rfl) (by rfl) (by rfl) (by rfl) ?_;repeat' ((conv=>whnf);first|refine bl ?_|fail)
 all_goals(conv=>whnf)
 refine⟨(l.map bE).length,l.length+10,rfl,al,by simp,f1.1,f1.2,?_⟩;repeat' ((conv=>whnf);first|refine bl ?_|fail)
 all_goals(conv=>whnf)
 exact⟨.r,⟨cM YY,aj⟩,by rfl⟩
def n4:Nat->Nat->List Nat
 |0,v=>[v%256]
 |k+1,v=>if v<128 then [v]else(v%128+128)::n4 k (v/128)
def bB(v:Nat):List Nat:=n4 9 v
theorem ajF(w:Nat):bits .or .u8 (IntKind.u8.wrap (w:Int)) 128=((w%128+128:Nat):Int):=by
 have h:∀b:Fin 256,bits .or .u8 ((b.1:Nat):Int) 128=((b.1%128+128:Nat):Int):=by decide+kernel
 have h:=h ⟨w%256,uw _ (by decide)⟩;have e:IntKind.u8.wrap (w:Int)=((w%256:Nat):Int):=by
  rfl
 grind
theorem ajG(w:Nat): (w:Int).fdiv (2^ (min (7:Int).toNat 64))=((w/128:Nat):Int):=(Int.ofNat_fdiv w 128).symm
theorem rU{d:ak}:hz (.cB [d]) (.cB [.aY]):=.cB rfl λi a b bb ac=>by
 cases i with
 |zero=>
  simp at bb ac;subst bb ac;exact .aY
 |succ n=>grind
theorem Ea(l:List Nat)(af:l.length<=1000000)(v:Nat)(ab:v<18446744073709551616):cj Tryz.prog 158 [.row 5 1 (l.map bE)] [.own 0,u64 v] [false] [.row 5 1 ((l++bB v).map bE),.bn] (.own 0):=by
 refine ik (fn:=Tryz.f158) (c:=Tryz.f158.body.getD .skip) az aw (by rfl) Tryz.func158 (by rfl) (by rfl) (by rfl) (by rfl) (by rfl) ?_;repeat' ((conv=>whnf);first|refine bl ?_|fail)
 all_goals(conv=>whnf)
 refine⟨List Nat×Nat×Nat,λx=>⟨[(0,.own 0),(1,u64 x.2.1)],[.row 5 1 (x.1.map bE),.cB [.aY]]⟩,λx=>x.1++n4 x.2.2 x.2.1=l++bB v/\x.2.1<128^ (x.2.2+1)/\x.1.length+x.2.2<=l.length+9,λx=>x.2.2,[],⟨⟨l,v,9⟩,⟨rfl,by grind,bS _⟩,?_⟩,?_⟩
 ·conv=>whnf
  exact⟨⟨.r,.r,aj⟩,⟨.r,rU,aj⟩,by rfl⟩
 ·intro ⟨es,w,k⟩ ⟨hi,hw,hk⟩;simp only[]at hi hw hk;have aH:=ajF w;have ae:=ajG w;have au: (es.map bE).length+1<=2000000:=by
   grind
  repeat' ((conv=>whnf);first| (apply bo<;>intro h)|refine aS (rT au) ?_| (refine aS ?_ ?_;focus (simp;done))|fail)
  all_goals(conv=>whnf)
  ·have He:128<=w:=by
    grind
   clear h;obtain⟨k,rfl⟩:∃m,k=m+1:=by
    cases k with
    |zero=>omega
    |succ m=>simp
   rw[n4,bm (by omega)]at hi;refine⟨⟨es++ [w%128+128],w/128,k⟩,⟨by grind,?_,by grind⟩,by simp,?_⟩
   ·grind
   ·conv=>whnf
    refine⟨⟨.r,a8 ae,aj⟩,⟨cM ?_,rU,aj⟩,by rfl⟩;show es.map bE++ [[.v (.int .u8 (bits .or .u8 (IntKind.u8.wrap (w:Int)) 128))]]=_;rw[aH,ew];rfl
  ·have He:w<128:=by
    grind
   clear h;have hL:n4 k w=[w]:=by
    cases k with
    |zero=>rw[n4,se (by omega)]
    |succ m=>rw[n4,b3 He]
   rw[hL]at hi;have QQ:IntKind.u8.wrap (w:Int)=(w:Int):=by
    simp only[IntKind.wrap,IntKind.bits,IntKind.signed]
    grind
   refine⟨.r,⟨cM ?_,rU,aj⟩,by rfl⟩;show es.map bE++ [[.v (.int .u8 (IntKind.u8.wrap (w:Int)))]]=_;rw[<-hi,QQ,ew];rfl
theorem hP:∀ (k v:Nat),(n4 k v).length<=k+1
 |0,v=>by simp[n4]
 |k+1,v=>by
  rw[n4];split
  ·simp
  ·simpa using hP k (v/128)
theorem Bk(l:List Nat)(af:l.length<=900000)(v:Nat)(ab:v<18446744073709551616):bq Tryz.prog 99 [.av 1 (l.map bE) false,u64 v] (.av 1 ((l++bB v).map bE) false):=by
 have m1:=QP l (by omega);have m2:=Ea l (by omega) v ab;refine cp (fn:=Tryz.f99) (c:=Tryz.f99.body.getD .skip) az aw (by rfl) Tryz.func99 (by rfl) (by rfl) (by rfl) (by rfl) ?_;repeat' ((conv=>whnf);first|exact .refl|refine .inr ⟨[],bO m1 ?_⟩|refine .inr ⟨[0],bO m2 ?_⟩|fail)
def tO(i:Nat)(b:Nat)(aL:Int):Int:=bits .or .u64 aL (IntKind.u64.wrap (IntKind.u64.wrap (bits .and .u8 (b:Int) 127) *2^ (min (IntKind.i64.wrap (7* (i:Int))).toNat 64)))
def xR(i:Nat)(b:Nat):Bool:=(decide ((i:Int)=9)&&decide (1<(b:Int)))|| (decide (0<(i:Int))&&decide ((b:Int)=0))
def eh:List Nat->Nat->Int->Int×Int×Int
 | [],_,_=>(0,0,2)
 |b::r,i,aL=>bif xR i b then(0,0,3)else bif decide ((b:Int)<128)then(tO i b aL,(i:Int)+1,0)else eh r (i+1) (tO i b aL)
theorem ajH{l:List Nat}{i:Nat}(h:i<l.length)(aL:Int):eh (l.drop i) i aL=bif xR i l[i]then(0,0,3)else bif decide ((l[i]:Int)<128)then(tO i l[i] aL,(i:Int)+1,0)else eh (l.drop (i+1)) (i+1) (tO i l[i] aL):=by
 rw[vK h,eh]
theorem Bl(l:List Nat)(af:l.length<=1000000):bq Tryz.prog 134 [.av 1 (l.map bE) false] (.be [u64 (eh l 0 0).1,i64 (eh l 0 0).2.1,i64 (eh l 0 0).2.2]):=by
 have ae:∀i (h:i<l.length) aL,eh (l.drop i) i aL=bif xR i l[i]then(0,0,3)else bif decide ((l[i]:Int)<128)then(tO i l[i] aL,(i:Int)+1,0)else eh (l.drop (i+1)) (i+1) (tO i l[i] aL):=λi h aL=>ajH h aL;have he:∀aL,eh (l.drop l.length) l.length aL=(0,0,2):=λaL=>by rw[CB,eh]
 have aQ:eh (l.drop 0) 0 0=eh l 0 0:=rfl;generalize eh l 0 0=R at *;refine fX Tryz.func134 ?_;repeat' ((conv=>whnf);first|refine bl ?_|fail)
 all_goals(conv=>whnf)
 refine⟨Nat×Int,λx=>⟨[(2,u64 x.2),(7,.av 1 (l.map bE) false),(8,i64 l.length),(9,i64 x.1)],[]⟩,λx=>x.1<=l.length/\eh (l.drop x.1) x.1 x.2=R,λx=>l.length-x.1,[],⟨⟨0,0⟩,⟨bZ _,aQ⟩,?_⟩,?_⟩
 ·conv=>whnf
  exact⟨⟨.r,.r,a8 (by simp),.r,aj⟩,aj,by rfl⟩
 ·intro ⟨i,aL⟩ ⟨hi,b1⟩;simp only[]at hi b1;repeat' ((conv=>whnf);first| (apply bo<;>intro h)|fail)
  ·have aB:i<l.length:=by simpa using h
   clear h;have ae:=ae i aB aL;rw[b1]at ae;have ac:xR i l[i]=((decide ((i:Int)=9)&&decide (1<(l[i]:Int)))|| (decide (0<(i:Int))&&decide ((l[i]:Int)=0))):=rfl;have bU:tO i l[i] aL=bits .or .u64 aL (IntKind.u64.wrap (IntKind.u64.wrap (bits .and .u8 (l[i]:Int) 127) *2^ (min (IntKind.i64.wrap (7* (i:Int))).toNat 64))):=rfl;have ajI:0<=IntKind.i64.wrap (7* (i:Int)):=by rw[dQ (by omega) (by omega)];omega
   generalize tO i l[i] aL=y4 at *;generalize xR i l[i]=QR at *;repeat' ((conv=>whnf);first|refine bl ?_| (apply bo<;>intro h)|refine dE ?_|refine⟨_,_,aS ⟨rfl,du aB⟩ ?_⟩|refine aS ajI ?_|fail)
   all_goals(conv=>whnf)
   ·have Bm:QR=true:=ac.trans h;rw[ae,Bm];exact .refl
   ·rename_i h1;have QS:QR=false:=ac.trans h1;rw[ae,QS,h];exact e1 ⟨a8 bU.symm,a8 (ca (by omega)),.r,aj⟩
   ·rename_i h1;have QS:QR=false:=ac.trans h1;rw[QS,h,bD,bD]at ae;refine⟨⟨i+1,y4⟩,⟨aB,ae.symm⟩,by simp only[];omega,?_⟩;conv=>whnf
    exact⟨⟨a8 bU.symm,.r,.r,a8 (ca (by omega)),aj⟩,aj,by rfl⟩
  ·have:i=l.length:=by
    simp at h;omega
   subst this;rw[he]at b1;subst b1;conv=>whnf
   exact .refl
theorem ajJ{a b k:Nat}(bb:a<2^k)(ae:a+b*2^k<18446744073709551616):bits .or .u64 (a:Int) ((b*2^k:Nat):Int)=((a+b*2^k:Nat):Int):=by
 have h1:a<2^64:=by omega
 have ad:b*2^k<2^64:=by omega
 have e: (BitVec.ofInt 64 (a:Int)|||BitVec.ofInt 64 ((b*2^k:Nat):Int)).toNat=a+b*2^k:=by
  rw[BitVec.toNat_or,Ff,Ff,Fg,Fg,se h1,se ad];rw[Nat.or_comm,Ah b,<-Nat.two_pow_add_eq_or_of_lt bb,NX]
 show IntKind.u64.wrap ((BitVec.ofInt 64 (a:Int)|||BitVec.ofInt 64 ((b*2^k:Nat):Int)).toNat:Int)=_;rw[e];exact kc (by omega) (by omega)
theorem ajK{b:Nat}(h:b<256):bits .and .u8 (b:Int) 127=((b%128:Nat):Int):=by
 have bp:∀b:Fin 256,bits .and .u8 ((b.1:Nat):Int) 127=((b.1%128:Nat):Int):=by decide+kernel
 exact bp ⟨b,h⟩
theorem Y0{b aL:Nat}(hi:i<=9)(ac:b<256)(bb:aL<2^ (7*i))(ae:aL+b%128*2^ (7*i)<18446744073709551616):tO i b aL=((aL+b%128*2^ (7*i):Nat):Int):=by
 unfold tO;have az:min (IntKind.i64.wrap (7* (i:Int))).toNat 64=7*i:=by
  rw[dQ (by omega) (by omega)];omega
 rw[az,ajK ac,kc (n:=((b%128:Nat):Int)) (by omega) (by omega)];have an: ((2:Int)^ (7*i))=((2^ (7*i):Nat):Int):=(Int.natCast_pow 2 (7*i)).symm;rw[an,<-Int.natCast_mul,kc (n:=((b%128*2^ (7*i):Nat):Int)) (by omega) (by omega)];exact ajJ bb ae
theorem ajL(rest:List Nat):∀ (k v i aL:Nat),v<128^ (k+1)->i+k=9->(0<i->0<v)->aL<2^ (7*i)->aL+v*2^ (7*i)<18446744073709551616->eh (n4 k v++rest) i (aL:Int)=(((aL+v*2^ (7*i):Nat):Int),((i+(n4 k v).length:Nat):Int),0):=by
 intro k;have eE:∀ (v i aL:Nat),v<128->i<=9->(0<i->0<v)->aL<2^ (7*i)->aL+v*2^ (7*i)<18446744073709551616->eh (v::rest) i (aL:Int)=(((aL+v*2^ (7*i):Nat):Int),((i+1:Nat):Int),0):=by
  intro v i aL ab hi fF bb ae;have QT:xR i v=false:=by
   unfold xR
   grind
  have az:v%128=v:=se ab;rw[eh,QT,bD,e4 (show (v:Int)<128 by omega),b6,Y0 hi (by omega) bb (by grind),az];rfl
 induction k with
 |zero=>
  intro v i aL ab hi fF bb ae;have ab:v<128:=by omega
  have e:n4 0 v=[v]:=by rw[n4,se (by omega)]
  grind
 |succ k a1=>
  intro v i aL ab hi fF bb ae;rw[n4];by_cases h:v<128
  ·grind
  ·rw[bm h];have an:0<2^ (7*i):=Nat.pow_pos (by decide);have aa:v=v%128+128* (v/128):=by omega
   have hmul:v*2^ (7*i)=v%128*2^ (7*i)+v/128*2^ (7* (i+1)):=by
    grind
   have QT:xR i (v%128+128)=false:=by
    unfold xR
    grind
   have az: (v%128+128)%128=v%128:=by omega
   have bU:=Y0 (i:=i) (b:=v%128+128) (aL:=aL) (by omega) (by omega) bb (by grind);rw[az]at bU;rw[rq,eh,QT,bD,c5 (show ¬(((v%128+128:Nat):Int)<128) by omega),bD,bU];have lA:aL+v%128*2^ (7*i)<2^ (7* (i+1)):=by
    have e:2^ (7* (i+1))=2^ (7*i) *128:=by
     grind
    rw[e];have:v%128*2^ (7*i)<=127*2^ (7*i):=kI _ (by omega);omega
   have tB:v/128<128^ (k+1):=by
    omega
   rw[a1 (v/128) (i+1) (aL+v%128*2^ (7*i)) tB (by omega) (λ_=>by omega) lA (by omega)]
   grind
theorem zi{v:Nat}(ab:v<18446744073709551616)(rest:List Nat):eh (bB v++rest) 0 0=((v:Int),(((bB v).length:Nat):Int),0):=by
 have h:=ajL rest 9 v 0 0 (by omega) rfl (λh=>by omega) (by decide) (by omega);simp only[Nat.mul_zero,Nat.pow_zero,CO,ux]at h;exact h
theorem Ll(l:List Nat)(af:l.length<=1000000)(k:Nat)(hk:k<=900000):cj Tryz.prog 133 [] [.av 1 (l.map bE) false,i64 k] [] [.row 5 1 (l.map bE)] (.own 0):=by
 have al:IntKind.i64.wrap (((l.map bE).length:Int)+(k:Int))=((l.length+k:Nat):Int):=by
  rw[bL,dQ (by omega) (by omega)];omega
 have f1:=YZ (n:=l.length+k) (by omega);refine ik (fn:=Tryz.f133) (c:=Tryz.f133.body.getD .skip) az aw (by rfl) Tryz.func133 (by rfl) (by rfl) (by rfl) (by rfl) (by rfl) ?_;repeat' ((conv=>whnf);first|refine bl ?_|fail)
 all_goals(conv=>whnf)
 refine⟨(l.map bE).length,l.length+k,rfl,al,by simp,f1.1,f1.2,?_⟩;repeat' ((conv=>whnf);first|refine bl ?_|fail)
 all_goals(conv=>whnf)
 exact⟨.r,⟨cM YY,aj⟩,by rfl⟩
def zj(s:Int):Int:=bits .xor .u32 (s.fdiv (2^ (min (1:Int).toNat 32))) (IntKind.u32.wrap (3988292384*bits .and .u32 s 1))
def sG(s:Int):Nat->Int
 |0=>s
 |k+1=>zj (sG s k)
def tP(l:List Nat):Nat->Int
 |0=>4294967295
 |i+1=>sG (bits .xor .u32 (tP l i) (IntKind.u32.wrap ((l.getD i 0:Nat):Int))) 8
def rV(l:List Nat):Int:=bits .xor .u32 (if IntKind.u32.signed=true then -1 else IntKind.u32.max) (tP l l.length)
theorem QU(l:List Nat)(af:l.length<=1000000):bq Tryz.prog 132 [.av 1 (l.map bE) false] (.v (.int .u32 (rV l))):=by
 refine cp (fn:=Tryz.f132) (c:=Tryz.f132.body.getD .skip) az aw (by rfl) Tryz.func132 (by rfl) (by rfl) (by rfl) (by rfl) ?_;repeat' ((conv=>whnf);first|refine bl ?_|fail)
 all_goals(conv=>whnf)
 refine⟨Nat,λi=>⟨[(3,.v (.int .u32 (tP l i))),(6,.av 1 (l.map bE) false),(7,i64 l.length),(8,i64 i)],[]⟩,λi=>i<=l.length,λi=>l.length-i,[],⟨0,bZ _,?_⟩,?_⟩
 ·conv=>whnf
  exact⟨⟨.r,.r,a8 (by simp),.r,aj⟩,aj,by rfl⟩
 ·intro i hi;repeat' ((conv=>whnf);first| (apply bo<;>intro h)|fail)
  all_goals(conv=>whnf)
  ·have aB:i<l.length:=by grind
   clear h;have ax:l.getD i 0=l[i]:=by grind
   have hx:tP l (i+1)=sG (bits .xor .u32 (tP l i) (IntKind.u32.wrap ((l.getD i 0:Nat):Int))) 8:=rfl;rw[ax]at hx;generalize tP l i=a at *;have qn: (l.map bE)[i]?=some (bE l[i]):=du aB;obtain⟨y,bk⟩:∃y,y=l[i]:=⟨_,rfl⟩
   rw[<-bk]at qn hx;repeat' ((conv=>whnf);first|refine⟨i,bE y,aS ⟨rfl,qn⟩ ?_⟩|fail)
   all_goals(conv=>whnf)
   refine⟨Nat,λk=>⟨[(3,.v (.int .u32 (sG (bits .xor .u32 a (IntKind.u32.wrap (y:Int))) k))),(6,.av 1 (l.map bE) false),(7,i64 l.length),(8,i64 i),(16,i64 k)],[]⟩,λk=>k<=8,λk=>8-k,[],⟨0,bZ _,?_⟩,?_⟩
   ·conv=>whnf
    exact⟨⟨.r,.r,.r,.r,.r,aj⟩,aj,by rfl⟩
   ·intro k hk;have DW:sG (bits .xor .u32 a (IntKind.u32.wrap (y:Int))) (k+1)=zj (sG (bits .xor .u32 a (IntKind.u32.wrap (y:Int))) k):=rfl;unfold zj at DW;have xS:k=8->sG (bits .xor .u32 a (IntKind.u32.wrap (y:Int))) k=tP l (i+1):=λe=>by grind
    repeat' ((conv=>whnf);first| (apply bo<;>intro h)| (refine aS ?_ ?_;focus (simp;done))|fail)
    all_goals(conv=>whnf)
    ·have ve:k<8:=by
      grind
     clear h;refine⟨k+1,ve,by grind,?_⟩;conv=>whnf
     exact⟨⟨a8 DW.symm,.r,.r,.r,a8 (ca (by omega)),aj⟩,aj,by rfl⟩
    ·have ve:k=8:=by
      grind
     clear h;refine⟨i+1,aB,by grind,?_⟩;conv=>whnf
     exact⟨⟨a8 (xS ve),.r,.r,a8 (ca (by omega)),aj⟩,aj,by rfl⟩
  ·have cS:i=l.length:=by
    grind
   subst cS;exact .refl
def Eb(n:Int):List Int:=[IntKind.u8.wrap n,IntKind.u8.wrap (n.fdiv (2^ (min (8:Int).toNat 32))),IntKind.u8.wrap (n.fdiv (2^ (min (16:Int).toNat 32))),IntKind.u8.wrap (n.fdiv (2^ (min (24:Int).toNat 32)))]
def qp(n:Int):List Nat:=(Eb n).map (·.toNat)
theorem ajM(n:Int): ((IntKind.u8.wrap n).toNat:Int)=IntKind.u8.wrap n:=by
 have e:IntKind.u8.wrap n=n%256:=by rfl
 omega
theorem QV(n:Int): (Eb n).map (λx=>[ak.v (.int .u8 x)])=(qp n).map bE:=by
 simp only[qp,Eb,oi,w3,bE,ajM]
theorem ajN(n:Int):bq Tryz.prog 131 [.ar,.v (.int .u32 n)] (.av 1 ((qp n).map bE) false):=by
 rw[<-QV];refine cp (fn:=Tryz.f131) (c:=Tryz.f131.body.getD .skip) az aw (by rfl) Tryz.func131 (by rfl) (by rfl) (by rfl) (by rfl) ?_;repeat' ((conv=>whnf);first|exact .refl|refine aS (rT (by simp<;>omega)) ?_| (refine aS ?_ ?_;focus (simp;done))|fail)
def xT(l:List Nat)(eS:Int):Int×Int×Int:=
 bif decide (eS<0)then(0,0,1)else bif !decide ((eh l 0 0).2.2=0)then(0,0,(eh l 0 0).2.2)else bif decide (IntKind.u64.wrap eS<(eh l 0 0).1)then(0,0,5)else(IntKind.i64.wrap (eh l 0 0).1,(eh l 0 0).2.1,0)
theorem Y1(l:List Nat)(af:l.length<=1000000)(eS:Int):bq Tryz.prog 130 [.av 1 (l.map bE) false,i64 eS] (.be [i64 (xT l eS).1,i64 (xT l eS).2.1,i64 (xT l eS).2.2]):=by
 have e:=Bl l af;obtain⟨R,b1⟩:∃R,R=xT l eS:=⟨_,rfl⟩
 rw[<-b1];unfold xT at b1;generalize eh l 0 0=U at *;refine cp (fn:=Tryz.f130) (c:=Tryz.f130.body.getD .skip) az aw (by rfl) Tryz.func130 (by rfl) (by rfl) (by rfl) (by rfl) ?_;repeat' ((conv=>whnf);first| (apply bo<;>intro h)|refine aR e ?_|fail)
 all_goals(conv=>whnf)
 all_goals(simp only[*,b6,bD]at b1)
 all_goals subst b1
 all_goals exact .refl
theorem Y2(l:List Nat)(af:l.length<=1900000)(n:Int):cj Tryz.prog 131 [.row 5 1 (l.map bE)] [.own 0,.v (.int .u32 n)] [false] [.row 5 1 ((l++qp n).map bE)] (.own 0):=by
 rw[ew,<-QV];refine ik (fn:=Tryz.f131) (c:=Tryz.f131.body.getD .skip) az aw (by rfl) Tryz.func131 (by rfl) (by rfl) (by rfl) (by rfl) (by rfl) ?_;repeat' ((conv=>whnf);first|refine aS (rT (by simp<;>omega)) ?_| (refine aS ?_ ?_;focus (simp;done))|fail)
 all_goals(conv=>whnf)
 all_goals exact⟨.r,⟨cM rfl,rU,aj⟩,by rfl⟩
def hD(k:Nat)(b:List Nat):List Nat:=[65,71,k]++bB b.length++b
def eu(k:Nat)(b:List Nat):List Nat:=hD k b++qp (rV (hD k b))
theorem QW{k:Nat}(h:k<=255):IntKind.u8.wrap (k:Int)=(k:Int):=by
 have e:IntKind.u8.wrap (k:Int)=(k:Int)%256:=by rfl
 omega
theorem Y3(k:Nat)(jk:1<=k)(hk:k<=255)(b:List Nat)(ac:b.length<=800000):bq Tryz.prog 92 [i64 k,.av 1 (b.map bE) false] (.be [.av 1 ((eu k b).map bE) false,i64 0]):=by
 have xS:=QW hk;have fm: [[ak.v (.int .u8 65)],[ak.v (.int .u8 71)],[ak.v (.int .u8 (IntKind.u8.wrap (k:Int)))]]=List.map bE [65,71,k]:=by rw[xS];rfl
 have m1:=Ll [65,71,k] (by simp) (b.length+8) (by omega);have m2:=Ea [65,71,k] (by simp) b.length (by omega);have i0: (bB b.length).length<=10:=hP 9 b.length;have Lm: [65,71,k]++bB b.length++b=hD k b:=rfl;have hH: (hD k b).length<=900000:=by
  unfold hD;simp only[fw,l7,yq];omega
 have bc:=QU (hD k b) (by omega);have oG:=Y2 (hD k b) (by omega) (rV (hD k b));have hw:IntKind.i64.wrap (((b.map bE).length:Int)+8)=((b.length+8:Nat):Int):=by
  rw[bL,dQ (by omega) (by omega)];omega
 have hu:IntKind.u64.wrap ((b.map bE).length:Int)=((b.length:Nat):Int):=by
  rw[bL];exact kc (by omega) (by omega)
 have Hf: (decide ((k:Int)<1)||decide ((255:Int)<k)||decide ((16777216:Int)<((b.map bE).length:Int)))=false:=by
  rw[c5 (by omega),c5 (by omega),bL,c5 (by omega)];rfl
 have zk: ([65,71,k]++bB b.length).map bE++b.map bE=(hD k b).map bE:=by
  rw[<-Lm,ew (l₁:=[65,71,k]++bB b.length)]
 refine fX Tryz.func92 ?_;repeat' ((conv=>whnf);first|refine bl ?_|refine ft (by assumption) ?_|exact .refl|refine .inr ⟨[],[],_,[],_,_,m1,by rfl,aj,⟨jI fm,a8 hw,aj⟩,?_⟩|refine .inr ⟨[1],_,_,_,_,_,m2,by rfl,⟨.r,aj⟩,⟨.r,a8 hu,aj⟩,?_⟩|refine aS (rT (by simp<;>omega)) ?_|refine .inl ⟨[.av 1 ((hD k b).map bE) false],_,⟨jI zk,aj⟩,bc,?_⟩|refine .inr ⟨[1],_,_,_,_,_,oG,by rfl,⟨cM zk,aj⟩,⟨.r,.r,aj⟩,?_⟩|fail)
theorem ajO(k:Nat)(b:List Nat): (eu k b).drop 3=bB b.length++(b++qp (rV (hD k b))):=by
 unfold eu hD;simp
theorem ajP(k:Nat)(b:List Nat): (eu k b).length=3+(bB b.length).length+b.length+4:=by
 unfold eu hD qp Eb
 grind
theorem ajQ(k:Nat){b:List Nat}(ac:b.length<=800000):xT ((eu k b).drop 3) 16777216=((b.length:Int),(((bB b.length).length:Nat):Int),0):=by
 unfold xT;rw[ajO,zi (by omega)];rw[c5 (show ¬(16777216:Int)<0 by omega)];have e:IntKind.u64.wrap 16777216=16777216:=kc (by omega) (by omega);rw[e,c5 (show ¬(16777216:Int)<(b.length:Int) by omega),dQ (by omega) (by omega)];rfl
theorem Hg(k:Nat)(jk:1<=k)(hk:k<=255)(b:List Nat)(ac:b.length<=800000):bq Tryz.prog 73 [.av 1 ((eu k b).map bE) false] (.be [i64 k,.av 1 (b.map bE) false,i64 (eu k b).length,i64 0]):=by
 have i0: (bB b.length).length<=10:=hP 9 b.length;have kQ:=ajP k b;have Y4:=Y1 ((eu k b).drop 3) (by rw[ru];omega) 16777216;rw[ajQ k ac]at Y4;have ajR:=QU (hD k b) (by have: (hD k b).length=3+(bB b.length).length+b.length:=(by unfold hD;simp;omega);omega);have ajS:=ajN (rV (hD k b));have g0: ((eu k b).map bE)[0]?=some (bE 65):=rfl;have g1: ((eu k b).map bE)[1]?=some (bE 71):=rfl;have g2: ((eu k b).map bE)[2]?=some (bE k):=rfl;have qm: ((eu k b).map bE).length=3+(bB b.length).length+b.length+4:=by rw[bL,kQ]
 have rG:decide (((((eu k b).map bE).length:Nat):Int)<3)=false:=c5 (by rw[qm];omega);have Gd:decide ((k:Int)=0)=false:=c5 (by omega);have jF: ((eu k b).map bE).drop 3=((eu k b).drop 3).map bE:=by rw[yr]
 have P3:3<=((eu k b).map bE).length:=by rw[qm];omega
 have bU:IntKind.i64.wrap (3+(((bB b.length).length:Nat):Int))=((3+(bB b.length).length:Nat):Int):=by
  rw[dQ (by omega) (by omega)];omega
 have xm:decide (IntKind.i64.wrap ((((eu k b).map bE).length:Int)-IntKind.i64.wrap (3+(((bB b.length).length:Nat):Int)))<IntKind.i64.wrap ((b.length:Int)+4))=false:=by
  rw[bU,qm,dQ (by omega) (by omega),dQ (by omega) (by omega)];exact c5 (by omega)
 obtain⟨E,auK⟩:∃E,E=3+(bB b.length).length+b.length:=⟨_,rfl⟩
 have cP:IntKind.i64.wrap (IntKind.i64.wrap (3+(((bB b.length).length:Nat):Int))+(b.length:Int))=(E:Int):=by
  rw[bU,dQ (by omega) (by omega)];omega
 have Y5:IntKind.i64.wrap (IntKind.i64.wrap (IntKind.i64.wrap (3+(((bB b.length).length:Nat):Int))+(b.length:Int))+4)=((E+4:Nat):Int):=by
  rw[cP,dQ (by omega) (by omega)];omega
 have Y6:E<=((eu k b).map bE).length:=by omega
 have ajT:E+4<=((eu k b).map bE).length:=by omega
 have ajU: (hD k b).length=E:=by
  unfold hD;simp;omega
 have pJ: (((eu k b).map bE).take E).drop 0=(hD k b).map bE:=by
  rw[List.drop_zero,<-yt];unfold eu;rw[Ja (by omega),w5 (by omega)]
 have Y7: (qp (rV (hD k b))).map bE=((qp (rV (hD k b))).map UInt8.ofNat).map Al:=by
  rw[oU];apply CI;intro x ag;have lS:x<256:=by
   unfold qp Eb at ag;simp only[oi,w3,pt,List.not_mem_nil,or_false]at ag;have key:∀n:Int,(IntKind.u8.wrap n).toNat<256:=λn=>by
    have e:IntKind.u8.wrap n=n%256:=by simp[IntKind.wrap,IntKind.bits,IntKind.signed]
    rw[e];omega
   rcases ag with h|h|h|h<;>rw[h]<;>exact key _
  show bE x=Al (UInt8.ofNat x);unfold bE Al;simp[UInt8.toNat_ofNat_of_lt' lS,se lS]
 have ajV: (((eu k b).map bE).take (E+4)).drop E=((qp (rV (hD k b))).map UInt8.ofNat).map Al:=by
  rw[<-Y7,<-yt,<-yr];unfold eu;rw[w5 (by rw[fw,ajU];simp[qp,Eb]),Fl (by omega),I0 (by omega)];rfl
 have u6: (((eu k b).map bE).take E).drop (3+(bB b.length).length)=b.map bE:=by
  rw[<-yt,<-yr];unfold eu;rw[Ja (by omega),w5 (by omega)];unfold hD;rw[Fl (by simp;omega),I0 (by simp;omega)];rfl
 have ajW:3+(bB b.length).length<=E:=by omega
 have m0:=Ll b (by omega) 0 (by omega);have mg:IntKind.i64.wrap (k:Int)=(k:Int):=dQ (by omega) (by omega);refine fX Tryz.func73 ?_;repeat' ((conv=>whnf);first|refine bl ?_|refine ft (by assumption) ?_| (apply bo<;>intro h)|refine ch ?_|refine⟨0,bE 65,aS ⟨rfl,g0⟩ ?_⟩|refine⟨2,bE k,aS ⟨rfl,g2⟩ ?_⟩|refine⟨1,bE 71,aS ⟨λh=>h,λ_=>⟨rfl,g1⟩⟩ ?_⟩|refine⟨2,bE k,aS ⟨λh=>h,λ_=>⟨rfl,g2⟩⟩ ?_⟩|refine⟨3,aS ⟨⟨_,rfl⟩,P3⟩ ?_⟩|refine .inl ⟨[.av 1 (((eu k b).drop 3).map bE) false,_],_,⟨jI jF,.r,aj⟩,Y4,?_⟩|refine⟨0,E,aS ⟨rfl,⟨.i64,e7 (λz=>ak.v (.int .i64 z)) cP⟩,bZ _,Y6⟩ ?_⟩|refine⟨E,E+4,aS ⟨⟨.i64,e7 (λz=>ak.v (.int .i64 z)) cP⟩,⟨.i64,e7 (λz=>ak.v (.int .i64 z)) Y5⟩,Nat.le_add_right _ _,ajT⟩ ?_⟩|refine .inl ⟨[.av 1 ((hD k b).map bE) false],_,⟨jI pJ,aj⟩,ajR,?_⟩|refine aR ajS ?_|refine⟨(qp (rV (hD k b))).map UInt8.ofNat,aS Y7 ?_⟩|refine⟨(qp (rV (hD k b))).map UInt8.ofNat,aS ajV ?_⟩|refine⟨3+(bB b.length).length,E,aS ⟨⟨.i64,e7 (λz=>ak.v (.int .i64 z)) bU⟩,⟨.i64,e7 (λz=>ak.v (.int .i64 z)) cP⟩,ajW,Y6⟩ ?_⟩|refine .inr ⟨[],[],_,[],_,_,m0,by rfl,aj,⟨jI u6,.r,aj⟩,?_⟩|fail)
 all_goals(conv=>whnf)
 ·exfalso;simp at h
 ·refine e1 ⟨a8 mg,.r,a8 (Y5.trans ?_),.r,aj⟩;rw[kQ];omega
def fQ(v:Int):Nat:=if v<0 then 1 else(2*v).toNat
theorem QX{v:Int}(h:v<=1099511627776):fQ v<18446744073709551616:=by
 unfold fQ;split<;>omega
theorem ajX{v:Int}(h1: -1<=v)(ad:v<=1099511627776):bits .xor .u64 (IntKind.u64.wrap (IntKind.u64.wrap v*2^ (min (1:Int).toNat 64))) (IntKind.u64.wrap (v.fdiv (2^ (min (63:Int).toNat 64))))=((fQ v:Nat):Int):=by
 by_cases h:v<0
 ·have e:v= -1:=by omega
  subst e;rfl
 ·have aA:IntKind.u64.wrap v=v:=kc (by omega) (by omega);have aG: (2:Int)^ (min (1:Int).toNat 64)=2:=by decide
  have bc:v.fdiv (2^ (min (63:Int).toNat 64))=0:=by
   grind
  have cn:IntKind.u64.wrap (v*2)=v*2:=kc (by omega) (by omega);have ep:IntKind.u64.wrap 0=0:=kc (by omega) (by omega);rw[aA,aG,bc,cn,ep];have bt:fQ v=(v*2).toNat:=by
   unfold fQ
   grind
  rw[bt];have ag:∀n:Nat,n<18446744073709551616->bits .xor .u64 (n:Int) 0=(n:Int):=λn aV=>by
   unfold bits;simp only[IntKind.bits,IntKind.signed];simp;have ac: (BitVec.ofNat 64 n^^^0#64).toNat=n:=by
    grind
   exact(e7 (λk:Nat=>IntKind.u64.wrap (k:Int)) ac).trans (kc (by omega) (by omega))
  grind
theorem Y8(l:List Nat)(af:l.length<=900000)(v:Int)(h1: -1<=v)(ad:v<=1099511627776):cj Tryz.prog 190 [.row 5 1 (l.map bE)] [.own 0,i64 v] [false] [.row 5 1 ((l++bB (fQ v)).map bE),.bn] (.own 0):=by
 have m2:=Ea l (by omega) (fQ v) (QX ad);refine jV Tryz.func190 ?_;repeat' ((conv=>whnf);first|refine .inr ⟨[0],_,_,_,_,_,m2,by rfl,⟨.r,aj⟩,⟨.r,a8 (ajX h1 ad),aj⟩,?_⟩| (refine aS ?_ ?_;focus (simp;done))|fail)
 all_goals(conv=>whnf)
 all_goals exact⟨.r,⟨.r,rU,aj⟩,by rfl⟩
theorem ajY(i b:Nat)(aL:Int):0<=tO i b aL:=(sE _).1
theorem Ec:∀ (l:List Nat) (i:Nat) (aL:Int),0<=aL->0<=(eh l i aL).1/\0<=(eh l i aL).2.1/\(eh l i aL).2.1<=((i+l.length:Nat):Int)
 | [],i,aL,h=>by
  rw[eh];simp
 |b::r,i,aL,h=>by
  have an:=ajY i b aL;have a1:=Ec r (i+1) (tO i b aL) an;rw[eh]
  grind
def nm(v:aK)(l:List Nat):bR×Int×Int:=
 bif !decide ((eh l 0 0).2.2=0)then(gd,0,(eh l 0 0).2.2)else
 bif !decide ((eh (l.drop (eh l 0 0).2.1.toNat) 0 0).2.2=0)then(gd,0,(eh (l.drop (eh l 0 0).2.1.toNat) 0 0).2.2)else
 bif decide ((eh l 0 0).1<1)||decide (1000<(eh l 0 0).1)||decide (5<=(eh (l.drop (eh l 0 0).2.1.toNat) 0 0).1)then(gd,0,3)else
 bif decide (((cQ v.mem (eh l 0 0).1).length:Int)=0)then(gd,0,3)else
 (⟨v.num,(eh (l.drop (eh l 0 0).2.1.toNat) 0 0).1,(cQ v.mem (eh l 0 0).1).getD (eh (l.drop (eh l 0 0).2.1.toNat) 0 0).1.toNat 0,(eh l 0 0).1⟩,(eh l 0 0).2.1+(eh (l.drop (eh l 0 0).2.1.toNat) 0 0).2.1,0)
theorem ajZ(ms:List Int)(x:Int): (cQ ms x).length=0\/(cQ ms x).length=5:=by
 unfold cQ;cases (!dF ms 16|| !(decide (1<=x)&&decide (x<=1000))|| (decide ((ms.length:Int)=1)&&decide (ms.getD 0 0=x)))<;>simp
theorem aj0(v:aK)(ab:v.mem.length<=maxLen)(l:List Nat)(af:l.length<=1000000):bq Tryz.prog 135 [.agg (cG v),.av 1 (l.map bE) false] (.be [.agg (ey (nm v l).1),i64 (nm v l).2.1,i64 (nm v l).2.2]):=by
 have aA:=Bl l af;have dL:=Ec l 0 0 (k0 _);have aG:=Bl (l.drop (eh l 0 0).2.1.toNat) (by simp;omega);have dW:=Ec (l.drop (eh l 0 0).2.1.toNat) 0 0 (k0 _);have bc:=K9 v.mem ab (eh l 0 0).1;have cm:=ajZ v.mem (eh l 0 0).1;unfold nm;generalize eh (l.drop (eh l 0 0).2.1.toNat) 0 0=B at *;generalize ai:eh l 0 0=A at *;clear ai;generalize cQ v.mem A.1=R at *;obtain⟨Ed,aj1,Y9⟩:=A;obtain⟨B1,B2,aj2⟩:=B;simp only[]at *;obtain⟨n,rfl⟩:=p5 dL.2.1;obtain⟨m,rfl⟩:=p5 dW.2.1;have aV:n<=(l.map bE).length:=by
  rw[bL];omega
 have jF: (l.map bE).drop n=(l.drop n).map bE:=by rw[yr]
 have Za:=dW.2.2;rw[ru]at Za;rw[l6,<-jF]at aG;refine fX Tryz.func135 ?_;repeat' ((conv=>whnf);first|refine bl ?_| (apply bo<;>intro h)|refine aR aA ?_|refine aR aG ?_|refine⟨n,aS ⟨⟨_,rfl⟩,aV⟩ ?_⟩|fail)
 all_goals(conv=>whnf)
 ·rw[h];exact .refl
 ·rename_i h1;rw[h1,h];exact .refl
 ·rename_i h1 ad;rw[h1,ad,h];exact .refl
 ·rename_i h1 ad;rw[h1,ad,h,bD,bD,bD];have ao:1<=Ed/\Ed<=1000/\B1<5:=by
   simp only[iW,ib]at h;omega
  have hw:IntKind.i64.wrap Ed=Ed:=dQ (by omega) (by omega);have aj3:IntKind.i64.wrap B1=B1:=dQ (by omega) (by omega);have ON:bq Tryz.prog 100 [.av 1 (v.mem.map aU) false,.v (.int .i64 (IntKind.i64.wrap Ed))] (.av 1 (R.map aU) false):=by
   rw[hw];exact bc
  clear h h1 ad;have Pa:IntKind.i64.wrap ((n:Int)+(m:Int))=(n:Int)+(m:Int):=by
   rw[bL]at aV;have h1: ((n:Int)).toNat=n:=l6 n;rw[h1]at Za;rw[dQ (by omega) (by omega)]
  repeat' ((conv=>whnf);first| (apply bo<;>intro h)|refine aR ON ?_|fail)
  ·rw[bL]at h;rw[h];exact .refl
  ·have b1:R.length=5:=by
    rcases cm with cm|cm
    ·rw[bL,cm]at h;simp at h
    ·exact cm
   rw[bL]at h;rw[h,bD];clear h;have kv:B1=((B1.toNat:Nat):Int):=by omega
   have xU: (R.map aU)[B1.toNat]?=some (aU (R.getD B1.toNat 0)):=by
    have:B1.toNat<R.length:=by omega
    simp[this]
   repeat' ((conv=>whnf);first|refine ch ?_|refine⟨B1.toNat,aU (R.getD B1.toNat 0),aS ⟨kv,xU⟩ ?_⟩|fail)
   all_goals(conv=>whnf)
   refine e1 ⟨iQ ⟨.r,a8 aj3,.r,a8 hw,aj⟩,a8 Pa,.r,aj⟩
def zl(l:List bR)(s:Int)(i:Nat):Nat:=(l.take i).countP λa=>decide (a.bG=s)
variable{l:List bR}
theorem aj4{s:Int}{i:Nat}(h:i<l.length):zl l s (i+1)=zl l s i+if l[i].bG=s then 1 else 0:=by
 unfold zl;rw[fA h,List.countP_append,List.countP_cons,List.countP_nil];simp
theorem Zb(l:List bR)(s:Int)(i:Nat):zl l s i<=i:=bT UM (by grind)
theorem Zc(l:List bR)(af:l.length<=1000000)(s:Int):bq Tryz.prog 239 [.av 4 (l.map ey) false,i64 s] (i64 (zl l s l.length:Nat)):=by
 refine cp (fn:=Tryz.f239) (c:=Tryz.f239.body.getD .skip) az aw (by rfl) Tryz.func239 (by rfl) (by rfl) (by rfl) (by rfl) ?_;repeat' ((conv=>whnf);first|refine bl ?_|fail)
 all_goals(conv=>whnf)
 refine⟨Nat,λi=>⟨[(1,i64 s),(5,i64 (zl l s i:Nat)),(8,.av 4 (l.map ey) false),(9,i64 l.length),(10,i64 i)],[]⟩,λi=>i<=l.length,λi=>l.length-i,[],⟨0,bZ _,?_⟩,?_⟩
 ·conv=>whnf
  exact⟨⟨.r,.r,.r,a8 (by simp),.r,aj⟩,aj,by rfl⟩
 ·intro i hi;repeat' ((conv=>whnf);first| (apply bo<;>intro h)|fail)
  ·have aB:i<l.length:=by grind
   clear h;have ae:=aj4 (s:=s) aB;have al:=Zb l s i;repeat' ((conv=>whnf);first| (apply bo<;>intro h)|refine⟨_,_,aS ⟨rfl,du aB⟩ ?_⟩|fail)
   all_goals(conv=>whnf)
   all_goals refine⟨i+1,aB,by simp only[];omega,?_⟩
   all_goals(conv=>whnf)
   all_goals refine⟨⟨.r,a8 ?_,.r,.r,a8 (ca (by omega)),aj⟩,aj,by rfl⟩
   ·rw[ae,b3 (fC h),dQ (by omega) (by omega)];omega
   grind
  ·have:i=l.length:=by
    grind
   subst this;repeat' ((conv=>whnf);first|exact .refl|fail)
def fH(l:List bR)(i:Nat):List Nat:=bB l.length++(l.take i).flatMap λa=>bB a.bG.toNat++bB a.et.toNat
theorem Ln{i:Nat}(h:i<l.length):fH l (i+1)=fH l i++bB l[i].bG.toNat++bB l[i].et.toNat:=by
 unfold fH;rw[fA h,Ad];simp
theorem Zd(l:List bR):∀i,i<=l.length->(fH l i).length<=10+20*i
 |0,_=>by
  have:=hP 9 l.length;simp only[fH,NW,List.flatMap_nil,jQ,bB];omega
 |i+1,h=>by
  have a1:=Zd l i (by omega);have h1:=hP 9 l[i].bG.toNat;have ad:=hP 9 l[i].et.toNat;rw[Ln (by omega),fw,fw];unfold bB;omega
def Hh(v:aK)(l:List bR):List Nat:=bif !dG v l then []else fH l l.length
variable{v:aK}
theorem aj5{l:List bR}(h:dG v l=true){i:Nat}(hi:i<l.length):gk v l[i]=true/\n3 l[i]=true:=by
 unfold dG at h;cases ab:b2 v
 ·grind
 ·rw[ab,kZ,bD]at h;have h1:=iA.1 h i hi;have ax:l.getD i gd=l[i]:=by grind
  unfold vd at h1;rw[ax,cq]at h1;refine⟨h1.1,?_⟩;have ad:=h1.1;unfold gk at ad
  grind
theorem Ze(v:aK)(ab:v.mem.length<=maxLen)(l:List bR)(af:l.length<=40000):bq Tryz.prog 103 [.agg (cG v),.av 4 (l.map ey) false] (.av 1 ((Hh v l).map bE) false):=by
 have aA:=D9 v ab l (by simp only[maxLen];omega);have aa:Hh v l=bif !dG v l then []else fH l l.length:=rfl;have ao:=λh i hi=>(aj5 (v:=v) (l:=l) h (i:=i) hi).2;have fk:bq Tryz.prog 99 [.av 1 [] false,.v (.int .u64 (IntKind.u64.wrap ((l.map ey).length:Int)))] (.av 1 ((fH l 0).map bE) false):=by
  have aQ:=Bk [] (by simp) l.length (by omega);have xV:IntKind.u64.wrap ((l.map ey).length:Int)=((l.length:Nat):Int):=by
   rw[bL];exact kc (by omega) (by omega)
  have he:fH l 0=[]++bB l.length:=by simp[fH]
  rw[xV,he];exact aQ
 generalize Hh v l=R at *;generalize dG v l=cX at *;refine cp (fn:=Tryz.f103) (c:=Tryz.f103.body.getD .skip) az aw (by rfl) Tryz.func103 (by rfl) (by rfl) (by rfl) (by rfl) ?_;repeat' ((conv=>whnf);first| (apply bo<;>intro h)|refine aR aA ?_|refine .inl ⟨[.av 1 [] false,_],_,⟨.ar,.r,aj⟩,fk,?_⟩|fail)
 ·rw[aa,h];exact .ar
 ·have ac:cX=true:=by grind
  rw[h,bD]at aa;clear h;have ao:=ao ac;subst aa;repeat' ((conv=>whnf);first|refine bl ?_|fail)
  all_goals(conv=>whnf)
  refine⟨Nat,λi=>⟨[(5,.av 1 ((fH l i).map bE) false),(16,.av 4 (l.map ey) false),(17,i64 l.length),(18,i64 i)],[.cells 24 (cG v)]⟩,λi=>i<=l.length,λi=>l.length-i,[],⟨0,bZ _,?_⟩,?_⟩
  ·conv=>whnf
   exact⟨⟨.r,.r,a8 (by simp),.r,aj⟩,⟨.r,aj⟩,by rfl⟩
  ·intro i hi;repeat' ((conv=>whnf);first| (apply bo<;>intro h)|fail)
   ·have aB:i<l.length:=by grind
    clear h;have aj6:=ao i aB;simp only[n3,cq,fx]at aj6;have ae:=Ln aB;have rK:=Zd l i hi;have h1:=hP 9 l[i].bG.toNat;have vf:IntKind.u64.wrap l[i].bG=((l[i].bG.toNat:Nat):Int):=by rw[kc (by omega) (by omega)];omega
    have oH:IntKind.u64.wrap l[i].et=((l[i].et.toNat:Nat):Int):=by rw[kc (by omega) (by omega)];omega
    have aG:=Bk (fH l i) (by omega) l[i].bG.toNat (by omega);have bc:=Bk (fH l i++bB l[i].bG.toNat) (by rw[fw];unfold bB;omega) l[i].et.toNat (by omega);rw[<-ae]at bc;unfold u64 at aG bc;rw[<-vf]at aG;rw[<-oH]at bc;repeat' ((conv=>whnf);first|refine ch ?_|refine⟨_,_,aS ⟨rfl,du aB⟩ ?_⟩|refine aR aG ?_|refine aR bc ?_|fail)
    all_goals(conv=>whnf)
    refine⟨i+1,aB,by grind,?_⟩;conv=>whnf
    exact⟨⟨.r,.r,.r,a8 (ca (by omega)),aj⟩,⟨.r,aj⟩,by rfl⟩
   ·have:i=l.length:=by
     grind
    subst this;repeat' ((conv=>whnf);first|exact .refl|fail)
theorem aj7(v:aK)(l:List Nat):0<=(nm v l).2.1/\(nm v l).2.1<=(l.length:Int):=by
 have dL:=Ec l 0 0 (k0 _);have dW:=Ec (l.drop (eh l 0 0).2.1.toNat) 0 0 (k0 _);rw[ru]at dW;unfold nm
 grind
def zm(v:aK)(b:List Nat)(aL:List bR)(pos:Nat):Int:=bif (decide ((nm v (b.drop pos)).2.2=0)&&decide (0<(aL.length:Int)))&& !jv (aL.getD (aL.length-1) gd) (nm v (b.drop pos)).1 then 3 else(nm v (b.drop pos)).2.2
def sH(v:aK)(b:List Nat):Nat->List bR->Nat->List bR×Int×Int
 |0,aL,pos=>(aL,(pos:Int),0)
 |k+1,aL,pos=>bif !decide (zm v b aL pos=0)then([],0,zm v b aL pos)else sH v b k (aL++ [(nm v (b.drop pos)).1]) (pos+(nm v (b.drop pos)).2.1.toNat)
def Bn(v:aK)(b:List Nat):List bR×Int×Int:=
 bif !b2 v then([],0,1)else bif !decide ((eh b 0 0).2.2=0)then([],0,(eh b 0 0).2.2)else bif decide (5000<(eh b 0 0).1)then([],0,5)else sH v b (eh b 0 0).1.toNat [] (eh b 0 0).2.1.toNat
theorem aj8(v:aK)(ab:v.mem.length<=maxLen)(b:List Nat)(af:b.length<=1000000):bq Tryz.prog 75 [.agg (cG v),.av 1 (b.map bE) false] (.be [.av 4 ((Bn v b).1.map ey) false,i64 (Bn v b).2.1,i64 (Bn v b).2.2]):=by
 have aA:=q3 v ab;have aG:=Bl b af;have dL:=Ec b 0 0 (k0 _);have aa:Bn v b=bif !b2 v then([],0,1)else bif !decide ((eh b 0 0).2.2=0)then([],0,(eh b 0 0).2.2)else bif decide (5000<(eh b 0 0).1)then([],0,5)else sH v b (eh b 0 0).1.toNat [] (eh b 0 0).2.1.toNat:=rfl;have bf:∀k aL pos,sH v b (k+1) aL pos=bif !decide (zm v b aL pos=0)then([],0,zm v b aL pos)else sH v b k (aL++ [(nm v (b.drop pos)).1]) (pos+(nm v (b.drop pos)).2.1.toNat):=λk aL pos=>by rw[sH]
 have Ee:∀aL pos,sH v b 0 aL pos=(aL,(pos:Int),0):=λaL pos=>by rw[sH]
 generalize Bn v b=R at *;generalize eh b 0 0=A at *;obtain⟨Ed,aj1,Y9⟩:=A;simp only[]at aG dL aa;obtain⟨n,rfl⟩:=p5 dL.2.1;obtain⟨c,rfl⟩:=p5 dL.1;generalize b2 v=vc at *;refine fX Tryz.func75 ?_;repeat' ((conv=>whnf);first| (apply bo<;>intro h)|refine aR aA ?_|refine aR aG ?_|fail)
 all_goals(conv=>whnf)
 ·rw[aa,h];exact e1 ⟨.ar,.r,.r,aj⟩
 ·rename_i h1;rw[aa,h1,h];exact e1 ⟨.ar,.r,.r,aj⟩
 ·rename_i h1 ad;rw[aa,h1,ad,h];exact e1 ⟨.ar,.r,.r,aj⟩
 ·rename_i h1 ad;rw[h1,ad,h,bD,bD,bD,l6,l6]at aa;have al:c<=5000:=by
   have:=rv h;omega
  have auL:Y9=0:=by simpa using ad
  clear h h1 ad;subst aa;refine⟨Nat×List bR×Nat,λx=>⟨[(1,.av 1 (b.map bE) false),(2,.aW 0 0),(4,.own 1),(5,i64 x.2.2),(25,u64 c),(26,u64 x.1)],[.cells 24 (cG v),.row 147 4 (x.2.1.map ey)]⟩,λx=>x.1<=c/\sH v b (c-x.1) x.2.1 x.2.2=sH v b c [] n/\x.2.2<=b.length/\x.2.1.length=x.1,λx=>c-x.1,[.h4 4 147 4],⟨⟨0,[],n⟩,⟨bZ _,rfl,by simp only[];omega,rfl⟩,?_⟩,?_⟩
  ·conv=>whnf
   exact⟨⟨.r,.r,.r,.r,.r,.r,aj⟩,⟨.r,.r,aj⟩,by rfl⟩
  ·intro ⟨i,aL,pos⟩ ⟨hi,ax,fF,lA⟩;simp only[]at hi ax fF lA;repeat' ((conv=>whnf);first| (apply bo<;>intro h)|fail)
   ·have aB:i<c:=by
     have:=fC h;simp only[]at this;omega
    clear h;have hk:c-i=(c- (i+1))+1:=by omega
    rw[hk,bf]at ax;have gb:=aj0 v ab (b.drop pos) (by simp;omega);have Zf:=aj7 v (b.drop pos);rw[ru]at Zf;have Bo:zm v b aL pos=bif (decide ((nm v (b.drop pos)).2.2=0)&&decide (0<(aL.length:Int)))&& !jv (aL.getD (aL.length-1) gd) (nm v (b.drop pos)).1 then 3 else(nm v (b.drop pos)).2.2:=rfl;have el:=Lj (aL.getD (aL.length-1) gd) (nm v (b.drop pos)).1;generalize zm v b aL pos=D8 at *;generalize nm v (b.drop pos)=D at *;obtain⟨Zg,D2,auM⟩:=D;simp only[]at gb Zf Bo el ax;have jF: (b.map bE).drop pos=(b.drop pos).map bE:=by rw[yr]
    rw[<-jF]at gb;have oI:pos<=(b.map bE).length:=by simpa using fF
    have D7:∀x:Bool,(x&&decide (0<((aL.map ey).length:Int)))=true->IntKind.i64.wrap (((aL.map ey).length:Int)-1)=((aL.length-1:Nat):Int)/\aL.length-1<(aL.map ey).length:=λx h=>by
     simp only[cq,fx,bL]at h⊢;rw[dQ (by omega) (by omega)];omega
    have qn:∀x:Bool,(x&&decide (0<((aL.map ey).length:Int)))=true->(aL.map ey)[aL.length-1]?=some (ey (aL.getD (aL.length-1) gd)):=λx h=>by
     simp only[cq,fx,bL]at h;have:aL.length-1<aL.length:=by omega
     simp[this]
    generalize jv (aL.getD (aL.length-1) gd) Zg=QO at *;generalize aL.getD (aL.length-1) gd=aj9 at *;repeat' ((conv=>whnf);first|refine bl ?_| (apply bo<;>intro h)|refine ch ?_|refine dE ?_|refine⟨pos,aS ⟨⟨_,rfl⟩,oI⟩ ?_⟩|refine aR gb ?_|refine ea el ?_|refine⟨aL.length-1,aS ⟨⟨λh=>h,λh=>h⟩,λh=>D7 _ h⟩ ?_⟩|refine⟨ey aj9,aS ⟨λh=>h,λh=>qn _ h⟩ ?_⟩|fail)
    all_goals(conv=>whnf)
    ·simp only[bL]at h;rw[h,b6]at Bo;rw[Bo]at ax;rw[<-ax];exact e1 ⟨.ar,.r,.r,aj⟩
    ·rename_i h1;simp only[bL]at h1;rw[h1,bD]at Bo;rw[Bo,h,b6]at ax;rw[<-ax];exact e1 ⟨.ar,.r,.r,aj⟩
    ·rename_i h1;simp only[bL]at h1;rw[h1,bD]at Bo;rw[Bo,h,bD]at ax;clear h h1;refine aS (Lg (by simp;omega)) ?_;repeat' ((conv=>whnf);first|refine bl ?_|fail)
     all_goals(conv=>whnf)
     refine⟨⟨i+1,aL++ [Zg],pos+D2.toNat⟩,⟨aB,ax,by simp only[];omega,by simp[lA]⟩,by simp only[];omega,?_⟩;conv=>whnf
     refine⟨⟨.r,.r,.r,a8 ?_,.r,a8 ?_,aj⟩,⟨.r,cM ?_,aj⟩,by rfl⟩
     ·simp only[];rw[dQ (by omega) (by omega)];omega
     ·simp only[];rw[kc (by omega) (by omega)];omega
     ·rw[ew];rfl
   ·have:i=c:=by
     have:=rv h;simp only[]at this;omega
    subst this;clear h;rw[Ai,Ee]at ax;rw[<-ax];repeat' ((conv=>whnf);first|exact .refl|fail)
theorem Hi{a b c:bR}(h1:jv a b=true)(ad:jv b c=true):jv a c=true:=by
 simp only[jv,oS,cq,fx]at *;omega
theorem aka{a b:bR}(h1:jv a b=false)(ad:jv b a=false):a.bG=b.bG/\a.et=b.et:=by
 simp only[jv,iW,vI,ib]at *;omega
def tQ(l:List bR):Prop:=l.Pairwise λa b=>jv a b=true
theorem akb(h:∀i (hi:i+1<l.length),jv l[i] l[i+1]=true):tQ l:=by
 rw[tQ,my];intro i j hi aq fV;obtain⟨d,rfl⟩:∃d,j=i+1+d:=⟨j- (i+1),by omega⟩
 clear fV;induction d with
 |zero=>grind
 |succ d a1=>
  have h1:=a1 (by omega);have ad:=h (i+1+d) (by omega);exact Hi h1 ad
theorem sI{l:List bR}:dG v l=true↔b2 v=true/\(∀a∈l,gk v a=true)/\tQ l:=by
 unfold dG;cases ab:b2 v
 ·simp
 ·rw[kZ,bD,iA];constructor
  ·intro h;refine⟨rfl,λa bb=> ?_,akb λi hi=> ?_⟩
   ·obtain⟨i,hi,rfl⟩:=fv bb;have h1:=h i hi;have ax:l.getD i gd=l[i]:=by grind
    unfold vd at h1
    grind
   ·have h1:=h (i+1) hi;have ax:l.getD (i+1) gd=l[i+1]:=by grind
    have oy:i<l.length:=by omega
    have iP:l.getD (i+1-1) gd=l[i]:=by grind
    unfold vd at h1
    grind
  ·rintro⟨_,h1,ad⟩ i hi;have ax:l.getD i gd=l[i]:=by grind
   unfold vd;rw[ax,h1 _ (eD hi),rp];by_cases aQ:0<i
   ·have oy:i-1<l.length:=by omega
    have iP:l.getD (i-1) gd=l[i-1]:=by grind
    have:=my.1 ad (i-1) i oy hi (by omega)
    grind
   grind
theorem QY{α:Type}{p:α->Bool}{x:α}:∀ {l:List α},x∈l.takeWhile p->p x=true
 | [],h=>by simp at h
 |y::t,h=>by
  rw[List.takeWhile_cons]at h;split at h
  ·rename_i bk;rcases pt.1 h with rfl|h
   ·exact bk
   ·exact QY h
  grind
theorem akc{α:Type}{p:α->Bool}{l:List α}{x:α}(h:x∈l.take (l.takeWhile p).length):p x=true:=by
 rw[<-List.prefix_iff_eq_take.1 (NV p)]at h;exact QY h
theorem Zh{α:Type}{p:α->Bool}:∀ {l:List α} (h: (l.takeWhile p).length<l.length),p (l[(l.takeWhile p).length])=false
 | [],h=>by grind
 |x::t,h=>by
  cases ag:p x
  ·simp_all
  ·have ad: (t.takeWhile p).length<t.length:=by
    simp_all
   have:=Zh (p:=p) ad
   simp_all
theorem QZ(ae:tQ l)(a:bR):tQ (k9 l a).1/\(k9 l a).1.length<=l.length+1/\(∀x,x∈ (k9 l a).1->x∈l\/x=a)/\(∀x,x∈l->x∈ (k9 l a).1)/\(a∈ (k9 l a).1\/∃e∈l,e.bG=a.bG/\e.et=a.et):=by
 have ac:∀x∈l.take (tN l a),jv x a=true:=λx ag=>akc (p:=λy=>jv y a) ag;have jm:∀h:tN l a<l.length,jv l[tN l a] a=false:=λh=>Zh (p:=λy=>jv y a) h;have hS:tN l a<=l.length:=(NV _).length_le;unfold k9;generalize tN l a=k at *;by_cases hk:k<l.length
 ·have ax:l.getD k gd=l[k]:=by grind
  rw[e4 (show ((k:Nat):Int)<(l.length:Int) by omega),ax];cases af:jv a l[k]
  ·simp only[s7,NH,b6];have:=aka (jm hk) af
   grind
  ·simp only[kZ,oR,bD];refine⟨?_,by grind,?_,?_,.inl (by simp)⟩
   ·rw[tQ,k1,I7];refine⟨ae.sublist (List.take_sublist _ _),?_,?_⟩
    ·rw[UW,s9];refine⟨λy bk=> ?_,ae.sublist (List.drop_sublist _ _)⟩;obtain⟨j,aq,rfl⟩:=fv bk;rw[List.getElem_drop];rw[ru]at aq;rcases Nat.eq_zero_or_pos j with rfl|akd
     ·exact af
     ·exact Hi af (my.1 ae k (k+j) hk (by omega) (by omega))
    ·intro x ag y bk;rw[UW,pt]at bk;have h1:=ac x ag;rcases bk with rfl|bk
     ·exact h1
     ·obtain⟨j,aq,rfl⟩:=fv bk;rw[List.getElem_drop];rw[ru]at aq;rcases Nat.eq_zero_or_pos j with rfl|akd
      ·exact Hi h1 af
      ·exact Hi h1 (Hi af (my.1 ae k (k+j) hk (by omega) (by omega)))
   ·grind
   ·intro x ag;rw[<-Fu k l,eb]at ag
    grind
 ·have mg:k=l.length:=by omega
  rw[c5 (show ¬((k:Nat):Int)<(l.length:Int) by omega),wZ,bD];subst mg;rw[gn]at ac;refine⟨?_,by simp,?_,?_,.inl (by simp)⟩
  ·rw[gn,CB,jQ,tQ,I7];refine⟨ae,by simp,λx ag y bk=> ?_⟩
   grind
  all_goals grind
structure kz where
 cc:Int
 aC:Int
 cut:List Int
structure cg where
 mem:Int
 aC:Int
 cut:List Int
def wJ(a:kz):List ak:=[.v (.int .i64 a.cc),.v (.int .i64 a.aC),.av 1 (a.cut.map aU) false]
def bW(a:cg):List ak:=[.v (.int .i64 a.mem),.v (.int .i64 a.aC),.av 1 (a.cut.map aU) false]
def vg(a m:Int):Int:=bif decide (a<1)||decide (1048575<a)||decide (m<1)||decide (1000<m)then 0 else IntKind.i64.wrap (IntKind.i64.wrap (1024*a)+m)
def h5(r:Int):Int:=bif decide (r<=1024)||decide (1073741824<=r)||decide (1000<r.tmod 1024)then 0 else r.tmod 1024
theorem ake(a m:Int):bq Tryz.prog 204 [.v (.int .i64 a),.v (.int .i64 m)] (.v (.int .i64 (vg a m))):=by
 refine cp (fn:=Tryz.f204) (c:=Tryz.f204.body.getD .skip) az aw (by rfl) Tryz.func204 (by rfl) (by rfl) (by rfl) (by rfl) ?_;repeat' ((conv=>whnf);first|refine bl ?_| (apply bo<;>intro h)|fail)
 all_goals(conv=>whnf)
 all_goals refine a8 ?_
 all_goals simp only[vg,h,b6,bD]
theorem Lo(r:Int):bq Tryz.prog 178 [.v (.int .i64 r)] (.v (.int .i64 (h5 r))):=by
 refine cp (fn:=Tryz.f178) (c:=Tryz.f178.body.getD .skip) az aw (by rfl) Tryz.func178 (by rfl) (by rfl) (by rfl) (by rfl) ?_;repeat' ((conv=>whnf);first|refine bl ?_| (apply bo<;>intro h)| (refine aS ?_ ?_;focus (simp;done))|fail)
 all_goals(conv=>whnf)
 all_goals refine a8 ?_
 all_goals simp only[h5,h,b6,bD]
def jw(r:Int):Bool:= !decide (h5 r=0)
theorem Lp(r:Int):bq Tryz.prog 177 [.v (.int .i64 r)] (.v (.bool (jw r))):=by
 refine cp (fn:=Tryz.f177) (c:=Tryz.f177.body.getD .skip) az aw (by rfl) Tryz.func177 (by rfl) (by rfl) (by rfl) (by rfl) ?_;repeat' ((conv=>whnf);first|exact .refl|refine aR (Lo _) ?_|fail)
theorem zn(l:List Int)(af:l.length<=1000000):bq Tryz.prog 203 [.av 1 (l.map aU) false] (.av 1 (l.map aU) false):=by
 have iZ: (l.map aU).length* (aE ah 3).bytes<=140737488355328:=by
  have e: (aE ah 3).bytes=8:=by rfl
  grind
 have to: (l.map aU).length<=maxLen:=by simp only[maxLen];grind
 refine cp (fn:=Tryz.f203) (c:=Tryz.f203.body.getD .skip) az aw (by rfl) Tryz.func203 (by rfl) (by rfl) (by rfl) (by rfl) ?_;repeat' ((conv=>whnf);first|refine⟨(l.map aU).length,(l.map aU).length,rfl,rfl,bS _,iZ,to,?_⟩|fail)
 all_goals(conv=>whnf)
 refine jI ?_
 grind
theorem Q0(a:kz)(af:a.cut.length<=1000000):bq Tryz.prog 202 [.agg (wJ a)] (.agg (wJ a)):=by
 refine cp (fn:=Tryz.f202) (c:=Tryz.f202.body.getD .skip) az aw (by rfl) Tryz.func202 (by rfl) (by rfl) (by rfl) (by rfl) ?_;repeat' ((conv=>whnf);first|exact .refl|refine aR (zn _ af) ?_|fail)
theorem akf:bq Tryz.prog 126 [] (.agg (wJ ⟨0,-1,[]⟩)):=by
 refine cp (fn:=Tryz.f126) (c:=Tryz.f126.body.getD .skip) az aw (by rfl) Tryz.func126 (by rfl) (by rfl) (by rfl) (by rfl) ?_;repeat' ((conv=>whnf);first|refine bl ?_|fail)
 all_goals(conv=>whnf)
 exact iQ ⟨.r,.r,.ar,aj⟩
def la(a:kz):Bool:=
 bif !decide (a.cc=0)&& !jw a.cc||decide (a.cc<a.aC)then false
 else bif decide (a.aC= -1)then decide ((a.cut.length:Int)=0)
 else(decide (a.aC=0)||jw a.aC)&&dF a.cut 32
theorem Lq(a:kz)(af:a.cut.length<=maxLen):bq Tryz.prog 111 [.agg (wJ a)] (.v (.bool (la a))):=by
 refine cp (fn:=Tryz.f111) (c:=Tryz.f111.body.getD .skip) az aw (by rfl) Tryz.func111 (by rfl) (by rfl) (by rfl) (by rfl) ?_;repeat' ((conv=>whnf);first|refine bl ?_| (apply bo<;>intro h)|refine dE ?_|refine ea (Lp _) ?_|refine ea (G0 _ af) ?_|fail)
 all_goals(conv=>whnf)
 all_goals refine gQ ?_
 all_goals(try simp only[bL]at *)
 all_goals simp only[la, *,b6,bD]
def oJ(a:kz)(cut:List Int):kz×Bool:=
 bif !la a then(⟨0,0,[]⟩,false)
 else bif !decide (a.cc=0)|| !decide (a.aC= -1)|| !dF cut 32 then(a,false)
 else(⟨0,0,cut⟩,true)
theorem akg(a:kz)(af:a.cut.length<=1000000)(cut:List Int)(al:cut.length<=1000000):bq Tryz.prog 164 [.agg (wJ a),.av 1 (cut.map aU) false] (.be [.agg (wJ (oJ a cut).1),.v (.bool (oJ a cut).2)]):=by
 have h1:a.cut.length<=maxLen:=bT af (by decide);have ad:cut.length<=maxLen:=bT al (by decide);refine cp (fn:=Tryz.f164) (c:=Tryz.f164.body.getD .skip) az aw (by rfl) Tryz.func164 (by rfl) (by rfl) (by rfl) (by rfl) ?_;repeat' ((conv=>whnf);first|refine bl ?_| (apply bo<;>intro h)|refine aR (Lq _ h1) ?_|refine ea (G0 _ ad) ?_|refine aR (Q0 _ af) ?_|refine aR (zn _ al) ?_|fail)
 all_goals(conv=>whnf)
 all_goals simp only[oJ, *,b6,bD]
 ·exact e1 ⟨iQ ⟨.r,.r,.ar,aj⟩,.r,aj⟩
 ·exact .refl
 ·exact .refl
def im(a:kz)(aC:Int):kz×cg×Bool:=
 bif !la a then(⟨0,0,[]⟩,⟨0,0,[]⟩,false)
 else bif !jw aC||decide (aC<a.cc)then(a,⟨0,0,[]⟩,false)
 else(⟨aC,a.aC,a.cut⟩,⟨0,a.aC,a.cut⟩,true)
theorem Zi(a:kz)(af:a.cut.length<=1000000)(aC:Int):bq Tryz.prog 193 [.agg (wJ a),.v (.int .i64 aC)] (.be [.agg (wJ (im a aC).1),.agg (bW (im a aC).2.1),.v (.bool (im a aC).2.2)]):=by
 have h1:a.cut.length<=maxLen:=bT af (by decide);refine cp (fn:=Tryz.f193) (c:=Tryz.f193.body.getD .skip) az aw (by rfl) Tryz.func193 (by rfl) (by rfl) (by rfl) (by rfl) ?_;repeat' ((conv=>whnf);first|refine bl ?_| (apply bo<;>intro h)|refine ch ?_|refine dE ?_|refine aR (Lq _ h1) ?_|refine aR (Lp _) ?_|refine aR (Q0 _ af) ?_|refine aR (zn _ af) ?_|fail)
 all_goals(conv=>whnf)
 all_goals simp only[im, *,b6,bD]
 ·exact e1 ⟨iQ ⟨.r,.r,.ar,aj⟩,iQ ⟨.r,.r,.ar,aj⟩,.r,aj⟩
 ·exact e1 ⟨.r,iQ ⟨.r,.r,.ar,aj⟩,.r,aj⟩
 ·exact .refl
def jc(a:kz)(aC:Int)(cut:List Int):kz×Bool:=
 bif !la a then(⟨0,0,[]⟩,false)
 else bif !jw aC||decide (aC<a.cc)|| !dF cut 32||decide (a.aC=aC)&& !iG a.cut cut then(a,false)
 else(⟨aC,aC,cut⟩,true)
theorem Zj(a:kz)(af:a.cut.length<=1000000)(aC:Int)(cut:List Int)(al:cut.length<=1000000):bq Tryz.prog 197 [.agg (wJ a),.v (.int .i64 aC),.av 1 (cut.map aU) false] (.be [.agg (wJ (jc a aC cut).1),.v (.bool (jc a aC cut).2)]):=by
 have h1:a.cut.length<=maxLen:=bT af (by decide);have ad:cut.length<=maxLen:=bT al (by decide);refine cp (fn:=Tryz.f197) (c:=Tryz.f197.body.getD .skip) az aw (by rfl) Tryz.func197 (by rfl) (by rfl) (by rfl) (by rfl) ?_;repeat' ((conv=>whnf);first|refine bl ?_| (apply bo<;>intro h)|refine dE ?_|refine aR (Lq _ h1) ?_|refine aR (Lp _) ?_|refine ea (G0 _ ad) ?_|refine ea (G1 _ _ h1) ?_|refine aR (Q0 _ af) ?_|refine aR (zn _ al) ?_|fail)
 all_goals(conv=>whnf)
 all_goals simp only[jc, *,b6,bD]
 ·exact e1 ⟨iQ ⟨.r,.r,.ar,aj⟩,.r,aj⟩
 ·exact .refl
 ·exact .refl
theorem Zk(v:aK)(ab:v.mem.length<=500000)(cut:List Int)(al:cut.length<=500000):bq Tryz.prog 219 [.agg (cG v),.av 1 (cut.map aU) false] (.v (.bool (decide ((er v cut).2=0)))):=by
 refine cp (fn:=Tryz.f219) (c:=Tryz.f219.body.getD .skip) az aw (by rfl) Tryz.func219 (by rfl) (by rfl) (by rfl) (by rfl) ?_;repeat' ((conv=>whnf);first|exact .refl|refine aR (DX _ ab _ al) ?_|fail)
def fY(n:Int):Int:=bif !(decide (1<=n)&&decide (n<=16))then 0 else IntKind.i64.wrap (IntKind.i64.wrap (n.tdiv 2)+1)
theorem Hj(n:Int):bq Tryz.prog 181 [.v (.int .i64 n)] (.v (.int .i64 (fY n))):=by
 refine cp (fn:=Tryz.f181) (c:=Tryz.f181.body.getD .skip) az aw (by rfl) Tryz.func181 (by rfl) (by rfl) (by rfl) (by rfl) ?_;repeat' ((conv=>whnf);first| (apply bo<;>intro h)|refine aR (Yp _) ?_| (refine aS ?_ ?_;focus (simp;done))|fail)
 all_goals(conv=>whnf)
 all_goals refine a8 ?_
 all_goals simp only[fY,h,b6,bD]
def tR(n:Int):Int:=bif !(decide (1<=n)&&decide (n<=16))then 0 else IntKind.i64.wrap (n-IntKind.i64.wrap ((IntKind.i64.wrap (n-1)).tdiv 4))
theorem Zl(n:Int):bq Tryz.prog 230 [.v (.int .i64 n)] (.v (.int .i64 (tR n))):=by
 refine cp (fn:=Tryz.f230) (c:=Tryz.f230.body.getD .skip) az aw (by rfl) Tryz.func230 (by rfl) (by rfl) (by rfl) (by rfl) ?_;repeat' ((conv=>whnf);first| (apply bo<;>intro h)|refine aR (Yp _) ?_| (refine aS ?_ ?_;focus (simp;done))|fail)
 all_goals(conv=>whnf)
 all_goals refine a8 ?_
 all_goals simp only[tR,h,b6,bD]
def dB:cg:=⟨0,0,[]⟩
def Bp(l:List cg)(i:Nat):Int:=(0::l.map (·.mem)).getD i 0
def tS(v:aK)(l:List cg)(i:Nat):Bool:=
 !(decide ((l.getD i dB).mem<=Bp l i)|| !bP v.mem (l.getD i dB).mem)&&
  (decide ((l.getD i dB).aC= -1)&&decide (((l.getD i dB).cut.length:Int)=0)||
   (decide ((l.getD i dB).aC=0)||jw (l.getD i dB).aC)&&decide ((er v (l.getD i dB).cut).2=0))
def gI(v:aK)(l:List cg):Bool:=b2 v&&ij (tS v l) l.length
theorem Ef(v:aK)(ab:v.mem.length<=500000)(l:List cg)(af:l.length<=maxLen)(al:∀r∈l,r.cut.length<=500000):bq Tryz.prog 180 [.agg (cG v),.av 3 (l.map bW) false] (.v (.bool (gI v l))):=by
 have hK:l.length<=9223372036854775807:=af;have h1:v.mem.length<=maxLen:=bT ab (by decide);refine cp (fn:=Tryz.f180) (c:=Tryz.f180.body.getD .skip) az aw (by rfl) Tryz.func180 (by rfl) (by rfl) (by rfl) (by rfl) ?_;repeat' ((conv=>whnf);first| (apply bo<;>intro h)|refine aR (q3 _ h1) ?_|fail)
 ·refine gQ ?_;have h:b2 v=false:=by grind
  simp[gI,h]
 ·have q4:b2 v=true:=by grind
  clear h;conv=>whnf
  refine⟨Nat,λi=>⟨[(2,.aW 0 0),(5,i64 (Bp l i)),(11,.av 3 (l.map bW) false),(12,i64 (l.map bW).length),(13,i64 i)],[.cells 24 (cG v)]⟩,λi=>i<=l.length/\∀j,j<i->tS v l j=true,λi=>l.length-i,[],⟨0,⟨bZ _,by omega⟩,?_⟩,?_⟩
  ·exact⟨by repeat' ((conv=>whnf);first|exact trivial|refine aS (by(conv=>arg 1;whnf);first| (with_reducible exact .refl)|exact a8 (ca (by omega))|exact .refl) ?_|fail),by repeat' ((conv=>whnf);first|exact trivial|refine aS ?_ ?_|exact .refl|fail),rfl⟩
  ·intro i ⟨hi,cF⟩;repeat' ((conv=>whnf);first| (apply bo<;>intro h)|fail)
   ·have aB:i<l.length:=by grind
    clear h;have ax:l.getD i dB=l[i]:=by grind
    have nV: (l[i]).cut.length<=500000:=al _ (eD aB);have bad:tS v l i=false->false=gI v l:=λac=>by rw[gI,tF aB ac,oR]
    have pP:tS v l i=true->∃x',(λi=>i<=l.length/\∀j,j<i->tS v l j=true) x'/\(λi=>l.length-i) x'<(λi=>l.length-i) i/\x'=i+1:=λac=>
     ⟨i+1,⟨aB,λj aq=>by
      grind⟩,by grind,rfl⟩
    have an:Bp l (i+1)=l[i].mem:=by simp[Bp,aB]
    repeat' ((conv=>whnf);first|refine bl ?_| (apply bo<;>intro h)|refine dE ?_|refine⟨_,_,aS ⟨rfl,du aB⟩ ?_⟩|refine ea (jt _ h1 _) ?_|refine ea (Lp _) ?_|refine ea (Zk _ ab _ nV) ?_|fail)
    all_goals(conv=>whnf)
    ·refine gQ (bad ?_);simp only[tS,ax,h];rfl
    ·rename_i aQ;rw[bL]at h;obtain⟨x',cV,dj,rfl⟩:=pP (by simp only[tS,ax,aQ,h];rfl);refine⟨i+1,cV,dj,?_⟩;refine⟨⟨.r,?_,.r,.r,a8 (ca (by omega)),aj⟩,⟨.r,aj⟩,rfl⟩;exact a8 an.symm
    ·rename_i aQ ad;rw[bL]at ad;obtain⟨x',cV,dj,rfl⟩:=pP (by simp only[tS,ax,aQ,ad,h];rfl);refine⟨i+1,cV,dj,?_⟩;refine⟨⟨.r,?_,.r,.r,a8 (ca (by omega)),aj⟩,⟨.r,aj⟩,rfl⟩;exact a8 an.symm
    ·rename_i aQ ad;rw[bL]at ad;refine gQ (bad ?_);simp only[tS,ax,aQ,ad,h];rfl
   ·have fU:¬i<l.length:=by grind
    conv=>whnf
    refine gQ ?_;rw[gI,q4,iA.2 (λj aq=>cF j (by omega))];rfl
structure c6 where
 mem:Int
 cut:List Int
def ee(b:c6):List ak:=[.v (.int .i64 b.mem),.av 1 (b.cut.map aU) false]
def iH(l:List c6)(cut:List Int):Nat:=(l.filter λb=>iG b.cut cut).length
variable{l:List c6}{cut:List Int}
theorem akh{i:Nat}(h:i<l.length)(ae:iG (l[i]'h).cut cut=true):iH (l.take (i+1)) cut=iH (l.take i) cut+1:=by
 simp only[iH,fA h,oh]
 grind
theorem aki{i:Nat}(h:i<l.length)(ae:iG (l[i]'h).cut cut=false):iH (l.take (i+1)) cut=iH (l.take i) cut:=by
 simp only[iH,fA h,oh]
 grind
theorem akj(l:List c6)(cut:List Int)(i:Nat):iH (l.take i) cut<=i:=
 bT (uu _ _) (by grind)
theorem Zm(l:List c6)(af:l.length<=500000)(al:∀b∈l,b.cut.length<=maxLen)(cut:List Int):bq Tryz.prog 243 [.av 2 (l.map ee) false,.av 1 (cut.map aU) false] (.v (.int .i64 (iH l cut))):=by
 refine cp (fn:=Tryz.f243) (c:=Tryz.f243.body.getD .skip) az aw (by rfl) Tryz.func243 (by rfl) (by rfl) (by rfl) (by rfl) ?_;repeat' ((conv=>whnf);first|refine bl ?_|fail)
 refine⟨Nat,λi=>⟨[(1,.av 1 (cut.map aU) false),(5,i64 (iH (l.take i) cut)),(8,.av 2 (l.map ee) false),(9,i64 (l.map ee).length),(10,i64 i)],[]⟩,λi=>i<=l.length,λi=>l.length-i,[],⟨0,bZ _,?_⟩,?_⟩
 ·exact⟨by repeat' ((conv=>whnf);first|exact trivial|refine aS (by(conv=>arg 1;whnf);first| (with_reducible exact .refl)|exact a8 (ca (by omega))|exact .refl) ?_|fail),by repeat' ((conv=>whnf);first|exact trivial|fail),rfl⟩
 ·intro i hi;repeat' ((conv=>whnf);first| (apply bo<;>intro h)|fail)
  ·have aB:i<l.length:=by grind
   clear h;have nV:=al _ (eD aB);have hle:=akj l cut i;repeat' ((conv=>whnf);first| (apply bo<;>intro h)|refine⟨_,_,aS ⟨rfl,du aB⟩ ?_⟩|refine aR (G1 _ _ nV) ?_|fail)
   all_goals(conv=>whnf)
   all_goals refine⟨i+1,aB,by simp only[];omega,?_⟩
   ·refine⟨⟨.r,?_,.r,.r,a8 (ca (by omega)),aj⟩,aj,rfl⟩;rw[akh aB h];exact a8 (ca (by omega))
   ·refine⟨⟨.r,?_,.r,.r,a8 (ca (by omega)),aj⟩,aj,rfl⟩;rw[aki aB h];exact .refl
  ·have fU:¬i<l.length:=by grind
   have:i=l.length:=by omega
   subst this;conv=>whnf
   rw[gn];exact .refl
def hW(l:List cg):Nat->Nat
 |0=>0
 |i+1=>bif decide ((l.getD (hW l i) dB).aC<(l.getD i dB).aC)then i else hW l i
theorem Q1(l:List cg):∀i,hW l i<=i
 |0=>bS _
 |i+1=>by
  have:=Q1 l i;unfold hW
  grind
def fZ(l:List cg):List c6:=(l.filter λr=>decide (r.aC=0)).map λr=>⟨r.mem,r.cut⟩
def tT(v:aK)(l:List cg):Int:=IntKind.i64.wrap (IntKind.i64.wrap (tR v.mem.length+(l.length:Int))- (v.mem.length:Int))
def q5(v:aK)(l:List cg)(own:List Int):Bool:= !gI v l||decide ((l.length:Int)<fY v.mem.length)||decide (0<(own.length:Int))&& !decide ((er v own).2=0)
def gB(v:aK)(l:List cg)(own:List Int):List Int×Bool:=
 bif q5 v l own then([],false)
 else bif decide (0<(l.getD (hW l l.length) dB).aC)then((l.getD (hW l l.length) dB).cut,true)
 else match (fZ l).find? (λb=>decide (tT v l<=(iH (fZ l) b.cut:Int)))with
  |some b=>(b.cut,true)
  |none=>bif decide ((own.length:Int)=0)then([],false)else(own,true)
variable{l:List cg}
theorem Zn{i:Nat}(h1:i<l.length)(ad:hW l i<l.length)(h:decide ((l[hW l i]'ad).aC<(l[i]'h1).aC)=true):hW l (i+1)=i:=by
 have aA:l.getD (hW l i) dB=l[hW l i]:=by grind
 have aG:l.getD i dB=l[i]:=by grind
 simp only[hW,aA,aG,h,b6]
theorem Zo{i:Nat}(h1:i<l.length)(ad:hW l i<l.length)(h:decide ((l[hW l i]'ad).aC<(l[i]'h1).aC)=false):hW l (i+1)=hW l i:=by
 have aA:l.getD (hW l i) dB=l[hW l i]:=by grind
 have aG:l.getD i dB=l[i]:=by grind
 simp only[hW,aA,aG,h,bD]
theorem Q2(l:List cg)(i:Nat): (fZ (l.take i)).length<=i:=by
 simp only[fZ,bL]
 grind
theorem Zp{i:Nat}(h1:i<l.length)(h:decide ((l[i]'h1).aC=0)=true): (fZ (l.take i)).map ee++ [ee ⟨(l[i]'h1).mem,(l[i]'h1).cut⟩]=(fZ (l.take (i+1))).map ee:=by
 simp only[fZ,fA h1,oh,ew]
 grind
theorem Zq{i:Nat}(h1:i<l.length)(h:decide ((l[i]'h1).aC=0)=false): (fZ (l.take i)).map ee=(fZ (l.take (i+1))).map ee:=by
 simp only[fZ,fA h1,oh,ew]
 grind
theorem Q3(l:List cg){n:Nat}(h:0<n):hW l n<n:=by
 obtain⟨i,rfl⟩:∃i,n=i+1:=⟨n-1,by omega⟩
 have:=Q1 l i;unfold hW
 grind
theorem akk(h1:1<=n)(ad:n<=16):1<=fY n:=by
 have e: (!(decide (1<=(n:Int))&&decide ((n:Int)<=16)))=false:=by grind
 have aG:Int.tdiv (n:Int) 2=((n/2:Nat):Int):=rfl;simp only[fY,e,bD,aG];rw[dQ (n:=((n/2:Nat):Int)) (by omega) (by omega),dQ (by omega) (by omega)];omega
variable{own:List Int}
theorem Q4(h:q5 v l own=false):0<l.length/\1<=v.mem.length/\v.mem.length<=16:=by
 simp only[q5,iW,mw,ib]at h;obtain⟨⟨h1,ad⟩,_⟩:=h;simp only[gI,b2,dF,cq,nu,iW,ib]at h1;have aN:=h1.1.2.1;have:=akk (n:=v.mem.length) (by omega) (by omega);omega
variable{N:Nat}
theorem Zr(al:∀r∈l,r.cut.length<=N):∀b∈fZ l,b.cut.length<=N:=by
 intro b ac;simp only[fZ,fr,ko]at ac
 grind
theorem Eg(h:n<=2000000):kL ah 201 n:=by
 have e: (aE ah 201).bytes=32:=by rfl
 refine⟨?_,?_⟩
 ·grind
 ·simp only[maxLen];omega
theorem akl(v:aK)(ab:v.mem.length<=500000)(l:List cg)(af:l.length<=500000)(al:∀r∈l,r.cut.length<=500000)(own:List Int)(aH:own.length<=500000):
  bq Tryz.prog 228 [.agg (cG v),.av 3 (l.map bW) false,.av 1 (own.map aU) false] (.be [.av 1 ((gB v l own).1.map aU) false,.v (.bool (gB v l own).2)]):=by
 have hK:l.length<=maxLen:=bT af (by decide);refine cp (fn:=Tryz.f228) (c:=Tryz.f228.body.getD .skip) az aw (by rfl) Tryz.func228 (by rfl) (by rfl) (by rfl) (by rfl) ?_;repeat' ((conv=>whnf);first|refine bl ?_| (apply bo<;>intro h)|refine dE ?_|refine aR (Ef _ ab _ hK al) ?_|refine ea (Hj _) ?_|refine ea (Zk _ ab _ aH) ?_|fail)
 all_goals(conv=>whnf)
 ·have h:q5 v l own=true:=by
   simp only[bL]at h;exact h
  simp only[gB,h,b6];exact e1 ⟨.ar,.r,aj⟩
 ·have aQ:=h;clear h;refine⟨Nat,λi=>⟨[(1,.av 3 (l.map bW) false),(2,.av 1 (own.map aU) false),(8,i64 (v.mem.map aU).length),(9,i64 (hW l i)),(10,.own 1),(40,.av 3 (l.map bW) false),(41,i64 (l.map bW).length),(42,i64 i)],[.cells 24 (cG v),.row 201 2 ((fZ (l.take i)).map ee)]⟩,λi=>i<=l.length,λi=>l.length-i,[.h4 10 201 2],⟨0,bZ _,?_⟩,?_⟩
  ·conv=>whnf
   exact⟨by repeat' ((conv=>whnf);first|exact trivial|refine aS (by(conv=>arg 1;whnf);first| (with_reducible exact .refl)|exact a8 (ca (by omega))|exact .refl) ?_|fail),by repeat' ((conv=>whnf);first|exact trivial|refine aS ?_ ?_|exact .refl|fail),rfl⟩
  ·intro i hi;repeat' ((conv=>whnf);first| (apply bo<;>intro h)|fail)
   ·have aB:i<l.length:=by grind
    clear h;have hle:=Q1 l i;have nl:hW l i<l.length:=by omega
    repeat' ((conv=>whnf);first| (apply bo<;>intro h)|refine ch ?_|refine⟨_,_,aS ⟨rfl,du aB⟩ ?_⟩|refine⟨_,_,aS ⟨rfl,du nl⟩ ?_⟩|fail)
    all_goals(conv=>whnf)
    ·rename_i ao;have ac:=Q2 l i;refine aS (Eg (by grind)) ?_;repeat' ((conv=>whnf);first|refine bl ?_|fail)
     all_goals(conv=>whnf)
     refine⟨i+1,aB,by grind,?_⟩;refine⟨⟨.r,.r,.r,a8 (by rw[Zn aB nl ao]),.r,.r,.r,a8 (ca (by omega)),aj⟩,⟨.r,cM (Zp aB h),aj⟩,rfl⟩
    ·rename_i ao;refine⟨i+1,aB,by grind,?_⟩;refine⟨⟨.r,.r,.r,a8 (by rw[Zn aB nl ao]),.r,.r,.r,a8 (ca (by omega)),aj⟩,⟨.r,cM (Zq aB h),aj⟩,rfl⟩
    ·rename_i ao;have ac:=Q2 l i;refine aS (Eg (by grind)) ?_;repeat' ((conv=>whnf);first|refine bl ?_|fail)
     all_goals(conv=>whnf)
     refine⟨i+1,aB,by grind,?_⟩;refine⟨⟨.r,.r,.r,a8 (by rw[Zo aB nl ao]),.r,.r,.r,a8 (ca (by omega)),aj⟩,⟨.r,cM (Zp aB h),aj⟩,rfl⟩
    ·rename_i ao;refine⟨i+1,aB,by grind,?_⟩;refine⟨⟨.r,.r,.r,a8 (by rw[Zo aB nl ao]),.r,.r,.r,a8 (ca (by omega)),aj⟩,⟨.r,cM (Zq aB h),aj⟩,rfl⟩
   ·have fU:¬i<l.length:=by grind
    have:i=l.length:=by omega
    subst this;clear h;have aQ:q5 v l own=false:=by
     simp only[bL]at aQ;exact aQ
    obtain⟨fF,K2,Qz⟩:=Q4 aQ;have aB:=Q3 l fF;have ax:l.getD (hW l l.length) dB=l[hW l l.length]:=by grind
    have nV:=al _ (eD aB);conv=>whnf
    repeat' ((conv=>whnf);first| (apply bo<;>intro h)|refine⟨_,_,aS ⟨rfl,du aB⟩ ?_⟩|refine aR (zn _ (bT nV (by decide))) ?_|fail)
    all_goals(conv=>whnf)
    ·simp only[gB,aQ,ax,h,b6,bD];exact .refl
    ·have h1:=h;clear h;have lo: (fZ l).length<=500000:=by
      have:=Q2 l l.length
      grind
     have Hk:=Zr al;have akm:=λcut=>Zm (fZ l) lo (λb ac=>bT (Hk b ac) (by decide)) cut;have pJ:l.take l.length=l:=gn;rw[pJ];refine⟨Nat,λi=>⟨[(1,.av 3 (l.map bW) false),(2,.av 1 (own.map aU) false),(8,i64 (v.mem.map aU).length),(10,.own 1),(80,.own 1),(81,i64 (fZ l).length),(82,i64 i)],[.cells 24 (cG v),.row 201 2 ((fZ l).map ee)]⟩,λi=>i<=(fZ l).length/\∀j (aq:j<(fZ l).length),j<i->decide (tT v l<=(iH (fZ l) (fZ l)[j].cut:Int))=false,λi=>(fZ l).length-i,[],⟨0,⟨bZ _,by omega⟩,?_⟩,?_⟩
     ·refine⟨⟨.r,.r,.r,.r,.r,a8 (by simp),.r,aj⟩,⟨.r,.r,aj⟩,rfl⟩
     ·intro i ⟨hi,cF⟩;repeat' ((conv=>whnf);first| (apply bo<;>intro h)|refine aR (zn _ (bT aH (by decide))) ?_|fail)
      ·have aB:i<(fZ l).length:=by grind
       clear h;have akn:i<((fZ l).map ee).length:=by grind
       have tA: ((fZ l).map ee)[i]?=some (ee ((fZ l)[i]'aB)):=du aB;have nV:=Hk _ (eD aB);repeat' ((conv=>whnf);first| (apply bo<;>intro h)|refine aR (akm _) ?_|refine aR (Zl _) ?_|refine aR (zn _ (bT nV (by decide))) ?_|refine⟨i,aS ⟨rfl,akn⟩ ?_⟩|refine⟨ee ((fZ l)[i]'aB),aS tA ?_⟩|fail)
       all_goals(conv=>whnf)
       ·have h:decide (tT v l<=(iH (fZ l) (fZ l)[i].cut:Int))=true:=by
         simp only[bL]at h;exact h
        have au: (fZ l).find? (λb=>decide (tT v l<=(iH (fZ l) b.cut:Int)))=some (fZ l)[i]:=
         I1.2 ⟨h,i,aB,rfl,λj aq=>by grind⟩
        simp only[gB,aQ,ax,h1,au,b6,bD];exact .refl
       ·have h:decide (tT v l<=(iH (fZ l) (fZ l)[i].cut:Int))=false:=by
         simp only[bL]at h;exact h
        refine⟨i+1,⟨aB,λj aq sJ=> ?_⟩,by grind,?_⟩
        ·grind
        ·exact⟨⟨.r,.r,.r,.r,.r,.r,a8 (ca (by omega)),aj⟩,⟨.r,.r,aj⟩,rfl⟩
      all_goals(conv=>whnf)
      all_goals rename_i ag
      all_goals have fU:¬i<(fZ l).length:=by simpa using ag
      all_goals have au: (fZ l).find? (λb=>decide (tT v l<=(iH (fZ l) b.cut:Int)))=none:=Ac.2 (λb ac=>by
       obtain⟨j,aq,rfl⟩:=fv ac;simpa using cF j aq (by omega))
      all_goals rw[bL]at h
      all_goals simp only[gB,aQ,ax,h1,au,h,b6,bD]
      ·exact e1 ⟨.ar,.r,aj⟩
      ·exact .refl
theorem Q5{m:Int}(h1:1<=a)(ad:a<=1048575)(aN:1<=m)(bs:m<=1000):vg a m=1024*a+m:=by
 have e: (decide (a<1)||decide (1048575<a)||decide (m<1)||decide (1000<m))=false:=by
  grind
 simp only[vg,e,bD];rw[dQ (n:=1024*a) (by omega) (by omega),dQ (by omega) (by omega)]
theorem ako{m:Int}(h:¬(1<=a/\a<=1048575/\1<=m/\m<=1000)):vg a m=0:=by
 have e: (decide (a<1)||decide (1048575<a)||decide (m<1)||decide (1000<m))=true:=by
  grind
 simp only[vg,e,b6]
theorem akp(h1:1024<r)(ad:r<1073741824)(aN:r%1024<=1000):h5 r=r%1024:=by
 have em:r.tmod 1024=r%1024:=Int.tmod_eq_emod_of_nonneg (by omega);have e: (decide (r<=1024)||decide (1073741824<=r)||decide (1000<r.tmod 1024))=false:=by
  grind
 simp only[h5]
 grind
theorem akq(h:¬(1024<r/\r<1073741824/\r%1024<=1000)):h5 r=0:=by
 have e: (decide (r<=1024)||decide (1073741824<=r)||decide (1000<r.tmod 1024))=true:=by
  grind
 simp only[h5,e,b6]
theorem Zs(h:h5 r≠0):1024<r:=by
 by_cases h1:1024<r/\r<1073741824/\r%1024<=1000
 ·omega
 ·exact absurd (akq h1) h
variable{a:kz}
theorem akr{cut:List Int}{N:Nat}(h1:a.cut.length<=N)(ad:cut.length<=N): (oJ a cut).1.cut.length<=N:=by
 unfold oJ;cases !la a<;>simp only[b6,bD]
 all_goals grind
theorem Lr{aC:Int}{N:Nat}(h1:a.cut.length<=N): (im a aC).1.cut.length<=N/\(im a aC).2.1.cut.length<=N:=by
 unfold im;cases !la a<;>simp only[b6,bD]
 all_goals grind
theorem Ls{aC:Int}{cut:List Int}{N:Nat}(h1:a.cut.length<=N)(ad:cut.length<=N): (jc a aC cut).1.cut.length<=N:=by
 unfold jc;cases !la a<;>simp only[b6,bD]
 all_goals grind
theorem xW(a:kz):la a=true↔ (a.cc=0\/h5 a.cc≠0)/\a.aC<=a.cc/\((a.aC= -1/\a.cut=[])\/((a.aC=0\/h5 a.aC≠0)/\a.aC≠ -1/\dF a.cut 32=true)):=by
 simp only[la,jw];by_cases h1:a.cc=0<;>by_cases ad:h5 a.cc=0<;>by_cases aN:a.aC= -1<;>by_cases bs:a.aC=0<;>by_cases cm:h5 a.aC=0<;>by_cases eK:a.cc<a.aC<;>simp[*]
 all_goals omega
theorem Hl(l:List cg)(af:l.length<=500000)(al:∀r∈l,r.cut.length<=1000000):cj Tryz.prog 226 [] [.av 3 (l.map bW) false] [] [.row 179 3 (l.map bW)] (.own 0):=by
 have iZ: (l.map bW).length* (aE ah 179).bytes<=140737488355328:=by
  have e: (aE ah 179).bytes=40:=by rfl
  grind
 have to: (l.map bW).length<=maxLen:=by simp only[maxLen];grind
 refine ik (fn:=Tryz.f226) (c:=Tryz.f226.body.getD .skip) az aw (by rfl) Tryz.func226 (by rfl) (by rfl) (by rfl) (by rfl) (by rfl) ?_;repeat' ((conv=>whnf);first|refine⟨(l.map bW).length,(l.map bW).length,rfl,rfl,bS _,iZ,to,?_⟩|fail)
 all_goals(conv=>whnf)
 have fk: (l.map bW).take (List.replicate (l.map bW).length (aE ah 179).zero).length++(List.replicate (l.map bW).length (aE ah 179).zero).drop (l.map bW).length=l.map bW:=by
  grind
 rw[fk];refine⟨Nat,λi=>⟨[(3,.own 0),(12,i64 (l.map bW).length),(13,i64 i)],[.row 179 3 (l.map bW)]⟩,λi=>i<=l.length,λi=>l.length-i,[],⟨0,bZ _,?_⟩,?_⟩
 ·exact⟨⟨.r,.r,.r,aj⟩,⟨.r,aj⟩,rfl⟩
 ·intro i hi;repeat' ((conv=>whnf);first| (apply bo<;>intro h)|fail)
  ·have aB:i<l.length:=by grind
   have nl:i<(l.map bW).length:=by grind
   have nV:=al _ (eD aB);repeat' ((conv=>whnf);first|refine aR (zn _ nV) ?_|refine⟨i,aS ⟨rfl,nl⟩ ?_⟩|refine⟨bW (l[i]'aB),aS (du aB) ?_⟩|fail)
   all_goals(conv=>whnf)
   refine⟨i+1,aB,by grind,?_⟩;refine⟨⟨.r,.r,a8 (ca (by omega)),aj⟩,⟨cM ?_,aj⟩,rfl⟩;apply rr;intro j;rw[CF];split
   ·rename_i aq;subst aq;first
     |rw[b3 nl,du aB];rfl
     |rw[du aB];rfl
   ·rfl
  ·have fU:¬i<l.length:=by grind
   repeat' ((conv=>whnf);first|refine bl ?_|fail)
   all_goals(conv=>whnf)
   exact⟨.r,⟨.r,aj⟩,rfl⟩
theorem Zt(l:List cg)(af:l.length<=500000)(al:∀r∈l,r.cut.length<=1000000):bq Tryz.prog 226 [.av 3 (l.map bW) false] (.av 3 (l.map bW) false):=
 ahk (Hl l af al) .refl
def qq:List cg->Int->Nat
 | [],_=>0
 |r::l,m=>if r.mem<m then qq l m+1 else 0
theorem aks(l:List cg)(m:Int):qq l m<=l.length:=by
 induction l with
 |nil=>exact bS _
 |cons r l a1=>simp only[qq,l7];split<;>omega
theorem Q6{m:Int}:∀ {l:List cg} {i:Nat} (af:i<l.length),(∀j,(aq:j<i)->(l[j]'(by omega)).mem<m)->¬l[i].mem<m->qq l m=i
 |r::l,0,af,h,aV=>by simp only[qq];grind
 |r::l,i+1,af,h,aV=>by
  have aQ:r.mem<m:=h 0 (by omega);simp only[qq,b3 aQ];exact e7 (· +1) (Q6 (l:=l) (by grind) (λj aq=>h (j+1) (by omega)) aV)
theorem Q7{m:Int}:∀ {l:List cg},(∀j,(aq:j<l.length)->l[j].mem<m)->qq l m=l.length
 | [],_=>rfl
 |r::l,h=>by
  have aQ:r.mem<m:=h 0 (by simp);simp only[qq,b3 aQ,l7];exact e7 (· +1) (Q7 (l:=l) λj aq=>h (j+1) (by grind))
def iS(l:List cg)(r:cg):List cg:=l.take (qq l r.mem)++ [r]++l.drop (qq l r.mem)
def fN(v:aK)(l:List cg)(r:cg):List cg×Bool:=
 bif !gI v l then([],false)else bif !gI v (iS l r)then(l,false)else(iS l r,true)
theorem Q8(l:List cg)(r:cg): (iS l r).length=l.length+1:=by
 have:=aks l r.mem;simp[iS];omega
theorem Bq{r x:cg}(h:x∈iS l r):x=r\/x∈l:=by
 simp only[iS,eb,eJ]at h
 grind
theorem Lt(h:n<=2000000):kL ah 179 n:=by
 have e: (aE ah 179).bytes=40:=by rfl
 refine⟨?_,?_⟩
 ·grind
 ·simp only[maxLen];omega
theorem akt(v:aK)(ab:v.mem.length<=400000)(l:List cg)(af:l.length<=400000)(al:∀r∈l,r.cut.length<=400000)(r:cg)(ao:r.cut.length<=400000):
  bq Tryz.prog 195 [.agg (cG v),.av 3 (l.map bW) false,.agg (bW r)] (.be [.av 3 ((fN v l r).1.map bW) false,.v (.bool (fN v l r).2)]):=by
 have qm:l.length<=maxLen:=bT af (by decide);have Q9:=Ef v (bT ab (by omega)) l qm (λx ag=>bT (al x ag) (by omega));have ek:=Q8 l r;have Ra:=Ef v (bT ab (by omega)) (iS l r) (by simp only[maxLen];omega) (λx ag=>by
  rcases Bq ag with rfl|ag
  ·omega
  ·exact bT (al x ag) (by omega))
 have Rb:=Zt l (by omega) (λx ag=>bT (al x ag) (by omega));have Rc:=Zt (iS l r) (by omega) (λx ag=>by
  rcases Bq ag with rfl|ag
  ·omega
  ·exact bT (al x ag) (by omega))
 refine fX Tryz.func195 ?_;repeat' ((conv=>whnf);first| (apply bo<;>intro h)|refine aR Q9 ?_|fail)
 all_goals(conv=>whnf)
 ·simp only[fN,h,b6];exact e1 ⟨.ar,.r,aj⟩
 ·have aQ:=h;clear h;refine⟨Nat,λi=>⟨[(1,.av 3 (l.map bW) false),(3,.aW 0 0),(5,.aW 1 0),(8,i64 i)],[.cells 24 (cG v),.cells 179 (bW r)]⟩,λi=>i<=l.length/\∀j,(aq:j<l.length)->j<i->l[j].mem<r.mem,λi=>l.length-i,[],⟨0,⟨bZ _,λj _ aq=>by omega⟩,?_⟩,?_⟩
  ·exact⟨by repeat' ((conv=>whnf);first|exact trivial|refine aS (by(conv=>arg 1;whnf);first| (with_reducible exact .refl)|exact a8 (ca (by omega))|exact .refl) ?_|fail),by repeat' ((conv=>whnf);first|exact trivial|refine aS ?_ ?_|exact .refl|fail),rfl⟩
  ·intro i ⟨hi,cF⟩;have kv:∃x:cg,(i<l.length->(l.map bW)[i]?=some (bW x))/\∀ (ek:i<l.length),x=l[i]:=by
    by_cases ek:i<l.length
    ·exact⟨l[i],λ_=>du ek,λ_=>rfl⟩
    ·exact⟨r,λaV=>absurd aV ek,λaV=>absurd aV ek⟩
   obtain⟨x,Br,lS⟩:=kv;repeat' ((conv=>whnf);first|refine bl ?_| (apply bo<;>intro h)|refine ch ?_|refine dE ?_|refine⟨i,bW x,aS ⟨⟨λh=>h,λh=>h⟩,λax=>⟨rfl,Br (by simpa using ax)⟩⟩ ?_⟩|fail)
   ·have ek:i<l.length:=by simpa using((cq ..).mp h).1
    have aB:l[i].mem<r.mem:=by
     have:=((cq ..).mp h).2;rw[lS ek]at this;simpa using this
    clear h;repeat' ((conv=>whnf);first|refine bl ?_|fail)
    all_goals(conv=>whnf)
    refine⟨i+1,⟨ek,λj aq sJ=> ?_⟩,by simp only[];omega,?_⟩
    ·rcases Nat.lt_succ_iff_lt_or_eq.mp sJ with h1|rfl
     ·exact cF j aq h1
     ·exact aB
    ·exact⟨⟨.r,.r,.r,a8 (ca (by omega)),aj⟩,⟨.r,.r,aj⟩,rfl⟩
   ·have au:qq l r.mem=i:=by
     rcases mX i l.length with ek|ek
     ·refine Q6 ek (λj aq=>cF j (by omega) aq) ?_;intro aB;rw[lS ek]at h;simp[ek,aB]at h
     ·have:i=l.length:=by omega
      subst this;exact Q7 λj aq=>cF j aq aq
    clear h;have Re:cj Tryz.prog 226 [] [ak.av 3 (((l.map bW).take i).drop 0) false] [] [aX.row 179 3 ((l.take i).map bW)] (ak.own 0):=by
     have:=Hl (l.take i) (by simp;omega) (λx ag=>bT (al x (om ag)) (by omega));rw[<-yt];exact this
    have hlen: (l.take i).length=i:=by simp;omega
    have qm:i<=(l.map bW).length:=by simpa using hi
    repeat' ((conv=>whnf);first|refine ch ?_|refine⟨0,i,aS ⟨rfl,⟨_,rfl⟩,bZ _,qm⟩ ?_⟩|refine .inr ⟨[],bO Re ?_⟩|refine aS (Lt (by simp<;>omega)) ?_|refine⟨i,aS ⟨⟨_,rfl⟩,qm⟩ ?_⟩|refine Exists.intro false ?_|fail)
    have Hm:List.map bW (List.take i l)++(List.replicate 1 (aE ah 179).zero).set 0 (dn (.agg [.v (.int .i64 r.mem),.v (.int .i64 r.aC),.av 1 (List.map aU r.cut) false]))++List.drop i (List.map bW l)=(iS l r).map bW:=by
     simp[iS,au,bW,dn]
    refine .inl ⟨[.agg (cG v),.av 3 ((iS l r).map bW) false],_,⟨.r,jI Hm,aj⟩,Ra,?_⟩;repeat' ((conv=>whnf);first| (apply bo<;>intro h)|refine aR Rb ?_|refine .inl ⟨[.av 3 ((iS l r).map bW) false],_,⟨jI Hm,aj⟩,Rc,?_⟩|fail)
    all_goals(conv=>whnf)
    ·simp only[fN,aQ,h,b6,bD];exact .refl
    ·simp only[fN,aQ,h,b6,bD];exact .refl
def jK(v:aK)(r:cg):Bool:=bP v.mem r.mem&&
  (decide (r.aC= -1)&&decide ((r.cut.length:Int)=0)|| (decide (r.aC=0)||jw r.aC)&&decide ((er v r.cut).2=0))
def eQ(l:List cg)(x:Int):Int:=lv (λi=>decide ((l.getD i dB).mem=x)) l.length
theorem aku{x:Int}(h:decide (0<=eQ l x)=false):∀r∈l,r.mem≠x:=by
 intro r ao e;obtain⟨i,hi,rfl⟩:=fv ao;have an:∃n,lv (λi=>decide ((l.getD i dB).mem=x)) l.length=((n:Nat):Int):=by
  rcases au: (List.range l.length).find? (λi=>decide ((l.getD i dB).mem=x))with _|n
  ·simp_all
  ·exact⟨n,by simp only[lv,au]⟩
 obtain⟨n,aV⟩:=an;simp only[eQ,aV,ib]at h;omega
theorem akv{x:Int}(h:decide (0<=eQ l x)=true):∃r∈l,r.mem=x:=by
 refine qH λaV=> ?_;have cF:∀j,j<l.length->decide ((l.getD j dB).mem=x)=false:=λj aq=>by
  grind
 rw[eQ,tE cF]at h;cases h
def Eh(v:aK)(l:List cg)(i:Nat):Bool:= !(!jK v (l.getD i dB)||decide (0<(i:Int))&&decide ((l.getD i dB).mem<=(l.getD (i-1) dB).mem))
theorem akw{x:Int}(ab:b2 v=true)(h:bP v.mem x=true):1<=x:=by
 have gS:dF v.mem 16=true:=by
  simp only[b2,cq]at ab
  grind
 rw[DY]at gS;simp only[cq]at gS;have ao:=K4.1 gS.2;rcases au: (List.range v.mem.length).find? (λi=>decide (v.mem[i]?=some x))with _|n
 ·simp only[bP,gR,lv,au]at h;cases h
 grind
theorem Zu(ab:b2 v=true)(l:List cg){i:Nat}(hi:i<l.length):Eh v l i=tS v l i:=by
 simp only[Eh,tS,jK];cases cS:bP v.mem (l.getD i dB).mem
 ·simp
 ·have an:=akw ab cS;have e: (decide (0<(i:Int))&&decide ((l.getD i dB).mem<=(l.getD (i-1) dB).mem))=decide ((l.getD i dB).mem<=Bp l i):=by
   cases i with
   |zero=>simp[Bp];grind
   |succ j=>
    have aq:j<l.length:=by omega
    simp[Bp,aq,hi]
  grind
theorem q6(ab:b2 v=true){l:List cg}:gI v l=true↔ (∀r∈l,jK v r=true)/\List.Pairwise (λa b:cg=>a.mem<b.mem) l:=by
 have e:gI v l=ij (Eh v l) l.length:=by
  rw[gI,ab,rp];cases h:ij (Eh v l) l.length
  ·cases ad:ij (tS v l) l.length
   ·rfl
   ·have:=iA.2 (λi hi=>(Zu ab l hi).trans (iA.1 ad i hi))
    grind
  ·exact iA.2 (λi hi=>(Zu ab l hi).symm.trans (iA.1 h i hi))
 rw[e,iA];have cy:∀i (hi:i<l.length),Eh v l i=true↔jK v l[i]=true/\(0<i->(l.getD (i-1) dB).mem<l[i].mem):=by
  intro i hi;have ax:l.getD i dB=l[i]:=by grind
  simp only[Eh,ax,nu,iW,mw,vI,ib]
  grind
 constructor
 ·intro h;have h1:∀i (hi:i<l.length),jK v l[i]=true/\(0<i->(l.getD (i-1) dB).mem<l[i].mem):=λi hi=>(cy i hi).1 (h i hi);refine⟨λr ao=> ?_,?_⟩
  ·obtain⟨i,hi,rfl⟩:=fv ao
   grind
  ·rw[my];intro i j hi aq fV;obtain⟨d,rfl⟩:∃d,j=i+1+d:=⟨j- (i+1),by omega⟩
   clear fV;induction d with
   |zero=>
    grind
   |succ d a1=>
    grind
 ·rintro⟨h1,ad⟩ i hi;refine(cy i hi).2 ⟨h1 _ (eD hi),λaQ=> ?_⟩;have fE:i-1<l.length:=by omega
  have:=my.1 ad (i-1) i fE hi (by omega)
  grind
theorem akx{r:cg}(an:List.Pairwise (λa b:cg=>a.mem<b.mem) l):List.Pairwise (λa b:cg=>a.mem<b.mem) (iS l r)↔∀x∈l,x.mem≠r.mem:=by
 induction l with
 |nil=>simp[iS]
 |cons y l a1=>
  rw[s9]at an;by_cases bk:y.mem<r.mem
  ·have e:iS (y::l) r=y::iS l r:=by simp[iS,qq,bk]
   have az:∀z,z∈iS l r↔z=r\/z∈l:=λz=>by
    constructor
    ·exact Bq
    ·intro h;simp only[iS,eb,eJ];rcases h with rfl|h
     ·simp
     ·rw[<-Fu (qq l r.mem) l,eb]at h
      grind
   rw[e,s9,a1 an.2]
   grind
  ·have e:iS (y::l) r=r::y::l:=by simp[iS,qq,bk]
   rw[e,s9];constructor
   ·grind
   ·intro h;refine⟨λz bt=> ?_,s9.2 an⟩
    grind
theorem aky(l:List cg)(i:Nat):hW l (i+1)=bif decide ((l.getD (hW l i) dB).aC<(l.getD i dB).aC)then i else hW l i:=rfl
theorem Zv(l:List cg)(p:c6->Bool): (fZ l).find? p=(l.find? λr=>decide (r.aC=0)&&p ⟨r.mem,r.cut⟩).map λr=>⟨r.mem,r.cut⟩:=by
 induction l with
 |nil=>rfl
 |cons y l a1=>
  by_cases bk:y.aC=0
  ·have e:fZ (y::l)= ⟨y.mem,y.cut⟩::fZ l:=by simp[fZ,bk]
   grind
  ·have e:fZ (y::l)=fZ l:=by simp[fZ,bk]
   grind
def vh(v:aK)(l:List cg)(r:cg):Bool:=decide (r.aC=0)&&decide (tT v l<=(iH (fZ l) r.cut:Int))
theorem Zw(aQ:q5 v l own=false)(h1:decide (0<(l.getD (hW l l.length) dB).aC)=false){i:Nat}(hi:i<l.length)(h:vh v l l[i]=true)(cF:∀j (aq:j<l.length),j<i->vh v l l[j]=false):gB v l own=(l[i].cut,true):=by
 have au: (l.find? λr=>decide (r.aC=0)&&decide (tT v l<=(iH (fZ l) r.cut:Int)))=some l[i]:=
  I1.2 ⟨h,i,hi,rfl,λj aq=>by
   have:=cF j (by omega) aq;simp only[vh]at this
   grind⟩
 simp only[gB,aQ,h1,bD,Zv,au,p6]
theorem akz(aQ:q5 v l own=false)(h1:decide (0<(l.getD (hW l l.length) dB).aC)=false)(cF:∀j (aq:j<l.length),vh v l l[j]=false):gB v l own=(own,decide (0<(own.length:Int))):=by
 have au: (l.find? λr=>decide (r.aC=0)&&decide (tT v l<=(iH (fZ l) r.cut:Int)))=none:=
  Ac.2 λr ao=>by
   obtain⟨j,aq,rfl⟩:=fv ao;have:=cF j aq;simp only[vh]at this
   grind
 simp only[gB,aQ,h1,bD,Zv,au,sf];cases own with
 |nil=>rfl
 |cons x l=>
  have aA:decide (((x::l).length:Int)=0)=false:=c5 (by grind)
  simp_all
theorem Zx(aQ:q5 v l own=false)(h1:decide (0<(l.getD (hW l l.length) dB).aC)=true):gB v l own=((l.getD (hW l l.length) dB).cut,true):=by
 simp only[gB,aQ,h1,bD,b6]
structure bi where
 self:Int
 view:aK
 aL:kz
 prop:List Int
 box:List c6
 aC:Int
 phase:Int
 bu:List cg
 c4:List Int
 aM:List cg
 dec:List Int
 cD:Int
structure c1 where
 kind:Int
 view:Int
 src:Int
 aC:Int
 cU:Int
 cut:List Int
structure dN where
 dd:Int
 m:c1
def dg(s:bi):List ak:=[i64 s.self,i64 s.view.num,.av 1 (s.view.mem.map aU) false,i64 s.aL.cc,i64 s.aL.aC,.av 1 (s.aL.cut.map aU) false,.av 1 (s.prop.map aU) false,.av 2 (s.box.map ee) false,i64 s.aC,i64 s.phase,.av 3 (s.bu.map bW) false,.av 1 (s.c4.map aU) false,.av 3 (s.aM.map bW) false,.av 1 (s.dec.map aU) false,i64 s.cD]
def pQ(m:c1):List ak:=[i64 m.kind,i64 m.view,i64 m.src,i64 m.aC,i64 m.cU,.av 1 (m.cut.map aU) false]
def fu(p:dN):List ak:=[i64 p.dd,i64 p.m.kind,i64 p.m.view,i64 p.m.src,i64 p.m.aC,i64 p.m.cU,.av 1 (p.m.cut.map aU) false]
def ga(v:aK)(c:List Int):Bool:=decide ((er v c).2=0)
def gJ(v:aK)(r:Int):Bool:= !decide (h5 r=0)&&bP v.mem (h5 r)
def jX(v:aK)(c:List Int):Bool:=decide ((c.length:Int)=0)||ga v c
theorem Hn(v:aK)(ab:v.mem.length<=maxLen)(r:Int):bq Tryz.prog 112 [.agg (cG v),i64 r] (.v (.bool (gJ v r))):=by
 refine cp (fn:=Tryz.f112) (c:=Tryz.f112.body.getD .skip) az aw (by rfl) Tryz.func112 (by rfl) (by rfl) (by rfl) (by rfl) ?_;repeat' ((conv=>whnf);first|refine bl ?_|exact .refl|refine dE ?_|refine aR (Lo _) ?_|refine ea (jt _ ab _) ?_|fail)
theorem Rf(v:aK)(ab:v.mem.length<=500000)(cut:List Int)(al:cut.length<=500000):bq Tryz.prog 163 [.agg (cG v),.av 1 (cut.map aU) false] (.v (.bool (ga v cut))):=by
 refine cp (fn:=Tryz.f163) (c:=Tryz.f163.body.getD .skip) az aw (by rfl) Tryz.func163 (by rfl) (by rfl) (by rfl) (by rfl) ?_;repeat' ((conv=>whnf);first|exact .refl|refine aR (DX _ ab _ al) ?_|fail)
theorem Zy(v:aK)(ab:v.mem.length<=500000)(cut:List Int)(al:cut.length<=500000):bq Tryz.prog 179 [.agg (cG v),.av 1 (cut.map aU) false] (.v (.bool (ga v cut))):=by
 refine cp (fn:=Tryz.f179) (c:=Tryz.f179.body.getD .skip) az aw (by rfl) Tryz.func179 (by rfl) (by rfl) (by rfl) (by rfl) ?_;repeat' ((conv=>whnf);first|exact .refl|refine aR (DX _ ab _ al) ?_|fail)
theorem Lu(v:aK)(ab:v.mem.length<=500000)(cut:List Int)(al:cut.length<=500000):bq Tryz.prog 113 [.agg (cG v),.av 1 (cut.map aU) false] (.v (.bool (jX v cut))):=by
 have e:jX v cut=(decide (((cut.map aU).length:Int)=0)||ga v cut):=by rw[bL];rfl
 rw[e];refine cp (fn:=Tryz.f113) (c:=Tryz.f113.body.getD .skip) az aw (by rfl) Tryz.func113 (by rfl) (by rfl) (by rfl) (by rfl) ?_;repeat' ((conv=>whnf);first|refine bl ?_|exact .refl|refine dE ?_|refine ea (Rf _ ab _ al) ?_|fail)
theorem qs(l:List Int)(af:l.length<=1000000):bq Tryz.prog 125 [.av 1 (l.map aU) false] (.av 1 (l.map aU) false):=by
 have iZ: (l.map aU).length* (aE ah 3).bytes<=140737488355328:=by
  have e: (aE ah 3).bytes=8:=by rfl
  grind
 have to: (l.map aU).length<=maxLen:=by simp only[maxLen];grind
 refine cp (fn:=Tryz.f125) (c:=Tryz.f125.body.getD .skip) az aw (by rfl) Tryz.func125 (by rfl) (by rfl) (by rfl) (by rfl) ?_;repeat' ((conv=>whnf);first|refine⟨(l.map aU).length,(l.map aU).length,rfl,rfl,bS _,iZ,to,?_⟩|fail)
 all_goals(conv=>whnf)
 refine jI ?_
 grind
def gf:bi:=⟨0,⟨0,[]⟩,⟨0,0,[]⟩,[],[],0,0,[],[],[],[],0⟩
def lb(v:aK)(self:Int):bi×Int:=bif !b2 v|| !bP v.mem self then(gf,1)else(⟨self,v,⟨0,-1,[]⟩,[],[],0,0,[],[],[],[],0⟩,0)
theorem Ho(v:aK)(ab:v.mem.length<=500000)(self:Int):bq Tryz.prog 70 [.agg (cG v),i64 self] (.be [.agg (dg (lb v self).1),i64 (lb v self).2]):=by
 have h1:v.mem.length<=maxLen:=bT ab (by decide);refine cp (fn:=Tryz.f70) (c:=Tryz.f70.body.getD .skip) az aw (by rfl) Tryz.func70 (by rfl) (by rfl) (by rfl) (by rfl) ?_;repeat' ((conv=>whnf);first|refine bl ?_| (apply bo<;>intro h)|refine ch ?_|refine dE ?_|refine aR (q3 _ h1) ?_|refine ea (jt _ h1 _) ?_|refine aR (qs _ (by omega)) ?_|refine aR akf ?_|fail)
 all_goals(conv=>whnf)
 all_goals simp only[lb,h,b6,bD]
 ·exact e1 ⟨iQ ⟨.r,.r,.ar,.r,.r,.ar,.ar,.ar,.r,.r,.ar,.ar,.ar,.ar,.r,aj⟩,.r,aj⟩
 ·exact e1 ⟨iQ ⟨.r,.r,.r,.r,.r,.r,.ar,.ar,.r,.r,.ar,.ar,.ar,.ar,.r,aj⟩,.r,aj⟩
def eG(v:aK)(m:c1):Bool:=
 bif !b2 v|| !bP v.mem m.src|| !decide (m.view=v.num)then false
 else bif decide (m.kind=1)||decide (m.kind=6)then decide (m.aC=0)&&decide (m.cU=0)&&ga v m.cut
 else bif decide (m.kind=2)then gJ v m.aC&&decide (h5 m.aC=m.src)&&decide (m.cU=0)&&decide ((m.cut.length:Int)=0)
 else bif decide (m.kind=3)then gJ v m.aC&& !decide (m.aC<m.cU)&& (decide (m.cU= -1)&&decide ((m.cut.length:Int)=0)|| (decide (m.cU=0)||gJ v m.cU)&&ga v m.cut)
 else bif decide (m.kind=4)then gJ v m.aC&&decide (h5 m.aC=m.src)&&decide (m.cU=0)&&ga v m.cut
 else bif decide (m.kind=5)then gJ v m.aC&&decide (m.cU=0)&&ga v m.cut
 else false
theorem zo(v:aK)(ab:v.mem.length<=500000)(m:c1)(al:m.cut.length<=500000):bq Tryz.prog 146 [.agg (cG v),.agg (pQ m)] (.v (.bool (eG v m))):=by
 have h1:v.mem.length<=maxLen:=bT ab (by decide);have fk: ((m.cut.map aU).length:Int)=(m.cut.length:Int):=by simp
 refine cp (fn:=Tryz.f146) (c:=Tryz.f146.body.getD .skip) az aw (by rfl) Tryz.func146 (by rfl) (by rfl) (by rfl) (by rfl) ?_;repeat' ((conv=>whnf);first|refine bl ?_|refine ht (by assumption) ?_| (apply bo<;>intro h)|refine ch ?_|refine dE ?_|refine aR (q3 _ h1) ?_|refine ea (jt _ h1 _) ?_|refine ea (Rf _ ab _ al) ?_|refine aR (Hn _ h1 _) ?_|refine ea (Hn _ h1 _) ?_|refine ea (Lo _) ?_|fail)
 all_goals(conv=>whnf)
 all_goals(refine gQ ?_)
 all_goals(try rw[fk])
 all_goals(try rw[fk]at *)
 all_goals(simp only[eG, *,b6,bD,NJ,Fh,Aa,Cy])
 all_goals grind
def jY:c6:=⟨0,[]⟩
def Bs(v:aK)(l:List c6)(i:Nat):Bool:= !(!bP v.mem (l.getD i jY).mem||decide (0<(i:Int))&&decide ((l.getD i jY).mem<=(l.getD (i-1) jY).mem)|| !ga v (l.getD i jY).cut)
def hX(v:aK)(l:List c6):Bool:=b2 v&&ij (Bs v l) l.length
theorem tU(ab:b2 v=true){l:List c6}:hX v l=true↔ (∀b∈l,bP v.mem b.mem=true/\ga v b.cut=true)/\List.Pairwise (λa b:c6=>a.mem<b.mem) l:=by
 rw[hX,ab,rp,iA];have cy:∀i (hi:i<l.length),Bs v l i=true↔ (bP v.mem l[i].mem=true/\ga v l[i].cut=true)/\(0<i->(l.getD (i-1) jY).mem<l[i].mem):=by
  intro i hi;have ax:l.getD i jY=l[i]:=by grind
  simp only[Bs,ax,nu,iW,mw,vI,ib]
  grind
 constructor
 ·intro h;have h1:∀i (hi:i<l.length),(bP v.mem l[i].mem=true/\ga v l[i].cut=true)/\(0<i->(l.getD (i-1) jY).mem<l[i].mem):=λi hi=>(cy i hi).1 (h i hi);refine⟨λr ao=> ?_,?_⟩
  ·obtain⟨i,hi,rfl⟩:=fv ao
   grind
  ·rw[my];intro i j hi aq fV;obtain⟨d,rfl⟩:∃d,j=i+1+d:=⟨j- (i+1),by omega⟩
   clear fV;induction d with
   |zero=>
    grind
   |succ d a1=>
    grind
 ·rintro⟨h1,ad⟩ i hi;refine(cy i hi).2 ⟨h1 _ (eD hi),λaQ=> ?_⟩;have fE:i-1<l.length:=by omega
  have:=my.1 ad (i-1) i fE hi (by omega)
  grind
def gC:List c6->Int->Nat
 | [],_=>0
 |r::l,m=>if r.mem<m then gC l m+1 else 0
def iB(l:List c6)(r:c6):List c6:=l.take (gC l r.mem)++ [r]++l.drop (gC l r.mem)
def lf(l:List c6)(x:Int):Int:=lv (λi=>decide ((l.getD i jY).mem=x)) l.length
theorem Lv(l:List c6)(m:Int):gC l m<=l.length:=by
 induction l with
 |nil=>exact bS _
 |cons r l a1=>simp only[gC,l7];split<;>omega
theorem Zz{m:Int}:∀ {l:List c6} {i:Nat},i<gC l m->(af:i<l.length)->l[i].mem<m
 |r::l,i,h,af=>by
  simp only[gC]at h;split at h
  ·rename_i ao;cases i with
   |zero=>exact ao
   |succ i=>exact Zz (l:=l) (by omega) (by grind)
  ·omega
theorem ZA(l:List c6)(r:c6): (iB l r).length=l.length+1:=by
 have:=Lv l r.mem;simp[iB];omega
variable{l:List c6}
theorem zp{r x:c6}(h:x∈iB l r):x=r\/x∈l:=by
 simp only[iB,eb,eJ]at h
 grind
def pR(l:List c6)(r:c6)(i:Nat):List c6:=bif decide (gC l r.mem<i)then l.take (gC l r.mem)++ [r]++(l.take i).drop (gC l r.mem)else l.take i
theorem akA(l:List c6)(r:c6)(i:Nat): (pR l r i).length<=i+1:=by
 have:=Lv l r.mem;unfold pR;cases h:decide (gC l r.mem<i)<;>simp at h<;>simp<;>omega
theorem ZB{m:Int}:∀ {l:List c6} (h:gC l m<l.length),m<=l[gC l m].mem
 |r::l,h=>by
  by_cases ao:r.mem<m
  ·have e:gC (r::l) m=gC l m+1:=by simp[gC,ao]
   have ad:gC l m<l.length:=by grind
   have:=ZB ad
   grind
  ·have e:gC (r::l) m=0:=by simp[gC,ao]
   grind
theorem akB{l:List c6}{r:c6}{i:Nat}(hi:i<l.length)(h: (!decide (gC l r.mem<i)&&decide (r.mem<=l[i].mem))=true):gC l r.mem=i:=by
 simp only[cq,nu,ib,fx]at h;rcases mX i (gC l r.mem)with h1|h1
 ·have:=Zz h1 hi;omega
 ·omega
theorem akC{l:List c6}{r:c6}{i:Nat}(hi:i<l.length)(h: (!decide (gC l r.mem<i)&&decide (r.mem<=l[i].mem))=false):gC l r.mem≠i:=by
 intro e;have h1:=ZB (l:=l) (m:=r.mem) (by omega)
 grind
theorem akD{l:List c6}{r:c6}{i:Nat}(hi:i<l.length)(h:gC l r.mem=i):pR l r i++ [r]++ [l[i]]=pR l r (i+1):=by
 have aA:decide (gC l r.mem<i)=false:=by grind
 have aG:decide (gC l r.mem<i+1)=true:=by grind
 simp only[pR,aA,aG,b6,bD,h];rw[fA hi,Fl (by grind)];simp
theorem akE{l:List c6}{r:c6}{i:Nat}(hi:i<l.length)(h:gC l r.mem≠i):pR l r i++ [l[i]]=pR l r (i+1):=by
 rcases mX (gC l r.mem) i with h1|h1
 ·have aA:decide (gC l r.mem<i)=true:=by grind
  have aG:decide (gC l r.mem<i+1)=true:=by grind
  simp only[pR,aA,aG,b6];rw[fA hi,Fl (by grind)];simp
 ·have aA:decide (gC l r.mem<i)=false:=by grind
  have aG:decide (gC l r.mem<i+1)=false:=by grind
  simp only[pR,aA,aG,bD];simp
theorem akF{l:List c6}{r:c6}(h:decide (gC l r.mem<l.length)=true):pR l r l.length=iB l r:=by
 simp only[pR,h,b6,iB,gn]
theorem akG{l:List c6}{r:c6}(h:decide (gC l r.mem<l.length)=false):pR l r l.length++ [r]=iB l r:=by
 have:=Lv l r.mem;have e:gC l r.mem=l.length:=by grind
 simp only[pR,h,bD,iB];simp[e]
theorem akH{l:List c6}{r:c6}{i:Nat}(h:gC l r.mem≠i):decide (gC l r.mem<i)=decide (gC l r.mem<i+1):=by
 grind
theorem akI{r:c6}(an:List.Pairwise (λa b:c6=>a.mem<b.mem) l):List.Pairwise (λa b:c6=>a.mem<b.mem) (iB l r)↔∀x∈l,x.mem≠r.mem:=by
 induction l with
 |nil=>simp[iB]
 |cons y l a1=>
  rw[s9]at an;by_cases bk:y.mem<r.mem
  ·have e:iB (y::l) r=y::iB l r:=by simp[iB,gC,bk]
   have az:∀z,z∈iB l r↔z=r\/z∈l:=λz=>by
    constructor
    ·exact zp
    ·intro h;simp only[iB,eb,eJ];rcases h with rfl|h
     ·simp
     ·rw[<-Fu (gC l r.mem) l,eb]at h
      grind
   rw[e,s9,a1 an.2]
   grind
  ·have e:iB (y::l) r=r::y::l:=by simp[iB,gC,bk]
   rw[e,s9];constructor
   ·grind
   ·intro h;refine⟨λz bt=> ?_,s9.2 an⟩
    grind
theorem Rg{x:Int}(h:decide (0<=lf l x)=false):∀r∈l,r.mem≠x:=by
 intro r ao e;obtain⟨i,hi,rfl⟩:=fv ao;have an:∃n,lv (λi=>decide ((l.getD i jY).mem=x)) l.length=((n:Nat):Int):=by
  rcases au: (List.range l.length).find? (λi=>decide ((l.getD i jY).mem=x))with _|n
  ·simp_all
  ·exact⟨n,by simp only[lv,au]⟩
 obtain⟨n,aV⟩:=an;simp only[lf,aV,ib]at h;omega
theorem ZC{x:Int}(h:decide (0<=lf l x)=true):∃r∈l,r.mem=x:=by
 refine qH λaV=> ?_;have cF:∀j,j<l.length->decide ((l.getD j jY).mem=x)=false:=λj aq=>by
  grind
 rw[lf,tE cF]at h;cases h
def h6(v:aK)(l:List c6)(b:c6):List c6×Int:=
 bif !hX v l|| !ga v b.cut then([],1)
 else bif !bP v.mem b.mem then([],6)
 else bif decide (0<=lf l b.mem)then([],7)
 else(iB l b,0)
def jx(v:aK)(l:List c6):List Int×Bool:=
 bif !hX v l then([],false)
 else match l.find? (λb=>decide (tR v.mem.length<=(iH l b.cut:Int)))with
  |some b=>(b.cut,true)
  |none=>([],false)
theorem Rh(v:aK)(ab:v.mem.length<=500000)(l:List c6)(af:l.length<=maxLen)(al:∀r∈l,r.cut.length<=500000):bq Tryz.prog 114 [.agg (cG v),.av 2 (l.map ee) false] (.v (.bool (hX v l))):=by
 have hK:l.length<=9223372036854775807:=af;have h1:v.mem.length<=maxLen:=bT ab (by decide);refine cp (fn:=Tryz.f114) (c:=Tryz.f114.body.getD .skip) az aw (by rfl) Tryz.func114 (by rfl) (by rfl) (by rfl) (by rfl) ?_;repeat' ((conv=>whnf);first| (apply bo<;>intro h)|refine aR (q3 _ h1) ?_|fail)
 ·refine gQ ?_;have h:b2 v=false:=by grind
  simp[hX,h]
 ·have q4:b2 v=true:=by grind
  clear h;conv=>whnf
  refine⟨Nat,λi=>⟨[(1,.av 2 (l.map ee) false),(2,.aW 0 0),(10,.av 2 (l.map ee) false),(11,i64 (l.map ee).length),(12,i64 i)],[.cells 24 (cG v)]⟩,λi=>i<=l.length/\∀j,j<i->Bs v l j=true,λi=>l.length-i,[],⟨0,⟨bZ _,by omega⟩,?_⟩,?_⟩
  ·exact⟨by repeat' ((conv=>whnf);first|exact trivial|refine aS (by(conv=>arg 1;whnf);first| (with_reducible exact .refl)|exact a8 (ca (by omega))|exact .refl) ?_|fail),by repeat' ((conv=>whnf);first|exact trivial|refine aS ?_ ?_|exact .refl|fail),rfl⟩
  ·intro i ⟨hi,cF⟩;repeat' ((conv=>whnf);first| (apply bo<;>intro h)|fail)
   ·have aB:i<l.length:=by grind
    clear h;have ax:l.getD i jY=l[i]:=by grind
    have Ri:=Zy v ab (l[i].cut) (al _ (eD aB));have cy:Bs v l i= !(!bP v.mem l[i].mem||decide (0<(i:Int))&&decide (l[i].mem<=(l.getD (i-1) jY).mem)|| !ga v l[i].cut):=by rw[Bs,ax]
    have an:0<i->(IntKind.i64.wrap ((i:Int)-1))=((i-1:Nat):Int)/\(l.map ee)[i-1]?=some (ee (l.getD (i-1) jY)):=by
     intro aQ;refine⟨by rw[dQ (by omega) (by omega)];omega,?_⟩
     grind
    repeat' ((conv=>whnf);first|refine bl ?_| (apply bo<;>intro h)|refine ch ?_|refine dE ?_|refine⟨_,_,aS ⟨rfl,du aB⟩ ?_⟩|refine aR (jt _ h1 _) ?_|refine ea Ri ?_|refine⟨i-1,ee (l.getD (i-1) jY),aS ⟨⟨λh=>h,λh=>h⟩,λax=>an (by have:=((cq ..).mp ax).2<;>simpa using this)⟩ ?_⟩|fail)
    all_goals(conv=>whnf)
    ·refine gQ ?_;have:Bs v l i=false:=by grind
     rw[hX,tF aB this,oR]
    ·refine⟨i+1,⟨aB,λj aq=> ?_⟩,by grind,?_⟩
     ·grind
     ·exact⟨by repeat' ((conv=>whnf);first|exact trivial|refine aS (by(conv=>arg 1;whnf);first| (with_reducible exact .refl)|exact a8 (ca (by omega))|exact .refl) ?_|fail),by repeat' ((conv=>whnf);first|exact trivial|refine aS ?_ ?_|exact .refl|fail),rfl⟩
   ·have fU:¬i<l.length:=by grind
    conv=>whnf
    refine gQ ?_;rw[hX,q4,iA.2 (λj aq=>cF j (by omega))];rfl
def hY(l:List c6)(x:Int):List Int×Bool:=bif decide (0<=lf l x)then((l.getD (lf l x).toNat jY).cut,true)else([],false)
theorem akJ{x:Int}{i:Nat}(aB:i<l.length)(h:decide (l[i].mem=x)=true)(cF:∀j,j<i->decide ((l.getD j jY).mem=x)=false):hY l x=(l[i].cut,true):=by
 have e:lf l x=(i:Int):=wD aB (by grind) cF;have aG:decide (0<=(i:Int))=true:=by simp
 simp only[hY,e,aG,b6,l6]
 grind
theorem akK{x:Int}(cF:∀j,j<l.length->decide ((l.getD j jY).mem=x)=false):hY l x=([],false):=by
 have e:lf l x= -1:=tE cF;simp only[hY,e];rfl
theorem Rj(l:List c6)(af:l.length<=maxLen)(x:Int):bq Tryz.prog 115 [.av 2 (l.map ee) false,.v (.int .i64 x)] (.be [.av 1 ((hY l x).1.map aU) false,.v (.bool (hY l x).2)]):=by
 have hK:l.length<=9223372036854775807:=af;refine cp (fn:=Tryz.f115) (c:=Tryz.f115.body.getD .skip) az aw (by rfl) Tryz.func115 (by rfl) (by rfl) (by rfl) (by rfl) ?_;repeat' ((conv=>whnf);first|refine bl ?_|fail)
 refine⟨Nat,λi=>⟨[(1,.v (.int .i64 x)),(8,.av 2 (l.map ee) false),(9,i64 (l.map ee).length),(10,i64 i)],[]⟩,λi=>i<=l.length/\∀j,j<i->decide ((l.getD j jY).mem=x)=false,λi=>l.length-i,[],⟨0,⟨bZ _,by omega⟩,?_⟩,?_⟩
 ·exact⟨by repeat' ((conv=>whnf);first|exact trivial|refine aS (by(conv=>arg 1;whnf);first| (with_reducible exact .refl)|exact a8 (ca (by omega))|exact .refl) ?_|fail),by repeat' ((conv=>whnf);first|exact trivial|fail),rfl⟩
 ·intro i ⟨hi,cF⟩;repeat' ((conv=>whnf);first| (apply bo<;>intro h)|fail)
  ·have aB:i<l.length:=by grind
   clear h;repeat' ((conv=>whnf);first| (apply bo<;>intro h)|refine⟨_,_,aS ⟨rfl,du aB⟩ ?_⟩|fail)
   all_goals(conv=>whnf)
   ·rw[akJ aB h cF];exact .refl
   ·have ad:=h;refine⟨i+1,⟨aB,λj aq=> ?_⟩,by grind,?_⟩
    ·grind
    ·exact⟨by repeat' ((conv=>whnf);first|exact trivial|refine aS (by(conv=>arg 1;whnf);first| (with_reducible exact .refl)|exact a8 (ca (by omega))|exact .refl) ?_|fail),by repeat' ((conv=>whnf);first|exact trivial|fail),rfl⟩
  ·have fU:¬i<l.length:=by grind
   conv=>whnf
   rw[akK (λj aq=>cF j (by omega))];exact e1 ⟨.ar,.r,aj⟩
theorem wK{α:Type} [DecidableEq α]:∀ {a b:List α},a.Nodup->(∀x∈a,x∈b)->a.length<=b.length
 | [],_,_,_=>bZ _
 |x::a,b,aV,ae=>by
  rw[I6]at aV;have ag:=ae x (s8 ..);have:=wK (b:=b.erase x) aV.2 (λy bk=>(List.mem_erase_of_ne (λe=>aV.1 (by grind))).2 (ae y (Fs _ bk)))
  grind
theorem Rk{β:Type}{p q:β->Bool}(h:∀x,p x=true->q x=true->False):∀l:List β,(l.filter p).length+(l.filter q).length<=l.length
 | []=>bS _
 |x::l=>by
  have a1:=Rk h l
  grind
theorem sK(ab:b2 v=true):1<=v.mem.length/\v.mem.length<=16:=by
 have gS:dF v.mem 16=true:=by
  simp only[b2,cq]at ab
  grind
 rw[DY]at gS
 grind
theorem ZD(ab:b2 v=true): (!(decide (1<=(v.mem.length:Int))&&decide ((v.mem.length:Int)<=16)))=false:=by
 have aV:=sK ab
 grind
theorem Lw(ab:b2 v=true):fY v.mem.length=((v.mem.length/2+1:Nat):Int):=by
 have aV:=sK ab;unfold fY;rw[ZD ab];show IntKind.i64.wrap _=_;have h1: (v.mem.length:Int).tdiv 2=((v.mem.length/2:Nat):Int):=rfl;rw[h1,dQ (n:=((v.mem.length/2:Nat):Int)) (by omega) (by omega),dQ (by omega) (by omega)];omega
theorem Rl(ab:b2 v=true):tR v.mem.length=((v.mem.length- (v.mem.length-1)/4:Nat):Int):=by
 have aV:=sK ab;unfold tR;rw[ZD ab];show IntKind.i64.wrap _=_;rw[dQ (n:=(v.mem.length:Int)-1) (by omega) (by omega)];have h1: ((v.mem.length:Int)-1).tdiv 4=(((v.mem.length-1)/4:Nat):Int):=by
  grind
 rw[h1,dQ (n:=(((v.mem.length-1)/4:Nat):Int)) (by omega) (by omega),dQ (by omega) (by omega)];omega
theorem Ei{l:List Int}{x:Int}(h:bP l x=true):x∈l:=by
 rcases au: (List.range l.length).find? (λi=>decide (l[i]?=some x))with _|n
 ·simp only[bP,gR,lv,au]at h;cases h
 grind
theorem Rm(ab:b2 v=true){x:Int}(h:bP v.mem x=true):1<=x/\x<=1000:=by
 have gS:dF v.mem 16=true:=by
  simp only[b2,cq]at ab
  grind
 rw[DY]at gS;simp only[cq]at gS;have ao:=K4.1 gS.2;obtain⟨i,hi,rfl⟩:=fv (Ei h)
 grind
theorem Rn(h:hX v l=true):l.length<=v.mem.length:=by
 have ab:b2 v=true:=by
  simp only[hX,cq]at h
  grind
 have ac:=(tU ab).1 h;have:=wK (a:=l.map (·.mem)) (b:=v.mem) (by
  grind) (λx ag=>by
  obtain⟨b,gG,rfl⟩:=fr.1 ag;exact Ei (ac.1 b gG).1)
 grind
def nI(l:List c6):Nat->List Int×Int
 |0=>([],0)
 |i+1=>bif decide ((nI l i).2<(iH l (l.getD i jY).cut:Int))then((l.getD i jY).cut,(iH l (l.getD i jY).cut:Int))else nI l i
theorem Ro(l:List c6):∀i j,j<i->(iH l (l.getD j jY).cut:Int)<=(nI l i).2
 |i+1,j,h=>by
  unfold nI;by_cases aa: (nI l i).2<(iH l (l.getD i jY).cut:Int)
  ·rw[e4 aa,b6];rcases yv.1 h with h|rfl
   ·have:=Ro l i j h;omega
   simp
  ·rw[c5 aa,bD];rcases yv.1 h with h|rfl
   ·exact Ro l i j h
   ·omega
theorem Rp(l:List c6):∀i,nI l i=([],0)\/∃j,j<i/\nI l i=((l.getD j jY).cut,(iH l (l.getD j jY).cut:Int))
 |0=>.inl rfl
 |i+1=>by
  unfold nI;by_cases aa: (nI l i).2<(iH l (l.getD i jY).cut:Int)
  ·grind
  ·rw[c5 aa,bD];rcases Rp l i with h| ⟨j,h1,ad⟩;all_goals grind
theorem akL{c d:List Int}(h:c≠d):iH l c+iH l d<=l.length:=
 Rk (λx h1 ad=>h ((zc.1 h1).symm.trans (zc.1 ad))) l
theorem akM{v:aK}{l:List c6}(h:decide ((nI l l.length).2<tR v.mem.length)=true):jx v l=([],false):=by
 unfold jx;cases ac:hX v l
 ·rfl
 ·have aV:l.find? (λb=>decide (tR v.mem.length<=(iH l b.cut:Int)))=none:=Ac.2 (λb ac=>by
   obtain⟨j,aq,rfl⟩:=fv ac;have:=Ro l l.length j aq
   grind)
  grind
theorem akN{v:aK}{l:List c6}(ac:hX v l=true)(h:decide ((nI l l.length).2<tR v.mem.length)=false):jx v l=((nI l l.length).1,true):=by
 have ab:b2 v=true:=by
  simp only[hX,cq]at ac
  grind
 have af:=Rn ac;have aV:=sK ab;have au:=Rl ab;have h:=rv h;rcases Rp l l.length with e| ⟨j,aq,e⟩
 ·grind
 ·rw[e]at h⊢;simp only at h⊢;have ax:l.getD j jY=l[j]:=by grind
  rw[ax]at h⊢;unfold jx;rw[ac];cases rW:l.find? (λb=>decide (tR v.mem.length<=(iH l b.cut:Int)))with
  |none=>
   grind
  |some b=>
   have an:=I2 rW;simp only[fx]at an;have:b.cut=l[j].cut:=qH λbx=>by
    have:=akL (l:=l) bx;omega
   grind
theorem akO{N:Nat}(al:∀b∈l,b.cut.length<=N): (nI l l.length).1.length<=N:=by
 rcases Rp l l.length with e| ⟨j,aq,e⟩;all_goals grind
theorem akP(l:List c6)(af:l.length<=500000)(al:∀b∈l,b.cut.length<=1000000):bq Tryz.prog 229 [.av 2 (l.map ee) false] (.be [.av 1 ((nI l l.length).1.map aU) false,i64 (nI l l.length).2]):=by
 have hK:l.length<=9223372036854775807:=by omega
 have i0:=akO al;refine cp (fn:=Tryz.f229) (c:=Tryz.f229.body.getD .skip) az aw (by rfl) Tryz.func229 (by rfl) (by rfl) (by rfl) (by rfl) ?_;repeat' ((conv=>whnf);first|refine bl ?_|fail)
 refine⟨Nat,λi=>⟨[(0,.av 2 (l.map ee) false),(2,.av 1 ((nI l i).1.map aU) false),(3,i64 (nI l i).2),(7,i64 (l.map ee).length),(8,i64 i)],[]⟩,λi=>i<=l.length,λi=>l.length-i,[],⟨0,bZ _,?_⟩,?_⟩
 ·conv=>whnf
  exact⟨⟨.r,.ar,.r,.r,.r,aj⟩,aj,rfl⟩
 ·intro i hi;repeat' ((conv=>whnf);first| (apply bo<;>intro h)|fail)
  ·have aB:i<l.length:=by grind
   clear h;have ax:l.getD i jY=l[i]:=by grind
   have akQ:=Zm l af (λb ac=>bT (al b ac) (by decide)) l[i].cut;have ae:nI l (i+1)=bif decide ((nI l i).2<(iH l l[i].cut:Int))then(l[i].cut,(iH l l[i].cut:Int))else nI l i:=by
    rw[<-ax];rfl
   repeat' ((conv=>whnf);first| (apply bo<;>intro h)|refine⟨_,_,aS ⟨rfl,du aB⟩ ?_⟩|refine aR akQ ?_|fail)
   all_goals(conv=>whnf)
   ·refine⟨i+1,aB,by grind,?_⟩;conv=>whnf
    rw[h,b6]at ae;refine⟨⟨.r,jI (by rw[ae]),a8 (by rw[ae]),.r,a8 (ca (by omega)),aj⟩,aj,rfl⟩
   ·refine⟨i+1,aB,by grind,?_⟩;conv=>whnf
    rw[h,bD]at ae;refine⟨⟨.r,jI (by rw[ae]),a8 (by rw[ae]),.r,a8 (ca (by omega)),aj⟩,aj,rfl⟩
  ·have fU:¬i<l.length:=by grind
   have:i=l.length:=by omega
   subst this;clear h;repeat' ((conv=>whnf);first|exact .refl|refine aR (pa _ i0) ?_|fail)
theorem ZE(v:aK)(ab:v.mem.length<=500000)(l:List c6)(af:l.length<=500000)(al:∀b∈l,b.cut.length<=500000):bq Tryz.prog 198 [.agg (cG v),.av 2 (l.map ee) false] (.be [.av 1 ((jx v l).1.map aU) false,.v (.bool (jx v l).2)]):=by
 have hK:l.length<=maxLen:=by simp only[maxLen];omega
 have Rq:=Rh v ab l hK al;have akR:=akP l af (λb ac=>bT (al b ac) (by omega));have akS:=Zl (v.mem.length:Int);have ba:hX v l=false->jx v l=([],false):=λh=>by
  unfold jx
  grind
 have eL:= @akM v l;have hs:= @akN v l;generalize jx v l=W at *;generalize nI l l.length=X at *;generalize tR v.mem.length=F at *;have akT:bq Tryz.prog 230 [i64 ((v.mem.map aU).length:Int)] (i64 F):=by
  rw[bL];exact akS
 refine cp (fn:=Tryz.f198) (c:=Tryz.f198.body.getD .skip) az aw (by rfl) Tryz.func198 (by rfl) (by rfl) (by rfl) (by rfl) ?_;repeat' ((conv=>whnf);first| (apply bo<;>intro h)|refine aR Rq ?_|refine aR akR ?_|refine aR akT ?_|fail)
 all_goals(conv=>whnf)
 ·rw[ba (by grind)];exact e1 ⟨.ar,.r,aj⟩
 ·rw[eL h];exact e1 ⟨.ar,.r,aj⟩
 ·rename_i ac;rw[hs (by grind) h];exact .refl
end Go.Proofs.YtdcfooeoaoahjaaGreat
