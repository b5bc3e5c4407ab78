/-
  Several texts in one: Rs1 Rs2 Rh6 Rh7 Rs3 Rh8 Rh9 Rs4 Rv1 Rv2.
  Conditions: named at each.
-/
import Derived.Test.YtkoamlfiijcecaaGreatDoorG13
set_option maxHeartbeats 16000000
set_option linter.unusedSimpArgs false
set_option linter.unusedVariables false
set_option linter.unusedSectionVars false
namespace Go.Proofs.YtkoamlfiijcecaaGreatDoor.Sx
open Go.ChangeShapes Go.WideShapes Go.ChangeAt Go.RowKit Go.Deep
def IsU(v:Value)(_:View):Prop:=∃m:Int,v=.int .u64 m
def IsB(n:Nat)(v:Value)(_:View):Prop:=∃l:List UInt8,v=.string (B l)/\l.length=n
theorem OM(n:Int)(k:Nat)(j:k<=1000)(w:World){U:View}(g:See U w):CP 244 #[.int .u64 n,.int .i64 (k:Int)] w (fV w U IsU):=by
 refine dC 20 Tryz.func244 g ?_;refine zQ 1 (zn (zQ 1 (zn (zs (zQ 1 (zn (aB (eF (α:=Int×Int×Nat) (λx=>[0,1,4,5,6].zip [(U6 x.2.1),(L6 k),(U6 0),(U6 x.1),(L6 x.2.2)]) (λx=>U) (λx=>[]) (λx=>x.2.2<=k) (λx=>k-x.2.2) (0,n,0) ?_ ?_))))))))
 ·exact M8 _
 intro x r;refine zs (zQ 3 (zn (aZ ((x.2.2:Int)<(k:Int)) (λa d=>?_) (λa _=>?_))))
 ·refine zk (zs (aB (zQ 6 (zn (zr (zq 3 (zn (zr (zq 2 (dH 11 ((x.2.2:Int)+1) (zq 1 (zn ?_))))))))))));refine nx ((IntKind.u64.wrap ((IntKind.u64.wrap (x.1*2))+((x.2.1).tmod 2))),(IntKind.u64.wrap ((x.2.1).tdiv 2)),x.2.2+1) ?_ ?_
  ·show x.2.2+1<=k;omega
  ·show k-(x.2.2+1)<k-x.2.2;omega
 ·refine aI (zQ 2 (zn (aA (aO [4] [(U6 x.1)] (λh f=>?_)))));exact aJ f (View.le_refl _) ⟨_,rfl⟩
theorem Cg{i:Nat}(h:i<17):∃v:Int,([(.int .i64 28),(.int .i64 27),(.int .i64 26),(.int .i64 25),(.int .i64 23),(.int .i64 22),(.int .i64 20),(.int .i64 19),(.int .i64 18),(.int .i64 14),(.int .i64 13),(.int .i64 11),(.int .i64 10),(.int .i64 9),(.int .i64 8),(.int .i64 6),(.int .i64 0)]:List Value)[i]? =some (.int .i64 v)/\v<=28:=by
 rcases(by omega:i=0\/i=1\/i=2\/i=3\/i=4\/i=5\/i=6\/i=7\/i=8\/i=9\/i=10\/i=11\/i=12\/i=13\/i=14\/i=15\/i=16)with rfl|rfl|rfl|rfl|rfl|rfl|rfl|rfl|rfl|rfl|rfl|rfl|rfl|rfl|rfl|rfl|rfl<;>exact⟨_,rfl,by decide⟩
theorem YJ(w:World){U:View}(d:See U w):CP 243 #[.int .i64 16] w (fV w U IsU):=by
 refine dC 28 Tryz.func243 d ?_;refine zQ 1 (zn (zs (zQ 2 (zn (dM (zQ 1 (zn (aA (aO [2] [(U6 4129)] (λf a=>?_))))))))));exact aJ a (View.le_refl _) ⟨_,rfl⟩
theorem YI(w:World){U:View}(C:See U w):CP 243 #[.int .i64 32] w (fV w U IsU):=by
 refine dC 28 Tryz.func243 C ?_;refine zQ 1 (zn (zs (zQ 2 (zn (cU (zk (zQ 1 (zn (zQ 1 (aW (λa=>(aX 0 a (zn (zs (zs (zr ?_))))))))))))))));refine eY [] [] a [(I6 28),(I6 27),(I6 26),(I6 25),(I6 23),(I6 22),(I6 20),(I6 19),(I6 18),(I6 14),(I6 13),(I6 11),(I6 10),(I6 9),(I6 8),(I6 6),(I6 0)] 330 kR (λj g f=>?_);refine zq 1 (zn (aB (eF (α:=Int×Nat) (λx=>[2,3,4,5].zip [(U6 0),(U6 x.1),(Pt a 0),(L6 x.2)]) (λx=>j) (λx=>[]) (λx=>x.2<=17) (λx=>17-x.2) (0,0) ?_ ?_)))
 ·exact M8 _
 intro x F;refine zs (zQ 2 (zn (aZ ((x.2:Int)<17) (λr u=>?_) (λr _=>?_))))
 ·refine zk (zs (aB (zQ 1 (zn (zs (zQ 1 (zn (aB (eF (α:=Int×Nat) (λy=>[2,3,4,5,6,7,11,12].zip [(U6 0),(U6 x.1),(Pt a 0),(L6 x.2),(U6 y.1),(L6 y.2),(L6 x.2),(.bool (decide ((x.2:Int)<17)))]) (λy=>j) (λy=>[]) (λy=>y.2<=28) (λy=>28-y.2) (1,0) ?_ ?_)))))))))
  ·exact M8 _
  intro y G;refine zs (zQ 2 (cB (Pt a (0+x.2*1)) (lJ _ 3 _ _ rfl a 0 17 x.2 1 .i64 kR kR (by first|assumption|omega) kR kR) ?_));obtain⟨k,h,D⟩:=Cg (i:=x.2) oW;refine zV a (0+x.2*1) (I6 k) (by rw[Nat.mul_one];exact f x.2 _ h) 3 (.tmp 17) _ Tryz.underlying3 rfl ?_;refine zq 1 (zn (aZ ((y.2:Int)<k) (λA d=>?_) (λA d=>?_)))
  ·refine zk (zs (aB (zr (zq 3 (zn (zr (zq 2 (dH 21 ((y.2:Int)+1) (zq 1 (zn ?_))))))))));refine nx ((IntKind.u64.wrap (y.1*2)),y.2+1) ?_ ?_
   ·show y.2+1<=28;omega
   ·show 28-(y.2+1)<28-y.2;omega
  ·refine aI (zr (zq 4 (zn (zr (zq 2 (dH 14 ((x.2:Int)+1) (zq 1 (zn ?_))))))));refine nx ((IntKind.u64.wrap (x.1+y.1)),x.2+1) ?_ ?_
   ·show x.2+1<=17;omega
   ·show 17-(x.2+1)<17-x.2;omega
 ·refine aI (zQ 2 (zn (aA (aO [2] [(U6 x.1)] (λE B=>?_)))));exact aJ B g ⟨_,rfl⟩
theorem Fe{x:Nat}(h:x<32):IntKind.u64.wrap (((2^x:Nat):Int)*2)=((2^(x+1):Nat):Int):=by
 have d:2^(x+1)<=2^32:=W7 (by decide) oW;have f:(2:Nat)^32=4294967296:=by decide
 have a:2^(x+1)=2^x*2:=bE ..;rw[u64_in oW oW,a];omega
theorem XY(b:List UInt8)(N:b.length<=R47)(w:World){U:View}(M:See U w):CP 212 #[.int .i64 16,.string (B b)] w (fV w U IsU):=by
 unfold R47 at N;refine dC 64 Tryz.func212 M ?_;refine zQ 1 (zn (zQ 1 (zn (zs (zQ 1 (zn (aB (eF (α:=Nat) (λx=>[0,1,4,5,6].zip [(I6 16),(St b),(U6 0),(N6 (2^x:Nat)),(L6 x)]) (λx=>U) (λx=>[]) (λx=>x<=16) (λx=>16-x) 0 ?_ ?_))))))))
 ·exact M8 _
 intro x Z;refine zs (zQ 3 (zn (aZ ((x:Int)<16) (λG f=>?_) (λG f=>?_))))
 ·refine zk (zs (aB (zr (zq 2 (dZ 20 (U6 (IntKind.u64.wrap (((2^x:Nat):Int)*2))) (N6 (2^(x+1):Nat)) (M0 (Value.int .u64) (Fe oW)) ?_)))));refine zq 1 (zn (zr (zq 2 (dH 18 ((x:Int)+1) (zq 1 (zn ?_))))));refine nx (x+1) ?_ ?_
  ·show x+1<=16;omega
  ·show 16-(x+1)<16-x;omega
 ·refine aI (zs (zr ?_));obtain rfl:x=16:=by omega
  refine zq 3 (zn (zQ 1 (lU (λW d=>YJ W d.view) (λv0 E u k=>?_))));obtain⟨D,rfl⟩:=k;refine zq 1 (zn (zs (zQ 1 (zn (aB (eF (α:=Int×Nat) (λg=>[0,1,4,5,7,8,9].zip [(I6 16),(St b),(U6 0),(U6 65536),(U6 g.1),(U6 D),(L6 g.2)]) (λg=>E) (λg=>[]) (λg=>g.2<=b.length) (λg=>b.length-g.2) (65535,0) ?_ ?_))))))
  ·exact M8 _
  intro g Y;refine zs (zQ 4 (zn (aZ ((g.2:Int)<(((b).length:Nat):Int)) (λI J=>?_) (λI _=>?_))))
  ·refine zk (zs (aB (zQ 2 ?_)));obtain⟨a,C⟩:∃y,(b)[g.2]? =some y:=⟨_,K8 (by first|assumption|omega)⟩;have F:=a.toNat_lt;refine cB (.int .u8 (a.toNat:Int)) (sQ 9 _ _ rfl b g.2 .i64 a kR kR C Tryz.underlying9) ?_;refine zq 1 (dH 34 (a.toNat:Int) (zq 1 (zn (zQ 1 (zn (aB (eF (α:=Int×Int×Nat) (λz=>[0,1,4,5,7,8,9,10,11,25,26,27,28,31,32,33,34].zip [(I6 16),(St b),(U6 0),(U6 65536),(U6 z.1),(U6 D),(L6 g.2),(I6 z.2.1),(L6 z.2.2),(L6 g.2),(St b),(L6 ((b).length)),(.bool (decide ((g.2:Int)<(((b).length:Nat):Int)))),(St b),(L6 g.2),(.int .u8 (a.toNat:Int)),(L6 a.toNat)]) (λz=>E) (λz=>[]) (λz=>z.2.2<=8) (λz=>8-z.2.2) (g.1,(a.toNat:Int),0) ?_ ?_)))))))
   ·exact M8 _
   intro z hz;refine zs (zQ 2 (zn (aZ ((z.2.2:Int)<8) (λK h=>?_) (λK h=>?_))))
   ·refine zk (zs (aB (zQ 4 (zn (zQ 3 (zn (zQ 5 (zn (zQ 5 (zn (zQ 3 (zn (iE (IntKind.u64.wrap ((z.1).tdiv 32768)) (IntKind.u64.wrap ((z.2.1).tmod 2)) (λL j=>?_) (λL j=>?_))))))))))))))
    ·refine zr (zq 4 (zn (zr (zq 2 (dH 38 ((z.2.2:Int)+1) (zq 1 (zn ?_)))))));refine nx ((Zm .u64 (((IntKind.u64.wrap (z.1*2))).tmod 65536) D),(IntKind.i64.wrap ((z.2.1).tdiv 2)),z.2.2+1) ?_ ?_
     ·show z.2.2+1<=8;omega
     ·show 8-(z.2.2+1)<8-z.2.2;omega
    ·refine zk (zr (zq 2 (dH 38 ((z.2.2:Int)+1) (zq 1 (zn ?_)))));refine nx ((((IntKind.u64.wrap (z.1*2))).tmod 65536),(IntKind.i64.wrap ((z.2.1).tdiv 2)),z.2.2+1) ?_ ?_
     ·show z.2.2+1<=8;omega
     ·show 8-(z.2.2+1)<8-z.2.2;omega
   ·refine aI (zr (zq 2 (dH 30 ((g.2:Int)+1) (zq 1 (zn ?_)))));refine nx (z.1,g.2+1) ?_ ?_
    ·show g.2+1<=b.length;omega
    ·show b.length-(g.2+1)<b.length-g.2;omega
  ·refine aI (zQ 5 (lU (λW d=>OM (IntKind.u64.wrap (65535-g.1)) 16 (by decide) W d.view) (λv2 V A r=>?_)));obtain⟨O,rfl⟩:=r;refine zq 1 (zn (aA (aO [4] [(U6 O)] (λX d=>?_))));exact aJ d (View.le_trans u A) ⟨_,rfl⟩
theorem XX(b:List UInt8)(N:b.length<=R47)(w:World){U:View}(M:See U w):CP 212 #[.int .i64 32,.string (B b)] w (fV w U IsU):=by
 unfold R47 at N;refine dC 64 Tryz.func212 M ?_;refine zQ 1 (zn (zQ 1 (zn (zs (zQ 1 (zn (aB (eF (α:=Nat) (λx=>[0,1,4,5,6].zip [(I6 32),(St b),(U6 0),(N6 (2^x:Nat)),(L6 x)]) (λx=>U) (λx=>[]) (λx=>x<=32) (λx=>32-x) 0 ?_ ?_))))))))
 ·exact M8 _
 intro x Z;refine zs (zQ 3 (zn (aZ ((x:Int)<32) (λG f=>?_) (λG f=>?_))))
 ·refine zk (zs (aB (zr (zq 2 (dZ 20 (U6 (IntKind.u64.wrap (((2^x:Nat):Int)*2))) (N6 (2^(x+1):Nat)) (M0 (Value.int .u64) (Fe oW)) ?_)))));refine zq 1 (zn (zr (zq 2 (dH 18 ((x:Int)+1) (zq 1 (zn ?_))))));refine nx (x+1) ?_ ?_
  ·show x+1<=32;omega
  ·show 32-(x+1)<32-x;omega
 ·refine aI (zs (zr ?_));obtain rfl:x=32:=by omega
  refine zq 3 (zn (zQ 1 (lU (λW d=>YI W d.view) (λv0 E u k=>?_))));obtain⟨D,rfl⟩:=k;refine zq 1 (zn (zs (zQ 1 (zn (aB (eF (α:=Int×Nat) (λg=>[0,1,4,5,7,8,9].zip [(I6 32),(St b),(U6 0),(U6 4294967296),(U6 g.1),(U6 D),(L6 g.2)]) (λg=>E) (λg=>[]) (λg=>g.2<=b.length) (λg=>b.length-g.2) (4294967295,0) ?_ ?_))))))
  ·exact M8 _
  intro g Y;refine zs (zQ 4 (zn (aZ ((g.2:Int)<(((b).length:Nat):Int)) (λI J=>?_) (λI _=>?_))))
  ·refine zk (zs (aB (zQ 2 ?_)));obtain⟨a,C⟩:∃y,(b)[g.2]? =some y:=⟨_,K8 (by first|assumption|omega)⟩;have F:=a.toNat_lt;refine cB (.int .u8 (a.toNat:Int)) (sQ 9 _ _ rfl b g.2 .i64 a kR kR C Tryz.underlying9) ?_;refine zq 1 (dH 34 (a.toNat:Int) (zq 1 (zn (zQ 1 (zn (aB (eF (α:=Int×Int×Nat) (λz=>[0,1,4,5,7,8,9,10,11,25,26,27,28,31,32,33,34].zip [(I6 32),(St b),(U6 0),(U6 4294967296),(U6 z.1),(U6 D),(L6 g.2),(I6 z.2.1),(L6 z.2.2),(L6 g.2),(St b),(L6 ((b).length)),(.bool (decide ((g.2:Int)<(((b).length:Nat):Int)))),(St b),(L6 g.2),(.int .u8 (a.toNat:Int)),(L6 a.toNat)]) (λz=>E) (λz=>[]) (λz=>z.2.2<=8) (λz=>8-z.2.2) (g.1,(a.toNat:Int),0) ?_ ?_)))))))
   ·exact M8 _
   intro z hz;refine zs (zQ 2 (zn (aZ ((z.2.2:Int)<8) (λK h=>?_) (λK h=>?_))))
   ·refine zk (zs (aB (zQ 4 (zn (zQ 3 (zn (zQ 5 (zn (zQ 5 (zn (zQ 3 (zn (iE (IntKind.u64.wrap ((z.1).tdiv 2147483648)) (IntKind.u64.wrap ((z.2.1).tmod 2)) (λL j=>?_) (λL j=>?_))))))))))))))
    ·refine zr (zq 4 (zn (zr (zq 2 (dH 38 ((z.2.2:Int)+1) (zq 1 (zn ?_)))))));refine nx ((Zm .u64 (((IntKind.u64.wrap (z.1*2))).tmod 4294967296) D),(IntKind.i64.wrap ((z.2.1).tdiv 2)),z.2.2+1) ?_ ?_
     ·show z.2.2+1<=8;omega
     ·show 8-(z.2.2+1)<8-z.2.2;omega
    ·refine zk (zr (zq 2 (dH 38 ((z.2.2:Int)+1) (zq 1 (zn ?_)))));refine nx ((((IntKind.u64.wrap (z.1*2))).tmod 4294967296),(IntKind.i64.wrap ((z.2.1).tdiv 2)),z.2.2+1) ?_ ?_
     ·show z.2.2+1<=8;omega
     ·show 8-(z.2.2+1)<8-z.2.2;omega
   ·refine aI (zr (zq 2 (dH 30 ((g.2:Int)+1) (zq 1 (zn ?_)))));refine nx (z.1,g.2+1) ?_ ?_
    ·show g.2+1<=b.length;omega
    ·show b.length-(g.2+1)<b.length-g.2;omega
  ·refine aI (zQ 5 (lU (λW d=>OM (IntKind.u64.wrap (4294967295-g.1)) 32 (by decide) W d.view) (λv2 V A r=>?_)));obtain⟨O,rfl⟩:=r;refine zq 1 (zn (aA (aO [4] [(U6 O)] (λX d=>?_))));exact aJ d (View.le_trans u A) ⟨_,rfl⟩
theorem OS(b:List UInt8)(k:b.length<=R47)(w:World){U:View}(j:See U w):CP 162 #[.int .i64 1,.string (B b)] w (fV w U (IsB 2)):=by
 refine dC 39 Tryz.func162 j ?_;refine zQ 1 (zn (zs (zQ 2 (zn (dM (zQ 1 (lU (λW a=>XY b k W a.view) (λv0 r f d=>?_))))))));obtain⟨g,rfl⟩:=d;refine zq 1 (zn (zQ 6 (aW (λh=>(cF [1,0] [(h,2)] (zn (aA (aO [4] [(St [UInt8.ofNat ((IntKind.u8.wrap (IntKind.u64.wrap ((g).tdiv 256))):Int).toNat,UInt8.ofNat ((IntKind.u8.wrap ((g).tmod 256)):Int).toNat])] (λu a=>?_)))))))));exact aJ a f ⟨_,rfl,rfl⟩
theorem OR(b:List UInt8)(k:b.length<=R47)(w:World){U:View}(j:See U w):CP 162 #[.int .i64 2,.string (B b)] w (fV w U (IsB 4)):=by
 refine dC 39 Tryz.func162 j ?_;refine zQ 1 (zn (zs (zQ 2 (zn (cU (zk (zs (zQ 2 (zn (dM (zQ 1 (lU (λW d=>XX b k W d.view) (λv0 r g f=>?_)))))))))))));obtain⟨a,rfl⟩:=f;refine zq 1 (zn (zQ 14 (aW (λh=>(cF [1,0] [(h,4)] (zn (aA (aO [4] [(St [UInt8.ofNat ((IntKind.u8.wrap (IntKind.u64.wrap ((a).tdiv 16777216))):Int).toNat,UInt8.ofNat ((IntKind.u8.wrap (((IntKind.u64.wrap ((a).tdiv 65536))).tmod 256)):Int).toNat,UInt8.ofNat ((IntKind.u8.wrap (((IntKind.u64.wrap ((a).tdiv 256))).tmod 256)):Int).toNat,UInt8.ofNat ((IntKind.u8.wrap ((a).tmod 256)):Int).toNat])] (λu d=>?_)))))))));exact aJ d g ⟨_,rfl,rfl⟩
theorem OW(l:List Itm.Tr):Itm.aG (Itm.dJ l)=Itm.aF 4 l.length++Itm.aY l:=Itm.iQ l
theorem OU(l:List UInt8):Itm.aG (eN l)=Itm.aF 2 l.length++l:=Itm.pK l
theorem OV(n:Nat):Itm.aG (Itm.cD n)=Itm.aF 0 n:=Itm.mT n
theorem UL{k:Int}{l:List Itm.Tr}(a:0<=k)(d:k<=2):((Sd k l).length:Int)=2*k:=Ab _ a d
def rbB(t n:Int)(f:Nat)(d:List UInt8)(sm:List UInt8)(c:Nat):List UInt8:=(((((Itm.aF 4 (if c=0 then 5 else 6)++Itm.aF 0 t.toNat)++Itm.aF 0 n.toNat)++Itm.aF 0 f)++Itm.aF 0 c)++(Itm.aF 2 d.length++d))++(if c=0 then[]else Itm.aF 2 sm.length++sm)
theorem sY(t n:Int)(f:Nat)(d:List UInt8)(h:List UInt8)(c:Nat)(M:c<=2)(K:h.length<=4)(L:0<=t/\t<=65535)(J:0<=n/\n<=65535)(r:f<W64)(N:d.length<=4000)(w:World):CP 165 #[.agg #[.int .u64 (t.toNat:Int),.int .u64 (n.toNat:Int),.int .u64 (f:Int),.int .u64 (c:Int)],.string (B d),.string (B h)] w (Ret (.string (B (rbB t n f d h c))) w):=by
 have w1:IntKind.u64.wrap t=(t.toNat:Int):=idU L;have w2:IntKind.u64.wrap n=(n.toNat:Int):=idU J;have V:=Itm.aE 0 t.toNat;have X:=Itm.aE 0 n.toNat;have Y:=Itm.aE 0 f;have Z:=Itm.aE 2 d.length;have l6:=Itm.aE 0 c;have l7:=Itm.aE 2 h.length;refine dF 41 Tryz.func165 ?_;refine zs (zr (aW (λg=>(zq 1 (zn (zQ 1 (zn ?_)))))));refine dG (α:=Nat) (λa=>[1,2,3,6,7].zip [(St d),(St h),(Pt g 0),(St []),(N6 (a:Nat))]) (λa=>View.no) (λa=>[(bK g [(N6 t.toNat),(N6 n.toNat),(N6 f),(N6 c)] 229)]) (λa=>a=if c=0 then 5 else 6) ?_ ?_
 ·refine zs (zr (cB (Pt g 3) (lJ _ 22 _ _ rfl g 0 4 3 1 .i64 kR kR (by first|assumption|omega) kR kR) ?_));refine cF [1,0,0] [(g,1)] (jZ 13 (c:Int) 1 (λE u=>?_) (λE u=>?_))
  ·refine zq 4 (zn (dM (zr (zq 1 (zn ?_)))));refine jn 6 ?_
   (split<;>omega)
  ·refine cB (Pt g 3) (lJ _ 22 _ _ rfl g 0 4 3 1 .i64 kR kR (by first|assumption|omega) kR kR) ?_;refine cF [1,0,0] [(g,1)] (zn (fC (c:Int) 2 (λF A=>?_) (λF A=>?_)))
   ·refine zr (zq 1 (zn ?_));refine jn 6 ?_
    (split<;>omega)
   ·refine zk ?_;refine jn 5 ?_
    (split<;>omega)
 intro a k;have l5:=Itm.aE 4 a;have k:a<=6:=by rw[k];split<;>omega
 have I:(c=0/\a=5)\/(c≠0/\a=6):=by rw[‹a=_›];split<;>omega
 refine zQ 1 (dN (λW j=>dK 4 a W (by decide) (by first|exact r|(unfold W64;omega))) (zq 1 (zn (zs (zQ 1 (zn (aB (eF (α:=Nat) (λx=>match x with|0=>[1,2,3,6,7,8,9].zip [(St d),(St h),(Pt g 0),(St []),(N6 (a:Nat)),(St (Itm.aF 4 a)),(I6 0)]|1=>[1,2,3,6,7,8,9].zip [(St d),(St h),(Pt g 0),(St []),(N6 (a:Nat)),(St ((Itm.aF 4 a)++(Itm.aF 0 t.toNat))),(I6 1)]|2=>[1,2,3,6,7,8,9].zip [(St d),(St h),(Pt g 0),(St []),(N6 (a:Nat)),(St (((Itm.aF 4 a)++(Itm.aF 0 t.toNat))++(Itm.aF 0 n.toNat))),(I6 2)]|3=>[1,2,3,6,7,8,9].zip [(St d),(St h),(Pt g 0),(St []),(N6 (a:Nat)),(St ((((Itm.aF 4 a)++(Itm.aF 0 t.toNat))++(Itm.aF 0 n.toNat))++(Itm.aF 0 f))),(I6 3)]|_=>[1,2,3,6,7,8,9].zip [(St d),(St h),(Pt g 0),(St []),(N6 (a:Nat)),(St (((((Itm.aF 4 a)++(Itm.aF 0 t.toNat))++(Itm.aF 0 n.toNat))++(Itm.aF 0 f))++(Itm.aF 0 c))),(I6 4)]) (λ_=>View.no) (λx=>[(bK g [(N6 t.toNat),(N6 n.toNat),(N6 f),(N6 c)] 229)]) (λx=>x<=4) (λx=>4-x) 0 oW ?_))))))));rintro x O;rcases(by omega:x=0\/x=1\/x=2\/x=3\/x=4)with rfl|rfl|rfl|rfl|rfl
 ·refine zs (zQ 2 (zn (dM (zk (zs (aB (zr (zq 2 (cB (Pt g 0) (lJ _ 22 _ _ rfl g 0 4 0 1 .i64 kR kR (by first|assumption|omega) kR kR) ?_)))))))));refine cF [1] [(g,1)] (dN (λW j=>dK 0 t.toNat W (by decide) (by first|exact r|(unfold W64;omega))) (cB (St ((Itm.aF 4 a)++(Itm.aF 0 t.toNat))) (cE _ _ _ _ rfl (Itm.aF 4 a) (Itm.aF 0 t.toNat) kR kR oA) ?_));refine zq 1 (zn (zr (zq 3 (zn ?_))));refine nx 1 oW (by show 4-1<4-0;omega)
 ·refine zs (zQ 2 (zn (dM (zk (zs (aB (zr (zq 2 (cB (Pt g 1) (lJ _ 22 _ _ rfl g 0 4 1 1 .i64 kR kR (by first|assumption|omega) kR kR) ?_)))))))));refine cF [1] [(g,1)] (dN (λW j=>dK 0 n.toNat W (by decide) (by first|exact r|(unfold W64;omega))) (cB (St (((Itm.aF 4 a)++(Itm.aF 0 t.toNat))++(Itm.aF 0 n.toNat))) (cE _ _ _ _ rfl ((Itm.aF 4 a)++(Itm.aF 0 t.toNat)) (Itm.aF 0 n.toNat) kR kR oA) ?_));refine zq 1 (zn (zr (zq 3 (zn ?_))));refine nx 2 oW (by show 4-2<4-1;omega)
 ·refine zs (zQ 2 (zn (dM (zk (zs (aB (zr (zq 2 (cB (Pt g 2) (lJ _ 22 _ _ rfl g 0 4 2 1 .i64 kR kR (by first|assumption|omega) kR kR) ?_)))))))));refine cF [1] [(g,1)] (dN (λW j=>dK 0 f W (by decide) (by first|exact r|(unfold W64;omega))) (cB (St ((((Itm.aF 4 a)++(Itm.aF 0 t.toNat))++(Itm.aF 0 n.toNat))++(Itm.aF 0 f))) (cE _ _ _ _ rfl (((Itm.aF 4 a)++(Itm.aF 0 t.toNat))++(Itm.aF 0 n.toNat)) (Itm.aF 0 f) kR kR oA) ?_));refine zq 1 (zn (zr (zq 3 (zn ?_))));refine nx 3 oW (by show 4-3<4-2;omega)
 ·refine zs (zQ 2 (zn (dM (zk (zs (aB (zr (zq 2 (cB (Pt g 3) (lJ _ 22 _ _ rfl g 0 4 3 1 .i64 kR kR (by first|assumption|omega) kR kR) ?_)))))))));refine cF [1] [(g,1)] (dN (λW j=>dK 0 c W (by decide) (by first|exact r|(unfold W64;omega))) (cB (St (((((Itm.aF 4 a)++(Itm.aF 0 t.toNat))++(Itm.aF 0 n.toNat))++(Itm.aF 0 f))++(Itm.aF 0 c))) (cE _ _ _ _ rfl ((((Itm.aF 4 a)++(Itm.aF 0 t.toNat))++(Itm.aF 0 n.toNat))++(Itm.aF 0 f)) (Itm.aF 0 c) kR kR oA) ?_));refine zq 1 (zn (zr (zq 3 (zn ?_))));refine nx 4 oW (by show 4-4<4-3;omega)
 ·refine zs (zQ 2 (zn (cU (aI (zQ 2 (dN (λW j=>pX d (by unfold R47;omega) W) (cB (St ((((((Itm.aF 4 a)++(Itm.aF 0 t.toNat))++(Itm.aF 0 n.toNat))++(Itm.aF 0 f))++(Itm.aF 0 c))++(Itm.aF 2 d.length++d))) (cE _ _ _ _ rfl (((((Itm.aF 4 a)++(Itm.aF 0 t.toNat))++(Itm.aF 0 n.toNat))++(Itm.aF 0 f))++(Itm.aF 0 c)) (Itm.aF 2 d.length++d) kR kR oA) ?_)))))));refine zq 1 (zn (zs (zQ 2 (zn (fC (a:Int) 6 (λG C=>?_) (λG C=>?_))))))
  ·refine zr (zq 2 (dN (λW j=>pX h (by unfold R47;omega) W) (cB (St (((((((Itm.aF 4 a)++(Itm.aF 0 t.toNat))++(Itm.aF 0 n.toNat))++(Itm.aF 0 f))++(Itm.aF 0 c))++(Itm.aF 2 d.length++d))++(Itm.aF 2 h.length++h))) (cE _ _ _ _ rfl ((((((Itm.aF 4 a)++(Itm.aF 0 t.toNat))++(Itm.aF 0 n.toNat))++(Itm.aF 0 f))++(Itm.aF 0 c))++(Itm.aF 2 d.length++d)) (Itm.aF 2 h.length++h) kR kR oA) ?_)));refine zq 1 (zn (zQ 2 (zn (aA (aO [6] [(St (((((((Itm.aF 4 a)++(Itm.aF 0 t.toNat))++(Itm.aF 0 n.toNat))++(Itm.aF 0 f))++(Itm.aF 0 c))++(Itm.aF 2 d.length++d))++(Itm.aF 2 h.length++h)))] (λD j=>?_))))));unfold rbB;rw[show(if c=0 then 5 else 6)=a from by split<;>omega,M5 (show¬c=0 by omega)];exact⟨rfl,j.below⟩
  ·refine zk (zQ 2 (zn (aA (aO [6] [(St ((((((Itm.aF 4 a)++(Itm.aF 0 t.toNat))++(Itm.aF 0 n.toNat))++(Itm.aF 0 f))++(Itm.aF 0 c))++(Itm.aF 2 d.length++d)))] (λD j=>?_)))));unfold rbB;rw[show(if c=0 then 5 else 6)=a from by split<;>omega,N1 (show c=0 by omega),M1];exact⟨rfl,j.below⟩
def Jn(t n:Int)(f:Nat)(d:List UInt8)(sm:List UInt8):List UInt8:=(((((Itm.aF 4 5++Itm.aF 0 t.toNat)++Itm.aF 0 n.toNat)++Itm.aF 0 f)++Itm.aF 0 0)++(Itm.aF 2 d.length++d))
theorem CZ(t n:Int)(f:Nat)(d:List UInt8)(a:List UInt8)(g:a.length<=4)(u:0<=t/\t<=65535)(r:0<=n/\n<=65535)(k:f<W64)(j:d.length<=4000)(w:World):CP 165 #[.agg #[.int .u64 (t.toNat:Int),.int .u64 (n.toNat:Int),.int .u64 (f:Int),.int .u64 0],.string (B d),.string (B a)] w (Ret (.string (B (Jn t n f d a))) w):=by
 have h:=sY t n f d a 0 (by decide) g u r k j w;rw[show rbB t n f d a 0=Jn t n f d a from M1 _]at h;exact h
theorem RV(t n:Int)(f:Nat)(d:List UInt8)(k:0<=t/\t<=65535)(j:0<=n/\n<=65535)(w:World):CP 164 #[.agg #[.int .i64 t,.int .i64 n,.int .u64 (f:Int),.int .i64 0,.string (B d)]] w (Ret (.agg #[.int .u64 (t.toNat:Int),.int .u64 (n.toNat:Int),.int .u64 (f:Int),.int .u64 0]) w):=by
 have r:IntKind.u64.wrap t=(t.toNat:Int):=idU k;have u:IntKind.u64.wrap n=(n.toNat:Int):=idU j;refine dF 15 Tryz.func164 ?_;refine zs (zr (aW (λa=>(aW (λg=>(zn (zB [0,1,0] [(a,1)] (dZ 5 (U6 (IntKind.u64.wrap t)) (N6 t.toNat) (M0 (Value.int .u64) r) ?_))))))));refine cF [0,1,0] [(a,1)] (dZ 8 (U6 (IntKind.u64.wrap n)) (N6 n.toNat) (M0 (Value.int .u64) u) ?_);refine cF [0,1,0,1,0,0] [(a,1),(a,1)] (aX 1 g (zn (aA (dW [2] [(g,4)] [(.agg #[(N6 t.toNat),(N6 n.toNat),(N6 f),(U6 0)])] (λA h=>?_)))));exact⟨rfl,h.below⟩
theorem Fh(t n:Int)(f:Nat)(d:List UInt8)(a:List UInt8)(g:a.length=0):(Jn t n f d a).length=(iB ⟨t,n,f,0,d⟩).length:=by
 show _=(Itm.aG (NT 0 (dR ⟨t,n,f,0,d⟩ []))).length;rw[show NT 0 (dR ⟨t,n,f,0,d⟩ [])=Itm.dJ [Itm.cD t.toNat,Itm.cD n.toNat,Itm.cD f,Itm.cD 0,eN d]from rfl];unfold Jn;simp only[OW,OV,OU,Itm.aY,L4,M9,O8,O0,Nat.reduceAdd];omega
theorem OJ(t n:Int)(f:Nat)(d:List UInt8)(j:0<=t/\t<=65535)(h:0<=n/\n<=65535)(A:f<W64)(u:d.length<=4000)(w:World){U:View}(C:See U w):CP 109 #[.agg #[.int .i64 t,.int .i64 n,.int .u64 (f:Int),.int .i64 0,.string (B d)]] w (fV w U (IsB (iB ⟨t,n,f,0,d⟩).length)):=by
 have L:IntKind.u64.wrap t=(t.toNat:Int):=idU j;have M:IntKind.u64.wrap n=(n.toNat:Int):=idU h;have E:=Itm.aE 0 t.toNat;have F:=Itm.aE 0 n.toNat;have G:=Itm.aE 0 f;have I:=Itm.aE 2 d.length;have J:=Itm.aE 4 5;have K:=Itm.aE 0 0;refine dC 24 Tryz.func109 C ?_;refine zs (zr (aW (λa=>(zq 1 (zn (zB [1] [(a,5)] (dN (λW g=>RV t n f d j h W) (aW (λk=>(aX 1 k (zn (zs ?_))))))))))));refine gI 5 [0,3,4,0,3,0,3,0,1,1,1] [(a,1),(k,4),(a,1),(a,1)] [.blk (λr=>(Sl r 0 0 0)) (oK [] 5),.val (St []),.val (St (Jn t n f d []))] ⟨?_,?_,?_,trivial⟩ ?_
 ·exact vN
 ·exact vB 8 0 15 (λr=>(Sl r 0 0 0)) [] 5
 ·exact vC 165 #[(.agg #[(N6 t.toNat),(N6 n.toNat),(N6 f),(U6 0)]),(St d),(St [])] (λW g=>CZ t n f d [] (by decide) j h A u W)
 refine cY 162 #[(I6 0),(St (Jn t n f d []))] (St []) (λW g=>ON _ W) ?_;refine zq 1 (zn (zB [2,0,1,0] [(k,4),(a,1)] (dN (λW g=>CZ t n f d [] (by decide) j h A u W) (zq 1 (zn (aA (aO [2] [(St (Jn t n f d []))] (λD g=>?_))))))));exact aJ g (View.le_refl _) ⟨_,rfl,Fh t n f d [] rfl⟩
def Jo(t n:Int)(f:Nat)(d:List UInt8)(sm:List UInt8):List UInt8:=(((((Itm.aF 4 6++Itm.aF 0 t.toNat)++Itm.aF 0 n.toNat)++Itm.aF 0 f)++Itm.aF 0 1)++(Itm.aF 2 d.length++d))++(Itm.aF 2 sm.length++sm)
theorem CY(t n:Int)(f:Nat)(d:List UInt8)(a:List UInt8)(g:a.length<=4)(u:0<=t/\t<=65535)(r:0<=n/\n<=65535)(k:f<W64)(j:d.length<=4000)(w:World):CP 165 #[.agg #[.int .u64 (t.toNat:Int),.int .u64 (n.toNat:Int),.int .u64 (f:Int),.int .u64 1],.string (B d),.string (B a)] w (Ret (.string (B (Jo t n f d a))) w):=by
 have h:=sY t n f d a 1 (by decide) g u r k j w;exact h
theorem RU(t n:Int)(f:Nat)(d:List UInt8)(k:0<=t/\t<=65535)(j:0<=n/\n<=65535)(w:World):CP 164 #[.agg #[.int .i64 t,.int .i64 n,.int .u64 (f:Int),.int .i64 1,.string (B d)]] w (Ret (.agg #[.int .u64 (t.toNat:Int),.int .u64 (n.toNat:Int),.int .u64 (f:Int),.int .u64 1]) w):=by
 have r:IntKind.u64.wrap t=(t.toNat:Int):=idU k;have u:IntKind.u64.wrap n=(n.toNat:Int):=idU j;refine dF 15 Tryz.func164 ?_;refine zs (zr (aW (λa=>(aW (λg=>(zn (zB [0,1,0] [(a,1)] (dZ 5 (U6 (IntKind.u64.wrap t)) (N6 t.toNat) (M0 (Value.int .u64) r) ?_))))))));refine cF [0,1,0] [(a,1)] (dZ 8 (U6 (IntKind.u64.wrap n)) (N6 n.toNat) (M0 (Value.int .u64) u) ?_);refine cF [0,1,0,1,0,0] [(a,1),(a,1)] (aX 1 g (zn (aA (dW [2] [(g,4)] [(.agg #[(N6 t.toNat),(N6 n.toNat),(N6 f),(U6 1)])] (λA h=>?_)))));exact⟨rfl,h.below⟩
theorem Fi(t n:Int)(f:Nat)(d:List UInt8)(g:List UInt8)(h:g.length=2):(Jo t n f d g).length=(iB ⟨t,n,f,1,d⟩).length:=by
 show _=(Itm.aG (NT 1 (dR ⟨t,n,f,1,d⟩ []))).length;rw[show NT 1 (dR ⟨t,n,f,1,d⟩ [])=Itm.dJ [Itm.cD t.toNat,Itm.cD n.toNat,Itm.cD f,Itm.cD 1,eN d,eN (Sd 1 (dR ⟨t,n,f,1,d⟩ []))]from rfl];have j:=UL (k:=1) (l:=dR ⟨t,n,f,1,d⟩ []) (by decide) (by decide);have a:(Sd 1 (dR ⟨t,n,f,1,d⟩ [])).length=g.length:=by omega
 unfold Jo;simp only[OW,OV,OU,Itm.aY,L4,M9,O8,a,O0,Nat.reduceAdd];omega
theorem OI(t n:Int)(f:Nat)(d:List UInt8)(j:0<=t/\t<=65535)(h:0<=n/\n<=65535)(F:f<W64)(E:d.length<=4000)(w:World){U:View}(G:See U w):CP 109 #[.agg #[.int .i64 t,.int .i64 n,.int .u64 (f:Int),.int .i64 1,.string (B d)]] w (fV w U (IsB (iB ⟨t,n,f,1,d⟩).length)):=by
 have Y:IntKind.u64.wrap t=(t.toNat:Int):=idU j;have Z:IntKind.u64.wrap n=(n.toNat:Int):=idU h;have K:=Itm.aE 0 t.toNat;have L:=Itm.aE 0 n.toNat;have M:=Itm.aE 0 f;have N:=Itm.aE 2 d.length;have O:=Itm.aE 4 6;have V:=Itm.aE 0 1;refine dC 24 Tryz.func109 G ?_;refine zs (zr (aW (λg=>(zq 1 (zn (zB [1] [(g,5)] (dN (λW a=>RU t n f d j h W) (aW (λk=>(aX 1 k (zn (zs ?_))))))))))));refine gI 5 [0,3,4,0,3,0,3,0,1,1,1] [(g,1),(k,4),(g,1),(g,1)] [.blk (λr=>(Sl r 0 2 2)) (oK [(.int .u8 0),(.int .u8 0)] 5),.val (St [UInt8.ofNat (0:Int).toNat,UInt8.ofNat (0:Int).toNat]),.val (St (Jo t n f d [UInt8.ofNat (0:Int).toNat,UInt8.ofNat (0:Int).toNat]))] ⟨?_,?_,?_,trivial⟩ ?_
 ·exact vN
 ·exact vB 8 2 15 (λr=>(Sl r 0 2 2)) [(.int .u8 0),(.int .u8 0)] 5
 ·exact vC 165 #[(.agg #[(N6 t.toNat),(N6 n.toNat),(N6 f),(U6 1)]),(St d),(St [UInt8.ofNat (0:Int).toNat,UInt8.ofNat (0:Int).toNat])] (λW a=>CY t n f d [UInt8.ofNat (0:Int).toNat,UInt8.ofNat (0:Int).toNat] (by decide) j h F E W)
 refine lU (λW a=>OS (Jo t n f d [UInt8.ofNat (0:Int).toNat,UInt8.ofNat (0:Int).toNat]) (by unfold Jo R47;simp only[L4,M9,O8,O0,Nat.reduceAdd];have:=Itm.aE 2 2;omega) W a.view) (λX I A u=>?_);obtain⟨D,rfl,C⟩:=u;refine zq 1 (zn (zB [2,0,1,0] [(k,4),(g,1)] (dN (λW a=>CY t n f d D oW j h F E W) (zq 1 (zn (aA (aO [2] [(St (Jo t n f d D))] (λJ a=>?_))))))));exact aJ a A ⟨_,rfl,Fi t n f d D C⟩
def Jp(t n:Int)(f:Nat)(d:List UInt8)(sm:List UInt8):List UInt8:=(((((Itm.aF 4 6++Itm.aF 0 t.toNat)++Itm.aF 0 n.toNat)++Itm.aF 0 f)++Itm.aF 0 2)++(Itm.aF 2 d.length++d))++(Itm.aF 2 sm.length++sm)
theorem CX(t n:Int)(f:Nat)(d:List UInt8)(a:List UInt8)(g:a.length<=4)(u:0<=t/\t<=65535)(r:0<=n/\n<=65535)(k:f<W64)(j:d.length<=4000)(w:World):CP 165 #[.agg #[.int .u64 (t.toNat:Int),.int .u64 (n.toNat:Int),.int .u64 (f:Int),.int .u64 2],.string (B d),.string (B a)] w (Ret (.string (B (Jp t n f d a))) w):=by
 have h:=sY t n f d a 2 (by decide) g u r k j w;exact h
theorem RT(t n:Int)(f:Nat)(d:List UInt8)(k:0<=t/\t<=65535)(j:0<=n/\n<=65535)(w:World):CP 164 #[.agg #[.int .i64 t,.int .i64 n,.int .u64 (f:Int),.int .i64 2,.string (B d)]] w (Ret (.agg #[.int .u64 (t.toNat:Int),.int .u64 (n.toNat:Int),.int .u64 (f:Int),.int .u64 2]) w):=by
 have r:IntKind.u64.wrap t=(t.toNat:Int):=idU k;have u:IntKind.u64.wrap n=(n.toNat:Int):=idU j;refine dF 15 Tryz.func164 ?_;refine zs (zr (aW (λa=>(aW (λg=>(zn (zB [0,1,0] [(a,1)] (dZ 5 (U6 (IntKind.u64.wrap t)) (N6 t.toNat) (M0 (Value.int .u64) r) ?_))))))));refine cF [0,1,0] [(a,1)] (dZ 8 (U6 (IntKind.u64.wrap n)) (N6 n.toNat) (M0 (Value.int .u64) u) ?_);refine cF [0,1,0,1,0,0] [(a,1),(a,1)] (aX 1 g (zn (aA (dW [2] [(g,4)] [(.agg #[(N6 t.toNat),(N6 n.toNat),(N6 f),(U6 2)])] (λA h=>?_)))));exact⟨rfl,h.below⟩
theorem Fj(t n:Int)(f:Nat)(d:List UInt8)(g:List UInt8)(h:g.length=4):(Jp t n f d g).length=(iB ⟨t,n,f,2,d⟩).length:=by
 show _=(Itm.aG (NT 2 (dR ⟨t,n,f,2,d⟩ []))).length;rw[show NT 2 (dR ⟨t,n,f,2,d⟩ [])=Itm.dJ [Itm.cD t.toNat,Itm.cD n.toNat,Itm.cD f,Itm.cD 2,eN d,eN (Sd 2 (dR ⟨t,n,f,2,d⟩ []))]from rfl];have j:=UL (k:=2) (l:=dR ⟨t,n,f,2,d⟩ []) (by decide) (by decide);have a:(Sd 2 (dR ⟨t,n,f,2,d⟩ [])).length=g.length:=by omega
 unfold Jp;simp only[OW,OV,OU,Itm.aY,L4,M9,O8,a,O0,Nat.reduceAdd];omega
theorem OH(t n:Int)(f:Nat)(d:List UInt8)(j:0<=t/\t<=65535)(h:0<=n/\n<=65535)(F:f<W64)(E:d.length<=4000)(w:World){U:View}(G:See U w):CP 109 #[.agg #[.int .i64 t,.int .i64 n,.int .u64 (f:Int),.int .i64 2,.string (B d)]] w (fV w U (IsB (iB ⟨t,n,f,2,d⟩).length)):=by
 have Y:IntKind.u64.wrap t=(t.toNat:Int):=idU j;have Z:IntKind.u64.wrap n=(n.toNat:Int):=idU h;have K:=Itm.aE 0 t.toNat;have L:=Itm.aE 0 n.toNat;have M:=Itm.aE 0 f;have N:=Itm.aE 2 d.length;have O:=Itm.aE 4 6;have V:=Itm.aE 0 2;refine dC 24 Tryz.func109 G ?_;refine zs (zr (aW (λg=>(zq 1 (zn (zB [1] [(g,5)] (dN (λW a=>RT t n f d j h W) (aW (λk=>(aX 1 k (zn (zs ?_))))))))))));refine gI 5 [0,3,4,0,3,0,3,0,1,1,1] [(g,1),(k,4),(g,1),(g,1)] [.blk (λr=>(Sl r 0 4 4)) (oK [(.int .u8 0),(.int .u8 0),(.int .u8 0),(.int .u8 0)] 5),.val (St [UInt8.ofNat (0:Int).toNat,UInt8.ofNat (0:Int).toNat,UInt8.ofNat (0:Int).toNat,UInt8.ofNat (0:Int).toNat]),.val (St (Jp t n f d [UInt8.ofNat (0:Int).toNat,UInt8.ofNat (0:Int).toNat,UInt8.ofNat (0:Int).toNat,UInt8.ofNat (0:Int).toNat]))] ⟨?_,?_,?_,trivial⟩ ?_
 ·exact vN
 ·exact vB 8 4 15 (λr=>(Sl r 0 4 4)) [(.int .u8 0),(.int .u8 0),(.int .u8 0),(.int .u8 0)] 5
 ·exact vC 165 #[(.agg #[(N6 t.toNat),(N6 n.toNat),(N6 f),(U6 2)]),(St d),(St [UInt8.ofNat (0:Int).toNat,UInt8.ofNat (0:Int).toNat,UInt8.ofNat (0:Int).toNat,UInt8.ofNat (0:Int).toNat])] (λW a=>CX t n f d [UInt8.ofNat (0:Int).toNat,UInt8.ofNat (0:Int).toNat,UInt8.ofNat (0:Int).toNat,UInt8.ofNat (0:Int).toNat] (by decide) j h F E W)
 refine lU (λW a=>OR (Jp t n f d [UInt8.ofNat (0:Int).toNat,UInt8.ofNat (0:Int).toNat,UInt8.ofNat (0:Int).toNat,UInt8.ofNat (0:Int).toNat]) (by unfold Jp R47;simp only[L4,M9,O8,O0,Nat.reduceAdd];have:=Itm.aE 2 4;omega) W a.view) (λX I A u=>?_);obtain⟨D,rfl,C⟩:=u;refine zq 1 (zn (zB [2,0,1,0] [(k,4),(g,1)] (dN (λW a=>CX t n f d D oW j h F E W) (zq 1 (zn (aA (aO [2] [(St (Jp t n f d D))] (λJ a=>?_))))))));exact aJ a A ⟨_,rfl,Fj t n f d D C⟩
theorem RW(b:Bk)(B:b.ok)(D:cX b=0)(w:World){U:View}(j:See U w):CP 109 #[b.V] w (fV w U (IsB (iB b).length)):=by
 obtain⟨g,h,k,r,u,A⟩:=iG D;unfold jQ at g h;simp only[L5,N0]at g h;have a:=B.f;obtain⟨t,n,f,c,d⟩:=b;simp only at g h k r u A a;have C:c=0\/c=1\/c=2:=by omega
 rcases C with rfl|rfl|rfl
 ·exact OJ t n f d oW oW a oW w j
 ·exact OI t n f d oW oW a oW w j
 ·exact OH t n f d oW oW a oW w j
def cn0(f:Nat):Nat:=if hasB f 1 then 10 else 8
def rpB(p:Pr):List UInt8:=((((Itm.aF 4 (cn0 p.f)++Itm.aF 0 7)++Itm.aF 0 p.f)++Itm.aF 0 0)++((Itm.aG p.dst.tree++Itm.aG p.src.tree)++Itm.aG p.rpt.tree))++(((Itm.aF 4 2++Itm.aF 0 p.time)++Itm.aF 0 p.seq)++Itm.aF 0 p.life)++(if hasB p.f 1 then Itm.aF 0 p.off++Itm.aF 0 p.tot else[])
def cnG(f c:Nat):Nat:=if hasB f 1 then(if c=0 then 10 else 11)else if c=0 then 8 else 9
theorem Ef(f c:Nat):cnG f c<=11:=by unfold cnG;(repeat' split)<;>omega
theorem SL(f c:Nat)(d:c<=2)(a:f<W64)(w:World):CP 213 #[.int .u64 (f:Int),.int .u64 (c:Int)] w (Ret (.int .i64 ((cnG f c:Nat):Int)) w):=by
 have h:=YK f c a w;rwa[show Np f c=((cnG f c:Nat):Int) by obtain rfl|rfl|rfl:c=0\/c=1\/c=2:=oW;all_goals(unfold Np cnG;cases hasB f 1<;>rfl)]at h
def CV(p:Pr)(c:Nat):List UInt8:=(((((Itm.aF 4 (cnG p.f c)++Itm.aF 0 7)++Itm.aF 0 p.f)++Itm.aF 0 c)++((Itm.aG p.dst.tree++Itm.aG p.src.tree)++Itm.aG p.rpt.tree))++(((Itm.aF 4 2++Itm.aF 0 p.time)++Itm.aF 0 p.seq)++Itm.aF 0 p.life))++(if hasB p.f 1 then Itm.aF 0 p.off++Itm.aF 0 p.tot else[])
theorem rB(p:Pr)(a:List UInt8)(c:Nat)(O:c<=2)(c9:a.length<=4)(w:World)(C:p.ok)(hd:aN p.dst=true)(hs:aN p.src=true)(ht:aN p.rpt=true):CP 163 #[p.V,.int .u64 (c:Int),.string (B a)] w (Ret (.string (B (CV p c++(if c=0 then[]else Itm.aF 2 a.length++a)))) w):=by
 have hf:=C.f;have i1:=C.time;have i2:=C.seq;have i3:=C.life;have i4:=C.off;have i5:=C.tot;have hc:=Ef p.f c;have l0:=Itm.aE 4 (cnG p.f c);have l1:=Itm.aE 0 7;have l2:=Itm.aE 0 p.f;have l3:=Itm.aE 0 c;have e1:=Itm.aE 2 a.length;have l4:=Itm.aE 4 2;have l5:=Itm.aE 0 p.time;have l6:=Itm.aE 0 p.seq;have l7:=Itm.aE 0 p.life;have l8:=Itm.aE 0 p.off;have l9:=Itm.aE 0 p.tot;have t1:=Itm.cV p.dst.tree;have t2:=Itm.cV p.src.tree;have t3:=Itm.cV p.rpt.tree;have s1:=gH hd;have s2:=gH hs;have s3:=gH ht;refine dF 77 Tryz.func163 ?_;refine zs (zr (aW (λk=>(zq 1 (zn (zs ?_))))));refine gI 5 [0,3,0,1,1,1,1,1,0,3,1,1,0,1] [(k,1),(k,1)] [.val (L6 (cnG p.f c)),.val (N6 (cnG p.f c:Nat)),.val (St (Itm.aF 4 (cnG p.f c))),.val (St (Itm.aF 0 7)),.val (St ((Itm.aF 4 (cnG p.f c))++(Itm.aF 0 7))),.val (St (Itm.aF 0 p.f)),.val (St (((Itm.aF 4 (cnG p.f c))++(Itm.aF 0 7))++(Itm.aF 0 p.f))),.val (St (Itm.aF 0 c))] ⟨?_,?_,?_,?_,?_,?_,?_,?_,trivial⟩ ?_
 ·exact vC 213 #[(N6 p.f),(N6 c)] (λW d=>SL p.f c O hf W)
 ·exact vE (U6 (IntKind.u64.wrap ((cnG p.f c:Nat):Int))) (M0 (Value.int .u64) (u64_in oW oW))
 ·exact vC 75 #[(I6 4),(N6 (cnG p.f c:Nat))] (λW d=>dK 4 (cnG p.f c) W oW (by first|assumption|(unfold W64;omega)|decide))
 ·exact vC 75 #[(I6 0),(U6 7)] (λW d=>dK 0 7 W oW (by first|assumption|(unfold W64;omega)|decide))
 ·exact vR (cE _ _ _ _ rfl (Itm.aF 4 (cnG p.f c)) (Itm.aF 0 7) kR kR oA)
 ·exact vC 75 #[(I6 0),(N6 p.f)] (λW d=>dK 0 p.f W oW (by first|assumption|(unfold W64;omega)|decide))
 ·exact vR (cE _ _ _ _ rfl ((Itm.aF 4 (cnG p.f c))++(Itm.aF 0 7)) (Itm.aF 0 p.f) kR kR oA)
 ·exact vC 75 #[(I6 0),(N6 c)] (λW d=>dK 0 c W oW (by first|assumption|(unfold W64;omega)|decide))
 refine cB (St ((((Itm.aF 4 (cnG p.f c))++(Itm.aF 0 7))++(Itm.aF 0 p.f))++(Itm.aF 0 c))) (cE _ _ _ _ rfl (((Itm.aF 4 (cnG p.f c))++(Itm.aF 0 7))++(Itm.aF 0 p.f)) (Itm.aF 0 c) kR kR oA) ?_;refine zq 1 (zn (zs ?_));refine jX 5 [0,0,3,1,1,0,3,1,1,1,0,3,1,1,1] [(k,4),(k,4),(k,4)] [.mem (pO p.dst.tree),.val (St (Itm.aG p.dst.tree)),.mem (pO p.src.tree),.val (St (Itm.aG p.src.tree)),.val (St ((Itm.aG p.dst.tree)++(Itm.aG p.src.tree))),.mem (pO p.rpt.tree),.val (St (Itm.aG p.rpt.tree)),.val (St (((Itm.aG p.dst.tree)++(Itm.aG p.src.tree))++(Itm.aG p.rpt.tree)))] (by simp only[O4];refine⟨?_,?_,?_,?_,?_,?_,?_,?_,λ_ h=>by cases h⟩<;>first|trivial|(intro v V V2 F J;(first|trivial|exact PhiMono.go J F|(obtain⟨g,e,J⟩:=J;exact⟨g,e,J.le F⟩)))) ⟨?_,?_,?_,?_,?_,?_,?_,?_,trivial⟩ ?_
 ·refine wM 77 (λu=>#[(.agg #[(I6 p.dst.s),(St p.dst.l),(N6 p.dst.n),(N6 p.dst.v)])]) λu V E f W r=>?_
  exact rF p.dst W r C.dst hd
 ·refine wV 76 (λu=>#[u 3]) λu V E f W r=>?_
  have e3:=f 3 kR rfl;obtain⟨b7,q3,G⟩:=e3;obtain⟨a3,c3,rfl,b3,c2,c6,c0⟩:=G.form;rw[q3];exact iA 8 _ _ r G (iX _ 5) (by unfold DK;omega)
 ·refine wM 77 (λu=>#[(.agg #[(I6 p.src.s),(St p.src.l),(N6 p.src.n),(N6 p.src.v)])]) λu V E f W r=>?_
  exact rF p.src W r C.src hs
 ·refine wV 76 (λu=>#[u 7]) λu V E f W r=>?_
  have e7:=f 7 kR rfl;obtain⟨b8,q7,I⟩:=e7;obtain⟨a7,c7,rfl,b4,c4,c8,c1⟩:=I.form;rw[q7];exact iA 8 _ _ r I (iX _ 5) (by unfold DK;omega)
 ·exact wR (λu=>cE _ _ _ _ rfl (Itm.aG p.dst.tree) (Itm.aG p.src.tree) kR kR oA)
 ·refine wM 77 (λu=>#[(.agg #[(I6 p.rpt.s),(St p.rpt.l),(N6 p.rpt.n),(N6 p.rpt.v)])]) λu V E f W r=>?_
  exact rF p.rpt W r C.rpt ht
 ·refine wV 76 (λu=>#[u 12]) λu V E f W r=>?_
  have K:=f 12 kR rfl;obtain⟨a1,Y,D⟩:=K;obtain⟨b5,b6,rfl,X,b1,b2,a8⟩:=D.form;rw[Y];exact iA 8 _ _ r D (iX _ 5) (by unfold DK;omega)
 ·exact wR (λu=>cE _ _ _ _ rfl ((Itm.aG p.dst.tree)++(Itm.aG p.src.tree)) (Itm.aG p.rpt.tree) kR kR oA)
 intro u1 V1 b9 a6;refine cB (St (((((Itm.aF 4 (cnG p.f c))++(Itm.aF 0 7))++(Itm.aF 0 p.f))++(Itm.aF 0 c))++(((Itm.aG p.dst.tree)++(Itm.aG p.src.tree))++(Itm.aG p.rpt.tree)))) (cE _ _ _ _ rfl ((((Itm.aF 4 (cnG p.f c))++(Itm.aF 0 7))++(Itm.aF 0 p.f))++(Itm.aF 0 c)) (((Itm.aG p.dst.tree)++(Itm.aG p.src.tree))++(Itm.aG p.rpt.tree)) kR kR oA) ?_;refine zq 1 (zn (zs ?_));refine gI 5 [0,1,0,3,1,1,0,3,1,1,0,3,1,1] [(k,1),(k,1),(k,1)] [.val (St (Itm.aF 4 2)),.val (St (Itm.aF 0 p.time)),.val (St ((Itm.aF 4 2)++(Itm.aF 0 p.time))),.val (St (Itm.aF 0 p.seq)),.val (St (((Itm.aF 4 2)++(Itm.aF 0 p.time))++(Itm.aF 0 p.seq))),.val (St (Itm.aF 0 p.life)),.val (St ((((Itm.aF 4 2)++(Itm.aF 0 p.time))++(Itm.aF 0 p.seq))++(Itm.aF 0 p.life)))] ⟨?_,?_,?_,?_,?_,?_,?_,trivial⟩ ?_
 ·exact vC 75 #[(I6 4),(U6 2)] (λW d=>dK 4 2 W oW (by first|assumption|(unfold W64;omega)|decide))
 ·exact vC 75 #[(I6 0),(N6 p.time)] (λW d=>dK 0 p.time W oW (by first|assumption|(unfold W64;omega)|decide))
 ·exact vR (cE _ _ _ _ rfl (Itm.aF 4 2) (Itm.aF 0 p.time) kR kR oA)
 ·exact vC 75 #[(I6 0),(N6 p.seq)] (λW d=>dK 0 p.seq W oW (by first|assumption|(unfold W64;omega)|decide))
 ·exact vR (cE _ _ _ _ rfl ((Itm.aF 4 2)++(Itm.aF 0 p.time)) (Itm.aF 0 p.seq) kR kR oA)
 ·exact vC 75 #[(I6 0),(N6 p.life)] (λW d=>dK 0 p.life W oW (by first|assumption|(unfold W64;omega)|decide))
 ·exact vR (cE _ _ _ _ rfl (((Itm.aF 4 2)++(Itm.aF 0 p.time))++(Itm.aF 0 p.seq)) (Itm.aF 0 p.life) kR kR oA)
 refine cB (St ((((((Itm.aF 4 (cnG p.f c))++(Itm.aF 0 7))++(Itm.aF 0 p.f))++(Itm.aF 0 c))++(((Itm.aG p.dst.tree)++(Itm.aG p.src.tree))++(Itm.aG p.rpt.tree)))++((((Itm.aF 4 2)++(Itm.aF 0 p.time))++(Itm.aF 0 p.seq))++(Itm.aF 0 p.life)))) (cE _ _ _ _ rfl (((((Itm.aF 4 (cnG p.f c))++(Itm.aF 0 7))++(Itm.aF 0 p.f))++(Itm.aF 0 c))++(((Itm.aG p.dst.tree)++(Itm.aG p.src.tree))++(Itm.aG p.rpt.tree))) ((((Itm.aF 4 2)++(Itm.aF 0 p.time))++(Itm.aF 0 p.seq))++(Itm.aF 0 p.life)) kR kR oA) ?_;refine zq 1 (zn ?_);refine dG (α:=List UInt8) (λj=>[1,2,6,7].zip [(N6 c),(St a),(St []),(St j)]) (λj=>V1) (λj=>[(bK k p.cs 26)]) (λj=>j=CV p c/\j.length<=100000) ?_ ?_
 ·refine zB [0,1] [(k,1)] (dN (λW d=>VJ p.f hf W) (zn (gK (hasB p.f 1) (λL=>?_) (λL=>?_))))
  ·refine gI 3 [0,0,3,1,0,3,1,1] [(k,1),(k,1)] [.val (St (Itm.aF 0 p.off)),.val (St (Itm.aF 0 p.tot)),.val (St ((Itm.aF 0 p.off)++(Itm.aF 0 p.tot)))] ⟨?_,?_,?_,trivial⟩ ?_
   ·exact vC 75 #[(I6 0),(N6 p.off)] (λW d=>dK 0 p.off W oW (by first|assumption|(unfold W64;omega)|decide))
   ·exact vC 75 #[(I6 0),(N6 p.tot)] (λW d=>dK 0 p.tot W oW (by first|assumption|(unfold W64;omega)|decide))
   ·exact vR (cE _ _ _ _ rfl (Itm.aF 0 p.off) (Itm.aF 0 p.tot) kR kR oA)
   refine cB (St (((((((Itm.aF 4 (cnG p.f c))++(Itm.aF 0 7))++(Itm.aF 0 p.f))++(Itm.aF 0 c))++(((Itm.aG p.dst.tree)++(Itm.aG p.src.tree))++(Itm.aG p.rpt.tree)))++((((Itm.aF 4 2)++(Itm.aF 0 p.time))++(Itm.aF 0 p.seq))++(Itm.aF 0 p.life)))++((Itm.aF 0 p.off)++(Itm.aF 0 p.tot)))) (cE _ _ _ _ rfl ((((((Itm.aF 4 (cnG p.f c))++(Itm.aF 0 7))++(Itm.aF 0 p.f))++(Itm.aF 0 c))++(((Itm.aG p.dst.tree)++(Itm.aG p.src.tree))++(Itm.aG p.rpt.tree)))++((((Itm.aF 4 2)++(Itm.aF 0 p.time))++(Itm.aF 0 p.seq))++(Itm.aF 0 p.life))) ((Itm.aF 0 p.off)++(Itm.aF 0 p.tot)) kR kR oA) ?_;refine zq 1 (zn ?_);refine jn (((((((Itm.aF 4 (cnG p.f c))++(Itm.aF 0 7))++(Itm.aF 0 p.f))++(Itm.aF 0 c))++(((Itm.aG p.dst.tree)++(Itm.aG p.src.tree))++(Itm.aG p.rpt.tree)))++((((Itm.aF 4 2)++(Itm.aF 0 p.time))++(Itm.aF 0 p.seq))++(Itm.aF 0 p.life)))++((Itm.aF 0 p.off)++(Itm.aF 0 p.tot))) ?_;exact⟨(by unfold CV;rw[L];simp only[if_true,if_false,N9,M1]),(by simp only[L4];omega)⟩
  ·refine zk ?_;refine jn ((((((Itm.aF 4 (cnG p.f c))++(Itm.aF 0 7))++(Itm.aF 0 p.f))++(Itm.aF 0 c))++(((Itm.aG p.dst.tree)++(Itm.aG p.src.tree))++(Itm.aG p.rpt.tree)))++((((Itm.aF 4 2)++(Itm.aF 0 p.time))++(Itm.aF 0 p.seq))++(Itm.aF 0 p.life))) ?_;exact⟨(by unfold CV;rw[L];simp only[if_true,if_false,N9,M1]),(by simp only[L4];omega)⟩
 intro j A;obtain⟨A,e0⟩:=A;refine zs (zQ 3 (jZ 68 (c:Int) 1 (λh1 M=>?_) (λh1 M=>?_)))
 ·refine zq 3 (zn (dM (zr (zq 2 (dN (λW d=>pX a (by unfold R47;omega) W) (cB (St (j++(Itm.aF 2 a.length++a))) (cE _ _ _ _ rfl j (Itm.aF 2 a.length++a) kR kR oA) ?_))))));refine zq 1 (zn (zQ 2 (zn (aA (aO [6] [(St (j++(Itm.aF 2 a.length++a)))] (λZ d=>?_))))));rw[M5 (show¬c=0 by omega),<-A];exact⟨rfl,d.below⟩
 ·refine zq 3 (zn (fC (c:Int) 2 (λh2 N=>?_) (λh2 N=>?_)))
  ·refine zr (zq 2 (dN (λW d=>pX a (by unfold R47;omega) W) (cB (St (j++(Itm.aF 2 a.length++a))) (cE _ _ _ _ rfl j (Itm.aF 2 a.length++a) kR kR oA) ?_)));refine zq 1 (zn (zQ 2 (zn (aA (aO [6] [(St (j++(Itm.aF 2 a.length++a)))] (λZ d=>?_))))));rw[M5 (show¬c=0 by omega),<-A];exact⟨rfl,d.below⟩
  ·refine zk (zQ 2 (zn (aA (aO [6] [(St j)] (λZ d=>?_)))));rw[N1 (show c=0 by omega),M1,<-A];exact⟨rfl,d.below⟩
theorem Qp(p:Pr):CV p 0=rpB p:=by
 unfold CV rpB cnG cn0;rfl
theorem EW(p:Pr)(w:World)(d:p.ok)(a:aN p.dst=true)(hs:aN p.src=true)(f:aN p.rpt=true):CP 163 #[p.V,.int .u64 0,.string (B [])] w (Ret (.string (B (rpB p))) w):=by
 have h:=rB p [] 0 (by decide) (by decide) w d a hs f;rw[N1 rfl,M1,Qp]at h;exact h
theorem OB(p:Pr)(w:World)(a:p.ok)(g:aN p.dst=true)(hs:aN p.src=true)(h:aN p.rpt=true):CP 108 #[.agg #[(.int .u64 (p.f:Int)),(.int .i64 0),(.int .i64 p.dst.s),(.string (B p.dst.l)),(.int .u64 (p.dst.n:Int)),(.int .u64 (p.dst.v:Int)),(.int .i64 p.src.s),(.string (B p.src.l)),(.int .u64 (p.src.n:Int)),(.int .u64 (p.src.v:Int)),(.int .i64 p.rpt.s),(.string (B p.rpt.l)),(.int .u64 (p.rpt.n:Int)),(.int .u64 (p.rpt.v:Int)),(.int .u64 (p.time:Int)),(.int .u64 (p.seq:Int)),(.int .u64 (p.life:Int)),(.int .u64 (p.off:Int)),(.int .u64 (p.tot:Int))]] w (Ret (.string (B (rpB p))) w):=by
 refine dF 23 Tryz.func108 ?_;refine zs (zr (aW (λd=>(zq 1 (zn (zs ?_))))));refine gI 5 [0,3,3,0,3,0,0,3,0,1,1,1] [(d,1),(d,19),(d,1),(d,1)] [.blk (λr=>(Sl r 0 0 0)) (oK [] 5),.val (St []),.val (St (rpB p))] ⟨?_,?_,?_,trivial⟩ ?_
 ·exact vN
 ·exact vB 9 0 13 (λr=>(Sl r 0 0 0)) [] 5
 ·exact vC 163 #[(.agg #[(N6 p.f),(I6 0),(I6 p.dst.s),(St p.dst.l),(N6 p.dst.n),(N6 p.dst.v),(I6 p.src.s),(St p.src.l),(N6 p.src.n),(N6 p.src.v),(I6 p.rpt.s),(St p.rpt.l),(N6 p.rpt.n),(N6 p.rpt.v),(N6 p.time),(N6 p.seq),(N6 p.life),(N6 p.off),(N6 p.tot)]),(U6 0),(St [])] (λW f=>EW p.bare W ⟨a.f,a.dst,a.src,a.rpt,a.time,a.seq,a.life,a.off,a.tot⟩ g hs h)
 refine cY 162 #[(I6 0),(St (rpB p))] (St []) (λW f=>ON _ W) ?_;refine zq 1 (zn (zB [1,0,1,0,0] [(d,19),(d,1)] (dN (λW f=>EW p.bare W ⟨a.f,a.dst,a.src,a.rpt,a.time,a.seq,a.life,a.off,a.tot⟩ g hs h) (zq 1 (zn (aA (gC 2)))))))
theorem KO(l:List Itm.Tr):Itm.aG (Itm.dJ l)=Itm.aF 4 l.length++Itm.aY l:=by
 rw[Itm.dJ,Itm.aG];simp
theorem Zz(n:Nat):Itm.aG (Itm.cD n)=Itm.aF 0 n:=by
 rw[Itm.cD,Itm.aG];simp
theorem Fv(p:Pr)(h:p.ok):rpB p=fE p.bare:=by
 have a:p.bare.tree=Itm.dJ (eK p.bare []):=rfl;have d:mQ p.bare.f=hasB p.f 1:=Ej p.f h.f;unfold fE;rw[a,KO];unfold eK rpB cn0;rw[d];cases hasB p.f 1
 all_goals simp only[if_true,if_false,N9,M1,T9,R0,M9,O8,Itm.aY,Zz,KO,M6,Pr.bare,show((0:Int) !=0)=false from rfl,Int.toNat_zero]
def Pr.setC(p:Pr)(c:Int):Pr:=⟨p.f,c,p.dst,p.src,p.rpt,p.time,p.seq,p.life,p.off,p.tot⟩
def cn1(f:Nat):Nat:=if hasB f 1 then 11 else 9
theorem WQ(f:Nat):cn1 f<=11:=by unfold cn1;split<;>omega
def Qm(p:Pr)(sm:List UInt8):List UInt8:=((((((Itm.aF 4 (cn1 p.f)++Itm.aF 0 7)++Itm.aF 0 p.f)++Itm.aF 0 1)++((Itm.aG p.dst.tree++Itm.aG p.src.tree)++Itm.aG p.rpt.tree))++(((Itm.aF 4 2++Itm.aF 0 p.time)++Itm.aF 0 p.seq)++Itm.aF 0 p.life))++(if hasB p.f 1 then Itm.aF 0 p.off++Itm.aF 0 p.tot else[]))++(Itm.aF 2 sm.length++sm)
def Qn(p:Pr)(sm:List UInt8):List UInt8:=((((((Itm.aF 4 (cn1 p.f)++Itm.aF 0 7)++Itm.aF 0 p.f)++Itm.aF 0 2)++((Itm.aG p.dst.tree++Itm.aG p.src.tree)++Itm.aG p.rpt.tree))++(((Itm.aF 4 2++Itm.aF 0 p.time)++Itm.aF 0 p.seq)++Itm.aF 0 p.life))++(if hasB p.f 1 then Itm.aF 0 p.off++Itm.aF 0 p.tot else[]))++(Itm.aF 2 sm.length++sm)
theorem CU(p:Pr)(a:List UInt8)(d:a.length<=4)(w:World)(g:p.ok)(f:aN p.dst=true)(hs:aN p.src=true)(j:aN p.rpt=true):CP 163 #[p.V,.int .u64 1,.string (B a)] w (Ret (.string (B (Qm p a))) w):=by
 have h:=rB p a 1 (by decide) d w g f hs j;rw[M5 (by decide),show CV p 1++(Itm.aF 2 a.length++a)=Qm p a from rfl]at h;exact h
theorem Fw(p:Pr)(f:p.f<W64)(a:List UInt8)(r:a.length=2):(Qm p a).length=(fE (p.setC 1)).length:=by
 have d:mQ p.f=hasB p.f 1:=Ej p.f f;have u:∀l:List UInt8,((lR 1 l).length:Int)=2:=λl=>Ab (k:=1) l (by decide) (by decide)
 show _=(Itm.aG (NU 1 (eK (p.setC 1) (Z 2)))).length;have g:∃q:List UInt8,Itm.aG (NU 1 (eK (p.setC 1) (Z 2)))=Itm.aG (Itm.dJ ([Itm.cD 7,Itm.cD p.f,Itm.cD 1,p.dst.tree,p.src.tree,p.rpt.tree,Itm.dJ [Itm.cD p.time,Itm.cD p.seq],Itm.cD p.life]++((if hasB p.f 1 then[Itm.cD p.off,Itm.cD p.tot]else[])++[eN q])))/\q.length=a.length:=by
  refine⟨lR 1 (Itm.aG (Itm.dJ (eK (p.setC 1) (Z 2)))),?_,by have:=u (Itm.aG (Itm.dJ (eK (p.setC 1) (Z 2))));omega⟩;rw[<-d];unfold NU;rw[M5 (by decide)];generalize lR 1 (Itm.aG (Itm.dJ (eK (p.setC 1) (Z 2))))=q;unfold eK;rw[show mQ (p.setC 1).f=mQ p.f from rfl];cases mQ p.f<;>rfl
 obtain⟨q,j,h⟩:=g;rw[j];unfold Qm cn1;cases hasB p.f 1<;>simp only[if_true,if_false,N9,T9,R0,OW,OV,OU,Itm.aY,L4,M9,O8,h,O0,Nat.reduceAdd]<;>omega
theorem Cu(p:Pr)(a:p.ok)(f:aN p.dst=true)(hs:aN p.src=true)(h:aN p.rpt=true)(d:List UInt8)(g:d.length=2):(Qm (p.setC 1) d).length<=100000:=by
 have r:=a.f;have u:=a.time;have A:=a.seq;have B:=a.life;have C:=a.off;have D:=a.tot;have k:=WQ p.f;have E:=Itm.aE 4 (cn1 p.f);have F:=Itm.aE 0 7;have G:=Itm.aE 0 p.f;have I:=Itm.aE 0 1;have J:=Itm.aE 4 2;have K:=Itm.aE 0 p.time;have L:=Itm.aE 0 p.seq;have M:=Itm.aE 0 p.life;have N:=Itm.aE 0 p.off;have O:=Itm.aE 0 p.tot;have Z:=Itm.cV p.dst.tree;have t2:=Itm.cV p.src.tree;have t3:=Itm.cV p.rpt.tree;have V:=gH f;have X:=gH hs;have Y:=gH h;have j:=Itm.aE 2 d.length;unfold Qm;show((((((Itm.aF 4 (cn1 p.f)++Itm.aF 0 7)++Itm.aF 0 p.f)++Itm.aF 0 1)++((Itm.aG p.dst.tree++Itm.aG p.src.tree)++Itm.aG p.rpt.tree))++(((Itm.aF 4 2++Itm.aF 0 p.time)++Itm.aF 0 p.seq)++Itm.aF 0 p.life))++(if hasB p.f 1 then Itm.aF 0 p.off++Itm.aF 0 p.tot else[])++(Itm.aF 2 d.length++d)).length<=100000;cases hasB p.f 1<;>simp only[if_true,if_false,N9,L4,O8]<;>omega
theorem OA(p:Pr)(w:World){U:View}(C:See U w)(a:p.ok)(g:aN p.dst=true)(hs:aN p.src=true)(h:aN p.rpt=true):CP 108 #[.agg #[(.int .u64 (p.f:Int)),(.int .i64 1),(.int .i64 p.dst.s),(.string (B p.dst.l)),(.int .u64 (p.dst.n:Int)),(.int .u64 (p.dst.v:Int)),(.int .i64 p.src.s),(.string (B p.src.l)),(.int .u64 (p.src.n:Int)),(.int .u64 (p.src.v:Int)),(.int .i64 p.rpt.s),(.string (B p.rpt.l)),(.int .u64 (p.rpt.n:Int)),(.int .u64 (p.rpt.v:Int)),(.int .u64 (p.time:Int)),(.int .u64 (p.seq:Int)),(.int .u64 (p.life:Int)),(.int .u64 (p.off:Int)),(.int .u64 (p.tot:Int))]] w (fV w U (IsB (fE (p.setC 1)).length)):=by
 have D:=a.f;have J:=a.time;have K:=a.seq;have L:=a.life;have M:=a.off;have N:=a.tot;have I:=WQ p.f;have O:=Itm.aE 4 (cn1 p.f);have V:=Itm.aE 0 7;have X:=Itm.aE 0 p.f;have Y:=Itm.aE 0 1;have Z:=Itm.aE 4 2;have l5:=Itm.aE 0 p.time;have l6:=Itm.aE 0 p.seq;have l7:=Itm.aE 0 p.life;have l8:=Itm.aE 0 p.off;have l9:=Itm.aE 0 p.tot;have t1:=Itm.cV p.dst.tree;have t2:=Itm.cV p.src.tree;have t3:=Itm.cV p.rpt.tree;have s1:=gH g;have s2:=gH hs;have s3:=gH h;refine dC 23 Tryz.func108 C ?_;refine zs (zr (aW (λd=>(zq 1 (zn (zs ?_))))));refine gI 5 [0,3,3,0,3,0,0,3,0,1,1,1] [(d,1),(d,19),(d,1),(d,1)] [.blk (λr=>(Sl r 0 2 2)) (oK [(.int .u8 0),(.int .u8 0)] 5),.val (St [UInt8.ofNat (0:Int).toNat,UInt8.ofNat (0:Int).toNat]),.val (St (Qm (p.setC 1) [UInt8.ofNat (0:Int).toNat,UInt8.ofNat (0:Int).toNat]))] ⟨?_,?_,?_,trivial⟩ ?_
 ·exact vN
 ·exact vB 9 2 13 (λr=>(Sl r 0 2 2)) [(.int .u8 0),(.int .u8 0)] 5
 ·exact vC 163 #[(.agg #[(N6 p.f),(I6 1),(I6 p.dst.s),(St p.dst.l),(N6 p.dst.n),(N6 p.dst.v),(I6 p.src.s),(St p.src.l),(N6 p.src.n),(N6 p.src.v),(I6 p.rpt.s),(St p.rpt.l),(N6 p.rpt.n),(N6 p.rpt.v),(N6 p.time),(N6 p.seq),(N6 p.life),(N6 p.off),(N6 p.tot)]),(U6 1),(St [UInt8.ofNat (0:Int).toNat,UInt8.ofNat (0:Int).toNat])] (λW f=>CU (p.setC 1) [UInt8.ofNat (0:Int).toNat,UInt8.ofNat (0:Int).toNat] (by decide) W ⟨a.f,a.dst,a.src,a.rpt,a.time,a.seq,a.life,a.off,a.tot⟩ g hs h)
 refine lU (λW f=>OS (Qm (p.setC 1) [UInt8.ofNat (0:Int).toNat,UInt8.ofNat (0:Int).toNat]) (by have G:=Cu p a g hs h [UInt8.ofNat (0:Int).toNat,UInt8.ofNat (0:Int).toNat] rfl;unfold R47;omega) W f.view) (λv1 E k j=>?_);obtain⟨A,rfl,u⟩:=j;refine zq 1 (zn (zB [1,0,1,0,0] [(d,19),(d,1)] (dN (λW f=>CU (p.setC 1) A oW W ⟨a.f,a.dst,a.src,a.rpt,a.time,a.seq,a.life,a.off,a.tot⟩ g hs h) (zq 1 (zn (aA (aO [2] [(St (Qm (p.setC 1) A))] (λF f=>?_))))))));exact aJ f k ⟨_,rfl,Fw (p.setC 1) D A u⟩
theorem CT(p:Pr)(a:List UInt8)(d:a.length<=4)(w:World)(g:p.ok)(f:aN p.dst=true)(hs:aN p.src=true)(j:aN p.rpt=true):CP 163 #[p.V,.int .u64 2,.string (B a)] w (Ret (.string (B (Qn p a))) w):=by
 have h:=rB p a 2 (by decide) d w g f hs j;rw[M5 (by decide),show CV p 2++(Itm.aF 2 a.length++a)=Qn p a from rfl]at h;exact h
theorem Fx(p:Pr)(f:p.f<W64)(a:List UInt8)(r:a.length=4):(Qn p a).length=(fE (p.setC 2)).length:=by
 have d:mQ p.f=hasB p.f 1:=Ej p.f f;have u:∀l:List UInt8,((lR 2 l).length:Int)=4:=λl=>Ab (k:=2) l (by decide) (by decide)
 show _=(Itm.aG (NU 2 (eK (p.setC 2) (Z 4)))).length;have g:∃q:List UInt8,Itm.aG (NU 2 (eK (p.setC 2) (Z 4)))=Itm.aG (Itm.dJ ([Itm.cD 7,Itm.cD p.f,Itm.cD 2,p.dst.tree,p.src.tree,p.rpt.tree,Itm.dJ [Itm.cD p.time,Itm.cD p.seq],Itm.cD p.life]++((if hasB p.f 1 then[Itm.cD p.off,Itm.cD p.tot]else[])++[eN q])))/\q.length=a.length:=by
  refine⟨lR 2 (Itm.aG (Itm.dJ (eK (p.setC 2) (Z 4)))),?_,by have:=u (Itm.aG (Itm.dJ (eK (p.setC 2) (Z 4))));omega⟩;rw[<-d];unfold NU;rw[M5 (by decide)];generalize lR 2 (Itm.aG (Itm.dJ (eK (p.setC 2) (Z 4))))=q;unfold eK;rw[show mQ (p.setC 2).f=mQ p.f from rfl];cases mQ p.f<;>rfl
 obtain⟨q,j,h⟩:=g;rw[j];unfold Qn cn1;cases hasB p.f 1<;>simp only[if_true,if_false,N9,T9,R0,OW,OV,OU,Itm.aY,L4,M9,O8,h,O0,Nat.reduceAdd]<;>omega
theorem Cv(p:Pr)(a:p.ok)(f:aN p.dst=true)(hs:aN p.src=true)(h:aN p.rpt=true)(d:List UInt8)(g:d.length=4):(Qn (p.setC 2) d).length<=100000:=by
 have r:=a.f;have u:=a.time;have A:=a.seq;have B:=a.life;have C:=a.off;have D:=a.tot;have k:=WQ p.f;have E:=Itm.aE 4 (cn1 p.f);have F:=Itm.aE 0 7;have G:=Itm.aE 0 p.f;have I:=Itm.aE 0 2;have J:=Itm.aE 4 2;have K:=Itm.aE 0 p.time;have L:=Itm.aE 0 p.seq;have M:=Itm.aE 0 p.life;have N:=Itm.aE 0 p.off;have O:=Itm.aE 0 p.tot;have Z:=Itm.cV p.dst.tree;have t2:=Itm.cV p.src.tree;have t3:=Itm.cV p.rpt.tree;have V:=gH f;have X:=gH hs;have Y:=gH h;have j:=Itm.aE 2 d.length;unfold Qn;show((((((Itm.aF 4 (cn1 p.f)++Itm.aF 0 7)++Itm.aF 0 p.f)++Itm.aF 0 2)++((Itm.aG p.dst.tree++Itm.aG p.src.tree)++Itm.aG p.rpt.tree))++(((Itm.aF 4 2++Itm.aF 0 p.time)++Itm.aF 0 p.seq)++Itm.aF 0 p.life))++(if hasB p.f 1 then Itm.aF 0 p.off++Itm.aF 0 p.tot else[])++(Itm.aF 2 d.length++d)).length<=100000;cases hasB p.f 1<;>simp only[if_true,if_false,N9,L4,O8]<;>omega
theorem NZ(p:Pr)(w:World){U:View}(C:See U w)(a:p.ok)(g:aN p.dst=true)(hs:aN p.src=true)(h:aN p.rpt=true):CP 108 #[.agg #[(.int .u64 (p.f:Int)),(.int .i64 2),(.int .i64 p.dst.s),(.string (B p.dst.l)),(.int .u64 (p.dst.n:Int)),(.int .u64 (p.dst.v:Int)),(.int .i64 p.src.s),(.string (B p.src.l)),(.int .u64 (p.src.n:Int)),(.int .u64 (p.src.v:Int)),(.int .i64 p.rpt.s),(.string (B p.rpt.l)),(.int .u64 (p.rpt.n:Int)),(.int .u64 (p.rpt.v:Int)),(.int .u64 (p.time:Int)),(.int .u64 (p.seq:Int)),(.int .u64 (p.life:Int)),(.int .u64 (p.off:Int)),(.int .u64 (p.tot:Int))]] w (fV w U (IsB (fE (p.setC 2)).length)):=by
 have D:=a.f;have J:=a.time;have K:=a.seq;have L:=a.life;have M:=a.off;have N:=a.tot;have I:=WQ p.f;have O:=Itm.aE 4 (cn1 p.f);have V:=Itm.aE 0 7;have X:=Itm.aE 0 p.f;have Y:=Itm.aE 0 2;have Z:=Itm.aE 4 2;have l5:=Itm.aE 0 p.time;have l6:=Itm.aE 0 p.seq;have l7:=Itm.aE 0 p.life;have l8:=Itm.aE 0 p.off;have l9:=Itm.aE 0 p.tot;have t1:=Itm.cV p.dst.tree;have t2:=Itm.cV p.src.tree;have t3:=Itm.cV p.rpt.tree;have s1:=gH g;have s2:=gH hs;have s3:=gH h;refine dC 23 Tryz.func108 C ?_;refine zs (zr (aW (λd=>(zq 1 (zn (zs ?_))))));refine gI 5 [0,3,3,0,3,0,0,3,0,1,1,1] [(d,1),(d,19),(d,1),(d,1)] [.blk (λr=>(Sl r 0 4 4)) (oK [(.int .u8 0),(.int .u8 0),(.int .u8 0),(.int .u8 0)] 5),.val (St [UInt8.ofNat (0:Int).toNat,UInt8.ofNat (0:Int).toNat,UInt8.ofNat (0:Int).toNat,UInt8.ofNat (0:Int).toNat]),.val (St (Qn (p.setC 2) [UInt8.ofNat (0:Int).toNat,UInt8.ofNat (0:Int).toNat,UInt8.ofNat (0:Int).toNat,UInt8.ofNat (0:Int).toNat]))] ⟨?_,?_,?_,trivial⟩ ?_
 ·exact vN
 ·exact vB 9 4 13 (λr=>(Sl r 0 4 4)) [(.int .u8 0),(.int .u8 0),(.int .u8 0),(.int .u8 0)] 5
 ·exact vC 163 #[(.agg #[(N6 p.f),(I6 2),(I6 p.dst.s),(St p.dst.l),(N6 p.dst.n),(N6 p.dst.v),(I6 p.src.s),(St p.src.l),(N6 p.src.n),(N6 p.src.v),(I6 p.rpt.s),(St p.rpt.l),(N6 p.rpt.n),(N6 p.rpt.v),(N6 p.time),(N6 p.seq),(N6 p.life),(N6 p.off),(N6 p.tot)]),(U6 2),(St [UInt8.ofNat (0:Int).toNat,UInt8.ofNat (0:Int).toNat,UInt8.ofNat (0:Int).toNat,UInt8.ofNat (0:Int).toNat])] (λW f=>CT (p.setC 2) [UInt8.ofNat (0:Int).toNat,UInt8.ofNat (0:Int).toNat,UInt8.ofNat (0:Int).toNat,UInt8.ofNat (0:Int).toNat] (by decide) W ⟨a.f,a.dst,a.src,a.rpt,a.time,a.seq,a.life,a.off,a.tot⟩ g hs h)
 refine lU (λW f=>OR (Qn (p.setC 2) [UInt8.ofNat (0:Int).toNat,UInt8.ofNat (0:Int).toNat,UInt8.ofNat (0:Int).toNat,UInt8.ofNat (0:Int).toNat]) (by have G:=Cv p a g hs h [UInt8.ofNat (0:Int).toNat,UInt8.ofNat (0:Int).toNat,UInt8.ofNat (0:Int).toNat,UInt8.ofNat (0:Int).toNat] rfl;unfold R47;omega) W f.view) (λv1 E k j=>?_);obtain⟨A,rfl,u⟩:=j;refine zq 1 (zn (zB [1,0,1,0,0] [(d,19),(d,1)] (dN (λW f=>CT (p.setC 2) A oW W ⟨a.f,a.dst,a.src,a.rpt,a.time,a.seq,a.life,a.off,a.tot⟩ g hs h) (zq 1 (zn (aA (aO [2] [(St (Qn (p.setC 2) A))] (λF f=>?_))))))));exact aJ f k ⟨_,rfl,Fx (p.setC 2) D A u⟩
theorem RP(p:Pr)(C:p.ok)(I:cK p=0)(w:World){U:View}(E:See U w):CP 108 #[p.V] w (fV w U (IsB (fE p).length)):=by
 have G:=jJ I;unfold dU at G;simp only[L5,N0]at G;have F:p.c=0\/p.c=1\/p.c=2:=by omega
 have B:aN p.dst=true:=by simp_all
 have hs:aN p.src=true:=by simp_all
 have D:aN p.rpt=true:=by simp_all
 obtain⟨f,c,g,u,k,d,r,a,j,A⟩:=p;simp only at F B hs D;rcases F with rfl|rfl|rfl
 ·have h:=OB ⟨f,0,g,u,k,d,r,a,j,A⟩ w C B hs D;exact Calls.retN E h ⟨_,rfl,by rw[Fv _ C];rfl⟩
 ·exact OA ⟨f,1,g,u,k,d,r,a,j,A⟩ w E C B hs D
 ·exact NZ ⟨f,2,g,u,k,d,r,a,j,A⟩ w E C B hs D
theorem cG.to0{U:View}{a:Option Addr}{l:List Bk}(h:cG U a l):pP U a l:=⟨h.at_,λx d=>(h.ok x d).f,by have:=h.len;unfold R47 at this;unfold maxLen;omega⟩
theorem SH(p:Pr)(l:List Bk)(a:Option Addr)(c:Nat)(w:World){U:View}(M:See U w)(G:p.ok)(F:cG U a l)(I:(fO p l !=0)=true):CP 28 #[bnV p a l.length c] w (Ret (.int .i64 (fO p l)) w):=by
 have j:=F.len;unfold R47 at j;refine dC 102 Tryz.func28 M ?_;refine zs (zr (aW (λk=>(zq 1 (zn (zs (zB [0,1] [(k,19)] (cY 62 #[(p.V)] (I6 (cK p)) (λW h=>(JA p G)▸EV p W G) ?_))))))));refine zq 1 (zn (zQ 2 (zn (iE (cK p) 0 (λA _=>?_) (λA K=>?_)))))
 ·refine zQ 2 (zn (aA (aO [2] [(I6 (cK p))] (λJ h=>?_))));refine⟨?_,h.below⟩;unfold fO;rw[N1 A];rfl
 ·refine zk (zB [0,1,0] [(k,1)] (zn (zs (zQ 1 (zn (aB (eF (α:=Nat) (λx=>[1,2,4,5].zip [(Pt k 0),(I6 0),(.slice a l.length c),(L6 x)]) (λx=>U) (λx=>[(bK k (dO p a l.length c) 29)]) (λx=>x<=l.length/\II (l.drop x)=fO p l) (λx=>l.length-x) 0 ?_ ?_)))))))
  ·exact⟨M8 _,by rw[W5];unfold fO;rw[M5 (by rw[A];exact M3)]⟩
  intro x N;obtain⟨O,d⟩:=N;refine zs (zQ 4 (zn (aZ ((x:Int)<(l.length:Int)) (λL B=>?_) (λL B=>?_))))
  ·refine zk (zs (aB (zQ 2 ?_)));obtain⟨f,g⟩:∃y,(l)[x]? =some y:=⟨(l)[x]'oW,K8 _⟩;obtain⟨r,u,rfl,E⟩:=F.at_ x f g;refine cB (Pt r (u+x*5)) (rIx 58 rfl r u l.length c x 5) ?_;refine zU r (u+x*5) f.cs E 58 (.tmp 24) _ Tryz.underlying58 rfl ?_;refine cY 63 #[(f.V)] (I6 (cX f)) (λW h=>(JC f)▸FA f W) ?_;refine zq 1 (zn (zQ 2 (zn (iE (cX f) 0 (λC D=>?_) (λC D=>?_)))))
   ·refine zQ 2 (zn (aA (aO [2] [(I6 (cX f))] (λJ h=>?_))));refine⟨?_,h.below⟩;rw[<-d,sJ g,N1 C];rfl
   ·refine zk (zr (zq 2 (dH 21 ((x:Int)+1) (zq 1 (zn ?_)))));refine nx (x+1) ?_ ?_
    ·exact⟨by omega,by rw[<-d,sJ g,C];rfl⟩
    ·show l.length-(x+1)<l.length-x;omega
  ·refine aI (zs (zs ?_));rw[cZ oW]at d;rw[<-d]at I;cases I
def qM(l:List Bk)(t:Int):Nat:=(l.filter λx=>x.t==t).length
def Lq(l:List Bk)(n:Int):Nat:=(l.filter λx=>x.n==n).length
theorem GS(l:List Bk)(y:Bk)(t:Int):qM (l++[y]) t=qM l t+(if y.t==t then 1 else 0):=by
 unfold qM;rw[List.filter_append,L4];cases h:y.t==t<;>simp[h]
theorem Uc(l:List Bk)(y:Bk)(t:Int):Lq (l++[y]) t=Lq l t+(if y.n==t then 1 else 0):=by
 unfold Lq;rw[List.filter_append,L4];cases h:y.n==t<;>simp[h]
theorem Ih(l:List Bk)(t:Int):Lq l t<=l.length:=au _ _
theorem Ud(l:List Bk)(t:Int):qM l t<=l.length:=au _ _
theorem Nq(l:List Bk)(t:Int):decide ((Lq l t:Int)+1>1)=l.any λz=>z.n==t:=by
 induction l with
 |nil=>rfl
 |cons x l ih=>
  unfold Lq at ih ⊢;rw[U0,Z7];cases h:x.n==t with
  |true=>simp only[if_true,M9,Bool.true_or,N0];omega
  |false=>simp only[N9,if_false,R5];exact ih
def PX(pre:List Bk):List Bk->Bool
 | []=>false
 |y::r=>(pre.any λz=>z.n==y.n)||PX (pre++[y]) r
theorem PW{l:List Bk}{i:Nat}{y:Bk}(h:l[i]? =some y):PX (l.take i) (l.drop i)=(((l.take i).any λz=>z.n==y.n)||PX (l.take (i+1)) (l.drop (i+1))):=by
 rw[dS h,PX,Q9,h];rfl
theorem FZ{x y:Int}{m:List (Int×Int)}(h:0<=gP y m/\gP y m<=1000000):gP x (bump y m)=if x==y then gP y m+1 else gP x m:=by
 unfold bump;rw[DZ,IntWalk.i64_in _ oW]
def Jd(l:List Bk):Bool:=((qM l 1:Int)==1)&&decide ((qM l 6:Int)<2)&&decide ((qM l 7:Int)<2)&&decide ((qM l 10:Int)<2)
theorem LW:∀(r pre:List Bk) (m t:List (Int×Int)),(∀x,gP x m=(Lq pre x:Int))->(∀x,gP x t=(qM pre x:Int))->pre.length+r.length<=1000000->BV r m t=(!PX pre r&&Jd (pre++r))
 | [],pre,m,t,hm,a,_=>by
  rw[BV,PX,M1,a,a,a,a];rfl
 |y::r,pre,m,t,hm,a,hl=>by
  have h:=Ih pre y.n;have g:=Ud pre y.t;rw[M9]at hl;have f:gP y.n (bump y.n m)=(Lq pre y.n:Int)+1:=by
   rw[FZ (by rw[hm];omega),hm];simp
  rw[BV,PX,f,Nq];cases j:pre.any λz=>z.n==y.n with
  |true=>rfl
  |false=>
   rw[M5 M3,LW r (pre++[y]) _ _ (λx=>?_) (λx=>?_) (by rw[L4,List.length_singleton];omega),M6]
   ·rfl
   ·rw[FZ (by rw[hm];omega),Uc,hm,hm];cases d:x==y.n with
    |true=>
     have:=eq_of_beq d;subst this;simp
    |false=>
     have:(y.n==x)=false:=by rw[M2]at d ⊢;exact λe=>d e.symm
     simp[this]
   ·rw[FZ (by rw[a];omega),GS,a,a];cases d:x==y.t with
    |true=>
     have:=eq_of_beq d;subst this;simp
    |false=>
     have:(y.t==x)=false:=by rw[M2]at d ⊢;exact λe=>d e.symm
     simp[this]
theorem Ph{l:List Bk}(h:l.length<=1000000):LX l=(!PX [] l&&Jd l):=LW l [] [] [] (λ_=>rfl) (λ_=>rfl) (by simpa using h)
theorem Ur(l:List Bk)(t:Int):(!(BZ l t).2)=((qM l t:Int)==0):=by
 induction l with
 |nil=>rfl
 |cons x l ih=>
  unfold BZ qM at ih ⊢;rw[X8,U0];cases h:x.t==t with
  |true=>
   simp only[if_true,M9];rw[show((((l.filter λx=>x.t==t).length+1:Nat):Int)==0)=false from M2.2 oW];rfl
  |false=>simp only[N9,if_false];exact ih
theorem Cm{p:Pr}{l:List Bk}(a:fO p l=0):aK p l=if fG p l !=0 then fG p l else if decide (((lN p l).length:Int)>4000)then 4 else 0:=by
 unfold aK sL;rw[a];simp only[show((0:Int) !=0)=false from rfl,N9,if_false];split
 ·rfl
 ·split<;>rfl
theorem rrA{p:Pr}{l:List Bk}(a:fO p l=0)(h:decide ((l.length:Int)>16)=true):aK p l=4:=by
 rw[Cm a];unfold fG;rw[N1 h];rfl
def rrQ(l:List Bk):Bool:=((l.length:Int)==0)||((qM l 1:Int) !=1)||PX [] l||decide ((qM l 6:Int)>1)||decide ((qM l 7:Int)>1)||decide ((qM l 10:Int)>1)
theorem Jx{l:List Bk}(h:rrQ l=false):((l.length:Int)==0)=false:=by
 unfold rrQ at h;simp only[Bool.or_eq_false_iff]at h;exact h.1.1.1.1.1
theorem Co(x:Nat):decide ((x:Int)<2)= !decide ((x:Int)>1):=by
 rw[<-W9];exact S7.2 oW
theorem Mf{l:List Bk}(h:l.length<=1000000):rrQ l=(((l.length:Int)==0)|| !LX l):=by
 unfold rrQ;rw[Ph h];unfold Jd;rw[Co,Co,Co,show((qM l 1:Int) !=1)= !((qM l 1:Int)==1)from rfl];cases ((l.length:Int)==0)<;>cases ((qM l 1:Int)==1)<;>cases PX [] l<;>cases decide ((qM l 6:Int)>1)<;>cases decide ((qM l 7:Int)>1)<;>cases decide ((qM l 10:Int)>1)<;>rfl
theorem rrB{p:Pr}{l:List Bk}(j:fO p l=0)(h:decide ((l.length:Int)>16)=false)(a:rrQ l=true):aK p l=8:=by
 have f:=O5 h;rw[Mf oW]at a;rw[Cm j];have g:fG p l=8:=by
  unfold fG;rw[M5 (by rw[h];exact M3),N1];cases d:(l.length:Int)==0 with
  |true=>
   have:l=[]:=O7.1 (by have:=eq_of_beq d;omega);subst this;rfl
  |false=>
   rw[d,R5]at a;rw[a];simp
 rw[g];rfl
theorem rrC{p:Pr}{l:List Bk}{y:Bk}(C:p.f<W64)(E:fO p l=0)(h:decide ((l.length:Int)>16)=false)(a:rrQ l=false)(k:l[l.length-1]? =some y):
  aK p l=if(y.t !=1)||(((p.time:Int)==0)&&((qM l 7:Int)==0))then 8 else if hasB p.f 1&&decide (IntKind.u64.wrap ((p.off:Int)+(y.d.length:Int))>(p.tot:Int))then 8 else if decide (((lN p l).length:Int)>4000)then 4 else 0:=by
 have u:=O5 h;rw[Mf oW,Bool.or_eq_false_iff]at a;obtain⟨_,a⟩:=a;rw[Cm E];have D:fG p l=if(y.t !=1)||(((p.time:Int)==0)&&((qM l 7:Int)==0))then 8 else if hasB p.f 1&&decide (IntKind.u64.wrap ((p.off:Int)+(y.d.length:Int))>(p.tot:Int))then 8 else 0:=by
  have r:decide (IntKind.u64.wrap ((p.off:Int)+(y.d.length:Int))<=(p.tot:Int))= !decide (IntKind.u64.wrap ((p.off:Int)+(y.d.length:Int))>(p.tot:Int)):=by rw[<-W9];exact S7.2 oW
  have B:rK l=(y.t==1):=by unfold rK;rw[k]
  have A:IC p l=((jE .u64 (p.f:Int) 1==0)|| !decide (IntKind.u64.wrap ((p.off:Int)+(y.d.length:Int))>(p.tot:Int))):=by rw[<-r];unfold IC;rw[k]
  unfold fG;rw[M5 (by rw[h];exact M3),a,Ur,B,A,<-Ej p.f C,show(y.t !=1)= !(y.t==1)from rfl,show(jE .u64 (p.f:Int) 1 !=0)= !(jE .u64 (p.f:Int) 1==0)from rfl];generalize decide (IntKind.u64.wrap ((p.off:Int)+(y.d.length:Int))>(p.tot:Int))=d;generalize (jE .u64 (p.f:Int) 1==0)=f;generalize (y.t==1)=g;generalize (((p.time:Int)==0)&&((qM l 7:Int)==0))=j;cases d<;>cases f<;>cases g<;>cases j<;>rfl
 rw[D];generalize decide (IntKind.u64.wrap ((p.off:Int)+(y.d.length:Int))>(p.tot:Int))=d;generalize hasB p.f 1=f;generalize (y.t !=1)=g;generalize (((p.time:Int)==0)&&((qM l 7:Int)==0))=j;cases d<;>cases f<;>cases g<;>cases j<;>rfl
theorem AI(l:List Bk)(a:Option Addr)(c:Nat)(t:Int)(w:World){U:View}(G:See U w)(D:cG U a l):CP 64 #[.slice a l.length c,.int .i64 t] w (Ret (.int .i64 ((qM l t:Nat):Int)) w):=by
 have g:=D.len;unfold R47 at g;refine dC 23 Tryz.func64 G ?_;refine zQ 1 (zn (zQ 1 (zn (zs (zQ 1 (zn (aB (eF (α:=Nat×Nat) (λx=>[0,1,4,5,6].zip [(.slice a l.length c),(I6 t),(I6 0),(L6 x.2),(L6 x.1)]) (λx=>U) (λx=>[]) (λx=>x.1<=l.length/\x.2=qM (l.take x.1) t) (λx=>l.length-x.1) (0,0) ?_ ?_))))))))
 ·exact⟨M8 _,rfl⟩
 intro x I;obtain⟨J,d⟩:=I;have B:=Ud (l.take x.1) t;rw[O3]at B;refine zs (zQ 4 (zn (aZ ((x.1:Int)<(l.length:Int)) (λE k=>?_) (λE k=>?_))))
 ·refine zk (zs (aB (zQ 2 ?_)));obtain⟨C,f⟩:∃y,(l)[x.1]? =some y:=⟨(l)[x.1]'oW,K8 _⟩;obtain⟨h,j,rfl,A⟩:=D.at_ x.1 C f;refine cB (Pt h (j+x.1*5)) (rIx 58 rfl h j l.length c x.1 5) ?_;refine zq 1 (zV h (j+x.1*5+0) (I6 C.t) (A 0 _ rfl) 3 (.tmp 16) _ Tryz.underlying3 rfl ?_);refine zq 2 (zn (fC C.t t (λr u=>?_) (λr u=>?_)))
  ·refine zr (zq 2 (dH 21 ((x.2:Int)+1) (zq 1 (zn (zr (zq 2 (dH 12 ((x.1:Int)+1) (zq 1 (zn ?_)))))))));refine nx (x.1+1,x.2+1) ?_ ?_
   ·exact⟨by show x.1+1<=l.length;omega,by show x.2+1=_;rw[Q9,f,Option.toList_some,GS,r,d];rfl⟩
   ·show l.length-(x.1+1)<l.length-x.1;omega
  ·refine zk (zr (zq 2 (dH 12 ((x.1:Int)+1) (zq 1 (zn ?_)))));refine nx (x.1+1,x.2+0) ?_ ?_
   ·exact⟨by show x.1+1<=l.length;omega,by show x.2+0=_;rw[Q9,f,Option.toList_some,GS,r,d];rfl⟩
   ·show l.length-(x.1+1)<l.length-x.1;omega
 ·refine aI (zQ 2 (zn (aA (aO [4] [(L6 x.2)] (λK F=>?_)))));refine⟨?_,F.below⟩;rw[O2 oW]at d;rw[<-d];rfl
theorem Ey{l:List Bk}{x j:Nat}{n:Int}(h:∀k,k<j->∀z,l[k]? =some z->z.n≠n)(r:x<=j):((l.take x).any λz=>z.n==n)=false:=by
 rw[Bool.eq_false_iff];intro d;obtain⟨z,g,f⟩:=T8.1 d;obtain⟨k,a⟩:=R8.1 g;rw[X4]at a;split at a
 ·exact h k oW z a (eq_of_beq f)
 ·cases a
theorem Lf{l:List Bk}{x j:Nat}{z:Bk}{n:Int}(f:l[j]? =some z)(d:j<x)(a:z.n=n):((l.take x).any λz=>z.n==n)=true:=
 T8.2 ⟨z,R8.2 ⟨j,by rw[X4,N1 d];exact f⟩,S5.2 a⟩
theorem Rc{l:List Bk}{j:Nat}{z:Bk}{n:Int}(g:l[j]? =some z)(h:∀k,k<j->∀z,l[k]? =some z->z.n≠n)(f:z.n≠n):∀k,k<j+1->∀z,l[k]? =some z->z.n≠n:=λk r q d=>by
 by_cases a:k=j
 ·subst a;rw[g]at d;obtain rfl:=N5 d;exact f
 ·exact h k oW q d
theorem XW(l:List Bk)(a:Option Addr)(c:Nat)(w:World){U:View}(Y:See U w)(K:cG U a l):CP 65 #[.slice a l.length c] w (Ret (.bool (PX [] l)) w):=by
 have A:=K.len;unfold R47 at A;refine dC 27 Tryz.func65 Y ?_;refine zQ 1 (zn (zs (zQ 1 (zn (aB (eF (α:=Nat) (λx=>[0,2,3].zip [(.slice a l.length c),qF,(L6 x)]) (λx=>U) (λx=>[]) (λx=>x<=l.length/\PX (l.take x) (l.drop x)=PX [] l) (λx=>l.length-x) 0 ?_ ?_))))))
 ·exact⟨M8 _,rfl⟩
 intro x hx;obtain⟨a6,g⟩:=hx;refine zs (zQ 4 (zn (aZ ((x:Int)<(l.length:Int)) (λV D=>?_) (λV D=>?_))))
 ·refine zk (zs (aB (zs (zr ?_))));obtain⟨C,h⟩:∃y,(l)[x]? =some y:=⟨(l)[x]'oW,K8 _⟩;obtain⟨d,f,rfl,I⟩:=K.at_ x C h;refine zq 1 (zn (aB (eF (α:=Nat) (λj=>[0,2,3,4,5,6,7,8].zip [(Sl d f l.length c),qF,(L6 x),(L6 j),(L6 x),(Sl d f l.length c),(L6 l.length),(.bool (decide ((x:Int)<(l.length:Int))))]) (λj=>U) (λj=>[]) (λj=>j<=x/\∀k,k<j->∀z,l[k]? =some z->z.n≠C.n) (λj=>x-j) 0 ?_ ?_)))
  ·exact⟨M8 _,λk hk=>absurd hk oW⟩
  intro j Z;obtain⟨a1,u⟩:=Z;refine zs (zQ 3 (zn (aZ ((j:Int)<(x:Int)) (λX E=>?_) (λX E=>?_))))
  ·refine zk (zs (aB (zs ?_)));obtain⟨M,r⟩:∃y,(l)[j]? =some y:=⟨(l)[j]'oW,K8 _⟩;obtain⟨b1,f1,O,J⟩:=K.at_ j M r;cases O;refine gI 3 [0,0,1,0,1,0,0,1,0,1] [] [.val (Pt d (f+x*5)),.val (I6 C.n),.val (Pt d (f+j*5)),.val (I6 M.n)] ⟨?_,?_,?_,?_,trivial⟩ ?_
   ·exact vR (rIx 58 rfl d f l.length c x 5)
   ·exact vU1 d (f+x*5+1) (I 1 _ rfl) 3 _ _ Tryz.underlying3 rfl
   ·exact vR (rIx 58 rfl d f l.length c j 5)
   ·exact vU1 d (f+j*5+1) (J 1 _ rfl) 3 _ _ Tryz.underlying3 rfl
   refine zq 1 (zn (fC C.n M.n (λB F=>?_) (λB F=>?_)))
   ·refine zQ 1 (zn (aA (aO [2] [qT] (λN G=>?_))));refine⟨?_,G.below⟩;rw[<-g,PW h,Lf r oW (eq_of_beq B).symm];rfl
   ·refine zk (zr (zq 2 (dH 15 ((j:Int)+1) (zq 1 (zn ?_)))));refine nx (j+1) ?_ ?_
    ·exact⟨by omega,Rc r u (λL=>by rw[L]at B;simp at B)⟩
    ·show x-(j+1)<x-j;omega
  ·refine aI (zr (zq 2 (dH 10 ((x:Int)+1) (zq 1 (zn ?_)))));refine nx (x+1) ?_ ?_
   ·exact⟨by omega,by rw[<-g,PW h,Ey u oW,R5]⟩
   ·show l.length-(x+1)<l.length-x;omega
 ·refine aI (zQ 1 (zn (aA (aO [2] [qF] (λN G=>?_)))));refine⟨?_,G.below⟩;rw[<-g,cZ oW];rfl
theorem Zx{l:List Bk}{i:Nat}{y:Bk}(h:l[i]? =some y):(CG (l.take (i+1))).length=(CG (l.take i)).length+(iB y).length:=by
 unfold CG;rw[Q9,h,Option.toList_some,Q4,L4];simp
theorem OT(p:Pr)(l:List Bk)(a:Option Addr)(c:Nat)(w:World){U:View}(hU:See U w)(hp:p.ok)(L:cG U a l)(u:cK p=0)(K:∀x∈l,cX x=0)(Z:l.length<=16):CP 67 #[bnV p a l.length c] w (fV w U (IsB (lN p l).length)):=by
 have a1:=FH u;have r:=L.len;unfold R47 at r;have M:=L;refine dC 26 Tryz.func67 hU ?_;refine zs (zr (aW (λg=>(zq 1 (zn (zB [0,1] [(g,19)] (lU (λW j=>RP p hp u W j.view) (λv1 Y k F=>?_))))))));have k2:=L.le k;obtain⟨A,rfl,N⟩:=F;refine cB (St ([159]++A)) (cE _ _ _ _ rfl [159] A kR kR oA) ?_;refine zq 1 (zn (zs (zQ 1 (zn (aB (eF (α:=Nat×List UInt8) (λx=>[1,2,3,4].zip [(Pt g 0),(St []),(St x.2),(L6 x.1)]) (λx=>Y) (λx=>[(bK g (dO p a l.length c) 29)]) (λx=>x.1<=l.length/\x.2.length=1+(fE p).length+(CG (l.take x.1)).length) (λx=>l.length-x.1) (0,([159]++A)) ?_ ?_))))))
 ·exact⟨M8 _,by show(([159]++A)).length=_;rw[L4,N];rfl⟩
 intro x hx;obtain⟨a7,O⟩:=hx;have V:=GZ (l.take x.1) (λy hy=>K y (az hy));rw[O3]at V;refine zs (zB [0,0,1,0,0] [(g,1)] (zn (aZ ((x.1:Int)<(l.length:Int)) (λu E=>?_) (λu E=>?_))))
 ·refine zk (zs (aB (zr (cF [0,0,1,0] [(g,1)] ?_))));obtain⟨y3,f⟩:∃y,(l)[x.1]? =some y:=⟨(l)[x.1]'oW,K8 _⟩;obtain⟨C,D,rfl,I⟩:=k2.at_ x.1 y3 f;refine cB (Pt C (D+x.1*5)) (rIx 58 rfl C D l.length c x.1 5) ?_;refine zU C (D+x.1*5) y3.cs I 58 (.tmp 20) _ Tryz.underlying58 rfl ?_;refine oI 109 #[(y3.V)] (IsB (iB y3).length) (λW j=>RW y3 (M.ok _ (K9 f)) (K _ (K9 f)) W j.view) (λv4 V4 J G=>?_);obtain⟨B,rfl,a6⟩:=G;have X:=tL (K _ (K9 f));refine cB (St (x.2++B)) (cE _ _ _ _ rfl x.2 B kR kR oA) ?_;refine zq 1 (zn (zr (zq 2 (dH 15 ((x.1:Int)+1) (zq 1 (zn ?_))))));refine nx (x.1+1,(x.2++B)) ?_ ?_ (d:=λ_ h=>(h.weak J).eqv kR)
  ·exact⟨by show x.1+1<=l.length;omega,by show((x.2++B)).length=_;rw[Zx f,L4];omega⟩
  ·show l.length-(x.1+1)<l.length-x.1;omega
 ·refine aI (zQ 1 (cB (St (x.2++[255])) (cE _ _ _ _ rfl x.2 [255] kR kR oA) ?_));refine zq 1 (zn (aA (aO [2] [(St (x.2++[255]))] (λW' j=>?_))));refine aJ j k ⟨_,rfl,?_⟩;rw[O2 oW]at O;unfold lN;simp only[L4,M9,O8];omega
theorem SG(p:Pr)(l:List Bk)(a:Option Addr)(c:Nat)(w:World){U:View}(hU:See U w)(hp:p.ok)(u:cG U a l)(N:fO p l=0)(hd:∀x∈l,x.d.length<=1000000):CP 28 #[bnV p a l.length c] w (fV w U λv _=>v=.int .i64 (aK p l)):=by
 have a6:=u.len;unfold R47 at a6;obtain⟨a8,a1⟩:=pY N;have hf:=hp.f;have c4:¬(l.length:Int)=0->IntKind.i64.wrap ((l.length:Int)-1)=((l.length-1:Nat):Int):=λh=>by
  rw[IntWalk.i64_in _ oW];omega
 refine dC 102 Tryz.func28 hU ?_;refine zs (zr (aW (λf=>(zq 1 (zn (zs (zB [0,1] [(f,19)] (cY 62 #[(p.V)] (I6 0) (λW d=>((JA p hp).trans a8)▸EV p W hp) ?_))))))));refine zq 1 (zn (zQ 2 (zn (cU (zk (zB [0,1,0] [(f,1)] (zn (zs (zQ 1 (zn (aB (eF (α:=Nat) (λx=>[1,2,4,5].zip [(Pt f 0),(I6 0),(.slice a l.length c),(L6 x)]) (λx=>U) (λx=>[(bK f (dO p a l.length c) 29)]) (λx=>x<=l.length) (λx=>l.length-x) 0 ?_ ?_))))))))))))
 ·exact M8 _
 intro x hx;refine zs (zQ 4 (zn (aZ ((x:Int)<(l.length:Int)) (λh0 b9=>?_) (λh0 b9=>?_))))
 ·refine zk (zs (aB (zQ 2 ?_)));obtain⟨y1,b4⟩:∃y,(l)[x]? =some y:=⟨(l)[x]'oW,K8 _⟩;obtain⟨b1,f1,rfl,c1⟩:=u.at_ x y1 b4;refine cB (Pt b1 (f1+x*5)) (rIx 58 rfl b1 f1 l.length c x 5) ?_;refine zU b1 (f1+x*5) y1.cs c1 58 (.tmp 24) _ Tryz.underlying58 rfl ?_;refine cY 63 #[(y1.V)] (I6 0) (λW d=>((JC y1).trans (a1 _ (K9 b4)))▸FA y1 W) ?_;refine zq 1 (zn (zQ 2 (zn (cU (zk (zr (zq 2 (dH 21 ((x:Int)+1) (zq 1 (zn ?_))))))))));refine nx (x+1) ?_ ?_
  ·show x+1<=l.length;omega
  ·show l.length-(x+1)<l.length-x;omega
 ·refine aI (zs (zQ 3 (zn (aZ ((l.length:Int)>16) (λD _=>?_) (λD c7=>?_)))))
  ·refine zQ 1 (zn (aA (aO [2] [(I6 4)] (λX d=>?_))));exact aJ d (View.le_refl _) (show _=Value.int .i64 (aK p l)from by rw[rrA N D];rfl)
  ·refine zk (zs ?_);refine dG (α:=Bool) (λF=>[1,2,4,59].zip [(Pt f 0),(I6 0),(.slice a l.length c),(.bool F)]) (λF=>U) (λF=>[(bK f (dO p a l.length c) 29)]) (λF=>F=(rrQ l)) ?_ ?_
   ·refine zr (zq 4 (cN 36 ((l.length:Int)==0) (λL=>?_) (λL=>?_)))
    ·refine zq 23 (zn ?_);refine jn true ?_;unfold rrQ;simp only[L,bs,bQ,reduceIte]
    ·refine zq 1 (cY 64 #[(.slice a l.length c),(I6 1)] (I6 ((qM l 1:Nat):Int)) (λW d=>AI l _ _ 1 W d.view u) ?_);refine zq 3 (cN 41 (((qM l 1:Nat):Int) !=1) (λV=>?_) (λV=>?_))
     ·refine zq 18 (zn ?_);refine jn true ?_;unfold rrQ;simp only[L,V,bs,bQ,reduceIte]
     ·refine zq 1 (cY 65 #[(.slice a l.length c)] (.bool (PX [] l)) (λW d=>XW l _ _ W d.view u) ?_);refine zq 2 (cN 45 (PX [] l) (λY=>?_) (λY=>?_))
      ·refine zq 14 (zn ?_);refine jn true ?_;unfold rrQ;simp only[L,V,Y,bs,bQ,reduceIte]
      ·refine zq 1 (cY 64 #[(.slice a l.length c),(I6 6)] (I6 ((qM l 6:Nat):Int)) (λW d=>AI l _ _ 6 W d.view u) ?_);refine zq 3 (cN 50 (decide (((qM l 6:Nat):Int)>1)) (λh5=>?_) (λh5=>?_))
       ·refine zq 9 (zn ?_);refine jn true ?_;unfold rrQ;simp only[L,V,Y,h5,bs,bQ,reduceIte]
       ·refine zq 1 (cY 64 #[(.slice a l.length c),(I6 7)] (I6 ((qM l 7:Nat):Int)) (λW d=>AI l _ _ 7 W d.view u) ?_);refine zq 3 (cN 55 (decide (((qM l 7:Nat):Int)>1)) (λh6=>?_) (λh6=>?_))
        ·refine zq 4 (zn ?_);refine jn true ?_;unfold rrQ;simp only[L,V,Y,h5,h6,bs,bQ,reduceIte]
        ·refine zq 1 (cY 64 #[(.slice a l.length c),(I6 10)] (I6 ((qM l 10:Nat):Int)) (λW d=>AI l _ _ 10 W d.view u) ?_);refine zq 2 (zn ?_);refine jn (decide (((qM l 10:Nat):Int)>1)) ?_;unfold rrQ;simp only[L,V,Y,h5,h6,bs,bQ,reduceIte]
   intro F g;refine gK F (λM=>?_) (λM=>?_)
   ·refine zQ 1 (zn (aA (aO [2] [(I6 8)] (λX d=>?_))));exact aJ d (View.le_refl _) (show _=Value.int .i64 (aK p l)from by rw[rrB N D (g.symm.trans M)];rfl)
   ·have b6:=M2.1 (Jx (g.symm.trans M));refine zk (zQ 4 (dZ 63 (I6 (IntKind.i64.wrap ((l.length:Int)-1))) (I6 ((l.length-1:Nat):Int)) (M0 (Value.int .i64) (c4 b6)) ?_));obtain⟨A,j⟩:∃y,(l)[(l.length-1)]? =some y:=⟨(l)[(l.length-1)]'oW,K8 _⟩;obtain⟨E,J,rfl,c2⟩:=u.at_ (l.length-1) A j;refine cB (.pointer (some ⟨E,J+(l.length-1)*5,none⟩)) (rIx 58 rfl E J l.length c (l.length-1) 5) ?_;refine zU E (J+(l.length-1)*5) A.cs c2 58 (.tmp 64) _ Tryz.underlying58 rfl ?_;refine aW (λO=>?_);have c6:=hd _ (K9 j);refine aX 1 O (zn (zs ?_));refine dG (α:=Bool) (λG=>[1,2,7,79].zip [(Pt f 0),(I6 0),(Pt O 0),(.bool G)]) (λG=>U) (λG=>[(bK f (dO p (some ⟨E,J,none⟩) l.length c) 29),(bK O A.cs 58)]) (λG=>G=((A.t !=1)||(((p.time:Int)==0)&&((qM l 7:Int)==0)))) ?_ ?_
    ·refine zr (cF [0,2,0,0] [(O,1)] (cN 69 (A.t !=1) (λh8=>?_) (λh8=>?_)))
     ·refine zq 10 (zn ?_);refine jn true ?_;simp only[h8,bs,bQ,reduceIte]
     ·refine cF [0,0,1,0,0] [(f,1)] (cN 74 ((p.time:Int)==0) (λh9=>?_) (λh9=>?_))
      ·refine zq 1 (cY 64 #[(Sl E J l.length c),(I6 7)] (I6 ((qM l 7:Nat):Int)) (λW d=>AI l _ _ 7 W d.view u) ?_);refine zq 3 (zn ?_);refine jn (((qM l 7:Nat):Int)==0) ?_;simp only[h8,h9,bs,bQ,reduceIte]
      ·refine zq 5 (zn ?_);refine jn false ?_;simp only[h8,h9,bs,bQ,reduceIte]
    intro G C;refine gK G (λk=>?_) (λk=>?_)
    ·refine zQ 1 (zn (aA (aO [2] [(I6 8)] (λX d=>?_))));exact aJ d (View.le_refl _) (show _=Value.int .i64 (aK p l)from by rw[rrC hf N D (g.symm.trans M) j];simp only[dD,(C.symm.trans k),bs,bQ,reduceIte])
    ·refine zk (zs ?_);refine dG (α:=Bool) (λI=>[1,2,97].zip [(Pt f 0),(I6 0),(.bool I)]) (λI=>U) (λI=>[(bK f (dO p (some ⟨E,J,none⟩) l.length c) 29),(bK O A.cs 58)]) (λI=>I=(hasB p.f 1&&decide (IntKind.u64.wrap ((p.off:Int)+(A.d.length:Int))>(p.tot:Int)))) ?_ ?_
     ·refine zr (cF [0,0,1] [(f,1)] (dN (λW d=>VJ p.f hf W) (zq 1 (cN 84 (hasB p.f 1) (λK=>?_) (λK=>?_)))))
      ·refine cF [0,0,1,0,2,0,0] [(f,1),(O,1)] (dZ 91 (U6 (IntKind.u64.wrap (((A.d).length:Nat):Int))) (N6 ((A.d).length:Nat)) (M0 (Value.int .u64) (u64_in oW oW)) ?_);refine cF [0,0,0,1,0,0] [(f,1)] (zn ?_);refine jn (decide ((IntKind.u64.wrap ((p.off:Int)+(((A.d).length:Nat):Int)))>(p.tot:Int))) ?_;simp only[K,bs,bQ,reduceIte]
      ·refine zq 13 (zn ?_);refine jn false ?_;simp only[K,bs,bQ,reduceIte]
     intro I hb8;refine gK I (λB=>?_) (λB=>?_)
     ·refine zQ 1 (zn (aA (aO [2] [(I6 8)] (λX d=>?_))));exact aJ d (View.le_refl _) (show _=Value.int .i64 (aK p l)from by rw[rrC hf N D (g.symm.trans M) j];simp only[dD,(C.symm.trans k),(hb8.symm.trans B),bs,bQ,reduceIte])
     ·refine zk (zs (zB [1] [(f,20)] (oI 67 #[(bnV p (some ⟨E,J,none⟩) l.length c)] (IsB (lN p l).length) (λW d=>OT p l _ _ W d.view hp u a8 a1 (by have:=O5 D;omega)) (λv4 V4 Z c0=>?_))));obtain⟨m4,rfl,a7⟩:=c0;refine zq 2 (zn (gK (decide ((((m4).length:Nat):Int)>4000)) (λr=>?_) (λr=>?_)))
      ·refine zQ 1 (zn (aA (aO [2] [(I6 4)] (λX d=>?_))));rw[a7]at r;exact aJ d Z (show _=Value.int .i64 (aK p l)from by rw[rrC hf N D (g.symm.trans M) j];simp only[dD,(C.symm.trans k),(hb8.symm.trans B),r,bs,bQ,reduceIte])
      ·refine zk (zQ 1 (zn (aA (aO [2] [(I6 0)] (λX d=>?_)))));rw[a7]at r;exact aJ d Z (show _=Value.int .i64 (aK p l)from by rw[rrC hf N D (g.symm.trans M) j];simp only[dD,(C.symm.trans k),(hb8.symm.trans B),r,bs,bQ,reduceIte])
theorem rE(p:Pr)(l:List Bk)(a:Option Addr)(c:Nat)(w:World){U:View}(d:See U w)(j:p.ok)(g:cG U a l)(k:∀x∈l,x.d.length<=1000000):CP 28 #[bnV p a l.length c] w (fV w U λv _=>v=.int .i64 (aK p l)):=by
 cases f:(fO p l !=0)with
 |true=>
  have h:aK p l=fO p l:=by unfold aK sL;rw[N1 f]
  exact Calls.retN d (SH p l a c w d j g f) (by rw[h])
 |false=>exact SG p l a c w d j g (by simpa using f) k
def jD(l:List Bk)(n:Int):Int:=if jC l n<0 then 0 else(fI l n).1.t
theorem FC(p:Pr)(l:List Bk)(a:Option Addr)(c:Nat)(num:Int)(w:World){U:View}(E:See U w)(B:cG U a l):CP 36 #[bnV p a l.length c,.int .i64 num] w (Ret (.int .i64 (jD l num)) w):=by
 have F:=GJ (l:=l) (num:=num);refine dC 17 Tryz.func36 E ?_;refine zs (zr (aW (λA=>(zq 1 (zn (zB [1,0] [(A,20)] (cY 10 #[(bnV p a l.length c),(I6 num)] (I6 (jC l num)) (λW d=>FF p l _ _ num W d.view B.to0) ?_)))))));refine zq 1 (zn (zs (zQ 2 (zn (aZ ((jC l num)<0) (λD j=>?_) (λD j=>?_))))))
 ·refine zQ 1 (zn (aA (aO [4] [(I6 0)] (λC d=>?_))));refine⟨?_,d.below⟩;unfold jD;rw[N1 oW];rfl
 ·refine zk (zB [0,1,0] [(A,1)] ?_);obtain⟨G,r⟩:=F oW;refine dZ 13 (I6 (jC l num)) (I6 ((jC l num).toNat:Int)) (M0 (Value.int .i64) r) ?_;obtain⟨u,f⟩:∃y,(l)[((jC l num).toNat)]? =some y:=⟨(l)[((jC l num).toNat)]'oW,K8 _⟩;obtain⟨g,h,rfl,k⟩:=B.at_ ((jC l num).toNat) u f;refine cB (.pointer (some ⟨g,h+((jC l num).toNat)*5,none⟩)) (jP _ 58 _ _ rfl g h l.length c ((jC l num).toNat) 5 .i64 kR kR (by first|assumption|omega) kR kR) ?_;refine zq 1 (zV g (h+((jC l num).toNat)*5+0) (I6 u.t) (k 0 _ rfl) 3 (.tmp 15) _ Tryz.underlying3 rfl ?_);refine zq 1 (zn (aA (aO [4] [(I6 u.t)] (λC d=>?_))));refine⟨?_,d.below⟩;unfold jD;rw[M5 oW,AU oW f];rfl
theorem WG{ts:List Int}{n:Int}{i:Nat}{y:Int}(h:ts[i]? =some y):(ts.drop i).contains n=(y==n||(ts.drop (i+1)).contains n):=by
 rw[dS h,List.contains_cons,Bool.beq_comm]
theorem YE(ts:List Int)(a:Option Addr)(c:Nat)(n:Int)(w:World){U:View}(G:See U w)(B:gV U a ts):CP 69 #[.slice a ts.length c,.int .i64 n] w (Ret (.bool (ts.contains n)) w):=by
 have g:=B.len;unfold R47 at g;refine dC 18 Tryz.func69 G ?_;refine zQ 1 (zn (zs (zQ 1 (zn (aB (eF (α:=Nat) (λx=>[0,1,4,5].zip [(.slice a ts.length c),(I6 n),qF,(L6 x)]) (λx=>U) (λx=>[]) (λx=>x<=ts.length/\(ts.drop x).contains n=ts.contains n) (λx=>ts.length-x) 0 ?_ ?_))))))
 ·exact⟨M8 _,rfl⟩
 intro x I;obtain⟨J,d⟩:=I;refine zs (zQ 4 (zn (aZ ((x:Int)<(ts.length:Int)) (λE k=>?_) (λE k=>?_))))
 ·refine zk (zs (aB (zQ 2 ?_)));obtain⟨C,f⟩:∃y,(ts)[x]? =some y:=⟨(ts)[x]'oW,K8 _⟩;obtain⟨h,j,rfl,A⟩:=B.one f;refine cB (Pt h (j+x)) (eJ _ 3 _ _ rfl h j ts.length c x .i64 kR kR (by first|assumption|omega) kR kR) ?_;refine zV h (j+x) (I6 C) A 3 (.tmp 14) _ Tryz.underlying3 rfl ?_;refine zq 2 (zn (fC C n (λr _=>?_) (λr F=>?_)))
  ·refine zQ 1 (zn (aA (aO [4] [qT] (λD u=>?_))));refine⟨?_,u.below⟩;rw[<-d,WG f,r];rfl
  ·refine zk (zr (zq 2 (dH 11 ((x:Int)+1) (zq 1 (zn ?_)))));refine nx (x+1) ?_ ?_
   ·exact⟨by omega,by rw[<-d,WG f,r];rfl⟩
   ·show ts.length-(x+1)<ts.length-x;omega
 ·refine aI (zQ 1 (zn (aA (aO [4] [qF] (λD u=>?_)))));refine⟨?_,u.below⟩;rw[<-d,cZ oW];rfl
def TU(t:Int):Bool:=t==6||t==7||t==10
theorem oM(t:Int)(w:World):CP 114 #[.int .i64 t] w (Ret (.bool (TU t)) w):=by
 refine dF 13 Tryz.func114 ?_;refine zQ 1 (zn (zQ 3 (cN 5 (t==6) (λd=>?_) (λd=>?_))))
 ·refine zq 8 (zn (aA (aO [2] [qT] (λg a=>?_))));exact⟨by simp only[dD,TU,d,bs,bQ,reduceIte],a.below⟩
 ·refine zq 4 (cN 9 (t==7) (λf=>?_) (λf=>?_))
  ·refine zq 4 (zn (aA (aO [2] [qT] (λg a=>?_))));exact⟨by simp only[dD,TU,d,f,bs,bQ,reduceIte],a.below⟩
  ·refine zq 4 (zn (aA (aO [2] [(.bool (t==10))] (λg a=>?_))));exact⟨by simp only[dD,TU,d,f,bs,bQ,reduceIte],a.below⟩
def scB(x:Bk):Bool:=x.t==11||x.t==12
theorem RM{l:List Bk}{i:Nat}{y:Bk}(h:l[i]? =some y):(l.drop i).any scB=(scB y||(l.drop (i+1)).any scB):=by
 rw[dS h,Z7]
theorem SE(p:Pr)(l:List Bk)(a:Option Addr)(c:Nat)(w:World){U:View}(K:See U w)(I:cG U a l):CP 34 #[bnV p a l.length c] w (Ret (.bool (l.any scB)) w):=by
 have A:=I.len;unfold R47 at A;refine dC 27 Tryz.func34 K ?_;refine zs (zr (aW (λk=>(zq 1 (zn (zs (zQ 1 (zn (aB (eF (α:=Nat) (λx=>[1,2,3].zip [(Pt k 0),qF,(L6 x)]) (λx=>U) (λx=>[(bK k (dO p a l.length c) 29)]) (λx=>x<=l.length/\(l.drop x).any scB=l.any scB) (λx=>l.length-x) 0 ?_ ?_))))))))))
 ·exact⟨M8 _,rfl⟩
 intro x L;obtain⟨M,d⟩:=L;refine zs (zB [0,0,1,0,0] [(k,1)] (zn (aZ ((x:Int)<(l.length:Int)) (λJ C=>?_) (λJ C=>?_))))
 ·refine zk (zs (aB (zB [0,1,0] [(k,1)] ?_)));obtain⟨g,f⟩:∃y,(l)[x]? =some y:=⟨(l)[x]'oW,K8 _⟩;obtain⟨h,j,rfl,u⟩:=I.at_ x g f;refine cB (Pt h (j+x*5)) (rIx 58 rfl h j l.length c x 5) ?_;refine zq 1 (zV h (j+x*5+0) (I6 g.t) (u 0 _ rfl) 3 (.tmp 15) _ Tryz.underlying3 rfl ?_);refine zq 2 (jZ 18 g.t 11 (λB D=>?_) (λB D=>?_))
  ·refine zq 8 (zn (dM (zQ 1 (zn (aA (aO [2] [qT] (λG r=>?_)))))));refine⟨?_,r.below⟩;rw[<-d,RM f,show scB g=true by unfold scB;simp only[B,bs,bQ,reduceIte]];rfl
  ·refine cF [0,1,0] [(k,1)] (cB (Pt h (j+x*5)) (rIx 58 rfl h j l.length c x 5) ?_);refine zq 1 (zV h (j+x*5+0) (I6 g.t) (u 0 _ rfl) 3 (.tmp 23) _ Tryz.underlying3 rfl ?_);refine zq 2 (zn (fC g.t 12 (λE F=>?_) (λE F=>?_)))
   ·refine zQ 1 (zn (aA (aO [2] [qT] (λG r=>?_))));refine⟨?_,r.below⟩;rw[<-d,RM f,show scB g=true by unfold scB;simp only[B,E,bs,bQ,reduceIte]];rfl
   ·refine zk (zr (zq 2 (dH 10 ((x:Int)+1) (zq 1 (zn ?_)))));refine nx (x+1) ?_ ?_
    ·exact⟨by omega,by rw[<-d,RM f,show scB g=false by unfold scB;simp only[B,E,bs,bQ,reduceIte]];rfl⟩
    ·show l.length-(x+1)<l.length-x;omega
 ·refine aI (zQ 1 (zn (aA (aO [2] [qF] (λG r=>?_)))));refine⟨?_,r.below⟩;rw[<-d,cZ oW];rfl
noncomputable def stF:List Bk->Option (List Int)
 | []=>some []
 |x::l=>if x.t !=12 then stF l else match dI x.d with
  |none=>none
  |some a=>if a.c !=2 then none else match stF l with
   |none=>none
   |some r=>some (a.t++r)
def Uh(pre:List Int)(x:Option (List Int)):Option (List Int):=x.map (pre++ ·)
theorem Qz{l:List Bk}{i:Nat}{y:Bk}(h:l[i]? =some y)(a:(y.t !=12)=true):stF (l.drop (i+1))=stF (l.drop i):=by
 rw[dS h,stF,N1 a]
theorem Ra{l:List Bk}{i:Nat}{y:Bk}{a:As}{pre:List Int}(h:l[i]? =some y)(g:(y.t !=12)=false)(f:dI y.d=some a)(d:(a.c !=2)=false):Uh (pre++a.t) (stF (l.drop (i+1)))=Uh pre (stF (l.drop i)):=by
 rw[dS h,stF,M5 (by rw[g];exact M3),f];simp only;rw[M5 (by rw[d];exact M3)];cases stF (l.drop (i+1))with
 |none=>rfl
 |some r=>
  show some (pre++a.t++r)=some (pre++(a.t++r));rw[M6]
theorem Xv{l:List Bk}{i:Nat}{y:Bk}{pre:List Int}{z:Option (List Int)}(j:Uh pre (stF (l.drop i))=z)(h:l[i]? =some y)(g:(y.t !=12)=false)(d:dI y.d=none\/∃a,dI y.d=some a/\(a.c !=2)=true):z=none:=by
 rw[<-j,dS h,stF,M5 (by rw[g];exact M3)];rcases d with d|⟨a,d,f⟩
 ·rw[d];rfl
 ·rw[d];simp only;rw[N1 f];rfl
theorem Qy{pre:List Int}{z:Option (List Int)}(a:Uh pre (stF [])=z):z=some pre:=by
 rw[<-a];show some (pre++[])=some pre;rw[M1]
theorem LR{s:List UInt8}{a:As}(h:dI s=some a):1<=a.t.length/\a.t.length<=16:=by
 have hs:=As.shaped (fW h).2.1;unfold cW at hs;simp only[L5,N0]at hs;exact⟨hs.1.1.1.1.1.1.1.1,hs.1.1.1.1.1.1.1.2⟩
theorem MO{V:View}:∀(l:List Int),sM InR V (l.map λn=>(n,[Value.int .i64 n]))
 | []=>trivial
 |x::l=>⟨rfl,MO l⟩
theorem Og(l:List Int):l.map inV=(l.map λn=>(n,[Value.int .i64 n])).flatMap Prod.snd:=by
 induction l with
 |nil=>rfl
 |cons x l ih=>rw[R2,R2,P9,ih];rfl
def Cd(x:Option (List Int))(v:Value)(V:View):Prop:=match x with
 |some ts=>∃a c,v=.tuple #[.slice a ts.length c,.bool true]/\gV V a ts
 |none=>v=.tuple #[.slice none 0 0,.bool false]
theorem AH(p:Pr)(l:List Bk)(a:Option Addr)(c:Nat)(w:World){U:View}(hU:See U w)(hl:cG U a l)(Z:∀x∈l,x.d.length<=100000)(c9:l.length<=1000):CP 68 #[bnV p a l.length c] w (fV w U (Cd (stF l))):=by
 refine dC 44 Tryz.func68 hU ?_;refine zs (zr (aW (λD=>(zq 2 (zn (zQ 1 (zn (zs (zQ 1 (zn (aB (eF (α:=Wp Int) (λx=>[1,2,3,4,5].zip [(Pt D 0),S0,qF,(x.r.V x.m),(L6 x.i)]) (λx=>x.V) (λx=>([(bK D (dO p a l.length c) 29)]++x.r.B 3 x.xs)) (λx=>x.i<=l.length/\x.m<=16*x.i/\View.le U x.V/\RwR InR 1 x.V x.r x.xs x.m x.L/\Uh (x.L.map Prod.fst) (stF (l.drop x.i))=stF l) (λx=>l.length-x.i) ⟨0,0,Rw.nil,[],[],U⟩ ?_ ?_ (hm:=λ_ h=>h.eqv (U3 kR (M1 ([(bK D (dO p a l.length c) 29)]:aH)).symm))))))))))))))
 ·exact⟨M8 _,M8 _,View.le_refl _,RwR.nil,by cases hz:stF l<;>(rw[W5,hz];rfl)⟩
 intro x hx;obtain⟨e0,e1,k,A,u⟩:=hx;refine zs (zB [0,0,1,0,0] [(D,1)] (zn (aZ ((x.i:Int)<(l.length:Int)) (λh0 b4=>?_) (λh0 b4=>?_))))
 ·refine zk (zs (aB (zs (zB [0,1,0] [(D,1)] ?_))));obtain⟨C,j⟩:∃y,(l)[x.i]? =some y:=⟨(l)[x.i]'oW,K8 _⟩;obtain⟨F,G,rfl,Y⟩:=(hl.le k).at_ x.i C j;refine cB (Pt F (G+x.i*5)) (rIx 58 rfl F G l.length c x.i 5) ?_;refine zq 1 (zV F (G+x.i*5+0) (I6 C.t) (Y 0 _ rfl) 3 (.tmp 19) _ Tryz.underlying3 rfl ?_);refine zq 1 (zn (iE C.t 12 (λK b7=>?_) (λK b7=>?_)))
  ·refine aI (zr (zq 2 (dH 14 ((x.i:Int)+1) (zq 1 (zn ?_)))));refine nx ⟨x.i+1,x.m,x.r,x.xs,x.L,x.V⟩ ?_ ?_
   ·exact⟨by show x.i+1<=_;omega,by show x.m<=16*(x.i+1);omega,k,A,by rw[Qz j K,u]⟩
   ·show l.length-(x.i+1)<l.length-x.i;omega
  ·refine zk (zB [0,1,0] [(D,1)] (cB (Pt F (G+x.i*5)) (rIx 58 rfl F G l.length c x.i 5) ?_));refine zq 1 (zV F (G+x.i*5+4) (St C.d) (Y 4 _ rfl) 9 (.tmp 27) _ Tryz.underlying9 rfl ?_);rcases N2 ((dI C.d).isSome)with h2|h2
   ·refine lU (λW r=>gG C.d W r.view (by have:=Z C (K9 j);omega)) (λv2 V2 J N=>?_);have k4:=A.le J;obtain⟨f,B⟩:=P4.1 h2;rw[B]at N;obtain⟨x2,y2,z2,u2,v2,w2,rfl,I⟩:=N;have b3:=I.t;have c7:=I.p;have c8:=I.r;have g:=LR B;refine zq 3 (dB 1 (λb5=>?_));refine aX 1 b5 (zq 1 (zn (zs (zB [0,0,0,0,2,0,0] [(b5,1)] (zn (iE f.c 2 (λh3 b8=>?_) (λh3 b8=>?_)))))))
    ·refine zQ 2 (zn (aA (aO [2,3] [S0,qF] (λW' r=>?_))));rw[Xv u j K (.inr ⟨f,B,h3⟩)];exact aJ r (View.le_trans k J) rfl
    ·refine zk (zr (zq 2 ?_));obtain⟨b6,f6,rfl,b9⟩:=b3.at_ (by intro h9;rw[h9]at g;exact absurd g.1 (by decide));refine cF [2] [(b5,1)] (iW 2 3 75 8 f.t.length u2 A.ok (λW r=>by rw[<-Og];exact View.range_of b9 r.view) (by rw[(MO (V:=U) f.t).flat_len,O1]) (MO (V:=U) f.t).one g.1 (λr7 c2=>?_));refine zq 1 (zn (zr (zq 2 (dH 14 ((x.i:Int)+1) (zq 1 (zn ?_))))));refine nx ⟨x.i+1,x.m+f.t.length,r7,(x.xs++((f.t.map λn=>(n,[Value.int .i64 n])).flatMap Prod.snd)),x.L++(f.t.map λn=>(n,[Value.int .i64 n])),V2⟩ ?_ ?_ (d:=λ_ h=>Mem.sub (N4 (M4 _ _) (N7 _)) (h.eqv (show _=((([(bK D (dO p (some ⟨F,G,none⟩) l.length c) 29)]:aH)++([(bK b5 [(Sl b6 f6 f.t.length u2),(I6 f.c),(I6 f.s.s),(St f.s.l),(N6 f.s.n),(N6 f.s.v),(.slice y2 f.p.length v2),(.slice z2 f.r.length w2)] 79)]:aH))++(r7.B 3 (x.xs++((f.t.map λn=>(n,[Value.int .i64 n])).flatMap Prod.snd))))from by kernel_rfl)))
     ·exact⟨by show x.i+1<=_;omega,by show x.m+f.t.length<=16*(x.i+1);omega,(View.le_trans k J),RwR.app k4 (MO _) (by rw[O1]) c2,by rw[P6,show(f.t.map λn=>(n,[Value.int .i64 n])).map Prod.fst=f.t by rw[List.map_map];exact List.map_id _,Ra j K B h3,u]⟩
     ·show l.length-(x.i+1)<l.length-x.i;omega
   ·refine lU (λW r=>gG C.d W r.view (by have:=Z C (K9 j);omega)) (λv8 V8 c0 O=>?_);have a1:=Q6.1 (by rw[h2];exact M3);rw[a1]at O;obtain rfl:=O;refine zq 3 (dB 1 (λa8=>?_));refine aX 1 a8 (zq 1 (zn (zs (zQ 7 (zn (dM (zQ 2 (zn (aA (aO [2,3] [S0,qF] (λW' r=>?_)))))))))));rw[Xv u j K (.inl a1)];exact aJ r (View.le_trans k c0) rfl
 ·refine aI (zs (zr ?_));have c4:=Qy (pre:=x.L.map Prod.fst) (z:=stF l) (by rw[<-u,cZ oW]);refine jN x.r x.xs 1 x.m [(bK D (dO p a l.length c) 29)] 3 kR A.ok (λa7 b2 c6 E X L=>?_);rw[L];have a6:=A.le E;have M:=(a6.done (by decide) X (View.le_refl _) (by unfold R47;omega)).ins;have c1:x.m=(x.L.map Prod.fst).length:=by rw[O1];exact a6.m
  refine zq 3 (zn (aA (aO [2,3] [(.slice a7 x.m b2),qT] (λW' r=>?_))));rw[c4];exact aJ r (View.le_trans k E) ⟨_,_,by rw[<-c1];rfl,M⟩
end Go.Proofs.YtkoamlfiijcecaaGreatDoor.Sx
