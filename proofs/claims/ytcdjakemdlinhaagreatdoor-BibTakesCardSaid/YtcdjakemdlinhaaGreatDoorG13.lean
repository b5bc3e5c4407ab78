/-
  Several texts in one: Rt2 Rs1 Rs2 Rh6 Rh7 Rs3 Rh8 Rh9 Rs4 Asv Bcb3.
  Conditions: named at each.
-/
import Derived.Test.YtcdjakemdlinhaaGreatDoorG12
set_option maxHeartbeats 16000000
set_option linter.unusedSimpArgs false
set_option linter.unusedVariables false
set_option linter.unusedSectionVars false
namespace Go.Proofs.YtcdjakemdlinhaaGreatDoor.Sx
open Go.ChangeShapes Go.WideShapes Go.ChangeAt Go.RowKit Go.Deep
def As.del(a:As)(k:Nat):As:=⟨a.t.eraseIdx k,a.c,a.s,a.p,a.r.eraseIdx k⟩
theorem aGk{α:Type}(l:List α)(k:Nat):(l.take (k+1)).eraseIdx k=(l.take k).eraseIdx k:=by
 rw[Ci,List.eraseIdx_of_length_le (l:=l.take k) (by rw[Bb];omega)];by_cases h:k<l.length
 ·rw[List.eraseIdx_append_of_length_le (by rw[Bb];omega),Bb,Ep oW,Dc,Aa h];simp
 ·rw[Fg oW];simp only[Option.toList_none,Aj];exact List.eraseIdx_of_length_le (by rw[Bb];omega)
theorem aKO{α:Type}{l:List α}{i k:Nat}{y:α}(a:l[i]? =some y)(h:i≠k):(l.take (i+1)).eraseIdx k=(l.take i).eraseIdx k++[y]:=by
 have c:=(Af.1 a).1;rw[Ci,a,Option.toList_some];by_cases d:k<i
 ·rw[List.eraseIdx_append_of_lt_length (by rw[Bb];omega)]
 ·rw[List.eraseIdx_append_of_length_le (by rw[Bb];omega),List.eraseIdx_of_length_le (l:=l.take i) (by rw[Bb];omega)];rw[Bb,Ep oW];congr 1;cases f:k-i with
  |zero=>omega
  |succ n=>rfl
structure Wp (α : Type) where
 i:Nat
 m:Nat
 r:Rw
 xs:List Value
 L:List (α×List Value)
 V:View
theorem aB8(a:As)(aT x aR:Option Addr)(cT A cR:Nat)(target:Int)(k:Nat)(w:World){U:View}(hU:See U w)(hA:aAK U aT x aR a)(hk:pJ target 0 a.t=(k:Int))(l0:a.t.length≤1000000∧a.r.length≤1000000):CP 56 #[asV a aT x aR cT A cR,.int .i64 target] w (fO w U (aRf (a.del k))):=by
 have c9:=hA.t;have e0:=hA.p;have e1:=hA.r;have j2:=hA.s;obtain⟨m3,m4⟩:=l0;refine dE 60 Tryz.func56 hU ?_;refine zs (zr (aW (fun G=>(aW (fun Z=>(zn (zB [1,0] [(G,8)] (cY 107 #[(asV a aT x aR cT A cR),(I6 target)] (I6 (k:Int)) (fun W hM=>hk▸aEy a _ _ _ _ _ _ target W hM.view ⟨c9,e0,e1,j2⟩) ?_))))))));refine zq 1 (zn (zB [0,1,0,1,0,1,0] [(G,1),(G,4),(G,1)] (aW (fun J=>(aX 2 J (zn (zs (zQ 1 (zn (aB (eY (α:=Wp Int) (fun f=>[2,4,5,6,7].zip [(Pt G 0),(Pt Z 0),(L6 k),(Pt J 0),(L6 f.i)]) (fun f=>f.V) (fun f=>([(bK G (tG a aT x aR cT A cR) 96),(Z,.cells Z8.toArray 96 (0,0)),(bK J [(f.r.V f.m),(I6 a.c),(I6 a.s.s),(St a.s.l),(N6 a.s.n),(N6 a.s.v),(.slice x a.p.length A),S0] 96)]++f.r.B 3 f.xs)) (fun f=>f.i≤a.t.length∧f.m≤f.i∧View.le U f.V∧RwR InR 1 f.V f.r f.xs f.m f.L∧f.L.map Prod.fst=(a.t.take f.i).eraseIdx k) (fun f=>a.t.length-f.i) ⟨0,0,Rw.nil,[],[],U⟩ ?_ ?_ (hm:=fun _ h=>h.eqv (Dn kR (Aj ([(bK G (tG a aT x aR cT A cR) 96),(Z,.cells Z8.toArray 96 (0,0)),(bK J [S0,(I6 a.c),(I6 a.s.s),(St a.s.l),(N6 a.s.n),(N6 a.s.v),(.slice x a.p.length A),S0] 96)]:aN)).symm)))))))))))))
 ·exact⟨Ap _,Bg _,View.le_refl _,RwR.nil,rfl⟩
 intro f l4;obtain⟨m5,m6,j,C,B⟩:=l4;refine zs (zB [0,0,1,0,0] [(G,1)] (zn (cE ((f.i:Int)<(a.t.length:Int)) (fun h0 k5=>?_) (fun h0 k5=>?_))))
 ·refine zk (zs (aB (zQ 3 (zn (jD (f.i:Int) (k:Int) (fun h1 k6=>?_) (fun h1 k6=>?_))))))
  ·obtain⟨y3,j3⟩:∃y,(a.t)[f.i]? =some y:=⟨(a.t)[f.i]'oW,Aa _⟩;obtain⟨b3,f3,rfl,l1⟩:=(c9.le j).one j3;refine mB 4 [0,5,0,3,0,1,1,1] [(J,1),(G,1)] [.val (Pt b3 (f3+f.i)),.val (I6 y3),.mem (fun v V=>∃g,v=(Sl g 0 1 1)∧jT V (some ⟨g,0,none⟩) [y3])] (by simp only[Bc];exact⟨trivial,trivial,by intro v V V2 I X;(first|trivial|exact mT.mono I X|exact PhiMono.go X I|(obtain⟨g,e,X⟩:=X;exact⟨g,e,X.le I⟩)),fun _ h=>by cases h⟩) ⟨?_,?_,?_,trivial⟩ ?_
   ·exact wR (fun u=>eQ _ 3 _ _ rfl b3 f3 a.t.length cT f.i .i64 kR kR (by first|assumption|omega) kR kR)
   ·exact wU1 b3 (f3+f.i) l1 3 _ _ Tryz.underlying3 rfl
   ·refine wN [35] (fun u=>[(I6 y3)]) fun u V hV l3=>?_
    refine⟨[(I6 y3)],3,fun r=>(Sl r 0 1 1),?_,fun g V' h4 hR=>?_⟩
    ·kernel_rfl
    exact⟨g,rfl,aDJ hR (show 1≤R47 by decide)⟩
   intro u4 V4 h5 h7;have k8:=C.le h5;have c8:=h7 7 rfl;obtain⟨m2,j6,j9⟩:=c8;refine qX 36 j6 ?_;obtain⟨b9,f9,e9,l2⟩:=j9.at_ (by simp);cases e9;refine lN 3 3 48 8 1 1 C.ok (fun W hM=>View.range_of l2 hM.view) rfl (Ao.1 kR) (by decide) (fun j7 b5=>?_);refine zq 1 ?_;refine aBa 2 J 0 (f.m+1) 1 j7 (f.xs++[.int .i64 y3]) b5 [(f.r.V f.m),(I6 a.c),(I6 a.s.s),(St a.s.l),(N6 a.s.n),(N6 a.s.v),(.slice x a.p.length A),S0] 96 48 _ _ rfl kR kR kR (fun a c=>by kernel_rfl) kR rfl kR ?_;refine zn (zr (zq 2 (eC 25 ((f.i:Int)+1) (zq 1 (zn ?_)))));refine nx ⟨f.i+1,f.m+1,j7,(f.xs++[.int .i64 y3]),f.L++[(y3,[.int .i64 y3])],V4⟩ ?_ ?_
   ·exact⟨by show f.i+1≤_;omega,by show f.m+1≤f.i+1;omega,(View.le_trans j h5),RwR.snoc k8 rfl b5,by rw[Br,B,aKO j3 (by have:=Cb.1 h1;omega)];rfl⟩
   ·show a.t.length-(f.i+1)<a.t.length-f.i;omega
  ·refine zk (zr (zq 2 (eC 25 ((f.i:Int)+1) (zq 1 (zn ?_)))));refine nx ⟨f.i+1,f.m,f.r,f.xs,f.L,f.V⟩ ?_ ?_
   ·exact⟨by show f.i+1≤_;omega,by show f.m≤f.i+1;omega,j,C,by have h9:=Bq.1 h1;rw[B,show f.i=k by omega,aGk]⟩
   ·show a.t.length-(f.i+1)<a.t.length-f.i;omega
 ·refine aK (zs (zs (zr ?_)));refine lA f.r f.xs 1 f.m [(bK G (tG a aT x aR cT A cR) 96),(Z,.cells Z8.toArray 96 (0,0)),(bK J [(f.r.V f.m),(I6 a.c),(I6 a.s.s),(St a.s.l),(N6 a.s.n),(N6 a.s.v),(.slice x a.p.length A),S0] 96)] 3 kR C.ok (fun M N c7 K e4 e2=>?_);rw[e2];have l6:=(e0.le j).le K;have l7:=(e1.le j).le K;have j4:=C.le K;have a7:=(j4.done (by decide) e4 (View.le_refl _) (by unfold R47;omega)).ins;rw[Bf oW]at B;rw[B]at a7;have h8:f.m=(a.t.eraseIdx k).length:=by rw[←B,Az];exact j4.m
  rw[h8];refine zq 1 (zn (aB (eY (α:=Wp (List Pa)) (fun d=>[2,4,5,6,8].zip [(Pt G 0),(Pt Z 0),(L6 k),(Pt J 0),(L6 d.i)]) (fun d=>d.V) (fun d=>([(bK G (tG a aT x aR cT A cR) 96),(Z,.cells Z8.toArray 96 (0,0)),(bK J [(.slice M (a.t.eraseIdx k).length N),(I6 a.c),(I6 a.s.s),(St a.s.l),(N6 a.s.n),(N6 a.s.v),(.slice x a.p.length A),(d.r.V d.m)] 96)]++d.r.B 93 d.xs)) (fun d=>d.i≤a.r.length∧d.m≤d.i∧View.le c7 d.V∧RwR RlR 1 d.V d.r d.xs d.m d.L∧d.L.map Prod.fst=(a.r.take d.i).eraseIdx k) (fun d=>a.r.length-d.i) ⟨0,0,Rw.nil,[],[],c7⟩ ?_ ?_ (hm:=fun _ h=>h.eqv (Dn kR (Aj ([(bK G (tG a aT x aR cT A cR) 96),(Z,.cells Z8.toArray 96 (0,0)),(bK J [(.slice M (a.t.eraseIdx k).length N),(I6 a.c),(I6 a.s.s),(St a.s.l),(N6 a.s.n),(N6 a.s.v),(.slice x a.p.length A),S0] 96)]:aN)).symm)))))
  ·exact⟨Ap _,Bg _,View.le_refl _,RwR.nil,rfl⟩
  intro d l5;obtain⟨m7,m8,q,E,D⟩:=l5;refine zs (zB [0,0,1,0,0] [(G,1)] (zn (cE ((d.i:Int)<(a.r.length:Int)) (fun h2 k7=>?_) (fun h2 k7=>?_))))
  ·refine zk (zs (aB (zQ 3 (zn (jD (d.i:Int) (k:Int) (fun h3 k9=>?_) (fun h3 k9=>?_))))))
   ·obtain⟨F,b7⟩:∃y,(a.r)[d.i]? =some y:=⟨(a.r)[d.i]'oW,Aa _⟩;obtain⟨b8,c1,m1,rfl,e7,e5⟩:=(l7.le q).at_ d.i F b7;obtain⟨a1,a6,rfl,j1⟩:=e5;have h6:=View.range1 e7;refine mB 4 [0,5,0,3,0,1,1,1] [(J,1),(G,1)] [.val (Pt b8 (c1+d.i)),.val (.slice a1 F.length a6),.mem (fun v V=>∃g,v=(Sl g 0 1 1)∧gF RlR 1 V (some ⟨g,0,none⟩) [F])] (by simp only[Bc];exact⟨trivial,trivial,by intro v V V2 I X;(first|trivial|exact mT.mono I X|exact PhiMono.go X I|(obtain⟨g,e,X⟩:=X;exact⟨g,e,X.le I⟩)),fun _ h=>by cases h⟩) ⟨?_,?_,?_,trivial⟩ ?_
    ·exact wR (fun u=>eQ _ 93 _ _ rfl b8 c1 a.r.length cR d.i .i64 kR kR (by first|assumption|omega) kR kR)
    ·exact wU1 b8 (c1+d.i) h6 93 _ _ Tryz.underlying93 rfl
    ·refine wN [55] (fun u=>[(.slice a1 F.length a6)]) fun u V hV l3=>?_
     refine⟨[(.slice a1 F.length a6)],93,fun r=>(Sl r 0 1 1),?_,fun g V' h4 hR=>?_⟩
     ·kernel_rfl
     exact⟨g,rfl,gF.lit [(F,[(.slice a1 F.length a6)])] hR ⟨⟨_,_,rfl,(j1.le hV).le h4⟩,trivial⟩ (show 1≤R47 by decide)⟩
    intro n2 k0 b4 c2;have l8:=E.le b4;have c0:=c2 7 rfl;obtain⟨k4,c4,c6⟩:=c0;refine qX 56 c4 ?_;obtain⟨n0,n1,O,k3,e8,Y⟩:=c6.at_ 0 _ rfl;cases k3;refine lN 3 93 94 24 1 1 E.ok (fun W hM=>View.range_of e8 hM.view) (RecOk.len Y) (RecOk.one Y) (by decide) (fun j8 b6=>?_);refine zq 1 ?_;refine aBa 2 J 7 (d.m+1) 1 j8 (d.xs++O) b6 [(.slice M (a.t.eraseIdx k).length N),(I6 a.c),(I6 a.s.s),(St a.s.l),(N6 a.s.n),(N6 a.s.v),(.slice x a.p.length A),(d.r.V d.m)] 96 94 _ _ rfl kR kR kR (fun a c=>by kernel_rfl) kR rfl kR ?_;refine zn (zr (zq 2 (eC 45 ((d.i:Int)+1) (zq 1 (zn ?_)))));refine nx ⟨d.i+1,d.m+1,j8,(d.xs++O),d.L++[(F,O)],k0⟩ ?_ ?_
    ·exact⟨by show d.i+1≤_;omega,by show d.m+1≤d.i+1;omega,(View.le_trans q b4),RwR.snoc l8 Y b6,by rw[Br,D,aKO b7 (by have:=Cb.1 h3;omega)];rfl⟩
    ·show a.r.length-(d.i+1)<a.r.length-d.i;omega
   ·refine zk (zr (zq 2 (eC 45 ((d.i:Int)+1) (zq 1 (zn ?_)))));refine nx ⟨d.i+1,d.m,d.r,d.xs,d.L,d.V⟩ ?_ ?_
    ·exact⟨by show d.i+1≤_;omega,by show d.m≤d.i+1;omega,q,E,by have h9:=Bq.1 h3;rw[D,show d.i=k by omega,aGk]⟩
    ·show a.r.length-(d.i+1)<a.r.length-d.i;omega
  ·refine aK (zs (zr ?_));refine lA d.r d.xs 1 d.m [(bK G (tG a aT x aR cT A cR) 96),(Z,.cells Z8.toArray 96 (0,0)),(bK J [(.slice M (a.t.eraseIdx k).length N),(I6 a.c),(I6 a.s.s),(St a.s.l),(N6 a.s.n),(N6 a.s.v),(.slice x a.p.length A),(d.r.V d.m)] 96)] 93 kR E.ok (fun k1 k2 m9 L e6 e3=>?_);rw[e3];have l9:=(l6.le q).le L;have m0:=(a7.le q).le L;have j5:=E.le L;have a8:=(j5.done (by decide) e6 (View.le_refl _) (by unfold R47;omega));rw[Bf oW]at D;rw[D]at a8;have j0:d.m=(a.r.eraseIdx k).length:=by rw[←D,Az];exact j5.m
   rw[j0];refine cG [3] [(J,8)] (aX 1 Z (zn (aA (dL [2] [(Z,8)] [(.agg #[(.slice M (a.t.eraseIdx k).length N),(I6 a.c),(I6 a.s.s),(St a.s.l),(N6 a.s.n),(N6 a.s.v),(.slice x a.p.length A),(.slice k1 (a.r.eraseIdx k).length k2)])] (fun W' hM=>?_)))));exact aH hM (View.le_trans (View.le_trans (View.le_trans j K) q) L) ⟨_,_,_,_,_,_,rfl,m0,l9,a8,j2⟩
def IsU(v:Value)(_:View):Prop:=∃m:Int,v=.int .u64 m
def IsB(n:Nat)(v:Value)(_:View):Prop:=∃l:List UInt8,v=.string (B l)∧l.length=n
theorem aEn(n:Int)(k:Nat)(h:k≤1000)(w:World){U:View}(f:See U w):CP 235 #[.int .u64 n,.int .i64 (k:Int)] w (fO w U IsU):=by
 refine dE 20 Tryz.func235 f ?_;refine zQ 1 (zn (zQ 1 (zn (zs (zQ 1 (zn (aB (eY (α:=Int×Int×Nat) (fun x=>[0,1,4,5,6].zip [(U6 x.2.1),(L6 k),(U6 0),(U6 x.1),(L6 x.2.2)]) (fun x=>U) (fun x=>[]) (fun x=>x.2.2≤k) (fun x=>k-x.2.2) (0,n,0) ?_ ?_))))))))
 ·exact Ap _
 intro x j;refine zs (zQ 3 (zn (cE ((x.2.2:Int)<(k:Int)) (fun a c=>?_) (fun a _=>?_))))
 ·refine zk (zs (aB (zQ 6 (zn (zr (zq 3 (zn (zr (zq 2 (eC 11 ((x.2.2:Int)+1) (zq 1 (zn ?_))))))))))));refine nx ((IntKind.u64.wrap ((IntKind.u64.wrap (x.1*2))+((x.2.1).tmod 2))),(IntKind.u64.wrap ((x.2.1).tdiv 2)),x.2.2+1) ?_ ?_
  ·show x.2.2+1≤k;omega
  ·show k-(x.2.2+1)<k-x.2.2;omega
 ·refine aK (zQ 2 (zn (aA (aO [4] [(U6 x.1)] (fun g d=>?_)))));exact aH d (View.le_refl _) ⟨_,rfl⟩
theorem aQU{i:Nat}(h:i<17):∃v:Int,([(.int .i64 28),(.int .i64 27),(.int .i64 26),(.int .i64 25),(.int .i64 23),(.int .i64 22),(.int .i64 20),(.int .i64 19),(.int .i64 18),(.int .i64 14),(.int .i64 13),(.int .i64 11),(.int .i64 10),(.int .i64 9),(.int .i64 8),(.int .i64 6),(.int .i64 0)]:List Value)[i]? =some (.int .i64 v)∧v≤28:=by
 rcases(by omega:i=0∨i=1∨i=2∨i=3∨i=4∨i=5∨i=6∨i=7∨i=8∨i=9∨i=10∨i=11∨i=12∨i=13∨i=14∨i=15∨i=16)with rfl|rfl|rfl|rfl|rfl|rfl|rfl|rfl|rfl|rfl|rfl|rfl|rfl|rfl|rfl|rfl|rfl<;>exact⟨_,rfl,by decide⟩
theorem aHZ(w:World){U:View}(c:See U w):CP 234 #[.int .i64 16] w (fO w U IsU):=by
 refine dE 28 Tryz.func234 c ?_;refine zQ 1 (zn (zs (zQ 2 (zn (dP (zQ 1 (zn (aA (aO [2] [(U6 4129)] (fun d a=>?_))))))))));exact aH a (View.le_refl _) ⟨_,rfl⟩
theorem aHY(w:World){U:View}(A:See U w):CP 234 #[.int .i64 32] w (fO w U IsU):=by
 refine dE 28 Tryz.func234 A ?_;refine zQ 1 (zn (zs (zQ 2 (zn (dD (zk (zQ 1 (zn (zQ 1 (aW (fun a=>(aX 0 a (zn (zs (zs (zr ?_))))))))))))))));refine gG [] [] a [(I6 28),(I6 27),(I6 26),(I6 25),(I6 23),(I6 22),(I6 20),(I6 19),(I6 18),(I6 14),(I6 13),(I6 11),(I6 10),(I6 9),(I6 8),(I6 6),(I6 0)] 314 kR (fun h f d=>?_);refine zq 1 (zn (aB (eY (α:=Int×Nat) (fun x=>[2,3,4,5].zip [(U6 0),(U6 x.1),(Pt a 0),(L6 x.2)]) (fun x=>h) (fun x=>[]) (fun x=>x.2≤17) (fun x=>17-x.2) (0,0) ?_ ?_)))
 ·exact Ap _
 intro x D;refine zs (zQ 2 (zn (cE ((x.2:Int)<17) (fun k q=>?_) (fun k _=>?_))))
 ·refine zk (zs (aB (zQ 1 (zn (zs (zQ 1 (zn (aB (eY (α:=Int×Nat) (fun y=>[2,3,4,5,6,7,11,12].zip [(U6 0),(U6 x.1),(Pt a 0),(L6 x.2),(U6 y.1),(L6 y.2),(L6 x.2),(.bool (decide ((x.2:Int)<17)))]) (fun y=>h) (fun y=>[]) (fun y=>y.2≤28) (fun y=>28-y.2) (1,0) ?_ ?_)))))))))
  ·exact Ap _
  intro y E;refine zs (zQ 2 (cD (Pt a (0+x.2*1)) (gX _ 3 _ _ rfl a 0 17 x.2 1 .i64 kR kR (by first|assumption|omega) kR kR) ?_));obtain⟨j,g,B⟩:=aQU (i:=x.2) oW;refine zV a (0+x.2*1) (I6 j) (by rw[Nat.mul_one];exact d x.2 _ g) 3 (.tmp 17) _ Tryz.underlying3 rfl ?_;refine zq 1 (zn (cE ((y.2:Int)<j) (fun r c=>?_) (fun r c=>?_)))
  ·refine zk (zs (aB (zr (zq 3 (zn (zr (zq 2 (eC 21 ((y.2:Int)+1) (zq 1 (zn ?_))))))))));refine nx ((IntKind.u64.wrap (y.1*2)),y.2+1) ?_ ?_
   ·show y.2+1≤28;omega
   ·show 28-(y.2+1)<28-y.2;omega
  ·refine aK (zr (zq 4 (zn (zr (zq 2 (eC 14 ((x.2:Int)+1) (zq 1 (zn ?_))))))));refine nx ((IntKind.u64.wrap (x.1+y.1)),x.2+1) ?_ ?_
   ·show x.2+1≤17;omega
   ·show 17-(x.2+1)<17-x.2;omega
 ·refine aK (zQ 2 (zn (aA (aO [2] [(U6 x.1)] (fun C u=>?_)))));exact aH u f ⟨_,rfl⟩
theorem aPH{x:Nat}(h:x<32):IntKind.u64.wrap (((2^x:Nat):Int)*2)=((2^(x+1):Nat):Int):=by
 have c:2^(x+1)≤2^32:=Dr (by decide) oW;have d:(2:Nat)^32=4294967296:=by decide
 have a:2^(x+1)=2^x*2:=Fs ..;rw[u64_in oW oW,a];omega
theorem aHS(b:List UInt8)(L:b.length≤R47)(w:World){U:View}(K:See U w):CP 204 #[.int .i64 16,.string (B b)] w (fO w U IsU):=by
 unfold R47 at L;refine dE 64 Tryz.func204 K ?_;refine zQ 1 (zn (zQ 1 (zn (zs (zQ 1 (zn (aB (eY (α:=Nat) (fun x=>[0,1,4,5,6].zip [(I6 16),(St b),(U6 0),(N6 (2^x:Nat)),(L6 x)]) (fun x=>U) (fun x=>[]) (fun x=>x≤16) (fun x=>16-x) 0 ?_ ?_))))))))
 ·exact Ap _
 intro x X;refine zs (zQ 3 (zn (cE ((x:Int)<16) (fun E d=>?_) (fun E d=>?_))))
 ·refine zk (zs (aB (zr (zq 2 (dS 20 (U6 (IntKind.u64.wrap (((2^x:Nat):Int)*2))) (N6 (2^(x+1):Nat)) (Ag (Value.int .u64) (aPH oW)) ?_)))));refine zq 1 (zn (zr (zq 2 (eC 18 ((x:Int)+1) (zq 1 (zn ?_))))));refine nx (x+1) ?_ ?_
  ·show x+1≤16;omega
  ·show 16-(x+1)<16-x;omega
 ·refine aK (zs (zr ?_));obtain rfl:x=16:=by omega
  refine zq 3 (zn (zQ 1 (pO (fun W c=>aHZ W c.view) (fun v0 C q j=>?_))));obtain⟨A,rfl⟩:=j;refine zq 1 (zn (zs (zQ 1 (zn (aB (eY (α:=Int×Nat) (fun g=>[0,1,4,5,7,8,9].zip [(I6 16),(St b),(U6 0),(U6 65536),(U6 g.1),(U6 A),(L6 g.2)]) (fun g=>C) (fun g=>[]) (fun g=>g.2≤b.length) (fun g=>b.length-g.2) (65535,0) ?_ ?_))))))
  ·exact Ap _
  intro g V;refine zs (zQ 4 (zn (cE ((g.2:Int)<(((b).length:Nat):Int)) (fun F G=>?_) (fun F _=>?_))))
  ·refine zk (zs (aB (zQ 2 ?_)));obtain⟨a,u⟩:∃y,(b)[g.2]? =some y:=⟨_,Aa (by first|assumption|omega)⟩;have D:=a.toNat_lt;refine cD (.int .u8 (a.toNat:Int)) (qZ 9 _ _ rfl b g.2 .i64 a kR kR u Tryz.underlying9) ?_;refine zq 1 (eC 34 (a.toNat:Int) (zq 1 (zn (zQ 1 (zn (aB (eY (α:=Int×Int×Nat) (fun z=>[0,1,4,5,7,8,9,10,11,25,26,27,28,31,32,33,34].zip [(I6 16),(St b),(U6 0),(U6 65536),(U6 z.1),(U6 A),(L6 g.2),(I6 z.2.1),(L6 z.2.2),(L6 g.2),(St b),(L6 ((b).length)),(.bool (decide ((g.2:Int)<(((b).length:Nat):Int)))),(St b),(L6 g.2),(.int .u8 (a.toNat:Int)),(L6 a.toNat)]) (fun z=>C) (fun z=>[]) (fun z=>z.2.2≤8) (fun z=>8-z.2.2) (g.1,(a.toNat:Int),0) ?_ ?_)))))))
   ·exact Ap _
   intro z Y;refine zs (zQ 2 (zn (cE ((z.2.2:Int)<8) (fun I f=>?_) (fun I f=>?_))))
   ·refine zk (zs (aB (zQ 4 (zn (zQ 3 (zn (zQ 5 (zn (zQ 5 (zn (zQ 3 (zn (jD (IntKind.u64.wrap ((z.1).tdiv 32768)) (IntKind.u64.wrap ((z.2.1).tmod 2)) (fun J h=>?_) (fun J h=>?_))))))))))))))
    ·refine zr (zq 4 (zn (zr (zq 2 (eC 38 ((z.2.2:Int)+1) (zq 1 (zn ?_)))))));refine nx ((aIU .u64 (((IntKind.u64.wrap (z.1*2))).tmod 65536) A),(IntKind.i64.wrap ((z.2.1).tdiv 2)),z.2.2+1) ?_ ?_
     ·show z.2.2+1≤8;omega
     ·show 8-(z.2.2+1)<8-z.2.2;omega
    ·refine zk (zr (zq 2 (eC 38 ((z.2.2:Int)+1) (zq 1 (zn ?_)))));refine nx ((((IntKind.u64.wrap (z.1*2))).tmod 65536),(IntKind.i64.wrap ((z.2.1).tdiv 2)),z.2.2+1) ?_ ?_
     ·show z.2.2+1≤8;omega
     ·show 8-(z.2.2+1)<8-z.2.2;omega
   ·refine aK (zr (zq 2 (eC 30 ((g.2:Int)+1) (zq 1 (zn ?_)))));refine nx (z.1,g.2+1) ?_ ?_
    ·show g.2+1≤b.length;omega
    ·show b.length-(g.2+1)<b.length-g.2;omega
  ·refine aK (zQ 5 (pO (fun W c=>aEn (IntKind.u64.wrap (65535-g.1)) 16 (by decide) W c.view) (fun Z N r k=>?_)));obtain⟨M,rfl⟩:=k;refine zq 1 (zn (aA (aO [4] [(U6 M)] (fun O c=>?_))));exact aH c (View.le_trans q r) ⟨_,rfl⟩
theorem aHR(b:List UInt8)(L:b.length≤R47)(w:World){U:View}(K:See U w):CP 204 #[.int .i64 32,.string (B b)] w (fO w U IsU):=by
 unfold R47 at L;refine dE 64 Tryz.func204 K ?_;refine zQ 1 (zn (zQ 1 (zn (zs (zQ 1 (zn (aB (eY (α:=Nat) (fun x=>[0,1,4,5,6].zip [(I6 32),(St b),(U6 0),(N6 (2^x:Nat)),(L6 x)]) (fun x=>U) (fun x=>[]) (fun x=>x≤32) (fun x=>32-x) 0 ?_ ?_))))))))
 ·exact Ap _
 intro x X;refine zs (zQ 3 (zn (cE ((x:Int)<32) (fun E d=>?_) (fun E d=>?_))))
 ·refine zk (zs (aB (zr (zq 2 (dS 20 (U6 (IntKind.u64.wrap (((2^x:Nat):Int)*2))) (N6 (2^(x+1):Nat)) (Ag (Value.int .u64) (aPH oW)) ?_)))));refine zq 1 (zn (zr (zq 2 (eC 18 ((x:Int)+1) (zq 1 (zn ?_))))));refine nx (x+1) ?_ ?_
  ·show x+1≤32;omega
  ·show 32-(x+1)<32-x;omega
 ·refine aK (zs (zr ?_));obtain rfl:x=32:=by omega
  refine zq 3 (zn (zQ 1 (pO (fun W c=>aHY W c.view) (fun v0 C q j=>?_))));obtain⟨A,rfl⟩:=j;refine zq 1 (zn (zs (zQ 1 (zn (aB (eY (α:=Int×Nat) (fun g=>[0,1,4,5,7,8,9].zip [(I6 32),(St b),(U6 0),(U6 4294967296),(U6 g.1),(U6 A),(L6 g.2)]) (fun g=>C) (fun g=>[]) (fun g=>g.2≤b.length) (fun g=>b.length-g.2) (4294967295,0) ?_ ?_))))))
  ·exact Ap _
  intro g V;refine zs (zQ 4 (zn (cE ((g.2:Int)<(((b).length:Nat):Int)) (fun F G=>?_) (fun F _=>?_))))
  ·refine zk (zs (aB (zQ 2 ?_)));obtain⟨a,u⟩:∃y,(b)[g.2]? =some y:=⟨_,Aa (by first|assumption|omega)⟩;have D:=a.toNat_lt;refine cD (.int .u8 (a.toNat:Int)) (qZ 9 _ _ rfl b g.2 .i64 a kR kR u Tryz.underlying9) ?_;refine zq 1 (eC 34 (a.toNat:Int) (zq 1 (zn (zQ 1 (zn (aB (eY (α:=Int×Int×Nat) (fun z=>[0,1,4,5,7,8,9,10,11,25,26,27,28,31,32,33,34].zip [(I6 32),(St b),(U6 0),(U6 4294967296),(U6 z.1),(U6 A),(L6 g.2),(I6 z.2.1),(L6 z.2.2),(L6 g.2),(St b),(L6 ((b).length)),(.bool (decide ((g.2:Int)<(((b).length:Nat):Int)))),(St b),(L6 g.2),(.int .u8 (a.toNat:Int)),(L6 a.toNat)]) (fun z=>C) (fun z=>[]) (fun z=>z.2.2≤8) (fun z=>8-z.2.2) (g.1,(a.toNat:Int),0) ?_ ?_)))))))
   ·exact Ap _
   intro z Y;refine zs (zQ 2 (zn (cE ((z.2.2:Int)<8) (fun I f=>?_) (fun I f=>?_))))
   ·refine zk (zs (aB (zQ 4 (zn (zQ 3 (zn (zQ 5 (zn (zQ 5 (zn (zQ 3 (zn (jD (IntKind.u64.wrap ((z.1).tdiv 2147483648)) (IntKind.u64.wrap ((z.2.1).tmod 2)) (fun J h=>?_) (fun J h=>?_))))))))))))))
    ·refine zr (zq 4 (zn (zr (zq 2 (eC 38 ((z.2.2:Int)+1) (zq 1 (zn ?_)))))));refine nx ((aIU .u64 (((IntKind.u64.wrap (z.1*2))).tmod 4294967296) A),(IntKind.i64.wrap ((z.2.1).tdiv 2)),z.2.2+1) ?_ ?_
     ·show z.2.2+1≤8;omega
     ·show 8-(z.2.2+1)<8-z.2.2;omega
    ·refine zk (zr (zq 2 (eC 38 ((z.2.2:Int)+1) (zq 1 (zn ?_)))));refine nx ((((IntKind.u64.wrap (z.1*2))).tmod 4294967296),(IntKind.i64.wrap ((z.2.1).tdiv 2)),z.2.2+1) ?_ ?_
     ·show z.2.2+1≤8;omega
     ·show 8-(z.2.2+1)<8-z.2.2;omega
   ·refine aK (zr (zq 2 (eC 30 ((g.2:Int)+1) (zq 1 (zn ?_)))));refine nx (z.1,g.2+1) ?_ ?_
    ·show g.2+1≤b.length;omega
    ·show b.length-(g.2+1)<b.length-g.2;omega
  ·refine aK (zQ 5 (pO (fun W c=>aEn (IntKind.u64.wrap (4294967295-g.1)) 32 (by decide) W c.view) (fun Z N r k=>?_)));obtain⟨M,rfl⟩:=k;refine zq 1 (zn (aA (aO [4] [(U6 M)] (fun O c=>?_))));exact aH c (View.le_trans q r) ⟨_,rfl⟩
theorem aEt(b:List UInt8)(j:b.length≤R47)(w:World){U:View}(h:See U w):CP 159 #[.int .i64 1,.string (B b)] w (fO w U (IsB 2)):=by
 refine dE 39 Tryz.func159 h ?_;refine zQ 1 (zn (zs (zQ 2 (zn (dP (zQ 1 (pO (fun W a=>aHS b j W a.view) (fun v0 k d c=>?_))))))));obtain⟨f,rfl⟩:=c;refine zq 1 (zn (zQ 6 (aW (fun g=>(cG [1,0] [(g,2)] (zn (aA (aO [4] [(St [UInt8.ofNat ((IntKind.u8.wrap (IntKind.u64.wrap ((f).tdiv 256))):Int).toNat,UInt8.ofNat ((IntKind.u8.wrap ((f).tmod 256)):Int).toNat])] (fun q a=>?_)))))))));exact aH a d ⟨_,rfl,rfl⟩
theorem aEs(b:List UInt8)(j:b.length≤R47)(w:World){U:View}(h:See U w):CP 159 #[.int .i64 2,.string (B b)] w (fO w U (IsB 4)):=by
 refine dE 39 Tryz.func159 h ?_;refine zQ 1 (zn (zs (zQ 2 (zn (dD (zk (zs (zQ 2 (zn (dP (zQ 1 (pO (fun W c=>aHR b j W c.view) (fun v0 k f d=>?_)))))))))))));obtain⟨a,rfl⟩:=d;refine zq 1 (zn (zQ 14 (aW (fun g=>(cG [1,0] [(g,4)] (zn (aA (aO [4] [(St [UInt8.ofNat ((IntKind.u8.wrap (IntKind.u64.wrap ((a).tdiv 16777216))):Int).toNat,UInt8.ofNat ((IntKind.u8.wrap (((IntKind.u64.wrap ((a).tdiv 65536))).tmod 256)):Int).toNat,UInt8.ofNat ((IntKind.u8.wrap (((IntKind.u64.wrap ((a).tdiv 256))).tmod 256)):Int).toNat,UInt8.ofNat ((IntKind.u8.wrap ((a).tmod 256)):Int).toNat])] (fun q c=>?_)))))))));exact aH c f ⟨_,rfl,rfl⟩
theorem aEx(l:List Itm.Tr):Itm.aG (Itm.dA l)=Itm.aE 4 l.length++Itm.aY l:=Itm.iD l
theorem aEv(l:List UInt8):Itm.aG (eE l)=Itm.aE 2 l.length++l:=Itm.oM l
theorem aEw(n:Nat):Itm.aG (Itm.cA n)=Itm.aE 0 n:=Itm.lZ n
theorem aGE{k:Int}{l:List Itm.Tr}(a:0≤k)(c:k≤2):((aLs k l).length:Int)=2*k:=pD _ a c
def rbB(t n:Int)(f:Nat)(d:List UInt8)(sm:List UInt8)(c:Nat):List UInt8:=(((((Itm.aE 4 (if c=0 then 5 else 6)++Itm.aE 0 t.toNat)++Itm.aE 0 n.toNat)++Itm.aE 0 f)++Itm.aE 0 c)++(Itm.aE 2 d.length++d))++(if c=0 then[]else Itm.aE 2 sm.length++sm)
theorem rJ(t n:Int)(f:Nat)(d:List UInt8)(h:List UInt8)(c:Nat)(K:c≤2)(I:h.length≤4)(J:0≤t∧t≤65535)(G:0≤n∧n≤65535)(q:f<W64)(L:d.length≤4000)(w:World):CP 162 #[.agg #[.int .u64 (t.toNat:Int),.int .u64 (n.toNat:Int),.int .u64 (f:Int),.int .u64 (c:Int)],.string (B d),.string (B h)] w (Ret (.string (B (rbB t n f d h c))) w):=by
 have w1:IntKind.u64.wrap t=(t.toNat:Int):=idU J;have w2:IntKind.u64.wrap n=(n.toNat:Int):=idU G;have N:=Itm.aD 0 t.toNat;have O:=Itm.aD 0 n.toNat;have V:=Itm.aD 0 f;have X:=Itm.aD 2 d.length;have Z:=Itm.aD 0 c;have l7:=Itm.aD 2 h.length;refine dI 41 Tryz.func162 ?_;refine zs (zr (aW (fun g=>(zq 1 (zn (zQ 1 (zn ?_)))))));refine dH (α:=Nat) (fun a=>[1,2,3,6,7].zip [(St d),(St h),(Pt g 0),(St []),(N6 (a:Nat))]) (fun a=>View.no) (fun a=>[(bK g [(N6 t.toNat),(N6 n.toNat),(N6 f),(N6 c)] 226)]) (fun a=>a=if c=0 then 5 else 6) ?_ ?_
 ·refine zs (zr (cD (Pt g 3) (gX _ 22 _ _ rfl g 0 4 3 1 .i64 kR kR (by first|assumption|omega) kR kR) ?_));refine cG [1,0,0] [(g,1)] (oT 13 (c:Int) 1 (fun C r=>?_) (fun C r=>?_))
  ·refine zq 4 (zn (dP (zr (zq 1 (zn ?_)))));refine jn 6 ?_
   (split<;>omega)
  ·refine cD (Pt g 3) (gX _ 22 _ _ rfl g 0 4 3 1 .i64 kR kR (by first|assumption|omega) kR kR) ?_;refine cG [1,0,0] [(g,1)] (zn (fQ (c:Int) 2 (fun D u=>?_) (fun D u=>?_)))
   ·refine zr (zq 1 (zn ?_));refine jn 6 ?_
    (split<;>omega)
   ·refine zk ?_;refine jn 5 ?_
    (split<;>omega)
 intro a k;have Y:=Itm.aD 4 a;have k:a≤6:=by rw[k];split<;>omega
 have F:(c=0∧a=5)∨(c≠0∧a=6):=by rw[‹a=_›];split<;>omega
 refine zQ 1 (dK (fun W j=>dB 4 a W (by decide) (by first|exact q|(unfold W64;omega))) (zq 1 (zn (zs (zQ 1 (zn (aB (eY (α:=Nat) (fun x=>match x with|0=>[1,2,3,6,7,8,9].zip [(St d),(St h),(Pt g 0),(St []),(N6 (a:Nat)),(St (Itm.aE 4 a)),(I6 0)]|1=>[1,2,3,6,7,8,9].zip [(St d),(St h),(Pt g 0),(St []),(N6 (a:Nat)),(St ((Itm.aE 4 a)++(Itm.aE 0 t.toNat))),(I6 1)]|2=>[1,2,3,6,7,8,9].zip [(St d),(St h),(Pt g 0),(St []),(N6 (a:Nat)),(St (((Itm.aE 4 a)++(Itm.aE 0 t.toNat))++(Itm.aE 0 n.toNat))),(I6 2)]|3=>[1,2,3,6,7,8,9].zip [(St d),(St h),(Pt g 0),(St []),(N6 (a:Nat)),(St ((((Itm.aE 4 a)++(Itm.aE 0 t.toNat))++(Itm.aE 0 n.toNat))++(Itm.aE 0 f))),(I6 3)]|_=>[1,2,3,6,7,8,9].zip [(St d),(St h),(Pt g 0),(St []),(N6 (a:Nat)),(St (((((Itm.aE 4 a)++(Itm.aE 0 t.toNat))++(Itm.aE 0 n.toNat))++(Itm.aE 0 f))++(Itm.aE 0 c))),(I6 4)]) (fun _=>View.no) (fun x=>[(bK g [(N6 t.toNat),(N6 n.toNat),(N6 f),(N6 c)] 226)]) (fun x=>x≤4) (fun x=>4-x) 0 oW ?_))))))));rintro x M;rcases(by omega:x=0∨x=1∨x=2∨x=3∨x=4)with rfl|rfl|rfl|rfl|rfl
 ·refine zs (zQ 2 (zn (dP (zk (zs (aB (zr (zq 2 (cD (Pt g 0) (gX _ 22 _ _ rfl g 0 4 0 1 .i64 kR kR (by first|assumption|omega) kR kR) ?_)))))))));refine cG [1] [(g,1)] (dK (fun W j=>dB 0 t.toNat W (by decide) (by first|exact q|(unfold W64;omega))) (cD (St ((Itm.aE 4 a)++(Itm.aE 0 t.toNat))) (cB _ _ _ _ rfl (Itm.aE 4 a) (Itm.aE 0 t.toNat) kR kR oA) ?_));refine zq 1 (zn (zr (zq 3 (zn ?_))));refine nx 1 oW (by show 4-1<4-0;omega)
 ·refine zs (zQ 2 (zn (dP (zk (zs (aB (zr (zq 2 (cD (Pt g 1) (gX _ 22 _ _ rfl g 0 4 1 1 .i64 kR kR (by first|assumption|omega) kR kR) ?_)))))))));refine cG [1] [(g,1)] (dK (fun W j=>dB 0 n.toNat W (by decide) (by first|exact q|(unfold W64;omega))) (cD (St (((Itm.aE 4 a)++(Itm.aE 0 t.toNat))++(Itm.aE 0 n.toNat))) (cB _ _ _ _ rfl ((Itm.aE 4 a)++(Itm.aE 0 t.toNat)) (Itm.aE 0 n.toNat) kR kR oA) ?_));refine zq 1 (zn (zr (zq 3 (zn ?_))));refine nx 2 oW (by show 4-2<4-1;omega)
 ·refine zs (zQ 2 (zn (dP (zk (zs (aB (zr (zq 2 (cD (Pt g 2) (gX _ 22 _ _ rfl g 0 4 2 1 .i64 kR kR (by first|assumption|omega) kR kR) ?_)))))))));refine cG [1] [(g,1)] (dK (fun W j=>dB 0 f W (by decide) (by first|exact q|(unfold W64;omega))) (cD (St ((((Itm.aE 4 a)++(Itm.aE 0 t.toNat))++(Itm.aE 0 n.toNat))++(Itm.aE 0 f))) (cB _ _ _ _ rfl (((Itm.aE 4 a)++(Itm.aE 0 t.toNat))++(Itm.aE 0 n.toNat)) (Itm.aE 0 f) kR kR oA) ?_));refine zq 1 (zn (zr (zq 3 (zn ?_))));refine nx 3 oW (by show 4-3<4-2;omega)
 ·refine zs (zQ 2 (zn (dP (zk (zs (aB (zr (zq 2 (cD (Pt g 3) (gX _ 22 _ _ rfl g 0 4 3 1 .i64 kR kR (by first|assumption|omega) kR kR) ?_)))))))));refine cG [1] [(g,1)] (dK (fun W j=>dB 0 c W (by decide) (by first|exact q|(unfold W64;omega))) (cD (St (((((Itm.aE 4 a)++(Itm.aE 0 t.toNat))++(Itm.aE 0 n.toNat))++(Itm.aE 0 f))++(Itm.aE 0 c))) (cB _ _ _ _ rfl ((((Itm.aE 4 a)++(Itm.aE 0 t.toNat))++(Itm.aE 0 n.toNat))++(Itm.aE 0 f)) (Itm.aE 0 c) kR kR oA) ?_));refine zq 1 (zn (zr (zq 3 (zn ?_))));refine nx 4 oW (by show 4-4<4-3;omega)
 ·refine zs (zQ 2 (zn (dD (aK (zQ 2 (dK (fun W j=>oY d (by unfold R47;omega) W) (cD (St ((((((Itm.aE 4 a)++(Itm.aE 0 t.toNat))++(Itm.aE 0 n.toNat))++(Itm.aE 0 f))++(Itm.aE 0 c))++(Itm.aE 2 d.length++d))) (cB _ _ _ _ rfl (((((Itm.aE 4 a)++(Itm.aE 0 t.toNat))++(Itm.aE 0 n.toNat))++(Itm.aE 0 f))++(Itm.aE 0 c)) (Itm.aE 2 d.length++d) kR kR oA) ?_)))))));refine zq 1 (zn (zs (zQ 2 (zn (fQ (a:Int) 6 (fun E y=>?_) (fun E y=>?_))))))
  ·refine zr (zq 2 (dK (fun W j=>oY h (by unfold R47;omega) W) (cD (St (((((((Itm.aE 4 a)++(Itm.aE 0 t.toNat))++(Itm.aE 0 n.toNat))++(Itm.aE 0 f))++(Itm.aE 0 c))++(Itm.aE 2 d.length++d))++(Itm.aE 2 h.length++h))) (cB _ _ _ _ rfl ((((((Itm.aE 4 a)++(Itm.aE 0 t.toNat))++(Itm.aE 0 n.toNat))++(Itm.aE 0 f))++(Itm.aE 0 c))++(Itm.aE 2 d.length++d)) (Itm.aE 2 h.length++h) kR kR oA) ?_)));refine zq 1 (zn (zQ 2 (zn (aA (aO [6] [(St (((((((Itm.aE 4 a)++(Itm.aE 0 t.toNat))++(Itm.aE 0 n.toNat))++(Itm.aE 0 f))++(Itm.aE 0 c))++(Itm.aE 2 d.length++d))++(Itm.aE 2 h.length++h)))] (fun A j=>?_))))));unfold rbB;rw[show(if c=0 then 5 else 6)=a from by split<;>omega,An (show¬c=0 by omega)];exact⟨rfl,j.below⟩
  ·refine zk (zQ 2 (zn (aA (aO [6] [(St ((((((Itm.aE 4 a)++(Itm.aE 0 t.toNat))++(Itm.aE 0 n.toNat))++(Itm.aE 0 f))++(Itm.aE 0 c))++(Itm.aE 2 d.length++d)))] (fun A j=>?_)))));unfold rbB;rw[show(if c=0 then 5 else 6)=a from by split<;>omega,Ar (show c=0 by omega),Aj];exact⟨rfl,j.below⟩
def aOa(t n:Int)(f:Nat)(d:List UInt8)(sm:List UInt8):List UInt8:=(((((Itm.aE 4 5++Itm.aE 0 t.toNat)++Itm.aE 0 n.toNat)++Itm.aE 0 f)++Itm.aE 0 0)++(Itm.aE 2 d.length++d))
theorem aAz(t n:Int)(f:Nat)(d:List UInt8)(a:List UInt8)(c:a.length≤4)(q:0≤t∧t≤65535)(k:0≤n∧n≤65535)(j:f<W64)(g:d.length≤4000)(w:World):CP 162 #[.agg #[.int .u64 (t.toNat:Int),.int .u64 (n.toNat:Int),.int .u64 (f:Int),.int .u64 0],.string (B d),.string (B a)] w (Ret (.string (B (aOa t n f d a))) w):=by
 have h:=rJ t n f d a 0 (by decide) c q k j g w;rw[show rbB t n f d a 0=aOa t n f d a from Aj _]at h;exact h
theorem aFG(t n:Int)(f:Nat)(d:List UInt8)(j:0≤t∧t≤65535)(h:0≤n∧n≤65535)(w:World):CP 161 #[.agg #[.int .i64 t,.int .i64 n,.int .u64 (f:Int),.int .i64 0,.string (B d)]] w (Ret (.agg #[.int .u64 (t.toNat:Int),.int .u64 (n.toNat:Int),.int .u64 (f:Int),.int .u64 0]) w):=by
 have k:IntKind.u64.wrap t=(t.toNat:Int):=idU j;have q:IntKind.u64.wrap n=(n.toNat:Int):=idU h;refine dI 15 Tryz.func161 ?_;refine zs (zr (aW (fun a=>(aW (fun c=>(zn (zB [0,1,0] [(a,1)] (dS 5 (U6 (IntKind.u64.wrap t)) (N6 t.toNat) (Ag (Value.int .u64) k) ?_))))))));refine cG [0,1,0] [(a,1)] (dS 8 (U6 (IntKind.u64.wrap n)) (N6 n.toNat) (Ag (Value.int .u64) q) ?_);refine cG [0,1,0,1,0,0] [(a,1),(a,1)] (aX 1 c (zn (aA (dL [2] [(c,4)] [(.agg #[(N6 t.toNat),(N6 n.toNat),(N6 f),(U6 0)])] (fun r g=>?_)))));exact⟨rfl,g.below⟩
theorem aPE(t n:Int)(f:Nat)(d:List UInt8)(a:List UInt8)(c:a.length=0):(aOa t n f d a).length=(gL ⟨t,n,f,0,d⟩).length:=by
 show _=(Itm.aG (aD7 0 (dJ ⟨t,n,f,0,d⟩ []))).length;rw[show aD7 0 (dJ ⟨t,n,f,0,d⟩ [])=Itm.dA [Itm.cA t.toNat,Itm.cA n.toNat,Itm.cA f,Itm.cA 0,eE d]from rfl];unfold aOa;simp only[aEx,aEw,aEv,Itm.aY,Ac,Ah,Bd,Aw,Nat.reduceAdd];omega
theorem aEk(t n:Int)(f:Nat)(d:List UInt8)(h:0≤t∧t≤65535)(g:0≤n∧n≤65535)(q:f<W64)(k:d.length≤4000)(w:World){U:View}(u:See U w):CP 118 #[.agg #[.int .i64 t,.int .i64 n,.int .u64 (f:Int),.int .i64 0,.string (B d)]] w (fO w U (IsB (gL ⟨t,n,f,0,d⟩).length)):=by
 have G:IntKind.u64.wrap t=(t.toNat:Int):=idU h;have I:IntKind.u64.wrap n=(n.toNat:Int):=idU g;have y:=Itm.aD 0 t.toNat;have A:=Itm.aD 0 n.toNat;have C:=Itm.aD 0 f;have D:=Itm.aD 2 d.length;have E:=Itm.aD 4 5;have F:=Itm.aD 0 0;refine dE 24 Tryz.func118 u ?_;refine zs (zr (aW (fun a=>(zq 1 (zn (zB [1] [(a,5)] (dK (fun W c=>aFG t n f d h g W) (aW (fun j=>(aX 1 j (zn (zs ?_))))))))))));refine iM 5 [0,3,4,0,3,0,3,0,1,1,1] [(a,1),(j,4),(a,1),(a,1)] [.blk (fun r=>(Sl r 0 0 0)) (oK [] 5),.val (St []),.val (St (aOa t n f d []))] ⟨?_,?_,?_,trivial⟩ ?_
 ·exact vN
 ·exact vB 8 0 15 (fun r=>(Sl r 0 0 0)) [] 5
 ·exact vC 162 #[(.agg #[(N6 t.toNat),(N6 n.toNat),(N6 f),(U6 0)]),(St d),(St [])] (fun W c=>aAz t n f d [] (by decide) h g q k W)
 refine cY 159 #[(I6 0),(St (aOa t n f d []))] (St []) (fun W c=>aEo _ W) ?_;refine zq 1 (zn (zB [2,0,1,0] [(j,4),(a,1)] (dK (fun W c=>aAz t n f d [] (by decide) h g q k W) (zq 1 (zn (aA (aO [2] [(St (aOa t n f d []))] (fun x c=>?_))))))));exact aH c (View.le_refl _) ⟨_,rfl,aPE t n f d [] rfl⟩
def aN9(t n:Int)(f:Nat)(d:List UInt8)(sm:List UInt8):List UInt8:=(((((Itm.aE 4 6++Itm.aE 0 t.toNat)++Itm.aE 0 n.toNat)++Itm.aE 0 f)++Itm.aE 0 1)++(Itm.aE 2 d.length++d))++(Itm.aE 2 sm.length++sm)
theorem aAy(t n:Int)(f:Nat)(d:List UInt8)(a:List UInt8)(c:a.length≤4)(q:0≤t∧t≤65535)(k:0≤n∧n≤65535)(j:f<W64)(g:d.length≤4000)(w:World):CP 162 #[.agg #[.int .u64 (t.toNat:Int),.int .u64 (n.toNat:Int),.int .u64 (f:Int),.int .u64 1],.string (B d),.string (B a)] w (Ret (.string (B (aN9 t n f d a))) w):=by
 have h:=rJ t n f d a 1 (by decide) c q k j g w;exact h
theorem aFF(t n:Int)(f:Nat)(d:List UInt8)(j:0≤t∧t≤65535)(h:0≤n∧n≤65535)(w:World):CP 161 #[.agg #[.int .i64 t,.int .i64 n,.int .u64 (f:Int),.int .i64 1,.string (B d)]] w (Ret (.agg #[.int .u64 (t.toNat:Int),.int .u64 (n.toNat:Int),.int .u64 (f:Int),.int .u64 1]) w):=by
 have k:IntKind.u64.wrap t=(t.toNat:Int):=idU j;have q:IntKind.u64.wrap n=(n.toNat:Int):=idU h;refine dI 15 Tryz.func161 ?_;refine zs (zr (aW (fun a=>(aW (fun c=>(zn (zB [0,1,0] [(a,1)] (dS 5 (U6 (IntKind.u64.wrap t)) (N6 t.toNat) (Ag (Value.int .u64) k) ?_))))))));refine cG [0,1,0] [(a,1)] (dS 8 (U6 (IntKind.u64.wrap n)) (N6 n.toNat) (Ag (Value.int .u64) q) ?_);refine cG [0,1,0,1,0,0] [(a,1),(a,1)] (aX 1 c (zn (aA (dL [2] [(c,4)] [(.agg #[(N6 t.toNat),(N6 n.toNat),(N6 f),(U6 1)])] (fun r g=>?_)))));exact⟨rfl,g.below⟩
theorem aPD(t n:Int)(f:Nat)(d:List UInt8)(c:List UInt8)(g:c.length=2):(aN9 t n f d c).length=(gL ⟨t,n,f,1,d⟩).length:=by
 show _=(Itm.aG (aD7 1 (dJ ⟨t,n,f,1,d⟩ []))).length;rw[show aD7 1 (dJ ⟨t,n,f,1,d⟩ [])=Itm.dA [Itm.cA t.toNat,Itm.cA n.toNat,Itm.cA f,Itm.cA 1,eE d,eE (aLs 1 (dJ ⟨t,n,f,1,d⟩ []))]from rfl];have h:=aGE (k:=1) (l:=dJ ⟨t,n,f,1,d⟩ []) (by decide) (by decide);have a:(aLs 1 (dJ ⟨t,n,f,1,d⟩ [])).length=c.length:=by omega
 unfold aN9;simp only[aEx,aEw,aEv,Itm.aY,Ac,Ah,Bd,a,Aw,Nat.reduceAdd];omega
theorem aEj(t n:Int)(f:Nat)(d:List UInt8)(h:0≤t∧t≤65535)(g:0≤n∧n≤65535)(A:f<W64)(y:d.length≤4000)(w:World){U:View}(C:See U w):CP 118 #[.agg #[.int .i64 t,.int .i64 n,.int .u64 (f:Int),.int .i64 1,.string (B d)]] w (fO w U (IsB (gL ⟨t,n,f,1,d⟩).length)):=by
 have N:IntKind.u64.wrap t=(t.toNat:Int):=idU h;have O:IntKind.u64.wrap n=(n.toNat:Int):=idU g;have F:=Itm.aD 0 t.toNat;have G:=Itm.aD 0 n.toNat;have I:=Itm.aD 0 f;have J:=Itm.aD 2 d.length;have K:=Itm.aD 4 6;have L:=Itm.aD 0 1;refine dE 24 Tryz.func118 C ?_;refine zs (zr (aW (fun c=>(zq 1 (zn (zB [1] [(c,5)] (dK (fun W a=>aFF t n f d h g W) (aW (fun j=>(aX 1 j (zn (zs ?_))))))))))));refine iM 5 [0,3,4,0,3,0,3,0,1,1,1] [(c,1),(j,4),(c,1),(c,1)] [.blk (fun r=>(Sl r 0 2 2)) (oK [(.int .u8 0),(.int .u8 0)] 5),.val (St [UInt8.ofNat (0:Int).toNat,UInt8.ofNat (0:Int).toNat]),.val (St (aN9 t n f d [UInt8.ofNat (0:Int).toNat,UInt8.ofNat (0:Int).toNat]))] ⟨?_,?_,?_,trivial⟩ ?_
 ·exact vN
 ·exact vB 8 2 15 (fun r=>(Sl r 0 2 2)) [(.int .u8 0),(.int .u8 0)] 5
 ·exact vC 162 #[(.agg #[(N6 t.toNat),(N6 n.toNat),(N6 f),(U6 1)]),(St d),(St [UInt8.ofNat (0:Int).toNat,UInt8.ofNat (0:Int).toNat])] (fun W a=>aAy t n f d [UInt8.ofNat (0:Int).toNat,UInt8.ofNat (0:Int).toNat] (by decide) h g A y W)
 refine pO (fun W a=>aEt (aN9 t n f d [UInt8.ofNat (0:Int).toNat,UInt8.ofNat (0:Int).toNat]) (by unfold aN9 R47;simp only[Ac,Ah,Bd,Aw,Nat.reduceAdd];have:=Itm.aD 2 2;omega) W a.view) (fun M D q k=>?_);obtain⟨x,rfl,u⟩:=k;refine zq 1 (zn (zB [2,0,1,0] [(j,4),(c,1)] (dK (fun W a=>aAy t n f d x oW h g A y W) (zq 1 (zn (aA (aO [2] [(St (aN9 t n f d x))] (fun E a=>?_))))))));exact aH a q ⟨_,rfl,aPD t n f d x u⟩
def aN8(t n:Int)(f:Nat)(d:List UInt8)(sm:List UInt8):List UInt8:=(((((Itm.aE 4 6++Itm.aE 0 t.toNat)++Itm.aE 0 n.toNat)++Itm.aE 0 f)++Itm.aE 0 2)++(Itm.aE 2 d.length++d))++(Itm.aE 2 sm.length++sm)
theorem aAx(t n:Int)(f:Nat)(d:List UInt8)(a:List UInt8)(c:a.length≤4)(q:0≤t∧t≤65535)(k:0≤n∧n≤65535)(j:f<W64)(g:d.length≤4000)(w:World):CP 162 #[.agg #[.int .u64 (t.toNat:Int),.int .u64 (n.toNat:Int),.int .u64 (f:Int),.int .u64 2],.string (B d),.string (B a)] w (Ret (.string (B (aN8 t n f d a))) w):=by
 have h:=rJ t n f d a 2 (by decide) c q k j g w;exact h
theorem aFE(t n:Int)(f:Nat)(d:List UInt8)(j:0≤t∧t≤65535)(h:0≤n∧n≤65535)(w:World):CP 161 #[.agg #[.int .i64 t,.int .i64 n,.int .u64 (f:Int),.int .i64 2,.string (B d)]] w (Ret (.agg #[.int .u64 (t.toNat:Int),.int .u64 (n.toNat:Int),.int .u64 (f:Int),.int .u64 2]) w):=by
 have k:IntKind.u64.wrap t=(t.toNat:Int):=idU j;have q:IntKind.u64.wrap n=(n.toNat:Int):=idU h;refine dI 15 Tryz.func161 ?_;refine zs (zr (aW (fun a=>(aW (fun c=>(zn (zB [0,1,0] [(a,1)] (dS 5 (U6 (IntKind.u64.wrap t)) (N6 t.toNat) (Ag (Value.int .u64) k) ?_))))))));refine cG [0,1,0] [(a,1)] (dS 8 (U6 (IntKind.u64.wrap n)) (N6 n.toNat) (Ag (Value.int .u64) q) ?_);refine cG [0,1,0,1,0,0] [(a,1),(a,1)] (aX 1 c (zn (aA (dL [2] [(c,4)] [(.agg #[(N6 t.toNat),(N6 n.toNat),(N6 f),(U6 2)])] (fun r g=>?_)))));exact⟨rfl,g.below⟩
theorem aPC(t n:Int)(f:Nat)(d:List UInt8)(c:List UInt8)(g:c.length=4):(aN8 t n f d c).length=(gL ⟨t,n,f,2,d⟩).length:=by
 show _=(Itm.aG (aD7 2 (dJ ⟨t,n,f,2,d⟩ []))).length;rw[show aD7 2 (dJ ⟨t,n,f,2,d⟩ [])=Itm.dA [Itm.cA t.toNat,Itm.cA n.toNat,Itm.cA f,Itm.cA 2,eE d,eE (aLs 2 (dJ ⟨t,n,f,2,d⟩ []))]from rfl];have h:=aGE (k:=2) (l:=dJ ⟨t,n,f,2,d⟩ []) (by decide) (by decide);have a:(aLs 2 (dJ ⟨t,n,f,2,d⟩ [])).length=c.length:=by omega
 unfold aN8;simp only[aEx,aEw,aEv,Itm.aY,Ac,Ah,Bd,a,Aw,Nat.reduceAdd];omega
theorem aEi(t n:Int)(f:Nat)(d:List UInt8)(h:0≤t∧t≤65535)(g:0≤n∧n≤65535)(A:f<W64)(y:d.length≤4000)(w:World){U:View}(C:See U w):CP 118 #[.agg #[.int .i64 t,.int .i64 n,.int .u64 (f:Int),.int .i64 2,.string (B d)]] w (fO w U (IsB (gL ⟨t,n,f,2,d⟩).length)):=by
 have N:IntKind.u64.wrap t=(t.toNat:Int):=idU h;have O:IntKind.u64.wrap n=(n.toNat:Int):=idU g;have F:=Itm.aD 0 t.toNat;have G:=Itm.aD 0 n.toNat;have I:=Itm.aD 0 f;have J:=Itm.aD 2 d.length;have K:=Itm.aD 4 6;have L:=Itm.aD 0 2;refine dE 24 Tryz.func118 C ?_;refine zs (zr (aW (fun c=>(zq 1 (zn (zB [1] [(c,5)] (dK (fun W a=>aFE t n f d h g W) (aW (fun j=>(aX 1 j (zn (zs ?_))))))))))));refine iM 5 [0,3,4,0,3,0,3,0,1,1,1] [(c,1),(j,4),(c,1),(c,1)] [.blk (fun r=>(Sl r 0 4 4)) (oK [(.int .u8 0),(.int .u8 0),(.int .u8 0),(.int .u8 0)] 5),.val (St [UInt8.ofNat (0:Int).toNat,UInt8.ofNat (0:Int).toNat,UInt8.ofNat (0:Int).toNat,UInt8.ofNat (0:Int).toNat]),.val (St (aN8 t n f d [UInt8.ofNat (0:Int).toNat,UInt8.ofNat (0:Int).toNat,UInt8.ofNat (0:Int).toNat,UInt8.ofNat (0:Int).toNat]))] ⟨?_,?_,?_,trivial⟩ ?_
 ·exact vN
 ·exact vB 8 4 15 (fun r=>(Sl r 0 4 4)) [(.int .u8 0),(.int .u8 0),(.int .u8 0),(.int .u8 0)] 5
 ·exact vC 162 #[(.agg #[(N6 t.toNat),(N6 n.toNat),(N6 f),(U6 2)]),(St d),(St [UInt8.ofNat (0:Int).toNat,UInt8.ofNat (0:Int).toNat,UInt8.ofNat (0:Int).toNat,UInt8.ofNat (0:Int).toNat])] (fun W a=>aAx t n f d [UInt8.ofNat (0:Int).toNat,UInt8.ofNat (0:Int).toNat,UInt8.ofNat (0:Int).toNat,UInt8.ofNat (0:Int).toNat] (by decide) h g A y W)
 refine pO (fun W a=>aEs (aN8 t n f d [UInt8.ofNat (0:Int).toNat,UInt8.ofNat (0:Int).toNat,UInt8.ofNat (0:Int).toNat,UInt8.ofNat (0:Int).toNat]) (by unfold aN8 R47;simp only[Ac,Ah,Bd,Aw,Nat.reduceAdd];have:=Itm.aD 2 4;omega) W a.view) (fun M D q k=>?_);obtain⟨x,rfl,u⟩:=k;refine zq 1 (zn (zB [2,0,1,0] [(j,4),(c,1)] (dK (fun W a=>aAx t n f d x oW h g A y W) (zq 1 (zn (aA (aO [2] [(St (aN8 t n f d x))] (fun E a=>?_))))))));exact aH a q ⟨_,rfl,aPC t n f d x u⟩
theorem aFH(b:Bk)(x:b.ok)(A:cH b=0)(w:World){U:View}(j:See U w):CP 118 #[b.V] w (fO w U (IsB (gL b).length)):=by
 obtain⟨g,h,k,q,r,u⟩:=gQ A;unfold jS at g h;simp only[Ae,Ak]at g h;have a:=x.f;obtain⟨t,n,f,c,d⟩:=b;simp only at g h k q r u a;have y:c=0∨c=1∨c=2:=by omega
 rcases y with rfl|rfl|rfl
 ·exact aEk t n f d oW oW a oW w j
 ·exact aEj t n f d oW oW a oW w j
 ·exact aEi t n f d oW oW a oW w j
def cn0(f:Nat):Nat:=if hasB f 1 then 10 else 8
def rpB(p:Pr):List UInt8:=((((Itm.aE 4 (cn0 p.f)++Itm.aE 0 7)++Itm.aE 0 p.f)++Itm.aE 0 0)++((Itm.aG p.dst.tree++Itm.aG p.src.tree)++Itm.aG p.rpt.tree))++(((Itm.aE 4 2++Itm.aE 0 p.time)++Itm.aE 0 p.seq)++Itm.aE 0 p.life)++(if hasB p.f 1 then Itm.aE 0 p.off++Itm.aE 0 p.tot else[])
def cnG(f c:Nat):Nat:=if hasB f 1 then(if c=0 then 10 else 11)else if c=0 then 8 else 9
theorem aP4(f c:Nat):cnG f c≤11:=by unfold cnG;(repeat' split)<;>omega
theorem aFS(f c:Nat)(d:c≤2)(a:f<W64)(w:World):CP 205 #[.int .u64 (f:Int),.int .u64 (c:Int)] w (Ret (.int .i64 ((cnG f c:Nat):Int)) w):=by
 have h:=aH0 f c a w;rwa[show aMJ f c=((cnG f c:Nat):Int) by obtain rfl|rfl|rfl:c=0∨c=1∨c=2:=oW;all_goals(unfold aMJ cnG;cases hasB f 1<;>rfl)]at h
def aAw(p:Pr)(c:Nat):List UInt8:=(((((Itm.aE 4 (cnG p.f c)++Itm.aE 0 7)++Itm.aE 0 p.f)++Itm.aE 0 c)++((Itm.aG p.dst.tree++Itm.aG p.src.tree)++Itm.aG p.rpt.tree))++(((Itm.aE 4 2++Itm.aE 0 p.time)++Itm.aE 0 p.seq)++Itm.aE 0 p.life))++(if hasB p.f 1 then Itm.aE 0 p.off++Itm.aE 0 p.tot else[])
theorem pT(p:Pr)(a:List UInt8)(c:Nat)(L:c≤2)(c6:a.length≤4)(w:World)(x:p.ok)(Y:aI p.dst=true)(hs:aI p.src=true)(ht:aI p.rpt=true):CP 160 #[p.V,.int .u64 (c:Int),.string (B a)] w (Ret (.string (B (aAw p c++(if c=0 then[]else Itm.aE 2 a.length++a)))) w):=by
 have hf:=x.f;have i1:=x.time;have i2:=x.seq;have i3:=x.life;have i4:=x.off;have i5:=x.tot;have hc:=aP4 p.f c;have l0:=Itm.aD 4 (cnG p.f c);have l1:=Itm.aD 0 7;have l2:=Itm.aD 0 p.f;have l3:=Itm.aD 0 c;have c9:=Itm.aD 2 a.length;have l4:=Itm.aD 4 2;have l5:=Itm.aD 0 p.time;have l6:=Itm.aD 0 p.seq;have l7:=Itm.aD 0 p.life;have l8:=Itm.aD 0 p.off;have l9:=Itm.aD 0 p.tot;have t1:=Itm.cI p.dst.tree;have t2:=Itm.cI p.src.tree;have t3:=Itm.cI p.rpt.tree;have s1:=fS Y;have s2:=fS hs;have s3:=fS ht;refine dI 77 Tryz.func160 ?_;refine zs (zr (aW (fun k=>(zq 1 (zn (zs ?_))))));refine iM 5 [0,3,0,1,1,1,1,1,0,3,1,1,0,1] [(k,1),(k,1)] [.val (L6 (cnG p.f c)),.val (N6 (cnG p.f c:Nat)),.val (St (Itm.aE 4 (cnG p.f c))),.val (St (Itm.aE 0 7)),.val (St ((Itm.aE 4 (cnG p.f c))++(Itm.aE 0 7))),.val (St (Itm.aE 0 p.f)),.val (St (((Itm.aE 4 (cnG p.f c))++(Itm.aE 0 7))++(Itm.aE 0 p.f))),.val (St (Itm.aE 0 c))] ⟨?_,?_,?_,?_,?_,?_,?_,?_,trivial⟩ ?_
 ·exact vC 205 #[(N6 p.f),(N6 c)] (fun W d=>aFS p.f c L hf W)
 ·exact vE (U6 (IntKind.u64.wrap ((cnG p.f c:Nat):Int))) (Ag (Value.int .u64) (u64_in oW oW))
 ·exact vC 108 #[(I6 4),(N6 (cnG p.f c:Nat))] (fun W d=>dB 4 (cnG p.f c) W oW (by first|assumption|(unfold W64;omega)|decide))
 ·exact vC 108 #[(I6 0),(U6 7)] (fun W d=>dB 0 7 W oW (by first|assumption|(unfold W64;omega)|decide))
 ·exact vR (cB _ _ _ _ rfl (Itm.aE 4 (cnG p.f c)) (Itm.aE 0 7) kR kR oA)
 ·exact vC 108 #[(I6 0),(N6 p.f)] (fun W d=>dB 0 p.f W oW (by first|assumption|(unfold W64;omega)|decide))
 ·exact vR (cB _ _ _ _ rfl ((Itm.aE 4 (cnG p.f c))++(Itm.aE 0 7)) (Itm.aE 0 p.f) kR kR oA)
 ·exact vC 108 #[(I6 0),(N6 c)] (fun W d=>dB 0 c W oW (by first|assumption|(unfold W64;omega)|decide))
 refine cD (St ((((Itm.aE 4 (cnG p.f c))++(Itm.aE 0 7))++(Itm.aE 0 p.f))++(Itm.aE 0 c))) (cB _ _ _ _ rfl (((Itm.aE 4 (cnG p.f c))++(Itm.aE 0 7))++(Itm.aE 0 p.f)) (Itm.aE 0 c) kR kR oA) ?_;refine zq 1 (zn (zs ?_));refine mB 5 [0,0,3,1,1,0,3,1,1,1,0,3,1,1,1] [(k,4),(k,4),(k,4)] [.mem (oQ p.dst.tree),.val (St (Itm.aG p.dst.tree)),.mem (oQ p.src.tree),.val (St (Itm.aG p.src.tree)),.val (St ((Itm.aG p.dst.tree)++(Itm.aG p.src.tree))),.mem (oQ p.rpt.tree),.val (St (Itm.aG p.rpt.tree)),.val (St (((Itm.aG p.dst.tree)++(Itm.aG p.src.tree))++(Itm.aG p.rpt.tree)))] (by simp only[Bc];refine⟨?_,?_,?_,?_,?_,?_,?_,?_,fun _ h=>by cases h⟩<;>first|trivial|(intro v V V2 C F;(first|trivial|exact PhiMono.go F C|(obtain⟨g,e,F⟩:=F;exact⟨g,e,F.le C⟩)))) ⟨?_,?_,?_,?_,?_,?_,?_,?_,trivial⟩ ?_
 ·refine wM 110 (fun u=>#[(.agg #[(I6 p.dst.s),(St p.dst.l),(N6 p.dst.n),(N6 p.dst.v)])]) fun u V A f W q=>?_
  exact pW p.dst W q x.dst Y
 ·refine wV 109 (fun u=>#[u 3]) fun u V A f W q=>?_
  have e3:=f 3 kR rfl;obtain⟨b5,q3,D⟩:=e3;obtain⟨a3,c3,rfl,b1,c0,c2,b8⟩:=D.form;rw[q3];exact gI 8 _ _ q D (iJ _ 5) (by unfold aAL;omega)
 ·refine wM 110 (fun u=>#[(.agg #[(I6 p.src.s),(St p.src.l),(N6 p.src.n),(N6 p.src.v)])]) fun u V A f W q=>?_
  exact pW p.src W q x.src hs
 ·refine wV 109 (fun u=>#[u 7]) fun u V A f W q=>?_
  have e7:=f 7 kR rfl;obtain⟨b6,q7,E⟩:=e7;obtain⟨a7,c7,rfl,b2,c1,c4,b9⟩:=E.form;rw[q7];exact gI 8 _ _ q E (iJ _ 5) (by unfold aAL;omega)
 ·exact wR (fun u=>cB _ _ _ _ rfl (Itm.aG p.dst.tree) (Itm.aG p.src.tree) kR kR oA)
 ·refine wM 110 (fun u=>#[(.agg #[(I6 p.rpt.s),(St p.rpt.l),(N6 p.rpt.n),(N6 p.rpt.v)])]) fun u V A f W q=>?_
  exact pW p.rpt W q x.rpt ht
 ·refine wV 109 (fun u=>#[u 12]) fun u V A f W q=>?_
  have G:=f 12 kR rfl;obtain⟨X,N,y⟩:=G;obtain⟨b3,b4,rfl,M,a6,a8,a1⟩:=y.form;rw[N];exact gI 8 _ _ q y (iJ _ 5) (by unfold aAL;omega)
 ·exact wR (fun u=>cB _ _ _ _ rfl ((Itm.aG p.dst.tree)++(Itm.aG p.src.tree)) (Itm.aG p.rpt.tree) kR kR oA)
 intro u1 V1 b7 Z;refine cD (St (((((Itm.aE 4 (cnG p.f c))++(Itm.aE 0 7))++(Itm.aE 0 p.f))++(Itm.aE 0 c))++(((Itm.aG p.dst.tree)++(Itm.aG p.src.tree))++(Itm.aG p.rpt.tree)))) (cB _ _ _ _ rfl ((((Itm.aE 4 (cnG p.f c))++(Itm.aE 0 7))++(Itm.aE 0 p.f))++(Itm.aE 0 c)) (((Itm.aG p.dst.tree)++(Itm.aG p.src.tree))++(Itm.aG p.rpt.tree)) kR kR oA) ?_;refine zq 1 (zn (zs ?_));refine iM 5 [0,1,0,3,1,1,0,3,1,1,0,3,1,1] [(k,1),(k,1),(k,1)] [.val (St (Itm.aE 4 2)),.val (St (Itm.aE 0 p.time)),.val (St ((Itm.aE 4 2)++(Itm.aE 0 p.time))),.val (St (Itm.aE 0 p.seq)),.val (St (((Itm.aE 4 2)++(Itm.aE 0 p.time))++(Itm.aE 0 p.seq))),.val (St (Itm.aE 0 p.life)),.val (St ((((Itm.aE 4 2)++(Itm.aE 0 p.time))++(Itm.aE 0 p.seq))++(Itm.aE 0 p.life)))] ⟨?_,?_,?_,?_,?_,?_,?_,trivial⟩ ?_
 ·exact vC 108 #[(I6 4),(U6 2)] (fun W d=>dB 4 2 W oW (by first|assumption|(unfold W64;omega)|decide))
 ·exact vC 108 #[(I6 0),(N6 p.time)] (fun W d=>dB 0 p.time W oW (by first|assumption|(unfold W64;omega)|decide))
 ·exact vR (cB _ _ _ _ rfl (Itm.aE 4 2) (Itm.aE 0 p.time) kR kR oA)
 ·exact vC 108 #[(I6 0),(N6 p.seq)] (fun W d=>dB 0 p.seq W oW (by first|assumption|(unfold W64;omega)|decide))
 ·exact vR (cB _ _ _ _ rfl ((Itm.aE 4 2)++(Itm.aE 0 p.time)) (Itm.aE 0 p.seq) kR kR oA)
 ·exact vC 108 #[(I6 0),(N6 p.life)] (fun W d=>dB 0 p.life W oW (by first|assumption|(unfold W64;omega)|decide))
 ·exact vR (cB _ _ _ _ rfl (((Itm.aE 4 2)++(Itm.aE 0 p.time))++(Itm.aE 0 p.seq)) (Itm.aE 0 p.life) kR kR oA)
 refine cD (St ((((((Itm.aE 4 (cnG p.f c))++(Itm.aE 0 7))++(Itm.aE 0 p.f))++(Itm.aE 0 c))++(((Itm.aG p.dst.tree)++(Itm.aG p.src.tree))++(Itm.aG p.rpt.tree)))++((((Itm.aE 4 2)++(Itm.aE 0 p.time))++(Itm.aE 0 p.seq))++(Itm.aE 0 p.life)))) (cB _ _ _ _ rfl (((((Itm.aE 4 (cnG p.f c))++(Itm.aE 0 7))++(Itm.aE 0 p.f))++(Itm.aE 0 c))++(((Itm.aG p.dst.tree)++(Itm.aG p.src.tree))++(Itm.aG p.rpt.tree))) ((((Itm.aE 4 2)++(Itm.aE 0 p.time))++(Itm.aE 0 p.seq))++(Itm.aE 0 p.life)) kR kR oA) ?_;refine zq 1 (zn ?_);refine dH (α:=List UInt8) (fun j=>[1,2,6,7].zip [(N6 c),(St a),(St []),(St j)]) (fun j=>V1) (fun j=>[(bK k p.cs 26)]) (fun j=>j=aAw p c∧j.length≤100000) ?_ ?_
 ·refine zB [0,1] [(k,1)] (dK (fun W d=>aG0 p.f hf W) (zn (gN (hasB p.f 1) (fun I=>?_) (fun I=>?_))))
  ·refine iM 3 [0,0,3,1,0,3,1,1] [(k,1),(k,1)] [.val (St (Itm.aE 0 p.off)),.val (St (Itm.aE 0 p.tot)),.val (St ((Itm.aE 0 p.off)++(Itm.aE 0 p.tot)))] ⟨?_,?_,?_,trivial⟩ ?_
   ·exact vC 108 #[(I6 0),(N6 p.off)] (fun W d=>dB 0 p.off W oW (by first|assumption|(unfold W64;omega)|decide))
   ·exact vC 108 #[(I6 0),(N6 p.tot)] (fun W d=>dB 0 p.tot W oW (by first|assumption|(unfold W64;omega)|decide))
   ·exact vR (cB _ _ _ _ rfl (Itm.aE 0 p.off) (Itm.aE 0 p.tot) kR kR oA)
   refine cD (St (((((((Itm.aE 4 (cnG p.f c))++(Itm.aE 0 7))++(Itm.aE 0 p.f))++(Itm.aE 0 c))++(((Itm.aG p.dst.tree)++(Itm.aG p.src.tree))++(Itm.aG p.rpt.tree)))++((((Itm.aE 4 2)++(Itm.aE 0 p.time))++(Itm.aE 0 p.seq))++(Itm.aE 0 p.life)))++((Itm.aE 0 p.off)++(Itm.aE 0 p.tot)))) (cB _ _ _ _ rfl ((((((Itm.aE 4 (cnG p.f c))++(Itm.aE 0 7))++(Itm.aE 0 p.f))++(Itm.aE 0 c))++(((Itm.aG p.dst.tree)++(Itm.aG p.src.tree))++(Itm.aG p.rpt.tree)))++((((Itm.aE 4 2)++(Itm.aE 0 p.time))++(Itm.aE 0 p.seq))++(Itm.aE 0 p.life))) ((Itm.aE 0 p.off)++(Itm.aE 0 p.tot)) kR kR oA) ?_;refine zq 1 (zn ?_);refine jn (((((((Itm.aE 4 (cnG p.f c))++(Itm.aE 0 7))++(Itm.aE 0 p.f))++(Itm.aE 0 c))++(((Itm.aG p.dst.tree)++(Itm.aG p.src.tree))++(Itm.aG p.rpt.tree)))++((((Itm.aE 4 2)++(Itm.aE 0 p.time))++(Itm.aE 0 p.seq))++(Itm.aE 0 p.life)))++((Itm.aE 0 p.off)++(Itm.aE 0 p.tot))) ?_;exact⟨(by unfold aAw;rw[I];simp only[if_true,if_false,Av,Aj]),(by simp only[Ac];omega)⟩
  ·refine zk ?_;refine jn ((((((Itm.aE 4 (cnG p.f c))++(Itm.aE 0 7))++(Itm.aE 0 p.f))++(Itm.aE 0 c))++(((Itm.aG p.dst.tree)++(Itm.aG p.src.tree))++(Itm.aG p.rpt.tree)))++((((Itm.aE 4 2)++(Itm.aE 0 p.time))++(Itm.aE 0 p.seq))++(Itm.aE 0 p.life))) ?_;exact⟨(by unfold aAw;rw[I];simp only[if_true,if_false,Av,Aj]),(by simp only[Ac];omega)⟩
 intro j r;obtain⟨r,c8⟩:=r;refine zs (zQ 3 (oT 68 (c:Int) 1 (fun h1 J=>?_) (fun h1 J=>?_)))
 ·refine zq 3 (zn (dP (zr (zq 2 (dK (fun W d=>oY a (by unfold R47;omega) W) (cD (St (j++(Itm.aE 2 a.length++a))) (cB _ _ _ _ rfl j (Itm.aE 2 a.length++a) kR kR oA) ?_))))));refine zq 1 (zn (zQ 2 (zn (aA (aO [6] [(St (j++(Itm.aE 2 a.length++a)))] (fun O d=>?_))))));rw[An (show¬c=0 by omega),←r];exact⟨rfl,d.below⟩
 ·refine zq 3 (zn (fQ (c:Int) 2 (fun h2 K=>?_) (fun h2 K=>?_)))
  ·refine zr (zq 2 (dK (fun W d=>oY a (by unfold R47;omega) W) (cD (St (j++(Itm.aE 2 a.length++a))) (cB _ _ _ _ rfl j (Itm.aE 2 a.length++a) kR kR oA) ?_)));refine zq 1 (zn (zQ 2 (zn (aA (aO [6] [(St (j++(Itm.aE 2 a.length++a)))] (fun O d=>?_))))));rw[An (show¬c=0 by omega),←r];exact⟨rfl,d.below⟩
  ·refine zk (zQ 2 (zn (aA (aO [6] [(St j)] (fun O d=>?_)))));rw[Ar (show c=0 by omega),Aj,←r];exact⟨rfl,d.below⟩
theorem aLQ(p:Pr):aAw p 0=rpB p:=by
 unfold aAw rpB cnG cn0;rfl
theorem aBj(p:Pr)(w:World)(c:p.ok)(a:aI p.dst=true)(d:aI p.src=true)(f:aI p.rpt=true):CP 160 #[p.V,.int .u64 0,.string (B [])] w (Ret (.string (B (rpB p))) w):=by
 have h:=pT p [] 0 (by decide) (by decide) w c a d f;rw[Ar rfl,Aj,aLQ]at h;exact h
theorem aEc(p:Pr)(w:World)(a:p.ok)(f:aI p.dst=true)(g:aI p.src=true)(h:aI p.rpt=true):CP 117 #[.agg #[(.int .u64 (p.f:Int)),(.int .i64 0),(.int .i64 p.dst.s),(.string (B p.dst.l)),(.int .u64 (p.dst.n:Int)),(.int .u64 (p.dst.v:Int)),(.int .i64 p.src.s),(.string (B p.src.l)),(.int .u64 (p.src.n:Int)),(.int .u64 (p.src.v:Int)),(.int .i64 p.rpt.s),(.string (B p.rpt.l)),(.int .u64 (p.rpt.n:Int)),(.int .u64 (p.rpt.v:Int)),(.int .u64 (p.time:Int)),(.int .u64 (p.seq:Int)),(.int .u64 (p.life:Int)),(.int .u64 (p.off:Int)),(.int .u64 (p.tot:Int))]] w (Ret (.string (B (rpB p))) w):=by
 refine dI 23 Tryz.func117 ?_;refine zs (zr (aW (fun c=>(zq 1 (zn (zs ?_))))));refine iM 5 [0,3,3,0,3,0,0,3,0,1,1,1] [(c,1),(c,19),(c,1),(c,1)] [.blk (fun r=>(Sl r 0 0 0)) (oK [] 5),.val (St []),.val (St (rpB p))] ⟨?_,?_,?_,trivial⟩ ?_
 ·exact vN
 ·exact vB 9 0 13 (fun r=>(Sl r 0 0 0)) [] 5
 ·exact vC 160 #[(.agg #[(N6 p.f),(I6 0),(I6 p.dst.s),(St p.dst.l),(N6 p.dst.n),(N6 p.dst.v),(I6 p.src.s),(St p.src.l),(N6 p.src.n),(N6 p.src.v),(I6 p.rpt.s),(St p.rpt.l),(N6 p.rpt.n),(N6 p.rpt.v),(N6 p.time),(N6 p.seq),(N6 p.life),(N6 p.off),(N6 p.tot)]),(U6 0),(St [])] (fun W d=>aBj p.bare W ⟨a.f,a.dst,a.src,a.rpt,a.time,a.seq,a.life,a.off,a.tot⟩ f g h)
 refine cY 159 #[(I6 0),(St (rpB p))] (St []) (fun W d=>aEo _ W) ?_;refine zq 1 (zn (zB [1,0,1,0,0] [(c,19),(c,1)] (dK (fun W d=>aBj p.bare W ⟨a.f,a.dst,a.src,a.rpt,a.time,a.seq,a.life,a.off,a.tot⟩ f g h) (zq 1 (zn (aA (iZ 2)))))))
theorem aC2(l:List Itm.Tr):Itm.aG (Itm.dA l)=Itm.aE 4 l.length++Itm.aY l:=by
 rw[Itm.dA,Itm.aG];simp
theorem aIH(n:Nat):Itm.aG (Itm.cA n)=Itm.aE 0 n:=by
 rw[Itm.cA,Itm.aG];simp
theorem aPt(p:Pr)(h:p.ok):rpB p=eT p.bare:=by
 have a:p.bare.tree=Itm.dA (eB p.bare []):=rfl;have c:lX p.bare.f=hasB p.f 1:=aPZ p.f h.f;unfold eT;rw[a,aC2];unfold eB rpB cn0;rw[c];cases hasB p.f 1
 all_goals simp only[if_true,if_false,Av,Aj,Cv,Ch,Ah,Bd,Itm.aY,aIH,aC2,Al,Pr.bare,show((0:Int) !=0)=false from rfl,Int.toNat_zero]
def Pr.setC(p:Pr)(c:Int):Pr:=⟨p.f,c,p.dst,p.src,p.rpt,p.time,p.seq,p.life,p.off,p.tot⟩
def cn1(f:Nat):Nat:=if hasB f 1 then 11 else 9
theorem aHm(f:Nat):cn1 f≤11:=by unfold cn1;split<;>omega
def aLS(p:Pr)(sm:List UInt8):List UInt8:=((((((Itm.aE 4 (cn1 p.f)++Itm.aE 0 7)++Itm.aE 0 p.f)++Itm.aE 0 1)++((Itm.aG p.dst.tree++Itm.aG p.src.tree)++Itm.aG p.rpt.tree))++(((Itm.aE 4 2++Itm.aE 0 p.time)++Itm.aE 0 p.seq)++Itm.aE 0 p.life))++(if hasB p.f 1 then Itm.aE 0 p.off++Itm.aE 0 p.tot else[]))++(Itm.aE 2 sm.length++sm)
def aLR(p:Pr)(sm:List UInt8):List UInt8:=((((((Itm.aE 4 (cn1 p.f)++Itm.aE 0 7)++Itm.aE 0 p.f)++Itm.aE 0 2)++((Itm.aG p.dst.tree++Itm.aG p.src.tree)++Itm.aG p.rpt.tree))++(((Itm.aE 4 2++Itm.aE 0 p.time)++Itm.aE 0 p.seq)++Itm.aE 0 p.life))++(if hasB p.f 1 then Itm.aE 0 p.off++Itm.aE 0 p.tot else[]))++(Itm.aE 2 sm.length++sm)
theorem aAv(p:Pr)(a:List UInt8)(c:a.length≤4)(w:World)(f:p.ok)(d:aI p.dst=true)(g:aI p.src=true)(j:aI p.rpt=true):CP 160 #[p.V,.int .u64 1,.string (B a)] w (Ret (.string (B (aLS p a))) w):=by
 have h:=pT p a 1 (by decide) c w f d g j;rw[An (by decide),show aAw p 1++(Itm.aE 2 a.length++a)=aLS p a from rfl]at h;exact h
theorem aPs(p:Pr)(d:p.f<W64)(a:List UInt8)(j:a.length=2):(aLS p a).length=(eT (p.setC 1)).length:=by
 have c:lX p.f=hasB p.f 1:=aPZ p.f d;have r:∀l:List UInt8,((lC 1 l).length:Int)=2:=fun l=>pD (k:=1) l (by decide) (by decide)
 show _=(Itm.aG (aD8 1 (eB (p.setC 1) (Z 2)))).length;have f:∃q:List UInt8,Itm.aG (aD8 1 (eB (p.setC 1) (Z 2)))=Itm.aG (Itm.dA ([Itm.cA 7,Itm.cA p.f,Itm.cA 1,p.dst.tree,p.src.tree,p.rpt.tree,Itm.dA [Itm.cA p.time,Itm.cA p.seq],Itm.cA p.life]++((if hasB p.f 1 then[Itm.cA p.off,Itm.cA p.tot]else[])++[eE q])))∧q.length=a.length:=by
  refine⟨lC 1 (Itm.aG (Itm.dA (eB (p.setC 1) (Z 2)))),?_,by have:=r (Itm.aG (Itm.dA (eB (p.setC 1) (Z 2))));omega⟩;rw[←c];unfold aD8;rw[An (by decide)];generalize lC 1 (Itm.aG (Itm.dA (eB (p.setC 1) (Z 2))))=q;unfold eB;rw[show lX (p.setC 1).f=lX p.f from rfl];cases lX p.f<;>rfl
 obtain⟨q,h,g⟩:=f;rw[h];unfold aLS cn1;cases hasB p.f 1<;>simp only[if_true,if_false,Av,Cv,Ch,aEx,aEw,aEv,Itm.aY,Ac,Ah,Bd,g,Aw,Nat.reduceAdd]<;>omega
theorem aQI(p:Pr)(a:p.ok)(d:aI p.dst=true)(f:aI p.src=true)(h:aI p.rpt=true)(c:List UInt8)(g:c.length=2):(aLS (p.setC 1) c).length≤100000:=by
 have q:=a.f;have r:=a.time;have u:=a.seq;have x:=a.life;have y:=a.off;have A:=a.tot;have k:=aHm p.f;have B:=Itm.aD 4 (cn1 p.f);have C:=Itm.aD 0 7;have D:=Itm.aD 0 p.f;have E:=Itm.aD 0 1;have F:=Itm.aD 4 2;have G:=Itm.aD 0 p.time;have I:=Itm.aD 0 p.seq;have J:=Itm.aD 0 p.life;have K:=Itm.aD 0 p.off;have L:=Itm.aD 0 p.tot;have V:=Itm.cI p.dst.tree;have X:=Itm.cI p.src.tree;have Y:=Itm.cI p.rpt.tree;have M:=fS d;have N:=fS f;have O:=fS h;have j:=Itm.aD 2 c.length;unfold aLS;show((((((Itm.aE 4 (cn1 p.f)++Itm.aE 0 7)++Itm.aE 0 p.f)++Itm.aE 0 1)++((Itm.aG p.dst.tree++Itm.aG p.src.tree)++Itm.aG p.rpt.tree))++(((Itm.aE 4 2++Itm.aE 0 p.time)++Itm.aE 0 p.seq)++Itm.aE 0 p.life))++(if hasB p.f 1 then Itm.aE 0 p.off++Itm.aE 0 p.tot else[])++(Itm.aE 2 c.length++c)).length≤100000;cases hasB p.f 1<;>simp only[if_true,if_false,Av,Ac,Bd]<;>omega
theorem aEb(p:Pr)(w:World){U:View}(x:See U w)(a:p.ok)(f:aI p.dst=true)(g:aI p.src=true)(h:aI p.rpt=true):CP 117 #[.agg #[(.int .u64 (p.f:Int)),(.int .i64 1),(.int .i64 p.dst.s),(.string (B p.dst.l)),(.int .u64 (p.dst.n:Int)),(.int .u64 (p.dst.v:Int)),(.int .i64 p.src.s),(.string (B p.src.l)),(.int .u64 (p.src.n:Int)),(.int .u64 (p.src.v:Int)),(.int .i64 p.rpt.s),(.string (B p.rpt.l)),(.int .u64 (p.rpt.n:Int)),(.int .u64 (p.rpt.v:Int)),(.int .u64 (p.time:Int)),(.int .u64 (p.seq:Int)),(.int .u64 (p.life:Int)),(.int .u64 (p.off:Int)),(.int .u64 (p.tot:Int))]] w (fO w U (IsB (eT (p.setC 1)).length)):=by
 have y:=a.f;have F:=a.time;have G:=a.seq;have I:=a.life;have J:=a.off;have K:=a.tot;have E:=aHm p.f;have L:=Itm.aD 4 (cn1 p.f);have M:=Itm.aD 0 7;have N:=Itm.aD 0 p.f;have O:=Itm.aD 0 1;have V:=Itm.aD 4 2;have X:=Itm.aD 0 p.time;have Y:=Itm.aD 0 p.seq;have Z:=Itm.aD 0 p.life;have l8:=Itm.aD 0 p.off;have l9:=Itm.aD 0 p.tot;have t1:=Itm.cI p.dst.tree;have t2:=Itm.cI p.src.tree;have t3:=Itm.cI p.rpt.tree;have s1:=fS f;have s2:=fS g;have s3:=fS h;refine dE 23 Tryz.func117 x ?_;refine zs (zr (aW (fun c=>(zq 1 (zn (zs ?_))))));refine iM 5 [0,3,3,0,3,0,0,3,0,1,1,1] [(c,1),(c,19),(c,1),(c,1)] [.blk (fun r=>(Sl r 0 2 2)) (oK [(.int .u8 0),(.int .u8 0)] 5),.val (St [UInt8.ofNat (0:Int).toNat,UInt8.ofNat (0:Int).toNat]),.val (St (aLS (p.setC 1) [UInt8.ofNat (0:Int).toNat,UInt8.ofNat (0:Int).toNat]))] ⟨?_,?_,?_,trivial⟩ ?_
 ·exact vN
 ·exact vB 9 2 13 (fun r=>(Sl r 0 2 2)) [(.int .u8 0),(.int .u8 0)] 5
 ·exact vC 160 #[(.agg #[(N6 p.f),(I6 1),(I6 p.dst.s),(St p.dst.l),(N6 p.dst.n),(N6 p.dst.v),(I6 p.src.s),(St p.src.l),(N6 p.src.n),(N6 p.src.v),(I6 p.rpt.s),(St p.rpt.l),(N6 p.rpt.n),(N6 p.rpt.v),(N6 p.time),(N6 p.seq),(N6 p.life),(N6 p.off),(N6 p.tot)]),(U6 1),(St [UInt8.ofNat (0:Int).toNat,UInt8.ofNat (0:Int).toNat])] (fun W d=>aAv (p.setC 1) [UInt8.ofNat (0:Int).toNat,UInt8.ofNat (0:Int).toNat] (by decide) W ⟨a.f,a.dst,a.src,a.rpt,a.time,a.seq,a.life,a.off,a.tot⟩ f g h)
 refine pO (fun W d=>aEt (aLS (p.setC 1) [UInt8.ofNat (0:Int).toNat,UInt8.ofNat (0:Int).toNat]) (by have D:=aQI p a f g h [UInt8.ofNat (0:Int).toNat,UInt8.ofNat (0:Int).toNat] rfl;unfold R47;omega) W d.view) (fun v1 A k j=>?_);obtain⟨u,rfl,q⟩:=j;refine zq 1 (zn (zB [1,0,1,0,0] [(c,19),(c,1)] (dK (fun W d=>aAv (p.setC 1) u oW W ⟨a.f,a.dst,a.src,a.rpt,a.time,a.seq,a.life,a.off,a.tot⟩ f g h) (zq 1 (zn (aA (aO [2] [(St (aLS (p.setC 1) u))] (fun C d=>?_))))))));exact aH d k ⟨_,rfl,aPs (p.setC 1) y u q⟩
theorem aAu(p:Pr)(a:List UInt8)(c:a.length≤4)(w:World)(f:p.ok)(d:aI p.dst=true)(g:aI p.src=true)(j:aI p.rpt=true):CP 160 #[p.V,.int .u64 2,.string (B a)] w (Ret (.string (B (aLR p a))) w):=by
 have h:=pT p a 2 (by decide) c w f d g j;rw[An (by decide),show aAw p 2++(Itm.aE 2 a.length++a)=aLR p a from rfl]at h;exact h
theorem aPr(p:Pr)(d:p.f<W64)(a:List UInt8)(j:a.length=4):(aLR p a).length=(eT (p.setC 2)).length:=by
 have c:lX p.f=hasB p.f 1:=aPZ p.f d;have r:∀l:List UInt8,((lC 2 l).length:Int)=4:=fun l=>pD (k:=2) l (by decide) (by decide)
 show _=(Itm.aG (aD8 2 (eB (p.setC 2) (Z 4)))).length;have f:∃q:List UInt8,Itm.aG (aD8 2 (eB (p.setC 2) (Z 4)))=Itm.aG (Itm.dA ([Itm.cA 7,Itm.cA p.f,Itm.cA 2,p.dst.tree,p.src.tree,p.rpt.tree,Itm.dA [Itm.cA p.time,Itm.cA p.seq],Itm.cA p.life]++((if hasB p.f 1 then[Itm.cA p.off,Itm.cA p.tot]else[])++[eE q])))∧q.length=a.length:=by
  refine⟨lC 2 (Itm.aG (Itm.dA (eB (p.setC 2) (Z 4)))),?_,by have:=r (Itm.aG (Itm.dA (eB (p.setC 2) (Z 4))));omega⟩;rw[←c];unfold aD8;rw[An (by decide)];generalize lC 2 (Itm.aG (Itm.dA (eB (p.setC 2) (Z 4))))=q;unfold eB;rw[show lX (p.setC 2).f=lX p.f from rfl];cases lX p.f<;>rfl
 obtain⟨q,h,g⟩:=f;rw[h];unfold aLR cn1;cases hasB p.f 1<;>simp only[if_true,if_false,Av,Cv,Ch,aEx,aEw,aEv,Itm.aY,Ac,Ah,Bd,g,Aw,Nat.reduceAdd]<;>omega
theorem aQH(p:Pr)(a:p.ok)(d:aI p.dst=true)(f:aI p.src=true)(h:aI p.rpt=true)(c:List UInt8)(g:c.length=4):(aLR (p.setC 2) c).length≤100000:=by
 have q:=a.f;have r:=a.time;have u:=a.seq;have x:=a.life;have y:=a.off;have A:=a.tot;have k:=aHm p.f;have B:=Itm.aD 4 (cn1 p.f);have C:=Itm.aD 0 7;have D:=Itm.aD 0 p.f;have E:=Itm.aD 0 2;have F:=Itm.aD 4 2;have G:=Itm.aD 0 p.time;have I:=Itm.aD 0 p.seq;have J:=Itm.aD 0 p.life;have K:=Itm.aD 0 p.off;have L:=Itm.aD 0 p.tot;have V:=Itm.cI p.dst.tree;have X:=Itm.cI p.src.tree;have Y:=Itm.cI p.rpt.tree;have M:=fS d;have N:=fS f;have O:=fS h;have j:=Itm.aD 2 c.length;unfold aLR;show((((((Itm.aE 4 (cn1 p.f)++Itm.aE 0 7)++Itm.aE 0 p.f)++Itm.aE 0 2)++((Itm.aG p.dst.tree++Itm.aG p.src.tree)++Itm.aG p.rpt.tree))++(((Itm.aE 4 2++Itm.aE 0 p.time)++Itm.aE 0 p.seq)++Itm.aE 0 p.life))++(if hasB p.f 1 then Itm.aE 0 p.off++Itm.aE 0 p.tot else[])++(Itm.aE 2 c.length++c)).length≤100000;cases hasB p.f 1<;>simp only[if_true,if_false,Av,Ac,Bd]<;>omega
theorem aEa(p:Pr)(w:World){U:View}(x:See U w)(a:p.ok)(f:aI p.dst=true)(g:aI p.src=true)(h:aI p.rpt=true):CP 117 #[.agg #[(.int .u64 (p.f:Int)),(.int .i64 2),(.int .i64 p.dst.s),(.string (B p.dst.l)),(.int .u64 (p.dst.n:Int)),(.int .u64 (p.dst.v:Int)),(.int .i64 p.src.s),(.string (B p.src.l)),(.int .u64 (p.src.n:Int)),(.int .u64 (p.src.v:Int)),(.int .i64 p.rpt.s),(.string (B p.rpt.l)),(.int .u64 (p.rpt.n:Int)),(.int .u64 (p.rpt.v:Int)),(.int .u64 (p.time:Int)),(.int .u64 (p.seq:Int)),(.int .u64 (p.life:Int)),(.int .u64 (p.off:Int)),(.int .u64 (p.tot:Int))]] w (fO w U (IsB (eT (p.setC 2)).length)):=by
 have y:=a.f;have F:=a.time;have G:=a.seq;have I:=a.life;have J:=a.off;have K:=a.tot;have E:=aHm p.f;have L:=Itm.aD 4 (cn1 p.f);have M:=Itm.aD 0 7;have N:=Itm.aD 0 p.f;have O:=Itm.aD 0 2;have V:=Itm.aD 4 2;have X:=Itm.aD 0 p.time;have Y:=Itm.aD 0 p.seq;have Z:=Itm.aD 0 p.life;have l8:=Itm.aD 0 p.off;have l9:=Itm.aD 0 p.tot;have t1:=Itm.cI p.dst.tree;have t2:=Itm.cI p.src.tree;have t3:=Itm.cI p.rpt.tree;have s1:=fS f;have s2:=fS g;have s3:=fS h;refine dE 23 Tryz.func117 x ?_;refine zs (zr (aW (fun c=>(zq 1 (zn (zs ?_))))));refine iM 5 [0,3,3,0,3,0,0,3,0,1,1,1] [(c,1),(c,19),(c,1),(c,1)] [.blk (fun r=>(Sl r 0 4 4)) (oK [(.int .u8 0),(.int .u8 0),(.int .u8 0),(.int .u8 0)] 5),.val (St [UInt8.ofNat (0:Int).toNat,UInt8.ofNat (0:Int).toNat,UInt8.ofNat (0:Int).toNat,UInt8.ofNat (0:Int).toNat]),.val (St (aLR (p.setC 2) [UInt8.ofNat (0:Int).toNat,UInt8.ofNat (0:Int).toNat,UInt8.ofNat (0:Int).toNat,UInt8.ofNat (0:Int).toNat]))] ⟨?_,?_,?_,trivial⟩ ?_
 ·exact vN
 ·exact vB 9 4 13 (fun r=>(Sl r 0 4 4)) [(.int .u8 0),(.int .u8 0),(.int .u8 0),(.int .u8 0)] 5
 ·exact vC 160 #[(.agg #[(N6 p.f),(I6 2),(I6 p.dst.s),(St p.dst.l),(N6 p.dst.n),(N6 p.dst.v),(I6 p.src.s),(St p.src.l),(N6 p.src.n),(N6 p.src.v),(I6 p.rpt.s),(St p.rpt.l),(N6 p.rpt.n),(N6 p.rpt.v),(N6 p.time),(N6 p.seq),(N6 p.life),(N6 p.off),(N6 p.tot)]),(U6 2),(St [UInt8.ofNat (0:Int).toNat,UInt8.ofNat (0:Int).toNat,UInt8.ofNat (0:Int).toNat,UInt8.ofNat (0:Int).toNat])] (fun W d=>aAu (p.setC 2) [UInt8.ofNat (0:Int).toNat,UInt8.ofNat (0:Int).toNat,UInt8.ofNat (0:Int).toNat,UInt8.ofNat (0:Int).toNat] (by decide) W ⟨a.f,a.dst,a.src,a.rpt,a.time,a.seq,a.life,a.off,a.tot⟩ f g h)
 refine pO (fun W d=>aEs (aLR (p.setC 2) [UInt8.ofNat (0:Int).toNat,UInt8.ofNat (0:Int).toNat,UInt8.ofNat (0:Int).toNat,UInt8.ofNat (0:Int).toNat]) (by have D:=aQH p a f g h [UInt8.ofNat (0:Int).toNat,UInt8.ofNat (0:Int).toNat,UInt8.ofNat (0:Int).toNat,UInt8.ofNat (0:Int).toNat] rfl;unfold R47;omega) W d.view) (fun v1 A k j=>?_);obtain⟨u,rfl,q⟩:=j;refine zq 1 (zn (zB [1,0,1,0,0] [(c,19),(c,1)] (dK (fun W d=>aAu (p.setC 2) u oW W ⟨a.f,a.dst,a.src,a.rpt,a.time,a.seq,a.life,a.off,a.tot⟩ f g h) (zq 1 (zn (aA (aO [2] [(St (aLR (p.setC 2) u))] (fun C d=>?_))))))));exact aH d k ⟨_,rfl,aPr (p.setC 2) y u q⟩
theorem aFz(p:Pr)(y:p.ok)(F:cF p=0)(w:World){U:View}(C:See U w):CP 117 #[p.V] w (fO w U (IsB (eT p).length)):=by
 have E:=iU F;unfold dM at E;simp only[Ae,Ak]at E;have D:p.c=0∨p.c=1∨p.c=2:=by omega
 have x:aI p.dst=true:=by simp_all
 have A:aI p.src=true:=by simp_all
 have B:aI p.rpt=true:=by simp_all
 obtain⟨f,c,g,r,k,d,q,a,j,u⟩:=p;simp only at D x A B;rcases D with rfl|rfl|rfl
 ·have h:=aEc ⟨f,0,g,r,k,d,q,a,j,u⟩ w y x A B;exact Calls.retN C h ⟨_,rfl,by rw[aPt _ y];rfl⟩
 ·exact aEb ⟨f,1,g,r,k,d,q,a,j,u⟩ w C y x A B
 ·exact aEa ⟨f,2,g,r,k,d,q,a,j,u⟩ w C y x A B
theorem cW.to0{U:View}{a:Option Addr}{l:List Bk}(h:cW U a l):oS U a l:=⟨h.at_,fun x c=>(h.ok x c).f,by have:=h.len;unfold R47 at this;unfold maxLen;omega⟩
theorem aFO(p:Pr)(l:List Bk)(a:Option Addr)(c:Nat)(w:World){U:View}(L:See U w)(F:p.ok)(E:cW U a l)(G:(eN p l !=0)=true):CP 28 #[bnV p a l.length c] w (Ret (.int .i64 (eN p l)) w):=by
 have j:=E.len;unfold R47 at j;refine dE 102 Tryz.func28 L ?_;refine zs (zr (aW (fun k=>(zq 1 (zn (zs (zB [0,1] [(k,19)] (cY 71 #[(p.V)] (I6 (cF p)) (fun W h=>(aCo p F)▸aBi p W F) ?_))))))));refine zq 1 (zn (zQ 2 (zn (jD (cF p) 0 (fun u _=>?_) (fun u J=>?_)))))
 ·refine zQ 2 (zn (aA (aO [2] [(I6 (cF p))] (fun I h=>?_))));refine⟨?_,h.below⟩;unfold eN;rw[Ar u];rfl
 ·refine zk (zB [0,1,0] [(k,1)] (zn (zs (zQ 1 (zn (aB (eY (α:=Nat) (fun x=>[1,2,4,5].zip [(Pt k 0),(I6 0),(.slice a l.length c),(L6 x)]) (fun x=>U) (fun x=>[(bK k (oO p a l.length c) 29)]) (fun x=>x≤l.length∧aAP (l.drop x)=eN p l) (fun x=>l.length-x) 0 ?_ ?_)))))))
  ·exact⟨Ap _,by rw[Dp];unfold eN;rw[An (by rw[u];exact Bn)]⟩
  intro x M;obtain⟨N,d⟩:=M;refine zs (zQ 4 (zn (cE ((x:Int)<(l.length:Int)) (fun K A=>?_) (fun K A=>?_))))
  ·refine zk (zs (aB (zQ 2 ?_)));obtain⟨f,g⟩:∃y,(l)[x]? =some y:=⟨(l)[x]'oW,Aa _⟩;obtain⟨q,r,rfl,D⟩:=E.at_ x f g;refine cD (Pt q (r+x*5)) (rIx 38 rfl q r l.length c x 5) ?_;refine zU q (r+x*5) f.cs D 38 (.tmp 24) _ Tryz.underlying38 rfl ?_;refine cY 72 #[(f.V)] (I6 (cH f)) (fun W h=>(aCq f)▸aBm f W) ?_;refine zq 1 (zn (zQ 2 (zn (jD (cH f) 0 (fun B C=>?_) (fun B C=>?_)))))
   ·refine zQ 2 (zn (aA (aO [2] [(I6 (cH f))] (fun I h=>?_))));refine⟨?_,h.below⟩;rw[←d,qW g,Ar B];rfl
   ·refine zk (zr (zq 2 (eC 21 ((x:Int)+1) (zq 1 (zn ?_)))));refine nx (x+1) ?_ ?_
    ·exact⟨by omega,by rw[←d,qW g,B];rfl⟩
    ·show l.length-(x+1)<l.length-x;omega
  ·refine aK (zs (zs ?_));rw[eI oW]at d;rw[←d]at G;cases G
def pK(l:List Bk)(t:Int):Nat:=(l.filter fun x=>x.t==t).length
def aNo(l:List Bk)(n:Int):Nat:=(l.filter fun x=>x.n==n).length
theorem aBO(l:List Bk)(y:Bk)(t:Int):pK (l++[y]) t=pK l t+(if y.t==t then 1 else 0):=by
 unfold pK;rw[List.filter_append,Ac];cases h:y.t==t<;>simp[h]
theorem aKW(l:List Bk)(y:Bk)(t:Int):aNo (l++[y]) t=aNo l t+(if y.n==t then 1 else 0):=by
 unfold aNo;rw[List.filter_append,Ac];cases h:y.n==t<;>simp[h]
theorem aOD(l:List Bk)(t:Int):aNo l t≤l.length:=Fh _ _
theorem aKV(l:List Bk)(t:Int):pK l t≤l.length:=Fh _ _
theorem aMI(l:List Bk)(t:Int):decide ((aNo l t:Int)+1>1)=l.any fun z=>z.n==t:=by
 induction l with
 |nil=>rfl
 |cons x l ih=>
  unfold aNo at ih ⊢;rw[Ee,Gh];cases h:x.n==t with
  |true=>simp only[if_true,Ah,Bool.true_or,Ak];omega
  |false=>simp only[Av,if_false,Fc];exact ih
def aGn(pre : List Bk) : List Bk → Bool
 | []=>false
 |y::r=>(pre.any fun z=>z.n==y.n)||aGn (pre++[y]) r
theorem aEX{l:List Bk}{i:Nat}{y:Bk}(h:l[i]? =some y):aGn (l.take i) (l.drop i)=(((l.take i).any fun z=>z.n==y.n)||aGn (l.take (i+1)) (l.drop (i+1))):=by
 rw[fN h,aGn,Ci,h];rfl
theorem aBD{x y:Int}{m:List (Int×Int)}(h:0≤gB y m∧gB y m≤1000000):gB x (bump y m)=if x==y then gB y m+1 else gB x m:=by
 unfold bump;rw[aAZ,IntWalk.i64_in _ oW]
def aOi(l:List Bk):Bool:=((pK l 1:Int)==1)&&decide ((pK l 6:Int)<2)&&decide ((pK l 7:Int)<2)&&decide ((pK l 10:Int)<2)
theorem aG3 : ∀ (r pre : List Bk) (m t : List (Int × Int)), (∀ x, gB x m = (aNo pre x : Int)) → (∀ x, gB x t = (pK pre x : Int)) → pre.length + r.length ≤ 1000000 → tY r m t = (!aGn pre r && aOi (pre ++ r))
 | [],pre,m,t,hm,a,_=>by
  rw[tY,aGn,Aj,a,a,a,a];rfl
 |y::r,pre,m,t,hm,a,hl=>by
  have g:=aOD pre y.n;have f:=aKV pre y.t;rw[Ah]at hl;have d:gB y.n (bump y.n m)=(aNo pre y.n:Int)+1:=by
   rw[aBD (by rw[hm];omega),hm];simp
  rw[tY,aGn,d,aMI];cases h:pre.any fun z=>z.n==y.n with
  |true=>rfl
  |false=>
   rw[An Bn,aG3 r (pre++[y]) _ _ (fun x=>?_) (fun x=>?_) (by rw[Ac,List.length_singleton];omega),Al]
   ·rfl
   ·rw[aBD (by rw[hm];omega),aKW,hm,hm];cases c:x==y.n with
    |true=>
     have:=eq_of_beq c;subst this;simp
    |false=>
     have:(y.n==x)=false:=by rw[Ai]at c ⊢;exact fun e=>c e.symm
     simp[this]
   ·rw[aBD (by rw[a];omega),aBO,a,a];cases c:x==y.t with
    |true=>
     have:=eq_of_beq c;subst this;simp
    |false=>
     have:(y.t==x)=false:=by rw[Ai]at c ⊢;exact fun e=>c e.symm
     simp[this]
theorem aMa{l:List Bk}(h:l.length≤1000000):aF4 l=(!aGn [] l&&aOi l):=aG3 l [] [] [] (fun _=>rfl) (fun _=>rfl) (by simpa using h)
theorem aKH(l:List Bk)(t:Int):(!(aAb l t).2)=((pK l t:Int)==0):=by
 induction l with
 |nil=>rfl
 |cons x l ih=>
  unfold aAb pK at ih ⊢;rw[Eo,Ee];cases h:x.t==t with
  |true=>
   simp only[if_true,Ah];rw[show((((l.filter fun x=>x.t==t).length+1:Nat):Int)==0)=false from Ai.2 oW];rfl
  |false=>simp only[Av,if_false];exact ih
theorem aQO{p:Pr}{l:List Bk}(a:eN p l=0):aU p l=if fK p l !=0 then fK p l else if decide (((jZ p l).length:Int)>4000)then 4 else 0:=by
 unfold aU sQ;rw[a];simp only[show((0:Int) !=0)=false from rfl,Av,if_false];split
 ·rfl
 ·split<;>rfl
theorem rrA{p:Pr}{l:List Bk}(a:eN p l=0)(h:decide ((l.length:Int)>16)=true):aU p l=4:=by
 rw[aQO a];unfold fK;rw[Ar h];rfl
def rrQ(l:List Bk):Bool:=((l.length:Int)==0)||((pK l 1:Int) !=1)||aGn [] l||decide ((pK l 6:Int)>1)||decide ((pK l 7:Int)>1)||decide ((pK l 10:Int)>1)
theorem aN1{l:List Bk}(h:rrQ l=false):((l.length:Int)==0)=false:=by
 unfold rrQ at h;simp only[Bool.or_eq_false_iff]at h;exact h.1.1.1.1.1
theorem aQM(x:Nat):decide ((x:Int)<2)= !decide ((x:Int)>1):=by
 rw[←Ds];exact Dl.2 oW
theorem aNd{l:List Bk}(h:l.length≤1000000):rrQ l=(((l.length:Int)==0)|| !aF4 l):=by
 unfold rrQ;rw[aMa h];unfold aOi;rw[aQM,aQM,aQM,show((pK l 1:Int) !=1)= !((pK l 1:Int)==1)from rfl];cases ((l.length:Int)==0)<;>cases ((pK l 1:Int)==1)<;>cases aGn [] l<;>cases decide ((pK l 6:Int)>1)<;>cases decide ((pK l 7:Int)>1)<;>cases decide ((pK l 10:Int)>1)<;>rfl
theorem rrB{p:Pr}{l:List Bk}(g:eN p l=0)(h:decide ((l.length:Int)>16)=false)(a:rrQ l=true):aU p l=8:=by
 have d:=Au h;rw[aNd oW]at a;rw[aQO g];have f:fK p l=8:=by
  unfold fK;rw[An (by rw[h];exact Bn),Ar];cases c:(l.length:Int)==0 with
  |true=>
   have:l=[]:=Be.1 (by have:=eq_of_beq c;omega);subst this;rfl
  |false=>
   rw[c,Fc]at a;rw[a];simp
 rw[f];rfl
theorem rrC{p:Pr}{l:List Bk}{y:Bk}(x:p.f<W64)(B:eN p l=0)(h:decide ((l.length:Int)>16)=false)(a:rrQ l=false)(j:l[l.length-1]? =some y):
  aU p l=if(y.t !=1)||(((p.time:Int)==0)&&((pK l 7:Int)==0))then 8 else if hasB p.f 1&&decide (IntKind.u64.wrap ((p.off:Int)+(y.d.length:Int))>(p.tot:Int))then 8 else if decide (((jZ p l).length:Int)>4000)then 4 else 0:=by
 have q:=Au h;rw[aNd oW,Bool.or_eq_false_iff]at a;obtain⟨_,a⟩:=a;rw[aQO B];have A:fK p l=if(y.t !=1)||(((p.time:Int)==0)&&((pK l 7:Int)==0))then 8 else if hasB p.f 1&&decide (IntKind.u64.wrap ((p.off:Int)+(y.d.length:Int))>(p.tot:Int))then 8 else 0:=by
  have k:decide (IntKind.u64.wrap ((p.off:Int)+(y.d.length:Int))≤(p.tot:Int))= !decide (IntKind.u64.wrap ((p.off:Int)+(y.d.length:Int))>(p.tot:Int)):=by rw[←Ds];exact Dl.2 oW
  have u:rC l=(y.t==1):=by unfold rC;rw[j]
  have r:aB9 p l=((iY .u64 (p.f:Int) 1==0)|| !decide (IntKind.u64.wrap ((p.off:Int)+(y.d.length:Int))>(p.tot:Int))):=by rw[←k];unfold aB9;rw[j]
  unfold fK;rw[An (by rw[h];exact Bn),a,aKH,u,r,←aPZ p.f x,show(y.t !=1)= !(y.t==1)from rfl,show(iY .u64 (p.f:Int) 1 !=0)= !(iY .u64 (p.f:Int) 1==0)from rfl];generalize decide (IntKind.u64.wrap ((p.off:Int)+(y.d.length:Int))>(p.tot:Int))=c;generalize (iY .u64 (p.f:Int) 1==0)=d;generalize (y.t==1)=f;generalize (((p.time:Int)==0)&&((pK l 7:Int)==0))=g;cases c<;>cases d<;>cases f<;>cases g<;>rfl
 rw[A];generalize decide (IntKind.u64.wrap ((p.off:Int)+(y.d.length:Int))>(p.tot:Int))=c;generalize hasB p.f 1=d;generalize (y.t !=1)=f;generalize (((p.time:Int)==0)&&((pK l 7:Int)==0))=g;cases c<;>cases d<;>cases f<;>cases g<;>rfl
theorem sK(l:List Bk)(a:Option Addr)(c:Nat)(t:Int)(w:World){U:View}(F:See U w)(C:cW U a l):CP 73 #[.slice a l.length c,.int .i64 t] w (Ret (.int .i64 ((pK l t:Nat):Int)) w):=by
 have g:=C.len;unfold R47 at g;refine dE 23 Tryz.func73 F ?_;refine zQ 1 (zn (zQ 1 (zn (zs (zQ 1 (zn (aB (eY (α:=Nat×Nat) (fun x=>[0,1,4,5,6].zip [(.slice a l.length c),(I6 t),(I6 0),(L6 x.2),(L6 x.1)]) (fun x=>U) (fun x=>[]) (fun x=>x.1≤l.length∧x.2=pK (l.take x.1) t) (fun x=>l.length-x.1) (0,0) ?_ ?_))))))))
 ·exact⟨Ap _,rfl⟩
 intro x G;obtain⟨I,d⟩:=G;have A:=aKV (l.take x.1) t;rw[Bb]at A;refine zs (zQ 4 (zn (cE ((x.1:Int)<(l.length:Int)) (fun D k=>?_) (fun D k=>?_))))
 ·refine zk (zs (aB (zQ 2 ?_)));obtain⟨B,f⟩:∃y,(l)[x.1]? =some y:=⟨(l)[x.1]'oW,Aa _⟩;obtain⟨h,j,rfl,u⟩:=C.at_ x.1 B f;refine cD (Pt h (j+x.1*5)) (rIx 38 rfl h j l.length c x.1 5) ?_;refine zq 1 (zV h (j+x.1*5+0) (I6 B.t) (u 0 _ rfl) 3 (.tmp 16) _ Tryz.underlying3 rfl ?_);refine zq 2 (zn (fQ B.t t (fun q r=>?_) (fun q r=>?_)))
  ·refine zr (zq 2 (eC 21 ((x.2:Int)+1) (zq 1 (zn (zr (zq 2 (eC 12 ((x.1:Int)+1) (zq 1 (zn ?_)))))))));refine nx (x.1+1,x.2+1) ?_ ?_
   ·exact⟨by show x.1+1≤l.length;omega,by show x.2+1=_;rw[Ci,f,Option.toList_some,aBO,q,d];rfl⟩
   ·show l.length-(x.1+1)<l.length-x.1;omega
  ·refine zk (zr (zq 2 (eC 12 ((x.1:Int)+1) (zq 1 (zn ?_)))));refine nx (x.1+1,x.2+0) ?_ ?_
   ·exact⟨by show x.1+1≤l.length;omega,by show x.2+0=_;rw[Ci,f,Option.toList_some,aBO,q,d];rfl⟩
   ·show l.length-(x.1+1)<l.length-x.1;omega
 ·refine aK (zQ 2 (zn (aA (aO [4] [(L6 x.2)] (fun J E=>?_)))));refine⟨?_,E.below⟩;rw[Bf oW]at d;rw[←d];rfl
theorem aPO{l:List Bk}{x j:Nat}{n:Int}(h:∀k,k<j→∀z,l[k]? =some z→z.n≠n)(g:x≤j):((l.take x).any fun z=>z.n==n)=false:=by
 rw[Bool.eq_false_iff];intro c;obtain⟨z,f,d⟩:=Fi.1 c;obtain⟨k,a⟩:=Dk.1 f;rw[Ek]at a;split at a
 ·exact h k oW z a (eq_of_beq d)
 ·cases a
theorem aNA{l:List Bk}{x j:Nat}{z:Bk}{n:Int}(d:l[j]? =some z)(c:j<x)(a:z.n=n):((l.take x).any fun z=>z.n==n)=true:=
 Fi.2 ⟨z,Dk.2 ⟨j,by rw[Ek,Ar c];exact d⟩,Cy.2 a⟩
theorem aLF{l:List Bk}{j:Nat}{z:Bk}{n:Int}(f:l[j]? =some z)(h:∀k,k<j→∀z,l[k]? =some z→z.n≠n)(d:z.n≠n):∀k,k<j+1→∀z,l[k]? =some z→z.n≠n:=fun k g q c=>by
 by_cases a:k=j
 ·subst a;rw[f]at c;obtain rfl:=Bs c;exact d
 ·exact h k oW q c
theorem aHQ(l:List Bk)(a:Option Addr)(c:Nat)(w:World){U:View}(X:See U w)(J:cW U a l):CP 74 #[.slice a l.length c] w (Ret (.bool (aGn [] l)) w):=by
 have u:=J.len;unfold R47 at u;refine dE 27 Tryz.func74 X ?_;refine zQ 1 (zn (zs (zQ 1 (zn (aB (eY (α:=Nat) (fun x=>[0,2,3].zip [(.slice a l.length c),(.bool false),(L6 x)]) (fun x=>U) (fun x=>[]) (fun x=>x≤l.length∧aGn (l.take x) (l.drop x)=aGn [] l) (fun x=>l.length-x) 0 ?_ ?_))))))
 ·exact⟨Ap _,rfl⟩
 intro x hx;obtain⟨a1,g⟩:=hx;refine zs (zQ 4 (zn (cE ((x:Int)<(l.length:Int)) (fun O C=>?_) (fun O C=>?_))))
 ·refine zk (zs (aB (zs (zr ?_))));obtain⟨B,h⟩:∃y,(l)[x]? =some y:=⟨(l)[x]'oW,Aa _⟩;obtain⟨d,f,rfl,G⟩:=J.at_ x B h;refine zq 1 (zn (aB (eY (α:=Nat) (fun j=>[0,2,3,4,5,6,7,8].zip [(Sl d f l.length c),(.bool false),(L6 x),(L6 j),(L6 x),(Sl d f l.length c),(L6 l.length),(.bool (decide ((x:Int)<(l.length:Int))))]) (fun j=>U) (fun j=>[]) (fun j=>j≤x∧∀k,k<j→∀z,l[k]? =some z→z.n≠B.n) (fun j=>x-j) 0 ?_ ?_)))
  ·exact⟨Ap _,fun k hk=>absurd hk oW⟩
  intro j Y;obtain⟨Z,r⟩:=Y;refine zs (zQ 3 (zn (cE ((j:Int)<(x:Int)) (fun V D=>?_) (fun V D=>?_))))
  ·refine zk (zs (aB (zs ?_)));obtain⟨L,q⟩:∃y,(l)[j]? =some y:=⟨(l)[j]'oW,Aa _⟩;obtain⟨b1,f1,N,I⟩:=J.at_ j L q;cases N;refine iM 3 [0,0,1,0,1,0,0,1,0,1] [] [.val (Pt d (f+x*5)),.val (I6 B.n),.val (Pt d (f+j*5)),.val (I6 L.n)] ⟨?_,?_,?_,?_,trivial⟩ ?_
   ·exact vR (rIx 38 rfl d f l.length c x 5)
   ·exact vU1 d (f+x*5+1) (G 1 _ rfl) 3 _ _ Tryz.underlying3 rfl
   ·exact vR (rIx 38 rfl d f l.length c j 5)
   ·exact vU1 d (f+j*5+1) (I 1 _ rfl) 3 _ _ Tryz.underlying3 rfl
   refine zq 1 (zn (fQ B.n L.n (fun A E=>?_) (fun A E=>?_)))
   ·refine zQ 1 (zn (aA (aO [2] [(.bool true)] (fun M F=>?_))));refine⟨?_,F.below⟩;rw[←g,aEX h,aNA q oW (eq_of_beq A).symm];rfl
   ·refine zk (zr (zq 2 (eC 15 ((j:Int)+1) (zq 1 (zn ?_)))));refine nx (j+1) ?_ ?_
    ·exact⟨by omega,aLF q r (fun K=>by rw[K]at A;simp at A)⟩
    ·show x-(j+1)<x-j;omega
  ·refine aK (zr (zq 2 (eC 10 ((x:Int)+1) (zq 1 (zn ?_)))));refine nx (x+1) ?_ ?_
   ·exact⟨by omega,by rw[←g,aEX h,aPO r oW,Fc]⟩
   ·show l.length-(x+1)<l.length-x;omega
 ·refine aK (zQ 1 (zn (aA (aO [2] [(.bool false)] (fun M F=>?_)))));refine⟨?_,F.below⟩;rw[←g,eI oW];rfl
theorem aIK{l:List Bk}{i:Nat}{y:Bk}(h:l[i]? =some y):(aAg (l.take (i+1))).length=(aAg (l.take i)).length+(gL y).length:=by
 unfold aAg;rw[Ci,h,Option.toList_some,Bz,Ac];simp
theorem aEu(p:Pr)(l:List Bk)(a:Option Addr)(c:Nat)(w:World){U:View}(Z:See U w)(hp:p.ok)(K:cW U a l)(r:cF p=0)(J:∀x∈l,cH x=0)(Y:l.length≤16):CP 76 #[bnV p a l.length c] w (fO w U (IsB (jZ p l).length)):=by
 have a1:=aBr r;have q:=K.len;unfold R47 at q;have L:=K;refine dE 26 Tryz.func76 Z ?_;refine zs (zr (aW (fun g=>(zq 1 (zn (zB [0,1] [(g,19)] (pO (fun W j=>aFz p hp r W j.view) (fun v1 X k E=>?_))))))));have k2:=K.le k;obtain⟨u,rfl,M⟩:=E;refine cD (St ([159]++u)) (cB _ _ _ _ rfl [159] u kR kR oA) ?_;refine zq 1 (zn (zs (zQ 1 (zn (aB (eY (α:=Nat×List UInt8) (fun x=>[1,2,3,4].zip [(Pt g 0),(St []),(St x.2),(L6 x.1)]) (fun x=>X) (fun x=>[(bK g (oO p a l.length c) 29)]) (fun x=>x.1≤l.length∧x.2.length=1+(eT p).length+(aAg (l.take x.1)).length) (fun x=>l.length-x.1) (0,([159]++u)) ?_ ?_))))))
 ·exact⟨Ap _,by show(([159]++u)).length=_;rw[Ac,M];rfl⟩
 intro x hx;obtain⟨a7,N⟩:=hx;have O:=aBU (l.take x.1) (fun y hy=>J y (Ea hy));rw[Bb]at O;refine zs (zB [0,0,1,0,0] [(g,1)] (zn (cE ((x.1:Int)<(l.length:Int)) (fun r D=>?_) (fun r D=>?_))))
 ·refine zk (zs (aB (zr (cG [0,0,1,0] [(g,1)] ?_))));obtain⟨y3,f⟩:∃y,(l)[x.1]? =some y:=⟨(l)[x.1]'oW,Aa _⟩;obtain⟨B,C,rfl,G⟩:=k2.at_ x.1 y3 f;refine cD (Pt B (C+x.1*5)) (rIx 38 rfl B C l.length c x.1 5) ?_;refine zU B (C+x.1*5) y3.cs G 38 (.tmp 20) _ Tryz.underlying38 rfl ?_;refine mC 118 #[(y3.V)] (IsB (gL y3).length) (fun W j=>aFH y3 (L.ok _ (Ad f)) (J _ (Ad f)) W j.view) (fun v4 V4 I F=>?_);obtain⟨A,rfl,a6⟩:=F;have V:=rV (J _ (Ad f));refine cD (St (x.2++A)) (cB _ _ _ _ rfl x.2 A kR kR oA) ?_;refine zq 1 (zn (zr (zq 2 (eC 15 ((x.1:Int)+1) (zq 1 (zn ?_))))));refine nx (x.1+1,(x.2++A)) ?_ ?_ (d:=fun _ h=>(h.weak I).eqv kR)
  ·exact⟨by show x.1+1≤l.length;omega,by show((x.2++A)).length=_;rw[aIK f,Ac];omega⟩
  ·show l.length-(x.1+1)<l.length-x.1;omega
 ·refine aK (zQ 1 (cD (St (x.2++[255])) (cB _ _ _ _ rfl x.2 [255] kR kR oA) ?_));refine zq 1 (zn (aA (aO [2] [(St (x.2++[255]))] (fun W' j=>?_))));refine aH j k ⟨_,rfl,?_⟩;rw[Bf oW]at N;unfold jZ;simp only[Ac,Ah,Bd];omega
theorem aFN(p:Pr)(l:List Bk)(a:Option Addr)(c:Nat)(w:World){U:View}(hU:See U w)(hp:p.ok)(r:cW U a l)(M:eN p l=0)(hd:∀x∈l,x.d.length≤1000000):CP 28 #[bnV p a l.length c] w (fO w U fun v _=>v=.int .i64 (aU p l)):=by
 have a1:=r.len;unfold R47 at a1;obtain⟨a7,Z⟩:=rN M;have hf:=hp.f;have c2:¬(l.length:Int)=0→IntKind.i64.wrap ((l.length:Int)-1)=((l.length-1:Nat):Int):=fun h=>by
  rw[IntWalk.i64_in _ oW];omega
 refine dE 102 Tryz.func28 hU ?_;refine zs (zr (aW (fun f=>(zq 1 (zn (zs (zB [0,1] [(f,19)] (cY 71 #[(p.V)] (I6 0) (fun W d=>((aCo p hp).trans a7)▸aBi p W hp) ?_))))))));refine zq 1 (zn (zQ 2 (zn (dD (zk (zB [0,1,0] [(f,1)] (zn (zs (zQ 1 (zn (aB (eY (α:=Nat) (fun x=>[1,2,4,5].zip [(Pt f 0),(I6 0),(.slice a l.length c),(L6 x)]) (fun x=>U) (fun x=>[(bK f (oO p a l.length c) 29)]) (fun x=>x≤l.length) (fun x=>l.length-x) 0 ?_ ?_))))))))))))
 ·exact Ap _
 intro x hx;refine zs (zQ 4 (zn (cE ((x:Int)<(l.length:Int)) (fun h0 b6=>?_) (fun h0 b6=>?_))))
 ·refine zk (zs (aB (zQ 2 ?_)));obtain⟨y1,a8⟩:∃y,(l)[x]? =some y:=⟨(l)[x]'oW,Aa _⟩;obtain⟨b1,f1,rfl,c0⟩:=r.at_ x y1 a8;refine cD (Pt b1 (f1+x*5)) (rIx 38 rfl b1 f1 l.length c x 5) ?_;refine zU b1 (f1+x*5) y1.cs c0 38 (.tmp 24) _ Tryz.underlying38 rfl ?_;refine cY 72 #[(y1.V)] (I6 0) (fun W d=>((aCq y1).trans (Z _ (Ad a8)))▸aBm y1 W) ?_;refine zq 1 (zn (zQ 2 (zn (dD (zk (zr (zq 2 (eC 21 ((x:Int)+1) (zq 1 (zn ?_))))))))));refine nx (x+1) ?_ ?_
  ·show x+1≤l.length;omega
  ·show l.length-(x+1)<l.length-x;omega
 ·refine aK (zs (zQ 3 (zn (cE ((l.length:Int)>16) (fun C _=>?_) (fun C c6=>?_)))))
  ·refine zQ 1 (zn (aA (aO [2] [(I6 4)] (fun V d=>?_))));exact aH d (View.le_refl _) (show _=Value.int .i64 (aU p l)from by rw[rrA M C];rfl)
  ·refine zk (zs ?_);refine dH (α:=Bool) (fun E=>[1,2,4,59].zip [(Pt f 0),(I6 0),(.slice a l.length c),(.bool E)]) (fun E=>U) (fun E=>[(bK f (oO p a l.length c) 29)]) (fun E=>E=(rrQ l)) ?_ ?_
   ·refine zr (zq 4 (cN 36 ((l.length:Int)==0) (fun K=>?_) (fun K=>?_)))
    ·refine zq 23 (zn ?_);refine jn true ?_;unfold rrQ;simp only[K,bs,bQ,reduceIte]
    ·refine zq 1 (cY 73 #[(.slice a l.length c),(I6 1)] (I6 ((pK l 1:Nat):Int)) (fun W d=>sK l _ _ 1 W d.view r) ?_);refine zq 3 (cN 41 (((pK l 1:Nat):Int) !=1) (fun O=>?_) (fun O=>?_))
     ·refine zq 18 (zn ?_);refine jn true ?_;unfold rrQ;simp only[K,O,bs,bQ,reduceIte]
     ·refine zq 1 (cY 74 #[(.slice a l.length c)] (.bool (aGn [] l)) (fun W d=>aHQ l _ _ W d.view r) ?_);refine zq 2 (cN 45 (aGn [] l) (fun X=>?_) (fun X=>?_))
      ·refine zq 14 (zn ?_);refine jn true ?_;unfold rrQ;simp only[K,O,X,bs,bQ,reduceIte]
      ·refine zq 1 (cY 73 #[(.slice a l.length c),(I6 6)] (I6 ((pK l 6:Nat):Int)) (fun W d=>sK l _ _ 6 W d.view r) ?_);refine zq 3 (cN 50 (decide (((pK l 6:Nat):Int)>1)) (fun h5=>?_) (fun h5=>?_))
       ·refine zq 9 (zn ?_);refine jn true ?_;unfold rrQ;simp only[K,O,X,h5,bs,bQ,reduceIte]
       ·refine zq 1 (cY 73 #[(.slice a l.length c),(I6 7)] (I6 ((pK l 7:Nat):Int)) (fun W d=>sK l _ _ 7 W d.view r) ?_);refine zq 3 (cN 55 (decide (((pK l 7:Nat):Int)>1)) (fun h6=>?_) (fun h6=>?_))
        ·refine zq 4 (zn ?_);refine jn true ?_;unfold rrQ;simp only[K,O,X,h5,h6,bs,bQ,reduceIte]
        ·refine zq 1 (cY 73 #[(.slice a l.length c),(I6 10)] (I6 ((pK l 10:Nat):Int)) (fun W d=>sK l _ _ 10 W d.view r) ?_);refine zq 2 (zn ?_);refine jn (decide (((pK l 10:Nat):Int)>1)) ?_;unfold rrQ;simp only[K,O,X,h5,h6,bs,bQ,reduceIte]
   intro E g;refine gN E (fun L=>?_) (fun L=>?_)
   ·refine zQ 1 (zn (aA (aO [2] [(I6 8)] (fun V d=>?_))));exact aH d (View.le_refl _) (show _=Value.int .i64 (aU p l)from by rw[rrB M C (g.symm.trans L)];rfl)
   ·have b4:=Ai.1 (aN1 (g.symm.trans L));refine zk (zQ 4 (dS 63 (I6 (IntKind.i64.wrap ((l.length:Int)-1))) (I6 ((l.length-1:Nat):Int)) (Ag (Value.int .i64) (c2 b4)) ?_));obtain⟨u,j⟩:∃y,(l)[(l.length-1)]? =some y:=⟨(l)[(l.length-1)]'oW,Aa _⟩;obtain⟨D,I,rfl,c1⟩:=r.at_ (l.length-1) u j;refine cD (.pointer (some ⟨D,I+(l.length-1)*5,none⟩)) (rIx 38 rfl D I l.length c (l.length-1) 5) ?_;refine zU D (I+(l.length-1)*5) u.cs c1 38 (.tmp 64) _ Tryz.underlying38 rfl ?_;refine aW (fun N=>?_);have c4:=hd _ (Ad j);refine aX 1 N (zn (zs ?_));refine dH (α:=Bool) (fun F=>[1,2,7,79].zip [(Pt f 0),(I6 0),(Pt N 0),(.bool F)]) (fun F=>U) (fun F=>[(bK f (oO p (some ⟨D,I,none⟩) l.length c) 29),(bK N u.cs 38)]) (fun F=>F=((u.t !=1)||(((p.time:Int)==0)&&((pK l 7:Int)==0)))) ?_ ?_
    ·refine zr (cG [0,2,0,0] [(N,1)] (cN 69 (u.t !=1) (fun h8=>?_) (fun h8=>?_)))
     ·refine zq 10 (zn ?_);refine jn true ?_;simp only[h8,bs,bQ,reduceIte]
     ·refine cG [0,0,1,0,0] [(f,1)] (cN 74 ((p.time:Int)==0) (fun h9=>?_) (fun h9=>?_))
      ·refine zq 1 (cY 73 #[(Sl D I l.length c),(I6 7)] (I6 ((pK l 7:Nat):Int)) (fun W d=>sK l _ _ 7 W d.view r) ?_);refine zq 3 (zn ?_);refine jn (((pK l 7:Nat):Int)==0) ?_;simp only[h8,h9,bs,bQ,reduceIte]
      ·refine zq 5 (zn ?_);refine jn false ?_;simp only[h8,h9,bs,bQ,reduceIte]
    intro F B;refine gN F (fun k=>?_) (fun k=>?_)
    ·refine zQ 1 (zn (aA (aO [2] [(I6 8)] (fun V d=>?_))));exact aH d (View.le_refl _) (show _=Value.int .i64 (aU p l)from by rw[rrC hf M C (g.symm.trans L) j];simp only[dC,(B.symm.trans k),bs,bQ,reduceIte])
    ·refine zk (zs ?_);refine dH (α:=Bool) (fun G=>[1,2,97].zip [(Pt f 0),(I6 0),(.bool G)]) (fun G=>U) (fun G=>[(bK f (oO p (some ⟨D,I,none⟩) l.length c) 29),(bK N u.cs 38)]) (fun G=>G=(hasB p.f 1&&decide (IntKind.u64.wrap ((p.off:Int)+(u.d.length:Int))>(p.tot:Int)))) ?_ ?_
     ·refine zr (cG [0,0,1] [(f,1)] (dK (fun W d=>aG0 p.f hf W) (zq 1 (cN 84 (hasB p.f 1) (fun J=>?_) (fun J=>?_)))))
      ·refine cG [0,0,1,0,2,0,0] [(f,1),(N,1)] (dS 91 (U6 (IntKind.u64.wrap (((u.d).length:Nat):Int))) (N6 ((u.d).length:Nat)) (Ag (Value.int .u64) (u64_in oW oW)) ?_);refine cG [0,0,0,1,0,0] [(f,1)] (zn ?_);refine jn (decide ((IntKind.u64.wrap ((p.off:Int)+(((u.d).length:Nat):Int)))>(p.tot:Int))) ?_;simp only[J,bs,bQ,reduceIte]
      ·refine zq 13 (zn ?_);refine jn false ?_;simp only[J,bs,bQ,reduceIte]
     intro G hb8;refine gN G (fun A=>?_) (fun A=>?_)
     ·refine zQ 1 (zn (aA (aO [2] [(I6 8)] (fun V d=>?_))));exact aH d (View.le_refl _) (show _=Value.int .i64 (aU p l)from by rw[rrC hf M C (g.symm.trans L) j];simp only[dC,(B.symm.trans k),(hb8.symm.trans A),bs,bQ,reduceIte])
     ·refine zk (zs (zB [1] [(f,20)] (mC 76 #[(bnV p (some ⟨D,I,none⟩) l.length c)] (IsB (jZ p l).length) (fun W d=>aEu p l _ _ W d.view hp r a7 Z (by have:=Au C;omega)) (fun v4 V4 Y b9=>?_))));obtain⟨m4,rfl,a6⟩:=b9;refine zq 2 (zn (gN (decide ((((m4).length:Nat):Int)>4000)) (fun q=>?_) (fun q=>?_)))
      ·refine zQ 1 (zn (aA (aO [2] [(I6 4)] (fun V d=>?_))));rw[a6]at q;exact aH d Y (show _=Value.int .i64 (aU p l)from by rw[rrC hf M C (g.symm.trans L) j];simp only[dC,(B.symm.trans k),(hb8.symm.trans A),q,bs,bQ,reduceIte])
      ·refine zk (zQ 1 (zn (aA (aO [2] [(I6 0)] (fun V d=>?_)))));rw[a6]at q;exact aH d Y (show _=Value.int .i64 (aU p l)from by rw[rrC hf M C (g.symm.trans L) j];simp only[dC,(B.symm.trans k),(hb8.symm.trans A),q,bs,bQ,reduceIte])
theorem aAA(p:Pr)(l:List Bk)(a:Option Addr)(c:Nat)(w:World){U:View}(d:See U w)(j:p.ok)(g:cW U a l)(k:∀x∈l,x.d.length≤1000000):CP 28 #[bnV p a l.length c] w (fO w U fun v _=>v=.int .i64 (aU p l)):=by
 cases f:(eN p l !=0)with
 |true=>
  have h:aU p l=eN p l:=by unfold aU sQ;rw[Ar f]
  exact Calls.retN d (aFO p l a c w d j g f) (by rw[h])
 |false=>exact aFN p l a c w d j g (by simpa using f) k
def tN(l:List Pa)(id kind:Int):Itm.Tr×Bool:=match l.find? (fun p=>p.id==id)with
 |some p=>(p.v,p.v.k==kind)
 |none=>(Itm.cA 0,false)
theorem aD2{l:List Pa}{c a:Int}{i:Nat}{y:Pa}(h:l[i]? =some y):tN (l.drop i) c a=if(y.id==c)=true then(y.v,y.v.k==a)else tN (l.drop (i+1)) c a:=by
 unfold tN;rw[fN h,Eo];cases y.id==c<;>simp
def aOO(q:Itm.Tr×Bool)(v:Value)(V:View):Prop:=∃cs,v=.tuple #[.agg cs.toArray,.bool q.2]∧TV V q.1 cs
theorem aC5(l:List Pa)(a:Option Addr)(c:Nat)(A j:Int)(w:World){U:View}(hU:See U w)(hl:gF PaR 6 U a l):CP 98 #[.slice a l.length c,.int .i64 A,.int .i64 j] w (fO w U (aOO (tN l A j))):=by
 have K:=hl.len;unfold R47 at K;refine dE 29 Tryz.func98 hU ?_;refine zs (zr (aW (fun B=>(zq 1 (zn (zs (zQ 3 (zn (aB (eY (α:=Nat) (fun x=>[1,2,6,7,10,11,12].zip [(I6 A),(I6 j),(Pt B 0),(.bool false),(.slice a l.length c),(L6 l.length),(L6 x)]) (fun x=>U) (fun x=>[(B,.cells [(I6 0),(U6 0),(St []),S0,(.bool false)].toArray 89 (0,0))]) (fun x=>x≤l.length∧tN (l.drop x) A j=tN l A j) (fun x=>l.length-x) 0 ?_ ?_))))))))))
 ·exact⟨Ap _,rfl⟩
 intro x hx;obtain⟨b8,D⟩:=hx;refine zQ 1 (zn (zs (cE ((x:Int)<(l.length:Int)) (fun h0 N=>?_) (fun h0 N=>?_))))
 ·refine zk (zs (aB (zs (zr ?_))));obtain⟨f,E⟩:∃y,(l)[x]? =some y:=⟨(l)[x]'oW,Aa _⟩;obtain⟨F,G,b3,rfl,a6,Z⟩:=hl.at_ x f E;obtain⟨b4,rfl,L⟩:=Z;obtain⟨q,r,rfl,a8,b6,b7,b5⟩:=L.form;refine cD (Pt F (G+x*6)) (rIx 92 rfl F G l.length c x 6) ?_;refine zU F (G+x*6) [(I6 f.id),(I6 f.v.k),(N6 f.v.n),(St f.v.s),(.slice q f.v.l.length r),(.bool f.v.o)] a6 92 (.tmp 14) _ Tryz.underlying92 rfl ?_;refine aW (fun k=>(aX 1 k (zn (zB [0,2,0,0] [(k,1)] (zn (fQ f.id A (fun O X=>?_) (fun O X=>?_)))))))
  ·refine zs ?_;refine aBe 8 1 0 [20,21,22,23,24,25,26,0] [.val (Pt k 1),.val (tV f.v q r),.val (Pt k 1),.val (Pt k 1),.val (I6 f.v.k),.val (I6 j),.val (.bool (f.v.k==j)),.mem (fun _ _=>True)] 7 [(bK B (tC f.v q r) 89),(bK k [(I6 f.id),(I6 f.v.k),(N6 f.v.n),(St f.v.s),(.slice q f.v.l.length r),(.bool f.v.o)] 92)] kR rfl rfl kR kR kR kR kR kR (by simp only[Bc];refine⟨?_,?_,?_,?_,?_,?_,?_,?_,fun _ h=>by cases h⟩<;>first|trivial|(intro v V V2 I M;(first|trivial|exact PhiMono.go M I|(obtain⟨g,e,M⟩:=M;exact⟨g,e,M.le I⟩)))) kR (show(7:Nat)<8 by decide) rfl ⟨?_,?_,?_,?_,?_,?_,?_,?_,trivial⟩ [1,2,6,7,9,10,11,12,13,14,15,16,17,18,19,20,21,22,23,24,25,26] (fun u=>[(I6 A),(I6 j),(Pt B 0),(.bool false),(Pt k 0),(Sl F G l.length c),(L6 l.length),(L6 x),(.bool (decide ((x:Int)<(l.length:Int)))),(Pt F (G+x*6)),(.agg #[(I6 f.id),(I6 f.v.k),(N6 f.v.n),(St f.v.s),(.slice q f.v.l.length r),(.bool f.v.o)]),(Pt k 0),(I6 f.id),(I6 A),(.bool (f.id==A)),(Pt k 1),(tV f.v q r),(Pt k 1),(Pt k 1),(I6 f.v.k),(I6 j),(.bool (f.v.k==j))]) kF ?_
   ·exact ObS.o 0 (show(0:Nat)≠7 by decide) (oqQ 0 rfl (Pt k 1) (Pt k 1) rfl rfl kF kF) (oqQ 0 rfl (Pt k 1) (Pt k 1) rfl rfl kF kF)
   ·exact ObS.o 1 (show(1:Nat)≠7 by decide) (oqL 1 1 k 5 [(I6 f.id),(I6 f.v.k),(N6 f.v.n),(St f.v.s),(.slice q f.v.l.length r),(.bool f.v.o)] 92 rfl (tV f.v q r) rfl kR kF kF) (oqL 1 1 k 5 [(I6 f.id),(I6 f.v.k),(N6 f.v.n),(St f.v.s),(.slice q f.v.l.length r),(.bool f.v.o)] 92 rfl (tV f.v q r) rfl kR kF kF)
   ·exact ObS.o 2 (show(2:Nat)≠7 by decide) (oqQ 2 rfl (Pt k 1) (Pt k 1) rfl rfl kF kF) (oqQ 2 rfl (Pt k 1) (Pt k 1) rfl rfl kF kF)
   ·exact ObS.o 3 (show(3:Nat)≠7 by decide) (oqQ 3 rfl (Pt k 1) (Pt k 1) rfl rfl kF kF) (oqQ 3 rfl (Pt k 1) (Pt k 1) rfl rfl kF kF)
   ·exact ObS.o 4 (show(4:Nat)≠7 by decide) (oqL 4 1 k 1 [(I6 f.id),(I6 f.v.k),(N6 f.v.n),(St f.v.s),(.slice q f.v.l.length r),(.bool f.v.o)] 92 rfl (I6 f.v.k) rfl kR kF kF) (oqL 4 1 k 1 [(I6 f.id),(I6 f.v.k),(N6 f.v.n),(St f.v.s),(.slice q f.v.l.length r),(.bool f.v.o)] 92 rfl (I6 f.v.k) rfl kR kF kF)
   ·exact ObS.o 5 (show(5:Nat)≠7 by decide) (oqQ 5 rfl (I6 j) (I6 j) rfl rfl kF kF) (oqQ 5 rfl (I6 j) (I6 j) rfl rfl kF kF)
   ·exact ObS.o 6 (show(6:Nat)≠7 by decide) (oqQ 6 rfl (.bool (f.v.k==j)) (.bool (f.v.k==j)) rfl rfl kF kF) (oqQ 6 rfl (.bool (f.v.k==j)) (.bool (f.v.k==j)) rfl rfl kF kF)
   ·exact ObS.st 0 B (oK (tC f.v q r) 89) rfl rfl rfl [6,21] (fun u=>[(Pt B 0),(tV f.v q r)]) kF kF kR
   intro u3 V3 J a7;have k7:=L.le J;refine zq 1 (zn (aA (dL [1,0] [(B,5)] [(tV f.v q r),(.bool (f.v.k==j))] (fun W' Y=>?_))));have C:tN l A j=(f.v,f.v.k==j):=by rw[←D,aD2 E,Ar O]
   rw[C];exact aH Y J ⟨(tC f.v q r),rfl,k7⟩
  ·refine zk (zr (zq 1 (eC 27 ((x:Int)+1) (zq 1 (zn ?_)))));refine nx (x+1) ?_ ?_ (d:=fun _ h=>Mem.sub (Ay _ _) (h.eqv (show _=([(B,.cells [(I6 0),(U6 0),(St []),S0,(.bool false)].toArray 89 (0,0))]:aN)++([(bK k [(I6 f.id),(I6 f.v.k),(N6 f.v.n),(St f.v.s),(.slice q f.v.l.length r),(.bool f.v.o)] 92)]:aN)from by kernel_rfl)))
   ·exact⟨by omega,by rw[←D,aD2 E,O];rfl⟩
   ·show l.length-(x+1)<l.length-x;omega
 ·refine aK (zQ 1 (aX 0 B (zq 1 (zn (aA (dL [1,0] [(B,5)] [(.agg #[(I6 0),(U6 0),(St []),S0,(.bool false)]),(.bool false)] (fun W' Y=>?_)))))));have C:tN l A j=(Itm.cA 0,false):=by rw[←D,eI oW];rfl
  rw[C];exact aH Y (View.le_refl _) ⟨[(I6 0),(U6 0),(St []),S0,(.bool false)],rfl,(TV.num _ 0 (by decide))⟩
def aPN(l:List Pa)(id:Int):Nat:=if(tN l id 0).2=false then 0 else(tN l id 0).1.n
theorem aHz(l:List Pa)(a:Option Addr)(c:Nat)(d:Int)(w:World){U:View}(y:See U w)(B:gF PaR 6 U a l):CP 47 #[.slice a l.length c,.int .i64 d] w (Ret (.tuple #[.int .u64 ((aPN l d:Nat):Int),.bool (tN l d 0).2]) w):=by
 refine dE 18 Tryz.func47 y ?_;refine zQ 2 (zn (zQ 2 (mC 98 #[(.slice a l.length c),(I6 d),(I6 0)] (aOO (tN l d 0)) (fun W g=>aC5 l _ _ d 0 W g.view B) (fun v0 F A j=>?_))));obtain⟨x,rfl,k⟩:=j;obtain⟨G,I,rfl,r,D,E,C⟩:=k.form;refine zq 3 (aW (fun q=>(aX 0 q (zq 1 (zn (zs (zQ 2 (zn (gN (!(tN l d 0).2) (fun h=>?_) (fun h=>?_))))))))))
 ·refine zQ 2 (zn (aA (aO [4,5] [(U6 0),(.bool false)] (fun u g=>?_))));have f:(tN l d 0).2=false:=(by simpa using h);refine⟨?_,g.below⟩;unfold aPN;simp only[dC,f,bs,bQ,reduceIte]
  try rfl
 ·refine zk (zB [0,1,0,0] [(q,1)] (zn (aA (aO [4,5] [(N6 (tN l d 0).1.n),(.bool true)] (fun u g=>?_)))));have f:(tN l d 0).2=true:=(by simpa using h);refine⟨?_,g.below⟩;unfold aPN;simp only[dC,f,bs,bQ,reduceIte]
  try rfl
def aNV(l:List Pa)(id:Int):List UInt8:=if(tN l id 2).2=false then[]else(tN l id 2).1.s
theorem aMQ(l:List Pa)(a:Option Addr)(c:Nat)(d:Int)(w:World){U:View}(y:See U w)(C:gF PaR 6 U a l):CP 48 #[.slice a l.length c,.int .i64 d] w (Ret (.tuple #[.string (B (aNV l d)),.bool (tN l d 2).2]) w):=by
 refine dE 18 Tryz.func48 y ?_;refine zQ 2 (zn (zQ 2 (mC 98 #[(.slice a l.length c),(I6 d),(I6 2)] (aOO (tN l d 2)) (fun W g=>aC5 l _ _ d 2 W g.view C) (fun v0 G A j=>?_))));obtain⟨x,rfl,k⟩:=j;obtain⟨I,J,rfl,r,E,F,D⟩:=k.form;refine zq 3 (aW (fun q=>(aX 0 q (zq 1 (zn (zs (zQ 2 (zn (gN (!(tN l d 2).2) (fun h=>?_) (fun h=>?_))))))))))
 ·refine zQ 2 (zn (aA (aO [4,5] [(St []),(.bool false)] (fun u g=>?_))));have f:(tN l d 2).2=false:=(by simpa using h);refine⟨?_,g.below⟩;unfold aNV;simp only[dC,f,bs,bQ,reduceIte]
  try rfl
 ·refine zk (zB [0,1,0,0] [(q,1)] (zn (aA (aO [4,5] [(St (tN l d 2).1.s),(.bool true)] (fun u g=>?_)))));have f:(tN l d 2).2=true:=(by simpa using h);refine⟨?_,g.below⟩;unfold aNV;simp only[dC,f,bs,bQ,reduceIte]
  try rfl
theorem aLI{a:As}(h:a.right=true):a.r.length=a.t.length:=by
 have c:=As.shaped h;unfold cV at c;simp only[Ae,Ak]at c;exact c.1.2
end Go.Proofs.YtcdjakemdlinhaaGreatDoor.Sx
