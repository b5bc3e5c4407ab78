/-
  Several texts in one: Bun1 Bun2 Bun3 Sli1 Sx12 Sx13 Ins1 Bun4 Bun5 Bun6 Rd1 Sx14 Sx15.
  Conditions: named at each.
-/
import Derived.Test.YtcdjakemdlinhaaGreatDoorG05
import Derived.Lib.Overlaps
import Derived.Lib.AppendZerosOnto
import Derived.Laws.Externs
set_option maxHeartbeats 16000000
set_option linter.unusedSimpArgs false
set_option linter.unusedVariables false
set_option linter.unusedSectionVars false
namespace Go.Proofs.YtcdjakemdlinhaaGreatDoor.Sx
open Go.ChangeShapes Go.WideShapes Go.ChangeAt Go.RowKit Go.Deep
theorem fN{α:Type}{l:List α}{i:Nat}{y:α}(h:l[i]? =some y):l.drop i=y::l.drop (i+1):=by
 obtain⟨a,rfl⟩:=Af.1 h;exact Bx a
theorem eI{α:Type}{l:List α}{i:Nat}(h:¬((i:Int)<(l.length:Int))):l.drop i=[]:=Ff oW
def Bk.none:Bk:=⟨0,0,0,0,[]⟩
def aAb(l:List Bk)(t:Int):Bk×Bool:=match l.find? (fun x=>x.t==t)with
 |some x=>(x,true)
 |none=>(Bk.none,false)
theorem aCS{l:List Bk}{t:Int}{i:Nat}{y:Bk}(h:l[i]? =some y):aAb (l.drop i) t=if(y.t==t)=true then(y,true)else aAb (l.drop (i+1)) t:=by
 unfold aAb;rw[fN h,Eo];cases y.t==t<;>simp
theorem aK9(p:Pr)(l:List Bk)(a:Option Addr)(c:Nat)(t:Int)(w:World){U:View}(L:See U w)(I:cW U a l):CP 229 #[bnV p a l.length c,.int .i64 t] w (Ret (.tuple #[(aAb l t).1.V,.bool (aAb l t).2]) w):=by
 have k:=I.len;unfold R47 at k;refine dE 22 Tryz.func229 L ?_;refine zs (zr (aW (fun B=>(aW (fun f=>(zq 1 (zn (zs (zB [0,1,0,0] [(B,1)] (zn (aB (eY (α:=Nat) (fun x=>[1,4,5,9,10,11].zip [(I6 t),(Pt f 0),(.bool false),(.slice a l.length c),(L6 l.length),(L6 x)]) (fun x=>U) (fun x=>[(bK B (oO p a l.length c) 29),(f,.cells [(I6 0),(I6 0),(U6 0),(I6 0),(St [])].toArray 38 (0,0))]) (fun x=>x≤l.length∧aAb (l.drop x) t=aAb l t) (fun x=>l.length-x) 0 ?_ ?_))))))))))))
 ·exact⟨Ap _,rfl⟩
 intro x M;obtain⟨N,g⟩:=M;refine zQ 1 (zn (zs (cE ((x:Int)<(l.length:Int)) (fun K C=>?_) (fun K C=>?_))))
 ·refine zk (zs (aB (zs (zr ?_))));obtain⟨q,j⟩:∃y,(l)[x]? =some y:=⟨(l)[x]'oW,Aa _⟩;obtain⟨r,A,rfl,G⟩:=I.at_ x q j;refine cD (Pt r (A+x*5)) (rIx 38 rfl r A l.length c x 5) ?_;refine zU r (A+x*5) q.cs G 38 (.tmp 13) _ Tryz.underlying38 rfl ?_;refine aW (fun u=>(aX 2 u (zn (zB [0,3,0,0] [(u,1)] (zn (fQ q.t t (fun D E=>?_) (fun D E=>?_)))))))
  ·refine zB [3] [(u,5)] (aX 1 f (zq 1 (zn (aA (dL [2,0] [(f,5)] [(q.V),(.bool true)] (fun J F=>?_))))));refine⟨?_,F.below⟩;rw[←g,aCS j,Ar D];rfl
  ·refine zk (zr (zq 1 (eC 20 ((x:Int)+1) (zq 1 (zn ?_)))));refine nx (x+1) ?_ ?_ (d:=fun _ h=>Mem.sub (Ay _ _) (h.eqv (show _=([(bK B (oO p (some ⟨r,A,none⟩) l.length c) 29),(f,.cells [(I6 0),(I6 0),(U6 0),(I6 0),(St [])].toArray 38 (0,0))]:aN)++([(bK u q.cs 38)]:aN)from by kernel_rfl)))
   ·exact⟨by omega,by rw[←g,aCS j,D];rfl⟩
   ·show l.length-(x+1)<l.length-x;omega
 ·refine aK (zQ 1 (aX 1 f (zq 1 (zn (aA (dL [2,0] [(f,5)] [(.agg #[(I6 0),(I6 0),(U6 0),(I6 0),(St [])]),(.bool false)] (fun J F=>?_)))))));refine⟨?_,F.below⟩;rw[←g,eI oW];rfl
def rC(l:List Bk):Bool:=match l[l.length-1]? with
 |some x=>x.t==1
 |none=>false
theorem aIR(l:List Bk)(a:Option Addr)(c:Nat)(w:World){U:View}(D:See U w)(A:cW U a l):CP 230 #[.slice a l.length c] w (Ret (.bool (rC l)) w):=by
 have d:=A.len;unfold R47 at d;have u:(l.length:Int)>0→IntKind.i64.wrap ((l.length:Int)-1)=((l.length-1:Nat):Int):=fun h=>by
  rw[IntWalk.i64_in _ oW];omega
 refine dE 16 Tryz.func230 D ?_;refine zQ 1 (zn (zQ 4 (jV 6 ((l.length:Int)>0) (fun C k=>?_) (fun C k=>?_))))
 ·refine zq 4 (dS 10 (I6 (IntKind.i64.wrap ((l.length:Int)-1))) (L6 (l.length-1)) (Ag (Value.int .i64) (u oW)) ?_);obtain⟨x,f⟩:∃y,(l)[(l.length-1)]? =some y:=⟨(l)[(l.length-1)]'oW,Aa _⟩;obtain⟨g,j,rfl,r⟩:=A.at_ (l.length-1) x f;refine cD (.pointer (some ⟨g,j+(l.length-1)*5,none⟩)) (rIx 38 rfl g j l.length c (l.length-1) 5) ?_;refine zq 1 (zV g (j+(l.length-1)*5+0) (I6 x.t) (r 0 _ rfl) 3 (.tmp 12) _ Tryz.underlying3 rfl ?_);refine zq 3 (zn (aA (aO [2] [(.bool (x.t==1))] (fun B q=>?_))));refine⟨?_,q.below⟩;unfold rC;rw[f];rfl
 ·refine zq 10 (zn (aA (aO [2] [(.bool false)] (fun B q=>?_))));refine⟨?_,q.below⟩;unfold rC;rw[Fg oW];rfl
def aB9(p:Pr)(l:List Bk):Bool:=match l[l.length-1]? with
 |some x=>(iY .u64 p.f 1==0)||decide (IntKind.u64.wrap ((p.off:Int)+(x.d.length:Int))≤(p.tot:Int))
 |none=>false
theorem aFa(p:Pr)(l:List Bk)(a:Option Addr)(c:Nat)(w:World){U:View}(F:See U w)(A:cW U a l)(f:rC l=true):CP 232 #[bnV p a l.length c] w (Ret (.bool (aB9 p l)) w):=by
 have k:=A.len;unfold R47 at k;have D:0<l.length:=by
  rcases Nat.eq_zero_or_pos l.length with h|h
  ·unfold rC at f;rw[Fg oW]at f;cases f
  ·exact h
 have B:IntKind.i64.wrap ((l.length:Int)-1)=((l.length-1:Nat):Int):=by
  rw[IntWalk.i64_in _ oW];omega
 refine dE 31 Tryz.func232 F ?_;refine zs (zr (aW (fun j=>(zq 1 (zn (zB [0,1,0,1,0,0] [(j,1),(j,1)] (dS 9 (I6 (IntKind.i64.wrap ((l.length:Int)-1))) (L6 (l.length-1)) (Ag (Value.int .i64) B) ?_)))))));obtain⟨g,d⟩:∃y,(l)[(l.length-1)]? =some y:=⟨(l)[(l.length-1)]'oW,Aa _⟩;obtain⟨q,r,rfl,x⟩:=A.at_ (l.length-1) g d;have C:=(A.ok g (Ad d)).d;unfold R47 at C;refine cD (.pointer (some ⟨q,r+(l.length-1)*5,none⟩)) (rIx 38 rfl q r l.length c (l.length-1) 5) ?_;refine zq 1 (zV q (r+(l.length-1)*5+4) (St g.d) (x 4 _ rfl) 9 (.tmp 11) _ Tryz.underlying9 rfl ?_);refine zq 2 (dS 14 (U6 (IntKind.u64.wrap (((g.d).length:Nat):Int))) (N6 ((g.d).length:Nat)) (Ag (Value.int .u64) (u64_in oW oW)) ?_);refine zq 1 (zn (zB [0,0,1,0,0,0] [(j,1)] (cN 20 ((iY .u64 (p.f:Int) 1)==0) (fun f=>?_) (fun f=>?_))))
 ·refine zq 11 (zn (aA (aO [2] [(.bool true)] (fun E u=>?_))));refine⟨?_,u.below⟩;unfold aB9;rw[d];simp only[dC,f,bs,bQ,reduceIte]
 ·refine cG [0,0,1,0,0,0,0,1,0,0,0] [(j,1),(j,1)] (zn (aA (aO [2] [(.bool (decide ((IntKind.u64.wrap ((p.off:Int)+(((g.d).length:Nat):Int)))≤(p.tot:Int))))] (fun E u=>?_))));refine⟨?_,u.below⟩;unfold aB9;rw[d];simp only[dC,f,bs,bQ,reduceIte]
def aAP(l:List Bk):Int:=match l.find? (fun x=>cH x !=0)with
 |some x=>cH x
 |none=>0
theorem qW{l:List Bk}{i:Nat}{y:Bk}(h:l[i]? =some y):aAP (l.drop i)=if(cH y !=0)=true then cH y else aAP (l.drop (i+1)):=by
 unfold aAP;rw[fN h,Eo];cases cH y !=0<;>simp
def eN(p:Pr)(l:List Bk):Int:=if cF p !=0 then cF p else aAP l
theorem aIQ(p:Pr)(l:List Bk)(a:Option Addr)(c:Nat)(w:World){U:View}(M:See U w)(N:p.ok)(J:cW U a l):CP 201 #[bnV p a l.length c] w (Ret (.int .i64 (eN p l)) w):=by
 have q:=J.len;unfold R47 at q;refine dE 26 Tryz.func201 M ?_;refine zs (zr (aW (fun r=>(zq 1 (zn (zs (zB [0,1] [(r,19)] (dK (fun W f=>tX p W N) (zq 1 (zn (zQ 2 (zn (jD (cF p) 0 (fun B _=>?_) (fun B K=>?_))))))))))))))
 ·refine zQ 2 (zn (aA (aO [2] [(I6 (cF p))] (fun I f=>?_))));refine⟨?_,f.below⟩;unfold eN;rw[Ar B];rfl
 ·refine zk (zs (zB [0,1,0,0] [(r,1)] (zn (aB (eY (α:=Nat) (fun x=>[2,14,15,16].zip [(I6 0),(.slice a l.length c),(L6 l.length),(L6 x)]) (fun x=>U) (fun x=>[(bK r (oO p a l.length c) 29)]) (fun x=>x≤l.length∧aAP (l.drop x)=aAP l) (fun x=>l.length-x) 0 ?_ ?_)))))
  ·exact⟨Ap _,rfl⟩
  intro x O;obtain⟨V,g⟩:=O;refine zQ 1 (zn (zs (cE ((x:Int)<(l.length:Int)) (fun L D=>?_) (fun L D=>?_))))
  ·refine zk (zs (aB (zs (zr ?_))));obtain⟨k,j⟩:∃y,(l)[x]? =some y:=⟨(l)[x]'oW,Aa _⟩;obtain⟨u,A,rfl,G⟩:=J.at_ x k j;refine cD (Pt u (A+x*5)) (rIx 38 rfl u A l.length c x 5) ?_;refine zU u (A+x*5) k.cs G 38 (.tmp 18) _ Tryz.underlying38 rfl ?_;refine aW (fun C=>(aX 1 C (zn (zB [2] [(C,5)] (dK (fun W f=>aAj k W) (zq 1 (zn (zQ 2 (zn (jD (cH k) 0 (fun E F=>?_) (fun E F=>?_)))))))))))
   ·refine zQ 2 (zn (aA (aO [2] [(I6 (cH k))] (fun I f=>?_))));refine⟨?_,f.below⟩;unfold eN;rw[An (by rw[B];exact Bn),←g,qW j,Ar E];rfl
   ·refine zk (zr (zq 1 (eC 25 ((x:Int)+1) (zq 1 (zn ?_)))));refine nx (x+1) ?_ ?_ (d:=fun _ h=>Mem.sub (Ay _ _) (h.eqv (show _=([(bK r (oO p (some ⟨u,A,none⟩) l.length c) 29)]:aN)++([(bK C k.cs 38)]:aN)from by kernel_rfl)))
    ·exact⟨by omega,by rw[←g,qW j,E];rfl⟩
    ·show l.length-(x+1)<l.length-x;omega
  ·refine aK (zQ 1 (zn (aA (aO [2] [(I6 0)] (fun I f=>?_)))));refine⟨?_,f.below⟩;unfold eN;rw[An (by rw[B];exact Bn),←g,eI oW];rfl
theorem aDz:rD Tryz.prog 232 aAC:=aIh Tryz.underlying232 Tryz.underlying3 (fun w=>by kernel_rfl)
def bump(x:Int)(m:List (Int×Int)):List (Int×Int):=oC x (IntKind.i64.wrap (gB x m+1)) m
def tY : List Bk → List (Int × Int) → List (Int × Int) → Bool
 | [],_,t=>(gB 1 t==1)&&decide (gB 6 t<2)&&decide (gB 7 t<2)&&decide (gB 10 t<2)
 |y::r,m,t=>if decide (gB y.n (bump y.n m)>1)then false else tY r (bump y.n m) (bump y.t t)
def aF4(l:List Bk):Bool:=tY l [] []
theorem aCH{l:List Bk}{i:Nat}{y:Bk}{m t:List (Int×Int)}(h:l[i]? =some y):tY (l.drop i) m t=if decide (gB y.n (bump y.n m)>1)then false else tY (l.drop (i+1)) (bump y.n m) (bump y.t t):=by
 rw[fN h,tY]
theorem aK7(l:List Bk)(a:Option Addr)(c:Nat)(w:World){U:View}(Y:See U w)(V:cW U a l):CP 231 #[.slice a l.length c] w (Ret (.bool (aF4 l)) w):=by
 have B:=V.len;unfold R47 at B;refine dE 49 Tryz.func231 Y ?_;refine zQ 1 (zn (zs (zr (aW (fun r=>(aW (fun j=>(zq 2 (zn (zs (zQ 3 (zn (aB (eY (α:=Nat×List (Int×Int)×List (Int×Int)) (fun x=>[2,3,4,9,10,11].zip [(.bool false),(.map (some r)),(.map (some j)),(.slice a l.length c),(L6 l.length),(L6 x.1)]) (fun x=>U) (fun x=>[(r,(mO aAC x.2.1)),(j,(mO aAC x.2.2))]) (fun x=>x.1≤l.length∧tY (l.drop x.1) x.2.1 x.2.2=aF4 l) (fun x=>l.length-x.1) (0,[],[]) ?_ ?_))))))))))))))
 ·exact⟨Ap _,rfl⟩
 intro x Z;obtain⟨a1,g⟩:=Z;refine zQ 1 (zn (zs (cE ((x.1:Int)<(l.length:Int)) (fun X G=>?_) (fun X G=>?_))))
 ·refine zk (zs (aB (zs (zr ?_))));obtain⟨f,q⟩:∃y,(l)[x.1]? =some y:=⟨(l)[x.1]'oW,Aa _⟩;obtain⟨E,F,rfl,O⟩:=V.at_ x.1 f q;refine cD (Pt E (F+x.1*5)) (rIx 38 rfl E F l.length c x.1 5) ?_;refine zU E (F+x.1*5) f.cs O 38 (.tmp 13) _ Tryz.underlying38 rfl ?_;refine aW (fun u=>(aX 2 u (zn (zB [0,0,3] [(u,1)] ?_))));refine pQ aDz 0 r x.2.1 f.n (.tmp 15) (.tmp 17) rfl kR kR kR kR kR ?_;refine zq 1 ?_;refine aJg aDz 0 r x.2.1 f.n (IntKind.i64.wrap ((gB f.n x.2.1)+1)) (.tmp 15) (.tmp 17) (.tmp 19) rfl kR kR kR kR kR kR ?_;refine zn (zB [0,0,3] [(u,1)] ?_);refine pQ aDz 1 j x.2.2 f.t (.tmp 20) (.tmp 22) rfl kR kR kR kR kR ?_;refine zq 1 ?_;refine aJg aDz 1 j x.2.2 f.t (IntKind.i64.wrap ((gB f.t x.2.2)+1)) (.tmp 20) (.tmp 22) (.tmp 24) rfl kR kR kR kR kR kR ?_;refine zn (zB [0,0,3] [(u,1)] ?_);refine pQ aDz 0 r (oC f.n (IntKind.i64.wrap ((gB f.n x.2.1)+1)) x.2.1) f.n (.tmp 25) (.tmp 27) rfl kR kR kR kR kR ?_;refine zq 1 (zn (cE ((gB f.n (oC f.n (IntKind.i64.wrap ((gB f.n x.2.1)+1)) x.2.1))>1) (fun I J=>?_) (fun I J=>?_)))
  ·refine zQ 1 (zn (aA (aO [2] [(.bool false)] (fun C k=>?_))));refine⟨?_,k.below⟩;rw[←g,aCH q];unfold bump;rw[Ar I];rfl
  ·refine zk (zr (zq 1 (eC 30 ((x.1:Int)+1) (zq 1 (zn ?_)))));refine nx (x.1+1,(oC f.n (IntKind.i64.wrap ((gB f.n x.2.1)+1)) x.2.1),(oC f.t (IntKind.i64.wrap ((gB f.t x.2.2)+1)) x.2.2)) ?_ ?_ (d:=fun _ h=>Mem.sub (Ay _ _) (h.eqv (show _=([(r,(mO aAC (oC f.n (IntKind.i64.wrap ((gB f.n x.2.1)+1)) x.2.1))),(j,(mO aAC (oC f.t (IntKind.i64.wrap ((gB f.t x.2.2)+1)) x.2.2)))]:aN)++([(bK u f.cs 38)]:aN)from by kernel_rfl)))
   ·exact⟨by show x.1+1≤_;omega,by rw[←g,aCH q];unfold bump;rw[An (by rw[I];exact Bn)]⟩
   ·show l.length-(x.1+1)<l.length-x.1;omega
 ·refine aK (zQ 1 ?_);refine pQ aDz 1 j x.2.2 1 (.tmp 31) _ rfl kR kR kR kR kR ?_;refine zq 2 (oT 34 (gB 1 x.2.2) 1 (fun A K=>?_) (fun A K=>?_))
  ·refine zq 1 ?_;refine pQ aDz 1 j x.2.2 6 (.tmp 35) _ rfl kR kR kR kR kR ?_;refine zq 3 (jV 39 ((gB 6 x.2.2)<2) (fun D L=>?_) (fun D L=>?_))
   ·refine zq 1 ?_;refine pQ aDz 1 j x.2.2 7 (.tmp 40) _ rfl kR kR kR kR kR ?_;refine zq 3 (jV 44 ((gB 7 x.2.2)<2) (fun M N=>?_) (fun M N=>?_))
    ·refine zq 1 ?_;refine pQ aDz 1 j x.2.2 10 (.tmp 45) _ rfl kR kR kR kR kR ?_;refine zq 3 (zn (aA (aO [2] [(.bool (decide ((gB 10 x.2.2)<2)))] (fun C k=>?_))));refine⟨?_,k.below⟩;rw[←g,eI oW];simp only[tY,dC,A,D,M,bs,bQ,reduceIte]
    ·refine zq 5 (zn (aA (aO [2] [(.bool false)] (fun C k=>?_))));refine⟨?_,k.below⟩;rw[←g,eI oW];simp only[tY,dC,A,D,M,bs,bQ,reduceIte]
   ·refine zq 10 (zn (aA (aO [2] [(.bool false)] (fun C k=>?_))));refine⟨?_,k.below⟩;rw[←g,eI oW];simp only[tY,dC,A,D,bs,bQ,reduceIte]
  ·refine zq 15 (zn (aA (aO [2] [(.bool false)] (fun C k=>?_))));refine⟨?_,k.below⟩;rw[←g,eI oW];simp only[tY,dC,A,bs,bQ,reduceIte]
def fK(p:Pr)(l:List Bk):Int:=if decide ((l.length:Int)>16)then 4 else if !rC l|| !aF4 l||((p.time:Int)==0&& !(aAb l 7).2)|| !aB9 p l then 8 else 0
theorem aIP(p:Pr)(l:List Bk)(a:Option Addr)(c:Nat)(w:World){U:View}(D:See U w)(r:cW U a l):CP 202 #[bnV p a l.length c] w (Ret (.int .i64 (fK p l)) w):=by
 refine dE 39 Tryz.func202 D ?_;refine zs (zr (aW (fun j=>(zq 1 (zn (zs (zB [0,1,0,0] [(j,1)] (zn (cE ((l.length:Int)>16) (fun g _=>?_) (fun g C=>?_))))))))))
 ·refine zQ 1 (zn (aA (aO [2] [(I6 4)] (fun h d=>?_))));exact⟨by simp only[dC,fK,g,bs,bQ,reduceIte],d.below⟩
 ·refine zk (zB [1] [(j,20)] (cY 229 #[(bnV p a l.length c),(I6 7)] (.tuple #[(aAb l 7).1.V,(.bool (aAb l 7).2)]) (fun W d=>aK9 p l _ _ 7 W d.view r) ?_));refine zq 3 (aW (fun B=>(aX 1 B (zq 1 (zn (zs (zB [0,1] [(j,1)] (cY 230 #[(.slice a l.length c)] (.bool (rC l)) (fun W d=>aIR l _ _ W d.view r) ?_))))))));refine zq 2 (cN 18 (!(rC l)) (fun f=>?_) (fun f=>?_))
  ·refine zq 20 (zn (dP (zQ 1 (zn (aA (aO [2] [(I6 8)] (fun h d=>?_)))))));exact⟨by simp only[dC,fK,g,f,bs,bQ,reduceIte],d.below⟩
  ·refine cG [0,1] [(j,1)] (cY 231 #[(.slice a l.length c)] (.bool (aF4 l)) (fun W d=>aK7 l _ _ W d.view r) ?_);refine zq 3 (cN 24 (!(aF4 l)) (fun k=>?_) (fun k=>?_))
   ·refine zq 14 (zn (dP (zQ 1 (zn (aA (aO [2] [(I6 8)] (fun h d=>?_)))))));exact⟨by simp only[dC,fK,g,f,k,bs,bQ,reduceIte],d.below⟩
   ·refine cG [0,0,1,0,0] [(j,1)] (oT 29 (p.time:Int) 0 (fun q x=>?_) (fun q x=>?_))
    ·refine zq 5 (cN 34 (!(aAb l 7).2) (fun u=>?_) (fun u=>?_))
     ·refine zq 4 (zn (dP (zQ 1 (zn (aA (aO [2] [(I6 8)] (fun h d=>?_)))))));exact⟨by simp only[dC,fK,g,f,k,q,u,bs,bQ,reduceIte],d.below⟩
     ·refine cG [1] [(j,20)] (cY 232 #[(bnV p a l.length c)] (.bool (aB9 p l)) (fun W d=>aFa p l _ _ W d.view r (by simpa using f)) ?_);refine zq 2 (zn (gN (!(aB9 p l)) (fun y=>?_) (fun y=>?_)))
      ·refine zQ 1 (zn (aA (aO [2] [(I6 8)] (fun h d=>?_))));exact⟨by simp only[dC,fK,g,f,k,q,u,y,bs,bQ,reduceIte],d.below⟩
      ·refine zk (zQ 1 (zn (aA (aO [2] [(I6 0)] (fun h d=>?_)))));exact⟨by simp only[dC,fK,g,f,k,q,u,y,bs,bQ,reduceIte],d.below⟩
    ·refine cG [0,0,0,0,0,1] [(j,20)] (cY 232 #[(bnV p a l.length c)] (.bool (aB9 p l)) (fun W d=>aFa p l _ _ W d.view r (by simpa using f)) ?_);refine zq 2 (zn (gN (!(aB9 p l)) (fun A=>?_) (fun A=>?_)))
     ·refine zQ 1 (zn (aA (aO [2] [(I6 8)] (fun h d=>?_))));exact⟨by simp only[dC,fK,g,f,k,q,A,bs,bQ,reduceIte],d.below⟩
     ·refine zk (zQ 1 (zn (aA (aO [2] [(I6 0)] (fun h d=>?_)))));exact⟨by simp only[dC,fK,g,f,k,q,A,bs,bQ,reduceIte],d.below⟩
theorem aBr{p:Pr}(h:cF p=0):(eT p).length≤4000:=by
 obtain⟨f,j,g,a,c⟩:=mN (iU h);have q:=tI (2*p.c.toNat);have k:=tW (p:=p) (Z (2*p.c.toNat)) f j g;have d:=aJo (l:=prZ p) a c;have r:=Itm.cI p.tree;unfold eT;unfold Pr.tree prZ at *;omega
theorem rV{x:Bk}(h:cH x=0):(gL x).length≤50000:=by
 obtain⟨r,q,a,c,k,g⟩:=gQ h;have d:=aAh x [];have f:=aJn (l:=dJ x []) a c;have j:=Itm.cI x.tree;unfold gL;unfold Bk.tree at *;simp only[Bd]at d;omega
def aAg(l:List Bk):List UInt8:=l.flatMap gL
def jZ(p:Pr)(l:List Bk):List UInt8:=[159]++eT p++aAg l++[255]
theorem aC3{l:List Bk}{i:Nat}{y:Bk}(h:l[i]? =some y):aAg (l.drop i)=gL y++aAg (l.drop (i+1)):=by
 unfold aAg;rw[fN h,Bu]
theorem aBU : ∀ (l : List Bk), (∀ x ∈ l, cH x = 0) → (aAg l).length ≤ 50000 * l.length
 | [],_=>Bg _
 |x::r,h=>by
  have c:=rV (h x (Ck ..));have d:=aBU r fun y a=>h y (Ce _ a)
  unfold aAg at *;rw[Bu,Ac,Ah];omega
theorem aDW(p:Pr)(l:List Bk)(a:Option Addr)(c:Nat)(w:World){U:View}(N:See U w)(X:p.ok)(L:cW U a l)(D:cF p=0)(K:∀x∈l,cH x=0)(M:l.length≤16):CP 203 #[bnV p a l.length c] w (Ret (.string (B (jZ p l))) w):=by
 have O:=aBr D;have V:=aBU l K;refine dE 37 Tryz.func203 N ?_;refine zs (zr (aW (fun u=>(zq 1 (zn (zB [0,1] [(u,19)] (dK (fun W k=>aCF p W X D) (zq 5 (zn (zs (zr (dK (fun W k=>aAd W) (zq 1 (cD (St ([159]++(eT p))) (cB _ _ _ _ rfl [159] (eT p) kR kR oA) ?_))))))))))))));refine zq 1 (zn (zs (zB [0,1,0,0] [(u,1)] (zn (aB (eY (α:=Nat×List UInt8) (fun x=>[2,3,19,20,21].zip [(St []),(St x.2),(.slice a l.length c),(L6 l.length),(L6 x.1)]) (fun x=>U) (fun x=>[(bK u (oO p a l.length c) 29)]) (fun x=>x.1≤l.length∧x.2++aAg (l.drop x.1)=([159]++eT p)++aAg l) (fun x=>l.length-x.1) (0,[159]++eT p) ?_ ?_))))))
 ·exact⟨Ap _,rfl⟩
 intro x Y;obtain⟨Z,g⟩:=Y;have I:=Ag List.length g;simp only[Ac,Ah,Bd]at I;refine zQ 1 (zn (zs (cE ((x.1:Int)<(l.length:Int)) (fun D F=>?_) (fun D F=>?_))))
 ·refine zk (zs (aB (zs (zr ?_))));obtain⟨j,f⟩:∃y,(l)[x.1]? =some y:=⟨(l)[x.1]'oW,Aa _⟩;obtain⟨A,C,rfl,G⟩:=L.at_ x.1 j f;have r:=K j (Ad f);have J:=L.ok j (Ad f);have a1:=rV r;have q:=Ag List.length (aC3 f);simp only[Ac]at q;refine cD (Pt A (C+x.1*5)) (rIx 38 rfl A C l.length c x.1 5) ?_;refine zU A (C+x.1*5) j.cs G 38 (.tmp 23) _ Tryz.underlying38 rfl ?_;refine aW (fun E=>(aX 1 E (zn (zB [2] [(E,5)] (dK (fun W k=>aIS j W J r) (zq 5 (zn (zr (zq 2 (cD (St (x.2++(gL j))) (cB _ _ _ _ rfl x.2 (gL j) kR kR oA) ?_))))))))));refine zq 1 (zn (zr (zq 1 (eC 33 ((x.1:Int)+1) (zq 1 (zn ?_))))));refine nx (x.1+1,(x.2++(gL j))) ?_ ?_ (d:=fun _ h=>Mem.sub (Ay _ _) (h.eqv (show _=([(bK u (oO p (some ⟨A,C,none⟩) l.length c) 29)]:aN)++([(bK E j.cs 38)]:aN)from by kernel_rfl)))
  ·exact⟨by show x.1+1≤_;omega,by rw[←g,aC3 f,Al]⟩
  ·show l.length-(x.1+1)<l.length-x.1;omega
 ·refine aK (zQ 1 (dK (fun W k=>aAc W) (cD (St (x.2++[255])) (cB _ _ _ _ rfl x.2 [255] kR kR oA) ?_)));refine zq 1 (zn (aA (aO [2] [(St (x.2++[255]))] (fun W' k=>?_))));refine⟨?_,k.below⟩;rw[eI oW]at g;unfold jZ;rw[←g];simp only[dC,aAg,Du,Aj]
theorem rN{p:Pr}{l:List Bk}(h:eN p l=0):cF p=0∧∀x∈l,cH x=0:=by
 unfold eN at h;split at h
 ·next a=>rw[h]at a;cases a
 ·next a=>
  refine⟨by simpa using a,fun x d=>?_⟩;unfold aAP at h;split at h
  ·next y f=>
   have:=Fp f;rw[h]at this;cases this
  ·next c=>
   have:=Fe.1 c x d;simpa using this
def sQ(p:Pr)(l:List Bk):List UInt8×Int:=
 if eN p l !=0 then([],eN p l)else if fK p l !=0 then([],fK p l)else if decide (((jZ p l).length:Int)>4000)then([],4)else(jZ p l,0)
theorem aCn{p:Pr}{l:List Bk}(h:(fK p l !=0)=false):l.length≤16:=by
 unfold fK at h;split at h
 ·cases h
 ·next a=>
  simp only[Ak]at a;omega
theorem aK8(p:Pr)(l:List Bk)(a:Option Addr)(c:Nat)(w:World){U:View}(y:See U w)(r:p.ok)(q:cW U a l):CP 156 #[bnV p a l.length c] w (Ret (.tuple #[.string (B (sQ p l).1),.int .i64 (sQ p l).2]) w):=by
 refine dE 23 Tryz.func156 y ?_;refine zs (zr (aW (fun j=>(zq 2 (zn (zs (zB [1] [(j,20)] (cY 201 #[(bnV p a l.length c)] (I6 (eN p l)) (fun W d=>aIQ p l _ _ W d.view r q) ?_))))))));refine zq 1 (zn (zQ 2 (zn (jD (eN p l) 0 (fun f _=>?_) (fun f u=>?_)))))
 ·refine zQ 3 (zn (aA (aO [2,3] [(St []),(I6 (eN p l))] (fun h d=>?_))));refine⟨?_,d.below⟩;unfold sQ;simp only[dC,f,bs,bQ,reduceIte]
 ·refine zk (zs (zB [1] [(j,20)] (cY 202 #[(bnV p a l.length c)] (I6 (fK p l)) (fun W d=>aIP p l _ _ W d.view q) ?_)));refine zq 1 (zn (zQ 2 (zn (jD (fK p l) 0 (fun g _=>?_) (fun g x=>?_)))))
  ·refine zQ 3 (zn (aA (aO [2,3] [(St []),(I6 (fK p l))] (fun h d=>?_))));refine⟨?_,d.below⟩;unfold sQ;simp only[dC,f,g,bs,bQ,reduceIte]
  ·refine zk (zB [1] [(j,20)] (cY 203 #[(bnV p a l.length c)] (St (jZ p l)) (fun W d=>aDW p l _ _ W d.view r q (rN (by simpa using f)).1 (rN (by simpa using f)).2 (aCn g)) ?_));refine zq 1 (zn (zs (zQ 3 (zn (gN (decide (((((jZ p l)).length:Nat):Int)>4000)) (fun k=>?_) (fun k=>?_))))))
   ·refine zQ 2 (zn (aA (aO [2,3] [(St []),(I6 4)] (fun h d=>?_))));refine⟨?_,d.below⟩;unfold sQ;simp only[dC,f,g,k,bs,bQ,reduceIte]
   ·refine zk (zQ 3 (zn (aA (aO [2,3] [(St (jZ p l)),(I6 0)] (fun h d=>?_)))));refine⟨?_,d.below⟩;unfold sQ;simp only[dC,f,g,k,bs,bQ,reduceIte]
def aU(p:Pr)(l:List Bk):Int:=(sQ p l).2
theorem rT(p:Pr)(l:List Bk)(a:Option Addr)(c:Nat)(w:World){U:View}(g:See U w)(j:p.ok)(h:cW U a l):CP 115 #[bnV p a l.length c] w (Ret (.int .i64 (aU p l)) w):=by
 refine dE 11 Tryz.func115 g ?_;refine zs (zr (aW (fun d=>(zq 1 (zn (zB [1] [(d,20)] (cY 156 #[(bnV p a l.length c)] (.tuple #[(St (sQ p l).1),(I6 (sQ p l).2)]) (fun W f=>aK8 p l _ _ W f.view j h) ?_)))))));refine zq 5 (zn (zQ 2 (zn (aA (iZ 2)))))
theorem aOK(x:Bk)(num:Int)(a:Nat)(w:World){U:View}(d:See U w)(f:U ⟨a,0,none⟩=some (.int .i64 num)):CP 133 #[x.V,.pointer (some ⟨a,0,none⟩)] w (Ret (.bool (x.n==num)) w):=by
 refine dE 8 Tryz.func133 d ?_;refine zs (zr (aW (fun c=>(zq 1 (zn (zB [0,1] [(c,1)] (zV a (0) (I6 num) f 3 (.tmp 1) _ Tryz.underlying3 rfl ?_)))))));refine zq 2 (zn (aA (iZ 3)))
def aIr(num : Int) : Nat → List Bk → Int
 |_,[]=> -1
 |i,x::r=>if x.n==num then(i:Int)else aIr num (i+1) r
def jN(l:List Bk)(num:Int):Int:=aIr num 0 l
theorem sU{l:List Bk}{num:Int}{i:Nat}{y:Bk}(h:l[i]? =some y):aIr num i (l.drop i)=if y.n==num then(i:Int)else aIr num (i+1) (l.drop (i+1)):=by
 rw[fN h,aIr]
theorem pZ(num : Int) : ∀ (i : Nat) (l : List Bk), (aIr num i l = -1 ∧ ∀ x ∈ l, x.n ≠ num) ∨ ∃ (j : Nat) (x : Bk), aIr num i l = ((i + j : Nat) : Int) ∧ l[j]? = some x ∧ x.n = num ∧ j < l.length
 |i,[]=>.inl ⟨rfl,fun x a=>by simp at a⟩
 |i,x::r=>by
  rw[aIr];cases a:x.n==num with
  |true=>exact .inr ⟨0,x,by simp,rfl,eq_of_beq a,by simp⟩
  |false=>
   simp only[Av,if_false];rcases pZ num (i+1) r with⟨c,d⟩|⟨j,y,c,d,g,h⟩
   ·refine .inl ⟨c,fun y f=>?_⟩;rcases Bh.1 f with rfl|f
    ·exact Ai.1 a
    ·exact d y f
   ·exact .inr ⟨j+1,y,by rw[c];congr 1;omega,d,g,by simp;omega⟩
theorem aKs(l:List Bk)(a:Option Addr)(c:Nat)(num:Int)(j:Nat)(w:World){U:View}(G:See U w)(D:cW U a l)(I:U ⟨j,0,none⟩=some (.int .i64 num)):
    CP 67 #[.slice a l.length c,.func (.func 133) #[] #[.pointer (some ⟨j,0,none⟩)]] w (Ret (.int .i64 (jN l num)) w):=by
 have h:=D.len;unfold R47 at h;refine dE 19 Tryz.func67 G ?_;refine zQ 1 (zn (zs (zQ 3 (zn (aB (eY (α:=Nat) (fun x=>[0,1,4,7,8].zip [(.slice a l.length c),(.func (.func 133) #[] #[(Pt j 0)]),(I6 0),(L6 l.length),(L6 x)]) (fun x=>U) (fun x=>[]) (fun x=>x≤l.length∧aIr num x (l.drop x)=jN l num) (fun x=>l.length-x) 0 ?_ ?_))))))
 ·exact⟨Ap _,rfl⟩
 intro x J;obtain⟨K,d⟩:=J;refine zQ 1 (zn (zs (cE ((x:Int)<(l.length:Int)) (fun F u=>?_) (fun F u=>?_))))
 ·refine zk (zs (aB (zQ 2 (zn (zQ 3 ?_)))));obtain⟨k,f⟩:∃y,(l)[x]? =some y:=⟨(l)[x]'oW,Aa _⟩;obtain⟨q,r,rfl,C⟩:=D.at_ x k f;refine cD (Pt q (r+x*5)) (rIx 38 rfl q r l.length c x 5) ?_;refine zU q (r+x*5) k.cs C 38 (.tmp 14) _ Tryz.underlying38 rfl ?_;refine dK (fun W g=>aOK k num j W g.view I) (zn (fQ k.n num (fun A B=>?_) (fun A B=>?_)))
  ·refine zQ 2 (zn (aA (aO [4] [(L6 x)] (fun E g=>?_))));refine⟨?_,g.below⟩;rw[←d,sU f,Ar A];rfl
  ·refine zk (zr (zq 1 (eC 18 ((x:Int)+1) (zq 1 (zn ?_)))));refine nx (x+1) ?_ ?_
   ·exact⟨by omega,by rw[←d,sU f,A];rfl⟩
   ·show l.length-(x+1)<l.length-x;omega
 ·refine aK (zQ 1 (zn (aA (aO [4] [(I6 (-1))] (fun E g=>?_)))));refine⟨?_,g.below⟩;rw[←d,eI oW];rfl
theorem aDX(p:Pr)(l:List Bk)(a:Option Addr)(c:Nat)(num:Int)(w:World){U:View}(k:See U w)(q:cW U a l):CP 87 #[bnV p a l.length c,.int .i64 num] w (Ret (.int .i64 (jN l num)) w):=by
 refine dE 9 Tryz.func87 k ?_;refine zs (zr (aW (fun h=>(aW (fun d=>(zq 1 (zn (zB [0,1,0] [(h,1)] ?_))))))));refine gG [(bK h (oO p a l.length c) 29)] [] d [(I6 num)] 3 kR (fun u g f=>?_);have r:=q.le g;refine cY 67 #[(.slice a l.length c),(.func (.func 133) #[] #[(Pt d 0)])] (I6 (jN l num)) (fun W j=>aKs l _ _ num d W j.view r (f 0 _ rfl)) ?_;refine zq 1 (zn (aA (iZ 4)))
def fP(l:List Bk)(num:Int):Bk×Bool:=match l.find? (fun x=>x.n==num)with
 |some x=>(x,true)
 |none=>(Bk.none,false)
theorem aA1{l:List Bk}{num:Int}(h:jN l num<0):fP l num=(Bk.none,false):=by
 rcases pZ num 0 l with⟨_,a⟩|⟨j,x,d,_⟩
 ·unfold fP;rw[Fe.2 fun x c=>by simpa using a x c]
 ·unfold jN at h;omega
theorem aG9(num : Int) : ∀ (i : Nat) (l : List Bk) (j : Nat), aIr num i l = ((i + j : Nat) : Int) → ∃ x, l[j]? = some x ∧ l.find? (fun x => x.n == num) = some x
 |i,[],j,h=>by unfold aIr at h;omega
 |i,x::r,j,h=>by
  unfold aIr at h;cases a:x.n==num with
  |true=>
   rw[a]at h;simp only[if_true]at h;obtain rfl:j=0:=by omega
   exact⟨x,rfl,by rw[Eo,a]⟩
  |false=>
   rw[a]at h;simp only[Av,if_false]at h;cases j with
   |zero=>
    rcases pZ num (i+1) r with⟨c,_⟩|⟨k,y,c,_⟩<;>omega
   |succ j=>
    obtain⟨y,c,d⟩:=aG9 num (i+1) r j oW;exact⟨y,c,by rw[Eo,a];exact d⟩
theorem pA{l:List Bk}{num:Int}{y:Bk}(g:¬jN l num<0)(f:l[(jN l num).toNat]? =some y):fP l num=(y,true):=by
 have a:jN l num=((0+(jN l num).toNat:Nat):Int):=by omega
 obtain⟨x,c,d⟩:=aG9 num 0 l _ a;rw[f]at c;cases c;unfold fP;rw[d]
theorem aGe{l:List Bk}{num:Int}(c:¬jN l num<0):(jN l num).toNat<l.length∧jN l num=((jN l num).toNat:Int):=by
 rcases pZ num 0 l with⟨a,_⟩|⟨j,x,a,_,_,d⟩<;>unfold jN at* <;>omega
theorem tF(p:Pr)(l:List Bk)(a:Option Addr)(c:Nat)(num:Int)(w:World){U:View}(D:See U w)(A:cW U a l):CP 64 #[bnV p a l.length c,.int .i64 num] w (Ret (.tuple #[(fP l num).1.V,.bool (fP l num).2]) w):=by
 have E:=aGe (l:=l) (num:=num);refine dE 18 Tryz.func64 D ?_;refine zs (zr (aW (fun x=>(aW (fun g=>(zq 1 (zn (zB [1,0] [(x,20)] (cY 87 #[(bnV p a l.length c),(I6 num)] (I6 (jN l num)) (fun W d=>aDX p l _ _ num W d.view A) ?_)))))))));refine zq 1 (zn (zs (zQ 2 (zn (cE ((jN l num)<0) (fun C k=>?_) (fun C k=>?_))))))
 ·refine zQ 1 (aX 1 g (zq 1 (zn (aA (dL [2,0] [(g,5)] [(.agg #[(I6 0),(I6 0),(U6 0),(I6 0),(St [])]),(.bool false)] (fun B d=>?_))))));refine⟨?_,d.below⟩;rw[aA1 oW];rfl
 ·refine zk (zB [0,1,0] [(x,1)] ?_);obtain⟨F,r⟩:=E oW;refine dS 15 (I6 (jN l num)) (I6 ((jN l num).toNat:Int)) (Ag (Value.int .i64) r) ?_;obtain⟨u,f⟩:∃y,(l)[((jN l num).toNat)]? =some y:=⟨(l)[((jN l num).toNat)]'oW,Aa _⟩;obtain⟨h,j,rfl,q⟩:=A.at_ ((jN l num).toNat) u f;refine cD (.pointer (some ⟨h,j+((jN l num).toNat)*5,none⟩)) (lR _ 38 _ _ rfl h j l.length c ((jN l num).toNat) 5 .i64 kR kR (by first|assumption|omega) kR kR) ?_;refine zU h (j+((jN l num).toNat)*5) u.cs q 38 (.tmp 16) _ Tryz.underlying38 rfl ?_;refine aX 1 g (zq 1 (zn (aA (dL [2,0] [(g,5)] [(u.V),(.bool true)] (fun B d=>?_)))));refine⟨?_,d.below⟩;rw[pA oW f];rfl
theorem aPm{A zs:List Value}{k:Nat}(h:k≤A.length):(cK A k zs).take k=A.take k:=by
 unfold cK;rw[Al,List.take_append_of_le_length (by rw[Bb];omega),List.take_take,Nat.min_self]
theorem aJq{A zs:List Value}{k:Nat}(h:k+zs.length≤A.length):(cK A k zs).length=A.length:=by
 unfold cK;simp only[Ac,Bb,Aq];omega
theorem aKS{c a zs:List Value}{i n z:Nat}(g:c.length=n*z)(u:i<n)(x:zs.length=z):(cK (cK (c++a) (0+i*z) (c.drop ((i+1)*z))) (0+(i+(n-(i+1)))*z) zs).take ((n-1)*z)=c.take (i*z)++c.drop ((i+1)*z):=by
 obtain⟨d,rfl⟩:∃d,n=i+1+d:=⟨n-(i+1),by omega⟩;rw[show i+(i+1+d-(i+1))=i+d by omega,show i+1+d-1=i+d by omega,Aw,Aw];have f:(i+1+d)*z=i*z+z+d*z:=by rw[Dq,Dq,Nat.one_mul]
 have q:(i+1)*z=i*z+z:=by rw[Dq,Nat.one_mul]
 have h:(i+d)*z=i*z+d*z:=by rw[Dq]
 have j:(c.drop ((i+1)*z)).length=d*z:=by rw[Aq,g,f,q];omega
 have r:=aJq (A:=c++a) (zs:=c.drop ((i+1)*z)) (k:=i*z) (by rw[j,Ac,g,f];omega);rw[aPm (by rw[r,Ac,g,f,h];omega)];unfold cK;rw[List.take_append_of_le_length (by rw[Ac,j,Bb,Ac,g,f,h];omega)];rw[Bf (by rw[Ac,j,Bb,Ac,g,f,h];omega)];rw[List.take_append_of_le_length (by rw[g,f];omega)]
theorem aE1{W:World}{b c i n z:Nat}{g d:List Value}{t:TypeId}(k:W.heap[b]? =some (.cells (g++d).toArray t (0,0)))(q:g.length=n*z)(u:i<n)(r:n≤c):W.rangeAt b (if c=i+1 then 0 else 0+(i+1)*z) (g.drop ((i+1)*z)):=by
 intro j v a;by_cases h:c=i+1
 ·have:n=i+1:=by omega
  rw[Cj (by rw[q,this];exact Bg _)]at a;simp at a
 ·rw[An h,cell_of_row _ _ _ _ _ _ k,Aw];rw[Ej]at a;have f:=(Af.1 a).1;simp only[Dx];rw[Bp f];exact a
theorem aEZ{W0:Cx}{U:View}{f:aN}{W:World}(b c n i:Nat)(d a:List Value)(g:Mem W0 U ([(b,.cells (d++a).toArray 38 (0,0))]++f) W)(x:(Rw.row b c a).ok 5 n d)(F:∀u∈d,u.oneCell'=true)(D:i<n):
    CP 70 #[.slice (some ⟨b,0,none⟩) n c,.int .i64 (i:Int),.int .i64 ((i+1:Nat):Int)] W (iQ W0 U f fun v V σ'=>σ'=[]∧v=.slice (some ⟨b,0,none⟩) (n-1) c∧V.range b 0 (d.take (i*5)++d.drop ((i+1)*5))):=by
 obtain⟨B,G,r,I⟩:=x;have q:((i:Int)==((i+1:Nat):Int))=false:=Ai.2 oW;have K:(d++a).length=d.length+a.length:=Ac;have h:(d.drop ((i+1)*5)).length=(n-(i+1))*5:=by rw[Aq,B];omega
 have y:=aJq (A:=d++a) (zs:=(d.drop ((i+1)*5))) (k:=0+i*5) oW;refine fU 33 Tryz.func70 g ?_;refine zQ 1 (zn (zQ 5 (cD (.slice (some ⟨b,(0+i*5),none⟩) (i+1-i) (n-i)) (gU 27 38 (.tmp 8) (some (.tmp 9)) (some (.tmp 10)) (some (.tmp 12)) rfl b 0 n c i (i+1) n 5 (i+1-i) (n-i) (0+i*5) kR eR eR eR (by decide) oW oW oW oW oW (by first|rfl|(split<;>omega)) Tryz.underlying27 kR) ?_)));refine zn (zs (zQ 3 (zn (dO ((i:Int)==((i+1:Nat):Int)) q ?_))));refine zk (zQ 3 (zn (zs ?_)));refine iM 1 [0,0,1,0,0,1] [] [.val (Sl b 0 i c),.val (.slice (some ⟨b,(if c=i+1 then 0 else 0+(i+1)*5),none⟩) (n-(i+1)) (c-(i+1)))] ⟨?_,?_,trivial⟩ ?_
 ·exact vR (gU 27 38 (.tmp 20) none (some (.tmp 21)) none rfl b 0 n c 0 i c 5 i c 0 kR eR eR eR (by decide) oW oW oW oW oW (by first|rfl|(split<;>omega)) Tryz.underlying27 kR)
 ·exact vR (gU 27 38 (.tmp 23) (some (.tmp 24)) none none rfl b 0 n c (i+1) n c 5 (n-(i+1)) (c-(i+1)) (if c=i+1 then 0 else 0+(i+1)*5) kR eR eR eR (by decide) oW oW oW oW oW (by first|rfl|(split<;>omega)) Tryz.underlying27 kR)
 refine aNa 0 b 0 i c b (if c=i+1 then 0 else 0+(i+1)*5) (n-(i+1)) (c-(i+1)) 5 (d++a) (d.drop ((i+1)*5)) 38 27 38 (.tmp 22) (.tmp 25) rfl kR kR kR (fun W g=>aE1 (g.own 0 b _ rfl).1 B D r) h (fun u J=>F u (Dd J)) oW oW Tryz.underlying27 kR kR kR ?_;refine zq 1 (zn (zQ 4 (cD (.slice (some ⟨b,(0+(i+(n-(i+1)))*5),none⟩) (0+1) (c-(i+(n-(i+1))))) (gU 27 38 (.tmp 27) (some (.tmp 29)) (some (.tmp 30)) none rfl b 0 (i+(n-(i+1))) c (i+(n-(i+1))) n c 5 (0+1) (c-(i+(n-(i+1)))) (0+(i+(n-(i+1)))*5) kR eR eR eR (by decide) oW oW oW oW oW (by first|rfl|(split<;>omega)) Tryz.underlying27 kR) ?_)));refine aM9 0 b (0+(i+(n-(i+1)))*5) 0 (c-(i+(n-(i+1)))) 5 (cK (d++a) (0+i*5) (d.drop ((i+1)*5))) (.agg #[(I6 0),(I6 0),(U6 0),(I6 0),(St [])]) 38 27 38 (.tmp 31) rfl kR kR (fun W=>by kernel_rfl) rfl kR (by rw[y];omega) Tryz.underlying27 kR kR (fun O C=>?_);refine zn (zQ 2 (zn (aA (aO [6] [(Sl b 0 (i+(n-(i+1))) c)] (fun E g=>?_)))));have j:Mem W0 U ((b,(.cells (cK (cK (d++a) (0+i*5) (d.drop ((i+1)*5))) (0+(i+(n-(i+1)))*5) O).toArray 38 (0,0)))::f) E:=g;obtain⟨V,L,M,N⟩:=j.freezeHead;refine⟨_,V,[],rfl,L,N,rfl,?_,?_⟩
 ·show Value.slice (some ⟨b,0,none⟩) (i+(n-(i+1))) c=_;rw[show i+(n-(i+1))=n-1 by omega]
 ·have:V.range b (0+0) (d.take (i*5)++d.drop ((i+1)*5)):=View.sub M 0 ((n-1)*5) (by rw[Dp];exact aKS B D (by rw[C]));exact this
theorem aEY{W0:Cx}{U:View}{f:aN}{W:World}(b c n i:Nat)(d a:List Value)(g:Mem W0 U ([(b,.cells (d++a).toArray 3 (0,0))]++f) W)(x:(Rw.row b c a).ok 1 n d)(F:∀u∈d,u.oneCell'=true)(D:i<n):
    CP 104 #[.slice (some ⟨b,0,none⟩) n c,.int .i64 (i:Int),.int .i64 ((i+1:Nat):Int)] W (iQ W0 U f fun v V σ'=>σ'=[]∧v=.slice (some ⟨b,0,none⟩) (n-1) c∧V.range b 0 (d.take (i*1)++d.drop ((i+1)*1))):=by
 obtain⟨B,G,r,I⟩:=x;have q:((i:Int)==((i+1:Nat):Int))=false:=Ai.2 oW;have K:(d++a).length=d.length+a.length:=Ac;have h:(d.drop ((i+1)*1)).length=(n-(i+1))*1:=by rw[Aq,B];omega
 have y:=aJq (A:=d++a) (zs:=(d.drop ((i+1)*1))) (k:=0+i*1) oW;refine fU 33 Tryz.func104 g ?_;refine zQ 1 (zn (zQ 5 (cD (.slice (some ⟨b,(0+i*1),none⟩) (i+1-i) (n-i)) (gU 48 3 (.tmp 8) (some (.tmp 9)) (some (.tmp 10)) (some (.tmp 12)) rfl b 0 n c i (i+1) n 1 (i+1-i) (n-i) (0+i*1) kR eR eR eR (by decide) oW oW oW oW oW (by first|rfl|(split<;>omega)) Tryz.underlying48 kR) ?_)));refine zn (zs (zQ 3 (zn (dO ((i:Int)==((i+1:Nat):Int)) q ?_))));refine zk (zQ 3 (zn (zs ?_)));refine iM 1 [0,0,1,0,0,1] [] [.val (Sl b 0 i c),.val (.slice (some ⟨b,(if c=i+1 then 0 else 0+(i+1)*1),none⟩) (n-(i+1)) (c-(i+1)))] ⟨?_,?_,trivial⟩ ?_
 ·exact vR (gU 48 3 (.tmp 20) none (some (.tmp 21)) none rfl b 0 n c 0 i c 1 i c 0 kR eR eR eR (by decide) oW oW oW oW oW (by first|rfl|(split<;>omega)) Tryz.underlying48 kR)
 ·exact vR (gU 48 3 (.tmp 23) (some (.tmp 24)) none none rfl b 0 n c (i+1) n c 1 (n-(i+1)) (c-(i+1)) (if c=i+1 then 0 else 0+(i+1)*1) kR eR eR eR (by decide) oW oW oW oW oW (by first|rfl|(split<;>omega)) Tryz.underlying48 kR)
 refine aNa 0 b 0 i c b (if c=i+1 then 0 else 0+(i+1)*1) (n-(i+1)) (c-(i+1)) 1 (d++a) (d.drop ((i+1)*1)) 3 48 3 (.tmp 22) (.tmp 25) rfl kR kR kR (fun W g=>aE1 (g.own 0 b _ rfl).1 B D r) h (fun u J=>F u (Dd J)) oW oW Tryz.underlying48 kR kR kR ?_;refine zq 1 (zn (zQ 4 (cD (.slice (some ⟨b,(0+(i+(n-(i+1)))*1),none⟩) (0+1) (c-(i+(n-(i+1))))) (gU 48 3 (.tmp 27) (some (.tmp 29)) (some (.tmp 30)) none rfl b 0 (i+(n-(i+1))) c (i+(n-(i+1))) n c 1 (0+1) (c-(i+(n-(i+1)))) (0+(i+(n-(i+1)))*1) kR eR eR eR (by decide) oW oW oW oW oW (by first|rfl|(split<;>omega)) Tryz.underlying48 kR) ?_)));refine aM9 0 b (0+(i+(n-(i+1)))*1) 0 (c-(i+(n-(i+1)))) 1 (cK (d++a) (0+i*1) (d.drop ((i+1)*1))) (I6 0) 3 48 3 (.tmp 31) rfl kR kR (fun W=>by kernel_rfl) rfl kR (by rw[y];omega) Tryz.underlying48 kR kR (fun O C=>?_);refine zn (zQ 2 (zn (aA (aO [6] [(Sl b 0 (i+(n-(i+1))) c)] (fun E g=>?_)))));have j:Mem W0 U ((b,(.cells (cK (cK (d++a) (0+i*1) (d.drop ((i+1)*1))) (0+(i+(n-(i+1)))*1) O).toArray 3 (0,0)))::f) E:=g;obtain⟨V,L,M,N⟩:=j.freezeHead;refine⟨_,V,[],rfl,L,N,rfl,?_,?_⟩
 ·show Value.slice (some ⟨b,0,none⟩) (i+(n-(i+1))) c=_;rw[show i+(n-(i+1))=n-1 by omega]
 ·have:V.range b (0+0) (d.take (i*1)++d.drop ((i+1)*1)):=View.sub M 0 ((n-1)*1) (by rw[Dp];exact aKS B D (by rw[C]));exact this
theorem iQ.mono{W0:Cx}{U:View}{a:aN}{Φ Ψ:Value→View→aN→Prop}{e:Ending}{W':World}(h:iQ W0 U a Φ e W')(g:∀v V σ',Φ v V σ'→Ψ v V σ'):iQ W0 U a Ψ e W':=by
 obtain⟨v,V,σ',f,j,d,c⟩:=h;exact⟨v,V,σ',f,j,d,g v V σ' c⟩
def aAT(l:List Bk)(v:Value)(V:View):Prop:=∃a c,v=.slice a l.length c∧cW V a l
theorem aAT.mono{l:List Bk}{v:Value}{V d:View}(g:View.le V d)(h:aAT l v V):aAT l v d:=by
 obtain⟨a,c,e,f⟩:=h;exact⟨a,c,e,f.le g⟩
theorem cW.openR{U:View}{a:Option Addr}{l:List Bk}(h:cW U a l)(g:l≠[]):∃b f,a=some ⟨b,f,none⟩∧U.range b f (l.flatMap Bk.cs):=by
 obtain⟨b,f,d,_⟩:=h.at_ 0 (l[0]'(by cases l<;>simp_all)) (Aa _);refine⟨b,f,d,cW.flat fun i x k=>?_⟩;obtain⟨q,r,c,j⟩:=h.at_ i x k;rw[d]at c;cases c;exact j
theorem sY : ∀ (l : List Bk) (i : Nat), (l.flatMap Bk.cs).drop (i * 5) = (l.drop i).flatMap Bk.cs
 |l,0=>by simp
 | [],i+1=>by simp
 |x::l,i+1=>by
  rw[Bu,Fb,←sY l i,show(i+1)*5=x.cs.length+i*5 by simp only[Bk.cs,Ah,Bd];omega,Gw];simp
theorem sX : ∀ (l : List Bk) (i : Nat), (l.flatMap Bk.cs).take (i * 5) = (l.take i).flatMap Bk.cs
 |l,0=>by simp
 | [],i+1=>by simp
 |x::l,i+1=>by
  rw[Bu,Ed,Bu,←sX l i,show(i+1)*5=x.cs.length+i*5 by simp only[Bk.cs,Ah,Bd];omega,Gy,Bf oW,Eg]
theorem aIw(l:List Bk)(i:Nat):(l.flatMap Bk.cs).take (i*5)++(l.flatMap Bk.cs).drop ((i+1)*5)=(l.take i++l.drop (i+1)).flatMap Bk.cs:=by
 rw[sX,sY,Bz]
section
variable {P:Program} {n:Nat} {W0:Cx} {s:aZ} {U:View} {σ:aN} {ops:Array Oper} {ds:List Nat} {vs:List Sq} {t:aAQ}
theorem oqK(i : Nat){o : Oper}(A : ops[i]? = some o)(y : o.guard = none)(v : Value)(f : vs[i]? = some (.val v))(ts : List Nat)(c : (Nat → Value) → List Value)(d : ∀ u, (ts.map fun t => look (iP ops ds vs u i ++ aV s ds) t) = (c u).map some)
  (h:∀(u:Nat→Value) (V:View),View.le U V→(∀j,cJ .any ops i j=true→gR vs j (u j) V)→quiet P (ts.zip (c u)) o=some v):Oq P n W0 U σ ops ds vs s i:=
 Oq.op i A _ f fun u V q x=>by
  have B:=h u V q x;refine⟨by unfold cU;rw[y],fun a W r k Q K g=>?_⟩;unfold Oper.wp;rw[mY (iG ts _ r (d u)) B];exact g v W k rfl (Below.refl _ _)
theorem wK{ks : List Nat}{tv : List Sq}{i : Nat}{v : Value}(ts : List Nat)(a : (Nat → Value) → List Value)(h : ∀ (u : Nat → Value) (V : View), View.le U V → aLq ops ks tv u V i → quiet P (ts.zip (a u)) (iC ops i) = some v)
  (k:ops[i]? =some (iC ops i):=by rfl) (j:(iC ops i).guard=none:=by rfl) (c:∀u,(ts.map fun t=>look (iP ops ds vs u i++aV s ds) t)=(a u).map some:=by intro u;kernel_rfl):Oqw P n W0 U σ ops ds ks tv vs s i (.val v):=
 fun q d=>oqK i k j v d ts a c fun u V f g=>h u V f (pB q g)
theorem ObC.o(i:Nat)(a:i≠t.j)(c:i≠t.i)(h:∀σ',Oq P n W0 U (σ++σ') ops ds vs s i):ObC P n W0 U σ ops ds vs s t i:=by
 unfold ObC;rw[An a,An c];exact h
theorem ObC.own(h:aRd P n W0 U σ ops ds vs s t):ObC P n W0 U σ ops ds vs s t t.j:=by
 unfold ObC;rw[Ar rfl];exact h
theorem ObC.take(a:t.i≠t.j)(h:aMR P n W0 U σ ops ds vs s t):ObC P n W0 U σ ops ds vs s t t.i:=by
 unfold ObC;rw[An a,Ar rfl];exact h
end
theorem aAM{P : Program}(w : World)(tS tR e : TypeId)(A : P.underlying tS = some (.slice e))(size : Nat)(B : ∀ w, (Go.sizeOf e).run P w = .ok size w)
  (a b:Addr) (f E g F:Nat) (d:a.block≠b.block) (G I:TypeId) (C D:Nat)
  (u:w.shape? a.block=some (G,C+1)) (x:w.shape? b.block=some (I,D)) (j:w.frozen? b=false) (k:w.frozen? { block:=b.block,off:=D }=false):
  (Extern.SlicesOverlaps.overlaps #[tS,tS] #[tR] #[.slice (some a) f E,.slice (some b) g F]).run P w=.ok (.bool false) w:=by
 have r:(a.block !=b.block)=true:=by simpa using d
 have c:(a.block==b.block)=false:=by simpa using d
 change Sem.run P (α:=Value) (do
  let some t:=(#[tS,tS]:Array TypeId)[0]? |stuck "slices.overlaps: no parameter types"
  let .slice elem ←underlying t|stuck "slices.overlaps: slice type expected"
  let size ←sizeOf elem
  match(some a:Option Addr),(some b:Option Addr)with
  |some a,some b=>
   if f=0∨g=0∨size=0 then pure (Value.bool false)
   else if a.block !=b.block&&(←frozen a)&&(←frozen b)then unsupported .addressObserved
   else do
    if a.block !=b.block then do
     noView a;noView b
     if←mayBeOne a b then return Value.bool ((←choose (.extern "sameAddr.stringBytes" 2))==1)
    pure (Value.bool (a.block==b.block&&a.off<b.off+g*size&&b.off<a.off+f*size))
  |_,_=>pure (Value.bool false)) w=_
 by_cases y:f=0∨g=0∨size=0
 ·simp[run_underlying A,B,y]
 ·cases h : w.frozen? a <;> cases q : w.frozen? { block := a.block, off := C + 1 } <;>
   simp[run_underlying A,B,y,r,c,frozen,noView,viewAt,mayBeOne,stringish,shape,Sem.run,u,x,j,k,h,q]
theorem aHL{w:World}{a:Addr}{v:Value}(h:w.cell? a=some v):∃t k,w.shape? a.block=some (t,k+1):=by
 unfold World.cell? at h;split at h
 ·next c e g d=>
  split at h
  ·cases h
  ·have f:=(Es.1 h).1;refine⟨e,c.size-1,?_⟩;unfold World.shape?;rw[d];simp only[Ab,Am,Fm];omega
 ·cases h
theorem aJQ(l a:aN)(y:Nat×Obj):((l++a)++[y]).Perm ((l++[y])++a):=by
 rw[Al,Al];exact Dw l Bw
section
variable {P:Program} {n:Nat} {W0:Cx} {Q:XQ} {s:aZ} {U:View} {σ:aN} {ops:Array Oper} {l:List Oper} {o:Oper}
theorem aNR(v:Value)(j:known s o=true)(c:∀W:World,Mem W0 U σ W→(execOp (ev s) o).run P W=.ok (.value v) W)(g:eX n o=true)(q:cU ops s o=some true)(k:SXL P n W0 Q ops l (lT o v s) U σ):SXL P n W0 Q ops (o::l) s U σ:=by
 refine pN g q fun a W f d K h=>?_
 unfold Oper.wp;rw[fW f j,c W d];exact h _ _ _ _ _ k (eL f g) d
theorem aNY{fid : FuncId}{d : Func}{tS tR e te : TypeId}{size : Nat}(x y : Operand)(ts : Array TypeId)(M : o.op = .call { callee := .value (.func fid), args := #[x, y], argTypes := ts })(J : P.funcs[fid]? = some d)(c : (d.name == "runtime.NumGoroutine") = false)
  (G:d.body.isNone=true) (L:Extern.findNext d=none) (I:Extern.find d=some (Extern.SlicesOverlaps.overlaps #[tS,tS] #[tR])) (N:P.underlying tS=some (.slice e)) (X:(P.info? e).map (·.size)=some size)
  (k g f C j b a D q:Nat) (cs:List Value) (v0:Value) (O:evS s x=some (.slice (some ⟨g,f,none⟩) C j)) (V:evS s y=some (.slice (some ⟨b,a,none⟩) D q)) (B:U ⟨g,f,none⟩=some v0) (K:σ[k]? =some (b,.cells cs.toArray te (0,0)))
  (W:World) (E:Mem W0 U σ W):(execOp (ev s) o).run P W=.ok (.value (.bool false)) W:=by
 obtain⟨F,_,Z⟩:=E.own k b _ K;have r:g≠b:=fun e=>by rw[Z ⟨g,f,none⟩ e]at B;cases B
 obtain⟨tA,Y,u⟩:=aHL (E.view _ _ B);have A:W.shape? b=some (te,cs.length):=by unfold World.shape?;rw[F];simp
 have h:∀i,W.frozen? ⟨b,i,none⟩=false:=fun i=>by unfold World.frozen?;rw[F];simp
 unfold execOp;simp only[M,resolve,invoke,Sem.run_bind,Sem.run_pure,Result.andThen_ok,Ef,Cf,Dz,dY O,dY V];have:=run_callFunc_extern (P:=P) J c G L I #[.slice (some ⟨g,f,none⟩) C j,.slice (some ⟨b,a,none⟩) D q] W;rw[aAM W tS tR e N size (fun w=>qI X w) ⟨g,f,none⟩ ⟨b,a,none⟩ C j D q r tA te Y cs.length u A (h a) (h _)]at this;exact this
theorem aPk(b f q c k z bytes : Nat)(j : List Value)(e t O : TypeId)(r : Value)(kn kq : IntKind)(x y : Operand)(ho : o.op = .call { callee := .builtin .append, args := #[x, y], argTypes := #[t, O] })(hx : evS s x = some (.slice (some ⟨b, f, none⟩) q c))(hy : evS s y = some (.int kq (k : Int)))
  (hr:∀W,Mem W0 U σ W→W.rangeAt b f j) (Z:j.length=q*z) (hk:0<k) (Y:c<q+k) (a1:q+k≤1000000000) (G:(q+k)*bytes≤140737488355328)
  (hu:P.underlying t=some (.slice e)) (L:P.underlying O=some (.int kn)) (d:(P.info? e).map (fun i=>(i.size,i.bytes,i.zero))=some (z,bytes,some r)) (N:r.cells.size=z) (M:0<z)
  (X:eX n o=true) (hw:cU ops s o=some true)
  (h:∀(g u:Nat) (ys:List Value),q+k≤u→u≤maxLen→(j++ys).length=u*z→SXL P n W0 Q ops l (lT o (.slice (some ⟨g,0,none⟩) (q+k) u) s) U (σ++[(g,.cells (j++ys).toArray e (0,0))])):SXL P n W0 Q ops (o::l) s U σ:=by
 refine pN X hw fun a W F V K hK=>?_
 obtain⟨i,hi,hz,A,C⟩:∃i,P.info? e=some i∧i.zero=some r∧i.size=z∧i.bytes=bytes:=by
  cases hq:P.info? e with
  |none=>rw[hq]at d;cases d
  |some i=>
   rw[hq]at d;simp only[Di,Ab,Am]at d;exact⟨i,rfl,d.2.2,d.1,d.2.1⟩
 subst A C;have D:=aBg (P:=P) (hr W.drew V.drew) Z q c;have B:=Lib.run_append_grow_zeros (P:=P) W t O o.type e i r kq kn hu L hi hz (some ⟨b,f,none⟩) q c j D k hk M Y oW (by
  have:k*i.bytes≤(q+k)*i.bytes:=Nat.mul_le_mul_right _ oW;omega) (growslice_fits Y G)
 have I:=grownCap_ge W (q+k) c e;have J:=grownCap_le_maxLen W (q+k) c e (by unfold maxLen;omega);unfold Oper.wp execOp;simp only[ho,resolve,invoke,builtin,Sem.run_bind,Sem.run_pure,Result.andThen_ok,Ef,Cf,Dz,eG F hx,eG F hy,B];have key:=h W.heap.size (grownCap W (q+k) c e) ((Builtin.zeroCells r.cells k).toList++(Builtin.zeroCells r.cells (grownCap W (q+k) c e-(q+k))).toList) I J (by
  simp only[Ac,Z,Builtin.zeroCells,Array.length_toList,Array.size_map,Array.size_range,N];rw[←Dq,←Dq];congr 1;omega)
 have E:=V.drew.alloc (.cells (j++((Builtin.zeroCells r.cells k).toList++(Builtin.zeroCells r.cells (grownCap W (q+k) c e-(q+k))).toList)).toArray e (0,0));refine hK _ _ _ _ _ key (eL F X) ?_;have e1:(j.toArray++Builtin.zeroCells r.cells k++Builtin.zeroCells r.cells (grownCap W (q+k) c e-(q+k)))=(j++((Builtin.zeroCells r.cells k).toList++(Builtin.zeroCells r.cells (grownCap W (q+k) c e-(q+k))).toList)).toArray:=by
  apply Array.toList_inj.1;simp
 rw[e1];exact E
end
theorem aGR(A B C zs:List Value)(k:Nat)(a:A.length=k)(h:zs.length=B.length):cK (A++B++C) k zs=A++zs++C:=by
 subst a;unfold cK;rw[Al A B C,List.take_left,h,←Ac,←Al,Eu]
theorem aGI(A B:List Value)(k:Nat)(a:A.length=k):(A++B).take k=A:=by
 subst a;exact List.take_left
theorem aQ9(l:List Value)(k m:Nat)(h:k+m≤l.length):∃A B C,l=A++B++C∧A=l.take k∧B=(l.drop k).take m∧A.length=k∧B.length=m:=by
 refine⟨l.take k,(l.drop k).take m,(l.drop k).drop m,?_,rfl,rfl,by rw[Bb];omega,by rw[Bb,Aq];omega⟩;rw[Al,Cn,Cn]
theorem aMt{a ys vs last:List Value}{i:Nat}(h:a.length=i*5)(c:10≤ys.length)(j:vs.length=5)(g:last.length=5):
  (cK (cK (a++ys) (0+i*5) vs) (0+(i+1)*5) last).take ((i+2)*5)=a++vs++last:=by
 obtain⟨A,B,C,rfl,_,_,d,f⟩:=aQ9 ys 5 5 c;rw[show a++(A++B++C)=a++A++(B++C) by simp,aGR a A (B++C) vs _ oW oW,show a++vs++(B++C)=(a++vs)++B++C by simp,
  aGR (a++vs) B C last _ (by rw[Ac];omega) oW]
 exact aGI _ _ _ (by simp only[Ac];omega)
theorem aMs{a c vs:List Value}{i:Nat}(r:a.length=(i+1)*5)(k:5≤c.length)(q:vs.length=5):
  (cK (cK (a++c) (0+(i+1)*5) (a.drop (i*5))) (0+i*5) vs).take ((i+2)*5)=a.take (i*5)++vs++a.drop (i*5):=by
 obtain⟨A,B,C,rfl,_,_,g,j⟩:=aQ9 c 0 5 oW;have d:A=[]:=Be.1 g;subst d;have h:(a.drop (i*5)).length=5:=by rw[Aq];omega
 rw[Ch,←Al,aGR a B C _ _ oW oW];have f:a++a.drop (i*5)++C=a.take (i*5)++a.drop (i*5)++(a.drop (i*5)++C):=by
  rw[Cn,Al]
 rw[f,aGR (a.take (i*5)) (a.drop (i*5)) _ vs _ (by rw[Bb];omega) oW,←Al];exact aGI _ _ _ (by simp only[Ac,Bb,h];omega)
theorem aCN{W:World}{b i:Nat}{f a:List Value}{t:TypeId}(g:W.heap[b]? =some (.cells (f++a).toArray t (0,0))):W.rangeAt b (0+i*5) (f.drop (i*5)):=by
 intro j v c;rw[cell_of_row _ _ _ _ _ _ g,Aw];rw[Ej]at c;have d:=(Af.1 c).1;simp only[Dx];rw[Bp d];exact c
theorem aIq{W:World}{b i:Nat}{f c:List Value}{t:TypeId}(g:W.heap[b]? =some (.cells (f++c).toArray t (0,0))):W.rangeAt b 0 (f.take (i*5)):=by
 intro j v a;rw[cell_of_row _ _ _ _ _ _ g,Aw];rw[Ek]at a;split at a
 ·have d:=(Af.1 a).1;simp only[Dx];rw[Bp d];exact a
 ·cases a
theorem aEP{W0:Cx}{U:View}{j:aN}{W:World}(b c i D C G:Nat)(f d vs:List Value)(g:Mem W0 U ([(b,.cells (f++d).toArray 38 (0,0))]++j) W)(N:(Rw.row b c d).ok 5 (i+1) f)(hi:i≤1000000)(h1:∀u∈f,u.oneCell'=true)(Y:U.range D C vs)(q:vs.length=5)(E:∀u∈vs,u.oneCell'=true):
    CP 78 #[.slice (some ⟨b,0,none⟩) (i+1) c,.int .i64 (i:Int),.slice (some ⟨D,C,none⟩) 1 G] W (iQ W0 U j fun v V σ'=>σ'=[]∧∃b' J,v=.slice (some ⟨b',0,none⟩) (i+2) J∧V.range b' 0 (f.take (i*5)++vs++f.drop (i*5))):=by
 obtain⟨hx,a8,b0,M⟩:=N;have L:((i:Int)==((i+1:Nat):Int))=false:=Ai.2 oW;have b1:(f++d).length=f.length+d.length:=Ac;have h:(f.take (i*5)).length=i*5:=by rw[Bb];omega
 have r:(f.drop (i*5)).length=1*5:=by rw[Aq];omega
 have X:U ⟨D,C,none⟩=some (vs[0]'oW):=Y 0 _ (Aa _);have y:IntKind.i64.wrap (((i+1:Nat):Int)+1)=((i+2:Nat):Int):=by rw[IntWalk.i64_in _ oW];omega
 have Z:IntKind.i64.wrap (((i+2:Nat):Int)-(i:Int))=2:=by rw[IntWalk.i64_in _ oW];omega
 have A:IntKind.i64.wrap ((i:Int)+1)=((i+1:Nat):Int):=by rw[IntWalk.i64_in _ oW];omega
 have a7:c≤9223372036854775807:=by unfold maxLen at M;omega
 refine fU 95 Tryz.func78 g ?_;refine zQ 1 (zn (zQ 2 (cD (.slice (some ⟨b,(0+i*5),none⟩) (i+1-i) (c-i)) (gU 27 38 (.tmp 10) (some (.tmp 11)) none none rfl b 0 (i+1) c i (i+1) c 5 (i+1-i) (c-i) (0+i*5) kR eR eR eR (by decide) oW oW oW oW oW (by first|rfl|(split<;>omega)) Tryz.underlying27 kR) ?_)));refine zn (zQ 3 (zn (zs (zQ 2 (zn (dD (zk (zQ 3 (zn (zs (zQ 3 (zn (dO ((i:Int)==((i+1:Nat):Int)) L ?_)))))))))))));refine zk (zs (zQ 3 (dS 28 (I6 (IntKind.i64.wrap (((i+1:Nat):Int)+1))) (L6 (i+2)) (Ag (Value.int .i64) y) ?_)));refine zq 3 (zn (cE (((i+2:Nat):Int)>(c:Int)) (fun h0 K=>?_) (fun h0 K=>?_)))
 ·refine zQ 2 (cD (Sl b 0 i c) (gU 27 38 (.tmp 32) none (some (.tmp 33)) none rfl b 0 (i+1) c 0 i c 5 i c 0 kR eR eR eR (by decide) oW oW oW oW oW (by first|rfl|(split<;>omega)) Tryz.underlying27 kR) ?_);refine zq 3 (dS 37 (I6 (IntKind.i64.wrap (((i+1:Nat):Int)+1))) (L6 (i+2)) (Ag (Value.int .i64) y) ?_);refine zq 2 (dS 39 (I6 (IntKind.i64.wrap (((i+2:Nat):Int)-(i:Int)))) (I6 2) (Ag (Value.int .i64) Z) ?_);refine aPk b 0 i c 2 5 48 (f.take (i*5)) 38 27 3 (.agg #[(I6 0),(I6 0),(U6 0),(I6 0),(St [])]) .i64 .i64 (.tmp 34) (.tmp 39) rfl kR kR (fun W g=>aIq (g.own 0 b _ rfl).1) h oW oW oW oW Tryz.underlying27 Tryz.underlying3 kR rfl (by decide) kR kR (fun k a B a1 a6 F=>?_);rw[Ac,h]at F;refine aDj (aJQ [(b,(.cells (f++d).toArray 38 (0,0)))] j _) ?_;refine zq 1 (zn (zQ 2 (cD (.slice (some ⟨k,(0+i*5),none⟩) (i+2-i) (a-i)) (gU 27 38 (.tmp 41) (some (.tmp 42)) none none rfl k 0 (i+2) a i (i+2) a 5 (i+2-i) (a-i) (0+i*5) kR eR eR eR (by decide) oW oW oW oW oW (by first|rfl|(split<;>omega)) Tryz.underlying27 kR) ?_)));refine zq 1 ?_;refine aLE 1 k (0+i*5) (i+2-i) (a-i) D C 1 G 1 5 ((f.take (i*5))++B) vs 38 27 27 38 (.tmp 43) (.tmp 44) rfl kR kR kR (by show min _ _=_;omega) (fun W g=>View.range_of Y g.view) (by rw[q]) E (by rw[Ac,h];omega) Tryz.underlying27 kR kR kR ?_;refine zn (zs ?_);refine iM 2 [0,0,0,1,1,0,0,1] [] [.val (L6 (i+1)),.val (.slice (some ⟨k,(0+(i+1)*5),none⟩) (i+2-(i+1)) (a-(i+1))),.val (.slice (some ⟨b,(0+i*5),none⟩) (i+1-i) (c-i))] ⟨?_,?_,?_,trivial⟩ ?_
  ·exact vE (I6 (IntKind.i64.wrap ((i:Int)+1))) (Ag (Value.int .i64) A)
  ·exact vR (gU 27 38 (.tmp 46) (some (.tmp 49)) none none rfl k 0 (i+2) a (i+1) (i+2) a 5 (i+2-(i+1)) (a-(i+1)) (0+(i+1)*5) kR eR eR eR (by decide) oW oW oW oW oW (by first|rfl|(split<;>omega)) Tryz.underlying27 kR)
  ·exact vR (gU 27 38 (.tmp 51) (some (.tmp 52)) none none rfl b 0 (i+1) c i (i+1) c 5 (i+1-i) (c-i) (0+i*5) kR eR eR eR (by decide) oW oW oW oW oW (by first|rfl|(split<;>omega)) Tryz.underlying27 kR)
  refine aLE 1 k (0+(i+1)*5) (i+2-(i+1)) (a-(i+1)) b (0+i*5) (i+1-i) (c-i) 1 5 (cK ((f.take (i*5))++B) (0+i*5) vs) (f.drop (i*5)) 38 27 27 38 (.tmp 50) (.tmp 53) rfl kR kR kR (by show min _ _=_;omega) (fun W g=>aCN (g.own 0 b _ rfl).1) r (fun u O=>h1 u (Dd O)) (by rw[aJq (by rw[Ac,h];omega),Ac,h];omega) Tryz.underlying27 kR kR kR ?_;refine zn (zQ 2 (zn (aA (aO [6] [(Sl k 0 (i+2) a)] (fun I g=>?_)))));have x:Mem W0 U ((k,(.cells (cK (cK ((f.take (i*5))++B) (0+i*5) vs) (0+(i+1)*5) (f.drop (i*5))).toArray 38 (0,0)))::j) I:=g.sub (Fx _ _);obtain⟨V,q1,q2,q3⟩:=x.freezeHead;refine⟨_,V,[],rfl,q1,q3,rfl,_,_,rfl,?_⟩;have:V.range k (0+0) (f.take (i*5)++vs++f.drop (i*5)):=View.sub q2 0 ((i+2)*5) (by rw[Dp];exact aMt h oW q r);exact this
 ·refine zk (zQ 4 (dS 59 (I6 (IntKind.i64.wrap (((i+1:Nat):Int)+1))) (L6 (i+2)) (Ag (Value.int .i64) y) ?_));refine cD (Sl b 0 (i+2) c) (gU 27 38 (.tmp 56) none (some (.tmp 59)) none rfl b 0 (i+1) c 0 (i+2) c 5 (i+2) c 0 kR eR eR eR (by decide) oW oW oW oW oW (by first|rfl|(split<;>omega)) Tryz.underlying27 kR) ?_;refine zq 1 (zn (zs (zQ 5 (dS 65 (I6 (IntKind.i64.wrap ((i:Int)+1))) (L6 (i+1)) (Ag (Value.int .i64) A) ?_))));refine cD (.slice (some ⟨b,(0+(i+1)*5),none⟩) (i+2-(i+1)) (c-(i+1))) (gU 27 38 (.tmp 62) (some (.tmp 65)) none none rfl b 0 (i+2) c (i+1) (i+2) c 5 (i+2-(i+1)) (c-(i+1)) (0+(i+1)*5) kR eR eR eR (by decide) oW oW oW oW oW (by first|rfl|(split<;>omega)) Tryz.underlying27 kR) ?_;refine aNR (.bool false) kR (aNY (fid:=119) (tS:=27) (tR:=4) (te:=38) (size:=5) (.tmp 61) (.tmp 66) _ rfl Tryz.func119 kR kR kR kR Tryz.underlying27 kR 0 D C 1 G b (0+(i+1)*5) (i+2-(i+1)) (c-(i+1)) (f++d) _ kR kR X kR) kR kR ?_;refine zq 1 (zn (dP (zs ?_)));refine iM 2 [0,0,0,1,1,0,0,1] [] [.val (L6 (i+1)),.val (.slice (some ⟨b,(0+(i+1)*5),none⟩) (i+2-(i+1)) (c-(i+1))),.val (.slice (some ⟨b,(0+i*5),none⟩) (i+2-i) (c-i))] ⟨?_,?_,?_,trivial⟩ ?_
  ·exact vE (I6 (IntKind.i64.wrap ((i:Int)+1))) (Ag (Value.int .i64) A)
  ·exact vR (gU 27 38 (.tmp 69) (some (.tmp 72)) none none rfl b 0 (i+2) c (i+1) (i+2) c 5 (i+2-(i+1)) (c-(i+1)) (0+(i+1)*5) kR eR eR eR (by decide) oW oW oW oW oW (by first|rfl|(split<;>omega)) Tryz.underlying27 kR)
  ·exact vR (gU 27 38 (.tmp 74) (some (.tmp 75)) none none rfl b 0 (i+2) c i (i+2) c 5 (i+2-i) (c-i) (0+i*5) kR eR eR eR (by decide) oW oW oW oW oW (by first|rfl|(split<;>omega)) Tryz.underlying27 kR)
  refine aLE 0 b (0+(i+1)*5) (i+2-(i+1)) (c-(i+1)) b (0+i*5) (i+2-i) (c-i) 1 5 (f++d) (f.drop (i*5)) 38 27 27 38 (.tmp 73) (.tmp 76) rfl kR kR kR (by show min _ _=_;omega) (fun W g=>aCN (g.own 0 b _ rfl).1) r (fun u O=>h1 u (Dd O)) oW Tryz.underlying27 kR kR kR ?_;refine zn (zQ 2 (cD (.slice (some ⟨b,(0+i*5),none⟩) (i+2-i) (c-i)) (gU 27 38 (.tmp 78) (some (.tmp 79)) none none rfl b 0 (i+2) c i (i+2) c 5 (i+2-i) (c-i) (0+i*5) kR eR eR eR (by decide) oW oW oW oW oW (by first|rfl|(split<;>omega)) Tryz.underlying27 kR) ?_));refine zq 1 ?_;refine aLE 0 b (0+i*5) (i+2-i) (c-i) D C 1 G 1 5 (cK (f++d) (0+(i+1)*5) (f.drop (i*5))) vs 38 27 27 38 (.tmp 80) (.tmp 81) rfl kR kR kR (by show min _ _=_;omega) (fun W g=>View.range_of Y g.view) (by rw[q]) E (by rw[aJq oW];omega) Tryz.underlying27 kR kR kR ?_;refine zn (zQ 2 (zn (aA (aO [6] [(Sl b 0 (i+2) c)] (fun I g=>?_)))));have x:Mem W0 U ((b,(.cells (cK (cK (f++d) (0+(i+1)*5) (f.drop (i*5))) (0+i*5) vs).toArray 38 (0,0)))::j) I:=g;obtain⟨V,q1,q2,q3⟩:=x.freezeHead;refine⟨_,V,[],rfl,q1,q3,rfl,_,_,rfl,?_⟩;have:V.range b (0+0) (f.take (i*5)++vs++f.drop (i*5)):=View.sub q2 0 ((i+2)*5) (by rw[Dp];exact aMs hx oW q);exact this
def Pr.zero:Pr:=⟨0,0,⟨0,[],0,0⟩,⟨0,[],0,0⟩,⟨0,[],0,0⟩,0,0,0,0,0⟩
def jG(p:Pr)(l:List Bk)(z:Int)(v:Value)(V:View):Prop:=∃a c,v=.tuple #[bnV p a l.length c,.int .i64 z]∧cW V a l
def aB3(p:Pr)(l:List Bk)(v:Value)(V:View):Prop:=∃a c,v=bnV p a l.length c∧cW V a l
theorem aB3.mono{p:Pr}{l:List Bk}{v:Value}{V d:View}(g:View.le V d)(h:aB3 p l v V):aB3 p l v d:=by
 obtain⟨a,c,e,f⟩:=h;exact⟨a,c,e,f.le g⟩
theorem jG.mono{p:Pr}{l:List Bk}{z:Int}{v:Value}{V d:View}(g:View.le V d)(h:jG p l z v V):jG p l z v d:=by
 obtain⟨a,c,e,f⟩:=h;exact⟨a,c,e,f.le g⟩
theorem aGw(p:Pr)(l d:List Bk)(a f:Option Addr)(c g:Nat)(w:World){U:View}(u:See U w)(y:p.ok)(x:cW U f d)(h:aU p d=0):CP 91 #[bnV p a l.length c,.slice f d.length g] w (Ret (.tuple #[bnV p f d.length g,.int .i64 0]) w):=by
 have r:(aU p d !=0)=false:=by simp[h]
 refine dE 16 Tryz.func91 u ?_;refine zs (zr (aW (fun j=>(aW (fun q=>(zq 1 (zn (zQ 2 (aX 0 j (zn (zs (zB [1] [(j,20)] (cY 115 #[(bnV p f d.length g)] (I6 (aU p d)) (fun W k=>rT p d _ _ W k.view y x) ?_)))))))))))));refine zq 1 (zn (zQ 2 (zn (dO ((aU p d) !=0) r ?_))));refine zk (zB [1] [(j,20)] (aX 1 q (zq 1 (zn (aA (dL [2,0] [(q,20)] [(bnV p f d.length g),(I6 0)] (fun A k=>?_)))))));exact⟨rfl,k.below⟩
theorem aGx(p:Pr)(l d:List Bk)(a f:Option Addr)(c q:Nat)(w:World){U:View}(r:See U w)(x:p.ok)(u:cW U f d)(h:(aU p d !=0)=true):CP 91 #[bnV p a l.length c,.slice f d.length q] w (Ret (.tuple #[bnV Pr.zero none 0 0,.int .i64 (aU p d)]) w):=by
 refine dE 16 Tryz.func91 r ?_;refine zs (zr (aW (fun j=>(aW (fun k=>(zq 1 (zn (zQ 2 (aX 0 j (zn (zs (zB [1] [(j,20)] (cY 115 #[(bnV p f d.length q)] (I6 (aU p d)) (fun W g=>rT p d _ _ W g.view x u) ?_)))))))))))));refine zq 1 (zn (zQ 2 (zn (iA ((aU p d) !=0) h ?_))));refine zQ 2 (aX 1 k (zq 1 (zn (aA (dL [2,0] [(k,20)] [(.agg Z20.toArray),(I6 (aU p d))] (fun y g=>?_))))));exact⟨rfl,g.below⟩
def cX(p:Pr)(l:List Bk):Pr:=if aU p l !=0 then Pr.zero else p
def mS(p:Pr)(l:List Bk):List Bk:=if aU p l !=0 then[]else l
theorem cW.nil{U:View}:cW U none []:=⟨fun i x a=>by simp at a,fun x a=>by simp at a,by unfold R47;simp⟩
theorem qF(p:Pr)(l d:List Bk)(a f:Option Addr)(c g:Nat)(w:World){U:View}(j:See U w)(r:p.ok)(k:cW U f d):CP 91 #[bnV p a l.length c,.slice f d.length g] w (fO w U (jG (cX p d) (mS p d) (aU p d))):=by
 unfold cX mS;cases h:aU p d !=0 with
 |true=>exact Calls.retN j (aGx p l d a f c g w j r k h) ⟨none,0,rfl,cW.nil⟩
 |false=>
  have q:aU p d=0:=by simpa using h
  rw[q];exact Calls.retN j (aGw p l d a f c g w j r k q) ⟨f,g,rfl,k⟩
def aGf(l : List Bk) : Nat → Nat → Nat
 |0,n=>n
 |f+1,n=>if jN l (n:Int)<0 then n else aGf l f (n+1)
def mE(l:List Bk):Nat:=aGf l l.length 2
def aAl(l:List Bk)(n:Nat):List Bk:=l.filter fun x=>decide ((n:Int)≤x.n)
theorem aMP{l:List Bk}{n:Nat}:(aAl l (n+1)).length≤(aAl l n).length:=by
 unfold aAl
 induction l with
 |nil=>exact Bg _
 |cons x l ih=>
  rw[Ee,Ee];by_cases a:((n+1:Nat):Int)≤x.n
  ·rw[Ar (by simpa using a),Ar (by simp;omega)];simp only[Ah];omega
  ·rw[An (by simpa using a)];split
   ·simp only[Ah];omega
   ·exact ih
theorem aHy{l:List Bk}{n:Nat}(h:∃x∈l,x.n=(n:Int)):(aAl l (n+1)).length<(aAl l n).length:=by
 induction l with
 |nil=>obtain⟨x,a,_⟩:=h;simp at a
 |cons y l ih=>
  obtain⟨x,a,g⟩:=h;have c:=aMP (l:=l) (n:=n);unfold aAl at ih c ⊢;rw[Ee,Ee];by_cases d:((n+1:Nat):Int)≤y.n
  ·rw[Ar (by simpa using d),Ar (by simp;omega)];rcases Bh.1 a with rfl|a
   ·omega
   ·have:=ih ⟨x,a,g⟩;simp only[Ah];omega
  ·rw[An (by simpa using d)];by_cases f:(n:Int)≤y.n
   ·rw[Ar (by simpa using f)];simp only[Ah];omega
   ·rw[An (by simpa using f)];rcases Bh.1 a with rfl|a
    ·omega
    ·exact ih ⟨x,a,g⟩
theorem aHa{l:List Bk}{num:Int}(h:¬jN l num<0):∃x∈l,x.n=num:=by
 rcases pZ num 0 l with⟨d,_⟩|⟨j,x,_,a,c,_⟩
 ·unfold jN at h;omega
 ·exact⟨x,Ad a,c⟩
theorem aMx{l:List Bk}{x f:Nat}(g:2≤x)(h:x-2+(aAl l x).length≤l.length)(a:aGf l f x=mE l)(j:(aAl l x).length≤f)(c:¬jN l (x:Int)<0):
  2≤x+1∧x+1-2+(aAl l (x+1)).length≤l.length∧∃f,aGf l f (x+1)=mE l∧(aAl l (x+1)).length≤f:=by
 have d:=aHy (aHa c);cases f with
 |zero=>omega
 |succ f=>
  rw[aGf,An c]at a;exact⟨by omega,by omega,f,a,by omega⟩
theorem aE9(p:Pr)(l:List Bk)(a:Option Addr)(c:Nat)(w:World){U:View}(B:See U w)(y:cW U a l):CP 38 #[bnV p a l.length c] w (Ret (.int .i64 ((mE l:Nat):Int)) w):=by
 have d:=y.len;unfold R47 at d;refine dE 11 Tryz.func38 B ?_;refine zs (zr (aW (fun h=>(zq 1 (zn (zQ 1 (zn (zs (aB (eY (α:=Nat) (fun x=>[1,2,3].zip [(Pt h 0),(I6 0),(L6 x)]) (fun x=>U) (fun x=>[(bK h (oO p a l.length c) 29)]) (fun x=>2≤x∧x-2+(aAl l x).length≤l.length∧∃f,aGf l f x=mE l∧(aAl l x).length≤f) (fun x=>(aAl l x).length) 2 ?_ ?_))))))))))
 ·exact⟨Bg _,by simp only[Dc,Aw];exact Fh _ _,l.length,rfl,Fh _ _⟩
 intro x C;obtain⟨q,r,f,g,u⟩:=C;refine zs (zB [1,0] [(h,20)] (cY 87 #[(bnV p a l.length c),(L6 x)] (I6 (jN l (x:Int))) (fun W k=>aDX p l _ _ (x:Int) W k.view y) ?_));refine zq 1 (zn (cE ((jN l (x:Int))≥0) (fun A j=>?_) (fun A j=>?_)))
 ·refine zk (aB (zr (zq 2 (eC 9 ((x:Int)+1) (zq 1 (zn ?_))))));refine nx (x+1) ?_ ?_
  ·exact aMx q r g u oW
  ·exact aHy (aHa oW)
 ·refine aK (zQ 2 (zn (aA (aO [2] [(L6 x)] (fun D k=>?_)))));refine⟨?_,k.below⟩;show Ending.returned (Value.int .i64 (x:Int))=_;rw[←g];cases f with
  |zero=>rfl
  |succ f=>rw[aGf,Ar oW]
def cZ(l:List Bk)(i:Nat):List Bk:=l.take i++l.drop (i+1)
theorem aKQ{l:List Bk}{i:Nat}(h:i<l.length):(cZ l i).length=l.length-1:=by
 unfold cZ;rw[Ac,Bb,Aq];omega
theorem aAH{V:View}{b c n:Nat}{l:List Bk}{v:Value}(g:V.range b 0 (l.flatMap Bk.cs))(h:v=.slice (some ⟨b,0,none⟩) n c)(f:n=l.length)(d:∀x∈l,x.ok)(a:l.length≤R47):aAT l v V:=by
 subst f;exact⟨_,c,h,cW.of g d a⟩
theorem aMM(p:Pr)(l:List Bk)(a:Option Addr)(c:Nat)(num:Int)(i:Nat)(w:World){U:View}(hU:See U w)(hp:p.ok)(J:cW U a l)(O:i<l.length)(I:jN l num=(i:Int))(b3:l.length≤1000000):
    CP 52 #[bnV p a l.length c,.int .i64 num] w (fO w U (jG (cX p (cZ l i)) (mS p (cZ l i)) (aU p (cZ l i)))):=by
 have K:=J.len;unfold R47 at K;have b2:l≠[]:=by intro h;rw[h]at O;simp at O
 obtain⟨b,f,rfl,hr⟩:=J.openR b2;have L:decide ((i:Int)<0)=false:=Ba oW;have F:∀x∈cZ l i,x.ok:=fun x A=>by
  unfold cZ at A;rcases Dh.1 A with A|A
  ·exact J.ok x (Ea A)
  ·exact J.ok x (Dd A)
 have a6:=aKQ O;refine dE 24 Tryz.func52 hU ?_;refine zs (zr (aW (fun y=>(aW (fun X=>(zq 1 (zn (zB [1,0] [(y,20)] (cY 87 #[(bnV p (some ⟨b,f,none⟩) l.length c),(I6 num)] (I6 (i:Int)) (fun W q=>(I▸aDX p l _ _ num W q.view J)) ?_)))))))));refine zq 1 (zn (zs (zQ 2 (zn (dO (decide ((i:Int)<0)) L ?_)))));refine zk (zs ?_);refine aD6 11 2 0 [13,14,15,16,17,18,19,20,21,22,23] [.val (bnV p (some ⟨b,f,none⟩) l.length c),.val (Pt y 19),.val (Sl b f l.length c),.mem (fun _ _=>True),.val (I6 (i:Int)),.val (I6 (i:Int)),.val (I6 ((i+1:Nat):Int)),.mem (aAT (cZ l i)),.mem (jG (cX p (cZ l i)) (mS p (cZ l i)) (aU p (cZ l i))),.mem (aB3 (cX p (cZ l i)) (mS p (cZ l i))),.val (I6 (aU p (cZ l i)))] ⟨3,7,fun v d=>∃b c j,v=.slice (some ⟨b,0,none⟩) l.length c∧d=[(b,.cells (l.flatMap Bk.cs++j).toArray 38 (0,0))]∧(Rw.row b c j).ok 5 l.length (l.flatMap Bk.cs)⟩ kR rfl rfl kR kR kR kR kR kR (by simp only[Bc];refine⟨?_,?_,?_,?_,?_,?_,?_,?_,?_,?_,?_,fun _ h=>by cases h⟩<;>first|trivial|(intro v V V2 k Z;(first|trivial|exact aAT.mono k Z|exact jG.mono k Z|exact aB3.mono k Z))) kR ⟨(show(3:Nat)<11 by decide),(show(7:Nat)<11 by decide),(show(3:Nat)≠7 by decide)⟩ rfl ⟨?_,?_,?_,?_,?_,?_,?_,?_,?_,?_,?_,trivial⟩ [4,5,22,23] (fun u=>[(Pt X 0),(I6 0),u 9,(I6 (aU p (cZ l i)))]) kF ?_
 ·exact ObC.o 0 (show(0:Nat)≠3 by decide) (show(0:Nat)≠7 by decide) (fun d=>oqL 0 0 y 20 (oO p (some ⟨b,f,none⟩) l.length c) 29 rfl (bnV p (some ⟨b,f,none⟩) l.length c) rfl kR kF kF)
 ·exact ObC.o 1 (show(1:Nat)≠3 by decide) (show(1:Nat)≠7 by decide) (fun d=>oqQ 1 rfl (Pt y 19) (Pt y 19) rfl rfl kF kF)
 ·exact ObC.o 2 (show(2:Nat)≠3 by decide) (show(2:Nat)≠7 by decide) (fun d=>oqL 2 0 y 1 (oO p (some ⟨b,f,none⟩) l.length c) 29 rfl (Sl b f l.length c) rfl kR kF kF)
 ·refine ObC.own ⟨_,92,[15],(fun u=>[(Sl b f l.length c)]),rfl,rfl,kF,fun u V E g=>?_⟩;refine⟨#[(Sl b f l.length c)],by kernel_rfl,fun W q=>?_⟩;exact(rR q.view b f l.length c _ (View.range_le E hr) (rU l) (qE l) oW oW).mono fun e W' h=>h.own q
 ·exact ObC.o 4 (show(4:Nat)≠3 by decide) (show(4:Nat)≠7 by decide) (fun d=>oqQ 4 rfl (L6 i) (L6 i) rfl rfl kF kF)
 ·exact ObC.o 5 (show(5:Nat)≠3 by decide) (show(5:Nat)≠7 by decide) (fun d=>oqQ 5 rfl (L6 i) (L6 i) rfl rfl kF kF)
 ·exact ObC.o 6 (show(6:Nat)≠3 by decide) (show(6:Nat)≠7 by decide) (fun d=>oqQ 6 rfl (I6 (IntKind.i64.wrap ((i:Int)+1))) (I6 ((i+1:Nat):Int)) (Ag (Value.int .i64) (by rw[IntWalk.i64_in _ oW];omega)) rfl kF kF)
 ·refine ObC.take (show(7:Nat)≠3 by decide) ⟨_,70,aAT (cZ l i),[16,17,19],(fun u=>[u 3,(L6 i),(I6 ((i+1:Nat):Int))]),rfl,rfl,rfl,by kernel_rfl,kF,fun u V d E g hO=>?_⟩;obtain⟨bO,cO,jO,qO,rfl,M⟩:=(show(fun v d=>∃b c j,v=.slice (some ⟨b,0,none⟩) l.length c∧d=[(b,.cells (l.flatMap Bk.cs++j).toArray 38 (0,0))]∧(Rw.row b c j).ok 5 l.length (l.flatMap Bk.cs)) (u 3) d from hO);refine⟨#[u 3,(L6 i),(I6 ((i+1:Nat):Int))],by kernel_rfl,fun W q=>?_⟩;rw[qO];exact(aEZ bO cO l.length i _ jO q M (qE l) O).mono fun e W' h=>h.mono fun v V' b4 ⟨h1,h2,h3⟩=>⟨h1,aAH (by rw[aIw]at h3;exact h3) h2 (by rw[a6]) F (by unfold R47;omega)⟩
 ·refine ObC.o 8 (show(8:Nat)≠3 by decide) (show(8:Nat)≠7 by decide) (fun d=>oqM 8 91 rfl rfl (jG (cX p (cZ l i)) (mS p (cZ l i)) (aU p (cZ l i))) rfl [13,20] (fun u=>[(bnV p (some ⟨b,f,none⟩) l.length c),u 7]) kF (fun u V E g=>?_));have e7:(aAT (cZ l i)) (u 7) V:=g 7 kR;obtain⟨a7,c7,q7,a1⟩:=e7;refine⟨#[(bnV p (some ⟨b,f,none⟩) l.length c),u 7],by kernel_rfl,fun W hW=>?_⟩;rw[q7];exact qF p l (cZ l i) _ _ _ _ W hW hp a1
 ·refine ObC.o 9 (show(9:Nat)≠3 by decide) (show(9:Nat)≠7 by decide) (fun d=>oqP 9 rfl rfl (aB3 (cX p (cZ l i)) (mS p (cZ l i))) rfl [21] (fun u=>[u 8]) kF (fun u V E g=>?_));have Y:(jG (cX p (cZ l i)) (mS p (cZ l i)) (aU p (cZ l i))) (u 8) V:=g 8 kR;obtain⟨a8,c8,q8,hb8⟩:=Y;rw[q8];exact⟨(bnV (cX p (cZ l i)) a8 (mS p (cZ l i)).length c8),by kernel_rfl,⟨_,_,rfl,hb8⟩⟩
 ·refine ObC.o 10 (show(10:Nat)≠3 by decide) (show(10:Nat)≠7 by decide) (fun d=>oqK 10 rfl rfl (I6 (aU p (cZ l i))) rfl [21] (fun u=>[u 8]) kF (fun u V E g=>?_));have Y:(jG (cX p (cZ l i)) (mS p (cZ l i)) (aU p (cZ l i))) (u 8) V:=g 8 kR;obtain⟨a8,c8,q8,hb8⟩:=Y;rw[q8];show _=_;kernel_rfl
 intro u2 V2 k G;have D:(aB3 (cX p (cZ l i)) (mS p (cZ l i))) (u2 9) V2:=G 9 (by decide);obtain⟨B,C,N,r⟩:=D;rw[N];refine aX 1 X (zq 1 (zn (aA (dL [2,0] [(X,20)] [(.agg #[(N6 (cX p (cZ l i)).f),(I6 (cX p (cZ l i)).c),(I6 (cX p (cZ l i)).dst.s),(St (cX p (cZ l i)).dst.l),(N6 (cX p (cZ l i)).dst.n),(N6 (cX p (cZ l i)).dst.v),(I6 (cX p (cZ l i)).src.s),(St (cX p (cZ l i)).src.l),(N6 (cX p (cZ l i)).src.n),(N6 (cX p (cZ l i)).src.v),(I6 (cX p (cZ l i)).rpt.s),(St (cX p (cZ l i)).rpt.l),(N6 (cX p (cZ l i)).rpt.n),(N6 (cX p (cZ l i)).rpt.v),(N6 (cX p (cZ l i)).time),(N6 (cX p (cZ l i)).seq),(N6 (cX p (cZ l i)).life),(N6 (cX p (cZ l i)).off),(N6 (cX p (cZ l i)).tot),(.slice B (mS p (cZ l i)).length C)]),(I6 (aU p (cZ l i)))] (fun W' q=>?_)))));exact aH q k ⟨_,_,rfl,r⟩
def iO(l:List Bk)(x:Bk):List Bk:=l.take (l.length-1)++[x]++l.drop (l.length-1)
theorem aL4{l:List Bk}{x:Bk}(h:l≠[]):(iO l x).length=l.length-1+2:=by
 have:=Ec.2 h;unfold iO;simp only[Ac,Bb,Aq,Ah,Bd];omega
theorem aMy(l:List Bk)(x:Bk):(l.flatMap Bk.cs).take ((l.length-1)*5)++x.cs++(l.flatMap Bk.cs).drop ((l.length-1)*5)=(iO l x).flatMap Bk.cs:=by
 unfold iO;rw[sX,sY,Bz,Bz];simp
theorem aP7(x:Bk):∀u∈x.cs,u.oneCell'=true:=by
 intro u a;unfold Bk.cs at a;simp only[Bh,Bt,Ct]at a;rcases a with rfl|rfl|rfl|rfl|rfl<;>rfl
theorem aOJ(p:Pr)(l:List Bk)(a:Option Addr)(c:Nat)(x:Bk)(w:World){U:View}(hU:See U w)(hp:p.ok)(hl:cW U a l)(F:l≠[])(b6:l.length≤1000000)(hx:x.ok):
    CP 44 #[bnV p a l.length c,x.V] w (fO w U (jG (cX p (iO l x)) (mS p (iO l x)) (aU p (iO l x)))):=by
 have a7:=hl.len;have b3:=Ec.2 F;obtain⟨b,f,rfl,hr⟩:=hl.openR F;have Y:((l.length:Int)==0)=false:=Ai.2 oW;have O:∀y∈iO l x,y.ok:=fun y q=>by
  unfold iO at q;rcases Dh.1 q with q|q
  ·rcases Dh.1 q with q|q
   ·exact hl.ok y (Ea q)
   ·obtain rfl:=Cl.1 q;exact hx
  ·exact hl.ok y (Dd q)
 have a6:=aL4 (x:=x) F;have M:l.length-1+1=l.length:=by omega
 refine dE 25 Tryz.func44 hU ?_;refine zs (zr (aW (fun I=>(aW (fun b1=>(aW (fun b2=>(zq 1 (zn (zB [0,1,0,0] [(I,1)] (zn (zs (zQ 2 (zn (dO ((l.length:Int)==0) Y ?_)))))))))))))));refine zk (zs ?_);refine aD6 12 2 0 [13,14,15,16,17,18,19,20,21,22,23,24] [.val (bnV p (some ⟨b,f,none⟩) l.length c),.val (Pt I 19),.val (Sl b f l.length c),.mem (fun _ _=>True),.val (L6 l.length),.val (L6 (l.length-1)),.val (x.V),.mem (fun v V=>∃g,v=(Sl g 0 1 1)∧V.range g 0 x.cs),.mem (aAT (iO l x)),.mem (jG (cX p (iO l x)) (mS p (iO l x)) (aU p (iO l x))),.mem (aB3 (cX p (iO l x)) (mS p (iO l x))),.val (I6 (aU p (iO l x)))] ⟨3,8,fun v d=>∃b c j,v=.slice (some ⟨b,0,none⟩) l.length c∧d=[(b,.cells (l.flatMap Bk.cs++j).toArray 38 (0,0))]∧(Rw.row b c j).ok 5 l.length (l.flatMap Bk.cs)⟩ kR rfl rfl kR kR kR kR kR kR (by simp only[Bc];refine⟨?_,?_,?_,?_,?_,?_,?_,?_,?_,?_,?_,?_,fun _ h=>by cases h⟩<;>first|trivial|(intro v V V2 A K;(first|trivial|exact aAT.mono A K|exact jG.mono A K|exact aB3.mono A K|(obtain⟨g,e,K⟩:=K;exact⟨g,e,View.range_le A K⟩)))) kR ⟨(show(3:Nat)<12 by decide),(show(8:Nat)<12 by decide),(show(3:Nat)≠8 by decide)⟩ rfl ⟨?_,?_,?_,?_,?_,?_,?_,?_,?_,?_,?_,?_,trivial⟩ [4,5,23,24] (fun u=>[(Pt b2 0),(I6 0),u 10,(I6 (aU p (iO l x)))]) kF ?_
 ·exact ObC.o 0 (show(0:Nat)≠3 by decide) (show(0:Nat)≠8 by decide) (fun d=>oqL 0 0 I 20 (oO p (some ⟨b,f,none⟩) l.length c) 29 rfl (bnV p (some ⟨b,f,none⟩) l.length c) rfl kR kF kF)
 ·exact ObC.o 1 (show(1:Nat)≠3 by decide) (show(1:Nat)≠8 by decide) (fun d=>oqQ 1 rfl (Pt I 19) (Pt I 19) rfl rfl kF kF)
 ·exact ObC.o 2 (show(2:Nat)≠3 by decide) (show(2:Nat)≠8 by decide) (fun d=>oqL 2 0 I 1 (oO p (some ⟨b,f,none⟩) l.length c) 29 rfl (Sl b f l.length c) rfl kR kF kF)
 ·refine ObC.own ⟨_,92,[15],(fun u=>[(Sl b f l.length c)]),rfl,rfl,kF,fun u V L k=>?_⟩;refine⟨#[(Sl b f l.length c)],by kernel_rfl,fun W J=>?_⟩;exact(rR J.view b f l.length c _ (View.range_le L hr) (rU l) (qE l) oW oW).mono fun e W' h=>h.own J
 ·exact ObC.o 4 (show(4:Nat)≠3 by decide) (show(4:Nat)≠8 by decide) (fun d=>oqQ 4 rfl (L6 l.length) (L6 l.length) rfl rfl kF kF)
 ·exact ObC.o 5 (show(5:Nat)≠3 by decide) (show(5:Nat)≠8 by decide) (fun d=>oqQ 5 rfl (I6 (IntKind.i64.wrap ((l.length:Int)-1))) (L6 (l.length-1)) (Ag (Value.int .i64) (by rw[IntWalk.i64_in _ oW];omega)) rfl kF kF)
 ·exact ObC.o 6 (show(6:Nat)≠3 by decide) (show(6:Nat)≠8 by decide) (fun d=>oqL 6 1 b1 5 x.cs 38 rfl (x.V) rfl kR kF kF)
 ·refine ObC.o 7 (show(7:Nat)≠3 by decide) (show(7:Nat)≠8 by decide) (fun d=>oqN 7 rfl rfl (fun v V=>∃g,v=(Sl g 0 1 1)∧V.range g 0 x.cs) rfl [19] (fun u=>[(x.V)]) kF (fun u V L k=>?_));refine⟨x.cs,38,fun r=>(Sl r 0 1 1),?_,fun g V' b5 hR=>?_⟩
  ·kernel_rfl
  exact⟨g,rfl,hR⟩
 ·refine ObC.take (show(8:Nat)≠3 by decide) ⟨_,78,aAT (iO l x),[16,18,20],(fun u=>[u 3,(L6 (l.length-1)),u 7]),rfl,rfl,rfl,by kernel_rfl,kF,fun u V d L k hO=>?_⟩;obtain⟨bO,cO,jO,qO,rfl,Z⟩:=(show(fun v d=>∃b c j,v=.slice (some ⟨b,0,none⟩) l.length c∧d=[(b,.cells (l.flatMap Bk.cs++j).toArray 38 (0,0))]∧(Rw.row b c j).ok 5 l.length (l.flatMap Bk.cs)) (u 3) d from hO);have e7:(fun v V=>∃g,v=(Sl g 0 1 1)∧V.range g 0 x.cs) (u 7) V:=k 7 kR (show(7:Nat)≠3 by decide);obtain⟨g7,q7,t7⟩:=e7;refine⟨#[u 3,(L6 (l.length-1)),u 7],by kernel_rfl,fun W J=>?_⟩;rw[qO,q7];exact by
   have key:=aEP bO cO (l.length-1) g7 0 1 _ jO x.cs J (by rw[M];exact Z) oW (qE l) t7 rfl (aP7 x);rw[M]at key;exact key.mono fun e W' h=>h.mono fun v V' b7 ⟨h1,b',b4,h2,h3⟩=>⟨h1,aAH (by rw[aMy]at h3;exact h3) h2 (by rw[a6]) O (by unfold R47;omega)⟩
 ·refine ObC.o 9 (show(9:Nat)≠3 by decide) (show(9:Nat)≠8 by decide) (fun d=>oqM 9 91 rfl rfl (jG (cX p (iO l x)) (mS p (iO l x)) (aU p (iO l x))) rfl [13,21] (fun u=>[(bnV p (some ⟨b,f,none⟩) l.length c),u 8]) kF (fun u V L k=>?_));have e8:(aAT (iO l x)) (u 8) V:=k 8 kR;obtain⟨a8,c8,q8,hb8⟩:=e8;refine⟨#[(bnV p (some ⟨b,f,none⟩) l.length c),u 8],by kernel_rfl,fun W hW=>?_⟩;rw[q8];exact qF p l (iO l x) _ _ _ _ W hW hp hb8
 ·refine ObC.o 10 (show(10:Nat)≠3 by decide) (show(10:Nat)≠8 by decide) (fun d=>oqP 10 rfl rfl (aB3 (cX p (iO l x)) (mS p (iO l x))) rfl [22] (fun u=>[u 9]) kF (fun u V L k=>?_));have e9:(jG (cX p (iO l x)) (mS p (iO l x)) (aU p (iO l x))) (u 9) V:=k 9 kR;obtain⟨a9,c9,q9,N⟩:=e9;rw[q9];exact⟨(bnV (cX p (iO l x)) a9 (mS p (iO l x)).length c9),by kernel_rfl,⟨_,_,rfl,N⟩⟩
 ·refine ObC.o 11 (show(11:Nat)≠3 by decide) (show(11:Nat)≠8 by decide) (fun d=>oqK 11 rfl rfl (I6 (aU p (iO l x))) rfl [22] (fun u=>[u 9]) kF (fun u V L k=>?_));have e9:(jG (cX p (iO l x)) (mS p (iO l x)) (aU p (iO l x))) (u 9) V:=k 9 kR;obtain⟨a9,c9,q9,N⟩:=e9;rw[q9];show _=_;kernel_rfl
 intro u3 V3 a1 X;have E:(aB3 (cX p (iO l x)) (mS p (iO l x))) (u3 10) V3:=X 10 (by decide);obtain⟨C,D,G,B⟩:=E;rw[G];refine aX 2 b2 (zq 1 (zn (aA (dL [3,0] [(b2,20)] [(.agg #[(N6 (cX p (iO l x)).f),(I6 (cX p (iO l x)).c),(I6 (cX p (iO l x)).dst.s),(St (cX p (iO l x)).dst.l),(N6 (cX p (iO l x)).dst.n),(N6 (cX p (iO l x)).dst.v),(I6 (cX p (iO l x)).src.s),(St (cX p (iO l x)).src.l),(N6 (cX p (iO l x)).src.n),(N6 (cX p (iO l x)).src.v),(I6 (cX p (iO l x)).rpt.s),(St (cX p (iO l x)).rpt.l),(N6 (cX p (iO l x)).rpt.n),(N6 (cX p (iO l x)).rpt.v),(N6 (cX p (iO l x)).time),(N6 (cX p (iO l x)).seq),(N6 (cX p (iO l x)).life),(N6 (cX p (iO l x)).off),(N6 (cX p (iO l x)).tot),(.slice C (mS p (iO l x)).length D)]),(I6 (aU p (iO l x)))] (fun W' J=>?_)))));exact aH J a1 ⟨_,_,rfl,B⟩
theorem aER : ∀ (l : List Bk) (i : Nat) (x : Bk) (j : List Value), i < l.length → cK (l.flatMap Bk.cs ++ j) (i * 5) x.cs = (l.set i x).flatMap Bk.cs ++ j
 | [],i,x,j,a=>by simp at a
 |y::r,0,x,j,_=>by
  rw[Gq,Bu,Bu,Ft,Al,Al];unfold cK;rw[Da,Ch,Aw,show x.cs.length=y.cs.length from rfl,Eu]
 |y::r,i+1,x,j,a=>by
  have d:=aER r i x j (by simpa using a);have f:y.cs.length=5:=rfl;have c:x.cs.length=5:=rfl;rw[Gn,Bu,Bu,Al,Al,←d];unfold cK;rw[c,show(i+1)*5=y.cs.length+i*5 by omega,Gy,Bf oW,show y.cs.length+i*5-y.cs.length=i*5 by omega,show y.cs.length+i*5+5=y.cs.length+(i*5+5) by omega,Gw,Cj oW,Ch,show y.cs.length+(i*5+5)-y.cs.length=i*5+5 by omega];simp only[Al]
theorem aOI(p:Pr)(l:List Bk)(a:Option Addr)(c:Nat)(x:Bk)(i:Nat)(w:World){U:View}(hU:See U w)(hp:p.ok)(D:cW U a l)(hi:i<l.length)(q:jN l x.n=(i:Int))(a6:l.length≤1000000)(hx:x.ok):
    CP 53 #[bnV p a l.length c,x.V] w (fO w U (jG (cX p (l.set i x)) (mS p (l.set i x)) (aU p (l.set i x)))):=by
 have r:=D.len;have g:0<l.length:=by omega
 have N:l≠[]:=Ec.1 g;obtain⟨b,f,rfl,hr⟩:=D.openR N;have u:decide ((i:Int)<0)=false:=Ba oW;have k:∀y∈l.set i x,y.ok:=fun y O=>by
  rcases Ez O with O|rfl
  ·exact D.ok y O
  ·exact hx
 have A:(l.set i x).length=l.length:=Cp;have M:=rU l;refine dE 27 Tryz.func53 hU ?_;refine zs (zr (aW (fun B=>(aW (fun E=>(aW (fun F=>(zq 1 (zn (zB [1,0,2] [(B,20),(E,1)] (cY 87 #[(bnV p (some ⟨b,f,none⟩) l.length c),(I6 x.n)] (I6 (i:Int)) (fun W h=>(q▸aDX p l _ _ x.n W h.view D)) ?_)))))))))));refine zq 1 (zn (zs (zQ 2 (zn (dO (decide ((i:Int)<0)) u ?_)))));refine zk (zB [0,1] [(B,1)] ?_);refine aDl 92 #[(Sl b f l.length c)] 38 5 l.length (l.flatMap Bk.cs) kR (fun W h=>rR h.view b f l.length c _ hr (rU l) (qE l) g oW) kR kR (fun d C V a1=>?_);refine zq 1 (zn (zB [0,0,2] [(E,5)] (cD (Pt d (0+i*5)) (rIx 38 rfl d 0 l.length C i 5) ?_)));refine aLB 3 d (0+i*5) 5 (l.flatMap Bk.cs++V) 38 38 (x.V) (.tmp 21) (.tmp 20) rfl kR kR kR kR (by rw[Ac,M];omega) rfl kR ?_;refine zn (zs (zr ?_));refine gG [(bK B (oO p (some ⟨b,f,none⟩) l.length c) 29),(bK E x.cs 38),(F,.cells Z20.toArray 29 (0,0))] [] d (cK (l.flatMap Bk.cs++V) (0+i*5) x.cs) 38 kR (fun X J j=>?_);have G:cW X (some ⟨d,0,none⟩) (l.set i x):=cW.of (by rw[Aw,aER l i x V hi]at j;exact(gK j).1) k (by rw[A];exact r);refine dS 7 (Sl d 0 l.length C) (Sl d 0 (l.set i x).length C) (by rw[A]) ?_;refine cG [1] [(B,20)] (zq 1 (mC 91 #[(bnV p (some ⟨b,f,none⟩) l.length c),(Sl d 0 (l.set i x).length C)] (jG (cX p (l.set i x)) (mS p (l.set i x)) (aU p (l.set i x))) (fun W h=>qF p l (l.set i x) _ _ _ _ W h.view hp G) (fun v5 V5 K I=>?_)));obtain⟨Y,Z,rfl,L⟩:=I;refine zq 2 (aX 2 F (zq 1 (zn (aA (dL [3,0] [(F,20)] [(.agg #[(N6 (cX p (l.set i x)).f),(I6 (cX p (l.set i x)).c),(I6 (cX p (l.set i x)).dst.s),(St (cX p (l.set i x)).dst.l),(N6 (cX p (l.set i x)).dst.n),(N6 (cX p (l.set i x)).dst.v),(I6 (cX p (l.set i x)).src.s),(St (cX p (l.set i x)).src.l),(N6 (cX p (l.set i x)).src.n),(N6 (cX p (l.set i x)).src.v),(I6 (cX p (l.set i x)).rpt.s),(St (cX p (l.set i x)).rpt.l),(N6 (cX p (l.set i x)).rpt.n),(N6 (cX p (l.set i x)).rpt.v),(N6 (cX p (l.set i x)).time),(N6 (cX p (l.set i x)).seq),(N6 (cX p (l.set i x)).life),(N6 (cX p (l.set i x)).off),(N6 (cX p (l.set i x)).tot),(.slice Y (mS p (l.set i x)).length Z)]),(I6 (aU p (l.set i x)))] (fun W' h=>?_))))))
 exact aH h (View.le_trans J K) ⟨_,_,rfl,L⟩
structure Rd where
 b:List UInt8
 at_:Nat
 bad:Int
 e:Int
 frm:Nat
def Rd.cs(r:Rd):List Value:=[.string (B r.b),.int .i64 (r.at_:Int),.int .i64 r.bad,.int .i64 r.e,.int .i64 (r.frm:Int)]
def Rd.O(r:Rd):Obj:=.cells r.cs.toArray 297 (0,0)
def Rd.new(b:List UInt8):Rd:=⟨b,0,-1,0,0⟩
theorem aEB{σ:aN}(a c:aN)(x:Nat×Obj)(e:σ=a++x::c):σ.Perm ([x]++(a++c)):=by
 subst e;exact List.perm_middle
theorem aQh{W0:Cx}{U V:View}{σ σ' a:aN}{Φ:Value→View→aN→Prop}{v:Value}{W':World}(d:Mem W0 V σ W')(c:(σ'++a).Sublist σ)(f:View.le U V)(h:Φ v V σ'):iQ W0 U a Φ (.returned v) W':=⟨v,V,σ',rfl,f,d.sub c,h⟩
def aRc(rd:Rd)(v:Value)(σ:aN):Prop:=∃r,v=.pointer (some ⟨r,0,none⟩)∧σ=[(r,rd.O)]
theorem aDw(l:List UInt8){W0:Cx}{U:View}{a:aN}{W:World}(c:Mem W0 U ([]++a) W):CP 237 #[.string (B l)] W (iQ W0 U a fun v V σ'=>aRc (Rd.new l) v σ'):=by
 refine fU 6 Tryz.func237 c ?_;refine zQ 1 (zn (zQ 2 (fH 0 (fun d=>?_))));refine zq 1 (zn (aA (aO [2] [(Pt d 0)] (fun f c=>?_))));exact eS (σ':=[(bK d [(St l),(I6 0),(I6 (-1)),(I6 0),(I6 0)] 297)]) c (View.le_refl _) ⟨_,rfl,rfl⟩
def Rd.fail(r:Rd)(e:Int):Rd:=if r.e==0 then⟨r.b,r.frm,(r.frm:Int),e,r.frm⟩else r
theorem iT(a:Rd)(e:Int)(r:Nat){W0:Cx}{U:View}{c:aN}{W:World}(d:Mem W0 U ([(r,a.O)]++c) W):CP 241 #[.pointer (some ⟨r,0,none⟩),.int .i64 e] W (iQ W0 U c fun v V σ'=>v=dC []∧σ'=[(r,(a.fail e).O)]):=by
 have g:Mem W0 U ([(bK r [(St a.b),(I6 (a.at_:Int)),(I6 a.bad),(I6 a.e),(I6 (a.frm:Int))] 297)]++c) W:=d.eqv kR;refine fU 27 Tryz.func241 g ?_;refine zB [0,0,0,1,0] [(r,1)] (zn (gN (a.e==0) (fun f=>?_) (fun f=>?_)))
 ·refine zB [0,0,0,0,1,0,0] [(r,1)] (aX 0 r (zn (zr (cG [0,0,0,0,0,1,0,0,0] [(r,1)] (aX 0 r (zq 2 (aX 0 r (zn ?_))))))));refine sD [] [] rfl trivial (fun h d=>?_);exact eS (σ':=[(bK r [(St a.b),(I6 (a.frm:Int)),(I6 (a.frm:Int)),(I6 e),(I6 (a.frm:Int))] 297)]) d (View.le_refl _) ⟨rfl,by simp only[Rd.fail,f,if_true,Av,if_false];rfl⟩
 ·refine zk ?_;refine sD [] [] rfl trivial (fun h d=>?_);exact eS (σ':=[(bK r [(St a.b),(I6 (a.at_:Int)),(I6 a.bad),(I6 a.e),(I6 (a.frm:Int))] 297)]) d (View.le_refl _) ⟨rfl,by simp only[Rd.fail,f,if_true,Av,if_false];rfl⟩
theorem aRe(l:List UInt8):(B l).size=l.length:=by simp[B,ByteArray.size]
section
variable {P:Program} {s:aZ} {o:Oper}
theorem iK(t : TypeId)(x : Operand)(f g : Option Operand)(E : o.op = .slice t x f g none)(l : List UInt8)(a b : Nat)(q : List UInt8)(G : evS s x = some (.string (B l)))
  (d:aCb s f 0 a) (h:aCb s g l.length b) (r:a≤b) (u:b≤l.length) (C:(l.drop a).take (b-a)=q) (A:P.underlying t=some .string) (W:World):(execOp (ev s) o).run P W=.ok (.value (.string (B q))) W:=by
 have k:∀(v y:Nat) (c:BoundsCode),v≤y→(Instr.sliceBound (.int .i64 (v:Int)) y c).run P W=.ok v W:=fun v y c J=>by
  simp[Instr.sliceBound,asIntOf,Result.andThen];intro I;omega
 have D:(Instr.sliceBounds false (B l).size (B l).size (f.map (ev s)) (g.map (ev s)) none).run P W=.ok (a,b,l.length) W:=by
  unfold aCb at d h;rw[aRe];cases g with
  |none=>
   simp only at h;subst h;cases f with
   |some lo'=>simp[Instr.sliceBounds,dY d,k _ _ _ r,Result.andThen]
   |none=>simp only at d;subst d;simp[Instr.sliceBounds,Result.andThen]
  |some F=>
   cases f with
   |some lo'=>simp[Instr.sliceBounds,dY d,dY h,k _ _ _ r,k _ _ _ u,Result.andThen]
   |none=>simp only at d;subst d;simp[Instr.sliceBounds,dY h,k _ _ _ u,Result.andThen]
 have key:(Instr.slice t (.string (B l)) (f.map (ev s)) (g.map (ev s)) none).run P W=.ok (.string (B q)) W:=by
  simp only[Instr.slice,Sem.run_bind,run_underlying A,Result.andThen_ok,D,Sem.run_pure,Option.isSome_none,Av,if_false,aLl,C]
 have j:(Instr.sliceAt t (.string (B l)) (f.map (ev s)) (g.map (ev s)) none).run P W=.ok (.string (B q)) W:=by
  simp only[Instr.sliceAt,Sem.run_bind,run_underlying A,Result.andThen_ok,key]
 unfold execOp;simp only[E,dY G,Sem.run_bind,Option.map_none,j,Result.andThen_ok,Sem.run_pure]
theorem qZ(t:TypeId)(x d:Operand)(h:o.op=.index t x d)(l:List UInt8)(i:Nat)(k:IntKind)(c:UInt8)(q:evS s x=some (.string (B l)))(g:evS s d=some (.int k (i:Int)))(f:l[i]? =some c)(j:P.underlying t=some .string)(W:World):
  (execOp (ev s) o).run P W=.ok (.value (.int .u8 (c.toNat:Int))) W:=by
 obtain⟨a,rfl⟩:=Af.1 f;unfold execOp;simp[h,dY q,dY g,Instr.index,Instr.indexAt,run_underlying j,asIntOf,Result.andThen,aRe,a]
 first|rfl|(simp[B];rfl)
end
theorem aRv:∀c:Fin 256,IntKind.i64.wrap (iY .u8 (c.val:Int) 31)=((c.val%32:Nat):Int):=by decide +kernel
theorem aQK:∀c:Fin 256,IntKind.i64.wrap ((c.val:Int).fdiv (2^5))=((c.val/32:Nat):Int):=by decide +kernel
theorem aMi(c:UInt8):IntKind.i64.wrap (iY .u8 (c.toNat:Int) 31)=((c.toNat%32:Nat):Int):=aRv ⟨c.toNat,c.toNat_lt⟩
theorem aKv(c:UInt8):IntKind.i64.wrap ((c.toNat:Int).fdiv (2^5))=((c.toNat/32:Nat):Int):=aQK ⟨c.toNat,c.toNat_lt⟩
section
variable {P:Program} {n:Nat} {W0:Cx} {s:aZ} {U:View} {σ0:aN}
structure aRB (W0 : Cx) (U : View) (own σ : aN) (vs : List Sq) (m i : Nat) (Ψ : Value → View → aN → Prop) (L : Nat → Bool) (u : Nat → Value) (w : World) (V : View) (σ' : aN) : Prop where
 le:View.le U V
 mem:Mem W0 V (σ++σ') w
 at_:∀j,j<m→L j=true→qY vs j (u j) V
 own:L i=false→σ'=own
 non:L i=true→Ψ (u i) V σ'
end
theorem Mem.freezeRw{W0:Cx}{U:View}{W:World}{r:Rw}{g:List Value}{z m:Nat}{f:aN}{e:TypeId}(u:Mem W0 U (f++r.B e g) W)(d:r.ok z m g):∃a c V,View.le U V∧aAn V a g∧r.V m=.slice a m c∧Mem W0 V f W:=by
 obtain⟨k,q⟩:=aNh u;obtain⟨a,c,j⟩:=Rw.form d;refine⟨a,c,U.or (r.W g),View.le_or _ _,⟨fun h=>?_⟩,j,k⟩;cases r with
 |nil=>exact absurd d.2 h
 |row b cap junk=>
  simp only[Rw.V,Value.slice.injEq,Fm]at j;exact⟨b,j.1.symm,q b cap junk rfl⟩
section
variable {P:Program} {n:Nat} {W0:Cx} {s:aZ} {U:View} {σ0:aN}
structure NQ (P : Program) (n : Nat) (W0 : Cx) (U : View) (own σ : aN) (ops : Array Oper) (ds : List Nat) (vs : List Sq) (s : aZ) (i : Nat) (Ψ : Value → View → aN → Prop) : Prop where
 go:∃(o:Oper),ops[i]? =some o∧o.guard=none∧
  ∀(u:Nat→Value) (V:View),View.le U V→(∀j,cJ .any ops i j=true→gR vs j (u j) V)→∀(a:Act) (W:World),pL n (iP ops ds vs u i++aV s ds) a→Mem W0 V (own++σ) W→∀(Q:Exit→Act→World→Prop) (K:Act→World→Prop),
   (∀v W' V' σ2,View.le V V'→Mem W0 V' (σ2++σ) W'→Ψ v V' σ2→K (a.put o.dst v) W')→o.wp P a W K Q
def ObN(P:Program)(n:Nat)(W0:Cx)(U:View)(own σ:aN)(ops:Array Oper)(ds:List Nat)(vs:List Sq)(s:aZ)(i:Nat)(Ψ:Value→View→aN→Prop)(k:Nat):Prop:=
 if k=i then NQ P n W0 U own σ ops ds vs s i Ψ else∀σ',Oq P n W0 U (σ++σ') ops ds vs s k
theorem ObN.o{own σ:aN}{ops:Array Oper}{ds:List Nat}{vs:List Sq}{i:Nat}{Ψ:Value→View→aN→Prop}(k:Nat)(a:k≠i)(h:∀σ',Oq P n W0 U (σ++σ') ops ds vs s k):ObN P n W0 U own σ ops ds vs s i Ψ k:=by
 unfold ObN;rw[An a];exact h
theorem ObN.make{own σ:aN}{ops:Array Oper}{ds:List Nat}{vs:List Sq}{i:Nat}{Ψ:Value→View→aN→Prop}(h:NQ P n W0 U own σ ops ds vs s i Ψ):ObN P n W0 U own σ ops ds vs s i Ψ i:=by
 unfold ObN;rw[Ar rfl];exact h
def aNv(vf:Nat→Value)(x:Obj)(v:Value)(_:View)(σ':aN):Prop:=∃b,v=vf b∧σ'=[(b,x)]
theorem aJk{id : Nat}{l : List Oper}{Q : XQ}(m f r : Nat)(ds : List Nat)(vs : List Sq)(i : Nat)(own σ : aN)(Ψ : Value → View → aN → Prop)(c4 : σ0.Perm (own ++ σ))(hm : P.follows .mixedOrders = true)(a7 : l.length = m + f)(Z : ds.length = m)
  (b3:oJ l.toArray ds=true) (a6:nodupB ds=true) (b7:(ds.all fun d=>Nat.blt d n)=true) (M:fI .any l.toArray m=true) (N:lM .any l.toArray m r=true) (A:jY l.toArray m f=true) (C:∀q∈vs,mX q)
  (b6:i<m) (Φi:Value→View→Prop) (b9:vs[i]? =some (.mem Φi)) (c1:∀v V σ',Ψ v V σ'→Φi v V) (c2:∀v V O σ',View.le V O→Ψ v V σ'→Ψ v O σ')
  (c6:Go.Proofs.YtcdjakemdlinhaaGreatDoor.Steps (ObN P n W0 U own σ l.toArray ds vs s i Ψ) 0 m)
  (h:∀(u:Nat→Value) (V:View) (σ':aN),View.le U V→(∀j,j<m→gR vs j (u j) V)→Ψ (u i) V σ'→SXL P n W0 Q l.toArray (l.drop m) (aDP u 0 ds vs++aV s ds) V (σ'++σ)):SXC P n W0 Q (.region id l.toArray true) s U σ0:=by
 refine⟨fun a W X hM=>?_⟩;have hn:=lH a6;have Y:∀d∈ds,d<n:=fun d Y=>by have:=Ao.1 b7 d Y;simpa[Ew]using this
 have b2:Mem W0 U (σ++own) W:=hM.perm (c4.trans Bw);refine lD m f r ds (fun L u w=>∃V σ',aRB W0 U own σ vs m i Ψ L u w V σ') hm (by simpa using a7) Z b3 a6 M N ?_ ?_ ?_
 ·intro u;exact⟨U,own,⟨View.le_refl _,b2.drew,fun j _ c=>by simp at c,fun _=>rfl,fun c=>by simp at c⟩⟩
 ·rintro k e0 L u w ⟨V,σ',I⟩ b0 g c8 K hK;have D:=c6.get k (Ap _) oW;unfold ObN at D;split at D
  ·next B=>
   subst B;have a8:σ'=own:=I.own b0;subst a8;obtain⟨o,ho,b4,b5⟩:=D.go;have hr:=jH (a0:=a) (u:=u) (V:=V) (vs:=vs) (ops:=l.toArray) k X hn Y fun j c=>.inl (I.at_ j (g j c).2 (g j c).1)
   unfold wpOp;simp only[ho,Region.wanted,b4,if_true];left;refine b5 u V I.le (fun j c=>(I.at_ j (g j c).2 (g j c).1).phi) _ w hr (I.mem.perm Bw) _ _ fun v w' O c7 E J G=>?_
   have:=hK v w' ⟨O,c7,⟨View.le_trans I.le E,J.perm Bw,fun j c y=>?_,fun F=>?_,fun _=>?_⟩⟩
   ·rw[ho]at this;exact this
   ·by_cases e:j=k
    ·subst e;rw[Ar rfl];unfold qY;rw[b9];exact c1 _ _ _ G
    ·rw[An e]at y ⊢;exact(I.at_ j c y).le C E
   ·rw[Ar rfl]at F;cases F
   ·rw[Ar rfl];exact G
  ·next B=>
   have b1:Mem W0 U (σ++σ') w:=I.mem.weak I.le;refine((D σ').go a (up n W0 Q) X hn Y C).step u w b1 (fun j c=>(I.at_ j (g j c).2 (g j c).1).isQ I.mem I.le) K fun v w' J hE hv=>?_
   obtain⟨O,h1,h2,h3⟩:=hv.at J;obtain⟨q1,q2,q3⟩:=Mem.join (I.mem.call hE) h2;refine hK v w' ⟨V.or O,σ',⟨View.le_trans I.le q2,q1,fun j c y=>?_,fun F=>?_,fun F=>?_⟩⟩
   ·by_cases e:j=k
    ·subst e;rw[Ar rfl];exact h3.le C q3
    ·rw[An e]at y ⊢;exact(I.at_ j c y).le C q2
   ·rw[An (fun e=>B e.symm)]at F;exact I.own F
   ·rw[An (fun e=>B e.symm)]at F ⊢;exact c2 _ _ _ _ q2 (I.non F)
 ·rintro L u W' ⟨V,σ',I⟩ y;refine iI f m _ W' (by simpa using a7.symm) A ?_;have hg:=fun t=>fX ds 0 u a t hn (by rw[X.size];exact Y)
  have b8:∀j,j<m→gR vs j (u j) V:=fun j c=>(I.at_ j c (y j c)).phi
  refine(h u V σ' I.le b8 (I.non (y i b6))).go _ W' ⟨by rw[(hg 0).2.2.1,X.size],by rw[(hg 0).2.2.2,X.defers],fun x v E=>?_⟩ (I.mem.perm Bw);rcases eV _ _ _ _ E with E|⟨_,E⟩
  ·have a1:=iW _ _ _ E;obtain⟨j,q,hd2,c0,hq⟩:=mI u 0 _ _ _ _ a1;have c9:j<ds.length:=(Af.1 hd2).1;rw[(hg x).1 j hd2,Aw];cases q with
   |val w=>
    simp only at hq;have:=I.at_ j oW (y j oW);unfold qY at this;rw[c0]at this;simp only at this;rw[this,hq]
   |mem Φ=>simp only[Aw]at hq;rw[hq]
  ·obtain⟨h1,h2⟩:=fD _ _ _ _ E;rw[(hg x).2.1 h1];exact X.slots x v h2
section
variable {own σ:aN} {Ψ:Value→View→aN→Prop}
theorem aJm{X : Nat}{l : List Oper}{Q : XQ}(r i : Nat)(ks : List Nat)(T : List (Nat × Nat))(tv : List Sq)(own σ : aN)(Ψ : Value → View → aN → Prop)(F : σ0.Perm (own ++ σ)){Φi : Value → View → Prop}(d : tlk ks tv i = some (.mem Φi))(D : ∀ v V σ', Ψ v V σ' → Φi v V)(E : ∀ v V J σ', View.le V J → Ψ v V σ' → Ψ v J σ')(B : ∀ q ∈ tv, mX q)
  (I:obT (fun k t=>(∀j t,tlk ks tv j=some t→(dvQ P l σ ks tv s)[j]? =some t)→(dvQ P l σ ks tv s)[k]? =some t→ObN P n W0 U own σ l.toArray (dsO l ks.length) (dvQ P l σ ks tv s) s i Ψ k) 0 ks tv)
  (h:∀(u:Nat→Value) (V:View) (σ':aN),View.le U V→(∀{t:Sq} (j:Nat),tlk ks tv j=some t→aMU t (u j) V)→Ψ (u i) V σ'→SXL P n W0 Q l.toArray (l.drop ks.length) (aDP u 0 (dsO l ks.length) (dvQ P l σ ks tv s)++aV s (dsO l ks.length)) V (σ'++σ))
  (y:DqT P l σ ks T tv s:=by intro u;kernel_rfl) (c:Nat.ble (dvQ P l σ ks tv s).length ks.length=true:=by kernel_rfl) (A:aOW P n l ks.length r=true:=by kernel_rfl):SXC P n W0 Q (.region X l.toArray true) s U σ0:=by
 unfold aOW at A;simp only[Ae]at A;obtain⟨⟨⟨⟨⟨⟨⟨Y,G⟩,Z⟩,k4⟩,k5⟩,g⟩,k7⟩,k8⟩:=A;have G:=Cw G;have C:=aNn y g;have a:=(aB5 d).1;refine aJk ks.length (l.length-ks.length) r (dsO l ks.length) (dvQ P l σ ks tv s) i own σ Ψ F Y oW (aGo G) Z k4 k5 g k7 k8 (aKR y g (Cw c) B) (Af.1 a).1 Φi (C i _ d) D E (aHk y g (fun j f h=>ObN.o j (fun e=>f (e▸a)) fun σ'=>h (σ++σ') fun k x K=>by rw[Bp (Af.1 K).1];exact K) ?_) fun u V σ' L M N=>h u V σ' L (fun{t} j f=>aDZ (C j t f) (M j ((Af.1 (aB5 f).1).1))) N
 exact qQ (fun j t O=>O C) _ _ _ I
variable {ops:Array Oper} {ds ks:List Nat} {tv vs:List Sq} {i:Nat} {Φi:Value→View→Prop}
theorem nO{k:Nat}{t:Sq}(h:∀σ',Oqw P n W0 U (σ++σ') ops ds ks tv vs s k t)(a:k≠i:=by decide):(∀j t,tlk ks tv j=some t→vs[j]? =some t)→vs[k]? =some t→ObN P n W0 U own σ ops ds vs s i Ψ k:=
 fun c d=>ObN.o k a fun σ'=>h σ' c d
theorem nC(f : FuncId)(c : (Nat → Value) → Array Value)(h : ∀ (u : Nat → Value) (V : View), View.le U V → aLq ops ks tv u V i → ∀ W, Mem W0 V (own ++ σ) W → Calls P f (c u) W (iQ W0 V σ Ψ))(F : ops[i]? = some (iC ops i) := by rfl)(E : (iC ops i).guard = none := by rfl)
  (D:∀u,enters P (iP ops ds vs u i++aV s ds) (iC ops i)=some (f,c u):=by intro u;kernel_rfl):(∀j t,tlk ks tv j=some t→vs[j]? =some t)→vs[i]? =some (.mem Φi)→ObN P n W0 U own σ ops ds vs s i Ψ i:=
 fun k _=>ObN.make ⟨_,F,E,fun u V A C a W B y Q K x=>by
  unfold Oper.wp;rw[fE B (D u)];refine(h u V A (pB k C) W y).mono ?_;rintro _ G ⟨v,r,q,rfl,k,g,d⟩;exact x v G r q k g d⟩
theorem nA{x:Obj}{d:Nat→Value}(q:ops[i]? =some (iC ops i):=by rfl)(k:(iC ops i).guard=none:=by rfl)(hm:∀u,makes P (iP ops ds vs u i++aV s ds) (iC ops i)=some (x,fun r=>some (d r)):=by intro u;kernel_rfl):(∀j t,tlk ks tv j=some t→vs[j]? =some t)→vs[i]? =some (.mem Φi)→ObN P n W0 U [] σ ops ds vs s i (aNv d x) i:=
 fun _ _=>ObN.make ⟨_,q,k,fun u V y A a W h g Q K f=>by
  unfold Oper.wp;rw[oF h (hm u)];have c:Mem W0 V σ W:=g;exact f _ _ V [(W.heap.size,x)] (View.le_refl _) ((c.alloc x).perm Bw) ⟨W.heap.size,rfl,rfl⟩⟩
def aNu(e:TypeId)(z m:Nat)(xs:List Value)(N:List Value→View→Prop)(v:Value)(V:View)(σ':aN):Prop:=∃(r:Rw) (news:List Value),N news V∧v=r.V m∧r.ok z m (xs++news)∧σ'=r.B e (xs++news)
theorem nP(M : (Nat → Value) → Value)(e t : TypeId)(z bytes k m : Nat){r : Rw}{q : List Value}{N : List Value → View → Prop}{x y : Operand}(E : r.ok z m q)(A : m + k ≤ maxLen)(C : (m + k) * bytes ≤ 140737488355328)
  (h:∀(u:Nat→Value) (V:View),View.le U V→aLq ops ks tv u V i→∃b f c d,M u=.slice (some ⟨b,f,none⟩) k c∧V.range b f d∧d.length=k*z∧(d.all fun u=>u.oneCell')=true∧N d V) (hi:ops[i]? =some (iC ops i):=by rfl) (hg:(iC ops i).guard=none:=by rfl) (ho:(iC ops i).op=.call { callee:=.builtin .append,args:=#[x,y],argTypes:=#[t,t] }:=by rfl)
  (hx:∀u,evS (iP ops ds vs u i++aV s ds) x=some (r.V m):=by intro u;kernel_rfl) (hy:∀u,evS (iP ops ds vs u i++aV s ds) y=some (M u):=by intro u;kernel_rfl) (hk:0<k:=by decide)
  (g:(P.info? e).map (fun i=>(i.size,i.bytes,i.zero.map (·.cells.size)))=some (z,bytes,some z):=by kernel_rfl) (ht:P.underlying t=some (.slice e):=by kernel_rfl) (I:Nat.blt 0 z=true:=by kernel_rfl):(∀j t,tlk ks tv j=some t→vs[j]? =some t)→vs[i]? =some (.mem Φi)→ObN P n W0 U (r.B e q) σ ops ds vs s i (aNu e z (m+k) q N) i:=
 fun D _=>ObN.make ⟨_,hi,hg,fun u V hV hd a W ha B Q K hK=>by
  obtain⟨b,f,c,d,G,hr,hl,O,hN⟩:=h u V hV (pB D hd);cases F:P.info? e with
  |none=>rw[F]at g;cases g
  |some inf=>
   rw[F]at g;simp only[Di,Ab,Am]at g;obtain⟨X,Y,Z⟩:=g;obtain⟨zv,J,L⟩:=Cz.1 Z;exact aNs ha B r q m [] σ e t z bytes k rfl E x y ho (hx u) b f c d (by rw[hy u,G]) (fun W B=>View.range_of hr B.view) hl O hk A C inf zv ht F J X Y L (by simpa[Ew]using I) fun r' W' q1 q2=>hK _ _ V _ (View.le_refl _) q2 ⟨r',d,hN,rfl,q1,rfl⟩⟩
end
theorem aG2{σ:aN}(A B F:aN)(h:σ=(A++B)++F):σ.Perm (B++(A++F)):=h▸((Bw (l₁:=A) (l₂:=B)).append_right F).trans (by rw[Al])
theorem aJP{σ:aN}(A B:aN)(h:σ=A++B):σ.Perm (B++A):=h▸Bw
theorem qP(A F X:aN):((A++F)++X).Perm ((A++X)++F):=by
 rw[Al,Al];exact Dw A Bw
end
end Go.Proofs.YtcdjakemdlinhaaGreatDoor.Sx
