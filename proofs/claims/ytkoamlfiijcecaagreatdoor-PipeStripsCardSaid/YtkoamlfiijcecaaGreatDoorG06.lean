/-
  Several texts in one: Bun1 Bun2 Bun3 Sli1 Sx12 Sx13 Ins1 Bun4 Bun5 Bun6 Rd1 Sx14 Sx15 Sx16 Rel3.
  Conditions: named at each.
-/
import Derived.Test.YtkoamlfiijcecaaGreatDoorG05
import Derived.Lib.Overlaps
import Derived.Lib.AppendZerosOnto
import Derived.Laws.Externs
set_option maxHeartbeats 16000000
set_option linter.unusedSimpArgs false
set_option linter.unusedVariables false
set_option linter.unusedSectionVars false
namespace Go.Proofs.YtkoamlfiijcecaaGreatDoor.Sx
open Go.ChangeShapes Go.WideShapes Go.ChangeAt Go.RowKit Go.Deep
theorem dS{α:Type}{l:List α}{i:Nat}{y:α}(h:l[i]? =some y):l.drop i=y::l.drop (i+1):=by
 obtain⟨a,rfl⟩:=L8.1 h;exact R1 a
theorem cZ{α:Type}{l:List α}{i:Nat}(h:¬((i:Int)<(l.length:Int))):l.drop i=[]:=ar oW
def Bk.none:Bk:=⟨0,0,0,0,[]⟩
def BZ(l:List Bk)(t:Int):Bk×Bool:=match l.find? (λx=>x.t==t)with
 |some x=>(x,true)
 |none=>(Bk.none,false)
theorem KE{l:List Bk}{t:Int}{i:Nat}{y:Bk}(h:l[i]? =some y):BZ (l.drop i) t=if(y.t==t)=true then(y,true)else BZ (l.drop (i+1)) t:=by
 unfold BZ;rw[dS h,X8];cases y.t==t<;>simp
theorem Tk(p:Pr)(l:List Bk)(a:Option Addr)(c:Nat)(t:Int)(w:World){U:View}(M:See U w)(J:cG U a l):CP 139 #[bnV p a l.length c,.int .i64 t] w (Ret (.tuple #[(BZ l t).1.V,.bool (BZ l t).2]) w):=by
 have k:=J.len;unfold R47 at k;refine dC 22 Tryz.func139 M ?_;refine zs (zr (aW (λC=>(aW (λf=>(zq 1 (zn (zs (zB [0,1,0,0] [(C,1)] (zn (aB (eF (α:=Nat) (λx=>[1,4,5,9,10,11].zip [(I6 t),(Pt f 0),qF,(.slice a l.length c),(L6 l.length),(L6 x)]) (λx=>U) (λx=>[(bK C (dO p a l.length c) 29),(f,.cells [(I6 0),(I6 0),(U6 0),(I6 0),(St [])].toArray 58 (0,0))]) (λx=>x<=l.length/\BZ (l.drop x) t=BZ l t) (λx=>l.length-x) 0 ?_ ?_))))))))))))
 ·exact⟨M8 _,rfl⟩
 intro x N;obtain⟨O,g⟩:=N;refine zQ 1 (zn (zs (aZ ((x:Int)<(l.length:Int)) (λL D=>?_) (λL D=>?_))))
 ·refine zk (zs (aB (zs (zr ?_))));obtain⟨r,j⟩:∃y,(l)[x]? =some y:=⟨(l)[x]'oW,K8 _⟩;obtain⟨u,B,rfl,I⟩:=J.at_ x r j;refine cB (Pt u (B+x*5)) (rIx 58 rfl u B l.length c x 5) ?_;refine zU u (B+x*5) r.cs I 58 (.tmp 13) _ Tryz.underlying58 rfl ?_;refine aW (λA=>(aX 2 A (zn (zB [0,3,0,0] [(A,1)] (zn (fC r.t t (λE F=>?_) (λE F=>?_)))))))
  ·refine zB [3] [(A,5)] (aX 1 f (zq 1 (zn (aA (dW [2,0] [(f,5)] [(r.V),qT] (λK G=>?_))))));refine⟨?_,G.below⟩;rw[<-g,KE j,N1 E];rfl
  ·refine zk (zr (zq 1 (dH 20 ((x:Int)+1) (zq 1 (zn ?_)))));refine nx (x+1) ?_ ?_ (d:=λ_ h=>Mem.sub (M4 _ _) (h.eqv (show _=([(bK C (dO p (some ⟨u,B,none⟩) l.length c) 29),(f,.cells [(I6 0),(I6 0),(U6 0),(I6 0),(St [])].toArray 58 (0,0))]:aH)++([(bK A r.cs 58)]:aH)from by kernel_rfl)))
   ·exact⟨by omega,by rw[<-g,KE j,E];rfl⟩
   ·show l.length-(x+1)<l.length-x;omega
 ·refine aI (zQ 1 (aX 1 f (zq 1 (zn (aA (dW [2,0] [(f,5)] [(.agg #[(I6 0),(I6 0),(U6 0),(I6 0),(St [])]),qF] (λK G=>?_)))))));refine⟨?_,G.below⟩;rw[<-g,cZ oW];rfl
def rK(l:List Bk):Bool:=match l[l.length-1]? with
 |some x=>x.t==1
 |none=>false
theorem Zq(l:List Bk)(a:Option Addr)(c:Nat)(w:World){U:View}(F:See U w)(C:cG U a l):CP 140 #[.slice a l.length c] w (Ret (.bool (rK l)) w):=by
 have d:=C.len;unfold R47 at d;have A:(l.length:Int)>0->IntKind.i64.wrap ((l.length:Int)-1)=((l.length-1:Nat):Int):=λh=>by
  rw[IntWalk.i64_in _ oW];omega
 refine dC 16 Tryz.func140 F ?_;refine zQ 1 (zn (zQ 4 (jM 6 ((l.length:Int)>0) (λE k=>?_) (λE k=>?_))))
 ·refine zq 4 (dZ 10 (I6 (IntKind.i64.wrap ((l.length:Int)-1))) (L6 (l.length-1)) (M0 (Value.int .i64) (A oW)) ?_);obtain⟨B,f⟩:∃y,(l)[(l.length-1)]? =some y:=⟨(l)[(l.length-1)]'oW,K8 _⟩;obtain⟨g,j,rfl,u⟩:=C.at_ (l.length-1) B f;refine cB (.pointer (some ⟨g,j+(l.length-1)*5,none⟩)) (rIx 58 rfl g j l.length c (l.length-1) 5) ?_;refine zq 1 (zV g (j+(l.length-1)*5+0) (I6 B.t) (u 0 _ rfl) 3 (.tmp 12) _ Tryz.underlying3 rfl ?_);refine zq 3 (zn (aA (aO [2] [(.bool (B.t==1))] (λD r=>?_))));refine⟨?_,r.below⟩;unfold rK;rw[f];rfl
 ·refine zq 10 (zn (aA (aO [2] [qF] (λD r=>?_))));refine⟨?_,r.below⟩;unfold rK;rw[Z9 oW];rfl
def IC(p:Pr)(l:List Bk):Bool:=match l[l.length-1]? with
 |some x=>(jE .u64 p.f 1==0)||decide (IntKind.u64.wrap ((p.off:Int)+(x.d.length:Int))<=(p.tot:Int))
 |none=>false
theorem QI(p:Pr)(l:List Bk)(a:Option Addr)(c:Nat)(w:World){U:View}(I:See U w)(C:cG U a l)(f:rK l=true):CP 142 #[bnV p a l.length c] w (Ret (.bool (IC p l)) w):=by
 have k:=C.len;unfold R47 at k;have F:0<l.length:=by
  rcases Nat.eq_zero_or_pos l.length with h|h
  ·unfold rK at f;rw[Z9 oW]at f;cases f
  ·exact h
 have D:IntKind.i64.wrap ((l.length:Int)-1)=((l.length-1:Nat):Int):=by
  rw[IntWalk.i64_in _ oW];omega
 refine dC 31 Tryz.func142 I ?_;refine zs (zr (aW (λj=>(zq 1 (zn (zB [0,1,0,1,0,0] [(j,1),(j,1)] (dZ 9 (I6 (IntKind.i64.wrap ((l.length:Int)-1))) (L6 (l.length-1)) (M0 (Value.int .i64) D) ?_)))))));obtain⟨g,d⟩:∃y,(l)[(l.length-1)]? =some y:=⟨(l)[(l.length-1)]'oW,K8 _⟩;obtain⟨r,u,rfl,B⟩:=C.at_ (l.length-1) g d;have E:=(C.ok g (K9 d)).d;unfold R47 at E;refine cB (.pointer (some ⟨r,u+(l.length-1)*5,none⟩)) (rIx 58 rfl r u l.length c (l.length-1) 5) ?_;refine zq 1 (zV r (u+(l.length-1)*5+4) (St g.d) (B 4 _ rfl) 9 (.tmp 11) _ Tryz.underlying9 rfl ?_);refine zq 2 (dZ 14 (U6 (IntKind.u64.wrap (((g.d).length:Nat):Int))) (N6 ((g.d).length:Nat)) (M0 (Value.int .u64) (u64_in oW oW)) ?_);refine zq 1 (zn (zB [0,0,1,0,0,0] [(j,1)] (cN 20 ((jE .u64 (p.f:Int) 1)==0) (λf=>?_) (λf=>?_))))
 ·refine zq 11 (zn (aA (aO [2] [qT] (λG A=>?_))));refine⟨?_,A.below⟩;unfold IC;rw[d];simp only[dD,f,bs,bQ,reduceIte]
 ·refine cF [0,0,1,0,0,0,0,1,0,0,0] [(j,1),(j,1)] (zn (aA (aO [2] [(.bool (decide ((IntKind.u64.wrap ((p.off:Int)+(((g.d).length:Nat):Int)))<=(p.tot:Int))))] (λG A=>?_))));refine⟨?_,A.below⟩;unfold IC;rw[d];simp only[dD,f,bs,bQ,reduceIte]
def II(l:List Bk):Int:=match l.find? (λx=>cX x !=0)with
 |some x=>cX x
 |none=>0
theorem sJ{l:List Bk}{i:Nat}{y:Bk}(h:l[i]? =some y):II (l.drop i)=if(cX y !=0)=true then cX y else II (l.drop (i+1)):=by
 unfold II;rw[dS h,X8];cases cX y !=0<;>simp
def fO(p:Pr)(l:List Bk):Int:=if cK p !=0 then cK p else II l
theorem Zr(p:Pr)(l:List Bk)(a:Option Addr)(c:Nat)(w:World){U:View}(N:See U w)(O:p.ok)(K:cG U a l):CP 91 #[bnV p a l.length c] w (Ret (.int .i64 (fO p l)) w):=by
 have r:=K.len;unfold R47 at r;refine dC 26 Tryz.func91 N ?_;refine zs (zr (aW (λu=>(zq 1 (zn (zs (zB [0,1] [(u,19)] (dN (λW f=>BU p W O) (zq 1 (zn (zQ 2 (zn (iE (cK p) 0 (λC _=>?_) (λC L=>?_))))))))))))))
 ·refine zQ 2 (zn (aA (aO [2] [(I6 (cK p))] (λJ f=>?_))));refine⟨?_,f.below⟩;unfold fO;rw[N1 C];rfl
 ·refine zk (zs (zB [0,1,0,0] [(u,1)] (zn (aB (eF (α:=Nat) (λx=>[2,14,15,16].zip [(I6 0),(.slice a l.length c),(L6 l.length),(L6 x)]) (λx=>U) (λx=>[(bK u (dO p a l.length c) 29)]) (λx=>x<=l.length/\II (l.drop x)=II l) (λx=>l.length-x) 0 ?_ ?_)))))
  ·exact⟨M8 _,rfl⟩
  intro x V;obtain⟨X,g⟩:=V;refine zQ 1 (zn (zs (aZ ((x:Int)<(l.length:Int)) (λM E=>?_) (λM E=>?_))))
  ·refine zk (zs (aB (zs (zr ?_))));obtain⟨k,j⟩:∃y,(l)[x]? =some y:=⟨(l)[x]'oW,K8 _⟩;obtain⟨A,B,rfl,I⟩:=K.at_ x k j;refine cB (Pt A (B+x*5)) (rIx 58 rfl A B l.length c x 5) ?_;refine zU A (B+x*5) k.cs I 58 (.tmp 18) _ Tryz.underlying58 rfl ?_;refine aW (λD=>(aX 1 D (zn (zB [2] [(D,5)] (dN (λW f=>CI k W) (zq 1 (zn (zQ 2 (zn (iE (cX k) 0 (λF G=>?_) (λF G=>?_)))))))))))
   ·refine zQ 2 (zn (aA (aO [2] [(I6 (cX k))] (λJ f=>?_))));refine⟨?_,f.below⟩;unfold fO;rw[M5 (by rw[C];exact M3),<-g,sJ j,N1 F];rfl
   ·refine zk (zr (zq 1 (dH 25 ((x:Int)+1) (zq 1 (zn ?_)))));refine nx (x+1) ?_ ?_ (d:=λ_ h=>Mem.sub (M4 _ _) (h.eqv (show _=([(bK u (dO p (some ⟨A,B,none⟩) l.length c) 29)]:aH)++([(bK D k.cs 58)]:aH)from by kernel_rfl)))
    ·exact⟨by omega,by rw[<-g,sJ j,F];rfl⟩
    ·show l.length-(x+1)<l.length-x;omega
  ·refine aI (zQ 1 (zn (aA (aO [2] [(I6 0)] (λJ f=>?_)))));refine⟨?_,f.below⟩;unfold fO;rw[M5 (by rw[C];exact M3),<-g,cZ oW];rfl
theorem MD:sU Tryz.prog 91 DF:=ZC Tryz.underlying91 Tryz.underlying3 (λw=>by kernel_rfl)
def bump(x:Int)(m:List (Int×Int)):List (Int×Int):=pB x (IntKind.i64.wrap (gP x m+1)) m
def BV:List Bk->List (Int×Int)->List (Int×Int)->Bool
 | [],_,t=>(gP 1 t==1)&&decide (gP 6 t<2)&&decide (gP 7 t<2)&&decide (gP 10 t<2)
 |y::r,m,t=>if decide (gP y.n (bump y.n m)>1)then false else BV r (bump y.n m) (bump y.t t)
def LX(l:List Bk):Bool:=BV l [] []
theorem JU{l:List Bk}{i:Nat}{y:Bk}{m t:List (Int×Int)}(h:l[i]? =some y):BV (l.drop i) m t=if decide (gP y.n (bump y.n m)>1)then false else BV (l.drop (i+1)) (bump y.n m) (bump y.t t):=by
 rw[dS h,BV]
theorem Tm(l:List Bk)(a:Option Addr)(c:Nat)(w:World){U:View}(Z:See U w)(X:cG U a l):CP 141 #[.slice a l.length c] w (Ret (.bool (LX l)) w):=by
 have C:=X.len;unfold R47 at C;refine dC 49 Tryz.func141 Z ?_;refine zQ 1 (zn (zs (zr (aW (λu=>(aW (λj=>(zq 2 (zn (zs (zQ 3 (zn (aB (eF (α:=Nat×List (Int×Int)×List (Int×Int)) (λx=>[2,3,4,9,10,11].zip [qF,(.map (some u)),(.map (some j)),(.slice a l.length c),(L6 l.length),(L6 x.1)]) (λx=>U) (λx=>[(u,(mO DF x.2.1)),(j,(mO DF x.2.2))]) (λx=>x.1<=l.length/\BV (l.drop x.1) x.2.1 x.2.2=LX l) (λx=>l.length-x.1) (0,[],[]) ?_ ?_))))))))))))))
 ·exact⟨M8 _,rfl⟩
 intro x hx;obtain⟨a1,g⟩:=hx;refine zQ 1 (zn (zs (aZ ((x.1:Int)<(l.length:Int)) (λY I=>?_) (λY I=>?_))))
 ·refine zk (zs (aB (zs (zr ?_))));obtain⟨f,r⟩:∃y,(l)[x.1]? =some y:=⟨(l)[x.1]'oW,K8 _⟩;obtain⟨F,G,rfl,V⟩:=X.at_ x.1 f r;refine cB (Pt F (G+x.1*5)) (rIx 58 rfl F G l.length c x.1 5) ?_;refine zU F (G+x.1*5) f.cs V 58 (.tmp 13) _ Tryz.underlying58 rfl ?_;refine aW (λA=>(aX 2 A (zn (zB [0,0,3] [(A,1)] ?_))));refine qU MD 0 u x.2.1 f.n (.tmp 15) (.tmp 17) rfl kR kR kR kR kR ?_;refine zq 1 ?_;refine Yj MD 0 u x.2.1 f.n (IntKind.i64.wrap ((gP f.n x.2.1)+1)) (.tmp 15) (.tmp 17) (.tmp 19) rfl kR kR kR kR kR kR ?_;refine zn (zB [0,0,3] [(A,1)] ?_);refine qU MD 1 j x.2.2 f.t (.tmp 20) (.tmp 22) rfl kR kR kR kR kR ?_;refine zq 1 ?_;refine Yj MD 1 j x.2.2 f.t (IntKind.i64.wrap ((gP f.t x.2.2)+1)) (.tmp 20) (.tmp 22) (.tmp 24) rfl kR kR kR kR kR kR ?_;refine zn (zB [0,0,3] [(A,1)] ?_);refine qU MD 0 u (pB f.n (IntKind.i64.wrap ((gP f.n x.2.1)+1)) x.2.1) f.n (.tmp 25) (.tmp 27) rfl kR kR kR kR kR ?_;refine zq 1 (zn (aZ ((gP f.n (pB f.n (IntKind.i64.wrap ((gP f.n x.2.1)+1)) x.2.1))>1) (λJ K=>?_) (λJ K=>?_)))
  ·refine zQ 1 (zn (aA (aO [2] [qF] (λD k=>?_))));refine⟨?_,k.below⟩;rw[<-g,JU r];unfold bump;rw[N1 J];rfl
  ·refine zk (zr (zq 1 (dH 30 ((x.1:Int)+1) (zq 1 (zn ?_)))));refine nx (x.1+1,(pB f.n (IntKind.i64.wrap ((gP f.n x.2.1)+1)) x.2.1),(pB f.t (IntKind.i64.wrap ((gP f.t x.2.2)+1)) x.2.2)) ?_ ?_ (d:=λ_ h=>Mem.sub (M4 _ _) (h.eqv (show _=([(u,(mO DF (pB f.n (IntKind.i64.wrap ((gP f.n x.2.1)+1)) x.2.1))),(j,(mO DF (pB f.t (IntKind.i64.wrap ((gP f.t x.2.2)+1)) x.2.2)))]:aH)++([(bK A f.cs 58)]:aH)from by kernel_rfl)))
   ·exact⟨by show x.1+1<=_;omega,by rw[<-g,JU r];unfold bump;rw[M5 (by rw[J];exact M3)]⟩
   ·show l.length-(x.1+1)<l.length-x.1;omega
 ·refine aI (zQ 1 ?_);refine qU MD 1 j x.2.2 1 (.tmp 31) _ rfl kR kR kR kR kR ?_;refine zq 2 (jZ 34 (gP 1 x.2.2) 1 (λB L=>?_) (λB L=>?_))
  ·refine zq 1 ?_;refine qU MD 1 j x.2.2 6 (.tmp 35) _ rfl kR kR kR kR kR ?_;refine zq 3 (jM 39 ((gP 6 x.2.2)<2) (λE M=>?_) (λE M=>?_))
   ·refine zq 1 ?_;refine qU MD 1 j x.2.2 7 (.tmp 40) _ rfl kR kR kR kR kR ?_;refine zq 3 (jM 44 ((gP 7 x.2.2)<2) (λN O=>?_) (λN O=>?_))
    ·refine zq 1 ?_;refine qU MD 1 j x.2.2 10 (.tmp 45) _ rfl kR kR kR kR kR ?_;refine zq 3 (zn (aA (aO [2] [(.bool (decide ((gP 10 x.2.2)<2)))] (λD k=>?_))));refine⟨?_,k.below⟩;rw[<-g,cZ oW];simp only[BV,dD,B,E,N,bs,bQ,reduceIte]
    ·refine zq 5 (zn (aA (aO [2] [qF] (λD k=>?_))));refine⟨?_,k.below⟩;rw[<-g,cZ oW];simp only[BV,dD,B,E,N,bs,bQ,reduceIte]
   ·refine zq 10 (zn (aA (aO [2] [qF] (λD k=>?_))));refine⟨?_,k.below⟩;rw[<-g,cZ oW];simp only[BV,dD,B,E,bs,bQ,reduceIte]
  ·refine zq 15 (zn (aA (aO [2] [qF] (λD k=>?_))));refine⟨?_,k.below⟩;rw[<-g,cZ oW];simp only[BV,dD,B,bs,bQ,reduceIte]
def fG(p:Pr)(l:List Bk):Int:=if decide ((l.length:Int)>16)then 4 else if !rK l|| !LX l||((p.time:Int)==0&& !(BZ l 7).2)|| !IC p l then 8 else 0
theorem Zs(p:Pr)(l:List Bk)(a:Option Addr)(c:Nat)(w:World){U:View}(G:See U w)(u:cG U a l):CP 92 #[bnV p a l.length c] w (Ret (.int .i64 (fG p l)) w):=by
 refine dC 39 Tryz.func92 G ?_;refine zs (zr (aW (λj=>(zq 1 (zn (zs (zB [0,1,0,0] [(j,1)] (zn (aZ ((l.length:Int)>16) (λg _=>?_) (λg F=>?_))))))))))
 ·refine zQ 1 (zn (aA (aO [2] [(I6 4)] (λh d=>?_))));exact⟨by simp only[dD,fG,g,bs,bQ,reduceIte],d.below⟩
 ·refine zk (zB [1] [(j,20)] (cY 139 #[(bnV p a l.length c),(I6 7)] (.tuple #[(BZ l 7).1.V,(.bool (BZ l 7).2)]) (λW d=>Tk p l _ _ 7 W d.view u) ?_));refine zq 3 (aW (λE=>(aX 1 E (zq 1 (zn (zs (zB [0,1] [(j,1)] (cY 140 #[(.slice a l.length c)] (.bool (rK l)) (λW d=>Zq l _ _ W d.view u) ?_))))))));refine zq 2 (cN 18 (!(rK l)) (λf=>?_) (λf=>?_))
  ·refine zq 20 (zn (dM (zQ 1 (zn (aA (aO [2] [(I6 8)] (λh d=>?_)))))));exact⟨by simp only[dD,fG,g,f,bs,bQ,reduceIte],d.below⟩
  ·refine cF [0,1] [(j,1)] (cY 141 #[(.slice a l.length c)] (.bool (LX l)) (λW d=>Tm l _ _ W d.view u) ?_);refine zq 3 (cN 24 (!(LX l)) (λk=>?_) (λk=>?_))
   ·refine zq 14 (zn (dM (zQ 1 (zn (aA (aO [2] [(I6 8)] (λh d=>?_)))))));exact⟨by simp only[dD,fG,g,f,k,bs,bQ,reduceIte],d.below⟩
   ·refine cF [0,0,1,0,0] [(j,1)] (jZ 29 (p.time:Int) 0 (λr B=>?_) (λr B=>?_))
    ·refine zq 5 (cN 34 (!(BZ l 7).2) (λA=>?_) (λA=>?_))
     ·refine zq 4 (zn (dM (zQ 1 (zn (aA (aO [2] [(I6 8)] (λh d=>?_)))))));exact⟨by simp only[dD,fG,g,f,k,r,A,bs,bQ,reduceIte],d.below⟩
     ·refine cF [1] [(j,20)] (cY 142 #[(bnV p a l.length c)] (.bool (IC p l)) (λW d=>QI p l _ _ W d.view u (by simpa using f)) ?_);refine zq 2 (zn (gK (!(IC p l)) (λC=>?_) (λC=>?_)))
      ·refine zQ 1 (zn (aA (aO [2] [(I6 8)] (λh d=>?_))));exact⟨by simp only[dD,fG,g,f,k,r,A,C,bs,bQ,reduceIte],d.below⟩
      ·refine zk (zQ 1 (zn (aA (aO [2] [(I6 0)] (λh d=>?_)))));exact⟨by simp only[dD,fG,g,f,k,r,A,C,bs,bQ,reduceIte],d.below⟩
    ·refine cF [0,0,0,0,0,1] [(j,20)] (cY 142 #[(bnV p a l.length c)] (.bool (IC p l)) (λW d=>QI p l _ _ W d.view u (by simpa using f)) ?_);refine zq 2 (zn (gK (!(IC p l)) (λD=>?_) (λD=>?_)))
     ·refine zQ 1 (zn (aA (aO [2] [(I6 8)] (λh d=>?_))));exact⟨by simp only[dD,fG,g,f,k,r,D,bs,bQ,reduceIte],d.below⟩
     ·refine zk (zQ 1 (zn (aA (aO [2] [(I6 0)] (λh d=>?_)))));exact⟨by simp only[dD,fG,g,f,k,r,D,bs,bQ,reduceIte],d.below⟩
theorem FH{p:Pr}(h:cK p=0):(fE p).length<=4000:=by
 obtain⟨g,hs,j,a,d⟩:=oN (jJ h);have r:=BG (2*p.c.toNat);have k:=BT (p:=p) (Z (2*p.c.toNat)) g hs j;have f:=Xz (l:=prZ p) a d;have u:=Itm.cV p.tree;unfold fE;unfold Pr.tree prZ at *;omega
theorem tL{x:Bk}(h:cX x=0):(iB x).length<=50000:=by
 obtain⟨A,u,a,d,r,j⟩:=iG h;have f:=CH x [];have g:=Ya (l:=dR x []) a d;have k:=Itm.cV x.tree;unfold iB;unfold Bk.tree at *;simp only[O8]at f;omega
def CG(l:List Bk):List UInt8:=l.flatMap iB
def lN(p:Pr)(l:List Bk):List UInt8:=[159]++fE p++CG l++[255]
theorem KP{l:List Bk}{i:Nat}{y:Bk}(h:l[i]? =some y):CG (l.drop i)=iB y++CG (l.drop (i+1)):=by
 unfold CG;rw[dS h,P9]
theorem GZ:∀(l:List Bk),(∀x∈l,cX x=0)->(CG l).length<=50000*l.length
 | [],_=>O9 _
 |x::r,h=>by
  have d:=tL (h x (Q3 ..));have f:=GZ r λy a=>h y (P3 _ a)
  unfold CG at *;rw[P9,L4,M9];omega
theorem NF(p:Pr)(l:List Bk)(a:Option Addr)(c:Nat)(w:World){U:View}(O:See U w)(Y:p.ok)(M:cG U a l)(E:cK p=0)(L:∀x∈l,cX x=0)(N:l.length<=16):CP 93 #[bnV p a l.length c] w (Ret (.string (B (lN p l))) w):=by
 have V:=FH E;have X:=GZ l L;refine dC 37 Tryz.func93 O ?_;refine zs (zr (aW (λA=>(zq 1 (zn (zB [0,1] [(A,19)] (dN (λW k=>JR p W Y E) (zq 5 (zn (zs (zr (dN (λW k=>CD W) (zq 1 (cB (St ([159]++(fE p))) (cE _ _ _ _ rfl [159] (fE p) kR kR oA) ?_))))))))))))));refine zq 1 (zn (zs (zB [0,1,0,0] [(A,1)] (zn (aB (eF (α:=Nat×List UInt8) (λx=>[2,3,19,20,21].zip [(St []),(St x.2),(.slice a l.length c),(L6 l.length),(L6 x.1)]) (λx=>U) (λx=>[(bK A (dO p a l.length c) 29)]) (λx=>x.1<=l.length/\x.2++CG (l.drop x.1)=([159]++fE p)++CG l) (λx=>l.length-x.1) (0,[159]++fE p) ?_ ?_))))))
 ·exact⟨M8 _,rfl⟩
 intro x Z;obtain⟨a1,g⟩:=Z;have J:=M0 List.length g;simp only[L4,M9,O8]at J;refine zQ 1 (zn (zs (aZ ((x.1:Int)<(l.length:Int)) (λE G=>?_) (λE G=>?_))))
 ·refine zk (zs (aB (zs (zr ?_))));obtain⟨j,f⟩:∃y,(l)[x.1]? =some y:=⟨(l)[x.1]'oW,K8 _⟩;obtain⟨C,D,rfl,I⟩:=M.at_ x.1 j f;have u:=L j (K9 f);have K:=M.ok j (K9 f);have a6:=tL u;have r:=M0 List.length (KP f);simp only[L4]at r;refine cB (Pt C (D+x.1*5)) (rIx 58 rfl C D l.length c x.1 5) ?_;refine zU C (D+x.1*5) j.cs I 58 (.tmp 23) _ Tryz.underlying58 rfl ?_;refine aW (λF=>(aX 1 F (zn (zB [2] [(F,5)] (dN (λW k=>Zp j W K u) (zq 5 (zn (zr (zq 2 (cB (St (x.2++(iB j))) (cE _ _ _ _ rfl x.2 (iB j) kR kR oA) ?_))))))))));refine zq 1 (zn (zr (zq 1 (dH 33 ((x.1:Int)+1) (zq 1 (zn ?_))))));refine nx (x.1+1,(x.2++(iB j))) ?_ ?_ (d:=λ_ h=>Mem.sub (M4 _ _) (h.eqv (show _=([(bK A (dO p (some ⟨C,D,none⟩) l.length c) 29)]:aH)++([(bK F j.cs 58)]:aH)from by kernel_rfl)))
  ·exact⟨by show x.1+1<=_;omega,by rw[<-g,KP f,M6]⟩
  ·show l.length-(x.1+1)<l.length-x.1;omega
 ·refine aI (zQ 1 (dN (λW k=>CC W) (cB (St (x.2++[255])) (cE _ _ _ _ rfl x.2 [255] kR kR oA) ?_)));refine zq 1 (zn (aA (aO [2] [(St (x.2++[255]))] (λW' k=>?_))));refine⟨?_,k.below⟩;rw[cZ oW]at g;unfold lN;rw[<-g];simp only[dD,CG,X2,M1]
theorem pY{p:Pr}{l:List Bk}(h:fO p l=0):cK p=0/\∀x∈l,cX x=0:=by
 unfold fO at h;split at h
 ·next a=>rw[h]at a;cases a
 ·next a=>
  refine⟨by simpa using a,λx f=>?_⟩;unfold II at h;split at h
  ·next y g=>
   have:=bX g;rw[h]at this;cases this
  ·next d=>
   have:=bH.1 d x f;simpa using this
def sL(p:Pr)(l:List Bk):List UInt8×Int:=
 if fO p l !=0 then([],fO p l)else if fG p l !=0 then([],fG p l)else if decide (((lN p l).length:Int)>4000)then([],4)else(lN p l,0)
theorem IZ{p:Pr}{l:List Bk}(h:(fG p l !=0)=false):l.length<=16:=by
 unfold fG at h;split at h
 ·cases h
 ·next a=>
  simp only[N0]at a;omega
theorem Tl(p:Pr)(l:List Bk)(a:Option Addr)(c:Nat)(w:World){U:View}(D:See U w)(u:p.ok)(r:cG U a l):CP 48 #[bnV p a l.length c] w (Ret (.tuple #[.string (B (sL p l).1),.int .i64 (sL p l).2]) w):=by
 refine dC 23 Tryz.func48 D ?_;refine zs (zr (aW (λj=>(zq 2 (zn (zs (zB [1] [(j,20)] (cY 91 #[(bnV p a l.length c)] (I6 (fO p l)) (λW d=>Zr p l _ _ W d.view u r) ?_))))))));refine zq 1 (zn (zQ 2 (zn (iE (fO p l) 0 (λf _=>?_) (λf A=>?_)))))
 ·refine zQ 3 (zn (aA (aO [2,3] [(St []),(I6 (fO p l))] (λh d=>?_))));refine⟨?_,d.below⟩;unfold sL;simp only[dD,f,bs,bQ,reduceIte]
 ·refine zk (zs (zB [1] [(j,20)] (cY 92 #[(bnV p a l.length c)] (I6 (fG p l)) (λW d=>Zs p l _ _ W d.view r) ?_)));refine zq 1 (zn (zQ 2 (zn (iE (fG p l) 0 (λg _=>?_) (λg C=>?_)))))
  ·refine zQ 3 (zn (aA (aO [2,3] [(St []),(I6 (fG p l))] (λh d=>?_))));refine⟨?_,d.below⟩;unfold sL;simp only[dD,f,g,bs,bQ,reduceIte]
  ·refine zk (zB [1] [(j,20)] (cY 93 #[(bnV p a l.length c)] (St (lN p l)) (λW d=>NF p l _ _ W d.view u r (pY (by simpa using f)).1 (pY (by simpa using f)).2 (IZ g)) ?_));refine zq 1 (zn (zs (zQ 3 (zn (gK (decide (((((lN p l)).length:Nat):Int)>4000)) (λk=>?_) (λk=>?_))))))
   ·refine zQ 2 (zn (aA (aO [2,3] [(St []),(I6 4)] (λh d=>?_))));refine⟨?_,d.below⟩;unfold sL;simp only[dD,f,g,k,bs,bQ,reduceIte]
   ·refine zk (zQ 3 (zn (aA (aO [2,3] [(St (lN p l)),(I6 0)] (λh d=>?_)))));refine⟨?_,d.below⟩;unfold sL;simp only[dD,f,g,k,bs,bQ,reduceIte]
def aK(p:Pr)(l:List Bk):Int:=(sL p l).2
theorem mU(p:Pr)(l:List Bk)(a:Option Addr)(c:Nat)(w:World){U:View}(g:See U w)(j:p.ok)(h:cG U a l):CP 22 #[bnV p a l.length c] w (Ret (.int .i64 (aK p l)) w):=by
 refine dC 11 Tryz.func22 g ?_;refine zs (zr (aW (λd=>(zq 1 (zn (zB [1] [(d,20)] (cY 48 #[(bnV p a l.length c)] (.tuple #[(St (sL p l).1),(I6 (sL p l).2)]) (λW f=>Tl p l _ _ W f.view j h) ?_)))))));refine zq 5 (zn (zQ 2 (zn (aA (gC 2)))))
theorem Ic(x:Bk)(num:Int)(a:Nat)(w:World){U:View}(f:See U w)(g:U ⟨a,0,none⟩=some (.int .i64 num)):CP 96 #[x.V,.pointer (some ⟨a,0,none⟩)] w (Ret (.bool (x.n==num)) w):=by
 refine dC 8 Tryz.func96 f ?_;refine zs (zr (aW (λd=>(zq 1 (zn (zB [0,1] [(d,1)] (zV a (0) (I6 num) g 3 (.tmp 1) _ Tryz.underlying3 rfl ?_)))))));refine zq 2 (zn (aA (gC 3)))
def QY(num:Int):Nat->List Bk->Int
 |_,[]=> -1
 |i,x::r=>if x.n==num then(i:Int)else QY num (i+1) r
def jC(l:List Bk)(num:Int):Int:=QY num 0 l
theorem lF{l:List Bk}{num:Int}{i:Nat}{y:Bk}(h:l[i]? =some y):QY num i (l.drop i)=if y.n==num then(i:Int)else QY num (i+1) (l.drop (i+1)):=by
 rw[dS h,QY]
theorem mR(num:Int):∀(i:Nat) (l:List Bk),(QY num i l= -1/\∀x∈l,x.n≠num)\/∃(j:Nat) (x:Bk),QY num i l=((i+j:Nat):Int)/\l[j]? =some x/\x.n=num/\j<l.length
 |i,[]=>.inl ⟨rfl,λx a=>by simp at a⟩
 |i,x::r=>by
  rw[QY];cases a:x.n==num with
  |true=>exact .inr ⟨0,x,by simp,rfl,eq_of_beq a,by simp⟩
  |false=>
   simp only[N9,if_false];rcases mR num (i+1) r with⟨d,f⟩|⟨j,y,d,f,h,k⟩
   ·refine .inl ⟨d,λy g=>?_⟩;rcases O6.1 g with rfl|g
    ·exact M2.1 a
    ·exact f y g
   ·exact .inr ⟨j+1,y,by rw[d];congr 1;omega,f,h,by simp;omega⟩
theorem Vf(l:List Bk)(a:Option Addr)(c:Nat)(num:Int)(j:Nat)(w:World){U:View}(I:See U w)(E:cG U a l)(J:U ⟨j,0,none⟩=some (.int .i64 num)):
    CP 57 #[.slice a l.length c,.func (.func 96) #[] #[.pointer (some ⟨j,0,none⟩)]] w (Ret (.int .i64 (jC l num)) w):=by
 have h:=E.len;unfold R47 at h;refine dC 19 Tryz.func57 I ?_;refine zQ 1 (zn (zs (zQ 3 (zn (aB (eF (α:=Nat) (λx=>[0,1,4,7,8].zip [(.slice a l.length c),(.func (.func 96) #[] #[(Pt j 0)]),(I6 0),(L6 l.length),(L6 x)]) (λx=>U) (λx=>[]) (λx=>x<=l.length/\QY num x (l.drop x)=jC l num) (λx=>l.length-x) 0 ?_ ?_))))))
 ·exact⟨M8 _,rfl⟩
 intro x K;obtain⟨L,d⟩:=K;refine zQ 1 (zn (zs (aZ ((x:Int)<(l.length:Int)) (λG A=>?_) (λG A=>?_))))
 ·refine zk (zs (aB (zQ 2 (zn (zQ 3 ?_)))));obtain⟨k,f⟩:∃y,(l)[x]? =some y:=⟨(l)[x]'oW,K8 _⟩;obtain⟨r,u,rfl,D⟩:=E.at_ x k f;refine cB (Pt r (u+x*5)) (rIx 58 rfl r u l.length c x 5) ?_;refine zU r (u+x*5) k.cs D 58 (.tmp 14) _ Tryz.underlying58 rfl ?_;refine dN (λW g=>Ic k num j W g.view J) (zn (fC k.n num (λB C=>?_) (λB C=>?_)))
  ·refine zQ 2 (zn (aA (aO [4] [(L6 x)] (λF g=>?_))));refine⟨?_,g.below⟩;rw[<-d,lF f,N1 B];rfl
  ·refine zk (zr (zq 1 (dH 18 ((x:Int)+1) (zq 1 (zn ?_)))));refine nx (x+1) ?_ ?_
   ·exact⟨by omega,by rw[<-d,lF f,B];rfl⟩
   ·show l.length-(x+1)<l.length-x;omega
 ·refine aI (zQ 1 (zn (aA (aO [4] [(I6 (-1))] (λF g=>?_)))));refine⟨?_,g.below⟩;rw[<-d,cZ oW];rfl
theorem Tj(p:Pr)(l:List Bk)(a:Option Addr)(c:Nat)(num:Int)(w:World){U:View}(k:See U w)(r:cG U a l):CP 53 #[bnV p a l.length c,.int .i64 num] w (Ret (.int .i64 (jC l num)) w):=by
 refine dC 9 Tryz.func53 k ?_;refine zs (zr (aW (λh=>(aW (λd=>(zq 1 (zn (zB [0,1,0] [(h,1)] ?_))))))));refine eY [(bK h (dO p a l.length c) 29)] [] d [(I6 num)] 3 kR (λA g f=>?_);have u:=r.le g;refine cY 57 #[(.slice a l.length c),(.func (.func 96) #[] #[(Pt d 0)])] (I6 (jC l num)) (λW j=>Vf l _ _ num d W j.view u (f 0 _ rfl)) ?_;refine zq 1 (zn (aA (gC 4)))
def fI(l:List Bk)(num:Int):Bk×Bool:=match l.find? (λx=>x.n==num)with
 |some x=>(x,true)
 |none=>(Bk.none,false)
theorem EC{l:List Bk}{num:Int}(h:jC l num<0):fI l num=(Bk.none,false):=by
 rcases mR num 0 l with⟨_,a⟩|⟨j,x,f,_⟩
 ·unfold fI;rw[bH.2 λx d=>by simpa using a x d]
 ·unfold jC at h;omega
theorem WB(num:Int):∀(i:Nat) (l:List Bk) (j:Nat),QY num i l=((i+j:Nat):Int)->∃x,l[j]? =some x/\l.find? (λx=>x.n==num)=some x
 |i,[],j,h=>by unfold QY at h;omega
 |i,x::r,j,h=>by
  unfold QY at h;cases a:x.n==num with
  |true=>
   rw[a]at h;simp only[if_true]at h;obtain rfl:j=0:=by omega
   exact⟨x,rfl,by rw[X8,a]⟩
  |false=>
   rw[a]at h;simp only[N9,if_false]at h;cases j with
   |zero=>
    rcases mR num (i+1) r with⟨d,_⟩|⟨k,y,d,_⟩<;>omega
   |succ j=>
    obtain⟨y,d,f⟩:=WB num (i+1) r j oW;exact⟨y,d,by rw[X8,a];exact f⟩
theorem AU{l:List Bk}{num:Int}{y:Bk}(h:¬jC l num<0)(g:l[(jC l num).toNat]? =some y):fI l num=(y,true):=by
 have a:jC l num=((0+(jC l num).toNat:Nat):Int):=by omega
 obtain⟨x,d,f⟩:=WB num 0 l _ a;rw[g]at d;cases d;unfold fI;rw[f]
theorem GJ{l:List Bk}{num:Int}(d:¬jC l num<0):(jC l num).toNat<l.length/\jC l num=((jC l num).toNat:Int):=by
 rcases mR num 0 l with⟨a,_⟩|⟨j,x,a,_,_,f⟩<;>unfold jC at* <;>omega
theorem BD(p:Pr)(l:List Bk)(a:Option Addr)(c:Nat)(num:Int)(w:World){U:View}(F:See U w)(C:cG U a l):CP 24 #[bnV p a l.length c,.int .i64 num] w (Ret (.tuple #[(fI l num).1.V,.bool (fI l num).2]) w):=by
 have G:=GJ (l:=l) (num:=num);refine dC 18 Tryz.func24 F ?_;refine zs (zr (aW (λB=>(aW (λg=>(zq 1 (zn (zB [1,0] [(B,20)] (cY 53 #[(bnV p a l.length c),(I6 num)] (I6 (jC l num)) (λW d=>Tj p l _ _ num W d.view C) ?_)))))))));refine zq 1 (zn (zs (zQ 2 (zn (aZ ((jC l num)<0) (λE k=>?_) (λE k=>?_))))))
 ·refine zQ 1 (aX 1 g (zq 1 (zn (aA (dW [2,0] [(g,5)] [(.agg #[(I6 0),(I6 0),(U6 0),(I6 0),(St [])]),qF] (λD d=>?_))))));refine⟨?_,d.below⟩;rw[EC oW];rfl
 ·refine zk (zB [0,1,0] [(B,1)] ?_);obtain⟨I,u⟩:=G oW;refine dZ 15 (I6 (jC l num)) (I6 ((jC l num).toNat:Int)) (M0 (Value.int .i64) u) ?_;obtain⟨A,f⟩:∃y,(l)[((jC l num).toNat)]? =some y:=⟨(l)[((jC l num).toNat)]'oW,K8 _⟩;obtain⟨h,j,rfl,r⟩:=C.at_ ((jC l num).toNat) A f;refine cB (.pointer (some ⟨h,j+((jC l num).toNat)*5,none⟩)) (jP _ 58 _ _ rfl h j l.length c ((jC l num).toNat) 5 .i64 kR kR (by first|assumption|omega) kR kR) ?_;refine zU h (j+((jC l num).toNat)*5) A.cs r 58 (.tmp 16) _ Tryz.underlying58 rfl ?_;refine aX 1 g (zq 1 (zn (aA (dW [2,0] [(g,5)] [(A.V),qT] (λD d=>?_)))));refine⟨?_,d.below⟩;rw[AU oW f];rfl
theorem Fz{A zs:List Value}{k:Nat}(h:k<=A.length):(cJ A k zs).take k=A.take k:=by
 unfold cJ;rw[M6,List.take_append_of_le_length (by rw[O3];omega),List.take_take,Nat.min_self]
theorem Rb{A zs:List Value}{k:Nat}(h:k+zs.length<=A.length):(cJ A k zs).length=A.length:=by
 unfold cJ;simp only[L4,O3,N8];omega
theorem Ii{a junk zs:List Value}{i n z:Nat}(g:a.length=n*z)(B:i<n)(C:zs.length=z):(cJ (cJ (a++junk) (0+i*z) (a.drop ((i+1)*z))) (0+(i+(n-(i+1)))*z) zs).take ((n-1)*z)=a.take (i*z)++a.drop ((i+1)*z):=by
 obtain⟨d,rfl⟩:∃d,n=i+1+d:=⟨n-(i+1),by omega⟩;rw[show i+(i+1+d-(i+1))=i+d by omega,show i+1+d-1=i+d by omega,O0,O0];have f:(i+1+d)*z=i*z+z+d*z:=by rw[W6,W6,Nat.one_mul]
 have r:(i+1)*z=i*z+z:=by rw[W6,Nat.one_mul]
 have h:(i+d)*z=i*z+d*z:=by rw[W6]
 have j:(a.drop ((i+1)*z)).length=d*z:=by rw[N8,g,f,r];omega
 have u:=Rb (A:=a++junk) (zs:=a.drop ((i+1)*z)) (k:=i*z) (by rw[j,L4,g,f];omega);rw[Fz (by rw[u,L4,g,f,h];omega)];unfold cJ;rw[List.take_append_of_le_length (by rw[L4,j,O3,L4,g,f,h];omega)];rw[O2 (by rw[L4,j,O3,L4,g,f,h];omega)];rw[List.take_append_of_le_length (by rw[g,f];omega)]
theorem Ui{W:World}{b c i n z:Nat}{f junk:List Value}{t:TypeId}(g:W.heap[b]? =some (.cells (f++junk).toArray t (0,0)))(k:f.length=n*z)(u:i<n)(r:n<=c):W.rangeAt b (if c=i+1 then 0 else 0+(i+1)*z) (f.drop ((i+1)*z)):=by
 intro j v a;by_cases h:c=i+1
 ·have:n=i+1:=by omega
  rw[R6 (by rw[k,this];exact O9 _)]at a;simp at a
 ·rw[M5 h,cell_of_row _ _ _ _ _ _ g,O0];rw[Z4]at a;have d:=(L8.1 a).1;simp only[X7];rw[Q1 d];exact a
theorem PY{W0:Cx}{U:View}{d:aH}{W:World}(b c n i:Nat)(a junk:List Value)(f:Mem W0 U ([(b,.cells (a++junk).toArray 3 (0,0))]++d) W)(B:(Rw.row b c junk).ok 1 n a)(I:∀u∈a,u.oneCell'=true)(F:i<n):
    CP 104 #[.slice (some ⟨b,0,none⟩) n c,.int .i64 (i:Int),.int .i64 ((i+1:Nat):Int)] W (gX W0 U d λv V σ'=>σ'=[]/\v=.slice (some ⟨b,0,none⟩) (n-1) c/\V.range b 0 (a.take (i*1)++a.drop ((i+1)*1))):=by
 obtain⟨D,J,r,K⟩:=B;have j:((i:Int)==((i+1:Nat):Int))=false:=M2.2 oW;have M:(a++junk).length=a.length+junk.length:=L4;have g:(a.drop ((i+1)*1)).length=(n-(i+1))*1:=by rw[N8,D];omega
 have C:=Rb (A:=a++junk) (zs:=(a.drop ((i+1)*1))) (k:=0+i*1) oW;refine fB 33 Tryz.func104 f ?_;refine zQ 1 (zn (zQ 5 (cB (.slice (some ⟨b,(0+i*1),none⟩) (i+1-i) (n-i)) (iL 75 3 (.tmp 8) (some (.tmp 9)) (some (.tmp 10)) (some (.tmp 12)) rfl b 0 n c i (i+1) n 1 (i+1-i) (n-i) (0+i*1) kR eR eR eR (by decide) oW oW oW oW oW (by first|rfl|(split<;>omega)) Tryz.underlying75 kR) ?_)));refine zn (zs (zQ 3 (zn (dY ((i:Int)==((i+1:Nat):Int)) j ?_))));refine zk (zQ 3 (zn (zs ?_)));refine gI 1 [0,0,1,0,0,1] [] [.val (Sl b 0 i c),.val (.slice (some ⟨b,(if c=i+1 then 0 else 0+(i+1)*1),none⟩) (n-(i+1)) (c-(i+1)))] ⟨?_,?_,trivial⟩ ?_
 ·exact vR (iL 75 3 (.tmp 20) none (some (.tmp 21)) none rfl b 0 n c 0 i c 1 i c 0 kR eR eR eR (by decide) oW oW oW oW oW (by first|rfl|(split<;>omega)) Tryz.underlying75 kR)
 ·exact vR (iL 75 3 (.tmp 23) (some (.tmp 24)) none none rfl b 0 n c (i+1) n c 1 (n-(i+1)) (c-(i+1)) (if c=i+1 then 0 else 0+(i+1)*1) kR eR eR eR (by decide) oW oW oW oW oW (by first|rfl|(split<;>omega)) Tryz.underlying75 kR)
 refine Gc 0 b 0 i c b (if c=i+1 then 0 else 0+(i+1)*1) (n-(i+1)) (c-(i+1)) 1 (a++junk) (a.drop ((i+1)*1)) 3 75 3 (.tmp 22) (.tmp 25) rfl kR kR kR (λW f=>Ui (f.own 0 b _ rfl).1 D F r) g (λu L=>I u (af L)) oW oW Tryz.underlying75 kR kR kR ?_;refine zq 1 (zn (zQ 4 (cB (.slice (some ⟨b,(0+(i+(n-(i+1)))*1),none⟩) (0+1) (c-(i+(n-(i+1))))) (iL 75 3 (.tmp 27) (some (.tmp 29)) (some (.tmp 30)) none rfl b 0 (i+(n-(i+1))) c (i+(n-(i+1))) n c 1 (0+1) (c-(i+(n-(i+1)))) (0+(i+(n-(i+1)))*1) kR eR eR eR (by decide) oW oW oW oW oW (by first|rfl|(split<;>omega)) Tryz.underlying75 kR) ?_)));refine Mj 0 b (0+(i+(n-(i+1)))*1) 0 (c-(i+(n-(i+1)))) 1 (cJ (a++junk) (0+i*1) (a.drop ((i+1)*1))) (I6 0) 3 75 3 (.tmp 31) rfl kR kR (λW=>by kernel_rfl) rfl kR (by rw[C];omega) Tryz.underlying75 kR kR (λY E=>?_);refine zn (zQ 2 (zn (aA (aO [6] [(Sl b 0 (i+(n-(i+1))) c)] (λG f=>?_)))));have h:Mem W0 U ((b,(.cells (cJ (cJ (a++junk) (0+i*1) (a.drop ((i+1)*1))) (0+(i+(n-(i+1)))*1) Y).toArray 3 (0,0)))::d) G:=f;obtain⟨V,N,O,X⟩:=h.freezeHead;refine⟨_,V,[],rfl,N,X,rfl,?_,?_⟩
 ·show Value.slice (some ⟨b,0,none⟩) (i+(n-(i+1))) c=_;rw[show i+(n-(i+1))=n-1 by omega]
 ·have:V.range b (0+0) (a.take (i*1)++a.drop ((i+1)*1)):=View.sub O 0 ((n-1)*1) (by rw[W5];exact Ii D F (by rw[E]));exact this
theorem gX.mono{W0:Cx}{U:View}{a:aH}{Φ Ψ:Value->View->aH->Prop}{e:Ending}{W':World}(h:gX W0 U a Φ e W')(j:∀v V σ',Φ v V σ'->Ψ v V σ'):gX W0 U a Ψ e W':=by
 obtain⟨v,V,σ',g,k,f,d⟩:=h;exact⟨v,V,σ',g,k,f,j v V σ' d⟩
def IK(l:List Bk)(v:Value)(V:View):Prop:=∃a c,v=.slice a l.length c/\cG V a l
theorem IK.mono{l:List Bk}{v:Value}{V V':View}(f:View.le V V')(h:IK l v V):IK l v V':=by
 obtain⟨a,c,e,d⟩:=h;exact⟨a,c,e,d.le f⟩
theorem cG.openR{U:View}{a:Option Addr}{l:List Bk}(h:cG U a l)(j:l≠[]):∃b f,a=some ⟨b,f,none⟩/\U.range b f (l.flatMap Bk.cs):=by
 obtain⟨b,f,g,_⟩:=h.at_ 0 (l[0]'(by cases l<;>simp_all)) (K8 _);refine⟨b,f,g,cG.flat λi x r=>?_⟩;obtain⟨u,A,d,k⟩:=h.at_ i x r;rw[g]at d;cases d;exact k
theorem GM:∀(l:List Bk) (i:Nat),(l.flatMap Bk.cs).drop (i*5)=(l.drop i).flatMap Bk.cs
 |l,0=>by simp
 | [],i+1=>by simp
 |x::l,i+1=>by
  rw[P9,ai,<-GM l i,show(i+1)*5=x.cs.length+i*5 by simp only[Bk.cs,M9,O8];omega,bN];simp
theorem GL:∀(l:List Bk) (i:Nat),(l.flatMap Bk.cs).take (i*5)=(l.take i).flatMap Bk.cs
 |l,0=>by simp
 | [],i+1=>by simp
 |x::l,i+1=>by
  rw[P9,S9,P9,<-GL l i,show(i+1)*5=x.cs.length+i*5 by simp only[Bk.cs,M9,O8];omega,bP,O2 oW,Z3]
section
variable {P:Program} {n:Nat} {W0:Cx} {s:cA} {U:View} {σ:aH} {ops:Array Oper} {ds:List Nat} {vs:List Sq} {t:DN}
theorem oqK(i : Nat){o : Oper}(E : ops[i]? = some o)(D : o.guard = none)(v : Value)(g : vs[i]? = some (.val v))(ts : List Nat)(d : (Nat -> Value) -> List Value)(f : ∀ u, (ts.map fun t => look (iK ops ds vs u i ++ aV s ds) t) = (d u).map some)
  (h:∀(u:Nat->Value) (V:View),View.le U V->(∀j,cH .any ops i j=true->gE vs j (u j) V)->quiet P (ts.zip (d u)) o=some v):Oq P n W0 U σ ops ds vs s i:=
 Oq.op i E _ g λu V A C=>by
  have F:=h u V A C;refine⟨by unfold dA;rw[D],λa W B r Q K k=>?_⟩;unfold Oper.wp;rw[oY (gJ ts _ B (f u)) F];exact k v W r rfl (Below.refl _ _)
theorem wK{ks : List Nat}{tv : List Sq}{i : Nat}{v : Value}(ts : List Nat)(a : (Nat -> Value) -> List Value)(h : ∀ (u : Nat -> Value) (V : View), View.le U V -> Sh ops ks tv u V i -> quiet P (ts.zip (a u)) (iP ops i) = some v)
  (r:ops[i]? =some (iP ops i):=by rfl) (k:(iP ops i).guard=none:=by rfl) (d:∀u,(ts.map λt=>look (iK ops ds vs u i++aV s ds) t)=(a u).map some:=by intro u;kernel_rfl):Oqw P n W0 U σ ops ds ks tv vs s i (.val v):=
 λA f=>oqK i r k v f ts a d λu V g j=>h u V g (qD A j)
theorem ObC.o(i:Nat)(a:i≠t.j)(d:i≠t.i)(h:∀σ',Oq P n W0 U (σ++σ') ops ds vs s i):ObC P n W0 U σ ops ds vs s t i:=by
 unfold ObC;rw[M5 a,M5 d];exact h
theorem ObC.own(h:Bm P n W0 U σ ops ds vs s t):ObC P n W0 U σ ops ds vs s t t.j:=by
 unfold ObC;rw[N1 rfl];exact h
theorem ObC.take(a:t.i≠t.j)(h:Nb P n W0 U σ ops ds vs s t):ObC P n W0 U σ ops ds vs s t t.i:=by
 unfold ObC;rw[M5 a,N1 rfl];exact h
end
theorem DL{P : Program}(w : World)(tS tR e : TypeId)(E : P.underlying tS = some (.slice e))(size : Nat)(F : ∀ w, (Go.sizeOf e).run P w = .ok size w)
  (a b:Addr) (g J h K:Nat) (f:a.block≠b.block) (L M:TypeId) (G I:Nat)
  (B:w.shape? a.block=some (L,G+1)) (C:w.shape? b.block=some (M,I)) (k:w.frozen? b=false) (r:w.frozen? { block:=b.block,off:=I }=false):
  (Extern.SlicesOverlaps.overlaps #[tS,tS] #[tR] #[.slice (some a) g J,.slice (some b) h K]).run P w=.ok (.bool false) w:=by
 have A:(a.block !=b.block)=true:=by simpa using f
 have d:(a.block==b.block)=false:=by simpa using f
 change Sem.run P (α:=Value) (do
  let some t:=(#[tS,tS]:Array TypeId)[0]? |stuck "slices.overlaps: no parameter types"
  let .slice elem <-underlying t|stuck "slices.overlaps: slice type expected"
  let size <-sizeOf elem
  match(some a:Option Addr),(some b:Option Addr)with
  |some a,some b=>
   if g=0\/h=0\/size=0 then pure (Value.bool false)
   else if a.block !=b.block&&(<-frozen a)&&(<-frozen b)then unsupported .addressObserved
   else do
    if a.block !=b.block then do
     noView a;noView b
     if<-mayBeOne a b then return Value.bool ((<-choose (.extern "sameAddr.stringBytes" 2))==1)
    pure (Value.bool (a.block==b.block&&a.off<b.off+h*size&&b.off<a.off+g*size))
  |_,_=>pure (Value.bool false)) w=_
 by_cases D:g=0\/h=0\/size=0
 ·simp[run_underlying E,F,D]
 ·cases j : w.frozen? a <;> cases u : w.frozen? { block := a.block, off := G + 1 } <;>
   simp[run_underlying E,F,D,A,d,frozen,noView,viewAt,mayBeOne,stringish,shape,Sem.run,B,C,k,r,j,u]
theorem XR{w:World}{a:Addr}{v:Value}(h:w.cell? a=some v):∃t k,w.shape? a.block=some (t,k+1):=by
 unfold World.cell? at h;split at h
 ·next c e g d=>
  split at h
  ·cases h
  ·have f:=(ab.1 h).1;refine⟨e,c.size-1,?_⟩;unfold World.shape?;rw[d];simp only[L0,N3,bB];omega
 ·cases h
theorem Wt(l a:aH)(y:Nat×Obj):((l++a)++[y]).Perm ((l++[y])++a):=by
 rw[M6,M6];exact X6 l Q2
section
variable {P:Program} {n:Nat} {W0:Cx} {Q:XQ} {s:cA} {U:View} {σ:aH} {ops:Array Oper} {l:List Oper} {o:Oper}
theorem Ki(v:Value)(k:known s o=true)(d:∀W:World,Mem W0 U σ W->(execOp (ev s) o).run P W=.ok (.value v) W)(h:fF n o=true)(u:dA ops s o=some true)(r:SXL P n W0 Q ops l (lQ o v s) U σ):SXL P n W0 Q ops (o::l) s U σ:=by
 refine oT h u λa W g f K j=>?_
 unfold Oper.wp;rw[gM g k,d W f];exact j _ _ _ _ _ r (eL g h) f
theorem Ka{fid : FuncId}{h : Func}{tS tR e te : TypeId}{size : Nat}(x y : Operand)(ts : Array TypeId)(ho : o.op = .call { callee := .value (.func fid), args := #[x, y], argTypes := ts })(L : P.funcs[fid]? = some h)(d : (h.name == "runtime.NumGoroutine") = false)
  (J:h.body.isNone=true) (N:Extern.findNext h=none) (K:Extern.find h=some (Extern.SlicesOverlaps.overlaps #[tS,tS] #[tR])) (O:P.underlying tS=some (.slice e)) (Y:(P.info? e).map (·.size)=some size)
  (k g f E r b a F u:Nat) (cs:List Value) (v0:Value) (V:evS s x=some (.slice (some ⟨g,f,none⟩) E r)) (X:evS s y=some (.slice (some ⟨b,a,none⟩) F u)) (D:U ⟨g,f,none⟩=some v0) (M:σ[k]? =some (b,.cells cs.toArray te (0,0)))
  (W:World) (G:Mem W0 U σ W):(execOp (ev s) o).run P W=.ok (.value (.bool false)) W:=by
 obtain⟨I,_,q3⟩:=G.own k b _ M;have A:g≠b:=λe=>by rw[q3 ⟨g,f,none⟩ e]at D;cases D
 obtain⟨tA,Z,B⟩:=XR (G.view _ _ D);have C:W.shape? b=some (te,cs.length):=by unfold World.shape?;rw[I];simp
 have j:∀i,W.frozen? ⟨b,i,none⟩=false:=λi=>by unfold World.frozen?;rw[I];simp
 unfold execOp;simp only[ho,resolve,invoke,Sem.run_bind,Sem.run_pure,Result.andThen_ok,Z2,R2,Z0,eM V,eM X];have:=run_callFunc_extern (P:=P) L d J N K #[.slice (some ⟨g,f,none⟩) E r,.slice (some ⟨b,a,none⟩) F u] W;rw[DL W tS tR e O size (λw=>rT Y w) ⟨g,f,none⟩ ⟨b,a,none⟩ E r F u A tA te Z cs.length B C (j a) (j _)]at this;exact this
theorem Gd(b f r c k z bytes : Nat)(j : List Value)(e t V : TypeId)(u : Value)(kn kq : IntKind)(x y : Operand)(ho : o.op = .call { callee := .builtin .append, args := #[x, y], argTypes := #[t, V] })(hx : evS s x = some (.slice (some ⟨b, f, none⟩) r c))(hy : evS s y = some (.int kq (k : Int)))
  (hr:∀W,Mem W0 U σ W->W.rangeAt b f j) (hl:j.length=r*z) (hk:0<k) (Z:c<r+k) (a1:r+k<=1000000000) (I:(r+k)*bytes<=140737488355328)
  (hu:P.underlying t=some (.slice e)) (M:P.underlying V=some (.int kn)) (d:(P.info? e).map (λi=>(i.size,i.bytes,i.zero))=some (z,bytes,some u)) (O:u.cells.size=z) (N:0<z)
  (Y:fF n o=true) (hw:dA ops s o=some true)
  (h:∀(g A:Nat) (ys:List Value),r+k<=A->A<=maxLen->(j++ys).length=A*z->SXL P n W0 Q ops l (lQ o (.slice (some ⟨g,0,none⟩) (r+k) A) s) U (σ++[(g,.cells (j++ys).toArray e (0,0))])):SXL P n W0 Q ops (o::l) s U σ:=by
 refine oT Y hw λa W G X K hK=>?_
 obtain⟨i,hi,hz,B,D⟩:∃i,P.info? e=some i/\i.zero=some u/\i.size=z/\i.bytes=bytes:=by
  cases hq:P.info? e with
  |none=>rw[hq]at d;cases d
  |some i=>
   rw[hq]at d;simp only[U4,L0,N3]at d;exact⟨i,rfl,d.2.2,d.1,d.2.1⟩
 subst B D;have E:=EU (P:=P) (hr W.drew X.drew) hl r c;have C:=Lib.run_append_grow_zeros (P:=P) W t V o.type e i u kq kn hu M hi hz (some ⟨b,f,none⟩) r c j E k hk N Z oW (by
  have:k*i.bytes<=(r+k)*i.bytes:=Nat.mul_le_mul_right _ oW;omega) (growslice_fits Z I)
 have J:=grownCap_ge W (r+k) c e;have L:=grownCap_le_maxLen W (r+k) c e (by unfold maxLen;omega);unfold Oper.wp execOp;simp only[ho,resolve,invoke,builtin,Sem.run_bind,Sem.run_pure,Result.andThen_ok,Z2,R2,Z0,eH G hx,eH G hy,C];have key:=h W.heap.size (grownCap W (r+k) c e) ((Builtin.zeroCells u.cells k).toList++(Builtin.zeroCells u.cells (grownCap W (r+k) c e-(r+k))).toList) J L (by
  simp only[L4,hl,Builtin.zeroCells,Array.length_toList,Array.size_map,Array.size_range,O];rw[<-W6,<-W6];congr 1;omega)
 have F:=X.drew.alloc (.cells (j++((Builtin.zeroCells u.cells k).toList++(Builtin.zeroCells u.cells (grownCap W (r+k) c e-(r+k))).toList)).toArray e (0,0));refine hK _ _ _ _ _ key (eL G Y) ?_;have e1:(j.toArray++Builtin.zeroCells u.cells k++Builtin.zeroCells u.cells (grownCap W (r+k) c e-(r+k)))=(j++((Builtin.zeroCells u.cells k).toList++(Builtin.zeroCells u.cells (grownCap W (r+k) c e-(r+k))).toList)).toArray:=by
  apply Array.toList_inj.1;simp
 rw[e1];exact F
end
theorem UZ(A B C zs:List Value)(k:Nat)(a:A.length=k)(h:zs.length=B.length):cJ (A++B++C) k zs=A++zs++C:=by
 subst a;unfold cJ;rw[M6 A B C,List.take_left,h,<-L4,<-M6,ad]
theorem UP(A B:List Value)(k:Nat)(a:A.length=k):(A++B).take k=A:=by
 subst a;exact List.take_left
theorem Bq(l:List Value)(k m:Nat)(h:k+m<=l.length):∃A B C,l=A++B++C/\A=l.take k/\B=(l.drop k).take m/\A.length=k/\B.length=m:=by
 refine⟨l.take k,(l.drop k).take m,(l.drop k).drop m,?_,rfl,rfl,by rw[O3];omega,by rw[O3,N8];omega⟩;rw[M6,S8,S8]
theorem Oi{a ys vs last:List Value}{i:Nat}(ho:a.length=i*5)(d:10<=ys.length)(j:vs.length=5)(h:last.length=5):
  (cJ (cJ (a++ys) (0+i*5) vs) (0+(i+1)*5) last).take ((i+2)*5)=a++vs++last:=by
 obtain⟨A,B,C,rfl,_,_,f,g⟩:=Bq ys 5 5 d;rw[show a++(A++B++C)=a++A++(B++C) by simp,UZ a A (B++C) vs _ oW oW,show a++vs++(B++C)=(a++vs)++B++C by simp,
  UZ (a++vs) B C last _ (by rw[L4];omega) oW]
 exact UP _ _ _ (by simp only[L4];omega)
theorem Oj{a junk vs:List Value}{i:Nat}(u:a.length=(i+1)*5)(k:5<=junk.length)(r:vs.length=5):
  (cJ (cJ (a++junk) (0+(i+1)*5) (a.drop (i*5))) (0+i*5) vs).take ((i+2)*5)=a.take (i*5)++vs++a.drop (i*5):=by
 obtain⟨A,B,C,rfl,_,_,g,j⟩:=Bq junk 0 5 oW;have d:A=[]:=O7.1 g;subst d;have h:(a.drop (i*5)).length=5:=by rw[N8];omega
 rw[R0,<-M6,UZ a B C _ _ oW oW];have f:a++a.drop (i*5)++C=a.take (i*5)++a.drop (i*5)++(a.drop (i*5)++C):=by
  rw[S8,M6]
 rw[f,UZ (a.take (i*5)) (a.drop (i*5)) _ vs _ (by rw[O3];omega) oW,<-M6];exact UP _ _ _ (by simp only[L4,O3,h];omega)
theorem JZ{W:World}{b i:Nat}{f junk:List Value}{t:TypeId}(g:W.heap[b]? =some (.cells (f++junk).toArray t (0,0))):W.rangeAt b (0+i*5) (f.drop (i*5)):=by
 intro j v a;rw[cell_of_row _ _ _ _ _ _ g,O0];rw[Z4]at a;have d:=(L8.1 a).1;simp only[X7];rw[Q1 d];exact a
theorem ZM{W:World}{b i:Nat}{f junk:List Value}{t:TypeId}(g:W.heap[b]? =some (.cells (f++junk).toArray t (0,0))):W.rangeAt b 0 (f.take (i*5)):=by
 intro j v a;rw[cell_of_row _ _ _ _ _ _ g,O0];rw[X4]at a;split at a
 ·have d:=(L8.1 a).1;simp only[X7];rw[Q1 d];exact a
 ·cases a
theorem PM{W0:Cx}{U:View}{h:aH}{W:World}(b c i F E J:Nat)(d junk vs:List Value)(f:Mem W0 U ([(b,.cells (d++junk).toArray 58 (0,0))]++h) W)(X:(Rw.row b c junk).ok 5 (i+1) d)(hi:i<=1000000)(h1:∀u∈d,u.oneCell'=true)(hv:U.range F E vs)(k:vs.length=5)(G:∀u∈vs,u.oneCell'=true):
    CP 180 #[.slice (some ⟨b,0,none⟩) (i+1) c,.int .i64 (i:Int),.slice (some ⟨F,E,none⟩) 1 J] W (gX W0 U h λv V σ'=>σ'=[]/\∃b' L,v=.slice (some ⟨b',0,none⟩) (i+2) L/\V.range b' 0 (d.take (i*5)++vs++d.drop (i*5))):=by
 obtain⟨hx,b0,b1,O⟩:=X;have N:((i:Int)==((i+1:Nat):Int))=false:=M2.2 oW;have b2:(d++junk).length=d.length+junk.length:=L4;have g:(d.take (i*5)).length=i*5:=by rw[O3];omega
 have r:(d.drop (i*5)).length=1*5:=by rw[N8];omega
 have Z:U ⟨F,E,none⟩=some (vs[0]'oW):=hv 0 _ (K8 _);have B:IntKind.i64.wrap (((i+1:Nat):Int)+1)=((i+2:Nat):Int):=by rw[IntWalk.i64_in _ oW];omega
 have a1:IntKind.i64.wrap (((i+2:Nat):Int)-(i:Int))=2:=by rw[IntWalk.i64_in _ oW];omega
 have C:IntKind.i64.wrap ((i:Int)+1)=((i+1:Nat):Int):=by rw[IntWalk.i64_in _ oW];omega
 have a8:c<=9223372036854775807:=by unfold maxLen at O;omega
 refine fB 95 Tryz.func180 f ?_;refine zQ 1 (zn (zQ 2 (cB (.slice (some ⟨b,(0+i*5),none⟩) (i+1-i) (c-i)) (iL 27 58 (.tmp 10) (some (.tmp 11)) none none rfl b 0 (i+1) c i (i+1) c 5 (i+1-i) (c-i) (0+i*5) kR eR eR eR (by decide) oW oW oW oW oW (by first|rfl|(split<;>omega)) Tryz.underlying27 kR) ?_)));refine zn (zQ 3 (zn (zs (zQ 2 (zn (cU (zk (zQ 3 (zn (zs (zQ 3 (zn (dY ((i:Int)==((i+1:Nat):Int)) N ?_)))))))))))));refine zk (zs (zQ 3 (dZ 28 (I6 (IntKind.i64.wrap (((i+1:Nat):Int)+1))) (L6 (i+2)) (M0 (Value.int .i64) B) ?_)));refine zq 3 (zn (aZ (((i+2:Nat):Int)>(c:Int)) (λh0 M=>?_) (λh0 M=>?_)))
 ·refine zQ 2 (cB (Sl b 0 i c) (iL 27 58 (.tmp 32) none (some (.tmp 33)) none rfl b 0 (i+1) c 0 i c 5 i c 0 kR eR eR eR (by decide) oW oW oW oW oW (by first|rfl|(split<;>omega)) Tryz.underlying27 kR) ?_);refine zq 3 (dZ 37 (I6 (IntKind.i64.wrap (((i+1:Nat):Int)+1))) (L6 (i+2)) (M0 (Value.int .i64) B) ?_);refine zq 2 (dZ 39 (I6 (IntKind.i64.wrap (((i+2:Nat):Int)-(i:Int)))) (I6 2) (M0 (Value.int .i64) a1) ?_);refine Gd b 0 i c 2 5 48 (d.take (i*5)) 58 27 3 (.agg #[(I6 0),(I6 0),(U6 0),(I6 0),(St [])]) .i64 .i64 (.tmp 34) (.tmp 39) rfl kR kR (λW f=>ZM (f.own 0 b _ rfl).1) g oW oW oW oW Tryz.underlying27 Tryz.underlying3 kR rfl (by decide) kR kR (λj a D a6 a7 I=>?_);rw[L4,g]at I;refine LG (Wt [(b,(.cells (d++junk).toArray 58 (0,0)))] h _) ?_;refine zq 1 (zn (zQ 2 (cB (.slice (some ⟨j,(0+i*5),none⟩) (i+2-i) (a-i)) (iL 27 58 (.tmp 41) (some (.tmp 42)) none none rfl j 0 (i+2) a i (i+2) a 5 (i+2-i) (a-i) (0+i*5) kR eR eR eR (by decide) oW oW oW oW oW (by first|rfl|(split<;>omega)) Tryz.underlying27 kR) ?_)));refine zq 1 ?_;refine Rf 1 j (0+i*5) (i+2-i) (a-i) F E 1 J 1 5 ((d.take (i*5))++D) vs 58 27 27 58 (.tmp 43) (.tmp 44) rfl kR kR kR (by show min _ _=_;omega) (λW f=>View.range_of hv f.view) (by rw[k]) G (by rw[L4,g];omega) Tryz.underlying27 kR kR kR ?_;refine zn (zs ?_);refine gI 2 [0,0,0,1,1,0,0,1] [] [.val (L6 (i+1)),.val (.slice (some ⟨j,(0+(i+1)*5),none⟩) (i+2-(i+1)) (a-(i+1))),.val (.slice (some ⟨b,(0+i*5),none⟩) (i+1-i) (c-i))] ⟨?_,?_,?_,trivial⟩ ?_
  ·exact vE (I6 (IntKind.i64.wrap ((i:Int)+1))) (M0 (Value.int .i64) C)
  ·exact vR (iL 27 58 (.tmp 46) (some (.tmp 49)) none none rfl j 0 (i+2) a (i+1) (i+2) a 5 (i+2-(i+1)) (a-(i+1)) (0+(i+1)*5) kR eR eR eR (by decide) oW oW oW oW oW (by first|rfl|(split<;>omega)) Tryz.underlying27 kR)
  ·exact vR (iL 27 58 (.tmp 51) (some (.tmp 52)) none none rfl b 0 (i+1) c i (i+1) c 5 (i+1-i) (c-i) (0+i*5) kR eR eR eR (by decide) oW oW oW oW oW (by first|rfl|(split<;>omega)) Tryz.underlying27 kR)
  refine Rf 1 j (0+(i+1)*5) (i+2-(i+1)) (a-(i+1)) b (0+i*5) (i+1-i) (c-i) 1 5 (cJ ((d.take (i*5))++D) (0+i*5) vs) (d.drop (i*5)) 58 27 27 58 (.tmp 50) (.tmp 53) rfl kR kR kR (by show min _ _=_;omega) (λW f=>JZ (f.own 0 b _ rfl).1) r (λu Y=>h1 u (af Y)) (by rw[Rb (by rw[L4,g];omega),L4,g];omega) Tryz.underlying27 kR kR kR ?_;refine zn (zQ 2 (zn (aA (aO [6] [(Sl j 0 (i+2) a)] (λK f=>?_)))));have A:Mem W0 U ((j,(.cells (cJ (cJ ((d.take (i*5))++D) (0+i*5) vs) (0+(i+1)*5) (d.drop (i*5))).toArray 58 (0,0)))::h) K:=f.sub (bU _ _);obtain⟨V,q1,q2,q3⟩:=A.freezeHead;refine⟨_,V,[],rfl,q1,q3,rfl,_,_,rfl,?_⟩;have:V.range j (0+0) (d.take (i*5)++vs++d.drop (i*5)):=View.sub q2 0 ((i+2)*5) (by rw[W5];exact Oi g oW k r);exact this
 ·refine zk (zQ 4 (dZ 59 (I6 (IntKind.i64.wrap (((i+1:Nat):Int)+1))) (L6 (i+2)) (M0 (Value.int .i64) B) ?_));refine cB (Sl b 0 (i+2) c) (iL 27 58 (.tmp 56) none (some (.tmp 59)) none rfl b 0 (i+1) c 0 (i+2) c 5 (i+2) c 0 kR eR eR eR (by decide) oW oW oW oW oW (by first|rfl|(split<;>omega)) Tryz.underlying27 kR) ?_;refine zq 1 (zn (zs (zQ 5 (dZ 65 (I6 (IntKind.i64.wrap ((i:Int)+1))) (L6 (i+1)) (M0 (Value.int .i64) C) ?_))));refine cB (.slice (some ⟨b,(0+(i+1)*5),none⟩) (i+2-(i+1)) (c-(i+1))) (iL 27 58 (.tmp 62) (some (.tmp 65)) none none rfl b 0 (i+2) c (i+1) (i+2) c 5 (i+2-(i+1)) (c-(i+1)) (0+(i+1)*5) kR eR eR eR (by decide) oW oW oW oW oW (by first|rfl|(split<;>omega)) Tryz.underlying27 kR) ?_;refine Ki qF kR (Ka (fid:=221) (tS:=27) (tR:=4) (te:=58) (size:=5) (.tmp 61) (.tmp 66) _ rfl Tryz.func221 kR kR kR kR Tryz.underlying27 kR 0 F E 1 J b (0+(i+1)*5) (i+2-(i+1)) (c-(i+1)) (d++junk) _ kR kR Z kR) kR kR ?_;refine zq 1 (zn (dM (zs ?_)));refine gI 2 [0,0,0,1,1,0,0,1] [] [.val (L6 (i+1)),.val (.slice (some ⟨b,(0+(i+1)*5),none⟩) (i+2-(i+1)) (c-(i+1))),.val (.slice (some ⟨b,(0+i*5),none⟩) (i+2-i) (c-i))] ⟨?_,?_,?_,trivial⟩ ?_
  ·exact vE (I6 (IntKind.i64.wrap ((i:Int)+1))) (M0 (Value.int .i64) C)
  ·exact vR (iL 27 58 (.tmp 69) (some (.tmp 72)) none none rfl b 0 (i+2) c (i+1) (i+2) c 5 (i+2-(i+1)) (c-(i+1)) (0+(i+1)*5) kR eR eR eR (by decide) oW oW oW oW oW (by first|rfl|(split<;>omega)) Tryz.underlying27 kR)
  ·exact vR (iL 27 58 (.tmp 74) (some (.tmp 75)) none none rfl b 0 (i+2) c i (i+2) c 5 (i+2-i) (c-i) (0+i*5) kR eR eR eR (by decide) oW oW oW oW oW (by first|rfl|(split<;>omega)) Tryz.underlying27 kR)
  refine Rf 0 b (0+(i+1)*5) (i+2-(i+1)) (c-(i+1)) b (0+i*5) (i+2-i) (c-i) 1 5 (d++junk) (d.drop (i*5)) 58 27 27 58 (.tmp 73) (.tmp 76) rfl kR kR kR (by show min _ _=_;omega) (λW f=>JZ (f.own 0 b _ rfl).1) r (λu Y=>h1 u (af Y)) oW Tryz.underlying27 kR kR kR ?_;refine zn (zQ 2 (cB (.slice (some ⟨b,(0+i*5),none⟩) (i+2-i) (c-i)) (iL 27 58 (.tmp 78) (some (.tmp 79)) none none rfl b 0 (i+2) c i (i+2) c 5 (i+2-i) (c-i) (0+i*5) kR eR eR eR (by decide) oW oW oW oW oW (by first|rfl|(split<;>omega)) Tryz.underlying27 kR) ?_));refine zq 1 ?_;refine Rf 0 b (0+i*5) (i+2-i) (c-i) F E 1 J 1 5 (cJ (d++junk) (0+(i+1)*5) (d.drop (i*5))) vs 58 27 27 58 (.tmp 80) (.tmp 81) rfl kR kR kR (by show min _ _=_;omega) (λW f=>View.range_of hv f.view) (by rw[k]) G (by rw[Rb oW];omega) Tryz.underlying27 kR kR kR ?_;refine zn (zQ 2 (zn (aA (aO [6] [(Sl b 0 (i+2) c)] (λK f=>?_)))));have A:Mem W0 U ((b,(.cells (cJ (cJ (d++junk) (0+(i+1)*5) (d.drop (i*5))) (0+i*5) vs).toArray 58 (0,0)))::h) K:=f;obtain⟨V,q1,q2,q3⟩:=A.freezeHead;refine⟨_,V,[],rfl,q1,q3,rfl,_,_,rfl,?_⟩;have:V.range b (0+0) (d.take (i*5)++vs++d.drop (i*5)):=View.sub q2 0 ((i+2)*5) (by rw[W5];exact Oj hx oW k);exact this
def Pr.zero:Pr:=⟨0,0,⟨0,[],0,0⟩,⟨0,[],0,0⟩,⟨0,[],0,0⟩,0,0,0,0,0⟩
def rR(p:Pr)(l:List Bk)(z:Int)(v:Value)(V:View):Prop:=∃a c,v=.tuple #[bnV p a l.length c,.int .i64 z]/\cG V a l
def NL(p:Pr)(l:List Bk)(v:Value)(V:View):Prop:=∃a c,v=bnV p a l.length c/\cG V a l
theorem NL.mono{p:Pr}{l:List Bk}{v:Value}{V V':View}(f:View.le V V')(h:NL p l v V):NL p l v V':=by
 obtain⟨a,c,e,d⟩:=h;exact⟨a,c,e,d.le f⟩
theorem rR.mono{p:Pr}{l:List Bk}{z:Int}{v:Value}{V V':View}(f:View.le V V')(h:rR p l z v V):rR p l z v V':=by
 obtain⟨a,c,e,d⟩:=h;exact⟨a,c,e,d.le f⟩
theorem UD(p:Pr)(l d:List Bk)(a f:Option Addr)(c g:Nat)(w:World){U:View}(A:See U w)(C:p.ok)(B:cG U f d)(h:aK p d=0):CP 179 #[bnV p a l.length c,.slice f d.length g] w (Ret (.tuple #[bnV p f d.length g,.int .i64 0]) w):=by
 have u:(aK p d !=0)=false:=by simp[h]
 refine dC 16 Tryz.func179 A ?_;refine zs (zr (aW (λj=>(aW (λr=>(zq 1 (zn (zQ 2 (aX 0 j (zn (zs (zB [1] [(j,20)] (cY 22 #[(bnV p f d.length g)] (I6 (aK p d)) (λW k=>mU p d _ _ W k.view C B) ?_)))))))))))));refine zq 1 (zn (zQ 2 (zn (dY ((aK p d) !=0) u ?_))));refine zk (zB [1] [(j,20)] (aX 1 r (zq 1 (zn (aA (dW [2,0] [(r,20)] [(bnV p f d.length g),(I6 0)] (λD k=>?_)))))));exact⟨rfl,k.below⟩
theorem UE(p:Pr)(l d:List Bk)(a f:Option Addr)(c r:Nat)(w:World){U:View}(u:See U w)(B:p.ok)(A:cG U f d)(h:(aK p d !=0)=true):CP 179 #[bnV p a l.length c,.slice f d.length r] w (Ret (.tuple #[bnV Pr.zero none 0 0,.int .i64 (aK p d)]) w):=by
 refine dC 16 Tryz.func179 u ?_;refine zs (zr (aW (λj=>(aW (λk=>(zq 1 (zn (zQ 2 (aX 0 j (zn (zs (zB [1] [(j,20)] (cY 22 #[(bnV p f d.length r)] (I6 (aK p d)) (λW g=>mU p d _ _ W g.view B A) ?_)))))))))))));refine zq 1 (zn (zQ 2 (zn (jG ((aK p d) !=0) h ?_))));refine zQ 2 (aX 1 k (zq 1 (zn (aA (dW [2,0] [(k,20)] [(.agg Z20.toArray),(I6 (aK p d))] (λC g=>?_))))));exact⟨rfl,g.below⟩
def gD(p:Pr)(l:List Bk):Pr:=if aK p l !=0 then Pr.zero else p
def sT(p:Pr)(l:List Bk):List Bk:=if aK p l !=0 then[]else l
theorem cG.nil{U:View}:cG U none []:=⟨λi x a=>by simp at a,λx a=>by simp at a,by unfold R47;simp⟩
theorem QJ(p:Pr)(l d:List Bk)(a f:Option Addr)(c g:Nat)(w:World){U:View}(j:See U w)(u:p.ok)(k:cG U f d):CP 179 #[bnV p a l.length c,.slice f d.length g] w (fV w U (rR (gD p d) (sT p d) (aK p d))):=by
 unfold gD sT;cases h:aK p d !=0 with
 |true=>exact Calls.retN j (UE p l d a f c g w j u k h) ⟨none,0,rfl,cG.nil⟩
 |false=>
  have r:aK p d=0:=by simpa using h
  rw[r];exact Calls.retN j (UD p l d a f c g w j u k r) ⟨f,g,rfl,k⟩
def TG(l:List Bk):Nat->Nat->Nat
 |0,n=>n
 |f+1,n=>if jC l (n:Int)<0 then n else TG l f (n+1)
def pF(l:List Bk):Nat:=TG l l.length 2
def CK(l:List Bk)(n:Nat):List Bk:=l.filter λx=>decide ((n:Int)<=x.n)
theorem Nc{l:List Bk}{n:Nat}:(CK l (n+1)).length<=(CK l n).length:=by
 unfold CK
 induction l with
 |nil=>exact O9 _
 |cons x l ih=>
  rw[U0,U0];by_cases a:((n+1:Nat):Int)<=x.n
  ·rw[N1 (by simpa using a),N1 (by simp;omega)];simp only[M9];omega
  ·rw[M5 (by simpa using a)];split
   ·simp only[M9];omega
   ·exact ih
theorem XA{l:List Bk}{n:Nat}(h:∃x∈l,x.n=(n:Int)):(CK l (n+1)).length<(CK l n).length:=by
 induction l with
 |nil=>obtain⟨x,a,_⟩:=h;simp at a
 |cons y l ih=>
  obtain⟨x,a,j⟩:=h;have d:=Nc (l:=l) (n:=n);unfold CK at ih d ⊢;rw[U0,U0];by_cases f:((n+1:Nat):Int)<=y.n
  ·rw[N1 (by simpa using f),N1 (by simp;omega)];rcases O6.1 a with rfl|a
   ·omega
   ·have:=ih ⟨x,a,j⟩;simp only[M9];omega
  ·rw[M5 (by simpa using f)];by_cases g:(n:Int)<=y.n
   ·rw[N1 (by simpa using g)];simp only[M9];omega
   ·rw[M5 (by simpa using g)];rcases O6.1 a with rfl|a
    ·omega
    ·exact ih ⟨x,a,j⟩
theorem WC{l:List Bk}{num:Int}(h:¬jC l num<0):∃x∈l,x.n=num:=by
 rcases mR num 0 l with⟨f,_⟩|⟨j,x,_,a,d,_⟩
 ·unfold jC at h;omega
 ·exact⟨x,K9 a,d⟩
theorem Oc{l:List Bk}{x f:Nat}(h:2<=x)(j:x-2+(CK l x).length<=l.length)(a:TG l f x=pF l)(k:(CK l x).length<=f)(d:¬jC l (x:Int)<0):
  2<=x+1/\x+1-2+(CK l (x+1)).length<=l.length/\∃f,TG l f (x+1)=pF l/\(CK l (x+1)).length<=f:=by
 have g:=XA (WC d);cases f with
 |zero=>omega
 |succ f=>
  rw[TG,M5 d]at a;exact⟨by omega,by omega,f,a,by omega⟩
theorem QH(p:Pr)(l:List Bk)(a:Option Addr)(c:Nat)(w:World){U:View}(D:See U w)(B:cG U a l):CP 130 #[bnV p a l.length c] w (Ret (.int .i64 ((pF l:Nat):Int)) w):=by
 have d:=B.len;unfold R47 at d;refine dC 11 Tryz.func130 D ?_;refine zs (zr (aW (λh=>(zq 1 (zn (zQ 1 (zn (zs (aB (eF (α:=Nat) (λx=>[1,2,3].zip [(Pt h 0),(I6 0),(L6 x)]) (λx=>U) (λx=>[(bK h (dO p a l.length c) 29)]) (λx=>2<=x/\x-2+(CK l x).length<=l.length/\∃f,TG l f x=pF l/\(CK l x).length<=f) (λx=>(CK l x).length) 2 ?_ ?_))))))))))
 ·exact⟨O9 _,by simp only[U9,O0];exact au _ _,l.length,rfl,au _ _⟩
 intro x E;obtain⟨r,u,f,g,A⟩:=E;refine zs (zB [1,0] [(h,20)] (cY 53 #[(bnV p a l.length c),(L6 x)] (I6 (jC l (x:Int))) (λW k=>Tj p l _ _ (x:Int) W k.view B) ?_));refine zq 1 (zn (aZ ((jC l (x:Int))≥0) (λC j=>?_) (λC j=>?_)))
 ·refine zk (aB (zr (zq 2 (dH 9 ((x:Int)+1) (zq 1 (zn ?_))))));refine nx (x+1) ?_ ?_
  ·exact Oc r u g A oW
  ·exact XA (WC oW)
 ·refine aI (zQ 2 (zn (aA (aO [2] [(L6 x)] (λF k=>?_)))));refine⟨?_,k.below⟩;show Ending.returned (Value.int .i64 (x:Int))=_;rw[<-g];cases f with
  |zero=>rfl
  |succ f=>rw[TG,N1 oW]
theorem QF{V:View}{b c n:Nat}{l:List Bk}{v:Value}(g:V.range b 0 (l.flatMap Bk.cs))(h:v=.slice (some ⟨b,0,none⟩) n c)(f:n=l.length)(d:∀x∈l,x.ok)(a:l.length<=R47):IK l v V:=by
 subst f;exact⟨_,c,h,cG.of g d a⟩
def jL(l:List Bk)(x:Bk):List Bk:=l.take (l.length-1)++[x]++l.drop (l.length-1)
theorem Px{l:List Bk}{x:Bk}(h:l≠[]):(jL l x).length=l.length-1+2:=by
 have:=aj.2 h;unfold jL;simp only[L4,O3,N8,M9,O8];omega
theorem Oa(l:List Bk)(x:Bk):(l.flatMap Bk.cs).take ((l.length-1)*5)++x.cs++(l.flatMap Bk.cs).drop ((l.length-1)*5)=(jL l x).flatMap Bk.cs:=by
 unfold jL;rw[GL,GM,Q4,Q4];simp
theorem Ec(x:Bk):∀u∈x.cs,u.oneCell'=true:=by
 intro u a;unfold Bk.cs at a;simp only[O6,Q8,U2]at a;rcases a with rfl|rfl|rfl|rfl|rfl<;>rfl
theorem Ie(p:Pr)(l:List Bk)(a:Option Addr)(c:Nat)(x:Bk)(w:World){U:View}(hU:See U w)(hp:p.ok)(hl:cG U a l)(G:l≠[])(b7:l.length<=1000000)(hx:x.ok):
    CP 134 #[bnV p a l.length c,x.V] w (fV w U (rR (gD p (jL l x)) (sT p (jL l x)) (aK p (jL l x)))):=by
 have b3:=hl.len;have b4:=aj.2 G;obtain⟨b,f,rfl,hr⟩:=hl.openR G;have Z:((l.length:Int)==0)=false:=M2.2 oW;have X:∀y∈jL l x,y.ok:=λy A=>by
  unfold jL at A;rcases S3.1 A with A|A
  ·rcases S3.1 A with A|A
   ·exact hl.ok y (az A)
   ·obtain rfl:=R7.1 A;exact hx
  ·exact hl.ok y (af A)
 have a7:=Px (x:=x) G;have N:l.length-1+1=l.length:=by omega
 refine dC 25 Tryz.func134 hU ?_;refine zs (zr (aW (λJ=>(aW (λb1=>(aW (λb2=>(zq 1 (zn (zB [0,1,0,0] [(J,1)] (zn (zs (zQ 2 (zn (dY ((l.length:Int)==0) Z ?_)))))))))))))));refine zk (zs ?_);refine Yd 12 2 0 [13,14,15,16,17,18,19,20,21,22,23,24] [.val (bnV p (some ⟨b,f,none⟩) l.length c),.val (Pt J 19),.val (Sl b f l.length c),.mem (λ_ _=>True),.val (L6 l.length),.val (L6 (l.length-1)),.val (x.V),.mem (λv V=>∃g,v=(Sl g 0 1 1)/\V.range g 0 x.cs),.mem (IK (jL l x)),.mem (rR (gD p (jL l x)) (sT p (jL l x)) (aK p (jL l x))),.mem (NL (gD p (jL l x)) (sT p (jL l x))),.val (I6 (aK p (jL l x)))] ⟨3,8,λv d=>∃b c j,v=.slice (some ⟨b,0,none⟩) l.length c/\d=[(b,.cells (l.flatMap Bk.cs++j).toArray 58 (0,0))]/\(Rw.row b c j).ok 5 l.length (l.flatMap Bk.cs)⟩ kR rfl rfl kR kR kR kR kR kR (by simp only[O4];refine⟨?_,?_,?_,?_,?_,?_,?_,?_,?_,?_,?_,?_,λ_ h=>by cases h⟩<;>first|trivial|(intro v V V2 B L;(first|trivial|exact IK.mono B L|exact rR.mono B L|exact NL.mono B L|(obtain⟨g,e,L⟩:=L;exact⟨g,e,View.range_le B L⟩)))) kR ⟨(show(3:Nat)<12 by decide),(show(8:Nat)<12 by decide),(show(3:Nat)≠8 by decide)⟩ rfl ⟨?_,?_,?_,?_,?_,?_,?_,?_,?_,?_,?_,?_,trivial⟩ [4,5,23,24] (λu=>[(Pt b2 0),(I6 0),u 10,(I6 (aK p (jL l x)))]) kF ?_
 ·exact ObC.o 0 (show(0:Nat)≠3 by decide) (show(0:Nat)≠8 by decide) (λd=>oqL 0 0 J 20 (dO p (some ⟨b,f,none⟩) l.length c) 29 rfl (bnV p (some ⟨b,f,none⟩) l.length c) rfl kR kF kF)
 ·exact ObC.o 1 (show(1:Nat)≠3 by decide) (show(1:Nat)≠8 by decide) (λd=>oqQ 1 rfl (Pt J 19) (Pt J 19) rfl rfl kF kF)
 ·exact ObC.o 2 (show(2:Nat)≠3 by decide) (show(2:Nat)≠8 by decide) (λd=>oqL 2 0 J 1 (dO p (some ⟨b,f,none⟩) l.length c) 29 rfl (Sl b f l.length c) rfl kR kF kF)
 ·refine ObC.own ⟨_,56,[15],(λu=>[(Sl b f l.length c)]),rfl,rfl,kF,λu V M k=>?_⟩;refine⟨#[(Sl b f l.length c)],by kernel_rfl,λW K=>?_⟩;exact(tI K.view b f l.length c _ (View.range_le M hr) (rP l) (tK l) oW oW).mono λe W' h=>h.own K
 ·exact ObC.o 4 (show(4:Nat)≠3 by decide) (show(4:Nat)≠8 by decide) (λd=>oqQ 4 rfl (L6 l.length) (L6 l.length) rfl rfl kF kF)
 ·exact ObC.o 5 (show(5:Nat)≠3 by decide) (show(5:Nat)≠8 by decide) (λd=>oqQ 5 rfl (I6 (IntKind.i64.wrap ((l.length:Int)-1))) (L6 (l.length-1)) (M0 (Value.int .i64) (by rw[IntWalk.i64_in _ oW];omega)) rfl kF kF)
 ·exact ObC.o 6 (show(6:Nat)≠3 by decide) (show(6:Nat)≠8 by decide) (λd=>oqL 6 1 b1 5 x.cs 58 rfl (x.V) rfl kR kF kF)
 ·refine ObC.o 7 (show(7:Nat)≠3 by decide) (show(7:Nat)≠8 by decide) (λd=>oqN 7 rfl rfl (λv V=>∃g,v=(Sl g 0 1 1)/\V.range g 0 x.cs) rfl [19] (λu=>[(x.V)]) kF (λu V M k=>?_));refine⟨x.cs,58,λr=>(Sl r 0 1 1),?_,λg V' b6 hR=>?_⟩
  ·kernel_rfl
  exact⟨g,rfl,hR⟩
 ·refine ObC.take (show(8:Nat)≠3 by decide) ⟨_,180,IK (jL l x),[16,18,20],(λu=>[u 3,(L6 (l.length-1)),u 7]),rfl,rfl,rfl,by kernel_rfl,kF,λu V d M k hO=>?_⟩;obtain⟨bO,cO,jO,qO,rfl,a1⟩:=(show(λv d=>∃b c j,v=.slice (some ⟨b,0,none⟩) l.length c/\d=[(b,.cells (l.flatMap Bk.cs++j).toArray 58 (0,0))]/\(Rw.row b c j).ok 5 l.length (l.flatMap Bk.cs)) (u 3) d from hO);have e7:(λv V=>∃g,v=(Sl g 0 1 1)/\V.range g 0 x.cs) (u 7) V:=k 7 kR (show(7:Nat)≠3 by decide);obtain⟨g7,q7,t7⟩:=e7;refine⟨#[u 3,(L6 (l.length-1)),u 7],by kernel_rfl,λW K=>?_⟩;rw[qO,q7];exact by
   have key:=PM bO cO (l.length-1) g7 0 1 _ jO x.cs K (by rw[N];exact a1) oW (tK l) t7 rfl (Ec x);rw[N]at key;exact key.mono λe W' h=>h.mono λv V' b8 ⟨h1,b',b5,h2,h3⟩=>⟨h1,QF (by rw[Oa]at h3;exact h3) h2 (by rw[a7]) X (by unfold R47;omega)⟩
 ·refine ObC.o 9 (show(9:Nat)≠3 by decide) (show(9:Nat)≠8 by decide) (λd=>oqM 9 179 rfl rfl (rR (gD p (jL l x)) (sT p (jL l x)) (aK p (jL l x))) rfl [13,21] (λu=>[(bnV p (some ⟨b,f,none⟩) l.length c),u 8]) kF (λu V M k=>?_));have e8:(IK (jL l x)) (u 8) V:=k 8 kR;obtain⟨a8,c8,q8,hb8⟩:=e8;refine⟨#[(bnV p (some ⟨b,f,none⟩) l.length c),u 8],by kernel_rfl,λW hW=>?_⟩;rw[q8];exact QJ p l (jL l x) _ _ _ _ W hW hp hb8
 ·refine ObC.o 10 (show(10:Nat)≠3 by decide) (show(10:Nat)≠8 by decide) (λd=>oqP 10 rfl rfl (NL (gD p (jL l x)) (sT p (jL l x))) rfl [22] (λu=>[u 9]) kF (λu V M k=>?_));have e9:(rR (gD p (jL l x)) (sT p (jL l x)) (aK p (jL l x))) (u 9) V:=k 9 kR;obtain⟨a9,c9,q9,O⟩:=e9;rw[q9];exact⟨(bnV (gD p (jL l x)) a9 (sT p (jL l x)).length c9),by kernel_rfl,⟨_,_,rfl,O⟩⟩
 ·refine ObC.o 11 (show(11:Nat)≠3 by decide) (show(11:Nat)≠8 by decide) (λd=>oqK 11 rfl rfl (I6 (aK p (jL l x))) rfl [22] (λu=>[u 9]) kF (λu V M k=>?_));have e9:(rR (gD p (jL l x)) (sT p (jL l x)) (aK p (jL l x))) (u 9) V:=k 9 kR;obtain⟨a9,c9,q9,O⟩:=e9;rw[q9];show _=_;kernel_rfl
 intro u3 V3 a6 Y;have F:(NL (gD p (jL l x)) (sT p (jL l x))) (u3 10) V3:=Y 10 (by decide);obtain⟨D,E,I,C⟩:=F;rw[I];refine aX 2 b2 (zq 1 (zn (aA (dW [3,0] [(b2,20)] [(.agg #[(N6 (gD p (jL l x)).f),(I6 (gD p (jL l x)).c),(I6 (gD p (jL l x)).dst.s),(St (gD p (jL l x)).dst.l),(N6 (gD p (jL l x)).dst.n),(N6 (gD p (jL l x)).dst.v),(I6 (gD p (jL l x)).src.s),(St (gD p (jL l x)).src.l),(N6 (gD p (jL l x)).src.n),(N6 (gD p (jL l x)).src.v),(I6 (gD p (jL l x)).rpt.s),(St (gD p (jL l x)).rpt.l),(N6 (gD p (jL l x)).rpt.n),(N6 (gD p (jL l x)).rpt.v),(N6 (gD p (jL l x)).time),(N6 (gD p (jL l x)).seq),(N6 (gD p (jL l x)).life),(N6 (gD p (jL l x)).off),(N6 (gD p (jL l x)).tot),(.slice D (sT p (jL l x)).length E)]),(I6 (aK p (jL l x)))] (λW' K=>?_)))));exact aJ K a6 ⟨_,_,rfl,C⟩
structure Rd where
 b:List UInt8
 at_:Nat
 bad:Int
 e:Int
 frm:Nat
def Rd.cs(r:Rd):List Value:=[.string (B r.b),.int .i64 (r.at_:Int),.int .i64 r.bad,.int .i64 r.e,.int .i64 (r.frm:Int)]
def Rd.O(r:Rd):Obj:=.cells r.cs.toArray 296 (0,0)
def Rd.new(b:List UInt8):Rd:=⟨b,0,-1,0,0⟩
theorem FJ{σ:aH}(a d:aH)(x:Nat×Obj)(e:σ=a++x::d):σ.Perm ([x]++(a++d)):=by
 subst e;exact List.perm_middle
theorem Qk{W0:Cx}{U V:View}{σ σ' a:aH}{Φ:Value->View->aH->Prop}{v:Value}{W':World}(f:Mem W0 V σ W')(d:(σ'++a).Sublist σ)(g:View.le U V)(h:Φ v V σ'):gX W0 U a Φ (.returned v) W':=⟨v,V,σ',rfl,g,f.sub d,h⟩
def Bn(rd:Rd)(v:Value)(σ:aH):Prop:=∃r,v=.pointer (some ⟨r,0,none⟩)/\σ=[(r,rd.O)]
theorem MA(l:List UInt8){W0:Cx}{U:View}{a:aH}{W:World}(d:Mem W0 U ([]++a) W):CP 231 #[.string (B l)] W (gX W0 U a λv V σ'=>Bn (Rd.new l) v σ'):=by
 refine fB 6 Tryz.func231 d ?_;refine zQ 1 (zn (zQ 2 (dB 0 (λf=>?_))));refine zq 1 (zn (aA (aO [2] [(Pt f 0)] (λg d=>?_))));exact eV (σ':=[(bK f [(St l),(I6 0),(I6 (-1)),(I6 0),(I6 0)] 296)]) d (View.le_refl _) ⟨_,rfl,rfl⟩
def Rd.fail(r:Rd)(e:Int):Rd:=if r.e==0 then⟨r.b,r.frm,(r.frm:Int),e,r.frm⟩else r
theorem jI(a:Rd)(e:Int)(r:Nat){W0:Cx}{U:View}{d:aH}{W:World}(f:Mem W0 U ([(r,a.O)]++d) W):CP 235 #[.pointer (some ⟨r,0,none⟩),.int .i64 e] W (gX W0 U d λv V σ'=>v=dD []/\σ'=[(r,(a.fail e).O)]):=by
 let j:=(bK r [(St a.b),(I6 (a.at_:Int)),(I6 a.bad),(I6 a.e),(I6 (a.frm:Int))] 296);have h:Mem W0 U ([j]++d) W:=f.eqv kR;refine fB 27 Tryz.func235 h ?_;refine zB [0,0,0,1,0] [(r,1)] (zn (gK (a.e==0) (λg=>?_) (λg=>?_)))
 ·refine zB [0,0,0,0,1,0,0] [(r,1)] (aX 0 r (zn (zr (cF [0,0,0,0,0,1,0,0,0] [(r,1)] (aX 0 r (zq 2 (aX 0 r (zn ?_))))))));refine tW [] [] rfl trivial (λk f=>?_);exact eV (σ':=[(bK r [(St a.b),(I6 (a.frm:Int)),(I6 (a.frm:Int)),(I6 e),(I6 (a.frm:Int))] 296)]) f (View.le_refl _) ⟨rfl,by simp only[Rd.fail,g,if_true,N9,if_false];rfl⟩
 ·refine zk ?_;refine tW [] [] rfl trivial (λk f=>?_);exact eV (σ':=[j]) f (View.le_refl _) ⟨rfl,by simp only[Rd.fail,g,if_true,N9,if_false];rfl⟩
theorem Bi(l:List UInt8):(B l).size=l.length:=by simp[B,ByteArray.size]
section
variable {P:Program} {s:cA} {o:Oper}
theorem iY(t : TypeId)(x : Operand)(f g : Option Operand)(ho : o.op = .slice t x f g none)(l : List UInt8)(a b : Nat)(r : List UInt8)(G : evS s x = some (.string (B l)))
  (d:IG s f 0 a) (h:IG s g l.length b) (u:a<=b) (A:b<=l.length) (D:(l.drop a).take (b-a)=r) (C:P.underlying t=some .string) (W:World):(execOp (ev s) o).run P W=.ok (.value (.string (B r))) W:=by
 have k:∀(v y:Nat) (c:BoundsCode),v<=y->(Instr.sliceBound (.int .i64 (v:Int)) y c).run P W=.ok v W:=λv y c J=>by
  simp[Instr.sliceBound,asIntOf,Result.andThen];intro I;omega
 have E:(Instr.sliceBounds false (B l).size (B l).size (f.map (ev s)) (g.map (ev s)) none).run P W=.ok (a,b,l.length) W:=by
  unfold IG at d h;rw[Bi];cases g with
  |none=>
   simp only at h;subst h;cases f with
   |some lo'=>simp[Instr.sliceBounds,eM d,k _ _ _ u,Result.andThen]
   |none=>simp only at d;subst d;simp[Instr.sliceBounds,Result.andThen]
  |some F=>
   cases f with
   |some lo'=>simp[Instr.sliceBounds,eM d,eM h,k _ _ _ u,k _ _ _ A,Result.andThen]
   |none=>simp only at d;subst d;simp[Instr.sliceBounds,eM h,k _ _ _ A,Result.andThen]
 have key:(Instr.slice t (.string (B l)) (f.map (ev s)) (g.map (ev s)) none).run P W=.ok (.string (B r)) W:=by
  simp only[Instr.slice,Sem.run_bind,run_underlying C,Result.andThen_ok,E,Sem.run_pure,Option.isSome_none,N9,if_false,Sm,D]
 have j:(Instr.sliceAt t (.string (B l)) (f.map (ev s)) (g.map (ev s)) none).run P W=.ok (.string (B r)) W:=by
  simp only[Instr.sliceAt,Sem.run_bind,run_underlying C,Result.andThen_ok,key]
 unfold execOp;simp only[ho,eM G,Sem.run_bind,Option.map_none,j,Result.andThen_ok,Sem.run_pure]
theorem sQ(t:TypeId)(x d:Operand)(ho:o.op=.index t x d)(l:List UInt8)(i:Nat)(k:IntKind)(c:UInt8)(j:evS s x=some (.string (B l)))(g:evS s d=some (.int k (i:Int)))(f:l[i]? =some c)(h:P.underlying t=some .string)(W:World):
  (execOp (ev s) o).run P W=.ok (.value (.int .u8 (c.toNat:Int))) W:=by
 obtain⟨a,rfl⟩:=L8.1 f;unfold execOp;simp[ho,eM j,eM g,Instr.index,Instr.indexAt,run_underlying h,asIntOf,Result.andThen,Bi,a]
 first|rfl|(simp[B];rfl)
end
theorem Au:∀c:Fin 256,IntKind.i64.wrap (jE .u8 (c.val:Int) 31)=((c.val%32:Nat):Int):=by decide +kernel
theorem Cr:∀c:Fin 256,IntKind.i64.wrap ((c.val:Int).fdiv (2^5))=((c.val/32:Nat):Int):=by decide +kernel
theorem Oz(c:UInt8):IntKind.i64.wrap (jE .u8 (c.toNat:Int) 31)=((c.toNat%32:Nat):Int):=Au ⟨c.toNat,c.toNat_lt⟩
theorem Vc(c:UInt8):IntKind.i64.wrap ((c.toNat:Int).fdiv (2^5))=((c.toNat/32:Nat):Int):=Cr ⟨c.toNat,c.toNat_lt⟩
section
variable {P:Program} {n:Nat} {W0:Cx} {s:cA} {U:View} {σ0:aH}
structure Ak (W0 : Cx) (U : View) (own σ : aH) (vs : List Sq) (m i : Nat) (Ψ : Value -> View -> aH -> Prop) (L : Nat -> Bool) (u : Nat -> Value) (w : World) (V : View) (σ' : aH) : Prop where
 le:View.le U V
 mem:Mem W0 V (σ++σ') w
 at_:∀j,j<m->L j=true->pQ vs j (u j) V
 own:L i=false->σ'=own
 non:L i=true->Ψ (u i) V σ'
end
theorem Mem.freezeRw{W0:Cx}{U:View}{W:World}{r:Rw}{f:List Value}{z m:Nat}{σ1:aH}{e:TypeId}(u:Mem W0 U (σ1++r.B e f) W)(d:r.ok z m f):∃a c V,View.le U V/\BH V a f/\r.V m=.slice a m c/\Mem W0 V σ1 W:=by
 obtain⟨j,k⟩:=Mb u;obtain⟨a,c,h⟩:=Rw.form d;refine⟨a,c,U.or (r.W f),View.le_or _ _,⟨λg=>?_⟩,h,j⟩;cases r with
 |nil=>exact absurd d.2 g
 |row b cap junk=>
  simp only[Rw.V,Value.slice.injEq,bB]at h;exact⟨b,h.1.symm,k b cap junk rfl⟩
section
variable {P:Program} {n:Nat} {W0:Cx} {s:cA} {U:View} {σ0:aH}
structure NQ (P : Program) (n : Nat) (W0 : Cx) (U : View) (own σ : aH) (ops : Array Oper) (ds : List Nat) (vs : List Sq) (s : cA) (i : Nat) (Ψ : Value -> View -> aH -> Prop) : Prop where
 go:∃(o:Oper),ops[i]? =some o/\o.guard=none/\
  ∀(u:Nat->Value) (V:View),View.le U V->(∀j,cH .any ops i j=true->gE vs j (u j) V)->∀(a:Act) (W:World),pR n (iK ops ds vs u i++aV s ds) a->Mem W0 V (own++σ) W->∀(Q:Exit->Act->World->Prop) (K:Act->World->Prop),
   (∀v W' V' σ2,View.le V V'->Mem W0 V' (σ2++σ) W'->Ψ v V' σ2->K (a.put o.dst v) W')->o.wp P a W K Q
def ObN(P:Program)(n:Nat)(W0:Cx)(U:View)(own σ:aH)(ops:Array Oper)(ds:List Nat)(vs:List Sq)(s:cA)(i:Nat)(Ψ:Value->View->aH->Prop)(k:Nat):Prop:=
 if k=i then NQ P n W0 U own σ ops ds vs s i Ψ else∀σ',Oq P n W0 U (σ++σ') ops ds vs s k
theorem ObN.o{own σ:aH}{ops:Array Oper}{ds:List Nat}{vs:List Sq}{i:Nat}{Ψ:Value->View->aH->Prop}(k:Nat)(a:k≠i)(h:∀σ',Oq P n W0 U (σ++σ') ops ds vs s k):ObN P n W0 U own σ ops ds vs s i Ψ k:=by
 unfold ObN;rw[M5 a];exact h
theorem ObN.make{own σ:aH}{ops:Array Oper}{ds:List Nat}{vs:List Sq}{i:Nat}{Ψ:Value->View->aH->Prop}(h:NQ P n W0 U own σ ops ds vs s i Ψ):ObN P n W0 U own σ ops ds vs s i Ψ i:=by
 unfold ObN;rw[N1 rfl];exact h
def KY(vf:Nat->Value)(x:Obj)(v:Value)(_:View)(σ':aH):Prop:=∃b,v=vf b/\σ'=[(b,x)]
theorem Yf{id : Nat}{l : List Oper}{Q : XQ}(m f r : Nat)(ds : List Nat)(vs : List Sq)(i : Nat)(own σ : aH)(Ψ : Value -> View -> aH -> Prop)(c6 : σ0.Perm (own ++ σ))(hm : P.follows .mixedOrders = true)(a8 : l.length = m + f)(a1 : ds.length = m)
  (b4:pI l.toArray ds=true) (a7:nodupB ds=true) (b8:(ds.all λd=>Nat.blt d n)=true) (O:fQ .any l.toArray m=true) (X:lP .any l.toArray m r=true) (C:jV l.toArray m f=true) (E:∀q∈vs,mY q)
  (b7:i<m) (Φi:Value->View->Prop) (c0:vs[i]? =some (.mem Φi)) (c2:∀v V σ',Ψ v V σ'->Φi v V) (c4:∀v V V' σ',View.le V V'->Ψ v V σ'->Ψ v V' σ')
  (c7:Go.Proofs.YtkoamlfiijcecaaGreatDoor.Steps (ObN P n W0 U own σ l.toArray ds vs s i Ψ) 0 m)
  (h:∀(u:Nat->Value) (V:View) (σ':aH),View.le U V->(∀j,j<m->gE vs j (u j) V)->Ψ (u i) V σ'->SXL P n W0 Q l.toArray (l.drop m) (IF u 0 ds vs++aV s ds) V (σ'++σ)):SXC P n W0 Q (.region id l.toArray true) s U σ0:=by
 refine⟨λa W Y hM=>?_⟩;have hn:=jW a7;have Z:∀d∈ds,d<n:=λd Z=>by have:=M7.1 b8 d Z;simpa[Z5]using this
 have b3:Mem W0 U (σ++own) W:=hM.perm (c6.trans Q2);refine lS m f r ds (λL u w=>∃V σ',Ak W0 U own σ vs m i Ψ L u w V σ') hm (by simpa using a8) a1 b4 a7 O X ?_ ?_ ?_
 ·intro u;exact⟨U,own,⟨View.le_refl _,b3.drew,λj _ g=>by simp at g,λ_=>rfl,λg=>by simp at g⟩⟩
 ·rintro k e1 L u w ⟨V,σ',I⟩ b1 A c9 K hK;have F:=c7.get k (M8 _) oW;unfold ObN at F;split at F
  ·next D=>
   subst D;have b0:σ'=own:=I.own b1;subst b0;obtain⟨o,ho,b5,b6⟩:=F.go;have hr:=iM (a0:=a) (u:=u) (V:=V) (vs:=vs) (ops:=l.toArray) k Y hn Z λj g=>.inl (I.at_ j (A j g).2 (A j g).1)
   unfold wpOp;simp only[ho,Region.wanted,b5,if_true];left;refine b6 u V I.le (λj g=>(I.at_ j (A j g).2 (A j g).1).phi) _ w hr (I.mem.perm Q2) _ _ λv w' V' c8 G N M=>?_
   have:=hK v w' ⟨V',c8,⟨View.le_trans I.le G,N.perm Q2,λj g B=>?_,λJ=>?_,λ_=>?_⟩⟩
   ·rw[ho]at this;exact this
   ·by_cases e:j=k
    ·subst e;rw[N1 rfl];unfold pQ;rw[c0];exact c2 _ _ _ M
    ·rw[M5 e]at B ⊢;exact(I.at_ j g B).le E G
   ·rw[N1 rfl]at J;cases J
   ·rw[N1 rfl];exact M
  ·next D=>
   have b2:Mem W0 U (σ++σ') w:=I.mem.weak I.le;refine((F σ').go a (up n W0 Q) Y hn Z E).step u w b2 (λj g=>(I.at_ j (A j g).2 (A j g).1).isQ I.mem I.le) K λv w' N hE hv=>?_
   obtain⟨V',h1,h2,h3⟩:=hv.at N;obtain⟨q1,q2,q3⟩:=Mem.join (I.mem.call hE) h2;refine hK v w' ⟨V.or V',σ',⟨View.le_trans I.le q2,q1,λj g B=>?_,λJ=>?_,λJ=>?_⟩⟩
   ·by_cases e:j=k
    ·subst e;rw[N1 rfl];exact h3.le E q3
    ·rw[M5 e]at B ⊢;exact(I.at_ j g B).le E q2
   ·rw[M5 (λe=>D e.symm)]at J;exact I.own J
   ·rw[M5 (λe=>D e.symm)]at J ⊢;exact c4 _ _ _ _ q2 (I.non J)
 ·rintro L u W' ⟨V,σ',I⟩ B;refine iC f m _ W' (by simpa using a8.symm) C ?_;have hg:=λt=>gB ds 0 u a t hn (by rw[Y.size];exact Z)
  have b9:∀j,j<m->gE vs j (u j) V:=λj g=>(I.at_ j g (B j g)).phi
  refine(h u V σ' I.le b9 (I.non (B i b7))).go _ W' ⟨by rw[(hg 0).2.2.1,Y.size],by rw[(hg 0).2.2.2,Y.defers],λx v G=>?_⟩ (I.mem.perm Q2);rcases eW _ _ _ _ G with G|⟨_,G⟩
  ·have a6:=iT _ _ _ G;obtain⟨j,q,hd2,c1,hq⟩:=lY u 0 _ _ _ _ a6;have e0:j<ds.length:=(L8.1 hd2).1;rw[(hg x).1 j hd2,O0];cases q with
   |val w=>
    simp only at hq;have:=I.at_ j oW (B j oW);unfold pQ at this;rw[c1]at this;simp only at this;rw[this,hq]
   |mem Φ=>simp only[O0]at hq;rw[hq]
  ·obtain⟨h1,h2⟩:=fH _ _ _ _ G;rw[(hg x).2.1 h1];exact Y.slots x v h2
section
variable {own σ:aH} {Ψ:Value->View->aH->Prop}
theorem Yb{X : Nat}{l : List Oper}{Q : XQ}(r i : Nat)(ks : List Nat)(T : List (Nat × Nat))(tv : List Sq)(own σ : aH)(Ψ : Value -> View -> aH -> Prop)(I : σ0.Perm (own ++ σ)){Φi : Value -> View -> Prop}(f : tlk ks tv i = some (.mem Φi))(F : ∀ v V σ', Ψ v V σ' -> Φi v V)(G : ∀ v V V' σ', View.le V V' -> Ψ v V σ' -> Ψ v V' σ')(D : ∀ q ∈ tv, mY q)
  (K:obT (λk t=>(∀j t,tlk ks tv j=some t->(dvQ P l σ ks tv s)[j]? =some t)->(dvQ P l σ ks tv s)[k]? =some t->ObN P n W0 U own σ l.toArray (dsO l ks.length) (dvQ P l σ ks tv s) s i Ψ k) 0 ks tv)
  (h:∀(u:Nat->Value) (V:View) (σ':aH),View.le U V->(∀{t:Sq} (j:Nat),tlk ks tv j=some t->Mw t (u j) V)->Ψ (u i) V σ'->SXL P n W0 Q l.toArray (l.drop ks.length) (IF u 0 (dsO l ks.length) (dvQ P l σ ks tv s)++aV s (dsO l ks.length)) V (σ'++σ))
  (B:DqT P l σ ks T tv s:=by intro u;kernel_rfl) (d:Nat.ble (dvQ P l σ ks tv s).length ks.length=true:=by kernel_rfl) (C:Hs P n l ks.length r=true:=by kernel_rfl):SXC P n W0 Q (.region X l.toArray true) s U σ0:=by
 unfold Hs at C;simp only[L5]at C;obtain⟨⟨⟨⟨⟨⟨⟨Y,J⟩,Z⟩,k4⟩,k5⟩,A⟩,k7⟩,k8⟩:=C;have J:=U1 J;have E:=Lr B A;have a:=(HX f).1;refine Yf ks.length (l.length-ks.length) r (dsO l ks.length) (dvQ P l σ ks tv s) i own σ Ψ I Y oW (TO J) Z k4 k5 A k7 k8 (Uj B A (U1 d) D) (L8.1 a).1 Φi (E i _ f) F G (WN B A (λj g h=>ObN.o j (λe=>g (e▸a)) λσ'=>h (σ++σ') λk x L=>by rw[Q1 (L8.1 L).1];exact L) ?_) λu V σ' M N O=>h u V σ' M (λ{t} j g=>NH (E j t g) (N j ((L8.1 (HX g).1).1))) O
 exact sB (λj t ho=>ho E) _ _ _ K
variable {ops:Array Oper} {ds ks:List Nat} {tv vs:List Sq} {i:Nat} {Φi:Value->View->Prop}
theorem nO{k:Nat}{t:Sq}(h:∀σ',Oqw P n W0 U (σ++σ') ops ds ks tv vs s k t)(a:k≠i:=by decide):(∀j t,tlk ks tv j=some t->vs[j]? =some t)->vs[k]? =some t->ObN P n W0 U own σ ops ds vs s i Ψ k:=
 λd f=>ObN.o k a λσ'=>h σ' d f
theorem nC(f : FuncId)(d : (Nat -> Value) -> Array Value)(h : ∀ (u : Nat -> Value) (V : View), View.le U V -> Sh ops ks tv u V i -> ∀ W, Mem W0 V (own ++ σ) W -> Calls P f (d u) W (gX W0 V σ Ψ))(L : ops[i]? = some (iP ops i) := by rfl)(J : (iP ops i).guard = none := by rfl)
  (I:∀u,enters P (iK ops ds vs u i++aV s ds) (iP ops i)=some (f,d u):=by intro u;kernel_rfl):(∀j t,tlk ks tv j=some t->vs[j]? =some t)->vs[i]? =some (.mem Φi)->ObN P n W0 U own σ ops ds vs s i Ψ i:=
 λr _=>ObN.make ⟨_,L,J,λu V E G a W F D Q K C=>by
  unfold Oper.wp;rw[eU F (I u)];refine(h u V E (qD r G) W D).mono ?_;rintro _ M ⟨v,B,A,rfl,r,k,g⟩;exact C v M B A r k g⟩
theorem nA{x:Obj}{f:Nat->Value}(B:ops[i]? =some (iP ops i):=by rfl)(A:(iP ops i).guard=none:=by rfl)(hm:∀u,makes P (iK ops ds vs u i++aV s ds) (iP ops i)=some (x,λr=>some (f r)):=by intro u;kernel_rfl):(∀j t,tlk ks tv j=some t->vs[j]? =some t)->vs[i]? =some (.mem Φi)->ObN P n W0 U [] σ ops ds vs s i (KY f x) i:=
 λ_ _=>ObN.make ⟨_,B,A,λu V C D a W k h Q K g=>by
  unfold Oper.wp;rw[mN k (hm u)];have d:Mem W0 V σ W:=h;exact g _ _ V [(W.heap.size,x)] (View.le_refl _) ((d.alloc x).perm Q2) ⟨W.heap.size,rfl,rfl⟩⟩
def Lj(e:TypeId)(z m:Nat)(xs:List Value)(N:List Value->View->Prop)(v:Value)(V:View)(σ':aH):Prop:=∃(r:Rw) (news:List Value),N news V/\v=r.V m/\r.ok z m (xs++news)/\σ'=r.B e (xs++news)
theorem nP(O : (Nat -> Value) -> Value)(e t : TypeId)(z bytes k m : Nat){r : Rw}{A : List Value}{N : List Value -> View -> Prop}{x y : Operand}(F : r.ok z m A)(B : m + k <= maxLen)(D : (m + k) * bytes <= 140737488355328)
  (h:∀(u:Nat->Value) (V:View),View.le U V->Sh ops ks tv u V i->∃b f c d,O u=.slice (some ⟨b,f,none⟩) k c/\V.range b f d/\d.length=k*z/\(d.all λu=>u.oneCell')=true/\N d V) (hi:ops[i]? =some (iP ops i):=by rfl) (hg:(iP ops i).guard=none:=by rfl) (ho:(iP ops i).op=.call { callee:=.builtin .append,args:=#[x,y],argTypes:=#[t,t] }:=by rfl)
  (hx:∀u,evS (iK ops ds vs u i++aV s ds) x=some (r.V m):=by intro u;kernel_rfl) (hy:∀u,evS (iK ops ds vs u i++aV s ds) y=some (O u):=by intro u;kernel_rfl) (hk:0<k:=by decide)
  (g:(P.info? e).map (λi=>(i.size,i.bytes,i.zero.map (·.cells.size)))=some (z,bytes,some z):=by kernel_rfl) (ht:P.underlying t=some (.slice e):=by kernel_rfl) (J:Nat.blt 0 z=true:=by kernel_rfl):(∀j t,tlk ks tv j=some t->vs[j]? =some t)->vs[i]? =some (.mem Φi)->ObN P n W0 U (r.B e A) σ ops ds vs s i (Lj e z (m+k) A N) i:=
 λE _=>ObN.make ⟨_,hi,hg,λu V hV hd a W ha C Q K hK=>by
  obtain⟨b,f,c,d,I,hr,hl,X,hN⟩:=h u V hV (qD E hd);cases G:P.info? e with
  |none=>rw[G]at g;cases g
  |some inf=>
   rw[G]at g;simp only[U4,L0,N3]at g;obtain⟨Y,Z,h4⟩:=g;obtain⟨zv,L,M⟩:=U5.1 h4;exact Ll ha C r A m [] σ e t z bytes k rfl F x y ho (hx u) b f c d (by rw[hy u,I]) (λW C=>View.range_of hr C.view) hl X hk B D inf zv ht G L Y Z M (by simpa[Z5]using J) λr' W' q1 q2=>hK _ _ V _ (View.le_refl _) q2 ⟨r',d,hN,rfl,q1,rfl⟩⟩
end
theorem VM{σ:aH}(A B F:aH)(h:σ=(A++B)++F):σ.Perm (B++(A++F)):=h▸((Q2 (l₁:=A) (l₂:=B)).append_right F).trans (by rw[M6])
theorem Wu{σ:aH}(A B:aH)(h:σ=A++B):σ.Perm (B++A):=h▸Q2
theorem AL(A F X:aH):((A++F)++X).Perm ((A++X)++F):=by
 rw[M6,M6];exact X6 A Q2
end
class RecOk {α : Type} (R : View -> α -> List Value -> Prop) (z : outParam Nat) : Prop where
 le:∀{U V:View} {x:α} {cs:List Value},View.le U V->R U x cs->R V x cs
 len:∀{U:View} {x:α} {cs:List Value},R U x cs->cs.length=z
 one:∀{U:View} {x:α} {cs:List Value},R U x cs->∀u∈cs,u.oneCell'=true
theorem View.range1{U:View}{b f i:Nat}{v:Value}(h:U.range b (f+i*1) [v]):U ⟨b,f+i,none⟩=some v:=by
 have:=h 0 v rfl;rwa[Nat.mul_one,U8]at this
structure fJ {α : Type} (R : View -> α -> List Value -> Prop) (z : Nat) (U : View) (a : Option Addr) (l : List α) : Prop where
 at_:∀i x,l[i]? =some x->∃b f cs,a=some ⟨b,f,none⟩/\U.range b (f+i*z) cs/\R U x cs
 len:l.length<=R47
def sM{α:Type}(R:View->α->List Value->Prop)(V:View):List (α×List Value)->Prop
 | []=>True
 |p::r=>R V p.1 p.2/\sM R V r
section
variable {α:Type} {R:View->α->List Value->Prop} {z:Nat}
theorem fJ.nil{U:View}{a:Option Addr}:fJ R z U a []:=⟨λi x d=>by simp at d,by unfold R47;simp⟩
theorem sM.app{V:View}:∀{L M:List (α×List Value)},sM R V L->sM R V M->sM R V (L++M)
 | [],_,_,h=>h
 |_::_,_,⟨a,d⟩,h=>⟨a,sM.app d h⟩
theorem sM.snoc{V:View}{L:List (α×List Value)}{x:α}{cs:List Value}(h:sM R V L)(a:R V x cs):sM R V (L++[(x,cs)]):=h.app ⟨a,trivial⟩
end
section
variable {α:Type} {R:View->α->List Value->Prop} {z:Nat} [hR:RecOk R z]
include hR
theorem fJ.le{U V:View}(h:View.le U V){a:Option Addr}{l:List α}(d:fJ R z U a l):fJ R z V a l:=
 ⟨λi x k=>by obtain⟨b,f,cs,e,g,j⟩:=d.at_ i x k;exact⟨b,f,cs,e,View.range_le h g,hR.le h j⟩,d.len⟩
theorem sM.le{U V:View}(h:View.le U V):∀{L:List (α×List Value)},sM R U L->sM R V L
 | [],_=>trivial
 |_::_,⟨a,d⟩=>⟨hR.le h a,sM.le h d⟩
theorem sM.flat_len{V:View}:∀{L:List (α×List Value)},sM R V L->(L.flatMap Prod.snd).length=L.length*z
 | [],_=>by simp
 |p::r,⟨a,d⟩=>by rw[P9,L4,sM.flat_len d,hR.len a,M9,W6];omega
theorem sM.one{V:View}:∀{L:List (α×List Value)},sM R V L->∀u∈L.flatMap Prod.snd,u.oneCell'=true
 | [],_,u,hu=>by simp at hu
 |p::r,⟨a,d⟩,u,hu=>by
  rw[P9,S3]at hu;rcases hu with hu|hu
  ·exact hR.one a u hu
  ·exact sM.one d u hu
theorem sM.get{V:View}:∀{L:List (α×List Value)},sM R V L->∀{b f:Nat},V.range b f (L.flatMap Prod.snd)->∀i x,(L.map Prod.fst)[i]? =some x->∃cs,V.range b (f+i*z) cs/\R V x cs
 | [],_,b,f,_,i,x,h=>by simp at h
 |p::r,⟨d,k⟩,b,f,g,i,x,h=>by
  rw[P9]at g;obtain⟨u,A⟩:=gF g;cases i with
  |zero=>
   simp only[R2,P5,L0]at h;subst h;exact⟨p.2,by simpa using u,d⟩
  |succ i=>
   simp only[R2,Q7]at h;obtain⟨cs,a,j⟩:=sM.get k A i x h;refine⟨cs,?_,j⟩;rw[hR.len d]at a;rw[show f+(i+1)*z=f+z+i*z by rw[W6];omega];exact a
theorem fJ.lit{V:View}{b f:Nat}(L:List (α×List Value))(h:V.range b f (L.flatMap Prod.snd))(j:sM R V L)(g:(L.map Prod.fst).length<=R47):fJ R z V (some ⟨b,f,none⟩) (L.map Prod.fst):=
 ⟨λi x k=>by obtain⟨cs,a,d⟩:=j.get h i x k;exact⟨b,f,cs,rfl,a,d⟩,g⟩
theorem fJ.ofRow(F:0<z){V:View}{a:Option Addr}{k:List Value}(L:List (α×List Value))(E:BH V a k)(g:k=L.flatMap Prod.snd)(h:sM R V L)(l:List α)(D:L.map Prod.fst=l)(d:l.length<=R47):fJ R z V a l:=by
 subst g D;refine⟨λi x j=>?_,d⟩;have f:L.flatMap Prod.snd≠[]:=by
  intro C;have:=h.flat_len;rw[C]at this;cases L with
  |nil=>simp at j
  |cons p r=>
   rw[M9,W6,O8]at this;omega
 obtain⟨b,rfl,B⟩:=E.at_ f;obtain⟨cs,u,A⟩:=h.get B i x j;exact⟨b,0,cs,rfl,u,A⟩
theorem fJ.open{U:View}{a:Option Addr}{l:List α}(h:fJ R z U a l)(M:l≠[]):∃(b f:Nat) (L:List (α×List Value)),a=some ⟨b,f,none⟩/\L.map Prod.fst=l/\sM R U L/\U.range b f (L.flatMap Prod.snd):=by
 obtain⟨b,f,J,K,_,_⟩:=h.at_ 0 (l[0]'(by cases l<;>simp_all)) (K8 _);refine⟨b,f,?_⟩;subst K;have key:∀(l:List α) (d:Nat),(∀i x,l[i]? =some x->∃cs,U.range b (d+i*z) cs/\R U x cs)->∃L:List (α×List Value),L.map Prod.fst=l/\sM R U L/\U.range b d (L.flatMap Prod.snd):=by
  intro l
  induction l with
  |nil=>intro d _;exact⟨[],rfl,trivial,λj v g=>by simp at g⟩
  |cons t l ih=>
   intro d I;obtain⟨cs,E,F⟩:=I 0 t rfl;rw[bF,U8]at E;obtain⟨L,u,A,B⟩:=ih (d+z) λi x r=>by
    obtain⟨cs,C,D⟩:=I (i+1) x (by simpa using r);exact⟨cs,by rw[show d+z+i*z=d+(i+1)*z by rw[W6];omega];exact C,D⟩
   refine⟨(t,cs)::L,by simp[u],⟨F,A⟩,λj v g=>?_⟩;change (cs++L.flatMap Prod.snd)[j]? =some v at g;by_cases k:j<cs.length
   ·rw[Q1 k]at g;exact E j v g
   ·rw[P8 oW]at g;have:=B (j-cs.length) v g;have O:=hR.len F;rw[show d+j=d+z+(j-cs.length) by omega];exact this
 obtain⟨L,u,A,B⟩:=key l f λi x r=>by
  obtain⟨N,d,cs,G,C,D⟩:=h.at_ i x r;simp only[L0,Addr.mk.injEq,bA]at G;obtain⟨rfl,rfl⟩:=G;exact⟨cs,C,D⟩
 exact⟨L,rfl,u,A,B⟩
structure RwR (R : View -> α -> List Value -> Prop) (z : Nat) (V : View) (r : Rw) (xs : List Value) (m : Nat) (L : List (α × List Value)) : Prop where
 ok:r.ok z m xs
 xs:xs=L.flatMap Prod.snd
 m:m=L.length
 all:sM R V L
theorem RwR.le{U V:View}(h:View.le U V){r:Rw}{d:List Value}{m:Nat}{L:List (α×List Value)}(a:RwR R z U r d m L):RwR R z V r d m L:=⟨a.ok,a.xs,a.m,a.all.le h⟩
theorem RwR.done(k:0<z){V V':View}{r:Rw}{g:List Value}{m:Nat}{L:List (α×List Value)}(f:RwR R z V r g m L){a:Option Addr}(h:BH V' a g)(j:View.le V V')(d:m<=R47):fJ R z V' a (L.map Prod.fst):=
 fJ.ofRow k L h f.xs (f.all.le j) _ rfl (by rw[O1,<-f.m];exact d)
end
theorem RwR.snoc{α:Type}{R:View->α->List Value->Prop}{z:Nat}{V:View}{r g:Rw}{f cs:List Value}{m:Nat}{L:List (α×List Value)}{x:α}(d:RwR R z V r f m L)(h:R V x cs)(a:g.ok z (m+1) (f++cs)):RwR R z V g (f++cs) (m+1) (L++[(x,cs)]):=
 ⟨a,by rw[d.xs,Q4];simp,by rw[d.m];simp,d.all.snoc h⟩
theorem RwR.nil{α:Type}{R:View->α->List Value->Prop}{z:Nat}{V:View}:RwR R z V Rw.nil [] 0 []:=⟨Rw.ok_nil z,rfl,rfl,trivial⟩
instance tvR:RecOk TV 5:=⟨λh ht=>ht.le h,λh=>h.len5,λh=>h.one⟩
theorem fJ.ts{U:View}{a:Option Addr}{l:List Itm.Tr}(h:fJ TV 5 U a l):fR U a l:=⟨h.at_,h.len⟩
section
variable {P:Program} {n:Nat} {W0:Cx} {Q:XQ} {s:cA} {U:View} {σ:aH} {ops:Array Oper} {l:List Oper} {o:Oper}
theorem jN(r : Rw)(j : List Value)(z m : Nat)(σ1 : aH)(e : TypeId)(g : σ = σ1 ++ r.B e j)(f : r.ok z m j)
  (h:∀a c V,View.le U V->BH V a j->r.V m=.slice a m c->SXL P n W0 Q ops l s V σ1):SXL P n W0 Q ops l s U σ:=by
 subst g;refine⟨λA W B u=>?_⟩;obtain⟨a,c,V,C,k,D,d⟩:=u.freezeRw f;exact(h a c V C k D).go A W B d
end
section
variable {P:Program} {n:Nat} {W0:Cx} {Q:XQ} {s:cA} {U:View} {σ:aH} {ops:Array Oper} {l:List Oper} {o:Oper}
theorem Aa(k b d m z : Nat)(r : Rw)(F : List Value)(f : r.ok z m F)(cs : List Value)(t g : TypeId)(x y : Operand)(ho : o.op = .store g x y)(E : evS s x = some (.pointer (some ⟨b, d, none⟩)))(u : evS s y = some (r.V m))
  (A:σ[k]? =some (b,.cells cs.toArray t (0,0))) (hs:∀a c,qW P g (.slice a m c) 1=true) (B:Nat.ble (d+1) cs.length=true) (j:o.dst=none) (D:dA ops s o=some true)
  (h:SXL P n W0 Q ops l s U (σ.set k (b,.cells (cJ cs d [r.V m]).toArray t (0,0)))):SXL P n W0 Q ops (o::l) s U σ:=by
 obtain⟨a,c,C⟩:=Rw.form f;rw[C]at u h;refine Kk k b d 1 cs t g _ x y ho E u A (hs a c) B (by unfold fF;rw[j]) D ?_;unfold lQ;rw[j];exact h
end
theorem RwR.arr{V V':View}{r:Rw}{f:List Value}{m:Nat}{L:List (Itm.Tr×List Value)}{a:Option Addr}(c:Nat)(d:RwR TV 5 V r f m L)(g:BH V' a f)(j:View.le V V')(hm:m<=R47)(o:Bool):TV V' (.mk 4 0 [] (L.map Prod.fst) o) [.int .i64 4,.int .u64 0,.string (B []),.slice a m c,.bool o]:=by
 have h:=(d.done (by decide) g j hm).ts;rw[show m=(L.map Prod.fst).length by rw[O1];exact d.m];exact TV.of (t:=.mk 4 0 [] (L.map Prod.fst) o) h (show(0:Nat)<_ by decide) (show(0:Nat)<=_ by decide)
theorem Dr{W0:Cx}{U V:View}{σ a:aH}{Φ:Value->View->aH->Prop}{v:Value}{W':World}(f d:aH)(x:Nat×Obj)(j:Mem W0 V σ W')(e:σ=(f++x::d)++a)(k:View.le U V)(h:Φ v V [x]):gX W0 U a Φ (.returned v) W':=by
 subst e;refine⟨v,V,[x],rfl,k,j.sub (N4 ?_ (N7 a)),h⟩;have g:[x].Sublist (x::d):=List.Sublist.cons_cons x (List.nil_sublist d);exact g.trans (S2 f (x::d))
end Go.Proofs.YtkoamlfiijcecaaGreatDoor.Sx
namespace Go.Proofs.YtkoamlfiijcecaaGreatDoor
open Go.ChangeShapes Go.WideShapes Go.ChangeAt Go.RowKit Go.Deep
section
variable {P:Program} {ops:Array Oper} {Q:Exit->Act->World->Prop} {md:Region.Mode}
theorem sN{G : Nat}(m fuel r : Nat)(ds : List Tmp)(Inv : (Nat -> Bool) -> (Nat -> Value) -> World -> Prop){a0 : Act}{w : World}
  (hm:P.follows .mixedOrders=true) (D:ops.size=m+fuel)
  (g:ds.length=m) (B:CA ops ds=true) (C:nodupB ds=true) (a:fQ .any ops m=true) (d:lP .any ops m r=true)
  (F:∀u,Inv (λ_=>false) u w.drew)
  (f:∀i,i<m->∀(L:Nat->Bool) (u:Nat->Value) (w:World),Inv L u w->L i=false->(∀j,cH .any ops i j=true->L j=true/\j<m)->(∀k j,L k=true->cH .any ops k j=true->L j=true)->
   ∀K:Act->World->Prop,(∀v E,Inv (λj=>if j=i then true else L j) (λj=>if j=i then(if((ops[i]?).bind (·.dst)).isSome then v else u i)else u j) E->K ((fA ds 0 u a0).put ((ops[i]?).bind (·.dst)) v) E)->wpOp P ops Q i K (fA ds 0 u a0) w)
  (A:∀L u w,Inv L u w->(∀i,i<m->L i=true)->wpAny P .any ops Q fuel (firstM m ops.size) (fA ds 0 u a0) w):(Code.region G ops true).wp P Q a0 w:=by
 refine wp_region_any hm ?_;have h:=IL (md:=.any) m ds Inv (w0:=w.drew) g B C (R4 oW) a d F f A;rw[<-D]at h;exact h
end
end Go.Proofs.YtkoamlfiijcecaaGreatDoor
