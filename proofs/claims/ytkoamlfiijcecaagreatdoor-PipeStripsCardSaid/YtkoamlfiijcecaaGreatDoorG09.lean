/-
  Several texts in one: Ps3 Ps4 Ps5 Ps6 Asb9 Mix1 Mix2 Mxr Mix3 Sx23 Mix4 Sx22.
  Conditions: named at each.
-/
import Derived.Test.YtkoamlfiijcecaaGreatDoorG08
set_option maxHeartbeats 16000000
set_option linter.unusedSimpArgs false
set_option linter.unusedVariables false
set_option linter.unusedSectionVars false
namespace Go.Proofs.YtkoamlfiijcecaaGreatDoor.Sx
open Go.ChangeShapes Go.WideShapes Go.ChangeAt Go.RowKit Go.Deep
def BL(p:Nat)(ps:Ps)(x:Option (Itm.Tr×Nat))(v:Value)(V:View)(σ:aH):Prop:=∃t cs ps',v=.agg cs.toArray/\TV V t cs/\σ=[(p,Ps.O ps')]/\ps'.b=ps.b/\match x with
 |some (t',k)=>t=t'/\ps'.at_=ps.at_+k/\ps'.e=0
 |none=>ps'.e≠0
theorem BL.mono{p:Nat}{d:Ps}{x:Option (Itm.Tr×Nat)}{v:Value}{V V':View}{σ:aH}(h:View.le V V')(g:BL p d x v V σ):BL p d x v V' σ:=by
 obtain⟨t,cs,a,e,f,r⟩:=g;exact⟨t,cs,a,e,f.le h,r⟩
theorem oZ{p:Nat}{a:Ps}{V:View}{at_:Nat}{e:Int}(f:a.e=0)(d:e≠0):BL p a none itZ V [(p,(a.fail at_ e).O)]:=by
 refine⟨Itm.cD 0,_,a.fail at_ e,rfl,TV.num V 0 (by decide),rfl,?_,?_⟩<;>unfold Ps.fail<;>rw[N1 (by rw[f];rfl)]
 exact d
theorem Dq(a:Rd)(r k:Nat){W0:Cx}{U:View}{σ:aH}{W:World}(g:Mem W0 U σ W)(h:σ[k]? =some (r,a.O)):CP 194 #[.pointer (some ⟨r,0,none⟩)] W (Ret (.int .i64 (a.at_:Int)) W):=by
 obtain⟨V,_,d,f⟩:=g.peek k r a.cs _ h;exact Qb a r W f d
theorem TV.sk(V:View){k:Nat}(d:k=2\/k=3)(l:List UInt8)(a:l.length<=R47):TV V (.mk (k:Int) 0 l [] false) [.int .i64 (k:Int),.int .u64 0,.string (B l),.slice none 0 0,.bool false]:=by
 rcases d with rfl|rfl
 ·exact TV.str V l a
 ·exact TV.txt V l a
theorem Pv(a:Ps)(p:Nat)(k n z:Nat)(o:Bool)(X:List UInt8×Rd)(E:a.ok)(he:a.e=0)(hk:k=2\/k=3)(hx:hdF a.rest=some (k,n,o,z))(hX:tZ a.rest n z o 1073741824=X){W0:Cx}{U:View}{j:aH}{W:World}(f:Mem W0 U ([(p,a.O)]++j) W):CP 195 #[.pointer (some ⟨p,0,none⟩),.int .i64 (k:Int)] W (gX W0 U j (BL p a (oJ (k:Int) X))):=by
 have b1:=E.le;have C:=E.len;unfold R47 at C;have b3:a.rest.length=a.b.length-a.at_:=N8;let G:=(bK p [(St a.b),(I6 (a.at_:Int)),(I6 a.e)] 208);have a7:=LL (most:=1073741824) hx;rw[hX]at a7;have L:Mem W0 U ([G]++j) W:=f.eqv kR;refine fB 45 Tryz.func195 L ?_;refine zs (zr (dB 1 (λr=>?_)));refine zn (zQ 1 (eO 0 (λW f=>eC a p E f) (λv1 V1 s1 A M=>?_)));obtain⟨g,rfl,rfl⟩:=M;refine zq 1 (zn (zQ 2 (dB 3 (λu=>?_))));refine aX 3 u (zn ?_);refine dG (α:=Unit) (λF=>[0,4,5,6].zip [(Pt p 0),(Pt r 0),(Pt g 0),(Pt u 0)]) (λF=>V1) (λF=>([(g,X.2.O),G,(r,.cells [(I6 0),(U6 0),(St []),S0,qF].toArray 136 (0,0)),(bK u [(I6 (k:Int)),(U6 0),(St X.1),S0,qF] 136)]++j)) (λF=>True) ?_ ?_
 ·refine zQ 2 (zn (fC (k:Int) 2 (λh0 I=>?_) (λh0 I=>?_)))
  ·refine zr (zq 1 (jY 0 (g,(Rd.new a.rest).O) 233 #[(Pt g 0),(I6 1073741824)] (Sy g X) (λW f=>hX▸YL a.rest g n z 1073741824 o ((show k=2 by omega)▸hx) (Ps.rest_len E) (by decide) f) (λv3 V3 s3 Z N=>?_)));obtain⟨rfl,rfl⟩:=N;refine zq 1 (aX 3 u (zn ?_));refine jn () ?_ (d:=λ_ h=>(h.weak Z).eqv kR);trivial
  ·refine zr (zq 1 (jY 0 (g,(Rd.new a.rest).O) 234 #[(Pt g 0),(I6 1073741824)] (Sy g X) (λW f=>hX▸Xd a.rest g n z 1073741824 o ((show k=3 by omega)▸hx) (Ps.rest_len E) (by decide) f) (λv4 V4 s4 a1 O=>?_)));obtain⟨rfl,rfl⟩:=O;refine zq 1 (aX 3 u (zn ?_));refine jn () ?_ (d:=λ_ h=>(h.weak a1).eqv kR);trivial
 intro F b4;refine zs (zQ 1 (eO 0 (x:=(g,X.2.O)) (λW f=>iS X.2 g (f.eqv kR)) (λv5 V5 s5 B V=>?_)));obtain⟨rfl,rfl⟩:=V;refine zq 5 (zn (zQ 2 (zn (iE X.2.e 0 (λJ K=>?_) (λJ K=>?_)))))
 ·refine zB [0,0,0,0,2,0] [(p,1)] (eO 1 (x:=G) (λW f=>lC a p a.at_ X.2.e (f.eqv kR)) (λv6 V6 s6 a6 Y=>?_));obtain⟨rfl,rfl⟩:=Y;refine aX 2 r (zn (aA (dW [3] [(r,5)] [(.agg #[(I6 0),(U6 0),(St []),S0,qF])] (λW' f=>?_))));have D:=Q0.1 J;have hz:oJ (k:Int) X=none:=by unfold oJ;rw[M5 (by simpa using D)]
  rw[hz];exact fN 0 4 _ f (View.le_trans (View.le_trans A B) a6) (oZ (at_:=a.at_) (e:=X.2.e) he D)
 ·refine zk (zs ?_);refine gI 3 [0,0,0,4,0,1] [(p,1)] [.val (I6 (X.2.at_:Int))] ⟨?_,trivial⟩ ?_
  ·exact vC 194 #[(Pt g 0)] (λW f=>Dq X.2 g 0 f kR)
  refine zq 1 (dH 41 ((a.at_:Int)+(X.2.at_:Int)) (zq 2 (aX 1 p (zn (zB [4] [(u,5)] (aX 2 r (zn (aA (dW [3] [(r,5)] [(.agg #[(I6 (k:Int)),(U6 0),(St X.1),S0,qF])] (λW' f=>?_))))))))));have a8:=Q5.1 J;have hz:oJ (k:Int) X=some (.mk (k:Int) 0 X.1 [] false,X.2.at_):=by unfold oJ;rw[N1 (by rw[a8];rfl)]
  rw[hz];exact fN 1 4 _ f (View.le_trans A B) ⟨_,_,⟨a.b,a.at_+X.2.at_,a.e⟩,rfl,TV.sk _ hk X.1 (by unfold R47;omega),rfl,rfl,rfl,rfl,he⟩
def BI(d:Nat):Prop:=∀(ps:Ps) (p:Nat),ps.ok->ps.e=0->∀{W0:Cx} {U:View} {σF:aH} {W:World},Mem W0 U ([(p,ps.O)]++σF) W->CP 146 #[.pointer (some ⟨p,0,none⟩),.int .i64 (d:Int)] W (gX W0 U σF (BL p ps (itF d ps.rest)))
structure Lp where
 r:Rw
 xs:List Value
 m:Nat
 L:List (Itm.Tr×List Value)
 ps:Ps
 V:View
def GR(a:List Itm.Tr)(k:Nat):Option (List Itm.Tr×Nat)->Option (List Itm.Tr×Nat)
 |none=>none
 |some (ts,j)=>some (a++ts,k+j)
structure Si (G : Nat -> List UInt8 -> Option (List Itm.Tr × Nat)) (ps : Ps) (x : Lp) : Prop where
 b:x.ps.b=ps.b
 ok:x.ps.e=0->x.ps.ok
 at_:x.ps.e=0->ps.at_<=x.ps.at_
 go:x.ps.e=0->GR (x.L.map Prod.fst) (x.ps.at_-ps.at_) (G x.m x.ps.rest)=G 0 ps.rest
 no:x.ps.e≠0->G 0 ps.rest=none
def DO(f:List UInt8->Option (Itm.Tr×Nat))(G:Nat->List UInt8->Option (List Itm.Tr×Nat))(i:Nat)(s:List UInt8):Prop:=G i s=match f s with
 |none=>none
 |some (t,k)=>GR [t] k (G (i+1) (s.drop k))
theorem Si.zero{G:Nat->List UInt8->Option (List Itm.Tr×Nat)}{a:Ps}(f:a.ok)(d:a.e=0){V:View}:Si G a ⟨Rw.nil,[],0,[],a,V⟩:=
 ⟨rfl,λ_=>f,λ_=>O9 _,λ_=>by
  show GR [] (a.at_-a.at_) (G 0 a.rest)=_;rw[U9];cases G 0 a.rest with
  |none=>rfl
  |some q=>simp[GR],λh=>absurd d h⟩
theorem Si.step{f : List UInt8 -> Option (Itm.Tr × Nat)}{G : Nat -> List UInt8 -> Option (List Itm.Tr × Nat)}(J : ∀ s t k, f s = some (t, k) -> k <= s.length){B ps' : Ps}{x : Lp}(h : Si G B x)(D : x.ps.e = 0)(hs : DO f G x.m x.ps.rest){t : Itm.Tr}{cs O : List Value}{r : Rw}{V : View}(g : ps'.b = x.ps.b)
  (d:match f x.ps.rest with
   |some (_,k)=>ps'.at_=x.ps.at_+k/\ps'.e=0
   |none=>ps'.e≠0) (N:∀C k,f x.ps.rest=some (C,k)->t=C):Si G B ⟨r,O,x.m+1,x.L++[(t,cs)],ps',V⟩:=by
 have a:=h.go D;have u:=h.ok D;have I:=h.at_ D;unfold DO at hs;cases A:f x.ps.rest with
 |none=>
  rw[A]at d hs;simp only at d hs;rw[hs]at a;exact⟨g.trans h.b,λe=>absurd e d,λe=>absurd e d,λe=>absurd e d,λ_=>a.symm⟩
 |some q=>
  obtain⟨C,k⟩:=q;rw[A]at d hs;simp only at d hs;obtain⟨E,F⟩:=d;obtain rfl:=N C k A;have X:=J _ _ _ A;have M:x.ps.rest.length=x.ps.b.length-x.ps.at_:=N8;have K:=u.le;refine⟨g.trans h.b,λ_=>⟨by rw[E,g];omega,by rw[g];exact u.len⟩,λ_=>by show B.at_<=ps'.at_;omega,λ_=>?_,λe=>absurd F e⟩;rw[hs]at a;rw[<-a];have L:ps'.rest=x.ps.rest.drop k:=by unfold Ps.rest;rw[g,E,T3]
  show GR ((x.L++[(t,cs)]).map Prod.fst) (ps'.at_-B.at_) (G (x.m+1) ps'.rest)=_;rw[L];cases G (x.m+1) (x.ps.rest.drop k)with
  |none=>rfl
  |some q=>
   obtain⟨ts,j⟩:=q;simp only[GR,P6,R2,Z0,M6];congr 2;omega
def iJ(f:List UInt8->Option (Itm.Tr×Nat))(n i:Nat)(s:List UInt8):Option (List Itm.Tr×Nat):=fX f (n-i) s
def lD(f:List UInt8->Option (Itm.Tr×Nat))(i:Nat)(s:List UInt8):Option (List Itm.Tr×Nat):=iI f (1000-i) s
theorem oF{f:List UInt8->Option (Itm.Tr×Nat)}{n i:Nat}(h:i<n)(s:List UInt8):DO f (iJ f n) i s:=by
 unfold DO iJ;rw[show n-i=(n-(i+1))+1 by omega,fX];cases f s with
 |none=>rfl
 |some q=>
  obtain⟨t,k⟩:=q;simp only;cases fX f (n-(i+1)) (s.drop k)with
  |none=>rfl
  |some q=>rfl
theorem mB{f:List UInt8->Option (Itm.Tr×Nat)}{i:Nat}{s:List UInt8}(h:i<1000)(a:CF s=false):DO f (lD f) i s:=by
 unfold DO lD;rw[show 1000-i=(1000-(i+1))+1 by omega,iI,a];simp only[N9,if_false];cases f s with
 |none=>rfl
 |some q=>
  obtain⟨t,k⟩:=q;simp only;cases iI f (1000-(i+1)) (s.drop k)with
  |none=>rfl
  |some q=>rfl
def QS(x:Option (Itm.Tr×Nat))(v:Value)(V:View):Prop:=∃t cs,v=.agg cs.toArray/\TV V t cs/\∀t' k,x=some (t',k)->t=t'
def UG(x:Option (Itm.Tr×Nat))(v:Value)(V:View):Prop:=∃t cs g,v=.slice (some ⟨g,0,none⟩) 1 1/\V.range g 0 cs/\TV V t cs/\∀t' k,x=some (t',k)->t=t'
theorem BL.one{p:Nat}{g:Ps}{x:Option (Itm.Tr×Nat)}{v:Value}{V:View}{σ:aH}(h:BL p g x v V σ):QS x v V:=by
 obtain⟨t,cs,j,e,d,_,_,f⟩:=h;refine⟨t,cs,e,d,λr k a=>?_⟩;subst a;exact f.1
theorem QS.mono{x:Option (Itm.Tr×Nat)}{v:Value}{V V':View}(a:View.le V V')(h:QS x v V):QS x v V':=by
 obtain⟨t,cs,e,d,f⟩:=h;exact⟨t,cs,e,d.le a,f⟩
theorem UG.mono{x:Option (Itm.Tr×Nat)}{v:Value}{V V':View}(a:View.le V V')(h:UG x v V):UG x v V':=by
 obtain⟨t,cs,g,e,d,f,j⟩:=h;exact⟨t,cs,g,e,View.range_le a d,f.le a,j⟩
def Ae(p:Nat)(ps:Ps)(x:Option (Itm.Tr×Nat))(σ:aH):Prop:=∃ps',σ=[(p,Ps.O ps')]/\ps'.b=ps.b/\match x with
 |some (_,k)=>ps'.at_=ps.at_+k/\ps'.e=0
 |none=>ps'.e≠0
theorem BL.at_{p:Nat}{f:Ps}{x:Option (Itm.Tr×Nat)}{v:Value}{V:View}{σ:aH}(h:BL p f x v V σ):Ae p f x σ:=by
 obtain⟨t,cs,d,e,k,g,j,a⟩:=h;refine⟨d,g,j,?_⟩;cases x with
 |none=>exact a
 |some q=>exact⟨a.2.1,a.2.2⟩
theorem Vt{G:Nat->List UInt8->Option (List Itm.Tr×Nat)}{f ps':Ps}{x:Lp}{p:Nat}{V:View}{v:Value}{cs:List Value}{o:Bool}{j:Nat}(h:Si G f x)(g:x.ps.e=0)(A:G x.m x.ps.rest=some ([],j))(B:v=.agg cs.toArray)(k:TV V (.mk 4 0 [] (x.L.map Prod.fst) o) cs)(u:ps'.b=x.ps.b)(C:ps'.at_=x.ps.at_+j)(d:ps'.e=0):
  BL p f (lZ o 0 (G 0 f.rest)) v V [(p,ps'.O)]:=by
 have a:=h.go g;have r:=h.at_ g;rw[A]at a;rw[<-a];refine⟨_,cs,ps',B,k,rfl,u.trans h.b,?_⟩;simp only[lZ,GR,M1,bB];exact⟨by omega,d⟩
theorem SZ{G:Nat->List UInt8->Option (List Itm.Tr×Nat)}{a ps':Ps}{p:Nat}{V:View}{v:Value}{cs:List Value}{t:Itm.Tr}{o:Bool}(h:G 0 a.rest=none)(j:v=.agg cs.toArray)(f:TV V t cs)(g:ps'.b=a.b)(d:ps'.e≠0):BL p a (lZ o 0 (G 0 a.rest)) v V [(p,ps'.O)]:=by
 rw[h];exact⟨t,cs,ps',j,f,rfl,g,d⟩
theorem SW(a:Ps)(p:Nat)(g:a.ok){W0:Cx}{U:View}{d:aH}{W:World}(f:Mem W0 U ([(p,a.O)]++d) W):CP 236 #[.pointer (some ⟨p,0,none⟩)] W (gX W0 U d λv _ σ'=>v=.bool (CF a.rest)/\σ'=[(p,a.O)]):=by
 cases h:hdF a.rest with
 |none=>exact YX a p g h f
 |some q=>
  obtain⟨m,n,o,z⟩:=q;exact YW a p m n z o g h f
theorem PC(d:Nat)(n:Nat)(hn:n<=1000)(h7:d<=1000)(hI:BI d)(I:Ps)(p:Nat)(hp:I.ok)(he:I.e=0){W0:Cx}{U:View}{f:aH}{W:World}(J:Mem W0 U ([(p,I.O)]++f) W):CP 197 #[.pointer (some ⟨p,0,none⟩),.int .i64 (n:Int),.int .i64 ((d+1:Nat):Int)] W (gX W0 U f (BL p I (lZ false 0 ((iJ (itF d) n) 0 I.rest)))):=by
 have b6:decide ((n:Int)<0)=false:=P0 oW;have hd1:IntKind.i64.wrap (((d+1:Nat):Int)-1)=(d:Int):=by rw[IntWalk.i64_in _ oW];omega
 have c8:Mem W0 U ([(bK p [(St I.b),(I6 (I.at_:Int)),(I6 I.e)] 208)]++f) W:=J.eqv kR;refine fB 57 Tryz.func197 c8 ?_;refine zs (zr (dB 1 (λE=>?_)));refine zn (zQ 2 (dZ 9 (.bool (decide ((n:Int)<0))) qF (M0 Value.bool b6) ?_));refine zq 1 (dB 2 (λC=>?_));refine aX 2 C (zn (zs (aB (eF (α:=Lp) (λx=>[0,1,2,6,7].zip [(Pt p 0),(I6 (n:Int)),(L6 (d+1)),(Pt E 0),(Pt C 0)]) (λx=>x.V) (λx=>([(bK p [(St x.ps.b),(I6 (x.ps.at_:Int)),(I6 x.ps.e)] 208),(E,.cells [(I6 0),(U6 0),(St []),S0,qF].toArray 136 (0,0)),(C,.cells [(I6 4),(U6 0),(St []),(x.r.V x.m),qF].toArray 136 (0,0))]++f++x.r.B 136 x.xs)) (λx=>View.le U x.V/\RwR TV 5 x.V x.r x.xs x.m x.L/\x.m<=n/\Si (iJ (itF d) n) I x) (λx=>1001-x.m) ⟨Rw.nil,[],0,[],I,U⟩ ?_ ?_ (hm:=λ_ h=>h.nilE)))))
 ·exact⟨View.le_refl _,RwR.nil,M8 _,Si.zero hp he⟩
 intro x K;obtain⟨O,j,j1,K⟩:=K;refine zs (zB [0,0,0,1,0,0] [(p,1)] (jZ 16 x.ps.e 0 (λh0 a1=>?_) (λh0 a1=>?_)))
 ·have A:x.ps.e=0:=a1;have h4:=(K.ok A).le;have b5:=(K.ok A).len;unfold R47 at b5;refine cF [0,3] [(C,1)] (cB (L6 x.m) (qZ x.r 5 x.m x.xs j.ok (.tmp 18) 132 136 rfl kR kR) ?_);refine zq 3 (zn (iE (x.m:Int) (n:Int) (λh1 c2=>?_) (λh1 c2=>?_)))
  ·refine zk (aB (zs (zQ 2 (dZ 24 (.bool (decide ((n:Int)<0))) qF (M0 Value.bool b6) ?_))));refine zq 4 (zn (cU (zk (zs (zB [0,3] [(C,1)] (cB (L6 x.m) (qZ x.r 5 x.m x.xs j.ok (.tmp 38) 132 136 rfl kR kR) ?_))))));refine zq 1 (zn (dY ((x.m:Int)==1000) (M2.2 oW) ?_));refine zk ?_;refine Yb 2 5 [0,4,0,0,1,1,1] [(C,1)] [.val (I6 (d:Int)),.mem (QS (itF d x.ps.rest)),.mem (UG (itF d x.ps.rest))] [(bK p [(St x.ps.b),(I6 (x.ps.at_:Int)),(I6 x.ps.e)] 208)] ([]++([(E,.cells [(I6 0),(U6 0),(St []),S0,qF].toArray 136 (0,0)),(C,.cells [(I6 4),(U6 0),(St []),(x.r.V x.m),qF].toArray 136 (0,0))]++f++x.r.B 136 x.xs)) (BL p x.ps (itF d x.ps.rest)) (FJ [] ([(E,.cells [(I6 0),(U6 0),(St []),S0,qF].toArray 136 (0,0)),(C,.cells [(I6 4),(U6 0),(St []),(x.r.V x.m),qF].toArray 136 (0,0))]++f++x.r.B 136 x.xs) (bK p [(St x.ps.b),(I6 (x.ps.at_:Int)),(I6 x.ps.e)] 208) kR) rfl (by intro v V s2 h;exact h.one) (by intro v V V2 s2 h1 h2;exact h2.mono h1) (by simp only[O4];refine⟨?_,?_,?_,λ_ h=>by cases h⟩<;>first|trivial|(intro v V V2 F hP;(first|trivial|exact QS.mono F hP|exact UG.mono F hP))) ⟨?_,?_,?_,trivial⟩ ?_
   ·exact nO λh3=>wE (I6 (IntKind.i64.wrap (((d+1:Nat):Int)-1))) (M0 (Value.int .i64) hd1)
   ·refine nC 146 (λu=>#[(Pt p 0),(I6 (d:Int))]) λu V hV b3 W J=>?_
    exact hI x.ps p (K.ok A) A (J.eqv kR)
   ·refine nO λh3=>wN [52] (λu=>[u 5]) λu V hV b3=>?_
    have e5:=b3 5 kR rfl;obtain⟨t5,h6,q5,b8,e9⟩:=e5;obtain⟨a5,c5,rfl,h5,h9,j0,h8⟩:=b8.form;refine⟨(tC t5 a5 c5),136,λr=>(Sl r 0 1 1),?_,λg V' e1 hR=>?_⟩
    ·rw[q5];kernel_rfl
    exact⟨t5,_,g,rfl,hR,b8.le e1,e9⟩
   intro u2 V2 s2 F b4 a6;have k3:=j.le F;obtain⟨z2,e8⟩:∃z,u2 5=z:=⟨_,rfl⟩;rw[e8]at a6;obtain⟨L,rfl,e2,e7⟩:=(a6).at_;have Y:=b4 6 rfl;obtain⟨k,c1,Z,b9,N,G,X⟩:=Y;obtain⟨B,D,rfl,c0,e4,e6,e3⟩:=G.form;refine qS 53 b9 ?_;refine fK x.r x.xs x.m ([(bK p [(St L.b),(I6 (L.at_:Int)),(I6 L.e)] 208),(E,.cells [(I6 0),(U6 0),(St []),S0,qF].toArray 136 (0,0)),(C,.cells [(I6 4),(U6 0),(St []),(x.r.V x.m),qF].toArray 136 (0,0))]++f) 136 132 5 64 1 kR j.ok (.tmp 48) (.tmp 53) rfl kR Z 0 1 (tC k B D) kR (λW J=>View.range_of N J.view) rfl (M7.1 kR) (by decide) (by unfold maxLen;omega) oW kR kR kR kR kR (λr4 b7=>?_);refine zq 1 ?_;refine Aa 2 C 3 (x.m+1) 5 r4 (x.xs++(tC k B D)) b7 [(I6 4),(U6 0),(St []),(x.r.V x.m),qF] 136 132 _ _ rfl kR kR kR (λa c=>by kernel_rfl) kR rfl kR ?_;refine zn ?_;refine nx ⟨r4,(x.xs++(tC k B D)),x.m+1,x.L++[(k,(tC k B D))],L,V2⟩ ?_ ?_
   ·exact⟨(View.le_trans O F),RwR.snoc k3 G b7,by show x.m+1<=n;omega,K.step (gU d) A (oF oW _) e2 e7 X⟩
   ·show 1001-(x.m+1)<1001-x.m;omega
  ·refine aI (zs (zr ?_));refine jN x.r x.xs 5 x.m ([(bK p [(St x.ps.b),(I6 (x.ps.at_:Int)),(I6 x.ps.e)] 208),(E,.cells [(I6 0),(U6 0),(St []),S0,qF].toArray 136 (0,0)),(C,.cells [(I6 4),(U6 0),(St []),(x.r.V x.m),qF].toArray 136 (0,0))]++f) 136 kR j.ok (λa5 c5 V5 a8 c9 c4=>?_);rw[c4];have k6:=j.le a8;refine cF [3] [(C,5)] (aX 1 E (zn (aA (dW [2] [(E,5)] [(.agg #[(I6 4),(U6 0),(St []),(.slice a5 x.m c5),qF])] (λW' J=>?_)))));have M:=k6.arr c5 c9 (View.le_refl _) (by unfold R47;omega) false;refine fN 0 3 (bK p [(St x.ps.b),(I6 (x.ps.at_:Int)),(I6 x.ps.e)] 208) J (View.le_trans O a8) ?_;exact Vt K A (ps':=x.ps) (show(iJ (itF d) n) x.m x.ps.rest=some ([],0)from by unfold iJ;rw[show n-x.m=0 by omega];rfl) rfl M rfl rfl A
 ·refine zq 6 (zn (cU (aI (zs (zr ?_)))));refine jN x.r x.xs 5 x.m ([(bK p [(St x.ps.b),(I6 (x.ps.at_:Int)),(I6 x.ps.e)] 208),(E,.cells [(I6 0),(U6 0),(St []),S0,qF].toArray 136 (0,0)),(C,.cells [(I6 4),(U6 0),(St []),(x.r.V x.m),qF].toArray 136 (0,0))]++f) 136 kR j.ok (λa7 c7 V7 b2 e0 c6=>?_);rw[c6];have k8:=j.le b2;refine cF [3] [(C,5)] (aX 1 E (zn (aA (dW [2] [(E,5)] [(.agg #[(I6 4),(U6 0),(St []),(.slice a7 x.m c7),qF])] (λW' J=>?_)))));have M:=k8.arr c7 e0 (View.le_refl _) (by unfold R47;omega) false;refine fN 0 3 (bK p [(St x.ps.b),(I6 (x.ps.at_:Int)),(I6 x.ps.e)] 208) J (View.le_trans O b2) ?_;exact SZ (ps':=x.ps) (K.no (by simpa using h0)) rfl M K.b (by simpa using h0)
theorem YU(d:Nat)(j4:d<=1000)(hI:BI d)(K:Ps)(p:Nat)(hp:K.ok)(he:K.e=0){W0:Cx}{U:View}{j:aH}{W:World}(B:Mem W0 U ([(p,K.O)]++j) W):CP 197 #[.pointer (some ⟨p,0,none⟩),.int .i64 (-1),.int .i64 ((d+1:Nat):Int)] W (gX W0 U j (BL p K (lZ true 0 ((lD (itF d)) 0 K.rest)))):=by
 have hd1:IntKind.i64.wrap (((d+1:Nat):Int)-1)=(d:Int):=by rw[IntWalk.i64_in _ oW];omega
 have X:Mem W0 U ([(bK p [(St K.b),(I6 (K.at_:Int)),(I6 K.e)] 208)]++j) W:=B.eqv kR;refine fB 57 Tryz.func197 X ?_;refine zs (zr (dB 1 (λF=>?_)));refine zn (zQ 3 (dB 2 (λA=>?_)));refine aX 2 A (zn (zs (aB (eF (α:=Lp) (λx=>[0,1,2,6,7].zip [(Pt p 0),(I6 (-1)),(L6 (d+1)),(Pt F 0),(Pt A 0)]) (λx=>x.V) (λx=>([(bK p [(St x.ps.b),(I6 (x.ps.at_:Int)),(I6 x.ps.e)] 208),(F,.cells [(I6 0),(U6 0),(St []),S0,qF].toArray 136 (0,0)),(A,.cells [(I6 4),(U6 0),(St []),(x.r.V x.m),qT].toArray 136 (0,0))]++j++x.r.B 136 x.xs)) (λx=>View.le U x.V/\RwR TV 5 x.V x.r x.xs x.m x.L/\x.m<=1000/\Si (lD (itF d)) K x) (λx=>1001-x.m) ⟨Rw.nil,[],0,[],K,U⟩ ?_ ?_ (hm:=λ_ h=>h.nilE)))))
 ·exact⟨View.le_refl _,RwR.nil,M8 _,Si.zero hp he⟩
 intro x I;obtain⟨L,D,j8,I⟩:=I;refine zs (zB [0,0,0,1,0,0] [(p,1)] (jZ 16 x.ps.e 0 (λh0 b2=>?_) (λh0 b2=>?_)))
 ·have f:x.ps.e=0:=b2;have j0:=(I.ok f).le;have c1:=(I.ok f).len;unfold R47 at c1;refine cF [0,3] [(A,1)] (cB (L6 x.m) (qZ x.r 5 x.m x.xs D.ok (.tmp 18) 132 136 rfl kR kR) ?_);refine zq 3 (zn (jG ((x.m:Int) !=(-1)) (Q0.2 oW) ?_));refine zk (aB (zs (zQ 4 (eO 0 (x:=(bK p [(St x.ps.b),(I6 (x.ps.at_:Int)),(I6 x.ps.e)] 208)) (λW B=>SW x.ps p (I.ok f) (B.eqv kR)) (λv2 V2 s2 C e3=>?_)))));have k3:=D.le C;obtain⟨rfl,rfl⟩:=e3;refine zq 1 (zn (gK (CF x.ps.rest) (λh1=>?_) (λh1=>?_)))
  ·refine zB [0,0,0,1,0] [(p,1)] (dH 33 ((x.ps.at_:Int)+1) (zq 2 (aX 0 p (zn (zs (zr ?_))))));refine jN x.r x.xs 5 x.m ([(bK p [(St x.ps.b),(I6 ((x.ps.at_:Int)+1)),(I6 x.ps.e)] 208),(F,.cells [(I6 0),(U6 0),(St []),S0,qF].toArray 136 (0,0)),(A,.cells [(I6 4),(U6 0),(St []),(x.r.V x.m),qT].toArray 136 (0,0))]++j) 136 kR D.ok (λa4 c4 V4 b6 e6 e2=>?_);rw[e2];have k5:=k3.le b6;refine cF [3] [(A,5)] (aX 1 F (zn (aA (dW [2] [(F,5)] [(.agg #[(I6 4),(U6 0),(St []),(.slice a4 x.m c4),qT])] (λW' B=>?_)))));have Y:=k5.arr c4 e6 (View.le_refl _) (by unfold R47;omega) true;refine fN 0 3 (bK p [(St x.ps.b),(I6 ((x.ps.at_:Int)+1)),(I6 x.ps.e)] 208) B (View.le_trans (View.le_trans L C) b6) ?_;exact Vt I f (ps':=⟨x.ps.b,x.ps.at_+1,x.ps.e⟩) (show(lD (itF d)) x.m x.ps.rest=some ([],1)from by unfold lD;cases 1000-x.m<;>rw[iI,N1 h1]) rfl Y rfl rfl f
  ·refine zk (zs (zB [0,3] [(A,1)] (cB (L6 x.m) (qZ x.r 5 x.m x.xs D.ok (.tmp 38) 132 136 rfl kR kR) ?_)));refine zq 1 (zn (fC (x.m:Int) 1000 (λh2 e1=>?_) (λh2 e1=>?_)))
   ·refine zB [0,0,0,0,1] [(p,1)] (eO 0 (x:=(bK p [(St x.ps.b),(I6 (x.ps.at_:Int)),(I6 x.ps.e)] 208)) (λW B=>lC x.ps p x.ps.at_ 4 (B.eqv kR)) (λv6 V6 s6 e8 e4=>?_));obtain⟨rfl,rfl⟩:=e4;refine aX 1 F (zn (aA (dW [2] [(F,5)] [(.agg #[(I6 0),(U6 0),(St []),S0,qF])] (λW' B=>?_))));have X:=(B.eqv (show _=(([(p,(x.ps.fail x.ps.at_ 4).O),(F,.cells [(I6 0),(U6 0),(St []),S0,qF].toArray 136 (0,0)),(A,.cells [(I6 4),(U6 0),(St []),(x.r.V x.m),qT].toArray 136 (0,0))]:aH)++j)++x.r.B 136 x.xs from by kernel_rfl)).sub (M4 _ _);have c0:(x.ps.fail x.ps.at_ 4).b=x.ps.b/\(x.ps.fail x.ps.at_ 4).e=4:=by unfold Ps.fail;rw[N1 (by rw[f];rfl)];exact⟨rfl,rfl⟩
    exact fN 0 3 _ X ((View.le_trans (View.le_trans L C) e8)) (SZ (by have hg:=I.go f;rw[<-hg,show(lD (itF d)) x.m x.ps.rest=none from by unfold lD;rw[show 1000-x.m=0 by omega,iI,h1];rfl];rfl) rfl (TV.num _ 0 (by decide)) (c0.1.trans I.b) (by rw[c0.2];decide))
   ·refine zk ?_;refine Yb 2 5 [0,4,0,0,1,1,1] [(A,1)] [.val (I6 (d:Int)),.mem (QS (itF d x.ps.rest)),.mem (UG (itF d x.ps.rest))] [(bK p [(St x.ps.b),(I6 (x.ps.at_:Int)),(I6 x.ps.e)] 208)] ([]++([(F,.cells [(I6 0),(U6 0),(St []),S0,qF].toArray 136 (0,0)),(A,.cells [(I6 4),(U6 0),(St []),(x.r.V x.m),qT].toArray 136 (0,0))]++j++x.r.B 136 x.xs)) (BL p x.ps (itF d x.ps.rest)) (FJ [] ([(F,.cells [(I6 0),(U6 0),(St []),S0,qF].toArray 136 (0,0)),(A,.cells [(I6 4),(U6 0),(St []),(x.r.V x.m),qT].toArray 136 (0,0))]++j++x.r.B 136 x.xs) (bK p [(St x.ps.b),(I6 (x.ps.at_:Int)),(I6 x.ps.e)] 208) kR) rfl (by intro v V s2 h;exact h.one) (by intro v V V2 s2 h1 h2;exact h2.mono h1) (by simp only[O4];refine⟨?_,?_,?_,λ_ h=>by cases h⟩<;>first|trivial|(intro v V V2 C hP;(first|trivial|exact QS.mono C hP|exact UG.mono C hP))) ⟨?_,?_,?_,trivial⟩ ?_
    ·exact nO λh9=>wE (I6 (IntKind.i64.wrap (((d+1:Nat):Int)-1))) (M0 (Value.int .i64) hd1)
    ·refine nC 146 (λu=>#[(Pt p 0),(I6 (d:Int))]) λu V hV b8 W B=>?_
     exact hI x.ps p (I.ok f) f (B.eqv kR)
    ·refine nO λh9=>wN [52] (λu=>[u 5]) λu V hV b8=>?_
     have e5:=b8 5 kR rfl;obtain⟨t5,j3,q5,c2,h6⟩:=e5;obtain⟨a5,c5,rfl,j1,j6,j7,j5⟩:=c2.form;refine⟨(tC t5 a5 c5),136,λr=>(Sl r 0 1 1),?_,λg V' e7 hR=>?_⟩
     ·rw[q5];kernel_rfl
     exact⟨t5,_,g,rfl,hR,c2.le e7,h6⟩
    intro u8 V8 s8 b7 b9 b4;have k9:=k3.le b7;obtain⟨z8,h7⟩:∃z,u8 5=z:=⟨_,rfl⟩;rw[h7]at b4;obtain⟨M,rfl,hb8,h5⟩:=(b4).at_;have a7:=b9 6 rfl;obtain⟨k,e0,a8,c6,Z,J,a1⟩:=a7;obtain⟨E,G,rfl,c8,h3,h4,e9⟩:=J.form;refine qS 53 c6 ?_;refine fK x.r x.xs x.m ([(bK p [(St M.b),(I6 (M.at_:Int)),(I6 M.e)] 208),(F,.cells [(I6 0),(U6 0),(St []),S0,qF].toArray 136 (0,0)),(A,.cells [(I6 4),(U6 0),(St []),(x.r.V x.m),qT].toArray 136 (0,0))]++j) 136 132 5 64 1 kR D.ok (.tmp 48) (.tmp 53) rfl kR a8 0 1 (tC k E G) kR (λW B=>View.range_of Z B.view) rfl (M7.1 kR) (by decide) (by unfold maxLen;omega) oW kR kR kR kR kR (λc7 O=>?_);refine zq 1 ?_;refine Aa 2 A 3 (x.m+1) 5 c7 (x.xs++(tC k E G)) O [(I6 4),(U6 0),(St []),(x.r.V x.m),qT] 136 132 _ _ rfl kR kR kR (λa c=>by kernel_rfl) kR rfl kR ?_;refine zn ?_;refine nx ⟨c7,(x.xs++(tC k E G)),x.m+1,x.L++[(k,(tC k E G))],M,V8⟩ ?_ ?_
    ·exact⟨(View.le_trans (View.le_trans L C) b7),RwR.snoc k9 J O,by show x.m+1<=1000;omega,I.step (gU d) f (mB oW h1) hb8 h5 a1⟩
    ·show 1001-(x.m+1)<1001-x.m;omega
 ·refine zq 6 (zn (cU (aI (zs (zr ?_)))));refine jN x.r x.xs 5 x.m ([(bK p [(St x.ps.b),(I6 (x.ps.at_:Int)),(I6 x.ps.e)] 208),(F,.cells [(I6 0),(U6 0),(St []),S0,qF].toArray 136 (0,0)),(A,.cells [(I6 4),(U6 0),(St []),(x.r.V x.m),qT].toArray 136 (0,0))]++j) 136 kR D.ok (λc9 a6 j2 N b5 b3=>?_);rw[b3];have h8:=D.le N;refine cF [3] [(A,5)] (aX 1 F (zn (aA (dW [2] [(F,5)] [(.agg #[(I6 4),(U6 0),(St []),(.slice c9 x.m a6),qT])] (λW' B=>?_)))));have Y:=h8.arr a6 b5 (View.le_refl _) (by unfold R47;omega) true;refine fN 0 3 (bK p [(St x.ps.b),(I6 (x.ps.at_:Int)),(I6 x.ps.e)] 208) B (View.le_trans L N) ?_;exact SZ (ps':=x.ps) (I.no (by simpa using h0)) rfl Y I.b (by simpa using h0)
theorem JG{p z:Nat}{d:Ps}{o:Bool}{X:Option (List Itm.Tr×Nat)}{v:Value}{V:View}{σ:aH}(h:BL p ⟨d.b,d.at_+z,d.e⟩ (lZ o 0 X) v V σ):BL p d (lZ o z X) v V σ:=by
 obtain⟨t,cs,f,e,r,g,j,a⟩:=h;refine⟨t,cs,f,e,r,g,j,?_⟩;cases X with
 |none=>exact a
 |some q=>
  obtain⟨l,k⟩:=q;simp only[lZ]at a ⊢;exact⟨a.1,by omega,a.2.2⟩
theorem Vn(a:Ps)(p:Nat)  (d:Nat)(k:a.ok)(L:a.e=0)(K:hdF a.rest=none){W0:Cx}{U:View}{g:aH}{W:World}(f:Mem W0 U ([(p,a.O)]++g) W):CP 146 #[.pointer (some ⟨p,0,none⟩),.int .i64 (d:Int)] W (gX W0 U g (BL p a (itF d a.rest))):=by
 have M:=k.le;have j:=k.len;unfold R47 at j;have N:a.rest.length=a.b.length-a.at_:=N8;have I:itF d a.rest=none:=by cases d<;>simp[itF,K]
 have r:Mem W0 U ([(bK p [(St a.b),(I6 (a.at_:Int)),(I6 a.e)] 208)]++g) W:=f.eqv kR;refine fB 118 Tryz.func146 r ?_;refine zs (zr (dB 1 (λJ=>?_)));refine zn (zQ 1 (eO 0 (λW f=>eC a p k f) (λv1 O s1 D u=>?_)));obtain⟨h,rfl,rfl⟩:=u;refine zq 1 (zn (zQ 1 (jY 0 (h,(Rd.new a.rest).O) 192 #[(Pt h 0)] (DP h a.rest (none)) (λW f=>K▸eQ a.rest h (Ps.rest_len k) f) (λv2 V s2 E A=>?_))));obtain⟨rfl,rfl⟩:=A;refine zq 7 (zn (zs (zQ 1 (eO 0 (x:=(h,(hdR a.rest (none)).O)) (λW f=>iS (⟨a.rest,0,0,2,0⟩:Rd) h (f.eqv kR)) (λv3 X s3 F B=>?_)))));obtain⟨rfl,rfl⟩:=B;refine zq 5 (zn (zQ 2 (zn (dM (zB [0,0,0,0,2,0] [(p,1)] (eO 1 (x:=(bK p [(St a.b),(I6 (a.at_:Int)),(I6 a.e)] 208)) (λW f=>lC a p a.at_ 2 (f.eqv kR)) (λv4 Y s4 G C=>?_)))))));obtain⟨rfl,rfl⟩:=C;refine aX 2 J (zn (aA (dW [3] [(J,5)] [(.agg #[(I6 0),(U6 0),(St []),S0,qF])] (λZ f=>?_))));rw[I];exact fN 0 3 _ f (View.le_trans (View.le_trans (View.le_trans D E) F) G) (oZ (at_:=a.at_) (e:=2) L (by decide))
theorem ZJ(a:Ps)(p:Nat)(d m n z:Nat)(o:Bool)(k:a.ok)(he:a.e=0)(O:hdF a.rest=some (m,n,o,z))(V:m≠0)(X:m≠2)(Y:m≠3)(Z:m≠4){W0:Cx}{U:View}{g:aH}{W:World}(f:Mem W0 U ([(p,a.O)]++g) W):CP 146 #[.pointer (some ⟨p,0,none⟩),.int .i64 (d:Int)] W (gX W0 U g (BL p a (itF d a.rest))):=by
 have a1:=k.le;have j:=k.len;unfold R47 at j;have a6:a.rest.length=a.b.length-a.at_:=N8;have J:((m:Int) !=0)=true:=Q0.2 oW;have K:((m:Int) !=2)=true:=Q0.2 oW;have L:((m:Int) !=3)=true:=Q0.2 oW;have M:((m:Int) !=4)=true:=Q0.2 oW;have I:itF d a.rest=none:=by
  cases d with
  |zero=>rfl
  |succ d=>rw[itF,O];simp only[V,X,Y,Z,if_false]
 have r:Mem W0 U ([(bK p [(St a.b),(I6 (a.at_:Int)),(I6 a.e)] 208)]++g) W:=f.eqv kR;refine fB 118 Tryz.func146 r ?_;refine zs (zr (dB 1 (λN=>?_)));refine zn (zQ 1 (eO 0 (λW f=>eC a p k f) (λv1 V1 s1 D u=>?_)));obtain⟨h,rfl,rfl⟩:=u;refine zq 1 (zn (zQ 1 (jY 0 (h,(Rd.new a.rest).O) 192 #[(Pt h 0)] (DP h a.rest (some (m,n,o,z))) (λW f=>O▸eQ a.rest h (Ps.rest_len k) f) (λv2 V2 s2 E A=>?_))));obtain⟨rfl,rfl⟩:=A;refine zq 7 (zn (zs (zQ 1 (eO 0 (x:=(h,(hdR a.rest (some (m,n,o,z))).O)) (λW f=>iS (⟨a.rest,z,-1,0,0⟩:Rd) h (f.eqv kR)) (λv3 V3 s3 F B=>?_)))));obtain⟨rfl,rfl⟩:=B;refine zq 5 (zn (zQ 2 (zn (cU (zk (zs (aB (zQ 3 (dZ 40 (.bool ((m:Int) !=0)) qT (M0 Value.bool J) ?_)))))))));refine zq 4 (dZ 44 (.bool ((m:Int) !=2)) qT (M0 Value.bool K) ?_);refine zq 4 (dZ 48 (.bool ((m:Int) !=3)) qT (M0 Value.bool L) ?_);refine zq 4 (zn (jG ((m:Int) !=4) M ?_));refine zB [0,0,0,0,2] [(p,1)] (eO 1 (x:=(bK p [(St a.b),(I6 (a.at_:Int)),(I6 a.e)] 208)) (λW f=>lC a p a.at_ 2 (f.eqv kR)) (λv4 V4 s4 G C=>?_));obtain⟨rfl,rfl⟩:=C;refine aX 2 N (zn (aA (dW [3] [(N,5)] [(.agg #[(I6 0),(U6 0),(St []),S0,qF])] (λW' f=>?_))));rw[I];exact fN 0 3 _ f (View.le_trans (View.le_trans (View.le_trans D E) F) G) (oZ (at_:=a.at_) (e:=2) he (by decide))
theorem Vp(a:Ps)(p:Nat)(m n z:Nat)(o:Bool)(D:a.ok)(N:a.e=0)(hx:hdF a.rest=some (m,n,o,z)){W0:Cx}{U:View}{f:aH}{W:World}(d:Mem W0 U ([(p,a.O)]++f) W):CP 146 #[.pointer (some ⟨p,0,none⟩),.int .i64 ((0:Nat):Int)] W (gX W0 U f (BL p a (itF 0 a.rest))):=by
 have a6:=D.le;have B:=D.len;unfold R47 at B;have a7:a.rest.length=a.b.length-a.at_:=N8;let C:=(bK p [(St a.b),(I6 (a.at_:Int)),(I6 a.e)] 208);have A:itF 0 a.rest=none:=rfl;have E:Mem W0 U ([C]++f) W:=d.eqv kR;refine fB 118 Tryz.func146 E ?_;refine zs (zr (dB 1 (λh=>?_)));refine zn (zQ 1 (eO 0 (λW d=>eC a p D d) (λv1 V1 s1 k F=>?_)));obtain⟨g,rfl,rfl⟩:=F;refine zq 1 (zn (zQ 1 (jY 0 (g,(Rd.new a.rest).O) 192 #[(Pt g 0)] (DP g a.rest (some (m,n,o,z))) (λW d=>hx▸eQ a.rest g (Ps.rest_len D) d) (λv2 V2 s2 r G=>?_))));obtain⟨rfl,rfl⟩:=G;refine zq 7 (zn (zs (zQ 1 (eO 0 (x:=(g,(hdR a.rest (some (m,n,o,z))).O)) (λW d=>iS (⟨a.rest,z,-1,0,0⟩:Rd) g (d.eqv kR)) (λv3 O s3 u I=>?_)))));obtain⟨rfl,rfl⟩:=I;refine zq 5 (zn (zQ 2 (zn (cU (zk (zs (aB ?_)))))));refine dG (α:=Bool) (λj=>[0,1,4,5,6,7,37].zip [(Pt p 0),(L6 0),(Pt h 0),(Pt g 0),(I6 (m:Int)),(N6 n),(.bool j)]) (λj=>O) (λj=>([(g,(⟨a.rest,z,-1,0,0⟩:Rd).O),C,(h,.cells [(I6 0),(U6 0),(St []),S0,qF].toArray 136 (0,0))]++f)) (λj=>True) ?_ ?_
 ·refine zr (zq 3 (cN 40 ((m:Int) !=0) (λX=>?_) (λX=>?_)))
  ·refine zq 4 (cN 44 ((m:Int) !=2) (λY=>?_) (λY=>?_))
   ·refine zq 4 (cN 48 ((m:Int) !=3) (λZ=>?_) (λZ=>?_))
    ·refine zq 4 (zn ?_);refine jn ((m:Int) !=4) ?_;trivial
    ·refine zq 4 (zn ?_);refine jn false ?_;trivial
   ·refine zq 8 (zn ?_);refine jn false ?_;trivial
  ·refine zq 12 (zn ?_);refine jn false ?_;trivial
 intro j a1;refine gK j (λh3=>?_) (λh3=>?_)
 ·refine zB [0,0,0,0,2] [(p,1)] (eO 1 (x:=C) (λW d=>lC a p a.at_ 2 (d.eqv kR)) (λv4 V4 s4 L J=>?_));obtain⟨rfl,rfl⟩:=J;refine aX 2 h (zn (aA (dW [3] [(h,5)] [(.agg #[(I6 0),(U6 0),(St []),S0,qF])] (λV d=>?_))));rw[A];exact fN 0 3 _ d (View.le_trans (View.le_trans (View.le_trans k r) u) L) (oZ (at_:=a.at_) (e:=2) N (by decide))
 ·refine zQ 3 (zn (jG (decide (((0:Nat):Int)<1)) (by decide) ?_));refine zB [0,0,0,0,2] [(p,1)] (eO 1 (x:=C) (λW d=>lC a p a.at_ 3 (d.eqv kR)) (λv5 V5 s5 M K=>?_));obtain⟨rfl,rfl⟩:=K;refine aX 2 h (zn (aA (dW [3] [(h,5)] [(.agg #[(I6 0),(U6 0),(St []),S0,qF])] (λV d=>?_))));rw[A];exact fN 0 3 _ d (View.le_trans (View.le_trans (View.le_trans k r) u) M) (oZ (at_:=a.at_) (e:=3) N (by decide))
theorem Om(a:Ps)(p:Nat)(d n z:Nat)(o:Bool)(k:a.ok)(J:a.e=0)(r:hdF a.rest=some (0,n,o,z)){W0:Cx}{U:View}{h:aH}{W:World}(f:Mem W0 U ([(p,a.O)]++h) W):CP 146 #[.pointer (some ⟨p,0,none⟩),.int .i64 ((d+1:Nat):Int)] W (gX W0 U h (BL p a (itF (d+1) a.rest))):=by
 have K:=k.le;have j:=k.len;unfold R47 at j;have M:a.rest.length=a.b.length-a.at_:=N8;have hd1:decide (((d+1:Nat):Int)<1)=false:=P0 oW;have Y:=eT r;have L:=(DG r).1;have G:itF (d+1) a.rest=some (.mk 0 n [] [] false,z):=by rw[itF,r];rfl
 have u:Mem W0 U ([(bK p [(St a.b),(I6 (a.at_:Int)),(I6 a.e)] 208)]++h) W:=f.eqv kR;refine fB 118 Tryz.func146 u ?_;refine zs (zr (dB 1 (λI=>?_)));refine zn (zQ 1 (eO 0 (λW f=>eC a p k f) (λv1 N Z D A=>?_)));obtain⟨g,rfl,rfl⟩:=A;refine zq 1 (zn (zQ 1 (jY 0 (g,(Rd.new a.rest).O) 192 #[(Pt g 0)] (DP g a.rest (some (0,n,o,z))) (λW f=>r▸eQ a.rest g (Ps.rest_len k) f) (λv2 O s2 E B=>?_))));obtain⟨rfl,rfl⟩:=B;refine zq 7 (zn (zs (zQ 1 (eO 0 (x:=(g,(hdR a.rest (some (0,n,o,z))).O)) (λW f=>iS (⟨a.rest,z,-1,0,0⟩:Rd) g (f.eqv kR)) (λv3 V s3 F C=>?_)))));obtain⟨rfl,rfl⟩:=C;refine zq 5 (zn (zQ 2 (zn (cU (zk (zs (aB (zQ 15 (zn (cU (zQ 3 (zn (dY (decide (((d+1:Nat):Int)<1)) hd1 ?_)))))))))))));refine zQ 3 (zn (dM (zs ?_)));refine gI 3 [0,0,0,4,0,1] [(p,1)] [.val (I6 (z:Int))] ⟨?_,trivial⟩ ?_
 ·exact vC 194 #[(Pt g 0)] (λW f=>Dq (⟨a.rest,z,-1,0,0⟩:Rd) g 0 f kR)
 refine zq 1 (dH 76 ((a.at_:Int)+(z:Int)) (zq 2 (aX 1 p (zn (zQ 1 (cY 131 #[(N6 n)] (iV n) (λW f=>dV _ W) ?_))))));refine aX 2 I (zn (aA (dW [3] [(I,5)] [(iV n)] (λX f=>?_))));rw[G];exact fN 1 3 _ f (View.le_trans (View.le_trans D E) F) ⟨_,_,⟨a.b,a.at_+z,a.e⟩,rfl,TV.num _ n (by unfold W64;omega),rfl,rfl,rfl,rfl,J⟩
theorem On(a:Ps)(p:Nat)(d k n z:Nat)(o:Bool)(A:a.ok)(he:a.e=0)(hk:k=2\/k=3)(D:hdF a.rest=some (k,n,o,z)){W0:Cx}{U:View}{g:aH}{W:World}(f:Mem W0 U ([(p,a.O)]++g) W):CP 146 #[.pointer (some ⟨p,0,none⟩),.int .i64 ((d+1:Nat):Int)] W (gX W0 U g (BL p a (itF (d+1) a.rest))):=by
 have b6:=A.le;have u:=A.len;unfold R47 at u;have b8:a.rest.length=a.b.length-a.at_:=N8;have hd1:decide (((d+1:Nat):Int)<1)=false:=P0 oW;let E:=(bK p [(St a.b),(I6 (a.at_:Int)),(I6 a.e)] 208);have hz:=eT D;have Z:((k:Int)==0)=false:=M2.2 oW;have b4:((k:Int)==4)=false:=M2.2 oW;have r:((k:Int) !=4)=true:=Q0.2 oW;have Y:itF (d+1) a.rest=oJ (k:Int) (tZ a.rest n z o 1073741824):=by rw[itF,D];rcases hk with rfl|rfl<;>rfl
 have F:Mem W0 U ([E]++g) W:=f.eqv kR;refine fB 118 Tryz.func146 F ?_;refine zs (zr (dB 1 (λC=>?_)));refine zn (zQ 1 (eO 0 (λW f=>eC a p A f) (λv1 V1 s1 L G=>?_)));obtain⟨h,rfl,rfl⟩:=G;refine zq 1 (zn (zQ 1 (jY 0 (h,(Rd.new a.rest).O) 192 #[(Pt h 0)] (DP h a.rest (some (k,n,o,z))) (λW f=>D▸eQ a.rest h (Ps.rest_len A) f) (λv2 V2 s2 M I=>?_))));obtain⟨rfl,rfl⟩:=I;refine zq 7 (zn (zs (zQ 1 (eO 0 (x:=(h,(hdR a.rest (some (k,n,o,z))).O)) (λW f=>iS (⟨a.rest,z,-1,0,0⟩:Rd) h (f.eqv kR)) (λv3 V3 s3 N J=>?_)))));obtain⟨rfl,rfl⟩:=J;refine zq 5 (zn (zQ 2 (zn (cU (zk (zs (aB ?_)))))));refine dG (α:=Bool) (λj=>[0,1,4,5,6,7,37].zip [(Pt p 0),(I6 ((d+1:Nat):Int)),(Pt C 0),(Pt h 0),(I6 (k:Int)),(N6 n),(.bool j)]) (λj=>V3) (λj=>([(h,(⟨a.rest,z,-1,0,0⟩:Rd).O),E,(C,.cells [(I6 0),(U6 0),(St []),S0,qF].toArray 136 (0,0))]++g)) (λj=>j=false) ?_ ?_
 ·refine zr (zq 3 (jB 40 (k:Int) 0 (λh0 b1=>?_) (λh0 _=>?_)))
  ·refine zq 4 (jB 44 (k:Int) 2 (λh1 b2=>?_) (λh1 _=>?_))
   ·refine zq 4 (jB 48 (k:Int) 3 (λh2 b3=>?_) (λh2 _=>?_))
    ·refine zq 4 (zn ?_);refine jn ((k:Int) !=4) ?_;exfalso;omega
    ·refine zq 4 (zn ?_);refine jn false ?_;rfl
   ·refine zq 8 (zn ?_);refine jn false ?_;rfl
  ·refine zq 12 (zn ?_);refine jn false ?_;rfl
 intro j X;refine dY j X ?_;refine zQ 3 (zn (dY (decide (((d+1:Nat):Int)<1)) hd1 ?_));refine zQ 3 (zn (dY ((k:Int)==0) Z ?_));refine zQ 3 (zn (jG ((k:Int) !=4) r ?_));refine zQ 2 (jY 1 E 195 #[(Pt p 0),(I6 (k:Int))] (BL p a (oJ (k:Int) (tZ a.rest n z o 1073741824))) (λW f=>Pv a p k n z o _ A he hk D rfl (f.eqv kR)) (λv4 V4 s4 O K=>?_));obtain⟨t4,a8,a6,rfl,B,rfl,V,a1⟩:=K;obtain⟨a4,c4,rfl,a7,b7,c0,b5⟩:=B.form;refine aX 2 C (zn (aA (dW [3] [(C,5)] [(tV t4 a4 c4)] (λW' f=>?_))));rw[Y];exact fN 0 3 _ f (View.le_trans (View.le_trans (View.le_trans L M) N) O) ⟨t4,_,a6,rfl,B,rfl,V,a1⟩
theorem Vo(a:Ps)(p:Nat)(d n z:Nat)(g:a.ok)(he:a.e=0)(A:hdF a.rest=some (4,n,true,z))(Z:d<=1000)(hI:BI d){W0:Cx}{U:View}{h:aH}{W:World}(f:Mem W0 U ([(p,a.O)]++h) W):CP 146 #[.pointer (some ⟨p,0,none⟩),.int .i64 ((d+1:Nat):Int)] W (gX W0 U h (BL p a (itF (d+1) a.rest))):=by
 have b6:=g.le;have k:=g.len;unfold R47 at k;have b8:a.rest.length=a.b.length-a.at_:=N8;have hd1:decide (((d+1:Nat):Int)<1)=false:=P0 oW;have hz:=eT A;have a6:(⟨a.b,a.at_+z,a.e⟩:Ps).ok:=⟨by show a.at_+z<=a.b.length;omega,g.len⟩;have a8:(⟨a.b,a.at_+z,a.e⟩:Ps).rest=a.rest.drop z:=by unfold Ps.rest;rw[T3]
 have a1:itF (d+1) a.rest=lZ true z (lD (itF d) 0 (⟨a.b,a.at_+z,a.e⟩:Ps).rest):=by rw[a8,itF,A];rfl
 have B:Mem W0 U ([(bK p [(St a.b),(I6 (a.at_:Int)),(I6 a.e)] 208)]++h) W:=f.eqv kR;refine fB 118 Tryz.func146 B ?_;refine zs (zr (dB 1 (λb0=>?_)));refine zn (zQ 1 (eO 0 (λW f=>eC a p g f) (λv1 V1 s1 K C=>?_)));obtain⟨j,rfl,rfl⟩:=C;refine zq 1 (zn (zQ 1 (jY 0 (j,(Rd.new a.rest).O) 192 #[(Pt j 0)] (DP j a.rest (some (4,n,true,z))) (λW f=>A▸eQ a.rest j (Ps.rest_len g) f) (λv2 V2 s2 L D=>?_))));obtain⟨rfl,rfl⟩:=D;refine zq 7 (zn (zs (zQ 1 (eO 0 (x:=(j,(hdR a.rest (some (4,n,true,z))).O)) (λW f=>iS (⟨a.rest,z,-1,0,0⟩:Rd) j (f.eqv kR)) (λv3 V3 s3 M E=>?_)))));obtain⟨rfl,rfl⟩:=E;refine zq 5 (zn (zQ 2 (zn (cU (zk (zs (aB (zQ 15 (zn (cU (zQ 3 (zn (dY (decide (((d+1:Nat):Int)<1)) hd1 ?_)))))))))))));refine zQ 3 (zn (cU (zQ 3 (zn (cU (zk (zQ 1 (eO 1 (λW f=>eC a p g f) (λv4 V4 s4 N F=>?_)))))))));obtain⟨u,rfl,rfl⟩:=F;refine zq 1 (zn (zQ 1 (eO 0 (λW f=>SM a.rest u n z A (Ps.rest_len g) f) (λv5 V5 s5 O G=>?_))));obtain⟨rfl,rfl⟩:=G;refine zq 1 (zn (zs (zQ 1 (eO 0 (x:=(u,(⟨a.rest,z,-1,0,0⟩:Rd).O)) (λW f=>iS (⟨a.rest,z,-1,0,0⟩:Rd) u (f.eqv kR)) (λv6 V6 s6 V I=>?_)))));obtain⟨rfl,rfl⟩:=I;refine zq 5 (zn (zQ 2 (zn (cU (zk (zs ?_))))));refine gI 3 [0,0,0,4,0,1] [(p,1)] [.val (I6 (z:Int))] ⟨?_,trivial⟩ ?_
 ·exact vC 194 #[(Pt u 0)] (λW f=>Dq (⟨a.rest,z,-1,0,0⟩:Rd) u 0 f kR)
 refine zq 1 (dH 111 ((a.at_:Int)+(z:Int)) (zq 2 (aX 1 p (zn (zQ 3 (eO 1 (x:=(bK p [(St a.b),(I6 ((a.at_:Int)+(z:Int))),(I6 a.e)] 208)) (λW f=>YU d Z hI (⟨a.b,a.at_+z,a.e⟩:Ps) p a6 he (f.eqv kR)) (λv7 V7 s7 X J=>?_)))))));obtain⟨t7,b4,b2,rfl,r,rfl,Y,b1⟩:=J;obtain⟨a7,c7,rfl,b3,b7,b9,b5⟩:=r.form;refine aX 3 b0 (zn (aA (dW [4] [(b0,5)] [(tV t7 a7 c7)] (λW' f=>?_))));rw[a1];exact fN 0 4 _ f (View.le_trans (View.le_trans (View.le_trans (View.le_trans (View.le_trans (View.le_trans K L) M) N) O) V) X) (JG ⟨t7,_,b2,rfl,r,rfl,Y,b1⟩)
theorem Iv(a:Ps)(p:Nat)(d n z:Nat)(g:a.ok)(he:a.e=0)(A:hdF a.rest=some (4,n,false,z))(hn:n<=1000)(Z:d<=1000)(hI:BI d){W0:Cx}{U:View}{h:aH}{W:World}(f:Mem W0 U ([(p,a.O)]++h) W):CP 146 #[.pointer (some ⟨p,0,none⟩),.int .i64 ((d+1:Nat):Int)] W (gX W0 U h (BL p a (itF (d+1) a.rest))):=by
 have b7:=g.le;have k:=g.len;unfold R47 at k;have b9:a.rest.length=a.b.length-a.at_:=N8;have hd1:decide (((d+1:Nat):Int)<1)=false:=P0 oW;have hz:=eT A;have a6:decide ((n:Int)>1000)=false:=P0 oW;have a8:(⟨a.b,a.at_+z,a.e⟩:Ps).ok:=⟨by show a.at_+z<=a.b.length;omega,g.len⟩;have b1:(⟨a.b,a.at_+z,a.e⟩:Ps).rest=a.rest.drop z:=by unfold Ps.rest;rw[T3]
 have a1:itF (d+1) a.rest=lZ false z (iJ (itF d) n 0 (⟨a.b,a.at_+z,a.e⟩:Ps).rest):=by rw[b1,itF,A];simp only[Nat.reduceEqDiff,if_false,if_true,N9,hn];rfl
 have B:Mem W0 U ([(bK p [(St a.b),(I6 (a.at_:Int)),(I6 a.e)] 208)]++h) W:=f.eqv kR;refine fB 118 Tryz.func146 B ?_;refine zs (zr (dB 1 (λb0=>?_)));refine zn (zQ 1 (eO 0 (λW f=>eC a p g f) (λv1 V1 s1 K C=>?_)));obtain⟨j,rfl,rfl⟩:=C;refine zq 1 (zn (zQ 1 (jY 0 (j,(Rd.new a.rest).O) 192 #[(Pt j 0)] (DP j a.rest (some (4,n,false,z))) (λW f=>A▸eQ a.rest j (Ps.rest_len g) f) (λv2 V2 s2 L D=>?_))));obtain⟨rfl,rfl⟩:=D;refine zq 7 (zn (zs (zQ 1 (eO 0 (x:=(j,(hdR a.rest (some (4,n,false,z))).O)) (λW f=>iS (⟨a.rest,z,-1,0,0⟩:Rd) j (f.eqv kR)) (λv3 V3 s3 M E=>?_)))));obtain⟨rfl,rfl⟩:=E;refine zq 5 (zn (zQ 2 (zn (cU (zk (zs (aB (zQ 15 (zn (cU (zQ 3 (zn (dY (decide (((d+1:Nat):Int)<1)) hd1 ?_)))))))))))));refine zQ 3 (zn (cU (zQ 3 (zn (cU (zk (zQ 1 (eO 1 (λW f=>eC a p g f) (λv4 V4 s4 N F=>?_)))))))));obtain⟨u,rfl,rfl⟩:=F;refine zq 1 (zn (zQ 1 (eO 0 (λW f=>Ww a.rest u n z A (Ps.rest_len g) a6 f) (λv5 V5 s5 O G=>?_))));obtain⟨rfl,rfl⟩:=G;refine zq 1 (zn (zs (zQ 1 (eO 0 (x:=(u,(⟨a.rest,z,-1,0,0⟩:Rd).O)) (λW f=>iS (⟨a.rest,z,-1,0,0⟩:Rd) u (f.eqv kR)) (λv6 V6 s6 V I=>?_)))));obtain⟨rfl,rfl⟩:=I;refine zq 5 (zn (zQ 2 (zn (cU (zk (zs ?_))))));refine gI 3 [0,0,0,4,0,1] [(p,1)] [.val (I6 (z:Int))] ⟨?_,trivial⟩ ?_
 ·exact vC 194 #[(Pt u 0)] (λW f=>Dq (⟨a.rest,z,-1,0,0⟩:Rd) u 0 f kR)
 refine zq 1 (dH 111 ((a.at_:Int)+(z:Int)) (zq 2 (aX 1 p (zn (zQ 3 (eO 1 (x:=(bK p [(St a.b),(I6 ((a.at_:Int)+(z:Int))),(I6 a.e)] 208)) (λW f=>PC d n hn Z hI (⟨a.b,a.at_+z,a.e⟩:Ps) p a8 he (f.eqv kR)) (λv7 V7 s7 X J=>?_)))))));obtain⟨t7,b5,b3,rfl,r,rfl,Y,b2⟩:=J;obtain⟨a7,c7,rfl,b4,b8,c0,b6⟩:=r.form;refine aX 3 b0 (zn (aA (dW [4] [(b0,5)] [(tV t7 a7 c7)] (λW' f=>?_))));rw[a1];exact fN 0 4 _ f (View.le_trans (View.le_trans (View.le_trans (View.le_trans (View.le_trans (View.le_trans K L) M) N) O) V) X) (JG ⟨t7,_,b3,rfl,r,rfl,Y,b2⟩)
theorem Vm(a:Ps)(p:Nat)(d n z:Nat)(h:a.ok)(he:a.e=0)(r:hdF a.rest=some (4,n,false,z))(hn:¬n<=1000){W0:Cx}{U:View}{g:aH}{W:World}(f:Mem W0 U ([(p,a.O)]++g) W):CP 146 #[.pointer (some ⟨p,0,none⟩),.int .i64 ((d+1:Nat):Int)] W (gX W0 U g (BL p a (itF (d+1) a.rest))):=by
 have a1:=h.le;have k:=h.len;unfold R47 at k;have a6:a.rest.length=a.b.length-a.at_:=N8;have hd1:decide (((d+1:Nat):Int)<1)=false:=P0 oW;have hz:=eT r;have X:decide ((n:Int)>1000)=true:=R4 oW;have V:itF (d+1) a.rest=none:=by rw[itF,r];simp only[Nat.reduceEqDiff,if_false,if_true,N9,hn]
 have u:Mem W0 U ([(bK p [(St a.b),(I6 (a.at_:Int)),(I6 a.e)] 208)]++g) W:=f.eqv kR;refine fB 118 Tryz.func146 u ?_;refine zs (zr (dB 1 (λZ=>?_)));refine zn (zQ 1 (eO 0 (λW f=>eC a p h f) (λv1 V1 s1 I A=>?_)));obtain⟨j,rfl,rfl⟩:=A;refine zq 1 (zn (zQ 1 (jY 0 (j,(Rd.new a.rest).O) 192 #[(Pt j 0)] (DP j a.rest (some (4,n,false,z))) (λW f=>r▸eQ a.rest j (Ps.rest_len h) f) (λv2 V2 s2 J B=>?_))));obtain⟨rfl,rfl⟩:=B;refine zq 7 (zn (zs (zQ 1 (eO 0 (x:=(j,(hdR a.rest (some (4,n,false,z))).O)) (λW f=>iS (⟨a.rest,z,-1,0,0⟩:Rd) j (f.eqv kR)) (λv3 V3 s3 K C=>?_)))));obtain⟨rfl,rfl⟩:=C;refine zq 5 (zn (zQ 2 (zn (cU (zk (zs (aB (zQ 15 (zn (cU (zQ 3 (zn (dY (decide (((d+1:Nat):Int)<1)) hd1 ?_)))))))))))));refine zQ 3 (zn (cU (zQ 3 (zn (cU (zk (zQ 1 (eO 1 (λW f=>eC a p h f) (λv4 V4 s4 L D=>?_)))))))));obtain⟨Y,rfl,rfl⟩:=D;refine zq 1 (zn (zQ 1 (eO 0 (λW f=>SN a.rest Y n z r (Ps.rest_len h) X f) (λv5 V5 s5 M E=>?_))));obtain⟨rfl,rfl⟩:=E;refine zq 1 (zn (zs (zQ 1 (eO 0 (x:=(Y,(⟨a.rest,0,0,4,0⟩:Rd).O)) (λW f=>iS (⟨a.rest,0,0,4,0⟩:Rd) Y (f.eqv kR)) (λv6 V6 s6 N F=>?_)))));obtain⟨rfl,rfl⟩:=F;refine zq 5 (zn (zQ 2 (zn (dM (zB [0,0,0,0,2,0] [(p,1)] (eO 1 (x:=(bK p [(St a.b),(I6 (a.at_:Int)),(I6 a.e)] 208)) (λW f=>lC a p a.at_ 4 (f.eqv kR)) (λv7 V7 s7 O G=>?_)))))));obtain⟨rfl,rfl⟩:=G;refine aX 3 Z (zn (aA (dW [4] [(Z,5)] [(.agg #[(I6 0),(U6 0),(St []),S0,qF])] (λW' f=>?_))));rw[V];exact fN 0 4 _ f (View.le_trans (View.le_trans (View.le_trans (View.le_trans (View.le_trans (View.le_trans I J) K) L) M) N) O) (oZ (at_:=a.at_) (e:=4) he (by decide))
theorem Wn:∀d,d<=1000->BI d:=by
 intro d C
 induction d with
 |zero=>
  intro a p h g W0 U k W f;cases j:hdF a.rest with
  |none=>exact Vn a p 0 h g j f
  |some q=>
   obtain⟨m,n,o,z⟩:=q;exact Vp a p m n z o h g j f
 |succ d ih=>
  intro a p h g W0 U k W f;cases j:hdF a.rest with
  |none=>exact Vn a p (d+1) h g j f
  |some q=>
   obtain⟨m,n,o,z⟩:=q;by_cases r:m=0
   ·subst r;exact Om a p d n z o h g j f
   ·by_cases B:m=2\/m=3
    ·exact On a p d m n z o h g B j f
    ·by_cases u:m=4
     ·subst u;cases o with
      |true=>exact Vo a p d n z h g j oW (ih oW) f
      |false=>
       by_cases A:n<=1000
       ·exact Iv a p d n z h g j A oW (ih oW) f
       ·exact Vm a p d n z h g j A f
     ·exact ZJ a p (d+1) m n z o h g j r oW oW u f
def oC(b:List UInt8):Option Itm.Tr:=match itF 8 b with
 |some (t,k)=>if k=b.length then some t else none
 |none=>none
def Hx(x:Option Itm.Tr)(v:Value)(V:View):Prop:=match x with
 |some t=>∃cs,v=.tuple #[.agg cs.toArray,.int .i64 (-1),.int .i64 0]/\TV V t cs
 |none=>∃n e,v=.tuple #[itZ,.int .i64 n,.int .i64 e]/\e≠0
theorem SR{b:List UInt8}{t:Itm.Tr}{ps':Ps}(a:match itF 8 b with
 |some (f,k)=>t=f/\ps'.at_=0+k/\ps'.e=0
 |none=>ps'.e≠0):(ps'.e≠0->oC b=none)/\(ps'.e=0->ps'.at_<=b.length/\(ps'.at_<b.length->oC b=none)/\(¬ps'.at_<b.length->oC b=some t)):=by
 unfold oC;cases d:itF 8 b with
 |none=>
  rw[d]at a;exact⟨λ_=>rfl,λh=>absurd h a⟩
 |some q=>
  obtain⟨f,k⟩:=q;rw[d]at a;simp only at a;obtain⟨rfl,j,g⟩:=a;have r:=gU 8 b _ _ d;refine⟨λh=>absurd g h,λ_=>⟨by omega,λh=>?_,λh=>?_⟩⟩
  ·simp only;rw[M5 oW]
  ·simp only;rw[N1 oW]
theorem YV(a:Ps)(p at_:Nat)(e:Int)(h:(a.e==0)=true){W0:Cx}{U:View}{d:aH}{W:World}(g:Mem W0 U ([(p,a.O)]++d) W):CP 147 #[.pointer (some ⟨p,0,none⟩),.int .i64 (at_:Int),.int .i64 e] W (gX W0 U d λv _ σ'=>v=itZ/\σ'=[(p,(⟨a.b,at_,e⟩:Ps).O)]):=by
 have f:=lC a p at_ e g;rw[show a.fail at_ e=⟨a.b,at_,e⟩from by unfold Ps.fail;rw[N1 h]]at f;exact f
theorem KC(b:List UInt8)(w:World){U:View}(hU:See U w)(hb:b.length<=R47):CP 97 #[.string (B b)] w (fV w U (Hx (oC b))):=by
 have F:=hb;unfold R47 at F;refine dC 47 Tryz.func97 hU ?_;refine zs (zr (aW (λj=>(zq 2 (zn (zQ 2 (aW (λd=>(zq 1 (zn (zQ 1 (jY 1 (bK d [(St b),(I6 0),(I6 0)] 208) 146 #[(Pt d 0),(I6 8)] (BL d ⟨b,0,0⟩ (itF 8 (Ps.rest ⟨b,0,0⟩))) (λW r=>Wn 8 (by decide) ⟨b,0,0⟩ d ⟨M8 _,hb⟩ rfl (r.eqv kR)) (λv2 V2 s2 f k=>?_)))))))))))));obtain⟨t2,b2,a,rfl,I,rfl,b5,Z⟩:=k;obtain⟨J,K,rfl,a7,b7,b8,b6⟩:=I.form;have k:=SR (b:=b) (ps':=a) Z;refine aW (λD=>(aX 2 D (zn (zs (zB [0,0,0,1,0,0] [(d,1)] (jZ 17 a.e 0 (λC b4=>?_) (λC _=>?_)))))))
 ·refine cF [0,0,0,1,0,0,0,0] [(d,1)] (zn (aZ ((a.at_:Int)<(((b).length:Nat):Int)) (λL M=>?_) (λL M=>?_)))
  ·refine zr (cF [0,0,0,0,1] [(d,1)] (jY 0 (bK d [(St a.b),(I6 (a.at_:Int)),(I6 a.e)] 208) 147 #[(Pt d 0),(I6 (a.at_:Int)),(I6 2)] (λv _ a1=>v=itZ/\a1=[(d,(⟨a.b,a.at_,2⟩:Ps).O)]) (λW r=>(YV a d a.at_ 2 C (r.eqv kR))) (λv4 V4 s4 O N=>?_)));obtain⟨rfl,rfl⟩:=N;refine zn (zs (zB [0,0,0,1,0] [(d,1)] (zn (dM (zs ?_)))));refine EP 11 1 0 [37,38,39,40,41,42,43,44,45,0,3] [.val (.agg #[(I6 0),(U6 0),(St []),S0,qF]),.val (Pt d 0),.val (Pt d 0),.val (Pt d 1),.val (I6 (a.at_:Int)),.val (Pt d 0),.val (Pt d 0),.val (Pt d 2),.val (I6 2),.mem (λ_ _=>True),.val (I6 (a.at_:Int))] 9 [(bK d [(St a.b),(I6 (a.at_:Int)),(I6 2)] 208),(j,.cells [(I6 0),(U6 0),(St []),S0,qF].toArray 136 (0,0)),(bK D (tC t2 J K) 136)] kR rfl rfl kR kR kR kR kR kR (by simp only[O4];refine⟨?_,?_,?_,?_,?_,?_,?_,?_,?_,?_,?_,λ_ h=>by cases h⟩<;>first|trivial|(intro v V V2 f A;(first|trivial|exact PhiMono.go A f|(obtain⟨g,e,A⟩:=A;exact⟨g,e,A.le f⟩)))) kR (show(9:Nat)<11 by decide) rfl ⟨?_,?_,?_,?_,?_,?_,?_,?_,?_,?_,?_,trivial⟩ [2,3,4,6,45] (λu=>[(Pt j 0),(I6 (a.at_:Int)),(I6 0),(Pt D 0),(I6 2)]) kF ?_
   ·exact ObS.o 0 (show(0:Nat)≠9 by decide) (oqQ 0 rfl (.agg #[(I6 0),(U6 0),(St []),S0,qF]) (.agg #[(I6 0),(U6 0),(St []),S0,qF]) rfl rfl kF kF) (oqQ 0 rfl (.agg #[(I6 0),(U6 0),(St []),S0,qF]) (.agg #[(I6 0),(U6 0),(St []),S0,qF]) rfl rfl kF kF)
   ·exact ObS.o 1 (show(1:Nat)≠9 by decide) (oqQ 1 rfl (Pt d 0) (Pt d 0) rfl rfl kF kF) (oqQ 1 rfl (Pt d 0) (Pt d 0) rfl rfl kF kF)
   ·exact ObS.o 2 (show(2:Nat)≠9 by decide) (oqQ 2 rfl (Pt d 0) (Pt d 0) rfl rfl kF kF) (oqQ 2 rfl (Pt d 0) (Pt d 0) rfl rfl kF kF)
   ·exact ObS.o 3 (show(3:Nat)≠9 by decide) (oqQ 3 rfl (Pt d 1) (Pt d 1) rfl rfl kF kF) (oqQ 3 rfl (Pt d 1) (Pt d 1) rfl rfl kF kF)
   ·exact ObS.o 4 (show(4:Nat)≠9 by decide) (oqL 4 0 d 1 [(St a.b),(I6 (a.at_:Int)),(I6 2)] 208 rfl (I6 (a.at_:Int)) rfl kR kF kF) (oqL 4 0 d 1 [(St a.b),(I6 (a.at_:Int)),(I6 2)] 208 rfl (I6 (a.at_:Int)) rfl kR kF kF)
   ·exact ObS.o 5 (show(5:Nat)≠9 by decide) (oqQ 5 rfl (Pt d 0) (Pt d 0) rfl rfl kF kF) (oqQ 5 rfl (Pt d 0) (Pt d 0) rfl rfl kF kF)
   ·exact ObS.o 6 (show(6:Nat)≠9 by decide) (oqQ 6 rfl (Pt d 0) (Pt d 0) rfl rfl kF kF) (oqQ 6 rfl (Pt d 0) (Pt d 0) rfl rfl kF kF)
   ·exact ObS.o 7 (show(7:Nat)≠9 by decide) (oqQ 7 rfl (Pt d 2) (Pt d 2) rfl rfl kF kF) (oqQ 7 rfl (Pt d 2) (Pt d 2) rfl rfl kF kF)
   ·exact ObS.o 8 (show(8:Nat)≠9 by decide) (oqL 8 0 d 1 [(St a.b),(I6 (a.at_:Int)),(I6 2)] 208 rfl (I6 2) rfl kR kF kF) (oqL 8 0 d 1 [(St a.b),(I6 (a.at_:Int)),(I6 2)] 208 rfl (I6 2) rfl kR kF kF)
   ·exact ObS.st 1 j (.cells [(I6 0),(U6 0),(St []),S0,qF].toArray 136 (0,0)) rfl rfl rfl [2,37] (λu=>[(Pt j 0),(.agg #[(I6 0),(U6 0),(St []),S0,qF])]) kF kF kR
   ·exact ObS.o 10 (show(10:Nat)≠9 by decide) (oqQ 10 rfl (I6 (a.at_:Int)) (I6 (a.at_:Int)) rfl rfl kF kF) (oqQ 10 rfl (I6 (a.at_:Int)) (I6 (a.at_:Int)) rfl rfl kF kF)
   intro u7 V7 X a6;refine zq 1 (zn (aA (dW [2,0,0] [(j,5)] [(.agg #[(I6 0),(U6 0),(St []),S0,qF]),(I6 (a.at_:Int)),(I6 2)] (λW' r=>?_))));have G:=(k.2 (eq_of_beq C)).2.1 (by have:=P2 L;omega);rw[G];exact aJ r (View.le_trans (View.le_trans f O) X) ⟨_,_,rfl,by decide⟩
  ·refine zk (zs (zB [0,0,0,1,0] [(d,1)] (zn (dY (a.e !=0) (by rw[eq_of_beq C];rfl) ?_))));refine zk (zB [3] [(D,5)] (aX 1 j (zq 2 (zn (aA (dW [2,0,0] [(j,5)] [(tV t2 J K),(I6 (-1)),(I6 0)] (λW' r=>?_)))))));have G:=(k.2 (eq_of_beq C)).2.2 (by have:=O5 L;omega);rw[G];exact aJ r f ⟨_,rfl,I⟩
 ·refine zq 8 (zn (cU (zk (zs (zB [0,0,0,1,0] [(d,1)] (zn (jG (a.e !=0) (Q0.2 (M2.1 C)) ?_)))))));refine zs ?_;refine EP 11 1 0 [37,38,39,40,41,42,43,44,45,0,3] [.val (.agg #[(I6 0),(U6 0),(St []),S0,qF]),.val (Pt d 0),.val (Pt d 0),.val (Pt d 1),.val (I6 (a.at_:Int)),.val (Pt d 0),.val (Pt d 0),.val (Pt d 2),.val (I6 a.e),.mem (λ_ _=>True),.val (I6 (a.at_:Int))] 9 [(bK d [(St a.b),(I6 (a.at_:Int)),(I6 a.e)] 208),(j,.cells [(I6 0),(U6 0),(St []),S0,qF].toArray 136 (0,0)),(bK D (tC t2 J K) 136)] kR rfl rfl kR kR kR kR kR kR (by simp only[O4];refine⟨?_,?_,?_,?_,?_,?_,?_,?_,?_,?_,?_,λ_ h=>by cases h⟩<;>first|trivial|(intro v V V2 f A;(first|trivial|exact PhiMono.go A f|(obtain⟨g,e,A⟩:=A;exact⟨g,e,A.le f⟩)))) kR (show(9:Nat)<11 by decide) rfl ⟨?_,?_,?_,?_,?_,?_,?_,?_,?_,?_,?_,trivial⟩ [2,3,4,6,45] (λu=>[(Pt j 0),(I6 (a.at_:Int)),(I6 0),(Pt D 0),(I6 a.e)]) kF ?_
  ·exact ObS.o 0 (show(0:Nat)≠9 by decide) (oqQ 0 rfl (.agg #[(I6 0),(U6 0),(St []),S0,qF]) (.agg #[(I6 0),(U6 0),(St []),S0,qF]) rfl rfl kF kF) (oqQ 0 rfl (.agg #[(I6 0),(U6 0),(St []),S0,qF]) (.agg #[(I6 0),(U6 0),(St []),S0,qF]) rfl rfl kF kF)
  ·exact ObS.o 1 (show(1:Nat)≠9 by decide) (oqQ 1 rfl (Pt d 0) (Pt d 0) rfl rfl kF kF) (oqQ 1 rfl (Pt d 0) (Pt d 0) rfl rfl kF kF)
  ·exact ObS.o 2 (show(2:Nat)≠9 by decide) (oqQ 2 rfl (Pt d 0) (Pt d 0) rfl rfl kF kF) (oqQ 2 rfl (Pt d 0) (Pt d 0) rfl rfl kF kF)
  ·exact ObS.o 3 (show(3:Nat)≠9 by decide) (oqQ 3 rfl (Pt d 1) (Pt d 1) rfl rfl kF kF) (oqQ 3 rfl (Pt d 1) (Pt d 1) rfl rfl kF kF)
  ·exact ObS.o 4 (show(4:Nat)≠9 by decide) (oqL 4 0 d 1 [(St a.b),(I6 (a.at_:Int)),(I6 a.e)] 208 rfl (I6 (a.at_:Int)) rfl kR kF kF) (oqL 4 0 d 1 [(St a.b),(I6 (a.at_:Int)),(I6 a.e)] 208 rfl (I6 (a.at_:Int)) rfl kR kF kF)
  ·exact ObS.o 5 (show(5:Nat)≠9 by decide) (oqQ 5 rfl (Pt d 0) (Pt d 0) rfl rfl kF kF) (oqQ 5 rfl (Pt d 0) (Pt d 0) rfl rfl kF kF)
  ·exact ObS.o 6 (show(6:Nat)≠9 by decide) (oqQ 6 rfl (Pt d 0) (Pt d 0) rfl rfl kF kF) (oqQ 6 rfl (Pt d 0) (Pt d 0) rfl rfl kF kF)
  ·exact ObS.o 7 (show(7:Nat)≠9 by decide) (oqQ 7 rfl (Pt d 2) (Pt d 2) rfl rfl kF kF) (oqQ 7 rfl (Pt d 2) (Pt d 2) rfl rfl kF kF)
  ·exact ObS.o 8 (show(8:Nat)≠9 by decide) (oqL 8 0 d 1 [(St a.b),(I6 (a.at_:Int)),(I6 a.e)] 208 rfl (I6 a.e) rfl kR kF kF) (oqL 8 0 d 1 [(St a.b),(I6 (a.at_:Int)),(I6 a.e)] 208 rfl (I6 a.e) rfl kR kF kF)
  ·exact ObS.st 1 j (.cells [(I6 0),(U6 0),(St []),S0,qF].toArray 136 (0,0)) rfl rfl rfl [2,37] (λu=>[(Pt j 0),(.agg #[(I6 0),(U6 0),(St []),S0,qF])]) kF kF kR
  ·exact ObS.o 10 (show(10:Nat)≠9 by decide) (oqQ 10 rfl (I6 (a.at_:Int)) (I6 (a.at_:Int)) rfl rfl kF kF) (oqQ 10 rfl (I6 (a.at_:Int)) (I6 (a.at_:Int)) rfl rfl kF kF)
  intro b9 a8 E Y;refine zq 1 (zn (aA (dW [2,0,0] [(j,5)] [(.agg #[(I6 0),(U6 0),(St []),S0,qF]),(I6 (a.at_:Int)),(I6 a.e)] (λW' r=>?_))));have G:=k.1 (M2.1 C);rw[G];exact aJ r (View.le_trans f E) ⟨_,_,rfl,M2.1 C⟩
def As.zero:As:=⟨[],0,⟨0,[],0,0⟩,[],[]⟩
def Cb(x:Option As)(v:Value)(V:View):Prop:=match x with
 |some a=>∃a1 a2 a3 c1 c2 c3,v=.tuple #[asV a a1 a2 a3 c1 c2 c3,.int .i64 0]/\DR V a1 a2 a3 a/\a.t.length<=c1
 |none=>v=.tuple #[asV As.zero none none none 0 0 0,.int .i64 2]
theorem FL{a:As}{s:List UInt8}(ho:a.ok)(h:a.right=true)(hs:a.bytes=s):oC (([159]++s)++[255])=some (.mk 4 0 [] a.items true):=by
 subst hs;have d:=tE ho h;unfold oC;rw[show([159]++a.bytes)++[255]=159::(a.bytes++[255])from rfl,d];simp only[if_true]
theorem YQ{s:List UInt8}(h:oC (([159]++s)++[255])=none):dI s=none:=jU λa ho d hs=>by
 rw[FL ho d hs]at h;cases h
theorem YP{s:List UInt8}{t:Itm.Tr}(h:oC (([159]++s)++[255])=some t)(d:asR t.l=none):dI s=none:=jU λa ho f hs=>by
 rw[FL ho f hs]at h;obtain rfl:=N5 h;rw[show(Itm.Tr.mk 4 0 [] a.items true).l=a.items from rfl,rV f]at d;cases d
theorem YO{s:List UInt8}{t:Itm.Tr}{a:As}(h:oC (([159]++s)++[255])=some t)(d:asR t.l=some a){b:As}(ho:b.ok)(f:b.right=true)(hs:b.bytes=s):b=a:=by
 rw[FL ho f hs]at h;obtain rfl:=N5 h;rw[show(Itm.Tr.mk 4 0 [] b.items true).l=b.items from rfl,rV f]at d;exact N5 d
theorem JL{s:List UInt8}{t:Itm.Tr}{a:As}(h:oC (([159]++s)++[255])=some t)(g:asR t.l=some a)(d:a.right=false\/a.bytes≠s):dI s=none:=jU λb ho f hs=>by
 obtain rfl:=YO h g ho f hs;rcases d with d|d
 ·rw[d]at f;cases f
 ·exact d hs
theorem FK{b:List UInt8}{t:Itm.Tr}(h:oC b=some t):Cf t.l:=by
 unfold oC at h;split at h
 ·next d k a=>
  split at h
  ·obtain rfl:=N5 h;exact Vk a
  ·cases h
 ·cases h
theorem pN(u:Addr)(s:List UInt8)(w:World){U:View}(hU:See U w)(hE:EF U u)(hs:s.length<=100000000000):CP 59 #[.string (B s)] w (fV w U (Cb (dI s))):=by
 refine dC 43 Tryz.func59 hU ?_;refine zs (zr (aW (λj=>(zq 1 (zn (zs (zr (dN (λW a=>CD W) (zq 1 (cB (St ([159]++s)) (cE _ _ _ _ rfl [159] s kR kR oA) ?_))))))))));refine dN (λW a=>CC W) (cB (St (([159]++s)++[255])) (cE _ _ _ _ rfl ([159]++s) [255] kR kR oA) ?_);rcases N2 ((oC (([159]++s)++[255])).isSome)with h0|h0
 ·refine lU (λW a=>KC (([159]++s)++[255]) W a.view (by unfold R47;simp only[L4,M9,O8];omega)) (λv1 V1 d I=>?_);obtain⟨F,h⟩:=P4.1 h0;rw[h]at I;obtain⟨b6,rfl,b1⟩:=I;obtain⟨a1,c1,rfl,r,b9,c0,b7⟩:=b1.form;refine zq 4 (aW (λb2=>(aX 1 b2 (zq 2 (zn (zs (zQ 2 (zn (cU (zk (zB [0,2] [(b2,1)] ?_)))))))))));rcases N2 ((asR F.l).isSome)with h1|h1
  ·refine oI 99 #[(.slice a1 F.l.length c1)] (Hv u (asR F.l)) (λW a=>VG u F.l _ _ W a.view (hE.le d) r (FK h)) (λv3 V3 k J=>?_);obtain⟨f,E⟩:=P4.1 h1;rw[E]at J;obtain⟨x3,y3,z3,u3,v3,w3,rfl,g,N⟩:=J;have A:=g.t;have C:=g.p;have D:=g.r;refine zq 3 (aW (λY=>(aX 2 Y (zq 1 (zn (zs (zQ 1 (dN (λW a=>ZL u W a.view (hE.le (View.le_trans d k))) (cF [0,3] [(Y,8)] (cY 101 #[(asV f x3 y3 z3 u3 v3 w3)] (.bool (f.right)) (λW a=>KS f _ _ _ _ _ _ W a.view ⟨A,C,D,g.s⟩ N) ?_))))))))));refine zq 3 (cN 35 (!(f.right)) (λZ=>?_) (λZ=>?_))
   ·refine zq 5 (zn (dM (zQ 1 (aX 0 j (zq 1 (zn (aA (dW [1,0] [(j,8)] [(.agg Z8.toArray),(I6 2)] (λX a=>?_)))))))));rw[JL h E (.inl (by simpa using Z))];exact aJ a (View.le_trans d k) rfl
   ·refine cF [3] [(Y,8)] (cY 102 #[(asV f x3 y3 z3 u3 v3 w3)] (St (f.bytes)) (λW a=>NG f _ _ _ _ _ _ W a.view ⟨A,C,D,g.s⟩ (As.shaped (by simpa using Z))) ?_);refine zq 1 (cB (.bool (!((f.bytes)==s))) (mI _ _ _ _ rfl (f.bytes) s kR kR) ?_);refine zq 1 (zn (gK (!((f.bytes)==s)) (λh3=>?_) (λh3=>?_)))
    ·refine zQ 1 (aX 0 j (zq 1 (zn (aA (dW [1,0] [(j,8)] [(.agg Z8.toArray),(I6 2)] (λX a=>?_))))));rw[JL h E (.inr (by simpa using h3))];exact aJ a (View.le_trans d k) rfl
    ·refine zk (zB [3] [(Y,8)] (aX 0 j (zq 1 (zn (aA (dW [1,0] [(j,8)] [(asV f x3 y3 z3 u3 v3 w3),(I6 0)] (λX a=>?_)))))));have G:DR _ _ _ _ f:=⟨A,C,D,g.s⟩;have a8:f.bytes=s:=by simpa using h3
     have hz:=tF G.ok (show f.right=true by simpa using Z);rw[a8]at hz;rw[hz];exact aJ a (View.le_trans d k) ⟨_,_,_,_,_,_,rfl,G,N⟩
  ·refine oI 99 #[(.slice a1 F.l.length c1)] (Hv u (asR F.l)) (λW a=>VG u F.l _ _ W a.view (hE.le d) r (FK h)) (λv6 V6 M K=>?_);have O:=Q6.1 (by rw[h1];exact M3);rw[O]at K;obtain⟨c2,c9,c4,c6,e4,c7,c8,e0,e1,e2,e3,e5,e6,e7,b4,rfl⟩:=K;refine zq 3 (aW (λb8=>(aX 2 b8 (zq 1 (zn (zs (zQ 1 (dN (λW a=>Vi u b4 W a.view (hE.le (View.le_trans d M))) (zq 11 (zn (dM (zQ 1 (aX 0 j (zq 1 (zn (aA (dW [1,0] [(j,8)] [(.agg Z8.toArray),(I6 2)] (λX a=>?_))))))))))))))))));rw[YP h O];exact aJ a (View.le_trans d M) rfl
 ·refine lU (λW a=>KC (([159]++s)++[255]) W a.view (by unfold R47;simp only[L4,M9,O8];omega)) (λv9 V9 a7 L=>?_);have V:=Q6.1 (by rw[h0];exact M3);rw[V]at L;obtain⟨n9,e9,rfl,b3⟩:=L;refine zq 4 (aW (λa6=>(aX 1 a6 (zq 2 (zn (zs (zQ 2 (zn (jG (e9 !=0) (Q0.2 b3) ?_)))))))));refine zQ 1 (aX 0 j (zq 1 (zn (aA (dW [1,0] [(j,8)] [(.agg Z8.toArray),(I6 2)] (λX a=>?_))))));rw[YQ V];exact aJ a a7 rfl
theorem Zo(x:Op)(d a:Int)(h j:Nat)(w:World){U:View}(u:See U w)(A:U ⟨h,0,none⟩=some (.int .i64 d))(B:U ⟨j,0,none⟩=some (.int .i64 a)):CP 95 #[x.V,.pointer (some ⟨h,0,none⟩),.pointer (some ⟨j,0,none⟩)] w (Ret (.bool (x.k==d&&x.t==a)) w):=by
 refine dC 15 Tryz.func95 u ?_;refine zs (zr (aW (λk=>(zq 1 (zn (zB [0,1] [(k,1)] (zV h (0) (I6 d) A 3 (.tmp 1) _ Tryz.underlying3 rfl ?_)))))));refine zq 2 (cN 9 (x.k==d) (λf=>?_) (λf=>?_))
 ·refine cF [0,1] [(k,1)] (zV j (0) (I6 a) B 3 (.tmp 2) _ Tryz.underlying3 rfl ?_);refine zq 3 (zn (aA (aO [4] [(.bool (x.t==a))] (λr g=>?_))));exact⟨by simp only[dD,f,bs,bQ,reduceIte],g.below⟩
 ·refine zq 6 (zn (aA (aO [4] [qF] (λr g=>?_))));exact⟨by simp only[dD,f,bs,bQ,reduceIte],g.below⟩
def HO(kind target:Int):Nat->List Op->Int
 |_,[]=> -1
 |i,x::r=>if x.k==kind&&x.t==target then(i:Int)else HO kind target (i+1) r
theorem KR{d a:Int}{l:List Op}{i:Nat}{y:Op}(h:l[i]? =some y):HO d a i (l.drop i)=if y.k==d&&y.t==a then(i:Int)else HO d a (i+1) (l.drop (i+1)):=by
 rw[dS h,HO]
theorem QN(d a:Int):∀(i:Nat) (l:List Op),decide (HO d a i l≥0)=dE l d a
 |_,[]=>rfl
 |i,x::r=>by
  have f:=QN d a (i+1) r;unfold dE at f ⊢;rw[HO,Z7];cases x.k==d&&x.t==a with
  |true=>simp
  |false=>simpa using f
theorem Td(l:List Op)(a:Option Addr)(c:Nat)(f d:Int)(u A:Nat)(w:World){U:View}(M:See U w)(I:fJ OpR 3 U a l)(N:U ⟨u,0,none⟩=some (.int .i64 f))(O:U ⟨A,0,none⟩=some (.int .i64 d)):
    CP 145 #[.slice a l.length c,.func (.func 95) #[] #[.pointer (some ⟨u,0,none⟩),.pointer (some ⟨A,0,none⟩)]] w (Ret (.int .i64 (HO f d 0 l)) w):=by
 have r:=I.len;unfold R47 at r;refine dC 19 Tryz.func145 M ?_;refine zQ 1 (zn (zs (zQ 3 (zn (aB (eF (α:=Nat) (λx=>[0,1,4,7,8].zip [(.slice a l.length c),(.func (.func 95) #[] #[(Pt u 0),(Pt A 0)]),(I6 0),(L6 l.length),(L6 x)]) (λx=>U) (λx=>[]) (λx=>x<=l.length/\HO f d x (l.drop x)=HO f d 0 l) (λx=>l.length-x) 0 ?_ ?_))))))
 ·exact⟨M8 _,rfl⟩
 intro x V;obtain⟨X,g⟩:=V;refine zQ 1 (zn (zs (aZ ((x:Int)<(l.length:Int)) (λL D=>?_) (λL D=>?_))))
 ·refine zk (zs (aB (zQ 2 (zn (zQ 3 ?_)))));obtain⟨j,h⟩:∃y,(l)[x]? =some y:=⟨(l)[x]'oW,K8 _⟩;obtain⟨B,C,K,rfl,G,F⟩:=I.at_ x j h;obtain rfl:=F;refine cB (Pt B (C+x*3)) (rIx 71 rfl B C l.length c x 3) ?_;refine zU B (C+x*3) [(I6 j.k),(I6 j.n),(I6 j.t)] G 71 (.tmp 14) _ Tryz.underlying71 rfl ?_;refine dN (λW k=>Zo j f d u A W k.view N O) (zn (gK (j.k==f&&j.t==d) (λE=>?_) (λE=>?_)))
  ·refine zQ 2 (zn (aA (aO [4] [(L6 x)] (λJ k=>?_))));refine⟨?_,k.below⟩;rw[<-g,KR h,N1 E];rfl
  ·refine zk (zr (zq 1 (dH 18 ((x:Int)+1) (zq 1 (zn ?_)))));refine nx (x+1) ?_ ?_
   ·exact⟨by omega,by rw[<-g,KR h,E];rfl⟩
   ·show l.length-(x+1)<l.length-x;omega
 ·refine aI (zQ 1 (zn (aA (aO [4] [(I6 (-1))] (λJ k=>?_)))));refine⟨?_,k.below⟩;rw[<-g,cZ oW];rfl
theorem Tc(l:List Op)(a:Option Addr)(c:Nat)(f d:Int)(g h:Nat)(w:World){U:View}(k:See U w)(u:fJ OpR 3 U a l)(r:U ⟨g,0,none⟩=some (.int .i64 f))(A:U ⟨h,0,none⟩=some (.int .i64 d)):
    CP 94 #[.slice a l.length c,.func (.func 95) #[] #[.pointer (some ⟨g,0,none⟩),.pointer (some ⟨h,0,none⟩)]] w (Ret (.bool (dE l f d)) w):=by
 refine dC 9 Tryz.func94 k ?_;refine zQ 1 (zn (zQ 2 (cY 145 #[(.slice a l.length c),(.func (.func 95) #[] #[(Pt g 0),(Pt h 0)])] (I6 (HO f d 0 l)) (λW j=>Td l _ _ f d g h W j.view u r A) ?_)));refine zq 2 (zn (aA (aO [4] [(.bool (decide ((HO f d 0 l)≥0)))] (λB j=>?_))));exact⟨by rw[<-QN f d 0 l];rfl,j.below⟩
theorem Te(l:List Op)(a:Option Addr)(c:Nat)(f d:Int)(w:World){U:View}(B:See U w)(C:fJ OpR 3 U a l):CP 52 #[.slice a l.length c,.int .i64 f,.int .i64 d] w (Ret (.bool (dE l f d)) w):=by
 refine dC 10 Tryz.func52 B ?_;refine zs (zr (aW (λj=>(aW (λh=>(zq 1 (zn (zQ 2 ?_))))))));refine eY [] [(bK h [(I6 d)] 3)] j [(I6 f)] 3 kR (λF u k=>?_);have D:=C.le u;refine eY [] [] h [(I6 d)] 3 kR (λG g r=>?_);have E:=D.le g;refine cY 94 #[(.slice a l.length c),(.func (.func 95) #[] #[(Pt j 0),(Pt h 0)])] (.bool (dE l f d)) (λW A=>Tc l _ _ f d j h W A.view E ((View.range_le g k) 0 _ rfl) (r 0 _ rfl)) ?_;refine zq 1 (zn (aA (gC 6)))
structure Go_ where
 i:Nat
 r:Rw
 xs:List Value
 m:Nat
 L:List (Op×List Value)
 V:View
def lM(pre:List Op):Option (List Op)->Option (List Op)
 |none=>none
 |some q=>some (pre++q)
theorem GP(o:Option (List Op)):lM [] o=o:=by cases o<;>rfl
theorem FO{g d f:Int}{out:Bk->Bool}{l:List Bk}{i:Nat}{y:Bk}(h:l[i]? =some y):fY g d f out (l.drop i)=if y.t !=g||out y then fY g d f out (l.drop (i+1))else match dI y.d with
  |none=>none
  |some a=>if a.c !=f then none else match fY g d f out (l.drop (i+1))with
   |none=>none
   |some r=>some (opsOf d y.n a.t++r):=by
 rw[dS h,fY];rfl
theorem rH{d a f:Int}{out:Bk->Bool}{l:List Bk}{i:Nat}{y:Bk}{pre:List Op}(h:l[i]? =some y)(hs:(y.t !=d||out y)=true):lM pre (fY d a f out (l.drop (i+1)))=lM pre (fY d a f out (l.drop i)):=by
 rw[FO h,N1 hs]
theorem AM{g d f:Int}{out:Bk->Bool}{l:List Bk}{i:Nat}{y:Bk}{pre:List Op}{a:As}(h:l[i]? =some y)(hs:(y.t !=g||out y)=false)(j:dI y.d=some a)(k:(a.c !=f)=false):lM (pre++opsOf d y.n a.t) (fY g d f out (l.drop (i+1)))=lM pre (fY g d f out (l.drop i)):=by
 rw[FO h,M5 (by rw[hs];exact M3),j];simp only;rw[M5 (by rw[k];exact M3)];cases fY g d f out (l.drop (i+1))with
 |none=>rfl
 |some r=>simp only[lM,M6]
theorem oD{j g d:Int}{out:Bk->Bool}{l:List Bk}{i:Nat}{y:Bk}(h:l[i]? =some y)(hs:(y.t !=j||out y)=false)(f:dI y.d=none\/∃a,dI y.d=some a/\(a.c !=d)=true):fY j g d out (l.drop i)=none:=by
 rw[FO h,M5 (by rw[hs];exact M3)];rcases f with f|⟨a,f,k⟩
 ·rw[f]
 ·rw[f];simp only;rw[N1 k]
theorem sF{pre:List Op}{o p:Option (List Op)}(h:lM pre o=p)(ho:o=none):p=none:=by rw[<-h,ho];rfl
theorem CB{pre:List Op}{p:Option (List Op)}(h:lM pre (some [])=p):p=some pre:=by rw[<-h];simp[lM]
theorem RwR.opAny{V V':View}{r:Rw}{a:List Value}{m:Nat}{L:List (Op×List Value)}(h:RwR OpR 3 V r a m L):RwR OpR 3 V' r a m L:=by
 have g:∀{L:List (Op×List Value)},sM OpR V L->sM OpR V' L:=by
  intro L
  induction L with
  |nil=>intro _;trivial
  |cons p r ih=>intro⟨d,f⟩;exact⟨d,ih f⟩
 exact⟨h.ok,h.xs,h.m,g h.all⟩
def NI(x:Option (List Op))(v:Value)(σ:aH):Prop:=match x with
 |some q=>∃r xs L,v=.tuple #[Rw.V r q.length,.int .i64 0]/\σ=Rw.B r 71 xs/\RwR OpR 3 View.no r xs q.length L/\L.map Prod.fst=q
 |none=>v=.tuple #[.slice none 0 0,.int .i64 2]/\σ=[]
theorem mJ{W0:Cx}{U V:View}{σ1 a ρ:aH}{Φ:Value->View->aH->Prop}{v:Value}{W':World}(f:Mem W0 V ((σ1++a)++ρ) W')(g:View.le U V)(h:Φ v V ρ):gX W0 U a Φ (.returned v) W':=by
 refine⟨v,V,ρ,rfl,g,?_,h⟩;have d:=f.perm Q2;exact d.sub (N4 (N7 _) (S2 _ _))
theorem oX{W0:Cx}{U V:View}{σ1 a ρ:aH}{Φ:Value->View->aH->Prop}{v:Value}{W':World}(f:Mem W0 V ((σ1++a)++ρ) W')(g:View.le U V)(h:Φ v V []):gX W0 U a Φ (.returned v) W':=by
 refine⟨v,V,[],rfl,g,?_,h⟩;have d:a.Sublist ((σ1++a)++ρ):=(S2 σ1 a).trans (M4 _ _);exact f.sub d
theorem Pn(x:Bk)(se:List Op)(a:Option Addr)(d h:Nat)(w:World){U:View}(r:See U w)(g:fJ OpR 3 U a se)(f:U ⟨h,0,none⟩=some (.slice a se.length d)):CP 51 #[x.V,.pointer (some ⟨h,0,none⟩)] w (Ret (.bool (dE se 2 x.n)) w):=by
 refine dC 8 Tryz.func51 r ?_;refine zs (zr (aW (λj=>(zq 1 (zn (zs (zr (zV h (0) (.slice a se.length d) f 63 (.tmp 1) _ Tryz.underlying63 rfl ?_))))))));refine cF [0,1] [(j,1)] (cY 52 #[(.slice a se.length d),(I6 2),(I6 x.n)] (.bool (dE se 2 x.n)) (λW k=>Te se _ _ 2 x.n W k.view g) ?_);refine zq 1 (zn (aA (gC 3)))
theorem Pm(x:Bk)(w:World):CP 50 #[x.V] w (Ret (.bool false) w):=by
 refine dF 3 Tryz.func50 ?_;refine zs (zr (aW (λa=>(zq 1 (zn (zQ 1 (zn (aA (gC 2)))))))))
theorem EX{a:As}(h:a.right=true):a.t.length<=16:=by
 have hs:=As.shaped h;unfold cW at hs;simp only[L5,N0]at hs;exact hs.1.1.1.1.1.1.1.2
theorem FN(eA:Addr)(p:Pr)(l:List Bk)(a:Option Addr)(c:Nat){W0:Cx}{U:View}{k:aH}{W:World}(hE:EF U eA)(hl:cG U a l)(a8:∀x∈l,x.d.length<=100000)(e4:l.length<=1000000)(B:Mem W0 U ([]++k) W):CP 49 #[bnV p a l.length c,.int .i64 12,.int .i64 2,.int .i64 2,(.func (.func 50) #[] #[])] W (gX W0 U k λv _ σ'=>NI (fY 12 2 2 (λ_=>false) l) v σ'):=by
 refine fB 67 Tryz.func49 B ?_;refine zs (zr (dB 0 (λb0=>?_)));refine zq 2 (zn (zQ 1 (zn (zs (zB [0,1,0,0] [(b0,1)] (zn (aB (eF (α:=Go_) (λx=>[1,2,3,4,10,11,12,20,21,22].zip [(I6 12),(I6 2),(I6 2),(.func (.func 50) #[] #[]),S0,(I6 0),(x.r.V x.m),(.slice a l.length c),(L6 l.length),(L6 x.i)]) (λx=>x.V) (λx=>([(bK b0 (dO p a l.length c) 29)]++k++x.r.B 71 x.xs)) (λx=>x.i<=l.length/\View.le U x.V/\RwR OpR 3 x.V x.r x.xs x.m x.L/\x.m<=16*x.i/\lM (x.L.map Prod.fst) (fY 12 2 2 (λ_=>false) (l.drop x.i))=fY 12 2 2 (λ_=>false) l) (λx=>l.length-x.i) ⟨0,Rw.nil,[],0,[],U⟩ ?_ ?_ (hm:=λ_ h=>h.eqv (U3 kR (M1 (([(bK b0 (dO p a l.length c) 29)]++k):aH)).symm))))))))))
 ·exact⟨M8 _,View.le_refl _,RwR.nil,M8 _,GP _⟩
 intro x hx;obtain⟨e5,r,J,e6,D⟩:=hx;refine zQ 1 (zn (zs (aZ ((x.i:Int)<(l.length:Int)) (λh0 b9=>?_) (λh0 b9=>?_))))
 ·refine zk (zs (aB (zs (zr ?_))));obtain⟨g,A⟩:∃y,(l)[x.i]? =some y:=⟨(l)[x.i]'oW,K8 _⟩;obtain⟨b1,f1,rfl,c4⟩:=(hl.le r).at_ x.i g A;let V:=(bK b0 (dO p (some ⟨b1,f1,none⟩) l.length c) 29);refine cB (Pt b1 (f1+x.i*5)) (rIx 58 rfl b1 f1 l.length c x.i 5) ?_;refine zU b1 (f1+x.i*5) g.cs c4 58 (.tmp 24) _ Tryz.underlying58 rfl ?_;refine dB 1 (λu=>?_);refine aX 1 u (zn (zs (zB [0,2,0,0,0] [(u,1)] (jB 30 g.t 12 (λh1 c0=>?_) (λh1 c0=>?_)))))
  ·refine zq 4 (zn (dM (aI (zr (zq 1 (dH 65 ((x.i:Int)+1) (zq 1 (zn ?_))))))));refine nx ⟨x.i+1,x.r,x.xs,x.m,x.L,x.V⟩ ?_ ?_ (d:=λ_ h=>Mem.sub (N4 (N4 (M4 _ _) (N7 _)) (N7 _)) (h.eqv (show _=(((([V]:aH)++([(bK u g.cs 58)]:aH))++(k))++(x.r.B 71 x.xs))from by kernel_rfl)))
   ·exact⟨by show x.i+1<=_;omega,r,J,by show x.m<=16*(x.i+1);omega,by show lM (x.L.map Prod.fst) (fY 12 2 2 (λ_=>false) (l.drop (x.i+1)))=_;rw[rH A (by rw[h1];rfl),D]⟩
   ·show l.length-(x.i+1)<l.length-x.i;omega
  ·refine cF [0,2] [(u,5)] (dN (λW B=>Pm g W) (zq 1 (zn (cU (zk (zB [0,2] [(u,1)] ?_))))));rcases N2 ((dI g.d).isSome)with h2|h2
   ·refine lU (λW B=>pN eA g.d W B.view (hE.le r) (by have:=a8 g (K9 A);omega)) (λO V3 Y a6=>?_);have k5:=J.le Y;obtain⟨j,G⟩:=P4.1 h2;rw[G]at a6;obtain⟨x3,y3,z3,K,O,Z,rfl,X,e3⟩:=a6;have b5:=X.t;have e1:=X.p;have e2:=X.r;have c7:=EX (fW G).2.1;refine zq 3 (dB 2 (λE=>?_));refine aX 2 E (zq 1 (zn (zs (zB [0,0,0,0,3,0,0,0] [(E,1)] (zn (iE j.c 2 (λh3 c1=>?_) (λh3 c1=>?_)))))))
    ·refine zQ 2 (zn (aA (aO [10,11] [S0,(I6 2)] (λW' B=>?_))));have hz:fY 12 2 2 (λ_=>false) l=none:=sF D (oD A (by rw[h1];rfl) (.inr ⟨j,G,h3⟩));rw[hz];exact oX (B.eqv (show _=(([V,(bK u g.cs 58),(bK E (mD j x3 y3 z3 K O Z) 79)]:aH)++k)++(x.r.B 71 x.xs)from by kernel_rfl)) (View.le_trans r Y) ⟨rfl,rfl⟩
    ·refine zk (zB [0,3,0,0] [(E,1)] (zn (aB (eF (α:=Go_) (λf=>[1,2,3,4,10,11,12,14,15,16,20,21,22,23,24,25,26,27,28,29,30,31,32,33,34,35,36,37,38,39,40,41,42,43,44,45,46,47,48,49,50,51,52].zip [(I6 12),(I6 2),(I6 2),(.func (.func 50) #[] #[]),S0,(I6 0),(f.r.V f.m),(Pt u 0),(Pt E 0),(I6 0),(Sl b1 f1 l.length c),(L6 l.length),(L6 x.i),(.bool (decide ((x.i:Int)<(l.length:Int)))),(Pt b1 (f1+x.i*5)),(g.V),(Pt u 0),(I6 g.t),(I6 12),(.bool (g.t !=12)),qF,(.func (.func 50) #[] #[]),(g.V),qF,qF,(.tuple #[(asV j x3 y3 z3 K O Z),(I6 0)]),(Pt u 4),(St g.d),(.tuple #[(asV j x3 y3 z3 K O Z),(I6 0)]),(asV j x3 y3 z3 K O Z),(I6 0),(I6 0),qF,qF,(Pt E 1),(I6 j.c),(I6 2),(.bool (j.c !=2)),(.bool (j.c !=2)),(Pt E 0),(.slice x3 j.t.length K),(L6 j.t.length),(L6 f.i)]) (λf=>V3) (λf=>([V,(bK u g.cs 58),(bK E (mD j x3 y3 z3 K O Z) 79)]++k++f.r.B 71 f.xs)) (λf=>f.i<=j.t.length/\RwR OpR 3 V3 f.r f.xs f.m f.L/\(f.m=x.m+f.i/\f.L.map Prod.fst=x.L.map Prod.fst++opsOf 2 g.n (j.t.take f.i))) (λf=>j.t.length-f.i) ⟨0,x.r,x.xs,x.m,x.L,V3⟩ ?_ ?_))))
     ·exact⟨M8 _,k5,rfl,by show _=_++opsOf 2 _ [];rw[show opsOf 2 g.n []=[]from rfl,M1]⟩
     intro f c8;obtain⟨c9,C,N⟩:=c8;refine zQ 1 (zn (zs (aZ ((f.i:Int)<(j.t.length:Int)) (λh4 c2=>?_) (λh4 c2=>?_))))
     ·refine zk (zs (aB (zs (zr ?_))));obtain⟨F,b4⟩:∃y,(j.t)[f.i]? =some y:=⟨(j.t)[f.i]'oW,K8 _⟩;obtain⟨b7,f7,rfl,c6⟩:=b5.one b4;let Y2:=(bK E [(Sl b7 f7 j.t.length K),(I6 j.c),(I6 j.s.s),(St j.s.l),(N6 j.s.n),(N6 j.s.v),(.slice y3 j.p.length O),(.slice z3 j.r.length Z)] 79);refine cB (Pt b7 (f7+f.i)) (eJ _ 3 _ _ rfl b7 f7 j.t.length K f.i .i64 kR kR (by first|assumption|omega) kR kR) ?_;refine zV b7 (f7+f.i) (I6 F) c6 3 (.tmp 54) _ Tryz.underlying3 rfl ?_;refine zq 1 (zn (zr (cF [0,0,0,2,0,0] [(u,1)] (dB 3 (λb8=>?_)))));refine fK f.r f.xs f.m ([V,(bK u g.cs 58),Y2,(bK b8 [(I6 2),(I6 g.n),(I6 F)] 71)]++k) 71 63 3 24 1 kR C.ok (.tmp 56) (.tmp 62) rfl kR b8 0 1 [(I6 2),(I6 g.n),(I6 F)] kR (λW B=>cI B 3 b8 [(I6 2),(I6 g.n),(I6 F)] 71 kR) rfl (M7.1 kR) (by decide) (by unfold maxLen;omega) oW kR kR kR kR kR (λr9 I=>?_);refine zq 1 (zn (zr (zq 1 (dH 64 ((f.i:Int)+1) (zq 1 (zn ?_))))));refine nx ⟨f.i+1,r9,(f.xs++[(I6 2),(I6 g.n),(I6 F)]),(f.m+1),f.L++[(⟨2,g.n,F⟩,[(I6 2),(I6 g.n),(I6 F)])],V3⟩ ?_ ?_ (d:=λ_ h=>Mem.sub (N4 (N4 (M4 _ _) (N7 _)) (N7 _)) (h.eqv (show _=(((([V,(bK u g.cs 58),Y2]:aH)++([(bK b8 [(I6 2),(I6 g.n),(I6 F)] 71)]:aH))++(k))++(r9.B 71 (f.xs++[(I6 2),(I6 g.n),(I6 F)])))from by kernel_rfl)))
      ·exact⟨by show f.i+1<=_;omega,RwR.snoc C rfl I,by show f.m+1=x.m+(f.i+1);omega,by rw[P6,N.2,show opsOf 2 g.n (j.t.take (f.i+1))=opsOf 2 g.n (j.t.take f.i)++[⟨2,g.n,F⟩]from dL _ b4,M6];rfl⟩
      ·show j.t.length-(f.i+1)<j.t.length-f.i;omega
     ·refine aI (zr (zq 1 (dH 65 ((x.i:Int)+1) (zq 1 (zn ?_)))));refine nx ⟨x.i+1,f.r,f.xs,f.m,f.L,V3⟩ ?_ ?_ (d:=λ_ h=>Mem.sub (N4 (N4 (M4 _ _) (N7 _)) (N7 _)) (h.eqv (show _=(((([V]:aH)++([(bK u g.cs 58),(bK E (mD j x3 y3 z3 K O Z) 79)]:aH))++(k))++(f.r.B 71 f.xs))from by kernel_rfl)))
      ·exact⟨by show x.i+1<=_;omega,(View.le_trans r Y),C,by show f.m<=16*(x.i+1);omega,by show lM (f.L.map Prod.fst) (fY 12 2 2 (λ_=>false) (l.drop (x.i+1)))=_;rw[N.2,O2 oW,AM A (by rw[h1];rfl) G h3,D]⟩
      ·show l.length-(x.i+1)<l.length-x.i;omega
   ·refine lU (λW B=>pN eA g.d W B.view (hE.le r) (by have:=a8 g (K9 A);omega)) (λe7 e0 a7 L=>?_);have M:=Q6.1 (by rw[h2];exact M3);rw[M]at L;obtain rfl:=L;refine zq 3 (dB 2 (λa1=>?_));refine aX 2 a1 (zq 1 (zn (zs (zQ 8 (zn (dM (zQ 2 (zn (aA (aO [10,11] [S0,(I6 2)] (λW' B=>?_)))))))))));have hz:fY 12 2 2 (λ_=>false) l=none:=sF D (oD A (by rw[h1];rfl) (.inl M));rw[hz];exact oX (B.eqv (show _=(([V,(bK u g.cs 58),(a1,.cells Z8.toArray 79 (0,0))]:aH)++k)++(x.r.B 71 x.xs)from by kernel_rfl)) (View.le_trans r a7) ⟨rfl,rfl⟩
 ·refine aI (zQ 3 (zn (aA (aO [10,11] [(x.r.V x.m),(I6 0)] (λW' B=>?_)))));have hz:fY 12 2 2 (λ_=>false) l=some (x.L.map Prod.fst):=CB (by rw[<-D,cZ oW];rfl);rw[hz];have b3:x.m=(x.L.map Prod.fst).length:=by rw[O1];exact J.m
  have I:RwR OpR 3 View.no x.r x.xs x.m x.L:=J.opAny;rw[b3]at I;exact mJ (B.eqv (show _=(([(bK b0 (dO p a l.length c) 29)]:aH)++k)++(x.r.B 71 x.xs)from by kernel_rfl)) r ⟨x.r,x.xs,x.L,by show Value.tuple #[x.r.V x.m,.int .i64 0]=_;rw[<-b3],rfl,I,rfl⟩
theorem FM(eA:Addr)(p:Pr)(l:List Bk)(a:Option Addr)(c:Nat)(se:List Op)(aS:Option Addr)(cS Z:Nat){W0:Cx}{U:View}{k:aH}{W:World}(hE:EF U eA)(hl:cG U a l)(a8:∀x∈l,x.d.length<=100000)(e6:l.length<=1000000)(c8:fJ OpR 3 U aS se)(c7:U ⟨Z,0,none⟩=some (.slice aS se.length cS))(B:Mem W0 U ([]++k) W):CP 49 #[bnV p a l.length c,.int .i64 11,.int .i64 1,.int .i64 1,(.func (.func 51) #[] #[(.pointer (some ⟨Z,0,none⟩))])] W (gX W0 U k λv _ σ'=>NI (fY 11 1 1 (λx=>dE se 2 x.n) l) v σ'):=by
 refine fB 67 Tryz.func49 B ?_;refine zs (zr (dB 0 (λb0=>?_)));refine zq 2 (zn (zQ 1 (zn (zs (zB [0,1,0,0] [(b0,1)] (zn (aB (eF (α:=Go_) (λx=>[1,2,3,4,10,11,12,20,21,22].zip [(I6 11),(I6 1),(I6 1),(.func (.func 51) #[] #[(Pt Z 0)]),S0,(I6 0),(x.r.V x.m),(.slice a l.length c),(L6 l.length),(L6 x.i)]) (λx=>x.V) (λx=>([(bK b0 (dO p a l.length c) 29)]++k++x.r.B 71 x.xs)) (λx=>x.i<=l.length/\View.le U x.V/\RwR OpR 3 x.V x.r x.xs x.m x.L/\x.m<=16*x.i/\lM (x.L.map Prod.fst) (fY 11 1 1 (λx=>dE se 2 x.n) (l.drop x.i))=fY 11 1 1 (λx=>dE se 2 x.n) l) (λx=>l.length-x.i) ⟨0,Rw.nil,[],0,[],U⟩ ?_ ?_ (hm:=λ_ h=>h.eqv (U3 kR (M1 (([(bK b0 (dO p a l.length c) 29)]++k):aH)).symm))))))))))
 ·exact⟨M8 _,View.le_refl _,RwR.nil,M8 _,GP _⟩
 intro x hx;obtain⟨e7,r,E,e8,C⟩:=hx;refine zQ 1 (zn (zs (aZ ((x.i:Int)<(l.length:Int)) (λh0 b9=>?_) (λh0 b9=>?_))))
 ·refine zk (zs (aB (zs (zr ?_))));obtain⟨g,u⟩:∃y,(l)[x.i]? =some y:=⟨(l)[x.i]'oW,K8 _⟩;obtain⟨b1,f1,rfl,c4⟩:=(hl.le r).at_ x.i g u;let L:=(bK b0 (dO p (some ⟨b1,f1,none⟩) l.length c) 29);refine cB (Pt b1 (f1+x.i*5)) (rIx 58 rfl b1 f1 l.length c x.i 5) ?_;refine zU b1 (f1+x.i*5) g.cs c4 58 (.tmp 24) _ Tryz.underlying58 rfl ?_;refine dB 1 (λA=>?_);refine aX 1 A (zn (zs (zB [0,2,0,0,0] [(A,1)] (jB 30 g.t 11 (λh1 c0=>?_) (λh1 c0=>?_)))))
  ·refine zq 4 (zn (dM (aI (zr (zq 1 (dH 65 ((x.i:Int)+1) (zq 1 (zn ?_))))))));refine nx ⟨x.i+1,x.r,x.xs,x.m,x.L,x.V⟩ ?_ ?_ (d:=λ_ h=>Mem.sub (N4 (N4 (M4 _ _) (N7 _)) (N7 _)) (h.eqv (show _=(((([L]:aH)++([(bK A g.cs 58)]:aH))++(k))++(x.r.B 71 x.xs))from by kernel_rfl)))
   ·exact⟨by show x.i+1<=_;omega,r,E,by show x.m<=16*(x.i+1);omega,by show lM (x.L.map Prod.fst) (fY 11 1 1 (λx=>dE se 2 x.n) (l.drop (x.i+1)))=_;rw[rH u (by rw[h1];rfl),C]⟩
   ·show l.length-(x.i+1)<l.length-x.i;omega
  ·refine cF [0,2] [(A,5)] (cY 51 #[(g.V),(Pt Z 0)] (.bool (dE se 2 g.n)) (λW B=>Pn g se _ _ Z W B.view (c8.le r) (r _ _ c7)) ?_);refine zq 1 (zn (gK (dE se 2 g.n) (λh2=>?_) (λh2=>?_)))
   ·refine aI (zr (zq 1 (dH 65 ((x.i:Int)+1) (zq 1 (zn ?_)))));refine nx ⟨x.i+1,x.r,x.xs,x.m,x.L,x.V⟩ ?_ ?_ (d:=λ_ h=>Mem.sub (N4 (N4 (M4 _ _) (N7 _)) (N7 _)) (h.eqv (show _=(((([L]:aH)++([(bK A g.cs 58)]:aH))++(k))++(x.r.B 71 x.xs))from by kernel_rfl)))
    ·exact⟨by show x.i+1<=_;omega,r,E,by show x.m<=16*(x.i+1);omega,by show lM (x.L.map Prod.fst) (fY 11 1 1 (λx=>dE se 2 x.n) (l.drop (x.i+1)))=_;rw[rH u (by rw[h1,h2];rfl),C]⟩
    ·show l.length-(x.i+1)<l.length-x.i;omega
   ·refine zk (zB [0,2] [(A,1)] ?_);rcases N2 ((dI g.d).isSome)with h3|h3
    ·refine lU (λW B=>pN eA g.d W B.view (hE.le r) (by have:=a8 g (K9 u);omega)) (λV V3 Y a6=>?_);have k5:=E.le Y;obtain⟨j,I⟩:=P4.1 h3;rw[I]at a6;obtain⟨x3,y3,z3,K,V,w3,rfl,X,e5⟩:=a6;have b5:=X.t;have e3:=X.p;have e4:=X.r;have c9:=EX (fW I).2.1;refine zq 3 (dB 2 (λF=>?_));refine aX 2 F (zq 1 (zn (zs (zB [0,0,0,0,3,0,0,0] [(F,1)] (zn (iE j.c 1 (λh4 c1=>?_) (λh4 c1=>?_)))))))
     ·refine zQ 2 (zn (aA (aO [10,11] [S0,(I6 2)] (λW' B=>?_))));have hz:fY 11 1 1 (λx=>dE se 2 x.n) l=none:=sF C (oD u (by rw[h1,h2];rfl) (.inr ⟨j,I,h4⟩));rw[hz];exact oX (B.eqv (show _=(([L,(bK A g.cs 58),(bK F (mD j x3 y3 z3 K V w3) 79)]:aH)++k)++(x.r.B 71 x.xs)from by kernel_rfl)) (View.le_trans r Y) ⟨rfl,rfl⟩
     ·refine zk (zB [0,3,0,0] [(F,1)] (zn (aB (eF (α:=Go_) (λf=>[1,2,3,4,10,11,12,14,15,16,20,21,22,23,24,25,26,27,28,29,30,31,32,33,34,35,36,37,38,39,40,41,42,43,44,45,46,47,48,49,50,51,52].zip [(I6 11),(I6 1),(I6 1),(.func (.func 51) #[] #[(Pt Z 0)]),S0,(I6 0),(f.r.V f.m),(Pt A 0),(Pt F 0),(I6 0),(Sl b1 f1 l.length c),(L6 l.length),(L6 x.i),(.bool (decide ((x.i:Int)<(l.length:Int)))),(Pt b1 (f1+x.i*5)),(g.V),(Pt A 0),(I6 g.t),(I6 11),(.bool (g.t !=11)),qF,(.func (.func 51) #[] #[(Pt Z 0)]),(g.V),(.bool (dE se 2 g.n)),(.bool (dE se 2 g.n)),(.tuple #[(asV j x3 y3 z3 K V w3),(I6 0)]),(Pt A 4),(St g.d),(.tuple #[(asV j x3 y3 z3 K V w3),(I6 0)]),(asV j x3 y3 z3 K V w3),(I6 0),(I6 0),qF,qF,(Pt F 1),(I6 j.c),(I6 1),(.bool (j.c !=1)),(.bool (j.c !=1)),(Pt F 0),(.slice x3 j.t.length K),(L6 j.t.length),(L6 f.i)]) (λf=>V3) (λf=>([L,(bK A g.cs 58),(bK F (mD j x3 y3 z3 K V w3) 79)]++k++f.r.B 71 f.xs)) (λf=>f.i<=j.t.length/\RwR OpR 3 V3 f.r f.xs f.m f.L/\(f.m=x.m+f.i/\f.L.map Prod.fst=x.L.map Prod.fst++opsOf 1 g.n (j.t.take f.i))) (λf=>j.t.length-f.i) ⟨0,x.r,x.xs,x.m,x.L,V3⟩ ?_ ?_))))
      ·exact⟨M8 _,k5,rfl,by show _=_++opsOf 1 _ [];rw[show opsOf 1 g.n []=[]from rfl,M1]⟩
      intro f e0;obtain⟨e1,D,O⟩:=e0;refine zQ 1 (zn (zs (aZ ((f.i:Int)<(j.t.length:Int)) (λh5 c2=>?_) (λh5 c2=>?_))))
      ·refine zk (zs (aB (zs (zr ?_))));obtain⟨G,b4⟩:∃y,(j.t)[f.i]? =some y:=⟨(j.t)[f.i]'oW,K8 _⟩;obtain⟨b7,f7,rfl,c6⟩:=b5.one b4;let Y2:=(bK F [(Sl b7 f7 j.t.length K),(I6 j.c),(I6 j.s.s),(St j.s.l),(N6 j.s.n),(N6 j.s.v),(.slice y3 j.p.length V),(.slice z3 j.r.length w3)] 79);refine cB (Pt b7 (f7+f.i)) (eJ _ 3 _ _ rfl b7 f7 j.t.length K f.i .i64 kR kR (by first|assumption|omega) kR kR) ?_;refine zV b7 (f7+f.i) (I6 G) c6 3 (.tmp 54) _ Tryz.underlying3 rfl ?_;refine zq 1 (zn (zr (cF [0,0,0,2,0,0] [(A,1)] (dB 3 (λb8=>?_)))));refine fK f.r f.xs f.m ([L,(bK A g.cs 58),Y2,(bK b8 [(I6 1),(I6 g.n),(I6 G)] 71)]++k) 71 63 3 24 1 kR D.ok (.tmp 56) (.tmp 62) rfl kR b8 0 1 [(I6 1),(I6 g.n),(I6 G)] kR (λW B=>cI B 3 b8 [(I6 1),(I6 g.n),(I6 G)] 71 kR) rfl (M7.1 kR) (by decide) (by unfold maxLen;omega) oW kR kR kR kR kR (λr9 J=>?_);refine zq 1 (zn (zr (zq 1 (dH 64 ((f.i:Int)+1) (zq 1 (zn ?_))))));refine nx ⟨f.i+1,r9,(f.xs++[(I6 1),(I6 g.n),(I6 G)]),(f.m+1),f.L++[(⟨1,g.n,G⟩,[(I6 1),(I6 g.n),(I6 G)])],V3⟩ ?_ ?_ (d:=λ_ h=>Mem.sub (N4 (N4 (M4 _ _) (N7 _)) (N7 _)) (h.eqv (show _=(((([L,(bK A g.cs 58),Y2]:aH)++([(bK b8 [(I6 1),(I6 g.n),(I6 G)] 71)]:aH))++(k))++(r9.B 71 (f.xs++[(I6 1),(I6 g.n),(I6 G)])))from by kernel_rfl)))
       ·exact⟨by show f.i+1<=_;omega,RwR.snoc D rfl J,by show f.m+1=x.m+(f.i+1);omega,by rw[P6,O.2,show opsOf 1 g.n (j.t.take (f.i+1))=opsOf 1 g.n (j.t.take f.i)++[⟨1,g.n,G⟩]from dL _ b4,M6];rfl⟩
       ·show j.t.length-(f.i+1)<j.t.length-f.i;omega
      ·refine aI (zr (zq 1 (dH 65 ((x.i:Int)+1) (zq 1 (zn ?_)))));refine nx ⟨x.i+1,f.r,f.xs,f.m,f.L,V3⟩ ?_ ?_ (d:=λ_ h=>Mem.sub (N4 (N4 (M4 _ _) (N7 _)) (N7 _)) (h.eqv (show _=(((([L]:aH)++([(bK A g.cs 58),(bK F (mD j x3 y3 z3 K V w3) 79)]:aH))++(k))++(f.r.B 71 f.xs))from by kernel_rfl)))
       ·exact⟨by show x.i+1<=_;omega,(View.le_trans r Y),D,by show f.m<=16*(x.i+1);omega,by show lM (f.L.map Prod.fst) (fY 11 1 1 (λx=>dE se 2 x.n) (l.drop (x.i+1)))=_;rw[O.2,O2 oW,AM u (by rw[h1,h2];rfl) I h4,C]⟩
       ·show l.length-(x.i+1)<l.length-x.i;omega
    ·refine lU (λW B=>pN eA g.d W B.view (hE.le r) (by have:=a8 g (K9 u);omega)) (λe9 e2 a7 M=>?_);have N:=Q6.1 (by rw[h3];exact M3);rw[N]at M;obtain rfl:=M;refine zq 3 (dB 2 (λa1=>?_));refine aX 2 a1 (zq 1 (zn (zs (zQ 8 (zn (dM (zQ 2 (zn (aA (aO [10,11] [S0,(I6 2)] (λW' B=>?_)))))))))));have hz:fY 11 1 1 (λx=>dE se 2 x.n) l=none:=sF C (oD u (by rw[h1,h2];rfl) (.inl N));rw[hz];exact oX (B.eqv (show _=(([L,(bK A g.cs 58),(a1,.cells Z8.toArray 79 (0,0))]:aH)++k)++(x.r.B 71 x.xs)from by kernel_rfl)) (View.le_trans r a7) ⟨rfl,rfl⟩
 ·refine aI (zQ 3 (zn (aA (aO [10,11] [(x.r.V x.m),(I6 0)] (λW' B=>?_)))));have hz:fY 11 1 1 (λx=>dE se 2 x.n) l=some (x.L.map Prod.fst):=CB (by rw[<-C,cZ oW];rfl);rw[hz];have b3:x.m=(x.L.map Prod.fst).length:=by rw[O1];exact E.m
  have J:RwR OpR 3 View.no x.r x.xs x.m x.L:=E.opAny;rw[b3]at J;exact mJ (B.eqv (show _=(([(bK b0 (dO p a l.length c) 29)]:aH)++k)++(x.r.B 71 x.xs)from by kernel_rfl)) r ⟨x.r,x.xs,x.L,by show Value.tuple #[x.r.V x.m,.int .i64 0]=_;rw[<-b3],rfl,J,rfl⟩
def QZ(W:World):View:=λa=>W.cell? a
theorem Mem.all(W:World):Mem ⟨W,QZ W⟩ (QZ W) ([]++[]) W:=⟨Below.refl _ _,λ_ _ h _=>h,λ_ _ h=>h,λk b o h=>by simp at h,λj k x y h=>by simp at h⟩
theorem Mem.nest{W0:Cx}{W W':World}{U V:View}{σ σ':aH}(r:Mem W0 U σ W)(h:Mem ⟨W,QZ W⟩ V (σ'++[]) W'):Mem W0 U (σ'++σ) W':=by
 rw[M1]at h;have F:Below W.heap.size W W':=h.below;have B:=r.call F;have A:∀(k:Nat) (x:Nat×Obj),σ[k]? =some x->x.1<W.heap.size:=λk x g=>gQ (r.own k x.1 x.2 g).1
 have u:∀(k:Nat) (x:Nat×Obj),σ'[k]? =some x->W.heap.size<=x.1:=λk x g=>(h.own k x.1 x.2 g).2.1
 have L:=r.below.size;have D:∀a:Addr,W.heap.size<=a.block->U a=none:=by
  intro a E;cases M:U a with
  |none=>rfl
  |some v=>have:=oR (r.view a v M);omega
 have key:∀(i:Nat) (z:Nat×Obj),(σ'++σ)[i]? =some z->(i<σ'.length/\σ'[i]? =some z)\/(σ'.length<=i/\σ[i-σ'.length]? =some z):=by
  intro i z C;rw[bb]at C;split at C
  ·next K=>exact .inl ⟨K,C⟩
  ·next Y=>exact .inr ⟨by omega,C⟩
 refine⟨B.below,B.old,B.view,λk b x g=>?_,λj k x y G g e=>?_⟩
 ·rcases key k _ g with⟨_,d⟩|⟨_,d⟩
  ·obtain⟨N,O,Z⟩:=h.own k b x d;have X:W.heap.size<=b:=O;exact⟨N,by omega,λa E=>D a oW⟩
  ·exact B.own _ b x d
 ·rcases key j x G with⟨_,f⟩|⟨I,f⟩<;>rcases key k y g with⟨_,d⟩|⟨J,d⟩
  ·exact h.apart j k x y f d e
  ·have:=u j x f;have:=A _ y d;omega
  ·have:=u k y d;have:=A _ x f;omega
  ·have:=r.apart _ _ x y f d e;omega
section
variable {P:Program} {n:Nat} {W0:Cx} {Q:XQ} {s:cA} {U:View} {σ:aH} {ops:Array Oper} {l:List Oper} {o:Oper}
theorem pT(f : FuncId)(a : Array Value)(Φ : Value -> aH -> Prop)(g : enters P s o = some (f, a))(r : ∀ W, Mem W0 U σ W -> Calls P f a W (gX ⟨W, QZ W⟩ (QZ W) [] fun v _ σ' => Φ v σ'))(u : fF n o = true)(A : dA ops s o = some true)
  (h:∀v σ',Φ v σ'->SXL P n W0 Q ops l (lQ o v s) U (σ++σ')):SXL P n W0 Q ops (o::l) s U σ:=
 tX f a g u A λW k=>(r W k).mono λ_ B ⟨v,V,σ',g,C,d,j⟩=>⟨v,_,U,σ++σ',g,(k.nest d).perm Q2,rfl,h v σ' j⟩
theorem rA(t e:TypeId)(z:Nat)(x y:Operand)(ho:o.op=.call { callee:=.builtin .append,args:=#[x,y],argTypes:=#[t,t] })(a d:Option Addr)(m c f:Nat)(j:evS s x=some (.slice a m c))(k:evS s y=some (.slice d 0 f))(g:m<=c)(h:P.underlying t=some (.slice e))(hs:(P.info? e).map (·.size)=some z)(W:World):
  (execOp (ev s) o).run P W=.ok (.value (.slice a m c)) W:=by
 have r:=rT hs W;unfold execOp;simp only[ho,resolve,invoke,builtin,Sem.run_bind,Sem.run_pure,Result.andThen_ok,Z2,R2,Z0,eM j,eM k,Builtin.append_];cases a<;>cases d<;>simp[run_underlying h W,r,Builtin.lenOf,Builtin.firstCells,storeCells,g,loadCells,loadCellsFrom]
end
theorem Mem.rowOps{W0:Cx}{U V':View}{W:World}{r:Rw}{h:List Value}{m:Nat}{L:List (Op×List Value)}{σ1:aH}{e:TypeId}(k:Mem W0 U (σ1++r.B e h) W)(g:RwR OpR 3 V' r h m L)(d:m<=R47):∃a c,r.V m=.slice a m c/\m<=c/\fJ OpR 3 (QZ W) a (L.map Prod.fst):=by
 obtain⟨a,c,V,B,j,A,u,f⟩:=k.freezeRwC g.ok;exact⟨a,c,A,u,(g.opAny (V':=View.no)).done (by decide) (BH.le f.view j) (View.no_le _) d⟩
theorem Rw.openR{r:Rw}{z m:Nat}{a:List Value}(h:r.ok z m a)(hm:0<m):∃b c junk,r=.row b c junk:=by
 cases r with
 |nil=>obtain⟨rfl,_⟩:=h;omega
 |row b c junk=>exact⟨b,c,junk,rfl⟩
theorem Mem.rowRange{W0:Cx}{U:View}{W:World}{σ1 ρ:aH}{b c:Nat}{junk a:List Value}{e:TypeId}(g:Mem W0 U ((σ1++(Rw.row b c junk).B e a)++ρ) W):W.rangeAt b 0 a:=by
 have d:Mem W0 U (σ1++([(b,.cells (a++junk).toArray e (0,0))]++ρ)) W:=by
  have:=g;rw[M6]at this;exact this
 have h:=cI d (σ1.length+0) b (a++junk) e (getElem?_mid σ1 [(b,Obj.cells (a++junk).toArray e (0,0))] ρ 0 _ rfl);exact λj v f=>h j v (by rw[Q1 (L8.1 f).1];exact f)
theorem RwR.ones{α:Type}{R:View->α->List Value->Prop}{z:Nat}[RecOk R z]{V:View}{r:Rw}{d:List Value}{m:Nat}{L:List (α×List Value)}(a:RwR R z V r d m L):∀u∈d,u.oneCell'=true:=by
 rw[a.xs];exact a.all.one
theorem RwR.cat{α:Type}{R:View->α->List Value->Prop}{z:Nat}{V:View}{r A u:Rw}{h d:List Value}{m k:Nat}{L j:List (α×List Value)}(g:RwR R z V r h m L)(a:RwR R z V A d k j)(f:u.ok z (m+k) (h++d)):RwR R z V u (h++d) (m+k) (L++j):=
 ⟨f,by rw[g.xs,a.xs,Q4],by rw[g.m,a.m,L4],g.all.app a.all⟩
theorem pZ{j d f:Int}{g:Bk->Bool}:∀{l:List Bk} {q:List Op},fY j d f g l=some q->q.length<=16*l.length
 | [],q,h=>by
  rw[fY]at h;obtain rfl:=N5 h;exact M8 _
 |x::l,q,h=>by
  rw[fY]at h;rw[M9];split at h
  ·have:=pZ h;omega
  ·split at h
   ·cases h
   ·next a k=>
    split at h
    ·cases h
    ·split at h
     ·cases h
     ·next r u=>
      obtain rfl:=N5 h;have A:=pZ u;have B:=EX (fW k).2.1;rw[L4,show(opsOf d x.n a.t).length=a.t.length from O1 _];omega
theorem PE{l:List Bk}{se si:List Op}(a:fY 12 2 2 (λ_=>false) l=some se)(d:fY 11 1 1 (λx=>dE se 2 x.n) l=some si):qQ l=some (se++si):=by
 unfold qQ;rw[a];simp only;rw[d]
theorem Po{l:List Bk}(a:fY 12 2 2 (λ_=>false) l=none):qQ l=none:=by
 unfold qQ;rw[a]
theorem Pp{l:List Bk}{se:List Op}(a:fY 12 2 2 (λ_=>false) l=some se)(d:fY 11 1 1 (λx=>dE se 2 x.n) l=none):qQ l=none:=by
 unfold qQ;rw[a];simp only;rw[d]
theorem VV(V:Addr)(p:Pr)(l:List Bk)(a:Option Addr)(c:Nat){W0:Cx}{U:View}{f:aH}{W:World}(hE:EF U V)(hl:cG U a l)(G:∀x∈l,x.d.length<=100000)(e6:l.length<=1000)(d:Mem W0 U ([]++f) W):CP 23 #[bnV p a l.length c] W (gX W0 U f λv _ σ'=>NI (qQ l) v σ'):=by
 have e3:=λ(c2 a8 b3:Int) (c1:Bk->Bool) (q:List Op) (h:fY c2 a8 b3 c1 l=some q)=>pZ h
 refine fB 27 Tryz.func23 d ?_;refine zs (zr (dB 0 (λb0=>?_)));refine zq 2 (zn (zB [1] [(b0,20)] ?_));rcases N2 ((fY 12 2 2 (λ_=>false) l).isSome)with h0|h0
 ·refine pT 49 #[(bnV p a l.length c),(I6 12),(I6 2),(I6 2),(.func (.func 50) #[] #[])] (λv σ'=>NI (fY 12 2 2 (λ_=>false) l) v σ') kR (λW d=>FN V p l _ _ (hE.le d.view) (hl.le d.view) G oW (Mem.all W)) kR kR (λv1 s1 X=>?_);obtain⟨k,B⟩:=P4.1 h0;rw[B]at X;obtain⟨r,g,L1,rfl,rfl,j,F⟩:=X;have e4:=pZ B;refine zq 3 (dB 1 (λE=>?_));let J:aH:=[(bK b0 (dO p a l.length c) 29),(bK E [(r.V k.length)] 63)];refine Aa 1 E 0 k.length 3 r g j.ok [S0] 63 63 _ _ rfl kR kR kR (λa c=>by kernel_rfl) kR rfl kR ?_;refine zq 1 (zn (zs (zQ 2 (zn (cU (zk (zB [1,0] [(b0,20)] ?_)))))));rcases N2 ((fY 11 1 1 (λx=>dE k 2 x.n) l).isSome)with h1|h1
  ·refine pT 49 #[(bnV p a l.length c),(I6 11),(I6 1),(I6 1),(.func (.func 51) #[] #[(Pt E 0)])] (λv σ'=>NI (fY 11 1 1 (λx=>dE k 2 x.n) l) v σ') kR (λW d=>(by obtain⟨a9,c9,N,b7,A⟩:=Mem.rowOps (d.eqv (show _=((J++f):aH)++r.B 71 g from by kernel_rfl)) j (by unfold R47;omega);have D:=cI d 1 E [(r.V k.length)] 63 kR 0 _ rfl;rw[N]at D;rw[F]at A;exact FM V p l _ _ k a9 c9 E (hE.le d.view) (hl.le d.view) G oW A D (Mem.all W))) kR kR (λv3 s3 Y=>?_);obtain⟨O,I⟩:=P4.1 h1;rw[I]at Y;obtain⟨r3,u,L3,rfl,rfl,C,b6⟩:=Y;have e5:=pZ I;refine zq 5 (zn (zs (zQ 2 (zn (cU (zk (zB [2,0] [(E,1)] ?_)))))));refine tU (J++f) (r.B 71 g) (r3.B 71 u) kR ?_;rcases N2 (decide (0<O.length))with K|K
   ·have b5:=P2 K;obtain⟨b4,c4,j4,rfl⟩:=Rw.openR C.ok (P2 K);refine fK r g k.length (J++f++(Rw.row b4 c4 j4).B 71 u) 71 63 3 24 O.length kR j.ok (.tmp 24) (.tmp 25) rfl kR b4 0 c4 u kR (λW d=>Mem.rowRange (σ1:=(J++f)) (ρ:=r.B 71 g) (c:=c4) (junk:=j4) (e:=71) (d.eqv kR)) C.ok.1 C.ones (P2 K) (by unfold maxLen;omega) oW kR kR kR kR kR (λr5 c0=>?_);refine zq 2 (zn (aA (aO [2,3] [(r5.V (k.length+O.length)),(I6 0)] (λW' d=>?_))));rw[PE B I];have M:=(d.eqv (show _=((J:aH)++f++((Rw.row b4 c4 j4).B 71 u))++(r5.B 71 (g++u))from by kernel_rfl));have L:=M.sub (N4 (M4 _ _) (N7 _));exact mJ L (View.le_refl _) ⟨_,_,_,by show Value.tuple #[r5.V ((k.length+O.length)),.int .i64 0]=_;rw[<-L4],rfl,by rw[L4];exact RwR.cat j C c0,by rw[P6,F,b6]⟩
   ·have b5:=O5 K;obtain⟨e0,e1,e2⟩:=Rw.form C.ok;obtain⟨c6,c7,b1,c8⟩:=Rw.formC j.ok;refine cB ((r.V k.length)) (λW=>(rA 63 71 3 _ _ rfl c6 e0 k.length c7 e1 (zX b1) (zE' e2 (show O.length=0 from by have:=O5 K;omega)) c8 Tryz.underlying63 kR W).trans (by rw[b1])) ?_;refine zq 2 (zn (aA (aO [2,3] [(r.V k.length),(I6 0)] (λW' d=>?_))));rw[PE B I];have b8:O=[]:=O7.1 (by have:=O5 K;omega);rw[b8,M1];have M:=(d.eqv (show _=((J:aH)++f++(r3.B 71 u))++(r.B 71 g)from by kernel_rfl));have L:=M.sub (N4 (M4 _ _) (N7 _));exact mJ L (View.le_refl _) ⟨_,_,_,rfl,rfl,j,F⟩
  ·refine pT 49 #[(bnV p a l.length c),(I6 11),(I6 1),(I6 1),(.func (.func 51) #[] #[(Pt E 0)])] (λv σ'=>NI (fY 11 1 1 (λx=>dE k 2 x.n) l) v σ') kR (λW d=>(by obtain⟨a9,c9,N,b7,A⟩:=Mem.rowOps (d.eqv (show _=((J++f):aH)++r.B 71 g from by kernel_rfl)) j (by unfold R47;omega);have D:=cI d 1 E [(r.V k.length)] 63 kR 0 _ rfl;rw[N]at D;rw[F]at A;exact FM V p l _ _ k a9 c9 E (hE.le d.view) (hl.le d.view) G oW A D (Mem.all W))) kR kR (λv7 s7 Z=>?_);have a6:=Q6.1 (by rw[h1];exact M3);rw[a6]at Z;obtain⟨rfl,rfl⟩:=Z;refine qV U _ (λ_ h=>h.eqv (M1 _)) ?_;refine zq 5 (zn (zs (zQ 2 (zn (dM (zQ 3 (zn (aA (aO [2,3] [S0,(I6 2)] (λW' d=>?_))))))))));rw[Pp B a6];exact oX (d.eqv (show _=((J:aH)++f)++(r.B 71 g)from by kernel_rfl)) (View.le_refl _) ⟨rfl,rfl⟩
 ·refine pT 49 #[(bnV p a l.length c),(I6 12),(I6 2),(I6 2),(.func (.func 50) #[] #[])] (λv σ'=>NI (fY 12 2 2 (λ_=>false) l) v σ') kR (λW d=>FN V p l _ _ (hE.le d.view) (hl.le d.view) G oW (Mem.all W)) kR kR (λv8 s8 a1=>?_);have a7:=Q6.1 (by rw[h0];exact M3);rw[a7]at a1;obtain⟨rfl,rfl⟩:=a1;refine qV U _ (λ_ h=>h.eqv (M1 _)) ?_;refine zq 3 (dB 1 (λb9=>?_));refine aX 1 b9 (zq 1 (zn (zs (zQ 2 (zn (dM (zQ 3 (zn (aA (aO [2,3] [S0,(I6 2)] (λW' d=>?_)))))))))));rw[Po a7];exact oX (d.eqv ((show _=(([(bK b0 (dO p a l.length c) 29),(bK b9 [S0] 63)]:aH)++f)from by kernel_rfl).trans (M1 _).symm)) (View.le_refl _) ⟨rfl,rfl⟩
end Go.Proofs.YtkoamlfiijcecaaGreatDoor.Sx
namespace Go.Proofs.YtkoamlfiijcecaaGreatDoor.Sx
open Go.ChangeShapes Go.WideShapes Go.ChangeAt Go.RowKit Go.Deep Go.ChangeMaps Go.MapKept
abbrev FQ:Int×Int->Value:=λz=>.agg #[.int .i64 z.1,.int .i64 0,.int .i64 z.2]
theorem Pj(a d f g j k:Int)(w:World):(Op.equal 71 (.agg #[.int .i64 a,.int .i64 d,.int .i64 f]) (.agg #[.int .i64 g,.int .i64 j,.int .i64 k])).run Tryz.prog w=.ok (decide (a=g/\d=j/\f=k)) w:=by
 have h:(binOp .eql 71 (.agg #[.int .i64 a,.int .i64 d,.int .i64 f]) (.agg #[.int .i64 g,.int .i64 j,.int .i64 k])).run Tryz.prog w=.ok (.bool (decide (a=g/\d=j/\f=k))) w:=by
  go_simp
  (repeat' split)<;>simp_all
 unfold binOp at h;simp only[Sem.run_bind]at h;generalize (Op.equal 71 (.agg #[.int .i64 a,.int .i64 d,.int .i64 f]) (.agg #[.int .i64 g,.int .i64 j,.int .i64 k])).run Tryz.prog w=R at h ⊢;cases R with
 |ok r w'=>
  simp only[Result.andThen_ok,Sem.run_pure,Result.ok.injEq,Value.bool.injEq]at h;rw[h.1,h.2]
 |_=>cases h
theorem AX(x:Int×Int)(w:World):∀(i:Nat) (m:List ((Int×Int)×Int)),(Instr.findAsking 71 (FQ x) (mEs FQ i m) i).run Tryz.prog w=.ok (mX x i m) w
 |_,[]=>rfl
 |i,(k,v)::r=>by
  rw[mEs,Instr.findAsking,mX];simp only[Sem.run_bind,Pj,Result.andThen_ok];by_cases a:x=k
  ·subst a;simp
  ·have d:(x==k)=false:=M2.2 a;have f:¬(x.1=k.1/\True/\x.2=k.2):=λh=>a (Prod.ext h.1 h.2.2)
   rw[d,P0 f];simp only[N9,if_false];exact AX x w (i+1) r
theorem AQ:sU Tryz.prog 235 FQ:=
 ⟨71,3,Tryz.underlying235,(λw=>by kernel_rfl),λw b x=>by kernel_rfl,λw x m=>by
  cases m with
  |nil=>simp[Instr.findKey,mEs,Instr.findNow,mX,run_underlying Tryz.underlying71]
  |cons e r=>
   obtain⟨k,v⟩:=e;have h:=AX x w 0 ((k,v)::r);have d:∀a,Instr.findNow (.struct a) (FQ x) (mEs FQ 0 ((k,v)::r)) 0=none:=λa=>rfl
   simp only[Instr.findKey,Sem.run_bind,run_underlying Tryz.underlying71,Result.andThen_ok];rw[d];exact h,λw x=>by
  have:Instr.sameBits 10000 (FQ x) (FQ x)=true:=by simp[Instr.sameBits]
  unfold Instr.keyThatStays;rw[N1 this];rfl⟩
end Go.Proofs.YtkoamlfiijcecaaGreatDoor.Sx
