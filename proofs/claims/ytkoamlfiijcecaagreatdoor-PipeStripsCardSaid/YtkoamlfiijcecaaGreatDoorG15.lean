/-
  Several texts in one: Rv3 Rv4 Rv5 Rvp Del Pst Psf Psg.
  Conditions: named at each.
-/
import Derived.Test.YtkoamlfiijcecaaGreatDoorG14
set_option maxHeartbeats 16000000
set_option linter.unusedSimpArgs false
set_option linter.unusedVariables false
set_option linter.unusedSectionVars false
namespace Go.Proofs.YtkoamlfiijcecaaGreatDoor.Sx
open Go.ChangeShapes Go.WideShapes Go.ChangeAt Go.RowKit Go.Deep
def PD(ts:List Int)(t:Int)(x:Bk):Bool:=t==11&&ts.contains x.n
def Nl(A B:Option (List Op)):Option (List Op):=match A with
 |none=>none
 |some q=>lM q B
noncomputable def Dp(ts:List Int)(l:List Bk)(t:Int):Option (List Op):=if t==12 then fY 11 1 1 (PD ts 11) l else some []
noncomputable def Jr(ts:List Int)(l:List Bk)(t:Int):Option (List Op):=if t==12 then Nl (fY 12 2 2 (PD ts 12) l) (fY 11 1 1 (PD ts 11) l)else if t==11 then fY 11 1 1 (PD ts 11) l else some []
theorem Tz{pre:List Op}{A B:Option (List Op)}:lM pre (Nl A B)=Nl (lM pre A) B:=by
 cases A with
 |none=>rfl
 |some q=>
  cases B with
  |none=>rfl
  |some r=>show some (pre++(q++r))=some (pre++q++r);rw[M6]
theorem Nn(A:Option (List Op)):Nl A (some [])=A:=by
 cases A with
 |none=>rfl
 |some q=>show some (q++[])=some q;rw[M1]
theorem Js{ts:List Int}{l:List Bk}{t:Int}(h:t=12\/t=11):Jr ts l t=Nl (fY t (t-10) (t-10) (PD ts t) l) (Dp ts l t):=by
 rcases h with rfl|rfl
 ·rfl
 ·exact(Nn _).symm
theorem Hy{ts:List Int}{l:List Bk}{t:Int}(h:t=12\/t=11):Dp ts l t=Jr ts l (t-1):=by
 rcases h with rfl|rfl<;>rfl
theorem Ua{pre:List Op}{ts:List Int}{l:List Bk}{t:Int}{T:Option (List Op)}(h:t=12\/t=11)(a:Nl (lM pre (fY t (t-10) (t-10) (PD ts t) [])) (Dp ts l t)=T):lM pre (Jr ts l (t-1))=T:=by
 rw[<-Hy h,<-a,fY,lM,M1];rfl
theorem EH{pre:List Op}{A B T:Option (List Op)}(a:Nl (lM pre A) B=T)(h:A=none):T=none:=by
 rw[<-a,h];rfl
structure Gr where
 t:Int
 i:Nat
 r:Rw
 xs:List Value
 m:Nat
 L:List (Op×List Value)
 V:View
def Dx(x:Option (List Op))(v:Value)(V:View):Prop:=match x with
 |some q=>∃a c,v=.tuple #[.slice a q.length c,.bool true]/\fJ OpR 3 V a q
 |none=>v=.tuple #[.slice none 0 0,.bool false]
noncomputable def QV(l:List Bk):Option (List Op):=match stF l with
 |none=>none
 |some ts=>Jr ts l 12
theorem rW(p:Pr)(l:List Bk)(a:Option Addr)(c:Nat)(w:World){U:View}(hU:See U w)(hl:cG U a l)(a6:∀x∈l,x.d.length<=100000)(n0:l.length<=1000):CP 29 #[bnV p a l.length c] w (fV w U (Dx (QV l))):=by
 refine dC 86 Tryz.func29 hU ?_;refine zs (zr (aW (λX=>(zq 2 (zn (zB [1] [(X,20)] ?_))))));rcases N2 ((stF l).isSome)with h0|h0
 ·refine oI 68 #[(bnV p a l.length c)] (Cd (stF l)) (λW B=>AH p l _ _ W B.view hl a6 n0) (λv1 V1 a1 l8=>?_);have k2:=hl.le a1;obtain⟨ts,c1⟩:=P4.1 h0;rw[c1]at l8;obtain⟨b2,Z,rfl,p7⟩:=l8;have k9:QV l=Jr ts l 12:=by unfold QV;rw[c1]
  refine zq 5 (zn (zs (zQ 2 (zn (cU (zk (zQ 1 (zn (zs (zQ 1 (zn (aB (eF (α:=Gr) (λx=>[1,2,3,4,6,7].zip [(Pt X 0),S0,qF,(.slice b2 ts.length Z),(x.r.V x.m),(I6 x.t)]) (λx=>x.V) (λx=>([(bK X (dO p a l.length c) 29)]++x.r.B 71 x.xs)) (λx=>(x.t=12\/x.t=11\/x.t=10)/\(x.m:Int)+16000*(x.t-10)<=32000/\View.le V1 x.V/\RwR OpR 3 x.V x.r x.xs x.m x.L/\lM (x.L.map Prod.fst) (Jr ts l x.t)=QV l) (λx=>(x.t-10).toNat) ⟨12,0,Rw.nil,[],0,[],V1⟩ ?_ ?_ (hm:=λ_ h=>h.eqv (U3 kR (M1 ([(bK X (dO p a l.length c) 29)]:aH)).symm)))))))))))))))
  ·exact⟨.inl rfl,by show((0:Nat):Int)+16000*(12-10)<=32000;decide,View.le_refl _,RwR.nil,by rw[k9];exact GP _⟩
  intro x hx;obtain⟨s7,s6,M,l1,n2⟩:=hx;refine zs (zQ 2 (zn (aZ (x.t≥11) (λh1 p1=>?_) (λh1 p1=>?_))))
  ·refine zk (zs (aB (zs (zr ?_))));have a7:x.t=12\/x.t=11:=by have:=P2 h1;omega
   refine zq 1 (zn (aB (eF (α:=Gr) (λf=>[1,2,3,4,6,7,8,20,21].zip [(Pt X 0),S0,qF,(.slice b2 ts.length Z),(f.r.V f.m),(I6 x.t),(L6 f.i),(I6 x.t),(.bool (decide (x.t≥11)))]) (λf=>f.V) (λf=>([(bK X (dO p a l.length c) 29)]++f.r.B 71 f.xs)) (λf=>f.i<=l.length/\(f.m:Int)<=16000*(12-x.t)+16*f.i/\View.le x.V f.V/\RwR OpR 3 f.V f.r f.xs f.m f.L/\Nl (lM (f.L.map Prod.fst) (fY x.t (x.t-10) (x.t-10) (PD ts x.t) (l.drop f.i))) (Dp ts l x.t)=QV l) (λf=>l.length-f.i) ⟨x.t,0,x.r,x.xs,x.m,x.L,x.V⟩ ?_ ?_)))
   ·exact⟨M8 _,by show(x.m:Int)<=16000*(12-x.t)+16*(0:Nat);omega,View.le_refl _,l1,by rw[<-n2,Js a7,Tz];rfl⟩
   intro f q3;obtain⟨r2,r3,A,K,C⟩:=q3;refine zs (zB [0,0,1,0,0] [(X,1)] (zn (aZ ((f.i:Int)<(l.length:Int)) (λh2 p2=>?_) (λh2 p2=>?_))))
   ·refine zk (zs (aB (zB [0,1,0] [(X,1)] ?_)));obtain⟨y3,D⟩:∃y,(l)[f.i]? =some y:=⟨(l)[f.i]'oW,K8 _⟩;obtain⟨b3,f3,rfl,p8⟩:=((k2.le M).le A).at_ f.i y3 D;let Y1:=(bK X (dO p (some ⟨b3,f3,none⟩) l.length c) 29);refine cB (Pt b3 (f3+f.i*5)) (rIx 58 rfl b3 f3 l.length c f.i 5) ?_;refine zU b3 (f3+f.i*5) y3.cs p8 58 (.tmp 34) _ Tryz.underlying58 rfl ?_;refine dB 1 (λI=>?_);refine aX 1 I (zn (zs (zB [0,2,0,0,0] [(I,1)] (jB 40 y3.t x.t (λh3 p3=>?_) (λh3 p3=>?_)))))
    ·refine zq 9 (zn (dM (aI (zr (zq 2 (dH 30 ((f.i:Int)+1) ?_))))));have a7:x.t=12\/x.t=11:=by have:=P2 h1;omega
     refine zq 1 (zn ?_);refine nx ⟨x.t,f.i+1,f.r,f.xs,f.m,f.L,f.V⟩ ?_ ?_ (d:=λ_ h=>Mem.sub (N4 (M4 _ _) (N7 _)) (h.eqv (show _=((([Y1]:aH)++([(bK I y3.cs 58)]:aH))++(f.r.B 71 f.xs))from by kernel_rfl)))
     ·exact⟨by show f.i+1<=_;omega,by show(f.m:Int)<=16000*(12-x.t)+16*(f.i+1:Nat);omega,A,K,by rw[rH D (by rw[h3];rfl),C]⟩
     ·show l.length-(f.i+1)<l.length-f.i;omega
    ·refine zq 3 (jZ 43 x.t 11 (λh4 p4=>?_) (λh4 p4=>?_))
     ·refine cF [0,0,2] [(I,1)] (cY 69 #[(.slice b2 ts.length Z),(I6 y3.n)] (.bool (ts.contains y3.n)) (λW B=>YE ts _ _ y3.n W B.view ((p7.le M).le A)) ?_);refine zq 2 (zn (gK (ts.contains y3.n) (λh5=>?_) (λh5=>?_)))
      ·refine aI (zr (zq 2 (dH 30 ((f.i:Int)+1) ?_)));have a7:x.t=12\/x.t=11:=by have:=P2 h1;omega
       refine zq 1 (zn ?_);refine nx ⟨x.t,f.i+1,f.r,f.xs,f.m,f.L,f.V⟩ ?_ ?_ (d:=λ_ h=>Mem.sub (N4 (M4 _ _) (N7 _)) (h.eqv (show _=((([Y1]:aH)++([(bK I y3.cs 58)]:aH))++(f.r.B 71 f.xs))from by kernel_rfl)))
       ·exact⟨by show f.i+1<=_;omega,by show(f.m:Int)<=16000*(12-x.t)+16*(f.i+1:Nat);omega,A,K,by rw[rH D (by unfold PD;rw[h3,h4,h5];rfl),C]⟩
       ·show l.length-(f.i+1)<l.length-f.i;omega
      ·refine zk (zB [0,2] [(I,1)] ?_);rcases N2 ((dI y3.d).isSome)with h6|h6
       ·refine lU (λW B=>gG y3.d W B.view (by have:=a6 y3 (K9 D);omega)) (λv5 V5 k5 l9=>?_);have k8:=K.le k5;obtain⟨G,e0⟩:=P4.1 h6;rw[e0]at l9;obtain⟨x5,y5,z5,u5,v5,w5,rfl,k4⟩:=l9;have o8:=k4.t;have s4:=k4.p;have s5:=k4.r;have q2:=LR e0;refine zq 3 (dB 2 (λb9=>?_));refine aX 2 b9 (zq 1 (zn (zs (zB [0,0,0,0,3,0,0] [(b9,1)] (dH 62 (x.t-10) (zq 2 (zn (iE G.c (x.t-10) (λh7 p5=>?_) (λh7 p5=>?_)))))))))
        ·refine zQ 2 (zn (aA (aO [2,3] [S0,qF] (λW' B=>?_))));rw[EH C (oD D (by unfold PD;rw[h3,h4,h5];rfl) (.inr ⟨G,e0,h7⟩))];exact aJ B (View.le_trans (View.le_trans (View.le_trans a1 M) A) k5) rfl
        ·refine zk (zQ 1 (zn (aB (eF (α:=Gr) (λj=>[1,2,3,4,6,7,8,9,10,11,12,20,21,24,25,26,27,28,31,32,33,34,35,36,37,38,39,40,41,42,43,44,45,46,47,48,49,50,51,52,53,54,55,56,57,58,59,60,61,62,63,64].zip [(Pt X 0),S0,qF,(.slice b2 ts.length Z),(j.r.V j.m),(I6 x.t),(L6 f.i),(Pt I 0),(Pt b9 0),qT,(L6 j.i),(I6 x.t),(.bool (decide (x.t≥11))),(L6 f.i),(Pt X 19),(Sl b3 f3 l.length c),(L6 l.length),(.bool (decide ((f.i:Int)<(l.length:Int)))),(Pt X 19),(Sl b3 f3 l.length c),(L6 f.i),(Pt b3 (f3+f.i*5)),(y3.V),(Pt I 0),(I6 y3.t),(I6 x.t),(.bool (y3.t !=x.t)),qF,(I6 x.t),(.bool (x.t==11)),qT,(.slice b2 ts.length Z),(Pt I 1),(I6 y3.n),(.bool (ts.contains y3.n)),(.bool (ts.contains y3.n)),(.bool (ts.contains y3.n)),(.tuple #[(asV G x5 y5 z5 u5 v5 w5),qT]),(Pt I 4),(St y3.d),(.tuple #[(asV G x5 y5 z5 u5 v5 w5),qT]),(asV G x5 y5 z5 u5 v5 w5),qT,qT,qF,qF,(Pt b9 1),(I6 G.c),(I6 x.t),(I6 (x.t-10)),(.bool (G.c !=(x.t-10))),(.bool (G.c !=(x.t-10)))]) (λj=>j.V) (λj=>([Y1,(bK I y3.cs 58),(bK b9 (mD G x5 y5 z5 u5 v5 w5) 79)]++j.r.B 71 j.xs)) (λj=>j.i<=G.t.length/\View.le V5 j.V/\RwR OpR 3 j.V j.r j.xs j.m j.L/\(j.m=f.m+j.i/\j.L.map Prod.fst=f.L.map Prod.fst++opsOf (x.t-10) y3.n (G.t.take j.i))) (λj=>G.t.length-j.i) ⟨x.t,0,f.r,f.xs,f.m,f.L,V5⟩ ?_ ?_))))
         ·exact⟨M8 _,View.le_refl _,k8,rfl,by show _=_++opsOf (x.t-10) _ [];rw[show opsOf (x.t-10) y3.n []=[]from rfl,M1]⟩
         intro j l0;obtain⟨n1,E,F,L⟩:=l0;refine zs (zB [0,0,3,0,0] [(b9,1)] (zn (aZ ((j.i:Int)<(G.t.length:Int)) (λh8 p6=>?_) (λh8 p6=>?_))))
         ·refine zk (zs (aB ?_));obtain⟨N,j6⟩:∃y,(G.t)[j.i]? =some y:=⟨(G.t)[j.i]'oW,K8 _⟩;obtain⟨j8,k0,rfl,m1⟩:=(o8.le E).one j6;refine jX 5 [0,0,1,0,4,0,5,0,1,1,0,1] [(I,1),(b9,1)] [.val (I6 (x.t-10)),.val (Pt j8 (k0+j.i)),.val (I6 N),.mem (λv V=>∃g,v=(Sl g 0 1 1)/\fJ OpR 3 V (some ⟨g,0,none⟩) [(⟨(x.t-10),y3.n,N⟩:Op)])] (by simp only[O4];exact⟨trivial,trivial,trivial,by intro v V V2 b8 hP;(first|trivial|exact PhiMono.go hP b8|(obtain⟨g,e,hP⟩:=hP;exact⟨g,e,hP.le b8⟩)),λ_ h=>by cases h⟩) ⟨?_,?_,?_,?_,trivial⟩ ?_
          ·exact wE (I6 (IntKind.i64.wrap (x.t-10))) i6v
          ·exact wR (λu=>eJ _ 3 _ _ rfl j8 k0 G.t.length u5 j.i .i64 kR kR (by first|assumption|omega) kR kR)
          ·exact wU1 j8 (k0+j.i) m1 3 _ _ Tryz.underlying3 rfl
          ·refine wN [82] (λu=>[(.agg #[(I6 (x.t-10)),(I6 y3.n),(I6 N)])]) λu V hV q0=>?_
           refine⟨[(I6 (x.t-10)),(I6 y3.n),(I6 N)],71,λr=>(Sl r 0 1 1),?_,λg V' p9 hR=>?_⟩
           ·kernel_rfl
           exact⟨g,rfl,fJ.lit [((⟨(x.t-10),y3.n,N⟩:Op),[(I6 (x.t-10)),(I6 y3.n),(I6 N)])] hR ⟨rfl,trivial⟩ (show 1<=R47 by decide)⟩
          intro s8 o0 j1 k6;have q5:=F.le j1;have c8:=k6 11 rfl;obtain⟨n7,e1,e3⟩:=c8;refine qS 83 e1 ?_;obtain⟨r8,s0,e5,o6,m2,b6⟩:=e3.at_ 0 _ rfl;cases o6;refine iW 3 71 63 24 1 1 F.ok (λW B=>View.range_of m2 B.view) (RecOk.len b6) (RecOk.one b6) (by decide) (λq8 m8=>?_);refine zq 1 (zn (zr (zq 2 (dH 71 ((j.i:Int)+1) (zq 1 (zn ?_))))));refine nx ⟨x.t,j.i+1,q8,(j.xs++e5),j.m+1,j.L++[((⟨(x.t-10),y3.n,N⟩:Op),e5)],o0⟩ ?_ ?_
          ·exact⟨by show j.i+1<=_;omega,(View.le_trans E j1),RwR.snoc q5 b6 m8,by show j.m+1=f.m+(j.i+1);omega,by rw[P6,L.2,show opsOf (x.t-10) y3.n (G.t.take (j.i+1))=opsOf (x.t-10) y3.n (G.t.take j.i)++[⟨x.t-10,y3.n,N⟩]from dL _ j6,M6];rfl⟩
          ·show G.t.length-(j.i+1)<G.t.length-j.i;omega
         ·refine aI (zr (zq 2 (dH 30 ((f.i:Int)+1) ?_)));have a7:x.t=12\/x.t=11:=by have:=P2 h1;omega
          refine zq 1 (zn ?_);refine nx ⟨x.t,f.i+1,j.r,j.xs,j.m,j.L,j.V⟩ ?_ ?_ (d:=λ_ h=>Mem.sub (N4 (M4 _ _) (N7 _)) (h.eqv (show _=((([Y1]:aH)++([(bK I y3.cs 58),(bK b9 (mD G x5 y5 z5 u5 v5 w5) 79)]:aH))++(j.r.B 71 j.xs))from by kernel_rfl)))
          ·exact⟨by show f.i+1<=_;omega,by show(j.m:Int)<=16000*(12-x.t)+16*(f.i+1:Nat);omega,(View.le_trans (View.le_trans A k5) E),F,by rw[L.2,O2 oW,AM D (by unfold PD;rw[h3,h4,h5];rfl) e0 h7,C]⟩
          ·show l.length-(f.i+1)<l.length-f.i;omega
       ·refine lU (λW B=>gG y3.d W B.view (by have:=a6 y3 (K9 D);omega)) (λu0 r4 m5 e7=>?_);have j4:=Q6.1 (by rw[h6];exact M3);rw[j4]at e7;obtain rfl:=e7;refine zq 3 (dB 2 (λo3=>?_));refine aX 2 o3 (zq 1 (zn (zs (zQ 9 (zn (dM (zQ 2 (zn (aA (aO [2,3] [S0,qF] (λW' B=>?_)))))))))));rw[EH C (oD D (by unfold PD;rw[h3,h4,h5];rfl) (.inl j4))];exact aJ B (View.le_trans (View.le_trans (View.le_trans a1 M) A) m5) rfl
     ·refine zq 6 (zn (cU (zk (zB [0,2] [(I,1)] ?_))));rcases N2 ((dI y3.d).isSome)with h9|h9
      ·refine lU (λW B=>gG y3.d W B.view (by have:=a6 y3 (K9 D);omega)) (λb1 l2 c0 e8=>?_);have q6:=K.le c0;obtain⟨k,Y⟩:=P4.1 h9;rw[Y]at e8;obtain⟨c4,c6,c7,a8,b1,c2,rfl,b5⟩:=e8;have l3:=b5.t;have r0:=b5.p;have r1:=b5.r;have n9:=LR Y;refine zq 3 (dB 2 (λJ=>?_));refine aX 2 J (zq 1 (zn (zs (zB [0,0,0,0,3,0,0] [(J,1)] (dH 62 (x.t-10) (zq 2 (zn (iE k.c (x.t-10) (λk3 l4=>?_) (λk3 l4=>?_)))))))))
       ·refine zQ 2 (zn (aA (aO [2,3] [S0,qF] (λW' B=>?_))));rw[EH C (oD D (by unfold PD;rw[h3,h4];rfl) (.inr ⟨k,Y,k3⟩))];exact aJ B (View.le_trans (View.le_trans (View.le_trans a1 M) A) c0) rfl
       ·refine zk (zQ 1 (zn (aB (eF (α:=Gr) (λj=>[1,2,3,4,6,7,8,9,10,11,12,20,21,24,25,26,27,28,31,32,33,34,35,36,37,38,39,40,41,42,43,44,45,46,47,48,49,50,51,52,53,54,55,56,57,58,59,60,61,62,63,64].zip [(Pt X 0),S0,qF,(.slice b2 ts.length Z),(j.r.V j.m),(I6 x.t),(L6 f.i),(Pt I 0),(Pt J 0),qT,(L6 j.i),(I6 x.t),(.bool (decide (x.t≥11))),(L6 f.i),(Pt X 19),(Sl b3 f3 l.length c),(L6 l.length),(.bool (decide ((f.i:Int)<(l.length:Int)))),(Pt X 19),(Sl b3 f3 l.length c),(L6 f.i),(Pt b3 (f3+f.i*5)),(y3.V),(Pt I 0),(I6 y3.t),(I6 x.t),(.bool (y3.t !=x.t)),qF,(I6 x.t),(.bool (x.t==11)),qF,undef,undef,undef,undef,qF,qF,(.tuple #[(asV k c4 c6 c7 a8 b1 c2),qT]),(Pt I 4),(St y3.d),(.tuple #[(asV k c4 c6 c7 a8 b1 c2),qT]),(asV k c4 c6 c7 a8 b1 c2),qT,qT,qF,qF,(Pt J 1),(I6 k.c),(I6 x.t),(I6 (x.t-10)),(.bool (k.c !=(x.t-10))),(.bool (k.c !=(x.t-10)))]) (λj=>j.V) (λj=>([Y1,(bK I y3.cs 58),(bK J (mD k c4 c6 c7 a8 b1 c2) 79)]++j.r.B 71 j.xs)) (λj=>j.i<=k.t.length/\View.le l2 j.V/\RwR OpR 3 j.V j.r j.xs j.m j.L/\(j.m=f.m+j.i/\j.L.map Prod.fst=f.L.map Prod.fst++opsOf (x.t-10) y3.n (k.t.take j.i))) (λj=>k.t.length-j.i) ⟨x.t,0,f.r,f.xs,f.m,f.L,l2⟩ ?_ ?_))))
        ·exact⟨M8 _,View.le_refl _,q6,rfl,by show _=_++opsOf (x.t-10) _ [];rw[show opsOf (x.t-10) y3.n []=[]from rfl,M1]⟩
        intro j l0;obtain⟨n1,E,F,L⟩:=l0;refine zs (zB [0,0,3,0,0] [(J,1)] (zn (aZ ((j.i:Int)<(k.t.length:Int)) (λo9 l5=>?_) (λo9 l5=>?_))))
        ·refine zk (zs (aB ?_));obtain⟨O,j7⟩:∃y,(k.t)[j.i]? =some y:=⟨(k.t)[j.i]'oW,K8 _⟩;obtain⟨j9,k1,rfl,m3⟩:=(l3.le E).one j7;refine jX 5 [0,0,1,0,4,0,5,0,1,1,0,1] [(I,1),(J,1)] [.val (I6 (x.t-10)),.val (Pt j9 (k1+j.i)),.val (I6 O),.mem (λv V=>∃g,v=(Sl g 0 1 1)/\fJ OpR 3 V (some ⟨g,0,none⟩) [(⟨(x.t-10),y3.n,O⟩:Op)])] (by simp only[O4];exact⟨trivial,trivial,trivial,by intro v V V2 b8 hP;(first|trivial|exact PhiMono.go hP b8|(obtain⟨g,e,hP⟩:=hP;exact⟨g,e,hP.le b8⟩)),λ_ h=>by cases h⟩) ⟨?_,?_,?_,?_,trivial⟩ ?_
         ·exact wE (I6 (IntKind.i64.wrap (x.t-10))) i6v
         ·exact wR (λu=>eJ _ 3 _ _ rfl j9 k1 k.t.length a8 j.i .i64 kR kR (by first|assumption|omega) kR kR)
         ·exact wU1 j9 (k1+j.i) m3 3 _ _ Tryz.underlying3 rfl
         ·refine wN [82] (λu=>[(.agg #[(I6 (x.t-10)),(I6 y3.n),(I6 O)])]) λu V hV q0=>?_
          refine⟨[(I6 (x.t-10)),(I6 y3.n),(I6 O)],71,λr=>(Sl r 0 1 1),?_,λg V' p9 hR=>?_⟩
          ·kernel_rfl
          exact⟨g,rfl,fJ.lit [((⟨(x.t-10),y3.n,O⟩:Op),[(I6 (x.t-10)),(I6 y3.n),(I6 O)])] hR ⟨rfl,trivial⟩ (show 1<=R47 by decide)⟩
         intro s9 o1 j2 k7;have q7:=F.le j2;have c9:=k7 11 rfl;obtain⟨n8,e2,e4⟩:=c9;refine qS 83 e2 ?_;obtain⟨r9,s3,e6,o7,m4,b7⟩:=e4.at_ 0 _ rfl;cases o7;refine iW 3 71 63 24 1 1 F.ok (λW B=>View.range_of m4 B.view) (RecOk.len b7) (RecOk.one b7) (by decide) (λq9 m9=>?_);refine zq 1 (zn (zr (zq 2 (dH 71 ((j.i:Int)+1) (zq 1 (zn ?_))))));refine nx ⟨x.t,j.i+1,q9,(j.xs++e6),j.m+1,j.L++[((⟨(x.t-10),y3.n,O⟩:Op),e6)],o1⟩ ?_ ?_
         ·exact⟨by show j.i+1<=_;omega,(View.le_trans E j2),RwR.snoc q7 b7 m9,by show j.m+1=f.m+(j.i+1);omega,by rw[P6,L.2,show opsOf (x.t-10) y3.n (k.t.take (j.i+1))=opsOf (x.t-10) y3.n (k.t.take j.i)++[⟨x.t-10,y3.n,O⟩]from dL _ j7,M6];rfl⟩
         ·show k.t.length-(j.i+1)<k.t.length-j.i;omega
        ·refine aI (zr (zq 2 (dH 30 ((f.i:Int)+1) ?_)));have a7:x.t=12\/x.t=11:=by have:=P2 h1;omega
         refine zq 1 (zn ?_);refine nx ⟨x.t,f.i+1,j.r,j.xs,j.m,j.L,j.V⟩ ?_ ?_ (d:=λ_ h=>Mem.sub (N4 (M4 _ _) (N7 _)) (h.eqv (show _=((([Y1]:aH)++([(bK I y3.cs 58),(bK J (mD k c4 c6 c7 a8 b1 c2) 79)]:aH))++(j.r.B 71 j.xs))from by kernel_rfl)))
         ·exact⟨by show f.i+1<=_;omega,by show(j.m:Int)<=16000*(12-x.t)+16*(f.i+1:Nat);omega,(View.le_trans (View.le_trans A c0) E),F,by rw[L.2,O2 oW,AM D (by unfold PD;rw[h3,h4];rfl) Y k3,C]⟩
         ·show l.length-(f.i+1)<l.length-f.i;omega
      ·refine lU (λW B=>gG y3.d W B.view (by have:=a6 y3 (K9 D);omega)) (λu1 r5 m6 e9=>?_);have j5:=Q6.1 (by rw[h9];exact M3);rw[j5]at e9;obtain rfl:=e9;refine zq 3 (dB 2 (λo4=>?_));refine aX 2 o4 (zq 1 (zn (zs (zQ 9 (zn (dM (zQ 2 (zn (aA (aO [2,3] [S0,qF] (λW' B=>?_)))))))))));rw[EH C (oD D (by unfold PD;rw[h3,h4];rfl) (.inl j5))];exact aJ B (View.le_trans (View.le_trans (View.le_trans a1 M) A) m6) rfl
   ·refine aI (zr (zq 2 (dH 23 (x.t-1) (zq 1 (zn ?_)))));refine nx ⟨x.t-1,0,f.r,f.xs,f.m,f.L,f.V⟩ ?_ ?_
    ·exact⟨by show x.t-1=12\/x.t-1=11\/x.t-1=10;omega,by show(f.m:Int)+16000*(x.t-1-10)<=32000;omega,(View.le_trans M A),K,Ua a7 (by rw[<-C,cZ oW])⟩
    ·show(x.t-1-10).toNat<(x.t-10).toNat;omega
  ·refine aI (zs (zr ?_));have q4:QV l=some (x.L.map Prod.fst):=CB (by rw[<-n2,show x.t=10 by have:=O5 h1;omega];rfl);refine jN x.r x.xs 3 x.m [(bK X (dO p a l.length c) 29)] 71 kR l1.ok (λo2 o5 r6 j3 m0 l6=>?_);rw[l6];have n5:=l1.le j3;have l7:=n5.done (by decide) m0 (View.le_refl _) (by unfold R47;omega);have q1:x.m=(x.L.map Prod.fst).length:=by rw[O1];exact n5.m
   refine zq 3 (zn (aA (aO [2,3] [(.slice o2 x.m o5),qT] (λW' B=>?_))));rw[q4];exact aJ B (View.le_trans (View.le_trans a1 M) j3) ⟨_,_,by rw[<-q1];rfl,l7⟩
 ·refine oI 68 #[(bnV p a l.length c)] (Cd (stF l)) (λW B=>AH p l _ _ W B.view hl a6 n0) (λu2 r7 m7 j0=>?_);have c1:=Q6.1 (by rw[h0];exact M3);rw[c1]at j0;obtain rfl:=j0;have k9:QV l=none:=by unfold QV;rw[c1]
  refine zq 5 (zn (zs (zQ 2 (zn (dM (zQ 2 (zn (aA (aO [2,3] [S0,qF] (λW' B=>?_))))))))));rw[k9];exact aJ B m7 rfl
def cf1(o:Op)(v:Int)(k:Nat)(z:Op):Bool:=((k:Int) !=v)&&(z.k==o.k)&&((z.t==o.t)||((o.k==2)&&(z.n==o.n)))
def cf2(o z:Op):Bool:=(o.k==1)&&(z.k==2)&&(z.t==o.t)&&(o.t !=0)
def cfB(o:Op)(v:Int)(k:Nat)(z:Op):Bool:=cf1 o v k z||cf2 o z
def cfF(o:Op)(v:Int):Nat->List Op->Bool
 |_,[]=>false
 |k,z::r=>cfB o v k z||cfF o v (k+1) r
theorem sG{o:Op}{v:Int}{k:Nat}{q:List Op}{z:Op}(h:q[k]? =some z):cfF o v k (q.drop k)=(cfB o v k z||cfF o v (k+1) (q.drop (k+1))):=by
 rw[dS h,cfF]
def DD(l:List Bk)(q:List Op)(v:Int)(o:Op):Bool:=if(o.t !=0)&&(jD l o.t==0)then false else if cfF o v 0 q then false else if o.k==2 then(o.t !=0)&&(jD l o.t !=12)&& !(TU (jD l o.t))else(o.t==0)||((jD l o.t !=11)&&(jD l o.t !=12)&& !(TU (jD l o.t)))
theorem YC(p:Pr)(l:List Bk)(a:Option Addr)(c:Nat)(q:List Op)(aQ:Option Addr)(k i:Nat)(v:Int)(hv:v=(i:Int))(w:World){U:View}(hU:See U w)(hl:cG U a l)(hq:fJ OpR 3 U aQ q)(o:Op)(ho:q[i]? =some o):CP 79 #[bnV p a l.length c,.slice aQ q.length k,.int .i64 v] w (Ret (.bool (DD l q v o)) w):=by
 have e6:=hq.len;unfold R47 at e6;have k8:=(L8.1 ho).1;refine dC 126 Tryz.func79 hU ?_;refine zs (zr (aW (λb0=>(zq 1 (zn (zQ 2 (dZ 11 (I6 v) (L6 i) (M0 (Value.int .i64) hv) ?_)))))));obtain⟨y1,e7⟩:∃y,(q)[i]? =some y:=⟨(q)[i]'oW,K8 _⟩;obtain⟨d,f,k2,rfl,j8,j5⟩:=hq.at_ i y1 e7;obtain rfl:=j5;obtain rfl:o=y1:=N5 (ho.symm.trans e7);refine cB (Pt d (f+i*3)) (rIx 71 rfl d f q.length k i 3) ?_;refine zU d (f+i*3) [(I6 o.k),(I6 o.n),(I6 o.t)] j8 71 (.tmp 12) _ Tryz.underlying71 rfl ?_;refine aW (λg=>(aX 1 g (zn (zB [1,0,2] [(b0,20),(g,1)] (cY 36 #[(bnV p a l.length c),(I6 o.t)] (I6 (jD l o.t)) (λW j=>FC p l _ _ o.t W j.view hl) ?_)))));let Y1:aH:=[(bK b0 (dO p a l.length c) 29),(bK g [(I6 o.k),(I6 o.n),(I6 o.t)] 71)];refine zq 1 (zn (zs (zB [0,2,0,0] [(g,1)] (jB 21 o.t 0 (λC e8=>?_) (λC e8=>?_)))))
 ·refine zq 3 (zn (fC (jD l o.t) 0 (λh1 _=>?_) (λh1 k5=>?_)))
  ·refine zQ 1 (zn (aA (aO [6] [qF] (λJ j=>?_))));exact⟨by unfold DD;simp only[dD,C,h1,bs,bQ,reduceIte],j.below⟩
  ·refine zk (zs (zQ 1 (zn (aB (eF (α:=Nat) (λx=>[1,2,6,7,8,9].zip [(Sl d f q.length k),(I6 v),qF,(Pt g 0),(I6 (jD l o.t)),(L6 x)]) (λx=>U) (λx=>Y1) (λx=>x<=q.length/\cfF o v x (q.drop x)=cfF o v 0 q) (λx=>q.length-x) 0 ?_ ?_)))))
   ·exact⟨M8 _,rfl⟩
   intro x hx;obtain⟨j9,F⟩:=hx;refine zs (zQ 4 (zn (aZ ((x:Int)<(q.length:Int)) (λh2 j0=>?_) (λh2 j0=>?_))))
   ·refine zk (zs (aB (zs ?_)));obtain⟨y3,b6⟩:∃y,(q)[x]? =some y:=⟨(q)[x]'oW,K8 _⟩;obtain⟨b3,f3,k3,e3,A,j6⟩:=hq.at_ x y3 b6;obtain rfl:=j6;cases e3;refine dG (α:=Bool) (λG=>[1,2,6,7,8,9,25,26,27,28,68].zip [(Sl d f q.length k),(I6 v),qF,(Pt g 0),(I6 (jD l o.t)),(L6 x),(L6 x),(Sl d f q.length k),(L6 q.length),(.bool (decide ((x:Int)<(q.length:Int)))),(.bool G)]) (λG=>U) (λG=>Y1) (λG=>G=(cf1 o v x y3)) ?_ ?_
    ·rcases N2 ((x:Int) !=v)with V|V
     ·have k6:=Q0.1 V;rcases N2 (y3.k==o.k)with Z|Z
      ·have j1:=eq_of_beq Z;rcases N2 (y3.t==o.t)with h5|h5
       ·have j2:=eq_of_beq h5;refine gI 8 [0,0,1,0,0,0,1,0,1,0,4,1,0,0,0,0,1,0,1,0,4,1,0,2,2,2,2,2,2,2,2,2,2,2] [(g,1),(g,1)] [.val qT,.val (Pt d (f+x*3)),.val (I6 y3.k),.val qT,.val (Pt d (f+x*3)),.val (I6 y3.t),.val qT] ⟨?_,?_,?_,?_,?_,?_,?_,trivial⟩ ?_
        ·exact vE (.bool ((x:Int) !=v)) (M0 Value.bool V)
        ·exact vR (rIx 71 rfl d f q.length k x 3)
        ·exact vU1 d (f+x*3+0) (A 0 _ rfl) 3 _ _ Tryz.underlying3 rfl
        ·exact vE (.bool (y3.k==o.k)) (M0 Value.bool Z)
        ·exact vR (rIx 71 rfl d f q.length k x 3)
        ·exact vU1 d (f+x*3+2) (A 2 _ rfl) 3 _ _ Tryz.underlying3 rfl
        ·exact vE (.bool (y3.t==o.t)) (M0 Value.bool h5)
        refine zq 4 (zn ?_);refine jn true ?_;unfold cf1;simp only[V,Z,h5,bs,bQ,reduceIte]
       ·have j2:=M2.1 h5;rcases N2 (o.k==2)with h6|h6
        ·have j3:=eq_of_beq h6;refine gI 8 [0,0,1,0,0,0,1,0,1,0,4,1,0,0,0,0,1,0,1,0,4,1,0,0,4,1,0,0,0,1,0,1,0,4] [(g,1),(g,1),(g,1),(g,1)] [.val qT,.val (Pt d (f+x*3)),.val (I6 y3.k),.val qT,.val (Pt d (f+x*3)),.val (I6 y3.t),.val qF,.val qT,.val (Pt d (f+x*3)),.val (I6 y3.n)] ⟨?_,?_,?_,?_,?_,?_,?_,?_,?_,?_,trivial⟩ ?_
         ·exact vE (.bool ((x:Int) !=v)) (M0 Value.bool V)
         ·exact vR (rIx 71 rfl d f q.length k x 3)
         ·exact vU1 d (f+x*3+0) (A 0 _ rfl) 3 _ _ Tryz.underlying3 rfl
         ·exact vE (.bool (y3.k==o.k)) (M0 Value.bool Z)
         ·exact vR (rIx 71 rfl d f q.length k x 3)
         ·exact vU1 d (f+x*3+2) (A 2 _ rfl) 3 _ _ Tryz.underlying3 rfl
         ·exact vE (.bool (y3.t==o.t)) (M0 Value.bool h5)
         ·exact vE (.bool (o.k==2)) (M0 Value.bool h6)
         ·exact vR (rIx 71 rfl d f q.length k x 3)
         ·exact vU1 d (f+x*3+1) (A 1 _ rfl) 3 _ _ Tryz.underlying3 rfl
         refine zq 4 (zn ?_);refine jn (y3.n==o.n) ?_;unfold cf1;simp only[V,Z,h5,h6,bs,bQ,reduceIte]
        ·have j3:=M2.1 h6;refine gI 8 [0,0,1,0,0,0,1,0,1,0,4,1,0,0,0,0,1,0,1,0,4,1,0,0,4,1,0,2,2,2,2,2,2,2] [(g,1),(g,1),(g,1)] [.val qT,.val (Pt d (f+x*3)),.val (I6 y3.k),.val qT,.val (Pt d (f+x*3)),.val (I6 y3.t),.val qF,.val qF] ⟨?_,?_,?_,?_,?_,?_,?_,?_,trivial⟩ ?_
         ·exact vE (.bool ((x:Int) !=v)) (M0 Value.bool V)
         ·exact vR (rIx 71 rfl d f q.length k x 3)
         ·exact vU1 d (f+x*3+0) (A 0 _ rfl) 3 _ _ Tryz.underlying3 rfl
         ·exact vE (.bool (y3.k==o.k)) (M0 Value.bool Z)
         ·exact vR (rIx 71 rfl d f q.length k x 3)
         ·exact vU1 d (f+x*3+2) (A 2 _ rfl) 3 _ _ Tryz.underlying3 rfl
         ·exact vE (.bool (y3.t==o.t)) (M0 Value.bool h5)
         ·exact vE (.bool (o.k==2)) (M0 Value.bool h6)
         refine zq 4 (zn ?_);refine jn false ?_;unfold cf1;simp only[V,Z,h5,h6,bs,bQ,reduceIte]
      ·have j1:=M2.1 Z;refine gI 8 [0,0,1,0,0,0,1,0,1,0,4,1,0,0,2,2,2,2,2,2,2,2,2,2,2,2,2,2,2,2,2,2,2,2] [(g,1)] [.val qT,.val (Pt d (f+x*3)),.val (I6 y3.k),.val qF] ⟨?_,?_,?_,?_,trivial⟩ ?_
       ·exact vE (.bool ((x:Int) !=v)) (M0 Value.bool V)
       ·exact vR (rIx 71 rfl d f q.length k x 3)
       ·exact vU1 d (f+x*3+0) (A 0 _ rfl) 3 _ _ Tryz.underlying3 rfl
       ·exact vE (.bool (y3.k==o.k)) (M0 Value.bool Z)
       refine zq 4 (zn ?_);refine jn false ?_;unfold cf1;simp only[V,Z,bs,bQ,reduceIte]
     ·refine gI 8 [0,0,1,0,2,2,2,2,2,2,2,2,0,0,2,2,2,2,2,2,2,2,2,2,2,2,2,2,2,2,2,2,2,2] [] [.val qF] ⟨?_,trivial⟩ ?_
      ·exact vE (.bool ((x:Int) !=v)) (M0 Value.bool V)
      refine zq 4 (zn ?_);refine jn false ?_;unfold cf1;simp only[V,bs,bQ,reduceIte]
    intro G hb8;refine gK G (λh7=>?_) (λh7=>?_)
    ·refine zQ 1 (zn (aA (aO [6] [qF] (λJ j=>?_))));have h:cfF o v 0 q=true:=by rw[<-F,sG b6,show cfB o v x y3=true by unfold cfB;rw[<-hb8,h7];rfl];rfl
     exact⟨by unfold DD;simp only[dD,h,C,h1,h7,ite_self,bs,bQ,reduceIte],j.below⟩
    ·refine zk ?_;refine dG (α:=Bool) (λK=>[1,2,6,7,8,9,25,26,27,28,68,94].zip [(Sl d f q.length k),(I6 v),qF,(Pt g 0),(I6 (jD l o.t)),(L6 x),(L6 x),(Sl d f q.length k),(L6 q.length),(.bool (decide ((x:Int)<(q.length:Int)))),(.bool G),(.bool K)]) (λK=>U) (λK=>Y1) (λK=>K=(cf2 o y3)) ?_ ?_
     ·rcases N2 (o.k==1)with h8|h8
      ·have k7:=eq_of_beq h8;rcases N2 (y3.k==2)with h9|h9
       ·have j4:=eq_of_beq h9;refine gI 7 [0,4,1,0,0,0,1,0,1,1,0,0,0,0,1,0,1,0,4] [(g,1),(g,1)] [.val qT,.val (Pt d (f+x*3)),.val (I6 y3.k),.val qT,.val (Pt d (f+x*3)),.val (I6 y3.t)] ⟨?_,?_,?_,?_,?_,?_,trivial⟩ ?_
        ·exact vE (.bool (o.k==1)) (M0 Value.bool h8)
        ·exact vR (rIx 71 rfl d f q.length k x 3)
        ·exact vU1 d (f+x*3+0) (A 0 _ rfl) 3 _ _ Tryz.underlying3 rfl
        ·exact vE (.bool (y3.k==2)) (M0 Value.bool h9)
        ·exact vR (rIx 71 rfl d f q.length k x 3)
        ·exact vU1 d (f+x*3+2) (A 2 _ rfl) 3 _ _ Tryz.underlying3 rfl
        refine zq 3 (jZ 90 y3.t o.t (λc0 c7=>?_) (λc0 c7=>?_))
        ·refine cF [0,2,0,0] [(g,1)] (zn ?_);refine jn (o.t !=0) ?_;unfold cf2;simp only[c0,h8,h9,bs,bQ,reduceIte]
        ·refine zq 4 (zn ?_);refine jn false ?_;unfold cf2;simp only[c0,h8,h9,bs,bQ,reduceIte]
       ·have j4:=M2.1 h9;refine gI 7 [0,4,1,0,0,0,1,0,1,1,0,0,2,2,2,2,2,2,2] [(g,1)] [.val qT,.val (Pt d (f+x*3)),.val (I6 y3.k),.val qF] ⟨?_,?_,?_,?_,trivial⟩ ?_
        ·exact vE (.bool (o.k==1)) (M0 Value.bool h8)
        ·exact vR (rIx 71 rfl d f q.length k x 3)
        ·exact vU1 d (f+x*3+0) (A 0 _ rfl) 3 _ _ Tryz.underlying3 rfl
        ·exact vE (.bool (y3.k==2)) (M0 Value.bool h9)
        refine zq 7 (zn ?_);refine jn false ?_;unfold cf2;simp only[h8,h9,bs,bQ,reduceIte]
      ·refine gI 7 [0,4,1,0,2,2,2,2,2,2,0,0,2,2,2,2,2,2,2] [(g,1)] [.val qF] ⟨?_,trivial⟩ ?_
       ·exact vE (.bool (o.k==1)) (M0 Value.bool h8)
       refine zq 7 (zn ?_);refine jn false ?_;unfold cf2;simp only[h8,bs,bQ,reduceIte]
     intro K a1;refine gK K (λa6=>?_) (λa6=>?_)
     ·refine zQ 1 (zn (aA (aO [6] [qF] (λJ j=>?_))));have h:cfF o v 0 q=true:=by rw[<-F,sG b6,show cfB o v x y3=true by unfold cfB;rw[<-hb8,<-a1,h7,a6];rfl];rfl
      exact⟨by unfold DD;simp only[dD,h,C,h1,a6,h7,ite_self,bs,bQ,reduceIte],j.below⟩
     ·refine zk (zr (zq 2 (dH 30 ((x:Int)+1) (zq 1 (zn ?_)))));refine nx (x+1) ?_ ?_
      ·exact⟨by omega,by rw[<-F,sG b6,show cfB o v x y3=false by unfold cfB;rw[<-hb8,<-a1,h7,a6];rfl];rfl⟩
      ·show q.length-(x+1)<q.length-x;omega
   ·refine aI (zs (zs (zr ?_)));have h:cfF o v 0 q=false:=by rw[<-F,cZ oW];rfl
    refine cF [0,2,0] [(g,1)] (zn (gK (o.k==2) (λL=>?_) (λL=>?_)))
    ·refine zB [0,2,0,0] [(g,1)] (dZ 101 (.bool (o.t !=0)) qT (M0 Value.bool C) ?_);refine zq 4 (cN 105 ((jD l o.t) !=12) (λc1=>?_) (λc1=>?_))
     ·refine zq 1 (dN (λW j=>oM (jD l o.t) W) (zq 3 (zn (aA (aO [6] [(.bool (!(TU (jD l o.t))))] (λJ j=>?_))))));exact⟨by unfold DD;simp only[dD,h,C,h1,L,c1,bs,bQ,reduceIte],j.below⟩
     ·refine zq 5 (zn (aA (aO [6] [qF] (λJ j=>?_))));exact⟨by unfold DD;simp only[dD,h,C,h1,L,c1,bs,bQ,reduceIte],j.below⟩
    ·refine zk (zB [0,2,0,0] [(g,1)] (cN 113 (o.t==0) (λX=>?_) (λX=>?_)))
     ·refine zq 13 (zn (aA (aO [6] [qT] (λJ j=>?_))));exact⟨by unfold DD;simp only[dD,h,C,h1,L,X,bs,bQ,reduceIte],j.below⟩
     ·refine zq 3 (cN 116 ((jD l o.t) !=11) (λa7=>?_) (λa7=>?_))
      ·refine zq 4 (cN 120 ((jD l o.t) !=12) (λc2=>?_) (λc2=>?_))
       ·refine zq 1 (dN (λW j=>oM (jD l o.t) W) (zq 4 (zn (aA (aO [6] [(.bool (!(TU (jD l o.t))))] (λJ j=>?_))))));exact⟨by unfold DD;simp only[dD,h,C,h1,L,X,a7,c2,bs,bQ,reduceIte],j.below⟩
       ·refine zq 6 (zn (aA (aO [6] [qF] (λJ j=>?_))));exact⟨by unfold DD;simp only[dD,h,C,h1,L,X,a7,c2,bs,bQ,reduceIte],j.below⟩
      ·refine zq 10 (zn (aA (aO [6] [qF] (λJ j=>?_))));exact⟨by unfold DD;simp only[dD,h,C,h1,L,X,a7,bs,bQ,reduceIte],j.below⟩
 ·refine zq 3 (zn (cU (zk (zs (zQ 1 (zn (aB (eF (α:=Nat) (λx=>[1,2,6,7,8,9].zip [(Sl d f q.length k),(I6 v),qF,(Pt g 0),(I6 (jD l o.t)),(L6 x)]) (λx=>U) (λx=>Y1) (λx=>x<=q.length/\cfF o v x (q.drop x)=cfF o v 0 q) (λx=>q.length-x) 0 ?_ ?_))))))))
  ·exact⟨M8 _,rfl⟩
  intro x hx;obtain⟨j9,F⟩:=hx;refine zs (zQ 4 (zn (aZ ((x:Int)<(q.length:Int)) (λe9 c8=>?_) (λe9 c8=>?_))))
  ·refine zk (zs (aB (zs ?_)));obtain⟨y4,b7⟩:∃y,(q)[x]? =some y:=⟨(q)[x]'oW,K8 _⟩;obtain⟨b4,f4,k4,e4,B,j7⟩:=hq.at_ x y4 b7;obtain rfl:=j7;cases e4;refine dG (α:=Bool) (λG=>[1,2,6,7,8,9,25,26,27,28,68].zip [(Sl d f q.length k),(I6 v),qF,(Pt g 0),(I6 (jD l o.t)),(L6 x),(L6 x),(Sl d f q.length k),(L6 q.length),(.bool (decide ((x:Int)<(q.length:Int)))),(.bool G)]) (λG=>U) (λG=>Y1) (λG=>G=(cf1 o v x y4)) ?_ ?_
   ·rcases N2 ((x:Int) !=v)with r|r
    ·have k0:=Q0.1 r;rcases N2 (y4.k==o.k)with u|u
     ·have c9:=eq_of_beq u;rcases N2 (y4.t==o.t)with D|D
      ·have e0:=eq_of_beq D;refine gI 8 [0,0,1,0,0,0,1,0,1,0,4,1,0,0,0,0,1,0,1,0,4,1,0,2,2,2,2,2,2,2,2,2,2,2] [(g,1),(g,1)] [.val qT,.val (Pt d (f+x*3)),.val (I6 y4.k),.val qT,.val (Pt d (f+x*3)),.val (I6 y4.t),.val qT] ⟨?_,?_,?_,?_,?_,?_,?_,trivial⟩ ?_
       ·exact vE (.bool ((x:Int) !=v)) (M0 Value.bool r)
       ·exact vR (rIx 71 rfl d f q.length k x 3)
       ·exact vU1 d (f+x*3+0) (B 0 _ rfl) 3 _ _ Tryz.underlying3 rfl
       ·exact vE (.bool (y4.k==o.k)) (M0 Value.bool u)
       ·exact vR (rIx 71 rfl d f q.length k x 3)
       ·exact vU1 d (f+x*3+2) (B 2 _ rfl) 3 _ _ Tryz.underlying3 rfl
       ·exact vE (.bool (y4.t==o.t)) (M0 Value.bool D)
       refine zq 4 (zn ?_);refine jn true ?_;unfold cf1;simp only[r,u,D,bs,bQ,reduceIte]
      ·have e0:=M2.1 D;rcases N2 (o.k==2)with M|M
       ·have e1:=eq_of_beq M;refine gI 8 [0,0,1,0,0,0,1,0,1,0,4,1,0,0,0,0,1,0,1,0,4,1,0,0,4,1,0,0,0,1,0,1,0,4] [(g,1),(g,1),(g,1),(g,1)] [.val qT,.val (Pt d (f+x*3)),.val (I6 y4.k),.val qT,.val (Pt d (f+x*3)),.val (I6 y4.t),.val qF,.val qT,.val (Pt d (f+x*3)),.val (I6 y4.n)] ⟨?_,?_,?_,?_,?_,?_,?_,?_,?_,?_,trivial⟩ ?_
        ·exact vE (.bool ((x:Int) !=v)) (M0 Value.bool r)
        ·exact vR (rIx 71 rfl d f q.length k x 3)
        ·exact vU1 d (f+x*3+0) (B 0 _ rfl) 3 _ _ Tryz.underlying3 rfl
        ·exact vE (.bool (y4.k==o.k)) (M0 Value.bool u)
        ·exact vR (rIx 71 rfl d f q.length k x 3)
        ·exact vU1 d (f+x*3+2) (B 2 _ rfl) 3 _ _ Tryz.underlying3 rfl
        ·exact vE (.bool (y4.t==o.t)) (M0 Value.bool D)
        ·exact vE (.bool (o.k==2)) (M0 Value.bool M)
        ·exact vR (rIx 71 rfl d f q.length k x 3)
        ·exact vU1 d (f+x*3+1) (B 1 _ rfl) 3 _ _ Tryz.underlying3 rfl
        refine zq 4 (zn ?_);refine jn (y4.n==o.n) ?_;unfold cf1;simp only[r,u,D,M,bs,bQ,reduceIte]
       ·have e1:=M2.1 M;refine gI 8 [0,0,1,0,0,0,1,0,1,0,4,1,0,0,0,0,1,0,1,0,4,1,0,0,4,1,0,2,2,2,2,2,2,2] [(g,1),(g,1),(g,1)] [.val qT,.val (Pt d (f+x*3)),.val (I6 y4.k),.val qT,.val (Pt d (f+x*3)),.val (I6 y4.t),.val qF,.val qF] ⟨?_,?_,?_,?_,?_,?_,?_,?_,trivial⟩ ?_
        ·exact vE (.bool ((x:Int) !=v)) (M0 Value.bool r)
        ·exact vR (rIx 71 rfl d f q.length k x 3)
        ·exact vU1 d (f+x*3+0) (B 0 _ rfl) 3 _ _ Tryz.underlying3 rfl
        ·exact vE (.bool (y4.k==o.k)) (M0 Value.bool u)
        ·exact vR (rIx 71 rfl d f q.length k x 3)
        ·exact vU1 d (f+x*3+2) (B 2 _ rfl) 3 _ _ Tryz.underlying3 rfl
        ·exact vE (.bool (y4.t==o.t)) (M0 Value.bool D)
        ·exact vE (.bool (o.k==2)) (M0 Value.bool M)
        refine zq 4 (zn ?_);refine jn false ?_;unfold cf1;simp only[r,u,D,M,bs,bQ,reduceIte]
     ·have c9:=M2.1 u;refine gI 8 [0,0,1,0,0,0,1,0,1,0,4,1,0,0,2,2,2,2,2,2,2,2,2,2,2,2,2,2,2,2,2,2,2,2] [(g,1)] [.val qT,.val (Pt d (f+x*3)),.val (I6 y4.k),.val qF] ⟨?_,?_,?_,?_,trivial⟩ ?_
      ·exact vE (.bool ((x:Int) !=v)) (M0 Value.bool r)
      ·exact vR (rIx 71 rfl d f q.length k x 3)
      ·exact vU1 d (f+x*3+0) (B 0 _ rfl) 3 _ _ Tryz.underlying3 rfl
      ·exact vE (.bool (y4.k==o.k)) (M0 Value.bool u)
      refine zq 4 (zn ?_);refine jn false ?_;unfold cf1;simp only[r,u,bs,bQ,reduceIte]
    ·refine gI 8 [0,0,1,0,2,2,2,2,2,2,2,2,0,0,2,2,2,2,2,2,2,2,2,2,2,2,2,2,2,2,2,2,2,2] [] [.val qF] ⟨?_,trivial⟩ ?_
     ·exact vE (.bool ((x:Int) !=v)) (M0 Value.bool r)
     refine zq 4 (zn ?_);refine jn false ?_;unfold cf1;simp only[r,bs,bQ,reduceIte]
   intro G hb8;refine gK G (λN=>?_) (λN=>?_)
   ·refine zQ 1 (zn (aA (aO [6] [qF] (λJ j=>?_))));have h:cfF o v 0 q=true:=by rw[<-F,sG b7,show cfB o v x y4=true by unfold cfB;rw[<-hb8,N];rfl];rfl
    exact⟨by unfold DD;simp only[dD,h,C,N,ite_self,bs,bQ,reduceIte],j.below⟩
   ·refine zk ?_;refine dG (α:=Bool) (λK=>[1,2,6,7,8,9,25,26,27,28,68,94].zip [(Sl d f q.length k),(I6 v),qF,(Pt g 0),(I6 (jD l o.t)),(L6 x),(L6 x),(Sl d f q.length k),(L6 q.length),(.bool (decide ((x:Int)<(q.length:Int)))),(.bool G),(.bool K)]) (λK=>U) (λK=>Y1) (λK=>K=(cf2 o y4)) ?_ ?_
    ·rcases N2 (o.k==1)with E|E
     ·have k1:=eq_of_beq E;rcases N2 (y4.k==2)with I|I
      ·have e2:=eq_of_beq I;refine gI 7 [0,4,1,0,0,0,1,0,1,1,0,0,0,0,1,0,1,0,4] [(g,1),(g,1)] [.val qT,.val (Pt d (f+x*3)),.val (I6 y4.k),.val qT,.val (Pt d (f+x*3)),.val (I6 y4.t)] ⟨?_,?_,?_,?_,?_,?_,trivial⟩ ?_
       ·exact vE (.bool (o.k==1)) (M0 Value.bool E)
       ·exact vR (rIx 71 rfl d f q.length k x 3)
       ·exact vU1 d (f+x*3+0) (B 0 _ rfl) 3 _ _ Tryz.underlying3 rfl
       ·exact vE (.bool (y4.k==2)) (M0 Value.bool I)
       ·exact vR (rIx 71 rfl d f q.length k x 3)
       ·exact vU1 d (f+x*3+2) (B 2 _ rfl) 3 _ _ Tryz.underlying3 rfl
       refine zq 3 (jZ 90 y4.t o.t (λc4 e5=>?_) (λc4 e5=>?_))
       ·refine cF [0,2,0,0] [(g,1)] (zn ?_);refine jn (o.t !=0) ?_;unfold cf2;simp only[E,I,c4,bs,bQ,reduceIte]
       ·refine zq 4 (zn ?_);refine jn false ?_;unfold cf2;simp only[E,I,c4,bs,bQ,reduceIte]
      ·have e2:=M2.1 I;refine gI 7 [0,4,1,0,0,0,1,0,1,1,0,0,2,2,2,2,2,2,2] [(g,1)] [.val qT,.val (Pt d (f+x*3)),.val (I6 y4.k),.val qF] ⟨?_,?_,?_,?_,trivial⟩ ?_
       ·exact vE (.bool (o.k==1)) (M0 Value.bool E)
       ·exact vR (rIx 71 rfl d f q.length k x 3)
       ·exact vU1 d (f+x*3+0) (B 0 _ rfl) 3 _ _ Tryz.underlying3 rfl
       ·exact vE (.bool (y4.k==2)) (M0 Value.bool I)
       refine zq 7 (zn ?_);refine jn false ?_;unfold cf2;simp only[E,I,bs,bQ,reduceIte]
     ·refine gI 7 [0,4,1,0,2,2,2,2,2,2,0,0,2,2,2,2,2,2,2] [(g,1)] [.val qF] ⟨?_,trivial⟩ ?_
      ·exact vE (.bool (o.k==1)) (M0 Value.bool E)
      refine zq 7 (zn ?_);refine jn false ?_;unfold cf2;simp only[E,bs,bQ,reduceIte]
    intro K a1;refine gK K (λa8=>?_) (λa8=>?_)
    ·refine zQ 1 (zn (aA (aO [6] [qF] (λJ j=>?_))));have h:cfF o v 0 q=true:=by rw[<-F,sG b7,show cfB o v x y4=true by unfold cfB;rw[<-hb8,<-a1,N,a8];rfl];rfl
     exact⟨by unfold DD;simp only[dD,h,C,N,a8,ite_self,bs,bQ,reduceIte],j.below⟩
    ·refine zk (zr (zq 2 (dH 30 ((x:Int)+1) (zq 1 (zn ?_)))));refine nx (x+1) ?_ ?_
     ·exact⟨by omega,by rw[<-F,sG b7,show cfB o v x y4=false by unfold cfB;rw[<-hb8,<-a1,N,a8];rfl];rfl⟩
     ·show q.length-(x+1)<q.length-x;omega
  ·refine aI (zs (zs (zr ?_)));have h:cfF o v 0 q=false:=by rw[<-F,cZ oW];rfl
   refine cF [0,2,0] [(g,1)] (zn (gK (o.k==2) (λO=>?_) (λO=>?_)))
   ·refine zB [0,2,0,0] [(g,1)] (dZ 101 (.bool (o.t !=0)) qF (M0 Value.bool C) ?_);refine zq 9 (zn (aA (aO [6] [qF] (λJ j=>?_))));exact⟨by unfold DD;simp only[dD,h,C,O,bs,bQ,reduceIte],j.below⟩
   ·refine zk (zB [0,2,0,0] [(g,1)] (cN 113 (o.t==0) (λY=>?_) (λY=>?_)))
    ·refine zq 13 (zn (aA (aO [6] [qT] (λJ j=>?_))));exact⟨by unfold DD;simp only[dD,h,C,O,Y,bs,bQ,reduceIte],j.below⟩
    ·refine zq 3 (cN 116 ((jD l o.t) !=11) (λb5=>?_) (λb5=>?_))
     ·refine zq 4 (cN 120 ((jD l o.t) !=12) (λc6=>?_) (λc6=>?_))
      ·refine zq 1 (dN (λW j=>oM (jD l o.t) W) (zq 4 (zn (aA (aO [6] [(.bool (!(TU (jD l o.t))))] (λJ j=>?_))))));exact⟨by unfold DD;simp only[dD,h,C,O,Y,b5,c6,bs,bQ,reduceIte],j.below⟩
      ·refine zq 6 (zn (aA (aO [6] [qF] (λJ j=>?_))));exact⟨by unfold DD;simp only[dD,h,C,O,Y,b5,c6,bs,bQ,reduceIte],j.below⟩
     ·refine zq 10 (zn (aA (aO [6] [qF] (λJ j=>?_))));exact⟨by unfold DD;simp only[dD,h,C,O,Y,b5,bs,bQ,reduceIte],j.below⟩
def onF(l:List Bk)(q:List Op):Nat->List Op->Bool
 |_,[]=>true
 |i,o::r=>DD l q (i:Int) o&&onF l q (i+1) r
theorem VQ{l:List Bk}{q m:List Op}{i:Nat}{o:Op}(h:m[i]? =some o):onF l q i (m.drop i)=(DD l q (i:Int) o&&onF l q (i+1) (m.drop (i+1))):=by
 rw[dS h,onF]
def Xk(l:List Bk)(q:List Op):Int:=if onF l q 0 q then 0 else 8
theorem DB(p:Pr)(l:List Bk)(a:Option Addr)(c:Nat)(q:List Op)(k:Option Addr)(u:Nat)(w:World){U:View}(F:See U w)(G:cG U a l)(C:fJ OpR 3 U k q):CP 35 #[bnV p a l.length c,.slice k q.length u] w (Ret (.int .i64 (Xk l q)) w):=by
 have h:=C.len;unfold R47 at h;refine dC 17 Tryz.func35 F ?_;refine zs (zr (aW (λr=>(zq 1 (zn (zs (zQ 1 (zn (aB (eF (α:=Nat) (λx=>[1,2,4,5].zip [(.slice k q.length u),(Pt r 0),(I6 0),(L6 x)]) (λx=>U) (λx=>[(bK r (dO p a l.length c) 29)]) (λx=>x<=q.length/\onF l q x (q.drop x)=onF l q 0 q) (λx=>q.length-x) 0 ?_ ?_))))))))))
 ·exact⟨M8 _,rfl⟩
 intro x I;obtain⟨J,f⟩:=I;refine zs (zQ 4 (zn (aZ ((x:Int)<(q.length:Int)) (λE A=>?_) (λE A=>?_))))
 ·refine zk (zs (aB (zB [1,0,0] [(r,20)] ?_)));obtain⟨j,d⟩:∃y,q[x]? =some y:=⟨q[x]'oW,K8 _⟩;refine cY 79 #[(bnV p a l.length c),(.slice k q.length u),(L6 x)] (.bool (DD l q (x:Int) j)) (λW g=>YC p l _ _ q _ _ x _ rfl W g.view G C j d) ?_;refine zq 1 (zn (gK (!(DD l q (x:Int) j)) (λB=>?_) (λB=>?_)))
  ·refine zQ 1 (zn (aA (aO [4] [(I6 8)] (λD g=>?_))));refine⟨?_,g.below⟩;unfold Xk;rw[<-f,VQ d,show DD l q (x:Int) j=false by simpa using B];rfl
  ·refine zk (zr (zq 2 (dH 11 ((x:Int)+1) (zq 1 (zn ?_)))));refine nx (x+1) ?_ ?_
   ·exact⟨by omega,by rw[<-f,VQ d,show DD l q (x:Int) j=true by simpa using B];rfl⟩
   ·show q.length-(x+1)<q.length-x;omega
 ·refine aI (zQ 1 (zn (aA (aO [4] [(I6 0)] (λD g=>?_)))));refine⟨?_,g.below⟩;unfold Xk;rw[<-f,cZ oW];rfl
noncomputable def NK(p:Pr)(l:List Bk):Int:=if aK p l !=0 then aK p l else match QV l with
 |none=>2
 |some q=>if(l.any scB)&&((((p.f:Int)).tmod 2)==1)then 8 else Xk l q
theorem DA(p:Pr)(l:List Bk)(a:Option Addr)(c:Nat)(w:World){U:View}(X:See U w)(Y:p.ok)(V:cG U a l)(j:∀x∈l,x.d.length<=100000)(E:l.length<=1000):CP 11 #[bnV p a l.length c] w (fV w U λv _=>v=.int .i64 (NK p l)):=by
 refine dC 30 Tryz.func11 X ?_;refine zs (zr (aW (λr=>(zq 1 (zn (zs (zB [1] [(r,20)] (oI 28 #[(bnV p a l.length c)] (λv _=>v=.int .i64 (aK p l)) (λW d=>rE p l _ _ W d.view Y V (λx Z=>by have:=j x Z;omega)) (λv1 V1 g L=>?_)))))))));have N:=V.le g;obtain rfl:=L;refine zq 1 (zn (zQ 2 (zn (gK ((aK p l) !=0) (λu=>?_) (λu=>?_)))))
 ·refine zQ 2 (zn (aA (aO [2] [(I6 (aK p l))] (λG d=>?_))));have f:NK p l=(aK p l):=by
   unfold NK;rw[N1 u]
  rw[f];exact aJ d g rfl
 ·refine zk (zB [1] [(r,20)] ?_);rcases N2 ((QV l).isSome)with J|J
  ·refine oI 29 #[(bnV p a l.length c)] (Dx (QV l)) (λW d=>rW p l _ _ W d.view N j E) (λv3 V3 h C=>?_);have O:=N.le h;obtain⟨q,k⟩:=P4.1 J;rw[k]at C;obtain⟨F,A,rfl,B⟩:=C;refine zq 5 (zn (zs (zQ 2 (zn (cU (zk (zs (zB [1] [(r,20)] (cY 34 #[(bnV p a l.length c)] (.bool (l.any scB)) (λW d=>SE p l _ _ W d.view O) ?_)))))))));refine zq 1 (cN 20 (l.any scB) (λI=>?_) (λI=>?_))
   ·refine cF [0,0,1,0,0,0] [(r,1)] (zn (gK ((((p.f:Int)).tmod 2)==1) (λK=>?_) (λK=>?_)))
    ·refine zQ 1 (zn (aA (aO [2] [(I6 8)] (λG d=>?_))));have f:NK p l=8:=by
      unfold NK;rw[M5 (by rw[u];exact M3),k];simp only[I,K,bs,bQ,reduceIte]
     rw[f];exact aJ d (View.le_trans g h) rfl
    ·refine zk (zB [1,0] [(r,20)] (cY 35 #[(bnV p a l.length c),(.slice F q.length A)] (I6 (Xk l q)) (λW d=>DB p l _ _ q _ _ W d.view O B) ?_));refine zq 1 (zn (aA (aO [2] [(I6 (Xk l q))] (λG d=>?_))));have f:NK p l=(Xk l q):=by
      unfold NK;rw[M5 (by rw[u];exact M3),k];simp only[I,K,bs,bQ,reduceIte]
     rw[f];exact aJ d (View.le_trans g h) rfl
   ·refine zq 6 (zn (cU (zk (zB [1,0] [(r,20)] (cY 35 #[(bnV p a l.length c),(.slice F q.length A)] (I6 (Xk l q)) (λW d=>DB p l _ _ q _ _ W d.view O B) ?_)))));refine zq 1 (zn (aA (aO [2] [(I6 (Xk l q))] (λG d=>?_))));have f:NK p l=(Xk l q):=by
     unfold NK;rw[M5 (by rw[u];exact M3),k];simp only[I,bs,bQ,reduceIte]
    rw[f];exact aJ d (View.le_trans g h) rfl
  ·refine oI 29 #[(bnV p a l.length c)] (Dx (QV l)) (λW d=>rW p l _ _ W d.view N j E) (λv5 V5 M D=>?_);have k:=Q6.1 (by rw[J];exact M3);rw[k]at D;obtain rfl:=D;refine zq 5 (zn (zs (zQ 2 (zn (dM (zQ 1 (zn (aA (aO [2] [(I6 2)] (λG d=>?_))))))))));have f:NK p l=2:=by
    unfold NK;rw[M5 (by rw[u];exact M3),k]
   rw[f];exact aJ d (View.le_trans g M) rfl
theorem Xw:∀(l:List Bk),stF l=(fY 12 2 2 (λ_=>false) l).map (·.map Op.t)
 | []=>rfl
 |x::l=>by
  rw[stF,fY,Bool.or_false,Xw l];cases g:x.t !=12 with
  |true=>rfl
  |false=>
   simp only[N9,if_false];cases f:dI x.d with
   |none=>rfl
   |some a=>
    simp only;cases d:a.c !=2 with
    |true=>rfl
    |false=>
     simp only[N9,if_false];cases fY 12 2 2 (λ_=>false) l with
     |none=>rfl
     |some r=>
      simp only[U4,P6];rw[show(opsOf 2 x.n a.t).map Op.t=a.t by unfold opsOf;rw[List.map_map];exact List.map_id _]
theorem eZ{j d f:Int}{g:Bk->Bool}:∀{l:List Bk} {q:List Op},fY j d f g l=some q->∀o∈q,o.k=d
 | [],q,h=>by
  rw[fY]at h;obtain rfl:=N5 h;intro o ho;cases ho
 |x::l,q,h=>by
  rw[fY]at h;split at h
  ·exact eZ h
  ·split at h
   ·cases h
   ·next a u=>
    split at h
    ·cases h
    ·split at h
     ·cases h
     ·next r k=>
      obtain rfl:=N5 h;intro o ho;rcases S3.1 ho with ho|ho
      ·unfold opsOf at ho;obtain⟨t,_,rfl⟩:=S1.1 ho;rfl
      ·exact eZ k o ho
theorem Ng{se:List Op}(h:∀o∈se,o.k=2)(n:Int):(se.map Op.t).contains n=dE se 2 n:=by
 induction se with
 |nil=>rfl
 |cons o r d=>
  have d:=d λx f=>h x (P3 _ f)
  unfold dE at d ⊢;rw[R2,List.contains_cons,Z7,d,h o Q3,Bool.beq_comm (a:=n)];rfl
theorem SX(l:List Bk):QV l=qQ l:=by
 unfold QV qQ;rw[Xw];cases hs:fY 12 2 2 (λ_=>false) l with
 |none=>rfl
 |some se=>
  have f:=eZ hs;have a:PD (se.map Op.t) 12=λ_=>false:=by funext x;rfl
  have d:PD (se.map Op.t) 11=λx=>dE se 2 x.n:=by
   funext x;unfold PD;rw[Ng f];rfl
  simp only[U4];unfold Jr;simp only[ax,if_true];rw[a,d,hs];unfold Nl;simp only;cases fY 11 1 1 (λx=>dE se 2 x.n) l<;>rfl
theorem Wm{l:List Bk}{q:List Op}(h:qQ l=some q):∀o∈q,o.k=1\/o.k=2:=by
 unfold qQ at h;split at h
 ·cases h
 ·next se hs=>
  split at h
  ·cases h
  ·next si a=>
   obtain rfl:=N5 h;intro o ho;rcases S3.1 ho with ho|ho
   ·exact .inr (eZ hs o ho)
   ·exact .inl (eZ a o ho)
theorem Wi{l:List Bk}{q:List Op}:∀(m:List Op) (i:Nat),onF l q i m=true↔∀j o,m[j]? =some o->DD l q ((i+j:Nat):Int) o=true
 | [],i=>by simp[onF]
 |x::m,i=>by
  rw[onF,L5,Wi m (i+1)];constructor
  ·rintro⟨d,f⟩ j o a;cases j with
   |zero=>cases a;exact d
   |succ j=>rw[show i+(j+1)=i+1+j by omega];exact f j o a
  ·intro h;exact⟨h 0 x rfl,λj o a=>by rw[show i+1+j=i+(j+1) by omega];exact h (j+1) o a⟩
theorem TW{o:Op}{v:Int}:∀(m:List Op) (i:Nat),cfF o v i m=false↔∀j z,m[j]? =some z->cfB o v (i+j) z=false
 | [],i=>by simp[cfF]
 |x::m,i=>by
  rw[cfF,Bool.or_eq_false_iff,TW m (i+1)];constructor
  ·rintro⟨d,f⟩ j o a;cases j with
   |zero=>cases a;exact d
   |succ j=>rw[show i+(j+1)=i+1+j by omega];exact f j o a
  ·intro h;exact⟨h 0 x rfl,λj o a=>by rw[show i+1+j=i+(j+1) by omega];exact h (j+1) o a⟩
theorem FR:∀(q pre:List Op),FT pre q=true↔∀j z,q[j]? =some z->dE (pre++q.take j) z.k z.t=false
 | [],pre=>by simp[FT]
 |o::r,pre=>by
  rw[FT];constructor
  ·intro h j z a;split at h
   ·cases h
   ·next g=>
    cases j with
    |zero=>cases a;rw[S6,M1];simpa using g
    |succ j=>rw[S9,<-W2,<-M6];exact(FR r (pre++[o])).1 h j z a
  ·intro h;have d:=h 0 o rfl;rw[S6,M1]at d;rw[M5 (by rw[d];exact M3)];refine(FR r (pre++[o])).2 λj z a=>?_
   have f:=h (j+1) z a;rw[S9,<-W2,<-M6]at f;exact f
def slB(l:List Bk)(pre:List Op)(o:Op):Bool:=(pre.any λq=>q.k==2&&q.n==o.n)||o.t==0||(fI l o.t).1.t==12||BA (fI l o.t).1
theorem BP{l:List Bk}:∀(q pre:List Op),mZ l pre q=true↔∀j z,q[j]? =some z->z.k=2->slB l (pre++q.take j) z=false
 | [],pre=>by simp[mZ]
 |o::r,pre=>by
  rw[mZ];constructor
  ·intro h j z a d;cases j with
   |zero=>
    cases a;rw[S6,M1];rw[M5 (by rw[d];decide)]at h;split at h
    ·cases h
    ·next A=>unfold slB;simpa using A
   |succ j=>
    rw[S9,<-W2,<-M6];refine(BP r (pre++[o])).1 ?_ j z a d;split at h
    ·exact h
    ·split at h
     ·cases h
     ·exact h
  ·intro h;have k:mZ l (pre++[o]) r=true:=(BP r (pre++[o])).2 λj z a d=>by
    have g:=h (j+1) z a d;rw[S9,<-W2,<-M6]at g;exact g
   split
   ·exact k
   ·next u=>
    have f:=h 0 o rfl (by simpa using u);rw[S6,M1]at f;unfold slB at f;rw[M5 (by rw[f];exact M3)];exact k
theorem EI{q:List Op}{f:Op->Bool}{j:Nat}(h:(q.take j).any f=false){i:Nat}{o:Op}(a:i<j)(ho:q[i]? =some o):f o=false:=by
 rw[List.any_eq_false]at h;have:=h o (K9 (i:=i) (by rw[List.getElem?_take_of_lt a];exact ho));simpa using this
theorem QM{q:List Op}{f:Op->Bool}{j:Nat}(h:∀i o,i<j->q[i]? =some o->f o=false):(q.take j).any f=false:=by
 rw[List.any_eq_false];intro o ho;obtain⟨i,a⟩:=R8.1 ho;by_cases d:i<j
 ·rw[List.getElem?_take_of_lt d]at a;rw[h i o d a];exact M3
 ·rw[Z9 (by rw[O3];omega)]at a;cases a
theorem DS{l:List Bk}(g:∀x∈l,x.t≠0)(n:Int):(fI l n).1.t=jD l n/\((fI l n).2= !(jD l n==0))/\(∀x,x=(fI l n).1->XS x=(jD l n==11||jD l n==12)/\BA x=TU (jD l n)):=by
 by_cases h:jC l n<0
 ·have e:jD l n=0:=by unfold jD;rw[N1 h]
  rw[e,EC h];exact⟨rfl,rfl,λx a=>by subst a;exact⟨rfl,rfl⟩⟩
 ·have e:jD l n=(fI l n).1.t:=by unfold jD;rw[M5 h]
  obtain⟨f,k⟩:=GJ h;have d:=AU h (K8 f);have j:(fI l n).1.t≠0:=by rw[d];exact g _ (List.getElem_mem _)
  refine⟨e.symm,?_,λx a=>?_⟩
  ·rw[e,M2.2 j,d];rfl
  ·subst a;rw[e];exact⟨rfl,rfl⟩
theorem Je{l:List Bk}{q:List Op}(Z:∀x∈l,x.t≠0)(hK:∀o∈q,o.k=1\/o.k=2):onF l q 0 q=(IS l q&&FT [] q&&mZ l [] q&&IX l q):=by
 rw[T7,Wi];simp only[L5,FR,BP,R0,O0];unfold IS IX;rw[M7,M7];constructor
 ·intro h;have hh:∀(j:Nat) (o:Op),q[j]? =some o->((o.t !=0)&&(jD l o.t==0))=false/\cfF o (j:Int) 0 q=false/\(if o.k==2 then(o.t !=0)&&(jD l o.t !=12)&& !(TU (jD l o.t))else(o.t==0)||((jD l o.t !=11)&&(jD l o.t !=12)&& !(TU (jD l o.t))))=true:=by
   intro j o d;have a:=h j o d;unfold DD at a;split at a
   ·cases a
   ·next g=>
    split at a
    ·cases a
    ·next r=>exact⟨by simpa using g,by simpa using r,a⟩
  have A:∀(j:Nat) (o:Op) (k:Nat) (z:Op),q[j]? =some o->q[k]? =some z->cfB o (j:Int) k z=false:=by
   intro j o k z d f;have:=(TW q 0).1 (hh j o d).2.1 k z f;rwa[O0]at this
  refine⟨⟨⟨?_,?_⟩,?_⟩,?_⟩
  ·intro o ho;obtain⟨j,d⟩:=R8.1 ho;have a:=(hh j o d).1;rw[(DS Z o.t).2.1];cases B:jD l o.t==0 with
   |false=>rfl
   |true=>rw[B]at a;simpa using a
  ·intro j z d;refine QM λi o hi ho=>?_
   have a:=A j z i o d ho;unfold cfB cf1 at a;rw[Bool.or_eq_false_iff]at a;have g:=a.1;have a8:((i:Int) !=(j:Int))=true:=Q0.2 oW;rw[a8,R9]at g;cases B:o.k==z.k with
   |false=>rfl
   |true=>
    rw[B,R9]at g;rw[R9];exact(Bool.or_eq_false_iff.1 g).1
  ·intro j z d J;have a:=(hh j z d).2.2;rw[N1 (by rw[J];rfl)]at a;simp only[L5]at a;obtain⟨⟨D,a2⟩,a3⟩:=a;obtain⟨X,_,K⟩:=DS Z z.t;have L:=(K _ rfl).2;unfold slB;rw[X,L];have N:(z.t==0)=false:=by simpa using D
   have O:(jD l z.t==12)=false:=by simpa using a2
   have V:TU (jD l z.t)=false:=by simpa using a3
   rw[N,O,V,QM λi o hi ho=>?_]
   ·rfl
   ·have a:=A j z i o d ho;unfold cfB cf1 at a;rw[Bool.or_eq_false_iff]at a;have g:=a.1;rw[show((i:Int) !=(j:Int))=true from Q0.2 oW,R9,J]at g;cases B:o.k==2 with
    |false=>rfl
    |true=>
     rw[B,R9,Bool.or_eq_false_iff]at g;have r:=g.2;rw[show((2:Int)==2)=true from rfl,R9]at r;rw[R9];exact r
  ·intro o ho;obtain⟨j,d⟩:=R8.1 ho;unfold ET;rcases hK o ho with f|f
   ·have a:=(hh j o d).2.2;rw[M5 (by rw[f];decide)]at a;rw[show(o.k !=1)=false by rw[f];rfl,R5];cases I:o.t==0 with
    |true=>rfl
    |false=>
     rw[I,R5]at a;simp only[L5]at a;obtain⟨⟨D,a2⟩,a3⟩:=a;obtain⟨X,_,K⟩:=DS Z o.t;obtain⟨L,Y⟩:=K _ rfl;have N:(jD l o.t==11)=false:=by simpa using D
     have O:(jD l o.t==12)=false:=by simpa using a2
     have V:TU (jD l o.t)=false:=by simpa using a3
     have M:dE q 2 o.t=false:=by
      unfold dE;rw[List.any_eq_false];intro z J;obtain⟨k,C⟩:=R8.1 J;have g:=A j o k z d C;unfold cfB at g;have r:=(Bool.or_eq_false_iff.1 g).2;unfold cf2 at r;rw[show(o.k==1)=true by rw[f];rfl,R9,show(o.t !=0)=true by rw[Q0];exact M2.1 I,ak]at r;rw[r];exact M3
     rw[L,Y,N,O,V,M];rfl
   ·rw[show(o.k !=1)=true by rw[f];rfl];rfl
 ·rintro⟨⟨⟨a,g⟩,r⟩,h4⟩ j o d;have ho:=K9 d;obtain⟨X,g2,K⟩:=DS Z o.t;obtain⟨L,Y⟩:=K _ rfl;have D:=a o ho;have E:=h4 o ho;have b0:((o.t !=0)&&(jD l o.t==0))=false:=by
   rw[g2]at D;cases B:o.t==0 with
   |true=>rw[show(o.t !=0)=false by rw[bne,B];rfl];rfl
   |false=>
    rw[B,Bool.or_false]at D;rw[show(jD l o.t==0)=false by simpa using D,U7]
  have A:cfF o (j:Int) 0 q=false:=by
   rw[TW];intro k z f;rw[O0];unfold cfB;rw[Bool.or_eq_false_iff];constructor
   ·unfold cf1;by_cases a7:k=j
    ·subst a7;rw[show((k:Int) !=(k:Int))=false by simp];rfl
    ·cases B:z.k==o.k with
     |false=>rw[U7];rfl
     |true=>
      have F:=eq_of_beq B;have e1:(z.t==o.t)=false:=by
       by_cases G:k<j
       ·have:=EI (g j o d) G f;rw[B,R9]at this;exact this
       ·have:=EI (g k z f) (show j<k by omega) d;rw[F,ax,R9]at this;rw[M2]at this ⊢;exact λe=>this e.symm
      rw[e1,R5];cases h5:o.k==2 with
      |false=>rw[Bool.false_and,U7]
      |true=>
       have C:=eq_of_beq h5;have e2:(z.n==o.n)=false:=by
        by_cases G:k<j
        ·have u:=r j o d C;unfold slB at u;simp only[Bool.or_eq_false_iff]at u;have:=EI u.1.1.1 G f;rw[show(z.k==2)=true by rw[F,C];rfl,R9]at this;exact this
        ·have u:=r k z f (F.trans C);unfold slB at u;simp only[Bool.or_eq_false_iff]at u;have:=EI u.1.1.1 (show j<k by omega) d;rw[h5,R9]at this;rw[M2]at this ⊢;exact λe=>this e.symm
       rw[e2,U7,U7]
   ·unfold cf2;cases a6:o.k==1 with
    |false=>rfl
    |true=>
     rw[R9];cases I:o.t !=0 with
     |false=>rw[U7]
     |true=>
      rw[ak];unfold ET at E;rw[show(o.k !=1)=false by rw[bne,a6];rfl,show(o.t==0)=false by rw[M2];exact Q0.1 I,R5,R5]at E;have M:dE q 2 o.t=false:=by
       cases J:dE q 2 o.t with
       |false=>rfl
       |true=>rw[J,Bool.or_true]at E;cases E
      unfold dE at M;rw[List.any_eq_false]at M;have:=M z (K9 f);simpa using this
  unfold DD;rw[M5 (by rw[b0];exact M3),M5 (by rw[A];exact M3)];rcases hK o ho with f|f
  ·rw[M5 (by rw[f];decide)];unfold ET at E;rw[show(o.k !=1)=false by rw[f];rfl,R5]at E;cases I:o.t==0 with
   |true=>rfl
   |false=>
    rw[I,R5,L,Y]at E;rw[R5];cases N:jD l o.t==11<;>cases O:jD l o.t==12<;>cases V:TU (jD l o.t)<;>simp_all
  ·rw[N1 (by rw[f];rfl)];have u:=r j o d f;unfold slB at u;simp only[Bool.or_eq_false_iff]at u;obtain⟨⟨⟨_,c1⟩,c2⟩,c3⟩:=u;rw[X]at c2;rw[Y]at c3;rw[c3,bne,c1,bne,c2];rfl
theorem Nh{n:Nat}(h:n<W64):jE .u64 (n:Int) 1=((n%2:Nat):Int):=by
 rw[<-Nat.and_one_is_mod];exact BE n 1 h (by decide)
theorem VA{p:Pr}{l:List Bk}(r:p.ok):NK p l=mF p l:=by
 cases a:aK p l !=0 with
 |true=>unfold NK mF;rw[N1 a,N1 a]
 |false=>
  have g:aK p l=0:=by simpa using a
  have k:∀x∈l,x.t≠0:=by
   have j:fO p l=0:=by
    cases d:fO p l !=0 with
    |false=>simpa using d
    |true=>
     unfold aK sL at g;rw[N1 d]at g;exact absurd g (Q0.1 d)
   intro x A e;have f:=(pY j).2 x A;unfold cX at f;rw[N1 (by rw[show jQ x.t=false by rw[e];rfl];rfl)]at f;cases f
  unfold NK mF;rw[M5 (by rw[a];exact M3),M5 (by rw[a];exact M3),SX];cases ho:qQ l with
  |none=>rfl
  |some q=>
   simp only;unfold Zk Xk;rw[Je k (Wm ho)];have u:IM p l= !((l.any scB)&&((((p.f:Int)).tmod 2)==1)):=by
    unfold IM;rw[Nh r.f,show l.any XS=l.any scB from rfl,show((p.f:Int)).tmod 2=((p.f%2:Nat):Int) by rw[X3 (Int.natCast_nonneg _)];rfl];rcases Nat.mod_two_eq_zero_or_one p.f with h|h<;>rw[h]<;>cases l.any scB<;>rfl
   rw[u];cases ((l.any scB)&&((((p.f:Int)).tmod 2)==1))with
   |true=>rfl
   |false=>rfl
theorem tP{l:List Int}{k:Nat}(h:iU l=true):iU (l.eraseIdx k)=true:=by
 rw[pS]at h ⊢;intro i n f;rw[List.getElem?_eraseIdx]at f;split at f
 ·obtain⟨a,b⟩:=h i n f;refine⟨a,λj g m d=>?_⟩;rw[List.getElem?_eraseIdx,N1 oW]at d;exact b j g m d
 ·obtain⟨a,b⟩:=h (i+1) n f;refine⟨a,λj g m d=>?_⟩;rw[List.getElem?_eraseIdx]at d;split at d
  ·exact b j oW m d
  ·exact b (j+1) oW m d
theorem ZW{a:As}{k:Nat}(h:cW a=true)(B:k<a.t.length)(f:2<=a.t.length):cW (a.del k)=true:=by
 unfold cW at h ⊢;simp only[L5,N0]at h ⊢;obtain⟨⟨⟨⟨⟨⟨⟨⟨F,f⟩,g⟩,j⟩,r⟩,u⟩,A⟩,G⟩,d⟩:=h;have D:(a.del k).t.length=a.t.length-1:=List.length_eraseIdx_of_lt B;have E:(a.del k).r.length=a.r.length-1:=List.length_eraseIdx_of_lt oW;refine⟨⟨⟨⟨⟨⟨⟨⟨by omega,by omega⟩,tP g⟩,j⟩,r⟩,u⟩,A⟩,by omega⟩,?_⟩;rw[M7]at d ⊢;exact λx C=>d x (List.mem_of_mem_eraseIdx C)
theorem PO{m n:Nat}(h:n<24):(Itm.aF m n).length=1:=by
 unfold Itm.aF;rw[N1 h];rfl
theorem rO{α:Type}(f:α->Itm.Tr):∀(l:List α) (k:Nat),(Itm.aY ((l.eraseIdx k).map f)).length<=(Itm.aY (l.map f)).length
 | [],k=>by simp
 |x::l,0=>by
  rw[List.eraseIdx_cons_zero,R2,Itm.aY,L4];omega
 |x::l,k+1=>by
  have:=rO f l k;rw[List.eraseIdx_cons_succ,R2,R2,Itm.aY,Itm.aY,L4,L4];omega
theorem AY{a:As}{k:Nat}(h:a.right=true)(f:k<a.t.length)(A:2<=a.t.length):(a.del k).right=true:=by
 have hs:=As.shaped h;have B:=ZW hs f A;have g:=(Ti h).1;have C:(a.del k).t.length=a.t.length-1:=List.length_eraseIdx_of_lt f;have D:(a.del k).r.length=a.r.length-1:=List.length_eraseIdx_of_lt oW;unfold As.right at h ⊢;rw[L5,N0]at h ⊢;refine⟨B,X0 ?_ h.2⟩;have u:a.t.length<=16:=by
  unfold cW at hs;simp only[L5,N0]at hs;exact hs.1.1.1.1.1.1.1.2
 have E:=rO (λn:Int=>Itm.cD n.toNat) a.t k;have F:=rO gL a.r k;have j:(Itm.aF 4 a.t.length).length=1:=PO oW;have r:(Itm.aF 4 (a.del k).t.length).length=1:=PO oW;by_cases d:a.p.length=0
 ·rw[HJ d g,HJ (a:=a.del k) d oW];simp only[L4,j,r];show 1+(Itm.aY ((a.t.eraseIdx k).map λn=>Itm.cD n.toNat)).length+(Itm.aF 0 a.c.toNat).length+(_+(Itm.aG a.s.tree).length)+1+(Itm.aY ((a.r.eraseIdx k).map gL)).length<=_;omega
 ·rw[HI d g,HI (a:=a.del k) d oW];simp only[L4,j,r];show 1+(Itm.aY ((a.t.eraseIdx k).map λn=>Itm.cD n.toNat)).length+(Itm.aF 0 a.c.toNat).length+(_+(Itm.aG a.s.tree).length+(Itm.aG (gL a.p)).length)+1+(Itm.aY ((a.r.eraseIdx k).map gL)).length<=_;omega
theorem GG{v:Int}:∀{l:List Int} (i:Nat),v∈l->∃k:Nat,lX v i l=((i+k:Nat):Int)/\l[k]? =some v
 |x::r,i,h=>by
  rw[lX];by_cases a:v=x
  ·subst a;rw[N1 (ax v)];exact⟨0,rfl,rfl⟩
  ·rw[M5 (by simpa using a)];obtain⟨k,d,f⟩:=GG (i+1) ((O6.1 h).resolve_left a);exact⟨k+1,by rw[d];congr 1;omega,f⟩
theorem Im{l m:List Bk}{t:Int}(h:l.find? (λx=>x.n==t)=m.find? (λx=>x.n==t)):fI l t=fI m t:=by
 unfold fI;rw[h]
def mW(q:List Op)(n num:Int):Bool:=q.any λo=>o.k==2&&o.n==n&&o.t==num
def oV(q:List Op)(n num:Int):Bool:=q.any λo=>o.k==1&&o.n==n&&o.t==num
noncomputable def stB(q:List Op)(num:Int)(x:Bk):Option Bk:=if x.n==num then none else if mW q x.n num then none else if oV q x.n num then match dI x.d with
  |some a=>if 1<a.t.length then some (x.withD (a.del (lX num 0 a.t).toNat).bytes)else none
  |none=>some x
 else some x
noncomputable def DU(q:List Op)(l:List Bk)(num:Int):List Bk:=l.filterMap (stB q num)
def qB(num:Int)(o:Op):Bool:=o.n !=num&&o.t !=num
theorem sO{q:List Op}{num:Int}{x d:Bk}(h:stB q num x=some d):d.n=x.n/\d.t=x.t/\(x.n==num)=false:=by
 unfold stB at h;split at h
 ·cases h
 ·next a=>
  have a:(x.n==num)=false:=by simpa using a
  split at h
  ·cases h
  ·split at h
   ·split at h
    ·split at h
     ·obtain rfl:=N5 h;exact⟨rfl,rfl,a⟩
     ·cases h
    ·obtain rfl:=N5 h;exact⟨rfl,rfl,a⟩
   ·obtain rfl:=N5 h;exact⟨rfl,rfl,a⟩
theorem rI{g d j:Int}{f:Bk->Bool}:∀{l:List Bk} {q:List Op},fY g d j f l=some q->∀o∈q,∃x∈l,∃a,x.t=g/\f x=false/\dI x.d=some a/\o.n=x.n/\o.t∈a.t/\o.k=d
 | [],q,h,o,ho=>by
  rw[fY]at h;obtain rfl:=N5 h;cases ho
 |x::l,q,h,o,ho=>by
  rw[fY]at h;split at h
  ·obtain⟨y,u,r⟩:=rI h o ho;exact⟨y,P3 _ u,r⟩
  ·next k=>
   split at h
   ·cases h
   ·next a A=>
    split at h
    ·cases h
    ·split at h
     ·cases h
     ·next r B=>
      obtain rfl:=N5 h;rcases S3.1 ho with ho|ho
      ·unfold opsOf at ho;obtain⟨t,C,rfl⟩:=S1.1 ho;simp only[T1,not_or,Bool.not_eq_true]at k;exact⟨x,Q3,a,by simpa using k.1,k.2,A,rfl,C,rfl⟩
      ·obtain⟨y,u,r⟩:=rI B o ho;exact⟨y,P3 _ u,r⟩
theorem sA{j d k:Int}{g:Bk->Bool}:∀{l:List Bk} {q:List Op},fY j d k g l=some q->∀x∈l,x.t=j->g x=false->∃a,dI x.d=some a/\(opsOf d x.n a.t).Sublist q
 | [],q,h,x,f,_,_=>by cases f
 |y::l,q,h,x,f,u,ho=>by
  rw[fY]at h;rcases O6.1 f with rfl|f
  ·rw[M5 (by rw[u,ho];simp)]at h;split at h
   ·cases h
   ·next a A=>
    split at h
    ·cases h
    ·split at h
     ·cases h
     ·next r B=>
      obtain rfl:=N5 h;exact⟨a,A,M4 _ _⟩
  ·split at h
   ·exact sA h x f u ho
   ·split at h
    ·cases h
    ·next a A=>
     split at h
     ·cases h
     ·split at h
      ·cases h
      ·next r B=>
       obtain rfl:=N5 h;obtain⟨b,C,hs⟩:=sA B x f u ho;exact⟨b,C,hs.trans (S2 _ _)⟩
theorem DY:∀(q pre:List Op),FT pre q=true↔q.Pairwise (λa b=>¬(a.k=b.k/\a.t=b.t))/\∀o∈q,dE pre o.k o.t=false
 | [],pre=>by simp[FT]
 |o::r,pre=>by
  have e:∀z:Op,dE (pre++[o]) z.k z.t=false↔dE pre z.k z.t=false/\¬(o.k=z.k/\o.t=z.t):=by
   intro z;unfold dE;rw[bW,Bool.or_eq_false_iff];simp
  rw[FT,List.pairwise_cons];constructor
  ·intro h;split at h
   ·cases h
   ·next k=>
    obtain⟨g,f⟩:=(DY r (pre++[o])).1 h;refine⟨⟨λz d=>((e z).1 (f z d)).2,g⟩,λz d=>?_⟩;rcases O6.1 d with rfl|d
    ·simpa using k
    ·exact((e z).1 (f z d)).1
  ·rintro⟨⟨g,f⟩,j⟩;rw[M5 (by rw[j o Q3];exact M3)];exact(DY r (pre++[o])).2 ⟨f,λz d=>(e z).2 ⟨j z (P3 _ d),g z d⟩⟩
def tgB(l:List Bk)(o:Op):Bool:=o.t==0||(fI l o.t).1.t==12||BA (fI l o.t).1
theorem mH{l:List Bk}:∀(q pre:List Op),mZ l pre q=true↔q.Pairwise (λa b=>¬(a.k=2/\b.k=2/\a.n=b.n))/\(∀o∈q,o.k=2->tgB l o=false)/\∀o∈q,o.k=2->(pre.any λp=>p.k==2&&p.n==o.n)=false
 | [],pre=>by simp[mZ]
 |o::r,pre=>by
  have e:∀z:Op,((pre++[o]).any λp=>p.k==2&&p.n==z.n)=false↔(pre.any λp=>p.k==2&&p.n==z.n)=false/\¬(o.k=2/\o.n=z.n):=by
   intro z;rw[bW,Bool.or_eq_false_iff];simp
  rw[mZ,List.pairwise_cons];constructor
  ·intro h;split at h
   ·next j=>
    obtain⟨A,B,u⟩:=(mH r (pre++[o])).1 h;have j:o.k≠2:=by simpa using j
    refine⟨⟨λz f k=>j k.1,A⟩,λz f d=>?_,λz f d=>?_⟩
    ·rcases O6.1 f with rfl|f
     ·exact absurd d j
     ·exact B z f d
    ·rcases O6.1 f with rfl|f
     ·exact absurd d j
     ·exact((e z).1 (u z f d)).1
   ·split at h
    ·cases h
    ·next j C=>
     obtain⟨A,B,u⟩:=(mH r (pre++[o])).1 h;simp only[T1,not_or,Bool.not_eq_true]at C;refine⟨⟨λz f k=>((e z).1 (u z f k.2.1)).2 ⟨k.1,k.2.2⟩,A⟩,λz f d=>?_,λz f d=>?_⟩
     ·rcases O6.1 f with rfl|f
      ·unfold tgB;rw[C.1.1.2,C.1.2,C.2];rfl
      ·exact B z f d
     ·rcases O6.1 f with rfl|f
      ·exact C.1.1.1
      ·exact((e z).1 (u z f d)).1
  ·rintro⟨⟨A,B⟩,u,D⟩;have E:mZ l (pre++[o]) r=true:=(mH r (pre++[o])).2 ⟨B,λz f=>u z (P3 _ f),λz f d=>(e z).2 ⟨D z (P3 _ f) d,λk=>A z f ⟨k.1,d,k.2⟩⟩⟩;split
   ·exact E
   ·next j=>
    have j:o.k=2:=by simpa using j
    have g:=u o Q3 j;unfold tgB at g;simp only[Bool.or_eq_false_iff]at g;rw[M5 (by rw[D o Q3 j,g.1.1,g.1.2,g.2];simp)];exact E
theorem erase_filter{v:Int}:∀{l:List Int} (_:l.Pairwise (· ≠ ·)),v∈l->l.eraseIdx (lX v 0 l).toNat=l.filter (· !=v):=by
 intro l d h;obtain⟨k,f,a⟩:=GG 0 h;rw[O0]at f;rw[f,W8];clear f h
 induction l generalizing k with
 |nil=>cases a
 |cons x r ih=>
  rw[List.pairwise_cons]at d;cases k with
  |zero=>
   obtain rfl:x=v:=by simpa using a
   rw[List.eraseIdx_cons_zero,U0,show(x !=x)=false by simp];simp only[N9,if_false];exact(List.filter_eq_self.2 λy j=>by simpa using(d.1 y j).symm).symm
  |succ k=>
   rw[Q7]at a;have g:(x !=v)=true:=by simpa using d.1 v (K9 a)
   rw[List.eraseIdx_cons_succ,U0,g,N1 rfl,ih d.2 k a]
theorem Yt{l:List Int}(h:iU l=true):l.Pairwise (· ≠ ·):=by
 rw[pS]at h;rw[T0];intro i j d f a;exact(h j l[j] (K8 f)).2 i a l[i] (K8 d)
theorem DW{s:List UInt8}{a:As}(h:dI s=some a):a.t.Pairwise (· ≠ ·)/\1<=a.t.length:=by
 have hs:=As.shaped (fW h).2.1;unfold cW at hs;simp only[L5,N0]at hs;exact⟨Yt hs.1.1.1.1.1.1.2,hs.1.1.1.1.1.1.1.1⟩
theorem JS{num n a:Int}{ts:List Int}(d:n≠num):(opsOf a n ts).filter (qB num)=opsOf a n (ts.filter (· !=num)):=by
 unfold opsOf;rw[List.filter_map];congr 1;refine List.filter_congr λt _=>?_
 show((n !=num)&&(t !=num))=(t !=num);rw[show(n !=num)=true by simpa using d,R9]
theorem YY{num a:Int}{ts:List Int}:(opsOf a num ts).filter (qB num)=[]:=by
 unfold opsOf;rw[List.filter_map,List.filter_eq_nil_iff.2 λt _=>?_]
 ·rfl
 ·show¬((num !=num)&&(t !=num))=true;simp
structure St0 (l : List Bk) (q se si : List Op) (num : Int) : Prop where
 hq:q=se++si
 hse:fY 12 2 2 (λ_=>false) l=some se
 hsi:fY 11 1 1 (λx=>dE se 2 x.n) l=some si
 inj:∀x∈l,∀y∈l,x.n=y.n->x=y
structure StH (l : List Bk) (q se si : List Op) (num : Int) : Prop extends St0 l q se si num where
 n12:∀x∈l,x.n=num->x.t≠12
 one:∀x∈l,∀a,x.t=12->dI x.d=some a->a.t.length=1
section
variable {l:List Bk} {q se si:List Op} {num:Int} (H:St0 l q se si num)
include H
theorem St0.seal_iff{x:Bk}(g:x∈l):mW q x.n num=true↔x.t=12/\∃a,dI x.d=some a/\num∈a.t:=by
 unfold mW;rw[T8];constructor
 ·rintro⟨o,ho,d⟩;simp only[L5,S5]at d;rw[H.hq]at ho;rcases S3.1 ho with ho|ho
  ·obtain⟨y,C,a,h,_,j,k,r,_⟩:=rI H.hse o ho;obtain rfl:=H.inj y C x g (by rw[<-k,d.1.2]);exact⟨h,a,j,d.2▸r⟩
  ·exact absurd (eZ H.hsi o ho) (by rw[d.1.1];decide)
 ·rintro⟨B,a,u,A⟩;obtain⟨b,f,hs⟩:=sA H.hse x g B rfl;rw[u]at f;obtain rfl:=N5 f;refine⟨⟨2,x.n,num⟩,?_,by simp⟩;rw[H.hq];exact ae _ (hs.subset (S1.2 ⟨num,A,rfl⟩))
theorem St0.sign_iff{x:Bk}(g:x∈l):oV q x.n num=true↔x.t=11/\dE se 2 x.n=false/\∃a,dI x.d=some a/\num∈a.t:=by
 unfold oV;rw[T8];constructor
 ·rintro⟨o,ho,d⟩;simp only[L5,S5]at d;rw[H.hq]at ho;rcases S3.1 ho with ho|ho
  ·exact absurd (eZ H.hse o ho) (by rw[d.1.1];decide)
  ·obtain⟨y,D,a,h,j,k,r,u,_⟩:=rI H.hsi o ho;obtain rfl:=H.inj y D x g (by rw[<-r,d.1.2]);exact⟨h,j,a,k,d.2▸u⟩
 ·rintro⟨C,ho,a,A,B⟩;obtain⟨b,f,hs⟩:=sA H.hsi x g C ho;rw[A]at f;obtain rfl:=N5 f;refine⟨⟨1,x.n,num⟩,?_,by simp⟩;rw[H.hq];exact av _ (hs.subset (S1.2 ⟨num,B,rfl⟩))
theorem St0.none12{x:Bk}(a:x∈l)(h:x.t≠12):mW q x.n num=false:=by
 cases d:mW q x.n num with
 |false=>rfl
 |true=>exact absurd ((H.seal_iff a).1 d).1 h
theorem St0.none11{x:Bk}(f:x∈l)(h:x.t≠11\/dE se 2 x.n=true):oV q x.n num=false:=by
 cases g:oV q x.n num with
 |false=>rfl
 |true=>
  obtain⟨a,d,_⟩:=(H.sign_iff f).1 g;rcases h with h|h
  ·exact absurd a h
  ·rw[d]at h;cases h
theorem St0.stays{x:Bk}(f:x.n≠num)(a:mW q x.n num=false)(d:oV q x.n num=false):stB q num x=some x:=by
 unfold stB;rw[M5 (by simpa using f),M5 (by rw[a];exact M3),M5 (by rw[d];exact M3)]
end
section
variable {l:List Bk} {q se si:List Op} {num:Int} (H:StH l q se si num)
include H
theorem StH.seals:∀{m:List Bk} {r:List Op},(∀x∈m,x∈l)->fY 12 2 2 (λ_=>false) m=some r->fY 12 2 2 (λ_=>false) (m.filterMap (stB q num))=some (r.filter (qB num))
 | [],r,_,h=>by
  rw[fY]at h;obtain rfl:=N5 h;rfl
 |x::m,r,hm,h=>by
  have j:=hm x Q3;have g:=λ{r}=>StH.seals (m:=m) (r:=r) λy K=>hm y (P3 _ K)
  rw[fY]at h;rw[List.filterMap_cons];by_cases f:x.t=12
  ·rw[M5 (by rw[f];simp)]at h;split at h
   ·cases h
   ·next a k=>
    split at h
    ·cases h
    ·next J=>
     split at h
     ·cases h
     ·next L F=>
      obtain rfl:=N5 h;have B:x.n≠num:=λe=>H.n12 x j e f
      rw[List.filter_append,JS B];by_cases d:num∈a.t
      ·have u:=(H.seal_iff j).2 ⟨f,a,k,d⟩;have hs:stB q num x=none:=by
        unfold stB;rw[M5 (by simpa using B),N1 u]
       have G:=H.one x j a f k;have I:a.t=[num]:=by
        obtain⟨z,D⟩:=List.length_eq_one_iff.1 G;rw[D]at d ⊢;rw[R7.1 d]
       rw[hs,I];simp only;rw[g F];simp[opsOf]
      ·have u:mW q x.n num=false:=by
        cases D:mW q x.n num with
        |false=>rfl
        |true=>
         obtain⟨_,b,E,A⟩:=(H.seal_iff j).1 D;rw[k]at E;obtain rfl:=N5 E;exact absurd A d
       rw[H.stays B u (H.none11 j (.inl (by rw[f];decide)))];simp only;rw[fY,M5 (by rw[f];simp),k];simp only;rw[M5 J,g F,List.filter_eq_self.2 (show∀t∈a.t,(t !=num)=true from λt C=>Q0.2 λe=>d (e▸C))]
  ·rw[N1 (by simpa using f)]at h;have g:=g h;cases hs:stB q num x with
   |none=>exact g
   |some M=>
    simp only;rw[fY,N1 (by rw[(sO hs).2.1];simpa using f)];exact g
theorem StH.out_eq{x:Bk}(k:x.n≠num):dE (se.filter (qB num)) 2 x.n=dE se 2 x.n:=by
 unfold dE;rw[List.any_filter,T7,T8,T8];constructor
 ·rintro⟨o,ho,d⟩;simp only[L5]at d;exact⟨o,ho,by rw[L5];exact d.2⟩
 ·rintro⟨o,ho,d⟩;simp only[L5,S5]at d;obtain⟨y,r,a,h,_,_,j,_⟩:=rI H.hse o ho;refine⟨o,ho,?_⟩;have f:(o.n !=num)=true:=by
   rw[Q0,j];exact λe=>H.n12 y r e h
  have g:(o.t !=num)=true:=by rw[Q0,d.2];exact k
  unfold qB;rw[f,g,d.1,d.2];simp
theorem StH.signs:∀{m:List Bk} {r:List Op},(∀x∈m,x∈l)->fY 11 1 1 (λx=>dE se 2 x.n) m=some r->fY 11 1 1 (λx=>dE (se.filter (qB num)) 2 x.n) (m.filterMap (stB q num))=some (r.filter (qB num))
 | [],r,_,h=>by
  rw[fY]at h;obtain rfl:=N5 h;rfl
 |x::m,r,hm,h=>by
  have M:=hm x Q3;have g:=λ{r}=>StH.signs (m:=m) (r:=r) λy hy=>hm y (P3 _ hy)
  rw[fY]at h;rw[List.filterMap_cons];by_cases B:x.n=num
  ·have hs:stB q num x=none:=by
    unfold stB;rw[N1 (by simpa using B)]
   rw[hs];simp only;split at h
   ·exact g h
   ·split at h
    ·cases h
    ·next a A=>
     split at h
     ·cases h
     ·split at h
      ·cases h
      ·next r' K=>
       obtain rfl:=N5 h;rw[List.filter_append,B,YY];exact g K
  ·have ho:=H.out_eq (x:=x) B;by_cases f:(x.t !=11||dE se 2 x.n)=true
   ·rw[N1 f]at h;have g:=g h;cases hs:stB q num x with
    |none=>exact g
    |some x'=>
     simp only;obtain⟨Y,Z,_⟩:=sO hs;rw[fY,N1 (by rw[Y,Z,ho];exact f)];exact g
   ·rw[M5 f]at h;have E:(x.t !=11||dE se 2 x.n)=false:=by simpa using f
    obtain⟨g1,g2⟩:=Bool.or_eq_false_iff.1 E;have X:x.t=11:=by simpa using g1
    split at h
    ·cases h
    ·next a A=>
     split at h
     ·cases h
     ·next O=>
      split at h
      ·cases h
      ·next r' K=>
       obtain rfl:=N5 h;have g:=g K;rw[List.filter_append,JS B];have C:mW q x.n num=false:=H.none12 M (by rw[X];decide);obtain⟨hpw,a1⟩:=DW A;by_cases d:num∈a.t
       ·have u:=(H.sign_iff M).2 ⟨X,g2,a,A,d⟩;obtain⟨k,V,hg⟩:=GG 0 d;rw[O0]at V;have I:=(L8.1 hg).1;by_cases J:1<a.t.length
        ·have hs:stB q num x=some (x.withD (a.del (lX num 0 a.t).toNat).bytes):=by
          unfold stB;rw[M5 (by simpa using B),M5 (by rw[C];exact M3),N1 u,A];simp only;rw[N1 J]
         rw[hs];simp only;rw[fY,M5 (by show¬((x.t !=11||dE (se.filter (qB num)) 2 x.n)=true);rw[ho];exact f)];have j:=fW A;have D:dI (x.withD (a.del (lX num 0 a.t).toNat).bytes).d=some (a.del (lX num 0 a.t).toNat):=by
          refine tF ?_ (AY j.2.1 (by rw[V,W8];exact I) J);exact⟨j.1.s,j.1.p,λz F=>j.1.r z (List.mem_of_mem_eraseIdx F)⟩
         rw[D];simp only;rw[M5 (by show¬((a.c !=1)=true);exact O),g];simp only;rw[show(a.del (lX num 0 a.t).toNat).t=a.t.eraseIdx (lX num 0 a.t).toNat from rfl,erase_filter hpw d];rfl
        ·have hs:stB q num x=none:=by
          unfold stB;rw[M5 (by simpa using B),M5 (by rw[C];exact M3),N1 u,A];simp only;rw[M5 J]
         have h3:a.t=[num]:=by
          obtain⟨z,F⟩:=List.length_eq_one_iff.1 (show a.t.length=1 by omega);rw[F]at d ⊢;rw[R7.1 d]
         rw[hs,h3];simp only;rw[g];simp[opsOf]
       ·have u:oV q x.n num=false:=by
         cases F:oV q x.n num with
         |false=>rfl
         |true=>
          obtain⟨_,_,b,N,G⟩:=(H.sign_iff M).1 F;rw[A]at N;obtain rfl:=N5 N;exact absurd G d
        rw[H.stays B C u];simp only;rw[fY,M5 (by rw[ho];exact f),A];simp only;rw[M5 O,g,List.filter_eq_self.2 (show∀t∈a.t,(t !=num)=true from λt L=>Q0.2 λe=>d (e▸L))]
theorem StH.ops:qQ (DU q l num)=some (q.filter (qB num)):=by
 unfold DU qQ;rw[H.seals (λ_ h=>h) H.hse];simp only;rw[H.signs (λ_ h=>h) H.hsi];simp only;rw[H.hq,List.filter_append]
end
theorem Us{f:Bk->Option Bk}{t:Int}:∀{m:List Bk},(∀x∈m,∀a,f x=some a->a.n=x.n)->(∀x∈m,x.n=t->f x=some x)->(m.filterMap f).find? (λx=>x.n==t)=m.find? (λx=>x.n==t)
 | [],_,_=>rfl
 |x::m,h,j=>by
  have k:=Us (m:=m) (λy g=>h y (P3 _ g)) (λy g=>j y (P3 _ g));rw[List.filterMap_cons,X8];cases d:x.n==t with
  |true=>
   rw[j x Q3 (eq_of_beq d)];simp only;rw[X8,d]
  |false=>
   simp only;cases r:f x with
   |none=>exact k
   |some a=>
    simp only;rw[X8,h x Q3 a r,d];exact k
theorem WH{l:List Bk}(g:∀x∈l,∀y∈l,x.n=y.n->x=y){x:Bk}(a:x∈l):fI l x.n=(x,true):=by
 unfold fI;cases h:l.find? (λy=>y.n==x.n)with
 |none=>exact absurd (bH.1 h x a) (by simp)
 |some y=>
  have d:=bX h;have f:=List.mem_of_find?_eq_some h;obtain rfl:=g y f x a (by simpa using d);rfl
theorem BX{p:Pr}{l:List Bk}{q:List Op}(h:Zk p l q=0):IM p l=true/\IS l q=true/\FT [] q=true/\mZ l [] q=true/\IX l q=true:=by
 unfold Zk at h;split at h
 ·next a=>
  simp only[L5]at a;exact⟨a.1.1.1.1,a.1.1.1.2,a.1.1.2,a.1.2,a.2⟩
 ·cases h
section
variable {p:Pr} {l:List Bk} {q se si:List Op} {num:Int} (H:StH l q se si num) (hs:Zk p l q=0)
include H hs
theorem StH.kept{o:Op}(ho:o∈q)(r:qB num o=true)(A:o.t≠0):fI (DU q l num) o.t=fI l o.t:=by
 obtain⟨_,_,_,C,D⟩:=BX hs;have u:o.t≠num:=by
  unfold qB at r;rw[L5]at r;simpa using r.2
 refine Im ?_;unfold DU;refine Us (λx _ E f=>(sO f).1) λx f a=>?_
 have k:=WH H.inj f;rw[a]at k;have d:o.k=1\/o.k=2:=by
  rw[H.hq]at ho;rcases S3.1 ho with ho|ho
  ·exact .inr (eZ H.hse o ho)
  ·exact .inl (eZ H.hsi o ho)
 rcases d with B|j
 ·have g:=M7.1 (show q.all (ET l q)=true from D) o ho;unfold ET at g;rw[k,show(o.k !=1)=false by rw[B];rfl,show(o.t==0)=false by simpa using A,R5,R5]at g;simp only[P1,Bool.or_eq_false_iff]at g;have h:=g.1.1;unfold XS at h;rw[Bool.or_eq_false_iff]at h;exact H.stays (by rw[a];exact u) (H.none12 f (by simpa using h.2)) (H.none11 f (.inl (by simpa using h.1)))
 ·have g:=((mH q []).1 C).2.1 o ho j;unfold tgB at g;rw[k]at g;simp only[Bool.or_eq_false_iff]at g;refine H.stays (by rw[a];exact u) (H.none12 f (by simpa using g.1.2)) (H.none11 f (.inr ?_));unfold dE;rw[T8];rw[H.hq]at ho;rcases S3.1 ho with ho|ho
  ·exact⟨o,ho,by rw[j,a];simp⟩
  ·exact absurd (eZ H.hsi o ho) (by rw[j];decide)
theorem StH.mix:Zk p (DU q l num) (q.filter (qB num))=0:=by
 obtain⟨r,A,M,N,B⟩:=BX hs;have u:∀o∈q.filter (qB num),o∈q/\qB num o=true:=λo ho=>ao.1 ho
 have a:(q.filter (qB num)).Sublist q:=List.filter_sublist;have G:IM p (DU q l num)=true:=by
  unfold IM at r ⊢;cases E:jE .u64 p.f 1==0 with
  |true=>rfl
  |false=>
   rw[E,R5]at r;rw[R5,P1];rw[P1,List.any_eq_false]at r;rw[List.any_eq_false];intro V h;unfold DU at h;obtain⟨x,O,D⟩:=W3.1 h;have:=r x O;unfold XS at this ⊢;rw[(sO D).2.1];exact this
 have I:IS (DU q l num) (q.filter (qB num))=true:=by
  unfold IS at A ⊢;rw[M7]at A ⊢;intro o ho;obtain⟨k,d⟩:=u o ho;by_cases f:o.t=0
  ·rw[f];simp
  ·rw[H.kept hs k d f];exact A o k
 have J:FT [] (q.filter (qB num))=true:=(DY _ []).2 ⟨(((DY q []).1 M).1).sublist a,λ_ _=>rfl⟩;have K:mZ (DU q l num) [] (q.filter (qB num))=true:=by
  obtain⟨k,d,_⟩:=(mH q []).1 N;refine(mH _ []).2 ⟨k.sublist a,λo ho C=>?_,λ_ _ _=>rfl⟩;obtain⟨j,F⟩:=u o ho;have g:=d o j C;have f:o.t≠0:=by
   unfold tgB at g;simp only[Bool.or_eq_false_iff]at g;simpa using g.1.1
  unfold tgB at g ⊢;rw[H.kept hs j F f];exact g
 have L:IX (DU q l num) (q.filter (qB num))=true:=by
  unfold IX at B ⊢;rw[M7]at B ⊢;intro o ho;obtain⟨j,F⟩:=u o ho;have g:=B o j;unfold ET at g ⊢;cases C:o.k !=1 with
  |true=>rfl
  |false=>
   rw[C,R5]at g;rw[R5];cases f:o.t==0 with
   |true=>rfl
   |false=>
    rw[f,R5]at g;rw[R5,H.kept hs j F (by simpa using f)];simp only[P1,Bool.or_eq_false_iff]at g ⊢;refine⟨g.1,?_⟩;have d:=g.2;unfold dE at d ⊢;rw[List.any_eq_false]at d ⊢;exact λz E=>d z (u z E).1
 unfold Zk;rw[G,I,J,K,L];rfl
end
theorem Lt:∀(l pre:List Bk),PX pre l=false->l.Pairwise (λx y=>x.n≠y.n)/\∀x∈l,∀z∈pre,z.n≠x.n
 | [],pre,_=>⟨List.Pairwise.nil,λ_ h=>by cases h⟩
 |y::r,pre,h=>by
  rw[PX,Bool.or_eq_false_iff]at h;obtain⟨g,f⟩:=Lt r (pre++[y]) h.2;refine⟨List.pairwise_cons.2 ⟨λz a=>f z a y (by simp),g⟩,λx d z a=>?_⟩;rcases O6.1 d with rfl|d
  ·have:=List.any_eq_false.1 h.1 z a;simpa using this
  ·exact f x d z (ae _ a)
theorem VK:∀{l:List Bk},l.Pairwise (λx y=>x.n≠y.n)->∀x∈l,∀y∈l,x.n=y.n->x=y
 | [],_,x,g,_,_,_=>by cases g
 |a::l,h,x,g,y,r,e=>by
  obtain⟨j,k⟩:=List.pairwise_cons.1 h;rcases O6.1 g with ex|d<;>rcases O6.1 r with ey|f
  ·rw[ex,ey]
  ·rw[ex]at e;exact absurd e (j y f)
  ·rw[ey]at e;exact absurd e.symm (j x d)
  ·exact VK k x d y f e
theorem LO{p:Pr}{l:List Bk}(h:aK p l=0):l.Pairwise (λx y=>x.n≠y.n):=by
 have j:=(fL h).1;unfold aK sL at h;split at h
 ·next a=>exact absurd h (Q0.1 a)
 ·split at h
  ·next a=>exact absurd h (Q0.1 a)
  ·next a=>
   have d:fG p l=0:=by simpa using a
   unfold fG at d;split at d
   ·cases d
   ·split at d
    ·cases d
    ·next g=>
     simp only[T1,not_or,Bool.not_eq_true]at g;have f:LX l=true:=by simpa using g.1.1.2
     unfold LX at f;rw[LW l [] [] [] (λ_=>rfl) (λ_=>rfl) (by simp;omega)]at f;rw[L5]at f;exact(Lt l [] (by simpa using f.1)).1
theorem RF{p:Pr}{l:List Bk}{q:List Op}{num:Int}(hs:mF p l=0)(L:jD l num≠12)(d:qQ l=some q)(u:aK p (DU q l num)=0):mF p (DU q l num)=0:=by
 have G:aK p l=0:=by
  unfold mF at hs;split at hs
  ·next f=>exact absurd hs (Q0.1 f)
  ·next f=>simpa using f
 have F:Zk p l q=0:=by rw[ES G d]at hs;exact hs
 have k:=VK (LO G);have K:=d;unfold qQ at d;split at d
 ·cases d
 ·next se h=>
  split at d
  ·cases d
  ·next si B=>
   have d:=(N5 d).symm;have H : StH l q se si num := {
    toSt0:=⟨d,h,B,k⟩
    n12:=λx C J g=>by
     have A:=WH k C;rw[J]at A;refine L ?_;unfold jD;split
     ·next I=>
      rw[EC I]at A;cases A
     ·rw[A];exact g
    one:=λx C a g E=>by
     obtain⟨b,u,j⟩:=sA h x C g rfl;rw[E]at u;obtain rfl:=N5 u;have hpw:=((mH q []).1 (BX F).2.2.2.1).1;have f:=hpw.sublist (j.trans (by rw[d];exact M4 _ _));have D:=(DW E).2
     match hat:a.t with
     | []=>rw[hat]at D;cases D
     | [_]=>rfl
     |t1::t2::r=>
      rw[hat]at f;unfold opsOf at f;rw[R2,R2,List.pairwise_cons]at f;exact absurd ⟨rfl,rfl,rfl⟩ (f.1 _ Q3) }
   rw[ES u H.ops];exact H.mix F
theorem Re{q:List Op}{l:List Bk}{num:Int}:jC (DU q l num) num<0:=by
 rcases mR num 0 (DU q l num)with⟨h,_⟩|⟨j,x,_,k,g,_⟩
 ·unfold jC;omega
 ·have d:=K9 k;unfold DU at d;obtain⟨y,_,r⟩:=W3.1 d;obtain⟨f,_,a⟩:=sO r;rw[<-f,g]at a;simp at a
theorem qC{α β:Type}{f g:α->Option β}:∀{l:List α},(∀x∈l,f x=g x)->l.filterMap f=l.filterMap g
 | [],_=>rfl
 |x::l,h=>by
  rw[List.filterMap_cons,List.filterMap_cons,h x Q3,qC λy a=>h y (P3 _ a)]
noncomputable def unB(num n:Int)(x:Bk):Option Bk:=if x.n==n then match dI x.d with
  |some a=>if 1<a.t.length then some (x.withD (a.del (lX num 0 a.t).toNat).bytes)else none
  |none=>some x
 else some x
noncomputable def Xx(num:Int)(c:List Bk)(o:Op):List Bk:=if o.t !=num||o.n==num then c else if o.k==2 then c.filter (λx=>x.n !=o.n)else c.filterMap (unB num o.n)
theorem AD{q:List Op}{num:Int}{x:Bk}(f:x.n≠num)(a:mW q x.n num=false)(d:oV q x.n num=false):stB q num x=some x:=by
 unfold stB;rw[M5 (by simpa using f),M5 (by rw[a];exact M3),M5 (by rw[d];exact M3)]
theorem LV{A f g:Int}{u:Bk->Bool}:∀{l:List Bk} {q:List Op},l.Pairwise (λx y=>x.n≠y.n)->fY A f g u l=some q->q.Pairwise (λa b=>¬(a.n=b.n/\a.t=b.t))
 | [],q,_,h=>by
  rw[fY]at h;obtain rfl:=N5 h;exact List.Pairwise.nil
 |x::l,q,E,h=>by
  obtain⟨k,d⟩:=List.pairwise_cons.1 E;rw[fY]at h;split at h
  ·exact LV d h
  ·split at h
   ·cases h
   ·next a C=>
    split at h
    ·cases h
    ·split at h
     ·cases h
     ·next r B=>
      obtain rfl:=N5 h;refine List.pairwise_append.2 ⟨?_,LV d B,λo ho z G j=>?_⟩
      ·unfold opsOf;rw[List.pairwise_map];exact(DW C).1.imp λh j=>h j.2
      ·unfold opsOf at ho;obtain⟨t,_,rfl⟩:=S1.1 ho;obtain⟨y,F,_,_,_,_,D,_⟩:=rI B z G;exact k y F (j.1.trans D)
section
variable {l:List Bk} {q se si:List Op} {num:Int} (H:St0 l q se si num) (hpw:l.Pairwise (λx y=>x.n≠y.n))
include H hpw
theorem St0.pw:q.Pairwise (λa b=>¬(a.k=b.k/\a.n=b.n/\a.t=b.t)):=by
 rw[H.hq];refine List.pairwise_append.2 ⟨(LV hpw H.hse).imp λh d=>h d.2,(LV hpw H.hsi).imp λh d=>h d.2,λa j b k d=>?_⟩;have f:=eZ H.hse a j;have g:=eZ H.hsi b k;rw[f,g]at d;exact absurd d.1 (by decide)
omit hpw in
theorem St0.kinds{o:Op}(ho:o∈q):o.k=1\/o.k=2:=by
 rw[H.hq]at ho;rcases S3.1 ho with ho|ho
 ·exact .inr (eZ H.hse o ho)
 ·exact .inl (eZ H.hsi o ho)
theorem St0.sign1{i:Nat}{o:Op}(ho:q[i]? =some o)(h:o.k=1)(u:o.t=num):∃y∈l,y.n=o.n/\y.t=11/\(∃a,dI y.d=some a/\num∈a.t)/\(∀k,mW (q.take k) y.n num=false)/\oV (q.take i) y.n num=false:=by
 have r:=K9 ho;have C:o∈si:=by
  rw[H.hq]at r;rcases S3.1 r with ho|ho
  ·exact absurd (eZ H.hse o ho) (by rw[h];decide)
  ·exact ho
 obtain⟨y,G,a,E,K,I,F,J,_⟩:=rI H.hsi o C;refine⟨y,G,F.symm,E,⟨a,I,u▸J⟩,λk=>?_,?_⟩
 ·have:=H.none12 G (by rw[E];decide);unfold mW at this ⊢;rw[List.any_eq_false]at this ⊢;exact λz D=>this z (az D)
 ·unfold oV;rw[List.any_eq_false];intro z D A;simp only[L5,S5]at A;obtain⟨j,B⟩:=R8.1 D;have f:j<i:=by
   have:=(L8.1 B).1;rw[O3]at this;omega
  rw[List.getElem?_take_of_lt f]at B;have g:=(L8.1 B);have d:=(L8.1 ho);have:=T0.1 (H.pw hpw) j i g.1 d.1 f;rw[g.2,d.2]at this;exact this ⟨by rw[A.1.1,h],by rw[A.1.2,F],by rw[A.2,u]⟩
theorem St0.step{i:Nat}{o:Op}(ho:q[i]? =some o):l.filterMap (stB (q.take (i+1)) num)=Xx num (l.filterMap (stB (q.take i) num)) o:=by
 have u:=K9 ho;have E:∀n,mW (q.take (i+1)) n num=(mW (q.take i) n num||(o.k==2&&o.n==n&&o.t==num)):=by
  intro n;unfold mW;rw[Q9,ho,Option.toList_some,bW];simp
 have D:∀n,oV (q.take (i+1)) n num=(oV (q.take i) n num||(o.k==1&&o.n==n&&o.t==num)):=by
  intro n;unfold oV;rw[Q9,ho,Option.toList_some,bW];simp
 have d:∀x:Bk,(o.n==x.n&&o.t==num)=false->stB (q.take (i+1)) num x=stB (q.take i) num x:=by
  intro x h;unfold stB;rw[E,D,Bool.and_assoc,Bool.and_assoc,h,U7,U7,Bool.or_false,Bool.or_false]
 unfold Xx;split
 ·next h=>
  refine qC λx B=>?_
  by_cases a:x.n=num
  ·unfold stB;rw[N1 (by simpa using a),N1 (by simpa using a)]
  ·refine d x ?_;rw[T1]at h;rcases h with h|h
   ·rw[show(o.t==num)=false by rw[bne]at h;simpa using h,U7]
   ·rw[show(o.n==x.n)=false by rw[eq_of_beq h];simpa using λe=>a e.symm,Bool.false_and]
 ·next h=>
  simp only[T1,not_or,Bool.not_eq_true]at h;have f:o.t=num:=by simpa using h.1
  have A:o.n≠num:=by simpa using h.2
  split
  ·next j=>
   have j:o.k=2:=eq_of_beq j;rw[List.filter_filterMap];refine qC λx B=>?_
   by_cases a:x.n=o.n
   ·have J:stB (q.take (i+1)) num x=none:=by
     unfold stB;split
     ·rfl
     ·rw[N1 (by rw[E,j,f,a];simp)]
    rw[J];cases hs:stB (q.take i) num x with
    |none=>rfl
    |some g=>
     show none=Option.filter _ (some g);rw[Option.filter,(sO hs).1,a];simp
   ·rw[d x (by rw[show(o.n==x.n)=false by simpa using λe=>a e.symm];rfl)];cases hs:stB (q.take i) num x with
    |none=>rfl
    |some g=>
     show some g=Option.filter _ (some g);rw[Option.filter,(sO hs).1];simp[a]
  ·next j=>
   have k:o.k=1:=(H.kinds u).resolve_right λe=>j (by rw[e];rfl)
   rw[List.filterMap_filterMap];refine qC λx B=>?_
   by_cases a:x.n=o.n
   ·obtain⟨y,K,C,_,_,F,I⟩:=H.sign1 hpw ho k f;obtain rfl:=H.inj y K x B (by rw[C,a]);have r:y.n≠num:=by rw[a];exact A
    have G:stB (q.take i) num y=some y:=AD r (F i) I;rw[G];show stB (q.take (i+1)) num y=unB num o.n y;unfold stB unB;rw[M5 (by simpa using r),M5 (by rw[F];exact M3),N1 (by rw[D,k,f,a];simp),N1 (by simpa using a)]
    all_goals(cases dI y.d<;>rfl)
   ·rw[d x (by rw[show(o.n==x.n)=false by simpa using λe=>a e.symm];rfl)];cases hs:stB (q.take i) num x with
    |none=>rfl
    |some g=>
     show some g=unB num o.n g;unfold unB;rw[M5 (by rw[(sO hs).1];simpa using a)]
end
theorem Kd(l:List Bk)(num:Int):l.filterMap (stB [] num)=l.filter (λx=>x.n !=num):=by
 rw[<-List.filterMap_eq_filter];refine qC λx _=>?_
 unfold stB mW oV;cases h:x.n==num with
 |true=>
  have:=eq_of_beq h;simp[Option.guard,this]
 |false=>
  have:=M2.1 h;simp[Option.guard,this]
noncomputable def Yu(q:List Bk)(i:Nat)(n:Int)(A:As)(k:Nat)(y:Bk):List Bk:=if 1<A.t.length then q.set i (y.withD (A.del k).bytes)else q.filter λx=>x.n !=n
theorem Mh{g:Bk->Option Bk}{z:Bk}:∀{m:List Bk} {i:Nat} {y:Bk},m[i]? =some y->(∀j x,m[j]? =some x->g x=if j=i then some z else some x)->m.filterMap g=m.set i z
 | [],i,y,h,_=>by simp at h
 |x::m,0,y,h,a=>by
  rw[List.filterMap_cons,a 0 x rfl,N1 rfl,bI];simp only;congr 1;rw[qC (g:=some) λw d=>?_,List.filterMap_some];obtain⟨j,f⟩:=R8.1 d;rw[a (j+1) w f,M5 oW]
 |x::m,i+1,y,h,a=>by
  rw[List.filterMap_cons,a 0 x rfl,M5 oW,aq];simp only;rw[Mh (m:=m) (i:=i) (y:=y) (by simpa using h) λj w d=>?_];rw[a (j+1) w d];by_cases e:j=i
  ·rw[N1 e,N1 oW]
  ·rw[M5 e,M5 oW]
theorem Gs{m:List Bk}{i k:Nat}{y:Bk}{A:As}{num n:Int}(D:m.Pairwise (λx y=>x.n≠y.n))(u:m[i]? =some y)(g:y.n=n)(E:dI y.d=some A)(G:lX num 0 A.t=(k:Int)):Yu m i n A k y=m.filterMap (unB num n):=by
 have r:=L8.1 u;have a:∀(j:Nat) (x:Bk),m[j]? =some x->j≠i->(x.n==n)=false:=by
  intro j x f B;have d:=L8.1 f;rw[M2];intro e;rcases Nat.lt_or_gt_of_ne B with h|h
  ·have:=T0.1 D j i d.1 r.1 h;rw[d.2,r.2]at this;exact this (by rw[e,g])
  ·have:=T0.1 D i j r.1 d.1 h;rw[d.2,r.2]at this;exact this (by rw[e,g])
 unfold Yu;split
 ·next C=>
  refine(Mh u λj x f=>?_).symm;unfold unB;by_cases e:j=i
  ·subst e;rw[u]at f;obtain rfl:=N5 f;rw[N1 (by simpa using g),N1 rfl,E];simp only;rw[N1 C,G,W8]
  ·rw[M5 (by rw[a j x f e];exact M3),M5 e]
 ·next C=>
  rw[<-List.filterMap_eq_filter];refine qC λx f=>?_
  obtain⟨j,d⟩:=R8.1 f;unfold unB;by_cases e:j=i
  ·subst e;rw[u]at d;obtain rfl:=N5 d;rw[N1 (by simpa using g),E];simp only;rw[M5 C];simp[Option.guard,g]
  ·have h:=a j x d e;rw[M5 (by rw[h];exact M3)];have F:=M2.1 h;simp[Option.guard,F]
theorem Cp{l:List Bk}{q:List Op}{num:Int}(h:l.Pairwise (λx y=>x.n≠y.n)):(l.filterMap (stB q num)).Pairwise (λx y=>x.n≠y.n):=by
 rw[List.pairwise_filterMap];exact h.imp λ{a b} d x j y k=>by
  have f:=(sO j).1;have g:=(sO k).1;rw[f,g];exact d
section
variable {l:List Bk} {q se si:List Op} {num:Int} (H:St0 l q se si num) (hpw:l.Pairwise (λx y=>x.n≠y.n))
include H hpw
theorem St0.found{i:Nat}{o:Op}(ho:q[i]? =some o)(u:o.k=1)(g:o.t=num)(B:o.n≠num):∃(C k:Nat) (y:Bk) (A:As),jC (l.filterMap (stB (q.take i) num)) o.n=(C:Int)/\(l.filterMap (stB (q.take i) num))[C]? =some y/\y∈l/\dI y.d=some A/\lX o.t 0 A.t=(k:Int)/\k<A.t.length/\Yu (l.filterMap (stB (q.take i) num)) C o.n A k y=(l.filterMap (stB (q.take i) num)).filterMap (unB num o.n):=by
 obtain⟨y,E,a,_,⟨A,D,L⟩,M,G⟩:=H.sign1 hpw ho u g;have F:stB (q.take i) num y=some y:=AD (by rw[a];exact B) (M i) G;have d:y∈l.filterMap (stB (q.take i) num):=W3.2 ⟨y,E,F⟩;obtain⟨k,r,K⟩:=GG 0 L;rw[O0]at r;have h:=Cp (q:=q.take i) (num:=num) hpw;rcases mR o.n 0 (l.filterMap (stB (q.take i) num))with⟨_,f⟩|⟨j,x,I,f,J,_⟩
 ·exact absurd a (f y d)
 ·obtain rfl:=VK h x (K9 f) y d (by rw[J,a]);exact⟨j,k,x,A,by unfold jC;rw[I,O0],f,E,D,g▸r,(L8.1 K).1,Gs h f a D r⟩
end
end Go.Proofs.YtkoamlfiijcecaaGreatDoor.Sx
