/-
  Several texts in one: Asb2 Asb3 Asb4 Asb5 Asb6 Asb7 Sx30 Irx Asr Asb8 Mxd.
  Conditions: named at each.
-/
import Derived.Test.YtkoamlfiijcecaaGreatDoorG07
set_option maxHeartbeats 16000000
set_option linter.unusedSimpArgs false
set_option linter.unusedVariables false
set_option linter.unusedSectionVars false
namespace Go.Proofs.YtkoamlfiijcecaaGreatDoor.Sx
open Go.ChangeShapes Go.WideShapes Go.ChangeAt Go.RowKit Go.Deep
theorem RL(l:List Pa)(a:Option Addr)(c:Nat)(w:World){U:View}(A:See U w)(B:fJ PaR 6 U a l):CP 207 #[.slice a l.length c] w (Ret (.bool (!CW l)) w):=by
 have g:decide (1<=l.length)= !decide ((l.length:Int)<1):=by rw[<-W9];exact S7.2 oW
 have h:decide (l.length<=4)= !decide ((l.length:Int)>4):=by rw[<-W9];exact S7.2 oW
 refine dC 16 Tryz.func207 A ?_;refine zQ 1 (zn (zQ 4 (jM 6 ((l.length:Int)<1) (λf _=>?_) (λf r=>?_))))
 ·refine zq 10 (zn (aA (aO [2] [qT] (λk d=>?_))));refine⟨?_,d.below⟩;unfold CW;rw[g,h];simp only[dD,f,bs,bQ,reduceIte]
 ·refine zq 5 (jM 11 ((l.length:Int)>4) (λj _=>?_) (λj u=>?_))
  ·refine zq 5 (zn (aA (aO [2] [qT] (λk d=>?_))));refine⟨?_,d.below⟩;unfold CW;rw[g,h];simp only[dD,f,j,bs,bQ,reduceIte]
  ·refine zq 1 (cY 205 #[(.slice a l.length c)] (.bool (fZ l)) (λW d=>OZ l _ _ W d.view B oW) ?_);refine zq 3 (zn (aA (aO [2] [(.bool (!(fZ l)))] (λk d=>?_))));refine⟨?_,d.below⟩;unfold CW;rw[g,h];simp only[dD,f,j,bs,bQ,reduceIte]
def To:Nat->List (List Pa)->Int
 |_,[]=> -1
 |i,x::r=>if !CW x then(i:Int)else To (i+1) r
theorem QG{l:List (List Pa)}{i:Nat}{y:List Pa}(h:l[i]? =some y):To i (l.drop i)=if !CW y then(i:Int)else To (i+1) (l.drop (i+1)):=by
 rw[dS h,To]
theorem WU:∀(i:Nat) (l:List (List Pa)),decide (To i l≥0)= !l.all CW
 |_,[]=>rfl
 |i,x::r=>by
  rw[To,W4];cases CW x with
  |false=>simp
  |true=>simpa using WU (i+1) r
theorem Zu(l:List (List Pa))(a:Option Addr)(c:Nat)(w:World){U:View}(M:See U w)(I:fJ RlR 1 U a l):CP 238 #[.slice a l.length c,.func (.func 207) #[] #[]] w (Ret (.int .i64 (To 0 l)) w):=by
 have j:=I.len;unfold R47 at j;refine dC 19 Tryz.func238 M ?_;refine zQ 1 (zn (zs (zQ 3 (zn (aB (eF (α:=Nat) (λx=>[0,1,4,7,8].zip [(.slice a l.length c),(.func (.func 207) #[] #[]),(I6 0),(L6 l.length),(L6 x)]) (λx=>U) (λx=>[]) (λx=>x<=l.length/\To x (l.drop x)=To 0 l) (λx=>l.length-x) 0 ?_ ?_))))))
 ·exact⟨M8 _,rfl⟩
 intro x N;obtain⟨O,d⟩:=N;refine zQ 1 (zn (zs (aZ ((x:Int)<(l.length:Int)) (λL u=>?_) (λL u=>?_))))
 ·refine zk (zs (aB (zQ 2 (zn (zQ 3 ?_)))));obtain⟨g,f⟩:∃y,(l)[x]? =some y:=⟨(l)[x]'oW,K8 _⟩;obtain⟨k,r,K,rfl,C,B⟩:=I.at_ x g f;obtain⟨F,G,rfl,E⟩:=B;have D:=View.range1 C;refine cB (Pt k (r+x)) (eJ _ 76 _ _ rfl k r l.length c x .i64 kR kR (by first|assumption|omega) kR kR) ?_;refine zV k (r+x) (.slice F g.length G) D 76 (.tmp 14) _ Tryz.underlying76 rfl ?_;refine cY 207 #[(.slice F g.length G)] (.bool (!CW g)) (λW h=>RL g _ _ W h.view E) ?_;refine zn (gK (!CW g) (λA=>?_) (λA=>?_))
  ·refine zQ 2 (zn (aA (aO [4] [(L6 x)] (λJ h=>?_))));refine⟨?_,h.below⟩;rw[<-d,QG f,N1 A];rfl
  ·refine zk (zr (zq 1 (dH 18 ((x:Int)+1) (zq 1 (zn ?_)))));refine nx (x+1) ?_ ?_
   ·exact⟨by omega,by rw[<-d,QG f,A];rfl⟩
   ·show l.length-(x+1)<l.length-x;omega
 ·refine aI (zQ 1 (zn (aA (aO [4] [(I6 (-1))] (λJ h=>?_)))));refine⟨?_,h.below⟩;rw[<-d,cZ oW];rfl
theorem Zt(l:List (List Pa))(a:Option Addr)(c:Nat)(w:World){U:View}(f:See U w)(g:fJ RlR 1 U a l):CP 206 #[.slice a l.length c,.func (.func 207) #[] #[]] w (Ret (.bool (!l.all CW)) w):=by
 refine dC 9 Tryz.func206 f ?_;refine zQ 1 (zn (zQ 2 (cY 238 #[(.slice a l.length c),(.func (.func 207) #[] #[])] (I6 (To 0 l)) (λW d=>Zu l _ _ W d.view g) ?_)));refine zq 2 (zn (aA (aO [4] [(.bool (decide ((To 0 l)≥0)))] (λh d=>?_))));exact⟨by rw[<-WU 0 l];rfl,d.below⟩
theorem XO(a:As)(L J K:Option Addr)(M Y Z:Nat)(w:World){U:View}(hU:See U w)(I:DR U L J K a)(hc:a.t.length<=M):CP 156 #[asV a L J K M Y Z] w (Ret (.bool (cW a)) w):=by
 have N:=I.t;have O:=I.p;have V:=I.r;have r:decide (1<=a.t.length)= !decide ((a.t.length:Int)<1):=by rw[<-W9];exact S7.2 oW
 have u:decide (a.t.length<=16)= !decide ((a.t.length:Int)>16):=by rw[<-W9];exact S7.2 oW
 have A:decide (a.p.length<=8)= !decide ((a.p.length:Int)>8):=by rw[<-W9];exact S7.2 oW
 have B:decide (a.r.length=a.t.length)= !((a.r.length:Int) !=(a.t.length:Int)):=by
  by_cases h:a.r.length=a.t.length
  ·rw[h];simp
  ·rw[P0 h,show((a.r.length:Int) !=(a.t.length:Int))=true from Q0.2 oW];rfl
 refine dC 52 Tryz.func156 hU ?_;refine zs (zr (aW (λE=>(zq 1 (zn (zB [0,1,0,0] [(E,1)] (zn (zs (zQ 3 (jM 9 ((a.t.length:Int)<1) (λk _=>?_) (λk a1=>?_)))))))))))
 ·refine zq 21 (zn (dM (zQ 1 (zn (aA (aO [2] [qF] (λD d=>?_)))))));refine⟨?_,d.below⟩;unfold cW;rw[r,u,A,B];simp only[dD,k,Y0,bs,bQ,reduceIte]
 ·refine zq 4 (jM 13 ((a.t.length:Int)>16) (λC _=>?_) (λC a6=>?_))
  ·refine zq 17 (zn (dM (zQ 1 (zn (aA (aO [2] [qF] (λD d=>?_)))))));refine⟨?_,d.below⟩;unfold cW;rw[r,u,A,B];simp only[dD,k,C,Y0,bs,bQ,reduceIte]
  ·refine cF [0,1] [(E,1)] (cY 203 #[(.slice L a.t.length M)] (.bool (iU a.t)) (λW d=>IQ a.t _ _ W d.view N hc) ?_);refine zq 3 (cN 19 (!(iU a.t)) (λf=>?_) (λf=>?_))
   ·refine zq 11 (zn (dM (zQ 1 (zn (aA (aO [2] [qF] (λD d=>?_)))))));simp only[P1,P7]at f;refine⟨?_,d.below⟩;unfold cW;rw[r,u,A,B];simp only[dD,k,C,f,Y0,bs,bQ,reduceIte]
   ·refine cF [0,1] [(E,1)] (dN (λW d=>KT a.c W) (zq 3 (cN 25 (!(eX a.c)) (λg=>?_) (λg=>?_))))
    ·refine zq 5 (zn (dM (zQ 1 (zn (aA (aO [2] [qF] (λD d=>?_)))))));simp only[P1,P7]at f;simp only[P1,P7]at g;refine⟨?_,d.below⟩;unfold cW;rw[r,u,A,B];simp only[dD,k,C,f,g,Y0,bs,bQ,reduceIte]
    ·refine cF [0,1] [(E,4)] (dN (λW d=>jA a.s W I.s.l) (zq 2 (zn (gK (!(aN a.s)) (λj=>?_) (λj=>?_)))))
     ·refine zQ 1 (zn (aA (aO [2] [qF] (λD d=>?_))));simp only[P1,P7]at f;simp only[P1,P7]at g;simp only[P1,P7]at j;refine⟨?_,d.below⟩;unfold cW;rw[r,u,A,B];simp only[dD,k,C,f,g,j,Y0,bs,bQ,reduceIte]
     ·refine zk (zs (zB [0,1,0,0,0] [(E,1)] (jM 35 ((a.p.length:Int)>8) (λG _=>?_) (λG a7=>?_))))
      ·refine zq 12 (zn (dM (zQ 1 (zn (aA (aO [2] [qF] (λD d=>?_)))))));simp only[P1,P7]at f;simp only[P1,P7]at g;simp only[P1,P7]at j;refine⟨?_,d.below⟩;unfold cW;rw[r,u,A,B];simp only[dD,k,C,f,g,j,G,Y0,bs,bQ,reduceIte]
      ·refine cF [0,1] [(E,1)] (cY 205 #[(.slice J a.p.length Y)] (.bool (fZ a.p)) (λW d=>OZ a.p _ _ W d.view O oW) ?_);refine zq 3 (cN 41 (!(fZ a.p)) (λF=>?_) (λF=>?_))
       ·refine zq 6 (zn (dM (zQ 1 (zn (aA (aO [2] [qF] (λD d=>?_)))))));simp only[P1,P7]at f;simp only[P1,P7]at g;simp only[P1,P7]at j;simp only[P1,P7]at F;refine⟨?_,d.below⟩;unfold cW;rw[r,u,A,B];simp only[dD,k,C,f,g,j,G,F,Y0,bs,bQ,reduceIte]
       ·refine cF [0,1,0,0,0,0] [(E,1)] (zn (gK ((a.r.length:Int) !=(a.t.length:Int)) (λX=>?_) (λX=>?_)))
        ·refine zQ 1 (zn (aA (aO [2] [qF] (λD d=>?_))));simp only[P1,P7]at f;simp only[P1,P7]at g;simp only[P1,P7]at j;simp only[P1,P7]at F;refine⟨?_,d.below⟩;unfold cW;rw[r,u,A,B];simp only[dD,k,C,f,g,j,G,F,X,Y0,bs,bQ,reduceIte]
        ·refine zk (zB [0,1] [(E,1)] (cY 206 #[(.slice K a.r.length Z),(.func (.func 207) #[] #[])] (.bool (!a.r.all CW)) (λW d=>Zt a.r _ _ W d.view V) ?_));refine zq 2 (zn (aA (aO [2] [(.bool (!(!a.r.all CW)))] (λD d=>?_))));simp only[P1,P7]at f;simp only[P1,P7]at g;simp only[P1,P7]at j;simp only[P1,P7]at F;refine⟨?_,d.below⟩;unfold cW;rw[r,u,A,B];simp only[dD,k,C,f,g,j,G,F,X,Y0,bs,bQ,reduceIte]
theorem idU{n:Int}(h:0<=n/\n<=65535):IntKind.u64.wrap n=(n.toNat:Int):=by
 have:=u64_in (x:=n) oW oW;omega
theorem QP(l:List Pa)(a:Option Addr)(c:Nat)(w:World){U:View}(hU:See U w)(hl:fJ PaR 6 U a l)(c9:∀p∈l,0<=p.id/\p.id<=65535)(h7:l.length<=1000):CP 208 #[.slice a l.length c] w (fV w U (mV (gL l))):=by
 refine dC 26 Tryz.func208 hU ?_;refine zs (zr (aW (λN=>(zn (zQ 1 (zn (zs (zQ 3 (zn (aB (eF (α:=Gp Itm.Tr) (λx=>[2,3,6,7,8].zip [(Pt N 0),(x.r.V x.i),(.slice a l.length c),(L6 l.length),(L6 x.i)]) (λx=>x.V) (λx=>([(N,.cells [(I6 0),(U6 0),(St []),S0,qF].toArray 136 (0,0))]++x.r.B 136 x.xs)) (λx=>x.i<=l.length/\View.le U x.V/\RwR TV 5 x.V x.r x.xs x.i x.L/\x.L.map Prod.fst=(l.take x.i).map Pa.tree) (λx=>l.length-x.i) ⟨0,Rw.nil,[],[],U⟩ ?_ ?_ (hm:=λ_ h=>h.eqv (U3 kR (M1 ([(N,.cells [(I6 0),(U6 0),(St []),S0,qF].toArray 136 (0,0))]:aH)).symm)))))))))))))
 ·exact⟨M8 _,View.le_refl _,RwR.nil,rfl⟩
 let Y3:aH:=[(N,.cells [(I6 0),(U6 0),(St []),S0,qF].toArray 136 (0,0))];intro x hx;obtain⟨j1,L,E,b6⟩:=hx;refine zQ 1 (zn (zs (aZ ((x.i:Int)<(l.length:Int)) (λh0 c4=>?_) (λh0 c4=>?_))))
 ·refine zk (zs (aB (zs (zr ?_))));obtain⟨j,M⟩:∃y,(l)[x.i]? =some y:=⟨(l)[x.i]'oW,K8 _⟩;obtain⟨b1,f1,h4,rfl,c8,c7⟩:=(hl.le L).at_ x.i j M;obtain⟨h5,rfl,b5⟩:=c7;obtain⟨a1,c1,rfl,e5,h9,j0,h8⟩:=b5.form;let Y1:List Value:=[(I6 j.id),(I6 j.v.k),(N6 j.v.n),(St j.v.s),(.slice a1 j.v.l.length c1),(.bool j.v.o)];have K:=c9 j (K9 M);refine cB (Pt b1 (f1+x.i*6)) (rIx 180 rfl b1 f1 l.length c x.i 6) ?_;refine zU b1 (f1+x.i*6) Y1 c8 180 (.tmp 10) _ Tryz.underlying180 rfl ?_;refine dB 1 (λb2=>?_);refine aX 1 b2 (zn ?_);refine jX 4 [0,0,4,1,1,0,4,1,1,1] [(b2,1),(b2,5)] [.val (N6 j.id.toNat),.val (iV j.id.toNat),.mem (λv V=>∃g,v=(Sl g 0 2 2)/\fR V (some ⟨g,0,none⟩) [(Itm.cD j.id.toNat),j.v]),.mem (λv V=>∃g,v=(.agg #[.int .i64 4,.int .u64 0,.string (B []),.slice (some ⟨g,0,none⟩) 2 2,.bool false])/\fR V (some ⟨g,0,none⟩) [(Itm.cD j.id.toNat),j.v]),.mem (λv V=>∃g,v=(Sl g 0 1 1)/\fR V (some ⟨g,0,none⟩) [(Itm.dJ [(Itm.cD j.id.toNat),j.v])])] (by simp only[O4];refine⟨?_,?_,?_,?_,?_,λ_ h=>by cases h⟩<;>first|trivial|(intro v V V2 a8 hP;(first|trivial|exact PhiMono.go hP a8|(obtain⟨g,e,hP⟩:=hP;exact⟨g,e,hP.le a8⟩)))) ⟨?_,?_,?_,?_,?_,trivial⟩ ?_
  ·exact wE (U6 (IntKind.u64.wrap j.id)) (M0 (Value.int .u64) (idU K))
  ·refine wV 131 (λu=>#[(N6 j.id.toNat)]) λu V hV k W hW=>?_
   exact dV _ W
  ·refine wN [16,18] (λu=>[(iV j.id.toNat),(tV j.v a1 c1)]) λu V hV k=>?_
   refine⟨[(I6 0),(N6 j.id.toNat),(St []),S0,qF,(I6 j.v.k),(N6 j.v.n),(St j.v.s),(.slice a1 j.v.l.length c1),(.bool j.v.o)],136,λr=>(Sl r 0 2 2),?_,λg V' D hR=>?_⟩
   ·kernel_rfl
   exact⟨g,rfl,fR.lit [((Itm.cD j.id.toNat),(iN j.id.toNat)),(j.v,(tC j.v a1 c1))] hR ⟨((TV.num _ j.id.toNat (by first|assumption|decide|(unfold W64;omega))).le hV).le D,(b5.le hV).le D,trivial⟩ (show 2<=R47 by decide)⟩
  ·refine wM 209 (λu=>#[u 7]) λu V hV k W hW=>?_
   have e7:=k 7 kR rfl;obtain⟨g7,q7,t7⟩:=e7;rw[q7];exact Calls.retN hW (eD _ _ _ W) ⟨g7,rfl,t7⟩
  ·refine wN [20] (λu=>[u 8]) λu V hV k=>?_
   have e8:=k 8 kR rfl;obtain⟨g8,q8,t8⟩:=e8;refine⟨[(I6 4),(U6 0),(St []),(Sl g8 0 2 2),qF],136,λr=>(Sl r 0 1 1),?_,λg V' D hR=>?_⟩
   ·rw[q8];kernel_rfl
   exact⟨g,rfl,fR.lit [((Itm.dJ [(Itm.cD j.id.toNat),j.v]),[(I6 4),(U6 0),(St []),(Sl g8 0 2 2),qF])] hR ⟨(TV.list 2 t8).le D,trivial⟩ (show 1<=R47 by decide)⟩
  intro u3 V3 b3 A;have k8:=E.le b3;have O:=A 7 rfl;obtain⟨e1,b7,e6⟩:=O;refine qS 19 b7 ?_;have X:=A 8 rfl;obtain⟨e2,b8,h1⟩:=X;refine qS 20 b8 ?_;have Y:=A 9 rfl;obtain⟨e3,b9,c2⟩:=Y;refine qS 21 b9 ?_;obtain⟨h3,h6,L9,e9,Z,J,c6⟩:=c2.open (by simp);cases e9;have a6:L9.length=1:=by rw[<-O1 (f:=Prod.fst),Z];rfl
  refine iW 2 136 132 64 1 1 E.ok (λW hM=>View.range_of c6 hM.view) (by rw[J.flat_len,a6]) J.one (by decide) (λc0 b4=>?_);refine zq 1 (zn (zr (zq 1 (dH 23 ((x.i:Int)+1) (zq 1 (zn ?_))))));refine nx ⟨x.i+1,c0,(x.xs++(L9.flatMap Prod.snd)),x.L++L9,V3⟩ ?_ ?_ (d:=λ_ h=>Mem.sub (N4 (M4 _ _) (N7 _)) (h.eqv (show _=(((Y3:aH)++([(bK b2 Y1 180)]:aH))++(c0.B 136 (x.xs++(L9.flatMap Prod.snd))))from by kernel_rfl)))
  ·exact⟨by show x.i+1<=_;omega,(View.le_trans L b3),RwR.app k8 (CJ J) a6 b4,by rw[P6,b6,Z,dL Pa.tree M];rfl⟩
  ·show l.length-(x.i+1)<l.length-x.i;omega
 ·refine aI (zQ 1 ?_);refine sK 24 x.r x.xs 5 x.i Y3 136 kR E.ok kR (λI C h2 G a7 e4=>?_);let Y2:Value:=(.agg #[(I6 4),(U6 0),(St []),(.slice I (l.map Pa.tree).length C),qF]);have e0:=E.le G;have F:=(e0.done (by decide) a7 (View.le_refl _) (by unfold R47;omega)).ts;rw[b6,O2 oW]at F;rw[show x.i=(l.map Pa.tree).length by rw[O1];omega];refine cY 209 #[(.slice I (l.map Pa.tree).length C)] Y2 (λW hM=>eD _ _ _ W) ?_;refine aX 0 N (zn (aA (dW [1] [(N,5)] [Y2] (λW' hM=>?_))));exact aJ hM (View.le_trans L G) ⟨[(I6 4),(U6 0),(St []),(.slice I (l.map Pa.tree).length C),qF],rfl,((TV.list C F)).cast (by simp only[gL,h0,bs,bQ,reduceIte,M1])⟩
theorem Zn(a:As)(aT M Z:Option Addr)(O X Y:Nat)(w:World){U:View}(hU:See U w)(hA:DR U aT M Z a)(hs:cW a=true):CP 157 #[asV a aT M Z O X Y] w (fV w U (Ce a.items)):=by
 have k6:=hA.t;have k7:=hA.p;have k8:=hA.r;unfold cW at hs;simp only[L5,N0]at hs;obtain⟨⟨⟨⟨⟨⟨⟨⟨h1,h2⟩,h3⟩,h4⟩,h5⟩,h6⟩,h7⟩,h8⟩,h9⟩:=hs;have l9:=iD h3;have l6:=eI h4;have l7:=fU h7;have l8:∀l∈a.r,(∀p∈l,0<=p.id/\p.id<=65535)/\l.length<=4:=λl hl=>by
  have:=M7.1 h9 l hl;unfold CW at this;simp only[L5,N0]at this;exact⟨fU this.2,this.1.2⟩
 have m4:=idU l6;refine dC 67 Tryz.func157 hU ?_;refine zs (zr (aW (λE=>(zq 1 (zn (zQ 2 (zn (zs (zB [0,1,0,0] [(E,1)] (zn (aB (eF (α:=Gp2) (λx=>[1,2,3,4,11,12,13].zip [(Pt E 0),S0,(x.r.V x.i),(x.r2.V x.i),(.slice aT a.t.length O),(L6 a.t.length),(L6 x.i)]) (λx=>x.V) (λx=>([(bK E (mD a aT M Z O X Y) 79)]++x.r.B 136 x.xs++x.r2.B 136 x.xs2)) (λx=>x.i<=a.t.length/\View.le U x.V/\RwR TV 5 x.V x.r x.xs x.i x.L/\RwR TV 5 x.V x.r2 x.xs2 x.i x.L2/\x.L.map Prod.fst=(a.t.take x.i).map (λn=>Itm.cD n.toNat)/\x.L2.map Prod.fst=(a.r.take x.i).map gL) (λx=>a.t.length-x.i) ⟨0,Rw.nil,[],[],Rw.nil,[],[],U⟩ ?_ ?_ (hm:=λ_ h=>h.eqv (U3 kR ((M1 (([(bK E (mD a aT M Z O X Y) 79)]:aH)++[])).trans (M1 ([(bK E (mD a aT M Z O X Y) 79)]:aH))).symm))))))))))))))
 ·exact⟨M8 _,View.le_refl _,RwR.nil,RwR.nil,rfl,rfl⟩
 intro x hx;obtain⟨r6,V,b9,G,j9,e2⟩:=hx;refine zQ 1 (zn (zs (aZ ((x.i:Int)<(a.t.length:Int)) (λh0 k9=>?_) (λh0 k9=>?_))))
 ·refine zk (zs (aB (zQ 1 ?_)));obtain⟨D,e3⟩:∃y,(a.t)[x.i]? =some y:=⟨(a.t)[x.i]'oW,K8 _⟩;obtain⟨b1,f1,rfl,l3⟩:=(k6.le V).one e3;have e0:=l9 D (K9 e3);refine cB (Pt b1 (f1+x.i)) (eJ _ 3 _ _ rfl b1 f1 a.t.length O x.i .i64 kR kR (by first|assumption|omega) kR kR) ?_;refine zV b1 (f1+x.i) (I6 D) l3 3 (.tmp 16) _ Tryz.underlying3 rfl ?_;refine zq 2 (zn (zQ 3 (dZ 20 (U6 (IntKind.u64.wrap D)) (N6 D.toNat) (M0 (Value.int .u64) (idU e0)) ?_)));refine cY 131 #[(N6 D.toNat)] (iV D.toNat) (λW f=>dV _ W) ?_;refine dB 1 (λb2=>?_);let Y7:aH:=[(bK E [(Sl b1 f1 a.t.length O),(I6 a.c),(I6 a.s.s),(St a.s.l),(N6 a.s.n),(N6 a.s.v),(.slice M a.p.length X),(.slice Z a.r.length Y)] 79),(b2,.cells (iN D.toNat).toArray 136 (0,0))];refine tU Y7 (x.r.B 136 x.xs) (x.r2.B 136 x.xs2) kR ?_;refine fK x.r x.xs x.i (Y7++x.r2.B 136 x.xs2) 136 132 5 64 1 kR b9.ok (.tmp 18) (.tmp 22) rfl kR b2 0 1 (iN D.toNat) kR (λW f=>cI f 1 b2 (iN D.toNat) 136 kR) rfl (M7.1 kR) (by decide) (by unfold maxLen;omega) oW kR kR kR kR kR (λr3 m1=>?_);refine zq 1 (zn (zr (cF [0,0,1,0] [(E,1)] ?_)));obtain⟨y4,e4⟩:∃y,(a.r)[x.i]? =some y:=⟨(a.r)[x.i]'oW,K8 _⟩;obtain⟨b4,f4,r0,rfl,l4,l2⟩:=(k8.le V).at_ x.i y4 e4;let Y3:=(bK E [(Sl b1 f1 a.t.length O),(I6 a.c),(I6 a.s.s),(St a.s.l),(N6 a.s.n),(N6 a.s.v),(.slice M a.p.length X),(Sl b4 f4 a.r.length Y)] 79);obtain⟨a4,c4,rfl,m0⟩:=l2;have l5:=View.range1 l4;have b3:=l8 y4 (K9 e4);refine cB (Pt b4 (f4+x.i)) (eJ _ 76 _ _ rfl b4 f4 a.r.length Y x.i .i64 kR kR (by first|assumption|omega) kR kR) ?_
  refine zV b4 (f4+x.i) (.slice a4 y4.length c4) l5 76 (.tmp 28) _ Tryz.underlying76 rfl ?_;refine oI 208 #[(.slice a4 y4.length c4)] (mV (gL y4)) (λW f=>QP y4 _ _ W f.view m0 b3.1 (by have:=b3.2;omega)) (λv5 V5 b8 l1=>?_);have m5:=(TV.num _ D.toNat (by first|assumption|decide|(unfold W64;omega))).le b8;have m6:=G.le b8;have m7:=b9.le b8;obtain⟨r1,rfl,j8⟩:=l1;obtain⟨a5,c5,rfl,q4,r4,r5,r2⟩:=j8.form;refine dB 2 (λa1=>?_);refine tU [Y3,(b2,.cells (iN D.toNat).toArray 136 (0,0)),(bK a1 (tC (gL y4) a5 c5) 136)] (x.r2.B 136 x.xs2) (r3.B 136 (x.xs++(iN D.toNat))) kR ?_;refine fK x.r2 x.xs2 x.i ([Y3,(b2,.cells (iN D.toNat).toArray 136 (0,0)),(bK a1 (tC (gL y4) a5 c5) 136)]++r3.B 136 (x.xs++(iN D.toNat))) 136 132 5 64 1 kR G.ok (.tmp 24) (.tmp 31) rfl kR a1 0 1 (tC (gL y4) a5 c5) kR (λW f=>cI f 2 a1 (tC (gL y4) a5 c5) 136 kR) rfl (M7.1 kR) (by decide) (by unfold maxLen;omega) oW kR kR kR kR kR (λk2 j4=>?_);refine zq 1 (zn (zr (zq 1 (dH 33 ((x.i:Int)+1) (zq 1 (zn ?_))))));refine nx ⟨x.i+1,r3,(x.xs++(iN D.toNat)),x.L++[((Itm.cD D.toNat),(iN D.toNat))],k2,(x.xs2++(tC (gL y4) a5 c5)),x.L2++[((gL y4),(tC (gL y4) a5 c5))],V5⟩ ?_ ?_ (d:=λ_ h=>Mem.sub (N4 (N4 (M4 _ _) (N7 _)) (N7 _)) (h.eqv (show _=(((([Y3]:aH)++([(b2,.cells (iN D.toNat).toArray 136 (0,0)),(bK a1 (tC (gL y4) a5 c5) 136)]:aH))++(r3.B 136 (x.xs++(iN D.toNat))))++(k2.B 136 (x.xs2++(tC (gL y4) a5 c5))))from by kernel_rfl)))
  ·exact⟨by show x.i+1<=_;omega,(View.le_trans V b8),RwR.snoc m7 m5 m1,RwR.snoc m6 j8 j4,by rw[P6,j9,dL _ e3];rfl,by rw[P6,e2,dL _ e4];rfl⟩
  ·show a.t.length-(x.i+1)<a.t.length-x.i;omega
 ·refine aI (zB [0,1] [(E,4)] (lU (λW f=>pH a.s W f.view hA.s h5) (λr7 q5 F e6=>?_)));have m8:=(k7.le V).le F;have m9:=b9.le F;have n0:=G.le F;obtain⟨p3,rfl,c6⟩:=e6;obtain⟨u,B,rfl,m2,q0,q2,p8⟩:=c6.form;refine zq 3 (dB 1 (λI=>?_));let Y5:aH:=[(bK E (mD a aT M Z O X Y) 79),(bK I (tC a.s.tree u B) 136)];refine aX 1 I ?_;refine tU Y5 (x.r.B 136 x.xs) (x.r2.B 136 x.xs2) kR ?_;refine sK 3 x.r x.xs 5 x.i (Y5++x.r2.B 136 x.xs2) 136 kR b9.ok kR (λL J q6 j e8 p5=>?_);let Y1:List Value:=[(I6 4),(U6 0),(St []),(.slice L x.i J),qF,(I6 0),(N6 a.c.toNat),(St []),S0,qF,(I6 0),(U6 1),(St []),S0,qF,(I6 a.s.tree.k),(N6 a.s.tree.n),(St a.s.tree.s),(.slice u a.s.tree.l.length B),(.bool a.s.tree.o)];let Y2:List Value:=[(I6 4),(U6 0),(St []),(.slice L x.i J),qF,(I6 0),(N6 a.c.toNat),(St []),S0,qF,(I6 0),(U6 0),(St []),S0,qF,(I6 a.s.tree.k),(N6 a.s.tree.n),(St a.s.tree.s),(.slice u a.s.tree.l.length B),(.bool a.s.tree.o)];have n1:=m8.le j;have k0:=c6.le j;have k1:=n0.le j;have n2:=m9.le j;have c0:=(n2.done (by decide) e8 (View.le_refl _) (by unfold R47;omega)).ts;rw[j9,O2 oW]at c0;have j1:x.i=(a.t.map (λn:Int=>Itm.cD n.toNat)).length:=by rw[O1];omega
  refine zq 1 (zn (zs ?_));have K:=TV.list J c0;rw[<-j1]at K;refine gI 3 [0,1,0,3,1,1,1,4] [(E,1),(I,5)] [.val (.agg #[(I6 4),(U6 0),(St []),(.slice L x.i J),qF]),.val (N6 a.c.toNat),.val (iV a.c.toNat),.val (.agg #[(I6 0),(U6 0),(St []),S0,qF])] ⟨?_,?_,?_,?_,trivial⟩ ?_
  ·exact vC 209 #[(.slice L x.i J)] (λW f=>eD _ _ _ W)
  ·exact vE (U6 (IntKind.u64.wrap a.c)) (M0 (Value.int .u64) m4)
  ·exact vC 131 #[(N6 a.c.toNat)] (λW f=>dV _ W)
  ·exact vC 131 #[(U6 0)] (λW f=>dV _ W)
  refine dB 2 (λN=>?_);refine zq 1 (zn (zs (zB [0,1,0,0] [(E,1)] (zn (aZ ((a.p.length:Int)>0) (λh1 l0=>?_) (λh1 l0=>?_))))))
  ·refine zQ 1 (cY 131 #[(U6 1)] (.agg #[(I6 0),(U6 1),(St []),S0,qF]) (λW f=>dV _ W) ?_);refine zq 1 (aX 2 N (zn (zr (cF [0,0,1] [(E,1)] (oI 208 #[(.slice M a.p.length X)] (mV (gL a.p)) (λW f=>QP a.p _ _ W f.view n1 l7 oW) (λr8 q7 k e7=>?_))))));have n5:=k0.le k;have n7:=K.le k;have n8:=(TV.num _ a.c.toNat (by first|assumption|decide|(unfold W64;omega))).le k;have n9:=(TV.num _ 1 (by first|assumption|decide|(unfold W64;omega))).le k;have o0:=k1.le k;obtain⟨p4,rfl,c7⟩:=e7;obtain⟨A,C,rfl,m3,q1,q3,p9⟩:=c7.form;refine dB 3 (λa6=>?_);let Y6:aH:=[(bK E (mD a aT M Z O X Y) 79),(bK I (tC a.s.tree u B) 136),(bK a6 (tC (gL a.p) A C) 136)];refine UR Y5 ([(bK a6 (tC (gL a.p) A C) 136)]++x.r2.B 136 x.xs2) (N,.cells Y1.toArray 136 (0,0)) kR ?_;refine fK (Rw.row N 4 []) Y1 4 (Y6++x.r2.B 136 x.xs2) 136 132 5 64 1 kR ⟨rfl,rfl,O9 _,by decide⟩ (.tmp 56) (.tmp 60) rfl kR a6 0 1 (tC (gL a.p) A C) kR (λW f=>cI f 2 a6 (tC (gL a.p) A C) 136 kR) rfl (M7.1 kR) (by decide) (by unfold maxLen;omega) oW kR kR kR kR kR (λk3 j5=>?_);refine zq 1 (zn (zQ 2 ?_));refine tU Y6 (x.r2.B 136 x.xs2) (k3.B 136 (Y1++(tC (gL a.p) A C))) kR ?_;refine sK 63 x.r2 x.xs2 5 x.i (Y6++k3.B 136 (Y1++(tC (gL a.p) A C))) 136 kR G.ok kR (λc8 b6 q8 g e9 p6=>?_);let Y8:List Value:=[(I6 4),(U6 0),(St []),(.slice c8 x.i b6),qF];have o1:=n5.le g;have o2:=n7.le g;have o3:=n8.le g;have o4:=n9.le g;have o5:=c7.le g;have o6:=o0.le g;have c1:=(o6.done (by decide) e9 (View.le_refl _) (by unfold R47;omega)).ts;rw[e2,O2 oW]at c1;have j2:x.i=(a.r.map gL).length:=by rw[O1];omega
   have a7:=TV.list b6 c1;rw[<-j2]at a7;refine cY 209 #[(.slice c8 x.i b6)] (.agg #[(I6 4),(U6 0),(St []),(.slice c8 x.i b6),qF]) (λW f=>eD _ _ _ W) ?_;refine dB 3 (λe5=>?_);refine iW 4 136 132 64 1 1 j5 (λW f=>cI f 3 e5 Y8 136 kR) rfl (M7.1 kR) (by decide) (λk4 j6=>?_);refine zq 1 (zn (aA (aO [2] [(k4.V ((4+1)+1))] (λW' f=>?_))));have e1:a.items=[(Itm.dJ (a.t.map (λn:Int=>Itm.cD n.toNat))),(Itm.cD a.c.toNat),(Itm.cD 1),a.s.tree,(gL a.p),(Itm.dJ (a.r.map gL))]:=by unfold As.items;rw[M5 oW];rfl
   rw[e1];exact VF (f.eqv (show _=([(bK E (mD a aT M Z O X Y) 79),(bK I (tC a.s.tree u B) 136),(bK a6 (tC (gL a.p) A C) 136),(e5,.cells Y8.toArray 136 (0,0))]:aH)++k4.B 136 ((Y1++(tC (gL a.p) A C))++Y8)from by kernel_rfl)) j6 (View.le_trans (View.le_trans (View.le_trans (View.le_trans V F) j) k) g) [((Itm.dJ (a.t.map (λn:Int=>Itm.cD n.toNat))),[(I6 4),(U6 0),(St []),(.slice L x.i J),qF]),((Itm.cD a.c.toNat),(iN a.c.toNat)),((Itm.cD 1),[(I6 0),(U6 1),(St []),S0,qF]),(a.s.tree,(tC a.s.tree u B)),((gL a.p),(tC (gL a.p) A C)),((Itm.dJ (a.r.map gL)),Y8)] kR ⟨o2,o3,o4,o1,o5,a7,trivial⟩ _ rfl rfl (by unfold R47;decide)
  ·refine zk (zQ 2 ?_);refine sK 63 x.r2 x.xs2 5 x.i [(bK E (mD a aT M Z O X Y) 79),(bK I (tC a.s.tree u B) 136),(N,.cells Y2.toArray 136 (0,0))] 136 kR G.ok kR (λc9 b7 q9 r j0 p7=>?_);let Y4:List Value:=[(I6 4),(U6 0),(St []),(.slice c9 x.i b7),qF];have o7:=k0.le r;have o8:=K.le r;have o9:=(TV.num _ a.c.toNat (by first|assumption|decide|(unfold W64;omega))).le r;have p1:=(TV.num _ 0 (by first|assumption|decide|(unfold W64;omega))).le r;have p2:=k1.le r;have c2:=(p2.done (by decide) j0 (View.le_refl _) (by unfold R47;omega)).ts;rw[e2,O2 oW]at c2;have j3:x.i=(a.r.map gL).length:=by rw[O1];omega
   have a8:=TV.list b7 c2;rw[<-j3]at a8;refine cY 209 #[(.slice c9 x.i b7)] (.agg #[(I6 4),(U6 0),(St []),(.slice c9 x.i b7),qF]) (λW f=>eD _ _ _ W) ?_;refine aW (λb5=>?_);let Y9:aH:=[(bK E (mD a aT M Z O X Y) 79),(bK I (tC a.s.tree u B) 136),(b5,.cells Y4.toArray 136 (0,0))];refine UR Y5 ([(b5,.cells Y4.toArray 136 (0,0))]) (N,.cells Y2.toArray 136 (0,0)) kR ?_;refine fK (Rw.row N 4 []) Y2 4 Y9 136 132 5 64 1 kR ⟨rfl,rfl,O9 _,by decide⟩ (.tmp 62) (.tmp 65) rfl kR b5 0 1 Y4 kR (λW f=>cI f 2 b5 Y4 136 kR) rfl (M7.1 kR) (by decide) (by unfold maxLen;omega) oW kR kR kR kR kR (λk5 j7=>?_);refine zq 1 (zn (aA (aO [2] [(k5.V (4+1))] (λW' f=>?_))));have e1:a.items=[(Itm.dJ (a.t.map (λn:Int=>Itm.cD n.toNat))),(Itm.cD a.c.toNat),(Itm.cD 0),a.s.tree,(Itm.dJ (a.r.map gL))]:=by unfold As.items;rw[N1 oW];rfl
   rw[e1];exact VF (f.eqv (show _=(Y9:aH)++k5.B 136 (Y2++Y4)from by kernel_rfl)) j7 (View.le_trans (View.le_trans (View.le_trans V F) j) r) [((Itm.dJ (a.t.map (λn:Int=>Itm.cD n.toNat))),[(I6 4),(U6 0),(St []),(.slice L x.i J),qF]),((Itm.cD a.c.toNat),(iN a.c.toNat)),((Itm.cD 0),[(I6 0),(U6 0),(St []),S0,qF]),(a.s.tree,(tC a.s.tree u B)),((Itm.dJ (a.r.map gL)),Y4)] kR ⟨o8,o9,p1,o7,a8,trivial⟩ _ rfl rfl (by unfold R47;decide)
structure As.small (a : As) : Prop where
 s:a.s.l.length<=R47
 p:∀x∈a.p,x.v.s.length<=R47
 r:∀l∈a.r,∀x∈l,x.v.s.length<=R47
theorem DR.small{U:View}{g j k:Option Addr}{a:As}(h:DR U g j k a):a.small:=
 ⟨h.s.l,λx f=>by
  obtain⟨cs,r,_,d⟩:=h.p.all f;obtain⟨_,_,_,_,_,hs,_⟩:=d.form;exact hs,λl u x f=>by
  obtain⟨cs,a,c,_,A⟩:=h.r.all u;obtain⟨cs,r,_,d⟩:=A.all f;obtain⟨_,_,_,_,_,hs,_⟩:=d.form;exact hs⟩
theorem Ml{B:Nat}:∀(l:List Itm.Tr),(∀x∈l,Itm.szT x<=B)->Itm.szL l<=l.length*B
 | [],_=>by simp[Itm.szL]
 |x::l,h=>by
  have d:=h x Q3;have f:=Ml l λy a=>h y (P3 _ a)
  rw[Itm.szL,M9,W6];omega
theorem LF{B n:Nat}{l:List Itm.Tr}(a:l.length<=n)(h:∀x∈l,Itm.szT x<=B):Itm.szT (Itm.dJ l)<=1+n*B:=by
 have d:=Ml l h;have f:l.length*B<=n*B:=Nat.mul_le_mul_right B a;show Itm.szT (.mk 4 0 [] l false)<=_;rw[Itm.szT];simp only[O8];omega
theorem RC(n:Nat):Itm.szT (Itm.cD n)<=1:=by
 show Itm.szT (.mk 0 n [] [] false)<=1;rw[Itm.szT,Itm.szL];simp
theorem UQ{v:Itm.Tr}(a:(v.k==0||v.k==2)=true)(h:Itm.aU 8 v=true)(hs:v.s.length<=R47):Itm.szT v<=1+R47:=by
 rw[Itm.aU,L5]at h;have d:v.l.length=0:=by
  rcases Itm.lW h.1 with⟨_,_,h,_⟩|⟨_,_,h,_⟩|⟨_,_,h,_⟩|⟨h,_⟩
  ·exact h
  ·exact h
  ·exact h
  ·rw[h]at a;cases a
 obtain⟨k,n,s,l,o⟩:=v;obtain rfl:=O7.1 (show l.length=0 from d);have f:s.length<=R47:=hs;rw[Itm.szT,Itm.szL];omega
theorem LD{l:List Pa}{n:Nat}(g:l.length<=n)(h:fZ l=true)(hs:∀x∈l,x.v.s.length<=R47):Itm.szT (gL l)<=1+n*(1+2*(1+R47)):=by
 unfold fZ at h;rw[L5]at h;refine LF (by rw[O1];exact g) λx j=>?_
 obtain⟨p,d,rfl⟩:=S1.1 j;refine LF (n:=2) (by simp) λy f=>?_
 have a:=M7.1 h.1 p d;unfold paB at a;rw[L5]at a;simp only[O6,Q8,U2]at f;rcases f with rfl|rfl
 ·exact X0 (RC _) (bR _ _)
 ·exact UQ a.1 a.2 (hs p d)
theorem Yo{e:Ei}(h:e.l.length<=R47):Itm.szT e.tree<=10+R47:=by
 unfold R47 at *;unfold Ei.tree;split
 ·simp[Itm.dJ,Itm.cD,Itm.szT,Itm.szL]
 ·split
  ·simp[Itm.dJ,Itm.cD,Itm.szT,Itm.szL]
  ·simp[Itm.dJ,Itm.cD,XI,Itm.szT,Itm.szL];omega
theorem Oo{a:As}(hs:a.small)(h:cW a=true):∀x∈a.items,Itm.szT x<=DK:=by
 unfold cW at h;simp only[L5,N0]at h;obtain⟨⟨⟨⟨⟨⟨⟨⟨A,j⟩,B⟩,C⟩,D⟩,k⟩,r⟩,E⟩,u⟩:=h;have F:Itm.szT (Mm a.t)<=1+16*1:=LF (by rw[O1];exact j) λx d=>by
  obtain⟨n,_,rfl⟩:=S1.1 d;exact RC _
 have G:=LD k r hs.p;have I:Itm.szT (Itm.dJ (a.r.map gL))<=1+16*(1+4*(1+2*(1+R47))):=LF (by rw[O1];omega) λx d=>by
  obtain⟨l,g,rfl⟩:=S1.1 d;have:=M7.1 u l g;unfold CW at this;simp only[L5,N0]at this;exact LD this.1.2 this.2 (hs.r l g)
 have J:=Yo hs.s;have f:=RC;intro x d;unfold DK;unfold R47 at *;unfold As.items at d;split at d
 ·simp only[O6,Q8,U2]at d;rcases d with rfl|rfl|rfl|rfl|rfl
  ·omega
  ·have:=f a.c.toNat;omega
  ·have:=f 0;omega
  ·omega
  ·omega
 ·simp only[O6,Q8,U2]at d;rcases d with rfl|rfl|rfl|rfl|rfl|rfl
  ·omega
  ·have:=f a.c.toNat;omega
  ·have:=f 1;omega
  ·omega
  ·omega
  ·omega
theorem Vq(a:As):a.items.length<=6:=by
 unfold As.items;split<;>simp
theorem UA{l:List Itm.Tr}{i:Nat}{y:Itm.Tr}(h:l[i]? =some y):Itm.aY (l.take (i+1))=Itm.aY (l.take i)++Itm.aG y:=Itm.TZ h
theorem NG(a:As)(A r u:Option Addr)(L J K:Nat)(w:World){U:View}(hU:See U w)(C:DR U A r u a)(hs:cW a=true):CP 102 #[asV a A r u L J K] w (Ret (.string (B a.bytes)) w):=by
 have b7:=C.t;have b8:=C.p;have b9:=C.r;have b2:=Oo C.small hs;have b1:=tG hs (d:=4);have c2:=Vq a;refine dC 25 Tryz.func102 hU ?_;refine zs (zr (aW (λN=>(zq 1 (zn (zQ 1 (zn (zs (zB [1] [(N,8)] (oI 157 #[(asV a A r u L J K)] (Ce a.items) (λW D=>Zn a _ _ _ _ _ _ W D.view C hs) (λv1 V1 c0 a6=>?_)))))))))));obtain⟨a1,c1,rfl,G⟩:=a6;refine zq 2 (zn (aB (eF (α:=Nat×List UInt8) (λx=>[2,3,9,10,11].zip [(St []),(St x.2),(.slice a1 a.items.length c1),(L6 a.items.length),(L6 x.1)]) (λx=>V1) (λx=>[(bK N (mD a A r u L J K) 79)]) (λx=>x.1<=a.items.length/\x.2=Itm.aY (a.items.take x.1)/\x.2.length<=800000000000000000*x.1) (λx=>a.items.length-x.1) (0,[]) ?_ ?_)))
 ·exact⟨M8 _,rfl,M8 _⟩
 intro x hx;obtain⟨c8,I,c9⟩:=hx;refine zQ 1 (zn (zs (aZ ((x.1:Int)<(a.items.length:Int)) (λh0 Z=>?_) (λh0 Z=>?_))))
 ·refine zk (zs (aB (zs (zr ?_))));obtain⟨f,j⟩:∃y,(a.items)[x.1]? =some y:=⟨(a.items)[x.1]'oW,K8 _⟩;obtain⟨O,Y,b4,rfl,a7,F⟩:=G.at_ x.1 f j;obtain⟨M,X,rfl,b3,c6,c7,c4⟩:=F.form;have g:=b2 f (K9 j);have E:=b1 f (K9 j);have a8:=Itm.cV f;have k:=g;unfold DK at k;refine cB (Pt O (Y+x.1*5)) (rIx 136 rfl O Y a.items.length c1 x.1 5) ?_;refine zU O (Y+x.1*5) (tC f M X) a7 136 (.tmp 13) _ Tryz.underlying136 rfl ?_;refine aW (λV=>(aX 1 V (zn (zB [2] [(V,5)] (cY 158 #[(tV f M X)] (.tuple #[(St (Itm.aG f)),(I6 0)]) (λW D=>pE f _ D.view F E g) ?_)))));refine zq 5 (zn (zr (zq 2 (cB (St (x.2++(Itm.aG f))) (cE _ _ _ _ rfl x.2 (Itm.aG f) kR kR oA) ?_))));refine zq 1 (zn (zr (zq 1 (dH 23 ((x.1:Int)+1) (zq 1 (zn ?_))))));refine nx (x.1+1,x.2++Itm.aG f) ?_ ?_ (d:=λ_ h=>Mem.sub (M4 _ _) (h.eqv (show _=([(bK N (mD a A r u L J K) 79)]:aH)++([(bK V (tC f M X) 136)]:aH)from by kernel_rfl)))
  ·exact⟨by show x.1+1<=_;omega,by show x.2++Itm.aG f=_;rw[I,UA j],by show(x.2++Itm.aG f).length<=_;rw[L4];omega⟩
  ·show a.items.length-(x.1+1)<a.items.length-x.1;omega
 ·refine aI (zQ 2 (zn (aA (aO [2] [(St x.2)] (λW' D=>?_)))));refine⟨?_,D.below⟩;unfold As.bytes;rw[I,O2 oW];rfl
theorem KS(a:As)(j g h:Option Addr)(k u A:Nat)(w:World){U:View}(I:See U w)(f:DR U j g h a)(J:a.t.length<=k):CP 101 #[asV a j g h k u A] w (Ret (.bool a.right) w):=by
 have E:=f.t;have F:=f.p;have G:=f.r;have C:decide (a.bytes.length<=4000)=decide ((a.bytes.length:Int)<=4000):=S7.2 oW;refine dC 11 Tryz.func101 I ?_;refine zs (zr (aW (λB=>(zq 1 (zn (zB [1] [(B,8)] (cY 156 #[(asV a j g h k u A)] (.bool (cW a)) (λW d=>XO a _ _ _ _ _ _ W d.view f J) ?_)))))));refine zq 1 (cN 5 (cW a) (λr=>?_) (λr=>?_))
 ·refine cF [1] [(B,8)] (cY 102 #[(asV a j g h k u A)] (St a.bytes) (λW d=>NG a _ _ _ _ _ _ W d.view f r) ?_);refine zq 4 (zn (aA (aO [2] [(.bool (decide ((((a.bytes).length:Nat):Int)<=4000)))] (λD d=>?_))));refine⟨?_,d.below⟩;unfold As.right;rw[C];simp only[dD,r,bs,bQ,reduceIte]
 ·refine zq 6 (zn (aA (aO [2] [qF] (λD d=>?_))));refine⟨?_,d.below⟩;unfold As.right;rw[C];simp only[dD,r,bs,bQ,reduceIte]
def As.outB(a:As):List UInt8:=if a.right then a.bytes else[]
def As.outZ(a:As):Int:=if a.right then 0 else 1
theorem As.shaped{a:As}(h:a.right=true):cW a=true:=by
 unfold As.right at h;rw[L5]at h;exact h.1
theorem CL(a:As)(k h j:Option Addr)(r u A:Nat)(w:World){U:View}(I:See U w)(g:DR U k h j a)(J:a.t.length<=r):CP 61 #[asV a k h j r u A] w (Ret (.tuple #[.string (B a.outB),.int .i64 a.outZ]) w):=by
 have E:=g.t;have F:=g.p;have G:=g.r;refine dC 9 Tryz.func61 I ?_;refine zs (zr (aW (λC=>(zq 2 (zn (zs (zB [1] [(C,8)] (cY 101 #[(asV a k h j r u A)] (.bool a.right) (λW d=>KS a _ _ _ _ _ _ W d.view g J) ?_))))))));refine zq 1 (zn (gK (!a.right) (λf=>?_) (λf=>?_)))
 ·refine zQ 2 (zn (aA (aO [2,3] [(St []),(I6 1)] (λD d=>?_))));simp only[P1,P7]at f;refine⟨?_,d.below⟩;unfold As.outB As.outZ;simp only[dD,f,bs,bQ,reduceIte]
 ·refine zk (zB [1] [(C,8)] (cY 102 #[(asV a k h j r u A)] (St a.bytes) (λW d=>NG a _ _ _ _ _ _ W d.view g (As.shaped (by simpa using f))) ?_));refine zq 2 (zn (aA (aO [2,3] [(St a.bytes),(I6 0)] (λD d=>?_))));simp only[P1,P7]at f;refine⟨?_,d.below⟩;unfold As.outB As.outZ;simp only[dD,f,bs,bQ,reduceIte]
theorem XH(a:Addr)(s:List UInt8)(e:Er)(w:World):CP 302 #[.agg #[.string (B s),e.V a]] w (Ret (e.V a) w):=by
 refine dF 5 Tryz.func302 ?_;refine zs (zr (aW (λd=>(zq 1 (zn (zB [0,1,0] [(d,1)] (zn (aA (gC 2)))))))))
theorem Ok(a:Addr)(e:Er)(w:World):CP 202 #[e.V a,.iface 344 (.pointer (some a)),.bool true] w (Ret (.bool true) w):=by
 refine dF 54 Tryz.func202 ?_;refine zQ 1 (zn (aB (eF (α:=Er) (λx=>[0,1,2,6].zip [(Er.V a x),(.iface 344 (.pointer (some a))),qT,qF]) (λx=>View.no) (λx=>[]) (λx=>True) (λx=>x.deep) e ?_ ?_)))
 ·trivial
 intro x g;cases x with
 |leaf=>
  refine aB (zs (zQ 4 (cB qT (Jy _ _ _ _ rfl 344 370 a kR kR Tryz.underlying163 Tryz.underlying344 kR kR) ?_)));refine zq 1 (zn (dM (zQ 1 (zn (aA (gC 6))))))
 |wrap s2 d=>
  refine aB (zs (zQ 4 (cB qF (Jz _ _ _ _ rfl 259 344 (.agg #[(St s2),(Er.V a d)]) (.pointer (some a)) kR kR Tryz.underlying163 (by decide)) ?_)));refine zq 1 (zn (cU (zk (zs (zQ 1 (cB (.tuple #[.nilIface,qF]) (Kb _ _ _ rfl 259 (.agg #[(St s2),(Er.V a d)]) kR Tryz.underlying301 kR kR) ?_))))));refine zq 5 (zn (zQ 6 (zn (cU (zk (zQ 1 (zn (aB (zs (zr (cB (.tuple #[(.iface 259 (.agg #[(St s2),(Er.V a d)])),qT]) (Kc _ _ _ rfl 259 (.agg #[(St s2),(Er.V a d)]) kR Tryz.underlying303 kR) ?_)))))))))));refine zq 2 (zn (dM (zQ 1 (zn (zQ 1 (dN (λW f=>XH a s2 d W) (zq 1 (zn (zQ 1 (cB qF (CS .eql false _ _ _ _ rfl (Or.inl ⟨rfl,rfl⟩) kR a d kR kR) ?_))))))))));refine zn (cU (zk ?_));refine nx d ?_ ?_
  ·trivial
  ·show d.deep<d.deep+1;exact Nat.lt_succ_self _
theorem Vh(a:Addr)(e:Er)(w:World):CP 155 #[e.V a,.iface 344 (.pointer (some a))] w (Ret (.bool true) w):=by
 refine dF 22 Tryz.func155 ?_;refine zQ 1 (zn (zs (zQ 1 (cB qF (CS .eql false _ _ _ _ rfl (Or.inl ⟨rfl,rfl⟩) kR a e kR kR) ?_))));refine zq 2 (cB qF (Xl .eql false _ _ _ _ rfl (Or.inl ⟨rfl,rfl⟩) kR 344 (.pointer (some a)) kR kR) ?_);refine zq 1 (zn (cU (zk (zQ 4 (zn (zQ 3 (dN (λW d=>Ok a e W) (zq 1 (zn (aA (gC 4)))))))))))
theorem Vj(a:Addr)(w:World):CP 155 #[.nilIface,.iface 344 (.pointer (some a))] w (Ret (.bool false) w):=by
 refine dF 22 Tryz.func155 ?_;refine zQ 1 (zn (zs (zQ 1 (cB qT (pU .eql true _ _ _ rfl (Or.inl ⟨rfl,rfl⟩) kR kR) ?_))));refine zq 4 (zn (dM (zQ 2 (cB qF (Qr _ _ _ _ rfl 344 (.pointer (some a)) kR kR Tryz.underlying163) ?_))));refine zq 1 (zn (aA (gC 4)))
theorem Vi(a:Addr)(e:Er)(w:World){U:View}(f:See U w)(d:EF U a):CP 100 #[e.V a] w (Ret (.bool true) w):=by
 refine dC 6 Tryz.func100 f ?_;refine zQ 1 (zn (zQ 1 (zV 0 (0) (.iface 344 (.pointer (some a))) d 163 (.global 0) _ Tryz.underlying163 rfl ?_)));refine dN (λW g=>Vh a e W) (zq 1 (zn (aA (gC 2))))
theorem ZL(a:Addr)(w:World){U:View}(f:See U w)(d:EF U a):CP 100 #[.nilIface] w (Ret (.bool false) w):=by
 refine dC 6 Tryz.func100 f ?_;refine zQ 1 (zn (zQ 1 (zV 0 (0) (.iface 344 (.pointer (some a))) d 163 (.global 0) _ Tryz.underlying163 rfl ?_)));refine dN (λW g=>Vj a W) (zq 1 (zn (aA (gC 2))))
theorem tM(a:Addr)(l:List UInt8)(w:World){U:View}(f:See U w)(d:EF U a):CP 149 #[.string (B l)] w (Ret ((Er.wrap l .leaf).V a) w):=by
 refine dC 7 Tryz.func149 f ?_;refine zQ 1 (zn (zQ 1 (zV 0 (0) (.iface 344 (.pointer (some a))) d 163 (.global 0) _ Tryz.underlying163 rfl ?_)));refine zq 3 (zn (aA (gC 2)))
theorem Wf(A:Addr)(t:Itm.Tr)(d:Option Addr)(f:Nat)(w:World){U:View}(k:See U w)(h:(t.k==0)=true)(C:t.n<W64):CP 151 #[.agg #[.int .i64 t.k,.int .u64 t.n,.string (B t.s),.slice d t.l.length f,.bool t.o]] w (Ret (.tuple #[.int .i64 ((min t.n 65536:Nat):Int),.nilIface]) w):=by
 have g:(t.k !=0)=false:=by simpa using h
 have r:IntKind.i64.wrap (if 65536<(t.n:Int)then 65536 else(t.n:Int))=((min t.n 65536:Nat):Int):=by
  rw[IntWalk.i64_in _ (by split<;>omega)];split<;>omega
 refine dC 12 Tryz.func151 k ?_;refine zs (zr (aW (λa=>(zq 2 (zn (zs (zB [0,1,0] [(a,1)] (zn (dY (t.k !=0) g ?_)))))))));refine zk (zB [0,1,0,0] [(a,1)] (dZ 11 (I6 (IntKind.i64.wrap (if 65536<(t.n:Int)then 65536 else(t.n:Int)))) (L6 (min t.n 65536)) (M0 (Value.int .i64) r) ?_));refine zq 2 (zn (aA (aO [2,3] [(L6 (min t.n 65536)),.nilIface] (λu j=>?_))));exact⟨rfl,j.below⟩
theorem We(a:Addr)(t:Itm.Tr)(f:Option Addr)(j:Nat)(w:World){U:View}(u:See U w)(r:EF U a)(h:(t.k==0)=false):CP 151 #[.agg #[.int .i64 t.k,.int .u64 t.n,.string (B t.s),.slice f t.l.length j,.bool t.o]] w (Ret (.tuple #[.int .i64 0,(Er.wrap [110,117,109,98,101,114] .leaf).V a]) w):=by
 have k:(t.k !=0)=true:=by simpa using h
 refine dC 12 Tryz.func151 u ?_;refine zs (zr (aW (λg=>(zq 2 (zn (zs (zB [0,1,0] [(g,1)] (zn (jG (t.k !=0) k ?_)))))))));refine zs (zr (dN (λW d=>tM a [110,117,109,98,101,114] W d.view r) (zq 2 (zn (aA (aO [2,3] [(I6 0),(Er.V a (Er.wrap [110,117,109,98,101,114] .leaf))] (λA d=>?_)))))));exact⟨rfl,d.below⟩
theorem rD(r:Addr)(t:Itm.Tr)(E:Option Addr)(k:Nat)(w:World){U:View}(hU:See U w)(hE:EF U r)(Z:fR U E t.l)(a8:t.l.length<=1000000):CP 150 #[.agg #[.int .i64 t.k,.int .u64 t.n,.string (B t.s),.slice E t.l.length k,.bool t.o]] w (fV w U (QT InR 1 r (XJ t))):=by
 refine dC 32 Tryz.func150 hU ?_;refine zs (zr (aW (λF=>(zq 2 (zn (zQ 1 (zn (zs (zB [0,1,0,0] [(F,1)] (zn (aB (eF (α:=Gp Int) (λx=>[2,3,4,10,11,12].zip [S0,.nilIface,(x.r.V x.i),(.slice E t.l.length k),(L6 t.l.length),(L6 x.i)]) (λx=>x.V) (λx=>([(bK F (tC t E k) 136)]++x.r.B 3 x.xs)) (λx=>x.i<=t.l.length/\View.le U x.V/\RwR InR 1 x.V x.r x.xs x.i x.L/\EA QW (t.l.take x.i)=some (x.L.map Prod.fst)) (λx=>t.l.length-x.i) ⟨0,Rw.nil,[],[],U⟩ ?_ ?_ (hm:=λ_ h=>h.eqv (U3 kR (M1 ([(bK F (tC t E k) 136)]:aH)).symm))))))))))))))
 ·exact⟨M8 _,View.le_refl _,RwR.nil,rfl⟩
 intro x hx;obtain⟨b8,g,C,A⟩:=hx;refine zQ 1 (zn (zs (aZ ((x.i:Int)<(t.l.length:Int)) (λh0 N=>?_) (λh0 N=>?_))))
 ·refine zk (zs (aB (zs (zr ?_))));obtain⟨f,D⟩:∃y,(t.l)[x.i]? =some y:=⟨(t.l)[x.i]'oW,K8 _⟩;obtain⟨J,L,a7,rfl,V,G⟩:=(Z.le g).at_ x.i f D;obtain⟨I,K,rfl,a6,b6,b7,b5⟩:=G.form;refine cB (Pt J (L+x.i*5)) (rIx 136 rfl J L t.l.length k x.i 5) ?_;refine zU J (L+x.i*5) (tC f I K) V 136 (.tmp 14) _ Tryz.underlying136 rfl ?_;refine dB 1 (λM=>?_);refine aX 1 M (zn (zB [2] [(M,5)] ?_));rcases N2 (f.k==0)with u|u
  ·have O:=eq_of_beq u;refine cY 151 #[(tV f I K)] (.tuple #[(L6 (min f.n 65536)),.nilIface]) (λW j=>Wf r f _ _ W j.view u (by obtain⟨_,_,_,_,h9,_⟩:=(G).form;exact h9)) ?_;refine zq 5 (zn (zs (zQ 1 (cB qF (pU .neq false _ _ _ rfl (Or.inr ⟨rfl,rfl⟩) kR kR) ?_))));refine zn (cU (zk (zr (zq 2 (dB 2 (λb3=>?_))))));refine iW 3 3 75 8 1 1 C.ok (λW j=>cI j 2 b3 [(L6 (min f.n 65536))] 3 kR) rfl (M7.1 kR) (by decide) (λr4 Y=>?_);refine zq 1 (zn (zr (zq 1 (dH 30 ((x.i:Int)+1) (zq 1 (zn ?_))))));refine nx ⟨x.i+1,r4,(x.xs++[(L6 (min f.n 65536))]),x.L++[(((min f.n 65536:Nat):Int),[(L6 (min f.n 65536))])],x.V⟩ ?_ ?_ (d:=λ_ h=>Mem.sub (N4 (M4 _ _) (N7 _)) (h.eqv (show _=((([(bK F [(I6 t.k),(N6 t.n),(St t.s),(Sl J L t.l.length k),(.bool t.o)] 136)]:aH)++([(bK M (tC f I K) 136),(bK b3 [(L6 (min f.n 65536))] 3)]:aH))++(r4.B 3 (x.xs++[(L6 (min f.n 65536))])))from by kernel_rfl)))
   ·exact⟨by show x.i+1<=_;omega,g,RwR.snoc C rfl Y,by rw[P6];exact rJ A D (mM u)⟩
   ·show t.l.length-(x.i+1)<t.l.length-x.i;omega
  ·have O:=M2.1 u;refine cY 151 #[(tV f I K)] (.tuple #[(I6 0),(Er.V r (Er.wrap [110,117,109,98,101,114] .leaf))]) (λW j=>We r f _ _ W j.view (hE.le g) u) ?_;refine zq 5 (zn (zs (zQ 1 (cB qT (CS .neq true _ _ _ _ rfl (Or.inr ⟨rfl,rfl⟩) kR r (Er.wrap [110,117,109,98,101,114] .leaf) kR kR) ?_))));refine zn (dM (zQ 5 (zn (aA (aO [2,3] [S0,(.iface 259 (.agg #[(St [116,97,114,103,101,116,115]),(Er.V r (Er.wrap [110,117,109,98,101,114] .leaf))]))] (λW' j=>?_))))));have X:QW f=none:=FU u;have hz:XJ t=none:=pD (K9 D) X;rw[hz];exact aJ j g ⟨(.wrap [116,97,114,103,101,116,115] (Er.wrap [110,117,109,98,101,114] .leaf)),rfl⟩
 ·refine aI (zQ 3 (zn (aA (aO [2,3] [(x.r.V x.i),.nilIface] (λW' j=>?_)))));refine DV (by decide) (j.eqv (show _=([(bK F (tC t E k) 136)]:aH)++x.r.B 3 x.xs from by kernel_rfl)) C g (λv=>.tuple #[v,.nilIface]) (by unfold R47;omega) λa c V' b4 hA hc hm=>?_
  rw[O2 oW]at A;unfold XJ;rw[A,hm];exact⟨a,c,rfl,hA,by omega⟩
theorem lV(k:Addr)(t:Itm.Tr)(K:Option Addr)(C:Nat)(w:World){U:View}(hU:See U w)(hE:EF U k)(c2:fR U K t.l)(e2:t.l.length<=1000000):CP 153 #[.agg #[.int .i64 t.k,.int .u64 t.n,.string (B t.s),.slice K t.l.length C,.bool t.o]] w (fV w U (QT PaR 6 k (lB t))):=by
 refine dC 45 Tryz.func153 hU ?_;refine zs (zr (aW (λM=>(zq 2 (zn (zQ 1 (zn (zs (zB [0,1,0,0] [(M,1)] (zn (aB (eF (α:=Gp Pa) (λx=>[2,3,4,10,11,12].zip [S0,.nilIface,(x.r.V x.i),(.slice K t.l.length C),(L6 t.l.length),(L6 x.i)]) (λx=>x.V) (λx=>([(bK M (tC t K C) 136)]++x.r.B 180 x.xs)) (λx=>x.i<=t.l.length/\View.le U x.V/\RwR PaR 6 x.V x.r x.xs x.i x.L/\EA PB (t.l.take x.i)=some (x.L.map Prod.fst)) (λx=>t.l.length-x.i) ⟨0,Rw.nil,[],[],U⟩ ?_ ?_ (hm:=λ_ h=>h.eqv (U3 kR (M1 ([(bK M (tC t K C) 136)]:aH)).symm))))))))))))))
 ·exact⟨M8 _,View.le_refl _,RwR.nil,rfl⟩
 intro x hx;obtain⟨h7,g,I,G⟩:=hx;refine zQ 1 (zn (zs (aZ ((x.i:Int)<(t.l.length:Int)) (λh0 a6=>?_) (λh0 a6=>?_))))
 ·refine zk (zs (aB (zs (zr ?_))));obtain⟨f,r⟩:∃y,(t.l)[x.i]? =some y:=⟨(t.l)[x.i]'oW,K8 _⟩;obtain⟨Y,f1,c9,rfl,b6,c0⟩:=(c2.le g).at_ x.i f r;obtain⟨a1,Z,rfl,u,e8,h4,e5⟩:=c0.form;refine cB (Pt Y (f1+x.i*5)) (rIx 136 rfl Y f1 t.l.length C x.i 5) ?_;refine zU Y (f1+x.i*5) (tC f a1 Z) b6 136 (.tmp 14) _ Tryz.underlying136 rfl ?_;refine dB 1 (λN=>?_);refine aX 1 N (zn (zs (zB [0,2,0,0] [(N,1)] (zn (iE (f.l.length:Int) 2 (λh1 a7=>?_) (λh1 a7=>?_))))))
  ·refine zs (zr (dN (λW j=>tM k [112,97,105,114] W j.view (hE.le g)) (zq 2 (zn (aA (aO [2,3] [S0,(Er.V k (Er.wrap [112,97,105,114] .leaf))] (λW' j=>?_)))))));have F:PB f=none:=Wq oW;have hz:lB t=none:=pD (K9 r) F;rw[hz];exact aJ j g ⟨(Er.wrap [112,97,105,114] .leaf),rfl⟩
  ·refine zk (zB [0,2] [(N,1)] ?_);obtain⟨y3,J⟩:∃y,(f.l)[0]? =some y:=⟨(f.l)[0]'oW,K8 _⟩;obtain⟨A,D,e0,rfl,b7,O⟩:=u.at_ 0 y3 J;obtain⟨a3,c3,rfl,c7,e9,h5,e6⟩:=O.form;refine cB (Pt A (D+0*5)) (rIx 136 rfl A D f.l.length Z 0 5) ?_;refine zU A (D+0*5) (tC y3 a3 c3) b7 136 (.tmp 24) _ Tryz.underlying136 rfl ?_;rcases N2 (y3.k==0)with E|E
   ·have a8:=eq_of_beq E;refine cY 151 #[(tV y3 a3 c3)] (.tuple #[(L6 (min y3.n 65536)),.nilIface]) (λW j=>Wf k y3 _ _ W j.view E (by obtain⟨_,_,_,_,h9,_⟩:=(O).form;exact h9)) ?_;refine zq 5 (zn (zs (zQ 1 (cB qF (pU .neq false _ _ _ rfl (Or.inr ⟨rfl,rfl⟩) kR kR) ?_))));refine zn (cU (zk (zr (cF [0,0,0,2] [(N,1)] ?_))));obtain⟨y4,X⟩:∃y,(f.l)[1]? =some y:=⟨(f.l)[1]'oW,K8 _⟩;obtain⟨b4,f4,e1,e4,b8,V⟩:=u.at_ 1 y4 X;obtain⟨a4,c4,rfl,c8,h3,h6,e7⟩:=V.form;let L:List Value:=[(L6 (min y3.n 65536)),(I6 y4.k),(N6 y4.n),(St y4.s),(.slice a4 y4.l.length c4),(.bool y4.o)];cases e4;refine cB (Pt A (D+1*5)) (rIx 136 rfl A D f.l.length Z 1 5) ?_;refine zU A (D+1*5) (tC y4 a4 c4) b8 136 (.tmp 38) _ Tryz.underlying136 rfl ?_;refine zq 1 (dB 2 (λb5=>?_));refine iW 3 180 76 72 1 1 I.ok (λW j=>cI j 2 b5 L 180 kR) rfl (M7.1 kR) (by decide) (λr6 b9=>?_);refine zq 1 (zn (zr (zq 1 (dH 43 ((x.i:Int)+1) (zq 1 (zn ?_))))));refine nx ⟨x.i+1,r6,(x.xs++L),x.L++[(⟨((min y3.n 65536:Nat):Int),y4⟩,L)],x.V⟩ ?_ ?_ (d:=λ_ h=>Mem.sub (N4 (M4 _ _) (N7 _)) (h.eqv (show _=((([(bK M [(I6 t.k),(N6 t.n),(St t.s),(Sl Y f1 t.l.length C),(.bool t.o)] 136)]:aH)++([(bK N [(I6 f.k),(N6 f.n),(St f.s),(Sl A D f.l.length Z),(.bool f.o)] 136),(bK b5 L 180)]:aH))++(r6.B 180 (x.xs++L)))from by kernel_rfl)))
    ·exact⟨by show x.i+1<=_;omega,g,RwR.snoc I ⟨_,rfl,V⟩ b9,by rw[P6];exact rJ G r (by rw[PA oW J X,mM E])⟩
    ·show t.l.length-(x.i+1)<t.l.length-x.i;omega
   ·have a8:=M2.1 E;refine cY 151 #[(tV y3 a3 c3)] (.tuple #[(I6 0),(Er.V k (Er.wrap [110,117,109,98,101,114] .leaf))]) (λW j=>We k y3 _ _ W j.view (hE.le g) E) ?_;refine zq 5 (zn (zs (zQ 1 (cB qT (CS .neq true _ _ _ _ rfl (Or.inr ⟨rfl,rfl⟩) kR k (Er.wrap [110,117,109,98,101,114] .leaf) kR kR) ?_))));refine zn (dM (zQ 5 (zn (aA (aO [2,3] [S0,(.iface 259 (.agg #[(St [112,97,105,114]),(Er.V k (Er.wrap [110,117,109,98,101,114] .leaf))]))] (λW' j=>?_))))));have F:PB f=none:=(by obtain⟨v9,c6⟩:∃v,f.l[1]? =some v:=⟨_,K8 oW⟩;rw[PA oW J c6,FU E]);have hz:lB t=none:=pD (K9 r) F;rw[hz];exact aJ j g ⟨(.wrap [112,97,105,114] (Er.wrap [110,117,109,98,101,114] .leaf)),rfl⟩
 ·refine aI (zQ 3 (zn (aA (aO [2,3] [(x.r.V x.i),.nilIface] (λW' j=>?_)))));refine DV (by decide) (j.eqv (show _=([(bK M (tC t K C) 136)]:aH)++x.r.B 180 x.xs from by kernel_rfl)) I g (λv=>.tuple #[v,.nilIface]) (by unfold R47;omega) λa c V' e3 hA hc hm=>?_
  rw[O2 oW]at G;unfold lB;rw[G,hm];exact⟨a,c,rfl,hA,by omega⟩
theorem jH(r:Addr)(t:Itm.Tr)(G:Option Addr)(D:Nat)(w:World){U:View}(hU:See U w)(hE:EF U r)(b9:fR U G t.l)(c4:t.l.length<=1000000)(Y:∀y∈t.l,y.l.length<=1000000):CP 154 #[.agg #[.int .i64 t.k,.int .u64 t.n,.string (B t.s),.slice G t.l.length D,.bool t.o]] w (fV w U (QT RlR 1 r (Xg t))):=by
 refine dC 32 Tryz.func154 hU ?_;refine zs (zr (aW (λK=>(zq 2 (zn (zQ 1 (zn (zs (zB [0,1,0,0] [(K,1)] (zn (aB (eF (α:=Gp (List Pa)) (λx=>[2,3,4,10,11,12].zip [S0,.nilIface,(x.r.V x.i),(.slice G t.l.length D),(L6 t.l.length),(L6 x.i)]) (λx=>x.V) (λx=>([(bK K (tC t G D) 136)]++x.r.B 76 x.xs)) (λx=>x.i<=t.l.length/\View.le U x.V/\RwR RlR 1 x.V x.r x.xs x.i x.L/\EA lB (t.l.take x.i)=some (x.L.map Prod.fst)) (λx=>t.l.length-x.i) ⟨0,Rw.nil,[],[],U⟩ ?_ ?_ (hm:=λ_ h=>h.eqv (U3 kR (M1 ([(bK K (tC t G D) 136)]:aH)).symm))))))))))))))
 ·exact⟨M8 _,View.le_refl _,RwR.nil,rfl⟩
 intro x hx;obtain⟨e1,f,F,E⟩:=hx;refine zQ 1 (zn (zs (aZ ((x.i:Int)<(t.l.length:Int)) (λh0 a7=>?_) (λh0 a7=>?_))))
 ·refine zk (zs (aB (zs (zr ?_))));obtain⟨g,k⟩:∃y,(t.l)[x.i]? =some y:=⟨(t.l)[x.i]'oW,K8 _⟩;obtain⟨b1,f1,c2,rfl,b3,b7⟩:=(b9.le f).at_ x.i g k;obtain⟨a1,c1,rfl,C,c9,e0,c8⟩:=b7.form;refine cB (Pt b1 (f1+x.i*5)) (rIx 136 rfl b1 f1 t.l.length D x.i 5) ?_;refine zU b1 (f1+x.i*5) (tC g a1 c1) b3 136 (.tmp 14) _ Tryz.underlying136 rfl ?_;refine dB 1 (λb2=>?_);refine aX 1 b2 (zn (zB [2] [(b2,5)] ?_));rcases N2 ((lB g).isSome)with h1|h1
  ·refine oI 153 #[(tV g a1 c1)] (QT PaR 6 r (lB g)) (λW u=>lV r g _ _ W u.view (hE.le f) C (Y g (K9 k))) (λv3 V3 O a8=>?_);have k7:=F.le O;obtain⟨I,J,L,b5,rfl,V,c6⟩:=(a8).some h1;refine zq 5 (zn (zs (zQ 1 (cB qF (pU .neq false _ _ _ rfl (Or.inr ⟨rfl,rfl⟩) kR kR) ?_))));refine zn (cU (zk (zr (zq 2 (dB 2 (λb8=>?_))))));refine iW 3 76 77 24 1 1 F.ok (λW u=>cI u 2 b8 [(.slice J I.length L)] 76 kR) rfl (M7.1 kR) (by decide) (λr9 b6=>?_);refine zq 1 (zn (zr (zq 1 (dH 30 ((x.i:Int)+1) (zq 1 (zn ?_))))));refine nx ⟨x.i+1,r9,(x.xs++[(.slice J I.length L)]),x.L++[(I,[(.slice J I.length L)])],V3⟩ ?_ ?_ (d:=λ_ h=>Mem.sub (N4 (M4 _ _) (N7 _)) (h.eqv (show _=((([(bK K [(I6 t.k),(N6 t.n),(St t.s),(Sl b1 f1 t.l.length D),(.bool t.o)] 136)]:aH)++([(bK b2 (tC g a1 c1) 136),(bK b8 [(.slice J I.length L)] 76)]:aH))++(r9.B 76 (x.xs++[(.slice J I.length L)])))from by kernel_rfl)))
   ·exact⟨by show x.i+1<=_;omega,(View.le_trans f O),RwR.snoc k7 ⟨_,_,rfl,V⟩ b6,by rw[P6];exact rJ E k b5⟩
   ·show t.l.length-(x.i+1)<t.l.length-x.i;omega
  ·refine oI 153 #[(tV g a1 c1)] (QT PaR 6 r (lB g)) (λW u=>lV r g _ _ W u.view (hE.le f) C (Y g (K9 k))) (λe2 c0 N M=>?_);obtain⟨X,j,rfl⟩:=(M).none h1;refine zq 5 (zn (zs (zQ 1 (cB qT (CS .neq true _ _ _ _ rfl (Or.inr ⟨rfl,rfl⟩) kR r j kR kR) ?_))));refine zn (dM (zQ 1 ?_));obtain⟨Z,a6,A⟩:=Er.form r j;rw[A];refine zq 1 (zq 3 (zn (aA (aO [2,3] [S0,(.iface 259 (.agg #[(St [114,101,115,117,108,116,115]),(.iface Z a6)]))] (λW' u=>?_)))));have b4:lB g=none:=X;have hz:Xg t=none:=pD (K9 k) b4;rw[hz];exact aJ u (View.le_trans f N) ⟨(.wrap [114,101,115,117,108,116,115] j),(by rw[show(Er.wrap [114,101,115,117,108,116,115] j).V r=.iface 259 (.agg #[.string (B [114,101,115,117,108,116,115]),Er.V r j])from rfl,A];try rfl)⟩
 ·refine aI (zQ 3 (zn (aA (aO [2,3] [(x.r.V x.i),.nilIface] (λW' u=>?_)))));refine DV (by decide) (u.eqv (show _=([(bK K (tC t G D) 136)]:aH)++x.r.B 76 x.xs from by kernel_rfl)) F f (λv=>.tuple #[v,.nilIface]) (by unfold R47;omega) λa c V' c7 hA hc hm=>?_
  rw[O2 oW]at E;unfold Xg;rw[E,hm];exact⟨a,c,rfl,hA,by omega⟩
section
variable {P:Program} {n:Nat} {W0:Cx} {Q:XQ} {s:cA} {U:View} {σ:aH} {ops:Array Oper} {l:List Oper} {o:Oper}
theorem lJ(t e : TypeId)(x g : Operand)(ho : o.op = .indexAddr t x g)(b f m i d : Nat)(k : IntKind)(A : evS s x = some (.pointer (some ⟨b, f, none⟩)))(j : evS s g = some (.int k (i : Int)))(r : i < m)
  (u:P.underlying t=some (.array m e)) (hs:(P.info? e).map (·.size)=some d) (W:World):(execOp (ev s) o).run P W=.ok (.value (.pointer (some ⟨b,f+i*d,none⟩))) W:=by
 have B:(sizeOf e).run P W=.ok d W:=by
  cases a:P.info? e with
  |none=>rw[a]at hs;cases hs
  |some inf=>
   rw[a]at hs;simp only[U4,L0]at hs;simp[sizeOf,typeInfo,a,hs]
 unfold execOp;simp only[ho,eM A,eM j,Instr.indexAt,Instr.sureAddr,asIntOf,Sem.run_bind,Sem.run_pure,Result.andThen_ok,run_underlying u W];have h:(0:Int)<=(i:Int)/\(i:Int)<(m:Int):=⟨by omega,by omega⟩;rw[N1 h];simp only[Sem.run_bind,B,Result.andThen_ok,Sem.run_pure,W8,Addr.add_mid]
theorem oqR{ds : List Nat}{vs : List Sq}(i : Nat){o : Oper}(k : ops[i]? = some o)(v : Value)(f : vs[i]? = some (.val v))(r : ∀ u, known (iK ops ds vs u i ++ aV s ds) o = true)
  (d:∀(u:Nat->Value) (W:World),(execOp (ev (iK ops ds vs u i++aV s ds)) o).run P W=.ok (.value v) W) (A:∀u,dA ops (iK ops ds vs u i++aV s ds) o=some true):Oq P n W0 U σ ops ds vs s i:=
 Oq.op i k _ f λu V _ _=>⟨A u,λa W j h Q K g=>by
  unfold Oper.wp;rw[gM j (r u),d u];exact g v W h rfl (Below.refl _ _)⟩
theorem oqU{ds : List Nat}{vs : List Sq}(i b f : Nat)(cs : List Value)(A : U.range b f cs)(h : TypeId)(x : Operand){o : Oper}(D : ops[i]? = some o)(ho : o.op = .load h x)(j : vs[i]? = some (.val (.agg cs.toArray)))(G : ∀ u, evS (iK ops ds vs u i ++ aV s ds) x = some (.pointer (some ⟨b, f, none⟩)))(d : TypeDesc)(E : P.underlying h = some d)(g : d.isRow = true)(I : (P.info? h).map (·.size) = some cs.length)
  (F:∀u,dA ops (iK ops ds vs u i++aV s ds) o=some true):Oq P n W0 U σ ops ds vs s i:=
 Oq.op i D _ j λu V B _=>⟨F u,λa W C k Q K r=>wp_load_mid h x ho b f (eH C (G u)) cs d (View.range_of (View.range_le B A) k.view) E g I (r _ W k rfl (Below.refl _ _))⟩
theorem wR{ds ks : List Nat}{tv vs : List Sq}{i : Nat}{v : Value}(a : ∀ (u : Nat -> Value) (W : World), (execOp (ev (iK ops ds vs u i ++ aV s ds)) (iP ops i)).run P W = .ok (.value v) W)(f : ops[i]? = some (iP ops i) := by rfl)(g : ∀ u, known (iK ops ds vs u i ++ aV s ds) (iP ops i) = true := by intro u; kernel_rfl)
  (h:∀u,dA ops (iK ops ds vs u i++aV s ds) (iP ops i)=some true:=by intro u;kernel_rfl):Oqw P n W0 U σ ops ds ks tv vs s i (.val v):=
 λ_ d=>oqR i f v d g a h
theorem wU{ds ks : List Nat}{tv vs : List Sq}{i : Nat}(b f : Nat)(cs : List Value)(j : U.range b f cs)(g : TypeId)(x : Operand)(d : TypeDesc)(r : P.underlying g = some d)(a : d.isRow = true)(k : ops[i]? = some (iP ops i) := by rfl)(ho : (iP ops i).op = .load g x := by rfl)
  (B:∀u,evS (iK ops ds vs u i++aV s ds) x=some (.pointer (some ⟨b,f,none⟩)):=by intro u;kernel_rfl) (C:(P.info? g).map (·.size)=some cs.length:=by kernel_rfl) (A:∀u,dA ops (iK ops ds vs u i++aV s ds) (iP ops i)=some true:=by intro u;kernel_rfl):Oqw P n W0 U σ ops ds ks tv vs s i (.val (.agg cs.toArray)):=
 λ_ h=>oqU i b f cs j g x k ho h B d r a C A
end
section
variable {P:Program} {n:Nat} {W0:Cx} {s:cA} {U:View} {σ:aH} {ops:Array Oper} {ds:List Nat} {vs:List Sp}
theorem Aw(i b f : Nat)(v : Value)(A : U ⟨b, f, none⟩ = some v)(j : TypeId)(x : Operand){o : Oper}(D : ops[i]? = some o)(ho : o.op = .load j x)(h : vs[i]? = some (.val v))(I : evS (oP ops ds vs i ++ aV s ds) x = some (.pointer (some ⟨b, f, none⟩)))(d : TypeDesc)(F : P.underlying j = some d)(r : d.isRow = false)
  (G:dA ops (oP ops ds vs i++aV s ds) o=some true):Ob P n W0 U σ ops ds vs s i:=
 Ob.op i D _ h G λa W B k Q K u=>by
  have C:=k.view _ _ A;have g:(isAgg j).run P W=.ok false W:=by
   unfold isAgg;rw[Sem.run_bind,run_underlying F W];cases d<;>simp_all
  have E:(load ⟨b,f,none⟩).run P W=.ok v W:=by
   simp[load,Sem.run,C]
  unfold Oper.wp execOp;simp only[ho,eH B I,Instr.loadAt,Instr.sureAddr,Sem.run_bind,Sem.run_pure,Result.andThen_ok,loadVar,g];simp only[N9,if_false,E,Result.andThen_ok];exact u v W rfl k (Below.refl _ _)
theorem vU1{i : Nat}{v : Value}(b f : Nat)(j : U ⟨b, f, none⟩ = some v)(h : TypeId)(x : Operand)(d : TypeDesc)(r : P.underlying h = some d)(a : d.isRow = false)(k : ops[i]? = some (iP ops i) := by rfl)(ho : (iP ops i).op = .load h x := by rfl)(A : evS (oP ops ds vs i ++ aV s ds) x = some (.pointer (some ⟨b, f, none⟩)) := by kernel_rfl)
  (u:dA ops (oP ops ds vs i++aV s ds) (iP ops i)=some true:=by kernel_rfl):Ow P n W0 U σ ops ds vs s i (.val v):=
 λg=>Aw i b f v j h x k ho g A d r a u
end
theorem iR{α:Type}{l:List α}{x y:α}(h:l.length=2)(d:l[0]? =some x)(f:l[1]? =some y):l=[x,y]:=by
 match l,h with
 | [a,b],_=>
  simp only[P5,Q7,L0]at d f;rw[d,f]
theorem XV{t:Itm.Tr}(h:t.k≠4):Itm.iO t=Itm.Nm.zero:=by unfold Itm.iO;rw[M5 h]
theorem RS{t x y:Itm.Tr}(a:t.l=[x,y])(h:x.k≠0):Itm.iO t=Itm.Nm.zero:=by
 unfold Itm.iO;rw[a];split
 ·exact M5 h
 ·rfl
theorem mK{t x y:Itm.Tr}(a:t.k=4)(d:t.l=[x,y])(h:x.k=0):Itm.iO t=Itm.OF x y:=by
 unfold Itm.iO;rw[N1 a,d];exact N1 h
def rdE(t:Itm.Tr):Ei:=⟨(Itm.iO t).s,(Itm.iO t).l,(Itm.iO t).n,(Itm.iO t).v⟩
theorem sR{t:Itm.Tr}{m:Itm.Nm}(h:Itm.iO t=m):rdE t=⟨m.s,m.l,m.n,m.v⟩:=by unfold rdE;rw[h]
theorem PV(t:Itm.Tr)(cs:List Value)(w:World){U:View}(hU:See U w)(h:TV U t cs):CP 198 #[.agg cs.toArray] w (Ret (rdE t).V w):=by
 let Y1:Value:=(.agg #[(I6 1),(St [110,111,110,101]),(U6 0),(U6 0)]);obtain⟨a,c,rfl,C,hn,hs,hl⟩:=h.form;unfold R47 at hl;refine dC 66 Tryz.func198 hU ?_;refine zs (zr (aW (λO=>(aW (λk=>(zn (zs (zB [0,1,0,0] [(O,1)] (jB 7 t.k 4 (λF _=>?_) (λF l6=>?_))))))))))
 ·refine zq 13 (zn (dM (zQ 1 (aX 1 k (zn (aA (dW [2] [(k,4)] [(.agg #[(I6 0),(St []),(U6 0),(U6 0)])] (λE j=>?_))))))));refine⟨?_,j.below⟩;rw[sR (XV (Q0.1 F))];rfl
 ·refine cF [0,1,0,0,0,0] [(O,1)] (jB 13 (t.l.length:Int) 2 (λD c1=>?_) (λD c1=>?_))
  ·refine zq 7 (zn (dM (zQ 1 (aX 1 k (zn (aA (dW [2] [(k,4)] [(.agg #[(I6 0),(St []),(U6 0),(U6 0)])] (λE j=>?_))))))));refine⟨?_,j.below⟩;rw[sR (Itm.Xe (by have:=D;simp at this;omega))];rfl
  ·refine cF [0,1] [(O,1)] ?_;obtain⟨J,r⟩:∃y,(t.l)[0]? =some y:=⟨(t.l)[0]'oW,K8 _⟩;obtain⟨A,B,k9,rfl,I,j3⟩:=C.at_ 0 J r;obtain⟨a2,c2,rfl,k3,m6,n5,d⟩:=j3.form;refine cB (Pt A (B+0*5)) (rIx 136 rfl A B t.l.length c 0 5) ?_;refine zq 1 (zV A (B+0*5+0) (I6 J.k) (I 0 _ rfl) 3 (.tmp 17) _ Tryz.underlying3 rfl ?_);refine zq 2 (zn (iE J.k 0 (λG c4=>?_) (λG c4=>?_)))
   ·refine zQ 1 (aX 1 k (zn (aA (dW [2] [(k,4)] [(.agg #[(I6 0),(St []),(U6 0),(U6 0)])] (λE j=>?_)))));refine⟨?_,j.below⟩;have d:t.l.length=2:=by have:=D;simp at this;omega
    have f:=iR d r (K8 (by omega:1<t.l.length));rw[sR (RS f (Q0.1 G))];rfl
   ·refine zk (zB [0,1] [(O,1)] ?_);obtain⟨y3,u⟩:∃y,(t.l)[1]? =some y:=⟨(t.l)[1]'oW,K8 _⟩;obtain⟨b3,f3,l0,e3,j0,j4⟩:=C.at_ 1 y3 u;obtain⟨a3,c3,rfl,N,m7,n7,m0⟩:=j4.form;cases e3;refine cB (Pt A (B+1*5)) (rIx 136 rfl A B t.l.length c 1 5) ?_;refine zU A (B+1*5) (tC y3 a3 c3) j0 136 (.tmp 24) _ Tryz.underlying136 rfl ?_;refine aW (λM=>(aX 2 M (zn (zs (aB (zB [0,1] [(O,1)] ?_))))));obtain⟨y5,k0⟩:∃y,(t.l)[0]? =some y:=⟨(t.l)[0]'oW,K8 _⟩;obtain⟨b5,f5,l1,e5,l7,j5⟩:=C.at_ 0 y5 k0;obtain⟨a5,c5,rfl,k4,m8,n8,m1⟩:=j5.form;cases e5;refine cB (Pt A (B+0*5)) (rIx 136 rfl A B t.l.length c 0 5) ?_;refine zq 1 (zV A (B+0*5+1) (N6 J.n) (I 1 _ rfl) 22 (.tmp 30) _ Tryz.underlying22 rfl ?_);refine zq 2 (jZ 33 (J.n:Int) 2 (λY e0=>?_) (λY e0=>?_))
    ·refine cF [0,3,0,0,0,0] [(M,1)] (zn (fC (y3.l.length:Int) 2 (λZ e1=>?_) (λZ e1=>?_)))
     ·refine zs ?_;obtain⟨y6,a1⟩:∃y,(y3.l)[0]? =some y:=⟨(y3.l)[0]'oW,K8 _⟩;obtain⟨V,X,l2,rfl,j1,j6⟩:=N.at_ 0 y6 a1;obtain⟨a6,c6,rfl,k5,m9,n9,m2⟩:=j6.form;obtain⟨y7,c0⟩:∃y,(y3.l)[1]? =some y:=⟨(y3.l)[1]'oW,K8 _⟩;obtain⟨b7,f7,l3,e7,j2,j7⟩:=N.at_ 1 y7 c0;obtain⟨a7,c7,rfl,k6,n0,o0,m3⟩:=j7.form;cases e7;refine gI 4 [0,5,1,0,1,0,5,1,0,1] [(M,1),(M,1)] [.val (Pt V (X+0*5)),.val (N6 y6.n),.val (Pt V (X+1*5)),.val (N6 y7.n)] ⟨?_,?_,?_,?_,trivial⟩ ?_
      ·exact vR (rIx 136 rfl V X y3.l.length c3 0 5)
      ·exact vU1 V (X+0*5+1) (j1 1 _ rfl) 22 _ _ Tryz.underlying22 rfl
      ·exact vR (rIx 136 rfl V X y3.l.length c3 1 5)
      ·exact vU1 V (X+1*5+1) (j2 1 _ rfl) 22 _ _ Tryz.underlying22 rfl
      refine zq 1 (aX 1 k (zn (aA (dW [2] [(k,4)] [(.agg #[(I6 2),(St []),(N6 y6.n),(N6 y7.n)])] (λE j=>?_)))));refine⟨?_,j.below⟩;have d:t.l.length=2:=by have:=D;simp at this;omega
      have f:=iR d r u;have g:=mK (Q5.1 F) f (Q5.1 G);rw[sR (g.trans (Itm.Xf (iR (by have:=Z;simp at this;omega) a1 c0) (by have:=Y;simp at this;omega)))];rfl
     ·refine zB [0,1] [(O,1)] ?_;obtain⟨y8,k1⟩:∃y,(t.l)[0]? =some y:=⟨(t.l)[0]'oW,K8 _⟩;obtain⟨b8,f8,l4,e8,l8,j8⟩:=C.at_ 0 y8 k1;obtain⟨a8,c8,rfl,k7,n1,o1,m4⟩:=j8.form;cases e8;refine cB (Pt A (B+0*5)) (rIx 136 rfl A B t.l.length c 0 5) ?_;refine zq 1 (zV A (B+0*5+1) (N6 J.n) (I 1 _ rfl) 22 (.tmp 54) _ Tryz.underlying22 rfl ?_);refine zq 2 (jZ 57 (J.n:Int) 1 (λh5 e2=>?_) (λh5 e2=>?_))
      ·refine cF [0,3,0,0,0] [(M,1)] (zn (fC y3.k 3 (λh6 e4=>?_) (λh6 e4=>?_)))
       ·refine zB [0,3,0] [(M,1)] (aX 1 k (zn (aA (dW [2] [(k,4)] [(.agg #[(I6 1),(St y3.s),(U6 0),(U6 0)])] (λE j=>?_)))));refine⟨?_,j.below⟩;have d:t.l.length=2:=by have:=D;simp at this;omega
        have f:=iR d r u;have g:=mK (Q5.1 F) f (Q5.1 G);rw[sR ((g.trans (Itm.mA (by rintro⟨K,L⟩;have:=Z;simp at this;omega))).trans (N1 ⟨by have:=h5;simp at this;omega,by have:=h6;simpa using this⟩))];rfl
       ·refine zk (zs (zr (dN (λW j=>pG W) (aX 1 k (zn (aA (dW [2] [(k,4)] [Y1] (λE j=>?_))))))));refine⟨?_,j.below⟩;have d:t.l.length=2:=by have:=D;simp at this;omega
        have f:=iR d r u;have g:=mK (Q5.1 F) f (Q5.1 G);rw[sR ((g.trans (Itm.mA (by rintro⟨K,L⟩;have:=Z;simp at this;omega))).trans (M5 (by rintro⟨K,L⟩;have:=h6;simp at this;omega)))];rfl
      ·refine zq 5 (zn (cU (zk (zs (zr (dN (λW j=>pG W) (aX 1 k (zn (aA (dW [2] [(k,4)] [Y1] (λE j=>?_)))))))))));refine⟨?_,j.below⟩;have d:t.l.length=2:=by have:=D;simp at this;omega
       have f:=iR d r u;have g:=mK (Q5.1 F) f (Q5.1 G);rw[sR ((g.trans (Itm.mA (by rintro⟨K,L⟩;have:=Z;simp at this;omega))).trans (M5 (by rintro⟨K,L⟩;have:=h5;simp at this;omega)))];rfl
    ·refine zq 6 (zn (cU (zB [0,1] [(O,1)] ?_)));obtain⟨y9,k2⟩:∃y,(t.l)[0]? =some y:=⟨(t.l)[0]'oW,K8 _⟩;obtain⟨b9,f9,l5,e9,l9,j9⟩:=C.at_ 0 y9 k2;obtain⟨a9,c9,rfl,k8,n2,o2,m5⟩:=j9.form;cases e9;refine cB (Pt A (B+0*5)) (rIx 136 rfl A B t.l.length c 0 5) ?_;refine zq 1 (zV A (B+0*5+1) (N6 J.n) (I 1 _ rfl) 22 (.tmp 54) _ Tryz.underlying22 rfl ?_);refine zq 2 (jZ 57 (J.n:Int) 1 (λh7 e6=>?_) (λh7 e6=>?_))
     ·refine cF [0,3,0,0,0] [(M,1)] (zn (fC y3.k 3 (λh8 h9=>?_) (λh8 h9=>?_)))
      ·refine zB [0,3,0] [(M,1)] (aX 1 k (zn (aA (dW [2] [(k,4)] [(.agg #[(I6 1),(St y3.s),(U6 0),(U6 0)])] (λE j=>?_)))));refine⟨?_,j.below⟩;have d:t.l.length=2:=by have:=D;simp at this;omega
       have f:=iR d r u;have g:=mK (Q5.1 F) f (Q5.1 G);rw[sR ((g.trans (Itm.mA (by rintro⟨K,L⟩;have:=Y;simp at this;omega))).trans (N1 ⟨by have:=h7;simp at this;omega,by have:=h8;simpa using this⟩))];rfl
      ·refine zk (zs (zr (dN (λW j=>pG W) (aX 1 k (zn (aA (dW [2] [(k,4)] [Y1] (λE j=>?_))))))));refine⟨?_,j.below⟩;have d:t.l.length=2:=by have:=D;simp at this;omega
       have f:=iR d r u;have g:=mK (Q5.1 F) f (Q5.1 G);rw[sR ((g.trans (Itm.mA (by rintro⟨K,L⟩;have:=Y;simp at this;omega))).trans (M5 (by rintro⟨K,L⟩;have:=h8;simp at this;omega)))];rfl
     ·refine zq 5 (zn (cU (zk (zs (zr (dN (λW j=>pG W) (aX 1 k (zn (aA (dW [2] [(k,4)] [Y1] (λE j=>?_)))))))))));refine⟨?_,j.below⟩;have d:t.l.length=2:=by have:=D;simp at this;omega
      have f:=iR d r u;have g:=mK (Q5.1 F) f (Q5.1 G);rw[sR ((g.trans (Itm.mA (by rintro⟨K,L⟩;have:=Y;simp at this;omega))).trans (M5 (by rintro⟨K,L⟩;have:=h7;simp at this;omega)))];rfl
theorem Nw(e:Ei)(w:World)(g:e.l.length<=R47)(h:aN e=false):CP 199 #[e.V] w (Ret (.tuple #[(.agg #[(.int .i64 0),(.int .u64 0),(.string (B [])),(.slice none 0 0),(.bool false)]),.int .i64 1]) w):=by
 refine dF 38 Tryz.func199 ?_;refine zs (zr (aW (λf=>(aW (λa=>(zq 1 (zn (zs (aB (zB [1] [(f,4)] (dN (λW d=>jA e W g) (zq 2 (zn (jG (!(aN e)) (by rw[h];rfl) ?_))))))))))))));refine zQ 1 (aX 1 a (zq 1 (zn (aA (dW [2,0] [(a,5)] [(.agg #[(I6 0),(U6 0),(St []),S0,qF]),(I6 1)] (λj d=>?_))))));exact⟨rfl,d.below⟩
noncomputable def ofZ(t:Itm.Tr):Bool:=if aN (rdE t)then BQ t (rdE t).tree else false
theorem Me{t:Itm.Tr}{cs:List Value}{w:World}{U:View}(g:See U w)(h:TV U t cs):(rdE t).ok:=by
 obtain⟨a,d,f⟩:=Itm.EZ (h.toTAt g);exact⟨a,d,f⟩
theorem Il(t:Itm.Tr)(cs:List Value)(w:World){U:View}(F:See U w)(h:TV U t cs)(j:ofZ t=true):CP 152 #[.agg cs.toArray] w (Ret (.tuple #[(rdE t).V,.int .i64 0]) w):=by
 have f:=h;have A:=Me F h;have G:aN (rdE t)=true:=by unfold ofZ at j;split at j;assumption;cases j
 have B:BQ t (rdE t).tree=true:=by unfold ofZ at j;rwa[N1 G]at j
 obtain⟨a,c,rfl,V,_,_,_⟩:=h.form;refine dC 24 Tryz.func152 F ?_;refine zs (zr (aW (λC=>(aW (λD=>(zq 1 (zn (zB [1] [(C,5)] (cY 198 #[(tV t a c)] (.agg #[(I6 (rdE t).s),(St (rdE t).l),(N6 (rdE t).n),(N6 (rdE t).v)]) (λW d=>PV t _ W d.view f) ?_)))))))));refine aW (λk=>(aX 2 k (zn (zs (zB [3] [(k,4)] (lU (λW d=>pH (rdE t) W d.view A G) (λZ X u r=>?_)))))));obtain⟨L,rfl,g⟩:=r;obtain⟨J,K,rfl,I,N,O,M⟩:=g.form;refine zq 3 (aW (λE=>(aX 3 E (zq 1 (zn (zB [0,0,0,1,4] [(C,5),(E,5)] (cY 200 #[(tV t a c),(.agg #[(I6 (rdE t).tree.k),(N6 (rdE t).tree.n),(St (rdE t).tree.s),(.slice J (rdE t).tree.l.length K),(.bool (rdE t).tree.o)])] (.bool (BQ t (rdE t).tree)) (λW d=>KB t (rdE t).tree _ _ W d.view (f.le u) g) ?_)))))));refine zq 2 (zn (dY (!(BQ t (rdE t).tree)) (by rw[B];rfl) ?_));refine zk (zB [3] [(k,4)] (aX 1 D (zq 1 (zn (aA (dW [2,0] [(D,4)] [(.agg #[(I6 (rdE t).s),(St (rdE t).l),(N6 (rdE t).n),(N6 (rdE t).v)]),(I6 0)] (λY d=>?_)))))));exact⟨rfl,d.below⟩
theorem Eg(t:Itm.Tr)(cs:List Value)(w:World){U:View}(F:See U w)(h:TV U t cs)(I:ofZ t=false):CP 152 #[.agg cs.toArray] w (Ret (.tuple #[(⟨0,[],0,0⟩:Ei).V,.int .i64 2]) w):=by
 have f:=h;have g:=Me F h;obtain⟨a,c,rfl,Y,_,_,_⟩:=h.form;refine dC 24 Tryz.func152 F ?_;refine zs (zr (aW (λC=>(aW (λk=>(zq 1 (zn (zB [1] [(C,5)] (cY 198 #[(tV t a c)] (.agg #[(I6 (rdE t).s),(St (rdE t).l),(N6 (rdE t).n),(N6 (rdE t).v)]) (λW d=>PV t _ W d.view f) ?_)))))))));refine aW (λD=>(aX 2 D (zn (zs (zB [3] [(D,4)] ?_)))));rcases N2 (aN (rdE t))with r|r
 ·refine lU (λW d=>pH (rdE t) W d.view g r) (λv3 Z A u=>?_);obtain⟨N,rfl,j⟩:=u;obtain⟨K,M,rfl,G,V,X,O⟩:=j.form;refine zq 3 (aW (λE=>(aX 3 E (zq 1 (zn (zQ 3 ?_))))));have B:BQ t (rdE t).tree=false:=by unfold ofZ at I;rwa[N1 r]at I
  refine cF [1,4] [(C,5),(E,5)] (cY 200 #[(tV t a c),(.agg #[(I6 (rdE t).tree.k),(N6 (rdE t).tree.n),(St (rdE t).tree.s),(.slice K (rdE t).tree.l.length M),(.bool (rdE t).tree.o)])] (.bool (BQ t (rdE t).tree)) (λW d=>KB t (rdE t).tree _ _ W d.view (f.le A) j) ?_);refine zq 2 (zn (jG (!(BQ t (rdE t).tree)) (by rw[B];rfl) ?_));refine zQ 1 (aX 1 k (zq 1 (zn (aA (dW [2,0] [(k,4)] [(.agg #[(I6 0),(St []),(U6 0),(U6 0)]),(I6 2)] (λJ d=>?_))))));exact⟨rfl,d.below⟩
 ·refine dN (λW d=>Nw (rdE t) W g.l r) (zq 3 (aW (λL=>(aX 3 L (zq 1 (zn (zQ 8 (zn (dM (zQ 1 (aX 1 k (zq 1 (zn (aA (dW [2,0] [(k,4)] [(.agg #[(I6 0),(St []),(U6 0),(U6 0)]),(I6 2)] (λJ d=>?_))))))))))))))));exact⟨rfl,d.below⟩
theorem Et{α:Type}{l:List α}(h:l.length=5){t c s r:α}(f:l[0]? =some t)(g:l[1]? =some c)(j:l[3]? =some s)(k:l[4]? =some r):∃z,l=[t,c,z,s,r]:=by
 match l,h with
 | [a,b,z,d,e],_=>
  simp only[P5,Q7,L0]at f g j k;subst f g j k;exact⟨z,rfl⟩
theorem Eu{α:Type}{l:List α}(h:l.length=6){t c s p r:α}(f:l[0]? =some t)(j:l[1]? =some c)(k:l[3]? =some s)(u:l[4]? =some p)(A:l[5]? =some r):∃z,l=[t,c,z,s,p,r]:=by
 match l,h with
 | [a,b,z,d,e,g],_=>
  simp only[P5,Q7,L0]at f j k u A;subst f j k u A;exact⟨z,rfl⟩
theorem get_some{α:Type}{l:List α}{i:Nat}(h:i<l.length):∃y,l[i]? =some y:=⟨_,K8 h⟩
theorem Ia{l:List Itm.Tr}(h:¬(l.length=5\/l.length=6)):asR l=none:=by
 unfold asR;rw[M5 h]
theorem Cj{l:List Itm.Tr}{t:Itm.Tr}(d:l[0]? =some t)(h:XJ t=none):asR l=none:=by
 unfold asR;split
 ·match l with
  | []=>rfl
  | [_]=>rfl
  |a::b::l=>
   simp only[P5,L0]at d;subst d;simp only[h]
 ·rfl
theorem Ch{l:List Itm.Tr}{c:Itm.Tr}(d:l[1]? =some c)(h:QW c=none):asR l=none:=by
 unfold asR;split
 ·match l with
  | []=>rfl
  | [_]=>rfl
  |a::b::l=>
   simp only[P5,Q7,L0]at d;subst d;simp only[h];cases XJ a<;>rfl
 ·rfl
theorem Ci{l:List Itm.Tr}{s:Itm.Tr}(f:l[3]? =some s)(h:ofE s=none):asR l=none:=by
 unfold asR;split
 ·match l with
  | []=>rfl
  | [_]=>rfl
  | [_,_]=>simp at f
  | [_,_,_]=>simp at f
  |a::b::c::d::l=>
   simp only[P5,Q7,L0]at f;subst f;simp only[Hq,h];cases XJ a with
   |none=>rfl
   |some t=>cases QW b<;>rfl
 ·rfl
theorem Ea{l:List Itm.Tr}(d:l.length=5){t c s r:Itm.Tr}(g:l[0]? =some t)(h:l[1]? =some c)(j:l[3]? =some s)(k:l[4]? =some r){f:List Int}{a:Int}{s':Ei}(A:XJ t=some f)(u:QW c=some a)(hs:ofE s=some s'):asR l=Sj f a s' [] r:=by
 obtain⟨z,rfl⟩:=Et d g h j k;unfold asR;rw[N1 (.inl d)];simp only[A,u,Hq,hs,Dz]
theorem Hz{l:List Itm.Tr}(d:l.length=6){t c s p r:Itm.Tr}(g:l[0]? =some t)(h:l[1]? =some c)(j:l[3]? =some s)(k:l[4]? =some p)(u:l[5]? =some r){f:List Int}{a:Int}{s':Ei}(B:XJ t=some f)(A:QW c=some a)(hs:ofE s=some s'):asR l=match lB p with
  |none=>none
  |some C=>Sj f a s' C r:=by
 obtain⟨z,rfl⟩:=Eu d g h j k u;unfold asR;rw[N1 (.inr d)];simp only[B,A,Hq,hs,Dz]
 all_goals(cases lB p<;>rfl)
theorem Wb{t:Itm.Tr}(h:(Itm.iO t).right=true):(rdE t).tree=(Itm.iO t).tree:=by
 unfold rdE;generalize Itm.iO t=m at h ⊢;obtain⟨k,l,n,v⟩:=m;have f:k=1\/k=2:=by
  unfold Itm.Nm.right Eid.gW at h;simp only at h;split at h
  ·omega
  ·split at h
   ·omega
   ·cases h
 unfold Ei.tree Itm.Nm.tree Itm.YZ Itm.Rn;rcases f with rfl|rfl
 ·by_cases a:l=[110,111,110,101]
  ·subst a;rfl
  ·have d:(l==[110,111,110,101])=false:=M2.2 a;simp only[d,a];rfl
 ·rfl
theorem Ny{t:Itm.Tr}{e:Ei}(h:ofE t=some e)(cs:List Value)(w:World){U:View}(g:See U w)(j:TV U t cs):CP 152 #[.agg cs.toArray] w (Ret (.tuple #[e.V,.int .i64 0]) w):=by
 unfold ofE at h;split at h
 ·next a=>
  obtain rfl:=N5 h;have d:aN (rdE t)=true:=a.1;have f:(rdE t).tree=t:=(Wb a.1).trans a.2.2.symm;refine Il t cs w g j ?_;unfold ofZ BQ;rw[N1 d,N1 a.2.1,f,N1 a.2.1];exact TM.2 rfl
 ·cases h
theorem Nx{t:Itm.Tr}(h:ofE t=none)(cs:List Value)(w:World){U:View}(f:See U w)(j:TV U t cs):CP 152 #[.agg cs.toArray] w (Ret (.tuple #[(⟨0,[],0,0⟩:Ei).V,.int .i64 2]) w):=by
 unfold ofE at h;split at h
 ·cases h
 ·next g=>
  refine Eg t cs w f j ?_;unfold ofZ;split
  ·next a=>
   unfold BQ;split
   ·next d=>
    split
    ·exact KH.2 λe=>g ⟨a,d,e.trans (Wb a)⟩
    ·rfl
   ·rfl
  ·rfl
theorem PI{t:Itm.Tr}{e:Ei}(h:ofE t=some e){U:View}{cs:List Value}{w:World}(g:See U w)(j:TV U t cs):e.ok:=by
 unfold ofE at h;split at h
 ·obtain rfl:=N5 h;obtain⟨a,d,f⟩:=Itm.EZ (j.toTAt g);exact⟨a,d,f⟩
 ·cases h
def Hv(eA:Addr)(x:Option As)(v:Value)(V:View):Prop:=match x with
 |some a=>∃a1 a2 a3 c1 c2 c3,v=.tuple #[asV a a1 a2 a3 c1 c2 c3,.nilIface]/\DR V a1 a2 a3 a/\a.t.length<=c1
 |none=>∃(a1:Option Addr) (n1 c1:Nat) (k s:Int) (l:List UInt8) (n m:Nat) (a2:Option Addr) (n2 c2:Nat) (a3:Option Addr) (n3 c3:Nat) (e:Er),v=.tuple #[.agg #[.slice a1 n1 c1,.int .i64 k,.int .i64 s,.string (B l),.int .u64 n,.int .u64 m,.slice a2 n2 c2,.slice a3 n3 c3],e.V eA]
theorem GU{f:List UInt8->Option (Itm.Tr×Nat)}:∀{n:Nat} {s:List UInt8} {l:List Itm.Tr} {k:Nat},fX f n s=some (l,k)->∀x∈l,∃s' r,f s'=some (x,r)
 |0,s,l,k,h,x,a=>by
  rw[fX]at h;simp only[L0,N3]at h;rw[<-h.1]at a;cases a
 |n+1,s,l,k,h,x,a=>by
  rw[fX]at h;split at h
  ·cases h
  ·next t u d=>
   split at h
   ·cases h
   ·next ts j g=>
    simp only[L0,N3]at h;rw[<-h.1]at a;rcases O6.1 a with rfl|a
    ·exact⟨s,u,d⟩
    ·exact GU g x a
theorem PH{f:List UInt8->Option (Itm.Tr×Nat)}:∀{n:Nat} {s:List UInt8} {l:List Itm.Tr} {k:Nat},iI f n s=some (l,k)->∀x∈l,∃s' r,f s'=some (x,r)
 |0,s,l,k,h,x,a=>by
  rw[iI]at h;split at h
  ·simp only[L0,N3]at h;rw[<-h.1]at a;cases a
  ·cases h
 |n+1,s,l,k,h,x,a=>by
  rw[iI]at h;split at h
  ·simp only[L0,N3]at h;rw[<-h.1]at a;cases a
  ·split at h
   ·cases h
   ·next t u d=>
    split at h
    ·cases h
    ·next ts j g=>
     simp only[L0,N3]at h;rw[<-h.1]at a;rcases O6.1 a with rfl|a
     ·exact⟨s,u,d⟩
     ·exact PH g x a
theorem MM{d:Nat}{s:List UInt8}{t:Itm.Tr}{k:Nat}(h:itF (d+1) s=some (t,k)):t.l.length<=1000/\∀x∈t.l,∃s' g,itF d s'=some (x,g):=by
 rw[itF]at h;split at h
 ·cases h
 ·next m n o z f=>
  split at h
  ·simp only[L0,N3]at h;rw[<-h.1];exact⟨M8 _,λx f=>by cases f⟩
  ·split at h
   ·unfold oJ at h;split at h
    ·simp only[L0,N3]at h;rw[<-h.1];exact⟨M8 _,λx f=>by cases f⟩
    ·cases h
   ·split at h
    ·unfold oJ at h;split at h
     ·simp only[L0,N3]at h;rw[<-h.1];exact⟨M8 _,λx f=>by cases f⟩
     ·cases h
    ·split at h
     ·split at h
      ·cases a:iI (itF d) 1000 (s.drop z)with
       |none=>rw[a]at h;cases h
       |some q=>
        obtain⟨l,j⟩:=q;rw[a]at h;simp only[lZ,L0,N3]at h;rw[<-h.1];exact⟨(AN (gU d) _ _ _ _ a).2,PH a⟩
      ·split at h
       ·cases a:fX (itF d) n (s.drop z)with
        |none=>rw[a]at h;cases h
        |some q=>
         obtain⟨l,j⟩:=q;rw[a]at h;simp only[lZ,L0,N3]at h;rw[<-h.1];have:=(qG (gU d) _ _ _ _ a).2;exact⟨by show l.length<=1000;omega,GU a⟩
       ·cases h
     ·cases h
def Cf(l:List Itm.Tr):Prop:=∀x∈l,x.l.length<=1000000/\∀y∈x.l,y.l.length<=1000000
theorem Vk{d:Nat}{s:List UInt8}{t:Itm.Tr}{k:Nat}(h:itF (d+3) s=some (t,k)):Cf t.l:=λx j=>by
 obtain⟨C,A,a⟩:=(MM h).2 x j;have f:=MM a;refine⟨by omega,λy r=>?_⟩;obtain⟨D,B,g⟩:=f.2 y r;have u:=(MM g).1;omega
theorem VG(f:Addr)(l:List Itm.Tr)(aL:Option Addr)(cL:Nat)(w:World){U:View}(hU:See U w)(O:EF U f)(hl:fR U aL l)(u:Cf l):CP 99 #[.slice aL l.length cL] w (fV w U (Hv f (asR l))):=by
 have l3:=hl.len;unfold R47 at l3;refine dC 81 Tryz.func99 hU ?_;refine zs (zr (aW (λd=>(zq 1 (zn (zs ?_))))));refine dG (α:=Bool) (λj=>[0,2,3,13].zip [(.slice aL l.length cL),(Pt d 0),.nilIface,(.bool j)]) (λj=>U) (λj=>[(d,.cells Z8.toArray 79 (0,0))]) (λj=>(j=true->l.length≠5/\l.length≠6)/\(j=false->l.length=5\/l.length=6)) ?_ ?_
 ·refine zr (zq 4 (jB 9 (l.length:Int) 5 (λh0 n8=>?_) (λh0 n8=>?_)))
  ·refine zq 4 (zn ?_);refine jn ((l.length:Int) !=6) ?_;exact⟨(λh=>by have:=Q0.1 h;omega),(λh=>by have:=Q5.1 h;omega)⟩
  ·refine zq 4 (zn ?_);refine jn false ?_;exact⟨(λh=>by cases h),(λ_=>by omega)⟩
 intro j l0;refine gK j (λh1=>?_) (λh1=>?_)
 ·have n9:=l0.1 h1;refine zs ?_;refine gI 0 [3,1] [(d,8)] [.val (Er.V f (Er.wrap [105,116,101,109,115] .leaf))] ⟨?_,trivial⟩ ?_
  ·exact vC 149 #[(St [105,116,101,109,115])] (λW a=>tM f [105,116,101,109,115] W a.view O)
  refine aX 0 d (zq 1 (zn (aA (dW [1,0] [(d,8)] [(.agg Z8.toArray),(Er.V f (Er.wrap [105,116,101,109,115] .leaf))] (λW' a=>?_)))));have K:asR l=none:=Ia oW;rw[K];exact aJ a (View.le_refl _) ⟨_,_,_,_,_,_,_,_,_,_,_,_,_,_,(Er.wrap [105,116,101,109,115] .leaf),rfl⟩
 ·have n9:=l0.2 h1;refine zk (zs (zQ 1 ?_));obtain⟨y1,G⟩:∃y,(l)[0]? =some y:=⟨(l)[0]'oW,K8 _⟩;obtain⟨j,I,s6,rfl,o2,o6⟩:=hl.at_ 0 y1 G;obtain⟨a1,c1,rfl,b8,u6,v7,u3⟩:=o6.form;refine cB (Pt j (I+0*5)) (rIx 136 rfl j I l.length cL 0 5) ?_;refine zU j (I+0*5) (tC y1 a1 c1) o2 136 (.tmp 18) _ Tryz.underlying136 rfl ?_;rcases N2 ((XJ y1).isSome)with h2|h2
  ·refine oI 150 #[(tV y1 a1 c1)] (QT InR 1 f (XJ y1)) (λW a=>rD f y1 _ _ W a.view O b8 (u y1 (K9 G)).1) (λv2 V2 g o1=>?_);have k3:=hl.le g;obtain⟨l2,a2,c2,X,rfl,l4,l1⟩:=(o1).some h2;have b3:=l4.ins;refine zq 4 (aX 0 d (zq 1 (zn (zQ 1 (cB qF (pU .neq false _ _ _ rfl (Or.inr ⟨rfl,rfl⟩) kR kR) ?_)))));refine zn (cU (zk (zs (zQ 1 ?_))));obtain⟨y6,L⟩:∃y,(l)[1]? =some y:=⟨(l)[1]'oW,K8 _⟩;obtain⟨b6,f6,s7,e6,o3,m3⟩:=k3.at_ 1 y6 L;obtain⟨a6,c6,rfl,r1,u7,v8,u4⟩:=m3.form;cases e6;refine cB (Pt j (I+1*5)) (rIx 136 rfl j I l.length cL 1 5) ?_;refine zU j (I+1*5) (tC y6 a6 c6) o3 136 (.tmp 30) _ Tryz.underlying136 rfl ?_;rcases N2 (y6.k==0)with h3|h3
   ·have u2:=eq_of_beq h3;refine cY 151 #[(tV y6 a6 c6)] (.tuple #[(L6 (min y6.n 65536)),.nilIface]) (λW a=>Wf f y6 _ _ W a.view h3 (by obtain⟨_,_,_,_,h9,_⟩:=(m3).form;exact h9)) ?_;refine zq 4 (aX 0 d (zq 1 (zn (zQ 1 (cB qF (pU .neq false _ _ _ rfl (Or.inr ⟨rfl,rfl⟩) kR kR) ?_)))));refine zn (cU (zk (zQ 1 ?_)));obtain⟨y7,M⟩:∃y,(l)[3]? =some y:=⟨(l)[3]'oW,K8 _⟩;obtain⟨b7,f7,s8,e7,o4,Y⟩:=k3.at_ 3 y7 M;obtain⟨a7,c7,rfl,r2,u9,w0,u5⟩:=Y.form;cases e7;refine cB (Pt j (I+3*5)) (rIx 136 rfl j I l.length cL 3 5) ?_;refine zU j (I+3*5) (tC y7 a7 c7) o4 136 (.tmp 42) _ Tryz.underlying136 rfl ?_;rcases N2 ((ofE y7).isSome)with h4|h4
    ·obtain⟨E,J⟩:=P4.1 h4;refine cY 152 #[(tV y7 a7 c7)] (.tuple #[(.agg #[(I6 E.s),(St E.l),(N6 E.n),(N6 E.v)]),(I6 0)]) (λW a=>Ny J _ W a.view Y) ?_;let Y1:Value:=(.agg #[(.slice a2 l2.length c2),(L6 (min y6.n 65536)),(I6 E.s),(St E.l),(N6 E.n),(N6 E.v),S0,S0]);refine zq 3 (aW (λb9=>(aX 1 b9 (zq 1 (zn (zs (zQ 2 (zn (cU (zk (zB [2,0] [(b9,4)] (aX 0 d (zn (zs (zQ 3 (zn (fC (l.length:Int) 6 (λh5 o0=>?_) (λh5 o0=>?_))))))))))))))))))
     ·refine zQ 1 ?_;obtain⟨D,F⟩:∃y,(l)[4]? =some y:=⟨(l)[4]'oW,K8 _⟩;obtain⟨s3,s9,p6,n2,k2,m1⟩:=k3.at_ 4 D F;obtain⟨c0,c9,rfl,Z,q5,q8,q2⟩:=m1.form;cases n2;refine cB (Pt j (I+4*5)) (rIx 136 rfl j I l.length cL 4 5) ?_;refine zU j (I+4*5) (tC D c0 c9) k2 136 (.tmp 58) _ Tryz.underlying136 rfl ?_;rcases N2 ((lB D).isSome)with h6|h6
      ·refine oI 153 #[(tV D c0 c9)] (QT PaR 6 f (lB D)) (λW a=>lV f D _ _ W a.view (O.le g) Z (u D (K9 F)).1) (λw1 r3 A j5=>?_);have o7:=k3.le A;have o8:=b3.le A;have o9:=Y.le A;obtain⟨j0,j1,j2,b4,rfl,e4,p9⟩:=(j5).some h6;refine zq 4 (aX 0 d (zq 1 (zn (zQ 1 (cB qF (pU .neq false _ _ _ rfl (Or.inr ⟨rfl,rfl⟩) kR kR) ?_)))));refine zn (cU (zk (zQ 4 (dZ 72 (I6 (IntKind.i64.wrap ((l.length:Int)-1))) (L6 (l.length-1)) (M0 (Value.int .i64) (by rw[IntWalk.i64_in _ oW];omega)) ?_))));obtain⟨k,B⟩:∃y,(l)[(l.length-1)]? =some y:=⟨(l)[(l.length-1)]'oW,K8 _⟩;obtain⟨s4,u0,p7,n5,k4,m2⟩:=o7.at_ (l.length-1) k B;obtain⟨c4,e0,rfl,a8,q6,q9,q3⟩:=m2.form;cases n5;refine cB (.pointer (some ⟨j,I+(l.length-1)*5,none⟩)) (rIx 136 rfl j I l.length cL (l.length-1) 5) ?_;refine zU j (I+(l.length-1)*5) (tC k c4 e0) k4 136 (.tmp 73) _ Tryz.underlying136 rfl ?_;rcases N2 ((Xg k).isSome)with h7|h7
       ·refine oI 154 #[(tV k c4 e0)] (QT RlR 1 f (Xg k)) (λW a=>jH f k _ _ W a.view (O.le (View.le_trans g A)) a8 (u k (K9 B)).1 (u k (K9 B)).2) (λw2 r4 N j6=>?_);have p1:=o8.le N;have p2:=e4.le N;have p3:=o9.le N;obtain⟨m5,m7,n0,l5,rfl,e5,q0⟩:=(j6).some h7;refine zq 4 (aX 0 d (zq 1 (zn (zB [1,0] [(d,8)] (aX 0 d (zq 1 (zn (aA (dW [1,0] [(d,8)] [(.agg #[(.slice a2 l2.length c2),(L6 (min y6.n 65536)),(I6 E.s),(St E.l),(N6 E.n),(N6 E.v),(.slice j1 j0.length j2),(.slice m7 m5.length n0)]),.nilIface] (λW' a=>?_))))))))));have K:asR l=some ⟨l2,((min y6.n 65536:Nat):Int),E,j0,m5⟩:=by rw[Hz oW G L M F (by rw[show 5=l.length-1 by omega];exact B) X (mM h3) J,b4];unfold Sj;rw[l5]
        rw[K];exact aJ a (View.le_trans (View.le_trans g A) N) ⟨_,_,_,_,_,_,rfl,⟨p1,p2,e5,PI J a.view p3⟩,l1⟩
       ·refine oI 154 #[(tV k c4 e0)] (QT RlR 1 f (Xg k)) (λW a=>jH f k _ _ W a.view (O.le (View.le_trans g A)) a8 (u k (K9 B)).1 (u k (K9 B)).2) (λw3 r5 k6 j7=>?_);obtain⟨l6,j3,rfl⟩:=(j7).none h7;refine zq 4 (aX 0 d (zq 1 (zn (zB [1,0] [(d,8)] (aX 0 d (zq 1 (zn (aA (dW [1,0] [(d,8)] [(.agg #[(.slice a2 l2.length c2),(L6 (min y6.n 65536)),(I6 E.s),(St E.l),(N6 E.n),(N6 E.v),(.slice j1 j0.length j2),S0]),(Er.V f j3)] (λW' a=>?_))))))))));have K:asR l=none:=by rw[Hz oW G L M F (by rw[show 5=l.length-1 by omega];exact B) X (mM h3) J,b4];unfold Sj;rw[l6]
        rw[K];exact aJ a (View.le_trans (View.le_trans g A) k6) ⟨_,_,_,_,_,_,_,_,_,_,_,_,_,_,j3,rfl⟩
      ·refine oI 153 #[(tV D c0 c9)] (QT PaR 6 f (lB D)) (λW a=>lV f D _ _ W a.view (O.le g) Z (u D (K9 F)).1) (λw4 r6 k7 j8=>?_);obtain⟨l7,e2,rfl⟩:=(j8).none h6;refine zq 4 (aX 0 d (zq 1 (zn (zQ 1 (cB qT (CS .neq true _ _ _ _ rfl (Or.inr ⟨rfl,rfl⟩) kR f e2 kR kR) ?_)))));refine zn (dM (zB [1,0] [(d,8)] (aX 0 d (zq 1 (zn (aA (dW [1,0] [(d,8)] [Y1,(Er.V f e2)] (λW' a=>?_))))))));have K:asR l=none:=by obtain⟨r9,o5⟩:∃y,l[5]? =some y:=get_some oW;rw[Hz oW G L M F o5 X (mM h3) J,l7]
       rw[K];exact aJ a (View.le_trans g k7) ⟨_,_,_,_,_,_,_,_,_,_,_,_,_,_,e2,rfl⟩
     ·refine zk (zQ 4 (dZ 72 (I6 (IntKind.i64.wrap ((l.length:Int)-1))) (L6 (l.length-1)) (M0 (Value.int .i64) (by rw[IntWalk.i64_in _ oW];omega)) ?_));obtain⟨r,C⟩:∃y,(l)[(l.length-1)]? =some y:=⟨(l)[(l.length-1)]'oW,K8 _⟩;obtain⟨s5,u1,p8,n7,k5,m4⟩:=k3.at_ (l.length-1) r C;obtain⟨c8,e1,rfl,b2,q7,r0,q4⟩:=m4.form;cases n7;refine cB (.pointer (some ⟨j,I+(l.length-1)*5,none⟩)) (rIx 136 rfl j I l.length cL (l.length-1) 5) ?_;refine zU j (I+(l.length-1)*5) (tC r c8 e1) k5 136 (.tmp 73) _ Tryz.underlying136 rfl ?_;rcases N2 ((Xg r).isSome)with h8|h8
      ·refine oI 154 #[(tV r c8 e1)] (QT RlR 1 f (Xg r)) (λW a=>jH f r _ _ W a.view (O.le g) b2 (u r (K9 C)).1 (u r (K9 C)).2) (λw5 r7 V j9=>?_);have p4:=b3.le V;have p5:=Y.le V;obtain⟨m6,m8,n1,l8,rfl,e9,q1⟩:=(j9).some h8;refine zq 4 (aX 0 d (zq 1 (zn (zB [1,0] [(d,8)] (aX 0 d (zq 1 (zn (aA (dW [1,0] [(d,8)] [(.agg #[(.slice a2 l2.length c2),(L6 (min y6.n 65536)),(I6 E.s),(St E.l),(N6 E.n),(N6 E.v),S0,(.slice m8 m6.length n1)]),.nilIface] (λW' a=>?_))))))))));have K:asR l=some ⟨l2,((min y6.n 65536:Nat):Int),E,[],m6⟩:=by rw[Ea oW G L M (by rw[show 4=l.length-1 by omega];exact C) X (mM h3) J];unfold Sj;rw[l8]
       rw[K];exact aJ a (View.le_trans g V) ⟨_,_,_,_,_,_,rfl,⟨p4,fJ.nil,e9,PI J a.view p5⟩,l1⟩
      ·refine oI 154 #[(tV r c8 e1)] (QT RlR 1 f (Xg r)) (λW a=>jH f r _ _ W a.view (O.le g) b2 (u r (K9 C)).1 (u r (K9 C)).2) (λw6 r8 k8 k0=>?_);obtain⟨l9,j4,rfl⟩:=(k0).none h8;refine zq 4 (aX 0 d (zq 1 (zn (zB [1,0] [(d,8)] (aX 0 d (zq 1 (zn (aA (dW [1,0] [(d,8)] [Y1,(Er.V f j4)] (λW' a=>?_))))))))));have K:asR l=none:=by rw[Ea oW G L M (by rw[show 4=l.length-1 by omega];exact C) X (mM h3) J];unfold Sj;rw[l9]
       rw[K];exact aJ a (View.le_trans g k8) ⟨_,_,_,_,_,_,_,_,_,_,_,_,_,_,j4,rfl⟩
    ·have b5:=Q6.1 (by rw[h4];exact M3);refine cY 152 #[(tV y7 a7 c7)] (.tuple #[(.agg #[(I6 0),(St []),(U6 0),(U6 0)]),(I6 2)]) (λW a=>Nx b5 _ W a.view Y) ?_;refine zq 3 (aW (λm9=>(aX 1 m9 (zq 1 (zn (zs (zQ 2 (zn (dM (zs ?_))))))))));refine gI 0 [3,1] [(d,8)] [.val (Er.V f (Er.wrap [110,97,109,101] .leaf))] ⟨?_,trivial⟩ ?_
     ·exact vC 149 #[(St [110,97,109,101])] (λW a=>tM f [110,97,109,101] W a.view (O.le g))
     refine aX 0 d (zq 1 (zn (aA (dW [1,0] [(d,8)] [(.agg #[(.slice a2 l2.length c2),(L6 (min y6.n 65536)),(I6 0),(St []),(U6 0),(U6 0),S0,S0]),(Er.V f (Er.wrap [110,97,109,101] .leaf))] (λW' a=>?_)))));have K:asR l=none:=Ci M b5;rw[K];exact aJ a g ⟨_,_,_,_,_,_,_,_,_,_,_,_,_,_,(Er.wrap [110,97,109,101] .leaf),rfl⟩
   ·refine cY 151 #[(tV y6 a6 c6)] (.tuple #[(I6 0),(Er.V f (Er.wrap [110,117,109,98,101,114] .leaf))]) (λW a=>We f y6 _ _ W a.view (O.le g) h3) ?_;refine zq 4 (aX 0 d (zq 1 (zn (zQ 1 (cB qT (CS .neq true _ _ _ _ rfl (Or.inr ⟨rfl,rfl⟩) kR f (Er.wrap [110,117,109,98,101,114] .leaf) kR kR) ?_)))));refine zn (dM (zB [1,0] [(d,8)] (aX 0 d (zq 1 (zn (aA (dW [1,0] [(d,8)] [(.agg #[(.slice a2 l2.length c2),(I6 0),(I6 0),(St []),(U6 0),(U6 0),S0,S0]),(Er.V f (Er.wrap [110,117,109,98,101,114] .leaf))] (λW' a=>?_))))))));have K:asR l=none:=Ch L (FU h3);rw[K];exact aJ a g ⟨_,_,_,_,_,_,_,_,_,_,_,_,_,_,(Er.wrap [110,117,109,98,101,114] .leaf),rfl⟩
  ·refine oI 150 #[(tV y1 a1 c1)] (QT InR 1 f (XJ y1)) (λW a=>rD f y1 _ _ W a.view O b8 (u y1 (K9 G)).1) (λw7 s0 k9 k1=>?_);obtain⟨m0,e3,rfl⟩:=(k1).none h2;refine zq 4 (aX 0 d (zq 1 (zn (zQ 1 (cB qT (CS .neq true _ _ _ _ rfl (Or.inr ⟨rfl,rfl⟩) kR f e3 kR kR) ?_)))));refine zn (dM (zB [1,0] [(d,8)] (aX 0 d (zq 1 (zn (aA (dW [1,0] [(d,8)] [(.agg Z8.toArray),(Er.V f e3)] (λW' a=>?_))))))));have K:asR l=none:=Cj G m0;rw[K];exact aJ a k9 ⟨_,_,_,_,_,_,_,_,_,_,_,_,_,_,e3,rfl⟩
structure Op where
 k:Int
 n:Int
 t:Int
def Op.cs(o:Op):List Value:=[.int .i64 o.k,.int .i64 o.n,.int .i64 o.t]
def Op.V(o:Op):Value:=.agg o.cs.toArray
def OpR(_:View)(o:Op)(cs:List Value):Prop:=cs=o.cs
instance opR:RecOk OpR 3:=⟨λ_ h=>h,λh=>by rw[h];rfl,λh u hu=>by
 rw[h]at hu;simp only[Op.cs,O6,Q8,U2]at hu;rcases hu with rfl|rfl|rfl<;>rfl⟩
open Classical in
noncomputable def dI(s:List UInt8):Option As:=if h:∃a:As,a.ok/\a.right=true/\a.bytes=s then some h.choose else none
theorem tF{a:As}(ho:a.ok)(h:a.right=true):dI a.bytes=some a:=by
 have d:∃b:As,b.ok/\b.right=true/\b.bytes=a.bytes:=⟨a,ho,h,rfl⟩;unfold dI;rw[dif_pos d];obtain⟨f,g,j⟩:=d.choose_spec;rw[bytes_inj g h f ho j]
theorem fW{s:List UInt8}{a:As}(h:dI s=some a):a.ok/\a.right=true/\a.bytes=s:=by
 unfold dI at h;split at h
 ·next d=>
  obtain rfl:=N5 h;exact d.choose_spec
 ·cases h
theorem jU{s:List UInt8}(h:∀a:As,a.ok->a.right=true->a.bytes≠s):dI s=none:=by
 unfold dI;rw[dif_neg λ⟨a,d,f,g⟩=>h a d f g]
def opsOf(kind n:Int)(ts:List Int):List Op:=ts.map λt=>⟨kind,n,t⟩
noncomputable def fY(typ kind ctx:Int)(out:Bk->Bool):List Bk->Option (List Op)
 | []=>some []
 |x::l=>if x.t !=typ||out x then fY typ kind ctx out l else match dI x.d with
  |none=>none
  |some a=>if a.c !=ctx then none else match fY typ kind ctx out l with
   |none=>none
   |some r=>some (opsOf kind x.n a.t++r)
def dE(l:List Op)(kind target:Int):Bool:=l.any λo=>o.k==kind&&o.t==target
noncomputable def qQ(l:List Bk):Option (List Op):=match fY 12 2 2 (λ_=>false) l with
 |none=>none
 |some se=>match fY 11 1 1 (λx=>dE se 2 x.n) l with
  |none=>none
  |some si=>some (se++si)
def XS(x:Bk):Bool:=x.t==11||x.t==12
def BA(x:Bk):Bool:=x.t==6||x.t==7||x.t==10
def IM(p:Pr)(l:List Bk):Bool:=(jE .u64 p.f 1==0)|| !(l.any XS)
def IS(l:List Bk)(ops:List Op):Bool:=ops.all λo=>(fI l o.t).2||o.t==0
def FT(pre:List Op):List Op->Bool
 | []=>true
 |o::r=>if dE pre o.k o.t then false else FT (pre++[o]) r
def mZ(l:List Bk)(pre:List Op):List Op->Bool
 | []=>true
 |o::r=>if o.k !=2 then mZ l (pre++[o]) r else if(pre.any λq=>q.k==2&&q.n==o.n)||o.t==0||(fI l o.t).1.t==12||BA (fI l o.t).1 then false else mZ l (pre++[o]) r
def ET(l:List Bk)(ops:List Op)(o:Op):Bool:=o.k !=1||o.t==0|| !(XS (fI l o.t).1||BA (fI l o.t).1||dE ops 2 o.t)
def IX(l:List Bk)(ops:List Op):Bool:=ops.all (ET l ops)
def Zk(p:Pr)(l:List Bk)(ops:List Op):Int:=if IM p l&&IS l ops&&FT [] ops&&mZ l [] ops&&IX l ops then 0 else 8
noncomputable def mF(p:Pr)(l:List Bk):Int:=if aK p l !=0 then aK p l else match qQ l with
 |none=>2
 |some ops=>Zk p l ops
def Mn(pre:List Int):List Int->Bool
 | []=>false
 |n::r=>if pre.contains n then true else Mn (pre++[n]) r
def TA(l:List Bk)(kind:Int)(ts:List Int):Int:=if(kind !=1&&kind !=2)||ts.length==0 then 1 else if Mn [] ts then 1 else if ts.all (λt=>(fI l t).2||t==0)then 0 else 15
noncomputable def Ma(l:List Bk)(kind:Int)(ts:List Int):List Op:=(((qQ l).getD [])++opsOf kind (pF l:Int) ts).filter λo=> !(kind==2&&o.k==1&&o.n==ts.headD 0)
noncomputable def VT(p:Pr)(l:List Bk)(kind:Int)(ts:List Int):Int:=if mF p l !=0 then mF p l else if TA l kind ts !=0 then TA l kind ts else if jE .u64 p.f 1 !=0 then 8 else Zk p l (Ma l kind ts)
end Go.Proofs.YtkoamlfiijcecaaGreatDoor.Sx
