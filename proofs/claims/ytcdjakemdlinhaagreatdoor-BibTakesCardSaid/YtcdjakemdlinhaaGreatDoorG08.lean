/-
  Several texts in one: Asb1 Asb2 Asb3 Asb4 Asb5 Asb6 Asb7 Sx30 Irx Asr.
  Conditions: named at each.
-/
import Derived.Test.YtcdjakemdlinhaaGreatDoorG07
set_option maxHeartbeats 16000000
set_option linter.unusedSimpArgs false
set_option linter.unusedVariables false
set_option linter.unusedSectionVars false
namespace Go.Proofs.YtcdjakemdlinhaaGreatDoor.Sx
open Go.ChangeShapes Go.WideShapes Go.ChangeAt Go.RowKit Go.Deep
theorem aC8(x:Int)(w:World):CP 172 #[.int .i64 x] w (Ret (.bool (eU x)) w):=by
 refine dI 9 Tryz.func172 ?_;refine zQ 1 (zn (zQ 3 (cN 5 (decide (x≥0)) (fun a=>?_) (fun a=>?_))))
 ·refine zq 4 (zn (aA (aO [2] [(.bool (decide (x≤65535)))] (fun d c=>?_))));exact⟨by simp only[dC,eU,a,bs,bQ,reduceIte],c.below⟩
 ·refine zq 4 (zn (aA (aO [2] [(.bool false)] (fun d c=>?_))));exact⟨by simp only[dC,eU,a,bs,bQ,reduceIte],c.below⟩
def pJ(v : Int) : Nat → List Int → Int
 |_,[]=> -1
 |i,x::r=>if v==x then(i:Int)else pJ v (i+1) r
theorem aBG{l:List Int}{v:Int}{i:Nat}{y:Int}(h:l[i]? =some y):pJ v i (l.drop i)=if v==y then(i:Int)else pJ v (i+1) (l.drop (i+1)):=by
 rw[fN h,pJ]
theorem aG8(v : Int) : ∀ (i : Nat) (l : List Int), decide (pJ v i l ≥ 0) = l.contains v
 |_,[]=>rfl
 |i,x::r=>by
  rw[pJ,List.contains_cons];cases v==x with
  |true=>simp
  |false=>simpa using aG8 v (i+1) r
theorem sT(l:List Int)(a:Option Addr)(c:Nat)(v:Int)(w:World){U:View}(F:See U w)(A:jT U a l):CP 103 #[.slice a l.length c,.int .i64 v] w (Ret (.int .i64 (pJ v 0 l)) w):=by
 have g:=A.len;unfold R47 at g;refine dE 19 Tryz.func103 F ?_;refine zQ 1 (zn (zs (zQ 3 (zn (aB (eY (α:=Nat) (fun x=>[0,1,4,7,8].zip [(.slice a l.length c),(I6 v),(I6 0),(L6 l.length),(L6 x)]) (fun x=>U) (fun x=>[]) (fun x=>x≤l.length∧pJ v x (l.drop x)=pJ v 0 l) (fun x=>l.length-x) 0 ?_ ?_))))))
 ·exact⟨Ap _,rfl⟩
 intro x G;obtain⟨I,d⟩:=G;refine zQ 1 (zn (zs (cE ((x:Int)<(l.length:Int)) (fun D k=>?_) (fun D k=>?_))))
 ·refine zk (zs (aB (zQ 2 (zn (zQ 3 ?_)))));obtain⟨B,f⟩:∃y,(l)[x]? =some y:=⟨(l)[x]'oW,Aa _⟩;obtain⟨h,j,rfl,u⟩:=A.one f;refine cD (Pt h (j+x)) (eQ _ 3 _ _ rfl h j l.length c x .i64 kR kR (by first|assumption|omega) kR kR) ?_;refine zV h (j+x) (I6 B) u 3 (.tmp 14) _ Tryz.underlying3 rfl ?_;refine zq 1 (zn (fQ v B (fun q _=>?_) (fun q E=>?_)))
  ·refine zQ 2 (zn (aA (aO [4] [(L6 x)] (fun C r=>?_))));refine⟨?_,r.below⟩;rw[←d,aBG f,Ar q];rfl
  ·refine zk (zr (zq 1 (eC 18 ((x:Int)+1) (zq 1 (zn ?_)))));refine nx (x+1) ?_ ?_
   ·exact⟨by omega,by rw[←d,aBG f,q];rfl⟩
   ·show l.length-(x+1)<l.length-x;omega
 ·refine aK (zQ 1 (zn (aA (aO [4] [(I6 (-1))] (fun C r=>?_)))));refine⟨?_,r.below⟩;rw[←d,eI oW];rfl
theorem aAF(l:List Int)(a:Option Addr)(c:Nat)(v:Int)(w:World){U:View}(f:See U w)(g:jT U a l):CP 121 #[.slice a l.length c,.int .i64 v] w (Ret (.bool (l.contains v)) w):=by
 refine dE 9 Tryz.func121 f ?_;refine zQ 1 (zn (zQ 2 (cY 103 #[(.slice a l.length c),(I6 v)] (I6 (pJ v 0 l)) (fun W d=>sT l _ _ v W d.view g) ?_)));refine zq 2 (zn (aA (aO [4] [(.bool (decide ((pJ v 0 l)≥0)))] (fun h d=>?_))));exact⟨by rw[←aG8 v 0 l];rfl,d.below⟩
theorem pP{l:List Int}{i:Nat}{y:Int}(h:l[i]? =some y):mK (l.take i) (l.drop i)=if !eU y||(l.take i).contains y then false else mK (l.take (i+1)) (l.drop (i+1)):=by
 rw[fN h,mK,Ci,h];rfl
theorem aCg(l:List Int)(a:Option Addr)(c:Nat)(w:World){U:View}(G:See U w)(D:jT U a l)(K:l.length≤c):CP 171 #[.slice a l.length c] w (Ret (.bool (jB l)) w):=by
 have r:=D.len;unfold R47 at r;refine dE 23 Tryz.func171 G ?_;refine zQ 1 (zn (zs (zQ 3 (zn (aB (eY (α:=Nat) (fun x=>[0,2,5,6,7].zip [(.slice a l.length c),(.bool false),(.slice a l.length c),(L6 l.length),(L6 x)]) (fun x=>U) (fun x=>[]) (fun x=>x≤l.length∧mK (l.take x) (l.drop x)=jB l) (fun x=>l.length-x) 0 ?_ ?_))))))
 ·exact⟨Ap _,rfl⟩
 intro x I;obtain⟨J,d⟩:=I;refine zQ 1 (zn (zs (cE ((x:Int)<(l.length:Int)) (fun F A=>?_) (fun F A=>?_))))
 ·refine zk (zs (aB (zQ 1 ?_)));obtain⟨k,f⟩:∃y,(l)[x]? =some y:=⟨(l)[x]'oW,Aa _⟩;obtain⟨q,j,rfl,C⟩:=D.one f;refine cD (Pt q (j+x)) (eQ _ 3 _ _ rfl q j l.length c x .i64 kR kR (by first|assumption|omega) kR kR) ?_;refine zV q (j+x) (I6 k) C 3 (.tmp 10) _ Tryz.underlying3 rfl ?_;refine zq 2 (zn (zQ 1 (dK (fun W g=>aC8 k W) (zq 2 (cN 15 (!(eU k)) (fun u=>?_) (fun u=>?_))))))
  ·refine zq 6 (zn (dP (zQ 1 (zn (aA (aO [2] [(.bool false)] (fun E g=>?_)))))));refine⟨?_,g.below⟩;rw[←d,pP f];simp only[u,bs,bQ,reduceIte];rfl
  ·refine zq 2 (cD (Sl q j x c) (gU 48 3 (.tmp 16) none (some (.tmp 17)) none rfl q j l.length c 0 x c 1 x c j kR eR eR eR (by decide) oW oW oW oW oW (by first|rfl|(split<;>omega)) Tryz.underlying48 kR) ?_);refine zq 1 (cY 121 #[(Sl q j x c),(I6 k)] (.bool ((l.take x).contains k)) (fun W g=>(by have h:=aAF (l.take x) _ c k W g.view (D.take x);rwa[Bb,Ep oW]at h)) ?_);refine zq 1 (zn (gN ((l.take x).contains k) (fun B=>?_) (fun B=>?_)))
   ·refine zQ 1 (zn (aA (aO [2] [(.bool false)] (fun E g=>?_))));refine⟨?_,g.below⟩;rw[←d,pP f];simp only[u,B,bs,bQ,reduceIte];rfl
   ·refine zk (zr (zq 1 (eC 22 ((x:Int)+1) (zq 1 (zn ?_)))));refine nx (x+1) ?_ ?_
    ·exact⟨by omega,by rw[←d,pP f];simp only[u,B,bs,bQ,reduceIte]⟩
    ·show l.length-(x+1)<l.length-x;omega
 ·refine aK (zQ 1 (zn (aA (aO [2] [(.bool true)] (fun E g=>?_)))));refine⟨?_,g.below⟩;rw[←d,eI oW];rfl
theorem aDt{l:List Pa}{y:Pa}(a:y∈l)(h:paB y=false):fR l=false:=by
 unfold fR;rw[show l.all paB=false from List.all_eq_false.2 ⟨y,a,by rw[h];decide⟩];rfl
theorem aED(l:List Pa)(a:Option Addr)(c:Nat)(w:World){U:View}(hU:See U w)(hl:gF PaR 6 U a l)(b6:l.length≤1000000):CP 173 #[.slice a l.length c] w (Ret (.bool (fR l)) w):=by
 refine dE 36 Tryz.func173 hU ?_;refine zQ 1 (zn (zQ 1 (zn (zs (zQ 3 (zn (aB (eY (α:=Gp Int) (fun x=>[2,3,6,7,8].zip [(.bool false),(x.r.V x.i),(.slice a l.length c),(L6 l.length),(L6 x.i)]) (fun x=>x.V) (fun x=>([]++x.r.B 3 x.xs)) (fun x=>x.i≤l.length∧View.le U x.V∧RwR InR 1 x.V x.r x.xs x.i x.L∧x.L.map Prod.fst=(l.take x.i).map Pa.id∧(l.take x.i).all paB=true) (fun x=>l.length-x.i) ⟨0,Rw.nil,[],[],U⟩ ?_ ?_ (hm:=fun _ h=>h.eqv (Dn kR (Aj ([]:aN)).symm))))))))))
 ·exact⟨Ap _,View.le_refl _,RwR.nil,rfl,rfl⟩
 intro x hx;obtain⟨c2,D,r,q⟩:=hx;refine zQ 1 (zn (zs (cE ((x.i:Int)<(l.length:Int)) (fun h0 O=>?_) (fun h0 O=>?_))))
 ·refine zk (zs (aB (zs (zr ?_))));obtain⟨f,j⟩:∃y,(l)[x.i]? =some y:=⟨(l)[x.i]'oW,Aa _⟩;obtain⟨M,N,b3,rfl,Y,V⟩:=(hl.le D).at_ x.i f j;obtain⟨b5,rfl,C⟩:=V;obtain⟨E,F,rfl,a8,b9,c1,b8⟩:=C.form;refine cD (Pt M (N+x.i*6)) (rIx 92 rfl M N l.length c x.i 6) ?_;refine zU M (N+x.i*6) [(I6 f.id),(I6 f.v.k),(N6 f.v.n),(St f.v.s),(.slice E f.v.l.length F),(.bool f.v.o)] Y 92 (.tmp 10) _ Tryz.underlying92 rfl ?_;refine fH 0 (fun A=>?_);refine aX 0 A (zn (zs (zB [0,0,1,0,0] [(A,1)] (lO 16 f.v.k 0 (fun h1 k=>?_) (fun h1 k=>?_)))))
  ·refine cG [0,0,1,0,0,0] [(A,1)] (lO 22 f.v.k 2 (fun h2 B=>?_) (fun h2 B=>?_))
   ·refine zq 5 (zn (dP (zQ 1 (zn (aA (aO [2] [(.bool false)] (fun L g=>?_)))))));refine⟨?_,g.below⟩;have u:paB f=false:=by simp[paB,k,B]
    rw[aDt (Ad j) u];rfl
   ·refine cG [0,1] [(A,5)] (cY 179 #[(tV f.v E F)] (.bool (Itm.aJ 8 f.v)) (fun W g=>lY f.v _ W g.view C) ?_);refine zq 2 (zn (gN (!(Itm.aJ 8 f.v)) (fun G=>?_) (fun G=>?_)))
    ·refine zQ 1 (zn (aA (aO [2] [(.bool false)] (fun L g=>?_))));refine⟨?_,g.below⟩;have u:paB f=false:=by simp only[Bi,Bl]at G;simp[paB,k,B,G]
     rw[aDt (Ad j) u];rfl
    ·refine zk (zr (cG [0,0,1] [(A,1)] (fH 1 (fun b2=>?_))));refine lN 2 3 48 8 1 1 r.ok (fun W g=>eF g 1 b2 [(I6 f.id)] 3 kR) rfl (Ao.1 kR) (by decide) (fun r3 a1=>?_);refine zq 1 (zn (zr (zq 1 (eC 33 ((x.i:Int)+1) (zq 1 (zn ?_))))));refine nx ⟨x.i+1,r3,(x.xs++[(I6 f.id)]),x.L++[(f.id,[(I6 f.id)])],x.V⟩ ?_ ?_ (d:=fun _ h=>Mem.sub (By (Ay _ _) (Cd _)) (h.eqv (show _=((([]:aN)++([(bK A [(I6 f.id),(I6 f.v.k),(N6 f.v.n),(St f.v.s),(.slice E f.v.l.length F),(.bool f.v.o)] 92),(bK b2 [(I6 f.id)] 3)]:aN))++(r3.B 3 (x.xs++[(I6 f.id)])))from by kernel_rfl)))
     ·exact⟨by show x.i+1≤_;omega,D,RwR.snoc r rfl a1,by rw[Br,q.1,dU Pa.id j];rfl,by rw[sC paB j,q.2];simp only[Bi,Bl]at G;simp[paB,k,B,G]⟩
     ·show l.length-(x.i+1)<l.length-x.i;omega
  ·refine cG [0,0,0,0,0,0,0,1] [(A,5)] (cY 179 #[(tV f.v E F)] (.bool (Itm.aJ 8 f.v)) (fun W g=>lY f.v _ W g.view C) ?_);refine zq 2 (zn (gN (!(Itm.aJ 8 f.v)) (fun I=>?_) (fun I=>?_)))
   ·refine zQ 1 (zn (aA (aO [2] [(.bool false)] (fun L g=>?_))));refine⟨?_,g.below⟩;have u:paB f=false:=by simp only[Bi,Bl]at I;simp[paB,k,I]
    rw[aDt (Ad j) u];rfl
   ·refine zk (zr (cG [0,0,1] [(A,1)] (fH 1 (fun b4=>?_))));refine lN 2 3 48 8 1 1 r.ok (fun W g=>eF g 1 b4 [(I6 f.id)] 3 kR) rfl (Ao.1 kR) (by decide) (fun r5 a7=>?_);refine zq 1 (zn (zr (zq 1 (eC 33 ((x.i:Int)+1) (zq 1 (zn ?_))))));refine nx ⟨x.i+1,r5,(x.xs++[(I6 f.id)]),x.L++[(f.id,[(I6 f.id)])],x.V⟩ ?_ ?_ (d:=fun _ h=>Mem.sub (By (Ay _ _) (Cd _)) (h.eqv (show _=((([]:aN)++([(bK A [(I6 f.id),(I6 f.v.k),(N6 f.v.n),(St f.v.s),(.slice E f.v.l.length F),(.bool f.v.o)] 92),(bK b4 [(I6 f.id)] 3)]:aN))++(r5.B 3 (x.xs++[(I6 f.id)])))from by kernel_rfl)))
    ·exact⟨by show x.i+1≤_;omega,D,RwR.snoc r rfl a7,by rw[Br,q.1,dU Pa.id j];rfl,by rw[sC paB j,q.2];simp only[Bi,Bl]at I;simp[paB,k,I]⟩
    ·show l.length-(x.i+1)<l.length-x.i;omega
 ·refine aK (zQ 1 ?_);refine aPi 34 x.r x.xs 1 x.i [] 3 kR r.ok kR (fun a6 c6 V6 Z X b7=>?_);have k7:=r.le Z;have J:=(k7.done (by decide) X (View.le_refl _) (by unfold R47;omega)).ins;rw[q.1,Bf oW]at J;refine cY 171 #[(.slice a6 x.i c6)] (.bool (jB (l.map Pa.id))) (fun W g=>(by have h:=aCg (l.map Pa.id) a6 c6 W g.view J (by rw[Az];omega);rwa[Az,show l.length=x.i by omega]at h)) ?_;refine zq 1 (zn (aA (aO [2] [(.bool (jB (l.map Pa.id)))] (fun L g=>?_))));refine⟨?_,g.below⟩;have K:=q.2;rw[Bf oW]at K;unfold fR;rw[K];rfl
theorem aFv(l:List Pa)(a:Option Addr)(c:Nat)(w:World){U:View}(u:See U w)(x:gF PaR 6 U a l):CP 175 #[.slice a l.length c] w (Ret (.bool (!aAN l)) w):=by
 have g:decide (1≤l.length)= !decide ((l.length:Int)<1):=by rw[←Ds];exact Dl.2 oW
 have h:decide (l.length≤4)= !decide ((l.length:Int)>4):=by rw[←Ds];exact Dl.2 oW
 refine dE 16 Tryz.func175 u ?_;refine zQ 1 (zn (zQ 4 (jV 6 ((l.length:Int)<1) (fun f _=>?_) (fun f q=>?_))))
 ·refine zq 10 (zn (aA (aO [2] [(.bool true)] (fun k d=>?_))));refine⟨?_,d.below⟩;unfold aAN;rw[g,h];simp only[dC,f,bs,bQ,reduceIte]
 ·refine zq 5 (jV 11 ((l.length:Int)>4) (fun j _=>?_) (fun j r=>?_))
  ·refine zq 5 (zn (aA (aO [2] [(.bool true)] (fun k d=>?_))));refine⟨?_,d.below⟩;unfold aAN;rw[g,h];simp only[dC,f,j,bs,bQ,reduceIte]
  ·refine zq 1 (cY 173 #[(.slice a l.length c)] (.bool (fR l)) (fun W d=>aED l _ _ W d.view x oW) ?_);refine zq 3 (zn (aA (aO [2] [(.bool (!(fR l)))] (fun k d=>?_))));refine⟨?_,d.below⟩;unfold aAN;rw[g,h];simp only[dC,f,j,bs,bQ,reduceIte]
def aK4 : Nat → List (List Pa) → Int
 |_,[]=> -1
 |i,x::r=>if !aAN x then(i:Int)else aK4 (i+1) r
theorem aE8{l:List (List Pa)}{i:Nat}{y:List Pa}(h:l[i]? =some y):aK4 i (l.drop i)=if !aAN y then(i:Int)else aK4 (i+1) (l.drop (i+1)):=by
 rw[fN h,aK4]
theorem aHr : ∀ (i : Nat) (l : List (List Pa)), decide (aK4 i l ≥ 0) = !l.all aAN
 |_,[]=>rfl
 |i,x::r=>by
  rw[aK4,Dm];cases aAN x with
  |false=>simp
  |true=>simpa using aHr (i+1) r
theorem aIN(l:List (List Pa))(a:Option Addr)(c:Nat)(w:World){U:View}(L:See U w)(G:gF RlR 1 U a l):CP 208 #[.slice a l.length c,.func (.func 175) #[] #[]] w (Ret (.int .i64 (aK4 0 l)) w):=by
 have j:=G.len;unfold R47 at j;refine dE 19 Tryz.func208 L ?_;refine zQ 1 (zn (zs (zQ 3 (zn (aB (eY (α:=Nat) (fun x=>[0,1,4,7,8].zip [(.slice a l.length c),(.func (.func 175) #[] #[]),(I6 0),(L6 l.length),(L6 x)]) (fun x=>U) (fun x=>[]) (fun x=>x≤l.length∧aK4 x (l.drop x)=aK4 0 l) (fun x=>l.length-x) 0 ?_ ?_))))))
 ·exact⟨Ap _,rfl⟩
 intro x M;obtain⟨N,d⟩:=M;refine zQ 1 (zn (zs (cE ((x:Int)<(l.length:Int)) (fun K r=>?_) (fun K r=>?_))))
 ·refine zk (zs (aB (zQ 2 (zn (zQ 3 ?_)))));obtain⟨g,f⟩:∃y,(l)[x]? =some y:=⟨(l)[x]'oW,Aa _⟩;obtain⟨k,q,J,rfl,B,A⟩:=G.at_ x g f;obtain⟨E,F,rfl,D⟩:=A;have C:=View.range1 B;refine cD (Pt k (q+x)) (eQ _ 93 _ _ rfl k q l.length c x .i64 kR kR (by first|assumption|omega) kR kR) ?_;refine zV k (q+x) (.slice E g.length F) C 93 (.tmp 14) _ Tryz.underlying93 rfl ?_;refine cY 175 #[(.slice E g.length F)] (.bool (!aAN g)) (fun W h=>aFv g _ _ W h.view D) ?_;refine zn (gN (!aAN g) (fun u=>?_) (fun u=>?_))
  ·refine zQ 2 (zn (aA (aO [4] [(L6 x)] (fun I h=>?_))));refine⟨?_,h.below⟩;rw[←d,aE8 f,Ar u];rfl
  ·refine zk (zr (zq 1 (eC 18 ((x:Int)+1) (zq 1 (zn ?_)))));refine nx (x+1) ?_ ?_
   ·exact⟨by omega,by rw[←d,aE8 f,u];rfl⟩
   ·show l.length-(x+1)<l.length-x;omega
 ·refine aK (zQ 1 (zn (aA (aO [4] [(I6 (-1))] (fun I h=>?_)))));refine⟨?_,h.below⟩;rw[←d,eI oW];rfl
theorem aIO(l:List (List Pa))(a:Option Addr)(c:Nat)(w:World){U:View}(f:See U w)(g:gF RlR 1 U a l):CP 174 #[.slice a l.length c,.func (.func 175) #[] #[]] w (Ret (.bool (!l.all aAN)) w):=by
 refine dE 9 Tryz.func174 f ?_;refine zQ 1 (zn (zQ 2 (cY 208 #[(.slice a l.length c),(.func (.func 175) #[] #[])] (I6 (aK4 0 l)) (fun W d=>aIN l _ _ W d.view g) ?_)));refine zq 2 (zn (aA (aO [4] [(.bool (decide ((aK4 0 l)≥0)))] (fun h d=>?_))));exact⟨by rw[←aHr 0 l];rfl,d.below⟩
theorem aHK(a:As)(G E F:Option Addr)(I N O:Nat)(w:World){U:View}(Z:See U w)(D:aAK U G E F a)(hc:a.t.length≤I):CP 134 #[asV a G E F I N O] w (Ret (.bool (cV a)) w):=by
 have J:=D.t;have K:=D.p;have L:=D.r;have k:decide (1≤a.t.length)= !decide ((a.t.length:Int)<1):=by rw[←Ds];exact Dl.2 oW
 have q:decide (a.t.length≤16)= !decide ((a.t.length:Int)>16):=by rw[←Ds];exact Dl.2 oW
 have r:decide (a.p.length≤8)= !decide ((a.p.length:Int)>8):=by rw[←Ds];exact Dl.2 oW
 have u:decide (a.r.length=a.t.length)= !((a.r.length:Int) !=(a.t.length:Int)):=by
  by_cases h:a.r.length=a.t.length
  ·rw[h];simp
  ·rw[Ba h,show((a.r.length:Int) !=(a.t.length:Int))=true from Cb.2 oW];rfl
 refine dE 52 Tryz.func134 Z ?_;refine zs (zr (aW (fun A=>(zq 1 (zn (zB [0,1,0,0] [(A,1)] (zn (zs (zQ 3 (jV 9 ((a.t.length:Int)<1) (fun j _=>?_) (fun j V=>?_)))))))))))
 ·refine zq 21 (zn (dP (zQ 1 (zn (aA (aO [2] [(.bool false)] (fun y c=>?_)))))));refine⟨?_,c.below⟩;unfold cV;rw[k,q,r,u];simp only[dC,j,Dy,bs,bQ,reduceIte]
 ·refine zq 4 (jV 13 ((a.t.length:Int)>16) (fun x _=>?_) (fun x X=>?_))
  ·refine zq 17 (zn (dP (zQ 1 (zn (aA (aO [2] [(.bool false)] (fun y c=>?_)))))));refine⟨?_,c.below⟩;unfold cV;rw[k,q,r,u];simp only[dC,j,x,Dy,bs,bQ,reduceIte]
  ·refine cG [0,1] [(A,1)] (cY 171 #[(.slice G a.t.length I)] (.bool (jB a.t)) (fun W c=>aCg a.t _ _ W c.view J hc) ?_);refine zq 3 (cN 19 (!(jB a.t)) (fun d=>?_) (fun d=>?_))
   ·refine zq 11 (zn (dP (zQ 1 (zn (aA (aO [2] [(.bool false)] (fun y c=>?_)))))));simp only[Bi,Bl]at d;refine⟨?_,c.below⟩;unfold cV;rw[k,q,r,u];simp only[dC,j,x,d,Dy,bs,bQ,reduceIte]
   ·refine cG [0,1] [(A,1)] (dK (fun W c=>aC8 a.c W) (zq 3 (cN 25 (!(eU a.c)) (fun f=>?_) (fun f=>?_))))
    ·refine zq 5 (zn (dP (zQ 1 (zn (aA (aO [2] [(.bool false)] (fun y c=>?_)))))));simp only[Bi,Bl]at d;simp only[Bi,Bl]at f;refine⟨?_,c.below⟩;unfold cV;rw[k,q,r,u];simp only[dC,j,x,d,f,Dy,bs,bQ,reduceIte]
    ·refine cG [0,1] [(A,4)] (dK (fun W c=>jF a.s W D.s.l) (zq 2 (zn (gN (!(aI a.s)) (fun g=>?_) (fun g=>?_)))))
     ·refine zQ 1 (zn (aA (aO [2] [(.bool false)] (fun y c=>?_))));simp only[Bi,Bl]at d;simp only[Bi,Bl]at f;simp only[Bi,Bl]at g;refine⟨?_,c.below⟩;unfold cV;rw[k,q,r,u];simp only[dC,j,x,d,f,g,Dy,bs,bQ,reduceIte]
     ·refine zk (zs (zB [0,1,0,0,0] [(A,1)] (jV 35 ((a.p.length:Int)>8) (fun C _=>?_) (fun C Y=>?_))))
      ·refine zq 12 (zn (dP (zQ 1 (zn (aA (aO [2] [(.bool false)] (fun y c=>?_)))))));simp only[Bi,Bl]at d;simp only[Bi,Bl]at f;simp only[Bi,Bl]at g;refine⟨?_,c.below⟩;unfold cV;rw[k,q,r,u];simp only[dC,j,x,d,f,g,C,Dy,bs,bQ,reduceIte]
      ·refine cG [0,1] [(A,1)] (cY 173 #[(.slice E a.p.length N)] (.bool (fR a.p)) (fun W c=>aED a.p _ _ W c.view K oW) ?_);refine zq 3 (cN 41 (!(fR a.p)) (fun B=>?_) (fun B=>?_))
       ·refine zq 6 (zn (dP (zQ 1 (zn (aA (aO [2] [(.bool false)] (fun y c=>?_)))))));simp only[Bi,Bl]at d;simp only[Bi,Bl]at f;simp only[Bi,Bl]at g;simp only[Bi,Bl]at B;refine⟨?_,c.below⟩;unfold cV;rw[k,q,r,u];simp only[dC,j,x,d,f,g,C,B,Dy,bs,bQ,reduceIte]
       ·refine cG [0,1,0,0,0,0] [(A,1)] (zn (gN ((a.r.length:Int) !=(a.t.length:Int)) (fun M=>?_) (fun M=>?_)))
        ·refine zQ 1 (zn (aA (aO [2] [(.bool false)] (fun y c=>?_))));simp only[Bi,Bl]at d;simp only[Bi,Bl]at f;simp only[Bi,Bl]at g;simp only[Bi,Bl]at B;refine⟨?_,c.below⟩;unfold cV;rw[k,q,r,u];simp only[dC,j,x,d,f,g,C,B,M,Dy,bs,bQ,reduceIte]
        ·refine zk (zB [0,1] [(A,1)] (cY 174 #[(.slice F a.r.length O),(.func (.func 175) #[] #[])] (.bool (!a.r.all aAN)) (fun W c=>aIO a.r _ _ W c.view L) ?_));refine zq 2 (zn (aA (aO [2] [(.bool (!(!a.r.all aAN)))] (fun y c=>?_))));simp only[Bi,Bl]at d;simp only[Bi,Bl]at f;simp only[Bi,Bl]at g;simp only[Bi,Bl]at B;refine⟨?_,c.below⟩;unfold cV;rw[k,q,r,u];simp only[dC,j,x,d,f,g,C,B,M,Dy,bs,bQ,reduceIte]
theorem idU{n:Int}(h:0≤n∧n≤65535):IntKind.u64.wrap n=(n.toNat:Int):=by
 have:=u64_in (x:=n) oW oW;omega
theorem aFe(l:List Pa)(a:Option Addr)(c:Nat)(w:World){U:View}(hU:See U w)(hl:gF PaR 6 U a l)(e0:∀p∈l,0≤p.id∧p.id≤65535)(h8:l.length≤1000):CP 176 #[.slice a l.length c] w (fO w U (mA (fV l))):=by
 refine dE 26 Tryz.func176 hU ?_;refine zs (zr (aW (fun I=>(zn (zQ 1 (zn (zs (zQ 3 (zn (aB (eY (α:=Gp Itm.Tr) (fun x=>[2,3,6,7,8].zip [(Pt I 0),(x.r.V x.i),(.slice a l.length c),(L6 l.length),(L6 x.i)]) (fun x=>x.V) (fun x=>([(I,.cells [(I6 0),(U6 0),(St []),S0,(.bool false)].toArray 89 (0,0))]++x.r.B 89 x.xs)) (fun x=>x.i≤l.length∧View.le U x.V∧RwR TV 5 x.V x.r x.xs x.i x.L∧x.L.map Prod.fst=(l.take x.i).map Pa.tree) (fun x=>l.length-x.i) ⟨0,Rw.nil,[],[],U⟩ ?_ ?_ (hm:=fun _ h=>h.eqv (Dn kR (Aj ([(I,.cells [(I6 0),(U6 0),(St []),S0,(.bool false)].toArray 89 (0,0))]:aN)).symm)))))))))))))
 ·exact⟨Ap _,View.le_refl _,RwR.nil,rfl⟩
 intro x hx;obtain⟨j2,L,E,b7⟩:=hx;refine zQ 1 (zn (zs (cE ((x.i:Int)<(l.length:Int)) (fun h0 c6=>?_) (fun h0 c6=>?_))))
 ·refine zk (zs (aB (zs (zr ?_))));obtain⟨j,M⟩:∃y,(l)[x.i]? =some y:=⟨(l)[x.i]'oW,Aa _⟩;obtain⟨b1,f1,h5,rfl,c9,c8⟩:=(hl.le L).at_ x.i j M;obtain⟨h6,rfl,b6⟩:=c8;obtain⟨N,O,rfl,e6,j0,j1,h9⟩:=b6.form;have K:=e0 j (Ad M);refine cD (Pt b1 (f1+x.i*6)) (rIx 92 rfl b1 f1 l.length c x.i 6) ?_;refine zU b1 (f1+x.i*6) [(I6 j.id),(I6 j.v.k),(N6 j.v.n),(St j.v.s),(.slice N j.v.l.length O),(.bool j.v.o)] c9 92 (.tmp 10) _ Tryz.underlying92 rfl ?_;refine fH 1 (fun b2=>?_);refine aX 1 b2 (zn ?_);refine mB 4 [0,0,4,1,1,0,4,1,1,1] [(b2,1),(b2,5)] [.val (N6 j.id.toNat),.val (iV j.id.toNat),.mem (fun v V=>∃g,v=(Sl g 0 2 2)∧eZ V (some ⟨g,0,none⟩) [(Itm.cA j.id.toNat),j.v]),.mem (fun v V=>∃g,v=(.agg #[.int .i64 4,.int .u64 0,.string (B []),.slice (some ⟨g,0,none⟩) 2 2,.bool false])∧eZ V (some ⟨g,0,none⟩) [(Itm.cA j.id.toNat),j.v]),.mem (fun v V=>∃g,v=(Sl g 0 1 1)∧eZ V (some ⟨g,0,none⟩) [(Itm.dA [(Itm.cA j.id.toNat),j.v])])] (by simp only[Bc];refine⟨?_,?_,?_,?_,?_,fun _ h=>by cases h⟩<;>first|trivial|(intro v V V2 b3 hP;(first|trivial|exact PhiMono.go hP b3|(obtain⟨g,e,hP⟩:=hP;exact⟨g,e,hP.le b3⟩)))) ⟨?_,?_,?_,?_,?_,trivial⟩ ?_
  ·exact wE (U6 (IntKind.u64.wrap j.id)) (Ag (Value.int .u64) (idU K))
  ·refine wV 40 (fun u=>#[(N6 j.id.toNat)]) fun u V hV q W hW=>?_
   exact dN _ W
  ·refine wN [16,18] (fun u=>[(iV j.id.toNat),(tV j.v N O)]) fun u V hV q=>?_
   refine⟨[(I6 0),(N6 j.id.toNat),(St []),S0,(.bool false),(I6 j.v.k),(N6 j.v.n),(St j.v.s),(.slice N j.v.l.length O),(.bool j.v.o)],89,fun r=>(Sl r 0 2 2),?_,fun g V' D hR=>?_⟩
   ·kernel_rfl
   exact⟨g,rfl,eZ.lit [((Itm.cA j.id.toNat),(iN j.id.toNat)),(j.v,(tC j.v N O))] hR ⟨((TV.num _ j.id.toNat (by first|assumption|decide|(unfold W64;omega))).le hV).le D,(b6.le hV).le D,trivial⟩ (show 2≤R47 by decide)⟩
  ·refine wM 178 (fun u=>#[u 7]) fun u V hV q W hW=>?_
   have e7:=q 7 kR rfl;obtain⟨g7,q7,t7⟩:=e7;rw[q7];exact Calls.retN hW (dW _ _ _ W) ⟨g7,rfl,t7⟩
  ·refine wN [20] (fun u=>[u 8]) fun u V hV q=>?_
   have e8:=q 8 kR rfl;obtain⟨g8,q8,t8⟩:=e8;refine⟨[(I6 4),(U6 0),(St []),(Sl g8 0 2 2),(.bool false)],89,fun r=>(Sl r 0 1 1),?_,fun g V' D hR=>?_⟩
   ·rw[q8];kernel_rfl
   exact⟨g,rfl,eZ.lit [((Itm.dA [(Itm.cA j.id.toNat),j.v]),[(I6 4),(U6 0),(St []),(Sl g8 0 2 2),(.bool false)])] hR ⟨(TV.list 2 t8).le D,trivial⟩ (show 1≤R47 by decide)⟩
  intro u3 V3 b4 A;have k8:=E.le b4;have X:=A 7 rfl;obtain⟨e2,b8,h1⟩:=X;refine qX 19 b8 ?_;have Y:=A 8 rfl;obtain⟨e3,b9,h2⟩:=Y;refine qX 20 b9 ?_;have Z:=A 9 rfl;obtain⟨e4,c0,c4⟩:=Z;refine qX 21 c0 ?_;obtain⟨h4,h7,L9,e9,a6,J,c7⟩:=c4.open (by simp);cases e9;have a7:L9.length=1:=by rw[←Az (f:=Prod.fst),a6];rfl
  refine lN 2 89 87 64 1 1 E.ok (fun W hM=>View.range_of c7 hM.view) (by rw[J.flat_len,a7]) J.one (by decide) (fun c2 b5=>?_);refine zq 1 (zn (zr (zq 1 (eC 23 ((x.i:Int)+1) (zq 1 (zn ?_))))));refine nx ⟨x.i+1,c2,(x.xs++(L9.flatMap Prod.snd)),x.L++L9,V3⟩ ?_ ?_ (d:=fun _ h=>Mem.sub (By (Ay _ _) (Cd _)) (h.eqv (show _=((([(I,.cells [(I6 0),(U6 0),(St []),S0,(.bool false)].toArray 89 (0,0))]:aN)++([(bK b2 [(I6 j.id),(I6 j.v.k),(N6 j.v.n),(St j.v.s),(.slice N j.v.l.length O),(.bool j.v.o)] 92)]:aN))++(c2.B 89 (x.xs++(L9.flatMap Prod.snd))))from by kernel_rfl)))
  ·exact⟨by show x.i+1≤_;omega,(View.le_trans L b4),RwR.app k8 (aAk J) a7 b5,by rw[Br,b7,a6,dU Pa.tree M];rfl⟩
  ·show l.length-(x.i+1)<l.length-x.i;omega
 ·refine aK (zQ 1 ?_);refine sE 24 x.r x.xs 5 x.i [(I,.cells [(I6 0),(U6 0),(St []),S0,(.bool false)].toArray 89 (0,0))] 89 kR E.ok kR (fun C k h3 G a8 e5=>?_);have e1:=E.le G;have F:=(e1.done (by decide) a8 (View.le_refl _) (by unfold R47;omega)).ts;rw[b7,Bf oW]at F;rw[show x.i=(l.map Pa.tree).length by rw[Az];omega];refine cY 178 #[(.slice C (l.map Pa.tree).length k)] (.agg #[(I6 4),(U6 0),(St []),(.slice C (l.map Pa.tree).length k),(.bool false)]) (fun W hM=>dW _ _ _ W) ?_;refine aX 0 I (zn (aA (dL [1] [(I,5)] [(.agg #[(I6 4),(U6 0),(St []),(.slice C (l.map Pa.tree).length k),(.bool false)])] (fun W' hM=>?_))));exact aH hM (View.le_trans L G) ⟨[(I6 4),(U6 0),(St []),(.slice C (l.map Pa.tree).length k),(.bool false)],rfl,((TV.list k F)).cast (by simp only[fV,h0,bs,bQ,reduceIte,Aj])⟩
theorem aIT(a:As)(O C N:Option Addr)(D F G:Nat)(w:World){U:View}(hU:See U w)(hA:aAK U O C N a)(hs:cV a=true):CP 135 #[asV a O C N D F G] w (fO w U (aQW a.items)):=by
 have k5:=hA.t;have k6:=hA.p;have k7:=hA.r;unfold cV at hs;simp only[Ae,Ak]at hs;obtain⟨⟨⟨⟨⟨⟨⟨⟨h1,h2⟩,h3⟩,h4⟩,h5⟩,h6⟩,h7⟩,h8⟩,h9⟩:=hs;have l8:=gM h3;have l5:=dZ h4;have l6:=fG h7;have l7:∀l∈a.r,(∀p∈l,0≤p.id∧p.id≤65535)∧l.length≤4:=fun l hl=>by
  have:=Ao.1 h9 l hl;unfold aAN at this;simp only[Ae,Ak]at this;exact⟨fG this.2,this.1.2⟩
 have m3:=idU l5;refine dE 67 Tryz.func135 hU ?_;refine zs (zr (aW (fun q=>(zq 1 (zn (zQ 2 (zn (zs (zB [0,1,0,0] [(q,1)] (zn (aB (eY (α:=Gp2) (fun x=>[1,2,3,4,11,12,13].zip [(Pt q 0),S0,(x.r.V x.i),(x.r2.V x.i),(.slice O a.t.length D),(L6 a.t.length),(L6 x.i)]) (fun x=>x.V) (fun x=>([(bK q (tG a O C N D F G) 96)]++x.r.B 89 x.xs++x.r2.B 89 x.xs2)) (fun x=>x.i≤a.t.length∧View.le U x.V∧RwR TV 5 x.V x.r x.xs x.i x.L∧RwR TV 5 x.V x.r2 x.xs2 x.i x.L2∧x.L.map Prod.fst=(a.t.take x.i).map (fun n=>Itm.cA n.toNat)∧x.L2.map Prod.fst=(a.r.take x.i).map fV) (fun x=>a.t.length-x.i) ⟨0,Rw.nil,[],[],Rw.nil,[],[],U⟩ ?_ ?_ (hm:=fun _ h=>h.eqv (Dn kR ((Aj (([(bK q (tG a O C N D F G) 96)]:aN)++[])).trans (Aj ([(bK q (tG a O C N D F G) 96)]:aN))).symm))))))))))))))
 ·exact⟨Ap _,View.le_refl _,RwR.nil,RwR.nil,rfl,rfl⟩
 intro x hx;obtain⟨r5,a8,c0,X,j8,e1⟩:=hx;refine zQ 1 (zn (zs (cE ((x.i:Int)<(a.t.length:Int)) (fun h0 k8=>?_) (fun h0 k8=>?_))))
 ·refine zk (zs (aB (zQ 1 ?_)));obtain⟨L,e2⟩:∃y,(a.t)[x.i]? =some y:=⟨(a.t)[x.i]'oW,Aa _⟩;obtain⟨b1,f1,rfl,l2⟩:=(k5.le a8).one e2;have c9:=l8 L (Ad e2);refine cD (Pt b1 (f1+x.i)) (eQ _ 3 _ _ rfl b1 f1 a.t.length D x.i .i64 kR kR (by first|assumption|omega) kR kR) ?_;refine zV b1 (f1+x.i) (I6 L) l2 3 (.tmp 16) _ Tryz.underlying3 rfl ?_;refine zq 2 (zn (zQ 3 (dS 20 (U6 (IntKind.u64.wrap L)) (N6 L.toNat) (Ag (Value.int .u64) (idU c9)) ?_)));refine cY 40 #[(N6 L.toNat)] (iV L.toNat) (fun W r=>dN _ W) ?_;refine fH 1 (fun b2=>?_);refine aAU [(bK q [(Sl b1 f1 a.t.length D),(I6 a.c),(I6 a.s.s),(St a.s.l),(N6 a.s.n),(N6 a.s.v),(.slice C a.p.length F),(.slice N a.r.length G)] 96),(b2,.cells (iN L.toNat).toArray 89 (0,0))] (x.r.B 89 x.xs) (x.r2.B 89 x.xs2) kR ?_;refine gW x.r x.xs x.i ([(bK q [(Sl b1 f1 a.t.length D),(I6 a.c),(I6 a.s.s),(St a.s.l),(N6 a.s.n),(N6 a.s.v),(.slice C a.p.length F),(.slice N a.r.length G)] 96),(b2,.cells (iN L.toNat).toArray 89 (0,0))]++x.r2.B 89 x.xs2) 89 87 5 64 1 kR c0.ok (.tmp 18) (.tmp 22) rfl kR b2 0 1 (iN L.toNat) kR (fun W r=>eF r 1 b2 (iN L.toNat) 89 kR) rfl (Ao.1 kR) (by decide) (by unfold maxLen;omega) oW kR kR kR kR kR (fun r3 m0=>?_);refine zq 1 (zn (zr (cG [0,0,1,0] [(q,1)] ?_)));obtain⟨y4,e3⟩:∃y,(a.r)[x.i]? =some y:=⟨(a.r)[x.i]'oW,Aa _⟩;obtain⟨b4,f4,q9,rfl,l3,l1⟩:=(k7.le a8).at_ x.i y4 e3;obtain⟨a4,c4,rfl,l9⟩:=l1;have l4:=View.range1 l3;have b8:=l7 y4 (Ad e3);refine cD (Pt b4 (f4+x.i)) (eQ _ 93 _ _ rfl b4 f4 a.r.length G x.i .i64 kR kR (by first|assumption|omega) kR kR) ?_
  refine zV b4 (f4+x.i) (.slice a4 y4.length c4) l4 93 (.tmp 28) _ Tryz.underlying93 rfl ?_;refine mC 176 #[(.slice a4 y4.length c4)] (mA (fV y4)) (fun W r=>aFe y4 _ _ W r.view l9 b8.1 (by have:=b8.2;omega)) (fun v5 V5 b9 l0=>?_);have m4:=(TV.num _ L.toNat (by first|assumption|decide|(unfold W64;omega))).le b9;have m5:=X.le b9;have m6:=c0.le b9;obtain⟨r0,rfl,j7⟩:=l0;obtain⟨a5,c5,rfl,q3,r2,r4,r1⟩:=j7.form;refine fH 2 (fun b3=>?_);refine aAU [(bK q [(Sl b1 f1 a.t.length D),(I6 a.c),(I6 a.s.s),(St a.s.l),(N6 a.s.n),(N6 a.s.v),(.slice C a.p.length F),(Sl b4 f4 a.r.length G)] 96),(b2,.cells (iN L.toNat).toArray 89 (0,0)),(bK b3 (tC (fV y4) a5 c5) 89)] (x.r2.B 89 x.xs2) (r3.B 89 (x.xs++(iN L.toNat))) kR ?_;refine gW x.r2 x.xs2 x.i ([(bK q [(Sl b1 f1 a.t.length D),(I6 a.c),(I6 a.s.s),(St a.s.l),(N6 a.s.n),(N6 a.s.v),(.slice C a.p.length F),(Sl b4 f4 a.r.length G)] 96),(b2,.cells (iN L.toNat).toArray 89 (0,0)),(bK b3 (tC (fV y4) a5 c5) 89)]++r3.B 89 (x.xs++(iN L.toNat))) 89 87 5 64 1 kR X.ok (.tmp 24) (.tmp 31) rfl kR b3 0 1 (tC (fV y4) a5 c5) kR (fun W r=>eF r 2 b3 (tC (fV y4) a5 c5) 89 kR) rfl (Ao.1 kR) (by decide) (by unfold maxLen;omega) oW kR kR kR kR kR (fun k1 j3=>?_);refine zq 1 (zn (zr (zq 1 (eC 33 ((x.i:Int)+1) (zq 1 (zn ?_))))));refine nx ⟨x.i+1,r3,(x.xs++(iN L.toNat)),x.L++[((Itm.cA L.toNat),(iN L.toNat))],k1,(x.xs2++(tC (fV y4) a5 c5)),x.L2++[((fV y4),(tC (fV y4) a5 c5))],V5⟩ ?_ ?_ (d:=fun _ h=>Mem.sub (By (By (Ay _ _) (Cd _)) (Cd _)) (h.eqv (show _=(((([(bK q [(Sl b1 f1 a.t.length D),(I6 a.c),(I6 a.s.s),(St a.s.l),(N6 a.s.n),(N6 a.s.v),(.slice C a.p.length F),(Sl b4 f4 a.r.length G)] 96)]:aN)++([(b2,.cells (iN L.toNat).toArray 89 (0,0)),(bK b3 (tC (fV y4) a5 c5) 89)]:aN))++(r3.B 89 (x.xs++(iN L.toNat))))++(k1.B 89 (x.xs2++(tC (fV y4) a5 c5))))from by kernel_rfl)))
  ·exact⟨by show x.i+1≤_;omega,(View.le_trans a8 b9),RwR.snoc m6 m4 m0,RwR.snoc m5 j7 j3,by rw[Br,j8,dU _ e2];rfl,by rw[Br,e1,dU _ e3];rfl⟩
  ·show a.t.length-(x.i+1)<a.t.length-x.i;omega
 ·refine aK (zB [0,1] [(q,4)] (pO (fun W r=>oI a.s W r.view hA.s h5) (fun r6 q4 V e5=>?_)));have m7:=(k6.le a8).le V;have m8:=c0.le V;have m9:=X.le V;obtain⟨p2,rfl,c7⟩:=e5;obtain⟨c,f,rfl,m1,p9,q1,p7⟩:=c7.form;refine zq 3 (fH 1 (fun k=>?_));refine aX 1 k ?_;refine aAU [(bK q (tG a O C N D F G) 96),(bK k (tC a.s.tree c f) 89)] (x.r.B 89 x.xs) (x.r2.B 89 x.xs2) kR ?_;refine sE 3 x.r x.xs 5 x.i ([(bK q (tG a O C N D F G) 96),(bK k (tC a.s.tree c f) 89)]++x.r2.B 89 x.xs2) 89 kR c0.ok kR (fun j g q5 I e7 p4=>?_);have n0:=m7.le I;have j9:=c7.le I;have k0:=m9.le I;have n1:=m8.le I;have c1:=(n1.done (by decide) e7 (View.le_refl _) (by unfold R47;omega)).ts;rw[j8,Bf oW]at c1;have j0:x.i=(a.t.map (fun n:Int=>Itm.cA n.toNat)).length:=by rw[Az];omega
  refine zq 1 (zn (zs ?_));have a1:=TV.list g c1;rw[←j0]at a1;refine iM 3 [0,1,0,3,1,1,1,4] [(q,1),(k,5)] [.val (.agg #[(I6 4),(U6 0),(St []),(.slice j x.i g),(.bool false)]),.val (N6 a.c.toNat),.val (iV a.c.toNat),.val (.agg #[(I6 0),(U6 0),(St []),S0,(.bool false)])] ⟨?_,?_,?_,?_,trivial⟩ ?_
  ·exact vC 178 #[(.slice j x.i g)] (fun W r=>dW _ _ _ W)
  ·exact vE (U6 (IntKind.u64.wrap a.c)) (Ag (Value.int .u64) m3)
  ·exact vC 40 #[(N6 a.c.toNat)] (fun W r=>dN _ W)
  ·exact vC 40 #[(U6 0)] (fun W r=>dN _ W)
  refine fH 2 (fun a7=>?_);refine zq 1 (zn (zs (zB [0,1,0,0] [(q,1)] (zn (cE ((a.p.length:Int)>0) (fun h1 k9=>?_) (fun h1 k9=>?_))))))
  ·refine zQ 1 (cY 40 #[(U6 1)] (.agg #[(I6 0),(U6 1),(St []),S0,(.bool false)]) (fun W r=>dN _ W) ?_);refine zq 1 (aX 2 a7 (zn (zr (cG [0,0,1] [(q,1)] (mC 176 #[(.slice C a.p.length F)] (mA (fV a.p)) (fun W r=>aFe a.p _ _ W r.view n0 l6 oW) (fun r7 q6 J e6=>?_))))));have n2:=j9.le J;have n5:=a1.le J;have n7:=(TV.num _ a.c.toNat (by first|assumption|decide|(unfold W64;omega))).le J;have n8:=(TV.num _ 1 (by first|assumption|decide|(unfold W64;omega))).le J;have n9:=k0.le J;obtain⟨p3,rfl,c8⟩:=e6;obtain⟨u,A,rfl,m2,q0,q2,p8⟩:=c8.form;refine fH 3 (fun Y=>?_);refine aGK [(bK q (tG a O C N D F G) 96),(bK k (tC a.s.tree c f) 89)] ([(bK Y (tC (fV a.p) u A) 89)]++x.r2.B 89 x.xs2) (a7,.cells [(I6 4),(U6 0),(St []),(.slice j x.i g),(.bool false),(I6 0),(N6 a.c.toNat),(St []),S0,(.bool false),(I6 0),(U6 1),(St []),S0,(.bool false),(I6 a.s.tree.k),(N6 a.s.tree.n),(St a.s.tree.s),(.slice c a.s.tree.l.length f),(.bool a.s.tree.o)].toArray 89 (0,0)) kR ?_;refine gW (Rw.row a7 4 []) [(I6 4),(U6 0),(St []),(.slice j x.i g),(.bool false),(I6 0),(N6 a.c.toNat),(St []),S0,(.bool false),(I6 0),(U6 1),(St []),S0,(.bool false),(I6 a.s.tree.k),(N6 a.s.tree.n),(St a.s.tree.s),(.slice c a.s.tree.l.length f),(.bool a.s.tree.o)] 4 ([(bK q (tG a O C N D F G) 96),(bK k (tC a.s.tree c f) 89),(bK Y (tC (fV a.p) u A) 89)]++x.r2.B 89 x.xs2) 89 87 5 64 1 kR ⟨rfl,rfl,Bg _,by decide⟩ (.tmp 56) (.tmp 60) rfl kR Y 0 1 (tC (fV a.p) u A) kR (fun W r=>eF r 2 Y (tC (fV a.p) u A) 89 kR) rfl (Ao.1 kR) (by decide) (by unfold maxLen;omega) oW kR kR kR kR kR (fun k2 j4=>?_)
   refine zq 1 (zn (zQ 2 ?_));refine aAU [(bK q (tG a O C N D F G) 96),(bK k (tC a.s.tree c f) 89),(bK Y (tC (fV a.p) u A) 89)] (x.r2.B 89 x.xs2) (k2.B 89 ([(I6 4),(U6 0),(St []),(.slice j x.i g),(.bool false),(I6 0),(N6 a.c.toNat),(St []),S0,(.bool false),(I6 0),(U6 1),(St []),S0,(.bool false),(I6 a.s.tree.k),(N6 a.s.tree.n),(St a.s.tree.s),(.slice c a.s.tree.l.length f),(.bool a.s.tree.o)]++(tC (fV a.p) u A))) kR ?_;refine sE 63 x.r2 x.xs2 5 x.i ([(bK q (tG a O C N D F G) 96),(bK k (tC a.s.tree c f) 89),(bK Y (tC (fV a.p) u A) 89)]++k2.B 89 ([(I6 4),(U6 0),(St []),(.slice j x.i g),(.bool false),(I6 0),(N6 a.c.toNat),(St []),S0,(.bool false),(I6 0),(U6 1),(St []),S0,(.bool false),(I6 a.s.tree.k),(N6 a.s.tree.n),(St a.s.tree.s),(.slice c a.s.tree.l.length f),(.bool a.s.tree.o)]++(tC (fV a.p) u A))) 89 kR X.ok kR (fun a6 Z q7 B e8 p5=>?_);have o0:=n2.le B;have o1:=n5.le B;have o2:=n7.le B;have o3:=n8.le B;have o4:=c8.le B;have o5:=n9.le B;have c2:=(o5.done (by decide) e8 (View.le_refl _) (by unfold R47;omega)).ts;rw[e1,Bf oW]at c2;have j1:x.i=(a.r.map fV).length:=by rw[Az];omega
   have b6:=TV.list Z c2;rw[←j1]at b6;refine cY 178 #[(.slice a6 x.i Z)] (.agg #[(I6 4),(U6 0),(St []),(.slice a6 x.i Z),(.bool false)]) (fun W r=>dW _ _ _ W) ?_;refine fH 3 (fun e4=>?_);refine lN 4 89 87 64 1 1 j4 (fun W r=>eF r 3 e4 [(I6 4),(U6 0),(St []),(.slice a6 x.i Z),(.bool false)] 89 kR) rfl (Ao.1 kR) (by decide) (fun k3 j5=>?_);refine zq 1 (zn (aA (aO [2] [(k3.V ((4+1)+1))] (fun W' r=>?_))));have e0:a.items=[(Itm.dA (a.t.map (fun n:Int=>Itm.cA n.toNat))),(Itm.cA a.c.toNat),(Itm.cA 1),a.s.tree,(fV a.p),(Itm.dA (a.r.map fV))]:=by unfold As.items;rw[An oW];rfl
   rw[e0];exact aGW (r.eqv (show _=([(bK q (tG a O C N D F G) 96),(bK k (tC a.s.tree c f) 89),(bK Y (tC (fV a.p) u A) 89),(e4,.cells [(I6 4),(U6 0),(St []),(.slice a6 x.i Z),(.bool false)].toArray 89 (0,0))]:aN)++k3.B 89 (([(I6 4),(U6 0),(St []),(.slice j x.i g),(.bool false),(I6 0),(N6 a.c.toNat),(St []),S0,(.bool false),(I6 0),(U6 1),(St []),S0,(.bool false),(I6 a.s.tree.k),(N6 a.s.tree.n),(St a.s.tree.s),(.slice c a.s.tree.l.length f),(.bool a.s.tree.o)]++(tC (fV a.p) u A))++[(I6 4),(U6 0),(St []),(.slice a6 x.i Z),(.bool false)])from by kernel_rfl)) j5 (View.le_trans (View.le_trans (View.le_trans (View.le_trans a8 V) I) J) B) [((Itm.dA (a.t.map (fun n:Int=>Itm.cA n.toNat))),[(I6 4),(U6 0),(St []),(.slice j x.i g),(.bool false)]),((Itm.cA a.c.toNat),(iN a.c.toNat)),((Itm.cA 1),[(I6 0),(U6 1),(St []),S0,(.bool false)]),(a.s.tree,(tC a.s.tree c f)),((fV a.p),(tC (fV a.p) u A)),((Itm.dA (a.r.map fV)),[(I6 4),(U6 0),(St []),(.slice a6 x.i Z),(.bool false)])] kR ⟨o1,o2,o3,o0,o4,b6,trivial⟩ _ rfl rfl (by unfold R47;decide)
  ·refine zk (zQ 2 ?_);refine sE 63 x.r2 x.xs2 5 x.i [(bK q (tG a O C N D F G) 96),(bK k (tC a.s.tree c f) 89),(a7,.cells [(I6 4),(U6 0),(St []),(.slice j x.i g),(.bool false),(I6 0),(N6 a.c.toNat),(St []),S0,(.bool false),(I6 0),(U6 0),(St []),S0,(.bool false),(I6 a.s.tree.k),(N6 a.s.tree.n),(St a.s.tree.s),(.slice c a.s.tree.l.length f),(.bool a.s.tree.o)].toArray 89 (0,0))] 89 kR X.ok kR (fun M E q8 K e9 p6=>?_);have o6:=j9.le K;have o7:=a1.le K;have o8:=(TV.num _ a.c.toNat (by first|assumption|decide|(unfold W64;omega))).le K;have o9:=(TV.num _ 0 (by first|assumption|decide|(unfold W64;omega))).le K;have p1:=k0.le K;have c6:=(p1.done (by decide) e9 (View.le_refl _) (by unfold R47;omega)).ts;rw[e1,Bf oW]at c6;have j2:x.i=(a.r.map fV).length:=by rw[Az];omega
   have b7:=TV.list E c6;rw[←j2]at b7;refine cY 178 #[(.slice M x.i E)] (.agg #[(I6 4),(U6 0),(St []),(.slice M x.i E),(.bool false)]) (fun W r=>dW _ _ _ W) ?_;refine aW (fun b5=>?_);refine aGK [(bK q (tG a O C N D F G) 96),(bK k (tC a.s.tree c f) 89)] ([(b5,.cells [(I6 4),(U6 0),(St []),(.slice M x.i E),(.bool false)].toArray 89 (0,0))]) (a7,.cells [(I6 4),(U6 0),(St []),(.slice j x.i g),(.bool false),(I6 0),(N6 a.c.toNat),(St []),S0,(.bool false),(I6 0),(U6 0),(St []),S0,(.bool false),(I6 a.s.tree.k),(N6 a.s.tree.n),(St a.s.tree.s),(.slice c a.s.tree.l.length f),(.bool a.s.tree.o)].toArray 89 (0,0)) kR ?_;refine gW (Rw.row a7 4 []) [(I6 4),(U6 0),(St []),(.slice j x.i g),(.bool false),(I6 0),(N6 a.c.toNat),(St []),S0,(.bool false),(I6 0),(U6 0),(St []),S0,(.bool false),(I6 a.s.tree.k),(N6 a.s.tree.n),(St a.s.tree.s),(.slice c a.s.tree.l.length f),(.bool a.s.tree.o)] 4 [(bK q (tG a O C N D F G) 96),(bK k (tC a.s.tree c f) 89),(b5,.cells [(I6 4),(U6 0),(St []),(.slice M x.i E),(.bool false)].toArray 89 (0,0))] 89 87 5 64 1 kR ⟨rfl,rfl,Bg _,by decide⟩ (.tmp 62) (.tmp 65) rfl kR b5 0 1 [(I6 4),(U6 0),(St []),(.slice M x.i E),(.bool false)] kR (fun W r=>eF r 2 b5 [(I6 4),(U6 0),(St []),(.slice M x.i E),(.bool false)] 89 kR) rfl (Ao.1 kR) (by decide) (by unfold maxLen;omega) oW kR kR kR kR kR (fun k4 j6=>?_);refine zq 1 (zn (aA (aO [2] [(k4.V (4+1))] (fun W' r=>?_))));have e0:a.items=[(Itm.dA (a.t.map (fun n:Int=>Itm.cA n.toNat))),(Itm.cA a.c.toNat),(Itm.cA 0),a.s.tree,(Itm.dA (a.r.map fV))]:=by unfold As.items;rw[Ar oW];rfl
   rw[e0];exact aGW (r.eqv (show _=([(bK q (tG a O C N D F G) 96),(bK k (tC a.s.tree c f) 89),(b5,.cells [(I6 4),(U6 0),(St []),(.slice M x.i E),(.bool false)].toArray 89 (0,0))]:aN)++k4.B 89 ([(I6 4),(U6 0),(St []),(.slice j x.i g),(.bool false),(I6 0),(N6 a.c.toNat),(St []),S0,(.bool false),(I6 0),(U6 0),(St []),S0,(.bool false),(I6 a.s.tree.k),(N6 a.s.tree.n),(St a.s.tree.s),(.slice c a.s.tree.l.length f),(.bool a.s.tree.o)]++[(I6 4),(U6 0),(St []),(.slice M x.i E),(.bool false)])from by kernel_rfl)) j6 (View.le_trans (View.le_trans (View.le_trans a8 V) I) K) [((Itm.dA (a.t.map (fun n:Int=>Itm.cA n.toNat))),[(I6 4),(U6 0),(St []),(.slice j x.i g),(.bool false)]),((Itm.cA a.c.toNat),(iN a.c.toNat)),((Itm.cA 0),[(I6 0),(U6 0),(St []),S0,(.bool false)]),(a.s.tree,(tC a.s.tree c f)),((Itm.dA (a.r.map fV)),[(I6 4),(U6 0),(St []),(.slice M x.i E),(.bool false)])] kR ⟨o7,o8,o9,o6,b7,trivial⟩ _ rfl rfl (by unfold R47;decide)
structure As.small (a : As) : Prop where
 s:a.s.l.length≤R47
 p:∀x∈a.p,x.v.s.length≤R47
 r:∀l∈a.r,∀x∈l,x.v.s.length≤R47
theorem aAK.small{U:View}{j k q:Option Addr}{a:As}(h:aAK U j k q a):a.small:=
 ⟨h.s.l,fun x g=>by
  obtain⟨cs,r,_,f⟩:=h.p.all g;obtain⟨_,_,_,_,_,d,_⟩:=f.form;exact d,fun l u x g=>by
  obtain⟨cs,a,c,_,y⟩:=h.r.all u;obtain⟨cs,r,_,f⟩:=y.all g;obtain⟨_,_,_,_,_,d,_⟩:=f.form;exact d⟩
theorem aM7{B : Nat} : ∀ (l : List Itm.Tr), (∀ x ∈ l, Itm.szT x ≤ B) → Itm.szL l ≤ l.length * B
 | [],_=>by simp[Itm.szL]
 |x::l,h=>by
  have c:=h x Ck;have d:=aM7 l fun y a=>h y (Ce _ a)
  rw[Itm.szL,Ah,Dq];omega
theorem aDi{B n:Nat}{l:List Itm.Tr}(a:l.length≤n)(h:∀x∈l,Itm.szT x≤B):Itm.szT (Itm.dA l)≤1+n*B:=by
 have c:=aM7 l h;have d:l.length*B≤n*B:=Nat.mul_le_mul_right B a;show Itm.szT (.mk 4 0 [] l false)≤_;rw[Itm.szT];simp only[Bd];omega
theorem aFo(n:Nat):Itm.szT (Itm.cA n)≤1:=by
 show Itm.szT (.mk 0 n [] [] false)≤1;rw[Itm.szT,Itm.szL];simp
theorem aGJ{v:Itm.Tr}(a:(v.k==0||v.k==2)=true)(h:Itm.aJ 8 v=true)(d:v.s.length≤R47):Itm.szT v≤1+R47:=by
 rw[Itm.aJ,Ae]at h;have c:v.l.length=0:=by
  rcases Itm.lG h.1 with⟨_,_,h,_⟩|⟨_,_,h,_⟩|⟨_,_,h,_⟩|⟨h,_⟩
  ·exact h
  ·exact h
  ·exact h
  ·rw[h]at a;cases a
 obtain⟨k,n,s,l,o⟩:=v;obtain rfl:=Be.1 (show l.length=0 from c);have f:s.length≤R47:=d;rw[Itm.szT,Itm.szL];omega
theorem aDh{l:List Pa}{n:Nat}(f:l.length≤n)(h:fR l=true)(g:∀x∈l,x.v.s.length≤R47):Itm.szT (fV l)≤1+n*(1+2*(1+R47)):=by
 unfold fR at h;rw[Ae]at h;refine aDi (by rw[Az];exact f) fun x j=>?_
 obtain⟨p,c,rfl⟩:=Co.1 j;refine aDi (n:=2) (by simp) fun y d=>?_
 have a:=Ao.1 h.1 p c;unfold paB at a;rw[Ae]at a;simp only[Bh,Bt,Ct]at d;rcases d with rfl|rfl
 ·exact El (aFo _) (Fv _ _)
 ·exact aGJ a.1 a.2 (g p c)
theorem aJb{e:Ei}(h:e.l.length≤R47):Itm.szT e.tree≤10+R47:=by
 unfold R47 at *;unfold Ei.tree;split
 ·simp[Itm.dA,Itm.cA,Itm.szT,Itm.szL]
 ·split
  ·simp[Itm.dA,Itm.cA,Itm.szT,Itm.szL]
  ·simp[Itm.dA,Itm.cA,aHE,Itm.szT,Itm.szL];omega
theorem aMn{a:As}(f:a.small)(h:cV a=true):∀x∈a.items,Itm.szT x≤aAL:=by
 unfold cV at h;simp only[Ae,Ak]at h;obtain⟨⟨⟨⟨⟨⟨⟨⟨u,j⟩,y⟩,A⟩,B⟩,k⟩,q⟩,C⟩,r⟩:=h;have D:Itm.szT (aM6 a.t)≤1+16*1:=aDi (by rw[Az];exact j) fun x c=>by
  obtain⟨n,_,rfl⟩:=Co.1 c;exact aFo _
 have E:=aDh k q f.p;have F:Itm.szT (Itm.dA (a.r.map fV))≤1+16*(1+4*(1+2*(1+R47))):=aDi (by rw[Az];omega) fun x c=>by
  obtain⟨l,g,rfl⟩:=Co.1 c;have:=Ao.1 r l g;unfold aAN at this;simp only[Ae,Ak]at this;exact aDh this.1.2 this.2 (f.r l g)
 have G:=aJb f.s;have d:=aFo;intro x c;unfold aAL;unfold R47 at *;unfold As.items at c;split at c
 ·simp only[Bh,Bt,Ct]at c;rcases c with rfl|rfl|rfl|rfl|rfl
  ·omega
  ·have:=d a.c.toNat;omega
  ·have:=d 0;omega
  ·omega
  ·omega
 ·simp only[Bh,Bt,Ct]at c;rcases c with rfl|rfl|rfl|rfl|rfl|rfl
  ·omega
  ·have:=d a.c.toNat;omega
  ·have:=d 1;omega
  ·omega
  ·omega
  ·omega
theorem aKg(a:As):a.items.length≤6:=by
 unfold As.items;split<;>simp
theorem aGu{l:List Itm.Tr}{i:Nat}{y:Itm.Tr}(h:l[i]? =some y):Itm.aY (l.take (i+1))=Itm.aY (l.take i)++Itm.aG y:=Itm.aGt h
theorem aDY(a:As)(r k q:Option Addr)(J G I:Nat)(w:World){U:View}(hU:See U w)(u:aAK U r k q a)(hs:cV a=true):CP 90 #[asV a r k q J G I] w (Ret (.string (B a.bytes)) w):=by
 have b3:=u.t;have b4:=u.p;have b7:=u.r;have a8:=aMn u.small hs;have a7:=rP hs (d:=4);have b9:=aKg a;refine dE 25 Tryz.func90 hU ?_;refine zs (zr (aW (fun L=>(zq 1 (zn (zQ 1 (zn (zs (zB [1] [(L,8)] (mC 135 #[(asV a r k q J G I)] (aQW a.items) (fun W A=>aIT a _ _ _ _ _ _ W A.view u hs) (fun v1 V1 b8 Y=>?_)))))))))));obtain⟨a1,c1,rfl,E⟩:=Y;refine zq 2 (zn (aB (eY (α:=Nat×List UInt8) (fun x=>[2,3,9,10,11].zip [(St []),(St x.2),(.slice a1 a.items.length c1),(L6 a.items.length),(L6 x.1)]) (fun x=>V1) (fun x=>[(bK L (tG a r k q J G I) 96)]) (fun x=>x.1≤a.items.length∧x.2=Itm.aY (a.items.take x.1)∧x.2.length≤800000000000000000*x.1) (fun x=>a.items.length-x.1) (0,[]) ?_ ?_)))
 ·exact⟨Ap _,rfl,Ap _⟩
 intro x hx;obtain⟨c6,F,c7⟩:=hx;refine zQ 1 (zn (zs (cE ((x.1:Int)<(a.items.length:Int)) (fun h0 X=>?_) (fun h0 X=>?_))))
 ·refine zk (zs (aB (zs (zr ?_))));obtain⟨c,g⟩:∃y,(a.items)[x.1]? =some y:=⟨(a.items)[x.1]'oW,Aa _⟩;obtain⟨M,V,b2,rfl,Z,D⟩:=E.at_ x.1 c g;obtain⟨K,O,rfl,b1,c2,c4,c0⟩:=D.form;have f:=a8 c (Ad g);have C:=a7 c (Ad g);have a6:=Itm.cI c;have j:=f;unfold aAL at j;refine cD (Pt M (V+x.1*5)) (rIx 89 rfl M V a.items.length c1 x.1 5) ?_;refine zU M (V+x.1*5) (tC c K O) Z 89 (.tmp 13) _ Tryz.underlying89 rfl ?_;refine aW (fun N=>(aX 1 N (zn (zB [2] [(N,5)] (cY 136 #[(tV c K O)] (.tuple #[(St (Itm.aG c)),(I6 0)]) (fun W A=>oG c _ A.view D C f) ?_)))));refine zq 5 (zn (zr (zq 2 (cD (St (x.2++(Itm.aG c))) (cB _ _ _ _ rfl x.2 (Itm.aG c) kR kR oA) ?_))));refine zq 1 (zn (zr (zq 1 (eC 23 ((x.1:Int)+1) (zq 1 (zn ?_))))));refine nx (x.1+1,x.2++Itm.aG c) ?_ ?_ (d:=fun _ h=>Mem.sub (Ay _ _) (h.eqv (show _=([(bK L (tG a r k q J G I) 96)]:aN)++([(bK N (tC c K O) 89)]:aN)from by kernel_rfl)))
  ·exact⟨by show x.1+1≤_;omega,by show x.2++Itm.aG c=_;rw[F,aGu g],by show(x.2++Itm.aG c).length≤_;rw[Ac];omega⟩
  ·show a.items.length-(x.1+1)<a.items.length-x.1;omega
 ·refine aK (zQ 2 (zn (aA (aO [2] [(St x.2)] (fun W' A=>?_)))));refine⟨?_,A.below⟩;unfold As.bytes;rw[F,Bf oW];rfl
theorem aC6(a:As)(h f g:Option Addr)(j q r:Nat)(w:World){U:View}(D:See U w)(d:aAK U h f g a)(E:a.t.length≤j):CP 89 #[asV a h f g j q r] w (Ret (.bool a.right) w):=by
 have A:=d.t;have B:=d.p;have C:=d.r;have x:decide (a.bytes.length≤4000)=decide ((a.bytes.length:Int)≤4000):=Dl.2 oW;refine dE 11 Tryz.func89 D ?_;refine zs (zr (aW (fun u=>(zq 1 (zn (zB [1] [(u,8)] (cY 134 #[(asV a h f g j q r)] (.bool (cV a)) (fun W c=>aHK a _ _ _ _ _ _ W c.view d E) ?_)))))));refine zq 1 (cN 5 (cV a) (fun k=>?_) (fun k=>?_))
 ·refine cG [1] [(u,8)] (cY 90 #[(asV a h f g j q r)] (St a.bytes) (fun W c=>aDY a _ _ _ _ _ _ W c.view d k) ?_);refine zq 4 (zn (aA (aO [2] [(.bool (decide ((((a.bytes).length:Nat):Int)≤4000)))] (fun y c=>?_))));refine⟨?_,c.below⟩;unfold As.right;rw[x];simp only[dC,k,bs,bQ,reduceIte]
 ·refine zq 6 (zn (aA (aO [2] [(.bool false)] (fun y c=>?_))));refine⟨?_,c.below⟩;unfold As.right;rw[x];simp only[dC,k,bs,bQ,reduceIte]
def As.outB(a:As):List UInt8:=if a.right then a.bytes else[]
def As.outZ(a:As):Int:=if a.right then 0 else 1
theorem As.shaped{a:As}(h:a.right=true):cV a=true:=by
 unfold As.right at h;rw[Ae]at h;exact h.1
theorem aC9(a:As)(j g h:Option Addr)(k q r:Nat)(w:World){U:View}(D:See U w)(f:aAK U j g h a)(E:a.t.length≤k):CP 43 #[asV a j g h k q r] w (Ret (.tuple #[.string (B a.outB),.int .i64 a.outZ]) w):=by
 have y:=f.t;have A:=f.p;have C:=f.r;refine dE 9 Tryz.func43 D ?_;refine zs (zr (aW (fun u=>(zq 2 (zn (zs (zB [1] [(u,8)] (cY 89 #[(asV a j g h k q r)] (.bool a.right) (fun W c=>aC6 a _ _ _ _ _ _ W c.view f E) ?_))))))));refine zq 1 (zn (gN (!a.right) (fun d=>?_) (fun d=>?_)))
 ·refine zQ 2 (zn (aA (aO [2,3] [(St []),(I6 1)] (fun x c=>?_))));simp only[Bi,Bl]at d;refine⟨?_,c.below⟩;unfold As.outB As.outZ;simp only[dC,d,bs,bQ,reduceIte]
 ·refine zk (zB [1] [(u,8)] (cY 90 #[(asV a j g h k q r)] (St a.bytes) (fun W c=>aDY a _ _ _ _ _ _ W c.view f (As.shaped (by simpa using d))) ?_));refine zq 2 (zn (aA (aO [2,3] [(St a.bytes),(I6 0)] (fun x c=>?_))));simp only[Bi,Bl]at d;refine⟨?_,c.below⟩;unfold As.outB As.outZ;simp only[dC,d,bs,bQ,reduceIte]
theorem aHD(a:Addr)(s:List UInt8)(e:Er)(w:World):CP 359 #[.agg #[.string (B s),e.V a]] w (Ret (e.V a) w):=by
 refine dI 5 Tryz.func359 ?_;refine zs (zr (aW (fun c=>(zq 1 (zn (zB [0,1,0] [(c,1)] (zn (aA (iZ 2)))))))))
theorem aMr(a:Addr)(e:Er)(w:World):CP 221 #[e.V a,.iface 338 (.pointer (some a)),.bool true] w (Ret (.bool true) w):=by
 refine dI 54 Tryz.func221 ?_;refine zQ 1 (zn (aB (eY (α:=Er) (fun x=>[0,1,2,6].zip [(Er.V a x),(.iface 338 (.pointer (some a))),(.bool true),(.bool false)]) (fun x=>View.no) (fun x=>[]) (fun x=>True) (fun x=>x.deep) e ?_ ?_)))
 ·trivial
 intro x f;cases x with
 |leaf=>
  refine aB (zs (zQ 4 (cD (.bool true) (aN0 _ _ _ _ rfl 338 431 a kR kR Tryz.underlying208 Tryz.underlying338 kR kR) ?_)));refine zq 1 (zn (dP (zQ 1 (zn (aA (iZ 6))))))
 |wrap s2 c=>
  refine aB (zs (zQ 4 (cD (.bool false) (aNZ _ _ _ _ rfl 281 338 (.agg #[(St s2),(Er.V a c)]) (.pointer (some a)) kR kR Tryz.underlying208 (by decide)) ?_)));refine zq 1 (zn (dD (zk (zs (zQ 1 (cD (.tuple #[.nilIface,(.bool false)]) (aNX _ _ _ rfl 281 (.agg #[(St s2),(Er.V a c)]) kR Tryz.underlying302 kR kR) ?_))))));refine zq 5 (zn (zQ 6 (zn (dD (zk (zQ 1 (zn (aB (zs (zr (cD (.tuple #[(.iface 281 (.agg #[(St s2),(Er.V a c)])),(.bool true)]) (aNW _ _ _ rfl 281 (.agg #[(St s2),(Er.V a c)]) kR Tryz.underlying304 kR) ?_)))))))))));refine zq 2 (zn (dP (zQ 1 (zn (zQ 1 (dK (fun W d=>aHD a s2 c W) (zq 1 (zn (zQ 1 (cD (.bool false) (aAt .eql false _ _ _ _ rfl (Or.inl ⟨rfl,rfl⟩) kR a c kR kR) ?_))))))))));refine zn (dD (zk ?_));refine nx c ?_ ?_
  ·trivial
  ·show c.deep<c.deep+1;exact Nat.lt_succ_self _
theorem aKp(a:Addr)(e:Er)(w:World):CP 190 #[e.V a,.iface 338 (.pointer (some a))] w (Ret (.bool true) w):=by
 refine dI 22 Tryz.func190 ?_;refine zQ 1 (zn (zs (zQ 1 (cD (.bool false) (aAt .eql false _ _ _ _ rfl (Or.inl ⟨rfl,rfl⟩) kR a e kR kR) ?_))));refine zq 2 (cD (.bool false) (aJy .eql false _ _ _ _ rfl (Or.inl ⟨rfl,rfl⟩) kR 338 (.pointer (some a)) kR kR) ?_);refine zq 1 (zn (dD (zk (zQ 4 (zn (zQ 3 (dK (fun W c=>aMr a e W) (zq 1 (zn (aA (iZ 4)))))))))))
theorem aKn(a:Addr)(w:World):CP 190 #[.nilIface,.iface 338 (.pointer (some a))] w (Ret (.bool false) w):=by
 refine dI 22 Tryz.func190 ?_;refine zQ 1 (zn (zs (zQ 1 (cD (.bool true) (oU .eql true _ _ _ rfl (Or.inl ⟨rfl,rfl⟩) kR kR) ?_))));refine zq 4 (zn (dP (zQ 2 (cD (.bool false) (aLN _ _ _ _ rfl 338 (.pointer (some a)) kR kR Tryz.underlying208) ?_))));refine zq 1 (zn (aA (iZ 4)))
theorem aKo(a:Addr)(e:Er)(w:World){U:View}(d:See U w)(c:EF U a):CP 140 #[e.V a] w (Ret (.bool true) w):=by
 refine dE 6 Tryz.func140 d ?_;refine zQ 1 (zn (zQ 1 (zV 0 (0) (.iface 338 (.pointer (some a))) c 208 (.global 0) _ Tryz.underlying208 rfl ?_)));refine dK (fun W f=>aKp a e W) (zq 1 (zn (aA (iZ 2))))
theorem aIp(a:Addr)(w:World){U:View}(d:See U w)(c:EF U a):CP 140 #[.nilIface] w (Ret (.bool false) w):=by
 refine dE 6 Tryz.func140 d ?_;refine zQ 1 (zn (zQ 1 (zV 0 (0) (.iface 338 (.pointer (some a))) c 208 (.global 0) _ Tryz.underlying208 rfl ?_)));refine dK (fun W f=>aKn a W) (zq 1 (zn (aA (iZ 2))))
theorem rX(a:Addr)(l:List UInt8)(w:World){U:View}(d:See U w)(c:EF U a):CP 184 #[.string (B l)] w (Ret ((Er.wrap l .leaf).V a) w):=by
 refine dE 7 Tryz.func184 d ?_;refine zQ 1 (zn (zQ 1 (zV 0 (0) (.iface 338 (.pointer (some a))) c 208 (.global 0) _ Tryz.underlying208 rfl ?_)));refine zq 3 (zn (aA (iZ 2)))
theorem aJ0(r:Addr)(t:Itm.Tr)(c:Option Addr)(d:Nat)(w:World){U:View}(j:See U w)(h:(t.k==0)=true)(u:t.n<W64):CP 186 #[.agg #[.int .i64 t.k,.int .u64 t.n,.string (B t.s),.slice c t.l.length d,.bool t.o]] w (Ret (.tuple #[.int .i64 ((min t.n 65536:Nat):Int),.nilIface]) w):=by
 have f:(t.k !=0)=false:=by simpa using h
 have k:IntKind.i64.wrap (if 65536<(t.n:Int)then 65536 else(t.n:Int))=((min t.n 65536:Nat):Int):=by
  rw[IntWalk.i64_in _ (by split<;>omega)];split<;>omega
 refine dE 12 Tryz.func186 j ?_;refine zs (zr (aW (fun a=>(zq 2 (zn (zs (zB [0,1,0] [(a,1)] (zn (dO (t.k !=0) f ?_)))))))));refine zk (zB [0,1,0,0] [(a,1)] (dS 11 (I6 (IntKind.i64.wrap (if 65536<(t.n:Int)then 65536 else(t.n:Int)))) (L6 (min t.n 65536)) (Ag (Value.int .i64) k) ?_));refine zq 2 (zn (aA (aO [2,3] [(L6 (min t.n 65536)),.nilIface] (fun q g=>?_))));exact⟨rfl,g.below⟩
theorem aJ1(a:Addr)(t:Itm.Tr)(d:Option Addr)(g:Nat)(w:World){U:View}(q:See U w)(k:EF U a)(h:(t.k==0)=false):CP 186 #[.agg #[.int .i64 t.k,.int .u64 t.n,.string (B t.s),.slice d t.l.length g,.bool t.o]] w (Ret (.tuple #[.int .i64 0,(Er.wrap [110,117,109,98,101,114] .leaf).V a]) w):=by
 have j:(t.k !=0)=true:=by simpa using h
 refine dE 12 Tryz.func186 q ?_;refine zs (zr (aW (fun f=>(zq 2 (zn (zs (zB [0,1,0] [(f,1)] (zn (iA (t.k !=0) j ?_)))))))));refine zs (zr (dK (fun W c=>rX a [110,117,109,98,101,114] W c.view k) (zq 2 (zn (aA (aO [2,3] [(I6 0),(Er.V a (Er.wrap [110,117,109,98,101,114] .leaf))] (fun r c=>?_)))))));exact⟨rfl,c.below⟩
theorem pV(q:Addr)(t:Itm.Tr)(D:Option Addr)(k:Nat)(w:World){U:View}(hU:See U w)(hE:EF U q)(Y:eZ U D t.l)(a8:t.l.length≤1000000):CP 185 #[.agg #[.int .i64 t.k,.int .u64 t.n,.string (B t.s),.slice D t.l.length k,.bool t.o]] w (fO w U (aFh InR 1 q (aHF t))):=by
 refine dE 32 Tryz.func185 hU ?_;refine zs (zr (aW (fun E=>(zq 2 (zn (zQ 1 (zn (zs (zB [0,1,0,0] [(E,1)] (zn (aB (eY (α:=Gp Int) (fun x=>[2,3,4,10,11,12].zip [S0,.nilIface,(x.r.V x.i),(.slice D t.l.length k),(L6 t.l.length),(L6 x.i)]) (fun x=>x.V) (fun x=>([(bK E (tC t D k) 89)]++x.r.B 3 x.xs)) (fun x=>x.i≤t.l.length∧View.le U x.V∧RwR InR 1 x.V x.r x.xs x.i x.L∧aA0 aFj (t.l.take x.i)=some (x.L.map Prod.fst)) (fun x=>t.l.length-x.i) ⟨0,Rw.nil,[],[],U⟩ ?_ ?_ (hm:=fun _ h=>h.eqv (Dn kR (Aj ([(bK E (tC t D k) 89)]:aN)).symm))))))))))))))
 ·exact⟨Ap _,View.le_refl _,RwR.nil,rfl⟩
 intro x hx;obtain⟨b8,g,A,u⟩:=hx;refine zQ 1 (zn (zs (cE ((x.i:Int)<(t.l.length:Int)) (fun h0 M=>?_) (fun h0 M=>?_))))
 ·refine zk (zs (aB (zs (zr ?_))));obtain⟨f,C⟩:∃y,(t.l)[x.i]? =some y:=⟨(t.l)[x.i]'oW,Aa _⟩;obtain⟨I,K,a7,rfl,O,F⟩:=(Y.le g).at_ x.i f C;obtain⟨G,J,rfl,a6,b6,b7,b5⟩:=F.form;refine cD (Pt I (K+x.i*5)) (rIx 89 rfl I K t.l.length k x.i 5) ?_;refine zU I (K+x.i*5) (tC f G J) O 89 (.tmp 14) _ Tryz.underlying89 rfl ?_;refine fH 1 (fun L=>?_);refine aX 1 L (zn (zB [2] [(L,5)] ?_));rcases Ax (f.k==0)with r|r
  ·have N:=eq_of_beq r;refine cY 186 #[(tV f G J)] (.tuple #[(L6 (min f.n 65536)),.nilIface]) (fun W j=>aJ0 q f _ _ W j.view r (by obtain⟨_,_,_,_,h9,_⟩:=(F).form;exact h9)) ?_;refine zq 5 (zn (zs (zQ 1 (cD (.bool false) (oU .neq false _ _ _ rfl (Or.inr ⟨rfl,rfl⟩) kR kR) ?_))));refine zn (dD (zk (zr (zq 2 (fH 2 (fun Z=>?_))))));refine lN 3 3 48 8 1 1 A.ok (fun W j=>eF j 2 Z [(L6 (min f.n 65536))] 3 kR) rfl (Ao.1 kR) (by decide) (fun r4 X=>?_);refine zq 1 (zn (zr (zq 1 (eC 30 ((x.i:Int)+1) (zq 1 (zn ?_))))));refine nx ⟨x.i+1,r4,(x.xs++[(L6 (min f.n 65536))]),x.L++[(((min f.n 65536:Nat):Int),[(L6 (min f.n 65536))])],x.V⟩ ?_ ?_ (d:=fun _ h=>Mem.sub (By (Ay _ _) (Cd _)) (h.eqv (show _=((([(bK E [(I6 t.k),(N6 t.n),(St t.s),(Sl I K t.l.length k),(.bool t.o)] 89)]:aN)++([(bK L (tC f G J) 89),(bK Z [(L6 (min f.n 65536))] 3)]:aN))++(r4.B 3 (x.xs++[(L6 (min f.n 65536))])))from by kernel_rfl)))
   ·exact⟨by show x.i+1≤_;omega,g,RwR.snoc A rfl X,by rw[Br];exact pY u C (lV r)⟩
   ·show t.l.length-(x.i+1)<t.l.length-x.i;omega
  ·have N:=Ai.1 r;refine cY 186 #[(tV f G J)] (.tuple #[(I6 0),(Er.V q (Er.wrap [110,117,109,98,101,114] .leaf))]) (fun W j=>aJ1 q f _ _ W j.view (hE.le g) r) ?_;refine zq 5 (zn (zs (zQ 1 (cD (.bool true) (aAt .neq true _ _ _ _ rfl (Or.inr ⟨rfl,rfl⟩) kR q (Er.wrap [110,117,109,98,101,114] .leaf) kR kR) ?_))));refine zn (dP (zQ 5 (zn (aA (aO [2,3] [S0,(.iface 281 (.agg #[(St [116,97,114,103,101,116,115]),(Er.V q (Er.wrap [110,117,109,98,101,114] .leaf))]))] (fun W' j=>?_))))));have V:aFj f=none:=aBy r;have hz:aHF t=none:=oE (Ad C) V;rw[hz];exact aH j g ⟨(.wrap [116,97,114,103,101,116,115] (Er.wrap [110,117,109,98,101,114] .leaf)),rfl⟩
 ·refine aK (zQ 3 (zn (aA (aO [2,3] [(x.r.V x.i),.nilIface] (fun W' j=>?_)))));refine aAX (by decide) (j.eqv (show _=([(bK E (tC t D k) 89)]:aN)++x.r.B 3 x.xs from by kernel_rfl)) A g (fun v=>.tuple #[v,.nilIface]) (by unfold R47;omega) fun a c V' b4 hA hc hm=>?_
  rw[Bf oW]at u;unfold aHF;rw[u,hm];exact⟨a,c,rfl,hA,by omega⟩
theorem lF(k:Addr)(t:Itm.Tr)(K:Option Addr)(A:Nat)(w:World){U:View}(hU:See U w)(hE:EF U k)(c2:eZ U K t.l)(e2:t.l.length≤1000000):CP 188 #[.agg #[.int .i64 t.k,.int .u64 t.n,.string (B t.s),.slice K t.l.length A,.bool t.o]] w (fO w U (aFh PaR 6 k (jJ t))):=by
 refine dE 45 Tryz.func188 hU ?_;refine zs (zr (aW (fun M=>(zq 2 (zn (zQ 1 (zn (zs (zB [0,1,0,0] [(M,1)] (zn (aB (eY (α:=Gp Pa) (fun x=>[2,3,4,10,11,12].zip [S0,.nilIface,(x.r.V x.i),(.slice K t.l.length A),(L6 t.l.length),(L6 x.i)]) (fun x=>x.V) (fun x=>([(bK M (tC t K A) 89)]++x.r.B 92 x.xs)) (fun x=>x.i≤t.l.length∧View.le U x.V∧RwR PaR 6 x.V x.r x.xs x.i x.L∧aA0 aEF (t.l.take x.i)=some (x.L.map Prod.fst)) (fun x=>t.l.length-x.i) ⟨0,Rw.nil,[],[],U⟩ ?_ ?_ (hm:=fun _ h=>h.eqv (Dn kR (Aj ([(bK M (tC t K A) 89)]:aN)).symm))))))))))))))
 ·exact⟨Ap _,View.le_refl _,RwR.nil,rfl⟩
 intro x hx;obtain⟨h7,g,G,F⟩:=hx;refine zQ 1 (zn (zs (cE ((x.i:Int)<(t.l.length:Int)) (fun h0 a6=>?_) (fun h0 a6=>?_))))
 ·refine zk (zs (aB (zs (zr ?_))));obtain⟨f,q⟩:∃y,(t.l)[x.i]? =some y:=⟨(t.l)[x.i]'oW,Aa _⟩;obtain⟨Y,f1,c9,rfl,b6,c0⟩:=(c2.le g).at_ x.i f q;obtain⟨a1,Z,rfl,r,e8,h4,e5⟩:=c0.form;refine cD (Pt Y (f1+x.i*5)) (rIx 89 rfl Y f1 t.l.length A x.i 5) ?_;refine zU Y (f1+x.i*5) (tC f a1 Z) b6 89 (.tmp 14) _ Tryz.underlying89 rfl ?_;refine fH 1 (fun N=>?_);refine aX 1 N (zn (zs (zB [0,2,0,0] [(N,1)] (zn (jD (f.l.length:Int) 2 (fun h1 a7=>?_) (fun h1 a7=>?_))))))
  ·refine zs (zr (dK (fun W j=>rX k [112,97,105,114] W j.view (hE.le g)) (zq 2 (zn (aA (aO [2,3] [S0,(Er.V k (Er.wrap [112,97,105,114] .leaf))] (fun W' j=>?_)))))));have E:aEF f=none:=aJT oW;have hz:jJ t=none:=oE (Ad q) E;rw[hz];exact aH j g ⟨(Er.wrap [112,97,105,114] .leaf),rfl⟩
  ·refine zk (zB [0,2] [(N,1)] ?_);obtain⟨y3,I⟩:∃y,(f.l)[0]? =some y:=⟨(f.l)[0]'oW,Aa _⟩;obtain⟨u,C,e0,rfl,b7,O⟩:=r.at_ 0 y3 I;obtain⟨a3,c3,rfl,c7,e9,h5,e6⟩:=O.form;refine cD (Pt u (C+0*5)) (rIx 89 rfl u C f.l.length Z 0 5) ?_;refine zU u (C+0*5) (tC y3 a3 c3) b7 89 (.tmp 24) _ Tryz.underlying89 rfl ?_;rcases Ax (y3.k==0)with D|D
   ·have a8:=eq_of_beq D;refine cY 186 #[(tV y3 a3 c3)] (.tuple #[(L6 (min y3.n 65536)),.nilIface]) (fun W j=>aJ0 k y3 _ _ W j.view D (by obtain⟨_,_,_,_,h9,_⟩:=(O).form;exact h9)) ?_;refine zq 5 (zn (zs (zQ 1 (cD (.bool false) (oU .neq false _ _ _ rfl (Or.inr ⟨rfl,rfl⟩) kR kR) ?_))));refine zn (dD (zk (zr (cG [0,0,0,2] [(N,1)] ?_))));obtain⟨y4,X⟩:∃y,(f.l)[1]? =some y:=⟨(f.l)[1]'oW,Aa _⟩;obtain⟨b4,f4,e1,e4,b8,V⟩:=r.at_ 1 y4 X;obtain⟨J,L,rfl,c8,h3,h6,e7⟩:=V.form;cases e4;refine cD (Pt u (C+1*5)) (rIx 89 rfl u C f.l.length Z 1 5) ?_;refine zU u (C+1*5) (tC y4 J L) b8 89 (.tmp 38) _ Tryz.underlying89 rfl ?_;refine zq 1 (fH 2 (fun b5=>?_));refine lN 3 92 93 72 1 1 G.ok (fun W j=>eF j 2 b5 [(L6 (min y3.n 65536)),(I6 y4.k),(N6 y4.n),(St y4.s),(.slice J y4.l.length L),(.bool y4.o)] 92 kR) rfl (Ao.1 kR) (by decide) (fun r6 b9=>?_);refine zq 1 (zn (zr (zq 1 (eC 43 ((x.i:Int)+1) (zq 1 (zn ?_))))));refine nx ⟨x.i+1,r6,(x.xs++[(L6 (min y3.n 65536)),(I6 y4.k),(N6 y4.n),(St y4.s),(.slice J y4.l.length L),(.bool y4.o)]),x.L++[(⟨((min y3.n 65536:Nat):Int),y4⟩,[(L6 (min y3.n 65536)),(I6 y4.k),(N6 y4.n),(St y4.s),(.slice J y4.l.length L),(.bool y4.o)])],x.V⟩ ?_ ?_ (d:=fun _ h=>Mem.sub (By (Ay _ _) (Cd _)) (h.eqv (show _=((([(bK M [(I6 t.k),(N6 t.n),(St t.s),(Sl Y f1 t.l.length A),(.bool t.o)] 89)]:aN)++([(bK N [(I6 f.k),(N6 f.n),(St f.s),(Sl u C f.l.length Z),(.bool f.o)] 89),(bK b5 [(L6 (min y3.n 65536)),(I6 y4.k),(N6 y4.n),(St y4.s),(.slice J y4.l.length L),(.bool y4.o)] 92)]:aN))++(r6.B 92 (x.xs++[(L6 (min y3.n 65536)),(I6 y4.k),(N6 y4.n),(St y4.s),(.slice J y4.l.length L),(.bool y4.o)])))from by kernel_rfl)))
    ·exact⟨by show x.i+1≤_;omega,g,RwR.snoc G ⟨_,rfl,V⟩ b9,by rw[Br];exact pY F q (by rw[aEE oW I X,lV D])⟩
    ·show t.l.length-(x.i+1)<t.l.length-x.i;omega
   ·have a8:=Ai.1 D;refine cY 186 #[(tV y3 a3 c3)] (.tuple #[(I6 0),(Er.V k (Er.wrap [110,117,109,98,101,114] .leaf))]) (fun W j=>aJ1 k y3 _ _ W j.view (hE.le g) D) ?_;refine zq 5 (zn (zs (zQ 1 (cD (.bool true) (aAt .neq true _ _ _ _ rfl (Or.inr ⟨rfl,rfl⟩) kR k (Er.wrap [110,117,109,98,101,114] .leaf) kR kR) ?_))));refine zn (dP (zQ 5 (zn (aA (aO [2,3] [S0,(.iface 281 (.agg #[(St [112,97,105,114]),(Er.V k (Er.wrap [110,117,109,98,101,114] .leaf))]))] (fun W' j=>?_))))));have E:aEF f=none:=(by obtain⟨v9,c6⟩:∃v,f.l[1]? =some v:=⟨_,Aa oW⟩;rw[aEE oW I c6,aBy D]);have hz:jJ t=none:=oE (Ad q) E;rw[hz];exact aH j g ⟨(.wrap [112,97,105,114] (Er.wrap [110,117,109,98,101,114] .leaf)),rfl⟩
 ·refine aK (zQ 3 (zn (aA (aO [2,3] [(x.r.V x.i),.nilIface] (fun W' j=>?_)))));refine aAX (by decide) (j.eqv (show _=([(bK M (tC t K A) 89)]:aN)++x.r.B 92 x.xs from by kernel_rfl)) G g (fun v=>.tuple #[v,.nilIface]) (by unfold R47;omega) fun a c V' e3 hA hc hm=>?_
  rw[Bf oW]at F;unfold jJ;rw[F,hm];exact⟨a,c,rfl,hA,by omega⟩
theorem iS(q:Addr)(t:Itm.Tr)(F:Option Addr)(C:Nat)(w:World){U:View}(hU:See U w)(hE:EF U q)(b7:eZ U F t.l)(c2:t.l.length≤1000000)(X:∀y∈t.l,y.l.length≤1000000):CP 189 #[.agg #[.int .i64 t.k,.int .u64 t.n,.string (B t.s),.slice F t.l.length C,.bool t.o]] w (fO w U (aFh RlR 1 q (aJC t))):=by
 refine dE 32 Tryz.func189 hU ?_;refine zs (zr (aW (fun J=>(zq 2 (zn (zQ 1 (zn (zs (zB [0,1,0,0] [(J,1)] (zn (aB (eY (α:=Gp (List Pa)) (fun x=>[2,3,4,10,11,12].zip [S0,.nilIface,(x.r.V x.i),(.slice F t.l.length C),(L6 t.l.length),(L6 x.i)]) (fun x=>x.V) (fun x=>([(bK J (tC t F C) 89)]++x.r.B 93 x.xs)) (fun x=>x.i≤t.l.length∧View.le U x.V∧RwR RlR 1 x.V x.r x.xs x.i x.L∧aA0 jJ (t.l.take x.i)=some (x.L.map Prod.fst)) (fun x=>t.l.length-x.i) ⟨0,Rw.nil,[],[],U⟩ ?_ ?_ (hm:=fun _ h=>h.eqv (Dn kR (Aj ([(bK J (tC t F C) 89)]:aN)).symm))))))))))))))
 ·exact⟨Ap _,View.le_refl _,RwR.nil,rfl⟩
 intro x hx;obtain⟨e0,f,E,D⟩:=hx;refine zQ 1 (zn (zs (cE ((x.i:Int)<(t.l.length:Int)) (fun h0 a6=>?_) (fun h0 a6=>?_))))
 ·refine zk (zs (aB (zs (zr ?_))));obtain⟨g,k⟩:∃y,(t.l)[x.i]? =some y:=⟨(t.l)[x.i]'oW,Aa _⟩;obtain⟨b1,f1,c0,rfl,a8,b6⟩:=(b7.le f).at_ x.i g k;obtain⟨a1,c1,rfl,A,c8,c9,c7⟩:=b6.form;refine cD (Pt b1 (f1+x.i*5)) (rIx 89 rfl b1 f1 t.l.length C x.i 5) ?_;refine zU b1 (f1+x.i*5) (tC g a1 c1) a8 89 (.tmp 14) _ Tryz.underlying89 rfl ?_;refine fH 1 (fun b2=>?_);refine aX 1 b2 (zn (zB [2] [(b2,5)] ?_));rcases Ax ((jJ g).isSome)with h1|h1
  ·refine mC 188 #[(tV g a1 c1)] (aFh PaR 6 q (jJ g)) (fun W r=>lF q g _ _ W r.view (hE.le f) A (X g (Ad k))) (fun v3 V3 N a7=>?_);have k7:=E.le N;obtain⟨G,I,K,b4,rfl,O,c4⟩:=(a7).some h1;refine zq 5 (zn (zs (zQ 1 (cD (.bool false) (oU .neq false _ _ _ rfl (Or.inr ⟨rfl,rfl⟩) kR kR) ?_))));refine zn (dD (zk (zr (zq 2 (fH 2 (fun b8=>?_))))));refine lN 3 93 94 24 1 1 E.ok (fun W r=>eF r 2 b8 [(.slice I G.length K)] 93 kR) rfl (Ao.1 kR) (by decide) (fun r9 b5=>?_);refine zq 1 (zn (zr (zq 1 (eC 30 ((x.i:Int)+1) (zq 1 (zn ?_))))));refine nx ⟨x.i+1,r9,(x.xs++[(.slice I G.length K)]),x.L++[(G,[(.slice I G.length K)])],V3⟩ ?_ ?_ (d:=fun _ h=>Mem.sub (By (Ay _ _) (Cd _)) (h.eqv (show _=((([(bK J [(I6 t.k),(N6 t.n),(St t.s),(Sl b1 f1 t.l.length C),(.bool t.o)] 89)]:aN)++([(bK b2 (tC g a1 c1) 89),(bK b8 [(.slice I G.length K)] 93)]:aN))++(r9.B 93 (x.xs++[(.slice I G.length K)])))from by kernel_rfl)))
   ·exact⟨by show x.i+1≤_;omega,(View.le_trans f N),RwR.snoc k7 ⟨_,_,rfl,O⟩ b5,by rw[Br];exact pY D k b4⟩
   ·show t.l.length-(x.i+1)<t.l.length-x.i;omega
  ·refine mC 188 #[(tV g a1 c1)] (aFh PaR 6 q (jJ g)) (fun W r=>lF q g _ _ W r.view (hE.le f) A (X g (Ad k))) (fun e1 b9 M L=>?_);obtain⟨V,j,rfl⟩:=(L).none h1;refine zq 5 (zn (zs (zQ 1 (cD (.bool true) (aAt .neq true _ _ _ _ rfl (Or.inr ⟨rfl,rfl⟩) kR q j kR kR) ?_))));refine zn (dP (zQ 1 ?_));obtain⟨Y,Z,u⟩:=Er.form q j;rw[u];refine zq 1 (zq 3 (zn (aA (aO [2,3] [S0,(.iface 281 (.agg #[(St [114,101,115,117,108,116,115]),(.iface Y Z)]))] (fun W' r=>?_)))));have b3:jJ g=none:=V;have hz:aJC t=none:=oE (Ad k) b3;rw[hz];exact aH r (View.le_trans f M) ⟨(.wrap [114,101,115,117,108,116,115] j),(by rw[show(Er.wrap [114,101,115,117,108,116,115] j).V q=.iface 281 (.agg #[.string (B [114,101,115,117,108,116,115]),Er.V q j])from rfl,u];try rfl)⟩
 ·refine aK (zQ 3 (zn (aA (aO [2,3] [(x.r.V x.i),.nilIface] (fun W' r=>?_)))));refine aAX (by decide) (r.eqv (show _=([(bK J (tC t F C) 89)]:aN)++x.r.B 93 x.xs from by kernel_rfl)) E f (fun v=>.tuple #[v,.nilIface]) (by unfold R47;omega) fun a c V' c6 hA hc hm=>?_
  rw[Bf oW]at D;unfold aJC;rw[D,hm];exact⟨a,c,rfl,hA,by omega⟩
section
variable {P:Program} {n:Nat} {W0:Cx} {Q:XQ} {s:aZ} {U:View} {σ:aN} {ops:Array Oper} {l:List Oper} {o:Oper}
theorem gX(t e : TypeId)(x g : Operand)(r : o.op = .indexAddr t x g)(b f m i d : Nat)(k : IntKind)(y : evS s x = some (.pointer (some ⟨b, f, none⟩)))(j : evS s g = some (.int k (i : Int)))(q : i < m)
  (u:P.underlying t=some (.array m e)) (a:(P.info? e).map (·.size)=some d) (W:World):(execOp (ev s) o).run P W=.ok (.value (.pointer (some ⟨b,f+i*d,none⟩))) W:=by
 have A:(sizeOf e).run P W=.ok d W:=by
  cases c:P.info? e with
  |none=>rw[c]at a;cases a
  |some inf=>
   rw[c]at a;simp only[Di,Ab]at a;simp[sizeOf,typeInfo,c,a]
 unfold execOp;simp only[r,dY y,dY j,Instr.indexAt,Instr.sureAddr,asIntOf,Sem.run_bind,Sem.run_pure,Result.andThen_ok,run_underlying u W];have h:(0:Int)≤(i:Int)∧(i:Int)<(m:Int):=⟨by omega,by omega⟩;rw[Ar h];simp only[Sem.run_bind,A,Result.andThen_ok,Sem.run_pure,Cr,Addr.add_mid]
theorem oqR{ds : List Nat}{vs : List Sq}(i : Nat){o : Oper}(j : ops[i]? = some o)(v : Value)(d : vs[i]? = some (.val v))(k : ∀ u, known (iP ops ds vs u i ++ aV s ds) o = true)
  (c:∀(u:Nat→Value) (W:World),(execOp (ev (iP ops ds vs u i++aV s ds)) o).run P W=.ok (.value v) W) (q:∀u,cU ops (iP ops ds vs u i++aV s ds) o=some true):Oq P n W0 U σ ops ds vs s i:=
 Oq.op i j _ d fun u V _ _=>⟨q u,fun a W h g Q K f=>by
  unfold Oper.wp;rw[fW h (k u),c u];exact f v W g rfl (Below.refl _ _)⟩
theorem oqU{ds : List Nat}{vs : List Sq}(i b f : Nat)(cs : List Value)(q : U.range b f cs)(g : TypeId)(x : Operand){o : Oper}(A : ops[i]? = some o)(B : o.op = .load g x)(h : vs[i]? = some (.val (.agg cs.toArray)))(E : ∀ u, evS (iP ops ds vs u i ++ aV s ds) x = some (.pointer (some ⟨b, f, none⟩)))(d : TypeDesc)(C : P.underlying g = some d)(c : d.isRow = true)(F : (P.info? g).map (·.size) = some cs.length)
  (D:∀u,cU ops (iP ops ds vs u i++aV s ds) o=some true):Oq P n W0 U σ ops ds vs s i:=
 Oq.op i A _ h fun u V r _=>⟨D u,fun a W y j Q K k=>wp_load_mid g x B b f (eG y (E u)) cs d (View.range_of (View.range_le r q) j.view) C c F (k _ W j rfl (Below.refl _ _))⟩
theorem wR{ds ks : List Nat}{tv vs : List Sq}{i : Nat}{v : Value}(a : ∀ (u : Nat → Value) (W : World), (execOp (ev (iP ops ds vs u i ++ aV s ds)) (iC ops i)).run P W = .ok (.value v) W)(d : ops[i]? = some (iC ops i) := by rfl)(f : ∀ u, known (iP ops ds vs u i ++ aV s ds) (iC ops i) = true := by intro u; kernel_rfl)
  (g:∀u,cU ops (iP ops ds vs u i++aV s ds) (iC ops i)=some true:=by intro u;kernel_rfl):Oqw P n W0 U σ ops ds ks tv vs s i (.val v):=
 fun _ c=>oqR i d v c f a g
theorem wU{ds ks : List Nat}{tv vs : List Sq}{i : Nat}(b f : Nat)(cs : List Value)(h : U.range b f cs)(c : TypeId)(x : Operand)(d : TypeDesc)(q : P.underlying c = some d)(a : d.isRow = true)(j : ops[i]? = some (iC ops i) := by rfl)(k : (iC ops i).op = .load c x := by rfl)
  (y:∀u,evS (iP ops ds vs u i++aV s ds) x=some (.pointer (some ⟨b,f,none⟩)):=by intro u;kernel_rfl) (A:(P.info? c).map (·.size)=some cs.length:=by kernel_rfl) (r:∀u,cU ops (iP ops ds vs u i++aV s ds) (iC ops i)=some true:=by intro u;kernel_rfl):Oqw P n W0 U σ ops ds ks tv vs s i (.val (.agg cs.toArray)):=
 fun _ g=>oqU i b f cs h c x j k g y d q a A r
end
section
variable {P:Program} {n:Nat} {W0:Cx} {s:aZ} {U:View} {σ:aN} {ops:Array Oper} {ds:List Nat} {vs:List Sp}
theorem aRt(i b f : Nat)(v : Value)(r : U ⟨b, f, none⟩ = some v)(h : TypeId)(x : Operand){o : Oper}(A : ops[i]? = some o)(C : o.op = .load h x)(g : vs[i]? = some (.val v))(F : evS (mQ ops ds vs i ++ aV s ds) x = some (.pointer (some ⟨b, f, none⟩)))(d : TypeDesc)(D : P.underlying h = some d)(k : d.isRow = false)
  (E:cU ops (mQ ops ds vs i++aV s ds) o=some true):Ob P n W0 U σ ops ds vs s i:=
 Ob.op i A _ g E fun a W u j Q K q=>by
  have y:=j.view _ _ r;have c:(isAgg h).run P W=.ok false W:=by
   unfold isAgg;rw[Sem.run_bind,run_underlying D W];cases d<;>simp_all
  have B:(load ⟨b,f,none⟩).run P W=.ok v W:=by
   simp[load,Sem.run,y]
  unfold Oper.wp execOp;simp only[C,eG u F,Instr.loadAt,Instr.sureAddr,Sem.run_bind,Sem.run_pure,Result.andThen_ok,loadVar,c];simp only[Av,if_false,B,Result.andThen_ok];exact q v W rfl j (Below.refl _ _)
theorem vU1{i : Nat}{v : Value}(b f : Nat)(h : U ⟨b, f, none⟩ = some v)(g : TypeId)(x : Operand)(d : TypeDesc)(q : P.underlying g = some d)(a : d.isRow = false)(j : ops[i]? = some (iC ops i) := by rfl)(k : (iC ops i).op = .load g x := by rfl)(u : evS (mQ ops ds vs i ++ aV s ds) x = some (.pointer (some ⟨b, f, none⟩)) := by kernel_rfl)
  (r:cU ops (mQ ops ds vs i++aV s ds) (iC ops i)=some true:=by kernel_rfl):Ow P n W0 U σ ops ds vs s i (.val v):=
 fun c=>aRt i b f v h g x j k c u d q a r
end
theorem iE{α:Type}{l:List α}{x y:α}(h:l.length=2)(c:l[0]? =some x)(d:l[1]? =some y):l=[x,y]:=by
 match l,h with
 | [a,b],_=>
  simp only[Bo,Bv,Ab]at c d;rw[c,d]
theorem aHP{t:Itm.Tr}(h:t.k≠4):Itm.iB t=Itm.Nm.zero:=by unfold Itm.iB;rw[An h]
theorem aFD{t x y:Itm.Tr}(a:t.l=[x,y])(h:x.k≠0):Itm.iB t=Itm.Nm.zero:=by
 unfold Itm.iB;rw[a];split
 ·exact An h
 ·rfl
theorem lS{t x y:Itm.Tr}(a:t.k=4)(c:t.l=[x,y])(h:x.k=0):Itm.iB t=Itm.aEg x y:=by
 unfold Itm.iB;rw[Ar a,c];exact Ar h
def rdE(t:Itm.Tr):Ei:=⟨(Itm.iB t).s,(Itm.iB t).l,(Itm.iB t).n,(Itm.iB t).v⟩
theorem rA{t:Itm.Tr}{m:Itm.Nm}(h:Itm.iB t=m):rdE t=⟨m.s,m.l,m.n,m.v⟩:=by unfold rdE;rw[h]
theorem aEW(t:Itm.Tr)(cs:List Value)(w:World){U:View}(hU:See U w)(h:TV U t cs):CP 218 #[.agg cs.toArray] w (Ret (rdE t).V w):=by
 obtain⟨a,c,rfl,A,hn,hs,hl⟩:=h.form;unfold R47 at hl;refine dE 66 Tryz.func218 hU ?_;refine zs (zr (aW (fun M=>(aW (fun k=>(zn (zs (zB [0,1,0,0] [(M,1)] (lO 7 t.k 4 (fun D _=>?_) (fun D l4=>?_))))))))))
 ·refine zq 13 (zn (dP (zQ 1 (aX 1 k (zn (aA (dL [2] [(k,4)] [(.agg #[(I6 0),(St []),(U6 0),(U6 0)])] (fun C j=>?_))))))));refine⟨?_,j.below⟩;rw[rA (aHP (Cb.1 D))];rfl
 ·refine cG [0,1,0,0,0,0] [(M,1)] (lO 13 (t.l.length:Int) 2 (fun B a1=>?_) (fun B a1=>?_))
  ·refine zq 7 (zn (dP (zQ 1 (aX 1 k (zn (aA (dL [2] [(k,4)] [(.agg #[(I6 0),(St []),(U6 0),(U6 0)])] (fun C j=>?_))))))));refine⟨?_,j.below⟩;rw[rA (Itm.aJE (by have:=B;simp at this;omega))];rfl
  ·refine cG [0,1] [(M,1)] ?_;obtain⟨G,q⟩:∃y,(t.l)[0]? =some y:=⟨(t.l)[0]'oW,Aa _⟩;obtain⟨u,x,k7,rfl,F,j1⟩:=A.at_ 0 G q;obtain⟨a2,c2,rfl,k1,m4,n1,d⟩:=j1.form;refine cD (Pt u (x+0*5)) (rIx 89 rfl u x t.l.length c 0 5) ?_;refine zq 1 (zV u (x+0*5+0) (I6 G.k) (F 0 _ rfl) 3 (.tmp 17) _ Tryz.underlying3 rfl ?_);refine zq 2 (zn (jD G.k 0 (fun E c0=>?_) (fun E c0=>?_)))
   ·refine zQ 1 (aX 1 k (zn (aA (dL [2] [(k,4)] [(.agg #[(I6 0),(St []),(U6 0),(U6 0)])] (fun C j=>?_)))));refine⟨?_,j.below⟩;have d:t.l.length=2:=by have:=B;simp at this;omega
    have f:=iE d q (Aa (by omega:1<t.l.length));rw[rA (aFD f (Cb.1 E))];rfl
   ·refine zk (zB [0,1] [(M,1)] ?_);obtain⟨y3,r⟩:∃y,(t.l)[1]? =some y:=⟨(t.l)[1]'oW,Aa _⟩;obtain⟨b3,f3,k8,e3,e6,j2⟩:=A.at_ 1 y3 r;obtain⟨a3,c3,rfl,L,m5,n2,l8⟩:=j2.form;cases e3;refine cD (Pt u (x+1*5)) (rIx 89 rfl u x t.l.length c 1 5) ?_;refine zU u (x+1*5) (tC y3 a3 c3) e6 89 (.tmp 24) _ Tryz.underlying89 rfl ?_;refine aW (fun K=>(aX 2 K (zn (zs (aB (zB [0,1] [(M,1)] ?_))))));obtain⟨y5,j8⟩:∃y,(t.l)[0]? =some y:=⟨(t.l)[0]'oW,Aa _⟩;obtain⟨b5,f5,k9,e5,l5,j3⟩:=A.at_ 0 y5 j8;obtain⟨a5,c5,rfl,k2,m6,n5,l9⟩:=j3.form;cases e5;refine cD (Pt u (x+0*5)) (rIx 89 rfl u x t.l.length c 0 5) ?_;refine zq 1 (zV u (x+0*5+1) (N6 G.n) (F 1 _ rfl) 22 (.tmp 30) _ Tryz.underlying22 rfl ?_);refine zq 2 (oT 33 (G.n:Int) 2 (fun V c1=>?_) (fun V c1=>?_))
    ·refine cG [0,3,0,0,0,0] [(K,1)] (zn (fQ (y3.l.length:Int) 2 (fun X c4=>?_) (fun X c4=>?_)))
     ·refine zs ?_;obtain⟨y6,Y⟩:∃y,(y3.l)[0]? =some y:=⟨(y3.l)[0]'oW,Aa _⟩;obtain⟨N,O,l0,rfl,h9,j4⟩:=L.at_ 0 y6 Y;obtain⟨a6,c6,rfl,k3,m7,n7,m0⟩:=j4.form;obtain⟨y7,Z⟩:∃y,(y3.l)[1]? =some y:=⟨(y3.l)[1]'oW,Aa _⟩;obtain⟨b7,f7,l1,e7,j0,j5⟩:=L.at_ 1 y7 Z;obtain⟨a7,c7,rfl,k4,m8,n8,m1⟩:=j5.form;cases e7;refine iM 4 [0,5,1,0,1,0,5,1,0,1] [(K,1),(K,1)] [.val (Pt N (O+0*5)),.val (N6 y6.n),.val (Pt N (O+1*5)),.val (N6 y7.n)] ⟨?_,?_,?_,?_,trivial⟩ ?_
      ·exact vR (rIx 89 rfl N O y3.l.length c3 0 5)
      ·exact vU1 N (O+0*5+1) (h9 1 _ rfl) 22 _ _ Tryz.underlying22 rfl
      ·exact vR (rIx 89 rfl N O y3.l.length c3 1 5)
      ·exact vU1 N (O+1*5+1) (j0 1 _ rfl) 22 _ _ Tryz.underlying22 rfl
      refine zq 1 (aX 1 k (zn (aA (dL [2] [(k,4)] [(.agg #[(I6 2),(St []),(N6 y6.n),(N6 y7.n)])] (fun C j=>?_)))));refine⟨?_,j.below⟩;have d:t.l.length=2:=by have:=B;simp at this;omega
      have f:=iE d q r;have g:=lS (Bq.1 D) f (Bq.1 E);rw[rA (g.trans (Itm.aJD (iE (by have:=X;simp at this;omega) Y Z) (by have:=V;simp at this;omega)))];rfl
     ·refine zB [0,1] [(M,1)] ?_;obtain⟨y8,j9⟩:∃y,(t.l)[0]? =some y:=⟨(t.l)[0]'oW,Aa _⟩;obtain⟨b8,f8,l2,e8,l6,j6⟩:=A.at_ 0 y8 j9;obtain⟨a8,c8,rfl,k5,m9,n9,m2⟩:=j6.form;cases e8;refine cD (Pt u (x+0*5)) (rIx 89 rfl u x t.l.length c 0 5) ?_;refine zq 1 (zV u (x+0*5+1) (N6 G.n) (F 1 _ rfl) 22 (.tmp 54) _ Tryz.underlying22 rfl ?_);refine zq 2 (oT 57 (G.n:Int) 1 (fun h5 e0=>?_) (fun h5 e0=>?_))
      ·refine cG [0,3,0,0,0] [(K,1)] (zn (fQ y3.k 3 (fun h6 e1=>?_) (fun h6 e1=>?_)))
       ·refine zB [0,3,0] [(K,1)] (aX 1 k (zn (aA (dL [2] [(k,4)] [(.agg #[(I6 1),(St y3.s),(U6 0),(U6 0)])] (fun C j=>?_)))));refine⟨?_,j.below⟩;have d:t.l.length=2:=by have:=B;simp at this;omega
        have f:=iE d q r;have g:=lS (Bq.1 D) f (Bq.1 E);rw[rA ((g.trans (Itm.lJ (by rintro⟨I,J⟩;have:=X;simp at this;omega))).trans (Ar ⟨by have:=h5;simp at this;omega,by have:=h6;simpa using this⟩))];rfl
       ·refine zk (zs (zr (dK (fun W j=>oH W) (aX 1 k (zn (aA (dL [2] [(k,4)] [(.agg #[(I6 1),(St [110,111,110,101]),(U6 0),(U6 0)])] (fun C j=>?_))))))));refine⟨?_,j.below⟩;have d:t.l.length=2:=by have:=B;simp at this;omega
        have f:=iE d q r;have g:=lS (Bq.1 D) f (Bq.1 E);rw[rA ((g.trans (Itm.lJ (by rintro⟨I,J⟩;have:=X;simp at this;omega))).trans (An (by rintro⟨I,J⟩;have:=h6;simp at this;omega)))];rfl
      ·refine zq 5 (zn (dD (zk (zs (zr (dK (fun W j=>oH W) (aX 1 k (zn (aA (dL [2] [(k,4)] [(.agg #[(I6 1),(St [110,111,110,101]),(U6 0),(U6 0)])] (fun C j=>?_)))))))))));refine⟨?_,j.below⟩;have d:t.l.length=2:=by have:=B;simp at this;omega
       have f:=iE d q r;have g:=lS (Bq.1 D) f (Bq.1 E);rw[rA ((g.trans (Itm.lJ (by rintro⟨I,J⟩;have:=X;simp at this;omega))).trans (An (by rintro⟨I,J⟩;have:=h5;simp at this;omega)))];rfl
    ·refine zq 6 (zn (dD (zB [0,1] [(M,1)] ?_)));obtain⟨y9,k0⟩:∃y,(t.l)[0]? =some y:=⟨(t.l)[0]'oW,Aa _⟩;obtain⟨b9,f9,l3,e9,l7,j7⟩:=A.at_ 0 y9 k0;obtain⟨a9,c9,rfl,k6,n0,o0,m3⟩:=j7.form;cases e9;refine cD (Pt u (x+0*5)) (rIx 89 rfl u x t.l.length c 0 5) ?_;refine zq 1 (zV u (x+0*5+1) (N6 G.n) (F 1 _ rfl) 22 (.tmp 54) _ Tryz.underlying22 rfl ?_);refine zq 2 (oT 57 (G.n:Int) 1 (fun h7 e2=>?_) (fun h7 e2=>?_))
     ·refine cG [0,3,0,0,0] [(K,1)] (zn (fQ y3.k 3 (fun h8 e4=>?_) (fun h8 e4=>?_)))
      ·refine zB [0,3,0] [(K,1)] (aX 1 k (zn (aA (dL [2] [(k,4)] [(.agg #[(I6 1),(St y3.s),(U6 0),(U6 0)])] (fun C j=>?_)))));refine⟨?_,j.below⟩;have d:t.l.length=2:=by have:=B;simp at this;omega
       have f:=iE d q r;have g:=lS (Bq.1 D) f (Bq.1 E);rw[rA ((g.trans (Itm.lJ (by rintro⟨I,J⟩;have:=V;simp at this;omega))).trans (Ar ⟨by have:=h7;simp at this;omega,by have:=h8;simpa using this⟩))];rfl
      ·refine zk (zs (zr (dK (fun W j=>oH W) (aX 1 k (zn (aA (dL [2] [(k,4)] [(.agg #[(I6 1),(St [110,111,110,101]),(U6 0),(U6 0)])] (fun C j=>?_))))))));refine⟨?_,j.below⟩;have d:t.l.length=2:=by have:=B;simp at this;omega
       have f:=iE d q r;have g:=lS (Bq.1 D) f (Bq.1 E);rw[rA ((g.trans (Itm.lJ (by rintro⟨I,J⟩;have:=V;simp at this;omega))).trans (An (by rintro⟨I,J⟩;have:=h8;simp at this;omega)))];rfl
     ·refine zq 5 (zn (dD (zk (zs (zr (dK (fun W j=>oH W) (aX 1 k (zn (aA (dL [2] [(k,4)] [(.agg #[(I6 1),(St [110,111,110,101]),(U6 0),(U6 0)])] (fun C j=>?_)))))))))));refine⟨?_,j.below⟩;have d:t.l.length=2:=by have:=B;simp at this;omega
      have f:=iE d q r;have g:=lS (Bq.1 D) f (Bq.1 E);rw[rA ((g.trans (Itm.lJ (by rintro⟨I,J⟩;have:=V;simp at this;omega))).trans (An (by rintro⟨I,J⟩;have:=h7;simp at this;omega)))];rfl
theorem aMC(e:Ei)(w:World)(f:e.l.length≤R47)(g:aI e=false):CP 177 #[e.V] w (Ret (.tuple #[(.agg #[(.int .i64 0),(.int .u64 0),(.string (B [])),(.slice none 0 0),(.bool false)]),.int .i64 1]) w):=by
 refine dI 38 Tryz.func177 ?_;refine zs (zr (aW (fun d=>(aW (fun a=>(zq 1 (zn (zs (aB (zB [1] [(d,4)] (dK (fun W c=>jF e W f) (zq 2 (zn (iA (!(aI e)) (by rw[g];rfl) ?_))))))))))))));refine zQ 1 (aX 1 a (zq 1 (zn (aA (dL [2,0] [(a,5)] [(.agg #[(I6 0),(U6 0),(St []),S0,(.bool false)]),(I6 1)] (fun h c=>?_))))));exact⟨rfl,c.below⟩
noncomputable def ofZ(t:Itm.Tr):Bool:=if aI (rdE t)then tT t (rdE t).tree else false
theorem aNe{t:Itm.Tr}{cs:List Value}{w:World}{U:View}(f:See U w)(h:TV U t cs):(rdE t).ok:=by
 obtain⟨a,c,d⟩:=Itm.aBl (h.toTAt f);exact⟨a,c,d⟩
theorem aOA(t:Itm.Tr)(cs:List Value)(w:World){U:View}(C:See U w)(h:TV U t cs)(j:ofZ t=true):CP 187 #[.agg cs.toArray] w (Ret (.tuple #[(rdE t).V,.int .i64 0]) w):=by
 have f:=h;have u:=aNe C h;have D:aI (rdE t)=true:=by unfold ofZ at j;split at j;assumption;cases j
 have x:tT t (rdE t).tree=true:=by unfold ofZ at j;rwa[Ar D]at j
 obtain⟨a,c,rfl,M,_,_,_⟩:=h.form;refine dE 24 Tryz.func187 C ?_;refine zs (zr (aW (fun y=>(aW (fun A=>(zq 1 (zn (zB [1] [(y,5)] (cY 218 #[(tV t a c)] (.agg #[(I6 (rdE t).s),(St (rdE t).l),(N6 (rdE t).n),(N6 (rdE t).v)]) (fun W d=>aEW t _ W d.view f) ?_)))))))));refine aW (fun k=>(aX 2 k (zn (zs (zB [3] [(k,4)] (pO (fun W d=>oI (rdE t) W d.view u D) (fun V N r q=>?_)))))));obtain⟨I,rfl,g⟩:=q;obtain⟨F,G,rfl,E,K,L,J⟩:=g.form;refine zq 3 (aW (fun B=>(aX 3 B (zq 1 (zn (zB [0,0,0,1,4] [(y,5),(B,5)] (cY 219 #[(tV t a c),(.agg #[(I6 (rdE t).tree.k),(N6 (rdE t).tree.n),(St (rdE t).tree.s),(.slice F (rdE t).tree.l.length G),(.bool (rdE t).tree.o)])] (.bool (tT t (rdE t).tree)) (fun W d=>aCP t (rdE t).tree _ _ W d.view (f.le r) g) ?_)))))));refine zq 2 (zn (dO (!(tT t (rdE t).tree)) (by rw[x];rfl) ?_));refine zk (zB [3] [(k,4)] (aX 1 A (zq 1 (zn (aA (dL [2,0] [(A,4)] [(.agg #[(I6 (rdE t).s),(St (rdE t).l),(N6 (rdE t).n),(N6 (rdE t).v)]),(I6 0)] (fun O d=>?_)))))));exact⟨rfl,d.below⟩
theorem aP3(t:Itm.Tr)(cs:List Value)(w:World){U:View}(C:See U w)(h:TV U t cs)(E:ofZ t=false):CP 187 #[.agg cs.toArray] w (Ret (.tuple #[(⟨0,[],0,0⟩:Ei).V,.int .i64 2]) w):=by
 have f:=h;have g:=aNe C h;obtain⟨a,c,rfl,O,_,_,_⟩:=h.form;refine dE 24 Tryz.func187 C ?_;refine zs (zr (aW (fun y=>(aW (fun k=>(zq 1 (zn (zB [1] [(y,5)] (cY 218 #[(tV t a c)] (.agg #[(I6 (rdE t).s),(St (rdE t).l),(N6 (rdE t).n),(N6 (rdE t).v)]) (fun W d=>aEW t _ W d.view f) ?_)))))))));refine aW (fun A=>(aX 2 A (zn (zs (zB [3] [(A,4)] ?_)))));rcases Ax (aI (rdE t))with q|q
 ·refine pO (fun W d=>oI (rdE t) W d.view g q) (fun X V u r=>?_);obtain⟨K,rfl,j⟩:=r;obtain⟨G,J,rfl,D,M,N,L⟩:=j.form;refine zq 3 (aW (fun B=>(aX 3 B (zq 1 (zn (zQ 3 ?_))))));have x:tT t (rdE t).tree=false:=by unfold ofZ at E;rwa[Ar q]at E
  refine cG [1,4] [(y,5),(B,5)] (cY 219 #[(tV t a c),(.agg #[(I6 (rdE t).tree.k),(N6 (rdE t).tree.n),(St (rdE t).tree.s),(.slice G (rdE t).tree.l.length J),(.bool (rdE t).tree.o)])] (.bool (tT t (rdE t).tree)) (fun W d=>aCP t (rdE t).tree _ _ W d.view (f.le u) j) ?_);refine zq 2 (zn (iA (!(tT t (rdE t).tree)) (by rw[x];rfl) ?_));refine zQ 1 (aX 1 k (zq 1 (zn (aA (dL [2,0] [(k,4)] [(.agg #[(I6 0),(St []),(U6 0),(U6 0)]),(I6 2)] (fun F d=>?_))))));exact⟨rfl,d.below⟩
 ·refine dK (fun W d=>aMC (rdE t) W g.l q) (zq 3 (aW (fun I=>(aX 3 I (zq 1 (zn (zQ 8 (zn (dP (zQ 1 (aX 1 k (zq 1 (zn (aA (dL [2,0] [(k,4)] [(.agg #[(I6 0),(St []),(U6 0),(U6 0)]),(I6 2)] (fun F d=>?_))))))))))))))));exact⟨rfl,d.below⟩
theorem aPT{α:Type}{l:List α}(h:l.length=5){t c s r:α}(f:l[0]? =some t)(g:l[1]? =some c)(j:l[3]? =some s)(k:l[4]? =some r):∃z,l=[t,c,z,s,r]:=by
 match l,h with
 | [a,b,z,d,e],_=>
  simp only[Bo,Bv,Ab]at f g j k;subst f g j k;exact⟨z,rfl⟩
theorem aPS{α:Type}{l:List α}(h:l.length=6){t c s p r:α}(f:l[0]? =some t)(j:l[1]? =some c)(k:l[3]? =some s)(q:l[4]? =some p)(u:l[5]? =some r):∃z,l=[t,c,z,s,p,r]:=by
 match l,h with
 | [a,b,z,d,e,g],_=>
  simp only[Bo,Bv,Ab]at f j k q u;subst f j k q u;exact⟨z,rfl⟩
theorem get_some{α:Type}{l:List α}{i:Nat}(h:i<l.length):∃y,l[i]? =some y:=⟨_,Aa h⟩
theorem aOM{l:List Itm.Tr}(h:¬(l.length=5∨l.length=6)):asR l=none:=by
 unfold asR;rw[An h]
theorem aQR{l:List Itm.Tr}{t:Itm.Tr}(c:l[0]? =some t)(h:aHF t=none):asR l=none:=by
 unfold asR;split
 ·match l with
  | []=>rfl
  | [_]=>rfl
  |a::b::l=>
   simp only[Bo,Ab]at c;subst c;simp only[h]
 ·rfl
theorem aQT{l:List Itm.Tr}{c:Itm.Tr}(d:l[1]? =some c)(h:aFj c=none):asR l=none:=by
 unfold asR;split
 ·match l with
  | []=>rfl
  | [_]=>rfl
  |a::b::l=>
   simp only[Bo,Bv,Ab]at d;subst d;simp only[h];cases aHF a<;>rfl
 ·rfl
theorem aQS{l:List Itm.Tr}{s:Itm.Tr}(f:l[3]? =some s)(h:ofE s=none):asR l=none:=by
 unfold asR;split
 ·match l with
  | []=>rfl
  | [_]=>rfl
  | [_,_]=>simp at f
  | [_,_,_]=>simp at f
  |a::b::c::d::l=>
   simp only[Bo,Bv,Ab]at f;subst f;simp only[aOY,h];cases aHF a with
   |none=>rfl
   |some t=>cases aFj b<;>rfl
 ·rfl
theorem aP9{l:List Itm.Tr}(d:l.length=5){t c s r:Itm.Tr}(g:l[0]? =some t)(h:l[1]? =some c)(j:l[3]? =some s)(k:l[4]? =some r){f:List Int}{a:Int}{s':Ei}(x:aHF t=some f)(q:aFj c=some a)(u:ofE s=some s'):asR l=aLn f a s' [] r:=by
 obtain⟨z,rfl⟩:=aPT d g h j k;unfold asR;rw[Ar (.inl d)];simp only[x,q,aOY,u,aQa]
theorem aON{l:List Itm.Tr}(d:l.length=6){t c s p r:Itm.Tr}(g:l[0]? =some t)(h:l[1]? =some c)(j:l[3]? =some s)(k:l[4]? =some p)(q:l[5]? =some r){f:List Int}{a:Int}{s':Ei}(y:aHF t=some f)(u:aFj c=some a)(x:ofE s=some s'):asR l=match jJ p with
  |none=>none
  |some A=>aLn f a s' A r:=by
 obtain⟨z,rfl⟩:=aPS d g h j k q;unfold asR;rw[Ar (.inr d)];simp only[y,u,aOY,x,aQa]
 all_goals(cases jJ p<;>rfl)
theorem aJ4{t:Itm.Tr}(h:(Itm.iB t).right=true):(rdE t).tree=(Itm.iB t).tree:=by
 unfold rdE;generalize Itm.iB t=m at h ⊢;obtain⟨k,l,n,v⟩:=m;have d:k=1∨k=2:=by
  unfold Itm.Nm.right Eid.gE at h;simp only at h;split at h
  ·omega
  ·split at h
   ·omega
   ·cases h
 unfold Ei.tree Itm.Nm.tree Itm.aIe Itm.aLx;rcases d with rfl|rfl
 ·by_cases a:l=[110,111,110,101]
  ·subst a;rfl
  ·have c:(l==[110,111,110,101])=false:=Ai.2 a;simp only[c,a];rfl
 ·rfl
theorem aMA{t:Itm.Tr}{e:Ei}(h:ofE t=some e)(cs:List Value)(w:World){U:View}(f:See U w)(g:TV U t cs):CP 187 #[.agg cs.toArray] w (Ret (.tuple #[e.V,.int .i64 0]) w):=by
 unfold ofE at h;split at h
 ·next a=>
  obtain rfl:=Bs h;have c:aI (rdE t)=true:=a.1;have d:(rdE t).tree=t:=(aJ4 a.1).trans a.2.2.symm;refine aOA t cs w f g ?_;unfold ofZ tT;rw[Ar c,Ar a.2.1,d,Ar a.2.1];exact aGl.2 rfl
 ·cases h
theorem aMB{t:Itm.Tr}(h:ofE t=none)(cs:List Value)(w:World){U:View}(d:See U w)(g:TV U t cs):CP 187 #[.agg cs.toArray] w (Ret (.tuple #[(⟨0,[],0,0⟩:Ei).V,.int .i64 2]) w):=by
 unfold ofE at h;split at h
 ·cases h
 ·next f=>
  refine aP3 t cs w d g ?_;unfold ofZ;split
  ·next a=>
   unfold tT;split
   ·next c=>
    split
    ·exact aCV.2 fun e=>f ⟨a,c,e.trans (aJ4 a)⟩
    ·rfl
   ·rfl
  ·rfl
theorem aEL{t:Itm.Tr}{e:Ei}(h:ofE t=some e){U:View}{cs:List Value}{w:World}(f:See U w)(g:TV U t cs):e.ok:=by
 unfold ofE at h;split at h
 ·obtain rfl:=Bs h;obtain⟨a,c,d⟩:=Itm.aBl (g.toTAt f);exact⟨a,c,d⟩
 ·cases h
def aOU(eA:Addr)(x:Option As)(v:Value)(V:View):Prop:=match x with
 |some a=>∃a1 a2 a3 c1 c2 c3,v=.tuple #[asV a a1 a2 a3 c1 c2 c3,.nilIface]∧aAK V a1 a2 a3 a∧a.t.length≤c1
 |none=>∃(a1:Option Addr) (n1 c1:Nat) (k s:Int) (l:List UInt8) (n m:Nat) (a2:Option Addr) (n2 c2:Nat) (a3:Option Addr) (n3 c3:Nat) (e:Er),v=.tuple #[.agg #[.slice a1 n1 c1,.int .i64 k,.int .i64 s,.string (B l),.int .u64 n,.int .u64 m,.slice a2 n2 c2,.slice a3 n3 c3],e.V eA]
theorem aBP{f : List UInt8 → Option (Itm.Tr × Nat)} : ∀ {n : Nat} {s : List UInt8} {l : List Itm.Tr} {k : Nat}, fJ f n s = some (l, k) → ∀ x ∈ l, ∃ s' g, f s' = some (x, g)
 |0,s,l,k,h,x,a=>by
  rw[fJ]at h;simp only[Ab,Am]at h;rw[←h.1]at a;cases a
 |n+1,s,l,k,h,x,a=>by
  rw[fJ]at h;split at h
  ·cases h
  ·next t q c=>
   split at h
   ·cases h
   ·next ts j d=>
    simp only[Ab,Am]at h;rw[←h.1]at a;rcases Bh.1 a with rfl|a
    ·exact⟨s,q,c⟩
    ·exact aBP d x a
theorem aEK{f : List UInt8 → Option (Itm.Tr × Nat)} : ∀ {n : Nat} {s : List UInt8} {l : List Itm.Tr} {k : Nat}, gY f n s = some (l, k) → ∀ x ∈ l, ∃ s' g, f s' = some (x, g)
 |0,s,l,k,h,x,a=>by
  rw[gY]at h;split at h
  ·simp only[Ab,Am]at h;rw[←h.1]at a;cases a
  ·cases h
 |n+1,s,l,k,h,x,a=>by
  rw[gY]at h;split at h
  ·simp only[Ab,Am]at h;rw[←h.1]at a;cases a
  ·split at h
   ·cases h
   ·next t q c=>
    split at h
    ·cases h
    ·next ts j d=>
     simp only[Ab,Am]at h;rw[←h.1]at a;rcases Bh.1 a with rfl|a
     ·exact⟨s,q,c⟩
     ·exact aEK d x a
theorem aDI{d:Nat}{s:List UInt8}{t:Itm.Tr}{k:Nat}(h:itF (d+1) s=some (t,k)):t.l.length≤1000∧∀x∈t.l,∃s' f,itF d s'=some (x,f):=by
 rw[itF]at h;split at h
 ·cases h
 ·next m n o z c=>
  split at h
  ·simp only[Ab,Am]at h;rw[←h.1];exact⟨Ap _,fun x c=>by cases c⟩
  ·split at h
   ·unfold mL at h;split at h
    ·simp only[Ab,Am]at h;rw[←h.1];exact⟨Ap _,fun x c=>by cases c⟩
    ·cases h
   ·split at h
    ·unfold mL at h;split at h
     ·simp only[Ab,Am]at h;rw[←h.1];exact⟨Ap _,fun x c=>by cases c⟩
     ·cases h
    ·split at h
     ·split at h
      ·cases a:gY (itF d) 1000 (s.drop z)with
       |none=>rw[a]at h;cases h
       |some q=>
        obtain⟨l,j⟩:=q;rw[a]at h;simp only[lI,Ab,Am]at h;rw[←h.1];exact⟨(sM (gD d) _ _ _ _ a).2,aEK a⟩
      ·split at h
       ·cases a:fJ (itF d) n (s.drop z)with
        |none=>rw[a]at h;cases h
        |some q=>
         obtain⟨l,j⟩:=q;rw[a]at h;simp only[lI,Ab,Am]at h;rw[←h.1];have:=(pE (gD d) _ _ _ _ a).2;exact⟨by show l.length≤1000;omega,aBP a⟩
       ·cases h
     ·cases h
def aQV(l:List Itm.Tr):Prop:=∀x∈l,x.l.length≤1000000∧∀y∈x.l,y.l.length≤1000000
theorem aKm{d:Nat}{s:List UInt8}{t:Itm.Tr}{k:Nat}(h:itF (d+3) s=some (t,k)):aQV t.l:=fun x g=>by
 obtain⟨A,r,a⟩:=(aDI h).2 x g;have c:=aDI a;refine⟨by omega,fun y j=>?_⟩;obtain⟨B,u,f⟩:=c.2 y j;have q:=(aDI f).1;omega
end Go.Proofs.YtcdjakemdlinhaaGreatDoor.Sx
