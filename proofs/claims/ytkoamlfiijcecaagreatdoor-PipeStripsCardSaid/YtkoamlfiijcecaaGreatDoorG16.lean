/-
  Several texts in one: Pip4 Psh Pip5 Pss Rv6 Rw1 Wth Lbo1 Asv Bcb3 Bcb4 Lbp.
  Conditions: named at each.
-/
import Derived.Test.YtkoamlfiijcecaaGreatDoorG15
set_option maxHeartbeats 16000000
set_option linter.unusedSimpArgs false
set_option linter.unusedVariables false
set_option linter.unusedSectionVars false
namespace Go.Proofs.YtkoamlfiijcecaaGreatDoor.Sx
open Go.ChangeShapes Go.WideShapes Go.ChangeAt Go.RowKit Go.Deep
theorem Nj{q:List Bk}{i:Nat}{y:Bk}{junk:List Value}(h:q[i]? =some y):(q.flatMap Bk.cs++junk)[0+i*5+4]? =some (.string (B y.d)):=ND h 4 _ rfl
theorem LU(eA:Addr)(p:Pr)(q:List Bk)(b c:Nat)(j:List Value)(o:Op)(i k:Nat)(y:Bk)(A:As){W0:Cx}{U:View}{I:aH}{W:World}(hE:EF U eA)(a:Mem W0 U ([(b,(.cells (q.flatMap Bk.cs++j).toArray 58 (0,0)))]++I) W)(c8:(Rw.row b c j).ok 5 q.length (q.flatMap Bk.cs))(c9:∀x∈q,x.ok)(e7:q.length<=1000000)(c6:jC q o.n=(i:Int))(hy:q[i]? =some y)(j1:y.d.length<=100000)(hq:dI y.d=some A)(hk:lX o.t 0 A.t=(k:Int))(a7:k<A.t.length):CP 27 #[bnV p (some ⟨b,0,none⟩) q.length c,o.V] W (gX W0 U I λv _ σ'=>OwB p b c (Yu q i o.n A k y) v σ'):=by
 have j0:=(L8.1 hy).1;have c4:=rP q;have e0:=(fW hq).2.1;have h5:(A.t.eraseIdx k).length=A.t.length-1:=List.length_eraseIdx_of_lt a7;refine fB 51 Tryz.func27 a ?_;refine zs (zr (dB 1 (λf=>?_)));let Y1:=(bK f (dO p (some ⟨b,0,none⟩) q.length c) 29);refine dB 2 (λb1=>?_);refine dB 3 (λN=>?_);refine zn (zB [0,2,0] [(f,1)] ?_);refine eY [(b,(.cells (q.flatMap Bk.cs++j).toArray 58 (0,0))),Y1] ([(N,.cells Z20.toArray 29 (0,0))]++I) b1 [(I6 o.k),(I6 o.n),(I6 o.t)] 71 kR (λV3 a1 Z=>?_);refine cY 57 #[(Sl b 0 q.length c),(.func (.func 58) #[] #[(Pt b1 0)])] (I6 (i:Int)) (λW a=>c6▸Ot q _ _ o b1 W (U:=QZ W) (λ_ _ h=>h) (BB 0 b q j a kR c9 (by unfold R47;omega)) (λj9 v9 h9=>a.view _ _ (Z j9 v9 h9))) ?_;refine zq 1 (zn (zs (zQ 2 (zn (dY (decide ((i:Int)<0)) (P0 oW) ?_)))));refine zk (zB [0,2,0] [(f,1)] (cB (Pt b (0+i*5)) (rIx 58 rfl b 0 q.length c i 5) ?_));refine zq 1 ?_;refine Kf 0 b (0+i*5+4) (q.flatMap Bk.cs++j) (St y.d) 58 9 _ rfl kR kR (Nj hy) _ Tryz.underlying9 rfl kR kR ?_;refine lU (λW a=>pN eA y.d W a.view (hE.le a1) oW) (λv4 V4 L b8=>?_);rw[hq]at b8;obtain⟨x4,y4,z4,u4,v4,w4,rfl,J,h8⟩:=b8;have e3:=J.t;have e4:=J.p;have e5:=J.r;have h4:=J.s;refine zq 3 (dB 3 (λO=>?_));refine aX 3 O (zq 1 (zn (zB [4,0] [(O,8)] (zV b1 (0+2) (I6 o.t) ((View.range_le L Z) 2 _ rfl) 3 (.tmp 27) _ Tryz.underlying3 rfl ?_))));refine oI 60 #[(asV A x4 y4 z4 u4 v4 w4),(I6 o.t)] (Bo (A.del k)) (λW a=>QO A _ _ _ _ _ _ o.t k W a.view ⟨e3,e4,e5,h4⟩ hk a7 e0) (λr V6 a6 e9=>?_);obtain⟨E,F,G,C,r,D,rfl,K,X⟩:=e9;have b3:=K.t
 have b4:=K.p;have b6:=K.r;have e1:=K.s;refine zq 3 (aX 3 O (zn (zs (zB [0,4,0,0] [(O,1)] (zn (fC ((A.del k).t.length:Int) 0 (λh0 e6=>?_) (λh0 e6=>?_)))))))
 ·refine zB [2,0] [(f,20)] (zV b1 (0+1) (I6 o.n) ((View.range_le a6 (View.range_le L Z)) 1 _ rfl) 3 (.tmp 37) _ Tryz.underlying3 rfl ?_);refine eO 0 (λW a=>rG p q b c j o.n a c8 c9 e7) (λj4 h6 j2 b9 b7=>?_);obtain⟨e2,rfl,rfl,c7⟩:=b7;refine aX 2 N (zn (aA (dW [3] [(N,20)] [(.agg #[(N6 p.f),(I6 p.c),(I6 p.dst.s),(St p.dst.l),(N6 p.dst.n),(N6 p.dst.v),(I6 p.src.s),(St p.src.l),(N6 p.src.n),(N6 p.src.v),(I6 p.rpt.s),(St p.rpt.l),(N6 p.rpt.n),(N6 p.rpt.v),(N6 p.time),(N6 p.seq),(N6 p.life),(N6 p.off),(N6 p.tot),(Sl b 0 (q.filter λx=>x.n !=o.n).length c)])] (λW' a=>?_))));have a8:Yu q i o.n A k y=q.filter λx=>x.n !=o.n:=by unfold Yu;rw[M5 (by have h:((((A.t.eraseIdx k).length:Nat):Int))=0:=eq_of_beq h0;omega)]
  rw[a8];exact fN 0 4 (b,(.cells ((q.filter λx=>x.n !=o.n).flatMap Bk.cs++e2).toArray 58 (0,0))) a (View.le_trans (View.le_trans (View.le_trans a1 L) a6) b9) ⟨e2,rfl,rfl,c7⟩
 ·refine zk (zs ?_);have h3:2<=A.t.length:=by have h:¬((((A.t.eraseIdx k).length:Nat):Int))=0:=M2.1 h0;omega
  have Y:=AY e0 a7 h3;have d:(A.del k).outB=(A.del k).bytes/\(A.del k).outZ=0:=by unfold As.outB As.outZ;rw[N1 Y,N1 Y];exact⟨rfl,rfl⟩
  refine EP 11 0 0 [41,42,43,44,45,40,46,47,48,49,0] [.val (Pt f 19),.val (Sl b 0 q.length c),.val (I6 (i:Int)),.val (asV (A.del k) E F G C r D),.val (.tuple #[(St (A.del k).bytes),(I6 0)]),.val (.tuple #[(St (A.del k).bytes),(I6 0)]),.val (St (A.del k).bytes),.val (I6 0),.val (Pt b (0+i*5)),.val (Pt b (0+i*5+4)),.mem (λ_ _=>True)] 10 ([(b,(.cells (cJ (q.flatMap Bk.cs++j) (0+i*5+4) [.string (B (A.del k).bytes)]).toArray 58 (0,0))),Y1,(N,.cells Z20.toArray 29 (0,0)),(bK O (mD (A.del k) E F G C r D) 79)]++I) kR rfl rfl kR kR kR kR kR kR (by simp only[O4];refine⟨?_,?_,?_,?_,?_,?_,?_,?_,?_,?_,?_,λ_ h=>by cases h⟩<;>first|trivial|(intro v V V2 c1 hP;(first|trivial|exact PhiMono.go hP c1|(obtain⟨g,e,hP⟩:=hP;exact⟨g,e,hP.le c1⟩)))) kR (show(10:Nat)<11 by decide) rfl ⟨?_,?_,?_,?_,?_,?_,?_,?_,?_,?_,?_,trivial⟩ [2,4] (λu=>[(Pt f 0),(Pt N 0)]) kF ?_
  ·exact ObS.o 0 (show(0:Nat)≠10 by decide) (oqQ 0 rfl (Pt f 19) (Pt f 19) rfl rfl kF kF) (oqQ 0 rfl (Pt f 19) (Pt f 19) rfl rfl kF kF)
  ·exact ObS.o 1 (show(1:Nat)≠10 by decide) (oqL 1 1 f 1 (dO p (some ⟨b,0,none⟩) q.length c) 29 rfl (Sl b 0 q.length c) rfl kR kF kF) (oqL 1 1 f 1 (dO p (some ⟨b,0,none⟩) q.length c) 29 rfl (Sl b 0 q.length c) rfl kR kF kF)
  ·exact ObS.o 2 (show(2:Nat)≠10 by decide) (oqQ 2 rfl (L6 i) (L6 i) rfl rfl kF kF) (oqQ 2 rfl (L6 i) (L6 i) rfl rfl kF kF)
  ·exact ObS.o 3 (show(3:Nat)≠10 by decide) (oqL 3 3 O 8 (mD (A.del k) E F G C r D) 79 rfl (asV (A.del k) E F G C r D) rfl kR kF kF) (oqL 3 3 O 8 (mD (A.del k) E F G C r D) 79 rfl (asV (A.del k) E F G C r D) rfl kR kF kF)
  ·refine ObS.o 4 (show(4:Nat)≠10 by decide) ?_ ?_
   ·refine oqV 4 61 rfl rfl (.tuple #[(St (A.del k).bytes),(I6 0)]) rfl [44] (λu=>[(asV (A.del k) E F G C r D)]) kF (λu V hV h1=>?_);refine⟨#[(asV (A.del k) E F G C r D)],by kernel_rfl,λW hW=>?_⟩;exact(d.1▸d.2▸CL (A.del k) _ _ _ _ _ _ W hW ⟨(b3.le hV),(b4.le hV),(b6.le hV),e1⟩ X)
   ·refine oqV 4 61 rfl rfl (.tuple #[(St (A.del k).bytes),(I6 0)]) rfl [44] (λu=>[(asV (A.del k) E F G C r D)]) kF (λu V hV h1=>?_);refine⟨#[(asV (A.del k) E F G C r D)],by kernel_rfl,λW hW=>?_⟩;exact(d.1▸d.2▸CL (A.del k) _ _ _ _ _ _ W hW ⟨(b3.le hV),(b4.le hV),(b6.le hV),e1⟩ X)
  ·exact ObS.o 5 (show(5:Nat)≠10 by decide) (oqQ 5 rfl (.tuple #[(St (A.del k).bytes),(I6 0)]) (.tuple #[(St (A.del k).bytes),(I6 0)]) rfl rfl kF kF) (oqQ 5 rfl (.tuple #[(St (A.del k).bytes),(I6 0)]) (.tuple #[(St (A.del k).bytes),(I6 0)]) rfl rfl kF kF)
  ·exact ObS.o 6 (show(6:Nat)≠10 by decide) (oqQ 6 rfl (St (A.del k).bytes) (St (A.del k).bytes) rfl rfl kF kF) (oqQ 6 rfl (St (A.del k).bytes) (St (A.del k).bytes) rfl rfl kF kF)
  ·exact ObS.o 7 (show(7:Nat)≠10 by decide) (oqQ 7 rfl (I6 0) (I6 0) rfl rfl kF kF) (oqQ 7 rfl (I6 0) (I6 0) rfl rfl kF kF)
  ·exact ObS.o 8 (show(8:Nat)≠10 by decide) (oqR 8 rfl (Pt b (0+i*5)) rfl kF (λu=>jP _ 58 _ _ rfl b 0 q.length c i 5 .i64 kR kR (by first|assumption|omega) kR kR) kF) (oqR 8 rfl (Pt b (0+i*5)) rfl kF (λu=>jP _ 58 _ _ rfl b 0 q.length c i 5 .i64 kR kR (by first|assumption|omega) kR kR) kF)
  ·exact ObS.o 9 (show(9:Nat)≠10 by decide) (oqQ 9 rfl (Pt b (0+i*5+4)) (Pt b (0+i*5+4)) rfl rfl kF kF) (oqQ 9 rfl (Pt b (0+i*5+4)) (Pt b (0+i*5+4)) rfl rfl kF kF)
  ·exact ObS.stP 0 b (0+i*5+4) (q.flatMap Bk.cs++j) 58 9 (St (A.del k).bytes) (.tmp 49) (.tmp 46) rfl rfl rfl rfl [46,49] (λu=>[(St (A.del k).bytes),(Pt b (0+i*5+4))]) kF kF kF kR kR (by rw[L4,c4];show _+1<=_;omega) kR
  intro j3 h7 c0 h2;refine zn (zB [2] [(f,20)] (aX 2 N (zn (aA (dW [3] [(N,20)] [(bnV p (some ⟨b,0,none⟩) q.length c)] (λW' a=>?_))))));have a8:Yu q i o.n A k y=(q.set i (y.withD (A.del k).bytes)):=by unfold Yu;rw[N1 oW]
  rw[a8];have M:(q.set i (y.withD (A.del k).bytes)).length=q.length:=T2;have c2:=rP (q.set i (y.withD (A.del k).bytes));have e8:=a.eqv (show _=(([]++(b,.cells ((q.set i (y.withD (A.del k).bytes)).flatMap Bk.cs++j).toArray 58 (0,0))::[Y1,(bK N (dO p (some ⟨b,0,none⟩) q.length c) 29),(bK O (mD (A.del k) E F G C r D) 79)])++I)from by rw[<-PQ q i y (A.del k).bytes j hy];kernel_rfl);refine fN 0 4 (b,.cells ((q.set i (y.withD (A.del k).bytes)).flatMap Bk.cs++j).toArray 58 (0,0)) e8 (View.le_trans (View.le_trans (View.le_trans a1 L) a6) c0) ⟨j,?_,rfl,?_⟩
  ·rw[M];rfl
  ·rw[M];obtain⟨g1,g2,g3,g4⟩:=c8;exact⟨by rw[c2,M],by rw[L4,c2,M];rw[L4,c4]at g2;exact g2,g3,g4⟩
theorem EB(v:Int):∀(i:Nat) (l:List Int),lX v i l<0\/∃k:Nat,lX v i l=((i+k:Nat):Int)/\k<l.length
 |_,[]=>.inl (show(-1:Int)<0 by decide)
 |i,x::r=>by
  rw[lX];split
  ·exact .inr ⟨0,rfl,by simp⟩
  ·rcases EB v (i+1) r with h|⟨k,a,d⟩
   ·exact .inl h
   ·exact .inr ⟨k+1,by rw[a];congr 1;omega,by rw[M9];omega⟩
theorem Xj{p:Pr}{l:List Bk}(h:aK p l=0):0<l.length:=by
 rcases Nat.eq_zero_or_pos l.length with d|d
 ·obtain rfl:=O7.1 d;unfold aK sL at h;split at h
  ·next a=>exact absurd h (Q0.1 a)
  ·split at h
   ·next a=>exact absurd h (Q0.1 a)
   ·next a=>
    have f:fG p []=0:=by simpa using a
    unfold fG at f;rw[M5 (by decide),show rK []=false from rfl]at f;cases f
 ·exact d
theorem Tq{U:View}{a:Option Addr}{l:List Bk}(h:cG U a l)(d:0<l.length):∃b f,a=some ⟨b,f,none⟩/\U.range b f (l.flatMap Bk.cs):=by
 obtain⟨b,f,e,_⟩:=h.at_ 0 _ (K8 d);refine⟨b,f,e,cG.flat λi x u=>?_⟩;obtain⟨j,k,g,r⟩:=h.at_ i x u;rw[e]at g;obtain⟨rfl,rfl⟩:b=j/\f=k:=by cases g;exact⟨rfl,rfl⟩
 exact r
noncomputable def srZ(p:Pr)(l:List Bk)(num:Int):Int:=if aK p l !=0 then aK p l else match qQ l with
 |none=>2
 |some q=>if !(fI l num).2 then 15 else aK p (DU q l num)
noncomputable def srP(p:Pr)(l:List Bk)(num:Int):Pr:=if aK p l !=0 then Pr.zero else match qQ l with
 |none=>Pr.zero
 |some q=>if !(fI l num).2 then Pr.zero else gD p (DU q l num)
noncomputable def srL(p:Pr)(l:List Bk)(num:Int):List Bk:=if aK p l !=0 then[]else match qQ l with
 |none=>[]
 |some q=>if !(fI l num).2 then[]else sT p (DU q l num)
def lO(p:Pr)(l:List Bk)(num:Int):Value->View->Prop:=rR (srP p l num) (srL p l num) (srZ p l num)
theorem NX{p:Pr}{l:List Bk}{num:Int}(h:(aK p l !=0)=true){v:Value}{V:View}(a:v=.tuple #[bnV Pr.zero none 0 0,.int .i64 (aK p l)]):lO p l num v V:=by
 unfold lO srP srL srZ;rw[N1 h,N1 h,N1 h];exact⟨none,0,a,cG.nil⟩
theorem NW{p:Pr}{l:List Bk}{num:Int}(h:(aK p l !=0)=false)(a:qQ l=none){v:Value}{V:View}(d:v=.tuple #[bnV Pr.zero none 0 0,.int .i64 2]):lO p l num v V:=by
 unfold lO srP srL srZ;rw[h,a];exact⟨none,0,d,cG.nil⟩
theorem NV{p:Pr}{l:List Bk}{num:Int}{q:List Op}(h:(aK p l !=0)=false)(d:qQ l=some q)(a:(!(fI l num).2)=true){v:Value}{V:View}(f:v=.tuple #[bnV Pr.zero none 0 0,.int .i64 15]):lO p l num v V:=by
 unfold lO srP srL srZ;rw[h,d];simp only[a,N9,if_false,if_true];exact⟨none,0,f,cG.nil⟩
theorem tY{p:Pr}{l m:List Bk}{num:Int}{q:List Op}(h:(aK p l !=0)=false)(d:qQ l=some q)(a:(!(fI l num).2)=false)(hm:m=DU q l num){v:Value}{V:View}(f:rR (gD p m) (sT p m) (aK p m) v V):lO p l num v V:=by
 unfold lO srP srL srZ;rw[h,d];simp only[a,N9,if_false];rw[<-hm];exact f
theorem Mi{p:Pr}{l:List Bk}{q:List Op}(num:Int)(g:aK p l=0)(a:qQ l=some q):∃se si,St0 l q se si num:=by
 unfold qQ at a;split at a
 ·cases a
 ·next se d=>
  split at a
  ·cases a
  ·next si f=>exact⟨se,si,(N5 a).symm,d,f,VK (LO g)⟩
theorem Xs{l:List Bk}{q:List Op}{num:Int}(h:∀x∈l,x.ok):∀z∈l.filterMap (stB q num),z.ok:=by
 intro z C;obtain⟨x,B,e⟩:=W3.1 C;have d:=h x B;unfold stB at e;split at e
 ·cases e
 ·split at e
  ·cases e
  ·split at e
   ·split at e
    ·next a j=>
     split at e
     ·next u=>
      obtain rfl:=N5 e;refine⟨d.f,?_⟩;have A:=(fW j).2.1;have r:(lX num 0 a.t).toNat<a.t.length:=by
       rcases EB num 0 a.t with g|⟨k,g,D⟩<;>omega
      have f:=AY A r u;unfold As.right at f;rw[L5,N0]at f;show(a.del (lX num 0 a.t).toNat).bytes.length<=R47;unfold R47;omega
     ·cases e
    ·obtain rfl:=N5 e;exact d
   ·obtain rfl:=N5 e;exact d
section
variable {l:List Bk} {q se si:List Op} {num:Int} (H:St0 l q se si num) (hpw:l.Pairwise (λx y=>x.n≠y.n)) {i:Nat} {o:Op} (ho:q[i]? =some o)
include H hpw ho
theorem St0.skip(h:(o.t !=num||o.n==num)=true):l.filterMap (stB (q.take (i+1)) num)=l.filterMap (stB (q.take i) num):=by
 rw[H.step hpw ho];unfold Xx;rw[N1 h]
theorem St0.seal(h:(o.t !=num||o.n==num)=false)(a:(o.k==2)=true):l.filterMap (stB (q.take (i+1)) num)=(l.filterMap (stB (q.take i) num)).filter λx=>x.n !=o.n:=by
 rw[H.step hpw ho];unfold Xx;rw[M5 (by rw[h];exact M3),N1 a]
theorem St0.sign(h:(o.t !=num||o.n==num)=false)(a:(o.k==2)=false):l.filterMap (stB (q.take (i+1)) num)=(l.filterMap (stB (q.take i) num)).filterMap (unB num o.n):=by
 rw[H.step hpw ho];unfold Xx;rw[M5 (by rw[h];exact M3),M5 (by rw[a];exact M3)]
end
structure Sr where
 i:Nat
 m:List Bk
 j:List Value
theorem YR(eA:Addr)(p:Pr)(l:List Bk)(a:Option Addr)(c:Nat)(num:Int)(w:World){U:View}(hU:See U w)(hE:EF U eA)(hp:p.ok)(Z:cG U a l):CP 7 #[bnV p a l.length c,.int .i64 num] w (fV w U (lO p l num)):=by
 refine dC 79 Tryz.func7 hU ?_;refine zs (zr (aW (λG=>(aW (λB=>(zq 1 (zn (zs (zB [1] [(G,20)] (cY 22 #[(bnV p a l.length c)] (I6 (aK p l)) (λW g=>mU p l _ _ W g.view hp Z) ?_))))))))));refine zq 1 (zn (zQ 2 (zn (iE (aK p l) 0 (λD _=>?_) (λD j9=>?_)))))
 ·refine zQ 2 (aX 1 B (zq 1 (zn (aA (dW [2,0] [(B,20)] [(.agg Z20.toArray),(I6 (aK p l))] (λW' g=>?_))))));exact aJ g (View.le_refl _) (NX D rfl)
 ·refine zk (zB [1] [(G,20)] ?_);rcases N2 ((qQ l).isSome)with h1|h1
  ·refine pT 23 #[(bnV p a l.length c)] (λv F=>NI (qQ l) v F) kR (λW g=>VV eA p l _ _ (hE.le g.view) (Z.le g.view) (λx hx=>by have:=(fL (by simpa using D:aK p l=0)).2 x hx;omega) (by have:=(fL (by simpa using D:aK p l=0)).1;omega) (Mem.all W)) kR kR (λv2 s2 a8=>?_);obtain⟨q,K⟩:=P4.1 h1;rw[K]at a8;obtain⟨r2,j1,L2,rfl,rfl,c7,e6⟩:=a8;have k1:=VP K;have c1:=fL (by simpa using D:aK p l=0);have j3:=c1.1;obtain⟨se,si,H⟩:=Mi num (by simpa using D:aK p l=0) K;have hpw:=LO (by simpa using D:aK p l=0);refine zq 5 (zn (zs (zQ 2 (zn (cU (zk (zs (zB [1,0] [(G,20)] (cY 24 #[(bnV p a l.length c),(I6 num)] (.tuple #[(.agg #[(I6 (fI l num).1.t),(I6 (fI l num).1.n),(N6 (fI l num).1.f),(I6 (fI l num).1.c),(St (fI l num).1.d)]),(.bool (fI l num).2)]) (λW g=>BD p l _ _ num W g.view Z) ?_)))))))));refine zq 3 (dB 2 (λb3=>?_));let Y1:=(bK b3 [(I6 (fI l num).1.t),(I6 (fI l num).1.n),(N6 (fI l num).1.f),(I6 (fI l num).1.c),(St (fI l num).1.d)] 58);refine aX 2 b3 (zq 1 (zn (zQ 2 (zn (gK (!(fI l num).2) (λh2=>?_) (λh2=>?_))))))
   ·refine zQ 1 (aX 1 B (zq 1 (zn (aA (dW [2,0] [(B,20)] [(.agg Z20.toArray),(I6 15)] (λW' g=>?_))))));exact aJ g (View.le_refl _) (NV D K h2 rfl)
   ·refine zk (zs (zr ?_));refine sK 7 r2 j1 3 q.length [(bK G (dO p a l.length c) 29),(B,.cells Z20.toArray 29 (0,0)),Y1] 71 kR c7.ok kR (λa4 c4 V4 E e9 k0=>?_);have k5:=Z.le E;have k6:=(c7.opAny (V':=U)).le E;have a1:=k6.done (by decide) e9 (View.le_refl _) (by unfold R47;omega);rw[e6]at a1;have V:0<l.length:=Xj (by simpa using D:aK p l=0);refine cF [1] [(G,20)] ?_;refine pT 26 #[(bnV p a l.length c)] (λv F=>∃b c',OwB p b c' l v F) kR (λW g=>(by obtain⟨aa,ff,ea,j0⟩:=Tq k5 V;subst ea;exact Pu p l aa ff c (λj v h=>g.view _ _ (j0 j v h)) V oW (Mem.all W))) kR kR (λv7 s7 e7=>?_);obtain⟨C,I,j7,rfl,rfl,h8⟩:=e7;refine zq 1 (eO 3 (λW g=>rG p l C I j7 num g h8 Z.ok oW) (λv8 V8 s8 J e8=>?_));have k9:=a1.le J;obtain⟨j8,rfl,rfl,h9⟩:=e8;refine aW (λk=>(aX 4 k (zn (zs (zQ 3 (zn (aB (eF (α:=Sr) (λx=>[1,4,5,11,43,44,45].zip [(I6 num),(Pt B 0),(I6 0),(Pt k 0),(.slice a4 q.length c4),(L6 q.length),(L6 x.i)]) (λx=>V8) (λx=>[(C,(.cells (x.m.flatMap Bk.cs++x.j).toArray 58 (0,0))),(bK G (dO p a l.length c) 29),(B,.cells Z20.toArray 29 (0,0)),Y1,(bK k (dO p (some ⟨C,0,none⟩) x.m.length I) 29)]) (λx=>x.i<=q.length/\x.m=l.filterMap (stB (q.take x.i) num)/\(Rw.row C I x.j).ok 5 x.m.length (x.m.flatMap Bk.cs)) (λx=>q.length-x.i) ⟨0,l.filter (λx=>x.n !=num),j8⟩ ?_ ?_))))))))
    ·exact⟨M8 _,by rw[S6];exact(Kd l num).symm,h9⟩
    intro x hx;let Y3:=(bK k (dO p (some ⟨C,0,none⟩) x.m.length I) 29);let Y2:aH:=[(C,(.cells (x.m.flatMap Bk.cs++x.j).toArray 58 (0,0))),(bK G (dO p a l.length c) 29),(B,.cells Z20.toArray 29 (0,0)),Y1,Y3];obtain⟨k2,A,M⟩:=hx;have L:∀z∈x.m,z.ok:=by rw[A];exact Xs Z.ok
    have k3:x.m.length<=l.length:=by rw[A];exact List.length_filterMap_le _ _
    refine zQ 1 (zn (zs (aZ ((x.i:Int)<(q.length:Int)) (λh3 e1=>?_) (λh3 e1=>?_))))
    ·refine zk (zs (aB (zs (zr ?_))));obtain⟨f,r⟩:∃y,(q)[x.i]? =some y:=⟨(q)[x.i]'oW,K8 _⟩;obtain⟨X,Y,j2,rfl,b5,b2⟩:=k9.at_ x.i f r;obtain rfl:=b2;refine cB (Pt X (Y+x.i*3)) (rIx 71 rfl X Y q.length c4 x.i 3) ?_;refine zU X (Y+x.i*3) [(I6 f.k),(I6 f.n),(I6 f.t)] b5 71 (.tmp 47) _ Tryz.underlying71 rfl ?_;refine aW (λu=>(aX 5 u (zn (aB (zB [0,6,0,0,0] [(u,1)] (jB 57 f.t num (λh4 e2=>?_) (λh4 e2=>?_)))))))
     ·refine zq 6 (zn (dM (zk (zr (zq 1 (dH 71 ((x.i:Int)+1) (zq 1 (zn ?_))))))));refine nx ⟨x.i+1,x.m,x.j⟩ ?_ ?_ (d:=λ_ h=>Mem.sub (M4 _ _) (h.eqv (show _=(Y2:aH)++([(bK u [(I6 f.k),(I6 f.n),(I6 f.t)] 71)]:aH)from by kernel_rfl)))
      ·exact⟨by show x.i+1<=_;omega,by rw[H.skip hpw r (by rw[h4];rfl)];exact A,M⟩
      ·show q.length-(x.i+1)<q.length-x.i;omega
     ·refine cF [0,6,0,0,0,0] [(u,1)] (zn (fC f.n num (λh5 e3=>?_) (λh5 e3=>?_)))
      ·refine zk (zr (zq 1 (dH 71 ((x.i:Int)+1) (zq 1 (zn ?_)))));refine nx ⟨x.i+1,x.m,x.j⟩ ?_ ?_ (d:=λ_ h=>Mem.sub (M4 _ _) (h.eqv (show _=(Y2:aH)++([(bK u [(I6 f.k),(I6 f.n),(I6 f.t)] 71)]:aH)from by kernel_rfl)))
       ·exact⟨by show x.i+1<=_;omega,by rw[H.skip hpw r (by rw[h4,h5];rfl)];exact A,M⟩
       ·show q.length-(x.i+1)<q.length-x.i;omega
      ·refine zB [0,6,0,0] [(u,1)] (zn (fC f.k 2 (λh6 e4=>?_) (λh6 e4=>?_)))
       ·refine zr (cF [5,0,6] [(k,20),(u,1)] (eO 0 (λW g=>rG p x.m C I x.j f.n g M L oW) (λl0 j4 k4 b6 a6=>?_)));obtain⟨c8,rfl,rfl,c2⟩:=a6;refine aX 4 k (zn (zr (zq 1 (dH 71 ((x.i:Int)+1) (zq 1 (zn ?_))))));refine nx ⟨x.i+1,(x.m.filter λx=>x.n !=f.n),c8⟩ ?_ ?_ (d:=λ_ h=>Mem.sub (M4 _ _) ((h.weak b6).eqv (show _=([(C,(.cells ((x.m.filter λx=>x.n !=f.n).flatMap Bk.cs++c8).toArray 58 (0,0))),(bK G (dO p a l.length c) 29),(B,.cells Z20.toArray 29 (0,0)),Y1,(bK k [(N6 p.f),(I6 p.c),(I6 p.dst.s),(St p.dst.l),(N6 p.dst.n),(N6 p.dst.v),(I6 p.src.s),(St p.src.l),(N6 p.src.n),(N6 p.src.v),(I6 p.rpt.s),(St p.rpt.l),(N6 p.rpt.n),(N6 p.rpt.v),(N6 p.time),(N6 p.seq),(N6 p.life),(N6 p.off),(N6 p.tot),(Sl C 0 (x.m.filter λx=>x.n !=f.n).length I)] 29)]:aH)++([(bK u [(I6 f.k),(I6 f.n),(I6 f.t)] 71)]:aH)from by kernel_rfl)))
        ·exact⟨by show x.i+1<=_;omega,by rw[H.seal hpw r (by rw[h4,h5];rfl) h6,<-A],c2⟩
        ·show q.length-(x.i+1)<q.length-x.i;omega
       ·refine zr ?_;have c0:=H.found hpw r ((H.kinds (K9 r)).resolve_right (by simpa using h6)) (by simpa using h4) (by simpa using h5);rw[<-A]at c0;obtain⟨ii,kk,yy,AA,g1,g2,g3,g4,g5,g6,g7⟩:=c0;refine cF [5,6] [(k,20),(u,3)] (eO 0 (λW g=>LU eA p x.m C I x.j f ii kk yy AA (hE.le (View.le_trans E J)) g M L oW g1 g2 (by have:=c1.2 yy g3;omega) g4 g5 g6) (λl1 j5 k7 b7 a7=>?_));obtain⟨e0,rfl,rfl,c6⟩:=a7;refine aX 4 k (zn (zr (zq 1 (dH 71 ((x.i:Int)+1) (zq 1 (zn ?_))))));refine nx ⟨x.i+1,(Yu x.m ii f.n AA kk yy),e0⟩ ?_ ?_ (d:=λ_ h=>Mem.sub (M4 _ _) ((h.weak b7).eqv (show _=([(C,(.cells ((Yu x.m ii f.n AA kk yy).flatMap Bk.cs++e0).toArray 58 (0,0))),(bK G (dO p a l.length c) 29),(B,.cells Z20.toArray 29 (0,0)),Y1,(bK k [(N6 p.f),(I6 p.c),(I6 p.dst.s),(St p.dst.l),(N6 p.dst.n),(N6 p.dst.v),(I6 p.src.s),(St p.src.l),(N6 p.src.n),(N6 p.src.v),(I6 p.rpt.s),(St p.rpt.l),(N6 p.rpt.n),(N6 p.rpt.v),(N6 p.time),(N6 p.seq),(N6 p.life),(N6 p.off),(N6 p.tot),(Sl C 0 (Yu x.m ii f.n AA kk yy).length I)] 29)]:aH)++([(bK u [(I6 f.k),(I6 f.n),(I6 f.t)] 71)]:aH)from by kernel_rfl)))
        ·exact⟨by show x.i+1<=_;omega,by rw[H.sign hpw r (by rw[h4,h5];rfl) h6,<-A];exact g7,c6⟩
        ·show q.length-(x.i+1)<q.length-x.i;omega
    ·refine aI (zs (zB [5] [(k,20)] (cY 22 #[(bnV p (some ⟨C,0,none⟩) x.m.length I)] (I6 (aK p x.m)) (λW g=>mU p x.m _ _ W (U:=QZ W) (λ_ _ h=>h) hp (BB 0 C x.m x.j g kR L (by unfold R47;omega))) ?_)));refine zq 1 (zn (zQ 2 (zn (iE (aK p x.m) 0 (λN e5=>?_) (λN e5=>?_)))))
     ·refine zQ 2 (aX 2 B (zq 1 (zn (aA (dW [3,0] [(B,20)] [(.agg Z20.toArray),(I6 (aK p x.m))] (λW' g=>?_))))));exact aJ g (View.le_trans E J) (tY (m:=x.m) D K h2 (by rw[A,O2 oW];rfl) ⟨none,0,by unfold gD sT;rw[N1 N,N1 N];rfl,by unfold sT;rw[N1 N];exact cG.nil⟩)
     ·refine zk (zs (zr ?_));refine eY [] [(bK G (dO p a l.length c) 29),(B,.cells Z20.toArray 29 (0,0)),Y1,Y3] C (x.m.flatMap Bk.cs++x.j) 58 kR (λj6 b8 b4=>?_);refine cF [4] [(k,20)] (aX 1 B (zq 1 (zn (aA (dW [2,0] [(B,20)] [(bnV p (some ⟨C,0,none⟩) x.m.length I),(I6 0)] (λW' g=>?_))))));exact aJ g (View.le_trans (View.le_trans E J) b8) (tY (m:=x.m) D K h2 (by rw[A,O2 oW];rfl) ⟨_,_,by unfold gD sT;rw[M5 (by rw[N];exact M3),M5 (by rw[N];exact M3),show aK p x.m=0 by simpa using N];rfl,by unfold sT;rw[M5 (by rw[N];exact M3)];exact cG.of (gF b4).1 L (by unfold R47;omega)⟩)
  ·refine pT 23 #[(bnV p a l.length c)] (λv F=>NI (qQ l) v F) kR (λW g=>VV eA p l _ _ (hE.le g.view) (Z.le g.view) (λx hx=>by have:=(fL (by simpa using D:aK p l=0)).2 x hx;omega) (by have:=(fL (by simpa using D:aK p l=0)).1;omega) (Mem.all W)) kR kR (λl2 k8 O=>?_);have K:=Q6.1 (by rw[h1];exact M3);rw[K]at O;obtain⟨rfl,rfl⟩:=O;refine qV U _ (λ_ h=>h.eqv (M1 _)) ?_;refine zq 5 (zn (zs (zQ 2 (zn (dM (zQ 2 (aX 1 B (zq 1 (zn (aA (dW [2,0] [(B,20)] [(.agg Z20.toArray),(I6 2)] (λW' g=>?_))))))))))));exact aJ g (View.le_refl _) (NW D K rfl)
structure Fl where
 st:Bool
 rd:Bool
 lf:List Int
def flO(num n:Int)(f:Fl)(o:Op):Fl:=if o.n !=n||n==num then f else⟨f.st&& !(o.t==num&&o.k==2),f.rd||o.k==1,if o.k==1&&o.t !=num then f.lf++[o.t]else f.lf⟩
def flA(num n:Int):Fl->List Op->Fl
 |f,[]=>f
 |f,o::r=>flA num n (flO num n f o) r
theorem AW{num n:Int}{f:Fl}{q:List Op}{i:Nat}{o:Op}(h:q[i]? =some o):flA num n f (q.drop i)=flA num n (flO num n f o) (q.drop (i+1)):=by
 rw[dS h,flA]
noncomputable def BK(q:List Op)(num:Int)(x:Bk):Option Bk:=
 let f:=flA num x.n ⟨x.n !=num,false,[]⟩ q
 if f.rd&&x.t==11 then match dI x.d with
  |some a=>if f.st&&decide (0<f.lf.length)then some (if lX num 0 a.t≥0 then x.withD (a.del (lX num 0 a.t).toNat).bytes else x)else none
  |none=>if f.st&&decide (0<f.lf.length)then some x else none
 else if f.st then some x else none
theorem Lw{num n:Int}:∀(q:List Op) (f:Fl),(flA num n f q).st=(f.st&& !(n !=num&&mW q n num))
 | [],f=>by simp[flA,mW]
 |o::r,f=>by
  rw[flA,Lw r];have e:mW (o::r) n num=((o.k==2&&o.n==n&&o.t==num)||mW r n num):=by unfold mW;rw[Z7]
  rw[e];unfold flO;cases g:o.n==n<;>cases d:n==num<;>cases a:o.k==2<;>cases h:o.t==num<;>simp[bne,g,d,a,h,Bool.and_assoc]
theorem Lv{num n:Int}:∀(q:List Op) (f:Fl),(flA num n f q).rd=(f.rd||(n !=num&&q.any λo=>o.k==1&&o.n==n))
 | [],f=>by simp[flA]
 |o::r,f=>by
  rw[flA,Lv r,Z7];unfold flO;cases g:o.n==n<;>cases d:n==num<;>cases a:o.k==1<;>simp[bne,g,d,a]
theorem Lu{num n:Int}:∀(q:List Op) (f:Fl),(flA num n f q).lf=f.lf++(if n==num then[]else(q.filter λo=>o.k==1&&o.n==n&&o.t !=num).map Op.t)
 | [],f=>by cases h:n==num<;>simp[flA]
 |o::r,f=>by
  rw[flA,Lu r,U0];unfold flO;cases g:o.n==n<;>cases d:n==num<;>cases a:o.k==1<;>cases j:o.t==num<;>simp[bne,g,d,a,j]
theorem Xu{l:List Bk}{q:List Op}{num:Int}(h:∀x∈l,x.d.length<=100000):∀z∈l.filterMap (stB q num),z.d.length<=1000000:=by
 intro z C;obtain⟨x,A,e⟩:=W3.1 C;have B:=h x A;unfold stB at e;split at e
 ·cases e
 ·split at e
  ·cases e
  ·split at e
   ·split at e
    ·next a g=>
     split at e
     ·next r=>
      obtain rfl:=N5 e;have u:=(fW g).2.1;have j:(lX num 0 a.t).toNat<a.t.length:=by
       rcases EB num 0 a.t with f|⟨k,f,D⟩<;>omega
      have d:=AY u j r;unfold As.right at d;rw[L5,N0]at d;show(a.del (lX num 0 a.t).toNat).bytes.length<=1000000;omega
     ·cases e
    ·obtain rfl:=N5 e;omega
   ·obtain rfl:=N5 e;omega
theorem jT{α β:Type}{f:α->Option β}{l:List α}{i:Nat}{y:α}(h:l[i]? =some y):(l.take (i+1)).filterMap f=(l.take i).filterMap f++(f y).toList:=by
 rw[Q9,h,List.filterMap_append];cases a:f y<;>simp[a]
theorem VZ{v:Int}:∀{l:List Int} (i:Nat),v∉l->lX v i l= -1
 | [],i,_=>rfl
 |x::r,i,h=>by
  rw[lX,M5 (by rw[S5];exact λ(e:v=x)=>h (e▸Q3))];exact VZ (i+1) λa=>h (P3 _ a)
theorem TP{a:As}{k:Nat}(h:cW a=true)(A:k<a.t.length):BO (a.del k)=true:=by
 unfold cW at h;unfold BO;simp only[L5,N0]at h ⊢;obtain⟨⟨⟨⟨⟨⟨⟨⟨E,F⟩,f⟩,g⟩,j⟩,r⟩,u⟩,G⟩,d⟩:=h;have C:(a.del k).t.length=a.t.length-1:=List.length_eraseIdx_of_lt A;have D:(a.del k).r.length=a.r.length-1:=List.length_eraseIdx_of_lt oW;refine⟨⟨⟨⟨⟨⟨⟨by omega,tP f⟩,g⟩,j⟩,r⟩,u⟩,by omega⟩,?_⟩;rw[M7]at d ⊢;exact λx B=>d x (List.mem_of_mem_eraseIdx B)
section
variable {l:List Bk} {q se si:List Op} {num:Int} (H:St0 l q se si num)
include H
theorem St0.signer{o:Op}(ho:o∈q)(k:o.k=1){x:Bk}(u:x∈l)(r:o.n=x.n):x.t=11/\dE se 2 x.n=false/\∃a,dI x.d=some a/\o.t∈a.t:=by
 rw[H.hq]at ho;rcases S3.1 ho with ho|ho
 ·exact absurd (eZ H.hse o ho) (by rw[k];decide)
 ·obtain⟨y,A,a,d,f,g,h,j,_⟩:=rI H.hsi o ho;obtain rfl:=H.inj y A x u (by rw[<-h,r]);exact⟨d,f,a,g,j⟩
theorem St0.ops_of{x:Bk}(j:x∈l)(h:x.t=11)(ho:dE se 2 x.n=false){a:As}(f:dI x.d=some a):∀t∈a.t,(⟨1,x.n,t⟩:Op)∈q:=by
 intro t g;obtain⟨b,d,hs⟩:=sA H.hsi x j h ho;rw[f]at d;obtain rfl:=N5 d;rw[H.hq];exact av _ (hs.subset (S1.2 ⟨t,g,rfl⟩))
theorem St0.ref_eq{x:Bk}(I:x∈l):BK q num x=stB q num x:=by
 unfold BK;simp only;rw[Lw,Lv,Lu];cases u:x.n==num with
 |true=>
  unfold stB;rw[N1 u];simp[bne,u]
 |false=>
  have F:x.n≠num:=M2.1 u;rw[show(x.n !=num)=true by rw[bne,u];rfl];simp only[R9,R5,R0,N9,if_false];cases hs:mW q x.n num with
  |true=>
   have e:stB q num x=none:=by
    unfold stB;rw[M5 (by rw[u];exact M3),N1 hs]
   rw[e];simp only[Bool.not_true,Bool.false_and,N9,if_false];split
   ·split<;>rfl
   ·rfl
  |false=>
   simp only[Bool.not_false,R9];cases N:q.any λo=>o.k==1&&o.n==x.n with
   |false=>
    have D:oV q x.n num=false:=by
     cases A:oV q x.n num with
     |false=>rfl
     |true=>
      unfold oV at A;obtain⟨o,ho,r⟩:=T8.1 A;simp only[L5]at r;rw[List.any_eq_false]at N;exact absurd (by rw[L5];exact r.1) (N o ho)
    rw[AD F hs D];simp
   |true=>
    obtain⟨o,ho,r⟩:=T8.1 N;simp only[L5,S5]at r;obtain⟨O,C,a,g,_⟩:=H.signer ho r.1 I r.2;have G:=H.ops_of I O C g;obtain⟨hpw,a1⟩:=DW g;rw[O,g];simp only[ax,Bool.and_self,if_true];have E:∀t∈a.t,t≠num->0<((q.filter λo=>o.k==1&&o.n==x.n&&o.t !=num).map Op.t).length:=by
     intro t L j;rw[O1];exact List.length_pos_of_mem (a:=(⟨1,x.n,t⟩:Op)) (ao.2 ⟨G t L,by simp[j]⟩)
    by_cases d:num∈a.t
    ·have D:=(H.sign_iff I).2 ⟨O,C,a,g,d⟩;obtain⟨k,hk,_⟩:=GG 0 d;have e:stB q num x=if 1<a.t.length then some (x.withD (a.del (lX num 0 a.t).toNat).bytes)else none:=by
      unfold stB;rw[M5 (by rw[u];exact M3),M5 (by rw[hs];exact M3),N1 D,g]
     rw[e,N1 (show lX num 0 a.t≥0 by rw[hk];omega)];by_cases K:1<a.t.length
     ·have h2:∃t∈a.t,t≠num:=by
       have p0:=T0.1 hpw 0 1 oW K oW;by_cases V:a.t[0]=num
       ·exact⟨a.t[1],List.getElem_mem _,λY=>p0 (by rw[V,Y])⟩
       ·exact⟨a.t[0],List.getElem_mem _,V⟩
      obtain⟨t,L,j⟩:=h2;rw[N1 K,N1 (by simpa using E t L j)]
     ·obtain⟨z,A⟩:=List.length_eq_one_iff.1 (show a.t.length=1 by omega);have Z:(q.filter λo=>o.k==1&&o.n==x.n&&o.t !=num)=[]:=by
       rw[List.filter_eq_nil_iff];intro o' M f;simp only[L5,S5,Q0]at f;obtain⟨_,_,a',B,h⟩:=H.signer M f.1.1 I f.1.2;rw[g]at B;obtain rfl:=N5 B;rw[A]at h d;rw[R7]at h d;exact f.2 (h.trans d.symm)
      rw[M5 K,Z,M5 (by simp)]
    ·have D:oV q x.n num=false:=by
      cases A:oV q x.n num with
      |false=>rfl
      |true=>
       obtain⟨_,_,b,X,J⟩:=(H.sign_iff I).1 A;rw[g]at X;obtain rfl:=N5 X;exact absurd J d
     have a6:0<a.t.length:=by omega
     rw[AD F hs D,M5 (show¬lX num 0 a.t≥0 by rw[VZ 0 d];decide),N1 (by simpa using E a.t[0] (List.getElem_mem _) λe=>d (e▸List.getElem_mem _))]
end
theorem mE{p:Pr}{l:List Bk}{num:Int}(h:srZ p l num=0):aK p l=0/\∃q,qQ l=some q/\srP p l num=p/\srL p l num=DU q l num/\aK p (DU q l num)=0:=by
 unfold srZ at h;unfold srP srL;split at h
 ·next a=>exact absurd h (Q0.1 a)
 ·next a=>
  refine⟨by simpa using a,?_⟩;rw[M5 a,M5 a];split at h
  ·cases h
  ·next q f=>
   split at h
   ·cases h
   ·next d=>
    rw[f];refine⟨q,rfl,?_,?_,h⟩
    ·show(if(!(fI l num).2)=true then Pr.zero else gD p (DU q l num))=p;rw[M5 d];unfold gD;rw[h];rfl
    ·show(if(!(fI l num).2)=true then[]else sT p (DU q l num))=DU q l num;rw[M5 d];unfold sT;rw[h];rfl
structure Qo where
 i:Nat
 m:List Bk
 n:Nat
 xs:List Value
 r:Rw
 V:View
structure Qi where
 i:Nat
 st:Bool
 rd:Bool
 n:Nat
 r:Rw
 xs:List Value
 L:List (Int×List Value)
theorem Tf{U:View}:DR U none none none As.zero:=⟨gV.nil,fJ.nil,fJ.nil,by constructor<;>decide⟩
set_option maxHeartbeats 16000000 in
theorem OO(p:Pr)(l:List Bk)(a:Option Addr)(c:Nat)(num:Int)(w:World){U:View}(hU:See U w)(hp:p.ok)(hl:cG U a l)(e6:∀x∈l,x.d.length<=100000)(q6:l.length<=1000):CP 8 #[bnV p a l.length c,.int .i64 num] w (fV w U (lO p l num)):=by
 refine dC 165 Tryz.func8 hU ?_;refine zs (zr (aW (λD=>(aW (λE=>(zq 1 (zn (zs (zB [1] [(D,20)] (oI 28 #[(bnV p a l.length c)] (λv _=>v=.int .i64 (aK p l)) (λW B=>rE p l _ _ W B.view hp hl (λx hx=>by have:=e6 x hx;omega)) (λv2 V2 e5 r7=>?_)))))))))));have k3:=hl.le e5;obtain rfl:=r7;refine zq 1 (zn (zQ 2 (zn (iE (aK p l) 0 (λh0 _=>?_) (λh0 w5=>?_)))))
 ·refine zQ 2 (aX 1 E (zq 1 (zn (aA (dW [2,0] [(E,20)] [(.agg Z20.toArray),(I6 (aK p l))] (λW' B=>?_))))));exact aJ B e5 (NX h0 rfl)
 ·refine zk (zB [1] [(D,20)] ?_);rcases N2 ((qQ l).isSome)with h1|h1
  ·refine oI 29 #[(bnV p a l.length c)] (Dx (QV l)) (λW B=>rW p l _ _ W B.view k3 e6 q6) (λv4 V4 k6 n7=>?_);have k5:=k3.le k6;rw[SX]at n7;obtain⟨q,hq⟩:=P4.1 h1;rw[hq]at n7;obtain⟨q9,J,rfl,r6⟩:=n7;have w9:=VP hq;have s3:=fL (by simpa using h0:aK p l=0);have u6:=s3.1;obtain⟨se,si,H⟩:=Mi num (by simpa using h0:aK p l=0) hq;refine zq 5 (zn (zs (zQ 2 (zn (cU (zk (zs (zB [1,0] [(D,20)] (cY 10 #[(bnV p a l.length c),(I6 num)] (I6 (jC l num)) (λW B=>FF p l _ _ num W B.view k5.to0) ?_)))))))));refine zq 1 (zn (aZ ((jC l num)<0) (λh2 _=>?_) (λh2 w6=>?_)))
   ·refine zQ 1 (aX 1 E (zq 1 (zn (aA (dW [2,0] [(E,20)] [(.agg Z20.toArray),(I6 15)] (λW' B=>?_))))));exact aJ B (View.le_trans e5 k6) (NV h0 hq (by rw[EC (P2 h2)];rfl) rfl)
   ·refine zk (zB [0,1,0] [(D,19)] (aW (λC=>(aX 2 C (zn (zs (zQ 1 (zn (aB (eF (α:=Qo) (λx=>[1,2,4,5,7,9,10].zip [(I6 num),(Pt D 0),(Pt E 0),(I6 0),(.slice q9 q.length J),(Pt C 0),(L6 x.i)]) (λx=>x.V) (λx=>([(bK D (dO p a l.length c) 29),(E,.cells Z20.toArray 29 (0,0)),(bK C [(N6 p.f),(I6 p.c),(I6 p.dst.s),(St p.dst.l),(N6 p.dst.n),(N6 p.dst.v),(I6 p.src.s),(St p.src.l),(N6 p.src.n),(N6 p.src.v),(I6 p.rpt.s),(St p.rpt.l),(N6 p.rpt.n),(N6 p.rpt.v),(N6 p.time),(N6 p.seq),(N6 p.life),(N6 p.off),(N6 p.tot),(x.r.V x.n)] 29)]++x.r.B 58 x.xs)) (λx=>x.i<=l.length/\View.le V4 x.V/\x.r.ok 5 x.n x.xs/\x.n=x.m.length/\x.xs=x.m.flatMap Bk.cs/\x.m=(l.take x.i).filterMap (stB q num)) (λx=>l.length-x.i) ⟨0,[],0,[],Rw.nil,V4⟩ ?_ ?_ (hm:=λ_ h=>h.eqv (U3 kR (M1 ([(bK D (dO p a l.length c) 29),(E,.cells Z20.toArray 29 (0,0)),(bK C (dO p none 0 0) 29)]:aH)).symm))))))))))))
    ·exact⟨M8 _,View.le_refl _,Rw.ok_nil 5,rfl,rfl,by rw[S6];rfl⟩
    intro x hx;obtain⟨x1,F,Z,Y,a1,M⟩:=hx;have v7:x.m.length<=l.length:=by rw[M];exact X0 (List.length_filterMap_le _ _) (by rw[O3];omega)
    refine zs (zB [0,0,1,0,0] [(D,1)] (zn (aZ ((x.i:Int)<(l.length:Int)) (λh3 r1=>?_) (λh3 r1=>?_))))
    ·refine zk (zs (aB (zB [0,1,0] [(D,1)] ?_)));obtain⟨g,r⟩:∃y,(l)[x.i]? =some y:=⟨(l)[x.i]'oW,K8 _⟩;obtain⟨K,L,rfl,r9⟩:=(k5.le F).at_ x.i g r;refine cB (Pt K (L+x.i*5)) (rIx 58 rfl K L l.length c x.i 5) ?_;refine zU K (L+x.i*5) g.cs r9 58 (.tmp 51) _ Tryz.underlying58 rfl ?_;refine dB 3 (λA=>?_);refine aX 3 A (zn (zB [0,4,0,0,0] [(A,1)] (zn (zQ 1 (zn (zQ 1 (zn (zs (zQ 1 (zn (aB (eF (α:=Qi) (λf=>[1,2,4,5,7,9,10,11,12,13,14,15,41,42,43,44,45,48,49,50,51,52,53,54,55,56].zip [(I6 num),(Pt D 0),(Pt E 0),(I6 0),(.slice q9 q.length J),(Pt C 0),(L6 x.i),(Pt A 0),(.bool f.st),(f.r.V f.n),(.bool f.rd),(L6 f.i),(L6 x.i),(Pt D 19),(Sl K L l.length c),(L6 l.length),(.bool (decide ((x.i:Int)<(l.length:Int)))),(Pt D 19),(Sl K L l.length c),(L6 x.i),(Pt K (L+x.i*5)),(g.V),(Pt A 1),(I6 g.n),(I6 num),(.bool (g.n !=num))]) (λf=>x.V) (λf=>([(bK D (dO p (some ⟨K,L,none⟩) l.length c) 29),(E,.cells Z20.toArray 29 (0,0)),(bK C [(N6 p.f),(I6 p.c),(I6 p.dst.s),(St p.dst.l),(N6 p.dst.n),(N6 p.dst.v),(I6 p.src.s),(St p.src.l),(N6 p.src.n),(N6 p.src.v),(I6 p.rpt.s),(St p.rpt.l),(N6 p.rpt.n),(N6 p.rpt.v),(N6 p.time),(N6 p.seq),(N6 p.life),(N6 p.off),(N6 p.tot),(x.r.V x.n)] 29),(bK A g.cs 58)]++x.r.B 58 x.xs++f.r.B 3 f.xs)) (λf=>f.i<=q.length/\f.n<=f.i/\RwR InR 1 x.V f.r f.xs f.n f.L/\flA num g.n ⟨f.st,f.rd,f.L.map Prod.fst⟩ (q.drop f.i)=flA num g.n ⟨g.n !=num,false,[]⟩ q) (λf=>q.length-f.i) ⟨0,g.n !=num,false,0,Rw.nil,[],[]⟩ ?_ ?_ (hm:=λ_ h=>h.eqv (U3 kR (M1 (([(bK D (dO p (some ⟨K,L,none⟩) l.length c) 29),(E,.cells Z20.toArray 29 (0,0)),(bK C [(N6 p.f),(I6 p.c),(I6 p.dst.s),(St p.dst.l),(N6 p.dst.n),(N6 p.dst.v),(I6 p.src.s),(St p.src.l),(N6 p.src.n),(N6 p.src.v),(I6 p.rpt.s),(St p.rpt.l),(N6 p.rpt.n),(N6 p.rpt.v),(N6 p.time),(N6 p.seq),(N6 p.life),(N6 p.off),(N6 p.tot),(x.r.V x.n)] 29),(bK A g.cs 58)]++x.r.B 58 x.xs):aH)).symm))))))))))))))
     ·exact⟨M8 _,O9 _,RwR.nil,rfl⟩
     intro f s5;obtain⟨u7,u9,X,b4⟩:=s5;refine zs (zQ 4 (zn (aZ ((f.i:Int)<(q.length:Int)) (λh4 r2=>?_) (λh4 r2=>?_))))
     ·refine zk (zs (aB (zs (zs ?_))));obtain⟨N,e8⟩:∃y,(q)[f.i]? =some y:=⟨(q)[f.i]'oW,K8 _⟩;obtain⟨G,I,w4,rfl,c6,r8⟩:=(r6.le F).at_ f.i N e8;obtain rfl:=r8;rcases N2 (N.n !=g.n)with h5|h5
      ·have r3:=Q0.1 h5;refine gI 5 [0,0,1,0,1,0,6,1,0,2,2,2] [(A,1)] [.val (Pt G (I+f.i*3)),.val (I6 N.n),.val qT] ⟨?_,?_,?_,trivial⟩ ?_
       ·exact vR (rIx 71 rfl G I q.length J f.i 3)
       ·exact vU1 G (I+f.i*3+1) (c6 1 _ rfl) 3 _ _ Tryz.underlying3 rfl
       ·exact vE (.bool (N.n !=g.n)) (M0 Value.bool h5)
       refine zq 2 (zn (dM (aI (zr (zq 2 (dH 62 ((f.i:Int)+1) (zq 1 (zn ?_))))))));refine nx ⟨f.i+1,f.st,f.rd,f.n,f.r,f.xs,f.L⟩ ?_ ?_
       ·exact⟨by show f.i+1<=_;omega,by show f.n<=f.i+1;omega,X,by rw[<-b4,AW e8];unfold flO;rw[N1 (by rw[h5];rfl)]⟩
       ·show q.length-(f.i+1)<q.length-f.i;omega
      ·have r3:=Q5.1 h5;refine gI 5 [0,0,1,0,1,0,6,1,0,0,6,0] [(A,1),(A,1)] [.val (Pt G (I+f.i*3)),.val (I6 N.n),.val qF] ⟨?_,?_,?_,trivial⟩ ?_
       ·exact vR (rIx 71 rfl G I q.length J f.i 3)
       ·exact vU1 G (I+f.i*3+1) (c6 1 _ rfl) 3 _ _ Tryz.underlying3 rfl
       ·exact vE (.bool (N.n !=g.n)) (M0 Value.bool h5)
       refine zq 2 (zn (fC g.n num (λh6 r4=>?_) (λh6 r4=>?_)))
       ·refine aI (zr (zq 2 (dH 62 ((f.i:Int)+1) (zq 1 (zn ?_)))));refine nx ⟨f.i+1,f.st,f.rd,f.n,f.r,f.xs,f.L⟩ ?_ ?_
        ·exact⟨by show f.i+1<=_;omega,by show f.n<=f.i+1;omega,X,by rw[<-b4,AW e8];unfold flO;rw[N1 (by rw[h5,h6];rfl)]⟩
        ·show q.length-(f.i+1)<q.length-f.i;omega
       ·refine zk ?_;refine dG (α:=Bool) (λb2=>[1,2,4,5,7,9,10,11,12,13,14,15,41,42,43,44,45,48,49,50,51,52,53,54,55,56,57,58,59,60,63,64,65,66,67,68,69,70,71,72,73,74,75,76].zip [(I6 num),(Pt D 0),(Pt E 0),(I6 0),(Sl G I q.length J),(Pt C 0),(L6 x.i),(Pt A 0),(.bool f.st),(f.r.V f.n),(.bool b2),(L6 f.i),(L6 x.i),(Pt D 19),(Sl K L l.length c),(L6 l.length),(.bool (decide ((x.i:Int)<(l.length:Int)))),(Pt D 19),(Sl K L l.length c),(L6 x.i),(Pt K (L+x.i*5)),(g.V),(Pt A 1),(I6 g.n),(I6 num),(.bool (g.n !=num)),(L6 f.i),(Sl G I q.length J),(L6 q.length),(.bool (decide ((f.i:Int)<(q.length:Int)))),(Sl G I q.length J),(L6 f.i),(Pt G (I+f.i*3)),(Pt G (I+f.i*3+1)),(I6 N.n),(Pt A 1),(I6 g.n),qF,qF,(Pt A 1),(I6 g.n),(I6 num),(.bool (g.n==num)),(.bool (g.n==num))]) (λb2=>x.V) (λb2=>([(bK D (dO p (some ⟨K,L,none⟩) l.length c) 29),(E,.cells Z20.toArray 29 (0,0)),(bK C [(N6 p.f),(I6 p.c),(I6 p.dst.s),(St p.dst.l),(N6 p.dst.n),(N6 p.dst.v),(I6 p.src.s),(St p.src.l),(N6 p.src.n),(N6 p.src.v),(I6 p.rpt.s),(St p.rpt.l),(N6 p.rpt.n),(N6 p.rpt.v),(N6 p.time),(N6 p.seq),(N6 p.life),(N6 p.off),(N6 p.tot),(x.r.V x.n)] 29),(bK A g.cs 58)]++x.r.B 58 x.xs++f.r.B 3 f.xs)) (λb2=>b2=((f.rd||(N.k==1)))) ?_ ?_
        ·refine zr (zq 2 (cN 78 f.rd (λh7=>?_) (λh7=>?_)))
         ·refine zq 8 (zn ?_);refine jn true ?_;simp only[h7,bs,bQ,reduceIte]
         ·refine zq 2 (cB (Pt G (I+f.i*3)) (rIx 71 rfl G I q.length J f.i 3) ?_);refine zq 1 (zV G (I+f.i*3+0) (I6 N.k) (c6 0 _ rfl) 3 (.tmp 82) _ Tryz.underlying3 rfl ?_);refine zq 3 (zn ?_);refine jn (N.k==1) ?_;simp only[h7,bs,bQ,reduceIte]
        intro b2 j5;refine dG (α:=Bool) (λb5=>[1,2,4,5,7,9,10,11,12,13,14,15,41,42,43,44,45,48,49,50,51,52,53,54,55,56,57,58,59,60,63,64,65,66,67,68,69,70,71,72,73,74,75,76].zip [(I6 num),(Pt D 0),(Pt E 0),(I6 0),(Sl G I q.length J),(Pt C 0),(L6 x.i),(Pt A 0),(.bool b5),(f.r.V f.n),(.bool b2),(L6 f.i),(L6 x.i),(Pt D 19),(Sl K L l.length c),(L6 l.length),(.bool (decide ((x.i:Int)<(l.length:Int)))),(Pt D 19),(Sl K L l.length c),(L6 x.i),(Pt K (L+x.i*5)),(g.V),(Pt A 1),(I6 g.n),(I6 num),(.bool (g.n !=num)),(L6 f.i),(Sl G I q.length J),(L6 q.length),(.bool (decide ((f.i:Int)<(q.length:Int)))),(Sl G I q.length J),(L6 f.i),(Pt G (I+f.i*3)),(Pt G (I+f.i*3+1)),(I6 N.n),(Pt A 1),(I6 g.n),qF,qF,(Pt A 1),(I6 g.n),(I6 num),(.bool (g.n==num)),(.bool (g.n==num))]) (λb5=>x.V) (λb5=>([(bK D (dO p (some ⟨K,L,none⟩) l.length c) 29),(E,.cells Z20.toArray 29 (0,0)),(bK C [(N6 p.f),(I6 p.c),(I6 p.dst.s),(St p.dst.l),(N6 p.dst.n),(N6 p.dst.v),(I6 p.src.s),(St p.src.l),(N6 p.src.n),(N6 p.src.v),(I6 p.rpt.s),(St p.rpt.l),(N6 p.rpt.n),(N6 p.rpt.v),(N6 p.time),(N6 p.seq),(N6 p.life),(N6 p.off),(N6 p.tot),(x.r.V x.n)] 29),(bK A g.cs 58)]++x.r.B 58 x.xs++f.r.B 3 f.xs)) (λb5=>b5=((f.st&& !((N.t==num)&&(N.k==2))))) ?_ ?_
        ·refine zQ 2 (cB (Pt G (I+f.i*3)) (rIx 71 rfl G I q.length J f.i 3) ?_);refine zq 1 (zV G (I+f.i*3+2) (I6 N.t) (c6 2 _ rfl) 3 (.tmp 89) _ Tryz.underlying3 rfl ?_);refine zq 3 (jZ 93 N.t num (λh8 r5=>?_) (λh8 r5=>?_))
         ·refine zq 2 (cB (Pt G (I+f.i*3)) (rIx 71 rfl G I q.length J f.i 3) ?_);refine zq 1 (zV G (I+f.i*3+0) (I6 N.k) (c6 0 _ rfl) 3 (.tmp 97) _ Tryz.underlying3 rfl ?_);refine zq 2 (zn (fC N.k 2 (λh9 w7=>?_) (λh9 _=>?_)))
          ·refine zr (zq 1 (zn ?_));refine jn false ?_;simp only[h8,h9,bs,bQ,reduceIte]
          ·refine zk ?_;refine jn (f.st) ?_;simp only[h8,h9,bs,bQ,reduceIte]
         ·refine zq 7 (zn (cU (zk ?_)));refine jn (f.st) ?_;simp only[h8,bs,bQ,reduceIte]
        intro b5 j4;refine zQ 2 (cB (Pt G (I+f.i*3)) (rIx 71 rfl G I q.length J f.i 3) ?_);refine zq 1 (zV G (I+f.i*3+0) (I6 N.k) (c6 0 _ rfl) 3 (.tmp 104) _ Tryz.underlying3 rfl ?_);refine zq 2 (jZ 107 N.k 1 (λk0 o8=>?_) (λk0 o8=>?_))
        ·refine zq 2 (cB (Pt G (I+f.i*3)) (rIx 71 rfl G I q.length J f.i 3) ?_);refine zq 1 (zV G (I+f.i*3+2) (I6 N.t) (c6 2 _ rfl) 3 (.tmp 111) _ Tryz.underlying3 rfl ?_);refine zq 3 (zn (iE N.t num (λm7 o9=>?_) (λm7 o9=>?_)))
         ·refine zr (zq 3 (cB (Pt G (I+f.i*3)) (rIx 71 rfl G I q.length J f.i 3) ?_));refine zq 1 (zV G (I+f.i*3+2) (I6 N.t) (c6 2 _ rfl) 3 (.tmp 120) _ Tryz.underlying3 rfl ?_);refine dB 4 (λj9=>?_);refine fK f.r f.xs f.n ([(bK D (dO p (some ⟨K,L,none⟩) l.length c) 29),(E,.cells Z20.toArray 29 (0,0)),(bK C [(N6 p.f),(I6 p.c),(I6 p.dst.s),(St p.dst.l),(N6 p.dst.n),(N6 p.dst.v),(I6 p.src.s),(St p.src.l),(N6 p.src.n),(N6 p.src.v),(I6 p.rpt.s),(St p.rpt.l),(N6 p.rpt.n),(N6 p.rpt.v),(N6 p.time),(N6 p.seq),(N6 p.life),(N6 p.off),(N6 p.tot),(x.r.V x.n)] 29),(bK A g.cs 58),(bK j9 [(I6 N.t)] 3)]++x.r.B 58 x.xs) 3 75 1 8 1 kR X.ok (.tmp 116) (.tmp 122) rfl kR j9 0 1 [(I6 N.t)] kR (λW B=>cI B 4 j9 [(I6 N.t)] 3 kR) rfl (M7.1 kR) (by decide) (by unfold maxLen;omega) oW kR kR kR kR kR (λq7 q4=>?_);refine zq 1 (zn (zr (zq 2 (dH 62 ((f.i:Int)+1) (zq 1 (zn ?_))))));refine nx ⟨f.i+1,b5,b2,f.n+1,q7,(f.xs++[(I6 N.t)]),f.L++[(N.t,[.int .i64 N.t])]⟩ ?_ ?_ (d:=λ_ h=>Mem.sub (N4 (N4 (M4 _ _) (N7 _)) (N7 _)) (h.eqv (show _=(((([(bK D (dO p (some ⟨K,L,none⟩) l.length c) 29),(E,.cells Z20.toArray 29 (0,0)),(bK C [(N6 p.f),(I6 p.c),(I6 p.dst.s),(St p.dst.l),(N6 p.dst.n),(N6 p.dst.v),(I6 p.src.s),(St p.src.l),(N6 p.src.n),(N6 p.src.v),(I6 p.rpt.s),(St p.rpt.l),(N6 p.rpt.n),(N6 p.rpt.v),(N6 p.time),(N6 p.seq),(N6 p.life),(N6 p.off),(N6 p.tot),(x.r.V x.n)] 29),(bK A g.cs 58)]:aH)++([(bK j9 [(I6 N.t)] 3)]:aH))++(x.r.B 58 x.xs))++(q7.B 3 (f.xs++[(I6 N.t)])))from by kernel_rfl)))
          ·exact⟨by show f.i+1<=_;omega,by show f.n+1<=f.i+1;omega,RwR.snoc X rfl q4,by rw[<-b4,AW e8];unfold flO;rw[M5 (by rw[h5,h6];exact M3),P6];simp only[j4,j5,h5,k0,m7,bs,bQ,reduceIte];rfl⟩
          ·show q.length-(f.i+1)<q.length-f.i;omega
         ·refine zk (zr (zq 2 (dH 62 ((f.i:Int)+1) (zq 1 (zn ?_)))));refine nx ⟨f.i+1,b5,b2,f.n,f.r,f.xs,f.L⟩ ?_ ?_
          ·exact⟨by show f.i+1<=_;omega,by show f.n<=f.i+1;omega,X,by rw[<-b4,AW e8];unfold flO;rw[M5 (by rw[h5,h6];exact M3)];simp only[j4,j5,h5,k0,m7,bs,bQ,reduceIte]⟩
          ·show q.length-(f.i+1)<q.length-f.i;omega
        ·refine zq 8 (zn (cU (zk (zr (zq 2 (dH 62 ((f.i:Int)+1) (zq 1 (zn ?_))))))));refine nx ⟨f.i+1,b5,b2,f.n,f.r,f.xs,f.L⟩ ?_ ?_
         ·exact⟨by show f.i+1<=_;omega,by show f.n<=f.i+1;omega,X,by rw[<-b4,AW e8];unfold flO;rw[M5 (by rw[h5,h6];exact M3)];simp only[j4,j5,h5,k0,bs,bQ,reduceIte]⟩
         ·show q.length-(f.i+1)<q.length-f.i;omega
     ·refine aI (zs (zs (zr ?_)));have a6:flA num g.n ⟨g.n !=num,false,[]⟩ q=⟨f.st,f.rd,f.L.map Prod.fst⟩:=by rw[<-b4,cZ oW];rfl
      have e7:f.n=(f.L.map Prod.fst).length:=by rw[O1];exact X.m
      refine sK 13 f.r f.xs 1 f.n ([(bK D (dO p (some ⟨K,L,none⟩) l.length c) 29),(E,.cells Z20.toArray 29 (0,0)),(bK C [(N6 p.f),(I6 p.c),(I6 p.dst.s),(St p.dst.l),(N6 p.dst.n),(N6 p.dst.v),(I6 p.src.s),(St p.src.l),(N6 p.src.n),(N6 p.src.v),(I6 p.rpt.s),(St p.rpt.l),(N6 p.rpt.n),(N6 p.rpt.v),(N6 p.time),(N6 p.seq),(N6 p.life),(N6 p.off),(N6 p.tot),(x.r.V x.n)] 29),(bK A g.cs 58)]++x.r.B 58 x.xs) 3 kR X.ok kR (λw2 w3 j8 u q0 u5=>?_);have s7:=X.le u;have w8:=(s7.done (by decide) q0 (View.le_refl _) (by unfold R47;omega)).ins;refine zq 2 (cN 125 f.rd (λO=>?_) (λO=>?_))
      ·refine cF [0,4,0,0] [(A,1)] (zn (fC g.t 11 (λa7 p1=>?_) (λa7 p1=>?_)))
       ·refine zB [0,4] [(A,1)] ?_;rcases N2 ((dI g.d).isSome)with m8|m8
        ·refine lU (λW B=>gG g.d W B.view (by have:=e6 g (K9 r);omega)) (λc1 m4 b3 l5=>?_);obtain⟨j,V⟩:=P4.1 m8;rw[V]at l5;obtain⟨c9,e0,e1,c7,c1,c8,rfl,e2⟩:=l5;have l2:=e2.t;have l3:=e2.p;have l4:=e2.r;have m3:=e2.s;have j6:=As.shaped (fW V).2.1;have r0:=LR V;refine zq 3 (dB 4 (λc0=>?_));refine aX 4 c0 (zq 1 (zn (zs (zB [5,0] [(c0,8)] (cY 31 #[(asV j c9 e0 e1 c7 c1 c8),(I6 num)] (I6 (lX num 0 j.t)) (λW B=>FE j _ _ _ _ _ _ num W B.view ⟨l2,l3,l4,m3⟩) ?_)))));refine zq 1 (zn (aZ ((lX num 0 j.t)≥0) (λc2 p2=>?_) (λc2 p2=>?_)))
         ·refine zr ?_;obtain⟨kk,q3⟩:∃k:Nat,lX num 0 j.t=(k:Int):=⟨(lX num 0 j.t).toNat,by have:=P2 c2;omega⟩;have s0:kk<j.t.length:=by rcases EB num 0 j.t with h1|⟨k,h1,h2⟩<;>omega
          refine cF [5,0] [(c0,8)] (oI 33 #[(asV j c9 e0 e1 c7 c1 c8),(I6 num)] (Bh (j.del kk)) (λW B=>IB j _ _ _ _ _ _ num kk W B.view ⟨l2,l3,l4,m3⟩ q3 (by have h9:=j6;unfold cW at h9;simp only[L5,N0]at h9;have h8:=h9.1.2;omega)) (λq8 m5 j1 p8=>?_));obtain⟨u1,u2,u3,s9,q8,u0,rfl,e3⟩:=p8;have o5:=e3.t;have o6:=e3.p;have o7:=e3.r;have q5:=e3.s;refine cY 32 #[(asV (j.del kk) u1 u2 u3 s9 q8 u0)] (St (j.del kk).bytes) (λW B=>AJ (j.del kk) _ _ _ _ _ _ W B.view ⟨o5,o6,o7,q5⟩ (TP j6 s0)) ?_;refine zq 1 (aX 3 A (zn (zr (zq 2 (cN 146 f.st (λk1=>?_) (λk1=>?_))))))
          ·refine zq 5 (zn (zQ 1 (zn (aZ ((f.n:Int)>0) (λm9 p3=>?_) (λm9 p3=>?_)))))
           ·refine zr (cF [0,3,4] [(C,1),(A,5)] (dB 5 (λn9=>?_)));refine iW 6 58 27 48 1 1 Z (λW B=>cI B 5 n9 [(I6 g.t),(I6 g.n),(N6 g.f),(I6 g.c),(St (j.del kk).bytes)] 58 kR) rfl (M7.1 kR) (by decide) (λk7 l8=>?_);refine zq 1 ?_;refine Aa 2 C 19 (x.n+1) 5 k7 (x.xs++[(I6 g.t),(I6 g.n),(N6 g.f),(I6 g.c),(St (j.del kk).bytes)]) l8 [(N6 p.f),(I6 p.c),(I6 p.dst.s),(St p.dst.l),(N6 p.dst.n),(N6 p.dst.v),(I6 p.src.s),(St p.src.l),(N6 p.src.n),(N6 p.src.v),(I6 p.rpt.s),(St p.rpt.l),(N6 p.rpt.n),(N6 p.rpt.v),(N6 p.time),(N6 p.seq),(N6 p.life),(N6 p.off),(N6 p.tot),(x.r.V x.n)] 29 27 _ _ rfl kR kR kR (λa c=>by kernel_rfl) kR rfl kR ?_;refine zn (zr (zq 2 (dH 47 ((x.i:Int)+1) (zq 1 (zn ?_)))));refine nx ⟨x.i+1,x.m++[(g.withD (j.del kk).bytes)],(x.n+1),(x.xs++[(I6 g.t),(I6 g.n),(N6 g.f),(I6 g.c),(St (j.del kk).bytes)]),k7,m5⟩ ?_ ?_ (d:=λ_ h=>Mem.sub (N4 (M4 _ _) (N7 _)) (h.eqv (show _=((([(bK D (dO p (some ⟨K,L,none⟩) l.length c) 29),(E,.cells Z20.toArray 29 (0,0)),(bK C [(N6 p.f),(I6 p.c),(I6 p.dst.s),(St p.dst.l),(N6 p.dst.n),(N6 p.dst.v),(I6 p.src.s),(St p.src.l),(N6 p.src.n),(N6 p.src.v),(I6 p.rpt.s),(St p.rpt.l),(N6 p.rpt.n),(N6 p.rpt.v),(N6 p.time),(N6 p.seq),(N6 p.life),(N6 p.off),(N6 p.tot),(k7.V (x.n+1))] 29)]:aH)++([(bK A [(I6 g.t),(I6 g.n),(N6 g.f),(I6 g.c),(St (j.del kk).bytes)] 58),(bK c0 (mD j c9 e0 e1 c7 c1 c8) 79),(bK n9 [(I6 g.t),(I6 g.n),(N6 g.f),(I6 g.c),(St (j.del kk).bytes)] 58)]:aH))++(k7.B 58 (x.xs++[(I6 g.t),(I6 g.n),(N6 g.f),(I6 g.c),(St (j.del kk).bytes)])))from by kernel_rfl)))
            ·exact⟨by show x.i+1<=_;omega,(View.le_trans (View.le_trans (View.le_trans F u) b3) j1),l8,by show x.n+1=_;rw[L4,Y];rfl,by rw[Q4,a1];rfl,by rw[jT r,<-M,<-H.ref_eq (K9 r),show BK q num g=some (g.withD (j.del kk).bytes)from(by have a8:decide (0<(f.L.map Prod.fst).length)=decide ((f.n:Int)>0):=(by rw[<-e7];exact S7.2 oW);unfold BK;simp only[a6,O,k1,a7,V,a8,m9,N1 (P2 c2),bs,bQ,reduceIte];try simp only[q3,W8])];rfl⟩
            ·show l.length-(x.i+1)<l.length-x.i;omega
           ·refine zk (zr (zq 2 (dH 47 ((x.i:Int)+1) (zq 1 (zn ?_)))));refine nx ⟨x.i+1,x.m,x.n,x.xs,x.r,m5⟩ ?_ ?_ (d:=λ_ h=>Mem.sub (N4 (M4 _ _) (N7 _)) (h.eqv (show _=((([(bK D (dO p (some ⟨K,L,none⟩) l.length c) 29),(E,.cells Z20.toArray 29 (0,0)),(bK C [(N6 p.f),(I6 p.c),(I6 p.dst.s),(St p.dst.l),(N6 p.dst.n),(N6 p.dst.v),(I6 p.src.s),(St p.src.l),(N6 p.src.n),(N6 p.src.v),(I6 p.rpt.s),(St p.rpt.l),(N6 p.rpt.n),(N6 p.rpt.v),(N6 p.time),(N6 p.seq),(N6 p.life),(N6 p.off),(N6 p.tot),(x.r.V x.n)] 29)]:aH)++([(bK A [(I6 g.t),(I6 g.n),(N6 g.f),(I6 g.c),(St (j.del kk).bytes)] 58),(bK c0 (mD j c9 e0 e1 c7 c1 c8) 79)]:aH))++(x.r.B 58 x.xs))from by kernel_rfl)))
            ·exact⟨by show x.i+1<=_;omega,(View.le_trans (View.le_trans (View.le_trans F u) b3) j1),Z,Y,a1,by rw[jT r,<-M,<-H.ref_eq (K9 r),show BK q num g=none from(by have a8:decide (0<(f.L.map Prod.fst).length)=decide ((f.n:Int)>0):=(by rw[<-e7];exact S7.2 oW);unfold BK;simp only[a6,O,k1,a7,V,a8,m9,N1 (P2 c2),bs,bQ,reduceIte])];exact(M1 _).symm⟩
            ·show l.length-(x.i+1)<l.length-x.i;omega
          ·refine zq 5 (zn (zQ 1 (zn (cU (zk (zr (zq 2 (dH 47 ((x.i:Int)+1) (zq 1 (zn ?_))))))))));refine nx ⟨x.i+1,x.m,x.n,x.xs,x.r,m5⟩ ?_ ?_ (d:=λ_ h=>Mem.sub (N4 (M4 _ _) (N7 _)) (h.eqv (show _=((([(bK D (dO p (some ⟨K,L,none⟩) l.length c) 29),(E,.cells Z20.toArray 29 (0,0)),(bK C [(N6 p.f),(I6 p.c),(I6 p.dst.s),(St p.dst.l),(N6 p.dst.n),(N6 p.dst.v),(I6 p.src.s),(St p.src.l),(N6 p.src.n),(N6 p.src.v),(I6 p.rpt.s),(St p.rpt.l),(N6 p.rpt.n),(N6 p.rpt.v),(N6 p.time),(N6 p.seq),(N6 p.life),(N6 p.off),(N6 p.tot),(x.r.V x.n)] 29)]:aH)++([(bK A [(I6 g.t),(I6 g.n),(N6 g.f),(I6 g.c),(St (j.del kk).bytes)] 58),(bK c0 (mD j c9 e0 e1 c7 c1 c8) 79)]:aH))++(x.r.B 58 x.xs))from by kernel_rfl)))
           ·exact⟨by show x.i+1<=_;omega,(View.le_trans (View.le_trans (View.le_trans F u) b3) j1),Z,Y,a1,by rw[jT r,<-M,<-H.ref_eq (K9 r),show BK q num g=none from(by unfold BK;simp only[a6,O,k1,a7,V,N1 (P2 c2),bs,bQ,reduceIte])];exact(M1 _).symm⟩
           ·show l.length-(x.i+1)<l.length-x.i;omega
         ·refine zk (zr (zq 2 (cN 146 f.st (λk2=>?_) (λk2=>?_))))
          ·refine zq 5 (zn (zQ 1 (zn (aZ ((f.n:Int)>0) (λn0 p4=>?_) (λn0 p4=>?_)))))
           ·refine zr (cF [0,3,4] [(C,1),(A,5)] (dB 5 (λo0=>?_)));refine iW 6 58 27 48 1 1 Z (λW B=>cI B 5 o0 g.cs 58 kR) rfl (M7.1 kR) (by decide) (λk8 l9=>?_);refine zq 1 ?_;refine Aa 2 C 19 (x.n+1) 5 k8 (x.xs++g.cs) l9 [(N6 p.f),(I6 p.c),(I6 p.dst.s),(St p.dst.l),(N6 p.dst.n),(N6 p.dst.v),(I6 p.src.s),(St p.src.l),(N6 p.src.n),(N6 p.src.v),(I6 p.rpt.s),(St p.rpt.l),(N6 p.rpt.n),(N6 p.rpt.v),(N6 p.time),(N6 p.seq),(N6 p.life),(N6 p.off),(N6 p.tot),(x.r.V x.n)] 29 27 _ _ rfl kR kR kR (λa c=>by kernel_rfl) kR rfl kR ?_;refine zn (zr (zq 2 (dH 47 ((x.i:Int)+1) (zq 1 (zn ?_)))));refine nx ⟨x.i+1,x.m++[g],(x.n+1),(x.xs++g.cs),k8,m4⟩ ?_ ?_ (d:=λ_ h=>Mem.sub (N4 (M4 _ _) (N7 _)) (h.eqv (show _=((([(bK D (dO p (some ⟨K,L,none⟩) l.length c) 29),(E,.cells Z20.toArray 29 (0,0)),(bK C [(N6 p.f),(I6 p.c),(I6 p.dst.s),(St p.dst.l),(N6 p.dst.n),(N6 p.dst.v),(I6 p.src.s),(St p.src.l),(N6 p.src.n),(N6 p.src.v),(I6 p.rpt.s),(St p.rpt.l),(N6 p.rpt.n),(N6 p.rpt.v),(N6 p.time),(N6 p.seq),(N6 p.life),(N6 p.off),(N6 p.tot),(k8.V (x.n+1))] 29)]:aH)++([(bK A g.cs 58),(bK c0 (mD j c9 e0 e1 c7 c1 c8) 79),(bK o0 g.cs 58)]:aH))++(k8.B 58 (x.xs++g.cs)))from by kernel_rfl)))
            ·exact⟨by show x.i+1<=_;omega,(View.le_trans (View.le_trans F u) b3),l9,by show x.n+1=_;rw[L4,Y];rfl,by rw[Q4,a1];rfl,by rw[jT r,<-M,<-H.ref_eq (K9 r),show BK q num g=some g from(by have a8:decide (0<(f.L.map Prod.fst).length)=decide ((f.n:Int)>0):=(by rw[<-e7];exact S7.2 oW);unfold BK;simp only[a6,O,k2,a7,V,a8,n0,M5 (O5 c2),bs,bQ,reduceIte])];rfl⟩
            ·show l.length-(x.i+1)<l.length-x.i;omega
           ·refine zk (zr (zq 2 (dH 47 ((x.i:Int)+1) (zq 1 (zn ?_)))));refine nx ⟨x.i+1,x.m,x.n,x.xs,x.r,m4⟩ ?_ ?_ (d:=λ_ h=>Mem.sub (N4 (M4 _ _) (N7 _)) (h.eqv (show _=((([(bK D (dO p (some ⟨K,L,none⟩) l.length c) 29),(E,.cells Z20.toArray 29 (0,0)),(bK C [(N6 p.f),(I6 p.c),(I6 p.dst.s),(St p.dst.l),(N6 p.dst.n),(N6 p.dst.v),(I6 p.src.s),(St p.src.l),(N6 p.src.n),(N6 p.src.v),(I6 p.rpt.s),(St p.rpt.l),(N6 p.rpt.n),(N6 p.rpt.v),(N6 p.time),(N6 p.seq),(N6 p.life),(N6 p.off),(N6 p.tot),(x.r.V x.n)] 29)]:aH)++([(bK A g.cs 58),(bK c0 (mD j c9 e0 e1 c7 c1 c8) 79)]:aH))++(x.r.B 58 x.xs))from by kernel_rfl)))
            ·exact⟨by show x.i+1<=_;omega,(View.le_trans (View.le_trans F u) b3),Z,Y,a1,by rw[jT r,<-M,<-H.ref_eq (K9 r),show BK q num g=none from(by have a8:decide (0<(f.L.map Prod.fst).length)=decide ((f.n:Int)>0):=(by rw[<-e7];exact S7.2 oW);unfold BK;simp only[a6,O,k2,a7,V,a8,n0,M5 (O5 c2),bs,bQ,reduceIte])];exact(M1 _).symm⟩
            ·show l.length-(x.i+1)<l.length-x.i;omega
          ·refine zq 5 (zn (zQ 1 (zn (cU (zk (zr (zq 2 (dH 47 ((x.i:Int)+1) (zq 1 (zn ?_))))))))));refine nx ⟨x.i+1,x.m,x.n,x.xs,x.r,m4⟩ ?_ ?_ (d:=λ_ h=>Mem.sub (N4 (M4 _ _) (N7 _)) (h.eqv (show _=((([(bK D (dO p (some ⟨K,L,none⟩) l.length c) 29),(E,.cells Z20.toArray 29 (0,0)),(bK C [(N6 p.f),(I6 p.c),(I6 p.dst.s),(St p.dst.l),(N6 p.dst.n),(N6 p.dst.v),(I6 p.src.s),(St p.src.l),(N6 p.src.n),(N6 p.src.v),(I6 p.rpt.s),(St p.rpt.l),(N6 p.rpt.n),(N6 p.rpt.v),(N6 p.time),(N6 p.seq),(N6 p.life),(N6 p.off),(N6 p.tot),(x.r.V x.n)] 29)]:aH)++([(bK A g.cs 58),(bK c0 (mD j c9 e0 e1 c7 c1 c8) 79)]:aH))++(x.r.B 58 x.xs))from by kernel_rfl)))
           ·exact⟨by show x.i+1<=_;omega,(View.le_trans (View.le_trans F u) b3),Z,Y,a1,by rw[jT r,<-M,<-H.ref_eq (K9 r),show BK q num g=none from(by unfold BK;simp only[a6,O,k2,a7,V,M5 (O5 c2),bs,bQ,reduceIte])];exact(M1 _).symm⟩
           ·show l.length-(x.i+1)<l.length-x.i;omega
        ·refine lU (λW B=>gG g.d W B.view (by have:=e6 g (K9 r);omega)) (λx3 m6 j2 l6=>?_);have e4:=Q6.1 (by rw[m8];exact M3);rw[e4]at l6;obtain rfl:=l6;refine zq 3 (dB 4 (λe9=>?_));refine aX 4 e9 (zq 1 (zn (zs (zB [5,0] [(e9,8)] (dN (λW B=>FE As.zero none none none 0 0 0 num W B.view Tf) (zq 1 (zn (cU (zk (zr (zq 2 (cN 146 f.st (λk4=>?_) (λk4=>?_)))))))))))))
         ·refine zq 5 (zn (zQ 1 (zn (aZ ((f.n:Int)>0) (λn1 p5=>?_) (λn1 p5=>?_)))))
          ·refine zr (cF [0,3,4] [(C,1),(A,5)] (dB 5 (λo1=>?_)));refine iW 6 58 27 48 1 1 Z (λW B=>cI B 5 o1 g.cs 58 kR) rfl (M7.1 kR) (by decide) (λk9 m0=>?_);refine zq 1 ?_;refine Aa 2 C 19 (x.n+1) 5 k9 (x.xs++g.cs) m0 [(N6 p.f),(I6 p.c),(I6 p.dst.s),(St p.dst.l),(N6 p.dst.n),(N6 p.dst.v),(I6 p.src.s),(St p.src.l),(N6 p.src.n),(N6 p.src.v),(I6 p.rpt.s),(St p.rpt.l),(N6 p.rpt.n),(N6 p.rpt.v),(N6 p.time),(N6 p.seq),(N6 p.life),(N6 p.off),(N6 p.tot),(x.r.V x.n)] 29 27 _ _ rfl kR kR kR (λa c=>by kernel_rfl) kR rfl kR ?_;refine zn (zr (zq 2 (dH 47 ((x.i:Int)+1) (zq 1 (zn ?_)))));refine nx ⟨x.i+1,x.m++[g],(x.n+1),(x.xs++g.cs),k9,m6⟩ ?_ ?_ (d:=λ_ h=>Mem.sub (N4 (M4 _ _) (N7 _)) (h.eqv (show _=((([(bK D (dO p (some ⟨K,L,none⟩) l.length c) 29),(E,.cells Z20.toArray 29 (0,0)),(bK C [(N6 p.f),(I6 p.c),(I6 p.dst.s),(St p.dst.l),(N6 p.dst.n),(N6 p.dst.v),(I6 p.src.s),(St p.src.l),(N6 p.src.n),(N6 p.src.v),(I6 p.rpt.s),(St p.rpt.l),(N6 p.rpt.n),(N6 p.rpt.v),(N6 p.time),(N6 p.seq),(N6 p.life),(N6 p.off),(N6 p.tot),(k9.V (x.n+1))] 29)]:aH)++([(bK A g.cs 58),(e9,.cells Z8.toArray 79 (0,0)),(bK o1 g.cs 58)]:aH))++(k9.B 58 (x.xs++g.cs)))from by kernel_rfl)))
           ·exact⟨by show x.i+1<=_;omega,(View.le_trans (View.le_trans F u) j2),m0,by show x.n+1=_;rw[L4,Y];rfl,by rw[Q4,a1];rfl,by rw[jT r,<-M,<-H.ref_eq (K9 r),show BK q num g=some g from(by have a8:decide (0<(f.L.map Prod.fst).length)=decide ((f.n:Int)>0):=(by rw[<-e7];exact S7.2 oW);unfold BK;simp only[a6,O,k4,a7,e4,a8,n1,bs,bQ,reduceIte])];rfl⟩
           ·show l.length-(x.i+1)<l.length-x.i;omega
          ·refine zk (zr (zq 2 (dH 47 ((x.i:Int)+1) (zq 1 (zn ?_)))));refine nx ⟨x.i+1,x.m,x.n,x.xs,x.r,m6⟩ ?_ ?_ (d:=λ_ h=>Mem.sub (N4 (M4 _ _) (N7 _)) (h.eqv (show _=((([(bK D (dO p (some ⟨K,L,none⟩) l.length c) 29),(E,.cells Z20.toArray 29 (0,0)),(bK C [(N6 p.f),(I6 p.c),(I6 p.dst.s),(St p.dst.l),(N6 p.dst.n),(N6 p.dst.v),(I6 p.src.s),(St p.src.l),(N6 p.src.n),(N6 p.src.v),(I6 p.rpt.s),(St p.rpt.l),(N6 p.rpt.n),(N6 p.rpt.v),(N6 p.time),(N6 p.seq),(N6 p.life),(N6 p.off),(N6 p.tot),(x.r.V x.n)] 29)]:aH)++([(bK A g.cs 58),(e9,.cells Z8.toArray 79 (0,0))]:aH))++(x.r.B 58 x.xs))from by kernel_rfl)))
           ·exact⟨by show x.i+1<=_;omega,(View.le_trans (View.le_trans F u) j2),Z,Y,a1,by rw[jT r,<-M,<-H.ref_eq (K9 r),show BK q num g=none from(by have a8:decide (0<(f.L.map Prod.fst).length)=decide ((f.n:Int)>0):=(by rw[<-e7];exact S7.2 oW);unfold BK;simp only[a6,O,k4,a7,e4,a8,n1,bs,bQ,reduceIte])];exact(M1 _).symm⟩
           ·show l.length-(x.i+1)<l.length-x.i;omega
         ·refine zq 5 (zn (zQ 1 (zn (cU (zk (zr (zq 2 (dH 47 ((x.i:Int)+1) (zq 1 (zn ?_))))))))));refine nx ⟨x.i+1,x.m,x.n,x.xs,x.r,m6⟩ ?_ ?_ (d:=λ_ h=>Mem.sub (N4 (M4 _ _) (N7 _)) (h.eqv (show _=((([(bK D (dO p (some ⟨K,L,none⟩) l.length c) 29),(E,.cells Z20.toArray 29 (0,0)),(bK C [(N6 p.f),(I6 p.c),(I6 p.dst.s),(St p.dst.l),(N6 p.dst.n),(N6 p.dst.v),(I6 p.src.s),(St p.src.l),(N6 p.src.n),(N6 p.src.v),(I6 p.rpt.s),(St p.rpt.l),(N6 p.rpt.n),(N6 p.rpt.v),(N6 p.time),(N6 p.seq),(N6 p.life),(N6 p.off),(N6 p.tot),(x.r.V x.n)] 29)]:aH)++([(bK A g.cs 58),(e9,.cells Z8.toArray 79 (0,0))]:aH))++(x.r.B 58 x.xs))from by kernel_rfl)))
          ·exact⟨by show x.i+1<=_;omega,(View.le_trans (View.le_trans F u) j2),Z,Y,a1,by rw[jT r,<-M,<-H.ref_eq (K9 r),show BK q num g=none from(by unfold BK;simp only[a6,O,k4,a7,e4,bs,bQ,reduceIte])];exact(M1 _).symm⟩
          ·show l.length-(x.i+1)<l.length-x.i;omega
       ·refine zk (zQ 1 (zn (gK f.st (λn2=>?_) (λn2=>?_))))
        ·refine zr (cF [0,3,4] [(C,1),(A,5)] (dB 4 (λo2=>?_)));refine iW 5 58 27 48 1 1 Z (λW B=>cI B 4 o2 g.cs 58 kR) rfl (M7.1 kR) (by decide) (λl0 m1=>?_);refine zq 1 ?_;refine Aa 2 C 19 (x.n+1) 5 l0 (x.xs++g.cs) m1 [(N6 p.f),(I6 p.c),(I6 p.dst.s),(St p.dst.l),(N6 p.dst.n),(N6 p.dst.v),(I6 p.src.s),(St p.src.l),(N6 p.src.n),(N6 p.src.v),(I6 p.rpt.s),(St p.rpt.l),(N6 p.rpt.n),(N6 p.rpt.v),(N6 p.time),(N6 p.seq),(N6 p.life),(N6 p.off),(N6 p.tot),(x.r.V x.n)] 29 27 _ _ rfl kR kR kR (λa c=>by kernel_rfl) kR rfl kR ?_;refine zn (zr (zq 2 (dH 47 ((x.i:Int)+1) (zq 1 (zn ?_)))));refine nx ⟨x.i+1,x.m++[g],(x.n+1),(x.xs++g.cs),l0,j8⟩ ?_ ?_ (d:=λ_ h=>Mem.sub (N4 (M4 _ _) (N7 _)) (h.eqv (show _=((([(bK D (dO p (some ⟨K,L,none⟩) l.length c) 29),(E,.cells Z20.toArray 29 (0,0)),(bK C [(N6 p.f),(I6 p.c),(I6 p.dst.s),(St p.dst.l),(N6 p.dst.n),(N6 p.dst.v),(I6 p.src.s),(St p.src.l),(N6 p.src.n),(N6 p.src.v),(I6 p.rpt.s),(St p.rpt.l),(N6 p.rpt.n),(N6 p.rpt.v),(N6 p.time),(N6 p.seq),(N6 p.life),(N6 p.off),(N6 p.tot),(l0.V (x.n+1))] 29)]:aH)++([(bK A g.cs 58),(bK o2 g.cs 58)]:aH))++(l0.B 58 (x.xs++g.cs)))from by kernel_rfl)))
         ·exact⟨by show x.i+1<=_;omega,(View.le_trans F u),m1,by show x.n+1=_;rw[L4,Y];rfl,by rw[Q4,a1];rfl,by rw[jT r,<-M,<-H.ref_eq (K9 r),show BK q num g=some g from(by unfold BK;simp only[a6,O,n2,a7,bs,bQ,reduceIte])];rfl⟩
         ·show l.length-(x.i+1)<l.length-x.i;omega
        ·refine zk (zr (zq 2 (dH 47 ((x.i:Int)+1) (zq 1 (zn ?_)))));refine nx ⟨x.i+1,x.m,x.n,x.xs,x.r,j8⟩ ?_ ?_ (d:=λ_ h=>Mem.sub (N4 (M4 _ _) (N7 _)) (h.eqv (show _=((([(bK D (dO p (some ⟨K,L,none⟩) l.length c) 29),(E,.cells Z20.toArray 29 (0,0)),(bK C [(N6 p.f),(I6 p.c),(I6 p.dst.s),(St p.dst.l),(N6 p.dst.n),(N6 p.dst.v),(I6 p.src.s),(St p.src.l),(N6 p.src.n),(N6 p.src.v),(I6 p.rpt.s),(St p.rpt.l),(N6 p.rpt.n),(N6 p.rpt.v),(N6 p.time),(N6 p.seq),(N6 p.life),(N6 p.off),(N6 p.tot),(x.r.V x.n)] 29)]:aH)++([(bK A g.cs 58)]:aH))++(x.r.B 58 x.xs))from by kernel_rfl)))
         ·exact⟨by show x.i+1<=_;omega,(View.le_trans F u),Z,Y,a1,by rw[jT r,<-M,<-H.ref_eq (K9 r),show BK q num g=none from(by unfold BK;simp only[a6,O,n2,a7,bs,bQ,reduceIte])];exact(M1 _).symm⟩
         ·show l.length-(x.i+1)<l.length-x.i;omega
      ·refine zq 4 (zn (cU (zk (zQ 1 (zn (gK f.st (λn5=>?_) (λn5=>?_)))))))
       ·refine zr (cF [0,3,4] [(C,1),(A,5)] (dB 4 (λo3=>?_)));refine iW 5 58 27 48 1 1 Z (λW B=>cI B 4 o3 g.cs 58 kR) rfl (M7.1 kR) (by decide) (λl1 m2=>?_);refine zq 1 ?_;refine Aa 2 C 19 (x.n+1) 5 l1 (x.xs++g.cs) m2 [(N6 p.f),(I6 p.c),(I6 p.dst.s),(St p.dst.l),(N6 p.dst.n),(N6 p.dst.v),(I6 p.src.s),(St p.src.l),(N6 p.src.n),(N6 p.src.v),(I6 p.rpt.s),(St p.rpt.l),(N6 p.rpt.n),(N6 p.rpt.v),(N6 p.time),(N6 p.seq),(N6 p.life),(N6 p.off),(N6 p.tot),(x.r.V x.n)] 29 27 _ _ rfl kR kR kR (λa c=>by kernel_rfl) kR rfl kR ?_;refine zn (zr (zq 2 (dH 47 ((x.i:Int)+1) (zq 1 (zn ?_)))));refine nx ⟨x.i+1,x.m++[g],(x.n+1),(x.xs++g.cs),l1,j8⟩ ?_ ?_ (d:=λ_ h=>Mem.sub (N4 (M4 _ _) (N7 _)) (h.eqv (show _=((([(bK D (dO p (some ⟨K,L,none⟩) l.length c) 29),(E,.cells Z20.toArray 29 (0,0)),(bK C [(N6 p.f),(I6 p.c),(I6 p.dst.s),(St p.dst.l),(N6 p.dst.n),(N6 p.dst.v),(I6 p.src.s),(St p.src.l),(N6 p.src.n),(N6 p.src.v),(I6 p.rpt.s),(St p.rpt.l),(N6 p.rpt.n),(N6 p.rpt.v),(N6 p.time),(N6 p.seq),(N6 p.life),(N6 p.off),(N6 p.tot),(l1.V (x.n+1))] 29)]:aH)++([(bK A g.cs 58),(bK o3 g.cs 58)]:aH))++(l1.B 58 (x.xs++g.cs)))from by kernel_rfl)))
        ·exact⟨by show x.i+1<=_;omega,(View.le_trans F u),m2,by show x.n+1=_;rw[L4,Y];rfl,by rw[Q4,a1];rfl,by rw[jT r,<-M,<-H.ref_eq (K9 r),show BK q num g=some g from(by unfold BK;simp only[a6,O,n5,bs,bQ,reduceIte])];rfl⟩
        ·show l.length-(x.i+1)<l.length-x.i;omega
       ·refine zk (zr (zq 2 (dH 47 ((x.i:Int)+1) (zq 1 (zn ?_)))));refine nx ⟨x.i+1,x.m,x.n,x.xs,x.r,j8⟩ ?_ ?_ (d:=λ_ h=>Mem.sub (N4 (M4 _ _) (N7 _)) (h.eqv (show _=((([(bK D (dO p (some ⟨K,L,none⟩) l.length c) 29),(E,.cells Z20.toArray 29 (0,0)),(bK C [(N6 p.f),(I6 p.c),(I6 p.dst.s),(St p.dst.l),(N6 p.dst.n),(N6 p.dst.v),(I6 p.src.s),(St p.src.l),(N6 p.src.n),(N6 p.src.v),(I6 p.rpt.s),(St p.rpt.l),(N6 p.rpt.n),(N6 p.rpt.v),(N6 p.time),(N6 p.seq),(N6 p.life),(N6 p.off),(N6 p.tot),(x.r.V x.n)] 29)]:aH)++([(bK A g.cs 58)]:aH))++(x.r.B 58 x.xs))from by kernel_rfl)))
        ·exact⟨by show x.i+1<=_;omega,(View.le_trans F u),Z,Y,a1,by rw[jT r,<-M,<-H.ref_eq (K9 r),show BK q num g=none from(by unfold BK;simp only[a6,O,n5,bs,bQ,reduceIte])];exact(M1 _).symm⟩
        ·show l.length-(x.i+1)<l.length-x.i;omega
    ·refine aI (zs (zs (zr ?_)));have j7:x.m=l.filterMap (stB q num):=by rw[M,O2 oW]
     have s6:∀z∈x.m,z.ok:=by rw[j7];exact Xs hl.ok
     have s4:∀z∈x.m,z.d.length<=1000000:=by rw[j7];exact Xu e6
     have x0:x.m.length<=l.length:=by rw[j7];exact List.length_filterMap_le _ _
     refine jN x.r x.xs 5 x.n [(bK D (dO p a l.length c) 29),(E,.cells Z20.toArray 29 (0,0)),(bK C [(N6 p.f),(I6 p.c),(I6 p.dst.s),(St p.dst.l),(N6 p.dst.n),(N6 p.dst.v),(I6 p.src.s),(St p.src.l),(N6 p.src.n),(N6 p.src.v),(I6 p.rpt.s),(St p.rpt.l),(N6 p.rpt.n),(N6 p.rpt.v),(N6 p.time),(N6 p.seq),(N6 p.life),(N6 p.off),(N6 p.tot),(x.r.V x.n)] 29)] 58 kR Z (λn8 o4 v8 l7 q1 p7=>?_);rw[p7];have p6:=Tp q1 a1 s6 (by unfold R47;omega);rw[Y];refine cF [3] [(C,20)] (oI 28 #[(bnV p n8 x.m.length o4)] (λv _=>v=.int .i64 (aK p x.m)) (λW B=>rE p x.m _ _ W B.view hp p6 s4) (λx4 w0 j3 p9=>?_));have s8:=p6.le j3;obtain rfl:=p9;refine zq 1 (zn (zQ 2 (zn (iE (aK p x.m) 0 (λc4 _=>?_) (λc4 u4=>?_)))))
     ·refine zQ 2 (aX 1 E (zq 1 (zn (aA (dW [2,0] [(E,20)] [(.agg Z20.toArray),(I6 (aK p x.m))] (λW' B=>?_))))));exact aJ B (View.le_trans (View.le_trans (View.le_trans (View.le_trans e5 k6) F) l7) j3) (tY (m:=x.m) h0 hq (by have h9:=O5 h2;have h8:=GJ h9;rw[AU h9 (K8 h8.1)];rfl) j7 ⟨none,0,by unfold gD sT;rw[N1 c4,N1 c4];rfl,by unfold sT;rw[N1 c4];exact cG.nil⟩)
     ·refine zk (zB [3] [(C,20)] (aX 1 E (zq 1 (zn (aA (dW [2,0] [(E,20)] [(bnV p n8 x.m.length o4),(I6 0)] (λW' B=>?_)))))));exact aJ B (View.le_trans (View.le_trans (View.le_trans (View.le_trans e5 k6) F) l7) j3) (tY (m:=x.m) h0 hq (by have h9:=O5 h2;have h8:=GJ h9;rw[AU h9 (K8 h8.1)];rfl) j7 ⟨_,_,by unfold gD sT;rw[M5 (by rw[c4];exact M3),M5 (by rw[c4];exact M3),show aK p x.m=0 by simpa using c4];rfl,by unfold sT;rw[M5 (by rw[c4];exact M3)];exact s8⟩)
  ·refine oI 29 #[(bnV p a l.length c)] (Dx (QV l)) (λW B=>rW p l _ _ W B.view k3 e6 q6) (λx5 w1 q2 j0=>?_);rw[SX]at j0;have hq:=Q6.1 (by rw[h1];exact M3);rw[hq]at j0;obtain rfl:=j0;refine zq 5 (zn (zs (zQ 2 (zn (dM (zQ 1 (aX 1 E (zq 1 (zn (aA (dW [2,0] [(E,20)] [(.agg Z20.toArray),(I6 2)] (λW' B=>?_))))))))))));exact aJ B (View.le_trans e5 q2) (NW h0 hq rfl)
theorem YF(w:World):CP 19 #[.slice none 0 0] w (Ret (.bool true) w):=by
 refine dF 35 Tryz.func19 ?_;refine zQ 1 (zn (zs (zQ 1 (zn (aB (eF (α:=Nat) (λx=>[0,2,3].zip [S0,qF,(I6 0)]) (λ_=>View.no) (λx=>[]) (λx=>x<=0) (λx=>0-x) 0 oW ?_))))));rintro x a;obtain rfl:x=0:=by omega
 ·refine zs (zQ 8 (zn (cU (aI (zQ 4 (zn (aA (gC 2))))))))
theorem YG(w:World):CP 20 #[.slice none 0 0] w (Ret (.bool true) w):=by
 refine dF 24 Tryz.func20 ?_;refine zQ 1 (zn (zs (zQ 1 (zn (aB (eF (α:=Nat) (λx=>[0,2,3].zip [S0,qF,(I6 0)]) (λ_=>View.no) (λx=>[]) (λx=>x<=0) (λx=>0-x) 0 oW ?_))))));rintro x a;obtain rfl:x=0:=by omega
 ·refine zs (zQ 8 (zn (cU (aI (zQ 4 (zn (aA (gC 2))))))))
def wsD:Int->List Bk->Int
 |n,[]=>n
 |n,x::l=>wsD (IntKind.i64.wrap (n+(x.d.length:Int))) l
theorem Sc{n:Int}{l:List Bk}{i:Nat}{y:Bk}(h:l[i]? =some y):wsD n (l.drop i)=wsD (IntKind.i64.wrap (n+(y.d.length:Int))) (l.drop (i+1)):=by
 rw[dS h,wsD]
def IE(p:Pr)(l:List Bk):Bool:=decide (wsD 0 l<=4200)&&DM p l&&decide ((l.length:Int)<=18)
theorem ZG(p:Pr)(l:List Bk)(a:Option Addr)(c:Nat)(w:World){U:View}(O:See U w)(L:pP U a l):CP 5 #[bnV p a l.length c,(.agg #[(.slice none 0 0),(.slice none 0 0),(.int .u32 0),(.int .i64 0),(.string (B [])),(.int .u64 0),(.int .u64 0),(.bool false)])] w (Ret (.bool (IE p l)) w):=by
 have r:=L.len;unfold maxLen at r;refine dC 50 Tryz.func5 O ?_;refine zs (zr (aW (λh=>(aW (λj=>(zq 1 (zn (zQ 1 (zn (zs (zQ 1 (zn (aB (eF (α:=Nat×Int) (λx=>[2,3,4,5,6].zip [(Pt h 0),(Pt j 0),qF,(I6 x.2),(L6 x.1)]) (λx=>U) (λx=>[(bK h (dO p a l.length c) 29),(j,.cells [S0,S0,(.int .u32 0),(I6 0),(St []),(U6 0),(U6 0),qF].toArray 36 (0,0))]) (λx=>x.1<=l.length/\wsD x.2 (l.drop x.1)=wsD 0 l) (λx=>l.length-x.1) (0,0) ?_ ?_))))))))))))))
 ·exact⟨M8 _,rfl⟩
 intro x V;obtain⟨X,g⟩:=V;refine zs (zB [0,0,1,0,0] [(h,1)] (zn (aZ ((x.1:Int)<(l.length:Int)) (λN F=>?_) (λN F=>?_))))
 ·refine zk (zs (aB (zr (cF [0,0,1,0] [(h,1)] ?_))));obtain⟨M,u⟩:∃y,(l)[x.1]? =some y:=⟨(l)[x.1]'oW,K8 _⟩;obtain⟨D,E,rfl,K⟩:=L.at_ x.1 M u;refine cB (Pt D (E+x.1*5)) (rIx 58 rfl D E l.length c x.1 5) ?_;refine zq 1 (zV D (E+x.1*5+4) (St M.d) (K 4 _ rfl) 9 (.tmp 19) _ Tryz.underlying9 rfl ?_);refine zq 3 (zn (zr (zq 2 (dH 13 ((x.1:Int)+1) (zq 1 (zn ?_))))));refine nx (x.1+1,(IntKind.i64.wrap (x.2+(((M.d).length:Nat):Int)))) ?_ ?_
  ·exact⟨by show x.1+1<=_;omega,by rw[<-g,Sc u]⟩
  ·show l.length-(x.1+1)<l.length-x.1;omega
 ·refine aI (zQ 3 (jM 25 (x.2<=4200) (λk G=>?_) (λk G=>?_)))
  ·refine cF [1] [(h,20)] (cY 18 #[(bnV p a l.length c)] (.bool (DM p l)) (λW f=>YH p l _ _ W f.view L) ?_);refine zq 2 (cN 29 (DM p l) (λA=>?_) (λA=>?_))
   ·refine cF [0,1,0,0,0,0] [(h,1)] (jM 35 ((l.length:Int)<=18) (λI J=>?_) (λI J=>?_))
    ·refine cF [0,2] [(j,1)] (dN (λW f=>YF W) (cF [0,0,0,2] [(j,1)] (dN (λW f=>YG W) (cF [0,0,0,2] [(j,4)] (dN (λW f=>rX ⟨0,[],0,0⟩ W) (zq 2 (zn (aA (aO [4] [qT] (λC f=>?_))))))))));have d:wsD 0 l=x.2:=by rw[<-g,cZ oW];rfl
     exact⟨by unfold IE;simp only[dD,d,k,A,I,bs,bQ,reduceIte],f.below⟩
    ·refine zq 15 (zn (aA (aO [4] [qF] (λC f=>?_))));have d:wsD 0 l=x.2:=by rw[<-g,cZ oW];rfl
     exact⟨by unfold IE;simp only[dD,d,k,A,I,bs,bQ,reduceIte],f.below⟩
   ·refine zq 21 (zn (aA (aO [4] [qF] (λC f=>?_))));have d:wsD 0 l=x.2:=by rw[<-g,cZ oW];rfl
    exact⟨by unfold IE;simp only[dD,d,k,A,bs,bQ,reduceIte],f.below⟩
  ·refine zq 25 (zn (aA (aO [4] [qF] (λC f=>?_))));have d:wsD 0 l=x.2:=by rw[<-g,cZ oW];rfl
   exact⟨by unfold IE;simp only[dD,d,k,bs,bQ,reduceIte],f.below⟩
theorem MI(p:Pr)(l:List Bk)(a:Option Addr)(c:Nat)(num:Int)(w:World){U:View}(g:See U w)(h:cG U a l):CP 12 #[bnV p a l.length c,.int .i64 num] w (Ret (.bool (jD l num==12)) w):=by
 refine dC 9 Tryz.func12 g ?_;refine zs (zr (aW (λd=>(zq 1 (zn (zB [1,0] [(d,20)] (cY 36 #[(bnV p a l.length c),(I6 num)] (I6 (jD l num)) (λW f=>FC p l _ _ num W f.view h) ?_)))))));refine zq 2 (zn (aA (gC 4)))
theorem Xm{P : Program}{s : cA}{o : Oper}(t e : TypeId)(x : Operand)(d f : Option Operand)(ho : o.op = .slice t x d f none)(a : Option Addr)(c z : Nat)(E : evS s x = some (.slice a 0 c))
  (r:IG s d 0 0) (k:IG s f 0 0) (A:P.underlying t=some (.slice e)) (hs:(P.info? e).map (·.size)=some z) (W:World):(execOp (ev s) o).run P W=.ok (.value (.slice a 0 c)) W:=by
 have F:=rT hs W;have B:∀(v y:Nat) (c:BoundsCode),v<=y->(Instr.sliceBound (.int .i64 (v:Int)) y c).run P W=.ok v W:=λv y c I=>by
  simp[Instr.sliceBound,asIntOf,Result.andThen];intro G;omega
 have h:∀(y:Nat) (c:BoundsCode),(Instr.sliceBound (.int .i64 0) y c).run P W=.ok 0 W:=λy c=>B 0 y c (M8 y)
 have key:(Instr.slice t (.slice a 0 c) (d.map (ev s)) (f.map (ev s)) none).run P W=.ok (.slice a 0 c) W:=by
  have C:(Instr.sliceBounds true 0 c (d.map (ev s)) (f.map (ev s)) none).run P W=.ok (0,0,c) W:=by
   unfold IG at r k;cases f with
   |none=>
    cases d with
    |some lo'=>simp[Instr.sliceBounds,eM r,h,Result.andThen]
    |none=>simp[Instr.sliceBounds,Result.andThen]
   |some D=>
    cases d with
    |some lo'=>simp[Instr.sliceBounds,eM r,eM k,h,Result.andThen]
    |none=>simp[Instr.sliceBounds,eM k,h,Result.andThen]
  simp only[Instr.slice,Sem.run_bind,run_underlying A,Result.andThen_ok,C,F,Sem.run_pure];have u:a.map (λq=>q.add (0*z))=a:=by
   cases a with
   |none=>rfl
   |some q=>simp[Addr.add]
  have j:a.map (λq=>q.add 0)=a:=by rw[bF]at u;exact u
  split<;>simp[j]
 have g:(Instr.sliceAt t (.slice a 0 c) (d.map (ev s)) (f.map (ev s)) none).run P W=.ok (.slice a 0 c) W:=by
  simp only[Instr.sliceAt,Sem.run_bind,run_underlying A,Result.andThen_ok,key]
 unfold execOp;simp only[ho,eM E,Option.map_none,Sem.run_bind,g,Result.andThen_ok,Sem.run_pure]
theorem RZ(p:Pr)(a:Option Addr)(c:Nat)(w:World){U:View}(h:See U w):CP 6 #[bnV p a 0 c,.int .i64 0,.int .i64 0,.slice none 0 0] w (fV w U (NL p [])):=by
 refine dC 31 Tryz.func6 h ?_;refine zs (zr (aW (λd=>(aW (λf=>(zn (zQ 1 (zn (zB [0,0,1,0] [(d,1)] (cB (.slice a 0 c) (Xm 27 58 _ none (some _) rfl a c 5 kR rfl (show evS _ _=_ by kernel_rfl) Tryz.underlying27 kR) ?_))))))))));refine cB S0 (rA 27 58 5 _ _ rfl none a 0 0 c kR kR (O9 _) Tryz.underlying27 kR) ?_;refine zq 1 (zn (zQ 2 (cB S0 (rA 27 58 5 _ _ rfl none none 0 0 0 kR kR (O9 _) Tryz.underlying27 kR) ?_)));refine zq 1 (zn (zB [0,0,1,0,0,0] [(d,1)] (cB (.slice a 0 c) (Xm 27 58 _ (some _) none rfl a c 5 kR (show evS _ _=_ by kernel_rfl) rfl Tryz.underlying27 kR) ?_)));refine cB S0 (rA 27 58 5 _ _ rfl none a 0 0 c kR kR (O9 _) Tryz.underlying27 kR) ?_;refine zq 1 (zn (zB [0,1,0,0] [(d,19)] (aX 1 f (zn (aA (dW [2] [(f,20)] [(bnV p none 0 0)] (λj g=>?_)))))));exact aJ g (View.le_refl _) ⟨none,0,rfl,cG.nil⟩
theorem XE(l:List Bk):sW l [] 0 0=l:=by
 unfold sW;simp
theorem OK(p:Pr)(l:List Bk)(a:Option Addr)(c:Nat)(w:World){U:View}(f:See U w)(j:cG U a l)(g:l.length<=c)(d:l.length<=1000000):CP 6 #[bnV p a l.length c,.int .i64 0,.int .i64 0,.slice none 0 0] w (fV w U (NL p l)):=by
 by_cases h:l=[]
 ·subst h;exact RZ p a c w f
 ·have:=SC p l [] 0 0 a none c 0 w f j cG.nil h (M8 _) g d (by simp);rwa[XE]at this
end Go.Proofs.YtkoamlfiijcecaaGreatDoor.Sx
