/-
  Several texts in one: Rr3 Sx31 Rr4 Rpl Egn2 Egs1 Sct Bib1 Bib2 Bib3 Rr5 Rsp Rr6.
  Conditions: named at each.
-/
import Derived.Test.YtcdjakemdlinhaaGreatDoorG10
set_option maxHeartbeats 16000000
set_option linter.unusedSimpArgs false
set_option linter.unusedVariables false
set_option linter.unusedSectionVars false
namespace Go.Proofs.YtcdjakemdlinhaaGreatDoor.Sx
open Go.ChangeShapes Go.WideShapes Go.ChangeAt Go.RowKit Go.Deep
def aGB(G:Nat→List UInt8→Option (List Itm.Tr×Nat))(s:List UInt8)(i k e:Nat):Prop:=e≤s.length∧i≤e∧∃ts,aBN ts (e-i) (G k (s.drop e))=G 0 (s.drop i)
theorem aGB.zero{G:Nat→List UInt8→Option (List Itm.Tr×Nat)}{s:List UInt8}{i:Nat}(h:i≤s.length):aGB G s i 0 i:=⟨h,Bg _,[],by
 rw[Dc];cases G 0 (s.drop i)with
 |none=>rfl
 |some q=>simp[aBN]⟩
theorem aGB.step{f:List UInt8→Option (Itm.Tr×Nat)}{G:Nat→List UInt8→Option (List Itm.Tr×Nat)}(g:∀s t k,f s=some (t,k)→k≤s.length){s:List UInt8}{i k e:Nat}(h:aGB G s i k e)(a:aAR f G k (s.drop e)){t:Itm.Tr}{j:Nat}(c:f (s.drop e)=some (t,j)):aGB G s i (k+1) (e+j):=by
 obtain⟨u,x,ts,d⟩:=h;have r:=g _ _ _ c;rw[Aq]at r;refine⟨by omega,by omega,ts++[t],?_⟩;unfold aAR at a;rw[c]at a;simp only at a;rw[De]at a;rw[←d,a];cases G (k+1) (s.drop (e+j))with
 |none=>rfl
 |some q=>
  obtain⟨l,m⟩:=q;simp only[aBN,Al];congr 2;omega
theorem aGB.no{f:List UInt8→Option (Itm.Tr×Nat)}{G:Nat→List UInt8→Option (List Itm.Tr×Nat)}{s:List UInt8}{i k e:Nat}(h:aGB G s i k e)(a:aAR f G k (s.drop e))(d:f (s.drop e)=none):G 0 (s.drop i)=none:=by
 obtain⟨g,j,ts,c⟩:=h;unfold aAR at a;rw[d]at a;rw[←c,a];rfl
theorem aGB.stop{G:Nat→List UInt8→Option (List Itm.Tr×Nat)}{s:List UInt8}{i k e:Nat}(h:aGB G s i k e)(c:G k (s.drop e)=none):G 0 (s.drop i)=none:=by
 obtain⟨d,f,ts,a⟩:=h;rw[←a,c];rfl
theorem aGB.done{G:Nat→List UInt8→Option (List Itm.Tr×Nat)}{s:List UInt8}{i k e j:Nat}(h:aGB G s i k e)(c:G k (s.drop e)=some ([],j)):∃l,G 0 (s.drop i)=some (l,e-i+j):=by
 obtain⟨d,f,ts,a⟩:=h;rw[←a,c];exact⟨_,rfl⟩
theorem aEV(s:List UInt8)(i d n z:Nat)(hi:i≤s.length)(hs:s.length≤1000000)(hd:d+1≤1000)(V:aLk s d)(w:World){U:View}(Z:See U w)(A:hdF (s.drop i)=some (4,n,false,z))(hn:n≤1000):CP 147 #[.string (B s),.int .i64 (i:Int),.int .i64 ((d+1:Nat):Int)] w (fO w U (dF s i (d+1))):=by
 have M:((z:Int)==0)=false:=Ai.2 (by have:=qA A;omega);have N:=(eK A).1;rw[Aq]at N;have I:(((d+1:Nat):Int)==0)=false:=Ai.2 oW;have hd1:IntKind.i64.wrap (((d+1:Nat):Int)-1)=(d:Int):=by rw[IntWalk.i64_in _ oW];omega
 have L:decide ((n:Int)>1000)=false:=Ba oW;have k:itF (d+1) (s.drop i)=lI false z (gZ (itF d) n 0 (s.drop (i+z))):=by
  rw[itF,A];simp only[Nat.reduceEqDiff,if_false,if_true,Av,hn];rw[De];rfl
 refine dE 125 Tryz.func147 Z ?_;refine zQ 2 (zn (zQ 2 (cD (St (s.drop i)) (iK 9 _ (some _) none rfl s i s.length (s.drop i) kR (show evS _ _=_ by kernel_rfl) rfl nL nL (dQ _ _) Tryz.underlying9) ?_)));refine dK (fun W f=>mF A W (by rw[Aq];unfold R47;omega)) (aW (fun a=>(aX 0 a (zn (zs (zB [0,1,0] [(a,1)] (zn (dO ((z:Int)==0) M ?_))))))));refine zk (zs (zB [0,1,0,0,0,1,0,0,0,0,1,0,0,0,0,1,0,0] [(a,1),(a,1),(a,1),(a,1)] (zn (dD (zk (zs (zQ 2 (zn (dO (((d+1:Nat):Int)==0) I ?_)))))))));refine zk (zB [0,0,1,0] [(a,1)] (eC 46 ((i:Int)+(z:Int)) (zq 1 (zn (zs (zB [0,1,0] [(a,1)] (zn (dD (zk (zs (zB [0,1,0] [(a,1)] (zn (dD (zk (zs (zB [0,1,0,0,0,1,0,0] [(a,1),(a,1)] (zn (dO (decide ((n:Int)>1000)) L ?_))))))))))))))))));refine zk (zs (zQ 1 (zn (aB (eY (α:=Nat×Nat) (fun x=>[0,2,6,7,8,9,10].zip [(St s),(L6 (d+1)),(I6 0),(I6 0),(Pt a 0),(L6 x.2),(L6 x.1)]) (fun x=>U) (fun x=>[(bK a [(L6 z),(I6 4),(N6 (n:Nat)),(.bool false)] 265)]) (fun x=>x.1≤n∧aGB (gZ (itF d) n) s (i+z) x.1 x.2) (fun x=>n-x.1) (0,i+z) ?_ ?_)))))
 ·exact⟨Ap _,aGB.zero oW⟩
 intro x c;obtain⟨a1,c⟩:=c;have a6:=c.1;refine zs (zB [0,1,0,0,0] [(a,1)] (dS 85 (U6 (IntKind.u64.wrap (x.1:Int))) (N6 (x.1:Nat)) (Ag (Value.int .u64) (u64_in oW oW)) ?_));refine cG [0,1,0,0] [(a,1)] (zn (cE ((x.1:Int)<(n:Int)) (fun C D=>?_) (fun C D=>?_)))
 ·refine zk (zs (aB (zs (zB [0,1,0,0,0,0,0,0,0,0,0,0,0,0] [(a,1)] (zn (dD (zk (zs (zQ 2 (zn (dO ((x.1:Int)==1000) (Ai.2 oW) ?_)))))))))));refine zk (zQ 4 (dS 115 (I6 (IntKind.i64.wrap (((d+1:Nat):Int)-1))) (I6 (d:Int)) (Ag (Value.int .i64) hd1) ?_));rcases Ax ((itF d (s.drop x.2)).isSome)with E|E
  ·refine pO (fun W f=>V x.2 c.1 W f.view) (fun v1 V1 F g=>?_);unfold dF at g;obtain⟨⟨t1,k1⟩,r⟩:=Cg.1 E;rw[r]at g;obtain rfl:=g;refine zq 5 (zn (zs (zQ 2 (zn (dD (zk (zr (zq 2 (zn (zr (zq 2 (eC 91 ((x.1:Int)+1) (zq 1 (zn ?_))))))))))))));refine nx (x.1+1,x.2+k1) ?_ ?_ (d:=fun _ h=>(h.weak F).eqv kR)
   ·exact⟨by show x.1+1≤n;omega,c.step (gD d) (mJ oW _) r⟩
   ·show n-(x.1+1)<n-x.1;omega
  ·refine pO (fun W f=>V x.2 c.1 W f.view) (fun v2 V2 G j=>?_);unfold dF at j;have u:itF d (s.drop x.2)=none:=by cases J:itF d (s.drop x.2)with|none=>rfl|some q=>(have O:=E;rw[J]at O;cases O)
   rw[u]at j;obtain⟨p2,X,y,rfl⟩:=j;refine zq 5 (zn (zs (zQ 2 (zn (iA (X !=0) (Cb.2 y) ?_)))));refine zQ 4 (zn (aA (aO [6,7] [(I6 p2),(I6 X)] (fun Y f=>?_))));have C:=c.no (mJ oW _) u;exact aH f G (by unfold dF;rw[k,C];exact⟨_,_,y,rfl⟩)
 ·refine aK (zQ 3 (zn (aA (aO [6,7] [(L6 x.2),(I6 0)] (fun Y f=>?_)))));obtain⟨l9,K⟩:=c.done (show gZ (itF d) n x.1 (s.drop x.2)=some ([],0)from by unfold gZ;rw[show n-x.1=0 by omega];rfl);exact aH f (View.le_refl _) (by unfold dF;rw[k,K];exact Ag (fun x=>Value.tuple #[.int .i64 x,.int .i64 0]) (by have:=c.2.1;omega))
theorem aIB(s:List UInt8)(i d z:Nat)(hi:i≤s.length)(hs:s.length≤1000000)(hd:d+1≤1000)(Z:aLk s d)(w:World){U:View}(hU:See U w)(hh:hdF (s.drop i)=some (4,0,true,z)):CP 147 #[.string (B s),.int .i64 (i:Int),.int .i64 ((d+1:Nat):Int)] w (fO w U (dF s i (d+1))):=by
 have b7:((z:Int)==0)=false:=Ai.2 (by have:=qA hh;omega);have b8:=(eK hh).1;rw[Aq]at b8;have b5:(((d+1:Nat):Int)==0)=false:=Ai.2 oW;have hd1:IntKind.i64.wrap (((d+1:Nat):Int)-1)=(d:Int):=by rw[IntWalk.i64_in _ oW];omega
 have A:itF (d+1) (s.drop i)=lI true z (jL (itF d) 0 (s.drop (i+z))):=by
  rw[itF,hh];simp only[Nat.reduceEqDiff,if_false,if_true];rw[De];rfl
 refine dE 125 Tryz.func147 hU ?_;refine zQ 2 (zn (zQ 2 (cD (St (s.drop i)) (iK 9 _ (some _) none rfl s i s.length (s.drop i) kR (show evS _ _=_ by kernel_rfl) rfl nL nL (dQ _ _) Tryz.underlying9) ?_)));refine dK (fun W g=>mF hh W (by rw[Aq];unfold R47;omega)) (aW (fun k=>(aX 0 k (zn (zs (zB [0,1,0] [(k,1)] (zn (dO ((z:Int)==0) b7 ?_))))))));refine zk (zs (zB [0,1,0,0,0,1,0,0,0,0,1,0,0,0,0,1,0,0] [(k,1),(k,1),(k,1),(k,1)] (zn (dD (zk (zs (zQ 2 (zn (dO (((d+1:Nat):Int)==0) b5 ?_)))))))));refine zk (zB [0,0,1,0] [(k,1)] (eC 46 ((i:Int)+(z:Int)) (zq 1 (zn (zs (zB [0,1,0] [(k,1)] (zn (dD (zk (zs (zB [0,1,0] [(k,1)] (zn (dD (zk (zs (zB [0,1,0,0,0,0,0,0] [(k,1)] (zn (dD (zk (zs (zQ 1 (zn (aB (eY (α:=Nat×Nat) (fun x=>[0,2,6,7,8,9,10].zip [(St s),(L6 (d+1)),(I6 0),(I6 0),(Pt k 0),(L6 x.2),(L6 x.1)]) (fun x=>U) (fun x=>[(bK k [(L6 z),(I6 4),(U6 0),(.bool true)] 265)]) (fun x=>x.1≤1000∧aGB (jL (itF d)) s (i+z) x.1 x.2) (fun x=>1001-x.1) (0,i+z) ?_ ?_))))))))))))))))))))))))
 ·exact⟨Ap _,aGB.zero oW⟩
 intro x j;obtain⟨b9,j⟩:=j;have c0:=j.1;refine zs (zB [0,1,0,0,0,0,0,0,0] [(k,1)] (zn (dP (zk (zs (aB (zs (zB [0,1,0,0,0,0,0,0,0] [(k,1)] (jV 100 ((x.2:Int)<(((s).length:Nat):Int)) (fun r a1=>?_) (fun r a1=>?_))))))))))
 ·refine zq 2 ?_;obtain⟨x1,C⟩:∃y,(s)[x.2]? =some y:=⟨_,Aa (by first|assumption|omega)⟩;refine cD (.int .u8 (x1.toNat:Int)) (qZ 9 _ _ rfl s x.2 .i64 x1 kR kR C Tryz.underlying9) ?_;refine zq 2 (zn (fQ (x1.toNat:Int) 255 (fun J a6=>?_) (fun J a6=>?_)))
  ·refine zQ 2 (eC 107 ((x.2:Int)+1) (zq 2 (zn (aA (aO [6,7] [(I6 ((x.2:Int)+1)),(I6 0)] (fun Y g=>?_))))));have u:aAf (s.drop x.2)=true:=(aBS.2 (by rw[C];congr 1;apply UInt8.toNat_inj.1;have f:=eq_of_beq J;show x1.toNat=255;omega));obtain⟨l9,b6⟩:=j.done (show jL (itF d) x.1 (s.drop x.2)=some ([],1)from by unfold jL;cases 1000-x.1<;>rw[gY,Ar u]);exact aH g (View.le_refl _) (by unfold dF;rw[A,b6];exact Ag (fun x=>Value.tuple #[.int .i64 x,.int .i64 0]) (by have:=j.2.1;omega))
  ·refine zk (zs (zQ 2 (zn (fQ (x.1:Int) 1000 (fun h2 a7=>?_) (fun h2 a7=>?_)))))
   ·refine zQ 3 (zn (aA (aO [6,7] [(L6 x.2),(I6 4)] (fun Y g=>?_))));have u:aAf (s.drop x.2)=false:=(by rw[Bool.eq_false_iff];intro c;have a:=aBS.1 c;rw[C]at a;have f:=Ai.1 J;rw[Bs a]at f;exact f rfl);have r:=j.stop (show jL (itF d) x.1 (s.drop x.2)=none from by unfold jL;rw[show 1000-x.1=0 by omega,gY,u];rfl);exact aH g (View.le_refl _) (by unfold dF;rw[A,r];exact⟨_,_,(by decide),rfl⟩)
   ·refine zk (zQ 4 (dS 115 (I6 (IntKind.i64.wrap (((d+1:Nat):Int)-1))) (I6 (d:Int)) (Ag (Value.int .i64) hd1) ?_));rcases Ax ((itF d (s.drop x.2)).isSome)with h3|h3
    ·refine pO (fun W g=>Z x.2 j.1 W g.view) (fun v2 V2 b1 D=>?_);unfold dF at D;obtain⟨⟨t2,k2⟩,L⟩:=Cg.1 h3;rw[L]at D;obtain rfl:=D;refine zq 5 (zn (zs (zQ 2 (zn (dD (zk (zr (zq 2 (zn (zr (zq 2 (eC 91 ((x.1:Int)+1) (zq 1 (zn ?_))))))))))))));refine nx (x.1+1,x.2+k2) ?_ ?_ (d:=fun _ h=>(h.weak b1).eqv kR)
     ·exact⟨by show x.1+1≤1000;omega,j.step (gD d) (lK oW (by rw[Bool.eq_false_iff];intro c;have a:=aBS.1 c;rw[C]at a;have f:=Ai.1 J;rw[Bs a]at f;exact f rfl)) L⟩
     ·show 1001-(x.1+1)<1001-x.1;omega
    ·refine pO (fun W g=>Z x.2 j.1 W g.view) (fun v3 V3 b2 E=>?_);unfold dF at E;have M:itF d (s.drop x.2)=none:=by cases I:itF d (s.drop x.2)with|none=>rfl|some q=>(have K:=h3;rw[I]at K;cases K)
     rw[M]at E;obtain⟨p3,z3,V,rfl⟩:=E;refine zq 5 (zn (zs (zQ 2 (zn (iA (z3 !=0) (Cb.2 V) ?_)))));refine zQ 4 (zn (aA (aO [6,7] [(I6 p3),(I6 z3)] (fun Y g=>?_))));have r:=j.no (lK oW (by rw[Bool.eq_false_iff];intro c;have a:=aBS.1 c;rw[C]at a;have f:=Ai.1 J;rw[Bs a]at f;exact f rfl)) M;exact aH g b2 (by unfold dF;rw[A,r];exact⟨_,_,V,rfl⟩)
 ·refine zq 5 (zn (dD (zk (zs (zQ 2 (zn (fQ (x.1:Int) 1000 (fun h4 a8=>?_) (fun h4 a8=>?_))))))))
  ·refine zQ 3 (zn (aA (aO [6,7] [(L6 x.2),(I6 4)] (fun Y g=>?_))));have u:aAf (s.drop x.2)=false:=(by rw[Bool.eq_false_iff];intro c;have a:=aBS.1 c;have:=(Af.1 a).1;have:=Au r;omega);have r:=j.stop (show jL (itF d) x.1 (s.drop x.2)=none from by unfold jL;rw[show 1000-x.1=0 by omega,gY,u];rfl);exact aH g (View.le_refl _) (by unfold dF;rw[A,r];exact⟨_,_,(by decide),rfl⟩)
  ·refine zk (zQ 4 (dS 115 (I6 (IntKind.i64.wrap (((d+1:Nat):Int)-1))) (I6 (d:Int)) (Ag (Value.int .i64) hd1) ?_));rcases Ax ((itF d (s.drop x.2)).isSome)with h5|h5
   ·refine pO (fun W g=>Z x.2 j.1 W g.view) (fun v4 V4 b3 F=>?_);unfold dF at F;obtain⟨⟨t4,k4⟩,N⟩:=Cg.1 h5;rw[N]at F;obtain rfl:=F;refine zq 5 (zn (zs (zQ 2 (zn (dD (zk (zr (zq 2 (zn (zr (zq 2 (eC 91 ((x.1:Int)+1) (zq 1 (zn ?_))))))))))))));refine nx (x.1+1,x.2+k4) ?_ ?_ (d:=fun _ h=>(h.weak b3).eqv kR)
    ·exact⟨by show x.1+1≤1000;omega,j.step (gD d) (lK oW (by rw[Bool.eq_false_iff];intro c;have a:=aBS.1 c;have:=(Af.1 a).1;have:=Au r;omega)) N⟩
    ·show 1001-(x.1+1)<1001-x.1;omega
   ·refine pO (fun W g=>Z x.2 j.1 W g.view) (fun v5 V5 b4 G=>?_);unfold dF at G;have O:itF d (s.drop x.2)=none:=by cases I:itF d (s.drop x.2)with|none=>rfl|some q=>(have K:=h5;rw[I]at K;cases K)
    rw[O]at G;obtain⟨p5,z5,X,rfl⟩:=G;refine zq 5 (zn (zs (zQ 2 (zn (iA (z5 !=0) (Cb.2 X) ?_)))));refine zQ 4 (zn (aA (aO [6,7] [(I6 p5),(I6 z5)] (fun Y g=>?_))));have r:=j.no (lK oW (by rw[Bool.eq_false_iff];intro c;have a:=aBS.1 c;have:=(Af.1 a).1;have:=Au r;omega)) O;exact aH g b4 (by unfold dF;rw[A,r];exact⟨_,_,X,rfl⟩)
theorem aPX{s:List UInt8}{m n z:Nat}(h:hdF s=some (m,n,true,z)):n=0:=by
 rcases aDK h with⟨h,_⟩|⟨_,_,h,_⟩
 ·cases h
 ·exact h
theorem qM(s:List UInt8)(g:s.length≤1000000):∀d,d≤1000→aLk s d:=by
 intro d h
 induction d with
 |zero=>
  intro i f w U c;cases a:hdF (s.drop i)with
  |none=>exact aHg s i 0 f g oW w c a
  |some q=>
   obtain⟨m,n,b,z⟩:=q;exact aIz s i 0 m n z f g oW w c b a rfl
 |succ d ih=>
  intro i f w U c;cases a:hdF (s.drop i)with
  |none=>exact aHg s i (d+1) f g h w c a
  |some q=>
   obtain⟨m,n,b,z⟩:=q;by_cases j:m=0
   ·subst j;exact aKL s i (d+1) n z f g h w c b a oW
   ·by_cases k:m=2∨m=3
    ·cases b with
     |true=>exact aIA s i (d+1) m n z f g h w c a oW k
     |false=>exact aKK s i (d+1) m n z f g h w c a oW k
    ·by_cases r:m=4
     ·subst r;cases b with
      |true=>
       obtain rfl:=aPX a;exact aIB s i d z f g h (ih oW) w c a
      |false=>
       by_cases u:n≤1000
       ·exact aEV s i d n z f g h (ih oW) w c a u
       ·exact aIC s i (d+1) n z f g h w c a oW u
     ·exact aGj s i (d+1) m n z f g h w c b a j oW oW r
section
variable {P:Program} {n:Nat} {W0:Cx} {Q:XQ} {s:aZ} {U:View} {σ:aN} {ops:Array Oper} {l:List Oper} {o:Oper}
theorem aRs{ds : List Nat}{vs : List Sq}(i b f : Nat)(v : Value)(r : U ⟨b, f, none⟩ = some v)(h : TypeId)(x : Operand){o : Oper}(C : ops[i]? = some o)(E : o.op = .load h x)(g : vs[i]? = some (.val v))(I : ∀ u, evS (iP ops ds vs u i ++ aV s ds) x = some (.pointer (some ⟨b, f, none⟩)))(d : TypeDesc)(F : P.underlying h = some d)(k : d.isRow = false)
  (G:∀u,cU ops (iP ops ds vs u i++aV s ds) o=some true):Oq P n W0 U σ ops ds vs s i:=
 Oq.op i C _ g fun u V y _=>⟨G u,fun a W A j Q K q=>by
  have B:=j.view _ _ (y _ _ r);have c:(isAgg h).run P W=.ok false W:=by
   unfold isAgg;rw[Sem.run_bind,run_underlying F W];cases d<;>simp_all
  have D:(load ⟨b,f,none⟩).run P W=.ok v W:=by
   simp[load,Sem.run,B]
  unfold Oper.wp execOp;simp only[E,eG A (I u),Instr.loadAt,Instr.sureAddr,Sem.run_bind,Sem.run_pure,Result.andThen_ok,loadVar,c];simp only[Av,if_false,D,Result.andThen_ok];exact q v W j rfl (Below.refl _ _)⟩
theorem wU1{ds ks : List Nat}{tv vs : List Sq}{i : Nat}{v : Value}(b f : Nat)(h : U ⟨b, f, none⟩ = some v)(g : TypeId)(x : Operand)(d : TypeDesc)(q : P.underlying g = some d)(a : d.isRow = false)(j : ops[i]? = some (iC ops i) := by rfl)(k : (iC ops i).op = .load g x := by rfl)
  (y:∀u,evS (iP ops ds vs u i++aV s ds) x=some (.pointer (some ⟨b,f,none⟩)):=by intro u;kernel_rfl) (r:∀u,cU ops (iP ops ds vs u i++aV s ds) (iC ops i)=some true:=by intro u;kernel_rfl):Oqw P n W0 U σ ops ds ks tv vs s i (.val v):=
 fun _ c=>aRs i b f v h g x j k c y d q a r
end
def aOT(d:Nat):Prop:=∀(s:List UInt8) (t:Itm.Tr),itF d s=some (t,s.length)→s.length≤1000000→∀(w:World) {U:View},(∀a v,U a=some v→w.cell? a=some v)→CP 148 #[.string (B s)] w (fO w U (oQ t))
theorem aPU{s:List UInt8}{d n z:Nat}{o:Bool}{t:Itm.Tr}(c:hdF s=some (0,n,o,z))(a:itF (d+1) s=some (t,s.length)):t=Itm.cA n:=by
 rw[itF,c]at a;simp only[if_true,Ab,Am]at a;exact a.1.symm
theorem aNk{s:List UInt8}{n z:Nat}{o:Bool}{m:Int}{t:Itm.Tr}(g:z≤s.length)(h:mL m (sF s n z o 1073741824)=some (t,s.length)):t=.mk m 0 (s.drop z) [] false:=by
 obtain⟨c,rfl,a⟩:=tQ h;obtain⟨q,j,k,f⟩:=aBf c g;rw[f]at a ⊢;have d:s.length=z+n:=a;show Itm.Tr.mk m 0 ((s.drop z).take n) [] false=_;rw[Bf (by rw[Aq];omega)]
theorem aOt{s:List UInt8}{d n z:Nat}{o:Bool}{t:Itm.Tr}(a:hdF s=some (2,n,o,z))(c:itF (d+1) s=some (t,s.length)):t=eE (s.drop z):=by
 rw[itF,a]at c;exact aNk (eK a).1 (show mL 2 (sF s n z o 1073741824)=some (t,s.length)from c)
theorem aOs{s:List UInt8}{d n z:Nat}{o:Bool}{t:Itm.Tr}(a:hdF s=some (3,n,o,z))(c:itF (d+1) s=some (t,s.length)):t=aHE (s.drop z):=by
 rw[itF,a]at c;exact aNk (eK a).1 (show mL 3 (sF s n z o 1073741824)=some (t,s.length)from c)
theorem aC4{o:Bool}{z k:Nat}{t:Itm.Tr}{x:Option (List Itm.Tr×Nat)}(h:lI o z x=some (t,k)):∃l j,x=some (l,j)∧t=.mk 4 0 [] l o∧k=z+j:=by
 cases x with
 |none=>cases h
 |some q=>
  obtain⟨l,j⟩:=q;simp only[lI,Ab,Am]at h;exact⟨l,j,rfl,h.1.symm,h.2.symm⟩
theorem aKl{s:List UInt8}{d n z:Nat}{t:Itm.Tr}(h:hdF s=some (4,n,false,z))(a:itF (d+1) s=some (t,s.length)):n≤1000∧∃l j,gZ (itF d) n 0 (s.drop z)=some (l,j)∧t=.mk 4 0 [] l false∧z+j=s.length:=by
 rw[itF,h]at a;simp only[Nat.reduceEqDiff,if_false,if_true,Av]at a;split at a
 ·next k=>
  obtain⟨l,j,c,f,g⟩:=aC4 a;exact⟨k,l,j,c,f,g.symm⟩
 ·cases a
theorem aOu{s:List UInt8}{d n z:Nat}{t:Itm.Tr}(h:hdF s=some (4,n,true,z))(a:itF (d+1) s=some (t,s.length)):∃l j,jL (itF d) 0 (s.drop z)=some (l,j)∧t=.mk 4 0 [] l true∧z+j=s.length:=by
 rw[itF,h]at a;simp only[Nat.reduceEqDiff,if_false,if_true]at a;obtain⟨l,j,c,f,g⟩:=aC4 a;exact⟨l,j,c,f,g.symm⟩
def aLd(G:Nat→List UInt8→Option (List Itm.Tr×Nat))(s:List UInt8)(l:List Itm.Tr)(i a:Nat)(L:List Itm.Tr):Prop:=a≤s.length∧∃ts j,G i (s.drop a)=some (ts,j)∧L++ts=l∧a+j=s.length
theorem aLd.step{f:List UInt8→Option (Itm.Tr×Nat)}{G:Nat→List UInt8→Option (List Itm.Tr×Nat)}(y:∀s t k,f s=some (t,k)→k≤s.length){s:List UInt8}{l:List Itm.Tr}{i a:Nat}{L:List Itm.Tr}(h:aLd G s l i a L)(c:aAR f G i (s.drop a)):∃t k,f (s.drop a)=some (t,k)∧a+k≤s.length∧aLd G s l (i+1) (a+k) (L++[t]):=by
 obtain⟨C,ts,j,u,x,D⟩:=h;unfold aAR at c;rw[u]at c;cases g:f (s.drop a)with
 |none=>rw[g]at c;cases c
 |some q=>
  obtain⟨t,k⟩:=q;have A:=y _ _ _ g;rw[Aq]at A;rw[g]at c;simp only at c;cases d:G (i+1) ((s.drop a).drop k)with
  |none=>rw[d]at c;cases c
  |some q=>
   obtain⟨r,B⟩:=q;rw[d]at c;simp only[aBN,Ab,Am]at c;obtain⟨rfl,rfl⟩:=c;rw[De]at d;exact⟨t,k,rfl,by omega,by omega,r,B,d,by rw[Al];exact x,by omega⟩
theorem aEJ{f : List UInt8 → Option (Itm.Tr × Nat)} : ∀ {n : Nat} {s : List UInt8} {l : List Itm.Tr} {k : Nat}, gY f n s = some (l, k) → 1 ≤ k
 |0,s,l,k,h=>by
  rw[gY]at h;split at h
  ·simp only[Ab,Am]at h;omega
  ·cases h
 |n+1,s,l,k,h=>by
  rw[gY]at h;split at h
  ·simp only[Ab,Am]at h;omega
  ·split at h
   ·cases h
   ·split at h
    ·cases h
    ·next a=>
     have:=aEJ a;simp only[Ab,Am]at h;omega
theorem aEI{f:List UInt8→Option (Itm.Tr×Nat)}{i:Nat}{s:List UInt8}(a:aAf s=true):jL f i s=some ([],1):=by
 unfold jL;cases 1000-i<;>rw[gY,Ar a]
theorem aLd.more{f:List UInt8→Option (Itm.Tr×Nat)}{s:List UInt8}{l:List Itm.Tr}{i a:Nat}{L:List Itm.Tr}(h:aLd (jL f) s l i a L)(u:a+1<s.length):i<1000∧aAf (s.drop a)=false:=by
 obtain⟨k,ts,j,c,q,r⟩:=h;cases d:aAf (s.drop a)with
 |true=>
  rw[aEI d]at c;simp only[Ab,Am]at c;omega
 |false=>
  refine⟨?_,rfl⟩;by_cases g:i<1000
  ·exact g
  ·unfold jL at c;rw[show 1000-i=0 by omega,gY,d]at c;cases c
theorem aLd.last{f:List UInt8→Option (Itm.Tr×Nat)}(r:∀s t k,f s=some (t,k)→1≤k){s:List UInt8}{l:List Itm.Tr}{i a:Nat}{L:List Itm.Tr}(h:aLd (jL f) s l i a L)(B:¬a+1<s.length):L=l:=by
 obtain⟨y,ts,j,c,q,A⟩:=h;cases d:aAf (s.drop a)with
 |true=>
  rw[aEI d]at c;simp only[Ab,Am]at c;rw[←q,←c.1,Aj]
 |false=>
  exfalso;unfold jL at c;cases g:1000-i with
  |zero=>rw[g,gY,d]at c;cases c
  |succ m=>
   rw[g,gY,d]at c;simp only[Av,if_false]at c;split at c
   ·cases c
   ·next t k x=>
    have:=r _ _ _ x;split at c
    ·cases c
    ·next u=>
     have:=aEJ u;simp only[Ab,Am]at c;omega
theorem aLd.full{f:List UInt8→Option (Itm.Tr×Nat)}{s:List UInt8}{l:List Itm.Tr}{n a:Nat}{L:List Itm.Tr}(h:aLd (gZ f n) s l n a L):L=l:=by
 obtain⟨g,ts,j,c,d,k⟩:=h;unfold gZ at c;rw[Dc,fJ]at c;simp only[Ab,Am]at c;rw[←d,←c.1,Aj]
theorem aGc{d a k:Nat}{s:List UInt8}{t:Itm.Tr}(h:itF d (s.drop a)=some (t,k))(g:s.length≤1000000):itF d ((s.drop a).take (a+k-a))=some (t,((s.drop a).take (a+k-a)).length)∧((s.drop a).take (a+k-a)).length≤1000000:=by
 have c:=gD _ _ _ _ h;have f:((s.drop a).take k).length=k:=by rw[Bb];omega
 rw[Aq]at c;rw[show a+k-a=k by omega,f];exact⟨aMq h (by rw[Aq];omega),by omega⟩
structure Ip where
 a:Nat
 i:Nat
 r:Rw
 xs:List Value
 L:List (Itm.Tr×List Value)
 V:View
theorem aIo(s:List UInt8)(n z:Nat)(o:Bool)(q:s.length≤1000000)(w:World){U:View}(g:See U w)(c:hdF s=some (0,n,o,z)):CP 148 #[.string (B s)] w (fO w U (oQ (Itm.cA n))):=by
 have j:=(eK c).1;have h:=(aAD c).1;refine dE 72 Tryz.func148 g ?_;refine zs (zr (aW (fun d=>(zn (zQ 1 (dK (fun W f=>mF c W (by unfold R47;omega)) (aW (fun a=>(aX 1 a (zn (zs (zB [0,2,0] [(a,1)] (zn (dP (zB [0,2,0] [(a,1)] (aX 0 d (zn (aA (dL [1] [(d,5)] [(iV (n:Nat))] (fun k f=>?_))))))))))))))))))));exact aH f (View.le_refl _) ⟨_,rfl,TV.num _ n (by unfold W64;omega)⟩
theorem aGa(s:List UInt8)(n z:Nat)(o:Bool)(q:s.length≤1000000)(w:World){U:View}(g:See U w)(c:hdF s=some (2,n,o,z)):CP 148 #[.string (B s)] w (fO w U (oQ (eE (s.drop z)))):=by
 have j:=(eK c).1;have h:=(aAD c).1;refine dE 72 Tryz.func148 g ?_;refine zs (zr (aW (fun d=>(zn (zQ 1 (dK (fun W f=>mF c W (by unfold R47;omega)) (aW (fun a=>(aX 1 a (zn (zs (zB [0,2,0] [(a,1)] (zn (dD (zk (zs (zB [0,2,0] [(a,1)] (zn (dP (zs ?_))))))))))))))))))));refine iM 2 [0,4,0,0,4,1] [(a,1),(a,1)] [.val (St (s.drop z))] ⟨?_,trivial⟩ ?_
 ·exact vR (iK 9 _ (some _) none rfl s z s.length (s.drop z) kR (show evS _ _=_ by kernel_rfl) rfl nL nL (dQ _ _) Tryz.underlying9)
 refine zq 1 (aX 0 d (zn (aA (dL [1] [(d,5)] [(.agg #[(I6 2),(U6 0),(St (s.drop z)),S0,(.bool false)])] (fun k f=>?_)))));exact aH f (View.le_refl _) ⟨_,rfl,TV.str _ (s.drop z) (by rw[Aq];unfold R47;omega)⟩
theorem aF9(s:List UInt8)(n z:Nat)(o:Bool)(q:s.length≤1000000)(w:World){U:View}(g:See U w)(c:hdF s=some (3,n,o,z)):CP 148 #[.string (B s)] w (fO w U (oQ (aHE (s.drop z)))):=by
 have j:=(eK c).1;have h:=(aAD c).1;refine dE 72 Tryz.func148 g ?_;refine zs (zr (aW (fun d=>(zn (zQ 1 (dK (fun W f=>mF c W (by unfold R47;omega)) (aW (fun a=>(aX 1 a (zn (zs (zB [0,2,0] [(a,1)] (zn (dD (zk (zs (zB [0,2,0] [(a,1)] (zn (dP (zs ?_))))))))))))))))))));refine iM 2 [0,4,0,0,4,1] [(a,1),(a,1)] [.val (St (s.drop z))] ⟨?_,trivial⟩ ?_
 ·exact vR (iK 9 _ (some _) none rfl s z s.length (s.drop z) kR (show evS _ _=_ by kernel_rfl) rfl nL nL (dQ _ _) Tryz.underlying9)
 refine zq 1 (aX 0 d (zn (aA (dL [1] [(d,5)] [(.agg #[(I6 3),(U6 0),(St (s.drop z)),S0,(.bool false)])] (fun k f=>?_)))));exact aH f (View.le_refl _) ⟨_,rfl,TV.txt _ (s.drop z) (by rw[Aq];unfold R47;omega)⟩
theorem aDH(s:List UInt8)(l:List Itm.Tr)(j:Nat)(d n z:Nat)(hs:s.length≤1000000)(w:World){U:View}(hU:See U w)(hh:hdF s=some (4,n,false,z))(hd:d≤8)(hI:aOT d)(hG:gZ (itF d) n 0 (s.drop z)=some (l,j))(hj:z+j=s.length)(hn:n≤1000):CP 148 #[.string (B s)] w (fO w U (oQ (.mk 4 0 [] l false))):=by
 have h4:=(eK hh).1;have j6:=(aAD hh).1;refine dE 72 Tryz.func148 hU ?_;refine zs (zr (aW (fun I=>(zn (zQ 1 (dK (fun W J=>mF hh W (by unfold R47;omega)) (aW (fun k=>(aX 1 k (zn (zs (zB [0,2,0] [(k,1)] (zn (dD (zk (zs (zB [0,2,0] [(k,1)] (zn (dD (zk (zB [0,2,0] [(k,1)] (aW (fun A=>(aX 2 A (zn (zB [0,2,0] [(k,1)] (zn (zs (zQ 1 (zn (aB (eY (α:=Ip) (fun x=>[0,2,3,4,5,6].zip [(St s),(Pt I 0),(Pt k 0),(Pt A 0),(L6 x.a),(N6 (x.i:Nat))]) (fun x=>x.V) (fun x=>([(I,.cells [(I6 0),(U6 0),(St []),S0,(.bool false)].toArray 89 (0,0)),(bK k [(L6 z),(I6 4),(N6 (n:Nat)),(.bool false)] 265),(A,.cells [(I6 4),(U6 0),(St []),(x.r.V x.i),(.bool false)].toArray 89 (0,0))]++x.r.B 89 x.xs)) (fun x=>x.i≤n∧View.le U x.V∧RwR TV 5 x.V x.r x.xs x.i x.L∧aLd (gZ (itF d) n) s l x.i x.a (x.L.map Prod.fst)) (fun x=>n-x.i) ⟨z,0,Rw.nil,[],[],U⟩ ?_ ?_ (hm:=fun _ h=>h.eqv (Dn kR (Aj ([(I,.cells [(I6 0),(U6 0),(St []),S0,(.bool false)].toArray 89 (0,0)),(bK k [(L6 z),(I6 4),(N6 (n:Nat)),(.bool false)] 265),(A,.cells [(I6 4),(U6 0),(St []),S0,(.bool false)].toArray 89 (0,0))]:aN)).symm))))))))))))))))))))))))))))))))))
 ·exact⟨Ap _,View.le_refl _,RwR.nil,h4,l,j,hG,rfl,hj⟩
 intro x hx;obtain⟨j9,b7,y,q⟩:=hx;have j8:=q.1;refine zs (zB [0,2,0,0,0,0,0,0,0,0,0,2,0,0,0,0,2,0,0,0] [(k,1),(k,1),(k,1)] (zn (cE ((x.i:Int)<(n:Int)) (fun h0 c4=>?_) (fun h0 c4=>?_))))
 ·refine zk (zs (aB (zQ 2 ?_)));obtain⟨L,K,b4,j3,e2⟩:=q.step (gD d) (mJ oW _);have h2:=aNl hd b4 (by rw[Aq];omega);obtain⟨h1,e8⟩:=aGc b4 hs;refine pO (fun W J=>qM s hs 8 (by decide) x.a q.1 W J.view) (fun v3 V3 a1 E=>?_);have k4:=y.le a1;unfold dF at E;rw[h2]at E;obtain rfl:=E;refine zq 5 (zn (zs ?_));refine mB 2 [0,5,0,0,0,1,1,1] [(A,1)] [.val (St ((s.drop x.a).take ((x.a+K)-x.a))),.mem (oQ L),.mem (fun v V=>∃g,v=(Sl g 0 1 1)∧eZ V (some ⟨g,0,none⟩) [L])] (by simp only[Bc];refine⟨?_,?_,?_,fun _ h=>by cases h⟩<;>first|trivial|(intro v V V2 F Y;(first|trivial|exact oQ.mono F Y|exact PhiMono.go Y F|(obtain⟨g,e,Y⟩:=Y;exact⟨g,e,Y.le F⟩)))) ⟨?_,?_,?_,trivial⟩ ?_
  ·exact wR (fun u=>(iK 9 _ (some _) (some _) rfl s x.a (x.a+K) ((s.drop x.a).take ((x.a+K)-x.a)) kR (show evS _ _=_ by kernel_rfl) (show evS _ _=_ by kernel_rfl) nL nL rfl Tryz.underlying9))
  ·refine wM 148 (fun u=>#[(St ((s.drop x.a).take ((x.a+K)-x.a)))]) fun u V hV b3 W hW=>?_
   exact hI ((s.drop x.a).take ((x.a+K)-x.a)) L h1 e8 W hW
  ·refine wN [66] (fun u=>[u 6]) fun u V hV b3=>?_
   have e6:=b3 6 kR rfl;obtain⟨j1,q6,b6⟩:=e6;obtain⟨a6,c6,rfl,h9,j5,j7,j4⟩:=b6.form;refine⟨(tC L a6 c6),89,fun r=>(Sl r 0 1 1),?_,fun g V' e3 hR=>?_⟩
   ·rw[q6];kernel_rfl
   exact⟨g,rfl,eZ.lit [(L,(tC L a6 c6))] hR ⟨b6.le e3,trivial⟩ (show 1≤R47 by decide)⟩
  intro u5 V5 a7 C;have k6:=k4.le a7;have M:=C 6 rfl;obtain⟨c2,b8,G⟩:=M;obtain⟨h6,h7,rfl,c1,e9,h3,e5⟩:=G.form;refine qX 66 b8 ?_;have N:=C 7 rfl;obtain⟨h8,b9,c0⟩:=N;refine qX 67 b9 ?_;obtain⟨j0,j2,L7,e7,O,D,c8⟩:=c0.open (by simp);cases e7;have X:L7.length=1:=by rw[←Az (f:=Prod.fst),O];rfl
  refine lN 3 89 87 64 1 1 y.ok (fun W J=>View.range_of c8 J.view) (by rw[D.flat_len,X]) D.one (by decide) (fun r8 b5=>?_);refine zq 1 ?_;refine aBa 2 A 3 (x.i+1) 5 r8 (x.xs++(L7.flatMap Prod.snd)) b5 [(I6 4),(U6 0),(St []),(x.r.V x.i),(.bool false)] 89 87 _ _ rfl kR kR kR (fun a c=>by kernel_rfl) kR rfl kR ?_;refine zn (zr (zq 2 (zn (zr (zq 2 (dS 53 (U6 (IntKind.u64.wrap ((x.i:Int)+1))) (U6 ((x.i:Int)+1)) (Ag (Value.int .u64) (u64_in oW oW)) ?_))))));refine zq 1 (zn ?_);refine nx ⟨x.a+K,x.i+1,r8,(x.xs++(L7.flatMap Prod.snd)),x.L++L7,V5⟩ ?_ ?_
  ·exact⟨by show x.i+1≤n;omega,(View.le_trans (View.le_trans b7 a1) a7),RwR.app k6 (aAk D) X b5,by rw[Br,O];exact e2⟩
  ·show n-(x.i+1)<n-x.i;omega
 ·refine aK (zs (zr ?_));refine lA x.r x.xs 5 x.i [(I,.cells [(I6 0),(U6 0),(St []),S0,(.bool false)].toArray 89 (0,0)),(bK k [(L6 z),(I6 4),(N6 (n:Nat)),(.bool false)] 265),(A,.cells [(I6 4),(U6 0),(St []),(x.r.V x.i),(.bool false)].toArray 89 (0,0))] 89 kR y.ok (fun a9 c9 V9 a8 e1 c7=>?_);rw[c7];have h5:=y.le a8;refine cG [3] [(A,5)] (aX 0 I (zn (aA (dL [1] [(I,5)] [(.agg #[(I6 4),(U6 0),(St []),(.slice a9 x.i c9),(.bool false)])] (fun W' J=>?_)))));have Z:=h5.arr c9 e1 (View.le_refl _) (by unfold R47;omega) false;have e4:x.i=n:=by omega
  rw[e4]at q;have e0:=q.full;rw[e0]at Z;exact aH J (View.le_trans b7 a8) ⟨_,rfl,Z⟩
theorem aGb(s:List UInt8)(l:List Itm.Tr)(j:Nat)(d z:Nat)(hs:s.length≤1000000)(w:World){U:View}(hU:See U w)(hh:hdF s=some (4,0,true,z))(hd:d≤8)(hI:aOT d)(hG:jL (itF d) 0 (s.drop z)=some (l,j))(hj:z+j=s.length):CP 148 #[.string (B s)] w (fO w U (oQ (.mk 4 0 [] l true))):=by
 have h4:=(eK hh).1;have j6:=(aAD hh).1;refine dE 72 Tryz.func148 hU ?_;refine zs (zr (aW (fun I=>(zn (zQ 1 (dK (fun W J=>mF hh W (by unfold R47;omega)) (aW (fun k=>(aX 1 k (zn (zs (zB [0,2,0] [(k,1)] (zn (dD (zk (zs (zB [0,2,0] [(k,1)] (zn (dD (zk (zB [0,2,0] [(k,1)] (aW (fun A=>(aX 2 A (zn (zB [0,2,0] [(k,1)] (zn (zs (zQ 1 (zn (aB (eY (α:=Ip) (fun x=>[0,2,3,4,5,6].zip [(St s),(Pt I 0),(Pt k 0),(Pt A 0),(L6 x.a),(N6 (x.i:Nat))]) (fun x=>x.V) (fun x=>([(I,.cells [(I6 0),(U6 0),(St []),S0,(.bool false)].toArray 89 (0,0)),(bK k [(L6 z),(I6 4),(U6 0),(.bool true)] 265),(A,.cells [(I6 4),(U6 0),(St []),(x.r.V x.i),(.bool true)].toArray 89 (0,0))]++x.r.B 89 x.xs)) (fun x=>x.i≤1000∧View.le U x.V∧RwR TV 5 x.V x.r x.xs x.i x.L∧aLd (jL (itF d)) s l x.i x.a (x.L.map Prod.fst)) (fun x=>1000-x.i) ⟨z,0,Rw.nil,[],[],U⟩ ?_ ?_ (hm:=fun _ h=>h.eqv (Dn kR (Aj ([(I,.cells [(I6 0),(U6 0),(St []),S0,(.bool false)].toArray 89 (0,0)),(bK k [(L6 z),(I6 4),(U6 0),(.bool true)] 265),(A,.cells [(I6 4),(U6 0),(St []),S0,(.bool true)].toArray 89 (0,0))]:aN)).symm))))))))))))))))))))))))))))))))))
 ·exact⟨Ap _,View.le_refl _,RwR.nil,h4,l,j,hG,rfl,hj⟩
 intro x hx;obtain⟨j9,b8,y,q⟩:=hx;have j8:=q.1;refine zs (zB [0,2,0,0,0,0,0] [(k,1)] (eC 38 ((((s).length:Nat):Int)-1) (zq 3 (jV 41 ((x.a:Int)<((((s).length:Nat):Int)-1)) (fun h0 c7=>?_) (fun h0 c7=>?_)))))
 ·refine zq 10 (zn (dP (zk (zs (aB (zQ 2 ?_))))));have b4:=q.more oW;obtain⟨L,K,b5,j3,e3⟩:=q.step (gD d) (lK b4.1 b4.2);have h2:=aNl hd b5 (by rw[Aq];omega);obtain⟨h1,e8⟩:=aGc b5 hs;refine pO (fun W J=>qM s hs 8 (by decide) x.a q.1 W J.view) (fun v3 V3 a1 E=>?_);have k4:=y.le a1;unfold dF at E;rw[h2]at E;obtain rfl:=E;refine zq 5 (zn (zs ?_));refine mB 2 [0,5,0,0,0,1,1,1] [(A,1)] [.val (St ((s.drop x.a).take ((x.a+K)-x.a))),.mem (oQ L),.mem (fun v V=>∃g,v=(Sl g 0 1 1)∧eZ V (some ⟨g,0,none⟩) [L])] (by simp only[Bc];refine⟨?_,?_,?_,fun _ h=>by cases h⟩<;>first|trivial|(intro v V V2 F Y;(first|trivial|exact oQ.mono F Y|exact PhiMono.go Y F|(obtain⟨g,e,Y⟩:=Y;exact⟨g,e,Y.le F⟩)))) ⟨?_,?_,?_,trivial⟩ ?_
  ·exact wR (fun u=>(iK 9 _ (some _) (some _) rfl s x.a (x.a+K) ((s.drop x.a).take ((x.a+K)-x.a)) kR (show evS _ _=_ by kernel_rfl) (show evS _ _=_ by kernel_rfl) nL nL rfl Tryz.underlying9))
  ·refine wM 148 (fun u=>#[(St ((s.drop x.a).take ((x.a+K)-x.a)))]) fun u V hV b3 W hW=>?_
   exact hI ((s.drop x.a).take ((x.a+K)-x.a)) L h1 e8 W hW
  ·refine wN [66] (fun u=>[u 6]) fun u V hV b3=>?_
   have e6:=b3 6 kR rfl;obtain⟨j1,q6,b7⟩:=e6;obtain⟨a6,c6,rfl,h9,j5,j7,j4⟩:=b7.form;refine⟨(tC L a6 c6),89,fun r=>(Sl r 0 1 1),?_,fun g V' e4 hR=>?_⟩
   ·rw[q6];kernel_rfl
   exact⟨g,rfl,eZ.lit [(L,(tC L a6 c6))] hR ⟨b7.le e4,trivial⟩ (show 1≤R47 by decide)⟩
  intro u5 V5 a7 C;have k6:=k4.le a7;have M:=C 6 rfl;obtain⟨c4,b9,G⟩:=M;obtain⟨h6,h7,rfl,c2,e9,h3,e5⟩:=G.form;refine qX 66 b9 ?_;have N:=C 7 rfl;obtain⟨h8,c0,c1⟩:=N;refine qX 67 c0 ?_;obtain⟨j0,j2,L7,e7,O,D,e0⟩:=c1.open (by simp);cases e7;have X:L7.length=1:=by rw[←Az (f:=Prod.fst),O];rfl
  refine lN 3 89 87 64 1 1 y.ok (fun W J=>View.range_of e0 J.view) (by rw[D.flat_len,X]) D.one (by decide) (fun r8 b6=>?_);refine zq 1 ?_;refine aBa 2 A 3 (x.i+1) 5 r8 (x.xs++(L7.flatMap Prod.snd)) b6 [(I6 4),(U6 0),(St []),(x.r.V x.i),(.bool true)] 89 87 _ _ rfl kR kR kR (fun a c=>by kernel_rfl) kR rfl kR ?_;refine zn (zr (zq 2 (zn (zr (zq 2 (dS 53 (U6 (IntKind.u64.wrap ((x.i:Int)+1))) (U6 ((x.i:Int)+1)) (Ag (Value.int .u64) (u64_in oW oW)) ?_))))));refine zq 1 (zn ?_);refine nx ⟨x.a+K,x.i+1,r8,(x.xs++(L7.flatMap Prod.snd)),x.L++L7,V5⟩ ?_ ?_
  ·exact⟨by show x.i+1≤1000;omega,(View.le_trans (View.le_trans b8 a1) a7),RwR.app k6 (aAk D) X b6,by rw[Br,O];exact e3⟩
  ·show 1000-(x.i+1)<1000-x.i;omega
 ·refine cG [0,2,0,0,0,0,0,0,0,0] [(k,1)] (zn (dD (aK (zs (zr ?_)))));refine lA x.r x.xs 5 x.i [(I,.cells [(I6 0),(U6 0),(St []),S0,(.bool false)].toArray 89 (0,0)),(bK k [(L6 z),(I6 4),(U6 0),(.bool true)] 265),(A,.cells [(I6 4),(U6 0),(St []),(x.r.V x.i),(.bool true)].toArray 89 (0,0))] 89 kR y.ok (fun a9 c9 V9 a8 e2 c8=>?_);rw[c8];have h5:=y.le a8;refine cG [3] [(A,5)] (aX 0 I (zn (aA (dL [1] [(I,5)] [(.agg #[(I6 4),(U6 0),(St []),(.slice a9 x.i c9),(.bool true)])] (fun W' J=>?_)))));have Z:=h5.arr c9 e2 (View.le_refl _) (by unfold R47;omega) true;have e1:x.L.map Prod.fst=l:=q.last (fun _ _ _=>aOv) oW;rw[e1]at Z;exact aH J (View.le_trans b8 a8) ⟨_,rfl,Z⟩
theorem aFQ:∀d,d≤9→aOT d:=by
 intro d C
 induction d with
 |zero=>intro s t h;cases h
 |succ d ih=>
  intro s t c g w U f;cases a:hdF s with
  |none=>rw[itF,a]at c;cases c
  |some q=>
   obtain⟨m,n,b,z⟩:=q;by_cases u:m=0
   ·subst u;rw[aPU a c];exact aIo s n z b g w f a
   ·by_cases x:m=2
    ·subst x;rw[aOt a c];exact aGa s n z b g w f a
    ·by_cases y:m=3
     ·subst y;rw[aOs a c];exact aF9 s n z b g w f a
     ·by_cases A:m=4
      ·subst A;cases b with
       |true=>
        obtain rfl:=aPX a;obtain⟨l,j,k,rfl,r⟩:=aOu a c;exact aGb s l j d z g w f a oW (ih oW) k r
       |false=>
        obtain⟨B,l,j,k,rfl,r⟩:=aKl a c;exact aDH s l j d n z g w f a oW (ih oW) k r B
      ·rw[itF,a]at c;simp only[u,x,y,A,if_false]at c;cases c
def aCM : Nat → List UInt8 → Option (List Itm.Tr)
 |0,_=>some []
 |n+1,s=>if s.length=0 then some []else match itF 8 s with
  |none=>none
  |some (t,k)=>match aCM n (s.drop k)with
   |none=>none
   |some ts=>some (t::ts)
def aE4(a : List Itm.Tr) : Option (List Itm.Tr) → Option (List Itm.Tr)
 |none=>none
 |some ts=>some (a++ts)
theorem aBF{n:Nat}{s:List UInt8}(h:s.length≠0):aCM (n+1) s=match itF 8 s with
  |none=>none
  |some (t,k)=>aE4 [t] (aCM n (s.drop k)):=by
 rw[aCM,An h];cases itF 8 s with
 |none=>rfl
 |some q=>
  obtain⟨t,k⟩:=q;simp only;cases aCM n (s.drop k)with
  |none=>rfl
  |some ts=>rfl
theorem aKU(a b:List Itm.Tr)(x:Option (List Itm.Tr)):aE4 a (aE4 b x)=aE4 (a++b) x:=by
 cases x with
 |none=>rfl
 |some ts=>simp[aE4]
theorem aKT(x:Option (List Itm.Tr)):aE4 [] x=x:=by
 cases x with
 |none=>rfl
 |some ts=>rfl
theorem aCL : ∀ (l : List Itm.Tr) (n : Nat), l.length ≤ n → (∀ x ∈ l, ∀ r, itF 8 (Itm.aG x ++ r) = some (x, (Itm.aG x).length)) → aCM n (Itm.aY l) = some l
 | [],n,_,_=>by
  rw[Itm.aY];cases n with
  |zero=>rfl
  |succ n=>rfl
 |x::l,0,h,_=>by simp at h
 |x::l,n+1,h,d=>by
  have a:=d x Ck (Itm.aY l);have c:(Itm.aG x++Itm.aY l).length≠0:=by
   intro f;rw[Be.1 f]at a;rw[show itF 8 []=none from rfl]at a;cases a
  rw[Itm.aY,aBF c,a];simp only;rw[Eu,aCL l n (by rw[Ah]at h;omega) fun y g=>d y (Ce _ g)];rfl
def nT(x:Itm.Tr):Int:=((min x.n 65536:Nat):Int)
def aFZ(y:Itm.Tr):Option Pa:=match y.l with
 | [u,v]=>some ⟨nT u,v⟩
 |_=>none
def dT(x:Itm.Tr):List Pa:=match aA0 aFZ x.l with
 |some l=>l
 |none=>[]
noncomputable def aHt(t c s:Itm.Tr)(p:List Pa)(r:Itm.Tr):Option As:=match ofE s with
 |none=>none
 |some e=>some ⟨t.l.map nT,nT c,e,p,r.l.map dT⟩
noncomputable def asT(l:List Itm.Tr):Option As:=match l with
 | [t,c,_,s,r]=>aHt t c s [] r
 | [t,c,_,s,p,r]=>aHt t c s (dT p) r
 |_=>none
theorem aDy{α β : Type}{f : α → β}{g : β → α} : ∀ (l : List β), (∀ y ∈ l, f (g y) = y) → (l.map g).map f = l
 | [],_=>rfl
 |y::l,h=>by rw[Cf,Cf,h y Ck,aDy l fun z a=>h z (Ce _ a)]
theorem aJ6{n:Int}(h:0≤n∧n≤65535):nT (Itm.cA n.toNat)=n:=by
 show((min n.toNat 65536:Nat):Int)=n;omega
theorem aCA{l:List Pa}(h:∀p∈l,0≤p.id∧p.id≤65535):dT (fV l)=l:=by
 have a:aA0 aFZ (fV l).l=some l:=sO l fun p c=>by
  show some (⟨nT (Itm.cA p.id.toNat),p.v⟩:Pa)=some p;rw[aJ6 (h p c)]
 unfold dT;rw[a]
theorem aFb{a:As}(g:a.right=true):asT a.items=some a:=by
 unfold As.right at g;rw[Ae]at g;have h:=g.1;have d:=jR 5 a.s;unfold cV at h;simp only[Ae,Ak]at h;obtain⟨⟨⟨⟨⟨⟨⟨⟨F,G⟩,y⟩,A⟩,B⟩,I⟩,C⟩,J⟩,D⟩:=h;have j:(aM6 a.t).l.map nT=a.t:=aDy a.t fun n d=>aJ6 (gM y n d)
 have k:=aJ6 (dZ A);have q:=aDu B d;have x:=aCA (fG C);have u:(Itm.dA (a.r.map fV)).l.map dT=a.r:=aDy a.r fun l E=>aCA (fG (by
  have:=Ao.1 D l E;unfold aAN at this;rw[Ae]at this;exact this.2))
 obtain⟨t,c,s,p,r⟩:=a;unfold As.items;simp only at j k q x u ⊢;by_cases f:p.length=0
 ·obtain rfl:=Be.1 f;rw[Ar f];show aHt _ _ _ _ _=_;unfold aHt;rw[q];simp only[j,k,u]
 ·rw[An f];show aHt _ _ _ _ _=_;unfold aHt;rw[q];simp only[j,k,x,u]
theorem aBE{a:As}(j:a.ok)(h:a.right=true):aCM 7 a.bytes=some a.items:=by
 unfold As.right at h;rw[Ae,Ak]at h;have q:(Itm.aY a.items).length≤4000:=h.2;have c:a.items.length≤7:=by unfold As.items;split<;>simp
 have f:=aEO j h.1;have k:=rP h.1 (d:=4);exact aCL a.items 7 c fun x g r=>lW 8 x r (k x g) (f x g) (by
  have:=aAe g;omega)
theorem aH3{s:List UInt8}(h:aCM 7 s=none):eD s=none:=jE fun a c d f=>by
 subst f;rw[aBE c d]at h;cases h
theorem aCy{s:List UInt8}{l:List Itm.Tr}(h:aCM 7 s=some l)(c:asT l=none):eD s=none:=jE fun a f d g=>by
 subst g;rw[aBE f d]at h;obtain rfl:=Bs h;rw[aFb d]at c;cases c
theorem aH2{s:List UInt8}{l:List Itm.Tr}{a:As}(h:aCM 7 s=some l)(c:asT l=some a){b:As}(f:b.ok)(d:b.right=true)(g:b.bytes=s):b=a:=by
 subst g;rw[aBE f d]at h;obtain rfl:=Bs h;rw[aFb d]at c;exact Bs c
theorem aCx{s:List UInt8}{l:List Itm.Tr}{a:As}(h:aCM 7 s=some l)(g:asT l=some a)(c:a.right=false∨a.bytes≠s):eD s=none:=jE fun b j d f=>by
 obtain rfl:=aH2 h g j d f;rcases c with c|c
 ·rw[c]at d;cases d
 ·exact c f
theorem aOL{l:List Itm.Tr}(h:l.length≠5)(a:l.length≠6):asT l=none:=by
 unfold asT;split
 ·exact absurd rfl h
 ·exact absurd rfl a
 ·rfl
theorem aQQ{l:List Itm.Tr}(h:l.length=5){t c s r:Itm.Tr}(a:l[0]? =some t)(d:l[1]? =some c)(f:l[3]? =some s)(g:l[4]? =some r):asT l=aHt t c s [] r:=by
 obtain⟨z,rfl⟩:=aPT h a d f g;rfl
theorem aQP{l:List Itm.Tr}(j:l.length=6){t c s p r:Itm.Tr}(a:l[0]? =some t)(d:l[1]? =some c)(f:l[3]? =some s)(g:l[4]? =some p)(h:l[5]? =some r):asT l=aHt t c s (dT p) r:=by
 obtain⟨z,rfl⟩:=aPS j a d f g h;rfl
set_option maxHeartbeats 1600000 in
set_option maxRecDepth 100000 in
theorem aLO{s : aZ}{o : Oper}(I : TypeId)(x y : Operand)(E : o.op = .binOp .eql 354 x y I)(a k : Int)(c d f g h j q r u A C D : List UInt8)
  (F:evS s x=some (.agg #[.int .i64 a,.string (B c),.string (B d),.string (B f),.string (B g),.string (B h),.string (B j)])) (G:evS s y=some (.agg #[.int .i64 k,.string (B q),.string (B r),.string (B u),.string (B A),.string (B C),.string (B D)])) (W:World):
  (execOp (ev s) o).run Tryz.prog W=.ok (.value (.bool (decide (a=k∧c=q∧d=r∧f=u∧g=A∧h=C∧j=D)))) W:=by
 unfold execOp;simp only[E,dY F,dY G]
 go_simp
 (repeat' split)<;>simp_all [aQc]
structure En where
 v:Int
 k:List UInt8
 nn:List UInt8
 wt:List UInt8
 t:List UInt8
 m:List UInt8
 g:List UInt8
def En.cs(e:En):List Value:=aQ8 e.v e.k e.nn e.wt e.t e.m e.g
def EnR(_:View)(e:En)(cs:List Value):Prop:=cs=e.cs
instance enR:RecOk EnR 7:=⟨fun _ h=>h,fun h=>by rw[h];rfl,fun h u hu=>by
 rw[h]at hu;simp only[En.cs,aQ8,Bh,Bt,Ct]at hu;rcases hu with rfl|rfl|rfl|rfl|rfl|rfl|rfl<;>rfl⟩
structure aOP (U : View) (ib : Nat) (L : List En) : Prop where
 at_:∃a c,U ⟨ib,0,none⟩=some (.slice a L.length c)∧gF EnR 7 U a L
theorem aOP.le{U V:View}(d:View.le U V){f:Nat}{L:List En}(h:aOP U f L):aOP V f L:=by
 obtain⟨a,c,g,j⟩:=h.at_;exact⟨a,c,d _ _ g,j.le d⟩
theorem aKC(v:Int)(w:World):CP 145 #[.int .i64 v] w (Ret (.int .i64 (Eng.bits v)) w):=(Eng.aHq v w).mono fun e a h=>⟨h.1,h.2▸Below.refl _ _⟩
def lB(v:Int)(key:List UInt8):Bool:=if(if decide (Eng.bits v>0)then(!(key==[]))else false)then decide ((key.length:Int)≤64)else false
theorem aCR(v:Int)(key:List UInt8)(w:World):CP 102 #[.int .i64 v,.string (B key)] w (Ret (.bool (lB v key)) w):=by
 refine dI 17 Tryz.func102 ?_;refine zQ 1 (zn (zQ 1 (dK (fun W a=>aKC v W) (zq 2 (cN 8 (decide ((Eng.bits v)>0)) (fun c=>?_) (fun c=>?_))))))
 ·refine zq 1 (cD (.bool (!(key==[]))) (lQ _ _ _ _ rfl key [] kR kR) ?_);refine zq 2 (cN 12 (!(key==[])) (fun d=>?_) (fun d=>?_))
  ·refine zq 5 (zn (aA (aO [4] [(.bool (decide ((((key).length:Nat):Int)≤64)))] (fun f a=>?_))));exact⟨by simp only[dC,lB,c,d,bs,bQ,reduceIte],a.below⟩
  ·refine zq 5 (zn (aA (aO [4] [(.bool false)] (fun f a=>?_))));exact⟨by simp only[dC,lB,c,d,bs,bQ,reduceIte],a.below⟩
 ·refine zq 9 (zn (aA (aO [4] [(.bool false)] (fun f a=>?_))));exact⟨by simp only[dC,lB,c,bs,bQ,reduceIte],a.below⟩
def TbX(ib n:Nat)(xs:List Value)(σ:aN):Prop:=∃r:Rw,r.ok 7 n xs∧σ=[(ib,.cells #[r.V n] 76 (0,0))]++r.B 354 xs
def Tb(ib:Nat)(L:List En)(σ:aN):Prop:=TbX ib L.length (L.flatMap En.cs) σ
theorem Tb.snoc{a:Nat}{L:List En}{x:En}{σ:aN}(h:TbX a (L.length+1) (L.flatMap En.cs++x.cs) σ):Tb a (L++[x]) σ:=by
 unfold Tb;rw[Ac,Bz,Bu,Du,Aj];exact h
theorem Tb.new{a:Nat}:Tb a [] (aNw a):=⟨.nil,⟨rfl,rfl⟩,rfl⟩
theorem aOm{W0:Cx}{V:View}{W:World}(A B F R:aN)(h:Mem W0 V ((A++B)++F++R) W):Mem W0 V ((A++R)++F) W:=by
 have p:((A++B)++F++R).Perm (B++((A++R)++F)):=by
  refine(((Bw (l₁:=A) (l₂:=B)).append_right F).append_right R).trans ?_;rw[show((B++A)++F)++R=B++((A++F)++R) by simp only[Al]];exact(qP A F R).append_left B
 exact(h.perm p).sub (Dj _ _)
def enS(v:Int)(k t g:List UInt8):En:=⟨v,k,[],[],t,[],g⟩
theorem aKu(vr:Int)(key d:List UInt8)(j:Nat)(L:List En)(r:Rw){W0:Cx}{U:View}{f:aN}{W:World}(N:r.ok 7 L.length (L.flatMap En.cs))(hL:L.length≤100)(y:Mem W0 U (([(j,.cells #[r.V L.length] 76 (0,0))]++r.B 354 (L.flatMap En.cs))++f) W):
    CP 292 #[.pointer (some ⟨j,0,none⟩),.int .i64 vr,.string (B key),.string (B d)] W (iQ W0 U f fun v V σ'=>v=.string (B (Eng.dG (L.length+1) (eP vr)))∧Tb j (L++[enS vr key d (Eng.dG (L.length+1) (eP vr))]) σ'):=by
 have hz:=aDq vr;obtain⟨X,Y,v9⟩:=Rw.form N;have G:Mem W0 U ([(j,.cells #[r.V L.length] 76 (0,0))]++f++r.B 354 (L.flatMap En.cs)) W:=y.perm (qP _ _ _);have I:Mem W0 U ([(bK j [(r.V L.length)] 76)]++f++r.B 354 (L.flatMap En.cs)) W:=G.eqv kR;refine fU 30 Tryz.func292 I ?_;refine zQ 1 (zn (zQ 5 (dK (fun W y=>aKA vr W) (cY 293 #[(Pt j 0),(I6 ((eP vr:Nat):Int))] (St (Eng.dG (L.length+1) (eP vr))) (fun W y=>aIv j L.length Y (eP vr) X W (U:=aQb W) (fun _ _ h=>h) (v9▸eF y 0 j [(r.V L.length)] 76 kR 0 _ rfl) oW oW) ?_))));refine zq 1 (fH 1 (fun x=>?_));refine aX 1 x (zn (zs ?_));refine aJm 0 7 [0,0,0,0,3,4,1,1] [(j,1),(x,7)] [.mem (fun v V=>∃g,v=(Sl g 0 1 1)∧V.range g 0 [(I6 vr),(St key),(St []),(St []),(St d),(St []),(St (Eng.dG (L.length+1) (eP vr)))]),.mem (fun _ _=>True)] (r.B 354 (L.flatMap En.cs)) ([(bK j [(r.V L.length)] 76),(x,.cells [(I6 vr),(St key),(St []),(St []),(St d),(St []),(St (Eng.dG (L.length+1) (eP vr)))].toArray 354 (0,0))]++f) (aNu 354 7 (L.length+1) (L.flatMap En.cs) (fun ns _=>ns=[(I6 vr),(St key),(St []),(St []),(St d),(St []),(St (Eng.dG (L.length+1) (eP vr)))])) (aJP ([(bK j [(r.V L.length)] 76),(x,.cells [(I6 vr),(St key),(St []),(St []),(St d),(St []),(St (Eng.dG (L.length+1) (eP vr)))].toArray 354 (0,0))]++f) (r.B 354 (L.flatMap En.cs)) kR) rfl (by intro v V s2 h;trivial) (by intro v V O s2 K h;exact h) (by simp only[Bc];refine⟨?_,?_,fun _ h=>by cases h⟩<;>first|trivial|(intro v V O q k;(first|trivial|exact PhiMono.go k q|(obtain⟨g,e,k⟩:=k;exact⟨g,e,k.le q⟩)|(obtain⟨g,e,k⟩:=k;exact⟨g,e,View.range_le q k⟩)|(obtain⟨a,c,e,k⟩:=k;exact⟨a,c,e,k.le q⟩)))) ⟨?_,?_,trivial⟩ ?_
 ·refine nO fun σ'=>wN [23] (fun u=>[(.agg #[(I6 vr),(St key),(St []),(St []),(St d),(St []),(St (Eng.dG (L.length+1) (eP vr)))])]) fun u V K C=>?_
  refine⟨[(I6 vr),(St key),(St []),(St []),(St d),(St []),(St (Eng.dG (L.length+1) (eP vr)))],354,fun r=>(Sl r 0 1 1),?_,fun g V' a1 hR=>?_⟩
  ·kernel_rfl
  exact⟨g,rfl,hR⟩
 ·refine nP (fun u=>u 6) 354 74 7 104 1 L.length N (by unfold maxLen;omega) oW fun u V K C=>?_
  have Z:=C 6 kR rfl;obtain⟨g6,q6,t6⟩:=Z;exact⟨g6,0,1,_,q6,t6,rfl,by kernel_rfl,rfl⟩
 intro u1 V1 s1 J M A;obtain⟨z1,E⟩:∃z,u1 7=z:=⟨_,rfl⟩;rw[E]at A;obtain⟨F,_,rfl,rfl,D,rfl⟩:=A;refine aBd _ (([(bK j [(r.V L.length)] 76),(x,.cells [(I6 vr),(St key),(St []),(St []),(St d),(St []),(St (Eng.dG (L.length+1) (eP vr)))].toArray 354 (0,0))]++f)++F.B 354 ((L.flatMap En.cs)++[(I6 vr),(St key),(St []),(St []),(St d),(St []),(St (Eng.dG (L.length+1) (eP vr)))])) (fun _ h=>(h.perm Bw).eqv kR) ?_;refine qX 25 E ?_;refine zq 2 ?_;refine aBa 0 j 0 (L.length+1) 7 F ((L.flatMap En.cs)++[(I6 vr),(St key),(St []),(St []),(St d),(St []),(St (Eng.dG (L.length+1) (eP vr)))]) D [(r.V L.length)] 76 74 _ _ rfl kR kR kR (fun a c=>by kernel_rfl) kR rfl kR ?_;refine zn (zB [0,2,0] [(x,1)] (zn (aA (aO [8] [(St (Eng.dG (L.length+1) (eP vr)))] (fun W' y=>?_)))));exact⟨_,_,_,rfl,J,aOm [(bK j [(F.V (L.length+1))] 76)] [(x,.cells [(I6 vr),(St key),(St []),(St []),(St d),(St []),(St (Eng.dG (L.length+1) (eP vr)))].toArray 354 (0,0))] f (F.B 354 ((L.flatMap En.cs)++[(I6 vr),(St key),(St []),(St []),(St d),(St []),(St (Eng.dG (L.length+1) (eP vr)))])) (y.eqv kR),rfl,Tb.snoc ⟨F,D,rfl⟩⟩
def aDa(ib:Nat)(L:List En)(vr:Int)(key text:List UInt8)(v:Value)(_:View)(σ':aN):Prop:=if lB vr key then v=.tuple #[.string (B (Eng.dG (L.length+1) (eP vr))),.int .i64 0]∧Tb ib (L++[(enS vr key text (Eng.dG (L.length+1) (eP vr)))]) σ' else v=.tuple #[.string (B []),.int .i64 1]∧Tb ib L σ'
theorem aKB(vr:Int)(key a:List UInt8)(h d:Nat)(L:List En){W0:Cx}{U:View}{g c:aN}{W:World}(G:aCd U h d)(F:Tb d L g)(E:L.length≤100)(f:Mem W0 U (g++c) W):CP 88 #[.pointer (some ⟨h,0,none⟩),.int .i64 vr,.string (B key),.string (B a)] W (iQ W0 U c (aDa d L vr key a)):=by
 obtain⟨r,C,rfl⟩:=F;have k:Mem W0 U ([(d,.cells #[r.V L.length] 76 (0,0))]++c++r.B 354 (L.flatMap En.cs)) W:=f.perm (qP _ _ _);have q:Mem W0 U ([(bK d [(r.V L.length)] 76)]++c++r.B 354 (L.flatMap En.cs)) W:=k.eqv kR;refine fU 22 Tryz.func88 q ?_;refine zQ 2 (zn (zs (zQ 2 (dK (fun W f=>aCR vr key W) (zq 1 (zn (gN (!(lB vr key)) (fun j=>?_) (fun j=>?_))))))))
 ·refine zQ 2 (zn (aA (aO [8,9] [(St []),(I6 1)] (fun D f=>?_))));refine⟨_,_,_,rfl,View.le_refl _,(f.eqv (show _=[(d,.cells #[r.V L.length] 76 (0,0))]++c++r.B 354 (L.flatMap En.cs)from by kernel_rfl)).perm (qP _ _ _),?_⟩;unfold aDa;rw[An (by simpa using j)];exact⟨rfl,r,C,rfl⟩
 ·refine zk (zQ 3 (zV h (0) (.iface 73 (Pt d 0)) G 78 (.tmp 16) _ Tryz.underlying78 rfl ?_));refine zq 3 (aQ1 292 #[(Pt d 0),(I6 vr),(St key),(St a)] ([(bK d [(r.V L.length)] 76)]++r.B 354 (L.flatMap En.cs)) c (fun v V A=>v=.string (B (Eng.dG (L.length+1) (eP vr)))∧Tb d (L++[(enS vr key a (Eng.dG (L.length+1) (eP vr)))]) A) (qP [(bK d [(r.V L.length)] 76)] c (r.B 354 (L.flatMap En.cs))) (fun W f=>aKu vr key a d L r C E f) (fun v0 I J y u=>?_));obtain⟨rfl,x⟩:=u;refine zq 2 (zn (aA (aO [8,9] [(St (Eng.dG (L.length+1) (eP vr))),(I6 0)] (fun D f=>?_))));refine⟨_,_,_,rfl,y,f,?_⟩;unfold aDa;rw[Ar (by simpa using j)];exact⟨rfl,x⟩
def qB(v:Int)(k t g:List UInt8)(e:En):Bool:=decide (e.v=v∧e.k=k∧e.nn=[]∧e.wt=[]∧e.t=t∧e.m=[]∧e.g=g)
theorem aHu{L:List En}{f:En→Bool}{i:Nat}{y:En}(h:L[i]? =some y):(L.drop i).any f=(f y||(L.drop (i+1)).any f):=by rw[fN h,Gh]
theorem aIs(vr:Int)(key f j:List UInt8)(N:Nat)(L:List En)(w:World){U:View}(hU:See U w)(Z:aOP U N L):CP 289 #[.pointer (some ⟨N,0,none⟩),.int .i64 vr,.string (B key),.string (B f),.string (B j)] w (Ret (.bool (L.any (qB vr key f j))) w):=by
 obtain⟨a,c,M,O⟩:=Z.at_;have r:=O.len;unfold R47 at r;refine dE 30 Tryz.func289 hU ?_;refine zQ 1 (zn (zs (zQ 3 (zV N (0) (.slice a L.length c) M 74 (.tmp 15) _ Tryz.underlying74 rfl ?_))));refine zq 2 (zn (aB (eY (α:=Nat) (fun x=>[1,2,3,4,10,16,17,18].zip [(I6 vr),(St key),(St f),(St j),(.bool false),(.slice a L.length c),(L6 L.length),(L6 x)]) (fun x=>U) (fun x=>[]) (fun x=>x≤L.length∧(L.drop x).any (qB vr key f j)=L.any (qB vr key f j)) (fun x=>L.length-x) 0 ?_ ?_)))
 ·exact⟨Ap _,rfl⟩
 intro x hx;obtain⟨a1,k⟩:=hx;refine zQ 1 (zn (zs (cE ((x:Int)<(L.length:Int)) (fun Y D=>?_) (fun Y D=>?_))))
 ·refine zk (zs (aB (zs (zr ?_))));obtain⟨g,q⟩:∃y,(L)[x]? =some y:=⟨(L)[x]'oW,Aa _⟩;obtain⟨u,C,X,rfl,J,I⟩:=O.at_ x g q;obtain rfl:=I;refine cD (Pt u (C+x*7)) (rIx 354 rfl u C L.length c x 7) ?_;refine zU u (C+x*7) [(I6 g.v),(St g.k),(St g.nn),(St g.wt),(St g.t),(St g.m),(St g.g)] J 354 (.tmp 20) _ Tryz.underlying354 rfl ?_;refine aW (fun A=>(aX 0 A (zn (zB [1,0,0,0,0,0] [(A,7)] (cD (.bool (decide (g.v=vr∧g.k=key∧g.nn=[]∧g.wt=[]∧g.t=f∧g.m=[]∧g.g=j))) (aLO _ _ _ rfl _ _ _ _ _ _ _ _ _ _ _ _ _ _ kR kR) ?_)))));refine zn (cE (g.v=vr∧g.k=key∧g.nn=[]∧g.wt=[]∧g.t=f∧g.m=[]∧g.g=j) (fun E F=>?_) (fun E F=>?_))
  ·refine zQ 1 (zn (aA (aO [10] [(.bool true)] (fun V G=>?_))));refine⟨?_,G.below⟩;have K:qB vr key f j g=true:=E;rw[show L.any (qB vr key f j)=true from by rw[←k,aHu q,K];rfl];rfl
  ·refine zk (zr (zq 1 (eC 29 ((x:Int)+1) (zq 1 (zn ?_)))));refine nx (x+1) ?_ ?_ (d:=fun _ h=>Mem.sub (Ay _ _) (h.eqv (show _=([]:aN)++([(bK A [(I6 g.v),(St g.k),(St g.nn),(St g.wt),(St g.t),(St g.m),(St g.g)] 354)]:aN)from by kernel_rfl)))
   ·exact⟨by omega,by rw[←k,aHu q,show qB vr key f j g=false from E];rfl⟩
   ·show L.length-(x+1)<L.length-x;omega
 ·refine aK (zQ 1 (zn (aA (aO [10] [(.bool false)] (fun V G=>?_)))));refine⟨?_,G.below⟩;rw[show L.any (qB vr key f j)=false from by rw[←k,eI oW];rfl];rfl
def aBI(L:List En)(vr:Int)(key text tag:List UInt8):Int:=if lB vr key=false then 1 else if(L.any (qB vr key text tag))=false then 7 else 0
theorem aIu(vr:Int)(key a c:List UInt8)(k j:Nat)(L:List En)(w:World){U:View}(x:See U w)(y:aCd U k j)(u:aOP U j L):CP 50 #[.pointer (some ⟨k,0,none⟩),.int .i64 vr,.string (B key),.string (B a),.string (B c)] w (Ret (.int .i64 (aBI L vr key a c)) w):=by
 refine dE 27 Tryz.func50 x ?_;refine zQ 1 (zn (zs (aB (zQ 2 (dK (fun W f=>aCR vr key W) (zq 2 (zn (gN (!(lB vr key)) (fun h=>?_) (fun h=>?_)))))))))
 ·refine zQ 1 (zn (aA (aO [10] [(I6 1)] (fun r f=>?_))));have d:lB vr key=false:=by simpa using h
  refine⟨?_,f.below⟩;unfold aBI;simp only[dC,d,bs,bQ,reduceIte,Gk,reduceCtorEq]
  try rfl
 ·refine zQ 3 (zV k (0) (.iface 73 (Pt j 0)) y 78 (.tmp 19) _ Tryz.underlying78 rfl ?_);refine zq 4 (dK (fun W f=>aIs vr key a c j L W f.view u) (zq 2 (zn (gN (!(L.any (qB vr key a c))) (fun q=>?_) (fun q=>?_)))))
  ·refine zQ 1 (zn (aA (aO [10] [(I6 7)] (fun r f=>?_))));have d:lB vr key=true:=by simpa using h
   have g:(L.any (qB vr key a c))=false:=by simpa using q
   refine⟨?_,f.below⟩;unfold aBI;simp only[dC,d,g,bs,bQ,reduceIte,Gk,reduceCtorEq]
   try rfl
  ·refine zk (zQ 1 (zn (aA (aO [10] [(I6 0)] (fun r f=>?_)))));have d:lB vr key=true:=by simpa using h
   have g:(L.any (qB vr key a c))=true:=by simpa using q
   refine⟨?_,f.below⟩;unfold aBI;simp only[dC,d,g,bs,bQ,reduceIte,Gk,reduceCtorEq]
   try rfl
def txZ(p:Pr)(l:List Bk)(target:Int)(sec:Bk)(scope:Int):Int:=if !(aRu scope)then 1 else rdZ p l target sec
def txB(p:Pr)(l:List Bk)(target:Int)(sec:Bk)(scope:Int):List UInt8:=if txZ p l target sec scope !=0 then[]else aRx (rdA p l target) (rdH p l target) (rdS p l target sec) target scope++rdD p l target
def sgC(eb:Nat)(p:Pr)(a:Option Addr)(n c:Nat)(sec:Bk)(vr scope:Int)(key:List UInt8):List Value:=[.pointer (some ⟨eb,0,none⟩)]++oO p a n c++sec.cs++[.int .i64 vr,.int .i64 scope,.string (B key)]
def aB6(p:Pr)(l:List Bk)(sec:Bk)(vr scope:Int)(key:List UInt8)(t:Int):Bool:=txZ p l t sec scope==0&&lB vr key
def tgE(p:Pr)(l:List Bk)(sec:Bk)(vr scope:Int)(key:List UInt8)(L:List En)(t:Int):En:=enS vr key (txB p l t sec scope) (Eng.dG (L.length+1) (eP vr))
def aMS(sb:Nat)(cs:List Value)(ib:Nat)(L:List En)(p:Pr)(l:List Bk)(sec:Bk)(vr scope:Int)(key:List UInt8)(t:Int)(v:Value)(_:View)(σ':aN):Prop:=
 if aB6 p l sec vr scope key t then v=.tuple #[.string (B (Eng.dG (L.length+1) (eP vr))),.int .i64 0]∧∃σT,Tb ib (L++[tgE p l sec vr scope key L t]) σT∧σ'=[(sb,.cells cs.toArray 85 (0,0))]++σT
 else∃z:Int,v=.tuple #[.string (B []),.int .i64 z]∧z≠0∧∃σT,Tb ib L σT∧σ'=[(sb,.cells cs.toArray 85 (0,0))]++σT
theorem aLo.toN{w E:World}{U:View}{e:TypeId}{z n:Nat}{F:List Value}{u:Ending}{Φ:Value→View→Prop}(I:See U w)(h:aLo w e z n F u E)(r:∀b a V,View.le U V→V.range b 0 F→n≤a→Φ (.slice (some ⟨b,0,none⟩) n a) V):fO w U Φ u E:=by
 obtain⟨b,a,D,rfl,C,g,f,q⟩:=h;have d:Mem ⟨w,U⟩ U [] w:=⟨Below.refl _ _,fun _ _ h _=>h,I,fun k b o J=>by simp at J,fun j k x y c=>by simp at c⟩;obtain⟨V,A,G,B⟩:=(d.call C).addView f g fun k x K=>by simp at K
 exact⟨_,V,rfl,C,A,B.view,B.old,r b a V A (fun j v c=>G j v (by rw[Bp (Af.1 c).1];exact c)) q.2.2.1⟩
def aFi(l:List Int)(v:Value)(V:View):Prop:=∃g c,v=.slice (some ⟨g,0,none⟩) l.length c∧jT V (some ⟨g,0,none⟩) l∧l.length≤c
theorem aFi.mono{l:List Int}{v:Value}{V a:View}(j:View.le V a)(h:aFi l v V):aFi l v a:=by
 obtain⟨g,c,e,f,d⟩:=h;exact⟨g,c,e,f.le j,d⟩
theorem aIF{a:Option Addr}{ts:List Int}{c:Nat}{w:World}{U:View}(j:See U w)(k:jT U a ts)(d:ts≠[])(C:ts.length≤100000):CP 39 #[.slice a ts.length c] w (fO w U (aFi ts)):=by
 obtain⟨b,f,rfl,y⟩:=k.at_ d;refine(aBR j b f ts.length c (ts.map inV) y (by simp) (fun u A=>by obtain⟨x,_,rfl⟩:=Co.1 A;rfl) (Ec.2 d) oW).mono fun e D h=>aLo.toN j h fun b g V B q r=>⟨b,g,rfl,aDJ q k.len,r⟩
theorem aPQ{p:Pr}{l:List Bk}{ts:List Int}(h:(aF5 p l 1 ts !=0)=false):ts≠[]:=by
 rintro rfl;have a:aF5 p l 1 []=0:=by simpa using h
 unfold aF5 at a;split at a
 ·next c=>rw[a]at c;cases c
 ·rw[Ar (by rfl)]at a;cases a
def aFw(l:List Bk):Bk:=⟨11,((mE l:Nat):Int),0,0,[]⟩
def uN(x:Int):Nat:=(IntKind.u64.wrap x).toNat
theorem aPa(x:Int):0≤IntKind.u64.wrap x∧IntKind.u64.wrap x<18446744073709551616:=by
 simp[IntKind.wrap,IntKind.bits,IntKind.signed];omega
theorem aPb(x:Int):IntKind.u64.wrap x=(uN x:Int):=(Int.toNat_of_nonneg (aPa x).1).symm
theorem aLw(x:Int):uN x<W64:=by
 have h:=aPa x;unfold uN W64;omega
def aQn(e:Ei)(vr fl:Int)(ts:List Int)(rs:List (List Pa)):As:=⟨ts,1,e,[⟨1,Itm.cA (uN vr)⟩,⟨2,Itm.cA (uN fl)⟩],rs⟩
def aQE(n z:Nat):List Pa:=[⟨1,eE (Eng.dG (n+1) z)⟩]
def aFn(n z : Nat) : Nat → List (List Pa)
 |0=>[]
 |k+1=>aFn n z k++[aQE (n+k) z]
theorem mV(n z : Nat) : ∀ k, (aFn n z k).length = k
 |0=>rfl
 |k+1=>by rw[aFn,Ac,mV n z k];rfl
def sgT(p : Pr)(l : List Bk)(vr fl : Int)(key : List UInt8) : Nat → List Int → List En
 |_,[]=>[]
 |n,t::ts=>enS vr key (txB p l t (aFw l) fl) (Eng.dG (n+1) (eP vr))::sgT p l vr fl key (n+1) ts
theorem aGT(p : Pr)(l : List Bk)(vr fl : Int)(key : List UInt8) : ∀ (ts : List Int) (n : Nat) (t : Int), sgT p l vr fl key n (ts ++ [t]) = sgT p l vr fl key n ts ++ [enS vr key (txB p l t (aFw l) fl) (Eng.dG (n + ts.length + 1) (eP vr))]
 | [],n,t=>rfl
 |x::ts,n,t=>by
  rw[Cv,sgT,aGT p l vr fl key ts (n+1) t,sgT,Cv,Ah,show n+1+ts.length+1=n+(ts.length+1)+1 by omega]
theorem aJt(p : Pr)(l : List Bk)(vr fl : Int)(key : List UInt8) : ∀ (ts : List Int) (n : Nat), (sgT p l vr fl key n ts).length = ts.length
 | [],_=>rfl
 |_::ts,n=>by rw[sgT,Ah,aJt p l vr fl key ts,Ah]
def aCc(l:List Bk)(e:Ei)(vr fl:Int)(ts:List Int)(n:Nat):As:=aQn e vr fl ts (aFn n (eP vr) ts.length)
def aQg(l:List Bk)(e:Ei)(vr fl:Int)(ts:List Int)(n:Nat):Bk:=⟨11,((mE l:Nat):Int),0,0,(aCc l e vr fl ts n).outB⟩
def eH(l:List Bk)(e:Ei)(vr fl:Int)(ts:List Int)(n:Nat):List Bk:=iO l (aQg l e vr fl ts n)
noncomputable def aNb(p:Pr)(l:List Bk)(e:Ei)(vr fl:Int)(key:List UInt8)(ts:List Int)(n:Nat):Bool:=aF5 p l 1 ts==0&&aI e&&ts.all (aB6 p l (aFw l) vr fl key)&&(aCc l e vr fl ts n).outZ==0
def aOQ(ib:Nat)(L:List En)(p:Pr)(l:List Bk)(e:Ei)(vr fl:Int)(key:List UInt8)(ts:List Int)(v:Value)(V:View)(σ':aN):Prop:=∃L',Tb ib L' σ'∧
 if aNb p l e vr fl key ts L.length then L'=L++sgT p l vr fl key L.length ts∧jG (cX p (eH l e vr fl ts L.length)) (mS p (eH l e vr fl ts L.length)) (aU p (eH l e vr fl ts L.length)) v V
 else∃z:Int,z≠0∧v=.tuple #[bnV Pr.zero none 0 0,.int .i64 z]
theorem aMg{W0:Cx}{V:View}{W:World}(A T F:aN)(h:Mem W0 V ((A++T)++F) W):Mem W0 V (T++F) W:=(h.eqv (Al A T F)).sub (Dj _ _)
theorem aG1{σ:aN}(A B:aN)(x:Nat×Obj)(T F G:aN)(h:σ=(((A++(x::B))++T)++F)++G):σ.Perm (([x]++T)++(((A++B)++F)++G)):=by
 subst h;have a:(A++(x::B)).Perm ([x]++(A++B)):=List.perm_middle;refine(((a.append_right T).append_right F).append_right G).trans ?_;rw[show((([x]++(A++B))++T)++F)++G=[x]++(((A++B)++T)++(F++G)) by simp only[Al],show([x]++T)++(((A++B)++F)++G)=[x]++(T++((A++B)++(F++G))) by simp only[Al],show T++((A++B)++(F++G))=(T++(A++B))++(F++G) by simp only[Al]];exact Dw [x] (List.Perm.append_right _ Bw)
def aGD(e:Ei)(vr fl:Nat)(ts:List Int)(v:Value)(V:View):Prop:=∃g c h,v=.agg #[(.slice (some ⟨g,0,none⟩) ts.length c),(.int .i64 1),(.int .i64 e.s),(.string (B e.l)),(.int .u64 (e.n:Int)),(.int .u64 (e.v:Int)),(.slice (some ⟨h,0,none⟩) 2 2),(.slice none 0 0)]∧jT V (some ⟨g,0,none⟩) ts∧ts.length≤c∧gF PaR 6 V (some ⟨h,0,none⟩) [⟨1,Itm.cA vr⟩,⟨2,Itm.cA fl⟩]
theorem aGD.mono{e:Ei}{vr fl:Nat}{ts:List Int}{v:Value}{V a:View}(d:View.le V a)(h:aGD e vr fl ts v V):aGD e vr fl ts v a:=by
 obtain⟨g,c,h,e,j,f,k⟩:=h;exact⟨g,c,h,e,j.le d,f,k.le d⟩
theorem aLK{p:Pr}{l:List Bk}{vr fl:Int}{key:List UInt8}{L:List En}{ts:List Int}{i:Nat}{y:Int}(a:ts[i]? =some y):(L++sgT p l vr fl key L.length (ts.take i))++[enS vr key (txB p l y (aFw l) fl) (Eng.dG (L.length+i+1) (eP vr))]=L++sgT p l vr fl key L.length (ts.take (i+1)):=by
 have c:=(Af.1 a).1;rw[Ci,a,Option.toList_some,aGT,Bb,Ep (Nat.le_of_lt c),Al]
theorem aMO{ts:List Int}{f:Int→Bool}{i:Nat}{y:Int}(c:ts[i]? =some y)(h:(ts.take i).all f=true)(a:f y=true):(ts.take (i+1)).all f=true:=by
 rw[Ci,c,Option.toList_some,Fo,h,Dm,a];rfl
section
variable {p:Pr} {l:List Bk} {e:Ei} {vr fl:Int} {key:List UInt8} {ts:List Int} {n:Nat}
theorem aLJ(d:(aF5 p l 1 ts !=0)=false)(f:aI e=true)(g:ts.all (aB6 p l (aFw l) vr fl key)=true)(h:((aCc l e vr fl ts n).outZ !=0)=false):aNb p l e vr fl key ts n=true:=by
 have a:(aF5 p l 1 ts==0)=true:=by simpa using d
 have c:((aCc l e vr fl ts n).outZ==0)=true:=by simpa using h
 unfold aNb;rw[a,f,g,c];rfl
end
theorem aJW(a:As):a.outB.length≤R47:=by
 unfold As.outB;split
 ·next h=>
  unfold As.right at h;rw[Ae]at h;have:=Bj h.2;unfold R47;omega
 ·unfold R47;simp
theorem aPp{p:Pr}{l:List Bk}(h:aU p l=0):l≠[]:=by
 rintro rfl;unfold aU sQ at h;split at h
 ·next a=>rw[show([],eN p []).2=eN p []from rfl]at h;rw[h]at a;cases a
 ·split at h
  ·next a=>rw[show([],fK p []).2=fK p []from rfl]at h;rw[h]at a;cases a
  ·next a=>unfold fK at a;revert a;simp;intro c;exact absurd c (by decide)
structure Sg where
 i:Nat
 r:Rw
 xs:List Value
 R:List (List Pa×List Value)
 T:aN
 V:View
def aNy(t:Itm.Tr):Prop:=∀(cs:List Value) (w:World) (U:View),(∀a v,U a=some v→w.cell? a=some v)→TV U t cs→CP 146 #[.agg cs.toArray] w (fO w U (mA t))
theorem aGp(t:Itm.Tr)(hI:∀x∈t.l,aNy x)(a:Option Addr)(c:Nat)(w:World){U:View}(hU:See U w)(b9:eZ U a t.l)(hn:t.n<W64)(hs:t.s.length≤R47)(hl:t.l.length≤1000000):CP 146 #[.agg #[.int .i64 t.k,.int .u64 t.n,.string (B t.s),.slice a t.l.length c,.bool t.o]] w (fO w U (mA t)):=by
 refine dE 22 Tryz.func146 hU ?_;refine zs (zr (aW (fun A=>(aW (fun F=>(zn (zQ 1 (zn (zs (zB [0,1,0,0] [(A,1)] (zn (aB (eY (α:=Gp Itm.Tr) (fun x=>[1,2,3,7,8,9].zip [(Pt A 0),(Pt F 0),(x.r.V x.i),(.slice a t.l.length c),(L6 t.l.length),(L6 x.i)]) (fun x=>x.V) (fun x=>([(bK A (tC t a c) 89),(F,.cells [(I6 0),(U6 0),(St []),S0,(.bool false)].toArray 89 (0,0))]++x.r.B 89 x.xs)) (fun x=>x.i≤t.l.length∧View.le U x.V∧RwR TV 5 x.V x.r x.xs x.i x.L∧x.L.map Prod.fst=t.l.take x.i) (fun x=>t.l.length-x.i) ⟨0,Rw.nil,[],[],U⟩ ?_ ?_ (hm:=fun _ h=>h.eqv (Dn kR (Aj ([(bK A (tC t a c) 89),(F,.cells [(I6 0),(U6 0),(St []),S0,(.bool false)].toArray 89 (0,0))]:aN)).symm)))))))))))))))
 ·exact⟨Ap _,View.le_refl _,RwR.nil,rfl⟩
 intro x hx;obtain⟨h1,I,u,a7⟩:=hx;refine zQ 1 (zn (zs (cE ((x.i:Int)<(t.l.length:Int)) (fun h0 b5=>?_) (fun h0 b5=>?_))))
 ·refine zk (zs (aB (zs (zr ?_))));obtain⟨j,J⟩:∃y,(t.l)[x.i]? =some y:=⟨(t.l)[x.i]'oW,Aa _⟩;obtain⟨b2,f2,e2,rfl,b8,a1⟩:=(b9.le I).at_ x.i j J;obtain⟨a2,c2,rfl,c9,e6,e8,e4⟩:=a1.form;refine cD (Pt b2 (f2+x.i*5)) (rIx 89 rfl b2 f2 t.l.length c x.i 5) ?_;refine zU b2 (f2+x.i*5) (tC j a2 c2) b8 89 (.tmp 11) _ Tryz.underlying89 rfl ?_;refine fH 2 (fun b3=>?_);refine aX 2 b3 (zn (zr (cG [0,3] [(b3,5)] (mC 146 #[(tV j a2 c2)] (mA j) (fun W O=>hI j (Ad J) _ _ _ O.view a1) (fun v4 V4 X b6=>?_)))));have k8:=u.le X;obtain⟨e3,rfl,a6⟩:=b6;obtain⟨a4,c4,rfl,e0,e7,e9,e5⟩:=a6.form;refine gV (tC j a4 c4) 89 (fun r=>(Sl r 0 1 1)) kR kR kR (fun g9 V9 G b7=>?_);have c0:=a6.le G;have c1:=k8.le G;have q:eZ V9 (some ⟨g9,0,none⟩) [j]:=eZ.lit [(j,(tC j a4 c4))] b7 ⟨c0,trivial⟩ (show 1≤R47 by decide);obtain⟨c7,c8,k,b4,C,g,N⟩:=q.open (by simp);cases b4;have D:k.length=1:=by rw[←Az (f:=Prod.fst),C];rfl
  refine lN 3 89 87 64 1 1 u.ok (fun W O=>View.range_of N O.view) (by rw[g.flat_len,D]) g.one (by decide) (fun a8 Z=>?_);refine zq 1 (zn (zr (zq 1 (eC 18 ((x.i:Int)+1) (zq 1 (zn ?_))))));refine nx ⟨x.i+1,a8,(x.xs++(k.flatMap Prod.snd)),x.L++k,V9⟩ ?_ ?_ (d:=fun _ h=>Mem.sub (By (Ay _ _) (Cd _)) (h.eqv (show _=((([(bK A [(I6 t.k),(N6 t.n),(St t.s),(Sl b2 f2 t.l.length c),(.bool t.o)] 89),(F,.cells [(I6 0),(U6 0),(St []),S0,(.bool false)].toArray 89 (0,0))]:aN)++([(bK b3 (tC j a2 c2) 89)]:aN))++(a8.B 89 (x.xs++(k.flatMap Prod.snd))))from by kernel_rfl)))
  ·exact⟨by show x.i+1≤_;omega,(View.le_trans (View.le_trans I X) G),RwR.app c1 (aAk g) D Z,by rw[Br,a7,C,Ci,J];rfl⟩
  ·show t.l.length-(x.i+1)<t.l.length-x.i;omega
 ·refine aK (zs (zr ?_));refine lA x.r x.xs 5 x.i [(bK A (tC t a c) 89),(F,.cells [(I6 0),(U6 0),(St []),S0,(.bool false)].toArray 89 (0,0))] 89 kR u.ok (fun K L e1 E V M=>?_);rw[M];have c6:=u.le E;have Y:x.i=t.l.length:=by omega
  have q:=(c6.done (by decide) V (View.le_refl _) (by unfold R47;omega)).ts;rw[a7,Y,Ey]at q;refine zq 2 (aX 0 A (zn (zB [1] [(A,5)] (aX 1 F (zn (aA (dL [2] [(F,5)] [(.agg #[(I6 t.k),(N6 t.n),(St t.s),(.slice K x.i L),(.bool t.o)])] (fun W' O=>?_))))))));exact aH O (View.le_trans I E) ⟨[(I6 t.k),(N6 t.n),(St t.s),(.slice K x.i L),(.bool t.o)],rfl,by rw[Y];exact TV.of (t:=t) q hn hs⟩
theorem aGq{t:Itm.Tr}(h:t.l=[]):aNy t:=fun cs w U k q=>by
 obtain⟨a,c,rfl,d,g,j,r⟩:=q.form;exact aGp t (fun x f=>by rw[h]at f;cases f) a c w k d g j (by rw[h];simp)
theorem aJU{p:Pa}(h:paB p=true):p.v.l=[]:=by
 obtain⟨d,k,n,s,l,o⟩:=p;unfold paB at h;rw[Ae]at h;obtain⟨a,c⟩:=h;simp only[Itm.aJ,Itm.okN,Ae]at c;simp only[Itm.Tr.k,Itm.Tr.l]at *;rcases Dg _ _▸a with a|a<;>(have:=eq_of_beq a;subst this;simp at c;first|exact Be.1 oW|simp_all)
def mT(l:List Pa)(v:Value)(V:View):Prop:=∃a c,v=.slice a l.length c∧gF PaR 6 V a l
theorem mT.mono{l:List Pa}{v:Value}{V d:View}(f:View.le V d)(h:mT l v V):mT l v d:=by
 obtain⟨a,c,e,g⟩:=h;exact⟨a,c,e,g.le f⟩
theorem aAm(l:List Pa)(a:Option Addr)(c:Nat)(w:World){U:View}(hU:See U w)(hl:gF PaR 6 U a l)(hz:∀p∈l,p.v.l=[])(j5:l.length≤1000000):CP 105 #[.slice a l.length c] w (fO w U (mT l)):=by
 refine dE 23 Tryz.func105 hU ?_;refine zQ 1 (zn (zQ 1 (zn (zs (zQ 3 (zn (aB (eY (α:=Gp Pa) (fun x=>[2,3,6,7,8].zip [S0,(x.r.V x.i),(.slice a l.length c),(L6 l.length),(L6 x.i)]) (fun x=>x.V) (fun x=>([]++x.r.B 92 x.xs)) (fun x=>x.i≤l.length∧View.le U x.V∧RwR PaR 6 x.V x.r x.xs x.i x.L∧x.L.map Prod.fst=l.take x.i) (fun x=>l.length-x.i) ⟨0,Rw.nil,[],[],U⟩ ?_ ?_ (hm:=fun _ h=>h.eqv (Dn kR (Aj ([]:aN)).symm))))))))))
 ·exact⟨Ap _,View.le_refl _,RwR.nil,rfl⟩
 intro x hx;obtain⟨k5,G,A,a1⟩:=hx;refine zQ 1 (zn (zs (cE ((x.i:Int)<(l.length:Int)) (fun h0 b9=>?_) (fun h0 b9=>?_))))
 ·refine zk (zs (aB (zs (zr ?_))));obtain⟨f,I⟩:∃y,(l)[x.i]? =some y:=⟨(l)[x.i]'oW,Aa _⟩;obtain⟨b0,f0,j1,rfl,c7,c2⟩:=(hl.le G).at_ x.i f I;obtain⟨j4,rfl,X⟩:=c2;obtain⟨a0,c0,rfl,h8,j9,k2,j6⟩:=X.form;refine cD (Pt b0 (f0+x.i*6)) (rIx 92 rfl b0 f0 l.length c x.i 6) ?_;refine zU b0 (f0+x.i*6) [(I6 f.id),(I6 f.v.k),(N6 f.v.n),(St f.v.s),(.slice a0 f.v.l.length c0),(.bool f.v.o)] c7 92 (.tmp 10) _ Tryz.underlying92 rfl ?_;refine fH 0 (fun b1=>?_);refine aX 0 b1 (zn ?_);refine mB 3 [0,0,3,0,3,1,1,1] [(b1,1),(b1,5)] [.mem (mA f.v),.mem (fun v V=>∃cs,v=.agg ((I6 f.id::cs).toArray)∧TV V f.v cs),.mem (fun v V=>∃g,v=(Sl g 0 1 1)∧gF PaR 6 V (some ⟨g,0,none⟩) [(Pa.mk f.id f.v)])] (by simp only[Bc];refine⟨?_,?_,?_,fun _ h=>by cases h⟩<;>first|trivial|(intro v V V2 j B;(first|trivial|exact PhiMono.go B j|exact mT.mono j B|(obtain⟨g,e,B⟩:=B;exact⟨g,e,B.le j⟩)|(obtain⟨cs,e,B⟩:=B;exact⟨cs,e,B.le j⟩)))) ⟨?_,?_,?_,trivial⟩ ?_
  ·refine wM 146 (fun u=>#[(tV f.v a0 c0)]) fun u V hV q W hW=>?_
   exact aGq (hz f (Ad I)) _ _ _ hW (X.le hV)
  ·refine wP [14,17] (fun u=>[(I6 f.id),u 5]) fun u V hV q=>?_
   have e5:=q 5 kR rfl;obtain⟨j2,q5,Y⟩:=e5;obtain⟨a5,c5,rfl,h9,k0,k3,j7⟩:=Y.form;rw[q5];exact⟨(.agg #[(I6 f.id),(I6 f.v.k),(N6 f.v.n),(St f.v.s),(.slice a5 f.v.l.length c5),(.bool f.v.o)]),by kernel_rfl,⟨_,rfl,Y⟩⟩
  ·refine wN [18] (fun u=>[u 6]) fun u V hV q=>?_
   have e6:=q 6 kR rfl;obtain⟨j3,q6,Z⟩:=e6;obtain⟨a6,c6,rfl,j0,k1,k4,j8⟩:=Z.form;refine⟨[(I6 f.id),(I6 f.v.k),(N6 f.v.n),(St f.v.s),(.slice a6 f.v.l.length c6),(.bool f.v.o)],92,fun r=>(Sl r 0 1 1),?_,fun g V' e0 hR=>?_⟩
   ·rw[q6];kernel_rfl
   exact⟨g,rfl,gF.lit [((Pa.mk f.id f.v),[(I6 f.id),(I6 f.v.k),(N6 f.v.n),(St f.v.s),(.slice a6 f.v.l.length c6),(.bool f.v.o)])] hR ⟨⟨_,rfl,Z.le e0⟩,trivial⟩ (show 1≤R47 by decide)⟩
  intro u2 V2 j k;have k6:=A.le j;have J:=k 5 rfl;obtain⟨b6,a7,E⟩:=J;obtain⟨h3,h5,rfl,b4,e3,e9,e1⟩:=E.form;refine qX 17 a7 ?_;have K:=k 6 rfl;obtain⟨b8,a8,F⟩:=K;obtain⟨h4,h6,rfl,b5,e4,h1,e2⟩:=F.form;refine qX 18 a8 ?_;have L:=k 7 rfl;obtain⟨h7,b2,b3⟩:=L;refine qX 19 b2 ?_;obtain⟨b7,f7,C,e7,c8,D⟩:=b3.at_ 0 _ rfl;cases e7;refine lN 1 92 93 72 1 1 A.ok (fun W hM=>View.range_of c8 hM.view) (RecOk.len D) (RecOk.one D) (by decide) (fun r8 e8=>?_);refine zq 1 (zn (zr (zq 1 (eC 21 ((x.i:Int)+1) (zq 1 (zn ?_))))));refine nx ⟨x.i+1,r8,(x.xs++C),x.L++[((Pa.mk f.id f.v),C)],V2⟩ ?_ ?_ (d:=fun _ h=>Mem.sub (By (Ay _ _) (Cd _)) (h.eqv (show _=((([]:aN)++([(bK b1 [(I6 f.id),(I6 f.v.k),(N6 f.v.n),(St f.v.s),(.slice a0 f.v.l.length c0),(.bool f.v.o)] 92)]:aN))++(r8.B 92 (x.xs++C)))from by kernel_rfl)))
  ·exact⟨by show x.i+1≤_;omega,(View.le_trans G j),RwR.snoc k6 D e8,by rw[Br,a1,Ci,I];rfl⟩
  ·show l.length-(x.i+1)<l.length-x.i;omega
 ·refine aK (zs (zr ?_));refine lA x.r x.xs 6 x.i [] 92 kR A.ok (fun a9 c9 V9 N c4 c1=>?_);rw[c1];have h2:=A.le N;have O:x.i=l.length:=by omega
  have M:=h2.done (by decide) c4 (View.le_refl _) (by unfold R47;omega);rw[a1,O,Ey]at M;refine zq 2 (zn (aA (aO [2] [(.slice a9 x.i c9)] (fun W' hM=>?_))));exact aH hM (View.le_trans G N) ⟨_,_,by rw[O];rfl,M⟩
theorem aOl(t:Itm.Tr):IntKind.i64.wrap (if 65536<(t.n:Int)then 65536 else(t.n:Int))=nT t:=by
 unfold nT;rw[IntWalk.i64_in _ (by split<;>omega)];split<;>omega
theorem aJR{y u v:Itm.Tr}(h:y.l.length=2)(a:y.l[0]? =some u)(c:y.l[1]? =some v):aFZ y=some ⟨nT u,v⟩:=by
 unfold aFZ;rw[iE h a c]
theorem aJS{y:Itm.Tr}(h:y.l.length≠2):aFZ y=none:=by
 unfold aFZ;split
 ·next u v e=>rw[e]at h;exact absurd rfl h
 ·rfl
theorem rB(t:Itm.Tr)(Y:Option Addr)(O:Nat)(w:World){U:View}(hU:See U w)(e5:eZ U Y t.l)(h6:t.l.length≤1000000):CP 150 #[.agg #[.int .i64 t.k,.int .u64 t.n,.string (B t.s),.slice Y t.l.length O,.bool t.o]] w (fO w U (mT (dT t))):=by
 refine dE 38 Tryz.func150 hU ?_;refine zs (zr (aW (fun E=>(zq 1 (zn (zQ 1 (zn (zs (zQ 1 (zn (aB (eY (α:=Gp Pa) (fun x=>[1,2,3,4].zip [(Pt E 0),S0,(x.r.V x.i),(L6 x.i)]) (fun x=>x.V) (fun x=>([(bK E (tC t Y O) 89)]++x.r.B 92 x.xs)) (fun x=>x.i≤t.l.length∧View.le U x.V∧RwR PaR 6 x.V x.r x.xs x.i x.L∧aA0 aFZ (t.l.take x.i)=some (x.L.map Prod.fst)) (fun x=>t.l.length-x.i) ⟨0,Rw.nil,[],[],U⟩ ?_ ?_ (hm:=fun _ h=>h.eqv (Dn kR (Aj ([(bK E (tC t Y O) 89)]:aN)).symm))))))))))))))
 ·exact⟨Ap _,View.le_refl _,RwR.nil,rfl⟩
 intro x hx;obtain⟨j8,A,K,J⟩:=hx;refine zs (zB [0,0,1,0,0] [(E,1)] (zn (cE ((x.i:Int)<(t.l.length:Int)) (fun h0 c6=>?_) (fun h0 c6=>?_))))
 ·refine zk (zs (aB (zB [0,1,0] [(E,1)] ?_)));obtain⟨f,L⟩:∃y,(t.l)[x.i]? =some y:=⟨(t.l)[x.i]'oW,Aa _⟩;obtain⟨b1,f1,h2,rfl,c8,e2⟩:=(e5.le A).at_ x.i f L;obtain⟨a1,c1,rfl,D,j2,j5,h9⟩:=e2.form;refine cD (Pt b1 (f1+x.i*5)) (rIx 89 rfl b1 f1 t.l.length O x.i 5) ?_;refine zU b1 (f1+x.i*5) (tC f a1 c1) c8 89 (.tmp 16) _ Tryz.underlying89 rfl ?_;refine fH 1 (fun Z=>?_);refine aX 1 Z (zn (zs (zB [0,2,0,0] [(Z,1)] (zn (jD (f.l.length:Int) 2 (fun h1 c7=>?_) (fun h1 c7=>?_))))))
  ·refine zQ 1 (zn (aA (aO [2] [S0] (fun W' hM=>?_))));have hz:dT t=[]:=by unfold dT;rw[oE (Ad L) (aJS oW)]
   rw[hz];exact aH hM A ⟨none,0,rfl,gF.nil⟩
  ·refine zk ?_;obtain⟨y3,b7⟩:∃y,(f.l)[0]? =some y:=⟨(f.l)[0]'oW,Aa _⟩;obtain⟨F,I,h3,rfl,c9,e3⟩:=D.at_ 0 y3 b7;obtain⟨a3,c3,rfl,e7,j3,j6,j0⟩:=e3.form;obtain⟨y4,b8⟩:∃y,(f.l)[1]? =some y:=⟨(f.l)[1]'oW,Aa _⟩;obtain⟨b4,f4,h4,e4,e0,b6⟩:=D.at_ 1 y4 b8;obtain⟨X,c4,rfl,e8,j4,j7,j1⟩:=b6.form;cases e4;refine mB 8 [0,0,4,1,0,1,0,1,0,4,1,1,0,1] [(Z,1),(Z,1)] [.val (Pt F (I+0*5)),.val (N6 y3.n),.val (I6 (nT y3)),.val (Pt F (I+1*5)),.val (tV y4 X c4),.mem (fun v V=>∃g,v=(Sl g 0 1 1)∧gF PaR 6 V (some ⟨g,0,none⟩) [(Pa.mk (nT y3) y4)])] (by simp only[Bc];exact⟨trivial,trivial,trivial,trivial,trivial,by intro v V V2 q C;(first|trivial|exact PhiMono.go C q|exact mT.mono q C|(obtain⟨g,e,C⟩:=C;exact⟨g,e,C.le q⟩)|(obtain⟨cs,e,C⟩:=C;exact⟨cs,e,C.le q⟩)),fun _ h=>by cases h⟩) ⟨?_,?_,?_,?_,?_,?_,trivial⟩ ?_
   ·exact wR (fun u=>lR _ 89 _ _ rfl F I f.l.length c1 0 5 .i64 kR kR (by first|assumption|omega) kR kR)
   ·exact wU1 F (I+0*5+1) (c9 1 _ rfl) 22 _ _ Tryz.underlying22 rfl
   ·exact wE (I6 (IntKind.i64.wrap (if 65536<(y3.n:Int)then 65536 else(y3.n:Int)))) (Ag (Value.int .i64) (aOl y3))
   ·exact wR (fun u=>lR _ 89 _ _ rfl F I f.l.length c1 1 5 .i64 kR kR (by first|assumption|omega) kR kR)
   ·exact wU F (I+1*5) (tC y4 X c4) e0 89 _ _ Tryz.underlying89 rfl
   ·refine wN [34] (fun u=>[(.agg #[(I6 (nT y3)),(I6 y4.k),(N6 y4.n),(St y4.s),(.slice X y4.l.length c4),(.bool y4.o)])]) fun u V hV h7=>?_
    refine⟨[(I6 (nT y3)),(I6 y4.k),(N6 y4.n),(St y4.s),(.slice X y4.l.length c4),(.bool y4.o)],92,fun r=>(Sl r 0 1 1),?_,fun g V' e1 hR=>?_⟩
    ·kernel_rfl
    exact⟨g,rfl,gF.lit [((Pa.mk (nT y3) y4),[(I6 (nT y3)),(I6 y4.k),(N6 y4.n),(St y4.s),(.slice X y4.l.length c4),(.bool y4.o)])] hR ⟨⟨_,rfl,(b6.le hV).le e1⟩,trivial⟩ (show 1≤R47 by decide)⟩
   intro u5 V5 a7 a8;have e6:=K.le a7;have G:=a8 13 rfl;obtain⟨c2,M,N⟩:=G;refine qX 35 M ?_;obtain⟨e9,h5,j,c0,a6,k⟩:=N.at_ 0 _ rfl;cases c0;refine lN 2 92 93 72 1 1 K.ok (fun W hM=>View.range_of a6 hM.view) (RecOk.len k) (RecOk.one k) (by decide) (fun b9 b5=>?_);refine zq 1 (zn (zr (zq 2 (eC 12 ((x.i:Int)+1) (zq 1 (zn ?_))))));refine nx ⟨x.i+1,b9,(x.xs++j),x.L++[((Pa.mk (nT y3) y4),j)],V5⟩ ?_ ?_ (d:=fun _ h=>Mem.sub (By (Ay _ _) (Cd _)) (h.eqv (show _=((([(bK E [(I6 t.k),(N6 t.n),(St t.s),(Sl b1 f1 t.l.length O),(.bool t.o)] 89)]:aN)++([(bK Z [(I6 f.k),(N6 f.n),(St f.s),(Sl F I f.l.length c1),(.bool f.o)] 89)]:aN))++(b9.B 92 (x.xs++j)))from by kernel_rfl)))
   ·exact⟨by show x.i+1≤_;omega,(View.le_trans A a7),RwR.snoc e6 k b5,by rw[Br];exact pY J L (aJR oW b7 b8)⟩
   ·show t.l.length-(x.i+1)<t.l.length-x.i;omega
 ·refine aK (zQ 2 (zn (aA (aO [2] [(x.r.V x.i)] (fun W' hM=>?_)))));refine aAX (by decide) (hM.eqv (show _=([(bK E (tC t Y O) 89)]:aN)++x.r.B 92 x.xs from by kernel_rfl)) K A (fun v=>v) (by unfold R47;omega) fun a c V' h8 hA hc hm=>?_
  rw[Bf oW]at J;have hz:dT t=x.L.map Prod.fst:=by unfold dT;rw[J]
  rw[hz];exact⟨a,c,by rw[←hm],hA⟩
theorem aA8 : ∀ (l pre : List Int), mK pre l = true ↔ ∀ (i : Nat) (n : Int), l[i]? = some n → eU n = true ∧ n ∉ pre ∧ ∀ k, k < i → l[k]? ≠ some n
 | [],pre=>⟨fun _ i n h=>by simp at h,fun _=>rfl⟩
 |m::r,pre=>by
  rw[mK];by_cases a:(!eU m||pre.contains m)=true
  ·rw[Ar a];constructor
   ·intro h;cases h
   ·intro h;obtain⟨f,c,_⟩:=h 0 m rfl;rw[f]at a;simp at a;exact absurd a c
  ·rw[An a,aA8 r (pre++[m])];have q:eU m=true:=by
    cases h:eU m with
    |true=>rfl
    |false=>rw[h]at a;simp at a
   have u:m∉pre:=fun h=>a (by simp[h])
   constructor
   ·intro h i n d;cases i with
    |zero=>
     simp only[Bo,Ab]at d;subst d;exact⟨q,u,fun k x=>absurd x oW⟩
    |succ i=>
     simp only[Bv]at d;obtain⟨f,c,g⟩:=h i n d;rw[Dh,Cl]at c;refine⟨f,fun h=>c (.inl h),fun k x=>?_⟩;cases k with
     |zero=>
      intro e;simp only[Bo,Ab]at e;exact c (.inr e.symm)
     |succ k=>
      rw[Bv];exact g k oW
   ·intro h i n d;obtain⟨f,c,g⟩:=h (i+1) n (by rw[Bv];exact d);refine⟨f,?_,fun k x=>by have:=g (k+1) oW;rwa[Bv]at this⟩;rw[Dh,Cl];rintro(j|j)
    ·exact c j
    ·exact g 0 oW (by rw[j];rfl)
def aOZ(l:List Int)(i:Nat)(n:Int):Prop:=eU n=true∧∀k,k<i→∀m,l[k]? =some m→m≠n
theorem rF{l:List Int}:jB l=true↔∀i n,l[i]? =some n→aOZ l i n:=by
 unfold jB aOZ;rw[aA8];constructor
 ·intro h i n c;obtain⟨a,_,b⟩:=h i n c;exact⟨a,fun k d m f e=>b k d (by rw[f,e])⟩
 ·intro h i n c;obtain⟨a,b⟩:=h i n c;exact⟨a,List.not_mem_nil,fun k d e=>b k d n e rfl⟩
def PaP(l:List Pa)(i:Nat)(p:Pa):Prop:=eU p.id=true∧paB p=true∧∀k,k<i→∀q,l[k]? =some q→q.id≠p.id
theorem aCE{l:List Pa}:fR l=true↔∀i p,l[i]? =some p→PaP l i p:=by
 unfold fR PaP;rw[Ae,Ao,rF];constructor
 ·rintro⟨r,u⟩ i p c;obtain⟨a,b⟩:=u i p.id (by rw[Cs,c];rfl);exact⟨a,r p (Ad c),fun k d q f=>b k d q.id (by rw[Cs,f];rfl)⟩
 ·intro h;refine⟨fun p c=>?_,fun i n j=>?_⟩
  ·obtain⟨i,x⟩:=Dk.1 c;exact(h i p x).2.1
  ·rw[Cs]at j;obtain⟨p,c,rfl⟩:=Cz.1 j;obtain⟨a,_,b⟩:=h i p c;refine⟨a,fun k d m g=>?_⟩;rw[Cs]at g;obtain⟨q,f,rfl⟩:=Cz.1 g;exact b k d q f
theorem aCD{l:List Pa}{i:Nat}{p:Pa}(a:l[i]? =some p)(h:¬PaP l i p):fR l=false:=by
 rw[Bool.eq_false_iff];exact fun e=>h (aCE.1 e i p a)
theorem lU{α:Type}{P:Nat→α→Prop}{l:List α}{x:Nat}{y:α}(f:l[x]? =some y)(h:∀i,i<x→∀p,l[i]? =some p→P i p)(c:P x y):∀i,i<x+1→∀p,l[i]? =some p→P i p:=fun i g p a=>by
 by_cases d:i=x
 ·subst d;rw[f]at a;obtain rfl:=Bs a;exact c
 ·exact h i oW p a
theorem tU{α:Type}{P:Nat→α→Prop}{l:List α}{x:Nat}(c:l.length≤x)(h:∀i,i<x→∀p,l[i]? =some p→P i p):∀i p,l[i]? =some p→P i p:=fun i p a=>h i (Dv (Af.1 a).1 c) p a
theorem aCO{l:List Int}{v:Int}{i:Nat}{y:Int}(h:l[i]? =some y):pJ v i (l.drop i)=if y==v then(i:Int)else pJ v (i+1) (l.drop (i+1)):=by
 rw[aBG h];by_cases e:y=v
 ·subst e;rfl
 ·rw[show(v==y)=false from Ai.2 (Ne.symm e),show(y==v)=false from Ai.2 e]
theorem aEy(a:As)(q j k:Option Addr)(u G I:Nat)(target:Int)(w:World){U:View}(V:See U w)(D:aAK U q j k a):CP 107 #[asV a q j k u G I,.int .i64 target] w (Ret (.int .i64 (pJ target 0 a.t)) w):=by
 have f:=D.t;have L:=D.p;have M:=D.r;have g:=f.len;unfold R47 at g;refine dE 21 Tryz.func107 V ?_;refine zs (zr (aW (fun h=>(zq 1 (zn (zs (zQ 1 (zn (aB (eY (α:=Nat) (fun x=>[1,2,4,5].zip [(I6 target),(Pt h 0),(I6 0),(L6 x)]) (fun x=>U) (fun x=>[(bK h (tG a q j k u G I) 96)]) (fun x=>x≤a.t.length∧pJ target x (a.t.drop x)=pJ target 0 a.t) (fun x=>a.t.length-x) 0 ?_ ?_))))))))))
 ·exact⟨Ap _,rfl⟩
 intro x X;obtain⟨Y,c⟩:=X;refine zs (zB [0,0,1,0,0] [(h,1)] (zn (cE ((x:Int)<(a.t.length:Int)) (fun N B=>?_) (fun N B=>?_))))
 ·refine zk (zs (aB (zB [0,1,0] [(h,1)] ?_)));obtain⟨J,d⟩:∃y,(a.t)[x]? =some y:=⟨(a.t)[x]'oW,Aa _⟩;obtain⟨r,A,rfl,F⟩:=f.one d;refine cD (Pt r (A+x)) (eQ _ 3 _ _ rfl r A a.t.length u x .i64 kR kR (by first|assumption|omega) kR kR) ?_;refine zV r (A+x) (I6 J) F 3 (.tmp 16) _ Tryz.underlying3 rfl ?_;refine zq 2 (zn (fQ J target (fun C _=>?_) (fun C O=>?_)))
  ·refine zQ 2 (zn (aA (aO [4] [(L6 x)] (fun K E=>?_))));refine⟨?_,E.below⟩;rw[←c,aCO d,Ar C];rfl
  ·refine zk (zr (zq 2 (eC 12 ((x:Int)+1) (zq 1 (zn ?_)))));refine nx (x+1) ?_ ?_
   ·exact⟨by omega,by rw[←c,aCO d,C];rfl⟩
   ·show a.t.length-(x+1)<a.t.length-x;omega
 ·refine aK (zQ 1 (zn (aA (aO [4] [(I6 (-1))] (fun K E=>?_)))));refine⟨?_,E.below⟩;rw[←c,eI oW];rfl
def aB7(lo hi:Int)(l:List Pa):Bool:=if decide ((l.length:Int)<lo)||decide ((l.length:Int)>hi)then false else fR l
theorem aA4{n:Int}(a:¬n<0)(c:¬n>65535):eU n=true:=by
 unfold eU;simp only[Ae,Ak];omega
theorem aCr(lo hi:Int)(l:List Pa)(a:Option Addr)(c:Nat)(w:World){U:View}(hU:See U w)(hl:gF PaR 6 U a l)(e4:l.length≤1000000):CP 228 #[.slice a l.length c,.int .i64 lo,.int .i64 hi] w (Ret (.bool (aB7 lo hi l)) w):=by
 refine dE 76 Tryz.func228 hU ?_;refine zQ 1 (zn (zs (zQ 5 (jV 14 ((l.length:Int)<lo) (fun N _=>?_) (fun N e1=>?_)))))
 ·refine zq 5 (zn (dP (zQ 1 (zn (aA (aO [6] [(.bool false)] (fun Y u=>?_)))))));refine⟨?_,u.below⟩;unfold aB7;simp only[N,bs,bQ,reduceIte]
  try rfl
 ·refine zq 5 (zn (cE ((l.length:Int)>hi) (fun O _=>?_) (fun O e3=>?_)))
  ·refine zQ 1 (zn (aA (aO [6] [(.bool false)] (fun Y u=>?_))));refine⟨?_,u.below⟩;unfold aB7;simp only[N,O,bs,bQ,reduceIte]
   try rfl
  ·refine zk (zs (zQ 1 (zn (aB (eY (α:=Nat) (fun x=>[0,6,7].zip [(.slice a l.length c),(.bool false),(L6 x)]) (fun x=>U) (fun x=>[]) (fun x=>x≤l.length∧∀i,i<x→∀p,l[i]? =some p→PaP l i p) (fun x=>l.length-x) 0 ?_ ?_)))))
   ·exact⟨Ap _,fun i h=>absurd h oW⟩
   intro x hx;obtain⟨j3,X⟩:=hx;refine zs (zQ 4 (zn (cE ((x:Int)<(l.length:Int)) (fun h2 a1=>?_) (fun h2 a1=>?_))))
   ·refine zk (zs (aB (zQ 2 ?_)));obtain⟨f,F⟩:∃y,(l)[x]? =some y:=⟨(l)[x]'oW,Aa _⟩;obtain⟨g,r,c7,rfl,E,b6⟩:=hl.at_ x f F;obtain⟨c9,rfl,L⟩:=b6;obtain⟨G,I,rfl,c4,e9,j1,e7⟩:=L.form;refine cD (Pt g (r+x*6)) (rIx 92 rfl g r l.length c x 6) ?_;refine zq 1 (zU g (r+x*6+1) (tC f.v G I) (View.sub E 1 5 kR) 89 (.tmp 29) _ Tryz.underlying89 rfl ?_);refine aW (fun A=>(aX 0 A (zn (zs ?_))));refine dH (α:=Bool) (fun C=>[0,6,7,8,20,21,22,23,26,27,28,29,30,31,32,33,34,35,36,59].zip [(Sl g r l.length c),(.bool false),(L6 x),(Pt A 0),(L6 x),(Sl g r l.length c),(L6 l.length),(.bool (decide ((x:Int)<(l.length:Int)))),(Sl g r l.length c),(L6 x),(Pt g (r+x*6)),(Pt g (r+x*6+1)),(tV f.v G I),(Sl g r l.length c),(L6 x),(Pt g (r+x*6)),(Pt g (r+x*6)),(I6 f.id),(.bool (decide (f.id<0))),(.bool C)]) (fun C=>U) (fun C=>[(bK A (tC f.v G I) 89)]) (fun C=>(C=false→eU f.id=true∧paB f=true)∧(C=true→¬(eU f.id=true∧paB f=true))) ?_ ?_
    ·refine zr (zq 2 (cD (Pt g (r+x*6)) (rIx 92 rfl g r l.length c x 6) ?_));refine zq 1 (zV g (r+x*6+0) (I6 f.id) (E 0 _ rfl) 3 (.tmp 34) _ Tryz.underlying3 rfl ?_);refine zq 2 (jV 37 (f.id<0) (fun Z a6=>?_) (fun Z a6=>?_))
     ·refine zq 22 (zn ?_);refine jn true ?_;exact⟨(fun h=>by cases h),(fun _ ⟨D,B⟩=>by have:=dZ D;have:=Bj Z;omega)⟩
     ·refine zq 2 (cD (Pt g (r+x*6)) (rIx 92 rfl g r l.length c x 6) ?_);refine zq 1 (zV g (r+x*6+0) (I6 f.id) (E 0 _ rfl) 3 (.tmp 41) _ Tryz.underlying3 rfl ?_);refine zq 3 (jV 45 (f.id>65535) (fun h4 a7=>?_) (fun h4 a7=>?_))
      ·refine zq 14 (zn ?_);refine jn true ?_;exact⟨(fun h=>by cases h),(fun _ ⟨D,B⟩=>by have:=dZ D;have:=Bj h4;omega)⟩
      ·refine cG [0,1,0,0] [(A,1)] (lO 49 f.v.k 0 (fun h5 a8=>?_) (fun h5 a8=>?_))
       ·refine cG [0,1,0,0,0,0] [(A,1)] (lO 55 f.v.k 2 (fun h6 b3=>?_) (fun h6 b3=>?_))
        ·refine zq 4 (zn ?_);refine jn true ?_;exact⟨(fun h=>by cases h),(fun _ ⟨D,B⟩=>by unfold paB at B;simp_all)⟩
        ·refine cG [1] [(A,5)] (cY 199 #[(tV f.v G I)] (.bool (Itm.aJ 8 f.v)) (fun W u=>Itm.rL f.v _ W ((L).toTAt u.view)) ?_);refine zq 2 (zn ?_);refine jn (!(Itm.aJ 8 f.v)) ?_;exact⟨(fun h=>⟨aA4 (Au Z) (Au h4),by unfold paB;simp only[Bl]at h;simp_all⟩),(fun h ⟨D,B⟩=>by unfold paB at B;simp only[Bi]at h;simp_all)⟩
       ·refine cG [0,0,0,0,0,0,1] [(A,5)] (cY 199 #[(tV f.v G I)] (.bool (Itm.aJ 8 f.v)) (fun W u=>Itm.rL f.v _ W ((L).toTAt u.view)) ?_);refine zq 2 (zn ?_);refine jn (!(Itm.aJ 8 f.v)) ?_;exact⟨(fun h=>⟨aA4 (Au Z) (Au h4),by unfold paB;simp only[Bl]at h;simp_all⟩),(fun h ⟨D,B⟩=>by unfold paB at B;simp only[Bi]at h;simp_all)⟩
    intro C J;refine gN C (fun h7=>?_) (fun h7=>?_)
    ·refine zQ 1 (zn (aA (aO [6] [(.bool false)] (fun Y u=>?_))));refine⟨?_,u.below⟩;unfold aB7;simp only[N,O,bs,bQ,reduceIte];rw[aCD F (fun⟨D,B,g3⟩=>J.2 h7 ⟨D,B⟩)]
     try rfl
    ·refine zk (zQ 1 (zn (aB (eY (α:=Nat) (fun j=>[0,6,7,8,9,20,21,22,23,26,27,28,29,30,31,32,33,34,35,36,59].zip [(Sl g r l.length c),(.bool false),(L6 x),(Pt A 0),(L6 j),(L6 x),(Sl g r l.length c),(L6 l.length),(.bool (decide ((x:Int)<(l.length:Int)))),(Sl g r l.length c),(L6 x),(Pt g (r+x*6)),(Pt g (r+x*6+1)),(tV f.v G I),(Sl g r l.length c),(L6 x),(Pt g (r+x*6)),(Pt g (r+x*6)),(I6 f.id),(.bool (decide (f.id<0))),(.bool C)]) (fun j=>U) (fun j=>[(bK A (tC f.v G I) 89)]) (fun j=>j≤x∧∀k,k<j→∀q,l[k]? =some q→q.id≠f.id) (fun j=>x-j) 0 ?_ ?_))))
     ·exact⟨Ap _,fun i h=>absurd h oW⟩
     intro j hj;obtain⟨e5,V⟩:=hj;refine zs (zQ 3 (zn (cE ((j:Int)<(x:Int)) (fun h8 b4=>?_) (fun h8 b4=>?_))))
     ·refine zk (zs (aB (zs ?_)));obtain⟨y2,M⟩:∃y,(l)[j]? =some y:=⟨(l)[j]'oW,Aa _⟩;obtain⟨b2,f2,c8,e2,b8,b7⟩:=hl.at_ j y2 M;obtain⟨e0,rfl,c1⟩:=b7;obtain⟨a2,c2,rfl,c6,j0,j2,e8⟩:=c1.form;cases e2;refine iM 3 [0,0,1,0,1,0,0,1,0,1] [] [.val (Pt g (r+x*6)),.val (I6 f.id),.val (Pt g (r+j*6)),.val (I6 y2.id)] ⟨?_,?_,?_,?_,trivial⟩ ?_
      ·exact vR (rIx 92 rfl g r l.length c x 6)
      ·exact vU1 g (r+x*6+0) (E 0 _ rfl) 3 _ _ Tryz.underlying3 rfl
      ·exact vR (rIx 92 rfl g r l.length c j 6)
      ·exact vU1 g (r+j*6+0) (b8 0 _ rfl) 3 _ _ Tryz.underlying3 rfl
      refine zq 1 (zn (fQ f.id y2.id (fun h9 b5=>?_) (fun h9 b5=>?_)))
      ·refine zQ 1 (zn (aA (aO [6] [(.bool false)] (fun Y u=>?_))));refine⟨?_,u.below⟩;unfold aB7;simp only[N,O,bs,bQ,reduceIte];rw[aCD F (fun⟨D,B,g3⟩=>g3 j oW y2 M (eq_of_beq h9).symm)]
       try rfl
      ·refine zk (zr (zq 2 (eC 64 ((j:Int)+1) (zq 1 (zn ?_)))));refine nx (j+1) ?_ ?_
       ·exact⟨by omega,lU (P:=fun _ q=>q.id≠f.id) M V (fun K=>by rw[K]at h9;simp at h9)⟩
       ·show x-(j+1)<x-j;omega
     ·refine aK (zr (zq 2 (eC 25 ((x:Int)+1) (zq 1 (zn ?_)))));refine nx (x+1) ?_ ?_ (d:=fun _ h=>Mem.sub (Ay _ _) (h.eqv (show _=([]:aN)++([(bK A (tC f.v G I) 89)]:aN)from by kernel_rfl)))
      ·exact⟨by omega,lU (P:=PaP l) F X ⟨(J.1 h7).1,(J.1 h7).2,fun k9 e6 q9 K=>V k9 oW q9 K⟩⟩
      ·show l.length-(x+1)<l.length-x;omega
   ·refine aK (zQ 1 (zn (aA (aO [6] [(.bool true)] (fun Y u=>?_)))));refine⟨?_,u.below⟩;unfold aB7;simp only[N,O,bs,bQ,reduceIte];rw[aCE.2 (tU oW X)];rfl
end Go.Proofs.YtcdjakemdlinhaaGreatDoor.Sx
