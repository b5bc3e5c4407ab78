/-
  Several texts in one: Rh3 Rr7 Rh4 Rh5 Rr8 Sxg Rog Rr9.
  Conditions: named at each.
-/
import Derived.Test.YtcdjakemdlinhaaGreatDoorG11
set_option maxHeartbeats 16000000
set_option linter.unusedSimpArgs false
set_option linter.unusedVariables false
set_option linter.unusedSectionVars false
namespace Go.Proofs.YtcdjakemdlinhaaGreatDoor.Sx
open Go.ChangeShapes Go.WideShapes Go.ChangeAt Go.RowKit Go.Deep
theorem qN(e:Ei)(w:World)(_:e.l.length≤R47):CP 116 #[e.V] w (Ret (.bool (aI e)) w):=Eid.aHV _ _ _ _ w
def hasB(f k:Nat):Bool:=decide (f/k%2=1)
theorem sV(f k:Nat)(K:Int)(g:K=(k:Int))(h:f<W64):(((IntKind.u64.wrap ((f:Int).tdiv K)).tmod 2)==1)=hasB f k:=by
 subst g;have c:((f:Int).tdiv (k:Int))=((f/k:Nat):Int):=by
  rw[Int.tdiv_eq_ediv_of_nonneg oW];simp
 have d:f/k≤f:=Nat.div_le_self _ _;unfold W64 at h;rw[c,hasB];generalize f/k=q at d ⊢;rw[u64_in oW oW,Et oW];by_cases a:q%2=1
 ·rw[Cc a,Cy];omega
 ·rw[Ba a,Ai];omega
theorem aA5(f k:Nat)(c:f<W64)(d:k<W64):iY .u64 (f:Int) (k:Int)=((f &&& k:Nat):Int):=by
 unfold W64 at c d;have a:(BitVec.ofInt 64 (f:Int) &&& BitVec.ofInt 64 (k:Int)).toNat=f &&& k:=by
  rw[BitVec.toNat_and,BitVec.ofInt_natCast,BitVec.ofInt_natCast,BitVec.toNat_ofNat,BitVec.toNat_ofNat,Fj oW,Fj oW]
 have g:f &&& k≤f:=Nat.and_le_left;show IntKind.u64.wrap ((BitVec.ofInt 64 (f:Int) &&& BitVec.ofInt 64 (k:Int)).toNat:Int)=_;rw[a,u64_in oW oW]
theorem tH(f i:Nat)(K:Int)(q:f<W64)(r:i<64)(k:K=((2^i:Nat):Int)):(iY .u64 (f:Int) K !=0)=hasB f (2^i):=by
 subst k;have h:2^i<W64:=by unfold W64;exact Nat.pow_lt_pow_right (by decide) r
 rw[aA5 f _ q h,hasB,←Nat.testBit_eq_decide_div_mod_eq];cases d:f.testBit i with
 |true=>
  have a:(f &&& 2^i).testBit i=true:=by rw[Nat.testBit_and,d,Nat.testBit_two_pow_self];rfl
  have c:f &&& 2^i≠0:=fun e=>by rw[e,Nat.zero_testBit]at a;cases a
  simp only[Cb,ne_eq];omega
 |false=>
  have c:f &&& 2^i=0:=by
   apply Nat.eq_of_testBit_eq;intro j;rw[Nat.testBit_and,Nat.zero_testBit,Nat.testBit_two_pow];by_cases g:i=j
   ·subst g;rw[d];rfl
   ·rw[Ba g,Bool.and_false]
  rw[c];rfl
theorem aPZ(f:Nat)(a:f<W64):(iY .u64 (f:Int) 1 !=0)=hasB f 1:=tH f 0 1 a (by decide) rfl
theorem aRw(f:Nat)(a:f<W64):(iY .u64 (f:Int) 2 !=0)=hasB f 2:=tH f 1 2 a (by decide) rfl
theorem aQ7(f:Nat)(a:f<W64):(iY .u64 (f:Int) 4 !=0)=hasB f 4:=tH f 2 4 a (by decide) rfl
theorem aQL(f:Nat)(c:f<W64):(iY .u64 (f:Int) 278528 !=0)=(hasB f 16384||hasB f 262144):=by
 rw[show hasB f 16384=(iY .u64 (f:Int) 16384 !=0)from(tH f 14 16384 c (by decide) rfl).symm,show hasB f 262144=(iY .u64 (f:Int) 262144 !=0)from(tH f 18 262144 c (by decide) rfl).symm,
  show iY .u64 (f:Int) 278528=((f &&& 278528:Nat):Int)from aA5 f 278528 c (by decide),show iY .u64 (f:Int) 16384=((f &&& 16384:Nat):Int)from aA5 f 16384 c (by decide),show iY .u64 (f:Int) 262144=((f &&& 262144:Nat):Int)from aA5 f 262144 c (by decide),
  show(278528:Nat)=16384 ||| 262144 by decide,Nat.and_or_distrib_left]
 generalize f &&& 16384=a;generalize f &&& 262144=b;rw[Db];simp only[Cb,ne_eq,Dg];have h:a ||| b=0↔a=0∧b=0:=Nat.or_eq_zero_iff
 omega
theorem aG0(f:Nat)(c:f<W64)(w:World):CP 75 #[.int .u64 (f:Int),.int .i64 1] w (Ret (.bool (hasB f 1)) w):=by
 refine dI 11 Tryz.func75 ?_;refine zQ 1 (zn (zQ 4 (dS 8 (U6 (IntKind.u64.wrap (((f:Int)).tdiv 1))) (U6 (IntKind.u64.wrap ((f:Int).tdiv 1))) (Ag (Value.int .u64) rfl) ?_)));refine zq 3 (zn (aA (aO [4] [(.bool ((((IntKind.u64.wrap ((f:Int).tdiv 1))).tmod 2)==1))] (fun d a=>?_))));refine⟨Ag (fun z=>Ending.returned (Value.bool z)) (sV f 1 1 rfl c),a.below⟩
theorem aPF(f:Nat)(c:f<W64)(w:World):CP 75 #[.int .u64 (f:Int),.int .i64 2] w (Ret (.bool (hasB f 2)) w):=by
 refine dI 11 Tryz.func75 ?_;refine zQ 1 (zn (zQ 4 (dS 8 (U6 (IntKind.u64.wrap (((f:Int)).tdiv 2))) (U6 (IntKind.u64.wrap ((f:Int).tdiv 2))) (Ag (Value.int .u64) rfl) ?_)));refine zq 3 (zn (aA (aO [4] [(.bool ((((IntKind.u64.wrap ((f:Int).tdiv 2))).tmod 2)==1))] (fun d a=>?_))));refine⟨Ag (fun z=>Ending.returned (Value.bool z)) (sV f 2 2 rfl c),a.below⟩
theorem aNf(f:Nat)(c:f<W64)(w:World):CP 75 #[.int .u64 (f:Int),.int .i64 4] w (Ret (.bool (hasB f 4)) w):=by
 refine dI 11 Tryz.func75 ?_;refine zQ 1 (zn (zQ 4 (dS 8 (U6 (IntKind.u64.wrap (((f:Int)).tdiv 4))) (U6 (IntKind.u64.wrap ((f:Int).tdiv 4))) (Ag (Value.int .u64) rfl) ?_)));refine zq 3 (zn (aA (aO [4] [(.bool ((((IntKind.u64.wrap ((f:Int).tdiv 4))).tmod 2)==1))] (fun d a=>?_))));refine⟨Ag (fun z=>Ending.returned (Value.bool z)) (sV f 4 4 rfl c),a.below⟩
theorem aHW(f:Nat)(c:f<W64)(w:World):CP 75 #[.int .u64 (f:Int),.int .i64 16384] w (Ret (.bool (hasB f 16384)) w):=by
 refine dI 11 Tryz.func75 ?_;refine zQ 1 (zn (zQ 4 (dS 8 (U6 (IntKind.u64.wrap (((f:Int)).tdiv 16384))) (U6 (IntKind.u64.wrap ((f:Int).tdiv 16384))) (Ag (Value.int .u64) rfl) ?_)));refine zq 3 (zn (aA (aO [4] [(.bool ((((IntKind.u64.wrap ((f:Int).tdiv 16384))).tmod 2)==1))] (fun d a=>?_))));refine⟨Ag (fun z=>Ending.returned (Value.bool z)) (sV f 16384 16384 rfl c),a.below⟩
theorem aFR(f:Nat)(c:f<W64)(w:World):CP 75 #[.int .u64 (f:Int),.int .i64 262144] w (Ret (.bool (hasB f 262144)) w):=by
 refine dI 11 Tryz.func75 ?_;refine zQ 1 (zn (zQ 4 (dS 8 (U6 (IntKind.u64.wrap (((f:Int)).tdiv 262144))) (U6 (IntKind.u64.wrap ((f:Int).tdiv 262144))) (Ag (Value.int .u64) rfl) ?_)));refine zq 3 (zn (aA (aO [4] [(.bool ((((IntKind.u64.wrap ((f:Int).tdiv 262144))).tmod 2)==1))] (fun d a=>?_))));refine⟨Ag (fun z=>Ending.returned (Value.bool z)) (sV f 262144 262144 rfl c),a.below⟩
def jW(p:Pr):Int:=
 if !aI p.dst|| !aI p.src|| !aI p.rpt||decide (p.c<0)||decide (p.c>2)||decide ((p.f:Int)≥2097152)then 1
 else if big p.time||big p.seq||big p.life||big p.off||big p.tot then 1
 else if(hasB p.f 1&&(hasB p.f 4||decide ((p.off:Int)≥(p.tot:Int))))||(!hasB p.f 1&&(decide ((p.off:Int)>0)||decide ((p.tot:Int)>0)))then 8
 else if((hasB p.f 16384||hasB p.f 262144)&&(((p.src.s==1)&&(p.src.l==[110,111,110,101]))||hasB p.f 2))||(((p.src.s==1)&&(p.src.l==[110,111,110,101]))&& !hasB p.f 4)then 8 else 0
theorem aBi(p:Pr)(w:World)(h:p.ok):CP 71 #[p.V] w (Ret (.int .i64 (jW p)) w):=by
 refine dI 124 Tryz.func71 ?_;refine zs (zr (aW (fun c=>(zq 1 (zn (zs ?_))))));refine dH (α:=Bool) (fun f=>[1,2,38].zip [(Pt c 0),(I6 0),(.bool f)]) (fun f=>View.no) (fun f=>[(bK c p.cs 26)]) (fun f=>f=(!aI p.dst|| !aI p.src|| !aI p.rpt||decide (p.c<0)||decide (p.c>2)||decide ((p.f:Int)≥2097152))) ?_ ?_
 ·refine zr (cG [0,1] [(c,4)] (dK (fun W k=>qN p.dst W h.dst.l) (zq 2 (cN 12 (!(aI p.dst)) (fun V=>?_) (fun V=>?_)))))
  ·refine zq 26 (zn ?_);refine jn true ?_;simp only[V,bs,bQ,reduceIte]
  ·refine cG [0,1] [(c,4)] (dK (fun W k=>qN p.src W h.src.l) (zq 3 (cN 18 (!(aI p.src)) (fun h1=>?_) (fun h1=>?_))))
   ·refine zq 20 (zn ?_);refine jn true ?_;simp only[V,h1,bs,bQ,reduceIte]
   ·refine cG [0,1] [(c,4)] (dK (fun W k=>qN p.rpt W h.rpt.l) (zq 3 (cN 24 (!(aI p.rpt)) (fun h2=>?_) (fun h2=>?_))))
    ·refine zq 14 (zn ?_);refine jn true ?_;simp only[V,h1,h2,bs,bQ,reduceIte]
    ·refine cG [0,1,0,0,0] [(c,1)] (cN 29 (decide (p.c<0)) (fun h3=>?_) (fun h3=>?_))
     ·refine zq 9 (zn ?_);refine jn true ?_;simp only[V,h1,h2,h3,bs,bQ,reduceIte]
     ·refine cG [0,1,0,0,0] [(c,1)] (cN 34 (decide (p.c>2)) (fun h4=>?_) (fun h4=>?_))
      ·refine zq 4 (zn ?_);refine jn true ?_;simp only[V,h1,h2,h3,h4,bs,bQ,reduceIte]
      ·refine cG [0,1,0,0] [(c,1)] (zn ?_);refine jn (decide ((p.f:Int)≥2097152)) ?_;simp only[V,h1,h2,h3,h4,bs,bQ,reduceIte]
 intro f A;refine gN f (fun q=>?_) (fun q=>?_)
 ·refine zQ 1 (zn (aA (aO [2] [(I6 1)] (fun O k=>?_))));have g:=A.symm.trans q;exact⟨by simp only[dC,jW,big,g,bs,bQ,reduceIte],k.below⟩
 ·refine zk (zB [0,1,0,1,0,1,0,1,0,1,0] [(c,1),(c,1),(c,1),(c,1),(c,1)] (aW (fun f=>(aX 1 f (zn (zs (zQ 1 (zn (aB (eY (α:=Nat) (fun x=>match x with|0=>[1,2,3,4].zip [(Pt c 0),(I6 0),(Pt f 0),(I6 0)]|1=>[1,2,3,4].zip [(Pt c 0),(I6 0),(Pt f 0),(I6 1)]|2=>[1,2,3,4].zip [(Pt c 0),(I6 0),(Pt f 0),(I6 2)]|3=>[1,2,3,4].zip [(Pt c 0),(I6 0),(Pt f 0),(I6 3)]|4=>[1,2,3,4].zip [(Pt c 0),(I6 0),(Pt f 0),(I6 4)]|_=>[1,2,3,4].zip [(Pt c 0),(I6 0),(Pt f 0),(I6 5)]) (fun _=>View.no) (fun x=>[(bK c p.cs 26),(bK f [(N6 p.time),(N6 p.seq),(N6 p.life),(N6 p.off),(N6 p.tot)] 189)]) (fun x=>x≤5∧(0<x→(decide ((p.time:Int)>1099511627776))=false)∧(1<x→(decide ((p.seq:Int)>1099511627776))=false)∧(2<x→(decide ((p.life:Int)>1099511627776))=false)∧(3<x→(decide ((p.off:Int)>1099511627776))=false)∧(4<x→(decide ((p.tot:Int)>1099511627776))=false)) (fun x=>5-x) 0 ⟨by omega,fun h=>absurd h oW,fun h=>absurd h oW,fun h=>absurd h oW,fun h=>absurd h oW,fun h=>absurd h oW⟩ ?_))))))))));rintro x ⟨hx,a,d,j,y,G⟩;rcases(by omega:x=0∨x=1∨x=2∨x=3∨x=4∨x=5)with rfl|rfl|rfl|rfl|rfl|rfl
  ·refine zs (zQ 2 (zn (dP (zk (zs (aB (zQ 1 (cD (Pt f 0) (gX _ 22 _ _ rfl f 0 5 0 1 .i64 kR kR (by first|assumption|omega) kR kR) ?_))))))));refine cG [2,0] [(f,1)] (zn (cE ((p.time:Int)>1099511627776) (fun h6 _=>?_) (fun h6 c1=>?_)))
   ·refine zQ 1 (zn (aA (aO [2] [(I6 1)] (fun O k=>?_))));have g:=A.symm.trans q;exact⟨by simp only[dC,jW,big,g,h6,bs,bQ,reduceIte],k.below⟩
   ·refine zk (zr (zq 3 (zn ?_)));refine nx 1 ⟨by omega,fun _=>h6,fun h=>absurd h oW,fun h=>absurd h oW,fun h=>absurd h oW,fun h=>absurd h oW⟩ (by show 5-1<5-0;omega)
  ·refine zs (zQ 2 (zn (dP (zk (zs (aB (zQ 1 (cD (Pt f 1) (gX _ 22 _ _ rfl f 0 5 1 1 .i64 kR kR (by first|assumption|omega) kR kR) ?_))))))));refine cG [2,0] [(f,1)] (zn (cE ((p.seq:Int)>1099511627776) (fun h7 b8=>?_) (fun h7 b8=>?_)))
   ·refine zQ 1 (zn (aA (aO [2] [(I6 1)] (fun O k=>?_))));have g:=A.symm.trans q;exact⟨by simp only[dC,jW,big,g,(a oW),h7,bs,bQ,reduceIte],k.below⟩
   ·refine zk (zr (zq 3 (zn ?_)));refine nx 2 ⟨by omega,fun _=>a oW,fun _=>h7,fun h=>absurd h oW,fun h=>absurd h oW,fun h=>absurd h oW⟩ (by show 5-2<5-1;omega)
  ·refine zs (zQ 2 (zn (dP (zk (zs (aB (zQ 1 (cD (Pt f 2) (gX _ 22 _ _ rfl f 0 5 2 1 .i64 kR kR (by first|assumption|omega) kR kR) ?_))))))));refine cG [2,0] [(f,1)] (zn (cE ((p.life:Int)>1099511627776) (fun h8 b9=>?_) (fun h8 b9=>?_)))
   ·refine zQ 1 (zn (aA (aO [2] [(I6 1)] (fun O k=>?_))));have g:=A.symm.trans q;exact⟨by simp only[dC,jW,big,g,(a oW),(d oW),h8,bs,bQ,reduceIte],k.below⟩
   ·refine zk (zr (zq 3 (zn ?_)));refine nx 3 ⟨by omega,fun _=>a oW,fun _=>d oW,fun _=>h8,fun h=>absurd h oW,fun h=>absurd h oW⟩ (by show 5-3<5-2;omega)
  ·refine zs (zQ 2 (zn (dP (zk (zs (aB (zQ 1 (cD (Pt f 3) (gX _ 22 _ _ rfl f 0 5 3 1 .i64 kR kR (by first|assumption|omega) kR kR) ?_))))))));refine cG [2,0] [(f,1)] (zn (cE ((p.off:Int)>1099511627776) (fun h9 c0=>?_) (fun h9 c0=>?_)))
   ·refine zQ 1 (zn (aA (aO [2] [(I6 1)] (fun O k=>?_))));have g:=A.symm.trans q;exact⟨by simp only[dC,jW,big,g,(a oW),(d oW),(j oW),h9,bs,bQ,reduceIte],k.below⟩
   ·refine zk (zr (zq 3 (zn ?_)));refine nx 4 ⟨by omega,fun _=>a oW,fun _=>d oW,fun _=>j oW,fun _=>h9,fun h=>absurd h oW⟩ (by show 5-4<5-3;omega)
  ·refine zs (zQ 2 (zn (dP (zk (zs (aB (zQ 1 (cD (Pt f 4) (gX _ 22 _ _ rfl f 0 5 4 1 .i64 kR kR (by first|assumption|omega) kR kR) ?_))))))));refine cG [2,0] [(f,1)] (zn (cE ((p.tot:Int)>1099511627776) (fun X b3=>?_) (fun X b3=>?_)))
   ·refine zQ 1 (zn (aA (aO [2] [(I6 1)] (fun O k=>?_))));have g:=A.symm.trans q;exact⟨by simp only[dC,jW,big,g,(a oW),(d oW),(j oW),(y oW),X,bs,bQ,reduceIte],k.below⟩
   ·refine zk (zr (zq 3 (zn ?_)));refine nx 5 ⟨by omega,fun _=>a oW,fun _=>d oW,fun _=>j oW,fun _=>y oW,fun _=>X⟩ (by show 5-5<5-4;omega)
  ·refine zs (zQ 2 (zn (dD (aK (zB [0,1] [(c,1)] (dK (fun W k=>aG0 p.f h.f W) (zq 1 (zn ?_))))))));refine dH (α:=Bool) (fun M=>[1,2,5,6].zip [(Pt c 0),(I6 0),(.bool (hasB p.f 1)),(.bool M)]) (fun M=>View.no) (fun M=>[(bK c p.cs 26),(bK f [(N6 p.time),(N6 p.seq),(N6 p.life),(N6 p.off),(N6 p.tot)] 189)]) (fun M=>M=(hasB p.f 16384||hasB p.f 262144)) ?_ ?_
   ·refine zr (cG [0,1] [(c,1)] (dK (fun W k=>aHW p.f h.f W) (zq 1 (cN 64 (hasB p.f 16384) (fun Y=>?_) (fun Y=>?_)))))
    ·refine zq 5 (zn ?_);refine jn true ?_;simp only[Y,q,bs,bQ,reduceIte]
    ·refine cG [0,1] [(c,1)] (dK (fun W k=>aFR p.f h.f W) (zq 2 (zn ?_)));refine jn (hasB p.f 262144) ?_;simp only[Y,q,bs,bQ,reduceIte]
   intro M b4;refine zs ?_;refine dH (α:=Bool) (fun E=>[1,2,6,95].zip [(Pt c 0),(I6 0),(.bool M),(.bool E)]) (fun E=>View.no) (fun E=>[(bK c p.cs 26),(bK f [(N6 p.time),(N6 p.seq),(N6 p.life),(N6 p.off),(N6 p.tot)] 189)]) (fun E=>E=((hasB p.f 1&&(hasB p.f 4||decide ((p.off:Int)≥(p.tot:Int))))||(!hasB p.f 1&&(decide ((p.off:Int)>0)||decide ((p.tot:Int)>0))))) ?_ ?_
   ·refine zr (zq 2 (cN 70 (hasB p.f 1) (fun D=>?_) (fun D=>?_)))
    ·refine cG [0,1] [(c,1)] (dK (fun W k=>aNf p.f h.f W) (zq 1 (cN 74 (hasB p.f 4) (fun N=>?_) (fun N=>?_))))
     ·refine zq 21 (zn ?_);refine jn true ?_;simp only[D,N,q,bs,bQ,reduceIte]
     ·refine cG [0,1,0,1,0,0,0,0] [(c,1),(c,1)] (cN 82 (decide ((p.off:Int)≥(p.tot:Int))) (fun Z=>?_) (fun Z=>?_))
      ·refine zq 13 (zn ?_);refine jn true ?_;simp only[D,N,Z,q,bs,bQ,reduceIte]
      ·refine zq 3 (dS 85 (.bool (!(hasB p.f 1))) (.bool false) (Ag Value.bool (by rw[D];rfl)) ?_);refine zq 10 (zn ?_);refine jn false ?_;simp only[D,N,Z,q,bs,bQ,reduceIte]
    ·refine zq 15 (dS 85 (.bool (!(hasB p.f 1))) (.bool true) (Ag Value.bool (by rw[D];rfl)) ?_);refine cG [0,1,0,0] [(c,1)] (cN 89 (decide ((p.off:Int)>0)) (fun a1=>?_) (fun a1=>?_))
     ·refine zq 6 (zn ?_);refine jn true ?_;simp only[D,a1,q,bs,bQ,reduceIte]
     ·refine cG [0,1,0,0,0,0] [(c,1)] (zn ?_);refine jn (decide ((p.tot:Int)>0)) ?_;simp only[D,a1,q,bs,bQ,reduceIte]
   intro E L;refine gN E (fun u=>?_) (fun u=>?_)
   ·refine zQ 1 (zn (aA (aO [2] [(I6 8)] (fun O k=>?_))));have g:=A.symm.trans q;have C:=L.symm.trans u;exact⟨by simp only[dC,jW,big,g,C,(a oW),(d oW),(j oW),(y oW),(G oW),bs,bQ,reduceIte],k.below⟩
   ·refine zk ?_;refine dH (α:=Bool) (fun J=>[1,2,6,7].zip [(Pt c 0),(I6 0),(.bool M),(.bool J)]) (fun J=>View.no) (fun J=>[(bK c p.cs 26),(bK f [(N6 p.time),(N6 p.seq),(N6 p.life),(N6 p.off),(N6 p.tot)] 189)]) (fun J=>J=((p.src.s==1)&&(p.src.l==[110,111,110,101]))) ?_ ?_
    ·refine zr (cG [0,0,1,0,0] [(c,1)] (cN 100 (p.src.s==1) (fun a6=>?_) (fun a6=>?_)))
     ·refine cG [0,0,1] [(c,1)] (cD (.bool (p.src.l==[110,111,110,101])) (iR _ _ _ _ rfl p.src.l [110,111,110,101] kR kR) ?_);refine zq 2 (zn ?_);refine jn (p.src.l==[110,111,110,101]) ?_;simp only[u,a6,q,bs,bQ,reduceIte]
     ·refine zq 6 (zn ?_);refine jn false ?_;simp only[u,a6,q,bs,bQ,reduceIte]
    intro J b5;refine zs ?_;refine dH (α:=Bool) (fun r=>[2,123].zip [(I6 0),(.bool r)]) (fun r=>View.no) (fun r=>[(bK c p.cs 26),(bK f [(N6 p.time),(N6 p.seq),(N6 p.life),(N6 p.off),(N6 p.tot)] 189)]) (fun r=>r=((M&&(J||hasB p.f 2))||(J&& !hasB p.f 4))) ?_ ?_
    ·refine zr (zq 2 (cN 107 M (fun I=>?_) (fun I=>?_)))
     ·refine zq 2 (cN 109 J (fun K=>?_) (fun K=>?_))
      ·refine zq 14 (zn ?_);refine jn true ?_;simp only[u,I,K,q,bs,bQ,reduceIte]
      ·refine cG [0,1] [(c,1)] (dK (fun W k=>aPF p.f h.f W) (zq 3 (cN 115 (hasB p.f 2) (fun a7=>?_) (fun a7=>?_))))
       ·refine zq 8 (zn ?_);refine jn true ?_;simp only[u,I,K,a7,q,bs,bQ,reduceIte]
       ·refine zq 2 (dS 117 (.bool J) (.bool false) (Ag Value.bool K) ?_);refine zq 6 (zn ?_);refine jn false ?_;simp only[u,I,K,a7,q,bs,bQ,reduceIte]
     ·refine zq 10 (cN 117 J (fun a8=>?_) (fun a8=>?_))
      ·refine cG [0,1] [(c,1)] (dK (fun W k=>aNf p.f h.f W) (zq 3 (zn ?_)));refine jn (!(hasB p.f 4)) ?_;simp only[u,I,a8,q,bs,bQ,reduceIte]
      ·refine zq 6 (zn ?_);refine jn false ?_;simp only[u,I,a8,q,bs,bQ,reduceIte]
    intro r B;refine gN r (fun b2=>?_) (fun b2=>?_)
    ·refine zQ 1 (zn (aA (aO [2] [(I6 8)] (fun O k=>?_))));have g:=A.symm.trans q;have C:=L.symm.trans u;rw[b4,b5]at B;have F:=B.symm.trans b2;exact⟨by simp only[dC,jW,big,g,C,F,(a oW),(d oW),(j oW),(y oW),(G oW),bs,bQ,reduceIte],k.below⟩
    ·refine zk (zQ 1 (zn (aA (aO [2] [(I6 0)] (fun O k=>?_)))));have g:=A.symm.trans q;have C:=L.symm.trans u;rw[b4,b5]at B;have F:=B.symm.trans b2;exact⟨by simp only[dC,jW,big,g,C,F,(a oW),(d oW),(j oW),(y oW),(G oW),bs,bQ,reduceIte],k.below⟩
theorem aCs{m n:Nat}{x:Int}(w:World)(c:x=(n:Int))(hm:m≤7)(a:n<W64):CP 108 #[.int .i64 (m:Int),.int .u64 x] w (Ret (.string (B (Itm.aE m n))) w):=c▸dB m n w hm a
theorem rS{l:List Itm.Tr}{x:Itm.Tr}:Itm.aY (l++[x])=Itm.aY l++Itm.aG x:=by
 rw[Itm.pH];simp[Itm.aY]
theorem aKY(p:Pa):Itm.aG p.tree=[130]++Itm.aE 0 p.id.toNat++Itm.aG p.v:=by
 show Itm.aG (.mk 4 0 [] [Itm.cA p.id.toNat,p.v] false)=_;rw[Itm.iD,Itm.aY,Itm.aY,Itm.aY,Aj,show Itm.aG (Itm.cA p.id.toNat)=Itm.aE 0 p.id.toNat from Itm.lZ _,←Al];rfl
theorem aEq(l:List Pa)(a:Option Addr)(c:Nat)(w:World){U:View}(hU:See U w)(hl:gF PaR 6 U a l)(a1:l.length≤100)(O:fR l=true):CP 111 #[.slice a l.length c] w (Ret (.string (B (Itm.aG (fV l)))) w):=by
 have M:∀p∈l,paB p=true:=by
  have h:=O;unfold fR at h;rw[Ae,Ao]at h;exact h.1
 have K:=fG O;have a6:=Itm.aD 4 l.length;refine dE 33 Tryz.func111 hU ?_;refine zQ 1 (zn (zQ 3 (dS 7 (U6 (IntKind.u64.wrap (l.length:Int))) (N6 ((l.length:Nat))) (Ag (Value.int .u64) (u64_in oW oW)) ?_)));refine cY 108 #[(I6 4),(N6 ((l.length:Nat)))] (St (Itm.aE 4 l.length)) (fun W A=>aCs W rfl (by decide) (by unfold W64;omega)) ?_;refine zq 1 (zn (zs (zQ 1 (zn (aB (eY (α:=Nat×List UInt8) (fun x=>[0,2,3,4].zip [(.slice a l.length c),(St []),(St x.2),(L6 x.1)]) (fun x=>U) (fun x=>[]) (fun x=>x.1≤l.length∧x.2=Itm.aE 4 l.length++Itm.aY ((l.take x.1).map Pa.tree)∧x.2.length≤100+2000000000000000*x.1) (fun x=>l.length-x.1) (0,Itm.aE 4 l.length) ?_ ?_))))))
 ·exact⟨Ap _,by simp[Itm.aY],by show(Itm.aE 4 l.length).length≤_;omega⟩
 intro x hx;obtain⟨b1,q,b2⟩:=hx;refine zs (zQ 4 (zn (cE ((x.1:Int)<(l.length:Int)) (fun Z G=>?_) (fun Z G=>?_))))
 ·refine zk (zs (aB ?_));obtain⟨d,j⟩:∃y,(l)[x.1]? =some y:=⟨(l)[x.1]'oW,Aa _⟩;obtain⟨r,u,X,rfl,C,I⟩:=hl.at_ x.1 d j;obtain⟨Y,rfl,D⟩:=I;obtain⟨E,F,rfl,V,a8,N,a7⟩:=D.form;have g:=K d (Ad j);have f:=M d (Ad j);unfold paB at f;rw[Ae]at f;have k:=aGJ f.1 f.2 N;unfold R47 at k;have J:=Itm.cI d.v;have L:=Itm.aD 0 d.id.toNat;refine iM 7 [0,0,0,1,0,1,1,1,1,0,0,1,0,1,1,1] [] [.val (Pt r (u+x.1*6)),.val (I6 d.id),.val (N6 d.id.toNat),.val (St (Itm.aE 0 d.id.toNat)),.val (St ([130]++(Itm.aE 0 d.id.toNat))),.val (Pt r (u+x.1*6)),.val (tV d.v E F),.val (St (Itm.aG d.v)),.val (St (([130]++(Itm.aE 0 d.id.toNat))++(Itm.aG d.v)))] ⟨?_,?_,?_,?_,?_,?_,?_,?_,?_,trivial⟩ ?_
  ·exact vR (rIx 92 rfl r u l.length c x.1 6)
  ·exact vU1 r (u+x.1*6+0) (C 0 _ rfl) 3 _ _ Tryz.underlying3 rfl
  ·exact vE (U6 (IntKind.u64.wrap d.id)) (Ag (Value.int .u64) (idU g))
  ·exact vC 108 #[(I6 0),(N6 d.id.toNat)] (fun W A=>aCs W rfl (by decide) (by have:=g;unfold W64;omega))
  ·exact vR (cB _ _ _ _ rfl [130] (Itm.aE 0 d.id.toNat) kR kR oA)
  ·exact vR (rIx 92 rfl r u l.length c x.1 6)
  ·exact vU r (u+x.1*6+1) (tC d.v E F) (View.sub C 1 5 kR) 89 _ _ Tryz.underlying89 rfl
  ·exact vC 109 #[(tV d.v E F)] (fun W A=>gI 8 _ _ A.view D f.2 (by unfold aAL;omega))
  ·exact vR (cB _ _ _ _ rfl ([130]++(Itm.aE 0 d.id.toNat)) (Itm.aG d.v) kR kR oA)
  refine cD (St (x.2++(([130]++(Itm.aE 0 d.id.toNat))++(Itm.aG d.v)))) (cB _ _ _ _ rfl x.2 (([130]++(Itm.aE 0 d.id.toNat))++(Itm.aG d.v)) kR kR oA) ?_;refine zq 1 (zn (zr (zq 2 (eC 14 ((x.1:Int)+1) (zq 1 (zn ?_))))));refine nx (x.1+1,(x.2++(([130]++(Itm.aE 0 d.id.toNat))++(Itm.aG d.v)))) ?_ ?_
  ·exact⟨by show x.1+1≤l.length;omega,by show(x.2++(([130]++(Itm.aE 0 d.id.toNat))++(Itm.aG d.v)))=_;rw[dU Pa.tree j,rS,aKY,q];simp only[Al],by show((x.2++(([130]++(Itm.aE 0 d.id.toNat))++(Itm.aG d.v)))).length≤_;simp only[Ac,Ah,Bd];omega⟩
  ·show l.length-(x.1+1)<l.length-x.1;omega
 ·refine aK (zQ 2 (zn (aA (aO [2] [(St x.2)] (fun W' A=>?_)))));refine⟨?_,A.below⟩;rw[Bf oW]at q;rw[show Itm.aG (fV l)=x.2 from by rw[q];show Itm.aG (.mk 4 0 [] (l.map Pa.tree) false)=_;rw[Itm.iD,Az]];rfl
theorem aAs(a:As):cV a=true↔(1≤a.t.length∧a.t.length≤16)∧a.r.length=a.t.length∧eU a.c=true∧aI a.s=true∧aB7 0 8 a.p=true∧∀i n,a.t[i]? =some n→aOZ a.t i n∧∀q,a.r[i]? =some q→aB7 1 4 q=true:=by
 have E:∀(A c:Int) (l:List Pa),aB7 A c l=true↔A≤l.length∧(l.length:Int)≤c∧fR l=true:=by
  intro A c l;unfold aB7;split
  ·next h=>
   simp only[Dg,Ak]at h;constructor
   ·intro h;cases h
   ·intro⟨_,_,_⟩;omega
  ·next h=>
   simp only[Dg,Ak]at h;exact⟨fun h=>⟨by omega,by omega,h⟩,fun h=>h.2.2⟩
 unfold cV;simp only[Ae,Ak,E];rw[rF,Ao];constructor
 ·rintro⟨⟨⟨⟨⟨⟨⟨⟨f,g⟩,B⟩,j⟩,k⟩,C⟩,r⟩,u⟩,d⟩;refine⟨⟨f,g⟩,u,j,k,⟨by omega,by omega,r⟩,fun i n x=>⟨B i n x,fun q y=>?_⟩⟩;have:=d q (Ad y);unfold aAN at this;simp only[Ae,Ak]at this;exact⟨by omega,by omega,this.2⟩
 ·rintro⟨⟨f,g⟩,u,j,k,⟨_,C,r⟩,d⟩;refine⟨⟨⟨⟨⟨⟨⟨⟨f,g⟩,fun i n x=>(d i n x).1⟩,j⟩,k⟩,by omega⟩,r⟩,u⟩,fun q y=>?_⟩;obtain⟨i,c⟩:=Dk.1 y;have D:=(Af.1 c).1;have:=(d i (a.t[i]'oW) (Aa oW)).2 q c;unfold aAN;simp only[Ae,Ak];exact⟨⟨by omega,by omega⟩,this.2.2⟩
theorem gH{a:As}(h:¬((1≤a.t.length∧a.t.length≤16)∧a.r.length=a.t.length∧eU a.c=true∧aI a.s=true∧aB7 0 8 a.p=true∧∀i n,a.t[i]? =some n→aOZ a.t i n∧∀q,a.r[i]? =some q→aB7 1 4 q=true)):cV a=false:=by
 rw[Bool.eq_false_iff];exact fun e=>h ((aAs a).1 e)
theorem aFL(a:As)(aT aP aR:Option Addr)(K cP cR:Nat)(w:World){U:View}(hU:See U w)(hA:aAK U aT aP aR a)(O:a.t.length≤1000000∧a.p.length≤1000000∧∀l∈a.r,l.length≤1000000):CP 200 #[asV a aT aP aR K cP cR] w (Ret (.bool (cV a)) w):=by
 have a1:=hA.t;have b5:=hA.p;have b6:=hA.r;have e5:=O.1;refine dE 88 Tryz.func200 hU ?_;refine zs (zr (aW (fun d=>(zq 1 (zn (zB [0,1,0,0] [(d,1)] (zn (zs (zQ 3 (jV 11 ((a.t.length:Int)<1) (fun h0 b7=>?_) (fun h0 b7=>?_)))))))))))
 ·refine zq 32 (zn (dP (zQ 1 (zn (aA (aO [2] [(.bool false)] (fun D c=>?_)))))));refine⟨?_,c.below⟩;rw[gH (fun⟨I,J,C,E,F,A⟩=>(by have:=Bj h0;omega))]
  try rfl
 ·refine zq 4 (jV 15 ((a.t.length:Int)>16) (fun h1 b9=>?_) (fun h1 b9=>?_))
  ·refine zq 28 (zn (dP (zQ 1 (zn (aA (aO [2] [(.bool false)] (fun D c=>?_)))))));refine⟨?_,c.below⟩;rw[gH (fun⟨I,J,C,E,F,A⟩=>(by have:=Bj h1;omega))]
   try rfl
  ·refine cG [0,1,0,0,0,0,0] [(d,1)] (lO 22 (a.r.length:Int) (a.t.length:Int) (fun h2 c0=>?_) (fun h2 c0=>?_))
   ·refine zq 21 (zn (dP (zQ 1 (zn (aA (aO [2] [(.bool false)] (fun D c=>?_)))))));refine⟨?_,c.below⟩;rw[gH (fun⟨I,J,C,E,F,A⟩=>(by have:=Cb.1 h2;omega))]
    try rfl
   ·refine cG [0,1,0,0,0] [(d,1)] (jV 27 (a.c<0) (fun h3 c1=>?_) (fun h3 c1=>?_))
    ·refine zq 16 (zn (dP (zQ 1 (zn (aA (aO [2] [(.bool false)] (fun D c=>?_)))))));refine⟨?_,c.below⟩;rw[gH (fun⟨I,J,C,E,F,A⟩=>(by have:=dZ C;have:=Bj h3;omega))]
     try rfl
    ·refine cG [0,1,0,0,0] [(d,1)] (jV 32 (a.c>65535) (fun h4 c4=>?_) (fun h4 c4=>?_))
     ·refine zq 11 (zn (dP (zQ 1 (zn (aA (aO [2] [(.bool false)] (fun D c=>?_)))))));refine⟨?_,c.below⟩;rw[gH (fun⟨I,J,C,E,F,A⟩=>(by have:=dZ C;have:=Bj h4;omega))]
      try rfl
     ·refine cG [0,1] [(d,4)] (dK (fun W c=>qN a.s W hA.s.l) (zq 3 (cN 38 (!(aI a.s)) (fun h5=>?_) (fun h5=>?_))))
      ·refine zq 5 (zn (dP (zQ 1 (zn (aA (aO [2] [(.bool false)] (fun D c=>?_)))))));refine⟨?_,c.below⟩;rw[gH (fun⟨I,J,C,E,F,A⟩=>(by simp[E]at h5))]
       try rfl
      ·refine cG [0,1] [(d,1)] (cY 228 #[(.slice aP a.p.length cP),(I6 0),(I6 8)] (.bool (aB7 0 8 a.p)) (fun W c=>aCr 0 8 a.p _ _ W c.view b5 O.2.1) ?_);refine zq 2 (zn (gN (!(aB7 0 8 a.p)) (fun h6=>?_) (fun h6=>?_)))
       ·refine zQ 1 (zn (aA (aO [2] [(.bool false)] (fun D c=>?_))));refine⟨?_,c.below⟩;rw[gH (fun⟨I,J,C,E,F,A⟩=>(by simp[F]at h6))]
        try rfl
       ·refine zk (zs (zQ 1 (zn (aB (eY (α:=Nat) (fun x=>[1,2,3,4].zip [(Pt d 0),(.bool false),(L6 a.t.length),(L6 x)]) (fun x=>U) (fun x=>[(bK d (tG a aT aP aR K cP cR) 96)]) (fun x=>x≤a.t.length∧∀i,i<x→∀n,a.t[i]? =some n→aOZ a.t i n∧∀q,a.r[i]? =some q→aB7 1 4 q=true) (fun x=>a.t.length-x) 0 ?_ ?_)))))
        ·exact⟨Ap _,fun i h=>absurd h oW⟩
        intro x hx;obtain⟨e9,b4⟩:=hx;refine zs (zQ 3 (zn (cE ((x:Int)<(a.t.length:Int)) (fun h7 c6=>?_) (fun h7 c6=>?_))))
        ·refine zk (zs (aB (zs (zB [0,1,0] [(d,1)] ?_))));obtain⟨u,B⟩:∃y,(a.t)[x]? =some y:=⟨(a.t)[x]'oW,Aa _⟩;obtain⟨f,g,rfl,V⟩:=a1.one B;refine cD (Pt f (g+x)) (eQ _ 3 _ _ rfl f g a.t.length K x .i64 kR kR (by first|assumption|omega) kR kR) ?_;refine zV f (g+x) (I6 u) V 3 (.tmp 52) _ Tryz.underlying3 rfl ?_;refine zq 2 (jV 55 (u<0) (fun h8 c7=>?_) (fun h8 c7=>?_))
         ·refine zq 16 (zn (dP (zQ 1 (zn (aA (aO [2] [(.bool false)] (fun D c=>?_)))))));refine⟨?_,c.below⟩;rw[gH (fun⟨I,J,C,E,F,A⟩=>(by have:=dZ (A x u B).1.1;have:=Bj h8;omega))]
          try rfl
         ·refine cG [0,1,0] [(d,1)] (cD (Pt f (g+x)) (eQ _ 3 _ _ rfl f g a.t.length K x .i64 kR kR (by first|assumption|omega) kR kR) ?_);refine zV f (g+x) (I6 u) V 3 (.tmp 59) _ Tryz.underlying3 rfl ?_;refine zq 3 (jV 63 (u>65535) (fun h9 c8=>?_) (fun h9 c8=>?_))
          ·refine zq 8 (zn (dP (zQ 1 (zn (aA (aO [2] [(.bool false)] (fun D c=>?_)))))));refine⟨?_,c.below⟩;rw[gH (fun⟨I,J,C,E,F,A⟩=>(by have:=dZ (A x u B).1.1;have:=Bj h9;omega))]
           try rfl
          ·refine cG [0,1,0] [(d,1)] ?_;obtain⟨G,M⟩:∃y,(a.r)[x]? =some y:=⟨(a.r)[x]'oW,Aa _⟩;obtain⟨Y,Z,e6,rfl,e0,c9⟩:=b6.at_ x G M;obtain⟨a2,c2,rfl,e4⟩:=c9;have e2:=View.range1 e0;refine cD (Pt Y (Z+x)) (eQ _ 93 _ _ rfl Y Z a.r.length cR x .i64 kR kR (by first|assumption|omega) kR kR) ?_;refine zV Y (Z+x) (.slice a2 G.length c2) e2 93 (.tmp 67) _ Tryz.underlying93 rfl ?_;refine cY 228 #[(.slice a2 G.length c2),(I6 1),(I6 4)] (.bool (aB7 1 4 G)) (fun W c=>aCr 1 4 G _ _ W c.view e4 (O.2.2 _ (Ad M))) ?_;refine zq 2 (zn (gN (!(aB7 1 4 G)) (fun N=>?_) (fun N=>?_)))
           ·refine zQ 1 (zn (aA (aO [2] [(.bool false)] (fun D c=>?_))));refine⟨?_,c.below⟩;rw[gH (fun⟨I,J,C,E,F,A⟩=>(by have r:=(A x u B).2 G M;simp[r]at N))]
            try rfl
           ·refine zk (zQ 1 (zn (aB (eY (α:=Nat) (fun j=>[1,2,3,4,5,44,45,46,49,50,51,52,53,54,55,56,57,58,59,60,61,62,63,64,65,66,67,68,69,70,71].zip [(Pt d 0),(.bool false),(L6 a.t.length),(L6 x),(L6 j),(L6 x),(L6 a.t.length),(.bool (decide ((x:Int)<(a.t.length:Int)))),(Pt d 0),(Sl f g a.t.length K),(L6 x),(Pt f (g+x)),(I6 u),(.bool (decide (u<0))),(.bool false),(Pt d 0),(Sl f g a.t.length K),(L6 x),(Pt f (g+x)),(I6 u),(.bool (decide (u>65535))),(.bool (decide (u>65535))),(.bool false),(Pt d 7),(Sl Y Z a.r.length cR),(L6 x),(Pt Y (Z+x)),(.slice a2 G.length c2),(.bool (aB7 1 4 G)),(.bool (!(aB7 1 4 G))),(.bool (!(aB7 1 4 G)))]) (fun j=>U) (fun j=>[(bK d [(Sl f g a.t.length K),(I6 a.c),(I6 a.s.s),(St a.s.l),(N6 a.s.n),(N6 a.s.v),(.slice aP a.p.length cP),(Sl Y Z a.r.length cR)] 96)]) (fun j=>j≤x∧∀k,k<j→∀m,a.t[k]? =some m→m≠u) (fun j=>x-j) 0 ?_ ?_))))
            ·exact⟨Ap _,fun i h=>absurd h oW⟩
            intro j hj;obtain⟨e7,a8⟩:=hj;refine zs (zQ 3 (zn (cE ((j:Int)<(x:Int)) (fun b8 a6=>?_) (fun b8 a6=>?_))))
            ·refine zk (zs (aB (zs ?_)));obtain⟨y3,X⟩:∃y,(a.t)[j]? =some y:=⟨(a.t)[j]'oW,Aa _⟩;obtain⟨b3,f3,e3,e1⟩:=a1.one X;cases e3;refine iM 3 [0,3,0,1,1,0,3,0,1,1] [(d,1),(d,1)] [.val (Pt f (g+x)),.val (I6 u),.val (Pt f (g+j)),.val (I6 y3)] ⟨?_,?_,?_,?_,trivial⟩ ?_
             ·exact vR (eQ _ 3 _ _ rfl f g a.t.length K x .i64 kR kR (by first|assumption|omega) kR kR)
             ·exact vU1 f (g+x) V 3 _ _ Tryz.underlying3 rfl
             ·exact vR (eQ _ 3 _ _ rfl f g a.t.length K j .i64 kR kR (by first|assumption|omega) kR kR)
             ·exact vU1 f (g+j) e1 3 _ _ Tryz.underlying3 rfl
             refine zq 1 (zn (fQ u y3 (fun L a7=>?_) (fun L a7=>?_)))
             ·refine zQ 1 (zn (aA (aO [2] [(.bool false)] (fun D c=>?_))));refine⟨?_,c.below⟩;rw[gH (fun⟨I,J,C,E,F,A⟩=>(A x u B).1.2 j oW y3 X (eq_of_beq L).symm)]
              try rfl
             ·refine zk (zr (zq 2 (eC 76 ((j:Int)+1) (zq 1 (zn ?_)))));refine nx (j+1) ?_ ?_
              ·exact⟨by omega,lU (P:=fun _ m=>m≠u) X a8 (fun r=>by rw[r]at L;simp at L)⟩
              ·show x-(j+1)<x-j;omega
            ·refine aK (zr (zq 2 (eC 48 ((x:Int)+1) (zq 1 (zn ?_)))));refine nx (x+1) ?_ ?_
             ·exact⟨by omega,lU (P:=fun i n=>aOZ a.t i n∧∀q,a.r[i]? =some q→aB7 1 4 q=true) B b4 ⟨⟨aA4 (Au h8) (Au h9),fun k9 e8 q9 r=>a8 k9 oW q9 r⟩,fun q9 r=>by rw[M]at r;obtain rfl:=Bs r;simpa using N⟩⟩
             ·show a.t.length-(x+1)<a.t.length-x;omega
        ·refine aK (zQ 1 (zn (aA (aO [2] [(.bool true)] (fun D c=>?_)))));refine⟨?_,c.below⟩;rw[(aAs a).2 ⟨⟨by have:=Au h0;omega,by have:=Au h1;omega⟩,by have:=Bq.1 h2;omega,aA4 (Au h3) (Au h4),by simpa using h5,by simpa using h6,tU oW b4⟩];rfl
theorem aMc{e:Ei}(h:aI e=true):decide (e.s=1∧e.l=[110,111,110,101]∧(e.n:Int)=0∧(e.v:Int)=0)=((e.s==1)&&(e.l==[110,111,110,101])):=by
 rw[Db];simp only[Ak,Ae,Cy];refine⟨fun h=>⟨h.1,h.2.1⟩,fun⟨a,c⟩=>⟨a,c,?_⟩⟩;unfold aI Eid.gE at h;rw[a]at h;simp at h;omega
theorem aPP(a b:Int):(a !=b)= !(a==b):=rfl
theorem aCo(p:Pr)(h:p.ok):jW p=cF p:=by
 have y:(iY .u64 (p.f:Int) 4==0)= !hasB p.f 4:=by rw[←aQ7 p.f h.f,aPP,Dy]
 unfold jW cF;rw[aPZ p.f h.f,aQ7 p.f h.f,aRw p.f h.f,aQL p.f h.f,y];have B:((p.off:Int) !=0)=decide ((p.off:Int)>0):=by
  rw[Db];simp only[Cb,ne_eq,Ak];omega
 have D:((p.tot:Int) !=0)=decide ((p.tot:Int)>0):=by
  rw[Db];simp only[Cb,ne_eq,Ak];omega
 rw[B,D];have r:(!dM p)=((!aI p.dst|| !aI p.src|| !aI p.rpt||decide (p.c<0)||decide (p.c>2)||decide ((p.f:Int)≥2097152))||(big p.time||big p.seq||big p.life||big p.off||big p.tot)):=by
  unfold dM;rw[show decide (p.c<0)= !decide (p.c≥0) by rw[←Ds];congr 1;exact propext oW,show decide (p.c>2)= !decide (p.c≤2) by rw[←Ds];congr 1;exact propext oW,
   show decide ((p.f:Int)≥2097152)= !decide ((p.f:Int)<2097152) by rw[←Ds];congr 1;exact propext oW]
  generalize big p.time=E;generalize big p.seq=F;generalize big p.life=G;generalize big p.off=I;generalize big p.tot=J;generalize aI p.dst=K;generalize aI p.src=L;generalize aI p.rpt=M;generalize decide (p.c≥0)=N;generalize decide (p.c≤2)=u;generalize decide ((p.f:Int)<2097152)=x;cases E<;>cases F<;>cases G<;>cases I<;>cases J<;>try(simp)
  all_goals cases K<;>cases L<;>cases M<;>cases N<;>cases u<;>cases x<;>rfl
 by_cases k:(!aI p.dst|| !aI p.src|| !aI p.rpt||decide (p.c<0)||decide (p.c>2)||decide ((p.f:Int)≥2097152))=true
 ·rw[Ar k,r,Ar (by rw[k];rfl)]
 rw[An k];have j:=Bool.eq_false_iff.2 k;by_cases q:(big p.time||big p.seq||big p.life||big p.off||big p.tot)=true
 ·rw[Ar q,r,Ar (by rw[q,Bool.or_true])]
 have A:(!dM p)=false:=by rw[r,j,Bool.eq_false_iff.2 q];rfl
 rw[An q,A,An (by simp:¬(false=true))];have C:aI p.src=true:=by
  simp only[Bool.or_eq_false_iff,Bl]at j;exact j.1.1.1.1.2
 rw[aMc C];generalize ((p.src.s==1)&&(p.src.l==[110,111,110,101]))=s;generalize hasB p.f 1=a;generalize hasB p.f 2=b;generalize hasB p.f 4=c;generalize (hasB p.f 16384||hasB p.f 262144)=d;generalize decide ((p.off:Int)≥(p.tot:Int))=e;generalize decide ((p.off:Int)>0)=f;generalize decide ((p.tot:Int)>0)=g;clear r k j q B D y C h A;revert s a b c d e f g;decide
def gC(b:Bk):Int:=if decide (b.t<1)||decide (b.t>65535)||decide (b.n<1)||decide (b.n>65535)||decide ((b.f:Int)>255)||decide (b.c<0)||decide (b.c>2)then 1 else if decide ((b.d.length:Int)>4000)then 4 else if((b.t==1)&&(b.n !=1))||((b.t !=1)&&(b.n==1))then 8 else 0
theorem aCq(b:Bk):gC b=cH b:=by
 unfold gC cH jS;rw[show decide (b.t<1)= !decide (b.t≥1) by rw[←Ds];congr 1;exact propext oW,show decide (b.t>65535)= !decide (b.t≤65535) by rw[←Ds];congr 1;exact propext oW,
  show decide (b.n<1)= !decide (b.n≥1) by rw[←Ds];congr 1;exact propext oW,show decide (b.n>65535)= !decide (b.n≤65535) by rw[←Ds];congr 1;exact propext oW,
  show(b.t !=1)= !(b.t==1)from rfl,show(b.n !=1)= !(b.n==1)from rfl]
 generalize decide (b.t≥1)=a;generalize decide (b.t≤65535)=c;generalize decide (b.n≥1)=d;generalize decide (b.n≤65535)=f;generalize (b.t==1)=g;generalize (b.n==1)=h;cases a<;>cases c<;>cases d<;>cases f<;>cases g<;>cases h<;>simp
theorem aBm(b:Bk)(w:World):CP 72 #[b.V] w (Ret (.int .i64 (gC b)) w):=by
 refine dI 58 Tryz.func72 ?_;refine zs (zr (aW (fun g=>(zq 1 (zn (zs (zB [0,1,0,0] [(g,1)] (cN 6 (decide (b.t<1)) (fun c=>?_) (fun c=>?_)))))))))
 ·refine zq 29 (zn (dP (zQ 1 (zn (aA (aO [2] [(I6 1)] (fun f a=>?_)))))));exact⟨by simp only[dC,gC,c,bs,bQ,reduceIte],a.below⟩
 ·refine cG [0,1,0,0,0] [(g,1)] (cN 11 (decide (b.t>65535)) (fun d=>?_) (fun d=>?_))
  ·refine zq 24 (zn (dP (zQ 1 (zn (aA (aO [2] [(I6 1)] (fun f a=>?_)))))));exact⟨by simp only[dC,gC,c,d,bs,bQ,reduceIte],a.below⟩
  ·refine cG [0,1,0,0,0] [(g,1)] (cN 16 (decide (b.n<1)) (fun h=>?_) (fun h=>?_))
   ·refine zq 19 (zn (dP (zQ 1 (zn (aA (aO [2] [(I6 1)] (fun f a=>?_)))))));exact⟨by simp only[dC,gC,c,d,h,bs,bQ,reduceIte],a.below⟩
   ·refine cG [0,1,0,0,0] [(g,1)] (cN 21 (decide (b.n>65535)) (fun j=>?_) (fun j=>?_))
    ·refine zq 14 (zn (dP (zQ 1 (zn (aA (aO [2] [(I6 1)] (fun f a=>?_)))))));exact⟨by simp only[dC,gC,c,d,h,j,bs,bQ,reduceIte],a.below⟩
    ·refine cG [0,1,0,0,0] [(g,1)] (cN 26 (decide ((b.f:Int)>255)) (fun k=>?_) (fun k=>?_))
     ·refine zq 9 (zn (dP (zQ 1 (zn (aA (aO [2] [(I6 1)] (fun f a=>?_)))))));exact⟨by simp only[dC,gC,c,d,h,j,k,bs,bQ,reduceIte],a.below⟩
     ·refine cG [0,1,0,0,0] [(g,1)] (cN 31 (decide (b.c<0)) (fun q=>?_) (fun q=>?_))
      ·refine zq 4 (zn (dP (zQ 1 (zn (aA (aO [2] [(I6 1)] (fun f a=>?_)))))));exact⟨by simp only[dC,gC,c,d,h,j,k,q,bs,bQ,reduceIte],a.below⟩
      ·refine cG [0,1,0,0] [(g,1)] (zn (gN (decide (b.c>2)) (fun r=>?_) (fun r=>?_)))
       ·refine zQ 1 (zn (aA (aO [2] [(I6 1)] (fun f a=>?_))));exact⟨by simp only[dC,gC,c,d,h,j,k,q,r,bs,bQ,reduceIte],a.below⟩
       ·refine zk (zs (zB [0,1,0,0] [(g,1)] (zn (gN (decide ((((b.d).length:Nat):Int)>4000)) (fun y=>?_) (fun y=>?_)))))
        ·refine zQ 1 (zn (aA (aO [2] [(I6 4)] (fun f a=>?_))));exact⟨by simp only[dC,gC,c,d,h,j,k,q,r,y,bs,bQ,reduceIte],a.below⟩
        ·refine zk (zs (zB [0,1,0,0] [(g,1)] (cN 43 (b.t==1) (fun A=>?_) (fun A=>?_))))
         ·refine cG [0,1,0,0,0] [(g,1)] (cN 48 (b.n !=1) (fun D=>?_) (fun D=>?_))
          ·refine zq 9 (zn (dP (zQ 1 (zn (aA (aO [2] [(I6 8)] (fun f a=>?_)))))));exact⟨by simp only[dC,gC,c,d,h,j,k,q,r,y,A,D,bs,bQ,reduceIte],a.below⟩
          ·refine cG [0,1,0,0] [(g,1)] (cN 52 (b.t !=1) (fun u=>?_) (fun u=>?_))
           ·refine cG [0,1,0,0,0] [(g,1)] (zn (gN (b.n==1) (fun B=>?_) (fun B=>?_)))
            ·refine zQ 1 (zn (aA (aO [2] [(I6 8)] (fun f a=>?_))));exact⟨by simp only[dC,gC,c,d,u,B,h,j,k,q,r,y,A,D,bs,bQ,reduceIte],a.below⟩
            ·refine zk (zQ 1 (zn (aA (aO [2] [(I6 0)] (fun f a=>?_)))));exact⟨by simp only[dC,gC,c,d,u,B,h,j,k,q,r,y,A,D,bs,bQ,reduceIte],a.below⟩
           ·refine zq 5 (zn (dD (zk (zQ 1 (zn (aA (aO [2] [(I6 0)] (fun f a=>?_))))))));exact⟨by simp only[dC,gC,c,d,u,h,j,k,q,r,y,A,D,bs,bQ,reduceIte],a.below⟩
         ·refine cG [0,0,0,0,0,0,1,0,0] [(g,1)] (cN 52 (b.t !=1) (fun x=>?_) (fun x=>?_))
          ·refine cG [0,1,0,0,0] [(g,1)] (zn (gN (b.n==1) (fun C=>?_) (fun C=>?_)))
           ·refine zQ 1 (zn (aA (aO [2] [(I6 8)] (fun f a=>?_))));exact⟨by simp only[dC,gC,c,d,x,C,h,j,k,q,r,y,A,bs,bQ,reduceIte],a.below⟩
           ·refine zk (zQ 1 (zn (aA (aO [2] [(I6 0)] (fun f a=>?_)))));exact⟨by simp only[dC,gC,c,d,x,C,h,j,k,q,r,y,A,bs,bQ,reduceIte],a.below⟩
          ·refine zq 5 (zn (dD (zk (zQ 1 (zn (aA (aO [2] [(I6 0)] (fun f a=>?_))))))));exact⟨by simp only[dC,gC,c,d,x,h,j,k,q,r,y,A,bs,bQ,reduceIte],a.below⟩
theorem pW(e:Ei)(w:World){U:View}(hU:See U w)(Y:e.ok)(F:aI e=true):CP 110 #[e.V] w (fO w U (oQ e.tree)):=by
 have hn:=Y.n;have hv:=Y.v;have hl:=Y.l;have hs:e.s=1∨e.s=2:=by
  unfold aI Eid.gE at F;split at F
  ·exact .inl ‹_›
  ·split at F
   ·exact .inr ‹_›
   ·cases F
 have Z:IntKind.u64.wrap e.s=(e.s.toNat:Int):=by
  have:=u64_in (x:=e.s) oW oW;omega
 refine dE 29 Tryz.func110 hU ?_;refine zs (zr (aW (fun f=>(aW (fun u=>(zn (zQ 1 (aW (fun y=>(aX 2 y (zn (zs (zB [0,1,0] [(f,1)] (zn (fQ e.s 2 (fun j L=>?_) (fun j L=>?_))))))))))))))))
 ·refine zr (cG [0,1,0,0,1,0] [(f,1),(f,1)] ?_);refine gV [(I6 0),(N6 e.n),(St []),S0,(.bool false),(I6 0),(N6 e.v),(St []),S0,(.bool false)] 89 (fun r=>(Sl r 0 2 2)) kR kR kR (fun J V3 k N=>?_);have k5:=(TV.num _ e.n (by first|assumption|decide|(unfold W64;omega))).le k;have k6:=(TV.num _ e.v (by first|assumption|decide|(unfold W64;omega))).le k;have V:eZ V3 (some ⟨J,0,none⟩) [(Itm.cA e.n),(Itm.cA e.v)]:=eZ.lit [((Itm.cA e.n),(iN e.n)),((Itm.cA e.v),(iN e.v))] N ⟨k5,k6,trivial⟩ (show 2≤R47 by decide);refine zq 1 (aX 2 y (zn (zB [0,1,0] [(f,1)] (dS 24 (U6 (IntKind.u64.wrap e.s)) (N6 e.s.toNat) (Ag (Value.int .u64) Z) ?_))));refine cG [0,3] [(y,5)] ?_;refine gV [(I6 0),(N6 e.s.toNat),(St []),S0,(.bool false),(I6 4),(U6 0),(St []),(Sl J 0 2 2),(.bool false)] 89 (fun r=>(Sl r 0 2 2)) kR kR kR (fun K V7 q O=>?_);have a1:=(TV.list 2 V).le q;have a6:=(TV.num _ e.s.toNat (by first|assumption|decide|(unfold W64;omega))).le q;have X:eZ V7 (some ⟨K,0,none⟩) [(Itm.cA e.s.toNat),(Itm.dA [(Itm.cA e.n),(Itm.cA e.v)])]:=eZ.lit [((Itm.cA e.s.toNat),(iN e.s.toNat)),((Itm.dA [(Itm.cA e.n),(Itm.cA e.v)]),[(I6 4),(U6 0),(St []),(Sl J 0 2 2),(.bool false)])] O ⟨a6,a1,trivial⟩ (show 2≤R47 by decide);refine zq 1 (aX 1 u (zn (aA (dL [2] [(u,5)] [(.agg #[(I6 4),(U6 0),(St []),(Sl K 0 2 2),(.bool false)])] (fun W' A=>?_)))));have d:e.s.toNat=2:=by
   simp only[Cy,Ai]at j;omega
  exact aH A (View.le_trans k q) ⟨[(I6 4),(U6 0),(St []),(Sl K 0 2 2),(.bool false)],rfl,((TV.list 2 X)).cast (by simp only[Ei.tree,d,j,bs,bQ,reduceIte])⟩
 ·refine zB [0,1] [(f,1)] (cD (.bool (!(e.l==[110,111,110,101]))) (lQ _ _ _ _ rfl e.l [110,111,110,101] kR kR) ?_);refine zn (gN (!(e.l==[110,111,110,101])) (fun M=>?_) (fun M=>?_))
  ·refine zr (cG [0,1,0] [(f,1)] (aX 2 y (zn (zB [0,1,0] [(f,1)] (dS 24 (U6 (IntKind.u64.wrap e.s)) (N6 e.s.toNat) (Ag (Value.int .u64) Z) ?_)))));refine cG [0,3] [(y,5)] ?_;refine gV [(I6 0),(N6 e.s.toNat),(St []),S0,(.bool false),(I6 3),(U6 0),(St e.l),S0,(.bool false)] 89 (fun r=>(Sl r 0 2 2)) kR kR kR (fun g G a B=>?_);have a7:=(TV.txt _ e.l (by first|assumption|decide|(unfold R47;omega))).le a;have a8:=(TV.num _ e.s.toNat (by first|assumption|decide|(unfold W64;omega))).le a;have D:eZ G (some ⟨g,0,none⟩) [(Itm.cA e.s.toNat),(aHE e.l)]:=eZ.lit [((Itm.cA e.s.toNat),(iN e.s.toNat)),((aHE e.l),[(I6 3),(U6 0),(St e.l),S0,(.bool false)])] B ⟨a8,a7,trivial⟩ (show 2≤R47 by decide);refine zq 1 (aX 1 u (zn (aA (dL [2] [(u,5)] [(.agg #[(I6 4),(U6 0),(St []),(Sl g 0 2 2),(.bool false)])] (fun W' A=>?_)))));have d:e.s.toNat=1:=by
    simp only[Cy,Ai]at j;omega
   exact aH A a ⟨[(I6 4),(U6 0),(St []),(Sl g 0 2 2),(.bool false)],rfl,((TV.list 2 D)).cast (by simp only[Ei.tree,d,j,show(e.l==[110,111,110,101])=false from by simpa using M,bs,bQ,reduceIte])⟩
  ·refine zk (zB [0,1,0] [(f,1)] (dS 24 (U6 (IntKind.u64.wrap e.s)) (N6 e.s.toNat) (Ag (Value.int .u64) Z) ?_));refine cG [0,3] [(y,5)] ?_;refine gV [(I6 0),(N6 e.s.toNat),(St []),S0,(.bool false),(I6 0),(U6 0),(St []),S0,(.bool false)] 89 (fun r=>(Sl r 0 2 2)) kR kR kR (fun h I c C=>?_);have b3:=(TV.num _ 0 (by first|assumption|decide|(unfold W64;omega))).le c;have b4:=(TV.num _ e.s.toNat (by first|assumption|decide|(unfold W64;omega))).le c;have E:eZ I (some ⟨h,0,none⟩) [(Itm.cA e.s.toNat),(Itm.cA 0)]:=eZ.lit [((Itm.cA e.s.toNat),(iN e.s.toNat)),((Itm.cA 0),[(I6 0),(U6 0),(St []),S0,(.bool false)])] C ⟨b4,b3,trivial⟩ (show 2≤R47 by decide);refine zq 1 (aX 1 u (zn (aA (dL [2] [(u,5)] [(.agg #[(I6 4),(U6 0),(St []),(Sl h 0 2 2),(.bool false)])] (fun W' A=>?_)))));have d:e.s.toNat=1:=by
    simp only[Cy,Ai]at j;omega
   exact aH A c ⟨[(I6 4),(U6 0),(St []),(Sl h 0 2 2),(.bool false)],rfl,((TV.list 2 E)).cast (by simp only[Ei.tree,d,j,show(e.l==[110,111,110,101])=true from by simpa using M,bs,bQ,reduceIte])⟩
def aMJ(f:Nat)(k:Int):Int:=if hasB f 1 then(if(k==1)||(k==2)then 11 else 10)else if(k==1)||(k==2)then 9 else 8
theorem aH0(f:Nat)(k:Int)(r:f<W64)(w:World):CP 205 #[.int .u64 (f:Int),.int .u64 k] w (Ret (.int .i64 (aMJ f k)) w):=by
 refine dI 19 Tryz.func205 ?_;refine zQ 1 (zn (zQ 1 (zn (zs (zQ 1 (dK (fun W a=>aG0 f r W) (zn (gN (hasB f 1) (fun c=>?_) (fun c=>?_)))))))))
 ·refine zr (zq 3 (zn (zs (zQ 3 (cN 12 (k==1) (fun g=>?_) (fun g=>?_))))))
  ·refine zq 3 (zn (dP (zr (zq 3 (zn (zQ 2 (zn (aA (aO [4] [(I6 11)] (fun d a=>?_))))))))));exact⟨by simp only[dC,aMJ,c,g,bs,bQ,reduceIte],a.below⟩
  ·refine zq 3 (zn (gN (k==2) (fun j=>?_) (fun j=>?_)))
   ·refine zr (zq 3 (zn (zQ 2 (zn (aA (aO [4] [(I6 11)] (fun d a=>?_)))))));exact⟨by simp only[dC,aMJ,c,g,j,bs,bQ,reduceIte],a.below⟩
   ·refine zk (zQ 2 (zn (aA (aO [4] [(I6 10)] (fun d a=>?_)))));exact⟨by simp only[dC,aMJ,c,g,j,bs,bQ,reduceIte],a.below⟩
 ·refine zk (zs (zQ 3 (cN 12 (k==1) (fun h=>?_) (fun h=>?_))))
  ·refine zq 3 (zn (dP (zr (zq 3 (zn (zQ 2 (zn (aA (aO [4] [(I6 9)] (fun d a=>?_))))))))));exact⟨by simp only[dC,aMJ,c,h,bs,bQ,reduceIte],a.below⟩
  ·refine zq 3 (zn (gN (k==2) (fun q=>?_) (fun q=>?_)))
   ·refine zr (zq 3 (zn (zQ 2 (zn (aA (aO [4] [(I6 9)] (fun d a=>?_)))))));exact⟨by simp only[dC,aMJ,c,h,q,bs,bQ,reduceIte],a.below⟩
   ·refine zk (zQ 2 (zn (aA (aO [4] [(I6 8)] (fun d a=>?_)))));exact⟨by simp only[dC,aMJ,c,h,q,bs,bQ,reduceIte],a.below⟩
theorem aEo(b:List UInt8)(w:World):CP 159 #[.int .i64 0,.string (B b)] w (Ret (.string (B [])) w):=by
 refine dI 39 Tryz.func159 ?_;refine zQ 1 (zn (zs (zQ 2 (zn (dD (zk (zs (zQ 2 (zn (dD (zk (zQ 1 (zn (aA (iZ 4)))))))))))))))
theorem aC0(l:List Int):Itm.aG (aM6 l)=Itm.aE 4 l.length++Itm.aY (l.map fun n=>Itm.cA n.toNat):=by
 show Itm.aG (.mk 4 0 [] (l.map fun n=>Itm.cA n.toNat) false)=_;rw[Itm.iD,Az]
theorem aC1(l:List (List Pa)):Itm.aG (Itm.dA (l.map fV))=Itm.aE 4 l.length++Itm.aY (l.map fV):=by
 show Itm.aG (.mk 4 0 [] (l.map fV) false)=_;rw[Itm.iD,Az]
theorem aDU(n:Nat):Itm.aG (Itm.cA n)=Itm.aE 0 n:=Itm.lZ n
theorem aBY{a:As}(h:a.p.length=0)(c:a.r.length=a.t.length):a.bytes=(((Itm.aE 4 a.t.length++Itm.aY (a.t.map fun n=>Itm.cA n.toNat))++Itm.aE 0 a.c.toNat)++([0]++Itm.aG a.s.tree))++Itm.aE 4 a.t.length++Itm.aY (a.r.map fV):=by
 unfold As.bytes As.items;rw[Ar h];simp only[Itm.aY,aC0,aC1,aDU,Aj,Al,c];rfl
theorem aBX{a:As}(h:¬a.p.length=0)(c:a.r.length=a.t.length):a.bytes=(((Itm.aE 4 a.t.length++Itm.aY (a.t.map fun n=>Itm.cA n.toNat))++Itm.aE 0 a.c.toNat)++(([1]++Itm.aG a.s.tree)++Itm.aG (fV a.p)))++Itm.aE 4 a.t.length++Itm.aY (a.r.map fV):=by
 unfold As.bytes As.items;rw[An h];simp only[Itm.aY,aC0,aC1,aDU,Aj,Al,c];rfl
theorem pX(a:As)(G D F:Option Addr)(K I J:Nat)(w:World){U:View}(hU:See U w)(M:aAK U G D F a)(hs:cV a=true):CP 55 #[asV a G D F K I J] w (Ret (.string (B a.bytes)) w):=by
 have a1:=M.t;have a7:=M.p;have a8:=M.r;have k:=M.small;unfold cV at hs;simp only[Ae,Ak]at hs;obtain⟨⟨⟨⟨⟨⟨⟨⟨h1,L⟩,h3⟩,h4⟩,h5⟩,h6⟩,h7⟩,h8⟩,E⟩:=hs;have c4:=gM h3;have O:=dZ h4;have c1:∀l∈a.r,l.length≤4∧fR l=true∧(Itm.aG (fV l)).length≤20000000000000000:=fun l hl=>by
  have:=Ao.1 E l hl;unfold aAN at this;simp only[Ae,Ak]at this;have h:=aDh this.1.2 this.2 (k.r l hl);have L:=Itm.cI (fV l);unfold R47 at h;exact⟨this.1.2,this.2,by omega⟩
 have e0:=idU O;have e5:=Itm.aD 4 a.t.length;have e6:=Itm.aD 0 a.c.toNat;have e8:(Itm.aG a.s.tree).length≤20000000000000000:=by
  have h:=aJb k.s;have L:=Itm.cI a.s.tree;unfold R47 at h;omega
 have c9:=aJb k.s;have e7:(Itm.aG (fV a.p)).length≤40000000000000000:=by
  have h:=aDh h6 h7 k.p;have L:=Itm.cI (fV a.p);unfold R47 at h;omega
 refine dE 76 Tryz.func55 hU ?_;refine zs (zr (aW (fun c=>(zq 1 (zn (zB [0,1,0,0] [(c,1)] (dS 11 (U6 (IntKind.u64.wrap (a.t.length:Int))) (N6 ((a.t.length:Nat))) (Ag (Value.int .u64) (u64_in oW oW)) ?_)))))));refine zq 1 (zn (zQ 1 (cY 108 #[(I6 4),(N6 ((a.t.length:Nat)))] (St (Itm.aE 4 a.t.length)) (fun W d=>aCs W rfl (by decide) (by unfold W64;omega)) ?_)));refine zq 1 (zn (zs (zQ 1 (zn (aB (eY (α:=Nat×List UInt8) (fun x=>[1,2,3,4,5].zip [(Pt c 0),(St []),(N6 ((a.t.length:Nat))),(St x.2),(L6 x.1)]) (fun x=>U) (fun x=>[(bK c (tG a G D F K I J) 96)]) (fun x=>x.1≤a.t.length∧x.2=Itm.aE 4 a.t.length++Itm.aY ((a.t.take x.1).map fun n=>Itm.cA n.toNat)∧x.2.length≤9+9*x.1) (fun x=>a.t.length-x.1) (0,Itm.aE 4 a.t.length) ?_ ?_))))))
 ·exact⟨Ap _,by simp[Itm.aY],by show(Itm.aE 4 a.t.length).length≤_;omega⟩
 intro x hx;obtain⟨j2,q,j3⟩:=hx;refine zs (zB [0,0,1,0,0] [(c,1)] (zn (cE ((x.1:Int)<(a.t.length:Int)) (fun h0 b2=>?_) (fun h0 b2=>?_))))
 ·refine zk (zs (aB (zr (cG [0,0,1,0] [(c,1)] ?_))));obtain⟨f,A⟩:∃y,(a.t)[x.1]? =some y:=⟨(a.t)[x.1]'oW,Aa _⟩;obtain⟨Y,f1,rfl,b8⟩:=a1.one A;have j:=c4 f (Ad A);have c7:=Itm.aD 0 f.toNat;refine cD (Pt Y (f1+x.1)) (eQ _ 3 _ _ rfl Y f1 a.t.length K x.1 .i64 kR kR (by first|assumption|omega) kR kR) ?_;refine zV Y (f1+x.1) (I6 f) b8 3 (.tmp 25) _ Tryz.underlying3 rfl ?_;refine zq 1 (dS 27 (U6 (IntKind.u64.wrap f)) (N6 f.toNat) (Ag (Value.int .u64) (idU j)) ?_);refine cY 108 #[(I6 0),(N6 f.toNat)] (St (Itm.aE 0 f.toNat)) (fun W d=>aCs W rfl (by decide) (by have:=j;unfold W64;omega)) ?_;refine cD (St (x.2++(Itm.aE 0 f.toNat))) (cB _ _ _ _ rfl x.2 (Itm.aE 0 f.toNat) kR kR oA) ?_;refine zq 1 (zn (zr (zq 2 (eC 20 ((x.1:Int)+1) (zq 1 (zn ?_))))));refine nx (x.1+1,(x.2++(Itm.aE 0 f.toNat))) ?_ ?_
  ·exact⟨by show x.1+1≤a.t.length;omega,by show(x.2++(Itm.aE 0 f.toNat))=_;rw[dU (fun n:Int=>Itm.cA n.toNat) A,rS,aDU,q];simp only[Al],by show((x.2++(Itm.aE 0 f.toNat))).length≤_;rw[Ac];omega⟩
  ·show a.t.length-(x.1+1)<a.t.length-x.1;omega
 ·refine aK (zB [0,0,1,0] [(c,1)] (dS 33 (U6 (IntKind.u64.wrap a.c)) (N6 a.c.toNat) (Ag (Value.int .u64) e0) ?_));refine cY 108 #[(I6 0),(N6 a.c.toNat)] (St (Itm.aE 0 a.c.toNat)) (fun W d=>aCs W rfl (by decide) (by have:=O;unfold W64;omega)) ?_;refine cD (St (x.2++(Itm.aE 0 a.c.toNat))) (cB _ _ _ _ rfl x.2 (Itm.aE 0 a.c.toNat) kR kR oA) ?_;refine zq 1 (zn (zB [0,1] [(c,4)] (pO (fun W d=>pW a.s W d.view M.s h5) (fun v2 V2 N b5=>?_))));have k4:=a7.le N;have k5:=a8.le N;obtain⟨e3,rfl,V⟩:=b5;obtain⟨a2,c2,rfl,e2,j0,j1,e9⟩:=V.form;refine cY 109 #[(tV a.s.tree a2 c2)] (St (Itm.aG a.s.tree)) (fun W d=>gI 8 _ _ d.view V (jR 5 a.s) (by unfold aAL;unfold R47 at c9;omega)) ?_;refine zq 1 (zn ?_);refine dH (α:=List UInt8) (fun g=>[1,2,3,4].zip [(Pt c 0),(St []),(N6 ((a.t.length:Nat))),(St g)]) (fun g=>V2) (fun g=>[(bK c (tG a G D F K I J) 96)]) (fun g=>g=(x.2++Itm.aE 0 a.c.toNat)++(if a.p.length=0 then[0]++Itm.aG a.s.tree else([1]++Itm.aG a.s.tree)++Itm.aG (fV a.p))∧g.length≤90000000000000000) ?_ ?_
  ·refine zB [0,1,0,0] [(c,1)] (zn (cE ((a.p.length:Int)>0) (fun h1 b3=>?_) (fun h1 b3=>?_)))
   ·refine zr (zq 2 (cD (St ([1]++(Itm.aG a.s.tree))) (cB _ _ _ _ rfl [1] (Itm.aG a.s.tree) kR kR oA) ?_));refine cG [0,1] [(c,1)] (cY 111 #[(.slice D a.p.length I)] (St (Itm.aG (fV a.p))) (fun W d=>aEq a.p _ _ W d.view k4 oW h7) ?_);refine cD (St (([1]++(Itm.aG a.s.tree))++(Itm.aG (fV a.p)))) (cB _ _ _ _ rfl ([1]++(Itm.aG a.s.tree)) (Itm.aG (fV a.p)) kR kR oA) ?_;refine cD (St ((x.2++(Itm.aE 0 a.c.toNat))++(([1]++(Itm.aG a.s.tree))++(Itm.aG (fV a.p))))) (cB _ _ _ _ rfl (x.2++(Itm.aE 0 a.c.toNat)) (([1]++(Itm.aG a.s.tree))++(Itm.aG (fV a.p))) kR kR oA) ?_;refine zq 1 (zn ?_);refine jn ((x.2++(Itm.aE 0 a.c.toNat))++(([1]++(Itm.aG a.s.tree))++(Itm.aG (fV a.p)))) ?_;exact⟨by rw[An oW],by simp only[Ac,Ah,Bd];omega⟩
   ·refine zr (zq 2 (cD (St ([0]++(Itm.aG a.s.tree))) (cB _ _ _ _ rfl [0] (Itm.aG a.s.tree) kR kR oA) ?_));refine cD (St ((x.2++(Itm.aE 0 a.c.toNat))++([0]++(Itm.aG a.s.tree)))) (cB _ _ _ _ rfl (x.2++(Itm.aE 0 a.c.toNat)) ([0]++(Itm.aG a.s.tree)) kR kR oA) ?_;refine zq 1 (zn ?_);refine jn ((x.2++(Itm.aE 0 a.c.toNat))++([0]++(Itm.aG a.s.tree))) ?_;exact⟨by rw[Ar oW],by simp only[Ac,Ah,Bd];omega⟩
  intro g e1;obtain⟨X,j6⟩:=e1;refine zQ 2 (cY 108 #[(I6 4),(N6 ((a.t.length:Nat)))] (St (Itm.aE 4 a.t.length)) (fun W d=>aCs W rfl (by decide) (by unfold W64;omega)) ?_);refine cD (St (g++(Itm.aE 4 a.t.length))) (cB _ _ _ _ rfl g (Itm.aE 4 a.t.length) kR kR oA) ?_;refine zq 1 (zn (zs (zQ 1 (zn (aB (eY (α:=Nat×List UInt8) (fun z=>[1,2,4,7].zip [(Pt c 0),(St []),(St z.2),(L6 z.1)]) (fun z=>V2) (fun z=>[(bK c (tG a G D F K I J) 96)]) (fun z=>z.1≤a.r.length∧z.2=(g++(Itm.aE 4 a.t.length))++Itm.aY ((a.r.take z.1).map fV)∧z.2.length≤100000000000000000+20000000000000000*z.1) (fun z=>a.r.length-z.1) (0,(g++(Itm.aE 4 a.t.length))) ?_ ?_))))))
  ·exact⟨Ap _,by simp[Itm.aY],by show((g++(Itm.aE 4 a.t.length))).length≤_;simp only[Ac,Ah,Bd];omega⟩
  intro z hz;obtain⟨j4,r,j5⟩:=hz;refine zs (zB [0,0,1,0,0] [(c,1)] (zn (cE ((z.1:Int)<(a.r.length:Int)) (fun L b4=>?_) (fun L b4=>?_))))
  ·refine zk (zs (aB (zr (cG [0,0,1,0] [(c,1)] ?_))));obtain⟨y6,C⟩:∃y,(a.r)[z.1]? =some y:=⟨(a.r)[z.1]'oW,Aa _⟩;obtain⟨Z,f6,e4,rfl,b9,b7⟩:=k5.at_ z.1 y6 C;obtain⟨a6,c6,rfl,c8⟩:=b7;have c0:=View.range1 b9;have u:=c1 y6 (Ad C);refine cD (Pt Z (f6+z.1)) (eQ _ 93 _ _ rfl Z f6 a.r.length J z.1 .i64 kR kR (by first|assumption|omega) kR kR) ?_;refine zV Z (f6+z.1) (.slice a6 y6.length c6) c0 93 (.tmp 71) _ Tryz.underlying93 rfl ?_;refine cY 111 #[(.slice a6 y6.length c6)] (St (Itm.aG (fV y6))) (fun W d=>aEq y6 _ _ W d.view c8 oW u.2.1) ?_;refine cD (St (z.2++(Itm.aG (fV y6)))) (cB _ _ _ _ rfl z.2 (Itm.aG (fV y6)) kR kR oA) ?_;refine zq 1 (zn (zr (zq 2 (eC 66 ((z.1:Int)+1) (zq 1 (zn ?_))))));refine nx (z.1+1,(z.2++(Itm.aG (fV y6)))) ?_ ?_
   ·exact⟨by show z.1+1≤a.r.length;omega,by show(z.2++(Itm.aG (fV y6)))=_;rw[dU fV C,rS,r];simp only[Al],by show((z.2++(Itm.aG (fV y6)))).length≤_;rw[Ac];omega⟩
   ·show a.r.length-(z.1+1)<a.r.length-z.1;omega
  ·refine aK (zQ 2 (zn (aA (aO [2] [(St z.2)] (fun W' d=>?_)))));refine⟨?_,d.below⟩;rw[Bf oW]at r q;rw[show a.bytes=z.2 from by
    by_cases E:a.p.length=0
    ·rw[aBY E h8,r,X,Ar E,q]
    ·rw[aBX E h8,r,X,An E,q]]
   rfl
theorem aEp(a:As)(h f g:Option Addr)(r k q:Nat)(w:World){U:View}(E:See U w)(d:aAK U h f g a)(u:a.t.length≤1000000∧a.p.length≤1000000∧∀l∈a.r,l.length≤1000000):CP 151 #[asV a h f g r k q] w (Ret (.bool a.right) w):=by
 have B:=d.t;have C:=d.p;have D:=d.r;have y:decide (a.bytes.length≤4000)=decide ((a.bytes.length:Int)≤4000):=Dl.2 oW;refine dE 11 Tryz.func151 E ?_;refine zs (zr (aW (fun x=>(zq 1 (zn (zB [1] [(x,8)] (cY 200 #[(asV a h f g r k q)] (.bool (cV a)) (fun W c=>aFL a _ _ _ _ _ _ W c.view d u) ?_)))))));refine zq 1 (cN 5 (cV a) (fun j=>?_) (fun j=>?_))
 ·refine cG [1] [(x,8)] (cY 55 #[(asV a h f g r k q)] (St a.bytes) (fun W c=>pX a _ _ _ _ _ _ W c.view d j) ?_);refine zq 4 (zn (aA (aO [2] [(.bool (decide ((((a.bytes).length:Nat):Int)≤4000)))] (fun A c=>?_))));refine⟨?_,c.below⟩;unfold As.right;rw[y];simp only[dC,j,bs,bQ,reduceIte]
 ·refine zq 6 (zn (aA (aO [2] [(.bool false)] (fun A c=>?_))));refine⟨?_,c.below⟩;unfold As.right;rw[y];simp only[dC,j,bs,bQ,reduceIte]
section
variable {P:Program} {n:Nat} {W0:Cx} {U:View} {σ:aN} {ops:Array Oper} {ds ks:List Nat} {tv vs:List Sq} {s:aZ} {i:Nat} {v:Value} {Φ:Value→View→Prop}
theorem wVg(f : FuncId)(c : (Nat → Value) → Array Value)(h : ∀ (u : Nat → Value) (V : View), View.le U V → aLq ops ks tv u V i → ∀ W, (∀ a v, V a = some v → W.cell? a = some v) → Calls P f (c u) W (Ret v W))
  (B:ops[i]? =some (iC ops i):=by rfl) (D:∀u,cU ops (iP ops ds vs u i++aV s ds) (iC ops i)=some true:=by intro u;kernel_rfl) (A:∀u,enters P (iP ops ds vs u i++aV s ds) (iC ops i)=some (f,c u):=by intro u;kernel_rfl):Oqw P n W0 U σ ops ds ks tv vs s i (.val v):=
 fun C d=>Oq.op i B _ d fun u V r y=>by
  refine⟨D u,fun a W x g Q K q=>?_⟩;unfold Oper.wp;rw[fE x (A u)];refine(h u V r (pB C y) W g.view).mono ?_;rintro _ k ⟨rfl,j⟩;exact q v k (g.call j) rfl j
theorem wMg(f : FuncId)(c : (Nat → Value) → Array Value)(h : ∀ (u : Nat → Value) (V : View), View.le U V → aLq ops ks tv u V i → ∀ W, (∀ a v, V a = some v → W.cell? a = some v) → Calls P f (c u) W (fO W V Φ))
  (E:ops[i]? =some (iC ops i):=by rfl) (I:∀u,cU ops (iP ops ds vs u i++aV s ds) (iC ops i)=some true:=by intro u;kernel_rfl) (D:∀u,enters P (iP ops ds vs u i++aV s ds) (iC ops i)=some (f,c u):=by intro u;kernel_rfl):Oqw P n W0 U σ ops ds ks tv vs s i (.mem Φ):=
 fun d k=>Oq.op i E _ k fun u V A C=>by
  refine⟨I u,fun a W B g Q K y=>?_⟩;unfold Oper.wp;rw[fE B (D u)];refine(h u V A (pB d C) W g.view).mono ?_;rintro _ x ⟨v,r,rfl,j,d,G,F,q⟩;exact y v x (g.call j) ⟨r,d,g.retN j d G F,q⟩ j
end
theorem aIG{t u:Itm.Tr}(f:Itm.aJ 8 t=true)(g:Itm.aJ 8 u=true)(j:Itm.NOk t)(k:Itm.NOk u)(c:(Itm.aG t).length≤1073741824)(h:Itm.aG u=Itm.aG t):t=u:=by
 have d:=lW 8 t [] f j c;have a:=lW 8 u [] g k (by rw[h];exact c);rw[h,d]at a;simp only[Ab,Am]at a;exact a.1
theorem aOj{t:Itm.Tr}{m:Ei}{cs:List Value}{U:View}(d:TV U t cs)(a:Itm.aJ 8 t=true)(hm:aI m=true)(c:m.ok)(g:Itm.szT t≤1000000)(h:Itm.aG m.tree=Itm.aG t):ofE t=some m:=by
 have f:=Itm.cI t;obtain rfl:=aIG a (iJ m 5) d.nok (aJ3 c) oW h;exact aDu hm a
theorem aMf{m:Itm.Nm}(h:m.right=true):(⟨(m.s:Int),m.l,m.n,m.v⟩:Ei).tree=m.tree:=by
 obtain⟨s,l,n,v⟩:=m;have c:=Itm.aEd h;simp only at c ⊢;unfold Ei.tree Itm.Nm.tree Itm.aIe Itm.aLx;rcases c with rfl|rfl
 ·by_cases a:l=[110,111,110,101]
  ·subst a;rfl
  ·have d:(l==[110,111,110,101])=false:=Ai.2 a;simp only[d,a];rfl
 ·rfl
theorem aPM{t x y:Itm.Tr}(g:t.l=[x,y])(L:List Ei)(f:(Itm.mU y).map (fun m=>(⟨(m.s:Int),m.l,m.n,m.v⟩:Ei))=L)(h:∀m∈L,(aI m&&(Itm.aG m.tree==Itm.aG t))=false):ofE t=none:=by
 unfold ofE;by_cases d:Itm.OfP t (Itm.iB t)
 ·exfalso;obtain⟨a,k,c⟩:=d;have j:=Itm.aJ8 g a c;have:=h _ (f▸List.mem_map_of_mem j);rw[show aI (⟨((Itm.iB t).s:Int),(Itm.iB t).l,(Itm.iB t).n,(Itm.iB t).v⟩:Ei)=true from a,aMf a,←c]at this;simp at this
 ·rw[An d]
theorem aJY{t:Itm.Tr}(h:Itm.aJ 8 t=false∨t.l.length≠2):ofE t=none:=by
 unfold ofE;rw[An];rintro⟨d,a,c⟩;rcases h with h|h
 ·rw[a]at h;cases h
 ·rw[c]at h;exact h rfl
theorem aPc{y p q:Itm.Tr}(h:y.l.length=2)(a:y.l[0]? =some p)(c:y.l[1]? =some q):(Itm.mU y).map (fun m=>(⟨(m.s:Int),m.l,m.n,m.v⟩:Ei))=[⟨1,[110,111,110,101],0,0⟩,⟨1,y.s,0,0⟩,⟨2,[],p.n,q.n⟩]:=by
 unfold Itm.mU;rw[iE h a c];rfl
theorem aPd{y:Itm.Tr}(h:¬y.l.length=2):(Itm.mU y).map (fun m=>(⟨(m.s:Int),m.l,m.n,m.v⟩:Ei))=[⟨1,[110,111,110,101],0,0⟩,⟨1,y.s,0,0⟩]:=by
 rw[Itm.aI6 h];rfl
def EiR(_:View)(e:Ei)(cs:List Value):Prop:=cs=e.cs
instance eiR:RecOk EiR 4:=⟨fun _ h=>h,fun h=>by rw[h];rfl,fun h u hu=>by
 rw[h]at hu;simp only[Ei.cs,Bh,Bt,Ct]at hu;rcases hu with rfl|rfl|rfl|rfl<;>rfl⟩
noncomputable def aGA(t:Itm.Tr):Value:=match ofE t with
 |some x=>.tuple #[x.V,.int .i64 0]
 |none=>.tuple #[(⟨0,[],0,0⟩:Ei).V,.int .i64 2]
theorem aGZ(t:Itm.Tr)(a:Option Addr)(c:Nat)(w:World){U:View}(hU:See U w)(ht:TV U t ([.int .i64 t.k,.int .u64 (t.n:Int),.string (B t.s),.slice a t.l.length c,.bool t.o]))(m7:eZ U a t.l)(hn:t.n<W64)(m3:Itm.szT t≤1000000):CP 149 #[.agg ([.int .i64 t.k,.int .u64 (t.n:Int),.string (B t.s),.slice a t.l.length c,.bool t.o]).toArray] w (Ret (aGA t) w):=by
 refine dE 73 Tryz.func149 hU ?_;refine zs (zr (aW (fun N=>(aW (fun E=>(zq 1 (zn (zs (zB [1] [(N,5)] (cY 199 #[(tV t a c)] (.bool (Itm.aJ 8 t)) (fun W F=>Itm.rL t _ W ((ht).toTAt F.view)) ?_))))))))));refine zq 2 (cN 10 (!(Itm.aJ 8 t)) (fun h0=>?_) (fun h0=>?_))
 ·refine zq 5 (zn (dP (zQ 1 (aX 1 E (zq 1 (zn (aA (dL [2,0] [(E,4)] [(.agg #[(I6 0),(St []),(U6 0),(U6 0)]),(I6 2)] (fun W' F=>?_)))))))));refine⟨?_,F.below⟩;unfold aGA;rw[aJY (.inl (by simpa using h0))];rfl
 ·refine cG [0,1,0,0,0] [(N,1)] (zn (jD (t.l.length:Int) 2 (fun h1 l3=>?_) (fun h1 l3=>?_)))
  ·refine zQ 1 (aX 1 E (zq 1 (zn (aA (dL [2,0] [(E,4)] [(.agg #[(I6 0),(St []),(U6 0),(U6 0)]),(I6 2)] (fun W' F=>?_))))));refine⟨?_,F.below⟩;unfold aGA;rw[aJY (.inr oW)];rfl
  ·refine zk (zs (zr ?_));have k2:Itm.aJ 8 t=true:=by simpa using h0
   refine cG [0,1] [(N,1)] ?_;obtain⟨q,k6⟩:∃y,(t.l)[1]? =some y:=⟨(t.l)[1]'oW,Aa _⟩;obtain⟨b2,f2,p4,rfl,l7,m4⟩:=m7.at_ 1 q k6;obtain⟨a2,c2,rfl,c8,q1,k4,p8⟩:=m4.form;refine cD (Pt b2 (f2+1*5)) (rIx 89 rfl b2 f2 t.l.length c 1 5) ?_;refine zU b2 (f2+1*5) (tC q a2 c2) l7 89 (.tmp 19) _ Tryz.underlying89 rfl ?_;refine aW (fun b3=>(aX 2 b3 (zn (zQ 1 (zn (zB [0,0,0,3,0] [(b3,1)] (aW (fun b4=>?_))))))));refine gW Rw.nil [] 0 [(bK N [(I6 t.k),(N6 t.n),(St t.s),(Sl b2 f2 t.l.length c),(.bool t.o)] 89),(E,.cells [(I6 0),(St []),(U6 0),(U6 0)].toArray 24 (0,0)),(bK b3 (tC q a2 c2) 89),(b4,.cells [(I6 1),(St [110,111,110,101]),(U6 0),(U6 0),(I6 1),(St q.s),(U6 0),(U6 0)].toArray 24 (0,0))] 24 267 4 40 2 aQ6 (Rw.ok_nil 4) (.tmp 21) (.tmp 26) rfl kR b4 0 2 [(I6 1),(St [110,111,110,101]),(U6 0),(U6 0),(I6 1),(St q.s),(U6 0),(U6 0)] kR (fun W F=>eF F 3 b4 [(I6 1),(St [110,111,110,101]),(U6 0),(U6 0),(I6 1),(St q.s),(U6 0),(U6 0)] 24 kR) rfl (Ao.1 kR) (by decide) (by unfold maxLen;omega) oW kR kR kR kR kR (fun r5 k1=>?_);refine zq 1 (zn ?_);refine dH (α:=Gp Ei) (fun k=>[1,2,3,5].zip [(Pt N 0),(Pt E 0),(I6 0),(k.r.V k.i)]) (fun k=>k.V) (fun k=>([(bK N [(I6 t.k),(N6 t.n),(St t.s),(Sl b2 f2 t.l.length c),(.bool t.o)] 89),(E,.cells [(I6 0),(St []),(U6 0),(U6 0)].toArray 24 (0,0)),(bK b3 (tC q a2 c2) 89),(b4,.cells [(I6 1),(St [110,111,110,101]),(U6 0),(U6 0),(I6 1),(St q.s),(U6 0),(U6 0)].toArray 24 (0,0))]++k.r.B 24 k.xs)) (fun k=>View.le U k.V∧RwR EiR 4 k.V k.r k.xs k.i k.L∧(Itm.mU q).map (fun m=>(⟨(m.s:Int),m.l,m.n,m.v⟩:Ei))=k.L.map Prod.fst∧∀m∈k.L.map Prod.fst,m.ok) ?_ ?_
   ·refine zB [0,3,0,0] [(b3,1)] (zn (fQ (q.l.length:Int) 2 (fun h2 l4=>?_) (fun h2 l4=>?_)))
    ·obtain⟨y6,k7⟩:∃y,(q.l)[0]? =some y:=⟨(q.l)[0]'oW,Aa _⟩;obtain⟨b6,f6,p5,rfl,l8,m5⟩:=c8.at_ 0 y6 k7;obtain⟨a6,c6,rfl,o8,m1,q2,p9⟩:=m5.form;obtain⟨y7,k8⟩:∃y,(q.l)[1]? =some y:=⟨(q.l)[1]'oW,Aa _⟩;obtain⟨b7,f7,p6,e7,l9,m6⟩:=c8.at_ 1 y7 k8;obtain⟨a7,c7,rfl,o9,m2,q3,q0⟩:=m6.form;cases e7;refine mB 6 [0,0,5,1,0,1,0,5,1,0,1,0,1] [(b3,1),(b3,1)] [.val (Pt b6 (f6+0*5)),.val (N6 y6.n),.val (Pt b6 (f6+1*5)),.val (N6 y7.n),.mem (fun v V=>∃g,v=(Sl g 0 1 1)∧V.range g 0 [(I6 2),(St []),(N6 y6.n),(N6 y7.n)])] (by simp only[Bc];exact⟨trivial,trivial,trivial,trivial,by intro v V V2 J I;(first|trivial|exact PhiMono.go I J|(obtain⟨cs,e,I⟩:=I;exact⟨cs,e,I.le J⟩)|(obtain⟨g,e,I⟩:=I;exact⟨g,e,View.range_le J I⟩)),fun _ h=>by cases h⟩) ⟨?_,?_,?_,?_,?_,trivial⟩ ?_
     ·exact wR (fun u=>lR _ 89 _ _ rfl b6 f6 q.l.length c2 0 5 .i64 kR kR (by first|assumption|omega) kR kR)
     ·exact wU1 b6 (f6+0*5+1) (l8 1 _ rfl) 22 _ _ Tryz.underlying22 rfl
     ·exact wR (fun u=>lR _ 89 _ _ rfl b6 f6 q.l.length c2 1 5 .i64 kR kR (by first|assumption|omega) kR kR)
     ·exact wU1 b6 (f6+1*5+1) (l9 1 _ rfl) 22 _ _ Tryz.underlying22 rfl
     ·refine wN [43] (fun u=>[(.agg #[(I6 2),(St []),(N6 y6.n),(N6 y7.n)])]) fun u V hV b5=>?_
      refine⟨[(I6 2),(St []),(N6 y6.n),(N6 y7.n)],24,fun r=>(Sl r 0 1 1),?_,fun g V' p7 hR=>?_⟩
      ·kernel_rfl
      exact⟨g,rfl,hR⟩
     intro u8 V8 m0 j7;have e2:=j7 12 rfl;obtain⟨l2,h7,h8⟩:=e2;refine qX 44 h7 ?_;refine lN 4 24 267 40 1 1 k1 (fun W F=>View.range_of h8 F.view) rfl (Ao.1 kR) (by decide) (fun o0 k0=>?_);refine zq 1 (zn ?_);refine jn ⟨3,o0,(([]++[(I6 1),(St [110,111,110,101]),(U6 0),(U6 0),(I6 1),(St q.s),(U6 0),(U6 0)])++[(I6 2),(St []),(N6 y6.n),(N6 y7.n)]),[((⟨1,[110,111,110,101],0,0⟩:Ei),(⟨1,[110,111,110,101],0,0⟩:Ei).cs),((⟨1,q.s,0,0⟩:Ei),(⟨1,q.s,0,0⟩:Ei).cs),((⟨2,[],y6.n,y7.n⟩:Ei),(⟨2,[],y6.n,y7.n⟩:Ei).cs)],V8⟩ ?_;exact⟨m0,⟨k0,rfl,rfl,⟨rfl,rfl,rfl,trivial⟩⟩,(aPc oW k7 k8),fun m hm=>by
      simp only[Cf,Dz,Bh,Bt,Ct]at hm;rcases hm with rfl|rfl|rfl
      ·exact⟨(by decide),(by decide),(by decide)⟩
      ·exact⟨k4,(show(0:Nat)<W64 by decide),(show(0:Nat)<W64 by decide)⟩
      ·exact⟨(show(0:Nat)≤R47 by decide),m1,m2⟩⟩
    ·refine zk ?_;refine jn ⟨2,r5,([]++[(I6 1),(St [110,111,110,101]),(U6 0),(U6 0),(I6 1),(St q.s),(U6 0),(U6 0)]),[((⟨1,[110,111,110,101],0,0⟩:Ei),(⟨1,[110,111,110,101],0,0⟩:Ei).cs),((⟨1,q.s,0,0⟩:Ei),(⟨1,q.s,0,0⟩:Ei).cs)],U⟩ ?_;exact⟨View.le_refl _,⟨k1,rfl,rfl,⟨rfl,rfl,trivial⟩⟩,(aPd oW),fun m hm=>by
      simp only[Cf,Dz,Bh,Bt,Ct]at hm;rcases hm with rfl|rfl
      ·exact⟨(by decide),(by decide),(by decide)⟩
      ·exact⟨k4,(show(0:Nat)<W64 by decide),(show(0:Nat)<W64 by decide)⟩⟩
   intro k e6;obtain⟨n1,e9,h6,e8⟩:=e6;have n2:k.i=(k.L.map Prod.fst).length:=by rw[Az];exact e9.m
   refine zs (zs (zr ?_));refine sE 5 k.r k.xs 4 k.i [(bK N [(I6 t.k),(N6 t.n),(St t.s),(Sl b2 f2 t.l.length c),(.bool t.o)] 89),(E,.cells [(I6 0),(St []),(U6 0),(U6 0)].toArray 24 (0,0)),(bK b3 (tC q a2 c2) 89),(b4,.cells [(I6 1),(St [110,111,110,101]),(U6 0),(U6 0),(I6 1),(St q.s),(U6 0),(U6 0)].toArray 24 (0,0))] 24 kR e9.ok kR (fun e0 G j1 c0 j3 o4=>?_);have n5:=(ht.le n1).le c0;have n7:=e9.le c0;have q5:k.i≤3:=by have:=Itm.aI7 q;have h9:=Ag List.length h6;rw[Az]at h9;omega
   have O:=n7.done (by decide) j3 (View.le_refl _) (by unfold R47;omega);obtain⟨L9,l6⟩:∃L,k.L.map Prod.fst=L:=⟨_,rfl⟩;rw[l6]at O h6 e8 n2;refine zq 1 (zn (aB (eY (α:=Nat) (fun x=>[1,2,3,5,6].zip [(Pt N 0),(Pt E 0),(I6 0),(.slice e0 k.i G),(L6 x)]) (fun x=>j1) (fun x=>[(bK N [(I6 t.k),(N6 t.n),(St t.s),(Sl b2 f2 t.l.length c),(.bool t.o)] 89),(E,.cells [(I6 0),(St []),(U6 0),(U6 0)].toArray 24 (0,0)),(bK b3 (tC q a2 c2) 89),(b4,.cells [(I6 1),(St [110,111,110,101]),(U6 0),(U6 0),(I6 1),(St q.s),(U6 0),(U6 0)].toArray 24 (0,0))]) (fun x=>x≤k.i∧∀i,i<x→∀m,L9[i]? =some m→(aI m&&(Itm.aG m.tree==Itm.aG t))=false) (fun x=>k.i-x) 0 ?_ ?_)))
   ·exact⟨Ap _,fun i h=>absurd h oW⟩
   intro x hx;obtain⟨q4,k5⟩:=hx;refine zs (zQ 4 (zn (cE ((x:Int)<(k.i:Int)) (fun h3 l5=>?_) (fun h3 l5=>?_))))
   ·refine zk (zs (aB ?_));refine dH (α:=Bool) (fun b9=>[1,2,3,5,6,46,47,48,49,67].zip [(Pt N 0),(Pt E 0),(I6 0),(.slice e0 k.i G),(L6 x),(L6 x),(.slice e0 k.i G),(L6 k.i),(.bool (decide ((x:Int)<(k.i:Int)))),(.bool b9)]) (fun b9=>j1) (fun b9=>[(bK N [(I6 t.k),(N6 t.n),(St t.s),(Sl b2 f2 t.l.length c),(.bool t.o)] 89),(E,.cells [(I6 0),(St []),(U6 0),(U6 0)].toArray 24 (0,0)),(bK b3 (tC q a2 c2) 89),(b4,.cells [(I6 1),(St [110,111,110,101]),(U6 0),(U6 0),(I6 1),(St q.s),(U6 0),(U6 0)].toArray 24 (0,0))]) (fun b9=>∃m,L9[x]? =some m∧b9=(aI m&&(Itm.aG m.tree==Itm.aG t))) ?_ ?_
    ·obtain⟨f,M⟩:∃y,(L9)[x]? =some y:=⟨(L9)[x]'oW,Aa _⟩;obtain⟨C,D,o2,rfl,X,j4⟩:=O.at_ x f M;obtain rfl:=j4;have K:=e8 f (Ad M);rcases Ax (aI f)with h4|h4
     ·refine mB 5 [0,0,1,1,1,0,0,0,1,1,1,1,3] [(N,5)] [.val (Pt C (D+x*4)),.val (.agg #[(I6 f.s),(St f.l),(N6 f.n),(N6 f.v)]),.val (.bool true),.val (Pt C (D+x*4)),.val (.agg #[(I6 f.s),(St f.l),(N6 f.n),(N6 f.v)]),.mem (oQ f.tree),.val (St (Itm.aG f.tree))] (by simp only[Bc];refine⟨?_,?_,?_,?_,?_,?_,?_,fun _ h=>by cases h⟩<;>first|trivial|(intro v V V2 J I;(first|trivial|exact PhiMono.go I J|(obtain⟨cs,e,I⟩:=I;exact⟨cs,e,I.le J⟩)|(obtain⟨g,e,I⟩:=I;exact⟨g,e,View.range_le J I⟩)))) ⟨?_,?_,?_,?_,?_,?_,?_,trivial⟩ ?_
      ·exact wR (fun u=>lR _ 24 _ _ rfl C D k.i G x 4 .i64 kR kR (by first|assumption|omega) kR kR)
      ·exact wU C (D+x*4) [(I6 f.s),(St f.l),(N6 f.n),(N6 f.v)] X 24 _ _ Tryz.underlying24 rfl
      ·refine wV 116 (fun u=>#[(.agg #[(I6 f.s),(St f.l),(N6 f.n),(N6 f.v)])]) fun u V hV b5 W hW=>?_
       exact(by have Y:=qN f W K.l;rw[h4]at Y;exact Y)
      ·exact wR (fun u=>lR _ 24 _ _ rfl C D k.i G x 4 .i64 kR kR (by first|assumption|omega) kR kR)
      ·exact wU C (D+x*4) [(I6 f.s),(St f.l),(N6 f.n),(N6 f.v)] X 24 _ _ Tryz.underlying24 rfl
      ·refine wMg 110 (fun u=>#[(.agg #[(I6 f.s),(St f.l),(N6 f.n),(N6 f.v)])]) fun u V hV b5 W hW=>?_
       exact pW f W hW K h4
      ·refine wVg 109 (fun u=>#[u 10]) fun u V hV b5 W hW=>?_
       have l1:=b5 10 kR rfl;obtain⟨o1,n9,c4⟩:=l1;obtain⟨p2,p3,rfl,m8,o6,o7,o5⟩:=c4.form;rw[n9];exact gI 8 _ _ hW c4 (iJ f 5) (by have:=fS h4;unfold aAL;omega)
      intro q6 p1 c1 e5;have n8:=n5.le c1;have a1:=e5 10 rfl;obtain⟨j2,b8,Z⟩:=a1;obtain⟨k9,l0,rfl,j0,j9,k3,j8⟩:=Z.form;refine qX 62 b8 ?_;refine cY 109 #[(.agg #[(I6 t.k),(N6 t.n),(St t.s),(Sl b2 f2 t.l.length c),(.bool t.o)])] (St (Itm.aG t)) (fun W F=>gI 8 _ _ F.view n8 k2 (by unfold aAL;omega)) ?_;refine cD (.bool ((Itm.aG f.tree)==(Itm.aG t))) (iR _ _ _ _ rfl (Itm.aG f.tree) (Itm.aG t) kR kR) ?_;refine zq 1 (zn ?_);refine jn ((Itm.aG f.tree)==(Itm.aG t)) ?_ (d:=fun _ h=>(h.weak c1).eqv kR);exact⟨f,M,by rw[h4];rfl⟩
     ·refine iM 5 [0,0,1,1,1,0,2,2,2,2,2,2,2] [] [.val (Pt C (D+x*4)),.val (.agg #[(I6 f.s),(St f.l),(N6 f.n),(N6 f.v)]),.val (.bool false)] ⟨?_,?_,?_,trivial⟩ ?_
      ·exact vR (rIx 24 rfl C D k.i G x 4)
      ·exact vU C (D+x*4) [(I6 f.s),(St f.l),(N6 f.n),(N6 f.v)] X 24 _ _ Tryz.underlying24 rfl
      ·exact vC 116 #[(.agg #[(I6 f.s),(St f.l),(N6 f.n),(N6 f.v)])] (fun W F=>(by have Y:=qN f W K.l;rw[h4]at Y;exact Y))
      refine zq 3 (zn ?_);refine jn false ?_;exact⟨f,M,by rw[h4];rfl⟩
    intro b9 a8;obtain⟨m9,K,a8⟩:=a8;refine gN b9 (fun h5=>?_) (fun h5=>?_)
    ·refine zQ 2 ?_;obtain⟨A,c9⟩:∃y,(L9)[x]? =some y:=⟨(L9)[x]'oW,Aa _⟩;obtain⟨e1,e3,o3,rfl,j6,j5⟩:=O.at_ x A c9;obtain rfl:=j5;refine cD (Pt e1 (e3+x*4)) (rIx 24 rfl e1 e3 k.i G x 4) ?_;refine zU e1 (e3+x*4) [(I6 A.s),(St A.l),(N6 A.n),(N6 A.v)] j6 24 (.tmp 70) _ Tryz.underlying24 rfl ?_;refine aX 1 E (zq 1 (zn (aA (dL [2,0] [(E,4)] [(.agg #[(I6 A.s),(St A.l),(N6 A.n),(N6 A.v)]),(I6 0)] (fun W' F=>?_)))));obtain rfl:m9=A:=Bs (K.symm.trans c9);have e4:=a8.symm.trans h5;rw[Ae]at e4;refine⟨?_,F.below⟩;unfold aGA;rw[aOj ht k2 e4.1 (e8 _ (Ad K)) m3 (eq_of_beq e4.2)];rfl
    ·refine zk (zr (zq 2 (eC 51 ((x:Int)+1) (zq 1 (zn ?_)))));refine nx (x+1) ?_ ?_
     ·exact⟨by omega,lU (P:=fun _ m=>(aI m&&(Itm.aG m.tree==Itm.aG t))=false) K k5 (a8.symm.trans h5)⟩
     ·show k.i-(x+1)<k.i-x;omega
   ·refine aK (zQ 1 (aX 1 E (zq 1 (zn (aA (dL [2,0] [(E,4)] [(.agg #[(I6 0),(St []),(U6 0),(U6 0)]),(I6 2)] (fun W' F=>?_)))))));obtain⟨x9,n0⟩:∃x,t.l[0]? =some x:=⟨t.l[0]'oW,Aa _⟩;have e6:ofE t=none:=aPM (iE oW n0 k6) _ h6 (fun m hm=>by
     obtain⟨j,hj⟩:=Ev hm;exact tU (P:=fun _ m=>(aI m&&(Itm.aG m.tree==Itm.aG t))=false) oW k5 j m hj)
    refine⟨?_,F.below⟩;unfold aGA;rw[e6];rfl
theorem aLX{t:Itm.Tr}{x:Ei}(q:ofE t=some x)(cs:List Value)(w:World){U:View}(j:See U w)(h:TV U t cs)(f:Itm.szT t≤1000000):CP 149 #[.agg cs.toArray] w (Ret (.tuple #[x.V,.int .i64 0]) w):=by
 obtain⟨a,c,rfl,g,k,u,r⟩:=h.form;have d:=aGZ t a c w j h g k f;unfold aGA at d;rw[q]at d;exact d
theorem aLY{t:Itm.Tr}(q:ofE t=none)(cs:List Value)(w:World){U:View}(j:See U w)(h:TV U t cs)(f:Itm.szT t≤1000000):CP 149 #[.agg cs.toArray] w (Ret (.tuple #[(⟨0,[],0,0⟩:Ei).V,.int .i64 2]) w):=by
 obtain⟨a,c,rfl,g,k,u,r⟩:=h.form;have d:=aGZ t a c w j h g k f;unfold aGA at d;rw[q]at d;exact d
theorem aD5{d : Nat}(a : ∀ t, Itm.aJ d t = true → Itm.szT t ≤ (Itm.aG t).length) : ∀ l : List Itm.Tr, (∀ x ∈ l, Itm.aJ d x = true) → Itm.szL l ≤ (Itm.aY l).length
 | [],_=>by simp[Itm.szL]
 |x::l,h=>by
  have f:=a x (h x Ck);have g:=aD5 a l fun y c=>h y (Ce _ c)
  rw[Itm.szL,Itm.aY,Ac];omega
theorem aD4 : ∀ (d : Nat) (t : Itm.Tr), Itm.aJ d t = true → Itm.szT t ≤ (Itm.aG t).length
 |0,t,h=>by cases h
 |d+1,.mk k n s l o,h=>by
  rw[Itm.aJ,Ae,Ao]at h;have j:=aD5 (aD4 d) l h.2;have q:=(Itm.aD 0 n).1;have r:=(Itm.aD 4 l.length).1;rw[Itm.szT];rcases Itm.lG h.1 with⟨a,c,f,g⟩|⟨a,c,f,g⟩|⟨a,c,f,g⟩|⟨a,c,f,g⟩<;>simp only[Itm.Tr.k,Itm.Tr.n,Itm.Tr.s,Itm.Tr.l,Itm.Tr.o]at a c f g
  ·obtain rfl:=Be.1 f;subst a c g;rw[Itm.lZ,Itm.szL];simp only[Bd];omega
  ·obtain rfl:=Be.1 f;subst a c g;have:=(Itm.aD 2 s.length).1;rw[Itm.oM,Itm.szL,Ac];omega
  ·obtain rfl:=Be.1 f;subst a c g;have:=(Itm.aD 3 s.length).1;rw[Itm.oL,Itm.szL,Ac];omega
  ·subst a c f;cases o with
   |true=>
    rw[Itm.oN];simp only[Ah,Ac,Bd];omega
   |false=>
    rw[Itm.iD,Ac];simp only[Bd];omega
def ItW(n:Nat)(t:Itm.Tr):Prop:=Itm.aJ 8 t=true∧Itm.szT t≤n
theorem aNj : ∀ (n : Nat) (s : List UInt8) (l : List Itm.Tr), aCM n s = some l → ∀ x ∈ l, ItW s.length x
 |0,s,l,h,x,a=>by
  rw[aCM]at h;obtain rfl:=Bs h;cases a
 |n+1,s,l,h,x,a=>by
  rw[aCM]at h;split at h
  ·obtain rfl:=Bs h;cases a
  ·split at h
   ·cases h
   ·next t k j=>
    split at h
    ·cases h
    ·next ts f=>
     obtain rfl:=Bs h;rcases Bh.1 a with rfl|a
     ·obtain⟨⟨c,_⟩,d⟩:=sS 8 s x k j;have g:=aD4 8 x c;rw[d,Bb]at g;exact⟨c,by omega⟩
     ·obtain⟨c,d⟩:=aNj n _ ts f x a;rw[Aq]at d;exact⟨c,by omega⟩
theorem ItW.l{n:Nat}{t:Itm.Tr}(h:ItW n t):t.l.length≤1000∧∀y∈t.l,y.l.length≤1000:=⟨sH h.1,fun y a=>sH (aEe (d:=7) h.1 a)⟩
def aMT(s:List UInt8)(i a:Nat)(L:List Itm.Tr):Prop:=a≤s.length∧aE4 L (aCM (7-i) (s.drop a))=aCM 7 s
theorem aMT.step{s:List UInt8}{i a:Nat}{L:List Itm.Tr}(h:aMT s i a L)(q:i<7)(j:a<s.length){t:Itm.Tr}{k:Nat}(c:itF 8 (s.drop a)=some (t,k)):aMT s (i+1) (a+k) (L++[t]):=by
 obtain⟨g,d⟩:=h;have f:=gD _ _ _ _ c;rw[Aq]at f;refine⟨by omega,?_⟩;rw[←d,show 7-i=(7-(i+1))+1 by omega,aBF (by rw[Aq];omega),c];simp only;rw[aKU,De]
theorem aMT.no{s:List UInt8}{i a:Nat}{L:List Itm.Tr}(h:aMT s i a L)(j:i<7)(g:a<s.length)(d:itF 8 (s.drop a)=none):aCM 7 s=none:=by
 obtain⟨f,c⟩:=h;rw[←c,show 7-i=(7-(i+1))+1 by omega,aBF (by rw[Aq];omega),d];rfl
theorem aMT.done{s:List UInt8}{i a:Nat}{L:List Itm.Tr}(h:aMT s i a L)(c:¬i<7∨¬a<s.length):aCM 7 s=some L:=by
 obtain⟨j,f⟩:=h;have g:aCM (7-i) (s.drop a)=some []:=by
  rcases c with c|c
  ·rw[show 7-i=0 by omega];rfl
  ·cases 7-i with
   |zero=>rfl
   |succ n=>
    have d:(s.drop a).length=0:=by rw[Aq];omega
    rw[aCM,Ar d]
 rw[←f,g];simp[aE4]
def aQX(x:Option As)(v:Value)(V:View):Prop:=match x with
 |some a=>∃a1 a2 a3 c1 c2 c3,v=.tuple #[asV a a1 a2 a3 c1 c2 c3,.bool true]∧aAK V a1 a2 a3 a
 |none=>v=.tuple #[asV As.zero none none none 0 0 0,.bool false]
theorem aFc{t c s r:Itm.Tr}{p:List Pa}{e:Ei}(h:ofE s=some e):aHt t c s p r=some ⟨t.l.map nT,nT c,e,p,r.l.map dT⟩:=by
 unfold aHt;rw[h]
theorem aLa{t c s r:Itm.Tr}{p:List Pa}(h:ofE s=none):aHt t c s p r=none:=by
 unfold aHt;rw[h]
theorem aNq{l:List Itm.Tr}{a b c d e:Itm.Tr}(r:l.length=5∨l.length=6)(g:l[0]? =some a)(j:l[1]? =some b)(k:l[3]? =some c)(q:l[4]? =some d)(f:l[l.length-1]? =some e):asT l=aHt a b c (if l.length=6 then dT d else[]) e:=by
 rcases r with h|h
 ·rw[An oW];rw[h]at f;exact aQQ h g j k f
 ·rw[Ar h];rw[h]at f;exact aQP h g j k q f
structure Pz where
 a:Option Addr
 c:Nat
 l:List Pa
 V:View
theorem aCB(t:Itm.Tr):(dT t).length≤t.l.length:=by
 unfold dT;split
 ·next l h=>exact Nat.le_of_eq (aG5 h)
 ·exact Ap _
set_option maxHeartbeats 1600000 in
theorem aAB(s:List UInt8)(w:World){U:View}(hU:See U w)(hs:s.length≤1000000):CP 106 #[.string (B s)] w (fO w U (aQX (eD s))):=by
 refine dE 139 Tryz.func106 hU ?_;refine zs (zr (aW (fun N=>(zq 1 (zn (zQ 1 (zn (zQ 1 (zn ?_)))))))));refine dH (α:=Ip) (fun x=>[0,2,3,4,5,6].zip [(St s),(Pt N 0),(.bool false),(x.r.V x.i),(L6 x.a),(L6 x.i)]) (fun x=>x.V) (fun x=>([(N,.cells Z8.toArray 96 (0,0))]++x.r.B 89 x.xs)) (fun x=>x.i≤7∧View.le U x.V∧RwR TV 5 x.V x.r x.xs x.i x.L∧aMT s x.i x.a (x.L.map Prod.fst)∧(¬x.i<7∨¬x.a<s.length)) ?_ ?_
 ·refine zQ 1 (zn (aB (eY (α:=Ip) (fun x=>[0,2,3,4,5,6].zip [(St s),(Pt N 0),(.bool false),(x.r.V x.i),(L6 x.a),(L6 x.i)]) (fun x=>x.V) (fun x=>([(N,.cells Z8.toArray 96 (0,0))]++x.r.B 89 x.xs)) (fun x=>x.i≤7∧View.le U x.V∧RwR TV 5 x.V x.r x.xs x.i x.L∧aMT s x.i x.a (x.L.map Prod.fst)) (fun x=>7-x.i) ⟨0,0,Rw.nil,[],[],U⟩ ?_ ?_ (hm:=fun _ h=>h.eqv (Dn kR (Aj ([(N,.cells Z8.toArray 96 (0,0))]:aN)).symm)))))
  ·exact⟨Ap _,View.le_refl _,RwR.nil,Ap _,aKT _⟩
  intro x hx;obtain⟨p7,a7,a8,a1⟩:=hx;have C3:=a1.1;refine zs (zQ 3 (jV 17 ((x.i:Int)<7) (fun h0 A5=>?_) (fun h0 A5=>?_)))
  ·refine zq 5 (zn (cE ((x.a:Int)<(((s).length:Nat):Int)) (fun h1 A6=>?_) (fun h1 A6=>?_)))
   ·refine zk (zs (aB (zQ 2 ?_)));rcases Ax ((itF 8 (s.drop x.a)).isSome)with h2|h2
    ·refine pO (fun W L=>qM s hs 8 (by decide) x.a a1.1 W L.view) (fun v1 V1 s7 o2=>?_);have k2:=a8.le s7;unfold dF at o2;obtain⟨⟨t1,k1⟩,l0⟩:=Cg.1 h2;obtain⟨k9,k5⟩:=aGc l0 hs;have B6:=gD _ _ _ _ l0;rw[Aq]at B6;rw[l0]at o2;obtain rfl:=o2;refine zq 5 (zn (zs (zQ 2 (zn (dD (zk (zQ 4 (cD (St ((s.drop x.a).take ((x.a+k1)-x.a))) (iK 9 _ (some _) (some _) rfl s x.a (x.a+k1) ((s.drop x.a).take ((x.a+k1)-x.a)) kR (show evS _ _=_ by kernel_rfl) (show evS _ _=_ by kernel_rfl) nL nL rfl Tryz.underlying9) ?_))))))));refine pO (fun W L=>aFQ 8 (by decide) ((s.drop x.a).take ((x.a+k1)-x.a)) t1 k9 k5 W L.view) (fun v3 V3 s9 B3=>?_);have k4:=k2.le s9;obtain⟨J0,rfl,w3⟩:=B3;obtain⟨a3,c3,rfl,G9,K0,K1,J9⟩:=w3.form;refine gV (tC t1 a3 c3) 89 (fun r=>(Sl r 0 1 1)) kR kR kR (fun g5 V5 o3 B4=>?_);have k7:=w3.le o3;have k8:=k4.le o3;have B5:eZ V5 (some ⟨g5,0,none⟩) [t1]:=eZ.lit [(t1,(tC t1 a3 c3))] B4 ⟨k7,trivial⟩ (show 1≤R47 by decide);obtain⟨I5,J8,L9,j,r0,e5,B2⟩:=B5.open (by simp);cases j;have r1:L9.length=1:=by rw[←Az (f:=Prod.fst),r0];rfl
     refine lN 1 89 87 64 1 1 a8.ok (fun W L=>View.range_of B2 L.view) (by rw[e5.flat_len,r1]) e5.one (by decide) (fun D3 u7=>?_);refine zq 1 (zn (zr (zq 2 (zn (zr (zq 2 (eC 24 ((x.i:Int)+1) (zq 1 (zn ?_)))))))));refine nx ⟨x.a+k1,x.i+1,D3,(x.xs++(L9.flatMap Prod.snd)),x.L++L9,V5⟩ ?_ ?_
     ·exact⟨by show x.i+1≤7;omega,(View.le_trans (View.le_trans (View.le_trans a7 s7) s9) o3),RwR.app k8 (aAk e5) r1 u7,by rw[Br,r0];exact a1.step oW oW l0⟩
     ·show 7-(x.i+1)<7-x.i;omega
    ·refine pO (fun W L=>qM s hs 8 (by decide) x.a a1.1 W L.view) (fun K6 H3 s8 e8=>?_);unfold dF at e8;have m3:itF 8 (s.drop x.a)=none:=by cases o6:itF 8 (s.drop x.a)with|none=>rfl|some q=>(have h9:=h2;rw[o6]at h9;cases h9)
     rw[m3]at e8;obtain⟨K3,D4,w5,rfl⟩:=e8;refine zq 5 (zn (zs (zQ 2 (zn (iA (D4 !=0) (Cb.2 w5) ?_)))));refine zQ 1 (aX 0 N (zq 1 (zn (aA (dL [1,0] [(N,8)] [(.agg Z8.toArray),(.bool false)] (fun W' L=>?_))))));rw[show eD s=none from aH3 (a1.no oW oW m3)];exact aH L (View.le_trans a7 s8) rfl
   ·refine aK ?_;refine jn x ?_;exact⟨p7,a7,a8,a1,by omega⟩
  ·refine zq 5 (zn (dD (aK ?_)));refine jn x ?_;exact⟨p7,a7,a8,a1,by omega⟩
 intro x hx;obtain⟨p7,a7,a8,a1,K2⟩:=hx;have C3:=a1.1;refine zQ 1 (cD (L6 x.i) (pS x.r 5 x.i x.xs a8.ok (.tmp 43) 87 89 rfl kR kR) ?_);refine zq 1 (zn (zs ?_));refine dH (α:=Bool) (fun b9=>[0,2,3,4,9,50].zip [(St s),(Pt N 0),(.bool false),(x.r.V x.i),(L6 x.i),(.bool b9)]) (fun b9=>x.V) (fun b9=>([(N,.cells Z8.toArray 96 (0,0))]++x.r.B 89 x.xs)) (fun b9=>(b9=true→x.i≠5∧x.i≠6)∧(b9=false→x.i=5∨x.i=6)) ?_ ?_
 ·refine zr (zq 3 (lO 47 (x.i:Int) 5 (fun h3 A7=>?_) (fun h3 A7=>?_)))
  ·refine zq 3 (zn ?_);refine jn ((x.i:Int) !=6) ?_;exact⟨(fun h=>by have:=Cb.1 h;omega),(fun h=>by have:=Bq.1 h;omega)⟩
  ·refine zq 3 (zn ?_);refine jn false ?_;exact⟨(fun h=>by cases h),(fun _=>by omega)⟩
 intro b9 u1;refine gN b9 (fun h4=>?_) (fun h4=>?_)
 ·have A8:=u1.1 h4;refine zQ 1 (aX 0 N (zq 1 (zn (aA (dL [1,0] [(N,8)] [(.agg Z8.toArray),(.bool false)] (fun W' L=>?_))))));have c0:=a1.done oW;have k6:(x.L.map Prod.fst).length=x.i:=by rw[Az];exact a8.m.symm
  rw[show eD s=none from aCy c0 (aOL oW oW)];exact aH L a7 rfl
 ·have A8:=u1.2 h4;refine zk (zs (zr ?_));refine sE 4 x.r x.xs 5 x.i [(N,.cells Z8.toArray 96 (0,0))] 89 kR a8.ok kR (fun H4 a6 q1 b7 r3 E3=>?_);have C6:=a8.le b7;have Y:=(C6.done (by decide) r3 (View.le_refl _) (by unfold R47;omega)).ts;have c0:=a1.done oW;obtain⟨l9,k5⟩:∃l,x.L.map Prod.fst=l:=⟨_,rfl⟩;rw[k5]at c0 Y;have k6:l9.length=x.i:=by rw[←k5,Az];exact a8.m.symm
  have e6:=aNj 7 s l9 c0;obtain⟨d,c9⟩:∃y,(l9)[0]? =some y:=⟨(l9)[0]'oW,Aa _⟩;obtain⟨C,D,D5,rfl,l8,u9⟩:=Y.at_ 0 d c9;obtain⟨y7,n5,rfl,o7,F3,G1,E5⟩:=u9.form;have p2:=e6 d (Ad c9);have l1:=p2.l;obtain⟨k,e0⟩:∃y,(l9)[1]? =some y:=⟨(l9)[1]'oW,Aa _⟩;obtain⟨H8,J1,D6,z7,r7,v7⟩:=Y.at_ 1 k e0;obtain⟨H5,I7,rfl,B7,F4,G2,E6⟩:=v7.form;cases z7;have p3:=e6 k (Ad e0);have x7:=p3.l;obtain⟨x0,m9⟩:∃y,(l9)[2]? =some y:=⟨(l9)[2]'oW,Aa _⟩;obtain⟨H9,J2,D7,z8,E4,v8⟩:=Y.at_ 2 x0 m9;obtain⟨H6,I8,rfl,B8,F5,G3,E7⟩:=v8.form;cases z8;have p4:=e6 x0 (Ad m9);have x8:=p4.l;obtain⟨b4,e1⟩:∃y,(l9)[3]? =some y:=⟨(l9)[3]'oW,Aa _⟩;obtain⟨I0,J3,D8,A0,r8,m6⟩:=Y.at_ 3 b4 e1;obtain⟨n1,n7,rfl,B9,F6,G4,E8⟩:=m6.form;cases A0;have c1:=e6 b4 (Ad e1);have x9:=c1.l;obtain⟨b5,e2⟩:∃y,(l9)[4]? =some y:=⟨(l9)[4]'oW,Aa _⟩;obtain⟨I1,J4,D9,A1,r9,w0⟩:=Y.at_ 4 b5 e2;obtain⟨q4,q7,rfl,o8,F7,G5,E9⟩:=w0.form;cases A1;have p5:=e6 b5 (Ad e2);have c4:=p5.l;obtain⟨A,e3⟩:∃y,(l9)[(x.i-1)]? =some y:=⟨(l9)[(x.i-1)]'oW,Aa _⟩;obtain⟨I2,J5,E0,A2,m0,w1⟩:=Y.at_ (x.i-1) A e3;obtain⟨y8,n8,rfl,o9,F8,G6,F0⟩:=w1.form;cases A2;have p6:=e6 A (Ad e3);have c6:=p6.l;refine zq 1 (cD (Pt C (D+1*5)) (rIx 89 rfl C D x.i a6 1 5) ?_);refine zq 1 (zV C (D+1*5+1) (N6 k.n) (r7 1 _ rfl) 22 (.tmp 54) _ Tryz.underlying22 rfl ?_);refine zq 2 (dS 57 (I6 (IntKind.i64.wrap (if 65536<(k.n:Int)then 65536 else(k.n:Int)))) (I6 (nT k)) (Ag (Value.int .i64) (aOl k)) ?_);refine zq 1 (aW (fun J=>(aX 1 J (zn (zs (zQ 1 (zn (aB (eY (α:=Gp Int) (fun G=>[0,2,3,4,9,10,11].zip [(St s),(Pt N 0),(.bool false),(Sl C D x.i a6),(L6 x.i),(Pt J 0),(L6 G.i)]) (fun G=>G.V) (fun G=>([(N,.cells Z8.toArray 96 (0,0)),(J,.cells [(G.r.V G.i),(I6 (nT k)),(I6 0),(St []),(U6 0),(U6 0),S0,S0].toArray 96 (0,0))]++G.r.B 3 G.xs)) (fun G=>G.i≤d.l.length∧View.le q1 G.V∧RwR InR 1 G.V G.r G.xs G.i G.L∧G.L.map Prod.fst=(d.l.take G.i).map nT) (fun G=>d.l.length-G.i) ⟨0,Rw.nil,[],[],q1⟩ ?_ ?_ (hm:=fun _ h=>h.eqv (Dn kR (Aj ([(N,.cells Z8.toArray 96 (0,0)),(J,.cells [S0,(I6 (nT k)),(I6 0),(St []),(U6 0),(U6 0),S0,S0].toArray 96 (0,0))]:aN)).symm)))))))))))
  ·exact⟨Ap _,View.le_refl _,RwR.nil,rfl⟩
  intro G C1;obtain⟨H0,F,c7,m7⟩:=C1;refine zs (zQ 2 (cD (Pt C (D+0*5)) (rIx 89 rfl C D x.i a6 0 5) ?_));refine zq 1 (zV C (D+0*5+3) (.slice y7 d.l.length n5) ((View.range_le F l8) 3 _ rfl) 87 (.tmp 62) _ Tryz.underlying87 rfl ?_);refine zq 2 (zn (cE ((G.i:Int)<(d.l.length:Int)) (fun h5 A9=>?_) (fun h5 A9=>?_)))
  ·refine zk (zs (aB ?_));obtain⟨O,n0⟩:∃y,(d.l)[G.i]? =some y:=⟨(d.l)[G.i]'oW,Aa _⟩;obtain⟨j5,k0,E1,rfl,s0,w2⟩:=(o7.le F).at_ G.i O n0;obtain⟨H7,I9,rfl,C0,F9,G7,F1⟩:=w2.form;refine mB 9 [0,4,0,1,0,1,0,1,0,1,0,1,1] [(J,1)] [.val (Pt C (D+0*5)),.val (Sl j5 k0 d.l.length n5),.val (Pt j5 (k0+G.i*5)),.val (N6 O.n),.val (I6 (nT O)),.mem (fun v V=>∃g,v=(Sl g 0 1 1)∧jT V (some ⟨g,0,none⟩) [(nT O)])] (by simp only[Bc];exact⟨trivial,trivial,trivial,trivial,trivial,by intro v V V2 b2 hP;(first|trivial|exact oQ.mono b2 hP|exact mT.mono b2 hP|exact PhiMono.go hP b2|(obtain⟨g,e,hP⟩:=hP;exact⟨g,e,hP.le b2⟩)),fun _ h=>by cases h⟩) ⟨?_,?_,?_,?_,?_,?_,trivial⟩ ?_
   ·exact wR (fun u=>lR _ 89 _ _ rfl C D x.i a6 0 5 .i64 kR kR (by first|assumption|omega) kR kR)
   ·exact wU1 C (D+0*5+3) ((View.range_le F l8) 3 _ rfl) 87 _ _ Tryz.underlying87 rfl
   ·exact wR (fun u=>lR _ 89 _ _ rfl j5 k0 d.l.length n5 G.i 5 .i64 kR kR (by first|assumption|omega) kR kR)
   ·exact wU1 j5 (k0+G.i*5+1) (s0 1 _ rfl) 22 _ _ Tryz.underlying22 rfl
   ·exact wE (I6 (IntKind.i64.wrap (if 65536<(O.n:Int)then 65536 else(O.n:Int)))) (Ag (Value.int .i64) (aOl O))
   ·refine wN [79] (fun u=>[(I6 (nT O))]) fun u V hV o4=>?_
    refine⟨[(I6 (nT O))],3,fun r=>(Sl r 0 1 1),?_,fun g V' s6 hR=>?_⟩
    ·kernel_rfl
    exact⟨g,rfl,aDJ hR (show 1≤R47 by decide)⟩
   intro K4 y0 m1 o5;have C7:=c7.le m1;have j8:=o5 12 rfl;obtain⟨x5,l3,l5⟩:=j8;refine qX 80 l3 ?_;obtain⟨I3,J6,A3,s3⟩:=l5.at_ (by simp);cases A3;refine lN 2 3 48 8 1 1 c7.ok (fun W L=>View.range_of s3 L.view) rfl (Ao.1 kR) (by decide) (fun w8 m4=>?_);refine zq 1 ?_;refine aBa 1 J 0 (G.i+1) 1 w8 (G.xs++[.int .i64 (nT O)]) m4 [(G.r.V G.i),(I6 (nT k)),(I6 0),(St []),(U6 0),(U6 0),S0,S0] 96 48 _ _ rfl kR kR kR (fun a c=>by kernel_rfl) kR rfl kR ?_;refine zn (zr (zq 2 (eC 67 ((G.i:Int)+1) (zq 1 (zn ?_)))));refine nx ⟨G.i+1,w8,(G.xs++[.int .i64 (nT O)]),G.L++[((nT O),[.int .i64 (nT O)])],y0⟩ ?_ ?_
   ·exact⟨by show G.i+1≤_;omega,(View.le_trans F m1),RwR.snoc C7 rfl m4,by rw[Br,m7,dU nT n0];rfl⟩
   ·show d.l.length-(G.i+1)<d.l.length-G.i;omega
  ·refine aK (zs (zr ?_));refine lA G.r G.xs 1 G.i [(N,.cells Z8.toArray 96 (0,0)),(J,.cells [(G.r.V G.i),(I6 (nT k)),(I6 0),(St []),(U6 0),(U6 0),S0,S0].toArray 96 (0,0))] 3 kR c7.ok (fun b1 b6 q2 K r4 q8=>?_);rw[q8];have p8:=(m6.le F).le K;have C8:=c7.le K;have C9:=(o8.le F).le K;have D0:=(o9.le F).le K;have l7:=(C8.done (by decide) r4 (View.le_refl _) (by unfold R47;omega)).ins;rw[m7,Bf oW]at l7;have u2:G.i=(d.l.map nT).length:=by rw[Az];omega
   rw[u2];refine zq 1 (cD (Pt C (D+3*5)) (rIx 89 rfl C D x.i a6 3 5) ?_);refine zU C (D+3*5) (tC b4 n1 n7) (View.range_le K (View.range_le F r8)) 89 (.tmp 85) _ Tryz.underlying89 rfl ?_;rcases Ax ((ofE b4).isSome)with h6|h6
   ·obtain⟨j,b3⟩:=Cg.1 h6;refine cY 149 #[(tV b4 n1 n7)] (.tuple #[j.V,(I6 0)]) (fun W L=>aLX b3 _ W L.view p8 (by have:=c1.2;omega)) ?_;refine zq 3 (aW (fun e4=>(aX 2 e4 (zq 1 (zn (zs (zQ 2 (zn (dD (zk (zB [3,0] [(e4,4)] (aX 1 J (zn ?_)))))))))))));refine dH (α:=Pz) (fun E=>[0,2,3,4,9,10].zip [(St s),(Pt N 0),(.bool false),(Sl C D x.i a6),(L6 x.i),(Pt J 0)]) (fun E=>E.V) (fun E=>[(N,.cells Z8.toArray 96 (0,0)),(bK J [(.slice b1 (d.l.map nT).length b6),(I6 (nT k)),(I6 j.s),(St j.l),(N6 j.n),(N6 j.v),(.slice E.a E.l.length E.c),S0] 96),(bK e4 [(I6 j.s),(St j.l),(N6 j.n),(N6 j.v)] 24)]) (fun E=>View.le q2 E.V∧(gF PaR 6 E.V E.a E.l∧E.l=if x.i=6 then dT b5 else[])) ?_ ?_
    ·refine zQ 2 (zn (fQ (x.i:Int) 6 (fun h7 B0=>?_) (fun h7 B0=>?_)))
     ·refine zr (zq 1 (cD (Pt C (D+4*5)) (rIx 89 rfl C D x.i a6 4 5) ?_));refine zU C (D+4*5) (tC b5 q4 q7) (View.range_le K (View.range_le F r9)) 89 (.tmp 98) _ Tryz.underlying89 rfl ?_;refine mC 150 #[(tV b5 q4 q7)] (mT (dT b5)) (fun W L=>rB b5 _ _ W L.view C9 (by have:=c4.1;omega)) (fun K7 y1 u0 r2=>?_);obtain⟨y9,z1,rfl,u6⟩:=r2;refine zq 1 (aX 1 J (zn ?_));refine jn ⟨y9,z1,(dT b5),y1⟩ ?_;exact⟨u0,u6,by rw[Ar oW]⟩
     ·refine zk ?_;refine jn ⟨none,0,[],q2⟩ ?_;exact⟨View.le_refl _,gF.nil,by rw[An oW]⟩
    intro E C4;obtain⟨b8,C5,w6⟩:=C4;have r6:asT l9=aHt d k b4 E.l A:=by rw[w6,←k6];exact(aNq oW c9 e0 e1 e2 (by rw[k6];exact e3))
    refine zs (zQ 1 (zn (aB (eY (α:=Gp (List Pa)) (fun I=>[0,2,3,4,9,10,14].zip [(St s),(Pt N 0),(.bool false),(Sl C D x.i a6),(L6 x.i),(Pt J 0),(L6 I.i)]) (fun I=>I.V) (fun I=>([(N,.cells Z8.toArray 96 (0,0)),(bK J [(.slice b1 (d.l.map nT).length b6),(I6 (nT k)),(I6 j.s),(St j.l),(N6 j.n),(N6 j.v),(.slice E.a E.l.length E.c),(I.r.V I.i)] 96),(bK e4 [(I6 j.s),(St j.l),(N6 j.n),(N6 j.v)] 24)]++I.r.B 93 I.xs)) (fun I=>I.i≤A.l.length∧View.le E.V I.V∧RwR RlR 1 I.V I.r I.xs I.i I.L∧I.L.map Prod.fst=(A.l.take I.i).map dT) (fun I=>A.l.length-I.i) ⟨0,Rw.nil,[],[],E.V⟩ ?_ ?_ (hm:=fun _ h=>h.eqv (Dn kR (Aj ([(N,.cells Z8.toArray 96 (0,0)),(bK J [(.slice b1 (d.l.map nT).length b6),(I6 (nT k)),(I6 j.s),(St j.l),(N6 j.n),(N6 j.v),(.slice E.a E.l.length E.c),S0] 96),(bK e4 [(I6 j.s),(St j.l),(N6 j.n),(N6 j.v)] 24)]:aN)).symm))))))
    ·exact⟨Ap _,View.le_refl _,RwR.nil,rfl⟩
    intro I C2;obtain⟨H2,M,c8,m8⟩:=C2;refine zs (zQ 4 (dS 105 (I6 (IntKind.i64.wrap ((x.i:Int)-1))) (L6 (x.i-1)) (Ag (Value.int .i64) (by rw[IntWalk.i64_in _ oW];omega)) ?_));refine cD (.pointer (some ⟨C,D+(x.i-1)*5,none⟩)) (rIx 89 rfl C D x.i a6 (x.i-1) 5) ?_;refine zq 1 (zV C (D+(x.i-1)*5+3) (.slice y8 A.l.length n8) ((View.range_le M (View.range_le b8 (View.range_le K (View.range_le F m0)))) 3 _ rfl) 87 (.tmp 107) _ Tryz.underlying87 rfl ?_);refine zq 2 (zn (cE ((I.i:Int)<(A.l.length:Int)) (fun h8 B1=>?_) (fun h8 B1=>?_)))
    ·refine zk (zs (aB ?_));obtain⟨X,j2⟩:∃y,(A.l)[I.i]? =some y:=⟨(A.l)[I.i]'oW,Aa _⟩;obtain⟨j6,k3,E2,rfl,s4,w4⟩:=((D0.le b8).le M).at_ I.i X j2;obtain⟨n2,n9,rfl,p1,G0,G8,F2⟩:=w4.form;refine mB 7 [0,4,0,0,1,1,0,1,0,1,1,1,1] [(J,1)] [.val (L6 (x.i-1)),.val (.pointer (some ⟨C,D+(x.i-1)*5,none⟩)),.val (Sl j6 k3 A.l.length n8),.val (Pt j6 (k3+I.i*5)),.val (tV X n2 n9),.mem (mT (dT X)),.mem (fun v V=>∃g,v=(Sl g 0 1 1)∧gF RlR 1 V (some ⟨g,0,none⟩) [(dT X)])] (by simp only[Bc];refine⟨?_,?_,?_,?_,?_,?_,?_,fun _ h=>by cases h⟩<;>first|trivial|(intro v V V2 b2 hP;(first|trivial|exact oQ.mono b2 hP|exact mT.mono b2 hP|exact PhiMono.go hP b2|(obtain⟨g,e,hP⟩:=hP;exact⟨g,e,hP.le b2⟩)))) ⟨?_,?_,?_,?_,?_,?_,?_,trivial⟩ ?_
     ·exact wE (I6 (IntKind.i64.wrap ((x.i:Int)-1))) (Ag (Value.int .i64) (by rw[IntWalk.i64_in _ oW];omega))
     ·exact wR (fun u=>lR _ 89 _ _ rfl C D x.i a6 (x.i-1) 5 .i64 kR kR (by first|assumption|omega) kR kR)
     ·exact wU1 C (D+(x.i-1)*5+3) ((View.range_le M (View.range_le b8 (View.range_le K (View.range_le F m0)))) 3 _ rfl) 87 _ _ Tryz.underlying87 rfl
     ·exact wR (fun u=>lR _ 89 _ _ rfl j6 k3 A.l.length n8 I.i 5 .i64 kR kR (by first|assumption|omega) kR kR)
     ·exact wU j6 (k3+I.i*5) (tC X n2 n9) s4 89 _ _ Tryz.underlying89 rfl
     ·refine wM 150 (fun u=>#[(tV X n2 n9)]) fun u V hV o4 W hW=>?_
      exact rB X _ _ W hW (p1.le hV) (by have:=c6.2 X (Ad j2);omega)
     ·refine wN [124] (fun u=>[u 11]) fun u V hV o4=>?_
      have z6:=o4 11 kR rfl;obtain⟨q3,q6,D2,u4⟩:=z6;refine⟨[(.slice q3 (dT X).length q6)],93,fun r=>(Sl r 0 1 1),?_,fun g V' s6 hR=>?_⟩
      ·rw[D2];kernel_rfl
      exact⟨g,rfl,gF.lit [((dT X),[(.slice q3 (dT X).length q6)])] hR ⟨⟨_,_,rfl,u4.le s6⟩,trivial⟩ (show 1≤R47 by decide)⟩
     intro K5 y2 m2 j1;have D1:=c8.le m2;have j7:=j1 11 rfl;obtain⟨x3,x4,l2,u5⟩:=j7;refine qX 124 l2 ?_;have j9:=j1 12 rfl;obtain⟨x6,l4,l6⟩:=j9;refine qX 125 l4 ?_;obtain⟨I4,J7,e7,A4,s5,j0⟩:=l6.at_ 0 _ rfl;cases A4;refine lN 3 93 94 24 1 1 c8.ok (fun W L=>View.range_of s5 L.view) (RecOk.len j0) (RecOk.one j0) (by decide) (fun w9 m5=>?_);refine zq 1 ?_;refine aBa 1 J 7 (I.i+1) 1 w9 (I.xs++e7) m5 [(.slice b1 (d.l.map nT).length b6),(I6 (nT k)),(I6 j.s),(St j.l),(N6 j.n),(N6 j.v),(.slice E.a E.l.length E.c),(I.r.V I.i)] 96 94 _ _ rfl kR kR kR (fun a c=>by kernel_rfl) kR rfl kR ?_;refine zn (zr (zq 2 (eC 112 ((I.i:Int)+1) (zq 1 (zn ?_)))));refine nx ⟨I.i+1,w9,(I.xs++e7),I.L++[((dT X),e7)],y2⟩ ?_ ?_
     ·exact⟨by show I.i+1≤_;omega,(View.le_trans M m2),RwR.snoc D1 j0 m5,by rw[Br,m8,dU dT j2];rfl⟩
     ·show A.l.length-(I.i+1)<A.l.length-I.i;omega
    ·refine aK (zs (zs (zr ?_)));refine lA I.r I.xs 1 I.i [(N,.cells Z8.toArray 96 (0,0)),(bK J [(.slice b1 (d.l.map nT).length b6),(I6 (nT k)),(I6 j.s),(St j.l),(N6 j.n),(N6 j.v),(.slice E.a E.l.length E.c),(I.r.V I.i)] 96),(bK e4 [(I6 j.s),(St j.l),(N6 j.n),(N6 j.v)] 24)] 93 kR c8.ok (fun j4 o0 y5 Z r5 q9=>?_);rw[q9];have p9:=((l7.le b8).le M).le Z;have q0:=(C5.le M).le Z;have j3:=((p8.le b8).le M).le Z;have w7:=c8.le Z;have c2:=w7.done (by decide) r5 (View.le_refl _) (by unfold R47;omega);rw[m8,Bf oW]at c2;have u3:I.i=(A.l.map dT).length:=by rw[Az];omega
     rw[u3];refine cG [2] [(J,8)] (cY 151 #[(.agg #[(.slice b1 (d.l.map nT).length b6),(I6 (nT k)),(I6 j.s),(St j.l),(N6 j.n),(N6 j.v),(.slice E.a E.l.length E.c),(.slice j4 (A.l.map dT).length o0)])] (.bool ((As.mk (d.l.map nT) (nT k) j E.l (A.l.map dT)).right)) (fun W L=>aEp (As.mk (d.l.map nT) (nT k) j E.l (A.l.map dT)) _ _ _ _ _ _ W L.view ⟨p9,q0,c2,aEL b3 L.view j3⟩ ⟨(show(d.l.map nT).length≤1000000 from by rw[Az];have:=l1.1;omega),(show E.l.length≤1000000 from by rw[w6];split<;>first|exact Ap _|(have:=aCB b5;have:=c4.1;omega)),fun l hl=>by obtain⟨z,hz,rfl⟩:=Co.1 hl;have:=aCB z;have:=c6.2 z hz;omega⟩) ?_);refine zq 2 (cN 131 (!((As.mk (d.l.map nT) (nT k) j E.l (A.l.map dT)).right)) (fun h9=>?_) (fun h9=>?_))
     ·refine zq 5 (zn (dP (zQ 1 (aX 0 N (zq 1 (zn (aA (dL [1,0] [(N,8)] [(.agg Z8.toArray),(.bool false)] (fun W' L=>?_)))))))));rw[show eD s=none from aCx c0 (r6.trans (aFc b3)) (.inl (by simpa using h9))];exact aH L (View.le_trans (View.le_trans (View.le_trans (View.le_trans (View.le_trans (View.le_trans a7 b7) F) K) b8) M) Z) rfl
     ·refine cG [2] [(J,8)] (cY 55 #[(.agg #[(.slice b1 (d.l.map nT).length b6),(I6 (nT k)),(I6 j.s),(St j.l),(N6 j.n),(N6 j.v),(.slice E.a E.l.length E.c),(.slice j4 (A.l.map dT).length o0)])] (St ((As.mk (d.l.map nT) (nT k) j E.l (A.l.map dT)).bytes)) (fun W L=>pX (As.mk (d.l.map nT) (nT k) j E.l (A.l.map dT)) _ _ _ _ _ _ W L.view ⟨p9,q0,c2,aEL b3 L.view j3⟩ (As.shaped (by simpa using h9))) ?_);refine zq 1 (cD (.bool (!(((As.mk (d.l.map nT) (nT k) j E.l (A.l.map dT)).bytes)==s))) (lQ _ _ _ _ rfl ((As.mk (d.l.map nT) (nT k) j E.l (A.l.map dT)).bytes) s kR kR) ?_);refine zq 1 (zn (gN (!(((As.mk (d.l.map nT) (nT k) j E.l (A.l.map dT)).bytes)==s)) (fun o1=>?_) (fun o1=>?_)))
      ·refine zQ 1 (aX 0 N (zq 1 (zn (aA (dL [1,0] [(N,8)] [(.agg Z8.toArray),(.bool false)] (fun W' L=>?_))))));rw[show eD s=none from aCx c0 (r6.trans (aFc b3)) (.inr (by simpa using o1))];exact aH L (View.le_trans (View.le_trans (View.le_trans (View.le_trans (View.le_trans (View.le_trans a7 b7) F) K) b8) M) Z) rfl
      ·refine zk (zB [2] [(J,8)] (aX 0 N (zq 1 (zn (aA (dL [1,0] [(N,8)] [(.agg #[(.slice b1 (d.l.map nT).length b6),(I6 (nT k)),(I6 j.s),(St j.l),(N6 j.n),(N6 j.v),(.slice E.a E.l.length E.c),(.slice j4 (A.l.map dT).length o0)]),(.bool true)] (fun W' L=>?_)))))));have e5:aAK y5 b1 E.a j4 (As.mk (d.l.map nT) (nT k) j E.l (A.l.map dT)):=⟨p9,q0,c2,aEL b3 L.view j3⟩;have k9:=aBt e5.ok (by simpa using h9);rw[show(As.mk (d.l.map nT) (nT k) j E.l (A.l.map dT)).bytes=s from by simpa using o1]at k9;rw[k9];exact aH L (View.le_trans (View.le_trans (View.le_trans (View.le_trans (View.le_trans (View.le_trans a7 b7) F) K) b8) M) Z) ⟨_,_,_,_,_,_,rfl,e5⟩
   ·have b3:ofE b4=none:=by cases o6:ofE b4 with|none=>rfl|some q=>(have h9:=h6;rw[o6]at h9;cases h9)
    refine cY 149 #[(tV b4 n1 n7)] (.tuple #[(.agg #[(I6 0),(St []),(U6 0),(U6 0)]),(I6 2)]) (fun W L=>aLY b3 _ W L.view p8 (by have:=c1.2;omega)) ?_;refine zq 3 (aW (fun q5=>(aX 2 q5 (zq 1 (zn (zs (zQ 2 (zn (dP (zQ 1 (aX 0 N (zq 1 (zn (aA (dL [1,0] [(N,8)] [(.agg Z8.toArray),(.bool false)] (fun W' L=>?_))))))))))))))));rw[show eD s=none from aCy c0 ((aNq oW c9 e0 e1 e2 (by rw[k6];exact e3)).trans (aLa b3))];exact aH L (View.le_trans (View.le_trans (View.le_trans a7 b7) F) K) rfl
end Go.Proofs.YtcdjakemdlinhaaGreatDoor.Sx
