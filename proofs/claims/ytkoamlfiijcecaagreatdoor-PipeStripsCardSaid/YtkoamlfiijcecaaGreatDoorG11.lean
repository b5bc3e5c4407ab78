/-
  Several texts in one: Rh1 Rh2 Rr1 Rr2 Rit Rr3 Sx31 Rr4 Rpl Egn2.
  Conditions: named at each.
-/
import Derived.Test.YtkoamlfiijcecaaGreatDoorG10
set_option maxHeartbeats 16000000
set_option linter.unusedSimpArgs false
set_option linter.unusedVariables false
set_option linter.unusedSectionVars false
namespace Go.Proofs.YtkoamlfiijcecaaGreatDoor.Sx
open Go.ChangeShapes Go.WideShapes Go.ChangeAt Go.RowKit Go.Deep
theorem dgB(m:Nat):UInt8.ofNat (IntKind.u8.wrap ((m:Int).tmod 256)).toNat=UInt8.ofNat m:=by
 have a:((m:Int).tmod 256)=((m%256:Nat):Int):=by
  rw[X3 oW];simp
 rw[a,u8_in oW oW,W8];apply UInt8.toNat_inj.1;simp
theorem Ij{n x m:Nat}(hm:m=n/256^x):[UInt8.ofNat (IntKind.u8.wrap ((m:Int).tmod 256)).toNat]++Itm.dg n x=Itm.dg n (x+1):=by
 rw[dgB,hm];rfl
theorem u64_quo(m:Nat)(hm:m<W64):IntKind.u64.wrap ((m:Int).tdiv 256)=((m/256:Nat):Int):=by
 have a:((m:Int).tdiv 256)=((m/256:Nat):Int):=by
  rw[Int.tdiv_eq_ediv_of_nonneg oW];simp
 rw[a];unfold W64 at hm;exact u64_in oW oW
theorem pW(n k:Nat)(D:n<W64)(I:k<=8)(w:World):CP 113 #[.int .u64 (n:Int),.int .i64 (k:Int)] w (Ret (.string (B (Itm.dg n k))) w):=by
 refine dF 22 Tryz.func113 ?_;refine zQ 1 (zn (zQ 1 (zn (zs (zQ 1 (zn (aB (eF (α:=Nat×Nat) (λx=>[0,1,4,5,6].zip [(N6 x.2),(I6 (k:Int)),(St []),(St (Itm.dg n x.1)),(L6 x.1)]) (λx=>View.no) (λx=>[]) (λx=>x.1<=k/\x.2=n/256^x.1) (λx=>k-x.1) (0,n) ?_ ?_))))))))
 ·exact⟨M8 _,by simp⟩
 intro x E;obtain⟨F,a⟩:=E;have C:=Itm.fP n x.1;have g:x.2<W64:=by rw[a];exact bg (Nat.div_le_self _ _) D
 refine zs (zQ 3 (zn (aZ ((x.1:Int)<(k:Int)) (λu f=>?_) (λu f=>?_))))
 ·refine zk (zs (aB (zQ 3 (aW (λr=>(cF [1,0] [(r,1)] (cB (St ([UInt8.ofNat ((IntKind.u8.wrap (((x.2:Int)).tmod 256)):Int).toNat]++(Itm.dg n x.1))) (cE _ _ _ _ rfl [UInt8.ofNat ((IntKind.u8.wrap (((x.2:Int)).tmod 256)):Int).toNat] (Itm.dg n x.1) kR kR oA) ?_)))))));refine dZ 18 (St ([UInt8.ofNat ((IntKind.u8.wrap (((x.2:Int)).tmod 256)):Int).toNat]++(Itm.dg n x.1))) (St (Itm.dg n (x.1+1))) (M0 (λz=>Value.string (B z)) (Ij a)) ?_;refine zq 1 (zn (zr (zq 2 (dZ 20 (U6 (IntKind.u64.wrap (((x.2:Int)).tdiv 256))) (N6 (x.2/256:Nat)) (M0 (Value.int .u64) (u64_quo x.2 g)) ?_))));refine zq 1 (zn (zr (zq 2 (dH 11 ((x.1:Int)+1) (zq 1 (zn ?_))))));refine nx (x.1+1,x.2/256) ?_ ?_ (d:=λ_ h=>Mem.sub (M4 _ _) (h.eqv (show _=([]:aH)++([(bK r [(.int .u8 (IntKind.u8.wrap (((x.2:Int)).tmod 256)))] 5)]:aH)from by kernel_rfl)))
  ·exact⟨by show x.1+1<=k;omega,by show x.2/256=n/256^(x.1+1);rw[a,Nat.div_div_eq_div_mul,bE]⟩
  ·show k-(x.1+1)<k-x.1;omega
 ·refine aI (zQ 2 (zn (aA (aO [4] [(St (Itm.dg n x.1))] (λG A=>?_)))));have j:x.1=k:=by omega
  exact⟨by rw[<-j];rfl,A.below⟩
theorem hb8(m c:Nat)(hm:m<=7)(a:c<32):UInt8.ofNat (IntKind.u8.wrap ((32*(m:Int))+(c:Int))).toNat=UInt8.ofNat (32*m+c):=by
 rw[u8_in oW oW];congr 1
set_option maxRecDepth 100000 in
theorem dK(m n:Nat)(w:World)(hm:m<=7)(d:n<W64):CP 75 #[.int .i64 (m:Int),.int .u64 (n:Int)] w (Ret (.string (B (Itm.aF m n))) w):=by
 let A:List Value:=[(.int .u8 (IntKind.u8.wrap ((32*(m:Int))+24)))];let E:List Value:=[(.int .u8 (IntKind.u8.wrap ((32*(m:Int))+27)))];let D:List Value:=[(.int .u8 (IntKind.u8.wrap ((32*(m:Int))+26)))];let C:List Value:=[(.int .u8 (IntKind.u8.wrap ((32*(m:Int))+25)))];have u:=d;unfold W64 at u;have L:=Itm.fP n 1;have M:=Itm.fP n 2;have N:=Itm.fP n 4;have O:=Itm.fP n 8;refine dF 51 Tryz.func75 ?_;refine zQ 1 (zn (zQ 2 (dH 7 (32*(m:Int)) (zq 1 (dZ 8 (.int .u8 (IntKind.u8.wrap (32*(m:Int)))) (.int .u8 (32*(m:Int))) (M0 (Value.int .u8) (u8_in oW oW)) ?_)))));refine zq 1 (zn (zs (zQ 2 (zn (aZ ((n:Int)<24) (λG g=>?_) (λG g=>?_))))))
 ·refine zQ 3 (dZ 13 (.int .u8 (IntKind.u8.wrap (n:Int))) (.int .u8 (n:Int)) (M0 (Value.int .u8) (u8_in oW oW)) ?_);refine zq 1 (aW (λF=>(cF [1,0] [(F,1)] (zn (aA (aO [4] [(St [UInt8.ofNat ((IntKind.u8.wrap ((32*(m:Int))+(n:Int))):Int).toNat])] (λf a=>?_)))))));refine⟨?_,a.below⟩;show Ending.returned (Value.string (B [UInt8.ofNat ((IntKind.u8.wrap ((32*(m:Int))+(n:Int))):Int).toNat]))=_;rw[Itm.aF,N1 oW,hb8 m n hm oW]
  try rfl
 ·refine zk (zs (zQ 2 (zn (aZ ((n:Int)<256) (λI h=>?_) (λI h=>?_)))))
  ·refine zs ?_;refine gI 3 [0,0,1,1,0,1] [] [.blk (λr=>(Sl r 0 1 1)) (oK A 5),.val (St [UInt8.ofNat ((IntKind.u8.wrap ((32*(m:Int))+24)):Int).toNat]),.val (St (Itm.dg n 1))] ⟨?_,?_,?_,trivial⟩ ?_
   ·exact vN
   ·exact vB 2 1 21 (λr=>(Sl r 0 1 1)) A 5
   ·exact vC 113 #[(N6 n),(I6 1)] (λW a=>pW n 1 d (by decide) W)
   refine cB (St ([UInt8.ofNat ((IntKind.u8.wrap ((32*(m:Int))+24)):Int).toNat]++(Itm.dg n 1))) (cE _ _ _ _ rfl [UInt8.ofNat ((IntKind.u8.wrap ((32*(m:Int))+24)):Int).toNat] (Itm.dg n 1) kR kR oA) ?_;refine zq 1 (zn (aA (aO [4] [(St ([UInt8.ofNat ((IntKind.u8.wrap ((32*(m:Int))+24)):Int).toNat]++(Itm.dg n 1)))] (λf a=>?_))));refine⟨?_,a.below⟩;show Ending.returned (Value.string (B ([UInt8.ofNat ((IntKind.u8.wrap ((32*(m:Int))+24)):Int).toNat]++(Itm.dg n 1))))=_;rw[Itm.aF,M5 oW,N1 oW,(show UInt8.ofNat (IntKind.u8.wrap ((32*(m:Int))+24)).toNat=UInt8.ofNat (32*m+24)from hb8 m 24 hm oW)]
   try rfl
  ·refine zk (zs (zQ 2 (zn (aZ ((n:Int)<65536) (λJ j=>?_) (λJ j=>?_)))))
   ·refine zs ?_;refine gI 3 [0,0,1,1,0,1] [] [.blk (λr=>(Sl r 0 1 1)) (oK C 5),.val (St [UInt8.ofNat ((IntKind.u8.wrap ((32*(m:Int))+25)):Int).toNat]),.val (St (Itm.dg n 2))] ⟨?_,?_,?_,trivial⟩ ?_
    ·exact vN
    ·exact vB 2 1 30 (λr=>(Sl r 0 1 1)) C 5
    ·exact vC 113 #[(N6 n),(I6 2)] (λW a=>pW n 2 d (by decide) W)
    refine cB (St ([UInt8.ofNat ((IntKind.u8.wrap ((32*(m:Int))+25)):Int).toNat]++(Itm.dg n 2))) (cE _ _ _ _ rfl [UInt8.ofNat ((IntKind.u8.wrap ((32*(m:Int))+25)):Int).toNat] (Itm.dg n 2) kR kR oA) ?_;refine zq 1 (zn (aA (aO [4] [(St ([UInt8.ofNat ((IntKind.u8.wrap ((32*(m:Int))+25)):Int).toNat]++(Itm.dg n 2)))] (λf a=>?_))));refine⟨?_,a.below⟩;show Ending.returned (Value.string (B ([UInt8.ofNat ((IntKind.u8.wrap ((32*(m:Int))+25)):Int).toNat]++(Itm.dg n 2))))=_;rw[Itm.aF,M5 oW,M5 oW,N1 oW,(show UInt8.ofNat (IntKind.u8.wrap ((32*(m:Int))+25)).toNat=UInt8.ofNat (32*m+25)from hb8 m 25 hm oW)]
    try rfl
   ·refine zk (zs (zQ 2 (zn (aZ ((n:Int)<4294967296) (λK k=>?_) (λK k=>?_)))))
    ·refine zs ?_;refine gI 3 [0,0,1,1,0,1] [] [.blk (λr=>(Sl r 0 1 1)) (oK D 5),.val (St [UInt8.ofNat ((IntKind.u8.wrap ((32*(m:Int))+26)):Int).toNat]),.val (St (Itm.dg n 4))] ⟨?_,?_,?_,trivial⟩ ?_
     ·exact vN
     ·exact vB 2 1 39 (λr=>(Sl r 0 1 1)) D 5
     ·exact vC 113 #[(N6 n),(I6 4)] (λW a=>pW n 4 d (by decide) W)
     refine cB (St ([UInt8.ofNat ((IntKind.u8.wrap ((32*(m:Int))+26)):Int).toNat]++(Itm.dg n 4))) (cE _ _ _ _ rfl [UInt8.ofNat ((IntKind.u8.wrap ((32*(m:Int))+26)):Int).toNat] (Itm.dg n 4) kR kR oA) ?_;refine zq 1 (zn (aA (aO [4] [(St ([UInt8.ofNat ((IntKind.u8.wrap ((32*(m:Int))+26)):Int).toNat]++(Itm.dg n 4)))] (λf a=>?_))));refine⟨?_,a.below⟩;show Ending.returned (Value.string (B ([UInt8.ofNat ((IntKind.u8.wrap ((32*(m:Int))+26)):Int).toNat]++(Itm.dg n 4))))=_;rw[Itm.aF,M5 oW,M5 oW,M5 oW,N1 oW,(show UInt8.ofNat (IntKind.u8.wrap ((32*(m:Int))+26)).toNat=UInt8.ofNat (32*m+26)from hb8 m 26 hm oW)]
     try rfl
    ·refine zk (zs ?_);refine gI 3 [0,0,1,1,0,1] [] [.blk (λr=>(Sl r 0 1 1)) (oK E 5),.val (St [UInt8.ofNat ((IntKind.u8.wrap ((32*(m:Int))+27)):Int).toNat]),.val (St (Itm.dg n 8))] ⟨?_,?_,?_,trivial⟩ ?_
     ·exact vN
     ·exact vB 2 1 46 (λr=>(Sl r 0 1 1)) E 5
     ·exact vC 113 #[(N6 n),(I6 8)] (λW a=>pW n 8 d (by decide) W)
     refine cB (St ([UInt8.ofNat ((IntKind.u8.wrap ((32*(m:Int))+27)):Int).toNat]++(Itm.dg n 8))) (cE _ _ _ _ rfl [UInt8.ofNat ((IntKind.u8.wrap ((32*(m:Int))+27)):Int).toNat] (Itm.dg n 8) kR kR oA) ?_;refine zq 1 (zn (aA (aO [4] [(St ([UInt8.ofNat ((IntKind.u8.wrap ((32*(m:Int))+27)):Int).toNat]++(Itm.dg n 8)))] (λf a=>?_))));refine⟨?_,a.below⟩;show Ending.returned (Value.string (B ([UInt8.ofNat ((IntKind.u8.wrap ((32*(m:Int))+27)):Int).toNat]++(Itm.dg n 8))))=_;rw[Itm.aF,M5 oW,M5 oW,M5 oW,M5 oW,(show UInt8.ofNat (IntKind.u8.wrap ((32*(m:Int))+27)).toNat=UInt8.ofNat (32*m+27)from hb8 m 27 hm oW)]
     try rfl
theorem pX(l:List UInt8)(d:l.length<=R47)(w:World):CP 214 #[.string (B l)] w (Ret (.string (B (Itm.aF 2 l.length++l))) w):=by
 have f:=Itm.aE 2 l.length;have a:=d;unfold R47 at a;refine dF 9 Tryz.func214 ?_;refine zQ 1 (zn (zQ 3 (dZ 5 (U6 (IntKind.u64.wrap (((l).length:Nat):Int))) (N6 ((l).length:Nat)) (M0 (Value.int .u64) (u64_in oW oW)) ?_)));refine dN (λW g=>dK 2 l.length W oW (by first|assumption|(unfold W64;omega)|decide)) (zq 1 (cB (St ((Itm.aF 2 l.length)++l)) (cE _ _ _ _ rfl (Itm.aF 2 l.length) l kR kR oA) ?_));refine zq 1 (zn (aA (gC 2)))
theorem Fm(n:Nat)(g:n<W64)(a:Option Addr)(c:Nat)(w:World):CP 76 #[.agg #[(.int .i64 0),(.int .u64 (n:Int)),(.string (B [])),(.slice a 0 c),(.bool false)]] w (Ret (.string (B (Itm.aF 0 n))) w):=by
 refine dF 51 Tryz.func76 ?_;refine zs (zr (aW (λd=>(zq 1 (zn (zs (zB [0,1,0] [(d,1)] (zn (dM (zB [0,1] [(d,1)] (dN (λW f=>dK 0 n W oW (by first|assumption|(unfold W64;omega)|decide)) (zq 1 (zn (aA (gC 2)))))))))))))))
theorem Fo(l:List UInt8)(g:l.length<=R47)(a:Option Addr)(c:Nat)(w:World):CP 76 #[.agg #[(.int .i64 2),(.int .u64 0),(.string (B l)),(.slice a 0 c),(.bool false)]] w (Ret (.string (B (Itm.aF 2 l.length++l))) w):=by
 have h:=Itm.aE 2 l.length;have f:=g;unfold R47 at f;refine dF 51 Tryz.func76 ?_;refine zs (zr (aW (λd=>(zq 1 (zn (zs (zB [0,1,0] [(d,1)] (zn (cU (zk (zs (zB [0,1,0] [(d,1)] (zn (dM (zs ?_)))))))))))))));refine gI 4 [0,3,0,3,0,1,1,0,3] [(d,1),(d,1),(d,1)] [.val (N6 ((l).length:Nat)),.val (St (Itm.aF 2 l.length))] ⟨?_,?_,trivial⟩ ?_
 ·exact vE (U6 (IntKind.u64.wrap (((l).length:Nat):Int))) (M0 (Value.int .u64) (u64_in oW oW))
 ·exact vC 75 #[(I6 2),(N6 ((l).length:Nat))] (λW j=>dK 2 l.length W oW (by first|assumption|(unfold W64;omega)|decide))
 refine cB (St ((Itm.aF 2 l.length)++l)) (cE _ _ _ _ rfl (Itm.aF 2 l.length) l kR kR oA) ?_;refine zq 1 (zn (aA (gC 2)))
theorem Fp(l:List UInt8)(g:l.length<=R47)(a:Option Addr)(c:Nat)(w:World):CP 76 #[.agg #[(.int .i64 3),(.int .u64 0),(.string (B l)),(.slice a 0 c),(.bool false)]] w (Ret (.string (B (Itm.aF 3 l.length++l))) w):=by
 have h:=Itm.aE 3 l.length;have f:=g;unfold R47 at f;refine dF 51 Tryz.func76 ?_;refine zs (zr (aW (λd=>(zq 1 (zn (zs (zB [0,1,0] [(d,1)] (zn (cU (zk (zs (zB [0,1,0] [(d,1)] (zn (dM (zs ?_)))))))))))))));refine gI 4 [0,3,0,3,0,1,1,0,3] [(d,1),(d,1),(d,1)] [.val (N6 ((l).length:Nat)),.val (St (Itm.aF 3 l.length))] ⟨?_,?_,trivial⟩ ?_
 ·exact vE (U6 (IntKind.u64.wrap (((l).length:Nat):Int))) (M0 (Value.int .u64) (u64_in oW oW))
 ·exact vC 75 #[(I6 3),(N6 ((l).length:Nat))] (λW j=>dK 3 l.length W oW (by first|assumption|(unfold W64;omega)|decide))
 refine cB (St ((Itm.aF 3 l.length)++l)) (cE _ _ _ _ rfl (Itm.aF 3 l.length) l kR kR oA) ?_;refine zq 1 (zn (aA (gC 2)))
theorem Fk(d : Nat)(l : List Itm.Tr)(o : Bool){U : View}{w : World}(hU : See U w)(a : Option Addr)(c : Nat)(E : fR U a l)
    (ih:∀(t:Itm.Tr) (cs:List Value) {U:View} {w:World},(∀a v,U a=some v->w.cell? a=some v)->TV U t cs->Itm.aU d t=true->Itm.szT t<=DK->CP 76 #[.agg cs.toArray] w (Ret (.string (B (Itm.aG t))) w))
    (hr:l.all (Itm.aU d)=true) (N:Itm.szL l<=DK):
    CP 76 #[.agg #[.int .i64 4,.int .u64 0,.string (B []),.slice a l.length c,.bool o]] w (Ret (.string (B ((if o then[159]else Itm.aF 4 l.length)++(Itm.aY l++(if o then[255]else[]))))) w):=by
 have A:=E.len;unfold R47 at A;have a8:=Itm.sH l;have b2:=Itm.aE 4 l.length;have C:=N;unfold DK at C;refine dC 51 Tryz.func76 hU ?_;refine zs (zr (aW (λh=>(zq 1 (zn (zs (zB [0,1,0] [(h,1)] (zn (cU (zk (zs (zB [0,1,0] [(h,1)] (zn (cU (zk (zB [0,1,0,0] [(h,1)] (dZ 27 (U6 (IntKind.u64.wrap (l.length:Int))) (N6 ((l.length:Nat))) (M0 (Value.int .u64) (u64_in oW oW)) ?_)))))))))))))))));let Y:aH:=[(h,.cells [(I6 4),(U6 0),(St []),(.slice a l.length c),(.bool o)].toArray 136 (0,0))];refine dN (λW u=>dK 4 l.length W oW (by first|assumption|(unfold W64;omega)|decide)) (zq 1 (zn ?_));refine dG (α:=List UInt8) (λr=>[1,2,3].zip [(Pt h 0),(St []),(St r)]) (λr=>U) (λr=>Y) (λr=>r=(if o then[159]else Itm.aF 4 l.length)/\r.length<=9) ?_ ?_
 ·refine zB [0,1] [(h,1)] (zn (gK o (λJ=>?_) (λJ=>?_)))
  ·refine zr (zq 1 (zn ?_));refine jn ([159]) ?_;exact⟨by simp only[J,if_true,N9,if_false],by first|omega|(simp only[M9,O8];omega)⟩
  ·refine zk ?_;refine jn (Itm.aF 4 l.length) ?_;exact⟨by simp only[J,if_true,N9,if_false],by first|omega|(simp only[M9,O8];omega)⟩
 intro r j;obtain⟨j,b9⟩:=j;refine zs (zQ 1 (zn (aB (eF (α:=Nat×List UInt8) (λx=>[1,2,3,4].zip [(Pt h 0),(St []),(St x.2),(L6 x.1)]) (λx=>U) (λx=>Y) (λx=>x.1<=l.length/\x.2++Itm.aY (l.drop x.1)=r++Itm.aY l) (λx=>l.length-x.1) (0,r) ?_ ?_))))
 ·exact⟨by simp,rfl⟩
 intro x hx;obtain⟨b6,f⟩:=hx;have O:=M0 List.length f;simp only[L4,M9,O8]at O;refine zs (zB [0,0,1,0,0] [(h,1)] (zn (aZ ((x.1:Int)<(l.length:Int)) (λh1 K=>?_) (λh1 K=>?_))))
 ·refine zk (zs (aB (zr (cF [0,0,1,0] [(h,1)] ?_))));obtain⟨k,g⟩:∃y,(l)[x.1]? =some y:=⟨(l)[x.1]'oW,K8 _⟩;obtain⟨G,I,a7,rfl,M,D⟩:=E.at_ x.1 k g;obtain⟨Z,c1,rfl,a6,b4,b5,b3⟩:=D.form;have X:=M7.1 hr k (K9 g);have b7:=Itm.cV k;have b8:=Itm.Yp g;have V:=qH g;have F:=M0 List.length V;simp only[L4]at F;refine cB (Pt G (I+x.1*5)) (rIx 136 rfl G I l.length c x.1 5) ?_;refine zU G (I+x.1*5) (tC k Z c1) M 136 (.tmp 42) _ Tryz.underlying136 rfl ?_;refine cY 76 #[(tV k Z c1)] (St (Itm.aG k)) (λW u=>ih _ _ u.view D X (by unfold DK;omega)) ?_;refine cB (St (x.2++(Itm.aG k))) (cE _ _ _ _ rfl x.2 (Itm.aG k) kR kR oA) ?_;refine zq 1 (zn (zr (zq 2 (dH 37 ((x.1:Int)+1) (zq 1 (zn ?_))))));refine nx (x.1+1,(x.2++(Itm.aG k))) ?_ ?_
  ·exact⟨by show x.1+1<=_;omega,by rw[<-f,qH g,M6]⟩
  ·show l.length-(x.1+1)<l.length-x.1;omega
 ·refine aI (zs (zB [0,1] [(h,1)] (zn (gK o (λL=>?_) (λL=>?_)))))
  ·refine zr (zq 1 (cB (St (x.2++[255])) (cE _ _ _ _ rfl x.2 [255] kR kR oA) ?_));refine zq 1 (zn (zQ 2 (zn (aA (aO [2] [(St (x.2++[255]))] (λW' u=>?_))))));refine⟨?_,u.below⟩;rw[show x.1=l.length by omega,ag]at f;simp only[Itm.aY,M1]at f;simp only[dD,f,j,L,if_true,N9,if_false,M6,M1]
  ·refine zk (zQ 2 (zn (aA (aO [2] [(St x.2)] (λW' u=>?_)))));refine⟨?_,u.below⟩;rw[show x.1=l.length by omega,ag]at f;simp only[Itm.aY,M1]at f;simp only[dD,f,j,L,if_true,N9,if_false,M6,M1]
theorem iA:∀(d:Nat) (t:Itm.Tr) (cs:List Value) {U:View} {w:World},(∀a v,U a=some v->w.cell? a=some v)->TV U t cs->Itm.aU d t=true->Itm.szT t<=DK->CP 76 #[.agg cs.toArray] w (Ret (.string (B (Itm.aG t))) w)
 |0,t,cs,U,w,_,_,j,_=>by cases j
 |d+1,t,cs,U,w,C,h,j,u=>by
  obtain⟨a,c,rfl,A,E,hs,F⟩:=h.form;unfold Itm.aU at j;rw[L5]at j;obtain⟨r,g⟩:=j;obtain⟨k,n,s,l,o⟩:=t;simp only[Itm.Tr.k,Itm.Tr.n,Itm.Tr.s,Itm.Tr.l,Itm.Tr.o]at *;rw[Itm.szT]at u;rcases Itm.lW r with⟨rfl,rfl,f,rfl⟩|⟨rfl,rfl,f,rfl⟩|⟨rfl,rfl,f,rfl⟩|⟨rfl,rfl,rfl,D⟩
  ·obtain rfl:=O7.1 f;exact Fm n E a c w
  ·obtain rfl:=O7.1 f;exact Fo s hs a c w
  ·obtain rfl:=O7.1 f;exact Fp s hs a c w
  ·exact Fk d l o C a c A (iA d) g oW
def pO(t:Itm.Tr)(v:Value)(V:View):Prop:=∃cs,v=.agg cs.toArray/\TV V t cs
theorem pO.mono{t:Itm.Tr}{v:Value}{V V':View}(a:View.le V V')(h:pO t v V):pO t v V':=by
 obtain⟨cs,e,d⟩:=h;exact⟨cs,e,d.le a⟩
def Ht:Option (Nat×Nat×Bool×Nat)->Value
 |none=>.agg #[.int .i64 0,.int .i64 0,.int .u64 0,.bool false]
 |some (m,n,o,z)=>.agg #[.int .i64 (z:Int),.int .i64 (m:Int),.int .u64 (n:Int),.bool o]
theorem Wz(s:List UInt8)(hs:(s==[])=true)(w:World):CP 110 #[.string (B s)] w (Ret (Ht (none)) w):=by
 refine dF 85 Tryz.func110 ?_;refine zs (zr (aW (λa=>(zn (zs (zQ 1 (cB (.bool (s==[])) (gZ _ _ _ _ rfl s [] kR kR) ?_)))))));refine zn (jG (s==[]) hs ?_);refine zQ 1 (aX 0 a (zn (aA (dW [1] [(a,4)] [(.agg #[(I6 0),(I6 0),(U6 0),qF])] (λf d=>?_)))));exact⟨rfl,d.below⟩
theorem Bt(c:UInt8):IntKind.i64.wrap ((c.toNat:Int).tdiv 32)=((c.toNat/32:Nat):Int):=by
 have:=c.toNat_lt;rw[Int.tdiv_eq_ediv_of_nonneg (Int.natCast_nonneg _),IntWalk.i64_in _ oW];omega
theorem Bu(c:UInt8):(c.toNat:Int).tmod 32=((c.toNat%32:Nat):Int):=by
 rw[X3 (Int.natCast_nonneg _)];omega
theorem SI(s:List UInt8)(c:UInt8)(f:s[0]? =some c)(hs:(s==[])=false)(r:c.toNat%32<24)(w:World):CP 110 #[.string (B s)] w (Ret (Ht (some (c.toNat/32,c.toNat%32,false,1))) w):=by
 have h:=c.toNat_lt;have a:decide (((c.toNat%32:Nat):Int)<24)=true:=R4 oW;have j:IntKind.u64.wrap ((c.toNat%32:Nat):Int)=((c.toNat%32:Nat):Int):=u64_in oW oW;refine dF 85 Tryz.func110 ?_;refine zs (zr (aW (λd=>(zn (zs (zQ 1 (cB (.bool (s==[])) (gZ _ _ _ _ rfl s [] kR kR) ?_)))))));refine zn (dY (s==[]) hs ?_);refine zk (zs ?_);refine gI 0 [0,1,1,1,0,1,1,1,0] [] [.val (.int .u8 (c.toNat:Int)),.val (L6 c.toNat),.val (L6 (c.toNat/32)),.val (.int .u8 (c.toNat:Int)),.val (L6 c.toNat),.val (L6 (c.toNat%32))] ⟨?_,?_,?_,?_,?_,?_,trivial⟩ ?_
 ·exact vR (sQ 9 _ _ rfl s 0 .i64 c kR kR f Tryz.underlying9)
 ·exact vE (I6 (IntKind.i64.wrap (c.toNat:Int))) i6v
 ·exact vE (I6 (IntKind.i64.wrap (((c.toNat:Int)).tdiv 32))) (M0 (Value.int .i64) (Bt c))
 ·exact vR (sQ 9 _ _ rfl s 0 .i64 c kR kR f Tryz.underlying9)
 ·exact vE (I6 (IntKind.i64.wrap (c.toNat:Int))) i6v
 ·exact vE (I6 (((c.toNat:Int)).tmod 32)) (M0 (Value.int .i64) (Bu c))
 refine zq 1 (zn (zs (zQ 2 (zn (jG (decide (((c.toNat%32:Nat):Int)<24)) a ?_)))));refine zQ 3 (dZ 23 (U6 (IntKind.u64.wrap ((c.toNat%32:Nat):Int))) (N6 (c.toNat%32:Nat)) (M0 (Value.int .u64) j) ?_);refine zq 1 (aX 0 d (zn (aA (dW [1] [(d,4)] [(.agg #[(I6 1),(L6 (c.toNat/32)),(N6 (c.toNat%32:Nat)),qF])] (λk g=>?_)))));exact⟨rfl,g.below⟩
theorem JW:∀(l:List UInt8) (n:Nat) (c:UInt8),eE n (l++[c])=eE n l*256+c.toNat
 | [],n,c=>rfl
 |a::l,n,c=>JW l (n*256+a.toNat) c
theorem MK:∀(l:List UInt8) (n:Nat),eE n l=n*256^l.length+eE 0 l
 | [],n=>by simp[eE]
 |c::l,n=>by
  rw[show eE n (c::l)=eE (n*256+c.toNat) l from rfl,show eE 0 (c::l)=eE (0*256+c.toNat) l from rfl,MK l (n*256+c.toNat),MK l (0*256+c.toNat),M9,bE];rw[W6,bF,O0,Nat.mul_assoc,Nat.mul_comm 256];omega
theorem WO:∀(l:List UInt8) (a:Nat),Itm.dg (eE a l) l.length=l
 | [],_=>rfl
 |c::l,a=>by
  have h:=sD l 0 0 (by simp);rw[O0]at h;rw[M9,Itm.dg,show eE a (c::l)=eE (a*256+c.toNat) l from rfl,WO l,MK l,Z1,Nat.add_mul_div_right _ _ (Nat.pow_pos (by decide)),Nat.div_eq_of_lt h,O0];congr 1;apply UInt8.toNat_inj.1;have:=c.toNat_lt;simp
theorem GK{m z j:Nat}{c:UInt8}{s:List UInt8}(f:s[0]? =some c)(hm:c.toNat/32=m)(C:c.toNat%32=24+j)(A:z=2^j)(B:j<4)(hs:1+z<=s.length):
  (Itm.aF m (eE 0 ((s.drop 1).take z))==s.take (1+z))=((Itm.aF m (eE 0 ((s.drop 1).take z))).length==1+z):=by
 have u:((s.drop 1).take z).length=z:=by rw[O3,N8];omega
 have r:=WO ((s.drop 1).take z) 0;rw[u]at r;have k:s.take (1+z)=c::(s.drop 1).take z:=by
  cases s with
  |nil=>simp at f
  |cons a s=>
   simp only[P5,L0]at f;subst f;rw[Z1,S9];rfl
 have g:UInt8.ofNat (32*m+(24+j))=c:=by
  apply UInt8.toNat_inj.1;have:=c.toNat_lt;simp;omega
 cases d:((Itm.aF m (eE 0 ((s.drop 1).take z))).length==1+z)with
 |false=>
  rw[M2]at d ⊢;intro h;apply d;rw[h,O3];omega
 |true=>
  rw[S5]at d ⊢;rw[k];generalize eE 0 ((s.drop 1).take z)=N at *;unfold Itm.aF at d ⊢;have:j=0\/j=1\/j=2\/j=3:=by omega
  rcases this with rfl|rfl|rfl|rfl<;>subst A<;>(repeat' split at d)<;>simp only[M9,O8,Itm.fP]at d<;>first|omega|skip
  all_goals(repeat (first|rw[M5 (by assumption)]|rw[N1 (by assumption)]))
  all_goals(show UInt8.ofNat _::_=_;rw[show Itm.dg _ _=_ from r];exact M0 (· ::_) g)
theorem Ts(a b:Nat):((a:Int) !=(b:Int))= !(a==b):=by
 rw[T7];simp;omega
theorem Ix{s:List UInt8}(x:Nat)(f:x<=8):eE 0 ((s.drop 1).take x)<W64:=by
 have h:=sD ((s.drop 1).take x) 0 0 (by simp);have a:256^(0+((s.drop 1).take x).length)<=256^8:=W7 (by decide) (by rw[O3];omega);have d:(256:Nat)^8=W64:=by decide
 exact X5 h (X0 a (Nat.le_of_eq d))
theorem Jq{s:List UInt8}{x:Nat}{y:UInt8}(d:s[x+1]? =some y):((eE 0 ((s.drop 1).take x):Nat):Int)*256+(y.toNat:Int)=((eE 0 ((s.drop 1).take (x+1)):Nat):Int):=by
 have a:(s.drop 1)[x]? =some y:=by rw[Z4,Z1];exact d
 rw[Q9,a,Option.toList_some,JW];omega
theorem Iw{s:List UInt8}(x:Nat)(f:x<8):eE 0 ((s.drop 1).take x)<=72057594037927935:=by
 have h:=sD ((s.drop 1).take x) 0 0 (by simp);have a:256^(0+((s.drop 1).take x).length)<=256^7:=W7 (by decide) (by rw[O3];omega);have d:(256:Nat)^7=72057594037927936:=by decide
 omega
theorem DX{m:Nat}(h:qL (m:Int)=true):m≠0/\m≠1/\m≠6:=by
 unfold qL at h;simp only[T1,L5,N0,S5]at h;omega
theorem Pk{m:Nat}(h:m<8)(a:m≠0/\m≠1/\m≠6):qL (m:Int)=true:=by
 unfold qL;simp only[T1,L5,N0,S5];omega
theorem Wy(s:List UInt8)(c:UInt8)(Y:s[0]? =some c)(hs:(s==[])=false)(hk:24<=c.toNat%32)(N:s.length<=R47)(w:World):CP 110 #[.string (B s)] w (Ret (Ht (hd1 s (c.toNat/32) (c.toNat%32))) w):=by
 have c1:=c.toNat_lt;unfold R47 at N;have b7:decide (((c.toNat%32:Nat):Int)<24)=false:=P0 oW;refine dF 85 Tryz.func110 ?_;refine zs (zr (aW (λd=>(zn (zs (zQ 1 (cB (.bool (s==[])) (gZ _ _ _ _ rfl s [] kR kR) ?_)))))));refine zn (dY (s==[]) hs ?_);refine zk (zs ?_);refine gI 0 [0,1,1,1,0,1,1,1,0] [] [.val (.int .u8 (c.toNat:Int)),.val (L6 c.toNat),.val (L6 (c.toNat/32)),.val (.int .u8 (c.toNat:Int)),.val (L6 c.toNat),.val (L6 (c.toNat%32))] ⟨?_,?_,?_,?_,?_,?_,trivial⟩ ?_
 ·exact vR (sQ 9 _ _ rfl s 0 .i64 c kR kR Y Tryz.underlying9)
 ·exact vE (I6 (IntKind.i64.wrap (c.toNat:Int))) i6v
 ·exact vE (I6 (IntKind.i64.wrap (((c.toNat:Int)).tdiv 32))) (M0 (Value.int .i64) (Bt c))
 ·exact vR (sQ 9 _ _ rfl s 0 .i64 c kR kR Y Tryz.underlying9)
 ·exact vE (I6 (IntKind.i64.wrap (c.toNat:Int))) i6v
 ·exact vE (I6 (((c.toNat:Int)).tmod 32)) (M0 (Value.int .i64) (Bu c))
 refine zq 1 (zn (zs (zQ 2 (zn (dY (decide (((c.toNat%32:Nat):Int)<24)) b7 ?_)))));refine zk (zs ?_);refine dG (α:=Bool) (λI=>[0,2,3,4,38].zip [(St s),(Pt d 0),(L6 (c.toNat/32)),(L6 (c.toNat%32)),(.bool I)]) (λI=>View.no) (λI=>[(bK d [(I6 0),(I6 0),(U6 0),qF] 175)]) (λI=>I=true↔(c.toNat%32=31/\(c.toNat/32≠0/\(c.toNat/32≠1/\c.toNat/32≠6)))) ?_ ?_
 ·refine zr (zq 3 (jZ 27 ((c.toNat%32:Nat):Int) 31 (λh0 Z=>?_) (λh0 Z=>?_)))
  ·refine zq 4 (jB 31 ((c.toNat/32:Nat):Int) 0 (λh1 a6=>?_) (λh1 a6=>?_))
   ·refine zq 4 (jB 35 ((c.toNat/32:Nat):Int) 1 (λh2 a7=>?_) (λh2 a7=>?_))
    ·refine zq 3 (zn ?_);refine jn (((c.toNat/32:Nat):Int) !=6) ?_;exact⟨(λh=>by have:=Q0.1 h;omega),(λh=>Q0.2 oW)⟩
    ·refine zq 3 (zn ?_);refine jn false ?_;exact⟨(λh=>by cases h),(λh=>by omega)⟩
   ·refine zq 7 (zn ?_);refine jn false ?_;exact⟨(λh=>by cases h),(λh=>by omega)⟩
  ·refine zq 11 (zn ?_);refine jn false ?_;exact⟨(λh=>by cases h),(λh=>by omega)⟩
 intro I A;refine gK I (λC=>?_) (λC=>?_)
 ·refine zQ 2 (aX 0 d (zn (aA (dW [1] [(d,4)] [(.agg #[(I6 1),(L6 (c.toNat/32)),(U6 0),qT])] (λV D=>?_)))));unfold hd1;have b8:=A.1 C;rw[M5 oW,N1 ⟨b8.1,Pk oW oW⟩];exact⟨rfl,D.below⟩
 ·refine zk (zQ 1 (zn ?_));refine dG (α:=Nat) (λG=>[0,2,3,4,5].zip [(St s),(Pt d 0),(L6 (c.toNat/32)),(L6 (c.toNat%32)),(L6 G)]) (λG=>View.no) (λG=>[(bK d [(I6 0),(I6 0),(U6 0),qF] 175)]) (λG=>(c.toNat%32=24/\G=1)\/(c.toNat%32≠24/\G=0)) ?_ ?_
  ·refine zQ 2 (zn (fC ((c.toNat%32:Nat):Int) 24 (λh4 a8=>?_) (λh4 a8=>?_)))
   ·refine zr (zq 1 (zn ?_));refine jn 1 ?_;omega
   ·refine zk ?_;refine jn 0 ?_;omega
  intro G c4;refine dG (α:=Nat) (λE=>[0,2,3,4,5].zip [(St s),(Pt d 0),(L6 (c.toNat/32)),(L6 (c.toNat%32)),(L6 E)]) (λE=>View.no) (λE=>[(bK d [(I6 0),(I6 0),(U6 0),qF] 175)]) (λE=>(c.toNat%32=24/\E=1)\/(c.toNat%32=25/\E=2)\/((c.toNat%32≠24/\c.toNat%32≠25)/\E=0)) ?_ ?_
  ·refine zQ 2 (zn (fC ((c.toNat%32:Nat):Int) 25 (λh5 b2=>?_) (λh5 b2=>?_)))
   ·refine zr (zq 1 (zn ?_));refine jn 2 ?_;omega
   ·refine zk ?_;refine jn G ?_;omega
  intro E c6;refine dG (α:=Nat) (λk=>[0,2,3,4,5].zip [(St s),(Pt d 0),(L6 (c.toNat/32)),(L6 (c.toNat%32)),(L6 k)]) (λk=>View.no) (λk=>[(bK d [(I6 0),(I6 0),(U6 0),qF] 175)]) (λk=>(c.toNat%32=24/\k=1)\/(c.toNat%32=25/\k=2)\/(c.toNat%32=26/\k=4)\/(((c.toNat%32≠24/\c.toNat%32≠25)/\c.toNat%32≠26)/\k=0)) ?_ ?_
  ·refine zQ 2 (zn (fC ((c.toNat%32:Nat):Int) 26 (λh6 b3=>?_) (λh6 b3=>?_)))
   ·refine zr (zq 1 (zn ?_));refine jn 4 ?_;omega
   ·refine zk ?_;refine jn E ?_;omega
  intro k c7;refine dG (α:=Nat) (λa=>[0,2,3,5].zip [(St s),(Pt d 0),(L6 (c.toNat/32)),(L6 a)]) (λa=>View.no) (λa=>[(bK d [(I6 0),(I6 0),(U6 0),qF] 175)]) (λa=>a<=8/\((28<=c.toNat%32/\a=0)\/(c.toNat%32<28/\(1<=a/\a=2^(c.toNat%32-24))))) ?_ ?_
  ·refine zQ 2 (zn (fC ((c.toNat%32:Nat):Int) 27 (λh7 b4=>?_) (λh7 b4=>?_)))
   ·refine zr (zq 1 (zn ?_));refine jn 8 ?_;have r:(c.toNat%32=24/\8=1)\/(c.toNat%32=25/\8=2)\/(c.toNat%32=26/\8=4)\/(c.toNat%32=27/\8=8)\/(28<=c.toNat%32/\8=0):=by omega
    rcases r with⟨f,g⟩|⟨f,g⟩|⟨f,g⟩|⟨f,g⟩|⟨f,g⟩
    ·exact⟨by omega,.inr ⟨by omega,by omega,by rw[f,g]⟩⟩
    ·exact⟨by omega,.inr ⟨by omega,by omega,by rw[f,g]⟩⟩
    ·exact⟨by omega,.inr ⟨by omega,by omega,by rw[f,g]⟩⟩
    ·exact⟨by omega,.inr ⟨by omega,by omega,by rw[f,g]⟩⟩
    ·exact⟨by omega,.inl ⟨f,g⟩⟩
   ·refine zk ?_;refine jn k ?_;have r:(c.toNat%32=24/\k=1)\/(c.toNat%32=25/\k=2)\/(c.toNat%32=26/\k=4)\/(c.toNat%32=27/\k=8)\/(28<=c.toNat%32/\k=0):=by omega
    rcases r with⟨f,g⟩|⟨f,g⟩|⟨f,g⟩|⟨f,g⟩|⟨f,g⟩
    ·exact⟨by omega,.inr ⟨by omega,by omega,by rw[f,g]⟩⟩
    ·exact⟨by omega,.inr ⟨by omega,by omega,by rw[f,g]⟩⟩
    ·exact⟨by omega,.inr ⟨by omega,by omega,by rw[f,g]⟩⟩
    ·exact⟨by omega,.inr ⟨by omega,by omega,by rw[f,g]⟩⟩
    ·exact⟨by omega,.inl ⟨f,g⟩⟩
  intro a b9;obtain⟨c8,K⟩:=b9;refine zs (zQ 3 (jZ 51 (a:Int) 0 (λh8 b5=>?_) (λh8 b5=>?_)))
  ·refine zq 6 (zn (dM (zQ 1 (aX 0 d (zn (aA (dW [1] [(d,4)] [(.agg #[(I6 0),(I6 0),(U6 0),qF])] (λV D=>?_))))))));unfold hd1;rw[M5 oW,M5 (λh=>by have:=DX h.2;have:=A.2 ⟨h.1,by omega⟩;rw[this]at C;cases C),N1 (by have:=eq_of_beq h8;omega)];exact⟨rfl,D.below⟩
  ·refine zq 4 (dZ 55 (I6 (IntKind.i64.wrap ((a:Int)+1))) (L6 (1+a)) (M0 (Value.int .i64) (by rw[IntWalk.i64_in _ oW];omega)) ?_);refine zq 2 (zn (aZ ((((s).length:Nat):Int)<((1+a:Nat):Int)) (λX b6=>?_) (λX b6=>?_)))
   ·refine zQ 1 (aX 0 d (zn (aA (dW [1] [(d,4)] [(.agg #[(I6 0),(I6 0),(U6 0),qF])] (λV D=>?_)))));unfold hd1;rw[M5 oW,M5 (λh=>by have:=DX h.2;have:=A.2 ⟨h.1,by omega⟩;rw[this]at C;cases C),M5 oW];have j:a=2^(c.toNat%32-24):=by
     rcases K with⟨_,r⟩|⟨_,_,r⟩
     ·exfalso;omega
     ·exact r
    rw[<-j];have M:=P2 X;unfold hd2;rw[N1 (R4 oW)];exact⟨rfl,D.below⟩
   ·refine zk (zQ 1 (zn (zs (zQ 1 (zn (aB (eF (α:=Nat) (λx=>[0,2,3,5,6,7].zip [(St s),(Pt d 0),(L6 (c.toNat/32)),(L6 a),(N6 (eE 0 ((s.drop 1).take x))),(L6 (x+1))]) (λx=>View.no) (λx=>[(bK d [(I6 0),(I6 0),(U6 0),qF] 175)]) (λx=>x<=a) (λx=>a-x) 0 ?_ ?_)))))))
    ·exact M8 _
    intro x hx;have c0:=Iw (s:=s) x;refine zs (zQ 3 (zn (aZ (((x+1:Nat):Int)<=(a:Int)) (λa1 L=>?_) (λa1 L=>?_))))
    ·refine zk (zs (aB (zr (zq 2 (dZ 65 (U6 (IntKind.u64.wrap ((((eE 0 ((s.drop 1).take x)):Nat):Int)*256))) (U6 ((((eE 0 ((s.drop 1).take x)):Nat):Int)*256)) (M0 (Value.int .u64) (u64_in oW oW)) ?_)))));refine zq 2 ?_;obtain⟨F,O⟩:∃y,(s)[(x+1)]? =some y:=⟨_,K8 (by first|assumption|omega)⟩;refine cB (.int .u8 (F.toNat:Int)) (sQ 9 _ _ rfl s (x+1) .i64 F kR kR O Tryz.underlying9) ?_;have c2:=F.toNat_lt;refine zq 1 (dZ 69 (U6 (IntKind.u64.wrap (F.toNat:Int))) (N6 (F.toNat:Nat)) (M0 (Value.int .u64) (u64_in oW oW)) ?_);refine zq 1 (dZ 70 (U6 (IntKind.u64.wrap (((((eE 0 ((s.drop 1).take x)):Nat):Int)*256)+(F.toNat:Int)))) (U6 (((((eE 0 ((s.drop 1).take x)):Nat):Int)*256)+(F.toNat:Int))) (M0 (Value.int .u64) (u64_in oW oW)) ?_);refine zq 1 (zn (zr (dZ 6 (U6 (((((eE 0 ((s.drop 1).take x)):Nat):Int)*256)+(F.toNat:Int))) (N6 (eE 0 ((s.drop 1).take (x+1)))) (M0 (Value.int .u64) (Jq O)) ?_)));refine zq 2 (dH 63 (((x+1:Nat):Int)+1) (zq 1 (zn ?_)));refine nx (x+1) ?_ ?_
     ·show x+1<=a;omega
     ·show a-(x+1)<a-x;omega
    ·refine aI (zs (zs ?_));refine gI 2 [0,0,1,0,0,1,1] [] [.val (St (Itm.aF (c.toNat/32) (eE 0 ((s.drop 1).take x)))),.val (L6 (1+a)),.val (St (s.take (1+a)))] ⟨?_,?_,?_,trivial⟩ ?_
     ·exact vC 75 #[(L6 (c.toNat/32)),(N6 (eE 0 ((s.drop 1).take x)))] (λW D=>dK (c.toNat/32) (eE 0 ((s.drop 1).take x)) W oW (Ix x oW))
     ·exact vE (I6 (IntKind.i64.wrap ((a:Int)+1))) (M0 (Value.int .i64) (by rw[IntWalk.i64_in _ oW];omega))
     ·exact vR (iY 9 _ none (some _) rfl s 0 (1+a) (s.take (1+a)) kR rfl (show evS _ _=_ by kernel_rfl) nL nL rfl Tryz.underlying9)
     refine cB (.bool (!((Itm.aF (c.toNat/32) (eE 0 ((s.drop 1).take x)))==(s.take (1+a))))) (mI _ _ _ _ rfl (Itm.aF (c.toNat/32) (eE 0 ((s.drop 1).take x))) (s.take (1+a)) kR kR) ?_;refine zn (gK (!((Itm.aF (c.toNat/32) (eE 0 ((s.drop 1).take x)))==(s.take (1+a)))) (λJ=>?_) (λJ=>?_))
     ·refine zQ 1 (aX 0 d (zn (aA (dW [1] [(d,4)] [(.agg #[(I6 0),(I6 0),(U6 0),qF])] (λV D=>?_)))));unfold hd1;rw[M5 oW,M5 (λh=>by have:=DX h.2;have:=A.2 ⟨h.1,by omega⟩;rw[this]at C;cases C),M5 oW];have j:a=2^(c.toNat%32-24):=by
       rcases K with⟨_,r⟩|⟨_,_,r⟩
       ·exfalso;omega
       ·exact r
      have M:=O5 X;obtain rfl:x=a:=by omega
      have u:(!(Itm.aF (c.toNat/32) (eE 0 ((s.drop 1).take x))==s.take (1+x)))=true:=J;rw[GK Y rfl (show c.toNat%32=24+(c.toNat%32-24) by omega) j oW oW,<-Ts]at u;rw[<-j];unfold hd2;rw[M5 (by rw[P0 oW];exact M3),N1 u];exact⟨rfl,D.below⟩
     ·refine zk (zQ 2 (dZ 81 (I6 (IntKind.i64.wrap ((a:Int)+1))) (L6 (1+a)) (M0 (Value.int .i64) (by rw[IntWalk.i64_in _ oW];omega)) ?_));refine zq 3 (aX 0 d (zn (aA (dW [1] [(d,4)] [(.agg #[(L6 (1+a)),(L6 (c.toNat/32)),(N6 (eE 0 ((s.drop 1).take x))),qF])] (λV D=>?_)))));unfold hd1;rw[M5 oW,M5 (λh=>by have:=DX h.2;have:=A.2 ⟨h.1,by omega⟩;rw[this]at C;cases C),M5 oW];have j:a=2^(c.toNat%32-24):=by
       rcases K with⟨_,r⟩|⟨_,_,r⟩
       ·exfalso;omega
       ·exact r
      have M:=O5 X;obtain rfl:x=a:=by omega
      have u:(!(Itm.aF (c.toNat/32) (eE 0 ((s.drop 1).take x))==s.take (1+x)))=false:=J;rw[GK Y rfl (show c.toNat%32=24+(c.toNat%32-24) by omega) j oW oW,<-Ts]at u;rw[<-j];unfold hd2;rw[M5 (by rw[P0 oW];exact M3),M5 (by rw[u];exact M3)];exact⟨rfl,D.below⟩
theorem Wx(s:List UInt8)(w:World)(a:s.length<=R47):CP 110 #[.string (B s)] w (Ret (Ht (hdF s)) w):=by
 unfold hdF;cases f:s[0]? with
 |none=>exact Wz s (by cases s<;>simp_all) w
 |some c=>
  have hs:(s==[])=false:=by cases s<;>simp_all
  show Calls _ _ _ _ (Ret (Ht (hd1 s (c.toNat/32) (c.toNat%32))) w);by_cases d:c.toNat%32<24
  ·unfold hd1;rw[N1 d];exact SI s c f hs d w
  ·exact Wy s c f hs oW a w
def dP(s:List UInt8)(i d:Nat)(v:Value)(_:View):Prop:=match itF d (s.drop i)with
 |some (_,k)=>v=.tuple #[.int .i64 ((i+k:Nat):Int),.int .i64 0]
 |none=>∃p z:Int,z≠0/\v=.tuple #[.int .i64 p,.int .i64 z]
def Sn(s:List UInt8)(d:Nat):Prop:=∀(i:Nat),i<=s.length->∀(w:World) {U:View},(∀a v,U a=some v->w.cell? a=some v)->CP 70 #[.string (B s),.int .i64 (i:Int),.int .i64 (d:Int)] w (fV w U (dP s i d))
theorem oB{s:List UInt8}{x:Option (Nat×Nat×Bool×Nat)}(d:hdF s=x)(w:World)(a:s.length<=R47):CP 110 #[.string (B s)] w (Ret (Ht x) w):=d▸Wx s w a
theorem rL{s:List UInt8}{m n z:Nat}{b:Bool}(h:hdF s=some (m,n,b,z)):1<=z:=by
 unfold hdF at h;split at h
 ·cases h
 ·unfold hd1 at h;split at h
  ·cases h;omega
  ·split at h
   ·cases h;omega
   ·split at h
    ·cases h
    ·rw[(Va h).2.2.2];exact bR 1 _
theorem WJ(s:List UInt8)(i d:Nat)(u:i<=s.length)(hs:s.length<=1000000)(r:d<=1000)(w:World){U:View}(j:See U w)(h:hdF (s.drop i)=none):CP 70 #[.string (B s),.int .i64 (i:Int),.int .i64 (d:Int)] w (fV w U (dP s i d)):=by
 have a:itF d (s.drop i)=none:=by cases d with
  |zero=>rfl
  |succ d=>unfold itF;rw[h]
 refine dC 125 Tryz.func70 j ?_;refine zQ 2 (zn (zQ 2 (cB (St (s.drop i)) (iY 9 _ (some _) none rfl s i s.length (s.drop i) kR (show evS _ _=_ by kernel_rfl) rfl nL nL (dX _ _) Tryz.underlying9) ?_)));refine dN (λW g=>oB h W (by rw[N8];unfold R47;omega)) (aW (λf=>(aX 0 f (zn (zs (zB [0,1,0] [(f,1)] (zn (dM (zQ 3 (zn (aA (aO [6,7] [(I6 (i:Int)),(I6 2)] (λk g=>?_)))))))))))));exact aJ g (View.le_refl _) (by unfold dP;rw[a];exact⟨_,_,by decide,rfl⟩)
theorem TK(s:List UInt8)(i d m n z:Nat)(K:i<=s.length)(hs:s.length<=1000000)(J:d<=1000)(w:World){U:View}(G:See U w)(b:Bool)(f:hdF (s.drop i)=some (m,n,b,z))(C:m≠0)(D:m≠2)(E:m≠3)(F:m≠4):CP 70 #[.string (B s),.int .i64 (i:Int),.int .i64 (d:Int)] w (fV w U (dP s i d)):=by
 have u:((z:Int)==0)=false:=M2.2 (by have:=rL f;omega);have h:((m:Int) !=0)=true:=Q0.2 oW;have j:((m:Int) !=2)=true:=Q0.2 oW;have k:((m:Int) !=3)=true:=Q0.2 oW;have r:((m:Int) !=4)=true:=Q0.2 oW;have g:itF d (s.drop i)=none:=by cases d with
  |zero=>rfl
  |succ d=>unfold itF;rw[f];simp only[C,D,E,F,if_false]
 refine dC 125 Tryz.func70 G ?_;refine zQ 2 (zn (zQ 2 (cB (St (s.drop i)) (iY 9 _ (some _) none rfl s i s.length (s.drop i) kR (show evS _ _=_ by kernel_rfl) rfl nL nL (dX _ _) Tryz.underlying9) ?_)));refine dN (λW A=>oB f W (by rw[N8];unfold R47;omega)) (aW (λa=>(aX 0 a (zn (zs (zB [0,1,0] [(a,1)] (zn (dY ((z:Int)==0) u ?_))))))));refine zk (zs (zB [0,1,0,0] [(a,1)] (dZ 24 (.bool ((m:Int) !=0)) qT (M0 Value.bool h) ?_)));refine cF [0,1,0,0,0] [(a,1)] (dZ 29 (.bool ((m:Int) !=2)) qT (M0 Value.bool j) ?_);refine cF [0,1,0,0,0] [(a,1)] (dZ 34 (.bool ((m:Int) !=3)) qT (M0 Value.bool k) ?_);refine cF [0,1,0,0] [(a,1)] (zn (jG ((m:Int) !=4) r ?_));refine zQ 3 (zn (aA (aO [6,7] [(I6 (i:Int)),(I6 2)] (λI A=>?_))));exact aJ A (View.le_refl _) (by unfold dP;rw[g];exact⟨_,_,by decide,rfl⟩)
theorem ZS(s:List UInt8)(i d m n z:Nat)(K:i<=s.length)(hs:s.length<=1000000)(J:d<=1000)(w:World){U:View}(G:See U w)(b:Bool)(u:hdF (s.drop i)=some (m,n,b,z))(g:d=0):CP 70 #[.string (B s),.int .i64 (i:Int),.int .i64 (d:Int)] w (fV w U (dP s i d)):=by
 have r:((z:Int)==0)=false:=M2.2 (by have:=rL u;omega);have k:((d:Int)==0)=true:=by rw[g];rfl
 have h:itF d (s.drop i)=none:=by rw[g];rfl
 refine dC 125 Tryz.func70 G ?_;refine zQ 2 (zn (zQ 2 (cB (St (s.drop i)) (iY 9 _ (some _) none rfl s i s.length (s.drop i) kR (show evS _ _=_ by kernel_rfl) rfl nL nL (dX _ _) Tryz.underlying9) ?_)));refine dN (λW j=>oB u W (by rw[N8];unfold R47;omega)) (aW (λa=>(aX 0 a (zn (zs (zB [0,1,0] [(a,1)] (zn (dY ((z:Int)==0) r ?_))))))));refine zk (zs ?_);refine dG (α:=Bool) (λf=>[0,1,2,6,7,8,38].zip [(St s),(I6 (i:Int)),(I6 (d:Int)),(I6 0),(I6 0),(Pt a 0),(.bool f)]) (λf=>U) (λf=>[(bK a [(L6 z),(L6 m),(N6 (n:Nat)),(.bool b)] 175)]) (λf=>True) ?_ ?_
 ·refine zr (cF [0,1,0,0] [(a,1)] (cN 24 ((m:Int) !=0) (λC=>?_) (λC=>?_)))
  ·refine cF [0,1,0,0,0] [(a,1)] (cN 29 ((m:Int) !=2) (λD=>?_) (λD=>?_))
   ·refine cF [0,1,0,0,0] [(a,1)] (cN 34 ((m:Int) !=3) (λE=>?_) (λE=>?_))
    ·refine cF [0,1,0,0] [(a,1)] (zn ?_);refine jn ((m:Int) !=4) ?_;trivial
    ·refine zq 4 (zn ?_);refine jn false ?_;trivial
   ·refine zq 9 (zn ?_);refine jn false ?_;trivial
  ·refine zq 14 (zn ?_);refine jn false ?_;trivial
 intro f I;refine gK f (λF=>?_) (λF=>?_)
 ·refine zQ 3 (zn (aA (aO [6,7] [(I6 (i:Int)),(I6 2)] (λA j=>?_))));exact aJ j (View.le_refl _) (by unfold dP;rw[h];exact⟨_,_,by decide,rfl⟩)
 ·refine zk (zs (zQ 2 (zn (jG ((d:Int)==0) k ?_))));refine zQ 3 (zn (aA (aO [6,7] [(I6 (i:Int)),(I6 3)] (λA j=>?_))));exact aJ j (View.le_refl _) (by unfold dP;rw[h];exact⟨_,_,by decide,rfl⟩)
theorem Uo(s:List UInt8)(i d n z:Nat)(F:i<=s.length)(hs:s.length<=1000000)(E:d<=1000)(w:World){U:View}(A:See U w)(b:Bool)(f:hdF (s.drop i)=some (0,n,b,z))(C:0<d):CP 70 #[.string (B s),.int .i64 (i:Int),.int .i64 (d:Int)] w (fV w U (dP s i d)):=by
 have j:((z:Int)==0)=false:=M2.2 (by have:=rL f;omega);have r:=(eT f).1;rw[N8]at r;have g:((d:Int)==0)=false:=M2.2 oW;have h:itF d (s.drop i)=some (.mk 0 n [] [] false,z):=by
  obtain⟨d,rfl⟩:∃k,d=k+1:=⟨d-1,by omega⟩;unfold itF;rw[f];rfl
 refine dC 125 Tryz.func70 A ?_;refine zQ 2 (zn (zQ 2 (cB (St (s.drop i)) (iY 9 _ (some _) none rfl s i s.length (s.drop i) kR (show evS _ _=_ by kernel_rfl) rfl nL nL (dX _ _) Tryz.underlying9) ?_)));refine dN (λW u=>oB f W (by rw[N8];unfold R47;omega)) (aW (λa=>(aX 0 a (zn (zs (zB [0,1,0] [(a,1)] (zn (dY ((z:Int)==0) j ?_))))))));refine zk (zs (zB [0,1,0,0,0,0,0,0,0,0,0,0,0,0,0,0,0,0] [(a,1)] (zn (cU (zk (zs (zQ 2 (zn (dY ((d:Int)==0) g ?_)))))))));refine zk (zB [0,0,1,0] [(a,1)] (dH 46 ((i:Int)+(z:Int)) (zq 1 (zn (zs (zB [0,1,0] [(a,1)] (zn (dM (zQ 3 (zn (aA (aO [6,7] [(I6 ((i:Int)+(z:Int))),(I6 0)] (λD u=>?_)))))))))))));exact aJ u (View.le_refl _) (by unfold dP;rw[h];rfl)
theorem ZT(s:List UInt8)(i d m n z:Nat)(X:i<=s.length)(hs:s.length<=1000000)(V:d<=1000)(w:World){U:View}(M:See U w)(g:hdF (s.drop i)=some (m,n,true,z))(N:0<d)(hm:m=2\/m=3):CP 70 #[.string (B s),.int .i64 (i:Int),.int .i64 (d:Int)] w (fV w U (dP s i d)):=by
 have C:((z:Int)==0)=false:=M2.2 (by have:=rL g;omega);have u:((m:Int)==0)=false:=M2.2 oW;have A:decide ((m:Int)<4)=true:=R4 oW;have D:=(eT g).1;rw[N8]at D;have j:((d:Int)==0)=false:=M2.2 oW;have r:itF d (s.drop i)=none:=by
  obtain⟨d,rfl⟩:∃k,d=k+1:=⟨d-1,by omega⟩;unfold itF;rw[g];rcases hm with rfl|rfl<;>rfl
 refine dC 125 Tryz.func70 M ?_;refine zQ 2 (zn (zQ 2 (cB (St (s.drop i)) (iY 9 _ (some _) none rfl s i s.length (s.drop i) kR (show evS _ _=_ by kernel_rfl) rfl nL nL (dX _ _) Tryz.underlying9) ?_)));refine dN (λW E=>oB g W (by rw[N8];unfold R47;omega)) (aW (λa=>(aX 0 a (zn (zs (zB [0,1,0] [(a,1)] (zn (dY ((z:Int)==0) C ?_))))))));refine zk (zs ?_);refine dG (α:=Bool) (λf=>[0,1,2,6,7,8,38].zip [(St s),(I6 (i:Int)),(I6 (d:Int)),(I6 0),(I6 0),(Pt a 0),(.bool f)]) (λf=>U) (λf=>[(bK a [(L6 z),(L6 m),(N6 (n:Nat)),qT] 175)]) (λf=>f=false) ?_ ?_
 ·refine zr (cF [0,1,0,0] [(a,1)] (jB 24 (m:Int) 0 (λF G=>?_) (λF _=>?_)))
  ·refine cF [0,1,0,0,0] [(a,1)] (jB 29 (m:Int) 2 (λI J=>?_) (λI _=>?_))
   ·refine cF [0,1,0,0,0] [(a,1)] (jB 34 (m:Int) 3 (λK L=>?_) (λK _=>?_))
    ·refine cF [0,1,0,0] [(a,1)] (zn ?_);refine jn ((m:Int) !=4) ?_;exfalso;omega
    ·refine zq 4 (zn ?_);refine jn false ?_;rfl
   ·refine zq 9 (zn ?_);refine jn false ?_;rfl
  ·refine zq 14 (zn ?_);refine jn false ?_;rfl
 intro f h;refine dY f h ?_;refine zk (zs (zQ 2 (zn (dY ((d:Int)==0) j ?_))));refine zk (zB [0,0,1,0] [(a,1)] (dH 46 ((i:Int)+(z:Int)) (zq 1 (zn (zs (zB [0,1,0] [(a,1)] (zn (dY ((m:Int)==0) u ?_))))))));refine zk (zs (zB [0,1,0] [(a,1)] (zn (jG (decide ((m:Int)<4)) A ?_))));refine zs (zB [0,1,0,0,0,0,0,0,0,0,0,0] [(a,1)] (zn (dM (zQ 3 (zn (aA (aO [6,7] [(I6 (i:Int)),(I6 2)] (λO E=>?_))))))));exact aJ E (View.le_refl _) (by unfold dP;rw[r];exact⟨_,_,by decide,rfl⟩)
theorem Up(s:List UInt8)(i d m n z:Nat)(hi:i<=s.length)(hs:s.length<=1000000)(hd:d<=1000)(w:World){U:View}(hU:See U w)(u:hdF (s.drop i)=some (m,n,false,z))(a6:0<d)(hm:m=2\/m=3):CP 70 #[.string (B s),.int .i64 (i:Int),.int .i64 (d:Int)] w (fV w U (dP s i d)):=by
 have L:((z:Int)==0)=false:=M2.2 (by have:=rL u;omega);have J:((m:Int)==0)=false:=M2.2 oW;have K:decide ((m:Int)<4)=true:=R4 oW;have M:=(eT u).1;rw[N8]at M;have a8:=(DG u).1;have I:((d:Int)==0)=false:=M2.2 oW;have f:itF d (s.drop i)=oJ (m:Int) (tZ (s.drop i) n z false 1073741824):=by
  obtain⟨d,rfl⟩:∃k,d=k+1:=⟨d-1,by omega⟩;unfold itF;rw[u];rcases hm with rfl|rfl<;>rfl
 have g:(s.drop i).length<n+z->itF d (s.drop i)=none:=λh=>by
  have F:tZ (s.drop i) n z false 1073741824=([],⟨s.drop i,0,0,2,0⟩):=by
   unfold tZ;rw[M5 M3,N1 (R4 oW)]
  rw[f,F];rfl
 have j:n+z<=(s.drop i).length->∃t,itF d (s.drop i)=some (t,z+n):=λh=>by
  have a7:(s.drop i).length<=s.length:=by rw[N8];omega
  have F:tZ (s.drop i) n z false 1073741824=(((s.drop i).drop z).take n,⟨s.drop i,z+n,-1,0,0⟩):=by
   unfold tZ;rw[M5 M3,M5 (by rw[P0 oW];exact M3),M5 (by rw[P0 oW];exact M3)]
  rw[f,F];exact⟨_,rfl⟩
 rw[N8]at g j;refine dC 125 Tryz.func70 hU ?_;refine zQ 2 (zn (zQ 2 (cB (St (s.drop i)) (iY 9 _ (some _) none rfl s i s.length (s.drop i) kR (show evS _ _=_ by kernel_rfl) rfl nL nL (dX _ _) Tryz.underlying9) ?_)));refine dN (λW A=>oB u W (by rw[N8];unfold R47;omega)) (aW (λa=>(aX 0 a (zn (zs (zB [0,1,0] [(a,1)] (zn (dY ((z:Int)==0) L ?_))))))));refine zk (zs ?_);refine dG (α:=Bool) (λr=>[0,1,2,6,7,8,38].zip [(St s),(I6 (i:Int)),(I6 (d:Int)),(I6 0),(I6 0),(Pt a 0),(.bool r)]) (λr=>U) (λr=>[(bK a [(L6 z),(L6 m),(N6 (n:Nat)),qF] 175)]) (λr=>r=false) ?_ ?_
 ·refine zr (cF [0,1,0,0] [(a,1)] (jB 24 (m:Int) 0 (λO V=>?_) (λO _=>?_)))
  ·refine cF [0,1,0,0,0] [(a,1)] (jB 29 (m:Int) 2 (λX Y=>?_) (λX _=>?_))
   ·refine cF [0,1,0,0,0] [(a,1)] (jB 34 (m:Int) 3 (λZ a1=>?_) (λZ _=>?_))
    ·refine cF [0,1,0,0] [(a,1)] (zn ?_);refine jn ((m:Int) !=4) ?_;exfalso;omega
    ·refine zq 4 (zn ?_);refine jn false ?_;rfl
   ·refine zq 9 (zn ?_);refine jn false ?_;rfl
  ·refine zq 14 (zn ?_);refine jn false ?_;rfl
 intro r G;refine dY r G ?_;refine zk (zs (zQ 2 (zn (dY ((d:Int)==0) I ?_))));refine zk (zB [0,0,1,0] [(a,1)] (dH 46 ((i:Int)+(z:Int)) (zq 1 (zn (zs (zB [0,1,0] [(a,1)] (zn (dY ((m:Int)==0) J ?_))))))));refine zk (zs (zB [0,1,0] [(a,1)] (zn (jG (decide ((m:Int)<4)) K ?_))));refine zs (zB [0,1,0,0,1,0,0,0,0] [(a,1),(a,1)] (dH 62 ((((s).length:Nat):Int)-((i:Int)+(z:Int))) (zq 1 (dZ 63 (U6 (IntKind.u64.wrap ((((s).length:Nat):Int)-((i:Int)+(z:Int))))) (U6 ((((s).length:Nat):Int)-((i:Int)+(z:Int)))) (M0 (Value.int .u64) (u64_in oW oW)) ?_))));refine zq 2 (zn (aZ ((n:Int)>((((s).length:Nat):Int)-((i:Int)+(z:Int)))) (λC D=>?_) (λC D=>?_)))
 ·refine zQ 3 (zn (aA (aO [6,7] [(I6 (i:Int)),(I6 2)] (λN A=>?_))));have E:=P2 C;exact aJ A (View.le_refl _) (by unfold dP;rw[g oW];exact⟨_,_,by decide,rfl⟩)
 ·refine zk (zB [0,0,1,0] [(a,1)] (dH 70 (n:Int) (zq 1 (dH 71 (((i:Int)+(z:Int))+(n:Int)) (zq 2 (zn (aA (aO [6,7] [(I6 (((i:Int)+(z:Int))+(n:Int))),(I6 0)] (λN A=>?_)))))))));have E:=O5 C;exact aJ A (View.le_refl _) (by unfold dP;obtain⟨t9,h9⟩:=j oW;rw[h9];exact M0 (λx=>Value.tuple #[.int .i64 x,.int .i64 0]) oW)
theorem ZV(s:List UInt8)(i d n z:Nat)(I:i<=s.length)(hs:s.length<=1000000)(G:d<=1000)(w:World){U:View}(C:See U w)(f:hdF (s.drop i)=some (4,n,false,z))(D:0<d)(E:¬n<=1000):CP 70 #[.string (B s),.int .i64 (i:Int),.int .i64 (d:Int)] w (fV w U (dP s i d)):=by
 have r:((z:Int)==0)=false:=M2.2 (by have:=rL f;omega);have u:=(eT f).1;rw[N8]at u;have j:decide ((n:Int)>1000)=true:=R4 oW;have g:((d:Int)==0)=false:=M2.2 oW;have h:itF d (s.drop i)=none:=by
  obtain⟨d,rfl⟩:∃k,d=k+1:=⟨d-1,by omega⟩;unfold itF;rw[f]
  show(if n<=1000 then _ else none)=none;rw[M5 E]
 refine dC 125 Tryz.func70 C ?_;refine zQ 2 (zn (zQ 2 (cB (St (s.drop i)) (iY 9 _ (some _) none rfl s i s.length (s.drop i) kR (show evS _ _=_ by kernel_rfl) rfl nL nL (dX _ _) Tryz.underlying9) ?_)));refine dN (λW A=>oB f W (by rw[N8];unfold R47;omega)) (aW (λa=>(aX 0 a (zn (zs (zB [0,1,0] [(a,1)] (zn (dY ((z:Int)==0) r ?_))))))));refine zk (zs (zB [0,1,0,0,0,1,0,0,0,0,1,0,0,0,0,1,0,0] [(a,1),(a,1),(a,1),(a,1)] (zn (cU (zk (zs (zQ 2 (zn (dY ((d:Int)==0) g ?_)))))))));refine zk (zB [0,0,1,0] [(a,1)] (dH 46 ((i:Int)+(z:Int)) (zq 1 (zn (zs (zB [0,1,0] [(a,1)] (zn (cU (zk (zs (zB [0,1,0] [(a,1)] (zn (cU (zk (zs (zB [0,1,0,0,0,1,0,0] [(a,1),(a,1)] (zn (jG (decide ((n:Int)>1000)) j ?_))))))))))))))))));refine zQ 3 (zn (aA (aO [6,7] [(I6 (i:Int)),(I6 4)] (λF A=>?_))));exact aJ A (View.le_refl _) (by unfold dP;rw[h];exact⟨_,_,by decide,rfl⟩)
theorem MP{s:List UInt8}{m n z:Nat}{o:Bool}(h:hdF s=some (m,n,o,z)):(o=false/\s.take z=Itm.aF m n)\/(o=true/\qL (m:Int)=true/\n=0/\z=1/\s.take 1=[UInt8.ofNat (32*m+31)]):=by
 unfold hdF at h;split at h
 ·cases h
 ·next c g=>
  have C:=c.toNat_lt;have f:s.take 1=[c]:=by
   cases s with
   |nil=>simp at g
   |cons a s=>
    simp only[P5,L0]at g;subst g;rfl
  have d:UInt8.ofNat (32*(c.toNat/32)+c.toNat%32)=c:=by
   apply UInt8.toNat_inj.1;rw[show 32*(c.toNat/32)+c.toNat%32=c.toNat by omega];simp
  unfold hd1 at h;split at h
  ·next j=>
   simp only[L0,N3]at h;obtain⟨rfl,rfl,rfl,rfl⟩:=h;refine .inl ⟨rfl,?_⟩;rw[f];unfold Itm.aF;rw[N1 j,d]
  ·split at h
   ·next j=>
    simp only[L0,N3]at h;obtain⟨rfl,rfl,rfl,rfl⟩:=h;rw[j.1]at d;exact .inr ⟨rfl,j.2,rfl,rfl,by rw[f,d]⟩
   ·split at h
    ·cases h
    ·next D E F=>
     unfold hd2 at h;split at h
     ·cases h
     ·split at h
      ·cases h
      ·next r u=>
       simp only[L0,N3]at h;obtain⟨rfl,rfl,rfl,rfl⟩:=h;refine .inl ⟨rfl,?_⟩;have k:1+2^(c.toNat%32-24)<=s.length:=by
        rw[N0]at r;exact Nat.le_of_not_lt λh=>r (Int.ofNat_lt.2 h)
       have A:=GK g rfl (show c.toNat%32=24+(c.toNat%32-24) by omega) (show 2^(c.toNat%32-24)=2^(c.toNat%32-24)from rfl) oW k;have B:((Itm.aF (c.toNat/32) (eE 0 ((s.drop 1).take (2^(c.toNat%32-24))))).length==1+2^(c.toNat%32-24))=true:=by
        rw[Q0,Decidable.not_not]at u;exact S5.2 (Int.ofNat_inj.1 u)
       rw[B]at A;exact(S5.1 A).symm
theorem GY{s:List UInt8}(h:CF s=true):s.take 1=[255]:=by
 unfold CF at h;split at h
 ·next m n o z j=>
  rw[L5]at h;obtain⟨f,d⟩:=h;have g:m=7:=by
   have:=eq_of_beq f;omega
  subst g;rcases MP j with⟨a,_⟩|⟨_,_,_,_,a⟩
  ·rw[a]at d;cases d
  ·exact a
 ·cases h
theorem GX{s:List UInt8}{e:Nat}:CF (s.drop e)=true↔s[e]? =some 255:=by
 constructor
 ·intro h;have d:=GY h;cases f:s.drop e with
  |nil=>rw[f]at d;cases d
  |cons a r=>
   rw[f]at d;simp only[S9,S6,Z6,bA]at d;have g:(s.drop e)[0]? =some a:=by rw[f];rfl
   rw[Z4,U8]at g;rw[g,d]
 ·intro h;have f:s.drop e=255::s.drop (e+1):=by
   obtain⟨k,j⟩:=L8.1 h;rw[R1 k,j]
  rw[f];exact NC _
theorem DI{P:Itm.Tr->Prop}{f:List UInt8->Option (Itm.Tr×Nat)}(d:∀s t k,f s=some (t,k)->P t/\Itm.aG t=s.take k):∀(n:Nat) (s:List UInt8) (l:List Itm.Tr) (k:Nat),fX f n s=some (l,k)->(∀x∈l,P x)/\Itm.aY l=s.take k
 |0,s,l,k,h=>by
  rw[fX]at h;simp only[L0,N3]at h;obtain⟨rfl,rfl⟩:=h;exact⟨λx a=>(by cases a),by rw[Itm.aY,S6]⟩
 |n+1,s,l,k,h=>by
  rw[fX]at h;split at h
  ·cases h
  ·next t D B=>
   split at h
   ·cases h
   ·next ts j C=>
    simp only[L0,N3]at h;obtain⟨rfl,rfl⟩:=h;obtain⟨g,r⟩:=d _ _ _ B;obtain⟨u,A⟩:=DI d n _ _ _ C;refine⟨λx a=>?_,by rw[Itm.aY,r,A,List.take_add]⟩;rcases O6.1 a with rfl|a
    ·exact g
    ·exact u x a
theorem JT{P:Itm.Tr->Prop}{f:List UInt8->Option (Itm.Tr×Nat)}(g:∀s t k,f s=some (t,k)->P t/\Itm.aG t=s.take k):∀(n:Nat) (s:List UInt8) (l:List Itm.Tr) (k:Nat),iI f n s=some (l,k)->(∀x∈l,P x)/\Itm.aY l++[255]=s.take k
 |0,s,l,k,h=>by
  rw[iI]at h;split at h
  ·next d=>
   simp only[L0,N3]at h;obtain⟨rfl,rfl⟩:=h;exact⟨λx a=>(by cases a),by rw[Itm.aY,GY d];rfl⟩
  ·cases h
 |n+1,s,l,k,h=>by
  rw[iI]at h;split at h
  ·next d=>
   simp only[L0,N3]at h;obtain⟨rfl,rfl⟩:=h;exact⟨λx a=>(by cases a),by rw[Itm.aY,GY d];rfl⟩
  ·split at h
   ·cases h
   ·next t E C=>
    split at h
    ·cases h
    ·next ts j D=>
     simp only[L0,N3]at h;obtain⟨rfl,rfl⟩:=h;obtain⟨r,u⟩:=g _ _ _ C;obtain⟨A,B⟩:=JT g n _ _ _ D;refine⟨λx a=>?_,by rw[Itm.aY,M6,u,B,List.take_add]⟩;rcases O6.1 a with rfl|a
     ·exact r
     ·exact A x a
def By(d:Nat)(t:Itm.Tr):Prop:=Itm.aU d t=true/\Itm.NOk t
theorem BN{m:Int}{x:List UInt8×Rd}{t:Itm.Tr}{k:Nat}(h:oJ m x=some (t,k)):x.2.e=0/\t=.mk m 0 x.1 [] false/\k=x.2.at_:=by
 unfold oJ at h;split at h
 ·next a=>
  simp only[L0,N3]at h;exact⟨eq_of_beq a,h.1.symm,h.2.symm⟩
 ·cases h
theorem ER{s:List UInt8}{n z most:Nat}{o:Bool}(h:(tZ s n z o most).2.e=0)(g:z<=s.length):o=false/\n+z<=s.length/\n<=most/\tZ s n z o most=((s.drop z).take n,⟨s,z+n,-1,0,0⟩):=by
 unfold tZ at h ⊢;split at h
 ·cases h
 ·next a=>
  split at h
  ·cases h
  ·next d=>
   split at h
   ·cases h
   ·next f=>
    rw[M5 a,M5 d,M5 f];rw[N0]at d f;exact⟨by simpa using a,by omega,by omega,rfl⟩
theorem Mc{l:List Itm.Tr}(h:∀x∈l,Itm.NOk x){o:Bool}:Itm.NOk (.mk 4 0 [] l o):=.mk 4 0 [] l o (by decide) (by decide) λi t a=>h t (K9 a)
theorem AS:∀(d:Nat) (s:List UInt8) (t:Itm.Tr) (k:Nat),itF d s=some (t,k)->By d t/\Itm.aG t=s.take k
 |0,s,t,k,h=>by rw[itF]at h;cases h
 |d+1,s,t,k,h=>by
  rw[itF]at h;split at h
  ·cases h
  ·next m n o z g=>
   have I:=(eT g).1;have F:=(DG g).1;have a:=MP g;split at h
   ·next u=>
    subst u;simp only[L0,N3]at h;obtain⟨rfl,rfl⟩:=h;refine⟨⟨by rw[Itm.aU];rfl,.mk 0 n [] [] false F (by decide) λi t C=>by simp at C⟩,?_⟩;rcases a with⟨_,a⟩|⟨_,a,_⟩
    ·rw[Itm.mT,a]
    ·cases a
   ·split at h
    ·next u=>
     subst u;obtain⟨E,rfl,rfl⟩:=BN h;obtain⟨ho,A,J,hs⟩:=ER E I;have f:((s.drop z).take n).length=n:=by rw[O3,N8];omega
     rw[hs];refine⟨⟨by rw[Itm.aU];rfl,.mk 2 0 _ [] false (by decide) (by rw[f];exact F) λi t C=>by simp at C⟩,?_⟩;rcases a with⟨_,a⟩|⟨a,_⟩
     ·rw[Itm.pK,f,List.take_add,a]
     ·rw[ho]at a;cases a
    ·split at h
     ·next u=>
      subst u;obtain⟨E,rfl,rfl⟩:=BN h;obtain⟨ho,A,J,hs⟩:=ER E I;have f:((s.drop z).take n).length=n:=by rw[O3,N8];omega
      rw[hs];refine⟨⟨by rw[Itm.aU];rfl,.mk 3 0 _ [] false (by decide) (by rw[f];exact F) λi t C=>by simp at C⟩,?_⟩;rcases a with⟨_,a⟩|⟨a,_⟩
      ·rw[Itm.pJ,f,List.take_add,a]
      ·rw[ho]at a;cases a
     ·split at h
      ·next u=>
       subst u;split at h
       ·next ho=>
        subst ho;cases r:iI (itF d) 1000 (s.drop z)with
        |none=>rw[r]at h;cases h
        |some q=>
         obtain⟨l,j⟩:=q;rw[r]at h;simp only[lZ,L0,N3]at h;obtain⟨rfl,rfl⟩:=h;have A:=(AN (gU d) _ _ _ _ r).2;obtain⟨B,D⟩:=JT (AS d) _ _ _ _ r;rcases a with⟨a,_⟩|⟨_,_,_,rfl,a⟩
         ·cases a
         refine⟨⟨?_,Mc λx g=>(B x g).2⟩,by rw[Itm.pL,List.take_add,a,D];rfl⟩;rw[Itm.aU,L5,M7];refine⟨?_,λx g=>(B x g).1⟩;show Itm.okN 4 0 [] l.length true=true;unfold Itm.okN;simp[A]
       ·next ho=>
        split at h
        ·next G=>
         cases r:fX (itF d) n (s.drop z)with
         |none=>rw[r]at h;cases h
         |some q=>
          obtain⟨l,j⟩:=q;rw[r]at h;simp only[lZ,L0,N3]at h;obtain⟨rfl,rfl⟩:=h;have A:=(qG (gU d) _ _ _ _ r).2;obtain⟨B,D⟩:=DI (AS d) _ _ _ _ r;rcases a with⟨_,a⟩|⟨a,_⟩
          ·refine⟨⟨?_,Mc λx g=>(B x g).2⟩,by rw[Itm.iQ,List.take_add,a,D,A]⟩;rw[Itm.aU,L5,M7];refine⟨?_,λx g=>(B x g).1⟩;show Itm.okN 4 0 [] l.length false=true;unfold Itm.okN;simp[A,G]
          ·exact absurd a ho
        ·cases h
      ·cases h
theorem VE:∀(d:Nat) (t:Itm.Tr),Itm.aU d t=true->Itm.aU (d+1) t=true
 |0,t,h=>by cases h
 |d+1,t,h=>by
  rw[Itm.aU,L5,M7]at h ⊢;exact⟨h.1,λx a=>VE d x (h.2 x a)⟩
theorem Ql{d e:Nat}(a:d<=e){t:Itm.Tr}(h:Itm.aU d t=true):Itm.aU e t=true:=by
 induction a with
 |refl=>exact h
 |step _ ih=>exact VE _ t ih
theorem VY{d e:Nat}(a:d<=e){s r:List UInt8}{t:Itm.Tr}{k:Nat}(h:itF d s=some (t,k))(hs:s.length<=1073741824):itF e (s.take k++r)=some (t,k):=by
 obtain⟨⟨g,j⟩,f⟩:=AS d s t k h;have u:=gU d s t k h;have A:(Itm.aG t).length=k:=by rw[f,O3];omega
 have:=mP e t r (Ql a g) j (by rw[A];omega);rw[f]at this;rw[this,O3,X9 u]
theorem Lx{d e:Nat}(a:d<=e){s:List UInt8}{t:Itm.Tr}{k:Nat}(h:itF d s=some (t,k))(hs:s.length<=1073741824):itF e s=some (t,k):=by
 have:=VY a (r:=s.drop k) h hs;rwa[S8]at this
theorem Ol{d:Nat}{s:List UInt8}{t:Itm.Tr}{k:Nat}(h:itF d s=some (t,k))(hs:s.length<=1073741824):itF d (s.take k)=some (t,k):=by
 have:=VY (O9 d) (r:=[]) h hs;rwa[M1]at this
theorem Iq{d:Nat}{s:List UInt8}{t:Itm.Tr}{k:Nat}(h:itF d s=some (t,k)):1<=k:=by
 obtain⟨_,a⟩:=AS d s t k h;by_cases r:k=0
 ·subst r;rw[S6]at a;have:itF d s=none:=by
   exfalso;obtain⟨u,n,A,l,o⟩:=t;rw[Itm.aG]at a;have f:=(Itm.aE 0 n).1;have g:=(Itm.aE u.toNat A.length).1;have j:=(Itm.aE 4 l.length).1;split at a
   ·rw[a]at f;simp at f
   ·split at a
    ·rw[(List.append_eq_nil_iff.1 a).1]at g;simp at g
    ·split at a
     ·simp at a
     ·rw[(List.append_eq_nil_iff.1 a).1]at j;simp at j
  rw[h]at this;cases this
 ·omega
def UI(G:Nat->List UInt8->Option (List Itm.Tr×Nat))(s:List UInt8)(i k e:Nat):Prop:=e<=s.length/\i<=e/\∃ts,GR ts (e-i) (G k (s.drop e))=G 0 (s.drop i)
theorem UI.zero{G:Nat->List UInt8->Option (List Itm.Tr×Nat)}{s:List UInt8}{i:Nat}(h:i<=s.length):UI G s i 0 i:=⟨h,O9 _,[],by
 rw[U9];cases G 0 (s.drop i)with
 |none=>rfl
 |some q=>simp[GR]⟩
theorem UI.step{f:List UInt8->Option (Itm.Tr×Nat)}{G:Nat->List UInt8->Option (List Itm.Tr×Nat)}(g:∀s t k,f s=some (t,k)->k<=s.length){s:List UInt8}{i k e:Nat}(h:UI G s i k e)(hs:DO f G k (s.drop e)){t:Itm.Tr}{j:Nat}(a:f (s.drop e)=some (t,j)):UI G s i (k+1) (e+j):=by
 obtain⟨u,A,ts,d⟩:=h;have r:=g _ _ _ a;rw[N8]at r;refine⟨by omega,by omega,ts++[t],?_⟩;unfold DO at hs;rw[a]at hs;simp only at hs;rw[T3]at hs;rw[<-d,hs];cases G (k+1) (s.drop (e+j))with
 |none=>rfl
 |some q=>
  obtain⟨l,m⟩:=q;simp only[GR,M6];congr 2;omega
theorem UI.no{f:List UInt8->Option (Itm.Tr×Nat)}{G:Nat->List UInt8->Option (List Itm.Tr×Nat)}{s:List UInt8}{i k e:Nat}(h:UI G s i k e)(hs:DO f G k (s.drop e))(d:f (s.drop e)=none):G 0 (s.drop i)=none:=by
 obtain⟨g,j,ts,a⟩:=h;unfold DO at hs;rw[d]at hs;rw[<-a,hs];rfl
theorem UI.stop{G:Nat->List UInt8->Option (List Itm.Tr×Nat)}{s:List UInt8}{i k e:Nat}(h:UI G s i k e)(d:G k (s.drop e)=none):G 0 (s.drop i)=none:=by
 obtain⟨f,g,ts,a⟩:=h;rw[<-a,d];rfl
theorem UI.done{G:Nat->List UInt8->Option (List Itm.Tr×Nat)}{s:List UInt8}{i k e j:Nat}(h:UI G s i k e)(d:G k (s.drop e)=some ([],j)):∃l,G 0 (s.drop i)=some (l,e-i+j):=by
 obtain⟨f,g,ts,a⟩:=h;rw[<-a,d];exact⟨_,rfl⟩
theorem PU(s:List UInt8)(i d n z:Nat)(hi:i<=s.length)(hs:s.length<=1000000)(hd:d+1<=1000)(Y:Sn s d)(w:World){U:View}(hU:See U w)(D:hdF (s.drop i)=some (4,n,false,z))(hn:n<=1000):CP 70 #[.string (B s),.int .i64 (i:Int),.int .i64 ((d+1:Nat):Int)] w (fV w U (dP s i (d+1))):=by
 have O:((z:Int)==0)=false:=M2.2 (by have:=rL D;omega);have V:=(eT D).1;rw[N8]at V;have K:(((d+1:Nat):Int)==0)=false:=M2.2 oW;have hd1:IntKind.i64.wrap (((d+1:Nat):Int)-1)=(d:Int):=by rw[IntWalk.i64_in _ oW];omega
 have N:decide ((n:Int)>1000)=false:=P0 oW;have r:itF (d+1) (s.drop i)=lZ false z (iJ (itF d) n 0 (s.drop (i+z))):=by
  rw[itF,D];simp only[Nat.reduceEqDiff,if_false,if_true,N9,hn];rw[T3];rfl
 refine dC 125 Tryz.func70 hU ?_;refine zQ 2 (zn (zQ 2 (cB (St (s.drop i)) (iY 9 _ (some _) none rfl s i s.length (s.drop i) kR (show evS _ _=_ by kernel_rfl) rfl nL nL (dX _ _) Tryz.underlying9) ?_)));refine dN (λW g=>oB D W (by rw[N8];unfold R47;omega)) (aW (λa=>(aX 0 a (zn (zs (zB [0,1,0] [(a,1)] (zn (dY ((z:Int)==0) O ?_))))))));refine zk (zs (zB [0,1,0,0,0,1,0,0,0,0,1,0,0,0,0,1,0,0] [(a,1),(a,1),(a,1),(a,1)] (zn (cU (zk (zs (zQ 2 (zn (dY (((d+1:Nat):Int)==0) K ?_)))))))));refine zk (zB [0,0,1,0] [(a,1)] (dH 46 ((i:Int)+(z:Int)) (zq 1 (zn (zs (zB [0,1,0] [(a,1)] (zn (cU (zk (zs (zB [0,1,0] [(a,1)] (zn (cU (zk (zs (zB [0,1,0,0,0,1,0,0] [(a,1),(a,1)] (zn (dY (decide ((n:Int)>1000)) N ?_))))))))))))))))));refine zk (zs (zQ 1 (zn (aB (eF (α:=Nat×Nat) (λx=>[0,2,6,7,8,9,10].zip [(St s),(L6 (d+1)),(I6 0),(I6 0),(Pt a 0),(L6 x.2),(L6 x.1)]) (λx=>U) (λx=>[(bK a [(L6 z),(I6 4),(N6 (n:Nat)),qF] 175)]) (λx=>x.1<=n/\UI (iJ (itF d) n) s (i+z) x.1 x.2) (λx=>n-x.1) (0,i+z) ?_ ?_)))))
 ·exact⟨M8 _,UI.zero oW⟩
 intro x f;obtain⟨a1,f⟩:=f;have a6:=f.1;refine zs (zB [0,1,0,0,0] [(a,1)] (dZ 85 (U6 (IntKind.u64.wrap (x.1:Int))) (N6 (x.1:Nat)) (M0 (Value.int .u64) (u64_in oW oW)) ?_));refine cF [0,1,0,0] [(a,1)] (zn (aZ ((x.1:Int)<(n:Int)) (λE F=>?_) (λE F=>?_)))
 ·refine zk (zs (aB (zs (zB [0,1,0,0,0,0,0,0,0,0,0,0,0,0] [(a,1)] (zn (cU (zk (zs (zQ 2 (zn (dY ((x.1:Int)==1000) (M2.2 oW) ?_)))))))))));refine zk (zQ 4 (dZ 115 (I6 (IntKind.i64.wrap (((d+1:Nat):Int)-1))) (I6 (d:Int)) (M0 (Value.int .i64) hd1) ?_));rcases N2 ((itF d (s.drop x.2)).isSome)with G|G
  ·refine lU (λW g=>Y x.2 f.1 W g.view) (λv1 V1 I j=>?_);unfold dP at j;obtain⟨⟨t1,k1⟩,u⟩:=P4.1 G;rw[u]at j;obtain rfl:=j;refine zq 5 (zn (zs (zQ 2 (zn (cU (zk (zr (zq 2 (zn (zr (zq 2 (dH 91 ((x.1:Int)+1) (zq 1 (zn ?_))))))))))))));refine nx (x.1+1,x.2+k1) ?_ ?_ (d:=λ_ h=>(h.weak I).eqv kR)
   ·exact⟨by show x.1+1<=n;omega,f.step (gU d) (oF oW _) u⟩
   ·show n-(x.1+1)<n-x.1;omega
  ·refine lU (λW g=>Y x.2 f.1 W g.view) (λv2 V2 J k=>?_);unfold dP at k;have A:itF d (s.drop x.2)=none:=by cases L:itF d (s.drop x.2)with|none=>rfl|some q=>(have X:=G;rw[L]at X;cases X)
   rw[A]at k;obtain⟨p2,Z,C,rfl⟩:=k;refine zq 5 (zn (zs (zQ 2 (zn (jG (Z !=0) (Q0.2 C) ?_)))));refine zQ 4 (zn (aA (aO [6,7] [(I6 p2),(I6 Z)] (λW' g=>?_))));have E:=f.no (oF oW _) A;exact aJ g J (by unfold dP;rw[r,E];exact⟨_,_,C,rfl⟩)
 ·refine aI (zQ 3 (zn (aA (aO [6,7] [(L6 x.2),(I6 0)] (λW' g=>?_)))));obtain⟨l9,M⟩:=f.done (show iJ (itF d) n x.1 (s.drop x.2)=some ([],0)from by unfold iJ;rw[show n-x.1=0 by omega];rfl);exact aJ g (View.le_refl _) (by unfold dP;rw[r,M];exact M0 (λx=>Value.tuple #[.int .i64 x,.int .i64 0]) (by have:=f.2.1;omega))
theorem ZU(s:List UInt8)(i d z:Nat)(hi:i<=s.length)(hs:s.length<=1000000)(hd:d+1<=1000)(hI:Sn s d)(w:World){U:View}(hU:See U w)(hh:hdF (s.drop i)=some (4,0,true,z)):CP 70 #[.string (B s),.int .i64 (i:Int),.int .i64 ((d+1:Nat):Int)] w (fV w U (dP s i (d+1))):=by
 have b7:((z:Int)==0)=false:=M2.2 (by have:=rL hh;omega);have b8:=(eT hh).1;rw[N8]at b8;have b5:(((d+1:Nat):Int)==0)=false:=M2.2 oW;have hd1:IntKind.i64.wrap (((d+1:Nat):Int)-1)=(d:Int):=by rw[IntWalk.i64_in _ oW];omega
 have C:itF (d+1) (s.drop i)=lZ true z (lD (itF d) 0 (s.drop (i+z))):=by
  rw[itF,hh];simp only[Nat.reduceEqDiff,if_false,if_true];rw[T3];rfl
 refine dC 125 Tryz.func70 hU ?_;refine zQ 2 (zn (zQ 2 (cB (St (s.drop i)) (iY 9 _ (some _) none rfl s i s.length (s.drop i) kR (show evS _ _=_ by kernel_rfl) rfl nL nL (dX _ _) Tryz.underlying9) ?_)));refine dN (λW j=>oB hh W (by rw[N8];unfold R47;omega)) (aW (λr=>(aX 0 r (zn (zs (zB [0,1,0] [(r,1)] (zn (dY ((z:Int)==0) b7 ?_))))))));refine zk (zs (zB [0,1,0,0,0,1,0,0,0,0,1,0,0,0,0,1,0,0] [(r,1),(r,1),(r,1),(r,1)] (zn (cU (zk (zs (zQ 2 (zn (dY (((d+1:Nat):Int)==0) b5 ?_)))))))));refine zk (zB [0,0,1,0] [(r,1)] (dH 46 ((i:Int)+(z:Int)) (zq 1 (zn (zs (zB [0,1,0] [(r,1)] (zn (cU (zk (zs (zB [0,1,0] [(r,1)] (zn (cU (zk (zs (zB [0,1,0,0,0,0,0,0] [(r,1)] (zn (cU (zk (zs (zQ 1 (zn (aB (eF (α:=Nat×Nat) (λx=>[0,2,6,7,8,9,10].zip [(St s),(L6 (d+1)),(I6 0),(I6 0),(Pt r 0),(L6 x.2),(L6 x.1)]) (λx=>U) (λx=>[(bK r [(L6 z),(I6 4),(U6 0),qT] 175)]) (λx=>x.1<=1000/\UI (lD (itF d)) s (i+z) x.1 x.2) (λx=>1001-x.1) (0,i+z) ?_ ?_))))))))))))))))))))))))
 ·exact⟨M8 _,UI.zero oW⟩
 intro x k;obtain⟨b9,k⟩:=k;have c0:=k.1;refine zs (zB [0,1,0,0,0,0,0,0,0] [(r,1)] (zn (dM (zk (zs (aB (zs (zB [0,1,0,0,0,0,0,0,0] [(r,1)] (jM 100 ((x.2:Int)<(((s).length:Nat):Int)) (λu a1=>?_) (λu a1=>?_))))))))))
 ·refine zq 2 ?_;obtain⟨x1,D⟩:∃y,(s)[x.2]? =some y:=⟨_,K8 (by first|assumption|omega)⟩;refine cB (.int .u8 (x1.toNat:Int)) (sQ 9 _ _ rfl s x.2 .i64 x1 kR kR D Tryz.underlying9) ?_;refine zq 2 (zn (fC (x1.toNat:Int) 255 (λK a6=>?_) (λK a6=>?_)))
  ·refine zQ 2 (dH 107 ((x.2:Int)+1) (zq 2 (zn (aA (aO [6,7] [(I6 ((x.2:Int)+1)),(I6 0)] (λZ j=>?_))))));have A:CF (s.drop x.2)=true:=(GX.2 (by rw[D];congr 1;apply UInt8.toNat_inj.1;have g:=eq_of_beq K;show x1.toNat=255;omega));obtain⟨l9,b6⟩:=k.done (show lD (itF d) x.1 (s.drop x.2)=some ([],1)from by unfold lD;cases 1000-x.1<;>rw[iI,N1 A]);exact aJ j (View.le_refl _) (by unfold dP;rw[C,b6];exact M0 (λx=>Value.tuple #[.int .i64 x,.int .i64 0]) (by have:=k.2.1;omega))
  ·refine zk (zs (zQ 2 (zn (fC (x.1:Int) 1000 (λh2 a7=>?_) (λh2 a7=>?_)))))
   ·refine zQ 3 (zn (aA (aO [6,7] [(L6 x.2),(I6 4)] (λZ j=>?_))));have A:CF (s.drop x.2)=false:=(by rw[Bool.eq_false_iff];intro f;have a:=GX.1 f;rw[D]at a;have g:=M2.1 K;rw[N5 a]at g;exact g rfl);have u:=k.stop (show lD (itF d) x.1 (s.drop x.2)=none from by unfold lD;rw[show 1000-x.1=0 by omega,iI,A];rfl);exact aJ j (View.le_refl _) (by unfold dP;rw[C,u];exact⟨_,_,(by decide),rfl⟩)
   ·refine zk (zQ 4 (dZ 115 (I6 (IntKind.i64.wrap (((d+1:Nat):Int)-1))) (I6 (d:Int)) (M0 (Value.int .i64) hd1) ?_));rcases N2 ((itF d (s.drop x.2)).isSome)with h3|h3
    ·refine lU (λW j=>hI x.2 k.1 W j.view) (λv2 V2 b1 E=>?_);unfold dP at E;obtain⟨⟨t2,k2⟩,M⟩:=P4.1 h3;rw[M]at E;obtain rfl:=E;refine zq 5 (zn (zs (zQ 2 (zn (cU (zk (zr (zq 2 (zn (zr (zq 2 (dH 91 ((x.1:Int)+1) (zq 1 (zn ?_))))))))))))));refine nx (x.1+1,x.2+k2) ?_ ?_ (d:=λ_ h=>(h.weak b1).eqv kR)
     ·exact⟨by show x.1+1<=1000;omega,k.step (gU d) (mB oW (by rw[Bool.eq_false_iff];intro f;have a:=GX.1 f;rw[D]at a;have g:=M2.1 K;rw[N5 a]at g;exact g rfl)) M⟩
     ·show 1001-(x.1+1)<1001-x.1;omega
    ·refine lU (λW j=>hI x.2 k.1 W j.view) (λv3 V3 b2 F=>?_);unfold dP at F;have N:itF d (s.drop x.2)=none:=by cases J:itF d (s.drop x.2)with|none=>rfl|some q=>(have L:=h3;rw[J]at L;cases L)
     rw[N]at F;obtain⟨p3,z3,X,rfl⟩:=F;refine zq 5 (zn (zs (zQ 2 (zn (jG (z3 !=0) (Q0.2 X) ?_)))));refine zQ 4 (zn (aA (aO [6,7] [(I6 p3),(I6 z3)] (λZ j=>?_))));have u:=k.no (mB oW (by rw[Bool.eq_false_iff];intro f;have a:=GX.1 f;rw[D]at a;have g:=M2.1 K;rw[N5 a]at g;exact g rfl)) N;exact aJ j b2 (by unfold dP;rw[C,u];exact⟨_,_,X,rfl⟩)
 ·refine zq 5 (zn (cU (zk (zs (zQ 2 (zn (fC (x.1:Int) 1000 (λh4 a8=>?_) (λh4 a8=>?_))))))))
  ·refine zQ 3 (zn (aA (aO [6,7] [(L6 x.2),(I6 4)] (λZ j=>?_))));have A:CF (s.drop x.2)=false:=(by rw[Bool.eq_false_iff];intro f;have a:=GX.1 f;have:=(L8.1 a).1;have:=O5 u;omega);have u:=k.stop (show lD (itF d) x.1 (s.drop x.2)=none from by unfold lD;rw[show 1000-x.1=0 by omega,iI,A];rfl);exact aJ j (View.le_refl _) (by unfold dP;rw[C,u];exact⟨_,_,(by decide),rfl⟩)
  ·refine zk (zQ 4 (dZ 115 (I6 (IntKind.i64.wrap (((d+1:Nat):Int)-1))) (I6 (d:Int)) (M0 (Value.int .i64) hd1) ?_));rcases N2 ((itF d (s.drop x.2)).isSome)with h5|h5
   ·refine lU (λW j=>hI x.2 k.1 W j.view) (λv4 V4 b3 G=>?_);unfold dP at G;obtain⟨⟨t4,k4⟩,O⟩:=P4.1 h5;rw[O]at G;obtain rfl:=G;refine zq 5 (zn (zs (zQ 2 (zn (cU (zk (zr (zq 2 (zn (zr (zq 2 (dH 91 ((x.1:Int)+1) (zq 1 (zn ?_))))))))))))));refine nx (x.1+1,x.2+k4) ?_ ?_ (d:=λ_ h=>(h.weak b3).eqv kR)
    ·exact⟨by show x.1+1<=1000;omega,k.step (gU d) (mB oW (by rw[Bool.eq_false_iff];intro f;have a:=GX.1 f;have:=(L8.1 a).1;have:=O5 u;omega)) O⟩
    ·show 1001-(x.1+1)<1001-x.1;omega
   ·refine lU (λW j=>hI x.2 k.1 W j.view) (λv5 V5 b4 I=>?_);unfold dP at I;have V:itF d (s.drop x.2)=none:=by cases J:itF d (s.drop x.2)with|none=>rfl|some q=>(have L:=h5;rw[J]at L;cases L)
    rw[V]at I;obtain⟨p5,z5,Y,rfl⟩:=I;refine zq 5 (zn (zs (zQ 2 (zn (jG (z5 !=0) (Q0.2 Y) ?_)))));refine zQ 4 (zn (aA (aO [6,7] [(I6 p5),(I6 z5)] (λZ j=>?_))));have u:=k.no (mB oW (by rw[Bool.eq_false_iff];intro f;have a:=GX.1 f;have:=(L8.1 a).1;have:=O5 u;omega)) V;exact aJ j b4 (by unfold dP;rw[C,u];exact⟨_,_,Y,rfl⟩)
theorem El{s:List UInt8}{m n z:Nat}(h:hdF s=some (m,n,true,z)):n=0:=by
 rcases MP h with⟨h,_⟩|⟨_,_,h,_⟩
 ·cases h
 ·exact h
theorem rY(s:List UInt8)(hs:s.length<=1000000):∀d,d<=1000->Sn s d:=by
 intro d h
 induction d with
 |zero=>
  intro i g w U f;cases a:hdF (s.drop i)with
  |none=>exact WJ s i 0 g hs oW w f a
  |some q=>
   obtain⟨m,n,b,z⟩:=q;exact ZS s i 0 m n z g hs oW w f b a rfl
 |succ d ih=>
  intro i g w U f;cases a:hdF (s.drop i)with
  |none=>exact WJ s i (d+1) g hs h w f a
  |some q=>
   obtain⟨m,n,b,z⟩:=q;by_cases j:m=0
   ·subst j;exact Uo s i (d+1) n z g hs h w f b a oW
   ·by_cases k:m=2\/m=3
    ·cases b with
     |true=>exact ZT s i (d+1) m n z g hs h w f a oW k
     |false=>exact Up s i (d+1) m n z g hs h w f a oW k
    ·by_cases r:m=4
     ·subst r;cases b with
      |true=>
       obtain rfl:=El a;exact ZU s i d z g hs h (ih oW) w f a
      |false=>
       by_cases u:n<=1000
       ·exact PU s i d n z g hs h (ih oW) w f a u
       ·exact ZV s i (d+1) n z g hs h w f a oW u
     ·exact TK s i (d+1) m n z g hs h w f b a j oW oW r
section
variable {P:Program} {n:Nat} {W0:Cx} {Q:XQ} {s:cA} {U:View} {σ:aH} {ops:Array Oper} {l:List Oper} {o:Oper}
theorem Ax{ds : List Nat}{vs : List Sq}(i b f : Nat)(v : Value)(B : U ⟨b, f, none⟩ = some v)(j : TypeId)(x : Operand){o : Oper}(F : ops[i]? = some o)(ho : o.op = .load j x)(h : vs[i]? = some (.val v))(L : ∀ u, evS (iK ops ds vs u i ++ aV s ds) x = some (.pointer (some ⟨b, f, none⟩)))(d : TypeDesc)(I : P.underlying j = some d)(r : d.isRow = false)
  (J:∀u,dA ops (iK ops ds vs u i++aV s ds) o=some true):Oq P n W0 U σ ops ds vs s i:=
 Oq.op i F _ h λu V C _=>⟨J u,λa W D k Q K A=>by
  have E:=k.view _ _ (C _ _ B);have g:(isAgg j).run P W=.ok false W:=by
   unfold isAgg;rw[Sem.run_bind,run_underlying I W];cases d<;>simp_all
  have G:(load ⟨b,f,none⟩).run P W=.ok v W:=by
   simp[load,Sem.run,E]
  unfold Oper.wp execOp;simp only[ho,eH D (L u),Instr.loadAt,Instr.sureAddr,Sem.run_bind,Sem.run_pure,Result.andThen_ok,loadVar,g];simp only[N9,if_false,G,Result.andThen_ok];exact A v W k rfl (Below.refl _ _)⟩
theorem wU1{ds ks : List Nat}{tv vs : List Sq}{i : Nat}{v : Value}(b f : Nat)(j : U ⟨b, f, none⟩ = some v)(h : TypeId)(x : Operand)(d : TypeDesc)(r : P.underlying h = some d)(a : d.isRow = false)(k : ops[i]? = some (iP ops i) := by rfl)(ho : (iP ops i).op = .load h x := by rfl)
  (B:∀u,evS (iK ops ds vs u i++aV s ds) x=some (.pointer (some ⟨b,f,none⟩)):=by intro u;kernel_rfl) (A:∀u,dA ops (iK ops ds vs u i++aV s ds) (iP ops i)=some true:=by intro u;kernel_rfl):Oqw P n W0 U σ ops ds ks tv vs s i (.val v):=
 λ_ g=>Ax i b f v j h x k ho g B d r a A
end
def Hw(d:Nat):Prop:=∀(s:List UInt8) (t:Itm.Tr),itF d s=some (t,s.length)->s.length<=1000000->∀(w:World) {U:View},(∀a v,U a=some v->w.cell? a=some v)->CP 71 #[.string (B s)] w (fV w U (pO t))
theorem Ep{s:List UInt8}{d n z:Nat}{o:Bool}{t:Itm.Tr}(f:hdF s=some (0,n,o,z))(a:itF (d+1) s=some (t,s.length)):t=Itm.cD n:=by
 rw[itF,f]at a;simp only[if_true,L0,N3]at a;exact a.1.symm
theorem Ly{s:List UInt8}{n z:Nat}{o:Bool}{m:Int}{t:Itm.Tr}(g:z<=s.length)(h:oJ m (tZ s n z o 1073741824)=some (t,s.length)):t=.mk m 0 (s.drop z) [] false:=by
 obtain⟨d,rfl,a⟩:=BN h;obtain⟨ho,j,k,hs⟩:=ER d g;rw[hs]at a ⊢;have f:s.length=z+n:=a;show Itm.Tr.mk m 0 ((s.drop z).take n) [] false=_;rw[O2 (by rw[N8];omega)]
theorem It{s:List UInt8}{d n z:Nat}{o:Bool}{t:Itm.Tr}(a:hdF s=some (2,n,o,z))(f:itF (d+1) s=some (t,s.length)):t=eN (s.drop z):=by
 rw[itF,a]at f;exact Ly (eT a).1 (show oJ 2 (tZ s n z o 1073741824)=some (t,s.length)from f)
theorem Iu{s:List UInt8}{d n z:Nat}{o:Bool}{t:Itm.Tr}(a:hdF s=some (3,n,o,z))(f:itF (d+1) s=some (t,s.length)):t=XI (s.drop z):=by
 rw[itF,a]at f;exact Ly (eT a).1 (show oJ 3 (tZ s n z o 1073741824)=some (t,s.length)from f)
theorem KQ{o:Bool}{z k:Nat}{t:Itm.Tr}{x:Option (List Itm.Tr×Nat)}(h:lZ o z x=some (t,k)):∃l j,x=some (l,j)/\t=.mk 4 0 [] l o/\k=z+j:=by
 cases x with
 |none=>cases h
 |some q=>
  obtain⟨l,j⟩:=q;simp only[lZ,L0,N3]at h;exact⟨l,j,rfl,h.1.symm,h.2.symm⟩
theorem Vl{s:List UInt8}{d n z:Nat}{t:Itm.Tr}(k:hdF s=some (4,n,false,z))(a:itF (d+1) s=some (t,s.length)):n<=1000/\∃l j,iJ (itF d) n 0 (s.drop z)=some (l,j)/\t=.mk 4 0 [] l false/\z+j=s.length:=by
 rw[itF,k]at a;simp only[Nat.reduceEqDiff,if_false,if_true,N9]at a;split at a
 ·next r=>
  obtain⟨l,j,f,g,h⟩:=KQ a;exact⟨r,l,j,f,g,h.symm⟩
 ·cases a
theorem Ir{s:List UInt8}{d n z:Nat}{t:Itm.Tr}(k:hdF s=some (4,n,true,z))(a:itF (d+1) s=some (t,s.length)):∃l j,lD (itF d) 0 (s.drop z)=some (l,j)/\t=.mk 4 0 [] l true/\z+j=s.length:=by
 rw[itF,k]at a;simp only[Nat.reduceEqDiff,if_false,if_true]at a;obtain⟨l,j,f,g,h⟩:=KQ a;exact⟨l,j,f,g,h.symm⟩
def Sz(G:Nat->List UInt8->Option (List Itm.Tr×Nat))(s:List UInt8)(l:List Itm.Tr)(i a:Nat)(L:List Itm.Tr):Prop:=a<=s.length/\∃ts j,G i (s.drop a)=some (ts,j)/\L++ts=l/\a+j=s.length
theorem Sz.step{f:List UInt8->Option (Itm.Tr×Nat)}{G:Nat->List UInt8->Option (List Itm.Tr×Nat)}(B:∀s t k,f s=some (t,k)->k<=s.length){s:List UInt8}{l:List Itm.Tr}{i a:Nat}{L:List Itm.Tr}(h:Sz G s l i a L)(hs:DO f G i (s.drop a)):∃t k,f (s.drop a)=some (t,k)/\a+k<=s.length/\Sz G s l (i+1) (a+k) (L++[t]):=by
 obtain⟨E,ts,j,u,A,F⟩:=h;unfold DO at hs;rw[u]at hs;cases g:f (s.drop a)with
 |none=>rw[g]at hs;cases hs
 |some q=>
  obtain⟨t,k⟩:=q;have C:=B _ _ _ g;rw[N8]at C;rw[g]at hs;simp only at hs;cases d:G (i+1) ((s.drop a).drop k)with
  |none=>rw[d]at hs;cases hs
  |some q=>
   obtain⟨r,D⟩:=q;rw[d]at hs;simp only[GR,L0,N3]at hs;obtain⟨rfl,rfl⟩:=hs;rw[T3]at d;exact⟨t,k,rfl,by omega,by omega,r,D,d,by rw[M6];exact A,by omega⟩
theorem PG{f:List UInt8->Option (Itm.Tr×Nat)}:∀{n:Nat} {s:List UInt8} {l:List Itm.Tr} {k:Nat},iI f n s=some (l,k)->1<=k
 |0,s,l,k,h=>by
  rw[iI]at h;split at h
  ·simp only[L0,N3]at h;omega
  ·cases h
 |n+1,s,l,k,h=>by
  rw[iI]at h;split at h
  ·simp only[L0,N3]at h;omega
  ·split at h
   ·cases h
   ·split at h
    ·cases h
    ·next a=>
     have:=PG a;simp only[L0,N3]at h;omega
theorem PF{f:List UInt8->Option (Itm.Tr×Nat)}{i:Nat}{s:List UInt8}(a:CF s=true):lD f i s=some ([],1):=by
 unfold lD;cases 1000-i<;>rw[iI,N1 a]
theorem Sz.more{f:List UInt8->Option (Itm.Tr×Nat)}{s:List UInt8}{l:List Itm.Tr}{i a:Nat}{L:List Itm.Tr}(h:Sz (lD f) s l i a L)(B:a+1<s.length):i<1000/\CF (s.drop a)=false:=by
 obtain⟨r,ts,j,d,u,A⟩:=h;cases g:CF (s.drop a)with
 |true=>
  rw[PF g]at d;simp only[L0,N3]at d;omega
 |false=>
  refine⟨?_,rfl⟩;by_cases k:i<1000
  ·exact k
  ·unfold lD at d;rw[show 1000-i=0 by omega,iI,g]at d;cases d
theorem Sz.last{f:List UInt8->Option (Itm.Tr×Nat)}(A:∀s t k,f s=some (t,k)->1<=k){s:List UInt8}{l:List Itm.Tr}{i a:Nat}{L:List Itm.Tr}(h:Sz (lD f) s l i a L)(F:¬a+1<s.length):L=l:=by
 obtain⟨D,ts,j,d,u,E⟩:=h;cases g:CF (s.drop a)with
 |true=>
  rw[PF g]at d;simp only[L0,N3]at d;rw[<-u,<-d.1,M1]
 |false=>
  exfalso;unfold lD at d;cases r:1000-i with
  |zero=>rw[r,iI,g]at d;cases d
  |succ m=>
   rw[r,iI,g]at d;simp only[N9,if_false]at d;split at d
   ·cases d
   ·next t k C=>
    have:=A _ _ _ C;split at d
    ·cases d
    ·next B=>
     have:=PG B;simp only[L0,N3]at d;omega
theorem Sz.full{f:List UInt8->Option (Itm.Tr×Nat)}{s:List UInt8}{l:List Itm.Tr}{n a:Nat}{L:List Itm.Tr}(h:Sz (iJ f n) s l n a L):L=l:=by
 obtain⟨k,ts,j,d,g,r⟩:=h;unfold iJ at d;rw[U9,fX]at d;simp only[L0,N3]at d;rw[<-g,<-d.1,M1]
theorem TF{d a k:Nat}{s:List UInt8}{t:Itm.Tr}(h:itF d (s.drop a)=some (t,k))(hs:s.length<=1000000):itF d ((s.drop a).take (a+k-a))=some (t,((s.drop a).take (a+k-a)).length)/\((s.drop a).take (a+k-a)).length<=1000000:=by
 have f:=gU _ _ _ _ h;have g:((s.drop a).take k).length=k:=by rw[O3];omega
 rw[N8]at f;rw[show a+k-a=k by omega,g];exact⟨Ol h (by rw[N8];omega),by omega⟩
structure Ip where
 a:Nat
 i:Nat
 r:Rw
 xs:List Value
 L:List (Itm.Tr×List Value)
 V:View
theorem ZK(s:List UInt8)(n z:Nat)(o:Bool)(hs:s.length<=1000000)(w:World){U:View}(h:See U w)(d:hdF s=some (0,n,o,z)):CP 71 #[.string (B s)] w (fV w U (pO (Itm.cD n))):=by
 have k:=(eT d).1;have j:=(DG d).1;refine dC 72 Tryz.func71 h ?_;refine zs (zr (aW (λf=>(zn (zQ 1 (dN (λW g=>oB d W (by unfold R47;omega)) (aW (λa=>(aX 1 a (zn (zs (zB [0,2,0] [(a,1)] (zn (dM (zB [0,2,0] [(a,1)] (aX 0 f (zn (aA (dW [1] [(f,5)] [(iV (n:Nat))] (λr g=>?_))))))))))))))))))));exact aJ g (View.le_refl _) ⟨_,rfl,TV.num _ n (by unfold W64;omega)⟩
theorem TD(s:List UInt8)(n z:Nat)(o:Bool)(hs:s.length<=1000000)(w:World){U:View}(h:See U w)(d:hdF s=some (2,n,o,z)):CP 71 #[.string (B s)] w (fV w U (pO (eN (s.drop z)))):=by
 have k:=(eT d).1;have j:=(DG d).1;refine dC 72 Tryz.func71 h ?_;refine zs (zr (aW (λf=>(zn (zQ 1 (dN (λW g=>oB d W (by unfold R47;omega)) (aW (λa=>(aX 1 a (zn (zs (zB [0,2,0] [(a,1)] (zn (cU (zk (zs (zB [0,2,0] [(a,1)] (zn (dM (zs ?_))))))))))))))))))));refine gI 2 [0,4,0,0,4,1] [(a,1),(a,1)] [.val (St (s.drop z))] ⟨?_,trivial⟩ ?_
 ·exact vR (iY 9 _ (some _) none rfl s z s.length (s.drop z) kR (show evS _ _=_ by kernel_rfl) rfl nL nL (dX _ _) Tryz.underlying9)
 refine zq 1 (aX 0 f (zn (aA (dW [1] [(f,5)] [(.agg #[(I6 2),(U6 0),(St (s.drop z)),S0,qF])] (λr g=>?_)))));exact aJ g (View.le_refl _) ⟨_,rfl,TV.str _ (s.drop z) (by rw[N8];unfold R47;omega)⟩
theorem TC(s:List UInt8)(n z:Nat)(o:Bool)(hs:s.length<=1000000)(w:World){U:View}(h:See U w)(d:hdF s=some (3,n,o,z)):CP 71 #[.string (B s)] w (fV w U (pO (XI (s.drop z)))):=by
 have k:=(eT d).1;have j:=(DG d).1;refine dC 72 Tryz.func71 h ?_;refine zs (zr (aW (λf=>(zn (zQ 1 (dN (λW g=>oB d W (by unfold R47;omega)) (aW (λa=>(aX 1 a (zn (zs (zB [0,2,0] [(a,1)] (zn (cU (zk (zs (zB [0,2,0] [(a,1)] (zn (dM (zs ?_))))))))))))))))))));refine gI 2 [0,4,0,0,4,1] [(a,1),(a,1)] [.val (St (s.drop z))] ⟨?_,trivial⟩ ?_
 ·exact vR (iY 9 _ (some _) none rfl s z s.length (s.drop z) kR (show evS _ _=_ by kernel_rfl) rfl nL nL (dX _ _) Tryz.underlying9)
 refine zq 1 (aX 0 f (zn (aA (dW [1] [(f,5)] [(.agg #[(I6 3),(U6 0),(St (s.drop z)),S0,qF])] (λr g=>?_)))));exact aJ g (View.le_refl _) ⟨_,rfl,TV.txt _ (s.drop z) (by rw[N8];unfold R47;omega)⟩
theorem ML(s:List UInt8)(l:List Itm.Tr)(j:Nat)(d n z:Nat)(hs:s.length<=1000000)(w:World){U:View}(hU:See U w)(hh:hdF s=some (4,n,false,z))(hd:d<=8)(hI:Hw d)(hG:iJ (itF d) n 0 (s.drop z)=some (l,j))(hj:z+j=s.length)(hn:n<=1000):CP 71 #[.string (B s)] w (fV w U (pO (.mk 4 0 [] l false))):=by
 have h5:=(eT hh).1;have j7:=(DG hh).1;refine dC 72 Tryz.func71 hU ?_;refine zs (zr (aW (λK=>(zn (zQ 1 (dN (λW L=>oB hh W (by unfold R47;omega)) (aW (λk=>(aX 1 k (zn (zs (zB [0,2,0] [(k,1)] (zn (cU (zk (zs (zB [0,2,0] [(k,1)] (zn (cU (zk (zB [0,2,0] [(k,1)] (aW (λD=>(aX 2 D (zn (zB [0,2,0] [(k,1)] (zn (zs (zQ 1 (zn (aB (eF (α:=Ip) (λx=>[0,2,3,4,5,6].zip [(St s),(Pt K 0),(Pt k 0),(Pt D 0),(L6 x.a),(N6 (x.i:Nat))]) (λx=>x.V) (λx=>([(K,.cells [(I6 0),(U6 0),(St []),S0,qF].toArray 136 (0,0)),(bK k [(L6 z),(I6 4),(N6 (n:Nat)),qF] 175),(D,.cells [(I6 4),(U6 0),(St []),(x.r.V x.i),qF].toArray 136 (0,0))]++x.r.B 136 x.xs)) (λx=>x.i<=n/\View.le U x.V/\RwR TV 5 x.V x.r x.xs x.i x.L/\Sz (iJ (itF d) n) s l x.i x.a (x.L.map Prod.fst)) (λx=>n-x.i) ⟨z,0,Rw.nil,[],[],U⟩ ?_ ?_ (hm:=λ_ h=>h.eqv (U3 kR (M1 ([(K,.cells [(I6 0),(U6 0),(St []),S0,qF].toArray 136 (0,0)),(bK k [(L6 z),(I6 4),(N6 (n:Nat)),qF] 175),(D,.cells [(I6 4),(U6 0),(St []),S0,qF].toArray 136 (0,0))]:aH)).symm))))))))))))))))))))))))))))))))))
 ·exact⟨M8 _,View.le_refl _,RwR.nil,h5,l,j,hG,rfl,hj⟩
 intro x hx;obtain⟨k0,b8,C,A⟩:=hx;have j9:=A.1;refine zs (zB [0,2,0,0,0,0,0,0,0,0,0,2,0,0,0,0,2,0,0,0] [(k,1),(k,1),(k,1)] (zn (aZ ((x.i:Int)<(n:Int)) (λh0 c7=>?_) (λh0 c7=>?_))))
 ·refine zk (zs (aB (zQ 2 ?_)));obtain⟨N,M,b5,j4,e3⟩:=A.step (gU d) (oF oW _);have h3:=Lx hd b5 (by rw[N8];omega);obtain⟨h2,e9⟩:=TF b5 hs;refine lU (λW L=>rY s hs 8 (by decide) x.a A.1 W L.view) (λv3 V3 a7 G=>?_);have k4:=C.le a7;unfold dP at G;rw[h3]at G;obtain rfl:=G;refine zq 5 (zn (zs ?_));refine jX 2 [0,5,0,0,0,1,1,1] [(D,1)] [.val (St ((s.drop x.a).take ((x.a+M)-x.a))),.mem (pO N),.mem (λv V=>∃g,v=(Sl g 0 1 1)/\fR V (some ⟨g,0,none⟩) [N])] (by simp only[O4];refine⟨?_,?_,?_,λ_ h=>by cases h⟩<;>first|trivial|(intro v V V2 I hP;(first|trivial|exact pO.mono I hP|exact PhiMono.go hP I|(obtain⟨g,e,hP⟩:=hP;exact⟨g,e,hP.le I⟩)))) ⟨?_,?_,?_,trivial⟩ ?_
  ·exact wR (λu=>(iY 9 _ (some _) (some _) rfl s x.a (x.a+M) ((s.drop x.a).take ((x.a+M)-x.a)) kR (show evS _ _=_ by kernel_rfl) (show evS _ _=_ by kernel_rfl) nL nL rfl Tryz.underlying9))
  ·refine wM 71 (λu=>#[(St ((s.drop x.a).take ((x.a+M)-x.a)))]) λu V hV b4 W hW=>?_
   exact hI ((s.drop x.a).take ((x.a+M)-x.a)) N h2 e9 W hW
  ·refine wN [66] (λu=>[u 6]) λu V hV b4=>?_
   have e6:=b4 6 kR rfl;obtain⟨j2,q6,b7⟩:=e6;obtain⟨a6,c6,rfl,j0,j6,j8,j5⟩:=b7.form;refine⟨(tC N a6 c6),136,λr=>(Sl r 0 1 1),?_,λg V' e4 hR=>?_⟩
   ·rw[q6];kernel_rfl
   exact⟨g,rfl,fR.lit [(N,(tC N a6 c6))] hR ⟨b7.le e4,trivial⟩ (show 1<=R47 by decide)⟩
  intro u5 V5 a8 E;have k6:=k4.le a8;have O:=E 6 rfl;obtain⟨c4,b9,J⟩:=O;obtain⟨h7,h8,rfl,c2,h1,h4,e8⟩:=J.form;refine qS 66 b9 ?_;have X:=E 7 rfl;obtain⟨h9,c0,c1⟩:=X;refine qS 67 c0 ?_;obtain⟨j1,j3,L7,e7,Y,F,e0⟩:=c1.open (by simp);cases e7;have Z:L7.length=1:=by rw[<-O1 (f:=Prod.fst),Y];rfl
  refine iW 3 136 132 64 1 1 C.ok (λW L=>View.range_of e0 L.view) (by rw[F.flat_len,Z]) F.one (by decide) (λr8 b6=>?_);refine zq 1 ?_;refine Aa 2 D 3 (x.i+1) 5 r8 (x.xs++(L7.flatMap Prod.snd)) b6 [(I6 4),(U6 0),(St []),(x.r.V x.i),qF] 136 132 _ _ rfl kR kR kR (λa c=>by kernel_rfl) kR rfl kR ?_;refine zn (zr (zq 2 (zn (zr (zq 2 (dZ 53 (U6 (IntKind.u64.wrap ((x.i:Int)+1))) (U6 ((x.i:Int)+1)) (M0 (Value.int .u64) (u64_in oW oW)) ?_))))));refine zq 1 (zn ?_);refine nx ⟨x.a+M,x.i+1,r8,(x.xs++(L7.flatMap Prod.snd)),x.L++L7,V5⟩ ?_ ?_
  ·exact⟨by show x.i+1<=n;omega,(View.le_trans (View.le_trans b8 a7) a8),RwR.app k6 (CJ F) Z b6,by rw[P6,Y];exact e3⟩
  ·show n-(x.i+1)<n-x.i;omega
 ·refine aI (zs (zr ?_));refine jN x.r x.xs 5 x.i [(K,.cells [(I6 0),(U6 0),(St []),S0,qF].toArray 136 (0,0)),(bK k [(L6 z),(I6 4),(N6 (n:Nat)),qF] 175),(D,.cells [(I6 4),(U6 0),(St []),(x.r.V x.i),qF].toArray 136 (0,0))] 136 kR C.ok (λa9 c9 V9 b3 e2 c8=>?_);rw[c8];have h6:=C.le b3;refine cF [3] [(D,5)] (aX 0 K (zn (aA (dW [1] [(K,5)] [(.agg #[(I6 4),(U6 0),(St []),(.slice a9 x.i c9),qF])] (λW' L=>?_)))));have a1:=h6.arr c9 e2 (View.le_refl _) (by unfold R47;omega) false;have e5:x.i=n:=by omega
  rw[e5]at A;have e1:=A.full;rw[e1]at a1;exact aJ L (View.le_trans b8 b3) ⟨_,rfl,a1⟩
theorem TE(s:List UInt8)(l:List Itm.Tr)(j:Nat)(d z:Nat)(hs:s.length<=1000000)(w:World){U:View}(hU:See U w)(hh:hdF s=some (4,0,true,z))(hd:d<=8)(hI:Hw d)(hG:lD (itF d) 0 (s.drop z)=some (l,j))(hj:z+j=s.length):CP 71 #[.string (B s)] w (fV w U (pO (.mk 4 0 [] l true))):=by
 have h5:=(eT hh).1;have j7:=(DG hh).1;refine dC 72 Tryz.func71 hU ?_;refine zs (zr (aW (λK=>(zn (zQ 1 (dN (λW L=>oB hh W (by unfold R47;omega)) (aW (λk=>(aX 1 k (zn (zs (zB [0,2,0] [(k,1)] (zn (cU (zk (zs (zB [0,2,0] [(k,1)] (zn (cU (zk (zB [0,2,0] [(k,1)] (aW (λD=>(aX 2 D (zn (zB [0,2,0] [(k,1)] (zn (zs (zQ 1 (zn (aB (eF (α:=Ip) (λx=>[0,2,3,4,5,6].zip [(St s),(Pt K 0),(Pt k 0),(Pt D 0),(L6 x.a),(N6 (x.i:Nat))]) (λx=>x.V) (λx=>([(K,.cells [(I6 0),(U6 0),(St []),S0,qF].toArray 136 (0,0)),(bK k [(L6 z),(I6 4),(U6 0),qT] 175),(D,.cells [(I6 4),(U6 0),(St []),(x.r.V x.i),qT].toArray 136 (0,0))]++x.r.B 136 x.xs)) (λx=>x.i<=1000/\View.le U x.V/\RwR TV 5 x.V x.r x.xs x.i x.L/\Sz (lD (itF d)) s l x.i x.a (x.L.map Prod.fst)) (λx=>1000-x.i) ⟨z,0,Rw.nil,[],[],U⟩ ?_ ?_ (hm:=λ_ h=>h.eqv (U3 kR (M1 ([(K,.cells [(I6 0),(U6 0),(St []),S0,qF].toArray 136 (0,0)),(bK k [(L6 z),(I6 4),(U6 0),qT] 175),(D,.cells [(I6 4),(U6 0),(St []),S0,qT].toArray 136 (0,0))]:aH)).symm))))))))))))))))))))))))))))))))))
 ·exact⟨M8 _,View.le_refl _,RwR.nil,h5,l,j,hG,rfl,hj⟩
 intro x hx;obtain⟨k0,b9,C,A⟩:=hx;have j9:=A.1;refine zs (zB [0,2,0,0,0,0,0] [(k,1)] (dH 38 ((((s).length:Nat):Int)-1) (zq 3 (jM 41 ((x.a:Int)<((((s).length:Nat):Int)-1)) (λh0 c8=>?_) (λh0 c8=>?_)))))
 ·refine zq 10 (zn (dM (zk (zs (aB (zQ 2 ?_))))));have b5:=A.more oW;obtain⟨N,M,b6,j4,e4⟩:=A.step (gU d) (mB b5.1 b5.2);have h3:=Lx hd b6 (by rw[N8];omega);obtain⟨h2,e9⟩:=TF b6 hs;refine lU (λW L=>rY s hs 8 (by decide) x.a A.1 W L.view) (λv3 V3 a7 G=>?_);have k4:=C.le a7;unfold dP at G;rw[h3]at G;obtain rfl:=G;refine zq 5 (zn (zs ?_));refine jX 2 [0,5,0,0,0,1,1,1] [(D,1)] [.val (St ((s.drop x.a).take ((x.a+M)-x.a))),.mem (pO N),.mem (λv V=>∃g,v=(Sl g 0 1 1)/\fR V (some ⟨g,0,none⟩) [N])] (by simp only[O4];refine⟨?_,?_,?_,λ_ h=>by cases h⟩<;>first|trivial|(intro v V V2 I hP;(first|trivial|exact pO.mono I hP|exact PhiMono.go hP I|(obtain⟨g,e,hP⟩:=hP;exact⟨g,e,hP.le I⟩)))) ⟨?_,?_,?_,trivial⟩ ?_
  ·exact wR (λu=>(iY 9 _ (some _) (some _) rfl s x.a (x.a+M) ((s.drop x.a).take ((x.a+M)-x.a)) kR (show evS _ _=_ by kernel_rfl) (show evS _ _=_ by kernel_rfl) nL nL rfl Tryz.underlying9))
  ·refine wM 71 (λu=>#[(St ((s.drop x.a).take ((x.a+M)-x.a)))]) λu V hV b4 W hW=>?_
   exact hI ((s.drop x.a).take ((x.a+M)-x.a)) N h2 e9 W hW
  ·refine wN [66] (λu=>[u 6]) λu V hV b4=>?_
   have e6:=b4 6 kR rfl;obtain⟨j2,q6,b8⟩:=e6;obtain⟨a6,c6,rfl,j0,j6,j8,j5⟩:=b8.form;refine⟨(tC N a6 c6),136,λr=>(Sl r 0 1 1),?_,λg V' e5 hR=>?_⟩
   ·rw[q6];kernel_rfl
   exact⟨g,rfl,fR.lit [(N,(tC N a6 c6))] hR ⟨b8.le e5,trivial⟩ (show 1<=R47 by decide)⟩
  intro u5 V5 a8 E;have k6:=k4.le a8;have O:=E 6 rfl;obtain⟨c7,c0,J⟩:=O;obtain⟨h7,h8,rfl,c4,h1,h4,e8⟩:=J.form;refine qS 66 c0 ?_;have X:=E 7 rfl;obtain⟨h9,c1,c2⟩:=X;refine qS 67 c1 ?_;obtain⟨j1,j3,L7,e7,Y,F,e1⟩:=c2.open (by simp);cases e7;have Z:L7.length=1:=by rw[<-O1 (f:=Prod.fst),Y];rfl
  refine iW 3 136 132 64 1 1 C.ok (λW L=>View.range_of e1 L.view) (by rw[F.flat_len,Z]) F.one (by decide) (λr8 b7=>?_);refine zq 1 ?_;refine Aa 2 D 3 (x.i+1) 5 r8 (x.xs++(L7.flatMap Prod.snd)) b7 [(I6 4),(U6 0),(St []),(x.r.V x.i),qT] 136 132 _ _ rfl kR kR kR (λa c=>by kernel_rfl) kR rfl kR ?_;refine zn (zr (zq 2 (zn (zr (zq 2 (dZ 53 (U6 (IntKind.u64.wrap ((x.i:Int)+1))) (U6 ((x.i:Int)+1)) (M0 (Value.int .u64) (u64_in oW oW)) ?_))))));refine zq 1 (zn ?_);refine nx ⟨x.a+M,x.i+1,r8,(x.xs++(L7.flatMap Prod.snd)),x.L++L7,V5⟩ ?_ ?_
  ·exact⟨by show x.i+1<=1000;omega,(View.le_trans (View.le_trans b9 a7) a8),RwR.app k6 (CJ F) Z b7,by rw[P6,Y];exact e4⟩
  ·show 1000-(x.i+1)<1000-x.i;omega
 ·refine cF [0,2,0,0,0,0,0,0,0,0] [(k,1)] (zn (cU (aI (zs (zr ?_)))));refine jN x.r x.xs 5 x.i [(K,.cells [(I6 0),(U6 0),(St []),S0,qF].toArray 136 (0,0)),(bK k [(L6 z),(I6 4),(U6 0),qT] 175),(D,.cells [(I6 4),(U6 0),(St []),(x.r.V x.i),qT].toArray 136 (0,0))] 136 kR C.ok (λa9 c9 V9 b3 e3 e0=>?_);rw[e0];have h6:=C.le b3;refine cF [3] [(D,5)] (aX 0 K (zn (aA (dW [1] [(K,5)] [(.agg #[(I6 4),(U6 0),(St []),(.slice a9 x.i c9),qT])] (λW' L=>?_)))));have a1:=h6.arr c9 e3 (View.le_refl _) (by unfold R47;omega) true;have e2:x.L.map Prod.fst=l:=A.last (λ_ _ _=>Iq) oW;rw[e2]at a1;exact aJ L (View.le_trans b9 b3) ⟨_,rfl,a1⟩
theorem SJ:∀d,d<=9->Hw d:=by
 intro d E
 induction d with
 |zero=>intro s t h;cases h
 |succ d ih=>
  intro s t f hs w U g;cases a:hdF s with
  |none=>rw[itF,a]at f;cases f
  |some q=>
   obtain⟨m,n,b,z⟩:=q;by_cases u:m=0
   ·subst u;rw[Ep a f];exact ZK s n z b hs w g a
   ·by_cases A:m=2
    ·subst A;rw[It a f];exact TD s n z b hs w g a
    ·by_cases B:m=3
     ·subst B;rw[Iu a f];exact TC s n z b hs w g a
     ·by_cases C:m=4
      ·subst C;cases b with
       |true=>
        obtain rfl:=El a;obtain⟨l,j,k,rfl,r⟩:=Ir a f;exact TE s l j d z hs w g a oW (ih oW) k r
       |false=>
        obtain⟨D,l,j,k,rfl,r⟩:=Vl a f;exact ML s l j d n z hs w g a oW (ih oW) k r D
      ·rw[itF,a]at f;simp only[u,A,B,C,if_false]at f;cases f
def JY:Nat->List UInt8->Option (List Itm.Tr)
 |0,_=>some []
 |n+1,s=>if s.length=0 then some []else match itF 8 s with
  |none=>none
  |some (t,k)=>match JY n (s.drop k)with
   |none=>none
   |some ts=>some (t::ts)
def QB(a:List Itm.Tr):Option (List Itm.Tr)->Option (List Itm.Tr)
 |none=>none
 |some ts=>some (a++ts)
theorem GF{n:Nat}{s:List UInt8}(h:s.length≠0):JY (n+1) s=match itF 8 s with
  |none=>none
  |some (t,k)=>QB [t] (JY n (s.drop k)):=by
 rw[JY,M5 h];cases itF 8 s with
 |none=>rfl
 |some q=>
  obtain⟨t,k⟩:=q;simp only;cases JY n (s.drop k)with
  |none=>rfl
  |some ts=>rfl
theorem Ue(a b:List Itm.Tr)(x:Option (List Itm.Tr)):QB a (QB b x)=QB (a++b) x:=by
 cases x with
 |none=>rfl
 |some ts=>simp[QB]
theorem Ug(x:Option (List Itm.Tr)):QB [] x=x:=by
 cases x with
 |none=>rfl
 |some ts=>rfl
theorem JX:∀(l:List Itm.Tr) (n:Nat),l.length<=n->(∀x∈l,∀r,itF 8 (Itm.aG x++r)=some (x,(Itm.aG x).length))->JY n (Itm.aY l)=some l
 | [],n,_,_=>by
  rw[Itm.aY];cases n with
  |zero=>rfl
  |succ n=>rfl
 |x::l,0,h,_=>by simp at h
 |x::l,n+1,h,f=>by
  have a:=f x Q3 (Itm.aY l);have d:(Itm.aG x++Itm.aY l).length≠0:=by
   intro g;rw[O7.1 g]at a;rw[show itF 8 []=none from rfl]at a;cases a
  rw[Itm.aY,GF d,a];simp only;rw[ad,JX l n (by rw[M9]at h;omega) λy j=>f y (P3 _ j)];rfl
def nT(x:Itm.Tr):Int:=((min x.n 65536:Nat):Int)
def SS(y:Itm.Tr):Option Pa:=match y.l with
 | [u,v]=>some ⟨nT u,v⟩
 |_=>none
def eB(x:Itm.Tr):List Pa:=match EA SS x.l with
 |some l=>l
 |none=>[]
noncomputable def WW(t c s:Itm.Tr)(p:List Pa)(r:Itm.Tr):Option As:=match ofE s with
 |none=>none
 |some e=>some ⟨t.l.map nT,nT c,e,p,r.l.map eB⟩
noncomputable def asT(l:List Itm.Tr):Option As:=match l with
 | [t,c,_,s,r]=>WW t c s [] r
 | [t,c,_,s,p,r]=>WW t c s (eB p) r
 |_=>none
theorem MC{α β:Type}{f:α->β}{g:β->α}:∀(l:List β),(∀y∈l,f (g y)=y)->(l.map g).map f=l
 | [],_=>rfl
 |y::l,h=>by rw[R2,R2,h y Q3,MC l λz a=>h z (P3 _ a)]
theorem Vz{n:Int}(h:0<=n/\n<=65535):nT (Itm.cD n.toNat)=n:=by
 show((min n.toNat 65536:Nat):Int)=n;omega
theorem JM{l:List Pa}(h:∀p∈l,0<=p.id/\p.id<=65535):eB (gL l)=l:=by
 have a:EA SS (gL l).l=some l:=AP l λp d=>by
  show some (⟨nT (Itm.cD p.id.toNat),p.v⟩:Pa)=some p;rw[Vz (h p d)]
 unfold eB;rw[a]
theorem QK{a:As}(g:a.right=true):asT a.items=some a:=by
 unfold As.right at g;rw[L5]at g;have h:=g.1;have d:=lI 5 a.s;unfold cW at h;simp only[L5,N0]at h;obtain⟨⟨⟨⟨⟨⟨⟨⟨J,K⟩,C⟩,D⟩,E⟩,L⟩,F⟩,M⟩,G⟩:=h;have j:(Mm a.t).l.map nT=a.t:=MC a.t λn d=>Vz (iD C n d)
 have k:=Vz (eI D);have u:=LY E d;have B:=JM (fU F);have A:(Itm.dJ (a.r.map gL)).l.map eB=a.r:=MC a.r λl I=>JM (fU (by
  have:=M7.1 G l I;unfold CW at this;rw[L5]at this;exact this.2))
 obtain⟨t,c,s,p,r⟩:=a;unfold As.items;simp only at j k u B A ⊢;by_cases f:p.length=0
 ·obtain rfl:=O7.1 f;rw[N1 f];show WW _ _ _ _ _=_;unfold WW;rw[u];simp only[j,k,A]
 ·rw[M5 f];show WW _ _ _ _ _=_;unfold WW;rw[u];simp only[j,k,B,A]
theorem GD{a:As}(ho:a.ok)(h:a.right=true):JY 7 a.bytes=some a.items:=by
 unfold As.right at h;rw[L5,N0]at h;have u:(Itm.aY a.items).length<=4000:=h.2;have f:a.items.length<=7:=by unfold As.items;split<;>simp
 have g:=PL ho h.1;have k:=tG h.1 (d:=4);exact JX a.items 7 f λx j r=>mP 8 x r (k x j) (g x j) (by
  have:=CE j;omega)
theorem YN{s:List UInt8}(h:JY 7 s=none):dI s=none:=jU λa ho d hs=>by
 subst hs;rw[GD ho d]at h;cases h
theorem JK{s:List UInt8}{l:List Itm.Tr}(h:JY 7 s=some l)(d:asT l=none):dI s=none:=jU λa ho f hs=>by
 subst hs;rw[GD ho f]at h;obtain rfl:=N5 h;rw[QK f]at d;cases d
theorem YM{s:List UInt8}{l:List Itm.Tr}{a:As}(h:JY 7 s=some l)(d:asT l=some a){b:As}(ho:b.ok)(f:b.right=true)(hs:b.bytes=s):b=a:=by
 subst hs;rw[GD ho f]at h;obtain rfl:=N5 h;rw[QK f]at d;exact N5 d
theorem JJ{s:List UInt8}{l:List Itm.Tr}{a:As}(h:JY 7 s=some l)(g:asT l=some a)(d:a.right=false\/a.bytes≠s):dI s=none:=jU λb ho f hs=>by
 obtain rfl:=YM h g ho f hs;rcases d with d|d
 ·rw[d]at f;cases f
 ·exact d hs
theorem Ib{l:List Itm.Tr}(h:l.length≠5)(a:l.length≠6):asT l=none:=by
 unfold asT;split
 ·exact absurd rfl h
 ·exact absurd rfl a
 ·rfl
theorem Ck{l:List Itm.Tr}(h:l.length=5){t c s r:Itm.Tr}(a:l[0]? =some t)(d:l[1]? =some c)(f:l[3]? =some s)(g:l[4]? =some r):asT l=WW t c s [] r:=by
 obtain⟨z,rfl⟩:=Et h a d f g;rfl
theorem Cl{l:List Itm.Tr}(j:l.length=6){t c s p r:Itm.Tr}(a:l[0]? =some t)(d:l[1]? =some c)(f:l[3]? =some s)(g:l[4]? =some p)(h:l[5]? =some r):asT l=WW t c s (eB p) r:=by
 obtain⟨z,rfl⟩:=Eu j a d f g h;rfl
structure En where
 v:Int
 k:List UInt8
 nn:List UInt8
 wt:List UInt8
 t:List UInt8
 m:List UInt8
 g:List UInt8
def En.cs(e:En):List Value:=Aq e.v e.k e.nn e.wt e.t e.m e.g
end Go.Proofs.YtkoamlfiijcecaaGreatDoor.Sx
