/-
  Several texts in one: Rr8 Sxg Rog Rr9 Rt2 Sx32 Asl Asw.
  Conditions: named at each.
-/
import Derived.Test.YtkoamlfiijcecaaGreatDoorG12
set_option maxHeartbeats 16000000
set_option linter.unusedSimpArgs false
set_option linter.unusedVariables false
set_option linter.unusedSectionVars false
namespace Go.Proofs.YtkoamlfiijcecaaGreatDoor.Sx
open Go.ChangeShapes Go.WideShapes Go.ChangeAt Go.RowKit Go.Deep
theorem KM(l:List Int):Itm.aG (Mm l)=Itm.aF 4 l.length++Itm.aY (l.map λn=>Itm.cD n.toNat):=by
 show Itm.aG (.mk 4 0 [] (l.map λn=>Itm.cD n.toNat) false)=_;rw[Itm.iQ,O1]
theorem KN(l:List (List Pa)):Itm.aG (Itm.dJ (l.map gL))=Itm.aF 4 l.length++Itm.aY (l.map gL):=by
 show Itm.aG (.mk 4 0 [] (l.map gL) false)=_;rw[Itm.iQ,O1]
theorem NA(n:Nat):Itm.aG (Itm.cD n)=Itm.aF 0 n:=Itm.mT n
theorem HJ{a:As}(h:a.p.length=0)(d:a.r.length=a.t.length):a.bytes=(((Itm.aF 4 a.t.length++Itm.aY (a.t.map λn=>Itm.cD n.toNat))++Itm.aF 0 a.c.toNat)++([0]++Itm.aG a.s.tree))++Itm.aF 4 a.t.length++Itm.aY (a.r.map gL):=by
 unfold As.bytes As.items;rw[N1 h];simp only[Itm.aY,KM,KN,NA,M1,M6,d];rfl
theorem HI{a:As}(h:¬a.p.length=0)(d:a.r.length=a.t.length):a.bytes=(((Itm.aF 4 a.t.length++Itm.aY (a.t.map λn=>Itm.cD n.toNat))++Itm.aF 0 a.c.toNat)++(([1]++Itm.aG a.s.tree)++Itm.aG (gL a.p)))++Itm.aF 4 a.t.length++Itm.aY (a.r.map gL):=by
 unfold As.bytes As.items;rw[M5 h];simp only[Itm.aY,KM,KN,NA,M1,M6,d];rfl
def BO(a:As):Bool:=decide (a.t.length<=16)&&iU a.t&&eX a.c&&aN a.s&&decide (a.p.length<=8)&&fZ a.p&&decide (a.r.length=a.t.length)&&a.r.all CW
theorem XP{a:As}(h:cW a=true):BO a=true:=by
 unfold cW at h;unfold BO;simp only[L5]at h ⊢;exact⟨⟨⟨⟨⟨⟨⟨h.1.1.1.1.1.1.1.2,h.1.1.1.1.1.1.2⟩,h.1.1.1.1.1.2⟩,h.1.1.1.1.2⟩,h.1.1.1.2⟩,h.1.1.2⟩,h.1.2⟩,h.2⟩
theorem AJ(a:As)(J F I:Option Addr)(M K L:Nat)(w:World){U:View}(hU:See U w)(O:DR U J F I a)(hs:BO a=true):CP 32 #[asV a J F I M K L] w (Ret (.string (B a.bytes)) w):=by
 have a1:=O.t;have a7:=O.p;have a8:=O.r;have r:=O.small;unfold BO at hs;simp only[L5,N0]at hs;obtain⟨⟨⟨⟨⟨⟨⟨N,h3⟩,h4⟩,h5⟩,h6⟩,h7⟩,h8⟩,G⟩:=hs;have c4:=iD h3;have X:=eI h4;have c1:∀l∈a.r,l.length<=4/\fZ l=true/\(Itm.aG (gL l)).length<=20000000000000000:=λl hl=>by
  have:=M7.1 G l hl;unfold CW at this;simp only[L5,N0]at this;have h:=LD this.1.2 this.2 (r.r l hl);have N:=Itm.cV (gL l);unfold R47 at h;exact⟨this.1.2,this.2,by omega⟩
 have e0:=idU X;have e5:=Itm.aE 4 a.t.length;have e6:=Itm.aE 0 a.c.toNat;have e8:(Itm.aG a.s.tree).length<=20000000000000000:=by
  have h:=Yo r.s;have N:=Itm.cV a.s.tree;unfold R47 at h;omega
 have c9:=Yo r.s;have e7:(Itm.aG (gL a.p)).length<=40000000000000000:=by
  have h:=LD h6 h7 r.p;have N:=Itm.cV (gL a.p);unfold R47 at h;omega
 refine dC 76 Tryz.func32 hU ?_;refine zs (zr (aW (λd=>(zq 1 (zn (zB [0,1,0,0] [(d,1)] (dZ 11 (U6 (IntKind.u64.wrap (a.t.length:Int))) (N6 ((a.t.length:Nat))) (M0 (Value.int .u64) (u64_in oW oW)) ?_)))))));refine zq 1 (zn (zQ 1 (cY 75 #[(I6 4),(N6 ((a.t.length:Nat)))] (St (Itm.aF 4 a.t.length)) (λW f=>JE W rfl (by decide) (by unfold W64;omega)) ?_)));refine zq 1 (zn (zs (zQ 1 (zn (aB (eF (α:=Nat×List UInt8) (λx=>[1,2,3,4,5].zip [(Pt d 0),(St []),(N6 ((a.t.length:Nat))),(St x.2),(L6 x.1)]) (λx=>U) (λx=>[(bK d (mD a J F I M K L) 79)]) (λx=>x.1<=a.t.length/\x.2=Itm.aF 4 a.t.length++Itm.aY ((a.t.take x.1).map λn=>Itm.cD n.toNat)/\x.2.length<=9+9*x.1) (λx=>a.t.length-x.1) (0,Itm.aF 4 a.t.length) ?_ ?_))))))
 ·exact⟨M8 _,by simp[Itm.aY],by show(Itm.aF 4 a.t.length).length<=_;omega⟩
 intro x hx;obtain⟨j2,u,j3⟩:=hx;refine zs (zB [0,0,1,0,0] [(d,1)] (zn (aZ ((x.1:Int)<(a.t.length:Int)) (λh0 b2=>?_) (λh0 b2=>?_))))
 ·refine zk (zs (aB (zr (cF [0,0,1,0] [(d,1)] ?_))));obtain⟨g,D⟩:∃y,(a.t)[x.1]? =some y:=⟨(a.t)[x.1]'oW,K8 _⟩;obtain⟨b1,f1,rfl,b8⟩:=a1.one D;have k:=c4 g (K9 D);have c7:=Itm.aE 0 g.toNat;refine cB (Pt b1 (f1+x.1)) (eJ _ 3 _ _ rfl b1 f1 a.t.length M x.1 .i64 kR kR (by first|assumption|omega) kR kR) ?_;refine zV b1 (f1+x.1) (I6 g) b8 3 (.tmp 25) _ Tryz.underlying3 rfl ?_;refine zq 1 (dZ 27 (U6 (IntKind.u64.wrap g)) (N6 g.toNat) (M0 (Value.int .u64) (idU k)) ?_);refine cY 75 #[(I6 0),(N6 g.toNat)] (St (Itm.aF 0 g.toNat)) (λW f=>JE W rfl (by decide) (by have:=k;unfold W64;omega)) ?_;refine cB (St (x.2++(Itm.aF 0 g.toNat))) (cE _ _ _ _ rfl x.2 (Itm.aF 0 g.toNat) kR kR oA) ?_;refine zq 1 (zn (zr (zq 2 (dH 20 ((x.1:Int)+1) (zq 1 (zn ?_))))));refine nx (x.1+1,(x.2++(Itm.aF 0 g.toNat))) ?_ ?_
  ·exact⟨by show x.1+1<=a.t.length;omega,by show(x.2++(Itm.aF 0 g.toNat))=_;rw[dL (λn:Int=>Itm.cD n.toNat) D,tJ,NA,u];simp only[M6],by show((x.2++(Itm.aF 0 g.toNat))).length<=_;rw[L4];omega⟩
  ·show a.t.length-(x.1+1)<a.t.length-x.1;omega
 ·refine aI (zB [0,0,1,0] [(d,1)] (dZ 33 (U6 (IntKind.u64.wrap a.c)) (N6 a.c.toNat) (M0 (Value.int .u64) e0) ?_));refine cY 75 #[(I6 0),(N6 a.c.toNat)] (St (Itm.aF 0 a.c.toNat)) (λW f=>JE W rfl (by decide) (by have:=X;unfold W64;omega)) ?_;refine cB (St (x.2++(Itm.aF 0 a.c.toNat))) (cE _ _ _ _ rfl x.2 (Itm.aF 0 a.c.toNat) kR kR oA) ?_;refine zq 1 (zn (zB [0,1] [(d,4)] (lU (λW f=>rF a.s W f.view O.s h5) (λv2 V2 V b5=>?_))));have k4:=a7.le V;have k5:=a8.le V;obtain⟨e3,rfl,Y⟩:=b5;obtain⟨a2,c2,rfl,e2,j0,j1,e9⟩:=Y.form;refine cY 76 #[(tV a.s.tree a2 c2)] (St (Itm.aG a.s.tree)) (λW f=>iA 8 _ _ f.view Y (lI 5 a.s) (by unfold DK;unfold R47 at c9;omega)) ?_;refine zq 1 (zn ?_);refine dG (α:=List UInt8) (λj=>[1,2,3,4].zip [(Pt d 0),(St []),(N6 ((a.t.length:Nat))),(St j)]) (λj=>V2) (λj=>[(bK d (mD a J F I M K L) 79)]) (λj=>j=(x.2++Itm.aF 0 a.c.toNat)++(if a.p.length=0 then[0]++Itm.aG a.s.tree else([1]++Itm.aG a.s.tree)++Itm.aG (gL a.p))/\j.length<=90000000000000000) ?_ ?_
  ·refine zB [0,1,0,0] [(d,1)] (zn (aZ ((a.p.length:Int)>0) (λh1 b3=>?_) (λh1 b3=>?_)))
   ·refine zr (zq 2 (cB (St ([1]++(Itm.aG a.s.tree))) (cE _ _ _ _ rfl [1] (Itm.aG a.s.tree) kR kR oA) ?_));refine cF [0,1] [(d,1)] (cY 78 #[(.slice F a.p.length K)] (St (Itm.aG (gL a.p))) (λW f=>OQ a.p _ _ W f.view k4 oW h7) ?_);refine cB (St (([1]++(Itm.aG a.s.tree))++(Itm.aG (gL a.p)))) (cE _ _ _ _ rfl ([1]++(Itm.aG a.s.tree)) (Itm.aG (gL a.p)) kR kR oA) ?_;refine cB (St ((x.2++(Itm.aF 0 a.c.toNat))++(([1]++(Itm.aG a.s.tree))++(Itm.aG (gL a.p))))) (cE _ _ _ _ rfl (x.2++(Itm.aF 0 a.c.toNat)) (([1]++(Itm.aG a.s.tree))++(Itm.aG (gL a.p))) kR kR oA) ?_;refine zq 1 (zn ?_);refine jn ((x.2++(Itm.aF 0 a.c.toNat))++(([1]++(Itm.aG a.s.tree))++(Itm.aG (gL a.p)))) ?_;exact⟨by rw[M5 oW],by simp only[L4,M9,O8];omega⟩
   ·refine zr (zq 2 (cB (St ([0]++(Itm.aG a.s.tree))) (cE _ _ _ _ rfl [0] (Itm.aG a.s.tree) kR kR oA) ?_));refine cB (St ((x.2++(Itm.aF 0 a.c.toNat))++([0]++(Itm.aG a.s.tree)))) (cE _ _ _ _ rfl (x.2++(Itm.aF 0 a.c.toNat)) ([0]++(Itm.aG a.s.tree)) kR kR oA) ?_;refine zq 1 (zn ?_);refine jn ((x.2++(Itm.aF 0 a.c.toNat))++([0]++(Itm.aG a.s.tree))) ?_;exact⟨by rw[N1 oW],by simp only[L4,M9,O8];omega⟩
  intro j e1;obtain⟨Z,j6⟩:=e1;refine zQ 2 (cY 75 #[(I6 4),(N6 ((a.t.length:Nat)))] (St (Itm.aF 4 a.t.length)) (λW f=>JE W rfl (by decide) (by unfold W64;omega)) ?_);refine cB (St (j++(Itm.aF 4 a.t.length))) (cE _ _ _ _ rfl j (Itm.aF 4 a.t.length) kR kR oA) ?_;refine zq 1 (zn (zs (zQ 1 (zn (aB (eF (α:=Nat×List UInt8) (λz=>[1,2,4,7].zip [(Pt d 0),(St []),(St z.2),(L6 z.1)]) (λz=>V2) (λz=>[(bK d (mD a J F I M K L) 79)]) (λz=>z.1<=a.r.length/\z.2=(j++(Itm.aF 4 a.t.length))++Itm.aY ((a.r.take z.1).map gL)/\z.2.length<=100000000000000000+20000000000000000*z.1) (λz=>a.r.length-z.1) (0,(j++(Itm.aF 4 a.t.length))) ?_ ?_))))))
  ·exact⟨M8 _,by simp[Itm.aY],by show((j++(Itm.aF 4 a.t.length))).length<=_;simp only[L4,M9,O8];omega⟩
  intro z hz;obtain⟨j4,A,j5⟩:=hz;refine zs (zB [0,0,1,0,0] [(d,1)] (zn (aZ ((z.1:Int)<(a.r.length:Int)) (λN b4=>?_) (λN b4=>?_))))
  ·refine zk (zs (aB (zr (cF [0,0,1,0] [(d,1)] ?_))));obtain⟨y6,E⟩:∃y,(a.r)[z.1]? =some y:=⟨(a.r)[z.1]'oW,K8 _⟩;obtain⟨b6,f6,e4,rfl,b9,b7⟩:=k5.at_ z.1 y6 E;obtain⟨a6,c6,rfl,c8⟩:=b7;have c0:=View.range1 b9;have C:=c1 y6 (K9 E);refine cB (Pt b6 (f6+z.1)) (eJ _ 76 _ _ rfl b6 f6 a.r.length L z.1 .i64 kR kR (by first|assumption|omega) kR kR) ?_;refine zV b6 (f6+z.1) (.slice a6 y6.length c6) c0 76 (.tmp 71) _ Tryz.underlying76 rfl ?_;refine cY 78 #[(.slice a6 y6.length c6)] (St (Itm.aG (gL y6))) (λW f=>OQ y6 _ _ W f.view c8 oW C.2.1) ?_;refine cB (St (z.2++(Itm.aG (gL y6)))) (cE _ _ _ _ rfl z.2 (Itm.aG (gL y6)) kR kR oA) ?_;refine zq 1 (zn (zr (zq 2 (dH 66 ((z.1:Int)+1) (zq 1 (zn ?_))))));refine nx (z.1+1,(z.2++(Itm.aG (gL y6)))) ?_ ?_
   ·exact⟨by show z.1+1<=a.r.length;omega,by show(z.2++(Itm.aG (gL y6)))=_;rw[dL gL E,tJ,A];simp only[M6],by show((z.2++(Itm.aG (gL y6)))).length<=_;rw[L4];omega⟩
   ·show a.r.length-(z.1+1)<a.r.length-z.1;omega
  ·refine aI (zQ 2 (zn (aA (aO [2] [(St z.2)] (λW' f=>?_)))));refine⟨?_,f.below⟩;rw[O2 oW]at A u;rw[show a.bytes=z.2 from by
    by_cases G:a.p.length=0
    ·rw[HJ G h8,A,Z,N1 G,u]
    ·rw[HI G h8,A,Z,M5 G,u]]
   rfl
theorem DC(a:As)(g d f:Option Addr)(k h j:Nat)(w:World){U:View}(u:See U w)(r:DR U g d f a)(hs:cW a=true):CP 32 #[asV a g d f k h j] w (Ret (.string (B a.bytes)) w):=
 AJ a g d f k h j w u r (XP hs)
theorem OP(a:As)(j g h:Option Addr)(A r u:Nat)(w:World){U:View}(J:See U w)(f:DR U j g h a)(B:a.t.length<=1000000/\a.p.length<=1000000/\∀l∈a.r,l.length<=1000000):CP 74 #[asV a j g h A r u] w (Ret (.bool a.right) w):=by
 have F:=f.t;have G:=f.p;have I:=f.r;have D:decide (a.bytes.length<=4000)=decide ((a.bytes.length:Int)<=4000):=S7.2 oW;refine dC 11 Tryz.func74 J ?_;refine zs (zr (aW (λC=>(zq 1 (zn (zB [1] [(C,8)] (cY 112 #[(asV a j g h A r u)] (.bool (cW a)) (λW d=>SD a _ _ _ _ _ _ W d.view f B) ?_)))))));refine zq 1 (cN 5 (cW a) (λk=>?_) (λk=>?_))
 ·refine cF [1] [(C,8)] (cY 32 #[(asV a j g h A r u)] (St a.bytes) (λW d=>DC a _ _ _ _ _ _ W d.view f k) ?_);refine zq 4 (zn (aA (aO [2] [(.bool (decide ((((a.bytes).length:Nat):Int)<=4000)))] (λE d=>?_))));refine⟨?_,d.below⟩;unfold As.right;rw[D];simp only[dD,k,bs,bQ,reduceIte]
 ·refine zq 6 (zn (aA (aO [2] [qF] (λE d=>?_))));refine⟨?_,d.below⟩;unfold As.right;rw[D];simp only[dD,k,bs,bQ,reduceIte]
section
variable {P:Program} {n:Nat} {W0:Cx} {U:View} {σ:aH} {ops:Array Oper} {ds ks:List Nat} {tv vs:List Sq} {s:cA} {i:Nat} {v:Value} {Φ:Value->View->Prop}
theorem wVg(f : FuncId)(d : (Nat -> Value) -> Array Value)(h : ∀ (u : Nat -> Value) (V : View), View.le U V -> Sh ops ks tv u V i -> ∀ W, (∀ a v, V a = some v -> W.cell? a = some v) -> Calls P f (d u) W (Ret v W))
  (F:ops[i]? =some (iP ops i):=by rfl) (I:∀u,dA ops (iK ops ds vs u i++aV s ds) (iP ops i)=some true:=by intro u;kernel_rfl) (E:∀u,enters P (iK ops ds vs u i++aV s ds) (iP ops i)=some (f,d u):=by intro u;kernel_rfl):Oqw P n W0 U σ ops ds ks tv vs s i (.val v):=
 λG g=>Oq.op i F _ g λu V B D=>by
  refine⟨I u,λa W C j Q K A=>?_⟩;unfold Oper.wp;rw[eU C (E u)];refine(h u V B (qD G D) W j.view).mono ?_;rintro _ r ⟨rfl,k⟩;exact A v r (j.call k) rfl k
theorem wMg(f : FuncId)(d : (Nat -> Value) -> Array Value)(h : ∀ (u : Nat -> Value) (V : View), View.le U V -> Sh ops ks tv u V i -> ∀ W, (∀ a v, V a = some v -> W.cell? a = some v) -> Calls P f (d u) W (fV W V Φ))
  (J:ops[i]? =some (iP ops i):=by rfl) (M:∀u,dA ops (iK ops ds vs u i++aV s ds) (iP ops i)=some true:=by intro u;kernel_rfl) (I:∀u,enters P (iK ops ds vs u i++aV s ds) (iP ops i)=some (f,d u):=by intro u;kernel_rfl):Oqw P n W0 U σ ops ds ks tv vs s i (.mem Φ):=
 λg r=>Oq.op i J _ r λu V E G=>by
  refine⟨M u,λa W F j Q K D=>?_⟩;unfold Oper.wp;rw[eU F (I u)];refine(h u V E (qD g G) W j.view).mono ?_;rintro _ C ⟨v,B,rfl,k,g,L,ho,A⟩;exact D v C (j.call k) ⟨B,g,j.retN k g L ho,A⟩ k
end
theorem ZZ{t u:Itm.Tr}(g:Itm.aU 8 t=true)(j:Itm.aU 8 u=true)(k:Itm.NOk t)(r:Itm.NOk u)(d:(Itm.aG t).length<=1073741824)(h:Itm.aG u=Itm.aG t):t=u:=by
 have f:=mP 8 t [] g k d;have a:=mP 8 u [] j r (by rw[h];exact d);rw[h,f]at a;simp only[L0,N3]at a;exact a.1
theorem Jc{t:Itm.Tr}{m:Ei}{cs:List Value}{U:View}(d:TV U t cs)(a:Itm.aU 8 t=true)(hm:aN m=true)(ho:m.ok)(hs:Itm.szT t<=1000000)(h:Itm.aG m.tree=Itm.aG t):ofE t=some m:=by
 have f:=Itm.cV t;obtain rfl:=ZZ a (iX m 5) d.nok (Wc ho) oW h;exact LY hm a
theorem Pd{m:Itm.Nm}(h:m.right=true):(⟨(m.s:Int),m.l,m.n,m.v⟩:Ei).tree=m.tree:=by
 obtain⟨s,l,n,v⟩:=m;have hs:=Itm.OC h;simp only at hs ⊢;unfold Ei.tree Itm.Nm.tree Itm.YZ Itm.Rn;rcases hs with rfl|rfl
 ·by_cases a:l=[110,111,110,101]
  ·subst a;rfl
  ·have d:(l==[110,111,110,101])=false:=M2.2 a;simp only[d,a];rfl
 ·rfl
theorem Ez{t x y:Itm.Tr}(j:t.l=[x,y])(L:List Ei)(g:(Itm.oS y).map (λm=>(⟨(m.s:Int),m.l,m.n,m.v⟩:Ei))=L)(h:∀m∈L,(aN m&&(Itm.aG m.tree==Itm.aG t))=false):ofE t=none:=by
 unfold ofE;by_cases f:Itm.OfP t (Itm.iO t)
 ·exfalso;obtain⟨a,r,d⟩:=f;have k:=Itm.Vx j a d;have:=h _ (g▸List.mem_map_of_mem k);rw[show aN (⟨((Itm.iO t).s:Int),(Itm.iO t).l,(Itm.iO t).n,(Itm.iO t).v⟩:Ei)=true from a,Pd a,<-d]at this;simp at this
 ·rw[M5 f]
theorem Wh{t:Itm.Tr}(h:Itm.aU 8 t=false\/t.l.length≠2):ofE t=none:=by
 unfold ofE;rw[M5];rintro⟨f,a,d⟩;rcases h with h|h
 ·rw[a]at h;cases h
 ·rw[d]at h;exact h rfl
theorem Gl{y p q:Itm.Tr}(h:y.l.length=2)(a:y.l[0]? =some p)(d:y.l[1]? =some q):(Itm.oS y).map (λm=>(⟨(m.s:Int),m.l,m.n,m.v⟩:Ei))=[⟨1,[110,111,110,101],0,0⟩,⟨1,y.s,0,0⟩,⟨2,[],p.n,q.n⟩]:=by
 unfold Itm.oS;rw[iR h a d];rfl
theorem Gk{y:Itm.Tr}(h:¬y.l.length=2):(Itm.oS y).map (λm=>(⟨(m.s:Int),m.l,m.n,m.v⟩:Ei))=[⟨1,[110,111,110,101],0,0⟩,⟨1,y.s,0,0⟩]:=by
 rw[Itm.Ys h];rfl
def EiR(_:View)(e:Ei)(cs:List Value):Prop:=cs=e.cs
instance eiR:RecOk EiR 4:=⟨λ_ h=>h,λh=>by rw[h];rfl,λh u hu=>by
 rw[h]at hu;simp only[Ei.cs,O6,Q8,U2]at hu;rcases hu with rfl|rfl|rfl|rfl<;>rfl⟩
noncomputable def UH(t:Itm.Tr):Value:=match ofE t with
 |some x=>.tuple #[x.V,.int .i64 0]
 |none=>.tuple #[(⟨0,[],0,0⟩:Ei).V,.int .i64 2]
theorem VI(t:Itm.Tr)(a:Option Addr)(c:Nat)(w:World){U:View}(hU:See U w)(ht:TV U t ([.int .i64 t.k,.int .u64 (t.n:Int),.string (B t.s),.slice a t.l.length c,.bool t.o]))(m7:fR U a t.l)(hn:t.n<W64)(m3:Itm.szT t<=1000000):CP 72 #[.agg ([.int .i64 t.k,.int .u64 (t.n:Int),.string (B t.s),.slice a t.l.length c,.bool t.o]).toArray] w (Ret (UH t) w):=by
 let Y4:List Value:=[(.agg #[(I6 0),(St []),(U6 0),(U6 0)]),(I6 2)];refine dC 73 Tryz.func72 hU ?_;refine zs (zr (aW (λb0=>(aW (λN=>(zq 1 (zn (zs (zB [1] [(b0,5)] (cY 111 #[(tV t a c)] (.bool (Itm.aU 8 t)) (λW F=>Itm.sZ t _ W ((ht).toTAt F.view)) ?_))))))))));refine zq 2 (cN 10 (!(Itm.aU 8 t)) (λh0=>?_) (λh0=>?_))
 ·refine zq 5 (zn (dM (zQ 1 (aX 1 N (zq 1 (zn (aA (dW [2,0] [(N,4)] Y4 (λW' F=>?_)))))))));refine⟨?_,F.below⟩;unfold UH;rw[Wh (.inl (by simpa using h0))];rfl
 ·refine cF [0,1,0,0,0] [(b0,1)] (zn (iE (t.l.length:Int) 2 (λh1 l3=>?_) (λh1 l3=>?_)))
  ·refine zQ 1 (aX 1 N (zq 1 (zn (aA (dW [2,0] [(N,4)] Y4 (λW' F=>?_))))));refine⟨?_,F.below⟩;unfold UH;rw[Wh (.inr oW)];rfl
  ·refine zk (zs (zr ?_));have k2:Itm.aU 8 t=true:=by simpa using h0
   refine cF [0,1] [(b0,1)] ?_;obtain⟨E,k6⟩:∃y,(t.l)[1]? =some y:=⟨(t.l)[1]'oW,K8 _⟩;let Y2:List Value:=[(I6 1),(St [110,111,110,101]),(U6 0),(U6 0),(I6 1),(St E.s),(U6 0),(U6 0)];obtain⟨b2,f2,p4,rfl,l7,m4⟩:=m7.at_ 1 E k6;obtain⟨a2,c2,rfl,c8,q1,k4,p8⟩:=m4.form;refine cB (Pt b2 (f2+1*5)) (rIx 136 rfl b2 f2 t.l.length c 1 5) ?_;refine zU b2 (f2+1*5) (tC E a2 c2) l7 136 (.tmp 19) _ Tryz.underlying136 rfl ?_;refine aW (λb3=>(aX 2 b3 (zn (zQ 1 (zn (zB [0,0,0,3,0] [(b3,1)] (aW (λb4=>?_))))))));let Y1:aH:=[(bK b0 [(I6 t.k),(N6 t.n),(St t.s),(Sl b2 f2 t.l.length c),(.bool t.o)] 136),(N,.cells [(I6 0),(St []),(U6 0),(U6 0)].toArray 24 (0,0)),(bK b3 (tC E a2 c2) 136),(b4,.cells Y2.toArray 24 (0,0))];refine fK Rw.nil [] 0 Y1 24 178 4 40 2 Cs (Rw.ok_nil 4) (.tmp 21) (.tmp 26) rfl kR b4 0 2 Y2 kR (λW F=>cI F 3 b4 Y2 24 kR) rfl (M7.1 kR) (by decide) (by unfold maxLen;omega) oW kR kR kR kR kR (λr5 k1=>?_);refine zq 1 (zn ?_);refine dG (α:=Gp Ei) (λk=>[1,2,3,5].zip [(Pt b0 0),(Pt N 0),(I6 0),(k.r.V k.i)]) (λk=>k.V) (λk=>(Y1++k.r.B 24 k.xs)) (λk=>View.le U k.V/\RwR EiR 4 k.V k.r k.xs k.i k.L/\(Itm.oS E).map (λm=>(⟨(m.s:Int),m.l,m.n,m.v⟩:Ei))=k.L.map Prod.fst/\∀m∈k.L.map Prod.fst,m.ok) ?_ ?_
   ·refine zB [0,3,0,0] [(b3,1)] (zn (fC (E.l.length:Int) 2 (λh2 l4=>?_) (λh2 l4=>?_)))
    ·obtain⟨y6,k7⟩:∃y,(E.l)[0]? =some y:=⟨(E.l)[0]'oW,K8 _⟩;obtain⟨b6,f6,p5,rfl,l8,m5⟩:=c8.at_ 0 y6 k7;obtain⟨a6,c6,rfl,o8,m1,q2,p9⟩:=m5.form;obtain⟨y7,k8⟩:∃y,(E.l)[1]? =some y:=⟨(E.l)[1]'oW,K8 _⟩;obtain⟨b7,f7,p6,e7,l9,m6⟩:=c8.at_ 1 y7 k8;obtain⟨a7,c7,rfl,o9,m2,q3,q0⟩:=m6.form;cases e7;refine jX 6 [0,0,5,1,0,1,0,5,1,0,1,0,1] [(b3,1),(b3,1)] [.val (Pt b6 (f6+0*5)),.val (N6 y6.n),.val (Pt b6 (f6+1*5)),.val (N6 y7.n),.mem (λv V=>∃g,v=(Sl g 0 1 1)/\V.range g 0 [(I6 2),(St []),(N6 y6.n),(N6 y7.n)])] (by simp only[O4];exact⟨trivial,trivial,trivial,trivial,by intro v V V2 J I;(first|trivial|exact PhiMono.go I J|(obtain⟨cs,e,I⟩:=I;exact⟨cs,e,I.le J⟩)|(obtain⟨g,e,I⟩:=I;exact⟨g,e,View.range_le J I⟩)),λ_ h=>by cases h⟩) ⟨?_,?_,?_,?_,?_,trivial⟩ ?_
     ·exact wR (λu=>jP _ 136 _ _ rfl b6 f6 E.l.length c2 0 5 .i64 kR kR (by first|assumption|omega) kR kR)
     ·exact wU1 b6 (f6+0*5+1) (l8 1 _ rfl) 22 _ _ Tryz.underlying22 rfl
     ·exact wR (λu=>jP _ 136 _ _ rfl b6 f6 E.l.length c2 1 5 .i64 kR kR (by first|assumption|omega) kR kR)
     ·exact wU1 b6 (f6+1*5+1) (l9 1 _ rfl) 22 _ _ Tryz.underlying22 rfl
     ·refine wN [43] (λu=>[(.agg #[(I6 2),(St []),(N6 y6.n),(N6 y7.n)])]) λu V hV b5=>?_
      refine⟨[(I6 2),(St []),(N6 y6.n),(N6 y7.n)],24,λr=>(Sl r 0 1 1),?_,λg V' p7 hR=>?_⟩
      ·kernel_rfl
      exact⟨g,rfl,hR⟩
     intro u8 V8 m0 j7;have e2:=j7 12 rfl;obtain⟨l2,h7,h8⟩:=e2;refine qS 44 h7 ?_;refine iW 4 24 178 40 1 1 k1 (λW F=>View.range_of h8 F.view) rfl (M7.1 kR) (by decide) (λo0 k0=>?_);refine zq 1 (zn ?_);refine jn ⟨3,o0,(([]++Y2)++[(I6 2),(St []),(N6 y6.n),(N6 y7.n)]),[((⟨1,[110,111,110,101],0,0⟩:Ei),(⟨1,[110,111,110,101],0,0⟩:Ei).cs),((⟨1,E.s,0,0⟩:Ei),(⟨1,E.s,0,0⟩:Ei).cs),((⟨2,[],y6.n,y7.n⟩:Ei),(⟨2,[],y6.n,y7.n⟩:Ei).cs)],V8⟩ ?_;exact⟨m0,⟨k0,rfl,rfl,⟨rfl,rfl,rfl,trivial⟩⟩,(Gl oW k7 k8),λm hm=>by
      simp only[R2,Z0,O6,Q8,U2]at hm;rcases hm with rfl|rfl|rfl
      ·exact⟨(by decide),(by decide),(by decide)⟩
      ·exact⟨k4,(show(0:Nat)<W64 by decide),(show(0:Nat)<W64 by decide)⟩
      ·exact⟨(show(0:Nat)<=R47 by decide),m1,m2⟩⟩
    ·refine zk ?_;refine jn ⟨2,r5,([]++Y2),[((⟨1,[110,111,110,101],0,0⟩:Ei),(⟨1,[110,111,110,101],0,0⟩:Ei).cs),((⟨1,E.s,0,0⟩:Ei),(⟨1,E.s,0,0⟩:Ei).cs)],U⟩ ?_;exact⟨View.le_refl _,⟨k1,rfl,rfl,⟨rfl,rfl,trivial⟩⟩,(Gk oW),λm hm=>by
      simp only[R2,Z0,O6,Q8,U2]at hm;rcases hm with rfl|rfl
      ·exact⟨(by decide),(by decide),(by decide)⟩
      ·exact⟨k4,(show(0:Nat)<W64 by decide),(show(0:Nat)<W64 by decide)⟩⟩
   intro k e6;obtain⟨n1,e9,h6,e8⟩:=e6;have n2:k.i=(k.L.map Prod.fst).length:=by rw[O1];exact e9.m
   refine zs (zs (zr ?_));refine sK 5 k.r k.xs 4 k.i Y1 24 kR e9.ok kR (λe0 G j1 c0 j3 o4=>?_);have n5:=(ht.le n1).le c0;have n7:=e9.le c0;have q5:k.i<=3:=by have:=Itm.Yr E;have h9:=M0 List.length h6;rw[O1]at h9;omega
   have O:=n7.done (by decide) j3 (View.le_refl _) (by unfold R47;omega);obtain⟨L9,l6⟩:∃L,k.L.map Prod.fst=L:=⟨_,rfl⟩;rw[l6]at O h6 e8 n2;refine zq 1 (zn (aB (eF (α:=Nat) (λx=>[1,2,3,5,6].zip [(Pt b0 0),(Pt N 0),(I6 0),(.slice e0 k.i G),(L6 x)]) (λx=>j1) (λx=>Y1) (λx=>x<=k.i/\∀i,i<x->∀m,L9[i]? =some m->(aN m&&(Itm.aG m.tree==Itm.aG t))=false) (λx=>k.i-x) 0 ?_ ?_)))
   ·exact⟨M8 _,λi h=>absurd h oW⟩
   intro x hx;obtain⟨q4,k5⟩:=hx;refine zs (zQ 4 (zn (aZ ((x:Int)<(k.i:Int)) (λh3 l5=>?_) (λh3 l5=>?_))))
   ·refine zk (zs (aB ?_));refine dG (α:=Bool) (λb9=>[1,2,3,5,6,46,47,48,49,67].zip [(Pt b0 0),(Pt N 0),(I6 0),(.slice e0 k.i G),(L6 x),(L6 x),(.slice e0 k.i G),(L6 k.i),(.bool (decide ((x:Int)<(k.i:Int)))),(.bool b9)]) (λb9=>j1) (λb9=>Y1) (λb9=>∃m,L9[x]? =some m/\b9=(aN m&&(Itm.aG m.tree==Itm.aG t))) ?_ ?_
    ·obtain⟨f,M⟩:∃y,(L9)[x]? =some y:=⟨(L9)[x]'oW,K8 _⟩;let Y5:List Value:=[(I6 f.s),(St f.l),(N6 f.n),(N6 f.v)];let Y3:Value:=(.agg #[(I6 f.s),(St f.l),(N6 f.n),(N6 f.v)]);obtain⟨C,D,o2,rfl,X,j4⟩:=O.at_ x f M;obtain rfl:=j4;have K:=e8 f (K9 M);rcases N2 (aN f)with h4|h4
     ·refine jX 5 [0,0,1,1,1,0,0,0,1,1,1,1,3] [(b0,5)] [.val (Pt C (D+x*4)),.val Y3,.val qT,.val (Pt C (D+x*4)),.val Y3,.mem (pO f.tree),.val (St (Itm.aG f.tree))] (by simp only[O4];refine⟨?_,?_,?_,?_,?_,?_,?_,λ_ h=>by cases h⟩<;>first|trivial|(intro v V V2 J I;(first|trivial|exact PhiMono.go I J|(obtain⟨cs,e,I⟩:=I;exact⟨cs,e,I.le J⟩)|(obtain⟨g,e,I⟩:=I;exact⟨g,e,View.range_le J I⟩)))) ⟨?_,?_,?_,?_,?_,?_,?_,trivial⟩ ?_
      ·exact wR (λu=>jP _ 24 _ _ rfl C D k.i G x 4 .i64 kR kR (by first|assumption|omega) kR kR)
      ·exact wU C (D+x*4) Y5 X 24 _ _ Tryz.underlying24 rfl
      ·refine wV 107 (λu=>#[Y3]) λu V hV b5 W hW=>?_
       exact(by have Y:=rZ f W K.l;rw[h4]at Y;exact Y)
      ·exact wR (λu=>jP _ 24 _ _ rfl C D k.i G x 4 .i64 kR kR (by first|assumption|omega) kR kR)
      ·exact wU C (D+x*4) Y5 X 24 _ _ Tryz.underlying24 rfl
      ·refine wMg 77 (λu=>#[Y3]) λu V hV b5 W hW=>?_
       exact rF f W hW K h4
      ·refine wVg 76 (λu=>#[u 10]) λu V hV b5 W hW=>?_
       have l1:=b5 10 kR rfl;obtain⟨o1,n9,c4⟩:=l1;obtain⟨p2,p3,rfl,m8,o6,o7,o5⟩:=c4.form;rw[n9];exact iA 8 _ _ hW c4 (iX f 5) (by have:=gH h4;unfold DK;omega)
      intro q6 p1 c1 e5;have n8:=n5.le c1;have a1:=e5 10 rfl;obtain⟨j2,b8,Z⟩:=a1;obtain⟨k9,l0,rfl,j0,j9,k3,j8⟩:=Z.form;refine qS 62 b8 ?_;refine cY 76 #[(.agg #[(I6 t.k),(N6 t.n),(St t.s),(Sl b2 f2 t.l.length c),(.bool t.o)])] (St (Itm.aG t)) (λW F=>iA 8 _ _ F.view n8 k2 (by unfold DK;omega)) ?_;refine cB (.bool ((Itm.aG f.tree)==(Itm.aG t))) (gZ _ _ _ _ rfl (Itm.aG f.tree) (Itm.aG t) kR kR) ?_;refine zq 1 (zn ?_);refine jn ((Itm.aG f.tree)==(Itm.aG t)) ?_ (d:=λ_ h=>(h.weak c1).eqv kR);exact⟨f,M,by rw[h4];rfl⟩
     ·refine gI 5 [0,0,1,1,1,0,2,2,2,2,2,2,2] [] [.val (Pt C (D+x*4)),.val Y3,.val qF] ⟨?_,?_,?_,trivial⟩ ?_
      ·exact vR (rIx 24 rfl C D k.i G x 4)
      ·exact vU C (D+x*4) Y5 X 24 _ _ Tryz.underlying24 rfl
      ·exact vC 107 #[Y3] (λW F=>(by have Y:=rZ f W K.l;rw[h4]at Y;exact Y))
      refine zq 3 (zn ?_);refine jn false ?_;exact⟨f,M,by rw[h4];rfl⟩
    intro b9 a8;obtain⟨m9,K,a8⟩:=a8;refine gK b9 (λh5=>?_) (λh5=>?_)
    ·refine zQ 2 ?_;obtain⟨A,c9⟩:∃y,(L9)[x]? =some y:=⟨(L9)[x]'oW,K8 _⟩;obtain⟨e1,e3,o3,rfl,j6,j5⟩:=O.at_ x A c9;obtain rfl:=j5;refine cB (Pt e1 (e3+x*4)) (rIx 24 rfl e1 e3 k.i G x 4) ?_;refine zU e1 (e3+x*4) [(I6 A.s),(St A.l),(N6 A.n),(N6 A.v)] j6 24 (.tmp 70) _ Tryz.underlying24 rfl ?_;refine aX 1 N (zq 1 (zn (aA (dW [2,0] [(N,4)] [(.agg #[(I6 A.s),(St A.l),(N6 A.n),(N6 A.v)]),(I6 0)] (λW' F=>?_)))));obtain rfl:m9=A:=N5 (K.symm.trans c9);have e4:=a8.symm.trans h5;rw[L5]at e4;refine⟨?_,F.below⟩;unfold UH;rw[Jc ht k2 e4.1 (e8 _ (K9 K)) m3 (eq_of_beq e4.2)];rfl
    ·refine zk (zr (zq 2 (dH 51 ((x:Int)+1) (zq 1 (zn ?_)))));refine nx (x+1) ?_ ?_
     ·exact⟨by omega,mL (P:=λ_ m=>(aN m&&(Itm.aG m.tree==Itm.aG t))=false) K k5 (a8.symm.trans h5)⟩
     ·show k.i-(x+1)<k.i-x;omega
   ·refine aI (zQ 1 (aX 1 N (zq 1 (zn (aA (dW [2,0] [(N,4)] Y4 (λW' F=>?_)))))));obtain⟨x9,n0⟩:∃x,t.l[0]? =some x:=⟨t.l[0]'oW,K8 _⟩;have e6:ofE t=none:=Ez (iR oW n0 k6) _ h6 (λm hm=>by
     obtain⟨j,hj⟩:=ay hm;exact BS (P:=λ_ m=>(aN m&&(Itm.aG m.tree==Itm.aG t))=false) oW k5 j m hj)
    refine⟨?_,F.below⟩;unfold UH;rw[e6];rfl
theorem Qf{t:Itm.Tr}{x:Ei}(r:ofE t=some x)(cs:List Value)(w:World){U:View}(j:See U w)(h:TV U t cs)(f:Itm.szT t<=1000000):CP 72 #[.agg cs.toArray] w (Ret (.tuple #[x.V,.int .i64 0]) w):=by
 obtain⟨a,c,rfl,g,k,hs,u⟩:=h.form;have d:=VI t a c w j h g k f;unfold UH at d;rw[r]at d;exact d
theorem Qe{t:Itm.Tr}(r:ofE t=none)(cs:List Value)(w:World){U:View}(j:See U w)(h:TV U t cs)(f:Itm.szT t<=1000000):CP 72 #[.agg cs.toArray] w (Ret (.tuple #[(⟨0,[],0,0⟩:Ei).V,.int .i64 2]) w):=by
 obtain⟨a,c,rfl,g,k,hs,u⟩:=h.form;have d:=VI t a c w j h g k f;unfold UH at d;rw[r]at d;exact d
theorem NS{d:Nat}(a:∀t,Itm.aU d t=true->Itm.szT t<=(Itm.aG t).length):∀l:List Itm.Tr,(∀x∈l,Itm.aU d x=true)->Itm.szL l<=(Itm.aY l).length
 | [],_=>by simp[Itm.szL]
 |x::l,h=>by
  have g:=a x (h x Q3);have j:=NS a l λy f=>h y (P3 _ f)
  rw[Itm.szL,Itm.aY,L4];omega
theorem NR:∀(d:Nat) (t:Itm.Tr),Itm.aU d t=true->Itm.szT t<=(Itm.aG t).length
 |0,t,h=>by cases h
 |d+1,.mk k n s l o,h=>by
  rw[Itm.aU,L5,M7]at h;have r:=NS (NR d) l h.2;have u:=(Itm.aE 0 n).1;have A:=(Itm.aE 4 l.length).1;rw[Itm.szT];rcases Itm.lW h.1 with⟨a,f,g,j⟩|⟨a,f,g,j⟩|⟨a,f,g,j⟩|⟨a,f,g,j⟩<;>simp only[Itm.Tr.k,Itm.Tr.n,Itm.Tr.s,Itm.Tr.l,Itm.Tr.o]at a f g j
  ·obtain rfl:=O7.1 g;subst a f j;rw[Itm.mT,Itm.szL];simp only[O8];omega
  ·obtain rfl:=O7.1 g;subst a f j;have:=(Itm.aE 2 s.length).1;rw[Itm.pK,Itm.szL,L4];omega
  ·obtain rfl:=O7.1 g;subst a f j;have:=(Itm.aE 3 s.length).1;rw[Itm.pJ,Itm.szL,L4];omega
  ·subst a f g;cases o with
   |true=>
    rw[Itm.pL];simp only[M9,L4,O8];omega
   |false=>
    rw[Itm.iQ,L4];simp only[O8];omega
def ItW(n:Nat)(t:Itm.Tr):Prop:=Itm.aU 8 t=true/\Itm.szT t<=n
theorem Lz:∀(n:Nat) (s:List UInt8) (l:List Itm.Tr),JY n s=some l->∀x∈l,ItW s.length x
 |0,s,l,h,x,a=>by
  rw[JY]at h;obtain rfl:=N5 h;cases a
 |n+1,s,l,h,x,a=>by
  rw[JY]at h;split at h
  ·obtain rfl:=N5 h;cases a
  ·split at h
   ·cases h
   ·next t k r=>
    split at h
    ·cases h
    ·next ts g=>
     obtain rfl:=N5 h;rcases O6.1 a with rfl|a
     ·obtain⟨⟨d,_⟩,f⟩:=AS 8 s x k r;have j:=NR 8 x d;rw[f,O3]at j;exact⟨d,by omega⟩
     ·obtain⟨d,f⟩:=Lz n _ ts g x a;rw[N8]at f;exact⟨d,by omega⟩
theorem ItW.l{n:Nat}{t:Itm.Tr}(h:ItW n t):t.l.length<=1000/\∀y∈t.l,y.l.length<=1000:=⟨AE h.1,λy a=>AE (OD (d:=7) h.1 a)⟩
def Mx(s:List UInt8)(i a:Nat)(L:List Itm.Tr):Prop:=a<=s.length/\QB L (JY (7-i) (s.drop a))=JY 7 s
theorem Mx.step{s:List UInt8}{i a:Nat}{L:List Itm.Tr}(h:Mx s i a L)(u:i<7)(r:a<s.length){t:Itm.Tr}{k:Nat}(d:itF 8 (s.drop a)=some (t,k)):Mx s (i+1) (a+k) (L++[t]):=by
 obtain⟨j,f⟩:=h;have g:=gU _ _ _ _ d;rw[N8]at g;refine⟨by omega,?_⟩;rw[<-f,show 7-i=(7-(i+1))+1 by omega,GF (by rw[N8];omega),d];simp only;rw[Ue,T3]
theorem Mx.no{s:List UInt8}{i a:Nat}{L:List Itm.Tr}(h:Mx s i a L)(k:i<7)(j:a<s.length)(f:itF 8 (s.drop a)=none):JY 7 s=none:=by
 obtain⟨g,d⟩:=h;rw[<-d,show 7-i=(7-(i+1))+1 by omega,GF (by rw[N8];omega),f];rfl
theorem Mx.done{s:List UInt8}{i a:Nat}{L:List Itm.Tr}(h:Mx s i a L)(d:¬i<7\/¬a<s.length):JY 7 s=some L:=by
 obtain⟨k,g⟩:=h;have j:JY (7-i) (s.drop a)=some []:=by
  rcases d with d|d
  ·rw[show 7-i=0 by omega];rfl
  ·cases 7-i with
   |zero=>rfl
   |succ n=>
    have f:(s.drop a).length=0:=by rw[N8];omega
    rw[JY,N1 f]
 rw[<-g,j];simp[QB]
def Cc(x:Option As)(v:Value)(V:View):Prop:=match x with
 |some a=>∃a1 a2 a3 c1 c2 c3,v=.tuple #[asV a a1 a2 a3 c1 c2 c3,.bool true]/\DR V a1 a2 a3 a
 |none=>v=.tuple #[asV As.zero none none none 0 0 0,.bool false]
theorem QL{t c s r:Itm.Tr}{p:List Pa}{e:Ei}(h:ofE s=some e):WW t c s p r=some ⟨t.l.map nT,nT c,e,p,r.l.map eB⟩:=by
 unfold WW;rw[h]
theorem Th{t c s r:Itm.Tr}{p:List Pa}(h:ofE s=none):WW t c s p r=none:=by
 unfold WW;rw[h]
theorem Ln{l:List Itm.Tr}{a b c d e:Itm.Tr}(u:l.length=5\/l.length=6)(g:l[0]? =some a)(j:l[1]? =some b)(k:l[3]? =some c)(r:l[4]? =some d)(f:l[l.length-1]? =some e):asT l=WW a b c (if l.length=6 then eB d else[]) e:=by
 rcases u with h|h
 ·rw[M5 oW];rw[h]at f;exact Ck h g j k f
 ·rw[N1 h];rw[h]at f;exact Cl h g j k r f
structure Pz where
 a:Option Addr
 c:Nat
 l:List Pa
 V:View
theorem JN(t:Itm.Tr):(eB t).length<=t.l.length:=by
 unfold eB;split
 ·next l h=>exact Nat.le_of_eq (VU h)
 ·exact M8 _
set_option maxHeartbeats 1600000 in
theorem gG(s:List UInt8)(w:World){U:View}(hU:See U w)(hs:s.length<=1000000):CP 30 #[.string (B s)] w (fV w U (Cc (dI s))):=by
 refine dC 139 Tryz.func30 hU ?_;refine zs (zr (aW (λN=>(zq 1 (zn (zQ 1 (zn (zQ 1 (zn ?_)))))))));refine dG (α:=Ip) (λx=>[0,2,3,4,5,6].zip [(St s),(Pt N 0),qF,(x.r.V x.i),(L6 x.a),(L6 x.i)]) (λx=>x.V) (λx=>([(N,.cells Z8.toArray 79 (0,0))]++x.r.B 136 x.xs)) (λx=>x.i<=7/\View.le U x.V/\RwR TV 5 x.V x.r x.xs x.i x.L/\Mx s x.i x.a (x.L.map Prod.fst)/\(¬x.i<7\/¬x.a<s.length)) ?_ ?_
 ·refine zQ 1 (zn (aB (eF (α:=Ip) (λx=>[0,2,3,4,5,6].zip [(St s),(Pt N 0),qF,(x.r.V x.i),(L6 x.a),(L6 x.i)]) (λx=>x.V) (λx=>([(N,.cells Z8.toArray 79 (0,0))]++x.r.B 136 x.xs)) (λx=>x.i<=7/\View.le U x.V/\RwR TV 5 x.V x.r x.xs x.i x.L/\Mx s x.i x.a (x.L.map Prod.fst)) (λx=>7-x.i) ⟨0,0,Rw.nil,[],[],U⟩ ?_ ?_ (hm:=λ_ h=>h.eqv (U3 kR (M1 ([(N,.cells Z8.toArray 79 (0,0))]:aH)).symm)))))
  ·exact⟨M8 _,View.le_refl _,RwR.nil,M8 _,Ug _⟩
  intro x hx;obtain⟨p7,a7,a8,a1⟩:=hx;have C3:=a1.1;refine zs (zQ 3 (jM 17 ((x.i:Int)<7) (λh0 A5=>?_) (λh0 A5=>?_)))
  ·refine zq 5 (zn (aZ ((x.a:Int)<(((s).length:Nat):Int)) (λh1 A6=>?_) (λh1 A6=>?_)))
   ·refine zk (zs (aB (zQ 2 ?_)));rcases N2 ((itF 8 (s.drop x.a)).isSome)with h2|h2
    ·refine lU (λW L=>rY s hs 8 (by decide) x.a a1.1 W L.view) (λv1 V1 s7 o2=>?_);have k2:=a8.le s7;unfold dP at o2;obtain⟨⟨t1,k1⟩,l0⟩:=P4.1 h2;obtain⟨k9,k5⟩:=TF l0 hs;have B6:=gU _ _ _ _ l0;rw[N8]at B6;rw[l0]at o2;obtain rfl:=o2;refine zq 5 (zn (zs (zQ 2 (zn (cU (zk (zQ 4 (cB (St ((s.drop x.a).take ((x.a+k1)-x.a))) (iY 9 _ (some _) (some _) rfl s x.a (x.a+k1) ((s.drop x.a).take ((x.a+k1)-x.a)) kR (show evS _ _=_ by kernel_rfl) (show evS _ _=_ by kernel_rfl) nL nL rfl Tryz.underlying9) ?_))))))));refine lU (λW L=>SJ 8 (by decide) ((s.drop x.a).take ((x.a+k1)-x.a)) t1 k9 k5 W L.view) (λv3 V3 s9 B3=>?_);have k4:=k2.le s9;obtain⟨J0,rfl,w3⟩:=B3;obtain⟨a3,c3,rfl,G9,K0,K1,J9⟩:=w3.form;refine gR (tC t1 a3 c3) 136 (λr=>(Sl r 0 1 1)) kR kR kR (λg5 V5 o3 B4=>?_);have k7:=w3.le o3;have k8:=k4.le o3;have B5:fR V5 (some ⟨g5,0,none⟩) [t1]:=fR.lit [(t1,(tC t1 a3 c3))] B4 ⟨k7,trivial⟩ (show 1<=R47 by decide);obtain⟨I5,J8,L9,j,r0,e5,B2⟩:=B5.open (by simp);cases j;have r1:L9.length=1:=by rw[<-O1 (f:=Prod.fst),r0];rfl
     refine iW 1 136 132 64 1 1 a8.ok (λW L=>View.range_of B2 L.view) (by rw[e5.flat_len,r1]) e5.one (by decide) (λD3 u7=>?_);refine zq 1 (zn (zr (zq 2 (zn (zr (zq 2 (dH 24 ((x.i:Int)+1) (zq 1 (zn ?_)))))))));refine nx ⟨x.a+k1,x.i+1,D3,(x.xs++(L9.flatMap Prod.snd)),x.L++L9,V5⟩ ?_ ?_
     ·exact⟨by show x.i+1<=7;omega,(View.le_trans (View.le_trans (View.le_trans a7 s7) s9) o3),RwR.app k8 (CJ e5) r1 u7,by rw[P6,r0];exact a1.step oW oW l0⟩
     ·show 7-(x.i+1)<7-x.i;omega
    ·refine lU (λW L=>rY s hs 8 (by decide) x.a a1.1 W L.view) (λK6 H3 s8 e8=>?_);unfold dP at e8;have m3:itF 8 (s.drop x.a)=none:=by cases o6:itF 8 (s.drop x.a)with|none=>rfl|some q=>(have h9:=h2;rw[o6]at h9;cases h9)
     rw[m3]at e8;obtain⟨K3,D4,w5,rfl⟩:=e8;refine zq 5 (zn (zs (zQ 2 (zn (jG (D4 !=0) (Q0.2 w5) ?_)))));refine zQ 1 (aX 0 N (zq 1 (zn (aA (dW [1,0] [(N,8)] [(.agg Z8.toArray),qF] (λW' L=>?_))))));rw[show dI s=none from YN (a1.no oW oW m3)];exact aJ L (View.le_trans a7 s8) rfl
   ·refine aI ?_;refine jn x ?_;exact⟨p7,a7,a8,a1,by omega⟩
  ·refine zq 5 (zn (cU (aI ?_)));refine jn x ?_;exact⟨p7,a7,a8,a1,by omega⟩
 intro x hx;obtain⟨p7,a7,a8,a1,K2⟩:=hx;have C3:=a1.1;refine zQ 1 (cB (L6 x.i) (qZ x.r 5 x.i x.xs a8.ok (.tmp 43) 132 136 rfl kR kR) ?_);refine zq 1 (zn (zs ?_));refine dG (α:=Bool) (λb9=>[0,2,3,4,9,50].zip [(St s),(Pt N 0),qF,(x.r.V x.i),(L6 x.i),(.bool b9)]) (λb9=>x.V) (λb9=>([(N,.cells Z8.toArray 79 (0,0))]++x.r.B 136 x.xs)) (λb9=>(b9=true->x.i≠5/\x.i≠6)/\(b9=false->x.i=5\/x.i=6)) ?_ ?_
 ·refine zr (zq 3 (jB 47 (x.i:Int) 5 (λh3 A7=>?_) (λh3 A7=>?_)))
  ·refine zq 3 (zn ?_);refine jn ((x.i:Int) !=6) ?_;exact⟨(λh=>by have:=Q0.1 h;omega),(λh=>by have:=Q5.1 h;omega)⟩
  ·refine zq 3 (zn ?_);refine jn false ?_;exact⟨(λh=>by cases h),(λ_=>by omega)⟩
 intro b9 u1;refine gK b9 (λh4=>?_) (λh4=>?_)
 ·have A8:=u1.1 h4;refine zQ 1 (aX 0 N (zq 1 (zn (aA (dW [1,0] [(N,8)] [(.agg Z8.toArray),qF] (λW' L=>?_))))));have c0:=a1.done oW;have k6:(x.L.map Prod.fst).length=x.i:=by rw[O1];exact a8.m.symm
  rw[show dI s=none from JK c0 (Ib oW oW)];exact aJ L a7 rfl
 ·have A8:=u1.2 h4;refine zk (zs (zr ?_));refine sK 4 x.r x.xs 5 x.i [(N,.cells Z8.toArray 79 (0,0))] 136 kR a8.ok kR (λH4 a6 q1 b7 r3 E3=>?_);have C6:=a8.le b7;have Y:=(C6.done (by decide) r3 (View.le_refl _) (by unfold R47;omega)).ts;have c0:=a1.done oW;obtain⟨l9,k5⟩:∃l,x.L.map Prod.fst=l:=⟨_,rfl⟩;rw[k5]at c0 Y;have k6:l9.length=x.i:=by rw[<-k5,O1];exact a8.m.symm
  have e6:=Lz 7 s l9 c0;obtain⟨d,c9⟩:∃y,(l9)[0]? =some y:=⟨(l9)[0]'oW,K8 _⟩;obtain⟨C,D,D5,rfl,l8,u9⟩:=Y.at_ 0 d c9;obtain⟨y7,n5,rfl,o7,F3,G1,E5⟩:=u9.form;have p2:=e6 d (K9 c9);have l1:=p2.l;obtain⟨k,e0⟩:∃y,(l9)[1]? =some y:=⟨(l9)[1]'oW,K8 _⟩;obtain⟨H8,J1,D6,z7,r7,v7⟩:=Y.at_ 1 k e0;obtain⟨H5,I7,rfl,B7,F4,G2,E6⟩:=v7.form;cases z7;have p3:=e6 k (K9 e0);have x7:=p3.l;obtain⟨x0,m9⟩:∃y,(l9)[2]? =some y:=⟨(l9)[2]'oW,K8 _⟩;obtain⟨H9,J2,D7,z8,E4,v8⟩:=Y.at_ 2 x0 m9;obtain⟨H6,I8,rfl,B8,F5,G3,E7⟩:=v8.form;cases z8;have p4:=e6 x0 (K9 m9);have x8:=p4.l;obtain⟨b4,e1⟩:∃y,(l9)[3]? =some y:=⟨(l9)[3]'oW,K8 _⟩;obtain⟨I0,J3,D8,A0,r8,m6⟩:=Y.at_ 3 b4 e1;obtain⟨n1,n7,rfl,B9,F6,G4,E8⟩:=m6.form;cases A0;have c1:=e6 b4 (K9 e1);have x9:=c1.l;obtain⟨b5,e2⟩:∃y,(l9)[4]? =some y:=⟨(l9)[4]'oW,K8 _⟩;obtain⟨I1,J4,D9,A1,r9,w0⟩:=Y.at_ 4 b5 e2;obtain⟨q4,q7,rfl,o8,F7,G5,E9⟩:=w0.form;cases A1;have p5:=e6 b5 (K9 e2);have c4:=p5.l;obtain⟨A,e3⟩:∃y,(l9)[(x.i-1)]? =some y:=⟨(l9)[(x.i-1)]'oW,K8 _⟩;obtain⟨I2,J5,E0,A2,m0,w1⟩:=Y.at_ (x.i-1) A e3;obtain⟨y8,n8,rfl,o9,F8,G6,F0⟩:=w1.form;cases A2;have p6:=e6 A (K9 e3);have c6:=p6.l;refine zq 1 (cB (Pt C (D+1*5)) (rIx 136 rfl C D x.i a6 1 5) ?_);refine zq 1 (zV C (D+1*5+1) (N6 k.n) (r7 1 _ rfl) 22 (.tmp 54) _ Tryz.underlying22 rfl ?_);refine zq 2 (dZ 57 (I6 (IntKind.i64.wrap (if 65536<(k.n:Int)then 65536 else(k.n:Int)))) (I6 (nT k)) (M0 (Value.int .i64) (Jb k)) ?_);refine zq 1 (aW (λJ=>(aX 1 J (zn (zs (zQ 1 (zn (aB (eF (α:=Gp Int) (λG=>[0,2,3,4,9,10,11].zip [(St s),(Pt N 0),qF,(Sl C D x.i a6),(L6 x.i),(Pt J 0),(L6 G.i)]) (λG=>G.V) (λG=>([(N,.cells Z8.toArray 79 (0,0)),(J,.cells [(G.r.V G.i),(I6 (nT k)),(I6 0),(St []),(U6 0),(U6 0),S0,S0].toArray 79 (0,0))]++G.r.B 3 G.xs)) (λG=>G.i<=d.l.length/\View.le q1 G.V/\RwR InR 1 G.V G.r G.xs G.i G.L/\G.L.map Prod.fst=(d.l.take G.i).map nT) (λG=>d.l.length-G.i) ⟨0,Rw.nil,[],[],q1⟩ ?_ ?_ (hm:=λ_ h=>h.eqv (U3 kR (M1 ([(N,.cells Z8.toArray 79 (0,0)),(J,.cells [S0,(I6 (nT k)),(I6 0),(St []),(U6 0),(U6 0),S0,S0].toArray 79 (0,0))]:aH)).symm)))))))))))
  ·exact⟨M8 _,View.le_refl _,RwR.nil,rfl⟩
  intro G C1;obtain⟨H0,F,c7,m7⟩:=C1;refine zs (zQ 2 (cB (Pt C (D+0*5)) (rIx 136 rfl C D x.i a6 0 5) ?_));refine zq 1 (zV C (D+0*5+3) (.slice y7 d.l.length n5) ((View.range_le F l8) 3 _ rfl) 132 (.tmp 62) _ Tryz.underlying132 rfl ?_);refine zq 2 (zn (aZ ((G.i:Int)<(d.l.length:Int)) (λh5 A9=>?_) (λh5 A9=>?_)))
  ·refine zk (zs (aB ?_));obtain⟨O,n0⟩:∃y,(d.l)[G.i]? =some y:=⟨(d.l)[G.i]'oW,K8 _⟩;obtain⟨j5,k0,E1,rfl,s0,w2⟩:=(o7.le F).at_ G.i O n0;obtain⟨H7,I9,rfl,C0,F9,G7,F1⟩:=w2.form;refine jX 9 [0,4,0,1,0,1,0,1,0,1,0,1,1] [(J,1)] [.val (Pt C (D+0*5)),.val (Sl j5 k0 d.l.length n5),.val (Pt j5 (k0+G.i*5)),.val (N6 O.n),.val (I6 (nT O)),.mem (λv V=>∃g,v=(Sl g 0 1 1)/\gV V (some ⟨g,0,none⟩) [(nT O)])] (by simp only[O4];exact⟨trivial,trivial,trivial,trivial,trivial,by intro v V V2 b2 hP;(first|trivial|exact pO.mono b2 hP|exact qK.mono b2 hP|exact PhiMono.go hP b2|(obtain⟨g,e,hP⟩:=hP;exact⟨g,e,hP.le b2⟩)),λ_ h=>by cases h⟩) ⟨?_,?_,?_,?_,?_,?_,trivial⟩ ?_
   ·exact wR (λu=>jP _ 136 _ _ rfl C D x.i a6 0 5 .i64 kR kR (by first|assumption|omega) kR kR)
   ·exact wU1 C (D+0*5+3) ((View.range_le F l8) 3 _ rfl) 132 _ _ Tryz.underlying132 rfl
   ·exact wR (λu=>jP _ 136 _ _ rfl j5 k0 d.l.length n5 G.i 5 .i64 kR kR (by first|assumption|omega) kR kR)
   ·exact wU1 j5 (k0+G.i*5+1) (s0 1 _ rfl) 22 _ _ Tryz.underlying22 rfl
   ·exact wE (I6 (IntKind.i64.wrap (if 65536<(O.n:Int)then 65536 else(O.n:Int)))) (M0 (Value.int .i64) (Jb O))
   ·refine wN [79] (λu=>[(I6 (nT O))]) λu V hV o4=>?_
    refine⟨[(I6 (nT O))],3,λr=>(Sl r 0 1 1),?_,λg V' s6 hR=>?_⟩
    ·kernel_rfl
    exact⟨g,rfl,MN hR (show 1<=R47 by decide)⟩
   intro K4 y0 m1 o5;have C7:=c7.le m1;have j8:=o5 12 rfl;obtain⟨x5,l3,l5⟩:=j8;refine qS 80 l3 ?_;obtain⟨I3,J6,A3,s3⟩:=l5.at_ (by simp);cases A3;refine iW 2 3 75 8 1 1 c7.ok (λW L=>View.range_of s3 L.view) rfl (M7.1 kR) (by decide) (λw8 m4=>?_);refine zq 1 ?_;refine Aa 1 J 0 (G.i+1) 1 w8 (G.xs++[.int .i64 (nT O)]) m4 [(G.r.V G.i),(I6 (nT k)),(I6 0),(St []),(U6 0),(U6 0),S0,S0] 79 75 _ _ rfl kR kR kR (λa c=>by kernel_rfl) kR rfl kR ?_;refine zn (zr (zq 2 (dH 67 ((G.i:Int)+1) (zq 1 (zn ?_)))));refine nx ⟨G.i+1,w8,(G.xs++[.int .i64 (nT O)]),G.L++[((nT O),[.int .i64 (nT O)])],y0⟩ ?_ ?_
   ·exact⟨by show G.i+1<=_;omega,(View.le_trans F m1),RwR.snoc C7 rfl m4,by rw[P6,m7,dL nT n0];rfl⟩
   ·show d.l.length-(G.i+1)<d.l.length-G.i;omega
  ·refine aI (zs (zr ?_));refine jN G.r G.xs 1 G.i [(N,.cells Z8.toArray 79 (0,0)),(J,.cells [(G.r.V G.i),(I6 (nT k)),(I6 0),(St []),(U6 0),(U6 0),S0,S0].toArray 79 (0,0))] 3 kR c7.ok (λb1 b6 q2 K r4 q8=>?_);rw[q8];have p8:=(m6.le F).le K;have C8:=c7.le K;have C9:=(o8.le F).le K;have D0:=(o9.le F).le K;have l7:=(C8.done (by decide) r4 (View.le_refl _) (by unfold R47;omega)).ins;rw[m7,O2 oW]at l7;have u2:G.i=(d.l.map nT).length:=by rw[O1];omega
   rw[u2];refine zq 1 (cB (Pt C (D+3*5)) (rIx 136 rfl C D x.i a6 3 5) ?_);refine zU C (D+3*5) (tC b4 n1 n7) (View.range_le K (View.range_le F r8)) 136 (.tmp 85) _ Tryz.underlying136 rfl ?_;rcases N2 ((ofE b4).isSome)with h6|h6
   ·obtain⟨j,b3⟩:=P4.1 h6;refine cY 72 #[(tV b4 n1 n7)] (.tuple #[j.V,(I6 0)]) (λW L=>Qf b3 _ W L.view p8 (by have:=c1.2;omega)) ?_;refine zq 3 (aW (λe4=>(aX 2 e4 (zq 1 (zn (zs (zQ 2 (zn (cU (zk (zB [3,0] [(e4,4)] (aX 1 J (zn ?_)))))))))))));refine dG (α:=Pz) (λE=>[0,2,3,4,9,10].zip [(St s),(Pt N 0),qF,(Sl C D x.i a6),(L6 x.i),(Pt J 0)]) (λE=>E.V) (λE=>[(N,.cells Z8.toArray 79 (0,0)),(bK J [(.slice b1 (d.l.map nT).length b6),(I6 (nT k)),(I6 j.s),(St j.l),(N6 j.n),(N6 j.v),(.slice E.a E.l.length E.c),S0] 79),(bK e4 [(I6 j.s),(St j.l),(N6 j.n),(N6 j.v)] 24)]) (λE=>View.le q2 E.V/\(fJ PaR 6 E.V E.a E.l/\E.l=if x.i=6 then eB b5 else[])) ?_ ?_
    ·refine zQ 2 (zn (fC (x.i:Int) 6 (λh7 B0=>?_) (λh7 B0=>?_)))
     ·refine zr (zq 1 (cB (Pt C (D+4*5)) (rIx 136 rfl C D x.i a6 4 5) ?_));refine zU C (D+4*5) (tC b5 q4 q7) (View.range_le K (View.range_le F r9)) 136 (.tmp 98) _ Tryz.underlying136 rfl ?_;refine oI 73 #[(tV b5 q4 q7)] (qK (eB b5)) (λW L=>sS b5 _ _ W L.view C9 (by have:=c4.1;omega)) (λK7 y1 u0 r2=>?_);obtain⟨y9,z1,rfl,u6⟩:=r2;refine zq 1 (aX 1 J (zn ?_));refine jn ⟨y9,z1,(eB b5),y1⟩ ?_;exact⟨u0,u6,by rw[N1 oW]⟩
     ·refine zk ?_;refine jn ⟨none,0,[],q2⟩ ?_;exact⟨View.le_refl _,fJ.nil,by rw[M5 oW]⟩
    intro E C4;obtain⟨b8,C5,w6⟩:=C4;have r6:asT l9=WW d k b4 E.l A:=by rw[w6,<-k6];exact(Ln oW c9 e0 e1 e2 (by rw[k6];exact e3))
    refine zs (zQ 1 (zn (aB (eF (α:=Gp (List Pa)) (λI=>[0,2,3,4,9,10,14].zip [(St s),(Pt N 0),qF,(Sl C D x.i a6),(L6 x.i),(Pt J 0),(L6 I.i)]) (λI=>I.V) (λI=>([(N,.cells Z8.toArray 79 (0,0)),(bK J [(.slice b1 (d.l.map nT).length b6),(I6 (nT k)),(I6 j.s),(St j.l),(N6 j.n),(N6 j.v),(.slice E.a E.l.length E.c),(I.r.V I.i)] 79),(bK e4 [(I6 j.s),(St j.l),(N6 j.n),(N6 j.v)] 24)]++I.r.B 76 I.xs)) (λI=>I.i<=A.l.length/\View.le E.V I.V/\RwR RlR 1 I.V I.r I.xs I.i I.L/\I.L.map Prod.fst=(A.l.take I.i).map eB) (λI=>A.l.length-I.i) ⟨0,Rw.nil,[],[],E.V⟩ ?_ ?_ (hm:=λ_ h=>h.eqv (U3 kR (M1 ([(N,.cells Z8.toArray 79 (0,0)),(bK J [(.slice b1 (d.l.map nT).length b6),(I6 (nT k)),(I6 j.s),(St j.l),(N6 j.n),(N6 j.v),(.slice E.a E.l.length E.c),S0] 79),(bK e4 [(I6 j.s),(St j.l),(N6 j.n),(N6 j.v)] 24)]:aH)).symm))))))
    ·exact⟨M8 _,View.le_refl _,RwR.nil,rfl⟩
    intro I C2;obtain⟨H2,M,c8,m8⟩:=C2;refine zs (zQ 4 (dZ 105 (I6 (IntKind.i64.wrap ((x.i:Int)-1))) (L6 (x.i-1)) (M0 (Value.int .i64) (by rw[IntWalk.i64_in _ oW];omega)) ?_));refine cB (.pointer (some ⟨C,D+(x.i-1)*5,none⟩)) (rIx 136 rfl C D x.i a6 (x.i-1) 5) ?_;refine zq 1 (zV C (D+(x.i-1)*5+3) (.slice y8 A.l.length n8) ((View.range_le M (View.range_le b8 (View.range_le K (View.range_le F m0)))) 3 _ rfl) 132 (.tmp 107) _ Tryz.underlying132 rfl ?_);refine zq 2 (zn (aZ ((I.i:Int)<(A.l.length:Int)) (λh8 B1=>?_) (λh8 B1=>?_)))
    ·refine zk (zs (aB ?_));obtain⟨X,j2⟩:∃y,(A.l)[I.i]? =some y:=⟨(A.l)[I.i]'oW,K8 _⟩;obtain⟨j6,k3,E2,rfl,s4,w4⟩:=((D0.le b8).le M).at_ I.i X j2;obtain⟨n2,n9,rfl,p1,G0,G8,F2⟩:=w4.form;refine jX 7 [0,4,0,0,1,1,0,1,0,1,1,1,1] [(J,1)] [.val (L6 (x.i-1)),.val (.pointer (some ⟨C,D+(x.i-1)*5,none⟩)),.val (Sl j6 k3 A.l.length n8),.val (Pt j6 (k3+I.i*5)),.val (tV X n2 n9),.mem (qK (eB X)),.mem (λv V=>∃g,v=(Sl g 0 1 1)/\fJ RlR 1 V (some ⟨g,0,none⟩) [(eB X)])] (by simp only[O4];refine⟨?_,?_,?_,?_,?_,?_,?_,λ_ h=>by cases h⟩<;>first|trivial|(intro v V V2 b2 hP;(first|trivial|exact pO.mono b2 hP|exact qK.mono b2 hP|exact PhiMono.go hP b2|(obtain⟨g,e,hP⟩:=hP;exact⟨g,e,hP.le b2⟩)))) ⟨?_,?_,?_,?_,?_,?_,?_,trivial⟩ ?_
     ·exact wE (I6 (IntKind.i64.wrap ((x.i:Int)-1))) (M0 (Value.int .i64) (by rw[IntWalk.i64_in _ oW];omega))
     ·exact wR (λu=>jP _ 136 _ _ rfl C D x.i a6 (x.i-1) 5 .i64 kR kR (by first|assumption|omega) kR kR)
     ·exact wU1 C (D+(x.i-1)*5+3) ((View.range_le M (View.range_le b8 (View.range_le K (View.range_le F m0)))) 3 _ rfl) 132 _ _ Tryz.underlying132 rfl
     ·exact wR (λu=>jP _ 136 _ _ rfl j6 k3 A.l.length n8 I.i 5 .i64 kR kR (by first|assumption|omega) kR kR)
     ·exact wU j6 (k3+I.i*5) (tC X n2 n9) s4 136 _ _ Tryz.underlying136 rfl
     ·refine wM 73 (λu=>#[(tV X n2 n9)]) λu V hV o4 W hW=>?_
      exact sS X _ _ W hW (p1.le hV) (by have:=c6.2 X (K9 j2);omega)
     ·refine wN [124] (λu=>[u 11]) λu V hV o4=>?_
      have z6:=o4 11 kR rfl;obtain⟨q3,q6,D2,u4⟩:=z6;refine⟨[(.slice q3 (eB X).length q6)],76,λr=>(Sl r 0 1 1),?_,λg V' s6 hR=>?_⟩
      ·rw[D2];kernel_rfl
      exact⟨g,rfl,fJ.lit [((eB X),[(.slice q3 (eB X).length q6)])] hR ⟨⟨_,_,rfl,u4.le s6⟩,trivial⟩ (show 1<=R47 by decide)⟩
     intro K5 y2 m2 j1;have D1:=c8.le m2;have j7:=j1 11 rfl;obtain⟨x3,x4,l2,u5⟩:=j7;refine qS 124 l2 ?_;have j9:=j1 12 rfl;obtain⟨x6,l4,l6⟩:=j9;refine qS 125 l4 ?_;obtain⟨I4,J7,e7,A4,s5,j0⟩:=l6.at_ 0 _ rfl;cases A4;refine iW 3 76 77 24 1 1 c8.ok (λW L=>View.range_of s5 L.view) (RecOk.len j0) (RecOk.one j0) (by decide) (λw9 m5=>?_);refine zq 1 ?_;refine Aa 1 J 7 (I.i+1) 1 w9 (I.xs++e7) m5 [(.slice b1 (d.l.map nT).length b6),(I6 (nT k)),(I6 j.s),(St j.l),(N6 j.n),(N6 j.v),(.slice E.a E.l.length E.c),(I.r.V I.i)] 79 77 _ _ rfl kR kR kR (λa c=>by kernel_rfl) kR rfl kR ?_;refine zn (zr (zq 2 (dH 112 ((I.i:Int)+1) (zq 1 (zn ?_)))));refine nx ⟨I.i+1,w9,(I.xs++e7),I.L++[((eB X),e7)],y2⟩ ?_ ?_
     ·exact⟨by show I.i+1<=_;omega,(View.le_trans M m2),RwR.snoc D1 j0 m5,by rw[P6,m8,dL eB j2];rfl⟩
     ·show A.l.length-(I.i+1)<A.l.length-I.i;omega
    ·refine aI (zs (zs (zr ?_)));refine jN I.r I.xs 1 I.i [(N,.cells Z8.toArray 79 (0,0)),(bK J [(.slice b1 (d.l.map nT).length b6),(I6 (nT k)),(I6 j.s),(St j.l),(N6 j.n),(N6 j.v),(.slice E.a E.l.length E.c),(I.r.V I.i)] 79),(bK e4 [(I6 j.s),(St j.l),(N6 j.n),(N6 j.v)] 24)] 76 kR c8.ok (λj4 o0 y5 Z r5 q9=>?_);rw[q9];have p9:=((l7.le b8).le M).le Z;have q0:=(C5.le M).le Z;have j3:=((p8.le b8).le M).le Z;have w7:=c8.le Z;have c2:=w7.done (by decide) r5 (View.le_refl _) (by unfold R47;omega);rw[m8,O2 oW]at c2;have u3:I.i=(A.l.map eB).length:=by rw[O1];omega
     rw[u3];refine cF [2] [(J,8)] (cY 74 #[(.agg #[(.slice b1 (d.l.map nT).length b6),(I6 (nT k)),(I6 j.s),(St j.l),(N6 j.n),(N6 j.v),(.slice E.a E.l.length E.c),(.slice j4 (A.l.map eB).length o0)])] (.bool ((As.mk (d.l.map nT) (nT k) j E.l (A.l.map eB)).right)) (λW L=>OP (As.mk (d.l.map nT) (nT k) j E.l (A.l.map eB)) _ _ _ _ _ _ W L.view ⟨p9,q0,c2,PI b3 L.view j3⟩ ⟨(show(d.l.map nT).length<=1000000 from by rw[O1];have:=l1.1;omega),(show E.l.length<=1000000 from by rw[w6];split<;>first|exact M8 _|(have:=JN b5;have:=c4.1;omega)),λl hl=>by obtain⟨z,hz,rfl⟩:=S1.1 hl;have:=JN z;have:=c6.2 z hz;omega⟩) ?_);refine zq 2 (cN 131 (!((As.mk (d.l.map nT) (nT k) j E.l (A.l.map eB)).right)) (λh9=>?_) (λh9=>?_))
     ·refine zq 5 (zn (dM (zQ 1 (aX 0 N (zq 1 (zn (aA (dW [1,0] [(N,8)] [(.agg Z8.toArray),qF] (λW' L=>?_)))))))));rw[show dI s=none from JJ c0 (r6.trans (QL b3)) (.inl (by simpa using h9))];exact aJ L (View.le_trans (View.le_trans (View.le_trans (View.le_trans (View.le_trans (View.le_trans a7 b7) F) K) b8) M) Z) rfl
     ·refine cF [2] [(J,8)] (cY 32 #[(.agg #[(.slice b1 (d.l.map nT).length b6),(I6 (nT k)),(I6 j.s),(St j.l),(N6 j.n),(N6 j.v),(.slice E.a E.l.length E.c),(.slice j4 (A.l.map eB).length o0)])] (St ((As.mk (d.l.map nT) (nT k) j E.l (A.l.map eB)).bytes)) (λW L=>DC (As.mk (d.l.map nT) (nT k) j E.l (A.l.map eB)) _ _ _ _ _ _ W L.view ⟨p9,q0,c2,PI b3 L.view j3⟩ (As.shaped (by simpa using h9))) ?_);refine zq 1 (cB (.bool (!(((As.mk (d.l.map nT) (nT k) j E.l (A.l.map eB)).bytes)==s))) (mI _ _ _ _ rfl ((As.mk (d.l.map nT) (nT k) j E.l (A.l.map eB)).bytes) s kR kR) ?_);refine zq 1 (zn (gK (!(((As.mk (d.l.map nT) (nT k) j E.l (A.l.map eB)).bytes)==s)) (λo1=>?_) (λo1=>?_)))
      ·refine zQ 1 (aX 0 N (zq 1 (zn (aA (dW [1,0] [(N,8)] [(.agg Z8.toArray),qF] (λW' L=>?_))))));rw[show dI s=none from JJ c0 (r6.trans (QL b3)) (.inr (by simpa using o1))];exact aJ L (View.le_trans (View.le_trans (View.le_trans (View.le_trans (View.le_trans (View.le_trans a7 b7) F) K) b8) M) Z) rfl
      ·refine zk (zB [2] [(J,8)] (aX 0 N (zq 1 (zn (aA (dW [1,0] [(N,8)] [(.agg #[(.slice b1 (d.l.map nT).length b6),(I6 (nT k)),(I6 j.s),(St j.l),(N6 j.n),(N6 j.v),(.slice E.a E.l.length E.c),(.slice j4 (A.l.map eB).length o0)]),qT] (λW' L=>?_)))))));have e5:DR y5 b1 E.a j4 (As.mk (d.l.map nT) (nT k) j E.l (A.l.map eB)):=⟨p9,q0,c2,PI b3 L.view j3⟩;have k9:=tF e5.ok (by simpa using h9);rw[show(As.mk (d.l.map nT) (nT k) j E.l (A.l.map eB)).bytes=s from by simpa using o1]at k9;rw[k9];exact aJ L (View.le_trans (View.le_trans (View.le_trans (View.le_trans (View.le_trans (View.le_trans a7 b7) F) K) b8) M) Z) ⟨_,_,_,_,_,_,rfl,e5⟩
   ·have b3:ofE b4=none:=by cases o6:ofE b4 with|none=>rfl|some q=>(have h9:=h6;rw[o6]at h9;cases h9)
    refine cY 72 #[(tV b4 n1 n7)] (.tuple #[(.agg #[(I6 0),(St []),(U6 0),(U6 0)]),(I6 2)]) (λW L=>Qe b3 _ W L.view p8 (by have:=c1.2;omega)) ?_;refine zq 3 (aW (λq5=>(aX 2 q5 (zq 1 (zn (zs (zQ 2 (zn (dM (zQ 1 (aX 0 N (zq 1 (zn (aA (dW [1,0] [(N,8)] [(.agg Z8.toArray),qF] (λW' L=>?_))))))))))))))));rw[show dI s=none from JK c0 ((Ln oW c9 e0 e1 e2 (by rw[k6];exact e3)).trans (Th b3))];exact aJ L (View.le_trans (View.le_trans (View.le_trans a7 b7) F) K) rfl
def As.del(a:As)(k:Nat):As:=⟨a.t.eraseIdx k,a.c,a.s,a.p,a.r.eraseIdx k⟩
theorem TL{α:Type}(l:List α)(k:Nat):(l.take (k+1)).eraseIdx k=(l.take k).eraseIdx k:=by
 rw[Q9,List.eraseIdx_of_length_le (l:=l.take k) (by rw[O3];omega)];by_cases h:k<l.length
 ·rw[List.eraseIdx_append_of_length_le (by rw[O3];omega),O3,X9 oW,U9,K8 h];simp
 ·rw[Z9 oW];simp only[Option.toList_none,M1];exact List.eraseIdx_of_length_le (by rw[O3];omega)
theorem Ul{α:Type}{l:List α}{i k:Nat}{y:α}(a:l[i]? =some y)(h:i≠k):(l.take (i+1)).eraseIdx k=(l.take i).eraseIdx k++[y]:=by
 have d:=(L8.1 a).1;rw[Q9,a,Option.toList_some];by_cases f:k<i
 ·rw[List.eraseIdx_append_of_lt_length (by rw[O3];omega)]
 ·rw[List.eraseIdx_append_of_length_le (by rw[O3];omega),List.eraseIdx_of_length_le (l:=l.take i) (by rw[O3];omega)];rw[O3,X9 oW];congr 1;cases g:k-i with
  |zero=>omega
  |succ n=>rfl
structure Wp (α : Type) where
 i:Nat
 m:Nat
 r:Rw
 xs:List Value
 L:List (α×List Value)
 V:View
theorem IB(a:As)(aT C aR:Option Addr)(cT D cR:Nat)(j:Int)(k:Nat)(w:World){U:View}(hU:See U w)(hA:DR U aT C aR a)(hk:lX j 0 a.t=(k:Int))(l1:a.t.length<=1000000/\a.r.length<=1000000):CP 33 #[asV a aT C aR cT D cR,.int .i64 j] w (fV w U (Bh (a.del k))):=by
 have e0:=hA.t;have e1:=hA.p;have e2:=hA.r;have j3:=hA.s;obtain⟨m4,m5⟩:=l1;refine dC 60 Tryz.func33 hU ?_;refine zs (zr (aW (λK=>(aW (λb1=>(zn (zB [1,0] [(K,8)] (cY 31 #[(asV a aT C aR cT D cR),(I6 j)] (I6 (k:Int)) (λW hM=>hk▸FE a _ _ _ _ _ _ j W hM.view ⟨e0,e1,e2,j3⟩) ?_))))))));refine zq 1 (zn (zB [0,1,0,1,0,1,0] [(K,1),(K,4),(K,1)] (aW (λM=>(aX 2 M (zn (zs (zQ 1 (zn (aB (eF (α:=Wp Int) (λf=>[2,4,5,6,7].zip [(Pt K 0),(Pt b1 0),(L6 k),(Pt M 0),(L6 f.i)]) (λf=>f.V) (λf=>([(bK K (mD a aT C aR cT D cR) 79),(b1,.cells Z8.toArray 79 (0,0)),(bK M [(f.r.V f.m),(I6 a.c),(I6 a.s.s),(St a.s.l),(N6 a.s.n),(N6 a.s.v),(.slice C a.p.length D),S0] 79)]++f.r.B 3 f.xs)) (λf=>f.i<=a.t.length/\f.m<=f.i/\View.le U f.V/\RwR InR 1 f.V f.r f.xs f.m f.L/\f.L.map Prod.fst=(a.t.take f.i).eraseIdx k) (λf=>a.t.length-f.i) ⟨0,0,Rw.nil,[],[],U⟩ ?_ ?_ (hm:=λ_ h=>h.eqv (U3 kR (M1 ([(bK K (mD a aT C aR cT D cR) 79),(b1,.cells Z8.toArray 79 (0,0)),(bK M [S0,(I6 a.c),(I6 a.s.s),(St a.s.l),(N6 a.s.n),(N6 a.s.v),(.slice C a.p.length D),S0] 79)]:aH)).symm)))))))))))))
 ·exact⟨M8 _,O9 _,View.le_refl _,RwR.nil,rfl⟩
 intro f l5;obtain⟨m6,m7,A,F,E⟩:=l5;refine zs (zB [0,0,1,0,0] [(K,1)] (zn (aZ ((f.i:Int)<(a.t.length:Int)) (λh0 k6=>?_) (λh0 k6=>?_))))
 ·refine zk (zs (aB (zQ 3 (zn (iE (f.i:Int) (k:Int) (λh1 k7=>?_) (λh1 k7=>?_))))))
  ·obtain⟨y3,j4⟩:∃y,(a.t)[f.i]? =some y:=⟨(a.t)[f.i]'oW,K8 _⟩;obtain⟨b3,f3,rfl,l2⟩:=(e0.le A).one j4;refine jX 4 [0,5,0,3,0,1,1,1] [(M,1),(K,1)] [.val (Pt b3 (f3+f.i)),.val (I6 y3),.mem (λv V=>∃g,v=(Sl g 0 1 1)/\gV V (some ⟨g,0,none⟩) [y3])] (by simp only[O4];exact⟨trivial,trivial,by intro v V V2 L hP;(first|trivial|exact qK.mono L hP|exact PhiMono.go hP L|(obtain⟨g,e,hP⟩:=hP;exact⟨g,e,hP.le L⟩)),λ_ h=>by cases h⟩) ⟨?_,?_,?_,trivial⟩ ?_
   ·exact wR (λu=>eJ _ 3 _ _ rfl b3 f3 a.t.length cT f.i .i64 kR kR (by first|assumption|omega) kR kR)
   ·exact wU1 b3 (f3+f.i) l2 3 _ _ Tryz.underlying3 rfl
   ·refine wN [35] (λu=>[(I6 y3)]) λu V hV l4=>?_
    refine⟨[(I6 y3)],3,λr=>(Sl r 0 1 1),?_,λg V' h5 hR=>?_⟩
    ·kernel_rfl
    exact⟨g,rfl,MN hR (show 1<=R47 by decide)⟩
   intro u4 V4 h6 h8;have k8:=F.le h6;have c9:=h8 7 rfl;obtain⟨m3,j7,k0⟩:=c9;refine qS 36 j7 ?_;obtain⟨b9,f9,e9,l3⟩:=k0.at_ (by simp);cases e9;refine iW 3 3 75 8 1 1 F.ok (λW hM=>View.range_of l3 hM.view) rfl (M7.1 kR) (by decide) (λj8 b6=>?_);refine zq 1 ?_;refine Aa 2 M 0 (f.m+1) 1 j8 (f.xs++[.int .i64 y3]) b6 [(f.r.V f.m),(I6 a.c),(I6 a.s.s),(St a.s.l),(N6 a.s.n),(N6 a.s.v),(.slice C a.p.length D),S0] 79 75 _ _ rfl kR kR kR (λa c=>by kernel_rfl) kR rfl kR ?_;refine zn (zr (zq 2 (dH 25 ((f.i:Int)+1) (zq 1 (zn ?_)))));refine nx ⟨f.i+1,f.m+1,j8,(f.xs++[.int .i64 y3]),f.L++[(y3,[.int .i64 y3])],V4⟩ ?_ ?_
   ·exact⟨by show f.i+1<=_;omega,by show f.m+1<=f.i+1;omega,(View.le_trans A h6),RwR.snoc k8 rfl b6,by rw[P6,E,Ul j4 (by have:=Q0.1 h1;omega)];rfl⟩
   ·show a.t.length-(f.i+1)<a.t.length-f.i;omega
  ·refine zk (zr (zq 2 (dH 25 ((f.i:Int)+1) (zq 1 (zn ?_)))));refine nx ⟨f.i+1,f.m,f.r,f.xs,f.L,f.V⟩ ?_ ?_
   ·exact⟨by show f.i+1<=_;omega,by show f.m<=f.i+1;omega,A,F,by have h9:=Q5.1 h1;rw[E,show f.i=k by omega,TL]⟩
   ·show a.t.length-(f.i+1)<a.t.length-f.i;omega
 ·refine aI (zs (zs (zr ?_)));refine jN f.r f.xs 1 f.m [(bK K (mD a aT C aR cT D cR) 79),(b1,.cells Z8.toArray 79 (0,0)),(bK M [(f.r.V f.m),(I6 a.c),(I6 a.s.s),(St a.s.l),(N6 a.s.n),(N6 a.s.v),(.slice C a.p.length D),S0] 79)] 3 kR F.ok (λX Y c8 N e5 e3=>?_);rw[e3];have l7:=(e1.le A).le N;have l8:=(e2.le A).le N;have j5:=F.le N;have a8:=(j5.done (by decide) e5 (View.le_refl _) (by unfold R47;omega)).ins;rw[O2 oW]at E;rw[E]at a8;have j0:f.m=(a.t.eraseIdx k).length:=by rw[<-E,O1];exact j5.m
  rw[j0];refine zq 1 (zn (aB (eF (α:=Wp (List Pa)) (λd=>[2,4,5,6,8].zip [(Pt K 0),(Pt b1 0),(L6 k),(Pt M 0),(L6 d.i)]) (λd=>d.V) (λd=>([(bK K (mD a aT C aR cT D cR) 79),(b1,.cells Z8.toArray 79 (0,0)),(bK M [(.slice X (a.t.eraseIdx k).length Y),(I6 a.c),(I6 a.s.s),(St a.s.l),(N6 a.s.n),(N6 a.s.v),(.slice C a.p.length D),(d.r.V d.m)] 79)]++d.r.B 76 d.xs)) (λd=>d.i<=a.r.length/\d.m<=d.i/\View.le c8 d.V/\RwR RlR 1 d.V d.r d.xs d.m d.L/\d.L.map Prod.fst=(a.r.take d.i).eraseIdx k) (λd=>a.r.length-d.i) ⟨0,0,Rw.nil,[],[],c8⟩ ?_ ?_ (hm:=λ_ h=>h.eqv (U3 kR (M1 ([(bK K (mD a aT C aR cT D cR) 79),(b1,.cells Z8.toArray 79 (0,0)),(bK M [(.slice X (a.t.eraseIdx k).length Y),(I6 a.c),(I6 a.s.s),(St a.s.l),(N6 a.s.n),(N6 a.s.v),(.slice C a.p.length D),S0] 79)]:aH)).symm)))))
  ·exact⟨M8 _,O9 _,View.le_refl _,RwR.nil,rfl⟩
  intro d l6;obtain⟨m8,m9,B,I,G⟩:=l6;refine zs (zB [0,0,1,0,0] [(K,1)] (zn (aZ ((d.i:Int)<(a.r.length:Int)) (λh2 k9=>?_) (λh2 k9=>?_))))
  ·refine zk (zs (aB (zQ 3 (zn (iE (d.i:Int) (k:Int) (λh3 l0=>?_) (λh3 l0=>?_))))))
   ·obtain⟨J,b8⟩:∃y,(a.r)[d.i]? =some y:=⟨(a.r)[d.i]'oW,K8 _⟩;obtain⟨c0,c2,m2,rfl,e8,e6⟩:=(l8.le B).at_ d.i J b8;obtain⟨a6,a7,rfl,j2⟩:=e6;have h7:=View.range1 e8;refine jX 4 [0,5,0,3,0,1,1,1] [(M,1),(K,1)] [.val (Pt c0 (c2+d.i)),.val (.slice a6 J.length a7),.mem (λv V=>∃g,v=(Sl g 0 1 1)/\fJ RlR 1 V (some ⟨g,0,none⟩) [J])] (by simp only[O4];exact⟨trivial,trivial,by intro v V V2 L hP;(first|trivial|exact qK.mono L hP|exact PhiMono.go hP L|(obtain⟨g,e,hP⟩:=hP;exact⟨g,e,hP.le L⟩)),λ_ h=>by cases h⟩) ⟨?_,?_,?_,trivial⟩ ?_
    ·exact wR (λu=>eJ _ 76 _ _ rfl c0 c2 a.r.length cR d.i .i64 kR kR (by first|assumption|omega) kR kR)
    ·exact wU1 c0 (c2+d.i) h7 76 _ _ Tryz.underlying76 rfl
    ·refine wN [55] (λu=>[(.slice a6 J.length a7)]) λu V hV l4=>?_
     refine⟨[(.slice a6 J.length a7)],76,λr=>(Sl r 0 1 1),?_,λg V' h5 hR=>?_⟩
     ·kernel_rfl
     exact⟨g,rfl,fJ.lit [(J,[(.slice a6 J.length a7)])] hR ⟨⟨_,_,rfl,(j2.le hV).le h5⟩,trivial⟩ (show 1<=R47 by decide)⟩
    intro n5 k1 b5 c4;have l9:=I.le b5;have c1:=c4 7 rfl;obtain⟨k5,c6,c7⟩:=c1;refine qS 56 c6 ?_;obtain⟨n1,n2,Z,k4,h4,a1⟩:=c7.at_ 0 _ rfl;cases k4;refine iW 3 76 77 24 1 1 I.ok (λW hM=>View.range_of h4 hM.view) (RecOk.len a1) (RecOk.one a1) (by decide) (λj9 b7=>?_);refine zq 1 ?_;refine Aa 2 M 7 (d.m+1) 1 j9 (d.xs++Z) b7 [(.slice X (a.t.eraseIdx k).length Y),(I6 a.c),(I6 a.s.s),(St a.s.l),(N6 a.s.n),(N6 a.s.v),(.slice C a.p.length D),(d.r.V d.m)] 79 77 _ _ rfl kR kR kR (λa c=>by kernel_rfl) kR rfl kR ?_;refine zn (zr (zq 2 (dH 45 ((d.i:Int)+1) (zq 1 (zn ?_)))));refine nx ⟨d.i+1,d.m+1,j9,(d.xs++Z),d.L++[(J,Z)],k1⟩ ?_ ?_
    ·exact⟨by show d.i+1<=_;omega,by show d.m+1<=d.i+1;omega,(View.le_trans B b5),RwR.snoc l9 a1 b7,by rw[P6,G,Ul b8 (by have:=Q0.1 h3;omega)];rfl⟩
    ·show a.r.length-(d.i+1)<a.r.length-d.i;omega
   ·refine zk (zr (zq 2 (dH 45 ((d.i:Int)+1) (zq 1 (zn ?_)))));refine nx ⟨d.i+1,d.m,d.r,d.xs,d.L,d.V⟩ ?_ ?_
    ·exact⟨by show d.i+1<=_;omega,by show d.m<=d.i+1;omega,B,I,by have h9:=Q5.1 h3;rw[G,show d.i=k by omega,TL]⟩
    ·show a.r.length-(d.i+1)<a.r.length-d.i;omega
  ·refine aI (zs (zr ?_));refine jN d.r d.xs 1 d.m [(bK K (mD a aT C aR cT D cR) 79),(b1,.cells Z8.toArray 79 (0,0)),(bK M [(.slice X (a.t.eraseIdx k).length Y),(I6 a.c),(I6 a.s.s),(St a.s.l),(N6 a.s.n),(N6 a.s.v),(.slice C a.p.length D),(d.r.V d.m)] 79)] 76 kR I.ok (λk2 k3 n0 O e7 e4=>?_);rw[e4];have m0:=(l7.le B).le O;have m1:=(a8.le B).le O;have j6:=I.le O;have b4:=(j6.done (by decide) e7 (View.le_refl _) (by unfold R47;omega));rw[O2 oW]at G;rw[G]at b4;have j1:d.m=(a.r.eraseIdx k).length:=by rw[<-G,O1];exact j6.m
   rw[j1];refine cF [3] [(M,8)] (aX 1 b1 (zn (aA (dW [2] [(b1,8)] [(.agg #[(.slice X (a.t.eraseIdx k).length Y),(I6 a.c),(I6 a.s.s),(St a.s.l),(N6 a.s.n),(N6 a.s.v),(.slice C a.p.length D),(.slice k2 (a.r.eraseIdx k).length k3)])] (λW' hM=>?_)))));exact aJ hM (View.le_trans (View.le_trans (View.le_trans A N) B) O) ⟨_,_,_,_,_,_,rfl,m1,m0,b4,j3⟩
structure Ah (W0 : Cx) (U : View) (σ : aH) (vs : List Sq) (m : Nat) (t : DN) (k : Nat) (vf : Nat -> Value) (x : Obj) (L : Nat -> Bool) (u : Nat -> Value) (w : World) (V : View) (σ' σ2 : aH) : Prop where
 le:View.le U V
 mem:Mem W0 V ((σ++σ2)++σ') w
 at_:∀j,j<m->L j=true->j≠t.j->pQ vs j (u j) V
 own:L t.j=true->L t.i=false->t.Ω (u t.j) σ'
 non:L t.j=false\/L t.i=true->σ'=[]
 new:L k=true->∃b,u k=vf b/\σ2=[(b,x)]
 yet:L k=false->σ2=[]
section
variable {P:Program} {n:Nat} {W0:Cx} {s:cA} {U:View} {σ:aH} {ops:Array Oper} {ds:List Nat} {vs:List Sq}
def Lg(P:Program)(ops:Array Oper)(ds:List Nat)(vs:List Sq)(s:cA)(k:Nat)(vf:Nat->Value)(x:Obj):Prop:=∃o:Oper,ops[k]? =some o/\o.guard=none/\∀u,makes P (iK ops ds vs u k++aV s ds) o=some (x,λr=>some (vf r))
def ObA(P:Program)(n:Nat)(W0:Cx)(U:View)(σ:aH)(ops:Array Oper)(ds:List Nat)(vs:List Sq)(s:cA)(t:DN)(k:Nat)(vf:Nat->Value)(x:Obj)(i:Nat):Prop:=
 if i=k then Lg P ops ds vs s k vf x else∀σ2,ObC P n W0 U (σ++σ2) ops ds vs s t i
theorem ObA.o{t:DN}{k:Nat}{f:Nat->Value}{x:Obj}{i:Nat}(d:i≠k)(h:∀a,ObC P n W0 U (σ++a) ops ds vs s t i):ObA P n W0 U σ ops ds vs s t k f x i:=by
 unfold ObA;rw[M5 d];exact h
theorem ObA.al{t:DN}{k:Nat}{a:Nat->Value}{x:Obj}(h:Lg P ops ds vs s k a x):ObA P n W0 U σ ops ds vs s t k a x k:=by
 unfold ObA;rw[N1 rfl];exact h
end
section
variable {P:Program} {n:Nat} {W0:Cx} {s:cA} {U:View} {σ:aH}
theorem Yc{id : Nat}{l : List Oper}{Q : XQ}(m f r : Nat)(ds : List Nat)(vs : List Sq)(t : DN)(k : Nat)(vf : Nat -> Value)(x : Obj)(hm : P.follows .mixedOrders = true)(c7 : l.length = m + f)(c2 : ds.length = m)
  (e6:pI l.toArray ds=true) (c6:nodupB ds=true) (e8:(ds.all λd=>Nat.blt d n)=true) (b4:fQ .any l.toArray m=true) (b7:lP .any l.toArray m r=true) (a6:jV l.toArray m f=true) (b0:∀q∈vs,mY q)
  (c8:LB l.toArray m t=true) (b6:t.j<m/\t.i<m/\t.j≠t.i) (b3:vs[t.j]? =some (.mem λ_ _=>True)) (hk:k<m/\k≠t.j/\k≠t.i) (h7:vs[k]? =some (.mem λ_ _=>True))
  (c9:Go.Proofs.YtkoamlfiijcecaaGreatDoor.Steps (ObA P n W0 U σ l.toArray ds vs s t k vf x) 0 m)
  (ts:List Nat) (J:(Nat->Value)->List Value) (Z:∀u,(ts.map λt=>look (IF u 0 ds vs++aV s ds) t)=(J u).map some)
  (h:∀(u:Nat->Value) (V:View) (b:Nat),View.le U V->(∀j,j<m->gE vs j (u j) V)->u k=vf b->SXL P n W0 Q l.toArray (l.drop m) (ts.zip (J u)) V (σ++[(b,x)])):SXC P n W0 Q (.region id l.toArray true) s U σ:=by
 refine⟨λa W ha hM=>?_⟩;have hn:=jW c6;have hd:∀d∈ds,d<n:=λd hd=>by have:=M7.1 e8 d hd;simpa[Z5]using this
 refine lS m f r ds (λL u w=>∃V D F,Ah W0 U σ vs m t k vf x L u w V D F) hm (by simpa using c7) c2 e6 c6 b4 b7 ?_ ?_ ?_
 ·intro u;exact⟨U,[],[],⟨View.le_refl _,by rw[M1,M1];exact hM.drew,λj _ B=>by simp at B,λB=>by simp at B,λ_=>rfl,λB=>by simp at B,λ_=>rfl⟩⟩
 ·rintro i e7 L u w ⟨V,D,F,I⟩ O C e5 K hK;have b2:=c9.get i (M8 _) oW;unfold ObA at b2;split at b2
  ·next a8=>
   subst a8;have a1:F=[]:=I.yet O;subst a1;obtain⟨o,ho,X,e9⟩:=b2;have hr:=iM (a0:=a) (u:=u) (V:=V) (vs:=vs) (ops:=l.toArray) i ha hn hd λj B=>by
    by_cases e:j=t.j
    ·subst e;exact .inr ⟨_,b3⟩
    ·exact .inl (I.at_ j (C j B).2 (C j B).1 e)
   unfold wpOp;simp only[ho,Region.wanted,X,if_true];left;unfold Oper.wp;rw[mN hr (e9 u)];have e3:Mem W0 V (((σ++[])++D)++[(w.heap.size,x)]) (w.alloc x):=I.mem.alloc x;have e4:Mem W0 V ((σ++[(w.heap.size,x)])++D) (w.alloc x):=by
    refine e3.perm ?_;rw[M1,M6,M6];exact X6 σ Q2
   have:=hK (vf w.heap.size) (w.alloc x) ⟨V,D,[(w.heap.size,x)],⟨I.le,e4,λj B G E=>?_,λA hy=>?_,λA=>?_,λ_=>?_,λA=>?_⟩⟩
   ·rw[ho]at this;exact this
   ·by_cases e:j=i
    ·subst e;unfold pQ;rw[h7];trivial
    ·rw[M5 e]at G ⊢;exact I.at_ j B G E
   ·rw[M5 (λe=>hk.2.1 e.symm)]at A ⊢;rw[M5 (λe=>hk.2.2 e.symm)]at hy;exact I.own A hy
   ·rw[M5 (λe=>hk.2.1 e.symm),M5 (λe=>hk.2.2 e.symm)]at A;exact I.non A
   ·rw[N1 rfl];exact⟨_,rfl,rfl⟩
   ·rw[N1 rfl]at A;cases A
  next a8=>
  have N:=b2 F;unfold ObC at N;split at N
  ·next a7=>
   subst a7;have c0:D=[]:=I.non (.inl O);subst c0;obtain⟨o,g,ts,J,ho,X,Z,b5⟩:=N.go;have b1:∀j,cH .any l.toArray t.j j=true->j≠t.j:=λj B e=>by have:=(C j B).1;rw[e,O]at this;cases this
   have hr:=iM (a0:=a) (u:=u) (V:=V) (vs:=vs) (ops:=l.toArray) t.j ha hn hd λj B=>.inl (I.at_ j (C j B).2 (C j B).1 (b1 j B))
   obtain⟨c1,he,hc⟩:=b5 u V I.le λj B=>(I.at_ j (C j B).2 (C j B).1 (b1 j B)).phi
   unfold wpOp;simp only[ho,Region.wanted,X,if_true];left;unfold Oper.wp;rw[eU (gJ ts _ hr (Z u)) he];refine(hc w (by have:=I.mem;rwa[M1]at this)).mono ?_;rintro _ w' ⟨v,D,rfl,M,b9⟩;have e1:L t.i=false:=by
    cases A:L t.i with
    |false=>rfl
    |true=>
     obtain⟨o2,g2,j8,j7,j1,j6,j2,j3,h8,_⟩:=(show Nb P n W0 U (σ++F) l.toArray ds vs s t from by
      have:=c9.get t.i (M8 _) oW;unfold ObA at this;rw[M5 (λe=>hk.2.2 e.symm)]at this;have:=this F;unfold ObC at this;rwa[M5 (λe=>b6.2.2 e.symm),N1 rfl]at this).go
     have:=e5 t.i t.j A h8;rw[O]at this;cases this
   have:=hK v w' ⟨V,D,F,⟨I.le,M,λj B G E=>?_,λ_ _=>?_,λA=>?_,λA=>?_,λA=>?_⟩⟩
   ·rw[ho]at this;exact this
   ·rw[M5 E]at G ⊢;exact I.at_ j B G E
   ·rw[N1 rfl];exact b9
   ·rw[N1 rfl,M5 (λe=>b6.2.2 e.symm)]at A;rcases A with A|A
    ·cases A
    ·rw[e1]at A;cases A
   ·rw[M5 hk.2.1]at A ⊢;exact I.new A
   ·rw[M5 hk.2.1]at A;exact I.yet A
  ·next a7=>
   split at N
   ·next Y=>
    subst Y;obtain⟨o,g,Φ,ts,J,ho,X,h6,h9,Z,b5⟩:=N.go;have e0:L t.j=true:=(C t.j h9).1;have b9:=I.own e0 O;have hr:=iM (a0:=a) (u:=u) (V:=V) (vs:=vs) (ops:=l.toArray) t.i ha hn hd λj B=>by
     by_cases e:j=t.j
     ·subst e;exact .inr ⟨_,b3⟩
     ·exact .inl (I.at_ j (C j B).2 (C j B).1 e)
    obtain⟨c1,he,hc⟩:=b5 u V D I.le (λj B e=>(I.at_ j (C j B).2 (C j B).1 e).phi) b9;unfold wpOp;simp only[ho,Region.wanted,X,if_true];left;unfold Oper.wp;rw[eU (gJ ts _ hr (Z u)) he];refine(hc w (I.mem.perm Q2)).mono ?_;rintro _ w' ⟨v,V',j4,rfl,hl,M,rfl,j0⟩;rw[R0]at M;have:=hK v w' ⟨V',[],F,⟨View.le_trans I.le hl,by rw[M1];exact M,λj B G E=>?_,λ_ A=>?_,λ_=>rfl,λA=>?_,λA=>?_⟩⟩
    ·rw[ho]at this;exact this
    ·by_cases e:j=t.i
     ·subst e;rw[N1 rfl];unfold pQ;rw[h6];exact j0
     ·rw[M5 e]at G ⊢;exact(I.at_ j B G E).le b0 hl
    ·rw[N1 rfl]at A;cases A
    ·rw[M5 hk.2.2]at A ⊢;exact I.new A
    ·rw[M5 hk.2.2]at A;exact I.yet A
   ·next Y=>
    have h0:∀j,cH .any l.toArray i j=true->j≠t.j:=λj B e=>by
     unfold LB at c8;have:=M7.1 c8 i (S4.2 e7);rw[<-e,B,P0 Y]at this;cases this
    have e2:Mem W0 U ((σ++F)++D) w:=I.mem.weak I.le;refine((N D).go a (up n W0 Q) ha hn hd b0).step u w e2 (λj B=>(I.at_ j (C j B).2 (C j B).1 (h0 j B)).isQ I.mem I.le) K λv w' M hE hv=>?_
    obtain⟨V',h1,h2,h3⟩:=hv.at M;obtain⟨q1,q2,q3⟩:=Mem.join (I.mem.call hE) h2;refine hK v w' ⟨V.or V',D,F,⟨View.le_trans I.le q2,q1,λj B G E=>?_,λA hy=>?_,λA=>?_,λA=>?_,λA=>?_⟩⟩
    ·by_cases e:j=i
     ·subst e;rw[N1 rfl];exact h3.le b0 q3
     ·rw[M5 e]at G ⊢;exact(I.at_ j B G E).le b0 q2
    ·rw[M5 (λe=>a7 e.symm)]at A ⊢;rw[M5 (λe=>Y e.symm)]at hy;exact I.own A hy
    ·rw[M5 (λe=>a7 e.symm),M5 (λe=>Y e.symm)]at A;exact I.non A
    ·rw[M5 (λe=>a8 e.symm)]at A ⊢;exact I.new A
    ·rw[M5 (λe=>a8 e.symm)]at A;exact I.yet A
 ·rintro L u W' ⟨V,D,F,I⟩ G;have c0:D=[]:=I.non (.inr (G _ b6.2.1));subst c0;obtain⟨b,h5,a1⟩:=I.new (G _ hk.1);subst a1;refine iC f m _ W' (by simpa using c7.symm) a6 ?_;have hg:=λt=>gB ds 0 u a t hn (by rw[ha.size];exact hd)
  have h4:∀j,j<m->gE vs j (u j) V:=λj B=>by
   by_cases e:j=t.j
   ·unfold gE;rw[e,b3];trivial
   ·exact(I.at_ j B (G j B) e).phi
  refine(h u V b I.le h4 h5).go _ W' (gJ ts _ (s':=IF u 0 ds vs++aV s ds) ⟨by rw[(hg 0).2.2.1,ha.size],by rw[(hg 0).2.2.2,ha.defers],λx v hl=>?_⟩ (Z u)) (by have:=I.mem;rwa[M1]at this);rcases eW _ _ _ _ hl with hl|⟨_,hl⟩
  ·have c4:=iT _ _ _ hl;obtain⟨j,q,hd2,b8,hq⟩:=lY u 0 _ _ _ _ c4;have j5:j<ds.length:=(L8.1 hd2).1;rw[(hg x).1 j hd2,O0];cases q with
   |val w=>
    simp only at hq;have b1:j≠t.j:=λe=>by rw[e,b3]at b8;cases b8
    have:=I.at_ j oW (G j oW) b1;unfold pQ at this;rw[b8]at this;simp only at this;rw[this,hq]
   |mem Φ=>simp only[O0]at hq;rw[hq]
  ·obtain⟨h1,h2⟩:=fH _ _ _ _ hl;rw[(hg x).2.1 h1];exact ha.slots x v h2
end
theorem Ti{a:As}(h:a.right=true):a.r.length=a.t.length/\∀l∈a.r,l.length<=1000000/\∀p∈l,p.v.l=[]:=by
 have d:=As.shaped h;unfold cW at d;simp only[L5,N0]at d;refine⟨d.1.2,λl g=>?_⟩;have f:=M7.1 d.2 l g;unfold CW fZ at f;simp only[L5,N0]at f;exact⟨by omega,λp j=>Wo (M7.1 f.2.1 p j)⟩
def Mu(l:List Int)(v:Value)(V:View):Prop:=∃a c,v=.slice a l.length c/\gV V a l/\l.length<=c
theorem Mu.mono{l:List Int}{v:Value}{V V':View}(g:View.le V V')(h:Mu l v V):Mu l v V':=by
 obtain⟨a,c,e,f,d⟩:=h;exact⟨a,c,e,f.le g,d⟩
def QR(a:As)(k:Nat)(v:Value)(V:View):Prop:=∃a1 c1 a2 c2,v=.agg #[.slice a1 (a.t.eraseIdx k).length c1,.int .i64 a.c,.int .i64 a.s.s,.string (B a.s.l),.int .u64 a.s.n,.int .u64 a.s.v,.slice a2 a.p.length c2,.slice none 0 0]/\gV V a1 (a.t.eraseIdx k)/\(a.t.eraseIdx k).length<=c1/\fJ PaR 6 V a2 a.p
theorem QR.mono{a:As}{k:Nat}{v:Value}{V V':View}(d:View.le V V')(h:QR a k v V):QR a k v V':=by
 obtain⟨f,j,g,r,e,A,u,B⟩:=h;exact⟨f,j,g,r,e,A.le d,u,B.le d⟩
def Bo(a:As)(v:Value)(V:View):Prop:=∃a1 a2 a3 c1 c2 c3,v=.tuple #[asV a a1 a2 a3 c1 c2 c3,.bool true]/\DR V a1 a2 a3 a/\a.t.length<=c1
theorem Vg{V:View}{b k n c:Nat}{l:List Int}{v:Value}(h:V.range b 0 ((l.map inV).take (k*1)++(l.map inV).drop ((k+1)*1)))(j:v=.slice (some ⟨b,0,none⟩) n c)(g:n=(l.eraseIdx k).length)(d:n<=c)(a:l.length<=R47):Mu (l.eraseIdx k) v V:=by
 subst g;refine⟨_,c,j,MN (f:=0) ?_ ?_,d⟩
 ·rw[List.eraseIdx_eq_take_drop_succ,P6,List.map_take,List.map_drop];rwa[Nat.mul_one,Nat.mul_one]at h
 ·rw[List.length_eraseIdx];split<;>omega
theorem Eb{a:As}(h:a.right=true):a.p.length<=8/\∀p∈a.p,p.v.l=[]:=by
 have d:=As.shaped h;unfold cW at d;simp only[L5,N0]at d;refine⟨d.1.1.1.2,λp g=>?_⟩;have f:=d.1.1.2;unfold fZ at f;rw[L5]at f;exact Wo (M7.1 f.1 p g)
theorem QO(a:As)(aT Z aR:Option Addr)(X cP cR:Nat)(G:Int)(k:Nat)(w:World){U:View}(hU:See U w)(hA:DR U aT Z aR a)(hk:lX G 0 a.t=(k:Int))(b4:k<a.t.length)(K:a.right=true):CP 60 #[asV a aT Z aR X cP cR,.int .i64 G] w (fV w U (Bo (a.del k))):=by
 have e1:=hA.t;have j8:=hA.p;have j9:=hA.r;have l4:=hA.s;obtain⟨m5,c2⟩:=Ti K;obtain⟨m4,h5⟩:=Eb K;have m6:a.t.length<=16:=by have hs:=As.shaped K;unfold cW at hs;simp only[L5,N0]at hs;exact hs.1.1.1.1.1.1.1.2
 have k9:decide ((k:Int)<0)=false:=P0 oW;obtain⟨bT,fT,rfl,l3⟩:=e1.at_ (by intro h;rw[h]at b4;simp at b4);have m3:(a.t.eraseIdx k).length=a.t.length-1:=List.length_eraseIdx_of_lt b4;refine dC 52 Tryz.func60 hU ?_;refine zs (zr (aW (λI=>(aW (λb1=>(zq 1 (zn (zB [0,1,0] [(I,1)] (cY 103 #[(Sl bT fT a.t.length X),(I6 G)] (I6 (k:Int)) (λW hM=>hk▸PN a.t _ _ G W hM.view e1) ?_)))))))));refine zq 1 (zn (zs (zQ 2 (zn (dY (decide ((k:Int)<0)) k9 ?_)))));refine zk (zs ?_);refine Yc 16 1 0 [17,18,19,20,21,22,23,24,25,26,27,28,29,30,31,7] [.val (Pt I 0),.val (Sl bT fT a.t.length X),.mem (λ_ _=>True),.val (I6 (k:Int)),.val (I6 (k:Int)),.val (I6 ((k+1:Nat):Int)),.mem (Mu (a.t.eraseIdx k)),.val (Pt I 1),.val (I6 a.c),.val (Pt I 2),.val (.agg #[(I6 a.s.s),(St a.s.l),(N6 a.s.n),(N6 a.s.v)]),.val (Pt I 6),.val (.slice Z a.p.length cP),.mem (qK a.p),.mem (QR a k),.mem (λ_ _=>True)] ⟨2,6,λv f=>∃b c j,v=.slice (some ⟨b,0,none⟩) a.t.length c/\f=[(b,.cells ((a.t.map inV)++j).toArray 3 (0,0))]/\(Rw.row b c j).ok 1 a.t.length (a.t.map inV)⟩ 15 (λr=>(Pt r 0)) (.cells Z8.toArray 79 (0,0)) kR rfl rfl kR kR kR kR kR kR (by simp only[O4];refine⟨?_,?_,?_,?_,?_,?_,?_,?_,?_,?_,?_,?_,?_,?_,?_,?_,λ_ h=>by cases h⟩<;>first|trivial|(intro v V V2 F O;(first|trivial|exact QR.mono F O|exact Mu.mono F O|exact qK.mono F O|exact PhiMono.go O F|(obtain⟨g,e,O⟩:=O;exact⟨g,e,O.le F⟩)))) kR ⟨(show(2:Nat)<16 by decide),(show(6:Nat)<16 by decide),(show(2:Nat)≠6 by decide)⟩ rfl ⟨(show(15:Nat)<16 by decide),(show(15:Nat)≠2 by decide),(show(15:Nat)≠6 by decide)⟩ rfl ⟨?_,?_,?_,?_,?_,?_,?_,?_,?_,?_,?_,?_,?_,?_,?_,?_,trivial⟩ [2,4,5,6,7,31] (λu=>[(Pt I 0),(Pt b1 0),qF,(I6 (k:Int)),u 15,u 14]) kF ?_
 ·exact ObA.o (show(0:Nat)≠15 by decide) (λA=>ObC.o 0 (show(0:Nat)≠2 by decide) (show(0:Nat)≠6 by decide) (λf=>oqQ 0 rfl (Pt I 0) (Pt I 0) rfl rfl kF kF))
 ·exact ObA.o (show(1:Nat)≠15 by decide) (λA=>ObC.o 1 (show(1:Nat)≠2 by decide) (show(1:Nat)≠6 by decide) (λf=>oqL 1 0 I 1 [(Sl bT fT a.t.length X),(I6 a.c),(I6 a.s.s),(St a.s.l),(N6 a.s.n),(N6 a.s.v),(.slice Z a.p.length cP),(.slice aR a.r.length cR)] 79 rfl (Sl bT fT a.t.length X) rfl kR kF kF))
 ·refine ObA.o (show(2:Nat)≠15 by decide) (λA=>ObC.own ⟨_,105,[18],(λu=>[(Sl bT fT a.t.length X)]),rfl,rfl,kF,λu V hV L=>?_⟩);refine⟨#[(Sl bT fT a.t.length X)],by kernel_rfl,λW hM=>?_⟩;exact(GW hM.view bT fT a.t.length X _ (View.range_le hV l3) (by simp) (λu hu=>by obtain⟨x,_,rfl⟩:=S1.1 hu;rfl) oW oW).mono λe W' h=>h.own hM
 ·exact ObA.o (show(3:Nat)≠15 by decide) (λA=>ObC.o 3 (show(3:Nat)≠2 by decide) (show(3:Nat)≠6 by decide) (λf=>oqQ 3 rfl (L6 k) (L6 k) rfl rfl kF kF))
 ·exact ObA.o (show(4:Nat)≠15 by decide) (λA=>ObC.o 4 (show(4:Nat)≠2 by decide) (show(4:Nat)≠6 by decide) (λf=>oqQ 4 rfl (L6 k) (L6 k) rfl rfl kF kF))
 ·exact ObA.o (show(5:Nat)≠15 by decide) (λA=>ObC.o 5 (show(5:Nat)≠2 by decide) (show(5:Nat)≠6 by decide) (λf=>oqQ 5 rfl (I6 (IntKind.i64.wrap ((k:Int)+1))) (I6 ((k+1:Nat):Int)) (M0 (Value.int .i64) (by rw[IntWalk.i64_in _ oW];omega)) rfl kF kF))
 ·refine ObA.o (show(6:Nat)≠15 by decide) (λA=>ObC.take (show(6:Nat)≠2 by decide) ⟨_,104,Mu (a.t.eraseIdx k),[19,20,22],(λu=>[u 2,(L6 k),(I6 ((k+1:Nat):Int))]),rfl,rfl,rfl,by kernel_rfl,kF,λu V f hV L hO=>?_⟩);obtain⟨bO,cO,jO,qO,rfl,c0⟩:=(show(λv f=>∃b c j,v=.slice (some ⟨b,0,none⟩) a.t.length c/\f=[(b,.cells ((a.t.map inV)++j).toArray 3 (0,0))]/\(Rw.row b c j).ok 1 a.t.length (a.t.map inV)) (u 2) f from hO);refine⟨#[u 2,(L6 k),(I6 ((k+1:Nat):Int))],by kernel_rfl,λW hM=>?_⟩;rw[qO];exact(PY bO cO a.t.length k _ jO hM c0 (λu hu=>by obtain⟨x,_,rfl⟩:=S1.1 hu;rfl) b4).mono λe W' h=>h.mono λv V' A ⟨h1,h2,h3⟩=>⟨h1,Vg h3 h2 oW (by have:=c0.2.2.1;omega) (by unfold R47;omega)⟩
 ·exact ObA.o (show(7:Nat)≠15 by decide) (λA=>ObC.o 7 (show(7:Nat)≠2 by decide) (show(7:Nat)≠6 by decide) (λf=>oqQ 7 rfl (Pt I 1) (Pt I 1) rfl rfl kF kF))
 ·exact ObA.o (show(8:Nat)≠15 by decide) (λA=>ObC.o 8 (show(8:Nat)≠2 by decide) (show(8:Nat)≠6 by decide) (λf=>oqL 8 0 I 1 [(Sl bT fT a.t.length X),(I6 a.c),(I6 a.s.s),(St a.s.l),(N6 a.s.n),(N6 a.s.v),(.slice Z a.p.length cP),(.slice aR a.r.length cR)] 79 rfl (I6 a.c) rfl kR kF kF))
 ·exact ObA.o (show(9:Nat)≠15 by decide) (λA=>ObC.o 9 (show(9:Nat)≠2 by decide) (show(9:Nat)≠6 by decide) (λf=>oqQ 9 rfl (Pt I 2) (Pt I 2) rfl rfl kF kF))
 ·exact ObA.o (show(10:Nat)≠15 by decide) (λA=>ObC.o 10 (show(10:Nat)≠2 by decide) (show(10:Nat)≠6 by decide) (λf=>oqL 10 0 I 4 [(Sl bT fT a.t.length X),(I6 a.c),(I6 a.s.s),(St a.s.l),(N6 a.s.n),(N6 a.s.v),(.slice Z a.p.length cP),(.slice aR a.r.length cR)] 79 rfl (.agg #[(I6 a.s.s),(St a.s.l),(N6 a.s.n),(N6 a.s.v)]) rfl kR kF kF))
 ·exact ObA.o (show(11:Nat)≠15 by decide) (λA=>ObC.o 11 (show(11:Nat)≠2 by decide) (show(11:Nat)≠6 by decide) (λf=>oqQ 11 rfl (Pt I 6) (Pt I 6) rfl rfl kF kF))
 ·exact ObA.o (show(12:Nat)≠15 by decide) (λA=>ObC.o 12 (show(12:Nat)≠2 by decide) (show(12:Nat)≠6 by decide) (λf=>oqL 12 0 I 1 [(Sl bT fT a.t.length X),(I6 a.c),(I6 a.s.s),(St a.s.l),(N6 a.s.n),(N6 a.s.v),(.slice Z a.p.length cP),(.slice aR a.r.length cR)] 79 rfl (.slice Z a.p.length cP) rfl kR kF kF))
 ·refine ObA.o (show(13:Nat)≠15 by decide) (λA=>ObC.o 13 (show(13:Nat)≠2 by decide) (show(13:Nat)≠6 by decide) (λf=>oqM 13 106 rfl rfl (qK a.p) rfl [29] (λu=>[(.slice Z a.p.length cP)]) kF (λu V hV L=>?_)));refine⟨#[(.slice Z a.p.length cP)],by kernel_rfl,λW hW=>?_⟩;exact KU a.p _ _ W hW (j8.le hV) h5 oW
 ·refine ObA.o (show(14:Nat)≠15 by decide) (λA=>ObC.o 14 (show(14:Nat)≠2 by decide) (show(14:Nat)≠6 by decide) (λf=>oqP 14 rfl rfl (QR a k) rfl [23,25,27,30] (λu=>[u 6,(I6 a.c),(.agg #[(I6 a.s.s),(St a.s.l),(N6 a.s.n),(N6 a.s.v)]),u 13]) kF (λu V hV L=>?_)));have e6:(Mu (a.t.eraseIdx k)) (u 6) V:=L 6 kR;have j6:(qK a.p) (u 13) V:=L 13 kR;obtain⟨a6,c6,q6,k7,k8⟩:=e6;obtain⟨j2,j4,l9,h4⟩:=j6;rw[q6,l9];exact⟨(.agg #[(.slice a6 (a.t.eraseIdx k).length c6),(I6 a.c),(I6 a.s.s),(St a.s.l),(N6 a.s.n),(N6 a.s.v),(.slice j2 a.p.length j4),S0]),by kernel_rfl,⟨_,_,_,_,rfl,k7,k8,h4⟩⟩
 ·exact ObA.al ⟨_,rfl,rfl,kF⟩
 intro u2 V2 b2 F e8 c4;have k5:=j9.le F;generalize u2 15=z2 at c4 ⊢;subst c4;have c7:(QR a k) (u2 14) V2:=e8 14 (by decide);obtain⟨B,D,C,E,c8,b3,a8,b5⟩:=c7;rw[c8];refine aX 2 b2 (zn (zs (zB [0,1,0,0] [(I,1)] (zn (aB (eF (α:=Wp (List Pa)) (λd=>[4,5,6,7,33,34,35].zip [(Pt b1 0),qF,(L6 k),(Pt b2 0),(.slice aR a.r.length cR),(L6 a.r.length),(L6 d.i)]) (λd=>d.V) (λd=>([(bK I [(Sl bT fT a.t.length X),(I6 a.c),(I6 a.s.s),(St a.s.l),(N6 a.s.n),(N6 a.s.v),(.slice Z a.p.length cP),(.slice aR a.r.length cR)] 79),(b1,.cells Z8.toArray 79 (0,0)),(bK b2 [(.slice B (a.t.eraseIdx k).length D),(I6 a.c),(I6 a.s.s),(St a.s.l),(N6 a.s.n),(N6 a.s.v),(.slice C a.p.length E),(d.r.V d.m)] 79)]++d.r.B 76 d.xs)) (λd=>d.i<=a.r.length/\d.m<=d.i/\View.le V2 d.V/\RwR RlR 1 d.V d.r d.xs d.m d.L/\d.L.map Prod.fst=(a.r.take d.i).eraseIdx k) (λd=>a.r.length-d.i) ⟨0,0,Rw.nil,[],[],V2⟩ ?_ ?_ (hm:=λ_ h=>h.eqv (U3 kR (M1 ([(bK I [(Sl bT fT a.t.length X),(I6 a.c),(I6 a.s.s),(St a.s.l),(N6 a.s.n),(N6 a.s.v),(.slice Z a.p.length cP),(.slice aR a.r.length cR)] 79),(b1,.cells Z8.toArray 79 (0,0)),(bK b2 [(.slice B (a.t.eraseIdx k).length D),(I6 a.c),(I6 a.s.s),(St a.s.l),(N6 a.s.n),(N6 a.s.v),(.slice C a.p.length E),S0] 79)]:aH)).symm))))))))
 ·exact⟨M8 _,O9 _,View.le_refl _,RwR.nil,rfl⟩
 intro d l5;obtain⟨m7,m8,J,N,M⟩:=l5;refine zQ 1 (zn (zs (aZ ((d.i:Int)<(a.r.length:Int)) (λh0 k0=>?_) (λh0 k0=>?_))))
 ·refine zk (zs (aB (zQ 1 ?_)));obtain⟨y6,b7⟩:∃y,(a.r)[d.i]? =some y:=⟨(a.r)[d.i]'oW,K8 _⟩;obtain⟨b6,f6,n1,rfl,k3,k2⟩:=(k5.le J).at_ d.i y6 b7;obtain⟨a6,c6,rfl,l2⟩:=k2;have k6:=View.range1 k3;refine cB (Pt b6 (f6+d.i)) (eJ _ 76 _ _ rfl b6 f6 a.r.length cR d.i .i64 kR kR (by first|assumption|omega) kR kR) ?_;refine zV b6 (f6+d.i) (.slice a6 y6.length c6) k6 76 (.tmp 38) _ Tryz.underlying76 rfl ?_;refine zq 2 (zn (zQ 3 (zn (iE (d.i:Int) (k:Int) (λh1 k1=>?_) (λh1 k1=>?_)))))
  ·refine jX 1 [0,5,0,1,1] [(b2,1)] [.mem (qK y6),.mem (λv V=>∃g,v=(Sl g 0 1 1)/\fJ RlR 1 V (some ⟨g,0,none⟩) [y6])] (by simp only[O4];refine⟨?_,?_,λ_ h=>by cases h⟩<;>first|trivial|(intro v V V2 F O;(first|trivial|exact QR.mono F O|exact Mu.mono F O|exact qK.mono F O|exact PhiMono.go O F|(obtain⟨g,e,O⟩:=O;exact⟨g,e,O.le F⟩)))) ⟨?_,?_,trivial⟩ ?_
   ·refine wM 106 (λu=>#[(.slice a6 y6.length c6)]) λu V hV L W hW=>?_
    exact KU y6 _ _ W hW (l2.le hV) (c2 _ (K9 b7)).2 (c2 _ (K9 b7)).1
   ·refine wN [46] (λu=>[u 3]) λu V hV L=>?_
    have e3:=L 3 kR rfl;obtain⟨a3,c3,q3,l0⟩:=e3;refine⟨[(.slice a3 y6.length c3)],76,λr=>(Sl r 0 1 1),?_,λg V' k4 hR=>?_⟩
    ·rw[q3];kernel_rfl
    exact⟨g,rfl,fJ.lit [(y6,[(.slice a3 y6.length c3)])] hR ⟨⟨_,_,rfl,l0.le k4⟩,trivial⟩ (show 1<=R47 by decide)⟩
   intro u7 V7 e7 b9;have l6:=N.le e7;have c9:=b9 3 rfl;obtain⟨m0,m1,h7,l1⟩:=c9;refine qS 46 h7 ?_;have e0:=b9 4 rfl;obtain⟨m2,h8,j1⟩:=e0;refine qS 47 h8 ?_;obtain⟨n0,n2,a1,j7,e5,a7⟩:=j1.at_ 0 _ rfl;cases j7;refine iW 3 76 77 24 1 1 N.ok (λW hM=>View.range_of e5 hM.view) (RecOk.len a7) (RecOk.one a7) (by decide) (λj0 c1=>?_);refine zq 1 ?_;refine Aa 2 b2 7 (d.m+1) 1 j0 (d.xs++a1) c1 [(.slice B (a.t.eraseIdx k).length D),(I6 a.c),(I6 a.s.s),(St a.s.l),(N6 a.s.n),(N6 a.s.v),(.slice C a.p.length E),(d.r.V d.m)] 79 77 _ _ rfl kR kR kR (λa c=>by kernel_rfl) kR rfl kR ?_;refine zn (zr (zq 1 (dH 50 ((d.i:Int)+1) (zq 1 (zn ?_)))));refine nx ⟨d.i+1,d.m+1,j0,(d.xs++a1),d.L++[(y6,a1)],V7⟩ ?_ ?_
   ·exact⟨by show d.i+1<=_;omega,by show d.m+1<=d.i+1;omega,(View.le_trans J e7),RwR.snoc l6 a7 c1,by rw[P6,M,Ul b7 (by have:=Q0.1 h1;omega)];rfl⟩
   ·show a.r.length-(d.i+1)<a.r.length-d.i;omega
  ·refine zk (zr (zq 1 (dH 50 ((d.i:Int)+1) (zq 1 (zn ?_)))));refine nx ⟨d.i+1,d.m,d.r,d.xs,d.L,d.V⟩ ?_ ?_
   ·exact⟨by show d.i+1<=_;omega,by show d.m<=d.i+1;omega,J,N,by have h9:=Q5.1 h1;rw[M,show d.i=k by omega,TL]⟩
   ·show a.r.length-(d.i+1)<a.r.length-d.i;omega
 ·refine aI (zs (zr ?_));refine jN d.r d.xs 1 d.m [(bK I [(Sl bT fT a.t.length X),(I6 a.c),(I6 a.s.s),(St a.s.l),(N6 a.s.n),(N6 a.s.v),(.slice Z a.p.length cP),(.slice aR a.r.length cR)] 79),(b1,.cells Z8.toArray 79 (0,0)),(bK b2 [(.slice B (a.t.eraseIdx k).length D),(I6 a.c),(I6 a.s.s),(St a.s.l),(N6 a.s.n),(N6 a.s.v),(.slice C a.p.length E),(d.r.V d.m)] 79)] 76 kR N.ok (λj3 j5 m9 Y e4 e2=>?_);rw[e2];have l7:=(b3.le J).le Y;have l8:=(b5.le J).le Y;have h6:=N.le Y;have b8:=h6.done (by decide) e4 (View.le_refl _) (by unfold R47;omega);rw[O2 oW]at M;rw[M]at b8;have e9:d.m=(a.r.eraseIdx k).length:=by rw[<-M,O1];exact h6.m
  rw[e9];refine cF [3] [(b2,8)] (aX 1 b1 (zq 1 (zn (aA (dW [2,0] [(b1,8)] [(.agg #[(.slice B (a.t.eraseIdx k).length D),(I6 a.c),(I6 a.s.s),(St a.s.l),(N6 a.s.n),(N6 a.s.v),(.slice C a.p.length E),(.slice j3 (a.r.eraseIdx k).length j5)]),qT] (λW' hM=>?_))))));exact aJ hM (View.le_trans (View.le_trans F J) Y) ⟨_,_,_,_,_,_,rfl,⟨l7,l8,b8,l4⟩,a8⟩
end Go.Proofs.YtkoamlfiijcecaaGreatDoor.Sx
