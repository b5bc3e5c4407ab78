/-
  Several texts in one: Sx10 SxJ Sx11 Shelf Cln1 Rep Pri2 Sum1 Blk1 Sum2 Pri3 Blk2.
  Conditions: named at each.
-/
import Derived.Test.YtkoamlfiijcecaaGreatDoorG04
import Derived.Shelf.Strings.Builder1
import Derived.Shelf.Strings.Builder2
import Derived.Shelf.Strings.BuilderF
import Derived.Shelf.Strings.BuilderK
import Derived.Shelf.Strings.Builder2Cap
import Derived.Shelf.Strings.Prefix
import Derived.Shelf.Bits.Mul64
import Derived.Shelf.Strings.Repeat
import Derived.Ground.Names2Prog
import Derived.Shelf.Slices.Clone
import Derived.Shelf.Slices.Delete
import Derived.Shelf.Slices.Cells
import Derived.Shelf.Slices.Empties
import Derived.Ground.SlgnProg
import Derived.Shelf.SlicesE.Clone
import Derived.Test.YtkoamlfiijcecaaGreatDoorProg
set_option maxHeartbeats 16000000
set_option linter.unusedSimpArgs false
set_option linter.unusedVariables false
set_option linter.unusedSectionVars false
namespace Go.Proofs.YtkoamlfiijcecaaGreatDoor.Sx
open Go.ChangeShapes Go.WideShapes Go.ChangeAt Go.RowKit Go.Deep
def gX(W0:Cx)(U:View)(σF:aH)(Φ:Value->View->aH->Prop):Ending->World->Prop:=λe W'=>∃v V σ',e=.returned v/\View.le U V/\Mem W0 V (σ'++σF) W'/\Φ v V σ'
theorem Yi{P : Program}{f : FuncId}{j : Func}{c : Code}{d : List Value}{W : World}{R : Ending -> World -> Prop}{W0 : Cx}{σ : aH}(n : Nat)(U : View)(G : P.funcs[f]? = some j)(F : j.body = some c)(I : j.ntmps = n)(A : Nat.ble d.length n = true)(k : Mem W0 U σ W)
  (h:SXC P n W0 (Sk P n W0 j R) c (Lm 0 d) U σ):Calls P f d.toArray W R:=by
 have E:d.length<=n:=U1 A;refine calls_of_wp G F (wp_mono (h.go _ W ⟨?_,rfl,λt v J=>?_⟩ k) ?_)
 ·simp[I];omega
 ·obtain⟨_,g⟩:=HM d 0 t v J;have B:t<d.length:=(L8.1 g).1;simp only[bV]at g;rw[Array.getElem?_append_left (by simpa using B)];simpa using g
 ·rintro e a D ⟨s,K,σ,r,k,C⟩;cases e with
  |normal=>obtain⟨v,u,g⟩:=C a D r k;exact⟨r.defers,v,u,g⟩
  |ret=>obtain⟨v,u,g⟩:=C a D r k;exact⟨r.defers,v,u,g⟩
  |_=>exact C.elim
section
variable {P:Program} {n:Nat} {W0:Cx} {Q:XQ} {s:cA} {U:View} {σ:aH} {ops:Array Oper} {l:List Oper} {o:Oper}
theorem DT(f : FuncId)(a : Array Value)(own d : aH)(Φ : Value -> View -> aH -> Prop)(r : σ.Perm (own ++ d))(j : enters P s o = some (f, a))(A : ∀ W, Mem W0 U (own ++ d) W -> Calls P f a W (gX W0 U d Φ))(B : fF n o = true)(D : dA ops s o = some true)
  (h:∀v V σ',View.le U V->Φ v V σ'->SXL P n W0 Q ops l (lQ o v s) V (σ'++d)):SXL P n W0 Q ops (o::l) s U σ:=
 tX f a j B D λW u=>(A W (u.perm r)).mono λ_ E ⟨v,V,σ',j,C,g,k⟩=>⟨v,_,V,σ'++d,j,g,rfl,h v V σ' C k⟩
theorem LG{σ':aH}(d:σ.Perm σ')(h:SXL P n W0 Q ops l s U σ'):SXL P n W0 Q ops l s U σ:=⟨λa W g f=>h.go a W g (f.perm d)⟩
end
def pQ(vs:List Sq)(j:Nat)(v:Value)(V:View):Prop:=match vs[j]? with
 |some (.val w)=>v=w
 |some (.mem Φ)=>Φ v V
 |none=>False
theorem pQ.phi{vs:List Sq}{j:Nat}{v:Value}{V:View}(h:pQ vs j v V):gE vs j v V:=by
 unfold pQ at h;unfold gE;split at h
 ·next e=>rw[e];trivial
 ·next e=>rw[e];exact h
 ·exact h.elim
theorem pQ.le{vs:List Sq}(a:∀q∈vs,mY q){j:Nat}{v:Value}{V V':View}(d:View.le V V')(h:pQ vs j v V):pQ vs j v V':=by
 unfold pQ at h ⊢;split at h
 ·exact h
 ·next Φ e=>exact a _ (K9 e) v V V' d h
 ·exact h
theorem pQ.isQ{vs:List Sq}{j:Nat}{v:Value}{V U:View}{W0:Cx}{σ:aH}{W:World}(a:Mem W0 V σ W)(d:View.le U V)(h:pQ vs j v V):IsQ W0 U σ vs j v W:=by
 unfold pQ at h;split at h
 ·next w e=>exact⟨_,e,h⟩
 ·next Φ e=>exact⟨_,e,V,d,a,h⟩
 ·exact h.elim
theorem IsQ.at{vs:List Sq}{j:Nat}{v:Value}{U:View}{W0:Cx}{σ:aH}{W:World}(h:IsQ W0 U σ vs j v W)(k:Mem W0 U σ W):∃V,View.le U V/\Mem W0 V σ W/\pQ vs j v V:=by
 obtain⟨q,a,hs⟩:=h;cases q with
 |val w=>exact⟨U,View.le_refl _,k,by unfold pQ;rw[a];exact hs⟩
 |mem Φ=>
  obtain⟨V,d,f,g⟩:=hs;exact⟨V,d,f,by unfold pQ;rw[a];exact g⟩
structure DN where
 j:Nat
 i:Nat
 Ω:Value->aH->Prop
def LB(ops:Array Oper)(m:Nat)(t:DN):Bool:=(List.range m).all λi=>decide (i=t.i)|| !cH .any ops i t.j
structure Ai (W0 : Cx) (U : View) (σ : aH) (vs : List Sq) (m : Nat) (t : DN) (L : Nat -> Bool) (u : Nat -> Value) (w : World) (V : View) (σ' : aH) : Prop where
 le:View.le U V
 mem:Mem W0 V (σ++σ') w
 at_:∀j,j<m->L j=true->j≠t.j->pQ vs j (u j) V
 own:L t.j=true->L t.i=false->t.Ω (u t.j) σ'
 non:L t.j=false\/L t.i=true->σ'=[]
section
variable {P:Program} {n:Nat} {W0:Cx} {s:cA} {U:View} {σ:aH} {ops:Array Oper} {ds:List Nat} {vs:List Sq}
structure Bm (P : Program) (n : Nat) (W0 : Cx) (U : View) (σ : aH) (ops : Array Oper) (ds : List Nat) (vs : List Sq) (s : cA) (t : DN) : Prop where
 go:∃(o:Oper) (f:FuncId) (ts:List Nat) (vals:(Nat->Value)->List Value),ops[t.j]? =some o/\o.guard=none/\(∀u,(ts.map λx=>look (iK ops ds vs u t.j++aV s ds) x)=(vals u).map some)/\
  ∀(u:Nat->Value) (V:View),View.le U V->(∀j,cH .any ops t.j j=true->gE vs j (u j) V)->∃args,enters P (ts.zip (vals u)) o=some (f,args)/\
   ∀W,Mem W0 V σ W->Calls P f args W λe W'=>∃v σ',e=.returned v/\Mem W0 V (σ++σ') W'/\t.Ω v σ'
structure Nb (P : Program) (n : Nat) (W0 : Cx) (U : View) (σ : aH) (ops : Array Oper) (ds : List Nat) (vs : List Sq) (s : cA) (t : DN) : Prop where
 go:∃(o:Oper) (f:FuncId) (Φ:Value->View->Prop) (ts:List Nat) (vals:(Nat->Value)->List Value),ops[t.i]? =some o/\o.guard=none/\vs[t.i]? =some (.mem Φ)/\cH .any ops t.i t.j=true/\(∀u,(ts.map λx=>look (iK ops ds vs u t.i++aV s ds) x)=(vals u).map some)/\
  ∀(u:Nat->Value) (V:View) (σ':aH),View.le U V->(∀j,cH .any ops t.i j=true->j≠t.j->gE vs j (u j) V)->t.Ω (u t.j) σ'->∃args,enters P (ts.zip (vals u)) o=some (f,args)/\
   ∀W,Mem W0 V (σ'++σ) W->Calls P f args W (gX W0 V σ λv V' σ''=>σ''=[]/\Φ v V')
def ObC(P:Program)(n:Nat)(W0:Cx)(U:View)(σ:aH)(ops:Array Oper)(ds:List Nat)(vs:List Sq)(s:cA)(t:DN)(i:Nat):Prop:=
 if i=t.j then Bm P n W0 U σ ops ds vs s t else if i=t.i then Nb P n W0 U σ ops ds vs s t else∀σ',Oq P n W0 U (σ++σ') ops ds vs s i
theorem iM{a0:Act}{u:Nat->Value}{V:View}(i:Nat)(B:pR n s a0)(L:ds.Nodup)(J:∀d∈ds,d<n)(M:∀j,cH .any ops i j=true->pQ vs j (u j) V\/∃Φ,vs[j]? =some (.mem Φ)):pR n (iK ops ds vs u i++aV s ds) (fA ds 0 u a0):=by
 have r:=λt=>gB ds 0 u a0 t L (by rw[B.size];exact J)
 refine⟨by rw[(r 0).2.2.1,B.size],by rw[(r 0).2.2.2,B.defers],λt v N=>?_⟩;rcases eW _ _ _ _ N with h|⟨_,h⟩
 ·have E:=iT _ _ _ h;unfold iK at E;obtain⟨j,K,g⟩:=W3.1 E;have A:j<ds.length:=S4.1 K;have k:∀D,ds.getD j 0=D->ds[j]? =some D:=λD e=>by
   rw[K8 A,<-e];simp[List.getD,A]
  split at g
  ·next x F C=>
   simp only[L0,N3]at g;obtain⟨a,f⟩:=g;rw[(r t).1 j (k t a),O0];rcases M j F with hs|⟨Φ,hs⟩
   ·unfold pQ at hs;rw[C]at hs;simp only at hs;rw[hs,f]
   ·rw[C]at hs;cases hs
  ·next x F C=>
   simp only[L0,N3]at g;obtain⟨a,f⟩:=g;rw[(r t).1 j (k t a),O0,<-f]
  ·cases g
 ·obtain⟨G,I⟩:=fH _ _ _ _ h;rw[(r t).2.1 G];exact B.slots t v I
end
section
variable {P:Program} {n:Nat} {W0:Cx} {s:cA} {U:View} {σ:aH}
theorem Yd{id : Nat}{l : List Oper}{Q : XQ}(m f r : Nat)(ds : List Nat)(vs : List Sq)(t : DN)(hm : P.follows .mixedOrders = true)(c0 : l.length = m + f)(b7 : ds.length = m)
  (c9:pI l.toArray ds=true) (b9:nodupB ds=true) (e1:(ds.all λd=>Nat.blt d n)=true) (a6:fQ .any l.toArray m=true) (b1:lP .any l.toArray m r=true) (X:jV l.toArray m f=true) (Z:∀q∈vs,mY q)
  (c1:LB l.toArray m t=true) (b0:t.j<m/\t.i<m/\t.j≠t.i) (b2:vs[t.j]? =some (.mem λ_ _=>True))
  (c2:Go.Proofs.YtkoamlfiijcecaaGreatDoor.Steps (ObC P n W0 U σ l.toArray ds vs s t) 0 m)
  (ts:List Nat) (E:(Nat->Value)->List Value) (N:∀u,(ts.map λt=>look (IF u 0 ds vs++aV s ds) t)=(E u).map some)
  (h:∀(u:Nat->Value) (V:View),View.le U V->(∀j,j<m->gE vs j (u j) V)->SXL P n W0 Q l.toArray (l.drop m) (ts.zip (E u)) V σ):SXC P n W0 Q (.region id l.toArray true) s U σ:=by
 refine⟨λa W ha hM=>?_⟩;have hn:=jW b9;have hd:∀d∈ds,d<n:=λd hd=>by have:=M7.1 e1 d hd;simpa[Z5]using this
 refine lS m f r ds (λL u w=>∃V B,Ai W0 U σ vs m t L u w V B) hm (by simpa using c0) b7 c9 b9 a6 b1 ?_ ?_ ?_
 ·intro u;exact⟨U,[],⟨View.le_refl _,by rw[M1];exact hM.drew,λj _ k=>by simp at k,λk=>by simp at k,λ_=>rfl⟩⟩
 ·rintro i e0 L u w ⟨V,B,I⟩ O A c8 K hK;have G:=c2.get i (M8 _) oW;unfold ObC at G;split at G
  ·next Y=>
   subst Y;have b5:B=[]:=I.non (.inl O);subst b5;obtain⟨o,g,ts,E,ho,a7,N,a8⟩:=G.go;have a1:∀j,cH .any l.toArray t.j j=true->j≠t.j:=λj k e=>by have:=(A j k).1;rw[e,O]at this;cases this
   have hr:=iM (a0:=a) (u:=u) (V:=V) (vs:=vs) (ops:=l.toArray) t.j ha hn hd λj k=>.inl (I.at_ j (A j k).2 (A j k).1 (a1 j k))
   obtain⟨b6,he,hc⟩:=a8 u V I.le λj k=>(I.at_ j (A j k).2 (A j k).1 (a1 j k)).phi
   unfold wpOp;simp only[ho,Region.wanted,a7,if_true];left;unfold Oper.wp;rw[eU (gJ ts _ hr (N u)) he];refine(hc w (by have:=I.mem;rwa[M1]at this)).mono ?_;rintro _ w' ⟨v,B,rfl,F,b4⟩;have c6:L t.i=false:=by
    cases D:L t.i with
    |false=>rfl
    |true=>
     obtain⟨o2,g2,h8,h7,e8,h6,e9,h0,e5,_⟩:=(show Nb P n W0 U σ l.toArray ds vs s t from by
      have:=c2.get t.i (M8 _) oW;unfold ObC at this;rwa[M5 (λe=>b0.2.2 e.symm),N1 rfl]at this).go
     have:=c8 t.i t.j D e5;rw[O]at this;cases this
   have:=hK v w' ⟨V,B,⟨I.le,F,λj k J C=>?_,λ_ _=>?_,λD=>?_⟩⟩
   ·rw[ho]at this;exact this
   ·rw[M5 C]at J ⊢;exact I.at_ j k J C
   ·rw[N1 rfl];exact b4
   ·rw[N1 rfl,M5 (λe=>b0.2.2 e.symm)]at D;rcases D with D|D
    ·cases D
    ·rw[c6]at D;cases D
  ·next Y=>
   split at G
   ·next M=>
    subst M;obtain⟨o,g,Φ,ts,E,ho,a7,e4,e6,N,a8⟩:=G.go;have c4:L t.j=true:=(A t.j e6).1;have b4:=I.own c4 O;have hr:=iM (a0:=a) (u:=u) (V:=V) (vs:=vs) (ops:=l.toArray) t.i ha hn hd λj k=>by
     by_cases e:j=t.j
     ·subst e;exact .inr ⟨_,b2⟩
     ·exact .inl (I.at_ j (A j k).2 (A j k).1 e)
    obtain⟨b6,he,hc⟩:=a8 u V B I.le (λj k e=>(I.at_ j (A j k).2 (A j k).1 e).phi) b4;unfold wpOp;simp only[ho,Region.wanted,a7,if_true];left;unfold Oper.wp;rw[eU (gJ ts _ hr (N u)) he];refine(hc w (I.mem.perm Q2)).mono ?_;rintro _ w' ⟨v,V',h4,rfl,hl,F,rfl,e7⟩;rw[R0]at F;have:=hK v w' ⟨V',[],⟨View.le_trans I.le hl,by rw[M1];exact F,λj k J C=>?_,λ_ D=>?_,λ_=>rfl⟩⟩
    ·rw[ho]at this;exact this
    ·by_cases e:j=t.i
     ·subst e;rw[N1 rfl];unfold pQ;rw[e4];exact e7
     ·rw[M5 e]at J ⊢;exact(I.at_ j k J C).le Z hl
    ·rw[N1 rfl]at D;cases D
   ·next M=>
    have e2:∀j,cH .any l.toArray i j=true->j≠t.j:=λj k e=>by
     unfold LB at c1;have:=M7.1 c1 i (S4.2 e0);rw[<-e,k,P0 M]at this;cases this
    have c7:Mem W0 U (σ++B) w:=I.mem.weak I.le;refine((G B).go a (up n W0 Q) ha hn hd Z).step u w c7 (λj k=>(I.at_ j (A j k).2 (A j k).1 (e2 j k)).isQ I.mem I.le) K λv w' F hE hv=>?_
    obtain⟨V',h1,h2,h3⟩:=hv.at F;obtain⟨q1,q2,q3⟩:=Mem.join (I.mem.call hE) h2;refine hK v w' ⟨V.or V',B,⟨View.le_trans I.le q2,q1,λj k J C=>?_,λD hy=>?_,λD=>?_⟩⟩
    ·by_cases e:j=i
     ·subst e;rw[N1 rfl];exact h3.le Z q3
     ·rw[M5 e]at J ⊢;exact(I.at_ j k J C).le Z q2
    ·rw[M5 (λe=>Y e.symm)]at D ⊢;rw[M5 (λe=>M e.symm)]at hy;exact I.own D hy
    ·rw[M5 (λe=>Y e.symm),M5 (λe=>M e.symm)]at D;exact I.non D
 ·rintro L u W' ⟨V,B,I⟩ J;have b5:B=[]:=I.non (.inr (J _ b0.2.1));subst b5;refine iC f m _ W' (by simpa using c0.symm) X ?_;have hg:=λt=>gB ds 0 u a t hn (by rw[ha.size];exact hd)
  have e3:∀j,j<m->gE vs j (u j) V:=λj k=>by
   by_cases e:j=t.j
   ·unfold gE;rw[e,b2];trivial
   ·exact(I.at_ j k (J j k) e).phi
  refine(h u V I.le e3).go _ W' (gJ ts _ (s':=IF u 0 ds vs++aV s ds) ⟨by rw[(hg 0).2.2.1,ha.size],by rw[(hg 0).2.2.2,ha.defers],λx v hl=>?_⟩ (N u)) (by have:=I.mem;rwa[M1]at this);rcases eW _ _ _ _ hl with hl|⟨_,hl⟩
  ·have b8:=iT _ _ _ hl;obtain⟨j,q,hd2,b3,hq⟩:=lY u 0 _ _ _ _ b8;have h5:j<ds.length:=(L8.1 hd2).1;rw[(hg x).1 j hd2,O0];cases q with
   |val w=>
    simp only at hq;have a1:j≠t.j:=λe=>by rw[e,b2]at b3;cases b3
    have:=I.at_ j oW (J j oW) a1;unfold pQ at this;rw[b3]at this;simp only at this;rw[this,hq]
   |mem Φ=>simp only[O0]at hq;rw[hq]
  ·obtain⟨h1,h2⟩:=fH _ _ _ _ hl;rw[(hg x).2.1 h1];exact ha.slots x v h2
end
section
variable {P:Program} {n:Nat} {W0:Cx} {Q:XQ} {s:cA} {U:View} {σ:aH} {ops:Array Oper} {l:List Oper} {o:Oper}
theorem Du(f : FuncId)(a : Array Value)(own d : aH)(Φ : Value -> View -> aH -> Prop)(g : σ.Perm (own ++ d))(j : ∀ W, Mem W0 U (own ++ d) W -> Calls P f a W (gX W0 U d Φ))
  (h:∀v V σ',View.le U V->Φ v V σ'->SXL P n W0 Q ops l (lQ o v s) V (σ'++d)) (r:enters P s o=some (f,a):=by kernel_rfl) (k:fF n o=true:=by kernel_rfl) (u:dA ops s o=some true:=by kernel_rfl):SXL P n W0 Q ops (o::l) s U σ:=
 DT f a own d Φ g r j k u h
theorem Ay{W:World}{A B:aH}(d:A.Perm B)(a:Mem W0 U σ W)(e:σ=A:=by kernel_rfl):Mem W0 U B W:=(a.eqv e).perm d
theorem XK(k:Nat)(σ:aH):σ=σ.take k++σ.drop k:=(S8 k σ).symm
theorem dB(k:Nat)(h:∀b,SXL P n W0 Q ops l (lQ o (nwV P s o b) s) U ((σ.take k++[(b,nwX P s o)])++σ.drop k))(hm:makes P s o=some (nwX P s o,λr=>some (nwV P s o r)):=by kernel_rfl)(a:fF n o=true:=by kernel_rfl)(d:dA ops s o=some true:=by kernel_rfl):SXL P n W0 Q ops (o::l) s U σ:=
 Yk _ _ (XK k σ) _ _ hm a d h
theorem SP:∀(k:Nat) (σ:aH) (x:Nat×Obj),σ[k]? =some x->σ.Perm ([x]++σ.eraseIdx k)
 |_,[],x,h=>by simp at h
 |0,y::σ,x,h=>by
  simp only[P5,L0]at h;subst h;exact bG _
 |k+1,y::σ,x,h=>by
  have:=SP k σ x (by simpa using h);exact(this.cons y).trans (List.Perm.swap x y _)
theorem jY(k : Nat)(x : Nat × Obj)(f : FuncId)(a : Array Value)(Φ : Value -> View -> aH -> Prop)(d : ∀ W, Mem W0 U ([x] ++ σ.eraseIdx k) W -> Calls P f a W (gX W0 U (σ.eraseIdx k) Φ))
  (h:∀v V σ',View.le U V->Φ v V σ'->SXL P n W0 Q ops l (lQ o v s) V (σ'++σ.eraseIdx k)) (u:σ[k]? =some x:=by kernel_rfl) (j:enters P s o=some (f,a):=by kernel_rfl) (g:fF n o=true:=by kernel_rfl) (r:dA ops s o=some true:=by kernel_rfl):SXL P n W0 Q ops (o::l) s U σ:=
 DT f a [x] _ Φ (SP k σ x u) j d g r h
theorem Gb(f : FuncId)(a : Array Value)(Φ : Value -> View -> aH -> Prop)(d : ∀ W, Mem W0 U ([] ++ σ) W -> Calls P f a W (gX W0 U σ Φ))
  (h:∀v V σ',View.le U V->Φ v V σ'->SXL P n W0 Q ops l (lQ o v s) V (σ'++σ)) (j:enters P s o=some (f,a):=by kernel_rfl) (g:fF n o=true:=by kernel_rfl) (k:dA ops s o=some true:=by kernel_rfl):SXL P n W0 Q ops (o::l) s U σ:=
 DT f a [] _ Φ (bG _) j d g k h
theorem eV{V:View}{σ' a:aH}{Φ:Value->View->aH->Prop}{v:Value}{W':World}(f:Mem W0 V σ W')(g:View.le U V)(h:Φ v V σ')(d:σ=σ'++a:=by kernel_rfl):gX W0 U a Φ (.returned v) W':=⟨v,V,σ',rfl,g,f.eqv d,h⟩
theorem fN{V:View}{a:aH}{Φ:Value->View->aH->Prop}{v:Value}{W':World}(k m:Nat)(x:Nat×Obj)(j:Mem W0 V σ W')(r:View.le U V)(h:Φ v V [x])(u:(σ.take m)[k]? =some x:=by kernel_rfl)(g:σ.drop m=a:=by kernel_rfl):gX W0 U a Φ (.returned v) W':=by
 subst g;refine⟨v,V,[x],rfl,r,j.sub ?_,h⟩;have d:[x].Sublist (σ.take m):=List.singleton_sublist.2 (K9 u);have f:=N4 d (N7 (σ.drop m));rwa[S8]at f
theorem Bd(σ1 ρ:aH)(h:∀b,SXL P n W0 Q ops l (lQ o (nwV P s o b) s) U ((σ1++[(b,nwX P s o)])++ρ))(a:σ=σ1++ρ:=by kernel_rfl)(hm:makes P s o=some (nwX P s o,λr=>some (nwV P s o r)):=by kernel_rfl)(d:fF n o=true:=by kernel_rfl)(f:dA ops s o=some true:=by kernel_rfl):SXL P n W0 Q ops (o::l) s U σ:=
 Yk σ1 ρ a _ _ hm d f h
theorem fB{f : FuncId}{d : Func}{c : Code}{a : List Value}{R : Ending -> World -> Prop}{W : World}(n : Nat)(r : P.funcs[f]? = some d)(j : Mem W0 U σ W)(h : SXC P n W0 (Sk P n W0 d R) c (Lm 0 a) U σ)
  (k:d.body=some c:=by rfl) (u:d.ntmps=n:=by rfl) (g:Nat.ble a.length n=true:=by rfl):Calls P f a.toArray W R:=Yi n U r k u g j h
theorem eO(k : Nat){x : Nat × Obj}{f : FuncId}{a : Array Value}{Φ : Value -> View -> aH -> Prop}(d : ∀ W, Mem W0 U ([x] ++ σ.eraseIdx k) W -> Calls P f a W (gX W0 U (σ.eraseIdx k) Φ))
  (h:∀v V σ',View.le U V->Φ v V σ'->SXL P n W0 Q ops l (lQ o v s) V (σ'++σ.eraseIdx k)) (u:σ[k]? =some x:=by kernel_rfl) (j:enters P s o=some (f,a):=by kernel_rfl) (g:fF n o=true:=by kernel_rfl) (r:dA ops s o=some true:=by kernel_rfl):SXL P n W0 Q ops (o::l) s U σ:=
 DT f a [x] _ Φ (SP k σ x u) j d g r h
theorem iW(g : Nat)(e t : TypeId)(bytes k c : Nat){r : Rw}{j : List Value}{m z b f : Nat}{a : List Value}{x y : Operand}(C : r.ok z m j)(d : ∀ W, Mem W0 U σ W -> W.rangeAt b f a)(L : a.length = k * z)(G : ∀ u ∈ a, u.oneCell' = true)(K : 0 < k)
  (h:∀F:Rw,F.ok z (m+k) (j++a)->SXL P n W0 Q ops l (lQ o (F.V (m+k)) s) U (σ.take g++F.B e (j++a))) (ho:o.op=.call { callee:=.builtin .append,args:=#[x,y],argTypes:=#[t,t] }:=by rfl) (E:σ=σ.take g++r.B e j:=by kernel_rfl) (O:evS s x=some (r.V m):=by kernel_rfl)
  (V:evS s y=some (.slice (some ⟨b,f,none⟩) k c):=by kernel_rfl) (A:m+k<=maxLen:=by unfold maxLen;omega) (B:(m+k)*bytes<=140737488355328:=by omega) (J:(P.info? e).map (λi=>(i.size,i.bytes,i.zero.map (·.cells.size)))=some (z,bytes,some z):=by kernel_rfl) (M:P.underlying t=some (.slice e):=by kernel_rfl)
  (D:Nat.blt 0 z=true:=by kernel_rfl) (I:fF n o=true:=by kernel_rfl) (N:dA ops s o=some true:=by kernel_rfl):SXL P n W0 Q ops (o::l) s U σ:=
 fK r j m (σ.take g) e t z bytes k E C x y ho O b f c a V d L G K A B J M D I N h
end
theorem EU{P:Program}{W:World}{b f z n:Nat}{ys:List Value}(h:W.rangeAt b f ys)(g:ys.length=n*z)(c d:Nat):(Builtin.firstCells z n (.slice (some ⟨b,f,none⟩) c d)).run P W=.ok ys.toArray W:=by
 have:=run_loadCells_list (P:=P) (w:=W) ⟨b,f,none⟩ ys (λj v k=>by
  have a:(⟨b,f,none⟩:Addr).add j=⟨b,f+j,none⟩:=by unfold Addr.add;split<;>simp_all
  rw[a];exact h j v k)
 unfold Builtin.firstCells;rw[<-g];exact this
theorem qX{P:Program}{W:World}{b a:Nat}{cs ys:List Value}{t:TypeId}(h:W.heap[b]? =some (.cells cs.toArray t (0,0)))(k:a+ys.length<=cs.length)(g:∀u∈ys,u.oneCell'=true):(storeCells ⟨b,a,none⟩ ys).run P W=.ok () (W.setCells b a ys):=by
 have f:=oL h k;have:=run_storeCells_cells (P:=P) b a ys 0 W (λj d=>by simpa using(f j d).1) (λj d=>by simpa using(f j d).2) g;simpa using this
theorem add_mid(b f k:Nat):(⟨b,f,none⟩:Addr).add k=⟨b,f+k,none⟩:=by unfold Addr.add;split<;>simp_all
section
variable {P:Program} {n:Nat} {W0:Cx} {Q:XQ} {s:cA} {U:View} {σ:aH} {ops:Array Oper} {l:List Oper} {o:Oper}
theorem rT{P:Program}{e:TypeId}{z:Nat}(hs:(P.info? e).map (·.size)=some z)(W:World):(sizeOf e).run P W=.ok z W:=by
 cases a:P.info? e with
 |none=>rw[a]at hs;cases hs
 |some i=>
  rw[a]at hs;simp only[U4,L0]at hs;simp[sizeOf,typeInfo,a,hs]
theorem Gc(k b f d c B D j C z : Nat)(cs ys : List Value)(e t te : TypeId)(x y : Operand)(ho : o.op = .call { callee := .builtin .append, args := #[x, y], argTypes := #[t, t] })(hx : evS s x = some (.slice (some ⟨b, f, none⟩) d c))(hy : evS s y = some (.slice (some ⟨B, D, none⟩) j C))
  (L:σ[k]? =some (b,.cells cs.toArray te (0,0))) (X:∀W,Mem W0 U σ W->W.rangeAt B D ys) (V:ys.length=j*z) (M:∀u∈ys,u.oneCell'=true) (O:d+j<=c) (g:f+d*z+ys.length<=cs.length)
  (Y:P.underlying t=some (.slice e)) (hs:(P.info? e).map (·.size)=some z) (J:fF n o=true) (Z:dA ops s o=some true)
  (h:SXL P n W0 Q ops l (lQ o (.slice (some ⟨b,f,none⟩) (d+j) c) s) U (σ.set k (b,.cells (cJ cs (f+d*z) ys).toArray te (0,0)))):SXL P n W0 Q ops (o::l) s U σ:=by
 refine oT J Z λa W F E K N=>?_
 have I:=(E.own k b _ L).1;have A:=EU (P:=P) (X W E) V j C;have G:=qX (P:=P) I g M;obtain⟨q1,q2,q3,q4,q5,q6⟩:=iF b ys (f+d*z) W cs te I g;have r:(Builtin.append_ #[t,t] o.type #[.slice (some ⟨b,f,none⟩) d c,.slice (some ⟨B,D,none⟩) j C]).run P W=.ok (.slice (some ⟨b,f,none⟩) (d+j) c) (W.setCells b (f+d*z) ys):=by
  simp[Builtin.append_,run_underlying Y,rT hs,Builtin.lenOf,A,O,add_mid,G,Result.andThen]
 unfold Oper.wp execOp;simp only[ho,resolve,invoke,builtin,Sem.run_bind,Sem.run_pure,Result.andThen_ok,Z2,R2,Z0,eH F hx,eH F hy,r];exact N _ _ _ _ _ h (eL F J) (E.set k b _ _ L q4 q5 q6 q3 q1 q2)
theorem Rf(k b f G c A C r B m z : Nat)(cs ys : List Value)(e t M te : TypeId)(x y : Operand)(ho : o.op = .call { callee := .builtin .copy, args := #[x, y], argTypes := #[t, M] })(hx : evS s x = some (.slice (some ⟨b, f, none⟩) G c))(hy : evS s y = some (.slice (some ⟨A, C, none⟩) r B))
  (L:σ[k]? =some (b,.cells cs.toArray te (0,0))) (hm:Nat.min r G=m) (X:∀W,Mem W0 U σ W->W.rangeAt A C ys) (V:ys.length=m*z) (N:∀u∈ys,u.oneCell'=true) (d:f+ys.length<=cs.length)
  (Y:P.underlying t=some (.slice e)) (hs:(P.info? e).map (·.size)=some z) (J:fF n o=true) (Z:dA ops s o=some true)
  (h:SXL P n W0 Q ops l (lQ o (goInt m) s) U (σ.set k (b,.cells (cJ cs f ys).toArray te (0,0)))):SXL P n W0 Q ops (o::l) s U σ:=by
 refine oT J Z λa W E D K O=>?_
 have I:=(D.own k b _ L).1;have j:=EU (P:=P) (X W D) V r B;have F:=qX (P:=P) I d N;obtain⟨q1,q2,q3,q4,q5,q6⟩:=iF b ys f W cs te I d;have g:(Builtin.copy_ #[t,M] o.type #[.slice (some ⟨b,f,none⟩) G c,.slice (some ⟨A,C,none⟩) r B]).run P W=.ok (goInt m) (W.setCells b f ys):=by
  simp[Builtin.copy_,run_underlying Y,rT hs,Builtin.lenOf,hm,j,F,Result.andThen]
 unfold Oper.wp execOp;simp only[ho,resolve,invoke,builtin,Sem.run_bind,Sem.run_pure,Result.andThen_ok,Z2,R2,Z0,eH E hx,eH E hy,g];exact O _ _ _ _ _ h (eL E J) (D.set k b _ _ L q4 q5 q6 q3 q1 q2)
theorem Mj(k b f g c z : Nat)(cs : List Value)(j : Value)(e t te : TypeId)(x : Operand)(ho : o.op = .call { callee := .builtin .clear, args := #[x], argTypes := #[t] })(Y : evS s x = some (.slice (some ⟨b, f, none⟩) (g + 1) c))
  (M:σ[k]? =some (b,.cells cs.toArray te (0,0))) (Z:∀W:World,(zeroValue e).run P W=.ok j W) (C:j.cells.size=z) (N:j.cells.all (·.oneCell')=true) (r:f+(g+1)*z<=cs.length)
  (D:P.underlying t=some (.slice e)) (L:fF n o=true) (X:dA ops s o=some true)
  (h:∀ys:List Value,ys.length=(g+1)*z->SXL P n W0 Q ops l (lQ o (.tuple #[]) s) U (σ.set k (b,.cells (cJ cs f ys).toArray te (0,0)))):SXL P n W0 Q ops (o::l) s U σ:=by
 refine oT L X λa W I G K O=>?_
 have J:=(G.own k b _ M).1;have d:(Builtin.zeroCells j.cells (g+1)).toList.length=(g+1)*z:=by simp[Builtin.zeroCells,C]
 have F:=qX (P:=P) J (ys:=(Builtin.zeroCells j.cells (g+1)).toList) (by rw[d];exact r) (λu D=>by
  simp only[Builtin.zeroCells,Array.toList_map,S1]at D;obtain⟨i,V,rfl⟩:=D;have E:i<(g+1)*z:=by
   have:=Array.mem_toList_iff.1 V;simp at this;rw[C]at this;exact this
  have a1:0<z:=by
   rcases Nat.eq_zero_or_pos z with h|h
   ·rw[h]at E;omega
   ·exact h
  have B:i%j.cells.size<j.cells.size:=Nat.mod_lt _ oW;rw[getElem!_pos j.cells _ B];exact Array.all_eq_true.1 N _ B)
 obtain⟨q1,q2,q3,q4,q5,q6⟩:=iF b _ f W cs te J (by rw[d];exact r);have A:(Builtin.clear_ #[t] o.type #[.slice (some ⟨b,f,none⟩) (g+1) c]).run P W=.ok (.tuple #[]) (W.setCells b f (Builtin.zeroCells j.cells (g+1)).toList):=by
  simp[Builtin.clear_,run_underlying D,Z,F,Result.andThen]
 unfold Oper.wp execOp;simp only[ho,resolve,invoke,builtin,Sem.run_bind,Sem.run_pure,Result.andThen_ok,Z2,R2,Z0,eH I Y,A];exact O _ _ _ _ _ (h _ d) (eL I L) (G.set k b _ _ M q4 q5 q6 q3 q1 q2)
end
def IG(s:cA)(x:Option Operand)(d v:Nat):Prop:=match x with
 |some y=>evS s y=some (.int .i64 (v:Int))
 |none=>v=d
theorem iL{P : Program}{s : cA}{o : Oper}(t e : TypeId)(x : Operand)(r k A : Option Operand)(ho : o.op = .slice t x r k A)(b f d a l h m z F C D : Nat)(X : evS s x = some (.slice (some ⟨b, f, none⟩) d a))
  (g:IG s r 0 l) (u:IG s k d h) (hm:IG s A a m) (V:A.isSome=true->k.isSome=true) (G:l<=h) (E:h<=m) (J:m<=a) (N:h-l=F) (L:m-l=C) (M:(if m=l then f else f+l*z)=D)
  (K:P.underlying t=some (.slice e)) (hs:(P.info? e).map (·.size)=some z) (W:World):(execOp (ev s) o).run P W=.ok (.value (.slice (some ⟨b,D,none⟩) F C)) W:=by
 have Y:=rT hs W;have j:∀(v y:Nat) (c:BoundsCode),v<=y->(Instr.sliceBound (.int .i64 (v:Int)) y c).run P W=.ok v W:=λv y c hv=>by
  simp[Instr.sliceBound,asIntOf,Result.andThen];intro Z;omega
 have key:(Instr.slice t (.slice (some ⟨b,f,none⟩) d a) (r.map (ev s)) (k.map (ev s)) (A.map (ev s))).run P W=.ok (.slice (some ⟨b,D,none⟩) F C) W:=by
  have O:(Instr.sliceBounds true d a (r.map (ev s)) (k.map (ev s)) (A.map (ev s))).run P W=.ok (l,h,m) W:=by
   unfold IG at g u hm;cases A with
   |some mo=>
    cases k with
    |none=>exact absurd (V rfl) (by simp)
    |some I=>
     cases r with
     |some lo'=>simp[Instr.sliceBounds,eM g,eM u,eM hm,j _ _ _ G,j _ _ _ E,j _ _ _ J,Result.andThen]
     |none=>simp only at g;subst g;simp[Instr.sliceBounds,eM u,eM hm,j _ _ _ E,j _ _ _ J,Result.andThen]
   |none=>
    simp only at hm;subst hm;cases k with
    |none=>
     simp only at u;subst u;cases r with
     |some lo'=>simp[Instr.sliceBounds,eM g,j _ _ _ G,Result.andThen]
     |none=>simp only at g;subst g;simp[Instr.sliceBounds,Result.andThen]
    |some I=>
     cases r with
     |some lo'=>simp[Instr.sliceBounds,eM g,eM u,j _ _ _ G,j _ _ _ E,Result.andThen]
     |none=>simp only at g;subst g;simp[Instr.sliceBounds,eM u,j _ _ _ E,Result.andThen]
  simp only[Instr.slice,Sem.run_bind,run_underlying K,Result.andThen_ok,O,Y,Sem.run_pure];subst N L M;split<;>simp[add_mid]
 have B:(Instr.sliceAt t (.slice (some ⟨b,f,none⟩) d a) (r.map (ev s)) (k.map (ev s)) (A.map (ev s))).run P W=.ok (.slice (some ⟨b,D,none⟩) F C) W:=by
  simp only[Instr.sliceAt,Sem.run_bind,run_underlying K,Result.andThen_ok,key]
 unfold execOp;simp only[ho,eM X,Sem.run_bind,B,Result.andThen_ok,Sem.run_pure]
theorem Mem.freezeHead{W0:Cx}{U:View}{a:aH}{W:World}{b:Nat}{cs:List Value}{t:TypeId}(h:Mem W0 U ((b,.cells cs.toArray t (0,0))::a) W):∃V,View.le U V/\V.range b 0 cs/\Mem W0 V a W:=by
 have hs:Mem W0 U a W:=h.sub (bU _ _);obtain⟨g,j,_⟩:=h.own 0 b _ rfl;exact hs.addView g j λk x f d=>by
  have:=h.apart 0 (k+1) (b,.cells cs.toArray t (0,0)) x rfl (by simpa using f) d.symm;cases this
theorem QQ.own{W0:Cx}{V:View}{σ:aH}{W W':World}{e:TypeId}{z m:Nat}{r:List Value}{D:Ending}(g:Mem W0 V σ W)(h:QQ W e z m r D W'):
  ∃v σ',D=.returned v/\Mem W0 V (σ++σ') W'/\∃b c j,v=.slice (some ⟨b,0,none⟩) m c/\σ'=[(b,.cells (r++j).toArray e (0,0))]/\(Rw.row b c j).ok z m r:=by
 obtain⟨b,u,d,rfl,E,B,A,C⟩:=h;refine⟨_,_,rfl,?_,b,u,d,rfl,rfl,C⟩;have f:=g.call E;have hs:Mem W0 V (σ++([]++[])) W':=by simpa using f
 have:=hs.swap (B':=[(b,.cells (r++d).toArray e (0,0))]) f.below (λ_ _ _=>rfl) f.view (.inr ⟨b,_,rfl,A,X0 g.below.size B,λa I=>?_,λk x G J=>?_⟩)
 ·simpa using this
 ·cases F:V a with
  |none=>rfl
  |some v=>have:=oR (g.view a v F);omega
 ·have:=gQ (g.own k x.1 x.2 (by simpa using G)).1;omega
end Go.Proofs.YtkoamlfiijcecaaGreatDoor.Sx
namespace Go.Proofs
open Go.Shelf
def Tryz.lays105_ren:Go.Shelf.Ren:=⟨fun|105=>227|212=>254|99=>255|165=>256|166=>257|170=>258|169=>259|263=>270|264=>271|206=>272|240=>273|241=>274|276=>277|277=>278|n=>n,fun|9=>9|3=>3|4=>4|20=>20|0=>0|46=>211|109=>316|5=>5|72=>321|76=>215|51=>34|146=>334|53=>22|148=>336|70=>319|37=>181|75=>163|127=>338|164=>341|80=>324|n=>n,fun|n=>n⟩
theorem Tryz.lays105 : Go.Proofs.Lays.n105 Tryz.prog Tryz.lays105_ren := {
 mixed:=by kernel_rfl
 f99:=Tryz.func255.trans (congrArg some (by kernel_rfl))
 f105:=Tryz.func227.trans (congrArg some (by kernel_rfl))
 f165:=Tryz.func256.trans (congrArg some (by kernel_rfl))
 f166:=Tryz.func257.trans (congrArg some (by kernel_rfl))
 f169:=Tryz.func259.trans (congrArg some (by kernel_rfl))
 f170:=Tryz.func258.trans (congrArg some (by kernel_rfl))
 f206:=Tryz.func272.trans (congrArg some (by kernel_rfl))
 f212:=Tryz.func254.trans (congrArg some (by kernel_rfl))
 f240:=Tryz.func273.trans (congrArg some (by kernel_rfl))
 f241:=Tryz.func274.trans (congrArg some (by kernel_rfl))
 f263:=Tryz.func270.trans (congrArg some (by kernel_rfl))
 f264:=Tryz.func271.trans (congrArg some (by kernel_rfl))
 f276:=Tryz.func277.trans (congrArg some (by kernel_rfl))
 f277:=Tryz.func278.trans (congrArg some (by kernel_rfl))
 t0:=Tryz.underlying0
 a0:=Tryz.isAgg0
 z0:=Tryz.sizeOf0
 v0:=Tryz.zeroValue0
 t3:=Tryz.underlying3
 a3:=Tryz.isAgg3
 z3:=Tryz.sizeOf3
 v3:=Tryz.zeroValue3
 t4:=Tryz.underlying4
 a4:=Tryz.isAgg4
 z4:=Tryz.sizeOf4
 v4:=Tryz.zeroValue4
 t5:=Tryz.underlying5
 a5:=Tryz.isAgg5
 z5:=Tryz.sizeOf5
 v5:=Tryz.zeroValue5
 t9:=Tryz.underlying9
 a9:=Tryz.isAgg9
 z9:=Tryz.sizeOf9
 v9:=Tryz.zeroValue9
 t20:=Tryz.underlying20
 a20:=Tryz.isAgg20
 z20:=Tryz.sizeOf20
 v20:=Tryz.zeroValue20
 t37:=Tryz.underlying181
 a37:=Tryz.isAgg181
 z37:=Tryz.sizeOf181
 v37:=Tryz.zeroValue181
 t46:=Tryz.underlying211
 a46:=Tryz.isAgg211
 z46:=Tryz.sizeOf211
 v46:=Tryz.zeroValue211
 t51:=Tryz.underlying34
 a51:=Tryz.isAgg34
 z51:=Tryz.sizeOf34
 v51:=Tryz.zeroValue34
 t53:=Tryz.underlying22
 a53:=Tryz.isAgg22
 z53:=Tryz.sizeOf22
 v53:=Tryz.zeroValue22
 t70:=Tryz.underlying319
 a70:=Tryz.isAgg319
 z70:=Tryz.sizeOf319
 v70:=Tryz.zeroValue319
 t72:=Tryz.underlying321
 a72:=Tryz.isAgg321
 z72:=Tryz.sizeOf321
 v72:=Tryz.zeroValue321
 t75:=Tryz.underlying163
 a75:=Tryz.isAgg163
 z75:=Tryz.sizeOf163
 v75:=Tryz.zeroValue163
 t76:=Tryz.underlying215
 a76:=Tryz.isAgg215
 z76:=Tryz.sizeOf215
 v76:=Tryz.zeroValue215
 t109:=Tryz.underlying316
 a109:=Tryz.isAgg316
 z109:=Tryz.sizeOf316
 v109:=Tryz.zeroValue316
 t127:=Tryz.underlying338
 a127:=Tryz.isAgg338
 z127:=Tryz.sizeOf338
 v127:=Tryz.zeroValue338
 t146:=Tryz.underlying334
 a146:=Tryz.isAgg334
 z146:=Tryz.sizeOf334
 v146:=Tryz.zeroValue334
 t148:=Tryz.underlying336
 a148:=Tryz.isAgg336
 z148:=Tryz.sizeOf336
 v148:=Tryz.zeroValue336
 t164:=Tryz.underlying341
 a164:=Tryz.isAgg341
 z164:=Tryz.sizeOf341
 v164:=Tryz.zeroValue341 }
theorem Tryz.Builder_Extra_105 : Builder.Extra Tryz.prog Tryz.lays105_ren := {
 sizeBuilder:=by kernel_rfl
 liesBuilder:=by kernel_rfl
 t5:=Tryz.underlying5
 a5:=Tryz.isAgg5
 z5:=Tryz.sizeOf5
 v5:=Tryz.zeroValue5
 infoByte:=by kernel_rfl
 cellsByte:=by kernel_rfl
 sizeByte:=by kernel_rfl
 neB5:=by decide }
open Go.RowKit Go.Lib in
theorem Tryz.strings_Repeat(s:ByteArray)(c:Nat)(w:World)(d:c<=9223372036854775807)(a:s.size*c<=140737488355328):
  Calls Tryz.prog 227 #[.string s,.int .i64 c] w λe w'=>e=.returned (.string ⟨(Lib.repeatL s.data.toList c).toArray⟩)/\Below w.heap.size w w':=Any.strings_Repeat Tryz.lays105 Tryz.Builder_Extra_105 s c w d a
end Go.Proofs
namespace Go.Proofs.YtkoamlfiijcecaaGreatDoor.Sx
open Go.ChangeShapes Go.WideShapes Go.ChangeAt Go.RowKit Go.Deep
theorem GV{U:View}{w:World}(r:See U w)(b f n c:Nat)(a:List Value)(C:U.range b f a)(A:a.length=n*5)(j:∀u∈a,u.oneCell'=true)(B:0<n)(k:n*64<=140737488355328):
    CP 252 #[.slice (some ⟨b,f,none⟩) n c] w (QQ w 136 5 n a):=by
 refine dC 8 Tryz.func252 r ?_;refine zQ 1 (zn (zs (zQ 1 (cB qF (qY _ _ _ _ rfl (some ⟨b,f,none⟩) n c 136 kR kR kR) ?_))));refine zn (cU (zk (zs (zr (aW (λh=>(zq 1 ?_)))))));refine fK (Rw.row h 0 []) [] 0 [] 136 132 5 64 n kR ⟨rfl,rfl,O9 _,by decide⟩ (.tmp 5) (.tmp 6) rfl kR b f c a kR (λW d=>View.range_of C d.view) A j B (by unfold maxLen;omega) oW kR kR kR kR kR (λD g=>?_);refine zq 1 (zn (aA (aO [2] [(D.V (0+n))] (λE d=>?_))));have:=BR d g oW;simp only[dD];rw[O0,R0]at this;rw[O0];exact this
theorem tI{U:View}{w:World}(r:See U w)(b f n c:Nat)(a:List Value)(C:U.range b f a)(A:a.length=n*5)(j:∀u∈a,u.oneCell'=true)(B:0<n)(k:n*48<=140737488355328):
    CP 56 #[.slice (some ⟨b,f,none⟩) n c] w (QQ w 58 5 n a):=by
 refine dC 8 Tryz.func56 r ?_;refine zQ 1 (zn (zs (zQ 1 (cB qF (qY _ _ _ _ rfl (some ⟨b,f,none⟩) n c 58 kR kR kR) ?_))));refine zn (cU (zk (zs (zr (aW (λh=>(zq 1 ?_)))))));refine fK (Rw.row h 0 []) [] 0 [] 58 27 5 48 n kR ⟨rfl,rfl,O9 _,by decide⟩ (.tmp 5) (.tmp 6) rfl kR b f c a kR (λW d=>View.range_of C d.view) A j B (by unfold maxLen;omega) oW kR kR kR kR kR (λD g=>?_);refine zq 1 (zn (aA (aO [2] [(D.V (0+n))] (λE d=>?_))));have:=BR d g oW;simp only[dD];rw[O0,R0]at this;rw[O0];exact this
theorem GW{U:View}{w:World}(r:See U w)(b f n c:Nat)(a:List Value)(C:U.range b f a)(A:a.length=n*1)(j:∀u∈a,u.oneCell'=true)(B:0<n)(k:n*8<=140737488355328):
    CP 105 #[.slice (some ⟨b,f,none⟩) n c] w (QQ w 3 1 n a):=by
 refine dC 8 Tryz.func105 r ?_;refine zQ 1 (zn (zs (zQ 1 (cB qF (qY _ _ _ _ rfl (some ⟨b,f,none⟩) n c 3 kR kR kR) ?_))));refine zn (cU (zk (zs (zr (aW (λh=>(zq 1 ?_)))))));refine fK (Rw.row h 0 []) [] 0 [] 3 75 1 8 n kR ⟨rfl,rfl,O9 _,by decide⟩ (.tmp 5) (.tmp 6) rfl kR b f c a kR (λW d=>View.range_of C d.view) A j B (by unfold maxLen;omega) oW kR kR kR kR kR (λD g=>?_);refine zq 1 (zn (aA (aO [2] [(D.V (0+n))] (λE d=>?_))));have:=BR d g oW;simp only[dD];rw[O0,R0]at this;rw[O0];exact this
def Z(n:Nat):List UInt8:=List.replicate n 0
theorem BG(n:Nat):(Z n).length=n:=bZ
theorem Qj(c:Nat):Lib.repeatL [0] c=Z c:=by
 unfold Z
 induction c with
 |zero=>rfl
 |succ n ih=>simp[Lib.repeatL,ih,List.replicate_succ]
theorem KX(c:Nat)(w:World)(a:c<=1000):CP 227 #[.string (B [0]),.int .i64 c] w (Ret (.string (B (Z c))) w):=by
 have h:=Tryz.strings_Repeat ⟨#[0]⟩ c w oW (by show 1*c<=_;omega);rw[show(⟨#[0]⟩:ByteArray).data.toList=[0]from rfl,Qj]at h;exact h
theorem fR.ofRow{V:View}{a:Option Addr}{k:List Value}(L:List (Itm.Tr×List Value))(D:BH V a k)(g:k=L.flatMap Prod.snd)(h:iH V L)(l:List Itm.Tr)(C:L.map Prod.fst=l)(d:l.length<=R47):fR V a l:=by
 subst g C;refine⟨λi x j=>?_,d⟩;have f:L.flatMap Prod.snd≠[]:=by
  intro B;have:=h.flat_len;rw[B]at this;cases L with
  |nil=>simp at j
  |cons p r=>simp at this
 obtain⟨b,rfl,hR⟩:=D.at_ f;obtain⟨cs,u,A⟩:=h.get hR i x j;exact⟨b,0,cs,rfl,u,A⟩
def mV(t:Itm.Tr):Value->View->Prop:=λv V=>∃cs,v=.agg cs.toArray/\TV V t cs
def mQ(f:Nat):Bool:=jE .u64 f 1 !=0
def eK(p:Pr)(sum:List UInt8):List Itm.Tr:=
 [Itm.cD 7,Itm.cD p.f,Itm.cD p.c.toNat,p.dst.tree,p.src.tree,p.rpt.tree,Itm.dJ [Itm.cD p.time,Itm.cD p.seq],Itm.cD p.life]++(if mQ p.f then[Itm.cD p.off,Itm.cD p.tot]else[])++(if p.c !=0 then[eN sum]else[])
theorem YT(p:Pr)(d:List UInt8)(w:World){U:View}(hU:See U w)(hp:p.ok)(hs:d.length<=R47)(s6:0<=p.c)(s7:p.c<=2)(hd:aN p.dst=true)(hr:aN p.src=true)(ht:aN p.rpt=true):
    CP 226 #[p.V,.string (B d)] w (fV w U (mV (Itm.dJ (eK p d)))):=by
 have hf:=hp.f;have h1:=hp.time;have h2:=hp.seq;have h3:=hp.life;have h4:=hp.off;have h5:=hp.tot;have o8:IntKind.u64.wrap p.c=(p.c.toNat:Int):=by
  have:=u64_in (x:=p.c) oW oW;omega
 have s8:p.c.toNat<W64:=by unfold W64;omega
 refine dC 76 Tryz.func226 hU ?_;refine zs (zr (aW (λK=>(aW (λb1=>(zn (zB [0,1] [(K,4)] (lU (λW j=>pH p.dst W j.view hp.dst hd) (λv2 V2 A o5=>?_)))))))));obtain⟨r9,rfl,l6⟩:=o5;obtain⟨a2,c2,rfl,r5,u2,u5,s9⟩:=l6.form;refine zq 3 (aW (λb3=>(aX 2 b3 (zq 1 (zn (zB [0,1] [(K,4)] (lU (λW j=>pH p.src W j.view hp.src hr) (λv4 V4 b9 o6=>?_))))))));have k6:=l6.le b9;obtain⟨s0,rfl,l7⟩:=o6;obtain⟨a4,c4,rfl,r6,u3,u6,u0⟩:=l7.form;refine zq 3 (aW (λb7=>(aX 3 b7 (zq 1 (zn (zB [0,1] [(K,4)] (lU (λW j=>pH p.rpt W j.view hp.rpt ht) (λv8 V8 a6 o7=>?_))))))));have o9:=k6.le a6;have p1:=l7.le a6;obtain⟨s3,rfl,l8⟩:=o7;obtain⟨a8,c8,rfl,r7,u4,u7,u1⟩:=l8.form;refine zq 3 (aW (λe7=>(aX 4 e7 (zq 1 (zn (zs ?_))))));refine jX 4 [1,0,3,1,0,3,1,1,5,6,7,0,3,1,0,3,1,1,1,0,3,1] [(K,1),(K,1),(b3,5),(b7,5),(e7,5),(K,1),(K,1),(K,1)] [.val (.agg #[(I6 0),(U6 7),(St []),S0,qF]),.val (iV p.f),.val (N6 p.c.toNat),.val (iV p.c.toNat),.val (iV p.time),.val (iV p.seq),.mem (λv V=>∃g,v=(Sl g 0 2 2)/\fR V (some ⟨g,0,none⟩) [(Itm.cD p.time),(Itm.cD p.seq)]),.mem (λv V=>∃g,v=(.agg #[.int .i64 4,.int .u64 0,.string (B []),.slice (some ⟨g,0,none⟩) 2 2,.bool false])/\fR V (some ⟨g,0,none⟩) [(Itm.cD p.time),(Itm.cD p.seq)]),.val (iV p.life)] (by simp only[O4];refine⟨?_,?_,?_,?_,?_,?_,?_,?_,?_,λ_ h=>by cases h⟩<;>first|trivial|(intro v V V2 A hP;(first|trivial|exact PhiMono.go hP A|(obtain⟨g,e,hP⟩:=hP;exact⟨g,e,hP.le A⟩)))) ⟨?_,?_,?_,?_,?_,?_,?_,?_,?_,trivial⟩ ?_
 ·refine wV 131 (λu=>#[(U6 7)]) λu V X k W hW=>?_
  exact dV _ W
 ·refine wV 131 (λu=>#[(N6 p.f)]) λu V X k W hW=>?_
  exact dV _ W
 ·exact wE (U6 (IntKind.u64.wrap p.c)) (M0 (Value.int .u64) o8)
 ·refine wV 131 (λu=>#[(N6 p.c.toNat)]) λu V X k W hW=>?_
  exact dV _ W
 ·refine wV 131 (λu=>#[(N6 p.time)]) λu V X k W hW=>?_
  exact dV _ W
 ·refine wV 131 (λu=>#[(N6 p.seq)]) λu V X k W hW=>?_
  exact dV _ W
 ·refine wN [43,46] (λu=>[(iV p.time),(iV p.seq)]) λu V X k=>?_
  refine⟨[(I6 0),(N6 p.time),(St []),S0,qF,(I6 0),(N6 p.seq),(St []),S0,qF],136,λr=>(Sl r 0 2 2),?_,λg V' b5 hR=>?_⟩
  ·kernel_rfl
  exact⟨g,rfl,fR.lit [((Itm.cD p.time),(iN p.time)),((Itm.cD p.seq),(iN p.seq))] hR ⟨((TV.num _ p.time (by first|assumption|decide|(unfold W64;omega))).le X).le b5,((TV.num _ p.seq (by first|assumption|decide|(unfold W64;omega))).le X).le b5,trivial⟩ (show 2<=R47 by decide)⟩
 ·refine wM 209 (λu=>#[u 17]) λu V X k W hW=>?_
  have n5:=k 17 kR rfl;obtain⟨o0,q5,q8⟩:=n5;rw[q5];exact Calls.retN hW (eD _ _ _ W) ⟨o0,rfl,q8⟩
 ·refine wV 131 (λu=>#[(N6 p.life)]) λu V X k W hW=>?_
  exact dV _ W
 intro u9 m8 a j5;have p2:=o9.le a;have p3:=p1.le a;have p4:=l8.le a;have p5:=(TV.num _ 7 (by first|assumption|decide|(unfold W64;omega))).le a;have p6:=(TV.num _ p.f (by first|assumption|decide|(unfold W64;omega))).le a;have p7:=(TV.num _ p.c.toNat (by first|assumption|decide|(unfold W64;omega))).le a;have p8:=(TV.num _ p.life (by first|assumption|decide|(unfold W64;omega))).le a;have e0:=j5 18 rfl;obtain⟨N,e1,e2⟩:=e0;let Y3:List Value:=[(I6 4),(U6 0),(St []),(Sl N 0 2 2),qF];let Y1:List Value:=[(I6 0),(U6 7),(St []),S0,qF,(I6 0),(N6 p.f),(St []),S0,qF,(I6 0),(N6 p.c.toNat),(St []),S0,qF,(I6 p.dst.tree.k),(N6 p.dst.tree.n),(St p.dst.tree.s),(.slice a2 p.dst.tree.l.length c2),(.bool p.dst.tree.o),(I6 p.src.tree.k),(N6 p.src.tree.n),(St p.src.tree.s),(.slice a4 p.src.tree.l.length c4),(.bool p.src.tree.o),(I6 p.rpt.tree.k),(N6 p.rpt.tree.n),(St p.rpt.tree.s),(.slice a8 p.rpt.tree.l.length c8),(.bool p.rpt.tree.o),(I6 4),(U6 0),(St []),(Sl N 0 2 2),qF,(I6 0),(N6 p.life),(St []),S0,qF];refine qS 48 e1 ?_;refine aW (λe8=>?_);have D:iH m8 [((Itm.cD 7),[(I6 0),(U6 7),(St []),S0,qF]),((Itm.cD p.f),(iN p.f)),((Itm.cD p.c.toNat),(iN p.c.toNat)),(p.dst.tree,(tC p.dst.tree a2 c2)),(p.src.tree,(tC p.src.tree a4 c4)),(p.rpt.tree,(tC p.rpt.tree a8 c8)),((Itm.dJ [(Itm.cD p.time),(Itm.cD p.seq)]),Y3),((Itm.cD p.life),(iN p.life))]:=⟨p5,p6,p7,p2,p3,p4,(TV.list 2 e2),p8,trivial⟩;let Y2:aH:=[(bK K p.cs 26),(b1,.cells [(I6 0),(U6 0),(St []),S0,qF].toArray 136 (0,0)),(bK b3 (tC p.dst.tree a2 c2) 136),(bK b7 (tC p.src.tree a4 c4) 136),(bK e7 (tC p.rpt.tree a8 c8) 136)]
 refine zq 1 (zn (zs (zB [0,1,0,0] [(K,1)] (zn (iE (jE .u64 (p.f:Int) 1) 0 (λh0 o2=>?_) (λh0 o2=>?_))))))
 ·refine jX 3 [0,0,3,1,0,3,1,1] [(K,1),(K,1)] [.val (iV p.off),.val (iV p.tot),.mem (λv V=>∃g,v=(Sl g 0 2 2)/\fR V (some ⟨g,0,none⟩) [(Itm.cD p.off),(Itm.cD p.tot)])] (by simp only[O4];exact⟨trivial,trivial,by intro v V V2 A hP;(first|trivial|exact PhiMono.go hP A|(obtain⟨g,e,hP⟩:=hP;exact⟨g,e,hP.le A⟩)),λ_ h=>by cases h⟩) ⟨?_,?_,?_,trivial⟩ ?_
  ·refine wV 131 (λu=>#[(N6 p.off)]) λu V X k W hW=>?_
   exact dV _ W
  ·refine wV 131 (λu=>#[(N6 p.tot)]) λu V X k W hW=>?_
   exact dV _ W
  ·refine wN [60,63] (λu=>[(iV p.off),(iV p.tot)]) λu V X k=>?_
   refine⟨[(I6 0),(N6 p.off),(St []),S0,qF,(I6 0),(N6 p.tot),(St []),S0,qF],136,λr=>(Sl r 0 2 2),?_,λg V' b5 hR=>?_⟩
   ·kernel_rfl
   exact⟨g,rfl,fR.lit [((Itm.cD p.off),(iN p.off)),((Itm.cD p.tot),(iN p.tot))] hR ⟨((TV.num _ p.off (by first|assumption|decide|(unfold W64;omega))).le X).le b5,((TV.num _ p.tot (by first|assumption|decide|(unfold W64;omega))).le X).le b5,trivial⟩ (show 2<=R47 by decide)⟩
  intro v7 r8 b8 j6;have m6:=D.le b8;have e9:=j6 7 rfl;obtain⟨h6,j8,j9⟩:=e9;refine qS 64 j8 ?_;obtain⟨q9,r1,a1,n7,b4,O,k4⟩:=j9.open (by simp);cases n7;have k7:a1.length=2:=by rw[<-O1 (f:=Prod.fst),b4];rfl
  refine fK (Rw.row e8 8 []) Y1 8 Y2 136 132 5 64 2 kR ⟨rfl,rfl,O9 _,by decide⟩ (.tmp 57) (.tmp 64) rfl kR h6 0 2 (a1.flatMap Prod.snd) kR (λW j=>View.range_of k4 j.view) (by rw[O.flat_len,k7]) O.one (by decide) (by unfold maxLen;omega) oW kR kR kR kR kR (λq6 e5=>?_);refine zq 1 (zn (zs (zB [0,1,0] [(K,1)] (zn (iE p.c 0 (λh1 s4=>?_) (λh1 _=>?_))))))
  ·refine zr (zq 2 (dN (λW j=>oE d W) ?_));refine gR [(I6 2),(U6 0),(St d),S0,qF] 136 (λr=>(Sl r 0 1 1)) kR kR kR (λo1 m9 Y k9=>?_);have p9:=(TV.str _ d (by first|assumption|decide|(unfold R47;omega))).le Y;have q0:=m6.le Y;have q1:=O.le Y;have l2:fR m9 (some ⟨o1,0,none⟩) [(eN d)]:=fR.lit [((eN d),[(I6 2),(U6 0),(St d),S0,qF])] k9 ⟨p9,trivial⟩ (show 1<=R47 by decide);obtain⟨r0,r2,e6,n8,e4,a7,k5⟩:=l2.open (by simp);cases n8;have k8:e6.length=1:=by rw[<-O1 (f:=Prod.fst),e4];rfl
   refine iW 5 136 132 64 1 1 e5 (λW j=>View.range_of k5 j.view) (by rw[a7.flat_len,k8]) a7.one (by decide) (λq7 l5=>?_);refine zq 1 (zn (zQ 1 ?_));refine sK 74 q7 ((Y1++(a1.flatMap Prod.snd))++(e6.flatMap Prod.snd)) 5 ((8+2)+1) Y2 136 kR l5 kR (λc1 c7 n0 Z l0 r3=>?_);let Y4:Value:=(.agg #[(I6 4),(U6 0),(St []),(.slice c1 ((8+2)+1) c7),qF]);have q2:=q0.le Z;have q3:=q1.le Z;have q4:=a7.le Z;have l3:fR n0 c1 ([(Itm.cD 7),(Itm.cD p.f),(Itm.cD p.c.toNat),p.dst.tree,p.src.tree,p.rpt.tree,(Itm.dJ [(Itm.cD p.time),(Itm.cD p.seq)]),(Itm.cD p.life)]++[(Itm.cD p.off),(Itm.cD p.tot)]++[(eN d)]):=fR.ofRow ([((Itm.cD 7),[(I6 0),(U6 7),(St []),S0,qF]),((Itm.cD p.f),(iN p.f)),((Itm.cD p.c.toNat),(iN p.c.toNat)),(p.dst.tree,(tC p.dst.tree a2 c2)),(p.src.tree,(tC p.src.tree a4 c4)),(p.rpt.tree,(tC p.rpt.tree a8 c8)),((Itm.dJ [(Itm.cD p.time),(Itm.cD p.seq)]),Y3),((Itm.cD p.life),(iN p.life))]++a1++e6) l0 (by first|rfl|(simp only[Q4];rfl)) (iH.app (iH.app q2 q3) q4) _ (by first|rfl|(simp only[P6,b4,e4];rfl)) (show((8+2)+1)<=R47 by decide);refine cY 209 #[(.slice c1 ((8+2)+1) c7)] Y4 (λW j=>eD _ _ _ W) ?_;refine aX 1 b1 (zn (aA (dW [2] [(b1,5)] [Y4] (λW' j=>?_))));exact aJ j (View.le_trans (View.le_trans (View.le_trans (View.le_trans (View.le_trans (View.le_trans A b9) a6) a) b8) Y) Z) ⟨[(I6 4),(U6 0),(St []),(.slice c1 ((8+2)+1) c7),qF],rfl,((TV.list c7 l3)).cast (by simp only[eK,mQ,h0,h1,bs,bQ,reduceIte,M1])⟩
  ·refine zk (zQ 1 ?_);refine sK 74 q6 (Y1++(a1.flatMap Prod.snd)) 5 (8+2) Y2 136 kR e5 kR (λc6 c9 n1 c0 l1 r4=>?_);let Y5:Value:=(.agg #[(I6 4),(U6 0),(St []),(.slice c6 (8+2) c9),qF]);have l9:=m6.le c0;have m0:=O.le c0;have l4:fR n1 c6 ([(Itm.cD 7),(Itm.cD p.f),(Itm.cD p.c.toNat),p.dst.tree,p.src.tree,p.rpt.tree,(Itm.dJ [(Itm.cD p.time),(Itm.cD p.seq)]),(Itm.cD p.life)]++[(Itm.cD p.off),(Itm.cD p.tot)]):=fR.ofRow ([((Itm.cD 7),[(I6 0),(U6 7),(St []),S0,qF]),((Itm.cD p.f),(iN p.f)),((Itm.cD p.c.toNat),(iN p.c.toNat)),(p.dst.tree,(tC p.dst.tree a2 c2)),(p.src.tree,(tC p.src.tree a4 c4)),(p.rpt.tree,(tC p.rpt.tree a8 c8)),((Itm.dJ [(Itm.cD p.time),(Itm.cD p.seq)]),Y3),((Itm.cD p.life),(iN p.life))]++a1) l1 (by first|rfl|(simp only[Q4];rfl)) (iH.app l9 m0) _ (by first|rfl|(simp only[P6,b4];rfl)) (show(8+2)<=R47 by decide);refine cY 209 #[(.slice c6 (8+2) c9)] Y5 (λW j=>eD _ _ _ W) ?_;refine aX 1 b1 (zn (aA (dW [2] [(b1,5)] [Y5] (λW' j=>?_))));exact aJ j (View.le_trans (View.le_trans (View.le_trans (View.le_trans (View.le_trans A b9) a6) a) b8) c0) ⟨[(I6 4),(U6 0),(St []),(.slice c6 (8+2) c9),qF],rfl,((TV.list c9 l4)).cast (by simp only[eK,mQ,h0,h1,bs,bQ,reduceIte,M1])⟩
 ·refine zk (zs (zB [0,1,0] [(K,1)] (zn (iE p.c 0 (λh2 s5=>?_) (λh2 _=>?_)))))
  ·refine zr (zq 2 (dN (λW j=>oE d W) ?_));refine gR [(I6 2),(U6 0),(St d),S0,qF] 136 (λr=>(Sl r 0 1 1)) kR kR kR (λe3 k0 E h9=>?_);have m1:=(TV.str _ d (by first|assumption|decide|(unfold R47;omega))).le E;have m2:=D.le E;have j2:fR k0 (some ⟨e3,0,none⟩) [(eN d)]:=fR.lit [((eN d),[(I6 2),(U6 0),(St d),S0,qF])] h9 ⟨m1,trivial⟩ (show 1<=R47 by decide);obtain⟨n2,n9,G,k3,b2,C,h7⟩:=j2.open (by simp);cases k3;have h8:G.length=1:=by rw[<-O1 (f:=Prod.fst),b2];rfl
   refine fK (Rw.row e8 8 []) Y1 8 Y2 136 132 5 64 1 kR ⟨rfl,rfl,O9 _,by decide⟩ (.tmp 69) (.tmp 72) rfl kR e3 0 1 (G.flatMap Prod.snd) kR (λW j=>View.range_of h7 j.view) (by rw[C.flat_len,h8]) C.one (by decide) (by unfold maxLen;omega) oW kR kR kR kR kR (λm7 j7=>?_);refine zq 1 (zn (zQ 1 ?_));refine sK 74 m7 (Y1++(G.flatMap Prod.snd)) 5 (8+1) Y2 136 kR j7 kR (λI L k1 F j0 o3=>?_);let Y6:Value:=(.agg #[(I6 4),(U6 0),(St []),(.slice I (8+1) L),qF]);have m3:=m2.le F;have m4:=C.le F;have j3:fR k1 I ([(Itm.cD 7),(Itm.cD p.f),(Itm.cD p.c.toNat),p.dst.tree,p.src.tree,p.rpt.tree,(Itm.dJ [(Itm.cD p.time),(Itm.cD p.seq)]),(Itm.cD p.life)]++[(eN d)]):=fR.ofRow ([((Itm.cD 7),[(I6 0),(U6 7),(St []),S0,qF]),((Itm.cD p.f),(iN p.f)),((Itm.cD p.c.toNat),(iN p.c.toNat)),(p.dst.tree,(tC p.dst.tree a2 c2)),(p.src.tree,(tC p.src.tree a4 c4)),(p.rpt.tree,(tC p.rpt.tree a8 c8)),((Itm.dJ [(Itm.cD p.time),(Itm.cD p.seq)]),Y3),((Itm.cD p.life),(iN p.life))]++G) j0 (by first|rfl|(simp only[Q4];rfl)) (iH.app m3 m4) _ (by first|rfl|(simp only[P6,b2];rfl)) (show(8+1)<=R47 by decide);refine cY 209 #[(.slice I (8+1) L)] Y6 (λW j=>eD _ _ _ W) ?_;refine aX 1 b1 (zn (aA (dW [2] [(b1,5)] [Y6] (λW' j=>?_))));exact aJ j (View.le_trans (View.le_trans (View.le_trans (View.le_trans (View.le_trans A b9) a6) a) E) F) ⟨[(I6 4),(U6 0),(St []),(.slice I (8+1) L),qF],rfl,((TV.list L j3)).cast (by simp only[eK,mQ,h0,h2,bs,bQ,reduceIte,M1])⟩
  ·refine zk (zQ 1 ?_);refine sK 74 (Rw.row e8 8 []) Y1 5 8 Y2 136 kR ⟨rfl,rfl,O9 _,by decide⟩ kR (λJ M k2 b6 j1 o4=>?_);let Y7:Value:=(.agg #[(I6 4),(U6 0),(St []),(.slice J 8 M),qF]);have m5:=D.le b6;have j4:fR k2 J ([(Itm.cD 7),(Itm.cD p.f),(Itm.cD p.c.toNat),p.dst.tree,p.src.tree,p.rpt.tree,(Itm.dJ [(Itm.cD p.time),(Itm.cD p.seq)]),(Itm.cD p.life)]):=fR.ofRow ([((Itm.cD 7),[(I6 0),(U6 7),(St []),S0,qF]),((Itm.cD p.f),(iN p.f)),((Itm.cD p.c.toNat),(iN p.c.toNat)),(p.dst.tree,(tC p.dst.tree a2 c2)),(p.src.tree,(tC p.src.tree a4 c4)),(p.rpt.tree,(tC p.rpt.tree a8 c8)),((Itm.dJ [(Itm.cD p.time),(Itm.cD p.seq)]),Y3),((Itm.cD p.life),(iN p.life))]) j1 (by first|rfl|(simp only[Q4];rfl)) m5 _ (by first|rfl|(simp only[P6];rfl)) (show 8<=R47 by decide);refine cY 209 #[(.slice J 8 M)] Y7 (λW j=>eD _ _ _ W) ?_;refine aX 1 b1 (zn (aA (dW [2] [(b1,5)] [Y7] (λW' j=>?_))));exact aJ j (View.le_trans (View.le_trans (View.le_trans (View.le_trans A b9) a6) a) b6) ⟨[(I6 4),(U6 0),(St []),(.slice J 8 M),qF],rfl,((TV.list M j4)).cast (by simp only[eK,mQ,h0,h2,bs,bQ,reduceIte,M1])⟩
theorem ED{V:View}:∀{L:List (Itm.Tr×List Value)},iH V L->∀(i:Nat) (p:Itm.Tr×List Value) (j:List Value),i<L.length->p.2.length=5->cJ (L.flatMap Prod.snd++j) (i*5) p.2=(L.set i p).flatMap Prod.snd++j
 | [],_,i,p,j,f,_=>by simp at f
 |q::r,⟨d,g⟩,0,p,j,_,a=>by
  have h:=d.len5;rw[bI,P9,P9,M6,M6];unfold cJ;rw[bF,O0,a,S6,R0,List.drop_append_of_le_length oW,R6 oW,R0]
 |q::r,⟨d,g⟩,i+1,p,j,f,a=>by
  have h:=d.len5;have k:=ED g i p j (by simpa using f) a;rw[aq,P9,P9,M6,M6,<-k];unfold cJ;rw[a,show(i+1)*5=q.2.length+i*5 by omega,bP,O2 oW,show q.2.length+i*5-q.2.length=i*5 by omega,show q.2.length+i*5+5=q.2.length+(i*5+5) by omega,bN,R6 oW,R0,show q.2.length+(i*5+5)-q.2.length=i*5+5 by omega];simp only[M6]
theorem iH.set{V:View}:∀{L:List (Itm.Tr×List Value)},iH V L->∀(i:Nat) (p:Itm.Tr×List Value),TV V p.1 p.2->iH V (L.set i p)
 | [],_,_,_,_=>trivial
 |_::_,⟨_,a⟩,0,_,d=>⟨d,a⟩
 |_::_,⟨f,a⟩,i+1,p,d=>⟨f,a.set i p d⟩
def NU(k:Int)(l:List Itm.Tr):Itm.Tr:=if k==0 then Itm.dJ l else Itm.dJ (l.set (l.length-1) (eN (lR k (Itm.aG (Itm.dJ l)))))
theorem SU(k:Int)(l:List Itm.Tr)(w:World){U:View}(hU:See U w)(a:Option Addr)(c:Nat)(K:fR U a l)(Y:0<=k)(Z:k<=2)(hr:Itm.aU 8 (Itm.dJ l)=true)(b5:Itm.szT (Itm.dJ l)<=1000000000)(I:l≠[])(b4:l.length<=1000):
    CP 225 #[.int .i64 k,.agg #[.int .i64 4,.int .u64 0,.string (B []),.slice a l.length c,.bool false]] w (fV w U (mV (NU k l))):=by
 have hb:=Itm.cV (Itm.dJ l);have b2:=Ab (Itm.aG (Itm.dJ l)) Y Z;have J:0<l.length:=aj.2 I;have a1:IntKind.i64.wrap ((l.length:Int)-1)=((l.length-1:Nat):Int):=by
  rw[IntWalk.i64_in _ oW];omega
 have G:TV U (Itm.dJ l) [.int .i64 4,.int .u64 0,.string (B []),.slice a l.length c,.bool false]:=TV.list c K;let Y2:Value:=(.agg #[(I6 4),(U6 0),(St []),(.slice a l.length c),qF]);refine dC 30 Tryz.func225 hU ?_;refine zs (zr (aW (λL=>(aW (λE=>(zn (zs (zQ 2 (zn (fC k 0 (λN _=>?_) (λN a6=>?_)))))))))))
 ·refine zB [1] [(L,5)] (aX 1 E (zn (aA (dW [2] [(E,5)] [Y2] (λW' h=>?_)))));exact aJ h (View.le_refl _) ⟨[(I6 4),(U6 0),(St []),(.slice a l.length c),qF],rfl,(G).cast (by simp only[NU,N,bs,bQ,reduceIte,M1])⟩
 ·refine zk (zB [1] [(L,5)] (cY 158 #[Y2] (.tuple #[(St (Itm.aG (Itm.dJ l))),(I6 0)]) (λW h=>pE _ _ h.view G hr (by unfold DK;omega)) ?_));refine zq 5 (zn (zB [0,1] [(L,1)] ?_));obtain⟨r,u,D,rfl,A,d,O⟩:=K.open I;refine LI 252 #[(Sl r u l.length c)] 136 5 l.length (D.flatMap Prod.snd) kR (λW h=>GV h.view r u l.length _ _ O (by rw[d.flat_len,<-O1 (f:=Prod.fst),A]) d.one J oW) kR kR (λg C j3 a7=>?_);let Y3:Value:=(.agg #[(I6 4),(U6 0),(St []),(Sl g 0 l.length C),qF]);refine zq 1 (zn (zQ 4 (dZ 22 (I6 (IntKind.i64.wrap ((l.length:Int)-1))) (L6 (l.length-1)) (M0 (Value.int .i64) a1) ?_)));refine zq 2 (cY 253 #[(I6 k),(St (Itm.aG (Itm.dJ l)))] (St (lR k (Itm.aG (Itm.dJ l)))) (λW h=>WR k _ W (by unfold R47;omega)) ?_);let M:List Value:=[(I6 2),(U6 0),(St (lR k (Itm.aG (Itm.dJ l)))),S0,qF];refine dN (λW h=>oE (lR k (Itm.aG (Itm.dJ l))) W) (cB (.pointer (some ⟨g,0+(l.length-1)*5,none⟩)) (rIx 136 rfl g 0 l.length C (l.length-1) 5) ?_);have a8:D.length=l.length:=by rw[<-O1 (f:=Prod.fst),A]
  refine Rj 2 g (0+(l.length-1)*5) 5 (D.flatMap Prod.snd++j3) 136 136 (.agg #[(I6 2),(U6 0),(St (lR k (Itm.aG (Itm.dJ l)))),S0,qF]) (.tmp 27) (.tmp 26) rfl kR kR kR kR (by rw[L4,d.flat_len];omega) rfl kR ?_;refine eY [(L,.cells [(I6 4),(U6 0),(St []),(Sl r u l.length c),qF].toArray 136 (0,0)),(E,.cells [(I6 0),(U6 0),(St []),S0,qF].toArray 136 (0,0))] [] g (cJ (D.flatMap Prod.snd++j3) (0+(l.length-1)*5) M) 136 kR (λV2 j F=>?_);have k6:=(TV.str _ (lR k (Itm.aG (Itm.dJ l))) (by first|assumption|decide|(unfold R47;omega))).le j;rw[O0,ED d (l.length-1) ((eN (lR k (Itm.aG (Itm.dJ l)))),M) j3 oW rfl]at F;have V:fR V2 (some ⟨g,0,none⟩) (l.set (l.length-1) (eN (lR k (Itm.aG (Itm.dJ l))))):=fR.ofRow (D.set (l.length-1) ((eN (lR k (Itm.aG (Itm.dJ l)))),M)) ⟨λ_=>⟨g,rfl,(gF F).1⟩⟩ rfl ((d.le (by first|exact j|exact View.le_trans ‹_› j)).set _ _ k6) _ (by rw[bk,A]) (by rw[T2];unfold R47;omega);have X:TV V2 (Itm.dJ (l.set (l.length-1) (eN (lR k (Itm.aG (Itm.dJ l)))))) [(I6 4),(U6 0),(St []),(Sl g 0 l.length C),qF]:=by
     have:=TV.list C V;rw[T2]at this;exact this
  refine zn (zQ 1 (cY 209 #[(Sl g 0 l.length C)] Y3 (λW h=>eD _ _ _ W) ?_));refine aX 1 E (zn (aA (dW [2] [(E,5)] [Y3] (λW' h=>?_))));exact aJ h j ⟨[(I6 4),(U6 0),(St []),(Sl g 0 l.length C),qF],rfl,(X).cast (by simp only[NU,N,bs,bQ,reduceIte,M1])⟩
def jQ(x:Int):Bool:=decide (x≥1)&&decide (x<=65535)
theorem QC(x:Int)(w:World):CP 188 #[.int .i64 x] w (Ret (.bool (jQ x)) w):=by
 refine dF 9 Tryz.func188 ?_;refine zQ 1 (zn (zQ 3 (cN 5 (decide (x≥1)) (λa=>?_) (λa=>?_))))
 ·refine zq 4 (zn (aA (aO [2] [(.bool (decide (x<=65535)))] (λf d=>?_))));exact⟨by simp only[dD,jQ,a,bs,bQ,reduceIte],d.below⟩
 ·refine zq 4 (zn (aA (aO [2] [qF] (λf d=>?_))));exact⟨by simp only[dD,jQ,a,bs,bQ,reduceIte],d.below⟩
def cX(b:Bk):Int:=if !jQ b.t|| !jQ b.n||decide ((b.f:Int)>255)||decide (b.c<0)||decide (b.c>2)then 1 else if decide ((b.d.length:Int)>4000)then 4 else if !((b.t==1)==(b.n==1))then 8 else 0
theorem CI(x:Bk)(w:World):CP 138 #[x.V] w (Ret (.int .i64 (cX x)) w):=by
 refine dF 42 Tryz.func138 ?_;refine zs (zr (aW (λf=>(zq 1 (zn (zs (aB (zB [0,1] [(f,1)] (cY 188 #[(I6 x.t)] (.bool (jQ x.t)) (λW a=>QC _ W) ?_)))))))));refine zq 2 (cN 8 (!(jQ x.t)) (λd=>?_) (λd=>?_))
 ·refine zq 21 (zn (dM (zQ 1 (zn (aA (aO [2] [(I6 1)] (λh a=>?_)))))));exact⟨by simp only[dD,cX,d,bs,bQ,reduceIte],a.below⟩
 ·refine cF [0,1] [(f,1)] (cY 188 #[(I6 x.n)] (.bool (jQ x.n)) (λW a=>QC _ W) ?_);refine zq 3 (cN 14 (!(jQ x.n)) (λg=>?_) (λg=>?_))
  ·refine zq 15 (zn (dM (zQ 1 (zn (aA (aO [2] [(I6 1)] (λh a=>?_)))))));exact⟨by simp only[dD,cX,d,g,bs,bQ,reduceIte],a.below⟩
  ·refine cF [0,1,0,0,0] [(f,1)] (cN 19 (decide ((x.f:Int)>255)) (λj=>?_) (λj=>?_))
   ·refine zq 10 (zn (dM (zQ 1 (zn (aA (aO [2] [(I6 1)] (λh a=>?_)))))));exact⟨by simp only[dD,cX,d,g,j,bs,bQ,reduceIte],a.below⟩
   ·refine cF [0,1,0,0,0] [(f,1)] (cN 24 (decide (x.c<0)) (λk=>?_) (λk=>?_))
    ·refine zq 5 (zn (dM (zQ 1 (zn (aA (aO [2] [(I6 1)] (λh a=>?_)))))));exact⟨by simp only[dD,cX,d,g,j,k,bs,bQ,reduceIte],a.below⟩
    ·refine cF [0,1,0,0,0] [(f,1)] (zn (gK (decide (x.c>2)) (λr=>?_) (λr=>?_)))
     ·refine zQ 1 (zn (aA (aO [2] [(I6 1)] (λh a=>?_))));exact⟨by simp only[dD,cX,d,g,j,k,r,bs,bQ,reduceIte],a.below⟩
     ·refine zB [0,1,0,0,0] [(f,1)] (zn (gK (decide ((((x.d).length:Nat):Int)>4000)) (λu=>?_) (λu=>?_)))
      ·refine zQ 1 (zn (aA (aO [2] [(I6 4)] (λh a=>?_))));exact⟨by simp only[dD,cX,d,g,j,k,r,u,bs,bQ,reduceIte],a.below⟩
      ·refine zB [0,1,0,0,1,0,0,0] [(f,1),(f,1)] (zn (gK (!((x.t==1)==(x.n==1))) (λA=>?_) (λA=>?_)))
       ·refine zQ 1 (zn (aA (aO [2] [(I6 8)] (λh a=>?_))));exact⟨by simp only[dD,cX,d,g,j,k,r,u,A,bs,bQ,reduceIte],a.below⟩
       ·refine zk (zQ 1 (zn (aA (aO [2] [(I6 0)] (λh a=>?_)))));exact⟨by simp only[dD,cX,d,g,j,k,r,u,A,bs,bQ,reduceIte],a.below⟩
theorem Mem.peek{W0:Cx}{U:View}{σ:aH}{W:World}(h:Mem W0 U σ W)(k b:Nat)(cs:List Value)(t:TypeId)(D:σ[k]? =some (b,.cells cs.toArray t (0,0))):∃V,View.le U V/\V.range b 0 cs/\∀a v,V a=some v->W.cell? a=some v:=by
 obtain⟨E,_,F⟩:=h.own k b _ D;let C:View:=λa=>if a.block=b/\a.spot=none then cs[a.off]? else none
 refine⟨U.or C,View.le_or _ _,λj v B=>View.or_r ?_ (F _ rfl),λa v f=>?_⟩
 ·show(if b=b/\none=none then cs[0+j]? else none)=some v;rw[N1 ⟨rfl,rfl⟩,O0];exact B
 ·unfold View.or at f;cases r:U a with
  |some u=>rw[r]at f;exact h.view a v (by rw[r];exact f)
  |none=>
   rw[r,Option.none_or]at f;have d:(if a.block=b/\a.spot=none then cs[a.off]? else none)=some v:=f;split at d
   ·next g=>
    have A:a=⟨b,a.off,none⟩:=by
     obtain⟨G,I,J⟩:=a;simp only at g ⊢;rw[g.1,g.2]
    rw[A,cell_of_row _ _ _ _ _ _ E];simpa using d
   ·cases d
def dR(x:Bk)(sum:List UInt8):List Itm.Tr:=[Itm.cD x.t.toNat,Itm.cD x.n.toNat,Itm.cD x.f,Itm.cD x.c.toNat,eN x.d]++(if x.c !=0 then[eN sum]else[])
theorem Tn(x:Bk)(a:List UInt8)(w:World){U:View}(hU:See U w)(hx:x.ok)(hs:a.length<=R47)(ht:jQ x.t=true)(hn:jQ x.n=true)(e1:0<=x.c)(e2:x.c<=2):
    CP 230 #[x.V,.string (B a)] w (fV w U (mV (Itm.dJ (dR x a)))):=by
 have hf:=hx.f;have hd:=hx.d;unfold jQ at ht hn;simp only[L5,N0]at ht hn;have w1:IntKind.u64.wrap x.t=(x.t.toNat:Int):=by have:=u64_in (x:=x.t) oW oW;omega
 have w2:IntKind.u64.wrap x.n=(x.n.toNat:Int):=by have:=u64_in (x:=x.n) oW oW;omega
 have w3:IntKind.u64.wrap x.c=(x.c.toNat:Int):=by have:=u64_in (x:=x.c) oW oW;omega
 have n1:x.t.toNat<W64:=by unfold W64;omega
 have n2:x.n.toNat<W64:=by unfold W64;omega
 have n3:x.c.toNat<W64:=by unfold W64;omega
 refine dC 35 Tryz.func230 hU ?_;refine zs (zr (aW (λK=>(aW (λN=>(zn (zs ?_)))))));refine jX 6 [0,3,1,1,0,3,1,1,0,3,1,0,3,1,1,0,3] [(K,1),(K,1),(K,1),(K,1),(K,1)] [.val (N6 x.t.toNat),.val (iV x.t.toNat),.val (N6 x.n.toNat),.val (iV x.n.toNat),.val (iV x.f),.val (N6 x.c.toNat),.val (iV x.c.toNat)] (by simp only[O4];exact⟨trivial,trivial,trivial,trivial,trivial,trivial,trivial,λ_ h=>by cases h⟩) ⟨?_,?_,?_,?_,?_,?_,?_,trivial⟩ ?_
 ·exact wE (U6 (IntKind.u64.wrap x.t)) (M0 (Value.int .u64) w1)
 ·refine wV 131 (λu=>#[(N6 x.t.toNat)]) λu V hV M W hW=>?_
  exact dV _ W
 ·exact wE (U6 (IntKind.u64.wrap x.n)) (M0 (Value.int .u64) w2)
 ·refine wV 131 (λu=>#[(N6 x.n.toNat)]) λu V hV M W hW=>?_
  exact dV _ W
 ·refine wV 131 (λu=>#[(N6 x.f)]) λu V hV M W hW=>?_
  exact dV _ W
 ·exact wE (U6 (IntKind.u64.wrap x.c)) (M0 (Value.int .u64) w3)
 ·refine wV 131 (λu=>#[(N6 x.c.toNat)]) λu V hV M W hW=>?_
  exact dV _ W
 intro u2 V2 d c9;have k3:=(TV.num _ x.t.toNat (by first|assumption|decide|(unfold W64;omega))).le d;have k4:=(TV.num _ x.n.toNat (by first|assumption|decide|(unfold W64;omega))).le d;have k5:=(TV.num _ x.f (by first|assumption|decide|(unfold W64;omega))).le d;have k6:=(TV.num _ x.c.toNat (by first|assumption|decide|(unfold W64;omega))).le d;refine dN (λW F=>oE x.d W) (aW (λb7=>?_));have G:iH V2 [((Itm.cD x.t.toNat),(iN x.t.toNat)),((Itm.cD x.n.toNat),(iN x.n.toNat)),((Itm.cD x.f),(iN x.f)),((Itm.cD x.c.toNat),(iN x.c.toNat)),((eN x.d),[(I6 2),(U6 0),(St x.d),S0,qF])]:=⟨k3,k4,k5,k6,(TV.str _ x.d (by first|assumption|decide|(unfold R47;omega))),trivial⟩;let Y2:aH:=[(bK K x.cs 58),(N,.cells [(I6 0),(U6 0),(St []),S0,qF].toArray 136 (0,0))];let Y1:List Value:=[(I6 0),(N6 x.t.toNat),(St []),S0,qF,(I6 0),(N6 x.n.toNat),(St []),S0,qF,(I6 0),(N6 x.f),(St []),S0,qF,(I6 0),(N6 x.c.toNat),(St []),S0,qF,(I6 2),(U6 0),(St x.d),S0,qF];refine zq 1 (zn (zs (zB [0,1,0] [(K,1)] (zn (iE x.c 0 (λh0 e0=>?_) (λh0 _=>?_))))))
 ·refine zr (zq 2 (dN (λW F=>oE a W) ?_));refine gR [(I6 2),(U6 0),(St a),S0,qF] 136 (λr=>(Sl r 0 1 1)) kR kR kR (λg8 V8 L b4=>?_);have b6:=(TV.str _ a (by first|assumption|decide|(unfold R47;omega))).le L;have b8:=G.le L;have b5:fR V8 (some ⟨g8,0,none⟩) [(eN a)]:=fR.lit [((eN a),[(I6 2),(U6 0),(St a),S0,qF])] b4 ⟨b6,trivial⟩ (show 1<=R47 by decide);obtain⟨c4,c6,k,b3,I,g,O⟩:=b5.open (by simp);cases b3;have X:k.length=1:=by rw[<-O1 (f:=Prod.fst),I];rfl
  refine fK (Rw.row b7 5 []) Y1 5 Y2 136 132 5 64 1 kR ⟨rfl,rfl,O9 _,by decide⟩ (.tmp 28) (.tmp 31) rfl kR g8 0 1 (k.flatMap Prod.snd) kR (λW F=>View.range_of O F.view) (by rw[g.flat_len,X]) g.one (by decide) (by unfold maxLen;omega) oW kR kR kR kR kR (λc2 a7=>?_);refine zq 1 (zn (zQ 1 ?_));refine sK 33 c2 (Y1++(k.flatMap Prod.snd)) 5 (5+1) Y2 136 kR a7 kR (λA D a8 j Y c7=>?_);let Y3:Value:=(.agg #[(I6 4),(U6 0),(St []),(.slice A (5+1) D),qF]);have b9:=b8.le j;have c0:=g.le j;have a1:fR a8 A ([(Itm.cD x.t.toNat),(Itm.cD x.n.toNat),(Itm.cD x.f),(Itm.cD x.c.toNat),(eN x.d)]++[(eN a)]):=fR.ofRow ([((Itm.cD x.t.toNat),(iN x.t.toNat)),((Itm.cD x.n.toNat),(iN x.n.toNat)),((Itm.cD x.f),(iN x.f)),((Itm.cD x.c.toNat),(iN x.c.toNat)),((eN x.d),[(I6 2),(U6 0),(St x.d),S0,qF])]++k) Y (by first|rfl|(simp only[Q4];rfl)) (iH.app b9 c0) _ (by first|rfl|(simp only[P6,I];rfl)) (show(5+1)<=R47 by decide);refine cY 209 #[(.slice A (5+1) D)] Y3 (λW F=>eD _ _ _ W) ?_;refine aX 1 N (zn (aA (dW [2] [(N,5)] [Y3] (λW' F=>?_))));exact aJ F (View.le_trans (View.le_trans d L) j) ⟨[(I6 4),(U6 0),(St []),(.slice A (5+1) D),qF],rfl,((TV.list D a1)).cast (by simp only[dR,h0,bs,bQ,reduceIte,M1])⟩
 ·refine zk (zQ 1 ?_);refine sK 33 (Rw.row b7 5 []) Y1 5 5 Y2 136 kR ⟨rfl,rfl,O9 _,by decide⟩ kR (λC E b2 J Z c8=>?_);let Y4:Value:=(.agg #[(I6 4),(U6 0),(St []),(.slice C 5 E),qF]);have c1:=G.le J;have a6:fR b2 C ([(Itm.cD x.t.toNat),(Itm.cD x.n.toNat),(Itm.cD x.f),(Itm.cD x.c.toNat),(eN x.d)]):=fR.ofRow ([((Itm.cD x.t.toNat),(iN x.t.toNat)),((Itm.cD x.n.toNat),(iN x.n.toNat)),((Itm.cD x.f),(iN x.f)),((Itm.cD x.c.toNat),(iN x.c.toNat)),((eN x.d),[(I6 2),(U6 0),(St x.d),S0,qF])]) Z (by first|rfl|(simp only[Q4];rfl)) c1 _ (by first|rfl|(simp only[P6];rfl)) (show 5<=R47 by decide);refine cY 209 #[(.slice C 5 E)] Y4 (λW F=>eD _ _ _ W) ?_;refine aX 1 N (zn (aA (dW [2] [(N,5)] [Y4] (λW' F=>?_))));exact aJ F (View.le_trans d J) ⟨[(I6 4),(U6 0),(St []),(.slice C 5 E),qF],rfl,((TV.list E a6)).cast (by simp only[dR,h0,bs,bQ,reduceIte,M1])⟩
def Sd(k:Int)(l:List Itm.Tr):List UInt8:=lR k (Itm.aG (Itm.dJ (l.set (l.length-1) (eN (Z (2*k.toNat))))))
def NT(k:Int)(l:List Itm.Tr):Itm.Tr:=if k==0 then Itm.dJ l else Itm.dJ (l.set (l.length-1) (eN (Sd k l)))
theorem UC(k:Int)(l:List Itm.Tr)(w:World){U:View}(hU:See U w)(a:Option Addr)(c:Nat)(b5:fR U a l)(a6:0<=k)(a7:k<=2)(hr:Itm.aU 8 (Itm.dJ (l.set (l.length-1) (eN (Z (2*k.toNat)))))=true)(c7:Itm.szT (Itm.dJ (l.set (l.length-1) (eN (Z (2*k.toNat)))))<=1000000000)(b2:l≠[])(c6:l.length<=1000):
    CP 229 #[.int .i64 k,.agg #[.int .i64 4,.int .u64 0,.string (B []),.slice a l.length c,.bool false]] w (fV w U (mV (NT k l))):=by
 have hb:=Itm.cV (Itm.dJ (l.set (l.length-1) (eN (Z (2*k.toNat)))));let r:List Value:=[(I6 2),(U6 0),(St (Z (2*k.toNat))),S0,qF];have c4:=Ab (Itm.aG (Itm.dJ (l.set (l.length-1) (eN (Z (2*k.toNat)))))) a6 a7;have c8:=BG (2*k.toNat);have b4:0<l.length:=aj.2 b2;have a8:2*k=((2*k.toNat:Nat):Int):=by omega
 have b6:IntKind.i64.wrap ((l.length:Int)-1)=((l.length-1:Nat):Int):=by
  rw[IntWalk.i64_in _ oW];omega
 have c0:TV U (Itm.dJ l) [.int .i64 4,.int .u64 0,.string (B []),.slice a l.length c,.bool false]:=TV.list c b5;refine dC 40 Tryz.func229 hU ?_;refine zs (zr (aW (λJ=>(aW (λF=>(zn (zs (zQ 2 (zn (fC k 0 (λh0 _=>?_) (λh0 c1=>?_)))))))))))
 ·refine zB [1] [(J,5)] (aX 1 F (zn (aA (dW [2] [(F,5)] [(.agg #[(I6 4),(U6 0),(St []),(.slice a l.length c),qF])] (λW' u=>?_)))));exact aJ u (View.le_refl _) ⟨[(I6 4),(U6 0),(St []),(.slice a l.length c),qF],rfl,(c0).cast (by simp only[NT,Sd,h0,bs,bQ,reduceIte,M1])⟩
 ·refine zk (zB [0,1] [(J,1)] ?_);obtain⟨K,L,g,rfl,G,C,b7⟩:=b5.open b2;refine LI 252 #[(Sl K L l.length c)] 136 5 l.length (g.flatMap Prod.snd) kR (λW u=>GV u.view K L l.length _ _ b7 (by rw[C.flat_len,<-O1 (f:=Prod.fst),G]) C.one b4 oW) kR kR (λj I A c2=>?_);let Y4:Value:=(.agg #[(I6 4),(U6 0),(St []),(Sl j 0 l.length I),qF]);let N:List Value:=[(I6 4),(U6 0),(St []),(Sl K L l.length c),qF];refine zq 1 (zn (zQ 4 (dZ 17 (I6 (IntKind.i64.wrap ((l.length:Int)-1))) (I6 ((l.length-1:Nat):Int)) (M0 (Value.int .i64) b6) ?_)));refine zq 1 (cY 228 #[(I6 k)] (I6 ((2*k.toNat:Nat):Int)) (λW u=>(a8▸QD k W a6 a7)) ?_);refine dN (λW u=>KX (2*k.toNat) W oW) (dN (λW u=>oE (Z (2*k.toNat)) W) (cB (.pointer (some ⟨j,0+(l.length-1)*5,none⟩)) (rIx 136 rfl j 0 l.length I (l.length-1) 5) ?_));have X:g.length=l.length:=by rw[<-O1 (f:=Prod.fst),G]
  refine Rj 2 j (0+(l.length-1)*5) 5 (g.flatMap Prod.snd++A) 136 136 (.agg #[(I6 2),(U6 0),(St (Z (2*k.toNat))),S0,qF]) (.tmp 22) (.tmp 21) rfl kR kR kR kR (by rw[L4,C.flat_len,X];omega) rfl kR ?_;have O:cJ (g.flatMap Prod.snd++A) (0+(l.length-1)*5) r=(g.set (l.length-1) ((eN (Z (2*k.toNat))),r)).flatMap Prod.snd++A:=by rw[O0,ED C (l.length-1) ((eN (Z (2*k.toNat))),r) A oW rfl]
  refine qV _ [(J,.cells N.toArray 136 (0,0)),(F,.cells [(I6 0),(U6 0),(St []),S0,qF].toArray 136 (0,0)),(j,.cells ((g.set (l.length-1) ((eN (Z (2*k.toNat))),r)).flatMap Prod.snd++A).toArray 136 (0,0))] (λW h=>h.eqv ((show _=([(J,.cells N.toArray 136 (0,0)),(F,.cells [(I6 0),(U6 0),(St []),S0,qF].toArray 136 (0,0)),(j,.cells (cJ (g.flatMap Prod.snd++A) (0+(l.length-1)*5) r).toArray 136 (0,0))]:aH)from by kernel_rfl).trans (by rw[O]))) ?_;have d:=C.set (l.length-1) ((eN (Z (2*k.toNat))),r) (TV.str _ (Z (2*k.toNat)) (by first|assumption|decide|(unfold R47;omega)));have D:(g.set (l.length-1) ((eN (Z (2*k.toNat))),r)).length=l.length:=by rw[T2,X]
  refine zn (zQ 1 (cY 209 #[(Sl j 0 l.length I)] Y4 (λW u=>eD _ _ _ W) ?_));refine cY 158 #[Y4] (.tuple #[(St (Itm.aG (Itm.dJ (l.set (l.length-1) (eN (Z (2*k.toNat))))))),(I6 0)]) (λW u=>(by obtain⟨V9,v1,v2,v3⟩:=u.peek 2 j ((g.set (l.length-1) ((eN (Z (2*k.toNat))),r)).flatMap Prod.snd++A) 136 kR;have ht:=TV.list I (fR.ofRow (g.set (l.length-1) ((eN (Z (2*k.toNat))),r)) ⟨λ_=>⟨j,rfl,(gF v2).1⟩⟩ rfl (d.le v1) (l.set (l.length-1) (eN (Z (2*k.toNat)))) (by rw[bk,G]) (by rw[T2];unfold R47;omega));rw[T2]at ht;exact pE _ _ v3 ht hr (by unfold DK;omega))) ?_;refine zq 5 (zn (zQ 4 (dZ 32 (I6 (IntKind.i64.wrap ((l.length:Int)-1))) (I6 ((l.length-1:Nat):Int)) (M0 (Value.int .i64) b6) ?_)));refine zq 2 (cY 253 #[(I6 k),(St (Itm.aG (Itm.dJ (l.set (l.length-1) (eN (Z (2*k.toNat)))))))] (St (lR k (Itm.aG (Itm.dJ (l.set (l.length-1) (eN (Z (2*k.toNat)))))))) (λW u=>WR k _ W (by unfold R47;omega)) ?_);let E:List Value:=[(I6 2),(U6 0),(St (lR k (Itm.aG (Itm.dJ (l.set (l.length-1) (eN (Z (2*k.toNat)))))))),S0,qF];refine dN (λW u=>oE (lR k (Itm.aG (Itm.dJ (l.set (l.length-1) (eN (Z (2*k.toNat))))))) W) (cB (.pointer (some ⟨j,0+(l.length-1)*5,none⟩)) (rIx 136 rfl j 0 l.length I (l.length-1) 5) ?_);refine Rj 2 j (0+(l.length-1)*5) 5 ((g.set (l.length-1) ((eN (Z (2*k.toNat))),r)).flatMap Prod.snd++A) 136 136 (.agg #[(I6 2),(U6 0),(St (lR k (Itm.aG (Itm.dJ (l.set (l.length-1) (eN (Z (2*k.toNat)))))))),S0,qF]) (.tmp 37) (.tmp 36) rfl kR kR kR kR (by rw[L4,d.flat_len,D];omega) rfl kR ?_;have V:cJ ((g.set (l.length-1) ((eN (Z (2*k.toNat))),r)).flatMap Prod.snd++A) (0+(l.length-1)*5) E=((g.set (l.length-1) ((eN (Z (2*k.toNat))),r)).set (l.length-1) ((eN (lR k (Itm.aG (Itm.dJ (l.set (l.length-1) (eN (Z (2*k.toNat)))))))),E)).flatMap Prod.snd++A:=by rw[O0,ED d (l.length-1) ((eN (lR k (Itm.aG (Itm.dJ (l.set (l.length-1) (eN (Z (2*k.toNat)))))))),E) A oW rfl]
  refine qV _ [(J,.cells N.toArray 136 (0,0)),(F,.cells [(I6 0),(U6 0),(St []),S0,qF].toArray 136 (0,0)),(j,.cells (((g.set (l.length-1) ((eN (Z (2*k.toNat))),r)).set (l.length-1) ((eN (lR k (Itm.aG (Itm.dJ (l.set (l.length-1) (eN (Z (2*k.toNat)))))))),E)).flatMap Prod.snd++A).toArray 136 (0,0))] (λW h=>h.eqv ((show _=([(J,.cells N.toArray 136 (0,0)),(F,.cells [(I6 0),(U6 0),(St []),S0,qF].toArray 136 (0,0)),(j,.cells (cJ ((g.set (l.length-1) ((eN (Z (2*k.toNat))),r)).flatMap Prod.snd++A) (0+(l.length-1)*5) E).toArray 136 (0,0))]:aH)from by kernel_rfl).trans (by rw[V]))) ?_;have M:=d.set (l.length-1) ((eN (lR k (Itm.aG (Itm.dJ (l.set (l.length-1) (eN (Z (2*k.toNat)))))))),E) (TV.str _ (lR k (Itm.aG (Itm.dJ (l.set (l.length-1) (eN (Z (2*k.toNat))))))) (by first|assumption|decide|(unfold R47;omega)));have b8:((g.set (l.length-1) ((eN (Z (2*k.toNat))),r)).set (l.length-1) ((eN (lR k (Itm.aG (Itm.dJ (l.set (l.length-1) (eN (Z (2*k.toNat)))))))),E)).length=l.length:=by rw[T2,D]
  refine zn (zQ 1 ?_);refine eY [(J,.cells N.toArray 136 (0,0)),(F,.cells [(I6 0),(U6 0),(St []),S0,qF].toArray 136 (0,0))] [] j (((g.set (l.length-1) ((eN (Z (2*k.toNat))),r)).set (l.length-1) ((eN (lR k (Itm.aG (Itm.dJ (l.set (l.length-1) (eN (Z (2*k.toNat)))))))),E)).flatMap Prod.snd++A) 136 kR (λV2 Y b9=>?_);have a1:=TV.list I (fR.ofRow ((g.set (l.length-1) ((eN (Z (2*k.toNat))),r)).set (l.length-1) ((eN (lR k (Itm.aG (Itm.dJ (l.set (l.length-1) (eN (Z (2*k.toNat)))))))),E)) ⟨λ_=>⟨j,rfl,(gF b9).1⟩⟩ rfl (M.le Y) (l.set (l.length-1) (eN (lR k (Itm.aG (Itm.dJ (l.set (l.length-1) (eN (Z (2*k.toNat))))))))) (by rw[bk,bk,G,List.set_set]) (by rw[T2];unfold R47;omega));rw[T2]at a1;refine cY 209 #[(Sl j 0 l.length I)] Y4 (λW u=>eD _ _ _ W) ?_;refine aX 1 F (zn (aA (dW [2] [(F,5)] [Y4] (λW' u=>?_))));exact aJ u Y ⟨[(I6 4),(U6 0),(St []),(Sl j 0 l.length I),qF],rfl,(a1).cast (by simp only[NT,Sd,h0,bs,bQ,reduceIte,M1])⟩
theorem Eh{e:Ei}(h:aN e=true):e.l.length<=60:=by
 unfold aN Eid.gW at h;split at h
 ·rw[L5]at h;by_cases a:e.l.length<=60
  ·exact a
  ·have:=Eid.FV e.l oW;rw[this]at h;cases h.2
 ·split at h
  ·rw[N0]at h;rw[h.1];exact M8 _
  ·cases h
theorem iX(e:Ei)(d:Nat):Itm.aU (d+3) e.tree=true:=by
 unfold Ei.tree;split
 ·simp[Itm.aU,Itm.dJ,Itm.cD,Itm.okN,Itm.Tr.k,Itm.Tr.n,Itm.Tr.s,Itm.Tr.l,Itm.Tr.o]
 ·split
  ·simp[Itm.aU,Itm.dJ,Itm.cD,Itm.okN,Itm.Tr.k,Itm.Tr.n,Itm.Tr.s,Itm.Tr.l,Itm.Tr.o]
  ·simp[Itm.aU,Itm.dJ,Itm.cD,XI,Itm.okN,Itm.Tr.k,Itm.Tr.n,Itm.Tr.s,Itm.Tr.l,Itm.Tr.o]
theorem gH{e:Ei}(h:aN e=true):Itm.szT e.tree<=70:=by
 have:=Eh h;unfold Ei.tree;split
 ·simp[Itm.szT,Itm.szL,Itm.dJ,Itm.cD]
 ·split
  ·simp[Itm.szT,Itm.szL,Itm.dJ,Itm.cD]
  ·simp[Itm.szT,Itm.szL,Itm.dJ,Itm.cD,XI];omega
theorem AO(n d:Nat):Itm.aU (d+1) (Itm.cD n)=true:=by simp[Itm.aU,Itm.cD,Itm.okN,Itm.Tr.k,Itm.Tr.n,Itm.Tr.s,Itm.Tr.l,Itm.Tr.o]
theorem oU(l:List UInt8)(d:Nat):Itm.aU (d+1) (eN l)=true:=by simp[Itm.aU,eN,Itm.okN,Itm.Tr.k,Itm.Tr.n,Itm.Tr.s,Itm.Tr.l,Itm.Tr.o]
theorem pM{l:List Itm.Tr}{d:Nat}(h:l.all (Itm.aU d)=true)(a:l.length<=1000):Itm.aU (d+1) (Itm.dJ l)=true:=by simp[Itm.aU,Itm.dJ,Itm.okN,Itm.Tr.k,Itm.Tr.n,Itm.Tr.s,Itm.Tr.l,Itm.Tr.o,a];simpa using h
theorem AK(p:Pr)(s:List UInt8):Itm.aU 8 (Itm.dJ (eK p s))=true:=by
 refine pM ?_ ?_
 ·unfold eK;simp only[bC,W4,List.all_nil,AO,iX p.dst 4,iX p.src 4,iX p.rpt 4,ak,R9,L5];refine⟨⟨pM (by simp[AO]) (by simp),?_⟩,?_⟩
  ·split<;>simp[AO]
  ·split<;>simp[oU]
 ·unfold eK;simp only[L4,M9,O8];split<;>split<;>simp
theorem Ym(a b:List Itm.Tr):Itm.szL (a++b)=Itm.szL a+Itm.szL b:=Itm.rS a b
theorem BT{p:Pr}(s:List UInt8)(k:aN p.dst=true)(hs:aN p.src=true)(r:aN p.rpt=true):Itm.szT (Itm.dJ (eK p s))<=300+s.length:=by
 have u:=gH k;have A:=gH hs;have B:=gH r;rw[Itm.dJ,Itm.szT];unfold eK;simp only[Ym];have d:∀n,Itm.szT (Itm.cD n)=1:=λn=>by simp[Itm.szT,Itm.cD,Itm.szL]
 have h:Itm.szT (eN s)=1+s.length:=by simp[Itm.szT,eN,Itm.szL]
 have j:∀a b,Itm.szT (Itm.dJ [Itm.cD a,Itm.cD b])=3:=λa b=>by simp[Itm.szT,Itm.dJ,Itm.cD,Itm.szL]
 have f:Itm.szL (if mQ p.f then[Itm.cD p.off,Itm.cD p.tot]else[])<=2:=by split<;>simp[Itm.szL,d]
 have g:Itm.szL (if p.c !=0 then[eN s]else[])<=1+s.length:=by split<;>simp[Itm.szL,h]
 simp only[Itm.szL,d,j,O8]at f g ⊢;omega
theorem FG(p:Pr)(s:List UInt8):eK p s≠[]/\(eK p s).length<=1000:=by
 unfold eK;refine⟨by simp,?_⟩;simp only[L4,M9,O8];split<;>split<;>simp
def prZ(p:Pr):List Itm.Tr:=eK p (Z (2*p.c.toNat))
def Pr.tree(p:Pr):Itm.Tr:=NU p.c (prZ p)
theorem jJ{p:Pr}(h:cK p=0):dU p=true:=by
 unfold cK at h;cases a:dU p with
 |true=>rfl
 |false=>rw[a]at h;simp at h
theorem oN{p:Pr}(h:dU p=true):aN p.dst=true/\aN p.src=true/\aN p.rpt=true/\0<=p.c/\p.c<=2:=by
 unfold dU at h;simp only[L5,N0]at h;obtain⟨⟨⟨⟨⟨⟨_,a⟩,d⟩,f⟩,g⟩,j⟩,_⟩:=h;exact⟨a,d,f,g,j⟩
theorem XM{k:Int}{l:List Itm.Tr}(h:Itm.aU 8 (Itm.dJ l)=true):Itm.aU 8 (NU k l)=true:=by
 unfold NU;split
 ·exact h
 ·have a:=h;unfold Itm.aU at a;simp only[Itm.dJ,Itm.Tr.l,Itm.Tr.k,Itm.Tr.n,Itm.Tr.s,Itm.Tr.o,L5]at a;refine pM (M7.2 λx d=>?_) ?_
  ·rcases bL d with d|rfl
   ·exact M7.1 a.2 x d
   ·exact oU _ 6
  ·rw[T2];have:=a.1;simp[Itm.okN]at this;exact this
theorem Yn(l:List Itm.Tr)(i:Nat)(x:Itm.Tr):Itm.szL (l.set i x)<=Itm.szL l+Itm.szT x:=by
 induction l generalizing i with
 |nil=>simp[Itm.szL]
 |cons y l ih=>
  cases i with
  |zero=>rw[bI,Itm.szL,Itm.szL];omega
  |succ i=>
   have:=ih i;rw[aq,Itm.szL,Itm.szL];omega
theorem Xz{k:Int}{l:List Itm.Tr}(a:0<=k)(d:k<=2):Itm.szT (NU k l)<=Itm.szT (Itm.dJ l)+5:=by
 have g:=Ab (Itm.aG (Itm.dJ l)) a d;unfold NU;split
 ·omega
 ·have:=Yn l (l.length-1) (eN (lR k (Itm.aG (Itm.dJ l))));have f:Itm.szT (eN (lR k (Itm.aG (Itm.dJ l))))=1+(lR k (Itm.aG (Itm.dJ l))).length:=by simp[Itm.szT,eN,Itm.szL]
  simp only[Itm.dJ,Itm.szT]at *;omega
theorem Pq(p:Pr)(w:World){U:View}(hU:See U w)(hp:p.ok)(h:(cK p !=0)=false):CP 189 #[p.V] w (fV w U (Su p.tree 0)):=by
 have a6:cK p=0:=by simpa using h
 obtain⟨hd,hs,hr,f,j⟩:=oN (jJ a6);have E:2*p.c=((2*p.c.toNat:Nat):Int):=by omega
 have Y:(if(0:Int)>((2*p.c.toNat:Nat):Int)then(0:Int)else((2*p.c.toNat:Nat):Int))=((2*p.c.toNat:Nat):Int):=M5 oW;have b7:=BG (2*p.c.toNat);have b6:=BT (p:=p) (Z (2*p.c.toNat)) hd hs hr;refine dC 21 Tryz.func189 hU ?_;refine zs (zr (aW (λI=>(aW (λb1=>(zq 1 (zn (zs (zB [1] [(I,19)] (dN (λW J=>BU p W hp) (zq 1 (zn (zQ 2 (zn (dY ((cK p) !=0) h ?_)))))))))))))));refine zk (zs ?_);refine jX 4 [0,3,3,0,3,1,1,1,1] [(I,1),(I,19),(I,1)] [.val (I6 ((2*p.c.toNat:Nat):Int)),.val (I6 ((2*p.c.toNat:Nat):Int)),.val (St (Z (2*p.c.toNat))),.mem (mV (Itm.dJ (prZ p)))] (by simp only[O4];exact⟨trivial,trivial,trivial,by intro v V V2 a K;(first|trivial|exact PhiMono.go K a|(obtain⟨g,e,K⟩:=K;exact⟨g,e,K.le a⟩)),λ_ h=>by cases h⟩) ⟨?_,?_,?_,?_,trivial⟩ ?_
 ·refine wV 228 (λu=>#[(I6 p.c)]) λu V hV C W O=>?_
  exact(E▸QD p.c W f j)
 ·exact wE (I6 (if 0>((2*p.c.toNat:Nat):Int)then 0 else((2*p.c.toNat:Nat):Int))) (M0 (Value.int .i64) Y)
 ·refine wV 227 (λu=>#[(St [0]),(I6 ((2*p.c.toNat:Nat):Int))]) λu V hV C W O=>?_
  exact KX (2*p.c.toNat) W oW
 ·refine wM 226 (λu=>#[(p.V),(St (Z (2*p.c.toNat)))]) λu V hV C W O=>?_
  exact YT p _ W O hp (by unfold R47;omega) f j hd hs hr
 intro u2 V2 a D;have B:=D 8 rfl;obtain⟨L,G,k⟩:=B;obtain⟨r,A,rfl,d,a1,a7,X⟩:=k.form;refine qS 19 G ?_;refine oI 225 #[(I6 p.c),(.agg #[(I6 4),(U6 0),(St []),(.slice r (prZ p).length A),qF])] (mV (NU p.c (prZ p))) (λW J=>SU p.c (prZ p) W J.view _ _ d f j (AK p _) (by unfold prZ;omega) (FG p _).1 (FG p _).2) (λv3 V3 N M=>?_);obtain⟨b2,rfl,F⟩:=M;obtain⟨a3,c3,rfl,a8,b4,b5,b3⟩:=F.form;refine aX 1 b1 (zq 1 (zn (aA (dW [2,0] [(b1,5)] [(tV (NU p.c (prZ p)) a3 c3),(I6 0)] (λW' J=>?_)))));exact aJ J (View.le_trans a N) ⟨(tC (NU p.c (prZ p)) a3 c3),rfl,F⟩
def fE(p:Pr):List UInt8:=Itm.aG p.tree
theorem JR(p:Pr)(w:World)(L:p.ok)(h:cK p=0):CP 143 #[p.V] w (Ret (.tuple #[.string (B (fE p)),.int .i64 0]) w):=by
 have F:(cK p !=0)=false:=by simp[h]
 obtain⟨I,hs,M,g,j⟩:=oN (jJ h);have V:=BG (2*p.c.toNat);have O:=BT (p:=p) (Z (2*p.c.toNat)) I hs M;have r:=Xz (l:=prZ p) g j;refine dF 18 Tryz.func143 ?_;refine zs (zr (aW (λC=>(zq 2 (zn (zB [1] [(C,19)] (lU (λW a=>Pq p W a.view L F) (λv1 X G f=>?_))))))));obtain⟨E,rfl,d⟩:=f;obtain⟨A,D,rfl,u,K,N,J⟩:=d.form;refine zq 3 (aW (λk=>(aX 1 k (zq 1 (zn (zs (zQ 2 (zn (cU (zk (zB [2] [(k,5)] (cY 158 #[(tV p.tree A D)] (.tuple #[(St (Itm.aG p.tree)),(I6 0)]) (λW a=>pE _ _ a.view d (XM (AK p _)) (by unfold Pr.tree prZ DK at *;omega)) ?_))))))))))));refine zq 4 (zn (aA (aO [2,3] [(St (Itm.aG p.tree)),(I6 0)] (λY a=>?_))));exact⟨rfl,a.below⟩
def Pr.bare(p:Pr):Pr:=⟨p.f,0,p.dst,p.src,p.rpt,p.time,p.seq,p.life,p.off,p.tot⟩
theorem Zv{p:Pr}(h:cK p=0):cK p.bare=0:=by
 have a:=jJ h;have r:dU p.bare=true:=by
  have e:dU p.bare=(dU ⟨p.f,0,p.dst,p.src,p.rpt,p.time,p.seq,p.life,p.off,p.tot⟩):=rfl;rw[e];simp only[dU,L5,N0]at a ⊢;obtain⟨⟨⟨⟨⟨⟨d,f⟩,g⟩,j⟩,u⟩,A⟩,k⟩:=a;exact⟨⟨⟨⟨⟨⟨d,f⟩,g⟩,j⟩,Int.le_refl 0⟩,by omega⟩,k⟩
 unfold cK at h ⊢;rw[a]at h;rw[r];exact h
theorem If{p:Pr}(h:p.ok):p.bare.ok:=⟨h.f,h.dst,h.src,h.rpt,h.time,h.seq,h.life,h.off,h.tot⟩
theorem YS(p:Pr)(w:World)(f:p.ok)(h:cK p=0):CP 247 #[p.V] w (Ret (.tuple #[.string (B (fE p.bare)),.int .i64 0]) w):=by
 have g:(cK p !=0)=false:=by simp[h]
 refine dF 15 Tryz.func247 ?_;refine zs (zr (aW (λa=>(zq 2 (zn (zs (zB [1] [(a,19)] (dN (λW d=>BU p W f) (zq 1 (zn (zQ 2 (zn (dY ((cK p) !=0) g ?_)))))))))))));refine zk (zQ 1 (aX 0 a (zn (zB [1] [(a,19)] (dN (λW d=>JR p.bare W (If f) (Zv h)) (zq 4 (zn (aA (aO [2,3] [(St (fE p.bare)),(I6 0)] (λj d=>?_))))))))));exact⟨rfl,d.below⟩
theorem iG{x:Bk}(h:cX x=0):jQ x.t=true/\jQ x.n=true/\0<=x.c/\x.c<=2/\x.f<=255/\x.d.length<=4000:=by
 unfold cX at h;split at h
 ·cases h
 ·next a=>
  split at h
  ·cases h
  ·next d=>
   simp only[T1,P1,N0,not_or,Bool.not_eq_false]at a d;exact⟨a.1.1.1.1,a.1.1.1.2,by omega,by omega,by omega,by omega⟩
theorem BC(x:Bk)(s:List UInt8):Itm.aU 8 (Itm.dJ (dR x s))=true:=by
 refine pM ?_ ?_
 ·unfold dR;simp only[bC,W4,List.all_nil,AO,oU,ak,R9];split<;>simp[oU]
 ·unfold dR;simp only[L4,M9,O8];split<;>simp
theorem CH(x:Bk)(s:List UInt8):Itm.szT (Itm.dJ (dR x s))<=10+x.d.length+s.length:=by
 rw[Itm.dJ,Itm.szT];unfold dR;simp only[Ym];have f:∀n,Itm.szT (Itm.cD n)=1:=λn=>by simp[Itm.szT,Itm.cD,Itm.szL]
 have a:∀t,Itm.szT (eN t)=1+t.length:=λt=>by simp[Itm.szT,eN,Itm.szL]
 have d:Itm.szL (if x.c !=0 then[eN s]else[])<=1+s.length:=by split<;>simp[Itm.szL,a]
 simp only[Itm.szL,f,a,O8]at d ⊢;omega
theorem HG(x:Bk)(s:List UInt8):dR x s≠[]/\(dR x s).length<=1000:=by
 unfold dR;refine⟨by simp,?_⟩;simp only[L4,M9,O8];split<;>simp
def Bk.tree(x:Bk):Itm.Tr:=NT x.c (dR x [])
theorem XL{k:Int}{l:List Itm.Tr}(h:Itm.aU 8 (Itm.dJ l)=true):Itm.aU 8 (NT k l)=true:=by
 unfold NT;split
 ·exact h
 ·have a:=h;unfold Itm.aU at a;simp only[Itm.dJ,Itm.Tr.l,Itm.Tr.k,Itm.Tr.n,Itm.Tr.s,Itm.Tr.o,L5]at a;refine pM (M7.2 λx d=>?_) ?_
  ·rcases bL d with d|rfl
   ·exact M7.1 a.2 x d
   ·exact oU _ 6
  ·rw[T2];have:=a.1;simp[Itm.okN]at this;exact this
theorem Bc{l:List Itm.Tr}(s:List UInt8)(i:Nat)(h:Itm.aU 8 (Itm.dJ l)=true):Itm.aU 8 (Itm.dJ (l.set i (eN s)))=true:=by
 have a:=h;unfold Itm.aU at a;simp only[Itm.dJ,Itm.Tr.l,Itm.Tr.k,Itm.Tr.n,Itm.Tr.s,Itm.Tr.o,L5]at a;refine pM (M7.2 λx d=>?_) ?_
 ·rcases bL d with d|rfl
  ·exact M7.1 a.2 x d
  ·exact oU _ 6
 ·rw[T2];have:=a.1;simp[Itm.okN]at this;exact this
theorem Bv{l:List Itm.Tr}(s:List UInt8)(i:Nat):Itm.szT (Itm.dJ (l.set i (eN s)))<=Itm.szT (Itm.dJ l)+1+s.length:=by
 have:=Yn l i (eN s);have a:Itm.szT (eN s)=1+s.length:=by simp[Itm.szT,eN,Itm.szL]
 simp only[Itm.dJ,Itm.szT]at *;omega
theorem Ya{k:Int}{l:List Itm.Tr}(a:0<=k)(d:k<=2):Itm.szT (NT k l)<=Itm.szT (Itm.dJ l)+5:=by
 have f:=Ab (Itm.aG (Itm.dJ (l.set (l.length-1) (eN (Z (2*k.toNat)))))) a d;unfold NT Sd;split
 ·omega
 ·have:=Bv (l:=l) (lR k (Itm.aG (Itm.dJ (l.set (l.length-1) (eN (Z (2*k.toNat))))))) (l.length-1);omega
theorem Ni(x:Bk)(w:World){U:View}(hU:See U w)(hp:x.ok)(h:(cX x !=0)=false):CP 190 #[x.V] w (fV w U (Su x.tree 0)):=by
 have O:cX x=0:=by simpa using h
 obtain⟨ht,hn,A,B,hf,a7⟩:=iG O;have Y:=CH x [];have b5:=Bv (l:=dR x []) (Z (2*x.c.toNat)) ((dR x []).length-1);have b6:=BG (2*x.c.toNat);refine dC 16 Tryz.func190 hU ?_;refine zs (zr (aW (λI=>(aW (λb1=>(zq 1 (zn (zs (zB [1] [(I,5)] (dN (λW F=>CI x W) (zq 1 (zn (zQ 2 (zn (dY ((cX x) !=0) h ?_)))))))))))))));refine zk (zs ?_);refine jX 1 [0,3,3,1] [(I,1),(I,5)] [.mem (mV (Itm.dJ (dR x [])))] (by simp only[O4];exact⟨by intro v V V2 a G;(first|trivial|exact PhiMono.go G a|(obtain⟨g,e,G⟩:=G;exact⟨g,e,G.le a⟩)),λ_ h=>by cases h⟩) ⟨?_,trivial⟩ ?_
 ·refine wM 230 (λu=>#[(x.V),(St [])]) λu V hV a8 W hW=>?_
  exact Tn x [] _ hW hp (by unfold R47;simp) ht hn A B
 intro u2 V2 a C;have r:=C 3 rfl;obtain⟨J,E,f⟩:=r;obtain⟨j,k,rfl,d,N,X,M⟩:=f.form;refine qS 14 E ?_;refine oI 229 #[(I6 x.c),(.agg #[(I6 4),(U6 0),(St []),(.slice j (dR x []).length k),qF])] (mV (NT x.c (dR x []))) (λW F=>UC x.c (dR x []) W F.view _ _ d A B (Bc _ _ (BC x _)) (by simp only[O8]at Y;omega) (HG x _).1 (HG x _).2) (λv3 V3 L K=>?_);obtain⟨a6,rfl,D⟩:=K;obtain⟨a3,c3,rfl,a1,b3,b4,b2⟩:=D.form;refine aX 1 b1 (zq 1 (zn (aA (dW [2,0] [(b1,5)] [(tV (NT x.c (dR x [])) a3 c3),(I6 0)] (λW' F=>?_)))));exact aJ F (View.le_trans a L) ⟨(tC (NT x.c (dR x [])) a3 c3),rfl,D⟩
def iB(x:Bk):List UInt8:=Itm.aG x.tree
theorem Zp(x:Bk)(w:World)(M:x.ok)(h:cX x=0):CP 144 #[x.V] w (Ret (.tuple #[.string (B (iB x)),.int .i64 0]) w):=by
 have G:(cX x !=0)=false:=by simp[h]
 obtain⟨Z,Y,g,j,X,J⟩:=iG h;have k:=CH x [];have u:=Ya (l:=dR x []) g j;refine dF 18 Tryz.func144 ?_;refine zs (zr (aW (λD=>(zq 2 (zn (zB [1] [(D,5)] (lU (λW a=>Ni x W a.view M G) (λv1 O I f=>?_))))))));obtain⟨F,rfl,d⟩:=f;obtain⟨C,E,rfl,A,L,N,K⟩:=d.form;refine zq 3 (aW (λr=>(aX 1 r (zq 1 (zn (zs (zQ 2 (zn (cU (zk (zB [2] [(r,5)] (cY 158 #[(tV x.tree C E)] (.tuple #[(St (Itm.aG x.tree)),(I6 0)]) (λW a=>pE _ _ a.view d (XL (BC x _)) (by simp only[O8]at k;unfold Bk.tree DK at *;omega)) ?_))))))))))));refine zq 4 (zn (aA (aO [2,3] [(St (Itm.aG x.tree)),(I6 0)] (λV a=>?_))));exact⟨rfl,a.below⟩
def aF(x:Bk):List UInt8:=Itm.aF 0 x.t.toNat++Itm.aF 0 x.n.toNat++Itm.aF 0 x.f
theorem HH(x:Bk)(w:World)(C:x.ok)(h:cX x=0):CP 248 #[x.V] w (Ret (.tuple #[.string (B (aF x)),.int .i64 0]) w):=by
 have j:(cX x !=0)=false:=by simp[h]
 have K:=C.f;obtain⟨g,f,k,r,A,u⟩:=iG h;unfold jQ at g f;simp only[L5,N0]at g f;have D:IntKind.u64.wrap x.t=(x.t.toNat:Int):=by have:=u64_in (x:=x.t) oW oW;omega
 have E:IntKind.u64.wrap x.n=(x.n.toNat:Int):=by have:=u64_in (x:=x.n) oW oW;omega
 have L:x.t.toNat<W64:=by unfold W64;omega
 have M:x.n.toNat<W64:=by unfold W64;omega
 have G:=(Itm.aE 0 x.t.toNat).2;have I:=(Itm.aE 0 x.n.toNat).2;have J:=(Itm.aE 0 x.f).2;refine dF 23 Tryz.func248 ?_;refine zs (zr (aW (λd=>(zq 2 (zn (zs (zB [1] [(d,5)] (dN (λW a=>CI x W) (zq 1 (zn (zQ 2 (zn (dY ((cX x) !=0) j ?_)))))))))))));refine zk (zs ?_);refine gI 4 [0,3,1,1,0,3,1,1,1,0,3,1] [(d,1),(d,1),(d,1)] [.val (N6 x.t.toNat),.val (St (Itm.aF 0 x.t.toNat)),.val (N6 x.n.toNat),.val (St (Itm.aF 0 x.n.toNat)),.val (St ((Itm.aF 0 x.t.toNat)++(Itm.aF 0 x.n.toNat))),.val (St (Itm.aF 0 x.f))] ⟨?_,?_,?_,?_,?_,?_,trivial⟩ ?_
 ·exact vE (U6 (IntKind.u64.wrap x.t)) (M0 (Value.int .u64) D)
 ·exact vC 240 #[(I6 0),(N6 x.t.toNat)] (λW a=>jK 0 x.t.toNat W oW (by first|assumption|(unfold W64;omega)|decide))
 ·exact vE (U6 (IntKind.u64.wrap x.n)) (M0 (Value.int .u64) E)
 ·exact vC 240 #[(I6 0),(N6 x.n.toNat)] (λW a=>jK 0 x.n.toNat W oW (by first|assumption|(unfold W64;omega)|decide))
 ·exact vR (cE _ _ _ _ rfl (Itm.aF 0 x.t.toNat) (Itm.aF 0 x.n.toNat) kR kR oA)
 ·exact vC 240 #[(I6 0),(N6 x.f)] (λW a=>jK 0 x.f W oW (by first|assumption|(unfold W64;omega)|decide))
 refine cB (St (((Itm.aF 0 x.t.toNat)++(Itm.aF 0 x.n.toNat))++(Itm.aF 0 x.f))) (cE _ _ _ _ rfl ((Itm.aF 0 x.t.toNat)++(Itm.aF 0 x.n.toNat)) (Itm.aF 0 x.f) kR kR oA) ?_;refine zq 2 (zn (aA (aO [2,3] [(St (((Itm.aF 0 x.t.toNat)++(Itm.aF 0 x.n.toNat))++(Itm.aF 0 x.f))),(I6 0)] (λF a=>?_))));exact⟨rfl,a.below⟩
end Go.Proofs.YtkoamlfiijcecaaGreatDoor.Sx
