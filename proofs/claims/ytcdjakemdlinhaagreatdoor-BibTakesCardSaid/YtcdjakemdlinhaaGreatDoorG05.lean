/-
  Several texts in one: Sx10 SxJ Sx11 Shelf Cln1 Rep Pri2 Sum1 Blk1 Sum2 Pri3 Blk2.
  Conditions: named at each.
-/
import Derived.Test.YtcdjakemdlinhaaGreatDoorG04
import Derived.Shelf.Strings.Builder1
import Derived.Shelf.Strings.Builder2
import Derived.Shelf.Strings.OnBuilder
import Derived.Shelf.Strings.BuilderF
import Derived.Shelf.Strings.BuilderK
import Derived.Shelf.Strings.Builder2Cap
import Derived.Shelf.Strings.Prefix
import Derived.Shelf.Bits.Mul64
import Derived.Shelf.Strings.Repeat
import Derived.Test.YtcdjakemdlinhaaGreatDoorProg
set_option maxHeartbeats 16000000
set_option linter.unusedSimpArgs false
set_option linter.unusedVariables false
set_option linter.unusedSectionVars false
namespace Go.Proofs.YtcdjakemdlinhaaGreatDoor.Sx
open Go.ChangeShapes Go.WideShapes Go.ChangeAt Go.RowKit Go.Deep
def iQ(W0:Cx)(U:View)(σF:aN)(Φ:Value→View→aN→Prop):Ending→World→Prop:=fun e W'=>∃v V σ',e=.returned v∧View.le U V∧Mem W0 V (σ'++σF) W'∧Φ v V σ'
theorem aJh{P : Program}{f : FuncId}{j : Func}{c : Code}{d : List Value}{W : World}{R : Ending → World → Prop}{W0 : Cx}{σ : aN}(n : Nat)(U : View)(D : P.funcs[f]? = some j)(C : j.body = some c)(E : j.ntmps = n)(u : Nat.ble d.length n = true)(k : Mem W0 U σ W)
  (h:SXC P n W0 (aLm P n W0 j R) c (aNr 0 d) U σ):Calls P f d.toArray W R:=by
 have B:d.length≤n:=Cw u;refine calls_of_wp D C (wp_mono (h.go _ W ⟨?_,rfl,fun t v F=>?_⟩ k) ?_)
 ·simp[E];omega
 ·obtain⟨_,g⟩:=aBZ d 0 t v F;have x:t<d.length:=(Af.1 g).1;simp only[Fy]at g;rw[Array.getElem?_append_left (by simpa using x)];simpa using g
 ·rintro e a A ⟨s,G,σ,q,k,y⟩;cases e with
  |normal=>obtain⟨v,r,g⟩:=y a A q k;exact⟨q.defers,v,r,g⟩
  |ret=>obtain⟨v,r,g⟩:=y a A q k;exact⟨q.defers,v,r,g⟩
  |_=>exact y.elim
section
variable {P:Program} {n:Nat} {W0:Cx} {Q:XQ} {s:aZ} {U:View} {σ:aN} {ops:Array Oper} {l:List Oper} {o:Oper}
theorem aAW(f : FuncId)(a : Array Value)(own c : aN)(Φ : Value → View → aN → Prop)(k : σ.Perm (own ++ c))(g : enters P s o = some (f, a))(r : ∀ W, Mem W0 U (own ++ c) W → Calls P f a W (iQ W0 U c Φ))(u : eX n o = true)(y : cU ops s o = some true)
  (h:∀v V σ',View.le U V→Φ v V σ'→SXL P n W0 Q ops l (lT o v s) V (σ'++c)):SXL P n W0 Q ops (o::l) s U σ:=
 aAV f a g u y fun W q=>(r W (q.perm k)).mono fun _ A ⟨v,V,σ',g,x,d,j⟩=>⟨v,_,V,σ'++c,g,d,rfl,h v V σ' x j⟩
theorem aDj{σ':aN}(c:σ.Perm σ')(h:SXL P n W0 Q ops l s U σ'):SXL P n W0 Q ops l s U σ:=⟨fun a W f d=>h.go a W f (d.perm c)⟩
end
def qY(vs:List Sq)(j:Nat)(v:Value)(V:View):Prop:=match vs[j]? with
 |some (.val w)=>v=w
 |some (.mem Φ)=>Φ v V
 |none=>False
theorem qY.phi{vs:List Sq}{j:Nat}{v:Value}{V:View}(h:qY vs j v V):gR vs j v V:=by
 unfold qY at h;unfold gR;split at h
 ·next e=>rw[e];trivial
 ·next e=>rw[e];exact h
 ·exact h.elim
theorem qY.le{vs:List Sq}(a:∀q∈vs,mX q){j:Nat}{v:Value}{V c:View}(d:View.le V c)(h:qY vs j v V):qY vs j v c:=by
 unfold qY at h ⊢;split at h
 ·exact h
 ·next Φ e=>exact a _ (Ad e) v V c d h
 ·exact h
theorem qY.isQ{vs:List Sq}{j:Nat}{v:Value}{V U:View}{W0:Cx}{σ:aN}{W:World}(a:Mem W0 V σ W)(c:View.le U V)(h:qY vs j v V):IsQ W0 U σ vs j v W:=by
 unfold qY at h;split at h
 ·next w e=>exact⟨_,e,h⟩
 ·next Φ e=>exact⟨_,e,V,c,a,h⟩
 ·exact h.elim
theorem IsQ.at{vs:List Sq}{j:Nat}{v:Value}{U:View}{W0:Cx}{σ:aN}{W:World}(h:IsQ W0 U σ vs j v W)(k:Mem W0 U σ W):∃V,View.le U V∧Mem W0 V σ W∧qY vs j v V:=by
 obtain⟨q,a,c⟩:=h;cases q with
 |val w=>exact⟨U,View.le_refl _,k,by unfold qY;rw[a];exact c⟩
 |mem Φ=>
  obtain⟨V,d,f,g⟩:=c;exact⟨V,d,f,by unfold qY;rw[a];exact g⟩
structure aAQ where
 j:Nat
 i:Nat
 Ω:Value→aN→Prop
def aDg(ops:Array Oper)(m:Nat)(t:aAQ):Bool:=(List.range m).all fun i=>decide (i=t.i)|| !cJ .any ops i t.j
structure aRC (W0 : Cx) (U : View) (σ : aN) (vs : List Sq) (m : Nat) (t : aAQ) (L : Nat → Bool) (u : Nat → Value) (w : World) (V : View) (σ' : aN) : Prop where
 le:View.le U V
 mem:Mem W0 V (σ++σ') w
 at_:∀j,j<m→L j=true→j≠t.j→qY vs j (u j) V
 own:L t.j=true→L t.i=false→t.Ω (u t.j) σ'
 non:L t.j=false∨L t.i=true→σ'=[]
section
variable {P:Program} {n:Nat} {W0:Cx} {s:aZ} {U:View} {σ:aN} {ops:Array Oper} {ds:List Nat} {vs:List Sq}
structure aRd (P : Program) (n : Nat) (W0 : Cx) (U : View) (σ : aN) (ops : Array Oper) (ds : List Nat) (vs : List Sq) (s : aZ) (t : aAQ) : Prop where
 go:∃(o:Oper) (f:FuncId) (ts:List Nat) (vals:(Nat→Value)→List Value),ops[t.j]? =some o∧o.guard=none∧(∀u,(ts.map fun x=>look (iP ops ds vs u t.j++aV s ds) x)=(vals u).map some)∧
  ∀(u:Nat→Value) (V:View),View.le U V→(∀j,cJ .any ops t.j j=true→gR vs j (u j) V)→∃args,enters P (ts.zip (vals u)) o=some (f,args)∧
   ∀W,Mem W0 V σ W→Calls P f args W fun e W'=>∃v σ',e=.returned v∧Mem W0 V (σ++σ') W'∧t.Ω v σ'
structure aMR (P : Program) (n : Nat) (W0 : Cx) (U : View) (σ : aN) (ops : Array Oper) (ds : List Nat) (vs : List Sq) (s : aZ) (t : aAQ) : Prop where
 go:∃(o:Oper) (f:FuncId) (Φ:Value→View→Prop) (ts:List Nat) (vals:(Nat→Value)→List Value),ops[t.i]? =some o∧o.guard=none∧vs[t.i]? =some (.mem Φ)∧cJ .any ops t.i t.j=true∧(∀u,(ts.map fun x=>look (iP ops ds vs u t.i++aV s ds) x)=(vals u).map some)∧
  ∀(u:Nat→Value) (V:View) (σ':aN),View.le U V→(∀j,cJ .any ops t.i j=true→j≠t.j→gR vs j (u j) V)→t.Ω (u t.j) σ'→∃args,enters P (ts.zip (vals u)) o=some (f,args)∧
   ∀W,Mem W0 V (σ'++σ) W→Calls P f args W (iQ W0 V σ fun v V' σ''=>σ''=[]∧Φ v V')
def ObC(P:Program)(n:Nat)(W0:Cx)(U:View)(σ:aN)(ops:Array Oper)(ds:List Nat)(vs:List Sq)(s:aZ)(t:aAQ)(i:Nat):Prop:=
 if i=t.j then aRd P n W0 U σ ops ds vs s t else if i=t.i then aMR P n W0 U σ ops ds vs s t else∀σ',Oq P n W0 U (σ++σ') ops ds vs s i
theorem jH{a0:Act}{u:Nat→Value}{V:View}(i:Nat)(r:pL n s a0)(I:ds.Nodup)(F:∀d∈ds,d<n)(J:∀j,cJ .any ops i j=true→qY vs j (u j) V∨∃Φ,vs[j]? =some (.mem Φ)):pL n (iP ops ds vs u i++aV s ds) (eO ds 0 u a0):=by
 have k:=fun t=>fX ds 0 u a0 t I (by rw[r.size];exact F)
 refine⟨by rw[(k 0).2.2.1,r.size],by rw[(k 0).2.2.2,r.defers],fun t v K=>?_⟩;rcases eV _ _ _ _ K with h|⟨_,h⟩
 ·have B:=iW _ _ _ h;unfold iP at B;obtain⟨j,G,f⟩:=Gl.1 B;have q:j<ds.length:=Cm.1 G;have g:∀A,ds.getD j 0=A→ds[j]? =some A:=fun A e=>by
   rw[Aa q,←e];simp[List.getD,q]
  split at f
  ·next x C y=>
   simp only[Ab,Am]at f;obtain⟨a,c⟩:=f;rw[(k t).1 j (g t a),Aw];rcases J j C with hs|⟨Φ,hs⟩
   ·unfold qY at hs;rw[y]at hs;simp only at hs;rw[hs,c]
   ·rw[y]at hs;cases hs
  ·next x C y=>
   simp only[Ab,Am]at f;obtain⟨a,c⟩:=f;rw[(k t).1 j (g t a),Aw,←c]
  ·cases f
 ·obtain⟨D,E⟩:=fD _ _ _ _ h;rw[(k t).2.1 D];exact r.slots t v E
end
section
variable {P:Program} {n:Nat} {W0:Cx} {s:aZ} {U:View} {σ:aN}
theorem aD6{id : Nat}{l : List Oper}{Q : XQ}(m f r : Nat)(ds : List Nat)(vs : List Sq)(t : aAQ)(hm : P.follows .mixedOrders = true)(b9 : l.length = m + f)(b6 : ds.length = m)
  (c8:oJ l.toArray ds=true) (b8:nodupB ds=true) (e0:(ds.all fun d=>Nat.blt d n)=true) (a1:fI .any l.toArray m=true) (b0:lM .any l.toArray m r=true) (N:jY l.toArray m f=true) (X:∀q∈vs,mX q)
  (c0:aDg l.toArray m t=true) (a8:t.j<m∧t.i<m∧t.j≠t.i) (b1:vs[t.j]? =some (.mem fun _ _=>True))
  (c1:Go.Proofs.YtcdjakemdlinhaaGreatDoor.Steps (ObC P n W0 U σ l.toArray ds vs s t) 0 m)
  (ts:List Nat) (C:(Nat→Value)→List Value) (J:∀u,(ts.map fun t=>look (aDP u 0 ds vs++aV s ds) t)=(C u).map some)
  (h:∀(u:Nat→Value) (V:View),View.le U V→(∀j,j<m→gR vs j (u j) V)→SXL P n W0 Q l.toArray (l.drop m) (ts.zip (C u)) V σ):SXC P n W0 Q (.region id l.toArray true) s U σ:=by
 refine⟨fun a W ha hM=>?_⟩;have hn:=lH b8;have hd:∀d∈ds,d<n:=fun d hd=>by have:=Ao.1 e0 d hd;simpa[Ew]using this
 refine lD m f r ds (fun L u w=>∃V y,aRC W0 U σ vs m t L u w V y) hm (by simpa using b9) b6 c8 b8 a1 b0 ?_ ?_ ?_
 ·intro u;exact⟨U,[],⟨View.le_refl _,by rw[Aj];exact hM.drew,fun j _ c=>by simp at c,fun c=>by simp at c,fun _=>rfl⟩⟩
 ·rintro i c9 L u w ⟨V,y,I⟩ M k c7 K hK;have E:=c1.get i (Ap _) oW;unfold ObC at E;split at E
  ·next O=>
   subst O;have b4:y=[]:=I.non (.inl M);subst b4;obtain⟨o,g,ts,C,ho,a6,J,a7⟩:=E.go;have Y:∀j,cJ .any l.toArray t.j j=true→j≠t.j:=fun j c e=>by have:=(k j c).1;rw[e,M]at this;cases this
   have hr:=jH (a0:=a) (u:=u) (V:=V) (vs:=vs) (ops:=l.toArray) t.j ha hn hd fun j c=>.inl (I.at_ j (k j c).2 (k j c).1 (Y j c))
   obtain⟨b5,he,hc⟩:=a7 u V I.le fun j c=>(I.at_ j (k j c).2 (k j c).1 (Y j c)).phi
   unfold wpOp;simp only[ho,Region.wanted,a6,if_true];left;unfold Oper.wp;rw[fE (iG ts _ hr (J u)) he];refine(hc w (by have:=I.mem;rwa[Aj]at this)).mono ?_;rintro _ w' ⟨v,y,rfl,D,b3⟩;have c4:L t.i=false:=by
    cases B:L t.i with
    |false=>rfl
    |true=>
     obtain⟨o2,g2,h7,h6,e7,h5,e8,e9,e4,_⟩:=(show aMR P n W0 U σ l.toArray ds vs s t from by
      have:=c1.get t.i (Ap _) oW;unfold ObC at this;rwa[An (fun e=>a8.2.2 e.symm),Ar rfl]at this).go
     have:=c7 t.i t.j B e4;rw[M]at this;cases this
   have:=hK v w' ⟨V,y,⟨I.le,D,fun j c F A=>?_,fun _ _=>?_,fun B=>?_⟩⟩
   ·rw[ho]at this;exact this
   ·rw[An A]at F ⊢;exact I.at_ j c F A
   ·rw[Ar rfl];exact b3
   ·rw[Ar rfl,An (fun e=>a8.2.2 e.symm)]at B;rcases B with B|B
    ·cases B
    ·rw[c4]at B;cases B
  ·next O=>
   split at E
   ·next G=>
    subst G;obtain⟨o,g,Φ,ts,C,ho,a6,e3,e5,J,a7⟩:=E.go;have c2:L t.j=true:=(k t.j e5).1;have b3:=I.own c2 M;have hr:=jH (a0:=a) (u:=u) (V:=V) (vs:=vs) (ops:=l.toArray) t.i ha hn hd fun j c=>by
     by_cases e:j=t.j
     ·subst e;exact .inr ⟨_,b1⟩
     ·exact .inl (I.at_ j (k j c).2 (k j c).1 e)
    obtain⟨b5,he,hc⟩:=a7 u V y I.le (fun j c e=>(I.at_ j (k j c).2 (k j c).1 e).phi) b3;unfold wpOp;simp only[ho,Region.wanted,a6,if_true];left;unfold Oper.wp;rw[fE (iG ts _ hr (J u)) he];refine(hc w (I.mem.perm Bw)).mono ?_;rintro _ w' ⟨v,V',h0,rfl,Z,D,rfl,e6⟩;rw[Ch]at D;have:=hK v w' ⟨V',[],⟨View.le_trans I.le Z,by rw[Aj];exact D,fun j c F A=>?_,fun _ B=>?_,fun _=>rfl⟩⟩
    ·rw[ho]at this;exact this
    ·by_cases e:j=t.i
     ·subst e;rw[Ar rfl];unfold qY;rw[e3];exact e6
     ·rw[An e]at F ⊢;exact(I.at_ j c F A).le X Z
    ·rw[Ar rfl]at B;cases B
   ·next G=>
    have e1:∀j,cJ .any l.toArray i j=true→j≠t.j:=fun j c e=>by
     unfold aDg at c0;have:=Ao.1 c0 i (Cm.2 c9);rw[←e,c,Ba G]at this;cases this
    have c6:Mem W0 U (σ++y) w:=I.mem.weak I.le;refine((E y).go a (up n W0 Q) ha hn hd X).step u w c6 (fun j c=>(I.at_ j (k j c).2 (k j c).1 (e1 j c)).isQ I.mem I.le) K fun v w' D hE hv=>?_
    obtain⟨V',h1,h2,h3⟩:=hv.at D;obtain⟨q1,q2,q3⟩:=Mem.join (I.mem.call hE) h2;refine hK v w' ⟨V.or V',y,⟨View.le_trans I.le q2,q1,fun j c F A=>?_,fun B hy=>?_,fun B=>?_⟩⟩
    ·by_cases e:j=i
     ·subst e;rw[Ar rfl];exact h3.le X q3
     ·rw[An e]at F ⊢;exact(I.at_ j c F A).le X q2
    ·rw[An (fun e=>O e.symm)]at B ⊢;rw[An (fun e=>G e.symm)]at hy;exact I.own B hy
    ·rw[An (fun e=>O e.symm),An (fun e=>G e.symm)]at B;exact I.non B
 ·rintro L u W' ⟨V,y,I⟩ F;have b4:y=[]:=I.non (.inr (F _ a8.2.1));subst b4;refine iI f m _ W' (by simpa using b9.symm) N ?_;have hg:=fun t=>fX ds 0 u a t hn (by rw[ha.size];exact hd)
  have e2:∀j,j<m→gR vs j (u j) V:=fun j c=>by
   by_cases e:j=t.j
   ·unfold gR;rw[e,b1];trivial
   ·exact(I.at_ j c (F j c) e).phi
  refine(h u V I.le e2).go _ W' (iG ts _ (s':=aDP u 0 ds vs++aV s ds) ⟨by rw[(hg 0).2.2.1,ha.size],by rw[(hg 0).2.2.2,ha.defers],fun x v Z=>?_⟩ (J u)) (by have:=I.mem;rwa[Aj]at this);rcases eV _ _ _ _ Z with Z|⟨_,Z⟩
  ·have b7:=iW _ _ _ Z;obtain⟨j,q,hd2,b2,hq⟩:=mI u 0 _ _ _ _ b7;have h4:j<ds.length:=(Af.1 hd2).1;rw[(hg x).1 j hd2,Aw];cases q with
   |val w=>
    simp only at hq;have Y:j≠t.j:=fun e=>by rw[e,b1]at b2;cases b2
    have:=I.at_ j oW (F j oW) Y;unfold qY at this;rw[b2]at this;simp only at this;rw[this,hq]
   |mem Φ=>simp only[Aw]at hq;rw[hq]
  ·obtain⟨h1,h2⟩:=fD _ _ _ _ Z;rw[(hg x).2.1 h1];exact ha.slots x v h2
end
section
variable {P:Program} {n:Nat} {W0:Cx} {Q:XQ} {s:aZ} {U:View} {σ:aN} {ops:Array Oper} {l:List Oper} {o:Oper}
theorem aQ1(f : FuncId)(a : Array Value)(own c : aN)(Φ : Value → View → aN → Prop)(d : σ.Perm (own ++ c))(g : ∀ W, Mem W0 U (own ++ c) W → Calls P f a W (iQ W0 U c Φ))
  (h:∀v V σ',View.le U V→Φ v V σ'→SXL P n W0 Q ops l (lT o v s) V (σ'++c)) (k:enters P s o=some (f,a):=by kernel_rfl) (j:eX n o=true:=by kernel_rfl) (q:cU ops s o=some true:=by kernel_rfl):SXL P n W0 Q ops (o::l) s U σ:=
 aAW f a own c Φ d k g j q h
theorem aRr{W:World}{A B:aN}(c:A.Perm B)(a:Mem W0 U σ W)(e:σ=A:=by kernel_rfl):Mem W0 U B W:=(a.eqv e).perm c
theorem aHG(k:Nat)(σ:aN):σ=σ.take k++σ.drop k:=(Cn k σ).symm
theorem fH(k:Nat)(h:∀b,SXL P n W0 Q ops l (lT o (nwV P s o b) s) U ((σ.take k++[(b,nwX P s o)])++σ.drop k))(hm:makes P s o=some (nwX P s o,fun r=>some (nwV P s o r)):=by kernel_rfl)(a:eX n o=true:=by kernel_rfl)(c:cU ops s o=some true:=by kernel_rfl):SXL P n W0 Q ops (o::l) s U σ:=
 aJf _ _ (aHG k σ) _ _ hm a c h
theorem aFW : ∀ (k : Nat) (σ : aN) (x : Nat × Obj), σ[k]? = some x → σ.Perm ([x] ++ σ.eraseIdx k)
 |_,[],x,h=>by simp at h
 |0,y::σ,x,h=>by
  simp only[Bo,Ab]at h;subst h;exact Gd _
 |k+1,y::σ,x,h=>by
  have:=aFW k σ x (by simpa using h);exact(this.cons y).trans (List.Perm.swap x y _)
theorem jU(k : Nat)(x : Nat × Obj)(f : FuncId)(a : Array Value)(Φ : Value → View → aN → Prop)(c : ∀ W, Mem W0 U ([x] ++ σ.eraseIdx k) W → Calls P f a W (iQ W0 U (σ.eraseIdx k) Φ))
  (h:∀v V σ',View.le U V→Φ v V σ'→SXL P n W0 Q ops l (lT o v s) V (σ'++σ.eraseIdx k)) (q:σ[k]? =some x:=by kernel_rfl) (g:enters P s o=some (f,a):=by kernel_rfl) (d:eX n o=true:=by kernel_rfl) (j:cU ops s o=some true:=by kernel_rfl):SXL P n W0 Q ops (o::l) s U σ:=
 aAW f a [x] _ Φ (aFW k σ x q) g c d j h
theorem aPl(f : FuncId)(a : Array Value)(Φ : Value → View → aN → Prop)(c : ∀ W, Mem W0 U ([] ++ σ) W → Calls P f a W (iQ W0 U σ Φ))
  (h:∀v V σ',View.le U V→Φ v V σ'→SXL P n W0 Q ops l (lT o v s) V (σ'++σ)) (g:enters P s o=some (f,a):=by kernel_rfl) (d:eX n o=true:=by kernel_rfl) (j:cU ops s o=some true:=by kernel_rfl):SXL P n W0 Q ops (o::l) s U σ:=
 aAW f a [] _ Φ (Gd _) g c d j h
theorem eS{V:View}{σ' a:aN}{Φ:Value→View→aN→Prop}{v:Value}{W':World}(d:Mem W0 V σ W')(f:View.le U V)(h:Φ v V σ')(c:σ=σ'++a:=by kernel_rfl):iQ W0 U a Φ (.returned v) W':=⟨v,V,σ',rfl,f,d.eqv c,h⟩
theorem gJ{V:View}{a:aN}{Φ:Value→View→aN→Prop}{v:Value}{W':World}(k m:Nat)(x:Nat×Obj)(g:Mem W0 V σ W')(j:View.le U V)(h:Φ v V [x])(q:(σ.take m)[k]? =some x:=by kernel_rfl)(f:σ.drop m=a:=by kernel_rfl):iQ W0 U a Φ (.returned v) W':=by
 subst f;refine⟨v,V,[x],rfl,j,g.sub ?_,h⟩;have c:[x].Sublist (σ.take m):=List.singleton_sublist.2 (Ad q);have d:=By c (Cd (σ.drop m));rwa[Cn]at d
theorem aRm(a ρ:aN)(h:∀b,SXL P n W0 Q ops l (lT o (nwV P s o b) s) U ((a++[(b,nwX P s o)])++ρ))(c:σ=a++ρ:=by kernel_rfl)(hm:makes P s o=some (nwX P s o,fun r=>some (nwV P s o r)):=by kernel_rfl)(d:eX n o=true:=by kernel_rfl)(f:cU ops s o=some true:=by kernel_rfl):SXL P n W0 Q ops (o::l) s U σ:=
 aJf a ρ c _ _ hm d f h
theorem fU{f : FuncId}{d : Func}{c : Code}{a : List Value}{R : Ending → World → Prop}{W : World}(n : Nat)(q : P.funcs[f]? = some d)(j : Mem W0 U σ W)(h : SXC P n W0 (aLm P n W0 d R) c (aNr 0 a) U σ)
  (k:d.body=some c:=by rfl) (r:d.ntmps=n:=by rfl) (g:Nat.ble a.length n=true:=by rfl):Calls P f a.toArray W R:=aJh n U q k r g j h
theorem eM(k : Nat){x : Nat × Obj}{f : FuncId}{a : Array Value}{Φ : Value → View → aN → Prop}(c : ∀ W, Mem W0 U ([x] ++ σ.eraseIdx k) W → Calls P f a W (iQ W0 U (σ.eraseIdx k) Φ))
  (h:∀v V σ',View.le U V→Φ v V σ'→SXL P n W0 Q ops l (lT o v s) V (σ'++σ.eraseIdx k)) (q:σ[k]? =some x:=by kernel_rfl) (g:enters P s o=some (f,a):=by kernel_rfl) (d:eX n o=true:=by kernel_rfl) (j:cU ops s o=some true:=by kernel_rfl):SXL P n W0 Q ops (o::l) s U σ:=
 aAW f a [x] _ Φ (aFW k σ x q) g c d j h
theorem lN(g : Nat)(e t : TypeId)(bytes k c : Nat){r : Rw}{j : List Value}{m z b f : Nat}{a : List Value}{x y : Operand}(B : r.ok z m j)(d : ∀ W, Mem W0 U σ W → W.rangeAt b f a)(K : a.length = k * z)(F : ∀ u ∈ a, u.oneCell' = true)(J : 0 < k)
  (h:∀E:Rw,E.ok z (m+k) (j++a)→SXL P n W0 Q ops l (lT o (E.V (m+k)) s) U (σ.take g++E.B e (j++a))) (L:o.op=.call { callee:=.builtin .append,args:=#[x,y],argTypes:=#[t,t] }:=by rfl) (D:σ=σ.take g++r.B e j:=by kernel_rfl) (O:evS s x=some (r.V m):=by kernel_rfl)
  (V:evS s y=some (.slice (some ⟨b,f,none⟩) k c):=by kernel_rfl) (q:m+k≤maxLen:=by unfold maxLen;omega) (A:(m+k)*bytes≤140737488355328:=by omega) (I:(P.info? e).map (fun i=>(i.size,i.bytes,i.zero.map (·.cells.size)))=some (z,bytes,some z):=by kernel_rfl) (M:P.underlying t=some (.slice e):=by kernel_rfl)
  (C:Nat.blt 0 z=true:=by kernel_rfl) (G:eX n o=true:=by kernel_rfl) (N:cU ops s o=some true:=by kernel_rfl):SXL P n W0 Q ops (o::l) s U σ:=
 gW r j m (σ.take g) e t z bytes k D B x y L O b f c a V d K F J q A I M C G N h
end
theorem aBg{P:Program}{W:World}{b f z n:Nat}{ys:List Value}(h:W.rangeAt b f ys)(g:ys.length=n*z)(c d:Nat):(Builtin.firstCells z n (.slice (some ⟨b,f,none⟩) c d)).run P W=.ok ys.toArray W:=by
 have:=run_loadCells_list (P:=P) (w:=W) ⟨b,f,none⟩ ys (fun j v k=>by
  have a:(⟨b,f,none⟩:Addr).add j=⟨b,f+j,none⟩:=by unfold Addr.add;split<;>simp_all
  rw[a];exact h j v k)
 unfold Builtin.firstCells;rw[←g];exact this
theorem pR{P:Program}{W:World}{b a:Nat}{cs ys:List Value}{t:TypeId}(g:W.heap[b]? =some (.cells cs.toArray t (0,0)))(h:a+ys.length≤cs.length)(f:∀u∈ys,u.oneCell'=true):(storeCells ⟨b,a,none⟩ ys).run P W=.ok () (W.setCells b a ys):=by
 have d:=mM g h;have:=run_storeCells_cells (P:=P) b a ys 0 W (fun j c=>by simpa using(d j c).1) (fun j c=>by simpa using(d j c).2) f;simpa using this
theorem add_mid(b f k:Nat):(⟨b,f,none⟩:Addr).add k=⟨b,f+k,none⟩:=by unfold Addr.add;split<;>simp_all
section
variable {P:Program} {n:Nat} {W0:Cx} {Q:XQ} {s:aZ} {U:View} {σ:aN} {ops:Array Oper} {l:List Oper} {o:Oper}
theorem qI{P:Program}{e:TypeId}{z:Nat}(a:(P.info? e).map (·.size)=some z)(W:World):(sizeOf e).run P W=.ok z W:=by
 cases c:P.info? e with
 |none=>rw[c]at a;cases a
 |some i=>
  rw[c]at a;simp only[Di,Ab]at a;simp[sizeOf,typeInfo,c,a]
theorem aNa(k b f d c A C j B z : Nat)(cs ys : List Value)(e t te : TypeId)(x y : Operand)(V : o.op = .call { callee := .builtin .append, args := #[x, y], argTypes := #[t, t] })(hx : evS s x = some (.slice (some ⟨b, f, none⟩) d c))(hy : evS s y = some (.slice (some ⟨A, C, none⟩) j B))
  (J:σ[k]? =some (b,.cells cs.toArray te (0,0))) (X:∀W,Mem W0 U σ W→W.rangeAt A C ys) (O:ys.length=j*z) (L:∀u∈ys,u.oneCell'=true) (N:d+j≤c) (g:f+d*z+ys.length≤cs.length)
  (Z:P.underlying t=some (.slice e)) (Y:(P.info? e).map (·.size)=some z) (I:eX n o=true) (hw:cU ops s o=some true)
  (h:SXL P n W0 Q ops l (lT o (.slice (some ⟨b,f,none⟩) (d+j) c) s) U (σ.set k (b,.cells (cK cs (f+d*z) ys).toArray te (0,0)))):SXL P n W0 Q ops (o::l) s U σ:=by
 refine pN I hw fun a W E D K M=>?_
 have G:=(D.own k b _ J).1;have r:=aBg (P:=P) (X W D) O j B;have F:=pR (P:=P) G g L;obtain⟨q1,q2,q3,q4,q5,q6⟩:=gO b ys (f+d*z) W cs te G g;have q:(Builtin.append_ #[t,t] o.type #[.slice (some ⟨b,f,none⟩) d c,.slice (some ⟨A,C,none⟩) j B]).run P W=.ok (.slice (some ⟨b,f,none⟩) (d+j) c) (W.setCells b (f+d*z) ys):=by
  simp[Builtin.append_,run_underlying Z,qI Y,Builtin.lenOf,r,N,add_mid,F,Result.andThen]
 unfold Oper.wp execOp;simp only[V,resolve,invoke,builtin,Sem.run_bind,Sem.run_pure,Result.andThen_ok,Ef,Cf,Dz,eG E hx,eG E hy,q];exact M _ _ _ _ _ h (eL E I) (D.set k b _ _ J q4 q5 q6 q3 q1 q2)
theorem aLE(k b f F c r B q A m z : Nat)(cs ys : List Value)(e t L te : TypeId)(x y : Operand)(V : o.op = .call { callee := .builtin .copy, args := #[x, y], argTypes := #[t, L] })(hx : evS s x = some (.slice (some ⟨b, f, none⟩) F c))(hy : evS s y = some (.slice (some ⟨r, B, none⟩) q A))
  (J:σ[k]? =some (b,.cells cs.toArray te (0,0))) (hm:Nat.min q F=m) (X:∀W,Mem W0 U σ W→W.rangeAt r B ys) (O:ys.length=m*z) (M:∀u∈ys,u.oneCell'=true) (d:f+ys.length≤cs.length)
  (Z:P.underlying t=some (.slice e)) (Y:(P.info? e).map (·.size)=some z) (I:eX n o=true) (hw:cU ops s o=some true)
  (h:SXL P n W0 Q ops l (lT o (goInt m) s) U (σ.set k (b,.cells (cK cs f ys).toArray te (0,0)))):SXL P n W0 Q ops (o::l) s U σ:=by
 refine pN I hw fun a W D C K N=>?_
 have G:=(C.own k b _ J).1;have j:=aBg (P:=P) (X W C) O q A;have E:=pR (P:=P) G d M;obtain⟨q1,q2,q3,q4,q5,q6⟩:=gO b ys f W cs te G d;have g:(Builtin.copy_ #[t,L] o.type #[.slice (some ⟨b,f,none⟩) F c,.slice (some ⟨r,B,none⟩) q A]).run P W=.ok (goInt m) (W.setCells b f ys):=by
  simp[Builtin.copy_,run_underlying Z,qI Y,Builtin.lenOf,hm,j,E,Result.andThen]
 unfold Oper.wp execOp;simp only[V,resolve,invoke,builtin,Sem.run_bind,Sem.run_pure,Result.andThen_ok,Ef,Cf,Dz,eG D hx,eG D hy,g];exact N _ _ _ _ _ h (eL D I) (C.set k b _ _ J q4 q5 q6 q3 q1 q2)
theorem aM9(k b f g c z : Nat)(cs : List Value)(j : Value)(e t te : TypeId)(x : Operand)(O : o.op = .call { callee := .builtin .clear, args := #[x], argTypes := #[t] })(X : evS s x = some (.slice (some ⟨b, f, none⟩) (g + 1) c))
  (J:σ[k]? =some (b,.cells cs.toArray te (0,0))) (Y:∀W:World,(zeroValue e).run P W=.ok j W) (A:j.cells.size=z) (L:j.cells.all (·.oneCell')=true) (q:f+(g+1)*z≤cs.length)
  (B:P.underlying t=some (.slice e)) (I:eX n o=true) (V:cU ops s o=some true)
  (h:∀ys:List Value,ys.length=(g+1)*z→SXL P n W0 Q ops l (lT o (.tuple #[]) s) U (σ.set k (b,.cells (cK cs f ys).toArray te (0,0)))):SXL P n W0 Q ops (o::l) s U σ:=by
 refine pN I V fun a W F E K M=>?_
 have G:=(E.own k b _ J).1;have d:(Builtin.zeroCells j.cells (g+1)).toList.length=(g+1)*z:=by simp[Builtin.zeroCells,A]
 have D:=pR (P:=P) G (ys:=(Builtin.zeroCells j.cells (g+1)).toList) (by rw[d];exact q) (fun u B=>by
  simp only[Builtin.zeroCells,Array.toList_map,Co]at B;obtain⟨i,N,rfl⟩:=B;have C:i<(g+1)*z:=by
   have:=Array.mem_toList_iff.1 N;simp at this;rw[A]at this;exact this
  have Z:0<z:=by
   rcases Nat.eq_zero_or_pos z with h|h
   ·rw[h]at C;omega
   ·exact h
  have y:i%j.cells.size<j.cells.size:=Nat.mod_lt _ oW;rw[getElem!_pos j.cells _ y];exact Array.all_eq_true.1 L _ y)
 obtain⟨q1,q2,q3,q4,q5,q6⟩:=gO b _ f W cs te G (by rw[d];exact q);have r:(Builtin.clear_ #[t] o.type #[.slice (some ⟨b,f,none⟩) (g+1) c]).run P W=.ok (.tuple #[]) (W.setCells b f (Builtin.zeroCells j.cells (g+1)).toList):=by
  simp[Builtin.clear_,run_underlying B,Y,D,Result.andThen]
 unfold Oper.wp execOp;simp only[O,resolve,invoke,builtin,Sem.run_bind,Sem.run_pure,Result.andThen_ok,Ef,Cf,Dz,eG F X,r];exact M _ _ _ _ _ (h _ d) (eL F I) (E.set k b _ _ J q4 q5 q6 q3 q1 q2)
end
def aCb(s:aZ)(x:Option Operand)(d v:Nat):Prop:=match x with
 |some y=>evS s y=some (.int .i64 (v:Int))
 |none=>v=d
theorem gU{P : Program}{s : aZ}{o : Oper}(t e : TypeId)(x : Operand)(q k u : Option Operand)(V : o.op = .slice t x q k u)(b f d a l h m z E B C : Nat)(Y : evS s x = some (.slice (some ⟨b, f, none⟩) d a))
  (g:aCb s q 0 l) (r:aCb s k d h) (hm:aCb s u a m) (O:u.isSome=true→k.isSome=true) (F:l≤h) (D:h≤m) (I:m≤a) (M:h-l=E) (K:m-l=B) (L:(if m=l then f else f+l*z)=C)
  (J:P.underlying t=some (.slice e)) (X:(P.info? e).map (·.size)=some z) (W:World):(execOp (ev s) o).run P W=.ok (.value (.slice (some ⟨b,C,none⟩) E B)) W:=by
 have Z:=qI X W;have j:∀(v y:Nat) (c:BoundsCode),v≤y→(Instr.sliceBound (.int .i64 (v:Int)) y c).run P W=.ok v W:=fun v y c hv=>by
  simp[Instr.sliceBound,asIntOf,Result.andThen];intro hc;omega
 have key:(Instr.slice t (.slice (some ⟨b,f,none⟩) d a) (q.map (ev s)) (k.map (ev s)) (u.map (ev s))).run P W=.ok (.slice (some ⟨b,C,none⟩) E B) W:=by
  have N:(Instr.sliceBounds true d a (q.map (ev s)) (k.map (ev s)) (u.map (ev s))).run P W=.ok (l,h,m) W:=by
   unfold aCb at g r hm;cases u with
   |some mo=>
    cases k with
    |none=>exact absurd (O rfl) (by simp)
    |some G=>
     cases q with
     |some lo'=>simp[Instr.sliceBounds,dY g,dY r,dY hm,j _ _ _ F,j _ _ _ D,j _ _ _ I,Result.andThen]
     |none=>simp only at g;subst g;simp[Instr.sliceBounds,dY r,dY hm,j _ _ _ D,j _ _ _ I,Result.andThen]
   |none=>
    simp only at hm;subst hm;cases k with
    |none=>
     simp only at r;subst r;cases q with
     |some lo'=>simp[Instr.sliceBounds,dY g,j _ _ _ F,Result.andThen]
     |none=>simp only at g;subst g;simp[Instr.sliceBounds,Result.andThen]
    |some G=>
     cases q with
     |some lo'=>simp[Instr.sliceBounds,dY g,dY r,j _ _ _ F,j _ _ _ D,Result.andThen]
     |none=>simp only at g;subst g;simp[Instr.sliceBounds,dY r,j _ _ _ D,Result.andThen]
  simp only[Instr.slice,Sem.run_bind,run_underlying J,Result.andThen_ok,N,Z,Sem.run_pure];subst M K L;split<;>simp[add_mid]
 have A:(Instr.sliceAt t (.slice (some ⟨b,f,none⟩) d a) (q.map (ev s)) (k.map (ev s)) (u.map (ev s))).run P W=.ok (.slice (some ⟨b,C,none⟩) E B) W:=by
  simp only[Instr.sliceAt,Sem.run_bind,run_underlying J,Result.andThen_ok,key]
 unfold execOp;simp only[V,dY Y,Sem.run_bind,A,Result.andThen_ok,Sem.run_pure]
theorem Mem.freezeHead{W0:Cx}{U:View}{a:aN}{W:World}{b:Nat}{cs:List Value}{t:TypeId}(h:Mem W0 U ((b,.cells cs.toArray t (0,0))::a) W):∃V,View.le U V∧V.range b 0 cs∧Mem W0 V a W:=by
 have d:Mem W0 U a W:=h.sub (Fx _ _);obtain⟨g,j,_⟩:=h.own 0 b _ rfl;exact d.addView g j fun k x f c=>by
  have:=h.apart 0 (k+1) (b,.cells cs.toArray t (0,0)) x rfl (by simpa using f) c.symm;cases this
theorem aLo.own{W0:Cx}{V:View}{σ:aN}{W W':World}{e:TypeId}{z m:Nat}{q:List Value}{B:Ending}(g:Mem W0 V σ W)(h:aLo W e z m q B W'):
  ∃v σ',B=.returned v∧Mem W0 V (σ++σ') W'∧∃b c j,v=.slice (some ⟨b,0,none⟩) m c∧σ'=[(b,.cells (q++j).toArray e (0,0))]∧(Rw.row b c j).ok z m q:=by
 obtain⟨b,r,d,rfl,C,y,u,A⟩:=h;refine⟨_,_,rfl,?_,b,r,d,rfl,rfl,A⟩;have f:=g.call C;have D:Mem W0 V (σ++([]++[])) W':=by simpa using f
 have:=D.swap (B':=[(b,.cells (q++d).toArray e (0,0))]) f.below (fun _ _ _=>rfl) f.view (.inr ⟨b,_,rfl,u,El g.below.size y,fun a G=>?_,fun k x F I=>?_⟩)
 ·simpa using this
 ·cases E:V a with
  |none=>rfl
  |some v=>have:=pF (g.view a v E);omega
 ·have:=gP (g.own k x.1 x.2 (by simpa using F)).1;omega
end Go.Proofs.YtcdjakemdlinhaaGreatDoor.Sx
namespace Go.Proofs
open Go.Shelf
def Tryz.lays105_ren:Go.Shelf.Ren:=⟨fun|105=>246|212=>253|99=>254|165=>255|166=>256|170=>257|169=>258|263=>263|264=>264|206=>236|240=>265|241=>266|276=>269|277=>270|n=>n,fun|9=>9|3=>3|4=>4|20=>20|0=>0|46=>248|109=>317|5=>5|72=>321|76=>252|51=>263|146=>328|53=>22|148=>330|70=>319|37=>160|75=>208|127=>332|164=>335|80=>324|n=>n,fun|n=>n⟩
theorem Tryz.lays105 : Go.Proofs.Lays.n105 Tryz.prog Tryz.lays105_ren := {
 mixed:=by kernel_rfl
 f99:=Tryz.func254.trans (congrArg some (by kernel_rfl))
 f105:=Tryz.func246.trans (congrArg some (by kernel_rfl))
 f165:=Tryz.func255.trans (congrArg some (by kernel_rfl))
 f166:=Tryz.func256.trans (congrArg some (by kernel_rfl))
 f169:=Tryz.func258.trans (congrArg some (by kernel_rfl))
 f170:=Tryz.func257.trans (congrArg some (by kernel_rfl))
 f206:=Tryz.func236.trans (congrArg some (by kernel_rfl))
 f212:=Tryz.func253.trans (congrArg some (by kernel_rfl))
 f240:=Tryz.func265.trans (congrArg some (by kernel_rfl))
 f241:=Tryz.func266.trans (congrArg some (by kernel_rfl))
 f263:=Tryz.func263.trans (congrArg some (by kernel_rfl))
 f264:=Tryz.func264.trans (congrArg some (by kernel_rfl))
 f276:=Tryz.func269.trans (congrArg some (by kernel_rfl))
 f277:=Tryz.func270.trans (congrArg some (by kernel_rfl))
 t0:=Tryz.underlying0
 a0:=Tryz.isAgg0
 z0:=Tryz.sizeOf0
 v0:=Tryz.zeroValue0
 t3:=Tryz.underlying3
 a3:=Tryz.isAgg3
 z3:=Tryz.sizeOf3
 v3:=Tryz.zeroValue3
 t4:=Tryz.underlying4
 a4:=Tryz.isAgg4
 z4:=Tryz.sizeOf4
 v4:=Tryz.zeroValue4
 t5:=Tryz.underlying5
 a5:=Tryz.isAgg5
 z5:=Tryz.sizeOf5
 v5:=Tryz.zeroValue5
 t9:=Tryz.underlying9
 a9:=Tryz.isAgg9
 z9:=Tryz.sizeOf9
 v9:=Tryz.zeroValue9
 t20:=Tryz.underlying20
 a20:=Tryz.isAgg20
 z20:=Tryz.sizeOf20
 v20:=Tryz.zeroValue20
 t37:=Tryz.underlying160
 a37:=Tryz.isAgg160
 z37:=Tryz.sizeOf160
 v37:=Tryz.zeroValue160
 t46:=Tryz.underlying248
 a46:=Tryz.isAgg248
 z46:=Tryz.sizeOf248
 v46:=Tryz.zeroValue248
 t51:=Tryz.underlying263
 a51:=Tryz.isAgg263
 z51:=Tryz.sizeOf263
 v51:=Tryz.zeroValue263
 t53:=Tryz.underlying22
 a53:=Tryz.isAgg22
 z53:=Tryz.sizeOf22
 v53:=Tryz.zeroValue22
 t70:=Tryz.underlying319
 a70:=Tryz.isAgg319
 z70:=Tryz.sizeOf319
 v70:=Tryz.zeroValue319
 t72:=Tryz.underlying321
 a72:=Tryz.isAgg321
 z72:=Tryz.sizeOf321
 v72:=Tryz.zeroValue321
 t75:=Tryz.underlying208
 a75:=Tryz.isAgg208
 z75:=Tryz.sizeOf208
 v75:=Tryz.zeroValue208
 t76:=Tryz.underlying252
 a76:=Tryz.isAgg252
 z76:=Tryz.sizeOf252
 v76:=Tryz.zeroValue252
 t109:=Tryz.underlying317
 a109:=Tryz.isAgg317
 z109:=Tryz.sizeOf317
 v109:=Tryz.zeroValue317
 t127:=Tryz.underlying332
 a127:=Tryz.isAgg332
 z127:=Tryz.sizeOf332
 v127:=Tryz.zeroValue332
 t146:=Tryz.underlying328
 a146:=Tryz.isAgg328
 z146:=Tryz.sizeOf328
 v146:=Tryz.zeroValue328
 t148:=Tryz.underlying330
 a148:=Tryz.isAgg330
 z148:=Tryz.sizeOf330
 v148:=Tryz.zeroValue330
 t164:=Tryz.underlying335
 a164:=Tryz.isAgg335
 z164:=Tryz.sizeOf335
 v164:=Tryz.zeroValue335 }
theorem Tryz.Builder_Extra_105 : Builder.Extra Tryz.prog Tryz.lays105_ren := {
 sizeBuilder:=by kernel_rfl
 liesBuilder:=by kernel_rfl
 t5:=Tryz.underlying5
 a5:=Tryz.isAgg5
 z5:=Tryz.sizeOf5
 v5:=Tryz.zeroValue5
 infoByte:=by kernel_rfl
 cellsByte:=by kernel_rfl
 sizeByte:=by kernel_rfl
 neB5:=by decide }
open Go.RowKit Go.Lib in
theorem Tryz.strings_Repeat(s:ByteArray)(c:Nat)(w:World)(d:c≤9223372036854775807)(a:s.size*c≤140737488355328):
  Calls Tryz.prog 246 #[.string s,.int .i64 c] w fun e w'=>e=.returned (.string ⟨(Lib.repeatL s.data.toList c).toArray⟩)∧Below w.heap.size w w':=Any.strings_Repeat Tryz.lays105 Tryz.Builder_Extra_105 s c w d a
end Go.Proofs
namespace Go.Proofs.YtcdjakemdlinhaaGreatDoor.Sx
open Go.ChangeShapes Go.WideShapes Go.ChangeAt Go.RowKit Go.Deep
theorem aBQ{U:View}{w:World}(q:See U w)(b f n c:Nat)(a:List Value)(y:U.range b f a)(r:a.length=n*5)(j:∀u∈a,u.oneCell'=true)(x:0<n)(k:n*64≤140737488355328):
    CP 251 #[.slice (some ⟨b,f,none⟩) n c] w (aLo w 89 5 n a):=by
 refine dE 8 Tryz.func251 q ?_;refine zQ 1 (zn (zs (zQ 1 (cD (.bool false) (aBh _ _ _ _ rfl (some ⟨b,f,none⟩) n c 89 kR kR kR) ?_))));refine zn (dD (zk (zs (zr (aW (fun h=>(zq 1 ?_)))))));refine gW (Rw.row h 0 []) [] 0 [] 89 87 5 64 n kR ⟨rfl,rfl,Bg _,by decide⟩ (.tmp 5) (.tmp 6) rfl kR b f c a kR (fun W d=>View.range_of y d.view) r j x (by unfold maxLen;omega) oW kR kR kR kR kR (fun A g=>?_);refine zq 1 (zn (aA (aO [2] [(A.V (0+n))] (fun B d=>?_))));have:=aFB d g oW;simp only[dC];rw[Aw,Ch]at this;rw[Aw];exact this
theorem rR{U:View}{w:World}(q:See U w)(b f n c:Nat)(a:List Value)(y:U.range b f a)(r:a.length=n*5)(j:∀u∈a,u.oneCell'=true)(x:0<n)(k:n*48≤140737488355328):
    CP 92 #[.slice (some ⟨b,f,none⟩) n c] w (aLo w 38 5 n a):=by
 refine dE 8 Tryz.func92 q ?_;refine zQ 1 (zn (zs (zQ 1 (cD (.bool false) (aBh _ _ _ _ rfl (some ⟨b,f,none⟩) n c 38 kR kR kR) ?_))));refine zn (dD (zk (zs (zr (aW (fun h=>(zq 1 ?_)))))));refine gW (Rw.row h 0 []) [] 0 [] 38 27 5 48 n kR ⟨rfl,rfl,Bg _,by decide⟩ (.tmp 5) (.tmp 6) rfl kR b f c a kR (fun W d=>View.range_of y d.view) r j x (by unfold maxLen;omega) oW kR kR kR kR kR (fun A g=>?_);refine zq 1 (zn (aA (aO [2] [(A.V (0+n))] (fun B d=>?_))));have:=aFB d g oW;simp only[dC];rw[Aw,Ch]at this;rw[Aw];exact this
theorem aBR{U:View}{w:World}(q:See U w)(b f n c:Nat)(a:List Value)(y:U.range b f a)(r:a.length=n*1)(j:∀u∈a,u.oneCell'=true)(x:0<n)(k:n*8≤140737488355328):
    CP 39 #[.slice (some ⟨b,f,none⟩) n c] w (aLo w 3 1 n a):=by
 refine dE 8 Tryz.func39 q ?_;refine zQ 1 (zn (zs (zQ 1 (cD (.bool false) (aBh _ _ _ _ rfl (some ⟨b,f,none⟩) n c 3 kR kR kR) ?_))));refine zn (dD (zk (zs (zr (aW (fun h=>(zq 1 ?_)))))));refine gW (Rw.row h 0 []) [] 0 [] 3 48 1 8 n kR ⟨rfl,rfl,Bg _,by decide⟩ (.tmp 5) (.tmp 6) rfl kR b f c a kR (fun W d=>View.range_of y d.view) r j x (by unfold maxLen;omega) oW kR kR kR kR kR (fun A g=>?_);refine zq 1 (zn (aA (aO [2] [(A.V (0+n))] (fun B d=>?_))));have:=aFB d g oW;simp only[dC];rw[Aw,Ch]at this;rw[Aw];exact this
def Z(n:Nat):List UInt8:=List.replicate n 0
theorem tI(n:Nat):(Z n).length=n:=Gb
theorem aLU(c:Nat):Lib.repeatL [0] c=Z c:=by
 unfold Z
 induction c with
 |zero=>rfl
 |succ n ih=>simp[Lib.repeatL,ih,List.replicate_succ]
theorem aDc(c:Nat)(w:World)(a:c≤1000):CP 246 #[.string (B [0]),.int .i64 c] w (Ret (.string (B (Z c))) w):=by
 have h:=Tryz.strings_Repeat ⟨#[0]⟩ c w oW (by show 1*c≤_;omega);rw[show(⟨#[0]⟩:ByteArray).data.toList=[0]from rfl,aLU]at h;exact h
theorem eZ.ofRow{V:View}{a:Option Addr}{j:List Value}(L:List (Itm.Tr×List Value))(A:aAn V a j)(f:j=L.flatMap Prod.snd)(h:gT V L)(l:List Itm.Tr)(y:L.map Prod.fst=l)(c:l.length≤R47):eZ V a l:=by
 subst f y;refine⟨fun i x g=>?_,c⟩;have d:L.flatMap Prod.snd≠[]:=by
  intro u;have:=h.flat_len;rw[u]at this;cases L with
  |nil=>simp at g
  |cons p r=>simp at this
 obtain⟨b,rfl,hR⟩:=A.at_ d;obtain⟨cs,k,q⟩:=h.get hR i x g;exact⟨b,0,cs,rfl,k,q⟩
def mA(t:Itm.Tr):Value→View→Prop:=fun v V=>∃cs,v=.agg cs.toArray∧TV V t cs
def lX(f:Nat):Bool:=iY .u64 f 1 !=0
def eB(p:Pr)(sum:List UInt8):List Itm.Tr:=
 [Itm.cA 7,Itm.cA p.f,Itm.cA p.c.toNat,p.dst.tree,p.src.tree,p.rpt.tree,Itm.dA [Itm.cA p.time,Itm.cA p.seq],Itm.cA p.life]++(if lX p.f then[Itm.cA p.off,Itm.cA p.tot]else[])++(if p.c !=0 then[eE sum]else[])
theorem aH8(p:Pr)(d:List UInt8)(w:World){U:View}(hU:See U w)(hp:p.ok)(hs:d.length≤R47)(s8:0≤p.c)(s9:p.c≤2)(hd:aI p.dst=true)(hr:aI p.src=true)(ht:aI p.rpt=true):
    CP 245 #[p.V,.string (B d)] w (fO w U (mA (Itm.dA (eB p d)))):=by
 have hf:=hp.f;have h1:=hp.time;have h2:=hp.seq;have h3:=hp.life;have h4:=hp.off;have h5:=hp.tot;have p1:IntKind.u64.wrap p.c=(p.c.toNat:Int):=by
  have:=u64_in (x:=p.c) oW oW;omega
 have u0:p.c.toNat<W64:=by unfold W64;omega
 refine dE 76 Tryz.func245 hU ?_;refine zs (zr (aW (fun y=>(aW (fun b1=>(zn (zB [0,1] [(y,4)] (pO (fun W j=>oI p.dst W j.view hp.dst hd) (fun v2 V2 q o7=>?_)))))))));obtain⟨s3,rfl,l8⟩:=o7;obtain⟨D,K,rfl,r7,u4,u7,u1⟩:=l8.form;refine zq 3 (aW (fun b3=>(aX 2 b3 (zq 1 (zn (zB [0,1] [(y,4)] (pO (fun W j=>oI p.src W j.view hp.src hr) (fun v4 V4 e1 o8=>?_))))))));have k6:=l8.le e1;obtain⟨s4,rfl,l9⟩:=o8;obtain⟨E,L,rfl,r8,u5,u9,u2⟩:=l9.form;refine zq 3 (aW (fun b7=>(aX 3 b7 (zq 1 (zn (zB [0,1] [(y,4)] (pO (fun W j=>oI p.rpt W j.view hp.rpt ht) (fun v8 V8 b4 o9=>?_))))))));have p2:=k6.le b4;have p3:=l9.le b4;obtain⟨s5,rfl,m0⟩:=o9;obtain⟨F,M,rfl,r9,u6,v7,u3⟩:=m0.form;refine zq 3 (aW (fun G=>(aX 4 G (zq 1 (zn (zs ?_))))));refine mB 4 [1,0,3,1,0,3,1,1,5,6,7,0,3,1,0,3,1,1,1,0,3,1] [(y,1),(y,1),(b3,5),(b7,5),(G,5),(y,1),(y,1),(y,1)] [.val (.agg #[(I6 0),(U6 7),(St []),S0,(.bool false)]),.val (iV p.f),.val (N6 p.c.toNat),.val (iV p.c.toNat),.val (iV p.time),.val (iV p.seq),.mem (fun v V=>∃g,v=(Sl g 0 2 2)∧eZ V (some ⟨g,0,none⟩) [(Itm.cA p.time),(Itm.cA p.seq)]),.mem (fun v V=>∃g,v=(.agg #[.int .i64 4,.int .u64 0,.string (B []),.slice (some ⟨g,0,none⟩) 2 2,.bool false])∧eZ V (some ⟨g,0,none⟩) [(Itm.cA p.time),(Itm.cA p.seq)]),.val (iV p.life)] (by simp only[Bc];refine⟨?_,?_,?_,?_,?_,?_,?_,?_,?_,fun _ h=>by cases h⟩<;>first|trivial|(intro v V V2 q hP;(first|trivial|exact PhiMono.go hP q|(obtain⟨g,e,hP⟩:=hP;exact⟨g,e,hP.le q⟩)))) ⟨?_,?_,?_,?_,?_,?_,?_,?_,?_,trivial⟩ ?_
 ·refine wV 40 (fun u=>#[(U6 7)]) fun u V hV k W hW=>?_
  exact dN _ W
 ·refine wV 40 (fun u=>#[(N6 p.f)]) fun u V hV k W hW=>?_
  exact dN _ W
 ·exact wE (U6 (IntKind.u64.wrap p.c)) (Ag (Value.int .u64) p1)
 ·refine wV 40 (fun u=>#[(N6 p.c.toNat)]) fun u V hV k W hW=>?_
  exact dN _ W
 ·refine wV 40 (fun u=>#[(N6 p.time)]) fun u V hV k W hW=>?_
  exact dN _ W
 ·refine wV 40 (fun u=>#[(N6 p.seq)]) fun u V hV k W hW=>?_
  exact dN _ W
 ·refine wN [43,46] (fun u=>[(iV p.time),(iV p.seq)]) fun u V hV k=>?_
  refine⟨[(I6 0),(N6 p.time),(St []),S0,(.bool false),(I6 0),(N6 p.seq),(St []),S0,(.bool false)],89,fun r=>(Sl r 0 2 2),?_,fun g V' c7 hR=>?_⟩
  ·kernel_rfl
  exact⟨g,rfl,eZ.lit [((Itm.cA p.time),(iN p.time)),((Itm.cA p.seq),(iN p.seq))] hR ⟨((TV.num _ p.time (by first|assumption|decide|(unfold W64;omega))).le hV).le c7,((TV.num _ p.seq (by first|assumption|decide|(unfold W64;omega))).le hV).le c7,trivial⟩ (show 2≤R47 by decide)⟩
 ·refine wM 178 (fun u=>#[u 17]) fun u V hV k W hW=>?_
  have n8:=k 17 kR rfl;obtain⟨o2,q7,r0⟩:=n8;rw[q7];exact Calls.retN hW (dW _ _ _ W) ⟨o2,rfl,r0⟩
 ·refine wV 40 (fun u=>#[(N6 p.life)]) fun u V hV k W hW=>?_
  exact dN _ W
 intro w0 n0 c j7;have p4:=p2.le c;have p5:=p3.le c;have p6:=m0.le c;have p7:=(TV.num _ 7 (by first|assumption|decide|(unfold W64;omega))).le c;have p8:=(TV.num _ p.f (by first|assumption|decide|(unfold W64;omega))).le c;have p9:=(TV.num _ p.c.toNat (by first|assumption|decide|(unfold W64;omega))).le c;have q0:=(TV.num _ p.life (by first|assumption|decide|(unfold W64;omega))).le c;have e3:=j7 18 rfl;obtain⟨a,e4,e5⟩:=e3;refine qX 48 e4 ?_;refine aW (fun h6=>?_);have O:gT n0 [((Itm.cA 7),[(I6 0),(U6 7),(St []),S0,(.bool false)]),((Itm.cA p.f),(iN p.f)),((Itm.cA p.c.toNat),(iN p.c.toNat)),(p.dst.tree,(tC p.dst.tree D K)),(p.src.tree,(tC p.src.tree E L)),(p.rpt.tree,(tC p.rpt.tree F M)),((Itm.dA [(Itm.cA p.time),(Itm.cA p.seq)]),[(I6 4),(U6 0),(St []),(Sl a 0 2 2),(.bool false)]),((Itm.cA p.life),(iN p.life))]:=⟨p7,p8,p9,p4,p5,p6,(TV.list 2 e5),q0,trivial⟩;refine zq 1 (zn (zs (zB [0,1,0,0] [(y,1)] (zn (jD (iY .u64 (p.f:Int) 1) 0 (fun h0 o4=>?_) (fun h0 o4=>?_))))))
 ·refine mB 3 [0,0,3,1,0,3,1,1] [(y,1),(y,1)] [.val (iV p.off),.val (iV p.tot),.mem (fun v V=>∃g,v=(Sl g 0 2 2)∧eZ V (some ⟨g,0,none⟩) [(Itm.cA p.off),(Itm.cA p.tot)])] (by simp only[Bc];exact⟨trivial,trivial,by intro v V V2 q hP;(first|trivial|exact PhiMono.go hP q|(obtain⟨g,e,hP⟩:=hP;exact⟨g,e,hP.le q⟩)),fun _ h=>by cases h⟩) ⟨?_,?_,?_,trivial⟩ ?_
  ·refine wV 40 (fun u=>#[(N6 p.off)]) fun u V hV k W hW=>?_
   exact dN _ W
  ·refine wV 40 (fun u=>#[(N6 p.tot)]) fun u V hV k W hW=>?_
   exact dN _ W
  ·refine wN [60,63] (fun u=>[(iV p.off),(iV p.tot)]) fun u V hV k=>?_
   refine⟨[(I6 0),(N6 p.off),(St []),S0,(.bool false),(I6 0),(N6 p.tot),(St []),S0,(.bool false)],89,fun r=>(Sl r 0 2 2),?_,fun g V' c7 hR=>?_⟩
   ·kernel_rfl
   exact⟨g,rfl,eZ.lit [((Itm.cA p.off),(iN p.off)),((Itm.cA p.tot),(iN p.tot))] hR ⟨((TV.num _ p.off (by first|assumption|decide|(unfold W64;omega))).le hV).le c7,((TV.num _ p.tot (by first|assumption|decide|(unfold W64;omega))).le hV).le c7,trivial⟩ (show 2≤R47 by decide)⟩
  intro w1 s0 e0 j8;have m8:=O.le e0;have h7:=j8 7 rfl;obtain⟨h8,k0,k1⟩:=h7;refine qX 64 k0 ?_;obtain⟨r1,r3,b2,n9,c6,a1,k7⟩:=k1.open (by simp);cases n9;have k9:b2.length=2:=by rw[←Az (f:=Prod.fst),c6];rfl
  refine gW (Rw.row h6 8 []) [(I6 0),(U6 7),(St []),S0,(.bool false),(I6 0),(N6 p.f),(St []),S0,(.bool false),(I6 0),(N6 p.c.toNat),(St []),S0,(.bool false),(I6 p.dst.tree.k),(N6 p.dst.tree.n),(St p.dst.tree.s),(.slice D p.dst.tree.l.length K),(.bool p.dst.tree.o),(I6 p.src.tree.k),(N6 p.src.tree.n),(St p.src.tree.s),(.slice E p.src.tree.l.length L),(.bool p.src.tree.o),(I6 p.rpt.tree.k),(N6 p.rpt.tree.n),(St p.rpt.tree.s),(.slice F p.rpt.tree.l.length M),(.bool p.rpt.tree.o),(I6 4),(U6 0),(St []),(Sl a 0 2 2),(.bool false),(I6 0),(N6 p.life),(St []),S0,(.bool false)] 8 [(bK y p.cs 26),(b1,.cells [(I6 0),(U6 0),(St []),S0,(.bool false)].toArray 89 (0,0)),(bK b3 (tC p.dst.tree D K) 89),(bK b7 (tC p.src.tree E L) 89),(bK G (tC p.rpt.tree F M) 89)] 89 87 5 64 2 kR ⟨rfl,rfl,Bg _,by decide⟩ (.tmp 57) (.tmp 64) rfl kR h8 0 2 (b2.flatMap Prod.snd) kR (fun W j=>View.range_of k7 j.view) (by rw[a1.flat_len,k9]) a1.one (by decide) (by unfold maxLen;omega) oW kR kR kR kR kR (fun q8 e8=>?_);refine zq 1 (zn (zs (zB [0,1,0] [(y,1)] (zn (jD p.c 0 (fun h1 s6=>?_) (fun h1 _=>?_))))))
  ·refine zr (zq 2 (dK (fun W j=>mH d W) ?_));refine gV [(I6 2),(U6 0),(St d),S0,(.bool false)] 89 (fun r=>(Sl r 0 1 1)) kR kR kR (fun o3 n1 a6 l1=>?_);have q1:=(TV.str _ d (by first|assumption|decide|(unfold R47;omega))).le a6;have q2:=m8.le a6;have q3:=a1.le a6;have l4:eZ n1 (some ⟨o3,0,none⟩) [(eE d)]:=eZ.lit [((eE d),[(I6 2),(U6 0),(St d),S0,(.bool false)])] l1 ⟨q1,trivial⟩ (show 1≤R47 by decide);obtain⟨r2,r4,e9,o0,e7,c0,k8⟩:=l4.open (by simp);cases o0;have l0:e9.length=1:=by rw[←Az (f:=Prod.fst),e7];rfl
   refine lN 5 89 87 64 1 1 e8 (fun W j=>View.range_of k8 j.view) (by rw[c0.flat_len,l0]) c0.one (by decide) (fun q9 l7=>?_);refine zq 1 (zn (zQ 1 ?_));refine sE 74 q9 (([(I6 0),(U6 7),(St []),S0,(.bool false),(I6 0),(N6 p.f),(St []),S0,(.bool false),(I6 0),(N6 p.c.toNat),(St []),S0,(.bool false),(I6 p.dst.tree.k),(N6 p.dst.tree.n),(St p.dst.tree.s),(.slice D p.dst.tree.l.length K),(.bool p.dst.tree.o),(I6 p.src.tree.k),(N6 p.src.tree.n),(St p.src.tree.s),(.slice E p.src.tree.l.length L),(.bool p.src.tree.o),(I6 p.rpt.tree.k),(N6 p.rpt.tree.n),(St p.rpt.tree.s),(.slice F p.rpt.tree.l.length M),(.bool p.rpt.tree.o),(I6 4),(U6 0),(St []),(Sl a 0 2 2),(.bool false),(I6 0),(N6 p.life),(St []),S0,(.bool false)]++(b2.flatMap Prod.snd))++(e9.flatMap Prod.snd)) 5 ((8+2)+1) [(bK y p.cs 26),(b1,.cells [(I6 0),(U6 0),(St []),S0,(.bool false)].toArray 89 (0,0)),(bK b3 (tC p.dst.tree D K) 89),(bK b7 (tC p.src.tree E L) 89),(bK G (tC p.rpt.tree F M) 89)] 89 kR l7 kR (fun b5 b8 n2 a7 l2 r5=>?_);have q4:=q2.le a7;have q5:=q3.le a7;have q6:=c0.le a7;have l5:eZ n2 b5 ([(Itm.cA 7),(Itm.cA p.f),(Itm.cA p.c.toNat),p.dst.tree,p.src.tree,p.rpt.tree,(Itm.dA [(Itm.cA p.time),(Itm.cA p.seq)]),(Itm.cA p.life)]++[(Itm.cA p.off),(Itm.cA p.tot)]++[(eE d)]):=eZ.ofRow ([((Itm.cA 7),[(I6 0),(U6 7),(St []),S0,(.bool false)]),((Itm.cA p.f),(iN p.f)),((Itm.cA p.c.toNat),(iN p.c.toNat)),(p.dst.tree,(tC p.dst.tree D K)),(p.src.tree,(tC p.src.tree E L)),(p.rpt.tree,(tC p.rpt.tree F M)),((Itm.dA [(Itm.cA p.time),(Itm.cA p.seq)]),[(I6 4),(U6 0),(St []),(Sl a 0 2 2),(.bool false)]),((Itm.cA p.life),(iN p.life))]++b2++e9) l2 (by first|rfl|(simp only[Bz];rfl)) (gT.app (gT.app q4 q5) q6) _ (by first|rfl|(simp only[Br,c6,e7];rfl)) (show((8+2)+1)≤R47 by decide)
   refine cY 178 #[(.slice b5 ((8+2)+1) b8)] (.agg #[(I6 4),(U6 0),(St []),(.slice b5 ((8+2)+1) b8),(.bool false)]) (fun W j=>dW _ _ _ W) ?_;refine aX 1 b1 (zn (aA (dL [2] [(b1,5)] [(.agg #[(I6 4),(U6 0),(St []),(.slice b5 ((8+2)+1) b8),(.bool false)])] (fun W' j=>?_))));exact aH j (View.le_trans (View.le_trans (View.le_trans (View.le_trans (View.le_trans (View.le_trans q e1) b4) c) e0) a6) a7) ⟨[(I6 4),(U6 0),(St []),(.slice b5 ((8+2)+1) b8),(.bool false)],rfl,((TV.list b8 l5)).cast (by simp only[eB,lX,h0,h1,bs,bQ,reduceIte,Aj])⟩
  ·refine zk (zQ 1 ?_);refine sE 74 q8 ([(I6 0),(U6 7),(St []),S0,(.bool false),(I6 0),(N6 p.f),(St []),S0,(.bool false),(I6 0),(N6 p.c.toNat),(St []),S0,(.bool false),(I6 p.dst.tree.k),(N6 p.dst.tree.n),(St p.dst.tree.s),(.slice D p.dst.tree.l.length K),(.bool p.dst.tree.o),(I6 p.src.tree.k),(N6 p.src.tree.n),(St p.src.tree.s),(.slice E p.src.tree.l.length L),(.bool p.src.tree.o),(I6 p.rpt.tree.k),(N6 p.rpt.tree.n),(St p.rpt.tree.s),(.slice F p.rpt.tree.l.length M),(.bool p.rpt.tree.o),(I6 4),(U6 0),(St []),(Sl a 0 2 2),(.bool false),(I6 0),(N6 p.life),(St []),S0,(.bool false)]++(b2.flatMap Prod.snd)) 5 (8+2) [(bK y p.cs 26),(b1,.cells [(I6 0),(U6 0),(St []),S0,(.bool false)].toArray 89 (0,0)),(bK b3 (tC p.dst.tree D K) 89),(bK b7 (tC p.src.tree E L) 89),(bK G (tC p.rpt.tree F M) 89)] 89 kR e8 kR (fun b6 b9 n5 e2 l3 r6=>?_);have m1:=m8.le e2;have m2:=a1.le e2;have l6:eZ n5 b6 ([(Itm.cA 7),(Itm.cA p.f),(Itm.cA p.c.toNat),p.dst.tree,p.src.tree,p.rpt.tree,(Itm.dA [(Itm.cA p.time),(Itm.cA p.seq)]),(Itm.cA p.life)]++[(Itm.cA p.off),(Itm.cA p.tot)]):=eZ.ofRow ([((Itm.cA 7),[(I6 0),(U6 7),(St []),S0,(.bool false)]),((Itm.cA p.f),(iN p.f)),((Itm.cA p.c.toNat),(iN p.c.toNat)),(p.dst.tree,(tC p.dst.tree D K)),(p.src.tree,(tC p.src.tree E L)),(p.rpt.tree,(tC p.rpt.tree F M)),((Itm.dA [(Itm.cA p.time),(Itm.cA p.seq)]),[(I6 4),(U6 0),(St []),(Sl a 0 2 2),(.bool false)]),((Itm.cA p.life),(iN p.life))]++b2) l3 (by first|rfl|(simp only[Bz];rfl)) (gT.app m1 m2) _ (by first|rfl|(simp only[Br,c6];rfl)) (show(8+2)≤R47 by decide)
   refine cY 178 #[(.slice b6 (8+2) b9)] (.agg #[(I6 4),(U6 0),(St []),(.slice b6 (8+2) b9),(.bool false)]) (fun W j=>dW _ _ _ W) ?_;refine aX 1 b1 (zn (aA (dL [2] [(b1,5)] [(.agg #[(I6 4),(U6 0),(St []),(.slice b6 (8+2) b9),(.bool false)])] (fun W' j=>?_))));exact aH j (View.le_trans (View.le_trans (View.le_trans (View.le_trans (View.le_trans q e1) b4) c) e0) e2) ⟨[(I6 4),(U6 0),(St []),(.slice b6 (8+2) b9),(.bool false)],rfl,((TV.list b9 l6)).cast (by simp only[eB,lX,h0,h1,bs,bQ,reduceIte,Aj])⟩
 ·refine zk (zs (zB [0,1,0] [(y,1)] (zn (jD p.c 0 (fun h2 s7=>?_) (fun h2 _=>?_)))))
  ·refine zr (zq 2 (dK (fun W j=>mH d W) ?_));refine gV [(I6 2),(U6 0),(St d),S0,(.bool false)] 89 (fun r=>(Sl r 0 1 1)) kR kR kR (fun e6 k2 X j1=>?_);have m3:=(TV.str _ d (by first|assumption|decide|(unfold R47;omega))).le X;have m4:=O.le X;have j4:eZ k2 (some ⟨e6,0,none⟩) [(eE d)]:=eZ.lit [((eE d),[(I6 2),(U6 0),(St d),S0,(.bool false)])] j1 ⟨m3,trivial⟩ (show 1≤R47 by decide);obtain⟨n7,o1,Z,k5,c1,N,h9⟩:=j4.open (by simp);cases k5;have j0:Z.length=1:=by rw[←Az (f:=Prod.fst),c1];rfl
   refine gW (Rw.row h6 8 []) [(I6 0),(U6 7),(St []),S0,(.bool false),(I6 0),(N6 p.f),(St []),S0,(.bool false),(I6 0),(N6 p.c.toNat),(St []),S0,(.bool false),(I6 p.dst.tree.k),(N6 p.dst.tree.n),(St p.dst.tree.s),(.slice D p.dst.tree.l.length K),(.bool p.dst.tree.o),(I6 p.src.tree.k),(N6 p.src.tree.n),(St p.src.tree.s),(.slice E p.src.tree.l.length L),(.bool p.src.tree.o),(I6 p.rpt.tree.k),(N6 p.rpt.tree.n),(St p.rpt.tree.s),(.slice F p.rpt.tree.l.length M),(.bool p.rpt.tree.o),(I6 4),(U6 0),(St []),(Sl a 0 2 2),(.bool false),(I6 0),(N6 p.life),(St []),S0,(.bool false)] 8 [(bK y p.cs 26),(b1,.cells [(I6 0),(U6 0),(St []),S0,(.bool false)].toArray 89 (0,0)),(bK b3 (tC p.dst.tree D K) 89),(bK b7 (tC p.src.tree E L) 89),(bK G (tC p.rpt.tree F M) 89)] 89 87 5 64 1 kR ⟨rfl,rfl,Bg _,by decide⟩ (.tmp 69) (.tmp 72) rfl kR e6 0 1 (Z.flatMap Prod.snd) kR (fun W j=>View.range_of h9 j.view) (by rw[N.flat_len,j0]) N.one (by decide) (by unfold maxLen;omega) oW kR kR kR kR kR (fun m9 j9=>?_);refine zq 1 (zn (zQ 1 ?_));refine sE 74 m9 ([(I6 0),(U6 7),(St []),S0,(.bool false),(I6 0),(N6 p.f),(St []),S0,(.bool false),(I6 0),(N6 p.c.toNat),(St []),S0,(.bool false),(I6 p.dst.tree.k),(N6 p.dst.tree.n),(St p.dst.tree.s),(.slice D p.dst.tree.l.length K),(.bool p.dst.tree.o),(I6 p.src.tree.k),(N6 p.src.tree.n),(St p.src.tree.s),(.slice E p.src.tree.l.length L),(.bool p.src.tree.o),(I6 p.rpt.tree.k),(N6 p.rpt.tree.n),(St p.rpt.tree.s),(.slice F p.rpt.tree.l.length M),(.bool p.rpt.tree.o),(I6 4),(U6 0),(St []),(Sl a 0 2 2),(.bool false),(I6 0),(N6 p.life),(St []),S0,(.bool false)]++(Z.flatMap Prod.snd)) 5 (8+1) [(bK y p.cs 26),(b1,.cells [(I6 0),(U6 0),(St []),S0,(.bool false)].toArray 89 (0,0)),(bK b3 (tC p.dst.tree D K) 89),(bK b7 (tC p.src.tree E L) 89),(bK G (tC p.rpt.tree F M) 89)] 89 kR j9 kR (fun A I k3 Y j2 o5=>?_)
   have m5:=m4.le Y;have m6:=N.le Y;have j5:eZ k3 A ([(Itm.cA 7),(Itm.cA p.f),(Itm.cA p.c.toNat),p.dst.tree,p.src.tree,p.rpt.tree,(Itm.dA [(Itm.cA p.time),(Itm.cA p.seq)]),(Itm.cA p.life)]++[(eE d)]):=eZ.ofRow ([((Itm.cA 7),[(I6 0),(U6 7),(St []),S0,(.bool false)]),((Itm.cA p.f),(iN p.f)),((Itm.cA p.c.toNat),(iN p.c.toNat)),(p.dst.tree,(tC p.dst.tree D K)),(p.src.tree,(tC p.src.tree E L)),(p.rpt.tree,(tC p.rpt.tree F M)),((Itm.dA [(Itm.cA p.time),(Itm.cA p.seq)]),[(I6 4),(U6 0),(St []),(Sl a 0 2 2),(.bool false)]),((Itm.cA p.life),(iN p.life))]++Z) j2 (by first|rfl|(simp only[Bz];rfl)) (gT.app m5 m6) _ (by first|rfl|(simp only[Br,c1];rfl)) (show(8+1)≤R47 by decide);refine cY 178 #[(.slice A (8+1) I)] (.agg #[(I6 4),(U6 0),(St []),(.slice A (8+1) I),(.bool false)]) (fun W j=>dW _ _ _ W) ?_;refine aX 1 b1 (zn (aA (dL [2] [(b1,5)] [(.agg #[(I6 4),(U6 0),(St []),(.slice A (8+1) I),(.bool false)])] (fun W' j=>?_))));exact aH j (View.le_trans (View.le_trans (View.le_trans (View.le_trans (View.le_trans q e1) b4) c) X) Y) ⟨[(I6 4),(U6 0),(St []),(.slice A (8+1) I),(.bool false)],rfl,((TV.list I j5)).cast (by simp only[eB,lX,h0,h2,bs,bQ,reduceIte,Aj])⟩
  ·refine zk (zQ 1 ?_);refine sE 74 (Rw.row h6 8 []) [(I6 0),(U6 7),(St []),S0,(.bool false),(I6 0),(N6 p.f),(St []),S0,(.bool false),(I6 0),(N6 p.c.toNat),(St []),S0,(.bool false),(I6 p.dst.tree.k),(N6 p.dst.tree.n),(St p.dst.tree.s),(.slice D p.dst.tree.l.length K),(.bool p.dst.tree.o),(I6 p.src.tree.k),(N6 p.src.tree.n),(St p.src.tree.s),(.slice E p.src.tree.l.length L),(.bool p.src.tree.o),(I6 p.rpt.tree.k),(N6 p.rpt.tree.n),(St p.rpt.tree.s),(.slice F p.rpt.tree.l.length M),(.bool p.rpt.tree.o),(I6 4),(U6 0),(St []),(Sl a 0 2 2),(.bool false),(I6 0),(N6 p.life),(St []),S0,(.bool false)] 5 8 [(bK y p.cs 26),(b1,.cells [(I6 0),(U6 0),(St []),S0,(.bool false)].toArray 89 (0,0)),(bK b3 (tC p.dst.tree D K) 89),(bK b7 (tC p.src.tree E L) 89),(bK G (tC p.rpt.tree F M) 89)] 89 kR ⟨rfl,rfl,Bg _,by decide⟩ kR (fun C J k4 c9 j3 o6=>?_);have m7:=O.le c9;have j6:eZ k4 C ([(Itm.cA 7),(Itm.cA p.f),(Itm.cA p.c.toNat),p.dst.tree,p.src.tree,p.rpt.tree,(Itm.dA [(Itm.cA p.time),(Itm.cA p.seq)]),(Itm.cA p.life)]):=eZ.ofRow ([((Itm.cA 7),[(I6 0),(U6 7),(St []),S0,(.bool false)]),((Itm.cA p.f),(iN p.f)),((Itm.cA p.c.toNat),(iN p.c.toNat)),(p.dst.tree,(tC p.dst.tree D K)),(p.src.tree,(tC p.src.tree E L)),(p.rpt.tree,(tC p.rpt.tree F M)),((Itm.dA [(Itm.cA p.time),(Itm.cA p.seq)]),[(I6 4),(U6 0),(St []),(Sl a 0 2 2),(.bool false)]),((Itm.cA p.life),(iN p.life))]) j3 (by first|rfl|(simp only[Bz];rfl)) m7 _ (by first|rfl|(simp only[Br];rfl)) (show 8≤R47 by decide);refine cY 178 #[(.slice C 8 J)] (.agg #[(I6 4),(U6 0),(St []),(.slice C 8 J),(.bool false)]) (fun W j=>dW _ _ _ W) ?_
   refine aX 1 b1 (zn (aA (dL [2] [(b1,5)] [(.agg #[(I6 4),(U6 0),(St []),(.slice C 8 J),(.bool false)])] (fun W' j=>?_))));exact aH j (View.le_trans (View.le_trans (View.le_trans (View.le_trans q e1) b4) c) c9) ⟨[(I6 4),(U6 0),(St []),(.slice C 8 J),(.bool false)],rfl,((TV.list J j6)).cast (by simp only[eB,lX,h0,h2,bs,bQ,reduceIte,Aj])⟩
theorem aA2{V : View} : ∀ {L : List (Itm.Tr × List Value)}, gT V L → ∀ (i : Nat) (p : Itm.Tr × List Value) (j : List Value), i < L.length → p.2.length = 5 → cK (L.flatMap Prod.snd ++ j) (i * 5) p.2 = (L.set i p).flatMap Prod.snd ++ j
 | [],_,i,p,j,d,_=>by simp at d
 |q::r,⟨c,f⟩,0,p,j,_,a=>by
  have g:=c.len5;rw[Gq,Bu,Bu,Al,Al];unfold cK;rw[Ft,Aw,a,Da,Ch,List.drop_append_of_le_length oW,Cj oW,Ch]
 |q::r,⟨c,f⟩,i+1,p,j,d,a=>by
  have g:=c.len5;have h:=aA2 f i p j (by simpa using d) a;rw[Gn,Bu,Bu,Al,Al,←h];unfold cK;rw[a,show(i+1)*5=q.2.length+i*5 by omega,Gy,Bf oW,show q.2.length+i*5-q.2.length=i*5 by omega,show q.2.length+i*5+5=q.2.length+(i*5+5) by omega,Gw,Cj oW,Ch,show q.2.length+(i*5+5)-q.2.length=i*5+5 by omega];simp only[Al]
theorem gT.set{V : View} : ∀ {L : List (Itm.Tr × List Value)}, gT V L → ∀ (i : Nat) (p : Itm.Tr × List Value), TV V p.1 p.2 → gT V (L.set i p)
 | [],_,_,_,_=>trivial
 |_::_,⟨_,a⟩,0,_,c=>⟨c,a⟩
 |_::_,⟨d,a⟩,i+1,p,c=>⟨d,a.set i p c⟩
def aD8(k:Int)(l:List Itm.Tr):Itm.Tr:=if k==0 then Itm.dA l else Itm.dA (l.set (l.length-1) (eE (lC k (Itm.aG (Itm.dA l)))))
theorem aF0(k:Int)(l:List Itm.Tr)(w:World){U:View}(hU:See U w)(a:Option Addr)(c:Nat)(G:eZ U a l)(N:0≤k)(O:k≤2)(hr:Itm.aJ 8 (Itm.dA l)=true)(b4:Itm.szT (Itm.dA l)≤1000000000)(E:l≠[])(b2:l.length≤1000):
    CP 244 #[.int .i64 k,.agg #[.int .i64 4,.int .u64 0,.string (B []),.slice a l.length c,.bool false]] w (fO w U (mA (aD8 k l))):=by
 have hb:=Itm.cI (Itm.dA l);have a8:=pD (Itm.aG (Itm.dA l)) N O;have F:0<l.length:=Ec.2 E;have V:IntKind.i64.wrap ((l.length:Int)-1)=((l.length-1:Nat):Int):=by
  rw[IntWalk.i64_in _ oW];omega
 have D:TV U (Itm.dA l) [.int .i64 4,.int .u64 0,.string (B []),.slice a l.length c,.bool false]:=TV.list c G;refine dE 30 Tryz.func244 hU ?_;refine zs (zr (aW (fun I=>(aW (fun A=>(zn (zs (zQ 2 (zn (fQ k 0 (fun J _=>?_) (fun J a1=>?_)))))))))))
 ·refine zB [1] [(I,5)] (aX 1 A (zn (aA (dL [2] [(A,5)] [(.agg #[(I6 4),(U6 0),(St []),(.slice a l.length c),(.bool false)])] (fun Z h=>?_)))));exact aH h (View.le_refl _) ⟨[(I6 4),(U6 0),(St []),(.slice a l.length c),(.bool false)],rfl,(D).cast (by simp only[aD8,J,bs,bQ,reduceIte,Aj])⟩
 ·refine zk (zB [1] [(I,5)] (cY 136 #[(.agg #[(I6 4),(U6 0),(St []),(.slice a l.length c),(.bool false)])] (.tuple #[(St (Itm.aG (Itm.dA l))),(I6 0)]) (fun W h=>oG _ _ h.view D hr (by unfold aAL;omega)) ?_));refine zq 5 (zn (zB [0,1] [(I,1)] ?_));obtain⟨q,u,y,rfl,x,g,K⟩:=G.open E;refine aDl 251 #[(Sl q u l.length c)] 89 5 l.length (y.flatMap Prod.snd) kR (fun W h=>aBQ h.view q u l.length _ _ K (by rw[g.flat_len,←Az (f:=Prod.fst),x]) g.one F oW) kR kR (fun d r X a6=>?_);refine zq 1 (zn (zQ 4 (dS 22 (I6 (IntKind.i64.wrap ((l.length:Int)-1))) (L6 (l.length-1)) (Ag (Value.int .i64) V) ?_)));refine zq 2 (cY 252 #[(I6 k),(St (Itm.aG (Itm.dA l)))] (St (lC k (Itm.aG (Itm.dA l)))) (fun W h=>aHo k _ W (by unfold R47;omega)) ?_);refine dK (fun W h=>mH (lC k (Itm.aG (Itm.dA l))) W) (cD (.pointer (some ⟨d,0+(l.length-1)*5,none⟩)) (rIx 89 rfl d 0 l.length r (l.length-1) 5) ?_);have a7:y.length=l.length:=by rw[←Az (f:=Prod.fst),x]
  refine aLB 2 d (0+(l.length-1)*5) 5 (y.flatMap Prod.snd++X) 89 89 (.agg #[(I6 2),(U6 0),(St (lC k (Itm.aG (Itm.dA l)))),S0,(.bool false)]) (.tmp 27) (.tmp 26) rfl kR kR kR kR (by rw[Ac,g.flat_len];omega) rfl kR ?_;refine gG [(I,.cells [(I6 4),(U6 0),(St []),(Sl q u l.length c),(.bool false)].toArray 89 (0,0)),(A,.cells [(I6 0),(U6 0),(St []),S0,(.bool false)].toArray 89 (0,0))] [] d (cK (y.flatMap Prod.snd++X) (0+(l.length-1)*5) [(I6 2),(U6 0),(St (lC k (Itm.aG (Itm.dA l)))),S0,(.bool false)]) 89 kR (fun Y j C=>?_);have k6:=(TV.str _ (lC k (Itm.aG (Itm.dA l))) (by first|assumption|decide|(unfold R47;omega))).le j;rw[Aw,aA2 g (l.length-1) ((eE (lC k (Itm.aG (Itm.dA l)))),[(I6 2),(U6 0),(St (lC k (Itm.aG (Itm.dA l)))),S0,(.bool false)]) X oW rfl]at C;have L:eZ Y (some ⟨d,0,none⟩) (l.set (l.length-1) (eE (lC k (Itm.aG (Itm.dA l))))):=eZ.ofRow (y.set (l.length-1) ((eE (lC k (Itm.aG (Itm.dA l)))),[(I6 2),(U6 0),(St (lC k (Itm.aG (Itm.dA l)))),S0,(.bool false)])) ⟨fun _=>⟨d,rfl,(gK C).1⟩⟩ rfl ((g.le (by first|exact j|exact View.le_trans ‹_› j)).set _ _ k6) _ (by rw[Gu,x]) (by rw[Cp];unfold R47;omega);have M:TV Y (Itm.dA (l.set (l.length-1) (eE (lC k (Itm.aG (Itm.dA l)))))) [(I6 4),(U6 0),(St []),(Sl d 0 l.length r),(.bool false)]:=by
     have:=TV.list r L;rw[Cp]at this;exact this
  refine zn (zQ 1 (cY 178 #[(Sl d 0 l.length r)] (.agg #[(I6 4),(U6 0),(St []),(Sl d 0 l.length r),(.bool false)]) (fun W h=>dW _ _ _ W) ?_));refine aX 1 A (zn (aA (dL [2] [(A,5)] [(.agg #[(I6 4),(U6 0),(St []),(Sl d 0 l.length r),(.bool false)])] (fun Z h=>?_))));exact aH h j ⟨[(I6 4),(U6 0),(St []),(Sl d 0 l.length r),(.bool false)],rfl,(M).cast (by simp only[aD8,J,bs,bQ,reduceIte,Aj])⟩
def jS(x:Int):Bool:=decide (x≥1)&&decide (x≤65535)
theorem aE5(x:Int)(w:World):CP 225 #[.int .i64 x] w (Ret (.bool (jS x)) w):=by
 refine dI 9 Tryz.func225 ?_;refine zQ 1 (zn (zQ 3 (cN 5 (decide (x≥1)) (fun a=>?_) (fun a=>?_))))
 ·refine zq 4 (zn (aA (aO [2] [(.bool (decide (x≤65535)))] (fun d c=>?_))));exact⟨by simp only[dC,jS,a,bs,bQ,reduceIte],c.below⟩
 ·refine zq 4 (zn (aA (aO [2] [(.bool false)] (fun d c=>?_))));exact⟨by simp only[dC,jS,a,bs,bQ,reduceIte],c.below⟩
def cH(b:Bk):Int:=if !jS b.t|| !jS b.n||decide ((b.f:Int)>255)||decide (b.c<0)||decide (b.c>2)then 1 else if decide ((b.d.length:Int)>4000)then 4 else if !((b.t==1)==(b.n==1))then 8 else 0
theorem aAj(x:Bk)(w:World):CP 193 #[x.V] w (Ret (.int .i64 (cH x)) w):=by
 refine dI 42 Tryz.func193 ?_;refine zs (zr (aW (fun d=>(zq 1 (zn (zs (aB (zB [0,1] [(d,1)] (cY 225 #[(I6 x.t)] (.bool (jS x.t)) (fun W a=>aE5 _ W) ?_)))))))));refine zq 2 (cN 8 (!(jS x.t)) (fun c=>?_) (fun c=>?_))
 ·refine zq 21 (zn (dP (zQ 1 (zn (aA (aO [2] [(I6 1)] (fun g a=>?_)))))));exact⟨by simp only[dC,cH,c,bs,bQ,reduceIte],a.below⟩
 ·refine cG [0,1] [(d,1)] (cY 225 #[(I6 x.n)] (.bool (jS x.n)) (fun W a=>aE5 _ W) ?_);refine zq 3 (cN 14 (!(jS x.n)) (fun f=>?_) (fun f=>?_))
  ·refine zq 15 (zn (dP (zQ 1 (zn (aA (aO [2] [(I6 1)] (fun g a=>?_)))))));exact⟨by simp only[dC,cH,c,f,bs,bQ,reduceIte],a.below⟩
  ·refine cG [0,1,0,0,0] [(d,1)] (cN 19 (decide ((x.f:Int)>255)) (fun h=>?_) (fun h=>?_))
   ·refine zq 10 (zn (dP (zQ 1 (zn (aA (aO [2] [(I6 1)] (fun g a=>?_)))))));exact⟨by simp only[dC,cH,c,f,h,bs,bQ,reduceIte],a.below⟩
   ·refine cG [0,1,0,0,0] [(d,1)] (cN 24 (decide (x.c<0)) (fun j=>?_) (fun j=>?_))
    ·refine zq 5 (zn (dP (zQ 1 (zn (aA (aO [2] [(I6 1)] (fun g a=>?_)))))));exact⟨by simp only[dC,cH,c,f,h,j,bs,bQ,reduceIte],a.below⟩
    ·refine cG [0,1,0,0,0] [(d,1)] (zn (gN (decide (x.c>2)) (fun k=>?_) (fun k=>?_)))
     ·refine zQ 1 (zn (aA (aO [2] [(I6 1)] (fun g a=>?_))));exact⟨by simp only[dC,cH,c,f,h,j,k,bs,bQ,reduceIte],a.below⟩
     ·refine zB [0,1,0,0,0] [(d,1)] (zn (gN (decide ((((x.d).length:Nat):Int)>4000)) (fun q=>?_) (fun q=>?_)))
      ·refine zQ 1 (zn (aA (aO [2] [(I6 4)] (fun g a=>?_))));exact⟨by simp only[dC,cH,c,f,h,j,k,q,bs,bQ,reduceIte],a.below⟩
      ·refine zB [0,1,0,0,1,0,0,0] [(d,1),(d,1)] (zn (gN (!((x.t==1)==(x.n==1))) (fun r=>?_) (fun r=>?_)))
       ·refine zQ 1 (zn (aA (aO [2] [(I6 8)] (fun g a=>?_))));exact⟨by simp only[dC,cH,c,f,h,j,k,q,r,bs,bQ,reduceIte],a.below⟩
       ·refine zk (zQ 1 (zn (aA (aO [2] [(I6 0)] (fun g a=>?_)))));exact⟨by simp only[dC,cH,c,f,h,j,k,q,r,bs,bQ,reduceIte],a.below⟩
theorem Mem.peek{W0:Cx}{U:View}{σ:aN}{W:World}(h:Mem W0 U σ W)(k b:Nat)(cs:List Value)(t:TypeId)(x:σ[k]? =some (b,.cells cs.toArray t (0,0))):∃V,View.le U V∧V.range b 0 cs∧∀a v,V a=some v→W.cell? a=some v:=by
 obtain⟨y,_,A⟩:=h.own k b _ x;let C:View:=fun a=>if a.block=b∧a.spot=none then cs[a.off]? else none
 refine⟨U.or C,View.le_or _ _,fun j v r=>View.or_r ?_ (A _ rfl),fun a v d=>?_⟩
 ·show(if b=b∧none=none then cs[0+j]? else none)=some v;rw[Ar ⟨rfl,rfl⟩,Aw];exact r
 ·unfold View.or at d;cases g:U a with
  |some u=>rw[g]at d;exact h.view a v (by rw[g];exact d)
  |none=>
   rw[g,Option.none_or]at d;have c:(if a.block=b∧a.spot=none then cs[a.off]? else none)=some v:=d;split at c
   ·next f=>
    have q:a=⟨b,a.off,none⟩:=by
     obtain⟨B,D,E⟩:=a;simp only at f ⊢;rw[f.1,f.2]
    rw[q,cell_of_row _ _ _ _ _ _ y];simpa using c
   ·cases c
def dJ(x:Bk)(sum:List UInt8):List Itm.Tr:=[Itm.cA x.t.toNat,Itm.cA x.n.toNat,Itm.cA x.f,Itm.cA x.c.toNat,eE x.d]++(if x.c !=0 then[eE sum]else[])
theorem aK5(x:Bk)(a:List UInt8)(w:World){U:View}(hU:See U w)(hx:x.ok)(hs:a.length≤R47)(ht:jS x.t=true)(hn:jS x.n=true)(c8:0≤x.c)(c9:x.c≤2):
    CP 260 #[x.V,.string (B a)] w (fO w U (mA (Itm.dA (dJ x a)))):=by
 have hf:=hx.f;have hd:=hx.d;unfold jS at ht hn;simp only[Ae,Ak]at ht hn;have w1:IntKind.u64.wrap x.t=(x.t.toNat:Int):=by have:=u64_in (x:=x.t) oW oW;omega
 have w2:IntKind.u64.wrap x.n=(x.n.toNat:Int):=by have:=u64_in (x:=x.n) oW oW;omega
 have w3:IntKind.u64.wrap x.c=(x.c.toNat:Int):=by have:=u64_in (x:=x.c) oW oW;omega
 have n1:x.t.toNat<W64:=by unfold W64;omega
 have n2:x.n.toNat<W64:=by unfold W64;omega
 have n3:x.c.toNat<W64:=by unfold W64;omega
 refine dE 35 Tryz.func260 hU ?_;refine zs (zr (aW (fun C=>(aW (fun I=>(zn (zs ?_)))))));refine mB 6 [0,3,1,1,0,3,1,1,0,3,1,0,3,1,1,0,3] [(C,1),(C,1),(C,1),(C,1),(C,1)] [.val (N6 x.t.toNat),.val (iV x.t.toNat),.val (N6 x.n.toNat),.val (iV x.n.toNat),.val (iV x.f),.val (N6 x.c.toNat),.val (iV x.c.toNat)] (by simp only[Bc];exact⟨trivial,trivial,trivial,trivial,trivial,trivial,trivial,fun _ h=>by cases h⟩) ⟨?_,?_,?_,?_,?_,?_,?_,trivial⟩ ?_
 ·exact wE (U6 (IntKind.u64.wrap x.t)) (Ag (Value.int .u64) w1)
 ·refine wV 40 (fun u=>#[(N6 x.t.toNat)]) fun u V hV K W hW=>?_
  exact dN _ W
 ·exact wE (U6 (IntKind.u64.wrap x.n)) (Ag (Value.int .u64) w2)
 ·refine wV 40 (fun u=>#[(N6 x.n.toNat)]) fun u V hV K W hW=>?_
  exact dN _ W
 ·refine wV 40 (fun u=>#[(N6 x.f)]) fun u V hV K W hW=>?_
  exact dN _ W
 ·exact wE (U6 (IntKind.u64.wrap x.c)) (Ag (Value.int .u64) w3)
 ·refine wV 40 (fun u=>#[(N6 x.c.toNat)]) fun u V hV K W hW=>?_
  exact dN _ W
 intro u2 V2 c c6;have k3:=(TV.num _ x.t.toNat (by first|assumption|decide|(unfold W64;omega))).le c;have k4:=(TV.num _ x.n.toNat (by first|assumption|decide|(unfold W64;omega))).le c;have k5:=(TV.num _ x.f (by first|assumption|decide|(unfold W64;omega))).le c;have k6:=(TV.num _ x.c.toNat (by first|assumption|decide|(unfold W64;omega))).le c;refine dK (fun W D=>mH x.d W) (aW (fun b7=>?_));have E:gT V2 [((Itm.cA x.t.toNat),(iN x.t.toNat)),((Itm.cA x.n.toNat),(iN x.n.toNat)),((Itm.cA x.f),(iN x.f)),((Itm.cA x.c.toNat),(iN x.c.toNat)),((eE x.d),[(I6 2),(U6 0),(St x.d),S0,(.bool false)])]:=⟨k3,k4,k5,k6,(TV.str _ x.d (by first|assumption|decide|(unfold R47;omega))),trivial⟩;refine zq 1 (zn (zs (zB [0,1,0] [(C,1)] (zn (jD x.c 0 (fun h0 c7=>?_) (fun h0 _=>?_))))))
 ·refine zr (zq 2 (dK (fun W D=>mH a W) ?_));refine gV [(I6 2),(U6 0),(St a),S0,(.bool false)] 89 (fun r=>(Sl r 0 1 1)) kR kR kR (fun g8 V8 J a8=>?_);have b3:=(TV.str _ a (by first|assumption|decide|(unfold R47;omega))).le J;have b4:=E.le J;have b2:eZ V8 (some ⟨g8,0,none⟩) [(eE a)]:=eZ.lit [((eE a),[(I6 2),(U6 0),(St a),S0,(.bool false)])] a8 ⟨b3,trivial⟩ (show 1≤R47 by decide);obtain⟨c0,c1,A,a7,F,q,L⟩:=b2.open (by simp);cases a7;have M:A.length=1:=by rw[←Az (f:=Prod.fst),F];rfl
  refine gW (Rw.row b7 5 []) [(I6 0),(N6 x.t.toNat),(St []),S0,(.bool false),(I6 0),(N6 x.n.toNat),(St []),S0,(.bool false),(I6 0),(N6 x.f),(St []),S0,(.bool false),(I6 0),(N6 x.c.toNat),(St []),S0,(.bool false),(I6 2),(U6 0),(St x.d),S0,(.bool false)] 5 [(bK C x.cs 38),(I,.cells [(I6 0),(U6 0),(St []),S0,(.bool false)].toArray 89 (0,0))] 89 87 5 64 1 kR ⟨rfl,rfl,Bg _,by decide⟩ (.tmp 28) (.tmp 31) rfl kR g8 0 1 (A.flatMap Prod.snd) kR (fun W D=>View.range_of L D.view) (by rw[q.flat_len,M]) q.one (by decide) (by unfold maxLen;omega) oW kR kR kR kR kR (fun b9 Z=>?_);refine zq 1 (zn (zQ 1 ?_));refine sE 33 b9 ([(I6 0),(N6 x.t.toNat),(St []),S0,(.bool false),(I6 0),(N6 x.n.toNat),(St []),S0,(.bool false),(I6 0),(N6 x.f),(St []),S0,(.bool false),(I6 0),(N6 x.c.toNat),(St []),S0,(.bool false),(I6 2),(U6 0),(St x.d),S0,(.bool false)]++(A.flatMap Prod.snd)) 5 (5+1) [(bK C x.cs 38),(I,.cells [(I6 0),(U6 0),(St []),S0,(.bool false)].toArray 89 (0,0))] 89 kR Z kR (fun d j a1 y N c2=>?_);have b5:=b4.le y;have b6:=q.le y;have X:eZ a1 d ([(Itm.cA x.t.toNat),(Itm.cA x.n.toNat),(Itm.cA x.f),(Itm.cA x.c.toNat),(eE x.d)]++[(eE a)]):=eZ.ofRow ([((Itm.cA x.t.toNat),(iN x.t.toNat)),((Itm.cA x.n.toNat),(iN x.n.toNat)),((Itm.cA x.f),(iN x.f)),((Itm.cA x.c.toNat),(iN x.c.toNat)),((eE x.d),[(I6 2),(U6 0),(St x.d),S0,(.bool false)])]++A) N (by first|rfl|(simp only[Bz];rfl)) (gT.app b5 b6) _ (by first|rfl|(simp only[Br,F];rfl)) (show(5+1)≤R47 by decide);refine cY 178 #[(.slice d (5+1) j)] (.agg #[(I6 4),(U6 0),(St []),(.slice d (5+1) j),(.bool false)]) (fun W D=>dW _ _ _ W) ?_
  refine aX 1 I (zn (aA (dL [2] [(I,5)] [(.agg #[(I6 4),(U6 0),(St []),(.slice d (5+1) j),(.bool false)])] (fun W' D=>?_))));exact aH D (View.le_trans (View.le_trans c J) y) ⟨[(I6 4),(U6 0),(St []),(.slice d (5+1) j),(.bool false)],rfl,((TV.list j X)).cast (by simp only[dJ,h0,bs,bQ,reduceIte,Aj])⟩
 ·refine zk (zQ 1 ?_);refine sE 33 (Rw.row b7 5 []) [(I6 0),(N6 x.t.toNat),(St []),S0,(.bool false),(I6 0),(N6 x.n.toNat),(St []),S0,(.bool false),(I6 0),(N6 x.f),(St []),S0,(.bool false),(I6 0),(N6 x.c.toNat),(St []),S0,(.bool false),(I6 2),(U6 0),(St x.d),S0,(.bool false)] 5 5 [(bK C x.cs 38),(I,.cells [(I6 0),(U6 0),(St []),S0,(.bool false)].toArray 89 (0,0))] 89 kR ⟨rfl,rfl,Bg _,by decide⟩ kR (fun g k a6 G O c4=>?_);have b8:=E.le G;have Y:eZ a6 g ([(Itm.cA x.t.toNat),(Itm.cA x.n.toNat),(Itm.cA x.f),(Itm.cA x.c.toNat),(eE x.d)]):=eZ.ofRow ([((Itm.cA x.t.toNat),(iN x.t.toNat)),((Itm.cA x.n.toNat),(iN x.n.toNat)),((Itm.cA x.f),(iN x.f)),((Itm.cA x.c.toNat),(iN x.c.toNat)),((eE x.d),[(I6 2),(U6 0),(St x.d),S0,(.bool false)])]) O (by first|rfl|(simp only[Bz];rfl)) b8 _ (by first|rfl|(simp only[Br];rfl)) (show 5≤R47 by decide);refine cY 178 #[(.slice g 5 k)] (.agg #[(I6 4),(U6 0),(St []),(.slice g 5 k),(.bool false)]) (fun W D=>dW _ _ _ W) ?_;refine aX 1 I (zn (aA (dL [2] [(I,5)] [(.agg #[(I6 4),(U6 0),(St []),(.slice g 5 k),(.bool false)])] (fun W' D=>?_))));exact aH D (View.le_trans c G) ⟨[(I6 4),(U6 0),(St []),(.slice g 5 k),(.bool false)],rfl,((TV.list k Y)).cast (by simp only[dJ,h0,bs,bQ,reduceIte,Aj])⟩
def aLs(k:Int)(l:List Itm.Tr):List UInt8:=lC k (Itm.aG (Itm.dA (l.set (l.length-1) (eE (Z (2*k.toNat))))))
def aD7(k:Int)(l:List Itm.Tr):Itm.Tr:=if k==0 then Itm.dA l else Itm.dA (l.set (l.length-1) (eE (aLs k l)))
theorem aGv(k:Int)(l:List Itm.Tr)(w:World){U:View}(hU:See U w)(a:Option Addr)(c:Nat)(a1:eZ U a l)(N:0≤k)(O:k≤2)(hr:Itm.aJ 8 (Itm.dA (l.set (l.length-1) (eE (Z (2*k.toNat)))))=true)(b9:Itm.szT (Itm.dA (l.set (l.length-1) (eE (Z (2*k.toNat)))))≤1000000000)(X:l≠[])(b8:l.length≤1000):
    CP 259 #[.int .i64 k,.agg #[.int .i64 4,.int .u64 0,.string (B []),.slice a l.length c,.bool false]] w (fO w U (mA (aD7 k l))):=by
 have hb:=Itm.cI (Itm.dA (l.set (l.length-1) (eE (Z (2*k.toNat)))));have b7:=pD (Itm.aG (Itm.dA (l.set (l.length-1) (eE (Z (2*k.toNat)))))) N O;have c0:=tI (2*k.toNat);have Y:0<l.length:=Ec.2 X;have V:2*k=((2*k.toNat:Nat):Int):=by omega
 have a6:IntKind.i64.wrap ((l.length:Int)-1)=((l.length-1:Nat):Int):=by
  rw[IntWalk.i64_in _ oW];omega
 have b4:TV U (Itm.dA l) [.int .i64 4,.int .u64 0,.string (B []),.slice a l.length c,.bool false]:=TV.list c a1;refine dE 40 Tryz.func259 hU ?_;refine zs (zr (aW (fun F=>(aW (fun D=>(zn (zs (zQ 2 (zn (fQ k 0 (fun h0 _=>?_) (fun h0 b5=>?_)))))))))))
 ·refine zB [1] [(F,5)] (aX 1 D (zn (aA (dL [2] [(D,5)] [(.agg #[(I6 4),(U6 0),(St []),(.slice a l.length c),(.bool false)])] (fun W' u=>?_)))));exact aH u (View.le_refl _) ⟨[(I6 4),(U6 0),(St []),(.slice a l.length c),(.bool false)],rfl,(b4).cast (by simp only[aD7,aLs,h0,bs,bQ,reduceIte,Aj])⟩
 ·refine zk (zB [0,1] [(F,1)] ?_);obtain⟨q,r,j,rfl,E,A,a7⟩:=a1.open X;refine aDl 251 #[(Sl q r l.length c)] 89 5 l.length (j.flatMap Prod.snd) kR (fun W u=>aBQ u.view q r l.length _ _ a7 (by rw[A.flat_len,←Az (f:=Prod.fst),E]) A.one Y oW) kR kR (fun d y x b6=>?_);refine zq 1 (zn (zQ 4 (dS 17 (I6 (IntKind.i64.wrap ((l.length:Int)-1))) (I6 ((l.length-1:Nat):Int)) (Ag (Value.int .i64) a6) ?_)));refine zq 1 (cY 247 #[(I6 k)] (I6 ((2*k.toNat:Nat):Int)) (fun W u=>(V▸aE6 k W N O)) ?_);refine dK (fun W u=>aDc (2*k.toNat) W oW) (dK (fun W u=>mH (Z (2*k.toNat)) W) (cD (.pointer (some ⟨d,0+(l.length-1)*5,none⟩)) (rIx 89 rfl d 0 l.length y (l.length-1) 5) ?_));have K:j.length=l.length:=by rw[←Az (f:=Prod.fst),E]
  refine aLB 2 d (0+(l.length-1)*5) 5 (j.flatMap Prod.snd++x) 89 89 (.agg #[(I6 2),(U6 0),(St (Z (2*k.toNat))),S0,(.bool false)]) (.tmp 22) (.tmp 21) rfl kR kR kR kR (by rw[Ac,A.flat_len,K];omega) rfl kR ?_;have I:cK (j.flatMap Prod.snd++x) (0+(l.length-1)*5) [(I6 2),(U6 0),(St (Z (2*k.toNat))),S0,(.bool false)]=(j.set (l.length-1) ((eE (Z (2*k.toNat))),[(I6 2),(U6 0),(St (Z (2*k.toNat))),S0,(.bool false)])).flatMap Prod.snd++x:=by rw[Aw,aA2 A (l.length-1) ((eE (Z (2*k.toNat))),[(I6 2),(U6 0),(St (Z (2*k.toNat))),S0,(.bool false)]) x oW rfl]
  refine aBd _ [(F,.cells [(I6 4),(U6 0),(St []),(Sl q r l.length c),(.bool false)].toArray 89 (0,0)),(D,.cells [(I6 0),(U6 0),(St []),S0,(.bool false)].toArray 89 (0,0)),(d,.cells ((j.set (l.length-1) ((eE (Z (2*k.toNat))),[(I6 2),(U6 0),(St (Z (2*k.toNat))),S0,(.bool false)])).flatMap Prod.snd++x).toArray 89 (0,0))] (fun W h=>h.eqv ((show _=([(F,.cells [(I6 4),(U6 0),(St []),(Sl q r l.length c),(.bool false)].toArray 89 (0,0)),(D,.cells [(I6 0),(U6 0),(St []),S0,(.bool false)].toArray 89 (0,0)),(d,.cells (cK (j.flatMap Prod.snd++x) (0+(l.length-1)*5) [(I6 2),(U6 0),(St (Z (2*k.toNat))),S0,(.bool false)]).toArray 89 (0,0))]:aN)from by kernel_rfl).trans (by rw[I]))) ?_;have g:=A.set (l.length-1) ((eE (Z (2*k.toNat))),[(I6 2),(U6 0),(St (Z (2*k.toNat))),S0,(.bool false)]) (TV.str _ (Z (2*k.toNat)) (by first|assumption|decide|(unfold R47;omega)));have C:(j.set (l.length-1) ((eE (Z (2*k.toNat))),[(I6 2),(U6 0),(St (Z (2*k.toNat))),S0,(.bool false)])).length=l.length:=by rw[Cp,K]
  refine zn (zQ 1 (cY 178 #[(Sl d 0 l.length y)] (.agg #[(I6 4),(U6 0),(St []),(Sl d 0 l.length y),(.bool false)]) (fun W u=>dW _ _ _ W) ?_));refine cY 136 #[(.agg #[(I6 4),(U6 0),(St []),(Sl d 0 l.length y),(.bool false)])] (.tuple #[(St (Itm.aG (Itm.dA (l.set (l.length-1) (eE (Z (2*k.toNat))))))),(I6 0)]) (fun W u=>(by obtain⟨V9,v1,v2,v3⟩:=u.peek 2 d ((j.set (l.length-1) ((eE (Z (2*k.toNat))),[(I6 2),(U6 0),(St (Z (2*k.toNat))),S0,(.bool false)])).flatMap Prod.snd++x) 89 kR;have ht:=TV.list y (eZ.ofRow (j.set (l.length-1) ((eE (Z (2*k.toNat))),[(I6 2),(U6 0),(St (Z (2*k.toNat))),S0,(.bool false)])) ⟨fun _=>⟨d,rfl,(gK v2).1⟩⟩ rfl (g.le v1) (l.set (l.length-1) (eE (Z (2*k.toNat)))) (by rw[Gu,E]) (by rw[Cp];unfold R47;omega));rw[Cp]at ht;exact oG _ _ v3 ht hr (by unfold aAL;omega))) ?_;refine zq 5 (zn (zQ 4 (dS 32 (I6 (IntKind.i64.wrap ((l.length:Int)-1))) (I6 ((l.length-1:Nat):Int)) (Ag (Value.int .i64) a6) ?_)));refine zq 2 (cY 252 #[(I6 k),(St (Itm.aG (Itm.dA (l.set (l.length-1) (eE (Z (2*k.toNat)))))))] (St (lC k (Itm.aG (Itm.dA (l.set (l.length-1) (eE (Z (2*k.toNat)))))))) (fun W u=>aHo k _ W (by unfold R47;omega)) ?_);refine dK (fun W u=>mH (lC k (Itm.aG (Itm.dA (l.set (l.length-1) (eE (Z (2*k.toNat))))))) W) (cD (.pointer (some ⟨d,0+(l.length-1)*5,none⟩)) (rIx 89 rfl d 0 l.length y (l.length-1) 5) ?_);refine aLB 2 d (0+(l.length-1)*5) 5 ((j.set (l.length-1) ((eE (Z (2*k.toNat))),[(I6 2),(U6 0),(St (Z (2*k.toNat))),S0,(.bool false)])).flatMap Prod.snd++x) 89 89 (.agg #[(I6 2),(U6 0),(St (lC k (Itm.aG (Itm.dA (l.set (l.length-1) (eE (Z (2*k.toNat)))))))),S0,(.bool false)]) (.tmp 37) (.tmp 36) rfl kR kR kR kR (by rw[Ac,g.flat_len,C];omega) rfl kR ?_
  have J:cK ((j.set (l.length-1) ((eE (Z (2*k.toNat))),[(I6 2),(U6 0),(St (Z (2*k.toNat))),S0,(.bool false)])).flatMap Prod.snd++x) (0+(l.length-1)*5) [(I6 2),(U6 0),(St (lC k (Itm.aG (Itm.dA (l.set (l.length-1) (eE (Z (2*k.toNat)))))))),S0,(.bool false)]=((j.set (l.length-1) ((eE (Z (2*k.toNat))),[(I6 2),(U6 0),(St (Z (2*k.toNat))),S0,(.bool false)])).set (l.length-1) ((eE (lC k (Itm.aG (Itm.dA (l.set (l.length-1) (eE (Z (2*k.toNat)))))))),[(I6 2),(U6 0),(St (lC k (Itm.aG (Itm.dA (l.set (l.length-1) (eE (Z (2*k.toNat)))))))),S0,(.bool false)])).flatMap Prod.snd++x:=by rw[Aw,aA2 g (l.length-1) ((eE (lC k (Itm.aG (Itm.dA (l.set (l.length-1) (eE (Z (2*k.toNat)))))))),[(I6 2),(U6 0),(St (lC k (Itm.aG (Itm.dA (l.set (l.length-1) (eE (Z (2*k.toNat)))))))),S0,(.bool false)]) x oW rfl]
  refine aBd _ [(F,.cells [(I6 4),(U6 0),(St []),(Sl q r l.length c),(.bool false)].toArray 89 (0,0)),(D,.cells [(I6 0),(U6 0),(St []),S0,(.bool false)].toArray 89 (0,0)),(d,.cells (((j.set (l.length-1) ((eE (Z (2*k.toNat))),[(I6 2),(U6 0),(St (Z (2*k.toNat))),S0,(.bool false)])).set (l.length-1) ((eE (lC k (Itm.aG (Itm.dA (l.set (l.length-1) (eE (Z (2*k.toNat)))))))),[(I6 2),(U6 0),(St (lC k (Itm.aG (Itm.dA (l.set (l.length-1) (eE (Z (2*k.toNat)))))))),S0,(.bool false)])).flatMap Prod.snd++x).toArray 89 (0,0))] (fun W h=>h.eqv ((show _=([(F,.cells [(I6 4),(U6 0),(St []),(Sl q r l.length c),(.bool false)].toArray 89 (0,0)),(D,.cells [(I6 0),(U6 0),(St []),S0,(.bool false)].toArray 89 (0,0)),(d,.cells (cK ((j.set (l.length-1) ((eE (Z (2*k.toNat))),[(I6 2),(U6 0),(St (Z (2*k.toNat))),S0,(.bool false)])).flatMap Prod.snd++x) (0+(l.length-1)*5) [(I6 2),(U6 0),(St (lC k (Itm.aG (Itm.dA (l.set (l.length-1) (eE (Z (2*k.toNat)))))))),S0,(.bool false)]).toArray 89 (0,0))]:aN)from by kernel_rfl).trans (by rw[J]))) ?_;have G:=g.set (l.length-1) ((eE (lC k (Itm.aG (Itm.dA (l.set (l.length-1) (eE (Z (2*k.toNat)))))))),[(I6 2),(U6 0),(St (lC k (Itm.aG (Itm.dA (l.set (l.length-1) (eE (Z (2*k.toNat)))))))),S0,(.bool false)]) (TV.str _ (lC k (Itm.aG (Itm.dA (l.set (l.length-1) (eE (Z (2*k.toNat))))))) (by first|assumption|decide|(unfold R47;omega)));have a8:((j.set (l.length-1) ((eE (Z (2*k.toNat))),[(I6 2),(U6 0),(St (Z (2*k.toNat))),S0,(.bool false)])).set (l.length-1) ((eE (lC k (Itm.aG (Itm.dA (l.set (l.length-1) (eE (Z (2*k.toNat)))))))),[(I6 2),(U6 0),(St (lC k (Itm.aG (Itm.dA (l.set (l.length-1) (eE (Z (2*k.toNat)))))))),S0,(.bool false)])).length=l.length:=by rw[Cp,C]
  refine zn (zQ 1 ?_);refine gG [(F,.cells [(I6 4),(U6 0),(St []),(Sl q r l.length c),(.bool false)].toArray 89 (0,0)),(D,.cells [(I6 0),(U6 0),(St []),S0,(.bool false)].toArray 89 (0,0))] [] d (((j.set (l.length-1) ((eE (Z (2*k.toNat))),[(I6 2),(U6 0),(St (Z (2*k.toNat))),S0,(.bool false)])).set (l.length-1) ((eE (lC k (Itm.aG (Itm.dA (l.set (l.length-1) (eE (Z (2*k.toNat)))))))),[(I6 2),(U6 0),(St (lC k (Itm.aG (Itm.dA (l.set (l.length-1) (eE (Z (2*k.toNat)))))))),S0,(.bool false)])).flatMap Prod.snd++x) 89 kR (fun V2 L b2=>?_);have M:=TV.list y (eZ.ofRow ((j.set (l.length-1) ((eE (Z (2*k.toNat))),[(I6 2),(U6 0),(St (Z (2*k.toNat))),S0,(.bool false)])).set (l.length-1) ((eE (lC k (Itm.aG (Itm.dA (l.set (l.length-1) (eE (Z (2*k.toNat)))))))),[(I6 2),(U6 0),(St (lC k (Itm.aG (Itm.dA (l.set (l.length-1) (eE (Z (2*k.toNat)))))))),S0,(.bool false)])) ⟨fun _=>⟨d,rfl,(gK b2).1⟩⟩ rfl (G.le L) (l.set (l.length-1) (eE (lC k (Itm.aG (Itm.dA (l.set (l.length-1) (eE (Z (2*k.toNat))))))))) (by rw[Gu,Gu,E,List.set_set]) (by rw[Cp];unfold R47;omega));rw[Cp]at M;refine cY 178 #[(Sl d 0 l.length y)] (.agg #[(I6 4),(U6 0),(St []),(Sl d 0 l.length y),(.bool false)]) (fun W u=>dW _ _ _ W) ?_;refine aX 1 D (zn (aA (dL [2] [(D,5)] [(.agg #[(I6 4),(U6 0),(St []),(Sl d 0 l.length y),(.bool false)])] (fun W' u=>?_))));exact aH u L ⟨[(I6 4),(U6 0),(St []),(Sl d 0 l.length y),(.bool false)],rfl,(M).cast (by simp only[aD7,aLs,h0,bs,bQ,reduceIte,Aj])⟩
theorem aP2{e:Ei}(h:aI e=true):e.l.length≤60:=by
 unfold aI Eid.gE at h;split at h
 ·rw[Ae]at h;by_cases a:e.l.length≤60
  ·exact a
  ·have:=Eid.aBz e.l oW;rw[this]at h;cases h.2
 ·split at h
  ·rw[Ak]at h;rw[h.1];exact Ap _
  ·cases h
theorem iJ(e:Ei)(d:Nat):Itm.aJ (d+3) e.tree=true:=by
 unfold Ei.tree;split
 ·simp[Itm.aJ,Itm.dA,Itm.cA,Itm.okN,Itm.Tr.k,Itm.Tr.n,Itm.Tr.s,Itm.Tr.l,Itm.Tr.o]
 ·split
  ·simp[Itm.aJ,Itm.dA,Itm.cA,Itm.okN,Itm.Tr.k,Itm.Tr.n,Itm.Tr.s,Itm.Tr.l,Itm.Tr.o]
  ·simp[Itm.aJ,Itm.dA,Itm.cA,aHE,Itm.okN,Itm.Tr.k,Itm.Tr.n,Itm.Tr.s,Itm.Tr.l,Itm.Tr.o]
theorem fS{e:Ei}(h:aI e=true):Itm.szT e.tree≤70:=by
 have:=aP2 h;unfold Ei.tree;split
 ·simp[Itm.szT,Itm.szL,Itm.dA,Itm.cA]
 ·split
  ·simp[Itm.szT,Itm.szL,Itm.dA,Itm.cA]
  ·simp[Itm.szT,Itm.szL,Itm.dA,Itm.cA,aHE];omega
theorem sN(n d:Nat):Itm.aJ (d+1) (Itm.cA n)=true:=by simp[Itm.aJ,Itm.cA,Itm.okN,Itm.Tr.k,Itm.Tr.n,Itm.Tr.s,Itm.Tr.l,Itm.Tr.o]
theorem mW(l:List UInt8)(d:Nat):Itm.aJ (d+1) (eE l)=true:=by simp[Itm.aJ,eE,Itm.okN,Itm.Tr.k,Itm.Tr.n,Itm.Tr.s,Itm.Tr.l,Itm.Tr.o]
theorem oP{l:List Itm.Tr}{d:Nat}(h:l.all (Itm.aJ d)=true)(a:l.length≤1000):Itm.aJ (d+1) (Itm.dA l)=true:=by simp[Itm.aJ,Itm.dA,Itm.okN,Itm.Tr.k,Itm.Tr.n,Itm.Tr.s,Itm.Tr.l,Itm.Tr.o,a];simpa using h
theorem sL(p:Pr)(s:List UInt8):Itm.aJ 8 (Itm.dA (eB p s))=true:=by
 refine oP ?_ ?_
 ·unfold eB;simp only[Fo,Dm,List.all_nil,sN,iJ p.dst 4,iJ p.src 4,iJ p.rpt 4,Gg,Fk,Ae];refine⟨⟨oP (by simp[sN]) (by simp),?_⟩,?_⟩
  ·split<;>simp[sN]
  ·split<;>simp[mW]
 ·unfold eB;simp only[Ac,Ah,Bd];split<;>split<;>simp
theorem aJd(a b:List Itm.Tr):Itm.szL (a++b)=Itm.szL a+Itm.szL b:=Itm.qH a b
theorem tW{p:Pr}(s:List UInt8)(j:aI p.dst=true)(q:aI p.src=true)(k:aI p.rpt=true):Itm.szT (Itm.dA (eB p s))≤300+s.length:=by
 have r:=fS j;have u:=fS q;have x:=fS k;rw[Itm.dA,Itm.szT];unfold eB;simp only[aJd];have c:∀n,Itm.szT (Itm.cA n)=1:=fun n=>by simp[Itm.szT,Itm.cA,Itm.szL]
 have g:Itm.szT (eE s)=1+s.length:=by simp[Itm.szT,eE,Itm.szL]
 have h:∀a b,Itm.szT (Itm.dA [Itm.cA a,Itm.cA b])=3:=fun a b=>by simp[Itm.szT,Itm.dA,Itm.cA,Itm.szL]
 have d:Itm.szL (if lX p.f then[Itm.cA p.off,Itm.cA p.tot]else[])≤2:=by split<;>simp[Itm.szL,c]
 have f:Itm.szL (if p.c !=0 then[eE s]else[])≤1+s.length:=by split<;>simp[Itm.szL,g]
 simp only[Itm.szL,c,h,Bd]at d f ⊢;omega
theorem aBq(p:Pr)(s:List UInt8):eB p s≠[]∧(eB p s).length≤1000:=by
 unfold eB;refine⟨by simp,?_⟩;simp only[Ac,Ah,Bd];split<;>split<;>simp
def prZ(p:Pr):List Itm.Tr:=eB p (Z (2*p.c.toNat))
def Pr.tree(p:Pr):Itm.Tr:=aD8 p.c (prZ p)
theorem iU{p:Pr}(h:cF p=0):dM p=true:=by
 unfold cF at h;cases a:dM p with
 |true=>rfl
 |false=>rw[a]at h;simp at h
theorem mN{p:Pr}(h:dM p=true):aI p.dst=true∧aI p.src=true∧aI p.rpt=true∧0≤p.c∧p.c≤2:=by
 unfold dM at h;simp only[Ae,Ak]at h;obtain⟨⟨⟨⟨⟨⟨_,a⟩,c⟩,d⟩,f⟩,g⟩,_⟩:=h;exact⟨a,c,d,f,g⟩
theorem aHI{k:Int}{l:List Itm.Tr}(h:Itm.aJ 8 (Itm.dA l)=true):Itm.aJ 8 (aD8 k l)=true:=by
 unfold aD8;split
 ·exact h
 ·have a:=h;unfold Itm.aJ at a;simp only[Itm.dA,Itm.Tr.l,Itm.Tr.k,Itm.Tr.n,Itm.Tr.s,Itm.Tr.o,Ae]at a;refine oP (Ao.2 fun x c=>?_) ?_
  ·rcases Ez c with c|rfl
   ·exact Ao.1 a.2 x c
   ·exact mW _ 6
  ·rw[Cp];have:=a.1;simp[Itm.okN]at this;exact this
theorem aJc(l:List Itm.Tr)(i:Nat)(x:Itm.Tr):Itm.szL (l.set i x)≤Itm.szL l+Itm.szT x:=by
 induction l generalizing i with
 |nil=>simp[Itm.szL]
 |cons y l ih=>
  cases i with
  |zero=>rw[Gq,Itm.szL,Itm.szL];omega
  |succ i=>
   have:=ih i;rw[Gn,Itm.szL,Itm.szL];omega
theorem aJo{k:Int}{l:List Itm.Tr}(a:0≤k)(c:k≤2):Itm.szT (aD8 k l)≤Itm.szT (Itm.dA l)+5:=by
 have f:=pD (Itm.aG (Itm.dA l)) a c;unfold aD8;split
 ·omega
 ·have:=aJc l (l.length-1) (eE (lC k (Itm.aG (Itm.dA l))));have d:Itm.szT (eE (lC k (Itm.aG (Itm.dA l))))=1+(lC k (Itm.aG (Itm.dA l))).length:=by simp[Itm.szT,eE,Itm.szL]
  simp only[Itm.dA,Itm.szT]at *;omega
theorem aL7(p:Pr)(w:World){U:View}(hU:See U w)(hp:p.ok)(h:(cF p !=0)=false):CP 224 #[p.V] w (fO w U (aLi p.tree 0)):=by
 have O:cF p=0:=by simpa using h
 obtain⟨hd,hs,hr,d,f⟩:=mN (iU O);have A:2*p.c=((2*p.c.toNat:Nat):Int):=by omega
 have M:(if(0:Int)>((2*p.c.toNat:Nat):Int)then(0:Int)else((2*p.c.toNat:Nat):Int))=((2*p.c.toNat:Nat):Int):=An oW;have b4:=tI (2*p.c.toNat);have b3:=tW (p:=p) (Z (2*p.c.toNat)) hd hs hr;refine dE 21 Tryz.func224 hU ?_;refine zs (zr (aW (fun D=>(aW (fun b1=>(zq 1 (zn (zs (zB [1] [(D,19)] (dK (fun W E=>tX p W hp) (zq 1 (zn (zQ 2 (zn (dO ((cF p) !=0) h ?_)))))))))))))));refine zk (zs ?_);refine mB 4 [0,3,3,0,3,1,1,1,1] [(D,1),(D,19),(D,1)] [.val (I6 ((2*p.c.toNat:Nat):Int)),.val (I6 ((2*p.c.toNat:Nat):Int)),.val (St (Z (2*p.c.toNat))),.mem (mA (Itm.dA (prZ p)))] (by simp only[Bc];exact⟨trivial,trivial,trivial,by intro v V V2 a F;(first|trivial|exact PhiMono.go F a|(obtain⟨g,e,F⟩:=F;exact⟨g,e,F.le a⟩)),fun _ h=>by cases h⟩) ⟨?_,?_,?_,?_,trivial⟩ ?_
 ·refine wV 247 (fun u=>#[(I6 p.c)]) fun u V hV x W K=>?_
  exact(A▸aE6 p.c W d f)
 ·exact wE (I6 (if 0>((2*p.c.toNat:Nat):Int)then 0 else((2*p.c.toNat:Nat):Int))) (Ag (Value.int .i64) M)
 ·refine wV 246 (fun u=>#[(St [0]),(I6 ((2*p.c.toNat:Nat):Int))]) fun u V hV x W K=>?_
  exact aDc (2*p.c.toNat) W oW
 ·refine wM 245 (fun u=>#[(p.V),(St (Z (2*p.c.toNat)))]) fun u V hV x W K=>?_
  exact aH8 p _ W K hp (by unfold R47;omega) d f hd hs hr
 intro u2 V2 a y;have r:=y 8 rfl;obtain⟨G,C,j⟩:=r;obtain⟨k,q,rfl,c,N,X,L⟩:=j.form;refine qX 19 C ?_;refine mC 244 #[(I6 p.c),(.agg #[(I6 4),(U6 0),(St []),(.slice k (prZ p).length q),(.bool false)])] (mA (aD8 p.c (prZ p))) (fun W E=>aF0 p.c (prZ p) W E.view _ _ c d f (sL p _) (by unfold prZ;omega) (aBq p _).1 (aBq p _).2) (fun v3 V3 J I=>?_);obtain⟨a6,rfl,B⟩:=I;obtain⟨Y,c3,rfl,a1,a8,b2,a7⟩:=B.form;refine aX 1 b1 (zq 1 (zn (aA (dL [2,0] [(b1,5)] [(tV (aD8 p.c (prZ p)) Y c3),(I6 0)] (fun W' E=>?_)))));exact aH E (View.le_trans a J) ⟨(tC (aD8 p.c (prZ p)) Y c3),rfl,B⟩
def eT(p:Pr):List UInt8:=Itm.aG p.tree
theorem aCF(p:Pr)(w:World)(G:p.ok)(h:cF p=0):CP 192 #[p.V] w (Ret (.tuple #[.string (B (eT p)),.int .i64 0]) w):=by
 have A:(cF p !=0)=false:=by simp[h]
 obtain⟨D,J,I,f,g⟩:=mN (iU h);have M:=tI (2*p.c.toNat);have L:=tW (p:=p) (Z (2*p.c.toNat)) D J I;have k:=aJo (l:=prZ p) f g;refine dI 18 Tryz.func192 ?_;refine zs (zr (aW (fun u=>(zq 2 (zn (zB [1] [(u,19)] (pO (fun W a=>aL7 p W a.view G A) (fun V N C d=>?_))))))));obtain⟨y,rfl,c⟩:=d;obtain⟨r,x,rfl,q,F,K,E⟩:=c.form;refine zq 3 (aW (fun j=>(aX 1 j (zq 1 (zn (zs (zQ 2 (zn (dD (zk (zB [2] [(j,5)] (cY 136 #[(tV p.tree r x)] (.tuple #[(St (Itm.aG p.tree)),(I6 0)]) (fun W a=>oG _ _ a.view c (aHI (sL p _)) (by unfold Pr.tree prZ aAL at *;omega)) ?_))))))))))));refine zq 4 (zn (aA (aO [2,3] [(St (Itm.aG p.tree)),(I6 0)] (fun O a=>?_))));exact⟨rfl,a.below⟩
def Pr.bare(p:Pr):Pr:=⟨p.f,0,p.dst,p.src,p.rpt,p.time,p.seq,p.life,p.off,p.tot⟩
theorem aIM{p:Pr}(h:cF p=0):cF p.bare=0:=by
 have a:=iU h;have k:dM p.bare=true:=by
  have e:dM p.bare=(dM ⟨p.f,0,p.dst,p.src,p.rpt,p.time,p.seq,p.life,p.off,p.tot⟩):=rfl;rw[e];simp only[dM,Ae,Ak]at a ⊢;obtain⟨⟨⟨⟨⟨⟨c,d⟩,f⟩,g⟩,q⟩,r⟩,j⟩:=a;exact⟨⟨⟨⟨⟨⟨c,d⟩,f⟩,g⟩,Int.le_refl 0⟩,by omega⟩,j⟩
 unfold cF at h ⊢;rw[a]at h;rw[k];exact h
theorem aOH{p:Pr}(h:p.ok):p.bare.ok:=⟨h.f,h.dst,h.src,h.rpt,h.time,h.seq,h.life,h.off,h.tot⟩
theorem aH7(p:Pr)(w:World)(d:p.ok)(h:cF p=0):CP 141 #[p.V] w (Ret (.tuple #[.string (B (eT p.bare)),.int .i64 0]) w):=by
 have f:(cF p !=0)=false:=by simp[h]
 refine dI 15 Tryz.func141 ?_;refine zs (zr (aW (fun a=>(zq 2 (zn (zs (zB [1] [(a,19)] (dK (fun W c=>tX p W d) (zq 1 (zn (zQ 2 (zn (dO ((cF p) !=0) f ?_)))))))))))));refine zk (zQ 1 (aX 0 a (zn (zB [1] [(a,19)] (dK (fun W c=>aCF p.bare W (aOH d) (aIM h)) (zq 4 (zn (aA (aO [2,3] [(St (eT p.bare)),(I6 0)] (fun g c=>?_))))))))));exact⟨rfl,c.below⟩
theorem gQ{x:Bk}(h:cH x=0):jS x.t=true∧jS x.n=true∧0≤x.c∧x.c≤2∧x.f≤255∧x.d.length≤4000:=by
 unfold cH at h;split at h
 ·cases h
 ·next a=>
  split at h
  ·cases h
  ·next c=>
   simp only[Dg,Bi,Ak,not_or,Bool.not_eq_false]at a c;exact⟨a.1.1.1.1,a.1.1.1.2,by omega,by omega,by omega,by omega⟩
theorem tE(x:Bk)(s:List UInt8):Itm.aJ 8 (Itm.dA (dJ x s))=true:=by
 refine oP ?_ ?_
 ·unfold dJ;simp only[Fo,Dm,List.all_nil,sN,mW,Gg,Fk];split<;>simp[mW]
 ·unfold dJ;simp only[Ac,Ah,Bd];split<;>simp
theorem aAh(x:Bk)(s:List UInt8):Itm.szT (Itm.dA (dJ x s))≤10+x.d.length+s.length:=by
 rw[Itm.dA,Itm.szT];unfold dJ;simp only[aJd];have d:∀n,Itm.szT (Itm.cA n)=1:=fun n=>by simp[Itm.szT,Itm.cA,Itm.szL]
 have a:∀t,Itm.szT (eE t)=1+t.length:=fun t=>by simp[Itm.szT,eE,Itm.szL]
 have c:Itm.szL (if x.c !=0 then[eE s]else[])≤1+s.length:=by split<;>simp[Itm.szL,a]
 simp only[Itm.szL,d,a,Bd]at c ⊢;omega
theorem aBV(x:Bk)(s:List UInt8):dJ x s≠[]∧(dJ x s).length≤1000:=by
 unfold dJ;refine⟨by simp,?_⟩;simp only[Ac,Ah,Bd];split<;>simp
def Bk.tree(x:Bk):Itm.Tr:=aD7 x.c (dJ x [])
theorem aHH{k:Int}{l:List Itm.Tr}(h:Itm.aJ 8 (Itm.dA l)=true):Itm.aJ 8 (aD7 k l)=true:=by
 unfold aD7;split
 ·exact h
 ·have a:=h;unfold Itm.aJ at a;simp only[Itm.dA,Itm.Tr.l,Itm.Tr.k,Itm.Tr.n,Itm.Tr.s,Itm.Tr.o,Ae]at a;refine oP (Ao.2 fun x c=>?_) ?_
  ·rcases Ez c with c|rfl
   ·exact Ao.1 a.2 x c
   ·exact mW _ 6
  ·rw[Cp];have:=a.1;simp[Itm.okN]at this;exact this
theorem aRn{l:List Itm.Tr}(s:List UInt8)(i:Nat)(h:Itm.aJ 8 (Itm.dA l)=true):Itm.aJ 8 (Itm.dA (l.set i (eE s)))=true:=by
 have a:=h;unfold Itm.aJ at a;simp only[Itm.dA,Itm.Tr.l,Itm.Tr.k,Itm.Tr.n,Itm.Tr.s,Itm.Tr.o,Ae]at a;refine oP (Ao.2 fun x c=>?_) ?_
 ·rcases Ez c with c|rfl
  ·exact Ao.1 a.2 x c
  ·exact mW _ 6
 ·rw[Cp];have:=a.1;simp[Itm.okN]at this;exact this
theorem aQ2{l:List Itm.Tr}(s:List UInt8)(i:Nat):Itm.szT (Itm.dA (l.set i (eE s)))≤Itm.szT (Itm.dA l)+1+s.length:=by
 have:=aJc l i (eE s);have a:Itm.szT (eE s)=1+s.length:=by simp[Itm.szT,eE,Itm.szL]
 simp only[Itm.dA,Itm.szT]at *;omega
theorem aJn{k:Int}{l:List Itm.Tr}(a:0≤k)(c:k≤2):Itm.szT (aD7 k l)≤Itm.szT (Itm.dA l)+5:=by
 have d:=pD (Itm.aG (Itm.dA (l.set (l.length-1) (eE (Z (2*k.toNat)))))) a c;unfold aD7 aLs;split
 ·omega
 ·have:=aQ2 (l:=l) (lC k (Itm.aG (Itm.dA (l.set (l.length-1) (eE (Z (2*k.toNat))))))) (l.length-1);omega
theorem aML(x:Bk)(w:World){U:View}(hU:See U w)(hp:x.ok)(h:(cH x !=0)=false):CP 248 #[x.V] w (fO w U (aLi x.tree 0)):=by
 have L:cH x=0:=by simpa using h
 obtain⟨ht,hn,q,r,hf,a7⟩:=gQ L;have N:=aAh x [];have b5:=aQ2 (l:=dJ x []) (Z (2*x.c.toNat)) ((dJ x []).length-1);have b6:=tI (2*x.c.toNat);refine dE 16 Tryz.func248 hU ?_;refine zs (zr (aW (fun E=>(aW (fun X=>(zq 1 (zn (zs (zB [1] [(E,5)] (dK (fun W C=>aAj x W) (zq 1 (zn (zQ 2 (zn (dO ((cH x) !=0) h ?_)))))))))))))));refine zk (zs ?_);refine mB 1 [0,3,3,1] [(E,1),(E,5)] [.mem (mA (Itm.dA (dJ x [])))] (by simp only[Bc];exact⟨by intro v V V2 a D;(first|trivial|exact PhiMono.go D a|(obtain⟨g,e,D⟩:=D;exact⟨g,e,D.le a⟩)),fun _ h=>by cases h⟩) ⟨?_,trivial⟩ ?_
 ·refine wM 260 (fun u=>#[(x.V),(St [])]) fun u V hV a8 W hW=>?_
  exact aK5 x [] _ hW hp (by unfold R47;simp) ht hn q r
 intro u2 V2 a y;have k:=y 3 rfl;obtain⟨F,B,d⟩:=k;obtain⟨f,j,rfl,c,K,M,J⟩:=d.form;refine qX 14 B ?_;refine mC 259 #[(I6 x.c),(.agg #[(I6 4),(U6 0),(St []),(.slice f (dJ x []).length j),(.bool false)])] (mA (aD7 x.c (dJ x []))) (fun W C=>aGv x.c (dJ x []) W C.view _ _ c q r (aRn _ _ (tE x _)) (by simp only[Bd]at N;omega) (aBV x _).1 (aBV x _).2) (fun v3 V3 I G=>?_);obtain⟨a6,rfl,A⟩:=G;obtain⟨O,Y,rfl,a1,b3,b4,b2⟩:=A.form;refine aX 1 X (zq 1 (zn (aA (dL [2,0] [(X,5)] [(tV (aD7 x.c (dJ x [])) O Y),(I6 0)] (fun W' C=>?_)))));exact aH C (View.le_trans a I) ⟨(tC (aD7 x.c (dJ x [])) O Y),rfl,A⟩
def gL(x:Bk):List UInt8:=Itm.aG x.tree
theorem aIS(x:Bk)(w:World)(J:x.ok)(h:cH x=0):CP 233 #[x.V] w (Ret (.tuple #[.string (B (gL x)),.int .i64 0]) w):=by
 have D:(cH x !=0)=false:=by simp[h]
 obtain⟨V,O,f,g,N,F⟩:=gQ h;have j:=aAh x [];have q:=aJn (l:=dJ x []) f g;refine dI 18 Tryz.func233 ?_;refine zs (zr (aW (fun y=>(zq 2 (zn (zB [1] [(y,5)] (pO (fun W a=>aML x W a.view J D) (fun X L E d=>?_))))))));obtain⟨C,rfl,c⟩:=d;obtain⟨u,A,rfl,r,I,K,G⟩:=c.form;refine zq 3 (aW (fun k=>(aX 1 k (zq 1 (zn (zs (zQ 2 (zn (dD (zk (zB [2] [(k,5)] (cY 136 #[(tV x.tree u A)] (.tuple #[(St (Itm.aG x.tree)),(I6 0)]) (fun W a=>oG _ _ a.view c (aHH (tE x _)) (by simp only[Bd]at j;unfold Bk.tree aAL at *;omega)) ?_))))))))))));refine zq 4 (zn (aA (aO [2,3] [(St (Itm.aG x.tree)),(I6 0)] (fun M a=>?_))));exact⟨rfl,a.below⟩
def aE(x:Bk):List UInt8:=Itm.aE 0 x.t.toNat++Itm.aE 0 x.n.toNat++Itm.aE 0 x.f
theorem aBW(x:Bk)(w:World)(u:x.ok)(h:cH x=0):CP 142 #[x.V] w (Ret (.tuple #[.string (B (aE x)),.int .i64 0]) w):=by
 have g:(cH x !=0)=false:=by simp[h]
 have G:=u.f;obtain⟨f,d,j,k,r,q⟩:=gQ h;unfold jS at f d;simp only[Ae,Ak]at f d;have y:IntKind.u64.wrap x.t=(x.t.toNat:Int):=by have:=u64_in (x:=x.t) oW oW;omega
 have A:IntKind.u64.wrap x.n=(x.n.toNat:Int):=by have:=u64_in (x:=x.n) oW oW;omega
 have I:x.t.toNat<W64:=by unfold W64;omega
 have J:x.n.toNat<W64:=by unfold W64;omega
 have D:=(Itm.aD 0 x.t.toNat).2;have E:=(Itm.aD 0 x.n.toNat).2;have F:=(Itm.aD 0 x.f).2;refine dI 23 Tryz.func142 ?_;refine zs (zr (aW (fun c=>(zq 2 (zn (zs (zB [1] [(c,5)] (dK (fun W a=>aAj x W) (zq 1 (zn (zQ 2 (zn (dO ((cH x) !=0) g ?_)))))))))))));refine zk (zs ?_);refine iM 4 [0,3,1,1,0,3,1,1,1,0,3,1] [(c,1),(c,1),(c,1)] [.val (N6 x.t.toNat),.val (St (Itm.aE 0 x.t.toNat)),.val (N6 x.n.toNat),.val (St (Itm.aE 0 x.n.toNat)),.val (St ((Itm.aE 0 x.t.toNat)++(Itm.aE 0 x.n.toNat))),.val (St (Itm.aE 0 x.f))] ⟨?_,?_,?_,?_,?_,?_,trivial⟩ ?_
 ·exact vE (U6 (IntKind.u64.wrap x.t)) (Ag (Value.int .u64) y)
 ·exact vC 144 #[(I6 0),(N6 x.t.toNat)] (fun W a=>iX 0 x.t.toNat W oW (by first|assumption|(unfold W64;omega)|decide))
 ·exact vE (U6 (IntKind.u64.wrap x.n)) (Ag (Value.int .u64) A)
 ·exact vC 144 #[(I6 0),(N6 x.n.toNat)] (fun W a=>iX 0 x.n.toNat W oW (by first|assumption|(unfold W64;omega)|decide))
 ·exact vR (cB _ _ _ _ rfl (Itm.aE 0 x.t.toNat) (Itm.aE 0 x.n.toNat) kR kR oA)
 ·exact vC 144 #[(I6 0),(N6 x.f)] (fun W a=>iX 0 x.f W oW (by first|assumption|(unfold W64;omega)|decide))
 refine cD (St (((Itm.aE 0 x.t.toNat)++(Itm.aE 0 x.n.toNat))++(Itm.aE 0 x.f))) (cB _ _ _ _ rfl ((Itm.aE 0 x.t.toNat)++(Itm.aE 0 x.n.toNat)) (Itm.aE 0 x.f) kR kR oA) ?_;refine zq 2 (zn (aA (aO [2,3] [(St (((Itm.aE 0 x.t.toNat)++(Itm.aE 0 x.n.toNat))++(Itm.aE 0 x.f))),(I6 0)] (fun C a=>?_))));exact⟨rfl,a.below⟩
end Go.Proofs.YtcdjakemdlinhaaGreatDoor.Sx
