/-
  Several texts in one: Sxd Eid Eid2 Pri1 Itm2 Itm3 Itm4 Itm5 Itm6 Itm7 Itm8 Eid3 Ref10 Ref10b Ref10c Blank Itm9 Itm10 Itm11 Itm12 Itm13.
  Conditions: named at each.
-/
import Derived.Test.YtkoamlfiijcecaaGreatDoorG02
import Derived.Deep.CutRange
import Derived.StillTailTactics
import Derived.Deep.QuietTactic
import Derived.BigQuiet
import Derived.IntWalk
import Derived.Deep.RegionHeld3
import Derived.Deep.AppendLies
set_option maxHeartbeats 16000000
set_option linter.unusedSimpArgs false
set_option linter.unusedVariables false
set_option linter.unusedSectionVars false
namespace Go.Proofs.YtkoamlfiijcecaaGreatDoor.Sx
open Go.ChangeShapes Go.WideShapes Go.ChangeAt Go.RowKit Go.Deep
inductive Sq where
 |val (v:Value)
 |mem (Φ:Value->View->Prop)
def Dt(W0:Cx)(U:View)(σ:aH)(W:World)(v:Value):Sq->Prop
 | .val u=>v=u
 | .mem Φ=>∃V,View.le U V/\Mem W0 V σ W/\Φ v V
def mY:Sq->Prop
 | .val _=>True
 | .mem Φ=>∀v V V',View.le V V'->Φ v V->Φ v V'
theorem Mem.join{W0:Cx}{U V:View}{σ:aH}{W:World}(h:Mem W0 U σ W)(k:Mem W0 V σ W):Mem W0 (U.or V) σ W/\View.le U (U.or V)/\View.le V (U.or V):=by
 have f:∀a v,U.or V a=some v->U a=some v\/V a=some v:=by
  intro a v hu;unfold View.or at hu;cases r:U a with
  |some u=>rw[r]at hu;exact .inl hu
  |none=>rw[r]at hu;exact .inr hu
 refine⟨h.grow (λa v hu d=>?_) (λa v hu=>?_) (λj b o C a B=>?_),View.le_or _ _,λa v D=>?_⟩
 ·rcases f a v hu with hu|hu
  ·exact h.old a v hu d
  ·exact k.old a v hu d
 ·rcases f a v hu with hu|hu
  ·exact h.view a v hu
  ·exact k.view a v hu
 ·have A:=(h.own j b o C).2.2 a B;have g:=(k.own j b o C).2.2 a B;unfold View.or;rw[A,g];rfl
 ·unfold View.or;cases r:U a with
  |some u=>
   have A:=h.view a u r;have g:=k.view a v D;rw[A]at g;simpa using g
  |none=>simpa using D
theorem Mem.addView{W0:Cx}{U:View}{σ:aH}{W:World}(h:Mem W0 U σ W){g:Nat}{cs:List Value}{t:TypeId}(L:W.heap[g]? =some (.cells cs.toArray t (0,0)))(M:W0.w.heap.size<=g)(F:∀(k:Nat) (x:Nat×Obj),σ[k]? =some x->x.1≠g):
  ∃V,View.le U V/\V.range g 0 cs/\Mem W0 V σ W:=by
 let C:View:=λa=>if a.block=g/\a.spot=none then cs[a.off]? else none
 have B:∀a v,C a=some v->a.block=g/\W.cell? a=some v:=by
  intro a v O;have f:(if a.block=g/\a.spot=none then cs[a.off]? else none)=some v:=O;split at f
  ·next d=>
   have K:a=⟨g,a.off,none⟩:=by
    obtain⟨X,Y,Z⟩:=a;simp only at d ⊢;rw[d.1,d.2]
   refine⟨d.1,?_⟩;rw[K,cell_of_row _ _ _ _ _ _ L];simpa using f
  ·cases f
 have A:∀a v,U.or C a=some v->U a=some v\/C a=some v:=by
  intro a v hu;unfold View.or at hu;cases r:U a with
  |some u=>rw[r]at hu;exact .inl hu
  |none=>rw[r]at hu;exact .inr hu
 refine⟨U.or C,View.le_or _ _,λj v N=>?_,h.grow (λa v hu E=>?_) (λa v hu=>?_) (λk b o J a I=>?_)⟩
 ·have d:C ⟨g,0+j,none⟩=some v:=by
   show(if g=g/\none=none then cs[0+j]? else none)=some v;rw[N1 ⟨rfl,rfl⟩,O0];exact N
  unfold View.or;cases r:U ⟨g,0+j,none⟩with
  |some u=>
   have D:=h.view _ _ r;have G:=(B _ _ d).2;rw[D]at G;simpa using G
  |none=>simpa using d
 ·rcases A a v hu with hu|hu
  ·exact h.old a v hu E
  ·have:=(B a v hu).1;omega
 ·rcases A a v hu with hu|hu
  ·exact h.view a v hu
  ·exact(B a v hu).2
 ·have D:=(h.own k b o J).2.2 a I;unfold View.or;rw[D];cases r:C a with
  |none=>rfl
  |some v=>exact absurd (I.symm.trans (B a v r).1) (F k _ J)
def iK(ops:Array Oper)(ds:List Nat)(vs:List Sq)(u:Nat->Value)(i:Nat):cA:=(List.range ds.length).filterMap λj=>match cH .any ops i j,vs[j]? with
 |true,some (.val v)=>some (ds.getD j 0,v)
 |true,some (.mem _)=>some (ds.getD j 0,u j)
 |_,_=>none
def IF(u:Nat->Value):Nat->List Nat->List Sq->cA
 |j,d::ds,.val v::vs=>(d,v)::IF u (j+1) ds vs
 |j,d::ds,.mem _::vs=>(d,u j)::IF u (j+1) ds vs
 |_,_,_=>[]
def gE(vs:List Sq)(j:Nat)(v:Value)(V:View):Prop:=match vs[j]? with
 |some (.mem Φ)=>Φ v V
 |_=>True
theorem lY(u:Nat->Value):∀(k:Nat) (ds:List Nat) (vs:List Sq) (t:Nat) (v:Value),(t,v)∈IF u k ds vs->∃(j:Nat) (q:Sq),ds[j]? =some t/\vs[j]? =some q/\(match q with| .val w=>v=w| .mem _=>v=u (k+j))
 |k,[],vs,t,v,h=>by simp[IF]at h
 |k,d::ds,[],t,v,h=>by simp[IF]at h
 |k,d::ds,.val w::vs,t,v,h=>by
  simp only[IF,O6,N3]at h;rcases h with⟨rfl,rfl⟩|h
  ·exact⟨0,.val v,rfl,rfl,rfl⟩
  ·obtain⟨j,q,f,g,a⟩:=lY u (k+1) ds vs t v h;refine⟨j+1,q,by simpa using f,by simpa using g,?_⟩;cases q with
   |val w=>exact a
   |mem _=>simp only at a ⊢;rw[a];congr 1;omega
 |k,d::ds,.mem Φ::vs,t,v,h=>by
  simp only[IF,O6,N3]at h;rcases h with⟨rfl,rfl⟩|h
  ·exact⟨0,.mem Φ,rfl,rfl,rfl⟩
  ·obtain⟨j,q,f,g,a⟩:=lY u (k+1) ds vs t v h;refine⟨j+1,q,by simpa using f,by simpa using g,?_⟩;cases q with
   |val w=>exact a
   |mem _=>simp only at a ⊢;rw[a];congr 1;omega
def IsQ(W0:Cx)(U:View)(σ:aH)(vs:List Sq):Nat->Value->World->Prop:=λj v W=>∃q,vs[j]? =some q/\Dt W0 U σ W v q
theorem IsQ.keep{W0:Cx}{U:View}{σ:aH}{vs:List Sq}{j:Nat}{v:Value}{W W':World}(h:DJ W W')(k:IsQ W0 U σ vs j v W):IsQ W0 U σ vs j v W':=by
 obtain⟨q,g,hs⟩:=k;refine⟨q,g,?_⟩;cases q with
 |val u=>exact hs
 |mem Φ=>
  obtain⟨V,a,d,f⟩:=hs;exact⟨V,a,d.call h,f⟩
theorem MJ{W0:Cx}{U:View}{σ:aH}{W:World}{vs:List Sq}{u:Nat->Value}(a:∀q∈vs,mY q)(E:Mem W0 U σ W):∀(l:List Nat),(∀j∈l,IsQ W0 U σ vs j (u j) W)->∃V,View.le U V/\Mem W0 V σ W/\∀j∈l,gE vs j (u j) V
 | [],_=>⟨U,View.le_refl _,E,λj G=>by simp at G⟩
 |j::l,h=>by
  obtain⟨V,B,C,D⟩:=MJ a E l λk d=>h k (P3 _ d)
  obtain⟨q,g,hs⟩:=h j (Q3 ..);cases q with
  |val w=>
   refine⟨V,B,C,λk d=>?_⟩;rcases O6.1 d with rfl|d
   ·unfold gE;rw[g];trivial
   ·exact D k d
  |mem Φ=>
   obtain⟨A,M,I,J⟩:=hs;obtain⟨K,F,L⟩:=C.join I;refine⟨V.or A,View.le_trans B F,K,λk d=>?_⟩;have r:∀k,gE vs k (u k) V->gE vs k (u k) (V.or A):=by
    intro k d;unfold gE at d ⊢;cases f:vs[k]? with
    |none=>trivial
    |some q=>
     cases q with
     |val _=>trivial
     |mem Ψ=>
      rw[f]at d;exact a _ (K9 f) _ _ _ F d
   rcases O6.1 d with rfl|d
   ·unfold gE;rw[g];exact a _ (K9 g) _ _ _ L J
   ·exact r k (D k d)
theorem OE{n : Nat}{s : cA}{a0 : Act}{ops : Array Oper}{ds : List Nat}{vs : List Sq}{u : Nat -> Value}{W0 : Cx}{U : View}{σ : aH}{W : World}(i : Nat)(B : pR n s a0)(M : ds.Nodup)(K : ∀ d ∈ ds, d < n)
  (N:∀j,cH .any ops i j=true->IsQ W0 U σ vs j (u j) W):pR n (iK ops ds vs u i++aV s ds) (fA ds 0 u a0):=by
 have r:=λt=>gB ds 0 u a0 t M (by rw[B.size];exact K)
 refine⟨by rw[(r 0).2.2.1,B.size],by rw[(r 0).2.2.2,B.defers],λt v O=>?_⟩;rcases eW _ _ _ _ O with h|⟨_,h⟩
 ·have E:=iT _ _ _ h;unfold iK at E;obtain⟨j,L,g⟩:=W3.1 E;have A:j<ds.length:=S4.1 L;have k:∀D,ds.getD j 0=D->ds[j]? =some D:=λD e=>by
   rw[K8 A,<-e];simp[List.getD,A]
  split at g
  ·next x F G=>
   simp only[L0,N3]at g;obtain⟨a,f⟩:=g;rw[(r t).1 j (k t a),O0];obtain⟨q,C,hs⟩:=N j F;rw[G]at C;simp only[L0]at C;subst C;simp only[Dt]at hs;rw[hs,f]
  ·next x F G=>
   simp only[L0,N3]at g;obtain⟨a,f⟩:=g;rw[(r t).1 j (k t a),O0,f]
  ·cases g
 ·obtain⟨I,J⟩:=fH _ _ _ _ h;rw[(r t).2.1 I];exact B.slots t v J
structure Oq (P : Program) (n : Nat) (W0 : Cx) (U : View) (σ : aH) (ops : Array Oper) (ds : List Nat) (vs : List Sq) (s : cA) (i : Nat) : Prop where
 go:∀(a0:Act) (Q:Exit->Act->World->Prop),pR n s a0->ds.Nodup->(∀d∈ds,d<n)->(∀q∈vs,mY q)->CM P .any ops Q (Mem W0 U σ) DJ (IsQ W0 U σ vs) ds a0 i
def Iz(ops:Array Oper)(vs:List Sq)(i:Nat):List Nat:=(List.range vs.length).filter λj=>cH .any ops i j
theorem Calls.retN{P:Program}{f:FuncId}{d:Array Value}{w:World}{U:View}{v:Value}{Φ:Value->View->Prop}(r:∀a u,U a=some u->w.cell? a=some u)(h:Calls P f d w (Ret v w))(j:Φ v U):Calls P f d w (fV w U Φ):=
 h.mono λe B ⟨A,k⟩=>⟨v,U,A,k,View.le_refl _,λa u g=>by
  have:=r a u g;rw[k.cell (oR this)];exact this,λ_ _ g _=>g,j⟩
section
variable {P:Program} {n:Nat} {W0:Cx} {s:cA} {U:View} {σ:aH} {ops:Array Oper} {ds:List Nat} {vs:List Sq}
theorem Oq.op(i : Nat){o : Oper}(D : ops[i]? = some o)(q : Sq)(C : vs[i]? = some q)
  (h:∀(u:Nat->Value) (V:View),View.le U V->(∀j,cH .any ops i j=true->gE vs j (u j) V)->dA ops (iK ops ds vs u i++aV s ds) o=some true/\
   ∀a W,pR n (iK ops ds vs u i++aV s ds) a->Mem W0 V σ W->∀(Q:Exit->Act->World->Prop) (K:Act->World->Prop),(∀v W',Mem W0 V σ W'->Dt W0 V σ W' v q->Below W.heap.size W W'->K (a.put o.dst v) W')->o.wp P a W K Q):Oq P n W0 U σ ops ds vs s i:=by
 refine⟨λa0 Q M X O A=>⟨λu W L B K J=>?_⟩⟩;have E:=OE (u:=u) (W:=W) i M X O B;have r:∀j,cH .any ops i j=true->j<vs.length:=λj d=>by
  obtain⟨q,Y,_⟩:=B j d;exact(L8.1 Y).1
 obtain⟨V,f,G,I⟩:=MJ A L (Iz ops vs i) λj d=>B j (ao.1 d).2
 obtain⟨Z,k⟩:=h u V f λj d=>I j (ao.2 ⟨S4.2 (r j d),d⟩)
 unfold wpOp;simp only[D,lT E Z,if_true];left;refine k _ W E G Q K λv W' g hs N=>?_
 have:=J v W' (g.weak f) N ⟨q,C,by
  cases q with
  |val w=>exact hs
  |mem Φ=>
   obtain⟨F,k1,k2,k3⟩:=hs;exact⟨F,View.le_trans f k1,k2,k3⟩⟩
 rw[D]at this;exact this
theorem oqQ(i:Nat){o:Oper}(r:ops[i]? =some o)(v f:Value)(k:v=f)(d:vs[i]? =some (.val f))(B:∀u,dA ops (iK ops ds vs u i++aV s ds) o=some true)(A:∀u,quiet P (iK ops ds vs u i++aV s ds) o=some v):Oq P n W0 U σ ops ds vs s i:=
 Oq.op i r _ d λu V _ _=>⟨B u,λa W j h Q K g=>by
  unfold Oper.wp;rw[oY j (A u)];exact g v W h k (Below.refl _ _)⟩
theorem oqL(i k b m : Nat)(cs : List Value)(t : TypeId){o : Oper}(B : ops[i]? = some o)(v : Value)(h : vs[i]? = some (.val v))(C : σ[k]? = some (b, .cells cs.toArray t (0, 0)))(E : ∀ u, dA ops (iK ops ds vs u i ++ aV s ds) o = some true)
  (d:∀u,reads P cs (iK ops ds vs u i++aV s ds) o=some (v,List.replicate m (b,none))):Oq P n W0 U σ ops ds vs s i:=
 Oq.op i B _ h λu V _ _=>⟨E u,λa W A j Q K r=>by
  have d:=d u;unfold reads at d;split at d
  ·next g=>
   split at d
   ·next x F D=>
    simp only[L0,N3]at d;obtain⟨rfl,f⟩:=d;unfold Oper.wp;rw[gM A g,AG j C D f];exact r _ W j rfl (Below.refl _ _)
   ·cases d
  ·cases d⟩
theorem gJ{a:Act}{s':cA}(ts:List Nat)(d:List Value)(f:pR n s' a)(h:(ts.map λt=>look s' t)=d.map some):pR n (ts.zip d) a:=
 ⟨f.size,f.defers,λt v g=>f.slots t v (sC ts d h t v g)⟩
theorem oqM(i : Nat)(f : FuncId){o : Oper}(X : ops[i]? = some o)(O : o.guard = none)(Φ : Value -> View -> Prop)(B : vs[i]? = some (.mem Φ))(ts : List Nat)(g : (Nat -> Value) -> List Value)(A : ∀ u, (ts.map fun t => look (iK ops ds vs u i ++ aV s ds) t) = (g u).map some)
  (h:∀(u:Nat->Value) (V:View),View.le U V->(∀j,cH .any ops i j=true->gE vs j (u j) V)->∃d,enters P (ts.zip (g u)) o=some (f,d)/\
   ∀W,(∀a v,V a=some v->W.cell? a=some v)->Calls P f d W (fV W V Φ)):Oq P n W0 U σ ops ds vs s i:=
 Oq.op i X _ B λu V I M=>by
  obtain⟨d,N,L⟩:=h u V I M;refine⟨by unfold dA;rw[O],λa W J k Q K G=>?_⟩;unfold Oper.wp;rw[eU (gJ ts _ J (A u)) N];refine(L W k.view).mono ?_;rintro _ F ⟨v,E,rfl,r,D,Y,ho,C⟩;exact G v F (k.call r) ⟨E,D,k.retN r D Y ho,C⟩ r
theorem oqV(i : Nat)(f : FuncId){o : Oper}(M : ops[i]? = some o)(L : o.guard = none)(v : Value)(r : vs[i]? = some (.val v))(ts : List Nat)(g : (Nat -> Value) -> List Value)(k : ∀ u, (ts.map fun t => look (iK ops ds vs u i ++ aV s ds) t) = (g u).map some)
  (h:∀(u:Nat->Value) (V:View),View.le U V->(∀j,cH .any ops i j=true->gE vs j (u j) V)->∃d,enters P (ts.zip (g u)) o=some (f,d)/\
   ∀W,(∀a v,V a=some v->W.cell? a=some v)->Calls P f d W (Ret v W)):Oq P n W0 U σ ops ds vs s i:=
 Oq.op i M _ r λu V E I=>by
  obtain⟨d,J,G⟩:=h u V E I;refine⟨by unfold dA;rw[L],λa W F A Q K D=>?_⟩;unfold Oper.wp;rw[eU (gJ ts _ F (k u)) J];refine(G W A.view).mono ?_;rintro _ C ⟨rfl,B⟩;exact D v C (A.call B) rfl B
theorem oqN(i : Nat){o : Oper}(Y : ops[i]? = some o)(X : o.guard = none)(Φ : Value -> View -> Prop)(C : vs[i]? = some (.mem Φ))(ts : List Nat)(d : (Nat -> Value) -> List Value)(B : ∀ u, (ts.map fun t => look (iK ops ds vs u i ++ aV s ds) t) = (d u).map some)
  (h:∀(u:Nat->Value) (V:View),View.le U V->(∀j,cH .any ops i j=true->gE vs j (u j) V)->∃(cs:List Value) (t:TypeId) (E:Nat->Value),makes P (ts.zip (d u)) o=some (.cells cs.toArray t (0,0),λr=>some (E r))/\
   ∀g V',View.le V V'->V'.range g 0 cs->Φ (E g) V'):Oq P n W0 U σ ops ds vs s i:=
 Oq.op i Y _ C λu V M O=>by
  obtain⟨cs,t,E,Z,D⟩:=h u V M O;refine⟨by unfold dA;rw[X],λa W N A Q K L=>?_⟩;unfold Oper.wp;rw[mN (gJ ts _ N (B u)) Z];have G:Below W.heap.size W (W.alloc (.cells cs.toArray t (0,0))):=(Below.refl _ _).alloc (O9 _) _;have f:=A.call G;obtain⟨V',F,I,J⟩:=f.addView (heap_alloc_last W (.cells cs.toArray t (0,0))) A.below.size λk x hx=>by
   have:=gQ (A.own k x.1 x.2 hx).1;omega
  exact L _ _ f ⟨V',F,J,D _ _ F I⟩ G
theorem oqP(i : Nat){o : Oper}(F : ops[i]? = some o)(E : o.guard = none)(Φ : Value -> View -> Prop)(g : vs[i]? = some (.mem Φ))(ts : List Nat)(d : (Nat -> Value) -> List Value)(f : ∀ u, (ts.map fun t => look (iK ops ds vs u i ++ aV s ds) t) = (d u).map some)
  (h:∀(u:Nat->Value) (V:View),View.le U V->(∀j,cH .any ops i j=true->gE vs j (u j) V)->∃v,quiet P (ts.zip (d u)) o=some v/\Φ v V):Oq P n W0 U σ ops ds vs s i:=
 Oq.op i F _ g λu V B D=>by
  obtain⟨v,G,k⟩:=h u V B D;refine⟨by unfold dA;rw[E],λa W C r Q K A=>?_⟩;unfold Oper.wp;rw[oY (gJ ts _ C (f u)) G];exact A v W r ⟨V,View.le_refl _,r,k⟩ (Below.refl _ _)
theorem Yh{id : Nat}{l : List Oper}{Q : XQ}(m f r : Nat)(ds : List Nat)(vs : List Sq)(hm : P.follows .mixedOrders = true)(J : l.length = m + f)(E : ds.length = m)
  (Z:pI l.toArray ds=true) (I:nodupB ds=true) (a1:(ds.all λd=>Nat.blt d n)=true) (k:fQ .any l.toArray m=true) (B:lP .any l.toArray m r=true) (g:jV l.toArray m f=true) (G:∀q∈vs,mY q)
  (a7:Go.Proofs.YtkoamlfiijcecaaGreatDoor.Steps (Oq P n W0 U σ l.toArray ds vs s) 0 m)
  (h:∀(u:Nat->Value) (V:View),View.le U V->(∀j,j<m->gE vs j (u j) V)->SXL P n W0 Q l.toArray (l.drop m) (IF u 0 ds vs++aV s ds) V σ):SXC P n W0 Q (.region id l.toArray true) s U σ:=by
 refine⟨λa W C hM=>?_⟩;have hn:=jW I;have K:∀d∈ds,d<n:=λd K=>by have:=M7.1 a1 d K;simpa[Z5]using this
 refine tN m f r (Mem W0 U σ) ds (IsQ W0 U σ vs) DJ hm (by simpa using J) E Z I k B (λi v w w' h N=>N.keep h) hM.drew ?_ ?_
 ·have:∀(c i:Nat),Go.Proofs.YtkoamlfiijcecaaGreatDoor.Steps (Oq P n W0 U σ l.toArray ds vs s) i c->Go.Proofs.YtkoamlfiijcecaaGreatDoor.Steps (CM P .any l.toArray (up n W0 Q) (Mem W0 U σ) DJ (IsQ W0 U σ vs) ds a) i c:=by
   intro c
   induction c with
   |zero=>intro i _;trivial
   |succ c ih=>intro i h;exact⟨h.1.go a _ C hn K G,ih (i+1) h.2⟩
  exact this m 0 a7
 ·intro u W' Y N;refine iC f m _ W' (by simpa using J.symm) g ?_;have L:=λt=>gB ds 0 u a t hn (by rw[C.size];exact K)
  obtain⟨V,O,X,h3⟩:=MJ (u:=u) G Y (List.range m) λj hj=>N j (S4.1 hj)
  refine(h u V O λj hj=>h3 j (S4.2 hj)).go _ W' ⟨by rw[(L 0).2.2.1,C.size],by rw[(L 0).2.2.2,C.defers],λt v D=>?_⟩ X;rcases eW _ _ _ _ D with D|⟨_,D⟩
  ·have F:=iT _ _ _ D;obtain⟨j,q,hd2,a6,M⟩:=lY u 0 _ _ _ _ F;have a8:j<ds.length:=(L8.1 hd2).1;obtain⟨q',A,hs⟩:=N j oW;rw[a6]at A;simp only[L0]at A;subst A;rw[(L t).1 j hd2,O0];cases q with
   |val w=>simp only[Dt]at hs;simp only at M;rw[hs,M]
   |mem Φ=>simp only[O0]at M;rw[M]
  ·obtain⟨O,X⟩:=fH _ _ _ _ D;rw[(L t).2.1 O];exact C.slots t v X
def dqA(P:Program)(l:List Oper)(σ:aH)(ks:List Nat)(tv:List Sq)(s:cA)(u:Nat->Value):=drX P l.toArray σ (λacc i=>iK l.toArray (dsO l ks.length) acc u i++aV s (dsO l ks.length)) Sq.val ks tv 0 []
def dvQ(P:Program)(l:List Oper)(σ:aH)(ks:List Nat)(tv:List Sq)(s:cA):List Sq:=match dqA P l σ ks tv s (λ_=>undef)with
 |some (vs,_,_)=>vs
 |none=>[]
theorem Ns{u:Nat->Value}(a r:List Sq)(h:∀j,cH .any ops a.length j=true->j<a.length):iK ops ds (a++r) u a.length=iK ops ds a u a.length:=by
 unfold iK;congr 1;funext j;cases d:cH .any ops a.length j with
 |false=>rfl
 |true=>rw[Q1 (h j d)]
theorem Jf{i:Nat}(h:∀u,∃k,k≠1/\WV P ops σ (λacc i=>iK ops ds acc u i++aV s ds) Sq.val vs i k){σ':aH}(hs:∀(k:Nat) (x:Nat×Obj),σ[k]? =some x->σ'[k]? =some x):Oq P n W0 U σ' ops ds vs s i:=by
 refine⟨λO Q F J G I=>⟨λu W r M K A=>?_⟩⟩;have j:=OE (u:=u) (W:=W) i F J G M;obtain⟨k,C,N⟩:=h u;unfold wpOp
 match k,C,N with
 |0,_,⟨o,v,d,f,g,a⟩=>
  simp only[d,lT j f,if_true];left;unfold Oper.wp;rw[oY j g];have:=A v W r (Below.refl _ _) ⟨_,a,rfl⟩;rw[d]at this;exact this
 |1,C,_=>exact absurd rfl C
 |2,_,⟨o,d,f,g⟩=>
  simp only[d,lT j f];have:=A undef W r (Below.refl _ _) ⟨_,g,rfl⟩;rw[d]at this;exact this
 |k+3,_,⟨o,v,b,c,t,m,d,f,g,a,E⟩=>
  simp only[d,lT j g,if_true];left;unfold reads at a;split at a
  ·next D=>
   split at a
   ·next x V L=>
    simp only[L0,N3]at a;obtain⟨rfl,B⟩:=a;unfold Oper.wp;rw[gM j D,AG r (cs:=c.toList) (by simpa using hs _ _ f) L B];have:=A x W r (Below.refl _ _) ⟨_,E,rfl⟩;rw[d]at this;exact this
   ·cases a
  ·cases a
def Mw:Sq->Value->View->Prop
 | .mem Φ,v,V=>Φ v V
 | .val _,_,_=>True
theorem NH{j:Nat}{t:Sq}{v:Value}{V:View}(h:vs[j]? =some t)(a:gE vs j v V):Mw t v V:=by
 unfold gE at a;rw[h]at a;cases t with
 |val _=>trivial
 |mem Φ=>exact a
theorem HX{α:Type}:∀{ks:List Nat} {tv:List α} {j:Nat} {t:α},tlk ks tv j=some t->ks[j]? =some 1/\t∈tv
 | [],tv,j,t,h=>by cases j<;>cases h
 |0::ks,tv,0,t,h=>by cases h
 |0::ks,tv,j+1,t,h=>HX (ks:=ks) h
 |1::ks,[],0,t,h=>by cases h
 |1::ks,[],j+1,t,h=>HX (ks:=ks) (tv:=[]) h
 |1::ks,x::tv,0,t,h=>by cases h;exact⟨rfl,Q3 ..⟩
 |1::ks,x::tv,j+1,t,h=>⟨(HX (ks:=ks) h).1,P3 _ (HX (ks:=ks) h).2⟩
 |(k+2)::ks,tv,0,t,h=>by cases h
 |(k+2)::ks,tv,j+1,t,h=>HX (ks:=ks) h
section
variable {l:List Oper} {ks:List Nat} {T:List (Nat×Nat)} {tv:List Sq}
abbrev DqT(P:Program)(l:List Oper)(σ:aH)(ks:List Nat)(T:List (Nat×Nat))(tv:List Sq)(s:cA):Prop:=∀u,dqA P l σ ks tv s u=some (dvQ P l σ ks tv s,tt T,tt T)
theorem Nv(f:DqT P l σ ks T tv s)(g:fQ .any l.toArray ks.length=true)(u:Nat->Value)(j k:Nat)(d:ks[j]? =some k):(k=1/\∃t,tlk ks tv j=some t/\(dvQ P l σ ks tv s)[j]? =some t)\/(k≠1/\WV P l.toArray σ (λa i=>iK l.toArray (dsO l ks.length) a u i++aV s (dsO l ks.length)) Sq.val (dvQ P l σ ks tv s) j k):=by
 have:=Ls (m:=ks.length) (λa r h=>?_) ks tv [] _ (by simp) (f u) j k d
 ·rwa[show([]:List Sq).length+j=j from O0 j]at this
 ·show iK _ _ (a++r) _ _++_=iK _ _ a _ _++_;rw[Ns a r λj d=>WM g h d]
theorem Lr(f:DqT P l σ ks T tv s)(g:fQ .any l.toArray ks.length=true)(j:Nat)(t:Sq)(h:tlk ks tv j=some t):(dvQ P l σ ks tv s)[j]? =some t:=by
 rcases Nv f g (λ_=>undef) j 1 (HX h).1 with⟨_,r,a,d⟩|⟨k,_⟩
 ·rw[h]at a;cases a;exact d
 ·exact absurd rfl k
theorem Uj(C:DqT P l σ ks T tv s)(D:fQ .any l.toArray ks.length=true)(g:(dvQ P l σ ks tv s).length<=ks.length)(u:∀q∈tv,mY q):∀q∈dvQ P l σ ks tv s,mY q:=by
 intro q E;obtain⟨j,d⟩:=ay E;have r:j<ks.length:=X5 (L8.1 d).1 g;rcases Nv C D (λ_=>undef) j _ (K8 r)with⟨_,t,B,A⟩|⟨f,h⟩
 ·rw[d]at A;cases A;exact u _ (HX B).2
 ·revert f h;generalize ks[j]=k;intro f h
  match k,f,h with
  |0,_,⟨o,v,_,_,_,a⟩=>rw[d]at a;cases a;trivial
  |1,f,_=>exact absurd rfl f
  |2,_,⟨o,_,_,a⟩=>rw[d]at a;cases a;trivial
  |k+3,_,⟨o,v,b,c,t,m,_,_,_,_,a⟩=>rw[d]at a;cases a;trivial
theorem WN{O : Nat -> Prop}(h : DqT P l σ ks T tv s)(r : fQ .any l.toArray ks.length = true)
  (A:∀j,ks[j]? ≠some 1->(∀σ',(∀(k:Nat) (x:Nat×Obj),σ[k]? =some x->σ'[k]? =some x)->Oq P n W0 U σ' l.toArray (dsO l ks.length) (dvQ P l σ ks tv s) s j)->O j)
  (ho:obT (λj t=>(dvQ P l σ ks tv s)[j]? =some t->O j) 0 ks tv):Go.Proofs.YtkoamlfiijcecaaGreatDoor.Steps O 0 ks.length:=by
 refine LM _ _ λj B=>?_
 rw[O0];by_cases d:ks[j]? =some 1
 ·rcases Nv h r (λ_=>undef) j 1 d with⟨_,t,a,g⟩|⟨f,_⟩
  ·have:=BW ks tv 0 j t ho a;rw[O0]at this;exact this g
  ·exact absurd rfl f
 ·refine A j d λσ' hs=>Jf (λu=>?_) hs
  have f:=K8 B;rcases Nv h r u j _ f with⟨a,_⟩|⟨a,g⟩
  ·rw[f,a]at d;exact absurd rfl d
  ·exact⟨_,a,g⟩
def Oqw(P:Program)(n:Nat)(W0:Cx)(U:View)(σ:aH)(ops:Array Oper)(ds ks:List Nat)(tv vs:List Sq)(s:cA)(i:Nat)(t:Sq):Prop:=(∀j t,tlk ks tv j=some t->vs[j]? =some t)->vs[i]? =some t->Oq P n W0 U σ ops ds vs s i
theorem jX{G : Nat}{l : List Oper}{Q : XQ}(r : Nat)(ks : List Nat)(T : List (Nat × Nat))(tv : List Sq)(k : ∀ q ∈ tv, mY q)(B : obT (Oqw P n W0 U σ l.toArray (dsO l ks.length) ks tv (dvQ P l σ ks tv s) s) 0 ks tv)
  (h:∀(u:Nat->Value) (V:View),View.le U V->(∀{t:Sq} (j:Nat),tlk ks tv j=some t->Mw t (u j) V)->SXL P n W0 Q l.toArray (l.drop ks.length) (IF u 0 (dsO l ks.length) (dvQ P l σ ks tv s)++aV s (dsO l ks.length)) V σ)
  (f:DqT P l σ ks T tv s:=by intro u;kernel_rfl) (a:Nat.ble (dvQ P l σ ks tv s).length ks.length=true:=by kernel_rfl) (g:Hs P n l ks.length r=true:=by kernel_rfl):SXC P n W0 Q (.region G l.toArray true) s U σ:=by
 unfold Hs at g;simp only[L5]at g;obtain⟨⟨⟨⟨⟨⟨⟨I,A⟩,J⟩,K⟩,L⟩,d⟩,M⟩,N⟩:=g;have A:=U1 A;have D:=Lr f d;refine Yh ks.length (l.length-ks.length) r (dsO l ks.length) (dvQ P l σ ks tv s) I oW (TO A) J K L d M N (Uj f d (U1 a) k) (WN f d (λj _ h=>h σ λ_ _ h=>h) ?_) λu V E F=>h u V E λ{t} j C=>NH (D j t C) (F j ((L8.1 (HX C).1).1))
 exact sB (λj t (ho:Oqw ..)=>ho D) _ _ _ B
end
section
variable {ks:List Nat} {tv:List Sq} {i:Nat} {v:Value} {Φ:Value->View->Prop}
abbrev Sh(ops:Array Oper)(ks:List Nat)(tv:List Sq)(u:Nat->Value)(V:View)(i:Nat):Prop:=∀{t:Sq} (j:Nat),cH .any ops i j=true->tlk ks tv j=some t->Mw t (u j) V
theorem qD{u:Nat->Value}{V:View}(f:∀j t,tlk ks tv j=some t->vs[j]? =some t)(a:∀j,cH .any ops i j=true->gE vs j (u j) V):Sh ops ks tv u V i:=λj d g=>NH (f _ _ g) (a j d)
theorem wV(f : FuncId)(d : (Nat -> Value) -> Array Value)(h : ∀ (u : Nat -> Value) (V : View), View.le U V -> Sh ops ks tv u V i -> ∀ W, (∀ a v, V a = some v -> W.cell? a = some v) -> Calls P f (d u) W (Ret v W))
  (G:ops[i]? =some (iP ops i):=by rfl) (F:(iP ops i).guard=none:=by rfl) (E:∀u,enters P (iK ops ds vs u i++aV s ds) (iP ops i)=some (f,d u):=by intro u;kernel_rfl):Oqw P n W0 U σ ops ds ks tv vs s i (.val v):=
 λI g=>Oq.op i G _ g λu V B D=>by
  refine⟨by unfold dA;rw[F],λa W C j Q K A=>?_⟩;unfold Oper.wp;rw[eU C (E u)];refine(h u V B (qD I D) W j.view).mono ?_;rintro _ r ⟨rfl,k⟩;exact A v r (j.call k) rfl k
theorem wM(f : FuncId)(d : (Nat -> Value) -> Array Value)(h : ∀ (u : Nat -> Value) (V : View), View.le U V -> Sh ops ks tv u V i -> ∀ W, (∀ a v, V a = some v -> W.cell? a = some v) -> Calls P f (d u) W (fV W V Φ))
  (L:ops[i]? =some (iP ops i):=by rfl) (J:(iP ops i).guard=none:=by rfl) (I:∀u,enters P (iK ops ds vs u i++aV s ds) (iP ops i)=some (f,d u):=by intro u;kernel_rfl):Oqw P n W0 U σ ops ds ks tv vs s i (.mem Φ):=
 λg r=>Oq.op i L _ r λu V E G=>by
  refine⟨by unfold dA;rw[J],λa W F j Q K D=>?_⟩;unfold Oper.wp;rw[eU F (I u)];refine(h u V E (qD g G) W j.view).mono ?_;rintro _ C ⟨v,B,rfl,k,g,M,ho,A⟩;exact D v C (j.call k) ⟨B,g,j.retN k g M ho,A⟩ k
theorem wN(ts : List Nat)(a : (Nat -> Value) -> List Value)(h : ∀ (u : Nat -> Value) (V : View), View.le U V -> Sh ops ks tv u V i -> ∃ (cs : List Value) (t : TypeId) (j : Nat -> Value), makes P (ts.zip (a u)) (iP ops i) = some (.cells cs.toArray t (0, 0), fun r => some (j r)) /\ ∀ g V', View.le V V' -> V'.range g 0 cs -> Φ (j g) V')
  (C:ops[i]? =some (iP ops i):=by rfl) (B:(iP ops i).guard=none:=by rfl) (d:∀u,(ts.map λt=>look (iK ops ds vs u i++aV s ds) t)=(a u).map some:=by intro u;kernel_rfl):Oqw P n W0 U σ ops ds ks tv vs s i (.mem Φ):=
 λD f=>oqN i C B Φ f ts a d λu V k A=>h u V k (qD D A)
theorem wP(ts : List Nat)(a : (Nat -> Value) -> List Value)(h : ∀ (u : Nat -> Value) (V : View), View.le U V -> Sh ops ks tv u V i -> ∃ v, quiet P (ts.zip (a u)) (iP ops i) = some v /\ Φ v V)
  (r:ops[i]? =some (iP ops i):=by rfl) (k:(iP ops i).guard=none:=by rfl) (d:∀u,(ts.map λt=>look (iK ops ds vs u i++aV s ds) t)=(a u).map some:=by intro u;kernel_rfl):Oqw P n W0 U σ ops ds ks tv vs s i (.mem Φ):=
 λA f=>oqP i r k Φ f ts a d λu V g j=>h u V g (qD A j)
theorem wE(d:Value)(f:d=v)(g:ops[i]? =some (iP ops i):=by rfl)(j:∀u,dA ops (iK ops ds vs u i++aV s ds) (iP ops i)=some true:=by intro u;kernel_rfl)(h:∀u,quiet P (iK ops ds vs u i++aV s ds) (iP ops i)=some d:=by intro u;kernel_rfl):Oqw P n W0 U σ ops ds ks tv vs s i (.val v):=
 λ_ a=>oqQ i g d v f a j h
end
theorem gR{Q : XQ}{l : List Oper}{o : Oper}(cs : List Value)(t : TypeId)(A : Nat -> Value)(hm : makes P s o = some (.cells cs.toArray t (0, 0), fun r => some (A r)))(u : fF n o = true)(G : dA ops s o = some true)
  (h:∀g V,View.le U V->V.range g 0 cs->SXL P n W0 Q ops l (lQ o (A g) s) V σ):SXL P n W0 Q ops (o::l) s U σ:=by
 refine oT u G λa W j d K E=>?_
 unfold Oper.wp;rw[mN j hm];have F:Below W.heap.size W (W.alloc (.cells cs.toArray t (0,0))):=(Below.refl _ _).alloc (O9 _) _;have f:=d.call F;obtain⟨J,B,C,D⟩:=f.addView (heap_alloc_last W (.cells cs.toArray t (0,0))) d.below.size λk x I=>by
  have:=gQ (d.own k x.1 x.2 I).1;omega
 exact E _ _ _ _ _ (h _ _ B C) (eL j u) D
end
theorem qS{P:Program}{n:Nat}{W0:Cx}{Q:XQ}{ops:Array Oper}{l:List Oper}{s:cA}{U:View}{σ:aH}(t:Nat){v a:Value}(d:v=a)(h:SXL P n W0 Q ops l ((t,a)::s) U σ)(f:look s t=some v:=by kernel_rfl):SXL P n W0 Q ops l s U σ:=Ke t v a f d h
end Go.Proofs.YtkoamlfiijcecaaGreatDoor.Sx
namespace Go.Proofs.YtkoamlfiijcecaaGreatDoor.Eid
open Go.ChangeShapes Go.WideShapes Go.ChangeAt Go.RowKit

theorem BJ(l p:List UInt8)(w:World):Calls Tryz.prog 272 #[.string (B l),.string (B p)] w λe w'=>e=.returned (.bool (pre p l))/\w=w':=by
 have h:=tD l p;have H:=Lib.hid h;clear h
 go_enter Tryz.func272,Tryz.ntmps272
 go_wp2
 all_goals
  go_ret
  exact⟨by rw[<-H.out];refine rU ?_;simp_all;try omega,rfl⟩
theorem IJ(l p:List UInt8)(w:World):Calls Tryz.prog 266 #[.string (B l),.string (B p)] w λe w'=>e=.returned (.tuple #[.string (B (Hr p l)),.bool (pre p l)])/\w=w':=by
 cases hp:pre p l
 ·have hc:=ZX hp;have H:=Lib.hid hp;have HC:=Lib.hid hc;clear hp hc
  go_enter Tryz.func266,Tryz.ntmps266
  go_wp2_with (go_at_call 272;refine(BJ _ _ _).mono ?_;rw[H.out];rintro e w' ⟨rfl,rfl⟩)
  go_ret2
  exact⟨by rw[HC.out];rfl,rfl⟩
 ·have hle:=JH hp;have hc:=PZ hp;have H:=Lib.hid hp;have HC:=Lib.hid hc;clear hp hc
  go_enter Tryz.func266,Tryz.ntmps266
  go_wp2_with (go_at_call 272;refine(BJ _ _ _).mono ?_;rw[H.out];rintro e w' ⟨rfl,rfl⟩)
  go_ret2
  exact⟨by rw[HC.out];rfl,rfl⟩
theorem NJ(l p:List UInt8)(w:World):Calls Tryz.prog 245 #[.string (B l),.string (B p)] w λe w'=>e=.returned (.tuple #[.string (B (Hr p l)),.bool (pre p l)])/\w=w':=by
 go_enter Tryz.func245,Tryz.ntmps245
 go_wp2_with (go_at_call 266;refine(IJ _ _ _).mono ?_;rintro e w' ⟨rfl,rfl⟩)
 go_ret2
 exact⟨rfl,rfl⟩

def nb(c:Int):Bool:=decide (97<=c/\c<=122\/48<=c/\c<=57\/c=45\/c=46)
theorem lE(c:Int)(w:World):Calls Tryz.prog 246 #[.int .i32 c] w λe w'=>e=.returned (.bool (nb c))/\w=w':=by
 go_enter Tryz.func246,Tryz.ntmps246
 go_wp2
 all_goals
  go_ret
  exact⟨rU (by simp[nb]<;>omega),rfl⟩

def scan:List UInt8->Nat->Nat
 | [],_=>0
 |c::r,i=>if nb c.toNat then scan r (i+1)else if c.toNat=47/\0<i then i+3 else 0
def lL(l:List UInt8):Nat:=if pre [47,47] l/\l.length<=60 then scan (l.drop 2) 0 else 0

theorem VR(l:List UInt8)(w:World)(hl:l.length<=maxLen):Calls Tryz.prog 216 #[.string (B l)] w λe w'=>e=.returned (.int .i64 (lL l))/\Below w.heap.size w w':=by
 unfold maxLen at hl
 go_enter Tryz.func216,Tryz.ntmps216
 go_wp2_with fail
 refine(NJ _ [47,47] _).mono ?_;rintro e w1 ⟨rfl,rfl⟩
 cases hp:pre [47,47] l
 ·have H:=Lib.hid hp;clear hp
  go_wp2
  go_ret
  exact⟨by unfold lL;rw[H.out];rfl,Below.refl _ _⟩
 ·have hc:=PZ hp;have H:=Lib.hid hp;rw[hc];clear hp hc;by_cases h60:l.length<=60
  ·have hn:lL l=scan (l.drop 2) 0:=by unfold lL;rw[N1 ⟨H.out,h60⟩]
   have hm:(l.drop 2).length<=60:=by simp;omega
   generalize l.drop 2=m at hn hm;have HN:=Lib.hid hn;clear hn
   go_wp2
   go_loopw [] (λwr=>∃k:Nat,k<=m.length/\wr=w.iter (B m) k/\lL l=scan (m.drop k) k) (λwr=>m.length-wr.iterPos w.heap.size)
   case atStart=>exact⟨0,M8 _,rfl,HN.out⟩
   case round=>
    obtain⟨k,hk,rfl,hs⟩:=hrel;by_cases hlt:k<m.length
    ·have hB:k<(B m).size:=by rw[sV];exact hlt
     have hd:m.drop k=m[k]::m.drop (k+1):=R1 hlt;rw[hd]at hs;have HS:=Lib.hid hs;clear hs hd;by_cases ha:m[k].toNat<128
     ·have hnx:∀ty,(Instr.next (.pointer (some ⟨w.heap.size,0,none⟩)) true ty).run Tryz.prog (w.iter (B m) k)=.ok (.tuple #[.bool true,.int .i64 k,.int .i32 m[k].toNat]) (w.iter (B m) (k+1)):=λty=>run_next_ascii w (B m) k ty hB ha
      generalize hc:m[k].toNat=c at *;cases hb:nb c
      ·have Hb:=Lib.hid hb;by_cases h47:c=47
       ·by_cases h0:0<k
        ·have e:lL l=k+3:=by rw[HS.out];unfold scan;rw[hc,M5 (by rw[hb];decide),N1 ⟨h47,h0⟩]
         have HE:=Lib.hid e;have hb7:nb 47=false:=by decide
         have Hb7:=Lib.hid hb7;clear e hb hb7;subst h47
         go_wp2_with (go_at_call 246;refine(lE _ _).mono ?_;rw[Hb7.out];rintro e w' ⟨rfl,rfl⟩)
         go_ret
         exact⟨by rw[HE.out];exact Xi oW,(Below.refl _ _).alloc (O9 _) _⟩
        ·have e:lL l=0:=by rw[HS.out];unfold scan;rw[hc,M5 (by rw[hb];decide),M5 oW]
         have HE:=Lib.hid e;obtain rfl:k=0:=by omega
         have hb7:nb 47=false:=by decide
         have Hb7:=Lib.hid hb7;clear e hb h0 hb7;subst h47
         go_wp2_with (go_at_call 246;refine(lE _ _).mono ?_;rw[Hb7.out];rintro e w' ⟨rfl,rfl⟩)
         go_ret
         exact⟨by rw[HE.out];rfl,(Below.refl _ _).alloc (O9 _) _⟩
       ·have e:lL l=0:=by rw[HS.out];unfold scan;rw[hc,M5 (by rw[hb];decide),M5 oW]
        have HE:=Lib.hid e;have hne:((c:Int)==47)=false:=by rw[M2];omega
        clear e hb
        go_wp2_with (go_at_call 246;refine(lE _ _).mono ?_;rw[Hb.out];rintro e w' ⟨rfl,rfl⟩)
        go_ret
        exact⟨by rw[HE.out];rfl,(Below.refl _ _).alloc (O9 _) _⟩
      ·have e:lL l=scan (m.drop (k+1)) (k+1):=by
        rw[HS.out]
        conv=>lhs;unfold scan
        rw[hc,N1 hb]
       have HE:=Lib.hid e;have Hb:=Lib.hid hb;clear e hb
       go_wp2_with (go_at_call 246;refine(lE _ _).mono ?_;rw[Hb.out];rintro e w' ⟨rfl,rfl⟩)
       go_roundw
       case rel=>exact⟨k+1,by omega,rfl,HE.out⟩
       case measure=>simp;omega
     ·have hnx:∀ty,(Instr.next (.pointer (some ⟨w.heap.size,0,none⟩)) true ty).run Tryz.prog (w.iter (B m) k)=_:=λty=>run_next_any w (B m) k ty hB
      obtain⟨h1,h2⟩:=decode_high (B m) k hB (by rw[Bw];omega);generalize Utf8.decode (B m) k=dd at hnx h1 h2;obtain⟨r,d⟩:=dd;have hnb:nb r=false:=by unfold nb;simp at h1 ⊢;omega
      have e:lL l=0:=by rw[HS.out];unfold scan;rw[M5 (by unfold nb;simp;omega),M5 oW]
      have HE:=Lib.hid e;have Hb:=Lib.hid hnb;have hne:((r:Int)==47)=false:=by rw[M2];simp at h1;omega
      clear e hnb h1 h2
      go_wp2_with (go_at_call 246;refine(lE _ _).mono ?_;rw[Hb.out];rintro e w' ⟨rfl,rfl⟩)
      go_ret
      exact⟨by rw[HE.out];rfl,(Below.refl _ _).alloc (O9 _) _⟩
    ·have hnx:∀ty,(Instr.next (.pointer (some ⟨w.heap.size,0,none⟩)) true ty).run Tryz.prog (w.iter (B m) k)=_:=λty=>run_next_end w (B m) k ty (by rw[sV];exact hlt)
     have e:lL l=0:=by rw[hs,R6 oW];rfl
     have HE:=Lib.hid e;clear e hs
     go_wp2
     go_ret
     exact⟨by rw[HE.out];rfl,(Below.refl _ _).alloc (O9 _) _⟩
  ·go_wp2
   go_ret
   exact⟨by unfold lL;rw[M5 oW];rfl,Below.refl _ _⟩

theorem Xn:∀(l:List UInt8) (i:Nat),scan l i<=i+l.length+2
 | [],i=>by simp[scan]
 |c::r,i=>by
  unfold scan;have:=Xn r (i+1);split
  ·simp at this ⊢;omega
  ·split<;>simp<;>omega
theorem Pe(l:List UInt8):lL l<=l.length:=by
 unfold lL;split
 ·rename_i h
  have a:=JH h.1;have:=Xn (l.drop 2) 0;simp at this a;omega
 ·omega
def jR(c:UInt8):Bool:=decide (33<=c.toNat/\c.toNat<=126)
def pA(l:List UInt8):Bool:=l==[110,111,110,101]||(lL l !=0&&(l.drop (lL l)).all jR)
set_option maxRecDepth 100000 in
theorem Wa(l:List UInt8)(w:World)(hl:l.length<=maxLen):Calls Tryz.prog 176 #[.string (B l)] w λe w'=>e=.returned (.bool (pA l))/\Below w.heap.size w w':=by
  have hle:=Pe l;have hl0:=hl;unfold maxLen at hl
  go_enter Tryz.func176,Tryz.ntmps176
  cases hn:(l==[110,111,110,101])
  ·have HN:=Lib.hid hn
   go_wp2_with fail
   refine(VR _ _ hl0).mono ?_;rintro e w1 ⟨rfl,hb⟩
   cases h0:((lL l:Int)==0)
   ·have e:pA l=(l.drop (lL l)).all jR:=by
      unfold pA;rw[HN.out];have:(lL l !=0)=true:=by rw[Q0];rw[M2]at h0;omega
      simp[this]
    obtain⟨cap,w2,hconv,hcap,hb2,hz2,hc2,-⟩:=KL (P:=Tryz.prog) w1 9 181 5 (l.drop (lL l)) Tryz.underlying9 Tryz.underlying181 Tryz.underlying5;have hb3:Below w.heap.size w w2:=hb.trans (hb2.mono hb.size);have hm:(l.drop (lL l)).length<=9223372036854775807:=by simp;omega
    generalize lL l=n at *;generalize hmm:l.drop n=m at *;have htk:m.take (l.length-n)=m:=O2 (by rw[<-hmm];simp);have HZ:=Lib.hid hz2;have HE:=Lib.hid e;have HC:=Lib.hid hc2;clear hz2 e hc2 hn
    go_wp2
    clear hmm htk
    go_loop [17] (λi=>∃k:Nat,k<=m.length/\i=.int .i64 k/\m.all jR=(m.drop k).all jR) (λi=>m.length-(intOf i).toNat)
    case atStart=>exact⟨0,M8 _,rfl,rfl⟩
    case round=>
      obtain⟨k,hk,rfl,hv⟩:=hrel;by_cases hlt:k<m.length
      ·have hcell:=HC.out k hlt;rw[R1 hlt,W4]at hv;have HV:=Lib.hid hv;clear hv
       go_wp2
       all_goals first
         |(go_ret;exact⟨rU (by rw[HE.out,HV.out];simp[jR];omega),hb3⟩)
         | (go_round
            case rel=>exact⟨k+1,by omega,by go_num,by rw[HV.out];simp[jR];omega⟩
            case measure=>simp[intOf];omega)
      ·go_wp2
       go_ret
       exact⟨rU (by rw[HE.out,hv,R6 oW];simp),hb3⟩
   ·have e:pA l=false:=by
      unfold pA;rw[HN.out];rw[S5]at h0;have:lL l=0:=by omega
      simp[this]
    have HE:=Lib.hid e;clear e
    go_wp2
    go_ret
    exact⟨by rw[HE.out];rfl,hb⟩
  ·have e:pA l=true:=by unfold pA;rw[hn];rfl
   have HE:=Lib.hid e;clear e
   go_wp2
   go_ret
   exact⟨by rw[HE.out];rfl,Below.refl _ _⟩

def gW(s:Int)(l:List UInt8)(n v:Int):Bool:=
 if s=1 then decide (n=0/\v=0)&&pA l else if s=2 then decide (l=[]/\n<=4294967295/\v<=4294967295)else false
theorem Sv(s:Int)(l:List UInt8)(n v:Int)(w:World)(hl:l.length<=maxLen):Calls Tryz.prog 129 #[.agg #[.int .i64 s,.string (B l),.int .u64 n,.int .u64 v]] w λe w'=>e=.returned (.bool (gW s l n v))/\Below w.heap.size w w':=by
 go_enter Tryz.func129,Tryz.ntmps129
 by_cases h1:s=1
 ·subst h1;have e:gW 1 l n v=(decide (n=0/\v=0)&&pA l):=rfl;have HE:=Lib.hid e;clear e;cases hn:(n==0)
  ·go_wp2
   go_ret
   exact⟨by rw[HE.out];rw[M2]at hn;simp[hn],(Below.refl _ _).alloc (O9 _) _⟩
  ·cases hv:(v==0)
   ·go_wp2
    go_ret
    exact⟨by rw[HE.out];rw[M2]at hv;simp[hv],(Below.refl _ _).alloc (O9 _) _⟩
   ·go_wp2_with (go_at_call 176;refine(Wa _ _ hl).mono ?_;rintro e w1 ⟨rfl,hb⟩)
    go_ret
    exact⟨by rw[HE.out];rw[S5]at hn hv;simp[hn,hv],((Below.refl _ _).alloc (O9 _) _).trans (hb.mono (by simp))⟩
 ·by_cases h2:s=2
  ·subst h2
   go_wp2
   all_goals
    go_ret
    exact⟨rU (by simp[gW, *];try omega),(Below.refl _ _).alloc (O9 _) _⟩
  ·go_wp2
   go_ret
   exact⟨by unfold gW;rw[M5 h1,M5 h2];rfl,(Below.refl _ _).alloc (O9 _) _⟩
theorem Mv(w:World):Calls Tryz.prog 187 #[] w λe w'=>e=.returned (.agg #[.int .i64 1,.string (B [110,111,110,101]),.int .u64 0,.int .u64 0])/\Below w.heap.size w w':=by
 go_enter Tryz.func187,Tryz.ntmps187
 go_wp2
 exact bodyPost_ret (v:=.agg #[.int .i64 1,.string (B [110,111,110,101]),.int .u64 0,.int .u64 0]) (by simp[results,Tryz.results187,go_sem];rfl) rfl ⟨rfl,by((repeat' (with_reducible first|exact Below.refl _ _|assumption|refine Below.drew ?_|refine below_drewN ?_ _|refine Below.setCell ?_ ?_ _|refine Below.alloc ?_ ?_ _|refine Below.ext ?_ ?_ _|refine Below.trans ?_ (Below.mono ‹_› ?_)))<;>first|omega|(simp;done)|(simp;omega))⟩
end Go.Proofs.YtkoamlfiijcecaaGreatDoor.Eid
namespace Go.Proofs.YtkoamlfiijcecaaGreatDoor.Sx
open Go.ChangeShapes Go.WideShapes Go.ChangeAt Go.RowKit Go.Deep
def aN(e:Ei):Bool:=Eid.gW e.s e.l e.n e.v
theorem jA(e:Ei)(w:World)(h:e.l.length<=R47):CP 129 #[e.V] w (Ret (.bool (aN e)) w):=Eid.Sv _ _ _ _ w (by unfold R47 at h;unfold maxLen;omega)
def Ei.none:Ei:=⟨1,[110,111,110,101],0,0⟩
theorem pG(w:World):CP 187 #[] w (Ret Ei.none.V w):=Eid.Mv w
def big(n:Nat):Bool:=decide ((n:Int)>1099511627776)
def dU(p:Pr):Bool:= !big p.time&& !big p.seq&& !big p.life&& !big p.off&& !big p.tot&&aN p.dst&&aN p.src&&aN p.rpt&&decide (p.c≥0)&&decide (p.c<=2)&&decide ((p.f:Int)<2097152)
theorem SV(p:Pr)(w:World)(h:p.ok):CP 186 #[p.V] w (Ret (.bool (dU p)) w):=by
 refine dF 52 Tryz.func186 ?_;refine zs (zr (aW (λr=>(zq 1 (zn (zs (zB [0,1,0,1,0,1,0,1,0,1] [(r,1),(r,1),(r,1),(r,1),(r,1)] (aW (λu=>(zq 2 (zn (aB (eF (α:=Nat) (λx=>match x with|0=>[1,2,15,16,17].zip [(Pt r 0),qF,(Sl u 0 5 5),(I6 5),(I6 0)]|1=>[1,2,15,16,17].zip [(Pt r 0),qF,(Sl u 0 5 5),(I6 5),(I6 1)]|2=>[1,2,15,16,17].zip [(Pt r 0),qF,(Sl u 0 5 5),(I6 5),(I6 2)]|3=>[1,2,15,16,17].zip [(Pt r 0),qF,(Sl u 0 5 5),(I6 5),(I6 3)]|4=>[1,2,15,16,17].zip [(Pt r 0),qF,(Sl u 0 5 5),(I6 5),(I6 4)]|_=>[1,2,15,16,17].zip [(Pt r 0),qF,(Sl u 0 5 5),(I6 5),(I6 5)]) (λ_=>View.no) (λx=>[(bK r p.cs 26),(bK u [(N6 p.time),(N6 p.seq),(N6 p.life),(N6 p.off),(N6 p.tot)] 22)]) (λx=>x<=5/\(0<x->(decide ((p.time:Int)>1099511627776))=false)/\(1<x->(decide ((p.seq:Int)>1099511627776))=false)/\(2<x->(decide ((p.life:Int)>1099511627776))=false)/\(3<x->(decide ((p.off:Int)>1099511627776))=false)/\(4<x->(decide ((p.tot:Int)>1099511627776))=false)) (λx=>5-x) 0 ⟨by omega,λh=>absurd h oW,λh=>absurd h oW,λh=>absurd h oW,λh=>absurd h oW,λh=>absurd h oW⟩ ?_)))))))))))));rintro x ⟨hx,a,d,f,g,j⟩;rcases(by omega:x=0\/x=1\/x=2\/x=3\/x=4\/x=5)with rfl|rfl|rfl|rfl|rfl|rfl
 ·refine zQ 1 (zn (zs (dM (zk (zs (aB (zB [0,2,0] [(u,1)] (zn (zQ 2 (zn (aZ ((p.time:Int)>1099511627776) (λF _=>?_) (λF Z=>?_))))))))))))
  ·refine zQ 1 (zn (aA (aO [2] [qF] (λA k=>?_))));exact⟨by simp only[dD,dU,big,F,bs,bQ,reduceIte],k.below⟩
  ·refine zk (zr (zq 2 (zn ?_)));refine nx 1 ⟨by omega,λ_=>F,λh=>absurd h oW,λh=>absurd h oW,λh=>absurd h oW,λh=>absurd h oW⟩ (by show 5-1<5-0;omega)
 ·refine zQ 1 (zn (zs (dM (zk (zs (aB (zB [0,2,0] [(u,1)] (zn (zQ 2 (zn (aZ ((p.seq:Int)>1099511627776) (λG I=>?_) (λG I=>?_))))))))))))
  ·refine zQ 1 (zn (aA (aO [2] [qF] (λA k=>?_))));exact⟨by simp only[dD,dU,big,(a oW),G,bs,bQ,reduceIte],k.below⟩
  ·refine zk (zr (zq 2 (zn ?_)));refine nx 2 ⟨by omega,λ_=>a oW,λ_=>G,λh=>absurd h oW,λh=>absurd h oW,λh=>absurd h oW⟩ (by show 5-2<5-1;omega)
 ·refine zQ 1 (zn (zs (dM (zk (zs (aB (zB [0,2,0] [(u,1)] (zn (zQ 2 (zn (aZ ((p.life:Int)>1099511627776) (λJ K=>?_) (λJ K=>?_))))))))))))
  ·refine zQ 1 (zn (aA (aO [2] [qF] (λA k=>?_))));exact⟨by simp only[dD,dU,big,(a oW),(d oW),J,bs,bQ,reduceIte],k.below⟩
  ·refine zk (zr (zq 2 (zn ?_)));refine nx 3 ⟨by omega,λ_=>a oW,λ_=>d oW,λ_=>J,λh=>absurd h oW,λh=>absurd h oW⟩ (by show 5-3<5-2;omega)
 ·refine zQ 1 (zn (zs (dM (zk (zs (aB (zB [0,2,0] [(u,1)] (zn (zQ 2 (zn (aZ ((p.off:Int)>1099511627776) (λL M=>?_) (λL M=>?_))))))))))))
  ·refine zQ 1 (zn (aA (aO [2] [qF] (λA k=>?_))));exact⟨by simp only[dD,dU,big,(a oW),(d oW),(f oW),L,bs,bQ,reduceIte],k.below⟩
  ·refine zk (zr (zq 2 (zn ?_)));refine nx 4 ⟨by omega,λ_=>a oW,λ_=>d oW,λ_=>f oW,λ_=>L,λh=>absurd h oW⟩ (by show 5-4<5-3;omega)
 ·refine zQ 1 (zn (zs (dM (zk (zs (aB (zB [0,2,0] [(u,1)] (zn (zQ 2 (zn (aZ ((p.tot:Int)>1099511627776) (λN O=>?_) (λN O=>?_))))))))))))
  ·refine zQ 1 (zn (aA (aO [2] [qF] (λA k=>?_))));exact⟨by simp only[dD,dU,big,(a oW),(d oW),(f oW),(g oW),N,bs,bQ,reduceIte],k.below⟩
  ·refine zk (zr (zq 2 (zn ?_)));refine nx 5 ⟨by omega,λ_=>a oW,λ_=>d oW,λ_=>f oW,λ_=>g oW,λ_=>N⟩ (by show 5-5<5-4;omega)
 ·refine zQ 1 (zn (zs (cU (aI (zB [0,1] [(r,4)] (dN (λW k=>jA p.dst W h.dst.l) (zq 1 (cN 27 (aN p.dst) (λB=>?_) (λB=>?_)))))))))
  ·refine cF [0,1] [(r,4)] (dN (λW k=>jA p.src W h.src.l) (zq 2 (cN 32 (aN p.src) (λC=>?_) (λC=>?_))))
   ·refine cF [0,1] [(r,4)] (dN (λW k=>jA p.rpt W h.rpt.l) (zq 2 (cN 37 (aN p.rpt) (λD=>?_) (λD=>?_))))
    ·refine cF [0,1,0,0,0] [(r,1)] (jM 42 (p.c≥0) (λE V=>?_) (λE V=>?_))
     ·refine cF [0,1,0,0,0] [(r,1)] (jM 47 (p.c<=2) (λX Y=>?_) (λX Y=>?_))
      ·refine cF [0,1,0,0,0] [(r,1)] (zn (aA (aO [2] [(.bool (decide ((p.f:Int)<2097152)))] (λA k=>?_))));exact⟨by simp only[dD,dU,big,(a oW),(d oW),(f oW),(g oW),(j oW),B,C,D,E,X,bs,bQ,reduceIte],k.below⟩
      ·refine zq 5 (zn (aA (aO [2] [qF] (λA k=>?_))));exact⟨by simp only[dD,dU,big,(a oW),(d oW),(f oW),(g oW),(j oW),B,C,D,E,X,bs,bQ,reduceIte],k.below⟩
     ·refine zq 10 (zn (aA (aO [2] [qF] (λA k=>?_))));exact⟨by simp only[dD,dU,big,(a oW),(d oW),(f oW),(g oW),(j oW),B,C,D,E,bs,bQ,reduceIte],k.below⟩
    ·refine zq 15 (zn (aA (aO [2] [qF] (λA k=>?_))));exact⟨by simp only[dD,dU,big,(a oW),(d oW),(f oW),(g oW),(j oW),B,C,D,bs,bQ,reduceIte],k.below⟩
   ·refine zq 20 (zn (aA (aO [2] [qF] (λA k=>?_))));exact⟨by simp only[dD,dU,big,(a oW),(d oW),(f oW),(g oW),(j oW),B,C,bs,bQ,reduceIte],k.below⟩
  ·refine zq 25 (zn (aA (aO [2] [qF] (λA k=>?_))));exact⟨by simp only[dD,dU,big,(a oW),(d oW),(f oW),(g oW),(j oW),B,bs,bQ,reduceIte],k.below⟩
def cK(p:Pr):Int:=
 if !dU p then 1
 else if(jE .u64 p.f 1 !=0)&&(jE .u64 p.f 4 !=0)then 8
 else if(!(jE .u64 p.f 1 !=0))&&(((p.off:Int) !=0)||((p.tot:Int) !=0))then 8
 else if(jE .u64 p.f 1 !=0)&&decide ((p.off:Int)≥(p.tot:Int))then 8
 else if decide (p.src.s=1/\p.src.l=[110,111,110,101]/\(p.src.n:Int)=0/\(p.src.v:Int)=0)&&((jE .u64 p.f 278528 !=0)||(jE .u64 p.f 4==0))then 8
 else if(jE .u64 p.f 278528 !=0)&&(jE .u64 p.f 2 !=0)then 8 else 0
theorem BU(p:Pr)(w:World)(h:p.ok):CP 137 #[p.V] w (Ret (.int .i64 (cK p)) w):=by
 refine dF 68 Tryz.func137 ?_;refine zs (zr (aW (λr=>(zq 1 (zn (zs ?_))))));refine gI 0 [0,3,0,0,0,3,0,0,0] [(r,1),(r,1)] [] trivial ?_;refine zq 1 (zn (zs (aB (zB [1] [(r,19)] (dN (λW a=>SV p W h) (zq 2 (zn (gK (!(dU p)) (λg=>?_) (λg=>?_)))))))))
 ·refine zQ 1 (zn (aA (aO [2] [(I6 1)] (λj a=>?_))));exact⟨by simp only[dD,cK,g,bs,bQ,reduceIte],a.below⟩
 ·refine zQ 2 (cN 19 ((jE .u64 (p.f:Int) 1) !=0) (λd=>?_) (λd=>?_))
  ·refine cF [0,1,0,0,0,0] [(r,1)] (zn (gK ((jE .u64 (p.f:Int) 4) !=0) (λB=>?_) (λB=>?_)))
   ·refine zQ 1 (zn (aA (aO [2] [(I6 8)] (λj a=>?_))));exact⟨by simp only[dD,cK,g,d,B,bs,bQ,reduceIte],a.below⟩
   ·refine zs (zQ 3 (dZ 28 (.bool (!((jE .u64 (p.f:Int) 1) !=0))) qF (M0 Value.bool (by rw[d];rfl)) ?_));refine zq 10 (zn (cU (zr (zq 2 (dZ 39 (.bool ((jE .u64 (p.f:Int) 1) !=0)) qT (M0 Value.bool d) ?_)))));refine cF [0,1,0,1,0,0,0] [(r,1),(r,1)] (zn (gK (decide ((p.off:Int)≥(p.tot:Int))) (λD=>?_) (λD=>?_)))
    ·refine zQ 1 (zn (aA (aO [2] [(I6 8)] (λj a=>?_))));exact⟨by simp only[dD,cK,g,d,B,D,bs,bQ,reduceIte],a.below⟩
    ·refine zs ?_;refine gI 4 [0,3,1] [(r,4)] [.val (.agg #[(I6 1),(St [110,111,110,101]),(U6 0),(U6 0)])] ⟨?_,trivial⟩ ?_
     ·exact vC 187 #[] (λW a=>pG W)
     refine cB (.bool (decide (p.src.s=1/\p.src.l=[110,111,110,101]/\(p.src.n:Int)=0/\(p.src.v:Int)=0))) (LN _ _ _ rfl _ _ _ _ _ _ _ _ kR kR) ?_;refine zq 1 (cN 51 (decide (p.src.s=1/\p.src.l=[110,111,110,101]/\(p.src.n:Int)=0/\(p.src.v:Int)=0)) (λG=>?_) (λG=>?_))
     ·refine zq 2 (cN 53 ((jE .u64 (p.f:Int) 278528) !=0) (λI=>?_) (λI=>?_))
      ·refine zq 7 (zn (dM (zQ 1 (zn (aA (aO [2] [(I6 8)] (λj a=>?_)))))));exact⟨by simp only[dD,cK,g,d,B,D,G,I,bs,bQ,reduceIte],a.below⟩
      ·refine cF [0,1,0,0,0,0,0] [(r,1)] (zn (gK ((jE .u64 (p.f:Int) 4)==0) (λK=>?_) (λK=>?_)))
       ·refine zQ 1 (zn (aA (aO [2] [(I6 8)] (λj a=>?_))));exact⟨by simp only[dD,cK,g,d,B,D,G,I,K,bs,bQ,reduceIte],a.below⟩
       ·refine zQ 2 (dZ 62 (.bool ((jE .u64 (p.f:Int) 278528) !=0)) qF (M0 Value.bool I) ?_);refine zq 6 (zn (cU (zk (zQ 1 (zn (aA (aO [2] [(I6 0)] (λj a=>?_))))))));exact⟨by simp only[dD,cK,g,d,B,D,G,I,K,bs,bQ,reduceIte],a.below⟩
     ·refine zq 9 (zn (cU (zQ 2 (cN 62 ((jE .u64 (p.f:Int) 278528) !=0) (λJ=>?_) (λJ=>?_)))))
      ·refine cF [0,1,0,0,0,0] [(r,1)] (zn (gK ((jE .u64 (p.f:Int) 2) !=0) (λL=>?_) (λL=>?_)))
       ·refine zQ 1 (zn (aA (aO [2] [(I6 8)] (λj a=>?_))));exact⟨by simp only[dD,cK,g,d,B,D,G,J,L,bs,bQ,reduceIte],a.below⟩
       ·refine zk (zQ 1 (zn (aA (aO [2] [(I6 0)] (λj a=>?_)))));exact⟨by simp only[dD,cK,g,d,B,D,G,J,L,bs,bQ,reduceIte],a.below⟩
      ·refine zq 6 (zn (cU (zk (zQ 1 (zn (aA (aO [2] [(I6 0)] (λj a=>?_))))))));exact⟨by simp only[dD,cK,g,d,B,D,G,J,bs,bQ,reduceIte],a.below⟩
  ·refine zq 6 (zn (cU (zs (zQ 3 (dZ 28 (.bool (!((jE .u64 (p.f:Int) 1) !=0))) qT (M0 Value.bool (by rw[d];rfl)) ?_)))));refine cF [0,1,0,0] [(r,1)] (cN 32 ((p.off:Int) !=0) (λC=>?_) (λC=>?_))
   ·refine zq 6 (zn (dM (zk (dM (zQ 1 (zn (aA (aO [2] [(I6 8)] (λj a=>?_)))))))));exact⟨by simp only[dD,cK,g,d,C,bs,bQ,reduceIte],a.below⟩
   ·refine cF [0,1,0,0,0,0] [(r,1)] (zn (gK ((p.tot:Int) !=0) (λf=>?_) (λf=>?_)))
    ·refine zk (jG ((p.tot:Int) !=0) f ?_);refine zQ 1 (zn (aA (aO [2] [(I6 8)] (λj a=>?_))));exact⟨by simp only[dD,cK,g,d,f,C,bs,bQ,reduceIte],a.below⟩
    ·refine zr (zq 2 (dZ 39 (.bool ((jE .u64 (p.f:Int) 1) !=0)) qF (M0 Value.bool d) ?_));refine zq 7 (zn (cU (zs ?_)));refine gI 4 [0,3,1] [(r,4)] [.val (.agg #[(I6 1),(St [110,111,110,101]),(U6 0),(U6 0)])] ⟨?_,trivial⟩ ?_
     ·exact vC 187 #[] (λW a=>pG W)
     refine cB (.bool (decide (p.src.s=1/\p.src.l=[110,111,110,101]/\(p.src.n:Int)=0/\(p.src.v:Int)=0))) (LN _ _ _ rfl _ _ _ _ _ _ _ _ kR kR) ?_;refine zq 1 (cN 51 (decide (p.src.s=1/\p.src.l=[110,111,110,101]/\(p.src.n:Int)=0/\(p.src.v:Int)=0)) (λk=>?_) (λk=>?_))
     ·refine zq 2 (cN 53 ((jE .u64 (p.f:Int) 278528) !=0) (λu=>?_) (λu=>?_))
      ·refine zq 7 (zn (dM (zQ 1 (zn (aA (aO [2] [(I6 8)] (λj a=>?_)))))));exact⟨by simp only[dD,cK,g,d,f,k,u,C,bs,bQ,reduceIte],a.below⟩
      ·refine cF [0,1,0,0,0,0,0] [(r,1)] (zn (gK ((jE .u64 (p.f:Int) 4)==0) (λE=>?_) (λE=>?_)))
       ·refine zQ 1 (zn (aA (aO [2] [(I6 8)] (λj a=>?_))));exact⟨by simp only[dD,cK,g,d,f,k,u,E,C,bs,bQ,reduceIte],a.below⟩
       ·refine zQ 2 (dZ 62 (.bool ((jE .u64 (p.f:Int) 278528) !=0)) qF (M0 Value.bool u) ?_);refine zq 6 (zn (cU (zk (zQ 1 (zn (aA (aO [2] [(I6 0)] (λj a=>?_))))))));exact⟨by simp only[dD,cK,g,d,f,k,u,E,C,bs,bQ,reduceIte],a.below⟩
     ·refine zq 9 (zn (cU (zQ 2 (cN 62 ((jE .u64 (p.f:Int) 278528) !=0) (λA=>?_) (λA=>?_)))))
      ·refine cF [0,1,0,0,0,0] [(r,1)] (zn (gK ((jE .u64 (p.f:Int) 2) !=0) (λF=>?_) (λF=>?_)))
       ·refine zQ 1 (zn (aA (aO [2] [(I6 8)] (λj a=>?_))));exact⟨by simp only[dD,cK,g,d,f,k,A,F,C,bs,bQ,reduceIte],a.below⟩
       ·refine zk (zQ 1 (zn (aA (aO [2] [(I6 0)] (λj a=>?_)))));exact⟨by simp only[dD,cK,g,d,f,k,A,F,C,bs,bQ,reduceIte],a.below⟩
      ·refine zq 6 (zn (cU (zk (zQ 1 (zn (aA (aO [2] [(I6 0)] (λj a=>?_))))))));exact⟨by simp only[dD,cK,g,d,f,k,A,C,bs,bQ,reduceIte],a.below⟩
end Go.Proofs.YtkoamlfiijcecaaGreatDoor.Sx
namespace Go.Proofs.YtkoamlfiijcecaaGreatDoor.Itm
open Go.ChangeShapes Go.WideShapes Go.ChangeAt Go.RowKit
def oQ:Nat->Tr->Nat
 |0,_=>1
 |m+1,t=>t.l.foldl (λn x=>max n (oQ m x)) 0+1
theorem TH{f:Tr->Nat}{b:Nat}(a:∀x,f x<=b):∀(l:List Tr) (n:Nat),n<=b->l.foldl (λn x=>max n (f x)) n<=b
 | [],n,h=>h
 |x::l,n,h=>by
  rw[bY];exact TH a l _ (by have:=a x;omega)
theorem EE:∀m t,oQ m t<=m+1
 |0,_=>O9 _
 |m+1,t=>by
  unfold oQ;have:=TH (EE m) t.l 0 oW;omega
theorem Uu{f:Tr->Nat}(l:List Tr)(i:Nat)(x:Tr)(h:l[i]? =some x):(l.take (i+1)).foldl (λn x=>max n (f x)) 0=max ((l.take i).foldl (λn x=>max n (f x)) 0) (f x):=by
 rw[Q9,h,List.foldl_append];rfl
theorem Oh:(Tryz.prog.info? 136).map (·.size)=some 5:=by kernel_rfl
theorem sI{w:World}{t:Tr}{cs:List Value}(h:TAt w t cs):∃(a:Option Addr) (c:Nat) (C:Nat->List Value),cs=[.int .i64 t.k,.int .u64 t.n,.string (B t.s),.slice a t.l.length c,.bool t.o]/\t.n<W64/\t.s.length<=R47/\t.l.length<=R47/\
  (∀i x,t.l[i]? =some x->∃b f,a=some ⟨b,f,none⟩/\b<w.heap.size/\w.rangeAt b (f+i*5) (C i)/\TAt w x (C i)/\(C i).length=5):=by
 obtain⟨a,c,C,rfl,D,hs,A,g,d⟩:=h.form;refine⟨a,c,C,rfl,D,hs,A,λi x k=>?_⟩;obtain⟨b,f,r,j,E⟩:=g i (L8.1 k).1;refine⟨b,f,r,j,E,d i x k,?_⟩;obtain⟨_,_,_,u,_⟩:=(d i x k).form;rw[u];rfl
set_option maxHeartbeats 1600000 in
set_option maxRecDepth 100000 in
theorem Mt:∀(m:Nat),m<=9->∀(t:Tr) (cs:List Value) (w:World),TAt w t cs->
  Calls Tryz.prog 166 #[.agg cs.toArray,.int .i64 m] w λe w'=>e=.returned (.int .i64 (oQ m t))/\Below w.heap.size w w':=by
 intro m
 induction m with
 |zero=>
  intro _ t cs w h;obtain⟨a,c,C,rfl,_⟩:=sI h;clear h
  go_enter Tryz.func166,Tryz.ntmps166
  go_wp2
  go_ret
  exact⟨rfl,by((repeat' (with_reducible first|exact Below.refl _ _|assumption|refine Below.drew ?_|refine below_drewN ?_ _|refine Below.setCell ?_ ?_ _|refine Below.alloc ?_ ?_ _|refine Below.ext ?_ ?_ _|refine Below.trans ?_ (Below.mono ‹_› ?_)))<;>first|omega|(simp;done)|(simp;omega))⟩
 |succ m ih=>
  intro hm t cs w h;obtain⟨a,c,C,rfl,_,_,hll,hel⟩:=sI h;obtain⟨n,hn⟩:∃n,t.l.length=n:=⟨_,rfl⟩;rw[hn]at hll;rw[hn];have HN:=Lib.hid hn;have HEL:=Lib.hid hel;obtain⟨z,hz⟩:∃z:Int,((m+1:Nat):Int)=z:=⟨_,rfl⟩;have hzm:z-1=(m:Int):=by omega
  have hz1:1<=z:=by omega
  have hz9:z<=9:=by omega
  have IH:=Lib.hid (ih oW);rw[<-hzm]at IH;rw[hz];clear hz hzm;have hml:n<=9223372036854775807:=by unfold R47 at hll;omega
  have hm9:m<9:=by omega
  have HB:=Lib.hid λl=>TH (EE m) l 0 oW
  have HD:Hid (oQ (m+1) t=t.l.foldl (λn x=>max n (oQ m x)) 0+1):=Lib.hid rfl;generalize oQ (m+1) t=dd at *;generalize t.k=tk at *;generalize t.n=tn at *;generalize t.s=ts at *;generalize t.o=tob at *;clear hn hel ih h hll
  go_enter Tryz.func166,Tryz.ntmps166
  go_wp2_with fail
  obtain⟨w1,hw1⟩:∃w1,w.alloc (.cells #[.int .i64 tk,.int .u64 tn,.string (B ts),.slice a n c,.bool tob] 136)=w1:=⟨_,rfl⟩;have gS:w1.heap.size=w.heap.size+1:=by rw[<-hw1];show(w.heap.push _).size=_;simp
  have gb:Below w.heap.size w w1:=by rw[<-hw1];exact(Below.refl _ _).alloc (O9 _) _
  have g3:w1.cell? ⟨w.heap.size,3,none⟩=some (.slice a n c):=by rw[<-hw1,cell_of_row _ _ _ _ _ _ (heap_alloc_last w _)];rfl
  rw[hw1];clear hw1;have G3:=Lib.hid g3;have GB:=Lib.hid gb;clear g3 gb
  go_loopw [5,6] (λs5 s6 wr=>∃i:Nat,i<=n/\s6=.int .i64 (i:Int)/\s5=.int .i64 ((t.l.take i).foldl (λn x=>max n (oQ m x)) 0:Nat)/\Below w1.heap.size w1 wr) (λ_ s _=>n-(intOf s).toNat)
  case atStart=>exact⟨0,by omega,rfl,rfl,Below.refl _ _⟩
  case round=>
   obtain⟨i,hi,rfl,rfl,hb⟩:=hrel;have hlt0:w.heap.size<w1.heap.size:=by omega
   have c3:wr.cell? ⟨w.heap.size,3,none⟩=some (.slice a n c):=by rw[hb.cell (p:=⟨w.heap.size,3,none⟩) hlt0];exact G3.out
   have hf:=HB.out (t.l.take i);have HE:=Lib.hid (GB.out.trans (hb.mono oW));by_cases hend:i=n
   ·have hlt:¬(i:Int)<(n:Int):=by omega
    have hq:(t.l.take i).foldl (λn x=>max n (oQ m x)) 0=t.l.foldl (λn x=>max n (oQ m x)) 0:=by rw[hend,<-HN.out,ah]
    rw[hq]at hf ⊢;have hd:=HD.out;generalize t.l.foldl (λn x=>max n (oQ m x)) 0=q at *;subst hd;clear hend hb hq
    go_wp2
    go_ret
    exact⟨Xi (by simp),HE.out⟩
   ·have hlt:(i:Int)<(n:Int):=by omega
    obtain⟨x,hx⟩:∃x,t.l[i]? =some x:=⟨t.l[i]'(by rw[HN.out];omega),K8 (by rw[HN.out];omega)⟩;obtain⟨b,f,rfl,hbl,hra,hta,hc5⟩:=HEL.out i x hx;have HNX:=Lib.hid (Uu (f:=oQ m) t.l i x hx);have hb1:Below w.heap.size w wr:=HE.out;have HRA:=Lib.hid (pV hra hb1 hbl);have HC:=Lib.hid (IH.out x (C i) wr (hta.keep hb1 (O9 _)));have hdl:=EE m x;have HC5:=Lib.hid hc5;have HB1:=Lib.hid hb;have hbs:=hb.size;clear hend hx hra hta hb1 hc5 hb;generalize (t.l.take i).foldl (λn x=>max n (oQ m x)) 0=q at *
    go_wp2_with (with_reducible refine AB 136 rfl ?_)
    refine MF 136 (.tmp 20) rfl rfl (some 21) rfl b (f+i*5) rfl (C i).toArray HRA.out _ Tryz.underlying136 rfl (by rw[List.size_toArray,HC5.out];exact Oh) ?_
    go_wp2_with fail
    refine HC.out.mono ?_;rintro e w2 ⟨rfl,hb2⟩;have HW:=Lib.hid (HB1.out.trans (hb2.mono hbs));clear hb2 HB1 HC;generalize oQ m x=d at *;have hqd:q<=100:=by omega
    have hdd:d<=100:=by omega
    go_wp2
    go_round
    case rel=>exact⟨i+1,by omega,by go_num,by rw[HNX.out];go_num,HW.out⟩
    case measure=>simp[intOf];omega
mutual
def szT:Tr->Nat
 | .mk _ _ s l _=>1+s.length+szL l
def szL:List Tr->Nat
 | []=>0
 |t::ts=>szT t+szL ts
end
theorem rS:∀a b,szL (a++b)=szL a+szL b
 | [],b=>by simp[szL]
 |x::a,b=>by rw[T9,szL,szL,rS a b];omega
theorem Rk{l:List Tr}{i:Nat}{x:Tr}(h:l[i]? =some x):szL (l.take (i+1))=szL (l.take i)+szT x:=by
 rw[Q9,h,rS];simp[szL]
def okN(k:Int)(n:Nat)(s:List UInt8)(len:Nat)(o:Bool):Bool:=
 if k=0 then decide (s=[])&&decide (len=0)&& !o
 else if k=2\/k=3 then decide (n=0)&&decide (len=0)&& !o
 else if k=4 then decide (n=0)&&decide (s=[])&&decide (len<=1000)
 else false
theorem lW{k:Int}{n:Nat}{s:List UInt8}{a:Nat}{o:Bool}(h:okN k n s a o=true):
  (k=0/\s=[]/\a=0/\o=false)\/(k=2/\n=0/\a=0/\o=false)\/(k=3/\n=0/\a=0/\o=false)\/(k=4/\n=0/\s=[]/\a<=1000):=by
 unfold okN at h;split at h
 ·next f=>simp at h;exact .inl ⟨f,h.1.1,h.1.2,h.2⟩
 ·split at h
  ·next f d=>
   simp at h;rcases d with d|d
   ·exact .inr (.inl ⟨d,h.1.1,h.1.2,h.2⟩)
   ·exact .inr (.inr (.inl ⟨d,h.1.1,h.1.2,h.2⟩))
  ·split at h
   ·next f d g=>simp at h;exact .inr (.inr (.inr ⟨g,h.1.1,h.1.2,h.2⟩))
   ·cases h
mutual
def lA:Tr->Bool
 | .mk k n s l o=>okN k n s l.length o&&OY l
def OY:List Tr->Bool
 | []=>true
 |t::ts=>lA t&&OY ts
end
theorem OX:∀l:List Tr,OY l=l.all lA
 | []=>by simp[OY]
 |t::ts=>by rw[OY,W4,OX ts]
theorem FI(t:Tr):lA t=(okN t.k t.n t.s t.l.length t.o&&t.l.all lA):=by
 obtain⟨k,n,s,l,o⟩:=t;rw[lA,OX];rfl
def aU:Nat->Tr->Bool
 |0,_=>false
 |d+1,t=>okN t.k t.n t.s t.l.length t.o&&t.l.all (aU d)
theorem Ut{f:Tr->Nat}{b:Nat}:∀(l:List Tr) (n:Nat),l.foldl (λn x=>max n (f x)) n<=b↔n<=b/\∀x∈l,f x<=b
 | [],n=>by simp
 |x::l,n=>by
  rw[bY,Ut l];simp only[O6,forall_eq_or_imp];constructor
  ·intro⟨d,a⟩;exact⟨by omega,by omega,a⟩
  ·intro⟨d,a,g⟩;exact⟨by omega,g⟩
theorem AF:∀d t,aU d t=(decide (oQ (d+1) t<=d)&&lA t)
 |0,t=>by
  have:¬oQ 1 t<=0:=by unfold oQ;omega
  rw[P0 this];rfl
 |d+1,t=>by
  rw[FI t];have j:oQ (d+2) t<=d+1↔∀x∈t.l,oQ (d+1) x<=d:=by
   show t.l.foldl (λn x=>max n (oQ (d+1) x)) 0+1<=d+1↔_;rw[Nat.add_le_add_iff_right,Ut];simp
  rw[T7];simp only[aU,L5,M7,N0,j];constructor
  ·intro⟨g,h⟩;have f:=λx a=>by have:=h x a;rw[AF d x,L5,N0]at this;exact this
   exact⟨λx a=>(f x a).1,g,λx a=>(f x a).2⟩
  ·intro⟨g,h,f⟩;exact⟨h,λx a=>by rw[AF d x,L5,N0];exact⟨g x a,f x a⟩⟩
theorem Nf{f:Tr->Bool}{l:List Tr}{i:Nat}{x:Tr}(h:l[i]? =some x)(d:(l.take i).all f=true):(f x=true->(l.take (i+1)).all f=true)/\(f x=false->l.all f=false):=by
 constructor
 ·intro a;rw[Q9,h,bC,d];simp[a]
 ·intro a;rw[List.all_eq_false];exact⟨x,K9 h,by simp[a]⟩
set_option maxHeartbeats 3200000 in
set_option maxRecDepth 100000 in
theorem Wv{w0:World}{t:Tr}{cs:List Value}(h:TAt w0 t cs):∀(w:World),Below w0.heap.size w0 w->
  Calls Tryz.prog 167 #[.agg cs.toArray] w λe w'=>e=.returned (.bool (lA t))/\Below w.heap.size w w':=by
 induction h with
 |mk k tn s l o a c C hn hs hl hat hel ih=>
  intro w hbw;obtain⟨n,hln⟩:∃n,l.length=n:=⟨_,rfl⟩;have hp:lA (.mk k tn s l o)=(okN k tn s n o&&l.all lA):=by rw[<-hln];exact FI _
  have HN:=Lib.hid hln;have HAT:=Lib.hid hat;have IH:=Lib.hid ih;have HEL:=Lib.hid hel;have HP:=Lib.hid hp;rw[hln]at hl;rw[hln];generalize lA (.mk k tn s l o)=pb at *;have hml:n<=9223372036854775807:=by unfold R47 at hl;omega
  have HBW:=Lib.hid hbw;have HTN:=Lib.hid hn;clear hln hat ih hel hl hs hbw hp hn;obtain⟨w1,hw1⟩:∃w1,w.alloc (.cells #[.int .i64 k,.int .u64 tn,.string (B s),.slice a n c,.bool o] 136)=w1:=⟨_,rfl⟩;have gS:w1.heap.size=w.heap.size+1:=by rw[<-hw1];show(w.heap.push _).size=_;simp
  have gb:Below w.heap.size w w1:=by rw[<-hw1];exact(Below.refl _ _).alloc (O9 _) _
  have g0:w1.cell? ⟨w.heap.size,0,none⟩=some (.int .i64 k):=by rw[<-hw1,cell_of_row _ _ _ _ _ _ (heap_alloc_last w _)];rfl
  have g1:w1.cell? ⟨w.heap.size,1,none⟩=some (.int .u64 tn):=by rw[<-hw1,cell_of_row _ _ _ _ _ _ (heap_alloc_last w _)];rfl
  have g2:w1.cell? ⟨w.heap.size,2,none⟩=some (.string (B s)):=by rw[<-hw1,cell_of_row _ _ _ _ _ _ (heap_alloc_last w _)];rfl
  have g3:w1.cell? ⟨w.heap.size,3,none⟩=some (.slice a n c):=by rw[<-hw1,cell_of_row _ _ _ _ _ _ (heap_alloc_last w _)];rfl
  have g4:w1.cell? ⟨w.heap.size,4,none⟩=some (.bool o):=by rw[<-hw1,cell_of_row _ _ _ _ _ _ (heap_alloc_last w _)];rfl
  have G3:=Lib.hid g3;have GB:=Lib.hid gb;clear gb;cases hok:okN k tn s n o with
  |false=>
   have HOK:=Lib.hid hok;have hpf:pb=false:=by rw[HP.out,hok];rfl
   subst hpf;clear hok HP
   go_enter Tryz.func167,Tryz.ntmps167
   go_upto_region 1 with fail
   clear hw1
   go_wp2_with fail
   all_goals first
    |(go_ret;exact⟨rfl,GB.out⟩)
    |(exfalso;have:=HOK.out;simp_all [okN];done)
    |(exfalso;have h8:=HOK.out;rw[‹k=4›,‹tn=0›,‹s=[]›]at h8;simp[okN]at h8;omega)
  |true=>
   go_enter Tryz.func167,Tryz.ntmps167
   go_upto_region 1 with fail
   clear hw1;rcases lW hok with⟨rfl,rfl,rfl,rfl⟩|⟨rfl,rfl,rfl,rfl⟩|⟨rfl,rfl,rfl,rfl⟩|⟨rfl,rfl,rfl,hle⟩
   ·have hpt:pb=true:=by
     have h0:l=[]:=O7.1 HN.out;rw[HP.out,hok,h0];rfl
    subst hpt;clear hok HP
    go_wp2_with fail
    all_goals
     go_loopw [5] (λs5 wr=>∃i:Nat,s5=.int .i64 (i:Int)/\Hid (i=0)/\Below w1.heap.size w1 wr) (λ_ _=>0)
     case atStart=>exact⟨0,rfl,Lib.hid rfl,Below.refl _ _⟩
     case round=>
      obtain⟨i,rfl,hi0,hbr⟩:=hrel;obtain rfl:i=0:=hi0.out;have hlt0:w.heap.size<w1.heap.size:=by omega
      have c3:wr.cell? ⟨w.heap.size,3,none⟩=some (.slice a 0 c):=by rw[hbr.cell (p:=⟨w.heap.size,3,none⟩) hlt0];exact G3.out
      have HE:=Lib.hid (GB.out.trans (hbr.mono oW));clear hbr
      go_wp2
      go_ret
      exact⟨rfl,HE.out⟩
   ·have hpt:pb=true:=by
     have h0:l=[]:=O7.1 HN.out;rw[HP.out,hok,h0];rfl
    subst hpt;clear hok HP
    go_wp2_with fail
    all_goals
     go_loopw [5] (λs5 wr=>∃i:Nat,s5=.int .i64 (i:Int)/\Hid (i=0)/\Below w1.heap.size w1 wr) (λ_ _=>0)
     case atStart=>exact⟨0,rfl,Lib.hid rfl,Below.refl _ _⟩
     case round=>
      obtain⟨i,rfl,hi0,hbr⟩:=hrel;obtain rfl:i=0:=hi0.out;have hlt0:w.heap.size<w1.heap.size:=by omega
      have c3:wr.cell? ⟨w.heap.size,3,none⟩=some (.slice a 0 c):=by rw[hbr.cell (p:=⟨w.heap.size,3,none⟩) hlt0];exact G3.out
      have HE:=Lib.hid (GB.out.trans (hbr.mono oW));clear hbr
      go_wp2
      go_ret
      exact⟨rfl,HE.out⟩
   ·have hpt:pb=true:=by
     have h0:l=[]:=O7.1 HN.out;rw[HP.out,hok,h0];rfl
    subst hpt;clear hok HP
    go_wp2_with fail
    all_goals
     go_loopw [5] (λs5 wr=>∃i:Nat,s5=.int .i64 (i:Int)/\Hid (i=0)/\Below w1.heap.size w1 wr) (λ_ _=>0)
     case atStart=>exact⟨0,rfl,Lib.hid rfl,Below.refl _ _⟩
     case round=>
      obtain⟨i,rfl,hi0,hbr⟩:=hrel;obtain rfl:i=0:=hi0.out;have hlt0:w.heap.size<w1.heap.size:=by omega
      have c3:wr.cell? ⟨w.heap.size,3,none⟩=some (.slice a 0 c):=by rw[hbr.cell (p:=⟨w.heap.size,3,none⟩) hlt0];exact G3.out
      have HE:=Lib.hid (GB.out.trans (hbr.mono oW));clear hbr
      go_wp2
      go_ret
      exact⟨rfl,HE.out⟩
   ·have hpt:pb=l.all lA:=by rw[HP.out,hok];rfl
    have HPT:=Lib.hid hpt;clear hok HP hpt;have hle2:(n:Int)<=1000:=by omega
    go_upto_region 3 with fail
    go_cut [0,66]from 17 to 65 (λs0 s66 wc=>s66=.bool false/\wc=w1)
    case first=>
     cases o<;>cases hpos:decide ((0:Int)<(n:Int))
     all_goals go_wp2
     all_goals go_meet
     all_goals exact⟨by first|rfl|rw[P0 oW],rfl⟩
    case rest=>
     obtain⟨rfl,rfl⟩:=hcut;clear g0 g1 g2 g3 g4
     go_wp2_with fail
     go_loopw [5] (λs5 wr=>∃i:Nat,i<=n/\s5=.int .i64 (i:Int)/\Hid ((l.take i).all lA=true)/\Below wc.heap.size wc wr) (λs _=>n-(intOf s).toNat)
     case atStart=>exact⟨0,by omega,rfl,Lib.hid (by simp),Below.refl _ _⟩
     case round=>
      obtain⟨i,hi,rfl,hal,hb⟩:=hrel;have hlt0:w.heap.size<wc.heap.size:=by omega
      have c3:wr.cell? ⟨w.heap.size,3,none⟩=some (.slice a n c):=by rw[hb.cell (p:=⟨w.heap.size,3,none⟩) hlt0];exact G3.out
      have HE:=Lib.hid (GB.out.trans (hb.mono oW));by_cases hend:i=n
      ·have hlt:¬(i:Int)<(n:Int):=by omega
       have hfin:=hal.out;rw[hend,<-HN.out,ah]at hfin;have HFIN:=Lib.hid (HPT.out.trans hfin);clear hend hb hfin
       go_wp2
       go_ret
       exact⟨by rw[HFIN.out];rfl,HE.out⟩
      ·have hlt:(i:Int)<(n:Int):=by omega
       obtain⟨x,hx⟩:∃x,l[i]? =some x:=⟨l[i]'(by rw[HN.out];omega),K8 (by rw[HN.out];omega)⟩;obtain⟨b,f,rfl,hbl,hra⟩:=HAT.out i (by rw[HN.out];omega);have hb0:Below w0.heap.size w0 wr:=HBW.out.trans (HE.out.mono HBW.out.size);have HRA:=Lib.hid (pV hra hb0 hbl);have hc5:(C i).length=5:=by obtain⟨_,_,_,he,_⟩:=(HEL.out i x hx).form;rw[he];rfl
       have HC:=Lib.hid (IH.out i x hx wr hb0);have HC5:=Lib.hid hc5;have HB1:=Lib.hid hb;have hbs:=hb.size;have HAT2:=Lib.hid (Nf hx hal.out);clear hend hx hra hb0 hc5 hb hal;generalize lA x=px at *
       go_wp2_with (with_reducible refine AB 136 rfl ?_)
       refine MF 136 (.tmp 77) rfl rfl (some 78) rfl b (f+i*5) rfl (C i).toArray HRA.out _ Tryz.underlying136 rfl (by rw[List.size_toArray,HC5.out];exact Oh) ?_
       go_wp2_with fail
       refine HC.out.mono ?_;rintro e w2 ⟨rfl,hb2⟩;have HW:=Lib.hid (HB1.out.trans (hb2.mono hbs));have HWE:=Lib.hid (HE.out.trans (hb2.mono HE.out.size));clear hb2 HB1 HC;cases px with
       |true=>
        have HA:=Lib.hid (HAT2.out.1 rfl)
        go_wp2
        go_round
        case rel=>exact⟨i+1,by omega,by go_num,HA,HW.out⟩
        case measure=>simp[intOf];omega
       |false=>
        have HA:=Lib.hid (HPT.out.trans (HAT2.out.2 rfl))
        go_wp2
        go_ret
        exact⟨by rw[HA.out];rfl,HWE.out⟩
set_option maxHeartbeats 1600000 in
set_option maxRecDepth 100000 in
theorem sZ(t:Tr)(cs:List Value)(w:World)(h:TAt w t cs):Calls Tryz.prog 111 #[.agg cs.toArray] w λe w'=>e=.returned (.bool (aU 8 t))/\Below w.heap.size w w':=by
 have HD:=Lib.hid λ(W:World) (r:Below w.heap.size w W)=>Mt 9 oW t cs W (h.keep r (O9 _))
 have HC:=Lib.hid λ(W:World) (r:Below w.heap.size w W)=>Wv h W r
 have F:=EE 9 t;have A:cs.toArray.size=5:=by obtain⟨_,_,_,E,_⟩:=h.form;rw[E];rfl
 rw[AF 8 t];generalize oQ 9 t=d at *;generalize lA t=B at *;generalize cs.toArray=X at *;obtain⟨j,hrb⟩:∃j,(decide (d<=8)&&B)=j:=⟨_,rfl⟩;rw[hrb];have HRB:=Lib.hid hrb;have H5:=Lib.hid A;clear h A hrb
 go_enter Tryz.func111,Tryz.ntmps111
 go_wp2_with (with_reducible refine AB 136 rfl ?_)
 have u:Below w.heap.size w (w.alloc (.cells X 136)):=(Below.refl _ _).alloc (O9 _) _;have k:=heap_alloc_last w (.cells X 136);have C:w.heap.size<(w.alloc (.cells X 136)).heap.size:=ZE;refine MF 136 (.tmp 1) rfl rfl (some 3) rfl w.heap.size 0 rfl X (FB k) _ Tryz.underlying136 rfl (by rw[H5.out];exact Oh) ?_;have GB:=Lib.hid u;have GH:=Lib.hid k;clear u k;generalize w.alloc (.cells X 136)=G at *
 go_wp2_with fail
 refine(HD.out _ GB.out).mono ?_;rintro e I ⟨rfl,a⟩;have G2:=Lib.hid (GB.out.trans (a.mono GB.out.size));have GH2:=Lib.hid (ZN a C GH.out);clear a GB GH HD;by_cases D:(d:Int)<=8
 ·have f:j=B:=by rw[<-HRB.out,R4 oW];rfl
  subst f
  go_wp2_with (with_reducible refine AB 136 rfl ?_)
  refine ZF 136 (.tmp 1) rfl rfl (some 7) rfl w.heap.size 0 rfl X (FB GH2.out) _ Tryz.underlying136 rfl (by rw[H5.out];exact Oh) ?_
  go_wp2_with fail
  refine(HC.out _ G2.out).mono ?_;rintro e J ⟨rfl,g⟩;have G3:=Lib.hid (G2.out.trans (g.mono G2.out.size));clear g
  go_wp2
  go_ret
  exact⟨rfl,G3.out⟩
 ·have f:j=false:=by rw[<-HRB.out,P0 oW];rfl
  subst f
  go_wp2
  go_ret
  exact⟨rfl,G2.out⟩
end Go.Proofs.YtkoamlfiijcecaaGreatDoor.Itm
namespace Go.Proofs.YtkoamlfiijcecaaGreatDoor.Itm
open Go.ChangeShapes Go.WideShapes Go.ChangeAt Go.RowKit Go.Deep
section
variable {P:Program} {ops:Array Oper} {Q:Exit->Act->World->Prop} {md:Region.Mode} {S:World->Prop}
end
def dg(n:Nat):Nat->List UInt8
 |0=>[]
 |i+1=>UInt8.ofNat (n/256^i)::dg n i
theorem fP(n:Nat):∀i,(dg n i).length=i
 |0=>rfl
 |i+1=>by rw[dg,M9,fP n i]
def aF(m n:Nat):List UInt8:=
 if n<24 then[UInt8.ofNat (32*m+n)]
 else if n<256 then UInt8.ofNat (32*m+24)::dg n 1
 else if n<65536 then UInt8.ofNat (32*m+25)::dg n 2
 else if n<4294967296 then UInt8.ofNat (32*m+26)::dg n 4
 else UInt8.ofNat (32*m+27)::dg n 8
theorem aE(m n:Nat):1<=(aF m n).length/\(aF m n).length<=9:=by
 unfold aF
 repeat' split
 all_goals simp[fP]
mutual
def aG:Tr->List UInt8
 | .mk k n s l o=>if k=0 then aF 0 n else if k<4 then aF k.toNat s.length++s else(if o then[159]else aF 4 l.length)++(aY l++(if o then[255]else[]))
def aY:List Tr->List UInt8
 | []=>[]
 |t::ts=>aG t++aY ts
end
theorem qI:∀a b,aY (a++b)=aY a++aY b
 | [],b=>by simp[aY]
 |x::a,b=>by rw[T9,aY,aY,qI a b,M6]
theorem TZ{l:List Tr}{i:Nat}{x:Tr}(h:l[i]? =some x):aY (l.take (i+1))=aY (l.take i)++aG x:=by
 rw[Q9,h,qI];simp[aY]
mutual
theorem cV:∀t:Tr,(aG t).length<=10*szT t
 | .mk k n s l o=>by
  have a:=(aE 0 n).2;have d:=(aE k.toNat s.length).2;have f:=(aE 4 l.length).2;have g:=sH l;rw[aG,szT];split
  ·omega
  ·split
   ·simp;omega
   ·cases o<;>simp<;>omega
theorem sH:∀l:List Tr,(aY l).length<=10*szL l
 | []=>by simp[aY]
 |t::ts=>by
  have a:=cV t;have d:=sH ts;rw[aY,szL,L4];omega
end
theorem RD{l:List Tr}(i:Nat):szL (l.take i)<=szL l:=by
 have h:=rS (l.take i) (l.drop i);rw[S8]at h;omega
theorem Yp{l:List Tr}{i:Nat}{x:Tr}(h:l[i]? =some x):szT x<=szL l:=by
 have a:=Rk h;have d:=RD (l:=l) (i+1);omega
end Go.Proofs.YtkoamlfiijcecaaGreatDoor.Itm
namespace Go.Proofs.YtkoamlfiijcecaaGreatDoor.Eid
open Go.ChangeShapes Go.WideShapes Go.ChangeAt Go.RowKit


def sl:List UInt8->Nat->Nat
 | [],_=>0
 |c::r,i=>if c.toNat=47 then i else sl r (i+1)
theorem Sw(l:List UInt8)(w:World)(hl:l.length<=maxLen):Calls Tryz.prog 160 #[.string (B l)] w λe w'=>e=.returned (.int .i64 (sl (l.drop 2) 2))/\w=w':=by
 unfold maxLen at hl;generalize hS:sl (l.drop 2) 2=S;have HS:=Lib.hid hS;clear hS
 go_enter Tryz.func160,Tryz.ntmps160
 go_wp2
 go_loop [3] (λi=>∃k:Nat,2<=k/\i=.int .i64 k/\S=sl (l.drop k) k) (λi=>l.length-(intOf i).toNat)
 case atStart=>exact⟨2,O9 _,rfl,HS.out.symm⟩
 case round=>
  obtain⟨k,hk,rfl,hv⟩:=hrel;by_cases hlt:k<l.length
  ·rw[R1 hlt]at hv;have HV:=Lib.hid hv;clear hv;cases h47:((l[k].toNat:Int)==47)
   ·have e:S=sl (l.drop (k+1)) (k+1):=by
     rw[HV.out]
     conv=>lhs;unfold sl
     rw[M5 (by rw[M2]at h47;omega)]
    have HE:=Lib.hid e;clear e
    go_wp2
    go_round
    case rel=>exact⟨k+1,by omega,by go_num,HE.out⟩
    case measure=>simp[intOf];omega
   ·have e:S=k:=by
     rw[HV.out];unfold sl;rw[N1 (by rw[S5]at h47;omega)]
    have HE:=Lib.hid e;clear e
    go_wp2
    go_ret
    exact⟨by rw[HE.out];rfl,rfl⟩
  ·have e:S=0:=by rw[hv,R6 oW];rfl
   have HE:=Lib.hid e;clear e hv
   go_wp2
   go_ret
   exact⟨by rw[HE.out];rfl,rfl⟩

def MG:List UInt8:=[97,98,99,100,101,102,103,104,105,106,107,108,109,110,111,112,113,114,115,116,117,118,119,120,121,122,48,49,50,51,52,53,54,55,56,57,45,46]
theorem TB:∀c:Fin 256,MG.any (λd=>d.toNat==c.val)=nb c.val:=by decide +kernel
theorem JV(c:UInt8)(w:World):Calls Tryz.prog 161 #[.int .u8 c.toNat] w λe w'=>e=.returned (.bool (nb c.toNat))/\w=w':=by
 have hc:=TB ⟨c.toNat,c.toNat_lt⟩;simp only at hc;have hB:(⟨#[97,98,99,100,101,102,103,104,105,106,107,108,109,110,111,112,113,114,115,116,117,118,119,120,121,122,48,49,50,51,52,53,54,55,56,57,45,46]⟩:ByteArray)=B MG:=rfl;have hl:MG.length=38:=rfl;generalize MG=L at *;generalize c.toNat=x at *;have HC:=Lib.hid hc;clear hc
 go_enter Tryz.func161,Tryz.ntmps161
 go_wp2
 go_loop [3] (λi=>∃k:Nat,k<=38/\i=.int .i64 k/\nb x=(L.drop k).any (λd=>d.toNat==x)) (λi=>38-(intOf i).toNat)
 case atStart=>exact⟨0,by omega,rfl,HC.out.symm⟩
 case round=>
  obtain⟨k,hk,rfl,hv⟩:=hrel;by_cases hlt:k<L.length
  ·rw[R1 hlt]at hv;have HV:=Lib.hid hv;clear hv;have h38:k<38:=by omega
   cases hx:((L[k].toNat:Int)==(x:Int))
   ·have e:nb x=(L.drop (k+1)).any (λd=>d.toNat==x):=by
     rw[HV.out,Z7];rw[M2]at hx;have:(L[k].toNat==x)=false:=by rw[M2];omega
     rw[this,R5]
    have HE:=Lib.hid e;clear e
    go_wp2
    go_round
    case rel=>exact⟨k+1,by omega,by go_num,HE.out⟩
    case measure=>simp[intOf];omega
   ·have e:nb x=true:=by
     rw[HV.out,Z7];rw[S5]at hx;have:(L[k].toNat==x)=true:=by rw[S5];omega
     rw[this,Bool.true_or]
    have HE:=Lib.hid e;clear e
    go_wp2
    go_ret
    exact⟨by rw[HE.out];rfl,rfl⟩
  ·have e:nb x=false:=by rw[hv,R6 oW];rfl
   have HE:=Lib.hid e;clear e hv;have h38:¬k<38:=by omega
   go_wp2
   go_ret
   exact⟨by rw[HE.out];rfl,rfl⟩

def chk(k:Nat):List UInt8->Nat->Bool
 | [],_=>true
 |c::r,i=>decide ((i<k->nb c.toNat=true)/\(k<i->jR c=true))&&chk k r (i+1)
theorem KJ(k:Nat):∀(l:List UInt8) (i:Nat),k<i->chk k l i=l.all jR
 | [],_,_=>rfl
 |c::r,i,h=>by
  unfold chk;rw[KJ k r (i+1) oW,W4];congr 1;rw[T7,N0];exact⟨λx=>x.2 h,λx=>⟨λy=>by omega,λ_=>x⟩⟩
theorem Qx:∀(l:List UInt8) (i:Nat),sl l i=0\/i<=sl l i
 | [],i=>Or.inl rfl
 |c::r,i=>by
  unfold sl;split
  ·exact Or.inr (O9 _)
  ·rcases Qx r (i+1)with h|h
   ·exact Or.inl h
   ·exact Or.inr oW
theorem Xo : ∀ (m : List UInt8) (i : Nat), (scan m i != 0 && (m.drop (scan m i - (i + 2))).all jR) = (decide (sl m (i + 2) ≠ 0 /\ (i = 0 -> sl m (i + 2) ≠ 2)) && chk (sl m (i + 2)) m (i + 2))
  /\ (scan m i≠0->scan m i=sl m (i+2)+1/\i+2<scan m i)
 | [],i=>by simp[scan,sl]
 |c::r,i=>by
  obtain⟨g,j⟩:=Xo r (i+1);by_cases a:c.toNat=47
  ·have f:nb c.toNat=false:=by rw[a];decide
   have k:sl (c::r) (i+2)=i+2:=by unfold sl;rw[N1 a]
   by_cases G:0<i
   ·have d:scan (c::r) i=i+3:=by unfold scan;rw[M5 (by simp[f]),N1 ⟨a,G⟩]
    rw[k,d];refine⟨?_,λ_=>⟨by omega,by omega⟩⟩;rw[show i+3-(i+2)=1 by omega,List.drop_one,List.tail_cons];unfold chk;rw[KJ (i+2) r (i+2+1) oW];simp;omega
   ·have d:scan (c::r) i=0:=by unfold scan;rw[M5 (by simp[f]),M5 oW]
    rw[k,d];refine⟨?_,λh=>absurd rfl h⟩;obtain rfl:i=0:=by omega
    simp
  ·have k:sl (c::r) (i+2)=sl r (i+1+2):=by
    conv=>lhs;unfold sl
    rw[M5 a]
   have u:=Qx r (i+1+2);cases f:nb c.toNat
   ·have d:scan (c::r) i=0:=by unfold scan;rw[M5 (by simp[f]),M5 oW]
    rw[k,d];refine⟨?_,λh=>absurd rfl h⟩;rcases u with h|h
    ·simp[h]
    ·unfold chk;simp[f];intro _ _ I;omega
   ·have d:scan (c::r) i=scan r (i+1):=by
     conv=>lhs;unfold scan
     rw[N1 f]
    rw[k,d];refine⟨?_,λh=>⟨(j h).1,by have:=(j h).2;omega⟩⟩;by_cases B:scan r (i+1)=0
    ·rw[B]at g ⊢;have A:(decide (sl r (i+1+2)≠0/\(i+1=0->sl r (i+1+2)≠2))&&chk (sl r (i+1+2)) r (i+1+2))=false:=by rw[<-g];simp
     rcases u with h|h
     ·simp[h]
     ·have F:chk (sl r (i+1+2)) r (i+1+2)=false:=by
       have:decide (sl r (i+1+2)≠0/\(i+1=0->sl r (i+1+2)≠2))=true:=by rw[N0];omega
       rw[this,R9]at A;exact A
      unfold chk;rw[show i+2+1=i+1+2 by omega,F];simp
    ·obtain⟨J,K⟩:=j B;have A:(scan r (i+1)-(i+2))=(scan r (i+1)-(i+1+2))+1:=by omega
     rw[A,ai];unfold chk;rw[show i+2+1=i+1+2 by omega];rw[g];have C:decide (sl r (i+1+2)≠0/\(i+1=0->sl r (i+1+2)≠2))=true:=by rw[N0];omega
     have D:decide (sl r (i+1+2)≠0/\(i=0->sl r (i+1+2)≠2))=true:=by rw[N0];omega
     have E:decide ((i+2<sl r (i+1+2)->nb c.toNat=true)/\(sl r (i+1+2)<i+2->jR c=true))=true:=by
      rw[N0];exact⟨λ_=>f,λh=>by omega⟩
     rw[C,D,E];simp
def fS(l:List UInt8):Bool:=
 l==[110,111,110,101]||(decide (3<=sl (l.drop 2) 2)&&l.take 2==[47,47]&&chk (sl (l.drop 2) 2) (l.drop 2) 2)
theorem RR(l:List UInt8)(f:l.length<=60):fS l=pA l:=by
 unfold fS pA;congr 1;have g:=Qx (l.drop 2) 2;unfold lL;by_cases a:pre [47,47] l=true
 ·have j:(l.take 2==[47,47])=true:=by
   have:=tD l [47,47];rw[a]at this;simp only[L5]at this;exact this.2
  rw[N1 ⟨a,f⟩,j];obtain⟨k,d⟩:=Xo (l.drop 2) 0;simp only[O0]at k d;have e:(decide (3<=sl (l.drop 2) 2))=decide (sl (l.drop 2) 2≠0/\(True->sl (l.drop 2) 2≠2)):=by
   rw[T7,N0,N0];simp only[true_implies];omega
  rw[ak,e,<-k,T3];by_cases r:scan (l.drop 2) 0=0
  ·simp[r]
  ·have:=(d r).2;rw[show 2+(scan (l.drop 2) 0-2)=scan (l.drop 2) 0 by omega]
 ·rw[M5 (λh=>a h.1)];have j:(decide (3<=sl (l.drop 2) 2)&&(l.take 2==[47,47]))=false:=by
   have:=tD l [47,47];rw[Bool.not_eq_true]at a;rw[a]at this;rcases g with h|h
   ·simp[h]
   ·by_cases d:2<=l.length
    ·simp[d]at this;simp[this]
    ·have:sl (l.drop 2) 2=0:=by rw[R6 oW];rfl
     simp[this]
  rw[j];rfl

theorem FV(l:List UInt8)(h:60<l.length):pA l=false:=by
 unfold pA lL;rw[M5 oW];have:(l==[110,111,110,101])=false:=by
  rw[M2];intro a;rw[a]at h;simp at h
 rw[this];rfl
theorem Qh(l:List UInt8)(n v:Int)(w:World):Calls Tryz.prog 107 #[.agg #[.int .i64 2,.string (B l),.int .u64 n,.int .u64 v]] w λe w'=>e=.returned (.bool (gW 2 l n v))/\Below w.heap.size w w':=by
 go_enter Tryz.func107,Tryz.ntmps107
 go_wp2
 all_goals
  go_ret
  exact⟨rU (by simp[gW, *];try omega),by((repeat' (with_reducible first|exact Below.refl _ _|assumption|refine Below.drew ?_|refine below_drewN ?_ _|refine Below.setCell ?_ ?_ _|refine Below.alloc ?_ ?_ _|refine Below.ext ?_ ?_ _|refine Below.trans ?_ (Below.mono ‹_› ?_)))<;>first|omega|(simp;done)|(simp;omega))⟩
theorem YA(s:Int)(l:List UInt8)(n v:Int)(w:World)(a:(s==1)=false)(d:(s==2)=false):Calls Tryz.prog 107 #[.agg #[.int .i64 s,.string (B l),.int .u64 n,.int .u64 v]] w λe w'=>e=.returned (.bool false)/\Below w.heap.size w w':=by
 have f:(s !=1)=true:=by simp at a ⊢;exact a
 go_enter Tryz.func107,Tryz.ntmps107
 go_wp2
 go_ret
 exact⟨rfl,by((repeat' (with_reducible first|exact Below.refl _ _|assumption|refine Below.drew ?_|refine below_drewN ?_ _|refine Below.setCell ?_ ?_ _|refine Below.alloc ?_ ?_ _|refine Below.ext ?_ ?_ _|refine Below.trans ?_ (Below.mono ‹_› ?_)))<;>first|omega|(simp;done)|(simp;omega))⟩
theorem Xa(l:List UInt8)(n v:Int)(w:World)(h:¬(n=0/\v=0/\l.length<=60)):Calls Tryz.prog 107 #[.agg #[.int .i64 1,.string (B l),.int .u64 n,.int .u64 v]] w λe w'=>e=.returned (.bool false)/\Below w.heap.size w w':=by
 go_enter Tryz.func107,Tryz.ntmps107
 cases a:(n !=0)
 ·cases d:(v !=0)
  ·have f:¬l.length<=60:=by simp at a d;omega
   go_wp2
   go_ret
   exact⟨rfl,by((repeat' (with_reducible first|exact Below.refl _ _|assumption|refine Below.drew ?_|refine below_drewN ?_ _|refine Below.setCell ?_ ?_ _|refine Below.alloc ?_ ?_ _|refine Below.ext ?_ ?_ _|refine Below.trans ?_ (Below.mono ‹_› ?_)))<;>first|omega|(simp;done)|(simp;omega))⟩
  ·go_wp2
   go_ret
   exact⟨rfl,by((repeat' (with_reducible first|exact Below.refl _ _|assumption|refine Below.drew ?_|refine below_drewN ?_ _|refine Below.setCell ?_ ?_ _|refine Below.alloc ?_ ?_ _|refine Below.ext ?_ ?_ _|refine Below.trans ?_ (Below.mono ‹_› ?_)))<;>first|omega|(simp;done)|(simp;omega))⟩
 ·go_wp2
  go_ret
  exact⟨rfl,by((repeat' (with_reducible first|exact Below.refl _ _|assumption|refine Below.drew ?_|refine below_drewN ?_ _|refine Below.setCell ?_ ?_ _|refine Below.alloc ?_ ?_ _|refine Below.ext ?_ ?_ _|refine Below.trans ?_ (Below.mono ‹_› ?_)))<;>first|omega|(simp;done)|(simp;omega))⟩
theorem SF(w:World):Calls Tryz.prog 107 #[.agg #[.int .i64 1,.string (B [110,111,110,101]),.int .u64 0,.int .u64 0]] w λe w'=>e=.returned (.bool true)/\Below w.heap.size w w':=by
 go_enter Tryz.func107,Tryz.ntmps107
 go_wp2
 go_ret
 exact⟨rfl,by((repeat' (with_reducible first|exact Below.refl _ _|assumption|refine Below.drew ?_|refine below_drewN ?_ _|refine Below.setCell ?_ ?_ _|refine Below.alloc ?_ ?_ _|refine Below.ext ?_ ?_ _|refine Below.trans ?_ (Below.mono ‹_› ?_)))<;>first|omega|(simp;done)|(simp;omega))⟩
set_option maxRecDepth 100000 in
theorem Qg(l:List UInt8)(w:World)(h60:l.length<=60)(hne:(l==[110,111,110,101])=false):Calls Tryz.prog 107 #[.agg #[.int .i64 1,.string (B l),.int .u64 0,.int .u64 0]] w λe w'=>e=.returned (.bool (fS l))/\Below w.heap.size w w':=by
 have hr:fS l=(decide (3<=sl (l.drop 2) 2)&&l.take 2==[47,47]&&chk (sl (l.drop 2) 2) (l.drop 2) 2):=by unfold fS;rw[hne];rfl
 have HR:=Lib.hid hr;have hge:=Qx (l.drop 2) 2;clear hr
 go_enter Tryz.func107,Tryz.ntmps107
 go_wp2_with fail
 refine(Sw _ _ (by unfold maxLen;omega)).mono ?_;rintro e w1 ⟨rfl,rfl⟩
 generalize hk:sl (l.drop 2) 2=k at *;have HK:=Lib.hid hk;by_cases h3:k<3
 ·clear hk
  go_wp2
  go_ret
  exact⟨by rw[HR.out];have:decide (3<=k)=false:=(by simp;omega);rw[this];rfl,by((repeat' (with_reducible first|exact Below.refl _ _|assumption|refine Below.drew ?_|refine below_drewN ?_ _|refine Below.setCell ?_ ?_ _|refine Below.alloc ?_ ?_ _|refine Below.ext ?_ ?_ _|refine Below.trans ?_ (Below.mono ‹_› ?_)))<;>first|omega|(simp;done)|(simp;omega))⟩
 ·have h2:2<=l.length:=by
   rcases Nat.lt_or_ge l.length 2 with h|h
   ·rw[R6 oW]at hk;simp[sl]at hk;omega
   ·exact h
  clear hk;cases ht:(l.take 2==[47,47])
  ·have HT:=Lib.hid ht
   go_wp2
   go_ret
   exact⟨by rw[HR.out,HT.out];simp,by((repeat' (with_reducible first|exact Below.refl _ _|assumption|refine Below.drew ?_|refine below_drewN ?_ _|refine Below.setCell ?_ ?_ _|refine Below.alloc ?_ ?_ _|refine Below.ext ?_ ?_ _|refine Below.trans ?_ (Below.mono ‹_› ?_)))<;>first|omega|(simp;done)|(simp;omega))⟩
  ·have hr2:fS l=chk k (l.drop 2) 2:=by
    rw[HR.out,ht];have:decide (3<=k)=true:=by simp;omega
    rw[this];rfl
   have HR2:=Lib.hid hr2;clear hr2
   go_wp2
   clear ht
   go_loop [4] (λi=>∃j:Nat,2<=j/\i=.int .i64 j/\fS l=chk k (l.drop j) j) (λi=>l.length-(intOf i).toNat)
   case atStart=>exact⟨2,O9 _,rfl,HR2.out⟩
   case round=>
    obtain⟨j,hj,rfl,hv⟩:=hrel;by_cases hlt:j<l.length
    ·rw[R1 hlt]at hv;unfold chk at hv;have HV:=Lib.hid hv;clear hv;by_cases hjk:j<k
     ·cases hn:nb l[j].toNat
      ·have e:fS l=false:=by rw[HV.out];simp[hjk,hn]
       have HE:=Lib.hid e;have HN:=Lib.hid hn;clear e hn
       go_wp2_with (go_at_call 161;refine(JV _ _).mono ?_;rw[HN.out];rintro e w' ⟨rfl,rfl⟩)
       go_ret
       exact⟨by rw[HE.out];rfl,by((repeat' (with_reducible first|exact Below.refl _ _|assumption|refine Below.drew ?_|refine below_drewN ?_ _|refine Below.setCell ?_ ?_ _|refine Below.alloc ?_ ?_ _|refine Below.ext ?_ ?_ _|refine Below.trans ?_ (Below.mono ‹_› ?_)))<;>first|omega|(simp;done)|(simp;omega))⟩
      ·have e:fS l=chk k (l.drop (j+1)) (j+1):=by rw[HV.out];simp[hjk,hn];omega
       have HE:=Lib.hid e;have HN:=Lib.hid hn;clear e hn
       go_wp2_with (go_at_call 161;refine(JV _ _).mono ?_;rw[HN.out];rintro e w' ⟨rfl,rfl⟩)
       go_round
       case rel=>exact⟨j+1,by omega,by go_num,HE.out⟩
       case measure=>simp[intOf];omega
     ·by_cases hkj:k<j
      ·by_cases h33:l[j].toNat<33
       ·have e:fS l=false:=by rw[HV.out];simp[hkj,jR];omega
        have HE:=Lib.hid e;clear e
        go_wp2
        go_ret
        exact⟨by rw[HE.out];rfl,by((repeat' (with_reducible first|exact Below.refl _ _|assumption|refine Below.drew ?_|refine below_drewN ?_ _|refine Below.setCell ?_ ?_ _|refine Below.alloc ?_ ?_ _|refine Below.ext ?_ ?_ _|refine Below.trans ?_ (Below.mono ‹_› ?_)))<;>first|omega|(simp;done)|(simp;omega))⟩
       ·by_cases h126:126<l[j].toNat
        ·have e:fS l=false:=by rw[HV.out];simp[hkj,jR];omega
         have HE:=Lib.hid e;clear e
         go_wp2
         go_ret
         exact⟨by rw[HE.out];rfl,by((repeat' (with_reducible first|exact Below.refl _ _|assumption|refine Below.drew ?_|refine below_drewN ?_ _|refine Below.setCell ?_ ?_ _|refine Below.alloc ?_ ?_ _|refine Below.ext ?_ ?_ _|refine Below.trans ?_ (Below.mono ‹_› ?_)))<;>first|omega|(simp;done)|(simp;omega))⟩
        ·have e:fS l=chk k (l.drop (j+1)) (j+1):=by rw[HV.out];simp[hkj,jR];omega
         have HE:=Lib.hid e;clear e
         go_wp2
         go_round
         case rel=>exact⟨j+1,by omega,by go_num,HE.out⟩
         case measure=>simp[intOf];omega
      ·have e:fS l=chk k (l.drop (j+1)) (j+1):=by rw[HV.out];simp;omega
       have HE:=Lib.hid e;clear e
       go_wp2
       go_round
       case rel=>exact⟨j+1,by omega,by go_num,HE.out⟩
       case measure=>simp[intOf];omega
    ·have e:fS l=true:=by rw[hv,R6 oW];rfl
     have HE:=Lib.hid e;clear e hv
     go_wp2
     go_ret
     exact⟨by rw[HE.out];rfl,by((repeat' (with_reducible first|exact Below.refl _ _|assumption|refine Below.drew ?_|refine below_drewN ?_ _|refine Below.setCell ?_ ?_ _|refine Below.alloc ?_ ?_ _|refine Below.ext ?_ ?_ _|refine Below.trans ?_ (Below.mono ‹_› ?_)))<;>first|omega|(simp;done)|(simp;omega))⟩
theorem YB(s:Int)(l:List UInt8)(n v:Int)(w:World):Calls Tryz.prog 107 #[.agg #[.int .i64 s,.string (B l),.int .u64 n,.int .u64 v]] w λe w'=>e=.returned (.bool (gW s l n v))/\Below w.heap.size w w':=by
 by_cases f:s=1
 ·subst f;by_cases h:n=0/\v=0/\l.length<=60
  ·obtain⟨rfl,rfl,d⟩:=h;have e:gW 1 l 0 0=fS l:=by rw[RR l d];simp[gW]
   rw[e];cases a:(l==[110,111,110,101])
   ·exact Qg l w d a
   ·rw[show fS l=true by unfold fS;rw[a];rfl];rw[S5]at a;subst a;exact SF w
  ·rw[show gW 1 l n v=false by
    by_cases j:n=0/\v=0
    ·simp[gW,FV l oW]
    ·simp[gW,j]]
   exact Xa l n v w h
 ·by_cases g:s=2
  ·subst g;exact Qh l n v w
  ·rw[show gW s l n v=false by simp[gW,f,g]];exact YA s l n v w (by simp[f]) (by simp[g])
end Go.Proofs.YtkoamlfiijcecaaGreatDoor.Eid
namespace Go.Proofs.YtkoamlfiijcecaaGreatDoor
open Go.ChangeShapes Go.WideShapes Go.ChangeAt Go.RowKit Go.Deep
end Go.Proofs.YtkoamlfiijcecaaGreatDoor
namespace Go.Proofs.YtkoamlfiijcecaaGreatDoor.Itm
open Go.ChangeShapes Go.WideShapes Go.ChangeAt Go.RowKit Go.Deep Go.Proofs.YtkoamlfiijcecaaGreatDoor.Eid
def cD(n:Nat):Tr:=.mk 0 n [] [] false
def dJ(l:List Tr):Tr:=.mk 4 0 [] l false
def Rn(s:Nat)(l:List UInt8)(n v:Nat):Tr:=if s=2 then dJ [cD n,cD v]else if l=[110,111,110,101]then cD 0 else .mk 3 0 l [] false
def YZ(s:Nat)(l:List UInt8)(n v:Nat):Tr:=dJ [cD s,Rn s l n v]
structure Nm where
 s:Nat
 l:List UInt8
 n:Nat
 v:Nat
def Nm.zero:Nm:=⟨0,[],0,0⟩
def Nm.none:Nm:=⟨1,[110,111,110,101],0,0⟩
def CO(x y:Tr):Nm:=if x.n=1/\y.k=3 then⟨1,y.s,0,0⟩else Nm.none
def OF(x y:Tr):Nm:=match y.l with
 | [p,q]=>if x.n=2 then⟨2,[],p.n,q.n⟩else CO x y
 |_=>CO x y
def iO(t:Tr):Nm:=if t.k=4 then(match t.l with
 | [x,y]=>if x.k=0 then OF x y else Nm.zero
 |_=>Nm.zero)else Nm.zero
theorem Xf{x y p q:Tr}(h:y.l=[p,q])(a:x.n=2):OF x y=⟨2,[],p.n,q.n⟩:=by unfold OF;rw[h];simp[a]
theorem mA{x y:Tr}(h:¬(x.n=2/\y.l.length=2)):OF x y=CO x y:=by
 unfold OF;split
 ·next p q a=>rw[M5];intro d;exact h ⟨d,by rw[a];rfl⟩
 ·rfl
theorem Xe{t:Tr}(h:¬t.l.length=2):iO t=Nm.zero:=by
 unfold iO;split
 ·split
  ·next x y a=>exact absurd (by rw[a];rfl) h
  ·rfl
 ·rfl
def Nm.right(m:Nm):Bool:=gW m.s m.l m.n m.v
def Nm.tree(m:Nm):Tr:=YZ m.s m.l m.n m.v
def OfP(t:Tr)(m:Nm):Prop:=m.right=true/\aU 8 t=true/\t=m.tree
theorem EZ{w:World}{t:Tr}{cs:List Value}(h:TAt w t cs):(iO t).l.length<=R47/\(iO t).n<W64/\(iO t).v<W64:=by
 have u:Nm.zero.l.length<=R47/\Nm.zero.n<W64/\Nm.zero.v<W64:=by decide
 have D:Nm.none.l.length<=R47/\Nm.none.n<W64/\Nm.none.v<W64:=by decide
 unfold iO;split
 ·split
  ·next x y B=>
   obtain⟨a,c,C,_,_,_,_,f⟩:=sI h;rw[B]at f;obtain⟨_,_,_,_,_,G,_⟩:=f 1 y rfl;obtain⟨_,_,I,_,_,r,_,d⟩:=sI G;have A:(CO x y).l.length<=R47/\(CO x y).n<W64/\(CO x y).v<W64:=by
    unfold CO;split
    ·exact⟨r,(by decide:0<W64),(by decide:0<W64)⟩
    ·exact D
   split
   ·unfold OF;split
    ·next p q j=>
     rw[j]at d;obtain⟨_,_,_,_,_,E,_⟩:=d 0 p rfl;obtain⟨_,_,_,_,_,F,_⟩:=d 1 q rfl;obtain⟨_,_,_,_,g,_⟩:=sI E;obtain⟨_,_,_,_,k,_⟩:=sI F;split
     ·exact⟨M8 _,g,k⟩
     ·exact A
    ·exact A
   ·exact u
  ·exact u
 ·exact u
end Go.Proofs.YtkoamlfiijcecaaGreatDoor.Itm
namespace Go.Proofs.YtkoamlfiijcecaaGreatDoor.Itm
open Go.ChangeShapes Go.WideShapes Go.ChangeAt Go.RowKit Go.Deep Go.Great Go.Proofs.YtkoamlfiijcecaaGreatDoor.Eid
def oS(y:Tr):List Nm:=match y.l with
 | [p,q]=>[Nm.none,⟨1,y.s,0,0⟩,⟨2,[],p.n,q.n⟩]
 |_=>[Nm.none,⟨1,y.s,0,0⟩]
theorem Ys{y:Tr}(h:¬y.l.length=2):oS y=[Nm.none,⟨1,y.s,0,0⟩]:=by
 unfold oS;split
 ·next p q a=>exact absurd (by rw[a];rfl) h
 ·rfl
theorem Yr(y:Tr):(oS y).length<=3:=by
 unfold oS;split<;>simp
theorem OC{m:Nm}(h:m.right=true):m.s=1\/m.s=2:=by
 unfold Nm.right gW at h;split at h
 ·exact .inl oW
 ·split at h
  ·exact .inr oW
  ·cases h
theorem XU{m:Nm}(h:m.right=true):iO m.tree=m:=by
 obtain⟨s,l,n,v⟩:=m;unfold Nm.right gW at h;simp only at h;split at h
 ·next hs=>
  rw[L5,N0]at h;obtain⟨⟨d,f⟩,_⟩:=h;obtain rfl:s=1:=by omega
  obtain rfl:n=0:=by omega
  obtain rfl:v=0:=by omega
  by_cases a:l=[110,111,110,101]
  ·subst a;rfl
  ·simp[Nm.tree,YZ,Rn,dJ,cD,a,iO,Tr.k,Tr.l,OF,CO,Tr.n,Tr.s]
 ·split at h
  ·next hs=>
   rw[N0]at h;obtain⟨rfl,_,_⟩:=h;obtain rfl:s=2:=by omega
   rfl
  ·cases h
theorem Vx{t x y:Tr}(a:t.l=[x,y]){m:Nm}(h:m.right=true)(f:t=m.tree):m∈oS y:=by
 have d:y=Rn m.s m.l m.n m.v:=by
  subst f;simp only[Nm.tree,YZ,dJ,Tr.l,Z6,bA]at a;exact a.2.symm
 obtain⟨s,l,n,v⟩:=m;unfold Nm.right gW at h;simp only at h d;split at h
 ·next hs=>
  rw[L5,N0]at h;obtain⟨⟨g,j⟩,_⟩:=h;obtain rfl:s=1:=by omega
  obtain rfl:n=0:=by omega
  obtain rfl:v=0:=by omega
  subst d;by_cases a:l=[110,111,110,101]
  ·subst a;simp[oS,Rn,cD,Tr.l,Nm.none]
  ·simp[oS,Rn,a,Tr.l,Tr.s]
 ·split at h
  ·next hs=>
   rw[N0]at h;obtain⟨rfl,_,_⟩:=h;obtain rfl:s=2:=by omega
   subst d;simp[oS,Rn,dJ,cD,Tr.l,Tr.n]
  ·cases h
end Go.Proofs.YtkoamlfiijcecaaGreatDoor.Itm
namespace Go.Proofs.YtkoamlfiijcecaaGreatDoor.Itm
open Go.ChangeShapes Go.WideShapes Go.ChangeAt Go.RowKit Go.Deep
def rN(n:Nat):Nat:=if n<24 then n else if n<256 then 24 else if n<65536 then 25 else if n<4294967296 then 26 else 27
def QX(n:Nat):Nat:=if n<24 then 0 else if n<256 then 1 else if n<65536 then 2 else if n<4294967296 then 4 else 8
theorem WE(m n:Nat):aF m n=UInt8.ofNat (32*m+rN n)::dg n (QX n):=by
 unfold aF rN QX
 repeat' split
 all_goals rfl
theorem Nr(n:Nat):rN n<28:=by
 unfold rN
 repeat' split
 all_goals omega
inductive NOk:Tr->Prop
 |mk (k:Int) (n:Nat) (s:List UInt8) (l:List Tr) (o:Bool) (hn:n<W64) (hs:s.length<W64) (hl:∀(i:Nat) (t:Tr),l[i]? =some t->NOk t):NOk (.mk k n s l o)
inductive Form:Tr->Prop
 |num (n:Nat):Form (.mk 0 n [] [] false)
 |str (s:List UInt8):Form (.mk 2 0 s [] false)
 |text (s:List UInt8):Form (.mk 3 0 s [] false)
 |arr (l:List Tr) (h:l.length<=1000):Form (.mk 4 0 [] l false)
 |opn (l:List Tr):Form (.mk 4 0 [] l true)
theorem Uv{t:Tr}(h:lA t=true):Form t:=by
 obtain⟨k,n,s,l,o⟩:=t;rw[FI]at h;rcases lW (Bool.and_eq_true_iff.1 h).1 with⟨a,d,f,g⟩|⟨a,d,f,g⟩|⟨a,d,f,g⟩|⟨a,d,f,g⟩
 ·simp only[Tr.k,Tr.s,Tr.o,Tr.l]at a d f g;obtain rfl:=O7.1 f;subst a d g;exact .num n
 ·simp only[Tr.k,Tr.n,Tr.o,Tr.l]at a d f g;obtain rfl:=O7.1 f;subst a d g;exact .str s
 ·simp only[Tr.k,Tr.n,Tr.o,Tr.l]at a d f g;obtain rfl:=O7.1 f;subst a d g;exact .text s
 ·simp only[Tr.k,Tr.n,Tr.s,Tr.l]at a d f g;subst a d f;cases o with
  |false=>exact .arr l g
  |true=>exact .opn l
theorem mT(n:Nat):aG (.mk 0 n [] [] false)=aF 0 n:=by rw[aG];simp
theorem pK(s:List UInt8):aG (.mk 2 0 s [] false)=aF 2 s.length++s:=by rw[aG];simp
theorem pJ(s:List UInt8):aG (.mk 3 0 s [] false)=aF 3 s.length++s:=by rw[aG];simp
theorem iQ(l:List Tr):aG (.mk 4 0 [] l false)=aF 4 l.length++aY l:=by rw[aG];simp
theorem pL(l:List Tr):aG (.mk 4 0 [] l true)=UInt8.ofNat (32*4+31)::(aY l++[255]):=by rw[aG];simp
end Go.Proofs.YtkoamlfiijcecaaGreatDoor.Itm
