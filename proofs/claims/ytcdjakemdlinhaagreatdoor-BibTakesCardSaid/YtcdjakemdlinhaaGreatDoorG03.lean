/-
  Several texts in one: Sxd Eid Eid2 Pri1 Itm2 Itm3 Itm4 Itm5 Itm6 Itm7 Itm8 Eid3 Ref10 Ref10b Ref10c Blank Itm9 Itm10 Itm11 Itm12 Itm13.
  Conditions: named at each.
-/
import Derived.Test.YtcdjakemdlinhaaGreatDoorG02
import Derived.Deep.CutRange
import Derived.StillTailTactics
import Derived.Deep.QuietTactic
import Derived.BigQuiet
import Derived.IntWalk
import Derived.Deep.RegionHeld3
import Derived.Deep.AppendLies
set_option maxHeartbeats 16000000
set_option linter.unusedSimpArgs false
set_option linter.unusedVariables false
set_option linter.unusedSectionVars false
namespace Go.Proofs.YtcdjakemdlinhaaGreatDoor.Sx
open Go.ChangeShapes Go.WideShapes Go.ChangeAt Go.RowKit Go.Deep
inductive Sq where
 |val (v:Value)
 |mem (Φ:Value→View→Prop)
def aQe(W0 : Cx)(U : View)(σ : aN)(W : World)(v : Value) : Sq → Prop
 | .val u=>v=u
 | .mem Φ=>∃V,View.le U V∧Mem W0 V σ W∧Φ v V
def mX : Sq → Prop
 | .val _=>True
 | .mem Φ=>∀v V V',View.le V V'→Φ v V→Φ v V'
theorem Mem.join{W0:Cx}{U V:View}{σ:aN}{W:World}(h:Mem W0 U σ W)(k:Mem W0 V σ W):Mem W0 (U.or V) σ W∧View.le U (U.or V)∧View.le V (U.or V):=by
 have d:∀a v,U.or V a=some v→U a=some v∨V a=some v:=by
  intro a v hu;unfold View.or at hu;cases g:U a with
  |some u=>rw[g]at hu;exact .inl hu
  |none=>rw[g]at hu;exact .inr hu
 refine⟨h.grow (fun a v hu c=>?_) (fun a v hu=>?_) (fun j b o x a r=>?_),View.le_or _ _,fun a v y=>?_⟩
 ·rcases d a v hu with hu|hu
  ·exact h.old a v hu c
  ·exact k.old a v hu c
 ·rcases d a v hu with hu|hu
  ·exact h.view a v hu
  ·exact k.view a v hu
 ·have q:=(h.own j b o x).2.2 a r;have f:=(k.own j b o x).2.2 a r;unfold View.or;rw[q,f];rfl
 ·unfold View.or;cases g:U a with
  |some u=>
   have q:=h.view a u g;have f:=k.view a v y;rw[q]at f;simpa using f
  |none=>simpa using y
theorem Mem.addView{W0:Cx}{U:View}{σ:aN}{W:World}(h:Mem W0 U σ W){g:Nat}{cs:List Value}{t:TypeId}(I:W.heap[g]? =some (.cells cs.toArray t (0,0)))(J:W0.w.heap.size≤g)(B:∀(k:Nat) (x:Nat×Obj),σ[k]? =some x→x.1≠g):
  ∃V,View.le U V∧V.range g 0 cs∧Mem W0 V σ W:=by
 let C:View:=fun a=>if a.block=g∧a.spot=none then cs[a.off]? else none
 have r:∀a v,C a=some v→a.block=g∧W.cell? a=some v:=by
  intro a v L;have d:(if a.block=g∧a.spot=none then cs[a.off]? else none)=some v:=L;split at d
  ·next c=>
   have G:a=⟨g,a.off,none⟩:=by
    obtain⟨M,N,O⟩:=a;simp only at c ⊢;rw[c.1,c.2]
   refine⟨c.1,?_⟩;rw[G,cell_of_row _ _ _ _ _ _ I];simpa using d
  ·cases d
 have q:∀a v,U.or C a=some v→U a=some v∨C a=some v:=by
  intro a v hu;unfold View.or at hu;cases f:U a with
  |some u=>rw[f]at hu;exact .inl hu
  |none=>rw[f]at hu;exact .inr hu
 refine⟨U.or C,View.le_or _ _,fun j v K=>?_,h.grow (fun a v hu A=>?_) (fun a v hu=>?_) (fun k b o F a E=>?_)⟩
 ·have c:C ⟨g,0+j,none⟩=some v:=by
   show(if g=g∧none=none then cs[0+j]? else none)=some v;rw[Ar ⟨rfl,rfl⟩,Aw];exact K
  unfold View.or;cases f:U ⟨g,0+j,none⟩with
  |some u=>
   have y:=h.view _ _ f;have D:=(r _ _ c).2;rw[y]at D;simpa using D
  |none=>simpa using c
 ·rcases q a v hu with hu|hu
  ·exact h.old a v hu A
  ·have:=(r a v hu).1;omega
 ·rcases q a v hu with hu|hu
  ·exact h.view a v hu
  ·exact(r a v hu).2
 ·have y:=(h.own k b o F).2.2 a E;unfold View.or;rw[y];cases f:C a with
  |none=>rfl
  |some v=>exact absurd (E.symm.trans (r a v f).1) (B k _ F)
def iP(ops:Array Oper)(ds:List Nat)(vs:List Sq)(u:Nat→Value)(i:Nat):aZ:=(List.range ds.length).filterMap fun j=>match cJ .any ops i j,vs[j]? with
 |true,some (.val v)=>some (ds.getD j 0,v)
 |true,some (.mem _)=>some (ds.getD j 0,u j)
 |_,_=>none
def aDP(u : Nat → Value) : Nat → List Nat → List Sq → aZ
 |j,d::ds,.val v::vs=>(d,v)::aDP u (j+1) ds vs
 |j,d::ds,.mem _::vs=>(d,u j)::aDP u (j+1) ds vs
 |_,_,_=>[]
def gR(vs:List Sq)(j:Nat)(v:Value)(V:View):Prop:=match vs[j]? with
 |some (.mem Φ)=>Φ v V
 |_=>True
theorem mI(u : Nat → Value) : ∀ (k : Nat) (ds : List Nat) (vs : List Sq) (t : Nat) (v : Value), (t, v) ∈ aDP u k ds vs → ∃ (j : Nat) (q : Sq), ds[j]? = some t ∧ vs[j]? = some q ∧ (match q with | .val w => v = w | .mem _ => v = u (k + j))
 |k,[],vs,t,v,h=>by simp[aDP]at h
 |k,d::ds,[],t,v,h=>by simp[aDP]at h
 |k,d::ds,.val w::vs,t,v,h=>by
  simp only[aDP,Bh,Am]at h;rcases h with⟨rfl,rfl⟩|h
  ·exact⟨0,.val v,rfl,rfl,rfl⟩
  ·obtain⟨j,q,c,f,a⟩:=mI u (k+1) ds vs t v h;refine⟨j+1,q,by simpa using c,by simpa using f,?_⟩;cases q with
   |val w=>exact a
   |mem _=>simp only at a ⊢;rw[a];congr 1;omega
 |k,d::ds,.mem Φ::vs,t,v,h=>by
  simp only[aDP,Bh,Am]at h;rcases h with⟨rfl,rfl⟩|h
  ·exact⟨0,.mem Φ,rfl,rfl,rfl⟩
  ·obtain⟨j,q,c,f,a⟩:=mI u (k+1) ds vs t v h;refine⟨j+1,q,by simpa using c,by simpa using f,?_⟩;cases q with
   |val w=>exact a
   |mem _=>simp only at a ⊢;rw[a];congr 1;omega
def IsQ(W0:Cx)(U:View)(σ:aN)(vs:List Sq):Nat→Value→World→Prop:=fun j v W=>∃q,vs[j]? =some q∧aQe W0 U σ W v q
theorem IsQ.keep{W0:Cx}{U:View}{σ:aN}{vs:List Sq}{j:Nat}{v:Value}{W W':World}(h:aAJ W W')(k:IsQ W0 U σ vs j v W):IsQ W0 U σ vs j v W':=by
 obtain⟨q,g,a⟩:=k;refine⟨q,g,?_⟩;cases q with
 |val u=>exact a
 |mem Φ=>
  obtain⟨V,c,d,f⟩:=a;exact⟨V,c,d.call h,f⟩
theorem aDF{W0 : Cx}{U : View}{σ : aN}{W : World}{vs : List Sq}{u : Nat → Value}(a : ∀ q ∈ vs, mX q)(B : Mem W0 U σ W) : ∀ (l : List Nat), (∀ j ∈ l, IsQ W0 U σ vs j (u j) W) → ∃ V, View.le U V ∧ Mem W0 V σ W ∧ ∀ j ∈ l, gR vs j (u j) V
 | [],_=>⟨U,View.le_refl _,B,fun j D=>by simp at D⟩
 |j::l,h=>by
  obtain⟨V,x,y,A⟩:=aDF a B l fun k c=>h k (Ce _ c)
  obtain⟨q,f,E⟩:=h j (Ck ..);cases q with
  |val w=>
   refine⟨V,x,y,fun k c=>?_⟩;rcases Bh.1 c with rfl|c
   ·unfold gR;rw[f];trivial
   ·exact A k c
  |mem Φ=>
   obtain⟨r,K,F,G⟩:=E;obtain⟨I,C,J⟩:=y.join F;refine⟨V.or r,View.le_trans x C,I,fun k c=>?_⟩;have g:∀k,gR vs k (u k) V→gR vs k (u k) (V.or r):=by
    intro k c;unfold gR at c ⊢;cases d:vs[k]? with
    |none=>trivial
    |some q=>
     cases q with
     |val _=>trivial
     |mem Ψ=>
      rw[d]at c;exact a _ (Ad d) _ _ _ C c
   rcases Bh.1 c with rfl|c
   ·unfold gR;rw[f];exact a _ (Ad f) _ _ _ J G
   ·exact g k (A k c)
theorem aEf{n : Nat}{s : aZ}{a0 : Act}{ops : Array Oper}{ds : List Nat}{vs : List Sq}{u : Nat → Value}{W0 : Cx}{U : View}{σ : aN}{W : World}(i : Nat)(y : pL n s a0)(L : ds.Nodup)(J : ∀ d ∈ ds, d < n)
  (M:∀j,cJ .any ops i j=true→IsQ W0 U σ vs j (u j) W):pL n (iP ops ds vs u i++aV s ds) (eO ds 0 u a0):=by
 have k:=fun t=>fX ds 0 u a0 t L (by rw[y.size];exact J)
 refine⟨by rw[(k 0).2.2.1,y.size],by rw[(k 0).2.2.2,y.defers],fun t v N=>?_⟩;rcases eV _ _ _ _ N with h|⟨_,h⟩
 ·have C:=iW _ _ _ h;unfold iP at C;obtain⟨j,K,f⟩:=Gl.1 C;have r:j<ds.length:=Cm.1 K;have g:∀B,ds.getD j 0=B→ds[j]? =some B:=fun B e=>by
   rw[Aa r,←e];simp[List.getD,r]
  split at f
  ·next x E F=>
   simp only[Ab,Am]at f;obtain⟨a,c⟩:=f;rw[(k t).1 j (g t a),Aw];obtain⟨q,A,D⟩:=M j E;rw[F]at A;simp only[Ab]at A;subst A;simp only[aQe]at D;rw[D,c]
  ·next x E F=>
   simp only[Ab,Am]at f;obtain⟨a,c⟩:=f;rw[(k t).1 j (g t a),Aw,c]
  ·cases f
 ·obtain⟨G,I⟩:=fD _ _ _ _ h;rw[(k t).2.1 G];exact y.slots t v I
structure Oq (P : Program) (n : Nat) (W0 : Cx) (U : View) (σ : aN) (ops : Array Oper) (ds : List Nat) (vs : List Sq) (s : aZ) (i : Nat) : Prop where
 go:∀(a0:Act) (Q:Exit→Act→World→Prop),pL n s a0→ds.Nodup→(∀d∈ds,d<n)→(∀q∈vs,mX q)→aAo P .any ops Q (Mem W0 U σ) aAJ (IsQ W0 U σ vs) ds a0 i
def aOn(ops:Array Oper)(vs:List Sq)(i:Nat):List Nat:=(List.range vs.length).filter fun j=>cJ .any ops i j
theorem Calls.retN{P:Program}{f:FuncId}{c:Array Value}{w:World}{U:View}{v:Value}{Φ:Value→View→Prop}(k:∀a u,U a=some u→w.cell? a=some u)(h:Calls P f c w (Ret v w))(g:Φ v U):Calls P f c w (fO w U Φ):=
 h.mono fun e r ⟨q,j⟩=>⟨v,U,q,j,View.le_refl _,fun a u d=>by
  have:=k a u d;rw[j.cell (pF this)];exact this,fun _ _ d _=>d,g⟩
section
variable {P:Program} {n:Nat} {W0:Cx} {s:aZ} {U:View} {σ:aN} {ops:Array Oper} {ds:List Nat} {vs:List Sq}
theorem Oq.op(i : Nat){o : Oper}(A : ops[i]? = some o)(q : Sq)(y : vs[i]? = some q)
  (h:∀(u:Nat→Value) (V:View),View.le U V→(∀j,cJ .any ops i j=true→gR vs j (u j) V)→cU ops (iP ops ds vs u i++aV s ds) o=some true∧
   ∀a W,pL n (iP ops ds vs u i++aV s ds) a→Mem W0 V σ W→∀(Q:Exit→Act→World→Prop) (K:Act→World→Prop),(∀v W',Mem W0 V σ W'→aQe W0 V σ W' v q→Below W.heap.size W W'→K (a.put o.dst v) W')→o.wp P a W K Q):Oq P n W0 U σ ops ds vs s i:=by
 refine⟨fun a0 Q J N M r=>⟨fun u W I x K G=>?_⟩⟩;have B:=aEf (u:=u) (W:=W) i J N M x;have k:∀j,cJ .any ops i j=true→j<vs.length:=fun j c=>by
  obtain⟨q,O,_⟩:=x j c;exact(Af.1 O).1
 obtain⟨V,d,E,F⟩:=aDF r I (aOn ops vs i) fun j c=>x j (Ga.1 c).2
 obtain⟨X,g⟩:=h u V d fun j c=>F j (Ga.2 ⟨Cm.2 (k j c),c⟩)
 unfold wpOp;simp only[A,lE B X,if_true];left;refine g _ W B E Q K fun v W' f C L=>?_
 have:=G v W' (f.weak d) L ⟨q,y,by
  cases q with
  |val w=>exact C
  |mem Φ=>
   obtain⟨D,Y,Z,k3⟩:=C;exact⟨D,View.le_trans d Y,Z,k3⟩⟩
 rw[A]at this;exact this
theorem oqQ(i:Nat){o:Oper}(k:ops[i]? =some o)(v d:Value)(j:v=d)(c:vs[i]? =some (.val d))(r:∀u,cU ops (iP ops ds vs u i++aV s ds) o=some true)(q:∀u,quiet P (iP ops ds vs u i++aV s ds) o=some v):Oq P n W0 U σ ops ds vs s i:=
 Oq.op i k _ c fun u V _ _=>⟨r u,fun a W h g Q K f=>by
  unfold Oper.wp;rw[mY h (q u)];exact f v W g j (Below.refl _ _)⟩
theorem oqL(i k b m : Nat)(cs : List Value)(t : TypeId){o : Oper}(r : ops[i]? = some o)(v : Value)(g : vs[i]? = some (.val v))(y : σ[k]? = some (b, .cells cs.toArray t (0, 0)))(B : ∀ u, cU ops (iP ops ds vs u i ++ aV s ds) o = some true)
  (c:∀u,reads P cs (iP ops ds vs u i++aV s ds) o=some (v,List.replicate m (b,none))):Oq P n W0 U σ ops ds vs s i:=
 Oq.op i r _ g fun u V _ _=>⟨B u,fun a W q h Q K j=>by
  have c:=c u;unfold reads at c;split at c
  ·next f=>
   split at c
   ·next x C A=>
    simp only[Ab,Am]at c;obtain⟨rfl,d⟩:=c;unfold Oper.wp;rw[fW q f,sJ h y A d];exact j _ W h rfl (Below.refl _ _)
   ·cases c
  ·cases c⟩
theorem iG{a:Act}{s':aZ}(ts:List Nat)(c:List Value)(d:pL n s' a)(h:(ts.map fun t=>look s' t)=c.map some):pL n (ts.zip c) a:=
 ⟨d.size,d.defers,fun t v f=>d.slots t v (qR ts c h t v f)⟩
theorem oqM(i : Nat)(f : FuncId){o : Oper}(L : ops[i]? = some o)(J : o.guard = none)(Φ : Value → View → Prop)(r : vs[i]? = some (.mem Φ))(ts : List Nat)(d : (Nat → Value) → List Value)(q : ∀ u, (ts.map fun t => look (iP ops ds vs u i ++ aV s ds) t) = (d u).map some)
  (h:∀(u:Nat→Value) (V:View),View.le U V→(∀j,cJ .any ops i j=true→gR vs j (u j) V)→∃c,enters P (ts.zip (d u)) o=some (f,c)∧
   ∀W,(∀a v,V a=some v→W.cell? a=some v)→Calls P f c W (fO W V Φ)):Oq P n W0 U σ ops ds vs s i:=
 Oq.op i L _ r fun u V D G=>by
  obtain⟨c,I,F⟩:=h u V D G;refine⟨by unfold cU;rw[J],fun a W E g Q K C=>?_⟩;unfold Oper.wp;rw[fE (iG ts _ E (q u)) I];refine(F W g.view).mono ?_;rintro _ B ⟨v,A,rfl,k,y,N,M,x⟩;exact C v B (g.call k) ⟨A,y,g.retN k y N M,x⟩ k
theorem oqN(i : Nat){o : Oper}(O : ops[i]? = some o)(N : o.guard = none)(Φ : Value → View → Prop)(A : vs[i]? = some (.mem Φ))(ts : List Nat)(c : (Nat → Value) → List Value)(y : ∀ u, (ts.map fun t => look (iP ops ds vs u i ++ aV s ds) t) = (c u).map some)
  (h:∀(u:Nat→Value) (V:View),View.le U V→(∀j,cJ .any ops i j=true→gR vs j (u j) V)→∃(cs:List Value) (t:TypeId) (C:Nat→Value),makes P (ts.zip (c u)) o=some (.cells cs.toArray t (0,0),fun r=>some (C r))∧
   ∀g d,View.le V d→d.range g 0 cs→Φ (C g) d):Oq P n W0 U σ ops ds vs s i:=
 Oq.op i O _ A fun u V J M=>by
  obtain⟨cs,t,C,X,B⟩:=h u V J M;refine⟨by unfold cU;rw[N],fun a W L q Q K I=>?_⟩;unfold Oper.wp;rw[oF (iG ts _ L (y u)) X];have E:Below W.heap.size W (W.alloc (.cells cs.toArray t (0,0))):=(Below.refl _ _).alloc (Bg _) _;have f:=q.call E;obtain⟨d,D,F,G⟩:=f.addView (heap_alloc_last W (.cells cs.toArray t (0,0))) q.below.size fun k x Y=>by
   have:=gP (q.own k x.1 x.2 Y).1;omega
  exact I _ _ f ⟨d,D,G,B _ _ D F⟩ E
theorem oqP(i : Nat){o : Oper}(B : ops[i]? = some o)(A : o.guard = none)(Φ : Value → View → Prop)(f : vs[i]? = some (.mem Φ))(ts : List Nat)(c : (Nat → Value) → List Value)(d : ∀ u, (ts.map fun t => look (iP ops ds vs u i ++ aV s ds) t) = (c u).map some)
  (h:∀(u:Nat→Value) (V:View),View.le U V→(∀j,cJ .any ops i j=true→gR vs j (u j) V)→∃v,quiet P (ts.zip (c u)) o=some v∧Φ v V):Oq P n W0 U σ ops ds vs s i:=
 Oq.op i B _ f fun u V r y=>by
  obtain⟨v,C,g⟩:=h u V r y;refine⟨by unfold cU;rw[A],fun a W x k Q K q=>?_⟩;unfold Oper.wp;rw[mY (iG ts _ x (d u)) C];exact q v W k ⟨V,View.le_refl _,k,g⟩ (Below.refl _ _)
theorem aJi{id : Nat}{l : List Oper}{Q : XQ}(m f r : Nat)(ds : List Nat)(vs : List Sq)(hm : P.follows .mixedOrders = true)(G : l.length = m + f)(C : ds.length = m)
  (X:oJ l.toArray ds=true) (F:nodupB ds=true) (Z:(ds.all fun d=>Nat.blt d n)=true) (k:fI .any l.toArray m=true) (y:lM .any l.toArray m r=true) (g:jY l.toArray m f=true) (E:∀q∈vs,mX q)
  (a6:Go.Proofs.YtcdjakemdlinhaaGreatDoor.Steps (Oq P n W0 U σ l.toArray ds vs s) 0 m)
  (h:∀(u:Nat→Value) (V:View),View.le U V→(∀j,j<m→gR vs j (u j) V)→SXL P n W0 Q l.toArray (l.drop m) (aDP u 0 ds vs++aV s ds) V σ):SXC P n W0 Q (.region id l.toArray true) s U σ:=by
 refine⟨fun a W A hM=>?_⟩;have hn:=lH F;have I:∀d∈ds,d<n:=fun d I=>by have:=Ao.1 Z d I;simpa[Ew]using this
 refine rY m f r (Mem W0 U σ) ds (IsQ W0 U σ vs) aAJ hm (by simpa using G) C X F k y (fun i v w w' h L=>L.keep h) hM.drew ?_ ?_
 ·have:∀(c i:Nat),Go.Proofs.YtcdjakemdlinhaaGreatDoor.Steps (Oq P n W0 U σ l.toArray ds vs s) i c→Go.Proofs.YtcdjakemdlinhaaGreatDoor.Steps (aAo P .any l.toArray (up n W0 Q) (Mem W0 U σ) aAJ (IsQ W0 U σ vs) ds a) i c:=by
   intro c
   induction c with
   |zero=>intro i _;trivial
   |succ c ih=>intro i h;exact⟨h.1.go a _ A hn I E,ih (i+1) h.2⟩
  exact this m 0 a6
 ·intro u W' O L;refine iI f m _ W' (by simpa using G.symm) g ?_;have J:=fun t=>fX ds 0 u a t hn (by rw[A.size];exact I)
  obtain⟨V,M,N,h3⟩:=aDF (u:=u) E O (List.range m) fun j Y=>L j (Cm.1 Y)
  refine(h u V M fun j Y=>h3 j (Cm.2 Y)).go _ W' ⟨by rw[(J 0).2.2.1,A.size],by rw[(J 0).2.2.2,A.defers],fun t v B=>?_⟩ N;rcases eV _ _ _ _ B with B|⟨_,B⟩
  ·have D:=iW _ _ _ B;obtain⟨j,q,hd2,a1,K⟩:=mI u 0 _ _ _ _ D;have a7:j<ds.length:=(Af.1 hd2).1;obtain⟨q',x,hs⟩:=L j oW;rw[a1]at x;simp only[Ab]at x;subst x;rw[(J t).1 j hd2,Aw];cases q with
   |val w=>simp only[aQe]at hs;simp only at K;rw[hs,K]
   |mem Φ=>simp only[Aw]at K;rw[K]
  ·obtain⟨M,N⟩:=fD _ _ _ _ B;rw[(J t).2.1 M];exact A.slots t v N
def dqA(P:Program)(l:List Oper)(σ:aN)(ks:List Nat)(tv:List Sq)(s:aZ)(u:Nat→Value):=drX P l.toArray σ (fun acc i=>iP l.toArray (dsO l ks.length) acc u i++aV s (dsO l ks.length)) Sq.val ks tv 0 []
def dvQ(P:Program)(l:List Oper)(σ:aN)(ks:List Nat)(tv:List Sq)(s:aZ):List Sq:=match dqA P l σ ks tv s (fun _=>undef)with
 |some (vs,_,_)=>vs
 |none=>[]
theorem aMG{u:Nat→Value}(a r:List Sq)(h:∀j,cJ .any ops a.length j=true→j<a.length):iP ops ds (a++r) u a.length=iP ops ds a u a.length:=by
 unfold iP;congr 1;funext j;cases c:cJ .any ops a.length j with
 |false=>rfl
 |true=>rw[Bp (h j c)]
theorem aOh{i:Nat}(h:∀u,∃k,k≠1∧aHs P ops σ (fun acc i=>iP ops ds acc u i++aV s ds) Sq.val vs i k){σ':aN}(J:∀(k:Nat) (x:Nat×Obj),σ[k]? =some x→σ'[k]? =some x):Oq P n W0 U σ' ops ds vs s i:=by
 refine⟨fun N Q D G E F=>⟨fun u W q L K r=>?_⟩⟩;have j:=aEf (u:=u) (W:=W) i D G E L;obtain⟨k,A,M⟩:=h u;unfold wpOp
 match k,A,M with
 |0,_,⟨o,v,d,f,g,a⟩=>
  simp only[d,lE j f,if_true];left;unfold Oper.wp;rw[mY j g];have:=r v W q (Below.refl _ _) ⟨_,a,rfl⟩;rw[d]at this;exact this
 |1,A,_=>exact absurd rfl A
 |2,_,⟨o,d,f,g⟩=>
  simp only[d,lE j f];have:=r undef W q (Below.refl _ _) ⟨_,g,rfl⟩;rw[d]at this;exact this
 |k+3,_,⟨o,v,b,c,t,m,d,f,g,a,C⟩=>
  simp only[d,lE j g,if_true];left;unfold reads at a;split at a
  ·next B=>
   split at a
   ·next x O I=>
    simp only[Ab,Am]at a;obtain⟨rfl,y⟩:=a;unfold Oper.wp;rw[fW j B,sJ q (cs:=c.toList) (by simpa using J _ _ f) I y];have:=r x W q (Below.refl _ _) ⟨_,C,rfl⟩;rw[d]at this;exact this
   ·cases a
  ·cases a
def aMU : Sq → Value → View → Prop
 | .mem Φ,v,V=>Φ v V
 | .val _,_,_=>True
theorem aDZ{j:Nat}{t:Sq}{v:Value}{V:View}(h:vs[j]? =some t)(a:gR vs j v V):aMU t v V:=by
 unfold gR at a;rw[h]at a;cases t with
 |val _=>trivial
 |mem Φ=>exact a
theorem aB5{α : Type} : ∀ {ks : List Nat} {tv : List α} {j : Nat} {t : α}, tlk ks tv j = some t → ks[j]? = some 1 ∧ t ∈ tv
 | [],tv,j,t,h=>by cases j<;>cases h
 |0::ks,tv,0,t,h=>by cases h
 |0::ks,tv,j+1,t,h=>aB5 (ks:=ks) h
 |1::ks,[],0,t,h=>by cases h
 |1::ks,[],j+1,t,h=>aB5 (ks:=ks) (tv:=[]) h
 |1::ks,x::tv,0,t,h=>by cases h;exact⟨rfl,Ck ..⟩
 |1::ks,x::tv,j+1,t,h=>⟨(aB5 (ks:=ks) h).1,Ce _ (aB5 (ks:=ks) h).2⟩
 |(k+2)::ks,tv,0,t,h=>by cases h
 |(k+2)::ks,tv,j+1,t,h=>aB5 (ks:=ks) h
section
variable {l:List Oper} {ks:List Nat} {T:List (Nat×Nat)} {tv:List Sq}
abbrev DqT(P:Program)(l:List Oper)(σ:aN)(ks:List Nat)(T:List (Nat×Nat))(tv:List Sq)(s:aZ):Prop:=∀u,dqA P l σ ks tv s u=some (dvQ P l σ ks tv s,tt T,tt T)
theorem aMD(d:DqT P l σ ks T tv s)(f:fI .any l.toArray ks.length=true)(u:Nat→Value)(j k:Nat)(c:ks[j]? =some k):(k=1∧∃t,tlk ks tv j=some t∧(dvQ P l σ ks tv s)[j]? =some t)∨(k≠1∧aHs P l.toArray σ (fun a i=>iP l.toArray (dsO l ks.length) a u i++aV s (dsO l ks.length)) Sq.val (dvQ P l σ ks tv s) j k):=by
 have:=aNm (m:=ks.length) (fun a r g=>?_) ks tv [] _ (by simp) (d u) j k c
 ·rwa[show([]:List Sq).length+j=j from Aw j]at this
 ·show iP _ _ (a++r) _ _++_=iP _ _ a _ _++_;rw[aMG a r fun j c=>aHj f g c]
theorem aNn(d:DqT P l σ ks T tv s)(f:fI .any l.toArray ks.length=true)(j:Nat)(t:Sq)(h:tlk ks tv j=some t):(dvQ P l σ ks tv s)[j]? =some t:=by
 rcases aMD d f (fun _=>undef) j 1 (aB5 h).1 with⟨_,k,a,c⟩|⟨g,_⟩
 ·rw[h]at a;cases a;exact c
 ·exact absurd rfl g
theorem aKR(A:DqT P l σ ks T tv s)(B:fI .any l.toArray ks.length=true)(g:(dvQ P l σ ks tv s).length≤ks.length)(u:∀q∈tv,mX q):∀q∈dvQ P l σ ks tv s,mX q:=by
 intro q C;obtain⟨j,d⟩:=Ev C;have r:j<ks.length:=Dv (Af.1 d).1 g;rcases aMD A B (fun _=>undef) j _ (Aa r)with⟨_,t,y,x⟩|⟨f,h⟩
 ·rw[d]at x;cases x;exact u _ (aB5 y).2
 ·revert f h;generalize ks[j]=k;intro f h
  match k,f,h with
  |0,_,⟨o,v,_,_,_,a⟩=>rw[d]at a;cases a;trivial
  |1,f,_=>exact absurd rfl f
  |2,_,⟨o,_,_,a⟩=>rw[d]at a;cases a;trivial
  |k+3,_,⟨o,v,b,c,t,m,_,_,_,_,a⟩=>rw[d]at a;cases a;trivial
theorem aHk{O : Nat → Prop}(g : DqT P l σ ks T tv s)(h : fI .any l.toArray ks.length = true)
  (q:∀j,ks[j]? ≠some 1→(∀σ',(∀(k:Nat) (x:Nat×Obj),σ[k]? =some x→σ'[k]? =some x)→Oq P n W0 U σ' l.toArray (dsO l ks.length) (dvQ P l σ ks tv s) s j)→O j)
  (y:obT (fun j t=>(dvQ P l σ ks tv s)[j]? =some t→O j) 0 ks tv):Go.Proofs.YtcdjakemdlinhaaGreatDoor.Steps O 0 ks.length:=by
 refine aDp _ _ fun j r=>?_
 rw[Aw];by_cases c:ks[j]? =some 1
 ·rcases aMD g h (fun _=>undef) j 1 c with⟨_,t,a,f⟩|⟨d,_⟩
  ·have:=tZ ks tv 0 j t y a;rw[Aw]at this;exact this f
  ·exact absurd rfl d
 ·refine q j c fun σ' A=>aOh (fun u=>?_) A
  have d:=Aa r;rcases aMD g h u j _ d with⟨a,_⟩|⟨a,f⟩
  ·rw[d,a]at c;exact absurd rfl c
  ·exact⟨_,a,f⟩
def Oqw(P:Program)(n:Nat)(W0:Cx)(U:View)(σ:aN)(ops:Array Oper)(ds ks:List Nat)(tv vs:List Sq)(s:aZ)(i:Nat)(t:Sq):Prop:=(∀j t,tlk ks tv j=some t→vs[j]? =some t)→vs[i]? =some t→Oq P n W0 U σ ops ds vs s i
theorem mB{E : Nat}{l : List Oper}{Q : XQ}(r : Nat)(ks : List Nat)(T : List (Nat × Nat))(tv : List Sq)(g : ∀ q ∈ tv, mX q)(x : obT (Oqw P n W0 U σ l.toArray (dsO l ks.length) ks tv (dvQ P l σ ks tv s) s) 0 ks tv)
  (h:∀(u:Nat→Value) (V:View),View.le U V→(∀{t:Sq} (j:Nat),tlk ks tv j=some t→aMU t (u j) V)→SXL P n W0 Q l.toArray (l.drop ks.length) (aDP u 0 (dsO l ks.length) (dvQ P l σ ks tv s)++aV s (dsO l ks.length)) V σ)
  (d:DqT P l σ ks T tv s:=by intro u;kernel_rfl) (a:Nat.ble (dvQ P l σ ks tv s).length ks.length=true:=by kernel_rfl) (f:aOW P n l ks.length r=true:=by kernel_rfl):SXC P n W0 Q (.region E l.toArray true) s U σ:=by
 unfold aOW at f;simp only[Ae]at f;obtain⟨⟨⟨⟨⟨⟨⟨F,k⟩,G⟩,I⟩,J⟩,c⟩,K⟩,L⟩:=f;have k:=Cw k;have A:=aNn d c;refine aJi ks.length (l.length-ks.length) r (dsO l ks.length) (dvQ P l σ ks tv s) F oW (aGo k) G I J c K L (aKR d c (Cw a) g) (aHk d c (fun j _ h=>h σ fun _ _ h=>h) ?_) fun u V B C=>h u V B fun{t} j y=>aDZ (A j t y) (C j ((Af.1 (aB5 y).1).1))
 exact qQ (fun j t (D:Oqw ..)=>D A) _ _ _ x
end
section
variable {ks:List Nat} {tv:List Sq} {i:Nat} {v:Value} {Φ:Value→View→Prop}
abbrev aLq(ops:Array Oper)(ks:List Nat)(tv:List Sq)(u:Nat→Value)(V:View)(i:Nat):Prop:=∀{t:Sq} (j:Nat),cJ .any ops i j=true→tlk ks tv j=some t→aMU t (u j) V
theorem pB{u:Nat→Value}{V:View}(d:∀j t,tlk ks tv j=some t→vs[j]? =some t)(a:∀j,cJ .any ops i j=true→gR vs j (u j) V):aLq ops ks tv u V i:=fun j c f=>aDZ (d _ _ f) (a j c)
theorem wV(f : FuncId)(c : (Nat → Value) → Array Value)(h : ∀ (u : Nat → Value) (V : View), View.le U V → aLq ops ks tv u V i → ∀ W, (∀ a v, V a = some v → W.cell? a = some v) → Calls P f (c u) W (Ret v W))
  (C:ops[i]? =some (iC ops i):=by rfl) (B:(iC ops i).guard=none:=by rfl) (A:∀u,enters P (iP ops ds vs u i++aV s ds) (iC ops i)=some (f,c u):=by intro u;kernel_rfl):Oqw P n W0 U σ ops ds ks tv vs s i (.val v):=
 fun D d=>Oq.op i C _ d fun u V r y=>by
  refine⟨by unfold cU;rw[B],fun a W x g Q K q=>?_⟩;unfold Oper.wp;rw[fE x (A u)];refine(h u V r (pB D y) W g.view).mono ?_;rintro _ k ⟨rfl,j⟩;exact q v k (g.call j) rfl j
theorem wM(f : FuncId)(c : (Nat → Value) → Array Value)(h : ∀ (u : Nat → Value) (V : View), View.le U V → aLq ops ks tv u V i → ∀ W, (∀ a v, V a = some v → W.cell? a = some v) → Calls P f (c u) W (fO W V Φ))
  (F:ops[i]? =some (iC ops i):=by rfl) (E:(iC ops i).guard=none:=by rfl) (D:∀u,enters P (iP ops ds vs u i++aV s ds) (iC ops i)=some (f,c u):=by intro u;kernel_rfl):Oqw P n W0 U σ ops ds ks tv vs s i (.mem Φ):=
 fun d k=>Oq.op i F _ k fun u V A C=>by
  refine⟨by unfold cU;rw[E],fun a W B g Q K y=>?_⟩;unfold Oper.wp;rw[fE B (D u)];refine(h u V A (pB d C) W g.view).mono ?_;rintro _ x ⟨v,r,rfl,j,d,I,G,q⟩;exact y v x (g.call j) ⟨r,d,g.retN j d I G,q⟩ j
theorem wN(ts : List Nat)(a : (Nat → Value) → List Value)(h : ∀ (u : Nat → Value) (V : View), View.le U V → aLq ops ks tv u V i → ∃ (cs : List Value) (t : TypeId) (j : Nat → Value), makes P (ts.zip (a u)) (iC ops i) = some (.cells cs.toArray t (0, 0), fun r => some (j r)) ∧ ∀ g c, View.le V c → c.range g 0 cs → Φ (j g) c)
  (y:ops[i]? =some (iC ops i):=by rfl) (x:(iC ops i).guard=none:=by rfl) (d:∀u,(ts.map fun t=>look (iP ops ds vs u i++aV s ds) t)=(a u).map some:=by intro u;kernel_rfl):Oqw P n W0 U σ ops ds ks tv vs s i (.mem Φ):=
 fun A f=>oqN i y x Φ f ts a d fun u V k q=>h u V k (pB A q)
theorem wP(ts : List Nat)(a : (Nat → Value) → List Value)(h : ∀ (u : Nat → Value) (V : View), View.le U V → aLq ops ks tv u V i → ∃ v, quiet P (ts.zip (a u)) (iC ops i) = some v ∧ Φ v V)
  (k:ops[i]? =some (iC ops i):=by rfl) (j:(iC ops i).guard=none:=by rfl) (c:∀u,(ts.map fun t=>look (iP ops ds vs u i++aV s ds) t)=(a u).map some:=by intro u;kernel_rfl):Oqw P n W0 U σ ops ds ks tv vs s i (.mem Φ):=
 fun q d=>oqP i k j Φ d ts a c fun u V f g=>h u V f (pB q g)
theorem wE(c:Value)(d:c=v)(f:ops[i]? =some (iC ops i):=by rfl)(h:∀u,cU ops (iP ops ds vs u i++aV s ds) (iC ops i)=some true:=by intro u;kernel_rfl)(g:∀u,quiet P (iP ops ds vs u i++aV s ds) (iC ops i)=some c:=by intro u;kernel_rfl):Oqw P n W0 U σ ops ds ks tv vs s i (.val v):=
 fun _ a=>oqQ i f c v d a h g
end
theorem gV{Q : XQ}{l : List Oper}{o : Oper}(cs : List Value)(t : TypeId)(q : Nat → Value)(hm : makes P s o = some (.cells cs.toArray t (0, 0), fun r => some (q r)))(j : eX n o = true)(D : cU ops s o = some true)
  (h:∀g V,View.le U V→V.range g 0 cs→SXL P n W0 Q ops l (lT o (q g) s) V σ):SXL P n W0 Q ops (o::l) s U σ:=by
 refine pN j D fun a W f c K B=>?_
 unfold Oper.wp;rw[oF f hm];have C:Below W.heap.size W (W.alloc (.cells cs.toArray t (0,0))):=(Below.refl _ _).alloc (Bg _) _;have d:=c.call C;obtain⟨F,u,y,A⟩:=d.addView (heap_alloc_last W (.cells cs.toArray t (0,0))) c.below.size fun k x E=>by
  have:=gP (c.own k x.1 x.2 E).1;omega
 exact B _ _ _ _ _ (h _ _ u y) (eL f j) A
end
theorem qX{P:Program}{n:Nat}{W0:Cx}{Q:XQ}{ops:Array Oper}{l:List Oper}{s:aZ}{U:View}{σ:aN}(t:Nat){v a:Value}(c:v=a)(h:SXL P n W0 Q ops l ((t,a)::s) U σ)(d:look s t=some v:=by kernel_rfl):SXL P n W0 Q ops l s U σ:=aNU t v a d c h
end Go.Proofs.YtcdjakemdlinhaaGreatDoor.Sx
namespace Go.Proofs.YtcdjakemdlinhaaGreatDoor.Eid
open Go.ChangeShapes Go.WideShapes Go.ChangeAt Go.RowKit

theorem tK(l p:List UInt8)(w:World):Calls Tryz.prog 236 #[.string (B l),.string (B p)] w fun e w'=>e=.returned (.bool (pre p l))∧w=w':=by
 have h:=rM l p;have H:=Lib.hid h;clear h
 go_enter Tryz.func236,Tryz.ntmps236
 go_wp2
 all_goals
  go_ret
  exact⟨by rw[←H.out];refine qJ ?_;simp_all;try omega,rfl⟩
theorem aCe(l p:List UInt8)(w:World):Calls Tryz.prog 207 #[.string (B l),.string (B p)] w fun e w'=>e=.returned (.tuple #[.string (B (aOX p l)),.bool (pre p l)])∧w=w':=by
 cases hp:pre p l
 ·have hc:=aIE hp;have H:=Lib.hid hp;have HC:=Lib.hid hc;clear hp hc
  go_enter Tryz.func207,Tryz.ntmps207
  go_wp2_with (go_at_call 236;refine(tK _ _ _).mono ?_;rw[H.out];rintro e w' ⟨rfl,rfl⟩)
  go_ret2
  exact⟨by rw[HC.out];rfl,rfl⟩
 ·have hle:=aCv hp;have hc:=aE2 hp;have H:=Lib.hid hp;have HC:=Lib.hid hc;clear hp hc
  go_enter Tryz.func207,Tryz.ntmps207
  go_wp2_with (go_at_call 236;refine(tK _ _ _).mono ?_;rw[H.out];rintro e w' ⟨rfl,rfl⟩)
  go_ret2
  exact⟨by rw[HC.out];rfl,rfl⟩
theorem aD0(l p:List UInt8)(w:World):Calls Tryz.prog 169 #[.string (B l),.string (B p)] w fun e w'=>e=.returned (.tuple #[.string (B (aOX p l)),.bool (pre p l)])∧w=w':=by
 go_enter Tryz.func169,Tryz.ntmps169
 go_wp2_with (go_at_call 207;refine(aCe _ _ _).mono ?_;rintro e w' ⟨rfl,rfl⟩)
 go_ret2
 exact⟨rfl,rfl⟩

def nb(c:Int):Bool:=decide (97≤c∧c≤122∨48≤c∧c≤57∨c=45∨c=46)
theorem jM(c:Int)(w:World):Calls Tryz.prog 170 #[.int .i32 c] w fun e w'=>e=.returned (.bool (nb c))∧w=w':=by
 go_enter Tryz.func170,Tryz.ntmps170
 go_wp2
 all_goals
  go_ret
  exact⟨qJ (by simp[nb]<;>omega),rfl⟩

def scan : List UInt8 → Nat → Nat
 | [],_=>0
 |c::r,i=>if nb c.toNat then scan r (i+1)else if c.toNat=47∧0<i then i+3 else 0
def jX(l:List UInt8):Nat:=if pre [47,47] l∧l.length≤60 then scan (l.drop 2) 0 else 0

theorem aMd(l:List UInt8)(w:World)(hl:l.length≤maxLen):Calls Tryz.prog 132 #[.string (B l)] w fun e w'=>e=.returned (.int .i64 (jX l))∧Below w.heap.size w w':=by
 unfold maxLen at hl
 go_enter Tryz.func132,Tryz.ntmps132
 go_wp2_with fail
 refine(aD0 _ [47,47] _).mono ?_;rintro e w1 ⟨rfl,rfl⟩
 cases hp:pre [47,47] l
 ·have H:=Lib.hid hp;clear hp
  go_wp2
  go_ret
  exact⟨by unfold jX;rw[H.out];rfl,Below.refl _ _⟩
 ·have hc:=aE2 hp;have H:=Lib.hid hp;rw[hc];clear hp hc;by_cases h60:l.length≤60
  ·have hn:jX l=scan (l.drop 2) 0:=by unfold jX;rw[Ar ⟨H.out,h60⟩]
   have hm:(l.drop 2).length≤60:=by simp;omega
   generalize l.drop 2=m at hn hm;have HN:=Lib.hid hn;clear hn
   go_wp2
   go_loopw [] (fun wr=>∃k:Nat,k≤m.length∧wr=w.iter (B m) k∧jX l=scan (m.drop k) k) (fun wr=>m.length-wr.iterPos w.heap.size)
   case atStart=>exact⟨0,Ap _,rfl,HN.out⟩
   case round=>
    obtain⟨k,hk,rfl,hs⟩:=hrel;by_cases hlt:k<m.length
    ·have hB:k<(B m).size:=by rw[rE];exact hlt
     have hd:m.drop k=m[k]::m.drop (k+1):=Bx hlt;rw[hd]at hs;have HS:=Lib.hid hs;clear hs hd;by_cases ha:m[k].toNat<128
     ·have hnx:∀ty,(Instr.next (.pointer (some ⟨w.heap.size,0,none⟩)) true ty).run Tryz.prog (w.iter (B m) k)=.ok (.tuple #[.bool true,.int .i64 k,.int .i32 m[k].toNat]) (w.iter (B m) (k+1)):=fun ty=>run_next_ascii w (B m) k ty hB ha
      generalize hc:m[k].toNat=c at *;cases hb:nb c
      ·have Hb:=Lib.hid hb;by_cases h47:c=47
       ·by_cases h0:0<k
        ·have e:jX l=k+3:=by rw[HS.out];unfold scan;rw[hc,An (by rw[hb];decide),Ar ⟨h47,h0⟩]
         have HE:=Lib.hid e;have hb7:nb 47=false:=by decide
         have Hb7:=Lib.hid hb7;clear e hb hb7;subst h47
         go_wp2_with (go_at_call 170;refine(jM _ _).mono ?_;rw[Hb7.out];rintro e w' ⟨rfl,rfl⟩)
         go_ret
         exact⟨by rw[HE.out];exact aJA oW,(Below.refl _ _).alloc (Bg _) _⟩
        ·have e:jX l=0:=by rw[HS.out];unfold scan;rw[hc,An (by rw[hb];decide),An oW]
         have HE:=Lib.hid e;obtain rfl:k=0:=by omega
         have hb7:nb 47=false:=by decide
         have Hb7:=Lib.hid hb7;clear e hb h0 hb7;subst h47
         go_wp2_with (go_at_call 170;refine(jM _ _).mono ?_;rw[Hb7.out];rintro e w' ⟨rfl,rfl⟩)
         go_ret
         exact⟨by rw[HE.out];rfl,(Below.refl _ _).alloc (Bg _) _⟩
       ·have e:jX l=0:=by rw[HS.out];unfold scan;rw[hc,An (by rw[hb];decide),An oW]
        have HE:=Lib.hid e;have hne:((c:Int)==47)=false:=by rw[Ai];omega
        clear e hb
        go_wp2_with (go_at_call 170;refine(jM _ _).mono ?_;rw[Hb.out];rintro e w' ⟨rfl,rfl⟩)
        go_ret
        exact⟨by rw[HE.out];rfl,(Below.refl _ _).alloc (Bg _) _⟩
      ·have e:jX l=scan (m.drop (k+1)) (k+1):=by
        rw[HS.out]
        conv=>lhs;unfold scan
        rw[hc,Ar hb]
       have HE:=Lib.hid e;have Hb:=Lib.hid hb;clear e hb
       go_wp2_with (go_at_call 170;refine(jM _ _).mono ?_;rw[Hb.out];rintro e w' ⟨rfl,rfl⟩)
       go_roundw
       case rel=>exact⟨k+1,by omega,rfl,HE.out⟩
       case measure=>simp;omega
     ·have hnx:∀ty,(Instr.next (.pointer (some ⟨w.heap.size,0,none⟩)) true ty).run Tryz.prog (w.iter (B m) k)=_:=fun ty=>run_next_any w (B m) k ty hB
      obtain⟨h1,h2⟩:=decode_high (B m) k hB (by rw[aQ0];omega);generalize Utf8.decode (B m) k=dd at hnx h1 h2;obtain⟨r,d⟩:=dd;have hnb:nb r=false:=by unfold nb;simp at h1 ⊢;omega
      have e:jX l=0:=by rw[HS.out];unfold scan;rw[An (by unfold nb;simp;omega),An oW]
      have HE:=Lib.hid e;have Hb:=Lib.hid hnb;have hne:((r:Int)==47)=false:=by rw[Ai];simp at h1;omega
      clear e hnb h1 h2
      go_wp2_with (go_at_call 170;refine(jM _ _).mono ?_;rw[Hb.out];rintro e w' ⟨rfl,rfl⟩)
      go_ret
      exact⟨by rw[HE.out];rfl,(Below.refl _ _).alloc (Bg _) _⟩
    ·have hnx:∀ty,(Instr.next (.pointer (some ⟨w.heap.size,0,none⟩)) true ty).run Tryz.prog (w.iter (B m) k)=_:=fun ty=>run_next_end w (B m) k ty (by rw[rE];exact hlt)
     have e:jX l=0:=by rw[hs,Cj oW];rfl
     have HE:=Lib.hid e;clear e hs
     go_wp2
     go_ret
     exact⟨by rw[HE.out];rfl,(Below.refl _ _).alloc (Bg _) _⟩
  ·go_wp2
   go_ret
   exact⟨by unfold jX;rw[An oW];rfl,Below.refl _ _⟩

theorem aJw : ∀ (l : List UInt8) (i : Nat), scan l i ≤ i + l.length + 2
 | [],i=>by simp[scan]
 |c::r,i=>by
  unfold scan;have:=aJw r (i+1);split
  ·simp at this ⊢;omega
  ·split<;>simp<;>omega
theorem aMe(l:List UInt8):jX l≤l.length:=by
 unfold jX;split
 ·rename_i h
  have a:=aCv h.1;have:=aJw (l.drop 2) 0;simp at this a;omega
 ·omega
def jA(c:UInt8):Bool:=decide (33≤c.toNat∧c.toNat≤126)
def oB(l:List UInt8):Bool:=l==[110,111,110,101]||(jX l !=0&&(l.drop (jX l)).all jA)
set_option maxRecDepth 100000 in
theorem aJ5(l:List UInt8)(w:World)(hl:l.length≤maxLen):Calls Tryz.prog 86 #[.string (B l)] w fun e w'=>e=.returned (.bool (oB l))∧Below w.heap.size w w':=by
  have hle:=aMe l;have hl0:=hl;unfold maxLen at hl
  go_enter Tryz.func86,Tryz.ntmps86
  cases hn:(l==[110,111,110,101])
  · have HN := Lib.hid hn
    go_wp2_with fail
    refine(aMd _ _ hl0).mono ?_;rintro e w1 ⟨rfl,hb⟩
    cases h0:((jX l:Int)==0)
    · have e : oB l = (l.drop (jX l)).all jA := by
        unfold oB;rw[HN.out];have:(jX l !=0)=true:=by rw[Cb];rw[Ai]at h0;omega
        simp[this]
      obtain⟨cap,w2,hconv,hcap,hb2,hz2,hc2,-⟩:=aCZ (P:=Tryz.prog) w1 9 160 5 (l.drop (jX l)) Tryz.underlying9 Tryz.underlying160 Tryz.underlying5;have hb3:Below w.heap.size w w2:=hb.trans (hb2.mono hb.size);have hm:(l.drop (jX l)).length≤9223372036854775807:=by simp;omega
      generalize jX l=n at *;generalize hmm:l.drop n=m at *;have htk:m.take (l.length-n)=m:=Bf (by rw[←hmm];simp);have HZ:=Lib.hid hz2;have HE:=Lib.hid e;have HC:=Lib.hid hc2;clear hz2 e hc2 hn
      go_wp2
      clear hmm htk
      go_loop [17] (fun i=>∃k:Nat,k≤m.length∧i=.int .i64 k∧m.all jA=(m.drop k).all jA) (fun i=>m.length-(intOf i).toNat)
      case atStart=>exact⟨0,Ap _,rfl,rfl⟩
      case round=>
        obtain⟨k,hk,rfl,hv⟩:=hrel;by_cases hlt:k<m.length
        · have hcell := HC.out k hlt
          rw[Bx hlt,Dm]at hv;have HV:=Lib.hid hv;clear hv
          go_wp2
          all_goals first
            |(go_ret;exact⟨qJ (by rw[HE.out,HV.out];simp[jA];omega),hb3⟩)
            | (go_round
               case rel=>exact⟨k+1,by omega,by go_num,by rw[HV.out];simp[jA];omega⟩
               case measure=>simp[intOf];omega)
        · go_wp2
          go_ret
          exact⟨qJ (by rw[HE.out,hv,Cj oW];simp),hb3⟩
    · have e : oB l = false := by
        unfold oB;rw[HN.out];rw[Cy]at h0;have:jX l=0:=by omega
        simp[this]
      have HE:=Lib.hid e;clear e
      go_wp2
      go_ret
      exact⟨by rw[HE.out];rfl,hb⟩
  · have e : oB l = true := by unfold oB; rw [hn]; rfl
    have HE:=Lib.hid e;clear e
    go_wp2
    go_ret
    exact⟨by rw[HE.out];rfl,Below.refl _ _⟩

def gE(s:Int)(l:List UInt8)(n v:Int):Bool:=
 if s=1 then decide (n=0∧v=0)&&oB l else if s=2 then decide (l=[]∧n≤4294967295∧v≤4294967295)else false
theorem aLg(s:Int)(l:List UInt8)(n v:Int)(w:World)(hl:l.length≤maxLen):Calls Tryz.prog 37 #[.agg #[.int .i64 s,.string (B l),.int .u64 n,.int .u64 v]] w fun e w'=>e=.returned (.bool (gE s l n v))∧Below w.heap.size w w':=by
 go_enter Tryz.func37,Tryz.ntmps37
 by_cases h1:s=1
 ·subst h1;have e:gE 1 l n v=(decide (n=0∧v=0)&&oB l):=rfl;have HE:=Lib.hid e;clear e;cases hn:(n==0)
  ·go_wp2
   go_ret
   exact⟨by rw[HE.out];rw[Ai]at hn;simp[hn],(Below.refl _ _).alloc (Bg _) _⟩
  ·cases hv:(v==0)
   ·go_wp2
    go_ret
    exact⟨by rw[HE.out];rw[Ai]at hv;simp[hv],(Below.refl _ _).alloc (Bg _) _⟩
   ·go_wp2_with (go_at_call 86;refine(aJ5 _ _ hl).mono ?_;rintro e w1 ⟨rfl,hb⟩)
    go_ret
    exact⟨by rw[HE.out];rw[Cy]at hn hv;simp[hn,hv],((Below.refl _ _).alloc (Bg _) _).trans (hb.mono (by simp))⟩
 ·by_cases h2:s=2
  ·subst h2
   go_wp2
   all_goals
    go_ret
    exact⟨qJ (by simp[gE, *];try omega),(Below.refl _ _).alloc (Bg _) _⟩
  ·go_wp2
   go_ret
   exact⟨by unfold gE;rw[An h1,An h2];rfl,(Below.refl _ _).alloc (Bg _) _⟩
theorem aMV(w:World):Calls Tryz.prog 223 #[] w fun e w'=>e=.returned (.agg #[.int .i64 1,.string (B [110,111,110,101]),.int .u64 0,.int .u64 0])∧Below w.heap.size w w':=by
 go_enter Tryz.func223,Tryz.ntmps223
 go_wp2
 exact bodyPost_ret (v:=.agg #[.int .i64 1,.string (B [110,111,110,101]),.int .u64 0,.int .u64 0]) (by simp[results,Tryz.results223,go_sem];rfl) rfl ⟨rfl,by((repeat' (with_reducible first|exact Below.refl _ _|assumption|refine Below.drew ?_|refine below_drewN ?_ _|refine Below.setCell ?_ ?_ _|refine Below.alloc ?_ ?_ _|refine Below.ext ?_ ?_ _|refine Below.trans ?_ (Below.mono ‹_› ?_)))<;>first|omega|(simp;done)|(simp;omega))⟩
end Go.Proofs.YtcdjakemdlinhaaGreatDoor.Eid
namespace Go.Proofs.YtcdjakemdlinhaaGreatDoor.Sx
open Go.ChangeShapes Go.WideShapes Go.ChangeAt Go.RowKit Go.Deep
def aI(e:Ei):Bool:=Eid.gE e.s e.l e.n e.v
theorem jF(e:Ei)(w:World)(h:e.l.length≤R47):CP 37 #[e.V] w (Ret (.bool (aI e)) w):=Eid.aLg _ _ _ _ w (by unfold R47 at h;unfold maxLen;omega)
def Ei.none:Ei:=⟨1,[110,111,110,101],0,0⟩
theorem oH(w:World):CP 223 #[] w (Ret Ei.none.V w):=Eid.aMV w
def big(n:Nat):Bool:=decide ((n:Int)>1099511627776)
def dM(p:Pr):Bool:= !big p.time&& !big p.seq&& !big p.life&& !big p.off&& !big p.tot&&aI p.dst&&aI p.src&&aI p.rpt&&decide (p.c≥0)&&decide (p.c≤2)&&decide ((p.f:Int)<2097152)
theorem aF1(p:Pr)(w:World)(h:p.ok):CP 222 #[p.V] w (Ret (.bool (dM p)) w):=by
 refine dI 52 Tryz.func222 ?_;refine zs (zr (aW (fun k=>(zq 1 (zn (zs (zB [0,1,0,1,0,1,0,1,0,1] [(k,1),(k,1),(k,1),(k,1),(k,1)] (aW (fun q=>(zq 2 (zn (aB (eY (α:=Nat) (fun x=>match x with|0=>[1,2,15,16,17].zip [(Pt k 0),(.bool false),(Sl q 0 5 5),(I6 5),(I6 0)]|1=>[1,2,15,16,17].zip [(Pt k 0),(.bool false),(Sl q 0 5 5),(I6 5),(I6 1)]|2=>[1,2,15,16,17].zip [(Pt k 0),(.bool false),(Sl q 0 5 5),(I6 5),(I6 2)]|3=>[1,2,15,16,17].zip [(Pt k 0),(.bool false),(Sl q 0 5 5),(I6 5),(I6 3)]|4=>[1,2,15,16,17].zip [(Pt k 0),(.bool false),(Sl q 0 5 5),(I6 5),(I6 4)]|_=>[1,2,15,16,17].zip [(Pt k 0),(.bool false),(Sl q 0 5 5),(I6 5),(I6 5)]) (fun _=>View.no) (fun x=>[(bK k p.cs 26),(bK q [(N6 p.time),(N6 p.seq),(N6 p.life),(N6 p.off),(N6 p.tot)] 22)]) (fun x=>x≤5∧(0<x→(decide ((p.time:Int)>1099511627776))=false)∧(1<x→(decide ((p.seq:Int)>1099511627776))=false)∧(2<x→(decide ((p.life:Int)>1099511627776))=false)∧(3<x→(decide ((p.off:Int)>1099511627776))=false)∧(4<x→(decide ((p.tot:Int)>1099511627776))=false)) (fun x=>5-x) 0 ⟨by omega,fun h=>absurd h oW,fun h=>absurd h oW,fun h=>absurd h oW,fun h=>absurd h oW,fun h=>absurd h oW⟩ ?_)))))))))))));rintro x ⟨X,a,c,d,f,g⟩;rcases(by omega:x=0∨x=1∨x=2∨x=3∨x=4∨x=5)with rfl|rfl|rfl|rfl|rfl|rfl
 ·refine zQ 1 (zn (zs (dP (zk (zs (aB (zB [0,2,0] [(q,1)] (zn (zQ 2 (zn (cE ((p.time:Int)>1099511627776) (fun C _=>?_) (fun C V=>?_))))))))))))
  ·refine zQ 1 (zn (aA (aO [2] [(.bool false)] (fun r j=>?_))));exact⟨by simp only[dC,dM,big,C,bs,bQ,reduceIte],j.below⟩
  ·refine zk (zr (zq 2 (zn ?_)));refine nx 1 ⟨by omega,fun _=>C,fun h=>absurd h oW,fun h=>absurd h oW,fun h=>absurd h oW,fun h=>absurd h oW⟩ (by show 5-1<5-0;omega)
 ·refine zQ 1 (zn (zs (dP (zk (zs (aB (zB [0,2,0] [(q,1)] (zn (zQ 2 (zn (cE ((p.seq:Int)>1099511627776) (fun D E=>?_) (fun D E=>?_))))))))))))
  ·refine zQ 1 (zn (aA (aO [2] [(.bool false)] (fun r j=>?_))));exact⟨by simp only[dC,dM,big,(a oW),D,bs,bQ,reduceIte],j.below⟩
  ·refine zk (zr (zq 2 (zn ?_)));refine nx 2 ⟨by omega,fun _=>a oW,fun _=>D,fun h=>absurd h oW,fun h=>absurd h oW,fun h=>absurd h oW⟩ (by show 5-2<5-1;omega)
 ·refine zQ 1 (zn (zs (dP (zk (zs (aB (zB [0,2,0] [(q,1)] (zn (zQ 2 (zn (cE ((p.life:Int)>1099511627776) (fun F G=>?_) (fun F G=>?_))))))))))))
  ·refine zQ 1 (zn (aA (aO [2] [(.bool false)] (fun r j=>?_))));exact⟨by simp only[dC,dM,big,(a oW),(c oW),F,bs,bQ,reduceIte],j.below⟩
  ·refine zk (zr (zq 2 (zn ?_)));refine nx 3 ⟨by omega,fun _=>a oW,fun _=>c oW,fun _=>F,fun h=>absurd h oW,fun h=>absurd h oW⟩ (by show 5-3<5-2;omega)
 ·refine zQ 1 (zn (zs (dP (zk (zs (aB (zB [0,2,0] [(q,1)] (zn (zQ 2 (zn (cE ((p.off:Int)>1099511627776) (fun I J=>?_) (fun I J=>?_))))))))))))
  ·refine zQ 1 (zn (aA (aO [2] [(.bool false)] (fun r j=>?_))));exact⟨by simp only[dC,dM,big,(a oW),(c oW),(d oW),I,bs,bQ,reduceIte],j.below⟩
  ·refine zk (zr (zq 2 (zn ?_)));refine nx 4 ⟨by omega,fun _=>a oW,fun _=>c oW,fun _=>d oW,fun _=>I,fun h=>absurd h oW⟩ (by show 5-4<5-3;omega)
 ·refine zQ 1 (zn (zs (dP (zk (zs (aB (zB [0,2,0] [(q,1)] (zn (zQ 2 (zn (cE ((p.tot:Int)>1099511627776) (fun K L=>?_) (fun K L=>?_))))))))))))
  ·refine zQ 1 (zn (aA (aO [2] [(.bool false)] (fun r j=>?_))));exact⟨by simp only[dC,dM,big,(a oW),(c oW),(d oW),(f oW),K,bs,bQ,reduceIte],j.below⟩
  ·refine zk (zr (zq 2 (zn ?_)));refine nx 5 ⟨by omega,fun _=>a oW,fun _=>c oW,fun _=>d oW,fun _=>f oW,fun _=>K⟩ (by show 5-5<5-4;omega)
 ·refine zQ 1 (zn (zs (dD (aK (zB [0,1] [(k,4)] (dK (fun W j=>jF p.dst W h.dst.l) (zq 1 (cN 27 (aI p.dst) (fun u=>?_) (fun u=>?_)))))))))
  ·refine cG [0,1] [(k,4)] (dK (fun W j=>jF p.src W h.src.l) (zq 2 (cN 32 (aI p.src) (fun y=>?_) (fun y=>?_))))
   ·refine cG [0,1] [(k,4)] (dK (fun W j=>jF p.rpt W h.rpt.l) (zq 2 (cN 37 (aI p.rpt) (fun A=>?_) (fun A=>?_))))
    ·refine cG [0,1,0,0,0] [(k,1)] (jV 42 (p.c≥0) (fun B M=>?_) (fun B M=>?_))
     ·refine cG [0,1,0,0,0] [(k,1)] (jV 47 (p.c≤2) (fun N O=>?_) (fun N O=>?_))
      ·refine cG [0,1,0,0,0] [(k,1)] (zn (aA (aO [2] [(.bool (decide ((p.f:Int)<2097152)))] (fun r j=>?_))));exact⟨by simp only[dC,dM,big,(a oW),(c oW),(d oW),(f oW),(g oW),u,y,A,B,N,bs,bQ,reduceIte],j.below⟩
      ·refine zq 5 (zn (aA (aO [2] [(.bool false)] (fun r j=>?_))));exact⟨by simp only[dC,dM,big,(a oW),(c oW),(d oW),(f oW),(g oW),u,y,A,B,N,bs,bQ,reduceIte],j.below⟩
     ·refine zq 10 (zn (aA (aO [2] [(.bool false)] (fun r j=>?_))));exact⟨by simp only[dC,dM,big,(a oW),(c oW),(d oW),(f oW),(g oW),u,y,A,B,bs,bQ,reduceIte],j.below⟩
    ·refine zq 15 (zn (aA (aO [2] [(.bool false)] (fun r j=>?_))));exact⟨by simp only[dC,dM,big,(a oW),(c oW),(d oW),(f oW),(g oW),u,y,A,bs,bQ,reduceIte],j.below⟩
   ·refine zq 20 (zn (aA (aO [2] [(.bool false)] (fun r j=>?_))));exact⟨by simp only[dC,dM,big,(a oW),(c oW),(d oW),(f oW),(g oW),u,y,bs,bQ,reduceIte],j.below⟩
  ·refine zq 25 (zn (aA (aO [2] [(.bool false)] (fun r j=>?_))));exact⟨by simp only[dC,dM,big,(a oW),(c oW),(d oW),(f oW),(g oW),u,bs,bQ,reduceIte],j.below⟩
def cF(p:Pr):Int:=
 if !dM p then 1
 else if(iY .u64 p.f 1 !=0)&&(iY .u64 p.f 4 !=0)then 8
 else if(!(iY .u64 p.f 1 !=0))&&(((p.off:Int) !=0)||((p.tot:Int) !=0))then 8
 else if(iY .u64 p.f 1 !=0)&&decide ((p.off:Int)≥(p.tot:Int))then 8
 else if decide (p.src.s=1∧p.src.l=[110,111,110,101]∧(p.src.n:Int)=0∧(p.src.v:Int)=0)&&((iY .u64 p.f 278528 !=0)||(iY .u64 p.f 4==0))then 8
 else if(iY .u64 p.f 278528 !=0)&&(iY .u64 p.f 2 !=0)then 8 else 0
theorem tX(p:Pr)(w:World)(h:p.ok):CP 191 #[p.V] w (Ret (.int .i64 (cF p)) w):=by
 refine dI 68 Tryz.func191 ?_;refine zs (zr (aW (fun k=>(zq 1 (zn (zs ?_))))));refine iM 0 [0,3,0,0,0,3,0,0,0] [(k,1),(k,1)] [] trivial ?_;refine zq 1 (zn (zs (aB (zB [1] [(k,19)] (dK (fun W a=>aF1 p W h) (zq 2 (zn (gN (!(dM p)) (fun f=>?_) (fun f=>?_)))))))))
 ·refine zQ 1 (zn (aA (aO [2] [(I6 1)] (fun g a=>?_))));exact⟨by simp only[dC,cF,f,bs,bQ,reduceIte],a.below⟩
 ·refine zQ 2 (cN 19 ((iY .u64 (p.f:Int) 1) !=0) (fun c=>?_) (fun c=>?_))
  ·refine cG [0,1,0,0,0,0] [(k,1)] (zn (gN ((iY .u64 (p.f:Int) 4) !=0) (fun u=>?_) (fun u=>?_)))
   ·refine zQ 1 (zn (aA (aO [2] [(I6 8)] (fun g a=>?_))));exact⟨by simp only[dC,cF,f,c,u,bs,bQ,reduceIte],a.below⟩
   ·refine zs (zQ 3 (dS 28 (.bool (!((iY .u64 (p.f:Int) 1) !=0))) (.bool false) (Ag Value.bool (by rw[c];rfl)) ?_));refine zq 10 (zn (dD (zr (zq 2 (dS 39 (.bool ((iY .u64 (p.f:Int) 1) !=0)) (.bool true) (Ag Value.bool c) ?_)))));refine cG [0,1,0,1,0,0,0] [(k,1),(k,1)] (zn (gN (decide ((p.off:Int)≥(p.tot:Int))) (fun y=>?_) (fun y=>?_)))
    ·refine zQ 1 (zn (aA (aO [2] [(I6 8)] (fun g a=>?_))));exact⟨by simp only[dC,cF,f,c,u,y,bs,bQ,reduceIte],a.below⟩
    ·refine zs ?_;refine iM 4 [0,3,1] [(k,4)] [.val (.agg #[(I6 1),(St [110,111,110,101]),(U6 0),(U6 0)])] ⟨?_,trivial⟩ ?_
     ·exact vC 223 #[] (fun W a=>oH W)
     refine cD (.bool (decide (p.src.s=1∧p.src.l=[110,111,110,101]∧(p.src.n:Int)=0∧(p.src.v:Int)=0))) (aGU _ _ _ rfl _ _ _ _ _ _ _ _ kR kR) ?_;refine zq 1 (cN 51 (decide (p.src.s=1∧p.src.l=[110,111,110,101]∧(p.src.n:Int)=0∧(p.src.v:Int)=0)) (fun C=>?_) (fun C=>?_))
     ·refine zq 2 (cN 53 ((iY .u64 (p.f:Int) 278528) !=0) (fun D=>?_) (fun D=>?_))
      ·refine zq 7 (zn (dP (zQ 1 (zn (aA (aO [2] [(I6 8)] (fun g a=>?_)))))));exact⟨by simp only[dC,cF,f,c,u,y,C,D,bs,bQ,reduceIte],a.below⟩
      ·refine cG [0,1,0,0,0,0,0] [(k,1)] (zn (gN ((iY .u64 (p.f:Int) 4)==0) (fun F=>?_) (fun F=>?_)))
       ·refine zQ 1 (zn (aA (aO [2] [(I6 8)] (fun g a=>?_))));exact⟨by simp only[dC,cF,f,c,u,y,C,D,F,bs,bQ,reduceIte],a.below⟩
       ·refine zQ 2 (dS 62 (.bool ((iY .u64 (p.f:Int) 278528) !=0)) (.bool false) (Ag Value.bool D) ?_);refine zq 6 (zn (dD (zk (zQ 1 (zn (aA (aO [2] [(I6 0)] (fun g a=>?_))))))));exact⟨by simp only[dC,cF,f,c,u,y,C,D,F,bs,bQ,reduceIte],a.below⟩
     ·refine zq 9 (zn (dD (zQ 2 (cN 62 ((iY .u64 (p.f:Int) 278528) !=0) (fun E=>?_) (fun E=>?_)))))
      ·refine cG [0,1,0,0,0,0] [(k,1)] (zn (gN ((iY .u64 (p.f:Int) 2) !=0) (fun G=>?_) (fun G=>?_)))
       ·refine zQ 1 (zn (aA (aO [2] [(I6 8)] (fun g a=>?_))));exact⟨by simp only[dC,cF,f,c,u,y,C,E,G,bs,bQ,reduceIte],a.below⟩
       ·refine zk (zQ 1 (zn (aA (aO [2] [(I6 0)] (fun g a=>?_)))));exact⟨by simp only[dC,cF,f,c,u,y,C,E,G,bs,bQ,reduceIte],a.below⟩
      ·refine zq 6 (zn (dD (zk (zQ 1 (zn (aA (aO [2] [(I6 0)] (fun g a=>?_))))))));exact⟨by simp only[dC,cF,f,c,u,y,C,E,bs,bQ,reduceIte],a.below⟩
  ·refine zq 6 (zn (dD (zs (zQ 3 (dS 28 (.bool (!((iY .u64 (p.f:Int) 1) !=0))) (.bool true) (Ag Value.bool (by rw[c];rfl)) ?_)))));refine cG [0,1,0,0] [(k,1)] (cN 32 ((p.off:Int) !=0) (fun x=>?_) (fun x=>?_))
   ·refine zq 6 (zn (dP (zk (dP (zQ 1 (zn (aA (aO [2] [(I6 8)] (fun g a=>?_)))))))));exact⟨by simp only[dC,cF,f,c,x,bs,bQ,reduceIte],a.below⟩
   ·refine cG [0,1,0,0,0,0] [(k,1)] (zn (gN ((p.tot:Int) !=0) (fun d=>?_) (fun d=>?_)))
    ·refine zk (iA ((p.tot:Int) !=0) d ?_);refine zQ 1 (zn (aA (aO [2] [(I6 8)] (fun g a=>?_))));exact⟨by simp only[dC,cF,f,c,d,x,bs,bQ,reduceIte],a.below⟩
    ·refine zr (zq 2 (dS 39 (.bool ((iY .u64 (p.f:Int) 1) !=0)) (.bool false) (Ag Value.bool c) ?_));refine zq 7 (zn (dD (zs ?_)));refine iM 4 [0,3,1] [(k,4)] [.val (.agg #[(I6 1),(St [110,111,110,101]),(U6 0),(U6 0)])] ⟨?_,trivial⟩ ?_
     ·exact vC 223 #[] (fun W a=>oH W)
     refine cD (.bool (decide (p.src.s=1∧p.src.l=[110,111,110,101]∧(p.src.n:Int)=0∧(p.src.v:Int)=0))) (aGU _ _ _ rfl _ _ _ _ _ _ _ _ kR kR) ?_;refine zq 1 (cN 51 (decide (p.src.s=1∧p.src.l=[110,111,110,101]∧(p.src.n:Int)=0∧(p.src.v:Int)=0)) (fun j=>?_) (fun j=>?_))
     ·refine zq 2 (cN 53 ((iY .u64 (p.f:Int) 278528) !=0) (fun q=>?_) (fun q=>?_))
      ·refine zq 7 (zn (dP (zQ 1 (zn (aA (aO [2] [(I6 8)] (fun g a=>?_)))))));exact⟨by simp only[dC,cF,f,c,d,j,q,x,bs,bQ,reduceIte],a.below⟩
      ·refine cG [0,1,0,0,0,0,0] [(k,1)] (zn (gN ((iY .u64 (p.f:Int) 4)==0) (fun A=>?_) (fun A=>?_)))
       ·refine zQ 1 (zn (aA (aO [2] [(I6 8)] (fun g a=>?_))));exact⟨by simp only[dC,cF,f,c,d,j,q,A,x,bs,bQ,reduceIte],a.below⟩
       ·refine zQ 2 (dS 62 (.bool ((iY .u64 (p.f:Int) 278528) !=0)) (.bool false) (Ag Value.bool q) ?_);refine zq 6 (zn (dD (zk (zQ 1 (zn (aA (aO [2] [(I6 0)] (fun g a=>?_))))))));exact⟨by simp only[dC,cF,f,c,d,j,q,A,x,bs,bQ,reduceIte],a.below⟩
     ·refine zq 9 (zn (dD (zQ 2 (cN 62 ((iY .u64 (p.f:Int) 278528) !=0) (fun r=>?_) (fun r=>?_)))))
      ·refine cG [0,1,0,0,0,0] [(k,1)] (zn (gN ((iY .u64 (p.f:Int) 2) !=0) (fun B=>?_) (fun B=>?_)))
       ·refine zQ 1 (zn (aA (aO [2] [(I6 8)] (fun g a=>?_))));exact⟨by simp only[dC,cF,f,c,d,j,r,B,x,bs,bQ,reduceIte],a.below⟩
       ·refine zk (zQ 1 (zn (aA (aO [2] [(I6 0)] (fun g a=>?_)))));exact⟨by simp only[dC,cF,f,c,d,j,r,B,x,bs,bQ,reduceIte],a.below⟩
      ·refine zq 6 (zn (dD (zk (zQ 1 (zn (aA (aO [2] [(I6 0)] (fun g a=>?_))))))));exact⟨by simp only[dC,cF,f,c,d,j,r,x,bs,bQ,reduceIte],a.below⟩
end Go.Proofs.YtcdjakemdlinhaaGreatDoor.Sx
namespace Go.Proofs.YtcdjakemdlinhaaGreatDoor.Itm
open Go.ChangeShapes Go.WideShapes Go.ChangeAt Go.RowKit
def mR : Nat → Tr → Nat
 |0,_=>1
 |m+1,t=>t.l.foldl (fun n x=>max n (mR m x)) 0+1
theorem aGg{f : Tr → Nat}{b : Nat}(a : ∀ x, f x ≤ b) : ∀ (l : List Tr) (n : Nat), n ≤ b → l.foldl (fun n x => max n (f x)) n ≤ b
 | [],n,h=>h
 |x::l,n,h=>by
  rw[Fz];exact aGg a l _ (by have:=a x;omega)
theorem aA3 : ∀ m t, mR m t ≤ m + 1
 |0,_=>Bg _
 |m+1,t=>by
  unfold mR;have:=aGg (aA3 m) t.l 0 oW;omega
theorem aKF{f:Tr→Nat}(l:List Tr)(i:Nat)(x:Tr)(h:l[i]? =some x):(l.take (i+1)).foldl (fun n x=>max n (f x)) 0=max ((l.take i).foldl (fun n x=>max n (f x)) 0) (f x):=by
 rw[Ci,h,List.foldl_append];rfl
theorem aMu:(Tryz.prog.info? 89).map (·.size)=some 5:=by kernel_rfl
theorem qV{w:World}{t:Tr}{cs:List Value}(h:TAt w t cs):∃(a:Option Addr) (c:Nat) (C:Nat→List Value),cs=[.int .i64 t.k,.int .u64 t.n,.string (B t.s),.slice a t.l.length c,.bool t.o]∧t.n<W64∧t.s.length≤R47∧t.l.length≤R47∧
  (∀i x,t.l[i]? =some x→∃b f,a=some ⟨b,f,none⟩∧b<w.heap.size∧w.rangeAt b (f+i*5) (C i)∧TAt w x (C i)∧(C i).length=5):=by
 obtain⟨a,c,C,rfl,y,D,u,g,d⟩:=h.form;refine⟨a,c,C,rfl,y,D,u,fun i x k=>?_⟩;obtain⟨b,f,q,j,A⟩:=g i (Af.1 k).1;refine⟨b,f,q,j,A,d i x k,?_⟩;obtain⟨_,_,_,r,_⟩:=(d i x k).form;rw[r];rfl
set_option maxHeartbeats 1600000 in
set_option maxRecDepth 100000 in
theorem aMX:∀(m:Nat),m≤9→∀(t:Tr) (cs:List Value) (w:World),TAt w t cs→
  Calls Tryz.prog 226 #[.agg cs.toArray,.int .i64 m] w fun e w'=>e=.returned (.int .i64 (mR m t))∧Below w.heap.size w w':=by
 intro m
 induction m with
 |zero=>
  intro _ t cs w h;obtain⟨a,c,C,rfl,_⟩:=qV h;clear h
  go_enter Tryz.func226,Tryz.ntmps226
  go_wp2
  go_ret
  exact⟨rfl,by((repeat' (with_reducible first|exact Below.refl _ _|assumption|refine Below.drew ?_|refine below_drewN ?_ _|refine Below.setCell ?_ ?_ _|refine Below.alloc ?_ ?_ _|refine Below.ext ?_ ?_ _|refine Below.trans ?_ (Below.mono ‹_› ?_)))<;>first|omega|(simp;done)|(simp;omega))⟩
 |succ m ih=>
  intro hm t cs w h;obtain⟨a,c,C,rfl,_,_,hll,hel⟩:=qV h;obtain⟨n,hn⟩:∃n,t.l.length=n:=⟨_,rfl⟩;rw[hn]at hll;rw[hn];have HN:=Lib.hid hn;have HEL:=Lib.hid hel;obtain⟨z,hz⟩:∃z:Int,((m+1:Nat):Int)=z:=⟨_,rfl⟩;have hzm:z-1=(m:Int):=by omega
  have hz1:1≤z:=by omega
  have hz9:z≤9:=by omega
  have IH:=Lib.hid (ih oW);rw[←hzm]at IH;rw[hz];clear hz hzm;have hml:n≤9223372036854775807:=by unfold R47 at hll;omega
  have hm9:m<9:=by omega
  have HB:=Lib.hid fun l=>aGg (aA3 m) l 0 oW
  have HD:Hid (mR (m+1) t=t.l.foldl (fun n x=>max n (mR m x)) 0+1):=Lib.hid rfl;generalize mR (m+1) t=dd at *;generalize t.k=tk at *;generalize t.n=tn at *;generalize t.s=ts at *;generalize t.o=tob at *;clear hn hel ih h hll
  go_enter Tryz.func226,Tryz.ntmps226
  go_wp2_with fail
  obtain⟨w1,hw1⟩:∃w1,w.alloc (.cells #[.int .i64 tk,.int .u64 tn,.string (B ts),.slice a n c,.bool tob] 89)=w1:=⟨_,rfl⟩;have gS:w1.heap.size=w.heap.size+1:=by rw[←hw1];show(w.heap.push _).size=_;simp
  have gb:Below w.heap.size w w1:=by rw[←hw1];exact(Below.refl _ _).alloc (Bg _) _
  have g3:w1.cell? ⟨w.heap.size,3,none⟩=some (.slice a n c):=by rw[←hw1,cell_of_row _ _ _ _ _ _ (heap_alloc_last w _)];rfl
  rw[hw1];clear hw1;have G3:=Lib.hid g3;have GB:=Lib.hid gb;clear g3 gb
  go_loopw [5,6] (fun s5 s6 wr=>∃i:Nat,i≤n∧s6=.int .i64 (i:Int)∧s5=.int .i64 ((t.l.take i).foldl (fun n x=>max n (mR m x)) 0:Nat)∧Below w1.heap.size w1 wr) (fun _ s _=>n-(intOf s).toNat)
  case atStart=>exact⟨0,by omega,rfl,rfl,Below.refl _ _⟩
  case round=>
   obtain⟨i,hi,rfl,rfl,hb⟩:=hrel;have hlt0:w.heap.size<w1.heap.size:=by omega
   have c3:wr.cell? ⟨w.heap.size,3,none⟩=some (.slice a n c):=by rw[hb.cell (p:=⟨w.heap.size,3,none⟩) hlt0];exact G3.out
   have hf:=HB.out (t.l.take i);have HE:=Lib.hid (GB.out.trans (hb.mono oW));by_cases hend:i=n
   ·have hlt:¬(i:Int)<(n:Int):=by omega
    have hq:(t.l.take i).foldl (fun n x=>max n (mR m x)) 0=t.l.foldl (fun n x=>max n (mR m x)) 0:=by rw[hend,←HN.out,Ey]
    rw[hq]at hf ⊢;have hd:=HD.out;generalize t.l.foldl (fun n x=>max n (mR m x)) 0=q at *;subst hd;clear hend hb hq
    go_wp2
    go_ret
    exact⟨aJA (by simp),HE.out⟩
   ·have hlt:(i:Int)<(n:Int):=by omega
    obtain⟨x,hx⟩:∃x,t.l[i]? =some x:=⟨t.l[i]'(by rw[HN.out];omega),Aa (by rw[HN.out];omega)⟩;obtain⟨b,f,rfl,hbl,hra,hta,hc5⟩:=HEL.out i x hx;have HNX:=Lib.hid (aKF (f:=mR m) t.l i x hx);have hb1:Below w.heap.size w wr:=HE.out;have HRA:=Lib.hid (oV hra hb1 hbl);have HC:=Lib.hid (IH.out x (C i) wr (hta.keep hb1 (Bg _)));have hdl:=aA3 m x;have HC5:=Lib.hid hc5;have HB1:=Lib.hid hb;have hbs:=hb.size;clear hend hx hra hta hb1 hc5 hb;generalize (t.l.take i).foldl (fun n x=>max n (mR m x)) 0=q at *
    go_wp2_with (with_reducible refine sG 89 rfl ?_)
    refine aDB 89 (.tmp 20) rfl rfl (some 21) rfl b (f+i*5) rfl (C i).toArray HRA.out _ Tryz.underlying89 rfl (by rw[List.size_toArray,HC5.out];exact aMu) ?_
    go_wp2_with fail
    refine HC.out.mono ?_;rintro e w2 ⟨rfl,hb2⟩;have HW:=Lib.hid (HB1.out.trans (hb2.mono hbs));clear hb2 HB1 HC;generalize mR m x=d at *;have hqd:q≤100:=by omega
    have hdd:d≤100:=by omega
    go_wp2
    go_round
    case rel=>exact⟨i+1,by omega,by go_num,by rw[HNX.out];go_num,HW.out⟩
    case measure=>simp[intOf];omega
mutual
def szT : Tr → Nat
 | .mk _ _ s l _=>1+s.length+szL l
def szL : List Tr → Nat
 | []=>0
 |t::ts=>szT t+szL ts
end
theorem qH : ∀ a b, szL (a ++ b) = szL a + szL b
 | [],b=>by simp[szL]
 |x::a,b=>by rw[Cv,szL,szL,qH a b];omega
theorem aLA{l:List Tr}{i:Nat}{x:Tr}(h:l[i]? =some x):szL (l.take (i+1))=szL (l.take i)+szT x:=by
 rw[Ci,h,qH];simp[szL]
def okN(k:Int)(n:Nat)(s:List UInt8)(len:Nat)(o:Bool):Bool:=
 if k=0 then decide (s=[])&&decide (len=0)&& !o
 else if k=2∨k=3 then decide (n=0)&&decide (len=0)&& !o
 else if k=4 then decide (n=0)&&decide (s=[])&&decide (len≤1000)
 else false
theorem lG{k:Int}{n:Nat}{s:List UInt8}{a:Nat}{o:Bool}(h:okN k n s a o=true):
  (k=0∧s=[]∧a=0∧o=false)∨(k=2∧n=0∧a=0∧o=false)∨(k=3∧n=0∧a=0∧o=false)∨(k=4∧n=0∧s=[]∧a≤1000):=by
 unfold okN at h;split at h
 ·next d=>simp at h;exact .inl ⟨d,h.1.1,h.1.2,h.2⟩
 ·split at h
  ·next d c=>
   simp at h;rcases c with c|c
   ·exact .inr (.inl ⟨c,h.1.1,h.1.2,h.2⟩)
   ·exact .inr (.inr (.inl ⟨c,h.1.1,h.1.2,h.2⟩))
  ·split at h
   ·next d c f=>simp at h;exact .inr (.inr (.inr ⟨f,h.1.1,h.1.2,h.2⟩))
   ·cases h
mutual
def jI : Tr → Bool
 | .mk k n s l o=>okN k n s l.length o&&aEA l
def aEA : List Tr → Bool
 | []=>true
 |t::ts=>jI t&&aEA ts
end
theorem aEz : ∀ l : List Tr, aEA l = l.all jI
 | []=>by simp[aEA]
 |t::ts=>by rw[aEA,Dm,aEz ts]
theorem aBs(t:Tr):jI t=(okN t.k t.n t.s t.l.length t.o&&t.l.all jI):=by
 obtain⟨k,n,s,l,o⟩:=t;rw[jI,aEz];rfl
def aJ : Nat → Tr → Bool
 |0,_=>false
 |d+1,t=>okN t.k t.n t.s t.l.length t.o&&t.l.all (aJ d)
theorem aKG{f : Tr → Nat}{b : Nat} : ∀ (l : List Tr) (n : Nat), l.foldl (fun n x => max n (f x)) n ≤ b ↔ n ≤ b ∧ ∀ x ∈ l, f x ≤ b
 | [],n=>by simp
 |x::l,n=>by
  rw[Fz,aKG l];simp only[Bh,forall_eq_or_imp];constructor
  ·intro⟨c,a⟩;exact⟨by omega,by omega,a⟩
  ·intro⟨c,a,d⟩;exact⟨by omega,d⟩
theorem sI : ∀ d t, aJ d t = (decide (mR (d + 1) t ≤ d) && jI t)
 |0,t=>by
  have:¬mR 1 t≤0:=by unfold mR;omega
  rw[Ba this];rfl
 |d+1,t=>by
  rw[aBs t];have h:mR (d+2) t≤d+1↔∀x∈t.l,mR (d+1) x≤d:=by
   show t.l.foldl (fun n x=>max n (mR (d+1) x)) 0+1≤d+1↔_;rw[Nat.add_le_add_iff_right,aKG];simp
  rw[Db];simp only[aJ,Ae,Ao,Ak,h];constructor
  ·intro⟨f,g⟩;have c:=fun x a=>by have:=g x a;rw[sI d x,Ae,Ak]at this;exact this
   exact⟨fun x a=>(c x a).1,f,fun x a=>(c x a).2⟩
  ·intro⟨f,g,c⟩;exact⟨g,fun x a=>by rw[sI d x,Ae,Ak];exact⟨f x a,c x a⟩⟩
theorem aMN{f:Tr→Bool}{l:List Tr}{i:Nat}{x:Tr}(h:l[i]? =some x)(c:(l.take i).all f=true):(f x=true→(l.take (i+1)).all f=true)∧(f x=false→l.all f=false):=by
 constructor
 ·intro a;rw[Ci,h,Fo,c];simp[a]
 ·intro a;rw[List.all_eq_false];exact⟨x,Ad h,by simp[a]⟩
set_option maxHeartbeats 3200000 in
set_option maxRecDepth 100000 in
theorem aJO{w0:World}{t:Tr}{cs:List Value}(h:TAt w0 t cs):∀(w:World),Below w0.heap.size w0 w→
  Calls Tryz.prog 227 #[.agg cs.toArray] w fun e w'=>e=.returned (.bool (jI t))∧Below w.heap.size w w':=by
 induction h with
 |mk k tn s l o a c C hn hs hl hat hel ih=>
  intro w hbw;obtain⟨n,hln⟩:∃n,l.length=n:=⟨_,rfl⟩;have hp:jI (.mk k tn s l o)=(okN k tn s n o&&l.all jI):=by rw[←hln];exact aBs _
  have HN:=Lib.hid hln;have HAT:=Lib.hid hat;have IH:=Lib.hid ih;have HEL:=Lib.hid hel;have HP:=Lib.hid hp;rw[hln]at hl;rw[hln];generalize jI (.mk k tn s l o)=pb at *;have hml:n≤9223372036854775807:=by unfold R47 at hl;omega
  have HBW:=Lib.hid hbw;have HTN:=Lib.hid hn;clear hln hat ih hel hl hs hbw hp hn;obtain⟨w1,hw1⟩:∃w1,w.alloc (.cells #[.int .i64 k,.int .u64 tn,.string (B s),.slice a n c,.bool o] 89)=w1:=⟨_,rfl⟩;have gS:w1.heap.size=w.heap.size+1:=by rw[←hw1];show(w.heap.push _).size=_;simp
  have gb:Below w.heap.size w w1:=by rw[←hw1];exact(Below.refl _ _).alloc (Bg _) _
  have g0:w1.cell? ⟨w.heap.size,0,none⟩=some (.int .i64 k):=by rw[←hw1,cell_of_row _ _ _ _ _ _ (heap_alloc_last w _)];rfl
  have g1:w1.cell? ⟨w.heap.size,1,none⟩=some (.int .u64 tn):=by rw[←hw1,cell_of_row _ _ _ _ _ _ (heap_alloc_last w _)];rfl
  have g2:w1.cell? ⟨w.heap.size,2,none⟩=some (.string (B s)):=by rw[←hw1,cell_of_row _ _ _ _ _ _ (heap_alloc_last w _)];rfl
  have g3:w1.cell? ⟨w.heap.size,3,none⟩=some (.slice a n c):=by rw[←hw1,cell_of_row _ _ _ _ _ _ (heap_alloc_last w _)];rfl
  have g4:w1.cell? ⟨w.heap.size,4,none⟩=some (.bool o):=by rw[←hw1,cell_of_row _ _ _ _ _ _ (heap_alloc_last w _)];rfl
  have G3:=Lib.hid g3;have GB:=Lib.hid gb;clear gb;cases hok:okN k tn s n o with
  |false=>
   have HOK:=Lib.hid hok;have hpf:pb=false:=by rw[HP.out,hok];rfl
   subst hpf;clear hok HP
   go_enter Tryz.func227,Tryz.ntmps227
   go_upto_region 1 with fail
   clear hw1
   go_wp2_with fail
   all_goals first
    |(go_ret;exact⟨rfl,GB.out⟩)
    |(exfalso;have:=HOK.out;simp_all [okN];done)
    |(exfalso;have h8:=HOK.out;rw[‹k=4›,‹tn=0›,‹s=[]›]at h8;simp[okN]at h8;omega)
  |true=>
   go_enter Tryz.func227,Tryz.ntmps227
   go_upto_region 1 with fail
   clear hw1;rcases lG hok with⟨rfl,rfl,rfl,rfl⟩|⟨rfl,rfl,rfl,rfl⟩|⟨rfl,rfl,rfl,rfl⟩|⟨rfl,rfl,rfl,hle⟩
   ·have hpt:pb=true:=by
     have h0:l=[]:=Be.1 HN.out;rw[HP.out,hok,h0];rfl
    subst hpt;clear hok HP
    go_wp2_with fail
    all_goals
     go_loopw [5] (fun s5 wr=>∃i:Nat,s5=.int .i64 (i:Int)∧Hid (i=0)∧Below w1.heap.size w1 wr) (fun _ _=>0)
     case atStart=>exact⟨0,rfl,Lib.hid rfl,Below.refl _ _⟩
     case round=>
      obtain⟨i,rfl,hi0,hbr⟩:=hrel;obtain rfl:i=0:=hi0.out;have hlt0:w.heap.size<w1.heap.size:=by omega
      have c3:wr.cell? ⟨w.heap.size,3,none⟩=some (.slice a 0 c):=by rw[hbr.cell (p:=⟨w.heap.size,3,none⟩) hlt0];exact G3.out
      have HE:=Lib.hid (GB.out.trans (hbr.mono oW));clear hbr
      go_wp2
      go_ret
      exact⟨rfl,HE.out⟩
   ·have hpt:pb=true:=by
     have h0:l=[]:=Be.1 HN.out;rw[HP.out,hok,h0];rfl
    subst hpt;clear hok HP
    go_wp2_with fail
    all_goals
     go_loopw [5] (fun s5 wr=>∃i:Nat,s5=.int .i64 (i:Int)∧Hid (i=0)∧Below w1.heap.size w1 wr) (fun _ _=>0)
     case atStart=>exact⟨0,rfl,Lib.hid rfl,Below.refl _ _⟩
     case round=>
      obtain⟨i,rfl,hi0,hbr⟩:=hrel;obtain rfl:i=0:=hi0.out;have hlt0:w.heap.size<w1.heap.size:=by omega
      have c3:wr.cell? ⟨w.heap.size,3,none⟩=some (.slice a 0 c):=by rw[hbr.cell (p:=⟨w.heap.size,3,none⟩) hlt0];exact G3.out
      have HE:=Lib.hid (GB.out.trans (hbr.mono oW));clear hbr
      go_wp2
      go_ret
      exact⟨rfl,HE.out⟩
   ·have hpt:pb=true:=by
     have h0:l=[]:=Be.1 HN.out;rw[HP.out,hok,h0];rfl
    subst hpt;clear hok HP
    go_wp2_with fail
    all_goals
     go_loopw [5] (fun s5 wr=>∃i:Nat,s5=.int .i64 (i:Int)∧Hid (i=0)∧Below w1.heap.size w1 wr) (fun _ _=>0)
     case atStart=>exact⟨0,rfl,Lib.hid rfl,Below.refl _ _⟩
     case round=>
      obtain⟨i,rfl,hi0,hbr⟩:=hrel;obtain rfl:i=0:=hi0.out;have hlt0:w.heap.size<w1.heap.size:=by omega
      have c3:wr.cell? ⟨w.heap.size,3,none⟩=some (.slice a 0 c):=by rw[hbr.cell (p:=⟨w.heap.size,3,none⟩) hlt0];exact G3.out
      have HE:=Lib.hid (GB.out.trans (hbr.mono oW));clear hbr
      go_wp2
      go_ret
      exact⟨rfl,HE.out⟩
   ·have hpt:pb=l.all jI:=by rw[HP.out,hok];rfl
    have HPT:=Lib.hid hpt;clear hok HP hpt;have hle2:(n:Int)≤1000:=by omega
    go_upto_region 3 with fail
    go_cut [0,66]from 17 to 65 (fun s0 s66 wc=>s66=.bool false∧wc=w1)
    case first=>
     cases o<;>cases hpos:decide ((0:Int)<(n:Int))
     all_goals go_wp2
     all_goals go_meet
     all_goals exact⟨by first|rfl|rw[Ba oW],rfl⟩
    case rest=>
     obtain⟨rfl,rfl⟩:=hcut;clear g0 g1 g2 g3 g4
     go_wp2_with fail
     go_loopw [5] (fun s5 wr=>∃i:Nat,i≤n∧s5=.int .i64 (i:Int)∧Hid ((l.take i).all jI=true)∧Below wc.heap.size wc wr) (fun s _=>n-(intOf s).toNat)
     case atStart=>exact⟨0,by omega,rfl,Lib.hid (by simp),Below.refl _ _⟩
     case round=>
      obtain⟨i,hi,rfl,hal,hb⟩:=hrel;have hlt0:w.heap.size<wc.heap.size:=by omega
      have c3:wr.cell? ⟨w.heap.size,3,none⟩=some (.slice a n c):=by rw[hb.cell (p:=⟨w.heap.size,3,none⟩) hlt0];exact G3.out
      have HE:=Lib.hid (GB.out.trans (hb.mono oW));by_cases hend:i=n
      ·have hlt:¬(i:Int)<(n:Int):=by omega
       have hfin:=hal.out;rw[hend,←HN.out,Ey]at hfin;have HFIN:=Lib.hid (HPT.out.trans hfin);clear hend hb hfin
       go_wp2
       go_ret
       exact⟨by rw[HFIN.out];rfl,HE.out⟩
      ·have hlt:(i:Int)<(n:Int):=by omega
       obtain⟨x,hx⟩:∃x,l[i]? =some x:=⟨l[i]'(by rw[HN.out];omega),Aa (by rw[HN.out];omega)⟩;obtain⟨b,f,rfl,hbl,hra⟩:=HAT.out i (by rw[HN.out];omega);have hb0:Below w0.heap.size w0 wr:=HBW.out.trans (HE.out.mono HBW.out.size);have HRA:=Lib.hid (oV hra hb0 hbl);have hc5:(C i).length=5:=by obtain⟨_,_,_,he,_⟩:=(HEL.out i x hx).form;rw[he];rfl
       have HC:=Lib.hid (IH.out i x hx wr hb0);have HC5:=Lib.hid hc5;have HB1:=Lib.hid hb;have hbs:=hb.size;have HAT2:=Lib.hid (aMN hx hal.out);clear hend hx hra hb0 hc5 hb hal;generalize jI x=px at *
       go_wp2_with (with_reducible refine sG 89 rfl ?_)
       refine aDB 89 (.tmp 77) rfl rfl (some 78) rfl b (f+i*5) rfl (C i).toArray HRA.out _ Tryz.underlying89 rfl (by rw[List.size_toArray,HC5.out];exact aMu) ?_
       go_wp2_with fail
       refine HC.out.mono ?_;rintro e w2 ⟨rfl,hb2⟩;have HW:=Lib.hid (HB1.out.trans (hb2.mono hbs));have HWE:=Lib.hid (HE.out.trans (hb2.mono HE.out.size));clear hb2 HB1 HC;cases px with
       |true=>
        have HA:=Lib.hid (HAT2.out.1 rfl)
        go_wp2
        go_round
        case rel=>exact⟨i+1,by omega,by go_num,HA,HW.out⟩
        case measure=>simp[intOf];omega
       |false=>
        have HA:=Lib.hid (HPT.out.trans (HAT2.out.2 rfl))
        go_wp2
        go_ret
        exact⟨by rw[HA.out];rfl,HWE.out⟩
set_option maxHeartbeats 1600000 in
set_option maxRecDepth 100000 in
theorem rL(t:Tr)(cs:List Value)(w:World)(h:TAt w t cs):Calls Tryz.prog 199 #[.agg cs.toArray] w fun e w'=>e=.returned (.bool (aJ 8 t))∧Below w.heap.size w w':=by
 have HD:=Lib.hid fun(W:World) (k:Below w.heap.size w W)=>aMX 9 oW t cs W (h.keep k (Bg _))
 have HC:=Lib.hid fun(W:World) (k:Below w.heap.size w W)=>aJO h W k
 have B:=aA3 9 t;have r:cs.toArray.size=5:=by obtain⟨_,_,_,A,_⟩:=h.form;rw[A];rfl
 rw[sI 8 t];generalize mR 9 t=d at *;generalize jI t=u at *;generalize cs.toArray=X at *;obtain⟨g,hrb⟩:∃g,(decide (d≤8)&&u)=g:=⟨_,rfl⟩;rw[hrb];have HRB:=Lib.hid hrb;have H5:=Lib.hid r;clear h r hrb
 go_enter Tryz.func199,Tryz.ntmps199
 go_wp2_with (with_reducible refine sG 89 rfl ?_)
 have q:Below w.heap.size w (w.alloc (.cells X 89)):=(Below.refl _ _).alloc (Bg _) _;have j:=heap_alloc_last w (.cells X 89);have x:w.heap.size<(w.alloc (.cells X 89)).heap.size:=aIj;refine aDB 89 (.tmp 1) rfl rfl (some 3) rfl w.heap.size 0 rfl X (aBn j) _ Tryz.underlying89 rfl (by rw[H5.out];exact aMu) ?_;have GB:=Lib.hid q;have GH:=Lib.hid j;clear q j;generalize w.alloc (.cells X 89)=C at *
 go_wp2_with fail
 refine(HD.out _ GB.out).mono ?_;rintro e D ⟨rfl,a⟩;have G2:=Lib.hid (GB.out.trans (a.mono GB.out.size));have GH2:=Lib.hid (aIt a x GH.out);clear a GB GH HD;by_cases y:(d:Int)≤8
 ·have c:g=u:=by rw[←HRB.out,Cc oW];rfl
  subst c
  go_wp2_with (with_reducible refine sG 89 rfl ?_)
  refine aIk 89 (.tmp 1) rfl rfl (some 7) rfl w.heap.size 0 rfl X (aBn GH2.out) _ Tryz.underlying89 rfl (by rw[H5.out];exact aMu) ?_
  go_wp2_with fail
  refine(HC.out _ G2.out).mono ?_;rintro e E ⟨rfl,f⟩;have G3:=Lib.hid (G2.out.trans (f.mono G2.out.size));clear f
  go_wp2
  go_ret
  exact⟨rfl,G3.out⟩
 ·have c:g=false:=by rw[←HRB.out,Ba oW];rfl
  subst c
  go_wp2
  go_ret
  exact⟨rfl,G2.out⟩
end Go.Proofs.YtcdjakemdlinhaaGreatDoor.Itm
namespace Go.Proofs.YtcdjakemdlinhaaGreatDoor.Itm
open Go.ChangeShapes Go.WideShapes Go.ChangeAt Go.RowKit Go.Deep
section
variable {P:Program} {ops:Array Oper} {Q:Exit→Act→World→Prop} {md:Region.Mode} {S:World→Prop}
end
def dg(n : Nat) : Nat → List UInt8
 |0=>[]
 |i+1=>UInt8.ofNat (n/256^i)::dg n i
theorem eW(n : Nat) : ∀ i, (dg n i).length = i
 |0=>rfl
 |i+1=>by rw[dg,Ah,eW n i]
def aE(m n:Nat):List UInt8:=
 if n<24 then[UInt8.ofNat (32*m+n)]
 else if n<256 then UInt8.ofNat (32*m+24)::dg n 1
 else if n<65536 then UInt8.ofNat (32*m+25)::dg n 2
 else if n<4294967296 then UInt8.ofNat (32*m+26)::dg n 4
 else UInt8.ofNat (32*m+27)::dg n 8
theorem aD(m n:Nat):1≤(aE m n).length∧(aE m n).length≤9:=by
 unfold aE
 repeat' split
 all_goals simp[eW]
mutual
def aG : Tr → List UInt8
 | .mk k n s l o=>if k=0 then aE 0 n else if k<4 then aE k.toNat s.length++s else(if o then[159]else aE 4 l.length)++(aY l++(if o then[255]else[]))
def aY : List Tr → List UInt8
 | []=>[]
 |t::ts=>aG t++aY ts
end
theorem pH : ∀ a b, aY (a ++ b) = aY a ++ aY b
 | [],b=>by simp[aY]
 |x::a,b=>by rw[Cv,aY,aY,pH a b,Al]
theorem aGt{l:List Tr}{i:Nat}{x:Tr}(h:l[i]? =some x):aY (l.take (i+1))=aY (l.take i)++aG x:=by
 rw[Ci,h,pH];simp[aY]
mutual
theorem cI : ∀ t : Tr, (aG t).length ≤ 10 * szT t
 | .mk k n s l o=>by
  have a:=(aD 0 n).2;have c:=(aD k.toNat s.length).2;have d:=(aD 4 l.length).2;have f:=qU l;rw[aG,szT];split
  ·omega
  ·split
   ·simp;omega
   ·cases o<;>simp<;>omega
theorem qU : ∀ l : List Tr, (aY l).length ≤ 10 * szL l
 | []=>by simp[aY]
 |t::ts=>by
  have a:=cI t;have c:=qU ts;rw[aY,szL,Ac];omega
end
theorem aFp{l:List Tr}(i:Nat):szL (l.take i)≤szL l:=by
 have h:=qH (l.take i) (l.drop i);rw[Cn]at h;omega
theorem aJa{l:List Tr}{i:Nat}{x:Tr}(h:l[i]? =some x):szT x≤szL l:=by
 have a:=aLA h;have c:=aFp (l:=l) (i+1);omega
end Go.Proofs.YtcdjakemdlinhaaGreatDoor.Itm
namespace Go.Proofs.YtcdjakemdlinhaaGreatDoor.Eid
open Go.ChangeShapes Go.WideShapes Go.ChangeAt Go.RowKit


def sl : List UInt8 → Nat → Nat
 | [],_=>0
 |c::r,i=>if c.toNat=47 then i else sl r (i+1)
theorem aLf(l:List UInt8)(w:World)(hl:l.length≤maxLen):Calls Tryz.prog 157 #[.string (B l)] w fun e w'=>e=.returned (.int .i64 (sl (l.drop 2) 2))∧w=w':=by
 unfold maxLen at hl;generalize hS:sl (l.drop 2) 2=S;have HS:=Lib.hid hS;clear hS
 go_enter Tryz.func157,Tryz.ntmps157
 go_wp2
 go_loop [3] (fun i=>∃k:Nat,2≤k∧i=.int .i64 k∧S=sl (l.drop k) k) (fun i=>l.length-(intOf i).toNat)
 case atStart=>exact⟨2,Bg _,rfl,HS.out.symm⟩
 case round=>
  obtain⟨k,hk,rfl,hv⟩:=hrel;by_cases hlt:k<l.length
  ·rw[Bx hlt]at hv;have HV:=Lib.hid hv;clear hv;cases h47:((l[k].toNat:Int)==47)
   ·have e:S=sl (l.drop (k+1)) (k+1):=by
     rw[HV.out]
     conv=>lhs;unfold sl
     rw[An (by rw[Ai]at h47;omega)]
    have HE:=Lib.hid e;clear e
    go_wp2
    go_round
    case rel=>exact⟨k+1,by omega,by go_num,HE.out⟩
    case measure=>simp[intOf];omega
   ·have e:S=k:=by
     rw[HV.out];unfold sl;rw[Ar (by rw[Cy]at h47;omega)]
    have HE:=Lib.hid e;clear e
    go_wp2
    go_ret
    exact⟨by rw[HE.out];rfl,rfl⟩
  ·have e:S=0:=by rw[hv,Cj oW];rfl
   have HE:=Lib.hid e;clear e hv
   go_wp2
   go_ret
   exact⟨by rw[HE.out];rfl,rfl⟩

def aDC:List UInt8:=[97,98,99,100,101,102,103,104,105,106,107,108,109,110,111,112,113,114,115,116,117,118,119,120,121,122,48,49,50,51,52,53,54,55,56,57,45,46]
theorem aF8:∀c:Fin 256,aDC.any (fun d=>d.toNat==c.val)=nb c.val:=by decide +kernel
theorem aCI(c:UInt8)(w:World):Calls Tryz.prog 158 #[.int .u8 c.toNat] w fun e w'=>e=.returned (.bool (nb c.toNat))∧w=w':=by
 have hc:=aF8 ⟨c.toNat,c.toNat_lt⟩;simp only at hc;have hB:(⟨#[97,98,99,100,101,102,103,104,105,106,107,108,109,110,111,112,113,114,115,116,117,118,119,120,121,122,48,49,50,51,52,53,54,55,56,57,45,46]⟩:ByteArray)=B aDC:=rfl;have hl:aDC.length=38:=rfl;generalize aDC=L at *;generalize c.toNat=x at *;have HC:=Lib.hid hc;clear hc
 go_enter Tryz.func158,Tryz.ntmps158
 go_wp2
 go_loop [3] (fun i=>∃k:Nat,k≤38∧i=.int .i64 k∧nb x=(L.drop k).any (fun d=>d.toNat==x)) (fun i=>38-(intOf i).toNat)
 case atStart=>exact⟨0,by omega,rfl,HC.out.symm⟩
 case round=>
  obtain⟨k,hk,rfl,hv⟩:=hrel;by_cases hlt:k<L.length
  ·rw[Bx hlt]at hv;have HV:=Lib.hid hv;clear hv;have h38:k<38:=by omega
   cases hx:((L[k].toNat:Int)==(x:Int))
   ·have e:nb x=(L.drop (k+1)).any (fun d=>d.toNat==x):=by
     rw[HV.out,Gh];rw[Ai]at hx;have:(L[k].toNat==x)=false:=by rw[Ai];omega
     rw[this,Fc]
    have HE:=Lib.hid e;clear e
    go_wp2
    go_round
    case rel=>exact⟨k+1,by omega,by go_num,HE.out⟩
    case measure=>simp[intOf];omega
   ·have e:nb x=true:=by
     rw[HV.out,Gh];rw[Cy]at hx;have:(L[k].toNat==x)=true:=by rw[Cy];omega
     rw[this,Bool.true_or]
    have HE:=Lib.hid e;clear e
    go_wp2
    go_ret
    exact⟨by rw[HE.out];rfl,rfl⟩
  ·have e:nb x=false:=by rw[hv,Cj oW];rfl
   have HE:=Lib.hid e;clear e hv;have h38:¬k<38:=by omega
   go_wp2
   go_ret
   exact⟨by rw[HE.out];rfl,rfl⟩

def chk(k : Nat) : List UInt8 → Nat → Bool
 | [],_=>true
 |c::r,i=>decide ((i<k→nb c.toNat=true)∧(k<i→jA c=true))&&chk k r (i+1)
theorem aCX(k : Nat) : ∀ (l : List UInt8) (i : Nat), k < i → chk k l i = l.all jA
 | [],_,_=>rfl
 |c::r,i,h=>by
  unfold chk;rw[aCX k r (i+1) oW,Dm];congr 1;rw[Db,Ak];exact⟨fun x=>x.2 h,fun x=>⟨fun y=>by omega,fun _=>x⟩⟩
theorem aLG : ∀ (l : List UInt8) (i : Nat), sl l i = 0 ∨ i ≤ sl l i
 | [],i=>Or.inl rfl
 |c::r,i=>by
  unfold sl;split
  ·exact Or.inr (Bg _)
  ·rcases aLG r (i+1)with h|h
   ·exact Or.inl h
   ·exact Or.inr oW
theorem aJv : ∀ (m : List UInt8) (i : Nat), (scan m i != 0 && (m.drop (scan m i - (i + 2))).all jA) = (decide (sl m (i + 2) ≠ 0 ∧ (i = 0 → sl m (i + 2) ≠ 2)) && chk (sl m (i + 2)) m (i + 2))
  ∧ (scan m i≠0→scan m i=sl m (i+2)+1∧i+2<scan m i)
 | [],i=>by simp[scan,sl]
 |c::r,i=>by
  obtain⟨g,j⟩:=aJv r (i+1);by_cases a:c.toNat=47
  ·have f:nb c.toNat=false:=by rw[a];decide
   have k:sl (c::r) (i+2)=i+2:=by unfold sl;rw[Ar a]
   by_cases D:0<i
   ·have d:scan (c::r) i=i+3:=by unfold scan;rw[An (by simp[f]),Ar ⟨a,D⟩]
    rw[k,d];refine⟨?_,fun _=>⟨by omega,by omega⟩⟩;rw[show i+3-(i+2)=1 by omega,List.drop_one,List.tail_cons];unfold chk;rw[aCX (i+2) r (i+2+1) oW];simp;omega
   ·have d:scan (c::r) i=0:=by unfold scan;rw[An (by simp[f]),An oW]
    rw[k,d];refine⟨?_,fun h=>absurd rfl h⟩;obtain rfl:i=0:=by omega
    simp
  ·have k:sl (c::r) (i+2)=sl r (i+1+2):=by
    conv=>lhs;unfold sl
    rw[An a]
   have q:=aLG r (i+1+2);cases f:nb c.toNat
   ·have d:scan (c::r) i=0:=by unfold scan;rw[An (by simp[f]),An oW]
    rw[k,d];refine⟨?_,fun h=>absurd rfl h⟩;rcases q with h|h
    ·simp[h]
    ·unfold chk;simp[f];intro _ _ E;omega
   ·have d:scan (c::r) i=scan r (i+1):=by
     conv=>lhs;unfold scan
     rw[Ar f]
    rw[k,d];refine⟨?_,fun h=>⟨(j h).1,by have:=(j h).2;omega⟩⟩;by_cases x:scan r (i+1)=0
    ·rw[x]at g ⊢;have u:(decide (sl r (i+1+2)≠0∧(i+1=0→sl r (i+1+2)≠2))&&chk (sl r (i+1+2)) r (i+1+2))=false:=by rw[←g];simp
     rcases q with h|h
     ·simp[h]
     ·have C:chk (sl r (i+1+2)) r (i+1+2)=false:=by
       have:decide (sl r (i+1+2)≠0∧(i+1=0→sl r (i+1+2)≠2))=true:=by rw[Ak];omega
       rw[this,Fk]at u;exact u
      unfold chk;rw[show i+2+1=i+1+2 by omega,C];simp
    ·obtain⟨F,G⟩:=j x;have u:(scan r (i+1)-(i+2))=(scan r (i+1)-(i+1+2))+1:=by omega
     rw[u,Fb];unfold chk;rw[show i+2+1=i+1+2 by omega];rw[g];have y:decide (sl r (i+1+2)≠0∧(i+1=0→sl r (i+1+2)≠2))=true:=by rw[Ak];omega
     have A:decide (sl r (i+1+2)≠0∧(i=0→sl r (i+1+2)≠2))=true:=by rw[Ak];omega
     have B:decide ((i+2<sl r (i+1+2)→nb c.toNat=true)∧(sl r (i+1+2)<i+2→jA c=true))=true:=by
      rw[Ak];exact⟨fun _=>f,fun h=>by omega⟩
     rw[y,A,B];simp
def fF(l:List UInt8):Bool:=
 l==[110,111,110,101]||(decide (3≤sl (l.drop 2) 2)&&l.take 2==[47,47]&&chk (sl (l.drop 2) 2) (l.drop 2) 2)
theorem aFC(l:List UInt8)(d:l.length≤60):fF l=oB l:=by
 unfold fF oB;congr 1;have f:=aLG (l.drop 2) 2;unfold jX;by_cases a:pre [47,47] l=true
 ·have g:(l.take 2==[47,47])=true:=by
   have:=rM l [47,47];rw[a]at this;simp only[Ae]at this;exact this.2
  rw[Ar ⟨a,d⟩,g];obtain⟨j,c⟩:=aJv (l.drop 2) 0;simp only[Aw]at j c;have e:(decide (3≤sl (l.drop 2) 2))=decide (sl (l.drop 2) 2≠0∧(True→sl (l.drop 2) 2≠2)):=by
   rw[Db,Ak,Ak];simp only[true_implies];omega
  rw[Gg,e,←j,De];by_cases k:scan (l.drop 2) 0=0
  ·simp[k]
  ·have:=(c k).2;rw[show 2+(scan (l.drop 2) 0-2)=scan (l.drop 2) 0 by omega]
 ·rw[An (fun h=>a h.1)];have g:(decide (3≤sl (l.drop 2) 2)&&(l.take 2==[47,47]))=false:=by
   have:=rM l [47,47];rw[Bool.not_eq_true]at a;rw[a]at this;rcases f with h|h
   ·simp[h]
   ·by_cases c:2≤l.length
    ·simp[c]at this;simp[this]
    ·have:sl (l.drop 2) 2=0:=by rw[Cj oW];rfl
     simp[this]
  rw[g];rfl

theorem aBz(l:List UInt8)(h:60<l.length):oB l=false:=by
 unfold oB jX;rw[An oW];have:(l==[110,111,110,101])=false:=by
  rw[Ai];intro a;rw[a]at h;simp at h
 rw[this];rfl
theorem aLV(l:List UInt8)(n v:Int)(w:World):Calls Tryz.prog 116 #[.agg #[.int .i64 2,.string (B l),.int .u64 n,.int .u64 v]] w fun e w'=>e=.returned (.bool (gE 2 l n v))∧Below w.heap.size w w':=by
 go_enter Tryz.func116,Tryz.ntmps116
 go_wp2
 all_goals
  go_ret
  exact⟨qJ (by simp[gE, *];try omega),by((repeat' (with_reducible first|exact Below.refl _ _|assumption|refine Below.drew ?_|refine below_drewN ?_ _|refine Below.setCell ?_ ?_ _|refine Below.alloc ?_ ?_ _|refine Below.ext ?_ ?_ _|refine Below.trans ?_ (Below.mono ‹_› ?_)))<;>first|omega|(simp;done)|(simp;omega))⟩
theorem aHU(s:Int)(l:List UInt8)(n v:Int)(w:World)(a:(s==1)=false)(c:(s==2)=false):Calls Tryz.prog 116 #[.agg #[.int .i64 s,.string (B l),.int .u64 n,.int .u64 v]] w fun e w'=>e=.returned (.bool false)∧Below w.heap.size w w':=by
 have d:(s !=1)=true:=by simp at a ⊢;exact a
 go_enter Tryz.func116,Tryz.ntmps116
 go_wp2
 go_ret
 exact⟨rfl,by((repeat' (with_reducible first|exact Below.refl _ _|assumption|refine Below.drew ?_|refine below_drewN ?_ _|refine Below.setCell ?_ ?_ _|refine Below.alloc ?_ ?_ _|refine Below.ext ?_ ?_ _|refine Below.trans ?_ (Below.mono ‹_› ?_)))<;>first|omega|(simp;done)|(simp;omega))⟩
theorem aJJ(l:List UInt8)(n v:Int)(w:World)(h:¬(n=0∧v=0∧l.length≤60)):Calls Tryz.prog 116 #[.agg #[.int .i64 1,.string (B l),.int .u64 n,.int .u64 v]] w fun e w'=>e=.returned (.bool false)∧Below w.heap.size w w':=by
 go_enter Tryz.func116,Tryz.ntmps116
 cases a:(n !=0)
 ·cases c:(v !=0)
  ·have d:¬l.length≤60:=by simp at a c;omega
   go_wp2
   go_ret
   exact⟨rfl,by((repeat' (with_reducible first|exact Below.refl _ _|assumption|refine Below.drew ?_|refine below_drewN ?_ _|refine Below.setCell ?_ ?_ _|refine Below.alloc ?_ ?_ _|refine Below.ext ?_ ?_ _|refine Below.trans ?_ (Below.mono ‹_› ?_)))<;>first|omega|(simp;done)|(simp;omega))⟩
  ·go_wp2
   go_ret
   exact⟨rfl,by((repeat' (with_reducible first|exact Below.refl _ _|assumption|refine Below.drew ?_|refine below_drewN ?_ _|refine Below.setCell ?_ ?_ _|refine Below.alloc ?_ ?_ _|refine Below.ext ?_ ?_ _|refine Below.trans ?_ (Below.mono ‹_› ?_)))<;>first|omega|(simp;done)|(simp;omega))⟩
 ·go_wp2
  go_ret
  exact⟨rfl,by((repeat' (with_reducible first|exact Below.refl _ _|assumption|refine Below.drew ?_|refine below_drewN ?_ _|refine Below.setCell ?_ ?_ _|refine Below.alloc ?_ ?_ _|refine Below.ext ?_ ?_ _|refine Below.trans ?_ (Below.mono ‹_› ?_)))<;>first|omega|(simp;done)|(simp;omega))⟩
theorem aFM(w:World):Calls Tryz.prog 116 #[.agg #[.int .i64 1,.string (B [110,111,110,101]),.int .u64 0,.int .u64 0]] w fun e w'=>e=.returned (.bool true)∧Below w.heap.size w w':=by
 go_enter Tryz.func116,Tryz.ntmps116
 go_wp2
 go_ret
 exact⟨rfl,by((repeat' (with_reducible first|exact Below.refl _ _|assumption|refine Below.drew ?_|refine below_drewN ?_ _|refine Below.setCell ?_ ?_ _|refine Below.alloc ?_ ?_ _|refine Below.ext ?_ ?_ _|refine Below.trans ?_ (Below.mono ‹_› ?_)))<;>first|omega|(simp;done)|(simp;omega))⟩
set_option maxRecDepth 100000 in
theorem aLW(l:List UInt8)(w:World)(h60:l.length≤60)(hne:(l==[110,111,110,101])=false):Calls Tryz.prog 116 #[.agg #[.int .i64 1,.string (B l),.int .u64 0,.int .u64 0]] w fun e w'=>e=.returned (.bool (fF l))∧Below w.heap.size w w':=by
 have hr:fF l=(decide (3≤sl (l.drop 2) 2)&&l.take 2==[47,47]&&chk (sl (l.drop 2) 2) (l.drop 2) 2):=by unfold fF;rw[hne];rfl
 have HR:=Lib.hid hr;have hge:=aLG (l.drop 2) 2;clear hr
 go_enter Tryz.func116,Tryz.ntmps116
 go_wp2_with fail
 refine(aLf _ _ (by unfold maxLen;omega)).mono ?_;rintro e w1 ⟨rfl,rfl⟩
 generalize hk:sl (l.drop 2) 2=k at *;have HK:=Lib.hid hk;by_cases h3:k<3
 ·clear hk
  go_wp2
  go_ret
  exact⟨by rw[HR.out];have:decide (3≤k)=false:=(by simp;omega);rw[this];rfl,by((repeat' (with_reducible first|exact Below.refl _ _|assumption|refine Below.drew ?_|refine below_drewN ?_ _|refine Below.setCell ?_ ?_ _|refine Below.alloc ?_ ?_ _|refine Below.ext ?_ ?_ _|refine Below.trans ?_ (Below.mono ‹_› ?_)))<;>first|omega|(simp;done)|(simp;omega))⟩
 ·have h2:2≤l.length:=by
   rcases Nat.lt_or_ge l.length 2 with h|h
   ·rw[Cj oW]at hk;simp[sl]at hk;omega
   ·exact h
  clear hk;cases ht:(l.take 2==[47,47])
  ·have HT:=Lib.hid ht
   go_wp2
   go_ret
   exact⟨by rw[HR.out,HT.out];simp,by((repeat' (with_reducible first|exact Below.refl _ _|assumption|refine Below.drew ?_|refine below_drewN ?_ _|refine Below.setCell ?_ ?_ _|refine Below.alloc ?_ ?_ _|refine Below.ext ?_ ?_ _|refine Below.trans ?_ (Below.mono ‹_› ?_)))<;>first|omega|(simp;done)|(simp;omega))⟩
  ·have hr2:fF l=chk k (l.drop 2) 2:=by
    rw[HR.out,ht];have:decide (3≤k)=true:=by simp;omega
    rw[this];rfl
   have HR2:=Lib.hid hr2;clear hr2
   go_wp2
   clear ht
   go_loop [4] (fun i=>∃j:Nat,2≤j∧i=.int .i64 j∧fF l=chk k (l.drop j) j) (fun i=>l.length-(intOf i).toNat)
   case atStart=>exact⟨2,Bg _,rfl,HR2.out⟩
   case round=>
    obtain⟨j,hj,rfl,hv⟩:=hrel;by_cases hlt:j<l.length
    ·rw[Bx hlt]at hv;unfold chk at hv;have HV:=Lib.hid hv;clear hv;by_cases hjk:j<k
     ·cases hn:nb l[j].toNat
      ·have e:fF l=false:=by rw[HV.out];simp[hjk,hn]
       have HE:=Lib.hid e;have HN:=Lib.hid hn;clear e hn
       go_wp2_with (go_at_call 158;refine(aCI _ _).mono ?_;rw[HN.out];rintro e w' ⟨rfl,rfl⟩)
       go_ret
       exact⟨by rw[HE.out];rfl,by((repeat' (with_reducible first|exact Below.refl _ _|assumption|refine Below.drew ?_|refine below_drewN ?_ _|refine Below.setCell ?_ ?_ _|refine Below.alloc ?_ ?_ _|refine Below.ext ?_ ?_ _|refine Below.trans ?_ (Below.mono ‹_› ?_)))<;>first|omega|(simp;done)|(simp;omega))⟩
      ·have e:fF l=chk k (l.drop (j+1)) (j+1):=by rw[HV.out];simp[hjk,hn];omega
       have HE:=Lib.hid e;have HN:=Lib.hid hn;clear e hn
       go_wp2_with (go_at_call 158;refine(aCI _ _).mono ?_;rw[HN.out];rintro e w' ⟨rfl,rfl⟩)
       go_round
       case rel=>exact⟨j+1,by omega,by go_num,HE.out⟩
       case measure=>simp[intOf];omega
     ·by_cases hkj:k<j
      ·by_cases h33:l[j].toNat<33
       ·have e:fF l=false:=by rw[HV.out];simp[hkj,jA];omega
        have HE:=Lib.hid e;clear e
        go_wp2
        go_ret
        exact⟨by rw[HE.out];rfl,by((repeat' (with_reducible first|exact Below.refl _ _|assumption|refine Below.drew ?_|refine below_drewN ?_ _|refine Below.setCell ?_ ?_ _|refine Below.alloc ?_ ?_ _|refine Below.ext ?_ ?_ _|refine Below.trans ?_ (Below.mono ‹_› ?_)))<;>first|omega|(simp;done)|(simp;omega))⟩
       ·by_cases h126:126<l[j].toNat
        ·have e:fF l=false:=by rw[HV.out];simp[hkj,jA];omega
         have HE:=Lib.hid e;clear e
         go_wp2
         go_ret
         exact⟨by rw[HE.out];rfl,by((repeat' (with_reducible first|exact Below.refl _ _|assumption|refine Below.drew ?_|refine below_drewN ?_ _|refine Below.setCell ?_ ?_ _|refine Below.alloc ?_ ?_ _|refine Below.ext ?_ ?_ _|refine Below.trans ?_ (Below.mono ‹_› ?_)))<;>first|omega|(simp;done)|(simp;omega))⟩
        ·have e:fF l=chk k (l.drop (j+1)) (j+1):=by rw[HV.out];simp[hkj,jA];omega
         have HE:=Lib.hid e;clear e
         go_wp2
         go_round
         case rel=>exact⟨j+1,by omega,by go_num,HE.out⟩
         case measure=>simp[intOf];omega
      ·have e:fF l=chk k (l.drop (j+1)) (j+1):=by rw[HV.out];simp;omega
       have HE:=Lib.hid e;clear e
       go_wp2
       go_round
       case rel=>exact⟨j+1,by omega,by go_num,HE.out⟩
       case measure=>simp[intOf];omega
    ·have e:fF l=true:=by rw[hv,Cj oW];rfl
     have HE:=Lib.hid e;clear e hv
     go_wp2
     go_ret
     exact⟨by rw[HE.out];rfl,by((repeat' (with_reducible first|exact Below.refl _ _|assumption|refine Below.drew ?_|refine below_drewN ?_ _|refine Below.setCell ?_ ?_ _|refine Below.alloc ?_ ?_ _|refine Below.ext ?_ ?_ _|refine Below.trans ?_ (Below.mono ‹_› ?_)))<;>first|omega|(simp;done)|(simp;omega))⟩
theorem aHV(s:Int)(l:List UInt8)(n v:Int)(w:World):Calls Tryz.prog 116 #[.agg #[.int .i64 s,.string (B l),.int .u64 n,.int .u64 v]] w fun e w'=>e=.returned (.bool (gE s l n v))∧Below w.heap.size w w':=by
 by_cases d:s=1
 ·subst d;by_cases h:n=0∧v=0∧l.length≤60
  ·obtain⟨rfl,rfl,c⟩:=h;have e:gE 1 l 0 0=fF l:=by rw[aFC l c];simp[gE]
   rw[e];cases a:(l==[110,111,110,101])
   ·exact aLW l w c a
   ·rw[show fF l=true by unfold fF;rw[a];rfl];rw[Cy]at a;subst a;exact aFM w
  ·rw[show gE 1 l n v=false by
    by_cases g:n=0∧v=0
    ·simp[gE,aBz l oW]
    ·simp[gE,g]]
   exact aJJ l n v w h
 ·by_cases f:s=2
  ·subst f;exact aLV l n v w
  ·rw[show gE s l n v=false by simp[gE,d,f]];exact aHU s l n v w (by simp[d]) (by simp[f])
end Go.Proofs.YtcdjakemdlinhaaGreatDoor.Eid
namespace Go.Proofs.YtcdjakemdlinhaaGreatDoor
open Go.ChangeShapes Go.WideShapes Go.ChangeAt Go.RowKit Go.Deep
end Go.Proofs.YtcdjakemdlinhaaGreatDoor
namespace Go.Proofs.YtcdjakemdlinhaaGreatDoor.Itm
open Go.ChangeShapes Go.WideShapes Go.ChangeAt Go.RowKit Go.Deep Go.Proofs.YtcdjakemdlinhaaGreatDoor.Eid
def cA(n:Nat):Tr:=.mk 0 n [] [] false
def dA(l:List Tr):Tr:=.mk 4 0 [] l false
def aLx(s:Nat)(l:List UInt8)(n v:Nat):Tr:=if s=2 then dA [cA n,cA v]else if l=[110,111,110,101]then cA 0 else .mk 3 0 l [] false
def aIe(s:Nat)(l:List UInt8)(n v:Nat):Tr:=dA [cA s,aLx s l n v]
structure Nm where
 s:Nat
 l:List UInt8
 n:Nat
 v:Nat
def Nm.zero:Nm:=⟨0,[],0,0⟩
def Nm.none:Nm:=⟨1,[110,111,110,101],0,0⟩
def aAq(x y:Tr):Nm:=if x.n=1∧y.k=3 then⟨1,y.s,0,0⟩else Nm.none
def aEg(x y:Tr):Nm:=match y.l with
 | [p,q]=>if x.n=2 then⟨2,[],p.n,q.n⟩else aAq x y
 |_=>aAq x y
def iB(t:Tr):Nm:=if t.k=4 then(match t.l with
 | [x,y]=>if x.k=0 then aEg x y else Nm.zero
 |_=>Nm.zero)else Nm.zero
theorem aJD{x y p q:Tr}(h:y.l=[p,q])(a:x.n=2):aEg x y=⟨2,[],p.n,q.n⟩:=by unfold aEg;rw[h];simp[a]
theorem lJ{x y:Tr}(h:¬(x.n=2∧y.l.length=2)):aEg x y=aAq x y:=by
 unfold aEg;split
 ·next p q a=>rw[An];intro c;exact h ⟨c,by rw[a];rfl⟩
 ·rfl
theorem aJE{t:Tr}(h:¬t.l.length=2):iB t=Nm.zero:=by
 unfold iB;split
 ·split
  ·next x y a=>exact absurd (by rw[a];rfl) h
  ·rfl
 ·rfl
def Nm.right(m:Nm):Bool:=gE m.s m.l m.n m.v
def Nm.tree(m:Nm):Tr:=aIe m.s m.l m.n m.v
def OfP(t:Tr)(m:Nm):Prop:=m.right=true∧aJ 8 t=true∧t=m.tree
theorem aBl{w:World}{t:Tr}{cs:List Value}(h:TAt w t cs):(iB t).l.length≤R47∧(iB t).n<W64∧(iB t).v<W64:=by
 have u:Nm.zero.l.length≤R47∧Nm.zero.n<W64∧Nm.zero.v<W64:=by decide
 have D:Nm.none.l.length≤R47∧Nm.none.n<W64∧Nm.none.v<W64:=by decide
 unfold iB;split
 ·split
  ·next x y B=>
   obtain⟨a,c,C,_,_,_,_,f⟩:=qV h;rw[B]at f;obtain⟨_,_,_,_,_,G,_⟩:=f 1 y rfl;obtain⟨_,_,I,_,_,r,_,d⟩:=qV G;have A:(aAq x y).l.length≤R47∧(aAq x y).n<W64∧(aAq x y).v<W64:=by
    unfold aAq;split
    ·exact⟨r,(by decide:0<W64),(by decide:0<W64)⟩
    ·exact D
   split
   ·unfold aEg;split
    ·next p q j=>
     rw[j]at d;obtain⟨_,_,_,_,_,E,_⟩:=d 0 p rfl;obtain⟨_,_,_,_,_,F,_⟩:=d 1 q rfl;obtain⟨_,_,_,_,g,_⟩:=qV E;obtain⟨_,_,_,_,k,_⟩:=qV F;split
     ·exact⟨Ap _,g,k⟩
     ·exact A
    ·exact A
   ·exact u
  ·exact u
 ·exact u
end Go.Proofs.YtcdjakemdlinhaaGreatDoor.Itm
namespace Go.Proofs.YtcdjakemdlinhaaGreatDoor.Itm
open Go.ChangeShapes Go.WideShapes Go.ChangeAt Go.RowKit Go.Deep Go.Great Go.Proofs.YtcdjakemdlinhaaGreatDoor.Eid
def mU(y:Tr):List Nm:=match y.l with
 | [p,q]=>[Nm.none,⟨1,y.s,0,0⟩,⟨2,[],p.n,q.n⟩]
 |_=>[Nm.none,⟨1,y.s,0,0⟩]
theorem aI6{y:Tr}(h:¬y.l.length=2):mU y=[Nm.none,⟨1,y.s,0,0⟩]:=by
 unfold mU;split
 ·next p q a=>exact absurd (by rw[a];rfl) h
 ·rfl
theorem aI7(y:Tr):(mU y).length≤3:=by
 unfold mU;split<;>simp
theorem aEd{m:Nm}(h:m.right=true):m.s=1∨m.s=2:=by
 unfold Nm.right gE at h;split at h
 ·exact .inl oW
 ·split at h
  ·exact .inr oW
  ·cases h
theorem aHO{m:Nm}(h:m.right=true):iB m.tree=m:=by
 obtain⟨s,l,n,v⟩:=m;unfold Nm.right gE at h;simp only at h;split at h
 ·next c=>
  rw[Ae,Ak]at h;obtain⟨⟨d,f⟩,_⟩:=h;obtain rfl:s=1:=by omega
  obtain rfl:n=0:=by omega
  obtain rfl:v=0:=by omega
  by_cases a:l=[110,111,110,101]
  ·subst a;rfl
  ·simp[Nm.tree,aIe,aLx,dA,cA,a,iB,Tr.k,Tr.l,aEg,aAq,Tr.n,Tr.s]
 ·split at h
  ·next c=>
   rw[Ak]at h;obtain⟨rfl,_,_⟩:=h;obtain rfl:s=2:=by omega
   rfl
  ·cases h
theorem aJ8{t x y:Tr}(a:t.l=[x,y]){m:Nm}(h:m.right=true)(f:t=m.tree):m∈mU y:=by
 have c:y=aLx m.s m.l m.n m.v:=by
  subst f;simp only[Nm.tree,aIe,dA,Tr.l,Em,Fl]at a;exact a.2.symm
 obtain⟨s,l,n,v⟩:=m;unfold Nm.right gE at h;simp only at h c;split at h
 ·next d=>
  rw[Ae,Ak]at h;obtain⟨⟨g,j⟩,_⟩:=h;obtain rfl:s=1:=by omega
  obtain rfl:n=0:=by omega
  obtain rfl:v=0:=by omega
  subst c;by_cases a:l=[110,111,110,101]
  ·subst a;simp[mU,aLx,cA,Tr.l,Nm.none]
  ·simp[mU,aLx,a,Tr.l,Tr.s]
 ·split at h
  ·next d=>
   rw[Ak]at h;obtain⟨rfl,_,_⟩:=h;obtain rfl:s=2:=by omega
   subst c;simp[mU,aLx,dA,cA,Tr.l,Tr.n]
  ·cases h
end Go.Proofs.YtcdjakemdlinhaaGreatDoor.Itm
namespace Go.Proofs.YtcdjakemdlinhaaGreatDoor.Itm
open Go.ChangeShapes Go.WideShapes Go.ChangeAt Go.RowKit Go.Deep
def qC(n:Nat):Nat:=if n<24 then n else if n<256 then 24 else if n<65536 then 25 else if n<4294967296 then 26 else 27
def aFk(n:Nat):Nat:=if n<24 then 0 else if n<256 then 1 else if n<65536 then 2 else if n<4294967296 then 4 else 8
theorem aHc(m n:Nat):aE m n=UInt8.ofNat (32*m+qC n)::dg n (aFk n):=by
 unfold aE qC aFk
 repeat' split
 all_goals rfl
theorem aMH(n:Nat):qC n<28:=by
 unfold qC
 repeat' split
 all_goals omega
inductive NOk : Tr → Prop
 |mk (k:Int) (n:Nat) (s:List UInt8) (l:List Tr) (o:Bool) (hn:n<W64) (hs:s.length<W64) (hl:∀(i:Nat) (t:Tr),l[i]? =some t→NOk t):NOk (.mk k n s l o)
inductive Form : Tr → Prop
 |num (n:Nat):Form (.mk 0 n [] [] false)
 |str (s:List UInt8):Form (.mk 2 0 s [] false)
 |text (s:List UInt8):Form (.mk 3 0 s [] false)
 |arr (l:List Tr) (h:l.length≤1000):Form (.mk 4 0 [] l false)
 |opn (l:List Tr):Form (.mk 4 0 [] l true)
theorem aKE{t:Tr}(h:jI t=true):Form t:=by
 obtain⟨k,n,s,l,o⟩:=t;rw[aBs]at h;rcases lG (Bool.and_eq_true_iff.1 h).1 with⟨a,c,d,f⟩|⟨a,c,d,f⟩|⟨a,c,d,f⟩|⟨a,c,d,f⟩
 ·simp only[Tr.k,Tr.s,Tr.o,Tr.l]at a c d f;obtain rfl:=Be.1 d;subst a c f;exact .num n
 ·simp only[Tr.k,Tr.n,Tr.o,Tr.l]at a c d f;obtain rfl:=Be.1 d;subst a c f;exact .str s
 ·simp only[Tr.k,Tr.n,Tr.o,Tr.l]at a c d f;obtain rfl:=Be.1 d;subst a c f;exact .text s
 ·simp only[Tr.k,Tr.n,Tr.s,Tr.l]at a c d f;subst a c d;cases o with
  |false=>exact .arr l f
  |true=>exact .opn l
theorem lZ(n:Nat):aG (.mk 0 n [] [] false)=aE 0 n:=by rw[aG];simp
theorem oM(s:List UInt8):aG (.mk 2 0 s [] false)=aE 2 s.length++s:=by rw[aG];simp
theorem oL(s:List UInt8):aG (.mk 3 0 s [] false)=aE 3 s.length++s:=by rw[aG];simp
theorem iD(l:List Tr):aG (.mk 4 0 [] l false)=aE 4 l.length++aY l:=by rw[aG];simp
theorem oN(l:List Tr):aG (.mk 4 0 [] l true)=UInt8.ofNat (32*4+31)::(aY l++[255]):=by rw[aG];simp
end Go.Proofs.YtcdjakemdlinhaaGreatDoor.Itm
