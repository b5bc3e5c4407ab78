/-
  Several texts in one: Sx16 Rel3 Sx17 Sx18 Sx19 Sx20 Rd2 Rd3 Rd4 Rd5 Rd6 Ps1 Ps2 Rd7 Pt1 Asd Ast Sx21.
  Conditions: named at each.
-/
import Derived.Test.YtcdjakemdlinhaaGreatDoorG06
import Derived.LaidEql
import Derived.Stop.Asserts
import Derived.Stop.IfaceNil
set_option maxHeartbeats 16000000
set_option linter.unusedSimpArgs false
set_option linter.unusedVariables false
set_option linter.unusedSectionVars false
namespace Go.Proofs.YtcdjakemdlinhaaGreatDoor.Sx
open Go.ChangeShapes Go.WideShapes Go.ChangeAt Go.RowKit Go.Deep
class RecOk {α : Type} (R : View → α → List Value → Prop) (z : outParam Nat) : Prop where
 le:∀{U V:View} {x:α} {cs:List Value},View.le U V→R U x cs→R V x cs
 len:∀{U:View} {x:α} {cs:List Value},R U x cs→cs.length=z
 one:∀{U:View} {x:α} {cs:List Value},R U x cs→∀u∈cs,u.oneCell'=true
theorem View.range1{U:View}{b f i:Nat}{v:Value}(h:U.range b (f+i*1) [v]):U ⟨b,f+i,none⟩=some v:=by
 have:=h 0 v rfl;rwa[Nat.mul_one,Df]at this
structure gF {α : Type} (R : View → α → List Value → Prop) (z : Nat) (U : View) (a : Option Addr) (l : List α) : Prop where
 at_:∀i x,l[i]? =some x→∃b f cs,a=some ⟨b,f,none⟩∧U.range b (f+i*z) cs∧R U x cs
 len:l.length≤R47
def tM{α : Type}(R : View → α → List Value → Prop)(V : View) : List (α × List Value) → Prop
 | []=>True
 |p::r=>R V p.1 p.2∧tM R V r
section
variable {α:Type} {R:View→α→List Value→Prop} {z:Nat}
theorem gF.nil{U:View}{a:Option Addr}:gF R z U a []:=⟨fun i x c=>by simp at c,by unfold R47;simp⟩
theorem tM.app{V : View} : ∀ {L M : List (α × List Value)}, tM R V L → tM R V M → tM R V (L ++ M)
 | [],_,_,h=>h
 |_::_,_,⟨a,c⟩,h=>⟨a,tM.app c h⟩
theorem tM.snoc{V:View}{L:List (α×List Value)}{x:α}{cs:List Value}(h:tM R V L)(a:R V x cs):tM R V (L++[(x,cs)]):=h.app ⟨a,trivial⟩
end
section
variable {α:Type} {R:View→α→List Value→Prop} {z:Nat} [hR:RecOk R z]
include hR
theorem gF.le{U V:View}(h:View.le U V){a:Option Addr}{l:List α}(c:gF R z U a l):gF R z V a l:=
 ⟨fun i x j=>by obtain⟨b,f,cs,e,d,g⟩:=c.at_ i x j;exact⟨b,f,cs,e,View.range_le h d,hR.le h g⟩,c.len⟩
theorem tM.le{U V : View}(h : View.le U V) : ∀ {L : List (α × List Value)}, tM R U L → tM R V L
 | [],_=>trivial
 |_::_,⟨a,c⟩=>⟨hR.le h a,tM.le h c⟩
theorem tM.flat_len{V : View} : ∀ {L : List (α × List Value)}, tM R V L → (L.flatMap Prod.snd).length = L.length * z
 | [],_=>by simp
 |p::r,⟨a,c⟩=>by rw[Bu,Ac,tM.flat_len c,hR.len a,Ah,Dq];omega
theorem tM.get{V : View} : ∀ {L : List (α × List Value)}, tM R V L → ∀ {b f : Nat}, V.range b f (L.flatMap Prod.snd) → ∀ i x, (L.map Prod.fst)[i]? = some x → ∃ cs, V.range b (f + i * z) cs ∧ R V x cs
 | [],_,b,f,_,i,x,h=>by simp at h
 |p::r,⟨c,j⟩,b,f,d,i,x,h=>by
  rw[Bu]at d;obtain⟨k,q⟩:=gK d;cases i with
  |zero=>
   simp only[Cf,Bo,Ab]at h;subst h;exact⟨p.2,by simpa using k,c⟩
  |succ i=>
   simp only[Cf,Bv]at h;obtain⟨cs,a,g⟩:=tM.get j q i x h;refine⟨cs,?_,g⟩;rw[hR.len c]at a;rw[show f+(i+1)*z=f+z+i*z by rw[Dq];omega];exact a
theorem gF.lit{V:View}{b f:Nat}(L:List (α×List Value))(g:V.range b f (L.flatMap Prod.snd))(h:tM R V L)(d:(L.map Prod.fst).length≤R47):gF R z V (some ⟨b,f,none⟩) (L.map Prod.fst):=
 ⟨fun i x j=>by obtain⟨cs,a,c⟩:=h.get g i x j;exact⟨b,f,cs,rfl,a,c⟩,d⟩
theorem gF.ofRow(C:0<z){V:View}{a:Option Addr}{j:List Value}(L:List (α×List Value))(B:aAn V a j)(f:j=L.flatMap Prod.snd)(h:tM R V L)(l:List α)(A:L.map Prod.fst=l)(c:l.length≤R47):gF R z V a l:=by
 subst f A;refine⟨fun i x g=>?_,c⟩;have d:L.flatMap Prod.snd≠[]:=by
  intro y;have:=h.flat_len;rw[y]at this;cases L with
  |nil=>simp at g
  |cons p r=>
   rw[Ah,Dq,Bd]at this;omega
 obtain⟨b,rfl,u⟩:=B.at_ d;obtain⟨cs,k,q⟩:=h.get u i x g;exact⟨b,0,cs,rfl,k,q⟩
theorem gF.open{U:View}{a:Option Addr}{l:List α}(h:gF R z U a l)(I:l≠[]):∃(b f:Nat) (L:List (α×List Value)),a=some ⟨b,f,none⟩∧L.map Prod.fst=l∧tM R U L∧U.range b f (L.flatMap Prod.snd):=by
 obtain⟨b,f,F,G,_,_⟩:=h.at_ 0 (l[0]'(by cases l<;>simp_all)) (Aa _);refine⟨b,f,?_⟩;subst G;have key:∀(l:List α) (c:Nat),(∀i x,l[i]? =some x→∃cs,U.range b (c+i*z) cs∧R U x cs)→∃L:List (α×List Value),L.map Prod.fst=l∧tM R U L∧U.range b c (L.flatMap Prod.snd):=by
  intro l
  induction l with
  |nil=>intro c _;exact⟨[],rfl,trivial,fun j v d=>by simp at d⟩
  |cons t l ih=>
   intro c E;obtain⟨cs,B,C⟩:=E 0 t rfl;rw[Ft,Df]at B;obtain⟨L,q,r,u⟩:=ih (c+z) fun i x k=>by
    obtain⟨cs,y,A⟩:=E (i+1) x (by simpa using k);exact⟨cs,by rw[show c+z+i*z=c+(i+1)*z by rw[Dq];omega];exact y,A⟩
   refine⟨(t,cs)::L,by simp[q],⟨C,r⟩,fun j v d=>?_⟩;change (cs++L.flatMap Prod.snd)[j]? =some v at d;by_cases g:j<cs.length
   ·rw[Bp g]at d;exact B j v d
   ·rw[Bm oW]at d;have:=u (j-cs.length) v d;have K:=hR.len C;rw[show c+j=c+z+(j-cs.length) by omega];exact this
 obtain⟨L,q,r,u⟩:=key l f fun i x k=>by
  obtain⟨J,c,cs,D,y,A⟩:=h.at_ i x k;simp only[Ab,Addr.mk.injEq,Fl]at D;obtain⟨rfl,rfl⟩:=D;exact⟨cs,y,A⟩
 exact⟨L,rfl,q,r,u⟩
structure RwR (R : View → α → List Value → Prop) (z : Nat) (V : View) (r : Rw) (xs : List Value) (m : Nat) (L : List (α × List Value)) : Prop where
 ok:r.ok z m xs
 xs:xs=L.flatMap Prod.snd
 m:m=L.length
 all:tM R V L
theorem RwR.le{U V:View}(h:View.le U V){r:Rw}{c:List Value}{m:Nat}{L:List (α×List Value)}(a:RwR R z U r c m L):RwR R z V r c m L:=⟨a.ok,a.xs,a.m,a.all.le h⟩
theorem RwR.done(k:0<z){V c:View}{r:Rw}{g:List Value}{m:Nat}{L:List (α×List Value)}(f:RwR R z V r g m L){a:Option Addr}(h:aAn c a g)(j:View.le V c)(d:m≤R47):gF R z c a (L.map Prod.fst):=
 gF.ofRow k L h f.xs (f.all.le j) _ rfl (by rw[Az,←f.m];exact d)
end
theorem RwR.snoc{α:Type}{R:View→α→List Value→Prop}{z:Nat}{V:View}{r f:Rw}{d cs:List Value}{m:Nat}{L:List (α×List Value)}{x:α}(c:RwR R z V r d m L)(g:R V x cs)(a:f.ok z (m+1) (d++cs)):RwR R z V f (d++cs) (m+1) (L++[(x,cs)]):=
 ⟨a,by rw[c.xs,Bz];simp,by rw[c.m];simp,c.all.snoc g⟩
theorem RwR.nil{α:Type}{R:View→α→List Value→Prop}{z:Nat}{V:View}:RwR R z V Rw.nil [] 0 []:=⟨Rw.ok_nil z,rfl,rfl,trivial⟩
instance tvR:RecOk TV 5:=⟨fun h ht=>ht.le h,fun h=>h.len5,fun h=>h.one⟩
theorem gF.ts{U:View}{a:Option Addr}{l:List Itm.Tr}(h:gF TV 5 U a l):eZ U a l:=⟨h.at_,h.len⟩
section
variable {P:Program} {n:Nat} {W0:Cx} {Q:XQ} {s:aZ} {U:View} {σ:aN} {ops:Array Oper} {l:List Oper} {o:Oper}
theorem lA(r : Rw)(k : List Value)(z m : Nat)(d : aN)(e : TypeId)(j : σ = d ++ r.B e k)(g : r.ok z m k)
  (h:∀a c V,View.le U V→aAn V a k→r.V m=.slice a m c→SXL P n W0 Q ops l s V d):SXL P n W0 Q ops l s U σ:=by
 subst j;refine⟨fun A W x u=>?_⟩;obtain⟨a,c,V,y,q,B,f⟩:=u.freezeRw g;exact(h a c V y q B).go A W x f
end
section
variable {P:Program} {n:Nat} {W0:Cx} {Q:XQ} {s:aZ} {U:View} {σ:aN} {ops:Array Oper} {l:List Oper} {o:Oper}
theorem aBa(k b d m z : Nat)(r : Rw)(G : List Value)(f : r.ok z m G)(cs : List Value)(t g : TypeId)(x y : Operand)(B : o.op = .store g x y)(F : evS s x = some (.pointer (some ⟨b, d, none⟩)))(q : evS s y = some (r.V m))
  (u:σ[k]? =some (b,.cells cs.toArray t (0,0))) (C:∀a c,rG P g (.slice a m c) 1=true) (A:Nat.ble (d+1) cs.length=true) (j:o.dst=none) (E:cU ops s o=some true)
  (h:SXL P n W0 Q ops l s U (σ.set k (b,.cells (cK cs d [r.V m]).toArray t (0,0)))):SXL P n W0 Q ops (o::l) s U σ:=by
 obtain⟨a,c,D⟩:=Rw.form f;rw[D]at q h;refine aNP k b d 1 cs t g _ x y B F q u (C a c) A (by unfold eX;rw[j]) E ?_;unfold lT;rw[j];exact h
end
theorem RwR.arr{V d:View}{r:Rw}{g:List Value}{m:Nat}{L:List (Itm.Tr×List Value)}{a:Option Addr}(c:Nat)(f:RwR TV 5 V r g m L)(h:aAn d a g)(k:View.le V d)(hm:m≤R47)(o:Bool):TV d (.mk 4 0 [] (L.map Prod.fst) o) [.int .i64 4,.int .u64 0,.string (B []),.slice a m c,.bool o]:=by
 have j:=(f.done (by decide) h k hm).ts;rw[show m=(L.map Prod.fst).length by rw[Az];exact f.m];exact TV.of (t:=.mk 4 0 [] (L.map Prod.fst) o) j (show(0:Nat)<_ by decide) (show(0:Nat)≤_ by decide)
theorem aQi{W0:Cx}{U V:View}{σ a:aN}{Φ:Value→View→aN→Prop}{v:Value}{W':World}(d c:aN)(x:Nat×Obj)(g:Mem W0 V σ W')(e:σ=(d++x::c)++a)(j:View.le U V)(h:Φ v V [x]):iQ W0 U a Φ (.returned v) W':=by
 subst e;refine⟨v,V,[x],rfl,j,g.sub (By ?_ (Cd a)),h⟩;have f:[x].Sublist (x::c):=List.Sublist.cons_cons x (List.nil_sublist c);exact f.trans (Dj d (x::c))
end Go.Proofs.YtcdjakemdlinhaaGreatDoor.Sx
namespace Go.Proofs.YtcdjakemdlinhaaGreatDoor
open Go.ChangeShapes Go.WideShapes Go.ChangeAt Go.RowKit Go.Deep
section
variable {P:Program} {ops:Array Oper} {Q:Exit→Act→World→Prop} {md:Region.Mode}
theorem aB4{C : Nat}(m fuel r : Nat)(ds : List Tmp)(Inv : (Nat → Bool) → (Nat → Value) → World → Prop){a0 : Act}{w : World}
  (hm:P.follows .mixedOrders=true) (y:ops.size=m+fuel)
  (f:ds.length=m) (q:aBL ops ds=true) (x:nodupB ds=true) (a:fI .any ops m=true) (c:lM .any ops m r=true)
  (B:∀u,Inv (fun _=>false) u w.drew)
  (d:∀i,i<m→∀(L:Nat→Bool) (u:Nat→Value) (w:World),Inv L u w→L i=false→(∀j,cJ .any ops i j=true→L j=true∧j<m)→(∀k j,L k=true→cJ .any ops k j=true→L j=true)→
   ∀K:Act→World→Prop,(∀v A,Inv (fun j=>if j=i then true else L j) (fun j=>if j=i then(if((ops[i]?).bind (·.dst)).isSome then v else u i)else u j) A→K ((eO ds 0 u a0).put ((ops[i]?).bind (·.dst)) v) A)→wpOp P ops Q i K (eO ds 0 u a0) w)
  (g:∀L u w,Inv L u w→(∀i,i<m→L i=true)→wpAny P .any ops Q fuel (firstM m ops.size) (eO ds 0 u a0) w):(Code.region C ops true).wp P Q a0 w:=by
 refine wp_region_any hm ?_;have h:=aCf (md:=.any) m ds Inv (w0:=w.drew) f q x (Cc oW) a c B d g;rw[←y]at h;exact h
end
end Go.Proofs.YtcdjakemdlinhaaGreatDoor
namespace Go.Proofs.YtcdjakemdlinhaaGreatDoor.Sx
open Go.ChangeShapes Go.WideShapes Go.ChangeAt Go.RowKit Go.Deep
section
variable {P:Program} {n:Nat} {W0:Cx} {s:aZ} {U:View} {σ0:aN}
theorem aQG{σ:aN}{o:Oper}{a:Act}{W:World}{K:Act→World→Prop}{Q:Exit→Act→World→Prop}(k b:Nat)(x:Obj)(h:stK P σ k s o=some (b,b,x))(C:o.dst=none)(u:pL n s a)(r:Mem W0 U σ W)(B:∀W',Mem W0 U (σ.set k (b,x)) W'→K a W'):o.wp P a W K Q:=by
 unfold stK at h;split at h
 ·next Z xo y F=>
  split at h
  ·next Y j v q c t I J D=>
   split at h
   ·next g=>
    simp only[Ab,Am]at h;obtain⟨rfl,rfl,rfl⟩:=h;rw[Ae]at g;obtain⟨G,E⟩:=g;have d:σ[k]? =some (q,.cells c.toList.toArray t (0,0)):=by simpa using D
    have A:=(r.own k q _ d).1;have f:j+v.cells.size≤c.toList.length:=by
     have:=Cw E;simpa using this
    unfold Oper.wp execOp;simp only[F,eG u I,eG u J,Instr.storeAt,Instr.sureAddr,Sem.run_bind,Sem.run_pure,Result.andThen_ok,aAr (mM A f) G];obtain⟨L,M,N,O,V,X⟩:=gO q v.cells.toList j W c.toList t A (by simpa using f);have:=B _ (r.set k q _ _ d O V X N L M);show K (a.put o.dst undef) _;rw[C];exact this
   ·cases h
  ·cases h
 ·cases h
structure StQ (P : Program) (n : Nat) (W0 : Cx) (U : View) (σ σ2 : aN) (ops : Array Oper) (ds : List Nat) (vs : List Sq) (s : aZ) (i : Nat) : Prop where
 go:∃(o:Oper) (ts:List Nat) (vals:(Nat→Value)→List Value),ops[i]? =some o∧o.guard=none∧o.dst=none∧(∀u,(ts.map fun x=>look (iP ops ds vs u i++aV s ds) x)=(vals u).map some)∧
  ∀(u:Nat→Value) (V:View),View.le U V→(∀j,cJ .any ops i j=true→gR vs j (u j) V)→∀(a:Act) (W:World),pL n (ts.zip (vals u)) a→Mem W0 V σ W→∀(K:Act→World→Prop) (Q:Exit→Act→World→Prop),(∀W',Mem W0 V σ2 W'→K a W')→o.wp P a W K Q
def ObS(P:Program)(n:Nat)(W0:Cx)(U:View)(σ σ2:aN)(ops:Array Oper)(ds:List Nat)(vs:List Sq)(s:aZ)(i k:Nat):Prop:=
 if k=i then StQ P n W0 U σ σ2 ops ds vs s i else Oq P n W0 U σ ops ds vs s k∧Oq P n W0 U σ2 ops ds vs s k
theorem ObS.o{σ a:aN}{ops:Array Oper}{ds:List Nat}{vs:List Sq}{i:Nat}(k:Nat)(c:k≠i)(h:Oq P n W0 U σ ops ds vs s k)(d:Oq P n W0 U a ops ds vs s k):ObS P n W0 U σ a ops ds vs s i k:=by
 unfold ObS;rw[An c];exact⟨h,d⟩
theorem ObS.st{σ d : aN}{ops : Array Oper}{ds : List Nat}{vs : List Sq}{i : Nat}{o : Oper}(j b : Nat)(x : Obj)(B : ops[i]? = some o)(A : o.guard = none)(k : o.dst = none)(ts : List Nat)(c : (Nat → Value) → List Value)(f : ∀ u, (ts.map fun x => look (iP ops ds vs u i ++ aV s ds) x) = (c u).map some)
  (h:∀u,stK P σ j (ts.zip (c u)) o=some (b,b,x)) (g:σ.set j (b,x)=d):ObS P n W0 U σ d ops ds vs s i i:=by
 unfold ObS;rw[Ar rfl];subst g;exact⟨⟨o,ts,c,B,A,k,f,fun u V _ _ a W y r K Q q=>aQG j b x (h u) k y r q⟩⟩
structure aRA (W0 : Cx) (U : View) (σ σ2 : aN) (vs : List Sq) (m i : Nat) (L : Nat → Bool) (u : Nat → Value) (w : World) (V : View) : Prop where
 le:View.le U V
 mem:Mem W0 V (if L i then σ2 else σ) w
 at_:∀j,j<m→L j=true→qY vs j (u j) V
theorem aBe{id : Nat}{l : List Oper}{Q : XQ}(m f r : Nat)(ds : List Nat)(vs : List Sq)(i : Nat)(C : aN)(hm : P.follows .mixedOrders = true)(a7 : l.length = m + f)(a1 : ds.length = m)
  (b3:aBL l.toArray ds=true) (a6:nodupB ds=true) (b9:(ds.all fun d=>Nat.blt d n)=true) (J:fI .any l.toArray m=true) (X:lM .any l.toArray m r=true) (E:jY l.toArray m f=true) (M:∀q∈vs,mX q)
  (O:((List.range m).all fun k=>decide (k=i)||((l.toArray[k]?).bind (·.dst)).isSome)=true) (b7:i<m) (c4:vs[i]? =some (.mem fun _ _=>True))
  (c7:Go.Proofs.YtcdjakemdlinhaaGreatDoor.Steps (ObS P n W0 U σ0 C l.toArray ds vs s i) 0 m)
  (ts:List Nat) (B:(Nat→Value)→List Value) (N:∀u,(ts.map fun t=>look (aDP u 0 ds vs++aV s ds) t)=(B u).map some)
  (h:∀(u:Nat→Value) (V:View),View.le U V→(∀j,j<m→gR vs j (u j) V)→SXL P n W0 Q l.toArray (l.drop m) (ts.zip (B u)) V C):SXC P n W0 Q (.region id l.toArray true) s U σ0:=by
 refine⟨fun a W Y hM=>?_⟩;have hn:=lH a6;have Z:∀d∈ds,d<n:=fun d Z=>by have:=Ao.1 b9 d Z;simpa[Ew]using this
 have c2:∀(v:Value) (V:View),qY vs i v V:=fun v V=>by unfold qY;rw[c4];trivial
 refine aB4 m f r ds (fun L u w=>∃V,aRA W0 U σ0 C vs m i L u w V) hm (by simpa using a7) a1 b3 a6 J X ?_ ?_ ?_
 ·intro u;exact⟨U,⟨View.le_refl _,hM.drew,fun j _ g=>by simp at g⟩⟩
 ·rintro k b8 L u w ⟨V,I⟩ a8 y c8 K hK;have A:=c7.get k (Ap _) oW;unfold ObS at A;split at A
  ·next F=>
   subst F;obtain⟨o,ts,B,ho,b4,b2,N,b5⟩:=A.go;have hr:=jH (a0:=a) (u:=u) (V:=V) (vs:=vs) (ops:=l.toArray) k Y hn Z fun j g=>.inl (I.at_ j (y j g).2 (y j g).1)
   unfold wpOp;simp only[ho,Region.wanted,b4,if_true];left;have c:=I.mem;rw[a8]at c;refine b5 u V I.le (fun j g=>(I.at_ j (y j g).2 (y j g).1).phi) _ w (iG ts _ hr (N u)) c _ _ fun W' G=>?_
   have:=hK undef W' ⟨V,⟨I.le,by rw[Ar rfl,Ar rfl];exact G,fun j g D=>?_⟩⟩
   ·rw[ho]at this;have e:(some o).bind (·.dst)=none:=b2;rw[e]at this;exact this
   ·by_cases e:j=k
    ·subst e;exact c2 _ _
    ·rw[An e]at D ⊢;exact I.at_ j g D
  ·next F=>
   have c1:((l.toArray[k]?).bind (·.dst)).isSome=true:=by
    have:=Ao.1 O k (Cm.2 b8);rw[Ba F,Fc]at this;exact this
   have b1:Oq P n W0 U (if L i then C else σ0) l.toArray ds vs s k:=by
    cases L i
    ·exact A.1
    ·exact A.2
   have b0:Mem W0 U (if L i then C else σ0) w:=I.mem.weak I.le;refine(b1.go a (up n W0 Q) Y hn Z M).step u w b0 (fun j g=>(I.at_ j (y j g).2 (y j g).1).isQ I.mem I.le) K fun v w' G hE hv=>?_
   obtain⟨V',h1,h2,h3⟩:=hv.at G;obtain⟨q1,q2,q3⟩:=Mem.join (I.mem.call hE) h2;refine hK v w' ⟨V.or V',⟨View.le_trans I.le q2,by have b6:(if i=k then true else L i)=L i:=An (fun e=>F e.symm);simp only[b6];exact q1,fun j g D=>?_⟩⟩;by_cases e:j=k
   ·subst e;rw[Ar rfl,Ar c1];exact h3.le M q3
   ·rw[An e]at D ⊢;exact(I.at_ j g D).le M q2
 ·rintro L u W' ⟨V,I⟩ D;refine iI f m _ W' (by simpa using a7.symm) E ?_;have hg:=fun t=>fX ds 0 u a t hn (by rw[Y.size];exact Z)
  have c0:∀j,j<m→gR vs j (u j) V:=fun j g=>(I.at_ j g (D j g)).phi
  have c:=I.mem;rw[D i b7,Ar rfl]at c;refine(h u V I.le c0).go _ W' (iG ts _ (s':=aDP u 0 ds vs++aV s ds) ⟨by rw[(hg 0).2.2.1,Y.size],by rw[(hg 0).2.2.2,Y.defers],fun x v hl=>?_⟩ (N u)) c;rcases eV _ _ _ _ hl with hl|⟨_,hl⟩
  ·have c:=iW _ _ _ hl;obtain⟨j,q,hd2,c6,hq⟩:=mI u 0 _ _ _ _ c;have c9:j<ds.length:=(Af.1 hd2).1;rw[(hg x).1 j hd2,Aw];cases q with
   |val w=>
    simp only at hq;have:=I.at_ j oW (D j oW);unfold qY at this;rw[c6]at this;simp only at this;rw[this,hq]
   |mem Φ=>simp only[Aw]at hq;rw[hq]
  ·obtain⟨h1,h2⟩:=fD _ _ _ _ hl;rw[(hg x).2.1 h1];exact Y.slots x v h2
end
section
variable {P:Program} {n:Nat} {W0:Cx} {Q:XQ} {s:aZ} {U:View} {σ:aN} {ops:Array Oper} {l:List Oper} {o:Oper}
theorem Rw.formC{r:Rw}{z m:Nat}{d:List Value}(h:r.ok z m d):∃a c,r.V m=.slice a m c∧m≤c:=by
 cases r with
 |nil=>obtain⟨rfl,_⟩:=h;exact⟨none,0,rfl,Bg _⟩
 |row b cap junk=>exact⟨_,_,rfl,h.2.2.1⟩
theorem aPi(t : Nat)(r : Rw)(j : List Value)(z m : Nat)(f : aN)(e : TypeId)(q : σ = f ++ r.B e j)(g : r.ok z m j)(A : look s t = some (r.V m))
  (h:∀a c V,View.le U V→aAn V a j→r.V m=.slice a m c∧m≤c→SXL P n W0 Q ops l ((t,.slice a m c)::s) V f):SXL P n W0 Q ops l s U σ:=by
 obtain⟨B,C,d,k⟩:=Rw.formC g;refine sE t r j z m f e q g A fun a c V y x u=>h a c V y x ⟨u,?_⟩
 rw[u]at d;simp only[Value.slice.injEq,Fm]at d;rw[d.2];exact k
end
def InR(_:View)(n:Int)(cs:List Value):Prop:=cs=[.int .i64 n]
instance inR:RecOk InR 1:=⟨fun _ h=>h,fun h=>by rw[h];rfl,fun h u hu=>by
 rw[h]at hu;obtain rfl:=Cl.1 hu;rfl⟩
theorem gF.ins{U:View}{a:Option Addr}{l:List Int}(h:gF InR 1 U a l):jT U a l:=⟨fun c=>by
 obtain⟨b,f,L,e,q,k,d⟩:=h.open c;refine⟨b,f,e,?_⟩;have u:∀L:List (Int×List Value),tM InR U L→L.flatMap Prod.snd=(L.map Prod.fst).map inV:=by
  intro L
  induction L with
  |nil=>intro _;rfl
  |cons p r ih=>
   intro⟨g,j⟩;rw[Bu,ih j,Cf,Cf];rw[show p.2=[.int .i64 p.1]from g];rfl
 rw[u L k,q]at d;exact d,h.len⟩
structure Gp (α : Type) where
 i:Nat
 r:Rw
 xs:List Value
 L:List (α×List Value)
 V:View
theorem aAk{V : View} : ∀ {L : List (Itm.Tr × List Value)}, gT V L → tM TV V L
 | [],_=>trivial
 |_::_,⟨a,c⟩=>⟨a,aAk c⟩
theorem RwR.app{α:Type}{R:View→α→List Value→Prop}{z:Nat}{V:View}{r f:Rw}{d:List Value}{m k:Nat}{L M:List (α×List Value)}(c:RwR R z V r d m L)(g:tM R V M)(h:M.length=k)(a:f.ok z (m+k) (d++M.flatMap Prod.snd)):RwR R z V f (d++M.flatMap Prod.snd) (m+k) (L++M):=
 ⟨a,by rw[c.xs,Bz],by rw[c.m,Ac,h],c.all.app g⟩
theorem dU{α β:Type}{l:List α}{i:Nat}{y:α}(f:α→β)(h:l[i]? =some y):(l.take (i+1)).map f=(l.take i).map f++[f y]:=by
 rw[Ci,h,Br];rfl
theorem sC{α:Type}{l:List α}{i:Nat}{y:α}(f:α→Bool)(h:l[i]? =some y):(l.take (i+1)).all f=((l.take i).all f&&f y):=by
 rw[Ci,h,Fo];simp
section
variable {P:Program} {n:Nat} {W0:Cx} {Q:XQ} {s:aZ} {U:View} {σ:aN} {ops:Array Oper} {l:List Oper} {o:Oper}
theorem aAU(c a b:aN)(d:σ=(c++a)++b)(h:SXL P n W0 Q ops l s U ((c++b)++a)):SXL P n W0 Q ops l s U σ:=by
 subst d;refine aDj ?_ h;rw[Al,Al];exact Dw _ Bw
theorem aGK(d c:aN)(x:Nat×Obj)(a:σ=d++x::c)(h:SXL P n W0 Q ops l s U ((d++c)++[x])):SXL P n W0 Q ops l s U σ:=by
 subst a;refine aDj ?_ h;rw[Al];refine Dw _ ?_;exact(Bw (l₁:=[x]) (l₂:=c))
end
def aQW(l:List Itm.Tr)(v:Value)(V:View):Prop:=∃a c,v=.slice a l.length c∧eZ V a l
structure Gp2 where
 i:Nat
 r:Rw
 xs:List Value
 L:List (Itm.Tr×List Value)
 r2:Rw
 xs2:List Value
 L2:List (Itm.Tr×List Value)
 V:View
theorem aGW{w:World}{U V:View}{W':World}{q:aN}{e:TypeId}{r:Rw}{k:List Value}{m:Nat}(y:Mem ⟨w,U⟩ V (q++r.B e k) W')(j:r.ok 5 m k)(h:View.le U V)(L:List (Itm.Tr×List Value))(x:k=L.flatMap Prod.snd)(u:gT V L)(l:List Itm.Tr)(A:L.map Prod.fst=l)(hm:m=l.length)(f:m≤R47):fO w U (aQW l) (.returned (r.V m)) W':=by
 obtain⟨a,c,C,d,hR,B,g⟩:=y.freezeRw j;rw[B];exact aH g (View.le_trans h d) ⟨a,c,by rw[hm],eZ.ofRow L hR x (u.le d) l A (by rw[←hm];exact f)⟩
end Go.Proofs.YtcdjakemdlinhaaGreatDoor.Sx
namespace Go.Proofs.YtcdjakemdlinhaaGreatDoor.Sx
open Go.ChangeShapes Go.WideShapes Go.ChangeAt Go.RowKit Go.Deep Go.Extern.Stop Go.Stop
section
variable {P:Program} {s:aZ} {o:Oper}
theorem aAa{op:BinOp}{t:TypeId}{x y:Operand}{u:TypeId}{v b:Value}(W:World):(eqGuard op t x y (.iface u v) b).run P W=.ok () W:=by
 unfold eqGuard;cases op<;>rfl
theorem aJy(op:BinOp)(r:Bool)(t g:TypeId)(x y:Operand)(c:o.op=.binOp op t x y g)(a:(op=.eql∧r=false)∨(op=.neq∧r=true))(h:P.isIface t=true)(u:TypeId)(v:Value)(d:evS s x=some (.iface u v))(f:evS s y=some .nilIface)(W:World):
  (execOp (ev s) o).run P W=.ok (.value (.bool r)) W:=by
 unfold execOp;simp only[c,dY d,dY f,Sem.run_bind,aAa,Result.andThen_ok];rcases a with⟨rfl,rfl⟩|⟨rfl,rfl⟩
 ·simp only[run_eql_iface_nil W t h u v,Result.andThen_ok,Sem.run_pure]
 ·simp only[run_neq_iface_nil W t h u v,Result.andThen_ok,Sem.run_pure]
theorem oU(op:BinOp)(r:Bool)(t j:TypeId)(x:Operand)(f:o.op=.binOp op t x (.const .nilIface) j)(a:(op=.eql∧r=true)∨(op=.neq∧r=false))(h:P.isIface t=true)(g:evS s x=some .nilIface)(W:World):
  (execOp (ev s) o).run P W=.ok (.value (.bool r)) W:=by
 have d:(eqGuard op t x (.const .nilIface) .nilIface .nilIface).run P W=.ok () W:=by
  unfold eqGuard;cases x<;>cases op<;>rfl
 have c:ev s (.const .nilIface)=.nilIface:=rfl;unfold execOp;simp only[f,dY g,c,Sem.run_bind,d,Result.andThen_ok];rcases a with⟨rfl,rfl⟩|⟨rfl,rfl⟩
 ·simp only[run_eql_nil_nil_at W t h,Result.andThen_ok,Sem.run_pure]
 ·simp only[run_neq_nil_nil_at W t h,Result.andThen_ok,Sem.run_pure]
theorem aLN{h:Array (String×TypeId)}(t j:TypeId)(x y:Operand)(d:o.op=.binOp .eql t x y j)(u:TypeId)(v:Value)(f:evS s x=some .nilIface)(g:evS s y=some (.iface u v))(c:P.underlying t=some (.interface h))(W:World):
  (execOp (ev s) o).run P W=.ok (.value (.bool false)) W:=by
 have a:(eqGuard .eql t x y .nilIface (.iface u v)).run P W=.ok () W:=by unfold eqGuard;rfl
 unfold execOp;simp only[d,dY f,dY g,Sem.run_bind,a,Result.andThen_ok,run_eql_iface_nil_left W u v c,Sem.run_pure]
theorem aNZ{r:Array (String×TypeId)}(t u:TypeId)(x y:Operand)(j:o.op=.binOp .eql t x y u)(c d:TypeId)(f g:Value)(k:evS s x=some (.iface c f))(q:evS s y=some (.iface d g))(h:P.underlying t=some (.interface r))(a:c≠d)(W:World):
  (execOp (ev s) o).run P W=.ok (.value (.bool false)) W:=by
 unfold execOp;simp only[j,dY k,dY q,Sem.run_bind,aAa,Result.andThen_ok,run_eql_iface_types c d f g h a,Sem.run_pure]
theorem aN0{B : Array (String × TypeId)}(t C : TypeId)(x y : Operand)(q : o.op = .binOp .eql t x y C)(tp te : TypeId)(a : Addr)(u : evS s x = some (.iface tp (.pointer (some a))))(A : evS s y = some (.iface tp (.pointer (some a))))(h : P.underlying t = some (.interface B))(r : P.underlying tp = some (.pointer te))
  (f:(P.info? tp).map (·.comparable)=some true) (g:(P.info? te).isSome=true) (W:World):(execOp (ev s) o).run P W=.ok (.value (.bool true)) W:=by
 obtain⟨i,d,c⟩:=Cz.1 f;obtain⟨j,k⟩:=Cg.1 g;unfold execOp;simp only[q,dY u,dY A,Sem.run_bind,aAa,Result.andThen_ok,run_eql_iface_ptr_same W a h r d c k,Sem.run_pure]
theorem aNX{c:Array (String×TypeId)}(x:Operand)(d a:TypeId)(f:o.op=.typeAssert x d a true)(t:TypeId)(v:Value)(j:evS s x=some (.iface t v))(g:P.underlying a=some (.interface c))(h:(P.info? t).map (fun i=>(lacking c i.methods).isEmpty)=some false)(k:(P.info? a).map (·.zero)=some (some .nilIface))(W:World):
  (execOp (ev s) o).run P W=.ok (.value (.tuple #[.nilIface,.bool false])) W:=by
 unfold execOp;simp only[f,dY j,Sem.run_bind,run_typeAssert_lacksB g h k v d W,Result.andThen_ok,Sem.run_pure]
theorem aNW{c:Array (String×TypeId)}(x:Operand)(d a:TypeId)(f:o.op=.typeAssert x d a true)(t:TypeId)(v:Value)(j:evS s x=some (.iface t v))(g:P.underlying a=some (.interface c))(h:(P.info? t).map (fun i=>(lacking c i.methods).isEmpty)=some true)(W:World):
  (execOp (ev s) o).run P W=.ok (.value (.tuple #[.iface t v,.bool true])) W:=by
 unfold execOp;simp only[f,dY j,Sem.run_bind,run_typeAssert_hasB g h v d W,Result.andThen_ok,Sem.run_pure]
end
inductive Er where
 |leaf
 |wrap (s:List UInt8) (e:Er)
def Er.V(a : Addr) : Er → Value
 | .leaf=>.iface 338 (.pointer (some a))
 | .wrap s e=>.iface 281 (.agg #[.string (B s),e.V a])
def Er.deep : Er → Nat
 | .leaf=>0
 | .wrap _ e=>e.deep+1
theorem Er.form(a:Addr)(e:Er):∃u v,e.V a=.iface u v:=by cases e<;>exact⟨_,_,rfl⟩
theorem aAt{P:Program}{s:aZ}{o:Oper}(op:BinOp)(r:Bool)(t f:TypeId)(x y:Operand)(j:o.op=.binOp op t x y f)(c:(op=.eql∧r=false)∨(op=.neq∧r=true))(h:P.isIface t=true)(a:Addr)(e:Er)(d:evS s x=some (e.V a))(k:evS s y=some .nilIface)(W:World):
  (execOp (ev s) o).run P W=.ok (.value (.bool r)) W:=by
 obtain⟨u,v,g⟩:=e.form a;rw[g]at d;exact aJy op r t f x y j c h u v d k W
def EF(U:View)(a:Addr):Prop:=U ⟨0,0,none⟩=some (.iface 338 (.pointer (some a)))
theorem EF.le{U V:View}{a:Addr}(h:View.le U V)(c:EF U a):EF V a:=h _ _ c
end Go.Proofs.YtcdjakemdlinhaaGreatDoor.Sx
namespace Go.Proofs.YtcdjakemdlinhaaGreatDoor.Sx
open Go.ChangeShapes Go.WideShapes Go.ChangeAt Go.RowKit Go.Deep
theorem aPJ(n c:Nat)(j:c<256)(h:n*256+c<18446744073709551616):orI .u64 (IntKind.u64.wrap ((n:Int)*2^8)) (c:Int)=((n*256+c:Nat):Int):=by
 have g:n*256<18446744073709551616:=Gr (Fv _ _) h;have a:c<18446744073709551616:=Gr (Nat.le_add_left _ _) h;have f:IntKind.u64.wrap ((n:Int)*2^8)=((n*256:Nat):Int):=by rw[show((n:Int)*2^8)=((n*256:Nat):Int) by omega];exact u64_in oW oW
 have t:∀m:Nat,m<18446744073709551616→(BitVec.ofInt IntKind.u64.bits (m:Int)).toNat=m:=by
  intro m k;rw[BitVec.toNat_ofInt];show((m:Int)%((18446744073709551616:Nat):Int)).toNat=m;omega
 have d:=Nat.shiftLeft_add_eq_or_of_lt (i:=8) (b:=c) oW n;rw[Nat.shiftLeft_eq]at d;rw[f];unfold orI;rw[BitVec.toNat_or,t (n*256) g,t c a,show n*256 ||| c=n*256+c from d.symm];exact u64_in oW oW
def pI(m:Int):Bool:=(decide (m≥2)&&decide (m<6))||(m==7)
theorem aJX(m:Int)(w:World):CP 183 #[.int .i64 m] w (Ret (.bool (pI m)) w):=by
 refine dI 13 Tryz.func183 ?_;refine zQ 1 (zn (zQ 3 (cN 5 (decide (m≥2)) (fun c=>?_) (fun c=>?_))))
 ·refine zq 4 (cN 9 (decide (m<6)) (fun d=>?_) (fun d=>?_))
  ·refine zq 4 (zn (aA (aO [2] [(.bool true)] (fun f a=>?_))));exact⟨by simp only[dC,pI,c,d,bs,bQ,reduceIte],a.below⟩
  ·refine zq 4 (zn (aA (aO [2] [(.bool (m==7))] (fun f a=>?_))));exact⟨by simp only[dC,pI,c,d,bs,bQ,reduceIte],a.below⟩
 ·refine zq 8 (zn (aA (aO [2] [(.bool (m==7))] (fun f a=>?_))));exact⟨by simp only[dC,pI,c,bs,bQ,reduceIte],a.below⟩
def dX(n:Nat)(l:List UInt8):Nat:=l.foldl (fun n c=>n*256+c.toNat) n
theorem aIm{l:List UInt8}{i n:Nat}{y:UInt8}(h:l[i]? =some y):dX n (l.drop i)=dX (n*256+y.toNat) (l.drop (i+1)):=by
 unfold dX;rw[fN h,Fz]
theorem aMm(l:List UInt8)(w:World)(V:l.length≤8):CP 249 #[.string (B l)] w (Ret (.int .u64 ((dX 0 l:Nat):Int)) w):=by
 refine dI 20 Tryz.func249 ?_;refine zQ 1 (zn (zQ 1 (zn (zs (zQ 1 ?_)))));refine aDm 9 160 5 (.tmp 6) rfl l kR kR kR kR kR kR (fun f A C I h F=>?_);have k:=aGC.of h (by first|assumption|omega);refine zq 2 (zn (aB (eY (α:=Nat×Nat) (fun x=>[2,3,7,8,9].zip [(U6 0),(N6 (x.2:Nat)),(Sl f 0 l.length A),(L6 l.length),(L6 x.1)]) (fun x=>C) (fun x=>[]) (fun x=>x.1≤l.length∧dX x.2 (l.drop x.1)=dX 0 l∧x.2<256^x.1) (fun x=>l.length-x.1) (0,0) ?_ ?_)))
 ·exact⟨Ap _,rfl,by simp⟩
 intro x J;obtain⟨K,c,L⟩:=J;refine zQ 1 (zn (zs (cE ((x.1:Int)<(l.length:Int)) (fun E g=>?_) (fun E g=>?_))))
 ·refine zk (zs (aB (zs (zr ?_))));obtain⟨a,d⟩:∃y,(l)[x.1]? =some y:=⟨(l)[x.1]'oW,Aa _⟩;obtain⟨N,O,D,j⟩:=k.one d;cases D;have u:=a.toNat_lt;have X:256^x.1≤256^7:=Dr (by decide) oW;have r:=aPJ x.2 a.toNat u oW;have q:IntKind.u64.wrap (a.toNat:Int)=(a.toNat:Int):=u64_in oW oW;refine cD (Pt f (0+x.1)) (eQ _ 5 _ _ rfl f 0 l.length A x.1 .i64 kR kR (by first|assumption|omega) kR kR) ?_;refine zV f (0+x.1) (.int .u8 (a.toNat:Int)) j 5 (.tmp 11) _ Tryz.underlying5 rfl ?_;refine zq 1 (zn (zr (zq 4 (dS 16 (U6 (IntKind.u64.wrap (a.toNat:Int))) (N6 (a.toNat:Nat)) (Ag (Value.int .u64) q) ?_))));refine zq 1 (dS 17 (U6 (orI .u64 (IntKind.u64.wrap ((x.2:Int)*2^8)) (a.toNat:Int))) (N6 (x.2*256+a.toNat:Nat)) (Ag (Value.int .u64) r) ?_);refine zq 1 (zn (zr (zq 1 (eC 18 ((x.1:Int)+1) (zq 1 (zn ?_))))));refine nx (x.1+1,x.2*256+a.toNat) ?_ ?_
  ·exact⟨by show x.1+1≤_;omega,by rw[←c,aIm d],by have:=a.toNat_lt;rw[Fs];omega⟩
  ·show l.length-(x.1+1)<l.length-x.1;omega
 ·refine aK (zQ 2 (zn (aA (aO [2] [(N6 (x.2:Nat))] (fun M G=>?_)))));refine⟨?_,G.below⟩;rw[show x.1=l.length by omega,Ex]at c;rw[←c];rfl
theorem iF(a:Rd)(r:Nat){W0:Cx}{U:View}{c:aN}{W:World}(d:Mem W0 U ([(r,a.O)]++c) W):CP 213 #[.pointer (some ⟨r,0,none⟩)] W (iQ W0 U c fun v V σ'=>v=.tuple #[.int .i64 a.bad,.int .i64 a.e]∧σ'=[(r,a.O)]):=by
 have f:Mem W0 U ([(bK r [(St a.b),(I6 (a.at_:Int)),(I6 a.bad),(I6 a.e),(I6 (a.frm:Int))] 297)]++c) W:=d.eqv kR;refine fU 12 Tryz.func213 f ?_;refine zQ 2 (zn (zs ?_));refine iM 0 [0,0,0,3,0,0,0,3,0] [(r,1),(r,1)] [] trivial ?_;refine zq 1 (zn (aA (aO [2,3] [(I6 a.bad),(I6 a.e)] (fun g d=>?_))));exact eS (σ':=[(bK r [(St a.b),(I6 (a.at_:Int)),(I6 a.bad),(I6 a.e),(I6 (a.frm:Int))] 297)]) d (View.le_refl _) ⟨rfl,rfl⟩
theorem qS : ∀ (l : List UInt8) (n k : Nat), n < 256 ^ k → dX n l < 256 ^ (k + l.length)
 | [],n,k,h=>by simpa[dX]using h
 |c::l,n,k,h=>by
  have a:=c.toNat_lt;have:=qS l (n*256+c.toNat) (k+1) (by rw[Fs];omega);rw[Ah,show k+(l.length+1)=k+1+l.length by omega];exact this
def hd2(s:List UInt8)(m z:Nat):Option (Nat×Nat×Bool×Nat):=
 if decide ((s.length:Int)<((1+z:Nat):Int))then none
 else if(((Itm.aE m (dX 0 ((s.drop 1).take z))).length:Int) !=((1+z:Nat):Int))then none else some (m,dX 0 ((s.drop 1).take z),false,1+z)
def hd1(s:List UInt8)(m k:Nat):Option (Nat×Nat×Bool×Nat):=
 if k<24 then some (m,k,false,1)else if k=31∧pI (m:Int)=true then some (m,0,true,1)else if 28≤k then none else hd2 s m (2^(k-24))
def hdF(s:List UInt8):Option (Nat×Nat×Bool×Nat):=match s[0]? with
 |none=>none
 |some c=>hd1 s (c.toNat/32) (c.toNat%32)
def hdV : Option (Nat × Nat × Bool × Nat) → Value
 |none=>.tuple #[.int .i64 0,.int .u64 0,.bool false]
 |some (m,n,o,_)=>.tuple #[.int .i64 (m:Int),.int .u64 (n:Int),.bool o]
def hdR(s : List UInt8) : Option (Nat × Nat × Bool × Nat) → Rd
 |none=>⟨s,0,0,2,0⟩
 |some (_,_,_,z)=>⟨s,z,-1,0,0⟩
def aAS(r:Nat)(s:List UInt8)(x:Option (Nat×Nat×Bool×Nat))(v:Value)(_:View)(σ:aN):Prop:=v=hdV x∧σ=[(r,(hdR s x).O)]
theorem aMv(s:List UInt8)(r:Nat)(h:(s==[])=true){W0:Cx}{U:View}{a:aN}{W:World}(c:Mem W0 U ([(r,(Rd.new s).O)]++a) W):CP 238 #[.pointer (some ⟨r,0,none⟩)] W (iQ W0 U a (aAS r s (none))):=by
 have d:Mem W0 U ([(bK r [(St s),(I6 0),(I6 (-1)),(I6 0),(I6 0)] 297)]++a) W:=c.eqv kR;refine fU 104 Tryz.func238 d ?_;refine zQ 3 (zn (zs (zB [0,0,0,1,0] [(r,1)] (zn (dD (zk (zs ?_)))))));refine iM 3 [0,0,0,3,0,0,0,3] [(r,1),(r,1)] [] trivial ?_;refine cD (St s) (iK 9 _ (some _) none rfl s 0 s.length s kR (show evS _ _=_ by kernel_rfl) rfl nL nL (by simp) Tryz.underlying9) ?_;refine zq 1 (zn (zs (zQ 1 (cD (.bool (s==[])) (iR _ _ _ _ rfl s [] kR kR) ?_))));refine zn (iA (s==[]) h ?_);refine zQ 1 (eM 0 (fun W c=>iT (Rd.new s) 2 r c) (fun v0 j q g f=>?_));obtain⟨rfl,rfl⟩:=f;refine zn (zQ 3 (zn (aA (aO [2,3,4] [(I6 0),(U6 0),(.bool false)] (fun k c=>?_)))));exact eS (σ':=[(bK r [(St s),(I6 0),(I6 0),(I6 2),(I6 0)] 297)]) c g ⟨rfl,rfl⟩
theorem aPW(s:List UInt8)(r:Nat)(c:UInt8)(hc:s[0]? =some c)(hs:(s==[])=false)(A:s.length≤R47){W0:Cx}{U:View}{j:aN}{W:World}(d:Mem W0 U ([(r,(Rd.new s).O)]++j) W):CP 238 #[.pointer (some ⟨r,0,none⟩)] W (iQ W0 U j (aAS r s (hd1 s (c.toNat/32) (c.toNat%32)))):=by
 have b3:=c.toNat_lt;unfold R47 at A;have N:Mem W0 U ([(bK r [(St s),(I6 0),(I6 (-1)),(I6 0),(I6 0)] 297)]++j) W:=d.eqv kR;refine fU 104 Tryz.func238 N ?_;refine zQ 3 (zn (zs (zB [0,0,0,1,0] [(r,1)] (zn (dD (zk (zs ?_)))))));refine iM 3 [0,0,0,3,0,0,0,3] [(r,1),(r,1)] [] trivial ?_;refine cD (St s) (iK 9 _ (some _) none rfl s 0 s.length s kR (show evS _ _=_ by kernel_rfl) rfl nL nL (by simp) Tryz.underlying9) ?_;refine zq 1 (zn (zs (zQ 1 (cD (.bool (s==[])) (iR _ _ _ _ rfl s [] kR kR) ?_))));refine zn (dO (s==[]) hs ?_);refine zk (zs ?_);refine iM 0 [0,1,0,1,0,1,0,1,0] [] [.val (.int .u8 (c.toNat:Int)),.val (L6 (c.toNat/32)),.val (.int .u8 (c.toNat:Int)),.val (L6 (c.toNat%32))] ⟨?_,?_,?_,?_,trivial⟩ ?_
 ·exact vR (qZ 9 _ _ rfl s 0 .i64 c kR kR hc Tryz.underlying9)
 ·exact vE (I6 (IntKind.i64.wrap (((c.toNat:Int)).fdiv (2^5)))) (Ag (Value.int .i64) (aKv c))
 ·exact vR (qZ 9 _ _ rfl s 0 .i64 c kR kR hc Tryz.underlying9)
 ·exact vE (I6 (IntKind.i64.wrap (iY .u8 (c.toNat:Int) 31))) (Ag (Value.int .i64) (aMi c))
 refine zq 1 (zn (zs (aB (zQ 3 (zn (cE (((c.toNat%32:Nat):Int)<24) (fun h0 B=>?_) (fun h0 B=>?_)))))))
 ·refine zB [0,0,0,1,0,0,0] [(r,1)] (aX 0 r (zn (zQ 3 (dS 48 (U6 (IntKind.u64.wrap ((c.toNat%32:Nat):Int))) (N6 (c.toNat%32:Nat)) (Ag (Value.int .u64) (u64_in oW oW)) ?_))));refine zq 3 (zn (aA (aO [2,3,4] [(L6 (c.toNat/32)),(N6 (c.toNat%32:Nat)),(.bool false)] (fun k d=>?_))));refine eS (σ':=[(bK r [(St s),(I6 1),(I6 (-1)),(I6 0),(I6 0)] 297)]) d (View.le_refl _) ?_;unfold hd1;rw[Ar oW];exact⟨rfl,rfl⟩
 ·refine zQ 3 (oT 52 ((c.toNat%32:Nat):Int) 31 (fun h1 C=>?_) (fun h1 C=>?_))
  ·refine zq 1 (dK (fun W d=>aJX ((c.toNat/32:Nat):Int) W) (zq 2 (zn (gN (pI ((c.toNat/32:Nat):Int)) (fun q=>?_) (fun q=>?_)))))
   ·refine zB [0,0,0,1,0,0,0] [(r,1)] (aX 0 r (zn (zQ 4 (zn (aA (aO [2,3,4] [(L6 (c.toNat/32)),(U6 0),(.bool true)] (fun k d=>?_)))))));refine eS (σ':=[(bK r [(St s),(I6 1),(I6 (-1)),(I6 0),(I6 0)] 297)]) d (View.le_refl _) ?_;unfold hd1;rw[An oW,Ar ⟨by omega,q⟩];exact⟨rfl,rfl⟩
   ·refine zQ 3 (zn (iA (decide (((c.toNat%32:Nat):Int)≥28)) (Cc (by have:=eq_of_beq h1;omega)) ?_));refine zQ 1 (eM 0 (fun W d=>iT (Rd.new s) 2 r d) (fun v0 V0 s0 Z O=>?_));obtain⟨rfl,rfl⟩:=O;refine zn (zQ 3 (zn (aA (aO [2,3,4] [(I6 0),(U6 0),(.bool false)] (fun k d=>?_)))));refine eS (σ':=[(bK r [(St s),(I6 0),(I6 0),(I6 2),(I6 0)] 297)]) d Z ?_;unfold hd1;rw[An oW,An (fun h=>by have:=h.2;rw[q]at this;cases this),Ar oW];exact⟨rfl,rfl⟩
  ·refine zq 4 (zn (dD (zQ 3 (zn (cE (((c.toNat%32:Nat):Int)≥28) (fun D E=>?_) (fun D E=>?_))))))
   ·refine zQ 1 (eM 0 (fun W d=>iT (Rd.new s) 2 r d) (fun v1 V1 s1 a1 V=>?_));obtain⟨rfl,rfl⟩:=V;refine zn (zQ 3 (zn (aA (aO [2,3,4] [(I6 0),(U6 0),(.bool false)] (fun k d=>?_)))));refine eS (σ':=[(bK r [(St s),(I6 0),(I6 0),(I6 2),(I6 0)] 297)]) d a1 ?_;unfold hd1;rw[An oW,An (fun h=>by omega),Ar oW];exact⟨rfl,rfl⟩
   ·refine zk ?_;refine dH (α:=Nat) (fun a=>[0,2,3,4,5,6,8].zip [(Pt r 0),(I6 0),(U6 0),(.bool false),(St s),(L6 (c.toNat/32)),(L6 a)]) (fun a=>U) (fun a=>([(bK r [(St s),(I6 0),(I6 (-1)),(I6 0),(I6 0)] 297)]++j)) (fun a=>a=2^(c.toNat%32-24)∧(1≤a∧a≤8)) ?_ ?_
    ·refine zr (zq 2 (eC 70 (((c.toNat%32:Nat):Int)-24) ?_));rcases Ax (((c.toNat%32:Nat):Int)==24)with u|u
     ·have F:=eq_of_beq u;have f:c.toNat%32=24:=by have:=eq_of_beq u;omega
      refine dS 70 (I6 (((c.toNat%32:Nat):Int)-24)) (I6 0) (Ag (Value.int .i64) oW) ?_;refine zq 1 (zq 1 (zn ?_));refine jn 1 ?_;rw[f];exact⟨rfl,by decide,by decide⟩
     ·have F:=Ai.1 u;rcases Ax (((c.toNat%32:Nat):Int)==25)with x|x
      ·have G:=eq_of_beq x;have f:c.toNat%32=25:=by have:=eq_of_beq x;omega
       refine dS 70 (I6 (((c.toNat%32:Nat):Int)-24)) (I6 1) (Ag (Value.int .i64) oW) ?_;refine zq 1 (zq 1 (zn ?_));refine jn 2 ?_;rw[f];exact⟨rfl,by decide,by decide⟩
      ·have G:=Ai.1 x;rcases Ax (((c.toNat%32:Nat):Int)==26)with y|y
       ·have I:=eq_of_beq y;have f:c.toNat%32=26:=by have:=eq_of_beq y;omega
        refine dS 70 (I6 (((c.toNat%32:Nat):Int)-24)) (I6 2) (Ag (Value.int .i64) oW) ?_;refine zq 1 (zq 1 (zn ?_));refine jn 4 ?_;rw[f];exact⟨rfl,by decide,by decide⟩
       ·have I:=Ai.1 y;have f:c.toNat%32=27:=by have b0:=Ai.1 u;have b1:=Ai.1 x;have b2:=Ai.1 y;omega
        refine dS 70 (I6 (((c.toNat%32:Nat):Int)-24)) (I6 3) (Ag (Value.int .i64) oW) ?_;refine zq 1 (zq 1 (zn ?_));refine jn 8 ?_;rw[f];exact⟨rfl,by decide,by decide⟩
    intro a g;obtain⟨g,b4⟩:=g;have a8:dX 0 ((s.drop 1).take a)<W64:=by
     have h:=qS ((s.drop 1).take a) 0 0 (by simp);have q:256^(0+((s.drop 1).take a).length)≤256^8:=Dr (by decide) (by rw[Bb];omega);have D:(256:Nat)^8=W64:=by decide
     exact Dv h (El q (Nat.le_of_eq D))
    refine zs (zQ 4 (dS 75 (I6 (IntKind.i64.wrap (1+(a:Int)))) (L6 (1+a)) (Ag (Value.int .i64) (by rw[IntWalk.i64_in _ oW];omega)) ?_));refine zq 1 (zn (cE ((((s).length:Nat):Int)<((1+a:Nat):Int)) (fun h7 J=>?_) (fun h7 J=>?_)))
    ·refine zQ 1 (eM 0 (fun W d=>iT (Rd.new s) 2 r d) (fun v2 V2 s2 a6 X=>?_));obtain⟨rfl,rfl⟩:=X;refine zn (zQ 3 (zn (aA (aO [2,3,4] [(I6 0),(U6 0),(.bool false)] (fun k d=>?_)))));refine eS (σ':=[(bK r [(St s),(I6 0),(I6 0),(I6 2),(I6 0)] 297)]) d a6 ?_;unfold hd1;rw[An oW,An (fun h=>by omega),An oW,←g];unfold hd2;rw[Ar (Cc oW)];exact⟨rfl,rfl⟩
    ·refine zk (zQ 3 (dS 81 (I6 (IntKind.i64.wrap (1+(a:Int)))) (L6 (1+a)) (Ag (Value.int .i64) (by rw[IntWalk.i64_in _ oW];omega)) ?_));refine cD (St ((s.drop 1).take ((1+a)-1))) (iK 9 _ (some _) (some _) rfl s 1 (1+a) ((s.drop 1).take ((1+a)-1)) kR (show evS _ _=_ by kernel_rfl) (show evS _ _=_ by kernel_rfl) nL nL rfl Tryz.underlying9) ?_;refine dS 82 (St ((s.drop 1).take ((1+a)-1))) (St ((s.drop 1).take a)) (by rw[Eg]) ?_;refine dK (fun W d=>aMm ((s.drop 1).take a) W (by rw[Bb];omega)) (zq 1 (zn (zs (zQ 2 (dK (fun W d=>iX (c.toNat/32) (dX 0 ((s.drop 1).take a)) W oW a8) (zq 3 (dS 89 (I6 (IntKind.i64.wrap (1+(a:Int)))) (L6 (1+a)) (Ag (Value.int .i64) (by rw[IntWalk.i64_in _ oW];omega)) ?_)))))));refine zq 1 (zn (jD ((((Itm.aE (c.toNat/32) (dX 0 ((s.drop 1).take a)))).length:Nat):Int) ((1+a:Nat):Int) (fun K L=>?_) (fun K L=>?_)))
     ·refine zQ 1 (eM 0 (fun W d=>iT (Rd.new s) 2 r d) (fun v3 V3 s3 a7 Y=>?_));obtain⟨rfl,rfl⟩:=Y;refine zn (zQ 3 (zn (aA (aO [2,3,4] [(I6 0),(U6 0),(.bool false)] (fun k d=>?_)))));refine eS (σ':=[(bK r [(St s),(I6 0),(I6 0),(I6 2),(I6 0)] 297)]) d a7 ?_;unfold hd1;rw[An oW,An (fun h=>by omega),An oW,←g];unfold hd2;rw[An (by rw[Ba oW];exact Bn)];have M:(((Itm.aE (c.toNat/32) (dX 0 ((s.drop 1).take a))).length:Int) !=((1+a:Nat):Int))=true:=K;rw[Ar M];exact⟨rfl,rfl⟩
     ·refine zk (zB [0,0,0,1,0,0] [(r,1)] (dS 98 (I6 (IntKind.i64.wrap (1+(a:Int)))) (L6 (1+a)) (Ag (Value.int .i64) (by rw[IntWalk.i64_in _ oW];omega)) ?_));refine zq 1 (dS 99 (I6 (IntKind.i64.wrap (0+((1+a:Nat):Int)))) (L6 (1+a)) (Ag (Value.int .i64) (by rw[IntWalk.i64_in _ oW];omega)) ?_);refine zq 2 (aX 0 r (zn (zQ 5 (zn (aA (aO [2,3,4] [(L6 (c.toNat/32)),(N6 (dX 0 ((s.drop 1).take a))),(.bool false)] (fun k d=>?_)))))));refine eS (σ':=[(bK r [(St s),(L6 (1+a)),(I6 (-1)),(I6 0),(I6 0)] 297)]) d (View.le_refl _) ?_;unfold hd1;rw[An oW,An (fun h=>by omega),An oW,←g];unfold hd2;rw[An (by rw[Ba oW];exact Bn)];have M:(((Itm.aE (c.toNat/32) (dX 0 ((s.drop 1).take a))).length:Int) !=((1+a:Nat):Int))=false:=K;rw[An (by rw[M];exact Bn)];exact⟨rfl,rfl⟩
theorem aHb(s:List UInt8)(r:Nat)(a:s.length≤R47){W0:Cx}{U:View}{d:aN}{W:World}(f:Mem W0 U ([(r,(Rd.new s).O)]++d) W):CP 238 #[.pointer (some ⟨r,0,none⟩)] W (iQ W0 U d (aAS r s (hdF s))):=by
 unfold hdF;cases g:s[0]? with
 |none=>exact aMv s r (by cases s<;>simp_all) f
 |some c=>exact aPW s r c g (by cases s<;>simp_all) a f
theorem aL0(s:List UInt8)(r:Nat)(j:hdF s=none)(d:s.length≤R47){W0:Cx}{U:View}{a:aN}{W:World}(c:Mem W0 U ([(r,(Rd.new s).O)]++a) W):CP 212 #[.pointer (some ⟨r,0,none⟩)] W (iQ W0 U a (aAS r s (none))):=by
 have f:Mem W0 U ([(bK r [(St s),(I6 0),(I6 (-1)),(I6 0),(I6 0)] 297)]++a) W:=c.eqv kR;refine fU 17 Tryz.func212 f ?_;refine zQ 3 (zn (zB [0,0,0,0,1,0,0] [(r,1)] (aX 0 r (zn (zQ 1 (jU 0 (bK r [(St s),(I6 0),(I6 (-1)),(I6 0),(I6 0)] 297) 238 #[(Pt r 0)] (aAS r s (none)) (fun W c=>j▸aHb s r d c) (fun v0 k u h g=>?_)))))));obtain⟨rfl,rfl⟩:=g;refine zq 6 (zn (aA (aO [2,3,4] [(I6 0),(U6 0),(.bool false)] (fun q c=>?_))));exact eS (σ':=[(bK r [(St s),(I6 0),(I6 0),(I6 2),(I6 0)] 297)]) c h ⟨rfl,rfl⟩
theorem aLZ(s:List UInt8)(r:Nat)(m n z:Nat)(o:Bool)(j:hdF s=some (m,n,o,z))(d:s.length≤R47){W0:Cx}{U:View}{a:aN}{W:World}(c:Mem W0 U ([(r,(Rd.new s).O)]++a) W):CP 212 #[.pointer (some ⟨r,0,none⟩)] W (iQ W0 U a (aAS r s (some (m,n,o,z)))):=by
 have f:Mem W0 U ([(bK r [(St s),(I6 0),(I6 (-1)),(I6 0),(I6 0)] 297)]++a) W:=c.eqv kR;refine fU 17 Tryz.func212 f ?_;refine zQ 3 (zn (zB [0,0,0,0,1,0,0] [(r,1)] (aX 0 r (zn (zQ 1 (jU 0 (bK r [(St s),(I6 0),(I6 (-1)),(I6 0),(I6 0)] 297) 238 #[(Pt r 0)] (aAS r s (some (m,n,o,z))) (fun W c=>j▸aHb s r d c) (fun v0 k u h g=>?_)))))));obtain⟨rfl,rfl⟩:=g;refine zq 6 (zn (aA (aO [2,3,4] [(I6 (m:Int)),(N6 n),(.bool o)] (fun q c=>?_))));exact eS (σ':=[(bK r [(St s),(I6 (z:Int)),(I6 (-1)),(I6 0),(I6 0)] 297)]) c h ⟨rfl,rfl⟩
theorem eJ(s:List UInt8)(r:Nat)(a:s.length≤R47){W0:Cx}{U:View}{c:aN}{W:World}(d:Mem W0 U ([(r,(Rd.new s).O)]++c) W):CP 212 #[.pointer (some ⟨r,0,none⟩)] W (iQ W0 U c (aAS r s (hdF s))):=by
 cases f:hdF s with
 |none=>exact aL0 s r f a d
 |some p=>obtain⟨m,n,o,z⟩:=p;exact aLZ s r m n z o f a d
theorem aFT(s:List UInt8)(r n z:Nat)(j:hdF s=some (4,n,true,z))(d:s.length≤R47){W0:Cx}{U:View}{a:aN}{W:World}(c:Mem W0 U ([(r,(Rd.new s).O)]++a) W):CP 216 #[.pointer (some ⟨r,0,none⟩)] W (iQ W0 U a fun v _ σ'=>v=.int .i64 (-1)∧σ'=[(r,(⟨s,z,-1,0,0⟩:Rd).O)]):=by
 have f:Mem W0 U ([(bK r [(St s),(I6 0),(I6 (-1)),(I6 0),(I6 0)] 297)]++a) W:=c.eqv kR;refine fU 32 Tryz.func216 f ?_;refine zQ 1 (zn (zQ 1 (jU 0 (bK r [(St s),(I6 0),(I6 (-1)),(I6 0),(I6 0)] 297) 212 #[(Pt r 0)] (aAS r s (some (4,n,true,z))) (fun W c=>j▸eJ s r d c) (fun v0 k u h g=>?_))));obtain⟨rfl,rfl⟩:=g;refine zq 7 (zn (zs (aB (zB [0,0,0,1,0,0] [(r,1)] (zn (dD (zQ 3 (zn (dD (zQ 2 (zn (dP (zQ 1 (zn (aA (aO [2] [(I6 (-1))] (fun q c=>?_)))))))))))))))));exact eS (σ':=[(bK r [(St s),(I6 (z:Int)),(I6 (-1)),(I6 0),(I6 0)] 297)]) c h ⟨rfl,rfl⟩
theorem aFU(s:List UInt8)(r n z:Nat)(u:hdF s=some (4,n,false,z))(d:s.length≤R47)(q:decide ((n:Int)>1000)=true){W0:Cx}{U:View}{c:aN}{W:World}(a:Mem W0 U ([(r,(Rd.new s).O)]++c) W):CP 216 #[.pointer (some ⟨r,0,none⟩)] W (iQ W0 U c fun v _ σ'=>v=.int .i64 0∧σ'=[(r,(⟨s,0,0,4,0⟩:Rd).O)]):=by
 have f:Mem W0 U ([(bK r [(St s),(I6 0),(I6 (-1)),(I6 0),(I6 0)] 297)]++c) W:=a.eqv kR;refine fU 32 Tryz.func216 f ?_;refine zQ 1 (zn (zQ 1 (jU 0 (bK r [(St s),(I6 0),(I6 (-1)),(I6 0),(I6 0)] 297) 212 #[(Pt r 0)] (aAS r s (some (4,n,false,z))) (fun W a=>u▸eJ s r d a) (fun v0 y C j g=>?_))));obtain⟨rfl,rfl⟩:=g;refine zq 7 (zn (zs (aB (zB [0,0,0,1,0,0] [(r,1)] (zn (dD (zQ 3 (zn (dD (zQ 2 (zn (dD (zQ 3 (zn (iA (decide ((n:Int)>1000)) q ?_)))))))))))))));refine zQ 1 (eM 0 (x:=(bK r [(St s),(I6 (z:Int)),(I6 (-1)),(I6 0),(I6 0)] 297)) (fun W a=>iT ⟨s,z,-1,0,0⟩ 4 r (a.eqv kR)) (fun E A D k h=>?_));obtain⟨rfl,rfl⟩:=h;refine zn (zQ 1 (zn (aA (aO [2] [(I6 0)] (fun B a=>?_)))));exact eS (σ':=[(bK r [(St s),(I6 0),(I6 0),(I6 4),(I6 0)] 297)]) a (View.le_trans j k) ⟨rfl,rfl⟩
theorem aJN(s:List UInt8)(r n z:Nat)(u:hdF s=some (4,n,false,z))(d:s.length≤R47)(j:decide ((n:Int)>1000)=false){W0:Cx}{U:View}{a:aN}{W:World}(c:Mem W0 U ([(r,(Rd.new s).O)]++a) W):CP 216 #[.pointer (some ⟨r,0,none⟩)] W (iQ W0 U a fun v _ σ'=>v=.int .i64 (n:Int)∧σ'=[(r,(⟨s,z,-1,0,0⟩:Rd).O)]):=by
 have k:=Au j;have q:IntKind.i64.wrap (n:Int)=(n:Int):=IntWalk.i64_in _ oW;have f:Mem W0 U ([(bK r [(St s),(I6 0),(I6 (-1)),(I6 0),(I6 0)] 297)]++a) W:=c.eqv kR;refine fU 32 Tryz.func216 f ?_;refine zQ 1 (zn (zQ 1 (jU 0 (bK r [(St s),(I6 0),(I6 (-1)),(I6 0),(I6 0)] 297) 212 #[(Pt r 0)] (aAS r s (some (4,n,false,z))) (fun W c=>u▸eJ s r d c) (fun v0 x A h g=>?_))));obtain⟨rfl,rfl⟩:=g;refine zq 7 (zn (zs (aB (zB [0,0,0,1,0,0] [(r,1)] (zn (dD (zQ 3 (zn (dD (zQ 2 (zn (dD (zQ 3 (zn (dO (decide ((n:Int)>1000)) j ?_)))))))))))))));refine zk (zQ 2 (dS 31 (I6 (IntKind.i64.wrap (n:Int))) (I6 (n:Int)) (Ag (Value.int .i64) q) ?_));refine zq 1 (zn (aA (aO [2] [(I6 (n:Int))] (fun y c=>?_))));exact eS (σ':=[(bK r [(St s),(I6 (z:Int)),(I6 (-1)),(I6 0),(I6 0)] 297)]) c h ⟨rfl,rfl⟩
theorem aKx{s:List UInt8}{m z c n a:Nat}{o:Bool}(h:hd2 s m z=some (c,n,o,a)):a≤s.length∧c=m∧o=false∧a=1+z:=by
 unfold hd2 at h;split at h
 ·cases h
 ·next d=>
  simp only[Ak]at d;split at h
  ·cases h
  ·simp only[Ab,Am]at h;obtain⟨rfl,rfl,rfl,rfl⟩:=h;exact⟨by omega,rfl,rfl,rfl⟩
theorem eK{s:List UInt8}{m n z:Nat}{o:Bool}(h:hdF s=some (m,n,o,z)):z≤s.length∧1≤z:=by
 unfold hdF at h;split at h
 ·cases h
 ·next c f=>
  have g:=(Af.1 f).1;unfold hd1 at h;split at h
  ·simp only[Ab,Am]at h;omega
  ·split at h
   ·simp only[Ab,Am]at h;omega
   ·split at h
    ·cases h
    ·obtain⟨a,_,_,d⟩:=aKx h;exact⟨a,by rw[d];exact Fv _ _⟩
theorem aJH(s:List UInt8)(r k n z most:Nat)(C:hdF s=some (k,n,true,z))(a:s.length≤R47)(A:most≤2000000000){W0:Cx}{U:View}{f:aN}{W:World}(c:Mem W0 U ([(r,(Rd.new s).O)]++f) W):CP 250 #[.pointer (some ⟨r,0,none⟩),.int .i64 (k:Int),.int .i64 (most:Int)] W (iQ W0 U f fun v _ σ'=>v=.string (B [])∧σ'=[(r,(⟨s,0,0,2,0⟩:Rd).O)]):=by
 obtain⟨J,E⟩:=eK C;have d:=a;unfold R47 at d;have y:((k:Int) !=(k:Int))=false:=by simp
 have D:decide ((most:Int)<0)=false:=Ba oW;have g:Mem W0 U ([(bK r [(St s),(I6 0),(I6 (-1)),(I6 0),(I6 0)] 297)]++f) W:=c.eqv kR;refine fU 84 Tryz.func250 g ?_;refine zQ 1 (zn (zQ 1 (jU 0 (bK r [(St s),(I6 0),(I6 (-1)),(I6 0),(I6 0)] 297) 212 #[(Pt r 0)] (aAS r s (some (k,n,true,z))) (fun W c=>C▸eJ s r a c) (fun v0 F K q h=>?_))));obtain⟨rfl,rfl⟩:=h;refine zq 7 (zn (zs (aB (zB [0,0,0,1,0,0] [(r,1)] (zn (dD (zs ?_)))))));refine iM 8 [0,0,1,0,0,0,0,2,2,2,2,2,2,2,2,2,2,2,2] [] [.val (.bool false)] ⟨?_,trivial⟩ ?_
 ·exact vE (.bool ((k:Int) !=(k:Int))) (Ag Value.bool y)
 refine zq 3 (zn (dP (zQ 1 (eM 0 (x:=(bK r [(St s),(I6 (z:Int)),(I6 (-1)),(I6 0),(I6 0)] 297)) (fun W c=>iT ⟨s,z,-1,0,0⟩ 2 r (c.eqv kR)) (fun M G L u j=>?_)))));obtain⟨rfl,rfl⟩:=j;refine zn (zQ 1 (zn (aA (aO [6] [(St [])] (fun I c=>?_)))));exact eS (σ':=[(bK r [(St s),(I6 0),(I6 0),(I6 2),(I6 0)] 297)]) c (View.le_trans q u) ⟨rfl,rfl⟩
theorem aHT(s:List UInt8)(r k n z most:Nat)(C:hdF s=some (k,n,false,z))(a:s.length≤R47)(A:most≤2000000000)(D:(decide ((n:Int)>((((s).length:Nat):Int)-(z:Int))))=true){W0:Cx}{U:View}{f:aN}{W:World}(c:Mem W0 U ([(r,(Rd.new s).O)]++f) W):CP 250 #[.pointer (some ⟨r,0,none⟩),.int .i64 (k:Int),.int .i64 (most:Int)] W (iQ W0 U f fun v _ σ'=>v=.string (B [])∧σ'=[(r,(⟨s,0,0,2,0⟩:Rd).O)]):=by
 obtain⟨K,F⟩:=eK C;have d:=a;unfold R47 at d;have y:((k:Int) !=(k:Int))=false:=by simp
 have E:decide ((most:Int)<0)=false:=Ba oW;have g:Mem W0 U ([(bK r [(St s),(I6 0),(I6 (-1)),(I6 0),(I6 0)] 297)]++f) W:=c.eqv kR;refine fU 84 Tryz.func250 g ?_;refine zQ 1 (zn (zQ 1 (jU 0 (bK r [(St s),(I6 0),(I6 (-1)),(I6 0),(I6 0)] 297) 212 #[(Pt r 0)] (aAS r s (some (k,n,false,z))) (fun W c=>C▸eJ s r a c) (fun v0 G L q h=>?_))));obtain⟨rfl,rfl⟩:=h;refine zq 7 (zn (zs (aB (zB [0,0,0,1,0,0] [(r,1)] (zn (dD (zs ?_)))))));refine iM 8 [0,0,1,0,0,0,0,0,0,0,0,3,0,0,0,0,3,1,1] [(r,1),(r,1)] [.val (.bool false),.val (I6 ((((s).length:Nat):Int)-(z:Int))),.val (U6 ((((s).length:Nat):Int)-(z:Int)))] ⟨?_,?_,?_,trivial⟩ ?_
 ·exact vE (.bool ((k:Int) !=(k:Int))) (Ag Value.bool y)
 ·exact vE (I6 (IntKind.i64.wrap ((((s).length:Nat):Int)-(z:Int)))) i6v
 ·exact vE (U6 (IntKind.u64.wrap ((((s).length:Nat):Int)-(z:Int)))) (Ag (Value.int .u64) (u64_in oW oW))
 refine zq 3 (zn (iA (decide ((n:Int)>((((s).length:Nat):Int)-(z:Int)))) D ?_));refine zQ 1 (eM 0 (x:=(bK r [(St s),(I6 (z:Int)),(I6 (-1)),(I6 0),(I6 0)] 297)) (fun W c=>iT ⟨s,z,-1,0,0⟩ 2 r (c.eqv kR)) (fun N I M u j=>?_));obtain⟨rfl,rfl⟩:=j;refine zn (zQ 1 (zn (aA (aO [6] [(St [])] (fun J c=>?_)))));exact eS (σ':=[(bK r [(St s),(I6 0),(I6 0),(I6 2),(I6 0)] 297)]) c (View.le_trans q u) ⟨rfl,rfl⟩
theorem aJI(s:List UInt8)(r k n z most:Nat)(D:hdF s=some (k,n,false,z))(a:s.length≤R47)(C:most≤2000000000)(E:(decide ((n:Int)>((((s).length:Nat):Int)-(z:Int))))=false)(F:(decide ((n:Int)>(most:Int)))=true){W0:Cx}{U:View}{f:aN}{W:World}(c:Mem W0 U ([(r,(Rd.new s).O)]++f) W):CP 250 #[.pointer (some ⟨r,0,none⟩),.int .i64 (k:Int),.int .i64 (most:Int)] W (iQ W0 U f fun v _ σ'=>v=.string (B [])∧σ'=[(r,(⟨s,0,0,4,0⟩:Rd).O)]):=by
 obtain⟨L,G⟩:=eK D;have d:=a;unfold R47 at d;have y:((k:Int) !=(k:Int))=false:=by simp
 have A:decide ((most:Int)<0)=false:=Ba oW;have g:Mem W0 U ([(bK r [(St s),(I6 0),(I6 (-1)),(I6 0),(I6 0)] 297)]++f) W:=c.eqv kR;refine fU 84 Tryz.func250 g ?_;refine zQ 1 (zn (zQ 1 (jU 0 (bK r [(St s),(I6 0),(I6 (-1)),(I6 0),(I6 0)] 297) 212 #[(Pt r 0)] (aAS r s (some (k,n,false,z))) (fun W c=>D▸eJ s r a c) (fun v0 I M q h=>?_))));obtain⟨rfl,rfl⟩:=h;refine zq 7 (zn (zs (aB (zB [0,0,0,1,0,0] [(r,1)] (zn (dD (zs ?_)))))));refine iM 8 [0,0,1,0,0,0,0,0,0,0,0,3,0,0,0,0,3,1,1] [(r,1),(r,1)] [.val (.bool false),.val (I6 ((((s).length:Nat):Int)-(z:Int))),.val (U6 ((((s).length:Nat):Int)-(z:Int)))] ⟨?_,?_,?_,trivial⟩ ?_
 ·exact vE (.bool ((k:Int) !=(k:Int))) (Ag Value.bool y)
 ·exact vE (I6 (IntKind.i64.wrap ((((s).length:Nat):Int)-(z:Int)))) i6v
 ·exact vE (U6 (IntKind.u64.wrap ((((s).length:Nat):Int)-(z:Int)))) (Ag (Value.int .u64) (u64_in oW oW))
 refine zq 3 (zn (dO (decide ((n:Int)>((((s).length:Nat):Int)-(z:Int)))) E ?_));refine zQ 3 (dS 50 (.bool (decide ((most:Int)<0))) (.bool false) (Ag Value.bool A) ?_);refine zq 3 (dS 53 (U6 (IntKind.u64.wrap (most:Int))) (N6 most) (Ag (Value.int .u64) (u64_in oW oW)) ?_);refine zq 3 (zn (iA (decide ((n:Int)>(most:Int))) F ?_));refine zQ 1 (eM 0 (x:=(bK r [(St s),(I6 (z:Int)),(I6 (-1)),(I6 0),(I6 0)] 297)) (fun W c=>iT ⟨s,z,-1,0,0⟩ 4 r (c.eqv kR)) (fun O J N u j=>?_));obtain⟨rfl,rfl⟩:=j;refine zn (zQ 1 (zn (aA (aO [6] [(St [])] (fun K c=>?_)))));exact eS (σ':=[(bK r [(St s),(I6 0),(I6 0),(I6 4),(I6 0)] 297)]) c (View.le_trans q u) ⟨rfl,rfl⟩
theorem aOb(s:List UInt8)(r k n z most:Nat)(C:hdF s=some (k,n,false,z))(a:s.length≤R47)(x:most≤2000000000)(y:(decide ((n:Int)>((((s).length:Nat):Int)-(z:Int))))=false)(A:(decide ((n:Int)>(most:Int)))=false){W0:Cx}{U:View}{d:aN}{W:World}(f:Mem W0 U ([(r,(Rd.new s).O)]++d) W):CP 250 #[.pointer (some ⟨r,0,none⟩),.int .i64 (k:Int),.int .i64 (most:Int)] W (iQ W0 U d fun v _ σ'=>v=.string (B ((s.drop z).take n))∧σ'=[(r,(⟨s,z+n,-1,0,0⟩:Rd).O)]):=by
 obtain⟨J,F⟩:=eK C;have c:=a;unfold R47 at c;have q:((k:Int) !=(k:Int))=false:=by simp
 have u:decide ((most:Int)<0)=false:=Ba oW;have D:=Au y;have E:=Au A;have g:Mem W0 U ([(bK r [(St s),(I6 0),(I6 (-1)),(I6 0),(I6 0)] 297)]++d) W:=f.eqv kR;refine fU 84 Tryz.func250 g ?_;refine zQ 1 (zn (zQ 1 (jU 0 (bK r [(St s),(I6 0),(I6 (-1)),(I6 0),(I6 0)] 297) 212 #[(Pt r 0)] (aAS r s (some (k,n,false,z))) (fun W f=>C▸eJ s r a f) (fun v0 G K j h=>?_))));obtain⟨rfl,rfl⟩:=h;refine zq 7 (zn (zs (aB (zB [0,0,0,1,0,0] [(r,1)] (zn (dD (zs ?_)))))));refine iM 8 [0,0,1,0,0,0,0,0,0,0,0,3,0,0,0,0,3,1,1] [(r,1),(r,1)] [.val (.bool false),.val (I6 ((((s).length:Nat):Int)-(z:Int))),.val (U6 ((((s).length:Nat):Int)-(z:Int)))] ⟨?_,?_,?_,trivial⟩ ?_
 ·exact vE (.bool ((k:Int) !=(k:Int))) (Ag Value.bool q)
 ·exact vE (I6 (IntKind.i64.wrap ((((s).length:Nat):Int)-(z:Int)))) i6v
 ·exact vE (U6 (IntKind.u64.wrap ((((s).length:Nat):Int)-(z:Int)))) (Ag (Value.int .u64) (u64_in oW oW))
 refine zq 3 (zn (dO (decide ((n:Int)>((((s).length:Nat):Int)-(z:Int)))) y ?_));refine zQ 3 (dS 50 (.bool (decide ((most:Int)<0))) (.bool false) (Ag Value.bool u) ?_);refine zq 3 (dS 53 (U6 (IntKind.u64.wrap (most:Int))) (N6 most) (Ag (Value.int .u64) (u64_in oW oW)) ?_);refine zq 3 (zn (dO (decide ((n:Int)>(most:Int))) A ?_));refine zk (zs ?_);refine iM 4 [0,0,0,3,0,0,0,3,0,0,0,3,0,1,1] [(r,1),(r,1),(r,1)] [.val (I6 (n:Int)),.val (I6 ((z:Int)+(n:Int)))] ⟨?_,?_,trivial⟩ ?_
 ·exact vE (I6 (IntKind.i64.wrap (n:Int))) i6v
 ·exact vE (I6 (IntKind.i64.wrap ((z:Int)+(n:Int)))) i6v
 refine cD (St ((s.drop z).take ((z+n)-z))) (iK 9 _ (some _) (some _) rfl s z (z+n) ((s.drop z).take ((z+n)-z)) kR (show evS _ _=_ by kernel_rfl) (show evS _ _=_ by kernel_rfl) nL nL rfl Tryz.underlying9) ?_;refine zq 1 (zn (zB [0,0,0,1,0,0] [(r,1)] (eC 79 (n:Int) (zq 1 (eC 80 ((z:Int)+(n:Int)) (zq 2 (aX 0 r (zn (zQ 2 (zn (aA (aO [6] [(St ((s.drop z).take ((z+n)-z)))] (fun I f=>?_)))))))))))));exact eS (σ':=[(bK r [(St s),(I6 ((z:Int)+(n:Int))),(I6 (-1)),(I6 0),(I6 0)] 297)]) f j ⟨by show Value.string (B ((s.drop z).take (z+n-z)))=_;rw[Eg],by kernel_rfl⟩
structure Ps where
 b:List UInt8
 at_:Nat
 e:Int
def Ps.cs(p:Ps):List Value:=[.string (B p.b),.int .i64 (p.at_:Int),.int .i64 p.e]
def Ps.O(p:Ps):Obj:=.cells p.cs.toArray 245 (0,0)
def Ps.rest(p:Ps):List UInt8:=p.b.drop p.at_
structure Ps.ok (p : Ps) : Prop where
 le:p.at_≤p.b.length
 len:p.b.length≤R47
theorem Ps.rest_len{p:Ps}(h:p.ok):p.rest.length≤R47:=by
 unfold Ps.rest;rw[Aq];have:=h.len;omega
theorem dV(a:Ps)(p:Nat)(q:a.ok){W0:Cx}{U:View}{c:aN}{W:World}(d:Mem W0 U ([(p,a.O)]++c) W):CP 211 #[.pointer (some ⟨p,0,none⟩)] W (iQ W0 U c fun v _ σ'=>∃r,v=.pointer (some ⟨r,0,none⟩)∧σ'=[(r,(Rd.new a.rest).O),(p,a.O)]):=by
 have k:=q.le;have f:Mem W0 U ([(bK p [(St a.b),(I6 (a.at_:Int)),(I6 a.e)] 245)]++c) W:=d.eqv kR;refine fU 13 Tryz.func211 f ?_;refine zQ 1 (zn (zs ?_));refine iM 4 [0,0,0,3,0,0,0,3] [(p,1),(p,1)] [] trivial ?_;refine cD (St (a.b.drop a.at_)) (iK 9 _ (some _) none rfl a.b a.at_ a.b.length (a.b.drop a.at_) kR (show evS _ _=_ by kernel_rfl) rfl nL nL (dQ _ _) Tryz.underlying9) ?_;refine aPl 237 #[(St (a.b.drop a.at_))] (fun v _ σ'=>aRc (Rd.new (a.b.drop a.at_)) v σ') (fun W d=>aDw (a.b.drop a.at_) d) (fun v0 u y h g=>?_);obtain⟨j,rfl,rfl⟩:=g;refine zq 1 (zn (aA (aO [2] [(Pt j 0)] (fun x d=>?_))));exact eS (σ':=[(j,(Rd.new (a.b.drop a.at_)).O),(bK p [(St a.b),(I6 (a.at_:Int)),(I6 a.e)] 245)]) d h ⟨_,rfl,rfl⟩
theorem pU{W0:Cx}{U V:View}{σ a:aN}{Φ:Value→View→aN→Prop}{v:Value}{W':World}(σ' c:aN)(d:Mem W0 V σ W')(e:σ=(σ'++c)++a)(f:View.le U V)(h:Φ v V σ'):iQ W0 U a Φ (.returned v) W':=by
 subst e;exact⟨v,V,σ',rfl,f,d.sub (By (Ay σ' c) (Cd a)),h⟩
def Ps.fail(p:Ps)(at_:Nat)(e:Int):Ps:=if p.e==0 then⟨p.b,at_,e⟩else p
def itZ:Value:=.agg #[.int .i64 0,.int .u64 0,.string (B []),.slice none 0 0,.bool false]
theorem jK(a:Ps)(p at_:Nat)(e:Int){W0:Cx}{U:View}{c:aN}{W:World}(f:Mem W0 U ([(p,a.O)]++c) W):CP 182 #[.pointer (some ⟨p,0,none⟩),.int .i64 (at_:Int),.int .i64 e] W (iQ W0 U c fun v _ σ'=>v=itZ∧σ'=[(p,(a.fail at_ e).O)]):=by
 have h:Mem W0 U ([(bK p [(St a.b),(I6 (a.at_:Int)),(I6 a.e)] 245)]++c) W:=f.eqv kR;refine fU 21 Tryz.func182 h ?_;refine zs (zr (fH 1 (fun d=>?_)));refine zn (zs (zB [0,0,0,1,0] [(p,1)] (zn (gN (a.e==0) (fun g=>?_) (fun g=>?_)))))
 ·refine zr (zq 6 (aX 0 p (zq 2 (aX 0 p (zn (zQ 1 (aX 1 d (zn (aA (dL [2] [(d,5)] [(.agg #[(I6 0),(U6 0),(St []),S0,(.bool false)])] (fun j f=>?_)))))))))));exact pU [(bK p [(St a.b),(I6 (at_:Int)),(I6 e)] 245)] [(d,.cells [(I6 0),(U6 0),(St []),S0,(.bool false)].toArray 89 (0,0))] f kR (View.le_refl _) ⟨rfl,by simp only[Ps.fail,g,if_true,Av,if_false];rfl⟩
 ·refine zk (zQ 1 (aX 1 d (zn (aA (dL [2] [(d,5)] [(.agg #[(I6 0),(U6 0),(St []),S0,(.bool false)])] (fun j f=>?_))))));exact pU [(bK p [(St a.b),(I6 (a.at_:Int)),(I6 a.e)] 245)] [(d,.cells [(I6 0),(U6 0),(St []),S0,(.bool false)].toArray 89 (0,0))] f kR (View.le_refl _) ⟨rfl,by simp only[Ps.fail,g,if_true,Av,if_false];rfl⟩
def aAf(s:List UInt8):Bool:=match hdF s with
 |some (m,_,o,_)=>((m:Int)==7)&&o
 |none=>false
theorem aIc(a:Ps)(p:Nat)(u:a.ok)(x:hdF a.rest=none){W0:Cx}{U:View}{d:aN}{W:World}(c:Mem W0 U ([(p,a.O)]++d) W):CP 242 #[.pointer (some ⟨p,0,none⟩)] W (iQ W0 U d fun v _ σ'=>v=.bool (aAf a.rest)∧σ'=[(p,a.O)]):=by
 have g:Mem W0 U ([(bK p [(St a.b),(I6 (a.at_:Int)),(I6 a.e)] 245)]++d) W:=c.eqv kR;refine fU 18 Tryz.func242 g ?_;refine zQ 1 (zn (zQ 1 (eM 0 (fun W c=>dV a p u c) (fun v0 y C q j=>?_))));obtain⟨f,rfl,rfl⟩:=j;refine jU 0 (f,(Rd.new a.rest).O) 212 #[(Pt f 0)] (aAS f a.rest (none)) (fun W c=>x▸eJ a.rest f (Ps.rest_len u) c) (fun E A D r k=>?_);obtain⟨rfl,rfl⟩:=k;refine zq 7 (zn (zQ 6 (zn (aA (aO [2] [(.bool false)] (fun B c=>?_))))));have h:=c.perm (List.Perm.swap _ _ _);exact pU [(bK p [(St a.b),(I6 (a.at_:Int)),(I6 a.e)] 245)] [(f,(hdR a.rest (none)).O)] h kR (View.le_trans q r) ⟨by simp only[aAf,x,dC,bs,bQ,reduceIte],by kernel_rfl⟩
theorem aIb(a:Ps)(p:Nat)(m n z:Nat)(o:Bool)(y:a.ok)(x:hdF a.rest=some (m,n,o,z)){W0:Cx}{U:View}{f:aN}{W:World}(c:Mem W0 U ([(p,a.O)]++f) W):CP 242 #[.pointer (some ⟨p,0,none⟩)] W (iQ W0 U f fun v _ σ'=>v=.bool (aAf a.rest)∧σ'=[(p,a.O)]):=by
 have q:Mem W0 U ([(bK p [(St a.b),(I6 (a.at_:Int)),(I6 a.e)] 245)]++f) W:=c.eqv kR;refine fU 18 Tryz.func242 q ?_;refine zQ 1 (zn (zQ 1 (eM 0 (fun W c=>dV a p y c) (fun v0 B D h r=>?_))));obtain⟨g,rfl,rfl⟩:=r;refine jU 0 (g,(Rd.new a.rest).O) 212 #[(Pt g 0)] (aAS g a.rest (some (m,n,o,z))) (fun W c=>x▸eJ a.rest g (Ps.rest_len y) c) (fun F C E j u=>?_);obtain⟨rfl,rfl⟩:=u;refine zq 7 (zn (zQ 3 (cN 15 ((m:Int)==7) (fun k=>?_) (fun k=>?_))))
 ·refine zq 3 (zn (aA (aO [2] [(.bool o)] (fun A c=>?_))));have d:=c.perm (List.Perm.swap _ _ _);exact pU [(bK p [(St a.b),(I6 (a.at_:Int)),(I6 a.e)] 245)] [(g,(hdR a.rest (some (m,n,o,z))).O)] d kR (View.le_trans h j) ⟨by simp only[aAf,x,dC,k,bs,bQ,reduceIte],by kernel_rfl⟩
 ·refine zq 3 (zn (aA (aO [2] [(.bool false)] (fun A c=>?_))));have d:=c.perm (List.Perm.swap _ _ _);exact pU [(bK p [(St a.b),(I6 (a.at_:Int)),(I6 a.e)] 245)] [(g,(hdR a.rest (some (m,n,o,z))).O)] d kR (View.le_trans h j) ⟨by simp only[aAf,x,dC,k,bs,bQ,reduceIte],by kernel_rfl⟩
theorem aL1(a:Rd)(r:Nat)(w:World){U:View}(c:See U w)(d:U.range r 0 a.cs):CP 214 #[.pointer (some ⟨r,0,none⟩)] w (Ret (.int .i64 (a.at_:Int)) w):=by
 refine dE 7 Tryz.func214 c ?_;refine zQ 1 (zn (zQ 3 (zV r (0+1) (I6 (a.at_:Int)) (d 1 _ rfl) 3 (.tmp 5) _ Tryz.underlying3 rfl ?_)));refine zq 1 (zn (aA (iZ 2)))
def sF(s:List UInt8)(n z:Nat)(o:Bool)(most:Nat):List UInt8×Rd:=
 if o then([],⟨s,0,0,2,0⟩)else if decide ((n:Int)>(((s).length:Nat):Int)-(z:Int))then([],⟨s,0,0,2,0⟩)else if decide ((n:Int)>(most:Int))then([],⟨s,0,0,4,0⟩)else((s.drop z).take n,⟨s,z+n,-1,0,0⟩)
def aLe(r:Nat)(x:List UInt8×Rd)(v:Value)(_:View)(σ:aN):Prop:=v=.string (B x.1)∧σ=[(r,x.2.O)]
theorem aGY(s:List UInt8)(r k n z most:Nat)(o:Bool)(g:hdF s=some (k,n,o,z))(c:s.length≤R47)(a:most≤2000000000){W0:Cx}{U:View}{d:aN}{W:World}(f:Mem W0 U ([(r,(Rd.new s).O)]++d) W):
  CP 250 #[.pointer (some ⟨r,0,none⟩),.int .i64 (k:Int),.int .i64 (most:Int)] W (iQ W0 U d (aLe r (sF s n z o most))):=by
 unfold sF;cases o with
 |true=>exact aJH s r k n z most g c a f
 |false=>
  cases h:decide ((n:Int)>(((s).length:Nat):Int)-(z:Int))with
  |true=>exact aHT s r k n z most g c a h f
  |false=>
   cases j:decide ((n:Int)>(most:Int))with
   |true=>exact aJI s r k n z most g c a h j f
   |false=>exact aOb s r k n z most g c a h j f
theorem aH1(s:List UInt8)(r n z most:Nat)(o:Bool)(j:hdF s=some (2,n,o,z))(d:s.length≤R47)(a:most≤2000000000){W0:Cx}{U:View}{f:aN}{W:World}(c:Mem W0 U ([(r,(Rd.new s).O)]++f) W):CP 239 #[.pointer (some ⟨r,0,none⟩),.int .i64 (most:Int)] W (iQ W0 U f (aLe r (sF s n z o most))):=by
 refine fU 8 Tryz.func239 c ?_;refine zQ 1 (zn (zQ 2 (eM 0 (fun W c=>aGY s r 2 n z most o j d a c) (fun v0 k u h g=>?_))));obtain⟨rfl,rfl⟩:=g;refine zq 1 (zn (aA (aO [4] [(St (sF s n z o most).1)] (fun q c=>?_))));exact eS (σ':=[(r,(sF s n z o most).2.O)]) c h ⟨rfl,rfl⟩
theorem aJF(s:List UInt8)(r n z most:Nat)(o:Bool)(j:hdF s=some (3,n,o,z))(d:s.length≤R47)(a:most≤2000000000){W0:Cx}{U:View}{f:aN}{W:World}(c:Mem W0 U ([(r,(Rd.new s).O)]++f) W):CP 240 #[.pointer (some ⟨r,0,none⟩),.int .i64 (most:Int)] W (iQ W0 U f (aLe r (sF s n z o most))):=by
 refine fU 8 Tryz.func240 c ?_;refine zQ 1 (zn (zQ 2 (eM 0 (fun W c=>aGY s r 3 n z most o j d a c) (fun v0 k u h g=>?_))));obtain⟨rfl,rfl⟩:=g;refine zq 1 (zn (aA (aO [4] [(St (sF s n z o most).1)] (fun q c=>?_))));exact eS (σ':=[(r,(sF s n z o most).2.O)]) c h ⟨rfl,rfl⟩
def fJ(f : List UInt8 → Option (Itm.Tr × Nat)) : Nat → List UInt8 → Option (List Itm.Tr × Nat)
 |0,_=>some ([],0)
 |n+1,s=>match f s with
  |none=>none
  |some (t,k)=>match fJ f n (s.drop k)with
   |none=>none
   |some (ts,j)=>some (t::ts,k+j)
def gY(f : List UInt8 → Option (Itm.Tr × Nat)) : Nat → List UInt8 → Option (List Itm.Tr × Nat)
 |0,s=>if aAf s then some ([],1)else none
 |n+1,s=>if aAf s then some ([],1)else match f s with
  |none=>none
  |some (t,k)=>match gY f n (s.drop k)with
   |none=>none
   |some (ts,j)=>some (t::ts,k+j)
def mL(m:Int)(x:List UInt8×Rd):Option (Itm.Tr×Nat):=if x.2.e==0 then some (.mk m 0 x.1 [] false,x.2.at_)else none
def lI(o : Bool)(z : Nat) : Option (List Itm.Tr × Nat) → Option (Itm.Tr × Nat)
 |none=>none
 |some (l,k)=>some (.mk 4 0 [] l o,z+k)
def itF : Nat → List UInt8 → Option (Itm.Tr × Nat)
 |0,_=>none
 |d+1,s=>match hdF s with
  |none=>none
  |some (m,n,o,z)=>
   if m=0 then some (.mk 0 n [] [] false,z)
   else if m=2 then mL 2 (sF s n z o 1073741824)
   else if m=3 then mL 3 (sF s n z o 1073741824)
   else if m=4 then(if o then lI true z (gY (itF d) 1000 (s.drop z))else if n≤1000 then lI false z (fJ (itF d) n (s.drop z))else none)
   else none
theorem aIl{l:List UInt8}(h:l.length≤8):dX 0 l<18446744073709551616:=by
 have a:=qS l 0 0 (by simp);have c:256^(0+l.length)≤256^8:=Dr (by decide) oW;have d:(256:Nat)^8=18446744073709551616:=by decide
 omega
theorem aAD{s:List UInt8}{m n z:Nat}{o:Bool}(h:hdF s=some (m,n,o,z)):n<18446744073709551616∧m<8:=by
 unfold hdF at h;split at h
 ·cases h
 ·next c d=>
  have a:=c.toNat_lt;unfold hd1 at h;split at h
  ·simp only[Ab,Am]at h;omega
  ·split at h
   ·simp only[Ab,Am]at h;omega
   ·split at h
    ·cases h
    ·unfold hd2 at h;split at h
     ·cases h
     ·split at h
      ·cases h
      ·simp only[Ab,Am]at h;obtain⟨rfl,rfl,-,-⟩:=h;refine⟨aIl ?_,by omega⟩;rw[Bb];have:2^(c.toNat%32-24)≤2^3:=Dr (by decide) oW;omega
theorem aHp{s:List UInt8}(h:aAf s=true):1≤s.length:=by
 unfold aAf at h;split at h
 ·next m n o z a=>
  have:=eK a;omega
 ·cases h
theorem pE{f : List UInt8 → Option (Itm.Tr × Nat)}(c : ∀ s t k, f s = some (t, k) → k ≤ s.length) : ∀ (n : Nat) (s : List UInt8) (l : List Itm.Tr) (k : Nat), fJ f n s = some (l, k) → k ≤ s.length ∧ l.length = n
 |0,s,l,k,h=>by
  rw[fJ]at h;simp only[Ab,Am]at h;obtain⟨rfl,rfl⟩:=h;exact⟨Ap _,rfl⟩
 |n+1,s,l,k,h=>by
  rw[fJ]at h;split at h
  ·cases h
  ·next t r d=>
   split at h
   ·cases h
   ·next ts j g=>
    simp only[Ab,Am]at h;obtain⟨rfl,rfl⟩:=h;have q:=c _ _ _ d;have a:=pE c n _ _ _ g;rw[Aq]at a;exact⟨by omega,by rw[Ah,a.2]⟩
theorem sM{f : List UInt8 → Option (Itm.Tr × Nat)}(c : ∀ s t k, f s = some (t, k) → k ≤ s.length) : ∀ (n : Nat) (s : List UInt8) (l : List Itm.Tr) (k : Nat), gY f n s = some (l, k) → k ≤ s.length ∧ l.length ≤ n
 |0,s,l,k,h=>by
  rw[gY]at h;split at h
  ·next a=>
   simp only[Ab,Am]at h;obtain⟨rfl,rfl⟩:=h;exact⟨aHp a,Bg _⟩
  ·cases h
 |n+1,s,l,k,h=>by
  rw[gY]at h;split at h
  ·next a=>
   simp only[Ab,Am]at h;obtain⟨rfl,rfl⟩:=h;exact⟨aHp a,Ap _⟩
  ·split at h
   ·cases h
   ·next t u g=>
    split at h
    ·cases h
    ·next ts j q=>
     simp only[Ab,Am]at h;obtain⟨rfl,rfl⟩:=h;have r:=c _ _ _ g;have d:=sM c n _ _ _ q;rw[Aq]at d;exact⟨by omega,by rw[Ah];omega⟩
theorem aDo{s:List UInt8}{m n z most:Nat}{o:Bool}(h:hdF s=some (m,n,o,z)):(sF s n z o most).2.at_≤s.length∧(sF s n z o most).1.length≤s.length:=by
 have c:=eK h;unfold sF;split
 ·exact⟨Ap _,Ap _⟩
 ·split
  ·exact⟨Ap _,Ap _⟩
  ·next a=>
   simp only[Ak]at a;split
   ·exact⟨Ap _,Ap _⟩
   ·refine⟨?_,?_⟩
    ·show z+n≤s.length;omega
    ·show((s.drop z).take n).length≤_;rw[Bb,Aq];omega
theorem gD : ∀ (d : Nat) (s : List UInt8) (t : Itm.Tr) (k : Nat), itF d s = some (t, k) → k ≤ s.length
 |0,s,t,k,h=>by rw[itF]at h;cases h
 |d+1,s,t,k,h=>by
  rw[itF]at h;split at h
  ·cases h
  ·next m n o z c=>
   have f:=eK c;split at h
   ·simp only[Ab,Am]at h;omega
   ·split at h
    ·unfold mL at h;split at h
     ·simp only[Ab,Am]at h;rw[←h.2];exact(aDo c).1
     ·cases h
    ·split at h
     ·unfold mL at h;split at h
      ·simp only[Ab,Am]at h;rw[←h.2];exact(aDo c).1
      ·cases h
     ·split at h
      ·split at h
       ·cases a:gY (itF d) 1000 (s.drop z)with
        |none=>rw[a]at h;cases h
        |some q=>
         obtain⟨l,j⟩:=q;rw[a]at h;simp only[lI,Ab,Am]at h;have:=(sM (gD d) _ _ _ _ a).1;rw[Aq]at this;omega
       ·split at h
        ·cases a:fJ (itF d) n (s.drop z)with
         |none=>rw[a]at h;cases h
         |some q=>
          obtain⟨l,j⟩:=q;rw[a]at h;simp only[lI,Ab,Am]at h;have:=(pE (gD d) _ _ _ _ a).1;rw[Aq]at this;omega
        ·cases h
      ·cases h
theorem aG6(n : Nat) : ∀ (k a : Nat), dX a (Itm.dg n k) = a * 256 ^ k + n % 256 ^ k
 |0,a=>by simp[Itm.dg,dX,Nat.mod_one]
 |k+1,a=>by
  have h:=aG6 n k (a*256+(UInt8.ofNat (n/256^k)).toNat);rw[Itm.dg];show dX (a*256+(UInt8.ofNat (n/256^k)).toNat) (Itm.dg n k)=_;rw[h];have e:(UInt8.ofNat (n/256^k)).toNat=n/256^k%256:=by simp
  rw[e,Fs];have c:n%(256^k*256)=n%256^k+256^k*(n/256^k%256):=Nat.mod_mul;rw[c,Dq,Nat.mul_assoc,Nat.mul_comm 256 (256^k),Nat.mul_comm (n/256^k%256) (256^k)];omega
theorem jP(m n:Nat)(r:List UInt8)(hm:m≤7)(D:n<18446744073709551616):hdF (Itm.aE m n++r)=some (m,n,false,(Itm.aE m n).length):=by
 have c:(Itm.aE m n).length=1+Itm.aFk n:=by rw[Itm.aHc,Ah,Itm.eW,Eb]
 rw[c];have A:Itm.aE m n++r=UInt8.ofNat (32*m+Itm.qC n)::(Itm.dg n (Itm.aFk n)++r):=by rw[Itm.aHc,Cv]
 have u:=Itm.aMH n;have q:(UInt8.ofNat (32*m+Itm.qC n)).toNat=32*m+Itm.qC n:=by
  rw[UInt8.toNat_ofNat'];exact Fj oW
 unfold hdF;rw[A];simp only[Bo];rw[q,show(32*m+Itm.qC n)/32=m by omega,show(32*m+Itm.qC n)%32=Itm.qC n by omega];by_cases a:n<24
 ·have d:Itm.qC n=n:=by unfold Itm.qC;rw[Ar a]
  have j:Itm.aFk n=0:=by unfold Itm.aFk;rw[Ar a]
  unfold hd1;rw[d,Ar a,j]
 ·have d:¬Itm.qC n<24∧Itm.aFk n=2^(Itm.qC n-24)∧Itm.aFk n≤8∧n<256^Itm.aFk n:=by
   unfold Itm.qC Itm.aFk;rw[An a,An a];by_cases f:n<256
   ·rw[Ar f,Ar f];exact⟨by omega,by decide,by decide,by omega⟩
   ·rw[An f,An f];by_cases g:n<65536
    ·rw[Ar g,Ar g];exact⟨by omega,by decide,by decide,by omega⟩
    ·rw[An g,An g];by_cases h:n<4294967296
     ·rw[Ar h,Ar h];exact⟨by omega,by decide,by decide,by omega⟩
     ·rw[An h,An h];exact⟨by omega,by decide,by decide,by omega⟩
  obtain⟨d,j,C,k⟩:=d;unfold hd1;rw[An d,An oW,An oW,←j];unfold hd2;have B:((UInt8.ofNat (32*m+Itm.qC n)::(Itm.dg n (Itm.aFk n)++r)).drop 1).take (Itm.aFk n)=Itm.dg n (Itm.aFk n):=by
   rw[Fb,Dp,List.take_left' (Itm.eW _ _)]
  have x:dX 0 (Itm.dg n (Itm.aFk n))=n:=by
   rw[aG6,Ft,Aw,Fj k]
  rw[B,x,c];have y:(UInt8.ofNat (32*m+Itm.qC n)::(Itm.dg n (Itm.aFk n)++r)).length=1+Itm.aFk n+r.length:=by
   rw[Ah,Ac,Itm.eW];omega
  rw[y,Ba oW];simp
theorem aKw(m:Nat)(r:List UInt8)(hm:m≤7)(c:pI (m:Int)=true):hdF (UInt8.ofNat (32*m+31)::r)=some (m,0,true,1):=by
 have a:(UInt8.ofNat (32*m+31)).toNat=32*m+31:=by
  rw[UInt8.toNat_ofNat'];exact Fj oW
 unfold hdF;simp only[Bo];rw[a,show(32*m+31)/32=m by omega,show(32*m+31)%32=31 by omega];unfold hd1;rw[An (by decide),Ar ⟨rfl,c⟩]
theorem aDV(r:List UInt8):aAf (255::r)=true:=by
 have h:=aKw 7 r (by decide) (by decide);have a:hdF (255::r)=some (7,0,true,1):=h;unfold aAf;rw[a];rfl
theorem aII{t:Itm.Tr}(h:Itm.jI t=true)(c:Itm.NOk t)(d:t.l.length<18446744073709551616)(r:List UInt8):aAf (Itm.aG t++r)=false:=by
 cases c with
 |mk k n s l o c hs hel=>
 unfold aAf;cases Itm.aKE h with
 |num n=>rw[Itm.lZ,jP 0 n r (by decide) c];rfl
 |str s=>rw[Itm.oM,Al,jP 2 _ _ (by decide) hs];rfl
 |text s=>rw[Itm.oL,Al,jP 3 _ _ (by decide) hs];rfl
 |arr l _=>
  have a:l.length<18446744073709551616:=d;rw[Itm.iD,Al,jP 4 _ _ (by decide) a];rfl
 |opn l=>rw[Itm.oN,Cv,aKw 4 _ (by decide) (by decide)];rfl
theorem tD{f : List UInt8 → Option (Itm.Tr × Nat)} : ∀ (l : List Itm.Tr) (r : List UInt8), (∀ x ∈ l, ∀ r, f (Itm.aG x ++ r) = some (x, (Itm.aG x).length)) → fJ f l.length (Itm.aY l ++ r) = some (l, (Itm.aY l).length)
 | [],r,_=>by rw[Bd,fJ,Itm.aY];rfl
 |x::l,r,h=>by
  rw[Ah,fJ,Itm.aY,Al,h x (Ck) _];simp only;rw[Eu,tD l r fun y a=>h y (Ce _ a)];simp only[Ac]
theorem aBw{f : List UInt8 → Option (Itm.Tr × Nat)} : ∀ (l : List Itm.Tr) (m : Nat) (r : List UInt8), l.length ≤ m → (∀ x ∈ l, ∀ r, f (Itm.aG x ++ r) = some (x, (Itm.aG x).length)) → (∀ x ∈ l, ∀ r, aAf (Itm.aG x ++ r) = false) → gY f m (Itm.aY l ++ (255 :: r)) = some (l, (Itm.aY l).length + 1)
 | [],m,r,_,_,_=>by
  rw[Itm.aY,Ch];cases m with
  |zero=>rw[gY,Ar (aDV r)];rfl
  |succ m=>rw[gY,Ar (aDV r)];rfl
 |x::l,0,r,hm,_,_=>by simp at hm
 |x::l,m+1,r,hm,h,c=>by
  rw[gY,Itm.aY,Al,An (by rw[c x Ck];exact Bn),h x Ck _];simp only;rw[Eu,aBw l m r (by rw[Ah]at hm;omega) (fun y a=>h y (Ce _ a)) fun y a=>c y (Ce _ a)];simp only[Ac,Dt]
theorem aCk(k:Nat)(s r:List UInt8)(a:s.length≤1073741824):sF (Itm.aE k s.length++(s++r)) s.length (Itm.aE k s.length).length false 1073741824=(s,⟨Itm.aE k s.length++(s++r),(Itm.aE k s.length).length+s.length,-1,0,0⟩):=by
 unfold sF;rw[An Bn,An (by rw[Ak,Ac,Ac];omega),An (by rw[Ak];omega),Eu,List.take_left]
theorem aAe{l:List Itm.Tr}{x:Itm.Tr}(h:x∈l):(Itm.aG x).length≤(Itm.aY l).length:=by
 induction l with
 |nil=>cases h
 |cons y l ih=>
  rw[Itm.aY,Ac];rcases Bh.1 h with rfl|h
  ·omega
  ·have:=ih h;omega
theorem aEe{d:Nat}{t x:Itm.Tr}(h:Itm.aJ (d+1) t=true)(a:x∈t.l):Itm.aJ d x=true:=by
 rw[Itm.aJ,Ae,Ao]at h;exact h.2 x a
theorem aBk{d:Nat}{t:Itm.Tr}(h:Itm.aJ d t=true):Itm.jI t=true:=by
 rw[Itm.sI,Ae]at h;exact h.2
theorem sH{d:Nat}{t:Itm.Tr}(h:Itm.aJ d t=true):t.l.length≤1000:=by
 cases d with
 |zero=>cases h
 |succ d=>
  rw[Itm.aJ,Ae]at h;rcases Itm.lG h.1 with⟨_,_,h,_⟩|⟨_,_,h,_⟩|⟨_,_,h,_⟩|⟨_,_,_,h⟩<;>omega
theorem lW : ∀ (d : Nat) (t : Itm.Tr) (r : List UInt8), Itm.aJ d t = true → Itm.NOk t → (Itm.aG t).length ≤ 1073741824 → itF d (Itm.aG t ++ r) = some (t, (Itm.aG t).length)
 |0,t,r,h,_,_=>by cases h
 |d+1,t,r,h,hn,u=>by
  have j:=sH h;have y:=aBk h;have q:∀x∈t.l,Itm.aJ d x=true:=fun x c=>aEe h c
  cases hn with
  |mk k n s l o hn hs hel=>
  have f:∀x∈l,Itm.NOk x:=fun x c=>by
   obtain⟨i,A⟩:=Dk.1 c;exact hel i x A
  have a:∀x∈l,Itm.aJ d x=true:=q;have g:l.length≤1000:=j;rw[itF];cases Itm.aKE y with
  |num n=>
   rw[Itm.lZ,jP 0 n r (by decide) hn];rfl
  |str s=>
   rw[Itm.oM,Ac]at u;rw[Itm.oM,Al,jP 2 _ _ (by decide) hs];simp only[Nat.reduceEqDiff,if_false,if_true];rw[aCk 2 s r oW];simp[mL]
  |text s=>
   rw[Itm.oL,Ac]at u;rw[Itm.oL,Al,jP 3 _ _ (by decide) hs];simp only[Nat.reduceEqDiff,if_false,if_true];rw[aCk 3 s r oW];simp[mL]
  |arr l _=>
   rw[Itm.iD,Ac]at u;rw[Itm.iD,Al,jP 4 _ _ (by decide) oW];simp only[Nat.reduceEqDiff,if_false,if_true,Av];rw[Ar g,Eu,tD l r fun x c r=>lW d x r (a x c) (f x c) (El (aAe c) oW)];simp[lI]
  |opn l=>
   rw[Itm.oN,Ah,Ac]at u;rw[Itm.oN,Cv,aKw 4 _ (by decide) (by decide)];simp only[Nat.reduceEqDiff,if_false,if_true];rw[Fb,Dp,Al,Gc,aBw l 1000 r g (fun x c r=>lW d x r (a x c) (f x c) (El (aAe c) oW)) fun x c r=>aII (aBk (a x c)) (f x c) (by have:=sH (a x c);omega) r];simp only[lI,Ah,Ac,Bd,Ab,Am,Fm];omega
structure Pa where
 id:Int
 v:Itm.Tr
structure As where
 t:List Int
 c:Int
 s:Ei
 p:List Pa
 r:List (List Pa)
def Pa.tree(p:Pa):Itm.Tr:=Itm.dA [Itm.cA p.id.toNat,p.v]
def fV(l:List Pa):Itm.Tr:=Itm.dA (l.map Pa.tree)
def aM6(l:List Int):Itm.Tr:=Itm.dA (l.map fun n=>Itm.cA n.toNat)
def As.items(a:As):List Itm.Tr:=
 if a.p.length=0 then[aM6 a.t,Itm.cA a.c.toNat,Itm.cA 0,a.s.tree,Itm.dA (a.r.map fV)]
 else[aM6 a.t,Itm.cA a.c.toNat,Itm.cA 1,a.s.tree,fV a.p,Itm.dA (a.r.map fV)]
def As.bytes(a:As):List UInt8:=Itm.aY a.items
def eU(n:Int):Bool:=decide (n≥0)&&decide (n≤65535)
def mK(pre : List Int) : List Int → Bool
 | []=>true
 |n::r=>if !eU n||pre.contains n then false else mK (pre++[n]) r
def jB(l:List Int):Bool:=mK [] l
def paB(p:Pa):Bool:=((p.v.k==0)||(p.v.k==2))&&Itm.aJ 8 p.v
def fR(l:List Pa):Bool:=l.all paB&&jB (l.map Pa.id)
def aAN(l:List Pa):Bool:=decide (1≤l.length)&&decide (l.length≤4)&&fR l
def cV(a:As):Bool:=decide (1≤a.t.length)&&decide (a.t.length≤16)&&jB a.t&&eU a.c&&aI a.s&&decide (a.p.length≤8)&&fR a.p&&decide (a.r.length=a.t.length)&&a.r.all aAN
def As.right(a:As):Bool:=cV a&&decide (a.bytes.length≤4000)
structure As.ok (a : As) : Prop where
 s:a.s.ok
 p:∀x∈a.p,Itm.NOk x.v
 r:∀l∈a.r,∀x∈l,Itm.NOk x.v
theorem dZ{n:Int}(h:eU n=true):0≤n∧n≤65535:=by
 unfold eU at h;simp only[Ae,Ak]at h;omega
theorem sA : ∀ (l pre : List Int), mK pre l = true → ∀ n ∈ l, eU n = true
 | [],_,_,n,hn=>by cases hn
 |m::r,pre,h,n,hn=>by
  rw[mK]at h;split at h
  ·cases h
  ·next a=>
   rcases Bh.1 hn with rfl|hn
   ·cases c:eU n with
    |true=>rfl
    |false=>rw[c]at a;simp at a
   ·exact sA r _ h n hn
theorem gM{l:List Int}(h:jB l=true):∀n∈l,0≤n∧n≤65535:=fun n a=>dZ (sA l [] h n a)
def aA0{α β : Type}(f : α → Option β) : List α → Option (List β)
 | []=>some []
 |x::l=>match f x with
  |none=>none
  |some y=>match aA0 f l with
   |none=>none
   |some r=>some (y::r)
theorem sO{α β : Type}{f : α → Option β}{g : β → α} : ∀ (l : List β), (∀ y ∈ l, f (g y) = some y) → aA0 f (l.map g) = some l
 | [],_=>rfl
 |y::l,h=>by
  rw[Cf,aA0,h y Ck,sO l fun z a=>h z (Ce _ a)]
def aFj(x:Itm.Tr):Option Int:=if x.k==0 then some ((min x.n 65536:Nat):Int)else none
def aEF(y:Itm.Tr):Option Pa:=match y.l with
 | [u,v]=>match aFj u with
  |none=>none
  |some n=>some ⟨n,v⟩
 |_=>none
def jJ(x:Itm.Tr):Option (List Pa):=aA0 aEF x.l
def aHF(x:Itm.Tr):Option (List Int):=aA0 aFj x.l
def aJC(x:Itm.Tr):Option (List (List Pa)):=aA0 jJ x.l
open Classical in
noncomputable def ofE(t:Itm.Tr):Option Ei:=if Itm.OfP t (Itm.iB t)then some ⟨(Itm.iB t).s,(Itm.iB t).l,(Itm.iB t).n,(Itm.iB t).v⟩else none
noncomputable def aLn(t:List Int)(c:Int)(s:Ei)(p:List Pa)(r:Itm.Tr):Option As:=match aJC r with
 |none=>none
 |some r=>some ⟨t,c,s,p,r⟩
noncomputable def aQa(l:List Itm.Tr)(t:List Int)(c:Int)(s:Ei):Option As:=match l with
 | [r]=>aLn t c s [] r
 | [p,r]=>match jJ p with
  |none=>none
  |some p=>aLn t c s p r
 |_=>none
noncomputable def aOY(l:List Itm.Tr)(t:List Int)(c:Int):Option As:=match l with
 |_::s::l=>match ofE s with
  |none=>none
  |some s=>aQa l t c s
 |_=>none
noncomputable def asR(l:List Itm.Tr):Option As:=if l.length=5∨l.length=6 then(match l with
 |t::c::l=>match aHF t with
  |none=>none
  |some t=>match aFj c with
   |none=>none
   |some c=>aOY l t c
 |_=>none)else none
theorem aDv{n:Int}(h:0≤n∧n≤65535):aFj (Itm.cA n.toNat)=some n:=by
 have e:min n.toNat 65536=n.toNat:=Ep oW;show(if(0:Int)==0 then some ((min n.toNat 65536:Nat):Int)else none)=some n;rw[e];show some (n.toNat:Int)=some n;congr 1;omega
theorem aLz{l:List Int}(h:∀n∈l,0≤n∧n≤65535):aHF (aM6 l)=some l:=sO l fun n a=>aDv (h n a)
theorem fG{l:List Pa}(h:fR l=true):∀p∈l,0≤p.id∧p.id≤65535:=fun p a=>by
 unfold fR at h;rw[Ae]at h;exact gM h.2 p.id (List.mem_map_of_mem a)
theorem aCC{l:List Pa}(h:∀p∈l,0≤p.id∧p.id≤65535):jJ (fV l)=some l:=sO l fun p a=>by
 show(match aFj (Itm.cA p.id.toNat)with|none=>none|some n=>some (⟨n,p.v⟩:Pa))=some p;rw[aDv (h p a)]
theorem aDu{e:Ei}(h:aI e=true)(g:Itm.aJ 8 e.tree=true):ofE e.tree=some e:=by
 obtain⟨s,l,n,v⟩:=e;have a:s=1∨s=2:=by
  unfold aI Eid.gE at h;simp only at h;split at h
  ·next a=>exact .inl a
  ·split at h
   ·next a=>exact .inr a
   ·cases h
 obtain⟨k,rfl⟩:∃k:Nat,s=(k:Int):=by
  rcases a with rfl|rfl
  ·exact⟨1,rfl⟩
  ·exact⟨2,rfl⟩
 have q:k=1∨k=2:=by omega
 have r:(⟨(k:Int),l,n,v⟩:Ei).tree=(⟨k,l,n,v⟩:Itm.Nm).tree:=by
  unfold Ei.tree Itm.Nm.tree Itm.aIe Itm.aLx;rcases q with rfl|rfl
  ·by_cases c:l=[110,111,110,101]
   ·subst c;rfl
   ·have j:(l==[110,111,110,101])=false:=Ai.2 c;simp only[j,c];rfl
  ·rfl
 have f:(⟨k,l,n,v⟩:Itm.Nm).right=true:=h;have d:=Itm.aHO f;unfold ofE;rw[r]at g ⊢;rw[d,Ar ⟨f,g,rfl⟩]
theorem aLb{a:As}(h:cV a=true)(D:Itm.aJ 8 a.s.tree=true):asR a.items=some a:=by
 unfold cV at h;simp only[Ae,Ak]at h;obtain⟨⟨⟨⟨⟨⟨⟨⟨E,F⟩,u⟩,x⟩,y⟩,G⟩,A⟩,I⟩,B⟩:=h;have f:=aLz (gM u);have g:=aDv (dZ x);have j:=aDu y D;have q:=aCC (fG A);have k:aJC (Itm.dA (a.r.map fV))=some a.r:=sO a.r fun l C=>aCC (fG (by
  have:=Ao.1 B l C;unfold aAN at this;rw[Ae]at this;exact this.2))
 obtain⟨t,c,s,p,r⟩:=a;unfold As.items;simp only at f g j q k ⊢;by_cases d:p.length=0
 ·obtain rfl:=Be.1 d;rw[Ar d];unfold asR;rw[Ar (.inl rfl)];simp only[f,g,aOY,j,aQa,aLn,k]
 ·rw[An d];unfold asR;rw[Ar (.inr rfl)];simp only[f,g,aOY,j,aQa,q,aLn,k]
theorem iL{d:Nat}{l:List Itm.Tr}(a:l.length≤1000)(h:∀x∈l,Itm.aJ d x=true):Itm.aJ (d+1) (Itm.dA l)=true:=by
 rw[Itm.aJ,Ae,Ao];refine⟨?_,h⟩;show Itm.okN 4 0 [] l.length false=true;unfold Itm.okN;simp[a]
theorem fZ(d n:Nat):Itm.aJ (d+1) (Itm.cA n)=true:=by
 rw[Itm.aJ];rfl
theorem aFA{v:Itm.Tr}{d:Nat}(a:(v.k==0||v.k==2)=true)(h:Itm.aJ 8 v=true):Itm.aJ (d+1) v=true:=by
 rw[Itm.aJ,Ae]at h ⊢;refine⟨h.1,?_⟩;have c:v.l.length=0:=by
  rcases Itm.lG h.1 with⟨_,_,h,_⟩|⟨_,_,h,_⟩|⟨_,_,h,_⟩|⟨h,_⟩
  ·exact h
  ·exact h
  ·exact h
  ·rw[h]at a;cases a
 rw[Be.1 c];rfl
theorem aCw{d:Nat}{l:List Pa}(f:l.length≤1000)(h:fR l=true):Itm.aJ (d+3) (fV l)=true:=by
 unfold fR at h;rw[Ae]at h;refine iL (by rw[Az];exact f) fun x j=>?_
 obtain⟨p,g,rfl⟩:=Co.1 j;refine iL (by simp) fun y c=>?_
 have a:=Ao.1 h.1 p g;unfold paB at a;rw[Ae]at a;simp only[Bh,Bt,Ct]at c;rcases c with rfl|rfl
 ·exact fZ d _
 ·exact aFA a.1 a.2
theorem jR(d:Nat)(e:Ei):Itm.aJ (d+3) e.tree=true:=by
 have c:∀(k:Nat) (l:List UInt8),Itm.aJ (k+1) (aHE l)=true:=fun k l=>by rw[Itm.aJ];rfl
 unfold Ei.tree;split
 ·refine iL (by simp) fun x a=>?_
  simp only[Bh,Bt,Ct]at a;rcases a with rfl|rfl
  ·exact fZ _ _
  ·refine iL (by simp) fun x a=>?_
   simp only[Bh,Bt,Ct]at a;rcases a with rfl|rfl<;>exact fZ _ _
 ·split
  ·refine iL (by simp) fun x a=>?_
   simp only[Bh,Bt,Ct]at a;rcases a with rfl|rfl<;>exact fZ _ _
  ·refine iL (by simp) fun x a=>?_
   simp only[Bh,Bt,Ct]at a;rcases a with rfl|rfl
   ·exact fZ _ _
   ·exact c _ _
theorem aCh{d:Nat}{l:List Int}(a:l.length≤1000):Itm.aJ (d+2) (aM6 l)=true:=
 iL (by rw[Az];exact a) fun x c=>by
  obtain⟨n,_,rfl⟩:=Co.1 c;exact fZ _ _
theorem aCp{d:Nat}{r:List (List Pa)}(c:r.length≤1000)(h:r.all aAN=true):Itm.aJ (d+4) (Itm.dA (r.map fV))=true:=
 iL (by rw[Az];exact c) fun x f=>by
  obtain⟨l,a,rfl⟩:=Co.1 f;have:=Ao.1 h l a;unfold aAN at this;simp only[Ae,Ak]at this;exact aCw oW this.2
theorem rP{a:As}(h:cV a=true){d:Nat}:∀x∈a.items,Itm.aJ (d+4) x=true:=by
 unfold cV at h;simp only[Ae,Ak]at h;obtain⟨⟨⟨⟨⟨⟨⟨⟨j,k⟩,q⟩,r⟩,u⟩,y⟩,g⟩,A⟩,f⟩:=h;intro x c;unfold As.items at c;split at c
 ·simp only[Bh,Bt,Ct]at c;rcases c with rfl|rfl|rfl|rfl|rfl
  ·exact aCh oW
  ·exact fZ _ _
  ·exact fZ _ _
  ·exact jR _ _
  ·exact aCp oW f
 ·simp only[Bh,Bt,Ct]at c;rcases c with rfl|rfl|rfl|rfl|rfl|rfl
  ·exact aCh oW
  ·exact fZ _ _
  ·exact fZ _ _
  ·exact jR _ _
  ·exact aCw oW g
  ·exact aCp oW f
theorem oZ{l:List Itm.Tr}(h:∀x∈l,Itm.NOk x){o:Bool}:Itm.NOk (.mk 4 0 [] l o):=.mk 4 0 [] l o (by decide) (by decide) fun i t a=>h t (Ad a)
theorem mP{n:Nat}(h:n<18446744073709551616):Itm.NOk (Itm.cA n):=.mk 0 n [] [] false h (by decide) fun i t a=>by simp at a
theorem aJ3{e:Ei}(h:e.ok):Itm.NOk e.tree:=by
 have c:=h.l;unfold R47 at c;unfold Ei.tree;split
 ·refine oZ fun x a=>?_
  simp only[Bh,Bt,Ct]at a;rcases a with rfl|rfl
  ·exact mP (by decide)
  ·refine oZ fun x a=>?_
   simp only[Bh,Bt,Ct]at a;rcases a with rfl|rfl
   ·exact mP h.n
   ·exact mP h.v
 ·split
  ·refine oZ fun x a=>?_
   simp only[Bh,Bt,Ct]at a;rcases a with rfl|rfl<;>exact mP (by decide)
  ·refine oZ fun x a=>?_
   simp only[Bh,Bt,Ct]at a;rcases a with rfl|rfl
   ·exact mP (by decide)
   ·exact .mk 3 0 e.l [] false (by decide) (by show e.l.length<18446744073709551616;omega) fun i t d=>by simp at d
theorem aJ2{l:List Pa}(h:∀p∈l,0≤p.id∧p.id≤65535)(d:∀p∈l,Itm.NOk p.v):Itm.NOk (fV l):=oZ fun x f=>by
 obtain⟨p,a,rfl⟩:=Co.1 f;refine oZ fun y c=>?_
 simp only[Bh,Bt,Ct]at c;rcases c with rfl|rfl
 ·have:=h p a;exact mP oW
 ·exact d p a
theorem aEO{a:As}(f:a.ok)(h:cV a=true):∀x∈a.items,Itm.NOk x:=by
 unfold cV at h;simp only[Ae,Ak]at h;obtain⟨⟨⟨⟨⟨⟨⟨⟨B,C⟩,q⟩,r⟩,D⟩,E⟩,u⟩,F⟩,y⟩:=h;have k:Itm.NOk (aM6 a.t):=oZ fun x c=>by
  obtain⟨n,A,rfl⟩:=Co.1 c;have:=gM q n A;exact mP oW
 have g:Itm.NOk (Itm.cA a.c.toNat):=by
  have:=dZ r;exact mP oW
 have j:Itm.NOk (Itm.dA (a.r.map fV)):=oZ fun x c=>by
  obtain⟨l,d,rfl⟩:=Co.1 c;have:=Ao.1 y l d;unfold aAN at this;rw[Ae]at this;exact aJ2 (fG this.2) (f.r l d)
 intro x c;unfold As.items at c;split at c
 ·simp only[Bh,Bt,Ct]at c;rcases c with rfl|rfl|rfl|rfl|rfl
  ·exact k
  ·exact g
  ·exact mP (by decide)
  ·exact aJ3 f.s
  ·exact j
 ·simp only[Bh,Bt,Ct]at c;rcases c with rfl|rfl|rfl|rfl|rfl|rfl
  ·exact k
  ·exact g
  ·exact mP (by decide)
  ·exact aJ3 f.s
  ·exact aJ2 (fG u) f.p
  ·exact j
theorem rO{a:As}(g:a.ok)(h:a.right=true):itF 8 (159::(a.bytes++[255]))=some (.mk 4 0 [] a.items true,(159::(a.bytes++[255])).length):=by
 unfold As.right at h;rw[Ae,Ak]at h;have f:Itm.aG (.mk 4 0 [] a.items true)=159::(a.bytes++[255]):=Itm.oN a.items;have c:a.items.length≤1000:=by unfold As.items;split<;>simp
 have j:Itm.aJ 8 (.mk 4 0 [] a.items true)=true:=by
  rw[Itm.aJ,Ae,Ao];refine⟨?_,fun x k=>rP h.1 (d:=3) x k⟩;show Itm.okN 4 0 [] a.items.length true=true;unfold Itm.okN;simp[c]
 have:=lW 8 (.mk 4 0 [] a.items true) [] j (oZ (aEO g h.1)) (by rw[f,Ah,Ac];simp only[Ah,Bd];omega);rw[Aj,f]at this;exact this
theorem qK{a:As}(h:a.right=true):asR a.items=some a:=by
 unfold As.right at h;rw[Ae]at h;exact aLb h.1 (jR 5 a.s)
theorem bytes_inj{a b:As}(f:a.right=true)(g:b.right=true)(q:a.ok)(r:b.ok)(h:a.bytes=b.bytes):a=b:=by
 have c:=rO q f;have k:=rO r g;rw[h,k]at c;simp only[Ab,Am,Itm.Tr.mk.injEq,Fm,Fl]at c;have d:=qK f;have j:=qK g;rw[←c,j]at d;exact(Bs d).symm
def PaR(V:View)(p:Pa)(cs:List Value):Prop:=∃ct,cs=.int .i64 p.id::ct∧TV V p.v ct
instance paR:RecOk PaR 6:=⟨fun h ⟨ct,e,ht⟩=>⟨ct,e,ht.le h⟩,fun⟨ct,e,ht⟩=>by rw[e,Ah,ht.len5],fun⟨ct,e,ht⟩ u hu=>by
 rw[e]at hu;rcases Bh.1 hu with rfl|hu
 ·rfl
 ·exact ht.one u hu⟩
def RlR(V:View)(l:List Pa)(cs:List Value):Prop:=∃a c,cs=[.slice a l.length c]∧gF PaR 6 V a l
instance rlR:RecOk RlR 1:=⟨fun h ⟨a,c,e,hl⟩=>⟨a,c,e,hl.le h⟩,fun⟨a,c,e,hl⟩=>by rw[e];rfl,fun⟨a,c,e,hl⟩ u hu=>by
 rw[e]at hu;obtain rfl:=Cl.1 hu;rfl⟩
theorem aDJ{V:View}{b f:Nat}{l:List Int}(h:V.range b f (l.map inV))(a:l.length≤R47):jT V (some ⟨b,f,none⟩) l:=⟨fun _=>⟨b,f,rfl,h⟩,a⟩
theorem jT.take{V:View}{b f:Nat}{l:List Int}(h:jT V (some ⟨b,f,none⟩) l)(i:Nat):jT V (some ⟨b,f,none⟩) (l.take i):=by
 refine⟨fun c=>?_,by have:=h.len;rw[Bb];omega⟩;obtain⟨d,g,e,k⟩:=h.at_ (fun e=>c (by rw[e];simp));refine⟨d,g,e,fun j v a=>k j v ?_⟩;rw[List.map_take]at a;rw[Ek]at a;split at a
 ·exact a
 ·cases a
structure aAK (U : View) (a1 a2 a3 : Option Addr) (a : As) : Prop where
 t:jT U a1 a.t
 p:gF PaR 6 U a2 a.p
 r:gF RlR 1 U a3 a.r
 s:a.s.ok
def tG(a:As)(a1 a2 a3:Option Addr)(c1 c2 c3:Nat):List Value:=[.slice a1 a.t.length c1,.int .i64 a.c,.int .i64 a.s.s,.string (B a.s.l),.int .u64 a.s.n,.int .u64 a.s.v,.slice a2 a.p.length c2,.slice a3 a.r.length c3]
def asV(a:As)(a1 a2 a3:Option Addr)(c1 c2 c3:Nat):Value:=.agg (tG a a1 a2 a3 c1 c2 c3).toArray
theorem TV.nok{U:View}{t:Itm.Tr}{cs:List Value}(h:TV U t cs):Itm.NOk t:=by
  induction h with
  | mk k n s l o a c C hn hs hl hat hel ih => exact .mk k n s l o hn (by have : R47 < 18446744073709551616 := by decide
                                                                         show s.length<18446744073709551616;omega) ih
theorem gF.all{α:Type}{R:View→α→List Value→Prop}{z:Nat}{U:View}{a:Option Addr}{l:List α}(h:gF R z U a l){x:α}(f:x∈l):∃cs,R U x cs:=by
 obtain⟨i,c⟩:=Dk.1 f;obtain⟨_,_,cs,_,_,d⟩:=h.at_ i x c;exact⟨cs,d⟩
theorem aAK.ok{U:View}{g j k:Option Addr}{a:As}(h:aAK U g j k a):a.ok:=
 ⟨h.s,fun x f=>by
  obtain⟨cs,q,_,d⟩:=h.p.all f;exact d.nok,fun l r x f=>by
  obtain⟨cs,a,c,_,u⟩:=h.r.all r;obtain⟨cs,q,_,d⟩:=u.all f;exact d.nok⟩
def aRf(a:As)(v:Value)(V:View):Prop:=∃a1 a2 a3 c1 c2 c3,v=asV a a1 a2 a3 c1 c2 c3∧aAK V a1 a2 a3 a
theorem Mem.freezeRwC{W0:Cx}{U:View}{W:World}{r:Rw}{k:List Value}{z m:Nat}{g:aN}{e:TypeId}(x:Mem W0 U (g++r.B e k) W)(f:r.ok z m k):∃a c V,View.le U V∧aAn V a k∧r.V m=.slice a m c∧m≤c∧Mem W0 V g W:=by
 obtain⟨a,c,V,y,u,q,h⟩:=x.freezeRw f;obtain⟨A,B,d,j⟩:=Rw.formC f;refine⟨a,c,V,y,u,q,?_,h⟩;rw[q]at d;simp only[Value.slice.injEq,Fm]at d;rw[d.2];exact j
theorem aAX{α : Type}{R : View → α → List Value → Prop}{z : Nat}[RecOk R z](E : 0 < z){w : World}{U V : View}{W' : World}{x : aN}{e : TypeId}{r : Rw}{y : List Value}{m : Nat}{L : List (α × List Value)}{Φ : Value → View → Prop}(B : Mem ⟨w, U⟩ V (x ++ r.B e y) W')(u : RwR R z V r y m L)(q : View.le U V)(f : Value → Value)(j : m ≤ R47)
  (h:∀a c g,View.le V g→gF R z g a (L.map Prod.fst)→m≤c→m=(L.map Prod.fst).length→Φ (f (.slice a m c)) g):fO w U Φ (.returned (f (r.V m))) W':=by
 obtain⟨a,c,g,d,A,D,C,k⟩:=B.freezeRwC u.ok;rw[D];exact aH k (View.le_trans q d) (h a c g d (u.done E A d j) C (by rw[Az];exact u.m))
theorem pY{α β : Type}{f : α → Option β} : ∀ {l : List α} {i : Nat} {y : α} {ys : List β} {z : β}, aA0 f (l.take i) = some ys → l[i]? = some y → f y = some z → aA0 f (l.take (i + 1)) = some (ys ++ [z])
 | [],i,y,ys,z,_,h,_=>by simp at h
 |x::l,0,y,ys,z,a,h,c=>by
  simp only[Bo,Ab]at h;subst h;simp only[Da,aA0,Ab]at a;subst a;simp[aA0,c]
 |x::l,i+1,y,ys,z,a,h,c=>by
  simp only[Bv]at h;rw[Ed,aA0]at a ⊢;cases g:f x with
  |none=>rw[g]at a;cases a
  |some u=>
   rw[g]at a;simp only at a ⊢;cases d:aA0 f (l.take i)with
   |none=>rw[d]at a;cases a
   |some r=>
    rw[d]at a;simp only[Ab]at a;subst a;rw[pY d h c];rfl
theorem oE{α β : Type}{f : α → Option β} : ∀ {l : List α} {y : α}, y ∈ l → f y = none → aA0 f l = none
 |x::l,y,h,a=>by
  rw[aA0];rcases Bh.1 h with rfl|h
  ·rw[a]
  ·cases f x with
   |none=>rfl
   |some u=>
    simp only;rw[oE h a]
theorem aG5{α β : Type}{f : α → Option β} : ∀ {l : List α} {ys : List β}, aA0 f l = some ys → ys.length = l.length
 | [],ys,h=>by
  simp only[aA0,Ab]at h;subst h;rfl
 |x::l,ys,h=>by
  rw[aA0]at h;cases c:f x with
  |none=>rw[c]at h;cases h
  |some u=>
   rw[c]at h;simp only at h;cases a:aA0 f l with
   |none=>rw[a]at h;cases h
   |some r=>
    rw[a]at h;simp only[Ab]at h;subst h;rw[Ah,Ah,aG5 a]
theorem aEE{y u v:Itm.Tr}(a:y.l.length=2)(d:y.l[0]? =some u)(f:y.l[1]? =some v):aEF y=match aFj u with
  |none=>none
  |some n=>some ⟨n,v⟩:=by
 have g:y.l=[u,v]:=by
  match c:y.l with
  | []=>rw[c]at a;cases a
  | [_]=>rw[c]at a;cases a
  | [p,q]=>
   rw[c]at d f;simp only[Bo,Bv,Ab]at d f;rw[d,f]
  |_::_::_::_=>rw[c]at a;simp at a
 unfold aEF;rw[g]
 try rfl
theorem aJT{y:Itm.Tr}(a:¬y.l.length=2):aEF y=none:=by
 unfold aEF;split
 ·next u v h=>rw[h]at a;exact absurd rfl a
 ·rfl
theorem lV{u:Itm.Tr}(h:(u.k==0)=true):aFj u=some ((min u.n 65536:Nat):Int):=by unfold aFj;rw[Ar h]
theorem aBy{u:Itm.Tr}(h:(u.k==0)=false):aFj u=none:=by unfold aFj;rw[An (by rw[h];exact Bn)]
def aFh{α:Type}(R:View→α→List Value→Prop)(z:Nat)(eA:Addr)(x:Option (List α))(v:Value)(V:View):Prop:=match x with
 |some l=>∃a c,v=.tuple #[.slice a l.length c,.nilIface]∧gF R z V a l∧l.length≤c
 |none=>∃e:Er,v=.tuple #[.slice none 0 0,e.V eA]
theorem aFh.some{α:Type}{R:View→α→List Value→Prop}{z:Nat}{d:Addr}{x:Option (List α)}{v:Value}{V:View}(h:aFh R z d x v V)(f:x.isSome=true):∃l a c,x=some l∧v=.tuple #[.slice a l.length c,.nilIface]∧gF R z V a l∧l.length≤c:=by
 obtain⟨l,rfl⟩:=Cg.1 f;obtain⟨a,c,h⟩:=h;exact⟨l,a,c,rfl,h⟩
theorem aFh.none{α:Type}{R:View→α→List Value→Prop}{z:Nat}{a:Addr}{x:Option (List α)}{v:Value}{V:View}(h:aFh R z a x v V)(c:x.isSome=false):x=none∧∃e:Er,v=.tuple #[.slice none 0 0,e.V a]:=by
 cases x with
 |none=>exact⟨rfl,h⟩
 |some l=>cases c
end Go.Proofs.YtcdjakemdlinhaaGreatDoor.Sx
