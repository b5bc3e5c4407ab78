/-
  Several texts in one: Sx17 Sx18 Sx19 Sx20 Rd2 Rd3 Rd4 Rd5 Rd6 Ps1 Ps2 Rd7 Pt1 Asd Ast Sx21 Asb1.
  Conditions: named at each.
-/
import Derived.Test.YtkoamlfiijcecaaGreatDoorG06
import Derived.LaidEql
import Derived.Stop.Asserts
import Derived.Stop.IfaceNil
set_option maxHeartbeats 16000000
set_option linter.unusedSimpArgs false
set_option linter.unusedVariables false
set_option linter.unusedSectionVars false
namespace Go.Proofs.YtkoamlfiijcecaaGreatDoor.Sx
open Go.ChangeShapes Go.WideShapes Go.ChangeAt Go.RowKit Go.Deep
section
variable {P:Program} {n:Nat} {W0:Cx} {s:cA} {U:View} {σ0:aH}
theorem Ga{σ:aH}{o:Oper}{a:Act}{W:World}{K:Act->World->Prop}{Q:Exit->Act->World->Prop}(k b:Nat)(x:Obj)(h:stK P σ k s o=some (b,b,x))(D:o.dst=none)(A:pR n s a)(u:Mem W0 U σ W)(C:∀W',Mem W0 U (σ.set k (b,x)) W'->K a W'):o.wp P a W K Q:=by
 unfold stK at h;split at h
 ·next Y Z y ho=>
  split at h
  ·next X j v r c t G I E=>
   split at h
   ·next g=>
    simp only[L0,N3]at h;obtain⟨rfl,rfl,rfl⟩:=h;rw[L5]at g;obtain⟨hs,F⟩:=g;have d:σ[k]? =some (r,.cells c.toList.toArray t (0,0)):=by simpa using E
    have B:=(u.own k r _ d).1;have f:j+v.cells.size<=c.toList.length:=by
     have:=U1 F;simpa using this
    unfold Oper.wp execOp;simp only[ho,eH A G,eH A I,Instr.storeAt,Instr.sureAddr,Sem.run_bind,Sem.run_pure,Result.andThen_ok,CQ (oL B f) hs];obtain⟨J,L,M,N,O,V⟩:=iF r v.cells.toList j W c.toList t B (by simpa using f);have:=C _ (u.set k r _ _ d N O V M J L);show K (a.put o.dst undef) _;rw[D];exact this
   ·cases h
  ·cases h
 ·cases h
structure StQ (P : Program) (n : Nat) (W0 : Cx) (U : View) (σ σ2 : aH) (ops : Array Oper) (ds : List Nat) (vs : List Sq) (s : cA) (i : Nat) : Prop where
 go:∃(o:Oper) (ts:List Nat) (vals:(Nat->Value)->List Value),ops[i]? =some o/\o.guard=none/\o.dst=none/\(∀u,(ts.map λx=>look (iK ops ds vs u i++aV s ds) x)=(vals u).map some)/\
  ∀(u:Nat->Value) (V:View),View.le U V->(∀j,cH .any ops i j=true->gE vs j (u j) V)->∀(a:Act) (W:World),pR n (ts.zip (vals u)) a->Mem W0 V σ W->∀(K:Act->World->Prop) (Q:Exit->Act->World->Prop),(∀W',Mem W0 V σ2 W'->K a W')->o.wp P a W K Q
def ObS(P:Program)(n:Nat)(W0:Cx)(U:View)(σ σ2:aH)(ops:Array Oper)(ds:List Nat)(vs:List Sq)(s:cA)(i k:Nat):Prop:=
 if k=i then StQ P n W0 U σ σ2 ops ds vs s i else Oq P n W0 U σ ops ds vs s k/\Oq P n W0 U σ2 ops ds vs s k
theorem ObS.o{σ a:aH}{ops:Array Oper}{ds:List Nat}{vs:List Sq}{i:Nat}(k:Nat)(d:k≠i)(h:Oq P n W0 U σ ops ds vs s k)(f:Oq P n W0 U a ops ds vs s k):ObS P n W0 U σ a ops ds vs s i k:=by
 unfold ObS;rw[M5 d];exact⟨h,f⟩
theorem ObS.st{σ f : aH}{ops : Array Oper}{ds : List Nat}{vs : List Sq}{i : Nat}{o : Oper}(k b : Nat)(x : Obj)(E : ops[i]? = some o)(D : o.guard = none)(r : o.dst = none)(ts : List Nat)(d : (Nat -> Value) -> List Value)(g : ∀ u, (ts.map fun x => look (iK ops ds vs u i ++ aV s ds) x) = (d u).map some)
  (h:∀u,stK P σ k (ts.zip (d u)) o=some (b,b,x)) (j:σ.set k (b,x)=f):ObS P n W0 U σ f ops ds vs s i i:=by
 unfold ObS;rw[N1 rfl];subst j;exact⟨⟨o,ts,d,E,D,r,g,λu V _ _ a W C B K Q A=>Ga k b x (h u) r C B A⟩⟩
structure Al (W0 : Cx) (U : View) (σ σ2 : aH) (vs : List Sq) (m i : Nat) (L : Nat -> Bool) (u : Nat -> Value) (w : World) (V : View) : Prop where
 le:View.le U V
 mem:Mem W0 V (if L i then σ2 else σ) w
 at_:∀j,j<m->L j=true->pQ vs j (u j) V
theorem EP{id : Nat}{l : List Oper}{Q : XQ}(m f r : Nat)(ds : List Nat)(vs : List Sq)(i : Nat)(E : aH)(hm : P.follows .mixedOrders = true)(a7 : l.length = m + f)(a1 : ds.length = m)
  (b3:CA l.toArray ds=true) (a6:nodupB ds=true) (b9:(ds.all λd=>Nat.blt d n)=true) (N:fQ .any l.toArray m=true) (Z:lP .any l.toArray m r=true) (G:jV l.toArray m f=true) (O:∀q∈vs,mY q)
  (Y:((List.range m).all λk=>decide (k=i)||((l.toArray[k]?).bind (·.dst)).isSome)=true) (b7:i<m) (c4:vs[i]? =some (.mem λ_ _=>True))
  (c7:Go.Proofs.YtkoamlfiijcecaaGreatDoor.Steps (ObS P n W0 U σ0 E l.toArray ds vs s i) 0 m)
  (ts:List Nat) (D:(Nat->Value)->List Value) (X:∀u,(ts.map λt=>look (IF u 0 ds vs++aV s ds) t)=(D u).map some)
  (h:∀(u:Nat->Value) (V:View),View.le U V->(∀j,j<m->gE vs j (u j) V)->SXL P n W0 Q l.toArray (l.drop m) (ts.zip (D u)) V E):SXC P n W0 Q (.region id l.toArray true) s U σ0:=by
 refine⟨λa W ha hM=>?_⟩;have hn:=jW a6;have hd:∀d∈ds,d<n:=λd hd=>by have:=M7.1 b9 d hd;simpa[Z5]using this
 have c2:∀(v:Value) (V:View),pQ vs i v V:=λv V=>by unfold pQ;rw[c4];trivial
 refine sN m f r ds (λL u w=>∃V,Al W0 U σ0 E vs m i L u w V) hm (by simpa using a7) a1 b3 a6 N Z ?_ ?_ ?_
 ·intro u;exact⟨U,⟨View.le_refl _,hM.drew,λj _ A=>by simp at A⟩⟩
 ·rintro k b8 L u w ⟨V,I⟩ a8 B c8 K hK;have C:=c7.get k (M8 _) oW;unfold ObS at C;split at C
  ·next J=>
   subst J;obtain⟨o,ts,D,ho,b4,b2,X,b5⟩:=C.go;have hr:=iM (a0:=a) (u:=u) (V:=V) (vs:=vs) (ops:=l.toArray) k ha hn hd λj A=>.inl (I.at_ j (B j A).2 (B j A).1)
   unfold wpOp;simp only[ho,Region.wanted,b4,if_true];left;have g:=I.mem;rw[a8]at g;refine b5 u V I.le (λj A=>(I.at_ j (B j A).2 (B j A).1).phi) _ w (gJ ts _ hr (X u)) g _ _ λW' M=>?_
   have:=hK undef W' ⟨V,⟨I.le,by rw[N1 rfl,N1 rfl];exact M,λj A F=>?_⟩⟩
   ·rw[ho]at this;have e:(some o).bind (·.dst)=none:=b2;rw[e]at this;exact this
   ·by_cases e:j=k
    ·subst e;exact c2 _ _
    ·rw[M5 e]at F ⊢;exact I.at_ j A F
  ·next J=>
   have c1:((l.toArray[k]?).bind (·.dst)).isSome=true:=by
    have:=M7.1 Y k (S4.2 b8);rw[P0 J,R5]at this;exact this
   have b1:Oq P n W0 U (if L i then E else σ0) l.toArray ds vs s k:=by
    cases L i
    ·exact C.1
    ·exact C.2
   have b0:Mem W0 U (if L i then E else σ0) w:=I.mem.weak I.le;refine(b1.go a (up n W0 Q) ha hn hd O).step u w b0 (λj A=>(I.at_ j (B j A).2 (B j A).1).isQ I.mem I.le) K λv w' M hE hv=>?_
   obtain⟨V',h1,h2,h3⟩:=hv.at M;obtain⟨q1,q2,q3⟩:=Mem.join (I.mem.call hE) h2;refine hK v w' ⟨V.or V',⟨View.le_trans I.le q2,by have b6:(if i=k then true else L i)=L i:=M5 (λe=>J e.symm);simp only[b6];exact q1,λj A F=>?_⟩⟩;by_cases e:j=k
   ·subst e;rw[N1 rfl,N1 c1];exact h3.le O q3
   ·rw[M5 e]at F ⊢;exact(I.at_ j A F).le O q2
 ·rintro L u W' ⟨V,I⟩ F;refine iC f m _ W' (by simpa using a7.symm) G ?_;have hg:=λt=>gB ds 0 u a t hn (by rw[ha.size];exact hd)
  have c0:∀j,j<m->gE vs j (u j) V:=λj A=>(I.at_ j A (F j A)).phi
  have g:=I.mem;rw[F i b7,N1 rfl]at g;refine(h u V I.le c0).go _ W' (gJ ts _ (s':=IF u 0 ds vs++aV s ds) ⟨by rw[(hg 0).2.2.1,ha.size],by rw[(hg 0).2.2.2,ha.defers],λx v hl=>?_⟩ (X u)) g;rcases eW _ _ _ _ hl with hl|⟨_,hl⟩
  ·have g:=iT _ _ _ hl;obtain⟨j,q,hd2,c6,hq⟩:=lY u 0 _ _ _ _ g;have c9:j<ds.length:=(L8.1 hd2).1;rw[(hg x).1 j hd2,O0];cases q with
   |val w=>
    simp only at hq;have:=I.at_ j oW (F j oW);unfold pQ at this;rw[c6]at this;simp only at this;rw[this,hq]
   |mem Φ=>simp only[O0]at hq;rw[hq]
  ·obtain⟨h1,h2⟩:=fH _ _ _ _ hl;rw[(hg x).2.1 h1];exact ha.slots x v h2
end
section
variable {P:Program} {n:Nat} {W0:Cx} {Q:XQ} {s:cA} {U:View} {σ:aH} {ops:Array Oper} {l:List Oper} {o:Oper}
theorem Rw.formC{r:Rw}{z m:Nat}{d:List Value}(h:r.ok z m d):∃a c,r.V m=.slice a m c/\m<=c:=by
 cases r with
 |nil=>obtain⟨rfl,_⟩:=h;exact⟨none,0,rfl,O9 _⟩
 |row b cap junk=>exact⟨_,_,rfl,h.2.2.1⟩
theorem Gf(t : Nat)(r : Rw)(g : List Value)(z m : Nat)(σ1 : aH)(e : TypeId)(k : σ = σ1 ++ r.B e g)(f : r.ok z m g)(C : look s t = some (r.V m))
  (h:∀a c V,View.le U V->BH V a g->r.V m=.slice a m c/\m<=c->SXL P n W0 Q ops l ((t,.slice a m c)::s) V σ1):SXL P n W0 Q ops l s U σ:=by
 obtain⟨D,E,d,j⟩:=Rw.formC f;refine sK t r g z m σ1 e k f C λa c V B A u=>h a c V B A ⟨u,?_⟩
 rw[u]at d;simp only[Value.slice.injEq,bB]at d;rw[d.2];exact j
end
def InR(_:View)(n:Int)(cs:List Value):Prop:=cs=[.int .i64 n]
instance inR:RecOk InR 1:=⟨λ_ h=>h,λh=>by rw[h];rfl,λh u hu=>by
 rw[h]at hu;obtain rfl:=R7.1 hu;rfl⟩
theorem fJ.ins{U:View}{a:Option Addr}{l:List Int}(h:fJ InR 1 U a l):gV U a l:=⟨λd=>by
 obtain⟨b,f,L,e,A,u,g⟩:=h.open d;refine⟨b,f,e,?_⟩;have B:∀L:List (Int×List Value),sM InR U L->L.flatMap Prod.snd=(L.map Prod.fst).map inV:=by
  intro L
  induction L with
  |nil=>intro _;rfl
  |cons p r ih=>
   intro⟨j,k⟩;rw[P9,ih k,R2,R2];rw[show p.2=[.int .i64 p.1]from j];rfl
 rw[B L u,A]at g;exact g,h.len⟩
structure Gp (α : Type) where
 i:Nat
 r:Rw
 xs:List Value
 L:List (α×List Value)
 V:View
theorem CJ{V:View}:∀{L:List (Itm.Tr×List Value)},iH V L->sM TV V L
 | [],_=>trivial
 |_::_,⟨a,d⟩=>⟨a,CJ d⟩
theorem RwR.app{α:Type}{R:View->α->List Value->Prop}{z:Nat}{V:View}{r g:Rw}{f:List Value}{m k:Nat}{L M:List (α×List Value)}(d:RwR R z V r f m L)(h:sM R V M)(j:M.length=k)(a:g.ok z (m+k) (f++M.flatMap Prod.snd)):RwR R z V g (f++M.flatMap Prod.snd) (m+k) (L++M):=
 ⟨a,by rw[d.xs,Q4],by rw[d.m,L4,j],d.all.app h⟩
theorem dL{α β:Type}{l:List α}{i:Nat}{y:α}(f:α->β)(h:l[i]? =some y):(l.take (i+1)).map f=(l.take i).map f++[f y]:=by
 rw[Q9,h,P6];rfl
theorem tT{α:Type}{l:List α}{i:Nat}{y:α}(f:α->Bool)(h:l[i]? =some y):(l.take (i+1)).all f=((l.take i).all f&&f y):=by
 rw[Q9,h,bC];simp
section
variable {P:Program} {n:Nat} {W0:Cx} {Q:XQ} {s:cA} {U:View} {σ:aH} {ops:Array Oper} {l:List Oper} {o:Oper}
theorem tU(σ1 a b:aH)(d:σ=(σ1++a)++b)(h:SXL P n W0 Q ops l s U ((σ1++b)++a)):SXL P n W0 Q ops l s U σ:=by
 subst d;refine LG ?_ h;rw[M6,M6];exact X6 _ Q2
theorem UR(f d:aH)(x:Nat×Obj)(a:σ=f++x::d)(h:SXL P n W0 Q ops l s U ((f++d)++[x])):SXL P n W0 Q ops l s U σ:=by
 subst a;refine LG ?_ h;rw[M6];refine X6 _ ?_;exact(Q2 (l₁:=[x]) (l₂:=d))
end
def Ce(l:List Itm.Tr)(v:Value)(V:View):Prop:=∃a c,v=.slice a l.length c/\fR V a l
structure Gp2 where
 i:Nat
 r:Rw
 xs:List Value
 L:List (Itm.Tr×List Value)
 r2:Rw
 xs2:List Value
 L2:List (Itm.Tr×List Value)
 V:View
theorem VF{w:World}{U V:View}{W':World}{σ1:aH}{e:TypeId}{r:Rw}{k:List Value}{m:Nat}(B:Mem ⟨w,U⟩ V (σ1++r.B e k) W')(j:r.ok 5 m k)(h:View.le U V)(L:List (Itm.Tr×List Value))(A:k=L.flatMap Prod.snd)(u:iH V L)(l:List Itm.Tr)(C:L.map Prod.fst=l)(hm:m=l.length)(f:m<=R47):fV w U (Ce l) (.returned (r.V m)) W':=by
 obtain⟨a,c,E,d,hR,D,g⟩:=B.freezeRw j;rw[D];exact aJ g (View.le_trans h d) ⟨a,c,by rw[hm],fR.ofRow L hR A (u.le d) l C (by rw[<-hm];exact f)⟩
end Go.Proofs.YtkoamlfiijcecaaGreatDoor.Sx
namespace Go.Proofs.YtkoamlfiijcecaaGreatDoor.Sx
open Go.ChangeShapes Go.WideShapes Go.ChangeAt Go.RowKit Go.Deep Go.Extern.Stop Go.Stop
section
variable {P:Program} {s:cA} {o:Oper}
theorem BY{op:BinOp}{t:TypeId}{x y:Operand}{u:TypeId}{v b:Value}(W:World):(eqGuard op t x y (.iface u v) b).run P W=.ok () W:=by
 unfold eqGuard;cases op<;>rfl
theorem Xl(op:BinOp)(r:Bool)(t g:TypeId)(x y:Operand)(ho:o.op=.binOp op t x y g)(a:(op=.eql/\r=false)\/(op=.neq/\r=true))(h:P.isIface t=true)(u:TypeId)(v:Value)(d:evS s x=some (.iface u v))(f:evS s y=some .nilIface)(W:World):
  (execOp (ev s) o).run P W=.ok (.value (.bool r)) W:=by
 unfold execOp;simp only[ho,eM d,eM f,Sem.run_bind,BY,Result.andThen_ok];rcases a with⟨rfl,rfl⟩|⟨rfl,rfl⟩
 ·simp only[run_eql_iface_nil W t h u v,Result.andThen_ok,Sem.run_pure]
 ·simp only[run_neq_iface_nil W t h u v,Result.andThen_ok,Sem.run_pure]
theorem pU(op:BinOp)(r:Bool)(t j:TypeId)(x:Operand)(ho:o.op=.binOp op t x (.const .nilIface) j)(a:(op=.eql/\r=true)\/(op=.neq/\r=false))(h:P.isIface t=true)(g:evS s x=some .nilIface)(W:World):
  (execOp (ev s) o).run P W=.ok (.value (.bool r)) W:=by
 have f:(eqGuard op t x (.const .nilIface) .nilIface .nilIface).run P W=.ok () W:=by
  unfold eqGuard;cases x<;>cases op<;>rfl
 have d:ev s (.const .nilIface)=.nilIface:=rfl;unfold execOp;simp only[ho,eM g,d,Sem.run_bind,f,Result.andThen_ok];rcases a with⟨rfl,rfl⟩|⟨rfl,rfl⟩
 ·simp only[run_eql_nil_nil_at W t h,Result.andThen_ok,Sem.run_pure]
 ·simp only[run_neq_nil_nil_at W t h,Result.andThen_ok,Sem.run_pure]
theorem Qr{h:Array (String×TypeId)}(t j:TypeId)(x y:Operand)(ho:o.op=.binOp .eql t x y j)(u:TypeId)(v:Value)(f:evS s x=some .nilIface)(g:evS s y=some (.iface u v))(d:P.underlying t=some (.interface h))(W:World):
  (execOp (ev s) o).run P W=.ok (.value (.bool false)) W:=by
 have a:(eqGuard .eql t x y .nilIface (.iface u v)).run P W=.ok () W:=by unfold eqGuard;rfl
 unfold execOp;simp only[ho,eM f,eM g,Sem.run_bind,a,Result.andThen_ok,run_eql_iface_nil_left W u v d,Sem.run_pure]
theorem Jz{u:Array (String×TypeId)}(t A:TypeId)(x y:Operand)(ho:o.op=.binOp .eql t x y A)(d f:TypeId)(g h:Value)(k:evS s x=some (.iface d g))(r:evS s y=some (.iface f h))(j:P.underlying t=some (.interface u))(a:d≠f)(W:World):
  (execOp (ev s) o).run P W=.ok (.value (.bool false)) W:=by
 unfold execOp;simp only[ho,eM k,eM r,Sem.run_bind,BY,Result.andThen_ok,run_eql_iface_types d f g h j a,Sem.run_pure]
theorem Jy{C : Array (String × TypeId)}(t D : TypeId)(x y : Operand)(ho : o.op = .binOp .eql t x y D)(tp te : TypeId)(a : Addr)(A : evS s x = some (.iface tp (.pointer (some a))))(B : evS s y = some (.iface tp (.pointer (some a))))(k : P.underlying t = some (.interface C))(u : P.underlying tp = some (.pointer te))
  (g:(P.info? tp).map (·.comparable)=some true) (h:(P.info? te).isSome=true) (W:World):(execOp (ev s) o).run P W=.ok (.value (.bool true)) W:=by
 obtain⟨i,f,d⟩:=U5.1 g;obtain⟨j,r⟩:=P4.1 h;unfold execOp;simp only[ho,eM A,eM B,Sem.run_bind,BY,Result.andThen_ok,run_eql_iface_ptr_same W a k u f d r,Sem.run_pure]
theorem Kb{d:Array (String×TypeId)}(x:Operand)(f a:TypeId)(ho:o.op=.typeAssert x f a true)(t:TypeId)(v:Value)(j:evS s x=some (.iface t v))(g:P.underlying a=some (.interface d))(h:(P.info? t).map (λi=>(lacking d i.methods).isEmpty)=some false)(k:(P.info? a).map (·.zero)=some (some .nilIface))(W:World):
  (execOp (ev s) o).run P W=.ok (.value (.tuple #[.nilIface,.bool false])) W:=by
 unfold execOp;simp only[ho,eM j,Sem.run_bind,run_typeAssert_lacksB g h k v f W,Result.andThen_ok,Sem.run_pure]
theorem Kc{d:Array (String×TypeId)}(x:Operand)(f a:TypeId)(ho:o.op=.typeAssert x f a true)(t:TypeId)(v:Value)(j:evS s x=some (.iface t v))(g:P.underlying a=some (.interface d))(h:(P.info? t).map (λi=>(lacking d i.methods).isEmpty)=some true)(W:World):
  (execOp (ev s) o).run P W=.ok (.value (.tuple #[.iface t v,.bool true])) W:=by
 unfold execOp;simp only[ho,eM j,Sem.run_bind,run_typeAssert_hasB g h v f W,Result.andThen_ok,Sem.run_pure]
end
inductive Er where
 |leaf
 |wrap (s:List UInt8) (e:Er)
def Er.V(a:Addr):Er->Value
 | .leaf=>.iface 344 (.pointer (some a))
 | .wrap s e=>.iface 259 (.agg #[.string (B s),e.V a])
def Er.deep:Er->Nat
 | .leaf=>0
 | .wrap _ e=>e.deep+1
theorem Er.form(a:Addr)(e:Er):∃u v,e.V a=.iface u v:=by cases e<;>exact⟨_,_,rfl⟩
theorem CS{P:Program}{s:cA}{o:Oper}(op:BinOp)(r:Bool)(t g:TypeId)(x y:Operand)(ho:o.op=.binOp op t x y g)(d:(op=.eql/\r=false)\/(op=.neq/\r=true))(h:P.isIface t=true)(a:Addr)(e:Er)(f:evS s x=some (e.V a))(k:evS s y=some .nilIface)(W:World):
  (execOp (ev s) o).run P W=.ok (.value (.bool r)) W:=by
 obtain⟨u,v,j⟩:=e.form a;rw[j]at f;exact Xl op r t g x y ho d h u v f k W
def EF(U:View)(a:Addr):Prop:=U ⟨0,0,none⟩=some (.iface 344 (.pointer (some a)))
theorem EF.le{U V:View}{a:Addr}(h:View.le U V)(d:EF U a):EF V a:=h _ _ d
end Go.Proofs.YtkoamlfiijcecaaGreatDoor.Sx
namespace Go.Proofs.YtkoamlfiijcecaaGreatDoor.Sx
open Go.ChangeShapes Go.WideShapes Go.ChangeAt Go.RowKit Go.Deep
theorem Fb(n c:Nat)(j:c<256)(h:n*256+c<18446744073709551616):orI .u64 (IntKind.u64.wrap ((n:Int)*2^8)) (c:Int)=((n*256+c:Nat):Int):=by
 have g:n*256<18446744073709551616:=bg (bR _ _) h;have a:c<18446744073709551616:=bg (Nat.le_add_left _ _) h;have f:IntKind.u64.wrap ((n:Int)*2^8)=((n*256:Nat):Int):=by rw[show((n:Int)*2^8)=((n*256:Nat):Int) by omega];exact u64_in oW oW
 have t:∀m:Nat,m<18446744073709551616->(BitVec.ofInt IntKind.u64.bits (m:Int)).toNat=m:=by
  intro m k;rw[BitVec.toNat_ofInt];show((m:Int)%((18446744073709551616:Nat):Int)).toNat=m;omega
 have d:=Nat.shiftLeft_add_eq_or_of_lt (i:=8) (b:=c) oW n;rw[Nat.shiftLeft_eq]at d;rw[f];unfold orI;rw[BitVec.toNat_or,t (n*256) g,t c a,show n*256 ||| c=n*256+c from d.symm];exact u64_in oW oW
def qL(m:Int):Bool:=(decide (m≥2)&&decide (m<6))||(m==7)
theorem Wl(m:Int)(w:World):CP 148 #[.int .i64 m] w (Ret (.bool (qL m)) w):=by
 refine dF 13 Tryz.func148 ?_;refine zQ 1 (zn (zQ 3 (cN 5 (decide (m≥2)) (λd=>?_) (λd=>?_))))
 ·refine zq 4 (cN 9 (decide (m<6)) (λf=>?_) (λf=>?_))
  ·refine zq 4 (zn (aA (aO [2] [qT] (λg a=>?_))));exact⟨by simp only[dD,qL,d,f,bs,bQ,reduceIte],a.below⟩
  ·refine zq 4 (zn (aA (aO [2] [(.bool (m==7))] (λg a=>?_))));exact⟨by simp only[dD,qL,d,f,bs,bQ,reduceIte],a.below⟩
 ·refine zq 8 (zn (aA (aO [2] [(.bool (m==7))] (λg a=>?_))));exact⟨by simp only[dD,qL,d,bs,bQ,reduceIte],a.below⟩
def eE(n:Nat)(l:List UInt8):Nat:=l.foldl (λn c=>n*256+c.toNat) n
theorem ZI{l:List UInt8}{i n:Nat}{y:UInt8}(h:l[i]? =some y):eE n (l.drop i)=eE (n*256+y.toNat) (l.drop (i+1)):=by
 unfold eE;rw[dS h,bY]
theorem Ou(l:List UInt8)(w:World)(Y:l.length<=8):CP 260 #[.string (B l)] w (Ret (.int .u64 ((eE 0 l:Nat):Int)) w):=by
 refine dF 20 Tryz.func260 ?_;refine zQ 1 (zn (zQ 1 (zn (zs (zQ 1 ?_)))));refine LJ 9 181 5 (.tmp 6) rfl l kR kR kR kR kR kR (λg D E K j I=>?_);have r:=UJ.of j (by first|assumption|omega);refine zq 2 (zn (aB (eF (α:=Nat×Nat) (λx=>[2,3,7,8,9].zip [(U6 0),(N6 (x.2:Nat)),(Sl g 0 l.length D),(L6 l.length),(L6 x.1)]) (λx=>E) (λx=>[]) (λx=>x.1<=l.length/\eE x.2 (l.drop x.1)=eE 0 l/\x.2<256^x.1) (λx=>l.length-x.1) (0,0) ?_ ?_)))
 ·exact⟨M8 _,rfl,by simp⟩
 intro x L;obtain⟨M,d,N⟩:=L;refine zQ 1 (zn (zs (aZ ((x.1:Int)<(l.length:Int)) (λG h=>?_) (λG h=>?_))))
 ·refine zk (zs (aB (zs (zr ?_))));obtain⟨a,f⟩:∃y,(l)[x.1]? =some y:=⟨(l)[x.1]'oW,K8 _⟩;obtain⟨V,X,F,k⟩:=r.one f;cases F;have C:=a.toNat_lt;have Z:256^x.1<=256^7:=W7 (by decide) oW;have A:=Fb x.2 a.toNat C oW;have u:IntKind.u64.wrap (a.toNat:Int)=(a.toNat:Int):=u64_in oW oW;refine cB (Pt g (0+x.1)) (eJ _ 5 _ _ rfl g 0 l.length D x.1 .i64 kR kR (by first|assumption|omega) kR kR) ?_;refine zV g (0+x.1) (.int .u8 (a.toNat:Int)) k 5 (.tmp 11) _ Tryz.underlying5 rfl ?_;refine zq 1 (zn (zr (zq 4 (dZ 16 (U6 (IntKind.u64.wrap (a.toNat:Int))) (N6 (a.toNat:Nat)) (M0 (Value.int .u64) u) ?_))));refine zq 1 (dZ 17 (U6 (orI .u64 (IntKind.u64.wrap ((x.2:Int)*2^8)) (a.toNat:Int))) (N6 (x.2*256+a.toNat:Nat)) (M0 (Value.int .u64) A) ?_);refine zq 1 (zn (zr (zq 1 (dH 18 ((x.1:Int)+1) (zq 1 (zn ?_))))));refine nx (x.1+1,x.2*256+a.toNat) ?_ ?_
  ·exact⟨by show x.1+1<=_;omega,by rw[<-d,ZI f],by have:=a.toNat_lt;rw[bE];omega⟩
  ·show l.length-(x.1+1)<l.length-x.1;omega
 ·refine aI (zQ 2 (zn (aA (aO [2] [(N6 (x.2:Nat))] (λO J=>?_)))));refine⟨?_,J.below⟩;rw[show x.1=l.length by omega,ag]at d;rw[<-d];rfl
theorem iS(a:Rd)(r:Nat){W0:Cx}{U:View}{d:aH}{W:World}(f:Mem W0 U ([(r,a.O)]++d) W):CP 193 #[.pointer (some ⟨r,0,none⟩)] W (gX W0 U d λv V σ'=>v=.tuple #[.int .i64 a.bad,.int .i64 a.e]/\σ'=[(r,a.O)]):=by
 let h:=(bK r [(St a.b),(I6 (a.at_:Int)),(I6 a.bad),(I6 a.e),(I6 (a.frm:Int))] 296);have g:Mem W0 U ([h]++d) W:=f.eqv kR;refine fB 12 Tryz.func193 g ?_;refine zQ 2 (zn (zs ?_));refine gI 0 [0,0,0,3,0,0,0,3,0] [(r,1),(r,1)] [] trivial ?_;refine zq 1 (zn (aA (aO [2,3] [(I6 a.bad),(I6 a.e)] (λj f=>?_))));exact eV (σ':=[h]) f (View.le_refl _) ⟨rfl,rfl⟩
theorem sD:∀(l:List UInt8) (n k:Nat),n<256^k->eE n l<256^(k+l.length)
 | [],n,k,h=>by simpa[eE]using h
 |c::l,n,k,h=>by
  have a:=c.toNat_lt;have:=sD l (n*256+c.toNat) (k+1) (by rw[bE];omega);rw[M9,show k+(l.length+1)=k+1+l.length by omega];exact this
def hd2(s:List UInt8)(m z:Nat):Option (Nat×Nat×Bool×Nat):=
 if decide ((s.length:Int)<((1+z:Nat):Int))then none
 else if(((Itm.aF m (eE 0 ((s.drop 1).take z))).length:Int) !=((1+z:Nat):Int))then none else some (m,eE 0 ((s.drop 1).take z),false,1+z)
def hd1(s:List UInt8)(m k:Nat):Option (Nat×Nat×Bool×Nat):=
 if k<24 then some (m,k,false,1)else if k=31/\qL (m:Int)=true then some (m,0,true,1)else if 28<=k then none else hd2 s m (2^(k-24))
def hdF(s:List UInt8):Option (Nat×Nat×Bool×Nat):=match s[0]? with
 |none=>none
 |some c=>hd1 s (c.toNat/32) (c.toNat%32)
def hdV:Option (Nat×Nat×Bool×Nat)->Value
 |none=>.tuple #[.int .i64 0,.int .u64 0,.bool false]
 |some (m,n,o,_)=>.tuple #[.int .i64 (m:Int),.int .u64 (n:Int),.bool o]
def hdR(s:List UInt8):Option (Nat×Nat×Bool×Nat)->Rd
 |none=>⟨s,0,0,2,0⟩
 |some (_,_,_,z)=>⟨s,z,-1,0,0⟩
def DP(r:Nat)(s:List UInt8)(x:Option (Nat×Nat×Bool×Nat))(v:Value)(_:View)(σ:aH):Prop:=v=hdV x/\σ=[(r,(hdR s x).O)]
theorem Oe(s:List UInt8)(r:Nat)(hs:(s==[])=true){W0:Cx}{U:View}{a:aH}{W:World}(d:Mem W0 U ([(r,(Rd.new s).O)]++a) W):CP 232 #[.pointer (some ⟨r,0,none⟩)] W (gX W0 U a (DP r s (none))):=by
 have f:Mem W0 U ([(bK r [(St s),(I6 0),(I6 (-1)),(I6 0),(I6 0)] 296)]++a) W:=d.eqv kR;refine fB 104 Tryz.func232 f ?_;refine zQ 3 (zn (zs (zB [0,0,0,1,0] [(r,1)] (zn (cU (zk (zs ?_)))))));refine gI 3 [0,0,0,3,0,0,0,3] [(r,1),(r,1)] [] trivial ?_;refine cB (St s) (iY 9 _ (some _) none rfl s 0 s.length s kR (show evS _ _=_ by kernel_rfl) rfl nL nL (by simp) Tryz.underlying9) ?_;refine zq 1 (zn (zs (zQ 1 (cB (.bool (s==[])) (gZ _ _ _ _ rfl s [] kR kR) ?_))));refine zn (jG (s==[]) hs ?_);refine zQ 1 (eO 0 (λW d=>jI (Rd.new s) 2 r d) (λv0 j u h g=>?_));obtain⟨rfl,rfl⟩:=g;refine zn (zQ 3 (zn (aA (aO [2,3,4] [(I6 0),(U6 0),qF] (λk d=>?_)))));exact eV (σ':=[(bK r [(St s),(I6 0),(I6 0),(I6 2),(I6 0)] 296)]) d h ⟨rfl,rfl⟩
theorem Em(s:List UInt8)(r:Nat)(c:UInt8)(hc:s[0]? =some c)(hs:(s==[])=false)(D:s.length<=R47){W0:Cx}{U:View}{j:aH}{W:World}(d:Mem W0 U ([(r,(Rd.new s).O)]++j) W):CP 232 #[.pointer (some ⟨r,0,none⟩)] W (gX W0 U j (DP r s (hd1 s (c.toNat/32) (c.toNat%32)))):=by
 let Y2:=(bK r [(St s),(I6 0),(I6 (-1)),(I6 0),(I6 0)] 296);let Y3:=(bK r [(St s),(I6 1),(I6 (-1)),(I6 0),(I6 0)] 296);have b7:=c.toNat_lt;unfold R47 at D;have Y:Mem W0 U ([Y2]++j) W:=d.eqv kR;let E:=(bK r [(St s),(I6 0),(I6 0),(I6 2),(I6 0)] 296);refine fB 104 Tryz.func232 Y ?_;refine zQ 3 (zn (zs (zB [0,0,0,1,0] [(r,1)] (zn (cU (zk (zs ?_)))))));refine gI 3 [0,0,0,3,0,0,0,3] [(r,1),(r,1)] [] trivial ?_;refine cB (St s) (iY 9 _ (some _) none rfl s 0 s.length s kR (show evS _ _=_ by kernel_rfl) rfl nL nL (by simp) Tryz.underlying9) ?_;refine zq 1 (zn (zs (zQ 1 (cB (.bool (s==[])) (gZ _ _ _ _ rfl s [] kR kR) ?_))));refine zn (dY (s==[]) hs ?_);refine zk (zs ?_);refine gI 0 [0,1,0,1,0,1,0,1,0] [] [.val (.int .u8 (c.toNat:Int)),.val (L6 (c.toNat/32)),.val (.int .u8 (c.toNat:Int)),.val (L6 (c.toNat%32))] ⟨?_,?_,?_,?_,trivial⟩ ?_
 ·exact vR (sQ 9 _ _ rfl s 0 .i64 c kR kR hc Tryz.underlying9)
 ·exact vE (I6 (IntKind.i64.wrap (((c.toNat:Int)).fdiv (2^5)))) (M0 (Value.int .i64) (Vc c))
 ·exact vR (sQ 9 _ _ rfl s 0 .i64 c kR kR hc Tryz.underlying9)
 ·exact vE (I6 (IntKind.i64.wrap (jE .u8 (c.toNat:Int) 31))) (M0 (Value.int .i64) (Oz c))
 refine zq 1 (zn (zs (aB (zQ 3 (zn (aZ (((c.toNat%32:Nat):Int)<24) (λh0 F=>?_) (λh0 F=>?_)))))))
 ·refine zB [0,0,0,1,0,0,0] [(r,1)] (aX 0 r (zn (zQ 3 (dZ 48 (U6 (IntKind.u64.wrap ((c.toNat%32:Nat):Int))) (N6 (c.toNat%32:Nat)) (M0 (Value.int .u64) (u64_in oW oW)) ?_))));refine zq 3 (zn (aA (aO [2,3,4] [(L6 (c.toNat/32)),(N6 (c.toNat%32:Nat)),qF] (λk d=>?_))));refine eV (σ':=[Y3]) d (View.le_refl _) ?_;unfold hd1;rw[N1 oW];exact⟨rfl,rfl⟩
 ·refine zQ 3 (jZ 52 ((c.toNat%32:Nat):Int) 31 (λh1 G=>?_) (λh1 G=>?_))
  ·refine zq 1 (dN (λW d=>Wl ((c.toNat/32:Nat):Int) W) (zq 2 (zn (gK (qL ((c.toNat/32:Nat):Int)) (λu=>?_) (λu=>?_)))))
   ·refine zB [0,0,0,1,0,0,0] [(r,1)] (aX 0 r (zn (zQ 4 (zn (aA (aO [2,3,4] [(L6 (c.toNat/32)),(U6 0),qT] (λk d=>?_)))))));refine eV (σ':=[Y3]) d (View.le_refl _) ?_;unfold hd1;rw[M5 oW,N1 ⟨by omega,u⟩];exact⟨rfl,rfl⟩
   ·refine zQ 3 (zn (jG (decide (((c.toNat%32:Nat):Int)≥28)) (R4 (by have:=eq_of_beq h1;omega)) ?_));refine zQ 1 (eO 0 (λW d=>jI (Rd.new s) 2 r d) (λv0 V0 s0 a8 Z=>?_));obtain⟨rfl,rfl⟩:=Z;refine zn (zQ 3 (zn (aA (aO [2,3,4] [(I6 0),(U6 0),qF] (λk d=>?_)))));refine eV (σ':=[E]) d a8 ?_;unfold hd1;rw[M5 oW,M5 (λh=>by have:=h.2;rw[u]at this;cases this),N1 oW];exact⟨rfl,rfl⟩
  ·refine zq 4 (zn (cU (zQ 3 (zn (aZ (((c.toNat%32:Nat):Int)≥28) (λI J=>?_) (λI J=>?_))))))
   ·refine zQ 1 (eO 0 (λW d=>jI (Rd.new s) 2 r d) (λv1 V1 s1 b0 a1=>?_));obtain⟨rfl,rfl⟩:=a1;refine zn (zQ 3 (zn (aA (aO [2,3,4] [(I6 0),(U6 0),qF] (λk d=>?_)))));refine eV (σ':=[E]) d b0 ?_;unfold hd1;rw[M5 oW,M5 (λh=>by omega),N1 oW];exact⟨rfl,rfl⟩
   ·refine zk ?_;refine dG (α:=Nat) (λa=>[0,2,3,4,5,6,8].zip [(Pt r 0),(I6 0),(U6 0),qF,(St s),(L6 (c.toNat/32)),(L6 a)]) (λa=>U) (λa=>([Y2]++j)) (λa=>a=2^(c.toNat%32-24)/\(1<=a/\a<=8)) ?_ ?_
    ·refine zr (zq 2 (dH 70 (((c.toNat%32:Nat):Int)-24) ?_));rcases N2 (((c.toNat%32:Nat):Int)==24)with A|A
     ·have K:=eq_of_beq A;have f:c.toNat%32=24:=by have:=eq_of_beq A;omega
      refine dZ 70 (I6 (((c.toNat%32:Nat):Int)-24)) (I6 0) (M0 (Value.int .i64) oW) ?_;refine zq 1 (zq 1 (zn ?_));refine jn 1 ?_;rw[f];exact⟨rfl,by decide,by decide⟩
     ·have K:=M2.1 A;rcases N2 (((c.toNat%32:Nat):Int)==25)with B|B
      ·have L:=eq_of_beq B;have f:c.toNat%32=25:=by have:=eq_of_beq B;omega
       refine dZ 70 (I6 (((c.toNat%32:Nat):Int)-24)) (I6 1) (M0 (Value.int .i64) oW) ?_;refine zq 1 (zq 1 (zn ?_));refine jn 2 ?_;rw[f];exact⟨rfl,by decide,by decide⟩
      ·have L:=M2.1 B;rcases N2 (((c.toNat%32:Nat):Int)==26)with C|C
       ·have M:=eq_of_beq C;have f:c.toNat%32=26:=by have:=eq_of_beq C;omega
        refine dZ 70 (I6 (((c.toNat%32:Nat):Int)-24)) (I6 2) (M0 (Value.int .i64) oW) ?_;refine zq 1 (zq 1 (zn ?_));refine jn 4 ?_;rw[f];exact⟨rfl,by decide,by decide⟩
       ·have M:=M2.1 C;have f:c.toNat%32=27:=by have b4:=M2.1 A;have b5:=M2.1 B;have b6:=M2.1 C;omega
        refine dZ 70 (I6 (((c.toNat%32:Nat):Int)-24)) (I6 3) (M0 (Value.int .i64) oW) ?_;refine zq 1 (zq 1 (zn ?_));refine jn 8 ?_;rw[f];exact⟨rfl,by decide,by decide⟩
    intro a g;obtain⟨g,b8⟩:=g;have b3:eE 0 ((s.drop 1).take a)<W64:=by
     have h:=sD ((s.drop 1).take a) 0 0 (by simp);have u:256^(0+((s.drop 1).take a).length)<=256^8:=W7 (by decide) (by rw[O3];omega);have I:(256:Nat)^8=W64:=by decide
     exact X5 h (X0 u (Nat.le_of_eq I))
    refine zs (zQ 4 (dZ 75 (I6 (IntKind.i64.wrap (1+(a:Int)))) (L6 (1+a)) (M0 (Value.int .i64) (by rw[IntWalk.i64_in _ oW];omega)) ?_));refine zq 1 (zn (aZ ((((s).length:Nat):Int)<((1+a:Nat):Int)) (λh7 N=>?_) (λh7 N=>?_)))
    ·refine zQ 1 (eO 0 (λW d=>jI (Rd.new s) 2 r d) (λv2 V2 s2 b1 a6=>?_));obtain⟨rfl,rfl⟩:=a6;refine zn (zQ 3 (zn (aA (aO [2,3,4] [(I6 0),(U6 0),qF] (λk d=>?_)))));refine eV (σ':=[E]) d b1 ?_;unfold hd1;rw[M5 oW,M5 (λh=>by omega),M5 oW,<-g];unfold hd2;rw[N1 (R4 oW)];exact⟨rfl,rfl⟩
    ·refine zk (zQ 3 (dZ 81 (I6 (IntKind.i64.wrap (1+(a:Int)))) (L6 (1+a)) (M0 (Value.int .i64) (by rw[IntWalk.i64_in _ oW];omega)) ?_));refine cB (St ((s.drop 1).take ((1+a)-1))) (iY 9 _ (some _) (some _) rfl s 1 (1+a) ((s.drop 1).take ((1+a)-1)) kR (show evS _ _=_ by kernel_rfl) (show evS _ _=_ by kernel_rfl) nL nL rfl Tryz.underlying9) ?_;refine dZ 82 (St ((s.drop 1).take ((1+a)-1))) (St ((s.drop 1).take a)) (by rw[Z3]) ?_;refine dN (λW d=>Ou ((s.drop 1).take a) W (by rw[O3];omega)) (zq 1 (zn (zs (zQ 2 (dN (λW d=>jK (c.toNat/32) (eE 0 ((s.drop 1).take a)) W oW b3) (zq 3 (dZ 89 (I6 (IntKind.i64.wrap (1+(a:Int)))) (L6 (1+a)) (M0 (Value.int .i64) (by rw[IntWalk.i64_in _ oW];omega)) ?_)))))));refine zq 1 (zn (iE ((((Itm.aF (c.toNat/32) (eE 0 ((s.drop 1).take a)))).length:Nat):Int) ((1+a:Nat):Int) (λO V=>?_) (λO V=>?_)))
     ·refine zQ 1 (eO 0 (λW d=>jI (Rd.new s) 2 r d) (λv3 V3 s3 b2 a7=>?_));obtain⟨rfl,rfl⟩:=a7;refine zn (zQ 3 (zn (aA (aO [2,3,4] [(I6 0),(U6 0),qF] (λk d=>?_)))));refine eV (σ':=[E]) d b2 ?_;unfold hd1;rw[M5 oW,M5 (λh=>by omega),M5 oW,<-g];unfold hd2;rw[M5 (by rw[P0 oW];exact M3)];have X:(((Itm.aF (c.toNat/32) (eE 0 ((s.drop 1).take a))).length:Int) !=((1+a:Nat):Int))=true:=O;rw[N1 X];exact⟨rfl,rfl⟩
     ·refine zk (zB [0,0,0,1,0,0] [(r,1)] (dZ 98 (I6 (IntKind.i64.wrap (1+(a:Int)))) (L6 (1+a)) (M0 (Value.int .i64) (by rw[IntWalk.i64_in _ oW];omega)) ?_));refine zq 1 (dZ 99 (I6 (IntKind.i64.wrap (0+((1+a:Nat):Int)))) (L6 (1+a)) (M0 (Value.int .i64) (by rw[IntWalk.i64_in _ oW];omega)) ?_);refine zq 2 (aX 0 r (zn (zQ 5 (zn (aA (aO [2,3,4] [(L6 (c.toNat/32)),(N6 (eE 0 ((s.drop 1).take a))),qF] (λk d=>?_)))))));refine eV (σ':=[(bK r [(St s),(L6 (1+a)),(I6 (-1)),(I6 0),(I6 0)] 296)]) d (View.le_refl _) ?_;unfold hd1;rw[M5 oW,M5 (λh=>by omega),M5 oW,<-g];unfold hd2;rw[M5 (by rw[P0 oW];exact M3)];have X:(((Itm.aF (c.toNat/32) (eE 0 ((s.drop 1).take a))).length:Int) !=((1+a:Nat):Int))=false:=O;rw[M5 (by rw[X];exact M3)];exact⟨rfl,rfl⟩
theorem WD(s:List UInt8)(r:Nat)(a:s.length<=R47){W0:Cx}{U:View}{d:aH}{W:World}(f:Mem W0 U ([(r,(Rd.new s).O)]++d) W):CP 232 #[.pointer (some ⟨r,0,none⟩)] W (gX W0 U d (DP r s (hdF s))):=by
 unfold hdF;cases g:s[0]? with
 |none=>exact Oe s r (by cases s<;>simp_all) f
 |some c=>exact Em s r c g (by cases s<;>simp_all) a f
theorem Qc(s:List UInt8)(r:Nat)(k:hdF s=none)(f:s.length<=R47){W0:Cx}{U:View}{a:aH}{W:World}(d:Mem W0 U ([(r,(Rd.new s).O)]++a) W):CP 192 #[.pointer (some ⟨r,0,none⟩)] W (gX W0 U a (DP r s (none))):=by
 have g:Mem W0 U ([(bK r [(St s),(I6 0),(I6 (-1)),(I6 0),(I6 0)] 296)]++a) W:=d.eqv kR;refine fB 17 Tryz.func192 g ?_;refine zQ 3 (zn (zB [0,0,0,0,1,0,0] [(r,1)] (aX 0 r (zn (zQ 1 (jY 0 (bK r [(St s),(I6 0),(I6 (-1)),(I6 0),(I6 0)] 296) 232 #[(Pt r 0)] (DP r s (none)) (λW d=>k▸WD s r f d) (λv0 u B j h=>?_)))))));obtain⟨rfl,rfl⟩:=h;refine zq 6 (zn (aA (aO [2,3,4] [(I6 0),(U6 0),qF] (λA d=>?_))));exact eV (σ':=[(bK r [(St s),(I6 0),(I6 0),(I6 2),(I6 0)] 296)]) d j ⟨rfl,rfl⟩
theorem Qd(s:List UInt8)(r:Nat)(m n z:Nat)(o:Bool)(k:hdF s=some (m,n,o,z))(f:s.length<=R47){W0:Cx}{U:View}{a:aH}{W:World}(d:Mem W0 U ([(r,(Rd.new s).O)]++a) W):CP 192 #[.pointer (some ⟨r,0,none⟩)] W (gX W0 U a (DP r s (some (m,n,o,z)))):=by
 have g:Mem W0 U ([(bK r [(St s),(I6 0),(I6 (-1)),(I6 0),(I6 0)] 296)]++a) W:=d.eqv kR;refine fB 17 Tryz.func192 g ?_;refine zQ 3 (zn (zB [0,0,0,0,1,0,0] [(r,1)] (aX 0 r (zn (zQ 1 (jY 0 (bK r [(St s),(I6 0),(I6 (-1)),(I6 0),(I6 0)] 296) 232 #[(Pt r 0)] (DP r s (some (m,n,o,z))) (λW d=>k▸WD s r f d) (λv0 u B j h=>?_)))))));obtain⟨rfl,rfl⟩:=h;refine zq 6 (zn (aA (aO [2,3,4] [(I6 (m:Int)),(N6 n),(.bool o)] (λA d=>?_))));exact eV (σ':=[(bK r [(St s),(I6 (z:Int)),(I6 (-1)),(I6 0),(I6 0)] 296)]) d j ⟨rfl,rfl⟩
theorem eQ(s:List UInt8)(r:Nat)(a:s.length<=R47){W0:Cx}{U:View}{d:aH}{W:World}(f:Mem W0 U ([(r,(Rd.new s).O)]++d) W):CP 192 #[.pointer (some ⟨r,0,none⟩)] W (gX W0 U d (DP r s (hdF s))):=by
 cases g:hdF s with
 |none=>exact Qc s r g a f
 |some p=>obtain⟨m,n,o,z⟩:=p;exact Qd s r m n z o g a f
theorem SM(s:List UInt8)(r n z:Nat)(k:hdF s=some (4,n,true,z))(f:s.length<=R47){W0:Cx}{U:View}{a:aH}{W:World}(d:Mem W0 U ([(r,(Rd.new s).O)]++a) W):CP 196 #[.pointer (some ⟨r,0,none⟩)] W (gX W0 U a λv _ σ'=>v=.int .i64 (-1)/\σ'=[(r,(⟨s,z,-1,0,0⟩:Rd).O)]):=by
 have g:Mem W0 U ([(bK r [(St s),(I6 0),(I6 (-1)),(I6 0),(I6 0)] 296)]++a) W:=d.eqv kR;refine fB 32 Tryz.func196 g ?_;refine zQ 1 (zn (zQ 1 (jY 0 (bK r [(St s),(I6 0),(I6 (-1)),(I6 0),(I6 0)] 296) 192 #[(Pt r 0)] (DP r s (some (4,n,true,z))) (λW d=>k▸eQ s r f d) (λv0 u B j h=>?_))));obtain⟨rfl,rfl⟩:=h;refine zq 7 (zn (zs (aB (zB [0,0,0,1,0,0] [(r,1)] (zn (cU (zQ 3 (zn (cU (zQ 2 (zn (dM (zQ 1 (zn (aA (aO [2] [(I6 (-1))] (λA d=>?_)))))))))))))))));exact eV (σ':=[(bK r [(St s),(I6 (z:Int)),(I6 (-1)),(I6 0),(I6 0)] 296)]) d j ⟨rfl,rfl⟩
theorem SN(s:List UInt8)(r n z:Nat)(B:hdF s=some (4,n,false,z))(f:s.length<=R47)(A:decide ((n:Int)>1000)=true){W0:Cx}{U:View}{d:aH}{W:World}(a:Mem W0 U ([(r,(Rd.new s).O)]++d) W):CP 196 #[.pointer (some ⟨r,0,none⟩)] W (gX W0 U d λv _ σ'=>v=.int .i64 0/\σ'=[(r,(⟨s,0,0,4,0⟩:Rd).O)]):=by
 have g:Mem W0 U ([(bK r [(St s),(I6 0),(I6 (-1)),(I6 0),(I6 0)] 296)]++d) W:=a.eqv kR;refine fB 32 Tryz.func196 g ?_;refine zQ 1 (zn (zQ 1 (jY 0 (bK r [(St s),(I6 0),(I6 (-1)),(I6 0),(I6 0)] 296) 192 #[(Pt r 0)] (DP r s (some (4,n,false,z))) (λW a=>B▸eQ s r f a) (λv0 C F k h=>?_))));obtain⟨rfl,rfl⟩:=h;refine zq 7 (zn (zs (aB (zB [0,0,0,1,0,0] [(r,1)] (zn (cU (zQ 3 (zn (cU (zQ 2 (zn (cU (zQ 3 (zn (jG (decide ((n:Int)>1000)) A ?_)))))))))))))));refine zQ 1 (eO 0 (x:=(bK r [(St s),(I6 (z:Int)),(I6 (-1)),(I6 0),(I6 0)] 296)) (λW a=>jI ⟨s,z,-1,0,0⟩ 4 r (a.eqv kR)) (λI D G u j=>?_));obtain⟨rfl,rfl⟩:=j;refine zn (zQ 1 (zn (aA (aO [2] [(I6 0)] (λE a=>?_)))));exact eV (σ':=[(bK r [(St s),(I6 0),(I6 0),(I6 4),(I6 0)] 296)]) a (View.le_trans k u) ⟨rfl,rfl⟩
theorem Ww(s:List UInt8)(r n z:Nat)(B:hdF s=some (4,n,false,z))(f:s.length<=R47)(k:decide ((n:Int)>1000)=false){W0:Cx}{U:View}{a:aH}{W:World}(d:Mem W0 U ([(r,(Rd.new s).O)]++a) W):CP 196 #[.pointer (some ⟨r,0,none⟩)] W (gX W0 U a λv _ σ'=>v=.int .i64 (n:Int)/\σ'=[(r,(⟨s,z,-1,0,0⟩:Rd).O)]):=by
 have u:=O5 k;have A:IntKind.i64.wrap (n:Int)=(n:Int):=IntWalk.i64_in _ oW;have g:Mem W0 U ([(bK r [(St s),(I6 0),(I6 (-1)),(I6 0),(I6 0)] 296)]++a) W:=d.eqv kR;refine fB 32 Tryz.func196 g ?_;refine zQ 1 (zn (zQ 1 (jY 0 (bK r [(St s),(I6 0),(I6 (-1)),(I6 0),(I6 0)] 296) 192 #[(Pt r 0)] (DP r s (some (4,n,false,z))) (λW d=>B▸eQ s r f d) (λv0 C E j h=>?_))));obtain⟨rfl,rfl⟩:=h;refine zq 7 (zn (zs (aB (zB [0,0,0,1,0,0] [(r,1)] (zn (cU (zQ 3 (zn (cU (zQ 2 (zn (cU (zQ 3 (zn (dY (decide ((n:Int)>1000)) k ?_)))))))))))))));refine zk (zQ 2 (dZ 31 (I6 (IntKind.i64.wrap (n:Int))) (I6 (n:Int)) (M0 (Value.int .i64) A) ?_));refine zq 1 (zn (aA (aO [2] [(I6 (n:Int))] (λD d=>?_))));exact eV (σ':=[(bK r [(St s),(I6 (z:Int)),(I6 (-1)),(I6 0),(I6 0)] 296)]) d j ⟨rfl,rfl⟩
theorem Va{s:List UInt8}{m z d n a:Nat}{o:Bool}(h:hd2 s m z=some (d,n,o,a)):a<=s.length/\d=m/\o=false/\a=1+z:=by
 unfold hd2 at h;split at h
 ·cases h
 ·next f=>
  simp only[N0]at f;split at h
  ·cases h
  ·simp only[L0,N3]at h;obtain⟨rfl,rfl,rfl,rfl⟩:=h;exact⟨by omega,rfl,rfl,rfl⟩
theorem eT{s:List UInt8}{m n z:Nat}{o:Bool}(h:hdF s=some (m,n,o,z)):z<=s.length/\1<=z:=by
 unfold hdF at h;split at h
 ·cases h
 ·next c f=>
  have g:=(L8.1 f).1;unfold hd1 at h;split at h
  ·simp only[L0,N3]at h;omega
  ·split at h
   ·simp only[L0,N3]at h;omega
   ·split at h
    ·cases h
    ·obtain⟨a,_,_,d⟩:=Va h;exact⟨a,by rw[d];exact bR _ _⟩
theorem Xc(s:List UInt8)(r k n z most:Nat)(F:hdF s=some (k,n,true,z))(a:s.length<=R47)(E:most<=2000000000){W0:Cx}{U:View}{g:aH}{W:World}(d:Mem W0 U ([(r,(Rd.new s).O)]++g) W):CP 261 #[.pointer (some ⟨r,0,none⟩),.int .i64 (k:Int),.int .i64 (most:Int)] W (gX W0 U g λv _ σ'=>v=.string (B [])/\σ'=[(r,(⟨s,0,0,2,0⟩:Rd).O)]):=by
 obtain⟨M,I⟩:=eT F;have f:=a;unfold R47 at f;have D:((k:Int) !=(k:Int))=false:=by simp
 have G:decide ((most:Int)<0)=false:=P0 oW;have h:Mem W0 U ([(bK r [(St s),(I6 0),(I6 (-1)),(I6 0),(I6 0)] 296)]++g) W:=d.eqv kR;refine fB 84 Tryz.func261 h ?_;refine zQ 1 (zn (zQ 1 (jY 0 (bK r [(St s),(I6 0),(I6 (-1)),(I6 0),(I6 0)] 296) 192 #[(Pt r 0)] (DP r s (some (k,n,true,z))) (λW d=>F▸eQ s r a d) (λv0 J N A j=>?_))));obtain⟨rfl,rfl⟩:=j;refine zq 7 (zn (zs (aB (zB [0,0,0,1,0,0] [(r,1)] (zn (cU (zs ?_)))))));refine gI 8 [0,0,1,0,0,0,0,2,2,2,2,2,2,2,2,2,2,2,2] [] [.val qF] ⟨?_,trivial⟩ ?_
 ·exact vE (.bool ((k:Int) !=(k:Int))) (M0 Value.bool D)
 refine zq 3 (zn (dM (zQ 1 (eO 0 (x:=(bK r [(St s),(I6 (z:Int)),(I6 (-1)),(I6 0),(I6 0)] 296)) (λW d=>jI ⟨s,z,-1,0,0⟩ 2 r (d.eqv kR)) (λV K O C u=>?_)))));obtain⟨rfl,rfl⟩:=u;refine zn (zQ 1 (zn (aA (aO [6] [(St [])] (λL d=>?_)))));exact eV (σ':=[(bK r [(St s),(I6 0),(I6 0),(I6 2),(I6 0)] 296)]) d (View.le_trans A C) ⟨rfl,rfl⟩
theorem XZ(s:List UInt8)(r k n z most:Nat)(F:hdF s=some (k,n,false,z))(a:s.length<=R47)(E:most<=2000000000)(G:(decide ((n:Int)>((((s).length:Nat):Int)-(z:Int))))=true){W0:Cx}{U:View}{g:aH}{W:World}(d:Mem W0 U ([(r,(Rd.new s).O)]++g) W):CP 261 #[.pointer (some ⟨r,0,none⟩),.int .i64 (k:Int),.int .i64 (most:Int)] W (gX W0 U g λv _ σ'=>v=.string (B [])/\σ'=[(r,(⟨s,0,0,2,0⟩:Rd).O)]):=by
 obtain⟨N,J⟩:=eT F;have f:=a;unfold R47 at f;have D:((k:Int) !=(k:Int))=false:=by simp
 have I:decide ((most:Int)<0)=false:=P0 oW;have h:Mem W0 U ([(bK r [(St s),(I6 0),(I6 (-1)),(I6 0),(I6 0)] 296)]++g) W:=d.eqv kR;refine fB 84 Tryz.func261 h ?_;refine zQ 1 (zn (zQ 1 (jY 0 (bK r [(St s),(I6 0),(I6 (-1)),(I6 0),(I6 0)] 296) 192 #[(Pt r 0)] (DP r s (some (k,n,false,z))) (λW d=>F▸eQ s r a d) (λv0 K O A j=>?_))));obtain⟨rfl,rfl⟩:=j;refine zq 7 (zn (zs (aB (zB [0,0,0,1,0,0] [(r,1)] (zn (cU (zs ?_)))))));refine gI 8 [0,0,1,0,0,0,0,0,0,0,0,3,0,0,0,0,3,1,1] [(r,1),(r,1)] [.val qF,.val (I6 ((((s).length:Nat):Int)-(z:Int))),.val (U6 ((((s).length:Nat):Int)-(z:Int)))] ⟨?_,?_,?_,trivial⟩ ?_
 ·exact vE (.bool ((k:Int) !=(k:Int))) (M0 Value.bool D)
 ·exact vE (I6 (IntKind.i64.wrap ((((s).length:Nat):Int)-(z:Int)))) i6v
 ·exact vE (U6 (IntKind.u64.wrap ((((s).length:Nat):Int)-(z:Int)))) (M0 (Value.int .u64) (u64_in oW oW))
 refine zq 3 (zn (jG (decide ((n:Int)>((((s).length:Nat):Int)-(z:Int)))) G ?_));refine zQ 1 (eO 0 (x:=(bK r [(St s),(I6 (z:Int)),(I6 (-1)),(I6 0),(I6 0)] 296)) (λW d=>jI ⟨s,z,-1,0,0⟩ 2 r (d.eqv kR)) (λX L V C u=>?_));obtain⟨rfl,rfl⟩:=u;refine zn (zQ 1 (zn (aA (aO [6] [(St [])] (λM d=>?_)))));exact eV (σ':=[(bK r [(St s),(I6 0),(I6 0),(I6 2),(I6 0)] 296)]) d (View.le_trans A C) ⟨rfl,rfl⟩
theorem Xb(s:List UInt8)(r k n z most:Nat)(G:hdF s=some (k,n,false,z))(a:s.length<=R47)(F:most<=2000000000)(I:(decide ((n:Int)>((((s).length:Nat):Int)-(z:Int))))=false)(J:(decide ((n:Int)>(most:Int)))=true){W0:Cx}{U:View}{g:aH}{W:World}(d:Mem W0 U ([(r,(Rd.new s).O)]++g) W):CP 261 #[.pointer (some ⟨r,0,none⟩),.int .i64 (k:Int),.int .i64 (most:Int)] W (gX W0 U g λv _ σ'=>v=.string (B [])/\σ'=[(r,(⟨s,0,0,4,0⟩:Rd).O)]):=by
 obtain⟨O,K⟩:=eT G;have f:=a;unfold R47 at f;have D:((k:Int) !=(k:Int))=false:=by simp
 have E:decide ((most:Int)<0)=false:=P0 oW;have h:Mem W0 U ([(bK r [(St s),(I6 0),(I6 (-1)),(I6 0),(I6 0)] 296)]++g) W:=d.eqv kR;refine fB 84 Tryz.func261 h ?_;refine zQ 1 (zn (zQ 1 (jY 0 (bK r [(St s),(I6 0),(I6 (-1)),(I6 0),(I6 0)] 296) 192 #[(Pt r 0)] (DP r s (some (k,n,false,z))) (λW d=>G▸eQ s r a d) (λv0 L V A j=>?_))));obtain⟨rfl,rfl⟩:=j;refine zq 7 (zn (zs (aB (zB [0,0,0,1,0,0] [(r,1)] (zn (cU (zs ?_)))))));refine gI 8 [0,0,1,0,0,0,0,0,0,0,0,3,0,0,0,0,3,1,1] [(r,1),(r,1)] [.val qF,.val (I6 ((((s).length:Nat):Int)-(z:Int))),.val (U6 ((((s).length:Nat):Int)-(z:Int)))] ⟨?_,?_,?_,trivial⟩ ?_
 ·exact vE (.bool ((k:Int) !=(k:Int))) (M0 Value.bool D)
 ·exact vE (I6 (IntKind.i64.wrap ((((s).length:Nat):Int)-(z:Int)))) i6v
 ·exact vE (U6 (IntKind.u64.wrap ((((s).length:Nat):Int)-(z:Int)))) (M0 (Value.int .u64) (u64_in oW oW))
 refine zq 3 (zn (dY (decide ((n:Int)>((((s).length:Nat):Int)-(z:Int)))) I ?_));refine zQ 3 (dZ 50 (.bool (decide ((most:Int)<0))) qF (M0 Value.bool E) ?_);refine zq 3 (dZ 53 (U6 (IntKind.u64.wrap (most:Int))) (N6 most) (M0 (Value.int .u64) (u64_in oW oW)) ?_);refine zq 3 (zn (jG (decide ((n:Int)>(most:Int))) J ?_));refine zQ 1 (eO 0 (x:=(bK r [(St s),(I6 (z:Int)),(I6 (-1)),(I6 0),(I6 0)] 296)) (λW d=>jI ⟨s,z,-1,0,0⟩ 4 r (d.eqv kR)) (λY M X C u=>?_));obtain⟨rfl,rfl⟩:=u;refine zn (zQ 1 (zn (aA (aO [6] [(St [])] (λN d=>?_)))));exact eV (σ':=[(bK r [(St s),(I6 0),(I6 0),(I6 4),(I6 0)] 296)]) d (View.le_trans A C) ⟨rfl,rfl⟩
theorem Jm(s:List UInt8)(r k n z most:Nat)(G:hdF s=some (k,n,false,z))(a:s.length<=R47)(D:most<=2000000000)(E:(decide ((n:Int)>((((s).length:Nat):Int)-(z:Int))))=false)(F:(decide ((n:Int)>(most:Int)))=false){W0:Cx}{U:View}{f:aH}{W:World}(g:Mem W0 U ([(r,(Rd.new s).O)]++f) W):CP 261 #[.pointer (some ⟨r,0,none⟩),.int .i64 (k:Int),.int .i64 (most:Int)] W (gX W0 U f λv _ σ'=>v=.string (B ((s.drop z).take n))/\σ'=[(r,(⟨s,z+n,-1,0,0⟩:Rd).O)]):=by
 obtain⟨N,K⟩:=eT G;have d:=a;unfold R47 at d;have A:((k:Int) !=(k:Int))=false:=by simp
 have C:decide ((most:Int)<0)=false:=P0 oW;have I:=O5 E;have J:=O5 F;have h:Mem W0 U ([(bK r [(St s),(I6 0),(I6 (-1)),(I6 0),(I6 0)] 296)]++f) W:=g.eqv kR;refine fB 84 Tryz.func261 h ?_;refine zQ 1 (zn (zQ 1 (jY 0 (bK r [(St s),(I6 0),(I6 (-1)),(I6 0),(I6 0)] 296) 192 #[(Pt r 0)] (DP r s (some (k,n,false,z))) (λW g=>G▸eQ s r a g) (λv0 L O u j=>?_))));obtain⟨rfl,rfl⟩:=j;refine zq 7 (zn (zs (aB (zB [0,0,0,1,0,0] [(r,1)] (zn (cU (zs ?_)))))));refine gI 8 [0,0,1,0,0,0,0,0,0,0,0,3,0,0,0,0,3,1,1] [(r,1),(r,1)] [.val qF,.val (I6 ((((s).length:Nat):Int)-(z:Int))),.val (U6 ((((s).length:Nat):Int)-(z:Int)))] ⟨?_,?_,?_,trivial⟩ ?_
 ·exact vE (.bool ((k:Int) !=(k:Int))) (M0 Value.bool A)
 ·exact vE (I6 (IntKind.i64.wrap ((((s).length:Nat):Int)-(z:Int)))) i6v
 ·exact vE (U6 (IntKind.u64.wrap ((((s).length:Nat):Int)-(z:Int)))) (M0 (Value.int .u64) (u64_in oW oW))
 refine zq 3 (zn (dY (decide ((n:Int)>((((s).length:Nat):Int)-(z:Int)))) E ?_));refine zQ 3 (dZ 50 (.bool (decide ((most:Int)<0))) qF (M0 Value.bool C) ?_);refine zq 3 (dZ 53 (U6 (IntKind.u64.wrap (most:Int))) (N6 most) (M0 (Value.int .u64) (u64_in oW oW)) ?_);refine zq 3 (zn (dY (decide ((n:Int)>(most:Int))) F ?_));refine zk (zs ?_);refine gI 4 [0,0,0,3,0,0,0,3,0,0,0,3,0,1,1] [(r,1),(r,1),(r,1)] [.val (I6 (n:Int)),.val (I6 ((z:Int)+(n:Int)))] ⟨?_,?_,trivial⟩ ?_
 ·exact vE (I6 (IntKind.i64.wrap (n:Int))) i6v
 ·exact vE (I6 (IntKind.i64.wrap ((z:Int)+(n:Int)))) i6v
 refine cB (St ((s.drop z).take ((z+n)-z))) (iY 9 _ (some _) (some _) rfl s z (z+n) ((s.drop z).take ((z+n)-z)) kR (show evS _ _=_ by kernel_rfl) (show evS _ _=_ by kernel_rfl) nL nL rfl Tryz.underlying9) ?_;refine zq 1 (zn (zB [0,0,0,1,0,0] [(r,1)] (dH 79 (n:Int) (zq 1 (dH 80 ((z:Int)+(n:Int)) (zq 2 (aX 0 r (zn (zQ 2 (zn (aA (aO [6] [(St ((s.drop z).take ((z+n)-z)))] (λM g=>?_)))))))))))));exact eV (σ':=[(bK r [(St s),(I6 ((z:Int)+(n:Int))),(I6 (-1)),(I6 0),(I6 0)] 296)]) g u ⟨by show Value.string (B ((s.drop z).take (z+n-z)))=_;rw[Z3],by kernel_rfl⟩
structure Ps where
 b:List UInt8
 at_:Nat
 e:Int
def Ps.cs(p:Ps):List Value:=[.string (B p.b),.int .i64 (p.at_:Int),.int .i64 p.e]
def Ps.O(p:Ps):Obj:=.cells p.cs.toArray 208 (0,0)
def Ps.rest(p:Ps):List UInt8:=p.b.drop p.at_
structure Ps.ok (p : Ps) : Prop where
 le:p.at_<=p.b.length
 len:p.b.length<=R47
theorem Ps.rest_len{p:Ps}(h:p.ok):p.rest.length<=R47:=by
 unfold Ps.rest;rw[N8];have:=h.len;omega
theorem eC(a:Ps)(p:Nat)(A:a.ok){W0:Cx}{U:View}{d:aH}{W:World}(f:Mem W0 U ([(p,a.O)]++d) W):CP 191 #[.pointer (some ⟨p,0,none⟩)] W (gX W0 U d λv _ σ'=>∃r,v=.pointer (some ⟨r,0,none⟩)/\σ'=[(r,(Rd.new a.rest).O),(p,a.O)]):=by
 have u:=A.le;have g:Mem W0 U ([(bK p [(St a.b),(I6 (a.at_:Int)),(I6 a.e)] 208)]++d) W:=f.eqv kR;refine fB 13 Tryz.func191 g ?_;refine zQ 1 (zn (zs ?_));refine gI 4 [0,0,0,3,0,0,0,3] [(p,1),(p,1)] [] trivial ?_;refine cB (St (a.b.drop a.at_)) (iY 9 _ (some _) none rfl a.b a.at_ a.b.length (a.b.drop a.at_) kR (show evS _ _=_ by kernel_rfl) rfl nL nL (dX _ _) Tryz.underlying9) ?_;refine Gb 231 #[(St (a.b.drop a.at_))] (λv _ σ'=>Bn (Rd.new (a.b.drop a.at_)) v σ') (λW f=>MA (a.b.drop a.at_) f) (λv0 B D j h=>?_);obtain⟨k,rfl,rfl⟩:=h;refine zq 1 (zn (aA (aO [2] [(Pt k 0)] (λC f=>?_))));exact eV (σ':=[(k,(Rd.new (a.b.drop a.at_)).O),(bK p [(St a.b),(I6 (a.at_:Int)),(I6 a.e)] 208)]) f j ⟨_,rfl,rfl⟩
theorem rC{W0:Cx}{U V:View}{σ a:aH}{Φ:Value->View->aH->Prop}{v:Value}{W':World}(σ' d:aH)(f:Mem W0 V σ W')(e:σ=(σ'++d)++a)(g:View.le U V)(h:Φ v V σ'):gX W0 U a Φ (.returned v) W':=by
 subst e;exact⟨v,V,σ',rfl,g,f.sub (N4 (M4 σ' d) (N7 a)),h⟩
def Ps.fail(p:Ps)(at_:Nat)(e:Int):Ps:=if p.e==0 then⟨p.b,at_,e⟩else p
def itZ:Value:=.agg #[.int .i64 0,.int .u64 0,.string (B []),.slice none 0 0,.bool false]
theorem lC(a:Ps)(p at_:Nat)(e:Int){W0:Cx}{U:View}{d:aH}{W:World}(g:Mem W0 U ([(p,a.O)]++d) W):CP 147 #[.pointer (some ⟨p,0,none⟩),.int .i64 (at_:Int),.int .i64 e] W (gX W0 U d λv _ σ'=>v=itZ/\σ'=[(p,(a.fail at_ e).O)]):=by
 have j:Mem W0 U ([(bK p [(St a.b),(I6 (a.at_:Int)),(I6 a.e)] 208)]++d) W:=g.eqv kR;refine fB 21 Tryz.func147 j ?_;refine zs (zr (dB 1 (λf=>?_)));refine zn (zs (zB [0,0,0,1,0] [(p,1)] (zn (gK (a.e==0) (λh=>?_) (λh=>?_)))))
 ·refine zr (zq 6 (aX 0 p (zq 2 (aX 0 p (zn (zQ 1 (aX 1 f (zn (aA (dW [2] [(f,5)] [(.agg #[(I6 0),(U6 0),(St []),S0,qF])] (λk g=>?_)))))))))));exact rC [(bK p [(St a.b),(I6 (at_:Int)),(I6 e)] 208)] [(f,.cells [(I6 0),(U6 0),(St []),S0,qF].toArray 136 (0,0))] g kR (View.le_refl _) ⟨rfl,by simp only[Ps.fail,h,if_true,N9,if_false];rfl⟩
 ·refine zk (zQ 1 (aX 1 f (zn (aA (dW [2] [(f,5)] [(.agg #[(I6 0),(U6 0),(St []),S0,qF])] (λk g=>?_))))));exact rC [(bK p [(St a.b),(I6 (a.at_:Int)),(I6 a.e)] 208)] [(f,.cells [(I6 0),(U6 0),(St []),S0,qF].toArray 136 (0,0))] g kR (View.le_refl _) ⟨rfl,by simp only[Ps.fail,h,if_true,N9,if_false];rfl⟩
def CF(s:List UInt8):Bool:=match hdF s with
 |some (m,_,o,_)=>((m:Int)==7)&&o
 |none=>false
theorem YX(a:Ps)(p:Nat)(B:a.ok)(C:hdF a.rest=none){W0:Cx}{U:View}{f:aH}{W:World}(d:Mem W0 U ([(p,a.O)]++f) W):CP 236 #[.pointer (some ⟨p,0,none⟩)] W (gX W0 U f λv _ σ'=>v=.bool (CF a.rest)/\σ'=[(p,a.O)]):=by
 have h:Mem W0 U ([(bK p [(St a.b),(I6 (a.at_:Int)),(I6 a.e)] 208)]++f) W:=d.eqv kR;refine fB 18 Tryz.func236 h ?_;refine zQ 1 (zn (zQ 1 (eO 0 (λW d=>eC a p B d) (λv0 D G u k=>?_))));obtain⟨g,rfl,rfl⟩:=k;refine jY 0 (g,(Rd.new a.rest).O) 192 #[(Pt g 0)] (DP g a.rest (none)) (λW d=>C▸eQ a.rest g (Ps.rest_len B) d) (λJ E I A r=>?_);obtain⟨rfl,rfl⟩:=r;refine zq 7 (zn (zQ 6 (zn (aA (aO [2] [qF] (λF d=>?_))))));have j:=d.perm (List.Perm.swap _ _ _);exact rC [(bK p [(St a.b),(I6 (a.at_:Int)),(I6 a.e)] 208)] [(g,(hdR a.rest (none)).O)] j kR (View.le_trans u A) ⟨by simp only[CF,C,dD,bs,bQ,reduceIte],by kernel_rfl⟩
theorem YW(a:Ps)(p:Nat)(m n z:Nat)(o:Bool)(E:a.ok)(D:hdF a.rest=some (m,n,o,z)){W0:Cx}{U:View}{g:aH}{W:World}(d:Mem W0 U ([(p,a.O)]++g) W):CP 236 #[.pointer (some ⟨p,0,none⟩)] W (gX W0 U g λv _ σ'=>v=.bool (CF a.rest)/\σ'=[(p,a.O)]):=by
 let r:=(bK p [(St a.b),(I6 (a.at_:Int)),(I6 a.e)] 208);have A:Mem W0 U ([r]++g) W:=d.eqv kR;refine fB 18 Tryz.func236 A ?_;refine zQ 1 (zn (zQ 1 (eO 0 (λW d=>eC a p E d) (λv0 G J j B=>?_))));obtain⟨h,rfl,rfl⟩:=B;refine jY 0 (h,(Rd.new a.rest).O) 192 #[(Pt h 0)] (DP h a.rest (some (m,n,o,z))) (λW d=>D▸eQ a.rest h (Ps.rest_len E) d) (λL I K k C=>?_);obtain⟨rfl,rfl⟩:=C;refine zq 7 (zn (zQ 3 (cN 15 ((m:Int)==7) (λu=>?_) (λu=>?_))))
 ·refine zq 3 (zn (aA (aO [2] [(.bool o)] (λF d=>?_))));have f:=d.perm (List.Perm.swap _ _ _);exact rC [r] [(h,(hdR a.rest (some (m,n,o,z))).O)] f kR (View.le_trans j k) ⟨by simp only[CF,D,dD,u,bs,bQ,reduceIte],by kernel_rfl⟩
 ·refine zq 3 (zn (aA (aO [2] [qF] (λF d=>?_))));have f:=d.perm (List.Perm.swap _ _ _);exact rC [r] [(h,(hdR a.rest (some (m,n,o,z))).O)] f kR (View.le_trans j k) ⟨by simp only[CF,D,dD,u,bs,bQ,reduceIte],by kernel_rfl⟩
theorem Qb(a:Rd)(r:Nat)(w:World){U:View}(d:See U w)(f:U.range r 0 a.cs):CP 194 #[.pointer (some ⟨r,0,none⟩)] w (Ret (.int .i64 (a.at_:Int)) w):=by
 refine dC 7 Tryz.func194 d ?_;refine zQ 1 (zn (zQ 3 (zV r (0+1) (I6 (a.at_:Int)) (f 1 _ rfl) 3 (.tmp 5) _ Tryz.underlying3 rfl ?_)));refine zq 1 (zn (aA (gC 2)))
def tZ(s:List UInt8)(n z:Nat)(o:Bool)(most:Nat):List UInt8×Rd:=
 if o then([],⟨s,0,0,2,0⟩)else if decide ((n:Int)>(((s).length:Nat):Int)-(z:Int))then([],⟨s,0,0,2,0⟩)else if decide ((n:Int)>(most:Int))then([],⟨s,0,0,4,0⟩)else((s.drop z).take n,⟨s,z+n,-1,0,0⟩)
def Sy(r:Nat)(x:List UInt8×Rd)(v:Value)(_:View)(σ:aH):Prop:=v=.string (B x.1)/\σ=[(r,x.2.O)]
theorem VH(s:List UInt8)(r k n z most:Nat)(o:Bool)(h:hdF s=some (k,n,o,z))(d:s.length<=R47)(a:most<=2000000000){W0:Cx}{U:View}{f:aH}{W:World}(g:Mem W0 U ([(r,(Rd.new s).O)]++f) W):
  CP 261 #[.pointer (some ⟨r,0,none⟩),.int .i64 (k:Int),.int .i64 (most:Int)] W (gX W0 U f (Sy r (tZ s n z o most))):=by
 unfold tZ;cases o with
 |true=>exact Xc s r k n z most h d a g
 |false=>
  cases j:decide ((n:Int)>(((s).length:Nat):Int)-(z:Int))with
  |true=>exact XZ s r k n z most h d a j g
  |false=>
   cases u:decide ((n:Int)>(most:Int))with
   |true=>exact Xb s r k n z most h d a j u g
   |false=>exact Jm s r k n z most h d a j u g
theorem YL(s:List UInt8)(r n z most:Nat)(o:Bool)(k:hdF s=some (2,n,o,z))(f:s.length<=R47)(a:most<=2000000000){W0:Cx}{U:View}{g:aH}{W:World}(d:Mem W0 U ([(r,(Rd.new s).O)]++g) W):CP 233 #[.pointer (some ⟨r,0,none⟩),.int .i64 (most:Int)] W (gX W0 U g (Sy r (tZ s n z o most))):=by
 refine fB 8 Tryz.func233 d ?_;refine zQ 1 (zn (zQ 2 (eO 0 (λW d=>VH s r 2 n z most o k f a d) (λv0 u B j h=>?_))));obtain⟨rfl,rfl⟩:=h;refine zq 1 (zn (aA (aO [4] [(St (tZ s n z o most).1)] (λA d=>?_))));exact eV (σ':=[(r,(tZ s n z o most).2.O)]) d j ⟨rfl,rfl⟩
theorem Xd(s:List UInt8)(r n z most:Nat)(o:Bool)(k:hdF s=some (3,n,o,z))(f:s.length<=R47)(a:most<=2000000000){W0:Cx}{U:View}{g:aH}{W:World}(d:Mem W0 U ([(r,(Rd.new s).O)]++g) W):CP 234 #[.pointer (some ⟨r,0,none⟩),.int .i64 (most:Int)] W (gX W0 U g (Sy r (tZ s n z o most))):=by
 refine fB 8 Tryz.func234 d ?_;refine zQ 1 (zn (zQ 2 (eO 0 (λW d=>VH s r 3 n z most o k f a d) (λv0 u B j h=>?_))));obtain⟨rfl,rfl⟩:=h;refine zq 1 (zn (aA (aO [4] [(St (tZ s n z o most).1)] (λA d=>?_))));exact eV (σ':=[(r,(tZ s n z o most).2.O)]) d j ⟨rfl,rfl⟩
def fX(f:List UInt8->Option (Itm.Tr×Nat)):Nat->List UInt8->Option (List Itm.Tr×Nat)
 |0,_=>some ([],0)
 |n+1,s=>match f s with
  |none=>none
  |some (t,k)=>match fX f n (s.drop k)with
   |none=>none
   |some (ts,j)=>some (t::ts,k+j)
def iI(f:List UInt8->Option (Itm.Tr×Nat)):Nat->List UInt8->Option (List Itm.Tr×Nat)
 |0,s=>if CF s then some ([],1)else none
 |n+1,s=>if CF s then some ([],1)else match f s with
  |none=>none
  |some (t,k)=>match iI f n (s.drop k)with
   |none=>none
   |some (ts,j)=>some (t::ts,k+j)
def oJ(m:Int)(x:List UInt8×Rd):Option (Itm.Tr×Nat):=if x.2.e==0 then some (.mk m 0 x.1 [] false,x.2.at_)else none
def lZ(o:Bool)(z:Nat):Option (List Itm.Tr×Nat)->Option (Itm.Tr×Nat)
 |none=>none
 |some (l,k)=>some (.mk 4 0 [] l o,z+k)
def itF:Nat->List UInt8->Option (Itm.Tr×Nat)
 |0,_=>none
 |d+1,s=>match hdF s with
  |none=>none
  |some (m,n,o,z)=>
   if m=0 then some (.mk 0 n [] [] false,z)
   else if m=2 then oJ 2 (tZ s n z o 1073741824)
   else if m=3 then oJ 3 (tZ s n z o 1073741824)
   else if m=4 then(if o then lZ true z (iI (itF d) 1000 (s.drop z))else if n<=1000 then lZ false z (fX (itF d) n (s.drop z))else none)
   else none
theorem ZH{l:List UInt8}(h:l.length<=8):eE 0 l<18446744073709551616:=by
 have a:=sD l 0 0 (by simp);have d:256^(0+l.length)<=256^8:=W7 (by decide) oW;have f:(256:Nat)^8=18446744073709551616:=by decide
 omega
theorem DG{s:List UInt8}{m n z:Nat}{o:Bool}(h:hdF s=some (m,n,o,z)):n<18446744073709551616/\m<8:=by
 unfold hdF at h;split at h
 ·cases h
 ·next c d=>
  have a:=c.toNat_lt;unfold hd1 at h;split at h
  ·simp only[L0,N3]at h;omega
  ·split at h
   ·simp only[L0,N3]at h;omega
   ·split at h
    ·cases h
    ·unfold hd2 at h;split at h
     ·cases h
     ·split at h
      ·cases h
      ·simp only[L0,N3]at h;obtain⟨rfl,rfl,-,-⟩:=h;refine⟨ZH ?_,by omega⟩;rw[O3];have:2^(c.toNat%32-24)<=2^3:=W7 (by decide) oW;omega
theorem WS{s:List UInt8}(h:CF s=true):1<=s.length:=by
 unfold CF at h;split at h
 ·next m n o z a=>
  have:=eT a;omega
 ·cases h
theorem qG{f:List UInt8->Option (Itm.Tr×Nat)}(d:∀s t k,f s=some (t,k)->k<=s.length):∀(n:Nat) (s:List UInt8) (l:List Itm.Tr) (k:Nat),fX f n s=some (l,k)->k<=s.length/\l.length=n
 |0,s,l,k,h=>by
  rw[fX]at h;simp only[L0,N3]at h;obtain⟨rfl,rfl⟩:=h;exact⟨M8 _,rfl⟩
 |n+1,s,l,k,h=>by
  rw[fX]at h;split at h
  ·cases h
  ·next t A g=>
   split at h
   ·cases h
   ·next ts j r=>
    simp only[L0,N3]at h;obtain⟨rfl,rfl⟩:=h;have u:=d _ _ _ g;have a:=qG d n _ _ _ r;rw[N8]at a;exact⟨by omega,by rw[M9,a.2]⟩
theorem AN{f:List UInt8->Option (Itm.Tr×Nat)}(d:∀s t k,f s=some (t,k)->k<=s.length):∀(n:Nat) (s:List UInt8) (l:List Itm.Tr) (k:Nat),iI f n s=some (l,k)->k<=s.length/\l.length<=n
 |0,s,l,k,h=>by
  rw[iI]at h;split at h
  ·next a=>
   simp only[L0,N3]at h;obtain⟨rfl,rfl⟩:=h;exact⟨WS a,O9 _⟩
  ·cases h
 |n+1,s,l,k,h=>by
  rw[iI]at h;split at h
  ·next a=>
   simp only[L0,N3]at h;obtain⟨rfl,rfl⟩:=h;exact⟨WS a,M8 _⟩
  ·split at h
   ·cases h
   ·next t B r=>
    split at h
    ·cases h
    ·next ts j u=>
     simp only[L0,N3]at h;obtain⟨rfl,rfl⟩:=h;have A:=d _ _ _ r;have g:=AN d n _ _ _ u;rw[N8]at g;exact⟨by omega,by rw[M9];omega⟩
theorem LL{s:List UInt8}{m n z most:Nat}{o:Bool}(h:hdF s=some (m,n,o,z)):(tZ s n z o most).2.at_<=s.length/\(tZ s n z o most).1.length<=s.length:=by
 have d:=eT h;unfold tZ;split
 ·exact⟨M8 _,M8 _⟩
 ·split
  ·exact⟨M8 _,M8 _⟩
  ·next a=>
   simp only[N0]at a;split
   ·exact⟨M8 _,M8 _⟩
   ·refine⟨?_,?_⟩
    ·show z+n<=s.length;omega
    ·show((s.drop z).take n).length<=_;rw[O3,N8];omega
theorem gU:∀(d:Nat) (s:List UInt8) (t:Itm.Tr) (k:Nat),itF d s=some (t,k)->k<=s.length
 |0,s,t,k,h=>by rw[itF]at h;cases h
 |d+1,s,t,k,h=>by
  rw[itF]at h;split at h
  ·cases h
  ·next m n o z f=>
   have g:=eT f;split at h
   ·simp only[L0,N3]at h;omega
   ·split at h
    ·unfold oJ at h;split at h
     ·simp only[L0,N3]at h;rw[<-h.2];exact(LL f).1
     ·cases h
    ·split at h
     ·unfold oJ at h;split at h
      ·simp only[L0,N3]at h;rw[<-h.2];exact(LL f).1
      ·cases h
     ·split at h
      ·split at h
       ·cases a:iI (itF d) 1000 (s.drop z)with
        |none=>rw[a]at h;cases h
        |some q=>
         obtain⟨l,j⟩:=q;rw[a]at h;simp only[lZ,L0,N3]at h;have:=(AN (gU d) _ _ _ _ a).1;rw[N8]at this;omega
       ·split at h
        ·cases a:fX (itF d) n (s.drop z)with
         |none=>rw[a]at h;cases h
         |some q=>
          obtain⟨l,j⟩:=q;rw[a]at h;simp only[lZ,L0,N3]at h;have:=(qG (gU d) _ _ _ _ a).1;rw[N8]at this;omega
        ·cases h
      ·cases h
theorem VW(n:Nat):∀(k a:Nat),eE a (Itm.dg n k)=a*256^k+n%256^k
 |0,a=>by simp[Itm.dg,eE,Nat.mod_one]
 |k+1,a=>by
  have h:=VW n k (a*256+(UInt8.ofNat (n/256^k)).toNat);rw[Itm.dg];show eE (a*256+(UInt8.ofNat (n/256^k)).toNat) (Itm.dg n k)=_;rw[h];have e:(UInt8.ofNat (n/256^k)).toNat=n/256^k%256:=by simp
  rw[e,bE];have d:n%(256^k*256)=n%256^k+256^k*(n/256^k%256):=Nat.mod_mul;rw[d,W6,Nat.mul_assoc,Nat.mul_comm 256 (256^k),Nat.mul_comm (n/256^k%256) (256^k)];omega
theorem lG(m n:Nat)(r:List UInt8)(hm:m<=7)(G:n<18446744073709551616):hdF (Itm.aF m n++r)=some (m,n,false,(Itm.aF m n).length):=by
 have d:(Itm.aF m n).length=1+Itm.QX n:=by rw[Itm.WE,M9,Itm.fP,Z1]
 rw[d];have hs:Itm.aF m n++r=UInt8.ofNat (32*m+Itm.rN n)::(Itm.dg n (Itm.QX n)++r):=by rw[Itm.WE,T9]
 have B:=Itm.Nr n;have A:(UInt8.ofNat (32*m+Itm.rN n)).toNat=32*m+Itm.rN n:=by
  rw[UInt8.toNat_ofNat'];exact aw oW
 unfold hdF;rw[hs];simp only[P5];rw[A,show(32*m+Itm.rN n)/32=m by omega,show(32*m+Itm.rN n)%32=Itm.rN n by omega];by_cases a:n<24
 ·have f:Itm.rN n=n:=by unfold Itm.rN;rw[N1 a]
  have k:Itm.QX n=0:=by unfold Itm.QX;rw[N1 a]
  unfold hd1;rw[f,N1 a,k]
 ·have f:¬Itm.rN n<24/\Itm.QX n=2^(Itm.rN n-24)/\Itm.QX n<=8/\n<256^Itm.QX n:=by
   unfold Itm.rN Itm.QX;rw[M5 a,M5 a];by_cases g:n<256
   ·rw[N1 g,N1 g];exact⟨by omega,by decide,by decide,by omega⟩
   ·rw[M5 g,M5 g];by_cases h:n<65536
    ·rw[N1 h,N1 h];exact⟨by omega,by decide,by decide,by omega⟩
    ·rw[M5 h,M5 h];by_cases j:n<4294967296
     ·rw[N1 j,N1 j];exact⟨by omega,by decide,by decide,by omega⟩
     ·rw[M5 j,M5 j];exact⟨by omega,by decide,by decide,by omega⟩
  obtain⟨f,k,F,u⟩:=f;unfold hd1;rw[M5 f,M5 oW,M5 oW,<-k];unfold hd2;have E:((UInt8.ofNat (32*m+Itm.rN n)::(Itm.dg n (Itm.QX n)++r)).drop 1).take (Itm.QX n)=Itm.dg n (Itm.QX n):=by
   rw[ai,W5,List.take_left' (Itm.fP _ _)]
  have C:eE 0 (Itm.dg n (Itm.QX n))=n:=by
   rw[VW,bF,O0,aw u]
  rw[E,C,d];have D:(UInt8.ofNat (32*m+Itm.rN n)::(Itm.dg n (Itm.QX n)++r)).length=1+Itm.QX n+r.length:=by
   rw[M9,L4,Itm.fP];omega
  rw[D,P0 oW];simp
theorem Vb(m:Nat)(r:List UInt8)(hm:m<=7)(ho:qL (m:Int)=true):hdF (UInt8.ofNat (32*m+31)::r)=some (m,0,true,1):=by
 have a:(UInt8.ofNat (32*m+31)).toNat=32*m+31:=by
  rw[UInt8.toNat_ofNat'];exact aw oW
 unfold hdF;simp only[P5];rw[a,show(32*m+31)/32=m by omega,show(32*m+31)%32=31 by omega];unfold hd1;rw[M5 (by decide),N1 ⟨rfl,ho⟩]
theorem NC(r:List UInt8):CF (255::r)=true:=by
 have h:=Vb 7 r (by decide) (by decide);have a:hdF (255::r)=some (7,0,true,1):=h;unfold CF;rw[a];rfl
theorem Zy{t:Itm.Tr}(h:Itm.lA t=true)(d:Itm.NOk t)(f:t.l.length<18446744073709551616)(r:List UInt8):CF (Itm.aG t++r)=false:=by
 cases d with
 |mk k n s l o d hs hel=>
 unfold CF;cases Itm.Uv h with
 |num n=>rw[Itm.mT,lG 0 n r (by decide) d];rfl
 |str s=>rw[Itm.pK,M6,lG 2 _ _ (by decide) hs];rfl
 |text s=>rw[Itm.pJ,M6,lG 3 _ _ (by decide) hs];rfl
 |arr l _=>
  have a:l.length<18446744073709551616:=f;rw[Itm.iQ,M6,lG 4 _ _ (by decide) a];rfl
 |opn l=>rw[Itm.pL,T9,Vb 4 _ (by decide) (by decide)];rfl
theorem AZ{f:List UInt8->Option (Itm.Tr×Nat)}:∀(l:List Itm.Tr) (r:List UInt8),(∀x∈l,∀r,f (Itm.aG x++r)=some (x,(Itm.aG x).length))->fX f l.length (Itm.aY l++r)=some (l,(Itm.aY l).length)
 | [],r,_=>by rw[O8,fX,Itm.aY];rfl
 |x::l,r,h=>by
  rw[M9,fX,Itm.aY,M6,h x (Q3) _];simp only;rw[ad,AZ l r λy a=>h y (P3 _ a)];simp only[L4]
theorem FP{f:List UInt8->Option (Itm.Tr×Nat)}:∀(l:List Itm.Tr) (m:Nat) (r:List UInt8),l.length<=m->(∀x∈l,∀r,f (Itm.aG x++r)=some (x,(Itm.aG x).length))->(∀x∈l,∀r,CF (Itm.aG x++r)=false)->iI f m (Itm.aY l++(255::r))=some (l,(Itm.aY l).length+1)
 | [],m,r,_,_,_=>by
  rw[Itm.aY,R0];cases m with
  |zero=>rw[iI,N1 (NC r)];rfl
  |succ m=>rw[iI,N1 (NC r)];rfl
 |x::l,0,r,hm,_,_=>by simp at hm
 |x::l,m+1,r,hm,h,d=>by
  rw[iI,Itm.aY,M6,M5 (by rw[d x Q3];exact M3),h x Q3 _];simp only;rw[ad,FP l m r (by rw[M9]at hm;omega) (λy a=>h y (P3 _ a)) λy a=>d y (P3 _ a)];simp only[L4,X1]
theorem IW(k:Nat)(s r:List UInt8)(a:s.length<=1073741824):tZ (Itm.aF k s.length++(s++r)) s.length (Itm.aF k s.length).length false 1073741824=(s,⟨Itm.aF k s.length++(s++r),(Itm.aF k s.length).length+s.length,-1,0,0⟩):=by
 unfold tZ;rw[M5 M3,M5 (by rw[N0,L4,L4];omega),M5 (by rw[N0];omega),ad,List.take_left]
theorem CE{l:List Itm.Tr}{x:Itm.Tr}(h:x∈l):(Itm.aG x).length<=(Itm.aY l).length:=by
 induction l with
 |nil=>cases h
 |cons y l ih=>
  rw[Itm.aY,L4];rcases O6.1 h with rfl|h
  ·omega
  ·have:=ih h;omega
theorem OD{d:Nat}{t x:Itm.Tr}(h:Itm.aU (d+1) t=true)(a:x∈t.l):Itm.aU d x=true:=by
 rw[Itm.aU,L5,M7]at h;exact h.2 x a
theorem EY{d:Nat}{t:Itm.Tr}(h:Itm.aU d t=true):Itm.lA t=true:=by
 rw[Itm.AF,L5]at h;exact h.2
theorem AE{d:Nat}{t:Itm.Tr}(h:Itm.aU d t=true):t.l.length<=1000:=by
 cases d with
 |zero=>cases h
 |succ d=>
  rw[Itm.aU,L5]at h;rcases Itm.lW h.1 with⟨_,_,h,_⟩|⟨_,_,h,_⟩|⟨_,_,h,_⟩|⟨_,_,_,h⟩<;>omega
theorem mP:∀(d:Nat) (t:Itm.Tr) (r:List UInt8),Itm.aU d t=true->Itm.NOk t->(Itm.aG t).length<=1073741824->itF d (Itm.aG t++r)=some (t,(Itm.aG t).length)
 |0,t,r,h,_,_=>by cases h
 |d+1,t,r,h,hn,B=>by
  have u:=AE h;have C:=EY h;have A:∀x∈t.l,Itm.aU d x=true:=λx f=>OD h f
  cases hn with
  |mk k n s l o hn hs hel=>
  have g:∀x∈l,Itm.NOk x:=λx f=>by
   obtain⟨i,D⟩:=R8.1 f;exact hel i x D
  have a:∀x∈l,Itm.aU d x=true:=A;have j:l.length<=1000:=u;rw[itF];cases Itm.Uv C with
  |num n=>
   rw[Itm.mT,lG 0 n r (by decide) hn];rfl
  |str s=>
   rw[Itm.pK,L4]at B;rw[Itm.pK,M6,lG 2 _ _ (by decide) hs];simp only[Nat.reduceEqDiff,if_false,if_true];rw[IW 2 s r oW];simp[oJ]
  |text s=>
   rw[Itm.pJ,L4]at B;rw[Itm.pJ,M6,lG 3 _ _ (by decide) hs];simp only[Nat.reduceEqDiff,if_false,if_true];rw[IW 3 s r oW];simp[oJ]
  |arr l _=>
   rw[Itm.iQ,L4]at B;rw[Itm.iQ,M6,lG 4 _ _ (by decide) oW];simp only[Nat.reduceEqDiff,if_false,if_true,N9];rw[N1 j,ad,AZ l r λx f r=>mP d x r (a x f) (g x f) (X0 (CE f) oW)];simp[lZ]
  |opn l=>
   rw[Itm.pL,M9,L4]at B;rw[Itm.pL,T9,Vb 4 _ (by decide) (by decide)];simp only[Nat.reduceEqDiff,if_false,if_true];rw[ai,W5,M6,W2,FP l 1000 r j (λx f r=>mP d x r (a x f) (g x f) (X0 (CE f) oW)) λx f r=>Zy (EY (a x f)) (g x f) (by have:=AE (a x f);omega) r];simp only[lZ,M9,L4,O8,L0,N3,bB];omega
structure Pa where
 id:Int
 v:Itm.Tr
structure As where
 t:List Int
 c:Int
 s:Ei
 p:List Pa
 r:List (List Pa)
def Pa.tree(p:Pa):Itm.Tr:=Itm.dJ [Itm.cD p.id.toNat,p.v]
def gL(l:List Pa):Itm.Tr:=Itm.dJ (l.map Pa.tree)
def Mm(l:List Int):Itm.Tr:=Itm.dJ (l.map λn=>Itm.cD n.toNat)
def As.items(a:As):List Itm.Tr:=
 if a.p.length=0 then[Mm a.t,Itm.cD a.c.toNat,Itm.cD 0,a.s.tree,Itm.dJ (a.r.map gL)]
 else[Mm a.t,Itm.cD a.c.toNat,Itm.cD 1,a.s.tree,gL a.p,Itm.dJ (a.r.map gL)]
def As.bytes(a:As):List UInt8:=Itm.aY a.items
def eX(n:Int):Bool:=decide (n≥0)&&decide (n<=65535)
def oH(pre:List Int):List Int->Bool
 | []=>true
 |n::r=>if !eX n||pre.contains n then false else oH (pre++[n]) r
def iU(l:List Int):Bool:=oH [] l
def paB(p:Pa):Bool:=((p.v.k==0)||(p.v.k==2))&&Itm.aU 8 p.v
def fZ(l:List Pa):Bool:=l.all paB&&iU (l.map Pa.id)
def CW(l:List Pa):Bool:=decide (1<=l.length)&&decide (l.length<=4)&&fZ l
def cW(a:As):Bool:=decide (1<=a.t.length)&&decide (a.t.length<=16)&&iU a.t&&eX a.c&&aN a.s&&decide (a.p.length<=8)&&fZ a.p&&decide (a.r.length=a.t.length)&&a.r.all CW
def As.right(a:As):Bool:=cW a&&decide (a.bytes.length<=4000)
structure As.ok (a : As) : Prop where
 s:a.s.ok
 p:∀x∈a.p,Itm.NOk x.v
 r:∀l∈a.r,∀x∈l,Itm.NOk x.v
theorem eI{n:Int}(h:eX n=true):0<=n/\n<=65535:=by
 unfold eX at h;simp only[L5,N0]at h;omega
theorem tO:∀(l pre:List Int),oH pre l=true->∀n∈l,eX n=true
 | [],_,_,n,hn=>by cases hn
 |m::r,pre,h,n,hn=>by
  rw[oH]at h;split at h
  ·cases h
  ·next a=>
   rcases O6.1 hn with rfl|hn
   ·cases d:eX n with
    |true=>rfl
    |false=>rw[d]at a;simp at a
   ·exact tO r _ h n hn
theorem iD{l:List Int}(h:iU l=true):∀n∈l,0<=n/\n<=65535:=λn a=>eI (tO l [] h n a)
def EA{α β:Type}(f:α->Option β):List α->Option (List β)
 | []=>some []
 |x::l=>match f x with
  |none=>none
  |some y=>match EA f l with
   |none=>none
   |some r=>some (y::r)
theorem AP{α β:Type}{f:α->Option β}{g:β->α}:∀(l:List β),(∀y∈l,f (g y)=some y)->EA f (l.map g)=some l
 | [],_=>rfl
 |y::l,h=>by
  rw[R2,EA,h y Q3,AP l λz a=>h z (P3 _ a)]
def QW(x:Itm.Tr):Option Int:=if x.k==0 then some ((min x.n 65536:Nat):Int)else none
def PB(y:Itm.Tr):Option Pa:=match y.l with
 | [u,v]=>match QW u with
  |none=>none
  |some n=>some ⟨n,v⟩
 |_=>none
def lB(x:Itm.Tr):Option (List Pa):=EA PB x.l
def XJ(x:Itm.Tr):Option (List Int):=EA QW x.l
def Xg(x:Itm.Tr):Option (List (List Pa)):=EA lB x.l
open Classical in
noncomputable def ofE(t:Itm.Tr):Option Ei:=if Itm.OfP t (Itm.iO t)then some ⟨(Itm.iO t).s,(Itm.iO t).l,(Itm.iO t).n,(Itm.iO t).v⟩else none
noncomputable def Sj(t:List Int)(c:Int)(s:Ei)(p:List Pa)(r:Itm.Tr):Option As:=match Xg r with
 |none=>none
 |some r=>some ⟨t,c,s,p,r⟩
noncomputable def Dz(l:List Itm.Tr)(t:List Int)(c:Int)(s:Ei):Option As:=match l with
 | [r]=>Sj t c s [] r
 | [p,r]=>match lB p with
  |none=>none
  |some p=>Sj t c s p r
 |_=>none
noncomputable def Hq(l:List Itm.Tr)(t:List Int)(c:Int):Option As:=match l with
 |_::s::l=>match ofE s with
  |none=>none
  |some s=>Dz l t c s
 |_=>none
noncomputable def asR(l:List Itm.Tr):Option As:=if l.length=5\/l.length=6 then(match l with
 |t::c::l=>match XJ t with
  |none=>none
  |some t=>match QW c with
   |none=>none
   |some c=>Hq l t c
 |_=>none)else none
theorem LZ{n:Int}(h:0<=n/\n<=65535):QW (Itm.cD n.toNat)=some n:=by
 have e:min n.toNat 65536=n.toNat:=X9 oW;show(if(0:Int)==0 then some ((min n.toNat 65536:Nat):Int)else none)=some n;rw[e];show some (n.toNat:Int)=some n;congr 1;omega
theorem Rl{l:List Int}(h:∀n∈l,0<=n/\n<=65535):XJ (Mm l)=some l:=AP l λn a=>LZ (h n a)
theorem fU{l:List Pa}(h:fZ l=true):∀p∈l,0<=p.id/\p.id<=65535:=λp a=>by
 unfold fZ at h;rw[L5]at h;exact iD h.2 p.id (List.mem_map_of_mem a)
theorem JO{l:List Pa}(h:∀p∈l,0<=p.id/\p.id<=65535):lB (gL l)=some l:=AP l λp a=>by
 show(match QW (Itm.cD p.id.toNat)with|none=>none|some n=>some (⟨n,p.v⟩:Pa))=some p;rw[LZ (h p a)]
theorem LY{e:Ei}(h:aN e=true)(g:Itm.aU 8 e.tree=true):ofE e.tree=some e:=by
 obtain⟨s,l,n,v⟩:=e;have hs:s=1\/s=2:=by
  unfold aN Eid.gW at h;simp only at h;split at h
  ·next hs=>exact .inl hs
  ·split at h
   ·next hs=>exact .inr hs
   ·cases h
 obtain⟨k,rfl⟩:∃k:Nat,s=(k:Int):=by
  rcases hs with rfl|rfl
  ·exact⟨1,rfl⟩
  ·exact⟨2,rfl⟩
 have r:k=1\/k=2:=by omega
 have u:(⟨(k:Int),l,n,v⟩:Ei).tree=(⟨k,l,n,v⟩:Itm.Nm).tree:=by
  unfold Ei.tree Itm.Nm.tree Itm.YZ Itm.Rn;rcases r with rfl|rfl
  ·by_cases a:l=[110,111,110,101]
   ·subst a;rfl
   ·have j:(l==[110,111,110,101])=false:=M2.2 a;simp only[j,a];rfl
  ·rfl
 have f:(⟨k,l,n,v⟩:Itm.Nm).right=true:=h;have d:=Itm.XU f;unfold ofE;rw[u]at g ⊢;rw[d,N1 ⟨f,g,rfl⟩]
theorem Tg{a:As}(h:cW a=true)(G:Itm.aU 8 a.s.tree=true):asR a.items=some a:=by
 unfold cW at h;simp only[L5,N0]at h;obtain⟨⟨⟨⟨⟨⟨⟨⟨I,J⟩,A⟩,B⟩,C⟩,K⟩,D⟩,L⟩,E⟩:=h;have f:=Rl (iD A);have g:=LZ (eI B);have j:=LY C G;have u:=JO (fU D);have k:Xg (Itm.dJ (a.r.map gL))=some a.r:=AP a.r λl F=>JO (fU (by
  have:=M7.1 E l F;unfold CW at this;rw[L5]at this;exact this.2))
 obtain⟨t,c,s,p,r⟩:=a;unfold As.items;simp only at f g j u k ⊢;by_cases d:p.length=0
 ·obtain rfl:=O7.1 d;rw[N1 d];unfold asR;rw[N1 (.inl rfl)];simp only[f,g,Hq,j,Dz,Sj,k]
 ·rw[M5 d];unfold asR;rw[N1 (.inr rfl)];simp only[f,g,Hq,j,Dz,u,Sj,k]
theorem iZ{d:Nat}{l:List Itm.Tr}(a:l.length<=1000)(h:∀x∈l,Itm.aU d x=true):Itm.aU (d+1) (Itm.dJ l)=true:=by
 rw[Itm.aU,L5,M7];refine⟨?_,h⟩;show Itm.okN 4 0 [] l.length false=true;unfold Itm.okN;simp[a]
theorem gO(d n:Nat):Itm.aU (d+1) (Itm.cD n)=true:=by
 rw[Itm.aU];rfl
theorem RQ{v:Itm.Tr}{d:Nat}(a:(v.k==0||v.k==2)=true)(h:Itm.aU 8 v=true):Itm.aU (d+1) v=true:=by
 rw[Itm.aU,L5]at h ⊢;refine⟨h.1,?_⟩;have f:v.l.length=0:=by
  rcases Itm.lW h.1 with⟨_,_,h,_⟩|⟨_,_,h,_⟩|⟨_,_,h,_⟩|⟨h,_⟩
  ·exact h
  ·exact h
  ·exact h
  ·rw[h]at a;cases a
 rw[O7.1 f];rfl
theorem JI{d:Nat}{l:List Pa}(g:l.length<=1000)(h:fZ l=true):Itm.aU (d+3) (gL l)=true:=by
 unfold fZ at h;rw[L5]at h;refine iZ (by rw[O1];exact g) λx k=>?_
 obtain⟨p,j,rfl⟩:=S1.1 k;refine iZ (by simp) λy f=>?_
 have a:=M7.1 h.1 p j;unfold paB at a;rw[L5]at a;simp only[O6,Q8,U2]at f;rcases f with rfl|rfl
 ·exact gO d _
 ·exact RQ a.1 a.2
theorem lI(d:Nat)(e:Ei):Itm.aU (d+3) e.tree=true:=by
 have f:∀(k:Nat) (l:List UInt8),Itm.aU (k+1) (XI l)=true:=λk l=>by rw[Itm.aU];rfl
 unfold Ei.tree;split
 ·refine iZ (by simp) λx a=>?_
  simp only[O6,Q8,U2]at a;rcases a with rfl|rfl
  ·exact gO _ _
  ·refine iZ (by simp) λx a=>?_
   simp only[O6,Q8,U2]at a;rcases a with rfl|rfl<;>exact gO _ _
 ·split
  ·refine iZ (by simp) λx a=>?_
   simp only[O6,Q8,U2]at a;rcases a with rfl|rfl<;>exact gO _ _
  ·refine iZ (by simp) λx a=>?_
   simp only[O6,Q8,U2]at a;rcases a with rfl|rfl
   ·exact gO _ _
   ·exact f _ _
theorem IT{d:Nat}{l:List Int}(a:l.length<=1000):Itm.aU (d+2) (Mm l)=true:=
 iZ (by rw[O1];exact a) λx f=>by
  obtain⟨n,_,rfl⟩:=S1.1 f;exact gO _ _
theorem JB{d:Nat}{r:List (List Pa)}(f:r.length<=1000)(h:r.all CW=true):Itm.aU (d+4) (Itm.dJ (r.map gL))=true:=
 iZ (by rw[O1];exact f) λx g=>by
  obtain⟨l,a,rfl⟩:=S1.1 g;have:=M7.1 h l a;unfold CW at this;simp only[L5,N0]at this;exact JI oW this.2
theorem tG{a:As}(h:cW a=true){d:Nat}:∀x∈a.items,Itm.aU (d+4) x=true:=by
 unfold cW at h;simp only[L5,N0]at h;obtain⟨⟨⟨⟨⟨⟨⟨⟨k,r⟩,u⟩,A⟩,B⟩,C⟩,j⟩,D⟩,g⟩:=h;intro x f;unfold As.items at f;split at f
 ·simp only[O6,Q8,U2]at f;rcases f with rfl|rfl|rfl|rfl|rfl
  ·exact IT oW
  ·exact gO _ _
  ·exact gO _ _
  ·exact lI _ _
  ·exact JB oW g
 ·simp only[O6,Q8,U2]at f;rcases f with rfl|rfl|rfl|rfl|rfl|rfl
  ·exact IT oW
  ·exact gO _ _
  ·exact gO _ _
  ·exact lI _ _
  ·exact JI oW j
  ·exact JB oW g
theorem qA{l:List Itm.Tr}(h:∀x∈l,Itm.NOk x){o:Bool}:Itm.NOk (.mk 4 0 [] l o):=.mk 4 0 [] l o (by decide) (by decide) λi t a=>h t (K9 a)
theorem oO{n:Nat}(h:n<18446744073709551616):Itm.NOk (Itm.cD n):=.mk 0 n [] [] false h (by decide) λi t a=>by simp at a
theorem Wc{e:Ei}(h:e.ok):Itm.NOk e.tree:=by
 have d:=h.l;unfold R47 at d;unfold Ei.tree;split
 ·refine qA λx a=>?_
  simp only[O6,Q8,U2]at a;rcases a with rfl|rfl
  ·exact oO (by decide)
  ·refine qA λx a=>?_
   simp only[O6,Q8,U2]at a;rcases a with rfl|rfl
   ·exact oO h.n
   ·exact oO h.v
 ·split
  ·refine qA λx a=>?_
   simp only[O6,Q8,U2]at a;rcases a with rfl|rfl<;>exact oO (by decide)
  ·refine qA λx a=>?_
   simp only[O6,Q8,U2]at a;rcases a with rfl|rfl
   ·exact oO (by decide)
   ·exact .mk 3 0 e.l [] false (by decide) (by show e.l.length<18446744073709551616;omega) λi t f=>by simp at f
theorem Wd{l:List Pa}(h:∀p∈l,0<=p.id/\p.id<=65535)(f:∀p∈l,Itm.NOk p.v):Itm.NOk (gL l):=qA λx g=>by
 obtain⟨p,a,rfl⟩:=S1.1 g;refine qA λy d=>?_
 simp only[O6,Q8,U2]at d;rcases d with rfl|rfl
 ·have:=h p a;exact oO oW
 ·exact f p a
theorem PL{a:As}(ho:a.ok)(h:cW a=true):∀x∈a.items,Itm.NOk x:=by
 unfold cW at h;simp only[L5,N0]at h;obtain⟨⟨⟨⟨⟨⟨⟨⟨D,E⟩,r⟩,u⟩,F⟩,G⟩,A⟩,I⟩,B⟩:=h;have k:Itm.NOk (Mm a.t):=qA λx d=>by
  obtain⟨n,C,rfl⟩:=S1.1 d;have:=iD r n C;exact oO oW
 have g:Itm.NOk (Itm.cD a.c.toNat):=by
  have:=eI u;exact oO oW
 have j:Itm.NOk (Itm.dJ (a.r.map gL)):=qA λx d=>by
  obtain⟨l,f,rfl⟩:=S1.1 d;have:=M7.1 B l f;unfold CW at this;rw[L5]at this;exact Wd (fU this.2) (ho.r l f)
 intro x d;unfold As.items at d;split at d
 ·simp only[O6,Q8,U2]at d;rcases d with rfl|rfl|rfl|rfl|rfl
  ·exact k
  ·exact g
  ·exact oO (by decide)
  ·exact Wc ho.s
  ·exact j
 ·simp only[O6,Q8,U2]at d;rcases d with rfl|rfl|rfl|rfl|rfl|rfl
  ·exact k
  ·exact g
  ·exact oO (by decide)
  ·exact Wc ho.s
  ·exact Wd (fU A) ho.p
  ·exact j
theorem tE{a:As}(ho:a.ok)(h:a.right=true):itF 8 (159::(a.bytes++[255]))=some (.mk 4 0 [] a.items true,(159::(a.bytes++[255])).length):=by
 unfold As.right at h;rw[L5,N0]at h;have g:Itm.aG (.mk 4 0 [] a.items true)=159::(a.bytes++[255]):=Itm.pL a.items;have f:a.items.length<=1000:=by unfold As.items;split<;>simp
 have j:Itm.aU 8 (.mk 4 0 [] a.items true)=true:=by
  rw[Itm.aU,L5,M7];refine⟨?_,λx k=>tG h.1 (d:=3) x k⟩;show Itm.okN 4 0 [] a.items.length true=true;unfold Itm.okN;simp[f]
 have:=mP 8 (.mk 4 0 [] a.items true) [] j (qA (PL ho h.1)) (by rw[g,M9,L4];simp only[M9,O8];omega);rw[M1,g]at this;exact this
theorem rV{a:As}(h:a.right=true):asR a.items=some a:=by
 unfold As.right at h;rw[L5]at h;exact Tg h.1 (lI 5 a.s)
theorem bytes_inj{a b:As}(g:a.right=true)(j:b.right=true)(u:a.ok)(A:b.ok)(h:a.bytes=b.bytes):a=b:=by
 have d:=tE u g;have r:=tE A j;rw[h,r]at d;simp only[L0,N3,Itm.Tr.mk.injEq,bB,bA]at d;have f:=rV g;have k:=rV j;rw[<-d,k]at f;exact(N5 f).symm
def PaR(V:View)(p:Pa)(cs:List Value):Prop:=∃ct,cs=.int .i64 p.id::ct/\TV V p.v ct
instance paR:RecOk PaR 6:=⟨λh ⟨ct,e,ht⟩=>⟨ct,e,ht.le h⟩,λ⟨ct,e,ht⟩=>by rw[e,M9,ht.len5],λ⟨ct,e,ht⟩ u hu=>by
 rw[e]at hu;rcases O6.1 hu with rfl|hu
 ·rfl
 ·exact ht.one u hu⟩
def RlR(V:View)(l:List Pa)(cs:List Value):Prop:=∃a c,cs=[.slice a l.length c]/\fJ PaR 6 V a l
instance rlR:RecOk RlR 1:=⟨λh ⟨a,c,e,hl⟩=>⟨a,c,e,hl.le h⟩,λ⟨a,c,e,hl⟩=>by rw[e];rfl,λ⟨a,c,e,hl⟩ u hu=>by
 rw[e]at hu;obtain rfl:=R7.1 hu;rfl⟩
theorem MN{V:View}{b f:Nat}{l:List Int}(h:V.range b f (l.map inV))(a:l.length<=R47):gV V (some ⟨b,f,none⟩) l:=⟨λ_=>⟨b,f,rfl,h⟩,a⟩
theorem gV.nil{V:View}{a:Option Addr}:gV V a []:=⟨λh=>absurd rfl h,by unfold R47;simp⟩
theorem gV.take{V:View}{b f:Nat}{l:List Int}(h:gV V (some ⟨b,f,none⟩) l)(i:Nat):gV V (some ⟨b,f,none⟩) (l.take i):=by
 refine⟨λd=>?_,by have:=h.len;rw[O3];omega⟩;obtain⟨g,k,e,r⟩:=h.at_ (λe=>d (by rw[e];simp));refine⟨g,k,e,λj v a=>r j v ?_⟩;rw[List.map_take]at a;rw[X4]at a;split at a
 ·exact a
 ·cases a
structure DR (U : View) (a1 a2 a3 : Option Addr) (a : As) : Prop where
 t:gV U a1 a.t
 p:fJ PaR 6 U a2 a.p
 r:fJ RlR 1 U a3 a.r
 s:a.s.ok
def mD(a:As)(a1 a2 a3:Option Addr)(c1 c2 c3:Nat):List Value:=[.slice a1 a.t.length c1,.int .i64 a.c,.int .i64 a.s.s,.string (B a.s.l),.int .u64 a.s.n,.int .u64 a.s.v,.slice a2 a.p.length c2,.slice a3 a.r.length c3]
def asV(a:As)(a1 a2 a3:Option Addr)(c1 c2 c3:Nat):Value:=.agg (mD a a1 a2 a3 c1 c2 c3).toArray
theorem TV.nok{U:View}{t:Itm.Tr}{cs:List Value}(h:TV U t cs):Itm.NOk t:=by
  induction h with
  | mk k n s l o a c C hn hs hl hat hel ih => exact .mk k n s l o hn (by have : R47 < 18446744073709551616 := by decide
                                                                         show s.length<18446744073709551616;omega) ih
theorem fJ.all{α:Type}{R:View->α->List Value->Prop}{z:Nat}{U:View}{a:Option Addr}{l:List α}(h:fJ R z U a l){x:α}(g:x∈l):∃cs,R U x cs:=by
 obtain⟨i,d⟩:=R8.1 g;obtain⟨_,_,cs,_,_,f⟩:=h.at_ i x d;exact⟨cs,f⟩
theorem DR.ok{U:View}{g j k:Option Addr}{a:As}(h:DR U g j k a):a.ok:=
 ⟨h.s,λx f=>by
  obtain⟨cs,r,_,d⟩:=h.p.all f;exact d.nok,λl u x f=>by
  obtain⟨cs,a,c,_,A⟩:=h.r.all u;obtain⟨cs,r,_,d⟩:=A.all f;exact d.nok⟩
def Bh(a:As)(v:Value)(V:View):Prop:=∃a1 a2 a3 c1 c2 c3,v=asV a a1 a2 a3 c1 c2 c3/\DR V a1 a2 a3 a
theorem Mem.freezeRwC{W0:Cx}{U:View}{W:World}{r:Rw}{j:List Value}{z m:Nat}{σ1:aH}{e:TypeId}(A:Mem W0 U (σ1++r.B e j) W)(f:r.ok z m j):∃a c V,View.le U V/\BH V a j/\r.V m=.slice a m c/\m<=c/\Mem W0 V σ1 W:=by
 obtain⟨a,c,V,B,u,k,g⟩:=A.freezeRw f;obtain⟨C,D,d,h⟩:=Rw.formC f;refine⟨a,c,V,B,u,k,?_,g⟩;rw[k]at d;simp only[Value.slice.injEq,bB]at d;rw[d.2];exact h
theorem DV{α : Type}{R : View -> α -> List Value -> Prop}{z : Nat}[RecOk R z](F : 0 < z){w : World}{U V : View}{W' : World}{σ1 : aH}{e : TypeId}{r : Rw}{A : List Value}{m : Nat}{L : List (α × List Value)}{Φ : Value -> View -> Prop}(C : Mem ⟨w, U⟩ V (σ1 ++ r.B e A) W')(u : RwR R z V r A m L)(k : View.le U V)(f : Value -> Value)(g : m <= R47)
  (h:∀a c V',View.le V V'->fJ R z V' a (L.map Prod.fst)->m<=c->m=(L.map Prod.fst).length->Φ (f (.slice a m c)) V'):fV w U Φ (.returned (f (r.V m))) W':=by
 obtain⟨a,c,V',d,B,E,D,j⟩:=C.freezeRwC u.ok;rw[E];exact aJ j (View.le_trans k d) (h a c V' d (u.done F B d g) D (by rw[O1];exact u.m))
theorem rJ{α β:Type}{f:α->Option β}:∀{l:List α} {i:Nat} {y:α} {ys:List β} {z:β},EA f (l.take i)=some ys->l[i]? =some y->f y=some z->EA f (l.take (i+1))=some (ys++[z])
 | [],i,y,ys,z,_,h,_=>by simp at h
 |x::l,0,y,ys,z,a,h,d=>by
  simp only[P5,L0]at h;subst h;simp only[S6,EA,L0]at a;subst a;simp[EA,d]
 |x::l,i+1,y,ys,z,a,h,d=>by
  simp only[Q7]at h;rw[S9,EA]at a ⊢;cases j:f x with
  |none=>rw[j]at a;cases a
  |some u=>
   rw[j]at a;simp only at a ⊢;cases g:EA f (l.take i)with
   |none=>rw[g]at a;cases a
   |some r=>
    rw[g]at a;simp only[L0]at a;subst a;rw[rJ g h d];rfl
theorem pD{α β:Type}{f:α->Option β}:∀{l:List α} {y:α},y∈l->f y=none->EA f l=none
 |x::l,y,h,a=>by
  rw[EA];rcases O6.1 h with rfl|h
  ·rw[a]
  ·cases f x with
   |none=>rfl
   |some u=>
    simp only;rw[pD h a]
theorem VU{α β:Type}{f:α->Option β}:∀{l:List α} {ys:List β},EA f l=some ys->ys.length=l.length
 | [],ys,h=>by
  simp only[EA,L0]at h;subst h;rfl
 |x::l,ys,h=>by
  rw[EA]at h;cases d:f x with
  |none=>rw[d]at h;cases h
  |some u=>
   rw[d]at h;simp only at h;cases a:EA f l with
   |none=>rw[a]at h;cases h
   |some r=>
    rw[a]at h;simp only[L0]at h;subst h;rw[M9,M9,VU a]
theorem PA{y u v:Itm.Tr}(a:y.l.length=2)(d:y.l[0]? =some u)(f:y.l[1]? =some v):PB y=match QW u with
  |none=>none
  |some n=>some ⟨n,v⟩:=by
 have g:y.l=[u,v]:=by
  match hq:y.l with
  | []=>rw[hq]at a;cases a
  | [_]=>rw[hq]at a;cases a
  | [p,q]=>
   rw[hq]at d f;simp only[P5,Q7,L0]at d f;rw[d,f]
  |_::_::_::_=>rw[hq]at a;simp at a
 unfold PB;rw[g]
 try rfl
theorem Wq{y:Itm.Tr}(a:¬y.l.length=2):PB y=none:=by
 unfold PB;split
 ·next u v h=>rw[h]at a;exact absurd rfl a
 ·rfl
theorem mM{u:Itm.Tr}(h:(u.k==0)=true):QW u=some ((min u.n 65536:Nat):Int):=by unfold QW;rw[N1 h]
theorem FU{u:Itm.Tr}(h:(u.k==0)=false):QW u=none:=by unfold QW;rw[M5 (by rw[h];exact M3)]
def QT{α:Type}(R:View->α->List Value->Prop)(z:Nat)(eA:Addr)(x:Option (List α))(v:Value)(V:View):Prop:=match x with
 |some l=>∃a c,v=.tuple #[.slice a l.length c,.nilIface]/\fJ R z V a l/\l.length<=c
 |none=>∃e:Er,v=.tuple #[.slice none 0 0,e.V eA]
theorem QT.some{α:Type}{R:View->α->List Value->Prop}{z:Nat}{d:Addr}{x:Option (List α)}{v:Value}{V:View}(h:QT R z d x v V)(f:x.isSome=true):∃l a c,x=some l/\v=.tuple #[.slice a l.length c,.nilIface]/\fJ R z V a l/\l.length<=c:=by
 obtain⟨l,rfl⟩:=P4.1 f;obtain⟨a,c,h⟩:=h;exact⟨l,a,c,rfl,h⟩
theorem QT.none{α:Type}{R:View->α->List Value->Prop}{z:Nat}{a:Addr}{x:Option (List α)}{v:Value}{V:View}(h:QT R z a x v V)(d:x.isSome=false):x=none/\∃e:Er,v=.tuple #[.slice none 0 0,e.V a]:=by
 cases x with
 |none=>exact⟨rfl,h⟩
 |some l=>cases d
theorem KT(x:Int)(w:World):CP 204 #[.int .i64 x] w (Ret (.bool (eX x)) w):=by
 refine dF 9 Tryz.func204 ?_;refine zQ 1 (zn (zQ 3 (cN 5 (decide (x≥0)) (λa=>?_) (λa=>?_))))
 ·refine zq 4 (zn (aA (aO [2] [(.bool (decide (x<=65535)))] (λf d=>?_))));exact⟨by simp only[dD,eX,a,bs,bQ,reduceIte],d.below⟩
 ·refine zq 4 (zn (aA (aO [2] [qF] (λf d=>?_))));exact⟨by simp only[dD,eX,a,bs,bQ,reduceIte],d.below⟩
def lX(v:Int):Nat->List Int->Int
 |_,[]=> -1
 |i,x::r=>if v==x then(i:Int)else lX v (i+1) r
theorem GI{l:List Int}{v:Int}{i:Nat}{y:Int}(h:l[i]? =some y):lX v i (l.drop i)=if v==y then(i:Int)else lX v (i+1) (l.drop (i+1)):=by
 rw[dS h,lX]
theorem WA(v:Int):∀(i:Nat) (l:List Int),decide (lX v i l≥0)=l.contains v
 |_,[]=>rfl
 |i,x::r=>by
  rw[lX,List.contains_cons];cases v==x with
  |true=>simp
  |false=>simpa using WA v (i+1) r
theorem PN(l:List Int)(a:Option Addr)(c:Nat)(v:Int)(w:World){U:View}(G:See U w)(B:gV U a l):CP 103 #[.slice a l.length c,.int .i64 v] w (Ret (.int .i64 (lX v 0 l)) w):=by
 have g:=B.len;unfold R47 at g;refine dC 19 Tryz.func103 G ?_;refine zQ 1 (zn (zs (zQ 3 (zn (aB (eF (α:=Nat) (λx=>[0,1,4,7,8].zip [(.slice a l.length c),(I6 v),(I6 0),(L6 l.length),(L6 x)]) (λx=>U) (λx=>[]) (λx=>x<=l.length/\lX v x (l.drop x)=lX v 0 l) (λx=>l.length-x) 0 ?_ ?_))))))
 ·exact⟨M8 _,rfl⟩
 intro x I;obtain⟨J,d⟩:=I;refine zQ 1 (zn (zs (aZ ((x:Int)<(l.length:Int)) (λE k=>?_) (λE k=>?_))))
 ·refine zk (zs (aB (zQ 2 (zn (zQ 3 ?_)))));obtain⟨C,f⟩:∃y,(l)[x]? =some y:=⟨(l)[x]'oW,K8 _⟩;obtain⟨h,j,rfl,A⟩:=B.one f;refine cB (Pt h (j+x)) (eJ _ 3 _ _ rfl h j l.length c x .i64 kR kR (by first|assumption|omega) kR kR) ?_;refine zV h (j+x) (I6 C) A 3 (.tmp 14) _ Tryz.underlying3 rfl ?_;refine zq 1 (zn (fC v C (λr _=>?_) (λr F=>?_)))
  ·refine zQ 2 (zn (aA (aO [4] [(L6 x)] (λD u=>?_))));refine⟨?_,u.below⟩;rw[<-d,GI f,N1 r];rfl
  ·refine zk (zr (zq 1 (dH 18 ((x:Int)+1) (zq 1 (zn ?_)))));refine nx (x+1) ?_ ?_
   ·exact⟨by omega,by rw[<-d,GI f,r];rfl⟩
   ·show l.length-(x+1)<l.length-x;omega
 ·refine aI (zQ 1 (zn (aA (aO [4] [(I6 (-1))] (λD u=>?_)))));refine⟨?_,u.below⟩;rw[<-d,cZ oW];rfl
theorem rM(l:List Int)(a:Option Addr)(c:Nat)(v:Int)(w:World){U:View}(f:See U w)(g:gV U a l):CP 123 #[.slice a l.length c,.int .i64 v] w (Ret (.bool (l.contains v)) w):=by
 refine dC 9 Tryz.func123 f ?_;refine zQ 1 (zn (zQ 2 (cY 103 #[(.slice a l.length c),(I6 v)] (I6 (lX v 0 l)) (λW d=>PN l _ _ v W d.view g) ?_)));refine zq 2 (zn (aA (aO [4] [(.bool (decide ((lX v 0 l)≥0)))] (λh d=>?_))));exact⟨by rw[<-WA v 0 l];rfl,d.below⟩
theorem qR{l:List Int}{i:Nat}{y:Int}(h:l[i]? =some y):oH (l.take i) (l.drop i)=if !eX y||(l.take i).contains y then false else oH (l.take (i+1)) (l.drop (i+1)):=by
 rw[dS h,oH,Q9,h];rfl
theorem IQ(l:List Int)(a:Option Addr)(c:Nat)(w:World){U:View}(I:See U w)(E:gV U a l)(L:l.length<=c):CP 203 #[.slice a l.length c] w (Ret (.bool (iU l)) w):=by
 have u:=E.len;unfold R47 at u;refine dC 23 Tryz.func203 I ?_;refine zQ 1 (zn (zs (zQ 3 (zn (aB (eF (α:=Nat) (λx=>[0,2,5,6,7].zip [(.slice a l.length c),qF,(.slice a l.length c),(L6 l.length),(L6 x)]) (λx=>U) (λx=>[]) (λx=>x<=l.length/\oH (l.take x) (l.drop x)=iU l) (λx=>l.length-x) 0 ?_ ?_))))))
 ·exact⟨M8 _,rfl⟩
 intro x J;obtain⟨K,d⟩:=J;refine zQ 1 (zn (zs (aZ ((x:Int)<(l.length:Int)) (λG B=>?_) (λG B=>?_))))
 ·refine zk (zs (aB (zQ 1 ?_)));obtain⟨k,f⟩:∃y,(l)[x]? =some y:=⟨(l)[x]'oW,K8 _⟩;obtain⟨r,j,rfl,D⟩:=E.one f;refine cB (Pt r (j+x)) (eJ _ 3 _ _ rfl r j l.length c x .i64 kR kR (by first|assumption|omega) kR kR) ?_;refine zV r (j+x) (I6 k) D 3 (.tmp 10) _ Tryz.underlying3 rfl ?_;refine zq 2 (zn (zQ 1 (dN (λW g=>KT k W) (zq 2 (cN 15 (!(eX k)) (λA=>?_) (λA=>?_))))))
  ·refine zq 6 (zn (dM (zQ 1 (zn (aA (aO [2] [qF] (λF g=>?_)))))));refine⟨?_,g.below⟩;rw[<-d,qR f];simp only[A,bs,bQ,reduceIte];rfl
  ·refine zq 2 (cB (Sl r j x c) (iL 75 3 (.tmp 16) none (some (.tmp 17)) none rfl r j l.length c 0 x c 1 x c j kR eR eR eR (by decide) oW oW oW oW oW (by first|rfl|(split<;>omega)) Tryz.underlying75 kR) ?_);refine zq 1 (cY 123 #[(Sl r j x c),(I6 k)] (.bool ((l.take x).contains k)) (λW g=>(by have h:=rM (l.take x) _ c k W g.view (E.take x);rwa[O3,X9 oW]at h)) ?_);refine zq 1 (zn (gK ((l.take x).contains k) (λC=>?_) (λC=>?_)))
   ·refine zQ 1 (zn (aA (aO [2] [qF] (λF g=>?_))));refine⟨?_,g.below⟩;rw[<-d,qR f];simp only[A,C,bs,bQ,reduceIte];rfl
   ·refine zk (zr (zq 1 (dH 22 ((x:Int)+1) (zq 1 (zn ?_)))));refine nx (x+1) ?_ ?_
    ·exact⟨by omega,by rw[<-d,qR f];simp only[A,C,bs,bQ,reduceIte]⟩
    ·show l.length-(x+1)<l.length-x;omega
 ·refine aI (zQ 1 (zn (aA (aO [2] [qT] (λF g=>?_)))));refine⟨?_,g.below⟩;rw[<-d,cZ oW];rfl
theorem LS{l:List Pa}{y:Pa}(a:y∈l)(h:paB y=false):fZ l=false:=by
 unfold fZ;rw[show l.all paB=false from List.all_eq_false.2 ⟨y,a,by rw[h];decide⟩];rfl
theorem OZ(l:List Pa)(a:Option Addr)(c:Nat)(w:World){U:View}(hU:See U w)(hl:fJ PaR 6 U a l)(b8:l.length<=1000000):CP 205 #[.slice a l.length c] w (Ret (.bool (fZ l)) w):=by
 refine dC 36 Tryz.func205 hU ?_;refine zQ 1 (zn (zQ 1 (zn (zs (zQ 3 (zn (aB (eF (α:=Gp Int) (λx=>[2,3,6,7,8].zip [qF,(x.r.V x.i),(.slice a l.length c),(L6 l.length),(L6 x.i)]) (λx=>x.V) (λx=>([]++x.r.B 3 x.xs)) (λx=>x.i<=l.length/\View.le U x.V/\RwR InR 1 x.V x.r x.xs x.i x.L/\x.L.map Prod.fst=(l.take x.i).map Pa.id/\(l.take x.i).all paB=true) (λx=>l.length-x.i) ⟨0,Rw.nil,[],[],U⟩ ?_ ?_ (hm:=λ_ h=>h.eqv (U3 kR (M1 ([]:aH)).symm))))))))))
 ·exact⟨M8 _,View.le_refl _,RwR.nil,rfl,rfl⟩
 intro x hx;obtain⟨c7,E,u,r⟩:=hx;refine zQ 1 (zn (zs (aZ ((x.i:Int)<(l.length:Int)) (λh0 X=>?_) (λh0 X=>?_))))
 ·refine zk (zs (aB (zs (zr ?_))));obtain⟨f,j⟩:∃y,(l)[x.i]? =some y:=⟨(l)[x.i]'oW,K8 _⟩;obtain⟨N,V,b6,rfl,a1,Y⟩:=(hl.le E).at_ x.i f j;obtain⟨b7,rfl,D⟩:=Y;obtain⟨M,O,rfl,b5,c2,c4,c1⟩:=D.form;let L:List Value:=[(I6 f.id),(I6 f.v.k),(N6 f.v.n),(St f.v.s),(.slice M f.v.l.length O),(.bool f.v.o)];refine cB (Pt N (V+x.i*6)) (rIx 180 rfl N V l.length c x.i 6) ?_;refine zU N (V+x.i*6) L a1 180 (.tmp 10) _ Tryz.underlying180 rfl ?_;refine dB 0 (λB=>?_);refine aX 0 B (zn (zs (zB [0,0,1,0,0] [(B,1)] (jB 16 f.v.k 0 (λh1 k=>?_) (λh1 k=>?_)))))
  ·refine cF [0,0,1,0,0,0] [(B,1)] (jB 22 f.v.k 2 (λh2 C=>?_) (λh2 C=>?_))
   ·refine zq 5 (zn (dM (zQ 1 (zn (aA (aO [2] [qF] (λK g=>?_)))))));refine⟨?_,g.below⟩;have A:paB f=false:=by simp[paB,k,C]
    rw[LS (K9 j) A];rfl
   ·refine cF [0,1] [(B,5)] (cY 210 #[(tV f.v M O)] (.bool (Itm.aU 8 f.v)) (λW g=>mS f.v _ W g.view D) ?_);refine zq 2 (zn (gK (!(Itm.aU 8 f.v)) (λF=>?_) (λF=>?_)))
    ·refine zQ 1 (zn (aA (aO [2] [qF] (λK g=>?_))));refine⟨?_,g.below⟩;have A:paB f=false:=by simp only[P1,P7]at F;simp[paB,k,C,F]
     rw[LS (K9 j) A];rfl
    ·refine zk (zr (cF [0,0,1] [(B,1)] (dB 1 (λb2=>?_))));refine iW 2 3 75 8 1 1 u.ok (λW g=>cI g 1 b2 [(I6 f.id)] 3 kR) rfl (M7.1 kR) (by decide) (λr3 a8=>?_);refine zq 1 (zn (zr (zq 1 (dH 33 ((x.i:Int)+1) (zq 1 (zn ?_))))));refine nx ⟨x.i+1,r3,(x.xs++[(I6 f.id)]),x.L++[(f.id,[(I6 f.id)])],x.V⟩ ?_ ?_ (d:=λ_ h=>Mem.sub (N4 (M4 _ _) (N7 _)) (h.eqv (show _=((([]:aH)++([(bK B L 180),(bK b2 [(I6 f.id)] 3)]:aH))++(r3.B 3 (x.xs++[(I6 f.id)])))from by kernel_rfl)))
     ·exact⟨by show x.i+1<=_;omega,E,RwR.snoc u rfl a8,by rw[P6,r.1,dL Pa.id j];rfl,by rw[tT paB j,r.2];simp only[P1,P7]at F;simp[paB,k,C,F]⟩
     ·show l.length-(x.i+1)<l.length-x.i;omega
  ·refine cF [0,0,0,0,0,0,0,1] [(B,5)] (cY 210 #[(tV f.v M O)] (.bool (Itm.aU 8 f.v)) (λW g=>mS f.v _ W g.view D) ?_);refine zq 2 (zn (gK (!(Itm.aU 8 f.v)) (λG=>?_) (λG=>?_)))
   ·refine zQ 1 (zn (aA (aO [2] [qF] (λK g=>?_))));refine⟨?_,g.below⟩;have A:paB f=false:=by simp only[P1,P7]at G;simp[paB,k,G]
    rw[LS (K9 j) A];rfl
   ·refine zk (zr (cF [0,0,1] [(B,1)] (dB 1 (λb4=>?_))));refine iW 2 3 75 8 1 1 u.ok (λW g=>cI g 1 b4 [(I6 f.id)] 3 kR) rfl (M7.1 kR) (by decide) (λr5 b3=>?_);refine zq 1 (zn (zr (zq 1 (dH 33 ((x.i:Int)+1) (zq 1 (zn ?_))))));refine nx ⟨x.i+1,r5,(x.xs++[(I6 f.id)]),x.L++[(f.id,[(I6 f.id)])],x.V⟩ ?_ ?_ (d:=λ_ h=>Mem.sub (N4 (M4 _ _) (N7 _)) (h.eqv (show _=((([]:aH)++([(bK B L 180),(bK b4 [(I6 f.id)] 3)]:aH))++(r5.B 3 (x.xs++[(I6 f.id)])))from by kernel_rfl)))
    ·exact⟨by show x.i+1<=_;omega,E,RwR.snoc u rfl b3,by rw[P6,r.1,dL Pa.id j];rfl,by rw[tT paB j,r.2];simp only[P1,P7]at G;simp[paB,k,G]⟩
    ·show l.length-(x.i+1)<l.length-x.i;omega
 ·refine aI (zQ 1 ?_);refine Gf 34 x.r x.xs 1 x.i [] 3 kR u.ok kR (λa6 c6 V6 a7 Z b9=>?_);have k7:=u.le a7;have I:=(k7.done (by decide) Z (View.le_refl _) (by unfold R47;omega)).ins;rw[r.1,O2 oW]at I;refine cY 203 #[(.slice a6 x.i c6)] (.bool (iU (l.map Pa.id))) (λW g=>(by have h:=IQ (l.map Pa.id) a6 c6 W g.view I (by rw[O1];omega);rwa[O1,show l.length=x.i by omega]at h)) ?_;refine zq 1 (zn (aA (aO [2] [(.bool (iU (l.map Pa.id)))] (λK g=>?_))));refine⟨?_,g.below⟩;have J:=r.2;rw[O2 oW]at J;unfold fZ;rw[J];rfl
end Go.Proofs.YtkoamlfiijcecaaGreatDoor.Sx
