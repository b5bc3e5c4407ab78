/-
  Several texts in one: Sx4 Dat Sx5 Sx6 Open Open2 Slc Stp Itm SxI.
  Conditions: named at each.
-/
import Derived.Test.YtkoamlfiijcecaaGreatDoorG01
import Derived.Deep.AppendLies
import Derived.Deep.Slices
import Derived.Deep.MidRow
import Derived.SizedLaws
set_option maxHeartbeats 16000000
set_option linter.unusedSimpArgs false
set_option linter.unusedVariables false
set_option linter.unusedSectionVars false
namespace Go.Proofs.YtkoamlfiijcecaaGreatDoor.Sx
open Go.ChangeShapes Go.WideShapes Go.ChangeAt Go.RowKit Go.Deep
section
variable {P:Program} {n:Nat} {W0:Cx} {Q:XQ} {s:cA} {U:View} {σ:aH} {ops:Array Oper} {l:List Oper} {o:Oper}
def Qq(P:Program)(n:Nat)(ops:Array Oper)(σ:aH):List (Option Nat)->List Oper->cA->Option (cA×List (Nat×Option Nat)×List (Nat×Option Nat))
 | [],_,s=>some (s,[],[])
 |k::ks,o::l,s=>match fF n o,dA ops s o with
  |true,some true=>match k with
   |none=>match quiet P s o with
    |some v=>Qq P n ops σ ks l (lQ o v s)
    |none=>none
   |some k=>match σ[k]? with
    |some (b,.cells c _ (0,0))=>match reads P c.toList s o with
     |some (v,rs)=>match Qq P n ops σ ks l (lQ o v s)with
      |some (s',x,y)=>some (s',rs++x,rs.map (λ_=>(b,none))++y)
      |none=>none
     |none=>none
    |_=>none
  |true,some false=>Qq P n ops σ ks l (lQ o undef s)
  |_,_=>none
 |_::_,[],_=>none
theorem EN:∀(ks:List (Option Nat)) (l:List Oper) (s s':cA) (x:List (Nat×Option Nat)),Qq P n ops σ ks l s=some (s',x,x)->SXL P n W0 Q ops (l.drop ks.length) s' U σ->SXL P n W0 Q ops l s U σ
 | [],l,s,s',x,h,hn=>by
  simp only[Qq,L0,N3]at h;rw[h.1];simpa using hn
 |k::ks,[],s,s',x,h,hn=>by cases h
 |k::ks,o::l,s,s',x,h,hn=>by
  simp only[Qq]at h;rw[M9,ai]at hn;split at h
  ·next g j=>
   split at h
   ·split at h
    ·next v I=>
     refine⟨λa W d u=>wpList_step λK r=>?_⟩;rw[N1 (lT d j)];unfold Oper.wp;rw[oY d I];exact r _ _ ((EN ks l _ s' x h hn).go _ _ (eL d g) u)
    ·cases h
   ·split at h
    ·next k b c t F=>
     split at h
     ·next v A G=>
      split at h
      ·next L J M D=>
       simp only[L0,N3]at h;obtain⟨rfl,rfl,E⟩:=h;have f:(A.map λ_=>((b,none):Nat×Option Nat)).length=A.length:=by simp
       obtain⟨B,C⟩:=bn E f;refine Cy _ b A.length c.toList t v (by simpa using F) (by rw[G];exact M0 (λz=>some (v,z)) (B.symm.trans (bo ..))) g j ?_;exact EN ks l _ _ J (by rw[D,C]) hn
      ·cases h
     ·cases h
    ·cases h
  ·next g j=>
   refine⟨λa W d u=>wpList_step λK r=>?_⟩;rw[M5 (by rw[lT d j];decide)];exact r _ _ ((EN ks l _ s' x h hn).go _ _ (eL d g) u)
  ·cases h
def tt:List (Nat×Nat)->List (Nat×Option Nat)
 | []=>[]
 |(b,m)::r=>List.replicate m (b,none)++tt r
def Mg(P:Program)(n:Nat)(ops:Array Oper)(σ:aH)(ks:List (Option Nat))(l:List Oper)(s:cA)(ts:List Nat):Option (List (Option Value)×List (Nat×Option Nat)×List (Nat×Option Nat)):=match Qq P n ops σ ks l s with
 |some (s',x,y)=>some (ts.map λt=>look s' t,x,y)
 |none=>none
theorem Ad(ks:List (Option Nat))(ts:List Nat)(vs:List Value)(T:List (Nat×Nat))(h:Mg P n ops σ ks l s ts=some (vs.map some,tt T,tt T))(j:SXL P n W0 Q ops (l.drop ks.length) (ts.zip vs) U σ):SXL P n W0 Q ops l s U σ:=by
 unfold Mg at h;split at h
 ·next r x y hs=>
  simp only[L0,N3]at h;obtain⟨f,rfl,rfl⟩:=h;exact EN ks l s r _ hs ⟨λa W d g=>j.go a W ⟨d.size,d.defers,λt v k=>d.slots t v (sC ts vs f t v k)⟩ g⟩
 ·cases h
def stK(P:Program)(σ:aH)(k:Nat)(s:cA)(o:Oper):Option (Nat×Nat×Obj):=match o.op with
 | .store ty x y=>match evS s x,evS s y,σ[k]? with
  |some (.pointer (some ⟨pb,off,none⟩)),some v,some (b,.cells c t (0,0))=>match qW P ty v v.cells.size&&Nat.ble (off+v.cells.size) c.size with
   |true=>some (pb,b,.cells (cJ c.toList off v.cells.toList).toArray t (0,0))
   |false=>none
  |_,_,_=>none
 |_=>none
theorem Be(k b:Nat)(x:Obj)(h:stK P σ k s o=some (b,b,x))(f:o.dst=none)(r:dA ops s o=some true)(j:SXL P n W0 Q ops l s U (σ.set k (b,x))):SXL P n W0 Q ops (o::l) s U σ:=by
 unfold stK at h;split at h
 ·next B C y ho=>
  split at h
  ·next E d v D c t u A g=>
   split at h
   ·next a=>
    simp only[L0,N3]at h;obtain⟨rfl,rfl,rfl⟩:=h;rw[L5]at a;refine Kk k _ d v.cells.size c.toList t B v C y ho u A (by simpa using g) a.1 (by simpa using a.2) (by unfold fF;rw[f]) r ?_;unfold lQ;rw[f];exact j
   ·cases h
  ·cases h
 ·cases h
theorem Gj(v:Value)(k:known s o=true)(d:∀W:World,(execOp (ev s) o).run P W=.ok (.value v) W)(g:fF n o=true)(u:dA ops s o=some true)(r:SXL P n W0 Q ops l (lQ o v s) U σ):SXL P n W0 Q ops (o::l) s U σ:=by
 refine oT g u λa W f j K h=>?_
 unfold Oper.wp;rw[gM f k,d];exact h _ _ _ _ _ r (eL f g) j
theorem eM{x:Operand}{v:Value}(h:evS s x=some v):ev s x=v:=by unfold ev;rw[h];rfl
theorem jP(t e : TypeId)(x j : Operand)(ho : o.op = .indexAddr t x j)(b f a d i h : Nat)(k : IntKind)(C : evS s x = some (.slice (some ⟨b, f, none⟩) a d))(u : evS s j = some (.int k (i : Int)))(A : i < a)
  (B:P.underlying t=some (.slice e)) (hs:(P.info? e).map (·.size)=some h) (W:World):(execOp (ev s) o).run P W=.ok (.value (.pointer (some ⟨b,f+i*h,none⟩))) W:=by
 have D:(sizeOf e).run P W=.ok h W:=by
  cases g:P.info? e with
  |none=>rw[g]at hs;cases hs
  |some inf=>
   rw[g]at hs;simp only[U4,L0]at hs;simp[sizeOf,typeInfo,g,hs]
 unfold execOp;simp only[ho,eM C,eM u,Instr.indexAt,asIntOf,Sem.run_bind,Sem.run_pure,Result.andThen_ok,run_underlying B W];have r:(0:Int)<=(i:Int)/\(i:Int)<((a:Nat):Int):=⟨by omega,by omega⟩;rw[N1 r];simp only[Sem.run_bind,D,Result.andThen_ok,Sem.run_pure,W8,Addr.add_mid]
theorem cE(tp j:TypeId)(x y:Operand)(ho:o.op=.binOp .add tp x y j)(a b:List UInt8)(f:evS s x=some (.string (B a)))(g:evS s y=some (.string (B b)))(d:a.length+b.length<=9223372036854775807)(W:World):(execOp (ev s) o).run P W=.ok (.value (.string (B (a++b)))) W:=by
 have h:=run_string_add_sum (P:=P) W (B a) (B b) (by rw[sV,sV];exact d);rw[Mr]at h;unfold execOp;simp only[ho,eM f,eM g,binOp,Sem.run_bind,eqGuard];simp only[show((BinOp.add matches .eql| .neq)=true)=False from by simp,Bool.not_false,if_true,Sem.run_pure,Result.andThen_ok,h]
theorem gZ(tp g:TypeId)(x y:Operand)(ho:o.op=.binOp .eql tp x y g)(a b:List UInt8)(d:evS s x=some (.string (B a)))(f:evS s y=some (.string (B b)))(W:World):(execOp (ev s) o).run P W=.ok (.value (.bool (a==b))) W:=by
 unfold execOp;simp[ho,eM d,eM f,binOp,eqGuard,Op.stringOp,EJ]
theorem mI(tp g:TypeId)(x y:Operand)(ho:o.op=.binOp .neq tp x y g)(a b:List UInt8)(d:evS s x=some (.string (B a)))(f:evS s y=some (.string (B b)))(W:World):(execOp (ev s) o).run P W=.ok (.value (.bool (!(a==b)))) W:=by
 unfold execOp;simp[ho,eM d,eM f,binOp,eqGuard,Op.stringOp,EJ]
end
theorem Ba{P:Program}{s:cA}{σ:aH}{t:Nat}{v:Value}(h:look s t=some v):KW P s σ (.tmp t) v:=h
theorem Ac{P:Program}{s:cA}{σ:aH}{x:Nat}{a:TypeId}{v:Value}(k b m:Nat)(h:OG P σ k s x a=some (v,List.replicate m (b,none),b)):KW P s σ (.cell x a) v:=⟨k,b,m,h⟩
def View.no:View:=λ_=>none
theorem tW{P : Program}{n : Nat}{W0 : Cx}{d : Func}{R : Ending -> World -> Prop}{s : cA}{U : View}{σ : aH}(a : List ResultVar)(vs : List Value)(f : d.results.toList = a)(g : HU P s σ a vs)
  (h:∀W,Mem W0 U σ W->R (.returned (dD vs)) W):Sk P n W0 d R .normal s U σ:=IV a vs f g h
theorem obR{P : Program}{n : Nat}{W0 : Cx}{s : cA}{U : View}{σ : aH}{ops : Array Oper}{ds : List Nat}{vs : List Sp}(i : Nat){o : Oper}(k : ops[i]? = some o)(v : Value)(f : vs[i]? = some (.val v))(r : known (oP ops ds vs i ++ aV s ds) o = true)
  (d:∀W:World,(execOp (ev (oP ops ds vs i++aV s ds)) o).run P W=.ok (.value v) W) (u:dA ops (oP ops ds vs i++aV s ds) o=some true):Ob P n W0 U σ ops ds vs s i:=
 Ob.op i k _ f u λa W j h Q K g=>by
  unfold Oper.wp;rw[gM j r,d];exact g v W rfl h (Below.refl _ _)
theorem u64_in{x:Int}(a:0<=x)(d:x<18446744073709551616):IntKind.u64.wrap x=x:=by
 simp[IntKind.wrap,IntKind.bits,IntKind.signed];omega
def drX{α:Type}(P:Program)(ops:Array Oper)(σ:aH)(dep:List α->Nat->cA)(inj:Value->α):List Nat->List α->Nat->List α->Option (List α×List (Nat×Option Nat)×List (Nat×Option Nat))
 | [],_,_,acc=>some (acc,[],[])
 |0::ks,tv,i,acc=>match ops[i]? with
  |some o=>match dA ops (dep acc i) o with
   |some true=>match quiet P (dep acc i) o with
    |some v=>drX P ops σ dep inj ks tv (i+1) (acc++[inj v])
    |none=>none
   |_=>none
  |none=>none
 |1::ks,t::tv,i,acc=>drX P ops σ dep inj ks tv (i+1) (acc++[t])
 |1::_,[],_,_=>none
 |2::ks,tv,i,acc=>match ops[i]? with
  |some o=>match dA ops (dep acc i) o with
   |some false=>drX P ops σ dep inj ks tv (i+1) (acc++[inj undef])
   |_=>none
  |none=>none
 |(k+3)::ks,tv,i,acc=>match ops[i]?,σ[k]? with
  |some o,some (b,.cells c _ (0,0))=>match dA ops (dep acc i) o with
   |some true=>match reads P c.toList (dep acc i) o with
    |some (v,rs)=>match drX P ops σ dep inj ks tv (i+1) (acc++[inj v])with
     |some (vs,x,y)=>some (vs,rs++x,rs.map (λ_=>(b,none))++y)
     |none=>none
    |none=>none
   |_=>none
  |_,_=>none
def obT{α:Type}(O:Nat->α->Prop):Nat->List Nat->List α->Prop
 |i,1::ks,t::tv=>O i t/\obT O (i+1) ks tv
 |i,_::ks,tv=>obT O (i+1) ks tv
 |_,[],_=>True
def WV{α:Type}(P:Program)(ops:Array Oper)(σ:aH)(dep:List α->Nat->cA)(inj:Value->α)(vs:List α)(i:Nat):Nat->Prop
 |0=>∃o v,ops[i]? =some o/\dA ops (dep vs i) o=some true/\quiet P (dep vs i) o=some v/\vs[i]? =some (inj v)
 |1=>True
 |2=>∃o,ops[i]? =some o/\dA ops (dep vs i) o=some false/\vs[i]? =some (inj undef)
 |k+3=>∃o v b c t m,ops[i]? =some o/\σ[k]? =some (b,.cells c t (0,0))/\dA ops (dep vs i) o=some true/\reads P c.toList (dep vs i) o=some (v,List.replicate m (b,none))/\vs[i]? =some (inj v)
theorem GO{α:Type}{P:Program}{ops:Array Oper}{σ:aH}{d:List α->Nat->cA}{f:Value->α}:∀(ks:List Nat) (tv:List α) (i:Nat) (a:List α) {vs:List α} {x y:List (Nat×Option Nat)},drX P ops σ d f ks tv i a=some (vs,x,y)->∃r,vs=a++r
 | [],tv,i,a,vs,x,y,h=>by
  simp only[drX,L0,N3]at h;exact⟨[],by rw[M1,h.1]⟩
 |0::ks,tv,i,a,vs,x,y,h=>by
  simp only[drX]at h;split at h
  ·split at h
   ·split at h
    ·obtain⟨r,rfl⟩:=GO ks tv _ _ h;exact⟨_,M6 ..⟩
    ·cases h
   ·cases h
  ·cases h
 |1::ks,t::tv,i,a,vs,x,y,h=>by
  simp only[drX]at h;obtain⟨r,rfl⟩:=GO ks tv _ _ h;exact⟨_,M6 ..⟩
 |1::ks,[],i,a,vs,x,y,h=>by cases h
 |2::ks,tv,i,a,vs,x,y,h=>by
  simp only[drX]at h;split at h
  ·split at h
   ·obtain⟨r,rfl⟩:=GO ks tv _ _ h;exact⟨_,M6 ..⟩
   ·cases h
  ·cases h
 |(k+3)::ks,tv,i,a,vs,x,y,h=>by
  simp only[drX]at h;split at h
  ·split at h
   ·split at h
    ·split at h
     ·next g=>
      simp only[L0,N3]at h;obtain⟨rfl,_,_⟩:=h;obtain⟨r,rfl⟩:=GO ks tv _ _ g;exact⟨_,M6 ..⟩
     ·cases h
    ·cases h
   ·cases h
  ·cases h
def tlk{α:Type}:List Nat->List α->Nat->Option α
 |1::_,t::_,0=>some t
 |1::ks,_::tv,j+1=>tlk ks tv j
 |_::ks,tv,j+1=>tlk ks tv j
 |_,_,_=>none
theorem BW{α:Type}{O:Nat->α->Prop}:∀(ks:List Nat) (tv:List α) (i j:Nat) (t:α),obT O i ks tv->tlk ks tv j=some t->O (i+j) t
 | [],tv,i,j,t,ho,h=>by cases j<;>cases h
 |0::ks,tv,i,0,t,ho,h=>by cases h
 |0::ks,tv,i,j+1,t,ho,h=>by have:=BW ks tv (i+1) j t ho h;rwa[X1,Z1 1]at this
 |1::ks,[],i,0,t,ho,h=>by cases h
 |1::ks,[],i,j+1,t,ho,h=>by have:=BW ks [] (i+1) j t ho h;rwa[X1,Z1 1]at this
 |1::ks,x::tv,i,0,t,ho,h=>by cases h;exact ho.1
 |1::ks,x::tv,i,j+1,t,ho,h=>by have:=BW ks tv (i+1) j t ho.2 h;rwa[X1,Z1 1]at this
 |(k+2)::ks,tv,i,0,t,ho,h=>by cases h
 |(k+2)::ks,tv,i,j+1,t,ho,h=>by have:=BW ks tv (i+1) j t ho h;rwa[X1,Z1 1]at this
theorem sB{α:Type}{O a:Nat->α->Prop}(h:∀i t,O i t->a i t):∀(ks:List Nat) (tv:List α) (i:Nat),obT O i ks tv->obT a i ks tv
 | [],tv,i,_=>trivial
 |0::ks,tv,i,ho=>sB h ks tv (i+1) ho
 |1::ks,[],i,ho=>sB h ks [] (i+1) ho
 |1::ks,_::tv,i,ho=>⟨h _ _ ho.1,sB h ks tv (i+1) ho.2⟩
 |(k+2)::ks,tv,i,ho=>sB h ks tv (i+1) ho
theorem Ls{α:Type}{P:Program}{ops:Array Oper}{σ:aH}{d:List α->Nat->cA}{B:Value->α}{m:Nat}{vs:List α}(A:∀(a r:List α),a.length<m->d (a++r) a.length=d a a.length):
  ∀(ks:List Nat) (tv:List α) (a:List α) (x:List (Nat×Option Nat)),a.length+ks.length<=m->drX P ops σ d B ks tv a.length a=some (vs,x,x)->∀j k,ks[j]? =some k->(k=1/\∃t,tlk ks tv j=some t/\vs[a.length+j]? =some t)\/(k≠1/\WV P ops σ d B vs (a.length+j) k):=by
 intro ks
 induction ks with
 |nil=>intro tv a x _ _ j k f;simp at f
 |cons Z ks ih=>
  intro tv a x Y h;rw[M9]at Y;have g:∀{z:α} {r:List α},(a++(z::r))[a.length+0]? =some z:=by intro z r;rw[U8,P8 (O9 _),U9];rfl
  have next:∀{C:List α} {z:α} {I:List (Nat×Option Nat)},drX P ops σ d B ks C (a.length+1) (a++[z])=some (vs,I,I)->(∃r,vs=a++(z::r))/\∀j k,ks[j]? =some k->(k=1/\∃t,tlk ks C j=some t/\vs[a.length+(j+1)]? =some t)\/(k≠1/\WV P ops σ d B vs (a.length+(j+1)) k):=by
   intro C z I J;have K:(a++[z]).length=a.length+1:=by rw[L4];rfl
   obtain⟨r,u⟩:=GO _ _ _ _ J;refine⟨⟨r,by rw[u,M6];rfl⟩,λj k f=>?_⟩;have:=ih C (a++[z]) I (by rw[K];omega) (by rw[K];exact J) j k f;rwa[K,X1,Z1 1]at this
  match Z,tv,h with
  |0,tv,h=>
   simp only[drX]at h;split at h
   ·next o F=>
    split at h
    ·next G=>
     split at h
     ·next v L=>
      obtain⟨⟨r,u⟩,E⟩:=next h
      have D:d vs a.length=d a a.length:=by rw[u];exact A a _ oW
      intro j k f;cases j with
      |zero=>cases f;exact .inr ⟨by decide,o,v,F,by rw[U8,D];exact G,by rw[U8,D];exact L,by rw[u];exact g⟩
      |succ j=>exact E j k f
     ·cases h
    ·cases h
   ·cases h
  |1,[],h=>cases h
  |1,t::tv,h=>
   simp only[drX]at h;obtain⟨⟨r,u⟩,E⟩:=next h
   intro j k f;cases j with
   |zero=>cases f;exact .inl ⟨rfl,t,rfl,by rw[u];exact g⟩
   |succ j=>exact E j k f
  |2,tv,h=>
   simp only[drX]at h;split at h
   ·next o F=>
    split at h
    ·next G=>
     obtain⟨⟨r,u⟩,E⟩:=next h
     have D:d vs a.length=d a a.length:=by rw[u];exact A a _ oW
     intro j k f;cases j with
     |zero=>cases f;exact .inr ⟨by decide,o,F,by rw[U8,D];exact G,by rw[u];exact g⟩
     |succ j=>exact E j k f
    ·cases h
   ·cases h
  |q+3,tv,h=>
   simp only[drX]at h;split at h
   ·next o b c ty F X=>
    split at h
    ·next G=>
     split at h
     ·next v rs L=>
      split at h
      ·next N I y2 J=>
       simp only[L0,N3]at h;obtain⟨rfl,rfl,M⟩:=h;obtain⟨O,V⟩:=bn M (by simp);subst V;obtain⟨⟨r,u⟩,E⟩:=next J
       have D:d N a.length=d a a.length:=by rw[u];exact A a _ oW
       intro j k f;cases j with
       |zero=>cases f;exact .inr ⟨by omega,o,v,b,c,ty,rs.length,F,X,by rw[U8,D];exact G,by rw[U8,D,L];exact M0 (λz=>some (v,z)) (O.symm.trans (bo ..)),by rw[u];exact g⟩
       |succ j=>exact E j k f
      ·cases h
     ·cases h
    ·cases h
   ·cases h
theorem LM{O:Nat->Prop}:∀(m i:Nat),(∀j,j<m->O (i+j))->Go.Proofs.YtkoamlfiijcecaaGreatDoor.Steps O i m
 |0,_,_=>trivial
 |m+1,i,h=>⟨h 0 oW,LM m (i+1) λj a=>by have:=h (j+1) oW;rwa[Z1 j,<-X1]at this⟩
theorem WM{ops:Array Oper}{m i j:Nat}(h:fQ .any ops m=true)(g:i<m)(a:cH .any ops i j=true):j<i:=by
 unfold fQ at h;have h:=M7.1 h i (S4.2 g);unfold cH at a;cases ho:ops[i]? with
 |none=>rw[ho]at a;cases a
 |some o=>
  rw[ho]at h a;simp only[U4,bS,T8,M7,L5,T1,P1,N0,S5]at h a;obtain⟨e,f,d,rfl⟩:=a;rcases h e f with h|h
  ·rw[d]at h;cases h
  ·exact h
theorem Nt{ops:Array Oper}{ds:List Nat}(a r:List Sp)(h:∀j,cH .any ops a.length j=true->j<a.length):oP ops ds (a++r) a.length=oP ops ds a a.length:=by
 unfold oP;congr 1;funext j;cases d:cH .any ops a.length j with
 |false=>rfl
 |true=>rw[Q1 (h j d)]
section
variable {P:Program} {n:Nat} {W0:Cx} {Q:XQ} {s:cA} {U:View} {σ:aH} {ops:Array Oper} {ds:List Nat}
def dsO(l:List Oper)(m:Nat):List Nat:=(l.take m).map λo=>o.dst.getD 0
def drA(P:Program)(l:List Oper)(σ:aH)(ks:List Nat)(tv:List Sp)(s:cA):=drX P l.toArray σ (λacc i=>oP l.toArray (dsO l ks.length) acc i++aV s (dsO l ks.length)) .val ks tv 0 []
def dvO(P:Program)(l:List Oper)(σ:aH)(ks:List Nat)(tv:List Sp)(s:cA):List Sp:=match drA P l σ ks tv s with
 |some (vs,_,_)=>vs
 |none=>[]
def dtO(P:Program)(l:List Oper)(σ:aH)(ks:List Nat)(tv:List Sp)(s:cA):Option (List (Nat×Option Nat)×List (Nat×Option Nat)):=match drA P l σ ks tv s with
 |some (_,x,y)=>some (x,y)
 |none=>none
def dxO(P:Program)(l:List Oper)(σ:aH)(ks:List Nat)(tv:List Sp)(s:cA):cA:=Nz (dsO l ks.length) (dvO P l σ ks tv s)++aV s (dsO l ks.length)
def Hs(P:Program)(n:Nat)(l:List Oper)(m r:Nat):Bool:=P.follows .mixedOrders&&Nat.ble m l.length&&pI l.toArray (dsO l m)&&nodupB (dsO l m)&&((dsO l m).all λd=>Nat.blt d n)&&fQ .any l.toArray m&&lP .any l.toArray m r&&jV l.toArray m (l.length-m)
theorem TO{l:List Oper}{m:Nat}(h:m<=l.length):(dsO l m).length=m:=by unfold dsO;rw[O1,O3];omega
def Ow(P:Program)(n:Nat)(W0:Cx)(U:View)(σ:aH)(ops:Array Oper)(ds:List Nat)(vs:List Sp)(s:cA)(i:Nat)(t:Sp):Prop:=vs[i]? =some t->Ob P n W0 U σ ops ds vs s i
theorem gI{L : Nat}{l : List Oper}(r : Nat)(ks : List Nat)(T : List (Nat × Nat))(tv : List Sp)(u : obT (Ow P n W0 U σ l.toArray (dsO l ks.length) (dvO P l σ ks tv s) s) 0 ks tv)(h : SXL P n W0 Q l.toArray (l.drop ks.length) (dxO P l σ ks tv s) U σ)
  (A:dtO P l σ ks tv s=some (tt T,tt T):=by kernel_rfl) (a:Hs P n l ks.length r=true:=by kernel_rfl):SXC P n W0 Q (.region L l.toArray true) s U σ:=by
 unfold Hs at a;simp only[L5]at a;obtain⟨⟨⟨⟨⟨⟨⟨M,G⟩,N⟩,O⟩,V⟩,I⟩,X⟩,Y⟩:=a;have G:=U1 G;refine Rh ks.length (l.length-ks.length) r (dsO l ks.length) (dvO P l σ ks tv s) M oW (TO G) N O V I X Y ?_ h;unfold dtO at A;unfold dvO at u ⊢;cases F:drA P l σ ks tv s with
 |none=>rw[F]at A;cases A
 |some q=>
  obtain⟨vs,x,y⟩:=q;rw[F]at A u;simp only[L0,N3]at A;obtain⟨rfl,rfl⟩:=A;refine LM _ _ λj E=>?_
  rw[O0];have:=Ls (m:=ks.length) (λd r K=>?_) ks tv [] _ (by simp) F j _ (K8 E)
  ·rw[show([]:List Sp).length+j=j from O0 j]at this;rcases this with⟨_,t,f,g⟩|⟨a,D⟩
   ·have:=BW ks tv 0 j t u f;rw[O0]at this;exact this g
   ·revert a D;generalize ks[j]=k;intro a D
    match k,a,D with
    |0,_,⟨o,v,f,g,B,C⟩=>exact obQ j f v C g B
    |1,a,_=>exact absurd rfl a
    |2,_,⟨o,f,g,B⟩=>exact obS j f B g
    |k+3,_,⟨o,v,b,c,t,m,f,g,B,C,J⟩=>exact obL j k b m c.toList t f v J (by simpa using g) B C
  ·show oP _ _ (d++r) _++_=oP _ _ d _++_;rw[Nt d r λj E=>WM I K E]
def iP(ops:Array Oper)(i:Nat):Oper:=(ops[i]?).getD default
variable {vs:List Sp} {i:Nat} {v:Value}
theorem vC(f:FuncId)(a:Array Value)(g:∀W,Mem W0 U σ W->Calls P f a W λe W'=>e=.returned v/\Below W.heap.size W W')(j:ops[i]? =some (iP ops i):=by rfl)(h:enters P (oP ops ds vs i++aV s ds) (iP ops i)=some (f,a):=by kernel_rfl)(k:dA ops (oP ops ds vs i++aV s ds) (iP ops i)=some true:=by kernel_rfl):Ow P n W0 U σ ops ds vs s i (.val v):=
 λd=>obC i f a j v d h g k
theorem vR(a:∀W:World,(execOp (ev (oP ops ds vs i++aV s ds)) (iP ops i)).run P W=.ok (.value v) W)(f:ops[i]? =some (iP ops i):=by rfl)(g:known (oP ops ds vs i++aV s ds) (iP ops i)=true:=by kernel_rfl)(h:dA ops (oP ops ds vs i++aV s ds) (iP ops i)=some true:=by kernel_rfl):Ow P n W0 U σ ops ds vs s i (.val v):=
 λd=>obR i f v d g a h
theorem vE(d:Value)(f:d=v)(g:ops[i]? =some (iP ops i):=by rfl)(j:dA ops (oP ops ds vs i++aV s ds) (iP ops i)=some true:=by kernel_rfl)(h:quiet P (oP ops ds vs i++aV s ds) (iP ops i)=some d:=by kernel_rfl):Ow P n W0 U σ ops ds vs s i (.val v):=
 λa=>obQ i g v a j (f▸h)
theorem vN{d:Nat->Value}{x:Obj}(f:ops[i]? =some (iP ops i):=by rfl)(hm:makes P (oP ops ds vs i++aV s ds) (iP ops i)=some (x,λr=>some (d r)):=by kernel_rfl)(g:dA ops (oP ops ds vs i++aV s ds) (iP ops i)=some true:=by kernel_rfl):Ow P n W0 U σ ops ds vs s i (.blk d x):=
 λa=>obN i f d x a hm g
theorem vU(b f : Nat)(cs : List Value)(j : U.range b f cs)(g : TypeId)(x : Operand)(d : TypeDesc)(r : P.underlying g = some d)(a : d.isRow = true)(k : ops[i]? = some (iP ops i) := by rfl)(ho : (iP ops i).op = .load g x := by rfl)(A : evS (oP ops ds vs i ++ aV s ds) x = some (.pointer (some ⟨b, f, none⟩)) := by kernel_rfl)
  (B:(P.info? g).map (·.size)=some cs.length:=by kernel_rfl) (u:dA ops (oP ops ds vs i++aV s ds) (iP ops i)=some true:=by kernel_rfl):Ow P n W0 U σ ops ds vs s i (.val (.agg cs.toArray)):=
 λh=>obU i b f cs j g x k ho h A d r a B u
theorem vB(j m d : Nat)(r : Nat -> Value)(cs : List Value)(t : TypeId)(A : ops[i]? = some (iP ops i) := by rfl)(h : vs[j]? = some (.blk r (.cells cs.toArray t (0, 0))) := by kernel_rfl)(a : ds[j]? = some d := by rfl)(k : cH .any ops i j = true := by kernel_rfl)(u : (iP ops i).guard = none := by rfl)
  (B:∀g,reads P cs ((d,r g)::(oP ops ds vs i++aV s ds)) (iP ops i)=some (v,List.replicate m (g,none)):=by intro g;kernel_rfl):Ow P n W0 U σ ops ds vs s i (.val v):=
 λf=>obB i j m A v f r cs t h d a k u B
end
structure Ei where
 s:Int
 l:List UInt8
 n:Nat
 v:Nat
structure Bk where
 t:Int
 n:Int
 f:Nat
 c:Int
 d:List UInt8
structure Pr where
 f:Nat
 c:Int
 dst:Ei
 src:Ei
 rpt:Ei
 time:Nat
 seq:Nat
 life:Nat
 off:Nat
 tot:Nat
def Ei.cs(e:Ei):List Value:=[.int .i64 e.s,.string (B e.l),.int .u64 e.n,.int .u64 e.v]
def Bk.cs(b:Bk):List Value:=[.int .i64 b.t,.int .i64 b.n,.int .u64 b.f,.int .i64 b.c,.string (B b.d)]
def Pr.cs(p:Pr):List Value:=[.int .u64 p.f,.int .i64 p.c,.int .i64 p.dst.s,.string (B p.dst.l),.int .u64 p.dst.n,.int .u64 p.dst.v,.int .i64 p.src.s,.string (B p.src.l),.int .u64 p.src.n,.int .u64 p.src.v,
 .int .i64 p.rpt.s,.string (B p.rpt.l),.int .u64 p.rpt.n,.int .u64 p.rpt.v,.int .u64 p.time,.int .u64 p.seq,.int .u64 p.life,.int .u64 p.off,.int .u64 p.tot]
def dO(p:Pr)(a:Option Addr)(n c:Nat):List Value:=[.int .u64 p.f,.int .i64 p.c,.int .i64 p.dst.s,.string (B p.dst.l),.int .u64 p.dst.n,.int .u64 p.dst.v,.int .i64 p.src.s,.string (B p.src.l),.int .u64 p.src.n,.int .u64 p.src.v,
 .int .i64 p.rpt.s,.string (B p.rpt.l),.int .u64 p.rpt.n,.int .u64 p.rpt.v,.int .u64 p.time,.int .u64 p.seq,.int .u64 p.life,.int .u64 p.off,.int .u64 p.tot,.slice a n c]
def Ei.V(e:Ei):Value:=.agg e.cs.toArray
def Bk.V(b:Bk):Value:=.agg b.cs.toArray
def Pr.V(p:Pr):Value:=.agg p.cs.toArray
def bnV(p:Pr)(a:Option Addr)(n c:Nat):Value:=.agg (dO p a n c).toArray
def W64:Nat:=18446744073709551616
def R47:Nat:=140737488355328
structure Ei.ok (e : Ei) : Prop where
 l:e.l.length<=R47
 n:e.n<W64
 v:e.v<W64
structure Bk.ok (b : Bk) : Prop where
 f:b.f<W64
 d:b.d.length<=R47
structure Pr.ok (p : Pr) : Prop where
 f:p.f<W64
 dst:p.dst.ok
 src:p.src.ok
 rpt:p.rpt.ok
 time:p.time<W64
 seq:p.seq<W64
 life:p.life<W64
 off:p.off<W64
 tot:p.tot<W64
structure cG (U : View) (a : Option Addr) (l : List Bk) : Prop where
 at_:∀i x,l[i]? =some x->∃b f,a=some ⟨b,f,none⟩/\U.range b (f+i*5) x.cs
 ok:∀x∈l,x.ok
 len:l.length<=R47
def View.le(U V:View):Prop:=∀a v,U a=some v->V a=some v
theorem View.range_le{U V:View}(h:View.le U V){b o:Nat}{cs:List Value}(a:U.range b o cs):V.range b o cs:=λj v d=>h _ _ (a j v d)
theorem cG.le{U V:View}(h:View.le U V){a:Option Addr}{l:List Bk}(d:cG U a l):cG V a l:=
 ⟨λi x j=>by obtain⟨b,f,e,g⟩:=d.at_ i x j;exact⟨b,f,e,View.range_le h g⟩,d.ok,d.len⟩
theorem View.no_le(U:View):View.le View.no U:=λ_ _ h=>by cases h
def Ret(v:Value)(w:World):Ending->World->Prop:=λe w'=>e=.returned v/\Below w.heap.size w w'
theorem View.le_refl(U:View):View.le U U:=λ_ _ h=>h
theorem View.le_trans{U V T:View}(h:View.le U V)(k:View.le V T):View.le U T:=λa v d=>k a v (h a v d)
def View.or(U V:View):View:=λa=>(U a).or (V a)
theorem View.le_or(U V:View):View.le U (U.or V):=λa v h=>by unfold View.or;rw[h];rfl
theorem View.or_r{U V:View}{a:Addr}{v:Value}(h:V a=some v)(d:U a=none):U.or V a=some v:=by unfold View.or;rw[d,h];rfl
def fV(w:World)(U:View)(Φ:Value->View->Prop):Ending->World->Prop:=λe w'=>∃v V,e=.returned v/\Below w.heap.size w w'/\View.le U V/\(∀a u,V a=some u->w'.cell? a=some u)/\(∀a u,V a=some u->a.block<w.heap.size->U a=some u)/\Φ v V
theorem aJ{w W':World}{U V:View}{σ:aH}{Φ:Value->View->Prop}{v:Value}(a:Mem ⟨w,U⟩ V σ W')(d:View.le U V)(h:Φ v V):fV w U Φ (.returned v) W':=⟨v,V,rfl,a.below,d,a.view,a.old,h⟩
section
variable {P:Program} {n:Nat} {W0:Cx} {Q:XQ} {s:cA} {U:View} {σ:aH} {ops:Array Oper} {l:List Oper} {o:Oper}
theorem Mem.retN{W W':World}{V:View}(f:Mem W0 U σ W)(A:Below W.heap.size W W')(F:View.le U V)(C:∀a u,V a=some u->W'.cell? a=some u)(ho:∀a u,V a=some u->a.block<W.heap.size->U a=some u):Mem W0 V σ W':=by
 have h:=f.call A;refine h.grow (λa v g d=>f.old a v (ho a v g (X5 d f.below.size)) d) C λk b x B a r=>?_
 obtain⟨D,G,E⟩:=f.own k b x B;cases g:V a with
 |none=>rfl
 |some v=>
  have j:=ho a v g (by rw[r];exact gQ D);rw[E a r]at j;cases j
theorem UW(f : FuncId)(a : Array Value)(Φ : Value -> View -> Prop)(d : enters P s o = some (f, a))(u : ∀ W, Mem W0 U σ W -> Calls P f a W (fV W U Φ))(A : fF n o = true)(C : dA ops s o = some true)
  (h:∀v V,View.le U V->Φ v V->SXL P n W0 Q ops l (lQ o v s) V σ):SXL P n W0 Q ops (o::l) s U σ:=
 tX f a d A C λW j=>(u W j).mono λ_ D ⟨v,V,d,r,k,B,ho,g⟩=>⟨v,_,V,σ,d,j.retN r k B ho,rfl,h v V k g⟩
end
def jE(k:IntKind)(x y:Int):Int:=k.wrap (BitVec.ofInt k.bits x &&& BitVec.ofInt k.bits y).toNat
def Bs(k:IntKind)(x:Int):Int:=k.wrap (BitVec.ofInt k.bits (if k.signed then -1 else k.max) ^^^ BitVec.ofInt k.bits x).toNat
def Zm(k:IntKind)(x y:Int):Int:=k.wrap (BitVec.ofInt k.bits x ^^^ BitVec.ofInt k.bits y).toNat
def orI(k:IntKind)(x y:Int):Int:=k.wrap (BitVec.ofInt k.bits x ||| BitVec.ofInt k.bits y).toNat
theorem View.sub{U:View}{b f:Nat}{cs ds:List Value}(h:U.range b f cs)(o n:Nat)(d:(cs.drop o).take n=ds):U.range b (f+o) ds:=λj v a=>by
 rw[<-d,X4]at a;split at a
 ·rw[Z4]at a;rw[X1];exact h _ _ a
 ·cases a
set_option maxHeartbeats 1600000 in
set_option maxRecDepth 100000 in
theorem LN{s : cA}{o : Oper}(C : TypeId)(x y : Operand)(ho : o.op = .binOp .eql 24 x y C)(a f g h k r : Int)(d j : List UInt8)
  (u:evS s x=some (.agg #[.int .i64 a,.string (B d),.int .u64 f,.int .u64 g])) (A:evS s y=some (.agg #[.int .i64 h,.string (B j),.int .u64 k,.int .u64 r])) (W:World):
  (execOp (ev s) o).run Tryz.prog W=.ok (.value (.bool (decide (a=h/\d=j/\f=k/\g=r)))) W:=by
 unfold execOp;simp only[ho,eM u,eM A]
 go_simp
 (repeat' split)<;>simp_all [Bx]
inductive Rw where
 |nil
 |row (b cap:Nat) (junk:List Value)
def Rw.V:Rw->Nat->Value
 | .nil,_=>.slice none 0 0
 | .row b cap _,n=>.slice (some ⟨b,0,none⟩) n cap
def Rw.B:Rw->TypeId->List Value->aH
 | .nil,_,_=>[]
 | .row b _ junk,e,xs=>[(b,.cells (xs++junk).toArray e (0,0))]
def Rw.ok:Rw->Nat->Nat->List Value->Prop
 | .nil,_,n,xs=>n=0/\xs=[]
 | .row _ cap junk,z,n,xs=>xs.length=n*z/\(xs++junk).length=cap*z/\n<=cap/\cap<=maxLen
theorem Rw.ok_nil(z:Nat):Rw.nil.ok z 0 []:=⟨rfl,rfl⟩
def Rw.W:Rw->List Value->View
 | .nil,_=>View.no
 | .row b _ _,xs=>λa=>if a.block=b/\a.spot=none then xs[a.off]? else none
section
variable {P:Program} {n:Nat} {W0:Cx} {Q:XQ} {s:cA} {U:View} {σ:aH} {ops:Array Oper} {l:List Oper} {o:Oper}
theorem getElem?_mid{α:Type}(a b c:List α)(i:Nat)(x:α)(h:b[i]? =some x):(a++(b++c))[a.length+i]? =some x:=by
 rw[P8 oW,Z3,Q1 (L8.1 h).1,h]
theorem Mem.swap{W W' : World}{σ1 d B B' : aH}(G : Mem W0 U (σ1 ++ (B ++ d)) W)(L : Below W0.w.heap.size W0.w W')
  (F:∀(k:Nat) (x:Nat×Obj),(σ1++d)[k]? =some x->W'.heap[x.1]? =W.heap[x.1]?) (r:∀a v,U a=some v->W'.cell? a=some v)
  (E:B'=[]\/∃b o,B'=[(b,o)]/\W'.heap[b]? =some o/\W0.w.heap.size<=b/\(∀a,a.block=b->U a=none)/\∀(k:Nat) (x:Nat×Obj),(σ1++d)[k]? =some x->x.1≠b):Mem W0 U (σ1++(B'++d)) W':=by
 have hs:Mem W0 U (σ1++d) W:=G.sub (N4 (N7 _) (S2 _ _));have u:Mem W0 U (σ1++d) W':=⟨L,G.old,r,λk b o f=>by
  obtain⟨Y,Z,q3⟩:=hs.own k b o f;exact⟨by rw[F k (b,o) f];exact Y,Z,q3⟩,hs.apart⟩
 rcases E with rfl|⟨b,o,rfl,I,J,O,D⟩
 ·simpa using u
 ·have g:∀(k:Nat) (x:Nat×Obj),(σ1++([(b,o)]++d))[k]? =some x->(k=σ1.length/\x=(b,o))\/∃j,(σ1++d)[j]? =some x/\(j=k/\k<σ1.length\/j+1=k/\σ1.length<k):=by
   intro k x f;rcases bl k σ1.length with h|h|h
   ·rw[Q1 h]at f;exact .inr ⟨k,by rw[Q1 h];exact f,.inl ⟨rfl,h⟩⟩
   ·rw[P8 oW,h,U9]at f;simp at f;exact .inl ⟨h,f.symm⟩
   ·rw[P8 oW,P8 (by simp;omega)]at f;refine .inr ⟨k-1,?_,.inr ⟨by omega,h⟩⟩;rw[P8 oW];rw[<-f];congr 1;simp;omega
  refine⟨L,G.old,r,λk c x f=>?_,λj k x y K f e=>?_⟩
  ·rcases g k _ f with⟨_,h⟩|⟨j,K,_⟩
   ·simp only[N3]at h;obtain⟨rfl,rfl⟩:=h;exact⟨I,J,O⟩
   ·exact u.own j c x K
  ·rcases g j x K with⟨h1,rfl⟩|⟨M,A,V⟩<;>rcases g k y f with⟨h3,rfl⟩|⟨N,C,X⟩
   ·omega
   ·exact absurd e.symm (D N y C)
   ·exact absurd e (D M x A)
   ·have:=u.apart M N x y A C e;omega
theorem Ll{a : Act}{W : World}{K : Act -> World -> Prop}{Q : Exit -> Act -> World -> Prop}(ha : pR n s a)(D : Mem W0 U σ W)(r : Rw)(C : List Value)(m : Nat)(σ1 h : aH)(e : TypeId)(t : TypeId)(z bytes k : Nat)(c2 : σ = σ1 ++ (r.B e C ++ h))(X : r.ok z m C)(x y : Operand)(ho : o.op = .call { callee := .builtin .append, args := #[x, y], argTypes := #[t, t] })(hx : evS s x = some (r.V m))
  (b f c:Nat) (d:List Value) (hy:evS s y=some (.slice (some ⟨b,f,none⟩) k c)) (V:∀W,Mem W0 U σ W->W.rangeAt b f d) (hl:d.length=k*z) (h1:(d.all λu=>u.oneCell')=true) (hk:0<k) (b1:m+k<=maxLen) (b2:(m+k)*bytes<=140737488355328)
  (i:TypeInfo) (zv:Value) (ht:P.underlying t=some (.slice e)) (hi:P.info? e=some i) (hz:i.zero=some zv) (Z:i.size=z) (a1:i.bytes=bytes) (c1:zv.cells.size=z) (c0:0<z)
  (hK:∀(r':Rw) (W':World),r'.ok z (m+k) (C++d)->Mem W0 U (σ1++(r'.B e (C++d)++h)) W'->K (a.put o.dst (r'.V (m+k))) W'):o.wp P a W K Q:=by
 subst c2;have hn:=V W D;have a8:W.ownsRow W0.w.heap.size e z (r.V m) m C:=by
  cases r with
  |nil=>obtain⟨rfl,rfl⟩:=X;exact⟨by simp,.inl ⟨rfl,rfl⟩⟩
  |row g M junk=>
   obtain⟨G,J,q3,q4⟩:=X;have hg:=D.own (σ1.length+0) g (.cells (C++junk).toArray e (0,0)) (getElem?_mid σ1 _ h 0 _ rfl);exact⟨G,.inr ⟨g,M,(C++junk).toArray,rfl,hg.2.1,hg.1,q3,q4,by simpa using J,by rw[<-G];simp⟩⟩
 refine wp_append_lies W x y t ho W0.w.heap.size e i zv z bytes ht hi hz Z a1 c1 c0 (r.V m) m C (eH ha hx) a8 ⟨b,f,none⟩ k c d (eH ha hy) hl (λj u F=>by rw[Addr.add_mid];exact hn j u F) (λu F=>M7.1 h1 u F) hk b1 b2 D.below.size _ rfl ?_;intro g M w' Y O A c6;obtain⟨a7,h2⟩:=Y;rcases h2 with⟨h2,_⟩|⟨g',c4,N,hv,b5,hh,b9,b3,b4,b0⟩
 ·cases h2
 ·simp only[Value.slice.injEq,L0,Addr.mk.injEq,bA,bB]at hv;obtain⟨rfl,rfl⟩:=hv;have a6:N=((C++d)++N.toList.drop ((m+k)*z)).toArray:=by
   rw[<-b0,S8]
  have c7:r.ok z m C:=X;have L:∀(j:Nat) (q:Nat×Obj),(σ1++h)[j]? =some q->some q.1≠(r.V m).ownBlock/\q.1<W.heap.size:=by
   intro j q E;have hs:Mem W0 U (σ1++h) W:=D.sub (N4 (N7 _) (S2 _ _));refine⟨?_,gQ (hs.own j q.1 q.2 E).1⟩;cases r with
   |nil=>intro I;cases I
   |row g0 cap0 junk0=>
    intro I;have hq:q.1=g0:=N5 I;have b7:∃i,(σ1++(Rw.B (.row g0 cap0 junk0) e C++h))[i]? =some q/\i≠σ1.length:=by
     by_cases b8:j<σ1.length
     ·exact⟨j,by rw[Q1 b8]at E ⊢;exact E,by omega⟩
     ·refine⟨j+1,?_,by omega⟩;rw[P8 oW]at E;rw[P8 oW,P8 (by simp[Rw.B];omega),<-E];congr 1;simp[Rw.B];omega
    obtain⟨i',b6,c8⟩:=b7;have:=D.apart i' (σ1.length+0) q _ b6 (getElem?_mid σ1 _ h 0 (g0,.cells (C++junk0).toArray e (0,0)) rfl) hq;omega
  have B:∀a v,U a=some v->a.block<W.heap.size/\some a.block≠(r.V m).ownBlock:=by
   intro a v F;refine⟨oR (D.view a v F),?_⟩;cases r with
   |nil=>intro I;cases I
   |row g0 cap0 junk0=>
    intro I;have:=(D.own (σ1.length+0) g0 _ (getElem?_mid σ1 _ h 0 (g0,.cells (C++junk0).toArray e (0,0)) rfl)).2.2 a (N5 I);rw[F]at this;cases this
  refine hK (.row g M (N.toList.drop ((m+k)*z))) _ ⟨a7,by rw[<-b0,S8];simpa using b4,b9,b3⟩ ?_;refine D.swap ?_ (λj q E=>?_) (λa v F=>?_) (.inr ⟨g,_,rfl,?_,b5,λa ha=>?_,λj q E=>?_⟩)
  ·refine D.below.grown O D.below.size λj E=>?_
   cases r with
   |nil=>cases E
   |row g0 cap0 junk0=>
    obtain rfl:g0=j:=N5 E;exact(D.own (σ1.length+0) g0 _ (getElem?_mid σ1 _ h 0 (g0,.cells (C++junk0).toArray e (0,0)) rfl)).2.1
  ·obtain⟨G,J⟩:=L j q E;exact O.block q.1 J G
  ·obtain⟨G,J⟩:=B a v F;rw[World.cell?_of_block (w:=W) (O.block a.block G J)];exact D.view a v F
  ·rw[hh];exact M0 (λq=>some (Obj.cells q e (0,0))) a6
  ·cases F:U a with
   |none=>rfl
   |some v=>
    obtain⟨G,J⟩:=B a v F;rcases A with A|A
    ·rw[A,ha]at J;exact absurd rfl J
    ·omega
  ·obtain⟨G,J⟩:=L j q E;intro I;rcases A with A|A
   ·rw[A,I]at G;exact absurd rfl G
   ·omega
theorem Ge(r : Rw)(D : List Value)(m : Nat)(σ1 A : aH)(e : TypeId)(t : TypeId)(z bytes k : Nat)(M : σ = σ1 ++ (r.B e D ++ A))(I : r.ok z m D)(x y : Operand)(ho : o.op = .call { callee := .builtin .append, args := #[x, y], argTypes := #[t, t] })(hx : evS s x = some (r.V m))
  (b f c:Nat) (d:List Value) (hy:evS s y=some (.slice (some ⟨b,f,none⟩) k c)) (g:∀W,Mem W0 U σ W->W.rangeAt b f d) (hl:d.length=k*z) (E:(d.all λu=>u.oneCell')=true) (hk:0<k) (F:m+k<=maxLen) (G:(m+k)*bytes<=140737488355328)
  (i:TypeInfo) (N:Value) (ht:P.underlying t=some (.slice e)) (hi:P.info? e=some i) (hz:i.zero=some N) (j:i.size=z) (B:i.bytes=bytes) (L:N.cells.size=z) (J:0<z)
  (V:fF n o=true) (hw:dA ops s o=some true)
  (h:∀C:Rw,C.ok z (m+k) (D++d)->SXL P n W0 Q ops l (lQ o (C.V (m+k)) s) U (σ1++(C.B e (D++d)++A))):SXL P n W0 Q ops (o::l) s U σ:=
 oT V hw λa W O Z K Y=>Ll O Z r D m σ1 A e t z bytes k M I x y ho hx b f c d hy g hl E hk F G i N ht hi hz j B L J λC W' E X=>Y _ _ _ _ _ (h C E) (eL O V) X
theorem Mem.freeze{W:World}{σ1 d:aH}{r:Rw}{e:TypeId}{f:List Value}(A:Mem W0 U (σ1++(r.B e f++d)) W):Mem W0 (U.or (r.W f)) (σ1++d) W:=by
 have hs:Mem W0 U (σ1++d) W:=A.sub (N4 (N7 _) (S2 _ _));cases r with
 |nil=>
  have:U.or (Rw.W .nil f)=U:=by funext a;simp[View.or,Rw.W,View.no]
  rw[this];exact hs
 |row b cap junk=>
  obtain⟨V,q2,q3⟩:=A.own (σ1.length+0) b (.cells (f++junk).toArray e (0,0)) (getElem?_mid σ1 _ d 0 _ rfl);have j:∀a v,U.or (Rw.W (.row b cap junk) f) a=some v->U a=some v\/(a.block=b/\a.spot=none/\f[a.off]? =some v):=by
   intro a v h;unfold View.or at h;cases C:U a with
   |some u=>rw[C]at h;exact .inl h
   |none=>
    rw[C,Option.none_or]at h;simp only[Rw.W]at h;split at h
    ·next M=>exact .inr ⟨M.1,M.2,h⟩
    ·cases h
  refine hs.grow (λa v h g=>?_) (λa v h=>?_) (λk c o B a L=>?_)
  ·rcases j a v h with h|⟨h,_,_⟩
   ·exact A.old a v h g
   ·omega
  ·rcases j a v h with h|⟨I,J,K⟩
   ·exact A.view a v h
   ·have:a=⟨b,a.off,none⟩:=by
     obtain⟨X,Y,Z⟩:=a;simp only at I J ⊢;subst I J;rfl
    rw[this,cell_of_row _ _ _ _ _ _ V];have g:=(L8.1 K).1;simp only[X7];rw[Q1 g,K]
  ·cases C:(U.or (Rw.W (.row b cap junk) f)) a with
   |none=>rfl
   |some v=>
    rcases j a v C with h|⟨h,_,_⟩
    ·have:=(hs.own k c o B).2.2 a L;rw[this]at h;cases h
    ·exfalso;have D:c=b:=L.symm.trans h;subst D;have F:∃i,(σ1++(Rw.B (.row c cap junk) e f++d))[i]? =some (c,o)/\i≠σ1.length:=by
      by_cases G:k<σ1.length
      ·exact⟨k,by rw[Q1 G]at B ⊢;exact B,by omega⟩
      ·refine⟨k+1,?_,by omega⟩;rw[P8 oW]at B;rw[P8 oW,P8 (by simp[Rw.B];omega),<-B];congr 1;simp[Rw.B];omega
     obtain⟨O,E,N⟩:=F;have:=A.apart O (σ1.length+0) _ _ E (getElem?_mid σ1 _ d 0 (c,.cells (f++junk).toArray e (0,0)) rfl) rfl;omega
end
def byV(c:UInt8):Value:=.int .u8 (c.toNat:Int)
def inV(x:Int):Value:=.int .i64 x
theorem Ft{U:View}{b f:Nat}{l:List UInt8}(h:U.range b f (l.map byV)){i:Nat}{y:UInt8}(a:l[i]? =some y):U ⟨b,f+i,none⟩=some (.int .u8 (y.toNat:Int)):=h i _ (by rw[T5,a];rfl)
theorem Fu{U:View}{b f:Nat}{l:List Int}(h:U.range b f (l.map inV)){i:Nat}{y:Int}(a:l[i]? =some y):U ⟨b,f+i,none⟩=some (.int .i64 y):=h i _ (by rw[T5,a];rfl)
structure gV (U : View) (a : Option Addr) (l : List Int) : Prop where
 at_:l≠[]->∃b f,a=some ⟨b,f,none⟩/\U.range b f (l.map inV)
 len:l.length<=R47
theorem gV.le{U V:View}(h:View.le U V){a:Option Addr}{l:List Int}(g:gV U a l):gV V a l:=
 ⟨λd=>by obtain⟨b,f,e,j⟩:=g.at_ d;exact⟨b,f,e,View.range_le h j⟩,g.len⟩
theorem gV.one{U:View}{a:Option Addr}{l:List Int}(g:gV U a l){i:Nat}{y:Int}(d:l[i]? =some y):∃b f,a=some ⟨b,f,none⟩/\U ⟨b,f+i,none⟩=some (.int .i64 y):=by
 obtain⟨b,f,e,j⟩:=g.at_ (λh=>by rw[h]at d;simp at d);exact⟨b,f,e,Fu j d⟩
structure UJ (U : View) (a : Option Addr) (l : List UInt8) : Prop where
 at_:l≠[]->∃b f,a=some ⟨b,f,none⟩/\U.range b f (l.map byV)
 len:l.length<=R47
theorem UJ.one{U:View}{a:Option Addr}{l:List UInt8}(g:UJ U a l){i:Nat}{y:UInt8}(d:l[i]? =some y):∃b f,a=some ⟨b,f,none⟩/\U ⟨b,f+i,none⟩=some (.int .u8 ((y.toNat:Nat):Int)):=by
 obtain⟨b,f,e,j⟩:=g.at_ (λh=>by rw[h]at d;simp at d);exact⟨b,f,e,Ft j d⟩
theorem UJ.of{U:View}{b f:Nat}{l:List UInt8}(h:U.range b f (l.map byV))(a:l.length<=140737488355328):UJ U (some ⟨b,f,none⟩) l:=⟨λ_=>⟨b,f,rfl,h⟩,a⟩
section
variable {P:Program} {n:Nat} {W0:Cx} {Q:XQ} {s:cA} {U:View} {σ:aH} {ops:Array Oper} {l:List Oper} {o:Oper}
theorem eJ(t e : TypeId)(x h : Operand)(ho : o.op = .indexAddr t x h)(b f a d i : Nat)(k : IntKind)(u : evS s x = some (.slice (some ⟨b, f, none⟩) a d))(j : evS s h = some (.int k (i : Int)))(g : i < a)
  (r:P.underlying t=some (.slice e)) (hs:(P.info? e).map (·.size)=some 1) (W:World):(execOp (ev s) o).run P W=.ok (.value (.pointer (some ⟨b,f+i,none⟩))) W:=by
 have:=jP (o:=o) t e x h ho b f a d i 1 k u j g r hs W;rw[Nat.mul_one]at this;exact this
theorem LJ(C k e : TypeId)(x : Operand)(ho : o.op = .convert C k x)(bs : List UInt8)(hx : evS s x = some (.string (B bs)))(hs : P.underlying C = some .string)(O : P.underlying k = some (.slice e))(he : P.underlying e = some (.int .u8))
  (Z:fF n o=true) (hw:dA ops s o=some true)
  (h:∀(b f:Nat) (V:View),View.le U V->V.range b 0 (bs.map byV)->bs.length<=f->SXL P n W0 Q ops l (lQ o (.slice (some ⟨b,0,none⟩) bs.length f) s) V σ):SXL P n W0 Q ops (o::l) s U σ:=by
 refine oT Z hw λa W M I K hK=>?_
 obtain⟨f,w',G,D,Y,a6,A,_⟩:=KL (P:=P) W C k e bs hs O he;unfold Oper.wp execOp;simp only[ho,eH M hx,Sem.run_bind,G,Result.andThen_ok,Sem.run_pure];let V:View:=λa=>if a.block=W.heap.size/\a.spot=none then(bs.map byV)[a.off]? else U a
 have J:∀a:Addr,a.block=W.heap.size->U a=none:=by
  intro a M;cases g:U a with
  |none=>rfl
  |some v=>have:=oR (I.view a v g);omega
 have E:View.le U V:=by
  intro a v g;show(if a.block=W.heap.size/\a.spot=none then(bs.map byV)[a.off]? else U a)=some v;rw[M5 (λr=>by rw[J a r.1]at g;cases g)];exact g
 have L:V.range W.heap.size 0 (bs.map byV):=by
  intro j v hj;show(if _/\_ then(bs.map byV)[0+j]? else _)=some v;rw[N1 ⟨rfl,rfl⟩,O0];exact hj
 refine hK _ _ _ _ _ (h W.heap.size f V E L D) (eL M Z) (I.retN Y E (λa u g=>?_) (λa u g F=>?_))
 ·have d:(if a.block=W.heap.size/\a.spot=none then(bs.map byV)[a.off]? else U a)=some u:=g;split at d
  ·next r=>
   have ea:a=⟨W.heap.size,a.off,none⟩:=by
    obtain⟨a1,a2,a3⟩:=a;simp only at r ⊢;rw[r.1,r.2]
   rw[T5,U5]at d;obtain⟨c,N,rfl⟩:=d;obtain⟨F,rfl⟩:=L8.1 N;exact(M0 w'.cell? ea).trans (A a.off F)
  ·next r=>
   have X:=I.view a u d;rw[Y.cell (oR X)];exact X
 ·have d:(if a.block=W.heap.size/\a.spot=none then(bs.map byV)[a.off]? else U a)=some u:=g;rw[M5 (λr=>by omega)]at d;exact d
end
end Go.Proofs.YtkoamlfiijcecaaGreatDoor.Sx
namespace Go.Proofs.YtkoamlfiijcecaaGreatDoor
open Go.ChangeShapes Go.WideShapes Go.ChangeAt Go.RowKit

def Se{A C:Type}(R:A->C->Prop):List A->List C->Prop
 | [],cs=>cs=[]
 |a::l,cs=>∃c r,cs=c::r/\R a c/\Se R l r
def AR(P:Program):Nat->TypeId->Nat->Option TypeId
 |0,_,_=>none
 |d+1,t,o=>
  match P.underlying t with
  |some (.struct fs)=>(fs.toList.find? λf=>decide (f.offset<=o/\o<f.offset+P.cellsOf f.type)).bind λf=>AR P d f.type (o-f.offset)
  |some (.array n e)=>if o/P.cellsOf e<n/\0<P.cellsOf e then AR P d e (o%P.cellsOf e)else none
  |some _=>if o=0 then some t else none
  |none=>none

section
variable {H:Type} {enc:TypeId×Value->H} {P:Program} {w:World} {base:Nat} {spare:Nat->Bool} {held:Bool}

theorem Rm{fuel : Nat}{t : TypeId}{cs : List Value}{y : DataW H × List MemPlace}(h : DataW.trod enc P w base spare held fuel t cs = some y)
  (f:∀d,P.underlying t≠some (.struct d)) (g:∀n e,P.underlying t≠some (.array n e)):∃c,cs=[c]:=by
 cases fuel with
 |zero=>simp[DataW.trod]at h
 |succ n=>
  unfold DataW.trod at h;split at h<;>first|exact⟨_,rfl⟩|(rename_i a;exact absurd a (f _))|(rename_i a;exact absurd a (g _ _))|cases h

theorem UX{y:DataW H×List MemPlace}{a:List (DataW H×List MemPlace)}(h:y∈a):∀p∈y.2,p∈a.flatMap (·.2):=λ_p d=>bm.2 ⟨y,h,d⟩

theorem EM:∀(d:Nat) {fuel:Nat} {t u:TypeId} {o:Nat} {cs:List Value} {y:DataW H×List MemPlace},AR P d t o=some u->DataW.trod enc P w base spare held fuel t cs=some y->
  ∃n c z,(cs.drop o).take 1=[c]/\DataW.trod enc P w base spare held n u [c]=some z/\∀p∈z.2,p∈y.2
 |0,_,_,_,_,_,_,a,_=>by simp[AR]at a
 |d+1,fuel,t,u,o,cs,y,a,h=>by
  unfold AR at a;split at a
  ·rename_i J hs
   obtain⟨f,r,a⟩:=Option.bind_eq_some_iff.1 a;have M:=bX r;have hm:=List.mem_of_find?_eq_some r;simp only[N0]at M;obtain⟨i,V⟩:=R8.1 hm;obtain⟨G,n,rfl,rfl,D,C,g⟩:=DataW.trod_struct hs h;have F:=g i f (by simpa using V);have hx:∃z,G[i]? =some z:=by
    have:i<J.toList.length:=(L8.1 V).1;have k:i<G.length:=by rw[C];simpa using this
    exact⟨G[i],K8 k⟩
   obtain⟨z,Y⟩:=hx;rw[Y]at F;obtain⟨m,c,N,K,B,j⟩:=EM d a F;refine⟨m,c,N,?_,B,λp A=>UX (K9 Y) p (j p A)⟩;rw[<-K,List.drop_take,T3,List.take_take];rw[show f.offset+(o-f.offset)=o by omega,show min 1 (P.cellsOf f.type-(o-f.offset))=1 by omega]
  ·rename_i n e hs
   split at a
   ·rename_i I
    obtain⟨I,E⟩:=I;obtain⟨G,m,rfl,rfl,D,C,g⟩:=DataW.trod_array hs h;have F:=g (o/P.cellsOf e) I;have k:o/P.cellsOf e<G.length:=by rw[C];exact I
    rw[K8 k]at F;obtain⟨m',c,N,K,B,j⟩:=EM d a F;refine⟨m',c,N,?_,B,λp A=>UX (List.getElem_mem k) p (j p A)⟩;have X:o%P.cellsOf e<P.cellsOf e:=Nat.mod_lt _ E;have L:o/P.cellsOf e*P.cellsOf e+o%P.cellsOf e=o:=by rw[Nat.mul_comm];exact Nat.div_add_mod _ _
    rw[<-K,List.drop_take,T3,List.take_take,L,show min 1 (P.cellsOf e-o%P.cellsOf e)=1 by omega]
   ·cases a
  ·rename_i O Z h2 hs
   split at a
   ·rename_i ho
    subst ho;cases a;obtain⟨c,rfl⟩:=Rm h (λJ r=>Z J (by rw[hs]at r;exact N5 r)) (λn e r=>h2 n e (by rw[hs]at r;exact N5 r));exact⟨fuel,c,y,rfl,h,λp M=>M⟩
   ·cases a
  ·cases a
end

def qP{H:Type}(enc:TypeId×Value->H)(P:Program)(w:World)(u:TypeId)(v:Value):Prop:=
 ∃n z,DataW.trod enc P w 0 (λ_=>true) true n u [v]=some z/\∀p∈z.2,p.block<w.heap.size

section
variable {H:Type} {enc:TypeId×Value->H} {P:Program} {w:World}
theorem PJ{fuel:Nat}{t:TypeId}{cs:List Value}{y:DataW H×List MemPlace}(h:DataW.trod enc P w 0 (λ_=>true) true fuel t cs=some y)(d:∀p∈y.2,p.block<w.heap.size):
  ∀(g:List TypeId) (k:Nat),(∀i u,g[i]? =some u->AR P 9 t (k+i)=some u)->cs.length=k+g.length->Se (qP enc P w) g (cs.drop k)
 | [],k,_,hlen=>R6 (by simp at hlen;omega)
 |u::g,k,a,hlen=>by
  have A:k<cs.length:=by simp at hlen;omega
  obtain⟨n,c,z,r,D,f⟩:=EM 9 (a 0 u rfl) h;have j:cs[k]=c:=by
   rw[U8,R1 A,S9,S6]at r;exact(List.cons.inj r).1
  refine⟨c,cs.drop (k+1),by rw[R1 A,j],⟨n,z,D,λp C=>d p (f p C)⟩,?_⟩;refine PJ h d g (k+1) (λi E B=>?_) (by simp at hlen ⊢;omega);have:=a (i+1) E (by simpa using B);rwa[show k+1+i=k+(i+1) by omega]
theorem leaves{fuel : Nat}{t : TypeId}{cs : List Value}{y : DataW H × List MemPlace}(a : List TypeId)(h : DataW.trod enc P w 0 (fun _ => true) true fuel t cs = some y)(f : ∀ p ∈ y.2, p.block < w.heap.size)
  (g:(List.range a.length).map (AR P 9 t)=a.map some) (d:cs.length=a.length):Se (qP enc P w) a cs:=by
 have:=PJ h f a 0 (λi u j=>by
  have k:i<a.length:=(L8.1 j).1;have e:=M0 (λl=>l[i]?) g;simp[k]at e;rw[O0,e,<-j,K8 k]) (by simpa using d)
 simpa using this
theorem Wj{t : TypeId}{v : Value}{d : DataW H}{A : List MemPlace}{base : Nat}(j : List TypeId)(g : Value.okWide P w .any base t v)(h : DataW.Trod enc P w 0 (fun _ => true) true t v d A)(r : ∀ p ∈ A, p.block < w.heap.size)
  (hs:(match P.underlying t with|some (.struct _)|some (.array _ _)=>true|_=>false)=true)
  (u:(List.range j.length).map (AR P 9 t)=j.map some) (f:P.cellsOf t=j.length):∃cs:List Value,v=.agg cs.toArray/\Se (qP enc P w) j cs:=by
 have:∃cs:Array Value,v=.agg cs/\cs.size=P.cellsOf t:=by
  unfold Value.okWide at g;split at hs
  ·rename_i k;rw[k]at g;obtain⟨cs,e,a,_⟩:=g;exact⟨cs,e,a⟩
  ·rename_i k;rw[k]at g;obtain⟨cs,e,a,_⟩:=g;exact⟨cs,e,a⟩
  ·cases hs
 obtain⟨cs,rfl,a⟩:=this;obtain⟨B,C⟩:=h;refine⟨cs.toList,by simp,leaves j (t:=t) (y:=(d,A)) (by simpa[Value.cells]using C) r u (by simp[a,f])⟩
theorem qP.int{u:TypeId}{k:IntKind}{v:Value}(a:P.underlying u=some (.int k))(h:qP enc P w u v):∃n,v=.int k n/\(Lit.int k n).wf=true:=by
 obtain⟨n,z,f,_⟩:=h;obtain⟨m,e,_,d⟩:=DataW.trod_int a f;cases e;exact⟨m,rfl,d⟩
theorem qP.str{u:TypeId}{v:Value}(a:P.underlying u=some .string)(h:qP enc P w u v):∃l,v=.string (B l)/\l.length<=maxLen:=by
 obtain⟨n,z,d,_⟩:=h;obtain⟨s,e,_,hs⟩:=DataW.trod_string a d;cases e;obtain⟨l,rfl⟩:=Af s;exact⟨l,rfl,by rwa[sV]at hs⟩
theorem Wk{t:TypeId}{v:Value}{d:DataW H}{g:List MemPlace}(h:DataW.Trod enc P w 0 (λ_=>true) true t v d g)(f:∀p∈g,p.block<w.heap.size)(k:v.cells=#[v]):qP enc P w t v:=by
 obtain⟨a,j⟩:=h;exact⟨a,(d,g),by rw[k]at j;exact j,f⟩
end
theorem Ub{P:Program}{w:World}{base:Nat}{t:TypeId}{v:Value}(a:Value.okWide P w .any base t v)(d:P.underlying t=some .string\/(∃k,P.underlying t=some (.int k))\/P.underlying t=some .bool\/∃u,P.underlying t=some (.slice u)):v.cells=#[v]:=by
 cases v with
 |agg cs=>
  exfalso;unfold Value.okWide at a;rcases d with h|⟨k,h⟩|h|⟨u,h⟩<;>rw[h]at a<;>simp[Cell.okWide,Cell.ok,h]at a
 |_=>rfl
theorem open_int{P : Program}{w : World}{base : Nat}{H : Type}{enc : TypeId × Value -> H}{t : TypeId}{k : IntKind}{v : Value}{d : DataW H}{g : List MemPlace}(f : P.underlying t = some (.int k))(j : Value.okWide P w .any base t v)
  (h:DataW.Trod enc P w 0 (λ_=>true) true t v d g) (a:∀p∈g,p.block<w.heap.size):∃n,v=.int k n/\(Lit.int k n).wf=true:=
 (Wk h a (Ub j (.inr (.inl ⟨_,f⟩)))).int f
def Lk(w:World)(v:Value)(k:Nat)(css:List (List Value)):Prop:=
 css.length<=maxLen/\∃a c,v=.slice a css.length c/\css.length<=c/\c<=maxLen/\(css=[]\/∃b o,a=some ⟨b,o,none⟩/\b<w.heap.size/\∀(j:Nat) cs,css[j]? =some cs->∀(i:Nat) u,cs[i]? =some u->w.cell? ⟨b,o+(j*k+i),none⟩=some u)
theorem WZ{a:Addr}(hs:a.spot=none)(j:Nat):a.add j=⟨a.block,a.off+j,none⟩:=by
 unfold Addr.add;split
 ·next d=>subst d;cases a;simp at hs;subst hs;rfl
 ·rfl
theorem Xr{w:World}{a:Addr}{v:Value}(h:w.cell? a=some v):a.spot=none:=by
 unfold World.cell? at h;split at h
 ·split at h
  ·cases h
  ·next hs=>simpa using hs
 ·cases h
theorem Jw{P : Program}{w : World}{H : Type}{enc : TypeId × Value -> H}{t e : TypeId}{v : Value}{x : DataW H × List MemPlace}{fuel : Nat}(A : List TypeId)
  (hf:DataW.trod enc P w 0 (λ_=>true) true fuel t [v]=some x) (Y:∀p∈x.2,p.block<w.heap.size) (ht:P.underlying t=some (.slice e))
  (Z:(List.range A.length).map (AR P 9 e)=A.map some) (f:P.cellsOf e=A.length) (r:0<A.length):
  ∃css,Lk w v A.length css/\∀cs∈css,Se (qP enc P w) A cs:=by
 rcases Deep.open_slice ht hf with⟨d,hx⟩|⟨a,g,a1,m,n,D,Pl,d,_,hl,hm,E,hx,O⟩
 ·simp only[Z6,bA]at d;subst d;exact⟨[],⟨M8 _,none,0,rfl,O9 _,M8 _,.inl rfl⟩,λcs h=>by cases h⟩
 ·simp only[Z6,bA]at d;subst d;rw[N1 rfl]at E;subst E;obtain⟨C,J⟩:=Deep.choose_lt (α:=List Value) (p:=λi cs=>w.cells? 0 (a.add (i*P.cellsOf e)) (P.cellsOf e)=some cs/\DataW.trod enc P w 0 (λ_=>true) true n e cs=some (D i,Pl i)) O;have K:((List.range g).map C).length=g:=by simp
  refine⟨(List.range g).map C,⟨by rw[K];omega,some a,m,by rw[K],by rw[K];exact hl,hm,?_⟩,?_⟩
  ·by_cases h0:g=0
   ·left;subst h0;rfl
   ·right;obtain⟨_,X,L⟩:=World.cells?_some (J 0 oW).1;have k:=L 0 (by rw[f];exact r);rw[K8 (by rw[X,f];exact r)]at k;have N:w.cell? a=some (C 0)[0]:=by simpa[Addr.add]using k
    have G:=Xr N;refine⟨a.block,a.off,M0 some (by have h9:=WZ G 0;simpa[Addr.add]using h9),?_,λj cs hj i u I=>?_⟩
    ·have:=World.block_lt_of_cell? w _ k;simpa[Addr.add]using this
    ·rw[T5,U5]at hj;obtain⟨j',B,rfl⟩:=hj;have V:j<g:=by
      have:=(L8.1 B).1;simpa using this
     rw[K8 (by simpa using V),List.getElem_range]at B;obtain rfl:j=j':=N5 B;obtain⟨_,a8,M⟩:=World.cells?_some (J j oW).1;have a7:i<A.length:=by
      have:=(L8.1 I).1;omega
     have:=M i oW;rw[Deep.add_add,WZ G,f,I]at this;exact this
  ·intro cs d;obtain⟨i,I,rfl⟩:=S1.1 d;have a6:i<g:=S4.1 I;obtain⟨h1,h2⟩:=J i oW;refine leaves A h2 (λp hp=>Y p ?_) Z ((World.cells?_some h1).2.1.trans f);have F:=M0 Prod.snd hx;simp only at F;rw[F];exact av _ (bm.2 ⟨i,S4.2 oW,hp⟩)
theorem AB{P:Program}{ops:Array Oper}{rest:List Oper}{o:Oper}{a:Act}{w:World}{Q:Exit->Act->World->Prop}(tp:TypeId){x:Operand}(_:o.op=.load tp x)(h:RowKit.Hid (wpList P ops Q (o::rest) a w)):wpList P ops Q (o::rest) a w:=h.out
theorem MF{P : Program}{ops : Array Oper}{rest : List Oper}{o : Oper}{a : Act}{w : World}{Q : Exit -> Act -> World -> Prop}(k : TypeId)(x : Operand)(ho : o.op = .load k x)(r : o.guard = none)(g : Option Tmp)(j : o.dst = g)
  (b f:Nat) (D:a.eval x=.pointer (some ⟨b,f,none⟩)) (c:Array Value) (u:w.rangeAt b f c.toList) (d:TypeDesc) (C:P.underlying k=some d) (A:d.isRow=true) (B:(P.info? k).map (·.size)=some c.size)
  (h:wpList P ops Q rest (a.put g (.agg c)) w):RowKit.Hid (wpList P ops Q (o::rest) a w):=
 Lib.hid (wpList_load_mid r k x ho b f D c.toList d u C A (by simpa using B) (by subst j;simpa using h))
theorem FB{w:World}{b:Nat}{c:Array Value}{t:TypeId}(h:w.heap[b]? =some (.cells c t (0,0))):w.rangeAt b 0 c.toList:=λj v a=>by
 rw[O0,cell_of_row w b j c t (0,0) h];simpa using a
theorem pV{a:Nat}{w d:World}{b o:Nat}{cs:List Value}(h:w.rangeAt b o cs)(f:Below a w d)(g:b<a):d.rangeAt b o cs:=λj v k=>by
 rw[f.cell (p:=⟨b,o+j,none⟩) g];exact h j v k
theorem ZN{a:Nat}{w d:World}(h:Below a w d){k:Nat}(g:k<a){x:Option Obj}(e:w.heap[k]? =x):d.heap[k]? =x:=by
 obtain⟨_,_,_,_,f⟩:=h;rw[f k g];exact e
theorem ZF{P : Program}{ops : Array Oper}{rest : List Oper}{o : Oper}{a : Act}{w : World}{Q : Exit -> Act -> World -> Prop}(k : TypeId)(x : Operand)(ho : o.op = .load k x)(r : Region.wanted o (yielded ops a.tmps) = true)(g : Option Tmp)(j : o.dst = g)
  (b f:Nat) (E:a.eval x=.pointer (some ⟨b,f,none⟩)) (c:Array Value) (A:w.rangeAt b f c.toList) (d:TypeDesc) (D:P.underlying k=some d) (B:d.isRow=true) (C:(P.info? k).map (·.size)=some c.size)
  (h:wpList P ops Q rest (a.put g (.agg c)) w):RowKit.Hid (wpList P ops Q (o::rest) a w):=
 Lib.hid (wpList_step λK u=>by
  rw[N1 r];exact wp_load_mid k x ho b f E c.toList d A D B (by simpa using C) (u _ _ (by subst j;simpa using h)))
end Go.Proofs.YtkoamlfiijcecaaGreatDoor
namespace Go.Proofs.YtkoamlfiijcecaaGreatDoor.Itm
open Go.ChangeShapes Go.WideShapes Go.ChangeAt Go.RowKit
inductive Tr where
 |mk (k:Int) (n:Nat) (s:List UInt8) (l:List Tr) (o:Bool)
def Tr.k:Tr->Int| .mk k _ _ _ _=>k
def Tr.n:Tr->Nat| .mk _ n _ _ _=>n
def Tr.s:Tr->List UInt8| .mk _ _ s _ _=>s
def Tr.l:Tr->List Tr| .mk _ _ _ l _=>l
def Tr.o:Tr->Bool| .mk _ _ _ _ o=>o
def W64:Nat:=18446744073709551616
def R47:Nat:=140737488355328
inductive TAt (w:World):Tr->List Value->Prop
 | mk (k : Int) (n : Nat) (s : List UInt8) (l : List Tr) (o : Bool) (a : Option Addr) (c : Nat) (C : Nat -> List Value) (hn : n < W64) (hs : s.length <= R47) (hl : l.length <= R47)
   (hat:∀i,i<l.length->∃b f,a=some ⟨b,f,none⟩/\b<w.heap.size/\w.rangeAt b (f+i*5) (C i))
   (hel:∀i t,l[i]? =some t->TAt w t (C i)):TAt w (.mk k n s l o) [.int .i64 k,.int .u64 n,.string (B s),.slice a l.length c,.bool o]
theorem TAt.keep{w u:World}{r:Nat}(j:Below r w u)(g:w.heap.size<=r){t:Tr}{cs:List Value}(h:TAt w t cs):TAt u t cs:=by
 induction h with
 |mk k n s l o a c C hn hs hl hat hel ih=>
  refine .mk k n s l o a c C hn hs hl (λi A=>?_) ih;obtain⟨b,f,rfl,d,B⟩:=hat i A;exact⟨b,f,rfl,X5 d j.size,pV B j (X5 d g)⟩
theorem TAt.form{w:World}{t:Tr}{cs:List Value}(h:TAt w t cs):∃(a:Option Addr) (c:Nat) (C:Nat->List Value),cs=[.int .i64 t.k,.int .u64 t.n,.string (B t.s),.slice a t.l.length c,.bool t.o]/\t.n<W64/\t.s.length<=R47/\t.l.length<=R47/\
  (∀i,i<t.l.length->∃b f,a=some ⟨b,f,none⟩/\b<w.heap.size/\w.rangeAt b (f+i*5) (C i))/\∀i x,t.l[i]? =some x->TAt w x (C i):=by
 cases h with
 |mk k n s l o a c C hn hs hl hat hel=>exact⟨a,c,C,rfl,hn,hs,hl,hat,hel⟩
section
variable {H:Type} {enc:TypeId×Value->H} {W:World}
end
end Go.Proofs.YtkoamlfiijcecaaGreatDoor.Itm
namespace Go.Proofs.YtkoamlfiijcecaaGreatDoor.Sx
open Go.ChangeShapes Go.WideShapes Go.ChangeAt Go.RowKit Go.Deep
section
variable {P:Program} {n:Nat} {W0:Cx} {Q:XQ} {s:cA} {U:View} {σ:aH} {ops:Array Oper} {l:List Oper} {o:Oper}
def kN:List Nat->List (Option Nat)
 | []=>[]
 |0::r=>none::kN r
 |(k+1)::r=>some k::kN r
theorem Vr:∀ks:List Nat,(kN ks).length=ks.length
 | []=>rfl
 |0::r=>by rw[kN,M9,M9,Vr]
 |(k+1)::r=>by rw[kN,M9,M9,Vr]
abbrev See(U:View)(w:World):Prop:=∀a v,U a=some v->w.cell? a=some v
abbrev CP:FuncId->Array Value->World->(Ending->World->Prop)->Prop:=Calls Tryz.prog
abbrev I6(x:Int):Value:=.int .i64 x
abbrev U6(x:Int):Value:=.int .u64 x
abbrev N6(x:Nat):Value:=.int .u64 (x:Int)
abbrev L6(x:Nat):Value:=.int .i64 (x:Int)
abbrev St(l:List UInt8):Value:=.string (B l)
abbrev Pt(b o:Nat):Value:=.pointer (some ⟨b,o,none⟩)
abbrev Sl(b o n c:Nat):Value:=.slice (some ⟨b,o,none⟩) n c
abbrev S0:Value:=.slice none 0 0
abbrev qF:Value:=.bool false
abbrev qT:Value:=.bool true
abbrev oK(cs:List Value)(t:TypeId):Obj:=.cells cs.toArray t (0,0)
abbrev bK(b:Nat)(cs:List Value)(t:TypeId):Nat×Obj:=(b,.cells cs.toArray t (0,0))
abbrev tC(t:Itm.Tr)(a:Option Addr)(c:Nat):List Value:=[I6 t.k,N6 t.n,St t.s,.slice a t.l.length c,.bool t.o]
abbrev tV(t:Itm.Tr)(a:Option Addr)(c:Nat):Value:=.agg #[I6 t.k,N6 t.n,St t.s,.slice a t.l.length c,.bool t.o]
abbrev iN(n:Nat):List Value:=[I6 0,N6 n,St [],S0,.bool false]
abbrev iV(n:Nat):Value:=.agg #[I6 0,N6 n,St [],S0,.bool false]
abbrev Z8:List Value:=[S0,I6 0,I6 0,St [],U6 0,U6 0,S0,S0]
abbrev Z20:List Value:=[U6 0,I6 0,I6 0,St [],U6 0,U6 0,I6 0,St [],U6 0,U6 0,I6 0,St [],U6 0,U6 0,U6 0,U6 0,U6 0,U6 0,U6 0,S0]
theorem bs:(∀b:Bool,(b||true)=true)/\(∀b:Bool,(true||b)=true)/\(∀b:Bool,(false||b)=b)/\(∀b:Bool,(b||false)=b)/\(∀b:Bool,(b&&true)=b)/\(∀b:Bool,(true&&b)=b)/\(∀b:Bool,(false&&b)=false)/\(∀b:Bool,(b&&false)=false)/\((!true)=false)/\((!false)=true)/\((false=true)=False):=
 ⟨Bool.or_true,Bool.true_or,R5,Bool.or_false,ak,R9,Bool.false_and,U7,rfl,rfl,by simp⟩
def nxS(P:Program)(n:Nat)(ops:Array Oper)(σ:aH)(ks:List Nat)(l:List Oper)(s:cA):cA:=match Qq P n ops σ (kN ks) l s with
 |some (s',_,_)=>s'
 |none=>[]
def nxT(P:Program)(n:Nat)(ops:Array Oper)(σ:aH)(ks:List Nat)(l:List Oper)(s:cA):Option (List (Nat×Option Nat)×List (Nat×Option Nat)):=match Qq P n ops σ (kN ks) l s with
 |some (_,x,y)=>some (x,y)
 |none=>none
theorem cF(ks:List Nat)(T:List (Nat×Nat))(a:SXL P n W0 Q ops (l.drop ks.length) (nxS P n ops σ ks l s) U σ)(h:nxT P n ops σ ks l s=some (tt T,tt T):=by kernel_rfl):SXL P n W0 Q ops l s U σ:=by
 unfold nxT at h;unfold nxS at a;split at h
 ·next d x y hs=>
  simp only[L0,N3]at h;obtain⟨rfl,rfl⟩:=h;rw[hs]at a;rw[<-Vr ks]at a;exact EN (kN ks) l s d _ hs a
 ·cases h
def stX(P:Program)(σ:aH)(k:Nat)(s:cA)(o:Oper):Obj:=match stK P σ k s o with
 |some (_,_,x)=>x
 |none=>.cells #[] 0 (0,0)
theorem aX(k b:Nat)(d:SXL P n W0 Q ops l s U (σ.set k (b,stX P σ k s o)))(h:stK P σ k s o=some (b,b,stX P σ k s o):=by kernel_rfl)(a:o.dst=none:=by rfl)(f:dA ops s o=some true:=by kernel_rfl):SXL P n W0 Q ops (o::l) s U σ:=
 Be k b _ h a f d
def nwX(P:Program)(s:cA)(o:Oper):Obj:=match makes P s o with
 |some (x,_)=>x
 |none=>.cells #[] 0 (0,0)
def nwV(P:Program)(s:cA)(o:Oper)(r:Nat):Value:=match makes P s o with
 |some (_,f)=>(f r).getD undef
 |none=>undef
theorem aW(h:∀b,SXL P n W0 Q ops l (lQ o (nwV P s o b) s) U (σ++[(b,nwX P s o)]))(hm:makes P s o=some (nwX P s o,λr=>some (nwV P s o r)):=by kernel_rfl)(a:fF n o=true:=by kernel_rfl)(d:dA ops s o=some true:=by kernel_rfl):SXL P n W0 Q ops (o::l) s U σ:=
 Mk _ _ hm a d h
theorem cY(f:FuncId)(a:Array Value)(v:Value)(d:∀W,Mem W0 U σ W->Calls P f a W λe W'=>e=.returned v/\Below W.heap.size W W')(h:SXL P n W0 Q ops l (lQ o v s) U σ)(j:enters P s o=some (f,a):=by kernel_rfl)(g:fF n o=true:=by kernel_rfl)(k:dA ops s o=some true:=by kernel_rfl):SXL P n W0 Q ops (o::l) s U σ:=
 RE f a v j d g k h
theorem cB(v:Value)(a:∀W:World,(execOp (ev s) o).run P W=.ok (.value v) W)(g:SXL P n W0 Q ops l (lQ o v s) U σ)(f:known s o=true:=by kernel_rfl)(d:fF n o=true:=by kernel_rfl)(h:dA ops s o=some true:=by kernel_rfl):SXL P n W0 Q ops (o::l) s U σ:=
 Gj v f a d h g
theorem dZ(t:Nat)(v a:Value)(d:v=a)(h:SXL P n W0 Q ops l ((t,a)::s) U σ)(f:look s t=some v:=by kernel_rfl):SXL P n W0 Q ops l s U σ:=Ke t v a f d h
theorem gK{c:Operand}{x y:Code}(t:Bool)(a:t=true->SXC P n W0 Q x s U σ)(d:t=false->SXC P n W0 Q y s U σ)(f:evS s c=some (.bool t):=by kernel_rfl):SXC P n W0 Q (.cond c x y) s U σ:=LH t f a d
theorem aZ{c:Operand}{x y:Code}(p:Prop)[Decidable p](a:decide p=true->p->SXC P n W0 Q x s U σ)(d:decide p=false->¬p->SXC P n W0 Q y s U σ)(f:evS s c=some (.bool (decide p)):=by kernel_rfl):SXC P n W0 Q (.cond c x y) s U σ:=LH _ f (λh=>a h (P2 h)) λh=>d h (O5 h)
theorem fC{α:Type}[BEq α][LawfulBEq α]{c:Operand}{x y:Code}(a b:α)(d:(a==b)=true->a=b->SXC P n W0 Q x s U σ)(f:(a==b)=false->a≠b->SXC P n W0 Q y s U σ)(g:evS s c=some (.bool (a==b)):=by kernel_rfl):SXC P n W0 Q (.cond c x y) s U σ:=LH _ g (λh=>d h (eq_of_beq h)) λh=>f h (M2.1 h)
theorem iE{α:Type}[BEq α][LawfulBEq α]{c:Operand}{x y:Code}(a b:α)(d:(a !=b)=true->a≠b->SXC P n W0 Q x s U σ)(f:(a !=b)=false->a=b->SXC P n W0 Q y s U σ)(g:evS s c=some (.bool (a !=b)):=by kernel_rfl):SXC P n W0 Q (.cond c x y) s U σ:=LH _ g (λh=>d h (Q0.1 h)) λh=>f h (Q5.1 h)
theorem dM{c:Operand}{x y:Code}(a:SXC P n W0 Q x s U σ)(d:evS s c=some (.bool true):=by kernel_rfl):SXC P n W0 Q (.cond c x y) s U σ:=UT true d rfl a
theorem cU{c:Operand}{x y:Code}(a:SXC P n W0 Q y s U σ)(d:evS s c=some (.bool false):=by kernel_rfl):SXC P n W0 Q (.cond c x y) s U σ:=UU false d rfl a
theorem jG{c:Operand}{x y:Code}(t:Bool)(f:t=true)(a:SXC P n W0 Q x s U σ)(d:evS s c=some (.bool t):=by kernel_rfl):SXC P n W0 Q (.cond c x y) s U σ:=UT t d f a
theorem dY{c:Operand}{x y:Code}(t:Bool)(f:t=false)(a:SXC P n W0 Q y s U σ)(d:evS s c=some (.bool t):=by kernel_rfl):SXC P n W0 Q (.cond c x y) s U σ:=UU t d f a
theorem Fs{P:Program}{s:cA}{σ:aH}:∀{ts:List Nat} {vs:List Value},(ts.map λt=>look s t)=vs.map some->HU P s σ (ts.map .tmp) vs
 | [],[],_=>trivial
 |t::ts,v::vs,h=>by
  simp only[R2,Z6]at h;exact⟨Ba h.1,Fs h.2⟩
 | [],v::vs,h=>by simp at h
 |t::ts,[],h=>by simp at h
theorem aO{a:Func}{R:Ending->World->Prop}(ts:List Nat)(vs:List Value)(h:∀W,Mem W0 U σ W->R (.returned (dD vs)) W)(f:(ts.map λt=>look s t)=vs.map some:=by kernel_rfl)(d:a.results.toList=ts.map .tmp:=by rfl):Sk P n W0 a R .ret s U σ:=
 BM _ vs d (Fs f) h
theorem oI(f : FuncId)(a : Array Value)(Φ : Value -> View -> Prop)(d : ∀ W, Mem W0 U σ W -> Calls P f a W (fV W U Φ))
  (h:∀v V,View.le U V->Φ v V->SXL P n W0 Q ops l (lQ o v s) V σ) (j:enters P s o=some (f,a):=by kernel_rfl) (g:fF n o=true:=by kernel_rfl) (k:dA ops s o=some true:=by kernel_rfl):SXL P n W0 Q ops (o::l) s U σ:=
 UW f a Φ j d g k h
theorem Bb{s:cA}{σ:aH}{t:Nat}{v:Value}(h:look s t=some v:=by kernel_rfl):KW P s σ (.tmp t) v:=h
theorem Az{s:cA}{σ:aH}{x:Nat}{a:TypeId}{v:Value}(k b m:Nat)(h:OG P σ k s x a=some (v,List.replicate m (b,none),b):=by kernel_rfl):KW P s σ (.cell x a) v:=⟨k,b,m,h⟩
theorem cN(t:Nat)(x:Bool)(a:x=true->SXL P n W0 Q ops l ((t,.bool true)::s) U σ)(d:x=false->SXL P n W0 Q ops l ((t,.bool false)::s) U σ)(f:look s t=some (.bool x):=by kernel_rfl):SXL P n W0 Q ops l s U σ:=LK t x f a d
theorem jM(t:Nat)(p:Prop)[Decidable p](a:decide p=true->p->SXL P n W0 Q ops l ((t,.bool true)::s) U σ)(d:decide p=false->¬p->SXL P n W0 Q ops l ((t,.bool false)::s) U σ)(f:look s t=some (.bool (decide p)):=by kernel_rfl):SXL P n W0 Q ops l s U σ:=LK t _ f (λh=>a h (P2 h)) λh=>d h (O5 h)
theorem jZ{α:Type}[BEq α][LawfulBEq α](t:Nat)(a b:α)(d:(a==b)=true->a=b->SXL P n W0 Q ops l ((t,.bool true)::s) U σ)(f:(a==b)=false->a≠b->SXL P n W0 Q ops l ((t,.bool false)::s) U σ)(g:look s t=some (.bool (a==b)):=by kernel_rfl):SXL P n W0 Q ops l s U σ:=LK t _ g (λh=>d h (eq_of_beq h)) λh=>f h (M2.1 h)
theorem jB{α:Type}[BEq α][LawfulBEq α](t:Nat)(a b:α)(d:(a !=b)=true->a≠b->SXL P n W0 Q ops l ((t,.bool true)::s) U σ)(f:(a !=b)=false->a=b->SXL P n W0 Q ops l ((t,.bool false)::s) U σ)(g:look s t=some (.bool (a !=b)):=by kernel_rfl):SXL P n W0 Q ops l s U σ:=LK t _ g (λh=>d h (Q0.1 h)) λh=>f h (Q5.1 h)
theorem Mem.nilE{W:World}{A:aH}(h:Mem W0 U σ W)(e:σ=A:=by kernel_rfl):Mem W0 U (A++[]) W:=h.eqv (e.trans (M1 A).symm)
theorem zE{y:Operand}{k:Nat}{a:Option Addr}{c:Nat}(d:k=0)(h:evS s y=some (.slice a k c):=by kernel_rfl):evS s y=some (.slice a 0 c):=by subst d;exact h
theorem zE'{y:Operand}{k:Nat}{v:Value}{a:Option Addr}{c:Nat}(f:v=.slice a k c)(d:k=0)(h:evS s y=some v:=by kernel_rfl):evS s y=some (.slice a 0 c):=by subst d;rw[h,f]
theorem zX{y:Operand}{v w:Value}(e:v=w)(h:evS s y=some v:=by kernel_rfl):evS s y=some w:=e▸h
theorem Ct{A B:aH}(h:A=B:=by kernel_rfl):A.Perm B:=h▸bG _
theorem Cs{A B:aH}(h:A=B:=by kernel_rfl):A=B++[]:=h.trans (M1 B).symm
theorem zs{x y:Code}(h:SXC P n W0 (NO (λs U σ=>SXC P n W0 Q y s U σ) Q) x s U σ):SXC P n W0 Q (.seq x y) s U σ:=Yl h
theorem zr{a:Nat}{l:List Oper}(h:SXL P n W0 Q l.toArray l s U σ):SXC P n W0 Q (.region a l.toArray false) s U σ:=EO h
theorem zn(h:Q .normal s U σ):SXL P n W0 Q ops [] s U σ:=Gi h
theorem zk(h:Q .normal s U σ):SXC P n W0 Q .skip s U σ:=Kj h
theorem zq(k:Nat)(a:SXL P n W0 Q ops (l.drop k) (nxS P n ops σ (List.replicate k 0) l s) U σ)(h:nxT P n ops σ (List.replicate k 0) l s=some (tt [],tt []):=by kernel_rfl):SXL P n W0 Q ops l s U σ:=cF _ [] (by rw[bZ];exact a) h
theorem zB{d:Nat}{y:Code}{l:List Oper}(ks:List Nat)(T:List (Nat×Nat))(a:SXL P n W0 (NO (λs U σ=>SXC P n W0 Q y s U σ) Q) l.toArray (l.drop ks.length) (nxS P n l.toArray σ ks l s) U σ)(h:nxT P n l.toArray σ ks l s=some (tt T,tt T):=by kernel_rfl):SXC P n W0 Q (.seq (.region d l.toArray false) y) s U σ:=Yl (EO (cF ks T a h))
theorem zQ{d:Nat}{y:Code}{l:List Oper}(k:Nat)(a:SXL P n W0 (NO (λs U σ=>SXC P n W0 Q y s U σ) Q) l.toArray (l.drop k) (nxS P n l.toArray σ (List.replicate k 0) l s) U σ)(h:nxT P n l.toArray σ (List.replicate k 0) l s=some (tt [],tt []):=by kernel_rfl):SXC P n W0 Q (.seq (.region d l.toArray false) y) s U σ:=Yl (EO (zq k a h))
theorem rIx{t : TypeId}(e : TypeId){x h : Operand}(ho : o.op = .indexAddr t x h)(b f a d i j : Nat)(g : i < a := by first | assumption | omega)(u : evS s x = some (.slice (some ⟨b, f, none⟩) a d) := by kernel_rfl)(k : evS s h = some (.int .i64 (i : Int)) := by kernel_rfl)
  (r:P.underlying t=some (.slice e):=by kernel_rfl) (hs:(P.info? e).map (·.size)=some j:=by kernel_rfl):∀W:World,(execOp (ev s) o).run P W=.ok (.value (.pointer (some ⟨b,f+i*j,none⟩))) W:=jP t e x h ho b f a d i j .i64 u k g r hs
theorem i6v{x:Int}(h: -9223372036854775808<=x/\x<=9223372036854775807:=by first|omega|(simp only[go_num];omega)):Value.int .i64 (IntKind.i64.wrap x)=.int .i64 x:=M0 (Value.int .i64) (IntWalk.i64_in _ h)
theorem zU(b f : Nat)(cs : List Value)(j : U.range b f cs)(g : TypeId)(x : Operand)(d : TypeDesc)(u : P.underlying g = some d)(a : d.isRow = true)
  (h:SXL P n W0 Q ops l (lQ o (.agg cs.toArray) s) U σ) (ho:o.op=.load g x:=by rfl) (B:evS s x=some (.pointer (some ⟨b,f,none⟩)):=by kernel_rfl) (r:(P.info? g).map (·.size)=some cs.length:=by kernel_rfl) (k:fF n o=true:=by kernel_rfl) (A:dA ops s o=some true:=by kernel_rfl):SXL P n W0 Q ops (o::l) s U σ:=Gh b f cs j g x ho B d u a r k A h
theorem zV(b f : Nat)(v : Value)(j : U ⟨b, f, none⟩ = some v)(g : TypeId)(x : Operand)(d : TypeDesc)(r : P.underlying g = some d)(a : d.isRow = false)
  (h:SXL P n W0 Q ops l (lQ o v s) U σ) (ho:o.op=.load g x:=by rfl) (A:evS s x=some (.pointer (some ⟨b,f,none⟩)):=by kernel_rfl) (k:fF n o=true:=by kernel_rfl) (u:dA ops s o=some true:=by kernel_rfl):SXL P n W0 Q ops (o::l) s U σ:=Kg b f v j g x ho A d r a k u h
theorem dC{f : FuncId}{g : Func}{c : Code}{d : List Value}{W : World}{R : Ending -> World -> Prop}{U : View}(n : Nat)(u : P.funcs[f]? = some g)(k : ∀ a v, U a = some v -> W.cell? a = some v)(h : SXC P n ⟨W, U⟩ (Sk P n ⟨W, U⟩ g R) c (Lm 0 d) U [])
  (r:g.body=some c:=by rfl) (A:g.ntmps=n:=by rfl) (j:Nat.ble d.length n=true:=by rfl):Calls P f d.toArray W R:=US n U u r A j k h
theorem dF{f : FuncId}{d : Func}{c : Code}{a : List Value}{W : World}{R : Ending -> World -> Prop}(n : Nat)(k : P.funcs[f]? = some d)(h : SXC P n ⟨W, View.no⟩ (Sk P n ⟨W, View.no⟩ d R) c (Lm 0 a) View.no [])
  (j:d.body=some c:=by rfl) (r:d.ntmps=n:=by rfl) (g:Nat.ble a.length n=true:=by rfl):Calls P f a.toArray W R:=US n View.no k j r g (λ_ _ h=>by cases h) h
def Jt(P:Program)(s:cA)(σ:aH):List ResultVar->List Nat->Option (List Value×List (Nat×Option Nat)×List (Nat×Option Nat))
 | [],[]=>some ([],[],[])
 | .tmp t::rs,0::ks=>match look s t,Jt P s σ rs ks with
  |some v,some (vs,x,y)=>some (v::vs,x,y)
  |_,_=>none
 | .cell c ty::rs,(k+1)::ks=>match OG P σ k s c ty,Jt P s σ rs ks with
  |some (v,r,b),some (vs,x,y)=>some (v::vs,r++x,r.map (λ_=>(b,none))++y)
  |_,_=>none
 |_,_=>none
theorem LP:∀(a:List ResultVar) (ks:List Nat) (vs:List Value) (x:List (Nat×Option Nat)),Jt P s σ a ks=some (vs,x,x)->HU P s σ a vs
 | [],[],vs,x,h=>by
  simp only[Jt,L0,N3]at h;rw[<-h.1];trivial
 | .tmp t::a,0::ks,vs,x,h=>by
  simp only[Jt]at h;split at h
  ·next v g j C f d=>
   simp only[L0,N3]at h;obtain⟨rfl,rfl,rfl⟩:=h;exact⟨f,LP a ks _ _ d⟩
  ·cases h
 | .cell c ty::a,(k+1)::ks,vs,x,h=>by
  simp only[Jt]at h;split at h
  ·next v r b g j C f d=>
   simp only[L0,N3]at h;obtain⟨rfl,rfl,B⟩:=h;obtain⟨u,A⟩:=bn B (by simp);exact⟨⟨k,b,r.length,by rw[f];exact M0 (λz=>some (v,z,b)) (u.symm.trans (bo ..))⟩,LP a ks _ j (by rw[d,A])⟩
  ·cases h
 | [],_::_,_,_,h=>by cases h
 | .tmp _::_,[],_,_,h=>by cases h
 | .cell _ _::_,[],_,_,h=>by cases h
 | .tmp _::_,(_+1)::_,_,_,h=>by cases h
 | .cell _ _::_,0::_,_,_,h=>by cases h
theorem dW{a:Func}{R:Ending->World->Prop}(ks:List Nat)(T:List (Nat×Nat))(vs:List Value)(h:∀W,Mem W0 U σ W->R (.returned (dD vs)) W)(d:Jt P s σ a.results.toList ks=some (vs,tt T,tt T):=by kernel_rfl):Sk P n W0 a R .ret s U σ:=
 BM _ vs rfl (LP _ ks vs _ d) h
theorem jn{α:Type}{A C D:α->Prop}(x:α)(a:A x)(c:C x:=by exact sC _ _ kR)(d:D x:=by exact λ_ h=>h.eqv kR):∃x,A x/\C x/\D x:=⟨x,a,c,d⟩
theorem nx{α:Type}{A B C D:α->Prop}(x:α)(a:A x)(b:B x)(c:C x:=by exact sC _ _ kR)(d:D x:=by exact λ_ h=>h.eqv kR):∃x,A x/\B x/\C x/\D x:=⟨x,a,b,c,d⟩
theorem dH(t:Nat)(x:Int)(h:SXL P n W0 Q ops l ((t,.int .i64 x)::s) U σ)(a:look s t=some (.int .i64 (IntKind.i64.wrap x)):=by kernel_rfl)(d: -9223372036854775808<=x/\x<=9223372036854775807:=by first|omega|(simp only[go_num];omega)):SXL P n W0 Q ops l s U σ:=
 Ke t _ _ a (M0 (Value.int .i64) (IntWalk.i64_in _ d)) h
theorem dN{f:FuncId}{a:Array Value}{v:Value}(d:∀W,Mem W0 U σ W->Calls P f a W (Ret v W))(h:SXL P n W0 Q ops l (lQ o v s) U σ)(j:enters P s o=some (f,a):=by kernel_rfl)(g:fF n o=true:=by kernel_rfl)(k:dA ops s o=some true:=by kernel_rfl):SXL P n W0 Q ops (o::l) s U σ:=
 RE f a v j d g k h
theorem lU{f : FuncId}{a : Array Value}{Φ : Value -> View -> Prop}(d : ∀ W, Mem W0 U σ W -> Calls P f a W (fV W U Φ))
  (h:∀v V,View.le U V->Φ v V->SXL P n W0 Q ops l (lQ o v s) V σ) (j:enters P s o=some (f,a):=by kernel_rfl) (g:fF n o=true:=by kernel_rfl) (k:dA ops s o=some true:=by kernel_rfl):SXL P n W0 Q ops (o::l) s U σ:=
 UW f a Φ j d g k h
theorem gC{a:Func}{v:Value}{w:World}(t:Nat)(f:∀W,Mem W0 U σ W->Below w.heap.size w W:=by exact λ_ h=>h.below)(j:look s t=some v:=by kernel_rfl)(g:a.results.toList=[.tmp t]:=by rfl):Sk P n W0 a (Ret v w) .ret s U σ:=
 BM [.tmp t] [v] g ⟨j,trivial⟩ λW d=>⟨rfl,f W d⟩
theorem eF{α : Type}{c : Code}(Sf : α -> cA)(Uf : α -> View)(Of : α -> aH)(a : α -> Prop)(μ : α -> Nat)(f : α)(j : a f)
  (round:∀x,a x->SXC P n W0 (NO (λs' g σ'=>∃d,a d/\μ d<μ x/\(∀t v,look (Sf d) t=some v->look s' t=some v)/\(∀W,Mem W0 g σ' W->Mem W0 (Uf d) (Of d) W)) Q) c (Sf x) (Uf x) (Of x))
  (hs:∀t v,look (Sf f) t=some v->look s t=some v:=by exact sC _ _ kR) (hm:∀W,Mem W0 U σ W->Mem W0 (Uf f) (Of f) W:=by exact λ_ h=>h.eqv kR):SXC P n W0 Q (.loop c) s U σ:=Kh Sf Uf Of a μ f j hs hm round
end
end Go.Proofs.YtkoamlfiijcecaaGreatDoor.Sx
