/-
  Several texts in one: Sx4 Dat Sx5 Sx6 Open Open2 Slc Stp Itm SxI.
  Conditions: named at each.
-/
import Derived.Test.YtcdjakemdlinhaaGreatDoorG01
import Derived.Deep.AppendLies
import Derived.Deep.Slices
import Derived.Deep.MidRow
import Derived.SizedLaws
set_option maxHeartbeats 16000000
set_option linter.unusedSimpArgs false
set_option linter.unusedVariables false
set_option linter.unusedSectionVars false
namespace Go.Proofs.YtcdjakemdlinhaaGreatDoor.Sx
open Go.ChangeShapes Go.WideShapes Go.ChangeAt Go.RowKit Go.Deep
section
variable {P:Program} {n:Nat} {W0:Cx} {Q:XQ} {s:aZ} {U:View} {σ:aN} {ops:Array Oper} {l:List Oper} {o:Oper}
def aLP(P : Program)(n : Nat)(ops : Array Oper)(σ : aN) : List (Option Nat) → List Oper → aZ → Option (aZ × List (Nat × Option Nat) × List (Nat × Option Nat))
 | [],_,s=>some (s,[],[])
 |k::ks,o::l,s=>match eX n o,cU ops s o with
  |true,some true=>match k with
   |none=>match quiet P s o with
    |some v=>aLP P n ops σ ks l (lT o v s)
    |none=>none
   |some k=>match σ[k]? with
    |some (b,.cells c _ (0,0))=>match reads P c.toList s o with
     |some (v,rs)=>match aLP P n ops σ ks l (lT o v s)with
      |some (s',x,y)=>some (s',rs++x,rs.map (fun _=>(b,none))++y)
      |none=>none
     |none=>none
    |_=>none
  |true,some false=>aLP P n ops σ ks l (lT o undef s)
  |_,_=>none
 |_::_,[],_=>none
theorem aBb : ∀ (ks : List (Option Nat)) (l : List Oper) (s s' : aZ) (x : List (Nat × Option Nat)), aLP P n ops σ ks l s = some (s', x, x) → SXL P n W0 Q ops (l.drop ks.length) s' U σ → SXL P n W0 Q ops l s U σ
 | [],l,s,s',x,h,hn=>by
  simp only[aLP,Ab,Am]at h;rw[h.1];simpa using hn
 |k::ks,[],s,s',x,h,hn=>by cases h
 |k::ks,o::l,s,s',x,h,hn=>by
  simp only[aLP]at h;rw[Ah,Fb]at hn;split at h
  ·next g j=>
   split at h
   ·split at h
    ·next v F=>
     refine⟨fun a W d r=>wpList_step fun K q=>?_⟩;rw[Ar (lE d j)];unfold Oper.wp;rw[mY d F];exact q _ _ ((aBb ks l _ s' x h hn).go _ _ (eL d g) r)
    ·cases h
   ·split at h
    ·next k b c t D=>
     split at h
     ·next v u E=>
      split at h
      ·next I G J B=>
       simp only[Ab,Am]at h;obtain⟨rfl,rfl,C⟩:=h;have f:(u.map fun _=>((b,none):Nat×Option Nat)).length=u.length:=by simp
       obtain⟨y,A⟩:=Ha C f;refine aQF _ b u.length c.toList t v (by simpa using D) (by rw[E];exact Ag (fun z=>some (v,z)) (y.symm.trans (Hc ..))) g j ?_;exact aBb ks l _ _ G (by rw[B,A]) hn
      ·cases h
     ·cases h
    ·cases h
  ·next g j=>
   refine⟨fun a W d r=>wpList_step fun K q=>?_⟩;rw[An (by rw[lE d j];decide)];exact q _ _ ((aBb ks l _ s' x h hn).go _ _ (eL d g) r)
  ·cases h
def tt : List (Nat × Nat) → List (Nat × Option Nat)
 | []=>[]
 |(b,m)::r=>List.replicate m (b,none)++tt r
def aNc(P:Program)(n:Nat)(ops:Array Oper)(σ:aN)(ks:List (Option Nat))(l:List Oper)(s:aZ)(ts:List Nat):Option (List (Option Value)×List (Nat×Option Nat)×List (Nat×Option Nat)):=match aLP P n ops σ ks l s with
 |some (s',x,y)=>some (ts.map fun t=>look s' t,x,y)
 |none=>none
theorem aRH(ks:List (Option Nat))(ts:List Nat)(vs:List Value)(T:List (Nat×Nat))(h:aNc P n ops σ ks l s ts=some (vs.map some,tt T,tt T))(g:SXL P n W0 Q ops (l.drop ks.length) (ts.zip vs) U σ):SXL P n W0 Q ops l s U σ:=by
 unfold aNc at h;split at h
 ·next q x y j=>
  simp only[Ab,Am]at h;obtain⟨d,rfl,rfl⟩:=h;exact aBb ks l s q _ j ⟨fun a W c f=>g.go a W ⟨c.size,c.defers,fun t v k=>c.slots t v (qR ts vs d t v k)⟩ f⟩
 ·cases h
def stK(P:Program)(σ:aN)(k:Nat)(s:aZ)(o:Oper):Option (Nat×Nat×Obj):=match o.op with
 | .store ty x y=>match evS s x,evS s y,σ[k]? with
  |some (.pointer (some ⟨pb,off,none⟩)),some v,some (b,.cells c t (0,0))=>match rG P ty v v.cells.size&&Nat.ble (off+v.cells.size) c.size with
   |true=>some (pb,b,.cells (cK c.toList off v.cells.toList).toArray t (0,0))
   |false=>none
  |_,_,_=>none
 |_=>none
theorem aRl(k b:Nat)(x:Obj)(h:stK P σ k s o=some (b,b,x))(f:o.dst=none)(r:cU ops s o=some true)(j:SXL P n W0 Q ops l s U (σ.set k (b,x))):SXL P n W0 Q ops (o::l) s U σ:=by
 unfold stK at h;split at h
 ·next B C y q=>
  split at h
  ·next E d v D c t u A g=>
   split at h
   ·next a=>
    simp only[Ab,Am]at h;obtain⟨rfl,rfl,rfl⟩:=h;rw[Ae]at a;refine aNP k _ d v.cells.size c.toList t B v C y q u A (by simpa using g) a.1 (by simpa using a.2) (by unfold eX;rw[f]) r ?_;unfold lT;rw[f];exact j
   ·cases h
  ·cases h
 ·cases h
theorem aPf(v:Value)(j:known s o=true)(c:∀W:World,(execOp (ev s) o).run P W=.ok (.value v) W)(f:eX n o=true)(q:cU ops s o=some true)(k:SXL P n W0 Q ops l (lT o v s) U σ):SXL P n W0 Q ops (o::l) s U σ:=by
 refine pN f q fun a W d h K g=>?_
 unfold Oper.wp;rw[fW d j,c];exact g _ _ _ _ _ k (eL d f) h
theorem dY{x:Operand}{v:Value}(h:evS s x=some v):ev s x=v:=by unfold ev;rw[h];rfl
theorem lR(t e : TypeId)(x j : Operand)(y : o.op = .indexAddr t x j)(b f a d i h : Nat)(k : IntKind)(B : evS s x = some (.slice (some ⟨b, f, none⟩) a d))(r : evS s j = some (.int k (i : Int)))(u : i < a)
  (A:P.underlying t=some (.slice e)) (c:(P.info? e).map (·.size)=some h) (W:World):(execOp (ev s) o).run P W=.ok (.value (.pointer (some ⟨b,f+i*h,none⟩))) W:=by
 have C:(sizeOf e).run P W=.ok h W:=by
  cases g:P.info? e with
  |none=>rw[g]at c;cases c
  |some inf=>
   rw[g]at c;simp only[Di,Ab]at c;simp[sizeOf,typeInfo,g,c]
 unfold execOp;simp only[y,dY B,dY r,Instr.indexAt,asIntOf,Sem.run_bind,Sem.run_pure,Result.andThen_ok,run_underlying A W];have q:(0:Int)≤(i:Int)∧(i:Int)<((a:Nat):Int):=⟨by omega,by omega⟩;rw[Ar q];simp only[Sem.run_bind,C,Result.andThen_ok,Sem.run_pure,Cr,Addr.add_mid]
theorem cB(tp j:TypeId)(x y:Operand)(d:o.op=.binOp .add tp x y j)(a b:List UInt8)(f:evS s x=some (.string (B a)))(g:evS s y=some (.string (B b)))(c:a.length+b.length≤9223372036854775807)(W:World):(execOp (ev s) o).run P W=.ok (.value (.string (B (a++b)))) W:=by
 have h:=run_string_add_sum (P:=P) W (B a) (B b) (by rw[rE,rE];exact c);rw[aMZ]at h;unfold execOp;simp only[d,dY f,dY g,binOp,Sem.run_bind,eqGuard];simp only[show((BinOp.add matches .eql| .neq)=true)=False from by simp,Bool.not_false,if_true,Sem.run_pure,Result.andThen_ok,h]
theorem iR(tp g:TypeId)(x y:Operand)(c:o.op=.binOp .eql tp x y g)(a b:List UInt8)(d:evS s x=some (.string (B a)))(f:evS s y=some (.string (B b)))(W:World):(execOp (ev s) o).run P W=.ok (.value (.bool (a==b))) W:=by
 unfold execOp;simp[c,dY d,dY f,binOp,eqGuard,Op.stringOp,aA6]
theorem lQ(tp g:TypeId)(x y:Operand)(c:o.op=.binOp .neq tp x y g)(a b:List UInt8)(d:evS s x=some (.string (B a)))(f:evS s y=some (.string (B b)))(W:World):(execOp (ev s) o).run P W=.ok (.value (.bool (!(a==b)))) W:=by
 unfold execOp;simp[c,dY d,dY f,binOp,eqGuard,Op.stringOp,aA6]
end
theorem aRp{P:Program}{s:aZ}{σ:aN}{t:Nat}{v:Value}(h:look s t=some v):aDb P s σ (.tmp t) v:=h
theorem aRI{P:Program}{s:aZ}{σ:aN}{x:Nat}{a:TypeId}{v:Value}(k b m:Nat)(h:aEh P σ k s x a=some (v,List.replicate m (b,none),b)):aDb P s σ (.cell x a) v:=⟨k,b,m,h⟩
def View.no:View:=fun _=>none
theorem sD{P : Program}{n : Nat}{W0 : Cx}{c : Func}{R : Ending → World → Prop}{s : aZ}{U : View}{σ : aN}(a : List ResultVar)(vs : List Value)(d : c.results.toList = a)(f : aB2 P s σ a vs)
  (h:∀W,Mem W0 U σ W→R (.returned (dC vs)) W):aLm P n W0 c R .normal s U σ:=aCj a vs d f h
theorem obR{P : Program}{n : Nat}{W0 : Cx}{s : aZ}{U : View}{σ : aN}{ops : Array Oper}{ds : List Nat}{vs : List Sp}(i : Nat){o : Oper}(j : ops[i]? = some o)(v : Value)(d : vs[i]? = some (.val v))(k : known (mQ ops ds vs i ++ aV s ds) o = true)
  (c:∀W:World,(execOp (ev (mQ ops ds vs i++aV s ds)) o).run P W=.ok (.value v) W) (q:cU ops (mQ ops ds vs i++aV s ds) o=some true):Ob P n W0 U σ ops ds vs s i:=
 Ob.op i j _ d q fun a W h g Q K f=>by
  unfold Oper.wp;rw[fW h k,c];exact f v W rfl g (Below.refl _ _)
theorem u64_in{x:Int}(a:0≤x)(c:x<18446744073709551616):IntKind.u64.wrap x=x:=by
 simp[IntKind.wrap,IntKind.bits,IntKind.signed];omega
def drX{α : Type}(P : Program)(ops : Array Oper)(σ : aN)(dep : List α → Nat → aZ)(inj : Value → α) : List Nat → List α → Nat → List α → Option (List α × List (Nat × Option Nat) × List (Nat × Option Nat))
 | [],_,_,acc=>some (acc,[],[])
 |0::ks,tv,i,acc=>match ops[i]? with
  |some o=>match cU ops (dep acc i) o with
   |some true=>match quiet P (dep acc i) o with
    |some v=>drX P ops σ dep inj ks tv (i+1) (acc++[inj v])
    |none=>none
   |_=>none
  |none=>none
 |1::ks,t::tv,i,acc=>drX P ops σ dep inj ks tv (i+1) (acc++[t])
 |1::_,[],_,_=>none
 |2::ks,tv,i,acc=>match ops[i]? with
  |some o=>match cU ops (dep acc i) o with
   |some false=>drX P ops σ dep inj ks tv (i+1) (acc++[inj undef])
   |_=>none
  |none=>none
 |(k+3)::ks,tv,i,acc=>match ops[i]?,σ[k]? with
  |some o,some (b,.cells c _ (0,0))=>match cU ops (dep acc i) o with
   |some true=>match reads P c.toList (dep acc i) o with
    |some (v,rs)=>match drX P ops σ dep inj ks tv (i+1) (acc++[inj v])with
     |some (vs,x,y)=>some (vs,rs++x,rs.map (fun _=>(b,none))++y)
     |none=>none
    |none=>none
   |_=>none
  |_,_=>none
def obT{α : Type}(O : Nat → α → Prop) : Nat → List Nat → List α → Prop
 |i,1::ks,t::tv=>O i t∧obT O (i+1) ks tv
 |i,_::ks,tv=>obT O (i+1) ks tv
 |_,[],_=>True
def aHs{α : Type}(P : Program)(ops : Array Oper)(σ : aN)(dep : List α → Nat → aZ)(inj : Value → α)(vs : List α)(i : Nat) : Nat → Prop
 |0=>∃o v,ops[i]? =some o∧cU ops (dep vs i) o=some true∧quiet P (dep vs i) o=some v∧vs[i]? =some (inj v)
 |1=>True
 |2=>∃o,ops[i]? =some o∧cU ops (dep vs i) o=some false∧vs[i]? =some (inj undef)
 |k+3=>∃o v b c t m,ops[i]? =some o∧σ[k]? =some (b,.cells c t (0,0))∧cU ops (dep vs i) o=some true∧reads P c.toList (dep vs i) o=some (v,List.replicate m (b,none))∧vs[i]? =some (inj v)
theorem aBM{α : Type}{P : Program}{ops : Array Oper}{σ : aN}{c : List α → Nat → aZ}{d : Value → α} : ∀ (ks : List Nat) (tv : List α) (i : Nat) (a : List α) {vs : List α} {x y : List (Nat × Option Nat)}, drX P ops σ c d ks tv i a = some (vs, x, y) → ∃ r, vs = a ++ r
 | [],tv,i,a,vs,x,y,h=>by
  simp only[drX,Ab,Am]at h;exact⟨[],by rw[Aj,h.1]⟩
 |0::ks,tv,i,a,vs,x,y,h=>by
  simp only[drX]at h;split at h
  ·split at h
   ·split at h
    ·obtain⟨r,rfl⟩:=aBM ks tv _ _ h;exact⟨_,Al ..⟩
    ·cases h
   ·cases h
  ·cases h
 |1::ks,t::tv,i,a,vs,x,y,h=>by
  simp only[drX]at h;obtain⟨r,rfl⟩:=aBM ks tv _ _ h;exact⟨_,Al ..⟩
 |1::ks,[],i,a,vs,x,y,h=>by cases h
 |2::ks,tv,i,a,vs,x,y,h=>by
  simp only[drX]at h;split at h
  ·split at h
   ·obtain⟨r,rfl⟩:=aBM ks tv _ _ h;exact⟨_,Al ..⟩
   ·cases h
  ·cases h
 |(k+3)::ks,tv,i,a,vs,x,y,h=>by
  simp only[drX]at h;split at h
  ·split at h
   ·split at h
    ·split at h
     ·next f=>
      simp only[Ab,Am]at h;obtain⟨rfl,_,_⟩:=h;obtain⟨r,rfl⟩:=aBM ks tv _ _ f;exact⟨_,Al ..⟩
     ·cases h
    ·cases h
   ·cases h
  ·cases h
def tlk{α : Type} : List Nat → List α → Nat → Option α
 |1::_,t::_,0=>some t
 |1::ks,_::tv,j+1=>tlk ks tv j
 |_::ks,tv,j+1=>tlk ks tv j
 |_,_,_=>none
theorem tZ{α : Type}{O : Nat → α → Prop} : ∀ (ks : List Nat) (tv : List α) (i j : Nat) (t : α), obT O i ks tv → tlk ks tv j = some t → O (i + j) t
 | [],tv,i,j,t,a,h=>by cases j<;>cases h
 |0::ks,tv,i,0,t,a,h=>by cases h
 |0::ks,tv,i,j+1,t,a,h=>by have:=tZ ks tv (i+1) j t a h;rwa[Dt,Eb 1]at this
 |1::ks,[],i,0,t,a,h=>by cases h
 |1::ks,[],i,j+1,t,a,h=>by have:=tZ ks [] (i+1) j t a h;rwa[Dt,Eb 1]at this
 |1::ks,x::tv,i,0,t,a,h=>by cases h;exact a.1
 |1::ks,x::tv,i,j+1,t,a,h=>by have:=tZ ks tv (i+1) j t a.2 h;rwa[Dt,Eb 1]at this
 |(k+2)::ks,tv,i,0,t,a,h=>by cases h
 |(k+2)::ks,tv,i,j+1,t,a,h=>by have:=tZ ks tv (i+1) j t a h;rwa[Dt,Eb 1]at this
theorem qQ{α : Type}{O c : Nat → α → Prop}(h : ∀ i t, O i t → c i t) : ∀ (ks : List Nat) (tv : List α) (i : Nat), obT O i ks tv → obT c i ks tv
 | [],tv,i,_=>trivial
 |0::ks,tv,i,a=>qQ h ks tv (i+1) a
 |1::ks,[],i,a=>qQ h ks [] (i+1) a
 |1::ks,_::tv,i,a=>⟨h _ _ a.1,qQ h ks tv (i+1) a.2⟩
 |(k+2)::ks,tv,i,a=>qQ h ks tv (i+1) a
theorem aNm{α:Type}{P:Program}{ops:Array Oper}{σ:aN}{d:List α→Nat→aZ}{A:Value→α}{m:Nat}{vs:List α}(y:∀(a r:List α),a.length<m→d (a++r) a.length=d a a.length):
  ∀(ks:List Nat) (tv:List α) (a:List α) (x:List (Nat×Option Nat)),a.length+ks.length≤m→drX P ops σ d A ks tv a.length a=some (vs,x,x)→∀j k,ks[j]? =some k→(k=1∧∃t,tlk ks tv j=some t∧vs[a.length+j]? =some t)∨(k≠1∧aHs P ops σ d A vs (a.length+j) k):=by
 intro ks
 induction ks with
 |nil=>intro tv a x _ _ j k f;simp at f
 |cons Y ks ih=>
  intro tv a x X h;rw[Ah]at X;have g:∀{z:α} {r:List α},(a++(z::r))[a.length+0]? =some z:=by intro z r;rw[Df,Bm (Bg _),Dc];rfl
  have next:∀{B:List α} {z:α} {G:List (Nat×Option Nat)},drX P ops σ d A ks B (a.length+1) (a++[z])=some (vs,G,G)→(∃r,vs=a++(z::r))∧∀j k,ks[j]? =some k→(k=1∧∃t,tlk ks B j=some t∧vs[a.length+(j+1)]? =some t)∨(k≠1∧aHs P ops σ d A vs (a.length+(j+1)) k):=by
   intro B z G I;have J:(a++[z]).length=a.length+1:=by rw[Ac];rfl
   obtain⟨r,u⟩:=aBM _ _ _ _ I;refine⟨⟨r,by rw[u,Al];rfl⟩,fun j k f=>?_⟩;have:=ih B (a++[z]) G (by rw[J];omega) (by rw[J];exact I) j k f;rwa[J,Dt,Eb 1]at this
  match Y,tv,h with
  |0,tv,h=>
   simp only[drX]at h;split at h
   ·next o E=>
    split at h
    ·next F=>
     split at h
     ·next v K=>
      obtain⟨⟨r,u⟩,D⟩:=next h
      have C:d vs a.length=d a a.length:=by rw[u];exact y a _ oW
      intro j k f;cases j with
      |zero=>cases f;exact .inr ⟨by decide,o,v,E,by rw[Df,C];exact F,by rw[Df,C];exact K,by rw[u];exact g⟩
      |succ j=>exact D j k f
     ·cases h
    ·cases h
   ·cases h
  |1,[],h=>cases h
  |1,t::tv,h=>
   simp only[drX]at h;obtain⟨⟨r,u⟩,D⟩:=next h
   intro j k f;cases j with
   |zero=>cases f;exact .inl ⟨rfl,t,rfl,by rw[u];exact g⟩
   |succ j=>exact D j k f
  |2,tv,h=>
   simp only[drX]at h;split at h
   ·next o E=>
    split at h
    ·next F=>
     obtain⟨⟨r,u⟩,D⟩:=next h
     have C:d vs a.length=d a a.length:=by rw[u];exact y a _ oW
     intro j k f;cases j with
     |zero=>cases f;exact .inr ⟨by decide,o,E,by rw[Df,C];exact F,by rw[u];exact g⟩
     |succ j=>exact D j k f
    ·cases h
   ·cases h
  |q+3,tv,h=>
   simp only[drX]at h;split at h
   ·next o b c ty E V=>
    split at h
    ·next F=>
     split at h
     ·next v Z K=>
      split at h
      ·next M G y2 I=>
       simp only[Ab,Am]at h;obtain⟨rfl,rfl,L⟩:=h;obtain⟨N,O⟩:=Ha L (by simp);subst O;obtain⟨⟨r,u⟩,D⟩:=next I
       have C:d M a.length=d a a.length:=by rw[u];exact y a _ oW
       intro j k f;cases j with
       |zero=>cases f;exact .inr ⟨by omega,o,v,b,c,ty,Z.length,E,V,by rw[Df,C];exact F,by rw[Df,C,K];exact Ag (fun z=>some (v,z)) (N.symm.trans (Hc ..)),by rw[u];exact g⟩
       |succ j=>exact D j k f
      ·cases h
     ·cases h
    ·cases h
   ·cases h
theorem aDp{O : Nat → Prop} : ∀ (m i : Nat), (∀ j, j < m → O (i + j)) → Go.Proofs.YtcdjakemdlinhaaGreatDoor.Steps O i m
 |0,_,_=>trivial
 |m+1,i,h=>⟨h 0 oW,aDp m (i+1) fun j a=>by have:=h (j+1) oW;rwa[Eb j,←Dt]at this⟩
theorem aHj{ops:Array Oper}{m i j:Nat}(h:fI .any ops m=true)(g:i<m)(a:cJ .any ops i j=true):j<i:=by
 unfold fI at h;have h:=Ao.1 h i (Cm.2 g);unfold cJ at a;cases c:ops[i]? with
 |none=>rw[c]at a;cases a
 |some o=>
  rw[c]at h a;simp only[Di,Fw,Fi,Ao,Ae,Dg,Bi,Ak,Cy]at h a;obtain⟨e,f,d,rfl⟩:=a;rcases h e f with h|h
  ·rw[d]at h;cases h
  ·exact h
theorem aMF{ops:Array Oper}{ds:List Nat}(a r:List Sp)(h:∀j,cJ .any ops a.length j=true→j<a.length):mQ ops ds (a++r) a.length=mQ ops ds a a.length:=by
 unfold mQ;congr 1;funext j;cases c:cJ .any ops a.length j with
 |false=>rfl
 |true=>rw[Bp (h j c)]
section
variable {P:Program} {n:Nat} {W0:Cx} {Q:XQ} {s:aZ} {U:View} {σ:aN} {ops:Array Oper} {ds:List Nat}
def dsO(l:List Oper)(m:Nat):List Nat:=(l.take m).map fun o=>o.dst.getD 0
def drA(P:Program)(l:List Oper)(σ:aN)(ks:List Nat)(tv:List Sp)(s:aZ):=drX P l.toArray σ (fun acc i=>mQ l.toArray (dsO l ks.length) acc i++aV s (dsO l ks.length)) .val ks tv 0 []
def dvO(P:Program)(l:List Oper)(σ:aN)(ks:List Nat)(tv:List Sp)(s:aZ):List Sp:=match drA P l σ ks tv s with
 |some (vs,_,_)=>vs
 |none=>[]
def dtO(P:Program)(l:List Oper)(σ:aN)(ks:List Nat)(tv:List Sp)(s:aZ):Option (List (Nat×Option Nat)×List (Nat×Option Nat)):=match drA P l σ ks tv s with
 |some (_,x,y)=>some (x,y)
 |none=>none
def dxO(P:Program)(l:List Oper)(σ:aN)(ks:List Nat)(tv:List Sp)(s:aZ):aZ:=aMz (dsO l ks.length) (dvO P l σ ks tv s)++aV s (dsO l ks.length)
def aOW(P:Program)(n:Nat)(l:List Oper)(m r:Nat):Bool:=P.follows .mixedOrders&&Nat.ble m l.length&&oJ l.toArray (dsO l m)&&nodupB (dsO l m)&&((dsO l m).all fun d=>Nat.blt d n)&&fI .any l.toArray m&&lM .any l.toArray m r&&jY l.toArray m (l.length-m)
theorem aGo{l:List Oper}{m:Nat}(h:m≤l.length):(dsO l m).length=m:=by unfold dsO;rw[Az,Bb];omega
def Ow(P:Program)(n:Nat)(W0:Cx)(U:View)(σ:aN)(ops:Array Oper)(ds:List Nat)(vs:List Sp)(s:aZ)(i:Nat)(t:Sp):Prop:=vs[i]? =some t→Ob P n W0 U σ ops ds vs s i
theorem iM{L : Nat}{l : List Oper}(r : Nat)(ks : List Nat)(T : List (Nat × Nat))(tv : List Sp)(u : obT (Ow P n W0 U σ l.toArray (dsO l ks.length) (dvO P l σ ks tv s) s) 0 ks tv)(h : SXL P n W0 Q l.toArray (l.drop ks.length) (dxO P l σ ks tv s) U σ)
  (A:dtO P l σ ks tv s=some (tt T,tt T):=by kernel_rfl) (a:aOW P n l ks.length r=true:=by kernel_rfl):SXC P n W0 Q (.region L l.toArray true) s U σ:=by
 unfold aOW at a;simp only[Ae]at a;obtain⟨⟨⟨⟨⟨⟨⟨M,G⟩,N⟩,O⟩,V⟩,I⟩,X⟩,Y⟩:=a;have G:=Cw G;refine aLD ks.length (l.length-ks.length) r (dsO l ks.length) (dvO P l σ ks tv s) M oW (aGo G) N O V I X Y ?_ h;unfold dtO at A;unfold dvO at u ⊢;cases F:drA P l σ ks tv s with
 |none=>rw[F]at A;cases A
 |some q=>
  obtain⟨vs,x,y⟩:=q;rw[F]at A u;simp only[Ab,Am]at A;obtain⟨rfl,rfl⟩:=A;refine aDp _ _ fun j E=>?_
  rw[Aw];have:=aNm (m:=ks.length) (fun d r K=>?_) ks tv [] _ (by simp) F j _ (Aa E)
  ·rw[show([]:List Sp).length+j=j from Aw j]at this;rcases this with⟨_,t,f,g⟩|⟨a,D⟩
   ·have:=tZ ks tv 0 j t u f;rw[Aw]at this;exact this g
   ·revert a D;generalize ks[j]=k;intro a D
    match k,a,D with
    |0,_,⟨o,v,f,g,B,C⟩=>exact obQ j f v C g B
    |1,a,_=>exact absurd rfl a
    |2,_,⟨o,f,g,B⟩=>exact obS j f B g
    |k+3,_,⟨o,v,b,c,t,m,f,g,B,C,J⟩=>exact obL j k b m c.toList t f v J (by simpa using g) B C
  ·show mQ _ _ (d++r) _++_=mQ _ _ d _++_;rw[aMF d r fun j E=>aHj I K E]
def iC(ops:Array Oper)(i:Nat):Oper:=(ops[i]?).getD default
variable {vs:List Sp} {i:Nat} {v:Value}
theorem vC(f:FuncId)(a:Array Value)(d:∀W,Mem W0 U σ W→Calls P f a W fun e W'=>e=.returned v∧Below W.heap.size W W')(h:ops[i]? =some (iC ops i):=by rfl)(g:enters P (mQ ops ds vs i++aV s ds) (iC ops i)=some (f,a):=by kernel_rfl)(j:cU ops (mQ ops ds vs i++aV s ds) (iC ops i)=some true:=by kernel_rfl):Ow P n W0 U σ ops ds vs s i (.val v):=
 fun c=>obC i f a h v c g d j
theorem vR(a:∀W:World,(execOp (ev (mQ ops ds vs i++aV s ds)) (iC ops i)).run P W=.ok (.value v) W)(d:ops[i]? =some (iC ops i):=by rfl)(f:known (mQ ops ds vs i++aV s ds) (iC ops i)=true:=by kernel_rfl)(g:cU ops (mQ ops ds vs i++aV s ds) (iC ops i)=some true:=by kernel_rfl):Ow P n W0 U σ ops ds vs s i (.val v):=
 fun c=>obR i d v c f a g
theorem vE(c:Value)(d:c=v)(f:ops[i]? =some (iC ops i):=by rfl)(h:cU ops (mQ ops ds vs i++aV s ds) (iC ops i)=some true:=by kernel_rfl)(g:quiet P (mQ ops ds vs i++aV s ds) (iC ops i)=some c:=by kernel_rfl):Ow P n W0 U σ ops ds vs s i (.val v):=
 fun a=>obQ i f v a h (d▸g)
theorem vN{c:Nat→Value}{x:Obj}(d:ops[i]? =some (iC ops i):=by rfl)(hm:makes P (mQ ops ds vs i++aV s ds) (iC ops i)=some (x,fun r=>some (c r)):=by kernel_rfl)(f:cU ops (mQ ops ds vs i++aV s ds) (iC ops i)=some true:=by kernel_rfl):Ow P n W0 U σ ops ds vs s i (.blk c x):=
 fun a=>obN i d c x a hm f
theorem vU(b f : Nat)(cs : List Value)(h : U.range b f cs)(c : TypeId)(x : Operand)(d : TypeDesc)(q : P.underlying c = some d)(a : d.isRow = true)(j : ops[i]? = some (iC ops i) := by rfl)(k : (iC ops i).op = .load c x := by rfl)(u : evS (mQ ops ds vs i ++ aV s ds) x = some (.pointer (some ⟨b, f, none⟩)) := by kernel_rfl)
  (y:(P.info? c).map (·.size)=some cs.length:=by kernel_rfl) (r:cU ops (mQ ops ds vs i++aV s ds) (iC ops i)=some true:=by kernel_rfl):Ow P n W0 U σ ops ds vs s i (.val (.agg cs.toArray)):=
 fun g=>obU i b f cs h c x j k g u d q a y r
theorem vB(j m d : Nat)(k : Nat → Value)(cs : List Value)(t : TypeId)(r : ops[i]? = some (iC ops i) := by rfl)(f : vs[j]? = some (.blk k (.cells cs.toArray t (0, 0))) := by kernel_rfl)(a : ds[j]? = some d := by rfl)(h : cJ .any ops i j = true := by kernel_rfl)(q : (iC ops i).guard = none := by rfl)
  (u:∀g,reads P cs ((d,k g)::(mQ ops ds vs i++aV s ds)) (iC ops i)=some (v,List.replicate m (g,none)):=by intro g;kernel_rfl):Ow P n W0 U σ ops ds vs s i (.val v):=
 fun c=>obB i j m r v c k cs t f d a h q u
end
structure Ei where
 s:Int
 l:List UInt8
 n:Nat
 v:Nat
structure Bk where
 t:Int
 n:Int
 f:Nat
 c:Int
 d:List UInt8
structure Pr where
 f:Nat
 c:Int
 dst:Ei
 src:Ei
 rpt:Ei
 time:Nat
 seq:Nat
 life:Nat
 off:Nat
 tot:Nat
def Ei.cs(e:Ei):List Value:=[.int .i64 e.s,.string (B e.l),.int .u64 e.n,.int .u64 e.v]
def Bk.cs(b:Bk):List Value:=[.int .i64 b.t,.int .i64 b.n,.int .u64 b.f,.int .i64 b.c,.string (B b.d)]
def Pr.cs(p:Pr):List Value:=[.int .u64 p.f,.int .i64 p.c,.int .i64 p.dst.s,.string (B p.dst.l),.int .u64 p.dst.n,.int .u64 p.dst.v,.int .i64 p.src.s,.string (B p.src.l),.int .u64 p.src.n,.int .u64 p.src.v,
 .int .i64 p.rpt.s,.string (B p.rpt.l),.int .u64 p.rpt.n,.int .u64 p.rpt.v,.int .u64 p.time,.int .u64 p.seq,.int .u64 p.life,.int .u64 p.off,.int .u64 p.tot]
def oO(p:Pr)(a:Option Addr)(n c:Nat):List Value:=[.int .u64 p.f,.int .i64 p.c,.int .i64 p.dst.s,.string (B p.dst.l),.int .u64 p.dst.n,.int .u64 p.dst.v,.int .i64 p.src.s,.string (B p.src.l),.int .u64 p.src.n,.int .u64 p.src.v,
 .int .i64 p.rpt.s,.string (B p.rpt.l),.int .u64 p.rpt.n,.int .u64 p.rpt.v,.int .u64 p.time,.int .u64 p.seq,.int .u64 p.life,.int .u64 p.off,.int .u64 p.tot,.slice a n c]
def Ei.V(e:Ei):Value:=.agg e.cs.toArray
def Bk.V(b:Bk):Value:=.agg b.cs.toArray
def Pr.V(p:Pr):Value:=.agg p.cs.toArray
def bnV(p:Pr)(a:Option Addr)(n c:Nat):Value:=.agg (oO p a n c).toArray
def W64:Nat:=18446744073709551616
def R47:Nat:=140737488355328
structure Ei.ok (e : Ei) : Prop where
 l:e.l.length≤R47
 n:e.n<W64
 v:e.v<W64
structure Bk.ok (b : Bk) : Prop where
 f:b.f<W64
 d:b.d.length≤R47
structure Pr.ok (p : Pr) : Prop where
 f:p.f<W64
 dst:p.dst.ok
 src:p.src.ok
 rpt:p.rpt.ok
 time:p.time<W64
 seq:p.seq<W64
 life:p.life<W64
 off:p.off<W64
 tot:p.tot<W64
structure cW (U : View) (a : Option Addr) (l : List Bk) : Prop where
 at_:∀i x,l[i]? =some x→∃b f,a=some ⟨b,f,none⟩∧U.range b (f+i*5) x.cs
 ok:∀x∈l,x.ok
 len:l.length≤R47
def View.le(U V:View):Prop:=∀a v,U a=some v→V a=some v
theorem View.range_le{U V:View}(h:View.le U V){b o:Nat}{cs:List Value}(a:U.range b o cs):V.range b o cs:=fun j v c=>h _ _ (a j v c)
theorem cW.le{U V:View}(h:View.le U V){a:Option Addr}{l:List Bk}(c:cW U a l):cW V a l:=
 ⟨fun i x g=>by obtain⟨b,f,e,d⟩:=c.at_ i x g;exact⟨b,f,e,View.range_le h d⟩,c.ok,c.len⟩
def Ret(v:Value)(w:World):Ending→World→Prop:=fun e w'=>e=.returned v∧Below w.heap.size w w'
theorem View.le_refl(U:View):View.le U U:=fun _ _ h=>h
theorem View.le_trans{U V T:View}(h:View.le U V)(k:View.le V T):View.le U T:=fun a v c=>k a v (h a v c)
def View.or(U V:View):View:=fun a=>(U a).or (V a)
theorem View.le_or(U V:View):View.le U (U.or V):=fun a v h=>by unfold View.or;rw[h];rfl
theorem View.or_r{U V:View}{a:Addr}{v:Value}(h:V a=some v)(c:U a=none):U.or V a=some v:=by unfold View.or;rw[c,h];rfl
def fO(w:World)(U:View)(Φ:Value→View→Prop):Ending→World→Prop:=fun e w'=>∃v V,e=.returned v∧Below w.heap.size w w'∧View.le U V∧(∀a u,V a=some u→w'.cell? a=some u)∧(∀a u,V a=some u→a.block<w.heap.size→U a=some u)∧Φ v V
theorem aH{w W':World}{U V:View}{σ:aN}{Φ:Value→View→Prop}{v:Value}(a:Mem ⟨w,U⟩ V σ W')(c:View.le U V)(h:Φ v V):fO w U Φ (.returned v) W':=⟨v,V,rfl,a.below,c,a.view,a.old,h⟩
section
variable {P:Program} {n:Nat} {W0:Cx} {Q:XQ} {s:aZ} {U:View} {σ:aN} {ops:Array Oper} {l:List Oper} {o:Oper}
theorem Mem.retN{W W':World}{V:View}(d:Mem W0 U σ W)(r:Below W.heap.size W W')(D:View.le U V)(A:∀a u,V a=some u→W'.cell? a=some u)(q:∀a u,V a=some u→a.block<W.heap.size→U a=some u):Mem W0 V σ W':=by
 have h:=d.call r;refine h.grow (fun a v f c=>d.old a v (q a v f (Dv c d.below.size)) c) A fun k b x y a j=>?_
 obtain⟨B,E,C⟩:=d.own k b x y;cases f:V a with
 |none=>rfl
 |some v=>
  have g:=q a v f (by rw[j];exact gP B);rw[C a j]at g;cases g
theorem aGO(f : FuncId)(a : Array Value)(Φ : Value → View → Prop)(c : enters P s o = some (f, a))(q : ∀ W, Mem W0 U σ W → Calls P f a W (fO W U Φ))(r : eX n o = true)(y : cU ops s o = some true)
  (h:∀v V,View.le U V→Φ v V→SXL P n W0 Q ops l (lT o v s) V σ):SXL P n W0 Q ops (o::l) s U σ:=
 aAV f a c r y fun W g=>(q W g).mono fun _ A ⟨v,V,c,k,j,x,u,d⟩=>⟨v,_,V,σ,c,g.retN k j x u,rfl,h v V j d⟩
end
def iY(k:IntKind)(x y:Int):Int:=k.wrap (BitVec.ofInt k.bits x &&& BitVec.ofInt k.bits y).toNat
def aQ5(k:IntKind)(x:Int):Int:=k.wrap (BitVec.ofInt k.bits (if k.signed then -1 else k.max) ^^^ BitVec.ofInt k.bits x).toNat
def aIU(k:IntKind)(x y:Int):Int:=k.wrap (BitVec.ofInt k.bits x ^^^ BitVec.ofInt k.bits y).toNat
def orI(k:IntKind)(x y:Int):Int:=k.wrap (BitVec.ofInt k.bits x ||| BitVec.ofInt k.bits y).toNat
theorem View.sub{U:View}{b f:Nat}{cs ds:List Value}(h:U.range b f cs)(o n:Nat)(c:(cs.drop o).take n=ds):U.range b (f+o) ds:=fun j v a=>by
 rw[←c,Ek]at a;split at a
 ·rw[Ej]at a;rw[Dt];exact h _ _ a
 ·cases a
set_option maxHeartbeats 1600000 in
set_option maxRecDepth 100000 in
theorem aGU{s : aZ}{o : Oper}(A : TypeId)(x y : Operand)(q : o.op = .binOp .eql 24 x y A)(a d f g j k : Int)(c h : List UInt8)
  (r:evS s x=some (.agg #[.int .i64 a,.string (B c),.int .u64 d,.int .u64 f])) (u:evS s y=some (.agg #[.int .i64 g,.string (B h),.int .u64 j,.int .u64 k])) (W:World):
  (execOp (ev s) o).run Tryz.prog W=.ok (.value (.bool (decide (a=g∧c=h∧d=j∧f=k)))) W:=by
 unfold execOp;simp only[q,dY r,dY u]
 go_simp
 (repeat' split)<;>simp_all [aQc]
inductive Rw where
 |nil
 |row (b cap:Nat) (junk:List Value)
def Rw.V : Rw → Nat → Value
 | .nil,_=>.slice none 0 0
 | .row b cap _,n=>.slice (some ⟨b,0,none⟩) n cap
def Rw.B : Rw → TypeId → List Value → aN
 | .nil,_,_=>[]
 | .row b _ junk,e,xs=>[(b,.cells (xs++junk).toArray e (0,0))]
def Rw.ok : Rw → Nat → Nat → List Value → Prop
 | .nil,_,n,xs=>n=0∧xs=[]
 | .row _ cap junk,z,n,xs=>xs.length=n*z∧(xs++junk).length=cap*z∧n≤cap∧cap≤maxLen
theorem Rw.ok_nil(z:Nat):Rw.nil.ok z 0 []:=⟨rfl,rfl⟩
def Rw.W : Rw → List Value → View
 | .nil,_=>View.no
 | .row b _ _,xs=>fun a=>if a.block=b∧a.spot=none then xs[a.off]? else none
section
variable {P:Program} {n:Nat} {W0:Cx} {Q:XQ} {s:aZ} {U:View} {σ:aN} {ops:Array Oper} {l:List Oper} {o:Oper}
theorem getElem?_mid{α:Type}(a b c:List α)(i:Nat)(x:α)(h:b[i]? =some x):(a++(b++c))[a.length+i]? =some x:=by
 rw[Bm oW,Eg,Bp (Af.1 h).1,h]
theorem Mem.swap{W W' : World}{d f B B' : aN}(G : Mem W0 U (d ++ (B ++ f)) W)(L : Below W0.w.heap.size W0.w W')
  (F:∀(k:Nat) (x:Nat×Obj),(d++f)[k]? =some x→W'.heap[x.1]? =W.heap[x.1]?) (r:∀a v,U a=some v→W'.cell? a=some v)
  (E:B'=[]∨∃b o,B'=[(b,o)]∧W'.heap[b]? =some o∧W0.w.heap.size≤b∧(∀a,a.block=b→U a=none)∧∀(k:Nat) (x:Nat×Obj),(d++f)[k]? =some x→x.1≠b):Mem W0 U (d++(B'++f)) W':=by
 have M:Mem W0 U (d++f) W:=G.sub (By (Cd _) (Dj _ _));have u:Mem W0 U (d++f) W':=⟨L,G.old,r,fun k b o g=>by
  obtain⟨Z,q2,q3⟩:=M.own k b o g;exact⟨by rw[F k (b,o) g];exact Z,q2,q3⟩,M.apart⟩
 rcases E with rfl|⟨b,o,rfl,I,J,V,D⟩
 ·simpa using u
 ·have q:∀(k:Nat) (x:Nat×Obj),(d++([(b,o)]++f))[k]? =some x→(k=d.length∧x=(b,o))∨∃j,(d++f)[j]? =some x∧(j=k∧k<d.length∨j+1=k∧d.length<k):=by
   intro k x g;rcases Gv k d.length with h|h|h
   ·rw[Bp h]at g;exact .inr ⟨k,by rw[Bp h];exact g,.inl ⟨rfl,h⟩⟩
   ·rw[Bm oW,h,Dc]at g;simp at g;exact .inl ⟨h,g.symm⟩
   ·rw[Bm oW,Bm (by simp;omega)]at g;refine .inr ⟨k-1,?_,.inr ⟨by omega,h⟩⟩;rw[Bm oW];rw[←g];congr 1;simp;omega
  refine⟨L,G.old,r,fun k c x g=>?_,fun j k x y K g e=>?_⟩
  ·rcases q k _ g with⟨_,h⟩|⟨j,K,_⟩
   ·simp only[Am]at h;obtain⟨rfl,rfl⟩:=h;exact⟨I,J,V⟩
   ·exact u.own j c x K
  ·rcases q j x K with⟨h1,rfl⟩|⟨N,A,X⟩<;>rcases q k y g with⟨h3,rfl⟩|⟨O,C,Y⟩
   ·omega
   ·exact absurd e.symm (D O y C)
   ·exact absurd e (D N x A)
   ·have:=u.apart N O x y A C e;omega
theorem aNs{a : Act}{W : World}{K : Act → World → Prop}{Q : Exit → Act → World → Prop}(ha : pL n s a)(E : Mem W0 U σ W)(r : Rw)(D : List Value)(m : Nat)(d A : aN)(e : TypeId)(t : TypeId)(z bytes k : Nat)(c4 : σ = d ++ (r.B e D ++ A))(Y : r.ok z m D)(x y : Operand)(ho : o.op = .call { callee := .builtin .append, args := #[x, y], argTypes := #[t, t] })(hx : evS s x = some (r.V m))
  (b f c:Nat) (h:List Value) (hy:evS s y=some (.slice (some ⟨b,f,none⟩) k c)) (X:∀W,Mem W0 U σ W→W.rangeAt b f h) (hl:h.length=k*z) (h1:(h.all fun u=>u.oneCell')=true) (hk:0<k) (b2:m+k≤maxLen) (b3:(m+k)*bytes≤140737488355328)
  (i:TypeInfo) (zv:Value) (ht:P.underlying t=some (.slice e)) (hi:P.info? e=some i) (hz:i.zero=some zv) (a1:i.size=z) (a6:i.bytes=bytes) (c2:zv.cells.size=z) (c1:0<z)
  (hK:∀(r':Rw) (W':World),r'.ok z (m+k) (D++h)→Mem W0 U (d++(r'.B e (D++h)++A)) W'→K (a.put o.dst (r'.V (m+k))) W'):o.wp P a W K Q:=by
 subst c4;have hn:=X W E;have b0:W.ownsRow W0.w.heap.size e z (r.V m) m D:=by
  cases r with
  |nil=>obtain⟨rfl,rfl⟩:=Y;exact⟨by simp,.inl ⟨rfl,rfl⟩⟩
  |row g N junk=>
   obtain⟨I,L,q3,q4⟩:=Y;have hg:=E.own (d.length+0) g (.cells (D++junk).toArray e (0,0)) (getElem?_mid d _ A 0 _ rfl);exact⟨I,.inr ⟨g,N,(D++junk).toArray,rfl,hg.2.1,hg.1,q3,q4,by simpa using L,by rw[←I];simp⟩⟩
 refine wp_append_lies W x y t ho W0.w.heap.size e i zv z bytes ht hi hz a1 a6 c2 c1 (r.V m) m D (eG ha hx) b0 ⟨b,f,none⟩ k c h (eG ha hy) hl (fun j u G=>by rw[Addr.add_mid];exact hn j u G) (fun u G=>Ao.1 h1 u G) hk b2 b3 E.below.size _ rfl ?_;intro g N w' Z V B c7;obtain⟨a8,h2⟩:=Z;rcases h2 with⟨h2,_⟩|⟨g',c6,O,hv,b6,hh,c0,b4,b5,b1⟩
 ·cases h2
 ·simp only[Value.slice.injEq,Ab,Addr.mk.injEq,Fl,Fm]at hv;obtain⟨rfl,rfl⟩:=hv;have a7:O=((D++h)++O.toList.drop ((m+k)*z)).toArray:=by
   rw[←b1,Cn]
  have c8:r.ok z m D:=Y;have M:∀(j:Nat) (q:Nat×Obj),(d++A)[j]? =some q→some q.1≠(r.V m).ownBlock∧q.1<W.heap.size:=by
   intro j q F;have hs:Mem W0 U (d++A) W:=E.sub (By (Cd _) (Dj _ _));refine⟨?_,gP (hs.own j q.1 q.2 F).1⟩;cases r with
   |nil=>intro J;cases J
   |row g0 cap0 junk0=>
    intro J;have hq:q.1=g0:=Bs J;have b8:∃i,(d++(Rw.B (.row g0 cap0 junk0) e D++A))[i]? =some q∧i≠d.length:=by
     by_cases b9:j<d.length
     ·exact⟨j,by rw[Bp b9]at F ⊢;exact F,by omega⟩
     ·refine⟨j+1,?_,by omega⟩;rw[Bm oW]at F;rw[Bm oW,Bm (by simp[Rw.B];omega),←F];congr 1;simp[Rw.B];omega
    obtain⟨i',b7,c9⟩:=b8;have:=E.apart i' (d.length+0) q _ b7 (getElem?_mid d _ A 0 (g0,.cells (D++junk0).toArray e (0,0)) rfl) hq;omega
  have C:∀a v,U a=some v→a.block<W.heap.size∧some a.block≠(r.V m).ownBlock:=by
   intro a v G;refine⟨pF (E.view a v G),?_⟩;cases r with
   |nil=>intro J;cases J
   |row g0 cap0 junk0=>
    intro J;have:=(E.own (d.length+0) g0 _ (getElem?_mid d _ A 0 (g0,.cells (D++junk0).toArray e (0,0)) rfl)).2.2 a (Bs J);rw[G]at this;cases this
  refine hK (.row g N (O.toList.drop ((m+k)*z))) _ ⟨a8,by rw[←b1,Cn];simpa using b5,c0,b4⟩ ?_;refine E.swap ?_ (fun j q F=>?_) (fun a v G=>?_) (.inr ⟨g,_,rfl,?_,b6,fun a ha=>?_,fun j q F=>?_⟩)
  ·refine E.below.grown V E.below.size fun j F=>?_
   cases r with
   |nil=>cases F
   |row g0 cap0 junk0=>
    obtain rfl:g0=j:=Bs F;exact(E.own (d.length+0) g0 _ (getElem?_mid d _ A 0 (g0,.cells (D++junk0).toArray e (0,0)) rfl)).2.1
  ·obtain⟨I,L⟩:=M j q F;exact V.block q.1 L I
  ·obtain⟨I,L⟩:=C a v G;rw[World.cell?_of_block (w:=W) (V.block a.block I L)];exact E.view a v G
  ·rw[hh];exact Ag (fun q=>some (Obj.cells q e (0,0))) a7
  ·cases G:U a with
   |none=>rfl
   |some v=>
    obtain⟨I,L⟩:=C a v G;rcases B with B|B
    ·rw[B,ha]at L;exact absurd rfl L
    ·omega
  ·obtain⟨I,L⟩:=M j q F;intro J;rcases B with B|B
   ·rw[B,J]at I;exact absurd rfl I
   ·omega
theorem aPj(r : Rw)(D : List Value)(m : Nat)(q A : aN)(e : TypeId)(t : TypeId)(z bytes k : Nat)(M : σ = q ++ (r.B e D ++ A))(I : r.ok z m D)(x y : Operand)(ho : o.op = .call { callee := .builtin .append, args := #[x, y], argTypes := #[t, t] })(hx : evS s x = some (r.V m))
  (b f c:Nat) (d:List Value) (hy:evS s y=some (.slice (some ⟨b,f,none⟩) k c)) (g:∀W,Mem W0 U σ W→W.rangeAt b f d) (hl:d.length=k*z) (E:(d.all fun u=>u.oneCell')=true) (hk:0<k) (F:m+k≤maxLen) (G:(m+k)*bytes≤140737488355328)
  (i:TypeInfo) (N:Value) (ht:P.underlying t=some (.slice e)) (hi:P.info? e=some i) (hz:i.zero=some N) (j:i.size=z) (B:i.bytes=bytes) (L:N.cells.size=z) (J:0<z)
  (V:eX n o=true) (hw:cU ops s o=some true)
  (h:∀C:Rw,C.ok z (m+k) (D++d)→SXL P n W0 Q ops l (lT o (C.V (m+k)) s) U (q++(C.B e (D++d)++A))):SXL P n W0 Q ops (o::l) s U σ:=
 pN V hw fun a W O Z K Y=>aNs O Z r D m q A e t z bytes k M I x y ho hx b f c d hy g hl E hk F G i N ht hi hz j B L J fun C W' E X=>Y _ _ _ _ _ (h C E) (eL O V) X
theorem Mem.freeze{W:World}{d f:aN}{r:Rw}{e:TypeId}{g:List Value}(x:Mem W0 U (d++(r.B e g++f)) W):Mem W0 (U.or (r.W g)) (d++f) W:=by
 have F:Mem W0 U (d++f) W:=x.sub (By (Cd _) (Dj _ _));cases r with
 |nil=>
  have:U.or (Rw.W .nil g)=U:=by funext a;simp[View.or,Rw.W,View.no]
  rw[this];exact F
 |row b cap junk=>
  obtain⟨O,Z,q3⟩:=x.own (d.length+0) b (.cells (g++junk).toArray e (0,0)) (getElem?_mid d _ f 0 _ rfl);have q:∀a v,U.or (Rw.W (.row b cap junk) g) a=some v→U a=some v∨(a.block=b∧a.spot=none∧g[a.off]? =some v):=by
   intro a v h;unfold View.or at h;cases A:U a with
   |some u=>rw[A]at h;exact .inl h
   |none=>
    rw[A,Option.none_or]at h;simp only[Rw.W]at h;split at h
    ·next L=>exact .inr ⟨L.1,L.2,h⟩
    ·cases h
  refine F.grow (fun a v h j=>?_) (fun a v h=>?_) (fun k c o y a K=>?_)
  ·rcases q a v h with h|⟨h,_,_⟩
   ·exact x.old a v h j
   ·omega
  ·rcases q a v h with h|⟨G,I,J⟩
   ·exact x.view a v h
   ·have:a=⟨b,a.off,none⟩:=by
     obtain⟨V,X,Y⟩:=a;simp only at G I ⊢;subst G I;rfl
    rw[this,cell_of_row _ _ _ _ _ _ O];have j:=(Af.1 J).1;simp only[Dx];rw[Bp j,J]
  ·cases A:(U.or (Rw.W (.row b cap junk) g)) a with
   |none=>rfl
   |some v=>
    rcases q a v A with h|⟨h,_,_⟩
    ·have:=(F.own k c o y).2.2 a K;rw[this]at h;cases h
    ·exfalso;have B:c=b:=K.symm.trans h;subst B;have D:∃i,(d++(Rw.B (.row c cap junk) e g++f))[i]? =some (c,o)∧i≠d.length:=by
      by_cases E:k<d.length
      ·exact⟨k,by rw[Bp E]at y ⊢;exact y,by omega⟩
      ·refine⟨k+1,?_,by omega⟩;rw[Bm oW]at y;rw[Bm oW,Bm (by simp[Rw.B];omega),←y];congr 1;simp[Rw.B];omega
     obtain⟨N,C,M⟩:=D;have:=x.apart N (d.length+0) _ _ C (getElem?_mid d _ f 0 (c,.cells (g++junk).toArray e (0,0)) rfl) rfl;omega
end
def byV(c:UInt8):Value:=.int .u8 (c.toNat:Int)
def inV(x:Int):Value:=.int .i64 x
theorem aPv{U:View}{b f:Nat}{l:List UInt8}(h:U.range b f (l.map byV)){i:Nat}{y:UInt8}(a:l[i]? =some y):U ⟨b,f+i,none⟩=some (.int .u8 (y.toNat:Int)):=h i _ (by rw[Cs,a];rfl)
theorem aPu{U:View}{b f:Nat}{l:List Int}(h:U.range b f (l.map inV)){i:Nat}{y:Int}(a:l[i]? =some y):U ⟨b,f+i,none⟩=some (.int .i64 y):=h i _ (by rw[Cs,a];rfl)
structure jT (U : View) (a : Option Addr) (l : List Int) : Prop where
 at_:l≠[]→∃b f,a=some ⟨b,f,none⟩∧U.range b f (l.map inV)
 len:l.length≤R47
theorem jT.le{U V:View}(h:View.le U V){a:Option Addr}{l:List Int}(d:jT U a l):jT V a l:=
 ⟨fun c=>by obtain⟨b,f,e,g⟩:=d.at_ c;exact⟨b,f,e,View.range_le h g⟩,d.len⟩
theorem jT.one{U:View}{a:Option Addr}{l:List Int}(d:jT U a l){i:Nat}{y:Int}(c:l[i]? =some y):∃b f,a=some ⟨b,f,none⟩∧U ⟨b,f+i,none⟩=some (.int .i64 y):=by
 obtain⟨b,f,e,g⟩:=d.at_ (fun h=>by rw[h]at c;simp at c);exact⟨b,f,e,aPu g c⟩
structure aGC (U : View) (a : Option Addr) (l : List UInt8) : Prop where
 at_:l≠[]→∃b f,a=some ⟨b,f,none⟩∧U.range b f (l.map byV)
 len:l.length≤R47
theorem aGC.one{U:View}{a:Option Addr}{l:List UInt8}(d:aGC U a l){i:Nat}{y:UInt8}(c:l[i]? =some y):∃b f,a=some ⟨b,f,none⟩∧U ⟨b,f+i,none⟩=some (.int .u8 ((y.toNat:Nat):Int)):=by
 obtain⟨b,f,e,g⟩:=d.at_ (fun h=>by rw[h]at c;simp at c);exact⟨b,f,e,aPv g c⟩
theorem aGC.of{U:View}{b f:Nat}{l:List UInt8}(h:U.range b f (l.map byV))(a:l.length≤140737488355328):aGC U (some ⟨b,f,none⟩) l:=⟨fun _=>⟨b,f,rfl,h⟩,a⟩
section
variable {P:Program} {n:Nat} {W0:Cx} {Q:XQ} {s:aZ} {U:View} {σ:aN} {ops:Array Oper} {l:List Oper} {o:Oper}
theorem eQ(t e : TypeId)(x g : Operand)(j : o.op = .indexAddr t x g)(b f a c i : Nat)(k : IntKind)(u : evS s x = some (.slice (some ⟨b, f, none⟩) a c))(h : evS s g = some (.int k (i : Int)))(d : i < a)
  (r:P.underlying t=some (.slice e)) (q:(P.info? e).map (·.size)=some 1) (W:World):(execOp (ev s) o).run P W=.ok (.value (.pointer (some ⟨b,f+i,none⟩))) W:=by
 have:=lR (o:=o) t e x g j b f a c i 1 k u h d r q W;rw[Nat.mul_one]at this;exact this
theorem aDm(y k e : TypeId)(x : Operand)(ho : o.op = .convert y k x)(bs : List UInt8)(hx : evS s x = some (.string (B bs)))(hs : P.underlying y = some .string)(M : P.underlying k = some (.slice e))(he : P.underlying e = some (.int .u8))
  (X:eX n o=true) (hw:cU ops s o=some true)
  (h:∀(b f:Nat) (V:View),View.le U V→V.range b 0 (bs.map byV)→bs.length≤f→SXL P n W0 Q ops l (lT o (.slice (some ⟨b,0,none⟩) bs.length f) s) V σ):SXL P n W0 Q ops (o::l) s U σ:=by
 refine pN X hw fun a W J F K Z=>?_
 obtain⟨f,w',E,A,O,a6,r,_⟩:=aCZ (P:=P) W y k e bs hs M he;unfold Oper.wp execOp;simp only[ho,eG J hx,Sem.run_bind,E,Result.andThen_ok,Sem.run_pure];let V:View:=fun a=>if a.block=W.heap.size∧a.spot=none then(bs.map byV)[a.off]? else U a
 have G:∀a:Addr,a.block=W.heap.size→U a=none:=by
  intro a J;cases g:U a with
  |none=>rfl
  |some v=>have:=pF (F.view a v g);omega
 have C:View.le U V:=by
  intro a v g;show(if a.block=W.heap.size∧a.spot=none then(bs.map byV)[a.off]? else U a)=some v;rw[An (fun q=>by rw[G a q.1]at g;cases g)];exact g
 have I:V.range W.heap.size 0 (bs.map byV):=by
  intro j v hj;show(if _∧_ then(bs.map byV)[0+j]? else _)=some v;rw[Ar ⟨rfl,rfl⟩,Aw];exact hj
 refine Z _ _ _ _ _ (h W.heap.size f V C I A) (eL J X) (F.retN O C (fun a u g=>?_) (fun a u g D=>?_))
 ·have d:(if a.block=W.heap.size∧a.spot=none then(bs.map byV)[a.off]? else U a)=some u:=g;split at d
  ·next q=>
   have Y:a=⟨W.heap.size,a.off,none⟩:=by
    obtain⟨a1,a2,a3⟩:=a;simp only at q ⊢;rw[q.1,q.2]
   rw[Cs,Cz]at d;obtain⟨c,L,rfl⟩:=d;obtain⟨D,rfl⟩:=Af.1 L;exact(Ag w'.cell? Y).trans (r a.off D)
  ·next q=>
   have N:=F.view a u d;rw[O.cell (pF N)];exact N
 ·have d:(if a.block=W.heap.size∧a.spot=none then(bs.map byV)[a.off]? else U a)=some u:=g;rw[An (fun q=>by omega)]at d;exact d
end
end Go.Proofs.YtcdjakemdlinhaaGreatDoor.Sx
namespace Go.Proofs.YtcdjakemdlinhaaGreatDoor
open Go.ChangeShapes Go.WideShapes Go.ChangeAt Go.RowKit

def aLr{A C : Type}(R : A → C → Prop) : List A → List C → Prop
 | [],cs=>cs=[]
 |a::l,cs=>∃c r,cs=c::r∧R a c∧aLr R l r
def sR(P : Program) : Nat → TypeId → Nat → Option TypeId
 |0,_,_=>none
 |d+1,t,o=>
  match P.underlying t with
  |some (.struct fs)=>(fs.toList.find? fun f=>decide (f.offset≤o∧o<f.offset+P.cellsOf f.type)).bind fun f=>sR P d f.type (o-f.offset)
  |some (.array n e)=>if o/P.cellsOf e<n∧0<P.cellsOf e then sR P d e (o%P.cellsOf e)else none
  |some _=>if o=0 then some t else none
  |none=>none

section
variable {H:Type} {enc:TypeId×Value→H} {P:Program} {w:World} {base:Nat} {spare:Nat→Bool} {held:Bool}

theorem aLy{fuel : Nat}{t : TypeId}{cs : List Value}{y : DataW H × List MemPlace}(h : DataW.trod enc P w base spare held fuel t cs = some y)
  (f:∀d,P.underlying t≠some (.struct d)) (g:∀n e,P.underlying t≠some (.array n e)):∃c,cs=[c]:=by
 cases fuel with
 |zero=>simp[DataW.trod]at h
 |succ n=>
  unfold DataW.trod at h;split at h<;>first|exact⟨_,rfl⟩|(rename_i a;exact absurd a (f _))|(rename_i a;exact absurd a (g _ _))|cases h

theorem aGP{y:DataW H×List MemPlace}{a:List (DataW H×List MemPlace)}(h:y∈a):∀p∈y.2,p∈a.flatMap (·.2):=fun _p c=>Gx.2 ⟨y,h,c⟩

theorem aA9:∀(d:Nat) {fuel:Nat} {t u:TypeId} {o:Nat} {cs:List Value} {y:DataW H×List MemPlace},sR P d t o=some u→DataW.trod enc P w base spare held fuel t cs=some y→
  ∃n c z,(cs.drop o).take 1=[c]∧DataW.trod enc P w base spare held n u [c]=some z∧∀p∈z.2,p∈y.2
 |0,_,_,_,_,_,_,a,_=>by simp[sR]at a
 |d+1,fuel,t,u,o,cs,y,a,h=>by
  unfold sR at a;split at a
  ·rename_i I B
   obtain⟨f,q,a⟩:=Option.bind_eq_some_iff.1 a;have L:=Fp q;have hm:=List.mem_of_find?_eq_some q;simp only[Ak]at L;obtain⟨i,O⟩:=Dk.1 hm;obtain⟨F,n,rfl,rfl,C,A,g⟩:=DataW.trod_struct B h;have E:=g i f (by simpa using O);have hx:∃z,F[i]? =some z:=by
    have:i<I.toList.length:=(Af.1 O).1;have k:i<F.length:=by rw[A];simpa using this
    exact⟨F[i],Aa k⟩
   obtain⟨z,X⟩:=hx;rw[X]at E;obtain⟨m,c,M,J,x,j⟩:=aA9 d a E;refine⟨m,c,M,?_,x,fun p r=>aGP (Ad X) p (j p r)⟩;rw[←J,List.drop_take,De,List.take_take];rw[show f.offset+(o-f.offset)=o by omega,show min 1 (P.cellsOf f.type-(o-f.offset))=1 by omega]
  ·rename_i n e B
   split at a
   ·rename_i G
    obtain⟨G,D⟩:=G;obtain⟨F,m,rfl,rfl,C,A,g⟩:=DataW.trod_array B h;have E:=g (o/P.cellsOf e) G;have k:o/P.cellsOf e<F.length:=by rw[A];exact G
    rw[Aa k]at E;obtain⟨m',c,M,J,x,j⟩:=aA9 d a E;refine⟨m',c,M,?_,x,fun p r=>aGP (List.getElem_mem k) p (j p r)⟩;have V:o%P.cellsOf e<P.cellsOf e:=Nat.mod_lt _ D;have K:o/P.cellsOf e*P.cellsOf e+o%P.cellsOf e=o:=by rw[Nat.mul_comm];exact Nat.div_add_mod _ _
    rw[←J,List.drop_take,De,List.take_take,K,show min 1 (P.cellsOf e-o%P.cellsOf e)=1 by omega]
   ·cases a
  ·rename_i N Y Z B
   split at a
   ·rename_i ho
    subst ho;cases a;obtain⟨c,rfl⟩:=aLy h (fun I q=>Y I (by rw[B]at q;exact Bs q)) (fun n e q=>Z n e (by rw[B]at q;exact Bs q));exact⟨fuel,c,y,rfl,h,fun p L=>L⟩
   ·cases a
  ·cases a
end

def qG{H:Type}(enc:TypeId×Value→H)(P:Program)(w:World)(u:TypeId)(v:Value):Prop:=
 ∃n z,DataW.trod enc P w 0 (fun _=>true) true n u [v]=some z∧∀p∈z.2,p.block<w.heap.size

section
variable {H:Type} {enc:TypeId×Value→H} {P:Program} {w:World}
theorem aEM{fuel:Nat}{t:TypeId}{cs:List Value}{y:DataW H×List MemPlace}(h:DataW.trod enc P w 0 (fun _=>true) true fuel t cs=some y)(d:∀p∈y.2,p.block<w.heap.size):
  ∀(g:List TypeId) (k:Nat),(∀i u,g[i]? =some u→sR P 9 t (k+i)=some u)→cs.length=k+g.length→aLr (qG enc P w) g (cs.drop k)
 | [],k,_,hlen=>Cj (by simp at hlen;omega)
 |u::g,k,a,hlen=>by
  have r:k<cs.length:=by simp at hlen;omega
  obtain⟨n,c,z,q,B,f⟩:=aA9 9 (a 0 u rfl) h;have j:cs[k]=c:=by
   rw[Df,Bx r,Ed,Da]at q;exact(List.cons.inj q).1
  refine⟨c,cs.drop (k+1),by rw[Bx r,j],⟨n,z,B,fun p A=>d p (f p A)⟩,?_⟩;refine aEM h d g (k+1) (fun i C x=>?_) (by simp at hlen ⊢;omega);have:=a (i+1) C (by simpa using x);rwa[show k+1+i=k+(i+1) by omega]
theorem leaves{fuel : Nat}{t : TypeId}{cs : List Value}{y : DataW H × List MemPlace}(a : List TypeId)(h : DataW.trod enc P w 0 (fun _ => true) true fuel t cs = some y)(d : ∀ p ∈ y.2, p.block < w.heap.size)
  (f:(List.range a.length).map (sR P 9 t)=a.map some) (c:cs.length=a.length):aLr (qG enc P w) a cs:=by
 have:=aEM h d a 0 (fun i u g=>by
  have j:i<a.length:=(Af.1 g).1;have e:=Ag (fun l=>l[i]?) f;simp[j]at e;rw[Aw,e,←g,Aa j]) (by simpa using c)
 simpa using this
theorem aEH{t : TypeId}{v : Value}{d : DataW H}{r : List MemPlace}{base : Nat}(g : List TypeId)(f : Value.okWide P w .any base t v)(h : DataW.Trod enc P w 0 (fun _ => true) true t v d r)(k : ∀ p ∈ r, p.block < w.heap.size)
  (x:(match P.underlying t with|some (.struct _)|some (.array _ _)=>true|_=>false)=true)
  (q:(List.range g.length).map (sR P 9 t)=g.map some) (c:P.cellsOf t=g.length):∃cs:List Value,v=.agg cs.toArray∧aLr (qG enc P w) g cs:=by
 have:∃cs:Array Value,v=.agg cs∧cs.size=P.cellsOf t:=by
  unfold Value.okWide at f;split at x
  ·rename_i j;rw[j]at f;obtain⟨cs,e,a,_⟩:=f;exact⟨cs,e,a⟩
  ·rename_i j;rw[j]at f;obtain⟨cs,e,a,_⟩:=f;exact⟨cs,e,a⟩
  ·cases x
 obtain⟨cs,rfl,a⟩:=this;obtain⟨u,A⟩:=h;refine⟨cs.toList,by simp,leaves g (t:=t) (y:=(d,r)) (by simpa[Value.cells]using A) k q (by simp[a,c])⟩
theorem qG.int{u:TypeId}{k:IntKind}{v:Value}(a:P.underlying u=some (.int k))(h:qG enc P w u v):∃n,v=.int k n∧(Lit.int k n).wf=true:=by
 obtain⟨n,z,d,_⟩:=h;obtain⟨m,e,_,c⟩:=DataW.trod_int a d;cases e;exact⟨m,rfl,c⟩
theorem qG.str{u:TypeId}{v:Value}(c:P.underlying u=some .string)(h:qG enc P w u v):∃l,v=.string (B l)∧l.length≤maxLen:=by
 obtain⟨n,z,d,_⟩:=h;obtain⟨s,e,_,a⟩:=DataW.trod_string c d;cases e;obtain⟨l,rfl⟩:=aRF s;exact⟨l,rfl,by rwa[rE]at a⟩
end
def aNt(w:World)(v:Value)(k:Nat)(css:List (List Value)):Prop:=
 css.length≤maxLen∧∃a c,v=.slice a css.length c∧css.length≤c∧c≤maxLen∧(css=[]∨∃b o,a=some ⟨b,o,none⟩∧b<w.heap.size∧∀(j:Nat) cs,css[j]? =some cs→∀(i:Nat) u,cs[i]? =some u→w.cell? ⟨b,o+(j*k+i),none⟩=some u)
theorem aHx{a:Addr}(c:a.spot=none)(j:Nat):a.add j=⟨a.block,a.off+j,none⟩:=by
 unfold Addr.add;split
 ·next d=>subst d;cases a;simp at c;subst c;rfl
 ·rfl
theorem aJr{w:World}{a:Addr}{v:Value}(h:w.cell? a=some v):a.spot=none:=by
 unfold World.cell? at h;split at h
 ·split at h
  ·cases h
  ·next c=>simpa using c
 ·cases h
theorem aN2{P : Program}{w : World}{H : Type}{enc : TypeId × Value → H}{t e : TypeId}{v : Value}{x : DataW H × List MemPlace}{fuel : Nat}(q : List TypeId)
  (hf:DataW.trod enc P w 0 (fun _=>true) true fuel t [v]=some x) (O:∀p∈x.2,p.block<w.heap.size) (ht:P.underlying t=some (.slice e))
  (V:(List.range q.length).map (sR P 9 e)=q.map some) (d:P.cellsOf e=q.length) (k:0<q.length):
  ∃css,aNt w v q.length css∧∀cs∈css,aLr (qG enc P w) q cs:=by
 rcases Deep.open_slice ht hf with⟨c,Y⟩|⟨a,f,Z,m,n,D,Pl,c,_,hl,hm,y,Y,L⟩
 ·simp only[Em,Fl]at c;subst c;exact⟨[],⟨Ap _,none,0,rfl,Bg _,Ap _,.inl rfl⟩,fun cs h=>by cases h⟩
 ·simp only[Em,Fl]at c;subst c;rw[Ar rfl]at y;subst y;obtain⟨C,F⟩:=Deep.choose_lt (α:=List Value) (p:=fun i cs=>w.cells? 0 (a.add (i*P.cellsOf e)) (P.cellsOf e)=some cs∧DataW.trod enc P w 0 (fun _=>true) true n e cs=some (D i,Pl i)) L;have G:((List.range f).map C).length=f:=by simp
  refine⟨(List.range f).map C,⟨by rw[G];omega,some a,m,by rw[G],by rw[G];exact hl,hm,?_⟩,?_⟩
  ·by_cases h0:f=0
   ·left;subst h0;rfl
   ·right;obtain⟨_,N,I⟩:=World.cells?_some (F 0 oW).1;have g:=I 0 (by rw[d];exact k);rw[Aa (by rw[N,d];exact k)]at g;have K:w.cell? a=some (C 0)[0]:=by simpa[Addr.add]using g
    have B:=aJr K;refine⟨a.block,a.off,Ag some (by have h9:=aHx B 0;simpa[Addr.add]using h9),?_,fun j cs X i u E=>?_⟩
    ·have:=World.block_lt_of_cell? w _ g;simpa[Addr.add]using this
    ·rw[Cs,Cz]at X;obtain⟨j',r,rfl⟩:=X;have M:j<f:=by
      have:=(Af.1 r).1;simpa using this
     rw[Aa (by simpa using M),List.getElem_range]at r;obtain rfl:j=j':=Bs r;obtain⟨_,a7,J⟩:=World.cells?_some (F j oW).1;have a6:i<q.length:=by
      have:=(Af.1 E).1;omega
     have:=J i oW;rw[Deep.add_add,aHx B,d,E]at this;exact this
  ·intro cs c;obtain⟨i,E,rfl⟩:=Co.1 c;have a1:i<f:=Cm.1 E;obtain⟨h1,h2⟩:=F i oW;refine leaves q h2 (fun p hp=>O p ?_) V ((World.cells?_some h1).2.1.trans d);have A:=Ag Prod.snd Y;simp only at A;rw[A];exact List.mem_append_right _ (Gx.2 ⟨i,Cm.2 oW,hp⟩)
theorem sG{P:Program}{ops:Array Oper}{rest:List Oper}{o:Oper}{a:Act}{w:World}{Q:Exit→Act→World→Prop}(tp:TypeId){x:Operand}(_:o.op=.load tp x)(h:RowKit.Hid (wpList P ops Q (o::rest) a w)):wpList P ops Q (o::rest) a w:=h.out
theorem aDB{P : Program}{ops : Array Oper}{rest : List Oper}{o : Oper}{a : Act}{w : World}{Q : Exit → Act → World → Prop}(k : TypeId)(x : Operand)(A : o.op = .load k x)(q : o.guard = none)(g : Option Tmp)(j : o.dst = g)
  (b f:Nat) (C:a.eval x=.pointer (some ⟨b,f,none⟩)) (c:Array Value) (r:w.rangeAt b f c.toList) (d:TypeDesc) (B:P.underlying k=some d) (u:d.isRow=true) (y:(P.info? k).map (·.size)=some c.size)
  (h:wpList P ops Q rest (a.put g (.agg c)) w):RowKit.Hid (wpList P ops Q (o::rest) a w):=
 Lib.hid (wpList_load_mid q k x A b f C c.toList d r B u (by simpa using y) (by subst j;simpa using h))
theorem aBn{w:World}{b:Nat}{c:Array Value}{t:TypeId}(h:w.heap[b]? =some (.cells c t (0,0))):w.rangeAt b 0 c.toList:=fun j v a=>by
 rw[Aw,cell_of_row w b j c t (0,0) h];simpa using a
theorem oV{a:Nat}{w c:World}{b o:Nat}{cs:List Value}(h:w.rangeAt b o cs)(d:Below a w c)(f:b<a):c.rangeAt b o cs:=fun j v g=>by
 rw[d.cell (p:=⟨b,o+j,none⟩) f];exact h j v g
theorem aIt{a:Nat}{w c:World}(h:Below a w c){k:Nat}(f:k<a){x:Option Obj}(e:w.heap[k]? =x):c.heap[k]? =x:=by
 obtain⟨_,_,_,_,d⟩:=h;rw[d k f];exact e
theorem aIk{P : Program}{ops : Array Oper}{rest : List Oper}{o : Oper}{a : Act}{w : World}{Q : Exit → Act → World → Prop}(k : TypeId)(x : Operand)(B : o.op = .load k x)(q : Region.wanted o (yielded ops a.tmps) = true)(g : Option Tmp)(j : o.dst = g)
  (b f:Nat) (D:a.eval x=.pointer (some ⟨b,f,none⟩)) (c:Array Value) (u:w.rangeAt b f c.toList) (d:TypeDesc) (C:P.underlying k=some d) (y:d.isRow=true) (A:(P.info? k).map (·.size)=some c.size)
  (h:wpList P ops Q rest (a.put g (.agg c)) w):RowKit.Hid (wpList P ops Q (o::rest) a w):=
 Lib.hid (wpList_step fun K r=>by
  rw[Ar q];exact wp_load_mid k x B b f D c.toList d u C y (by simpa using A) (r _ _ (by subst j;simpa using h)))
end Go.Proofs.YtcdjakemdlinhaaGreatDoor
namespace Go.Proofs.YtcdjakemdlinhaaGreatDoor.Itm
open Go.ChangeShapes Go.WideShapes Go.ChangeAt Go.RowKit
inductive Tr where
 |mk (k:Int) (n:Nat) (s:List UInt8) (l:List Tr) (o:Bool)
def Tr.k:Tr→Int| .mk k _ _ _ _=>k
def Tr.n:Tr→Nat| .mk _ n _ _ _=>n
def Tr.s:Tr→List UInt8| .mk _ _ s _ _=>s
def Tr.l:Tr→List Tr| .mk _ _ _ l _=>l
def Tr.o:Tr→Bool| .mk _ _ _ _ o=>o
def W64:Nat:=18446744073709551616
def R47:Nat:=140737488355328
inductive TAt (w : World) : Tr → List Value → Prop
 | mk (k : Int) (n : Nat) (s : List UInt8) (l : List Tr) (o : Bool) (a : Option Addr) (c : Nat) (C : Nat → List Value) (hn : n < W64) (hs : s.length ≤ R47) (hl : l.length ≤ R47)
   (hat:∀i,i<l.length→∃b f,a=some ⟨b,f,none⟩∧b<w.heap.size∧w.rangeAt b (f+i*5) (C i))
   (hel:∀i t,l[i]? =some t→TAt w t (C i)):TAt w (.mk k n s l o) [.int .i64 k,.int .u64 n,.string (B s),.slice a l.length c,.bool o]
theorem TAt.keep{w r:World}{q:Nat}(j:Below q w r)(g:w.heap.size≤q){t:Tr}{cs:List Value}(h:TAt w t cs):TAt r t cs:=by
 induction h with
 |mk k n s l o a c C hn hs hl hat hel ih=>
  refine .mk k n s l o a c C hn hs hl (fun i u=>?_) ih;obtain⟨b,f,rfl,d,x⟩:=hat i u;exact⟨b,f,rfl,Dv d j.size,oV x j (Dv d g)⟩
theorem TAt.form{w:World}{t:Tr}{cs:List Value}(h:TAt w t cs):∃(a:Option Addr) (c:Nat) (C:Nat→List Value),cs=[.int .i64 t.k,.int .u64 t.n,.string (B t.s),.slice a t.l.length c,.bool t.o]∧t.n<W64∧t.s.length≤R47∧t.l.length≤R47∧
  (∀i,i<t.l.length→∃b f,a=some ⟨b,f,none⟩∧b<w.heap.size∧w.rangeAt b (f+i*5) (C i))∧∀i x,t.l[i]? =some x→TAt w x (C i):=by
 cases h with
 |mk k n s l o a c C hn hs hl hat hel=>exact⟨a,c,C,rfl,hn,hs,hl,hat,hel⟩
section
variable {H:Type} {enc:TypeId×Value→H} {W:World}
end
end Go.Proofs.YtcdjakemdlinhaaGreatDoor.Itm
namespace Go.Proofs.YtcdjakemdlinhaaGreatDoor.Sx
open Go.ChangeShapes Go.WideShapes Go.ChangeAt Go.RowKit Go.Deep
section
variable {P:Program} {n:Nat} {W0:Cx} {Q:XQ} {s:aZ} {U:View} {σ:aN} {ops:Array Oper} {l:List Oper} {o:Oper}
def kN : List Nat → List (Option Nat)
 | []=>[]
 |0::r=>none::kN r
 |(k+1)::r=>some k::kN r
theorem aKf : ∀ ks : List Nat, (kN ks).length = ks.length
 | []=>rfl
 |0::r=>by rw[kN,Ah,Ah,aKf]
 |(k+1)::r=>by rw[kN,Ah,Ah,aKf]
abbrev See(U:View)(w:World):Prop:=∀a v,U a=some v→w.cell? a=some v
abbrev CP:FuncId→Array Value→World→(Ending→World→Prop)→Prop:=Calls Tryz.prog
abbrev I6(x:Int):Value:=.int .i64 x
abbrev U6(x:Int):Value:=.int .u64 x
abbrev N6(x:Nat):Value:=.int .u64 (x:Int)
abbrev L6(x:Nat):Value:=.int .i64 (x:Int)
abbrev St(l:List UInt8):Value:=.string (B l)
abbrev Pt(b o:Nat):Value:=.pointer (some ⟨b,o,none⟩)
abbrev Sl(b o n c:Nat):Value:=.slice (some ⟨b,o,none⟩) n c
abbrev S0:Value:=.slice none 0 0
abbrev oK(cs:List Value)(t:TypeId):Obj:=.cells cs.toArray t (0,0)
abbrev bK(b:Nat)(cs:List Value)(t:TypeId):Nat×Obj:=(b,.cells cs.toArray t (0,0))
abbrev tC(t:Itm.Tr)(a:Option Addr)(c:Nat):List Value:=[I6 t.k,N6 t.n,St t.s,.slice a t.l.length c,.bool t.o]
abbrev tV(t:Itm.Tr)(a:Option Addr)(c:Nat):Value:=.agg #[I6 t.k,N6 t.n,St t.s,.slice a t.l.length c,.bool t.o]
abbrev iN(n:Nat):List Value:=[I6 0,N6 n,St [],S0,.bool false]
abbrev iV(n:Nat):Value:=.agg #[I6 0,N6 n,St [],S0,.bool false]
abbrev Z8:List Value:=[S0,I6 0,I6 0,St [],U6 0,U6 0,S0,S0]
abbrev Z20:List Value:=[U6 0,I6 0,I6 0,St [],U6 0,U6 0,I6 0,St [],U6 0,U6 0,I6 0,St [],U6 0,U6 0,U6 0,U6 0,U6 0,U6 0,U6 0,S0]
theorem bs:(∀b:Bool,(b||true)=true)∧(∀b:Bool,(true||b)=true)∧(∀b:Bool,(false||b)=b)∧(∀b:Bool,(b||false)=b)∧(∀b:Bool,(b&&true)=b)∧(∀b:Bool,(true&&b)=b)∧(∀b:Bool,(false&&b)=false)∧(∀b:Bool,(b&&false)=false)∧((!true)=false)∧((!false)=true)∧((false=true)=False):=
 ⟨Bool.or_true,Bool.true_or,Fc,Bool.or_false,Gg,Fk,Bool.false_and,Bool.and_false,rfl,rfl,by simp⟩
def nxS(P:Program)(n:Nat)(ops:Array Oper)(σ:aN)(ks:List Nat)(l:List Oper)(s:aZ):aZ:=match aLP P n ops σ (kN ks) l s with
 |some (s',_,_)=>s'
 |none=>[]
def nxT(P:Program)(n:Nat)(ops:Array Oper)(σ:aN)(ks:List Nat)(l:List Oper)(s:aZ):Option (List (Nat×Option Nat)×List (Nat×Option Nat)):=match aLP P n ops σ (kN ks) l s with
 |some (_,x,y)=>some (x,y)
 |none=>none
theorem cG(ks:List Nat)(T:List (Nat×Nat))(a:SXL P n W0 Q ops (l.drop ks.length) (nxS P n ops σ ks l s) U σ)(h:nxT P n ops σ ks l s=some (tt T,tt T):=by kernel_rfl):SXL P n W0 Q ops l s U σ:=by
 unfold nxT at h;unfold nxS at a;split at h
 ·next d x y c=>
  simp only[Ab,Am]at h;obtain⟨rfl,rfl⟩:=h;rw[c]at a;rw[←aKf ks]at a;exact aBb (kN ks) l s d _ c a
 ·cases h
def stX(P:Program)(σ:aN)(k:Nat)(s:aZ)(o:Oper):Obj:=match stK P σ k s o with
 |some (_,_,x)=>x
 |none=>.cells #[] 0 (0,0)
theorem aX(k b:Nat)(c:SXL P n W0 Q ops l s U (σ.set k (b,stX P σ k s o)))(h:stK P σ k s o=some (b,b,stX P σ k s o):=by kernel_rfl)(a:o.dst=none:=by rfl)(d:cU ops s o=some true:=by kernel_rfl):SXL P n W0 Q ops (o::l) s U σ:=
 aRl k b _ h a d c
def nwX(P:Program)(s:aZ)(o:Oper):Obj:=match makes P s o with
 |some (x,_)=>x
 |none=>.cells #[] 0 (0,0)
def nwV(P:Program)(s:aZ)(o:Oper)(r:Nat):Value:=match makes P s o with
 |some (_,f)=>(f r).getD undef
 |none=>undef
theorem aW(h:∀b,SXL P n W0 Q ops l (lT o (nwV P s o b) s) U (σ++[(b,nwX P s o)]))(hm:makes P s o=some (nwX P s o,fun r=>some (nwV P s o r)):=by kernel_rfl)(a:eX n o=true:=by kernel_rfl)(c:cU ops s o=some true:=by kernel_rfl):SXL P n W0 Q ops (o::l) s U σ:=
 aM8 _ _ hm a c h
theorem cY(f:FuncId)(a:Array Value)(v:Value)(c:∀W,Mem W0 U σ W→Calls P f a W fun e W'=>e=.returned v∧Below W.heap.size W W')(h:SXL P n W0 Q ops l (lT o v s) U σ)(g:enters P s o=some (f,a):=by kernel_rfl)(d:eX n o=true:=by kernel_rfl)(j:cU ops s o=some true:=by kernel_rfl):SXL P n W0 Q ops (o::l) s U σ:=
 aFq f a v g c d j h
theorem cD(v:Value)(a:∀W:World,(execOp (ev s) o).run P W=.ok (.value v) W)(f:SXL P n W0 Q ops l (lT o v s) U σ)(d:known s o=true:=by kernel_rfl)(c:eX n o=true:=by kernel_rfl)(g:cU ops s o=some true:=by kernel_rfl):SXL P n W0 Q ops (o::l) s U σ:=
 aPf v d a c g f
theorem dS(t:Nat)(v a:Value)(c:v=a)(h:SXL P n W0 Q ops l ((t,a)::s) U σ)(d:look s t=some v:=by kernel_rfl):SXL P n W0 Q ops l s U σ:=aNU t v a d c h
theorem gN{c:Operand}{x y:Code}(t:Bool)(a:t=true→SXC P n W0 Q x s U σ)(d:t=false→SXC P n W0 Q y s U σ)(f:evS s c=some (.bool t):=by kernel_rfl):SXC P n W0 Q (.cond c x y) s U σ:=aDk t f a d
theorem cE{c:Operand}{x y:Code}(p:Prop)[Decidable p](a:decide p=true→p→SXC P n W0 Q x s U σ)(d:decide p=false→¬p→SXC P n W0 Q y s U σ)(f:evS s c=some (.bool (decide p)):=by kernel_rfl):SXC P n W0 Q (.cond c x y) s U σ:=aDk _ f (fun h=>a h (Bj h)) fun h=>d h (Au h)
theorem fQ{α:Type}[BEq α][LawfulBEq α]{c:Operand}{x y:Code}(a b:α)(d:(a==b)=true→a=b→SXC P n W0 Q x s U σ)(f:(a==b)=false→a≠b→SXC P n W0 Q y s U σ)(g:evS s c=some (.bool (a==b)):=by kernel_rfl):SXC P n W0 Q (.cond c x y) s U σ:=aDk _ g (fun h=>d h (eq_of_beq h)) fun h=>f h (Ai.1 h)
theorem jD{α:Type}[BEq α][LawfulBEq α]{c:Operand}{x y:Code}(a b:α)(d:(a !=b)=true→a≠b→SXC P n W0 Q x s U σ)(f:(a !=b)=false→a=b→SXC P n W0 Q y s U σ)(g:evS s c=some (.bool (a !=b)):=by kernel_rfl):SXC P n W0 Q (.cond c x y) s U σ:=aDk _ g (fun h=>d h (Cb.1 h)) fun h=>f h (Bq.1 h)
theorem dP{c:Operand}{x y:Code}(a:SXC P n W0 Q x s U σ)(d:evS s c=some (.bool true):=by kernel_rfl):SXC P n W0 Q (.cond c x y) s U σ:=aGM true d rfl a
theorem dD{c:Operand}{x y:Code}(a:SXC P n W0 Q y s U σ)(d:evS s c=some (.bool false):=by kernel_rfl):SXC P n W0 Q (.cond c x y) s U σ:=aGN false d rfl a
theorem iA{c:Operand}{x y:Code}(t:Bool)(f:t=true)(a:SXC P n W0 Q x s U σ)(d:evS s c=some (.bool t):=by kernel_rfl):SXC P n W0 Q (.cond c x y) s U σ:=aGM t d f a
theorem dO{c:Operand}{x y:Code}(t:Bool)(f:t=false)(a:SXC P n W0 Q y s U σ)(d:evS s c=some (.bool t):=by kernel_rfl):SXC P n W0 Q (.cond c x y) s U σ:=aGN t d f a
theorem aPw{P : Program}{s : aZ}{σ : aN} : ∀ {ts : List Nat} {vs : List Value}, (ts.map fun t => look s t) = vs.map some → aB2 P s σ (ts.map .tmp) vs
 | [],[],_=>trivial
 |t::ts,v::vs,h=>by
  simp only[Cf,Em]at h;exact⟨aRp h.1,aPw h.2⟩
 | [],v::vs,h=>by simp at h
 |t::ts,[],h=>by simp at h
theorem aO{a:Func}{R:Ending→World→Prop}(ts:List Nat)(vs:List Value)(h:∀W,Mem W0 U σ W→R (.returned (dC vs)) W)(d:(ts.map fun t=>look s t)=vs.map some:=by kernel_rfl)(c:a.results.toList=ts.map .tmp:=by rfl):aLm P n W0 a R .ret s U σ:=
 tP _ vs c (aPw d) h
theorem mC(f : FuncId)(a : Array Value)(Φ : Value → View → Prop)(c : ∀ W, Mem W0 U σ W → Calls P f a W (fO W U Φ))
  (h:∀v V,View.le U V→Φ v V→SXL P n W0 Q ops l (lT o v s) V σ) (g:enters P s o=some (f,a):=by kernel_rfl) (d:eX n o=true:=by kernel_rfl) (j:cU ops s o=some true:=by kernel_rfl):SXL P n W0 Q ops (o::l) s U σ:=
 aGO f a Φ g c d j h
theorem aRo{s:aZ}{σ:aN}{t:Nat}{v:Value}(h:look s t=some v:=by kernel_rfl):aDb P s σ (.tmp t) v:=h
theorem aRq{s:aZ}{σ:aN}{x:Nat}{a:TypeId}{v:Value}(k b m:Nat)(h:aEh P σ k s x a=some (v,List.replicate m (b,none),b):=by kernel_rfl):aDb P s σ (.cell x a) v:=⟨k,b,m,h⟩
theorem cN(t:Nat)(x:Bool)(a:x=true→SXL P n W0 Q ops l ((t,.bool true)::s) U σ)(c:x=false→SXL P n W0 Q ops l ((t,.bool false)::s) U σ)(d:look s t=some (.bool x):=by kernel_rfl):SXL P n W0 Q ops l s U σ:=aDn t x d a c
theorem jV(t:Nat)(p:Prop)[Decidable p](a:decide p=true→p→SXL P n W0 Q ops l ((t,.bool true)::s) U σ)(c:decide p=false→¬p→SXL P n W0 Q ops l ((t,.bool false)::s) U σ)(d:look s t=some (.bool (decide p)):=by kernel_rfl):SXL P n W0 Q ops l s U σ:=aDn t _ d (fun h=>a h (Bj h)) fun h=>c h (Au h)
theorem oT{α:Type}[BEq α][LawfulBEq α](t:Nat)(a b:α)(c:(a==b)=true→a=b→SXL P n W0 Q ops l ((t,.bool true)::s) U σ)(d:(a==b)=false→a≠b→SXL P n W0 Q ops l ((t,.bool false)::s) U σ)(f:look s t=some (.bool (a==b)):=by kernel_rfl):SXL P n W0 Q ops l s U σ:=aDn t _ f (fun h=>c h (eq_of_beq h)) fun h=>d h (Ai.1 h)
theorem lO{α:Type}[BEq α][LawfulBEq α](t:Nat)(a b:α)(c:(a !=b)=true→a≠b→SXL P n W0 Q ops l ((t,.bool true)::s) U σ)(d:(a !=b)=false→a=b→SXL P n W0 Q ops l ((t,.bool false)::s) U σ)(f:look s t=some (.bool (a !=b)):=by kernel_rfl):SXL P n W0 Q ops l s U σ:=aDn t _ f (fun h=>c h (Cb.1 h)) fun h=>d h (Bq.1 h)
theorem Mem.nilE{W:World}{A:aN}(h:Mem W0 U σ W)(e:σ=A:=by kernel_rfl):Mem W0 U (A++[]) W:=h.eqv (e.trans (Aj A).symm)
theorem zE{y:Operand}{k:Nat}{a:Option Addr}{c:Nat}(d:k=0)(h:evS s y=some (.slice a k c):=by kernel_rfl):evS s y=some (.slice a 0 c):=by subst d;exact h
theorem zE'{y:Operand}{k:Nat}{v:Value}{a:Option Addr}{c:Nat}(f:v=.slice a k c)(d:k=0)(h:evS s y=some v:=by kernel_rfl):evS s y=some (.slice a 0 c):=by subst d;rw[h,f]
theorem zX{y:Operand}{v w:Value}(e:v=w)(h:evS s y=some v:=by kernel_rfl):evS s y=some w:=e▸h
theorem aQJ{A B:aN}(h:A=B:=by kernel_rfl):A.Perm B:=h▸Gd _
theorem aQ6{A B:aN}(h:A=B:=by kernel_rfl):A=B++[]:=h.trans (Aj B).symm
theorem zs{x y:Code}(h:SXC P n W0 (aFm (fun s U σ=>SXC P n W0 Q y s U σ) Q) x s U σ):SXC P n W0 Q (.seq x y) s U σ:=aJe h
theorem zr{a:Nat}{l:List Oper}(h:SXL P n W0 Q l.toArray l s U σ):SXC P n W0 Q (.region a l.toArray false) s U σ:=aBc h
theorem zn(h:Q .normal s U σ):SXL P n W0 Q ops [] s U σ:=aPg h
theorem zk(h:Q .normal s U σ):SXC P n W0 Q .skip s U σ:=aNQ h
theorem zq(k:Nat)(a:SXL P n W0 Q ops (l.drop k) (nxS P n ops σ (List.replicate k 0) l s) U σ)(h:nxT P n ops σ (List.replicate k 0) l s=some (tt [],tt []):=by kernel_rfl):SXL P n W0 Q ops l s U σ:=cG _ [] (by rw[Gb];exact a) h
theorem zB{c:Nat}{y:Code}{l:List Oper}(ks:List Nat)(T:List (Nat×Nat))(a:SXL P n W0 (aFm (fun s U σ=>SXC P n W0 Q y s U σ) Q) l.toArray (l.drop ks.length) (nxS P n l.toArray σ ks l s) U σ)(h:nxT P n l.toArray σ ks l s=some (tt T,tt T):=by kernel_rfl):SXC P n W0 Q (.seq (.region c l.toArray false) y) s U σ:=aJe (aBc (cG ks T a h))
theorem zQ{c:Nat}{y:Code}{l:List Oper}(k:Nat)(a:SXL P n W0 (aFm (fun s U σ=>SXC P n W0 Q y s U σ) Q) l.toArray (l.drop k) (nxS P n l.toArray σ (List.replicate k 0) l s) U σ)(h:nxT P n l.toArray σ (List.replicate k 0) l s=some (tt [],tt []):=by kernel_rfl):SXC P n W0 Q (.seq (.region c l.toArray false) y) s U σ:=aJe (aBc (zq k a h))
theorem rIx{t : TypeId}(e : TypeId){x g : Operand}(k : o.op = .indexAddr t x g)(b f a c i h : Nat)(d : i < a := by first | assumption | omega)(u : evS s x = some (.slice (some ⟨b, f, none⟩) a c) := by kernel_rfl)(j : evS s g = some (.int .i64 (i : Int)) := by kernel_rfl)
  (r:P.underlying t=some (.slice e):=by kernel_rfl) (q:(P.info? e).map (·.size)=some h:=by kernel_rfl):∀W:World,(execOp (ev s) o).run P W=.ok (.value (.pointer (some ⟨b,f+i*h,none⟩))) W:=lR t e x g k b f a c i h .i64 u j d r q
theorem i6v{x:Int}(h: -9223372036854775808≤x∧x≤9223372036854775807:=by first|omega|(simp only[go_num];omega)):Value.int .i64 (IntKind.i64.wrap x)=.int .i64 x:=Ag (Value.int .i64) (IntWalk.i64_in _ h)
theorem zU(b f : Nat)(cs : List Value)(g : U.range b f cs)(c : TypeId)(x : Operand)(d : TypeDesc)(r : P.underlying c = some d)(a : d.isRow = true)
  (h:SXL P n W0 Q ops l (lT o (.agg cs.toArray) s) U σ) (q:o.op=.load c x:=by rfl) (y:evS s x=some (.pointer (some ⟨b,f,none⟩)):=by kernel_rfl) (k:(P.info? c).map (·.size)=some cs.length:=by kernel_rfl) (j:eX n o=true:=by kernel_rfl) (u:cU ops s o=some true:=by kernel_rfl):SXL P n W0 Q ops (o::l) s U σ:=aPh b f cs g c x q y d r a k j u h
theorem zV(b f : Nat)(v : Value)(g : U ⟨b, f, none⟩ = some v)(c : TypeId)(x : Operand)(d : TypeDesc)(q : P.underlying c = some d)(a : d.isRow = false)
  (h:SXL P n W0 Q ops l (lT o v s) U σ) (k:o.op=.load c x:=by rfl) (u:evS s x=some (.pointer (some ⟨b,f,none⟩)):=by kernel_rfl) (j:eX n o=true:=by kernel_rfl) (r:cU ops s o=some true:=by kernel_rfl):SXL P n W0 Q ops (o::l) s U σ:=aNT b f v g c x k u d q a j r h
theorem dE{f : FuncId}{g : Func}{c : Code}{d : List Value}{W : World}{R : Ending → World → Prop}{U : View}(n : Nat)(r : P.funcs[f]? = some g)(k : ∀ a v, U a = some v → W.cell? a = some v)(h : SXC P n ⟨W, U⟩ (aLm P n ⟨W, U⟩ g R) c (aNr 0 d) U [])
  (q:g.body=some c:=by rfl) (u:g.ntmps=n:=by rfl) (j:Nat.ble d.length n=true:=by rfl):Calls P f d.toArray W R:=aGL n U r q u j k h
theorem dI{f : FuncId}{d : Func}{c : Code}{a : List Value}{W : World}{R : Ending → World → Prop}(n : Nat)(k : P.funcs[f]? = some d)(h : SXC P n ⟨W, View.no⟩ (aLm P n ⟨W, View.no⟩ d R) c (aNr 0 a) View.no [])
  (j:d.body=some c:=by rfl) (q:d.ntmps=n:=by rfl) (g:Nat.ble a.length n=true:=by rfl):Calls P f a.toArray W R:=aGL n View.no k j q g (fun _ _ h=>by cases h) h
def aN5(P : Program)(s : aZ)(σ : aN) : List ResultVar → List Nat → Option (List Value × List (Nat × Option Nat) × List (Nat × Option Nat))
 | [],[]=>some ([],[],[])
 | .tmp t::rs,0::ks=>match look s t,aN5 P s σ rs ks with
  |some v,some (vs,x,y)=>some (v::vs,x,y)
  |_,_=>none
 | .cell c ty::rs,(k+1)::ks=>match aEh P σ k s c ty,aN5 P s σ rs ks with
  |some (v,r,b),some (vs,x,y)=>some (v::vs,r++x,r.map (fun _=>(b,none))++y)
  |_,_=>none
 |_,_=>none
theorem aDr : ∀ (a : List ResultVar) (ks : List Nat) (vs : List Value) (x : List (Nat × Option Nat)), aN5 P s σ a ks = some (vs, x, x) → aB2 P s σ a vs
 | [],[],vs,x,h=>by
  simp only[aN5,Ab,Am]at h;rw[←h.1];trivial
 | .tmp t::a,0::ks,vs,x,h=>by
  simp only[aN5]at h;split at h
  ·next v g j A f d=>
   simp only[Ab,Am]at h;obtain⟨rfl,rfl,rfl⟩:=h;exact⟨f,aDr a ks _ _ d⟩
  ·cases h
 | .cell c ty::a,(k+1)::ks,vs,x,h=>by
  simp only[aN5]at h;split at h
  ·next v r b g j A f d=>
   simp only[Ab,Am]at h;obtain⟨rfl,rfl,y⟩:=h;obtain⟨q,u⟩:=Ha y (by simp);exact⟨⟨k,b,r.length,by rw[f];exact Ag (fun z=>some (v,z,b)) (q.symm.trans (Hc ..))⟩,aDr a ks _ j (by rw[d,u])⟩
  ·cases h
 | [],_::_,_,_,h=>by cases h
 | .tmp _::_,[],_,_,h=>by cases h
 | .cell _ _::_,[],_,_,h=>by cases h
 | .tmp _::_,(_+1)::_,_,_,h=>by cases h
 | .cell _ _::_,0::_,_,_,h=>by cases h
theorem dL{a:Func}{R:Ending→World→Prop}(ks:List Nat)(T:List (Nat×Nat))(vs:List Value)(h:∀W,Mem W0 U σ W→R (.returned (dC vs)) W)(c:aN5 P s σ a.results.toList ks=some (vs,tt T,tt T):=by kernel_rfl):aLm P n W0 a R .ret s U σ:=
 tP _ vs rfl (aDr _ ks vs _ c) h
theorem jn{α:Type}{A C D:α→Prop}(x:α)(a:A x)(c:C x:=by exact qR _ _ kR)(d:D x:=by exact fun _ h=>h.eqv kR):∃x,A x∧C x∧D x:=⟨x,a,c,d⟩
theorem nx{α:Type}{A B C D:α→Prop}(x:α)(a:A x)(b:B x)(c:C x:=by exact qR _ _ kR)(d:D x:=by exact fun _ h=>h.eqv kR):∃x,A x∧B x∧C x∧D x:=⟨x,a,b,c,d⟩
theorem eC(t:Nat)(x:Int)(h:SXL P n W0 Q ops l ((t,.int .i64 x)::s) U σ)(a:look s t=some (.int .i64 (IntKind.i64.wrap x)):=by kernel_rfl)(c: -9223372036854775808≤x∧x≤9223372036854775807:=by first|omega|(simp only[go_num];omega)):SXL P n W0 Q ops l s U σ:=
 aNU t _ _ a (Ag (Value.int .i64) (IntWalk.i64_in _ c)) h
theorem dK{f:FuncId}{a:Array Value}{v:Value}(c:∀W,Mem W0 U σ W→Calls P f a W (Ret v W))(h:SXL P n W0 Q ops l (lT o v s) U σ)(g:enters P s o=some (f,a):=by kernel_rfl)(d:eX n o=true:=by kernel_rfl)(j:cU ops s o=some true:=by kernel_rfl):SXL P n W0 Q ops (o::l) s U σ:=
 aFq f a v g c d j h
theorem pO{f : FuncId}{a : Array Value}{Φ : Value → View → Prop}(c : ∀ W, Mem W0 U σ W → Calls P f a W (fO W U Φ))
  (h:∀v V,View.le U V→Φ v V→SXL P n W0 Q ops l (lT o v s) V σ) (g:enters P s o=some (f,a):=by kernel_rfl) (d:eX n o=true:=by kernel_rfl) (j:cU ops s o=some true:=by kernel_rfl):SXL P n W0 Q ops (o::l) s U σ:=
 aGO f a Φ g c d j h
theorem iZ{a:Func}{v:Value}{w:World}(t:Nat)(d:∀W,Mem W0 U σ W→Below w.heap.size w W:=by exact fun _ h=>h.below)(g:look s t=some v:=by kernel_rfl)(f:a.results.toList=[.tmp t]:=by rfl):aLm P n W0 a (Ret v w) .ret s U σ:=
 tP [.tmp t] [v] f ⟨g,trivial⟩ fun W c=>⟨rfl,d W c⟩
theorem eY{α : Type}{c : Code}(Sf : α → aZ)(Uf : α → View)(Of : α → aN)(a : α → Prop)(μ : α → Nat)(f : α)(j : a f)
  (round:∀x,a x→SXC P n W0 (aFm (fun s' g σ'=>∃d,a d∧μ d<μ x∧(∀t v,look (Sf d) t=some v→look s' t=some v)∧(∀W,Mem W0 g σ' W→Mem W0 (Uf d) (Of d) W)) Q) c (Sf x) (Uf x) (Of x))
  (k:∀t v,look (Sf f) t=some v→look s t=some v:=by exact qR _ _ kR) (hm:∀W,Mem W0 U σ W→Mem W0 (Uf f) (Of f) W:=by exact fun _ h=>h.eqv kR):SXC P n W0 Q (.loop c) s U σ:=aNS Sf Uf Of a μ f j k hm round
end
end Go.Proofs.YtcdjakemdlinhaaGreatDoor.Sx
