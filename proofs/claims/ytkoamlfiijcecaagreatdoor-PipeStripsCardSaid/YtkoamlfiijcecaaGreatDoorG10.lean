/-
  Several texts in one: Sx24 Mix5 Mix6 Sx25 Sx26 Sx27 Sx28 Sx29 NumsS Enf Bli1 Egn1 Mix7 Mix8 Sco1 Sco2 Bcb1 Bcb2 Rfb1 Rfb2 Lbw Lbs Lbl Lbx Opb Pip1 Pip2 Pip3 Sxl.
  Conditions: named at each.
-/
import Derived.Test.YtkoamlfiijcecaaGreatDoorG09
import Derived.WalkLawsBesides
import Derived.Lib.Hide
import Derived.Deep.AppendLies
import Derived.OwnWalk
import Derived.Laws.OwnMore
import Derived.BigRegion
set_option maxHeartbeats 16000000
set_option linter.unusedSimpArgs false
set_option linter.unusedVariables false
set_option linter.unusedSectionVars false
namespace Go.Proofs.YtkoamlfiijcecaaGreatDoor.Sx
open Go.ChangeShapes Go.WideShapes Go.ChangeAt Go.RowKit Go.Deep Go.ChangeMaps Go.MapKept
theorem ME{α:Type}(key:α->Value):∀(i:Nat) (m:List (α×Int)) (k:Nat),k<m.length->(mEs key i m).findIdx? (λe=>(e.born:Int)==((i+k:Nat):Int))=some k
 |i,[],k,h=>by simp at h
 |i,(a,u)::r,0,_=>by simp[mEs,List.findIdx?_cons]
 |i,(a,u)::r,k+1,h=>by
  have f:=ME key (i+1) r k (by simpa using h);rw[mEs,List.findIdx?_cons];have d:((i:Int)==((i+(k+1):Nat):Int))=false:=M2.2 oW;simp only[d,N9,if_false];rw[show i+(k+1)=i+1+k by omega,f];rfl
theorem FY{β:Type}(f:β->β)(e:β):∀l:List β,(l++[e]).modify l.length f=l++[f e]
 | []=>rfl
 |x::l=>by
  have:=FY f e l;rw[T9,M9,List.modify_succ_cons,this];rfl
theorem FW{α:Type}[BEq α](x:α):∀(i:Nat) (m:List (α×Int)) (p:Nat×Value),mX x i m=some p->pB x (gP x m) m=m
 |i,[],_,h=>by cases h
 |i,(k,u)::r,p,h=>by
  unfold mX at h;split at h
  ·next d=>rw[pB,N1 d,gP,N1 d]
  ·next a=>rw[pB,M5 a,gP,M5 a,FW x (i+1) r p h]
section
variable {α:Type} [BEq α] [LawfulBEq α]
def VS(x:α)(m:List (α×Int)):Nat:=match mX x 0 m with
 |some (j,_)=>j
 |none=>m.length
theorem Vu(key:α->Value)(x:α):∀(i:Nat) (m:List (α×Int)) (j:Nat) (y:Value),mX x i m=some (j,y)->(mEs key i m)[j-i]? =some { key:=key x,val:=.int .i64 (gP x m),born:=j }/\j-i<m.length
 |i,[],_,_,h=>by cases h
 |i,(k,u)::r,j,y,h=>by
  unfold mX at h;split at h
  ·next f=>
   simp only[L0,N3]at h;obtain⟨rfl,rfl⟩:=h;rw[U9,mEs,gP,N1 f,eq_of_beq f];exact⟨rfl,by simp⟩
  ·next d=>
   have A:=MB x _ r j y h;obtain⟨g,B⟩:=Vu key x (i+1) r j y h;have a:j-i=(j-(i+1))+1:=by omega
   rw[a,mEs,gP,M5 d,Q7];exact⟨g,by rw[M9];omega⟩
theorem FX{β:Type}(f:β->β):∀(l:List β) (j:Nat),(∀e,l[j]? =some e->f e=e)->l.modify j f=l
 | [],j,_=>by cases j<;>rfl
 |x::l,0,h=>by
  have:=h x rfl;simp[this]
 |x::l,j+1,h=>by
  have:=FX f l j λe a=>h e (by simpa using a)
  simp[this]
variable {P:Program} {T:TypeId} {key:α->Value} {w:World} {b:Nat} {m:List (α×Int)}
theorem Pb(K:sU P T key)(f:w.heap[b]? =some (mO key m))(x:α):(Instr.mapEntry T (.map (some b)) (key x)).run P w=.ok (.tuple #[.int .i64 (gP x m),.int .i64 ((VS x m:Nat):Int)]) (setBlock w b (mO key (pB x (gP x m) m))):=by
 obtain⟨I,G,r,F,u,a,hs⟩:=K.law;unfold mO at f;have a:=a w x m;unfold VS;cases d:mX x 0 m with
 |none=>
  rw[d]at a;obtain⟨B,C,g⟩:=mC key x 0 0 m d;simp[Instr.mapEntry,run_underlying r,Go.MapKept.run_getObj_map f,u,a,F,Go.MapKept.run_setObj_map _ f,Result.andThen,setBlock,mO,B,C,g,goInt]
 |some p=>
  obtain⟨j,y⟩:=p;rw[d]at a;obtain⟨_,_,g,_⟩:=pC key x 0 0 m j y d;obtain⟨h,D⟩:=Vu key x 0 m j y d;rw[bV]at h D;have k:=hs w x;have E:=FX (λe:MapEntry=>{ e with key:=key x }) (mEs key 0 m) j λe A=>by
   rw[h]at A;obtain rfl:=N5 A;rfl
  rw[FW x 0 m _ d];simp[Instr.mapEntry,run_underlying r,Go.MapKept.run_getObj_map f,u,a,h,k,Go.MapKept.run_setObj_map _ f,Result.andThen,setBlock,mO,E,g,goInt]
theorem Iy(x:α)(f:w.heap[b]? =some (mO key (pB x (gP x m) m)))(v:Int):(Instr.entryStore T (.map (some b)) (.int .i64 ((VS x m:Nat):Int)) (.int .i64 v)).run P w=.ok () (setBlock w b (mO key (pB x v m))):=by
 unfold mO at f;unfold VS;cases h:mX x 0 m with
 |none=>
  obtain⟨B,C,F⟩:=mC key x (gP x m) 0 m h;obtain⟨k,r,D⟩:=mC key x v 0 m h;have a:=ME key 0 (pB x (gP x m) m) m.length oW;rw[O0]at a;have d:(mEs key 0 (pB x (gP x m) m)).modify m.length (λe=>{ e with val:=.int .i64 v })=mEs key 0 (pB x v m):=by
   have E:=Vv key 0 m;rw[B,k];rw[<-E,FY]
  simp[Instr.entryStore,Go.MapKept.run_getObj_map f,asInt,asIntOf,a,Go.MapKept.run_setObj_map _ f,Result.andThen,setBlock,mO,d,C,r]
 |some p=>
  obtain⟨j,y⟩:=p;rw[FW x 0 m _ h]at f;obtain⟨k,r,D,e,G,I⟩:=pC key x v 0 m j y h;obtain⟨u,A⟩:=Vu key x 0 m j y h;rw[bV]at k u A;have a:=ME key 0 m j A;rw[O0]at a;have d:(mEs key 0 m).modify j (λe=>{ e with val:=.int .i64 v })=mEs key 0 (pB x v m):=by
   rw[k];apply List.ext_getElem?;intro i;rw[List.getElem?_modify,List.getElem?_modify];by_cases g:j=i
   ·subst g;rw[u];rfl
   ·simp[g]
  simp[Instr.entryStore,Go.MapKept.run_getObj_map f,asInt,asIntOf,a,Go.MapKept.run_setObj_map _ f,Result.andThen,setBlock,mO,d,r]
end
section
variable {P:Program} {n:Nat} {W0:Cx} {s:cA} {U:View} {σ0:aH} {ops:Array Oper} {ds:List Nat} {vs:List Sq}
structure Ag (P : Program) (n : Nat) (W0 : Cx) (U : View) (σ σ2 : aH) (ops : Array Oper) (ds : List Nat) (vs : List Sq) (s : cA) (i : Nat) : Prop where
 go:∃(o:Oper) (ts:List Nat) (vals:(Nat->Value)->List Value) (val:Value),ops[i]? =some o/\o.guard=none/\vs[i]? =some (.val val)/\(∀u,(ts.map λx=>look (iK ops ds vs u i++aV s ds) x)=(vals u).map some)/\
  ∀(u:Nat->Value) (V:View),View.le U V->(∀j,cH .any ops i j=true->gE vs j (u j) V)->∀(a:Act) (W:World),pR n (ts.zip (vals u)) a->Mem W0 V σ W->∀(K:Act->World->Prop) (Q:Exit->Act->World->Prop),(∀W',Mem W0 V σ2 W'->K (a.put o.dst val) W')->o.wp P a W K Q
def ObT(P:Program)(n:Nat)(W0:Cx)(U:View)(σ σ2:aH)(ops:Array Oper)(ds:List Nat)(vs:List Sq)(s:cA)(i k:Nat):Prop:=
 if k=i then Ag P n W0 U σ σ2 ops ds vs s i else Oq P n W0 U σ ops ds vs s k/\Oq P n W0 U σ2 ops ds vs s k
theorem ObT.o{σ a:aH}{i:Nat}(k:Nat)(d:k≠i)(h:Oq P n W0 U σ ops ds vs s k)(f:Oq P n W0 U a ops ds vs s k):ObT P n W0 U σ a ops ds vs s i k:=by
 unfold ObT;rw[M5 d];exact⟨h,f⟩
theorem ObT.entry{σ f : aH}{i : Nat}{o : Oper}{T : TypeId}{α : Type}[BEq α][LawfulBEq α]{key : α -> Value}(K : sU P T key)(k b : Nat)(m : List (α × Int))(x : α)(F E : Operand)(h : ops[i]? = some o)(I : o.guard = none)(ho : o.op = .mapEntry T F E)(r : vs[i]? = some (.val (.tuple #[.int .i64 (gP x m), .int .i64 ((VS x m : Nat) : Int)])))
  (ts:List Nat) (d:(Nat->Value)->List Value) (j:∀u,(ts.map λx=>look (iK ops ds vs u i++aV s ds) x)=(d u).map some) (hm:∀u,evS (ts.zip (d u)) F=some (.map (some b))) (J:∀u,evS (ts.zip (d u)) E=some (key x)) (D:σ[k]? =some (b,mO key m)) (A:σ.set k (b,mO key (pB x (gP x m) m))=f):ObT P n W0 U σ f ops ds vs s i i:=by
 unfold ObT;rw[N1 rfl];subst A;refine⟨⟨o,ts,d,_,h,I,r,j,λu V _ _ a W C B L Q G=>?_⟩⟩;have g:=(B.own k b _ D).1;unfold Oper.wp execOp;simp only[ho,eH C (hm u),eH C (J u),Pb K g x,Sem.run_bind,Sem.run_pure,Result.andThen_ok];exact G _ (B.set k b _ _ D rfl rfl rfl (by simp[setBlock]) (heap_setBlock_same g _) (λi h=>heap_setBlock_other g _ h))
theorem Fa{σ : aH}{i : Nat}{o : Oper}{T : TypeId}{α : Type}[BEq α][LawfulBEq α]{key : α -> Value}(K : sU P T key)(k b : Nat)(m : List (α × Int))(x : α)(v : Int)(A r : Operand)(F : ops[i]? = some o)(E : o.guard = none)(ho : o.op = .lookup T A r false)(h : vs[i]? = some (.val (.int .i64 v)))(I : gP x m = v)
  (ts:List Nat) (d:(Nat->Value)->List Value) (g:∀u,(ts.map λx=>look (iK ops ds vs u i++aV s ds) x)=(d u).map some) (hm:∀u,evS (ts.zip (d u)) A=some (.map (some b))) (J:∀u,evS (ts.zip (d u)) r=some (key x)) (G:σ[k]? =some (b,mO key m)):Oq P n W0 U σ ops ds vs s i:=
 Oq.op i F _ h λu V M N=>by
  refine⟨by unfold dA;rw[E],λa W C j Q L B=>?_⟩;have D:=(j.own k b _ G).1;have f:=gJ ts _ C (g u);unfold Oper.wp execOp;simp only[ho,eH f (hm u),eH f (J u),Vw K D x,Sem.run_bind,Sem.run_pure,Result.andThen_ok,I];exact B _ W j rfl (Below.refl _ _)
structure Am (W0 : Cx) (U : View) (σ σ2 : aH) (vs : List Sq) (m i : Nat) (L : Nat -> Bool) (u : Nat -> Value) (w : World) (V : View) : Prop where
 le:View.le U V
 mem:Mem W0 V (if L i then σ2 else σ) w
 at_:∀j,j<m->L j=true->pQ vs j (u j) V
theorem Yg{id : Nat}{l : List Oper}{Q : XQ}(m f r : Nat)(ds : List Nat)(vs : List Sq)(i : Nat)(E : aH)(hm : P.follows .mixedOrders = true)(a7 : l.length = m + f)(a1 : ds.length = m)
  (b2:pI l.toArray ds=true) (a6:nodupB ds=true) (b7:(ds.all λd=>Nat.blt d n)=true) (M:fQ .any l.toArray m=true) (Y:lP .any l.toArray m r=true) (G:jV l.toArray m f=true) (O:∀q∈vs,mY q)
  (b6:i<m)
  (c1:Go.Proofs.YtkoamlfiijcecaaGreatDoor.Steps (ObT P n W0 U σ0 E l.toArray ds vs s i) 0 m)
  (ts:List Nat) (D:(Nat->Value)->List Value) (X:∀u,(ts.map λt=>look (IF u 0 ds vs++aV s ds) t)=(D u).map some)
  (h:∀(u:Nat->Value) (V:View),View.le U V->(∀j,j<m->gE vs j (u j) V)->SXL P n W0 Q l.toArray (l.drop m) (ts.zip (D u)) V E):SXC P n W0 Q (.region id l.toArray true) s U σ0:=by
 refine⟨λa W Z hM=>?_⟩;have hn:=jW a6;have hd:∀d∈ds,d<n:=λd hd=>by have:=M7.1 b7 d hd;simpa[Z5]using this
 refine lS m f r ds (λL u w=>∃V,Am W0 U σ0 E vs m i L u w V) hm (by simpa using a7) a1 b2 a6 M Y ?_ ?_ ?_
 ·intro u;exact⟨U,⟨View.le_refl _,hM.drew,λj _ A=>by simp at A⟩⟩
 ·rintro k c6 L u w ⟨V,I⟩ a8 B c2 K hK;have C:=c1.get k (M8 _) oW;unfold ObT at C;split at C
  ·next N=>
   subst N;obtain⟨o,ts,D,val,ho,b3,b9,X,b4⟩:=C.go;have hr:=iM (a0:=a) (u:=u) (V:=V) (vs:=vs) (ops:=l.toArray) k Z hn hd λj A=>.inl (I.at_ j (B j A).2 (B j A).1)
   unfold wpOp;simp only[ho,Region.wanted,b3,if_true];left;have g:=I.mem;rw[a8]at g;refine b4 u V I.le (λj A=>(I.at_ j (B j A).2 (B j A).1).phi) _ w (gJ ts _ hr (X u)) g _ _ λW' J=>?_
   have:=hK val W' ⟨V,⟨I.le,by rw[N1 rfl,N1 rfl];exact J,λj A F=>?_⟩⟩
   ·rw[ho]at this;exact this
   ·by_cases e:j=k
    ·subst e;rw[N1 rfl];unfold pQ;rw[b9]
    ·rw[M5 e]at F ⊢;exact I.at_ j A F
  ·next N=>
   have b1:Oq P n W0 U (if L i then E else σ0) l.toArray ds vs s k:=by
    cases L i
    ·exact C.1
    ·exact C.2
   have b0:Mem W0 U (if L i then E else σ0) w:=I.mem.weak I.le;refine(b1.go a (up n W0 Q) Z hn hd O).step u w b0 (λj A=>(I.at_ j (B j A).2 (B j A).1).isQ I.mem I.le) K λv w' J hE hv=>?_
   obtain⟨V',h1,h2,h3⟩:=hv.at J;obtain⟨q1,q2,q3⟩:=Mem.join (I.mem.call hE) h2;refine hK v w' ⟨V.or V',⟨View.le_trans I.le q2,by have b5:(if i=k then true else L i)=L i:=M5 (λe=>N e.symm);simp only[b5];exact q1,λj A F=>?_⟩⟩;by_cases e:j=k
   ·subst e;rw[N1 rfl];exact h3.le O q3
   ·rw[M5 e]at F ⊢;exact(I.at_ j A F).le O q2
 ·rintro L u W' ⟨V,I⟩ F;refine iC f m _ W' (by simpa using a7.symm) G ?_;have hg:=λt=>gB ds 0 u a t hn (by rw[Z.size];exact hd)
  have b8:∀j,j<m->gE vs j (u j) V:=λj A=>(I.at_ j A (F j A)).phi
  have g:=I.mem;rw[F i b6,N1 rfl]at g;refine(h u V I.le b8).go _ W' (gJ ts _ (s':=IF u 0 ds vs++aV s ds) ⟨by rw[(hg 0).2.2.1,Z.size],by rw[(hg 0).2.2.2,Z.defers],λx v hl=>?_⟩ (X u)) g;rcases eW _ _ _ _ hl with hl|⟨_,hl⟩
  ·have g:=iT _ _ _ hl;obtain⟨j,q,hd2,c0,hq⟩:=lY u 0 _ _ _ _ g;have c4:j<ds.length:=(L8.1 hd2).1;rw[(hg x).1 j hd2,O0];cases q with
   |val w=>
    simp only at hq;have:=I.at_ j oW (F j oW);unfold pQ at this;rw[c0]at this;simp only at this;rw[this,hq]
   |mem Φ=>simp only[O0]at hq;rw[hq]
  ·obtain⟨h1,h2⟩:=fH _ _ _ _ hl;rw[(hg x).2.1 h1];exact Z.slots x v h2
end
section
variable {P:Program} {n:Nat} {W0:Cx} {Q:XQ} {s:cA} {U:View} {σ:aH} {ops:Array Oper} {l:List Oper} {o:Oper} {T:TypeId} {α:Type} [BEq α] [LawfulBEq α] {key:α->Value}
theorem Ri(k b : Nat)(m : List (α × Int))(x : α)(v : Int)(A u B : Operand)(ho : o.op = .entryStore T A u B)(hm : evS s A = some (.map (some b)))(G : evS s u = some (.int .i64 ((VS x m : Nat) : Int)))(E : evS s B = some (.int .i64 v))(r : σ[k]? = some (b, mO key (pB x (gP x m) m)))
  (j:fF n o=true) (F:dA ops s o=some true) (h:SXL P n W0 Q ops l (lQ o undef s) U (σ.set k (b,mO key (pB x v m)))):SXL P n W0 Q ops (o::l) s U σ:=by
 refine oT j F λa W d g I C=>?_
 have f:=(g.own k b _ r).1;unfold Oper.wp execOp;simp only[ho,eH d hm,eH d G,eH d E,Iy x f v,Sem.run_bind,Sem.run_pure,Result.andThen_ok];exact C _ _ _ _ _ h (eL d j) (g.set k b _ _ r rfl rfl rfl (by simp[setBlock]) (heap_setBlock_same f _) (λi D=>heap_setBlock_other f _ D))
end
end Go.Proofs.YtkoamlfiijcecaaGreatDoor.Sx
namespace Go.Proofs.YtkoamlfiijcecaaGreatDoor.Sx
open Go.ChangeShapes Go.WideShapes Go.ChangeAt Go.RowKit Go.Deep
theorem ES{p:Pr}{l:List Bk}{q:List Op}(h:aK p l=0)(a:qQ l=some q):mF p l=Zk p l q:=by
 unfold mF;rw[h,a];rfl
theorem fL{p:Pr}{l:List Bk}(h:aK p l=0):l.length<=16/\∀x∈l,x.d.length<=4000:=by
 unfold aK sL at h;split at h
 ·next d=>rw[show([],fO p l).2=fO p l from rfl]at h;rw[h]at d;cases d
 ·next k=>
  split at h
  ·next d=>rw[show([],fG p l).2=fG p l from rfl]at h;rw[h]at d;cases d
  ·next g=>
   have a:fO p l=0:=by simpa using k
   refine⟨IZ (by simpa using g),λx u=>?_⟩;have f:II l=0:=by
    unfold fO at a;split at a
    ·next d=>rw[a]at d;cases d
    ·exact a
   have r:cX x=0:=by
    unfold II at f;split at f
    ·next y A=>
     have:=bX A;rw[f]at this;cases this
    ·next j=>
     have:=bH.1 j x u;simpa using this
   have:=(iG r).2.2.2.2.2;omega
theorem VP{l:List Bk}{q:List Op}(h:qQ l=some q):q.length<=32*l.length:=by
 unfold qQ at h;split at h
 ·cases h
 ·next se a=>
  split at h
  ·cases h
  ·next si d=>
   obtain rfl:=N5 h;have f:=pZ a;have g:=pZ d;rw[L4];omega
section
variable {P:Program} {n:Nat} {W0:Cx} {Q:XQ} {s:cA} {U:View} {σ:aH} {ops:Array Oper} {l:List Oper} {o:Oper}
theorem Gg(k b f : Nat)(cs ys : List Value)(t r : TypeId)(x : Operand)(ho : o.op = .load r x)(L : evS s x = some (.pointer (some ⟨b, f, none⟩)))(E : σ[k]? = some (b, .cells cs.toArray t (0, 0)))(F : ∀ j v, ys[j]? = some v -> cs[f + j]? = some v)(d : TypeDesc)(G : P.underlying r = some d)(g : d.isRow = true)(D : (P.info? r).map (·.size) = some ys.length)
  (B:fF n o=true) (J:dA ops s o=some true) (h:SXL P n W0 Q ops l (lQ o (.agg ys.toArray) s) U σ):SXL P n W0 Q ops (o::l) s U σ:=by
 refine oT B J λa W A u K C=>?_
 have hR:=cI u k b cs t E;refine wp_load_mid r x ho b f (eH A L) ys d (λj v I=>?_) G g D ?_
 ·have:=hR (f+j) v (F j v I);rwa[O0]at this
 ·exact C _ _ _ _ _ h (eL A B) u
end
section
variable {P:Program} {n:Nat} {W0:Cx} {s:cA} {U:View} {σ:aH} {ops:Array Oper} {ds:List Nat} {vs:List Sq}
end
abbrev RG:=(Nat->Bool)->(Nat->Value)->View->aH->Prop
def Ch2(i j:Nat)(init:aH)(A1 A2:Value->View->aH->Prop):RG:=λL u V S=>if L j then A2 (u i) V S else if L i then A1 (u i) V S else S=init
def Ch1(j:Nat)(init:aH)(A:Value->View->aH->Prop):RG:=λL u V S=>if L j then A (u j) V S else S=init
def XB(R:RG):Prop:=∀L u V V' S,View.le V V'->R L u V S->R L u V' S
def XC(c:Nat->Bool)(R:RG):Prop:=∀k L u v V S,c k=false->R L u V S->R (λj=>if j=k then true else L j) (λj=>if j=k then v else u j) V S
theorem Ch2.mono{i j:Nat}{a:aH}{d f:Value->View->aH->Prop}(A:∀v V V' S,View.le V V'->d v V S->d v V' S)(B:∀v V V' S,View.le V V'->f v V S->f v V' S):XB (Ch2 i j a d f):=λL u V V' S r h=>by
 unfold Ch2 at h ⊢;split at h
 ·next g=>rw[N1 g];exact B _ _ _ _ r h
 ·next g=>
  rw[M5 g];split at h
  ·next k=>rw[N1 k];exact A _ _ _ _ r h
  ·next k=>rw[M5 k];exact h
theorem Ch2.keep{i j:Nat}{a:aH}{f g:Value->View->aH->Prop}:XC (λk=>k==i||k==j) (Ch2 i j a f g):=λk L u v V S d h=>by
 simp only[Bool.or_eq_false_iff,M2]at d;have r:(if i=k then v else u i)=u i:=M5 λe=>d.1 e.symm
 have A:(if i=k then true else L i)=L i:=M5 λe=>d.1 e.symm
 have B:(if j=k then true else L j)=L j:=M5 λe=>d.2 e.symm
 show if(if j=k then true else L j)then g (if i=k then v else u i) V S else if(if i=k then true else L i)then f (if i=k then v else u i) V S else S=a
 rw[r,A,B];exact h
theorem Ch2.first{i j:Nat}{a:aH}{d g:Value->View->aH->Prop}{L:Nat->Bool}{u:Nat->Value}{v:Value}{V:View}{S:aH}(f:i≠j)(A:L j=false)(h:d v V S):Ch2 i j a d g (λx=>if x=i then true else L x) (λx=>if x=i then v else u x) V S:=by
 have k:(if j=i then true else L j)=false:=(M5 λe=>f e.symm).trans A;show if(if j=i then true else L j)then g (if i=i then v else u i) V S else if(if i=i then true else L i)then d (if i=i then v else u i) V S else S=a
 have r:(if i=i then v else u i)=v:=N1 rfl;rw[k,r,M5 M3,N1 (by rw[N1 rfl])];exact h
theorem Ch2.second{i j:Nat}{a:aH}{g d:Value->View->aH->Prop}{L:Nat->Bool}{u:Nat->Value}{v:Value}{V:View}{S:aH}(f:i≠j)(h:d (u i) V S):Ch2 i j a g d (λx=>if x=j then true else L x) (λx=>if x=j then v else u x) V S:=by
 have k:(if i=j then v else u i)=u i:=M5 f;show if(if j=j then true else L j)then d (if i=j then v else u i) V S else if(if i=j then true else L i)then g (if i=j then v else u i) V S else S=a
 rw[k,N1 (by rw[N1 rfl])];exact h
theorem Ch1.only{j:Nat}{a:aH}{A:Value->View->aH->Prop}{L:Nat->Bool}{u:Nat->Value}{v:Value}{V:View}{S:aH}(h:A v V S):Ch1 j a A (λx=>if x=j then true else L x) (λx=>if x=j then v else u x) V S:=by
 have e:(if j=j then v else u j)=v:=N1 rfl;show if(if j=j then true else L j)then A (if j=j then v else u j) V S else S=a
 rw[e,N1 (by rw[N1 rfl])];exact h
theorem Ch1.mono{j:Nat}{a:aH}{A:Value->View->aH->Prop}(f:∀v V V' S,View.le V V'->A v V S->A v V' S):XB (Ch1 j a A):=λL u V V' S g h=>by
 unfold Ch1 at h ⊢;split at h
 ·next d=>rw[N1 d];exact f _ _ _ _ g h
 ·next d=>rw[M5 d];exact h
theorem Ch1.keep{j:Nat}{a:aH}{A:Value->View->aH->Prop}:XC (λk=>k==j) (Ch1 j a A):=λk L u v V S d h=>by
 simp only[M2]at d;have f:(if j=k then v else u j)=u j:=M5 λe=>d e.symm
 have g:(if j=k then true else L j)=L j:=M5 λe=>d e.symm
 show if(if j=k then true else L j)then A (if j=k then v else u j) V S else S=a
 rw[f,g];exact h
section
variable {P:Program} {n:Nat} {W0:Cx} {s:cA} {U:View} {σ0:aH}
def GQ(P:Program)(n:Nat)(W0:Cx)(U:View)(ops:Array Oper)(ds:List Nat)(vs:List Sq)(s:cA)(R:RG)(k:Nat):Prop:=
 ∃(o:Oper) (ts:List Nat) (vals:(Nat->Value)->List Value),ops[k]? =some o/\o.guard=none/\(∀u,(ts.map λx=>look (iK ops ds vs u k++aV s ds) x)=(vals u).map some)/\
  ∀(L:Nat->Bool) (u:Nat->Value) (V:View) (own:aH),View.le U V->(∀j,cH .any ops k j=true->gE vs j (u j) V)->(∀j,cH .any ops k j=true->L j=true)->(∀k j,L k=true->cH .any ops k j=true->L j=true)->L k=false->R L u V own->
   ∀(rest:aH) (a:Act) (W:World),pR n (ts.zip (vals u)) a->Mem W0 V (own++rest) W->∀(Q:Exit->Act->World->Prop) (K:Act->World->Prop),
    (∀v W' V' own',View.le V V'->Mem W0 V' (own'++rest) W'->R (λj=>if j=k then true else L j) (λj=>if j=k then(if o.dst.isSome then v else u k)else u j) V' own'->pQ vs k (if o.dst.isSome then v else u k) V'->K (a.put o.dst v) W')->o.wp P a W K Q
def ObG(P:Program)(n:Nat)(W0:Cx)(U:View)(σ:aH)(ops:Array Oper)(ds:List Nat)(vs:List Sq)(s:cA)(ca cb:Nat->Bool)(RA RB:RG)(k:Nat):Prop:=
 if ca k then GQ P n W0 U ops ds vs s RA k else if cb k then GQ P n W0 U ops ds vs s RB k else∀σ',Oq P n W0 U (σ++σ') ops ds vs s k
theorem ObG.o{σ:aH}{ops:Array Oper}{ds:List Nat}{vs:List Sq}{a d:Nat->Bool}{RA RB:RG}(k:Nat)(f:a k=false)(g:d k=false)(h:∀σ',Oq P n W0 U (σ++σ') ops ds vs s k):ObG P n W0 U σ ops ds vs s a d RA RB k:=by
 unfold ObG;rw[M5 (by rw[f];exact M3),M5 (by rw[g];exact M3)];exact h
theorem ObG.a{σ:aH}{ops:Array Oper}{ds:List Nat}{vs:List Sq}{a d:Nat->Bool}{RA RB:RG}(k:Nat)(f:a k=true)(h:GQ P n W0 U ops ds vs s RA k):ObG P n W0 U σ ops ds vs s a d RA RB k:=by
 unfold ObG;rw[N1 f];exact h
theorem ObG.b{σ:aH}{ops:Array Oper}{ds:List Nat}{vs:List Sq}{a d:Nat->Bool}{RA RB:RG}(k:Nat)(f:a k=false)(g:d k=true)(h:GQ P n W0 U ops ds vs s RB k):ObG P n W0 U σ ops ds vs s a d RA RB k:=by
 unfold ObG;rw[M5 (by rw[f];exact M3),N1 g];exact h
theorem GQ.one{ops : Array Oper}{ds : List Nat}{vs : List Sq}{j : Nat}{r : aH}{A : Value -> View -> aH -> Prop}(Φ : Value -> View -> Prop)(hv : vs[j]? = some (.mem Φ))(J : ∀ v V S, A v V S -> Φ v V)
  (h:∃(o:Oper) (f:FuncId) (ts:List Nat) (d:(Nat->Value)->List Value),ops[j]? =some o/\o.guard=none/\o.dst.isSome=true/\(∀u,(ts.map λx=>look (iK ops ds vs u j++aV s ds) x)=(d u).map some)/\
   ∀(u:Nat->Value) (V:View),View.le U V->(∀k,cH .any ops j k=true->gE vs k (u k) V)->∃g,enters P (ts.zip (d u)) o=some (f,g)/\∀W rest,Mem W0 V (r++rest) W->Calls P f g W (gX W0 V rest A)):GQ P n W0 U ops ds vs s (Ch1 j r A) j:=by
 obtain⟨o,f,ts,d,ho,hg,O,I,F⟩:=h;refine⟨o,ts,d,ho,hg,I,λL u V own hl E a6 a1 C hR rest a W ha Z Q K Y=>?_⟩;have B:own=r:=by
  unfold Ch1 at hR;rw[M5 (by rw[C];exact M3)]at hR;exact hR
 subst B;obtain⟨g,he,hc⟩:=F u V hl E;unfold Oper.wp;rw[eU ha he];refine(hc W rest Z).mono ?_;rintro _ w' ⟨v,X,M,rfl,G,D,N⟩;refine Y v w' X M G D ?_ ?_
 ·rw[N1 O];exact Ch1.only N
 ·rw[N1 O];unfold pQ;rw[hv];exact J _ _ _ N
theorem GQ.alloc{ops : Array Oper}{ds : List Nat}{vs : List Sq}{i j : Nat}{x : Obj}{G : Value -> View -> aH -> Prop}(C : i ≠ j)(hw : cH .any ops j i = true)(hv : vs[i]? = some (.mem fun _ _ => True))(F : Nat -> Value)(ts : List Nat)(d : (Nat -> Value) -> List Value)(D : ∀ u, (ts.map fun x => look (iK ops ds vs u i ++ aV s ds) x) = (d u).map some)
  (h:∃o,ops[i]? =some o/\o.guard=none/\o.dst.isSome=true/\∀(u:Nat->Value),makes P (ts.zip (d u)) o=some (x,λr=>some (F r))):GQ P n W0 U ops ds vs s (Ch2 i j [] (KY F x) G) i:=by
 obtain⟨o,ho,X,E,Z⟩:=h;refine⟨o,ts,d,ho,X,D,λL u V own hl O N B f hR rest a W M J Q K I=>?_⟩;have g:L j=false:=by
  cases Y:L j with
  |false=>rfl
  |true=>rw[B j i Y hw]at f;cases f
 have k:own=[]:=by
  unfold Ch2 at hR;rw[M5 (by rw[g];exact M3),M5 (by rw[f];exact M3)]at hR;exact hR
 subst k;unfold Oper.wp;rw[mN M (Z u)];have A:Mem W0 V rest W:=J;refine I _ _ V [(W.heap.size,x)] (View.le_refl _) ((A.alloc x).perm Q2) ?_ ?_
 ·rw[N1 E];exact Ch2.first C g ⟨W.heap.size,rfl,rfl⟩
 ·rw[N1 E];unfold pQ;rw[hv];trivial
theorem GQ.store{ops : Array Oper}{ds : List Nat}{vs : List Sq}{i j : Nat}{x : Obj}{N : Nat -> Value}{O : Value -> View -> aH -> Prop}(I : i ≠ j)(hw : cH .any ops j i = true)(hv : vs[j]? = some (.mem fun _ _ => True))
  (h:∃(o:Oper) (ts:List Nat) (d:(Nat->Value)->List Value),ops[j]? =some o/\o.guard=none/\o.dst=none/\(∀u,(ts.map λx=>look (iK ops ds vs u j++aV s ds) x)=(d u).map some)/\
   ∀(u:Nat->Value) (V:View) (b:Nat),View.le U V->(∀k,cH .any ops j k=true->gE vs k (u k) V)->u i=N b->∃f,stK P [(b,x)] 0 (ts.zip (d u)) o=some (b,b,f)/\O (u i) V [(b,f)]):GQ P n W0 U ops ds vs s (Ch2 i j [] (KY N x) O) j:=by
 obtain⟨o,ts,d,ho,hg,X,J,G⟩:=h;refine⟨o,ts,d,ho,hg,J,λL u V own hl F E a1 C hR rest a W ha hM Q K hK=>?_⟩;have B:L i=true:=E i hw;have Z:KY N x (u i) V own:=by
  unfold Ch2 at hR;rw[M5 (by rw[C];exact M3),N1 B]at hR;exact hR
 obtain⟨b,M,rfl⟩:=Z;obtain⟨f,g,A⟩:=G u V b hl F M;have r:stK P ([(b,x)]++rest) 0 (ts.zip (d u)) o=some (b,b,f):=by
  unfold stK at g ⊢;exact g
 refine Ga 0 b f r X ha hM λY D=>?_
 have:=hK undef Y V [(b,f)] (View.le_refl _) D (Ch2.second I A) (by unfold pQ;rw[hv];trivial);rw[X]at this;exact this
structure Aj (W0 : Cx) (U : View) (σ : aH) (vs : List Sq) (m : Nat) (RA RB : RG) (L : Nat -> Bool) (u : Nat -> Value) (w : World) (V : View) (SA SB : aH) : Prop where
 le:View.le U V
 mem:Mem W0 V (SA++(SB++σ)) w
 at_:∀j,j<m->L j=true->pQ vs j (u j) V
 a:RA L u V SA
 b:RB L u V SB
theorem VN(A B C:aH):(A++(B++C)).Perm (B++(A++C)):=by
 rw[<-M6,<-M6];exact List.Perm.append_right C Q2
theorem VO(A B C:aH):(A++(B++C)).Perm (C++(A++B)):=by
 rw[<-M6];exact Q2
theorem Ye{id : Nat}{l : List Oper}{Q : XQ}(m f r : Nat)(ds : List Nat)(vs : List Sq)(ca cb : Nat -> Bool)(RA RB : RG)(SA SB σ : aH)(e6 : σ0.Perm (SA ++ (SB ++ σ)))(c7 : ∀ u, RA (fun _ => false) u U SA)(c8 : ∀ u, RB (fun _ => false) u U SB)
  (b5:XB RA) (b7:XB RB) (b4:XC ca RA) (b6:XC cb RB) (c9:∀k,ca k=true->cb k=false)
  (hm:P.follows .mixedOrders=true) (c6:l.length=m+f) (c1:ds.length=m)
  (e0:CA l.toArray ds=true) (c4:nodupB ds=true) (e2:(ds.all λd=>Nat.blt d n)=true) (a1:fQ .any l.toArray m=true) (b3:lP .any l.toArray m r=true) (M:jV l.toArray m f=true) (b0:∀q∈vs,mY q)
  (b2:((List.range m).all λk=>(ca k||cb k)||((l.toArray[k]?).bind (·.dst)).isSome)=true)
  (e7:Go.Proofs.YtkoamlfiijcecaaGreatDoor.Steps (ObG P n W0 U σ l.toArray ds vs s ca cb RA RB) 0 m)
  (ts:List Nat) (C:(Nat->Value)->List Value) (F:∀u,(ts.map λt=>look (IF u 0 ds vs++aV s ds) t)=(C u).map some)
  (h:∀(L:Nat->Bool) (u:Nat->Value) (V:View) (SA SB:aH),View.le U V->(∀j,j<m->L j=true)->(∀j,j<m->gE vs j (u j) V)->RA L u V SA->RB L u V SB->SXL P n W0 Q l.toArray (l.drop m) (ts.zip (C u)) V (SA++(SB++σ))):SXC P n W0 Q (.region id l.toArray true) s U σ0:=by
 refine⟨λa W ha hM=>?_⟩;have hn:=jW c4;have hd:∀d∈ds,d<n:=λd hd=>by have:=M7.1 e2 d hd;simpa[Z5]using this
 refine sN m f r ds (λL u w=>∃V SA SB,Aj W0 U σ vs m RA RB L u w V SA SB) hm (by simpa using c6) c1 e0 c4 a1 b3 ?_ ?_ ?_
 ·intro u;exact⟨U,SA,SB,⟨View.le_refl _,(hM.perm e6).drew,λj _ g=>by simp at g,c7 u,c8 u⟩⟩
 ·rintro k e1 L u w ⟨V,SA,SB,I⟩ b8 A b9 K hK;have D:=e7.get k (M8 _) oW;have a8:∀(v:Value) (J:View),View.le V J->pQ vs k v J->∀j,j<m->(if j=k then true else L j)=true->pQ vs j (if j=k then v else u j) J:=λv J B hs j g hL=>by
   by_cases e:j=k
   ·subst e;rw[N1 rfl];exact hs
   ·rw[M5 e]at hL ⊢;exact(I.at_ j g hL).le b0 B
  unfold ObG at D;split at D
  ·next N=>
   obtain⟨o,ts,C,ho,a6,F,a7⟩:=D;have hr:=iM (a0:=a) (u:=u) (V:=V) (vs:=vs) (ops:=l.toArray) k ha hn hd λj g=>.inl (I.at_ j (A j g).2 (A j g).1)
   unfold wpOp;simp only[ho,Region.wanted,a6,if_true];left;refine a7 L u V SA I.le (λj g=>(I.at_ j (A j g).2 (A j g).1).phi) (λj g=>(A j g).1) b9 b8 I.a (SB++σ) _ w (gJ ts _ hr (F u)) I.mem _ _ λv w' J G B E Z b1=>?_
   have:=hK v w' ⟨J,G,SB,?_⟩
   ·rw[ho]at this;exact this
   ·rw[ho];exact⟨View.le_trans I.le B,E,a8 _ _ B b1,Z,b7 _ _ _ _ _ B (b6 k L u _ V SB (c9 k N) I.b)⟩
  ·next N=>
   split at D
   ·next c0=>
    obtain⟨o,ts,C,ho,a6,F,a7⟩:=D;have hr:=iM (a0:=a) (u:=u) (V:=V) (vs:=vs) (ops:=l.toArray) k ha hn hd λj g=>.inl (I.at_ j (A j g).2 (A j g).1)
    unfold wpOp;simp only[ho,Region.wanted,a6,if_true];left;refine a7 L u V SB I.le (λj g=>(I.at_ j (A j g).2 (A j g).1).phi) (λj g=>(A j g).1) b9 b8 I.b (SA++σ) _ w (gJ ts _ hr (F u)) (I.mem.perm (VN _ _ _)) _ _ λv w' J G B E Z b1=>?_
    have:=hK v w' ⟨J,SA,G,?_⟩
    ·rw[ho]at this;exact this
    ·rw[ho];exact⟨View.le_trans I.le B,E.perm (VN _ _ _),a8 _ _ B b1,b5 _ _ _ _ _ B (b4 k L u _ V SA (by simpa using N) I.a),Z⟩
   ·next c0=>
    have O:ca k=false:=by simpa using N
    have X:cb k=false:=by simpa using c0
    have e4:((l.toArray[k]?).bind (·.dst)).isSome=true:=by
     have:=M7.1 b2 k (S4.2 e1);rw[O,X,Bool.or_false,R5]at this;exact this
    have Y:Mem W0 V (σ++(SA++SB)) w:=I.mem.perm (VO _ _ _);refine((D (SA++SB)).go a (up n W0 Q) ha hn hd b0).step u w (Y.weak I.le) (λj g=>(I.at_ j (A j g).2 (A j g).1).isQ Y I.le) K λv w' E hE hv=>?_
    obtain⟨J,h1,h2,h3⟩:=hv.at E;obtain⟨q1,q2,q3⟩:=Mem.join (Y.call hE) h2;refine hK v w' ⟨V.or J,SA,SB,⟨View.le_trans I.le q2,q1.perm (VO _ _ _).symm,?_,b5 _ _ _ _ _ q2 (b4 k L u _ V SA O I.a),b7 _ _ _ _ _ q2 (b6 k L u _ V SB X I.b)⟩⟩;rw[N1 e4];exact a8 _ _ q2 (h3.le b0 q3)
 ·rintro L u W' ⟨V,SA,SB,I⟩ hL;refine iC f m _ W' (by simpa using c6.symm) M ?_;have hg:=λt=>gB ds 0 u a t hn (by rw[ha.size];exact hd)
  have e3:∀j,j<m->gE vs j (u j) V:=λj g=>(I.at_ j g (hL j g)).phi
  refine(h L u V SA SB I.le hL e3 I.a I.b).go _ W' (gJ ts _ (s':=IF u 0 ds vs++aV s ds) ⟨by rw[(hg 0).2.2.1,ha.size],by rw[(hg 0).2.2.2,ha.defers],λx v B=>?_⟩ (F u)) I.mem;rcases eW _ _ _ _ B with B|⟨_,B⟩
  ·have c2:=iT _ _ _ B;obtain⟨j,q,hd2,e5,hq⟩:=lY u 0 _ _ _ _ c2;have e8:j<ds.length:=(L8.1 hd2).1;rw[(hg x).1 j hd2,O0];cases q with
   |val w=>
    simp only at hq;have:=I.at_ j oW (hL j oW);unfold pQ at this;rw[e5]at this;simp only at this;rw[this,hq]
   |mem Φ=>simp only[O0]at hq;rw[hq]
  ·obtain⟨h1,h2⟩:=fH _ _ _ _ B;rw[(hg x).2.1 h1];exact ha.slots x v h2
end
theorem Qs{s : cA}{o : Oper}(r : TypeId)(x y : Operand)(ho : o.op = .binOp .neq 58 x y r)(a d f g : Int)(h : List UInt8)
  (j:evS s x=some (.agg #[.int .i64 a,.int .i64 d,.int .u64 f,.int .i64 g,.string (B h)])) (k:evS s y=some (.agg #[.int .i64 a,.int .i64 d,.int .u64 f,.int .i64 g,.string (B h)])) (W:World):
  (execOp (ev s) o).run Tryz.prog W=.ok (.value (.bool false)) W:=by
 unfold execOp;simp only[ho,eM j,eM k]
 go_simp
theorem Qt{s : cA}{o : Oper}(f : TypeId)(x y : Operand)(ho : o.op = .binOp .neq 26 x y f)(p : Pr)
  (a:evS s x=some p.V) (d:evS s y=some p.V) (W:World):
  (execOp (ev s) o).run Tryz.prog W=.ok (.value (.bool false)) W:=by
 unfold execOp;simp only[ho,eM a,eM d];unfold Pr.V Pr.cs
 go_simp
end Go.Proofs.YtkoamlfiijcecaaGreatDoor.Sx
namespace Go.Proofs.YtkoamlfiijcecaaGreatDoor
open Go.ChangeShapes Go.WideShapes Go.ChangeAt Go.RowKit Go.Deep
def qN(w:World)(b:Nat)(t:TypeId)(k:IntKind)(l:List Nat):Prop:=w.heap[b]? =some (.cells (Zl k l) t (0,0))
theorem qN.cell{w:World}{b:Nat}{t:TypeId}{k:IntKind}{l:List Nat}(h:qN w b t k l)(i:Nat)(a:i<l.length):w.cell? ⟨b,i,none⟩=some (.int k ((l.getD i 0:Nat):Int)):=by
 rw[cell_of_row _ b i _ _ _ h,Wg k a]
theorem qN.frozen{w:World}{b:Nat}{t:TypeId}{k:IntKind}{l:List Nat}(h:qN w b t k l)(i:Nat):w.frozen? ⟨b,i,none⟩=false:=frozen_of_row w b i _ t h
theorem qN.set{w:World}{b:Nat}{t:TypeId}{k:IntKind}{l:List Nat}(h:qN w b t k l)(i v:Nat):qN (w.setCell ⟨b,i,none⟩ (.int k (v:Int))) b t k (l.set i v):=by
 unfold qN;rw[Go.heap_setCell_same w b i _ t _ h,Pg]
theorem qN.new(w:World)(t:TypeId)(k:IntKind)(l:List Nat):qN (w.alloc (.cells (Zl k l) t)) w.heap.size t k l:=heap_alloc_last w _
end Go.Proofs.YtkoamlfiijcecaaGreatDoor
namespace Go.Proofs.YtkoamlfiijcecaaGreatDoor.Eng
open Go.ChangeShapes Go.WideShapes Go.ChangeAt Go.RowKit Go.Deep Go.Great
def keyBytes(n:Int):Int:=if n=1 then 16 else if n=3 then 32 else 0
def bits(n:Int):Int:=if n=5 then 256 else if n=6 then 384 else if n=7 then 512 else 0
def size(n:Int):Int:=if n=1 then 16 else if n=3 then 16 else if n=5 then 32 else if n=6 then 48 else if n=7 then 64 else 0
theorem PK(n:Int)(w:World):Calls Tryz.prog 251 #[.int .i64 n] w λe w'=>e=.returned (.int .i64 (keyBytes n))/\w=w':=by
 go_enter Tryz.func251,Tryz.ntmps251
 go_wp2
 all_goals(go_ret;refine⟨?_,rfl⟩;simp_all [keyBytes])
theorem WT(n:Int)(w:World):Calls Tryz.prog 249 #[.int .i64 n] w λe w'=>e=.returned (.int .i64 (bits n))/\w=w':=by
 go_enter Tryz.func249,Tryz.ntmps249
 go_wp2
 all_goals(go_ret;refine⟨?_,rfl⟩;simp_all [bits])
theorem Qw(n:Int)(w:World):Calls Tryz.prog 300 #[.int .i64 n] w λe w'=>e=.returned (.int .i64 (size n))/\w=w':=by
 have hs:size n=if 0<keyBytes n then 16 else bits n/8:=by unfold size keyBytes bits;(repeat' split)<;>first|rfl|omega
 have hb:0<=bits n/\bits n<=512:=by unfold bits;(repeat' split)<;>omega
 have H:=Lib.hid hs;clear hs
 go_enter Tryz.func300,Tryz.ntmps300
 go_wp2_with (first|(go_at_call 251;refine(PK _ _).mono ?_;rintro e w' ⟨rfl,rfl⟩)|(go_at_call 249;refine(WT _ _).mono ?_;rintro e w' ⟨rfl,rfl⟩))
 ·go_ret;exact⟨by rw[H.out,N1 (by assumption)];rfl,rfl⟩
 ·go_ret;exact⟨by rw[H.out,M5 oW];rfl,rfl⟩
theorem Eo:(Tryz.prog.info? 5).map (λi=>(i.zero,i.size,i.bytes))=some (some (.int .u8 0),1,1):=by kernel_rfl
def KZ(n:Nat):List Nat:=List.replicate n 0
theorem CN(n:Nat):(KZ n).length=n:=bZ
theorem ZD(k:IntKind)(n:Nat):madeCells #[.int k 0] n=Zl k (KZ n):=
 Array.toList_inj.1 (by rw[toList_madeCells_one];simp[Zl,KZ])
def WI(id i:Nat):Nat:=id/2^(8*(7-i%8))%256
def dQ(id n:Nat):List UInt8:=(tab (WI id) n).map UInt8.ofNat
theorem MR(a n:Nat):(dQ a n).length=n:=by rw[dQ,O1,IU]
set_option maxRecDepth 100000 in
theorem Uw(ib l c n:Nat)(p:Option Addr)(w:World)(h:w.cell? ⟨ib,0,none⟩=some (.slice p l c))(hl:l<=1000)(hn:n<=100000):Calls Tryz.prog 299 #[.pointer (some ⟨ib,0,none⟩),.int .i64 n] w λe w'=>e=.returned (.string (B (dQ (l+1) n)))/\Below w.heap.size w w':=by
 have hmk:=run_make_row' (P:=Tryz.prog) 181 5 (.int .u8 0) 1 Tryz.underlying181 Eo rfl .i64 .i64 n oW oW w;rw[ZD]at hmk;have hc:(w.alloc (.cells (Zl .u8 (KZ n)) 5)).cell? ⟨ib,0,none⟩=some (.slice p l c):=by
  rw[World.cell?_alloc_lt _ _ _ (World.block_lt_of_cell? w ⟨ib,0,none⟩ h)];exact h
 have HR:=Lib.hid (show dQ (l+1) n=(tab (WI (l+1)) n).map UInt8.ofNat from rfl);obtain⟨id,hid⟩:∃id,l+1=id:=⟨_,rfl⟩;have hidi:(l:Int)+1=(id:Int):=by omega
 have hidl:id<=1001:=by omega
 rw[hid]at HR ⊢;have HF:=Lib.hid (show∀i,WI id i=id/2^(8*(7-i%8))%256 from λ_=>rfl);generalize dQ id n=res at *;generalize WI id=ff at *;have hwi:IntKind.u64.wrap (id:Int)=(id:Int):=by simp[IntKind.wrap,IntKind.bits,IntKind.signed];omega
 clear hid
 go_enter Tryz.func299,Tryz.ntmps299
 go_wp2
 have hrow:=qN.new w 5 .u8 (KZ n);have hbel:Below w.heap.size w (w.alloc (.cells (Zl .u8 (KZ n)) 5)):=by((repeat' (with_reducible first|exact Below.refl _ _|assumption|refine Below.drew ?_|refine below_drewN ?_ _|refine Below.setCell ?_ ?_ _|refine Below.alloc ?_ ?_ _|refine Below.ext ?_ ?_ _|refine Below.trans ?_ (Below.mono ‹_› ?_)))<;>first|omega|(simp;done)|(simp;omega))
 clear hmk hc h hwi hidi;generalize w.alloc (.cells (Zl .u8 (KZ n)) 5)=W1 at *
 go_loopw [19] (λs19 wr=>∃(i:Nat) (l:List Nat),i<=n/\s19=.int .i64 i/\l=ID ff (KZ n) i/\qN wr w.heap.size 5 .u8 l/\Below w.heap.size w wr) (λs _=>n-(intOf s).toNat)
 case atStart=>exact⟨0,KZ n,by omega,rfl,rfl,hrow,hbel⟩
 case round=>
  clear hrow hbel W1;obtain⟨i,l,hi,rfl,hl,hrow,hbel⟩:=hrel;have hll:l.length=n:=by rw[hl,lH,CN]
  have HL:=Lib.hid hl;have HBL:=Lib.hid hbel;by_cases hend:i=n
  ·have hlt:¬(i:Int)<(n:Int):=by omega
   have hst:=Xy (P:=Tryz.prog) wr 181 9 5 ⟨w.heap.size,0,none⟩ n n l Tryz.underlying181 Tryz.underlying5 Tryz.underlying9 hll (λj hj=>by
    have e1:(⟨w.heap.size,0,none⟩:Addr).add j=⟨w.heap.size,j,none⟩:=by simp[Addr.add];omega
    rw[e1];exact hrow.cell j oW)
   have hres:NB l=B res:=by
    rw[HL.out,hend,ZR _ (CN n),HR.out];rfl
   rw[hres]at hst;clear hend hres hl hbel hrow
   go_wp2
   go_ret
   exact⟨rfl,HBL.out⟩
  ·have hlt:(i:Int)<(n:Int):=by omega
   have hcl:=hrow.cell i oW;have hfz:=hrow.frozen i;have HROW:=Lib.hid hrow;obtain⟨r,hr⟩:∃r,i%8=r:=⟨_,rfl⟩;have hr8:r<8:=by omega
   obtain⟨s,hs⟩:∃s,7-r=s:=⟨_,rfl⟩;have hsub:(7:Int)-(r:Int)=(s:Int):=by omega
   obtain⟨m,hm⟩:∃m,8*s=m:=⟨_,rfl⟩;have hmul:(8:Int)*(s:Int)=(m:Int):=by omega
   have hm64:(m:Int)<64:=by omega
   have hm0:(0:Int)<=(m:Int):=by omega
   obtain⟨y,hy⟩:∃y,ff i=y:=⟨_,rfl⟩;have hvi:(id:Int)/2^m%256=(y:Int):=by rw[<-hy,HF.out,hr,hs,hm];simp
   have hvw:IntKind.u8.wrap ((id:Int)/2^m)=(y:Int):=by rw[<-hvi];simp[IntKind.wrap,IntKind.bits,IntKind.signed]
   have htm:(i:Int).tmod 8=(r:Int):=by rw[X3 (Int.natCast_nonneg _)];omega
   have HY:=Lib.hid hy;have HR2:=Lib.hid (hrow.set i y);have HB2:=Lib.hid (Below.setCell hbel (show w.heap.size<=(⟨w.heap.size,i,none⟩:Addr).block from O9 _) (.int .u8 (y:Int)));have hs7:s<=7:=by omega
   clear hl hrow hbel hr hs hm hy
   go_wp2
   go_round
   case rel=>exact⟨i+1,l.set i y,by omega,by go_num,by rw[ID,<-HL.out,HY.out],HR2.out,HB2.out⟩
   case measure=>simp[intOf];omega
end Go.Proofs.YtkoamlfiijcecaaGreatDoor.Eng
namespace Go.Proofs.YtkoamlfiijcecaaGreatDoor.Sx
open Go.ChangeShapes Go.WideShapes Go.ChangeAt Go.RowKit Go.Deep
open Eng in
theorem size_pos(v:Int):0<=size v/\size v<=64:=by unfold size;(repeat' split)<;>omega
def fD(v:Int):Nat:=(Eng.size v).toNat
theorem VB(v:Int):fD v<=64:=by have:=(size_pos v).2;unfold fD;omega
theorem Uz(v:Int)(w:World):CP 300 #[.int .i64 v] w (Ret (.int .i64 ((fD v:Nat):Int)) w):=(Eng.Qw v w).mono λe a h=>⟨by rw[h.1];unfold fD;rw[Int.toNat_of_nonneg (size_pos v).1],h.2▸Below.refl _ _⟩
theorem ZP(a l c n:Nat)(p:Option Addr)(w:World){U:View}(d:See U w)(h:U ⟨a,0,none⟩=some (.slice p l c))(f:l<=1000)(g:n<=100000):CP 299 #[.pointer (some ⟨a,0,none⟩),.int .i64 (n:Int)] w (Ret (.string (B (Eng.dQ (l+1) n))) w):=Eng.Uw a l c n p w (d _ _ h) f g
def Aq(v:Int)(key nonce wth text made tag:List UInt8):List Value:=[.int .i64 v,.string (B key),.string (B nonce),.string (B wth),.string (B text),.string (B made),.string (B tag)]
def DQ(U:View)(eb ib:Nat):Prop:=U ⟨eb,0,none⟩=some (.iface 102 (.pointer (some ⟨ib,0,none⟩)))
theorem DQ.le{U V:View}(h:View.le U V){a d:Nat}(f:DQ U a d):DQ V a d:=h _ _ f
def XD(ib:Nat):aH:=[(ib,.cells #[.slice none 0 0] 105 (0,0))]
def Ss(r:Value)(V:View)(σ':aH):Prop:=∃eb ib,r=.pointer (some ⟨eb,0,none⟩)/\DQ V eb ib/\σ'=XD ib
theorem Ve{W0:Cx}{U:View}{a:aH}{W:World}(g:Mem W0 U ([]++a) W):CP 16 #[] W (gX W0 U a Ss):=by
 refine fB 6 Tryz.func16 g ?_;refine zQ 1 (zn (zQ 1 (dB 0 (λd=>?_))));refine zq 2 (dB 1 (λf=>?_));refine eY [(bK d [S0] 105)] ([]++a) f [(.iface 102 (Pt d 0))] 109 kR (λk j h=>?_);refine zq 1 (zn (aA (aO [0] [(Pt f 0)] (λr g=>?_))));exact fN 0 1 (d,.cells #[.slice none 0 0] 105 (0,0)) g j ⟨f,d,rfl,h 0 _ rfl,rfl⟩
theorem XN{p:Pr}{l:List Bk}(h:mF p l=0):aK p l=0/\∃q,qQ l=some q:=by
 unfold mF at h;split at h
 ·next a=>rw[h]at a;cases a
 ·next a=>
  refine⟨by simpa using a,?_⟩;split at h
  ·cases h
  ·next q d=>exact⟨q,d⟩
def Av(scope:Int):Bool:=if decide (scope≥0)then decide (scope<8)else false
def Ao(A H S:List UInt8)(target scope:Int):List UInt8:=((Itm.aF 0 scope.toNat++(if(if(jE .i64 scope 1 !=0)then(target !=0)else false)then A else[]))++(if(jE .i64 scope 2 !=0)then H else[]))++(if(jE .i64 scope 4 !=0)then S else[])
def rdA(p:Pr)(l:List Bk)(target:Int):List UInt8:=if target !=0&& !(fI l target).2 then[]else if cK p !=0 then[]else fE p.bare
def rdH(p:Pr)(l:List Bk)(target:Int):List UInt8:=if target !=0&& !(fI l target).2 then[]else if cK p !=0 then[]else if target==0 then[]else if cX (fI l target).1 !=0 then[]else aF (fI l target).1
def rdS(p:Pr)(l:List Bk)(target:Int)(sec:Bk):List UInt8:=if target !=0&& !(fI l target).2 then[]else if cK p !=0 then[]else if target !=0&&cX (fI l target).1 !=0 then[]else if cX sec !=0 then[]else aF sec
def rdD(p:Pr)(l:List Bk)(target:Int):List UInt8:=if target !=0&& !(fI l target).2 then[]else if cK p !=0 then[]else if target==0 then fE p.bare else if cX (fI l target).1 !=0 then fE p.bare else Itm.aF 2 (fI l target).1.d.length++(fI l target).1.d
def rdZ(p:Pr)(l:List Bk)(target:Int)(sec:Bk):Int:=if target !=0&& !(fI l target).2 then 15 else if cK p !=0 then cK p else if target !=0&&cX (fI l target).1 !=0 then cX (fI l target).1 else cX sec
def Bk.withD(y:Bk)(d:List UInt8):Bk:=⟨y.t,y.n,y.f,y.c,d⟩
theorem PQ:∀(l:List Bk) (i:Nat) (y:Bk) (d:List UInt8) (j:List Value),l[i]? =some y->cJ (l.flatMap Bk.cs++j) (0+i*5+4) [.string (B d)]=(l.set i (y.withD d)).flatMap Bk.cs++j
 | [],i,y,d,j,h=>by simp at h
 |x::r,0,y,d,j,h=>by
  simp only[P5,L0]at h;subst h;rfl
 |x::r,i+1,y,d,j,h=>by
  have a:=PQ r i y d j (by simpa using h);have f:x.cs.length=5:=rfl;rw[aq,P9,P9,M6,M6,<-a];unfold cJ;rw[List.length_singleton,show 0+(i+1)*5+4=x.cs.length+(0+i*5+4) by omega,bP,O2 oW,show x.cs.length+(0+i*5+4)-x.cs.length=0+i*5+4 by omega,show x.cs.length+(0+i*5+4)+1=x.cs.length+(0+i*5+4+1) by omega,bN,R6 oW,R0,show x.cs.length+(0+i*5+4+1)-x.cs.length=0+i*5+4+1 by omega];simp only[M6]
theorem ZB{p:Pr}{l:List Bk}{a:Int}{ts:List Int}(h:(VT p l a ts !=0)=false):aK p l=0:=by
 have f:VT p l a ts=0:=by simpa using h
 unfold VT at f;split at f
 ·next d=>rw[f]at d;cases d
 ·next d=>exact(XN (by simpa using d)).1
structure pP (U : View) (a : Option Addr) (l : List Bk) : Prop where
 at_:∀i x,l[i]? =some x->∃b f,a=some ⟨b,f,none⟩/\U.range b (f+i*5) x.cs
 f:∀x∈l,x.f<W64
 len:l.length<=maxLen
theorem pP.le{U V:View}(h:View.le U V){a:Option Addr}{l:List Bk}(d:pP U a l):pP V a l:=
 ⟨λi x j=>by obtain⟨b,f,e,g⟩:=d.at_ i x j;exact⟨b,f,e,View.range_le h g⟩,d.f,d.len⟩
theorem pP.up{U:View}{a:Option Addr}{l:List Bk}(h:pP U a l)(g:l.length<=1000)(f:∀x∈l,x.d.length<=100000):cG U a l:=
 ⟨h.at_,λx d=>⟨h.f x d,by have:=f x d;unfold R47;omega⟩,by unfold R47;omega⟩
theorem FF(p:Pr)(l:List Bk)(a:Option Addr)(c:Nat)(num:Int)(w:World){U:View}(I:See U w)(E:pP U a l):CP 10 #[bnV p a l.length c,.int .i64 num] w (Ret (.int .i64 (jC l num)) w):=by
 have g:=E.len;unfold maxLen at g;refine dC 22 Tryz.func10 I ?_;refine zs (zr (aW (λh=>(zq 1 (zn (zs (zQ 1 (zn (aB (eF (α:=Nat) (λx=>[1,2,4,5].zip [(I6 num),(Pt h 0),(I6 0),(L6 x)]) (λx=>U) (λx=>[(bK h (dO p a l.length c) 29)]) (λx=>x<=l.length/\QY num x (l.drop x)=jC l num) (λx=>l.length-x) 0 ?_ ?_))))))))))
 ·exact⟨M8 _,rfl⟩
 intro x J;obtain⟨K,d⟩:=J;refine zs (zB [0,0,1,0,0] [(h,1)] (zn (aZ ((x:Int)<(l.length:Int)) (λG r=>?_) (λG r=>?_))))
 ·refine zk (zs (aB (zB [0,1,0] [(h,1)] ?_)));obtain⟨D,f⟩:∃y,(l)[x]? =some y:=⟨(l)[x]'oW,K8 _⟩;obtain⟨j,k,rfl,C⟩:=E.at_ x D f;refine cB (Pt j (k+x*5)) (rIx 58 rfl j k l.length c x 5) ?_;refine zq 1 (zV j (k+x*5+1) (I6 D.n) (C 1 _ rfl) 3 (.tmp 17) _ Tryz.underlying3 rfl ?_);refine zq 2 (zn (fC D.n num (λu A=>?_) (λu A=>?_)))
  ·refine zQ 2 (zn (aA (aO [4] [(L6 x)] (λF B=>?_))));refine⟨?_,B.below⟩;rw[<-d,lF f,N1 u];rfl
  ·refine zk (zr (zq 2 (dH 12 ((x:Int)+1) (zq 1 (zn ?_)))));refine nx (x+1) ?_ ?_
   ·exact⟨by omega,by rw[<-d,lF f,M5 (by rw[u];exact M3)]⟩
   ·show l.length-(x+1)<l.length-x;omega
 ·refine aI (zQ 1 (zn (aA (aO [4] [(I6 (-1))] (λF B=>?_)))));refine⟨?_,B.below⟩;rw[<-d,cZ oW];rfl
def MT(e:Ei):Bool:=decide ((e.l.length:Int)<=100)
theorem rX(e:Ei)(w:World):CP 21 #[e.V] w (Ret (.bool (MT e)) w):=by
 refine dF 7 Tryz.func21 ?_;refine zs (zr (aW (λa=>(zq 1 (zn (zB [0,1,0,0,0] [(a,1)] (zn (aA (gC 2)))))))))
def MS(p:Pr):Bool:=MT p.dst&&MT p.src&&MT p.rpt
theorem JF(p:Pr)(w:World):CP 47 #[p.V] w (Ret (.bool (MS p)) w):=by
 refine dF 16 Tryz.func47 ?_;refine zs (zr (aW (λf=>(zq 1 (zn (zB [0,1] [(f,4)] (dN (λW a=>rX p.dst W) (zq 1 (cN 6 (MT p.dst) (λd=>?_) (λd=>?_))))))))))
 ·refine cF [0,1] [(f,4)] (dN (λW a=>rX p.src W) (zq 2 (cN 11 (MT p.src) (λg=>?_) (λg=>?_))))
  ·refine cF [0,1] [(f,4)] (dN (λW a=>rX p.rpt W) (zq 2 (zn (aA (aO [2] [(.bool (MT p.rpt))] (λh a=>?_))))));exact⟨by simp only[dD,MS,d,g,bs,bQ,reduceIte],a.below⟩
  ·refine zq 5 (zn (aA (aO [2] [qF] (λh a=>?_))));exact⟨by simp only[dD,MS,d,g,bs,bQ,reduceIte],a.below⟩
 ·refine zq 10 (zn (aA (aO [2] [qF] (λh a=>?_))));exact⟨by simp only[dD,MS,d,bs,bQ,reduceIte],a.below⟩
def Zw(x:Bk):Bool:=decide ((x.d.length:Int)>4100)
def DM(p:Pr)(l:List Bk):Bool:=(l.take 30).all (λx=> !Zw x)&&decide ((l.length:Int)<=20)&&MS p
theorem KG{l:List Bk}{i:Nat}{y:Bk}(h:l[i]? =some y)(a:i<30):((l.drop i).take (30-i)).all (λx=> !Zw x)=(!Zw y&&((l.drop (i+1)).take (30-(i+1))).all (λx=> !Zw x)):=by
 rw[dS h,show 30-i=(30-(i+1))+1 by omega,S9,W4]
theorem YH(p:Pr)(l:List Bk)(a:Option Addr)(c:Nat)(w:World){U:View}(Y:See U w)(O:pP U a l):CP 18 #[bnV p a l.length c] w (Ret (.bool (DM p l)) w):=by
 have k:=O.len;unfold maxLen at k;refine dC 32 Tryz.func18 Y ?_;refine zs (zr (aW (λh=>(zq 1 (zn (zs (zQ 1 (zn (aB (eF (α:=Nat) (λx=>[1,2,3].zip [(Pt h 0),qF,(L6 x)]) (λx=>U) (λx=>[(bK h (dO p a l.length c) 29)]) (λx=>x<=l.length/\x<=30/\((l.drop x).take (30-x)).all (λx=> !Zw x)=(l.take 30).all (λx=> !Zw x)) (λx=>l.length-x) 0 ?_ ?_))))))))))
 ·exact⟨M8 _,M8 _,rfl⟩
 intro x Z;obtain⟨a1,a6,f⟩:=Z;refine zs (zB [0,0,1,0,0,0] [(h,1)] (jM 9 ((x:Int)<(l.length:Int)) (λV C=>?_) (λV C=>?_)))
 ·refine zq 3 (zn (aZ ((x:Int)<30) (λX D=>?_) (λX D=>?_)))
  ·refine zk (zs (aB (zB [0,1,0] [(h,1)] ?_)));obtain⟨r,j⟩:∃y,(l)[x]? =some y:=⟨(l)[x]'oW,K8 _⟩;obtain⟨A,B,rfl,M⟩:=O.at_ x r j;refine cB (Pt A (B+x*5)) (rIx 58 rfl A B l.length c x 5) ?_;refine zq 1 (zV A (B+x*5+4) (St r.d) (M 4 _ rfl) 9 (.tmp 19) _ Tryz.underlying9 rfl ?_);refine zq 2 (zn (aZ ((((r.d).length:Nat):Int)>4100) (λE F=>?_) (λE F=>?_)))
   ·refine zQ 1 (zn (aA (aO [2] [qF] (λu g=>?_))));refine⟨?_,g.below⟩;unfold DM;have N:Zw r=true:=E;rw[<-f,KG j oW,N];rfl
   ·refine zk (zr (zq 2 (dH 14 ((x:Int)+1) (zq 1 (zn ?_)))));refine nx (x+1) ?_ ?_
    ·exact⟨by omega,by omega,by have N:Zw r=false:=E;rw[<-f,KG j oW,N];rfl⟩
    ·show l.length-(x+1)<l.length-x;omega
  ·refine aI (zB [0,1,0,0,0] [(h,1)] (jM 27 ((l.length:Int)<=20) (λG I=>?_) (λG I=>?_)))
   ·refine cF [0,1] [(h,19)] (dN (λW g=>JF p W) (zq 2 (zn (aA (aO [2] [(.bool (MS p))] (λu g=>?_))))));refine⟨?_,g.below⟩;unfold DM;have d:(l.take 30).all (λx=> !Zw x)=true:=by
     rw[<-f];by_cases L:x=l.length
     ·rw[cZ oW,bc];rfl
     ·rw[show 30-x=0 by omega,S6];rfl
    simp only[dD,d,G,bs,bQ,reduceIte]
   ·refine zq 5 (zn (aA (aO [2] [qF] (λu g=>?_))));refine⟨?_,g.below⟩;unfold DM;have d:(l.take 30).all (λx=> !Zw x)=true:=by
     rw[<-f];by_cases L:x=l.length
     ·rw[cZ oW,bc];rfl
     ·rw[show 30-x=0 by omega,S6];rfl
    simp only[dD,d,G,bs,bQ,reduceIte]
 ·refine zq 3 (zn (cU (aI (zB [0,1,0,0,0] [(h,1)] (jM 27 ((l.length:Int)<=20) (λJ K=>?_) (λJ K=>?_))))))
  ·refine cF [0,1] [(h,19)] (dN (λW g=>JF p W) (zq 2 (zn (aA (aO [2] [(.bool (MS p))] (λu g=>?_))))));refine⟨?_,g.below⟩;unfold DM;have d:(l.take 30).all (λx=> !Zw x)=true:=by
    rw[<-f];by_cases L:x=l.length
    ·rw[cZ oW,bc];rfl
    ·rw[show 30-x=0 by omega,S6];rfl
   simp only[dD,d,J,bs,bQ,reduceIte]
  ·refine zq 5 (zn (aA (aO [2] [qF] (λu g=>?_))));refine⟨?_,g.below⟩;unfold DM;have d:(l.take 30).all (λx=> !Zw x)=true:=by
    rw[<-f];by_cases L:x=l.length
    ·rw[cZ oW,bc];rfl
    ·rw[show 30-x=0 by omega,S6];rfl
   simp only[dD,d,J,bs,bQ,reduceIte]
theorem TJ{p:Pr}{l:List Bk}(h:DM p l=true):l.length<=20/\(∀x∈l,x.d.length<=4100):=by
 unfold DM at h;simp only[L5,N0]at h;refine⟨by omega,λx a=>?_⟩;have:=M7.1 h.1.1 x (by rw[O2 oW];exact a);unfold Zw at this;simp only[P1,decide_eq_false_iff_not]at this;omega
theorem FD(p:Pr)(l:List Bk)(a u:Option Addr)(c A:Nat)(w:World){U:View}(K:See U w)(F:cG U a l)(D:cG U u l):CP 9 #[bnV p a l.length c,bnV p u l.length A] w (Ret (.bool true) w):=by
 have r:=F.len;unfold R47 at r;have E:((l.length:Int) !=(l.length:Int))=false:=by simp
 refine dC 38 Tryz.func9 K ?_;refine zs (zr (aW (λj=>(aW (λk=>(zq 1 (zn (zs (zB [0,1,0,2] [(j,19),(k,19)] (cB qF (Qt _ _ _ rfl p kR kR) ?_))))))))));refine cF [0,0,1,0,0,2,0,0] [(j,1),(k,1)] (dZ 18 (.bool ((l.length:Int) !=(l.length:Int))) qF (M0 Value.bool E) ?_);refine zq 1 (zn (cU (zk (zs (zQ 1 (zn (aB (eF (α:=Nat) (λx=>[2,3,4,5].zip [(Pt j 0),(Pt k 0),qF,(L6 x)]) (λx=>U) (λx=>[(bK j (dO p a l.length c) 29),(bK k (dO p u l.length A) 29)]) (λx=>x<=l.length) (λx=>l.length-x) 0 ?_ ?_))))))))
 ·exact M8 _
 intro x L;refine zs (zB [0,0,1,0,0] [(j,1)] (zn (aZ ((x:Int)<(l.length:Int)) (λI J=>?_) (λI _=>?_))))
 ·refine zk (zs (aB (zs ?_)));obtain⟨y,G⟩:∃y,l[x]? =some y:=⟨l[x]'oW,K8 _⟩;obtain⟨d,g,rfl,B⟩:=F.at_ x y G;obtain⟨f,h,rfl,C⟩:=D.at_ x y G;refine gI 3 [0,3,0,1,1,0,4,0,1,1] [(j,1),(k,1)] [.val (Pt d (g+x*5)),.val (y.V),.val (Pt f (h+x*5)),.val (y.V)] ⟨?_,?_,?_,?_,trivial⟩ ?_
  ·exact vR (rIx 58 rfl d g l.length c x 5)
  ·exact vU d (g+x*5) y.cs B 58 _ _ Tryz.underlying58 rfl
  ·exact vR (jP _ 58 _ _ rfl f h l.length A x 5 .i64 kR kR (by first|assumption|omega) kR kR)
  ·exact vU f (h+x*5) y.cs C 58 _ _ Tryz.underlying58 rfl
  refine cB qF (Qs _ _ _ rfl y.t y.n (y.f:Int) y.c y.d kR kR) ?_;refine zn (cU (zk (zr (zq 2 (dH 26 ((x:Int)+1) (zq 1 (zn ?_)))))));refine nx (x+1) ?_ ?_
  ·show x+1<=_;omega
  ·show l.length-(x+1)<l.length-x;omega
 ·refine aI (zQ 1 (zn (aA (gC 4))))
def Bz(p:Pr)(l:List Bk)(v:Value)(V:View):Prop:=∃a c,v=bnV p a l.length c/\cG V a l/\l.length<=c
theorem RY{U:View}{b f:Nat}{d:List Value}(h:U.range b f d)(n:Nat):U.range b (f+n) (d.drop n):=λj v a=>by
 rw[Z4]at a;have:=h (n+j) v a;rwa[<-X1]at this
theorem RX{U:View}{b f:Nat}{d:List Value}(h:U.range b f d)(n:Nat):U.range b f (d.take n):=λj v a=>by
 rw[X4]at a;split at a
 ·exact h j v a
 ·cases a
theorem Tp{V:View}{a:Option Addr}{g:List Value}{l:List Bk}(h:BH V a g)(e:g=l.flatMap Bk.cs)(f:∀x∈l,x.ok)(d:l.length<=R47):cG V a l:=by
 subst e;cases l with
 |nil=>exact⟨λi x k=>by simp at k,f,d⟩
 |cons y r=>
  obtain⟨b,e,j⟩:=h.at_ (by rw[P9];simp[Bk.cs]);subst e;exact cG.of j f d
def sW(l m:List Bk)(i k:Nat):List Bk:=l.take i++m++l.drop (i+k)
structure Rz where
 r:Rw
 xs:List Value
 n:Nat
theorem OL(p:Pr)(l m:List Bk)(i k:Nat)(a aM:Option Addr)(c cM:Nat)(w:World){U:View}(hU:See U w)(hl:cG U a l)(hm:cG U aM m)(c7:l≠[])(h9:i+k<=l.length)(hc:l.length<=c)(j0:l.length<=1000000)(h6:m.length<=1000000):CP 6 #[bnV p a l.length c,.int .i64 (i:Int),.int .i64 (k:Int),.slice aM m.length cM] w (fV w U (Bz p (sW l m i k))):=by
 obtain⟨b,f,rfl,hr⟩:=hl.openR c7;have a1:∀x∈sW l m i k,x.ok:=λx B=>by
  unfold sW at B;rcases S3.1 B with B|B
  ·rcases S3.1 B with B|B
   ·exact hl.ok x (az B)
   ·exact hm.ok x B
  ·exact hl.ok x (af B)
 have J:(sW l m i k).length=i+m.length+(l.length-(i+k)):=by
  unfold sW;rw[L4,L4,O3,N8];omega
 have a6:(l.take i).length=i:=by rw[O3];omega
 have Z:(l.drop (i+k)).length=l.length-(i+k):=N8;have e2:U.range b f ((l.take i).flatMap Bk.cs):=by rw[<-GL];exact RX hr _
 have e3:U.range b (f+(i+k)*5) ((l.drop (i+k)).flatMap Bk.cs):=by rw[<-GM];exact RY hr _
 refine dC 31 Tryz.func6 hU ?_;refine zs (zr (aW (λI=>(aW (λN=>(zn (zQ 1 (zn ?_))))))));let M:aH:=[(bK I (dO p (some ⟨b,f,none⟩) l.length c) 29),(N,.cells Z20.toArray 29 (0,0))];refine dG (α:=Rz) (λg=>[1,2,3,4,8,9].zip [(L6 i),(L6 k),(.slice aM m.length cM),(Pt I 0),(Pt N 0),(g.r.V g.n)]) (λg=>U) (λg=>(M++g.r.B 58 g.xs)) (λg=>g.r.ok 5 g.n g.xs/\(g.n=i/\g.xs=(l.take i).flatMap Bk.cs)) ?_ ?_
 ·refine zr (cF [0,0,1,0] [(I,1)] (cB (Sl b f i c) (iL 27 58 (.tmp 12) none (some (.tmp 13)) none rfl b f l.length c 0 i c 5 i c f kR eR eR eR (by decide) oW oW oW oW oW (by first|rfl|(split<;>omega)) Tryz.underlying27 kR) ?_));rcases N2 (decide (0<i))with X|X
  ·have b6:=P2 X;refine fK Rw.nil [] 0 M 58 27 5 48 i Cs (Rw.ok_nil 5) (.tmp 10) (.tmp 14) rfl kR b f c ((l.take i).flatMap Bk.cs) kR (λW K=>View.range_of e2 K.view) ((rP _).trans (M0 (· *5) a6)) (tK _) (P2 X) (by unfold maxLen;omega) oW kR kR kR kR kR (λr2 c9=>?_);refine zq 1 (zn ?_);refine jn ⟨r2,([]++((l.take i).flatMap Bk.cs)),(0+i)⟩ ?_;exact⟨c9,by show(0+i)=_;omega,by show([]++((l.take i).flatMap Bk.cs))=_;simp only[sW,Q4,X2,R0,M1]⟩
  ·have b6:=O5 X;have C:i=0:=by have:=O5 X;omega
   have c2:(l.take i)=[]:=O7.1 (a6.trans C);refine cB (S0) (by exact rA 27 58 5 _ _ rfl none (some ⟨b,f,none⟩) 0 0 c kR (zE C) (O9 _) Tryz.underlying27 kR) ?_;refine zq 1 (zn ?_);refine jn ⟨Rw.nil,[],0⟩ ?_ (d:=λ_ h=>h.eqv (U3 kR (M1 (M:aH)).symm));exact⟨Rw.ok_nil 5,by show 0=_;omega,by show[]=_;simp only[c2,sW,Q4,X2,R0,M1]⟩
 intro g e5;obtain⟨u,h7,D⟩:=e5;refine dG (α:=Rz) (λj=>[1,2,4,8,9].zip [(L6 i),(L6 k),(Pt I 0),(Pt N 0),(j.r.V j.n)]) (λj=>U) (λj=>(M++j.r.B 58 j.xs)) (λj=>j.r.ok 5 j.n j.xs/\(j.n=i+m.length/\j.xs=(l.take i++m).flatMap Bk.cs)) ?_ ?_
 ·refine zr (zq 2 ?_);rcases N2 (decide (0<m.length))with O|O
  ·have b7:=P2 O;obtain⟨bM,fM,rfl,e4⟩:=hm.openR (by rintro rfl;have:=P2 O;simp at this);refine iW 2 58 27 48 m.length cM u (λW K=>View.range_of e4 K.view) ((rP _).trans (M0 (· *5) (Eq.refl m.length))) (tK _) (P2 O) (λr4 e0=>?_);refine zq 1 (zn ?_);refine jn ⟨r4,(g.xs++(m.flatMap Bk.cs)),(g.n+m.length)⟩ ?_;exact⟨e0,by show(g.n+m.length)=_;omega,by show(g.xs++(m.flatMap Bk.cs))=_;simp only[D,sW,Q4,X2,R0,M1]⟩
  ·have b7:=O5 O;have b2:m.length=0:=by have:=O5 O;omega
   have c4:m=[]:=O7.1 ((Eq.refl m.length).trans b2);obtain⟨e7,e9,b4,h4⟩:=Rw.formC u;refine cB ((g.r.V g.n)) (λW=>(rA 27 58 5 _ _ rfl e7 aM g.n e9 cM (zX b4) (zE b2) h4 Tryz.underlying27 kR W).trans (by rw[b4])) ?_;refine zq 1 (zn ?_);refine jn ⟨g.r,g.xs,g.n⟩ ?_;exact⟨u,by show g.n=_;omega,by show g.xs=_;simp only[c4,D,sW,Q4,X2,R0,M1]⟩
 intro j e6;obtain⟨A,h8,E⟩:=e6;refine dG (α:=Rz) (λr=>[4,8,9].zip [(Pt I 0),(Pt N 0),(r.r.V r.n)]) (λr=>U) (λr=>(M++r.r.B 58 r.xs)) (λr=>r.r.ok 5 r.n r.xs/\(r.n=i+m.length+(l.length-(i+k))/\r.xs=(sW l m i k).flatMap Bk.cs)) ?_ ?_
 ·refine zr (cF [0,0,1,0,0,0] [(I,1)] (dZ 24 (I6 (IntKind.i64.wrap ((i:Int)+(k:Int)))) (L6 (i+k)) (M0 (Value.int .i64) (by rw[IntWalk.i64_in _ oW];omega)) ?_));refine cB (.slice (some ⟨b,(if c=(i+k)then f else f+(i+k)*5),none⟩) (l.length-(i+k)) (c-(i+k))) (iL 27 58 (.tmp 21) (some (.tmp 24)) none none rfl b f l.length c (i+k) l.length c 5 (l.length-(i+k)) (c-(i+k)) (if c=(i+k)then f else f+(i+k)*5) kR eR eR eR (by decide) oW oW oW oW oW (by first|rfl|(split<;>omega)) Tryz.underlying27 kR) ?_;rcases N2 (decide (0<(l.length-(i+k))))with V|V
  ·have b8:=P2 V;refine iW 2 58 27 48 (l.length-(i+k)) (c-(i+k)) A (λW K=>View.range_of (show U.range b (if c=(i+k)then f else f+(i+k)*5) _ by rw[M5 (by have:=P2 V;omega)];exact e3) K.view) ((rP _).trans (M0 (· *5) Z)) (tK _) (P2 V) (λr6 e1=>?_);refine zq 1 (zn ?_);refine jn ⟨r6,(j.xs++((l.drop (i+k)).flatMap Bk.cs)),(j.n+(l.length-(i+k)))⟩ ?_;exact⟨e1,by show(j.n+(l.length-(i+k)))=_;omega,by show(j.xs++((l.drop (i+k)).flatMap Bk.cs))=_;simp only[E,sW,Q4,X2,R0,M1]⟩
  ·have b8:=O5 V;have b3:(l.length-(i+k))=0:=by have:=O5 V;omega
   have c6:(l.drop (i+k))=[]:=O7.1 (Z.trans b3);obtain⟨e8,h3,b5,h5⟩:=Rw.formC A;refine cB ((j.r.V j.n)) (λW=>(rA 27 58 5 _ _ rfl e8 (some ⟨b,(if c=(i+k)then f else f+(i+k)*5),none⟩) j.n h3 (c-(i+k)) (zX b5) (zE b3) h5 Tryz.underlying27 kR W).trans (by rw[b5])) ?_;refine zq 1 (zn ?_);refine jn ⟨j.r,j.xs,j.n⟩ ?_;exact⟨A,by show j.n=_;omega,by show j.xs=_;simp only[c6,E,sW,Q4,X2,R0,M1]⟩
 intro r C;obtain⟨G,F,a7⟩:=C;refine zs (zr ?_);refine jN r.r r.xs 5 r.n M 58 kR G (λa8 c8 V8 c0 b9 Y=>?_);rw[Y];refine cF [0,1,0,0] [(I,19)] (aX 1 N (zn (aA (dW [2] [(N,20)] [(bnV p a8 r.n c8)] (λW' K=>?_)))));obtain⟨aC,cC,L,c1⟩:=Rw.formC G;rw[Y]at L;simp only[Value.slice.injEq,bB]at L;refine aJ K c0 ⟨a8,c8,?_,Tp b9 a7 a1 (by rw[J];unfold R47;omega),by rw[L.2,J,<-F];exact c1⟩;rw[J,<-F];rfl
theorem SC(p:Pr)(l m:List Bk)(i k:Nat)(a f:Option Addr)(c u:Nat)(w:World){U:View}(L:See U w)(N:cG U a l)(hm:cG U f m)(j:l≠[])(g:i+k<=l.length)(M:l.length<=c)(r:l.length<=1000000)(d:m.length<=1000000):CP 6 #[bnV p a l.length c,.int .i64 (i:Int),.int .i64 (k:Int),.slice f m.length u] w (fV w U (NL p (sW l m i k))):=
 (OL p l m i k a f c u w L N hm j g M r d).mono λe O h=>by
  obtain⟨v,A,D,E,F,G,I,B,C,J,K,_⟩:=h;exact⟨v,A,D,E,F,G,I,B,C,J,K⟩
def aD:Pr:=⟨0,0,⟨2,[],2,0⟩,⟨2,[],1,0⟩,⟨1,[110,111,110,101],0,0⟩,5,0,100,0,0⟩
def dT:Bk:=⟨1,1,0,0,[104,105]⟩
theorem EK:aK aD [dT]=0:=by kernel_rfl
theorem UM:qQ [dT]=some []:=rfl
theorem Zf:Zk aD [dT] []=0:=by kernel_rfl
theorem XF:mF aD [dT]=0:=by
 unfold mF;rw[EK,UM];exact Zf
theorem Ze:(jE .u64 (aD.f:Int) 1 !=0)=false:=by kernel_rfl
theorem NN:pF [dT]=2:=by kernel_rfl
theorem Zd:aN aD.src=true:=by kernel_rfl
theorem Xq:aD.ok:=by
 constructor<;>first|(constructor<;>decide)|decide
theorem Ch2.start{i j:Nat}{a:aH}{d f:Value->View->aH->Prop}{u:Nat->Value}{V:View}:Ch2 i j a d f (λ_=>false) u V a:=by
 unfold Ch2;simp
theorem Ch2.got{i j:Nat}{a:aH}{f d:Value->View->aH->Prop}{L:Nat->Bool}{u:Nat->Value}{V:View}{S:aH}(g:L j=true)(h:Ch2 i j a f d L u V S):d (u i) V S:=by
 unfold Ch2 at h;rw[N1 g]at h;exact h
theorem Ch1.start{j:Nat}{a:aH}{A:Value->View->aH->Prop}{u:Nat->Value}{V:View}:Ch1 j a A (λ_=>false) u V a:=by
 unfold Ch1;simp
theorem Ch1.got{j:Nat}{a:aH}{A:Value->View->aH->Prop}{L:Nat->Bool}{u:Nat->Value}{V:View}{S:aH}(d:L j=true)(h:Ch1 j a A L u V S):A (u j) V S:=by
 unfold Ch1 at h;rw[N1 d]at h;exact h
structure Ei.ok0 (e : Ei) : Prop where
 n:e.n<W64
 v:e.v<W64
structure Pr.ok0 (p : Pr) : Prop where
 f:p.f<W64
 dst:p.dst.ok0
 src:p.src.ok0
 rpt:p.rpt.ok0
 time:p.time<W64
 seq:p.seq<W64
 life:p.life<W64
 off:p.off<W64
 tot:p.tot<W64
theorem Ei.ok0.up{e:Ei}(h:e.ok0)(a:MT e=true):e.ok:=⟨by unfold MT at a;have:=P2 a;unfold R47;omega,h.n,h.v⟩
theorem Pr.ok0.up{p:Pr}(h:p.ok0)(a:MS p=true):p.ok:=by
 unfold MS at a;simp only[L5]at a;exact⟨h.f,h.dst.up a.1.1,h.src.up a.1.2,h.rpt.up a.2,h.time,h.seq,h.life,h.off,h.tot⟩
end Go.Proofs.YtkoamlfiijcecaaGreatDoor.Sx
namespace Go.Proofs.YtkoamlfiijcecaaGreatDoor.Sx
open Go.ChangeShapes Go.WideShapes Go.ChangeAt Go.RowKit
section
variable {H:Type} {enc:TypeId×Value->H} {W:World} {base:Nat} {v0:Value} {d0:DataW H} {p0:List MemPlace}
theorem jS{m:Int}(h:(Lit.int .u64 m).wf=true):∃k:Nat,m=(k:Int)/\k<W64:=by
 simp[Lit.wf,IntKind.min,IntKind.max,IntKind.signed,IntKind.bits]at h;exact⟨m.toNat,by omega,by unfold W64;omega⟩
def Ff:List TypeId:=[22,3,3,9,22,22,3,9,22,22,3,9,22,22,22,22,22,22,22]
def Bp:List TypeId:=[3,3,22,3,9]
theorem Jj{cs:List Value}(h:Se (qP enc Tryz.prog W) Ff cs):∃r:Pr,cs=r.cs/\r.ok0:=by
 obtain⟨c0,_,rfl,h0,c1,_,rfl,h1,c2,_,rfl,h2,c3,_,rfl,h3,c4,_,rfl,h4,c5,_,rfl,h5,c6,_,rfl,h6,c7,_,rfl,h7,c8,_,rfl,h8,c9,_,rfl,h9,b3,_,rfl,a,b4,_,rfl,d,b5,_,rfl,f,b6,_,rfl,g,b7,_,rfl,j,b8,_,rfl,k,b9,_,rfl,u,e0,_,rfl,A,e1,_,rfl,B,rfl⟩:=h;obtain⟨x0,rfl,w0⟩:=h0.int Tryz.underlying22;obtain⟨x1,rfl,_⟩:=h1.int Tryz.underlying3;obtain⟨x2,rfl,_⟩:=h2.int Tryz.underlying3;obtain⟨x3,rfl,_⟩:=h3.str Tryz.underlying9;obtain⟨x4,rfl,w4⟩:=h4.int Tryz.underlying22;obtain⟨x5,rfl,w5⟩:=h5.int Tryz.underlying22;obtain⟨x6,rfl,_⟩:=h6.int Tryz.underlying3;obtain⟨x7,rfl,_⟩:=h7.str Tryz.underlying9;obtain⟨x8,rfl,w8⟩:=h8.int Tryz.underlying22;obtain⟨x9,rfl,w9⟩:=h9.int Tryz.underlying22;obtain⟨b1,rfl,_⟩:=a.int Tryz.underlying3;obtain⟨b2,rfl,_⟩:=d.str Tryz.underlying9;obtain⟨e2,rfl,Y⟩:=f.int Tryz.underlying22;obtain⟨e3,rfl,Z⟩:=g.int Tryz.underlying22;obtain⟨e4,rfl,a1⟩:=j.int Tryz.underlying22;obtain⟨e5,rfl,a6⟩:=k.int Tryz.underlying22;obtain⟨e6,rfl,a7⟩:=u.int Tryz.underlying22;obtain⟨e7,rfl,a8⟩:=A.int Tryz.underlying22;obtain⟨e8,rfl,b0⟩:=B.int Tryz.underlying22;obtain⟨n0,rfl,l0⟩:=jS w0;obtain⟨n4,rfl,l4⟩:=jS w4;obtain⟨n5,rfl,l5⟩:=jS w5;obtain⟨n8,rfl,l8⟩:=jS w8;obtain⟨n9,rfl,l9⟩:=jS w9;obtain⟨K,rfl,C⟩:=jS Y;obtain⟨L,rfl,D⟩:=jS Z;obtain⟨M,rfl,E⟩:=jS a1;obtain⟨N,rfl,F⟩:=jS a6;obtain⟨O,rfl,G⟩:=jS a7;obtain⟨V,rfl,I⟩:=jS a8;obtain⟨X,rfl,J⟩:=jS b0;exact⟨⟨n0,x1,⟨x2,x3,n4,n5⟩,⟨x6,x7,n8,n9⟩,⟨b1,b2,K,L⟩,M,N,O,V,X⟩,rfl,⟨l0,⟨l4,l5⟩,⟨l8,l9⟩,⟨C,D⟩,E,F,G,I,J⟩⟩
theorem Ee{cs:List Value}(h:Se (qP enc Tryz.prog W) Bp cs):∃r:Bk,cs=r.cs/\r.f<W64:=by
 obtain⟨F,_,rfl,a,G,_,rfl,d,I,_,rfl,f,J,_,rfl,g,K,_,rfl,j,rfl⟩:=h;obtain⟨B,rfl,_⟩:=a.int Tryz.underlying3;obtain⟨C,rfl,_⟩:=d.int Tryz.underlying3;obtain⟨L,rfl,A⟩:=f.int Tryz.underlying22;obtain⟨D,rfl,_⟩:=g.int Tryz.underlying3;obtain⟨E,rfl,_⟩:=j.str Tryz.underlying9;obtain⟨u,rfl,k⟩:=jS A;exact⟨⟨B,C,u,D,E⟩,rfl,k⟩
theorem WX{ok:Bk->Prop}:∀{css:List (List Value)},(∀cs∈css,∃r:Bk,cs=r.cs/\ok r)->∃d:List Bk,css=d.map Bk.cs/\∀r∈d,ok r
 | [],_=>⟨[],rfl,λr h=>by cases h⟩
 |cs::css,h=>by
  obtain⟨r,u,f⟩:=h cs (Q3 ..);obtain⟨d,g,a⟩:=WX (css:=css) λc k=>h c (P3 _ k)
  refine⟨r::d,by rw[u,g];rfl,λx j=>?_⟩;rcases O6.1 j with rfl|j
  ·exact f
  ·exact a x j
theorem HQ{α β:Type}{R:α->β->Prop}:∀{f vs:List α} {cs:List β},Se R (f++vs) cs->∃a d,cs=a++d/\Se R f a/\Se R vs d
 | [],vs,cs,h=>⟨[],cs,rfl,rfl,h⟩
 |u::f,vs,cs,⟨c,r,e,B,C⟩=>by
  obtain⟨g,j,rfl,k,A⟩:=HQ C;exact⟨c::g,j,by rw[e];rfl,⟨c,g,rfl,B,k⟩,A⟩
theorem Ed{v:Value}{l:List Bk}(h:Lk W v 5 (l.map Bk.cs))(r:∀x∈l,x.f<W64):∃a c,v=.slice a l.length c/\pP (QZ W) a l/\l.length<=c:=by
 obtain⟨k,a,c,rfl,g,_,d⟩:=h;rw[O1]at k g;refine⟨a,c,by rw[O1],⟨λi x f=>?_,r,k⟩,g⟩;rcases d with d|⟨b,o,rfl,_,d⟩
 ·rw[List.map_eq_nil_iff.1 d]at f;cases f
 ·refine⟨b,o,rfl,λj u A=>?_⟩;have:=d i x.cs (by rw[T5,f];rfl) j u A;rw[show o+i*5+j=o+(i*5+j) by omega];exact this
set_option maxRecDepth 100000 in
theorem Ig{v:Value}(h:qP enc Tryz.prog W 27 v):∃(l:List Bk) (a:Option Addr) (c:Nat),v=.slice a l.length c/\pP (QZ W) a l/\l.length<=c:=by
 obtain⟨n,z,u,j⟩:=h;obtain⟨r,f,d⟩:=Jw Bp u j Tryz.underlying27 kR kR (by decide);obtain⟨l,rfl,k⟩:=WX λcs g=>Ee (d cs g)
 exact⟨l,Ed f k⟩
set_option maxRecDepth 100000 in
theorem SY(A : Value.okWide Tryz.prog W .any base 29 v0)
  (u:DataW.Trod enc Tryz.prog W 0 (λ_=>true) true 29 v0 d0 p0) (d:∀p∈p0,p.block<W.heap.size):
  ∃(p:Pr) (l:List Bk) (a:Option Addr) (c:Nat),v0=bnV p a l.length c/\p.ok0/\pP (QZ W) a l/\l.length<=c:=by
 obtain⟨cs,rfl,h⟩:=Wj (Ff++[27]) A u d kR kR kR;obtain⟨B,C,rfl,f,v,_,rfl,g,rfl⟩:=HQ h;obtain⟨p,rfl,r⟩:=Jj f;obtain⟨l,a,c,rfl,k,j⟩:=Ig g;exact⟨p,l,a,c,rfl,r,k,j⟩
end
end Go.Proofs.YtkoamlfiijcecaaGreatDoor.Sx
namespace Go.Proofs.YtkoamlfiijcecaaGreatDoor.Sx
open Go.ChangeShapes Go.WideShapes Go.ChangeAt Go.RowKit Go.Deep
theorem Zh(x:Bk)(num:Int)(a:Nat)(w:World){U:View}(f:See U w)(g:U ⟨a,0,none⟩=some (.int .i64 num)):CP 55 #[x.V,.pointer (some ⟨a,0,none⟩)] w (Ret (.bool (x.n==num)) w):=by
 refine dC 8 Tryz.func55 f ?_;refine zs (zr (aW (λd=>(zq 1 (zn (zB [0,1] [(d,1)] (zV a (0) (I6 num) g 3 (.tmp 1) _ Tryz.underlying3 rfl ?_)))))));refine zq 2 (zn (aA (gC 3)))
theorem Km(x:Bk)(o:Op)(a:Nat)(w:World){U:View}(f:See U w)(g:U.range a 0 o.cs):CP 58 #[x.V,.pointer (some ⟨a,0,none⟩)] w (Ret (.bool (x.n==o.n)) w):=by
 refine dC 9 Tryz.func58 f ?_;refine zs (zr (aW (λd=>(zq 1 (zn (zB [0,1,0] [(d,1)] (zV a (0+1) (I6 o.n) (g 1 _ rfl) 3 (.tmp 6) _ Tryz.underlying3 rfl ?_)))))));refine zq 2 (zn (aA (gC 3)))
theorem VX(l:List Bk)(a:Option Addr)(c:Nat)(num:Int)(j:Nat)(w:World){U:View}(I:See U w)(E:cG U a l)(J:U ⟨j,0,none⟩=some (.int .i64 num)):CP 57 #[.slice a l.length c,.func (.func 55) #[] #[.pointer (some ⟨j,0,none⟩)]] w (Ret (.int .i64 (jC l num)) w):=by
 have h:=E.len;unfold R47 at h;refine dC 19 Tryz.func57 I ?_;refine zQ 1 (zn (zs (zQ 3 (zn (aB (eF (α:=Nat) (λx=>[0,1,4,7,8].zip [(.slice a l.length c),(.func (.func 55) #[] #[(Pt j 0)]),(I6 0),(L6 l.length),(L6 x)]) (λx=>U) (λx=>[]) (λx=>x<=l.length/\QY num x (l.drop x)=jC l num) (λx=>l.length-x) 0 ?_ ?_))))))
 ·exact⟨M8 _,rfl⟩
 intro x K;obtain⟨L,d⟩:=K;refine zQ 1 (zn (zs (aZ ((x:Int)<(l.length:Int)) (λG A=>?_) (λG A=>?_))))
 ·refine zk (zs (aB (zQ 2 (zn (zQ 3 ?_)))));obtain⟨k,f⟩:∃y,(l)[x]? =some y:=⟨(l)[x]'oW,K8 _⟩;obtain⟨r,u,rfl,D⟩:=E.at_ x k f;refine cB (Pt r (u+x*5)) (rIx 58 rfl r u l.length c x 5) ?_;refine zU r (u+x*5) k.cs D 58 (.tmp 14) _ Tryz.underlying58 rfl ?_;refine dN (λW g=>Zh k num j W g.view J) (zn (fC k.n num (λB C=>?_) (λB C=>?_)))
  ·refine zQ 2 (zn (aA (aO [4] [(L6 x)] (λF g=>?_))));refine⟨?_,g.below⟩;rw[<-d,lF f,N1 B];rfl
  ·refine zk (zr (zq 1 (dH 18 ((x:Int)+1) (zq 1 (zn ?_)))));refine nx (x+1) ?_ ?_
   ·exact⟨by omega,by rw[<-d,lF f,M5 (by rw[B];exact M3)]⟩
   ·show l.length-(x+1)<l.length-x;omega
 ·refine aI (zQ 1 (zn (aA (aO [4] [(I6 (-1))] (λF g=>?_)))));refine⟨?_,g.below⟩;rw[<-d,cZ oW];rfl
theorem Ot(l:List Bk)(a:Option Addr)(c:Nat)(o:Op)(j:Nat)(w:World){U:View}(I:See U w)(E:cG U a l)(J:U.range j 0 o.cs):CP 57 #[.slice a l.length c,.func (.func 58) #[] #[.pointer (some ⟨j,0,none⟩)]] w (Ret (.int .i64 (jC l o.n)) w):=by
 have h:=E.len;unfold R47 at h;refine dC 19 Tryz.func57 I ?_;refine zQ 1 (zn (zs (zQ 3 (zn (aB (eF (α:=Nat) (λx=>[0,1,4,7,8].zip [(.slice a l.length c),(.func (.func 58) #[] #[(Pt j 0)]),(I6 0),(L6 l.length),(L6 x)]) (λx=>U) (λx=>[]) (λx=>x<=l.length/\QY o.n x (l.drop x)=jC l o.n) (λx=>l.length-x) 0 ?_ ?_))))))
 ·exact⟨M8 _,rfl⟩
 intro x K;obtain⟨L,d⟩:=K;refine zQ 1 (zn (zs (aZ ((x:Int)<(l.length:Int)) (λG A=>?_) (λG A=>?_))))
 ·refine zk (zs (aB (zQ 2 (zn (zQ 3 ?_)))));obtain⟨k,f⟩:∃y,(l)[x]? =some y:=⟨(l)[x]'oW,K8 _⟩;obtain⟨r,u,rfl,D⟩:=E.at_ x k f;refine cB (Pt r (u+x*5)) (rIx 58 rfl r u l.length c x 5) ?_;refine zU r (u+x*5) k.cs D 58 (.tmp 14) _ Tryz.underlying58 rfl ?_;refine dN (λW g=>Km k o j W g.view J) (zn (fC k.n o.n (λB C=>?_) (λB C=>?_)))
  ·refine zQ 2 (zn (aA (aO [4] [(L6 x)] (λF g=>?_))));refine⟨?_,g.below⟩;rw[<-d,lF f,N1 B];rfl
  ·refine zk (zr (zq 1 (dH 18 ((x:Int)+1) (zq 1 (zn ?_)))));refine nx (x+1) ?_ ?_
   ·exact⟨by omega,by rw[<-d,lF f,M5 (by rw[B];exact M3)]⟩
   ·show l.length-(x+1)<l.length-x;omega
 ·refine aI (zQ 1 (zn (aA (aO [4] [(I6 (-1))] (λF g=>?_)))));refine⟨?_,g.below⟩;rw[<-d,cZ oW];rfl
theorem BB{W0:Cx}{U:View}{σ:aH}{W:World}(k b:Nat)(q:List Bk)(junk:List Value)(d:Mem W0 U σ W)(f:σ[k]? =some (b,.cells (q.flatMap Bk.cs++junk).toArray 58 (0,0)))(g:∀x∈q,x.ok)(a:q.length<=R47):cG (QZ W) (some ⟨b,0,none⟩) q:=
 cG.of (gF (cI d k b _ _ f)).1 g a
theorem Es(num:Int)(q:List Bk):(jC q num= -1/\q.filter (λx=>x.n !=num)=q)\/∃j:Nat,jC q num=((0+j:Nat):Int)/\j<q.length/\(q.take (j+1)).filter (λx=>x.n !=num)=q.take j:=by
 unfold jC;generalize 0=i
 induction q generalizing i with
 |nil=>exact .inl ⟨rfl,rfl⟩
 |cons x r ih=>
  rw[QY];cases d:x.n==num with
  |true=>exact .inr ⟨0,by simp,by simp,by simp[bne,d]⟩
  |false=>
   simp only[N9,if_false];rcases ih (i+1)with⟨a,f⟩|⟨j,a,f,g⟩
   ·exact .inl ⟨a,by rw[U0,bne,d,f];rfl⟩
   ·refine .inr ⟨j+1,by rw[a];congr 1;omega,by rw[M9];omega,?_⟩;rw[S9,S9,U0,bne,d,g];rfl
theorem qJ:∀q:List Bk,(q.flatMap Bk.cs).length=q.length*5
 | []=>rfl
 |x::r=>by rw[P9,L4,qJ r,M9];show 5+r.length*5=_;omega
theorem ND:∀{q:List Bk} {j:Nat} {y:Bk} {junk:List Value},q[j]? =some y->∀i v,y.cs[i]? =some v->(q.flatMap Bk.cs++junk)[0+j*5+i]? =some v
 | [],j,y,junk,h,_,_,_=>by simp at h
 |x::r,0,y,junk,h,i,v,a=>by
  simp only[P5,L0]at h;subst h;have f:=(L8.1 a).1;rw[P9,M6,Q1 oW];rwa[show 0+0*5+i=i by omega]
 |x::r,j+1,y,junk,h,i,v,a=>by
  have:=ND (junk:=junk) (show r[j]? =some y by simpa using h) i v a;have d:x.cs.length=5:=rfl;rw[P9,M6,P8 oW,show 0+(j+1)*5+i-x.cs.length=0+j*5+i by omega];exact this
theorem KD:∀(l:List Bk) (i:Nat) (x:Bk) (j:List Value),i<l.length->cJ (l.flatMap Bk.cs++j) (0+i*5) x.cs=(l.set i x).flatMap Bk.cs++j
 | [],i,x,j,a=>by simp at a
 |y::r,0,x,j,_=>by
  rw[bI,P9,P9,bF,M6,M6];unfold cJ;rw[S6,R0,O0,show x.cs.length=y.cs.length from rfl,ad]
 |y::r,i+1,x,j,a=>by
  have f:=KD r i x j (by simpa using a);have g:y.cs.length=5:=rfl;have d:x.cs.length=5:=rfl;rw[aq,P9,P9,M6,M6,<-f];unfold cJ;rw[d,show 0+(i+1)*5=y.cs.length+(0+i*5) by omega,bP,O2 oW,show y.cs.length+(0+i*5)-y.cs.length=0+i*5 by omega,show y.cs.length+(0+i*5)+5=y.cs.length+(0+i*5+5) by omega,bN,R6 oW,R0,show y.cs.length+(0+i*5+5)-y.cs.length=0+i*5+5 by omega];simp only[M6]
structure DlB where
 i:Nat
 j:Nat
 L:List Bk
structure rQ (q : List Bk) (keep : Bk -> Bool) (x : DlB) : Prop where
 ij:x.i<x.j
 jn:x.j<=q.length
 len:x.L.length=q.length
 tk:x.L.take x.i=(q.take x.j).filter keep
 dr:x.L.drop x.j=q.drop x.j
theorem rQ.skip{q:List Bk}{keep:Bk->Bool}{x:DlB}{y:Bk}(h:rQ q keep x)(d:q[x.j]? =some y)(f:keep y=false):rQ q keep ⟨x.i,x.j+1,x.L⟩:=by
 have a:=(L8.1 d).1;refine⟨by have:=h.ij;show x.i<x.j+1;omega,a,h.len,?_,?_⟩
 ·show x.L.take x.i=(q.take (x.j+1)).filter keep;rw[Q9,d,List.filter_append,h.tk];simp[f]
 ·show x.L.drop (x.j+1)=q.drop (x.j+1);rw[<-T3,<-T3,h.dr]
theorem rQ.keep{q:List Bk}{keep:Bk->Bool}{x:DlB}{y:Bk}(h:rQ q keep x)(d:q[x.j]? =some y)(g:keep y=true):rQ q keep ⟨x.i+1,x.j+1,x.L.set x.i y⟩:=by
 have a:=(L8.1 d).1;have f:=h.ij;have j:=h.len;refine⟨by show x.i+1<x.j+1;omega,a,by rw[T2];exact j,?_,?_⟩
 ·show(x.L.set x.i y).take (x.i+1)=(q.take (x.j+1)).filter keep;rw[Q9,List.getElem?_set_self oW,List.take_set_of_le (O9 _),h.tk,Q9,d,List.filter_append];simp[g]
 ·show(x.L.set x.i y).drop (x.j+1)=q.drop (x.j+1);rw[List.drop_set_of_lt oW,<-T3,<-T3,h.dr]
theorem rQ.at_{q:List Bk}{keep:Bk->Bool}{x:DlB}(h:rQ q keep x):x.L[x.j]? =q[x.j]? :=by
 have a:(x.L.drop x.j)[0]? =(q.drop x.j)[0]? :=by rw[h.dr]
 simpa using a
theorem rQ.done{q:List Bk}{keep:Bk->Bool}{x:DlB}(h:rQ q keep x)(a:¬x.j<q.length):x.L.take x.i=q.filter keep:=by
 rw[h.tk,O2 oW]
def Bl(b c:Nat)(q:List Bk)(v:Value)(σ:aH):Prop:=∃junk,v=.slice (some ⟨b,0,none⟩) q.length c/\σ=[(b,.cells (q.flatMap Bk.cs++junk).toArray 58 (0,0))]/\(Rw.row b c junk).ok 5 q.length (q.flatMap Bk.cs)
theorem No{L:List Bk}{junk zs:List Value}{i n c:Nat}(B:L.length=n)(C:i<=n)(A:zs.length=(n-i)*5)(r:(L.flatMap Bk.cs++junk).length=c*5)(u:n<=c)(g:c<=maxLen):∃a,cJ (L.flatMap Bk.cs++junk) (0+i*5) zs=(L.take i).flatMap Bk.cs++a/\(Rw.row 0 c a).ok 5 i ((L.take i).flatMap Bk.cs):=by
 have j:=qJ L;have k:=qJ (L.take i);have d:(L.take i).length=i:=by rw[O3];omega
 have h:(L.flatMap Bk.cs++junk).take (0+i*5)=(L.take i).flatMap Bk.cs:=by
  have:L.flatMap Bk.cs=(L.take i).flatMap Bk.cs++(L.drop i).flatMap Bk.cs:=by rw[<-Q4,S8]
  rw[this,M6,List.take_left' oW]
 have f:(L.flatMap Bk.cs++junk).length=L.length*5+junk.length:=by rw[L4,j]
 refine⟨zs++(L.flatMap Bk.cs++junk).drop (0+i*5+zs.length),by unfold cJ;rw[h,M6],by rw[k,d],?_,by omega,g⟩;simp only[L4,N8]at r f ⊢;rw[k,d,A];rw[j]at r ⊢;omega
theorem MX{W0:Cx}{U:View}{g:aH}{W:World}(b c:Nat)(q:List Bk)(junk:List Value)(num:Int)(u:Nat)(hs:U ⟨u,0,none⟩=some (.int .i64 num))(K:∀x∈q,x.ok)(f:Mem W0 U ([(b,.cells (q.flatMap Bk.cs++junk).toArray 58 (0,0))]++g) W)(Z:(Rw.row b c junk).ok 5 q.length (q.flatMap Bk.cs))(a6:q.length<=1000000):
    CP 54 #[.slice (some ⟨b,0,none⟩) q.length c,.func (.func 55) #[] #[.pointer (some ⟨u,0,none⟩)]] W (gX W0 U g λv _ σ'=>Bl b c (q.filter λx=>x.n !=num) v σ'):=by
 obtain⟨hx,F,I,G⟩:=Z;rcases Es num q with⟨N,X⟩|⟨r,N,a8,X⟩
 ·rw[X];have a7:=f;refine fB 42 Tryz.func54 f ?_;refine zQ 1 (zn (zQ 2 (cY 57 #[(Sl b 0 q.length c),(.func (.func 55) #[] #[(Pt u 0)])] (I6 (-1)) (λW f=>N▸VX q _ _ num u W (U:=QZ W) (λ_ _ h=>h) (BB 0 b q junk f rfl K (by unfold R47;omega)) (f.view _ _ hs)) ?_)));refine zq 1 (zn (zs (zQ 2 (zn (dM (zQ 2 (zn (aA (aO [4] [(Sl b 0 q.length c)] (λW' f=>?_))))))))));exact eV (σ':=[(b,(.cells (q.flatMap Bk.cs++junk).toArray 58 (0,0)))]) f (View.le_refl _) ⟨junk,rfl,rfl,hx,F,I,G⟩
 ·rw[O0]at N;refine fB 42 Tryz.func54 f ?_;refine zQ 1 (zn (zQ 2 (cY 57 #[(Sl b 0 q.length c),(.func (.func 55) #[] #[(Pt u 0)])] (I6 (r:Int)) (λW f=>N▸VX q _ _ num u W (U:=QZ W) (λ_ _ h=>h) (BB 0 b q junk f rfl K (by unfold R47;omega)) (f.view _ _ hs)) ?_)));refine zq 1 (zn (zs (zQ 2 (zn (dY ((r:Int)==(-1)) (M2.2 oW) ?_)))));refine zk (zs (zQ 2 (dZ 15 (I6 (IntKind.i64.wrap ((r:Int)+1))) (I6 ((r+1:Nat):Int)) (M0 (Value.int .i64) (by rw[IntWalk.i64_in _ oW];omega)) ?_)));refine zq 1 (zn (aB (eF (α:=DlB) (λx=>[0,1,4,5,6].zip [(Sl b 0 q.length c),(.func (.func 55) #[] #[(Pt u 0)]),S0,(L6 x.i),(L6 x.j)]) (λx=>U) (λx=>([(b,(.cells (x.L.flatMap Bk.cs++junk).toArray 58 (0,0)))]++g)) (λx=>rQ q (λx=>x.n !=num) x/\x.j<=q.length) (λx=>q.length-x.j) ⟨r,r+1,q⟩ ?_ ?_)))
  ·exact⟨⟨by show r<r+1;omega,by show r+1<=_;omega,rfl,X.symm,rfl⟩,by show r+1<=_;omega⟩
  intro x hx;obtain⟨a,b2⟩:=hx;have b0:=a.ij;have D:=a.len;refine zs (zQ 4 (zn (aZ ((x.j:Int)<(q.length:Int)) (λh0 O=>?_) (λh0 O=>?_))))
  ·refine zk (zs (aB (zQ 2 (cB (Pt b (0+x.j*5)) (rIx 58 rfl b 0 q.length c x.j 5) ?_))));obtain⟨j,A⟩:∃y,q[x.j]? =some y:=⟨q[x.j]'oW,K8 _⟩;refine Gg 0 b (0+x.j*5) (x.L.flatMap Bk.cs++junk) j.cs 58 58 _ rfl kR kR (λi v hv=>ND (a.at_.trans A) i v hv) _ Tryz.underlying58 rfl kR kR kR ?_;refine dB 1 (λC=>?_);refine aX 1 C (zn (zB [0,2] [(C,5)] (dN (λW f=>Zh j num u W f.view hs) (zq 1 (zn (gK (!(j.n==num)) (λV=>?_) (λV=>?_)))))))
   ·refine zB [0,0,2] [(C,5)] (cB (Pt b (0+x.i*5)) (rIx 58 rfl b 0 q.length c x.i 5) ?_);refine Rj 0 b (0+x.i*5) 5 (x.L.flatMap Bk.cs++junk) 58 58 j.V _ _ rfl kR kR kR kR (by rw[L4,qJ];have:=a.len;omega) rfl kR ?_;refine qV U _ (λ_ h=>h.eqv (show _=([(b,(.cells ((x.L.set x.i j).flatMap Bk.cs++junk).toArray 58 (0,0))),(bK C j.cs 58)]++g)from by rw[<-KD x.L x.i j junk (by have:=a.len;omega)];kernel_rfl)) ?_;refine zn (zr (zq 2 (dH 35 ((x.i:Int)+1) (zq 1 (zn (zr (zq 2 (dH 21 ((x.j:Int)+1) (zq 1 (zn ?_))))))))));refine nx ⟨x.i+1,x.j+1,x.L.set x.i j⟩ ?_ ?_ (d:=λ_ h=>Mem.sub (N4 (M4 _ _) (N7 _)) (h.eqv (show _=((([(b,(.cells ((x.L.set x.i j).flatMap Bk.cs++junk).toArray 58 (0,0)))]:aH)++([(bK C j.cs 58)]:aH))++(g))from by kernel_rfl)))
    ·exact⟨a.keep A (show(!(j.n==num))=true by rw[V];try rfl),by show x.j+1<=_;omega⟩
    ·show q.length-(x.j+1)<q.length-x.j;omega
   ·refine zk (zr (zq 2 (dH 21 ((x.j:Int)+1) (zq 1 (zn ?_)))));refine nx ⟨x.i,x.j+1,x.L⟩ ?_ ?_ (d:=λ_ h=>Mem.sub (N4 (M4 _ _) (N7 _)) (h.eqv (show _=((([(b,(.cells (x.L.flatMap Bk.cs++junk).toArray 58 (0,0)))]:aH)++([(bK C j.cs 58)]:aH))++(g))from by kernel_rfl)))
    ·exact⟨a.skip A (show(!(j.n==num))=false by rw[V];try rfl),by show x.j+1<=_;omega⟩
    ·show q.length-(x.j+1)<q.length-x.j;omega
  ·refine aI (zQ 2 (cB (.slice (some ⟨b,(if c=x.i then 0 else 0+x.i*5),none⟩) (q.length-x.i) (c-x.i)) (iL 27 58 (.tmp 36) (some (.tmp 37)) none none rfl b 0 q.length c x.i q.length c 5 (q.length-x.i) (c-x.i) (if c=x.i then 0 else 0+x.i*5) kR eR eR eR (by decide) oW oW oW oW oW (by first|rfl|(split<;>omega)) Tryz.underlying27 kR) ?_));refine Mj 0 b (if c=x.i then 0 else 0+x.i*5) (q.length-x.i-1) (c-x.i) 5 (x.L.flatMap Bk.cs++junk) (.agg #[.int .i64 0,.int .i64 0,.int .u64 0,.int .i64 0,.string (B [])]) 58 27 58 (.tmp 38) rfl (by rw[show q.length-x.i-1+1=q.length-x.i by omega];kernel_rfl) kR (λW=>by kernel_rfl) rfl kR (by rw[M5 oW,L4,qJ];omega) Tryz.underlying27 kR kR (λys a1=>?_);refine zn (zQ 2 (cB (Sl b 0 x.i c) (iL 27 58 (.tmp 39) none (some (.tmp 40)) none rfl b 0 q.length c 0 x.i c 5 x.i c 0 kR eR eR eR (by decide) oW oW oW oW oW (by first|rfl|(split<;>omega)) Tryz.underlying27 kR) ?_));refine zq 1 (zn (aA (aO [4] [(Sl b 0 x.i c)] (λW' f=>?_))));obtain⟨k,Y,J⟩:=No (L:=x.L) (junk:=junk) (zs:=ys) (i:=x.i) (n:=q.length) (c:=c) D oW (by rw[a1];congr 1;omega) (by rw[L4,qJ,D,<-L4.symm.trans F.symm.symm];simp only[L4,qJ]) I G;rw[<-a.done oW];have M:(x.L.take x.i).length=x.i:=by rw[O3];omega
   have E:=f.eqv (show _=([(b,(.cells (cJ (x.L.flatMap Bk.cs++junk) (if c=x.i then 0 else 0+x.i*5) ys).toArray 58 (0,0)))]++g)from by kernel_rfl);rw[M5 oW,Y]at E;refine fN 0 1 (b,.cells ((x.L.take x.i).flatMap Bk.cs++k).toArray 58 (0,0)) E (View.le_refl _) ⟨k,?_,rfl,?_⟩
   ·show Value.slice (some ⟨b,0,none⟩) x.i c=_;rw[M]
   ·rw[M];exact J
def OwB(p:Pr)(b c:Nat)(m:List Bk)(v:Value)(σ:aH):Prop:=∃j,v=bnV p (some ⟨b,0,none⟩) m.length c/\σ=[(b,.cells (m.flatMap Bk.cs++j).toArray 58 (0,0))]/\(Rw.row b c j).ok 5 m.length (m.flatMap Bk.cs)
theorem Pu(p:Pr)(l:List Bk)(a f c:Nat){W0:Cx}{U:View}{d:aH}{W:World}(I:U.range a f (l.flatMap Bk.cs))(j:0<l.length)(J:l.length<=1000000)(h:Mem W0 U ([]++d) W):CP 26 #[bnV p (some ⟨a,f,none⟩) l.length c] W (gX W0 U d λv _ σ'=>∃b E,OwB p b E l v σ'):=by
 have G:=rP l;refine fB 8 Tryz.func26 h ?_;refine zs (zr (dB 0 (λk=>?_)));refine dB 1 (λu=>?_);refine zn (zB [0,1] [(k,1)] ?_);refine LI 56 #[(Sl a f l.length c)] 58 5 l.length (l.flatMap Bk.cs) kR (λW h=>tI h.view a f l.length c _ I (rP l) (tK l) j oW) kR kR (λg r D A=>?_);let C:aH:=[(g,(.cells (l.flatMap Bk.cs++D).toArray 58 (0,0)))];refine zq 1 (aX 0 k (zn (zB [1] [(k,20)] (aX 1 u (zn (aA (dW [2] [(u,20)] [(bnV p (some ⟨g,0,none⟩) l.length r)] (λK h=>?_))))))));let B:aH:=[(bK k (dO p (some ⟨g,0,none⟩) l.length r) 29),(bK u (dO p (some ⟨g,0,none⟩) l.length r) 29)];have F:=A;exact mJ (σ1:=B) (ρ:=C) (h.eqv (show _=((B:aH)++d)++C from by kernel_rfl)) (View.le_refl _) ⟨g,r,D,rfl,rfl,F⟩
theorem rG(p:Pr)(q:List Bk)(b c:Nat)(j:List Value)(num:Int){W0:Cx}{U:View}{a:aH}{W:World}(d:Mem W0 U ([(b,(.cells (q.flatMap Bk.cs++j).toArray 58 (0,0)))]++a) W)(D:(Rw.row b c j).ok 5 q.length (q.flatMap Bk.cs))(E:∀x∈q,x.ok)(k:q.length<=1000000):CP 25 #[bnV p (some ⟨b,0,none⟩) q.length c,.int .i64 num] W (gX W0 U a λv _ σ'=>OwB p b c (q.filter λx=>x.n !=num) v σ'):=by
 refine fB 11 Tryz.func25 d ?_;refine zs (zr (dB 1 (λf=>?_)));refine dB 2 (λg=>?_);refine dB 3 (λh=>?_);refine zn (zB [0,2,0] [(f,1)] ?_);refine eY [(b,(.cells (q.flatMap Bk.cs++j).toArray 58 (0,0))),(bK f (dO p (some ⟨b,0,none⟩) q.length c) 29)] ([(h,.cells Z20.toArray 29 (0,0))]++a) g [(I6 num)] 3 kR (λG A u=>?_);refine jY 0 (b,(.cells (q.flatMap Bk.cs++j).toArray 58 (0,0))) 54 #[(Sl b 0 q.length c),(.func (.func 55) #[] #[(Pt g 0)])] (λv _ σ'=>Bl b c (q.filter λx=>x.n !=num) v σ') (λW d=>MX b c q j num g (u 0 _ rfl) E d D k) (λL I K B r=>?_);obtain⟨F,rfl,rfl,C⟩:=r;refine zq 1 (aX 1 f (zn (zB [2] [(f,20)] (aX 2 h (zn (aA (dW [3] [(h,20)] [(.agg #[(N6 p.f),(I6 p.c),(I6 p.dst.s),(St p.dst.l),(N6 p.dst.n),(N6 p.dst.v),(I6 p.src.s),(St p.src.l),(N6 p.src.n),(N6 p.src.v),(I6 p.rpt.s),(St p.rpt.l),(N6 p.rpt.n),(N6 p.rpt.v),(N6 p.time),(N6 p.seq),(N6 p.life),(N6 p.off),(N6 p.tot),(Sl b 0 (q.filter λx=>x.n !=num).length c)])] (λJ d=>?_))))))));exact fN 0 3 (b,(.cells ((q.filter λx=>x.n !=num).flatMap Bk.cs++F).toArray 58 (0,0))) d (View.le_trans A B) ⟨F,rfl,rfl,C⟩
section
variable {P:Program} {n:Nat} {W0:Cx} {Q:XQ} {s:cA} {U:View} {σ:aH} {ops:Array Oper} {l:List Oper} {o:Oper}
theorem Kf(k b f : Nat)(cs : List Value)(v : Value)(t j : TypeId)(x : Operand)(ho : o.op = .load j x)(J : evS s x = some (.pointer (some ⟨b, f, none⟩)))(E : σ[k]? = some (b, .cells cs.toArray t (0, 0)))(F : cs[f]? = some v)(d : TypeDesc)(G : P.underlying j = some d)(B : d.isRow = false)
  (A:fF n o=true) (I:dA ops s o=some true) (h:SXL P n W0 Q ops l (lQ o v s) U σ):SXL P n W0 Q ops (o::l) s U σ:=by
 refine oT A I λa W u r K C=>?_
 have D:W.cell? ⟨b,f,none⟩=some v:=by
  have:=cI r k b cs t E f v F;rwa[O0]at this
 have g:(isAgg j).run P W=.ok false W:=by
  unfold isAgg;rw[Sem.run_bind,run_underlying G W];cases d<;>simp_all
 unfold Oper.wp execOp;simp only[ho,eH u J,Instr.loadAt,Instr.sureAddr,Sem.run_bind,Sem.run_pure,Result.andThen_ok,loadVar,g];simp only[N9,if_false,load,Sem.run,D,Result.andThen_ok];exact C _ _ _ _ _ h (eL u A) r
end
section
variable {P:Program} {n:Nat} {W0:Cx} {s:cA} {U:View}
theorem ObS.stP{σ f : aH}{ops : Array Oper}{ds : List Nat}{vs : List Sq}{i : Nat}{o : Oper}(k b d : Nat)(cs : List Value)(t r : TypeId)(v : Value)(A y : Operand)(D : ops[i]? = some o)(ho : o.op = .store r A y)(C : o.guard = none)(B : o.dst = none)(ts : List Nat)(a : (Nat -> Value) -> List Value)(h : ∀ u, (ts.map fun x => look (iK ops ds vs u i ++ aV s ds) x) = (a u).map some)
  (G:∀u,evS (ts.zip (a u)) A=some (.pointer (some ⟨b,d,none⟩))) (I:∀u,evS (ts.zip (a u)) y=some v) (E:σ[k]? =some (b,.cells cs.toArray t (0,0))) (hs:qW P r v v.cells.size=true) (F:d+v.cells.size<=cs.length) (j:σ.set k (b,.cells (cJ cs d v.cells.toList).toArray t (0,0))=f):ObS P n W0 U σ f ops ds vs s i i:=by
 refine ObS.st k b _ D C B ts a h (λu=>?_) j;have g:Nat.ble (d+v.cells.size) cs.toArray.size=true:=Nat.ble_eq_true_of_le (by simpa using F);unfold stK;rw[ho];simp only[G u,I u,E,hs,g,ak]
end
end Go.Proofs.YtkoamlfiijcecaaGreatDoor.Sx
