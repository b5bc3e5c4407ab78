/-
  Several texts in one: Bib4 Rt3 Sx32 Lbo1 Bcb4 Lbp Bib5 Rt1 Bop Lbu1.
  Conditions: named at each.
-/
import Derived.Test.YtcdjakemdlinhaaGreatDoorG13
set_option maxHeartbeats 16000000
set_option linter.unusedSimpArgs false
set_option linter.unusedVariables false
set_option linter.unusedSectionVars false
namespace Go.Proofs.YtcdjakemdlinhaaGreatDoor.Sx
open Go.ChangeShapes Go.WideShapes Go.ChangeAt Go.RowKit Go.Deep
theorem aKr(v : Int) : ∀ (i : Nat) (l : List Int), pJ v i l < 0 ∨ ∃ k : Nat, pJ v i l = ((i + k : Nat) : Int) ∧ k < l.length
 |_,[]=>.inl (show(-1:Int)<0 by decide)
 |i,x::r=>by
  rw[pJ];split
  ·exact .inr ⟨0,rfl,by simp⟩
  ·rcases aKr v (i+1) r with h|⟨k,a,c⟩
   ·exact .inl h
   ·exact .inr ⟨k+1,by rw[a];congr 1;omega,by rw[Ah];omega⟩
theorem aGd{v:Int}{l:List Int}(h:¬pJ v 0 l<0):∃k:Nat,pJ v 0 l=(k:Int)∧k<l.length:=by
 rcases aKr v 0 l with a|⟨k,a,c⟩
 ·exact absurd a h
 ·exact⟨k,by rw[a,Aw],c⟩
def aHN(a:As)(t:Int):List Pa:=a.r.getD (pJ t 0 a.t).toNat []
theorem aN6{a:As}{t:Int}{k:Nat}{y:List Pa}(h:pJ t 0 a.t=(k:Int))(c:a.r[k]? =some y):aHN a t=y:=by
 unfold aHN;rw[h,Cr,List.getD_eq_getElem?_getD,c];rfl
def aGz(a:As)(t:Int)(v:Value)(V:View):Prop:=if pJ t 0 a.t<0 then v=.tuple #[.slice none 0 0,.bool false]else∃q,v=.tuple #[q,.bool true]∧mT (aHN a t) q V
theorem aB1(a:As)(q L M:Option Addr)(x cP O:Nat)(target:Int)(w:World){U:View}(hU:See U w)(B:aAK U q L M a)(hr:a.r.length=a.t.length)(k:∀l∈a.r,l.length≤1000000∧∀p∈l,p.v.l=[]):CP 97 #[asV a q L M x cP O,.int .i64 target] w (fO w U (aGz a target)):=by
 have V:=B.t;have fB:=B.p;have fC:=B.r;refine dE 24 Tryz.func97 hU ?_;refine zs (zr (aW (fun r=>(zq 2 (zn (zB [0,1,0] [(r,1)] ?_))))));rcases Ax (decide ((pJ target 0 a.t)<0))with g|g
 ·refine cY 103 #[(.slice q a.t.length x),(I6 target)] (I6 (pJ target 0 a.t)) (fun W c=>sT a.t _ _ target W c.view V) ?_;refine zq 1 (zn (zs (zQ 2 (zn (iA (decide ((pJ target 0 a.t)<0)) g ?_)))));refine zQ 2 (zn (aA (aO [4,5] [S0,(.bool false)] (fun X c=>?_))));refine aH c (View.le_refl _) ?_;unfold aGz;rw[Ar (Bj g)];rfl
 ·have a7:=Au g;obtain⟨f,j,a8⟩:=aGd (Au g);refine cY 103 #[(.slice q a.t.length x),(I6 target)] (I6 (f:Int)) (fun W c=>j▸sT a.t _ _ target W c.view V) ?_;refine zq 1 (zn (zs (zQ 2 (zn (dO (decide ((f:Int)<0)) (Ba oW) ?_)))));refine zk (zs (zB [0,0,1,0,0] [(r,1)] (zn (dO (decide ((f:Int)≥(a.r.length:Int))) (Ba oW) ?_))));refine zk (zB [0,1,0] [(r,1)] ?_);obtain⟨h,d⟩:∃y,(a.r)[f]? =some y:=⟨(a.r)[f]'oW,Aa _⟩;obtain⟨u,A,a6,rfl,E,D⟩:=fC.at_ f h d;obtain⟨K,N,rfl,I⟩:=D;have G:=View.range1 E;refine cD (Pt u (A+f)) (eQ _ 93 _ _ rfl u A a.r.length O f .i64 kR kR (by first|assumption|omega) kR kR) ?_;refine zV u (A+f) (.slice K h.length N) G 93 (.tmp 21) _ Tryz.underlying93 rfl ?_;refine mC 105 #[(.slice K h.length N)] (mT h) (fun W c=>aAm h _ _ W c.view I (k _ (Ad d)).2 (k _ (Ad d)).1) (fun v2 V2 F C=>?_);obtain⟨Y,Z,rfl,J⟩:=C;refine zq 2 (zn (aA (aO [4,5] [(.slice Y h.length Z),(.bool true)] (fun X c=>?_))));refine aH c F ?_;unfold aGz;rw[An (Au g)];exact⟨_,rfl,by rw[aN6 j d];exact⟨_,_,rfl,J⟩⟩
noncomputable def fdZ(l:List Bk)(num target:Int):Int:=if !(fP l num).2||(fP l num).1.t !=11 then 15 else match eD (fP l num).1.d with
 |none=>2
 |some a=>if a.c !=1 then 2 else if pJ target 0 a.t<0 then 15 else 0
def aP1:Value:=(.agg #[(.int .i64 0),(.int .i64 0),(.int .u64 0),(.int .i64 0),(.string (B [])),(.slice none 0 0),(.int .i64 0),(.int .i64 0),(.string (B [])),(.int .u64 0),(.int .u64 0),(.slice none 0 0),(.slice none 0 0),(.slice none 0 0)])
def oR(l : List Bk)(num target : Int)(v : Value)(V : View) : Prop := if fdZ l num target != 0 then v = .tuple #[aP1, .int .i64 (fdZ l num target)]
 else∃a a1 a2 a3 c1 c2 c3 a4 c4,eD (fP l num).1.d=some a∧v=.tuple #[.agg ((fP l num).1.cs++tG a a1 a2 a3 c1 c2 c3++[Value.slice a4 (aHN a target).length c4]).toArray,.int .i64 0]∧aAK V a1 a2 a3 a∧gF PaR 6 V a4 (aHN a target)∧¬pJ target 0 a.t<0
theorem rW{a:As}(h:a.right=true):a.r.length=a.t.length∧∀l∈a.r,l.length≤1000000∧∀p∈l,p.v.l=[]:=by
 have c:=As.shaped h;unfold cV at c;simp only[Ae,Ak]at c;refine⟨c.1.2,fun l f=>?_⟩;have d:=Ao.1 c.2 l f;unfold aAN fR at d;simp only[Ae,Ak]at d;exact⟨by omega,fun p g=>aJU (Ao.1 d.2.1 p g)⟩
theorem aAi(eA:Addr)(p:Pr)(l:List Bk)(a:Option Addr)(c:Nat)(num target:Int)(w:World){U:View}(hU:See U w)(hE:EF U eA)(hl:cW U a l)(N:∀x∈l,x.d.length≤100000):CP 46 #[bnV p a l.length c,.int .i64 num,.int .i64 target] w (fO w U (oR l num target)):=by
 refine dE 54 Tryz.func46 hU ?_;refine zs (zr (aW (fun b0=>(aW (fun k=>(zq 1 (zn (zB [1,0] [(b0,20)] (cY 64 #[(bnV p a l.length c),(I6 num)] (.tuple #[(.agg #[(I6 (fP l num).1.t),(I6 (fP l num).1.n),(N6 (fP l num).1.f),(I6 (fP l num).1.c),(St (fP l num).1.d)]),(.bool (fP l num).2)]) (fun W f=>tF p l _ _ num W f.view hl) ?_)))))))));refine zq 3 (aW (fun V=>(aX 2 V (zq 1 (zn (zs (zQ 3 (cN 21 (!(fP l num).2) (fun r=>?_) (fun r=>?_)))))))))
 ·refine zq 4 (zn (dP (zQ 1 (aX 1 k (zq 1 (zn (aA (dL [2,0] [(k,14)] [(.agg #[(I6 0),(I6 0),(U6 0),(I6 0),(St []),S0,(I6 0),(I6 0),(St []),(U6 0),(U6 0),S0,S0,S0]),(I6 15)] (fun K f=>?_)))))))));have d:fdZ l num target=15:=by unfold fdZ;simp only[r,bs,bQ,reduceIte]
  exact aH f (View.le_refl _) (by unfold oR;rw[d];rfl)
 ·refine cG [0,3,0,0] [(V,1)] (zn (jD ((fP l num).1.t) 11 (fun I _=>?_) (fun I c0=>?_)))
  ·refine zQ 1 (aX 1 k (zq 1 (zn (aA (dL [2,0] [(k,14)] [(.agg #[(I6 0),(I6 0),(U6 0),(I6 0),(St []),S0,(I6 0),(I6 0),(St []),(U6 0),(U6 0),S0,S0,S0]),(I6 15)] (fun K f=>?_))))));have d:fdZ l num target=15:=by unfold fdZ;simp only[r,I,bs,bQ,reduceIte]
   exact aH f (View.le_refl _) (by unfold oR;rw[d];rfl)
  ·refine zk (zB [0,3] [(V,1)] ?_);rcases Ax ((eD (fP l num).1.d).isSome)with h2|h2
   ·refine mC 96 #[(St (fP l num).1.d)] (aOS (eD (fP l num).1.d)) (fun W f=>aC7 eA (fP l num).1.d W f.view hE (by have:=N _ (aDM (by have:=r;simpa using this));omega)) (fun Z V3 F L=>?_);obtain⟨h,g⟩:=Cg.1 h2;rw[g]at L;obtain⟨x3,y3,z3,u3,Z,w3,rfl,u,c1⟩:=L;have B:=u.t;have C:=u.p;have D:=u.r;have b7:=aLI (iH g).2.1;have G:=u.s;refine zq 3 (aW (fun X=>(aX 3 X (zq 1 (zn (zs (zB [0,0,0,0,4,0,0] [(X,1)] (zn (gN (h.c !=1) (fun Y=>?_) (fun Y=>?_))))))))))
    ·refine zQ 1 (aX 1 k (zq 1 (zn (aA (dL [2,0] [(k,14)] [(.agg #[(I6 0),(I6 0),(U6 0),(I6 0),(St []),S0,(I6 0),(I6 0),(St []),(U6 0),(U6 0),S0,S0,S0]),(I6 2)] (fun K f=>?_))))));have d:fdZ l num target=2:=by unfold fdZ;simp only[r,I,g,Y,bs,bQ,reduceIte]
     exact aH f F (by unfold oR;rw[d];rfl)
    ·refine zk (zB [4,0] [(X,8)] ?_);rcases Ax (decide ((pJ target 0 h.t)<0))with J|J
     ·refine mC 97 #[(asV h x3 y3 z3 u3 Z w3),(I6 target)] (aGz h target) (fun W f=>aB1 h _ _ _ _ _ _ target W f.view ⟨B,C,D,G⟩ (rW (iH g).2.1).1 (rW (iH g).2.1).2) (fun v6 V6 a8 E=>?_);unfold aGz at E;rw[Ar (Bj J)]at E;obtain rfl:=E;refine zq 5 (zn (zs (zQ 2 (zn (dP (zQ 1 (aX 1 k (zq 1 (zn (aA (dL [2,0] [(k,14)] [(.agg #[(I6 0),(I6 0),(U6 0),(I6 0),(St []),S0,(I6 0),(I6 0),(St []),(U6 0),(U6 0),S0,S0,S0]),(I6 15)] (fun K f=>?_))))))))))));have d:fdZ l num target=15:=by unfold fdZ;simp only[r,I,g,Y,Ar (Bj J),bs,bQ,reduceIte]
      exact aH f (View.le_trans F a8) (by unfold oR;rw[d];rfl)
     ·refine mC 97 #[(asV h x3 y3 z3 u3 Z w3),(I6 target)] (aGz h target) (fun W f=>aB1 h _ _ _ _ _ _ target W f.view ⟨B,C,D,G⟩ (rW (iH g).2.1).1 (rW (iH g).2.1).2) (fun c2 b8 j q=>?_);have b3:=B.le j;have b4:=C.le j;have b6:=D.le j;unfold aGz at q;rw[An (Au J)]at q;obtain⟨_,rfl,a1,a7,rfl,O⟩:=q;refine zq 5 (zn (zs (zQ 2 (zn (dD (zk (zB [3,4,0,0] [(V,5),(X,8)] (aX 1 k (zq 1 (zn (aA (dL [2,0] [(k,14)] [(.agg #[(I6 (fP l num).1.t),(I6 (fP l num).1.n),(N6 (fP l num).1.f),(I6 (fP l num).1.c),(St (fP l num).1.d),(.slice x3 h.t.length u3),(I6 h.c),(I6 h.s.s),(St h.s.l),(N6 h.s.n),(N6 h.s.v),(.slice y3 h.p.length Z),(.slice z3 h.r.length w3),(.slice a1 (aHN h target).length a7)]),(I6 0)] (fun K f=>?_)))))))))))));have d:fdZ l num target=0:=by unfold fdZ;simp only[r,I,g,Y,An (Au J),bs,bQ,reduceIte]
      refine aH f (View.le_trans F j) ?_;unfold oR;rw[d,An (by simp)];exact⟨_,_,_,_,_,_,_,_,_,g,rfl,⟨b3,b4,b6,G⟩,O,Au J⟩
   ·refine mC 96 #[(St (fP l num).1.d)] (aOS (eD (fP l num).1.d)) (fun W f=>aC7 eA (fP l num).1.d W f.view hE (by have:=N _ (aDM (by have:=r;simpa using this));omega)) (fun c4 b9 M y=>?_);have A:=Eh.1 (by rw[h2];exact Bn);rw[A]at y;obtain rfl:=y;refine zq 3 (aW (fun a6=>(aX 3 a6 (zq 1 (zn (zs (zQ 7 (zn (dP (zQ 1 (aX 1 k (zq 1 (zn (aA (dL [2,0] [(k,14)] [(.agg #[(I6 0),(I6 0),(U6 0),(I6 0),(St []),S0,(I6 0),(I6 0),(St []),(U6 0),(U6 0),S0,S0,S0]),(I6 2)] (fun K f=>?_))))))))))))))));have d:fdZ l num target=2:=by unfold fdZ;simp only[r,I,A,bs,bQ,reduceIte]
    exact aH f M (by unfold oR;rw[d];rfl)
theorem aOz{l:List Bk}{num target:Int}(h:(fdZ l num target !=0)=false):(fP l num).2=true:=by
 have a:fdZ l num target=0:=by simpa using h
 cases c:(fP l num).2 with
 |true=>rfl
 |false=>unfold fdZ at a;rw[c]at a;cases a
theorem aDf{l:List Int}{k:Nat}(h:jB l=true):jB (l.eraseIdx k)=true:=by
 rw[rF]at h ⊢;intro i n d;rw[List.getElem?_eraseIdx]at d;split at d
 ·obtain⟨a,b⟩:=h i n d;refine⟨a,fun j f m c=>?_⟩;rw[List.getElem?_eraseIdx,Ar oW]at c;exact b j f m c
 ·obtain⟨a,b⟩:=h (i+1) n d;refine⟨a,fun j f m c=>?_⟩;rw[List.getElem?_eraseIdx]at c;split at c
  ·exact b j oW m c
  ·exact b (j+1) oW m c
theorem aID{a:As}{k:Nat}(h:cV a=true)(u:k<a.t.length)(d:2≤a.t.length):cV (a.del k)=true:=by
 unfold cV at h ⊢;simp only[Ae,Ak]at h ⊢;obtain⟨⟨⟨⟨⟨⟨⟨⟨C,d⟩,f⟩,g⟩,j⟩,q⟩,r⟩,D⟩,c⟩:=h;have A:(a.del k).t.length=a.t.length-1:=List.length_eraseIdx_of_lt u;have B:(a.del k).r.length=a.r.length-1:=List.length_eraseIdx_of_lt oW;refine⟨⟨⟨⟨⟨⟨⟨⟨by omega,by omega⟩,aDf f⟩,g⟩,j⟩,q⟩,r⟩,by omega⟩,?_⟩;rw[Ao]at c ⊢;exact fun x y=>c x (List.mem_of_mem_eraseIdx y)
theorem aEQ{m n:Nat}(h:n<24):(Itm.aE m n).length=1:=by
 unfold Itm.aE;rw[Ar h];rfl
theorem qD{α : Type}(f : α → Itm.Tr) : ∀ (l : List α) (k : Nat), (Itm.aY ((l.eraseIdx k).map f)).length ≤ (Itm.aY (l.map f)).length
 | [],k=>by simp
 |x::l,0=>by
  rw[List.eraseIdx_cons_zero,Cf,Itm.aY,Ac];omega
 |x::l,k+1=>by
  have:=qD f l k;rw[List.eraseIdx_cons_succ,Cf,Cf,Itm.aY,Itm.aY,Ac,Ac];omega
theorem aE0{a:As}{k:Nat}(h:a.right=true)(f:k<a.t.length)(u:2≤a.t.length):(a.del k).right=true:=by
 have d:=As.shaped h;have x:=aID d f u;have g:=(rW h).1;have y:(a.del k).t.length=a.t.length-1:=List.length_eraseIdx_of_lt f;have A:(a.del k).r.length=a.r.length-1:=List.length_eraseIdx_of_lt oW;unfold As.right at h ⊢;rw[Ae,Ak]at h ⊢;refine⟨x,El ?_ h.2⟩;have r:a.t.length≤16:=by
  unfold cV at d;simp only[Ae,Ak]at d;exact d.1.1.1.1.1.1.1.2
 have B:=qD (fun n:Int=>Itm.cA n.toNat) a.t k;have C:=qD fV a.r k;have j:(Itm.aE 4 a.t.length).length=1:=aEQ oW;have q:(Itm.aE 4 (a.del k).t.length).length=1:=aEQ oW;by_cases c:a.p.length=0
 ·rw[aBY c g,aBY (a:=a.del k) c oW];simp only[Ac,j,q];show 1+(Itm.aY ((a.t.eraseIdx k).map fun n=>Itm.cA n.toNat)).length+(Itm.aE 0 a.c.toNat).length+(_+(Itm.aG a.s.tree).length)+1+(Itm.aY ((a.r.eraseIdx k).map fV)).length≤_;omega
 ·rw[aBX c g,aBX (a:=a.del k) c oW];simp only[Ac,j,q];show 1+(Itm.aY ((a.t.eraseIdx k).map fun n=>Itm.cA n.toNat)).length+(Itm.aE 0 a.c.toNat).length+(_+(Itm.aG a.s.tree).length+(Itm.aG (fV a.p)).length)+1+(Itm.aY ((a.r.eraseIdx k).map fV)).length≤_;omega
noncomputable def tkL(l:List Bk)(num target:Int):List Bk:=match eD (fP l num).1.d with
 |some a=>if 1<a.t.length then fL l [(fP l num).1.withD (a.del (pJ target 0 a.t).toNat).bytes] (jN l num).toNat 1 else fL l [] (jN l num).toNat 1
 |none=>[]
noncomputable def tkZ(p:Pr)(l:List Bk)(num target:Int):Int:=if fdZ l num target !=0 then fdZ l num target else aU p (tkL l num target)
noncomputable def tkP(p:Pr)(l:List Bk)(num target:Int):Pr:=if fdZ l num target !=0 then Pr.zero else cX p (tkL l num target)
noncomputable def tkM(p:Pr)(l:List Bk)(num target:Int):List Bk:=if fdZ l num target !=0 then[]else mS p (tkL l num target)
def aAI(p:Pr)(l:List Bk)(num target:Int):Value→View→Prop:=jG (tkP p l num target) (tkM p l num target) (tkZ p l num target)
theorem aI9{p:Pr}{l:List Bk}{num target:Int}(h:(fdZ l num target !=0)=true){v:Value}{V:View}(a:v=.tuple #[bnV Pr.zero none 0 0,.int .i64 (fdZ l num target)]):aAI p l num target v V:=by
 unfold aAI tkP tkM tkZ;rw[Ar h,Ar h,Ar h];exact⟨none,0,a,cW.nil⟩
theorem tO{p:Pr}{l L:List Bk}{num target:Int}(h:(fdZ l num target !=0)=false)(a:tkL l num target=L){v:Value}{V:View}(c:jG (cX p L) (mS p L) (aU p L) v V):aAI p l num target v V:=by
 unfold aAI tkP tkM tkZ;rw[h,a];exact c
theorem aI8{l:List Bk}{num target:Int}{a:As}{i:Nat}(d:eD (fP l num).1.d=some a)(c:jN l num=(i:Int))(h:¬1<a.t.length):tkL l num target=fL l [] i 1:=by
 unfold tkL;rw[d,c];simp only[Cr,An h]
theorem aFl{l:List Bk}{num target:Int}{a:As}{i k:Nat}{y:Bk}(g:eD (fP l num).1.d=some a)(d:jN l num=(i:Int))(h:1<a.t.length)(f:pJ target 0 a.t=(k:Int))(c:fP l num=(y,true)):tkL l num target=fL l [y.withD (a.del k).bytes] i 1:=by
 unfold tkL;rw[g,d];simp only[f,c,Cr,Ar h]
theorem aHf{l:List Bk}{num target:Int}{a:As}(c:eD (fP l num).1.d=some a):a.right=true∧a.ok:=⟨(iH c).2.1,(iH c).1⟩
def aLh(l : List Bk)(num target : Int)(v : Value)(V : View) : Prop := if fdZ l num target != 0 then v = .tuple #[asV As.zero none none none 0 0 0, .int .i64 (fdZ l num target)]
 else∃a a1 a2 a3 c1 c2 c3,eD (fP l num).1.d=some a∧v=.tuple #[asV a a1 a2 a3 c1 c2 c3,.int .i64 0]∧aAK V a1 a2 a3 a∧¬pJ target 0 a.t<0
theorem aEr(p:Pr)(l:List Bk)(a:Option Addr)(c:Nat)(num target:Int)(w:World){U:View}(hU:See U w)(hl:cW U a l)(X:∀x∈l,x.d.length≤100000):CP 54 #[bnV p a l.length c,.int .i64 num,.int .i64 target,.int .i64 11] w (fO w U (aLh l num target)):=by
 have Y:=hl.len;unfold R47 at Y;refine dE 55 Tryz.func54 hU ?_;refine zs (zr (aW (fun b0=>(aW (fun r=>(zq 1 (zn (zB [1,0] [(b0,20)] ?_))))))));rcases Ax (decide ((jN l num)<0))with B|B
 ·refine cY 9 #[(bnV p a l.length c),(I6 num)] (I6 (jN l num)) (fun W f=>aBp p l _ _ num W f.view hl.to0) ?_;refine zq 1 (zn (zs (zQ 3 (dS 18 (.bool (decide ((jN l num)<0))) (.bool true) (Ag Value.bool B) ?_))));refine zq 9 (zn (dP (zQ 1 (aX 1 r (zq 1 (zn (aA (dL [2,0] [(r,8)] [(.agg Z8.toArray),(I6 15)] (fun J f=>?_)))))))));have d:fdZ l num target=15:=by unfold fdZ;rw[aA1 (Bj B)];rfl
  exact aH f (View.le_refl _) (by unfold aLh;rw[d];rfl)
 ·have b3:=Au B;obtain⟨A,k,b6⟩:=aOx B;refine cY 9 #[(bnV p a l.length c),(I6 num)] (I6 (A:Int)) (fun W f=>k▸aBp p l _ _ num W f.view hl.to0) ?_;refine zq 1 (zn (zs (zQ 3 (dS 18 (.bool (decide ((A:Int)<0))) (.bool false) (Ag Value.bool (Ba oW)) ?_))));refine cG [0,1,0] [(b0,1)] ?_;obtain⟨j,h⟩:∃y,(l)[A]? =some y:=⟨(l)[A]'oW,Aa _⟩;obtain⟨F,G,rfl,V⟩:=hl.at_ A j h;refine cD (Pt F (G+A*5)) (rIx 38 rfl F G l.length c A 5) ?_;refine zq 1 (zV F (G+A*5+0) (I6 j.t) (V 0 _ rfl) 3 (.tmp 23) _ Tryz.underlying3 rfl ?_);refine zq 3 (zn (jD j.t 11 (fun I _=>?_) (fun I b4=>?_)))
  ·refine zQ 1 (aX 1 r (zq 1 (zn (aA (dL [2,0] [(r,8)] [(.agg Z8.toArray),(I6 15)] (fun J f=>?_))))));have g:fP l num=(j,true):=pA (Au B) (by rw[k,Cr];exact h);have d:fdZ l num target=15:=by unfold fdZ;rw[g];simp only[I,bs,bQ,reduceIte]
   exact aH f (View.le_refl _) (by unfold aLh;rw[d];rfl)
  ·refine zk (zB [0,1,0] [(b0,1)] (cD (Pt F (G+A*5)) (rIx 38 rfl F G l.length c A 5) ?_));refine zq 1 (zV F (G+A*5+4) (St j.d) (V 4 _ rfl) 9 (.tmp 34) _ Tryz.underlying9 rfl ?_);rcases Ax ((eD j.d).isSome)with h2|h2
   ·refine pO (fun W f=>aAB j.d W f.view (by have:=X j (Ad h);omega)) (fun v3 V3 D N=>?_);obtain⟨E,u⟩:=Cg.1 h2;rw[u]at N;obtain⟨x3,y3,z3,u3,v3,w3,rfl,C⟩:=N;have K:=C.t;have L:=C.p;have M:=C.r;have a6:=C.s;refine zq 3 (aW (fun b5=>(aX 2 b5 (zq 1 (zn (zs (zB [0,0,0,0,3,0,0,0,0] [(b5,1)] (zn (gN (E.c !=1) (fun h3=>?_) (fun h3=>?_))))))))))
    ·refine zQ 1 (aX 1 r (zq 1 (zn (aA (dL [2,0] [(r,8)] [(.agg Z8.toArray),(I6 2)] (fun J f=>?_))))));have g:fP l num=(j,true):=pA (Au B) (by rw[k,Cr];exact h);have d:fdZ l num target=2:=by unfold fdZ;rw[g];simp only[I,u,h3,bs,bQ,reduceIte]
     exact aH f D (by unfold aLh;rw[d];rfl)
    ·refine zk (zs (zB [3,0] [(b5,8)] (cY 107 #[(asV E x3 y3 z3 u3 v3 w3),(I6 target)] (I6 (pJ target 0 E.t)) (fun W f=>aEy E _ _ _ _ _ _ target W f.view ⟨K,L,M,a6⟩) ?_)));refine zq 1 (zn (gN (decide ((pJ target 0 E.t)<0)) (fun h4=>?_) (fun h4=>?_)))
     ·refine zQ 1 (aX 1 r (zq 1 (zn (aA (dL [2,0] [(r,8)] [(.agg Z8.toArray),(I6 15)] (fun J f=>?_))))));have g:fP l num=(j,true):=pA (Au B) (by rw[k,Cr];exact h);have d:fdZ l num target=15:=by unfold fdZ;rw[g];simp only[I,u,h3,Ar (Bj h4),bs,bQ,reduceIte]
      exact aH f D (by unfold aLh;rw[d];rfl)
     ·refine zk (zB [3] [(b5,8)] (aX 1 r (zq 1 (zn (aA (dL [2,0] [(r,8)] [(asV E x3 y3 z3 u3 v3 w3),(I6 0)] (fun J f=>?_)))))));have g:fP l num=(j,true):=pA (Au B) (by rw[k,Cr];exact h);have d:fdZ l num target=0:=by unfold fdZ;rw[g];simp only[I,u,h3,An (Au h4),bs,bQ,reduceIte]
      refine aH f D ?_;unfold aLh;rw[d,An (by simp),g];exact⟨_,_,_,_,_,_,_,u,rfl,⟨K,L,M,a6⟩,Au h4⟩
   ·refine pO (fun W f=>aAB j.d W f.view (by have:=X j (Ad h);omega)) (fun v6 V6 a7 O=>?_);have Z:eD j.d=none:=by cases a8:eD j.d with|none=>rfl|some q=>(have a1:=h2;rw[a8]at a1;cases a1)
    rw[Z]at O;obtain rfl:=O;refine zq 3 (aW (fun b8=>(aX 2 b8 (zq 1 (zn (zs (zQ 9 (zn (dP (zQ 1 (aX 1 r (zq 1 (zn (aA (dL [2,0] [(r,8)] [(.agg Z8.toArray),(I6 2)] (fun J f=>?_))))))))))))))));have g:fP l num=(j,true):=pA (Au B) (by rw[k,Cr];exact h);have d:fdZ l num target=2:=by unfold fdZ;rw[g];simp only[I,Z,bs,bQ,reduceIte]
    exact aH f a7 (by unfold aLh;rw[d];rfl)
theorem aHd{l:List Bk}{num target:Int}(h:(fdZ l num target !=0)=false):∃(i:Nat) (y:Bk),jN l num=(i:Int)∧l[i]? =some y∧fP l num=(y,true):=aOy (aOz h)
theorem aM3{l m:List Bk}{i:Nat}(c:∀x∈l,x.d.length≤100000)(hm:∀x∈m,x.d.length≤100000):∀x∈fL l m i 1,x.d.length≤1000000:=fun x a=>by
 unfold fL at a;rcases Dh.1 a with a|a
 ·rcases Dh.1 a with a|a
  ·have:=c x (Ea a);omega
  ·have:=hm x a;omega
 ·have:=c x (Dd a);omega
theorem aJG(p:Pr)(l:List Bk)(a:Option Addr)(c:Nat)(num target:Int)(w:World){U:View}(hU:See U w)(hp:p.ok)(hl:cW U a l)(hc:l.length≤c)(l5:l.length≤1000000)(N:∀x∈l,x.d.length≤100000):CP 23 #[bnV p a l.length c,.int .i64 num,.int .i64 target] w (fO w U (aAI p l num target)):=by
 have e6:=hl.len;unfold R47 at e6;refine dE 57 Tryz.func23 hU ?_;refine zs (zr (aW (fun b0=>(aW (fun J=>(zq 1 (zn (zB [1,0,0] [(b0,20)] ?_))))))));rcases Ax ((fdZ l num target) !=0)with A|A
 ·refine mC 54 #[(bnV p a l.length c),(I6 num),(I6 target),(I6 11)] (aLh l num target) (fun W f=>aEr p l _ _ num target W f.view hl N) (fun v2 V2 j2 a1=>?_);unfold aLh at a1;rw[Ar A]at a1;obtain rfl:=a1;refine zq 3 (aW (fun b4=>(aX 2 b4 (zq 1 (zn (zs (zQ 2 (zn (iA ((fdZ l num target) !=0) A ?_)))))))));refine zQ 2 (aX 1 J (zq 1 (zn (aA (dL [2,0] [(J,20)] [(.agg Z20.toArray),(I6 (fdZ l num target))] (fun W' f=>?_))))));exact aH f j2 (aI9 A rfl)
 ·have l4:=Bq.1 A;refine mC 54 #[(bnV p a l.length c),(I6 num),(I6 target),(I6 11)] (aLh l num target) (fun W f=>aEr p l _ _ num target W f.view hl N) (fun v5 V5 F a6=>?_);have k6:=hl.le F;unfold aLh at a6;rw[An (by rw[A];exact Bn)]at a6;obtain⟨j,x5,y5,z5,u5,v5,w5,I,rfl,M,j3⟩:=a6;have h5:=M.t;have h6:=M.p;have h7:=M.r;have j4:=M.s;obtain⟨b3,l6⟩:=aHf (target:=target) I;have e7:=rW b3;obtain⟨d,a7,e4⟩:=aGd j3;have k8:j.t.length≤16:=by have hs:=As.shaped b3;unfold cV at hs;simp only[Ae,Ak]at hs;exact hs.1.1.1.1.1.1.1.2
  obtain⟨g,k,G,b5,e3⟩:=aHd A;have e5:=(Af.1 b5).1;refine zq 3 (aW (fun b7=>(aX 2 b7 (zq 1 (zn (zs (zQ 2 (zn (dD (zk (zB [1,0] [(b0,20)] (cY 9 #[(bnV p a l.length c),(I6 num)] (I6 (g:Int)) (fun W f=>G▸aBp p l _ _ num W f.view k6.to0) ?_))))))))))));refine zq 1 (zn (zB [1,0] [(b0,20)] (mC 12 #[(bnV p a l.length c),(L6 g),(I6 1),S0] (aB3 p (fL l [] g 1)) (fun W f=>rK p l [] g 1 _ _ _ _ W f.view k6 cW.nil (by rintro rfl;simp at e5) oW hc oW (by simp)) (fun v8 V8 q j1=>?_))));have k9:=k6.le q;have j5:=h5.le q;have j6:=h6.le q;have j7:=h7.le q;obtain⟨a8,c8,rfl,hb8⟩:=j1;refine aW (fun y=>(aX 3 y (zn (zs (zB [0,3,0,0] [(b7,1)] (zn (cE ((j.t.length:Int)>1) (fun h1 h8=>?_) (fun h1 h8=>?_))))))))
  ·refine zB [0,1,0] [(b0,1)] ?_;obtain⟨K,L,rfl,e2⟩:=k9.at_ g k b5;refine cD (Pt K (L+g*5)) (rIx 38 rfl K L l.length c g 5) ?_;refine zU K (L+g*5) k.cs e2 38 (.tmp 38) _ Tryz.underlying38 rfl ?_;refine aW (fun Y=>(aX 4 Y (zn (zB [3,0] [(b7,8)] (mC 56 #[(asV j x5 y5 z5 u5 v5 w5),(I6 target)] (aRf (j.del d)) (fun W f=>aB8 j _ _ _ _ _ _ target d W f.view ⟨j5,j6,j7,j4⟩ a7 ⟨by omega,by have:=e7.1;omega⟩) (fun h4 l0 B c4=>?_))))));have j8:=k9.le B;obtain⟨k3,k4,k5,k1,h4,k2,rfl,u⟩:=c4;have c0:=u.t;have c1:=u.p;have c2:=u.r;have e8:=u.s;have X:=aE0 b3 e4 (by have:=Bj h1;omega);have k7:(j.del d).bytes.length≤4000:=by have h:=X;unfold As.right at h;rw[Ae,Ak]at h;exact h.2
   refine cY 55 #[(asV (j.del d) k3 k4 k5 k1 h4 k2)] (St (j.del d).bytes) (fun W f=>pX (j.del d) _ _ _ _ _ _ W f.view ⟨c0,c1,c2,e8⟩ (As.shaped X)) ?_;refine zq 1 (aX 4 Y (zn (zr (cG [1,0,5] [(b0,20),(Y,5)] ?_))));refine gV [(I6 k.t),(I6 k.n),(N6 k.f),(I6 k.c),(St (j.del d).bytes)] 38 (fun r=>(Sl r 0 1 1)) kR kR kR (fun Z b6 C e0=>?_);have e9:=j8.le C;have e1:cW b6 (some ⟨Z,0,none⟩) [(k.withD (j.del d).bytes)]:=cW.of (show b6.range Z 0 ([(k.withD (j.del d).bytes)].flatMap Bk.cs)from e0) (fun x hx=>by rw[Cl.1 hx];exact⟨((e9).ok k (Ad b5)).f,by show(j.del d).bytes.length≤R47;unfold R47;omega⟩) (show 1≤R47 by decide);refine mC 12 #[(bnV p (some ⟨K,L,none⟩) l.length c),(L6 g),(I6 1),(Sl Z 0 1 1)] (aB3 p (fL l [(k.withD (j.del d).bytes)] g 1)) (fun W f=>rK p l [(k.withD (j.del d).bytes)] g 1 _ _ _ _ W f.view e9 e1 (by rintro rfl;simp at e5) oW hc oW (by simp)) (fun l7 l1 O c6=>?_);obtain⟨b8,b9,rfl,V⟩:=c6;refine aX 3 y (zn (zs (zB [4] [(y,20)] (mC 28 #[(.agg #[(N6 p.f),(I6 p.c),(I6 p.dst.s),(St p.dst.l),(N6 p.dst.n),(N6 p.dst.v),(I6 p.src.s),(St p.src.l),(N6 p.src.n),(N6 p.src.v),(I6 p.rpt.s),(St p.rpt.l),(N6 p.rpt.n),(N6 p.rpt.v),(N6 p.time),(N6 p.seq),(N6 p.life),(N6 p.off),(N6 p.tot),(.slice b8 (fL l [(k.withD (j.del d).bytes)] g 1).length b9)])] (fun v _=>v=.int .i64 (aU p (fL l [(k.withD (j.del d).bytes)] g 1))) (fun W f=>aAA p (fL l [(k.withD (j.del d).bytes)] g 1) _ _ W f.view hp V (aM3 N (fun x hx=>by rw[Cl.1 hx];show(j.del d).bytes.length≤100000;omega))) (fun l8 l2 D c7=>?_)))))
   have j9:=V.le D;obtain rfl:=c7;refine zq 1 (zn (zQ 2 (zn (jD (aU p (fL l [(k.withD (j.del d).bytes)] g 1)) 0 (fun h2 h9=>?_) (fun h2 h9=>?_)))))
   ·refine zQ 2 (aX 1 J (zq 1 (zn (aA (dL [2,0] [(J,20)] [(.agg Z20.toArray),(I6 (aU p (fL l [(k.withD (j.del d).bytes)] g 1)))] (fun W' f=>?_))))));exact aH f (View.le_trans (View.le_trans (View.le_trans (View.le_trans (View.le_trans F q) B) C) O) D) (tO A (aFl I G (by have:=Bj h1;omega) a7 e3) (by unfold cX mS;rw[Ar h2,Ar h2];exact⟨none,0,rfl,cW.nil⟩))
   ·refine zk (zB [4] [(y,20)] (aX 1 J (zq 1 (zn (aA (dL [2,0] [(J,20)] [(.agg #[(N6 p.f),(I6 p.c),(I6 p.dst.s),(St p.dst.l),(N6 p.dst.n),(N6 p.dst.v),(I6 p.src.s),(St p.src.l),(N6 p.src.n),(N6 p.src.v),(I6 p.rpt.s),(St p.rpt.l),(N6 p.rpt.n),(N6 p.rpt.v),(N6 p.time),(N6 p.seq),(N6 p.life),(N6 p.off),(N6 p.tot),(.slice b8 (fL l [(k.withD (j.del d).bytes)] g 1).length b9)]),(I6 0)] (fun W' f=>?_)))))));exact aH f (View.le_trans (View.le_trans (View.le_trans (View.le_trans (View.le_trans F q) B) C) O) D) (tO A (aFl I G (by have:=Bj h1;omega) a7 e3) (by have b2:aU p (fL l [(k.withD (j.del d).bytes)] g 1)=0:=(by simpa using h2);unfold cX mS;rw[b2];exact⟨_,_,rfl,j9⟩))
  ·refine zk (zs (zB [4] [(y,20)] (mC 28 #[(.agg #[(N6 p.f),(I6 p.c),(I6 p.dst.s),(St p.dst.l),(N6 p.dst.n),(N6 p.dst.v),(I6 p.src.s),(St p.src.l),(N6 p.src.n),(N6 p.src.v),(I6 p.rpt.s),(St p.rpt.l),(N6 p.rpt.n),(N6 p.rpt.v),(N6 p.time),(N6 p.seq),(N6 p.life),(N6 p.off),(N6 p.tot),(.slice a8 (fL l [] g 1).length c8)])] (fun v _=>v=.int .i64 (aU p (fL l [] g 1))) (fun W f=>aAA p (fL l [] g 1) _ _ W f.view hp hb8 (aM3 N (by simp))) (fun l9 l3 E c9=>?_))));have k0:=hb8.le E;obtain rfl:=c9;refine zq 1 (zn (zQ 2 (zn (jD (aU p (fL l [] g 1)) 0 (fun h3 j0=>?_) (fun h3 j0=>?_)))))
   ·refine zQ 2 (aX 1 J (zq 1 (zn (aA (dL [2,0] [(J,20)] [(.agg Z20.toArray),(I6 (aU p (fL l [] g 1)))] (fun W' f=>?_))))));exact aH f (View.le_trans (View.le_trans F q) E) (tO A (aI8 I G (by have:=Au h1;omega)) (by unfold cX mS;rw[Ar h3,Ar h3];exact⟨none,0,rfl,cW.nil⟩))
   ·refine zk (zB [4] [(y,20)] (aX 1 J (zq 1 (zn (aA (dL [2,0] [(J,20)] [(.agg #[(N6 p.f),(I6 p.c),(I6 p.dst.s),(St p.dst.l),(N6 p.dst.n),(N6 p.dst.v),(I6 p.src.s),(St p.src.l),(N6 p.src.n),(N6 p.src.v),(I6 p.rpt.s),(St p.rpt.l),(N6 p.rpt.n),(N6 p.rpt.v),(N6 p.time),(N6 p.seq),(N6 p.life),(N6 p.off),(N6 p.tot),(.slice a8 (fL l [] g 1).length c8)]),(I6 0)] (fun W' f=>?_)))))));exact aH f (View.le_trans (View.le_trans F q) E) (tO A (aI8 I G (by have:=Au h1;omega)) (by have b2:aU p (fL l [] g 1)=0:=(by simpa using h3);unfold cX mS;rw[b2];exact⟨_,_,rfl,k0⟩))
structure aRD (W0 : Cx) (U : View) (σ : aN) (vs : List Sq) (m : Nat) (t : aAQ) (k : Nat) (vf : Nat → Value) (x : Obj) (L : Nat → Bool) (u : Nat → Value) (w : World) (V : View) (σ' σ2 : aN) : Prop where
 le:View.le U V
 mem:Mem W0 V ((σ++σ2)++σ') w
 at_:∀j,j<m→L j=true→j≠t.j→qY vs j (u j) V
 own:L t.j=true→L t.i=false→t.Ω (u t.j) σ'
 non:L t.j=false∨L t.i=true→σ'=[]
 new:L k=true→∃b,u k=vf b∧σ2=[(b,x)]
 yet:L k=false→σ2=[]
section
variable {P:Program} {n:Nat} {W0:Cx} {s:aZ} {U:View} {σ:aN} {ops:Array Oper} {ds:List Nat} {vs:List Sq}
def aNz(P:Program)(ops:Array Oper)(ds:List Nat)(vs:List Sq)(s:aZ)(k:Nat)(vf:Nat→Value)(x:Obj):Prop:=∃o:Oper,ops[k]? =some o∧o.guard=none∧∀u,makes P (iP ops ds vs u k++aV s ds) o=some (x,fun r=>some (vf r))
def ObA(P:Program)(n:Nat)(W0:Cx)(U:View)(σ:aN)(ops:Array Oper)(ds:List Nat)(vs:List Sq)(s:aZ)(t:aAQ)(k:Nat)(vf:Nat→Value)(x:Obj)(i:Nat):Prop:=
 if i=k then aNz P ops ds vs s k vf x else∀σ2,ObC P n W0 U (σ++σ2) ops ds vs s t i
theorem ObA.o{t:aAQ}{k:Nat}{d:Nat→Value}{x:Obj}{i:Nat}(c:i≠k)(h:∀a,ObC P n W0 U (σ++a) ops ds vs s t i):ObA P n W0 U σ ops ds vs s t k d x i:=by
 unfold ObA;rw[An c];exact h
theorem ObA.al{t:aAQ}{k:Nat}{a:Nat→Value}{x:Obj}(h:aNz P ops ds vs s k a x):ObA P n W0 U σ ops ds vs s t k a x k:=by
 unfold ObA;rw[Ar rfl];exact h
end
section
variable {P:Program} {n:Nat} {W0:Cx} {s:aZ} {U:View} {σ:aN}
theorem aJl{id : Nat}{l : List Oper}{Q : XQ}(m f r : Nat)(ds : List Nat)(vs : List Sq)(t : aAQ)(k : Nat)(vf : Nat → Value)(x : Obj)(hm : P.follows .mixedOrders = true)(c6 : l.length = m + f)(c1 : ds.length = m)
  (e5:oJ l.toArray ds=true) (c4:nodupB ds=true) (e7:(ds.all fun d=>Nat.blt d n)=true) (b3:fI .any l.toArray m=true) (b6:lM .any l.toArray m r=true) (a1:jY l.toArray m f=true) (a8:∀q∈vs,mX q)
  (c7:aDg l.toArray m t=true) (b5:t.j<m∧t.i<m∧t.j≠t.i) (b2:vs[t.j]? =some (.mem fun _ _=>True)) (Z:k<m∧k≠t.j∧k≠t.i) (h6:vs[k]? =some (.mem fun _ _=>True))
  (c8:Go.Proofs.YtcdjakemdlinhaaGreatDoor.Steps (ObA P n W0 U σ l.toArray ds vs s t k vf x) 0 m)
  (ts:List Nat) (F:(Nat→Value)→List Value) (X:∀u,(ts.map fun t=>look (aDP u 0 ds vs++aV s ds) t)=(F u).map some)
  (h:∀(u:Nat→Value) (V:View) (b:Nat),View.le U V→(∀j,j<m→gR vs j (u j) V)→u k=vf b→SXL P n W0 Q l.toArray (l.drop m) (ts.zip (F u)) V (σ++[(b,x)])):SXC P n W0 Q (.region id l.toArray true) s U σ:=by
 refine⟨fun a W ha hM=>?_⟩;have hn:=lH c4;have hd:∀d∈ds,d<n:=fun d hd=>by have:=Ao.1 e7 d hd;simpa[Ew]using this
 refine lD m f r ds (fun L u w=>∃V B D,aRD W0 U σ vs m t k vf x L u w V B D) hm (by simpa using c6) c1 e5 c4 b3 b6 ?_ ?_ ?_
 ·intro u;exact⟨U,[],[],⟨View.le_refl _,by rw[Aj,Aj];exact hM.drew,fun j _ y=>by simp at y,fun y=>by simp at y,fun _=>rfl,fun y=>by simp at y,fun _=>rfl⟩⟩
 ·rintro i e6 L u w ⟨V,B,D,I⟩ M A e4 K hK;have b1:=c8.get i (Ap _) oW;unfold ObA at b1;split at b1
  ·next a7=>
   subst a7;have Y:D=[]:=I.yet M;subst Y;obtain⟨o,ho,N,e8⟩:=b1;have hr:=jH (a0:=a) (u:=u) (V:=V) (vs:=vs) (ops:=l.toArray) i ha hn hd fun j y=>by
    by_cases e:j=t.j
    ·subst e;exact .inr ⟨_,b2⟩
    ·exact .inl (I.at_ j (A j y).2 (A j y).1 e)
   unfold wpOp;simp only[ho,Region.wanted,N,if_true];left;unfold Oper.wp;rw[oF hr (e8 u)];have e2:Mem W0 V (((σ++[])++B)++[(w.heap.size,x)]) (w.alloc x):=I.mem.alloc x;have e3:Mem W0 V ((σ++[(w.heap.size,x)])++B) (w.alloc x):=by
    refine e2.perm ?_;rw[Aj,Al,Al];exact Dw σ Bw
   have:=hK (vf w.heap.size) (w.alloc x) ⟨V,B,[(w.heap.size,x)],⟨I.le,e3,fun j y E C=>?_,fun c hy=>?_,fun c=>?_,fun _=>?_,fun c=>?_⟩⟩
   ·rw[ho]at this;exact this
   ·by_cases e:j=i
    ·subst e;unfold qY;rw[h6];trivial
    ·rw[An e]at E ⊢;exact I.at_ j y E C
   ·rw[An (fun e=>Z.2.1 e.symm)]at c ⊢;rw[An (fun e=>Z.2.2 e.symm)]at hy;exact I.own c hy
   ·rw[An (fun e=>Z.2.1 e.symm),An (fun e=>Z.2.2 e.symm)]at c;exact I.non c
   ·rw[Ar rfl];exact⟨_,rfl,rfl⟩
   ·rw[Ar rfl]at c;cases c
  next a7=>
  have J:=b1 D;unfold ObC at J;split at J
  ·next a6=>
   subst a6;have b9:B=[]:=I.non (.inl M);subst b9;obtain⟨o,g,ts,F,ho,N,X,b4⟩:=J.go;have b0:∀j,cJ .any l.toArray t.j j=true→j≠t.j:=fun j y e=>by have:=(A j y).1;rw[e,M]at this;cases this
   have hr:=jH (a0:=a) (u:=u) (V:=V) (vs:=vs) (ops:=l.toArray) t.j ha hn hd fun j y=>.inl (I.at_ j (A j y).2 (A j y).1 (b0 j y))
   obtain⟨c0,he,hc⟩:=b4 u V I.le fun j y=>(I.at_ j (A j y).2 (A j y).1 (b0 j y)).phi
   unfold wpOp;simp only[ho,Region.wanted,N,if_true];left;unfold Oper.wp;rw[fE (iG ts _ hr (X u)) he];refine(hc w (by have:=I.mem;rwa[Aj]at this)).mono ?_;rintro _ w' ⟨v,B,rfl,G,b8⟩;have e0:L t.i=false:=by
    cases c:L t.i with
    |false=>rfl
    |true=>
     obtain⟨o2,g2,j7,j6,j0,j5,j1,j2,h7,_⟩:=(show aMR P n W0 U (σ++D) l.toArray ds vs s t from by
      have:=c8.get t.i (Ap _) oW;unfold ObA at this;rw[An (fun e=>Z.2.2 e.symm)]at this;have:=this D;unfold ObC at this;rwa[An (fun e=>b5.2.2 e.symm),Ar rfl]at this).go
     have:=e4 t.i t.j c h7;rw[M]at this;cases this
   have:=hK v w' ⟨V,B,D,⟨I.le,G,fun j y E C=>?_,fun _ _=>?_,fun c=>?_,fun c=>?_,fun c=>?_⟩⟩
   ·rw[ho]at this;exact this
   ·rw[An C]at E ⊢;exact I.at_ j y E C
   ·rw[Ar rfl];exact b8
   ·rw[Ar rfl,An (fun e=>b5.2.2 e.symm)]at c;rcases c with c|c
    ·cases c
    ·rw[e0]at c;cases c
   ·rw[An Z.2.1]at c ⊢;exact I.new c
   ·rw[An Z.2.1]at c;exact I.yet c
  ·next a6=>
   split at J
   ·next O=>
    subst O;obtain⟨o,g,Φ,ts,F,ho,N,h5,h8,X,b4⟩:=J.go;have c9:L t.j=true:=(A t.j h8).1;have b8:=I.own c9 M;have hr:=jH (a0:=a) (u:=u) (V:=V) (vs:=vs) (ops:=l.toArray) t.i ha hn hd fun j y=>by
     by_cases e:j=t.j
     ·subst e;exact .inr ⟨_,b2⟩
     ·exact .inl (I.at_ j (A j y).2 (A j y).1 e)
    obtain⟨c0,he,hc⟩:=b4 u V B I.le (fun j y e=>(I.at_ j (A j y).2 (A j y).1 e).phi) b8;unfold wpOp;simp only[ho,Region.wanted,N,if_true];left;unfold Oper.wp;rw[fE (iG ts _ hr (X u)) he];refine(hc w (I.mem.perm Bw)).mono ?_;rintro _ w' ⟨v,V',j3,rfl,hl,G,rfl,h9⟩;rw[Ch]at G;have:=hK v w' ⟨V',[],D,⟨View.le_trans I.le hl,by rw[Aj];exact G,fun j y E C=>?_,fun _ c=>?_,fun _=>rfl,fun c=>?_,fun c=>?_⟩⟩
    ·rw[ho]at this;exact this
    ·by_cases e:j=t.i
     ·subst e;rw[Ar rfl];unfold qY;rw[h5];exact h9
     ·rw[An e]at E ⊢;exact(I.at_ j y E C).le a8 hl
    ·rw[Ar rfl]at c;cases c
    ·rw[An Z.2.2]at c ⊢;exact I.new c
    ·rw[An Z.2.2]at c;exact I.yet c
   ·next O=>
    have e9:∀j,cJ .any l.toArray i j=true→j≠t.j:=fun j y e=>by
     unfold aDg at c7;have:=Ao.1 c7 i (Cm.2 e6);rw[←e,y,Ba O]at this;cases this
    have e1:Mem W0 U ((σ++D)++B) w:=I.mem.weak I.le;refine((J B).go a (up n W0 Q) ha hn hd a8).step u w e1 (fun j y=>(I.at_ j (A j y).2 (A j y).1 (e9 j y)).isQ I.mem I.le) K fun v w' G hE hv=>?_
    obtain⟨V',h1,h2,h3⟩:=hv.at G;obtain⟨q1,q2,q3⟩:=Mem.join (I.mem.call hE) h2;refine hK v w' ⟨V.or V',B,D,⟨View.le_trans I.le q2,q1,fun j y E C=>?_,fun c hy=>?_,fun c=>?_,fun c=>?_,fun c=>?_⟩⟩
    ·by_cases e:j=i
     ·subst e;rw[Ar rfl];exact h3.le a8 q3
     ·rw[An e]at E ⊢;exact(I.at_ j y E C).le a8 q2
    ·rw[An (fun e=>a6 e.symm)]at c ⊢;rw[An (fun e=>O e.symm)]at hy;exact I.own c hy
    ·rw[An (fun e=>a6 e.symm),An (fun e=>O e.symm)]at c;exact I.non c
    ·rw[An (fun e=>a7 e.symm)]at c ⊢;exact I.new c
    ·rw[An (fun e=>a7 e.symm)]at c;exact I.yet c
 ·rintro L u W' ⟨V,B,D,I⟩ E;have b9:B=[]:=I.non (.inr (E _ b5.2.1));subst b9;obtain⟨b,h4,Y⟩:=I.new (E _ Z.1);subst Y;refine iI f m _ W' (by simpa using c6.symm) a1 ?_;have hg:=fun t=>fX ds 0 u a t hn (by rw[ha.size];exact hd)
  have h0:∀j,j<m→gR vs j (u j) V:=fun j y=>by
   by_cases e:j=t.j
   ·unfold gR;rw[e,b2];trivial
   ·exact(I.at_ j y (E j y) e).phi
  refine(h u V b I.le h0 h4).go _ W' (iG ts _ (s':=aDP u 0 ds vs++aV s ds) ⟨by rw[(hg 0).2.2.1,ha.size],by rw[(hg 0).2.2.2,ha.defers],fun x v hl=>?_⟩ (X u)) (by have:=I.mem;rwa[Aj]at this);rcases eV _ _ _ _ hl with hl|⟨_,hl⟩
  ·have c2:=iW _ _ _ hl;obtain⟨j,q,hd2,b7,hq⟩:=mI u 0 _ _ _ _ c2;have j4:j<ds.length:=(Af.1 hd2).1;rw[(hg x).1 j hd2,Aw];cases q with
   |val w=>
    simp only at hq;have b0:j≠t.j:=fun e=>by rw[e,b2]at b7;cases b7
    have:=I.at_ j oW (E j oW) b0;unfold qY at this;rw[b7]at this;simp only at this;rw[this,hq]
   |mem Φ=>simp only[Aw]at hq;rw[hq]
  ·obtain⟨h1,h2⟩:=fD _ _ _ _ hl;rw[(hg x).2.1 h1];exact ha.slots x v h2
end
theorem aP0{l:List Bk}{t:Int}{y:Bk}(h:fP l t=(y,true)):y.n=t:=by
 unfold fP at h;split at h
 ·next z a=>
  have c:=Fp (p:=fun x:Bk=>x.n==t) a;have d:z=y:=Ag Prod.fst h;rw[←d];simpa using c
 ·cases h
theorem aKz{l:List Bk}{t:Int}(h:jN l t<0):l.find? (fun x=>x.n==t)=none:=by
 have:=aA1 h;unfold fP at this;split at this
 ·cases this
 ·assumption
theorem aKy{l:List Bk}{x:Bk}(h:jN l x.n<0):fP (iO l x) x.n=(x,true):=by
 have a:=aKz h;have c:(l.take (l.length-1)).find? (fun y=>y.n==x.n)=none:=by
  rw[Fe]at a ⊢;exact fun y d=>a y (Ea d)
 unfold fP iO;rw[List.find?_append,List.find?_append,c,Eo,Gz];rfl
theorem aOk{l:List UInt8}(h:l.length≤100000):Itm.NOk (eE l):=.mk 2 0 l [] false (by decide) (by unfold Itm.W64;omega) fun i t a=>by simp at a
theorem aEC{a:As}(c:a.ok)(h:a.right=true):eD a.bytes=some a:=by
 have d:∃b:As,b.ok∧b.right=true∧b.bytes=a.bytes:=⟨a,c,h,rfl⟩;unfold eD;rw[dif_pos d];obtain⟨f,g,j⟩:=d.choose_spec;rw[bytes_inj g h f c j]
def aMW(l:List Int)(v:Value)(V:View):Prop:=∃a c,v=.slice a l.length c∧jT V a l∧l.length≤c
theorem aMW.mono{l:List Int}{v:Value}{V d:View}(j:View.le V d)(h:aMW l v V):aMW l v d:=by
 obtain⟨a,c,e,g,f⟩:=h;exact⟨a,c,e,g.le j,f⟩
def aFf(a:As)(k:Nat)(v:Value)(V:View):Prop:=∃a1 c1 a2 c2,v=.agg #[.slice a1 (a.t.eraseIdx k).length c1,.int .i64 a.c,.int .i64 a.s.s,.string (B a.s.l),.int .u64 a.s.n,.int .u64 a.s.v,.slice a2 a.p.length c2,.slice none 0 0]∧jT V a1 (a.t.eraseIdx k)∧(a.t.eraseIdx k).length≤c1∧gF PaR 6 V a2 a.p
theorem aFf.mono{a:As}{k:Nat}{v:Value}{V c:View}(d:View.le V c)(h:aFf a k v V):aFf a k v c:=by
 obtain⟨f,j,g,q,e,u,r,x⟩:=h;exact⟨f,j,g,q,e,u.le d,r,x.le d⟩
def aRb(a:As)(v:Value)(V:View):Prop:=∃a1 a2 a3 c1 c2 c3,v=.tuple #[asV a a1 a2 a3 c1 c2 c3,.bool true]∧aAK V a1 a2 a3 a∧a.t.length≤c1
theorem aKq{V:View}{b k n c:Nat}{l:List Int}{v:Value}(h:V.range b 0 ((l.map inV).take (k*1)++(l.map inV).drop ((k+1)*1)))(j:v=.slice (some ⟨b,0,none⟩) n c)(g:n=(l.eraseIdx k).length)(d:n≤c)(a:l.length≤R47):aMW (l.eraseIdx k) v V:=by
 subst g;refine⟨_,c,j,aDJ (f:=0) ?_ ?_,d⟩
 ·rw[List.eraseIdx_eq_take_drop_succ,Br,List.map_take,List.map_drop];rwa[Nat.mul_one,Nat.mul_one]at h
 ·rw[List.length_eraseIdx];split<;>omega
theorem aP8{a:As}(h:a.right=true):a.p.length≤8∧∀p∈a.p,p.v.l=[]:=by
 have c:=As.shaped h;unfold cV at c;simp only[Ae,Ak]at c;refine⟨c.1.1.1.2,fun p f=>?_⟩;have d:=c.1.1.2;unfold fR at d;rw[Ae]at d;exact aJU (Ao.1 d.1 p f)
theorem aFd(a:As)(aT X aR:Option Addr)(N cP cR:Nat)(target:Int)(k:Nat)(w:World){U:View}(hU:See U w)(hA:aAK U aT X aR a)(hk:pJ target 0 a.t=(k:Int))(b4:k<a.t.length)(I:a.right=true):CP 51 #[asV a aT X aR N cP cR,.int .i64 target] w (fO w U (aRb (a.del k))):=by
 have e1:=hA.t;have j8:=hA.p;have j9:=hA.r;have l4:=hA.s;obtain⟨m5,c2⟩:=rW I;obtain⟨m4,h5⟩:=aP8 I;have m6:a.t.length≤16:=by have hs:=As.shaped I;unfold cV at hs;simp only[Ae,Ak]at hs;exact hs.1.1.1.1.1.1.1.2
 have k9:decide ((k:Int)<0)=false:=Ba oW;obtain⟨Y,Z,rfl,l3⟩:=e1.at_ (by intro h;rw[h]at b4;simp at b4);have m3:(a.t.eraseIdx k).length=a.t.length-1:=List.length_eraseIdx_of_lt b4;refine dE 52 Tryz.func51 hU ?_;refine zs (zr (aW (fun F=>(aW (fun b1=>(zq 1 (zn (zB [0,1,0] [(F,1)] (cY 103 #[(Sl Y Z a.t.length N),(I6 target)] (I6 (k:Int)) (fun W hM=>hk▸sT a.t _ _ target W hM.view e1) ?_)))))))));refine zq 1 (zn (zs (zQ 2 (zn (dO (decide ((k:Int)<0)) k9 ?_)))));refine zk (zs ?_);refine aJl 16 1 0 [17,18,19,20,21,22,23,24,25,26,27,28,29,30,31,7] [.val (Pt F 0),.val (Sl Y Z a.t.length N),.mem (fun _ _=>True),.val (I6 (k:Int)),.val (I6 (k:Int)),.val (I6 ((k+1:Nat):Int)),.mem (aMW (a.t.eraseIdx k)),.val (Pt F 1),.val (I6 a.c),.val (Pt F 2),.val (.agg #[(I6 a.s.s),(St a.s.l),(N6 a.s.n),(N6 a.s.v)]),.val (Pt F 6),.val (.slice X a.p.length cP),.mem (mT a.p),.mem (aFf a k),.mem (fun _ _=>True)] ⟨2,6,fun v f=>∃b c j,v=.slice (some ⟨b,0,none⟩) a.t.length c∧f=[(b,.cells ((a.t.map inV)++j).toArray 3 (0,0))]∧(Rw.row b c j).ok 1 a.t.length (a.t.map inV)⟩ 15 (fun r=>(Pt r 0)) (.cells Z8.toArray 96 (0,0)) kR rfl rfl kR kR kR kR kR kR (by simp only[Bc];refine⟨?_,?_,?_,?_,?_,?_,?_,?_,?_,?_,?_,?_,?_,?_,?_,?_,fun _ h=>by cases h⟩<;>first|trivial|(intro v V V2 E M;(first|trivial|exact aFf.mono E M|exact aMW.mono E M|exact mT.mono E M|exact PhiMono.go M E|(obtain⟨g,e,M⟩:=M;exact⟨g,e,M.le E⟩)))) kR ⟨(show(2:Nat)<16 by decide),(show(6:Nat)<16 by decide),(show(2:Nat)≠6 by decide)⟩ rfl ⟨(show(15:Nat)<16 by decide),(show(15:Nat)≠2 by decide),(show(15:Nat)≠6 by decide)⟩ rfl ⟨?_,?_,?_,?_,?_,?_,?_,?_,?_,?_,?_,?_,?_,?_,?_,?_,trivial⟩ [2,4,5,6,7,31] (fun u=>[(Pt F 0),(Pt b1 0),(.bool false),(I6 (k:Int)),u 15,u 14]) kF ?_
 ·exact ObA.o (show(0:Nat)≠15 by decide) (fun q=>ObC.o 0 (show(0:Nat)≠2 by decide) (show(0:Nat)≠6 by decide) (fun f=>oqQ 0 rfl (Pt F 0) (Pt F 0) rfl rfl kF kF))
 ·exact ObA.o (show(1:Nat)≠15 by decide) (fun q=>ObC.o 1 (show(1:Nat)≠2 by decide) (show(1:Nat)≠6 by decide) (fun f=>oqL 1 0 F 1 [(Sl Y Z a.t.length N),(I6 a.c),(I6 a.s.s),(St a.s.l),(N6 a.s.n),(N6 a.s.v),(.slice X a.p.length cP),(.slice aR a.r.length cR)] 96 rfl (Sl Y Z a.t.length N) rfl kR kF kF))
 ·refine ObA.o (show(2:Nat)≠15 by decide) (fun q=>ObC.own ⟨_,39,[18],(fun u=>[(Sl Y Z a.t.length N)]),rfl,rfl,kF,fun u V hV J=>?_⟩);refine⟨#[(Sl Y Z a.t.length N)],by kernel_rfl,fun W hM=>?_⟩;exact(aBR hM.view Y Z a.t.length N _ (View.range_le hV l3) (by simp) (fun u hu=>by obtain⟨x,_,rfl⟩:=Co.1 hu;rfl) oW oW).mono fun e W' h=>h.own hM
 ·exact ObA.o (show(3:Nat)≠15 by decide) (fun q=>ObC.o 3 (show(3:Nat)≠2 by decide) (show(3:Nat)≠6 by decide) (fun f=>oqQ 3 rfl (L6 k) (L6 k) rfl rfl kF kF))
 ·exact ObA.o (show(4:Nat)≠15 by decide) (fun q=>ObC.o 4 (show(4:Nat)≠2 by decide) (show(4:Nat)≠6 by decide) (fun f=>oqQ 4 rfl (L6 k) (L6 k) rfl rfl kF kF))
 ·exact ObA.o (show(5:Nat)≠15 by decide) (fun q=>ObC.o 5 (show(5:Nat)≠2 by decide) (show(5:Nat)≠6 by decide) (fun f=>oqQ 5 rfl (I6 (IntKind.i64.wrap ((k:Int)+1))) (I6 ((k+1:Nat):Int)) (Ag (Value.int .i64) (by rw[IntWalk.i64_in _ oW];omega)) rfl kF kF))
 ·refine ObA.o (show(6:Nat)≠15 by decide) (fun q=>ObC.take (show(6:Nat)≠2 by decide) ⟨_,104,aMW (a.t.eraseIdx k),[19,20,22],(fun u=>[u 2,(L6 k),(I6 ((k+1:Nat):Int))]),rfl,rfl,rfl,by kernel_rfl,kF,fun u V f hV J hO=>?_⟩);obtain⟨bO,cO,jO,qO,rfl,c0⟩:=(show(fun v f=>∃b c j,v=.slice (some ⟨b,0,none⟩) a.t.length c∧f=[(b,.cells ((a.t.map inV)++j).toArray 3 (0,0))]∧(Rw.row b c j).ok 1 a.t.length (a.t.map inV)) (u 2) f from hO);refine⟨#[u 2,(L6 k),(I6 ((k+1:Nat):Int))],by kernel_rfl,fun W hM=>?_⟩;rw[qO];exact(aEY bO cO a.t.length k _ jO hM c0 (fun u hu=>by obtain⟨x,_,rfl⟩:=Co.1 hu;rfl) b4).mono fun e W' h=>h.mono fun v V' q ⟨h1,h2,h3⟩=>⟨h1,aKq h3 h2 oW (by have:=c0.2.2.1;omega) (by unfold R47;omega)⟩
 ·exact ObA.o (show(7:Nat)≠15 by decide) (fun q=>ObC.o 7 (show(7:Nat)≠2 by decide) (show(7:Nat)≠6 by decide) (fun f=>oqQ 7 rfl (Pt F 1) (Pt F 1) rfl rfl kF kF))
 ·exact ObA.o (show(8:Nat)≠15 by decide) (fun q=>ObC.o 8 (show(8:Nat)≠2 by decide) (show(8:Nat)≠6 by decide) (fun f=>oqL 8 0 F 1 [(Sl Y Z a.t.length N),(I6 a.c),(I6 a.s.s),(St a.s.l),(N6 a.s.n),(N6 a.s.v),(.slice X a.p.length cP),(.slice aR a.r.length cR)] 96 rfl (I6 a.c) rfl kR kF kF))
 ·exact ObA.o (show(9:Nat)≠15 by decide) (fun q=>ObC.o 9 (show(9:Nat)≠2 by decide) (show(9:Nat)≠6 by decide) (fun f=>oqQ 9 rfl (Pt F 2) (Pt F 2) rfl rfl kF kF))
 ·exact ObA.o (show(10:Nat)≠15 by decide) (fun q=>ObC.o 10 (show(10:Nat)≠2 by decide) (show(10:Nat)≠6 by decide) (fun f=>oqL 10 0 F 4 [(Sl Y Z a.t.length N),(I6 a.c),(I6 a.s.s),(St a.s.l),(N6 a.s.n),(N6 a.s.v),(.slice X a.p.length cP),(.slice aR a.r.length cR)] 96 rfl (.agg #[(I6 a.s.s),(St a.s.l),(N6 a.s.n),(N6 a.s.v)]) rfl kR kF kF))
 ·exact ObA.o (show(11:Nat)≠15 by decide) (fun q=>ObC.o 11 (show(11:Nat)≠2 by decide) (show(11:Nat)≠6 by decide) (fun f=>oqQ 11 rfl (Pt F 6) (Pt F 6) rfl rfl kF kF))
 ·exact ObA.o (show(12:Nat)≠15 by decide) (fun q=>ObC.o 12 (show(12:Nat)≠2 by decide) (show(12:Nat)≠6 by decide) (fun f=>oqL 12 0 F 1 [(Sl Y Z a.t.length N),(I6 a.c),(I6 a.s.s),(St a.s.l),(N6 a.s.n),(N6 a.s.v),(.slice X a.p.length cP),(.slice aR a.r.length cR)] 96 rfl (.slice X a.p.length cP) rfl kR kF kF))
 ·refine ObA.o (show(13:Nat)≠15 by decide) (fun q=>ObC.o 13 (show(13:Nat)≠2 by decide) (show(13:Nat)≠6 by decide) (fun f=>oqM 13 105 rfl rfl (mT a.p) rfl [29] (fun u=>[(.slice X a.p.length cP)]) kF (fun u V hV J=>?_)));refine⟨#[(.slice X a.p.length cP)],by kernel_rfl,fun W hW=>?_⟩;exact aAm a.p _ _ W hW (j8.le hV) h5 oW
 ·refine ObA.o (show(14:Nat)≠15 by decide) (fun q=>ObC.o 14 (show(14:Nat)≠2 by decide) (show(14:Nat)≠6 by decide) (fun f=>oqP 14 rfl rfl (aFf a k) rfl [23,25,27,30] (fun u=>[u 6,(I6 a.c),(.agg #[(I6 a.s.s),(St a.s.l),(N6 a.s.n),(N6 a.s.v)]),u 13]) kF (fun u V hV J=>?_)));have e6:(aMW (a.t.eraseIdx k)) (u 6) V:=J 6 kR;have j6:(mT a.p) (u 13) V:=J 13 kR;obtain⟨a6,c6,q6,k7,k8⟩:=e6;obtain⟨j2,j4,l9,h4⟩:=j6;rw[q6,l9];exact⟨(.agg #[(.slice a6 (a.t.eraseIdx k).length c6),(I6 a.c),(I6 a.s.s),(St a.s.l),(N6 a.s.n),(N6 a.s.v),(.slice j2 a.p.length j4),S0]),by kernel_rfl,⟨_,_,_,_,rfl,k7,k8,h4⟩⟩
 ·exact ObA.al ⟨_,rfl,rfl,kF⟩
 intro u2 V2 b2 E e8 c4;have k5:=j9.le E;generalize u2 15=z2 at c4 ⊢;subst c4;have c7:(aFf a k) (u2 14) V2:=e8 14 (by decide);obtain⟨A,C,B,D,c8,b3,a8,b5⟩:=c7;rw[c8];refine aX 2 b2 (zn (zs (zB [0,1,0,0] [(F,1)] (zn (aB (eY (α:=Wp (List Pa)) (fun d=>[4,5,6,7,33,34,35].zip [(Pt b1 0),(.bool false),(L6 k),(Pt b2 0),(.slice aR a.r.length cR),(L6 a.r.length),(L6 d.i)]) (fun d=>d.V) (fun d=>([(bK F [(Sl Y Z a.t.length N),(I6 a.c),(I6 a.s.s),(St a.s.l),(N6 a.s.n),(N6 a.s.v),(.slice X a.p.length cP),(.slice aR a.r.length cR)] 96),(b1,.cells Z8.toArray 96 (0,0)),(bK b2 [(.slice A (a.t.eraseIdx k).length C),(I6 a.c),(I6 a.s.s),(St a.s.l),(N6 a.s.n),(N6 a.s.v),(.slice B a.p.length D),(d.r.V d.m)] 96)]++d.r.B 93 d.xs)) (fun d=>d.i≤a.r.length∧d.m≤d.i∧View.le V2 d.V∧RwR RlR 1 d.V d.r d.xs d.m d.L∧d.L.map Prod.fst=(a.r.take d.i).eraseIdx k) (fun d=>a.r.length-d.i) ⟨0,0,Rw.nil,[],[],V2⟩ ?_ ?_ (hm:=fun _ h=>h.eqv (Dn kR (Aj ([(bK F [(Sl Y Z a.t.length N),(I6 a.c),(I6 a.s.s),(St a.s.l),(N6 a.s.n),(N6 a.s.v),(.slice X a.p.length cP),(.slice aR a.r.length cR)] 96),(b1,.cells Z8.toArray 96 (0,0)),(bK b2 [(.slice A (a.t.eraseIdx k).length C),(I6 a.c),(I6 a.s.s),(St a.s.l),(N6 a.s.n),(N6 a.s.v),(.slice B a.p.length D),S0] 96)]:aN)).symm))))))))
 ·exact⟨Ap _,Bg _,View.le_refl _,RwR.nil,rfl⟩
 intro d l5;obtain⟨m7,m8,G,L,K⟩:=l5;refine zQ 1 (zn (zs (cE ((d.i:Int)<(a.r.length:Int)) (fun h0 k0=>?_) (fun h0 k0=>?_))))
 ·refine zk (zs (aB (zQ 1 ?_)));obtain⟨y6,b7⟩:∃y,(a.r)[d.i]? =some y:=⟨(a.r)[d.i]'oW,Aa _⟩;obtain⟨b6,f6,n1,rfl,k3,k2⟩:=(k5.le G).at_ d.i y6 b7;obtain⟨a6,c6,rfl,l2⟩:=k2;have k6:=View.range1 k3;refine cD (Pt b6 (f6+d.i)) (eQ _ 93 _ _ rfl b6 f6 a.r.length cR d.i .i64 kR kR (by first|assumption|omega) kR kR) ?_;refine zV b6 (f6+d.i) (.slice a6 y6.length c6) k6 93 (.tmp 38) _ Tryz.underlying93 rfl ?_;refine zq 2 (zn (zQ 3 (zn (jD (d.i:Int) (k:Int) (fun h1 k1=>?_) (fun h1 k1=>?_)))))
  ·refine mB 1 [0,5,0,1,1] [(b2,1)] [.mem (mT y6),.mem (fun v V=>∃g,v=(Sl g 0 1 1)∧gF RlR 1 V (some ⟨g,0,none⟩) [y6])] (by simp only[Bc];refine⟨?_,?_,fun _ h=>by cases h⟩<;>first|trivial|(intro v V V2 E M;(first|trivial|exact aFf.mono E M|exact aMW.mono E M|exact mT.mono E M|exact PhiMono.go M E|(obtain⟨g,e,M⟩:=M;exact⟨g,e,M.le E⟩)))) ⟨?_,?_,trivial⟩ ?_
   ·refine wM 105 (fun u=>#[(.slice a6 y6.length c6)]) fun u V hV J W hW=>?_
    exact aAm y6 _ _ W hW (l2.le hV) (c2 _ (Ad b7)).2 (c2 _ (Ad b7)).1
   ·refine wN [46] (fun u=>[u 3]) fun u V hV J=>?_
    have e3:=J 3 kR rfl;obtain⟨a3,c3,q3,l0⟩:=e3;refine⟨[(.slice a3 y6.length c3)],93,fun r=>(Sl r 0 1 1),?_,fun g V' k4 hR=>?_⟩
    ·rw[q3];kernel_rfl
    exact⟨g,rfl,gF.lit [(y6,[(.slice a3 y6.length c3)])] hR ⟨⟨_,_,rfl,l0.le k4⟩,trivial⟩ (show 1≤R47 by decide)⟩
   intro u7 V7 e7 b9;have l6:=L.le e7;have c9:=b9 3 rfl;obtain⟨m0,m1,h7,l1⟩:=c9;refine qX 46 h7 ?_;have e0:=b9 4 rfl;obtain⟨m2,h8,j1⟩:=e0;refine qX 47 h8 ?_;obtain⟨n0,n2,a1,j7,e5,a7⟩:=j1.at_ 0 _ rfl;cases j7;refine lN 3 93 94 24 1 1 L.ok (fun W hM=>View.range_of e5 hM.view) (RecOk.len a7) (RecOk.one a7) (by decide) (fun j0 c1=>?_);refine zq 1 ?_;refine aBa 2 b2 7 (d.m+1) 1 j0 (d.xs++a1) c1 [(.slice A (a.t.eraseIdx k).length C),(I6 a.c),(I6 a.s.s),(St a.s.l),(N6 a.s.n),(N6 a.s.v),(.slice B a.p.length D),(d.r.V d.m)] 96 94 _ _ rfl kR kR kR (fun a c=>by kernel_rfl) kR rfl kR ?_;refine zn (zr (zq 1 (eC 50 ((d.i:Int)+1) (zq 1 (zn ?_)))));refine nx ⟨d.i+1,d.m+1,j0,(d.xs++a1),d.L++[(y6,a1)],V7⟩ ?_ ?_
   ·exact⟨by show d.i+1≤_;omega,by show d.m+1≤d.i+1;omega,(View.le_trans G e7),RwR.snoc l6 a7 c1,by rw[Br,K,aKO b7 (by have:=Cb.1 h1;omega)];rfl⟩
   ·show a.r.length-(d.i+1)<a.r.length-d.i;omega
  ·refine zk (zr (zq 1 (eC 50 ((d.i:Int)+1) (zq 1 (zn ?_)))));refine nx ⟨d.i+1,d.m,d.r,d.xs,d.L,d.V⟩ ?_ ?_
   ·exact⟨by show d.i+1≤_;omega,by show d.m≤d.i+1;omega,G,L,by have h9:=Bq.1 h1;rw[K,show d.i=k by omega,aGk]⟩
   ·show a.r.length-(d.i+1)<a.r.length-d.i;omega
 ·refine aK (zs (zr ?_));refine lA d.r d.xs 1 d.m [(bK F [(Sl Y Z a.t.length N),(I6 a.c),(I6 a.s.s),(St a.s.l),(N6 a.s.n),(N6 a.s.v),(.slice X a.p.length cP),(.slice aR a.r.length cR)] 96),(b1,.cells Z8.toArray 96 (0,0)),(bK b2 [(.slice A (a.t.eraseIdx k).length C),(I6 a.c),(I6 a.s.s),(St a.s.l),(N6 a.s.n),(N6 a.s.v),(.slice B a.p.length D),(d.r.V d.m)] 96)] 93 kR L.ok (fun j3 j5 m9 O e4 e2=>?_);rw[e2];have l7:=(b3.le G).le O;have l8:=(b5.le G).le O;have h6:=L.le O;have b8:=h6.done (by decide) e4 (View.le_refl _) (by unfold R47;omega);rw[Bf oW]at K;rw[K]at b8;have e9:d.m=(a.r.eraseIdx k).length:=by rw[←K,Az];exact h6.m
  rw[e9];refine cG [3] [(b2,8)] (aX 1 b1 (zq 1 (zn (aA (dL [2,0] [(b1,8)] [(.agg #[(.slice A (a.t.eraseIdx k).length C),(I6 a.c),(I6 a.s.s),(St a.s.l),(N6 a.s.n),(N6 a.s.v),(.slice B a.p.length D),(.slice j3 (a.r.eraseIdx k).length j5)]),(.bool true)] (fun W' hM=>?_))))));exact aH hM (View.le_trans (View.le_trans E G) O) ⟨_,_,_,_,_,_,rfl,⟨l7,l8,b8,l4⟩,a8⟩
theorem aHB(l:List Bk)(i:Nat):fL l [] i 1=cZ l i:=by
 unfold fL cZ;rw[Aj]
theorem aK6(eA:Addr)(p:Pr)(l:List Bk)(a:Option Addr)(c:Nat)(num target:Int)(w:World){U:View}(hU:See U w)(hE:EF U eA)(hp:p.ok)(hl:cW U a l)(b3:l.length≤1000000)(a7:∀x∈l,x.d.length≤100000):CP 22 #[bnV p a l.length c,.int .i64 num,.int .i64 target] w (fO w U (aAI p l num target)):=by
 have b2:=hl.len;unfold R47 at b2;refine dE 52 Tryz.func22 hU ?_;refine zs (zr (aW (fun b0=>(aW (fun N=>(zq 1 (zn (zB [1,0,0] [(b0,20)] ?_))))))));rcases Ax ((fdZ l num target) !=0)with u|u
 ·refine mC 46 #[(bnV p a l.length c),(I6 num),(I6 target)] (oR l num target) (fun W k=>aAi eA p l _ _ num target W k.view hE hl a7) (fun v2 V2 e3 E=>?_);unfold oR at E;rw[Ar u]at E;obtain rfl:=E;refine zq 3 (aW (fun b4=>(aX 2 b4 (zq 1 (zn (zs (zQ 2 (zn (iA ((fdZ l num target) !=0) u ?_)))))))));refine zQ 2 (aX 1 N (zq 1 (zn (aA (dL [2,0] [(N,20)] [(.agg Z20.toArray),(I6 (fdZ l num target))] (fun W' k=>?_))))));exact aH k e3 (aI9 u rfl)
 ·have h6:=Bq.1 u;refine mC 46 #[(bnV p a l.length c),(I6 num),(I6 target)] (oR l num target) (fun W k=>aAi eA p l _ _ num target W k.view hE hl a7) (fun v5 V5 G F=>?_);have k6:=hl.le G;unfold oR at F;rw[An (by rw[u];exact Bn)]at F;obtain⟨g,x5,y5,z5,u5,v5,w5,h4,h5,L,rfl,y,h7,e4⟩:=F;have c4:=y.t;have c7:=y.p;have c9:=y.r;have e6:=y.s;obtain⟨b5,h8⟩:=aHf (target:=target) L;obtain⟨d,a8,r⟩:=aGd e4;have e9:(g.t.eraseIdx d).length=g.t.length-1:=List.length_eraseIdx_of_lt r;obtain⟨f,j,B,b6,J⟩:=aHd u;have K:=(Af.1 b6).1;have b8:=aP0 J;rw[J];refine zq 3 (aW (fun b7=>(aX 2 b7 (zq 1 (zn (zs (zQ 2 (zn (dD (zk (zB [0,3,0] [(b7,8)] (mC 51 #[(asV g x5 y5 z5 u5 v5 w5),(I6 target)] (aRb (g.del d)) (fun W k=>aFd g _ _ _ _ _ _ target d W k.view ⟨c4,c7,c9,e6⟩ a8 r b5) (fun v8 V8 I e2=>?_)))))))))))));have M:=k6.le I;obtain⟨x8,y8,z8,u8,v8,w8,rfl,A,a6⟩:=e2;have c6:=A.t;have c8:=A.p;have e0:=A.r;have e7:=A.s;refine zq 3 (aW (fun D=>(aX 3 D (zq 1 (zn (zs (zB [0,4,0,0] [(D,1)] (zn (fQ ((g.del d).t.length:Int) 0 (fun h1 e1=>?_) (fun h1 e1=>?_))))))))))
  ·refine zB [1,0] [(b0,20)] (mC 52 #[(bnV p a l.length c),(I6 num)] (jG (cX p (cZ l f)) (mS p (cZ l f)) (aU p (cZ l f))) (fun W k=>aMM p l _ _ num f W k.view hp M K B b3) (fun h9 h2 X O=>?_));obtain⟨b9,c1,rfl,Z⟩:=O;refine zq 2 (aX 1 N (zq 1 (zn (aA (dL [2,0] [(N,20)] [(.agg #[(N6 (cX p (cZ l f)).f),(I6 (cX p (cZ l f)).c),(I6 (cX p (cZ l f)).dst.s),(St (cX p (cZ l f)).dst.l),(N6 (cX p (cZ l f)).dst.n),(N6 (cX p (cZ l f)).dst.v),(I6 (cX p (cZ l f)).src.s),(St (cX p (cZ l f)).src.l),(N6 (cX p (cZ l f)).src.n),(N6 (cX p (cZ l f)).src.v),(I6 (cX p (cZ l f)).rpt.s),(St (cX p (cZ l f)).rpt.l),(N6 (cX p (cZ l f)).rpt.n),(N6 (cX p (cZ l f)).rpt.v),(N6 (cX p (cZ l f)).time),(N6 (cX p (cZ l f)).seq),(N6 (cX p (cZ l f)).life),(N6 (cX p (cZ l f)).off),(N6 (cX p (cZ l f)).tot),(.slice b9 (mS p (cZ l f)).length c1)]),(I6 (aU p (cZ l f)))] (fun W' k=>?_))))));exact aH k (View.le_trans (View.le_trans G I) X) (tO u ((aI8 L B (by have h:((((g.t.eraseIdx d).length:Nat):Int))=0:=eq_of_beq h1;omega)).trans (aHB l f)) ⟨_,_,rfl,Z⟩)
  ·refine zk (zB [4] [(D,8)] ?_);have e5:2≤g.t.length:=by have h:¬((((g.t.eraseIdx d).length:Nat):Int))=0:=Ai.1 h1;omega
   have q:=aE0 b5 r e5;have e8:(g.del d).bytes.length≤4000:=by have h:=q;unfold As.right at h;rw[Ae,Ak]at h;exact h.2
   have C:(g.del d).outB=(g.del d).bytes∧(g.del d).outZ=0:=by unfold As.outB As.outZ;rw[Ar q,Ar q];exact⟨rfl,rfl⟩
   refine cY 43 #[(asV (g.del d) x8 y8 z8 u8 v8 w8)] (.tuple #[(St (g.del d).bytes),(I6 0)]) (fun W k=>(C.1▸C.2▸aC9 (g.del d) _ _ _ _ _ _ W k.view ⟨c6,c8,e0,e7⟩ a6)) ?_;refine zq 5 (aX 2 b7 (zn (zB [1,0,3] [(b0,20),(b7,5)] (mC 53 #[(bnV p a l.length c),(.agg #[(I6 j.t),(I6 j.n),(N6 j.f),(I6 j.c),(St (g.del d).bytes)])] (jG (cX p (l.set f (j.withD (g.del d).bytes))) (mS p (l.set f (j.withD (g.del d).bytes))) (aU p (l.set f (j.withD (g.del d).bytes)))) (fun W k=>aOI p l _ _ (j.withD (g.del d).bytes) f W k.view hp M K (by show jN l j.n=_;rw[b8];exact B) b3 ⟨((M).ok j (Ad b6)).f,by show(g.del d).bytes.length≤R47;unfold R47;omega⟩) (fun j0 h3 Y V=>?_)))));obtain⟨c0,c2,rfl,a1⟩:=V;refine zq 2 (aX 1 N (zq 1 (zn (aA (dL [2,0] [(N,20)] [(.agg #[(U6 ((cX p (l.set f (j.withD (g.del d).bytes))).f:Int)),(I6 (cX p (l.set f (j.withD (g.del d).bytes))).c),(I6 (cX p (l.set f (j.withD (g.del d).bytes))).dst.s),(St (cX p (l.set f (j.withD (g.del d).bytes))).dst.l),(U6 ((cX p (l.set f (j.withD (g.del d).bytes))).dst.n:Int)),(U6 ((cX p (l.set f (j.withD (g.del d).bytes))).dst.v:Int)),(I6 (cX p (l.set f (j.withD (g.del d).bytes))).src.s),(St (cX p (l.set f (j.withD (g.del d).bytes))).src.l),(U6 ((cX p (l.set f (j.withD (g.del d).bytes))).src.n:Int)),(U6 ((cX p (l.set f (j.withD (g.del d).bytes))).src.v:Int)),(I6 (cX p (l.set f (j.withD (g.del d).bytes))).rpt.s),(St (cX p (l.set f (j.withD (g.del d).bytes))).rpt.l),(U6 ((cX p (l.set f (j.withD (g.del d).bytes))).rpt.n:Int)),(U6 ((cX p (l.set f (j.withD (g.del d).bytes))).rpt.v:Int)),(U6 ((cX p (l.set f (j.withD (g.del d).bytes))).time:Int)),(U6 ((cX p (l.set f (j.withD (g.del d).bytes))).seq:Int)),(U6 ((cX p (l.set f (j.withD (g.del d).bytes))).life:Int)),(U6 ((cX p (l.set f (j.withD (g.del d).bytes))).off:Int)),(U6 ((cX p (l.set f (j.withD (g.del d).bytes))).tot:Int)),(.slice c0 (mS p (l.set f (j.withD (g.del d).bytes))).length c2)]),(I6 (aU p (l.set f (j.withD (g.del d).bytes))))] (fun W' k=>?_))))))
   exact aH k (View.le_trans (View.le_trans G I) Y) (tO u ((aFl L B oW a8 J).trans (aIZ K)) ⟨_,_,rfl,a1⟩)
section
variable {p:Pr} {l:List Bk} {e:Ei} {vr fl:Int} {key:List UInt8} {ts:List Int} {n:Nat}
theorem aJs(h:aNb p l e vr fl key ts n=true):aF5 p l 1 ts=0∧aI e=true∧(∀t∈ts,txZ p l t (aFw l) fl=0∧lB vr key=true)∧(aCc l e vr fl ts n).right=true:=by
 unfold aNb at h;simp only[Ae,Cy]at h;obtain⟨⟨⟨c,d⟩,f⟩,a⟩:=h;refine⟨c,d,fun t g=>?_,?_⟩
 ·have:=Ao.1 f t g;unfold aB6 at this;simpa using this
 ·unfold As.outZ at a;split at a
  ·assumption
  ·cases a
theorem aD3{n z : Nat} : ∀ {m k : Nat}, k < m → (aFn n z m)[k]? = some (aQE (n + k) z)
 |m+1,k,h=>by
  rw[aFn];by_cases a:k<m
  ·rw[Bp (by rw[mV];exact a),aD3 a]
  ·obtain rfl:k=m:=by omega
   rw[Bm (by rw[mV];exact Bg _),mV,Dc];rfl
theorem aOG(g:e.ok)(u:lB vr key=true):(aCc l e vr fl ts n).ok:=by
 have r:=aDq vr;have j:∀k,Itm.NOk (Itm.cA k)∨True:=fun _=>.inr trivial
 refine⟨g,fun x a=>?_,fun q h x a=>?_⟩
 ·simp only[aCc,aQn,Bh,List.not_mem_nil,Ct]at a;rcases a with rfl|rfl
  ·exact .mk 0 (uN vr) [] [] false (by have:=aLw vr;unfold W64 at this;unfold Itm.W64;omega) (by decide) fun i t f=>by simp at f
  ·exact .mk 0 (uN fl) [] [] false (by have:=aLw fl;unfold W64 at this;unfold Itm.W64;omega) (by decide) fun i t f=>by simp at f
 ·obtain⟨k,c⟩:=Ev h;have d:k<ts.length:=by
   have:=(Af.1 c).1;simp only[aCc,aQn]at this;rwa[mV]at this
  simp only[aCc,aQn]at c;rw[aD3 d]at c;cases c;simp only[aQE,Bh,List.not_mem_nil,Ct]at a;subst a;exact aOk (by rw[Eng.sW];omega)
end
theorem aNO{P:Program}{n:Nat}{W0:Cx}{Q:XQ}{s:aZ}{U:View}{σ:aN}{ops:Array Oper}{l:List Oper}{j:Nat}{L:List En}{y:aN}(g:aN)(q:σ=y++g)(B:Tb j L y)(k:L.length≤R47)(h:∀V,View.le U V→aOP V j L→SXL P n W0 Q ops l s V g):SXL P n W0 Q ops l s U σ:=by
 subst q;obtain⟨r,D,rfl⟩:=B;refine aBd _ (([(j,.cells #[r.V L.length] 76 (0,0))]++g)++r.B 354 (L.flatMap En.cs)) (fun _ h=>h.perm (qP _ _ _).symm) ?_;refine lA r _ 7 _ _ _ rfl D fun a c V C A E=>?_
 rw[E];refine gG [] g j [.slice a L.length c] 76 rfl fun u f hR=>?_
 refine h u (View.le_trans C f) ⟨a,c,hR 0 _ rfl,?_⟩;have d:∀L:List En,tM EnR u (L.map fun x=>(x,x.cs)):=fun L=>by
  induction L with
  |nil=>trivial
  |cons x L ih=>exact⟨rfl,ih⟩
 exact gF.ofRow (by decide) (L.map fun x=>(x,x.cs)) (A.le f) (by rw[List.flatMap_map]) (d L) _ (by rw[List.map_map];exact List.map_id'' (fun _=>rfl) L) k
def hwC(e:Ei)(vr fl:Int)(key:List UInt8)(aS:Option Addr)(n cS:Nat)(id:Bool):List Value:=[.int .i64 e.s,.string (B e.l),.int .u64 e.n,.int .u64 e.v,.int .i64 vr,.int .i64 fl,.string (B key),.slice aS n cS,.bool id]
def hwV(e:Ei)(vr fl:Int)(key:List UInt8)(aS:Option Addr)(n cS:Nat)(id:Bool):Value:=.agg (hwC e vr fl key aS n cS id).toArray
def aKJ(p:Pr)(l:List Bk)(e:Ei)(key:List UInt8)(ts:List Int):Bool:=aAO p l&&decide ((l.length:Int)≤18)&&aBK e&&decide ((key.length:Int)≤100)&&decide ((ts.length:Int)≤18)
theorem aCJ(w:World){U:View}(q:See U w):CP 34 #[] w (fO w U (aB3 aF [dR])):=by
 refine dE 10 Tryz.func34 q ?_;refine zs (zr (aW (fun h=>(zn (zQ 4 (aW (fun j=>(aX 1 j (zn (zB [2,0] [(j,19)] ?_))))))))));refine gV [(I6 1),(I6 1),(U6 0),(I6 0),(St [104,105])] 38 (fun r=>(Sl r 0 1 1)) kR kR kR (fun a g f c=>?_);have d:cW g (some ⟨a,0,none⟩) [dR]:=cW.of (show g.range a 0 ([dR].flatMap Bk.cs)from c) (fun x u=>by rw[Cl.1 u];exact⟨(show(0:Nat)<W64 by decide),(show(2:Nat)≤R47 by decide)⟩) (show 1≤R47 by decide);refine zq 1 (aX 0 h (zn (aA (dL [1] [(h,20)] [(.agg #[(U6 0),(I6 0),(I6 2),(St []),(U6 2),(U6 0),(I6 2),(St []),(U6 1),(U6 0),(I6 1),(St [110,111,110,101]),(U6 0),(U6 0),(U6 5),(U6 0),(U6 100),(U6 0),(U6 0),(Sl a 0 1 1)])] (fun y k=>?_)))));exact aH k f ⟨some ⟨a,0,none⟩,1,rfl,d⟩
theorem aKe(p:Pr)(l:List Bk)(a:Option Addr)(c:Nat)(e:Ei)(vr fl:Int)(key:List UInt8)(ts:List Int)(u:Option Addr)(x:Nat)(B:Bool)(w:World){U:View}(y:See U w)(A:oS U a l):CP 17 #[bnV p a l.length c,hwV e vr fl key u ts.length x B] w (Ret (.bool (aKJ p l e key ts)) w):=by
 refine dE 30 Tryz.func17 y ?_;refine zs (zr (aW (fun r=>(aW (fun k=>(zq 1 (zn (zB [1] [(r,20)] (cY 31 #[(bnV p a l.length c)] (.bool (aAO p l)) (fun W d=>aHX p l _ _ W d.view A) ?_)))))))));refine zq 1 (cN 7 (aAO p l) (fun f=>?_) (fun f=>?_))
 ·refine cG [0,1,0,0,0,0] [(r,1)] (cN 13 (decide ((l.length:Int)≤18)) (fun g=>?_) (fun g=>?_))
  ·refine cG [0,2] [(k,4)] (dK (fun W d=>qL e W) (zq 2 (cN 18 (aBK e) (fun j=>?_) (fun j=>?_))))
   ·refine cG [0,2,0,0,0,0] [(k,1)] (cN 24 (decide ((((key).length:Nat):Int)≤100)) (fun q=>?_) (fun q=>?_))
    ·refine cG [0,2,0,0,0,0] [(k,1)] (zn (aA (aO [4] [(.bool (decide ((ts.length:Int)≤18)))] (fun h d=>?_))));exact⟨by simp only[dC,aKJ,f,g,j,q,bs,bQ,reduceIte],d.below⟩
    ·refine zq 6 (zn (aA (aO [4] [(.bool false)] (fun h d=>?_))));exact⟨by simp only[dC,aKJ,f,g,j,q,bs,bQ,reduceIte],d.below⟩
   ·refine zq 12 (zn (aA (aO [4] [(.bool false)] (fun h d=>?_))));exact⟨by simp only[dC,aKJ,f,g,j,bs,bQ,reduceIte],d.below⟩
  ·refine zq 17 (zn (aA (aO [4] [(.bool false)] (fun h d=>?_))));exact⟨by simp only[dC,aKJ,f,g,bs,bQ,reduceIte],d.below⟩
 ·refine zq 23 (zn (aA (aO [4] [(.bool false)] (fun h d=>?_))));exact⟨by simp only[dC,aKJ,f,bs,bQ,reduceIte],d.below⟩
def wK8:List UInt8:=[107,101,121]
noncomputable def wkL:List Bk:=eH [dR] aF.src 5 0 [1] 0
noncomputable def wkT:List En:=sgT aF [dR] 5 0 wK8 0 [1]
theorem aIY:aF5 aF [dR] 1 [1]=0:=by
 have a:aF7 [dR] 1 [1]=0:=by kernel_rfl
 have c:aQm aF [dR] [⟨2,1,1⟩]=0:=by kernel_rfl
 unfold aF5;rw[aHC,a,An (by decide),An (by decide),An (by rw[aI1];exact Bn)];unfold aNi;rw[aGF,rZ];exact c
theorem aLt:txZ aF [dR] 1 (aFw [dR]) 0=0:=by kernel_rfl
theorem aQr:lB 5 wK8=true:=by kernel_rfl
theorem aM1:(aCc [dR] aF.src 5 0 [1] 0).outZ=0:=by kernel_rfl
theorem aM0:aNb aF [dR] aF.src 5 0 wK8 [1] 0=true:=by
 unfold aNb;rw[aIY,aI2,aM1,Dm,List.all_nil];unfold aB6;rw[aLt,aQr];rfl
theorem aDe:aU aF wkL=0:=by kernel_rfl
theorem aM2:wkL.length=2:=by kernel_rfl
theorem aRj:∀x∈wkL,x.d.length≤100000:=fun x a=>by have:=(rI aDe).2 x a;omega
theorem aQx{g:Nat}{v:Value}{V:View}{S:aN}(h:aOQ g [] aF [dR] aF.src 5 0 wK8 [1] v V S):Tb g wkT S∧∃a c,v=.tuple #[bnV aF a 2 c,.int .i64 0]∧cW V a wkL:=by
 obtain⟨k,j,h⟩:=h;rw[Ar (show aNb aF [dR] aF.src 5 0 wK8 [1] ([]:List En).length=true from aM0)]at h;obtain⟨rfl,a,c,e,d⟩:=h;have f:aU aF (eH [dR] aF.src 5 0 [1] ([]:List En).length)=0:=aDe;unfold cX mS at e;unfold mS at d;rw[f,An (by decide)]at e;rw[f,An (by decide)]at d;refine⟨j,a,c,?_,d⟩;rw[e,An (by decide)];show Value.tuple #[bnV aF a wkL.length c,_]=_;rw[aM2]
theorem aOw{V:View}{g:Nat}{x:Int}(h:V.range g 0 [.int .i64 x]):jT V (some ⟨g,0,none⟩) [x]:=⟨fun _=>⟨g,0,rfl,h⟩,(show(1:Nat)≤R47 by decide)⟩
end Go.Proofs.YtcdjakemdlinhaaGreatDoor.Sx
