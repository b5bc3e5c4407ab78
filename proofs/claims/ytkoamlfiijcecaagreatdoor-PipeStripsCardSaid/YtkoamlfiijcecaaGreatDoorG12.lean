/-
  Several texts in one: Egs1 Sct Bib1 Bib2 Bib3 Rr5 Rsp Rr6 Rh3 Rr7 Rh4 Rh5.
  Conditions: named at each.
-/
import Derived.Test.YtkoamlfiijcecaaGreatDoorG11
set_option maxHeartbeats 16000000
set_option linter.unusedSimpArgs false
set_option linter.unusedVariables false
set_option linter.unusedSectionVars false
namespace Go.Proofs.YtkoamlfiijcecaaGreatDoor.Sx
open Go.ChangeShapes Go.WideShapes Go.ChangeAt Go.RowKit Go.Deep
theorem Ux(v:Int)(w:World):CP 249 #[.int .i64 v] w (Ret (.int .i64 (Eng.bits v)) w):=(Eng.WT v w).mono λe a h=>⟨h.1,h.2▸Below.refl _ _⟩
def sP(v:Int)(key:List UInt8):Bool:=if(if decide (Eng.bits v>0)then(!(key==[]))else false)then decide ((key.length:Int)<=64)else false
theorem ZO(v:Int)(key:List UInt8)(w:World):CP 220 #[.int .i64 v,.string (B key)] w (Ret (.bool (sP v key)) w):=by
 refine dF 17 Tryz.func220 ?_;refine zQ 1 (zn (zQ 1 (dN (λW a=>Ux v W) (zq 2 (cN 8 (decide ((Eng.bits v)>0)) (λd=>?_) (λd=>?_))))))
 ·refine zq 1 (cB (.bool (!(key==[]))) (mI _ _ _ _ rfl key [] kR kR) ?_);refine zq 2 (cN 12 (!(key==[])) (λf=>?_) (λf=>?_))
  ·refine zq 5 (zn (aA (aO [4] [(.bool (decide ((((key).length:Nat):Int)<=64)))] (λg a=>?_))));exact⟨by simp only[dD,sP,d,f,bs,bQ,reduceIte],a.below⟩
  ·refine zq 5 (zn (aA (aO [4] [qF] (λg a=>?_))));exact⟨by simp only[dD,sP,d,f,bs,bQ,reduceIte],a.below⟩
 ·refine zq 9 (zn (aA (aO [4] [qF] (λg a=>?_))));exact⟨by simp only[dD,sP,d,bs,bQ,reduceIte],a.below⟩
def TbX(ib n:Nat)(xs:List Value)(σ:aH):Prop:=∃r:Rw,r.ok 7 n xs/\σ=[(ib,.cells #[r.V n] 105 (0,0))]++r.B 358 xs
def Tb(ib:Nat)(L:List En)(σ:aH):Prop:=TbX ib L.length (L.flatMap En.cs) σ
theorem Tb.snoc{a:Nat}{L:List En}{x:En}{σ:aH}(h:TbX a (L.length+1) (L.flatMap En.cs++x.cs) σ):Tb a (L++[x]) σ:=by
 unfold Tb;rw[L4,Q4,P9,X2,M1];exact h
theorem Tb.new{a:Nat}:Tb a [] (XD a):=⟨.nil,⟨rfl,rfl⟩,rfl⟩
theorem Ja{W0:Cx}{V:View}{W:World}(A B F R:aH)(h:Mem W0 V ((A++B)++F++R) W):Mem W0 V ((A++R)++F) W:=by
 have p:((A++B)++F++R).Perm (B++((A++R)++F)):=by
  refine(((Q2 (l₁:=A) (l₂:=B)).append_right F).append_right R).trans ?_;rw[show((B++A)++F)++R=B++((A++F)++R) by simp only[M6]];exact(AL A F R).append_left B
 exact(h.perm p).sub (S2 _ _)
def enS(v:Int)(k t g:List UInt8):En:=⟨v,k,[],[],t,[],g⟩
theorem Vd(vr:Int)(key f:List UInt8)(j:Nat)(L:List En)(r:Rw){W0:Cx}{U:View}{d:aH}{W:World}(hr:r.ok 7 L.length (L.flatMap En.cs))(hL:L.length<=100)(D:Mem W0 U (([(j,.cells #[r.V L.length] 105 (0,0))]++r.B 358 (L.flatMap En.cs))++d) W):
    CP 298 #[.pointer (some ⟨j,0,none⟩),.int .i64 vr,.string (B key),.string (B f)] W (gX W0 U d λv V σ'=>v=.string (B (Eng.dQ (L.length+1) (fD vr)))/\Tb j (L++[enS vr key f (Eng.dQ (L.length+1) (fD vr))]) σ'):=by
 have hz:=VB vr;obtain⟨a9,c9,v9⟩:=Rw.form hr;have N:Mem W0 U ([(j,.cells #[r.V L.length] 105 (0,0))]++d++r.B 358 (L.flatMap En.cs)) W:=D.perm (AL _ _ _);have O:Mem W0 U ([(bK j [(r.V L.length)] 105)]++d++r.B 358 (L.flatMap En.cs)) W:=N.eqv kR;refine fB 30 Tryz.func298 O ?_;refine zQ 1 (zn (zQ 5 (dN (λW D=>Uz vr W) (cY 299 #[(Pt j 0),(I6 ((fD vr:Nat):Int))] (St (Eng.dQ (L.length+1) (fD vr))) (λW D=>ZP j L.length c9 (fD vr) a9 W (U:=QZ W) (λ_ _ h=>h) (v9▸cI D 0 j [(r.V L.length)] 105 kR 0 _ rfl) oW oW) ?_))));let C:List Value:=[(I6 vr),(St key),(St []),(St []),(St f),(St []),(St (Eng.dQ (L.length+1) (fD vr)))];refine zq 1 (dB 1 (λE=>?_));let M:aH:=[(bK j [(r.V L.length)] 105),(E,.cells C.toArray 358 (0,0))];refine aX 1 E (zn (zs ?_));refine Yb 0 7 [0,0,0,0,3,4,1,1] [(j,1),(E,7)] [.mem (λv V=>∃g,v=(Sl g 0 1 1)/\V.range g 0 C),.mem (λ_ _=>True)] (r.B 358 (L.flatMap En.cs)) (M++d) (Lj 358 7 (L.length+1) (L.flatMap En.cs) (λns _=>ns=C)) (Wu (M++d) (r.B 358 (L.flatMap En.cs)) kR) rfl (by intro v V s2 h;trivial) (by intro v V V2 s2 Y h;exact h) (by simp only[O4];refine⟨?_,?_,λ_ h=>by cases h⟩<;>first|trivial|(intro v V V2 A k;(first|trivial|exact PhiMono.go k A|(obtain⟨g,e,k⟩:=k;exact⟨g,e,k.le A⟩)|(obtain⟨g,e,k⟩:=k;exact⟨g,e,View.range_le A k⟩)|(obtain⟨a,c,e,k⟩:=k;exact⟨a,c,e,k.le A⟩)))) ⟨?_,?_,trivial⟩ ?_
 ·refine nO λσ'=>wN [23] (λu=>[(.agg #[(I6 vr),(St key),(St []),(St []),(St f),(St []),(St (Eng.dQ (L.length+1) (fD vr)))])]) λu V Y G=>?_
  refine⟨C,358,λr=>(Sl r 0 1 1),?_,λg V' a1 hR=>?_⟩
  ·kernel_rfl
  exact⟨g,rfl,hR⟩
 ·refine nP (λu=>u 6) 358 103 7 104 1 L.length hr (by unfold maxLen;omega) oW λu V Y G=>?_
  have e6:=G 6 kR rfl;obtain⟨g6,q6,t6⟩:=e6;exact⟨g6,0,1,_,q6,t6,rfl,by kernel_rfl,rfl⟩
 intro u1 V1 s1 X Z F;obtain⟨z1,J⟩:∃z,u1 7=z:=⟨_,rfl⟩;rw[J]at F;obtain⟨K,_,rfl,rfl,I,rfl⟩:=F;refine qV _ ((M++d)++K.B 358 ((L.flatMap En.cs)++C)) (λ_ h=>(h.perm Q2).eqv kR) ?_;refine qS 25 J ?_;refine zq 2 ?_;refine Aa 0 j 0 (L.length+1) 7 K ((L.flatMap En.cs)++C) I [(r.V L.length)] 105 103 _ _ rfl kR kR kR (λa c=>by kernel_rfl) kR rfl kR ?_;refine zn (zB [0,2,0] [(E,1)] (zn (aA (aO [8] [(St (Eng.dQ (L.length+1) (fD vr)))] (λW' D=>?_)))));exact⟨_,_,_,rfl,X,Ja [(bK j [(K.V (L.length+1))] 105)] [(E,.cells C.toArray 358 (0,0))] d (K.B 358 ((L.flatMap En.cs)++C)) (D.eqv kR),rfl,Tb.snoc ⟨K,I,rfl⟩⟩
def KV(ib:Nat)(L:List En)(vr:Int)(key text:List UInt8)(v:Value)(_:View)(σ':aH):Prop:=if sP vr key then v=.tuple #[.string (B (Eng.dQ (L.length+1) (fD vr))),.int .i64 0]/\Tb ib (L++[(enS vr key text (Eng.dQ (L.length+1) (fD vr)))]) σ' else v=.tuple #[.string (B []),.int .i64 1]/\Tb ib L σ'
theorem Uy(vr:Int)(key a:List UInt8)(j f:Nat)(L:List En){W0:Cx}{U:View}{h d:aH}{W:World}(M:DQ U j f)(K:Tb f L h)(J:L.length<=100)(g:Mem W0 U (h++d) W):CP 178 #[.pointer (some ⟨j,0,none⟩),.int .i64 vr,.string (B key),.string (B a)] W (gX W0 U d (KV f L vr key a)):=by
 obtain⟨r,G,rfl⟩:=K;have u:Mem W0 U ([(f,.cells #[r.V L.length] 105 (0,0))]++d++r.B 358 (L.flatMap En.cs)) W:=g.perm (AL _ _ _);have A:Mem W0 U ([(bK f [(r.V L.length)] 105)]++d++r.B 358 (L.flatMap En.cs)) W:=u.eqv kR;refine fB 22 Tryz.func178 A ?_;refine zQ 2 (zn (zs (zQ 2 (dN (λW g=>ZO vr key W) (zq 1 (zn (gK (!(sP vr key)) (λk=>?_) (λk=>?_))))))))
 ·refine zQ 2 (zn (aA (aO [8,9] [(St []),(I6 1)] (λI g=>?_))));refine⟨_,_,_,rfl,View.le_refl _,(g.eqv (show _=[(f,.cells #[r.V L.length] 105 (0,0))]++d++r.B 358 (L.flatMap En.cs)from by kernel_rfl)).perm (AL _ _ _),?_⟩;unfold KV;rw[M5 (by simpa using k)];exact⟨rfl,r,G,rfl⟩
 ·refine zk (zQ 3 (zV j (0) (.iface 102 (Pt f 0)) M 107 (.tmp 16) _ Tryz.underlying107 rfl ?_));refine zq 3 (Du 298 #[(Pt f 0),(I6 vr),(St key),(St a)] ([(bK f [(r.V L.length)] 105)]++r.B 358 (L.flatMap En.cs)) d (λv V F=>v=.string (B (Eng.dQ (L.length+1) (fD vr)))/\Tb f (L++[(enS vr key a (Eng.dQ (L.length+1) (fD vr)))]) F) (AL [(bK f [(r.V L.length)] 105)] d (r.B 358 (L.flatMap En.cs))) (λW g=>Vd vr key a f L r G J g) (λv0 N O E C=>?_));obtain⟨rfl,D⟩:=C;refine zq 2 (zn (aA (aO [8,9] [(St (Eng.dQ (L.length+1) (fD vr))),(I6 0)] (λI g=>?_))));refine⟨_,_,_,rfl,E,g,?_⟩;unfold KV;rw[N1 (by simpa using k)];exact⟨rfl,D⟩
def txZ(p:Pr)(l:List Bk)(target:Int)(sec:Bk)(scope:Int):Int:=if !(Av scope)then 1 else rdZ p l target sec
def txB(p:Pr)(l:List Bk)(target:Int)(sec:Bk)(scope:Int):List UInt8:=if txZ p l target sec scope !=0 then[]else Ao (rdA p l target) (rdH p l target) (rdS p l target sec) target scope++rdD p l target
def sgC(eb:Nat)(p:Pr)(a:Option Addr)(n c:Nat)(sec:Bk)(vr scope:Int)(key:List UInt8):List Value:=[.pointer (some ⟨eb,0,none⟩)]++dO p a n c++sec.cs++[.int .i64 vr,.int .i64 scope,.string (B key)]
def LC(p:Pr)(l:List Bk)(sec:Bk)(vr scope:Int)(key:List UInt8)(t:Int):Bool:=txZ p l t sec scope==0&&sP vr key
def tgE(p:Pr)(l:List Bk)(sec:Bk)(vr scope:Int)(key:List UInt8)(L:List En)(t:Int):En:=enS vr key (txB p l t sec scope) (Eng.dQ (L.length+1) (fD vr))
def Na(sb:Nat)(cs:List Value)(ib:Nat)(L:List En)(p:Pr)(l:List Bk)(sec:Bk)(vr scope:Int)(key:List UInt8)(t:Int)(v:Value)(_:View)(σ':aH):Prop:=
 if LC p l sec vr scope key t then v=.tuple #[.string (B (Eng.dQ (L.length+1) (fD vr))),.int .i64 0]/\∃σT,Tb ib (L++[tgE p l sec vr scope key L t]) σT/\σ'=[(sb,.cells cs.toArray 199 (0,0))]++σT
 else∃z:Int,v=.tuple #[.string (B []),.int .i64 z]/\z≠0/\∃σT,Tb ib L σT/\σ'=[(sb,.cells cs.toArray 199 (0,0))]++σT
theorem QQ.toN{w G:World}{U:View}{e:TypeId}{z n:Nat}{I:List Value}{B:Ending}{Φ:Value->View->Prop}(K:See U w)(h:QQ w e z n I B G)(A:∀b a V,View.le U V->V.range b 0 I->n<=a->Φ (.slice (some ⟨b,0,none⟩) n a) V):fV w U Φ B G:=by
 obtain⟨b,a,F,rfl,E,r,g,u⟩:=h;have f:Mem ⟨w,U⟩ U [] w:=⟨Below.refl _ _,λ_ _ h _=>h,K,λk b o L=>by simp at L,λj k x y d=>by simp at d⟩;obtain⟨V,C,J,D⟩:=(f.call E).addView g r λk x M=>by simp at M
 exact⟨_,V,rfl,E,C,D.view,D.old,A b a V C (λj v d=>J j v (by rw[Q1 (L8.1 d).1];exact d)) u.2.2.1⟩
def QU(l:List Int)(v:Value)(V:View):Prop:=∃g c,v=.slice (some ⟨g,0,none⟩) l.length c/\gV V (some ⟨g,0,none⟩) l/\l.length<=c
theorem QU.mono{l:List Int}{v:Value}{V V':View}(f:View.le V V')(h:QU l v V):QU l v V':=by
 obtain⟨g,c,e,d,a⟩:=h;exact⟨g,c,e,d.le f,a⟩
theorem ZY{a:Option Addr}{ts:List Int}{c:Nat}{w:World}{U:View}(j:See U w)(k:gV U a ts)(d:ts≠[])(E:ts.length<=100000):CP 105 #[.slice a ts.length c] w (fV w U (QU ts)):=by
 obtain⟨b,f,rfl,B⟩:=k.at_ d;refine(GW j b f ts.length c (ts.map inV) B (by simp) (λu C=>by obtain⟨x,_,rfl⟩:=S1.1 C;rfl) (aj.2 d) oW).mono λe F h=>QQ.toN j h λb g V D r A=>⟨b,g,rfl,MN r k.len,A⟩
theorem Ew{p:Pr}{l:List Bk}{ts:List Int}(h:(VT p l 1 ts !=0)=false):ts≠[]:=by
 rintro rfl;have a:VT p l 1 []=0:=by simpa using h
 unfold VT at a;split at a
 ·next d=>rw[a]at d;cases d
 ·rw[N1 (by rfl)]at a;cases a
def VD(l:List Bk):Bk:=⟨11,((pF l:Nat):Int),0,0,[]⟩
def uN(x:Int):Nat:=(IntKind.u64.wrap x).toNat
theorem Gn(x:Int):0<=IntKind.u64.wrap x/\IntKind.u64.wrap x<18446744073709551616:=by
 simp[IntKind.wrap,IntKind.bits,IntKind.signed];omega
theorem Gm(x:Int):IntKind.u64.wrap x=(uN x:Int):=(Int.toNat_of_nonneg (Gn x).1).symm
theorem Gq(x:Int):uN x<W64:=by
 have h:=Gn x;unfold uN W64;omega
def Ap(e:Ei)(vr fl:Int)(ts:List Int)(rs:List (List Pa)):As:=⟨ts,1,e,[⟨1,Itm.cD (uN vr)⟩,⟨2,Itm.cD (uN fl)⟩],rs⟩
def Bf(n z:Nat):List Pa:=[⟨1,eN (Eng.dQ (n+1) z)⟩]
def Yq(n z:Nat):Nat->List (List Pa)
 |0=>[]
 |k+1=>Yq n z k++[Bf (n+k) z]
theorem NP(n z:Nat):∀k,(Yq n z k).length=k
 |0=>rfl
 |k+1=>by rw[Yq,L4,NP n z k];rfl
def sgT(p:Pr)(l:List Bk)(vr fl:Int)(key:List UInt8):Nat->List Int->List En
 |_,[]=>[]
 |n,t::ts=>enS vr key (txB p l t (VD l) fl) (Eng.dQ (n+1) (fD vr))::sgT p l vr fl key (n+1) ts
theorem VC(p:Pr)(l:List Bk)(vr fl:Int)(key:List UInt8):∀(ts:List Int) (n:Nat) (t:Int),sgT p l vr fl key n (ts++[t])=sgT p l vr fl key n ts++[enS vr key (txB p l t (VD l) fl) (Eng.dQ (n+ts.length+1) (fD vr))]
 | [],n,t=>rfl
 |x::ts,n,t=>by
  rw[T9,sgT,VC p l vr fl key ts (n+1) t,sgT,T9,M9,show n+1+ts.length+1=n+(ts.length+1)+1 by omega]
theorem Xp(p:Pr)(l:List Bk)(vr fl:Int)(key:List UInt8):∀(ts:List Int) (n:Nat),(sgT p l vr fl key n ts).length=ts.length
 | [],_=>rfl
 |_::ts,n=>by rw[sgT,M9,Xp p l vr fl key ts,M9]
def UB(l:List Bk)(e:Ei)(vr fl:Int)(ts:List Int)(n:Nat):As:=Ap e vr fl ts (Yq n (fD vr) ts.length)
def Cw(l:List Bk)(e:Ei)(vr fl:Int)(ts:List Int)(n:Nat):Bk:=⟨11,((pF l:Nat):Int),0,0,(UB l e vr fl ts n).outB⟩
def eP(l:List Bk)(e:Ei)(vr fl:Int)(ts:List Int)(n:Nat):List Bk:=jL l (Cw l e vr fl ts n)
noncomputable def Hu(p:Pr)(l:List Bk)(e:Ei)(vr fl:Int)(key:List UInt8)(ts:List Int)(n:Nat):Bool:=VT p l 1 ts==0&&aN e&&ts.all (LC p l (VD l) vr fl key)&&(UB l e vr fl ts n).outZ==0
def Dy(ib:Nat)(L:List En)(p:Pr)(l:List Bk)(e:Ei)(vr fl:Int)(key:List UInt8)(ts:List Int)(v:Value)(V:View)(σ':aH):Prop:=∃L',Tb ib L' σ'/\
 if Hu p l e vr fl key ts L.length then L'=L++sgT p l vr fl key L.length ts/\rR (gD p (eP l e vr fl ts L.length)) (sT p (eP l e vr fl ts L.length)) (aK p (eP l e vr fl ts L.length)) v V
 else∃z:Int,z≠0/\v=.tuple #[bnV Pr.zero none 0 0,.int .i64 z]
theorem Pc{W0:Cx}{V:View}{W:World}(A T F:aH)(h:Mem W0 V ((A++T)++F) W):Mem W0 V (T++F) W:=(h.eqv (M6 A T F)).sub (S2 _ _)
theorem VL{σ:aH}(A B:aH)(x:Nat×Obj)(T F G:aH)(h:σ=(((A++(x::B))++T)++F)++G):σ.Perm (([x]++T)++(((A++B)++F)++G)):=by
 subst h;have a:(A++(x::B)).Perm ([x]++(A++B)):=List.perm_middle;refine(((a.append_right T).append_right F).append_right G).trans ?_;rw[show((([x]++(A++B))++T)++F)++G=[x]++(((A++B)++T)++(F++G)) by simp only[M6],show([x]++T)++(((A++B)++F)++G)=[x]++(T++((A++B)++(F++G))) by simp only[M6],show T++((A++B)++(F++G))=(T++(A++B))++(F++G) by simp only[M6]];exact X6 [x] (List.Perm.append_right _ Q2)
def UK(e:Ei)(vr fl:Nat)(ts:List Int)(v:Value)(V:View):Prop:=∃g c h,v=.agg #[(.slice (some ⟨g,0,none⟩) ts.length c),(.int .i64 1),(.int .i64 e.s),(.string (B e.l)),(.int .u64 (e.n:Int)),(.int .u64 (e.v:Int)),(.slice (some ⟨h,0,none⟩) 2 2),(.slice none 0 0)]/\gV V (some ⟨g,0,none⟩) ts/\ts.length<=c/\fJ PaR 6 V (some ⟨h,0,none⟩) [⟨1,Itm.cD vr⟩,⟨2,Itm.cD fl⟩]
theorem UK.mono{e:Ei}{vr fl:Nat}{ts:List Int}{v:Value}{V V':View}(a:View.le V V')(h:UK e vr fl ts v V):UK e vr fl ts v V':=by
 obtain⟨g,c,h,e,f,d,j⟩:=h;exact⟨g,c,h,e,f.le a,d,j.le a⟩
theorem Qu{p:Pr}{l:List Bk}{vr fl:Int}{key:List UInt8}{L:List En}{ts:List Int}{i:Nat}{y:Int}(a:ts[i]? =some y):(L++sgT p l vr fl key L.length (ts.take i))++[enS vr key (txB p l y (VD l) fl) (Eng.dQ (L.length+i+1) (fD vr))]=L++sgT p l vr fl key L.length (ts.take (i+1)):=by
 have d:=(L8.1 a).1;rw[Q9,a,Option.toList_some,VC,O3,X9 (Nat.le_of_lt d),M6]
theorem Nd{ts:List Int}{f:Int->Bool}{i:Nat}{y:Int}(d:ts[i]? =some y)(h:(ts.take i).all f=true)(a:f y=true):(ts.take (i+1)).all f=true:=by
 rw[Q9,d,Option.toList_some,bC,h,W4,a];rfl
section
variable {p:Pr} {l:List Bk} {e:Ei} {vr fl:Int} {key:List UInt8} {ts:List Int} {n:Nat}
theorem Qv(f:(VT p l 1 ts !=0)=false)(g:aN e=true)(h:ts.all (LC p l (VD l) vr fl key)=true)(j:((UB l e vr fl ts n).outZ !=0)=false):Hu p l e vr fl key ts n=true:=by
 have a:(VT p l 1 ts==0)=true:=by simpa using f
 have d:((UB l e vr fl ts n).outZ==0)=true:=by simpa using j
 unfold Hu;rw[a,g,h,d];rfl
end
theorem Jh(a:As):a.outB.length<=R47:=by
 unfold As.outB;split
 ·next h=>
  unfold As.right at h;rw[L5]at h;have:=P2 h.2;unfold R47;omega
 ·unfold R47;simp
theorem Fy{p:Pr}{l:List Bk}(h:aK p l=0):l≠[]:=by
 rintro rfl;unfold aK sL at h;split at h
 ·next a=>rw[show([],fO p []).2=fO p []from rfl]at h;rw[h]at a;cases a
 ·split at h
  ·next a=>rw[show([],fG p []).2=fG p []from rfl]at h;rw[h]at a;cases a
  ·next a=>unfold fG at a;revert a;simp;intro d;exact absurd d (by decide)
structure Sg where
 i:Nat
 r:Rw
 xs:List Value
 R:List (List Pa×List Value)
 T:aH
 V:View
def Lh(t:Itm.Tr):Prop:=∀(cs:List Value) (w:World) (U:View),(∀a v,U a=some v->w.cell? a=some v)->TV U t cs->CP 159 #[.agg cs.toArray] w (fV w U (mV t))
theorem TQ(t:Itm.Tr)(hI:∀x∈t.l,Lh x)(a:Option Addr)(c:Nat)(w:World){U:View}(hU:See U w)(c0:fR U a t.l)(hn:t.n<W64)(hs:t.s.length<=R47)(hl:t.l.length<=1000000):CP 159 #[.agg #[.int .i64 t.k,.int .u64 t.n,.string (B t.s),.slice a t.l.length c,.bool t.o]] w (fV w U (mV t)):=by
 refine dC 22 Tryz.func159 hU ?_;refine zs (zr (aW (λC=>(aW (λG=>(zn (zQ 1 (zn (zs (zB [0,1,0,0] [(C,1)] (zn (aB (eF (α:=Gp Itm.Tr) (λx=>[1,2,3,7,8,9].zip [(Pt C 0),(Pt G 0),(x.r.V x.i),(.slice a t.l.length c),(L6 t.l.length),(L6 x.i)]) (λx=>x.V) (λx=>([(bK C (tC t a c) 136),(G,.cells [(I6 0),(U6 0),(St []),S0,qF].toArray 136 (0,0))]++x.r.B 136 x.xs)) (λx=>x.i<=t.l.length/\View.le U x.V/\RwR TV 5 x.V x.r x.xs x.i x.L/\x.L.map Prod.fst=t.l.take x.i) (λx=>t.l.length-x.i) ⟨0,Rw.nil,[],[],U⟩ ?_ ?_ (hm:=λ_ h=>h.eqv (U3 kR (M1 ([(bK C (tC t a c) 136),(G,.cells [(I6 0),(U6 0),(St []),S0,qF].toArray 136 (0,0))]:aH)).symm)))))))))))))))
 ·exact⟨M8 _,View.le_refl _,RwR.nil,rfl⟩
 intro x hx;obtain⟨h2,J,A,a8⟩:=hx;refine zQ 1 (zn (zs (aZ ((x.i:Int)<(t.l.length:Int)) (λh0 b6=>?_) (λh0 b6=>?_))))
 ·refine zk (zs (aB (zs (zr ?_))));obtain⟨j,K⟩:∃y,(t.l)[x.i]? =some y:=⟨(t.l)[x.i]'oW,K8 _⟩;obtain⟨b2,f2,e3,rfl,b9,a6⟩:=(c0.le J).at_ x.i j K;obtain⟨a2,c2,rfl,e0,e7,e9,e5⟩:=a6.form;refine cB (Pt b2 (f2+x.i*5)) (rIx 136 rfl b2 f2 t.l.length c x.i 5) ?_;refine zU b2 (f2+x.i*5) (tC j a2 c2) b9 136 (.tmp 11) _ Tryz.underlying136 rfl ?_;refine dB 2 (λb3=>?_);refine aX 2 b3 (zn (zr (cF [0,3] [(b3,5)] (oI 159 #[(tV j a2 c2)] (mV j) (λW V=>hI j (K9 K) _ _ _ V.view a6) (λv4 V4 Y b7=>?_)))));have k8:=A.le Y;obtain⟨e4,rfl,a7⟩:=b7;obtain⟨a4,c4,rfl,e1,e8,h1,e6⟩:=a7.form;refine gR (tC j a4 c4) 136 (λr=>(Sl r 0 1 1)) kR kR kR (λg9 V9 I b8=>?_);have c1:=a7.le I;have c6:=k8.le I;have u:fR V9 (some ⟨g9,0,none⟩) [j]:=fR.lit [(j,(tC j a4 c4))] b8 ⟨c1,trivial⟩ (show 1<=R47 by decide);obtain⟨c8,c9,k,b5,D,g,O⟩:=u.open (by simp);cases b5;have E:k.length=1:=by rw[<-O1 (f:=Prod.fst),D];rfl
  refine iW 3 136 132 64 1 1 A.ok (λW V=>View.range_of O V.view) (by rw[g.flat_len,E]) g.one (by decide) (λb4 a1=>?_);refine zq 1 (zn (zr (zq 1 (dH 18 ((x.i:Int)+1) (zq 1 (zn ?_))))));refine nx ⟨x.i+1,b4,(x.xs++(k.flatMap Prod.snd)),x.L++k,V9⟩ ?_ ?_ (d:=λ_ h=>Mem.sub (N4 (M4 _ _) (N7 _)) (h.eqv (show _=((([(bK C [(I6 t.k),(N6 t.n),(St t.s),(Sl b2 f2 t.l.length c),(.bool t.o)] 136),(G,.cells [(I6 0),(U6 0),(St []),S0,qF].toArray 136 (0,0))]:aH)++([(bK b3 (tC j a2 c2) 136)]:aH))++(b4.B 136 (x.xs++(k.flatMap Prod.snd))))from by kernel_rfl)))
  ·exact⟨by show x.i+1<=_;omega,(View.le_trans (View.le_trans J Y) I),RwR.app c6 (CJ g) E a1,by rw[P6,a8,D,Q9,K];rfl⟩
  ·show t.l.length-(x.i+1)<t.l.length-x.i;omega
 ·refine aI (zs (zr ?_));refine jN x.r x.xs 5 x.i [(bK C (tC t a c) 136),(G,.cells [(I6 0),(U6 0),(St []),S0,qF].toArray 136 (0,0))] 136 kR A.ok (λL M e2 F X N=>?_);rw[N];have c7:=A.le F;have Z:x.i=t.l.length:=by omega
  have u:=(c7.done (by decide) X (View.le_refl _) (by unfold R47;omega)).ts;rw[a8,Z,ah]at u;refine zq 2 (aX 0 C (zn (zB [1] [(C,5)] (aX 1 G (zn (aA (dW [2] [(G,5)] [(.agg #[(I6 t.k),(N6 t.n),(St t.s),(.slice L x.i M),(.bool t.o)])] (λW' V=>?_))))))));exact aJ V (View.le_trans J F) ⟨[(I6 t.k),(N6 t.n),(St t.s),(.slice L x.i M),(.bool t.o)],rfl,by rw[Z];exact TV.of (t:=t) u hn hs⟩
theorem TR{t:Itm.Tr}(h:t.l=[]):Lh t:=λcs w U k r=>by
 obtain⟨a,c,rfl,d,g,j,u⟩:=r.form;exact TQ t (λx f=>by rw[h]at f;cases f) a c w k d g j (by rw[h];simp)
theorem Wo{p:Pa}(h:paB p=true):p.v.l=[]:=by
 obtain⟨f,k,n,s,l,o⟩:=p;unfold paB at h;rw[L5]at h;obtain⟨a,d⟩:=h;simp only[Itm.aU,Itm.okN,L5]at d;simp only[Itm.Tr.k,Itm.Tr.l]at *;rcases T1 _ _▸a with a|a<;>(have:=eq_of_beq a;subst this;simp at d;first|exact O7.1 oW|simp_all)
def qK(l:List Pa)(v:Value)(V:View):Prop:=∃a c,v=.slice a l.length c/\fJ PaR 6 V a l
theorem qK.mono{l:List Pa}{v:Value}{V V':View}(d:View.le V V')(h:qK l v V):qK l v V':=by
 obtain⟨a,c,e,f⟩:=h;exact⟨a,c,e,f.le d⟩
theorem KU(l:List Pa)(a:Option Addr)(c:Nat)(w:World){U:View}(hU:See U w)(hl:fJ PaR 6 U a l)(hz:∀p∈l,p.v.l=[])(j6:l.length<=1000000):CP 106 #[.slice a l.length c] w (fV w U (qK l)):=by
 refine dC 23 Tryz.func106 hU ?_;refine zQ 1 (zn (zQ 1 (zn (zs (zQ 3 (zn (aB (eF (α:=Gp Pa) (λx=>[2,3,6,7,8].zip [S0,(x.r.V x.i),(.slice a l.length c),(L6 l.length),(L6 x.i)]) (λx=>x.V) (λx=>([]++x.r.B 180 x.xs)) (λx=>x.i<=l.length/\View.le U x.V/\RwR PaR 6 x.V x.r x.xs x.i x.L/\x.L.map Prod.fst=l.take x.i) (λx=>l.length-x.i) ⟨0,Rw.nil,[],[],U⟩ ?_ ?_ (hm:=λ_ h=>h.eqv (U3 kR (M1 ([]:aH)).symm))))))))))
 ·exact⟨M8 _,View.le_refl _,RwR.nil,rfl⟩
 intro x hx;obtain⟨k7,I,B,a7⟩:=hx;refine zQ 1 (zn (zs (aZ ((x.i:Int)<(l.length:Int)) (λh0 c1=>?_) (λh0 c1=>?_))))
 ·refine zk (zs (aB (zs (zr ?_))));obtain⟨f,J⟩:∃y,(l)[x.i]? =some y:=⟨(l)[x.i]'oW,K8 _⟩;obtain⟨b0,f0,j2,rfl,c8,c4⟩:=(hl.le I).at_ x.i f J;obtain⟨j5,rfl,Y⟩:=c4;obtain⟨a0,c0,rfl,h9,k0,k3,j7⟩:=Y.form;let Y1:List Value:=[(I6 f.id),(I6 f.v.k),(N6 f.v.n),(St f.v.s),(.slice a0 f.v.l.length c0),(.bool f.v.o)];refine cB (Pt b0 (f0+x.i*6)) (rIx 180 rfl b0 f0 l.length c x.i 6) ?_;refine zU b0 (f0+x.i*6) Y1 c8 180 (.tmp 10) _ Tryz.underlying180 rfl ?_;refine dB 0 (λb1=>?_);refine aX 0 b1 (zn ?_);refine jX 3 [0,0,3,0,3,1,1,1] [(b1,1),(b1,5)] [.mem (mV f.v),.mem (λv V=>∃cs,v=.agg ((I6 f.id::cs).toArray)/\TV V f.v cs),.mem (λv V=>∃g,v=(Sl g 0 1 1)/\fJ PaR 6 V (some ⟨g,0,none⟩) [(Pa.mk f.id f.v)])] (by simp only[O4];refine⟨?_,?_,?_,λ_ h=>by cases h⟩<;>first|trivial|(intro v V V2 j C;(first|trivial|exact PhiMono.go C j|exact qK.mono j C|(obtain⟨g,e,C⟩:=C;exact⟨g,e,C.le j⟩)|(obtain⟨cs,e,C⟩:=C;exact⟨cs,e,C.le j⟩)))) ⟨?_,?_,?_,trivial⟩ ?_
  ·refine wM 159 (λu=>#[(tV f.v a0 c0)]) λu V hV A W hW=>?_
   exact TR (hz f (K9 J)) _ _ _ hW (Y.le hV)
  ·refine wP [14,17] (λu=>[(I6 f.id),u 5]) λu V hV A=>?_
   have e5:=A 5 kR rfl;obtain⟨j3,q5,Z⟩:=e5;obtain⟨a5,c5,rfl,j0,k1,k4,j8⟩:=Z.form;rw[q5];exact⟨(.agg #[(I6 f.id),(I6 f.v.k),(N6 f.v.n),(St f.v.s),(.slice a5 f.v.l.length c5),(.bool f.v.o)]),by kernel_rfl,⟨_,rfl,Z⟩⟩
  ·refine wN [18] (λu=>[u 6]) λu V hV A=>?_
   have e6:=A 6 kR rfl;obtain⟨j4,q6,a1⟩:=e6;obtain⟨a6,c6,rfl,j1,k2,k5,j9⟩:=a1.form;let Y2:List Value:=[(I6 f.id),(I6 f.v.k),(N6 f.v.n),(St f.v.s),(.slice a6 f.v.l.length c6),(.bool f.v.o)];refine⟨Y2,180,λr=>(Sl r 0 1 1),?_,λg V' e1 hR=>?_⟩
   ·rw[q6];kernel_rfl
   exact⟨g,rfl,fJ.lit [((Pa.mk f.id f.v),Y2)] hR ⟨⟨_,rfl,a1.le e1⟩,trivial⟩ (show 1<=R47 by decide)⟩
  intro u2 V2 j k;have k6:=B.le j;have K:=k 5 rfl;obtain⟨b8,a8,F⟩:=K;obtain⟨h4,h6,rfl,b5,e4,h1,e2⟩:=F.form;refine qS 17 a8 ?_;have L:=k 6 rfl;obtain⟨b9,b2,G⟩:=L;obtain⟨h5,h7,rfl,b6,e8,h2,e3⟩:=G.form;refine qS 18 b2 ?_;have M:=k 7 rfl;obtain⟨h8,b3,b4⟩:=M;refine qS 19 b3 ?_;obtain⟨b7,f7,D,e7,e0,E⟩:=b4.at_ 0 _ rfl;cases e7;refine iW 1 180 76 72 1 1 B.ok (λW hM=>View.range_of e0 hM.view) (RecOk.len E) (RecOk.one E) (by decide) (λr8 e9=>?_);refine zq 1 (zn (zr (zq 1 (dH 21 ((x.i:Int)+1) (zq 1 (zn ?_))))));refine nx ⟨x.i+1,r8,(x.xs++D),x.L++[((Pa.mk f.id f.v),D)],V2⟩ ?_ ?_ (d:=λ_ h=>Mem.sub (N4 (M4 _ _) (N7 _)) (h.eqv (show _=((([]:aH)++([(bK b1 Y1 180)]:aH))++(r8.B 180 (x.xs++D)))from by kernel_rfl)))
  ·exact⟨by show x.i+1<=_;omega,(View.le_trans I j),RwR.snoc k6 E e9,by rw[P6,a7,Q9,J];rfl⟩
  ·show l.length-(x.i+1)<l.length-x.i;omega
 ·refine aI (zs (zr ?_));refine jN x.r x.xs 6 x.i [] 180 kR B.ok (λa9 c9 V9 O c7 c2=>?_);rw[c2];have h3:=B.le O;have X:x.i=l.length:=by omega
  have N:=h3.done (by decide) c7 (View.le_refl _) (by unfold R47;omega);rw[a7,X,ah]at N;refine zq 2 (zn (aA (aO [2] [(.slice a9 x.i c9)] (λW' hM=>?_))));exact aJ hM (View.le_trans I O) ⟨_,_,by rw[X];rfl,N⟩
theorem Jb(t:Itm.Tr):IntKind.i64.wrap (if 65536<(t.n:Int)then 65536 else(t.n:Int))=nT t:=by
 unfold nT;rw[IntWalk.i64_in _ (by split<;>omega)];split<;>omega
theorem Ws{y u v:Itm.Tr}(h:y.l.length=2)(a:y.l[0]? =some u)(d:y.l[1]? =some v):SS y=some ⟨nT u,v⟩:=by
 unfold SS;rw[iR h a d]
theorem Wr{y:Itm.Tr}(h:y.l.length≠2):SS y=none:=by
 unfold SS;split
 ·next u v e=>rw[e]at h;exact absurd rfl h
 ·rfl
theorem sS(t:Itm.Tr)(Z:Option Addr)(X:Nat)(w:World){U:View}(hU:See U w)(e5:fR U Z t.l)(h6:t.l.length<=1000000):CP 73 #[.agg #[.int .i64 t.k,.int .u64 t.n,.string (B t.s),.slice Z t.l.length X,.bool t.o]] w (fV w U (qK (eB t))):=by
 refine dC 38 Tryz.func73 hU ?_;refine zs (zr (aW (λF=>(zq 1 (zn (zQ 1 (zn (zs (zQ 1 (zn (aB (eF (α:=Gp Pa) (λx=>[1,2,3,4].zip [(Pt F 0),S0,(x.r.V x.i),(L6 x.i)]) (λx=>x.V) (λx=>([(bK F (tC t Z X) 136)]++x.r.B 180 x.xs)) (λx=>x.i<=t.l.length/\View.le U x.V/\RwR PaR 6 x.V x.r x.xs x.i x.L/\EA SS (t.l.take x.i)=some (x.L.map Prod.fst)) (λx=>t.l.length-x.i) ⟨0,Rw.nil,[],[],U⟩ ?_ ?_ (hm:=λ_ h=>h.eqv (U3 kR (M1 ([(bK F (tC t Z X) 136)]:aH)).symm))))))))))))))
 ·exact⟨M8 _,View.le_refl _,RwR.nil,rfl⟩
 intro x hx;obtain⟨j8,C,L,K⟩:=hx;refine zs (zB [0,0,1,0,0] [(F,1)] (zn (aZ ((x.i:Int)<(t.l.length:Int)) (λh0 c6=>?_) (λh0 c6=>?_))))
 ·refine zk (zs (aB (zB [0,1,0] [(F,1)] ?_)));obtain⟨f,M⟩:∃y,(t.l)[x.i]? =some y:=⟨(t.l)[x.i]'oW,K8 _⟩;obtain⟨b1,f1,h2,rfl,c8,e2⟩:=(e5.le C).at_ x.i f M;obtain⟨a1,c1,rfl,E,j2,j5,h9⟩:=e2.form;refine cB (Pt b1 (f1+x.i*5)) (rIx 136 rfl b1 f1 t.l.length X x.i 5) ?_;refine zU b1 (f1+x.i*5) (tC f a1 c1) c8 136 (.tmp 16) _ Tryz.underlying136 rfl ?_;refine dB 1 (λb2=>?_);refine aX 1 b2 (zn (zs (zB [0,2,0,0] [(b2,1)] (zn (iE (f.l.length:Int) 2 (λh1 c7=>?_) (λh1 c7=>?_))))))
  ·refine zQ 1 (zn (aA (aO [2] [S0] (λW' hM=>?_))));have hz:eB t=[]:=by unfold eB;rw[pD (K9 M) (Wr oW)]
   rw[hz];exact aJ hM C ⟨none,0,rfl,fJ.nil⟩
  ·refine zk ?_;obtain⟨y3,b7⟩:∃y,(f.l)[0]? =some y:=⟨(f.l)[0]'oW,K8 _⟩;obtain⟨G,J,h3,rfl,c9,e3⟩:=E.at_ 0 y3 b7;obtain⟨a3,c3,rfl,e7,j3,j6,j0⟩:=e3.form;obtain⟨y4,b8⟩:∃y,(f.l)[1]? =some y:=⟨(f.l)[1]'oW,K8 _⟩;obtain⟨b4,f4,h4,e4,e0,b6⟩:=E.at_ 1 y4 b8;obtain⟨Y,c4,rfl,e8,j4,j7,j1⟩:=b6.form;cases e4;refine jX 8 [0,0,4,1,0,1,0,1,0,4,1,1,0,1] [(b2,1),(b2,1)] [.val (Pt G (J+0*5)),.val (N6 y3.n),.val (I6 (nT y3)),.val (Pt G (J+1*5)),.val (tV y4 Y c4),.mem (λv V=>∃g,v=(Sl g 0 1 1)/\fJ PaR 6 V (some ⟨g,0,none⟩) [(Pa.mk (nT y3) y4)])] (by simp only[O4];exact⟨trivial,trivial,trivial,trivial,trivial,by intro v V V2 A D;(first|trivial|exact PhiMono.go D A|exact qK.mono A D|(obtain⟨g,e,D⟩:=D;exact⟨g,e,D.le A⟩)|(obtain⟨cs,e,D⟩:=D;exact⟨cs,e,D.le A⟩)),λ_ h=>by cases h⟩) ⟨?_,?_,?_,?_,?_,?_,trivial⟩ ?_
   ·exact wR (λu=>jP _ 136 _ _ rfl G J f.l.length c1 0 5 .i64 kR kR (by first|assumption|omega) kR kR)
   ·exact wU1 G (J+0*5+1) (c9 1 _ rfl) 22 _ _ Tryz.underlying22 rfl
   ·exact wE (I6 (IntKind.i64.wrap (if 65536<(y3.n:Int)then 65536 else(y3.n:Int)))) (M0 (Value.int .i64) (Jb y3))
   ·exact wR (λu=>jP _ 136 _ _ rfl G J f.l.length c1 1 5 .i64 kR kR (by first|assumption|omega) kR kR)
   ·exact wU G (J+1*5) (tC y4 Y c4) e0 136 _ _ Tryz.underlying136 rfl
   ·refine wN [34] (λu=>[(.agg #[(I6 (nT y3)),(I6 y4.k),(N6 y4.n),(St y4.s),(.slice Y y4.l.length c4),(.bool y4.o)])]) λu V hV h7=>?_
    refine⟨[(I6 (nT y3)),(I6 y4.k),(N6 y4.n),(St y4.s),(.slice Y y4.l.length c4),(.bool y4.o)],180,λr=>(Sl r 0 1 1),?_,λg V' e1 hR=>?_⟩
    ·kernel_rfl
    exact⟨g,rfl,fJ.lit [((Pa.mk (nT y3) y4),[(I6 (nT y3)),(I6 y4.k),(N6 y4.n),(St y4.s),(.slice Y y4.l.length c4),(.bool y4.o)])] hR ⟨⟨_,rfl,(b6.le hV).le e1⟩,trivial⟩ (show 1<=R47 by decide)⟩
   intro u5 V5 a7 a8;have e6:=L.le a7;have I:=a8 13 rfl;obtain⟨c2,N,O⟩:=I;refine qS 35 N ?_;obtain⟨e9,h5,j,c0,a6,k⟩:=O.at_ 0 _ rfl;cases c0;refine iW 2 180 76 72 1 1 L.ok (λW hM=>View.range_of a6 hM.view) (RecOk.len k) (RecOk.one k) (by decide) (λb9 b5=>?_);refine zq 1 (zn (zr (zq 2 (dH 12 ((x.i:Int)+1) (zq 1 (zn ?_))))));refine nx ⟨x.i+1,b9,(x.xs++j),x.L++[((Pa.mk (nT y3) y4),j)],V5⟩ ?_ ?_ (d:=λ_ h=>Mem.sub (N4 (M4 _ _) (N7 _)) (h.eqv (show _=((([(bK F [(I6 t.k),(N6 t.n),(St t.s),(Sl b1 f1 t.l.length X),(.bool t.o)] 136)]:aH)++([(bK b2 [(I6 f.k),(N6 f.n),(St f.s),(Sl G J f.l.length c1),(.bool f.o)] 136)]:aH))++(b9.B 180 (x.xs++j)))from by kernel_rfl)))
   ·exact⟨by show x.i+1<=_;omega,(View.le_trans C a7),RwR.snoc e6 k b5,by rw[P6];exact rJ K M (Ws oW b7 b8)⟩
   ·show t.l.length-(x.i+1)<t.l.length-x.i;omega
 ·refine aI (zQ 2 (zn (aA (aO [2] [(x.r.V x.i)] (λW' hM=>?_)))));refine DV (by decide) (hM.eqv (show _=([(bK F (tC t Z X) 136)]:aH)++x.r.B 180 x.xs from by kernel_rfl)) L C (λv=>v) (by unfold R47;omega) λa c V' h8 hA hc hm=>?_
  rw[O2 oW]at K;have hz:eB t=x.L.map Prod.fst:=by unfold eB;rw[K]
  rw[hz];exact⟨a,c,by rw[<-hm],hA⟩
theorem EL:∀(l pre:List Int),oH pre l=true↔∀(i:Nat) (n:Int),l[i]? =some n->eX n=true/\n∉pre/\∀k,k<i->l[k]? ≠some n
 | [],pre=>⟨λ_ i n h=>by simp at h,λ_=>rfl⟩
 |m::r,pre=>by
  rw[oH];by_cases a:(!eX m||pre.contains m)=true
  ·rw[N1 a];constructor
   ·intro h;cases h
   ·intro h;obtain⟨g,d,_⟩:=h 0 m rfl;rw[g]at a;simp at a;exact absurd a d
  ·rw[M5 a,EL r (pre++[m])];have A:eX m=true:=by
    cases h:eX m with
    |true=>rfl
    |false=>rw[h]at a;simp at a
   have B:m∉pre:=λh=>a (by simp[h])
   constructor
   ·intro h i n f;cases i with
    |zero=>
     simp only[P5,L0]at f;subst f;exact⟨A,B,λk C=>absurd C oW⟩
    |succ i=>
     simp only[Q7]at f;obtain⟨g,d,j⟩:=h i n f;rw[S3,R7]at d;refine⟨g,λh=>d (.inl h),λk C=>?_⟩;cases k with
     |zero=>
      intro e;simp only[P5,L0]at e;exact d (.inr e.symm)
     |succ k=>
      rw[Q7];exact j k oW
   ·intro h i n f;obtain⟨g,d,j⟩:=h (i+1) n (by rw[Q7];exact f);refine⟨g,?_,λk C=>by have:=j (k+1) oW;rwa[Q7]at this⟩;rw[S3,R7];rintro(u|u)
    ·exact d u
    ·exact j 0 oW (by rw[u];rfl)
def Hp(l:List Int)(i:Nat)(n:Int):Prop:=eX n=true/\∀k,k<i->∀m,l[k]? =some m->m≠n
theorem pS{l:List Int}:iU l=true↔∀i n,l[i]? =some n->Hp l i n:=by
 unfold iU Hp;rw[EL];constructor
 ·intro h i n d;obtain⟨a,_,b⟩:=h i n d;exact⟨a,λk f m g e=>b k f (by rw[g,e])⟩
 ·intro h i n d;obtain⟨a,b⟩:=h i n d;exact⟨a,List.not_mem_nil,λk f e=>b k f n e rfl⟩
def PaP(l:List Pa)(i:Nat)(p:Pa):Prop:=eX p.id=true/\paB p=true/\∀k,k<i->∀q,l[k]? =some q->q.id≠p.id
theorem JQ{l:List Pa}:fZ l=true↔∀i p,l[i]? =some p->PaP l i p:=by
 unfold fZ PaP;rw[L5,M7,pS];constructor
 ·rintro⟨u,A⟩ i p d;obtain⟨a,b⟩:=A i p.id (by rw[T5,d];rfl);exact⟨a,u p (K9 d),λk f q g=>b k f q.id (by rw[T5,g];rfl)⟩
 ·intro h;refine⟨λp d=>?_,λi n r=>?_⟩
  ·obtain⟨i,B⟩:=R8.1 d;exact(h i p B).2.1
  ·rw[T5]at r;obtain⟨p,d,rfl⟩:=U5.1 r;obtain⟨a,_,b⟩:=h i p d;refine⟨a,λk f m j=>?_⟩;rw[T5]at j;obtain⟨q,g,rfl⟩:=U5.1 j;exact b k f q g
theorem JP{l:List Pa}{i:Nat}{p:Pa}(a:l[i]? =some p)(h:¬PaP l i p):fZ l=false:=by
 rw[Bool.eq_false_iff];exact λe=>h (JQ.1 e i p a)
theorem mL{α:Type}{P:Nat->α->Prop}{l:List α}{x:Nat}{y:α}(g:l[x]? =some y)(h:∀i,i<x->∀p,l[i]? =some p->P i p)(d:P x y):∀i,i<x+1->∀p,l[i]? =some p->P i p:=λi j p a=>by
 by_cases f:i=x
 ·subst f;rw[g]at a;obtain rfl:=N5 a;exact d
 ·exact h i oW p a
theorem BS{α:Type}{P:Nat->α->Prop}{l:List α}{x:Nat}(d:l.length<=x)(h:∀i,i<x->∀p,l[i]? =some p->P i p):∀i p,l[i]? =some p->P i p:=λi p a=>h i (X5 (L8.1 a).1 d) p a
theorem KA{l:List Int}{v:Int}{i:Nat}{y:Int}(h:l[i]? =some y):lX v i (l.drop i)=if y==v then(i:Int)else lX v (i+1) (l.drop (i+1)):=by
 rw[GI h];by_cases e:y=v
 ·subst e;rfl
 ·rw[show(v==y)=false from M2.2 (Ne.symm e),show(y==v)=false from M2.2 e]
theorem FE(a:As)(A r u:Option Addr)(C K L:Nat)(d:Int)(w:World){U:View}(Z:See U w)(G:DR U A r u a):CP 31 #[asV a A r u C K L,.int .i64 d] w (Ret (.int .i64 (lX d 0 a.t)) w):=by
 have h:=G.t;have O:=G.p;have V:=G.r;have j:=h.len;unfold R47 at j;refine dC 21 Tryz.func31 Z ?_;refine zs (zr (aW (λk=>(zq 1 (zn (zs (zQ 1 (zn (aB (eF (α:=Nat) (λx=>[1,2,4,5].zip [(I6 d),(Pt k 0),(I6 0),(L6 x)]) (λx=>U) (λx=>[(bK k (mD a A r u C K L) 79)]) (λx=>x<=a.t.length/\lX d x (a.t.drop x)=lX d 0 a.t) (λx=>a.t.length-x) 0 ?_ ?_))))))))))
 ·exact⟨M8 _,rfl⟩
 intro x hx;obtain⟨a1,f⟩:=hx;refine zs (zB [0,0,1,0,0] [(k,1)] (zn (aZ ((x:Int)<(a.t.length:Int)) (λX E=>?_) (λX E=>?_))))
 ·refine zk (zs (aB (zB [0,1,0] [(k,1)] ?_)));obtain⟨M,g⟩:∃y,(a.t)[x]? =some y:=⟨(a.t)[x]'oW,K8 _⟩;obtain⟨B,D,rfl,J⟩:=h.one g;refine cB (Pt B (D+x)) (eJ _ 3 _ _ rfl B D a.t.length C x .i64 kR kR (by first|assumption|omega) kR kR) ?_;refine zV B (D+x) (I6 M) J 3 (.tmp 16) _ Tryz.underlying3 rfl ?_;refine zq 2 (zn (fC M d (λF _=>?_) (λF Y=>?_)))
  ·refine zQ 2 (zn (aA (aO [4] [(L6 x)] (λN I=>?_))));refine⟨?_,I.below⟩;rw[<-f,KA g,N1 F];rfl
  ·refine zk (zr (zq 2 (dH 12 ((x:Int)+1) (zq 1 (zn ?_)))));refine nx (x+1) ?_ ?_
   ·exact⟨by omega,by rw[<-f,KA g,F];rfl⟩
   ·show a.t.length-(x+1)<a.t.length-x;omega
 ·refine aI (zQ 1 (zn (aA (aO [4] [(I6 (-1))] (λN I=>?_)))));refine⟨?_,I.below⟩;rw[<-f,cZ oW];rfl
def IA(lo hi:Int)(l:List Pa):Bool:=if decide ((l.length:Int)<lo)||decide ((l.length:Int)>hi)then false else fZ l
theorem EG{n:Int}(a:¬n<0)(d:¬n>65535):eX n=true:=by
 unfold eX;simp only[L5,N0];omega
theorem JD(lo hi:Int)(l:List Pa)(a:Option Addr)(c:Nat)(w:World){U:View}(hU:See U w)(hl:fJ PaR 6 U a l)(e4:l.length<=1000000):CP 168 #[.slice a l.length c,.int .i64 lo,.int .i64 hi] w (Ret (.bool (IA lo hi l)) w):=by
 refine dC 76 Tryz.func168 hU ?_;refine zQ 1 (zn (zs (zQ 5 (jM 14 ((l.length:Int)<lo) (λN _=>?_) (λN e1=>?_)))))
 ·refine zq 5 (zn (dM (zQ 1 (zn (aA (aO [6] [qF] (λY u=>?_)))))));refine⟨?_,u.below⟩;unfold IA;simp only[N,bs,bQ,reduceIte]
  try rfl
 ·refine zq 5 (zn (aZ ((l.length:Int)>hi) (λO _=>?_) (λO e3=>?_)))
  ·refine zQ 1 (zn (aA (aO [6] [qF] (λY u=>?_))));refine⟨?_,u.below⟩;unfold IA;simp only[N,O,bs,bQ,reduceIte]
   try rfl
  ·refine zk (zs (zQ 1 (zn (aB (eF (α:=Nat) (λx=>[0,6,7].zip [(.slice a l.length c),qF,(L6 x)]) (λx=>U) (λx=>[]) (λx=>x<=l.length/\∀i,i<x->∀p,l[i]? =some p->PaP l i p) (λx=>l.length-x) 0 ?_ ?_)))))
   ·exact⟨M8 _,λi h=>absurd h oW⟩
   intro x hx;obtain⟨j3,X⟩:=hx;refine zs (zQ 4 (zn (aZ ((x:Int)<(l.length:Int)) (λh2 a1=>?_) (λh2 a1=>?_))))
   ·refine zk (zs (aB (zQ 2 ?_)));obtain⟨f,F⟩:∃y,(l)[x]? =some y:=⟨(l)[x]'oW,K8 _⟩;obtain⟨g,r,c7,rfl,E,b6⟩:=hl.at_ x f F;obtain⟨c9,rfl,L⟩:=b6;obtain⟨G,I,rfl,c4,e9,j1,e7⟩:=L.form;refine cB (Pt g (r+x*6)) (rIx 180 rfl g r l.length c x 6) ?_;refine zq 1 (zU g (r+x*6+1) (tC f.v G I) (View.sub E 1 5 kR) 136 (.tmp 29) _ Tryz.underlying136 rfl ?_);refine aW (λA=>(aX 0 A (zn (zs ?_))));refine dG (α:=Bool) (λC=>[0,6,7,8,20,21,22,23,26,27,28,29,30,31,32,33,34,35,36,59].zip [(Sl g r l.length c),qF,(L6 x),(Pt A 0),(L6 x),(Sl g r l.length c),(L6 l.length),(.bool (decide ((x:Int)<(l.length:Int)))),(Sl g r l.length c),(L6 x),(Pt g (r+x*6)),(Pt g (r+x*6+1)),(tV f.v G I),(Sl g r l.length c),(L6 x),(Pt g (r+x*6)),(Pt g (r+x*6)),(I6 f.id),(.bool (decide (f.id<0))),(.bool C)]) (λC=>U) (λC=>[(bK A (tC f.v G I) 136)]) (λC=>(C=false->eX f.id=true/\paB f=true)/\(C=true->¬(eX f.id=true/\paB f=true))) ?_ ?_
    ·refine zr (zq 2 (cB (Pt g (r+x*6)) (rIx 180 rfl g r l.length c x 6) ?_));refine zq 1 (zV g (r+x*6+0) (I6 f.id) (E 0 _ rfl) 3 (.tmp 34) _ Tryz.underlying3 rfl ?_);refine zq 2 (jM 37 (f.id<0) (λZ a6=>?_) (λZ a6=>?_))
     ·refine zq 22 (zn ?_);refine jn true ?_;exact⟨(λh=>by cases h),(λ_ ⟨D,B⟩=>by have:=eI D;have:=P2 Z;omega)⟩
     ·refine zq 2 (cB (Pt g (r+x*6)) (rIx 180 rfl g r l.length c x 6) ?_);refine zq 1 (zV g (r+x*6+0) (I6 f.id) (E 0 _ rfl) 3 (.tmp 41) _ Tryz.underlying3 rfl ?_);refine zq 3 (jM 45 (f.id>65535) (λh4 a7=>?_) (λh4 a7=>?_))
      ·refine zq 14 (zn ?_);refine jn true ?_;exact⟨(λh=>by cases h),(λ_ ⟨D,B⟩=>by have:=eI D;have:=P2 h4;omega)⟩
      ·refine cF [0,1,0,0] [(A,1)] (jB 49 f.v.k 0 (λh5 a8=>?_) (λh5 a8=>?_))
       ·refine cF [0,1,0,0,0,0] [(A,1)] (jB 55 f.v.k 2 (λh6 b3=>?_) (λh6 b3=>?_))
        ·refine zq 4 (zn ?_);refine jn true ?_;exact⟨(λh=>by cases h),(λ_ ⟨D,B⟩=>by unfold paB at B;simp_all)⟩
        ·refine cF [1] [(A,5)] (cY 111 #[(tV f.v G I)] (.bool (Itm.aU 8 f.v)) (λW u=>Itm.sZ f.v _ W ((L).toTAt u.view)) ?_);refine zq 2 (zn ?_);refine jn (!(Itm.aU 8 f.v)) ?_;exact⟨(λh=>⟨EG (O5 Z) (O5 h4),by unfold paB;simp only[P7]at h;simp_all⟩),(λh ⟨D,B⟩=>by unfold paB at B;simp only[P1]at h;simp_all)⟩
       ·refine cF [0,0,0,0,0,0,1] [(A,5)] (cY 111 #[(tV f.v G I)] (.bool (Itm.aU 8 f.v)) (λW u=>Itm.sZ f.v _ W ((L).toTAt u.view)) ?_);refine zq 2 (zn ?_);refine jn (!(Itm.aU 8 f.v)) ?_;exact⟨(λh=>⟨EG (O5 Z) (O5 h4),by unfold paB;simp only[P7]at h;simp_all⟩),(λh ⟨D,B⟩=>by unfold paB at B;simp only[P1]at h;simp_all)⟩
    intro C J;refine gK C (λh7=>?_) (λh7=>?_)
    ·refine zQ 1 (zn (aA (aO [6] [qF] (λY u=>?_))));refine⟨?_,u.below⟩;unfold IA;simp only[N,O,bs,bQ,reduceIte];rw[JP F (λ⟨D,B,g3⟩=>J.2 h7 ⟨D,B⟩)]
     try rfl
    ·refine zk (zQ 1 (zn (aB (eF (α:=Nat) (λj=>[0,6,7,8,9,20,21,22,23,26,27,28,29,30,31,32,33,34,35,36,59].zip [(Sl g r l.length c),qF,(L6 x),(Pt A 0),(L6 j),(L6 x),(Sl g r l.length c),(L6 l.length),(.bool (decide ((x:Int)<(l.length:Int)))),(Sl g r l.length c),(L6 x),(Pt g (r+x*6)),(Pt g (r+x*6+1)),(tV f.v G I),(Sl g r l.length c),(L6 x),(Pt g (r+x*6)),(Pt g (r+x*6)),(I6 f.id),(.bool (decide (f.id<0))),(.bool C)]) (λj=>U) (λj=>[(bK A (tC f.v G I) 136)]) (λj=>j<=x/\∀k,k<j->∀q,l[k]? =some q->q.id≠f.id) (λj=>x-j) 0 ?_ ?_))))
     ·exact⟨M8 _,λi h=>absurd h oW⟩
     intro j hj;obtain⟨e5,V⟩:=hj;refine zs (zQ 3 (zn (aZ ((j:Int)<(x:Int)) (λh8 b4=>?_) (λh8 b4=>?_))))
     ·refine zk (zs (aB (zs ?_)));obtain⟨y2,M⟩:∃y,(l)[j]? =some y:=⟨(l)[j]'oW,K8 _⟩;obtain⟨b2,f2,c8,e2,b8,b7⟩:=hl.at_ j y2 M;obtain⟨e0,rfl,c1⟩:=b7;obtain⟨a2,c2,rfl,c6,j0,j2,e8⟩:=c1.form;cases e2;refine gI 3 [0,0,1,0,1,0,0,1,0,1] [] [.val (Pt g (r+x*6)),.val (I6 f.id),.val (Pt g (r+j*6)),.val (I6 y2.id)] ⟨?_,?_,?_,?_,trivial⟩ ?_
      ·exact vR (rIx 180 rfl g r l.length c x 6)
      ·exact vU1 g (r+x*6+0) (E 0 _ rfl) 3 _ _ Tryz.underlying3 rfl
      ·exact vR (rIx 180 rfl g r l.length c j 6)
      ·exact vU1 g (r+j*6+0) (b8 0 _ rfl) 3 _ _ Tryz.underlying3 rfl
      refine zq 1 (zn (fC f.id y2.id (λh9 b5=>?_) (λh9 b5=>?_)))
      ·refine zQ 1 (zn (aA (aO [6] [qF] (λY u=>?_))));refine⟨?_,u.below⟩;unfold IA;simp only[N,O,bs,bQ,reduceIte];rw[JP F (λ⟨D,B,g3⟩=>g3 j oW y2 M (eq_of_beq h9).symm)]
       try rfl
      ·refine zk (zr (zq 2 (dH 64 ((j:Int)+1) (zq 1 (zn ?_)))));refine nx (j+1) ?_ ?_
       ·exact⟨by omega,mL (P:=λ_ q=>q.id≠f.id) M V (λK=>by rw[K]at h9;simp at h9)⟩
       ·show x-(j+1)<x-j;omega
     ·refine aI (zr (zq 2 (dH 25 ((x:Int)+1) (zq 1 (zn ?_)))));refine nx (x+1) ?_ ?_ (d:=λ_ h=>Mem.sub (M4 _ _) (h.eqv (show _=([]:aH)++([(bK A (tC f.v G I) 136)]:aH)from by kernel_rfl)))
      ·exact⟨by omega,mL (P:=PaP l) F X ⟨(J.1 h7).1,(J.1 h7).2,λk9 e6 q9 K=>V k9 oW q9 K⟩⟩
      ·show l.length-(x+1)<l.length-x;omega
   ·refine aI (zQ 1 (zn (aA (aO [6] [qT] (λY u=>?_)))));refine⟨?_,u.below⟩;unfold IA;simp only[N,O,bs,bQ,reduceIte];rw[JQ.2 (BS oW X)];rfl
theorem rZ(e:Ei)(w:World)(_:e.l.length<=R47):CP 107 #[e.V] w (Ret (.bool (aN e)) w):=Eid.YB _ _ _ _ w
def hasB(f k:Nat):Bool:=decide (f/k%2=1)
theorem AV(f k:Nat)(K:Int)(h:K=(k:Int))(j:f<W64):(((IntKind.u64.wrap ((f:Int).tdiv K)).tmod 2)==1)=hasB f k:=by
 subst h;have d:((f:Int).tdiv (k:Int))=((f/k:Nat):Int):=by
  rw[Int.tdiv_eq_ediv_of_nonneg oW];simp
 have g:f/k<=f:=Nat.div_le_self _ _;unfold W64 at j;rw[d,hasB];generalize f/k=q at g ⊢;rw[u64_in oW oW,X3 oW];by_cases a:q%2=1
 ·rw[R4 a,S5];omega
 ·rw[P0 a,M2];omega
theorem BE(f k:Nat)(d:f<W64)(g:k<W64):jE .u64 (f:Int) (k:Int)=((f &&& k:Nat):Int):=by
 unfold W64 at d g;have a:(BitVec.ofInt 64 (f:Int) &&& BitVec.ofInt 64 (k:Int)).toNat=f &&& k:=by
  rw[BitVec.toNat_and,BitVec.ofInt_natCast,BitVec.ofInt_natCast,BitVec.toNat_ofNat,BitVec.toNat_ofNat,aw oW,aw oW]
 have h:f &&& k<=f:=Nat.and_le_left;show IntKind.u64.wrap ((BitVec.ofInt 64 (f:Int) &&& BitVec.ofInt 64 (k:Int)).toNat:Int)=_;rw[a,u64_in oW oW]
theorem BF(f i:Nat)(K:Int)(u:f<W64)(A:i<64)(r:K=((2^i:Nat):Int)):(jE .u64 (f:Int) K !=0)=hasB f (2^i):=by
 subst r;have k:2^i<W64:=by unfold W64;exact Nat.pow_lt_pow_right (by decide) A
 rw[BE f _ u k,hasB,<-Nat.testBit_eq_decide_div_mod_eq];cases g:f.testBit i with
 |true=>
  have a:(f &&& 2^i).testBit i=true:=by rw[Nat.testBit_and,g,Nat.testBit_two_pow_self];rfl
  have d:f &&& 2^i≠0:=λe=>by rw[e,Nat.zero_testBit]at a;cases a
  simp only[Q0,ne_eq];omega
 |false=>
  have d:f &&& 2^i=0:=by
   apply Nat.eq_of_testBit_eq;intro j;rw[Nat.testBit_and,Nat.zero_testBit,Nat.testBit_two_pow];by_cases h:i=j
   ·subst h;rw[g];rfl
   ·rw[P0 h,U7]
  rw[d];rfl
theorem Ej(f:Nat)(a:f<W64):(jE .u64 (f:Int) 1 !=0)=hasB f 1:=BF f 0 1 a (by decide) rfl
theorem Ar(f:Nat)(a:f<W64):(jE .u64 (f:Int) 2 !=0)=hasB f 2:=BF f 1 2 a (by decide) rfl
theorem Br(f:Nat)(a:f<W64):(jE .u64 (f:Int) 4 !=0)=hasB f 4:=BF f 2 4 a (by decide) rfl
theorem Cq(f:Nat)(d:f<W64):(jE .u64 (f:Int) 278528 !=0)=(hasB f 16384||hasB f 262144):=by
 rw[show hasB f 16384=(jE .u64 (f:Int) 16384 !=0)from(BF f 14 16384 d (by decide) rfl).symm,show hasB f 262144=(jE .u64 (f:Int) 262144 !=0)from(BF f 18 262144 d (by decide) rfl).symm,
  show jE .u64 (f:Int) 278528=((f &&& 278528:Nat):Int)from BE f 278528 d (by decide),show jE .u64 (f:Int) 16384=((f &&& 16384:Nat):Int)from BE f 16384 d (by decide),show jE .u64 (f:Int) 262144=((f &&& 262144:Nat):Int)from BE f 262144 d (by decide),
  show(278528:Nat)=16384 ||| 262144 by decide,Nat.and_or_distrib_left]
 generalize f &&& 16384=a;generalize f &&& 262144=b;rw[T7];simp only[Q0,ne_eq,T1];have h:a ||| b=0↔a=0/\b=0:=Nat.or_eq_zero_iff
 omega
theorem VJ(f:Nat)(d:f<W64)(w:World):CP 66 #[.int .u64 (f:Int),.int .i64 1] w (Ret (.bool (hasB f 1)) w):=by
 refine dF 11 Tryz.func66 ?_;refine zQ 1 (zn (zQ 4 (dZ 8 (U6 (IntKind.u64.wrap (((f:Int)).tdiv 1))) (U6 (IntKind.u64.wrap ((f:Int).tdiv 1))) (M0 (Value.int .u64) rfl) ?_)));refine zq 3 (zn (aA (aO [4] [(.bool ((((IntKind.u64.wrap ((f:Int).tdiv 1))).tmod 2)==1))] (λg a=>?_))));refine⟨M0 (λz=>Ending.returned (Value.bool z)) (AV f 1 1 rfl d),a.below⟩
theorem Fg(f:Nat)(d:f<W64)(w:World):CP 66 #[.int .u64 (f:Int),.int .i64 2] w (Ret (.bool (hasB f 2)) w):=by
 refine dF 11 Tryz.func66 ?_;refine zQ 1 (zn (zQ 4 (dZ 8 (U6 (IntKind.u64.wrap (((f:Int)).tdiv 2))) (U6 (IntKind.u64.wrap ((f:Int).tdiv 2))) (M0 (Value.int .u64) rfl) ?_)));refine zq 3 (zn (aA (aO [4] [(.bool ((((IntKind.u64.wrap ((f:Int).tdiv 2))).tmod 2)==1))] (λg a=>?_))));refine⟨M0 (λz=>Ending.returned (Value.bool z)) (AV f 2 2 rfl d),a.below⟩
theorem Md(f:Nat)(d:f<W64)(w:World):CP 66 #[.int .u64 (f:Int),.int .i64 4] w (Ret (.bool (hasB f 4)) w):=by
 refine dF 11 Tryz.func66 ?_;refine zQ 1 (zn (zQ 4 (dZ 8 (U6 (IntKind.u64.wrap (((f:Int)).tdiv 4))) (U6 (IntKind.u64.wrap ((f:Int).tdiv 4))) (M0 (Value.int .u64) rfl) ?_)));refine zq 3 (zn (aA (aO [4] [(.bool ((((IntKind.u64.wrap ((f:Int).tdiv 4))).tmod 2)==1))] (λg a=>?_))));refine⟨M0 (λz=>Ending.returned (Value.bool z)) (AV f 4 4 rfl d),a.below⟩
theorem YD(f:Nat)(d:f<W64)(w:World):CP 66 #[.int .u64 (f:Int),.int .i64 16384] w (Ret (.bool (hasB f 16384)) w):=by
 refine dF 11 Tryz.func66 ?_;refine zQ 1 (zn (zQ 4 (dZ 8 (U6 (IntKind.u64.wrap (((f:Int)).tdiv 16384))) (U6 (IntKind.u64.wrap ((f:Int).tdiv 16384))) (M0 (Value.int .u64) rfl) ?_)));refine zq 3 (zn (aA (aO [4] [(.bool ((((IntKind.u64.wrap ((f:Int).tdiv 16384))).tmod 2)==1))] (λg a=>?_))));refine⟨M0 (λz=>Ending.returned (Value.bool z)) (AV f 16384 16384 rfl d),a.below⟩
theorem SK(f:Nat)(d:f<W64)(w:World):CP 66 #[.int .u64 (f:Int),.int .i64 262144] w (Ret (.bool (hasB f 262144)) w):=by
 refine dF 11 Tryz.func66 ?_;refine zQ 1 (zn (zQ 4 (dZ 8 (U6 (IntKind.u64.wrap (((f:Int)).tdiv 262144))) (U6 (IntKind.u64.wrap ((f:Int).tdiv 262144))) (M0 (Value.int .u64) rfl) ?_)));refine zq 3 (zn (aA (aO [4] [(.bool ((((IntKind.u64.wrap ((f:Int).tdiv 262144))).tmod 2)==1))] (λg a=>?_))));refine⟨M0 (λz=>Ending.returned (Value.bool z)) (AV f 262144 262144 rfl d),a.below⟩
def lK(p:Pr):Int:=
 if !aN p.dst|| !aN p.src|| !aN p.rpt||decide (p.c<0)||decide (p.c>2)||decide ((p.f:Int)≥2097152)then 1
 else if big p.time||big p.seq||big p.life||big p.off||big p.tot then 1
 else if(hasB p.f 1&&(hasB p.f 4||decide ((p.off:Int)≥(p.tot:Int))))||(!hasB p.f 1&&(decide ((p.off:Int)>0)||decide ((p.tot:Int)>0)))then 8
 else if((hasB p.f 16384||hasB p.f 262144)&&(((p.src.s==1)&&(p.src.l==[110,111,110,101]))||hasB p.f 2))||(((p.src.s==1)&&(p.src.l==[110,111,110,101]))&& !hasB p.f 4)then 8 else 0
theorem EV(p:Pr)(w:World)(h:p.ok):CP 62 #[p.V] w (Ret (.int .i64 (lK p)) w):=by
 refine dF 124 Tryz.func62 ?_;refine zs (zr (aW (λf=>(zq 1 (zn (zs ?_))))));refine dG (α:=Bool) (λj=>[1,2,38].zip [(Pt f 0),(I6 0),(.bool j)]) (λj=>View.no) (λj=>[(bK f p.cs 26)]) (λj=>j=(!aN p.dst|| !aN p.src|| !aN p.rpt||decide (p.c<0)||decide (p.c>2)||decide ((p.f:Int)≥2097152))) ?_ ?_
 ·refine zr (cF [0,1] [(f,4)] (dN (λW r=>rZ p.dst W h.dst.l) (zq 2 (cN 12 (!(aN p.dst)) (λZ=>?_) (λZ=>?_)))))
  ·refine zq 26 (zn ?_);refine jn true ?_;simp only[Z,bs,bQ,reduceIte]
  ·refine cF [0,1] [(f,4)] (dN (λW r=>rZ p.src W h.src.l) (zq 3 (cN 18 (!(aN p.src)) (λh1=>?_) (λh1=>?_))))
   ·refine zq 20 (zn ?_);refine jn true ?_;simp only[Z,h1,bs,bQ,reduceIte]
   ·refine cF [0,1] [(f,4)] (dN (λW r=>rZ p.rpt W h.rpt.l) (zq 3 (cN 24 (!(aN p.rpt)) (λh2=>?_) (λh2=>?_))))
    ·refine zq 14 (zn ?_);refine jn true ?_;simp only[Z,h1,h2,bs,bQ,reduceIte]
    ·refine cF [0,1,0,0,0] [(f,1)] (cN 29 (decide (p.c<0)) (λh3=>?_) (λh3=>?_))
     ·refine zq 9 (zn ?_);refine jn true ?_;simp only[Z,h1,h2,h3,bs,bQ,reduceIte]
     ·refine cF [0,1,0,0,0] [(f,1)] (cN 34 (decide (p.c>2)) (λh4=>?_) (λh4=>?_))
      ·refine zq 4 (zn ?_);refine jn true ?_;simp only[Z,h1,h2,h3,h4,bs,bQ,reduceIte]
      ·refine cF [0,1,0,0] [(f,1)] (zn ?_);refine jn (decide ((p.f:Int)≥2097152)) ?_;simp only[Z,h1,h2,h3,h4,bs,bQ,reduceIte]
 let Y2:List Value:=[(N6 p.time),(N6 p.seq),(N6 p.life),(N6 p.off),(N6 p.tot)];intro j D;refine gK j (λu=>?_) (λu=>?_)
 ·refine zQ 1 (zn (aA (aO [2] [(I6 1)] (λY r=>?_))));have g:=D.symm.trans u;exact⟨by simp only[dD,lK,big,g,bs,bQ,reduceIte],r.below⟩
 ·refine zk (zB [0,1,0,1,0,1,0,1,0,1,0] [(f,1),(f,1),(f,1),(f,1),(f,1)] (aW (λj=>(aX 1 j (zn (zs (zQ 1 (zn (aB (eF (α:=Nat) (λx=>match x with|0=>[1,2,3,4].zip [(Pt f 0),(I6 0),(Pt j 0),(I6 0)]|1=>[1,2,3,4].zip [(Pt f 0),(I6 0),(Pt j 0),(I6 1)]|2=>[1,2,3,4].zip [(Pt f 0),(I6 0),(Pt j 0),(I6 2)]|3=>[1,2,3,4].zip [(Pt f 0),(I6 0),(Pt j 0),(I6 3)]|4=>[1,2,3,4].zip [(Pt f 0),(I6 0),(Pt j 0),(I6 4)]|_=>[1,2,3,4].zip [(Pt f 0),(I6 0),(Pt j 0),(I6 5)]) (λ_=>View.no) (λx=>[(bK f p.cs 26),(bK j Y2 171)]) (λx=>x<=5/\(0<x->(decide ((p.time:Int)>1099511627776))=false)/\(1<x->(decide ((p.seq:Int)>1099511627776))=false)/\(2<x->(decide ((p.life:Int)>1099511627776))=false)/\(3<x->(decide ((p.off:Int)>1099511627776))=false)/\(4<x->(decide ((p.tot:Int)>1099511627776))=false)) (λx=>5-x) 0 ⟨by omega,λh=>absurd h oW,λh=>absurd h oW,λh=>absurd h oW,λh=>absurd h oW,λh=>absurd h oW⟩ ?_))))))))));let Y1:aH:=[(bK f p.cs 26),(bK j Y2 171)];rintro x ⟨hx,a,d,k,C,K⟩;rcases(by omega:x=0\/x=1\/x=2\/x=3\/x=4\/x=5)with rfl|rfl|rfl|rfl|rfl|rfl
  ·refine zs (zQ 2 (zn (dM (zk (zs (aB (zQ 1 (cB (Pt j 0) (lJ _ 22 _ _ rfl j 0 5 0 1 .i64 kR kR (by first|assumption|omega) kR kR) ?_))))))));refine cF [2,0] [(j,1)] (zn (aZ ((p.time:Int)>1099511627776) (λh6 _=>?_) (λh6 c6=>?_)))
   ·refine zQ 1 (zn (aA (aO [2] [(I6 1)] (λY r=>?_))));have g:=D.symm.trans u;exact⟨by simp only[dD,lK,big,g,h6,bs,bQ,reduceIte],r.below⟩
   ·refine zk (zr (zq 3 (zn ?_)));refine nx 1 ⟨by omega,λ_=>h6,λh=>absurd h oW,λh=>absurd h oW,λh=>absurd h oW,λh=>absurd h oW⟩ (by show 5-1<5-0;omega)
  ·refine zs (zQ 2 (zn (dM (zk (zs (aB (zQ 1 (cB (Pt j 1) (lJ _ 22 _ _ rfl j 0 5 1 1 .i64 kR kR (by first|assumption|omega) kR kR) ?_))))))));refine cF [2,0] [(j,1)] (zn (aZ ((p.seq:Int)>1099511627776) (λh7 c1=>?_) (λh7 c1=>?_)))
   ·refine zQ 1 (zn (aA (aO [2] [(I6 1)] (λY r=>?_))));have g:=D.symm.trans u;exact⟨by simp only[dD,lK,big,g,(a oW),h7,bs,bQ,reduceIte],r.below⟩
   ·refine zk (zr (zq 3 (zn ?_)));refine nx 2 ⟨by omega,λ_=>a oW,λ_=>h7,λh=>absurd h oW,λh=>absurd h oW,λh=>absurd h oW⟩ (by show 5-2<5-1;omega)
  ·refine zs (zQ 2 (zn (dM (zk (zs (aB (zQ 1 (cB (Pt j 2) (lJ _ 22 _ _ rfl j 0 5 2 1 .i64 kR kR (by first|assumption|omega) kR kR) ?_))))))));refine cF [2,0] [(j,1)] (zn (aZ ((p.life:Int)>1099511627776) (λh8 c2=>?_) (λh8 c2=>?_)))
   ·refine zQ 1 (zn (aA (aO [2] [(I6 1)] (λY r=>?_))));have g:=D.symm.trans u;exact⟨by simp only[dD,lK,big,g,(a oW),(d oW),h8,bs,bQ,reduceIte],r.below⟩
   ·refine zk (zr (zq 3 (zn ?_)));refine nx 3 ⟨by omega,λ_=>a oW,λ_=>d oW,λ_=>h8,λh=>absurd h oW,λh=>absurd h oW⟩ (by show 5-3<5-2;omega)
  ·refine zs (zQ 2 (zn (dM (zk (zs (aB (zQ 1 (cB (Pt j 3) (lJ _ 22 _ _ rfl j 0 5 3 1 .i64 kR kR (by first|assumption|omega) kR kR) ?_))))))));refine cF [2,0] [(j,1)] (zn (aZ ((p.off:Int)>1099511627776) (λh9 c4=>?_) (λh9 c4=>?_)))
   ·refine zQ 1 (zn (aA (aO [2] [(I6 1)] (λY r=>?_))));have g:=D.symm.trans u;exact⟨by simp only[dD,lK,big,g,(a oW),(d oW),(k oW),h9,bs,bQ,reduceIte],r.below⟩
   ·refine zk (zr (zq 3 (zn ?_)));refine nx 4 ⟨by omega,λ_=>a oW,λ_=>d oW,λ_=>k oW,λ_=>h9,λh=>absurd h oW⟩ (by show 5-4<5-3;omega)
  ·refine zs (zQ 2 (zn (dM (zk (zs (aB (zQ 1 (cB (Pt j 4) (lJ _ 22 _ _ rfl j 0 5 4 1 .i64 kR kR (by first|assumption|omega) kR kR) ?_))))))));refine cF [2,0] [(j,1)] (zn (aZ ((p.tot:Int)>1099511627776) (λa1 b8=>?_) (λa1 b8=>?_)))
   ·refine zQ 1 (zn (aA (aO [2] [(I6 1)] (λY r=>?_))));have g:=D.symm.trans u;exact⟨by simp only[dD,lK,big,g,(a oW),(d oW),(k oW),(C oW),a1,bs,bQ,reduceIte],r.below⟩
   ·refine zk (zr (zq 3 (zn ?_)));refine nx 5 ⟨by omega,λ_=>a oW,λ_=>d oW,λ_=>k oW,λ_=>C oW,λ_=>a1⟩ (by show 5-5<5-4;omega)
  ·refine zs (zQ 2 (zn (cU (aI (zB [0,1] [(f,1)] (dN (λW r=>VJ p.f h.f W) (zq 1 (zn ?_))))))));refine dG (α:=Bool) (λV=>[1,2,5,6].zip [(Pt f 0),(I6 0),(.bool (hasB p.f 1)),(.bool V)]) (λV=>View.no) (λV=>Y1) (λV=>V=(hasB p.f 16384||hasB p.f 262144)) ?_ ?_
   ·refine zr (cF [0,1] [(f,1)] (dN (λW r=>YD p.f h.f W) (zq 1 (cN 64 (hasB p.f 16384) (λa6=>?_) (λa6=>?_)))))
    ·refine zq 5 (zn ?_);refine jn true ?_;simp only[a6,u,bs,bQ,reduceIte]
    ·refine cF [0,1] [(f,1)] (dN (λW r=>SK p.f h.f W) (zq 2 (zn ?_)));refine jn (hasB p.f 262144) ?_;simp only[a6,u,bs,bQ,reduceIte]
   intro V b9;refine zs ?_;refine dG (α:=Bool) (λI=>[1,2,6,95].zip [(Pt f 0),(I6 0),(.bool V),(.bool I)]) (λI=>View.no) (λI=>Y1) (λI=>I=((hasB p.f 1&&(hasB p.f 4||decide ((p.off:Int)≥(p.tot:Int))))||(!hasB p.f 1&&(decide ((p.off:Int)>0)||decide ((p.tot:Int)>0))))) ?_ ?_
   ·refine zr (zq 2 (cN 70 (hasB p.f 1) (λG=>?_) (λG=>?_)))
    ·refine cF [0,1] [(f,1)] (dN (λW r=>Md p.f h.f W) (zq 1 (cN 74 (hasB p.f 4) (λX=>?_) (λX=>?_))))
     ·refine zq 21 (zn ?_);refine jn true ?_;simp only[G,X,u,bs,bQ,reduceIte]
     ·refine cF [0,1,0,1,0,0,0,0] [(f,1),(f,1)] (cN 82 (decide ((p.off:Int)≥(p.tot:Int))) (λa7=>?_) (λa7=>?_))
      ·refine zq 13 (zn ?_);refine jn true ?_;simp only[G,X,a7,u,bs,bQ,reduceIte]
      ·refine zq 3 (dZ 85 (.bool (!(hasB p.f 1))) qF (M0 Value.bool (by rw[G];rfl)) ?_);refine zq 10 (zn ?_);refine jn false ?_;simp only[G,X,a7,u,bs,bQ,reduceIte]
    ·refine zq 15 (dZ 85 (.bool (!(hasB p.f 1))) qT (M0 Value.bool (by rw[G];rfl)) ?_);refine cF [0,1,0,0] [(f,1)] (cN 89 (decide ((p.off:Int)>0)) (λa8=>?_) (λa8=>?_))
     ·refine zq 6 (zn ?_);refine jn true ?_;simp only[G,a8,u,bs,bQ,reduceIte]
     ·refine cF [0,1,0,0,0,0] [(f,1)] (zn ?_);refine jn (decide ((p.tot:Int)>0)) ?_;simp only[G,a8,u,bs,bQ,reduceIte]
   intro I O;refine gK I (λB=>?_) (λB=>?_)
   ·refine zQ 1 (zn (aA (aO [2] [(I6 8)] (λY r=>?_))));have g:=D.symm.trans u;have F:=O.symm.trans B;exact⟨by simp only[dD,lK,big,g,F,(a oW),(d oW),(k oW),(C oW),(K oW),bs,bQ,reduceIte],r.below⟩
   ·refine zk ?_;refine dG (α:=Bool) (λM=>[1,2,6,7].zip [(Pt f 0),(I6 0),(.bool V),(.bool M)]) (λM=>View.no) (λM=>Y1) (λM=>M=((p.src.s==1)&&(p.src.l==[110,111,110,101]))) ?_ ?_
    ·refine zr (cF [0,0,1,0,0] [(f,1)] (cN 100 (p.src.s==1) (λb2=>?_) (λb2=>?_)))
     ·refine cF [0,0,1] [(f,1)] (cB (.bool (p.src.l==[110,111,110,101])) (gZ _ _ _ _ rfl p.src.l [110,111,110,101] kR kR) ?_);refine zq 2 (zn ?_);refine jn (p.src.l==[110,111,110,101]) ?_;simp only[B,b2,u,bs,bQ,reduceIte]
     ·refine zq 6 (zn ?_);refine jn false ?_;simp only[B,b2,u,bs,bQ,reduceIte]
    intro M c0;refine zs ?_;refine dG (α:=Bool) (λA=>[2,123].zip [(I6 0),(.bool A)]) (λA=>View.no) (λA=>Y1) (λA=>A=((V&&(M||hasB p.f 2))||(M&& !hasB p.f 4))) ?_ ?_
    ·refine zr (zq 2 (cN 107 V (λL=>?_) (λL=>?_)))
     ·refine zq 2 (cN 109 M (λN=>?_) (λN=>?_))
      ·refine zq 14 (zn ?_);refine jn true ?_;simp only[B,L,N,u,bs,bQ,reduceIte]
      ·refine cF [0,1] [(f,1)] (dN (λW r=>Fg p.f h.f W) (zq 3 (cN 115 (hasB p.f 2) (λb3=>?_) (λb3=>?_))))
       ·refine zq 8 (zn ?_);refine jn true ?_;simp only[B,L,N,b3,u,bs,bQ,reduceIte]
       ·refine zq 2 (dZ 117 (.bool M) qF (M0 Value.bool N) ?_);refine zq 6 (zn ?_);refine jn false ?_;simp only[B,L,N,b3,u,bs,bQ,reduceIte]
     ·refine zq 10 (cN 117 M (λb4=>?_) (λb4=>?_))
      ·refine cF [0,1] [(f,1)] (dN (λW r=>Md p.f h.f W) (zq 3 (zn ?_)));refine jn (!(hasB p.f 4)) ?_;simp only[B,L,b4,u,bs,bQ,reduceIte]
      ·refine zq 6 (zn ?_);refine jn false ?_;simp only[B,L,b4,u,bs,bQ,reduceIte]
    intro A E;refine gK A (λb5=>?_) (λb5=>?_)
    ·refine zQ 1 (zn (aA (aO [2] [(I6 8)] (λY r=>?_))));have g:=D.symm.trans u;have F:=O.symm.trans B;rw[b9,c0]at E;have J:=E.symm.trans b5;exact⟨by simp only[dD,lK,big,g,F,J,(a oW),(d oW),(k oW),(C oW),(K oW),bs,bQ,reduceIte],r.below⟩
    ·refine zk (zQ 1 (zn (aA (aO [2] [(I6 0)] (λY r=>?_)))));have g:=D.symm.trans u;have F:=O.symm.trans B;rw[b9,c0]at E;have J:=E.symm.trans b5;exact⟨by simp only[dD,lK,big,g,F,J,(a oW),(d oW),(k oW),(C oW),(K oW),bs,bQ,reduceIte],r.below⟩
theorem JE{m n:Nat}{x:Int}(w:World)(d:x=(n:Int))(hm:m<=7)(a:n<W64):CP 75 #[.int .i64 (m:Int),.int .u64 x] w (Ret (.string (B (Itm.aF m n))) w):=d▸dK m n w hm a
theorem tJ{l:List Itm.Tr}{x:Itm.Tr}:Itm.aY (l++[x])=Itm.aY l++Itm.aG x:=by
 rw[Itm.qI];simp[Itm.aY]
theorem Tx(p:Pa):Itm.aG p.tree=[130]++Itm.aF 0 p.id.toNat++Itm.aG p.v:=by
 show Itm.aG (.mk 4 0 [] [Itm.cD p.id.toNat,p.v] false)=_;rw[Itm.iQ,Itm.aY,Itm.aY,Itm.aY,M1,show Itm.aG (Itm.cD p.id.toNat)=Itm.aF 0 p.id.toNat from Itm.mT _,<-M6];rfl
theorem OQ(l:List Pa)(a:Option Addr)(c:Nat)(w:World){U:View}(hU:See U w)(hl:fJ PaR 6 U a l)(a1:l.length<=100)(V:fZ l=true):CP 78 #[.slice a l.length c] w (Ret (.string (B (Itm.aG (gL l)))) w):=by
 have N:∀p∈l,paB p=true:=by
  have h:=V;unfold fZ at h;rw[L5,M7]at h;exact h.1
 have L:=fU V;have a6:=Itm.aE 4 l.length;refine dC 33 Tryz.func78 hU ?_;refine zQ 1 (zn (zQ 3 (dZ 7 (U6 (IntKind.u64.wrap (l.length:Int))) (N6 ((l.length:Nat))) (M0 (Value.int .u64) (u64_in oW oW)) ?_)));refine cY 75 #[(I6 4),(N6 ((l.length:Nat)))] (St (Itm.aF 4 l.length)) (λW C=>JE W rfl (by decide) (by unfold W64;omega)) ?_;refine zq 1 (zn (zs (zQ 1 (zn (aB (eF (α:=Nat×List UInt8) (λx=>[0,2,3,4].zip [(.slice a l.length c),(St []),(St x.2),(L6 x.1)]) (λx=>U) (λx=>[]) (λx=>x.1<=l.length/\x.2=Itm.aF 4 l.length++Itm.aY ((l.take x.1).map Pa.tree)/\x.2.length<=100+2000000000000000*x.1) (λx=>l.length-x.1) (0,Itm.aF 4 l.length) ?_ ?_))))))
 ·exact⟨M8 _,by simp[Itm.aY],by show(Itm.aF 4 l.length).length<=_;omega⟩
 intro x hx;obtain⟨b1,r,b2⟩:=hx;refine zs (zQ 4 (zn (aZ ((x.1:Int)<(l.length:Int)) (λh0 I=>?_) (λh0 I=>?_))))
 ·refine zk (zs (aB ?_));obtain⟨d,j⟩:∃y,(l)[x.1]? =some y:=⟨(l)[x.1]'oW,K8 _⟩;obtain⟨u,A,Y,rfl,D,J⟩:=hl.at_ x.1 d j;obtain⟨Z,rfl,E⟩:=J;obtain⟨F,G,rfl,X,a8,O,a7⟩:=E.form;have g:=L d (K9 j);have f:=N d (K9 j);unfold paB at f;rw[L5]at f;have k:=UQ f.1 f.2 O;unfold R47 at k;have K:=Itm.cV d.v;have M:=Itm.aE 0 d.id.toNat;refine gI 7 [0,0,0,1,0,1,1,1,1,0,0,1,0,1,1,1] [] [.val (Pt u (A+x.1*6)),.val (I6 d.id),.val (N6 d.id.toNat),.val (St (Itm.aF 0 d.id.toNat)),.val (St ([130]++(Itm.aF 0 d.id.toNat))),.val (Pt u (A+x.1*6)),.val (tV d.v F G),.val (St (Itm.aG d.v)),.val (St (([130]++(Itm.aF 0 d.id.toNat))++(Itm.aG d.v)))] ⟨?_,?_,?_,?_,?_,?_,?_,?_,?_,trivial⟩ ?_
  ·exact vR (rIx 180 rfl u A l.length c x.1 6)
  ·exact vU1 u (A+x.1*6+0) (D 0 _ rfl) 3 _ _ Tryz.underlying3 rfl
  ·exact vE (U6 (IntKind.u64.wrap d.id)) (M0 (Value.int .u64) (idU g))
  ·exact vC 75 #[(I6 0),(N6 d.id.toNat)] (λW C=>JE W rfl (by decide) (by have:=g;unfold W64;omega))
  ·exact vR (cE _ _ _ _ rfl [130] (Itm.aF 0 d.id.toNat) kR kR oA)
  ·exact vR (rIx 180 rfl u A l.length c x.1 6)
  ·exact vU u (A+x.1*6+1) (tC d.v F G) (View.sub D 1 5 kR) 136 _ _ Tryz.underlying136 rfl
  ·exact vC 76 #[(tV d.v F G)] (λW C=>iA 8 _ _ C.view E f.2 (by unfold DK;omega))
  ·exact vR (cE _ _ _ _ rfl ([130]++(Itm.aF 0 d.id.toNat)) (Itm.aG d.v) kR kR oA)
  refine cB (St (x.2++(([130]++(Itm.aF 0 d.id.toNat))++(Itm.aG d.v)))) (cE _ _ _ _ rfl x.2 (([130]++(Itm.aF 0 d.id.toNat))++(Itm.aG d.v)) kR kR oA) ?_;refine zq 1 (zn (zr (zq 2 (dH 14 ((x.1:Int)+1) (zq 1 (zn ?_))))));refine nx (x.1+1,(x.2++(([130]++(Itm.aF 0 d.id.toNat))++(Itm.aG d.v)))) ?_ ?_
  ·exact⟨by show x.1+1<=l.length;omega,by show(x.2++(([130]++(Itm.aF 0 d.id.toNat))++(Itm.aG d.v)))=_;rw[dL Pa.tree j,tJ,Tx,r];simp only[M6],by show((x.2++(([130]++(Itm.aF 0 d.id.toNat))++(Itm.aG d.v)))).length<=_;simp only[L4,M9,O8];omega⟩
  ·show l.length-(x.1+1)<l.length-x.1;omega
 ·refine aI (zQ 2 (zn (aA (aO [2] [(St x.2)] (λW' C=>?_)))));refine⟨?_,C.below⟩;rw[O2 oW]at r;rw[show Itm.aG (gL l)=x.2 from by rw[r];show Itm.aG (.mk 4 0 [] (l.map Pa.tree) false)=_;rw[Itm.iQ,O1]];rfl
theorem CR(a:As):cW a=true↔(1<=a.t.length/\a.t.length<=16)/\a.r.length=a.t.length/\eX a.c=true/\aN a.s=true/\IA 0 8 a.p=true/\∀i n,a.t[i]? =some n->Hp a.t i n/\∀q,a.r[i]? =some q->IA 1 4 q=true:=by
 have I:∀(D d:Int) (l:List Pa),IA D d l=true↔D<=l.length/\(l.length:Int)<=d/\fZ l=true:=by
  intro D d l;unfold IA;split
  ·next h=>
   simp only[T1,N0]at h;constructor
   ·intro h;cases h
   ·intro⟨_,_,_⟩;omega
  ·next h=>
   simp only[T1,N0]at h;exact⟨λh=>⟨by omega,by omega,h⟩,λh=>h.2.2⟩
 unfold cW;simp only[L5,N0,I];rw[pS,M7];constructor
 ·rintro⟨⟨⟨⟨⟨⟨⟨⟨g,j⟩,E⟩,k⟩,r⟩,F⟩,u⟩,A⟩,f⟩;refine⟨⟨g,j⟩,A,k,r,⟨by omega,by omega,u⟩,λi n B=>⟨E i n B,λq C=>?_⟩⟩;have:=f q (K9 C);unfold CW at this;simp only[L5,N0]at this;exact⟨by omega,by omega,this.2⟩
 ·rintro⟨⟨g,j⟩,A,k,r,⟨_,F,u⟩,f⟩;refine⟨⟨⟨⟨⟨⟨⟨⟨g,j⟩,λi n B=>(f i n B).1⟩,k⟩,r⟩,by omega⟩,u⟩,A⟩,λq C=>?_⟩;obtain⟨i,d⟩:=R8.1 C;have G:=(L8.1 d).1;have:=(f i (a.t[i]'oW) (K8 oW)).2 q d;unfold CW;simp only[L5,N0];exact⟨⟨by omega,by omega⟩,this.2.2⟩
theorem gY{a:As}(h:¬((1<=a.t.length/\a.t.length<=16)/\a.r.length=a.t.length/\eX a.c=true/\aN a.s=true/\IA 0 8 a.p=true/\∀i n,a.t[i]? =some n->Hp a.t i n/\∀q,a.r[i]? =some q->IA 1 4 q=true)):cW a=false:=by
 rw[Bool.eq_false_iff];exact λe=>h ((CR a).1 e)
theorem SD(a:As)(aT aP aR:Option Addr)(L cP cR:Nat)(w:World){U:View}(hU:See U w)(hA:DR U aT aP aR a)(V:a.t.length<=1000000/\a.p.length<=1000000/\∀l∈a.r,l.length<=1000000):CP 112 #[asV a aT aP aR L cP cR] w (Ret (.bool (cW a)) w):=by
 have a1:=hA.t;have b5:=hA.p;have b6:=hA.r;have e5:=V.1;refine dC 88 Tryz.func112 hU ?_;refine zs (zr (aW (λf=>(zq 1 (zn (zB [0,1,0,0] [(f,1)] (zn (zs (zQ 3 (jM 11 ((a.t.length:Int)<1) (λh0 b7=>?_) (λh0 b7=>?_)))))))))))
 ·refine zq 32 (zn (dM (zQ 1 (zn (aA (aO [2] [qF] (λE d=>?_)))))));refine⟨?_,d.below⟩;rw[gY (λ⟨J,K,D,F,G,B⟩=>(by have:=P2 h0;omega))]
  try rfl
 ·refine zq 4 (jM 15 ((a.t.length:Int)>16) (λh1 b9=>?_) (λh1 b9=>?_))
  ·refine zq 28 (zn (dM (zQ 1 (zn (aA (aO [2] [qF] (λE d=>?_)))))));refine⟨?_,d.below⟩;rw[gY (λ⟨J,K,D,F,G,B⟩=>(by have:=P2 h1;omega))]
   try rfl
  ·refine cF [0,1,0,0,0,0,0] [(f,1)] (jB 22 (a.r.length:Int) (a.t.length:Int) (λh2 c0=>?_) (λh2 c0=>?_))
   ·refine zq 21 (zn (dM (zQ 1 (zn (aA (aO [2] [qF] (λE d=>?_)))))));refine⟨?_,d.below⟩;rw[gY (λ⟨J,K,D,F,G,B⟩=>(by have:=Q0.1 h2;omega))]
    try rfl
   ·refine cF [0,1,0,0,0] [(f,1)] (jM 27 (a.c<0) (λh3 c1=>?_) (λh3 c1=>?_))
    ·refine zq 16 (zn (dM (zQ 1 (zn (aA (aO [2] [qF] (λE d=>?_)))))));refine⟨?_,d.below⟩;rw[gY (λ⟨J,K,D,F,G,B⟩=>(by have:=eI D;have:=P2 h3;omega))]
     try rfl
    ·refine cF [0,1,0,0,0] [(f,1)] (jM 32 (a.c>65535) (λh4 c4=>?_) (λh4 c4=>?_))
     ·refine zq 11 (zn (dM (zQ 1 (zn (aA (aO [2] [qF] (λE d=>?_)))))));refine⟨?_,d.below⟩;rw[gY (λ⟨J,K,D,F,G,B⟩=>(by have:=eI D;have:=P2 h4;omega))]
      try rfl
     ·refine cF [0,1] [(f,4)] (dN (λW d=>rZ a.s W hA.s.l) (zq 3 (cN 38 (!(aN a.s)) (λh5=>?_) (λh5=>?_))))
      ·refine zq 5 (zn (dM (zQ 1 (zn (aA (aO [2] [qF] (λE d=>?_)))))));refine⟨?_,d.below⟩;rw[gY (λ⟨J,K,D,F,G,B⟩=>(by simp[F]at h5))]
       try rfl
      ·refine cF [0,1] [(f,1)] (cY 168 #[(.slice aP a.p.length cP),(I6 0),(I6 8)] (.bool (IA 0 8 a.p)) (λW d=>JD 0 8 a.p _ _ W d.view b5 V.2.1) ?_);refine zq 2 (zn (gK (!(IA 0 8 a.p)) (λh6=>?_) (λh6=>?_)))
       ·refine zQ 1 (zn (aA (aO [2] [qF] (λE d=>?_))));refine⟨?_,d.below⟩;rw[gY (λ⟨J,K,D,F,G,B⟩=>(by simp[G]at h6))]
        try rfl
       ·refine zk (zs (zQ 1 (zn (aB (eF (α:=Nat) (λx=>[1,2,3,4].zip [(Pt f 0),qF,(L6 a.t.length),(L6 x)]) (λx=>U) (λx=>[(bK f (mD a aT aP aR L cP cR) 79)]) (λx=>x<=a.t.length/\∀i,i<x->∀n,a.t[i]? =some n->Hp a.t i n/\∀q,a.r[i]? =some q->IA 1 4 q=true) (λx=>a.t.length-x) 0 ?_ ?_)))))
        ·exact⟨M8 _,λi h=>absurd h oW⟩
        intro x hx;obtain⟨e9,b4⟩:=hx;refine zs (zQ 3 (zn (aZ ((x:Int)<(a.t.length:Int)) (λh7 c6=>?_) (λh7 c6=>?_))))
        ·refine zk (zs (aB (zs (zB [0,1,0] [(f,1)] ?_))));obtain⟨A,C⟩:∃y,(a.t)[x]? =some y:=⟨(a.t)[x]'oW,K8 _⟩;obtain⟨g,r,rfl,X⟩:=a1.one C;refine cB (Pt g (r+x)) (eJ _ 3 _ _ rfl g r a.t.length L x .i64 kR kR (by first|assumption|omega) kR kR) ?_;refine zV g (r+x) (I6 A) X 3 (.tmp 52) _ Tryz.underlying3 rfl ?_;refine zq 2 (jM 55 (A<0) (λh8 c7=>?_) (λh8 c7=>?_))
         ·refine zq 16 (zn (dM (zQ 1 (zn (aA (aO [2] [qF] (λE d=>?_)))))));refine⟨?_,d.below⟩;rw[gY (λ⟨J,K,D,F,G,B⟩=>(by have:=eI (B x A C).1.1;have:=P2 h8;omega))]
          try rfl
         ·refine cF [0,1,0] [(f,1)] (cB (Pt g (r+x)) (eJ _ 3 _ _ rfl g r a.t.length L x .i64 kR kR (by first|assumption|omega) kR kR) ?_);refine zV g (r+x) (I6 A) X 3 (.tmp 59) _ Tryz.underlying3 rfl ?_;refine zq 3 (jM 63 (A>65535) (λh9 c8=>?_) (λh9 c8=>?_))
          ·refine zq 8 (zn (dM (zQ 1 (zn (aA (aO [2] [qF] (λE d=>?_)))))));refine⟨?_,d.below⟩;rw[gY (λ⟨J,K,D,F,G,B⟩=>(by have:=eI (B x A C).1.1;have:=P2 h9;omega))]
           try rfl
          ·refine cF [0,1,0] [(f,1)] ?_;obtain⟨I,N⟩:∃y,(a.r)[x]? =some y:=⟨(a.r)[x]'oW,K8 _⟩;obtain⟨Z,f2,e6,rfl,e0,c9⟩:=b6.at_ x I N;obtain⟨a2,c2,rfl,e4⟩:=c9;have e2:=View.range1 e0;refine cB (Pt Z (f2+x)) (eJ _ 76 _ _ rfl Z f2 a.r.length cR x .i64 kR kR (by first|assumption|omega) kR kR) ?_;refine zV Z (f2+x) (.slice a2 I.length c2) e2 76 (.tmp 67) _ Tryz.underlying76 rfl ?_;refine cY 168 #[(.slice a2 I.length c2),(I6 1),(I6 4)] (.bool (IA 1 4 I)) (λW d=>JD 1 4 I _ _ W d.view e4 (V.2.2 _ (K9 N))) ?_;refine zq 2 (zn (gK (!(IA 1 4 I)) (λO=>?_) (λO=>?_)))
           ·refine zQ 1 (zn (aA (aO [2] [qF] (λE d=>?_))));refine⟨?_,d.below⟩;rw[gY (λ⟨J,K,D,F,G,B⟩=>(by have u:=(B x A C).2 I N;simp[u]at O))]
            try rfl
           ·refine zk (zQ 1 (zn (aB (eF (α:=Nat) (λj=>[1,2,3,4,5,44,45,46,49,50,51,52,53,54,55,56,57,58,59,60,61,62,63,64,65,66,67,68,69,70,71].zip [(Pt f 0),qF,(L6 a.t.length),(L6 x),(L6 j),(L6 x),(L6 a.t.length),(.bool (decide ((x:Int)<(a.t.length:Int)))),(Pt f 0),(Sl g r a.t.length L),(L6 x),(Pt g (r+x)),(I6 A),(.bool (decide (A<0))),qF,(Pt f 0),(Sl g r a.t.length L),(L6 x),(Pt g (r+x)),(I6 A),(.bool (decide (A>65535))),(.bool (decide (A>65535))),qF,(Pt f 7),(Sl Z f2 a.r.length cR),(L6 x),(Pt Z (f2+x)),(.slice a2 I.length c2),(.bool (IA 1 4 I)),(.bool (!(IA 1 4 I))),(.bool (!(IA 1 4 I)))]) (λj=>U) (λj=>[(bK f [(Sl g r a.t.length L),(I6 a.c),(I6 a.s.s),(St a.s.l),(N6 a.s.n),(N6 a.s.v),(.slice aP a.p.length cP),(Sl Z f2 a.r.length cR)] 79)]) (λj=>j<=x/\∀k,k<j->∀m,a.t[k]? =some m->m≠A) (λj=>x-j) 0 ?_ ?_))))
            ·exact⟨M8 _,λi h=>absurd h oW⟩
            intro j hj;obtain⟨e7,a8⟩:=hj;refine zs (zQ 3 (zn (aZ ((j:Int)<(x:Int)) (λb8 a6=>?_) (λb8 a6=>?_))))
            ·refine zk (zs (aB (zs ?_)));obtain⟨y3,Y⟩:∃y,(a.t)[j]? =some y:=⟨(a.t)[j]'oW,K8 _⟩;obtain⟨b3,f3,e3,e1⟩:=a1.one Y;cases e3;refine gI 3 [0,3,0,1,1,0,3,0,1,1] [(f,1),(f,1)] [.val (Pt g (r+x)),.val (I6 A),.val (Pt g (r+j)),.val (I6 y3)] ⟨?_,?_,?_,?_,trivial⟩ ?_
             ·exact vR (eJ _ 3 _ _ rfl g r a.t.length L x .i64 kR kR (by first|assumption|omega) kR kR)
             ·exact vU1 g (r+x) X 3 _ _ Tryz.underlying3 rfl
             ·exact vR (eJ _ 3 _ _ rfl g r a.t.length L j .i64 kR kR (by first|assumption|omega) kR kR)
             ·exact vU1 g (r+j) e1 3 _ _ Tryz.underlying3 rfl
             refine zq 1 (zn (fC A y3 (λM a7=>?_) (λM a7=>?_)))
             ·refine zQ 1 (zn (aA (aO [2] [qF] (λE d=>?_))));refine⟨?_,d.below⟩;rw[gY (λ⟨J,K,D,F,G,B⟩=>(B x A C).1.2 j oW y3 Y (eq_of_beq M).symm)]
              try rfl
             ·refine zk (zr (zq 2 (dH 76 ((j:Int)+1) (zq 1 (zn ?_)))));refine nx (j+1) ?_ ?_
              ·exact⟨by omega,mL (P:=λ_ m=>m≠A) Y a8 (λu=>by rw[u]at M;simp at M)⟩
              ·show x-(j+1)<x-j;omega
            ·refine aI (zr (zq 2 (dH 48 ((x:Int)+1) (zq 1 (zn ?_)))));refine nx (x+1) ?_ ?_
             ·exact⟨by omega,mL (P:=λi n=>Hp a.t i n/\∀q,a.r[i]? =some q->IA 1 4 q=true) C b4 ⟨⟨EG (O5 h8) (O5 h9),λk9 e8 q9 u=>a8 k9 oW q9 u⟩,λq9 u=>by rw[N]at u;obtain rfl:=N5 u;simpa using O⟩⟩
             ·show a.t.length-(x+1)<a.t.length-x;omega
        ·refine aI (zQ 1 (zn (aA (aO [2] [qT] (λE d=>?_)))));refine⟨?_,d.below⟩;rw[(CR a).2 ⟨⟨by have:=O5 h0;omega,by have:=O5 h1;omega⟩,by have:=Q5.1 h2;omega,EG (O5 h3) (O5 h4),by simpa using h5,by simpa using h6,BS oW b4⟩];rfl
theorem Pf{e:Ei}(h:aN e=true):decide (e.s=1/\e.l=[110,111,110,101]/\(e.n:Int)=0/\(e.v:Int)=0)=((e.s==1)&&(e.l==[110,111,110,101])):=by
 rw[T7];simp only[N0,L5,S5];refine⟨λh=>⟨h.1,h.2.1⟩,λ⟨a,d⟩=>⟨a,d,?_⟩⟩;unfold aN Eid.gW at h;rw[a]at h;simp at h;omega
theorem Ex(a b:Int):(a !=b)= !(a==b):=rfl
theorem JA(p:Pr)(h:p.ok):lK p=cK p:=by
 have C:(jE .u64 (p.f:Int) 4==0)= !hasB p.f 4:=by rw[<-Br p.f h.f,Ex,Y0]
 unfold lK cK;rw[Ej p.f h.f,Br p.f h.f,Ar p.f h.f,Cq p.f h.f,C];have ho:((p.off:Int) !=0)=decide ((p.off:Int)>0):=by
  rw[T7];simp only[Q0,ne_eq,N0];omega
 have E:((p.tot:Int) !=0)=decide ((p.tot:Int)>0):=by
  rw[T7];simp only[Q0,ne_eq,N0];omega
 rw[ho,E];have u:(!dU p)=((!aN p.dst|| !aN p.src|| !aN p.rpt||decide (p.c<0)||decide (p.c>2)||decide ((p.f:Int)≥2097152))||(big p.time||big p.seq||big p.life||big p.off||big p.tot)):=by
  unfold dU;rw[show decide (p.c<0)= !decide (p.c≥0) by rw[<-W9];congr 1;exact propext oW,show decide (p.c>2)= !decide (p.c<=2) by rw[<-W9];congr 1;exact propext oW,
   show decide ((p.f:Int)≥2097152)= !decide ((p.f:Int)<2097152) by rw[<-W9];congr 1;exact propext oW]
  generalize big p.time=F;generalize big p.seq=G;generalize big p.life=I;generalize big p.off=J;generalize big p.tot=K;generalize aN p.dst=L;generalize aN p.src=M;generalize aN p.rpt=N;generalize decide (p.c≥0)=O;generalize decide (p.c<=2)=A;generalize decide ((p.f:Int)<2097152)=B;cases F<;>cases G<;>cases I<;>cases J<;>cases K<;>try(simp)
  all_goals cases L<;>cases M<;>cases N<;>cases O<;>cases A<;>cases B<;>rfl
 by_cases k:(!aN p.dst|| !aN p.src|| !aN p.rpt||decide (p.c<0)||decide (p.c>2)||decide ((p.f:Int)≥2097152))=true
 ·rw[N1 k,u,N1 (by rw[k];rfl)]
 rw[M5 k];have j:=Bool.eq_false_iff.2 k;by_cases r:(big p.time||big p.seq||big p.life||big p.off||big p.tot)=true
 ·rw[N1 r,u,N1 (by rw[r,Bool.or_true])]
 have D:(!dU p)=false:=by rw[u,j,Bool.eq_false_iff.2 r];rfl
 rw[M5 r,D,M5 (by simp:¬(false=true))];have hs:aN p.src=true:=by
  simp only[Bool.or_eq_false_iff,P7]at j;exact j.1.1.1.1.2
 rw[Pf hs];generalize ((p.src.s==1)&&(p.src.l==[110,111,110,101]))=s;generalize hasB p.f 1=a;generalize hasB p.f 2=b;generalize hasB p.f 4=c;generalize (hasB p.f 16384||hasB p.f 262144)=d;generalize decide ((p.off:Int)≥(p.tot:Int))=e;generalize decide ((p.off:Int)>0)=f;generalize decide ((p.tot:Int)>0)=g;clear u k j r ho E C hs h D;revert s a b c d e f g;decide
def gT(b:Bk):Int:=if decide (b.t<1)||decide (b.t>65535)||decide (b.n<1)||decide (b.n>65535)||decide ((b.f:Int)>255)||decide (b.c<0)||decide (b.c>2)then 1 else if decide ((b.d.length:Int)>4000)then 4 else if((b.t==1)&&(b.n !=1))||((b.t !=1)&&(b.n==1))then 8 else 0
theorem JC(b:Bk):gT b=cX b:=by
 unfold gT cX jQ;rw[show decide (b.t<1)= !decide (b.t≥1) by rw[<-W9];congr 1;exact propext oW,show decide (b.t>65535)= !decide (b.t<=65535) by rw[<-W9];congr 1;exact propext oW,
  show decide (b.n<1)= !decide (b.n≥1) by rw[<-W9];congr 1;exact propext oW,show decide (b.n>65535)= !decide (b.n<=65535) by rw[<-W9];congr 1;exact propext oW,
  show(b.t !=1)= !(b.t==1)from rfl,show(b.n !=1)= !(b.n==1)from rfl]
 generalize decide (b.t≥1)=a;generalize decide (b.t<=65535)=d;generalize decide (b.n≥1)=f;generalize decide (b.n<=65535)=g;generalize (b.t==1)=h;generalize (b.n==1)=j;cases a<;>cases d<;>cases f<;>cases g<;>cases h<;>cases j<;>simp
theorem FA(b:Bk)(w:World):CP 63 #[b.V] w (Ret (.int .i64 (gT b)) w):=by
 refine dF 58 Tryz.func63 ?_;refine zs (zr (aW (λh=>(zq 1 (zn (zs (zB [0,1,0,0] [(h,1)] (cN 6 (decide (b.t<1)) (λd=>?_) (λd=>?_)))))))))
 ·refine zq 29 (zn (dM (zQ 1 (zn (aA (aO [2] [(I6 1)] (λg a=>?_)))))));exact⟨by simp only[dD,gT,d,bs,bQ,reduceIte],a.below⟩
 ·refine cF [0,1,0,0,0] [(h,1)] (cN 11 (decide (b.t>65535)) (λf=>?_) (λf=>?_))
  ·refine zq 24 (zn (dM (zQ 1 (zn (aA (aO [2] [(I6 1)] (λg a=>?_)))))));exact⟨by simp only[dD,gT,d,f,bs,bQ,reduceIte],a.below⟩
  ·refine cF [0,1,0,0,0] [(h,1)] (cN 16 (decide (b.n<1)) (λj=>?_) (λj=>?_))
   ·refine zq 19 (zn (dM (zQ 1 (zn (aA (aO [2] [(I6 1)] (λg a=>?_)))))));exact⟨by simp only[dD,gT,d,f,j,bs,bQ,reduceIte],a.below⟩
   ·refine cF [0,1,0,0,0] [(h,1)] (cN 21 (decide (b.n>65535)) (λk=>?_) (λk=>?_))
    ·refine zq 14 (zn (dM (zQ 1 (zn (aA (aO [2] [(I6 1)] (λg a=>?_)))))));exact⟨by simp only[dD,gT,d,f,j,k,bs,bQ,reduceIte],a.below⟩
    ·refine cF [0,1,0,0,0] [(h,1)] (cN 26 (decide ((b.f:Int)>255)) (λr=>?_) (λr=>?_))
     ·refine zq 9 (zn (dM (zQ 1 (zn (aA (aO [2] [(I6 1)] (λg a=>?_)))))));exact⟨by simp only[dD,gT,d,f,j,k,r,bs,bQ,reduceIte],a.below⟩
     ·refine cF [0,1,0,0,0] [(h,1)] (cN 31 (decide (b.c<0)) (λu=>?_) (λu=>?_))
      ·refine zq 4 (zn (dM (zQ 1 (zn (aA (aO [2] [(I6 1)] (λg a=>?_)))))));exact⟨by simp only[dD,gT,d,f,j,k,r,u,bs,bQ,reduceIte],a.below⟩
      ·refine cF [0,1,0,0] [(h,1)] (zn (gK (decide (b.c>2)) (λA=>?_) (λA=>?_)))
       ·refine zQ 1 (zn (aA (aO [2] [(I6 1)] (λg a=>?_))));exact⟨by simp only[dD,gT,d,f,j,k,r,u,A,bs,bQ,reduceIte],a.below⟩
       ·refine zk (zs (zB [0,1,0,0] [(h,1)] (zn (gK (decide ((((b.d).length:Nat):Int)>4000)) (λD=>?_) (λD=>?_)))))
        ·refine zQ 1 (zn (aA (aO [2] [(I6 4)] (λg a=>?_))));exact⟨by simp only[dD,gT,d,f,j,k,r,u,A,D,bs,bQ,reduceIte],a.below⟩
        ·refine zk (zs (zB [0,1,0,0] [(h,1)] (cN 43 (b.t==1) (λE=>?_) (λE=>?_))))
         ·refine cF [0,1,0,0,0] [(h,1)] (cN 48 (b.n !=1) (λI=>?_) (λI=>?_))
          ·refine zq 9 (zn (dM (zQ 1 (zn (aA (aO [2] [(I6 8)] (λg a=>?_)))))));exact⟨by simp only[dD,gT,d,f,j,k,r,u,A,D,E,I,bs,bQ,reduceIte],a.below⟩
          ·refine cF [0,1,0,0] [(h,1)] (cN 52 (b.t !=1) (λB=>?_) (λB=>?_))
           ·refine cF [0,1,0,0,0] [(h,1)] (zn (gK (b.n==1) (λF=>?_) (λF=>?_)))
            ·refine zQ 1 (zn (aA (aO [2] [(I6 8)] (λg a=>?_))));exact⟨by simp only[dD,gT,d,f,B,F,j,k,r,u,A,D,E,I,bs,bQ,reduceIte],a.below⟩
            ·refine zk (zQ 1 (zn (aA (aO [2] [(I6 0)] (λg a=>?_)))));exact⟨by simp only[dD,gT,d,f,B,F,j,k,r,u,A,D,E,I,bs,bQ,reduceIte],a.below⟩
           ·refine zq 5 (zn (cU (zk (zQ 1 (zn (aA (aO [2] [(I6 0)] (λg a=>?_))))))));exact⟨by simp only[dD,gT,d,f,B,j,k,r,u,A,D,E,I,bs,bQ,reduceIte],a.below⟩
         ·refine cF [0,0,0,0,0,0,1,0,0] [(h,1)] (cN 52 (b.t !=1) (λC=>?_) (λC=>?_))
          ·refine cF [0,1,0,0,0] [(h,1)] (zn (gK (b.n==1) (λG=>?_) (λG=>?_)))
           ·refine zQ 1 (zn (aA (aO [2] [(I6 8)] (λg a=>?_))));exact⟨by simp only[dD,gT,d,f,C,G,j,k,r,u,A,D,E,bs,bQ,reduceIte],a.below⟩
           ·refine zk (zQ 1 (zn (aA (aO [2] [(I6 0)] (λg a=>?_)))));exact⟨by simp only[dD,gT,d,f,C,G,j,k,r,u,A,D,E,bs,bQ,reduceIte],a.below⟩
          ·refine zq 5 (zn (cU (zk (zQ 1 (zn (aA (aO [2] [(I6 0)] (λg a=>?_))))))));exact⟨by simp only[dD,gT,d,f,C,j,k,r,u,A,D,E,bs,bQ,reduceIte],a.below⟩
theorem rF(e:Ei)(w:World){U:View}(hU:See U w)(he:e.ok)(J:aN e=true):CP 77 #[e.V] w (fV w U (pO e.tree)):=by
 have hn:=he.n;have hv:=he.v;have hl:=he.l;have hs:e.s=1\/e.s=2:=by
  unfold aN Eid.gW at J;split at J
  ·exact .inl ‹_›
  ·split at J
   ·exact .inr ‹_›
   ·cases J
 have hw:IntKind.u64.wrap e.s=(e.s.toNat:Int):=by
  have:=u64_in (x:=e.s) oW oW;omega
 refine dC 29 Tryz.func77 hU ?_;refine zs (zr (aW (λg=>(aW (λB=>(zn (zQ 1 (aW (λC=>(aX 2 C (zn (zs (zB [0,1,0] [(g,1)] (zn (fC e.s 2 (λk O=>?_) (λk O=>?_))))))))))))))))
 ·refine zr (cF [0,1,0,0,1,0] [(g,1),(g,1)] ?_);refine gR [(I6 0),(N6 e.n),(St []),S0,qF,(I6 0),(N6 e.v),(St []),S0,qF] 136 (λr=>(Sl r 0 2 2)) kR kR kR (λM V3 u X=>?_);have k5:=(TV.num _ e.n (by first|assumption|decide|(unfold W64;omega))).le u;have k6:=(TV.num _ e.v (by first|assumption|decide|(unfold W64;omega))).le u;have Z:fR V3 (some ⟨M,0,none⟩) [(Itm.cD e.n),(Itm.cD e.v)]:=fR.lit [((Itm.cD e.n),(iN e.n)),((Itm.cD e.v),(iN e.v))] X ⟨k5,k6,trivial⟩ (show 2<=R47 by decide);refine zq 1 (aX 2 C (zn (zB [0,1,0] [(g,1)] (dZ 24 (U6 (IntKind.u64.wrap e.s)) (N6 e.s.toNat) (M0 (Value.int .u64) hw) ?_))));refine cF [0,3] [(C,5)] ?_;refine gR [(I6 0),(N6 e.s.toNat),(St []),S0,qF,(I6 4),(U6 0),(St []),(Sl M 0 2 2),qF] 136 (λr=>(Sl r 0 2 2)) kR kR kR (λN V7 A Y=>?_);have a6:=(TV.list 2 Z).le A;have a7:=(TV.num _ e.s.toNat (by first|assumption|decide|(unfold W64;omega))).le A;have a1:fR V7 (some ⟨N,0,none⟩) [(Itm.cD e.s.toNat),(Itm.dJ [(Itm.cD e.n),(Itm.cD e.v)])]:=fR.lit [((Itm.cD e.s.toNat),(iN e.s.toNat)),((Itm.dJ [(Itm.cD e.n),(Itm.cD e.v)]),[(I6 4),(U6 0),(St []),(Sl M 0 2 2),qF])] Y ⟨a7,a6,trivial⟩ (show 2<=R47 by decide);refine zq 1 (aX 1 B (zn (aA (dW [2] [(B,5)] [(.agg #[(I6 4),(U6 0),(St []),(Sl N 0 2 2),qF])] (λW' D=>?_)))));have f:e.s.toNat=2:=by
   simp only[S5,M2]at k;omega
  exact aJ D (View.le_trans u A) ⟨[(I6 4),(U6 0),(St []),(Sl N 0 2 2),qF],rfl,((TV.list 2 a1)).cast (by simp only[Ei.tree,f,k,bs,bQ,reduceIte])⟩
 ·refine zB [0,1] [(g,1)] (cB (.bool (!(e.l==[110,111,110,101]))) (mI _ _ _ _ rfl e.l [110,111,110,101] kR kR) ?_);refine zn (gK (!(e.l==[110,111,110,101])) (λV=>?_) (λV=>?_))
  ·refine zr (cF [0,1,0] [(g,1)] (aX 2 C (zn (zB [0,1,0] [(g,1)] (dZ 24 (U6 (IntKind.u64.wrap e.s)) (N6 e.s.toNat) (M0 (Value.int .u64) hw) ?_)))));refine cF [0,3] [(C,5)] ?_;refine gR [(I6 0),(N6 e.s.toNat),(St []),S0,qF,(I6 3),(U6 0),(St e.l),S0,qF] 136 (λr=>(Sl r 0 2 2)) kR kR kR (λh K a E=>?_);have a8:=(TV.txt _ e.l (by first|assumption|decide|(unfold R47;omega))).le a;have b3:=(TV.num _ e.s.toNat (by first|assumption|decide|(unfold W64;omega))).le a;have G:fR K (some ⟨h,0,none⟩) [(Itm.cD e.s.toNat),(XI e.l)]:=fR.lit [((Itm.cD e.s.toNat),(iN e.s.toNat)),((XI e.l),[(I6 3),(U6 0),(St e.l),S0,qF])] E ⟨b3,a8,trivial⟩ (show 2<=R47 by decide);refine zq 1 (aX 1 B (zn (aA (dW [2] [(B,5)] [(.agg #[(I6 4),(U6 0),(St []),(Sl h 0 2 2),qF])] (λW' D=>?_)))));have f:e.s.toNat=1:=by
    simp only[S5,M2]at k;omega
   exact aJ D a ⟨[(I6 4),(U6 0),(St []),(Sl h 0 2 2),qF],rfl,((TV.list 2 G)).cast (by simp only[Ei.tree,f,k,show(e.l==[110,111,110,101])=false from by simpa using V,bs,bQ,reduceIte])⟩
  ·refine zk (zB [0,1,0] [(g,1)] (dZ 24 (U6 (IntKind.u64.wrap e.s)) (N6 e.s.toNat) (M0 (Value.int .u64) hw) ?_));refine cF [0,3] [(C,5)] ?_;refine gR [(I6 0),(N6 e.s.toNat),(St []),S0,qF,(I6 0),(U6 0),(St []),S0,qF] 136 (λr=>(Sl r 0 2 2)) kR kR kR (λj L d F=>?_);have b4:=(TV.num _ 0 (by first|assumption|decide|(unfold W64;omega))).le d;have b5:=(TV.num _ e.s.toNat (by first|assumption|decide|(unfold W64;omega))).le d;have I:fR L (some ⟨j,0,none⟩) [(Itm.cD e.s.toNat),(Itm.cD 0)]:=fR.lit [((Itm.cD e.s.toNat),(iN e.s.toNat)),((Itm.cD 0),[(I6 0),(U6 0),(St []),S0,qF])] F ⟨b5,b4,trivial⟩ (show 2<=R47 by decide);refine zq 1 (aX 1 B (zn (aA (dW [2] [(B,5)] [(.agg #[(I6 4),(U6 0),(St []),(Sl j 0 2 2),qF])] (λW' D=>?_)))));have f:e.s.toNat=1:=by
    simp only[S5,M2]at k;omega
   exact aJ D d ⟨[(I6 4),(U6 0),(St []),(Sl j 0 2 2),qF],rfl,((TV.list 2 I)).cast (by simp only[Ei.tree,f,k,show(e.l==[110,111,110,101])=true from by simpa using V,bs,bQ,reduceIte])⟩
def Np(f:Nat)(k:Int):Int:=if hasB f 1 then(if(k==1)||(k==2)then 11 else 10)else if(k==1)||(k==2)then 9 else 8
theorem YK(f:Nat)(k:Int)(A:f<W64)(w:World):CP 213 #[.int .u64 (f:Int),.int .u64 k] w (Ret (.int .i64 (Np f k)) w):=by
 refine dF 19 Tryz.func213 ?_;refine zQ 1 (zn (zQ 1 (zn (zs (zQ 1 (dN (λW a=>VJ f A W) (zn (gK (hasB f 1) (λd=>?_) (λd=>?_)))))))))
 ·refine zr (zq 3 (zn (zs (zQ 3 (cN 12 (k==1) (λh=>?_) (λh=>?_))))))
  ·refine zq 3 (zn (dM (zr (zq 3 (zn (zQ 2 (zn (aA (aO [4] [(I6 11)] (λg a=>?_))))))))));exact⟨by simp only[dD,Np,d,h,bs,bQ,reduceIte],a.below⟩
  ·refine zq 3 (zn (gK (k==2) (λr=>?_) (λr=>?_)))
   ·refine zr (zq 3 (zn (zQ 2 (zn (aA (aO [4] [(I6 11)] (λg a=>?_)))))));exact⟨by simp only[dD,Np,d,h,r,bs,bQ,reduceIte],a.below⟩
   ·refine zk (zQ 2 (zn (aA (aO [4] [(I6 10)] (λg a=>?_)))));exact⟨by simp only[dD,Np,d,h,r,bs,bQ,reduceIte],a.below⟩
 ·refine zk (zs (zQ 3 (cN 12 (k==1) (λj=>?_) (λj=>?_))))
  ·refine zq 3 (zn (dM (zr (zq 3 (zn (zQ 2 (zn (aA (aO [4] [(I6 9)] (λg a=>?_))))))))));exact⟨by simp only[dD,Np,d,j,bs,bQ,reduceIte],a.below⟩
  ·refine zq 3 (zn (gK (k==2) (λu=>?_) (λu=>?_)))
   ·refine zr (zq 3 (zn (zQ 2 (zn (aA (aO [4] [(I6 9)] (λg a=>?_)))))));exact⟨by simp only[dD,Np,d,j,u,bs,bQ,reduceIte],a.below⟩
   ·refine zk (zQ 2 (zn (aA (aO [4] [(I6 8)] (λg a=>?_)))));exact⟨by simp only[dD,Np,d,j,u,bs,bQ,reduceIte],a.below⟩
theorem ON(b:List UInt8)(w:World):CP 162 #[.int .i64 0,.string (B b)] w (Ret (.string (B [])) w):=by
 refine dF 39 Tryz.func162 ?_;refine zQ 1 (zn (zs (zQ 2 (zn (cU (zk (zs (zQ 2 (zn (cU (zk (zQ 1 (zn (aA (gC 4)))))))))))))))
end Go.Proofs.YtkoamlfiijcecaaGreatDoor.Sx
