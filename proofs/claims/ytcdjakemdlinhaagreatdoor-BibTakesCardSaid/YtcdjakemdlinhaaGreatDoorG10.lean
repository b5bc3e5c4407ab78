/-
  Several texts in one: Enf Bli1 Egn1 Mix7 Mix8 Sco1 Sco2 Bcb1 Bcb2 Rfb1 Rfb2 Lbw Lbs Lbl Lbx Opb Opi Rh1 Rh2 Rr1 Rr2 Rit.
  Conditions: named at each.
-/
import Derived.Test.YtcdjakemdlinhaaGreatDoorG09
import Derived.WalkLawsBesides
import Derived.Lib.Hide
import Derived.Deep.AppendLies
import Derived.OwnWalk
import Derived.Laws.OwnMore
import Derived.BigRegion
set_option maxHeartbeats 16000000
set_option linter.unusedSimpArgs false
set_option linter.unusedVariables false
set_option linter.unusedSectionVars false
namespace Go.Proofs.YtcdjakemdlinhaaGreatDoor.Eng
open Go.ChangeShapes Go.WideShapes Go.ChangeAt Go.RowKit Go.Deep Go.Great
def keyBytes(n:Int):Int:=if n=1 then 16 else if n=3 then 32 else 0
def bits(n:Int):Int:=if n=5 then 256 else if n=6 then 384 else if n=7 then 512 else 0
def size(n:Int):Int:=if n=1 then 16 else if n=3 then 16 else if n=5 then 32 else if n=6 then 48 else if n=7 then 64 else 0
theorem aEN(n:Int)(w:World):Calls Tryz.prog 155 #[.int .i64 n] w fun e w'=>e=.returned (.int .i64 (keyBytes n))∧w=w':=by
 go_enter Tryz.func155,Tryz.ntmps155
 go_wp2
 all_goals(go_ret;refine⟨?_,rfl⟩;simp_all [keyBytes])
theorem aHq(n:Int)(w:World):Calls Tryz.prog 145 #[.int .i64 n] w fun e w'=>e=.returned (.int .i64 (bits n))∧w=w':=by
 go_enter Tryz.func145,Tryz.ntmps145
 go_wp2
 all_goals(go_ret;refine⟨?_,rfl⟩;simp_all [bits])
theorem aLH(n:Int)(w:World):Calls Tryz.prog 294 #[.int .i64 n] w fun e w'=>e=.returned (.int .i64 (size n))∧w=w':=by
 have hs:size n=if 0<keyBytes n then 16 else bits n/8:=by unfold size keyBytes bits;(repeat' split)<;>first|rfl|omega
 have hb:0≤bits n∧bits n≤512:=by unfold bits;(repeat' split)<;>omega
 have H:=Lib.hid hs;clear hs
 go_enter Tryz.func294,Tryz.ntmps294
 go_wp2_with (first|(go_at_call 155;refine(aEN _ _).mono ?_;rintro e w' ⟨rfl,rfl⟩)|(go_at_call 145;refine(aHq _ _).mono ?_;rintro e w' ⟨rfl,rfl⟩))
 ·go_ret;exact⟨by rw[H.out,Ar (by assumption)];rfl,rfl⟩
 ·go_ret;exact⟨by rw[H.out,An oW];rfl,rfl⟩
theorem aPV:(Tryz.prog.info? 5).map (fun i=>(i.zero,i.size,i.bytes))=some (some (.int .u8 0),1,1):=by kernel_rfl
def aDd(n:Nat):List Nat:=List.replicate n 0
theorem aAp(n:Nat):(aDd n).length=n:=Gb
theorem aIi(k:IntKind)(n:Nat):madeCells #[.int k 0] n=aIV k (aDd n):=
 Array.toList_inj.1 (by rw[toList_madeCells_one];simp[aIV,aDd])
def aHe(id i:Nat):Nat:=id/2^(8*(7-i%8))%256
def dG(id n:Nat):List UInt8:=(tab (aHe id) n).map UInt8.ofNat
theorem sW(a n:Nat):(dG a n).length=n:=by rw[dG,Az,aCi]
set_option maxRecDepth 100000 in
theorem aKD(ib l c n:Nat)(p:Option Addr)(w:World)(h:w.cell? ⟨ib,0,none⟩=some (.slice p l c))(hl:l≤1000)(hn:n≤100000):Calls Tryz.prog 293 #[.pointer (some ⟨ib,0,none⟩),.int .i64 n] w fun e w'=>e=.returned (.string (B (dG (l+1) n)))∧Below w.heap.size w w':=by
 have hmk:=run_make_row' (P:=Tryz.prog) 160 5 (.int .u8 0) 1 Tryz.underlying160 aPV rfl .i64 .i64 n oW oW w;rw[aIi]at hmk;have hc:(w.alloc (.cells (aIV .u8 (aDd n)) 5)).cell? ⟨ib,0,none⟩=some (.slice p l c):=by
  rw[World.cell?_alloc_lt _ _ _ (World.block_lt_of_cell? w ⟨ib,0,none⟩ h)];exact h
 have HR:=Lib.hid (show dG (l+1) n=(tab (aHe (l+1)) n).map UInt8.ofNat from rfl);obtain⟨id,hid⟩:∃id,l+1=id:=⟨_,rfl⟩;have hidi:(l:Int)+1=(id:Int):=by omega
 have hidl:id≤1001:=by omega
 rw[hid]at HR ⊢;have HF:=Lib.hid (show∀i,aHe id i=id/2^(8*(7-i%8))%256 from fun _=>rfl);generalize dG id n=res at *;generalize aHe id=ff at *;have hwi:IntKind.u64.wrap (id:Int)=(id:Int):=by simp[IntKind.wrap,IntKind.bits,IntKind.signed];omega
 clear hid
 go_enter Tryz.func293,Tryz.ntmps293
 go_wp2
 have hrow:=pM.new w 5 .u8 (aDd n);have hbel:Below w.heap.size w (w.alloc (.cells (aIV .u8 (aDd n)) 5)):=by((repeat' (with_reducible first|exact Below.refl _ _|assumption|refine Below.drew ?_|refine below_drewN ?_ _|refine Below.setCell ?_ ?_ _|refine Below.alloc ?_ ?_ _|refine Below.ext ?_ ?_ _|refine Below.trans ?_ (Below.mono ‹_› ?_)))<;>first|omega|(simp;done)|(simp;omega))
 clear hmk hc h hwi hidi;generalize w.alloc (.cells (aIV .u8 (aDd n)) 5)=W1 at *
 go_loopw [19] (fun s19 wr=>∃(i:Nat) (l:List Nat),i≤n∧s19=.int .i64 i∧l=aCa ff (aDd n) i∧pM wr w.heap.size 5 .u8 l∧Below w.heap.size w wr) (fun s _=>n-(intOf s).toNat)
 case atStart=>exact⟨0,aDd n,by omega,rfl,rfl,hrow,hbel⟩
 case round=>
  clear hrow hbel W1;obtain⟨i,l,hi,rfl,hl,hrow,hbel⟩:=hrel;have hll:l.length=n:=by rw[hl,jQ,aAp]
  have HL:=Lib.hid hl;have HBL:=Lib.hid hbel;by_cases hend:i=n
  ·have hlt:¬(i:Int)<(n:Int):=by omega
   have hst:=aJp (P:=Tryz.prog) wr 160 9 5 ⟨w.heap.size,0,none⟩ n n l Tryz.underlying160 Tryz.underlying5 Tryz.underlying9 hll (fun j hj=>by
    have e1:(⟨w.heap.size,0,none⟩:Addr).add j=⟨w.heap.size,j,none⟩:=by simp[Addr.add];omega
    rw[e1];exact hrow.cell j oW)
   have hres:NB l=B res:=by
    rw[HL.out,hend,aIy _ (aAp n),HR.out];rfl
   rw[hres]at hst;clear hend hres hl hbel hrow
   go_wp2
   go_ret
   exact⟨rfl,HBL.out⟩
  ·have hlt:(i:Int)<(n:Int):=by omega
   have hcl:=hrow.cell i oW;have hfz:=hrow.frozen i;have HROW:=Lib.hid hrow;obtain⟨r,hr⟩:∃r,i%8=r:=⟨_,rfl⟩;have hr8:r<8:=by omega
   obtain⟨s,hs⟩:∃s,7-r=s:=⟨_,rfl⟩;have hsub:(7:Int)-(r:Int)=(s:Int):=by omega
   obtain⟨m,hm⟩:∃m,8*s=m:=⟨_,rfl⟩;have hmul:(8:Int)*(s:Int)=(m:Int):=by omega
   have hm64:(m:Int)<64:=by omega
   have hm0:(0:Int)≤(m:Int):=by omega
   obtain⟨y,hy⟩:∃y,ff i=y:=⟨_,rfl⟩;have hvi:(id:Int)/2^m%256=(y:Int):=by rw[←hy,HF.out,hr,hs,hm];simp
   have hvw:IntKind.u8.wrap ((id:Int)/2^m)=(y:Int):=by rw[←hvi];simp[IntKind.wrap,IntKind.bits,IntKind.signed]
   have htm:(i:Int).tmod 8=(r:Int):=by rw[Et (Int.natCast_nonneg _)];omega
   have HY:=Lib.hid hy;have HR2:=Lib.hid (hrow.set i y);have HB2:=Lib.hid (Below.setCell hbel (show w.heap.size≤(⟨w.heap.size,i,none⟩:Addr).block from Bg _) (.int .u8 (y:Int)));have hs7:s≤7:=by omega
   clear hl hrow hbel hr hs hm hy
   go_wp2
   go_round
   case rel=>exact⟨i+1,l.set i y,by omega,by go_num,by rw[aCa,←HL.out,HY.out],HR2.out,HB2.out⟩
   case measure=>simp[intOf];omega
end Go.Proofs.YtcdjakemdlinhaaGreatDoor.Eng
namespace Go.Proofs.YtcdjakemdlinhaaGreatDoor.Sx
open Go.ChangeShapes Go.WideShapes Go.ChangeAt Go.RowKit Go.Deep
theorem aIJ{l:List Bk}(h:aAP l=0):∀x∈l,cH x=0:=fun x c=>by
 unfold aAP at h;split at h
 ·next y d=>
  have:=Fp d;rw[h]at this;cases this
 ·next a=>
  have:=Fe.1 a x c;simpa using this
open Eng in
theorem size_pos(v:Int):0≤size v∧size v≤64:=by unfold size;(repeat' split)<;>omega
def eP(v:Int):Nat:=(Eng.size v).toNat
theorem aDq(v:Int):eP v≤64:=by have:=(size_pos v).2;unfold eP;omega
theorem aKA(v:Int)(w:World):CP 294 #[.int .i64 v] w (Ret (.int .i64 ((eP v:Nat):Int)) w):=(Eng.aLH v w).mono fun e a h=>⟨by rw[h.1];unfold eP;rw[Int.toNat_of_nonneg (size_pos v).1],h.2▸Below.refl _ _⟩
theorem aIv(a l c n:Nat)(p:Option Addr)(w:World){U:View}(d:See U w)(h:U ⟨a,0,none⟩=some (.slice p l c))(f:l≤1000)(g:n≤100000):CP 293 #[.pointer (some ⟨a,0,none⟩),.int .i64 (n:Int)] w (Ret (.string (B (Eng.dG (l+1) n))) w):=Eng.aKD a l c n p w (d _ _ h) f g
def aQ8(v:Int)(key nonce wth text made tag:List UInt8):List Value:=[.int .i64 v,.string (B key),.string (B nonce),.string (B wth),.string (B text),.string (B made),.string (B tag)]
def aCd(U:View)(eb ib:Nat):Prop:=U ⟨eb,0,none⟩=some (.iface 73 (.pointer (some ⟨ib,0,none⟩)))
theorem aCd.le{U V:View}(h:View.le U V){a c:Nat}(d:aCd U a c):aCd V a c:=h _ _ d
def aNw(ib:Nat):aN:=[(ib,.cells #[.slice none 0 0] 76 (0,0))]
def aLj(r:Value)(V:View)(σ':aN):Prop:=∃eb ib,r=.pointer (some ⟨eb,0,none⟩)∧aCd V eb ib∧σ'=aNw ib
theorem aKt{W0:Cx}{U:View}{a:aN}{W:World}(f:Mem W0 U ([]++a) W):CP 14 #[] W (iQ W0 U a aLj):=by
 refine fU 6 Tryz.func14 f ?_;refine zQ 1 (zn (zQ 1 (fH 0 (fun c=>?_))));refine zq 2 (fH 1 (fun d=>?_));refine gG [(bK c [S0] 76)] ([]++a) d [(.iface 73 (Pt c 0))] 80 kR (fun j h g=>?_);refine zq 1 (zn (aA (aO [0] [(Pt d 0)] (fun k f=>?_))));exact gJ 0 1 (c,.cells #[.slice none 0 0] 76 (0,0)) f h ⟨d,c,rfl,g 0 _ rfl,rfl⟩
theorem aHJ{p:Pr}{l:List Bk}(h:aCl p l=0):aU p l=0∧∃q,aQl l=some q:=by
 unfold aCl at h;split at h
 ·next a=>rw[h]at a;cases a
 ·next a=>
  refine⟨by simpa using a,?_⟩;split at h
  ·cases h
  ·next q c=>exact⟨q,c⟩
theorem aJz{p:Pr}{l:List Bk}(h:aU p l=0):cF p=0∧∀x∈l,cH x=0:=by
 unfold aU sQ at h;split at h
 ·next c=>rw[show([],eN p l).2=eN p l from rfl]at h;rw[h]at c;cases c
 ·next d=>
  have a:eN p l=0:=by simpa using d
  unfold eN at a;split at a
  ·next c=>rw[a]at c;cases c
  ·next c=>exact⟨by simpa using c,aIJ a⟩
theorem aDM{l:List Bk}{t:Int}(h:(fP l t).2=true):(fP l t).1∈l:=by
 unfold fP at h ⊢;split
 ·next x a=>exact List.mem_of_find?_eq_some a
 ·next a=>rw[a]at h;cases h
def aRu(scope:Int):Bool:=if decide (scope≥0)then decide (scope<8)else false
def aRx(A H S:List UInt8)(target scope:Int):List UInt8:=((Itm.aE 0 scope.toNat++(if(if(iY .i64 scope 1 !=0)then(target !=0)else false)then A else[]))++(if(iY .i64 scope 2 !=0)then H else[]))++(if(iY .i64 scope 4 !=0)then S else[])
def rdA(p:Pr)(l:List Bk)(target:Int):List UInt8:=if target !=0&& !(fP l target).2 then[]else if cF p !=0 then[]else eT p.bare
def rdH(p:Pr)(l:List Bk)(target:Int):List UInt8:=if target !=0&& !(fP l target).2 then[]else if cF p !=0 then[]else if target==0 then[]else if cH (fP l target).1 !=0 then[]else aE (fP l target).1
def rdS(p:Pr)(l:List Bk)(target:Int)(sec:Bk):List UInt8:=if target !=0&& !(fP l target).2 then[]else if cF p !=0 then[]else if target !=0&&cH (fP l target).1 !=0 then[]else if cH sec !=0 then[]else aE sec
def rdD(p:Pr)(l:List Bk)(target:Int):List UInt8:=if target !=0&& !(fP l target).2 then[]else if cF p !=0 then[]else if target==0 then eT p.bare else if cH (fP l target).1 !=0 then eT p.bare else Itm.aE 2 (fP l target).1.d.length++(fP l target).1.d
def rdZ(p:Pr)(l:List Bk)(target:Int)(sec:Bk):Int:=if target !=0&& !(fP l target).2 then 15 else if cF p !=0 then cF p else if target !=0&&cH (fP l target).1 !=0 then cH (fP l target).1 else cH sec
def Bk.withD(y:Bk)(d:List UInt8):Bk:=⟨y.t,y.n,y.f,y.c,d⟩
theorem aOy{l:List Bk}{t:Int}(h:(fP l t).2=true):∃(i:Nat) (y:Bk),jN l t=(i:Int)∧l[i]? =some y∧fP l t=(y,true):=by
 have a:¬jN l t<0:=fun a=>by rw[aA1 a]at h;cases h
 obtain⟨c,d⟩:=aGe a;exact⟨(jN l t).toNat,l[(jN l t).toNat],d,Aa c,pA a (Aa c)⟩
theorem aIg{p:Pr}{l:List Bk}{a:Int}{ts:List Int}(h:(aF5 p l a ts !=0)=false):aU p l=0:=by
 have d:aF5 p l a ts=0:=by simpa using h
 unfold aF5 at d;split at d
 ·next c=>rw[d]at c;cases c
 ·next c=>exact(aHJ (by simpa using c)).1
structure oS (U : View) (a : Option Addr) (l : List Bk) : Prop where
 at_:∀i x,l[i]? =some x→∃b f,a=some ⟨b,f,none⟩∧U.range b (f+i*5) x.cs
 f:∀x∈l,x.f<W64
 len:l.length≤maxLen
theorem oS.le{U V:View}(h:View.le U V){a:Option Addr}{l:List Bk}(c:oS U a l):oS V a l:=
 ⟨fun i x g=>by obtain⟨b,f,e,d⟩:=c.at_ i x g;exact⟨b,f,e,View.range_le h d⟩,c.f,c.len⟩
theorem oS.up{U:View}{a:Option Addr}{l:List Bk}(h:oS U a l)(f:l.length≤1000)(d:∀x∈l,x.d.length≤100000):cW U a l:=
 ⟨h.at_,fun x c=>⟨h.f x c,by have:=d x c;unfold R47;omega⟩,by unfold R47;omega⟩
theorem aBp(p:Pr)(l:List Bk)(a:Option Addr)(c:Nat)(num:Int)(w:World){U:View}(G:See U w)(D:oS U a l):CP 9 #[bnV p a l.length c,.int .i64 num] w (Ret (.int .i64 (jN l num)) w):=by
 have g:=D.len;unfold maxLen at g;refine dE 22 Tryz.func9 G ?_;refine zs (zr (aW (fun h=>(zq 1 (zn (zs (zQ 1 (zn (aB (eY (α:=Nat) (fun x=>[1,2,4,5].zip [(I6 num),(Pt h 0),(I6 0),(L6 x)]) (fun x=>U) (fun x=>[(bK h (oO p a l.length c) 29)]) (fun x=>x≤l.length∧aIr num x (l.drop x)=jN l num) (fun x=>l.length-x) 0 ?_ ?_))))))))))
 ·exact⟨Ap _,rfl⟩
 intro x I;obtain⟨J,d⟩:=I;refine zs (zB [0,0,1,0,0] [(h,1)] (zn (cE ((x:Int)<(l.length:Int)) (fun F q=>?_) (fun F q=>?_))))
 ·refine zk (zs (aB (zB [0,1,0] [(h,1)] ?_)));obtain⟨C,f⟩:∃y,(l)[x]? =some y:=⟨(l)[x]'oW,Aa _⟩;obtain⟨j,k,rfl,B⟩:=D.at_ x C f;refine cD (Pt j (k+x*5)) (rIx 38 rfl j k l.length c x 5) ?_;refine zq 1 (zV j (k+x*5+1) (I6 C.n) (B 1 _ rfl) 3 (.tmp 17) _ Tryz.underlying3 rfl ?_);refine zq 2 (zn (fQ C.n num (fun r u=>?_) (fun r u=>?_)))
  ·refine zQ 2 (zn (aA (aO [4] [(L6 x)] (fun E A=>?_))));refine⟨?_,A.below⟩;rw[←d,sU f,Ar r];rfl
  ·refine zk (zr (zq 2 (eC 12 ((x:Int)+1) (zq 1 (zn ?_)))));refine nx (x+1) ?_ ?_
   ·exact⟨by omega,by rw[←d,sU f,An (by rw[r];exact Bn)]⟩
   ·show l.length-(x+1)<l.length-x;omega
 ·refine aK (zQ 1 (zn (aA (aO [4] [(I6 (-1))] (fun E A=>?_)))));refine⟨?_,A.below⟩;rw[←d,eI oW];rfl
def aBK(e:Ei):Bool:=decide ((e.l.length:Int)≤100)
theorem qL(e:Ei)(w:World):CP 32 #[e.V] w (Ret (.bool (aBK e)) w):=by
 refine dI 7 Tryz.func32 ?_;refine zs (zr (aW (fun a=>(zq 1 (zn (zB [0,1,0,0,0] [(a,1)] (zn (aA (iZ 2)))))))))
def aDN(p:Pr):Bool:=aBK p.dst&&aBK p.src&&aBK p.rpt
theorem aCt(p:Pr)(w:World):CP 79 #[p.V] w (Ret (.bool (aDN p)) w):=by
 refine dI 16 Tryz.func79 ?_;refine zs (zr (aW (fun d=>(zq 1 (zn (zB [0,1] [(d,4)] (dK (fun W a=>qL p.dst W) (zq 1 (cN 6 (aBK p.dst) (fun c=>?_) (fun c=>?_))))))))))
 ·refine cG [0,1] [(d,4)] (dK (fun W a=>qL p.src W) (zq 2 (cN 11 (aBK p.src) (fun f=>?_) (fun f=>?_))))
  ·refine cG [0,1] [(d,4)] (dK (fun W a=>qL p.rpt W) (zq 2 (zn (aA (aO [2] [(.bool (aBK p.rpt))] (fun g a=>?_))))));exact⟨by simp only[dC,aDN,c,f,bs,bQ,reduceIte],a.below⟩
  ·refine zq 5 (zn (aA (aO [2] [(.bool false)] (fun g a=>?_))));exact⟨by simp only[dC,aDN,c,f,bs,bQ,reduceIte],a.below⟩
 ·refine zq 10 (zn (aA (aO [2] [(.bool false)] (fun g a=>?_))));exact⟨by simp only[dC,aDN,c,bs,bQ,reduceIte],a.below⟩
def aIL(x:Bk):Bool:=decide ((x.d.length:Int)>4100)
def aAO(p:Pr)(l:List Bk):Bool:=(l.take 30).all (fun x=> !aIL x)&&decide ((l.length:Int)≤20)&&aDN p
theorem aCU{l:List Bk}{i:Nat}{y:Bk}(h:l[i]? =some y)(a:i<30):((l.drop i).take (30-i)).all (fun x=> !aIL x)=(!aIL y&&((l.drop (i+1)).take (30-(i+1))).all (fun x=> !aIL x)):=by
 rw[fN h,show 30-i=(30-(i+1))+1 by omega,Ed,Dm]
theorem aHX(p:Pr)(l:List Bk)(a:Option Addr)(c:Nat)(w:World){U:View}(X:See U w)(N:oS U a l):CP 31 #[bnV p a l.length c] w (Ret (.bool (aAO p l)) w):=by
 have k:=N.len;unfold maxLen at k;refine dE 32 Tryz.func31 X ?_;refine zs (zr (aW (fun h=>(zq 1 (zn (zs (zQ 1 (zn (aB (eY (α:=Nat) (fun x=>[1,2,3].zip [(Pt h 0),(.bool false),(L6 x)]) (fun x=>U) (fun x=>[(bK h (oO p a l.length c) 29)]) (fun x=>x≤l.length∧x≤30∧((l.drop x).take (30-x)).all (fun x=> !aIL x)=(l.take 30).all (fun x=> !aIL x)) (fun x=>l.length-x) 0 ?_ ?_))))))))))
 ·exact⟨Ap _,Ap _,rfl⟩
 intro x Y;obtain⟨Z,a1,f⟩:=Y;refine zs (zB [0,0,1,0,0,0] [(h,1)] (jV 9 ((x:Int)<(l.length:Int)) (fun O B=>?_) (fun O B=>?_)))
 ·refine zq 3 (zn (cE ((x:Int)<30) (fun V C=>?_) (fun V C=>?_)))
  ·refine zk (zs (aB (zB [0,1,0] [(h,1)] ?_)));obtain⟨q,j⟩:∃y,(l)[x]? =some y:=⟨(l)[x]'oW,Aa _⟩;obtain⟨u,A,rfl,L⟩:=N.at_ x q j;refine cD (Pt u (A+x*5)) (rIx 38 rfl u A l.length c x 5) ?_;refine zq 1 (zV u (A+x*5+4) (St q.d) (L 4 _ rfl) 9 (.tmp 19) _ Tryz.underlying9 rfl ?_);refine zq 2 (zn (cE ((((q.d).length:Nat):Int)>4100) (fun D E=>?_) (fun D E=>?_)))
   ·refine zQ 1 (zn (aA (aO [2] [(.bool false)] (fun r g=>?_))));refine⟨?_,g.below⟩;unfold aAO;have M:aIL q=true:=D;rw[←f,aCU j oW,M];rfl
   ·refine zk (zr (zq 2 (eC 14 ((x:Int)+1) (zq 1 (zn ?_)))));refine nx (x+1) ?_ ?_
    ·exact⟨by omega,by omega,by have M:aIL q=false:=D;rw[←f,aCU j oW,M];rfl⟩
    ·show l.length-(x+1)<l.length-x;omega
  ·refine aK (zB [0,1,0,0,0] [(h,1)] (jV 27 ((l.length:Int)≤20) (fun F G=>?_) (fun F G=>?_)))
   ·refine cG [0,1] [(h,19)] (dK (fun W g=>aCt p W) (zq 2 (zn (aA (aO [2] [(.bool (aDN p))] (fun r g=>?_))))));refine⟨?_,g.below⟩;unfold aAO;have d:(l.take 30).all (fun x=> !aIL x)=true:=by
     rw[←f];by_cases K:x=l.length
     ·rw[eI oW,Gi];rfl
     ·rw[show 30-x=0 by omega,Da];rfl
    simp only[dC,d,F,bs,bQ,reduceIte]
   ·refine zq 5 (zn (aA (aO [2] [(.bool false)] (fun r g=>?_))));refine⟨?_,g.below⟩;unfold aAO;have d:(l.take 30).all (fun x=> !aIL x)=true:=by
     rw[←f];by_cases K:x=l.length
     ·rw[eI oW,Gi];rfl
     ·rw[show 30-x=0 by omega,Da];rfl
    simp only[dC,d,F,bs,bQ,reduceIte]
 ·refine zq 3 (zn (dD (aK (zB [0,1,0,0,0] [(h,1)] (jV 27 ((l.length:Int)≤20) (fun I J=>?_) (fun I J=>?_))))))
  ·refine cG [0,1] [(h,19)] (dK (fun W g=>aCt p W) (zq 2 (zn (aA (aO [2] [(.bool (aDN p))] (fun r g=>?_))))));refine⟨?_,g.below⟩;unfold aAO;have d:(l.take 30).all (fun x=> !aIL x)=true:=by
    rw[←f];by_cases K:x=l.length
    ·rw[eI oW,Gi];rfl
    ·rw[show 30-x=0 by omega,Da];rfl
   simp only[dC,d,I,bs,bQ,reduceIte]
  ·refine zq 5 (zn (aA (aO [2] [(.bool false)] (fun r g=>?_))));refine⟨?_,g.below⟩;unfold aAO;have d:(l.take 30).all (fun x=> !aIL x)=true:=by
    rw[←f];by_cases K:x=l.length
    ·rw[eI oW,Gi];rfl
    ·rw[show 30-x=0 by omega,Da];rfl
   simp only[dC,d,I,bs,bQ,reduceIte]
theorem aGi{p:Pr}{l:List Bk}(h:aAO p l=true):l.length≤20∧(∀x∈l,x.d.length≤4100):=by
 unfold aAO at h;simp only[Ae,Ak]at h;refine⟨by omega,fun x a=>?_⟩;have:=Ao.1 h.1.1 x (by rw[Bf oW];exact a);unfold aIL at this;simp only[Bi,decide_eq_false_iff_not]at this;omega
theorem aBo(p:Pr)(l:List Bk)(a r:Option Addr)(c u:Nat)(w:World){U:View}(J:See U w)(E:cW U a l)(C:cW U r l):CP 15 #[bnV p a l.length c,bnV p r l.length u] w (Ret (.bool true) w):=by
 have q:=E.len;unfold R47 at q;have D:((l.length:Int) !=(l.length:Int))=false:=by simp
 refine dE 38 Tryz.func15 J ?_;refine zs (zr (aW (fun j=>(aW (fun k=>(zq 1 (zn (zs (zB [0,1,0,2] [(j,19),(k,19)] (cD (.bool false) (aLL _ _ _ rfl p kR kR) ?_))))))))));refine cG [0,0,1,0,0,2,0,0] [(j,1),(k,1)] (dS 18 (.bool ((l.length:Int) !=(l.length:Int))) (.bool false) (Ag Value.bool D) ?_);refine zq 1 (zn (dD (zk (zs (zQ 1 (zn (aB (eY (α:=Nat) (fun x=>[2,3,4,5].zip [(Pt j 0),(Pt k 0),(.bool false),(L6 x)]) (fun x=>U) (fun x=>[(bK j (oO p a l.length c) 29),(bK k (oO p r l.length u) 29)]) (fun x=>x≤l.length) (fun x=>l.length-x) 0 ?_ ?_))))))))
 ·exact Ap _
 intro x K;refine zs (zB [0,0,1,0,0] [(j,1)] (zn (cE ((x:Int)<(l.length:Int)) (fun G I=>?_) (fun G _=>?_))))
 ·refine zk (zs (aB (zs ?_)));obtain⟨y,F⟩:∃y,l[x]? =some y:=⟨l[x]'oW,Aa _⟩;obtain⟨d,g,rfl,A⟩:=E.at_ x y F;obtain⟨f,h,rfl,B⟩:=C.at_ x y F;refine iM 3 [0,3,0,1,1,0,4,0,1,1] [(j,1),(k,1)] [.val (Pt d (g+x*5)),.val (y.V),.val (Pt f (h+x*5)),.val (y.V)] ⟨?_,?_,?_,?_,trivial⟩ ?_
  ·exact vR (rIx 38 rfl d g l.length c x 5)
  ·exact vU d (g+x*5) y.cs A 38 _ _ Tryz.underlying38 rfl
  ·exact vR (lR _ 38 _ _ rfl f h l.length u x 5 .i64 kR kR (by first|assumption|omega) kR kR)
  ·exact vU f (h+x*5) y.cs B 38 _ _ Tryz.underlying38 rfl
  refine cD (.bool false) (aLM _ _ _ rfl y.t y.n (y.f:Int) y.c y.d kR kR) ?_;refine zn (dD (zk (zr (zq 2 (eC 26 ((x:Int)+1) (zq 1 (zn ?_)))))));refine nx (x+1) ?_ ?_
  ·show x+1≤_;omega
  ·show l.length-(x+1)<l.length-x;omega
 ·refine aK (zQ 1 (zn (aA (iZ 4))))
def aQY(p:Pr)(l:List Bk)(v:Value)(V:View):Prop:=∃a c,v=bnV p a l.length c∧cW V a l∧l.length≤c
theorem aFJ{U:View}{b f:Nat}{c:List Value}(h:U.range b f c)(n:Nat):U.range b (f+n) (c.drop n):=fun j v a=>by
 rw[Ej]at a;have:=h (n+j) v a;rwa[←Dt]at this
theorem aFI{U:View}{b f:Nat}{c:List Value}(h:U.range b f c)(n:Nat):U.range b f (c.take n):=fun j v a=>by
 rw[Ek]at a;split at a
 ·exact h j v a
 ·cases a
theorem aOF{V:View}{a:Option Addr}{f:List Value}{l:List Bk}(h:aAn V a f)(e:f=l.flatMap Bk.cs)(d:∀x∈l,x.ok)(c:l.length≤R47):cW V a l:=by
 subst e;cases l with
 |nil=>exact⟨fun i x j=>by simp at j,d,c⟩
 |cons y r=>
  obtain⟨b,e,g⟩:=h.at_ (by rw[Bu];simp[Bk.cs]);subst e;exact cW.of g d c
def fL(l m:List Bk)(i k:Nat):List Bk:=l.take i++m++l.drop (i+k)
structure Rz where
 r:Rw
 xs:List Value
 n:Nat
theorem aEm(p:Pr)(l m:List Bk)(i k:Nat)(a aM:Option Addr)(c cM:Nat)(w:World){U:View}(hU:See U w)(hl:cW U a l)(hm:cW U aM m)(c2:l≠[])(h6:i+k≤l.length)(hc:l.length≤c)(h7:l.length≤1000000)(h3:m.length≤1000000):CP 12 #[bnV p a l.length c,.int .i64 (i:Int),.int .i64 (k:Int),.slice aM m.length cM] w (fO w U (aQY p (fL l m i k))):=by
 obtain⟨b,f,rfl,hr⟩:=hl.openR c2;have X:∀x∈fL l m i k,x.ok:=fun x B=>by
  unfold fL at B;rcases Dh.1 B with B|B
  ·rcases Dh.1 B with B|B
   ·exact hl.ok x (Ea B)
   ·exact hm.ok x B
  ·exact hl.ok x (Dd B)
 have I:(fL l m i k).length=i+m.length+(l.length-(i+k)):=by
  unfold fL;rw[Ac,Ac,Bb,Aq];omega
 have Y:(l.take i).length=i:=by rw[Bb];omega
 have V:(l.drop (i+k)).length=l.length-(i+k):=Aq;have c9:U.range b f ((l.take i).flatMap Bk.cs):=by rw[←sX];exact aFI hr _
 have e0:U.range b (f+(i+k)*5) ((l.drop (i+k)).flatMap Bk.cs):=by rw[←sY];exact aFJ hr _
 refine dE 31 Tryz.func12 hU ?_;refine zs (zr (aW (fun r=>(aW (fun u=>(zn (zQ 1 (zn ?_))))))));refine dH (α:=Rz) (fun g=>[1,2,3,4,8,9].zip [(L6 i),(L6 k),(.slice aM m.length cM),(Pt r 0),(Pt u 0),(g.r.V g.n)]) (fun g=>U) (fun g=>([(bK r (oO p (some ⟨b,f,none⟩) l.length c) 29),(u,.cells Z20.toArray 29 (0,0))]++g.r.B 38 g.xs)) (fun g=>g.r.ok 5 g.n g.xs∧(g.n=i∧g.xs=(l.take i).flatMap Bk.cs)) ?_ ?_
 ·refine zr (cG [0,0,1,0] [(r,1)] (cD (Sl b f i c) (gU 27 38 (.tmp 12) none (some (.tmp 13)) none rfl b f l.length c 0 i c 5 i c f kR eR eR eR (by decide) oW oW oW oW oW (by first|rfl|(split<;>omega)) Tryz.underlying27 kR) ?_));rcases Ax (decide (0<i))with N|N
  ·have b3:=Bj N;refine gW Rw.nil [] 0 [(bK r (oO p (some ⟨b,f,none⟩) l.length c) 29),(u,.cells Z20.toArray 29 (0,0))] 38 27 5 48 i aQ6 (Rw.ok_nil 5) (.tmp 10) (.tmp 14) rfl kR b f c ((l.take i).flatMap Bk.cs) kR (fun W J=>View.range_of c9 J.view) ((rU _).trans (Ag (· *5) Y)) (qE _) (Bj N) (by unfold maxLen;omega) oW kR kR kR kR kR (fun r2 c4=>?_);refine zq 1 (zn ?_);refine jn ⟨r2,([]++((l.take i).flatMap Bk.cs)),(0+i)⟩ ?_;exact⟨c4,by show(0+i)=_;omega,by show([]++((l.take i).flatMap Bk.cs))=_;simp only[fL,Bz,Du,Ch,Aj]⟩
  ·have b3:=Au N;have C:i=0:=by have:=Au N;omega
   have b9:(l.take i)=[]:=Be.1 (Y.trans C);refine cD (S0) (by exact rH 27 38 5 _ _ rfl none (some ⟨b,f,none⟩) 0 0 c kR (zE C) (Bg _) Tryz.underlying27 kR) ?_;refine zq 1 (zn ?_);refine jn ⟨Rw.nil,[],0⟩ ?_ (d:=fun _ h=>h.eqv (Dn kR (Aj ([(bK r (oO p (some ⟨b,f,none⟩) l.length c) 29),(u,.cells Z20.toArray 29 (0,0))]:aN)).symm));exact⟨Rw.ok_nil 5,by show 0=_;omega,by show[]=_;simp only[b9,fL,Bz,Du,Ch,Aj]⟩
 intro g e2;obtain⟨y,h4,D⟩:=e2;refine dH (α:=Rz) (fun j=>[1,2,4,8,9].zip [(L6 i),(L6 k),(Pt r 0),(Pt u 0),(j.r.V j.n)]) (fun j=>U) (fun j=>([(bK r (oO p (some ⟨b,f,none⟩) l.length c) 29),(u,.cells Z20.toArray 29 (0,0))]++j.r.B 38 j.xs)) (fun j=>j.r.ok 5 j.n j.xs∧(j.n=i+m.length∧j.xs=(l.take i++m).flatMap Bk.cs)) ?_ ?_
 ·refine zr (zq 2 ?_);rcases Ax (decide (0<m.length))with L|L
  ·have b4:=Bj L;obtain⟨bM,fM,rfl,e1⟩:=hm.openR (by rintro rfl;have:=Bj L;simp at this);refine lN 2 38 27 48 m.length cM y (fun W J=>View.range_of e1 J.view) ((rU _).trans (Ag (· *5) (Eq.refl m.length))) (qE _) (Bj L) (fun r4 c6=>?_);refine zq 1 (zn ?_);refine jn ⟨r4,(g.xs++(m.flatMap Bk.cs)),(g.n+m.length)⟩ ?_;exact⟨c6,by show(g.n+m.length)=_;omega,by show(g.xs++(m.flatMap Bk.cs))=_;simp only[D,fL,Bz,Du,Ch,Aj]⟩
  ·have b4:=Au L;have a1:m.length=0:=by have:=Au L;omega
   have c0:m=[]:=Be.1 ((Eq.refl m.length).trans a1);obtain⟨e4,e6,a7,e8⟩:=Rw.formC y;refine cD ((g.r.V g.n)) (fun W=>(rH 27 38 5 _ _ rfl e4 aM g.n e6 cM (zX a7) (zE a1) e8 Tryz.underlying27 kR W).trans (by rw[a7])) ?_;refine zq 1 (zn ?_);refine jn ⟨g.r,g.xs,g.n⟩ ?_;exact⟨y,by show g.n=_;omega,by show g.xs=_;simp only[c0,D,fL,Bz,Du,Ch,Aj]⟩
 intro j e3;obtain⟨A,h5,E⟩:=e3;refine dH (α:=Rz) (fun q=>[4,8,9].zip [(Pt r 0),(Pt u 0),(q.r.V q.n)]) (fun q=>U) (fun q=>([(bK r (oO p (some ⟨b,f,none⟩) l.length c) 29),(u,.cells Z20.toArray 29 (0,0))]++q.r.B 38 q.xs)) (fun q=>q.r.ok 5 q.n q.xs∧(q.n=i+m.length+(l.length-(i+k))∧q.xs=(fL l m i k).flatMap Bk.cs)) ?_ ?_
 ·refine zr (cG [0,0,1,0,0,0] [(r,1)] (dS 24 (I6 (IntKind.i64.wrap ((i:Int)+(k:Int)))) (L6 (i+k)) (Ag (Value.int .i64) (by rw[IntWalk.i64_in _ oW];omega)) ?_));refine cD (.slice (some ⟨b,(if c=(i+k)then f else f+(i+k)*5),none⟩) (l.length-(i+k)) (c-(i+k))) (gU 27 38 (.tmp 21) (some (.tmp 24)) none none rfl b f l.length c (i+k) l.length c 5 (l.length-(i+k)) (c-(i+k)) (if c=(i+k)then f else f+(i+k)*5) kR eR eR eR (by decide) oW oW oW oW oW (by first|rfl|(split<;>omega)) Tryz.underlying27 kR) ?_;rcases Ax (decide (0<(l.length-(i+k))))with M|M
  ·have b5:=Bj M;refine lN 2 38 27 48 (l.length-(i+k)) (c-(i+k)) A (fun W J=>View.range_of (show U.range b (if c=(i+k)then f else f+(i+k)*5) _ by rw[An (by have:=Bj M;omega)];exact e0) J.view) ((rU _).trans (Ag (· *5) V)) (qE _) (Bj M) (fun r6 c7=>?_);refine zq 1 (zn ?_);refine jn ⟨r6,(j.xs++((l.drop (i+k)).flatMap Bk.cs)),(j.n+(l.length-(i+k)))⟩ ?_;exact⟨c7,by show(j.n+(l.length-(i+k)))=_;omega,by show(j.xs++((l.drop (i+k)).flatMap Bk.cs))=_;simp only[E,fL,Bz,Du,Ch,Aj]⟩
  ·have b5:=Au M;have a6:(l.length-(i+k))=0:=by have:=Au M;omega
   have c1:(l.drop (i+k))=[]:=Be.1 (V.trans a6);obtain⟨e5,e7,b2,e9⟩:=Rw.formC A;refine cD ((j.r.V j.n)) (fun W=>(rH 27 38 5 _ _ rfl e5 (some ⟨b,(if c=(i+k)then f else f+(i+k)*5),none⟩) j.n e7 (c-(i+k)) (zX b2) (zE a6) e9 Tryz.underlying27 kR W).trans (by rw[b2])) ?_;refine zq 1 (zn ?_);refine jn ⟨j.r,j.xs,j.n⟩ ?_;exact⟨A,by show j.n=_;omega,by show j.xs=_;simp only[c1,E,fL,Bz,Du,Ch,Aj]⟩
 intro q C;obtain⟨G,F,Z⟩:=C;refine zs (zr ?_);refine lA q.r q.xs 5 q.n [(bK r (oO p (some ⟨b,f,none⟩) l.length c) 29),(u,.cells Z20.toArray 29 (0,0))] 38 kR G (fun a8 c8 V8 b7 b6 O=>?_);rw[O];refine cG [0,1,0,0] [(r,19)] (aX 1 u (zn (aA (dL [2] [(u,20)] [(bnV p a8 q.n c8)] (fun W' J=>?_)))));obtain⟨aC,cC,K,b8⟩:=Rw.formC G;rw[O]at K;simp only[Value.slice.injEq,Fm]at K;refine aH J b7 ⟨a8,c8,?_,aOF b6 Z X (by rw[I];unfold R47;omega),by rw[K.2,I,←F];exact b8⟩;rw[I,←F];rfl
theorem rK(p:Pr)(l m:List Bk)(i k:Nat)(a f:Option Addr)(c r:Nat)(w:World){U:View}(I:See U w)(K:cW U a l)(hm:cW U f m)(j:l≠[])(g:i+k≤l.length)(J:l.length≤c)(q:l.length≤1000000)(d:m.length≤1000000):CP 12 #[bnV p a l.length c,.int .i64 (i:Int),.int .i64 (k:Int),.slice f m.length r] w (fO w U (aB3 p (fL l m i k))):=
 (aEm p l m i k a f c r w I K hm j g J q d).mono fun e L h=>by
  obtain⟨v,u,A,B,C,D,E,x,y,F,G,_⟩:=h;exact⟨v,u,A,B,C,D,E,x,y,F,G⟩
def aF:Pr:=⟨0,0,⟨2,[],2,0⟩,⟨2,[],1,0⟩,⟨1,[110,111,110,101],0,0⟩,5,0,100,0,0⟩
def dR:Bk:=⟨1,1,0,0,[104,105]⟩
theorem aA7:aU aF [dR]=0:=by kernel_rfl
theorem aGF:aQl [dR]=some []:=rfl
theorem aI0:aQm aF [dR] []=0:=by kernel_rfl
theorem aHC:aCl aF [dR]=0:=by
 unfold aCl;rw[aA7,aGF];exact aI0
theorem aI1:(iY .u64 (aF.f:Int) 1 !=0)=false:=by kernel_rfl
theorem rZ:mE [dR]=2:=by kernel_rfl
theorem aI2:aI aF.src=true:=by kernel_rfl
theorem aGS:aF.ok:=by
 constructor<;>first|(constructor<;>decide)|decide
theorem aOx{l:List Bk}{t:Int}(h:decide (jN l t<0)=false):∃i:Nat,jN l t=(i:Int)∧i<l.length:=by
 have a:=Au h;obtain⟨c,d⟩:=aGe a;exact⟨_,d,c⟩
structure Ei.ok0 (e : Ei) : Prop where
 n:e.n<W64
 v:e.v<W64
structure Pr.ok0 (p : Pr) : Prop where
 f:p.f<W64
 dst:p.dst.ok0
 src:p.src.ok0
 rpt:p.rpt.ok0
 time:p.time<W64
 seq:p.seq<W64
 life:p.life<W64
 off:p.off<W64
 tot:p.tot<W64
theorem Ei.ok0.up{e:Ei}(h:e.ok0)(a:aBK e=true):e.ok:=⟨by unfold aBK at a;have:=Bj a;unfold R47;omega,h.n,h.v⟩
theorem Pr.ok0.up{p:Pr}(h:p.ok0)(a:aDN p=true):p.ok:=by
 unfold aDN at a;simp only[Ae]at a;exact⟨h.f,h.dst.up a.1.1,h.src.up a.1.2,h.rpt.up a.2,h.time,h.seq,h.life,h.off,h.tot⟩
theorem aIZ{l:List Bk}{i:Nat}{x:Bk}(a:i<l.length):fL l [x] i 1=l.set i x:=by
 unfold fL;rw[List.set_eq_take_append_cons_drop,Ar a,Al];rfl
end Go.Proofs.YtcdjakemdlinhaaGreatDoor.Sx
namespace Go.Proofs.YtcdjakemdlinhaaGreatDoor.Sx
open Go.ChangeShapes Go.WideShapes Go.ChangeAt Go.RowKit
section
variable {H:Type} {enc:TypeId×Value→H} {W:World} {base:Nat} {v0:Value} {d0:DataW H} {p0:List MemPlace}
theorem jC{m:Int}(h:(Lit.int .u64 m).wf=true):∃k:Nat,m=(k:Int)∧k<W64:=by
 simp[Lit.wf,IntKind.min,IntKind.max,IntKind.signed,IntKind.bits]at h;exact⟨m.toNat,by omega,by unfold W64;omega⟩
def aPG:List TypeId:=[22,3,3,9,22,22,3,9,22,22,3,9,22,22,22,22,22,22,22]
def aRa:List TypeId:=[3,3,22,3,9]
theorem aOe{cs:List Value}(h:aLr (qG enc Tryz.prog W) aPG cs):∃r:Pr,cs=r.cs∧r.ok0:=by
 obtain⟨c0,_,rfl,h0,c1,_,rfl,h1,c2,_,rfl,h2,c3,_,rfl,h3,c4,_,rfl,h4,c5,_,rfl,h5,c6,_,rfl,h6,c7,_,rfl,h7,c8,_,rfl,h8,c9,_,rfl,h9,a8,_,rfl,a,b0,_,rfl,c,b1,_,rfl,d,b2,_,rfl,f,b3,_,rfl,g,b4,_,rfl,j,b5,_,rfl,k,b6,_,rfl,q,b7,_,rfl,u,rfl⟩:=h;obtain⟨x0,rfl,w0⟩:=h0.int Tryz.underlying22;obtain⟨x1,rfl,_⟩:=h1.int Tryz.underlying3;obtain⟨x2,rfl,_⟩:=h2.int Tryz.underlying3;obtain⟨x3,rfl,_⟩:=h3.str Tryz.underlying9;obtain⟨x4,rfl,w4⟩:=h4.int Tryz.underlying22;obtain⟨x5,rfl,w5⟩:=h5.int Tryz.underlying22;obtain⟨x6,rfl,_⟩:=h6.int Tryz.underlying3;obtain⟨x7,rfl,_⟩:=h7.str Tryz.underlying9;obtain⟨x8,rfl,w8⟩:=h8.int Tryz.underlying22;obtain⟨x9,rfl,w9⟩:=h9.int Tryz.underlying22;obtain⟨a6,rfl,_⟩:=a.int Tryz.underlying3;obtain⟨a7,rfl,_⟩:=c.str Tryz.underlying9;obtain⟨b8,rfl,N⟩:=d.int Tryz.underlying22;obtain⟨b9,rfl,O⟩:=f.int Tryz.underlying22;obtain⟨e0,rfl,V⟩:=g.int Tryz.underlying22;obtain⟨e1,rfl,X⟩:=j.int Tryz.underlying22;obtain⟨e2,rfl,Y⟩:=k.int Tryz.underlying22;obtain⟨e3,rfl,Z⟩:=q.int Tryz.underlying22;obtain⟨e4,rfl,a1⟩:=u.int Tryz.underlying22;obtain⟨n0,rfl,l0⟩:=jC w0;obtain⟨n4,rfl,l4⟩:=jC w4;obtain⟨n5,rfl,l5⟩:=jC w5;obtain⟨n8,rfl,l8⟩:=jC w8;obtain⟨n9,rfl,l9⟩:=jC w9;obtain⟨F,rfl,x⟩:=jC N;obtain⟨G,rfl,y⟩:=jC O;obtain⟨I,rfl,A⟩:=jC V;obtain⟨J,rfl,B⟩:=jC X;obtain⟨K,rfl,C⟩:=jC Y;obtain⟨L,rfl,D⟩:=jC Z;obtain⟨M,rfl,E⟩:=jC a1;exact⟨⟨n0,x1,⟨x2,x3,n4,n5⟩,⟨x6,x7,n8,n9⟩,⟨a6,a7,F,G⟩,I,J,K,L,M⟩,rfl,⟨l0,⟨l4,l5⟩,⟨l8,l9⟩,⟨x,y⟩,A,B,C,D,E⟩⟩
theorem aP5{cs:List Value}(h:aLr (qG enc Tryz.prog W) aRa cs):∃r:Bk,cs=r.cs∧r.f<W64:=by
 obtain⟨B,_,rfl,a,C,_,rfl,c,D,_,rfl,d,E,_,rfl,f,F,_,rfl,g,rfl⟩:=h;obtain⟨u,rfl,_⟩:=a.int Tryz.underlying3;obtain⟨x,rfl,_⟩:=c.int Tryz.underlying3;obtain⟨G,rfl,q⟩:=d.int Tryz.underlying22;obtain⟨y,rfl,_⟩:=f.int Tryz.underlying3;obtain⟨A,rfl,_⟩:=g.str Tryz.underlying9;obtain⟨k,rfl,j⟩:=jC q;exact⟨⟨u,x,k,y,A⟩,rfl,j⟩
theorem aHv{ok : Bk → Prop} : ∀ {css : List (List Value)}, (∀ cs ∈ css, ∃ r : Bk, cs = r.cs ∧ ok r) → ∃ d : List Bk, css = d.map Bk.cs ∧ ∀ r ∈ d, ok r
 | [],_=>⟨[],rfl,fun r h=>by cases h⟩
 |cs::css,h=>by
  obtain⟨r,q,f⟩:=h cs (Ck ..);obtain⟨d,g,a⟩:=aHv (css:=css) fun c k=>h c (Ce _ k)
  refine⟨r::d,by rw[q,g];rfl,fun x j=>?_⟩;rcases Bh.1 j with rfl|j
  ·exact f
  ·exact a x j
theorem aB0{α β : Type}{R : α → β → Prop} : ∀ {f vs : List α} {cs : List β}, aLr R (f ++ vs) cs → ∃ a d, cs = a ++ d ∧ aLr R f a ∧ aLr R vs d
 | [],vs,cs,h=>⟨[],cs,rfl,rfl,h⟩
 |u::f,vs,cs,⟨c,r,e,x,y⟩=>by
  obtain⟨g,j,rfl,k,q⟩:=aB0 y;exact⟨c::g,j,by rw[e];rfl,⟨c,g,rfl,x,k⟩,q⟩
theorem aP6{v:Value}{l:List Bk}(h:aNt W v 5 (l.map Bk.cs))(q:∀x∈l,x.f<W64):∃a c,v=.slice a l.length c∧oS (aQb W) a l∧l.length≤c:=by
 obtain⟨k,a,c,rfl,g,_,d⟩:=h;rw[Az]at k g;refine⟨a,c,by rw[Az],⟨fun i x f=>?_,q,k⟩,g⟩;rcases d with d|⟨b,o,rfl,_,d⟩
 ·rw[List.map_eq_nil_iff.1 d]at f;cases f
 ·refine⟨b,o,rfl,fun j u r=>?_⟩;have:=d i x.cs (by rw[Cs,f];rfl) j u r;rw[show o+i*5+j=o+(i*5+j) by omega];exact this
set_option maxRecDepth 100000 in
theorem aOE{v:Value}(h:qG enc Tryz.prog W 27 v):∃(l:List Bk) (a:Option Addr) (c:Nat),v=.slice a l.length c∧oS (aQb W) a l∧l.length≤c:=by
 obtain⟨n,z,r,j⟩:=h;obtain⟨q,f,d⟩:=aN2 aRa r j Tryz.underlying27 kR kR (by decide);obtain⟨l,rfl,k⟩:=aHv fun cs g=>aP5 (d cs g)
 exact⟨l,aP6 f k⟩
set_option maxRecDepth 100000 in
theorem aF3(u : Value.okWide Tryz.prog W .any base 29 v0)
  (r:DataW.Trod enc Tryz.prog W 0 (fun _=>true) true 29 v0 d0 p0) (d:∀p∈p0,p.block<W.heap.size):
  ∃(p:Pr) (l:List Bk) (a:Option Addr) (c:Nat),v0=bnV p a l.length c∧p.ok0∧oS (aQb W) a l∧l.length≤c:=by
 obtain⟨cs,rfl,h⟩:=aEH (aPG++[27]) u r d kR kR kR;obtain⟨x,y,rfl,f,v,_,rfl,g,rfl⟩:=aB0 h;obtain⟨p,rfl,q⟩:=aOe f;obtain⟨l,a,c,rfl,k,j⟩:=aOE g;exact⟨p,l,a,c,rfl,q,k,j⟩
end
section
variable {H:Type} {enc:TypeId×Value→H} {W:World} {base:Nat} {v0:Value} {d0:DataW H} {p0:List MemPlace}
set_option maxRecDepth 100000 in
theorem aId(g : Value.okWide Tryz.prog W .any base 62 v0)
  (f:DataW.Trod enc Tryz.prog W 0 (fun _=>true) true 62 v0 d0 p0) (a:∀p∈p0,p.block<W.heap.size):
  ∃(x y:Int),v0=.agg #[.int .i64 x,.int .i64 y]:=by
 obtain⟨cs,rfl,k,_,rfl,c,q,_,rfl,d,rfl⟩:=aEH [3,3] g f a kR kR kR;obtain⟨h,rfl,_⟩:=c.int Tryz.underlying3;obtain⟨j,rfl,_⟩:=d.int Tryz.underlying3;exact⟨h,j,rfl⟩
end
end Go.Proofs.YtcdjakemdlinhaaGreatDoor.Sx
namespace Go.Proofs.YtcdjakemdlinhaaGreatDoor.Sx
open Go.ChangeShapes Go.WideShapes Go.ChangeAt Go.RowKit Go.Deep
theorem dgB(m:Nat):UInt8.ofNat (IntKind.u8.wrap ((m:Int).tmod 256)).toNat=UInt8.ofNat m:=by
 have a:((m:Int).tmod 256)=((m%256:Nat):Int):=by
  rw[Et oW];simp
 rw[a,u8_in oW oW,Cr];apply UInt8.toNat_inj.1;simp
theorem aOC{n x m:Nat}(hm:m=n/256^x):[UInt8.ofNat (IntKind.u8.wrap ((m:Int).tmod 256)).toNat]++Itm.dg n x=Itm.dg n (x+1):=by
 rw[dgB,hm];rfl
theorem u64_quo(m:Nat)(hm:m<W64):IntKind.u64.wrap ((m:Int).tdiv 256)=((m/256:Nat):Int):=by
 have a:((m:Int).tdiv 256)=((m/256:Nat):Int):=by
  rw[Int.tdiv_eq_ediv_of_nonneg oW];simp
 rw[a];unfold W64 at hm;exact u64_in oW oW
theorem oX(n k:Nat)(y:n<W64)(E:k≤8)(w:World):CP 152 #[.int .u64 (n:Int),.int .i64 (k:Int)] w (Ret (.string (B (Itm.dg n k))) w):=by
 refine dI 22 Tryz.func152 ?_;refine zQ 1 (zn (zQ 1 (zn (zs (zQ 1 (zn (aB (eY (α:=Nat×Nat) (fun x=>[0,1,4,5,6].zip [(N6 x.2),(I6 (k:Int)),(St []),(St (Itm.dg n x.1)),(L6 x.1)]) (fun x=>View.no) (fun x=>[]) (fun x=>x.1≤k∧x.2=n/256^x.1) (fun x=>k-x.1) (0,n) ?_ ?_))))))))
 ·exact⟨Ap _,by simp⟩
 intro x A;obtain⟨C,a⟩:=A;have u:=Itm.eW n x.1;have f:x.2<W64:=by rw[a];exact Gr (Nat.div_le_self _ _) y
 refine zs (zQ 3 (zn (cE ((x.1:Int)<(k:Int)) (fun q c=>?_) (fun q c=>?_))))
 ·refine zk (zs (aB (zQ 3 (aW (fun j=>(cG [1,0] [(j,1)] (cD (St ([UInt8.ofNat ((IntKind.u8.wrap (((x.2:Int)).tmod 256)):Int).toNat]++(Itm.dg n x.1))) (cB _ _ _ _ rfl [UInt8.ofNat ((IntKind.u8.wrap (((x.2:Int)).tmod 256)):Int).toNat] (Itm.dg n x.1) kR kR oA) ?_)))))));refine dS 18 (St ([UInt8.ofNat ((IntKind.u8.wrap (((x.2:Int)).tmod 256)):Int).toNat]++(Itm.dg n x.1))) (St (Itm.dg n (x.1+1))) (Ag (fun z=>Value.string (B z)) (aOC a)) ?_;refine zq 1 (zn (zr (zq 2 (dS 20 (U6 (IntKind.u64.wrap (((x.2:Int)).tdiv 256))) (N6 (x.2/256:Nat)) (Ag (Value.int .u64) (u64_quo x.2 f)) ?_))));refine zq 1 (zn (zr (zq 2 (eC 11 ((x.1:Int)+1) (zq 1 (zn ?_))))));refine nx (x.1+1,x.2/256) ?_ ?_ (d:=fun _ h=>Mem.sub (Ay _ _) (h.eqv (show _=([]:aN)++([(bK j [(.int .u8 (IntKind.u8.wrap (((x.2:Int)).tmod 256)))] 5)]:aN)from by kernel_rfl)))
  ·exact⟨by show x.1+1≤k;omega,by show x.2/256=n/256^(x.1+1);rw[a,Nat.div_div_eq_div_mul,Fs]⟩
  ·show k-(x.1+1)<k-x.1;omega
 ·refine aK (zQ 2 (zn (aA (aO [4] [(St (Itm.dg n x.1))] (fun D r=>?_)))));have g:x.1=k:=by omega
  exact⟨by rw[←g];rfl,r.below⟩
theorem hb8(m c:Nat)(hm:m≤7)(a:c<32):UInt8.ofNat (IntKind.u8.wrap ((32*(m:Int))+(c:Int))).toNat=UInt8.ofNat (32*m+c):=by
 rw[u8_in oW oW];congr 1
set_option maxRecDepth 100000 in
theorem dB(m n:Nat)(w:World)(hm:m≤7)(c:n<W64):CP 108 #[.int .i64 (m:Int),.int .u64 (n:Int)] w (Ret (.string (B (Itm.aE m n))) w):=by
 have k:=c;unfold W64 at k;have C:=Itm.eW n 1;have D:=Itm.eW n 2;have E:=Itm.eW n 4;have F:=Itm.eW n 8;refine dI 51 Tryz.func108 ?_;refine zQ 1 (zn (zQ 2 (eC 7 (32*(m:Int)) (zq 1 (dS 8 (.int .u8 (IntKind.u8.wrap (32*(m:Int)))) (.int .u8 (32*(m:Int))) (Ag (Value.int .u8) (u8_in oW oW)) ?_)))));refine zq 1 (zn (zs (zQ 2 (zn (cE ((n:Int)<24) (fun u f=>?_) (fun u f=>?_))))))
 ·refine zQ 3 (dS 13 (.int .u8 (IntKind.u8.wrap (n:Int))) (.int .u8 (n:Int)) (Ag (Value.int .u8) (u8_in oW oW)) ?_);refine zq 1 (aW (fun q=>(cG [1,0] [(q,1)] (zn (aA (aO [4] [(St [UInt8.ofNat ((IntKind.u8.wrap ((32*(m:Int))+(n:Int))):Int).toNat])] (fun d a=>?_)))))));refine⟨?_,a.below⟩;show Ending.returned (Value.string (B [UInt8.ofNat ((IntKind.u8.wrap ((32*(m:Int))+(n:Int))):Int).toNat]))=_;rw[Itm.aE,Ar oW,hb8 m n hm oW]
  try rfl
 ·refine zk (zs (zQ 2 (zn (cE ((n:Int)<256) (fun x g=>?_) (fun x g=>?_)))))
  ·refine zs ?_;refine iM 3 [0,0,1,1,0,1] [] [.blk (fun r=>(Sl r 0 1 1)) (oK [(.int .u8 (IntKind.u8.wrap ((32*(m:Int))+24)))] 5),.val (St [UInt8.ofNat ((IntKind.u8.wrap ((32*(m:Int))+24)):Int).toNat]),.val (St (Itm.dg n 1))] ⟨?_,?_,?_,trivial⟩ ?_
   ·exact vN
   ·exact vB 2 1 21 (fun r=>(Sl r 0 1 1)) [(.int .u8 (IntKind.u8.wrap ((32*(m:Int))+24)))] 5
   ·exact vC 152 #[(N6 n),(I6 1)] (fun W a=>oX n 1 c (by decide) W)
   refine cD (St ([UInt8.ofNat ((IntKind.u8.wrap ((32*(m:Int))+24)):Int).toNat]++(Itm.dg n 1))) (cB _ _ _ _ rfl [UInt8.ofNat ((IntKind.u8.wrap ((32*(m:Int))+24)):Int).toNat] (Itm.dg n 1) kR kR oA) ?_;refine zq 1 (zn (aA (aO [4] [(St ([UInt8.ofNat ((IntKind.u8.wrap ((32*(m:Int))+24)):Int).toNat]++(Itm.dg n 1)))] (fun d a=>?_))));refine⟨?_,a.below⟩;show Ending.returned (Value.string (B ([UInt8.ofNat ((IntKind.u8.wrap ((32*(m:Int))+24)):Int).toNat]++(Itm.dg n 1))))=_;rw[Itm.aE,An oW,Ar oW,(show UInt8.ofNat (IntKind.u8.wrap ((32*(m:Int))+24)).toNat=UInt8.ofNat (32*m+24)from hb8 m 24 hm oW)]
   try rfl
  ·refine zk (zs (zQ 2 (zn (cE ((n:Int)<65536) (fun y h=>?_) (fun y h=>?_)))))
   ·refine zs ?_;refine iM 3 [0,0,1,1,0,1] [] [.blk (fun r=>(Sl r 0 1 1)) (oK [(.int .u8 (IntKind.u8.wrap ((32*(m:Int))+25)))] 5),.val (St [UInt8.ofNat ((IntKind.u8.wrap ((32*(m:Int))+25)):Int).toNat]),.val (St (Itm.dg n 2))] ⟨?_,?_,?_,trivial⟩ ?_
    ·exact vN
    ·exact vB 2 1 30 (fun r=>(Sl r 0 1 1)) [(.int .u8 (IntKind.u8.wrap ((32*(m:Int))+25)))] 5
    ·exact vC 152 #[(N6 n),(I6 2)] (fun W a=>oX n 2 c (by decide) W)
    refine cD (St ([UInt8.ofNat ((IntKind.u8.wrap ((32*(m:Int))+25)):Int).toNat]++(Itm.dg n 2))) (cB _ _ _ _ rfl [UInt8.ofNat ((IntKind.u8.wrap ((32*(m:Int))+25)):Int).toNat] (Itm.dg n 2) kR kR oA) ?_;refine zq 1 (zn (aA (aO [4] [(St ([UInt8.ofNat ((IntKind.u8.wrap ((32*(m:Int))+25)):Int).toNat]++(Itm.dg n 2)))] (fun d a=>?_))));refine⟨?_,a.below⟩;show Ending.returned (Value.string (B ([UInt8.ofNat ((IntKind.u8.wrap ((32*(m:Int))+25)):Int).toNat]++(Itm.dg n 2))))=_;rw[Itm.aE,An oW,An oW,Ar oW,(show UInt8.ofNat (IntKind.u8.wrap ((32*(m:Int))+25)).toNat=UInt8.ofNat (32*m+25)from hb8 m 25 hm oW)]
    try rfl
   ·refine zk (zs (zQ 2 (zn (cE ((n:Int)<4294967296) (fun A j=>?_) (fun A j=>?_)))))
    ·refine zs ?_;refine iM 3 [0,0,1,1,0,1] [] [.blk (fun r=>(Sl r 0 1 1)) (oK [(.int .u8 (IntKind.u8.wrap ((32*(m:Int))+26)))] 5),.val (St [UInt8.ofNat ((IntKind.u8.wrap ((32*(m:Int))+26)):Int).toNat]),.val (St (Itm.dg n 4))] ⟨?_,?_,?_,trivial⟩ ?_
     ·exact vN
     ·exact vB 2 1 39 (fun r=>(Sl r 0 1 1)) [(.int .u8 (IntKind.u8.wrap ((32*(m:Int))+26)))] 5
     ·exact vC 152 #[(N6 n),(I6 4)] (fun W a=>oX n 4 c (by decide) W)
     refine cD (St ([UInt8.ofNat ((IntKind.u8.wrap ((32*(m:Int))+26)):Int).toNat]++(Itm.dg n 4))) (cB _ _ _ _ rfl [UInt8.ofNat ((IntKind.u8.wrap ((32*(m:Int))+26)):Int).toNat] (Itm.dg n 4) kR kR oA) ?_;refine zq 1 (zn (aA (aO [4] [(St ([UInt8.ofNat ((IntKind.u8.wrap ((32*(m:Int))+26)):Int).toNat]++(Itm.dg n 4)))] (fun d a=>?_))));refine⟨?_,a.below⟩;show Ending.returned (Value.string (B ([UInt8.ofNat ((IntKind.u8.wrap ((32*(m:Int))+26)):Int).toNat]++(Itm.dg n 4))))=_;rw[Itm.aE,An oW,An oW,An oW,Ar oW,(show UInt8.ofNat (IntKind.u8.wrap ((32*(m:Int))+26)).toNat=UInt8.ofNat (32*m+26)from hb8 m 26 hm oW)]
     try rfl
    ·refine zk (zs ?_);refine iM 3 [0,0,1,1,0,1] [] [.blk (fun r=>(Sl r 0 1 1)) (oK [(.int .u8 (IntKind.u8.wrap ((32*(m:Int))+27)))] 5),.val (St [UInt8.ofNat ((IntKind.u8.wrap ((32*(m:Int))+27)):Int).toNat]),.val (St (Itm.dg n 8))] ⟨?_,?_,?_,trivial⟩ ?_
     ·exact vN
     ·exact vB 2 1 46 (fun r=>(Sl r 0 1 1)) [(.int .u8 (IntKind.u8.wrap ((32*(m:Int))+27)))] 5
     ·exact vC 152 #[(N6 n),(I6 8)] (fun W a=>oX n 8 c (by decide) W)
     refine cD (St ([UInt8.ofNat ((IntKind.u8.wrap ((32*(m:Int))+27)):Int).toNat]++(Itm.dg n 8))) (cB _ _ _ _ rfl [UInt8.ofNat ((IntKind.u8.wrap ((32*(m:Int))+27)):Int).toNat] (Itm.dg n 8) kR kR oA) ?_;refine zq 1 (zn (aA (aO [4] [(St ([UInt8.ofNat ((IntKind.u8.wrap ((32*(m:Int))+27)):Int).toNat]++(Itm.dg n 8)))] (fun d a=>?_))));refine⟨?_,a.below⟩;show Ending.returned (Value.string (B ([UInt8.ofNat ((IntKind.u8.wrap ((32*(m:Int))+27)):Int).toNat]++(Itm.dg n 8))))=_;rw[Itm.aE,An oW,An oW,An oW,An oW,(show UInt8.ofNat (IntKind.u8.wrap ((32*(m:Int))+27)).toNat=UInt8.ofNat (32*m+27)from hb8 m 27 hm oW)]
     try rfl
theorem oY(l:List UInt8)(c:l.length≤R47)(w:World):CP 94 #[.string (B l)] w (Ret (.string (B (Itm.aE 2 l.length++l))) w):=by
 have d:=Itm.aD 2 l.length;have a:=c;unfold R47 at a;refine dI 9 Tryz.func94 ?_;refine zQ 1 (zn (zQ 3 (dS 5 (U6 (IntKind.u64.wrap (((l).length:Nat):Int))) (N6 ((l).length:Nat)) (Ag (Value.int .u64) (u64_in oW oW)) ?_)));refine dK (fun W f=>dB 2 l.length W oW (by first|assumption|(unfold W64;omega)|decide)) (zq 1 (cD (St ((Itm.aE 2 l.length)++l)) (cB _ _ _ _ rfl (Itm.aE 2 l.length) l kR kR oA) ?_));refine zq 1 (zn (aA (iZ 2)))
theorem aPA(n:Nat)(g:n<W64)(a:Option Addr)(c:Nat)(w:World):CP 109 #[.agg #[(.int .i64 0),(.int .u64 (n:Int)),(.string (B [])),(.slice a 0 c),(.bool false)]] w (Ret (.string (B (Itm.aE 0 n))) w):=by
 refine dI 51 Tryz.func109 ?_;refine zs (zr (aW (fun d=>(zq 1 (zn (zs (zB [0,1,0] [(d,1)] (zn (dP (zB [0,1] [(d,1)] (dK (fun W f=>dB 0 n W oW (by first|assumption|(unfold W64;omega)|decide)) (zq 1 (zn (aA (iZ 2)))))))))))))))
theorem aPz(l:List UInt8)(g:l.length≤R47)(a:Option Addr)(c:Nat)(w:World):CP 109 #[.agg #[(.int .i64 2),(.int .u64 0),(.string (B l)),(.slice a 0 c),(.bool false)]] w (Ret (.string (B (Itm.aE 2 l.length++l))) w):=by
 have h:=Itm.aD 2 l.length;have f:=g;unfold R47 at f;refine dI 51 Tryz.func109 ?_;refine zs (zr (aW (fun d=>(zq 1 (zn (zs (zB [0,1,0] [(d,1)] (zn (dD (zk (zs (zB [0,1,0] [(d,1)] (zn (dP (zs ?_)))))))))))))));refine iM 4 [0,3,0,3,0,1,1,0,3] [(d,1),(d,1),(d,1)] [.val (N6 ((l).length:Nat)),.val (St (Itm.aE 2 l.length))] ⟨?_,?_,trivial⟩ ?_
 ·exact vE (U6 (IntKind.u64.wrap (((l).length:Nat):Int))) (Ag (Value.int .u64) (u64_in oW oW))
 ·exact vC 108 #[(I6 2),(N6 ((l).length:Nat))] (fun W j=>dB 2 l.length W oW (by first|assumption|(unfold W64;omega)|decide))
 refine cD (St ((Itm.aE 2 l.length)++l)) (cB _ _ _ _ rfl (Itm.aE 2 l.length) l kR kR oA) ?_;refine zq 1 (zn (aA (iZ 2)))
theorem aPy(l:List UInt8)(g:l.length≤R47)(a:Option Addr)(c:Nat)(w:World):CP 109 #[.agg #[(.int .i64 3),(.int .u64 0),(.string (B l)),(.slice a 0 c),(.bool false)]] w (Ret (.string (B (Itm.aE 3 l.length++l))) w):=by
 have h:=Itm.aD 3 l.length;have f:=g;unfold R47 at f;refine dI 51 Tryz.func109 ?_;refine zs (zr (aW (fun d=>(zq 1 (zn (zs (zB [0,1,0] [(d,1)] (zn (dD (zk (zs (zB [0,1,0] [(d,1)] (zn (dP (zs ?_)))))))))))))));refine iM 4 [0,3,0,3,0,1,1,0,3] [(d,1),(d,1),(d,1)] [.val (N6 ((l).length:Nat)),.val (St (Itm.aE 3 l.length))] ⟨?_,?_,trivial⟩ ?_
 ·exact vE (U6 (IntKind.u64.wrap (((l).length:Nat):Int))) (Ag (Value.int .u64) (u64_in oW oW))
 ·exact vC 108 #[(I6 3),(N6 ((l).length:Nat))] (fun W j=>dB 3 l.length W oW (by first|assumption|(unfold W64;omega)|decide))
 refine cD (St ((Itm.aE 3 l.length)++l)) (cB _ _ _ _ rfl (Itm.aE 3 l.length) l kR kR oA) ?_;refine zq 1 (zn (aA (iZ 2)))
theorem aPB(d : Nat)(l : List Itm.Tr)(o : Bool){U : View}{w : World}(hU : See U w)(a : Option Addr)(c : Nat)(D : eZ U a l)
    (ih:∀(t:Itm.Tr) (cs:List Value) {U:View} {w:World},(∀a v,U a=some v→w.cell? a=some v)→TV U t cs→Itm.aJ d t=true→Itm.szT t≤aAL→CP 109 #[.agg cs.toArray] w (Ret (.string (B (Itm.aG t))) w))
    (hr:l.all (Itm.aJ d)=true) (M:Itm.szL l≤aAL):
    CP 109 #[.agg #[.int .i64 4,.int .u64 0,.string (B []),.slice a l.length c,.bool o]] w (Ret (.string (B ((if o then[159]else Itm.aE 4 l.length)++(Itm.aY l++(if o then[255]else[]))))) w):=by
 have u:=D.len;unfold R47 at u;have a7:=Itm.qU l;have a8:=Itm.aD 4 l.length;have A:=M;unfold aAL at A;refine dE 51 Tryz.func109 hU ?_;refine zs (zr (aW (fun g=>(zq 1 (zn (zs (zB [0,1,0] [(g,1)] (zn (dD (zk (zs (zB [0,1,0] [(g,1)] (zn (dD (zk (zB [0,1,0,0] [(g,1)] (dS 27 (U6 (IntKind.u64.wrap (l.length:Int))) (N6 ((l.length:Nat))) (Ag (Value.int .u64) (u64_in oW oW)) ?_)))))))))))))))));refine dK (fun W r=>dB 4 l.length W oW (by first|assumption|(unfold W64;omega)|decide)) (zq 1 (zn ?_));refine dH (α:=List UInt8) (fun q=>[1,2,3].zip [(Pt g 0),(St []),(St q)]) (fun q=>U) (fun q=>[(g,.cells [(I6 4),(U6 0),(St []),(.slice a l.length c),(.bool o)].toArray 89 (0,0))]) (fun q=>q=(if o then[159]else Itm.aE 4 l.length)∧q.length≤9) ?_ ?_
 ·refine zB [0,1] [(g,1)] (zn (gN o (fun I=>?_) (fun I=>?_)))
  ·refine zr (zq 1 (zn ?_));refine jn ([159]) ?_;exact⟨by simp only[I,if_true,Av,if_false],by first|omega|(simp only[Ah,Bd];omega)⟩
  ·refine zk ?_;refine jn (Itm.aE 4 l.length) ?_;exact⟨by simp only[I,if_true,Av,if_false],by first|omega|(simp only[Ah,Bd];omega)⟩
 intro q j;obtain⟨j,b8⟩:=j;refine zs (zQ 1 (zn (aB (eY (α:=Nat×List UInt8) (fun x=>[1,2,3,4].zip [(Pt g 0),(St []),(St x.2),(L6 x.1)]) (fun x=>U) (fun x=>[(g,.cells [(I6 4),(U6 0),(St []),(.slice a l.length c),(.bool o)].toArray 89 (0,0))]) (fun x=>x.1≤l.length∧x.2++Itm.aY (l.drop x.1)=q++Itm.aY l) (fun x=>l.length-x.1) (0,q) ?_ ?_))))
 ·exact⟨by simp,rfl⟩
 intro x hx;obtain⟨b5,f⟩:=hx;have N:=Ag List.length f;simp only[Ac,Ah,Bd]at N;refine zs (zB [0,0,1,0,0] [(g,1)] (zn (cE ((x.1:Int)<(l.length:Int)) (fun h1 J=>?_) (fun h1 J=>?_))))
 ·refine zk (zs (aB (zr (cG [0,0,1,0] [(g,1)] ?_))));obtain⟨k,h⟩:∃y,(l)[x.1]? =some y:=⟨(l)[x.1]'oW,Aa _⟩;obtain⟨F,G,a6,rfl,L,C⟩:=D.at_ x.1 k h;obtain⟨X,Y,rfl,Z,b3,b4,b2⟩:=C.form;have V:=Ao.1 hr k (Ad h);have b6:=Itm.cI k;have b7:=Itm.aJa h;have O:=pG h;have E:=Ag List.length O;simp only[Ac]at E;refine cD (Pt F (G+x.1*5)) (rIx 89 rfl F G l.length c x.1 5) ?_;refine zU F (G+x.1*5) (tC k X Y) L 89 (.tmp 42) _ Tryz.underlying89 rfl ?_;refine cY 109 #[(tV k X Y)] (St (Itm.aG k)) (fun W r=>ih _ _ r.view C V (by unfold aAL;omega)) ?_;refine cD (St (x.2++(Itm.aG k))) (cB _ _ _ _ rfl x.2 (Itm.aG k) kR kR oA) ?_;refine zq 1 (zn (zr (zq 2 (eC 37 ((x.1:Int)+1) (zq 1 (zn ?_))))));refine nx (x.1+1,(x.2++(Itm.aG k))) ?_ ?_
  ·exact⟨by show x.1+1≤_;omega,by rw[←f,pG h,Al]⟩
  ·show l.length-(x.1+1)<l.length-x.1;omega
 ·refine aK (zs (zB [0,1] [(g,1)] (zn (gN o (fun K=>?_) (fun K=>?_)))))
  ·refine zr (zq 1 (cD (St (x.2++[255])) (cB _ _ _ _ rfl x.2 [255] kR kR oA) ?_));refine zq 1 (zn (zQ 2 (zn (aA (aO [2] [(St (x.2++[255]))] (fun W' r=>?_))))));refine⟨?_,r.below⟩;rw[show x.1=l.length by omega,Ex]at f;simp only[Itm.aY,Aj]at f;simp only[dC,f,j,K,if_true,Av,if_false,Al,Aj]
  ·refine zk (zQ 2 (zn (aA (aO [2] [(St x.2)] (fun W' r=>?_)))));refine⟨?_,r.below⟩;rw[show x.1=l.length by omega,Ex]at f;simp only[Itm.aY,Aj]at f;simp only[dC,f,j,K,if_true,Av,if_false,Al,Aj]
theorem gI : ∀ (d : Nat) (t : Itm.Tr) (cs : List Value) {U : View} {w : World}, (∀ a v, U a = some v → w.cell? a = some v) → TV U t cs → Itm.aJ d t = true → Itm.szT t ≤ aAL → CP 109 #[.agg cs.toArray] w (Ret (.string (B (Itm.aG t))) w)
 |0,t,cs,U,w,_,_,j,_=>by cases j
 |d+1,t,cs,U,w,y,h,j,r=>by
  obtain⟨a,c,rfl,u,C,x,D⟩:=h.form;unfold Itm.aJ at j;rw[Ae]at j;obtain⟨q,g⟩:=j;obtain⟨k,n,s,l,o⟩:=t;simp only[Itm.Tr.k,Itm.Tr.n,Itm.Tr.s,Itm.Tr.l,Itm.Tr.o]at *;rw[Itm.szT]at r;rcases Itm.lG q with⟨rfl,rfl,f,rfl⟩|⟨rfl,rfl,f,rfl⟩|⟨rfl,rfl,f,rfl⟩|⟨rfl,rfl,rfl,A⟩
  ·obtain rfl:=Be.1 f;exact aPA n C a c w
  ·obtain rfl:=Be.1 f;exact aPz s x a c w
  ·obtain rfl:=Be.1 f;exact aPy s x a c w
  ·exact aPB d l o y a c u (gI d) g oW
def oQ(t:Itm.Tr)(v:Value)(V:View):Prop:=∃cs,v=.agg cs.toArray∧TV V t cs
theorem oQ.mono{t:Itm.Tr}{v:Value}{V a:View}(c:View.le V a)(h:oQ t v V):oQ t v a:=by
 obtain⟨cs,e,d⟩:=h;exact⟨cs,e,d.le c⟩
def aOV : Option (Nat × Nat × Bool × Nat) → Value
 |none=>.agg #[.int .i64 0,.int .i64 0,.int .u64 0,.bool false]
 |some (m,n,o,z)=>.agg #[.int .i64 (z:Int),.int .i64 (m:Int),.int .u64 (n:Int),.bool o]
theorem aJK(s:List UInt8)(d:(s==[])=true)(w:World):CP 198 #[.string (B s)] w (Ret (aOV (none)) w):=by
 refine dI 85 Tryz.func198 ?_;refine zs (zr (aW (fun a=>(zn (zs (zQ 1 (cD (.bool (s==[])) (iR _ _ _ _ rfl s [] kR kR) ?_)))))));refine zn (iA (s==[]) d ?_);refine zQ 1 (aX 0 a (zn (aA (dL [1] [(a,4)] [(.agg #[(I6 0),(I6 0),(U6 0),(.bool false)])] (fun f c=>?_)))));exact⟨rfl,c.below⟩
theorem aQ4(c:UInt8):IntKind.i64.wrap ((c.toNat:Int).tdiv 32)=((c.toNat/32:Nat):Int):=by
 have:=c.toNat_lt;rw[Int.tdiv_eq_ediv_of_nonneg (Int.natCast_nonneg _),IntWalk.i64_in _ oW];omega
theorem aQ3(c:UInt8):(c.toNat:Int).tmod 32=((c.toNat%32:Nat):Int):=by
 rw[Et (Int.natCast_nonneg _)];omega
theorem aFP(s:List UInt8)(c:UInt8)(f:s[0]? =some c)(j:(s==[])=false)(r:c.toNat%32<24)(w:World):CP 198 #[.string (B s)] w (Ret (aOV (some (c.toNat/32,c.toNat%32,false,1))) w):=by
 have h:=c.toNat_lt;have a:decide (((c.toNat%32:Nat):Int)<24)=true:=Cc oW;have k:IntKind.u64.wrap ((c.toNat%32:Nat):Int)=((c.toNat%32:Nat):Int):=u64_in oW oW;refine dI 85 Tryz.func198 ?_;refine zs (zr (aW (fun d=>(zn (zs (zQ 1 (cD (.bool (s==[])) (iR _ _ _ _ rfl s [] kR kR) ?_)))))));refine zn (dO (s==[]) j ?_);refine zk (zs ?_);refine iM 0 [0,1,1,1,0,1,1,1,0] [] [.val (.int .u8 (c.toNat:Int)),.val (L6 c.toNat),.val (L6 (c.toNat/32)),.val (.int .u8 (c.toNat:Int)),.val (L6 c.toNat),.val (L6 (c.toNat%32))] ⟨?_,?_,?_,?_,?_,?_,trivial⟩ ?_
 ·exact vR (qZ 9 _ _ rfl s 0 .i64 c kR kR f Tryz.underlying9)
 ·exact vE (I6 (IntKind.i64.wrap (c.toNat:Int))) i6v
 ·exact vE (I6 (IntKind.i64.wrap (((c.toNat:Int)).tdiv 32))) (Ag (Value.int .i64) (aQ4 c))
 ·exact vR (qZ 9 _ _ rfl s 0 .i64 c kR kR f Tryz.underlying9)
 ·exact vE (I6 (IntKind.i64.wrap (c.toNat:Int))) i6v
 ·exact vE (I6 (((c.toNat:Int)).tmod 32)) (Ag (Value.int .i64) (aQ3 c))
 refine zq 1 (zn (zs (zQ 2 (zn (iA (decide (((c.toNat%32:Nat):Int)<24)) a ?_)))));refine zQ 3 (dS 23 (U6 (IntKind.u64.wrap ((c.toNat%32:Nat):Int))) (N6 (c.toNat%32:Nat)) (Ag (Value.int .u64) k) ?_);refine zq 1 (aX 0 d (zn (aA (dL [1] [(d,4)] [(.agg #[(I6 1),(L6 (c.toNat/32)),(N6 (c.toNat%32:Nat)),(.bool false)])] (fun q g=>?_)))));exact⟨rfl,g.below⟩
theorem aCK : ∀ (l : List UInt8) (n : Nat) (c : UInt8), dX n (l ++ [c]) = dX n l * 256 + c.toNat
 | [],n,c=>rfl
 |a::l,n,c=>aCK l (n*256+a.toNat) c
theorem aDG : ∀ (l : List UInt8) (n : Nat), dX n l = n * 256 ^ l.length + dX 0 l
 | [],n=>by simp[dX]
 |c::l,n=>by
  rw[show dX n (c::l)=dX (n*256+c.toNat) l from rfl,show dX 0 (c::l)=dX (0*256+c.toNat) l from rfl,aDG l (n*256+c.toNat),aDG l (0*256+c.toNat),Ah,Fs];rw[Dq,Ft,Aw,Nat.mul_assoc,Nat.mul_comm 256];omega
theorem aHl : ∀ (l : List UInt8) (a : Nat), Itm.dg (dX a l) l.length = l
 | [],_=>rfl
 |c::l,a=>by
  have h:=qS l 0 0 (by simp);rw[Aw]at h;rw[Ah,Itm.dg,show dX a (c::l)=dX (a*256+c.toNat) l from rfl,aHl l,aDG l,Eb,Nat.add_mul_div_right _ _ (Nat.pow_pos (by decide)),Nat.div_eq_of_lt h,Aw];congr 1;apply UInt8.toNat_inj.1;have:=c.toNat_lt;simp
theorem aBH{m z j:Nat}{c:UInt8}{s:List UInt8}(f:s[0]? =some c)(hm:c.toNat/32=m)(y:c.toNat%32=24+j)(u:z=2^j)(x:j<4)(A:1+z≤s.length):
  (Itm.aE m (dX 0 ((s.drop 1).take z))==s.take (1+z))=((Itm.aE m (dX 0 ((s.drop 1).take z))).length==1+z):=by
 have r:((s.drop 1).take z).length=z:=by rw[Bb,Aq];omega
 have q:=aHl ((s.drop 1).take z) 0;rw[r]at q;have k:s.take (1+z)=c::(s.drop 1).take z:=by
  cases s with
  |nil=>simp at f
  |cons a s=>
   simp only[Bo,Ab]at f;subst f;rw[Eb,Ed];rfl
 have g:UInt8.ofNat (32*m+(24+j))=c:=by
  apply UInt8.toNat_inj.1;have:=c.toNat_lt;simp;omega
 cases d:((Itm.aE m (dX 0 ((s.drop 1).take z))).length==1+z)with
 |false=>
  rw[Ai]at d ⊢;intro h;apply d;rw[h,Bb];omega
 |true=>
  rw[Cy]at d ⊢;rw[k];generalize dX 0 ((s.drop 1).take z)=N at *;unfold Itm.aE at d ⊢;have:j=0∨j=1∨j=2∨j=3:=by omega
  rcases this with rfl|rfl|rfl|rfl<;>subst u<;>(repeat' split at d)<;>simp only[Ah,Bd,Itm.eW]at d<;>first|omega|skip
  all_goals(repeat (first|rw[An (by assumption)]|rw[Ar (by assumption)]))
  all_goals(show UInt8.ofNat _::_=_;rw[show Itm.dg _ _=_ from q];exact Ag (· ::_) g)
theorem aK3(a b:Nat):((a:Int) !=(b:Int))= !(a==b):=by
 rw[Db];simp;omega
theorem aOp{s:List UInt8}(x:Nat)(d:x≤8):dX 0 ((s.drop 1).take x)<W64:=by
 have h:=qS ((s.drop 1).take x) 0 0 (by simp);have a:256^(0+((s.drop 1).take x).length)≤256^8:=Dr (by decide) (by rw[Bb];omega);have c:(256:Nat)^8=W64:=by decide
 exact Dv h (El a (Nat.le_of_eq c))
theorem aN7{s:List UInt8}{x:Nat}{y:UInt8}(c:s[x+1]? =some y):((dX 0 ((s.drop 1).take x):Nat):Int)*256+(y.toNat:Int)=((dX 0 ((s.drop 1).take (x+1)):Nat):Int):=by
 have a:(s.drop 1)[x]? =some y:=by rw[Ej,Eb];exact c
 rw[Ci,a,Option.toList_some,aCK];omega
theorem aOq{s:List UInt8}(x:Nat)(d:x<8):dX 0 ((s.drop 1).take x)≤72057594037927935:=by
 have h:=qS ((s.drop 1).take x) 0 0 (by simp);have a:256^(0+((s.drop 1).take x).length)≤256^7:=Dr (by decide) (by rw[Bb];omega);have c:(256:Nat)^7=72057594037927936:=by decide
 omega
theorem aAY{m:Nat}(h:pI (m:Int)=true):m≠0∧m≠1∧m≠6:=by
 unfold pI at h;simp only[Dg,Ae,Ak,Cy]at h;omega
theorem aL8{m:Nat}(h:m<8)(a:m≠0∧m≠1∧m≠6):pI (m:Int)=true:=by
 unfold pI;simp only[Dg,Ae,Ak,Cy];omega
theorem aJL(s:List UInt8)(c:UInt8)(X:s[0]? =some c)(hs:(s==[])=false)(hk:24≤c.toNat%32)(M:s.length≤R47)(w:World):CP 198 #[.string (B s)] w (Ret (aOV (hd1 s (c.toNat/32) (c.toNat%32))) w):=by
 have c0:=c.toNat_lt;unfold R47 at M;have b6:decide (((c.toNat%32:Nat):Int)<24)=false:=Ba oW;refine dI 85 Tryz.func198 ?_;refine zs (zr (aW (fun d=>(zn (zs (zQ 1 (cD (.bool (s==[])) (iR _ _ _ _ rfl s [] kR kR) ?_)))))));refine zn (dO (s==[]) hs ?_);refine zk (zs ?_);refine iM 0 [0,1,1,1,0,1,1,1,0] [] [.val (.int .u8 (c.toNat:Int)),.val (L6 c.toNat),.val (L6 (c.toNat/32)),.val (.int .u8 (c.toNat:Int)),.val (L6 c.toNat),.val (L6 (c.toNat%32))] ⟨?_,?_,?_,?_,?_,?_,trivial⟩ ?_
 ·exact vR (qZ 9 _ _ rfl s 0 .i64 c kR kR X Tryz.underlying9)
 ·exact vE (I6 (IntKind.i64.wrap (c.toNat:Int))) i6v
 ·exact vE (I6 (IntKind.i64.wrap (((c.toNat:Int)).tdiv 32))) (Ag (Value.int .i64) (aQ4 c))
 ·exact vR (qZ 9 _ _ rfl s 0 .i64 c kR kR X Tryz.underlying9)
 ·exact vE (I6 (IntKind.i64.wrap (c.toNat:Int))) i6v
 ·exact vE (I6 (((c.toNat:Int)).tmod 32)) (Ag (Value.int .i64) (aQ3 c))
 refine zq 1 (zn (zs (zQ 2 (zn (dO (decide (((c.toNat%32:Nat):Int)<24)) b6 ?_)))));refine zk (zs ?_);refine dH (α:=Bool) (fun G=>[0,2,3,4,38].zip [(St s),(Pt d 0),(L6 (c.toNat/32)),(L6 (c.toNat%32)),(.bool G)]) (fun G=>View.no) (fun G=>[(bK d [(I6 0),(I6 0),(U6 0),(.bool false)] 265)]) (fun G=>G=true↔(c.toNat%32=31∧(c.toNat/32≠0∧(c.toNat/32≠1∧c.toNat/32≠6)))) ?_ ?_
 ·refine zr (zq 3 (oT 27 ((c.toNat%32:Nat):Int) 31 (fun h0 Y=>?_) (fun h0 Y=>?_)))
  ·refine zq 4 (lO 31 ((c.toNat/32:Nat):Int) 0 (fun h1 a1=>?_) (fun h1 a1=>?_))
   ·refine zq 4 (lO 35 ((c.toNat/32:Nat):Int) 1 (fun h2 a6=>?_) (fun h2 a6=>?_))
    ·refine zq 3 (zn ?_);refine jn (((c.toNat/32:Nat):Int) !=6) ?_;exact⟨(fun h=>by have:=Cb.1 h;omega),(fun h=>Cb.2 oW)⟩
    ·refine zq 3 (zn ?_);refine jn false ?_;exact⟨(fun h=>by cases h),(fun h=>by omega)⟩
   ·refine zq 7 (zn ?_);refine jn false ?_;exact⟨(fun h=>by cases h),(fun h=>by omega)⟩
  ·refine zq 11 (zn ?_);refine jn false ?_;exact⟨(fun h=>by cases h),(fun h=>by omega)⟩
 intro G u;refine gN G (fun A=>?_) (fun A=>?_)
 ·refine zQ 2 (aX 0 d (zn (aA (dL [1] [(d,4)] [(.agg #[(I6 1),(L6 (c.toNat/32)),(U6 0),(.bool true)])] (fun O C=>?_)))));unfold hd1;have b7:=u.1 A;rw[An oW,Ar ⟨b7.1,aL8 oW oW⟩];exact⟨rfl,C.below⟩
 ·refine zk (zQ 1 (zn ?_));refine dH (α:=Nat) (fun F=>[0,2,3,4,5].zip [(St s),(Pt d 0),(L6 (c.toNat/32)),(L6 (c.toNat%32)),(L6 F)]) (fun F=>View.no) (fun F=>[(bK d [(I6 0),(I6 0),(U6 0),(.bool false)] 265)]) (fun F=>(c.toNat%32=24∧F=1)∨(c.toNat%32≠24∧F=0)) ?_ ?_
  ·refine zQ 2 (zn (fQ ((c.toNat%32:Nat):Int) 24 (fun h4 a7=>?_) (fun h4 a7=>?_)))
   ·refine zr (zq 1 (zn ?_));refine jn 1 ?_;omega
   ·refine zk ?_;refine jn 0 ?_;omega
  intro F c2;refine dH (α:=Nat) (fun D=>[0,2,3,4,5].zip [(St s),(Pt d 0),(L6 (c.toNat/32)),(L6 (c.toNat%32)),(L6 D)]) (fun D=>View.no) (fun D=>[(bK d [(I6 0),(I6 0),(U6 0),(.bool false)] 265)]) (fun D=>(c.toNat%32=24∧D=1)∨(c.toNat%32=25∧D=2)∨((c.toNat%32≠24∧c.toNat%32≠25)∧D=0)) ?_ ?_
  ·refine zQ 2 (zn (fQ ((c.toNat%32:Nat):Int) 25 (fun h5 a8=>?_) (fun h5 a8=>?_)))
   ·refine zr (zq 1 (zn ?_));refine jn 2 ?_;omega
   ·refine zk ?_;refine jn F ?_;omega
  intro D c4;refine dH (α:=Nat) (fun k=>[0,2,3,4,5].zip [(St s),(Pt d 0),(L6 (c.toNat/32)),(L6 (c.toNat%32)),(L6 k)]) (fun k=>View.no) (fun k=>[(bK d [(I6 0),(I6 0),(U6 0),(.bool false)] 265)]) (fun k=>(c.toNat%32=24∧k=1)∨(c.toNat%32=25∧k=2)∨(c.toNat%32=26∧k=4)∨(((c.toNat%32≠24∧c.toNat%32≠25)∧c.toNat%32≠26)∧k=0)) ?_ ?_
  ·refine zQ 2 (zn (fQ ((c.toNat%32:Nat):Int) 26 (fun h6 b2=>?_) (fun h6 b2=>?_)))
   ·refine zr (zq 1 (zn ?_));refine jn 4 ?_;omega
   ·refine zk ?_;refine jn D ?_;omega
  intro k c6;refine dH (α:=Nat) (fun a=>[0,2,3,5].zip [(St s),(Pt d 0),(L6 (c.toNat/32)),(L6 a)]) (fun a=>View.no) (fun a=>[(bK d [(I6 0),(I6 0),(U6 0),(.bool false)] 265)]) (fun a=>a≤8∧((28≤c.toNat%32∧a=0)∨(c.toNat%32<28∧(1≤a∧a=2^(c.toNat%32-24))))) ?_ ?_
  ·refine zQ 2 (zn (fQ ((c.toNat%32:Nat):Int) 27 (fun h7 b3=>?_) (fun h7 b3=>?_)))
   ·refine zr (zq 1 (zn ?_));refine jn 8 ?_;have q:(c.toNat%32=24∧8=1)∨(c.toNat%32=25∧8=2)∨(c.toNat%32=26∧8=4)∨(c.toNat%32=27∧8=8)∨(28≤c.toNat%32∧8=0):=by omega
    rcases q with⟨f,g⟩|⟨f,g⟩|⟨f,g⟩|⟨f,g⟩|⟨f,g⟩
    ·exact⟨by omega,.inr ⟨by omega,by omega,by rw[f,g]⟩⟩
    ·exact⟨by omega,.inr ⟨by omega,by omega,by rw[f,g]⟩⟩
    ·exact⟨by omega,.inr ⟨by omega,by omega,by rw[f,g]⟩⟩
    ·exact⟨by omega,.inr ⟨by omega,by omega,by rw[f,g]⟩⟩
    ·exact⟨by omega,.inl ⟨f,g⟩⟩
   ·refine zk ?_;refine jn k ?_;have q:(c.toNat%32=24∧k=1)∨(c.toNat%32=25∧k=2)∨(c.toNat%32=26∧k=4)∨(c.toNat%32=27∧k=8)∨(28≤c.toNat%32∧k=0):=by omega
    rcases q with⟨f,g⟩|⟨f,g⟩|⟨f,g⟩|⟨f,g⟩|⟨f,g⟩
    ·exact⟨by omega,.inr ⟨by omega,by omega,by rw[f,g]⟩⟩
    ·exact⟨by omega,.inr ⟨by omega,by omega,by rw[f,g]⟩⟩
    ·exact⟨by omega,.inr ⟨by omega,by omega,by rw[f,g]⟩⟩
    ·exact⟨by omega,.inr ⟨by omega,by omega,by rw[f,g]⟩⟩
    ·exact⟨by omega,.inl ⟨f,g⟩⟩
  intro a b8;obtain⟨c7,J⟩:=b8;refine zs (zQ 3 (oT 51 (a:Int) 0 (fun h8 b4=>?_) (fun h8 b4=>?_)))
  ·refine zq 6 (zn (dP (zQ 1 (aX 0 d (zn (aA (dL [1] [(d,4)] [(.agg #[(I6 0),(I6 0),(U6 0),(.bool false)])] (fun O C=>?_))))))));unfold hd1;rw[An oW,An (fun h=>by have:=aAY h.2;have:=u.2 ⟨h.1,by omega⟩;rw[this]at A;cases A),Ar (by have:=eq_of_beq h8;omega)];exact⟨rfl,C.below⟩
  ·refine zq 4 (dS 55 (I6 (IntKind.i64.wrap ((a:Int)+1))) (L6 (1+a)) (Ag (Value.int .i64) (by rw[IntWalk.i64_in _ oW];omega)) ?_);refine zq 2 (zn (cE ((((s).length:Nat):Int)<((1+a:Nat):Int)) (fun V b5=>?_) (fun V b5=>?_)))
   ·refine zQ 1 (aX 0 d (zn (aA (dL [1] [(d,4)] [(.agg #[(I6 0),(I6 0),(U6 0),(.bool false)])] (fun O C=>?_)))));unfold hd1;rw[An oW,An (fun h=>by have:=aAY h.2;have:=u.2 ⟨h.1,by omega⟩;rw[this]at A;cases A),An oW];have j:a=2^(c.toNat%32-24):=by
     rcases J with⟨_,q⟩|⟨_,_,q⟩
     ·exfalso;omega
     ·exact q
    rw[←j];have L:=Bj V;unfold hd2;rw[Ar (Cc oW)];exact⟨rfl,C.below⟩
   ·refine zk (zQ 1 (zn (zs (zQ 1 (zn (aB (eY (α:=Nat) (fun x=>[0,2,3,5,6,7].zip [(St s),(Pt d 0),(L6 (c.toNat/32)),(L6 a),(N6 (dX 0 ((s.drop 1).take x))),(L6 (x+1))]) (fun x=>View.no) (fun x=>[(bK d [(I6 0),(I6 0),(U6 0),(.bool false)] 265)]) (fun x=>x≤a) (fun x=>a-x) 0 ?_ ?_)))))))
    ·exact Ap _
    intro x hx;have b9:=aOq (s:=s) x;refine zs (zQ 3 (zn (cE (((x+1:Nat):Int)≤(a:Int)) (fun Z K=>?_) (fun Z K=>?_))))
    ·refine zk (zs (aB (zr (zq 2 (dS 65 (U6 (IntKind.u64.wrap ((((dX 0 ((s.drop 1).take x)):Nat):Int)*256))) (U6 ((((dX 0 ((s.drop 1).take x)):Nat):Int)*256)) (Ag (Value.int .u64) (u64_in oW oW)) ?_)))));refine zq 2 ?_;obtain⟨E,N⟩:∃y,(s)[(x+1)]? =some y:=⟨_,Aa (by first|assumption|omega)⟩;refine cD (.int .u8 (E.toNat:Int)) (qZ 9 _ _ rfl s (x+1) .i64 E kR kR N Tryz.underlying9) ?_;have c1:=E.toNat_lt;refine zq 1 (dS 69 (U6 (IntKind.u64.wrap (E.toNat:Int))) (N6 (E.toNat:Nat)) (Ag (Value.int .u64) (u64_in oW oW)) ?_);refine zq 1 (dS 70 (U6 (IntKind.u64.wrap (((((dX 0 ((s.drop 1).take x)):Nat):Int)*256)+(E.toNat:Int)))) (U6 (((((dX 0 ((s.drop 1).take x)):Nat):Int)*256)+(E.toNat:Int))) (Ag (Value.int .u64) (u64_in oW oW)) ?_);refine zq 1 (zn (zr (dS 6 (U6 (((((dX 0 ((s.drop 1).take x)):Nat):Int)*256)+(E.toNat:Int))) (N6 (dX 0 ((s.drop 1).take (x+1)))) (Ag (Value.int .u64) (aN7 N)) ?_)));refine zq 2 (eC 63 (((x+1:Nat):Int)+1) (zq 1 (zn ?_)));refine nx (x+1) ?_ ?_
     ·show x+1≤a;omega
     ·show a-(x+1)<a-x;omega
    ·refine aK (zs (zs ?_));refine iM 2 [0,0,1,0,0,1,1] [] [.val (St (Itm.aE (c.toNat/32) (dX 0 ((s.drop 1).take x)))),.val (L6 (1+a)),.val (St (s.take (1+a)))] ⟨?_,?_,?_,trivial⟩ ?_
     ·exact vC 108 #[(L6 (c.toNat/32)),(N6 (dX 0 ((s.drop 1).take x)))] (fun W C=>dB (c.toNat/32) (dX 0 ((s.drop 1).take x)) W oW (aOp x oW))
     ·exact vE (I6 (IntKind.i64.wrap ((a:Int)+1))) (Ag (Value.int .i64) (by rw[IntWalk.i64_in _ oW];omega))
     ·exact vR (iK 9 _ none (some _) rfl s 0 (1+a) (s.take (1+a)) kR rfl (show evS _ _=_ by kernel_rfl) nL nL rfl Tryz.underlying9)
     refine cD (.bool (!((Itm.aE (c.toNat/32) (dX 0 ((s.drop 1).take x)))==(s.take (1+a))))) (lQ _ _ _ _ rfl (Itm.aE (c.toNat/32) (dX 0 ((s.drop 1).take x))) (s.take (1+a)) kR kR) ?_;refine zn (gN (!((Itm.aE (c.toNat/32) (dX 0 ((s.drop 1).take x)))==(s.take (1+a)))) (fun I=>?_) (fun I=>?_))
     ·refine zQ 1 (aX 0 d (zn (aA (dL [1] [(d,4)] [(.agg #[(I6 0),(I6 0),(U6 0),(.bool false)])] (fun O C=>?_)))));unfold hd1;rw[An oW,An (fun h=>by have:=aAY h.2;have:=u.2 ⟨h.1,by omega⟩;rw[this]at A;cases A),An oW];have j:a=2^(c.toNat%32-24):=by
       rcases J with⟨_,q⟩|⟨_,_,q⟩
       ·exfalso;omega
       ·exact q
      have L:=Au V;obtain rfl:x=a:=by omega
      have r:(!(Itm.aE (c.toNat/32) (dX 0 ((s.drop 1).take x))==s.take (1+x)))=true:=I;rw[aBH X rfl (show c.toNat%32=24+(c.toNat%32-24) by omega) j oW oW,←aK3]at r;rw[←j];unfold hd2;rw[An (by rw[Ba oW];exact Bn),Ar r];exact⟨rfl,C.below⟩
     ·refine zk (zQ 2 (dS 81 (I6 (IntKind.i64.wrap ((a:Int)+1))) (L6 (1+a)) (Ag (Value.int .i64) (by rw[IntWalk.i64_in _ oW];omega)) ?_));refine zq 3 (aX 0 d (zn (aA (dL [1] [(d,4)] [(.agg #[(L6 (1+a)),(L6 (c.toNat/32)),(N6 (dX 0 ((s.drop 1).take x))),(.bool false)])] (fun O C=>?_)))));unfold hd1;rw[An oW,An (fun h=>by have:=aAY h.2;have:=u.2 ⟨h.1,by omega⟩;rw[this]at A;cases A),An oW];have j:a=2^(c.toNat%32-24):=by
       rcases J with⟨_,q⟩|⟨_,_,q⟩
       ·exfalso;omega
       ·exact q
      have L:=Au V;obtain rfl:x=a:=by omega
      have r:(!(Itm.aE (c.toNat/32) (dX 0 ((s.drop 1).take x))==s.take (1+x)))=false:=I;rw[aBH X rfl (show c.toNat%32=24+(c.toNat%32-24) by omega) j oW oW,←aK3]at r;rw[←j];unfold hd2;rw[An (by rw[Ba oW];exact Bn),An (by rw[r];exact Bn)];exact⟨rfl,C.below⟩
theorem aJM(s:List UInt8)(w:World)(a:s.length≤R47):CP 198 #[.string (B s)] w (Ret (aOV (hdF s)) w):=by
 unfold hdF;cases f:s[0]? with
 |none=>exact aJK s (by cases s<;>simp_all) w
 |some c=>
  have g:(s==[])=false:=by cases s<;>simp_all
  show Calls _ _ _ _ (Ret (aOV (hd1 s (c.toNat/32) (c.toNat%32))) w);by_cases d:c.toNat%32<24
  ·unfold hd1;rw[Ar d];exact aFP s c f g d w
  ·exact aJL s c f g oW a w
def dF(s:List UInt8)(i d:Nat)(v:Value)(_:View):Prop:=match itF d (s.drop i)with
 |some (_,k)=>v=.tuple #[.int .i64 ((i+k:Nat):Int),.int .i64 0]
 |none=>∃p z:Int,z≠0∧v=.tuple #[.int .i64 p,.int .i64 z]
def aLk(s:List UInt8)(d:Nat):Prop:=∀(i:Nat),i≤s.length→∀(w:World) {U:View},(∀a v,U a=some v→w.cell? a=some v)→CP 147 #[.string (B s),.int .i64 (i:Int),.int .i64 (d:Int)] w (fO w U (dF s i d))
theorem mF{s:List UInt8}{x:Option (Nat×Nat×Bool×Nat)}(c:hdF s=x)(w:World)(a:s.length≤R47):CP 198 #[.string (B s)] w (Ret (aOV x) w):=c▸aJM s w a
theorem qA{s:List UInt8}{m n z:Nat}{b:Bool}(h:hdF s=some (m,n,b,z)):1≤z:=by
 unfold hdF at h;split at h
 ·cases h
 ·unfold hd1 at h;split at h
  ·cases h;omega
  ·split at h
   ·cases h;omega
   ·split at h
    ·cases h
    ·rw[(aKx h).2.2.2];exact Fv 1 _
theorem aHg(s:List UInt8)(i d:Nat)(q:i≤s.length)(r:s.length≤1000000)(k:d≤1000)(w:World){U:View}(h:See U w)(g:hdF (s.drop i)=none):CP 147 #[.string (B s),.int .i64 (i:Int),.int .i64 (d:Int)] w (fO w U (dF s i d)):=by
 have a:itF d (s.drop i)=none:=by cases d with
  |zero=>rfl
  |succ d=>unfold itF;rw[g]
 refine dE 125 Tryz.func147 h ?_;refine zQ 2 (zn (zQ 2 (cD (St (s.drop i)) (iK 9 _ (some _) none rfl s i s.length (s.drop i) kR (show evS _ _=_ by kernel_rfl) rfl nL nL (dQ _ _) Tryz.underlying9) ?_)));refine dK (fun W f=>mF g W (by rw[Aq];unfold R47;omega)) (aW (fun c=>(aX 0 c (zn (zs (zB [0,1,0] [(c,1)] (zn (dP (zQ 3 (zn (aA (aO [6,7] [(I6 (i:Int)),(I6 2)] (fun j f=>?_)))))))))))));exact aH f (View.le_refl _) (by unfold dF;rw[a];exact⟨_,_,by decide,rfl⟩)
theorem aGj(s:List UInt8)(i d m n z:Nat)(F:i≤s.length)(G:s.length≤1000000)(E:d≤1000)(w:World){U:View}(C:See U w)(b:Bool)(c:hdF (s.drop i)=some (m,n,b,z))(u:m≠0)(x:m≠2)(y:m≠3)(A:m≠4):CP 147 #[.string (B s),.int .i64 (i:Int),.int .i64 (d:Int)] w (fO w U (dF s i d)):=by
 have q:((z:Int)==0)=false:=Ai.2 (by have:=qA c;omega);have g:((m:Int) !=0)=true:=Cb.2 oW;have h:((m:Int) !=2)=true:=Cb.2 oW;have j:((m:Int) !=3)=true:=Cb.2 oW;have k:((m:Int) !=4)=true:=Cb.2 oW;have f:itF d (s.drop i)=none:=by cases d with
  |zero=>rfl
  |succ d=>unfold itF;rw[c];simp only[u,x,y,A,if_false]
 refine dE 125 Tryz.func147 C ?_;refine zQ 2 (zn (zQ 2 (cD (St (s.drop i)) (iK 9 _ (some _) none rfl s i s.length (s.drop i) kR (show evS _ _=_ by kernel_rfl) rfl nL nL (dQ _ _) Tryz.underlying9) ?_)));refine dK (fun W r=>mF c W (by rw[Aq];unfold R47;omega)) (aW (fun a=>(aX 0 a (zn (zs (zB [0,1,0] [(a,1)] (zn (dO ((z:Int)==0) q ?_))))))));refine zk (zs (zB [0,1,0,0] [(a,1)] (dS 24 (.bool ((m:Int) !=0)) (.bool true) (Ag Value.bool g) ?_)));refine cG [0,1,0,0,0] [(a,1)] (dS 29 (.bool ((m:Int) !=2)) (.bool true) (Ag Value.bool h) ?_);refine cG [0,1,0,0,0] [(a,1)] (dS 34 (.bool ((m:Int) !=3)) (.bool true) (Ag Value.bool j) ?_);refine cG [0,1,0,0] [(a,1)] (zn (iA ((m:Int) !=4) k ?_));refine zQ 3 (zn (aA (aO [6,7] [(I6 (i:Int)),(I6 2)] (fun D r=>?_))));exact aH r (View.le_refl _) (by unfold dF;rw[f];exact⟨_,_,by decide,rfl⟩)
theorem aIz(s:List UInt8)(i d m n z:Nat)(F:i≤s.length)(G:s.length≤1000000)(E:d≤1000)(w:World){U:View}(C:See U w)(b:Bool)(q:hdF (s.drop i)=some (m,n,b,z))(f:d=0):CP 147 #[.string (B s),.int .i64 (i:Int),.int .i64 (d:Int)] w (fO w U (dF s i d)):=by
 have k:((z:Int)==0)=false:=Ai.2 (by have:=qA q;omega);have j:((d:Int)==0)=true:=by rw[f];rfl
 have g:itF d (s.drop i)=none:=by rw[f];rfl
 refine dE 125 Tryz.func147 C ?_;refine zQ 2 (zn (zQ 2 (cD (St (s.drop i)) (iK 9 _ (some _) none rfl s i s.length (s.drop i) kR (show evS _ _=_ by kernel_rfl) rfl nL nL (dQ _ _) Tryz.underlying9) ?_)));refine dK (fun W h=>mF q W (by rw[Aq];unfold R47;omega)) (aW (fun a=>(aX 0 a (zn (zs (zB [0,1,0] [(a,1)] (zn (dO ((z:Int)==0) k ?_))))))));refine zk (zs ?_);refine dH (α:=Bool) (fun c=>[0,1,2,6,7,8,38].zip [(St s),(I6 (i:Int)),(I6 (d:Int)),(I6 0),(I6 0),(Pt a 0),(.bool c)]) (fun c=>U) (fun c=>[(bK a [(L6 z),(L6 m),(N6 (n:Nat)),(.bool b)] 265)]) (fun c=>True) ?_ ?_
 ·refine zr (cG [0,1,0,0] [(a,1)] (cN 24 ((m:Int) !=0) (fun u=>?_) (fun u=>?_)))
  ·refine cG [0,1,0,0,0] [(a,1)] (cN 29 ((m:Int) !=2) (fun x=>?_) (fun x=>?_))
   ·refine cG [0,1,0,0,0] [(a,1)] (cN 34 ((m:Int) !=3) (fun y=>?_) (fun y=>?_))
    ·refine cG [0,1,0,0] [(a,1)] (zn ?_);refine jn ((m:Int) !=4) ?_;trivial
    ·refine zq 4 (zn ?_);refine jn false ?_;trivial
   ·refine zq 9 (zn ?_);refine jn false ?_;trivial
  ·refine zq 14 (zn ?_);refine jn false ?_;trivial
 intro c D;refine gN c (fun A=>?_) (fun A=>?_)
 ·refine zQ 3 (zn (aA (aO [6,7] [(I6 (i:Int)),(I6 2)] (fun r h=>?_))));exact aH h (View.le_refl _) (by unfold dF;rw[g];exact⟨_,_,by decide,rfl⟩)
 ·refine zk (zs (zQ 2 (zn (iA ((d:Int)==0) j ?_))));refine zQ 3 (zn (aA (aO [6,7] [(I6 (i:Int)),(I6 3)] (fun r h=>?_))));exact aH h (View.le_refl _) (by unfold dF;rw[g];exact⟨_,_,by decide,rfl⟩)
theorem aKL(s:List UInt8)(i d n z:Nat)(A:i≤s.length)(C:s.length≤1000000)(y:d≤1000)(w:World){U:View}(r:See U w)(b:Bool)(c:hdF (s.drop i)=some (0,n,b,z))(u:0<d):CP 147 #[.string (B s),.int .i64 (i:Int),.int .i64 (d:Int)] w (fO w U (dF s i d)):=by
 have h:((z:Int)==0)=false:=Ai.2 (by have:=qA c;omega);have j:=(eK c).1;rw[Aq]at j;have f:((d:Int)==0)=false:=Ai.2 oW;have g:itF d (s.drop i)=some (.mk 0 n [] [] false,z):=by
  obtain⟨d,rfl⟩:∃k,d=k+1:=⟨d-1,by omega⟩;unfold itF;rw[c];rfl
 refine dE 125 Tryz.func147 r ?_;refine zQ 2 (zn (zQ 2 (cD (St (s.drop i)) (iK 9 _ (some _) none rfl s i s.length (s.drop i) kR (show evS _ _=_ by kernel_rfl) rfl nL nL (dQ _ _) Tryz.underlying9) ?_)));refine dK (fun W q=>mF c W (by rw[Aq];unfold R47;omega)) (aW (fun a=>(aX 0 a (zn (zs (zB [0,1,0] [(a,1)] (zn (dO ((z:Int)==0) h ?_))))))));refine zk (zs (zB [0,1,0,0,0,0,0,0,0,0,0,0,0,0,0,0,0,0] [(a,1)] (zn (dD (zk (zs (zQ 2 (zn (dO ((d:Int)==0) f ?_)))))))));refine zk (zB [0,0,1,0] [(a,1)] (eC 46 ((i:Int)+(z:Int)) (zq 1 (zn (zs (zB [0,1,0] [(a,1)] (zn (dP (zQ 3 (zn (aA (aO [6,7] [(I6 ((i:Int)+(z:Int))),(I6 0)] (fun x q=>?_)))))))))))));exact aH q (View.le_refl _) (by unfold dF;rw[g];rfl)
theorem aIA(s:List UInt8)(i d m n z:Nat)(M:i≤s.length)(N:s.length≤1000000)(L:d≤1000)(w:World){U:View}(I:See U w)(f:hdF (s.drop i)=some (m,n,true,z))(J:0<d)(hm:m=2∨m=3):CP 147 #[.string (B s),.int .i64 (i:Int),.int .i64 (d:Int)] w (fO w U (dF s i d)):=by
 have u:((z:Int)==0)=false:=Ai.2 (by have:=qA f;omega);have q:((m:Int)==0)=false:=Ai.2 oW;have r:decide ((m:Int)<4)=true:=Cc oW;have x:=(eK f).1;rw[Aq]at x;have h:((d:Int)==0)=false:=Ai.2 oW;have j:itF d (s.drop i)=none:=by
  obtain⟨d,rfl⟩:∃k,d=k+1:=⟨d-1,by omega⟩;unfold itF;rw[f];rcases hm with rfl|rfl<;>rfl
 refine dE 125 Tryz.func147 I ?_;refine zQ 2 (zn (zQ 2 (cD (St (s.drop i)) (iK 9 _ (some _) none rfl s i s.length (s.drop i) kR (show evS _ _=_ by kernel_rfl) rfl nL nL (dQ _ _) Tryz.underlying9) ?_)));refine dK (fun W y=>mF f W (by rw[Aq];unfold R47;omega)) (aW (fun a=>(aX 0 a (zn (zs (zB [0,1,0] [(a,1)] (zn (dO ((z:Int)==0) u ?_))))))));refine zk (zs ?_);refine dH (α:=Bool) (fun c=>[0,1,2,6,7,8,38].zip [(St s),(I6 (i:Int)),(I6 (d:Int)),(I6 0),(I6 0),(Pt a 0),(.bool c)]) (fun c=>U) (fun c=>[(bK a [(L6 z),(L6 m),(N6 (n:Nat)),(.bool true)] 265)]) (fun c=>c=false) ?_ ?_
 ·refine zr (cG [0,1,0,0] [(a,1)] (lO 24 (m:Int) 0 (fun A C=>?_) (fun A _=>?_)))
  ·refine cG [0,1,0,0,0] [(a,1)] (lO 29 (m:Int) 2 (fun D E=>?_) (fun D _=>?_))
   ·refine cG [0,1,0,0,0] [(a,1)] (lO 34 (m:Int) 3 (fun F G=>?_) (fun F _=>?_))
    ·refine cG [0,1,0,0] [(a,1)] (zn ?_);refine jn ((m:Int) !=4) ?_;exfalso;omega
    ·refine zq 4 (zn ?_);refine jn false ?_;rfl
   ·refine zq 9 (zn ?_);refine jn false ?_;rfl
  ·refine zq 14 (zn ?_);refine jn false ?_;rfl
 intro c g;refine dO c g ?_;refine zk (zs (zQ 2 (zn (dO ((d:Int)==0) h ?_))));refine zk (zB [0,0,1,0] [(a,1)] (eC 46 ((i:Int)+(z:Int)) (zq 1 (zn (zs (zB [0,1,0] [(a,1)] (zn (dO ((m:Int)==0) q ?_))))))));refine zk (zs (zB [0,1,0] [(a,1)] (zn (iA (decide ((m:Int)<4)) r ?_))));refine zs (zB [0,1,0,0,0,0,0,0,0,0,0,0] [(a,1)] (zn (dP (zQ 3 (zn (aA (aO [6,7] [(I6 (i:Int)),(I6 2)] (fun K y=>?_))))))));exact aH y (View.le_refl _) (by unfold dF;rw[j];exact⟨_,_,by decide,rfl⟩)
theorem aKK(s:List UInt8)(i d m n z:Nat)(hi:i≤s.length)(hs:s.length≤1000000)(hd:d≤1000)(w:World){U:View}(Z:See U w)(q:hdF (s.drop i)=some (m,n,false,z))(a1:0<d)(hm:m=2∨m=3):CP 147 #[.string (B s),.int .i64 (i:Int),.int .i64 (d:Int)] w (fO w U (dF s i d)):=by
 have I:((z:Int)==0)=false:=Ai.2 (by have:=qA q;omega);have F:((m:Int)==0)=false:=Ai.2 oW;have G:decide ((m:Int)<4)=true:=Cc oW;have J:=(eK q).1;rw[Aq]at J;have a7:=(aAD q).1;have E:((d:Int)==0)=false:=Ai.2 oW;have c:itF d (s.drop i)=mL (m:Int) (sF (s.drop i) n z false 1073741824):=by
  obtain⟨d,rfl⟩:∃k,d=k+1:=⟨d-1,by omega⟩;unfold itF;rw[q];rcases hm with rfl|rfl<;>rfl
 have f:(s.drop i).length<n+z→itF d (s.drop i)=none:=fun h=>by
  have C:sF (s.drop i) n z false 1073741824=([],⟨s.drop i,0,0,2,0⟩):=by
   unfold sF;rw[An Bn,Ar (Cc oW)]
  rw[c,C];rfl
 have g:n+z≤(s.drop i).length→∃t,itF d (s.drop i)=some (t,z+n):=fun h=>by
  have a6:(s.drop i).length≤s.length:=by rw[Aq];omega
  have C:sF (s.drop i) n z false 1073741824=(((s.drop i).drop z).take n,⟨s.drop i,z+n,-1,0,0⟩):=by
   unfold sF;rw[An Bn,An (by rw[Ba oW];exact Bn),An (by rw[Ba oW];exact Bn)]
  rw[c,C];exact⟨_,rfl⟩
 rw[Aq]at f g;refine dE 125 Tryz.func147 Z ?_;refine zQ 2 (zn (zQ 2 (cD (St (s.drop i)) (iK 9 _ (some _) none rfl s i s.length (s.drop i) kR (show evS _ _=_ by kernel_rfl) rfl nL nL (dQ _ _) Tryz.underlying9) ?_)));refine dK (fun W r=>mF q W (by rw[Aq];unfold R47;omega)) (aW (fun a=>(aX 0 a (zn (zs (zB [0,1,0] [(a,1)] (zn (dO ((z:Int)==0) I ?_))))))));refine zk (zs ?_);refine dH (α:=Bool) (fun j=>[0,1,2,6,7,8,38].zip [(St s),(I6 (i:Int)),(I6 (d:Int)),(I6 0),(I6 0),(Pt a 0),(.bool j)]) (fun j=>U) (fun j=>[(bK a [(L6 z),(L6 m),(N6 (n:Nat)),(.bool false)] 265)]) (fun j=>j=false) ?_ ?_
 ·refine zr (cG [0,1,0,0] [(a,1)] (lO 24 (m:Int) 0 (fun L M=>?_) (fun L _=>?_)))
  ·refine cG [0,1,0,0,0] [(a,1)] (lO 29 (m:Int) 2 (fun N O=>?_) (fun N _=>?_))
   ·refine cG [0,1,0,0,0] [(a,1)] (lO 34 (m:Int) 3 (fun V X=>?_) (fun V _=>?_))
    ·refine cG [0,1,0,0] [(a,1)] (zn ?_);refine jn ((m:Int) !=4) ?_;exfalso;omega
    ·refine zq 4 (zn ?_);refine jn false ?_;rfl
   ·refine zq 9 (zn ?_);refine jn false ?_;rfl
  ·refine zq 14 (zn ?_);refine jn false ?_;rfl
 intro j D;refine dO j D ?_;refine zk (zs (zQ 2 (zn (dO ((d:Int)==0) E ?_))));refine zk (zB [0,0,1,0] [(a,1)] (eC 46 ((i:Int)+(z:Int)) (zq 1 (zn (zs (zB [0,1,0] [(a,1)] (zn (dO ((m:Int)==0) F ?_))))))));refine zk (zs (zB [0,1,0] [(a,1)] (zn (iA (decide ((m:Int)<4)) G ?_))));refine zs (zB [0,1,0,0,1,0,0,0,0] [(a,1),(a,1)] (eC 62 ((((s).length:Nat):Int)-((i:Int)+(z:Int))) (zq 1 (dS 63 (U6 (IntKind.u64.wrap ((((s).length:Nat):Int)-((i:Int)+(z:Int))))) (U6 ((((s).length:Nat):Int)-((i:Int)+(z:Int)))) (Ag (Value.int .u64) (u64_in oW oW)) ?_))));refine zq 2 (zn (cE ((n:Int)>((((s).length:Nat):Int)-((i:Int)+(z:Int)))) (fun u y=>?_) (fun u y=>?_)))
 ·refine zQ 3 (zn (aA (aO [6,7] [(I6 (i:Int)),(I6 2)] (fun K r=>?_))));have A:=Bj u;exact aH r (View.le_refl _) (by unfold dF;rw[f oW];exact⟨_,_,by decide,rfl⟩)
 ·refine zk (zB [0,0,1,0] [(a,1)] (eC 70 (n:Int) (zq 1 (eC 71 (((i:Int)+(z:Int))+(n:Int)) (zq 2 (zn (aA (aO [6,7] [(I6 (((i:Int)+(z:Int))+(n:Int))),(I6 0)] (fun K r=>?_)))))))));have A:=Au u;exact aH r (View.le_refl _) (by unfold dF;obtain⟨t9,Y⟩:=g oW;rw[Y];exact Ag (fun x=>Value.tuple #[.int .i64 x,.int .i64 0]) oW)
theorem aIC(s:List UInt8)(i d n z:Nat)(D:i≤s.length)(E:s.length≤1000000)(C:d≤1000)(w:World){U:View}(u:See U w)(c:hdF (s.drop i)=some (4,n,false,z))(x:0<d)(y:¬n≤1000):CP 147 #[.string (B s),.int .i64 (i:Int),.int .i64 (d:Int)] w (fO w U (dF s i d)):=by
 have j:((z:Int)==0)=false:=Ai.2 (by have:=qA c;omega);have q:=(eK c).1;rw[Aq]at q;have h:decide ((n:Int)>1000)=true:=Cc oW;have f:((d:Int)==0)=false:=Ai.2 oW;have g:itF d (s.drop i)=none:=by
  obtain⟨d,rfl⟩:∃k,d=k+1:=⟨d-1,by omega⟩;unfold itF;rw[c]
  show(if n≤1000 then _ else none)=none;rw[An y]
 refine dE 125 Tryz.func147 u ?_;refine zQ 2 (zn (zQ 2 (cD (St (s.drop i)) (iK 9 _ (some _) none rfl s i s.length (s.drop i) kR (show evS _ _=_ by kernel_rfl) rfl nL nL (dQ _ _) Tryz.underlying9) ?_)));refine dK (fun W r=>mF c W (by rw[Aq];unfold R47;omega)) (aW (fun a=>(aX 0 a (zn (zs (zB [0,1,0] [(a,1)] (zn (dO ((z:Int)==0) j ?_))))))));refine zk (zs (zB [0,1,0,0,0,1,0,0,0,0,1,0,0,0,0,1,0,0] [(a,1),(a,1),(a,1),(a,1)] (zn (dD (zk (zs (zQ 2 (zn (dO ((d:Int)==0) f ?_)))))))));refine zk (zB [0,0,1,0] [(a,1)] (eC 46 ((i:Int)+(z:Int)) (zq 1 (zn (zs (zB [0,1,0] [(a,1)] (zn (dD (zk (zs (zB [0,1,0] [(a,1)] (zn (dD (zk (zs (zB [0,1,0,0,0,1,0,0] [(a,1),(a,1)] (zn (iA (decide ((n:Int)>1000)) h ?_))))))))))))))))));refine zQ 3 (zn (aA (aO [6,7] [(I6 (i:Int)),(I6 4)] (fun A r=>?_))));exact aH r (View.le_refl _) (by unfold dF;rw[g];exact⟨_,_,by decide,rfl⟩)
theorem aDK{s:List UInt8}{m n z:Nat}{o:Bool}(h:hdF s=some (m,n,o,z)):(o=false∧s.take z=Itm.aE m n)∨(o=true∧pI (m:Int)=true∧n=0∧z=1∧s.take 1=[UInt8.ofNat (32*m+31)]):=by
 unfold hdF at h;split at h
 ·cases h
 ·next c g=>
  have y:=c.toNat_lt;have f:s.take 1=[c]:=by
   cases s with
   |nil=>simp at g
   |cons a s=>
    simp only[Bo,Ab]at g;subst g;rfl
  have d:UInt8.ofNat (32*(c.toNat/32)+c.toNat%32)=c:=by
   apply UInt8.toNat_inj.1;rw[show 32*(c.toNat/32)+c.toNat%32=c.toNat by omega];simp
  unfold hd1 at h;split at h
  ·next j=>
   simp only[Ab,Am]at h;obtain⟨rfl,rfl,rfl,rfl⟩:=h;refine .inl ⟨rfl,?_⟩;rw[f];unfold Itm.aE;rw[Ar j,d]
  ·split at h
   ·next j=>
    simp only[Ab,Am]at h;obtain⟨rfl,rfl,rfl,rfl⟩:=h;rw[j.1]at d;exact .inr ⟨rfl,j.2,rfl,rfl,by rw[f,d]⟩
   ·split at h
    ·cases h
    ·next A B C=>
     unfold hd2 at h;split at h
     ·cases h
     ·split at h
      ·cases h
      ·next q r=>
       simp only[Ab,Am]at h;obtain⟨rfl,rfl,rfl,rfl⟩:=h;refine .inl ⟨rfl,?_⟩;have k:1+2^(c.toNat%32-24)≤s.length:=by
        rw[Ak]at q;exact Nat.le_of_not_lt fun h=>q (Int.ofNat_lt.2 h)
       have u:=aBH g rfl (show c.toNat%32=24+(c.toNat%32-24) by omega) (show 2^(c.toNat%32-24)=2^(c.toNat%32-24)from rfl) oW k;have x:((Itm.aE (c.toNat/32) (dX 0 ((s.drop 1).take (2^(c.toNat%32-24))))).length==1+2^(c.toNat%32-24))=true:=by
        rw[Cb,Decidable.not_not]at r;exact Cy.2 (Int.ofNat_inj.1 r)
       rw[x]at u;exact(Cy.1 u).symm
theorem aBT{s:List UInt8}(h:aAf s=true):s.take 1=[255]:=by
 unfold aAf at h;split at h
 ·next m n o z g=>
  rw[Ae]at h;obtain⟨d,c⟩:=h;have f:m=7:=by
   have:=eq_of_beq d;omega
  subst f;rcases aDK g with⟨a,_⟩|⟨_,_,_,_,a⟩
  ·rw[a]at c;cases c
  ·exact a
 ·cases h
theorem aBS{s:List UInt8}{e:Nat}:aAf (s.drop e)=true↔s[e]? =some 255:=by
 constructor
 ·intro h;have c:=aBT h;cases d:s.drop e with
  |nil=>rw[d]at c;cases c
  |cons a r=>
   rw[d]at c;simp only[Ed,Da,Em,Fl]at c;have f:(s.drop e)[0]? =some a:=by rw[d];rfl
   rw[Ej,Df]at f;rw[f,c]
 ·intro h;have d:s.drop e=255::s.drop (e+1):=by
   obtain⟨j,g⟩:=Af.1 h;rw[Bx j,g]
  rw[d];exact aDV _
theorem aAG{P : Itm.Tr → Prop}{f : List UInt8 → Option (Itm.Tr × Nat)}(c : ∀ s t k, f s = some (t, k) → P t ∧ Itm.aG t = s.take k) : ∀ (n : Nat) (s : List UInt8) (l : List Itm.Tr) (k : Nat), fJ f n s = some (l, k) → (∀ x ∈ l, P x) ∧ Itm.aY l = s.take k
 |0,s,l,k,h=>by
  rw[fJ]at h;simp only[Ab,Am]at h;obtain⟨rfl,rfl⟩:=h;exact⟨fun x a=>(by cases a),by rw[Itm.aY,Da]⟩
 |n+1,s,l,k,h=>by
  rw[fJ]at h;split at h
  ·cases h
  ·next t A u=>
   split at h
   ·cases h
   ·next ts j y=>
    simp only[Ab,Am]at h;obtain⟨rfl,rfl⟩:=h;obtain⟨d,g⟩:=c _ _ _ u;obtain⟨q,r⟩:=aAG c n _ _ _ y;refine⟨fun x a=>?_,by rw[Itm.aY,g,r,List.take_add]⟩;rcases Bh.1 a with rfl|a
    ·exact d
    ·exact q x a
theorem aCG{P : Itm.Tr → Prop}{f : List UInt8 → Option (Itm.Tr × Nat)}(d : ∀ s t k, f s = some (t, k) → P t ∧ Itm.aG t = s.take k) : ∀ (n : Nat) (s : List UInt8) (l : List Itm.Tr) (k : Nat), gY f n s = some (l, k) → (∀ x ∈ l, P x) ∧ Itm.aY l ++ [255] = s.take k
 |0,s,l,k,h=>by
  rw[gY]at h;split at h
  ·next c=>
   simp only[Ab,Am]at h;obtain⟨rfl,rfl⟩:=h;exact⟨fun x a=>(by cases a),by rw[Itm.aY,aBT c];rfl⟩
  ·cases h
 |n+1,s,l,k,h=>by
  rw[gY]at h;split at h
  ·next c=>
   simp only[Ab,Am]at h;obtain⟨rfl,rfl⟩:=h;exact⟨fun x a=>(by cases a),by rw[Itm.aY,aBT c];rfl⟩
  ·split at h
   ·cases h
   ·next t B y=>
    split at h
    ·cases h
    ·next ts j A=>
     simp only[Ab,Am]at h;obtain⟨rfl,rfl⟩:=h;obtain⟨g,q⟩:=d _ _ _ y;obtain⟨r,u⟩:=aCG d n _ _ _ A;refine⟨fun x a=>?_,by rw[Itm.aY,Al,q,u,List.take_add]⟩;rcases Bh.1 a with rfl|a
     ·exact g
     ·exact r x a
def aQZ(d:Nat)(t:Itm.Tr):Prop:=Itm.aJ d t=true∧Itm.NOk t
theorem tQ{m:Int}{x:List UInt8×Rd}{t:Itm.Tr}{k:Nat}(h:mL m x=some (t,k)):x.2.e=0∧t=.mk m 0 x.1 [] false∧k=x.2.at_:=by
 unfold mL at h;split at h
 ·next a=>
  simp only[Ab,Am]at h;exact⟨eq_of_beq a,h.1.symm,h.2.symm⟩
 ·cases h
theorem aBf{s:List UInt8}{n z most:Nat}{o:Bool}(h:(sF s n z o most).2.e=0)(f:z≤s.length):o=false∧n+z≤s.length∧n≤most∧sF s n z o most=((s.drop z).take n,⟨s,z+n,-1,0,0⟩):=by
 unfold sF at h ⊢;split at h
 ·cases h
 ·next a=>
  split at h
  ·cases h
  ·next c=>
   split at h
   ·cases h
   ·next d=>
    rw[An a,An c,An d];rw[Ak]at c d;exact⟨by simpa using a,by omega,by omega,rfl⟩
theorem aNg{l:List Itm.Tr}(h:∀x∈l,Itm.NOk x){o:Bool}:Itm.NOk (.mk 4 0 [] l o):=.mk 4 0 [] l o (by decide) (by decide) fun i t a=>h t (Ad a)
theorem sS : ∀ (d : Nat) (s : List UInt8) (t : Itm.Tr) (k : Nat), itF d s = some (t, k) → aQZ d t ∧ Itm.aG t = s.take k
 |0,s,t,k,h=>by rw[itF]at h;cases h
 |d+1,s,t,k,h=>by
  rw[itF]at h;split at h
  ·cases h
  ·next m n o z f=>
   have I:=(eK f).1;have E:=(aAD f).1;have a:=aDK f;split at h
   ·next r=>
    subst r;simp only[Ab,Am]at h;obtain⟨rfl,rfl⟩:=h;refine⟨⟨by rw[Itm.aJ];rfl,.mk 0 n [] [] false E (by decide) fun i t B=>by simp at B⟩,?_⟩;rcases a with⟨_,a⟩|⟨_,a,_⟩
    ·rw[Itm.lZ,a]
    ·cases a
   ·split at h
    ·next r=>
     subst r;obtain⟨D,rfl,rfl⟩:=tQ h;obtain⟨u,y,J,G⟩:=aBf D I;have c:((s.drop z).take n).length=n:=by rw[Bb,Aq];omega
     rw[G];refine⟨⟨by rw[Itm.aJ];rfl,.mk 2 0 _ [] false (by decide) (by rw[c];exact E) fun i t B=>by simp at B⟩,?_⟩;rcases a with⟨_,a⟩|⟨a,_⟩
     ·rw[Itm.oM,c,List.take_add,a]
     ·rw[u]at a;cases a
    ·split at h
     ·next r=>
      subst r;obtain⟨D,rfl,rfl⟩:=tQ h;obtain⟨u,y,J,G⟩:=aBf D I;have c:((s.drop z).take n).length=n:=by rw[Bb,Aq];omega
      rw[G];refine⟨⟨by rw[Itm.aJ];rfl,.mk 3 0 _ [] false (by decide) (by rw[c];exact E) fun i t B=>by simp at B⟩,?_⟩;rcases a with⟨_,a⟩|⟨a,_⟩
      ·rw[Itm.oL,c,List.take_add,a]
      ·rw[u]at a;cases a
     ·split at h
      ·next r=>
       subst r;split at h
       ·next u=>
        subst u;cases g:gY (itF d) 1000 (s.drop z)with
        |none=>rw[g]at h;cases h
        |some q=>
         obtain⟨l,j⟩:=q;rw[g]at h;simp only[lI,Ab,Am]at h;obtain⟨rfl,rfl⟩:=h;have y:=(sM (gD d) _ _ _ _ g).2;obtain⟨A,C⟩:=aCG (sS d) _ _ _ _ g;rcases a with⟨a,_⟩|⟨_,_,_,rfl,a⟩
         ·cases a
         refine⟨⟨?_,aNg fun x f=>(A x f).2⟩,by rw[Itm.oN,List.take_add,a,C];rfl⟩;rw[Itm.aJ,Ae,Ao];refine⟨?_,fun x f=>(A x f).1⟩;show Itm.okN 4 0 [] l.length true=true;unfold Itm.okN;simp[y]
       ·next u=>
        split at h
        ·next F=>
         cases g:fJ (itF d) n (s.drop z)with
         |none=>rw[g]at h;cases h
         |some q=>
          obtain⟨l,j⟩:=q;rw[g]at h;simp only[lI,Ab,Am]at h;obtain⟨rfl,rfl⟩:=h;have y:=(pE (gD d) _ _ _ _ g).2;obtain⟨A,C⟩:=aAG (sS d) _ _ _ _ g;rcases a with⟨_,a⟩|⟨a,_⟩
          ·refine⟨⟨?_,aNg fun x f=>(A x f).2⟩,by rw[Itm.iD,List.take_add,a,C,y]⟩;rw[Itm.aJ,Ae,Ao];refine⟨?_,fun x f=>(A x f).1⟩;show Itm.okN 4 0 [] l.length false=true;unfold Itm.okN;simp[y,F]
          ·exact absurd a u
        ·cases h
      ·cases h
theorem aGV : ∀ (d : Nat) (t : Itm.Tr), Itm.aJ d t = true → Itm.aJ (d + 1) t = true
 |0,t,h=>by cases h
 |d+1,t,h=>by
  rw[Itm.aJ,Ae,Ao]at h ⊢;exact⟨h.1,fun x a=>aGV d x (h.2 x a)⟩
theorem aLT{d e:Nat}(a:d≤e){t:Itm.Tr}(h:Itm.aJ d t=true):Itm.aJ e t=true:=by
 induction a with
 |refl=>exact h
 |step _ ih=>exact aGV _ t ih
theorem aG7{d e:Nat}(a:d≤e){s r:List UInt8}{t:Itm.Tr}{k:Nat}(h:itF d s=some (t,k))(u:s.length≤1073741824):itF e (s.take k++r)=some (t,k):=by
 obtain⟨⟨f,g⟩,c⟩:=sS d s t k h;have j:=gD d s t k h;have q:(Itm.aG t).length=k:=by rw[c,Bb];omega
 have:=lW e t r (aLT a f) g (by rw[q];omega);rw[c]at this;rw[this,Bb,Ep j]
theorem aNl{d e:Nat}(a:d≤e){s:List UInt8}{t:Itm.Tr}{k:Nat}(h:itF d s=some (t,k))(c:s.length≤1073741824):itF e s=some (t,k):=by
 have:=aG7 a (r:=s.drop k) h c;rwa[Cn]at this
theorem aMq{d:Nat}{s:List UInt8}{t:Itm.Tr}{k:Nat}(h:itF d s=some (t,k))(a:s.length≤1073741824):itF d (s.take k)=some (t,k):=by
 have:=aG7 (Bg d) (r:=[]) h a;rwa[Aj]at this
theorem aOv{d:Nat}{s:List UInt8}{t:Itm.Tr}{k:Nat}(h:itF d s=some (t,k)):1≤k:=by
 obtain⟨_,a⟩:=sS d s t k h;by_cases j:k=0
 ·subst j;rw[Da]at a;have:itF d s=none:=by
   exfalso;obtain⟨q,n,r,l,o⟩:=t;rw[Itm.aG]at a;have c:=(Itm.aD 0 n).1;have f:=(Itm.aD q.toNat r.length).1;have g:=(Itm.aD 4 l.length).1;split at a
   ·rw[a]at c;simp at c
   ·split at a
    ·rw[(List.append_eq_nil_iff.1 a).1]at f;simp at f
    ·split at a
     ·simp at a
     ·rw[(List.append_eq_nil_iff.1 a).1]at g;simp at g
  rw[h]at this;cases this
 ·omega
end Go.Proofs.YtcdjakemdlinhaaGreatDoor.Sx
