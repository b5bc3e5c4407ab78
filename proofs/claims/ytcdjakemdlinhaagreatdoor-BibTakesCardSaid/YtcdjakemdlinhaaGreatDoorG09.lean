/-
  Several texts in one: Asb8 Mxd Ps3 Ps4 Ps5 Ps6 Asb9 Mix1 Mix2 Mxr Mix3 Sx23 Mix4 Sx22 Sx24 Mix5 Mix6 Sx25 Sx26 Sx27 Sx28 Sx29 NumsS.
  Conditions: named at each.
-/
import Derived.Test.YtcdjakemdlinhaaGreatDoorG08
set_option maxHeartbeats 16000000
set_option linter.unusedSimpArgs false
set_option linter.unusedVariables false
set_option linter.unusedSectionVars false
namespace Go.Proofs.YtcdjakemdlinhaaGreatDoor.Sx
open Go.ChangeShapes Go.WideShapes Go.ChangeAt Go.RowKit Go.Deep
theorem aGX(d:Addr)(l:List Itm.Tr)(aL:Option Addr)(cL:Nat)(w:World){U:View}(hU:See U w)(L:EF U d)(hl:eZ U aL l)(r:aQV l):CP 139 #[.slice aL l.length cL] w (fO w U (aOU d (asR l))):=by
 have l0:=hl.len;unfold R47 at l0;refine dE 81 Tryz.func139 hU ?_;refine zs (zr (aW (fun c=>(zq 1 (zn (zs ?_))))));refine dH (α:=Bool) (fun g=>[0,2,3,13].zip [(.slice aL l.length cL),(Pt c 0),.nilIface,(.bool g)]) (fun g=>U) (fun g=>[(c,.cells Z8.toArray 96 (0,0))]) (fun g=>(g=true→l.length≠5∧l.length≠6)∧(g=false→l.length=5∨l.length=6)) ?_ ?_
 ·refine zr (zq 4 (lO 9 (l.length:Int) 5 (fun h0 n5=>?_) (fun h0 n5=>?_)))
  ·refine zq 4 (zn ?_);refine jn ((l.length:Int) !=6) ?_;exact⟨(fun h=>by have:=Cb.1 h;omega),(fun h=>by have:=Bq.1 h;omega)⟩
  ·refine zq 4 (zn ?_);refine jn false ?_;exact⟨(fun h=>by cases h),(fun _=>by omega)⟩
 intro g k8;refine gN g (fun h1=>?_) (fun h1=>?_)
 ·have n7:=k8.1 h1;refine zs ?_;refine iM 0 [3,1] [(c,8)] [.val (Er.V d (Er.wrap [105,116,101,109,115] .leaf))] ⟨?_,trivial⟩ ?_
  ·exact vC 184 #[(St [105,116,101,109,115])] (fun W a=>rX d [105,116,101,109,115] W a.view L)
  refine aX 0 c (zq 1 (zn (aA (dL [1,0] [(c,8)] [(.agg Z8.toArray),(Er.V d (Er.wrap [105,116,101,109,115] .leaf))] (fun W' a=>?_)))));have G:asR l=none:=aOM oW;rw[G];exact aH a (View.le_refl _) ⟨_,_,_,_,_,_,_,_,_,_,_,_,_,_,(Er.wrap [105,116,101,109,115] .leaf),rfl⟩
 ·have n7:=k8.2 h1;refine zk (zs (zQ 1 ?_));obtain⟨Z,D⟩:∃y,(l)[0]? =some y:=⟨(l)[0]'oW,Aa _⟩;obtain⟨g,E,s4,rfl,o0,o4⟩:=hl.at_ 0 Z D;obtain⟨a1,c1,rfl,b4,u4,u7,u1⟩:=o4.form;refine cD (Pt g (E+0*5)) (rIx 89 rfl g E l.length cL 0 5) ?_;refine zU g (E+0*5) (tC Z a1 c1) o0 89 (.tmp 18) _ Tryz.underlying89 rfl ?_;rcases Ax ((aHF Z).isSome)with h2|h2
  ·refine mC 185 #[(tV Z a1 c1)] (aFh InR 1 d (aHF Z)) (fun W a=>pV d Z _ _ W a.view L b4 (r Z (Ad D)).1) (fun v2 V2 f n9=>?_);have k3:=hl.le f;obtain⟨l2,a2,c2,N,rfl,l1,k9⟩:=(n9).some h2;have a8:=l1.ins;refine zq 4 (aX 0 c (zq 1 (zn (zQ 1 (cD (.bool false) (oU .neq false _ _ _ rfl (Or.inr ⟨rfl,rfl⟩) kR kR) ?_)))));refine zn (dD (zk (zs (zQ 1 ?_))));obtain⟨y6,I⟩:∃y,(l)[1]? =some y:=⟨(l)[1]'oW,Aa _⟩;obtain⟨b6,f6,s5,e6,o1,m1⟩:=k3.at_ 1 y6 I;obtain⟨a6,c6,rfl,q9,u5,u9,u2⟩:=m1.form;cases e6;refine cD (Pt g (E+1*5)) (rIx 89 rfl g E l.length cL 1 5) ?_;refine zU g (E+1*5) (tC y6 a6 c6) o1 89 (.tmp 30) _ Tryz.underlying89 rfl ?_;rcases Ax (y6.k==0)with h3|h3
   ·have u0:=eq_of_beq h3;refine cY 186 #[(tV y6 a6 c6)] (.tuple #[(L6 (min y6.n 65536)),.nilIface]) (fun W a=>aJ0 d y6 _ _ W a.view h3 (by obtain⟨_,_,_,_,h9,_⟩:=(m1).form;exact h9)) ?_;refine zq 4 (aX 0 c (zq 1 (zn (zQ 1 (cD (.bool false) (oU .neq false _ _ _ rfl (Or.inr ⟨rfl,rfl⟩) kR kR) ?_)))));refine zn (dD (zk (zQ 1 ?_)));obtain⟨y7,J⟩:∃y,(l)[3]? =some y:=⟨(l)[3]'oW,Aa _⟩;obtain⟨b7,f7,s6,e7,o2,O⟩:=k3.at_ 3 y7 J;obtain⟨a7,c7,rfl,r0,u6,v7,u3⟩:=O.form;cases e7;refine cD (Pt g (E+3*5)) (rIx 89 rfl g E l.length cL 3 5) ?_;refine zU g (E+3*5) (tC y7 a7 c7) o2 89 (.tmp 42) _ Tryz.underlying89 rfl ?_;rcases Ax ((ofE y7).isSome)with h4|h4
    ·obtain⟨q,F⟩:=Cg.1 h4;refine cY 187 #[(tV y7 a7 c7)] (.tuple #[(.agg #[(I6 q.s),(St q.l),(N6 q.n),(N6 q.v)]),(I6 0)]) (fun W a=>aMA F _ W a.view O) ?_;refine zq 3 (aW (fun b9=>(aX 1 b9 (zq 1 (zn (zs (zQ 2 (zn (dD (zk (zB [2,0] [(b9,4)] (aX 0 c (zn (zs (zQ 3 (zn (fQ (l.length:Int) 6 (fun h5 n8=>?_) (fun h5 n8=>?_))))))))))))))))))
     ·refine zQ 1 ?_;obtain⟨B,C⟩:∃y,(l)[4]? =some y:=⟨(l)[4]'oW,Aa _⟩;obtain⟨r8,s7,p4,n0,k0,l9⟩:=k3.at_ 4 B C;obtain⟨b5,c4,rfl,V,q3,q6,q0⟩:=l9.form;cases n0;refine cD (Pt g (E+4*5)) (rIx 89 rfl g E l.length cL 4 5) ?_;refine zU g (E+4*5) (tC B b5 c4) k0 89 (.tmp 58) _ Tryz.underlying89 rfl ?_;rcases Ax ((jJ B).isSome)with h6|h6
      ·refine mC 188 #[(tV B b5 c4)] (aFh PaR 6 d (jJ B)) (fun W a=>lF d B _ _ W a.view (L.le f) V (r B (Ad C)).1) (fun v8 r1 u j3=>?_);have o5:=k3.le u;have o6:=a8.le u;have o7:=O.le u;obtain⟨e5,e9,j0,b2,rfl,e2,p7⟩:=(j3).some h6;refine zq 4 (aX 0 c (zq 1 (zn (zQ 1 (cD (.bool false) (oU .neq false _ _ _ rfl (Or.inr ⟨rfl,rfl⟩) kR kR) ?_)))));refine zn (dD (zk (zQ 4 (dS 72 (I6 (IntKind.i64.wrap ((l.length:Int)-1))) (L6 (l.length-1)) (Ag (Value.int .i64) (by rw[IntWalk.i64_in _ oW];omega)) ?_))));obtain⟨j,x⟩:∃y,(l)[(l.length-1)]? =some y:=⟨(l)[(l.length-1)]'oW,Aa _⟩;obtain⟨s0,s8,p5,n1,k1,m0⟩:=o5.at_ (l.length-1) j x;obtain⟨b8,c8,rfl,X,q4,q7,q1⟩:=m0.form;cases n1;refine cD (.pointer (some ⟨g,E+(l.length-1)*5,none⟩)) (rIx 89 rfl g E l.length cL (l.length-1) 5) ?_;refine zU g (E+(l.length-1)*5) (tC j b8 c8) k1 89 (.tmp 73) _ Tryz.underlying89 rfl ?_;rcases Ax ((aJC j).isSome)with h7|h7
       ·refine mC 189 #[(tV j b8 c8)] (aFh RlR 1 d (aJC j)) (fun W a=>iS d j _ _ W a.view (L.le (View.le_trans f u)) X (r j (Ad x)).1 (r j (Ad x)).2) (fun w0 r2 K j4=>?_);have o8:=o6.le K;have o9:=e2.le K;have p1:=o7.le K;obtain⟨m3,m5,m8,l3,rfl,e3,p8⟩:=(j4).some h7;refine zq 4 (aX 0 c (zq 1 (zn (zB [1,0] [(c,8)] (aX 0 c (zq 1 (zn (aA (dL [1,0] [(c,8)] [(.agg #[(.slice a2 l2.length c2),(L6 (min y6.n 65536)),(I6 q.s),(St q.l),(N6 q.n),(N6 q.v),(.slice e9 e5.length j0),(.slice m5 m3.length m8)]),.nilIface] (fun W' a=>?_))))))))));have G:asR l=some ⟨l2,((min y6.n 65536:Nat):Int),q,e5,m3⟩:=by rw[aON oW D I J C (by rw[show 5=l.length-1 by omega];exact x) N (lV h3) F,b2];unfold aLn;rw[l3]
        rw[G];exact aH a (View.le_trans (View.le_trans f u) K) ⟨_,_,_,_,_,_,rfl,⟨o8,o9,e3,aEL F a.view p1⟩,k9⟩
       ·refine mC 189 #[(tV j b8 c8)] (aFh RlR 1 d (aJC j)) (fun W a=>iS d j _ _ W a.view (L.le (View.le_trans f u)) X (r j (Ad x)).1 (r j (Ad x)).2) (fun w1 r3 k4 j5=>?_);obtain⟨l4,j1,rfl⟩:=(j5).none h7;refine zq 4 (aX 0 c (zq 1 (zn (zB [1,0] [(c,8)] (aX 0 c (zq 1 (zn (aA (dL [1,0] [(c,8)] [(.agg #[(.slice a2 l2.length c2),(L6 (min y6.n 65536)),(I6 q.s),(St q.l),(N6 q.n),(N6 q.v),(.slice e9 e5.length j0),S0]),(Er.V d j1)] (fun W' a=>?_))))))))));have G:asR l=none:=by rw[aON oW D I J C (by rw[show 5=l.length-1 by omega];exact x) N (lV h3) F,b2];unfold aLn;rw[l4]
        rw[G];exact aH a (View.le_trans (View.le_trans f u) k4) ⟨_,_,_,_,_,_,_,_,_,_,_,_,_,_,j1,rfl⟩
      ·refine mC 188 #[(tV B b5 c4)] (aFh PaR 6 d (jJ B)) (fun W a=>lF d B _ _ W a.view (L.le f) V (r B (Ad C)).1) (fun w2 r4 k5 j6=>?_);obtain⟨l5,e0,rfl⟩:=(j6).none h6;refine zq 4 (aX 0 c (zq 1 (zn (zQ 1 (cD (.bool true) (aAt .neq true _ _ _ _ rfl (Or.inr ⟨rfl,rfl⟩) kR d e0 kR kR) ?_)))));refine zn (dP (zB [1,0] [(c,8)] (aX 0 c (zq 1 (zn (aA (dL [1,0] [(c,8)] [(.agg #[(.slice a2 l2.length c2),(L6 (min y6.n 65536)),(I6 q.s),(St q.l),(N6 q.n),(N6 q.v),S0,S0]),(Er.V d e0)] (fun W' a=>?_))))))));have G:asR l=none:=by obtain⟨r9,o3⟩:∃y,l[5]? =some y:=get_some oW;rw[aON oW D I J C o3 N (lV h3) F,l5]
       rw[G];exact aH a (View.le_trans f k5) ⟨_,_,_,_,_,_,_,_,_,_,_,_,_,_,e0,rfl⟩
     ·refine zk (zQ 4 (dS 72 (I6 (IntKind.i64.wrap ((l.length:Int)-1))) (L6 (l.length-1)) (Ag (Value.int .i64) (by rw[IntWalk.i64_in _ oW];omega)) ?_));obtain⟨k,A⟩:∃y,(l)[(l.length-1)]? =some y:=⟨(l)[(l.length-1)]'oW,Aa _⟩;obtain⟨s3,s9,p6,n2,k2,m2⟩:=k3.at_ (l.length-1) k A;obtain⟨c0,c9,rfl,Y,q5,q8,q2⟩:=m2.form;cases n2;refine cD (.pointer (some ⟨g,E+(l.length-1)*5,none⟩)) (rIx 89 rfl g E l.length cL (l.length-1) 5) ?_;refine zU g (E+(l.length-1)*5) (tC k c0 c9) k2 89 (.tmp 73) _ Tryz.underlying89 rfl ?_;rcases Ax ((aJC k).isSome)with h8|h8
      ·refine mC 189 #[(tV k c0 c9)] (aFh RlR 1 d (aJC k)) (fun W a=>iS d k _ _ W a.view (L.le f) Y (r k (Ad A)).1 (r k (Ad A)).2) (fun w3 r5 M j7=>?_);have p2:=a8.le M;have p3:=O.le M;obtain⟨m4,m6,m9,l6,rfl,e4,p9⟩:=(j7).some h8;refine zq 4 (aX 0 c (zq 1 (zn (zB [1,0] [(c,8)] (aX 0 c (zq 1 (zn (aA (dL [1,0] [(c,8)] [(.agg #[(.slice a2 l2.length c2),(L6 (min y6.n 65536)),(I6 q.s),(St q.l),(N6 q.n),(N6 q.v),S0,(.slice m6 m4.length m9)]),.nilIface] (fun W' a=>?_))))))))));have G:asR l=some ⟨l2,((min y6.n 65536:Nat):Int),q,[],m4⟩:=by rw[aP9 oW D I J (by rw[show 4=l.length-1 by omega];exact A) N (lV h3) F];unfold aLn;rw[l6]
       rw[G];exact aH a (View.le_trans f M) ⟨_,_,_,_,_,_,rfl,⟨p2,gF.nil,e4,aEL F a.view p3⟩,k9⟩
      ·refine mC 189 #[(tV k c0 c9)] (aFh RlR 1 d (aJC k)) (fun W a=>iS d k _ _ W a.view (L.le f) Y (r k (Ad A)).1 (r k (Ad A)).2) (fun w4 r6 k6 j8=>?_);obtain⟨l7,j2,rfl⟩:=(j8).none h8;refine zq 4 (aX 0 c (zq 1 (zn (zB [1,0] [(c,8)] (aX 0 c (zq 1 (zn (aA (dL [1,0] [(c,8)] [(.agg #[(.slice a2 l2.length c2),(L6 (min y6.n 65536)),(I6 q.s),(St q.l),(N6 q.n),(N6 q.v),S0,S0]),(Er.V d j2)] (fun W' a=>?_))))))))));have G:asR l=none:=by rw[aP9 oW D I J (by rw[show 4=l.length-1 by omega];exact A) N (lV h3) F];unfold aLn;rw[l7]
       rw[G];exact aH a (View.le_trans f k6) ⟨_,_,_,_,_,_,_,_,_,_,_,_,_,_,j2,rfl⟩
    ·have b3:=Eh.1 (by rw[h4];exact Bn);refine cY 187 #[(tV y7 a7 c7)] (.tuple #[(.agg #[(I6 0),(St []),(U6 0),(U6 0)]),(I6 2)]) (fun W a=>aMB b3 _ W a.view O) ?_;refine zq 3 (aW (fun m7=>(aX 1 m7 (zq 1 (zn (zs (zQ 2 (zn (dP (zs ?_))))))))));refine iM 0 [3,1] [(c,8)] [.val (Er.V d (Er.wrap [110,97,109,101] .leaf))] ⟨?_,trivial⟩ ?_
     ·exact vC 184 #[(St [110,97,109,101])] (fun W a=>rX d [110,97,109,101] W a.view (L.le f))
     refine aX 0 c (zq 1 (zn (aA (dL [1,0] [(c,8)] [(.agg #[(.slice a2 l2.length c2),(L6 (min y6.n 65536)),(I6 0),(St []),(U6 0),(U6 0),S0,S0]),(Er.V d (Er.wrap [110,97,109,101] .leaf))] (fun W' a=>?_)))));have G:asR l=none:=aQS J b3;rw[G];exact aH a f ⟨_,_,_,_,_,_,_,_,_,_,_,_,_,_,(Er.wrap [110,97,109,101] .leaf),rfl⟩
   ·refine cY 186 #[(tV y6 a6 c6)] (.tuple #[(I6 0),(Er.V d (Er.wrap [110,117,109,98,101,114] .leaf))]) (fun W a=>aJ1 d y6 _ _ W a.view (L.le f) h3) ?_;refine zq 4 (aX 0 c (zq 1 (zn (zQ 1 (cD (.bool true) (aAt .neq true _ _ _ _ rfl (Or.inr ⟨rfl,rfl⟩) kR d (Er.wrap [110,117,109,98,101,114] .leaf) kR kR) ?_)))));refine zn (dP (zB [1,0] [(c,8)] (aX 0 c (zq 1 (zn (aA (dL [1,0] [(c,8)] [(.agg #[(.slice a2 l2.length c2),(I6 0),(I6 0),(St []),(U6 0),(U6 0),S0,S0]),(Er.V d (Er.wrap [110,117,109,98,101,114] .leaf))] (fun W' a=>?_))))))));have G:asR l=none:=aQT I (aBy h3);rw[G];exact aH a f ⟨_,_,_,_,_,_,_,_,_,_,_,_,_,_,(Er.wrap [110,117,109,98,101,114] .leaf),rfl⟩
  ·refine mC 185 #[(tV Z a1 c1)] (aFh InR 1 d (aHF Z)) (fun W a=>pV d Z _ _ W a.view L b4 (r Z (Ad D)).1) (fun w5 r7 k7 j9=>?_);obtain⟨l8,e1,rfl⟩:=(j9).none h2;refine zq 4 (aX 0 c (zq 1 (zn (zQ 1 (cD (.bool true) (aAt .neq true _ _ _ _ rfl (Or.inr ⟨rfl,rfl⟩) kR d e1 kR kR) ?_)))));refine zn (dP (zB [1,0] [(c,8)] (aX 0 c (zq 1 (zn (aA (dL [1,0] [(c,8)] [(.agg Z8.toArray),(Er.V d e1)] (fun W' a=>?_))))))));have G:asR l=none:=aQR D l8;rw[G];exact aH a k7 ⟨_,_,_,_,_,_,_,_,_,_,_,_,_,_,e1,rfl⟩
structure Op where
 k:Int
 n:Int
 t:Int
def Op.cs(o:Op):List Value:=[.int .i64 o.k,.int .i64 o.n,.int .i64 o.t]
def Op.V(o:Op):Value:=.agg o.cs.toArray
def OpR(_:View)(o:Op)(cs:List Value):Prop:=cs=o.cs
instance opR:RecOk OpR 3:=⟨fun _ h=>h,fun h=>by rw[h];rfl,fun h u hu=>by
 rw[h]at hu;simp only[Op.cs,Bh,Bt,Ct]at hu;rcases hu with rfl|rfl|rfl<;>rfl⟩
open Classical in
noncomputable def eD(s:List UInt8):Option As:=if h:∃a:As,a.ok∧a.right=true∧a.bytes=s then some h.choose else none
theorem aBt{a:As}(c:a.ok)(h:a.right=true):eD a.bytes=some a:=by
 have d:∃b:As,b.ok∧b.right=true∧b.bytes=a.bytes:=⟨a,c,h,rfl⟩;unfold eD;rw[dif_pos d];obtain⟨f,g,j⟩:=d.choose_spec;rw[bytes_inj g h f c j]
theorem iH{s:List UInt8}{a:As}(h:eD s=some a):a.ok∧a.right=true∧a.bytes=s:=by
 unfold eD at h;split at h
 ·next c=>
  obtain rfl:=Bs h;exact c.choose_spec
 ·cases h
theorem jE{s:List UInt8}(h:∀a:As,a.ok→a.right=true→a.bytes≠s):eD s=none:=by
 unfold eD;rw[dif_neg fun⟨a,c,d,f⟩=>h a c d f]
def opsOf(kind n:Int)(ts:List Int):List Op:=ts.map fun t=>⟨kind,n,t⟩
noncomputable def aQk(typ kind ctx : Int)(out : Bk → Bool) : List Bk → Option (List Op)
 | []=>some []
 |x::l=>if x.t !=typ||out x then aQk typ kind ctx out l else match eD x.d with
  |none=>none
  |some a=>if a.c !=ctx then none else match aQk typ kind ctx out l with
   |none=>none
   |some r=>some (opsOf kind x.n a.t++r)
def aLc(l:List Op)(kind target:Int):Bool:=l.any fun o=>o.k==kind&&o.t==target
noncomputable def aQl(l:List Bk):Option (List Op):=match aQk 12 2 2 (fun _=>false) l with
 |none=>none
 |some se=>match aQk 11 1 1 (fun x=>aLc se 2 x.n) l with
  |none=>none
  |some si=>some (se++si)
def aPq(x:Bk):Bool:=x.t==11||x.t==12
def aHn(x:Bk):Bool:=x.t==6||x.t==7||x.t==10
def aO4(p:Pr)(l:List Bk):Bool:=(iY .u64 p.f 1==0)|| !(l.any aPq)
def aPe(l:List Bk)(ops:List Op):Bool:=ops.all fun o=>(fP l o.t).2||o.t==0
def aPL(pre : List Op) : List Op → Bool
 | []=>true
 |o::r=>if aLc pre o.k o.t then false else aPL (pre++[o]) r
def aJu(l : List Bk)(pre : List Op) : List Op → Bool
 | []=>true
 |o::r=>if o.k !=2 then aJu l (pre++[o]) r else if(pre.any fun q=>q.k==2&&q.n==o.n)||o.t==0||(fP l o.t).1.t==12||aHn (fP l o.t).1 then false else aJu l (pre++[o]) r
def aPo(l:List Bk)(ops:List Op)(o:Op):Bool:=o.k !=1||o.t==0|| !(aPq (fP l o.t).1||aHn (fP l o.t).1||aLc ops 2 o.t)
def aPn(l:List Bk)(ops:List Op):Bool:=ops.all (aPo l ops)
def aQm(p:Pr)(l:List Bk)(ops:List Op):Int:=if aO4 p l&&aPe l ops&&aPL [] ops&&aJu l [] ops&&aPn l ops then 0 else 8
noncomputable def aCl(p:Pr)(l:List Bk):Int:=if aU p l !=0 then aU p l else match aQl l with
 |none=>2
 |some ops=>aQm p l ops
def aM5(pre : List Int) : List Int → Bool
 | []=>false
 |n::r=>if pre.contains n then true else aM5 (pre++[n]) r
def aF7(l:List Bk)(kind:Int)(ts:List Int):Int:=if(kind !=1&&kind !=2)||ts.length==0 then 1 else if aM5 [] ts then 1 else if ts.all (fun t=>(fP l t).2||t==0)then 0 else 15
noncomputable def aNi(l:List Bk)(kind:Int)(ts:List Int):List Op:=(((aQl l).getD [])++opsOf kind (mE l:Int) ts).filter fun o=> !(kind==2&&o.k==1&&o.n==ts.headD 0)
noncomputable def aF5(p:Pr)(l:List Bk)(kind:Int)(ts:List Int):Int:=if aCl p l !=0 then aCl p l else if aF7 l kind ts !=0 then aF7 l kind ts else if iY .u64 p.f 1 !=0 then 8 else aQm p l (aNi l kind ts)
def tL(p:Nat)(ps:Ps)(x:Option (Itm.Tr×Nat))(v:Value)(V:View)(σ:aN):Prop:=∃t cs ps',v=.agg cs.toArray∧TV V t cs∧σ=[(p,Ps.O ps')]∧ps'.b=ps.b∧match x with
 |some (t',k)=>t=t'∧ps'.at_=ps.at_+k∧ps'.e=0
 |none=>ps'.e≠0
theorem tL.mono{p:Nat}{d:Ps}{x:Option (Itm.Tr×Nat)}{v:Value}{V c:View}{σ:aN}(h:View.le V c)(g:tL p d x v V σ):tL p d x v c σ:=by
 obtain⟨t,cs,a,e,f,r⟩:=g;exact⟨t,cs,a,e,f.le h,r⟩
theorem mZ{p:Nat}{a:Ps}{V:View}{at_:Nat}{e:Int}(d:a.e=0)(c:e≠0):tL p a none itZ V [(p,(a.fail at_ e).O)]:=by
 refine⟨Itm.cA 0,_,a.fail at_ e,rfl,TV.num V 0 (by decide),rfl,?_,?_⟩<;>unfold Ps.fail<;>rw[Ar (by rw[d];rfl)]
 exact c
theorem aQj(a:Rd)(r k:Nat){W0:Cx}{U:View}{σ:aN}{W:World}(f:Mem W0 U σ W)(g:σ[k]? =some (r,a.O)):CP 214 #[.pointer (some ⟨r,0,none⟩)] W (Ret (.int .i64 (a.at_:Int)) W):=by
 obtain⟨V,_,c,d⟩:=f.peek k r a.cs _ g;exact aL1 a r W d c
theorem TV.sk(V:View){k:Nat}(c:k=2∨k=3)(l:List UInt8)(a:l.length≤R47):TV V (.mk (k:Int) 0 l [] false) [.int .i64 (k:Int),.int .u64 0,.string (B l),.slice none 0 0,.bool false]:=by
 rcases c with rfl|rfl
 ·exact TV.str V l a
 ·exact TV.txt V l a
theorem aL6(a:Ps)(p:Nat)(k n z:Nat)(o:Bool)(X:List UInt8×Rd)(B:a.ok)(he:a.e=0)(hk:k=2∨k=3)(hx:hdF a.rest=some (k,n,o,z))(Y:sF a.rest n z o 1073741824=X){W0:Cx}{U:View}{g:aN}{W:World}(c:Mem W0 U ([(p,a.O)]++g) W):CP 215 #[.pointer (some ⟨p,0,none⟩),.int .i64 (k:Int)] W (iQ W0 U g (tL p a (mL (k:Int) X))):=by
 have a6:=B.le;have y:=B.len;unfold R47 at y;have a7:a.rest.length=a.b.length-a.at_:=Aq;have Z:=aDo (most:=1073741824) hx;rw[Y]at Z;have G:Mem W0 U ([(bK p [(St a.b),(I6 (a.at_:Int)),(I6 a.e)] 245)]++g) W:=c.eqv kR;refine fU 45 Tryz.func215 G ?_;refine zs (zr (fH 1 (fun j=>?_)));refine zn (zQ 1 (eM 0 (fun W c=>dV a p B c) (fun v1 V1 s1 r I=>?_)));obtain⟨f,rfl,rfl⟩:=I;refine zq 1 (zn (zQ 2 (fH 3 (fun q=>?_))));refine aX 3 q (zn ?_);refine dH (α:=Unit) (fun C=>[0,4,5,6].zip [(Pt p 0),(Pt j 0),(Pt f 0),(Pt q 0)]) (fun C=>V1) (fun C=>([(f,X.2.O),(bK p [(St a.b),(I6 (a.at_:Int)),(I6 a.e)] 245),(j,.cells [(I6 0),(U6 0),(St []),S0,(.bool false)].toArray 89 (0,0)),(bK q [(I6 (k:Int)),(U6 0),(St X.1),S0,(.bool false)] 89)]++g)) (fun C=>True) ?_ ?_
 ·refine zQ 2 (zn (fQ (k:Int) 2 (fun h0 D=>?_) (fun h0 D=>?_)))
  ·refine zr (zq 1 (jU 0 (f,(Rd.new a.rest).O) 239 #[(Pt f 0),(I6 1073741824)] (aLe f X) (fun W c=>Y▸aH1 a.rest f n z 1073741824 o ((show k=2 by omega)▸hx) (Ps.rest_len B) (by decide) c) (fun v3 V3 s3 N J=>?_)));obtain⟨rfl,rfl⟩:=J;refine zq 1 (aX 3 q (zn ?_));refine jn () ?_ (d:=fun _ h=>(h.weak N).eqv kR);trivial
  ·refine zr (zq 1 (jU 0 (f,(Rd.new a.rest).O) 240 #[(Pt f 0),(I6 1073741824)] (aLe f X) (fun W c=>Y▸aJF a.rest f n z 1073741824 o ((show k=3 by omega)▸hx) (Ps.rest_len B) (by decide) c) (fun v4 V4 s4 O K=>?_)));obtain⟨rfl,rfl⟩:=K;refine zq 1 (aX 3 q (zn ?_));refine jn () ?_ (d:=fun _ h=>(h.weak O).eqv kR);trivial
 intro C a8;refine zs (zQ 1 (eM 0 (x:=(f,X.2.O)) (fun W c=>iF X.2 f (c.eqv kR)) (fun v5 V5 s5 u L=>?_)));obtain⟨rfl,rfl⟩:=L;refine zq 5 (zn (zQ 2 (zn (jD X.2.e 0 (fun E F=>?_) (fun E F=>?_)))))
 ·refine zB [0,0,0,0,2,0] [(p,1)] (eM 1 (x:=(bK p [(St a.b),(I6 (a.at_:Int)),(I6 a.e)] 245)) (fun W c=>jK a p a.at_ X.2.e (c.eqv kR)) (fun v6 V6 s6 V M=>?_));obtain⟨rfl,rfl⟩:=M;refine aX 2 j (zn (aA (dL [3] [(j,5)] [(.agg #[(I6 0),(U6 0),(St []),S0,(.bool false)])] (fun W' c=>?_))));have A:=Cb.1 E;have hz:mL (k:Int) X=none:=by unfold mL;rw[An (by simpa using A)]
  rw[hz];exact gJ 0 4 _ c (View.le_trans (View.le_trans r u) V) (mZ (at_:=a.at_) (e:=X.2.e) he A)
 ·refine zk (zs ?_);refine iM 3 [0,0,0,4,0,1] [(p,1)] [.val (I6 (X.2.at_:Int))] ⟨?_,trivial⟩ ?_
  ·exact vC 214 #[(Pt f 0)] (fun W c=>aQj X.2 f 0 c kR)
  refine zq 1 (eC 41 ((a.at_:Int)+(X.2.at_:Int)) (zq 2 (aX 1 p (zn (zB [4] [(q,5)] (aX 2 j (zn (aA (dL [3] [(j,5)] [(.agg #[(I6 (k:Int)),(U6 0),(St X.1),S0,(.bool false)])] (fun W' c=>?_))))))))));have a1:=Bq.1 E;have hz:mL (k:Int) X=some (.mk (k:Int) 0 X.1 [] false,X.2.at_):=by unfold mL;rw[Ar (by rw[a1];rfl)]
  rw[hz];exact gJ 1 4 _ c (View.le_trans r u) ⟨_,_,⟨a.b,a.at_+X.2.at_,a.e⟩,rfl,TV.sk _ hk X.1 (by unfold R47;omega),rfl,rfl,rfl,rfl,he⟩
def tJ(d:Nat):Prop:=∀(ps:Ps) (p:Nat),ps.ok→ps.e=0→∀{W0:Cx} {U:View} {σF:aN} {W:World},Mem W0 U ([(p,ps.O)]++σF) W→CP 181 #[.pointer (some ⟨p,0,none⟩),.int .i64 (d:Int)] W (iQ W0 U σF (tL p ps (itF d ps.rest)))
structure Lp where
 r:Rw
 xs:List Value
 m:Nat
 L:List (Itm.Tr×List Value)
 ps:Ps
 V:View
def aBN(a : List Itm.Tr)(k : Nat) : Option (List Itm.Tr × Nat) → Option (List Itm.Tr × Nat)
 |none=>none
 |some (ts,j)=>some (a++ts,k+j)
structure aLp (G : Nat → List UInt8 → Option (List Itm.Tr × Nat)) (ps : Ps) (x : Lp) : Prop where
 b:x.ps.b=ps.b
 ok:x.ps.e=0→x.ps.ok
 at_:x.ps.e=0→ps.at_≤x.ps.at_
 go:x.ps.e=0→aBN (x.L.map Prod.fst) (x.ps.at_-ps.at_) (G x.m x.ps.rest)=G 0 ps.rest
 no:x.ps.e≠0→G 0 ps.rest=none
def aAR(f:List UInt8→Option (Itm.Tr×Nat))(G:Nat→List UInt8→Option (List Itm.Tr×Nat))(i:Nat)(s:List UInt8):Prop:=G i s=match f s with
 |none=>none
 |some (t,k)=>aBN [t] k (G (i+1) (s.drop k))
theorem aLp.zero{G:Nat→List UInt8→Option (List Itm.Tr×Nat)}{a:Ps}(d:a.ok)(c:a.e=0){V:View}:aLp G a ⟨Rw.nil,[],0,[],a,V⟩:=
 ⟨rfl,fun _=>d,fun _=>Bg _,fun _=>by
  show aBN [] (a.at_-a.at_) (G 0 a.rest)=_;rw[Dc];cases G 0 a.rest with
  |none=>rfl
  |some q=>simp[aBN],fun h=>absurd c h⟩
theorem aLp.step{f : List UInt8 → Option (Itm.Tr × Nat)}{G : Nat → List UInt8 → Option (List Itm.Tr × Nat)}(I : ∀ s t k, f s = some (t, k) → k ≤ s.length){A ps' : Ps}{x : Lp}(h : aLp G A x)(C : x.ps.e = 0)(d : aAR f G x.m x.ps.rest){t : Itm.Tr}{cs N : List Value}{r : Rw}{V : View}(g : ps'.b = x.ps.b)
  (c:match f x.ps.rest with
   |some (_,k)=>ps'.at_=x.ps.at_+k∧ps'.e=0
   |none=>ps'.e≠0) (M:∀B k,f x.ps.rest=some (B,k)→t=B):aLp G A ⟨r,N,x.m+1,x.L++[(t,cs)],ps',V⟩:=by
 have a:=h.go C;have u:=h.ok C;have F:=h.at_ C;unfold aAR at d;cases y:f x.ps.rest with
 |none=>
  rw[y]at c d;simp only at c d;rw[d]at a;exact⟨g.trans h.b,fun e=>absurd e c,fun e=>absurd e c,fun e=>absurd e c,fun _=>a.symm⟩
 |some q=>
  obtain⟨B,k⟩:=q;rw[y]at c d;simp only at c d;obtain⟨D,E⟩:=c;obtain rfl:=M B k y;have O:=I _ _ _ y;have L:x.ps.rest.length=x.ps.b.length-x.ps.at_:=Aq;have J:=u.le;refine⟨g.trans h.b,fun _=>⟨by rw[D,g];omega,by rw[g];exact u.len⟩,fun _=>by show A.at_≤ps'.at_;omega,fun _=>?_,fun e=>absurd E e⟩;rw[d]at a;rw[←a];have K:ps'.rest=x.ps.rest.drop k:=by unfold Ps.rest;rw[g,D,De]
  show aBN ((x.L++[(t,cs)]).map Prod.fst) (ps'.at_-A.at_) (G (x.m+1) ps'.rest)=_;rw[K];cases G (x.m+1) (x.ps.rest.drop k)with
  |none=>rfl
  |some q=>
   obtain⟨ts,j⟩:=q;simp only[aBN,Br,Cf,Dz,Al];congr 2;omega
def gZ(f:List UInt8→Option (Itm.Tr×Nat))(n i:Nat)(s:List UInt8):Option (List Itm.Tr×Nat):=fJ f (n-i) s
def jL(f:List UInt8→Option (Itm.Tr×Nat))(i:Nat)(s:List UInt8):Option (List Itm.Tr×Nat):=gY f (1000-i) s
theorem mJ{f:List UInt8→Option (Itm.Tr×Nat)}{n i:Nat}(h:i<n)(s:List UInt8):aAR f (gZ f n) i s:=by
 unfold aAR gZ;rw[show n-i=(n-(i+1))+1 by omega,fJ];cases f s with
 |none=>rfl
 |some q=>
  obtain⟨t,k⟩:=q;simp only;cases fJ f (n-(i+1)) (s.drop k)with
  |none=>rfl
  |some q=>rfl
theorem lK{f:List UInt8→Option (Itm.Tr×Nat)}{i:Nat}{s:List UInt8}(h:i<1000)(a:aAf s=false):aAR f (jL f) i s:=by
 unfold aAR jL;rw[show 1000-i=(1000-(i+1))+1 by omega,gY,a];simp only[Av,if_false];cases f s with
 |none=>rfl
 |some q=>
  obtain⟨t,k⟩:=q;simp only;cases gY f (1000-(i+1)) (s.drop k)with
  |none=>rfl
  |some q=>rfl
def aFg(x:Option (Itm.Tr×Nat))(v:Value)(V:View):Prop:=∃t cs,v=.agg cs.toArray∧TV V t cs∧∀t' k,x=some (t',k)→t=t'
def aGy(x:Option (Itm.Tr×Nat))(v:Value)(V:View):Prop:=∃t cs g,v=.slice (some ⟨g,0,none⟩) 1 1∧V.range g 0 cs∧TV V t cs∧∀t' k,x=some (t',k)→t=t'
theorem tL.one{p:Nat}{f:Ps}{x:Option (Itm.Tr×Nat)}{v:Value}{V:View}{σ:aN}(h:tL p f x v V σ):aFg x v V:=by
 obtain⟨t,cs,g,e,c,_,_,d⟩:=h;refine⟨t,cs,e,c,fun j k a=>?_⟩;subst a;exact d.1
theorem aFg.mono{x:Option (Itm.Tr×Nat)}{v:Value}{V a:View}(c:View.le V a)(h:aFg x v V):aFg x v a:=by
 obtain⟨t,cs,e,d,f⟩:=h;exact⟨t,cs,e,d.le c,f⟩
theorem aGy.mono{x:Option (Itm.Tr×Nat)}{v:Value}{V a:View}(c:View.le V a)(h:aGy x v V):aGy x v a:=by
 obtain⟨t,cs,g,e,d,f,j⟩:=h;exact⟨t,cs,g,e,View.range_le c d,f.le c,j⟩
def aRG(p:Nat)(ps:Ps)(x:Option (Itm.Tr×Nat))(σ:aN):Prop:=∃ps',σ=[(p,Ps.O ps')]∧ps'.b=ps.b∧match x with
 |some (_,k)=>ps'.at_=ps.at_+k∧ps'.e=0
 |none=>ps'.e≠0
theorem tL.at_{p:Nat}{d:Ps}{x:Option (Itm.Tr×Nat)}{v:Value}{V:View}{σ:aN}(h:tL p d x v V σ):aRG p d x σ:=by
 obtain⟨t,cs,c,e,j,f,g,a⟩:=h;refine⟨c,f,g,?_⟩;cases x with
 |none=>exact a
 |some q=>exact⟨a.2.1,a.2.2⟩
theorem aKc{G:Nat→List UInt8→Option (List Itm.Tr×Nat)}{d ps':Ps}{x:Lp}{p:Nat}{V:View}{v:Value}{cs:List Value}{o:Bool}{j:Nat}(h:aLp G d x)(f:x.ps.e=0)(r:G x.m x.ps.rest=some ([],j))(u:v=.agg cs.toArray)(g:TV V (.mk 4 0 [] (x.L.map Prod.fst) o) cs)(q:ps'.b=x.ps.b)(y:ps'.at_=x.ps.at_+j)(c:ps'.e=0):
  tL p d (lI o 0 (G 0 d.rest)) v V [(p,ps'.O)]:=by
 have a:=h.go f;have k:=h.at_ f;rw[r]at a;rw[←a];refine⟨_,cs,ps',u,g,rfl,q.trans h.b,?_⟩;simp only[lI,aBN,Aj,Fm];exact⟨by omega,c⟩
theorem aF6{G:Nat→List UInt8→Option (List Itm.Tr×Nat)}{a ps':Ps}{p:Nat}{V:View}{v:Value}{cs:List Value}{t:Itm.Tr}{o:Bool}(g:G 0 a.rest=none)(h:v=.agg cs.toArray)(d:TV V t cs)(f:ps'.b=a.b)(c:ps'.e≠0):tL p a (lI o 0 (G 0 a.rest)) v V [(p,ps'.O)]:=by
 rw[g];exact⟨t,cs,ps',h,d,rfl,f,c⟩
theorem aF2(a:Ps)(p:Nat)(f:a.ok){W0:Cx}{U:View}{c:aN}{W:World}(d:Mem W0 U ([(p,a.O)]++c) W):CP 242 #[.pointer (some ⟨p,0,none⟩)] W (iQ W0 U c fun v _ σ'=>v=.bool (aAf a.rest)∧σ'=[(p,a.O)]):=by
 cases g:hdF a.rest with
 |none=>exact aIc a p f g d
 |some q=>
  obtain⟨m,n,o,z⟩:=q;exact aIb a p m n z o f g d
theorem aEG(d:Nat)(n:Nat)(hn:n≤1000)(h5:d≤1000)(hI:tJ d)(F:Ps)(p:Nat)(hp:F.ok)(he:F.e=0){W0:Cx}{U:View}{f:aN}{W:World}(G:Mem W0 U ([(p,F.O)]++f) W):CP 217 #[.pointer (some ⟨p,0,none⟩),.int .i64 (n:Int),.int .i64 ((d+1:Nat):Int)] W (iQ W0 U f (tL p F (lI false 0 ((gZ (itF d) n) 0 F.rest)))):=by
 have b4:decide ((n:Int)<0)=false:=Ba oW;have hd1:IntKind.i64.wrap (((d+1:Nat):Int)-1)=(d:Int):=by rw[IntWalk.i64_in _ oW];omega
 have c4:Mem W0 U ([(bK p [(St F.b),(I6 (F.at_:Int)),(I6 F.e)] 245)]++f) W:=G.eqv kR;refine fU 57 Tryz.func217 c4 ?_;refine zs (zr (fH 1 (fun C=>?_)));refine zn (zQ 2 (dS 9 (.bool (decide ((n:Int)<0))) (.bool false) (Ag Value.bool b4) ?_));refine zq 1 (fH 2 (fun A=>?_));refine aX 2 A (zn (zs (aB (eY (α:=Lp) (fun x=>[0,1,2,6,7].zip [(Pt p 0),(I6 (n:Int)),(L6 (d+1)),(Pt C 0),(Pt A 0)]) (fun x=>x.V) (fun x=>([(bK p [(St x.ps.b),(I6 (x.ps.at_:Int)),(I6 x.ps.e)] 245),(C,.cells [(I6 0),(U6 0),(St []),S0,(.bool false)].toArray 89 (0,0)),(A,.cells [(I6 4),(U6 0),(St []),(x.r.V x.m),(.bool false)].toArray 89 (0,0))]++f++x.r.B 89 x.xs)) (fun x=>View.le U x.V∧RwR TV 5 x.V x.r x.xs x.m x.L∧x.m≤n∧aLp (gZ (itF d) n) F x) (fun x=>1001-x.m) ⟨Rw.nil,[],0,[],F,U⟩ ?_ ?_ (hm:=fun _ h=>h.nilE)))))
 ·exact⟨View.le_refl _,RwR.nil,Ap _,aLp.zero hp he⟩
 intro x I;obtain⟨M,j,h9,I⟩:=I;refine zs (zB [0,0,0,1,0,0] [(p,1)] (oT 16 x.ps.e 0 (fun h0 Y=>?_) (fun h0 Y=>?_)))
 ·have q:x.ps.e=0:=Y;have e9:=(I.ok q).le;have b3:=(I.ok q).len;unfold R47 at b3;refine cG [0,3] [(A,1)] (cD (L6 x.m) (pS x.r 5 x.m x.xs j.ok (.tmp 18) 87 89 rfl kR kR) ?_);refine zq 3 (zn (jD (x.m:Int) (n:Int) (fun h1 c0=>?_) (fun h1 c0=>?_)))
  ·refine zk (aB (zs (zQ 2 (dS 24 (.bool (decide ((n:Int)<0))) (.bool false) (Ag Value.bool b4) ?_))));refine zq 4 (zn (dD (zk (zs (zB [0,3] [(A,1)] (cD (L6 x.m) (pS x.r 5 x.m x.xs j.ok (.tmp 38) 87 89 rfl kR kR) ?_))))));refine zq 1 (zn (dO ((x.m:Int)==1000) (Ai.2 oW) ?_));refine zk ?_;refine aJm 2 5 [0,4,0,0,1,1,1] [(A,1)] [.val (I6 (d:Int)),.mem (aFg (itF d x.ps.rest)),.mem (aGy (itF d x.ps.rest))] [(bK p [(St x.ps.b),(I6 (x.ps.at_:Int)),(I6 x.ps.e)] 245)] ([]++([(C,.cells [(I6 0),(U6 0),(St []),S0,(.bool false)].toArray 89 (0,0)),(A,.cells [(I6 4),(U6 0),(St []),(x.r.V x.m),(.bool false)].toArray 89 (0,0))]++f++x.r.B 89 x.xs)) (tL p x.ps (itF d x.ps.rest)) (aEB [] ([(C,.cells [(I6 0),(U6 0),(St []),S0,(.bool false)].toArray 89 (0,0)),(A,.cells [(I6 4),(U6 0),(St []),(x.r.V x.m),(.bool false)].toArray 89 (0,0))]++f++x.r.B 89 x.xs) (bK p [(St x.ps.b),(I6 (x.ps.at_:Int)),(I6 x.ps.e)] 245) kR) rfl (by intro v V s2 h;exact h.one) (by intro v V V2 s2 h1 h2;exact h2.mono h1) (by simp only[Bc];refine⟨?_,?_,?_,fun _ h=>by cases h⟩<;>first|trivial|(intro v V V2 D hP;(first|trivial|exact aFg.mono D hP|exact aGy.mono D hP))) ⟨?_,?_,?_,trivial⟩ ?_
   ·exact nO fun e8=>wE (I6 (IntKind.i64.wrap (((d+1:Nat):Int)-1))) (Ag (Value.int .i64) hd1)
   ·refine nC 181 (fun u=>#[(Pt p 0),(I6 (d:Int))]) fun u V hV a8 W G=>?_
    exact hI x.ps p (I.ok q) q (G.eqv kR)
   ·refine nO fun e8=>wN [52] (fun u=>[u 5]) fun u V hV a8=>?_
    have e5:=a8 5 kR rfl;obtain⟨t5,h4,q5,b6,e7⟩:=e5;obtain⟨a5,c5,rfl,h3,h7,h8,h6⟩:=b6.form;refine⟨(tC t5 a5 c5),89,fun r=>(Sl r 0 1 1),?_,fun g V' c9 hR=>?_⟩
    ·rw[q5];kernel_rfl
    exact⟨t5,_,g,rfl,hR,b6.le c9,e7⟩
   intro u2 V2 s2 D b2 Z;have k3:=j.le D;obtain⟨z2,e6⟩:∃z,u2 5=z:=⟨_,rfl⟩;rw[e6]at Z;obtain⟨J,rfl,e0,e4⟩:=(Z).at_;have O:=b2 6 rfl;obtain⟨k,b9,X,b7,L,E,N⟩:=O;obtain⟨y,B,rfl,b8,e2,e3,e1⟩:=E.form;refine qX 53 b7 ?_;refine gW x.r x.xs x.m ([(bK p [(St J.b),(I6 (J.at_:Int)),(I6 J.e)] 245),(C,.cells [(I6 0),(U6 0),(St []),S0,(.bool false)].toArray 89 (0,0)),(A,.cells [(I6 4),(U6 0),(St []),(x.r.V x.m),(.bool false)].toArray 89 (0,0))]++f) 89 87 5 64 1 kR j.ok (.tmp 48) (.tmp 53) rfl kR X 0 1 (tC k y B) kR (fun W G=>View.range_of L G.view) rfl (Ao.1 kR) (by decide) (by unfold maxLen;omega) oW kR kR kR kR kR (fun r4 b5=>?_);refine zq 1 ?_;refine aBa 2 A 3 (x.m+1) 5 r4 (x.xs++(tC k y B)) b5 [(I6 4),(U6 0),(St []),(x.r.V x.m),(.bool false)] 89 87 _ _ rfl kR kR kR (fun a c=>by kernel_rfl) kR rfl kR ?_;refine zn ?_;refine nx ⟨r4,(x.xs++(tC k y B)),x.m+1,x.L++[(k,(tC k y B))],J,V2⟩ ?_ ?_
   ·exact⟨(View.le_trans M D),RwR.snoc k3 E b5,by show x.m+1≤n;omega,I.step (gD d) q (mJ oW _) e0 e4 N⟩
   ·show 1001-(x.m+1)<1001-x.m;omega
  ·refine aK (zs (zr ?_));refine lA x.r x.xs 5 x.m ([(bK p [(St x.ps.b),(I6 (x.ps.at_:Int)),(I6 x.ps.e)] 245),(C,.cells [(I6 0),(U6 0),(St []),S0,(.bool false)].toArray 89 (0,0)),(A,.cells [(I6 4),(U6 0),(St []),(x.r.V x.m),(.bool false)].toArray 89 (0,0))]++f) 89 kR j.ok (fun a5 c5 V5 a1 c6 c1=>?_);rw[c1];have k6:=j.le a1;refine cG [3] [(A,5)] (aX 1 C (zn (aA (dL [2] [(C,5)] [(.agg #[(I6 4),(U6 0),(St []),(.slice a5 x.m c5),(.bool false)])] (fun W' G=>?_)))));have K:=k6.arr c5 c6 (View.le_refl _) (by unfold R47;omega) false;refine gJ 0 3 (bK p [(St x.ps.b),(I6 (x.ps.at_:Int)),(I6 x.ps.e)] 245) G (View.le_trans M a1) ?_;exact aKc I q (ps':=x.ps) (show(gZ (itF d) n) x.m x.ps.rest=some ([],0)from by unfold gZ;rw[show n-x.m=0 by omega];rfl) rfl K rfl rfl q
 ·refine zq 6 (zn (dD (aK (zs (zr ?_)))));refine lA x.r x.xs 5 x.m ([(bK p [(St x.ps.b),(I6 (x.ps.at_:Int)),(I6 x.ps.e)] 245),(C,.cells [(I6 0),(U6 0),(St []),S0,(.bool false)].toArray 89 (0,0)),(A,.cells [(I6 4),(U6 0),(St []),(x.r.V x.m),(.bool false)].toArray 89 (0,0))]++f) 89 kR j.ok (fun a7 c7 V7 a6 c8 c2=>?_);rw[c2];have k8:=j.le a6;refine cG [3] [(A,5)] (aX 1 C (zn (aA (dL [2] [(C,5)] [(.agg #[(I6 4),(U6 0),(St []),(.slice a7 x.m c7),(.bool false)])] (fun W' G=>?_)))));have K:=k8.arr c7 c8 (View.le_refl _) (by unfold R47;omega) false;refine gJ 0 3 (bK p [(St x.ps.b),(I6 (x.ps.at_:Int)),(I6 x.ps.e)] 245) G (View.le_trans M a6) ?_;exact aF6 (ps':=x.ps) (I.no (by simpa using h0)) rfl K I.b (by simpa using h0)
theorem aH9(d:Nat)(j3:d≤1000)(hI:tJ d)(I:Ps)(p:Nat)(hp:I.ok)(he:I.e=0){W0:Cx}{U:View}{j:aN}{W:World}(y:Mem W0 U ([(p,I.O)]++j) W):CP 217 #[.pointer (some ⟨p,0,none⟩),.int .i64 (-1),.int .i64 ((d+1:Nat):Int)] W (iQ W0 U j (tL p I (lI true 0 ((jL (itF d)) 0 I.rest)))):=by
 have hd1:IntKind.i64.wrap (((d+1:Nat):Int)-1)=(d:Int):=by rw[IntWalk.i64_in _ oW];omega
 have N:Mem W0 U ([(bK p [(St I.b),(I6 (I.at_:Int)),(I6 I.e)] 245)]++j) W:=y.eqv kR;refine fU 57 Tryz.func217 N ?_;refine zs (zr (fH 1 (fun D=>?_)));refine zn (zQ 3 (fH 2 (fun q=>?_)));refine aX 2 q (zn (zs (aB (eY (α:=Lp) (fun x=>[0,1,2,6,7].zip [(Pt p 0),(I6 (-1)),(L6 (d+1)),(Pt D 0),(Pt q 0)]) (fun x=>x.V) (fun x=>([(bK p [(St x.ps.b),(I6 (x.ps.at_:Int)),(I6 x.ps.e)] 245),(D,.cells [(I6 0),(U6 0),(St []),S0,(.bool false)].toArray 89 (0,0)),(q,.cells [(I6 4),(U6 0),(St []),(x.r.V x.m),(.bool true)].toArray 89 (0,0))]++j++x.r.B 89 x.xs)) (fun x=>View.le U x.V∧RwR TV 5 x.V x.r x.xs x.m x.L∧x.m≤1000∧aLp (jL (itF d)) I x) (fun x=>1001-x.m) ⟨Rw.nil,[],0,[],I,U⟩ ?_ ?_ (hm:=fun _ h=>h.nilE)))))
 ·exact⟨View.le_refl _,RwR.nil,Ap _,aLp.zero hp he⟩
 intro x F;obtain⟨J,B,j7,F⟩:=F;refine zs (zB [0,0,0,1,0,0] [(p,1)] (oT 16 x.ps.e 0 (fun h0 a8=>?_) (fun h0 a8=>?_)))
 ·have f:x.ps.e=0:=a8;have h9:=(F.ok f).le;have c0:=(F.ok f).len;unfold R47 at c0;refine cG [0,3] [(q,1)] (cD (L6 x.m) (pS x.r 5 x.m x.xs B.ok (.tmp 18) 87 89 rfl kR kR) ?_);refine zq 3 (zn (iA ((x.m:Int) !=(-1)) (Cb.2 oW) ?_));refine zk (aB (zs (zQ 4 (eM 0 (x:=(bK p [(St x.ps.b),(I6 (x.ps.at_:Int)),(I6 x.ps.e)] 245)) (fun W y=>aF2 x.ps p (F.ok f) (y.eqv kR)) (fun v2 V2 s2 A e2=>?_)))));have k3:=B.le A;obtain⟨rfl,rfl⟩:=e2;refine zq 1 (zn (gN (aAf x.ps.rest) (fun Z=>?_) (fun Z=>?_)))
  ·refine zB [0,0,0,1,0] [(p,1)] (eC 33 ((x.ps.at_:Int)+1) (zq 2 (aX 0 p (zn (zs (zr ?_))))));refine lA x.r x.xs 5 x.m ([(bK p [(St x.ps.b),(I6 ((x.ps.at_:Int)+1)),(I6 x.ps.e)] 245),(D,.cells [(I6 0),(U6 0),(St []),S0,(.bool false)].toArray 89 (0,0)),(q,.cells [(I6 4),(U6 0),(St []),(x.r.V x.m),(.bool true)].toArray 89 (0,0))]++j) 89 kR B.ok (fun a4 c4 V4 b5 e4 e1=>?_);rw[e1];have k5:=k3.le b5;refine cG [3] [(q,5)] (aX 1 D (zn (aA (dL [2] [(D,5)] [(.agg #[(I6 4),(U6 0),(St []),(.slice a4 x.m c4),(.bool true)])] (fun W' y=>?_)))));have O:=k5.arr c4 e4 (View.le_refl _) (by unfold R47;omega) true;refine gJ 0 3 (bK p [(St x.ps.b),(I6 ((x.ps.at_:Int)+1)),(I6 x.ps.e)] 245) y (View.le_trans (View.le_trans J A) b5) ?_;exact aKc F f (ps':=⟨x.ps.b,x.ps.at_+1,x.ps.e⟩) (show(jL (itF d)) x.m x.ps.rest=some ([],1)from by unfold jL;cases 1000-x.m<;>rw[gY,Ar Z]) rfl O rfl rfl f
  ·refine zk (zs (zB [0,3] [(q,1)] (cD (L6 x.m) (pS x.r 5 x.m x.xs B.ok (.tmp 38) 87 89 rfl kR kR) ?_)));refine zq 1 (zn (fQ (x.m:Int) 1000 (fun h2 e0=>?_) (fun h2 e0=>?_)))
   ·refine zB [0,0,0,0,1] [(p,1)] (eM 0 (x:=(bK p [(St x.ps.b),(I6 (x.ps.at_:Int)),(I6 x.ps.e)] 245)) (fun W y=>jK x.ps p x.ps.at_ 4 (y.eqv kR)) (fun v6 V6 s6 e7 e3=>?_));obtain⟨rfl,rfl⟩:=e3;refine aX 1 D (zn (aA (dL [2] [(D,5)] [(.agg #[(I6 0),(U6 0),(St []),S0,(.bool false)])] (fun W' y=>?_))));have N:=(y.eqv (show _=(([(p,(x.ps.fail x.ps.at_ 4).O),(D,.cells [(I6 0),(U6 0),(St []),S0,(.bool false)].toArray 89 (0,0)),(q,.cells [(I6 4),(U6 0),(St []),(x.r.V x.m),(.bool true)].toArray 89 (0,0))]:aN)++j)++x.r.B 89 x.xs from by kernel_rfl)).sub (Ay _ _);have b9:(x.ps.fail x.ps.at_ 4).b=x.ps.b∧(x.ps.fail x.ps.at_ 4).e=4:=by unfold Ps.fail;rw[Ar (by rw[f];rfl)];exact⟨rfl,rfl⟩
    exact gJ 0 3 _ N ((View.le_trans (View.le_trans J A) e7)) (aF6 (by have hg:=F.go f;rw[←hg,show(jL (itF d)) x.m x.ps.rest=none from by unfold jL;rw[show 1000-x.m=0 by omega,gY,Z];rfl];rfl) rfl (TV.num _ 0 (by decide)) (b9.1.trans F.b) (by rw[b9.2];decide))
   ·refine zk ?_;refine aJm 2 5 [0,4,0,0,1,1,1] [(q,1)] [.val (I6 (d:Int)),.mem (aFg (itF d x.ps.rest)),.mem (aGy (itF d x.ps.rest))] [(bK p [(St x.ps.b),(I6 (x.ps.at_:Int)),(I6 x.ps.e)] 245)] ([]++([(D,.cells [(I6 0),(U6 0),(St []),S0,(.bool false)].toArray 89 (0,0)),(q,.cells [(I6 4),(U6 0),(St []),(x.r.V x.m),(.bool true)].toArray 89 (0,0))]++j++x.r.B 89 x.xs)) (tL p x.ps (itF d x.ps.rest)) (aEB [] ([(D,.cells [(I6 0),(U6 0),(St []),S0,(.bool false)].toArray 89 (0,0)),(q,.cells [(I6 4),(U6 0),(St []),(x.r.V x.m),(.bool true)].toArray 89 (0,0))]++j++x.r.B 89 x.xs) (bK p [(St x.ps.b),(I6 (x.ps.at_:Int)),(I6 x.ps.e)] 245) kR) rfl (by intro v V s2 h;exact h.one) (by intro v V V2 s2 Z h2;exact h2.mono Z) (by simp only[Bc];refine⟨?_,?_,?_,fun _ h=>by cases h⟩<;>first|trivial|(intro v V V2 A hP;(first|trivial|exact aFg.mono A hP|exact aGy.mono A hP))) ⟨?_,?_,?_,trivial⟩ ?_
    ·exact nO fun h8=>wE (I6 (IntKind.i64.wrap (((d+1:Nat):Int)-1))) (Ag (Value.int .i64) hd1)
    ·refine nC 181 (fun u=>#[(Pt p 0),(I6 (d:Int))]) fun u V hV b7 W y=>?_
     exact hI x.ps p (F.ok f) f (y.eqv kR)
    ·refine nO fun h8=>wN [52] (fun u=>[u 5]) fun u V hV b7=>?_
     have e5:=b7 5 kR rfl;obtain⟨t5,j2,q5,c1,h5⟩:=e5;obtain⟨a5,c5,rfl,j0,j5,j6,j4⟩:=c1.form;refine⟨(tC t5 a5 c5),89,fun r=>(Sl r 0 1 1),?_,fun g V' e6 hR=>?_⟩
     ·rw[q5];kernel_rfl
     exact⟨t5,_,g,rfl,hR,c1.le e6,h5⟩
    intro u8 V8 s8 b6 b8 b3;have k9:=k3.le b6;obtain⟨z8,h6⟩:∃z,u8 5=z:=⟨_,rfl⟩;rw[h6]at b3;obtain⟨K,rfl,hb8,h4⟩:=(b3).at_;have a6:=b8 6 rfl;obtain⟨k,c9,a7,c2,X,G,Y⟩:=a6;obtain⟨C,E,rfl,c7,e9,h3,e8⟩:=G.form;refine qX 53 c2 ?_;refine gW x.r x.xs x.m ([(bK p [(St K.b),(I6 (K.at_:Int)),(I6 K.e)] 245),(D,.cells [(I6 0),(U6 0),(St []),S0,(.bool false)].toArray 89 (0,0)),(q,.cells [(I6 4),(U6 0),(St []),(x.r.V x.m),(.bool true)].toArray 89 (0,0))]++j) 89 87 5 64 1 kR B.ok (.tmp 48) (.tmp 53) rfl kR a7 0 1 (tC k C E) kR (fun W y=>View.range_of X y.view) rfl (Ao.1 kR) (by decide) (by unfold maxLen;omega) oW kR kR kR kR kR (fun c6 M=>?_);refine zq 1 ?_;refine aBa 2 q 3 (x.m+1) 5 c6 (x.xs++(tC k C E)) M [(I6 4),(U6 0),(St []),(x.r.V x.m),(.bool true)] 89 87 _ _ rfl kR kR kR (fun a c=>by kernel_rfl) kR rfl kR ?_;refine zn ?_;refine nx ⟨c6,(x.xs++(tC k C E)),x.m+1,x.L++[(k,(tC k C E))],K,V8⟩ ?_ ?_
    ·exact⟨(View.le_trans (View.le_trans J A) b6),RwR.snoc k9 G M,by show x.m+1≤1000;omega,F.step (gD d) f (lK oW Z) hb8 h4 Y⟩
    ·show 1001-(x.m+1)<1001-x.m;omega
 ·refine zq 6 (zn (dD (aK (zs (zr ?_)))));refine lA x.r x.xs 5 x.m ([(bK p [(St x.ps.b),(I6 (x.ps.at_:Int)),(I6 x.ps.e)] 245),(D,.cells [(I6 0),(U6 0),(St []),S0,(.bool false)].toArray 89 (0,0)),(q,.cells [(I6 4),(U6 0),(St []),(x.r.V x.m),(.bool true)].toArray 89 (0,0))]++j) 89 kR B.ok (fun c8 a1 j1 L b4 b2=>?_);rw[b2];have h7:=B.le L;refine cG [3] [(q,5)] (aX 1 D (zn (aA (dL [2] [(D,5)] [(.agg #[(I6 4),(U6 0),(St []),(.slice c8 x.m a1),(.bool true)])] (fun W' y=>?_)))));have O:=h7.arr a1 b4 (View.le_refl _) (by unfold R47;omega) true;refine gJ 0 3 (bK p [(St x.ps.b),(I6 (x.ps.at_:Int)),(I6 x.ps.e)] 245) y (View.le_trans J L) ?_;exact aF6 (ps':=x.ps) (F.no (by simpa using h0)) rfl O F.b (by simpa using h0)
theorem aCu{p z:Nat}{c:Ps}{o:Bool}{X:Option (List Itm.Tr×Nat)}{v:Value}{V:View}{σ:aN}(h:tL p ⟨c.b,c.at_+z,c.e⟩ (lI o 0 X) v V σ):tL p c (lI o z X) v V σ:=by
 obtain⟨t,cs,d,e,j,f,g,a⟩:=h;refine⟨t,cs,d,e,j,f,g,?_⟩;cases X with
 |none=>exact a
 |some q=>
  obtain⟨l,k⟩:=q;simp only[lI]at a ⊢;exact⟨a.1,by omega,a.2.2⟩
theorem aKj(a:Ps)(p:Nat)  (d:Nat)(j:a.ok)(I:a.e=0)(G:hdF a.rest=none){W0:Cx}{U:View}{f:aN}{W:World}(c:Mem W0 U ([(p,a.O)]++f) W):CP 181 #[.pointer (some ⟨p,0,none⟩),.int .i64 (d:Int)] W (iQ W0 U f (tL p a (itF d a.rest))):=by
 have J:=j.le;have h:=j.len;unfold R47 at h;have K:a.rest.length=a.b.length-a.at_:=Aq;have E:itF d a.rest=none:=by cases d<;>simp[itF,G]
 have k:Mem W0 U ([(bK p [(St a.b),(I6 (a.at_:Int)),(I6 a.e)] 245)]++f) W:=c.eqv kR;refine fU 118 Tryz.func181 k ?_;refine zs (zr (fH 1 (fun F=>?_)));refine zn (zQ 1 (eM 0 (fun W c=>dV a p j c) (fun v1 L X A q=>?_)));obtain⟨g,rfl,rfl⟩:=q;refine zq 1 (zn (zQ 1 (jU 0 (g,(Rd.new a.rest).O) 212 #[(Pt g 0)] (aAS g a.rest (none)) (fun W c=>G▸eJ a.rest g (Ps.rest_len j) c) (fun v2 M Y B r=>?_))));obtain⟨rfl,rfl⟩:=r;refine zq 7 (zn (zs (zQ 1 (eM 0 (x:=(g,(hdR a.rest (none)).O)) (fun W c=>iF (⟨a.rest,0,0,2,0⟩:Rd) g (c.eqv kR)) (fun v3 N Z C u=>?_)))));obtain⟨rfl,rfl⟩:=u;refine zq 5 (zn (zQ 2 (zn (dP (zB [0,0,0,0,2,0] [(p,1)] (eM 1 (x:=(bK p [(St a.b),(I6 (a.at_:Int)),(I6 a.e)] 245)) (fun W c=>jK a p a.at_ 2 (c.eqv kR)) (fun v4 O s4 D y=>?_)))))));obtain⟨rfl,rfl⟩:=y;refine aX 2 F (zn (aA (dL [3] [(F,5)] [(.agg #[(I6 0),(U6 0),(St []),S0,(.bool false)])] (fun V c=>?_))));rw[E];exact gJ 0 3 _ c (View.le_trans (View.le_trans (View.le_trans A B) C) D) (mZ (at_:=a.at_) (e:=2) I (by decide))
theorem aIn(a:Ps)(p:Nat)(d m n z:Nat)(o:Bool)(j:a.ok)(X:a.e=0)(L:hdF a.rest=some (m,n,o,z))(M:m≠0)(N:m≠2)(O:m≠3)(V:m≠4){W0:Cx}{U:View}{f:aN}{W:World}(c:Mem W0 U ([(p,a.O)]++f) W):CP 181 #[.pointer (some ⟨p,0,none⟩),.int .i64 (d:Int)] W (iQ W0 U f (tL p a (itF d a.rest))):=by
 have Y:=j.le;have h:=j.len;unfold R47 at h;have Z:a.rest.length=a.b.length-a.at_:=Aq;have F:((m:Int) !=0)=true:=Cb.2 oW;have G:((m:Int) !=2)=true:=Cb.2 oW;have I:((m:Int) !=3)=true:=Cb.2 oW;have J:((m:Int) !=4)=true:=Cb.2 oW;have E:itF d a.rest=none:=by
  cases d with
  |zero=>rfl
  |succ d=>rw[itF,L];simp only[M,N,O,V,if_false]
 have k:Mem W0 U ([(bK p [(St a.b),(I6 (a.at_:Int)),(I6 a.e)] 245)]++f) W:=c.eqv kR;refine fU 118 Tryz.func181 k ?_;refine zs (zr (fH 1 (fun K=>?_)));refine zn (zQ 1 (eM 0 (fun W c=>dV a p j c) (fun v1 V1 s1 A q=>?_)));obtain⟨g,rfl,rfl⟩:=q;refine zq 1 (zn (zQ 1 (jU 0 (g,(Rd.new a.rest).O) 212 #[(Pt g 0)] (aAS g a.rest (some (m,n,o,z))) (fun W c=>L▸eJ a.rest g (Ps.rest_len j) c) (fun v2 V2 s2 B r=>?_))));obtain⟨rfl,rfl⟩:=r;refine zq 7 (zn (zs (zQ 1 (eM 0 (x:=(g,(hdR a.rest (some (m,n,o,z))).O)) (fun W c=>iF (⟨a.rest,z,-1,0,0⟩:Rd) g (c.eqv kR)) (fun v3 V3 s3 C u=>?_)))));obtain⟨rfl,rfl⟩:=u;refine zq 5 (zn (zQ 2 (zn (dD (zk (zs (aB (zQ 3 (dS 40 (.bool ((m:Int) !=0)) (.bool true) (Ag Value.bool F) ?_)))))))));refine zq 4 (dS 44 (.bool ((m:Int) !=2)) (.bool true) (Ag Value.bool G) ?_);refine zq 4 (dS 48 (.bool ((m:Int) !=3)) (.bool true) (Ag Value.bool I) ?_);refine zq 4 (zn (iA ((m:Int) !=4) J ?_));refine zB [0,0,0,0,2] [(p,1)] (eM 1 (x:=(bK p [(St a.b),(I6 (a.at_:Int)),(I6 a.e)] 245)) (fun W c=>jK a p a.at_ 2 (c.eqv kR)) (fun v4 V4 s4 D y=>?_));obtain⟨rfl,rfl⟩:=y;refine aX 2 K (zn (aA (dL [3] [(K,5)] [(.agg #[(I6 0),(U6 0),(St []),S0,(.bool false)])] (fun W' c=>?_))));rw[E];exact gJ 0 3 _ c (View.le_trans (View.le_trans (View.le_trans A B) C) D) (mZ (at_:=a.at_) (e:=2) X (by decide))
theorem aKh(a:Ps)(p:Nat)(m n z:Nat)(o:Bool)(y:a.ok)(J:a.e=0)(hx:hdF a.rest=some (m,n,o,z)){W0:Cx}{U:View}{d:aN}{W:World}(c:Mem W0 U ([(p,a.O)]++d) W):CP 181 #[.pointer (some ⟨p,0,none⟩),.int .i64 ((0:Nat):Int)] W (iQ W0 U d (tL p a (itF 0 a.rest))):=by
 have Y:=y.le;have u:=y.len;unfold R47 at u;have Z:a.rest.length=a.b.length-a.at_:=Aq;have r:itF 0 a.rest=none:=rfl;have A:Mem W0 U ([(bK p [(St a.b),(I6 (a.at_:Int)),(I6 a.e)] 245)]++d) W:=c.eqv kR;refine fU 118 Tryz.func181 A ?_;refine zs (zr (fH 1 (fun g=>?_)));refine zn (zQ 1 (eM 0 (fun W c=>dV a p y c) (fun v1 V1 s1 j B=>?_)));obtain⟨f,rfl,rfl⟩:=B;refine zq 1 (zn (zQ 1 (jU 0 (f,(Rd.new a.rest).O) 212 #[(Pt f 0)] (aAS f a.rest (some (m,n,o,z))) (fun W c=>hx▸eJ a.rest f (Ps.rest_len y) c) (fun v2 V2 s2 k C=>?_))));obtain⟨rfl,rfl⟩:=C;refine zq 7 (zn (zs (zQ 1 (eM 0 (x:=(f,(hdR a.rest (some (m,n,o,z))).O)) (fun W c=>iF (⟨a.rest,z,-1,0,0⟩:Rd) f (c.eqv kR)) (fun v3 K s3 q D=>?_)))));obtain⟨rfl,rfl⟩:=D;refine zq 5 (zn (zQ 2 (zn (dD (zk (zs (aB ?_)))))));refine dH (α:=Bool) (fun h=>[0,1,4,5,6,7,37].zip [(Pt p 0),(L6 0),(Pt g 0),(Pt f 0),(I6 (m:Int)),(N6 n),(.bool h)]) (fun h=>K) (fun h=>([(f,(⟨a.rest,z,-1,0,0⟩:Rd).O),(bK p [(St a.b),(I6 (a.at_:Int)),(I6 a.e)] 245),(g,.cells [(I6 0),(U6 0),(St []),S0,(.bool false)].toArray 89 (0,0))]++d)) (fun h=>True) ?_ ?_
 ·refine zr (zq 3 (cN 40 ((m:Int) !=0) (fun M=>?_) (fun M=>?_)))
  ·refine zq 4 (cN 44 ((m:Int) !=2) (fun N=>?_) (fun N=>?_))
   ·refine zq 4 (cN 48 ((m:Int) !=3) (fun O=>?_) (fun O=>?_))
    ·refine zq 4 (zn ?_);refine jn ((m:Int) !=4) ?_;trivial
    ·refine zq 4 (zn ?_);refine jn false ?_;trivial
   ·refine zq 8 (zn ?_);refine jn false ?_;trivial
  ·refine zq 12 (zn ?_);refine jn false ?_;trivial
 intro h X;refine gN h (fun V=>?_) (fun V=>?_)
 ·refine zB [0,0,0,0,2] [(p,1)] (eM 1 (x:=(bK p [(St a.b),(I6 (a.at_:Int)),(I6 a.e)] 245)) (fun W c=>jK a p a.at_ 2 (c.eqv kR)) (fun v4 V4 s4 G E=>?_));obtain⟨rfl,rfl⟩:=E;refine aX 2 g (zn (aA (dL [3] [(g,5)] [(.agg #[(I6 0),(U6 0),(St []),S0,(.bool false)])] (fun L c=>?_))));rw[r];exact gJ 0 3 _ c (View.le_trans (View.le_trans (View.le_trans j k) q) G) (mZ (at_:=a.at_) (e:=2) J (by decide))
 ·refine zQ 3 (zn (iA (decide (((0:Nat):Int)<1)) (by decide) ?_));refine zB [0,0,0,0,2] [(p,1)] (eM 1 (x:=(bK p [(St a.b),(I6 (a.at_:Int)),(I6 a.e)] 245)) (fun W c=>jK a p a.at_ 3 (c.eqv kR)) (fun v5 V5 s5 I F=>?_));obtain⟨rfl,rfl⟩:=F;refine aX 2 g (zn (aA (dL [3] [(g,5)] [(.agg #[(I6 0),(U6 0),(St []),S0,(.bool false)])] (fun L c=>?_))));rw[r];exact gJ 0 3 _ c (View.le_trans (View.le_trans (View.le_trans j k) q) I) (mZ (at_:=a.at_) (e:=3) J (by decide))
theorem aMp(a:Ps)(p:Nat)(d n z:Nat)(o:Bool)(j:a.ok)(F:a.e=0)(k:hdF a.rest=some (0,n,o,z)){W0:Cx}{U:View}{g:aN}{W:World}(c:Mem W0 U ([(p,a.O)]++g) W):CP 181 #[.pointer (some ⟨p,0,none⟩),.int .i64 ((d+1:Nat):Int)] W (iQ W0 U g (tL p a (itF (d+1) a.rest))):=by
 have G:=j.le;have h:=j.len;unfold R47 at h;have J:a.rest.length=a.b.length-a.at_:=Aq;have hd1:decide (((d+1:Nat):Int)<1)=false:=Ba oW;have O:=eK k;have I:=(aAD k).1;have D:itF (d+1) a.rest=some (.mk 0 n [] [] false,z):=by rw[itF,k];rfl
 have q:Mem W0 U ([(bK p [(St a.b),(I6 (a.at_:Int)),(I6 a.e)] 245)]++g) W:=c.eqv kR;refine fU 118 Tryz.func181 q ?_;refine zs (zr (fH 1 (fun E=>?_)));refine zn (zQ 1 (eM 0 (fun W c=>dV a p j c) (fun Z K V A r=>?_)));obtain⟨f,rfl,rfl⟩:=r;refine zq 1 (zn (zQ 1 (jU 0 (f,(Rd.new a.rest).O) 212 #[(Pt f 0)] (aAS f a.rest (some (0,n,o,z))) (fun W c=>k▸eJ a.rest f (Ps.rest_len j) c) (fun v2 L X B u=>?_))));obtain⟨rfl,rfl⟩:=u;refine zq 7 (zn (zs (zQ 1 (eM 0 (x:=(f,(hdR a.rest (some (0,n,o,z))).O)) (fun W c=>iF (⟨a.rest,z,-1,0,0⟩:Rd) f (c.eqv kR)) (fun v3 M Y C y=>?_)))));obtain⟨rfl,rfl⟩:=y;refine zq 5 (zn (zQ 2 (zn (dD (zk (zs (aB (zQ 15 (zn (dD (zQ 3 (zn (dO (decide (((d+1:Nat):Int)<1)) hd1 ?_)))))))))))));refine zQ 3 (zn (dP (zs ?_)));refine iM 3 [0,0,0,4,0,1] [(p,1)] [.val (I6 (z:Int))] ⟨?_,trivial⟩ ?_
 ·exact vC 214 #[(Pt f 0)] (fun W c=>aQj (⟨a.rest,z,-1,0,0⟩:Rd) f 0 c kR)
 refine zq 1 (eC 76 ((a.at_:Int)+(z:Int)) (zq 2 (aX 1 p (zn (zQ 1 (cY 40 #[(N6 n)] (iV n) (fun W c=>dN _ W) ?_))))));refine aX 2 E (zn (aA (dL [3] [(E,5)] [(iV n)] (fun N c=>?_))));rw[D];exact gJ 1 3 _ c (View.le_trans (View.le_trans A B) C) ⟨_,_,⟨a.b,a.at_+z,a.e⟩,rfl,TV.num _ n (by unfold W64;omega),rfl,rfl,rfl,rfl,F⟩
theorem aMo(a:Ps)(p:Nat)(d k n z:Nat)(o:Bool)(r:a.ok)(he:a.e=0)(Y:k=2∨k=3)(A:hdF a.rest=some (k,n,o,z)){W0:Cx}{U:View}{f:aN}{W:World}(c:Mem W0 U ([(p,a.O)]++f) W):CP 181 #[.pointer (some ⟨p,0,none⟩),.int .i64 ((d+1:Nat):Int)] W (iQ W0 U f (tL p a (itF (d+1) a.rest))):=by
 have b3:=r.le;have q:=r.len;unfold R47 at q;have b5:a.rest.length=a.b.length-a.at_:=Aq;have hd1:decide (((d+1:Nat):Int)<1)=false:=Ba oW;have hz:=eK A;have O:((k:Int)==0)=false:=Ai.2 oW;have b1:((k:Int)==4)=false:=Ai.2 oW;have j:((k:Int) !=4)=true:=Cb.2 oW;have N:itF (d+1) a.rest=mL (k:Int) (sF a.rest n z o 1073741824):=by rw[itF,A];rcases Y with rfl|rfl<;>rfl
 have B:Mem W0 U ([(bK p [(St a.b),(I6 (a.at_:Int)),(I6 a.e)] 245)]++f) W:=c.eqv kR;refine fU 118 Tryz.func181 B ?_;refine zs (zr (fH 1 (fun y=>?_)));refine zn (zQ 1 (eM 0 (fun W c=>dV a p r c) (fun v1 V1 s1 G C=>?_)));obtain⟨g,rfl,rfl⟩:=C;refine zq 1 (zn (zQ 1 (jU 0 (g,(Rd.new a.rest).O) 212 #[(Pt g 0)] (aAS g a.rest (some (k,n,o,z))) (fun W c=>A▸eJ a.rest g (Ps.rest_len r) c) (fun v2 V2 s2 I D=>?_))));obtain⟨rfl,rfl⟩:=D;refine zq 7 (zn (zs (zQ 1 (eM 0 (x:=(g,(hdR a.rest (some (k,n,o,z))).O)) (fun W c=>iF (⟨a.rest,z,-1,0,0⟩:Rd) g (c.eqv kR)) (fun v3 V3 s3 J E=>?_)))));obtain⟨rfl,rfl⟩:=E;refine zq 5 (zn (zQ 2 (zn (dD (zk (zs (aB ?_)))))));refine dH (α:=Bool) (fun h=>[0,1,4,5,6,7,37].zip [(Pt p 0),(I6 ((d+1:Nat):Int)),(Pt y 0),(Pt g 0),(I6 (k:Int)),(N6 n),(.bool h)]) (fun h=>V3) (fun h=>([(g,(⟨a.rest,z,-1,0,0⟩:Rd).O),(bK p [(St a.b),(I6 (a.at_:Int)),(I6 a.e)] 245),(y,.cells [(I6 0),(U6 0),(St []),S0,(.bool false)].toArray 89 (0,0))]++f)) (fun h=>h=false) ?_ ?_
 ·refine zr (zq 3 (lO 40 (k:Int) 0 (fun h0 a6=>?_) (fun h0 _=>?_)))
  ·refine zq 4 (lO 44 (k:Int) 2 (fun h1 a7=>?_) (fun h1 _=>?_))
   ·refine zq 4 (lO 48 (k:Int) 3 (fun h2 a8=>?_) (fun h2 _=>?_))
    ·refine zq 4 (zn ?_);refine jn ((k:Int) !=4) ?_;exfalso;omega
    ·refine zq 4 (zn ?_);refine jn false ?_;rfl
   ·refine zq 8 (zn ?_);refine jn false ?_;rfl
  ·refine zq 12 (zn ?_);refine jn false ?_;rfl
 intro h M;refine dO h M ?_;refine zQ 3 (zn (dO (decide (((d+1:Nat):Int)<1)) hd1 ?_));refine zQ 3 (zn (dO ((k:Int)==0) O ?_));refine zQ 3 (zn (iA ((k:Int) !=4) j ?_));refine zQ 2 (jU 1 (bK p [(St a.b),(I6 (a.at_:Int)),(I6 a.e)] 245) 215 #[(Pt p 0),(I6 (k:Int))] (tL p a (mL (k:Int) (sF a.rest n z o 1073741824))) (fun W c=>aL6 a p k n z o _ r he Y A rfl (c.eqv kR)) (fun v4 V4 s4 K F=>?_));obtain⟨t4,a1,X,rfl,u,rfl,L,V⟩:=F;obtain⟨a4,c4,rfl,Z,b4,b6,b2⟩:=u.form;refine aX 2 y (zn (aA (dL [3] [(y,5)] [(tV t4 a4 c4)] (fun W' c=>?_))));rw[N];exact gJ 0 3 _ c (View.le_trans (View.le_trans (View.le_trans G I) J) K) ⟨t4,_,X,rfl,u,rfl,L,V⟩
theorem aKi(a:Ps)(p:Nat)(d n z:Nat)(f:a.ok)(he:a.e=0)(r:hdF a.rest=some (4,n,true,z))(V:d≤1000)(hI:tJ d){W0:Cx}{U:View}{g:aN}{W:World}(c:Mem W0 U ([(p,a.O)]++g) W):CP 181 #[.pointer (some ⟨p,0,none⟩),.int .i64 ((d+1:Nat):Int)] W (iQ W0 U g (tL p a (itF (d+1) a.rest))):=by
 have b3:=f.le;have j:=f.len;unfold R47 at j;have b5:a.rest.length=a.b.length-a.at_:=Aq;have hd1:decide (((d+1:Nat):Int)<1)=false:=Ba oW;have hz:=eK r;have Y:(⟨a.b,a.at_+z,a.e⟩:Ps).ok:=⟨by show a.at_+z≤a.b.length;omega,f.len⟩;have Z:(⟨a.b,a.at_+z,a.e⟩:Ps).rest=a.rest.drop z:=by unfold Ps.rest;rw[De]
 have X:itF (d+1) a.rest=lI true z (jL (itF d) 0 (⟨a.b,a.at_+z,a.e⟩:Ps).rest):=by rw[Z,itF,r];rfl
 have u:Mem W0 U ([(bK p [(St a.b),(I6 (a.at_:Int)),(I6 a.e)] 245)]++g) W:=c.eqv kR;refine fU 118 Tryz.func181 u ?_;refine zs (zr (fH 1 (fun b0=>?_)));refine zn (zQ 1 (eM 0 (fun W c=>dV a p f c) (fun v1 V1 s1 G y=>?_)));obtain⟨h,rfl,rfl⟩:=y;refine zq 1 (zn (zQ 1 (jU 0 (h,(Rd.new a.rest).O) 212 #[(Pt h 0)] (aAS h a.rest (some (4,n,true,z))) (fun W c=>r▸eJ a.rest h (Ps.rest_len f) c) (fun v2 V2 s2 I A=>?_))));obtain⟨rfl,rfl⟩:=A;refine zq 7 (zn (zs (zQ 1 (eM 0 (x:=(h,(hdR a.rest (some (4,n,true,z))).O)) (fun W c=>iF (⟨a.rest,z,-1,0,0⟩:Rd) h (c.eqv kR)) (fun v3 V3 s3 J B=>?_)))));obtain⟨rfl,rfl⟩:=B;refine zq 5 (zn (zQ 2 (zn (dD (zk (zs (aB (zQ 15 (zn (dD (zQ 3 (zn (dO (decide (((d+1:Nat):Int)<1)) hd1 ?_)))))))))))));refine zQ 3 (zn (dD (zQ 3 (zn (dD (zk (zQ 1 (eM 1 (fun W c=>dV a p f c) (fun v4 V4 s4 K C=>?_)))))))));obtain⟨q,rfl,rfl⟩:=C;refine zq 1 (zn (zQ 1 (eM 0 (fun W c=>aFT a.rest q n z r (Ps.rest_len f) c) (fun v5 V5 s5 L D=>?_))));obtain⟨rfl,rfl⟩:=D;refine zq 1 (zn (zs (zQ 1 (eM 0 (x:=(q,(⟨a.rest,z,-1,0,0⟩:Rd).O)) (fun W c=>iF (⟨a.rest,z,-1,0,0⟩:Rd) q (c.eqv kR)) (fun v6 V6 s6 M E=>?_)))));obtain⟨rfl,rfl⟩:=E;refine zq 5 (zn (zQ 2 (zn (dD (zk (zs ?_))))));refine iM 3 [0,0,0,4,0,1] [(p,1)] [.val (I6 (z:Int))] ⟨?_,trivial⟩ ?_
 ·exact vC 214 #[(Pt q 0)] (fun W c=>aQj (⟨a.rest,z,-1,0,0⟩:Rd) q 0 c kR)
 refine zq 1 (eC 111 ((a.at_:Int)+(z:Int)) (zq 2 (aX 1 p (zn (zQ 3 (eM 1 (x:=(bK p [(St a.b),(I6 ((a.at_:Int)+(z:Int))),(I6 a.e)] 245)) (fun W c=>aH9 d V hI (⟨a.b,a.at_+z,a.e⟩:Ps) p Y he (c.eqv kR)) (fun v7 V7 s7 N F=>?_)))))));obtain⟨t7,b1,a6,rfl,k,rfl,O,a1⟩:=F;obtain⟨a7,c7,rfl,a8,b4,b6,b2⟩:=k.form;refine aX 3 b0 (zn (aA (dL [4] [(b0,5)] [(tV t7 a7 c7)] (fun W' c=>?_))));rw[X];exact gJ 0 4 _ c (View.le_trans (View.le_trans (View.le_trans (View.le_trans (View.le_trans (View.le_trans G I) J) K) L) M) N) (aCu ⟨t7,_,a6,rfl,k,rfl,O,a1⟩)
theorem aOr(a:Ps)(p:Nat)(d n z:Nat)(f:a.ok)(he:a.e=0)(r:hdF a.rest=some (4,n,false,z))(hn:n≤1000)(V:d≤1000)(hI:tJ d){W0:Cx}{U:View}{g:aN}{W:World}(c:Mem W0 U ([(p,a.O)]++g) W):CP 181 #[.pointer (some ⟨p,0,none⟩),.int .i64 ((d+1:Nat):Int)] W (iQ W0 U g (tL p a (itF (d+1) a.rest))):=by
 have b4:=f.le;have j:=f.len;unfold R47 at j;have b6:a.rest.length=a.b.length-a.at_:=Aq;have hd1:decide (((d+1:Nat):Int)<1)=false:=Ba oW;have hz:=eK r;have Y:decide ((n:Int)>1000)=false:=Ba oW;have Z:(⟨a.b,a.at_+z,a.e⟩:Ps).ok:=⟨by show a.at_+z≤a.b.length;omega,f.len⟩;have a1:(⟨a.b,a.at_+z,a.e⟩:Ps).rest=a.rest.drop z:=by unfold Ps.rest;rw[De]
 have X:itF (d+1) a.rest=lI false z (gZ (itF d) n 0 (⟨a.b,a.at_+z,a.e⟩:Ps).rest):=by rw[a1,itF,r];simp only[Nat.reduceEqDiff,if_false,if_true,Av,hn];rfl
 have u:Mem W0 U ([(bK p [(St a.b),(I6 (a.at_:Int)),(I6 a.e)] 245)]++g) W:=c.eqv kR;refine fU 118 Tryz.func181 u ?_;refine zs (zr (fH 1 (fun b0=>?_)));refine zn (zQ 1 (eM 0 (fun W c=>dV a p f c) (fun v1 V1 s1 G y=>?_)));obtain⟨h,rfl,rfl⟩:=y;refine zq 1 (zn (zQ 1 (jU 0 (h,(Rd.new a.rest).O) 212 #[(Pt h 0)] (aAS h a.rest (some (4,n,false,z))) (fun W c=>r▸eJ a.rest h (Ps.rest_len f) c) (fun v2 V2 s2 I A=>?_))));obtain⟨rfl,rfl⟩:=A;refine zq 7 (zn (zs (zQ 1 (eM 0 (x:=(h,(hdR a.rest (some (4,n,false,z))).O)) (fun W c=>iF (⟨a.rest,z,-1,0,0⟩:Rd) h (c.eqv kR)) (fun v3 V3 s3 J B=>?_)))));obtain⟨rfl,rfl⟩:=B;refine zq 5 (zn (zQ 2 (zn (dD (zk (zs (aB (zQ 15 (zn (dD (zQ 3 (zn (dO (decide (((d+1:Nat):Int)<1)) hd1 ?_)))))))))))));refine zQ 3 (zn (dD (zQ 3 (zn (dD (zk (zQ 1 (eM 1 (fun W c=>dV a p f c) (fun v4 V4 s4 K C=>?_)))))))));obtain⟨q,rfl,rfl⟩:=C;refine zq 1 (zn (zQ 1 (eM 0 (fun W c=>aJN a.rest q n z r (Ps.rest_len f) Y c) (fun v5 V5 s5 L D=>?_))));obtain⟨rfl,rfl⟩:=D;refine zq 1 (zn (zs (zQ 1 (eM 0 (x:=(q,(⟨a.rest,z,-1,0,0⟩:Rd).O)) (fun W c=>iF (⟨a.rest,z,-1,0,0⟩:Rd) q (c.eqv kR)) (fun v6 V6 s6 M E=>?_)))));obtain⟨rfl,rfl⟩:=E;refine zq 5 (zn (zQ 2 (zn (dD (zk (zs ?_))))));refine iM 3 [0,0,0,4,0,1] [(p,1)] [.val (I6 (z:Int))] ⟨?_,trivial⟩ ?_
 ·exact vC 214 #[(Pt q 0)] (fun W c=>aQj (⟨a.rest,z,-1,0,0⟩:Rd) q 0 c kR)
 refine zq 1 (eC 111 ((a.at_:Int)+(z:Int)) (zq 2 (aX 1 p (zn (zQ 3 (eM 1 (x:=(bK p [(St a.b),(I6 ((a.at_:Int)+(z:Int))),(I6 a.e)] 245)) (fun W c=>aEG d n hn V hI (⟨a.b,a.at_+z,a.e⟩:Ps) p Z he (c.eqv kR)) (fun v7 V7 s7 N F=>?_)))))));obtain⟨t7,b2,a8,rfl,k,rfl,O,a6⟩:=F;obtain⟨a7,c7,rfl,b1,b5,b7,b3⟩:=k.form;refine aX 3 b0 (zn (aA (dL [4] [(b0,5)] [(tV t7 a7 c7)] (fun W' c=>?_))));rw[X];exact gJ 0 4 _ c (View.le_trans (View.le_trans (View.le_trans (View.le_trans (View.le_trans (View.le_trans G I) J) K) L) M) N) (aCu ⟨t7,_,a8,rfl,k,rfl,O,a6⟩)
theorem aKk(a:Ps)(p:Nat)(d n z:Nat)(g:a.ok)(X:a.e=0)(k:hdF a.rest=some (4,n,false,z))(Z:¬n≤1000){W0:Cx}{U:View}{f:aN}{W:World}(c:Mem W0 U ([(p,a.O)]++f) W):CP 181 #[.pointer (some ⟨p,0,none⟩),.int .i64 ((d+1:Nat):Int)] W (iQ W0 U f (tL p a (itF (d+1) a.rest))):=by
 have Y:=g.le;have j:=g.len;unfold R47 at j;have a1:a.rest.length=a.b.length-a.at_:=Aq;have hd1:decide (((d+1:Nat):Int)<1)=false:=Ba oW;have hz:=eK k;have N:decide ((n:Int)>1000)=true:=Cc oW;have M:itF (d+1) a.rest=none:=by rw[itF,k];simp only[Nat.reduceEqDiff,if_false,if_true,Av,Z]
 have q:Mem W0 U ([(bK p [(St a.b),(I6 (a.at_:Int)),(I6 a.e)] 245)]++f) W:=c.eqv kR;refine fU 118 Tryz.func181 q ?_;refine zs (zr (fH 1 (fun V=>?_)));refine zn (zQ 1 (eM 0 (fun W c=>dV a p g c) (fun v1 V1 s1 E r=>?_)));obtain⟨h,rfl,rfl⟩:=r;refine zq 1 (zn (zQ 1 (jU 0 (h,(Rd.new a.rest).O) 212 #[(Pt h 0)] (aAS h a.rest (some (4,n,false,z))) (fun W c=>k▸eJ a.rest h (Ps.rest_len g) c) (fun v2 V2 s2 F u=>?_))));obtain⟨rfl,rfl⟩:=u;refine zq 7 (zn (zs (zQ 1 (eM 0 (x:=(h,(hdR a.rest (some (4,n,false,z))).O)) (fun W c=>iF (⟨a.rest,z,-1,0,0⟩:Rd) h (c.eqv kR)) (fun v3 V3 s3 G y=>?_)))));obtain⟨rfl,rfl⟩:=y;refine zq 5 (zn (zQ 2 (zn (dD (zk (zs (aB (zQ 15 (zn (dD (zQ 3 (zn (dO (decide (((d+1:Nat):Int)<1)) hd1 ?_)))))))))))));refine zQ 3 (zn (dD (zQ 3 (zn (dD (zk (zQ 1 (eM 1 (fun W c=>dV a p g c) (fun v4 V4 s4 I A=>?_)))))))));obtain⟨O,rfl,rfl⟩:=A;refine zq 1 (zn (zQ 1 (eM 0 (fun W c=>aFU a.rest O n z k (Ps.rest_len g) N c) (fun v5 V5 s5 J B=>?_))));obtain⟨rfl,rfl⟩:=B;refine zq 1 (zn (zs (zQ 1 (eM 0 (x:=(O,(⟨a.rest,0,0,4,0⟩:Rd).O)) (fun W c=>iF (⟨a.rest,0,0,4,0⟩:Rd) O (c.eqv kR)) (fun v6 V6 s6 K C=>?_)))));obtain⟨rfl,rfl⟩:=C;refine zq 5 (zn (zQ 2 (zn (dP (zB [0,0,0,0,2,0] [(p,1)] (eM 1 (x:=(bK p [(St a.b),(I6 (a.at_:Int)),(I6 a.e)] 245)) (fun W c=>jK a p a.at_ 4 (c.eqv kR)) (fun v7 V7 s7 L D=>?_)))))));obtain⟨rfl,rfl⟩:=D;refine aX 3 V (zn (aA (dL [4] [(V,5)] [(.agg #[(I6 0),(U6 0),(St []),S0,(.bool false)])] (fun W' c=>?_))));rw[M];exact gJ 0 4 _ c (View.le_trans (View.le_trans (View.le_trans (View.le_trans (View.le_trans (View.le_trans E F) G) I) J) K) L) (mZ (at_:=a.at_) (e:=4) X (by decide))
theorem aJV:∀d,d≤1000→tJ d:=by
 intro d y
 induction d with
 |zero=>
  intro a p g f W0 U j W c;cases h:hdF a.rest with
  |none=>exact aKj a p 0 g f h c
  |some q=>
   obtain⟨m,n,o,z⟩:=q;exact aKh a p m n z o g f h c
 |succ d ih=>
  intro a p g f W0 U j W c;cases h:hdF a.rest with
  |none=>exact aKj a p (d+1) g f h c
  |some q=>
   obtain⟨m,n,o,z⟩:=q;by_cases k:m=0
   ·subst k;exact aMp a p d n z o g f h c
   ·by_cases x:m=2∨m=3
    ·exact aMo a p d m n z o g f x h c
    ·by_cases r:m=4
     ·subst r;cases o with
      |true=>exact aKi a p d n z g f h oW (ih oW) c
      |false=>
       by_cases u:n≤1000
       ·exact aOr a p d n z g f h u oW (ih oW) c
       ·exact aKk a p d n z g f h u c
     ·exact aIn a p (d+1) m n z o g f h k oW oW r c
def mG(b:List UInt8):Option Itm.Tr:=match itF 8 b with
 |some (t,k)=>if k=b.length then some t else none
 |none=>none
def aOR(x:Option Itm.Tr)(v:Value)(V:View):Prop:=match x with
 |some t=>∃cs,v=.tuple #[.agg cs.toArray,.int .i64 (-1),.int .i64 0]∧TV V t cs
 |none=>∃n e,v=.tuple #[itZ,.int .i64 n,.int .i64 e]∧e≠0
theorem aFY{b:List UInt8}{t:Itm.Tr}{ps':Ps}(a:match itF 8 b with
 |some (d,k)=>t=d∧ps'.at_=0+k∧ps'.e=0
 |none=>ps'.e≠0):(ps'.e≠0→mG b=none)∧(ps'.e=0→ps'.at_≤b.length∧(ps'.at_<b.length→mG b=none)∧(¬ps'.at_<b.length→mG b=some t)):=by
 unfold mG;cases c:itF 8 b with
 |none=>
  rw[c]at a;exact⟨fun _=>rfl,fun h=>absurd h a⟩
 |some q=>
  obtain⟨d,k⟩:=q;rw[c]at a;simp only at a;obtain⟨rfl,g,f⟩:=a;have j:=gD 8 b _ _ c;refine⟨fun h=>absurd f h,fun _=>⟨by omega,fun h=>?_,fun h=>?_⟩⟩
  ·simp only;rw[An oW]
  ·simp only;rw[Ar oW]
theorem aIa(a:Ps)(p at_:Nat)(e:Int)(h:(a.e==0)=true){W0:Cx}{U:View}{c:aN}{W:World}(f:Mem W0 U ([(p,a.O)]++c) W):CP 182 #[.pointer (some ⟨p,0,none⟩),.int .i64 (at_:Int),.int .i64 e] W (iQ W0 U c fun v _ σ'=>v=itZ∧σ'=[(p,(⟨a.b,at_,e⟩:Ps).O)]):=by
 have d:=jK a p at_ e f;rw[show a.fail at_ e=⟨a.b,at_,e⟩from by unfold Ps.fail;rw[Ar h]]at d;exact d
theorem aCQ(b:List UInt8)(w:World){U:View}(hU:See U w)(hb:b.length≤R47):CP 137 #[.string (B b)] w (fO w U (aOR (mG b))):=by
 have A:=hb;unfold R47 at A;refine dE 47 Tryz.func137 hU ?_;refine zs (zr (aW (fun f=>(zq 2 (zn (zQ 2 (aW (fun c=>(zq 1 (zn (zQ 1 (jU 1 (bK c [(St b),(I6 0),(I6 0)] 245) 181 #[(Pt c 0),(I6 8)] (tL c ⟨b,0,0⟩ (itF 8 (Ps.rest ⟨b,0,0⟩))) (fun W k=>aJV 8 (by decide) ⟨b,0,0⟩ c ⟨Ap _,hb⟩ rfl (k.eqv kR)) (fun v2 Y s2 d j=>?_)))))))))))));obtain⟨O,a8,a,rfl,D,rfl,b4,N⟩:=j;obtain⟨E,F,rfl,a6,b6,b7,b5⟩:=D.form;have j:=aFY (b:=b) (ps':=a) N;refine aW (fun x=>(aX 2 x (zn (zs (zB [0,0,0,1,0,0] [(c,1)] (oT 17 a.e 0 (fun r b2=>?_) (fun r _=>?_)))))))
 ·refine cG [0,0,0,1,0,0,0,0] [(c,1)] (zn (cE ((a.at_:Int)<(((b).length:Nat):Int)) (fun G I=>?_) (fun G I=>?_)))
  ·refine zr (cG [0,0,0,0,1] [(c,1)] (jU 0 (bK c [(St a.b),(I6 (a.at_:Int)),(I6 a.e)] 245) 182 #[(Pt c 0),(I6 (a.at_:Int)),(I6 2)] (fun v _ X=>v=itZ∧X=[(c,(⟨a.b,a.at_,2⟩:Ps).O)]) (fun W k=>(aIa a c a.at_ 2 r (k.eqv kR))) (fun v4 V4 s4 K J=>?_)));obtain⟨rfl,rfl⟩:=J;refine zn (zs (zB [0,0,0,1,0] [(c,1)] (zn (dP (zs ?_)))));refine aBe 11 1 0 [37,38,39,40,41,42,43,44,45,0,3] [.val (.agg #[(I6 0),(U6 0),(St []),S0,(.bool false)]),.val (Pt c 0),.val (Pt c 0),.val (Pt c 1),.val (I6 (a.at_:Int)),.val (Pt c 0),.val (Pt c 0),.val (Pt c 2),.val (I6 2),.mem (fun _ _=>True),.val (I6 (a.at_:Int))] 9 [(bK c [(St a.b),(I6 (a.at_:Int)),(I6 2)] 245),(f,.cells [(I6 0),(U6 0),(St []),S0,(.bool false)].toArray 89 (0,0)),(bK x (tC O E F) 89)] kR rfl rfl kR kR kR kR kR kR (by simp only[Bc];refine⟨?_,?_,?_,?_,?_,?_,?_,?_,?_,?_,?_,fun _ h=>by cases h⟩<;>first|trivial|(intro v V Y d q;(first|trivial|exact PhiMono.go q d|(obtain⟨g,e,q⟩:=q;exact⟨g,e,q.le d⟩)))) kR (show(9:Nat)<11 by decide) rfl ⟨?_,?_,?_,?_,?_,?_,?_,?_,?_,?_,?_,trivial⟩ [2,3,4,6,45] (fun u=>[(Pt f 0),(I6 (a.at_:Int)),(I6 0),(Pt x 0),(I6 2)]) kF ?_
   ·exact ObS.o 0 (show(0:Nat)≠9 by decide) (oqQ 0 rfl (.agg #[(I6 0),(U6 0),(St []),S0,(.bool false)]) (.agg #[(I6 0),(U6 0),(St []),S0,(.bool false)]) rfl rfl kF kF) (oqQ 0 rfl (.agg #[(I6 0),(U6 0),(St []),S0,(.bool false)]) (.agg #[(I6 0),(U6 0),(St []),S0,(.bool false)]) rfl rfl kF kF)
   ·exact ObS.o 1 (show(1:Nat)≠9 by decide) (oqQ 1 rfl (Pt c 0) (Pt c 0) rfl rfl kF kF) (oqQ 1 rfl (Pt c 0) (Pt c 0) rfl rfl kF kF)
   ·exact ObS.o 2 (show(2:Nat)≠9 by decide) (oqQ 2 rfl (Pt c 0) (Pt c 0) rfl rfl kF kF) (oqQ 2 rfl (Pt c 0) (Pt c 0) rfl rfl kF kF)
   ·exact ObS.o 3 (show(3:Nat)≠9 by decide) (oqQ 3 rfl (Pt c 1) (Pt c 1) rfl rfl kF kF) (oqQ 3 rfl (Pt c 1) (Pt c 1) rfl rfl kF kF)
   ·exact ObS.o 4 (show(4:Nat)≠9 by decide) (oqL 4 0 c 1 [(St a.b),(I6 (a.at_:Int)),(I6 2)] 245 rfl (I6 (a.at_:Int)) rfl kR kF kF) (oqL 4 0 c 1 [(St a.b),(I6 (a.at_:Int)),(I6 2)] 245 rfl (I6 (a.at_:Int)) rfl kR kF kF)
   ·exact ObS.o 5 (show(5:Nat)≠9 by decide) (oqQ 5 rfl (Pt c 0) (Pt c 0) rfl rfl kF kF) (oqQ 5 rfl (Pt c 0) (Pt c 0) rfl rfl kF kF)
   ·exact ObS.o 6 (show(6:Nat)≠9 by decide) (oqQ 6 rfl (Pt c 0) (Pt c 0) rfl rfl kF kF) (oqQ 6 rfl (Pt c 0) (Pt c 0) rfl rfl kF kF)
   ·exact ObS.o 7 (show(7:Nat)≠9 by decide) (oqQ 7 rfl (Pt c 2) (Pt c 2) rfl rfl kF kF) (oqQ 7 rfl (Pt c 2) (Pt c 2) rfl rfl kF kF)
   ·exact ObS.o 8 (show(8:Nat)≠9 by decide) (oqL 8 0 c 1 [(St a.b),(I6 (a.at_:Int)),(I6 2)] 245 rfl (I6 2) rfl kR kF kF) (oqL 8 0 c 1 [(St a.b),(I6 (a.at_:Int)),(I6 2)] 245 rfl (I6 2) rfl kR kF kF)
   ·exact ObS.st 1 f (.cells [(I6 0),(U6 0),(St []),S0,(.bool false)].toArray 89 (0,0)) rfl rfl rfl [2,37] (fun u=>[(Pt f 0),(.agg #[(I6 0),(U6 0),(St []),S0,(.bool false)])]) kF kF kR
   ·exact ObS.o 10 (show(10:Nat)≠9 by decide) (oqQ 10 rfl (I6 (a.at_:Int)) (I6 (a.at_:Int)) rfl rfl kF kF) (oqQ 10 rfl (I6 (a.at_:Int)) (I6 (a.at_:Int)) rfl rfl kF kF)
   intro u7 V7 L a1;refine zq 1 (zn (aA (dL [2,0,0] [(f,5)] [(.agg #[(I6 0),(U6 0),(St []),S0,(.bool false)]),(I6 (a.at_:Int)),(I6 2)] (fun Z k=>?_))));have C:=(j.2 (eq_of_beq r)).2.1 (by have:=Bj G;omega);rw[C];exact aH k (View.le_trans (View.le_trans d K) L) ⟨_,_,rfl,by decide⟩
  ·refine zk (zs (zB [0,0,0,1,0] [(c,1)] (zn (dO (a.e !=0) (by rw[eq_of_beq r];rfl) ?_))));refine zk (zB [3] [(x,5)] (aX 1 f (zq 2 (zn (aA (dL [2,0,0] [(f,5)] [(tV O E F),(I6 (-1)),(I6 0)] (fun Z k=>?_)))))));have C:=(j.2 (eq_of_beq r)).2.2 (by have:=Au G;omega);rw[C];exact aH k d ⟨_,rfl,D⟩
 ·refine zq 8 (zn (dD (zk (zs (zB [0,0,0,1,0] [(c,1)] (zn (iA (a.e !=0) (Cb.2 (Ai.1 r)) ?_)))))));refine zs ?_;refine aBe 11 1 0 [37,38,39,40,41,42,43,44,45,0,3] [.val (.agg #[(I6 0),(U6 0),(St []),S0,(.bool false)]),.val (Pt c 0),.val (Pt c 0),.val (Pt c 1),.val (I6 (a.at_:Int)),.val (Pt c 0),.val (Pt c 0),.val (Pt c 2),.val (I6 a.e),.mem (fun _ _=>True),.val (I6 (a.at_:Int))] 9 [(bK c [(St a.b),(I6 (a.at_:Int)),(I6 a.e)] 245),(f,.cells [(I6 0),(U6 0),(St []),S0,(.bool false)].toArray 89 (0,0)),(bK x (tC O E F) 89)] kR rfl rfl kR kR kR kR kR kR (by simp only[Bc];refine⟨?_,?_,?_,?_,?_,?_,?_,?_,?_,?_,?_,fun _ h=>by cases h⟩<;>first|trivial|(intro v V Y d q;(first|trivial|exact PhiMono.go q d|(obtain⟨g,e,q⟩:=q;exact⟨g,e,q.le d⟩)))) kR (show(9:Nat)<11 by decide) rfl ⟨?_,?_,?_,?_,?_,?_,?_,?_,?_,?_,?_,trivial⟩ [2,3,4,6,45] (fun u=>[(Pt f 0),(I6 (a.at_:Int)),(I6 0),(Pt x 0),(I6 a.e)]) kF ?_
  ·exact ObS.o 0 (show(0:Nat)≠9 by decide) (oqQ 0 rfl (.agg #[(I6 0),(U6 0),(St []),S0,(.bool false)]) (.agg #[(I6 0),(U6 0),(St []),S0,(.bool false)]) rfl rfl kF kF) (oqQ 0 rfl (.agg #[(I6 0),(U6 0),(St []),S0,(.bool false)]) (.agg #[(I6 0),(U6 0),(St []),S0,(.bool false)]) rfl rfl kF kF)
  ·exact ObS.o 1 (show(1:Nat)≠9 by decide) (oqQ 1 rfl (Pt c 0) (Pt c 0) rfl rfl kF kF) (oqQ 1 rfl (Pt c 0) (Pt c 0) rfl rfl kF kF)
  ·exact ObS.o 2 (show(2:Nat)≠9 by decide) (oqQ 2 rfl (Pt c 0) (Pt c 0) rfl rfl kF kF) (oqQ 2 rfl (Pt c 0) (Pt c 0) rfl rfl kF kF)
  ·exact ObS.o 3 (show(3:Nat)≠9 by decide) (oqQ 3 rfl (Pt c 1) (Pt c 1) rfl rfl kF kF) (oqQ 3 rfl (Pt c 1) (Pt c 1) rfl rfl kF kF)
  ·exact ObS.o 4 (show(4:Nat)≠9 by decide) (oqL 4 0 c 1 [(St a.b),(I6 (a.at_:Int)),(I6 a.e)] 245 rfl (I6 (a.at_:Int)) rfl kR kF kF) (oqL 4 0 c 1 [(St a.b),(I6 (a.at_:Int)),(I6 a.e)] 245 rfl (I6 (a.at_:Int)) rfl kR kF kF)
  ·exact ObS.o 5 (show(5:Nat)≠9 by decide) (oqQ 5 rfl (Pt c 0) (Pt c 0) rfl rfl kF kF) (oqQ 5 rfl (Pt c 0) (Pt c 0) rfl rfl kF kF)
  ·exact ObS.o 6 (show(6:Nat)≠9 by decide) (oqQ 6 rfl (Pt c 0) (Pt c 0) rfl rfl kF kF) (oqQ 6 rfl (Pt c 0) (Pt c 0) rfl rfl kF kF)
  ·exact ObS.o 7 (show(7:Nat)≠9 by decide) (oqQ 7 rfl (Pt c 2) (Pt c 2) rfl rfl kF kF) (oqQ 7 rfl (Pt c 2) (Pt c 2) rfl rfl kF kF)
  ·exact ObS.o 8 (show(8:Nat)≠9 by decide) (oqL 8 0 c 1 [(St a.b),(I6 (a.at_:Int)),(I6 a.e)] 245 rfl (I6 a.e) rfl kR kF kF) (oqL 8 0 c 1 [(St a.b),(I6 (a.at_:Int)),(I6 a.e)] 245 rfl (I6 a.e) rfl kR kF kF)
  ·exact ObS.st 1 f (.cells [(I6 0),(U6 0),(St []),S0,(.bool false)].toArray 89 (0,0)) rfl rfl rfl [2,37] (fun u=>[(Pt f 0),(.agg #[(I6 0),(U6 0),(St []),S0,(.bool false)])]) kF kF kR
  ·exact ObS.o 10 (show(10:Nat)≠9 by decide) (oqQ 10 rfl (I6 (a.at_:Int)) (I6 (a.at_:Int)) rfl rfl kF kF) (oqQ 10 rfl (I6 (a.at_:Int)) (I6 (a.at_:Int)) rfl rfl kF kF)
  intro b8 a7 y M;refine zq 1 (zn (aA (dL [2,0,0] [(f,5)] [(.agg #[(I6 0),(U6 0),(St []),S0,(.bool false)]),(I6 (a.at_:Int)),(I6 a.e)] (fun Z k=>?_))));have C:=j.1 (Ai.1 r);rw[C];exact aH k (View.le_trans d y) ⟨_,_,rfl,Ai.1 r⟩
def As.zero:As:=⟨[],0,⟨0,[],0,0⟩,[],[]⟩
def aOS(x:Option As)(v:Value)(V:View):Prop:=match x with
 |some a=>∃a1 a2 a3 c1 c2 c3,v=.tuple #[asV a a1 a2 a3 c1 c2 c3,.int .i64 0]∧aAK V a1 a2 a3 a∧a.t.length≤c1
 |none=>v=.tuple #[asV As.zero none none none 0 0 0,.int .i64 2]
theorem aBv{a:As}{s:List UInt8}(c:a.ok)(h:a.right=true)(f:a.bytes=s):mG (([159]++s)++[255])=some (.mk 4 0 [] a.items true):=by
 subst f;have d:=rO c h;unfold mG;rw[show([159]++a.bytes)++[255]=159::(a.bytes++[255])from rfl,d];simp only[if_true]
theorem aH6{s:List UInt8}(h:mG (([159]++s)++[255])=none):eD s=none:=jE fun a c d f=>by
 rw[aBv c d f]at h;cases h
theorem aH5{s:List UInt8}{t:Itm.Tr}(h:mG (([159]++s)++[255])=some t)(c:asR t.l=none):eD s=none:=jE fun a f d g=>by
 rw[aBv f d g]at h;obtain rfl:=Bs h;rw[show(Itm.Tr.mk 4 0 [] a.items true).l=a.items from rfl,qK d]at c;cases c
theorem aH4{s:List UInt8}{t:Itm.Tr}{a:As}(h:mG (([159]++s)++[255])=some t)(c:asR t.l=some a){b:As}(f:b.ok)(d:b.right=true)(g:b.bytes=s):b=a:=by
 rw[aBv f d g]at h;obtain rfl:=Bs h;rw[show(Itm.Tr.mk 4 0 [] b.items true).l=b.items from rfl,qK d]at c;exact Bs c
theorem aCz{s:List UInt8}{t:Itm.Tr}{a:As}(h:mG (([159]++s)++[255])=some t)(g:asR t.l=some a)(c:a.right=false∨a.bytes≠s):eD s=none:=jE fun b j d f=>by
 obtain rfl:=aH4 h g j d f;rcases c with c|c
 ·rw[c]at d;cases d
 ·exact c f
theorem aBu{b:List UInt8}{t:Itm.Tr}(h:mG b=some t):aQV t.l:=by
 unfold mG at h;split at h
 ·next c k a=>
  split at h
  ·obtain rfl:=Bs h;exact aKm a
  ·cases h
 ·cases h
theorem aC7(q:Addr)(s:List UInt8)(w:World){U:View}(hU:See U w)(V:EF U q)(hs:s.length≤100000000000):CP 96 #[.string (B s)] w (fO w U (aOS (eD s))):=by
 refine dE 43 Tryz.func96 hU ?_;refine zs (zr (aW (fun h=>(zq 1 (zn (zs (zr (dK (fun W a=>aAd W) (zq 1 (cD (St ([159]++s)) (cB _ _ _ _ rfl [159] s kR kR oA) ?_))))))))));refine dK (fun W a=>aAc W) (cD (St (([159]++s)++[255])) (cB _ _ _ _ rfl ([159]++s) [255] kR kR oA) ?_);rcases Ax ((mG (([159]++s)++[255])).isSome)with Z|Z
 ·refine pO (fun W a=>aCQ (([159]++s)++[255]) W a.view (by unfold R47;simp only[Ac,Ah,Bd];omega)) (fun v1 V1 c D=>?_);obtain⟨A,g⟩:=Cg.1 Z;rw[g]at D;obtain⟨b4,rfl,a8⟩:=D;obtain⟨a1,c1,rfl,k,b7,b9,b6⟩:=a8.form;refine zq 4 (aW (fun b2=>(aX 1 b2 (zq 2 (zn (zs (zQ 2 (zn (dD (zk (zB [0,2] [(b2,1)] ?_)))))))))));rcases Ax ((asR A.l).isSome)with h1|h1
  ·refine mC 139 #[(.slice a1 A.l.length c1)] (aOU q (asR A.l)) (fun W a=>aGX q A.l _ _ W a.view (V.le c) k (aBu g)) (fun X V3 j E=>?_);obtain⟨d,y⟩:=Cg.1 h1;rw[y]at E;obtain⟨x3,y3,z3,u3,X,w3,rfl,f,J⟩:=E;have r:=f.t;have u:=f.p;have x:=f.r;refine zq 3 (aW (fun N=>(aX 2 N (zq 1 (zn (zs (zQ 1 (dK (fun W a=>aIp q W a.view (V.le (View.le_trans c j))) (cG [0,3] [(N,8)] (cY 89 #[(asV d x3 y3 z3 u3 X w3)] (.bool (d.right)) (fun W a=>aC6 d _ _ _ _ _ _ W a.view ⟨r,u,x,f.s⟩ J) ?_))))))))));refine zq 3 (cN 35 (!(d.right)) (fun O=>?_) (fun O=>?_))
   ·refine zq 5 (zn (dP (zQ 1 (aX 0 h (zq 1 (zn (aA (dL [1,0] [(h,8)] [(.agg Z8.toArray),(I6 2)] (fun M a=>?_)))))))));rw[aCz g y (.inl (by simpa using O))];exact aH a (View.le_trans c j) rfl
   ·refine cG [3] [(N,8)] (cY 90 #[(asV d x3 y3 z3 u3 X w3)] (St (d.bytes)) (fun W a=>aDY d _ _ _ _ _ _ W a.view ⟨r,u,x,f.s⟩ (As.shaped (by simpa using O))) ?_);refine zq 1 (cD (.bool (!((d.bytes)==s))) (lQ _ _ _ _ rfl (d.bytes) s kR kR) ?_);refine zq 1 (zn (gN (!((d.bytes)==s)) (fun h3=>?_) (fun h3=>?_)))
    ·refine zQ 1 (aX 0 h (zq 1 (zn (aA (dL [1,0] [(h,8)] [(.agg Z8.toArray),(I6 2)] (fun M a=>?_))))));rw[aCz g y (.inr (by simpa using h3))];exact aH a (View.le_trans c j) rfl
    ·refine zk (zB [3] [(N,8)] (aX 0 h (zq 1 (zn (aA (dL [1,0] [(h,8)] [(asV d x3 y3 z3 u3 X w3),(I6 0)] (fun M a=>?_)))))));have C:aAK _ _ _ _ d:=⟨r,u,x,f.s⟩;have a7:d.bytes=s:=by simpa using h3
     have hz:=aBt C.ok (show d.right=true by simpa using O);rw[a7]at hz;rw[hz];exact aH a (View.le_trans c j) ⟨_,_,_,_,_,_,rfl,C,J⟩
  ·refine mC 139 #[(.slice a1 A.l.length c1)] (aOU q (asR A.l)) (fun W a=>aGX q A.l _ _ W a.view (V.le c) k (aBu g)) (fun v6 V6 I F=>?_);have K:=Eh.1 (by rw[h1];exact Bn);rw[K]at F;obtain⟨c0,c8,c2,c4,e3,c6,c7,c9,e0,e1,e2,e4,e5,e6,b3,rfl⟩:=F;refine zq 3 (aW (fun b8=>(aX 2 b8 (zq 1 (zn (zs (zQ 1 (dK (fun W a=>aKo q b3 W a.view (V.le (View.le_trans c I))) (zq 11 (zn (dP (zQ 1 (aX 0 h (zq 1 (zn (aA (dL [1,0] [(h,8)] [(.agg Z8.toArray),(I6 2)] (fun M a=>?_))))))))))))))))));rw[aH5 g K];exact aH a (View.le_trans c I) rfl
 ·refine pO (fun W a=>aCQ (([159]++s)++[255]) W a.view (by unfold R47;simp only[Ac,Ah,Bd];omega)) (fun v9 V9 a6 G=>?_);have L:=Eh.1 (by rw[Z];exact Bn);rw[L]at G;obtain⟨n9,e9,rfl,b1⟩:=G;refine zq 4 (aW (fun Y=>(aX 1 Y (zq 2 (zn (zs (zQ 2 (zn (iA (e9 !=0) (Cb.2 b1) ?_)))))))));refine zQ 1 (aX 0 h (zq 1 (zn (aA (dL [1,0] [(h,8)] [(.agg Z8.toArray),(I6 2)] (fun M a=>?_))))));rw[aH6 L];exact aH a a6 rfl
structure Go_ where
 i:Nat
 r:Rw
 xs:List Value
 m:Nat
 L:List (Op×List Value)
 V:View
def aQb(W:World):View:=fun a=>W.cell? a
section
variable {P:Program} {n:Nat} {W0:Cx} {Q:XQ} {s:aZ} {U:View} {σ:aN} {ops:Array Oper} {l:List Oper} {o:Oper}
theorem rH(t e:TypeId)(z:Nat)(x y:Operand)(h:o.op=.call { callee:=.builtin .append,args:=#[x,y],argTypes:=#[t,t] })(a d:Option Addr)(m c f:Nat)(q:evS s x=some (.slice a m c))(r:evS s y=some (.slice d 0 f))(g:m≤c)(k:P.underlying t=some (.slice e))(j:(P.info? e).map (·.size)=some z)(W:World):
  (execOp (ev s) o).run P W=.ok (.value (.slice a m c)) W:=by
 have u:=qI j W;unfold execOp;simp only[h,resolve,invoke,builtin,Sem.run_bind,Sem.run_pure,Result.andThen_ok,Ef,Cf,Dz,dY q,dY r,Builtin.append_];cases a<;>cases d<;>simp[run_underlying k W,u,Builtin.lenOf,Builtin.firstCells,storeCells,g,loadCells,loadCellsFrom]
end
end Go.Proofs.YtcdjakemdlinhaaGreatDoor.Sx
namespace Go.Proofs.YtcdjakemdlinhaaGreatDoor.Sx
open Go.ChangeShapes Go.WideShapes Go.ChangeAt Go.RowKit Go.Deep Go.ChangeMaps Go.MapKept
abbrev aBx:Int×Int→Value:=fun z=>.agg #[.int .i64 z.1,.int .i64 0,.int .i64 z.2]
theorem aL9(a c d f g j:Int)(w:World):(Op.equal 153 (.agg #[.int .i64 a,.int .i64 c,.int .i64 d]) (.agg #[.int .i64 f,.int .i64 g,.int .i64 j])).run Tryz.prog w=.ok (decide (a=f∧c=g∧d=j)) w:=by
 have h:(binOp .eql 153 (.agg #[.int .i64 a,.int .i64 c,.int .i64 d]) (.agg #[.int .i64 f,.int .i64 g,.int .i64 j])).run Tryz.prog w=.ok (.bool (decide (a=f∧c=g∧d=j))) w:=by
  go_simp
  (repeat' split)<;>simp_all
 unfold binOp at h;simp only[Sem.run_bind]at h;generalize (Op.equal 153 (.agg #[.int .i64 a,.int .i64 c,.int .i64 d]) (.agg #[.int .i64 f,.int .i64 g,.int .i64 j])).run Tryz.prog w=R at h ⊢;cases R with
 |ok r w'=>
  simp only[Result.andThen_ok,Sem.run_pure,Result.ok.injEq,Value.bool.injEq]at h;rw[h.1,h.2]
 |_=>cases h
theorem sZ(x : Int × Int)(w : World) : ∀ (i : Nat) (m : List ((Int × Int) × Int)), (Instr.findAsking 153 (aBx x) (mEs aBx i m) i).run Tryz.prog w = .ok (mD x i m) w
 |_,[]=>rfl
 |i,(k,v)::r=>by
  rw[mEs,Instr.findAsking,mD];simp only[Sem.run_bind,aL9,Result.andThen_ok];by_cases a:x=k
  ·subst a;simp
  ·have c:(x==k)=false:=Ai.2 a;have d:¬(x.1=k.1∧True∧x.2=k.2):=fun h=>a (Prod.ext h.1 h.2.2)
   rw[c,Ba d];simp only[Av,if_false];exact sZ x w (i+1) r
theorem sP:rD Tryz.prog 231 aBx:=
 ⟨153,3,Tryz.underlying231,(fun w=>by kernel_rfl),fun w b x=>by kernel_rfl,fun w x m=>by
  cases m with
  |nil=>simp[Instr.findKey,mEs,Instr.findNow,mD,run_underlying Tryz.underlying153]
  |cons e r=>
   obtain⟨k,v⟩:=e;have h:=sZ x w 0 ((k,v)::r);have c:∀a,Instr.findNow (.struct a) (aBx x) (mEs aBx 0 ((k,v)::r)) 0=none:=fun a=>rfl
   simp only[Instr.findKey,Sem.run_bind,run_underlying Tryz.underlying153,Result.andThen_ok];rw[c];exact h,fun w x=>by
  have:Instr.sameBits 10000 (aBx x) (aBx x)=true:=by simp[Instr.sameBits]
  unfold Instr.keyThatStays;rw[Ar this];rfl⟩
theorem aDA{α : Type}(key : α → Value) : ∀ (i : Nat) (m : List (α × Int)) (k : Nat), k < m.length → (mEs key i m).findIdx? (fun e => (e.born : Int) == ((i + k : Nat) : Int)) = some k
 |i,[],k,h=>by simp at h
 |i,(a,u)::r,0,_=>by simp[mEs,List.findIdx?_cons]
 |i,(a,u)::r,k+1,h=>by
  have d:=aDA key (i+1) r k (by simpa using h);rw[mEs,List.findIdx?_cons];have c:((i:Int)==((i+(k+1):Nat):Int))=false:=Ai.2 oW;simp only[c,Av,if_false];rw[show i+(k+1)=i+1+k by omega,d];rfl
theorem aBC{β : Type}(f : β → β)(e : β) : ∀ l : List β, (l ++ [e]).modify l.length f = l ++ [f e]
 | []=>rfl
 |x::l=>by
  have:=aBC f e l;rw[Cv,Ah,List.modify_succ_cons,this];rfl
theorem aBA{α : Type}[BEq α](x : α) : ∀ (i : Nat) (m : List (α × Int)) (p : Nat × Value), mD x i m = some p → oC x (gB x m) m = m
 |i,[],_,h=>by cases h
 |i,(k,u)::r,p,h=>by
  unfold mD at h;split at h
  ·next c=>rw[oC,Ar c,gB,Ar c]
  ·next a=>rw[oC,An a,gB,An a,aBA x (i+1) r p h]
section
variable {α:Type} [BEq α] [LawfulBEq α]
def aG4(x:α)(m:List (α×Int)):Nat:=match mD x 0 m with
 |some (j,_)=>j
 |none=>m.length
theorem aKb(key : α → Value)(x : α) : ∀ (i : Nat) (m : List (α × Int)) (j : Nat) (y : Value), mD x i m = some (j, y) → (mEs key i m)[j - i]? = some { key := key x, val := .int .i64 (gB x m), born := j } ∧ j - i < m.length
 |i,[],_,_,h=>by cases h
 |i,(k,u)::r,j,y,h=>by
  unfold mD at h;split at h
  ·next d=>
   simp only[Ab,Am]at h;obtain⟨rfl,rfl⟩:=h;rw[Dc,mEs,gB,Ar d,eq_of_beq d];exact⟨rfl,by simp⟩
  ·next c=>
   have g:=aDx x _ r j y h;obtain⟨f,q⟩:=aKb key x (i+1) r j y h;have a:j-i=(j-(i+1))+1:=by omega
   rw[a,mEs,gB,An c,Bv];exact⟨f,by rw[Ah];omega⟩
theorem aBB{β : Type}(f : β → β) : ∀ (l : List β) (j : Nat), (∀ e, l[j]? = some e → f e = e) → l.modify j f = l
 | [],j,_=>by cases j<;>rfl
 |x::l,0,h=>by
  have:=h x rfl;simp[this]
 |x::l,j+1,h=>by
  have:=aBB f l j fun e a=>h e (by simpa using a)
  simp[this]
variable {P:Program} {T:TypeId} {key:α→Value} {w:World} {b:Nat} {m:List (α×Int)}
theorem aMh(K:rD P T key)(d:w.heap[b]? =some (mO key m))(x:α):(Instr.mapEntry T (.map (some b)) (key x)).run P w=.ok (.tuple #[.int .i64 (gB x m),.int .i64 ((aG4 x m:Nat):Int)]) (setBlock w b (mO key (oC x (gB x m) m))):=by
 obtain⟨G,F,k,E,q,a,D⟩:=K.law;unfold mO at d;have a:=a w x m;unfold aG4;cases c:mD x 0 m with
 |none=>
  rw[c]at a;obtain⟨u,A,f⟩:=lL key x 0 0 m c;simp[Instr.mapEntry,run_underlying k,Go.MapKept.run_getObj_map d,q,a,E,Go.MapKept.run_setObj_map _ d,Result.andThen,setBlock,mO,u,A,f,goInt]
 |some p=>
  obtain⟨j,y⟩:=p;rw[c]at a;obtain⟨_,_,f,_⟩:=oD key x 0 0 m j y c;obtain⟨g,B⟩:=aKb key x 0 m j y c;rw[Fy]at g B;have h:=D w x;have C:=aBB (fun e:MapEntry=>{ e with key:=key x }) (mEs key 0 m) j fun e r=>by
   rw[g]at r;obtain rfl:=Bs r;rfl
  rw[aBA x 0 m _ c];simp[Instr.mapEntry,run_underlying k,Go.MapKept.run_getObj_map d,q,a,g,h,Go.MapKept.run_setObj_map _ d,Result.andThen,setBlock,mO,C,f,goInt]
theorem aOo(x:α)(d:w.heap[b]? =some (mO key (oC x (gB x m) m)))(v:Int):(Instr.entryStore T (.map (some b)) (.int .i64 ((aG4 x m:Nat):Int)) (.int .i64 v)).run P w=.ok () (setBlock w b (mO key (oC x v m))):=by
 unfold mO at d;unfold aG4;cases g:mD x 0 m with
 |none=>
  obtain⟨u,A,D⟩:=lL key x (gB x m) 0 m g;obtain⟨h,k,B⟩:=lL key x v 0 m g;have a:=aDA key 0 (oC x (gB x m) m) m.length oW;rw[Aw]at a;have c:(mEs key 0 (oC x (gB x m) m)).modify m.length (fun e=>{ e with val:=.int .i64 v })=mEs key 0 (oC x v m):=by
   have C:=aKa key 0 m;rw[u,h];rw[←C,aBC]
  simp[Instr.entryStore,Go.MapKept.run_getObj_map d,asInt,asIntOf,a,Go.MapKept.run_setObj_map _ d,Result.andThen,setBlock,mO,c,A,k]
 |some p=>
  obtain⟨j,y⟩:=p;rw[aBA x 0 m _ g]at d;obtain⟨h,k,B,e,E,F⟩:=oD key x v 0 m j y g;obtain⟨q,r⟩:=aKb key x 0 m j y g;rw[Fy]at h q r;have a:=aDA key 0 m j r;rw[Aw]at a;have c:(mEs key 0 m).modify j (fun e=>{ e with val:=.int .i64 v })=mEs key 0 (oC x v m):=by
   rw[h];apply List.ext_getElem?;intro i;rw[List.getElem?_modify,List.getElem?_modify];by_cases f:j=i
   ·subst f;rw[q];rfl
   ·simp[f]
  simp[Instr.entryStore,Go.MapKept.run_getObj_map d,asInt,asIntOf,a,Go.MapKept.run_setObj_map _ d,Result.andThen,setBlock,mO,c,k]
end
section
variable {P:Program} {n:Nat} {W0:Cx} {s:aZ} {U:View} {σ0:aN} {ops:Array Oper} {ds:List Nat} {vs:List Sq}
structure aRE (P : Program) (n : Nat) (W0 : Cx) (U : View) (σ σ2 : aN) (ops : Array Oper) (ds : List Nat) (vs : List Sq) (s : aZ) (i : Nat) : Prop where
 go:∃(o:Oper) (ts:List Nat) (vals:(Nat→Value)→List Value) (val:Value),ops[i]? =some o∧o.guard=none∧vs[i]? =some (.val val)∧(∀u,(ts.map fun x=>look (iP ops ds vs u i++aV s ds) x)=(vals u).map some)∧
  ∀(u:Nat→Value) (V:View),View.le U V→(∀j,cJ .any ops i j=true→gR vs j (u j) V)→∀(a:Act) (W:World),pL n (ts.zip (vals u)) a→Mem W0 V σ W→∀(K:Act→World→Prop) (Q:Exit→Act→World→Prop),(∀W',Mem W0 V σ2 W'→K (a.put o.dst val) W')→o.wp P a W K Q
def ObT(P:Program)(n:Nat)(W0:Cx)(U:View)(σ σ2:aN)(ops:Array Oper)(ds:List Nat)(vs:List Sq)(s:aZ)(i k:Nat):Prop:=
 if k=i then aRE P n W0 U σ σ2 ops ds vs s i else Oq P n W0 U σ ops ds vs s k∧Oq P n W0 U σ2 ops ds vs s k
theorem ObT.o{σ a:aN}{i:Nat}(k:Nat)(c:k≠i)(h:Oq P n W0 U σ ops ds vs s k)(d:Oq P n W0 U a ops ds vs s k):ObT P n W0 U σ a ops ds vs s i k:=by
 unfold ObT;rw[An c];exact⟨h,d⟩
theorem ObT.entry{σ d : aN}{i : Nat}{o : Oper}{T : TypeId}{α : Type}[BEq α][LawfulBEq α]{key : α → Value}(K : rD P T key)(k b : Nat)(m : List (α × Int))(x : α)(C B : Operand)(g : ops[i]? = some o)(E : o.guard = none)(F : o.op = .mapEntry T C B)(j : vs[i]? = some (.val (.tuple #[.int .i64 (gB x m), .int .i64 ((aG4 x m : Nat) : Int)])))
  (ts:List Nat) (c:(Nat→Value)→List Value) (h:∀u,(ts.map fun x=>look (iP ops ds vs u i++aV s ds) x)=(c u).map some) (hm:∀u,evS (ts.zip (c u)) C=some (.map (some b))) (G:∀u,evS (ts.zip (c u)) B=some (key x)) (A:σ[k]? =some (b,mO key m)) (q:σ.set k (b,mO key (oC x (gB x m) m))=d):ObT P n W0 U σ d ops ds vs s i i:=by
 unfold ObT;rw[Ar rfl];subst q;refine⟨⟨o,ts,c,_,g,E,j,h,fun u V _ _ a W y r I Q D=>?_⟩⟩;have f:=(r.own k b _ A).1;unfold Oper.wp execOp;simp only[F,eG y (hm u),eG y (G u),aMh K f x,Sem.run_bind,Sem.run_pure,Result.andThen_ok];exact D _ (r.set k b _ _ A rfl rfl rfl (by simp[setBlock]) (heap_setBlock_same f _) (fun i g=>heap_setBlock_other f _ g))
theorem aPK{σ : aN}{i : Nat}{o : Oper}{T : TypeId}{α : Type}[BEq α][LawfulBEq α]{key : α → Value}(K : rD P T key)(k b : Nat)(m : List (α × Int))(x : α)(v : Int)(q j : Operand)(C : ops[i]? = some o)(B : o.guard = none)(E : o.op = .lookup T q j false)(g : vs[i]? = some (.val (.int .i64 v)))(F : gB x m = v)
  (ts:List Nat) (c:(Nat→Value)→List Value) (f:∀u,(ts.map fun x=>look (iP ops ds vs u i++aV s ds) x)=(c u).map some) (hm:∀u,evS (ts.zip (c u)) q=some (.map (some b))) (G:∀u,evS (ts.zip (c u)) j=some (key x)) (D:σ[k]? =some (b,mO key m)):Oq P n W0 U σ ops ds vs s i:=
 Oq.op i C _ g fun u V J L=>by
  refine⟨by unfold cU;rw[B],fun a W y h Q I r=>?_⟩;have A:=(h.own k b _ D).1;have d:=iG ts _ y (f u);unfold Oper.wp execOp;simp only[E,eG d (hm u),eG d (G u),aJ9 K A x,Sem.run_bind,Sem.run_pure,Result.andThen_ok,F];exact r _ W h rfl (Below.refl _ _)
structure aRz (W0 : Cx) (U : View) (σ σ2 : aN) (vs : List Sq) (m i : Nat) (L : Nat → Bool) (u : Nat → Value) (w : World) (V : View) : Prop where
 le:View.le U V
 mem:Mem W0 V (if L i then σ2 else σ) w
 at_:∀j,j<m→L j=true→qY vs j (u j) V
theorem aJj{id : Nat}{l : List Oper}{Q : XQ}(m f r : Nat)(ds : List Nat)(vs : List Sq)(i : Nat)(C : aN)(hm : P.follows .mixedOrders = true)(a7 : l.length = m + f)(a1 : ds.length = m)
  (b2:oJ l.toArray ds=true) (a6:nodupB ds=true) (b7:(ds.all fun d=>Nat.blt d n)=true) (G:fI .any l.toArray m=true) (O:lM .any l.toArray m r=true) (E:jY l.toArray m f=true) (M:∀q∈vs,mX q)
  (b6:i<m)
  (c1:Go.Proofs.YtcdjakemdlinhaaGreatDoor.Steps (ObT P n W0 U σ0 C l.toArray ds vs s i) 0 m)
  (ts:List Nat) (B:(Nat→Value)→List Value) (N:∀u,(ts.map fun t=>look (aDP u 0 ds vs++aV s ds) t)=(B u).map some)
  (h:∀(u:Nat→Value) (V:View),View.le U V→(∀j,j<m→gR vs j (u j) V)→SXL P n W0 Q l.toArray (l.drop m) (ts.zip (B u)) V C):SXC P n W0 Q (.region id l.toArray true) s U σ0:=by
 refine⟨fun a W X hM=>?_⟩;have hn:=lH a6;have Y:∀d∈ds,d<n:=fun d Y=>by have:=Ao.1 b7 d Y;simpa[Ew]using this
 refine lD m f r ds (fun L u w=>∃V,aRz W0 U σ0 C vs m i L u w V) hm (by simpa using a7) a1 b2 a6 G O ?_ ?_ ?_
 ·intro u;exact⟨U,⟨View.le_refl _,hM.drew,fun j _ g=>by simp at g⟩⟩
 ·rintro k c6 L u w ⟨V,I⟩ a8 y c2 K hK;have A:=c1.get k (Ap _) oW;unfold ObT at A;split at A
  ·next J=>
   subst J;obtain⟨o,ts,B,val,ho,b3,b9,N,b4⟩:=A.go;have hr:=jH (a0:=a) (u:=u) (V:=V) (vs:=vs) (ops:=l.toArray) k X hn Y fun j g=>.inl (I.at_ j (y j g).2 (y j g).1)
   unfold wpOp;simp only[ho,Region.wanted,b3,if_true];left;have c:=I.mem;rw[a8]at c;refine b4 u V I.le (fun j g=>(I.at_ j (y j g).2 (y j g).1).phi) _ w (iG ts _ hr (N u)) c _ _ fun W' F=>?_
   have:=hK val W' ⟨V,⟨I.le,by rw[Ar rfl,Ar rfl];exact F,fun j g D=>?_⟩⟩
   ·rw[ho]at this;exact this
   ·by_cases e:j=k
    ·subst e;rw[Ar rfl];unfold qY;rw[b9]
    ·rw[An e]at D ⊢;exact I.at_ j g D
  ·next J=>
   have b1:Oq P n W0 U (if L i then C else σ0) l.toArray ds vs s k:=by
    cases L i
    ·exact A.1
    ·exact A.2
   have b0:Mem W0 U (if L i then C else σ0) w:=I.mem.weak I.le;refine(b1.go a (up n W0 Q) X hn Y M).step u w b0 (fun j g=>(I.at_ j (y j g).2 (y j g).1).isQ I.mem I.le) K fun v w' F hE hv=>?_
   obtain⟨V',h1,h2,h3⟩:=hv.at F;obtain⟨q1,q2,q3⟩:=Mem.join (I.mem.call hE) h2;refine hK v w' ⟨V.or V',⟨View.le_trans I.le q2,by have b5:(if i=k then true else L i)=L i:=An (fun e=>J e.symm);simp only[b5];exact q1,fun j g D=>?_⟩⟩;by_cases e:j=k
   ·subst e;rw[Ar rfl];exact h3.le M q3
   ·rw[An e]at D ⊢;exact(I.at_ j g D).le M q2
 ·rintro L u W' ⟨V,I⟩ D;refine iI f m _ W' (by simpa using a7.symm) E ?_;have hg:=fun t=>fX ds 0 u a t hn (by rw[X.size];exact Y)
  have b8:∀j,j<m→gR vs j (u j) V:=fun j g=>(I.at_ j g (D j g)).phi
  have c:=I.mem;rw[D i b6,Ar rfl]at c;refine(h u V I.le b8).go _ W' (iG ts _ (s':=aDP u 0 ds vs++aV s ds) ⟨by rw[(hg 0).2.2.1,X.size],by rw[(hg 0).2.2.2,X.defers],fun x v Z=>?_⟩ (N u)) c;rcases eV _ _ _ _ Z with Z|⟨_,Z⟩
  ·have c:=iW _ _ _ Z;obtain⟨j,q,hd2,c0,hq⟩:=mI u 0 _ _ _ _ c;have c4:j<ds.length:=(Af.1 hd2).1;rw[(hg x).1 j hd2,Aw];cases q with
   |val w=>
    simp only at hq;have:=I.at_ j oW (D j oW);unfold qY at this;rw[c0]at this;simp only at this;rw[this,hq]
   |mem Φ=>simp only[Aw]at hq;rw[hq]
  ·obtain⟨h1,h2⟩:=fD _ _ _ _ Z;rw[(hg x).2.1 h1];exact X.slots x v h2
end
section
variable {P:Program} {n:Nat} {W0:Cx} {Q:XQ} {s:aZ} {U:View} {σ:aN} {ops:Array Oper} {l:List Oper} {o:Oper} {T:TypeId} {α:Type} [BEq α] [LawfulBEq α] {key:α→Value}
theorem aLC(k b : Nat)(m : List (α × Int))(x : α)(v : Int)(r q u : Operand)(B : o.op = .entryStore T r q u)(hm : evS s r = some (.map (some b)))(E : evS s q = some (.int .i64 ((aG4 x m : Nat) : Int)))(C : evS s u = some (.int .i64 v))(j : σ[k]? = some (b, mO key (oC x (gB x m) m)))
  (g:eX n o=true) (D:cU ops s o=some true) (h:SXL P n W0 Q ops l (lT o undef s) U (σ.set k (b,mO key (oC x v m)))):SXL P n W0 Q ops (o::l) s U σ:=by
 refine pN g D fun a W c f F y=>?_
 have d:=(f.own k b _ j).1;unfold Oper.wp execOp;simp only[B,eG c hm,eG c E,eG c C,aOo x d v,Sem.run_bind,Sem.run_pure,Result.andThen_ok];exact y _ _ _ _ _ h (eL c g) (f.set k b _ _ j rfl rfl rfl (by simp[setBlock]) (heap_setBlock_same d _) (fun i A=>heap_setBlock_other d _ A))
end
end Go.Proofs.YtcdjakemdlinhaaGreatDoor.Sx
namespace Go.Proofs.YtcdjakemdlinhaaGreatDoor.Sx
open Go.ChangeShapes Go.WideShapes Go.ChangeAt Go.RowKit Go.Deep
theorem rI{p:Pr}{l:List Bk}(h:aU p l=0):l.length≤16∧∀x∈l,x.d.length≤4000:=by
 unfold aU sQ at h;split at h
 ·next c=>rw[show([],eN p l).2=eN p l from rfl]at h;rw[h]at c;cases c
 ·next j=>
  split at h
  ·next c=>rw[show([],fK p l).2=fK p l from rfl]at h;rw[h]at c;cases c
  ·next f=>
   have a:eN p l=0:=by simpa using j
   refine⟨aCn (by simpa using f),fun x q=>?_⟩;have d:aAP l=0:=by
    unfold eN at a;split at a
    ·next c=>rw[a]at c;cases c
    ·exact a
   have k:cH x=0:=by
    unfold aAP at d;split at d
    ·next y r=>
     have:=Fp r;rw[d]at this;cases this
    ·next g=>
     have:=Fe.1 g x q;simpa using this
   have:=(gQ k).2.2.2.2.2;omega
section
variable {P:Program} {n:Nat} {W0:Cx} {Q:XQ} {s:aZ} {U:View} {σ:aN} {ops:Array Oper} {l:List Oper} {o:Oper}
end
section
variable {P:Program} {n:Nat} {W0:Cx} {s:aZ} {U:View} {σ:aN} {ops:Array Oper} {ds:List Nat} {vs:List Sq}
end
section
variable {P:Program} {n:Nat} {W0:Cx} {s:aZ} {U:View} {σ0:aN}
end
theorem aLM{s : aZ}{o : Oper}(q : TypeId)(x y : Operand)(h : o.op = .binOp .neq 38 x y q)(a c d f : Int)(g : List UInt8)
  (j:evS s x=some (.agg #[.int .i64 a,.int .i64 c,.int .u64 d,.int .i64 f,.string (B g)])) (k:evS s y=some (.agg #[.int .i64 a,.int .i64 c,.int .u64 d,.int .i64 f,.string (B g)])) (W:World):
  (execOp (ev s) o).run Tryz.prog W=.ok (.value (.bool false)) W:=by
 unfold execOp;simp only[h,dY j,dY k]
 go_simp
theorem aLL{s : aZ}{o : Oper}(f : TypeId)(x y : Operand)(a : o.op = .binOp .neq 26 x y f)(p : Pr)
  (c:evS s x=some p.V) (d:evS s y=some p.V) (W:World):
  (execOp (ev s) o).run Tryz.prog W=.ok (.value (.bool false)) W:=by
 unfold execOp;simp only[a,dY c,dY d];unfold Pr.V Pr.cs
 go_simp
end Go.Proofs.YtcdjakemdlinhaaGreatDoor.Sx
namespace Go.Proofs.YtcdjakemdlinhaaGreatDoor
open Go.ChangeShapes Go.WideShapes Go.ChangeAt Go.RowKit Go.Deep
def pM(w:World)(b:Nat)(t:TypeId)(k:IntKind)(l:List Nat):Prop:=w.heap[b]? =some (.cells (aIV k l) t (0,0))
theorem pM.cell{w:World}{b:Nat}{t:TypeId}{k:IntKind}{l:List Nat}(h:pM w b t k l)(i:Nat)(a:i<l.length):w.cell? ⟨b,i,none⟩=some (.int k ((l.getD i 0:Nat):Int)):=by
 rw[cell_of_row _ b i _ _ _ h,aJZ k a]
theorem pM.frozen{w:World}{b:Nat}{t:TypeId}{k:IntKind}{l:List Nat}(h:pM w b t k l)(i:Nat):w.frozen? ⟨b,i,none⟩=false:=frozen_of_row w b i _ t h
theorem pM.set{w:World}{b:Nat}{t:TypeId}{k:IntKind}{l:List Nat}(h:pM w b t k l)(i v:Nat):pM (w.setCell ⟨b,i,none⟩ (.int k (v:Int))) b t k (l.set i v):=by
 unfold pM;rw[Go.heap_setCell_same w b i _ t _ h,aMb]
theorem pM.new(w:World)(t:TypeId)(k:IntKind)(l:List Nat):pM (w.alloc (.cells (aIV k l) t)) w.heap.size t k l:=heap_alloc_last w _
end Go.Proofs.YtcdjakemdlinhaaGreatDoor
