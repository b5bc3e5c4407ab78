/-
  Several texts in one: Kr Frame Str Ext Arr Held Rel Sx Sx2 Sx3.
  Conditions: named at each.
-/
import Derived.KernelRfl
import Derived.Test.YtkoamlfiijcecaaGreatDoorRows
import Derived.WalkKit
import Derived.ProofKit
import Derived.OpenShut
import Derived.Outline
import Derived.WalkLawsBesides
import Derived.Lib.Hide
import Derived.WalkSpells
import Derived.Laws.RangeString
import Derived.Laws.Concat
import Derived.Lib.Strings
import Derived.Lib.ConvBytes
import Derived.WalkSmall
import Derived.Deep.QuietTactic
import Derived.BigQuiet
import Derived.Laws.BytesString
import Derived.Laws.Cells
import Derived.Deep.WholeRow
import Derived.Great.BuildSlice
import Derived.Deep.Cut
import Derived.Great.Walk
import Derived.StillTailTactics
import Derived.Deep.RegionLaw
import Derived.Deep.RegionHeld
import Derived.Deep.OwnRows
import Derived.Deep.MidRow
set_option maxHeartbeats 16000000
set_option linter.unusedSimpArgs false
set_option linter.unusedVariables false
set_option linter.unusedSectionVars false
set_option linter.defProp false
namespace Go.Proofs.YtkoamlfiijcecaaGreatDoor
def K8:=@List.getElem?_eq_getElem
def K9:=@List.mem_of_getElem?
def L0:=@Option.some.injEq
def L4:=@List.length_append
def L5:=@Bool.and_eq_true
def L8:=@List.getElem?_eq_some_iff
def M0:=@congrArg
def M1:=@List.append_nil
def M2:=@beq_eq_false_iff_ne
def M3:=@Bool.false_ne_true
def M4:=@List.sublist_append_left
def M5:=@if_neg
def M6:=@List.append_assoc
def M7:=@List.all_eq_true
def M8:=@Nat.zero_le
def M9:=@List.length_cons
def N0:=@decide_eq_true_eq
def N1:=@if_pos
def N2:=@Bool.eq_false_or_eq_true
def N3:=@Prod.mk.injEq
def N4:=@List.Sublist.append
def N5:=@Option.some.inj
def N7:=@List.Sublist.refl
def N8:=@List.length_drop
def N9:=@Bool.false_eq_true
def O0:=@Nat.zero_add
def O1:=@List.length_map
def O2:=@List.take_of_length_le
def O3:=@List.length_take
def O4:=@List.forall_mem_cons
def O5:=@of_decide_eq_false
def O6:=@List.mem_cons
def O7:=@List.length_eq_zero_iff
def O8:=@List.length_nil
def O9:=@Nat.le_refl
def P0:=@decide_eq_false
def P1:=@Bool.not_eq_true'
def P2:=@of_decide_eq_true
def P3:=@List.mem_cons_of_mem
def P4:=@Option.isSome_iff_exists
def P5:=@List.getElem?_cons_zero
def P6:=@List.map_append
def P7:=@Bool.not_eq_false'
def P8:=@List.getElem?_append_right
def P9:=@List.flatMap_cons
def Q0:=@bne_iff_ne
def Q1:=@List.getElem?_append_left
def Q2:=@List.perm_append_comm
def Q3:=@List.mem_cons_self
def Q4:=@List.flatMap_append
def Q5:=@bne_eq_false_iff_eq
def Q6:=@Option.not_isSome_iff_eq_none
def Q7:=@List.getElem?_cons_succ
def Q8:=@List.mem_nil_iff
def Q9:=@List.take_add_one
def R0:=@List.nil_append
def R1:=@List.drop_eq_getElem_cons
def R2:=@List.map_cons
def R3:=@Nat.eq_of_beq_eq_true
def R4:=@decide_eq_true
def R5:=@Bool.false_or
def R6:=@List.drop_of_length_le
def R7:=@List.mem_singleton
def R8:=@List.mem_iff_getElem?
def R9:=@Bool.true_and
def S1:=@List.mem_map
def S2:=@List.sublist_append_right
def S3:=@List.mem_append
def S4:=@List.mem_range
def S5:=@beq_iff_eq
def S6:=@List.take_zero
def S7:=@decide_eq_decide
def S8:=@List.take_append_drop
def S9:=@List.take_succ_cons
def T0:=@List.pairwise_iff_getElem
def T1:=@Bool.or_eq_true
def T2:=@List.length_set
def T3:=@List.drop_drop
def T4:=@List.getElem_map
def T5:=@List.getElem?_map
def T6:=@Array.getElem?_setIfInBounds
def T7:=@Bool.eq_iff_iff
def T8:=@List.any_eq_true
def T9:=@List.cons_append
def U0:=@List.filter_cons
def U1:=@Nat.le_of_ble_eq_true
def U2:=@or_false
def U3:=@Eq.trans
def U4:=@Option.map_some
def U5:=@Option.map_eq_some_iff
def U7:=@Bool.and_false
def U8:=@Nat.add_zero
def U9:=@Nat.sub_self
def W2:=@List.singleton_append
def W3:=@List.mem_filterMap
def W4:=@List.all_cons
def W5:=@List.drop_zero
def W6:=@Nat.add_mul
def W7:=@Nat.pow_le_pow_right
def W8:=@Int.toNat_natCast
def W9:=@decide_not
def X0:=@Nat.le_trans
def X1:=@Nat.add_assoc
def X2:=@List.flatMap_nil
def X3:=@Int.tmod_eq_emod_of_nonneg
def X4:=@List.getElem?_take
def X5:=@Nat.lt_of_lt_of_le
def X6:=@List.Perm.append_left
def X7:=@List.getElem?_toArray
def X8:=@List.find?_cons
def X9:=@Nat.min_eq_left
def Y0:=@Bool.not_not
def Z0:=@List.map_nil
def Z1:=@Nat.add_comm
def Z2:=@List.map_toArray
def Z3:=@Nat.add_sub_cancel_left
def Z4:=@List.getElem?_drop
def Z5:=@Nat.blt_eq
def Z6:=@List.cons.injEq
def Z7:=@List.any_cons
def Z9:=@List.getElem?_eq_none
def ab:=@Array.getElem?_eq_some_iff
def ad:=@List.drop_left
def ae:=@List.mem_append_left
def af:=@List.mem_of_mem_drop
def ag:=@List.drop_length
def ah:=@List.take_length
def ai:=@List.drop_succ_cons
def aj:=@List.length_pos_iff
def ak:=@Bool.and_true
def ao:=@List.mem_filter
def aq:=@List.set_cons_succ
def ar:=@List.drop_eq_nil_of_le
def au:=@List.length_filter_le
def av:=@List.mem_append_right
def aw:=@Nat.mod_eq_of_lt
def ax:=@beq_self_eq_true
def ay:=@List.getElem?_of_mem
def az:=@List.mem_of_mem_take
def bA:=@and_true
def bB:=@true_and
def bC:=@List.all_append
def bD:=@Array.getD_eq_getD_getElem?
def bE:=@Nat.pow_succ
def bF:=@Nat.zero_mul
def bG:=@List.Perm.refl
def bH:=@List.find?_eq_none
def bI:=@List.set_cons_zero
def bJ:=@Array.getElem?_eq_getElem
def bL:=@List.mem_or_eq_of_mem_set
def bN:=@List.drop_append
def bP:=@List.take_append
def bR:=@Nat.le_add_right
def bS:=@Option.getD_some
def bU:=@List.sublist_cons_self
def bV:=@Nat.sub_zero
def bW:=@List.any_append
def bX:=@List.find?_some
def bY:=@List.foldl_cons
def bZ:=@List.length_replicate
def ba:=@List.contains_eq_mem
def bb:=@List.getElem?_append
def bc:=@List.take_nil
def bd:=@Array.ext_getElem?
def bf:=@List.mem_replicate
def bg:=@Nat.lt_of_le_of_lt
def bh:=@Array.all_eq_true_iff_forall_mem
def bj:=@List.getElem?_set
def bk:=@List.map_set
def bl:=@Nat.lt_trichotomy
def bm:=@List.mem_flatMap
def bn:=@List.append_inj
def bo:=@List.map_const'
def bp:=@List.nodup_cons
end Go.Proofs.YtkoamlfiijcecaaGreatDoor
namespace Go.Proofs.YtkoamlfiijcecaaGreatDoor
theorem kR{p:Prop}(h:p:=by kernel_rfl):p:=h
theorem kF.{u}{α:Sort u}{p:α->Prop}(h:∀x,p x:=by intro x;kernel_rfl):∀x,p x:=h
theorem eR.{u}{α:Sort u}{a b:α}(h:a=b:=by kernel_rfl):a=b:=h
theorem oA{p:Prop}(h:p:=by first|omega|(simp only[List.length_append,List.length_cons,List.length_nil];omega)):p:=h
theorem oW{p:Prop}(h:p:=by omega):p:=h
theorem nL{p:Prop}(h:p:=by first|exact Nat.zero_le _|exact Nat.le_refl _|assumption|omega|(simp only[List.length_append,List.length_cons,List.length_nil,List.length_drop,List.length_take];omega)):p:=h
theorem bQ.{u,v}:(∀{α:Sort u} {_:Decidable True} (t e:α),ite True t e=t)/\(∀{α:Sort u} {_:Decidable False} (t e:α),ite False t e=e)/\(∀{α:Type v} (a b:α),cond true a b=a)/\(∀{α:Type v} (a b:α),cond false a b=b):=⟨λ_ _=>if_true ..,λ_ _=>if_false ..,λ_ _=>rfl,λ_ _=>rfl⟩
end Go.Proofs.YtkoamlfiijcecaaGreatDoor
namespace Go.Proofs.YtkoamlfiijcecaaGreatDoor
open Go.ChangeShapes Go.WideShapes Go.ChangeAt Go.RowKit

theorem tQ{H:Type}{enc:TypeId×Value->H}{P:Program}(B:laidOutB P=true){W W':World}(A:Below W.heap.size W W'):
  ∀{ts:List TypeId} {vs:List Value} {ds:List (DataW H)} {g:List MemPlace},(ts.all λt=>P.readableRec t&&decide (t<P.types.size))=true->
   DataW.TrodAll enc P W 0 (λ_=>true) true ts vs ds g->(∀p∈g,p.block<W.heap.size)->
   DataW.TrodAll enc P W' 0 (λb=>decide (b<W.heap.size)) true ts vs ds g
 | [],vs,ds,g,_,h,_=>by
  obtain⟨rfl,rfl,rfl⟩:=trodAll_nil h;exact trodAll_mk0
 |t::ts,vs,ds,g,C,h,f=>by
  obtain⟨v,F,d,D,p,q,rfl,rfl,rfl,E,a⟩:=trodAll_cons h;simp only[W4,L5,N0]at C;obtain⟨⟨j,k⟩,r⟩:=C;exact trodAll_cons_mk (Below.trod B j k E A fun x u => f x (ae _ u))
   (tQ B A r a λx u=>f x (av _ u))

theorem Ox{H : Type}{enc : TypeId × Value -> H}{P : Program}{f : Func}{s : ChangeSpec}{d r g : Bool}{W W' : World}{k : Array Value}{ds M : List (DataW H)}{a : List MemPlace}{tb : TypeId}
  (O:laidOutB P=true) (E:(f.params.toList.all λt=>P.readableRec t&&decide (t<P.types.size))=true)
  (j:s.vars=[]) (X:f.resultTypes=#[tb]) (u:P.underlying tb=some .bool)
  (C:(s.fn H ds).results=[.lit (.bool true)]/\(s.fn H ds).args=ds/\(s.fn H ds).vars=[])
  (G:DataW.Whole enc P f.params.toList s.vars d W k.toList ds M a) (I:Below W.heap.size W W'):
  s.post enc P f d r g false W k (.bool true) W':=by
 have A:=G;have D:∀p∈a,p.block<W.heap.size:=λp V=>A.lt p V
 obtain⟨p,q,N,F,rfl,_,_⟩:=G;rw[j]at F;obtain⟨rfl,rfl⟩:=trodVars_none F;obtain⟨J,K,L⟩:=C;refine⟨ds,[],_,[],p,[],A,?_,?_,?_,World.keptBut_mono (λx B=>⟨B,?_⟩) (I.frame (· ∈_)),λh=>by cases h⟩
 ·rw[M1,J,X];exact trodAll_cons_mk (shut_bool u _) trodAll_mk0
 ·rw[M1,K];exact tQ O I E N λx B=>D x (ae _ B)
 ·rw[M1,L,j];exact rfl
 ·exact Or.inr (Or.inl (by simpa using B))


def B(l:List UInt8):ByteArray:=⟨l.toArray⟩

theorem Af(s:ByteArray):∃l,s=B l:=⟨s.data.toList,(Lib.mk_data s).symm⟩
@[go_sem] theorem sV (l:List UInt8):(B l).size=l.length:=by simp[B,ByteArray.size]
@[go_sem] theorem EJ (l:List UInt8):(B l).toList=l:=by simp[B]
@[go_sem] theorem Dv (l:List UInt8):(B l).data.toList=l:=by simp[B]
@[go_sem] theorem Sm (l:List UInt8) (a b:Nat):(B l).extract a b=B ((l.drop a).take (b-a)):=by
 rw[Lib.extract_eq];simp[B]
@[go_sem] theorem Mr (a b:List UInt8):B a++B b=B (a++b):=ByteArray.mk_append_mk a b
@[go_sem] theorem dX (l:List UInt8) (a:Nat):(l.drop a).take (l.length-a)=l.drop a:=O2 (by simp)
theorem Ms{l:List UInt8}{i:Nat}(h:i<(B l).size):i<l.length:=by rwa[sV]at h
@[go_sem] theorem Bw (l:List UInt8) (i:Nat) (h:i<(B l).size):(B l)[i]'h=l[i]'(Ms h):=by
 simp only[B];rfl
theorem rU{a b:Bool}(h:a=true↔b=true):Ending.returned (.bool a)=.returned (.bool b):=by rw[T7.2 h]
theorem Xi{k:IntKind}{a b:Int}(h:a=b):Ending.returned (.int k a)=.returned (.int k b):=by rw[h]
def pre(p l:List UInt8):Bool:=p.isPrefixOf l
def Hr(p l:List UInt8):List UInt8:=if pre p l then l.drop p.length else l
theorem PZ{p l:List UInt8}(h:pre p l=true):Hr p l=l.drop p.length:=by simp[Hr,h]
theorem ZX{p l:List UInt8}(h:pre p l=false):Hr p l=l:=by simp[Hr,h]
theorem tD(l p:List UInt8):(decide (p.length<=l.length)&&(l.take p.length==p))=pre p l:=Lib.hasPrefix_of_take l p
theorem Ji{p l:List UInt8}:pre p l=true↔∃r,l=p++r:=by
 unfold pre;rw[List.isPrefixOf_iff_prefix];exact⟨λ⟨r,h⟩=>⟨r,h.symm⟩,λ⟨r,h⟩=>⟨r,h.symm⟩⟩
theorem JH{p l:List UInt8}(h:pre p l=true):p.length<=l.length:=by obtain⟨r,rfl⟩:=Ji.1 h;simp
theorem Bx{a b:List UInt8}:B a=B b↔a=b:=⟨λh=>by rw[<-EJ a,h,EJ],λh=>by rw[h]⟩
theorem KL{P:Program}(w:World)(d a e:TypeId)(l:List UInt8)(hs:P.underlying d=some .string)(j:P.underlying a=some (.slice e))(r:P.underlying e=some (.int .u8)):
  ∃f g,(convert d a (.string (B l))).run P w=.ok (.slice (some ⟨w.heap.size,0,none⟩) l.length f) g/\l.length<=f/\Below w.heap.size w g/\g.heap.size=w.heap.size+1/\
   (∀i (h:i<l.length),g.cell? ⟨w.heap.size,i,none⟩=some (.int .u8 l[i].toNat))/\(∀i,i<l.length->g.frozen? ⟨w.heap.size,i,none⟩=false):=by
 refine⟨grownCap w (B l).size 0 e,Lib.bytesWorld w e (B l),?_,?_,⟨rfl,rfl,rfl,?_,λk u=>Lib.bytesWorld_at_old w e (B l) k u⟩,Lib.bytesWorld_size w e (B l),?_,?_⟩
 ·rw[Lib.run_convert_string_bytes w d a e (B l) hs j r,sV]
 ·rw[sV];exact(grownCap_ge w l.length 0 e)
 ·rw[Lib.bytesWorld_size];omega
 ·intro i h;rw[Lib.bytesWorld_cell w e (B l) i (by rw[sV];exact h),Dv];simp[List.getD,h]
 ·intro i h;simp[World.frozen?,Lib.bytesWorld_at_new,Lib.bytesCells,sV];omega

theorem bs{d b:Nat}{W a:World}(f:Below d W a)(h:b<=W.heap.size):b<=a.heap.size:=X0 h f.size

structure Xt where
 blocks:Array Obj
 draws:Nat
instance:Nonempty Xt:=⟨⟨#[],0⟩⟩
def ext(w:World)(u:Xt):World:={ w with heap:=w.heap++u.blocks,drawn:=u.draws }
def more(u:Xt):Nat:=u.blocks.size
def bump(u:Xt):Xt:=⟨u.blocks,u.draws+1⟩
def Cn(u:Xt)(n:Nat):Xt:=⟨u.blocks,u.draws+n⟩
theorem Un(w:World)(u:Xt)(k:Nat)(h:k<w.heap.size):(ext w u).heap[k]? =w.heap[k]? :=by
 simp[ext,Array.getElem?_append,h]
@[go_sem] theorem WK (w:World) (u:Xt):(ext w u).heap.size=w.heap.size+more u:=by simp[ext,more]
theorem Um(w:World)(u:Xt):Below w.heap.size w (ext w u):=
 ⟨rfl,rfl,rfl,by rw[WK];omega,λk a=>Un w u k a⟩
theorem Below.ext{B:Nat}{a w:World}(h:Below B a w)(d:B<=w.heap.size)(u:Xt):Below B a (ext w u):=h.trans ((Um w u).mono d)
@[go_sem] theorem Vy (u:Xt):more (bump u)=more u:=rfl
@[go_sem] theorem ZA (u:Xt) (n:Nat):more (Cn u n)=more u:=rfl
attribute [go_sem] Option.some_or Option.none_or
attribute [simp] WK Vy ZA


def Zl(k:IntKind)(l:List Nat):Array Value:=(l.map λ(n:Nat)=>Value.int k (n:Int)).toArray
theorem Wg(k:IntKind){l:List Nat}{i:Nat}(h:i<l.length):(Zl k l)[i]? =some (.int k ((l.getD i 0:Nat):Int)):=by simp[Zl,h,List.getD]
theorem Pg(k:IntKind)(l:List Nat)(i v:Nat):(Zl k l).setIfInBounds i (.int k (v:Int))=Zl k (l.set i v):=by
 apply bd;intro j;simp only[Zl,T6,X7,T5,bj,List.size_toArray,O1];by_cases h:i=j
 ·subst h;by_cases a:i<l.length<;>simp[a]
 ·simp[h]
def NB(l:List Nat):ByteArray:=B (l.map UInt8.ofNat)
theorem foldl_push:∀(a:List Nat) (s:List UInt8),(a.map λn=>((n:Nat):Int)).foldl (λr n=>r.push (UInt8.ofNat n.toNat)) (B s)=B (s++a.map UInt8.ofNat)
 | [],s=>by simp
 |n::a,s=>by
  have h:=foldl_push a (s++[UInt8.ofNat n]);have e:(B s).push (UInt8.ofNat n)=B (s++[UInt8.ofNat n]):=by
   simp[B,ByteArray.push]
  simp only[R2,bY,W8,e,h,M6,W2]
theorem Xy{P : Program}(W : World)(f d e : TypeId)(a : Addr)(n g : Nat)(l : List Nat)(hs : P.underlying f = some (.slice e))(E : P.underlying e = some (.int .u8))(D : P.underlying d = some .string)
  (F:l.length=n) (h:∀i,i<n->W.cell? (a.add i)=some (.int .u8 ((l.getD i 0:Nat):Int))):(convert f d (.slice (some a) n g)).run P W=.ok (.string (NB l)) W:=by
 rw[run_convert_bytes_string W f d e _ _ _ hs E D];have k:=run_loadCells_list (P:=P) (w:=W) a (l.map λn=>Value.int .u8 ((n:Nat):Int)) (by
  intro j v r;simp only[T5,U5]at r;obtain⟨x,u,rfl⟩:=r;have G:j<l.length:=by
   have:=L8.1 u;exact this.1
  have:=h j oW;rw[this];simp[List.getD,u])
 rw[O1,F]at k;have A:=run_bytesToString (P:=P) W a n g (l.map λn=>((n:Nat):Int)) (by rw[k,List.map_map];rfl);rw[A];have C:=foldl_push l [];rw[show(ByteArray.empty:ByteArray)=B []from rfl,C];rfl
theorem ZE{w:World}{o:Obj}:w.heap.size<(w.alloc o).heap.size:=by
 show w.heap.size<(w.heap.push o).size;simp
def ID(f:Nat->Nat)(l:List Nat):Nat->List Nat
 |0=>l
 |n+1=>(ID f l n).set n (f n)
theorem lH(f:Nat->Nat)(l:List Nat):∀n,(ID f l n).length=l.length
 |0=>rfl
 |n+1=>by simp[ID,lH f l n]
theorem Od(l:List Nat)(i j v:Nat)(h:i<l.length):(l.set i v).getD j 0=if j=i then v else l.getD j 0:=by
 by_cases e:j=i
 ·subst e;simp[List.getD,h]
 ·simp[List.getD,Ne.symm e,e]
theorem PR(f:Nat->Nat)(l:List Nat)(k:Nat):∀n,n<=l.length->(ID f l n).getD k 0=if k<n then f k else l.getD k 0
 |0,_=>by simp[ID]
 |n+1,h=>by
  show((ID f l n).set n (f n)).getD k 0=_;rw[Od _ _ _ _ (by rw[lH];omega),PR f l k n oW];by_cases e:k=n
  ·subst e;simp
  ·rw[M5 e];by_cases a:k<n
   ·rw[N1 a,N1 oW]
   ·rw[M5 a,M5 oW]
theorem Oy{a b:List Nat}(g:a.length=b.length)(h:∀k,k<a.length->a.getD k 0=b.getD k 0):a=b:=by
 apply List.ext_getElem g;intro k d f;have:=h k d;simpa[List.getD,d,f]using this
def tab(f:Nat->Nat)(n:Nat):List Nat:=(List.range n).map f
theorem IU(f:Nat->Nat)(n:Nat):(tab f n).length=n:=by simp[tab]
theorem Kl(f:Nat->Nat)(n k:Nat)(h:k<n):(tab f n).getD k 0=f k:=by simp[tab,List.getD,h]
theorem Uq(f:Nat->Nat)(l:List Nat):ID f l l.length=tab f l.length:=by
 apply Oy (by rw[lH,IU]);intro k a;rw[lH]at a;rw[PR f l k _ (O9 _),N1 a,Kl f _ k a]
theorem ZR(f:Nat->Nat){l:List Nat}{n:Nat}(h:l.length=n):ID f l n=tab f n:=by subst h;exact Uq f l
end Go.Proofs.YtkoamlfiijcecaaGreatDoor
namespace Go.Proofs.YtkoamlfiijcecaaGreatDoor
open Go.ChangeShapes Go.WideShapes Go.ChangeAt Go.RowKit Go.Deep
section
variable {P:Program} {ops:Array Oper} {Q:Exit->Act->World->Prop} {md:Region.Mode} {S:World->Prop}
end
def fA:List Tmp->Nat->(Nat->Value)->Act->Act
 | [],_,_,a=>a
 |d::r,i,u,a=>fA r (i+1) u (a.put (some d) (u i))
theorem Jk(a:Act)(d:Tmp)(v f:Value):(a.put (some d) v).put (some d) f=a.put (some d) f:=by
 simp[Act.put]
theorem Qa(a:Act)(d e:Tmp)(v f:Value)(h:d≠e):(a.put (some d) v).put (some e) f=(a.put (some e) f).put (some d) v:=by
 simp only[Act.put,Act.mk.injEq,bA];exact Array.setIfInBounds_comm _ _ h
theorem PT:∀(r:List Tmp) (k:Nat) (u:Nat->Value) (a:Act) (d:Tmp) (v:Value),d∉r->(fA r k u a).put (some d) v=fA r k u (a.put (some d) v)
 | [],_,_,_,_,_,_=>rfl
 |e::r,k,u,a,d,v,h=>by
  simp only[O6,not_or]at h;rw[fA,fA,PT r (k+1) u _ d v h.2,Qa _ _ _ _ _ (λf=>h.1 f.symm)]
theorem tH:∀(r:List Tmp) (k:Nat) (u d:Nat->Value) (a:Act),(∀j,k<=j->u j=d j)->fA r k u a=fA r k d a
 | [],_,_,_,_,_=>rfl
 |e::r,k,u,d,a,h=>by
  rw[fA,fA,h k (O9 _),tH r (k+1) u d _ λj f=>h j oW]
theorem PS:∀(r:List Tmp) (k:Nat) (u:Nat->Value) (a:Act) (i:Nat) (d:Tmp) (v:Value),r.Nodup->r[i]? =some d->(fA r k u a).put (some d) v=fA r k (λj=>if j=k+i then v else u j) a
 | [],_,_,_,_,_,_,_,h=>by simp at h
 |e::r,k,u,a,i,d,v,hn,h=>by
  rw[bp]at hn;cases i with
  |zero=>
   simp only[P5,L0]at h;subst h;rw[fA,fA,PT r _ _ _ _ _ hn.1,Jk];simp only[U8,if_true];exact tH r _ _ _ _ λj f=>by rw[M5 oW]
  |succ i=>
   simp only[Q7]at h;rw[fA,fA,PS r (k+1) u _ i d v hn.2 h,M5 oW];exact tH r _ _ _ _ λj f=>by simp only[show k+1+i=k+(i+1) by omega]
theorem Py(a:Act)(d:Tmp):a.put (some d) (a.tmps.getD d undef)=a:=by
 obtain⟨t,g⟩:=a;simp only[Act.put,Act.mk.injEq,bA];apply bd;intro i;simp only[T6];by_cases h:d=i
 ·subst h;by_cases f:d<t.size
  ·simp[f]
  ·simp[f]
 ·simp[h]
theorem KF:∀(r:List Tmp) (k:Nat) (u:Nat->Value) (a:Act),(∀j,j<r.length->u (k+j)=a.tmps.getD (r.getD j 0) undef)->fA r k u a=a
 | [],_,_,_,_=>rfl
 |d::r,k,u,a,h=>by
  have f:u k=a.tmps.getD d undef:=h 0 (by simp);rw[fA,f,Py];refine KF r (k+1) u a λj g=>?_
  have:=h (j+1) (by simp;omega);rw[show k+1+j=k+(j+1) by omega,this];rfl
def cH(md:Region.Mode)(ops:Array Oper)(i j:Nat):Bool:=((ops[i]?).map λo=>o.after.toList.any λe=>Region.binds md e&&(e.on==j)).getD false
def fQ(md:Region.Mode)(ops:Array Oper)(m:Nat):Bool:=(List.range m).all λi=>((ops[i]?).map λo=>o.after.toList.all λe=> !Region.binds md e||decide (e.on<i)).getD false
def Ik(md:Region.Mode)(ops:Array Oper):Nat->List Nat->List Nat
 |0,l=>l
 |r+1,l=>Ik md ops r ((List.range ops.size).filter λj=>l.contains j||l.any λk=>cH md ops k j)
def lP(md:Region.Mode)(ops:Array Oper)(m r:Nat):Bool:=(List.range ops.size).all λi=>decide (i<m)||(List.range m).all λj=>(Ik md ops r ((List.range ops.size).filter λj=>cH md ops i j)).contains j
theorem DH{md:Region.Mode}{ops:Array Oper}{p:Nat->Prop}(f:∀i,p i->∀j,cH md ops i j=true->p j):∀(r:Nat) (l:List Nat),(∀j∈l,p j)->∀j∈Ik md ops r l,p j
 |0,_,h,j,d=>h j d
 |r+1,l,h,j,d=>by
  refine DH f r _ (λk a=>?_) j d;simp only[ao,T1,ba,N0,T8]at a;rcases a.2 with a|⟨i,g,hw⟩
  ·exact h k a
  ·exact f i (h i g) k hw
def pI(ops:Array Oper)(ds:List Tmp):Bool:=(List.range ds.length).all λi=>decide ((ops[i]?).bind (·.dst)=ds[i]?)
def nodupB:List Tmp->Bool
 | []=>true
 |d::r=> !r.contains d&&nodupB r
theorem jW:∀{r:List Tmp},nodupB r=true->r.Nodup
 | [],_=>List.nodup_nil
 |d::r,h=>by
  simp only[nodupB,L5,P1,ba,decide_eq_false_iff_not]at h;exact bp.2 ⟨h.1,jW h.2⟩
def firstM(m n:Nat):Array Bool:=((List.range n).map λi=>decide (i<m)).toArray
def Steps(f:Nat->Prop):Nat->Nat->Prop
 |_,0=>True
 |i,n+1=>f i/\Steps f (i+1) n
theorem Steps.get{f:Nat->Prop}:∀{n i:Nat},Steps f i n->∀j,i<=j->j<i+n->f j
 |0,_,_,j,a,d=>by omega
 |n+1,i,h,j,a,d=>by
  by_cases g:j=i
  ·subst g;exact h.1
  ·exact h.2.get j oW oW
theorem exists_least{p:Nat->Prop}(h:∃n,p n):∃n,p n/\∀j,j<n->¬p j:=by
 obtain⟨n,g⟩:=h
 induction n using Nat.strongRecOn with
 |_ n ih=>
  by_cases f:∃j,j<n/\p j
  ·obtain⟨j,a,d⟩:=f;exact ih j a d
  ·exact⟨n,g,λj a d=>f ⟨j,a,d⟩⟩
def CA(ops:Array Oper)(ds:List Tmp):Bool:=(List.range ds.length).all λi=>decide ((ops[i]?).bind (·.dst)=ds[i]?)||decide ((ops[i]?).bind (·.dst)=none)
section
variable {P:Program} {ops:Array Oper} {Q:Exit->Act->World->Prop} {md:Region.Mode} {S:World->Prop}
structure CM (P : Program) (md : Region.Mode) (ops : Array Oper) (Q : Exit -> Act -> World -> Prop) (S : World -> Prop) (E : World -> World -> Prop) (V : Nat -> Value -> World -> Prop) (ds : List Tmp) (a0 : Act) (i : Nat) : Prop where
 step:∀(u:Nat->Value) (w:World),S w->(∀j,cH md ops i j=true->V j (u j) w)->
  ∀K:Act->World->Prop,(∀v w',S w'->E w w'->V i v w'->K ((fA ds 0 u a0).put ((ops[i]?).bind (·.dst)) v) w')->wpOp P ops Q i K (fA ds 0 u a0) w
theorem IL(m : Nat){fuel r : Nat}(ds : List Tmp)(Inv : (Nat -> Bool) -> (Nat -> Value) -> World -> Prop){a0 : Act}{w0 : World}
  (e0:ds.length=m) (a6:CA ops ds=true) (c8:nodupB ds=true) (c7:decide (m<=ops.size)=true) (B:fQ md ops m=true) (E:lP md ops m r=true)
  (hS:∀u,Inv (λ_=>false) u w0)
  (a8:∀i,i<m->∀(L:Nat->Bool) (u:Nat->Value) (w:World),Inv L u w->L i=false->(∀j,cH md ops i j=true->L j=true/\j<m)->(∀k j,L k=true->cH md ops k j=true->L j=true)->
   ∀K:Act->World->Prop,(∀v w',Inv (λj=>if j=i then true else L j) (λj=>if j=i then(if((ops[i]?).bind (·.dst)).isSome then v else u i)else u j) w'->K ((fA ds 0 u a0).put ((ops[i]?).bind (·.dst)) v) w')->wpOp P ops Q i K (fA ds 0 u a0) w)
  (c0:∀L u w,Inv L u w->(∀i,i<m->L i=true)->wpAny P md ops Q fuel (firstM m ops.size) (fA ds 0 u a0) w):
  wpAny P md ops Q (m+fuel) (Array.replicate ops.size false) a0 w0:=by
 have e1:m<=ops.size:=by simpa using c7
 have b9:∀(f:List Nat) (a:Array Bool) (L:Nat->Bool) (u:Nat->Value) (w:World),f.Nodup->(∀i,i∈f↔i<m/\a.getD i false=false)->a.size=ops.size->(∀i,m<=i->a.getD i false=false)->(∀i,a.getD i false=true->∀j,cH md ops i j=true->a.getD j false=true)->
   (∀i,a.getD i false=L i)->Inv L u w->wpAny P md ops Q (f.length+fuel) a (fA ds 0 u a0) w:=by
  intro f;generalize G:f.length=k
  induction k generalizing f with
  |zero=>
   intro a L u w hn d V M J Z hI;obtain rfl:=O7.1 G;have X:∀i,i<m->a.getD i false=true:=λi C=>by
    cases h:a.getD i false with
    |true=>rfl
    |false=>have:=(d i).2 ⟨C,h⟩;cases this
   have hl:a=firstM m ops.size:=by
    apply Array.ext
    ·simp[firstM,V]
    ·intro i h1 Y;have e:a.getD i false=a[i]:=by simp[Array.getD,h1]
     simp only[firstM,List.getElem_toArray,T4,List.getElem_range];rw[<-e];by_cases C:i<m
     ·rw[X i C,R4 C]
     ·rw[M i oW,P0 C]
   have a1:∀i,i<m->a.getD i false=true:=X;have c6:∀i,a.getD i false=a.getD i false:=λ_=>rfl
   rw[hl,O0];exact c0 L u w hI λi C=>by rw[<-Z i,<-c6 i];exact a1 i C
  |succ k ih=>
   intro a L u w hn d V M J Z hI;have b7:f≠[]:=by intro h;rw[h]at G;cases G
   have b1:∀i,i<ops.size->a.getD i true=a.getD i false:=λi C=>by simp[Array.getD,V,C]
   have N:∀i∈Region.ready md ops a,i<m/\i∈f/\∀j,cH md ops i j=true->a.getD j false=true:=by
    intro i C;obtain⟨h1,o,ho,c2⟩:=mem_ready.1 C;have b3:i<ops.size:=(ab.1 ho).1;have F:∀j,cH md ops i j=true->a.getD j false=true:=by
     intro j g;simp only[cH,ho,U4,bS,T8,L5,S5]at g;obtain⟨e,he,hb,c9⟩:=g;have:=c2 e (by simpa using he) hb;rw[c9]at this;exact this
    have D:i<m:=by
     by_cases h:i<m
     ·exact h
     ·exfalso;unfold lP at E;rw[M7]at E;have Y:=E i (S4.2 b3);rw[P0 h,R5,M7]at Y;obtain⟨j,g⟩:=List.exists_mem_of_ne_nil f b7;have I:=(d j).1 g;have h4:=Y j (S4.2 I.1);rw[ba,N0]at h4;have:=DH (p:=λk=>a.getD k false=true) J r _ (λk G=>F k (by
       rw[ao]at G;exact G.2)) j h4
      simp only[I.2]at this;cases this
    exact⟨D,(d i).2 ⟨D,by rw[<-b1 i b3];exact h1⟩,F⟩
   rw[show k+1+fuel=k+fuel+1 by omega];refine⟨λb8=>?_,λi C=>?_⟩
   ·exfalso;obtain⟨i,C,b6⟩:=exists_least (List.exists_mem_of_ne_nil f b7);have D:=(d i).1 C;have:i∈Region.ready md ops a:=by
     refine mem_ready.2 ⟨by rw[b1 i oW];exact D.2,ops[i]'oW,bJ oW,λe he hb=>?_⟩;unfold fQ at B;rw[M7]at B;have Y:=B i (S4.2 D.1);rw[bJ (show i<ops.size by omega)]at Y;simp only[U4,bS,M7,T1,P1,N0]at Y;have I:=Y e (by simpa using he);have h4:e.on<i:=by
      rcases I with I|I
      ·rw[hb]at I;cases I
      ·exact I
     cases h5:a.getD e.on false with
     |true=>rfl
     |false=>exact absurd ((d e.on).2 ⟨by omega,h5⟩) (b6 e.on h4)
    rw[b8]at this;cases this
   ·obtain⟨D,b2,F⟩:=N i C;refine a8 i D L u w hI (by rw[<-Z];exact((d i).1 b2).2) (λj g=>⟨by rw[<-Z];exact F j g,?_⟩) (λk j G g=>by rw[<-Z];exact J k (by rw[Z];exact G) j g) _ λv w' c1=>?_
    ·have hl:=F j g;by_cases h:j<m
     ·exact h
     ·rw[M j oW]at hl;cases hl
    ·have hd:(ops[i]?).bind (·.dst)=ds[i]? \/(ops[i]?).bind (·.dst)=none:=by
      unfold CA at a6;rw[M7]at a6;simpa using a6 i (S4.2 oW)
     have b0:ds[i]? =some (ds[i]'oW):=K8 oW;have a7:(fA ds 0 u a0).put ((ops[i]?).bind (·.dst)) v=fA ds 0 (λj=>if j=i then(if((ops[i]?).bind (·.dst)).isSome then v else u i)else u j) a0:=by
      rcases hd with hd|hd
      ·rw[hd,b0,PS ds 0 u a0 i _ v (jW c8) b0,O0];rfl
      ·rw[hd];have he:(λj=>if j=i then(if(Option.isSome (none:Option Tmp))then v else u i)else u j)=u:=by
        funext j;split
        ·next e=>rw[e];rfl
        ·rfl
       rw[he];rfl
     rw[a7];have A:∀j,(a.setIfInBounds i true).getD j false=if j=i then true else a.getD j false:=by
      intro j;simp only[bD,T6];by_cases g:j=i
      ·subst g;have c4:j<a.size:=by omega
       simp[c4]
      ·rw[M5 (λh=>g h.symm),M5 g]
     refine ih (f.erase i) (by rw[List.length_erase_of_mem b2,G];rfl) _ _ _ w' (hn.erase i) (λj=>?_) (by simp[V]) (λj g=>?_) (λk G j g=>?_) (λj=>by rw[A j,Z j]) c1
     ·rw[hn.mem_erase_iff,d j,A j];by_cases g:j=i
      ·subst g;simp
      ·simp[g]
     ·rw[A j,M5 oW];exact M j g
     ·rw[A j];by_cases b4:j=i
      ·rw[N1 b4]
      ·rw[M5 b4];by_cases b5:k=i
       ·subst b5;exact F j g
       ·rw[A k,M5 b5]at G;exact J k G j g
 have O:∀i,(Array.replicate ops.size false).getD i false=false:=λi=>by
  simp only[bD,Array.getElem?_replicate];split<;>rfl
 have h:=b9 (List.range m) (Array.replicate ops.size false) (λ_=>false) (λj=>a0.tmps.getD (ds.getD j 0) undef) w0 List.nodup_range (λi=>by
   rw[S4];simp[O i]) (by simp) (λi _=>O i) (λi h=>by rw[O i]at h;cases h) O (hS _)
 rw[KF ds 0 _ a0 (λj g=>by rw[O0]),List.length_range]at h;exact h
theorem NM(m : Nat){fuel r : Nat}(ds : List Tmp)(Inv : (Nat -> Bool) -> (Nat -> Value) -> World -> Prop){a0 : Act}{w0 : World}
  (A:ds.length=m) (a:pI ops ds=true) (E:nodupB ds=true) (D:decide (m<=ops.size)=true) (d:fQ md ops m=true) (f:lP md ops m r=true)
  (N:∀u,Inv (λ_=>false) u w0)
  (g:∀i,i<m->∀(L:Nat->Bool) (u:Nat->Value) (w:World),Inv L u w->L i=false->(∀j,cH md ops i j=true->L j=true/\j<m)->(∀k j,L k=true->cH md ops k j=true->L j=true)->
   ∀K:Act->World->Prop,(∀v B,Inv (λj=>if j=i then true else L j) (λj=>if j=i then v else u j) B->K ((fA ds 0 u a0).put ((ops[i]?).bind (·.dst)) v) B)->wpOp P ops Q i K (fA ds 0 u a0) w)
  (C:∀L u w,Inv L u w->(∀i,i<m->L i=true)->wpAny P md ops Q fuel (firstM m ops.size) (fA ds 0 u a0) w):
  wpAny P md ops Q (m+fuel) (Array.replicate ops.size false) a0 w0:=by
 have O:∀i,i<m->(ops[i]?).bind (·.dst)=ds[i]? :=λi h=>by
  unfold pI at a;rw[M7]at a;simpa using a i (S4.2 oW)
 refine IL m ds Inv A ?_ E D d f N (λi h L u w I M F G K J=>g i h L u w I M F G K λv B V=>J v B ?_) C
 ·unfold pI at a;rw[M7]at a;unfold CA;rw[M7];intro i h;rw[a i h,Bool.true_or]
 ·rw[N1 (by rw[O i h,K8 oW];rfl)];exact V
theorem Zi(m : Nat){fuel r : Nat}(ds : List Tmp)(V : Nat -> Value -> World -> Prop)(E : World -> World -> Prop){a0 : Act}{w0 : World}
  (B:ds.length=m) (I:pI ops ds=true) (N:nodupB ds=true) (M:decide (m<=ops.size)=true) (a:fQ md ops m=true) (d:lP md ops m r=true)
  (hV:∀i v w k,E w k->V i v w->V i v k) (Z:S w0)
  (f:Steps (CM P md ops Q S E V ds a0) 0 m)
  (D:∀u w,S w->(∀i,i<m->V i (u i) w)->wpAny P md ops Q fuel (firstM m ops.size) (fA ds 0 u a0) w):
  wpAny P md ops Q (m+fuel) (Array.replicate ops.size false) a0 w0:=by
 refine NM m ds (λL u w=>S w/\∀i,i<m->L i=true->V i (u i) w) B I N M a d (λu=>⟨Z,λi _ h=>by cases h⟩) (λi J L u w g _ O _ K Y=>?_) λL u w g F=>D u w g.1 λi J=>g.2 i J (F i J)
 refine(f.get i (M8 _) oW).step u w g.1 (λj C=>g.2 j (O j C).2 (O j C).1) K λv k G X hv=>Y v k ⟨G,λj C F=>?_⟩
 show V j (if j=i then v else u j) k;split
 ·next e=>rw[e];exact hv
 ·next e=>
  have A:(if j=i then true else L j)=true:=F;rw[M5 e]at A;exact hV j _ w k X (g.2 j C A)
theorem tN{G : Nat}(m fuel r : Nat)(S : World -> Prop)(ds : List Tmp)(V : Nat -> Value -> World -> Prop)(E : World -> World -> Prop){a0 : Act}{w : World}
  (hm:P.follows .mixedOrders=true) (B:ops.size=m+fuel)
  (g:ds.length=m) (k:pI ops ds=true) (A:nodupB ds=true) (a:fQ .any ops m=true) (d:lP .any ops m r=true)
  (F:∀i v w C,E w C->V i v w->V i v C) (D:S w.drew)
  (f:Steps (CM P .any ops Q S E V ds a0) 0 m)
  (j:∀u w,S w->(∀i,i<m->V i (u i) w)->wpAny P .any ops Q fuel (firstM m ops.size) (fA ds 0 u a0) w):(Code.region G ops true).wp P Q a0 w:=by
 refine wp_region_any hm ?_;have h:=Zi (md:=.any) m ds V E (w0:=w.drew) g k A (R4 oW) a d F D f j;rw[<-B]at h;exact h
end
end Go.Proofs.YtkoamlfiijcecaaGreatDoor
namespace Go.Proofs.YtkoamlfiijcecaaGreatDoor.Sx
open Go.ChangeShapes Go.WideShapes Go.ChangeAt Go.RowKit Go.Deep
abbrev cA:=List (Nat×Value)
abbrev View:=Addr->Option Value
abbrev aH:=List (Nat×Obj)
def look:cA->Nat->Option Value
 | [],_=>none
 |(d,v)::r,t=>match Nat.beq d t with
  |true=>some v
  |false=>look r t
def evS(s:cA):Operand->Option Value
 | .tmp t=>look s t
 | .const v=>some v
 | .global g=>some (.pointer (some ⟨g,0,none⟩))
 | .func f=>some (.func (.func f) #[] #[])
def ev(s:cA)(x:Operand):Value:=(evS s x).getD undef
structure pR (n : Nat) (s : cA) (a : Act) : Prop where
 size:a.tmps.size=n
 defers:a.defers=[]
 slots:∀t v,look s t=some v->a.tmps[t]? =some v
structure Cx where
 w:World
 u:View
structure Mem (W0 : Cx) (U : View) (σ : aH) (W : World) : Prop where
 below:Below W0.w.heap.size W0.w W
 old:∀a v,U a=some v->a.block<W0.w.heap.size->W0.u a=some v
 view:∀a v,U a=some v->W.cell? a=some v
 own:∀(k b:Nat) (o:Obj),σ[k]? =some (b,o)->W.heap[b]? =some o/\W0.w.heap.size<=b/\∀a,a.block=b->U a=none
 apart:∀(j k:Nat) (x y:Nat×Obj),σ[j]? =some x->σ[k]? =some y->x.1=y.1->j=k
theorem gQ{W:World}{b:Nat}{o:Obj}(h:W.heap[b]? =some o):b<W.heap.size:=(ab.1 h).1
theorem oR{W:World}{a:Addr}{v:Value}(h:W.cell? a=some v):a.block<W.heap.size:=W.block_lt_of_cell? _ h
theorem Mem.call{W0:Cx}{W W':World}{U:View}{σ:aH}(h:Mem W0 U σ W)(d:Below W.heap.size W W'):Mem W0 U σ W':=by
 obtain⟨f,j,r,u,A⟩:=h;refine⟨f.trans (d.mono f.size),j,λa v C=>?_,λk b o B=>?_,A⟩
 ·have:=r a v C;rw[d.cell (oR this)];exact this
 ·obtain⟨g,D,E⟩:=u k b o B;exact⟨by rw[d.block b (gQ g)];exact g,D,E⟩
theorem Mem.drew{W0:Cx}{W:World}{U:View}{σ:aH}(h:Mem W0 U σ W):Mem W0 U σ W.drew:=h.call ((Below.refl _ _).drew)
theorem Mem.alloc{W0:Cx}{W:World}{U:View}{σ:aH}(h:Mem W0 U σ W)(o:Obj):Mem W0 U (σ++[(W.heap.size,o)]) (W.alloc o):=by
 have A:=h.call (W':=W.alloc o) ((Below.refl _ _).alloc (O9 _) o);have C:=h.below.size;have E:∀a:Addr,a.block=W.heap.size->U a=none:=by
  intro a J;cases I:U a with
  |none=>rfl
  |some v=>have:=oR (h.view a v I);omega
 have u:∀(k:Nat) (x:Nat×Obj),σ[k]? =some x->x.1<W.heap.size:=λk x d=>gQ (h.own k x.1 x.2 d).1
 refine⟨A.below,A.old,A.view,λk b x d=>?_,λj k x y F d e=>?_⟩
 ·rw[bb]at d;split at d
  ·exact A.own k b x d
  ·next B=>
   have:k=σ.length:=by
    have:=(L8.1 d).1;simp at this;omega
   subst this;simp only[U9,P5,L0,N3]at d;obtain⟨rfl,rfl⟩:=d;exact⟨by show(W.heap.push _)[_]? =_;simp,C,E⟩
 ·have key:∀(i:Nat) (z:Nat×Obj),(σ++[(W.heap.size,o)])[i]? =some z->(i<σ.length/\σ[i]? =some z)\/(i=σ.length/\z=(W.heap.size,o)):=by
   intro i z f;rw[bb]at f;split at f
   ·next G=>exact .inl ⟨G,f⟩
   ·next B=>
    have D:i=σ.length:=by
     have:=(L8.1 f).1;simp at this;omega
    subst D;simp only[U9,P5,L0]at f;exact .inr ⟨rfl,f.symm⟩
  rcases key j x F with⟨_,g⟩|⟨rfl,rfl⟩<;>rcases key k y d with⟨_,r⟩|⟨rfl,rfl⟩
  ·exact h.apart j k x y g r e
  ·have:=u j x g;simp only at e;omega
  ·have:=u k y r;simp only at e;omega
  ·rfl
theorem Mem.set{W0 : Cx}{W W' : World}{U : View}{σ : aH}(h : Mem W0 U σ W)(k b : Nat)(o O : Obj)(E : σ[k]? = some (b, o))(G : W'.os = W.os)(I : W'.tape = W.tape)(A : W'.output = W.output)(X : W'.heap.size = W.heap.size)
  (C:W'.heap[b]? =some O) (d:∀i,i≠b->W'.heap[i]? =W.heap[i]?):Mem W0 U (σ.set k (b,O)) W':=by
 obtain⟨hb,D,r⟩:=h.own k b o E;refine⟨h.below.trans ⟨G,I,A,by omega,λi f=>d i oW⟩,h.old,λa v J=>?_,λj c x g=>?_,λi j x y f g e=>?_⟩
 ·have B:=h.view a v J;have F:a.block≠b:=λe=>by rw[r a e]at J;cases J
  unfold World.cell? at B ⊢;rw[d _ F];exact B
 ·rw[bj]at g;split at g
  ·next u=>
   subst u;split at g
   ·simp only[L0,N3]at g;obtain⟨rfl,rfl⟩:=g;exact⟨C,D,r⟩
   ·cases g
  ·next u=>
   obtain⟨Y,Z,q3⟩:=h.own j c x g;refine⟨?_,Z,q3⟩;rw[d c ?_]
   ·exact Y
   ·intro e;exact u (h.apart k j _ _ E g e.symm)
 ·have key:∀(i:Nat) (z:Nat×Obj),(σ.set k (b,O))[i]? =some z->∃V,σ[i]? =some V/\V.1=z.1:=by
   intro i z f;rw[bj]at f;split at f
   ·next u=>
    subst u;split at f
    ·simp only[L0]at f;subst f;exact⟨_,E,rfl⟩
    ·cases f
   ·exact⟨z,f,rfl⟩
  obtain⟨x',K,L⟩:=key i x f;obtain⟨y',M,N⟩:=key j y g;exact h.apart i j x' y' K M (by rw[L,N];exact e)
theorem Mem.grow{W0:Cx}{W:World}{U d:View}{σ:aH}(h:Mem W0 U σ W)(ho:∀a v,d a=some v->a.block<W0.w.heap.size->W0.u a=some v)(j:∀a v,d a=some v->W.cell? a=some v)(g:∀(k b:Nat) (o:Obj),σ[k]? =some (b,o)->∀a,a.block=b->d a=none):Mem W0 d σ W:=
 ⟨h.below,ho,j,λk b o f=>⟨(h.own k b o f).1,(h.own k b o f).2.1,g k b o f⟩,h.apart⟩
theorem Mem.weak{W0:Cx}{W:World}{U f:View}{σ:aH}(h:Mem W0 U σ W)(g:∀a v,f a=some v->U a=some v):Mem W0 f σ W:=
 h.grow (λa v d=>h.old a v (g a v d)) (λa v d=>h.view a v (g a v d)) λk b o r a j=>by
  cases d:f a with
  |none=>rfl
  |some v=>have:=(h.own k b o r).2.2 a j;rw[g a v d]at this;cases this
abbrev XQ:=Exit->cA->View->aH->Prop
def up(n:Nat)(W0:Cx)(Q:XQ):Exit->Act->World->Prop:=λe a W=>∃s U σ,pR n s a/\Mem W0 U σ W/\Q e s U σ
structure SXC (P : Program) (n : Nat) (W0 : Cx) (Q : XQ) (c : Code) (s : cA) (U : View) (σ : aH) : Prop where
 go:∀a W,pR n s a->Mem W0 U σ W->c.wp P (up n W0 Q) a W
structure SXL (P : Program) (n : Nat) (W0 : Cx) (Q : XQ) (ops : Array Oper) (l : List Oper) (s : cA) (U : View) (σ : aH) : Prop where
 go:∀a W,pR n s a->Mem W0 U σ W->wpList P ops (up n W0 Q) l a W
def NO(k:cA->View->aH->Prop)(Q:XQ):XQ
 | .normal,s,U,σ=>k s U σ
 |e,s,U,σ=>Q e s U σ
def Lo(id:Nat)(Q:XQ):XQ
 | .exit i,s,U,σ=>match Nat.beq i id with
  |true=>Q .normal s U σ
  |false=>Q (.exit i) s U σ
 |e,s,U,σ=>Q e s U σ
section
variable {P:Program} {n:Nat} {W0:Cx} {Q:XQ} {s:cA} {U:View} {σ:aH}
theorem Yl{x y:Code}(h:SXC P n W0 (NO (λs U σ=>SXC P n W0 Q y s U σ) Q) x s U σ):SXC P n W0 Q (.seq x y) s U σ:=by
 refine⟨λa W B A=>wp_seq (wp_mono (h.go a W B A) ?_)⟩;rintro e u r ⟨C,k,g,f,d,j⟩;cases e with
 |normal=>exact SXC.go j u r f d
 |_=>exact⟨C,k,g,f,d,j⟩
theorem aB{A:Nat}{c:Code}(h:SXC P n W0 (Lo A Q) c s U σ):SXC P n W0 Q (.block A c) s U σ:=by
 refine⟨λa W C B=>wp_block (wp_mono (h.go a W C B) ?_)⟩;rintro e E D ⟨u,k,g,f,d,j⟩;cases e with
 |exit i=>
  simp only[Lo]at j;simp only[Exit.inBlock];split at j
  ·next r=>rw[N1 (R3 r)];exact⟨u,k,g,f,d,j⟩
  ·next r=>rw[M5 (λe=>by subst e;simp at r)];exact⟨u,k,g,f,d,j⟩
 |_=>exact⟨u,k,g,f,d,j⟩
theorem Kj(h:Q .normal s U σ):SXC P n W0 Q .skip s U σ:=⟨λa W f d=>wp_skip ⟨s,U,σ,f,d,h⟩⟩
theorem aI{d:Nat}(h:Q (.exit d) s U σ):SXC P n W0 Q (.exit d) s U σ:=⟨λa W g f=>wp_exit ⟨s,U,σ,g,f,h⟩⟩
theorem aA(h:Q .ret s U σ):SXC P n W0 Q .ret s U σ:=⟨λa W f d=>wp_ret ⟨s,U,σ,f,d,h⟩⟩
theorem eH{a:Act}(d:pR n s a){x:Operand}{v:Value}(h:evS s x=some v):a.eval x=v:=by
 cases x with
 |tmp t=>
  have:=d.slots t v h;simp[Act.eval,this]
 |const u=>simpa[evS,Act.eval]using h
 |global g=>simpa[evS,Act.eval]using h
 |func f=>simpa[evS,Act.eval]using h
theorem LH{c:Operand}{x y:Code}(t:Bool)(k:evS s c=some (.bool t))(g:t=true->SXC P n W0 Q x s U σ)(j:t=false->SXC P n W0 Q y s U σ):SXC P n W0 Q (.cond c x y) s U σ:=
 ⟨λa W d f=>wp_cond_split (eH d k) (λh=>(g h).go a W d f) (λh=>(j h).go a W d f)⟩
theorem UT{c:Operand}{x y:Code}(t:Bool)(h:evS s c=some (.bool t))(j:t=true)(f:SXC P n W0 Q x s U σ):SXC P n W0 Q (.cond c x y) s U σ:=by
 subst j;exact⟨λa W d g=>wp_cond_true (eH d h) (f.go a W d g)⟩
theorem UU{c:Operand}{x y:Code}(t:Bool)(h:evS s c=some (.bool t))(j:t=false)(f:SXC P n W0 Q y s U σ):SXC P n W0 Q (.cond c x y) s U σ:=by
 subst j;exact⟨λa W d g=>wp_cond_false (eH d h) (f.go a W d g)⟩
theorem Kh{α : Type}{c : Code}(Sf : α -> cA)(Uf : α -> View)(Of : α -> aH)(j : α -> Prop)(μ : α -> Nat)(G : α)(h0 : j G)
  (hs:∀t v,look (Sf G) t=some v->look s t=some v) (hm:∀W,Mem W0 U σ W->Mem W0 (Uf G) (Of G) W)
  (round:∀x,j x->SXC P n W0 (NO (λs' Y σ'=>∃u,j u/\μ u<μ x/\(∀t v,look (Sf u) t=some v->look s' t=some v)/\(∀W,Mem W0 Y σ' W->Mem W0 (Uf u) (Of u) W)) Q) c (Sf x) (Uf x) (Of x)):
  SXC P n W0 Q (.loop c) s U σ:=by
 refine⟨λa W E K=>?_⟩;have key:∀(m:Nat) (x:α),μ x=m->j x->∀a W,pR n (Sf x) a->Mem W0 (Uf x) (Of x) W->∀(b:Frame) (k:List Item) (cs:List Frame),∃e J I,up n W0 Q e J I/\Arrives P (lone (b.at a (.code c:: .inLoop c::k)) cs W) b k cs e J I:=by
  intro m
  induction m using Nat.strongRecOn with
  |_ m ih=>
   intro x hm hi a W E K b k cs;obtain⟨e,C,A,⟨F,D,h,f,g,r⟩,d⟩:=(round x hi).go a W E K b (.inLoop c::k) cs;cases e with
   |normal=>
    obtain⟨u,L,M,V,N⟩:=r;obtain⟨e2,a2,Z,O,B⟩:=ih (μ u) (hm▸M) u rfl L C A ⟨f.size,f.defers,λt v X=>f.slots t v (V t v X)⟩ (N A g) b k cs;exact⟨e2,a2,Z,O,.of_steps (Steps.trans d (.one step_inLoop)) B⟩
   |exit id=>exact⟨_,C,A,⟨F,D,h,f,g,r⟩,.pass (x:=.inLoop c) rfl (λ_ _=>.inl (by simp)) d⟩
   |goto l=>exact⟨_,C,A,⟨F,D,h,f,g,r⟩,.pass (x:=.inLoop c) rfl (λ_ _=>.inl (by simp)) d⟩
   |ret=>exact⟨_,C,A,⟨F,D,h,f,g,r⟩,.pass (x:=.inLoop c) rfl (λ_ _=>.inl (by simp)) d⟩
   |panic ch=>exact⟨_,C,A,⟨F,D,h,f,g,r⟩,.pass (x:=.inLoop c) rfl (λ_ _=>.inl (by simp)) d⟩
   |outgrown=>exact⟨_,C,A,⟨F,D,h,f,g,r⟩,.pass (x:=.inLoop c) rfl (λ_ _=>.inl (by simp)) d⟩
 intro b k cs;obtain⟨e,J,I,r,d⟩:=key _ G rfl h0 a W ⟨E.size,E.defers,λt v X=>E.slots t v (hs t v X)⟩ (hm W K) b k cs;exact⟨e,J,I,r,.of_steps (.one step_loop) d⟩
theorem qV{ops:Array Oper}{l:List Oper}(d:View)(σ':aH)(hm:∀W,Mem W0 U σ W->Mem W0 d σ' W)(h:SXL P n W0 Q ops l s d σ'):SXL P n W0 Q ops l s U σ:=⟨λa W g f=>h.go a W g (hm W f)⟩
theorem Mem.eqv{W0:Cx}{W:World}{U:View}{σ σ':aH}(e:σ=σ')(h:Mem W0 U σ W):Mem W0 U σ' W:=e▸h
theorem Mem.sub{W0:Cx}{W:World}{U:View}{σ σ':aH}(hs:σ'.Sublist σ)(h:Mem W0 U σ W):Mem W0 U σ' W:=by
 obtain⟨E,D,F,G,I⟩:=h;have A:(σ.map Prod.fst).Nodup:=by
  refine T0.2 λi j g r J B=>?_
  rw[O1]at g r;rw[T4,T4]at B;have:=I i j _ _ (K8 g) (K8 r) B;omega
 have f:(σ'.map Prod.fst).Nodup:=(hs.map Prod.fst).nodup A;refine⟨E,D,F,λk b o u=>?_,λj k x y r u e=>?_⟩
 ·have K:(b,o)∈σ:=hs.subset (K9 u);obtain⟨i,g⟩:=ay K;exact G i b o g
 ·have C:=T0.1 f;obtain⟨a,rfl⟩:=L8.1 r;obtain⟨d,rfl⟩:=L8.1 u;rcases bl j k with hl|hl|hl
  ·exact absurd (by rw[T4,T4];exact e) (C j k (by simpa using a) (by simpa using d) hl)
  ·exact hl
  ·exact absurd (by rw[T4,T4];exact e.symm) (C k j (by simpa using d) (by simpa using a) hl)
theorem EO{g:Nat}{l:List Oper}(h:SXL P n W0 Q l.toArray l s U σ):SXC P n W0 Q (.region g l.toArray false) s U σ:=
 ⟨λa W f d=>wp_region_lit (h.go a W f d)⟩
theorem Gi{ops:Array Oper}(h:Q .normal s U σ):SXL P n W0 Q ops [] s U σ:=⟨λ_ _ d a=>wpList_nil ⟨s,U,σ,d,a,h⟩⟩
def dA(ops:Array Oper)(s:cA)(o:Oper):Option Bool:=match o.guard with
 |none=>some true
 |some (j,b)=>match(ops[j]?).bind (·.dst)with
  |some d=>match look s d with
   |some (.bool x)=>some (x==b)
   |some _=>some false
   |none=>none
  |none=>none
theorem lT{ops:Array Oper}{o:Oper}{a:Act}{b:Bool}(r:pR n s a)(h:dA ops s o=some b):Region.wanted o (yielded ops a.tmps)=b:=by
 unfold dA at h;unfold Region.wanted;cases k:o.guard with
 |none=>rw[k]at h;simpa using h
 |some jw=>
  obtain⟨j,w⟩:=jw;rw[k]at h;simp only at h ⊢;unfold yielded;cases g:(ops[j]?).bind (·.dst)with
  |none=>rw[g]at h;cases h
  |some d=>
   rw[g]at h;simp only at h;cases f:look s d with
   |none=>rw[f]at h;cases h
   |some v=>
    rw[f]at h;have hs:=r.slots d v f;simp only[Option.bind_some,hs];cases v with
    |bool x=>
     simp only[L0]at h;subst h;cases x<;>cases w<;>rfl
    |_=>
     simp only[L0]at h;subst h;rfl
theorem Jl{a:Act}{d:Nat}{v:Value}(f:pR n s a)(k:d<n):pR n ((d,v)::s) (a.put (some d) v):=by
 refine⟨by simp[Act.put,f.size],f.defers,λt u g=>?_⟩;simp only[look]at g;simp only[Act.put,T6];split at g
 ·next h=>
  have:=R3 h;subst this;rw[N1 rfl,N1 (by rw[f.size];exact k)];exact g
 ·next h=>
  have j:¬d=t:=λe=>by subst e;simp at h
  rw[M5 j];exact f.slots t u g
def lQ(o:Oper)(v:Value)(s:cA):cA:=match o.dst with
 |some d=>(d,v)::s
 |none=>s
def fF(n:Nat)(o:Oper):Bool:=match o.dst with
 |some d=>Nat.blt d n
 |none=>true
theorem eL{a:Act}{o:Oper}{v:Value}(f:pR n s a)(g:fF n o=true):pR n (lQ o v s) (a.put o.dst v):=by
 unfold lQ fF at *;cases h:o.dst with
 |none=>exact f
 |some d=>
  rw[h]at g;exact Jl f (by simpa[Z5]using g)
def pev(P:Program){α:Type}:Sem α->Option α
 | .pure a=>some a
 | .program k=>pev P (k P)
 | .mark _ k=>pev P k
 |_=>none
theorem SQ{α:Type}{e:Sem α}{x:α}(h:pev P e=some x)(w:World):e.run P w=.ok x w:=by
 induction e with
 |pure a=>simp only[pev,L0]at h;subst h;rfl
 |program k ih=>exact ih P h
 |mark m k ih=>exact ih h
 |_=>cases h
def known(s:cA)(o:Oper):Bool:=(match o.op with| .select _ _=>false|_=>true)&&o.op.operands.all λx=>(evS s x).isSome
theorem gM{o:Oper}{a:Act}(f:pR n s a)(h:known s o=true):execOp a.eval o=execOp (ev s) o:=by
 unfold known at h;rw[L5]at h;refine execOp_congr o (λcs b e=>by rw[e]at h;cases h.1) λx g=>?_
 have:=(bh.1 h.2) x g;obtain⟨v,d⟩:=P4.1 this;rw[eH f d,ev,d];rfl
def quiet(P:Program)(s:cA)(o:Oper):Option Value:=match known s o with
 |true=>match pev P (execOp (ev s) o)with
  |some (.value v)=>some v
  |_=>none
 |false=>none
theorem oY{o:Oper}{a:Act}{v:Value}(d:pR n s a)(h:quiet P s o=some v)(w:World):(execOp a.eval o).run P w=.ok (.value v) w:=by
 unfold quiet at h;split at h
 ·next f=>
  rw[gM d f];split at h
  ·next u g=>
   simp only[L0]at h;subst h;exact SQ g w
  ·cases h
 ·cases h
theorem sC:∀(ts:List Nat) (vs:List Value),(ts.map λt=>look s t)=vs.map some->∀t v,look (ts.zip vs) t=some v->look s t=some v
 | [],_,_,t,v,a=>by simp[look]at a
 |d::ts,[],_,t,v,a=>by simp[look]at a
 |d::ts,u::vs,f,t,v,a=>by
  simp only[R2,Z6]at f;simp only[List.zip_cons_cons,look]at a;split at a
  ·next g=>
   have h:=R3 g;subst h;rw[f.1];exact a
  ·exact sC ts vs f.2 t v a
theorem LK{ops:Array Oper}{l:List Oper}(t:Nat)(x:Bool)(A:look s t=some (.bool x))(k:x=true->SXL P n W0 Q ops l ((t,.bool true)::s) U σ)(r:x=false->SXL P n W0 Q ops l ((t,.bool false)::s) U σ):SXL P n W0 Q ops l s U σ:=by
 refine⟨λa W f h=>?_⟩;have j:=f.slots t _ A;cases x with
 |true=>
  refine(k rfl).go a W ⟨f.size,f.defers,λu v d=>?_⟩ h;simp only[look]at d;split at d
  ·next g=>
   have:=R3 g;subst this;rw[j,d]
  ·exact f.slots u v d
 |false=>
  refine(r rfl).go a W ⟨f.size,f.defers,λu v d=>?_⟩ h;simp only[look]at d;split at d
  ·next g=>
   have:=R3 g;subst this;rw[j,d]
  ·exact f.slots u v d
theorem Ke{ops:Array Oper}{l:List Oper}(t:Nat)(v g:Value)(A:look s t=some v)(r:v=g)(h:SXL P n W0 Q ops l ((t,g)::s) U σ):SXL P n W0 Q ops l s U σ:=by
 subst r;refine⟨λa W d j=>h.go a W ⟨d.size,d.defers,λu x f=>?_⟩ j⟩;simp only[look]at f;split at f
 ·next k=>
  have:=R3 k;subst this;rw[d.slots t _ A,f]
 ·exact d.slots u x f
end
section
variable {P:Program} {n:Nat} {W0:Cx} {Q:XQ} {s:cA} {U:View} {σ:aH} {ops:Array Oper} {l:List Oper} {o:Oper}
theorem oT(A : fF n o = true)(u : dA ops s o = some true)
  (h:∀a W,pR n s a->Mem W0 U σ W->∀K:Act->World->Prop,(∀v W' s' d σ',SXL P n W0 Q ops l s' d σ'->pR n s' (a.put o.dst v)->Mem W0 d σ' W'->K (a.put o.dst v) W')->o.wp P a W K (up n W0 Q)):SXL P n W0 Q ops (o::l) s U σ:=by
 refine⟨λa W f j=>wpList_step λK g=>?_⟩;rw[N1 (lT f u)];exact h a W f j K λv W' s' d σ' hs r k=>g _ _ (hs.go _ _ r k)
def pld(P:Program)(f:Addr->Option Value){α:Type}:Sem α->Option (α×List Addr)
 | .pure a=>some (a,[])
 | .program k=>pld P f (k P)
 | .mark _ k=>pld P f k
 | .load _ a k=>match f a with
  |some v=>match pld P f (k v)with
   |some (x,rs)=>some (x,a::rs)
   |none=>none
  |none=>none
 |_=>none
theorem SO{f:Addr->Option Value}{α:Type}{e:Sem α}:∀{x:α} {d:List Addr},pld P f e=some (x,d)->∀(w:World),(∀a∈d,∀v,f a=some v->w.cell? a=some v)->e.run P w=.ok x w:=by
 induction e with
 |pure a=>intro x d h w _;simp only[pld,L0,N3]at h;obtain⟨rfl,rfl⟩:=h;rfl
 |program k ih=>intro x d h w g;exact ih P h w g
 |mark m k ih=>intro x d h w g;exact ih h w g
 |load m a k ih=>
  intro x d h w g;simp only[pld]at h;split at h
  ·next v r=>
   split at h
   ·next y bs u=>
    simp only[L0,N3]at h;obtain⟨rfl,rfl⟩:=h;simp only[Sem.run,g a (Q3 ..) v r];exact ih v u w λc j=>g c (P3 _ j)
   ·cases h
  ·cases h
 |_=>intro x d h;cases h
def reads(P:Program)(cs:List Value)(s:cA)(o:Oper):Option (Value×List (Nat×Option Nat)):=match known s o with
 |true=>match pld P (λa=>cs[a.off]?) (execOp (ev s) o)with
  |some (.value v,rs)=>some (v,rs.map λa=>(a.block,match a.spot with|none=>none|some _=>some 0))
  |_=>none
 |false=>none
theorem Cy(k b m : Nat)(cs : List Value)(t : TypeId)(v : Value)(L : σ[k]? = some (b, .cells cs.toArray t (0, 0)))(d : reads P cs s o = some (v, List.replicate m (b, none)))(E : fF n o = true)(O : dA ops s o = some true)
  (h:SXL P n W0 Q ops l (lQ o v s) U σ):SXL P n W0 Q ops (o::l) s U σ:=by
 refine oT E O λa W D C K G=>?_
 unfold reads at d;split at d
 ·next j=>
  split at d
  ·next x Z M=>
   simp only[L0,N3]at d;obtain⟨rfl,f⟩:=d;unfold Oper.wp;rw[gM D j,SO M W λc J u N=>?_]
   ·exact G _ _ _ _ _ h (eL D E) C
   ·have g:(c.block,match c.spot with|none=>none|some _=>some 0)∈List.replicate m (b,(none:Option Nat)):=by rw[<-f];exact S1.2 ⟨c,J,rfl⟩
    have F:=(bf.1 g).2;simp only[N3]at F;obtain⟨A,B⟩:=F;have hs:c.spot=none:=by
     cases r:c.spot with
     |none=>rfl
     |some _=>rw[r]at B;cases B
    have I:=(C.own k b _ L).1;have:c=⟨b,c.off,none⟩:=by
     obtain⟨V,X,Y⟩:=c;simp only at A hs ⊢;subst A hs;rfl
    rw[this,cell_of_row _ _ _ _ _ _ I];simpa using N
  ·cases d
 ·cases d
def View.range(U:View)(b o:Nat)(cs:List Value):Prop:=∀j v,cs[j]? =some v->U ⟨b,o+j,none⟩=some v
theorem View.range_of{U:View}{b o:Nat}{cs:List Value}(h:U.range b o cs){W:World}(d:∀a v,U a=some v->W.cell? a=some v):W.rangeAt b o cs:=λj v f=>d _ _ (h j v f)
theorem Gh(b f : Nat)(cs : List Value)(B : U.range b f cs)(j : TypeId)(x : Operand)(ho : o.op = .load j x)(F : evS s x = some (.pointer (some ⟨b, f, none⟩)))(d : TypeDesc)(D : P.underlying j = some d)(g : d.isRow = true)(C : (P.info? j).map (·.size) = some cs.length)
  (u:fF n o=true) (E:dA ops s o=some true) (h:SXL P n W0 Q ops l (lQ o (.agg cs.toArray) s) U σ):SXL P n W0 Q ops (o::l) s U σ:=by
 refine oT u E λa W r k K A=>?_
 refine wp_load_mid j x ho b f (eH r F) cs d (View.range_of B k.view) D g C ?_;exact A _ _ _ _ _ h (eL r u) k
theorem Kg(b f : Nat)(v : Value)(C : U ⟨b, f, none⟩ = some v)(j : TypeId)(x : Operand)(ho : o.op = .load j x)(G : evS s x = some (.pointer (some ⟨b, f, none⟩)))(d : TypeDesc)(E : P.underlying j = some d)(A : d.isRow = false)
  (u:fF n o=true) (F:dA ops s o=some true) (h:SXL P n W0 Q ops l (lQ o v s) U σ):SXL P n W0 Q ops (o::l) s U σ:=by
 refine oT u F λa W r k K B=>?_
 have D:=k.view _ _ C;have g:(isAgg j).run P W=.ok false W:=by
  unfold isAgg;rw[Sem.run_bind,run_underlying E W];cases d<;>simp_all
 unfold Oper.wp execOp;simp only[ho,eH r G,Instr.loadAt,Instr.sureAddr,Sem.run_bind,Sem.run_pure,Result.andThen_ok,loadVar,g];simp only[N9,if_false,load,Sem.run,D,Result.andThen_ok];exact B _ _ _ _ _ h (eL r u) k
def cJ(cs:List Value)(off:Nat)(vs:List Value):List Value:=cs.take off++vs++cs.drop (off+vs.length)
theorem iF(b:Nat):∀(vs:List Value) (a:Nat) (w:World) (cs:List Value) (t:TypeId),w.heap[b]? =some (.cells cs.toArray t (0,0))->a+vs.length<=cs.length->
  (w.setCells b a vs).heap[b]? =some (.cells (cJ cs a vs).toArray t (0,0))/\(∀i,i≠b->(w.setCells b a vs).heap[i]? =w.heap[i]?)/\(w.setCells b a vs).heap.size=w.heap.size/\
  (w.setCells b a vs).os=w.os/\(w.setCells b a vs).tape=w.tape/\(w.setCells b a vs).output=w.output
 | [],a,w,cs,t,h,_=>by
  refine⟨?_,λ_ _=>rfl,rfl,rfl,rfl,rfl⟩;simp only[World.setCells,cJ,M1,O8,U8,S8];exact h
 |v::vs,a,w,cs,t,h,hl=>by
  simp only[M9]at hl;have f:(w.setCell ⟨b,a,none⟩ v).heap[b]? =some (.cells (cs.set a v).toArray t (0,0)):=by
   simp[World.setCell,Array.getElem?_modify,h]
  obtain⟨j,k,r,u,A,B⟩:=iF b vs (a+1) (w.setCell ⟨b,a,none⟩ v) (cs.set a v) t f (by rw[T2];omega);simp only[World.setCells];refine⟨?_,λi d=>?_,?_,u,A,B⟩
  ·rw[j];congr 2;have e:cJ (cs.set a v) (a+1) vs=cJ cs a (v::vs):=by
    unfold cJ;rw[M9];have g:List.take (a+1) (cs.set a v)=cs.take a++[v]:=by
     rw[List.take_succ_eq_append_getElem (by rw[T2];omega),List.getElem_set_self,List.take_set,List.set_eq_of_length_le (by rw[O3];omega)]
    rw[g];simp only[M6,W2];rw[List.drop_set,N1 oW,show a+1+vs.length=a+(vs.length+1) by omega]
   rw[e]
  ·rw[k i d];simp[World.setCell,Array.getElem?_modify,Ne.symm d]
  ·rw[r];simp[World.setCell]
theorem oL{b:Nat}{w:World}{cs:List Value}{t:TypeId}(h:w.heap[b]? =some (.cells cs.toArray t (0,0))){a m:Nat}(g:a+m<=cs.length):w.there b a m:=by
 intro j f;have d:w.cell? ⟨b,a+j,none⟩=cs[a+j]? :=by rw[cell_of_row _ _ _ _ _ _ h];simp
 refine⟨by rw[d,K8 oW];rfl,?_⟩;unfold World.frozen?;rw[h];simp
def qW(P:Program)(ty:TypeId)(v:Value)(m:Nat):Bool:=match(P.info? ty).map (·.size)with
 |some z=>Nat.beq z m&&Nat.beq v.cells.size m&&v.cells.all (·.oneCell')
 |none=>false
theorem CQ{w:World}{b a:Nat}{k:TypeId}{v:Value}{m:Nat}(A:w.there b a m)(hs:qW P k v m=true):(storeVar k ⟨b,a,none⟩ v).run P w=.ok () (w.setCells b a v.cells.toList):=by
 unfold qW at hs;split at hs
 ·next z d=>
  simp only[L5]at hs;obtain⟨⟨f,r⟩,B⟩:=hs;have f:=R3 f;have r:=R3 r;subst f;have := run_storeCells_cells (P := P) b a v.cells.toList 0 w (fun j g => by simpa using (A j (by simp at g; omega)).1) (fun j g => by simpa using (A j (by simp at g; omega)).2)
   (λu D=>(bh.1 B) u (by simpa using D))
  cases h:P.info? k with
  |none=>rw[h]at d;cases d
  |some i=>
   have C:v.cells.size=i.size:=by rw[h]at d;simp at d;omega
   simp only[U8]at this;simp[storeVar,sizeOf,typeInfo,h,C,this]
 ·cases hs
theorem Kk(k b d m : Nat)(cs : List Value)(t B : TypeId)(v : Value)(x y : Operand)(ho : o.op = .store B x y)(F : evS s x = some (.pointer (some ⟨b, d, none⟩)))(G : evS s y = some v)
  (A:σ[k]? =some (b,.cells cs.toArray t (0,0))) (hs:qW P B v m=true) (D:Nat.ble (d+m) cs.length=true) (u:fF n o=true) (E:dA ops s o=some true)
  (h:SXL P n W0 Q ops l (lQ o undef s) U (σ.set k (b,.cells (cJ cs d v.cells.toList).toArray t (0,0)))):SXL P n W0 Q ops (o::l) s U σ:=by
 refine oT u E λa W f j K C=>?_
 have r:=(j.own k b _ A).1;have g:d+m<=cs.length:=U1 D;have V:v.cells.toList.length=m:=by
  unfold qW at hs;split at hs
  ·simp only[L5]at hs;have:=R3 hs.1.2;simpa using this
  ·cases hs
 unfold Oper.wp execOp;simp only[ho,eH f F,eH f G,Instr.storeAt,Instr.sureAddr,Sem.run_bind,Sem.run_pure,Result.andThen_ok,CQ (oL r g) hs];obtain⟨I,J,L,M,N,O⟩:=iF b v.cells.toList d W cs t r oW;exact C _ _ _ _ _ h (eL f u) (j.set k b _ _ A M N O L I J)
def Fc(P:Program){α:Type}:Sem α->Option (Obj×(Nat->Option α))
 | .new o k=>some (o,λr=>pev P (k r))
 | .program k=>Fc P (k P)
 | .mark _ k=>Fc P k
 |_=>none
theorem Pw{α:Type}{e:Sem α}:∀{x:Obj} {f:Nat->Option α} {v:Nat->α},Fc P e=some (x,f)->(∀r,f r=some (v r))->∀w:World,e.run P w=.ok (v w.heap.size) (w.alloc x):=by
 induction e with
 |new o k ih=>
  intro x f v h a w;simp only[Fc,L0,N3]at h;obtain⟨rfl,rfl⟩:=h;simp only[Sem.run];exact SQ (a w.heap.size) _
 |program k ih=>intro x f v h a w;exact ih P h a w
 |mark m k ih=>intro x f v h a w;exact ih h a w
 |_=>intro x f v h;cases h
def makes(P:Program)(s:cA)(o:Oper):Option (Obj×(Nat->Option Value)):=match known s o with
 |true=>match Fc P (execOp (ev s) o)with
  |some (x,f)=>some (x,λr=>match f r with
   |some (.value v)=>some v
   |_=>none)
  |none=>none
 |false=>none
theorem mN{a:Act}{x:Obj}{v:Nat->Value}(j:pR n s a)(h:makes P s o=some (x,λr=>some (v r)))(w:World):(execOp a.eval o).run P w=.ok (.value (v w.heap.size)) (w.alloc x):=by
 unfold makes at h;split at h
 ·next d=>
  rw[gM j d];split at h
  ·next y f k=>
   simp only[L0,N3]at h;obtain⟨rfl,g⟩:=h;refine Pw (v:=λr=>.value (v r)) k (λr=>?_) w;have:=congrFun g r;split at this
   ·next u A=>simp only[L0]at this;rw[A,this]
   ·cases this
  ·cases h
 ·cases h
theorem Mk(x : Obj)(v : Nat -> Value)(hm : makes P s o = some (x, fun r => some (v r)))(f : fF n o = true)(k : dA ops s o = some true)
  (h:∀b,SXL P n W0 Q ops l (lQ o (v b) s) U (σ++[(b,x)])):SXL P n W0 Q ops (o::l) s U σ:=by
 refine oT f k λa W d j K g=>?_
 unfold Oper.wp;rw[mN d hm];exact g _ _ _ _ _ (h W.heap.size) (eL d f) (j.alloc x)
def enters(P:Program)(s:cA)(o:Oper):Option (FuncId×Array Value):=match known s o with
 |true=>match pev P (execOp (ev s) o)with
  |some (.enter f args)=>some (f,args)
  |_=>none
 |false=>none
theorem eU{a:Act}{f:FuncId}{d:Array Value}(k:pR n s a)(h:enters P s o=some (f,d))(w:World):(execOp a.eval o).run P w=.ok (.enter f d) w:=by
 unfold enters at h;split at h
 ·next j=>
  rw[gM k j];split at h
  ·next g u r=>
   simp only[L0,N3]at h;obtain⟨rfl,rfl⟩:=h;exact SQ r w
  ·cases h
 ·cases h
theorem tX(f : FuncId)(d : Array Value)(B : enters P s o = some (f, d))(k : fF n o = true)(C : dA ops s o = some true)
  (A:∀W,Mem W0 U σ W->Calls P f d W λe W'=>∃v s' g σ',e=.returned v/\Mem W0 g σ' W'/\s'=lQ o v s/\SXL P n W0 Q ops l s' g σ'):SXL P n W0 Q ops (o::l) s U σ:=by
 refine oT k C λa W j u K r=>?_
 unfold Oper.wp;rw[eU j B];refine(A W u).mono ?_;rintro e W' ⟨v,s',g,σ',rfl,h,rfl,hs⟩;exact r _ _ _ _ _ hs (eL j k) h
theorem RE(f : FuncId)(a : Array Value)(v : Value)(d : enters P s o = some (f, a))(k : ∀ W, Mem W0 U σ W -> Calls P f a W fun e W' => e = .returned v /\ Below W.heap.size W W')(r : fF n o = true)(u : dA ops s o = some true)
  (h:SXL P n W0 Q ops l (lQ o v s) U σ):SXL P n W0 Q ops (o::l) s U σ:=
 tX f a d r u λW g=>(k W g).mono λ_ W' ⟨d,j⟩=>⟨v,_,U,σ,d,g.call j,rfl,h⟩
end
def Lm:Nat->List Value->cA
 |_,[]=>[]
 |k,v::r=>(k,v)::Lm (k+1) r
theorem HM:∀(l:List Value) (k t:Nat) (v:Value),look (Lm k l) t=some v->k<=t/\l[t-k]? =some v
 | [],_,_,_,h=>by cases h
 |u::r,k,t,v,h=>by
  simp only[Lm,look]at h;split at h
  ·next a=>
   have:=R3 a;subst this;refine⟨O9 _,?_⟩;simpa using h
  ·next a=>
   obtain⟨f,d⟩:=HM r (k+1) t v h;refine⟨by omega,?_⟩;rw[show t-k=(t-(k+1))+1 by omega];simpa using d
def Sk(P:Program)(n:Nat)(W0:Cx)(fn:Func)(R:Ending->World->Prop):XQ
 | .normal,s,U,σ| .ret,s,U,σ=>∀a W,pR n s a->Mem W0 U σ W->∃v,(results fn a.tmps).run P W=.ok v W/\R (.returned v) W
 |_,_,_,_=>False
theorem US{P : Program}{f : FuncId}{r : Func}{c : Code}{d : List Value}{W : World}{R : Ending -> World -> Prop}(n : Nat)(U : View)(K : P.funcs[f]? = some r)(J : r.body = some c)(N : r.ntmps = n)(B : Nat.ble d.length n = true)(I : ∀ a v, U a = some v -> W.cell? a = some v)
  (h:SXC P n ⟨W,U⟩ (Sk P n ⟨W,U⟩ r R) c (Lm 0 d) U []):Calls P f d.toArray W R:=by
 have G:d.length<=n:=U1 B;refine calls_of_wp K J (wp_mono (h.go _ W ⟨?_,rfl,λt v O=>?_⟩ ⟨Below.refl _ _,λ_ _ h _=>h,I,λk b o M=>by simp at M,λj k x y L=>by simp at L⟩) ?_)
 ·simp[N];omega
 ·obtain⟨_,g⟩:=HM d 0 t v O;have C:t<d.length:=(L8.1 g).1;simp only[bV]at g;rw[Array.getElem?_append_left (by simpa using C)];simpa using g
 ·rintro e a E ⟨s,V,σ,u,F,D⟩;cases e with
  |normal=>obtain⟨v,A,g⟩:=D a E u F;exact⟨u.defers,v,A,g⟩
  |ret=>obtain⟨v,A,g⟩:=D a E u F;exact⟨u.defers,v,A,g⟩
  |_=>exact D.elim
def Bg(rs:List Addr):List (Nat×Option Nat):=rs.map λa=>(a.block,match a.spot with|none=>none|some _=>some 0)
def Fq(P:Program)(cs:List Value)(ty:TypeId)(a:Addr):Option (Value×List (Nat×Option Nat)):=match pld P (λa=>cs[a.off]?) (loadVar ty a)with
 |some (v,rs)=>some (v,Bg rs)
 |none=>none
def OG(P:Program)(σ:aH)(k:Nat)(s:cA)(x:Nat)(ty:TypeId):Option (Value×List (Nat×Option Nat)×Nat):=match look s x,σ[k]? with
 |some (.pointer (some a)),some (b,.cells c _ (0,0))=>match Fq P c.toList ty a with
  |some (v,rs)=>some (v,rs,b)
  |none=>none
 |_,_=>none
def KW(P:Program)(s:cA)(σ:aH):ResultVar->Value->Prop
 | .tmp t,v=>look s t=some v
 | .cell x ty,v=>∃(k b m:Nat),OG P σ k s x ty=some (v,List.replicate m (b,none),b)
def HU(P:Program)(s:cA)(σ:aH):List ResultVar->List Value->Prop
 | [],[]=>True
 |r::rs,v::vs=>KW P s σ r v/\HU P s σ rs vs
 |_,_=>False
def dD:List Value->Value
 | [v]=>v
 |vs=>.tuple vs.toArray
theorem AG{P : Program}{W0 : Cx}{W : World}{U : View}{σ : aH}(B : Mem W0 U σ W){k b m : Nat}{cs : List Value}{t : TypeId}(E : σ[k]? = some (b, .cells cs.toArray t (0, 0))){α : Type}{e : Sem α}{x : α}{A : List Addr}
  (F:pld P (λa=>cs[a.off]?) e=some (x,A)) (d:(A.map λa=>(a.block,match a.spot with|none=>(none:Option Nat)|some _=>some 0))=List.replicate m (b,none)):e.run P W=.ok x W:=by
 refine SO F W λc D u G=>?_
 have f:(c.block,match c.spot with|none=>none|some _=>some 0)∈List.replicate m (b,(none:Option Nat)):=by rw[<-d];exact S1.2 ⟨c,D,rfl⟩
 have r:=(bf.1 f).2;simp only[N3]at r;obtain⟨h,j⟩:=r;have hs:c.spot=none:=by
  cases g:c.spot with
  |none=>rfl
  |some _=>rw[g]at j;cases j
 have C:=(B.own k b _ E).1;have:c=⟨b,c.off,none⟩:=by
  obtain⟨I,J,K⟩:=c;simp only at h hs ⊢;subst h hs;rfl
 rw[this,cell_of_row _ _ _ _ _ _ C];simpa using G
theorem Ju{P:Program}{n:Nat}{W0:Cx}{W:World}{s:cA}{U:View}{σ:aH}{a:Act}(j:pR n s a)(B:Mem W0 U σ W):∀(r:ResultVar) (v:Value),KW P s σ r v->
  (match r with|ResultVar.tmp t=>(pure (a.tmps.getD t undef):Sem Value)|ResultVar.cell x t=>do loadVar t (<-asAddr (a.tmps.getD x undef))).run P W=.ok v W
 | .tmp t,v,h=>by
  have:=j.slots t v h;simp[this]
 | .cell x ty,v,⟨k,b,m,h⟩=>by
  unfold OG at h;split at h
  ·next p F A t D C=>
   have:=j.slots x _ D;simp only[bD,this,bS,asAddr,Sem.run_bind,Sem.run_pure,Result.andThen_ok];unfold Fq at h;split at h
   ·next u G d=>
    simp only[L0,N3]at h;obtain⟨rfl,g,rfl⟩:=h;split at d
    ·next y zs E=>
     simp only[L0,N3]at d;obtain⟨rfl,f⟩:=d;rw[<-f]at g;exact AG B (cs:=A.toList) (by simpa using C) E g
    ·cases d
   ·cases h
  ·cases h
theorem Xh{P:Program}{n:Nat}{W0:Cx}{W:World}{s:cA}{U:View}{σ:aH}{a:Act}(k:pR n s a)(j:Mem W0 U σ W):∀(f:List ResultVar) (vs:List Value),HU P s σ f vs->
  (f.mapM fun|ResultVar.tmp t=>(pure (a.tmps.getD t undef):Sem Value)|ResultVar.cell x t=>do loadVar t (<-asAddr (a.tmps.getD x undef))).run P W=.ok vs W
 | [],[],_=>by simp
 |r::f,v::vs,⟨u,A⟩=>by
  simp only[List.mapM_cons,Sem.run_bind];have d:=Ju (P:=P) k j r v u;have g:=Xh k j f vs A;cases r with
  |tmp t=>
   simp only at d ⊢;rw[d];simp only[Result.andThen_ok,g,Sem.run_pure]
  |cell x ty=>
   simp only at d ⊢;rw[d];simp only[Result.andThen_ok,g,Sem.run_pure]
 | [],_::_,h=>h.elim
 |_::_,[],h=>h.elim
theorem IV{P : Program}{n : Nat}{W0 : Cx}{g : Func}{R : Ending -> World -> Prop}{s : cA}{U : View}{σ : aH}(d : List ResultVar)(vs : List Value)(A : g.results.toList = d)(B : HU P s σ d vs)
  (h:∀W,Mem W0 U σ W->R (.returned (dD vs)) W):∀a W,pR n s a->Mem W0 U σ W->∃v,(results g a.tmps).run P W=.ok v W/\R (.returned v) W:=by
 intro a W r j;refine⟨dD vs,?_,h W j⟩;have k:=Xh (P:=P) r j d vs B;unfold results;rw[Array.mapM_eq_mapM_toList,A];have e:∀(f:ResultVar->Sem Value),(d.mapM f).run P W=.ok vs W->(do let us <-(List.toArray <$> d.mapM f);pure (if h:us.size=1 then us[0]else Value.tuple us):Sem Value).run P W=.ok (dD vs) W:=by
  intro f u;simp only[Sem.run_bind,map_eq_pure_bind,u,Result.andThen_ok,Sem.run_pure]
  match vs with
  | []=>rfl
  | [v]=>rfl
  |_::_::_=>rfl
 exact e _ k
theorem BM{P : Program}{n : Nat}{W0 : Cx}{d : Func}{R : Ending -> World -> Prop}{s : cA}{U : View}{σ : aH}(a : List ResultVar)(vs : List Value)(f : d.results.toList = a)(g : HU P s σ a vs)
  (h:∀W,Mem W0 U σ W->R (.returned (dD vs)) W):Sk P n W0 d R .ret s U σ:=IV a vs f g h
inductive Sp where
 |val (v:Value)
 |blk (vf:Nat->Value) (o:Obj)
def oP(ops:Array Oper)(ds:List Nat)(vs:List Sp)(i:Nat):cA:=(List.range ds.length).filterMap λj=>match cH .any ops i j,vs[j]? with
 |true,some (.val v)=>some (ds.getD j 0,v)
 |_,_=>none
def Ds(W:World)(v:Value):Sp->Prop
 | .val u=>v=u
 | .blk vf o=>∃g,v=vf g/\W.heap[g]? =some o
def Nz:List Nat->List Sp->cA
 |d::ds,.val v::vs=>(d,v)::Nz ds vs
 |_::ds,.blk _ _::vs=>Nz ds vs
 |_,_=>[]
theorem MU:∀(ds:List Nat) (vs:List Sp) (t:Nat) (v:Value),(t,v)∈Nz ds vs->∃j:Nat,ds[j]? =some t/\vs[j]? =some (Sp.val v)
 | [],vs,t,v,h=>by simp[Nz]at h
 |d::ds,[],t,v,h=>by simp[Nz]at h
 |d::ds,.val u::vs,t,v,h=>by
  simp only[Nz,O6,N3]at h;rcases h with⟨rfl,rfl⟩|h
  ·exact⟨0,rfl,rfl⟩
  ·obtain⟨j,a,f⟩:=MU ds vs t v h;exact⟨j+1,by simpa using a,by simpa using f⟩
 |d::ds,.blk _ _::vs,t,v,h=>by
  simp only[Nz]at h;obtain⟨j,a,f⟩:=MU ds vs t v h;exact⟨j+1,by simpa using a,by simpa using f⟩
def Ek:List Nat->Nat->Bool
 | [],_=>false
 |d::r,t=>match Nat.beq d t with
  |true=>true
  |false=>Ek r t
def aV(s:cA)(ds:List Nat):cA:=s.filter λp=> !Ek ds p.1
theorem MQ:∀(ds:List Nat) (t:Nat),Ek ds t=true↔t∈ds
 | [],t=>by simp[Ek]
 |d::r,t=>by
  simp only[Ek];split
  ·next h=>
   have:=R3 h;simp[this]
  ·next h=>
   have a:¬t=d:=λe=>by subst e;simp at h
   rw[MQ r t,O6];exact⟨.inr,λh=>h.resolve_left a⟩
theorem eW:∀(a b:cA) (t:Nat) (v:Value),look (a++b) t=some v->look a t=some v\/(look a t=none/\look b t=some v)
 | [],b,t,v,h=>.inr ⟨rfl,h⟩
 |(d,u)::a,b,t,v,h=>by
  simp only[T9,look]at h ⊢;split at h
  ·exact .inl h
  ·exact eW a b t v h
theorem iT:∀(s:cA) (t:Nat) (v:Value),look s t=some v->(t,v)∈s
 | [],t,v,h=>by cases h
 |(d,u)::r,t,v,h=>by
  simp only[look]at h;split at h
  ·next a=>
   have:=R3 a;subst this;simp only[L0]at h;subst h;exact Q3 ..
  ·exact P3 _ (iT r t v h)
theorem fH:∀(s:cA) (ds:List Nat) (t:Nat) (v:Value),look (aV s ds) t=some v->t∉ds/\look s t=some v
 | [],_,_,_,h=>by cases h
 |(d,u)::r,ds,t,v,h=>by
  unfold aV at h;rw[U0]at h;split at h
  ·next a=>
   simp only[look]at h ⊢;split at h
   ·next f=>
    have:=R3 f;subst this;refine⟨λj=>?_,h⟩;rw[(MQ ds d).2 j]at a;cases a
   ·exact fH r ds t v h
  ·next a=>
   have g:=fH r ds t v h;refine⟨g.1,?_⟩;simp only[look];split
   ·next f=>
    have:=R3 f;subst this;exfalso;apply g.1;simp only[P1,Bool.not_eq_false]at a;exact(MQ ds d).1 a
   ·exact g.2
theorem gB:∀(r:List Nat) (k:Nat) (u:Nat->Value) (a:Act) (t:Nat),r.Nodup->(∀d∈r,d<a.tmps.size)->
  (∀j,r[j]? =some t->(fA r k u a).tmps[t]? =some (u (k+j)))/\(t∉r->(fA r k u a).tmps[t]? =a.tmps[t]?)/\(fA r k u a).tmps.size=a.tmps.size/\(fA r k u a).defers=a.defers
 | [],_,_,_,_,_,_=>⟨λj h=>by simp at h,λ_=>rfl,rfl,rfl⟩
 |d::r,k,u,a,t,hn,B=>by
  rw[bp]at hn;have f:(a.put (some d) (u k)).tmps.size=a.tmps.size:=by simp[Act.put]
  obtain⟨E,C,F,G⟩:=gB r (k+1) u (a.put (some d) (u k)) t hn.2 λe D=>by rw[f];exact B e (P3 _ D)
  refine⟨λj g=>?_,λA=>?_,?_,?_⟩
  ·cases j with
   |zero=>
    simp only[P5,L0]at g;subst g;simp only[fA];rw[C hn.1];simp only[Act.put,T6,if_true];rw[N1 (B d (Q3 ..))];rfl
   |succ j=>
    simp only[Q7]at g;simp only[fA];rw[E j g,show k+1+j=k+(j+1) by omega]
  ·simp only[O6,not_or]at A;simp only[fA];rw[C A.2];simp only[Act.put,T6];rw[M5 (λe=>A.1 e.symm)]
  ·simp only[fA];rw[F,f]
  ·simp only[fA];rw[G];rfl
theorem LQ{n : Nat}{s : cA}{a0 : Act}{ops : Array Oper}{ds : List Nat}{vs : List Sp}{u : Nat -> Value}{W : World}(i : Nat)(f : pR n s a0)(J : ds.Nodup)(G : ∀ d ∈ ds, d < n)
  (K:∀j,cH .any ops i j=true->∃q,vs[j]? =some q/\Ds W (u j) q):pR n (oP ops ds vs i++aV s ds) (fA ds 0 u a0):=by
 have k:=λt=>gB ds 0 u a0 t J (by rw[f.size];exact G)
 refine⟨by rw[(k 0).2.2.1,f.size],by rw[(k 0).2.2.2,f.defers],λt v L=>?_⟩;rcases eW _ _ _ _ L with h|⟨_,h⟩
 ·have D:=iT _ _ _ h;unfold oP at D;obtain⟨j,I,g⟩:=W3.1 D;have a:j<ds.length:=S4.1 I;split at g
  ·next x M N=>
   simp only[L0,N3]at g;obtain⟨A,B⟩:=g;have r:ds[j]? =some t:=by
    rw[K8 a,<-A];simp[List.getD,a]
   rw[(k t).1 j r,O0];obtain⟨q,C,hs⟩:=K j M;rw[N]at C;simp only[L0]at C;subst C;simp only[Ds]at hs;rw[hs,B]
  ·cases g
 ·obtain⟨E,F⟩:=fH _ _ _ _ h;rw[(k t).2.1 E];exact f.slots t v F
def DJ:World->World->Prop:=λW W'=>Below W.heap.size W W'
def IsV(vs:List Sp):Nat->Value->World->Prop:=λj v W=>∃q,vs[j]? =some q/\Ds W v q
theorem IsV.keep{vs:List Sp}{j:Nat}{v:Value}{W W':World}(h:DJ W W')(k:IsV vs j v W):IsV vs j v W':=by
 obtain⟨q,f,hs⟩:=k;refine⟨q,f,?_⟩;cases q with
 |val u=>exact hs
 |blk vf o=>
  obtain⟨g,d,a⟩:=hs;exact⟨g,d,by rw[Below.block h g (gQ a)];exact a⟩
structure Ob (P : Program) (n : Nat) (W0 : Cx) (U : View) (σ : aH) (ops : Array Oper) (ds : List Nat) (vs : List Sp) (s : cA) (i : Nat) : Prop where
 go:∀(a0:Act) (Q:Exit->Act->World->Prop),pR n s a0->ds.Nodup->(∀d∈ds,d<n)->CM P .any ops Q (Mem W0 U σ) DJ (IsV vs) ds a0 i
section
variable {P:Program} {n:Nat} {W0:Cx} {s:cA} {U:View} {σ:aH} {ops:Array Oper} {ds:List Nat} {vs:List Sp}
theorem Ob.op(i : Nat){o : Oper}(g : ops[i]? = some o)(q : Sp)(f : vs[i]? = some q)(F : dA ops (oP ops ds vs i ++ aV s ds) o = some true)
  (h:∀a W,pR n (oP ops ds vs i++aV s ds) a->Mem W0 U σ W->∀(Q:Exit->Act->World->Prop) (K:Act->World->Prop),(∀v W',Ds W' v q->Mem W0 U σ W'->Below W.heap.size W W'->K (a.put o.dst v) W')->o.wp P a W K Q):Ob P n W0 U σ ops ds vs s i:=by
 refine⟨λG Q A D C=>⟨λu W r E K k=>?_⟩⟩;have j:=LQ (u:=u) (W:=W) i A D C E;unfold wpOp;simp only[g,lT j F,if_true];left;refine h _ W j r Q K λv W' hs d B=>?_
 have:=k v W' d B ⟨q,f,hs⟩;rw[g]at this;exact this
theorem obQ(i:Nat){o:Oper}(j:ops[i]? =some o)(v:Value)(d:vs[i]? =some (.val v))(r:dA ops (oP ops ds vs i++aV s ds) o=some true)(k:quiet P (oP ops ds vs i++aV s ds) o=some v):Ob P n W0 U σ ops ds vs s i:=
 Ob.op i j _ d r λa W h g Q K f=>by
  unfold Oper.wp;rw[oY h k];exact f v W rfl g (Below.refl _ _)
theorem obS(i:Nat){o:Oper}(d:ops[i]? =some o)(a:vs[i]? =some (.val undef))(B:dA ops (oP ops ds vs i++aV s ds) o=some false):Ob P n W0 U σ ops ds vs s i:=by
 refine⟨λC Q h k j=>⟨λu W g A K f=>?_⟩⟩;have r:=LQ (u:=u) (W:=W) i h k j A;unfold wpOp;simp only[d,lT r B];have:=f undef W g (Below.refl _ _) ⟨_,a,rfl⟩;rw[d]at this;exact this
theorem obL(i k b m : Nat)(cs : List Value)(t : TypeId){o : Oper}(A : ops[i]? = some o)(v : Value)(h : vs[i]? = some (.val v))(B : σ[k]? = some (b, .cells cs.toArray t (0, 0)))(D : dA ops (oP ops ds vs i ++ aV s ds) o = some true)
  (d:reads P cs (oP ops ds vs i++aV s ds) o=some (v,List.replicate m (b,none))):Ob P n W0 U σ ops ds vs s i:=
 Ob.op i A _ h D λa W u j Q K r=>by
  unfold reads at d;split at d
  ·next g=>
   split at d
   ·next x E C=>
    simp only[L0,N3]at d;obtain⟨rfl,f⟩:=d;unfold Oper.wp;rw[gM u g,AG j B C f];exact r _ W rfl j (Below.refl _ _)
   ·cases d
  ·cases d
theorem obC(i : Nat)(f : FuncId)(d : Array Value){o : Oper}(B : ops[i]? = some o)(v : Value)(g : vs[i]? = some (.val v))(A : enters P (oP ops ds vs i ++ aV s ds) o = some (f, d))
  (u:∀W,Mem W0 U σ W->Calls P f d W λe W'=>e=.returned v/\Below W.heap.size W W') (C:dA ops (oP ops ds vs i++aV s ds) o=some true):Ob P n W0 U σ ops ds vs s i:=
 Ob.op i B _ g C λa W r h Q K k=>by
  unfold Oper.wp;rw[eU r A];refine(u W h).mono ?_;rintro _ W' ⟨rfl,j⟩;exact k v W' rfl (h.call j) j
theorem obU(i b f : Nat)(cs : List Value)(u : U.range b f cs)(h : TypeId)(x : Operand){o : Oper}(B : ops[i]? = some o)(ho : o.op = .load h x)(j : vs[i]? = some (.val (.agg cs.toArray)))(E : evS (oP ops ds vs i ++ aV s ds) x = some (.pointer (some ⟨b, f, none⟩)))(d : TypeDesc)(C : P.underlying h = some d)(g : d.isRow = true)(F : (P.info? h).map (·.size) = some cs.length)
  (D:dA ops (oP ops ds vs i++aV s ds) o=some true):Ob P n W0 U σ ops ds vs s i:=
 Ob.op i B _ j D λa W A k Q K r=>wp_load_mid h x ho b f (eH A E) cs d (View.range_of u k.view) C g F (r _ W rfl k (Below.refl _ _))
theorem obN(i:Nat){o:Oper}(k:ops[i]? =some o)(f:Nat->Value)(x:Obj)(d:vs[i]? =some (.blk f x))(hm:makes P (oP ops ds vs i++aV s ds) o=some (x,λr=>some (f r)))(u:dA ops (oP ops ds vs i++aV s ds) o=some true):Ob P n W0 U σ ops ds vs s i:=
 Ob.op i k _ d u λa W j h Q K g=>by
  unfold Oper.wp;rw[mN j hm];exact g _ _ ⟨W.heap.size,rfl,heap_alloc_last W x⟩ (h.call ((Below.refl _ _).alloc (O9 _) x)) ((Below.refl _ _).alloc (O9 _) x)
theorem obB(i j m : Nat){o : Oper}(hi : ops[i]? = some o)(v : Value)(V : vs[i]? = some (.val v))(B : Nat -> Value)(cs : List Value)(t : TypeId)(X : vs[j]? = some (.blk B (.cells cs.toArray t (0, 0))))(d : Nat)(E : ds[j]? = some d)(Y : cH .any ops i j = true)(hg : o.guard = none)
  (hq:∀g,reads P cs ((d,B g)::(oP ops ds vs i++aV s ds)) o=some (v,List.replicate m (g,none))):Ob P n W0 U σ ops ds vs s i:=by
 refine⟨λC Q ha hn hd=>⟨λu W hM hu K hK=>?_⟩⟩;have M:=LQ (u:=u) (W:=W) i ha hn hd hu;obtain⟨q,h,L⟩:=hu j Y;rw[X]at h;simp only[L0]at h;subst h;obtain⟨g,F,G⟩:=L;have f:=(gB ds 0 u C d hn (by rw[ha.size];exact hd)).1 j E;rw[O0]at f;have N:pR n ((d,B g)::(oP ops ds vs i++aV s ds)) (fA ds 0 u C):=⟨M.size,M.defers,λt v A=>by
  simp only[look]at A;split at A
  ·next hb=>
   have:=R3 hb;subst this;rw[f,F];exact A
  ·exact M.slots t v A⟩
 unfold wpOp;simp only[hi];have r:Region.wanted o (yielded ops (fA ds 0 u C).tmps)=true:=by simp[Region.wanted,hg]
 simp only[r,if_true];left;have a:=hq g;unfold reads at a;split at a
 ·next J=>
  split at a
  ·next x rs hp=>
   simp only[L0,N3]at a;obtain⟨rfl,D⟩:=a;unfold Oper.wp;rw[gM N J];have k:(execOp (ev ((d,B g)::(oP ops ds vs i++aV s ds))) o).run P W=.ok (.value x) W:=by
    refine SO hp W λc hc w hw=>?_
    have I:(c.block,match c.spot with|none=>none|some _=>some 0)∈List.replicate m (g,(none:Option Nat)):=by rw[<-D];exact S1.2 ⟨c,hc,rfl⟩
    have he:=(bf.1 I).2;simp only[N3]at he;obtain⟨Z,h2⟩:=he;have hs:c.spot=none:=by
     cases O:c.spot with
     |none=>rfl
     |some _=>rw[O]at h2;cases h2
    have:c=⟨g,c.off,none⟩:=by
     obtain⟨c1,c2,c3⟩:=c;simp only at Z hs ⊢;subst Z hs;rfl
    rw[this,cell_of_row _ _ _ _ _ _ G];simpa using hw
   rw[k];have:=hK x W hM (Below.refl _ _) ⟨_,V,rfl⟩;rw[hi]at this;exact this
  ·cases a
 ·cases a
def jV(ops:Array Oper)(k:Nat):Nat->Bool
 |0=>(Region.ready .any ops (firstM k ops.size)).isEmpty
 |f+1=>(match Region.ready .any ops (firstM k ops.size)with
  | [j]=>Nat.beq j k
  |_=>false)&&jV ops (k+1) f
theorem ZQ(k n:Nat):(firstM k n).setIfInBounds k true=firstM (k+1) n:=by
 apply bd;intro i;simp only[firstM,T6,List.size_toArray,O1,List.length_range,X7,T5];by_cases d:k=i
 ·subst d;simp only[if_true];by_cases a:k<n
  ·simp[a]
  ·simp[a]
 ·rw[M5 d];by_cases a:i<n
  ·simp only[List.getElem?_range a,U4];have:(i<k)=(i<k+1):=propext ⟨λh=>by omega,λh=>by omega⟩;simp only[this]
  ·rw[Z9 (by simp;omega)];rfl
theorem iC{Q:Exit->Act->World->Prop}:∀(f k:Nat) (a:Act) (W:World),k+f=ops.size->jV ops k f=true->wpList P ops Q (ops.toList.drop k) a W->wpAny P .any ops Q f (firstM k ops.size) a W
 |0,k,a,W,hk,hc,h=>by
  simp only[jV,List.isEmpty_iff]at hc;refine⟨hc,?_⟩;rw[R6 (by simp;omega)]at h;exact h
 |f+1,k,a,W,hk,hc,h=>by
  simp only[jV,L5]at hc;obtain⟨B,u⟩:=hc;have d:Region.ready .any ops (firstM k ops.size)=[k]:=by
   split at B
   ·next j F=>rw[F,R3 B]
   ·cases B
  refine⟨λg=>(by rw[d]at g;cases g),λi A=>?_⟩;rw[d]at A;simp only[O6,Q8,U2]at A;subst A;have r:i<ops.size:=by omega
  have ho:ops[i]? =some ops[i]:=bJ r;have E:ops.toList.drop i=ops[i]::ops.toList.drop (i+1):=by
   rw[R1 (by simpa using r)];simp
  rw[E]at h;rw[ZQ];unfold wpOp;simp only[ho];simp only[wpList]at h;have D:=λa W=>iC (Q:=Q) f (i+1) a W oW u
  split
  ·next C=>
   rw[N1 C]at h;exact h.imp (Oper.wp_mono D) id
  ·next C=>
   rw[M5 C]at h;exact D _ _ h
theorem Rh{id : Nat}{l : List Oper}{Q : XQ}(m f r : Nat)(ds : List Nat)(vs : List Sp)(hm : P.follows .mixedOrders = true)(G : l.length = m + f)(D : ds.length = m)
  (L:pI l.toArray ds=true) (F:nodupB ds=true) (M:(ds.all λd=>Nat.blt d n)=true) (k:fQ .any l.toArray m=true) (A:lP .any l.toArray m r=true) (g:jV l.toArray m f=true)
  (X:Go.Proofs.YtkoamlfiijcecaaGreatDoor.Steps (Ob P n W0 U σ l.toArray ds vs s) 0 m)
  (h:SXL P n W0 Q l.toArray (l.drop m) (Nz ds vs++aV s ds) U σ):SXC P n W0 Q (.region id l.toArray true) s U σ:=by
 refine⟨λa W B hM=>?_⟩;have Z:=jW F;have I:∀d∈ds,d<n:=λd I=>by have:=M7.1 M d I;simpa[Z5]using this
 refine tN m f r (Mem W0 U σ) ds (IsV vs) DJ hm (by simpa using G) D L F k A (λi v w w' h O=>O.keep h) hM.drew ?_ ?_
 ·have:∀(c i:Nat),Go.Proofs.YtkoamlfiijcecaaGreatDoor.Steps (Ob P n W0 U σ l.toArray ds vs s) i c->Go.Proofs.YtkoamlfiijcecaaGreatDoor.Steps (CM P .any l.toArray (up n W0 Q) (Mem W0 U σ) DJ (IsV vs) ds a) i c:=by
   intro c
   induction c with
   |zero=>intro i _;trivial
   |succ c ih=>intro i h;exact⟨h.1.go a _ B Z I,ih (i+1) h.2⟩
  exact this m 0 X
 ·intro u Y K O;refine iC f m _ Y (by simpa using G.symm) g ?_;have J:=λt=>gB ds 0 u a t Z (by rw[B.size];exact I)
  refine h.go _ Y ⟨by rw[(J 0).2.2.1,B.size],by rw[(J 0).2.2.2,B.defers],λt v C=>?_⟩ K;rcases eW _ _ _ _ C with C|⟨_,C⟩
  ·have E:=iT _ _ _ C;obtain⟨j,hd2,V⟩:=MU _ _ _ _ E;have a1:j<ds.length:=(L8.1 hd2).1;obtain⟨q,N,hs⟩:=O j oW;rw[V]at N;simp only[L0]at N;subst N;rw[(J t).1 j hd2,O0,hs]
  ·obtain⟨h1,h2⟩:=fH _ _ _ _ C;rw[(J t).2.1 h1];exact B.slots t v h2
end
end Go.Proofs.YtkoamlfiijcecaaGreatDoor.Sx
