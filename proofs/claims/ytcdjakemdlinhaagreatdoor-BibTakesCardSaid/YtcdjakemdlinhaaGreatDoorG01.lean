/-
  Several texts in one: Kr Frame Str Ext Arr Held Rel Sx Sx2 Sx3.
  Conditions: named at each.
-/
import Derived.KernelRfl
import Derived.Test.YtcdjakemdlinhaaGreatDoorRows
import Derived.WalkKit
import Derived.ProofKit
import Derived.OpenShut
import Derived.Outline
import Derived.WalkLawsBesides
import Derived.Lib.Hide
import Derived.WalkSpells
import Derived.Laws.RangeString
import Derived.Laws.Concat
import Derived.Lib.Strings
import Derived.Lib.ConvBytes
import Derived.WalkSmall
import Derived.Deep.QuietTactic
import Derived.BigQuiet
import Derived.Laws.BytesString
import Derived.Laws.Cells
import Derived.Deep.WholeRow
import Derived.Great.BuildSlice
import Derived.Deep.Cut
import Derived.Great.Walk
import Derived.StillTailTactics
import Derived.Deep.RegionLaw
import Derived.Deep.RegionHeld
import Derived.Deep.OwnRows
import Derived.Deep.MidRow
set_option maxHeartbeats 16000000
set_option linter.unusedSimpArgs false
set_option linter.unusedVariables false
set_option linter.unusedSectionVars false
set_option linter.defProp false
namespace Go.Proofs.YtcdjakemdlinhaaGreatDoor
def Aa:=@List.getElem?_eq_getElem
def Ab:=@Option.some.injEq
def Ac:=@List.length_append
def Ad:=@List.mem_of_getElem?
def Ae:=@Bool.and_eq_true
def Af:=@List.getElem?_eq_some_iff
def Ag:=@congrArg
def Ah:=@List.length_cons
def Ai:=@beq_eq_false_iff_ne
def Aj:=@List.append_nil
def Ak:=@decide_eq_true_eq
def Al:=@List.append_assoc
def Am:=@Prod.mk.injEq
def An:=@if_neg
def Ao:=@List.all_eq_true
def Ap:=@Nat.zero_le
def Aq:=@List.length_drop
def Ar:=@if_pos
def Au:=@of_decide_eq_false
def Av:=@Bool.false_eq_true
def Aw:=@Nat.zero_add
def Ax:=@Bool.eq_false_or_eq_true
def Ay:=@List.sublist_append_left
def Az:=@List.length_map
def Ba:=@decide_eq_false
def Bb:=@List.length_take
def Bc:=@List.forall_mem_cons
def Bd:=@List.length_nil
def Be:=@List.length_eq_zero_iff
def Bf:=@List.take_of_length_le
def Bg:=@Nat.le_refl
def Bh:=@List.mem_cons
def Bi:=@Bool.not_eq_true'
def Bj:=@of_decide_eq_true
def Bl:=@Bool.not_eq_false'
def Bm:=@List.getElem?_append_right
def Bn:=@Bool.false_ne_true
def Bo:=@List.getElem?_cons_zero
def Bp:=@List.getElem?_append_left
def Bq:=@bne_eq_false_iff_eq
def Br:=@List.map_append
def Bs:=@Option.some.inj
def Bt:=@List.mem_nil_iff
def Bu:=@List.flatMap_cons
def Bv:=@List.getElem?_cons_succ
def Bw:=@List.perm_append_comm
def Bx:=@List.drop_eq_getElem_cons
def By:=@List.Sublist.append
def Bz:=@List.flatMap_append
def Ca:=@Nat.eq_of_beq_eq_true
def Cb:=@bne_iff_ne
def Cc:=@decide_eq_true
def Cd:=@List.Sublist.refl
def Ce:=@List.mem_cons_of_mem
def Cf:=@List.map_cons
def Cg:=@Option.isSome_iff_exists
def Ch:=@List.nil_append
def Ci:=@List.take_add_one
def Cj:=@List.drop_of_length_le
def Ck:=@List.mem_cons_self
def Cl:=@List.mem_singleton
def Cm:=@List.mem_range
def Cn:=@List.take_append_drop
def Co:=@List.mem_map
def Cp:=@List.length_set
def Cq:=@List.getElem_map
def Cr:=@Int.toNat_natCast
def Cs:=@List.getElem?_map
def Ct:=@or_false
def Cu:=@Array.getElem?_setIfInBounds
def Cv:=@List.cons_append
def Cw:=@Nat.le_of_ble_eq_true
def Cy:=@beq_iff_eq
def Cz:=@Option.map_eq_some_iff
def Da:=@List.take_zero
def Db:=@Bool.eq_iff_iff
def Dc:=@Nat.sub_self
def Dd:=@List.mem_of_mem_drop
def De:=@List.drop_drop
def Df:=@Nat.add_zero
def Dg:=@Bool.or_eq_true
def Dh:=@List.mem_append
def Di:=@Option.map_some
def Dj:=@List.sublist_append_right
def Dk:=@List.mem_iff_getElem?
def Dl:=@decide_eq_decide
def Dm:=@List.all_cons
def Dn:=@Eq.trans
def Dp:=@List.drop_zero
def Dq:=@Nat.add_mul
def Dr:=@Nat.pow_le_pow_right
def Ds:=@decide_not
def Dt:=@Nat.add_assoc
def Du:=@List.flatMap_nil
def Dv:=@Nat.lt_of_lt_of_le
def Dw:=@List.Perm.append_left
def Dx:=@List.getElem?_toArray
def Dy:=@Bool.not_not
def Dz:=@List.map_nil
def Ea:=@List.mem_of_mem_take
def Eb:=@Nat.add_comm
def Ec:=@List.length_pos_iff
def Ed:=@List.take_succ_cons
def Ee:=@List.filter_cons
def Ef:=@List.map_toArray
def Eg:=@Nat.add_sub_cancel_left
def Eh:=@Option.not_isSome_iff_eq_none
def Ej:=@List.getElem?_drop
def Ek:=@List.getElem?_take
def El:=@Nat.le_trans
def Em:=@List.cons.injEq
def Eo:=@List.find?_cons
def Ep:=@Nat.min_eq_left
def Es:=@Array.getElem?_eq_some_iff
def Et:=@Int.tmod_eq_emod_of_nonneg
def Eu:=@List.drop_left
def Ev:=@List.getElem?_of_mem
def Ew:=@Nat.blt_eq
def Ex:=@List.drop_length
def Ey:=@List.take_length
def Ez:=@List.mem_or_eq_of_mem_set
def Fa:=@List.pairwise_iff_getElem
def Fb:=@List.drop_succ_cons
def Fc:=@Bool.false_or
def Fe:=@List.find?_eq_none
def Ff:=@List.drop_eq_nil_of_le
def Fg:=@List.getElem?_eq_none
def Fh:=@List.length_filter_le
def Fi:=@List.any_eq_true
def Fj:=@Nat.mod_eq_of_lt
def Fk:=@Bool.true_and
def Fl:=@and_true
def Fm:=@true_and
def Fo:=@List.all_append
def Fp:=@List.find?_some
def Fq:=@Array.getD_eq_getD_getElem?
def Fs:=@Nat.pow_succ
def Ft:=@Nat.zero_mul
def Fu:=@Array.getElem?_eq_getElem
def Fv:=@Nat.le_add_right
def Fw:=@Option.getD_some
def Fx:=@List.sublist_cons_self
def Fy:=@Nat.sub_zero
def Fz:=@List.foldl_cons
def Ga:=@List.mem_filter
def Gb:=@List.length_replicate
def Gc:=@List.singleton_append
def Gd:=@List.Perm.refl
def Ge:=@List.contains_eq_mem
def Gf:=@List.mem_append_left
def Gg:=@Bool.and_true
def Gh:=@List.any_cons
def Gi:=@List.take_nil
def Gj:=@Array.ext_getElem?
def Gk:=@Bool.true_eq_false
def Gl:=@List.mem_filterMap
def Gm:=@List.mem_replicate
def Gn:=@List.set_cons_succ
def Gq:=@List.set_cons_zero
def Gr:=@Nat.lt_of_le_of_lt
def Gs:=@Array.all_eq_true_iff_forall_mem
def Gt:=@List.getElem?_set
def Gu:=@List.map_set
def Gv:=@Nat.lt_trichotomy
def Gw:=@List.drop_append
def Gx:=@List.mem_flatMap
def Gy:=@List.take_append
def Gz:=@beq_self_eq_true
def Ha:=@List.append_inj
def Hc:=@List.map_const'
def Hd:=@List.nodup_cons
end Go.Proofs.YtcdjakemdlinhaaGreatDoor
namespace Go.Proofs.YtcdjakemdlinhaaGreatDoor
theorem kR{p:Prop}(h:p:=by kernel_rfl):p:=h
theorem kF.{u}{α:Sort u}{p:α→Prop}(h:∀x,p x:=by intro x;kernel_rfl):∀x,p x:=h
theorem eR.{u}{α:Sort u}{a b:α}(h:a=b:=by kernel_rfl):a=b:=h
theorem oA{p:Prop}(h:p:=by first|omega|(simp only[List.length_append,List.length_cons,List.length_nil];omega)):p:=h
theorem oW{p:Prop}(h:p:=by omega):p:=h
theorem nL{p:Prop}(h:p:=by first|exact Nat.zero_le _|exact Nat.le_refl _|assumption|omega|(simp only[List.length_append,List.length_cons,List.length_nil,List.length_drop,List.length_take];omega)):p:=h
theorem bQ.{u,v}:(∀{α:Sort u} {_:Decidable True} (t e:α),ite True t e=t)∧(∀{α:Sort u} {_:Decidable False} (t e:α),ite False t e=e)∧(∀{α:Type v} (a b:α),cond true a b=a)∧(∀{α:Type v} (a b:α),cond false a b=b):=⟨fun _ _=>if_true ..,fun _ _=>if_false ..,fun _ _=>rfl,fun _ _=>rfl⟩
end Go.Proofs.YtcdjakemdlinhaaGreatDoor
namespace Go.Proofs.YtcdjakemdlinhaaGreatDoor
open Go.ChangeShapes Go.WideShapes Go.ChangeAt Go.RowKit

theorem sB{H:Type}{enc:TypeId×Value→H}{P:Program}(y:laidOutB P=true){W W':World}(u:Below W.heap.size W W'):
  ∀{ts:List TypeId} {vs:List Value} {ds:List (DataW H)} {f:List MemPlace},(ts.all fun t=>P.readableRec t&&decide (t<P.types.size))=true→
   DataW.TrodAll enc P W 0 (fun _=>true) true ts vs ds f→(∀p∈f,p.block<W.heap.size)→
   DataW.TrodAll enc P W' 0 (fun b=>decide (b<W.heap.size)) true ts vs ds f
 | [],vs,ds,f,_,h,_=>by
  obtain⟨rfl,rfl,rfl⟩:=trodAll_nil h;exact trodAll_mk0
 |t::ts,vs,ds,f,A,h,c=>by
  obtain⟨v,D,d,B,p,q,rfl,rfl,rfl,C,a⟩:=trodAll_cons h;simp only[Dm,Ae,Ak]at A;obtain⟨⟨g,j⟩,k⟩:=A;exact trodAll_cons_mk (Below.trod y g j C u fun x r => c x (Gf _ r))
   (sB y u k a fun x r=>c x (List.mem_append_right _ r))

theorem aMk{H : Type}{enc : TypeId × Value → H}{P : Program}{f : Func}{s : ChangeSpec}{c k d : Bool}{W W' : World}{j : Array Value}{ds K : List (DataW H)}{a : List MemPlace}{tb : TypeId}
  (M:laidOutB P=true) (C:(f.params.toList.all fun t=>P.readableRec t&&decide (t<P.types.size))=true)
  (g:s.vars=[]) (O:f.resultTypes=#[tb]) (r:P.underlying tb=some .bool)
  (A:(s.fn H ds).results=[.lit (.bool true)]∧(s.fn H ds).args=ds∧(s.fn H ds).vars=[])
  (E:DataW.Whole enc P f.params.toList s.vars c W j.toList ds K a) (F:Below W.heap.size W W'):
  s.post enc P f c k d false W j (.bool true) W':=by
 have u:=E;have B:∀p∈a,p.block<W.heap.size:=fun p N=>u.lt p N
 obtain⟨p,q,L,D,rfl,_,_⟩:=E;rw[g]at D;obtain⟨rfl,rfl⟩:=trodVars_none D;obtain⟨G,I,J⟩:=A;refine⟨ds,[],_,[],p,[],u,?_,?_,?_,World.keptBut_mono (fun x y=>⟨y,?_⟩) (F.frame (· ∈_)),fun h=>by cases h⟩
 ·rw[Aj,G,O];exact trodAll_cons_mk (shut_bool r _) trodAll_mk0
 ·rw[Aj,I];exact sB M F C L fun x y=>B x (Gf _ y)
 ·rw[Aj,J,g];exact rfl
 ·exact Or.inr (Or.inl (by simpa using y))


def B(l:List UInt8):ByteArray:=⟨l.toArray⟩

theorem aRF(s:ByteArray):∃l,s=B l:=⟨s.data.toList,(Lib.mk_data s).symm⟩
@[go_sem] theorem rE (l:List UInt8):(B l).size=l.length:=by simp[B,ByteArray.size]
@[go_sem] theorem aA6 (l:List UInt8):(B l).toList=l:=by simp[B]
@[go_sem] theorem aQd (l:List UInt8):(B l).data.toList=l:=by simp[B]
@[go_sem] theorem aLl (l:List UInt8) (a b:Nat):(B l).extract a b=B ((l.drop a).take (b-a)):=by
 rw[Lib.extract_eq];simp[B]
@[go_sem] theorem aMZ (a b:List UInt8):B a++B b=B (a++b):=ByteArray.mk_append_mk a b
@[go_sem] theorem dQ (l:List UInt8) (a:Nat):(l.drop a).take (l.length-a)=l.drop a:=Bf (by simp)
theorem aMY{l:List UInt8}{i:Nat}(h:i<(B l).size):i<l.length:=by rwa[rE]at h
@[go_sem] theorem aQ0 (l:List UInt8) (i:Nat) (h:i<(B l).size):(B l)[i]'h=l[i]'(aMY h):=by
 simp only[B];rfl
theorem qJ{a b:Bool}(h:a=true↔b=true):Ending.returned (.bool a)=.returned (.bool b):=by rw[Db.2 h]
theorem aJA{k:IntKind}{a b:Int}(h:a=b):Ending.returned (.int k a)=.returned (.int k b):=by rw[h]
def pre(p l:List UInt8):Bool:=p.isPrefixOf l
def aOX(p l:List UInt8):List UInt8:=if pre p l then l.drop p.length else l
theorem aE2{p l:List UInt8}(h:pre p l=true):aOX p l=l.drop p.length:=by simp[aOX,h]
theorem aIE{p l:List UInt8}(h:pre p l=false):aOX p l=l:=by simp[aOX,h]
theorem rM(l p:List UInt8):(decide (p.length≤l.length)&&(l.take p.length==p))=pre p l:=Lib.hasPrefix_of_take l p
theorem aOf{p l:List UInt8}:pre p l=true↔∃r,l=p++r:=by
 unfold pre;rw[List.isPrefixOf_iff_prefix];exact⟨fun⟨r,h⟩=>⟨r,h.symm⟩,fun⟨r,h⟩=>⟨r,h.symm⟩⟩
theorem aCv{p l:List UInt8}(h:pre p l=true):p.length≤l.length:=by obtain⟨r,rfl⟩:=aOf.1 h;simp
theorem aQc{a b:List UInt8}:B a=B b↔a=b:=⟨fun h=>by rw[←aA6 a,h,aA6],fun h=>by rw[h]⟩
theorem aCZ{P:Program}(w:World)(c a e:TypeId)(l:List UInt8)(r:P.underlying c=some .string)(g:P.underlying a=some (.slice e))(j:P.underlying e=some (.int .u8)):
  ∃d f,(convert c a (.string (B l))).run P w=.ok (.slice (some ⟨w.heap.size,0,none⟩) l.length d) f∧l.length≤d∧Below w.heap.size w f∧f.heap.size=w.heap.size+1∧
   (∀i (h:i<l.length),f.cell? ⟨w.heap.size,i,none⟩=some (.int .u8 l[i].toNat))∧(∀i,i<l.length→f.frozen? ⟨w.heap.size,i,none⟩=false):=by
 refine⟨grownCap w (B l).size 0 e,Lib.bytesWorld w e (B l),?_,?_,⟨rfl,rfl,rfl,?_,fun k q=>Lib.bytesWorld_at_old w e (B l) k q⟩,Lib.bytesWorld_size w e (B l),?_,?_⟩
 ·rw[Lib.run_convert_string_bytes w c a e (B l) r g j,rE]
 ·rw[rE];exact(grownCap_ge w l.length 0 e)
 ·rw[Lib.bytesWorld_size];omega
 ·intro i h;rw[Lib.bytesWorld_cell w e (B l) i (by rw[rE];exact h),aQd];simp[List.getD,h]
 ·intro i h;simp[World.frozen?,Lib.bytesWorld_at_new,Lib.bytesCells,rE];omega

theorem bs{c b:Nat}{W a:World}(d:Below c W a)(h:b≤W.heap.size):b≤a.heap.size:=El h d.size

structure Xt where
 blocks:Array Obj
 draws:Nat
instance:Nonempty Xt:=⟨⟨#[],0⟩⟩
def ext(w:World)(u:Xt):World:={ w with heap:=w.heap++u.blocks,drawn:=u.draws }
def more(u:Xt):Nat:=u.blocks.size
def bump(u:Xt):Xt:=⟨u.blocks,u.draws+1⟩
def aQN(u:Xt)(n:Nat):Xt:=⟨u.blocks,u.draws+n⟩
theorem aKM(w:World)(u:Xt)(k:Nat)(h:k<w.heap.size):(ext w u).heap[k]? =w.heap[k]? :=by
 simp[ext,Array.getElem?_append,h]
@[go_sem] theorem aHh (w:World) (u:Xt):(ext w u).heap.size=w.heap.size+more u:=by simp[ext,more]
theorem aKN(w:World)(u:Xt):Below w.heap.size w (ext w u):=
 ⟨rfl,rfl,rfl,by rw[aHh];omega,fun k a=>aKM w u k a⟩
theorem Below.ext{B:Nat}{a w:World}(h:Below B a w)(c:B≤w.heap.size)(u:Xt):Below B a (ext w u):=h.trans ((aKN w u).mono c)
@[go_sem] theorem aJ7 (u:Xt):more (bump u)=more u:=rfl
@[go_sem] theorem aIf (u:Xt) (n:Nat):more (aQN u n)=more u:=rfl
attribute [go_sem] Option.some_or Option.none_or
attribute [simp] aHh aJ7 aIf


def aIV(k:IntKind)(l:List Nat):Array Value:=(l.map fun(n:Nat)=>Value.int k (n:Int)).toArray
theorem aJZ(k:IntKind){l:List Nat}{i:Nat}(h:i<l.length):(aIV k l)[i]? =some (.int k ((l.getD i 0:Nat):Int)):=by simp[aIV,h,List.getD]
theorem aMb(k:IntKind)(l:List Nat)(i v:Nat):(aIV k l).setIfInBounds i (.int k (v:Int))=aIV k (l.set i v):=by
 apply Gj;intro j;simp only[aIV,Cu,Dx,Cs,Gt,List.size_toArray,Az];by_cases h:i=j
 ·subst h;by_cases a:i<l.length<;>simp[a]
 ·simp[h]
def NB(l:List Nat):ByteArray:=B (l.map UInt8.ofNat)
theorem foldl_push : ∀ (a : List Nat) (s : List UInt8), (a.map fun n => ((n : Nat) : Int)).foldl (fun r n => r.push (UInt8.ofNat n.toNat)) (B s) = B (s ++ a.map UInt8.ofNat)
 | [],s=>by simp
 |n::a,s=>by
  have h:=foldl_push a (s++[UInt8.ofNat n]);have e:(B s).push (UInt8.ofNat n)=B (s++[UInt8.ofNat n]):=by
   simp[B,ByteArray.push]
  simp only[Cf,Fz,Cr,e,h,Al,Gc]
theorem aJp{P : Program}(W : World)(d c e : TypeId)(a : Addr)(n f : Nat)(l : List Nat)(D : P.underlying d = some (.slice e))(A : P.underlying e = some (.int .u8))(y : P.underlying c = some .string)
  (C:l.length=n) (h:∀i,i<n→W.cell? (a.add i)=some (.int .u8 ((l.getD i 0:Nat):Int))):(convert d c (.slice (some a) n f)).run P W=.ok (.string (NB l)) W:=by
 rw[run_convert_bytes_string W d c e _ _ _ D A y];have g:=run_loadCells_list (P:=P) (w:=W) a (l.map fun n=>Value.int .u8 ((n:Nat):Int)) (by
  intro j v k;simp only[Cs,Cz]at k;obtain⟨x,q,rfl⟩:=k;have E:j<l.length:=by
   have:=Af.1 q;exact this.1
  have:=h j oW;rw[this];simp[List.getD,q])
 rw[Az,C]at g;have r:=run_bytesToString (P:=P) W a n f (l.map fun n=>((n:Nat):Int)) (by rw[g,List.map_map];rfl);rw[r];have u:=foldl_push l [];rw[show(ByteArray.empty:ByteArray)=B []from rfl,u];rfl
theorem aIj{w:World}{o:Obj}:w.heap.size<(w.alloc o).heap.size:=by
 show w.heap.size<(w.heap.push o).size;simp
def aCa(f : Nat → Nat)(l : List Nat) : Nat → List Nat
 |0=>l
 |n+1=>(aCa f l n).set n (f n)
theorem jQ(f : Nat → Nat)(l : List Nat) : ∀ n, (aCa f l n).length = l.length
 |0=>rfl
 |n+1=>by simp[aCa,jQ f l n]
theorem aMw(l:List Nat)(i j v:Nat)(h:i<l.length):(l.set i v).getD j 0=if j=i then v else l.getD j 0:=by
 by_cases e:j=i
 ·subst e;simp[List.getD,h]
 ·simp[List.getD,Ne.symm e,e]
theorem aES(f : Nat → Nat)(l : List Nat)(k : Nat) : ∀ n, n ≤ l.length → (aCa f l n).getD k 0 = if k < n then f k else l.getD k 0
 |0,_=>by simp[aCa]
 |n+1,h=>by
  show((aCa f l n).set n (f n)).getD k 0=_;rw[aMw _ _ _ _ (by rw[jQ];omega),aES f l k n oW];by_cases e:k=n
  ·subst e;simp
  ·rw[An e];by_cases a:k<n
   ·rw[Ar a,Ar oW]
   ·rw[An a,An oW]
theorem aMj{a b:List Nat}(f:a.length=b.length)(h:∀k,k<a.length→a.getD k 0=b.getD k 0):a=b:=by
 apply List.ext_getElem f;intro k c d;have:=h k c;simpa[List.getD,c,d]using this
def tab(f:Nat→Nat)(n:Nat):List Nat:=(List.range n).map f
theorem aCi(f:Nat→Nat)(n:Nat):(tab f n).length=n:=by simp[tab]
theorem aNN(f:Nat→Nat)(n k:Nat)(h:k<n):(tab f n).getD k 0=f k:=by simp[tab,List.getD,h]
theorem aKI(f:Nat→Nat)(l:List Nat):aCa f l l.length=tab f l.length:=by
 apply aMj (by rw[jQ,aCi]);intro k a;rw[jQ]at a;rw[aES f l k _ (Bg _),Ar a,aNN f _ k a]
theorem aIy(f:Nat→Nat){l:List Nat}{n:Nat}(h:l.length=n):aCa f l n=tab f n:=by subst h;exact aKI f l
end Go.Proofs.YtcdjakemdlinhaaGreatDoor
namespace Go.Proofs.YtcdjakemdlinhaaGreatDoor
open Go.ChangeShapes Go.WideShapes Go.ChangeAt Go.RowKit Go.Deep
section
variable {P:Program} {ops:Array Oper} {Q:Exit→Act→World→Prop} {md:Region.Mode} {S:World→Prop}
end
def eO : List Tmp → Nat → (Nat → Value) → Act → Act
 | [],_,_,a=>a
 |d::r,i,u,a=>eO r (i+1) u (a.put (some d) (u i))
theorem aOd(a:Act)(d:Tmp)(v c:Value):(a.put (some d) v).put (some d) c=a.put (some d) c:=by
 simp[Act.put]
theorem aL2(a:Act)(d e:Tmp)(v c:Value)(h:d≠e):(a.put (some d) v).put (some e) c=(a.put (some e) c).put (some d) v:=by
 simp only[Act.put,Act.mk.injEq,Fl];exact Array.setIfInBounds_comm _ _ h
theorem aEU : ∀ (r : List Tmp) (k : Nat) (u : Nat → Value) (a : Act) (d : Tmp) (v : Value), d ∉ r → (eO r k u a).put (some d) v = eO r k u (a.put (some d) v)
 | [],_,_,_,_,_,_=>rfl
 |e::r,k,u,a,d,v,h=>by
  simp only[Bh,not_or]at h;rw[eO,eO,aEU r (k+1) u _ d v h.2,aL2 _ _ _ _ _ (fun c=>h.1 c.symm)]
theorem rQ : ∀ (r : List Tmp) (k : Nat) (u c : Nat → Value) (a : Act), (∀ j, k ≤ j → u j = c j) → eO r k u a = eO r k c a
 | [],_,_,_,_,_=>rfl
 |e::r,k,u,c,a,h=>by
  rw[eO,eO,h k (Bg _),rQ r (k+1) u c _ fun j d=>h j oW]
theorem aET : ∀ (r : List Tmp) (k : Nat) (u : Nat → Value) (a : Act) (i : Nat) (d : Tmp) (v : Value), r.Nodup → r[i]? = some d → (eO r k u a).put (some d) v = eO r k (fun j => if j = k + i then v else u j) a
 | [],_,_,_,_,_,_,_,h=>by simp at h
 |e::r,k,u,a,i,d,v,hn,h=>by
  rw[Hd]at hn;cases i with
  |zero=>
   simp only[Bo,Ab]at h;subst h;rw[eO,eO,aEU r _ _ _ _ _ hn.1,aOd];simp only[Df,if_true];exact rQ r _ _ _ _ fun j c=>by rw[An oW]
  |succ i=>
   simp only[Bv]at h;rw[eO,eO,aET r (k+1) u _ i d v hn.2 h,An oW];exact rQ r _ _ _ _ fun j c=>by simp only[show k+1+i=k+(i+1) by omega]
theorem aL3(a:Act)(d:Tmp):a.put (some d) (a.tmps.getD d undef)=a:=by
 obtain⟨t,f⟩:=a;simp only[Act.put,Act.mk.injEq,Fl];apply Gj;intro i;simp only[Cu];by_cases h:d=i
 ·subst h;by_cases c:d<t.size
  ·simp[c]
  ·simp[c]
 ·simp[h]
theorem aCT : ∀ (r : List Tmp) (k : Nat) (u : Nat → Value) (a : Act), (∀ j, j < r.length → u (k + j) = a.tmps.getD (r.getD j 0) undef) → eO r k u a = a
 | [],_,_,_,_=>rfl
 |d::r,k,u,a,h=>by
  have c:u k=a.tmps.getD d undef:=h 0 (by simp);rw[eO,c,aL3];refine aCT r (k+1) u a fun j f=>?_
  have:=h (j+1) (by simp;omega);rw[show k+1+j=k+(j+1) by omega,this];rfl
def cJ(md:Region.Mode)(ops:Array Oper)(i j:Nat):Bool:=((ops[i]?).map fun o=>o.after.toList.any fun e=>Region.binds md e&&(e.on==j)).getD false
def fI(md:Region.Mode)(ops:Array Oper)(m:Nat):Bool:=(List.range m).all fun i=>((ops[i]?).map fun o=>o.after.toList.all fun e=> !Region.binds md e||decide (e.on<i)).getD false
def aOB(md : Region.Mode)(ops : Array Oper) : Nat → List Nat → List Nat
 |0,l=>l
 |r+1,l=>aOB md ops r ((List.range ops.size).filter fun j=>l.contains j||l.any fun k=>cJ md ops k j)
def lM(md:Region.Mode)(ops:Array Oper)(m r:Nat):Bool:=(List.range ops.size).all fun i=>decide (i<m)||(List.range m).all fun j=>(aOB md ops r ((List.range ops.size).filter fun j=>cJ md ops i j)).contains j
theorem aAE{md : Region.Mode}{ops : Array Oper}{p : Nat → Prop}(d : ∀ i, p i → ∀ j, cJ md ops i j = true → p j) : ∀ (r : Nat) (l : List Nat), (∀ j ∈ l, p j) → ∀ j ∈ aOB md ops r l, p j
 |0,_,h,j,c=>h j c
 |r+1,l,h,j,c=>by
  refine aAE d r _ (fun k a=>?_) j c;simp only[Ga,Dg,Ge,Ak,Fi]at a;rcases a.2 with a|⟨i,f,hw⟩
  ·exact h k a
  ·exact d i (h i f) k hw
def oJ(ops:Array Oper)(ds:List Tmp):Bool:=(List.range ds.length).all fun i=>decide ((ops[i]?).bind (·.dst)=ds[i]?)
def nodupB : List Tmp → Bool
 | []=>true
 |d::r=> !r.contains d&&nodupB r
theorem lH : ∀ {r : List Tmp}, nodupB r = true → r.Nodup
 | [],_=>List.nodup_nil
 |d::r,h=>by
  simp only[nodupB,Ae,Bi,Ge,decide_eq_false_iff_not]at h;exact Hd.2 ⟨h.1,lH h.2⟩
def firstM(m n:Nat):Array Bool:=((List.range n).map fun i=>decide (i<m)).toArray
def Steps(f : Nat → Prop) : Nat → Nat → Prop
 |_,0=>True
 |i,n+1=>f i∧Steps f (i+1) n
theorem Steps.get{f : Nat → Prop} : ∀ {n i : Nat}, Steps f i n → ∀ j, i ≤ j → j < i + n → f j
 |0,_,_,j,a,c=>by omega
 |n+1,i,h,j,a,c=>by
  by_cases d:j=i
  ·subst d;exact h.1
  ·exact h.2.get j oW oW
theorem exists_least{p:Nat→Prop}(h:∃n,p n):∃n,p n∧∀j,j<n→¬p j:=by
 obtain⟨n,f⟩:=h
 induction n using Nat.strongRecOn with
 |_ n ih=>
  by_cases d:∃j,j<n∧p j
  ·obtain⟨j,a,c⟩:=d;exact ih j a c
  ·exact⟨n,f,fun j a c=>d ⟨j,a,c⟩⟩
def aBL(ops:Array Oper)(ds:List Tmp):Bool:=(List.range ds.length).all fun i=>decide ((ops[i]?).bind (·.dst)=ds[i]?)||decide ((ops[i]?).bind (·.dst)=none)
section
variable {P:Program} {ops:Array Oper} {Q:Exit→Act→World→Prop} {md:Region.Mode} {S:World→Prop}
structure aAo (P : Program) (md : Region.Mode) (ops : Array Oper) (Q : Exit → Act → World → Prop) (S : World → Prop) (E : World → World → Prop) (V : Nat → Value → World → Prop) (ds : List Tmp) (a0 : Act) (i : Nat) : Prop where
 step:∀(u:Nat→Value) (w:World),S w→(∀j,cJ md ops i j=true→V j (u j) w)→
  ∀K:Act→World→Prop,(∀v w',S w'→E w w'→V i v w'→K ((eO ds 0 u a0).put ((ops[i]?).bind (·.dst)) v) w')→wpOp P ops Q i K (eO ds 0 u a0) w
theorem aCf(m : Nat){fuel r : Nat}(ds : List Tmp)(Inv : (Nat → Bool) → (Nat → Value) → World → Prop){a0 : Act}{w0 : World}
  (c6:ds.length=m) (X:aBL ops ds=true) (c2:nodupB ds=true) (c1:decide (m≤ops.size)=true) (q:fI md ops m=true) (A:lM md ops m r=true)
  (hS:∀u,Inv (fun _=>false) u w0)
  (Z:∀i,i<m→∀(L:Nat→Bool) (u:Nat→Value) (w:World),Inv L u w→L i=false→(∀j,cJ md ops i j=true→L j=true∧j<m)→(∀k j,L k=true→cJ md ops k j=true→L j=true)→
   ∀K:Act→World→Prop,(∀v w',Inv (fun j=>if j=i then true else L j) (fun j=>if j=i then(if((ops[i]?).bind (·.dst)).isSome then v else u i)else u j) w'→K ((eO ds 0 u a0).put ((ops[i]?).bind (·.dst)) v) w')→wpOp P ops Q i K (eO ds 0 u a0) w)
  (b6:∀L u w,Inv L u w→(∀i,i<m→L i=true)→wpAny P md ops Q fuel (firstM m ops.size) (eO ds 0 u a0) w):
  wpAny P md ops Q (m+fuel) (Array.replicate ops.size false) a0 w0:=by
 have c7:m≤ops.size:=by simpa using c1
 have b5:∀(d:List Nat) (a:Array Bool) (L:Nat→Bool) (u:Nat→Value) (w:World),d.Nodup→(∀i,i∈d↔i<m∧a.getD i false=false)→a.size=ops.size→(∀i,m≤i→a.getD i false=false)→(∀i,a.getD i false=true→∀j,cJ md ops i j=true→a.getD j false=true)→
   (∀i,a.getD i false=L i)→Inv L u w→wpAny P md ops Q (d.length+fuel) a (eO ds 0 u a0) w:=by
  intro d;generalize C:d.length=k
  induction k generalizing d with
  |zero=>
   intro a L u w hn c J F E O hI;obtain rfl:=Be.1 C;have M:∀i,i<m→a.getD i false=true:=fun i x=>by
    cases h:a.getD i false with
    |true=>rfl
    |false=>have:=(c i).2 ⟨x,h⟩;cases this
   have hl:a=firstM m ops.size:=by
    apply Array.ext
    ·simp[firstM,J]
    ·intro i h1 N;have e:a.getD i false=a[i]:=by simp[Array.getD,h1]
     simp only[firstM,List.getElem_toArray,Cq,List.getElem_range];rw[←e];by_cases x:i<m
     ·rw[M i x,Cc x]
     ·rw[F i oW,Ba x]
   have V:∀i,i<m→a.getD i false=true:=M;have c0:∀i,a.getD i false=a.getD i false:=fun _=>rfl
   rw[hl,Aw];exact b6 L u w hI fun i x=>by rw[←O i,←c0 i];exact V i x
  |succ k ih=>
   intro a L u w hn c J F E O hI;have b3:d≠[]:=by intro h;rw[h]at C;cases C
   have a6:∀i,i<ops.size→a.getD i true=a.getD i false:=fun i x=>by simp[Array.getD,J,x]
   have G:∀i∈Region.ready md ops a,i<m∧i∈d∧∀j,cJ md ops i j=true→a.getD j false=true:=by
    intro i x;obtain⟨h1,o,ho,b8⟩:=mem_ready.1 x;have a8:i<ops.size:=(Es.1 ho).1;have B:∀j,cJ md ops i j=true→a.getD j false=true:=by
     intro j f;simp only[cJ,ho,Di,Fw,Fi,Ae,Cy]at f;obtain⟨e,he,hb,c4⟩:=f;have:=b8 e (by simpa using he) hb;rw[c4]at this;exact this
    have y:i<m:=by
     by_cases h:i<m
     ·exact h
     ·exfalso;unfold lM at A;rw[Ao]at A;have N:=A i (Cm.2 a8);rw[Ba h,Fc,Ao]at N;obtain⟨j,f⟩:=List.exists_mem_of_ne_nil d b3;have D:=(c j).1 f;have h4:=N j (Cm.2 D.1);rw[Ge,Ak]at h4;have:=aAE (p:=fun k=>a.getD k false=true) E r _ (fun k C=>B k (by
       rw[Ga]at C;exact C.2)) j h4
      simp only[D.2]at this;cases this
    exact⟨y,(c i).2 ⟨y,by rw[←a6 i a8];exact h1⟩,B⟩
   rw[show k+1+fuel=k+fuel+1 by omega];refine⟨fun b4=>?_,fun i x=>?_⟩
   ·exfalso;obtain⟨i,x,b2⟩:=exists_least (List.exists_mem_of_ne_nil d b3);have y:=(c i).1 x;have:i∈Region.ready md ops a:=by
     refine mem_ready.2 ⟨by rw[a6 i oW];exact y.2,ops[i]'oW,Fu oW,fun e he hb=>?_⟩;unfold fI at q;rw[Ao]at q;have N:=q i (Cm.2 y.1);rw[Fu (show i<ops.size by omega)]at N;simp only[Di,Fw,Ao,Dg,Bi,Ak]at N;have D:=N e (by simpa using he);have h4:e.on<i:=by
      rcases D with D|D
      ·rw[hb]at D;cases D
      ·exact D
     cases h5:a.getD e.on false with
     |true=>rfl
     |false=>exact absurd ((c e.on).2 ⟨by omega,h5⟩) (b2 e.on h4)
    rw[b4]at this;cases this
   ·obtain⟨y,a7,B⟩:=G i x;refine Z i y L u w hI (by rw[←O];exact((c i).1 a7).2) (fun j f=>⟨by rw[←O];exact B j f,?_⟩) (fun k j C f=>by rw[←O];exact E k (by rw[O];exact C) j f) _ fun v w' b7=>?_
    ·have hl:=B j f;by_cases h:j<m
     ·exact h
     ·rw[F j oW]at hl;cases hl
    ·have hd:(ops[i]?).bind (·.dst)=ds[i]? ∨(ops[i]?).bind (·.dst)=none:=by
      unfold aBL at X;rw[Ao]at X;simpa using X i (Cm.2 oW)
     have a1:ds[i]? =some (ds[i]'oW):=Aa oW;have Y:(eO ds 0 u a0).put ((ops[i]?).bind (·.dst)) v=eO ds 0 (fun j=>if j=i then(if((ops[i]?).bind (·.dst)).isSome then v else u i)else u j) a0:=by
      rcases hd with hd|hd
      ·rw[hd,a1,aET ds 0 u a0 i _ v (lH c2) a1,Aw];rfl
      ·rw[hd];have he:(fun j=>if j=i then(if(Option.isSome (none:Option Tmp))then v else u i)else u j)=u:=by
        funext j;split
        ·next e=>rw[e];rfl
        ·rfl
       rw[he];rfl
     rw[Y];have g:∀j,(a.setIfInBounds i true).getD j false=if j=i then true else a.getD j false:=by
      intro j;simp only[Fq,Cu];by_cases f:j=i
      ·subst f;have b9:j<a.size:=by omega
       simp[b9]
      ·rw[An (fun h=>f h.symm),An f]
     refine ih (d.erase i) (by rw[List.length_erase_of_mem a7,C];rfl) _ _ _ w' (hn.erase i) (fun j=>?_) (by simp[J]) (fun j f=>?_) (fun k C j f=>?_) (fun j=>by rw[g j,O j]) b7
     ·rw[hn.mem_erase_iff,c j,g j];by_cases f:j=i
      ·subst f;simp
      ·simp[f]
     ·rw[g j,An oW];exact F j f
     ·rw[g j];by_cases b0:j=i
      ·rw[Ar b0]
      ·rw[An b0];by_cases b1:k=i
       ·subst b1;exact B j f
       ·rw[g k,An b1]at C;exact E k C j f
 have I:∀i,(Array.replicate ops.size false).getD i false=false:=fun i=>by
  simp only[Fq,Array.getElem?_replicate];split<;>rfl
 have h:=b5 (List.range m) (Array.replicate ops.size false) (fun _=>false) (fun j=>a0.tmps.getD (ds.getD j 0) undef) w0 List.nodup_range (fun i=>by
   rw[Cm];simp[I i]) (by simp) (fun i _=>I i) (fun i h=>by rw[I i]at h;cases h) I (hS _)
 rw[aCT ds 0 _ a0 (fun j f=>by rw[Aw]),List.length_range]at h;exact h
theorem aD1(m : Nat){fuel r : Nat}(ds : List Tmp)(Inv : (Nat → Bool) → (Nat → Value) → World → Prop){a0 : Act}{w0 : World}
  (h:ds.length=m) (a:oJ ops ds=true) (A:nodupB ds=true) (y:decide (m≤ops.size)=true) (c:fI md ops m=true) (d:lM md ops m r=true)
  (G:∀u,Inv (fun _=>false) u w0)
  (f:∀i,i<m→∀(L:Nat→Bool) (u:Nat→Value) (w:World),Inv L u w→L i=false→(∀j,cJ md ops i j=true→L j=true∧j<m)→(∀k j,L k=true→cJ md ops k j=true→L j=true)→
   ∀K:Act→World→Prop,(∀v q,Inv (fun j=>if j=i then true else L j) (fun j=>if j=i then v else u j) q→K ((eO ds 0 u a0).put ((ops[i]?).bind (·.dst)) v) q)→wpOp P ops Q i K (eO ds 0 u a0) w)
  (x:∀L u w,Inv L u w→(∀i,i<m→L i=true)→wpAny P md ops Q fuel (firstM m ops.size) (eO ds 0 u a0) w):
  wpAny P md ops Q (m+fuel) (Array.replicate ops.size false) a0 w0:=by
 have I:∀i,i<m→(ops[i]?).bind (·.dst)=ds[i]? :=fun i g=>by
  unfold oJ at a;rw[Ao]at a;simpa using a i (Cm.2 oW)
 refine aCf m ds Inv h ?_ A y c d G (fun i g L u w D F B C K E=>f i g L u w D F B C K fun v q J=>E v q ?_) x
 ·unfold oJ at a;rw[Ao]at a;unfold aBL;rw[Ao];intro i g;rw[a i g,Bool.true_or]
 ·rw[Ar (by rw[I i g,Aa oW];rfl)];exact J
theorem aIX(m : Nat){fuel r : Nat}(ds : List Tmp)(V : Nat → Value → World → Prop)(E : World → World → Prop){a0 : Act}{w0 : World}
  (q:ds.length=m) (C:oJ ops ds=true) (G:nodupB ds=true) (F:decide (m≤ops.size)=true) (a:fI md ops m=true) (c:lM md ops m r=true)
  (O:∀i v w g,E w g→V i v w→V i v g) (N:S w0)
  (d:Steps (aAo P md ops Q S E V ds a0) 0 m)
  (y:∀u w,S w→(∀i,i<m→V i (u i) w)→wpAny P md ops Q fuel (firstM m ops.size) (eO ds 0 u a0) w):
  wpAny P md ops Q (m+fuel) (Array.replicate ops.size false) a0 w0:=by
 refine aD1 m ds (fun L u w=>S w∧∀i,i<m→L i=true→V i (u i) w) q C G F a c (fun u=>⟨N,fun i _ h=>by cases h⟩) (fun i D L u w f _ I _ K M=>?_) fun L u w f A=>y u w f.1 fun i D=>f.2 i D (A i D)
 refine(d.get i (Ap _) oW).step u w f.1 (fun j x=>f.2 j (I j x).2 (I j x).1) K fun v g B J X=>M v g ⟨B,fun j x A=>?_⟩
 show V j (if j=i then v else u j) g;split
 ·next e=>rw[e];exact X
 ·next e=>
  have k:(if j=i then true else L j)=true:=A;rw[An e]at k;exact O j _ w g J (f.2 j x k)
theorem rY{B : Nat}(m fuel r : Nat)(S : World → Prop)(ds : List Tmp)(V : Nat → Value → World → Prop)(E : World → World → Prop){a0 : Act}{w : World}
  (hm:P.follows .mixedOrders=true) (q:ops.size=m+fuel)
  (f:ds.length=m) (j:oJ ops ds=true) (k:nodupB ds=true) (a:fI .any ops m=true) (c:lM .any ops m r=true)
  (A:∀i v w x,E w x→V i v w→V i v x) (y:S w.drew)
  (d:Steps (aAo P .any ops Q S E V ds a0) 0 m)
  (g:∀u w,S w→(∀i,i<m→V i (u i) w)→wpAny P .any ops Q fuel (firstM m ops.size) (eO ds 0 u a0) w):(Code.region B ops true).wp P Q a0 w:=by
 refine wp_region_any hm ?_;have h:=aIX (md:=.any) m ds V E (w0:=w.drew) f j k (Cc oW) a c A y d g;rw[←q]at h;exact h
end
end Go.Proofs.YtcdjakemdlinhaaGreatDoor
namespace Go.Proofs.YtcdjakemdlinhaaGreatDoor.Sx
open Go.ChangeShapes Go.WideShapes Go.ChangeAt Go.RowKit Go.Deep
abbrev aZ:=List (Nat×Value)
abbrev View:=Addr→Option Value
abbrev aN:=List (Nat×Obj)
def look : aZ → Nat → Option Value
 | [],_=>none
 |(d,v)::r,t=>match Nat.beq d t with
  |true=>some v
  |false=>look r t
def evS(s : aZ) : Operand → Option Value
 | .tmp t=>look s t
 | .const v=>some v
 | .global g=>some (.pointer (some ⟨g,0,none⟩))
 | .func f=>some (.func (.func f) #[] #[])
def ev(s:aZ)(x:Operand):Value:=(evS s x).getD undef
structure pL (n : Nat) (s : aZ) (a : Act) : Prop where
 size:a.tmps.size=n
 defers:a.defers=[]
 slots:∀t v,look s t=some v→a.tmps[t]? =some v
structure Cx where
 w:World
 u:View
structure Mem (W0 : Cx) (U : View) (σ : aN) (W : World) : Prop where
 below:Below W0.w.heap.size W0.w W
 old:∀a v,U a=some v→a.block<W0.w.heap.size→W0.u a=some v
 view:∀a v,U a=some v→W.cell? a=some v
 own:∀(k b:Nat) (o:Obj),σ[k]? =some (b,o)→W.heap[b]? =some o∧W0.w.heap.size≤b∧∀a,a.block=b→U a=none
 apart:∀(j k:Nat) (x y:Nat×Obj),σ[j]? =some x→σ[k]? =some y→x.1=y.1→j=k
theorem gP{W:World}{b:Nat}{o:Obj}(h:W.heap[b]? =some o):b<W.heap.size:=(Es.1 h).1
theorem pF{W:World}{a:Addr}{v:Value}(h:W.cell? a=some v):a.block<W.heap.size:=W.block_lt_of_cell? _ h
theorem Mem.call{W0:Cx}{W W':World}{U:View}{σ:aN}(h:Mem W0 U σ W)(c:Below W.heap.size W W'):Mem W0 U σ W':=by
 obtain⟨d,g,j,q,r⟩:=h;refine⟨d.trans (c.mono d.size),g,fun a v x=>?_,fun k b o u=>?_,r⟩
 ·have:=j a v x;rw[c.cell (pF this)];exact this
 ·obtain⟨f,y,A⟩:=q k b o u;exact⟨by rw[c.block b (gP f)];exact f,y,A⟩
theorem Mem.drew{W0:Cx}{W:World}{U:View}{σ:aN}(h:Mem W0 U σ W):Mem W0 U σ W.drew:=h.call ((Below.refl _ _).drew)
theorem Mem.alloc{W0:Cx}{W:World}{U:View}{σ:aN}(h:Mem W0 U σ W)(o:Obj):Mem W0 U (σ++[(W.heap.size,o)]) (W.alloc o):=by
 have r:=h.call (W':=W.alloc o) ((Below.refl _ _).alloc (Bg _) o);have A:=h.below.size;have C:∀a:Addr,a.block=W.heap.size→U a=none:=by
  intro a G;cases F:U a with
  |none=>rfl
  |some v=>have:=pF (h.view a v F);omega
 have q:∀(k:Nat) (x:Nat×Obj),σ[k]? =some x→x.1<W.heap.size:=fun k x c=>gP (h.own k x.1 x.2 c).1
 refine⟨r.below,r.old,r.view,fun k b x c=>?_,fun j k x y D c e=>?_⟩
 ·rw[List.getElem?_append]at c;split at c
  ·exact r.own k b x c
  ·next u=>
   have:k=σ.length:=by
    have:=(Af.1 c).1;simp at this;omega
   subst this;simp only[Dc,Bo,Ab,Am]at c;obtain⟨rfl,rfl⟩:=c;exact⟨by show(W.heap.push _)[_]? =_;simp,A,C⟩
 ·have key:∀(i:Nat) (z:Nat×Obj),(σ++[(W.heap.size,o)])[i]? =some z→(i<σ.length∧σ[i]? =some z)∨(i=σ.length∧z=(W.heap.size,o)):=by
   intro i z d;rw[List.getElem?_append]at d;split at d
   ·next E=>exact .inl ⟨E,d⟩
   ·next u=>
    have B:i=σ.length:=by
     have:=(Af.1 d).1;simp at this;omega
    subst B;simp only[Dc,Bo,Ab]at d;exact .inr ⟨rfl,d.symm⟩
  rcases key j x D with⟨_,f⟩|⟨rfl,rfl⟩<;>rcases key k y c with⟨_,g⟩|⟨rfl,rfl⟩
  ·exact h.apart j k x y f g e
  ·have:=q j x f;simp only at e;omega
  ·have:=q k y g;simp only at e;omega
  ·rfl
theorem Mem.set{W0 : Cx}{W W' : World}{U : View}{σ : aN}(h : Mem W0 U σ W)(k b : Nat)(o N : Obj)(D : σ[k]? = some (b, o))(F : W'.os = W.os)(G : W'.tape = W.tape)(u : W'.output = W.output)(V : W'.heap.size = W.heap.size)
  (B:W'.heap[b]? =some N) (d:∀i,i≠b→W'.heap[i]? =W.heap[i]?):Mem W0 U (σ.set k (b,N)) W':=by
 obtain⟨hb,C,q⟩:=h.own k b o D;refine⟨h.below.trans ⟨F,G,u,by omega,fun i f=>d i oW⟩,h.old,fun a v I=>?_,fun j c x g=>?_,fun i j x y f g e=>?_⟩
 ·have A:=h.view a v I;have E:a.block≠b:=fun e=>by rw[q a e]at I;cases I
  unfold World.cell? at A ⊢;rw[d _ E];exact A
 ·rw[Gt]at g;split at g
  ·next r=>
   subst r;split at g
   ·simp only[Ab,Am]at g;obtain⟨rfl,rfl⟩:=g;exact⟨B,C,q⟩
   ·cases g
  ·next r=>
   obtain⟨X,Y,Z⟩:=h.own j c x g;refine⟨?_,Y,Z⟩;rw[d c ?_]
   ·exact X
   ·intro e;exact r (h.apart k j _ _ D g e.symm)
 ·have key:∀(i:Nat) (z:Nat×Obj),(σ.set k (b,N))[i]? =some z→∃O,σ[i]? =some O∧O.1=z.1:=by
   intro i z f;rw[Gt]at f;split at f
   ·next r=>
    subst r;split at f
    ·simp only[Ab]at f;subst f;exact⟨_,D,rfl⟩
    ·cases f
   ·exact⟨z,f,rfl⟩
  obtain⟨x',J,K⟩:=key i x f;obtain⟨y',L,M⟩:=key j y g;exact h.apart i j x' y' J L (by rw[K,M];exact e)
theorem Mem.grow{W0:Cx}{W:World}{U c:View}{σ:aN}(h:Mem W0 U σ W)(g:∀a v,c a=some v→a.block<W0.w.heap.size→W0.u a=some v)(j:∀a v,c a=some v→W.cell? a=some v)(f:∀(k b:Nat) (o:Obj),σ[k]? =some (b,o)→∀a,a.block=b→c a=none):Mem W0 c σ W:=
 ⟨h.below,g,j,fun k b o d=>⟨(h.own k b o d).1,(h.own k b o d).2.1,f k b o d⟩,h.apart⟩
theorem Mem.weak{W0:Cx}{W:World}{U d:View}{σ:aN}(h:Mem W0 U σ W)(f:∀a v,d a=some v→U a=some v):Mem W0 d σ W:=
 h.grow (fun a v c=>h.old a v (f a v c)) (fun a v c=>h.view a v (f a v c)) fun k b o j a g=>by
  cases c:d a with
  |none=>rfl
  |some v=>have:=(h.own k b o j).2.2 a g;rw[f a v c]at this;cases this
abbrev XQ:=Exit→aZ→View→aN→Prop
def up(n:Nat)(W0:Cx)(Q:XQ):Exit→Act→World→Prop:=fun e a W=>∃s U σ,pL n s a∧Mem W0 U σ W∧Q e s U σ
structure SXC (P : Program) (n : Nat) (W0 : Cx) (Q : XQ) (c : Code) (s : aZ) (U : View) (σ : aN) : Prop where
 go:∀a W,pL n s a→Mem W0 U σ W→c.wp P (up n W0 Q) a W
structure SXL (P : Program) (n : Nat) (W0 : Cx) (Q : XQ) (ops : Array Oper) (l : List Oper) (s : aZ) (U : View) (σ : aN) : Prop where
 go:∀a W,pL n s a→Mem W0 U σ W→wpList P ops (up n W0 Q) l a W
def aFm(k : aZ → View → aN → Prop)(Q : XQ) : XQ
 | .normal,s,U,σ=>k s U σ
 |e,s,U,σ=>Q e s U σ
def aNp(id : Nat)(Q : XQ) : XQ
 | .exit i,s,U,σ=>match Nat.beq i id with
  |true=>Q .normal s U σ
  |false=>Q (.exit i) s U σ
 |e,s,U,σ=>Q e s U σ
section
variable {P:Program} {n:Nat} {W0:Cx} {Q:XQ} {s:aZ} {U:View} {σ:aN}
theorem aJe{x y:Code}(h:SXC P n W0 (aFm (fun s U σ=>SXC P n W0 Q y s U σ) Q) x s U σ):SXC P n W0 Q (.seq x y) s U σ:=by
 refine⟨fun a W u r=>wp_seq (wp_mono (h.go a W u r) ?_)⟩;rintro e q k ⟨A,j,f,d,c,g⟩;cases e with
 |normal=>exact SXC.go g q k d c
 |_=>exact⟨A,j,f,d,c,g⟩
theorem aB{u:Nat}{c:Code}(h:SXC P n W0 (aNp u Q) c s U σ):SXC P n W0 Q (.block u c) s U σ:=by
 refine⟨fun a W y x=>wp_block (wp_mono (h.go a W y x) ?_)⟩;rintro e B A ⟨r,k,g,f,d,j⟩;cases e with
 |exit i=>
  simp only[aNp]at j;simp only[Exit.inBlock];split at j
  ·next q=>rw[Ar (Ca q)];exact⟨r,k,g,f,d,j⟩
  ·next q=>rw[An (fun e=>by subst e;simp at q)];exact⟨r,k,g,f,d,j⟩
 |_=>exact⟨r,k,g,f,d,j⟩
theorem aNQ(h:Q .normal s U σ):SXC P n W0 Q .skip s U σ:=⟨fun a W d c=>wp_skip ⟨s,U,σ,d,c,h⟩⟩
theorem aK{c:Nat}(h:Q (.exit c) s U σ):SXC P n W0 Q (.exit c) s U σ:=⟨fun a W f d=>wp_exit ⟨s,U,σ,f,d,h⟩⟩
theorem aA(h:Q .ret s U σ):SXC P n W0 Q .ret s U σ:=⟨fun a W d c=>wp_ret ⟨s,U,σ,d,c,h⟩⟩
theorem eG{a:Act}(c:pL n s a){x:Operand}{v:Value}(h:evS s x=some v):a.eval x=v:=by
 cases x with
 |tmp t=>
  have:=c.slots t v h;simp[Act.eval,this]
 |const u=>simpa[evS,Act.eval]using h
 |global g=>simpa[evS,Act.eval]using h
 |func f=>simpa[evS,Act.eval]using h
theorem aDk{c:Operand}{x y:Code}(t:Bool)(k:evS s c=some (.bool t))(g:t=true→SXC P n W0 Q x s U σ)(j:t=false→SXC P n W0 Q y s U σ):SXC P n W0 Q (.cond c x y) s U σ:=
 ⟨fun a W d f=>wp_cond_split (eG d k) (fun h=>(g h).go a W d f) (fun h=>(j h).go a W d f)⟩
theorem aGM{c:Operand}{x y:Code}(t:Bool)(h:evS s c=some (.bool t))(j:t=true)(f:SXC P n W0 Q x s U σ):SXC P n W0 Q (.cond c x y) s U σ:=by
 subst j;exact⟨fun a W d g=>wp_cond_true (eG d h) (f.go a W d g)⟩
theorem aGN{c:Operand}{x y:Code}(t:Bool)(h:evS s c=some (.bool t))(j:t=false)(f:SXC P n W0 Q y s U σ):SXC P n W0 Q (.cond c x y) s U σ:=by
 subst j;exact⟨fun a W d g=>wp_cond_false (eG d h) (f.go a W d g)⟩
theorem aNS{α : Type}{c : Code}(Sf : α → aZ)(Uf : α → View)(Of : α → aN)(j : α → Prop)(μ : α → Nat)(E : α)(h0 : j E)
  (hs:∀t v,look (Sf E) t=some v→look s t=some v) (hm:∀W,Mem W0 U σ W→Mem W0 (Uf E) (Of E) W)
  (round:∀x,j x→SXC P n W0 (aFm (fun s' V σ'=>∃r,j r∧μ r<μ x∧(∀t v,look (Sf r) t=some v→look s' t=some v)∧(∀W,Mem W0 V σ' W→Mem W0 (Uf r) (Of r) W)) Q) c (Sf x) (Uf x) (Of x)):
  SXC P n W0 Q (.loop c) s U σ:=by
 refine⟨fun a W C I=>?_⟩;have key:∀(m:Nat) (x:α),μ x=m→j x→∀a W,pL n (Sf x) a→Mem W0 (Uf x) (Of x) W→∀(b:Frame) (k:List Item) (cs:List Frame),∃e G F,up n W0 Q e G F∧Arrives P (lone (b.at a (.code c:: .inLoop c::k)) cs W) b k cs e G F:=by
  intro m
  induction m using Nat.strongRecOn with
  |_ m ih=>
   intro x hm hi a W C I b k cs;obtain⟨e,A,u,⟨D,B,h,f,g,q⟩,d⟩:=(round x hi).go a W C I b (.inLoop c::k) cs;cases e with
   |normal=>
    obtain⟨r,J,K,N,L⟩:=q;obtain⟨Z,Y,X,M,y⟩:=ih (μ r) (hm▸K) r rfl J A u ⟨f.size,f.defers,fun t v O=>f.slots t v (N t v O)⟩ (L u g) b k cs;exact⟨Z,Y,X,M,.of_steps (Steps.trans d (.one step_inLoop)) y⟩
   |exit id=>exact⟨_,A,u,⟨D,B,h,f,g,q⟩,.pass (x:=.inLoop c) rfl (fun _ _=>.inl (by simp)) d⟩
   |goto l=>exact⟨_,A,u,⟨D,B,h,f,g,q⟩,.pass (x:=.inLoop c) rfl (fun _ _=>.inl (by simp)) d⟩
   |ret=>exact⟨_,A,u,⟨D,B,h,f,g,q⟩,.pass (x:=.inLoop c) rfl (fun _ _=>.inl (by simp)) d⟩
   |panic ch=>exact⟨_,A,u,⟨D,B,h,f,g,q⟩,.pass (x:=.inLoop c) rfl (fun _ _=>.inl (by simp)) d⟩
   |outgrown=>exact⟨_,A,u,⟨D,B,h,f,g,q⟩,.pass (x:=.inLoop c) rfl (fun _ _=>.inl (by simp)) d⟩
 intro b k cs;obtain⟨e,G,F,q,d⟩:=key _ E rfl h0 a W ⟨C.size,C.defers,fun t v O=>C.slots t v (hs t v O)⟩ (hm W I) b k cs;exact⟨e,G,F,q,.of_steps (.one step_loop) d⟩
theorem aBd{ops:Array Oper}{l:List Oper}(c:View)(σ':aN)(hm:∀W,Mem W0 U σ W→Mem W0 c σ' W)(h:SXL P n W0 Q ops l s c σ'):SXL P n W0 Q ops l s U σ:=⟨fun a W f d=>h.go a W f (hm W d)⟩
theorem Mem.eqv{W0:Cx}{W:World}{U:View}{σ σ':aN}(e:σ=σ')(h:Mem W0 U σ W):Mem W0 U σ' W:=e▸h
theorem Mem.sub{W0:Cx}{W:World}{U:View}{σ σ':aN}(B:σ'.Sublist σ)(h:Mem W0 U σ W):Mem W0 U σ' W:=by
 obtain⟨D,C,E,F,G⟩:=h;have r:(σ.map Prod.fst).Nodup:=by
  refine Fa.2 fun i j f g I u=>?_
  rw[Az]at f g;rw[Cq,Cq]at u;have:=G i j _ _ (Aa f) (Aa g) u;omega
 have d:(σ'.map Prod.fst).Nodup:=(B.map Prod.fst).nodup r;refine⟨D,C,E,fun k b o q=>?_,fun j k x y g q e=>?_⟩
 ·have J:(b,o)∈σ:=B.subset (Ad q);obtain⟨i,f⟩:=Ev J;exact F i b o f
 ·have A:=Fa.1 d;obtain⟨a,rfl⟩:=Af.1 g;obtain⟨c,rfl⟩:=Af.1 q;rcases Gv j k with hl|hl|hl
  ·exact absurd (by rw[Cq,Cq];exact e) (A j k (by simpa using a) (by simpa using c) hl)
  ·exact hl
  ·exact absurd (by rw[Cq,Cq];exact e.symm) (A k j (by simpa using c) (by simpa using a) hl)
theorem aBc{f:Nat}{l:List Oper}(h:SXL P n W0 Q l.toArray l s U σ):SXC P n W0 Q (.region f l.toArray false) s U σ:=
 ⟨fun a W d c=>wp_region_lit (h.go a W d c)⟩
theorem aPg{ops:Array Oper}(h:Q .normal s U σ):SXL P n W0 Q ops [] s U σ:=⟨fun _ _ c a=>wpList_nil ⟨s,U,σ,c,a,h⟩⟩
def cU(ops:Array Oper)(s:aZ)(o:Oper):Option Bool:=match o.guard with
 |none=>some true
 |some (j,b)=>match(ops[j]?).bind (·.dst)with
  |some d=>match look s d with
   |some (.bool x)=>some (x==b)
   |some _=>some false
   |none=>none
  |none=>none
theorem lE{ops:Array Oper}{o:Oper}{a:Act}{b:Bool}(k:pL n s a)(h:cU ops s o=some b):Region.wanted o (yielded ops a.tmps)=b:=by
 unfold cU at h;unfold Region.wanted;cases g:o.guard with
 |none=>rw[g]at h;simpa using h
 |some jw=>
  obtain⟨j,w⟩:=jw;rw[g]at h;simp only at h ⊢;unfold yielded;cases f:(ops[j]?).bind (·.dst)with
  |none=>rw[f]at h;cases h
  |some d=>
   rw[f]at h;simp only at h;cases c:look s d with
   |none=>rw[c]at h;cases h
   |some v=>
    rw[c]at h;have q:=k.slots d v c;simp only[Option.bind_some,q];cases v with
    |bool x=>
     simp only[Ab]at h;subst h;cases x<;>cases w<;>rfl
    |_=>
     simp only[Ab]at h;subst h;rfl
theorem aOc{a:Act}{d:Nat}{v:Value}(c:pL n s a)(j:d<n):pL n ((d,v)::s) (a.put (some d) v):=by
 refine⟨by simp[Act.put,c.size],c.defers,fun t u f=>?_⟩;simp only[look]at f;simp only[Act.put,Cu];split at f
 ·next g=>
  have:=Ca g;subst this;rw[Ar rfl,Ar (by rw[c.size];exact j)];exact f
 ·next g=>
  have h:¬d=t:=fun e=>by subst e;simp at g
  rw[An h];exact c.slots t u f
def lT(o:Oper)(v:Value)(s:aZ):aZ:=match o.dst with
 |some d=>(d,v)::s
 |none=>s
def eX(n:Nat)(o:Oper):Bool:=match o.dst with
 |some d=>Nat.blt d n
 |none=>true
theorem eL{a:Act}{o:Oper}{v:Value}(c:pL n s a)(f:eX n o=true):pL n (lT o v s) (a.put o.dst v):=by
 unfold lT eX at *;cases h:o.dst with
 |none=>exact c
 |some d=>
  rw[h]at f;exact aOc c (by simpa[Ew]using f)
def pev(P : Program){α : Type} : Sem α → Option α
 | .pure a=>some a
 | .program k=>pev P (k P)
 | .mark _ k=>pev P k
 |_=>none
theorem aFX{α:Type}{e:Sem α}{x:α}(h:pev P e=some x)(w:World):e.run P w=.ok x w:=by
 induction e with
 |pure a=>simp only[pev,Ab]at h;subst h;rfl
 |program k ih=>exact ih P h
 |mark m k ih=>exact ih h
 |_=>cases h
def known(s:aZ)(o:Oper):Bool:=(match o.op with| .select _ _=>false|_=>true)&&o.op.operands.all fun x=>(evS s x).isSome
theorem fW{o:Oper}{a:Act}(d:pL n s a)(h:known s o=true):execOp a.eval o=execOp (ev s) o:=by
 unfold known at h;rw[Ae]at h;refine execOp_congr o (fun cs b e=>by rw[e]at h;cases h.1) fun x f=>?_
 have:=(Gs.1 h.2) x f;obtain⟨v,c⟩:=Cg.1 this;rw[eG d c,ev,c];rfl
def quiet(P:Program)(s:aZ)(o:Oper):Option Value:=match known s o with
 |true=>match pev P (execOp (ev s) o)with
  |some (.value v)=>some v
  |_=>none
 |false=>none
theorem mY{o:Oper}{a:Act}{v:Value}(c:pL n s a)(h:quiet P s o=some v)(w:World):(execOp a.eval o).run P w=.ok (.value v) w:=by
 unfold quiet at h;split at h
 ·next d=>
  rw[fW c d];split at h
  ·next u f=>
   simp only[Ab]at h;subst h;exact aFX f w
  ·cases h
 ·cases h
theorem qR : ∀ (ts : List Nat) (vs : List Value), (ts.map fun t => look s t) = vs.map some → ∀ t v, look (ts.zip vs) t = some v → look s t = some v
 | [],_,_,t,v,a=>by simp[look]at a
 |d::ts,[],_,t,v,a=>by simp[look]at a
 |d::ts,u::vs,c,t,v,a=>by
  simp only[Cf,Em]at c;simp only[List.zip_cons_cons,look]at a;split at a
  ·next f=>
   have g:=Ca f;subst g;rw[c.1];exact a
  ·exact qR ts vs c.2 t v a
theorem aDn{ops:Array Oper}{l:List Oper}(t:Nat)(x:Bool)(q:look s t=some (.bool x))(j:x=true→SXL P n W0 Q ops l ((t,.bool true)::s) U σ)(k:x=false→SXL P n W0 Q ops l ((t,.bool false)::s) U σ):SXL P n W0 Q ops l s U σ:=by
 refine⟨fun a W d g=>?_⟩;have h:=d.slots t _ q;cases x with
 |true=>
  refine(j rfl).go a W ⟨d.size,d.defers,fun u v c=>?_⟩ g;simp only[look]at c;split at c
  ·next f=>
   have:=Ca f;subst this;rw[h,c]
  ·exact d.slots u v c
 |false=>
  refine(k rfl).go a W ⟨d.size,d.defers,fun u v c=>?_⟩ g;simp only[look]at c;split at c
  ·next f=>
   have:=Ca f;subst this;rw[h,c]
  ·exact d.slots u v c
theorem aNU{ops:Array Oper}{l:List Oper}(t:Nat)(v f:Value)(q:look s t=some v)(k:v=f)(h:SXL P n W0 Q ops l ((t,f)::s) U σ):SXL P n W0 Q ops l s U σ:=by
 subst k;refine⟨fun a W c g=>h.go a W ⟨c.size,c.defers,fun u x d=>?_⟩ g⟩;simp only[look]at d;split at d
 ·next j=>
  have:=Ca j;subst this;rw[c.slots t _ q,d]
 ·exact c.slots u x d
end
section
variable {P:Program} {n:Nat} {W0:Cx} {Q:XQ} {s:aZ} {U:View} {σ:aN} {ops:Array Oper} {l:List Oper} {o:Oper}
theorem pN(u : eX n o = true)(r : cU ops s o = some true)
  (h:∀a W,pL n s a→Mem W0 U σ W→∀K:Act→World→Prop,(∀v W' s' c σ',SXL P n W0 Q ops l s' c σ'→pL n s' (a.put o.dst v)→Mem W0 c σ' W'→K (a.put o.dst v) W')→o.wp P a W K (up n W0 Q)):SXL P n W0 Q ops (o::l) s U σ:=by
 refine⟨fun a W d g=>wpList_step fun K f=>?_⟩;rw[Ar (lE d r)];exact h a W d g K fun v W' s' c σ' q k j=>f _ _ (q.go _ _ k j)
def pld(P : Program)(f : Addr → Option Value){α : Type} : Sem α → Option (α × List Addr)
 | .pure a=>some (a,[])
 | .program k=>pld P f (k P)
 | .mark _ k=>pld P f k
 | .load _ a k=>match f a with
  |some v=>match pld P f (k v)with
   |some (x,rs)=>some (x,a::rs)
   |none=>none
  |none=>none
 |_=>none
theorem aFV{f:Addr→Option Value}{α:Type}{e:Sem α}:∀{x:α} {d:List Addr},pld P f e=some (x,d)→∀(w:World),(∀a∈d,∀v,f a=some v→w.cell? a=some v)→e.run P w=.ok x w:=by
 induction e with
 |pure a=>intro x d h w _;simp only[pld,Ab,Am]at h;obtain⟨rfl,rfl⟩:=h;rfl
 |program k ih=>intro x d h w g;exact ih P h w g
 |mark m k ih=>intro x d h w g;exact ih h w g
 |load m a k ih=>
  intro x d h w g;simp only[pld]at h;split at h
  ·next v q=>
   split at h
   ·next y bs r=>
    simp only[Ab,Am]at h;obtain⟨rfl,rfl⟩:=h;simp only[Sem.run,g a (Ck ..) v q];exact ih v r w fun c j=>g c (Ce _ j)
   ·cases h
  ·cases h
 |_=>intro x d h;cases h
def reads(P:Program)(cs:List Value)(s:aZ)(o:Oper):Option (Value×List (Nat×Option Nat)):=match known s o with
 |true=>match pld P (fun a=>cs[a.off]?) (execOp (ev s) o)with
  |some (.value v,rs)=>some (v,rs.map fun a=>(a.block,match a.spot with|none=>none|some _=>some 0))
  |_=>none
 |false=>none
theorem aQF(k b m : Nat)(cs : List Value)(t : TypeId)(v : Value)(J : σ[k]? = some (b, .cells cs.toArray t (0, 0)))(d : reads P cs s o = some (v, List.replicate m (b, none)))(C : eX n o = true)(N : cU ops s o = some true)
  (h:SXL P n W0 Q ops l (lT o v s) U σ):SXL P n W0 Q ops (o::l) s U σ:=by
 refine pN C N fun a W B A K F=>?_
 unfold reads at d;split at d
 ·next j=>
  split at d
  ·next x Y L=>
   simp only[Ab,Am]at d;obtain⟨rfl,f⟩:=d;unfold Oper.wp;rw[fW B j,aFV L W fun c I u M=>?_]
   ·exact F _ _ _ _ _ h (eL B C) A
   ·have g:(c.block,match c.spot with|none=>none|some _=>some 0)∈List.replicate m (b,(none:Option Nat)):=by rw[←f];exact Co.2 ⟨c,I,rfl⟩
    have D:=(Gm.1 g).2;simp only[Am]at D;obtain⟨r,y⟩:=D;have E:c.spot=none:=by
     cases q:c.spot with
     |none=>rfl
     |some _=>rw[q]at y;cases y
    have G:=(A.own k b _ J).1;have:c=⟨b,c.off,none⟩:=by
     obtain⟨O,V,X⟩:=c;simp only at r E ⊢;subst r E;rfl
    rw[this,cell_of_row _ _ _ _ _ _ G];simpa using M
  ·cases d
 ·cases d
def View.range(U:View)(b o:Nat)(cs:List Value):Prop:=∀j v,cs[j]? =some v→U ⟨b,o+j,none⟩=some v
theorem View.range_of{U:View}{b o:Nat}{cs:List Value}(h:U.range b o cs){W:World}(c:∀a v,U a=some v→W.cell? a=some v):W.rangeAt b o cs:=fun j v d=>c _ _ (h j v d)
theorem aPh(b f : Nat)(cs : List Value)(u : U.range b f cs)(g : TypeId)(x : Operand)(A : o.op = .load g x)(D : evS s x = some (.pointer (some ⟨b, f, none⟩)))(d : TypeDesc)(B : P.underlying g = some d)(c : d.isRow = true)(y : (P.info? g).map (·.size) = some cs.length)
  (q:eX n o=true) (C:cU ops s o=some true) (h:SXL P n W0 Q ops l (lT o (.agg cs.toArray) s) U σ):SXL P n W0 Q ops (o::l) s U σ:=by
 refine pN q C fun a W k j K r=>?_
 refine wp_load_mid g x A b f (eG k D) cs d (View.range_of u j.view) B c y ?_;exact r _ _ _ _ _ h (eL k q) j
theorem aNT(b f : Nat)(v : Value)(y : U ⟨b, f, none⟩ = some v)(g : TypeId)(x : Operand)(B : o.op = .load g x)(E : evS s x = some (.pointer (some ⟨b, f, none⟩)))(d : TypeDesc)(C : P.underlying g = some d)(r : d.isRow = false)
  (q:eX n o=true) (D:cU ops s o=some true) (h:SXL P n W0 Q ops l (lT o v s) U σ):SXL P n W0 Q ops (o::l) s U σ:=by
 refine pN q D fun a W k j K u=>?_
 have A:=j.view _ _ y;have c:(isAgg g).run P W=.ok false W:=by
  unfold isAgg;rw[Sem.run_bind,run_underlying C W];cases d<;>simp_all
 unfold Oper.wp execOp;simp only[B,eG k E,Instr.loadAt,Instr.sureAddr,Sem.run_bind,Sem.run_pure,Result.andThen_ok,loadVar,c];simp only[Av,if_false,load,Sem.run,A,Result.andThen_ok];exact u _ _ _ _ _ h (eL k q) j
def cK(cs:List Value)(off:Nat)(vs:List Value):List Value:=cs.take off++vs++cs.drop (off+vs.length)
theorem gO(b:Nat):∀(vs:List Value) (a:Nat) (w:World) (cs:List Value) (t:TypeId),w.heap[b]? =some (.cells cs.toArray t (0,0))→a+vs.length≤cs.length→
  (w.setCells b a vs).heap[b]? =some (.cells (cK cs a vs).toArray t (0,0))∧(∀i,i≠b→(w.setCells b a vs).heap[i]? =w.heap[i]?)∧(w.setCells b a vs).heap.size=w.heap.size∧
  (w.setCells b a vs).os=w.os∧(w.setCells b a vs).tape=w.tape∧(w.setCells b a vs).output=w.output
 | [],a,w,cs,t,h,_=>by
  refine⟨?_,fun _ _=>rfl,rfl,rfl,rfl,rfl⟩;simp only[World.setCells,cK,Aj,Bd,Df,Cn];exact h
 |v::vs,a,w,cs,t,h,hl=>by
  simp only[Ah]at hl;have d:(w.setCell ⟨b,a,none⟩ v).heap[b]? =some (.cells (cs.set a v).toArray t (0,0)):=by
   simp[World.setCell,Array.getElem?_modify,h]
  obtain⟨g,j,k,q,r,u⟩:=gO b vs (a+1) (w.setCell ⟨b,a,none⟩ v) (cs.set a v) t d (by rw[Cp];omega);simp only[World.setCells];refine⟨?_,fun i c=>?_,?_,q,r,u⟩
  ·rw[g];congr 2;have e:cK (cs.set a v) (a+1) vs=cK cs a (v::vs):=by
    unfold cK;rw[Ah];have f:List.take (a+1) (cs.set a v)=cs.take a++[v]:=by
     rw[List.take_succ_eq_append_getElem (by rw[Cp];omega),List.getElem_set_self,List.take_set,List.set_eq_of_length_le (by rw[Bb];omega)]
    rw[f];simp only[Al,Gc];rw[List.drop_set,Ar oW,show a+1+vs.length=a+(vs.length+1) by omega]
   rw[e]
  ·rw[j i c];simp[World.setCell,Array.getElem?_modify,Ne.symm c]
  ·rw[k];simp[World.setCell]
theorem mM{b:Nat}{w:World}{cs:List Value}{t:TypeId}(h:w.heap[b]? =some (.cells cs.toArray t (0,0))){a m:Nat}(f:a+m≤cs.length):w.there b a m:=by
 intro j d;have c:w.cell? ⟨b,a+j,none⟩=cs[a+j]? :=by rw[cell_of_row _ _ _ _ _ _ h];simp
 refine⟨by rw[c,Aa oW];rfl,?_⟩;unfold World.frozen?;rw[h];simp
def rG(P:Program)(ty:TypeId)(v:Value)(m:Nat):Bool:=match(P.info? ty).map (·.size)with
 |some z=>Nat.beq z m&&Nat.beq v.cells.size m&&v.cells.all (·.oneCell')
 |none=>false
theorem aAr{w:World}{b a:Nat}{k:TypeId}{v:Value}{m:Nat}(r:w.there b a m)(c:rG P k v m=true):(storeVar k ⟨b,a,none⟩ v).run P w=.ok () (w.setCells b a v.cells.toList):=by
 unfold rG at c;split at c
 ·next z d=>
  simp only[Ae]at c;obtain⟨⟨f,q⟩,x⟩:=c;have f:=Ca f;have q:=Ca q;subst f;have := run_storeCells_cells (P := P) b a v.cells.toList 0 w (fun j g => by simpa using (r j (by simp at g; omega)).1) (fun j g => by simpa using (r j (by simp at g; omega)).2)
   (fun u A=>(Gs.1 x) u (by simpa using A))
  cases h:P.info? k with
  |none=>rw[h]at d;cases d
  |some i=>
   have y:v.cells.size=i.size:=by rw[h]at d;simp at d;omega
   simp only[Df]at this;simp[storeVar,sizeOf,typeInfo,h,y,this]
 ·cases c
theorem aNP(k b c m : Nat)(cs : List Value)(t A : TypeId)(v : Value)(x y : Operand)(D : o.op = .store A x y)(F : evS s x = some (.pointer (some ⟨b, c, none⟩)))(G : evS s y = some v)
  (u:σ[k]? =some (b,.cells cs.toArray t (0,0))) (d:rG P A v m=true) (C:Nat.ble (c+m) cs.length=true) (r:eX n o=true) (E:cU ops s o=some true)
  (h:SXL P n W0 Q ops l (lT o undef s) U (σ.set k (b,.cells (cK cs c v.cells.toList).toArray t (0,0)))):SXL P n W0 Q ops (o::l) s U σ:=by
 refine pN r E fun a W f j K B=>?_
 have q:=(j.own k b _ u).1;have g:c+m≤cs.length:=Cw C;have V:v.cells.toList.length=m:=by
  unfold rG at d;split at d
  ·simp only[Ae]at d;have:=Ca d.1.2;simpa using this
  ·cases d
 unfold Oper.wp execOp;simp only[D,eG f F,eG f G,Instr.storeAt,Instr.sureAddr,Sem.run_bind,Sem.run_pure,Result.andThen_ok,aAr (mM q g) d];obtain⟨I,J,L,M,N,O⟩:=gO b v.cells.toList c W cs t q oW;exact B _ _ _ _ _ h (eL f r) (j.set k b _ _ u M N O L I J)
def aPI(P : Program){α : Type} : Sem α → Option (Obj × (Nat → Option α))
 | .new o k=>some (o,fun r=>pev P (k r))
 | .program k=>aPI P (k P)
 | .mark _ k=>aPI P k
 |_=>none
theorem aL5{α:Type}{e:Sem α}:∀{x:Obj} {f:Nat→Option α} {v:Nat→α},aPI P e=some (x,f)→(∀r,f r=some (v r))→∀w:World,e.run P w=.ok (v w.heap.size) (w.alloc x):=by
 induction e with
 |new o k ih=>
  intro x f v h a w;simp only[aPI,Ab,Am]at h;obtain⟨rfl,rfl⟩:=h;simp only[Sem.run];exact aFX (a w.heap.size) _
 |program k ih=>intro x f v h a w;exact ih P h a w
 |mark m k ih=>intro x f v h a w;exact ih h a w
 |_=>intro x f v h;cases h
def makes(P:Program)(s:aZ)(o:Oper):Option (Obj×(Nat→Option Value)):=match known s o with
 |true=>match aPI P (execOp (ev s) o)with
  |some (x,f)=>some (x,fun r=>match f r with
   |some (.value v)=>some v
   |_=>none)
  |none=>none
 |false=>none
theorem oF{a:Act}{x:Obj}{v:Nat→Value}(g:pL n s a)(h:makes P s o=some (x,fun r=>some (v r)))(w:World):(execOp a.eval o).run P w=.ok (.value (v w.heap.size)) (w.alloc x):=by
 unfold makes at h;split at h
 ·next c=>
  rw[fW g c];split at h
  ·next y f j=>
   simp only[Ab,Am]at h;obtain⟨rfl,d⟩:=h;refine aL5 (v:=fun r=>.value (v r)) j (fun r=>?_) w;have:=congrFun d r;split at this
   ·next u k=>simp only[Ab]at this;rw[k,this]
   ·cases this
  ·cases h
 ·cases h
theorem aM8(x : Obj)(v : Nat → Value)(hm : makes P s o = some (x, fun r => some (v r)))(d : eX n o = true)(j : cU ops s o = some true)
  (h:∀b,SXL P n W0 Q ops l (lT o (v b) s) U (σ++[(b,x)])):SXL P n W0 Q ops (o::l) s U σ:=by
 refine pN d j fun a W c g K f=>?_
 unfold Oper.wp;rw[oF c hm];exact f _ _ _ _ _ (h W.heap.size) (eL c d) (g.alloc x)
def enters(P:Program)(s:aZ)(o:Oper):Option (FuncId×Array Value):=match known s o with
 |true=>match pev P (execOp (ev s) o)with
  |some (.enter f args)=>some (f,args)
  |_=>none
 |false=>none
theorem fE{a:Act}{f:FuncId}{c:Array Value}(j:pL n s a)(h:enters P s o=some (f,c))(w:World):(execOp a.eval o).run P w=.ok (.enter f c) w:=by
 unfold enters at h;split at h
 ·next d=>
  rw[fW j d];split at h
  ·next g q k=>
   simp only[Ab,Am]at h;obtain⟨rfl,rfl⟩:=h;exact aFX k w
  ·cases h
 ·cases h
theorem aAV(f : FuncId)(c : Array Value)(u : enters P s o = some (f, c))(j : eX n o = true)(y : cU ops s o = some true)
  (r:∀W,Mem W0 U σ W→Calls P f c W fun e W'=>∃v s' d σ',e=.returned v∧Mem W0 d σ' W'∧s'=lT o v s∧SXL P n W0 Q ops l s' d σ'):SXL P n W0 Q ops (o::l) s U σ:=by
 refine pN j y fun a W h q K k=>?_
 unfold Oper.wp;rw[fE h u];refine(r W q).mono ?_;rintro e W' ⟨v,s',d,σ',rfl,g,rfl,x⟩;exact k _ _ _ _ _ x (eL h j) g
theorem aFq(f : FuncId)(a : Array Value)(v : Value)(c : enters P s o = some (f, a))(j : ∀ W, Mem W0 U σ W → Calls P f a W fun e W' => e = .returned v ∧ Below W.heap.size W W')(k : eX n o = true)(q : cU ops s o = some true)
  (h:SXL P n W0 Q ops l (lT o v s) U σ):SXL P n W0 Q ops (o::l) s U σ:=
 aAV f a c k q fun W d=>(j W d).mono fun _ W' ⟨c,g⟩=>⟨v,_,U,σ,c,d.call g,rfl,h⟩
end
def aNr : Nat → List Value → aZ
 |_,[]=>[]
 |k,v::r=>(k,v)::aNr (k+1) r
theorem aBZ : ∀ (l : List Value) (k t : Nat) (v : Value), look (aNr k l) t = some v → k ≤ t ∧ l[t - k]? = some v
 | [],_,_,_,h=>by cases h
 |u::r,k,t,v,h=>by
  simp only[aNr,look]at h;split at h
  ·next a=>
   have:=Ca a;subst this;refine⟨Bg _,?_⟩;simpa using h
  ·next a=>
   obtain⟨d,c⟩:=aBZ r (k+1) t v h;refine⟨by omega,?_⟩;rw[show t-k=(t-(k+1))+1 by omega];simpa using c
def aLm(P : Program)(n : Nat)(W0 : Cx)(fn : Func)(R : Ending → World → Prop) : XQ
 | .normal,s,U,σ| .ret,s,U,σ=>∀a W,pL n s a→Mem W0 U σ W→∃v,(results fn a.tmps).run P W=.ok v W∧R (.returned v) W
 |_,_,_,_=>False
theorem aGL{P : Program}{f : FuncId}{q : Func}{c : Code}{d : List Value}{W : World}{R : Ending → World → Prop}(n : Nat)(U : View)(J : P.funcs[f]? = some q)(I : q.body = some c)(M : q.ntmps = n)(A : Nat.ble d.length n = true)(G : ∀ a v, U a = some v → W.cell? a = some v)
  (h:SXC P n ⟨W,U⟩ (aLm P n ⟨W,U⟩ q R) c (aNr 0 d) U []):Calls P f d.toArray W R:=by
 have F:d.length≤n:=Cw A;refine calls_of_wp J I (wp_mono (h.go _ W ⟨?_,rfl,fun t v N=>?_⟩ ⟨Below.refl _ _,fun _ _ h _=>h,G,fun k b o L=>by simp at L,fun j k x y K=>by simp at K⟩) ?_)
 ·simp[M];omega
 ·obtain⟨_,g⟩:=aBZ d 0 t v N;have B:t<d.length:=(Af.1 g).1;simp only[Fy]at g;rw[Array.getElem?_append_left (by simpa using B)];simpa using g
 ·rintro e a D ⟨s,O,σ,r,E,C⟩;cases e with
  |normal=>obtain⟨v,u,g⟩:=C a D r E;exact⟨r.defers,v,u,g⟩
  |ret=>obtain⟨v,u,g⟩:=C a D r E;exact⟨r.defers,v,u,g⟩
  |_=>exact C.elim
def aRk(rs:List Addr):List (Nat×Option Nat):=rs.map fun a=>(a.block,match a.spot with|none=>none|some _=>some 0)
def aPx(P:Program)(cs:List Value)(ty:TypeId)(a:Addr):Option (Value×List (Nat×Option Nat)):=match pld P (fun a=>cs[a.off]?) (loadVar ty a)with
 |some (v,rs)=>some (v,aRk rs)
 |none=>none
def aEh(P:Program)(σ:aN)(k:Nat)(s:aZ)(x:Nat)(ty:TypeId):Option (Value×List (Nat×Option Nat)×Nat):=match look s x,σ[k]? with
 |some (.pointer (some a)),some (b,.cells c _ (0,0))=>match aPx P c.toList ty a with
  |some (v,rs)=>some (v,rs,b)
  |none=>none
 |_,_=>none
def aDb(P : Program)(s : aZ)(σ : aN) : ResultVar → Value → Prop
 | .tmp t,v=>look s t=some v
 | .cell x ty,v=>∃(k b m:Nat),aEh P σ k s x ty=some (v,List.replicate m (b,none),b)
def aB2(P : Program)(s : aZ)(σ : aN) : List ResultVar → List Value → Prop
 | [],[]=>True
 |r::rs,v::vs=>aDb P s σ r v∧aB2 P s σ rs vs
 |_,_=>False
def dC : List Value → Value
 | [v]=>v
 |vs=>.tuple vs.toArray
theorem sJ{P : Program}{W0 : Cx}{W : World}{U : View}{σ : aN}(A : Mem W0 U σ W){k b m : Nat}{cs : List Value}{t : TypeId}(D : σ[k]? = some (b, .cells cs.toArray t (0, 0))){α : Type}{e : Sem α}{x : α}{y : List Addr}
  (E:pld P (fun a=>cs[a.off]?) e=some (x,y)) (d:(y.map fun a=>(a.block,match a.spot with|none=>(none:Option Nat)|some _=>some 0))=List.replicate m (b,none)):e.run P W=.ok x W:=by
 refine aFV E W fun c C u F=>?_
 have f:(c.block,match c.spot with|none=>none|some _=>some 0)∈List.replicate m (b,(none:Option Nat)):=by rw[←d];exact Co.2 ⟨c,C,rfl⟩
 have q:=(Gm.1 f).2;simp only[Am]at q;obtain⟨h,j⟩:=q;have r:c.spot=none:=by
  cases g:c.spot with
  |none=>rfl
  |some _=>rw[g]at j;cases j
 have B:=(A.own k b _ D).1;have:c=⟨b,c.off,none⟩:=by
  obtain⟨G,I,J⟩:=c;simp only at h r ⊢;subst h r;rfl
 rw[this,cell_of_row _ _ _ _ _ _ B];simpa using F
theorem aN4{P:Program}{n:Nat}{W0:Cx}{W:World}{s:aZ}{U:View}{σ:aN}{a:Act}(g:pL n s a)(q:Mem W0 U σ W):∀(r:ResultVar) (v:Value),aDb P s σ r v→
  (match r with|ResultVar.tmp t=>(pure (a.tmps.getD t undef):Sem Value)|ResultVar.cell x t=>do loadVar t (←asAddr (a.tmps.getD x undef))).run P W=.ok v W
 | .tmp t,v,h=>by
  have:=g.slots t v h;simp[this]
 | .cell x ty,v,⟨k,b,m,h⟩=>by
  unfold aEh at h;split at h
  ·next p D j t B A=>
   have:=g.slots x _ B;simp only[Fq,this,Fw,asAddr,Sem.run_bind,Sem.run_pure,Result.andThen_ok];unfold aPx at h;split at h
   ·next u E c=>
    simp only[Ab,Am]at h;obtain⟨rfl,f,rfl⟩:=h;split at c
    ·next y zs C=>
     simp only[Ab,Am]at c;obtain⟨rfl,d⟩:=c;rw[←d]at f;exact sJ q (cs:=j.toList) (by simpa using A) C f
    ·cases c
   ·cases h
  ·cases h
theorem aJB{P:Program}{n:Nat}{W0:Cx}{W:World}{s:aZ}{U:View}{σ:aN}{a:Act}(j:pL n s a)(g:Mem W0 U σ W):∀(d:List ResultVar) (vs:List Value),aB2 P s σ d vs→
  (d.mapM fun|ResultVar.tmp t=>(pure (a.tmps.getD t undef):Sem Value)|ResultVar.cell x t=>do loadVar t (←asAddr (a.tmps.getD x undef))).run P W=.ok vs W
 | [],[],_=>by simp
 |r::d,v::vs,⟨k,q⟩=>by
  simp only[List.mapM_cons,Sem.run_bind];have c:=aN4 (P:=P) j g r v k;have f:=aJB j g d vs q;cases r with
  |tmp t=>
   simp only at c ⊢;rw[c];simp only[Result.andThen_ok,f,Sem.run_pure]
  |cell x ty=>
   simp only at c ⊢;rw[c];simp only[Result.andThen_ok,f,Sem.run_pure]
 | [],_::_,h=>h.elim
 |_::_,[],h=>h.elim
theorem aCj{P : Program}{n : Nat}{W0 : Cx}{d : Func}{R : Ending → World → Prop}{s : aZ}{U : View}{σ : aN}(c : List ResultVar)(vs : List Value)(r : d.results.toList = c)(u : aB2 P s σ c vs)
  (h:∀W,Mem W0 U σ W→R (.returned (dC vs)) W):∀a W,pL n s a→Mem W0 U σ W→∃v,(results d a.tmps).run P W=.ok v W∧R (.returned v) W:=by
 intro a W k g;refine⟨dC vs,?_,h W g⟩;have j:=aJB (P:=P) k g c vs u;unfold results;rw[Array.mapM_eq_mapM_toList,r];have e:∀(f:ResultVar→Sem Value),(c.mapM f).run P W=.ok vs W→(do let us ←(List.toArray <$> c.mapM f);pure (if h:us.size=1 then us[0]else Value.tuple us):Sem Value).run P W=.ok (dC vs) W:=by
  intro f q;simp only[Sem.run_bind,map_eq_pure_bind,q,Result.andThen_ok,Sem.run_pure]
  match vs with
  | []=>rfl
  | [v]=>rfl
  |_::_::_=>rfl
 exact e _ j
theorem tP{P : Program}{n : Nat}{W0 : Cx}{c : Func}{R : Ending → World → Prop}{s : aZ}{U : View}{σ : aN}(a : List ResultVar)(vs : List Value)(d : c.results.toList = a)(f : aB2 P s σ a vs)
  (h:∀W,Mem W0 U σ W→R (.returned (dC vs)) W):aLm P n W0 c R .ret s U σ:=aCj a vs d f h
inductive Sp where
 |val (v:Value)
 |blk (vf:Nat→Value) (o:Obj)
def mQ(ops:Array Oper)(ds:List Nat)(vs:List Sp)(i:Nat):aZ:=(List.range ds.length).filterMap fun j=>match cJ .any ops i j,vs[j]? with
 |true,some (.val v)=>some (ds.getD j 0,v)
 |_,_=>none
def aQf(W : World)(v : Value) : Sp → Prop
 | .val u=>v=u
 | .blk vf o=>∃g,v=vf g∧W.heap[g]? =some o
def aMz : List Nat → List Sp → aZ
 |d::ds,.val v::vs=>(d,v)::aMz ds vs
 |_::ds,.blk _ _::vs=>aMz ds vs
 |_,_=>[]
theorem aDO : ∀ (ds : List Nat) (vs : List Sp) (t : Nat) (v : Value), (t, v) ∈ aMz ds vs → ∃ j : Nat, ds[j]? = some t ∧ vs[j]? = some (Sp.val v)
 | [],vs,t,v,h=>by simp[aMz]at h
 |d::ds,[],t,v,h=>by simp[aMz]at h
 |d::ds,.val u::vs,t,v,h=>by
  simp only[aMz,Bh,Am]at h;rcases h with⟨rfl,rfl⟩|h
  ·exact⟨0,rfl,rfl⟩
  ·obtain⟨j,a,c⟩:=aDO ds vs t v h;exact⟨j+1,by simpa using a,by simpa using c⟩
 |d::ds,.blk _ _::vs,t,v,h=>by
  simp only[aMz]at h;obtain⟨j,a,c⟩:=aDO ds vs t v h;exact⟨j+1,by simpa using a,by simpa using c⟩
def aPY : List Nat → Nat → Bool
 | [],_=>false
 |d::r,t=>match Nat.beq d t with
  |true=>true
  |false=>aPY r t
def aV(s:aZ)(ds:List Nat):aZ:=s.filter fun p=> !aPY ds p.1
theorem aDL : ∀ (ds : List Nat) (t : Nat), aPY ds t = true ↔ t ∈ ds
 | [],t=>by simp[aPY]
 |d::r,t=>by
  simp only[aPY];split
  ·next h=>
   have:=Ca h;simp[this]
  ·next h=>
   have a:¬t=d:=fun e=>by subst e;simp at h
   rw[aDL r t,Bh];exact⟨.inr,fun h=>h.resolve_left a⟩
theorem eV : ∀ (a b : aZ) (t : Nat) (v : Value), look (a ++ b) t = some v → look a t = some v ∨ (look a t = none ∧ look b t = some v)
 | [],b,t,v,h=>.inr ⟨rfl,h⟩
 |(d,u)::a,b,t,v,h=>by
  simp only[Cv,look]at h ⊢;split at h
  ·exact .inl h
  ·exact eV a b t v h
theorem iW : ∀ (s : aZ) (t : Nat) (v : Value), look s t = some v → (t, v) ∈ s
 | [],t,v,h=>by cases h
 |(d,u)::r,t,v,h=>by
  simp only[look]at h;split at h
  ·next a=>
   have:=Ca a;subst this;simp only[Ab]at h;subst h;exact Ck ..
  ·exact Ce _ (iW r t v h)
theorem fD : ∀ (s : aZ) (ds : List Nat) (t : Nat) (v : Value), look (aV s ds) t = some v → t ∉ ds ∧ look s t = some v
 | [],_,_,_,h=>by cases h
 |(d,u)::r,ds,t,v,h=>by
  unfold aV at h;rw[Ee]at h;split at h
  ·next a=>
   simp only[look]at h ⊢;split at h
   ·next c=>
    have:=Ca c;subst this;refine⟨fun g=>?_,h⟩;rw[(aDL ds d).2 g]at a;cases a
   ·exact fD r ds t v h
  ·next a=>
   have f:=fD r ds t v h;refine⟨f.1,?_⟩;simp only[look];split
   ·next c=>
    have:=Ca c;subst this;exfalso;apply f.1;simp only[Bi,Bool.not_eq_false]at a;exact(aDL ds d).1 a
   ·exact f.2
theorem fX:∀(r:List Nat) (k:Nat) (u:Nat→Value) (a:Act) (t:Nat),r.Nodup→(∀d∈r,d<a.tmps.size)→
  (∀j,r[j]? =some t→(eO r k u a).tmps[t]? =some (u (k+j)))∧(t∉r→(eO r k u a).tmps[t]? =a.tmps[t]?)∧(eO r k u a).tmps.size=a.tmps.size∧(eO r k u a).defers=a.defers
 | [],_,_,_,_,_,_=>⟨fun j h=>by simp at h,fun _=>rfl,rfl,rfl⟩
 |d::r,k,u,a,t,hn,q=>by
  rw[Hd]at hn;have c:(a.put (some d) (u k)).tmps.size=a.tmps.size:=by simp[Act.put]
  obtain⟨A,x,B,C⟩:=fX r (k+1) u (a.put (some d) (u k)) t hn.2 fun e y=>by rw[c];exact q e (Ce _ y)
  refine⟨fun j f=>?_,fun g=>?_,?_,?_⟩
  ·cases j with
   |zero=>
    simp only[Bo,Ab]at f;subst f;simp only[eO];rw[x hn.1];simp only[Act.put,Cu,if_true];rw[Ar (q d (Ck ..))];rfl
   |succ j=>
    simp only[Bv]at f;simp only[eO];rw[A j f,show k+1+j=k+(j+1) by omega]
  ·simp only[Bh,not_or]at g;simp only[eO];rw[x g.2];simp only[Act.put,Cu];rw[An (fun e=>g.1 e.symm)]
  ·simp only[eO];rw[B,c]
  ·simp only[eO];rw[C];rfl
theorem aDs{n : Nat}{s : aZ}{a0 : Act}{ops : Array Oper}{ds : List Nat}{vs : List Sp}{u : Nat → Value}{W : World}(i : Nat)(c : pL n s a0)(I : ds.Nodup)(F : ∀ d ∈ ds, d < n)
  (J:∀j,cJ .any ops i j=true→∃q,vs[j]? =some q∧aQf W (u j) q):pL n (mQ ops ds vs i++aV s ds) (eO ds 0 u a0):=by
 have g:=fun t=>fX ds 0 u a0 t I (by rw[c.size];exact F)
 refine⟨by rw[(g 0).2.2.1,c.size],by rw[(g 0).2.2.2,c.defers],fun t v K=>?_⟩;rcases eV _ _ _ _ K with h|⟨_,h⟩
 ·have B:=iW _ _ _ h;unfold mQ at B;obtain⟨j,G,f⟩:=Gl.1 B;have a:j<ds.length:=Cm.1 G;split at f
  ·next x L M=>
   simp only[Ab,Am]at f;obtain⟨r,y⟩:=f;have k:ds[j]? =some t:=by
    rw[Aa a,←r];simp[List.getD,a]
   rw[(g t).1 j k,Aw];obtain⟨q,A,C⟩:=J j L;rw[M]at A;simp only[Ab]at A;subst A;simp only[aQf]at C;rw[C,y]
  ·cases f
 ·obtain⟨D,E⟩:=fD _ _ _ _ h;rw[(g t).2.1 D];exact c.slots t v E
def aAJ:World→World→Prop:=fun W W'=>Below W.heap.size W W'
def IsV(vs:List Sp):Nat→Value→World→Prop:=fun j v W=>∃q,vs[j]? =some q∧aQf W v q
theorem IsV.keep{vs:List Sp}{j:Nat}{v:Value}{W W':World}(h:aAJ W W')(k:IsV vs j v W):IsV vs j v W':=by
 obtain⟨q,f,c⟩:=k;refine⟨q,f,?_⟩;cases q with
 |val u=>exact c
 |blk vf o=>
  obtain⟨g,d,a⟩:=c;exact⟨g,d,by rw[Below.block h g (gP a)];exact a⟩
structure Ob (P : Program) (n : Nat) (W0 : Cx) (U : View) (σ : aN) (ops : Array Oper) (ds : List Nat) (vs : List Sp) (s : aZ) (i : Nat) : Prop where
 go:∀(a0:Act) (Q:Exit→Act→World→Prop),pL n s a0→ds.Nodup→(∀d∈ds,d<n)→aAo P .any ops Q (Mem W0 U σ) aAJ (IsV vs) ds a0 i
section
variable {P:Program} {n:Nat} {W0:Cx} {s:aZ} {U:View} {σ:aN} {ops:Array Oper} {ds:List Nat} {vs:List Sp}
theorem Ob.op(i : Nat){o : Oper}(f : ops[i]? = some o)(q : Sp)(d : vs[i]? = some q)(D : cU ops (mQ ops ds vs i ++ aV s ds) o = some true)
  (h:∀a W,pL n (mQ ops ds vs i++aV s ds) a→Mem W0 U σ W→∀(Q:Exit→Act→World→Prop) (K:Act→World→Prop),(∀v W',aQf W' v q→Mem W0 U σ W'→Below W.heap.size W W'→K (a.put o.dst v) W')→o.wp P a W K Q):Ob P n W0 U σ ops ds vs s i:=by
 refine⟨fun E Q r A y=>⟨fun u W k C K j=>?_⟩⟩;have g:=aDs (u:=u) (W:=W) i r A y C;unfold wpOp;simp only[f,lE g D,if_true];left;refine h _ W g k Q K fun v W' B c x=>?_
 have:=j v W' c x ⟨q,d,B⟩;rw[f]at this;exact this
theorem obQ(i:Nat){o:Oper}(h:ops[i]? =some o)(v:Value)(c:vs[i]? =some (.val v))(k:cU ops (mQ ops ds vs i++aV s ds) o=some true)(j:quiet P (mQ ops ds vs i++aV s ds) o=some v):Ob P n W0 U σ ops ds vs s i:=
 Ob.op i h _ c k fun a W g f Q K d=>by
  unfold Oper.wp;rw[mY g j];exact d v W rfl f (Below.refl _ _)
theorem obS(i:Nat){o:Oper}(c:ops[i]? =some o)(a:vs[i]? =some (.val undef))(r:cU ops (mQ ops ds vs i++aV s ds) o=some false):Ob P n W0 U σ ops ds vs s i:=by
 refine⟨fun x Q g j h=>⟨fun u W f q K d=>?_⟩⟩;have k:=aDs (u:=u) (W:=W) i g j h q;unfold wpOp;simp only[c,lE k r];have:=d undef W f (Below.refl _ _) ⟨_,a,rfl⟩;rw[c]at this;exact this
theorem obL(i k b m : Nat)(cs : List Value)(t : TypeId){o : Oper}(r : ops[i]? = some o)(v : Value)(g : vs[i]? = some (.val v))(u : σ[k]? = some (b, .cells cs.toArray t (0, 0)))(A : cU ops (mQ ops ds vs i ++ aV s ds) o = some true)
  (c:reads P cs (mQ ops ds vs i++aV s ds) o=some (v,List.replicate m (b,none))):Ob P n W0 U σ ops ds vs s i:=
 Ob.op i r _ g A fun a W q h Q K j=>by
  unfold reads at c;split at c
  ·next f=>
   split at c
   ·next x B y=>
    simp only[Ab,Am]at c;obtain⟨rfl,d⟩:=c;unfold Oper.wp;rw[fW q f,sJ h u y d];exact j _ W rfl h (Below.refl _ _)
   ·cases c
  ·cases c
theorem obC(i : Nat)(f : FuncId)(c : Array Value){o : Oper}(u : ops[i]? = some o)(v : Value)(d : vs[i]? = some (.val v))(r : enters P (mQ ops ds vs i ++ aV s ds) o = some (f, c))
  (q:∀W,Mem W0 U σ W→Calls P f c W fun e W'=>e=.returned v∧Below W.heap.size W W') (x:cU ops (mQ ops ds vs i++aV s ds) o=some true):Ob P n W0 U σ ops ds vs s i:=
 Ob.op i u _ d x fun a W k g Q K j=>by
  unfold Oper.wp;rw[fE k r];refine(q W g).mono ?_;rintro _ W' ⟨rfl,h⟩;exact j v W' rfl (g.call h) h
theorem obU(i b f : Nat)(cs : List Value)(q : U.range b f cs)(g : TypeId)(x : Operand){o : Oper}(u : ops[i]? = some o)(y : o.op = .load g x)(h : vs[i]? = some (.val (.agg cs.toArray)))(C : evS (mQ ops ds vs i ++ aV s ds) x = some (.pointer (some ⟨b, f, none⟩)))(d : TypeDesc)(A : P.underlying g = some d)(c : d.isRow = true)(D : (P.info? g).map (·.size) = some cs.length)
  (B:cU ops (mQ ops ds vs i++aV s ds) o=some true):Ob P n W0 U σ ops ds vs s i:=
 Ob.op i u _ h B fun a W r j Q K k=>wp_load_mid g x y b f (eG r C) cs d (View.range_of q j.view) A c D (k _ W rfl j (Below.refl _ _))
theorem obN(i:Nat){o:Oper}(j:ops[i]? =some o)(d:Nat→Value)(x:Obj)(c:vs[i]? =some (.blk d x))(hm:makes P (mQ ops ds vs i++aV s ds) o=some (x,fun r=>some (d r)))(k:cU ops (mQ ops ds vs i++aV s ds) o=some true):Ob P n W0 U σ ops ds vs s i:=
 Ob.op i j _ c k fun a W h g Q K f=>by
  unfold Oper.wp;rw[oF h hm];exact f _ _ ⟨W.heap.size,rfl,heap_alloc_last W x⟩ (g.call ((Below.refl _ _).alloc (Bg _) x)) ((Below.refl _ _).alloc (Bg _) x)
theorem obB(i j m : Nat){o : Oper}(hi : ops[i]? = some o)(v : Value)(O : vs[i]? = some (.val v))(A : Nat → Value)(cs : List Value)(t : TypeId)(V : vs[j]? = some (.blk A (.cells cs.toArray t (0, 0))))(d : Nat)(D : ds[j]? = some d)(X : cJ .any ops i j = true)(hg : o.guard = none)
  (hq:∀g,reads P cs ((d,A g)::(mQ ops ds vs i++aV s ds)) o=some (v,List.replicate m (g,none))):Ob P n W0 U σ ops ds vs s i:=by
 refine⟨fun B Q ha hn hd=>⟨fun u W hM hu K hK=>?_⟩⟩;have L:=aDs (u:=u) (W:=W) i ha hn hd hu;obtain⟨q,h,J⟩:=hu j X;rw[V]at h;simp only[Ab]at h;subst h;obtain⟨g,E,F⟩:=J;have f:=(fX ds 0 u B d hn (by rw[ha.size];exact hd)).1 j D;rw[Aw]at f;have M:pL n ((d,A g)::(mQ ops ds vs i++aV s ds)) (eO ds 0 u B):=⟨L.size,L.defers,fun t v y=>by
  simp only[look]at y;split at y
  ·next hb=>
   have:=Ca hb;subst this;rw[f,E];exact y
  ·exact L.slots t v y⟩
 unfold wpOp;simp only[hi];have r:Region.wanted o (yielded ops (eO ds 0 u B).tmps)=true:=by simp[Region.wanted,hg]
 simp only[r,if_true];left;have a:=hq g;unfold reads at a;split at a
 ·next I=>
  split at a
  ·next x rs hp=>
   simp only[Ab,Am]at a;obtain⟨rfl,C⟩:=a;unfold Oper.wp;rw[fW M I];have k:(execOp (ev ((d,A g)::(mQ ops ds vs i++aV s ds))) o).run P W=.ok (.value x) W:=by
    refine aFV hp W fun c hc w hw=>?_
    have G:(c.block,match c.spot with|none=>none|some _=>some 0)∈List.replicate m (g,(none:Option Nat)):=by rw[←C];exact Co.2 ⟨c,hc,rfl⟩
    have he:=(Gm.1 G).2;simp only[Am]at he;obtain⟨Y,Z⟩:=he;have hs:c.spot=none:=by
     cases N:c.spot with
     |none=>rfl
     |some _=>rw[N]at Z;cases Z
    have:c=⟨g,c.off,none⟩:=by
     obtain⟨c1,c2,c3⟩:=c;simp only at Y hs ⊢;subst Y hs;rfl
    rw[this,cell_of_row _ _ _ _ _ _ F];simpa using hw
   rw[k];have:=hK x W hM (Below.refl _ _) ⟨_,O,rfl⟩;rw[hi]at this;exact this
  ·cases a
 ·cases a
def jY(ops : Array Oper)(k : Nat) : Nat → Bool
 |0=>(Region.ready .any ops (firstM k ops.size)).isEmpty
 |f+1=>(match Region.ready .any ops (firstM k ops.size)with
  | [j]=>Nat.beq j k
  |_=>false)&&jY ops (k+1) f
theorem aIx(k n:Nat):(firstM k n).setIfInBounds k true=firstM (k+1) n:=by
 apply Gj;intro i;simp only[firstM,Cu,List.size_toArray,Az,List.length_range,Dx,Cs];by_cases c:k=i
 ·subst c;simp only[if_true];by_cases a:k<n
  ·simp[a]
  ·simp[a]
 ·rw[An c];by_cases a:i<n
  ·simp only[List.getElem?_range a,Di];have:(i<k)=(i<k+1):=propext ⟨fun h=>by omega,fun h=>by omega⟩;simp only[this]
  ·rw[Fg (by simp;omega)];rfl
theorem iI{Q : Exit → Act → World → Prop} : ∀ (f k : Nat) (a : Act) (W : World), k + f = ops.size → jY ops k f = true → wpList P ops Q (ops.toList.drop k) a W → wpAny P .any ops Q f (firstM k ops.size) a W
 |0,k,a,W,hk,hc,h=>by
  simp only[jY,List.isEmpty_iff]at hc;refine⟨hc,?_⟩;rw[Cj (by simp;omega)]at h;exact h
 |f+1,k,a,W,hk,hc,h=>by
  simp only[jY,Ae]at hc;obtain⟨u,q⟩:=hc;have c:Region.ready .any ops (firstM k ops.size)=[k]:=by
   split at u
   ·next j B=>rw[B,Ca u]
   ·cases u
  refine⟨fun d=>(by rw[c]at d;cases d),fun i r=>?_⟩;rw[c]at r;simp only[Bh,Bt,Ct]at r;subst r;have g:i<ops.size:=by omega
  have C:ops[i]? =some ops[i]:=Fu g;have A:ops.toList.drop i=ops[i]::ops.toList.drop (i+1):=by
   rw[Bx (by simpa using g)];simp
  rw[A]at h;rw[aIx];unfold wpOp;simp only[C];simp only[wpList]at h;have y:=fun a W=>iI (Q:=Q) f (i+1) a W oW q
  split
  ·next x=>
   rw[Ar x]at h;exact h.imp (Oper.wp_mono y) id
  ·next x=>
   rw[An x]at h;exact y _ _ h
theorem aLD{id : Nat}{l : List Oper}{Q : XQ}(m f r : Nat)(ds : List Nat)(vs : List Sp)(hm : P.follows .mixedOrders = true)(E : l.length = m + f)(B : ds.length = m)
  (J:oJ l.toArray ds=true) (D:nodupB ds=true) (K:(ds.all fun d=>Nat.blt d n)=true) (k:fI .any l.toArray m=true) (x:lM .any l.toArray m r=true) (g:jY l.toArray m f=true)
  (O:Go.Proofs.YtcdjakemdlinhaaGreatDoor.Steps (Ob P n W0 U σ l.toArray ds vs s) 0 m)
  (h:SXL P n W0 Q l.toArray (l.drop m) (aMz ds vs++aV s ds) U σ):SXC P n W0 Q (.region id l.toArray true) s U σ:=by
 refine⟨fun a W y hM=>?_⟩;have X:=lH D;have F:∀d∈ds,d<n:=fun d F=>by have:=Ao.1 K d F;simpa[Ew]using this
 refine rY m f r (Mem W0 U σ) ds (IsV vs) aAJ hm (by simpa using E) B J D k x (fun i v w w' h M=>M.keep h) hM.drew ?_ ?_
 ·have:∀(c i:Nat),Go.Proofs.YtcdjakemdlinhaaGreatDoor.Steps (Ob P n W0 U σ l.toArray ds vs s) i c→Go.Proofs.YtcdjakemdlinhaaGreatDoor.Steps (aAo P .any l.toArray (up n W0 Q) (Mem W0 U σ) aAJ (IsV vs) ds a) i c:=by
   intro c
   induction c with
   |zero=>intro i _;trivial
   |succ c ih=>intro i h;exact⟨h.1.go a _ y X F,ih (i+1) h.2⟩
  exact this m 0 O
 ·intro u V I M;refine iI f m _ V (by simpa using E.symm) g ?_;have G:=fun t=>fX ds 0 u a t X (by rw[y.size];exact F)
  refine h.go _ V ⟨by rw[(G 0).2.2.1,y.size],by rw[(G 0).2.2.2,y.defers],fun t v A=>?_⟩ I;rcases eV _ _ _ _ A with A|⟨_,A⟩
  ·have C:=iW _ _ _ A;obtain⟨j,hd2,N⟩:=aDO _ _ _ _ C;have a1:j<ds.length:=(Af.1 hd2).1;obtain⟨q,L,hs⟩:=M j oW;rw[N]at L;simp only[Ab]at L;subst L;rw[(G t).1 j hd2,Aw,hs]
  ·obtain⟨Y,Z⟩:=fD _ _ _ _ A;rw[(G t).2.1 Y];exact y.slots t v Z
end
end Go.Proofs.YtcdjakemdlinhaaGreatDoor.Sx
