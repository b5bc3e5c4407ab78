/-
  Several texts in one: Sum2 Pri3 Blk2 Bun1 Bun2 Bun3 Sli1 Sx12 Sx13 Ins1 Bun4 Bun5 Bun6.
  Conditions: named at each.
-/
import Derived.Test.YtcdjakemdlinhaaGreatDoorG04
import Derived.Lib.Overlaps
import Derived.Lib.AppendZerosOnto
import Derived.Laws.Externs
set_option maxHeartbeats 16000000
set_option linter.unusedSimpArgs false
set_option linter.unusedVariables false
set_option linter.unusedSectionVars false
namespace Go.Proofs.YtcdjakemdlinhaaGreatDoor.Sx
open Go.ChangeShapes Go.WideShapes Go.ChangeAt Go.RowKit Go.Deep
theorem Mem.peek {W0 : Cx} {U : View} {σ : aF} {W : World} (h : Mem W0 U σ W) (k b : Nat) (cs : List Value) (t : TypeId) (hk : σ[k]? = some (b, .cells cs.toArray t (0, 0))) : ∃ V, View.le U V ∧ V.range b 0 cs ∧ ∀ a v, V a = some v → W.cell? a = some v := by
 obtain ⟨q1, _, q3⟩ := h.own k b _ hk
 let C : View := fun a => if a.block = b ∧ a.spot = none then cs[a.off]? else none
 refine ⟨U.or C, View.le_or _ _, fun j v hj => View.or_r ?_ (q3 _ rfl), fun a v hv => ?_⟩
 ·
  show (if b = b ∧ none = none then cs[0 + j]? else none) = some v
  rw [if_pos ⟨rfl, rfl⟩, Nat.zero_add]; exact hj
 ·
  unfold View.or at hv
  cases hx : U a with
  | some u => rw [hx] at hv; exact h.view a v (by rw [hx]; exact hv)
  | none =>
   rw [hx, Option.none_or] at hv
   have hv' : (if a.block = b ∧ a.spot = none then cs[a.off]? else none) = some v := hv
   split at hv'
   ·
    next hc =>
    have ea : a = ⟨b, a.off, none⟩ := by
     obtain ⟨a1, a2, a3⟩ := a
     simp only at hc ⊢
     rw [hc.1, hc.2]
    rw [ea, cell_of_row _ _ _ _ _ _ q1]
    simpa using hv'
   · cases hv'
def eU (x : Bk) (sum : List UInt8) : List Itm.Tr := [Itm.cN x.t.toNat, Itm.cN x.n.toNat, Itm.cN x.f, Itm.cN x.c.toNat, dY x.d] ++ (if x.c != 0 then [dY sum] else [])
theorem aJS (x : Bk) (sum : List UInt8) (w : World) {U : View} (hU : See U w) (hx : x.ok) (hs : sum.length ≤ R47) (ht : iC x.t = true) (hn : iC x.n = true) (hc0 : 0 ≤ x.c) (hc2 : x.c ≤ 2) :
    CP 260 #[x.V, .string (B sum)] w (rO w U (qC (Itm.dH (eU x sum)))) := by
 have hf := hx.f
 have hd := hx.d
 unfold iC at ht hn
 simp only [Bool.and_eq_true,decide_eq_true_eq] at ht hn
 have w1 : IntKind.u64.wrap x.t = (x.t.toNat : Int) := by have := u64_in (x := x.t) oW oW; omega
 have w2 : IntKind.u64.wrap x.n = (x.n.toNat : Int) := by have := u64_in (x := x.n) oW oW; omega
 have w3 : IntKind.u64.wrap x.c = (x.c.toNat : Int) := by have := u64_in (x := x.c) oW oW; omega
 have n1 : x.t.toNat < W64 := by unfold W64; omega
 have n2 : x.n.toNat < W64 := by unfold W64; omega
 have n3 : x.c.toNat < W64 := by unfold W64; omega
 refine eG 35 Tryz.func260 hU ?_
 refine zs (zr (cJ (fun b0 => (cJ (fun b1 => (zn (zs ?_)))))))
 refine aBM 6 [0,3,1,1,0,3,1,1,0,3,1,0,3,1,1,0,3] [(b0,1),(b0,1),(b0,1),(b0,1),(b0,1)] [.val (N6 x.t.toNat),.val (iV x.t.toNat),.val (N6 x.n.toNat),.val (iV x.n.toNat),.val (iV x.f),.val (N6 x.c.toNat),.val (iV x.c.toNat)] (by simp only [List.forall_mem_cons]; exact ⟨trivial,trivial,trivial,trivial,trivial,trivial,trivial,fun _ h => by cases h⟩) ⟨?_,?_,?_,?_,?_,?_,?_,trivial⟩ ?_
 · exact wE (U6 (IntKind.u64.wrap x.t)) (congrArg (Value.int .u64) w1)
 ·
  refine wV 40 (fun u => #[(N6 x.t.toNat)]) fun u V hV hdq W hW => ?_
  exact dM _ W
 · exact wE (U6 (IntKind.u64.wrap x.n)) (congrArg (Value.int .u64) w2)
 ·
  refine wV 40 (fun u => #[(N6 x.n.toNat)]) fun u V hV hdq W hW => ?_
  exact dM _ W
 ·
  refine wV 40 (fun u => #[(N6 x.f)]) fun u V hV hdq W hW => ?_
  exact dM _ W
 · exact wE (U6 (IntKind.u64.wrap x.c)) (congrArg (Value.int .u64) w3)
 ·
  refine wV 40 (fun u => #[(N6 x.c.toNat)]) fun u V hV hdq W hW => ?_
  exact dM _ W
 intro u2 V2 hV2 hdq2
 have k3 := (TV.num _ x.t.toNat (by first | assumption | decide | (unfold W64; omega))).le hV2
 have k4 := (TV.num _ x.n.toNat (by first | assumption | decide | (unfold W64; omega))).le hV2
 have k5 := (TV.num _ x.f (by first | assumption | decide | (unfold W64; omega))).le hV2
 have k6 := (TV.num _ x.c.toNat (by first | assumption | decide | (unfold W64; omega))).le hV2
 refine dL (fun W hM => jY x.d W) (cJ (fun b7 => ?_))
 have hAb7 : gL V2 [((Itm.cN x.t.toNat),(iN x.t.toNat)),((Itm.cN x.n.toNat),(iN x.n.toNat)),((Itm.cN x.f),(iN x.f)),((Itm.cN x.c.toNat),(iN x.c.toNat)),((dY x.d),[(I6 2),(U6 0),(St x.d),S0,(.bool false)])] := ⟨k3,k4,k5,k6,(TV.str _ x.d (by first | assumption | decide | (unfold R47; omega))),trivial⟩
 refine zq 1 (zn (zs (zB [0,1,0] [(b0,1)] (zn (cD (x.c != 0) (fun h0 => ?_) (fun h0 => ?_))))))
 ·
  have h0d := bne_iff_ne.1 h0
  refine zr (zq 2 (dL (fun W hM => jY sum W) ?_))
  refine gO [(I6 2),(U6 0),(St sum),S0,(.bool false)] 89 (fun r => (Sl r 0 1 1)) kR kR kR (fun g8 V8 hV8 hR8 => ?_)
  have k14 := (TV.str _ sum (by first | assumption | decide | (unfold R47; omega))).le hV8
  have k15 := hAb7.le hV8
  have hT8 : fG V8 (some ⟨g8,0,none⟩) [(dY sum)] := fG.lit [((dY sum),[(I6 2),(U6 0),(St sum),S0,(.bool false)])] hR8 ⟨k14,trivial⟩ (show 1 ≤ R47 by decide)
  obtain ⟨bb16,ff16,L16,e16,hF16,hA16,hG16⟩ := hT8.open (by simp)
  cases e16
  have hN16 : L16.length = 1 := by rw [← List.length_map (f := Prod.fst),hF16]; rfl
  refine fV (Rw.row b7 5 []) [(I6 0),(N6 x.t.toNat),(St []),S0,(.bool false),(I6 0),(N6 x.n.toNat),(St []),S0,(.bool false),(I6 0),(N6 x.f),(St []),S0,(.bool false),(I6 0),(N6 x.c.toNat),(St []),S0,(.bool false),(I6 2),(U6 0),(St x.d),S0,(.bool false)] 5 [(bK b0 x.cs 38),(b1,.cells [(I6 0),(U6 0),(St []),S0,(.bool false)].toArray 89 (0,0))] 89 87 5 64 1 kR ⟨rfl,rfl,Nat.le_refl _,by decide⟩ (.tmp 28) (.tmp 31) rfl kR g8 0 1 (L16.flatMap Prod.snd) kR (fun W hM => View.range_of hG16 hM.view) (by rw [hA16.flat_len,hN16]) hA16.one (by decide) (by unfold maxLen; omega) oW kR kR kR kR kR (fun r17 hr17 => ?_)
  refine zq 1 (zn (zQ 1 ?_))
  refine aAx 33 r17 ([(I6 0),(N6 x.t.toNat),(St []),S0,(.bool false),(I6 0),(N6 x.n.toNat),(St []),S0,(.bool false),(I6 0),(N6 x.f),(St []),S0,(.bool false),(I6 0),(N6 x.c.toNat),(St []),S0,(.bool false),(I6 2),(U6 0),(St x.d),S0,(.bool false)] ++ (L16.flatMap Prod.snd)) 5 (5 + 1) [(bK b0 x.cs 38),(b1,.cells [(I6 0),(U6 0),(St []),S0,(.bool false)].toArray 89 (0,0))] 89 kR hr17 kR (fun a18 c18 V18 hV18 hR18 hE18 => ?_)
  have k25 := k15.le hV18
  have k26 := hA16.le hV18
  have hT18 : fG V18 a18 ([(Itm.cN x.t.toNat),(Itm.cN x.n.toNat),(Itm.cN x.f),(Itm.cN x.c.toNat),(dY x.d)] ++ [(dY sum)]) := fG.ofRow ([((Itm.cN x.t.toNat),(iN x.t.toNat)),((Itm.cN x.n.toNat),(iN x.n.toNat)),((Itm.cN x.f),(iN x.f)),((Itm.cN x.c.toNat),(iN x.c.toNat)),((dY x.d),[(I6 2),(U6 0),(St x.d),S0,(.bool false)])] ++ L16) hR18 (by first | rfl | (simp only [List.flatMap_append]; rfl)) (gL.app k25 k26) _ (by first | rfl | (simp only [List.map_append,hF16]; rfl)) (show (5 + 1) ≤ R47 by decide)
  refine dA 178 #[(.slice a18 (5 + 1) c18)] (.agg #[(I6 4),(U6 0),(St []),(.slice a18 (5 + 1) c18),(.bool false)]) (fun W hM => dW _ _ _ W) ?_
  refine aY 1 b1 (zn (aA (dU [2] [(b1,5)] [(.agg #[(I6 4),(U6 0),(St []),(.slice a18 (5 + 1) c18),(.bool false)])] (fun W' hM => ?_))))
  exact cF hM (View.le_trans (View.le_trans hV2 hV8) hV18) ⟨[(I6 4),(U6 0),(St []),(.slice a18 (5 + 1) c18),(.bool false)],rfl,((TV.list c18 hT18)).cast (by simp only [eU,h0,bs,bQ,reduceIte,List.append_nil])⟩
 ·
  refine zk (zQ 1 ?_)
  refine aAx 33 (Rw.row b7 5 []) [(I6 0),(N6 x.t.toNat),(St []),S0,(.bool false),(I6 0),(N6 x.n.toNat),(St []),S0,(.bool false),(I6 0),(N6 x.f),(St []),S0,(.bool false),(I6 0),(N6 x.c.toNat),(St []),S0,(.bool false),(I6 2),(U6 0),(St x.d),S0,(.bool false)] 5 5 [(bK b0 x.cs 38),(b1,.cells [(I6 0),(U6 0),(St []),S0,(.bool false)].toArray 89 (0,0))] 89 kR ⟨rfl,rfl,Nat.le_refl _,by decide⟩ kR (fun a27 c27 V27 hV27 hR27 hE27 => ?_)
  have k33 := hAb7.le hV27
  have hT27 : fG V27 a27 ([(Itm.cN x.t.toNat),(Itm.cN x.n.toNat),(Itm.cN x.f),(Itm.cN x.c.toNat),(dY x.d)]) := fG.ofRow ([((Itm.cN x.t.toNat),(iN x.t.toNat)),((Itm.cN x.n.toNat),(iN x.n.toNat)),((Itm.cN x.f),(iN x.f)),((Itm.cN x.c.toNat),(iN x.c.toNat)),((dY x.d),[(I6 2),(U6 0),(St x.d),S0,(.bool false)])]) hR27 (by first | rfl | (simp only [List.flatMap_append]; rfl)) k33 _ (by first | rfl | (simp only [List.map_append]; rfl)) (show 5 ≤ R47 by decide)
  refine dA 178 #[(.slice a27 5 c27)] (.agg #[(I6 4),(U6 0),(St []),(.slice a27 5 c27),(.bool false)]) (fun W hM => dW _ _ _ W) ?_
  refine aY 1 b1 (zn (aA (dU [2] [(b1,5)] [(.agg #[(I6 4),(U6 0),(St []),(.slice a27 5 c27),(.bool false)])] (fun W' hM => ?_))))
  exact cF hM (View.le_trans hV2 hV27) ⟨[(I6 4),(U6 0),(St []),(.slice a27 5 c27),(.bool false)],rfl,((TV.list c27 hT27)).cast (by simp only [eU,h0,bs,bQ,reduceIte,List.append_nil])⟩
def aNR (k : Int) (l : List Itm.Tr) : List UInt8 := mB k (Itm.aE (Itm.dH (l.set (l.length - 1) (dY (Z (2 * k.toNat))))))
def aIb (k : Int) (l : List Itm.Tr) : Itm.Tr := if k == 0 then Itm.dH l else Itm.dH (l.set (l.length - 1) (dY (aNR k l)))
theorem aFE (k : Int) (l : List Itm.Tr) (w : World) {U : View} (hU : See U w) (a : Option Addr) (c : Nat) (hts : fG U a l) (hk0 : 0 ≤ k) (hk2 : k ≤ 2) (hr : Itm.aN 8 (Itm.dH (l.set (l.length - 1) (dY (Z (2 * k.toNat))))) = true) (hsz : Itm.szT (Itm.dH (l.set (l.length - 1) (dY (Z (2 * k.toNat))))) ≤ 1000000000) (hne : l ≠ []) (hle : l.length ≤ 1000) :
    CP 259 #[.int .i64 k, .agg #[.int .i64 4, .int .u64 0, .string (B []), .slice a l.length c, .bool false]] w (rO w U (qC (aIb k l))) := by
 have hb := Itm.eM (Itm.dH (l.set (l.length - 1) (dY (Z (2 * k.toNat)))))
 have hcl := aAN (Itm.aE (Itm.dH (l.set (l.length - 1) (dY (Z (2 * k.toNat)))))) hk0 hk2
 have hzl := tL (2 * k.toNat)
 have hpos : 0 < l.length := List.length_pos_iff.2 hne
 have hk2n : 2 * k = ((2 * k.toNat : Nat) : Int) := by omega
 have hwl : IntKind.i64.wrap ((l.length : Int) - 1) = ((l.length - 1 : Nat) : Int) := by
  rw [IntWalk.i64_in _ oW]
  omega
 have hT0 : TV U (Itm.dH l) [.int .i64 4,.int .u64 0,.string (B []),.slice a l.length c,.bool false] := TV.list c hts
 refine eG 40 Tryz.func259 hU ?_
 refine zs (zr (cJ (fun b0 => (cJ (fun b1 => (zn (zs (zQ 2 (zn (cD (k == 0) (fun h0 => ?_) (fun h0 => ?_)))))))))))
 ·
  refine zB [1] [(b0,5)] (aY 1 b1 (zn (aA (dU [2] [(b1,5)] [(.agg #[(I6 4),(U6 0),(St []),(.slice a l.length c),(.bool false)])] (fun W' hM => ?_)))))
  exact cF hM (View.le_refl _) ⟨[(I6 4),(U6 0),(St []),(.slice a l.length c),(.bool false)],rfl,(hT0).cast (by simp only [aIb,aNR,h0,bs,bQ,reduceIte,List.append_nil])⟩
 ·
  have h0d := beq_eq_false_iff_ne.1 h0
  refine zk (zB [0,1] [(b0,1)] ?_)
  obtain ⟨bb2,ff2,L2,rfl,hF2,hA2,hG2⟩ := hts.open hne
  refine sB 251 #[(Sl bb2 ff2 l.length c)] 89 5 l.length (L2.flatMap Prod.snd) kR (fun W hM => aBA hM.view bb2 ff2 l.length _ _ hG2 (by rw [hA2.flat_len,← List.length_map (f := Prod.fst),hF2]) hA2.one hpos oW) kR kR (fun b3 c3 j3 hJ3 => ?_)
  refine zq 1 (zn (zQ 4 (eE 17 (I6 (IntKind.i64.wrap ((l.length : Int) - 1))) (I6 ((l.length - 1 : Nat) : Int)) (congrArg (Value.int .i64) hwl) ?_)))
  refine zq 1 (dA 247 #[(I6 k)] (I6 ((2 * k.toNat : Nat) : Int)) (fun W hM => (hk2n ▸ aEq k W hk0 hk2)) ?_)
  refine dL (fun W hM => aCL (2 * k.toNat) W oW) (dL (fun W hM => jY (Z (2 * k.toNat)) W) (cH (.pointer (some ⟨b3,0 + (l.length - 1) * 5,none⟩)) (rIx 89 rfl b3 0 l.length c3 (l.length - 1) 5) ?_))
  have hL2 : L2.length = l.length := by rw [← List.length_map (f := Prod.fst),hF2]
  refine aH3 2 b3 (0 + (l.length - 1) * 5) 5 (L2.flatMap Prod.snd ++ j3) 89 89 (.agg #[(I6 2),(U6 0),(St (Z (2 * k.toNat))),S0,(.bool false)]) (.tmp 22) (.tmp 21) rfl kR kR kR kR (by rw [List.length_append,hA2.flat_len,hL2]; omega) rfl kR ?_
  have e2_1 : cA (L2.flatMap Prod.snd ++ j3) (0 + (l.length - 1) * 5) [(I6 2),(U6 0),(St (Z (2 * k.toNat))),S0,(.bool false)] = (L2.set (l.length - 1) ((dY (Z (2 * k.toNat))),[(I6 2),(U6 0),(St (Z (2 * k.toNat))),S0,(.bool false)])).flatMap Prod.snd ++ j3 := by rw [Nat.zero_add,aAM hA2 (l.length - 1) ((dY (Z (2 * k.toNat))),[(I6 2),(U6 0),(St (Z (2 * k.toNat))),S0,(.bool false)]) j3 oW rfl]
  refine lV _ [(b0,.cells [(I6 4),(U6 0),(St []),(Sl bb2 ff2 l.length c),(.bool false)].toArray 89 (0,0)),(b1,.cells [(I6 0),(U6 0),(St []),S0,(.bool false)].toArray 89 (0,0)),(b3,.cells ((L2.set (l.length - 1) ((dY (Z (2 * k.toNat))),[(I6 2),(U6 0),(St (Z (2 * k.toNat))),S0,(.bool false)])).flatMap Prod.snd ++ j3).toArray 89 (0,0))] (fun W h => h.eqv ((show _ = ([(b0,.cells [(I6 4),(U6 0),(St []),(Sl bb2 ff2 l.length c),(.bool false)].toArray 89 (0,0)),(b1,.cells [(I6 0),(U6 0),(St []),S0,(.bool false)].toArray 89 (0,0)),(b3,.cells (cA (L2.flatMap Prod.snd ++ j3) (0 + (l.length - 1) * 5) [(I6 2),(U6 0),(St (Z (2 * k.toNat))),S0,(.bool false)]).toArray 89 (0,0))] : aF) from by kernel_rfl).trans (by rw [e2_1]))) ?_
  have hA2_1 := hA2.set (l.length - 1) ((dY (Z (2 * k.toNat))),[(I6 2),(U6 0),(St (Z (2 * k.toNat))),S0,(.bool false)]) (TV.str _ (Z (2 * k.toNat)) (by first | assumption | decide | (unfold R47; omega)))
  have hL2_1 : (L2.set (l.length - 1) ((dY (Z (2 * k.toNat))),[(I6 2),(U6 0),(St (Z (2 * k.toNat))),S0,(.bool false)])).length = l.length := by rw [List.length_set,hL2]
  refine zn (zQ 1 (dA 178 #[(Sl b3 0 l.length c3)] (.agg #[(I6 4),(U6 0),(St []),(Sl b3 0 l.length c3),(.bool false)]) (fun W hM => dW _ _ _ W) ?_))
  refine dA 136 #[(.agg #[(I6 4),(U6 0),(St []),(Sl b3 0 l.length c3),(.bool false)])] (.tuple #[(St (Itm.aE (Itm.dH (l.set (l.length - 1) (dY (Z (2 * k.toNat))))))),(I6 0)]) (fun W hM => (by obtain ⟨V9,v1,v2,v3⟩ := hM.peek 2 b3 ((L2.set (l.length - 1) ((dY (Z (2 * k.toNat))),[(I6 2),(U6 0),(St (Z (2 * k.toNat))),S0,(.bool false)])).flatMap Prod.snd ++ j3) 89 kR; have ht := TV.list c3 (fG.ofRow (L2.set (l.length - 1) ((dY (Z (2 * k.toNat))),[(I6 2),(U6 0),(St (Z (2 * k.toNat))),S0,(.bool false)])) ⟨fun _ => ⟨b3,rfl,(fD v2).1⟩⟩ rfl (hA2_1.le v1) (l.set (l.length - 1) (dY (Z (2 * k.toNat)))) (by rw [List.map_set,hF2]) (by rw [List.length_set]; unfold R47; omega)); rw [List.length_set] at ht; exact mW _ _ v3 ht hr (by unfold aAT; omega))) ?_
  refine zq 5 (zn (zQ 4 (eE 32 (I6 (IntKind.i64.wrap ((l.length : Int) - 1))) (I6 ((l.length - 1 : Nat) : Int)) (congrArg (Value.int .i64) hwl) ?_)))
  refine zq 2 (dA 252 #[(I6 k),(St (Itm.aE (Itm.dH (l.set (l.length - 1) (dY (Z (2 * k.toNat)))))))] (St (mB k (Itm.aE (Itm.dH (l.set (l.length - 1) (dY (Z (2 * k.toNat)))))))) (fun W hM => aGq k _ W (by unfold R47; omega)) ?_)
  refine dL (fun W hM => jY (mB k (Itm.aE (Itm.dH (l.set (l.length - 1) (dY (Z (2 * k.toNat))))))) W) (cH (.pointer (some ⟨b3,0 + (l.length - 1) * 5,none⟩)) (rIx 89 rfl b3 0 l.length c3 (l.length - 1) 5) ?_)
  refine aH3 2 b3 (0 + (l.length - 1) * 5) 5 ((L2.set (l.length - 1) ((dY (Z (2 * k.toNat))),[(I6 2),(U6 0),(St (Z (2 * k.toNat))),S0,(.bool false)])).flatMap Prod.snd ++ j3) 89 89 (.agg #[(I6 2),(U6 0),(St (mB k (Itm.aE (Itm.dH (l.set (l.length - 1) (dY (Z (2 * k.toNat)))))))),S0,(.bool false)]) (.tmp 37) (.tmp 36) rfl kR kR kR kR (by rw [List.length_append,hA2_1.flat_len,hL2_1]; omega) rfl kR ?_
  have e2_2 : cA ((L2.set (l.length - 1) ((dY (Z (2 * k.toNat))),[(I6 2),(U6 0),(St (Z (2 * k.toNat))),S0,(.bool false)])).flatMap Prod.snd ++ j3) (0 + (l.length - 1) * 5) [(I6 2),(U6 0),(St (mB k (Itm.aE (Itm.dH (l.set (l.length - 1) (dY (Z (2 * k.toNat)))))))),S0,(.bool false)] = ((L2.set (l.length - 1) ((dY (Z (2 * k.toNat))),[(I6 2),(U6 0),(St (Z (2 * k.toNat))),S0,(.bool false)])).set (l.length - 1) ((dY (mB k (Itm.aE (Itm.dH (l.set (l.length - 1) (dY (Z (2 * k.toNat)))))))),[(I6 2),(U6 0),(St (mB k (Itm.aE (Itm.dH (l.set (l.length - 1) (dY (Z (2 * k.toNat)))))))),S0,(.bool false)])).flatMap Prod.snd ++ j3 := by rw [Nat.zero_add,aAM hA2_1 (l.length - 1) ((dY (mB k (Itm.aE (Itm.dH (l.set (l.length - 1) (dY (Z (2 * k.toNat)))))))),[(I6 2),(U6 0),(St (mB k (Itm.aE (Itm.dH (l.set (l.length - 1) (dY (Z (2 * k.toNat)))))))),S0,(.bool false)]) j3 oW rfl]
  refine lV _ [(b0,.cells [(I6 4),(U6 0),(St []),(Sl bb2 ff2 l.length c),(.bool false)].toArray 89 (0,0)),(b1,.cells [(I6 0),(U6 0),(St []),S0,(.bool false)].toArray 89 (0,0)),(b3,.cells (((L2.set (l.length - 1) ((dY (Z (2 * k.toNat))),[(I6 2),(U6 0),(St (Z (2 * k.toNat))),S0,(.bool false)])).set (l.length - 1) ((dY (mB k (Itm.aE (Itm.dH (l.set (l.length - 1) (dY (Z (2 * k.toNat)))))))),[(I6 2),(U6 0),(St (mB k (Itm.aE (Itm.dH (l.set (l.length - 1) (dY (Z (2 * k.toNat)))))))),S0,(.bool false)])).flatMap Prod.snd ++ j3).toArray 89 (0,0))] (fun W h => h.eqv ((show _ = ([(b0,.cells [(I6 4),(U6 0),(St []),(Sl bb2 ff2 l.length c),(.bool false)].toArray 89 (0,0)),(b1,.cells [(I6 0),(U6 0),(St []),S0,(.bool false)].toArray 89 (0,0)),(b3,.cells (cA ((L2.set (l.length - 1) ((dY (Z (2 * k.toNat))),[(I6 2),(U6 0),(St (Z (2 * k.toNat))),S0,(.bool false)])).flatMap Prod.snd ++ j3) (0 + (l.length - 1) * 5) [(I6 2),(U6 0),(St (mB k (Itm.aE (Itm.dH (l.set (l.length - 1) (dY (Z (2 * k.toNat)))))))),S0,(.bool false)]).toArray 89 (0,0))] : aF) from by kernel_rfl).trans (by rw [e2_2]))) ?_
  have hA2_2 := hA2_1.set (l.length - 1) ((dY (mB k (Itm.aE (Itm.dH (l.set (l.length - 1) (dY (Z (2 * k.toNat)))))))),[(I6 2),(U6 0),(St (mB k (Itm.aE (Itm.dH (l.set (l.length - 1) (dY (Z (2 * k.toNat)))))))),S0,(.bool false)]) (TV.str _ (mB k (Itm.aE (Itm.dH (l.set (l.length - 1) (dY (Z (2 * k.toNat))))))) (by first | assumption | decide | (unfold R47; omega)))
  have hL2_2 : ((L2.set (l.length - 1) ((dY (Z (2 * k.toNat))),[(I6 2),(U6 0),(St (Z (2 * k.toNat))),S0,(.bool false)])).set (l.length - 1) ((dY (mB k (Itm.aE (Itm.dH (l.set (l.length - 1) (dY (Z (2 * k.toNat)))))))),[(I6 2),(U6 0),(St (mB k (Itm.aE (Itm.dH (l.set (l.length - 1) (dY (Z (2 * k.toNat)))))))),S0,(.bool false)])).length = l.length := by rw [List.length_set,hL2_1]
  refine zn (zQ 1 ?_)
  refine iE [(b0,.cells [(I6 4),(U6 0),(St []),(Sl bb2 ff2 l.length c),(.bool false)].toArray 89 (0,0)),(b1,.cells [(I6 0),(U6 0),(St []),S0,(.bool false)].toArray 89 (0,0))] [] b3 (((L2.set (l.length - 1) ((dY (Z (2 * k.toNat))),[(I6 2),(U6 0),(St (Z (2 * k.toNat))),S0,(.bool false)])).set (l.length - 1) ((dY (mB k (Itm.aE (Itm.dH (l.set (l.length - 1) (dY (Z (2 * k.toNat)))))))),[(I6 2),(U6 0),(St (mB k (Itm.aE (Itm.dH (l.set (l.length - 1) (dY (Z (2 * k.toNat)))))))),S0,(.bool false)])).flatMap Prod.snd ++ j3) 89 kR (fun V2 hV2 hR2 => ?_)
  have hX2 := TV.list c3 (fG.ofRow ((L2.set (l.length - 1) ((dY (Z (2 * k.toNat))),[(I6 2),(U6 0),(St (Z (2 * k.toNat))),S0,(.bool false)])).set (l.length - 1) ((dY (mB k (Itm.aE (Itm.dH (l.set (l.length - 1) (dY (Z (2 * k.toNat)))))))),[(I6 2),(U6 0),(St (mB k (Itm.aE (Itm.dH (l.set (l.length - 1) (dY (Z (2 * k.toNat)))))))),S0,(.bool false)])) ⟨fun _ => ⟨b3,rfl,(fD hR2).1⟩⟩ rfl (hA2_2.le hV2) (l.set (l.length - 1) (dY (mB k (Itm.aE (Itm.dH (l.set (l.length - 1) (dY (Z (2 * k.toNat))))))))) (by rw [List.map_set,List.map_set,hF2,List.set_set]) (by rw [List.length_set]; unfold R47; omega))
  rw [List.length_set] at hX2
  refine dA 178 #[(Sl b3 0 l.length c3)] (.agg #[(I6 4),(U6 0),(St []),(Sl b3 0 l.length c3),(.bool false)]) (fun W hM => dW _ _ _ W) ?_
  refine aY 1 b1 (zn (aA (dU [2] [(b1,5)] [(.agg #[(I6 4),(U6 0),(St []),(Sl b3 0 l.length c3),(.bool false)])] (fun W' hM => ?_))))
  exact cF hM hV2 ⟨[(I6 4),(U6 0),(St []),(Sl b3 0 l.length c3),(.bool false)],rfl,(hX2).cast (by simp only [aIb,aNR,h0,bs,bQ,reduceIte,List.append_nil])⟩
theorem aGm {e : Ei} (h : aX e = true) : e.l.length ≤ 60 := by
 unfold aX Eid.gM at h
 split at h
 ·
  rw [Bool.and_eq_true] at h
  by_cases hl : e.l.length ≤ 60
  · exact hl
  ·
   have := Eid.aBn e.l oW
   rw [this] at h
   cases h.2
 ·
  split at h
  ·
   rw [decide_eq_true_eq] at h
   rw [h.1]
   exact Nat.zero_le _
  · cases h
theorem lD (e : Ei) (d : Nat) : Itm.aN (d + 3) e.tree = true := by
 unfold Ei.tree
 split
 · simp [Itm.aN, Itm.dH, Itm.cN, Itm.okN, Itm.Tr.k, Itm.Tr.n, Itm.Tr.s, Itm.Tr.l, Itm.Tr.o]
 ·
  split
  · simp [Itm.aN, Itm.dH, Itm.cN, Itm.okN, Itm.Tr.k, Itm.Tr.n, Itm.Tr.s, Itm.Tr.l, Itm.Tr.o]
  · simp [Itm.aN, Itm.dH, Itm.cN, aHL, Itm.okN, Itm.Tr.k, Itm.Tr.n, Itm.Tr.s, Itm.Tr.l, Itm.Tr.o]
theorem tP {e : Ei} (h : aX e = true) : Itm.szT e.tree ≤ 70 := by
 have := aGm h
 unfold Ei.tree
 split
 · simp [Itm.szT, Itm.szL, Itm.dH, Itm.cN]
 ·
  split
  · simp [Itm.szT, Itm.szL, Itm.dH, Itm.cN]
  · simp [Itm.szT, Itm.szL, Itm.dH, Itm.cN, aHL]; omega
theorem sN (n d : Nat) : Itm.aN (d + 1) (Itm.cN n) = true := by simp [Itm.aN, Itm.cN, Itm.okN, Itm.Tr.k, Itm.Tr.n, Itm.Tr.s, Itm.Tr.l, Itm.Tr.o]
theorem mL (l : List UInt8) (d : Nat) : Itm.aN (d + 1) (dY l) = true := by simp [Itm.aN, dY, Itm.okN, Itm.Tr.k, Itm.Tr.n, Itm.Tr.s, Itm.Tr.l, Itm.Tr.o]
theorem oC {l : List Itm.Tr} {d : Nat} (h : l.all (Itm.aN d) = true) (hl : l.length ≤ 1000) : Itm.aN (d + 1) (Itm.dH l) = true := by simp [Itm.aN, Itm.dH, Itm.okN, Itm.Tr.k, Itm.Tr.n, Itm.Tr.s, Itm.Tr.l, Itm.Tr.o, hl]; simpa using h
theorem sJ (p : Pr) (s : List UInt8) : Itm.aN 8 (Itm.dH (gQ p s)) = true := by
 refine oC ?_ ?_
 ·
  unfold gQ
  simp only [List.all_append, List.all_cons, List.all_nil, sN, lD p.dst 4, lD p.src 4, lD p.rpt 4, Bool.and_true, Bool.true_and, Bool.and_eq_true]
  refine ⟨⟨oC (by simp [sN]) (by simp), ?_⟩, ?_⟩
  · split <;> simp [sN]
  · split <;> simp [mL]
 ·
  unfold gQ
  simp only [List.length_append, List.length_cons, List.length_nil]
  split <;> split <;> simp
theorem aH1 (a b : List Itm.Tr) : Itm.szL (a ++ b) = Itm.szL a + Itm.szL b := Itm.qD a b
theorem tY {p : Pr} (s : List UInt8) (hd : aX p.dst = true) (hs : aX p.src = true) (hr : aX p.rpt = true) : Itm.szT (Itm.dH (gQ p s)) ≤ 300 + s.length := by
 have h1 := tP hd
 have h2 := tP hs
 have h3 := tP hr
 rw [Itm.dH, Itm.szT]
 unfold gQ
 simp only [aH1]
 have e1 : ∀ n, Itm.szT (Itm.cN n) = 1 := fun n => by simp [Itm.szT, Itm.cN, Itm.szL]
 have e2 : Itm.szT (dY s) = 1 + s.length := by simp [Itm.szT, dY, Itm.szL]
 have e3 : ∀ a b, Itm.szT (Itm.dH [Itm.cN a, Itm.cN b]) = 3 := fun a b => by simp [Itm.szT, Itm.dH, Itm.cN, Itm.szL]
 have a1 : Itm.szL (if aBt p.f then [Itm.cN p.off, Itm.cN p.tot] else []) ≤ 2 := by split <;> simp [Itm.szL, e1]
 have a2 : Itm.szL (if p.c != 0 then [dY s] else []) ≤ 1 + s.length := by split <;> simp [Itm.szL, e2]
 simp only [Itm.szL, e1, e3, List.length_nil] at a1 a2 ⊢
 omega
theorem aBb (p : Pr) (s : List UInt8) : gQ p s ≠ [] ∧ (gQ p s).length ≤ 1000 := by
 unfold gQ
 refine ⟨by simp, ?_⟩
 simp only [List.length_append, List.length_cons, List.length_nil]
 split <;> split <;> simp
def prZ (p : Pr) : List Itm.Tr := gQ p (Z (2 * p.c.toNat))
def Pr.tree (p : Pr) : Itm.Tr := aId p.c (prZ p)
theorem fH {p : Pr} (h : aO p = 0) : dS p = true := by
 unfold aO at h
 cases hr : dS p with
 | true => rfl
 | false => rw [hr] at h; simp at h
theorem fS {p : Pr} (h : dS p = true) : aX p.dst = true ∧ aX p.src = true ∧ aX p.rpt = true ∧ 0 ≤ p.c ∧ p.c ≤ 2 := by
 unfold dS at h
 simp only [Bool.and_eq_true, decide_eq_true_eq] at h
 obtain ⟨⟨⟨⟨⟨⟨_, h1⟩, h2⟩, h3⟩, h4⟩, h5⟩, _⟩ := h
 exact ⟨h1, h2, h3, h4, h5⟩
theorem aGL {k : Int} {l : List Itm.Tr} (h : Itm.aN 8 (Itm.dH l) = true) : Itm.aN 8 (aId k l) = true := by
 unfold aId
 split
 · exact h
 ·
  have h' := h
  unfold Itm.aN at h'
  simp only [Itm.dH, Itm.Tr.l, Itm.Tr.k, Itm.Tr.n, Itm.Tr.s, Itm.Tr.o, Bool.and_eq_true] at h'
  refine oC (List.all_eq_true.2 fun x hx => ?_) ?_
  ·
   rcases List.mem_or_eq_of_mem_set hx with hx | rfl
   · exact List.all_eq_true.1 h'.2 x hx
   · exact mL _ 6
  ·
   rw [List.length_set]
   have := h'.1
   simp [Itm.okN] at this
   exact this
theorem aH0 (l : List Itm.Tr) (i : Nat) (x : Itm.Tr) : Itm.szL (l.set i x) ≤ Itm.szL l + Itm.szT x := by
 induction l generalizing i with
 | nil => simp [Itm.szL]
 | cons y l ih =>
  cases i with
  | zero => rw [List.set_cons_zero, Itm.szL, Itm.szL]; omega
  | succ i =>
   have := ih i
   rw [List.set_cons_succ, Itm.szL, Itm.szL]
   omega
theorem aIc {k : Int} {l : List Itm.Tr} (h0 : 0 ≤ k) (h2 : k ≤ 2) : Itm.szT (aId k l) ≤ Itm.szT (Itm.dH l) + 5 := by
 have hl := aAN (Itm.aE (Itm.dH l)) h0 h2
 unfold aId
 split
 · omega
 ·
  have := aH0 l (l.length - 1) (dY (mB k (Itm.aE (Itm.dH l))))
  have e2 : Itm.szT (dY (mB k (Itm.aE (Itm.dH l)))) = 1 + (mB k (Itm.aE (Itm.dH l))).length := by simp [Itm.szT, dY, Itm.szL]
  simp only [Itm.dH, Itm.szT] at *
  omega
theorem aKQ (p : Pr) (w : World) {U : View} (hU : See U w) (hp : p.ok) (h : (aO p != 0) = false) : CP 224 #[p.V] w (rO w U (aJ6 p.tree 0)) := by
 have hr0 : aO p = 0 := by simpa using h
 obtain ⟨hd,hs,hr,hc0,hc2⟩ := fS (fH hr0)
 have hk2n : 2 * p.c = ((2 * p.c.toNat : Nat) : Int) := by omega
 have hmx : (if (0 : Int) > ((2 * p.c.toNat : Nat) : Int) then (0 : Int) else ((2 * p.c.toNat : Nat) : Int)) = ((2 * p.c.toNat : Nat) : Int) := if_neg oW
 have hzl := tL (2 * p.c.toNat)
 have hsz := tY (p := p) (Z (2 * p.c.toNat)) hd hs hr
 refine eG 21 Tryz.func224 hU ?_
 refine zs (zr (cJ (fun b0 => (cJ (fun b1 => (zq 1 (zn (zs (zB [1] [(b0,19)] (dL (fun W hM => qI p W hp) (zq 1 (zn (zQ 2 (zn (eS ((aO p) != 0) h ?_)))))))))))))))
 refine zk (zs ?_)
 refine aBM 4 [0,3,3,0,3,1,1,1,1] [(b0,1),(b0,19),(b0,1)] [.val (I6 ((2 * p.c.toNat : Nat) : Int)),.val (I6 ((2 * p.c.toNat : Nat) : Int)),.val (St (Z (2 * p.c.toNat))),.mem (qC (Itm.dH (prZ p)))] (by simp only [List.forall_mem_cons]; exact ⟨trivial,trivial,trivial,by intro v V V2 hV2 hP; (first | trivial | exact PhiMono.go hP hV2 | (obtain ⟨g,e,hP⟩ := hP; exact ⟨g,e,hP.le hV2⟩)),fun _ h => by cases h⟩) ⟨?_,?_,?_,?_,trivial⟩ ?_
 ·
  refine wV 247 (fun u => #[(I6 p.c)]) fun u V hV hdq W hW => ?_
  exact (hk2n ▸ aEq p.c W hc0 hc2)
 · exact wE (I6 (if 0 > ((2 * p.c.toNat : Nat) : Int) then 0 else ((2 * p.c.toNat : Nat) : Int))) (congrArg (Value.int .i64) hmx)
 ·
  refine wV 246 (fun u => #[(St [0]),(I6 ((2 * p.c.toNat : Nat) : Int))]) fun u V hV hdq W hW => ?_
  exact aCL (2 * p.c.toNat) W oW
 ·
  refine wM 245 (fun u => #[(p.V),(St (Z (2 * p.c.toNat)))]) fun u V hV hdq W hW => ?_
  exact aG3 p _ W hW hp (by unfold R47; omega) hc0 hc2 hd hs hr
 intro u2 V2 hV2 hdq2
 have e8_2 := hdq2 8 rfl
 obtain ⟨cs8_2,q8_2,ht8_2⟩ := e8_2
 obtain ⟨a8_2,c8_2,rfl,hts8_2,hn8_2,hs8_2,hl8_2⟩ := ht8_2.form
 refine aLH 19 q8_2 ?_
 refine aAn 244 #[(I6 p.c),(.agg #[(I6 4),(U6 0),(St []),(.slice a8_2 (prZ p).length c8_2),(.bool false)])] (qC (aId p.c (prZ p))) (fun W hM => aFh p.c (prZ p) W hM.view _ _ hts8_2 hc0 hc2 (sJ p _) (by unfold prZ; omega) (aBb p _).1 (aBb p _).2) (fun v3 V3 hV3 hP3 => ?_)
 obtain ⟨cs3,rfl,ht3⟩ := hP3
 obtain ⟨a3,c3,rfl,hts3,hn3,hs3,hl3⟩ := ht3.form
 refine aY 1 b1 (zq 1 (zn (aA (dU [2,0] [(b1,5)] [(tV (aId p.c (prZ p)) a3 c3),(I6 0)] (fun W' hM => ?_)))))
 exact cF hM (View.le_trans hV2 hV3) ⟨(tC (aId p.c (prZ p)) a3 c3),rfl,ht3⟩
def dB (p : Pr) : List UInt8 := Itm.aE p.tree
theorem aCf (p : Pr) (w : World) (hp : p.ok) (h : aO p = 0) : CP 192 #[p.V] w (Ret (.tuple #[.string (B (dB p)), .int .i64 0]) w) := by
 have h' : (aO p != 0) = false := by simp [h]
 obtain ⟨hd,hs,hr,hc0,hc2⟩ := fS (fH h)
 have hzl := tL (2 * p.c.toNat)
 have hsz := tY (p := p) (Z (2 * p.c.toNat)) hd hs hr
 have hsz2 := aIc (l := prZ p) hc0 hc2
 refine dK 18 Tryz.func192 ?_
 refine zs (zr (cJ (fun b0 => (zq 2 (zn (zB [1] [(b0,19)] (aED (fun W hM => aKQ p W hM.view hp h') (fun v1 V1 hV1 hP1 => ?_))))))))
 obtain ⟨cs1,rfl,ht1⟩ := hP1
 obtain ⟨a1,c1,rfl,hts1,hn1,hs1,hl1⟩ := ht1.form
 refine zq 3 (cJ (fun b2 => (aY 1 b2 (zq 1 (zn (zs (zQ 2 (zn (dE (zk (zB [2] [(b2,5)] (dA 136 #[(tV p.tree a1 c1)] (.tuple #[(St (Itm.aE p.tree)),(I6 0)]) (fun W hM => mW _ _ hM.view ht1 (aGL (sJ p _)) (by unfold Pr.tree prZ aAT at *; omega)) ?_))))))))))))
 refine zq 4 (zn (aA (aH [2,3] [(St (Itm.aE p.tree)),(I6 0)] (fun W' hM => ?_))))
 exact ⟨rfl,hM.below⟩
def Pr.bare (p : Pr) : Pr := ⟨p.f, 0, p.dst, p.src, p.rpt, p.time, p.seq, p.life, p.off, p.tot⟩
theorem aAg {p : Pr} (h : aO p = 0) : aO p.bare = 0 := by
 have hr := fH h
 have hb : dS p.bare = true := by
  have e : dS p.bare = (dS ⟨p.f, 0, p.dst, p.src, p.rpt, p.time, p.seq, p.life, p.off, p.tot⟩) := rfl
  rw [e]
  simp only [dS, Bool.and_eq_true, decide_eq_true_eq] at hr ⊢
  obtain ⟨⟨⟨⟨⟨⟨h0, h1⟩, h2⟩, h3⟩, h4⟩, h5⟩, h6⟩ := hr
  exact ⟨⟨⟨⟨⟨⟨h0, h1⟩, h2⟩, h3⟩, Int.le_refl 0⟩, by omega⟩, h6⟩
 unfold aO at h ⊢
 rw [hr] at h
 rw [hb]
 exact h
theorem aML {p : Pr} (h : p.ok) : p.bare.ok := ⟨h.f, h.dst, h.src, h.rpt, h.time, h.seq, h.life, h.off, h.tot⟩
theorem aCe (p : Pr) (w : World) (hp : p.ok) (h : aO p = 0) : CP 141 #[p.V] w (Ret (.tuple #[.string (B (dB p.bare)), .int .i64 0]) w) := by
 have h' : (aO p != 0) = false := by simp [h]
 refine dK 15 Tryz.func141 ?_
 refine zs (zr (cJ (fun b0 => (zq 2 (zn (zs (zB [1] [(b0,19)] (dL (fun W hM => qI p W hp) (zq 1 (zn (zQ 2 (zn (eS ((aO p) != 0) h' ?_)))))))))))))
 refine zk (zQ 1 (aY 0 b0 (zn (zB [1] [(b0,19)] (dL (fun W hM => aCf p.bare W (aML hp) (aAg h)) (zq 4 (zn (aA (aH [2,3] [(St (dB p.bare)),(I6 0)] (fun W' hM => ?_))))))))))
 exact ⟨rfl,hM.below⟩
theorem aDR (p : Pr) (w : World) (hp : p.ok) (h : (aO p != 0) = true) : CP 141 #[p.V] w (Ret (.tuple #[.string (B []), .int .i64 (aO p)]) w) := by
 refine dK 15 Tryz.func141 ?_
 refine zs (zr (cJ (fun b0 => (zq 2 (zn (zs (zB [1] [(b0,19)] (dL (fun W hM => qI p W hp) (zq 1 (zn (zQ 2 (zn (gP ((aO p) != 0) h ?_)))))))))))))
 refine zQ 3 (zn (aA (aH [2,3] [(St []),(I6 (aO p))] (fun W' hM => ?_))))
 exact ⟨rfl,hM.below⟩
theorem fK {x : Bk} (h : aG x = 0) : iC x.t = true ∧ iC x.n = true ∧ 0 ≤ x.c ∧ x.c ≤ 2 ∧ x.f ≤ 255 ∧ x.d.length ≤ 4000 := by
 unfold aG at h
 split at h
 · cases h
 ·
  next h1 =>
  split at h
  · cases h
  ·
   next h2 =>
   simp only [Bool.or_eq_true, Bool.not_eq_true', decide_eq_true_eq, not_or, Bool.not_eq_false] at h1 h2
   exact ⟨h1.1.1.1.1, h1.1.1.1.2, by omega, by omega, by omega, by omega⟩
theorem tJ (x : Bk) (s : List UInt8) : Itm.aN 8 (Itm.dH (eU x s)) = true := by
 refine oC ?_ ?_
 ·
  unfold eU
  simp only [List.all_append, List.all_cons, List.all_nil, sN, mL, Bool.and_true, Bool.true_and]
  split <;> simp [mL]
 ·
  unfold eU
  simp only [List.length_append, List.length_cons, List.length_nil]
  split <;> simp
theorem aAf (x : Bk) (s : List UInt8) : Itm.szT (Itm.dH (eU x s)) ≤ 10 + x.d.length + s.length := by
 rw [Itm.dH, Itm.szT]
 unfold eU
 simp only [aH1]
 have e1 : ∀ n, Itm.szT (Itm.cN n) = 1 := fun n => by simp [Itm.szT, Itm.cN, Itm.szL]
 have e2 : ∀ t, Itm.szT (dY t) = 1 + t.length := fun t => by simp [Itm.szT, dY, Itm.szL]
 have a1 : Itm.szL (if x.c != 0 then [dY s] else []) ≤ 1 + s.length := by split <;> simp [Itm.szL, e2]
 simp only [Itm.szL, e1, e2, List.length_nil] at a1 ⊢
 omega
theorem aBE (x : Bk) (s : List UInt8) : eU x s ≠ [] ∧ (eU x s).length ≤ 1000 := by
 unfold eU
 refine ⟨by simp, ?_⟩
 simp only [List.length_append, List.length_cons, List.length_nil]
 split <;> simp
def Bk.tree (x : Bk) : Itm.Tr := aIb x.c (eU x [])
theorem aGK {k : Int} {l : List Itm.Tr} (h : Itm.aN 8 (Itm.dH l) = true) : Itm.aN 8 (aIb k l) = true := by
 unfold aIb
 split
 · exact h
 ·
  have h' := h
  unfold Itm.aN at h'
  simp only [Itm.dH, Itm.Tr.l, Itm.Tr.k, Itm.Tr.n, Itm.Tr.s, Itm.Tr.o, Bool.and_eq_true] at h'
  refine oC (List.all_eq_true.2 fun x hx => ?_) ?_
  ·
   rcases List.mem_or_eq_of_mem_set hx with hx | rfl
   · exact List.all_eq_true.1 h'.2 x hx
   · exact mL _ 6
  ·
   rw [List.length_set]
   have := h'.1
   simp [Itm.okN] at this
   exact this
theorem aOu {l : List Itm.Tr} (s : List UInt8) (i : Nat) (h : Itm.aN 8 (Itm.dH l) = true) : Itm.aN 8 (Itm.dH (l.set i (dY s))) = true := by
 have h' := h
 unfold Itm.aN at h'
 simp only [Itm.dH, Itm.Tr.l, Itm.Tr.k, Itm.Tr.n, Itm.Tr.s, Itm.Tr.o, Bool.and_eq_true] at h'
 refine oC (List.all_eq_true.2 fun x hx => ?_) ?_
 ·
  rcases List.mem_or_eq_of_mem_set hx with hx | rfl
  · exact List.all_eq_true.1 h'.2 x hx
  · exact mL _ 6
 ·
  rw [List.length_set]
  have := h'.1
  simp [Itm.okN] at this
  exact this
theorem aOf {l : List Itm.Tr} (s : List UInt8) (i : Nat) : Itm.szT (Itm.dH (l.set i (dY s))) ≤ Itm.szT (Itm.dH l) + 1 + s.length := by
 have := aH0 l i (dY s)
 have e2 : Itm.szT (dY s) = 1 + s.length := by simp [Itm.szT, dY, Itm.szL]
 simp only [Itm.dH, Itm.szT] at *
 omega
theorem aIa {k : Int} {l : List Itm.Tr} (h0 : 0 ≤ k) (h2 : k ≤ 2) : Itm.szT (aIb k l) ≤ Itm.szT (Itm.dH l) + 5 := by
 have hl := aAN (Itm.aE (Itm.dH (l.set (l.length - 1) (dY (Z (2 * k.toNat)))))) h0 h2
 unfold aIb aNR
 split
 · omega
 ·
  have := aOf (l := l) (mB k (Itm.aE (Itm.dH (l.set (l.length - 1) (dY (Z (2 * k.toNat))))))) (l.length - 1)
  omega
theorem aLz (x : Bk) (w : World) {U : View} (hU : See U w) (hp : x.ok) (h : (aG x != 0) = false) : CP 248 #[x.V] w (rO w U (aJ6 x.tree 0)) := by
 have hr0 : aG x = 0 := by simpa using h
 obtain ⟨ht,hn,hc0,hc2,hf,hdl⟩ := fK hr0
 have hsz := aAf x []
 have hss := aOf (l := eU x []) (Z (2 * x.c.toNat)) ((eU x []).length - 1)
 have hzl := tL (2 * x.c.toNat)
 refine eG 16 Tryz.func248 hU ?_
 refine zs (zr (cJ (fun b0 => (cJ (fun b1 => (zq 1 (zn (zs (zB [1] [(b0,5)] (dL (fun W hM => qP x W) (zq 1 (zn (zQ 2 (zn (eS ((aG x) != 0) h ?_)))))))))))))))
 refine zk (zs ?_)
 refine aBM 1 [0,3,3,1] [(b0,1),(b0,5)] [.mem (qC (Itm.dH (eU x [])))] (by simp only [List.forall_mem_cons]; exact ⟨by intro v V V2 hV2 hP; (first | trivial | exact PhiMono.go hP hV2 | (obtain ⟨g,e,hP⟩ := hP; exact ⟨g,e,hP.le hV2⟩)),fun _ h => by cases h⟩) ⟨?_,trivial⟩ ?_
 ·
  refine wM 260 (fun u => #[(x.V),(St [])]) fun u V hV hdq W hW => ?_
  exact aJS x [] _ hW hp (by unfold R47; simp) ht hn hc0 hc2
 intro u2 V2 hV2 hdq2
 have e3_2 := hdq2 3 rfl
 obtain ⟨cs3_2,q3_2,ht3_2⟩ := e3_2
 obtain ⟨a3_2,c3_2,rfl,hts3_2,hn3_2,hs3_2,hl3_2⟩ := ht3_2.form
 refine aLH 14 q3_2 ?_
 refine aAn 259 #[(I6 x.c),(.agg #[(I6 4),(U6 0),(St []),(.slice a3_2 (eU x []).length c3_2),(.bool false)])] (qC (aIb x.c (eU x []))) (fun W hM => aFE x.c (eU x []) W hM.view _ _ hts3_2 hc0 hc2 (aOu _ _ (tJ x _)) (by simp only [List.length_nil] at hsz; omega) (aBE x _).1 (aBE x _).2) (fun v3 V3 hV3 hP3 => ?_)
 obtain ⟨cs3,rfl,ht3⟩ := hP3
 obtain ⟨a3,c3,rfl,hts3,hn3,hs3,hl3⟩ := ht3.form
 refine aY 1 b1 (zq 1 (zn (aA (dU [2,0] [(b1,5)] [(tV (aIb x.c (eU x [])) a3 c3),(I6 0)] (fun W' hM => ?_)))))
 exact cF hM (View.le_trans hV2 hV3) ⟨(tC (aIb x.c (eU x [])) a3 c3),rfl,ht3⟩
def pY (x : Bk) : List UInt8 := Itm.aE x.tree
theorem aHG (x : Bk) (w : World) (hp : x.ok) (h : aG x = 0) : CP 233 #[x.V] w (Ret (.tuple #[.string (B (pY x)), .int .i64 0]) w) := by
 have h' : (aG x != 0) = false := by simp [h]
 obtain ⟨ht,hn,hc0,hc2,hf,hdl⟩ := fK h
 have hsz := aAf x []
 have hsz2 := aIa (l := eU x []) hc0 hc2
 refine dK 18 Tryz.func233 ?_
 refine zs (zr (cJ (fun b0 => (zq 2 (zn (zB [1] [(b0,5)] (aED (fun W hM => aLz x W hM.view hp h') (fun v1 V1 hV1 hP1 => ?_))))))))
 obtain ⟨cs1,rfl,ht1⟩ := hP1
 obtain ⟨a1,c1,rfl,hts1,hn1,hs1,hl1⟩ := ht1.form
 refine zq 3 (cJ (fun b2 => (aY 1 b2 (zq 1 (zn (zs (zQ 2 (zn (dE (zk (zB [2] [(b2,5)] (dA 136 #[(tV x.tree a1 c1)] (.tuple #[(St (Itm.aE x.tree)),(I6 0)]) (fun W hM => mW _ _ hM.view ht1 (aGK (tJ x _)) (by simp only [List.length_nil] at hsz; unfold Bk.tree aAT at *; omega)) ?_))))))))))))
 refine zq 4 (zn (aA (aH [2,3] [(St (Itm.aE x.tree)),(I6 0)] (fun W' hM => ?_))))
 exact ⟨rfl,hM.below⟩
def aD (x : Bk) : List UInt8 := Itm.aD 0 x.t.toNat ++ Itm.aD 0 x.n.toNat ++ Itm.aD 0 x.f
theorem aAh (x : Bk) (w : World) (h : (aG x != 0) = true) : CP 142 #[x.V] w (Ret (.tuple #[.string (B []), .int .i64 (aG x)]) w) := by
 refine dK 23 Tryz.func142 ?_
 refine zs (zr (cJ (fun b0 => (zq 2 (zn (zs (zB [1] [(b0,5)] (dL (fun W hM => qP x W) (zq 1 (zn (zQ 2 (zn (gP ((aG x) != 0) h ?_)))))))))))))
 refine zQ 3 (zn (aA (aH [2,3] [(St []),(I6 (aG x))] (fun W' hM => ?_))))
 exact ⟨rfl,hM.below⟩
theorem rN (x : Bk) (w : World) (hp : x.ok) (h : aG x = 0) : CP 142 #[x.V] w (Ret (.tuple #[.string (B (aD x)), .int .i64 0]) w) := by
 have h' : (aG x != 0) = false := by simp [h]
 have hf := hp.f
 obtain ⟨ht,hn,hc0,hc2,hf2,hdl⟩ := fK h
 unfold iC at ht hn
 simp only [Bool.and_eq_true,decide_eq_true_eq] at ht hn
 have w1 : IntKind.u64.wrap x.t = (x.t.toNat : Int) := by have := u64_in (x := x.t) oW oW; omega
 have w2 : IntKind.u64.wrap x.n = (x.n.toNat : Int) := by have := u64_in (x := x.n) oW oW; omega
 have n1 : x.t.toNat < W64 := by unfold W64; omega
 have n2 : x.n.toNat < W64 := by unfold W64; omega
 have g1 := (Itm.aW 0 x.t.toNat).2
 have g2 := (Itm.aW 0 x.n.toNat).2
 have g3 := (Itm.aW 0 x.f).2
 refine dK 23 Tryz.func142 ?_
 refine zs (zr (cJ (fun b0 => (zq 2 (zn (zs (zB [1] [(b0,5)] (dL (fun W hM => qP x W) (zq 1 (zn (zQ 2 (zn (eS ((aG x) != 0) h' ?_)))))))))))))
 refine zk (zs ?_)
 refine gU 4 [0,3,1,1,0,3,1,1,1,0,3,1] [(b0,1),(b0,1),(b0,1)] [.val (N6 x.t.toNat),.val (St (Itm.aD 0 x.t.toNat)),.val (N6 x.n.toNat),.val (St (Itm.aD 0 x.n.toNat)),.val (St ((Itm.aD 0 x.t.toNat) ++ (Itm.aD 0 x.n.toNat))),.val (St (Itm.aD 0 x.f))] ⟨?_,?_,?_,?_,?_,?_,trivial⟩ ?_
 · exact vE (U6 (IntKind.u64.wrap x.t)) (congrArg (Value.int .u64) w1)
 · exact vC 144 #[(I6 0),(N6 x.t.toNat)] (fun W hM => fQ 0 x.t.toNat W oW (by first | assumption | (unfold W64; omega) | decide))
 · exact vE (U6 (IntKind.u64.wrap x.n)) (congrArg (Value.int .u64) w2)
 · exact vC 144 #[(I6 0),(N6 x.n.toNat)] (fun W hM => fQ 0 x.n.toNat W oW (by first | assumption | (unfold W64; omega) | decide))
 · exact vR (cE _ _ _ _ rfl (Itm.aD 0 x.t.toNat) (Itm.aD 0 x.n.toNat) kR kR oA)
 · exact vC 144 #[(I6 0),(N6 x.f)] (fun W hM => fQ 0 x.f W oW (by first | assumption | (unfold W64; omega) | decide))
 refine cH (St (((Itm.aD 0 x.t.toNat) ++ (Itm.aD 0 x.n.toNat)) ++ (Itm.aD 0 x.f))) (cE _ _ _ _ rfl ((Itm.aD 0 x.t.toNat) ++ (Itm.aD 0 x.n.toNat)) (Itm.aD 0 x.f) kR kR oA) ?_
 refine zq 2 (zn (aA (aH [2,3] [(St (((Itm.aD 0 x.t.toNat) ++ (Itm.aD 0 x.n.toNat)) ++ (Itm.aD 0 x.f))),(I6 0)] (fun W' hM => ?_))))
 exact ⟨rfl,hM.below⟩
theorem cK {α : Type} {l : List α} {i : Nat} {y : α} (h : l[i]? = some y) : l.drop i = y :: l.drop (i + 1) := by
 obtain ⟨hl, rfl⟩ := List.getElem?_eq_some_iff.1 h
 exact List.drop_eq_getElem_cons hl
theorem cY {α : Type} {l : List α} {i : Nat} (h : ¬ ((i : Int) < (l.length : Int))) : l.drop i = [] := List.drop_eq_nil_of_le oW
def Bk.none : Bk := ⟨0, 0, 0, 0, []⟩
def aBv (l : List Bk) (t : Int) : Bk × Bool := match l.find? (fun x => x.t == t) with
 | some x => (x, true)
 | none => (Bk.none, false)
theorem aCs {l : List Bk} {t : Int} {i : Nat} {y : Bk} (h : l[i]? = some y) : aBv (l.drop i) t = if (y.t == t) = true then (y, true) else aBv (l.drop (i + 1)) t := by
 unfold aBv
 rw [cK h, List.find?_cons]
 cases y.t == t <;> simp
theorem aJV (p : Pr) (l : List Bk) (a : Option Addr) (c : Nat) (t : Int) (w : World) {U : View} (hU : See U w) (hl : cX U a l) : CP 229 #[bnV p a l.length c, .int .i64 t] w (Ret (.tuple #[(aBv l t).1.V, .bool (aBv l t).2]) w) := by
 have hlen := hl.len
 unfold R47 at hlen
 refine eG 22 Tryz.func229 hU ?_
 refine zs (zr (cJ (fun b0 => (cJ (fun b1 => (zq 1 (zn (zs (zB [0,1,0,0] [(b0,1)] (zn (aB (gX (α := Nat) (fun x => [1,4,5,9,10,11].zip [(I6 t),(Pt b1 0),(.bool false),(.slice a l.length c),(L6 l.length),(L6 x)]) (fun x => U) (fun x => [(bK b0 (eB p a l.length c) 29),(b1,.cells [(I6 0),(I6 0),(U6 0),(I6 0),(St [])].toArray 38 (0,0))]) (fun x => x ≤ l.length ∧ aBv (l.drop x) t = aBv l t) (fun x => l.length - x) 0 ?_ ?_))))))))))))
 · exact ⟨Nat.zero_le _,rfl⟩
 intro x hx
 obtain ⟨hx1,hx2⟩ := hx
 refine zQ 1 (zn (zs (cD (decide ((x : Int) < (l.length : Int))) (fun h0 => ?_) (fun h0 => ?_))))
 ·
  have h0d := of_decide_eq_true h0
  refine zk (zs (aB (zs (zr ?_))))
  obtain ⟨y2,hy2⟩ : ∃ y,(l)[x]? = some y := ⟨(l)[x]'oW,List.getElem?_eq_getElem _⟩
  obtain ⟨b2,f2,rfl,hU2⟩ := hl.at_ x y2 hy2
  refine cH (Pt b2 (f2 + x * 5)) (rIx 38 rfl b2 f2 l.length c x 5) ?_
  refine zU b2 (f2 + x * 5) y2.cs hU2 38 (.tmp 13) _ Tryz.underlying38 rfl ?_
  refine cJ (fun b3 => (aY 2 b3 (zn (zB [0,3,0,0] [(b3,1)] (zn (cD (y2.t == t) (fun h1 => ?_) (fun h1 => ?_)))))))
  ·
   have h1d := eq_of_beq h1
   refine zB [3] [(b3,5)] (aY 1 b1 (zq 1 (zn (aA (dU [2,0] [(b1,5)] [(y2.V),(.bool true)] (fun W' hM => ?_))))))
   refine ⟨?_,hM.below⟩
   rw [← hx2,aCs hy2,if_pos h1]
   rfl
  ·
   have h1d := beq_eq_false_iff_ne.1 h1
   refine zk (zr (zq 1 (eV 20 ((x : Int) + 1) (zq 1 (zn ?_)))))
   refine nx (x + 1) ?_ ?_ (d := fun _ h => Mem.sub (List.sublist_append_left _ _) (h.eqv (show _ = ([(bK b0 (eB p (some ⟨b2,f2,none⟩) l.length c) 29),(b1,.cells [(I6 0),(I6 0),(U6 0),(I6 0),(St [])].toArray 38 (0,0))] : aF) ++ ([(bK b3 y2.cs 38)] : aF) from by kernel_rfl)))
   · exact ⟨by omega,by rw [← hx2,aCs hy2,h1]; rfl⟩
   · show l.length - (x + 1) < l.length - x; omega
 ·
  have h0d := of_decide_eq_false h0
  refine aU (zQ 1 (aY 1 b1 (zq 1 (zn (aA (dU [2,0] [(b1,5)] [(.agg #[(I6 0),(I6 0),(U6 0),(I6 0),(St [])]),(.bool false)] (fun W' hM => ?_)))))))
  refine ⟨?_,hM.below⟩
  rw [← hx2,cY oW]
  rfl
def aAr (l : List Bk) : Bool := match l[l.length - 1]? with
 | some x => x.t == 1
 | none => false
theorem aHF (l : List Bk) (a : Option Addr) (c : Nat) (w : World) {U : View} (hU : See U w) (hl : cX U a l) : CP 230 #[.slice a l.length c] w (Ret (.bool (aAr l)) w) := by
 have hlen := hl.len
 unfold R47 at hlen
 have hwl : (l.length : Int) > 0 → IntKind.i64.wrap ((l.length : Int) - 1) = ((l.length - 1 : Nat) : Int) := fun h => by
  rw [IntWalk.i64_in _ oW]
  omega
 refine eG 16 Tryz.func230 hU ?_
 refine zQ 1 (zn (zQ 4 (aK 6 (decide ((l.length : Int) > 0)) (fun h0 => ?_) (fun h0 => ?_))))
 ·
  have h0d := of_decide_eq_true h0
  refine zq 4 (eE 10 (I6 (IntKind.i64.wrap ((l.length : Int) - 1))) (L6 (l.length - 1)) (congrArg (Value.int .i64) (hwl oW)) ?_)
  obtain ⟨y0,hy0⟩ : ∃ y,(l)[(l.length - 1)]? = some y := ⟨(l)[(l.length - 1)]'oW,List.getElem?_eq_getElem _⟩
  obtain ⟨b0,f0,rfl,hU0⟩ := hl.at_ (l.length - 1) y0 hy0
  refine cH (.pointer (some ⟨b0,f0 + (l.length - 1) * 5,none⟩)) (rIx 38 rfl b0 f0 l.length c (l.length - 1) 5) ?_
  refine zq 1 (zV b0 (f0 + (l.length - 1) * 5 + 0) (I6 y0.t) (hU0 0 _ rfl) 3 (.tmp 12) _ Tryz.underlying3 rfl ?_)
  refine zq 3 (zn (aA (aH [2] [(.bool (y0.t == 1))] (fun W' hM => ?_))))
  refine ⟨?_,hM.below⟩
  unfold aAr
  rw [hy0]
  rfl
 ·
  have h0d := of_decide_eq_false h0
  refine zq 10 (zn (aA (aH [2] [(.bool false)] (fun W' hM => ?_))))
  refine ⟨?_,hM.below⟩
  unfold aAr
  rw [List.getElem?_eq_none oW]
  rfl
def aEc (p : Pr) (l : List Bk) : Bool := match l[l.length - 1]? with
 | some x => (gC .u64 p.f 1 == 0) || decide (IntKind.u64.wrap ((p.off : Int) + (x.d.length : Int)) ≤ (p.tot : Int))
 | none => false
theorem aEx (p : Pr) (l : List Bk) (a : Option Addr) (c : Nat) (w : World) {U : View} (hU : See U w) (hl : cX U a l) (h0 : aAr l = true) : CP 232 #[bnV p a l.length c] w (Ret (.bool (aEc p l)) w) := by
 have hlen := hl.len
 unfold R47 at hlen
 have hpos : 0 < l.length := by
  rcases Nat.eq_zero_or_pos l.length with h | h
  ·
   unfold aAr at h0
   rw [List.getElem?_eq_none oW] at h0
   cases h0
  · exact h
 have hwl : IntKind.i64.wrap ((l.length : Int) - 1) = ((l.length - 1 : Nat) : Int) := by
  rw [IntWalk.i64_in _ oW]
  omega
 refine eG 31 Tryz.func232 hU ?_
 refine zs (zr (cJ (fun b0 => (zq 1 (zn (zB [0,1,0,1,0,0] [(b0,1),(b0,1)] (eE 9 (I6 (IntKind.i64.wrap ((l.length : Int) - 1))) (L6 (l.length - 1)) (congrArg (Value.int .i64) hwl) ?_)))))))
 obtain ⟨y1,hy1⟩ : ∃ y,(l)[(l.length - 1)]? = some y := ⟨(l)[(l.length - 1)]'oW,List.getElem?_eq_getElem _⟩
 obtain ⟨b1,f1,rfl,hU1⟩ := hl.at_ (l.length - 1) y1 hy1
 have hyd := (hl.ok y1 (List.mem_of_getElem? hy1)).d
 unfold R47 at hyd
 refine cH (.pointer (some ⟨b1,f1 + (l.length - 1) * 5,none⟩)) (rIx 38 rfl b1 f1 l.length c (l.length - 1) 5) ?_
 refine zq 1 (zV b1 (f1 + (l.length - 1) * 5 + 4) (St y1.d) (hU1 4 _ rfl) 9 (.tmp 11) _ Tryz.underlying9 rfl ?_)
 refine zq 2 (eE 14 (U6 (IntKind.u64.wrap (((y1.d).length : Nat) : Int))) (N6 ((y1.d).length : Nat)) (congrArg (Value.int .u64) (u64_in oW oW)) ?_)
 refine zq 1 (zn (zB [0,0,1,0,0,0] [(b0,1)] (aK 20 ((gC .u64 (p.f : Int) 1) == 0) (fun h0 => ?_) (fun h0 => ?_))))
 ·
  refine zq 11 (zn (aA (aH [2] [(.bool true)] (fun W' hM => ?_))))
  refine ⟨?_,hM.below⟩
  unfold aEc
  rw [hy1]
  simp only [cG,h0,bs,bQ,reduceIte]
 ·
  refine cU [0,0,1,0,0,0,0,1,0,0,0] [(b0,1),(b0,1)] (zn (aA (aH [2] [(.bool (decide ((IntKind.u64.wrap ((p.off : Int) + (((y1.d).length : Nat) : Int))) ≤ (p.tot : Int))))] (fun W' hM => ?_))))
  refine ⟨?_,hM.below⟩
  unfold aEc
  rw [hy1]
  simp only [cG,h0,bs,bQ,reduceIte]
def oU (l : List Bk) : Int := match l.find? (fun x => aG x != 0) with
 | some x => aG x
 | none => 0
theorem aDe {l : List Bk} {i : Nat} {y : Bk} (h : l[i]? = some y) : oU (l.drop i) = if (aG y != 0) = true then aG y else oU (l.drop (i + 1)) := by
 unfold oU
 rw [cK h, List.find?_cons]
 cases aG y != 0 <;> simp
def eO (p : Pr) (l : List Bk) : Int := if aO p != 0 then aO p else oU l
theorem aHE (p : Pr) (l : List Bk) (a : Option Addr) (c : Nat) (w : World) {U : View} (hU : See U w) (hp : p.ok) (hl : cX U a l) : CP 201 #[bnV p a l.length c] w (Ret (.int .i64 (eO p l)) w) := by
 have hlen := hl.len
 unfold R47 at hlen
 refine eG 26 Tryz.func201 hU ?_
 refine zs (zr (cJ (fun b0 => (zq 1 (zn (zs (zB [0,1] [(b0,19)] (dL (fun W hM => qI p W hp) (zq 1 (zn (zQ 2 (zn (cD ((aO p) != 0) (fun h0 => ?_) (fun h0 => ?_))))))))))))))
 ·
  refine zQ 2 (zn (aA (aH [2] [(I6 (aO p))] (fun W' hM => ?_))))
  refine ⟨?_,hM.below⟩
  unfold eO
  rw [if_pos h0]
  rfl
 ·
  have h0d := bne_eq_false_iff_eq.1 h0
  refine zk (zs (zB [0,1,0,0] [(b0,1)] (zn (aB (gX (α := Nat) (fun x => [2,14,15,16].zip [(I6 0),(.slice a l.length c),(L6 l.length),(L6 x)]) (fun x => U) (fun x => [(bK b0 (eB p a l.length c) 29)]) (fun x => x ≤ l.length ∧ oU (l.drop x) = oU l) (fun x => l.length - x) 0 ?_ ?_)))))
  · exact ⟨Nat.zero_le _,rfl⟩
  intro x hx
  obtain ⟨hx1,hx2⟩ := hx
  refine zQ 1 (zn (zs (cD (decide ((x : Int) < (l.length : Int))) (fun h1 => ?_) (fun h1 => ?_))))
  ·
   have h1d := of_decide_eq_true h1
   refine zk (zs (aB (zs (zr ?_))))
   obtain ⟨y1,hy1⟩ : ∃ y,(l)[x]? = some y := ⟨(l)[x]'oW,List.getElem?_eq_getElem _⟩
   obtain ⟨b1,f1,rfl,hU1⟩ := hl.at_ x y1 hy1
   refine cH (Pt b1 (f1 + x * 5)) (rIx 38 rfl b1 f1 l.length c x 5) ?_
   refine zU b1 (f1 + x * 5) y1.cs hU1 38 (.tmp 18) _ Tryz.underlying38 rfl ?_
   refine cJ (fun b2 => (aY 1 b2 (zn (zB [2] [(b2,5)] (dL (fun W hM => qP y1 W) (zq 1 (zn (zQ 2 (zn (cD ((aG y1) != 0) (fun h2 => ?_) (fun h2 => ?_)))))))))))
   ·
    have h2d := bne_iff_ne.1 h2
    refine zQ 2 (zn (aA (aH [2] [(I6 (aG y1))] (fun W' hM => ?_))))
    refine ⟨?_,hM.below⟩
    unfold eO
    rw [if_neg (by rw [h0]; exact Bool.false_ne_true),← hx2,aDe hy1,if_pos h2]
    rfl
   ·
    have h2d := bne_eq_false_iff_eq.1 h2
    refine zk (zr (zq 1 (eV 25 ((x : Int) + 1) (zq 1 (zn ?_)))))
    refine nx (x + 1) ?_ ?_ (d := fun _ h => Mem.sub (List.sublist_append_left _ _) (h.eqv (show _ = ([(bK b0 (eB p (some ⟨b1,f1,none⟩) l.length c) 29)] : aF) ++ ([(bK b2 y1.cs 38)] : aF) from by kernel_rfl)))
    · exact ⟨by omega,by rw [← hx2,aDe hy1,h2]; rfl⟩
    · show l.length - (x + 1) < l.length - x; omega
  ·
   have h1d := of_decide_eq_false h1
   refine aU (zQ 1 (zn (aA (aH [2] [(I6 0)] (fun W' hM => ?_)))))
   refine ⟨?_,hM.below⟩
   unfold eO
   rw [if_neg (by rw [h0]; exact Bool.false_ne_true),← hx2,cY oW]
   rfl
theorem aAA : qW Tryz.prog 232 sU := aHb Tryz.underlying232 Tryz.underlying3 (fun w => by kernel_rfl)
def bump (x : Int) (m : List (Int × Int)) : List (Int × Int) := lX x (IntKind.i64.wrap (fE x m + 1)) m
def aBQ : List Bk → List (Int × Int) → List (Int × Int) → Bool
 | [], _, t => (fE 1 t == 1) && decide (fE 6 t < 2) && decide (fE 7 t < 2) && decide (fE 10 t < 2)
 | y :: r, m, t => if decide (fE y.n (bump y.n m) > 1) then false else aBQ r (bump y.n m) (bump y.t t)
def aIQ (l : List Bk) : Bool := aBQ l [] []
theorem aCj {l : List Bk} {i : Nat} {y : Bk} {m t : List (Int × Int)} (h : l[i]? = some y) : aBQ (l.drop i) m t = if decide (fE y.n (bump y.n m) > 1) then false else aBQ (l.drop (i + 1)) (bump y.n m) (bump y.t t) := by
 rw [cK h, aBQ]
theorem aJT (l : List Bk) (a : Option Addr) (c : Nat) (w : World) {U : View} (hU : See U w) (hl : cX U a l) : CP 231 #[.slice a l.length c] w (Ret (.bool (aIQ l)) w) := by
 have hlen := hl.len
 unfold R47 at hlen
 refine eG 49 Tryz.func231 hU ?_
 refine zQ 1 (zn (zs (zr (cJ (fun b0 => (cJ (fun b1 => (zq 2 (zn (zs (zQ 3 (zn (aB (gX (α := Nat × List (Int × Int) × List (Int × Int)) (fun x => [2,3,4,9,10,11].zip [(.bool false),(.map (some b0)),(.map (some b1)),(.slice a l.length c),(L6 l.length),(L6 x.1)]) (fun x => U) (fun x => [(b0,(mO sU x.2.1)),(b1,(mO sU x.2.2))]) (fun x => x.1 ≤ l.length ∧ aBQ (l.drop x.1) x.2.1 x.2.2 = aIQ l) (fun x => l.length - x.1) (0,[],[]) ?_ ?_))))))))))))))
 · exact ⟨Nat.zero_le _,rfl⟩
 intro x hx
 obtain ⟨hx1,hx2⟩ := hx
 refine zQ 1 (zn (zs (cD (decide ((x.1 : Int) < (l.length : Int))) (fun h0 => ?_) (fun h0 => ?_))))
 ·
  have h0d := of_decide_eq_true h0
  refine zk (zs (aB (zs (zr ?_))))
  obtain ⟨y2,hy2⟩ : ∃ y,(l)[x.1]? = some y := ⟨(l)[x.1]'oW,List.getElem?_eq_getElem _⟩
  obtain ⟨b2,f2,rfl,hU2⟩ := hl.at_ x.1 y2 hy2
  refine cH (Pt b2 (f2 + x.1 * 5)) (rIx 38 rfl b2 f2 l.length c x.1 5) ?_
  refine zU b2 (f2 + x.1 * 5) y2.cs hU2 38 (.tmp 13) _ Tryz.underlying38 rfl ?_
  refine cJ (fun b3 => (aY 2 b3 (zn (zB [0,0,3] [(b3,1)] ?_))))
  refine mE aAA 0 b0 x.2.1 y2.n (.tmp 15) (.tmp 17) rfl kR kR kR kR kR ?_
  refine zq 1 ?_
  refine aEM aAA 0 b0 x.2.1 y2.n (IntKind.i64.wrap ((fE y2.n x.2.1) + 1)) (.tmp 15) (.tmp 17) (.tmp 19) rfl kR kR kR kR kR kR ?_
  refine zn (zB [0,0,3] [(b3,1)] ?_)
  refine mE aAA 1 b1 x.2.2 y2.t (.tmp 20) (.tmp 22) rfl kR kR kR kR kR ?_
  refine zq 1 ?_
  refine aEM aAA 1 b1 x.2.2 y2.t (IntKind.i64.wrap ((fE y2.t x.2.2) + 1)) (.tmp 20) (.tmp 22) (.tmp 24) rfl kR kR kR kR kR kR ?_
  refine zn (zB [0,0,3] [(b3,1)] ?_)
  refine mE aAA 0 b0 (lX y2.n (IntKind.i64.wrap ((fE y2.n x.2.1) + 1)) x.2.1) y2.n (.tmp 25) (.tmp 27) rfl kR kR kR kR kR ?_
  refine zq 1 (zn (cD (decide ((fE y2.n (lX y2.n (IntKind.i64.wrap ((fE y2.n x.2.1) + 1)) x.2.1)) > 1)) (fun h1 => ?_) (fun h1 => ?_)))
  ·
   have h1d := of_decide_eq_true h1
   refine zQ 1 (zn (aA (aH [2] [(.bool false)] (fun W' hM => ?_))))
   refine ⟨?_,hM.below⟩
   rw [← hx2,aCj hy2]
   unfold bump
   rw [if_pos h1]
   rfl
  ·
   have h1d := of_decide_eq_false h1
   refine zk (zr (zq 1 (eV 30 ((x.1 : Int) + 1) (zq 1 (zn ?_)))))
   refine nx (x.1 + 1,(lX y2.n (IntKind.i64.wrap ((fE y2.n x.2.1) + 1)) x.2.1),(lX y2.t (IntKind.i64.wrap ((fE y2.t x.2.2) + 1)) x.2.2)) ?_ ?_ (d := fun _ h => Mem.sub (List.sublist_append_left _ _) (h.eqv (show _ = ([(b0,(mO sU (lX y2.n (IntKind.i64.wrap ((fE y2.n x.2.1) + 1)) x.2.1))),(b1,(mO sU (lX y2.t (IntKind.i64.wrap ((fE y2.t x.2.2) + 1)) x.2.2)))] : aF) ++ ([(bK b3 y2.cs 38)] : aF) from by kernel_rfl)))
   · exact ⟨by show x.1 + 1 ≤ _; omega,by rw [← hx2,aCj hy2]; unfold bump; rw [if_neg (by rw [h1]; exact Bool.false_ne_true)]⟩
   · show l.length - (x.1 + 1) < l.length - x.1; omega
 ·
  have h0d := of_decide_eq_false h0
  refine aU (zQ 1 ?_)
  refine mE aAA 1 b1 x.2.2 1 (.tmp 31) _ rfl kR kR kR kR kR ?_
  refine zq 2 (aK 34 ((fE 1 x.2.2) == 1) (fun h2 => ?_) (fun h2 => ?_))
  ·
   have h2d := eq_of_beq h2
   refine zq 1 ?_
   refine mE aAA 1 b1 x.2.2 6 (.tmp 35) _ rfl kR kR kR kR kR ?_
   refine zq 3 (aK 39 (decide ((fE 6 x.2.2) < 2)) (fun h3 => ?_) (fun h3 => ?_))
   ·
    have h3d := of_decide_eq_true h3
    refine zq 1 ?_
    refine mE aAA 1 b1 x.2.2 7 (.tmp 40) _ rfl kR kR kR kR kR ?_
    refine zq 3 (aK 44 (decide ((fE 7 x.2.2) < 2)) (fun h4 => ?_) (fun h4 => ?_))
    ·
     have h4d := of_decide_eq_true h4
     refine zq 1 ?_
     refine mE aAA 1 b1 x.2.2 10 (.tmp 45) _ rfl kR kR kR kR kR ?_
     refine zq 3 (zn (aA (aH [2] [(.bool (decide ((fE 10 x.2.2) < 2)))] (fun W' hM => ?_))))
     refine ⟨?_,hM.below⟩
     rw [← hx2,cY oW]
     simp only [aBQ,cG,h2,h3,h4,bs,bQ,reduceIte]
    ·
     have h4d := of_decide_eq_false h4
     refine zq 5 (zn (aA (aH [2] [(.bool false)] (fun W' hM => ?_))))
     refine ⟨?_,hM.below⟩
     rw [← hx2,cY oW]
     simp only [aBQ,cG,h2,h3,h4,bs,bQ,reduceIte]
   ·
    have h3d := of_decide_eq_false h3
    refine zq 10 (zn (aA (aH [2] [(.bool false)] (fun W' hM => ?_))))
    refine ⟨?_,hM.below⟩
    rw [← hx2,cY oW]
    simp only [aBQ,cG,h2,h3,bs,bQ,reduceIte]
  ·
   have h2d := beq_eq_false_iff_ne.1 h2
   refine zq 15 (zn (aA (aH [2] [(.bool false)] (fun W' hM => ?_))))
   refine ⟨?_,hM.below⟩
   rw [← hx2,cY oW]
   simp only [aBQ,cG,h2,bs,bQ,reduceIte]
def gW (p : Pr) (l : List Bk) : Int := if decide ((l.length : Int) > 16) then 4 else if !aAr l || !aIQ l || ((p.time : Int) == 0 && !(aBv l 7).2) || !aEc p l then 8 else 0
theorem aHD (p : Pr) (l : List Bk) (a : Option Addr) (c : Nat) (w : World) {U : View} (hU : See U w) (hl : cX U a l) : CP 202 #[bnV p a l.length c] w (Ret (.int .i64 (gW p l)) w) := by
 refine eG 39 Tryz.func202 hU ?_
 refine zs (zr (cJ (fun b0 => (zq 1 (zn (zs (zB [0,1,0,0] [(b0,1)] (zn (cD (decide ((l.length : Int) > 16)) (fun h0 => ?_) (fun h0 => ?_))))))))))
 ·
  refine zQ 1 (zn (aA (aH [2] [(I6 4)] (fun W' hM => ?_))))
  exact ⟨by simp only [cG,gW,h0,bs,bQ,reduceIte],hM.below⟩
 ·
  have h0d := of_decide_eq_false h0
  refine zk (zB [1] [(b0,20)] (dA 229 #[(bnV p a l.length c),(I6 7)] (.tuple #[(aBv l 7).1.V,(.bool (aBv l 7).2)]) (fun W hM => aJV p l _ _ 7 W hM.view hl) ?_))
  refine zq 3 (cJ (fun b1 => (aY 1 b1 (zq 1 (zn (zs (zB [0,1] [(b0,1)] (dA 230 #[(.slice a l.length c)] (.bool (aAr l)) (fun W hM => aHF l _ _ W hM.view hl) ?_))))))))
  refine zq 2 (aK 18 (!(aAr l)) (fun h1 => ?_) (fun h1 => ?_))
  ·
   refine zq 20 (zn (dF (zQ 1 (zn (aA (aH [2] [(I6 8)] (fun W' hM => ?_)))))))
   exact ⟨by simp only [cG,gW,h0,h1,bs,bQ,reduceIte],hM.below⟩
  ·
   refine cU [0,1] [(b0,1)] (dA 231 #[(.slice a l.length c)] (.bool (aIQ l)) (fun W hM => aJT l _ _ W hM.view hl) ?_)
   refine zq 3 (aK 24 (!(aIQ l)) (fun h2 => ?_) (fun h2 => ?_))
   ·
    refine zq 14 (zn (dF (zQ 1 (zn (aA (aH [2] [(I6 8)] (fun W' hM => ?_)))))))
    exact ⟨by simp only [cG,gW,h0,h1,h2,bs,bQ,reduceIte],hM.below⟩
   ·
    refine cU [0,0,1,0,0] [(b0,1)] (aK 29 ((p.time : Int) == 0) (fun h3 => ?_) (fun h3 => ?_))
    ·
     have h3d := eq_of_beq h3
     refine zq 5 (aK 34 (!(aBv l 7).2) (fun h4 => ?_) (fun h4 => ?_))
     ·
      refine zq 4 (zn (dF (zQ 1 (zn (aA (aH [2] [(I6 8)] (fun W' hM => ?_)))))))
      exact ⟨by simp only [cG,gW,h0,h1,h2,h3,h4,bs,bQ,reduceIte],hM.below⟩
     ·
      refine cU [1] [(b0,20)] (dA 232 #[(bnV p a l.length c)] (.bool (aEc p l)) (fun W hM => aEx p l _ _ W hM.view hl (by simpa using h1)) ?_)
      refine zq 2 (zn (cD (!(aEc p l)) (fun h5 => ?_) (fun h5 => ?_)))
      ·
       refine zQ 1 (zn (aA (aH [2] [(I6 8)] (fun W' hM => ?_))))
       exact ⟨by simp only [cG,gW,h0,h1,h2,h3,h4,h5,bs,bQ,reduceIte],hM.below⟩
      ·
       refine zk (zQ 1 (zn (aA (aH [2] [(I6 0)] (fun W' hM => ?_)))))
       exact ⟨by simp only [cG,gW,h0,h1,h2,h3,h4,h5,bs,bQ,reduceIte],hM.below⟩
    ·
     have h3d := beq_eq_false_iff_ne.1 h3
     refine cU [0,0,0,0,0,1] [(b0,20)] (dA 232 #[(bnV p a l.length c)] (.bool (aEc p l)) (fun W hM => aEx p l _ _ W hM.view hl (by simpa using h1)) ?_)
     refine zq 2 (zn (cD (!(aEc p l)) (fun h6 => ?_) (fun h6 => ?_)))
     ·
      refine zQ 1 (zn (aA (aH [2] [(I6 8)] (fun W' hM => ?_))))
      exact ⟨by simp only [cG,gW,h0,h1,h2,h3,h6,bs,bQ,reduceIte],hM.below⟩
     ·
      refine zk (zQ 1 (zn (aA (aH [2] [(I6 0)] (fun W' hM => ?_)))))
      exact ⟨by simp only [cG,gW,h0,h1,h2,h3,h6,bs,bQ,reduceIte],hM.below⟩
theorem rD {p : Pr} (h : aO p = 0) : (dB p).length ≤ 4000 := by
 obtain ⟨hd, hs, hr, hc0, hc2⟩ := fS (fH h)
 have hzl := tL (2 * p.c.toNat)
 have hsz := tY (p := p) (Z (2 * p.c.toNat)) hd hs hr
 have hsz2 := aIc (l := prZ p) hc0 hc2
 have hb := Itm.eM p.tree
 unfold dB
 unfold Pr.tree prZ at *
 omega
theorem aBF {x : Bk} (h : aG x = 0) : (pY x).length ≤ 50000 := by
 obtain ⟨ht, hn, hc0, hc2, hf, hdl⟩ := fK h
 have hsz := aAf x []
 have hsz2 := aIa (l := eU x []) hc0 hc2
 have hb := Itm.eM x.tree
 unfold pY
 unfold Bk.tree at *
 simp only [List.length_nil] at hsz
 omega
def aDr (l : List Bk) : List UInt8 := l.flatMap pY
def rL (p : Pr) (l : List Bk) : List UInt8 := [159] ++ dB p ++ aDr l ++ [255]
theorem aCE {l : List Bk} {i : Nat} {y : Bk} (h : l[i]? = some y) : aDr (l.drop i) = pY y ++ aDr (l.drop (i + 1)) := by
 unfold aDr
 rw [cK h, List.flatMap_cons]
theorem aEu : ∀ (l : List Bk), (∀ x ∈ l, aG x = 0) → (aDr l).length ≤ 50000 * l.length
 | [], _ => Nat.le_refl _
 | x :: r, h => by
  have h1 := aBF (h x (List.mem_cons_self ..))
  have h2 := aEu r fun y hy => h y (List.mem_cons_of_mem _ hy)
  unfold aDr at *
  rw [List.flatMap_cons, List.length_append, List.length_cons]
  omega
theorem aDs (p : Pr) (l : List Bk) (a : Option Addr) (c : Nat) (w : World) {U : View} (hU : See U w) (hp : p.ok) (hl : cX U a l) (h0 : aO p = 0) (hb : ∀ x ∈ l, aG x = 0) (h16 : l.length ≤ 16) : CP 203 #[bnV p a l.length c] w (Ret (.string (B (rL p l))) w) := by
 have hl1 := rD h0
 have hl2 := aEu l hb
 refine eG 37 Tryz.func203 hU ?_
 refine zs (zr (cJ (fun b0 => (zq 1 (zn (zB [0,1] [(b0,19)] (dL (fun W hM => aCf p W hp h0) (zq 5 (zn (zs (zr (dL (fun W hM => aAd W) (zq 1 (cH (St ([159] ++ (dB p))) (cE _ _ _ _ rfl [159] (dB p) kR kR oA) ?_))))))))))))))
 refine zq 1 (zn (zs (zB [0,1,0,0] [(b0,1)] (zn (aB (gX (α := Nat × List UInt8) (fun x => [2,3,19,20,21].zip [(St []),(St x.2),(.slice a l.length c),(L6 l.length),(L6 x.1)]) (fun x => U) (fun x => [(bK b0 (eB p a l.length c) 29)]) (fun x => x.1 ≤ l.length ∧ x.2 ++ aDr (l.drop x.1) = ([159] ++ dB p) ++ aDr l) (fun x => l.length - x.1) (0,[159] ++ dB p) ?_ ?_))))))
 · exact ⟨Nat.zero_le _,rfl⟩
 intro x hx
 obtain ⟨hx1,hx2⟩ := hx
 have hxl := congrArg List.length hx2
 simp only [List.length_append,List.length_cons,List.length_nil] at hxl
 refine zQ 1 (zn (zs (cD (decide ((x.1 : Int) < (l.length : Int))) (fun h0 => ?_) (fun h0 => ?_))))
 ·
  have h0d := of_decide_eq_true h0
  refine zk (zs (aB (zs (zr ?_))))
  obtain ⟨y1,hy1⟩ : ∃ y,(l)[x.1]? = some y := ⟨(l)[x.1]'oW,List.getElem?_eq_getElem _⟩
  obtain ⟨b1,f1,rfl,hU1⟩ := hl.at_ x.1 y1 hy1
  have hyb := hb y1 (List.mem_of_getElem? hy1)
  have hyk := hl.ok y1 (List.mem_of_getElem? hy1)
  have hyl := aBF hyb
  have hyL2 := congrArg List.length (aCE hy1)
  simp only [List.length_append] at hyL2
  refine cH (Pt b1 (f1 + x.1 * 5)) (rIx 38 rfl b1 f1 l.length c x.1 5) ?_
  refine zU b1 (f1 + x.1 * 5) y1.cs hU1 38 (.tmp 23) _ Tryz.underlying38 rfl ?_
  refine cJ (fun b2 => (aY 1 b2 (zn (zB [2] [(b2,5)] (dL (fun W hM => aHG y1 W hyk hyb) (zq 5 (zn (zr (zq 2 (cH (St (x.2 ++ (pY y1))) (cE _ _ _ _ rfl x.2 (pY y1) kR kR oA) ?_))))))))))
  refine zq 1 (zn (zr (zq 1 (eV 33 ((x.1 : Int) + 1) (zq 1 (zn ?_))))))
  refine nx (x.1 + 1,(x.2 ++ (pY y1))) ?_ ?_ (d := fun _ h => Mem.sub (List.sublist_append_left _ _) (h.eqv (show _ = ([(bK b0 (eB p (some ⟨b1,f1,none⟩) l.length c) 29)] : aF) ++ ([(bK b2 y1.cs 38)] : aF) from by kernel_rfl)))
  · exact ⟨by show x.1 + 1 ≤ _; omega,by rw [← hx2,aCE hy1,List.append_assoc]⟩
  · show l.length - (x.1 + 1) < l.length - x.1; omega
 ·
  have h0d := of_decide_eq_false h0
  refine aU (zQ 1 (dL (fun W hM => aAc W) (cH (St (x.2 ++ [255])) (cE _ _ _ _ rfl x.2 [255] kR kR oA) ?_)))
  refine zq 1 (zn (aA (aH [2] [(St (x.2 ++ [255]))] (fun W' hM => ?_))))
  refine ⟨?_,hM.below⟩
  rw [cY oW] at hx2
  unfold rL
  rw [← hx2]
  simp only [cG,aDr,List.flatMap_nil,List.append_nil]
theorem aBc {p : Pr} {l : List Bk} (h : eO p l = 0) : aO p = 0 ∧ ∀ x ∈ l, aG x = 0 := by
 unfold eO at h
 split at h
 · next h1 => rw [h] at h1; cases h1
 ·
  next h1 =>
  refine ⟨by simpa using h1, fun x hx => ?_⟩
  unfold oU at h
  split at h
  ·
   next y hy =>
   have := List.find?_some hy
   rw [h] at this
   cases this
  ·
   next hn =>
   have := List.find?_eq_none.1 hn x hx
   simpa using this
def aAB (p : Pr) (l : List Bk) : List UInt8 × Int :=
 if eO p l != 0 then ([], eO p l) else if gW p l != 0 then ([], gW p l) else if decide (((rL p l).length : Int) > 4000) then ([], 4) else (rL p l, 0)
theorem aB5 {p : Pr} {l : List Bk} (h : (gW p l != 0) = false) : l.length ≤ 16 := by
 unfold gW at h
 split at h
 · cases h
 ·
  next h1 =>
  simp only [decide_eq_true_eq] at h1
  omega
theorem aJU (p : Pr) (l : List Bk) (a : Option Addr) (c : Nat) (w : World) {U : View} (hU : See U w) (hp : p.ok) (hl : cX U a l) : CP 156 #[bnV p a l.length c] w (Ret (.tuple #[.string (B (aAB p l).1), .int .i64 (aAB p l).2]) w) := by
 refine eG 23 Tryz.func156 hU ?_
 refine zs (zr (cJ (fun b0 => (zq 2 (zn (zs (zB [1] [(b0,20)] (dA 201 #[(bnV p a l.length c)] (I6 (eO p l)) (fun W hM => aHE p l _ _ W hM.view hp hl) ?_))))))))
 refine zq 1 (zn (zQ 2 (zn (cD ((eO p l) != 0) (fun h0 => ?_) (fun h0 => ?_)))))
 ·
  refine zQ 3 (zn (aA (aH [2,3] [(St []),(I6 (eO p l))] (fun W' hM => ?_))))
  refine ⟨?_,hM.below⟩
  unfold aAB
  simp only [cG,h0,bs,bQ,reduceIte]
 ·
  have h0d := bne_eq_false_iff_eq.1 h0
  refine zk (zs (zB [1] [(b0,20)] (dA 202 #[(bnV p a l.length c)] (I6 (gW p l)) (fun W hM => aHD p l _ _ W hM.view hl) ?_)))
  refine zq 1 (zn (zQ 2 (zn (cD ((gW p l) != 0) (fun h1 => ?_) (fun h1 => ?_)))))
  ·
   refine zQ 3 (zn (aA (aH [2,3] [(St []),(I6 (gW p l))] (fun W' hM => ?_))))
   refine ⟨?_,hM.below⟩
   unfold aAB
   simp only [cG,h0,h1,bs,bQ,reduceIte]
  ·
   have h1d := bne_eq_false_iff_eq.1 h1
   refine zk (zB [1] [(b0,20)] (dA 203 #[(bnV p a l.length c)] (St (rL p l)) (fun W hM => aDs p l _ _ W hM.view hp hl (aBc (by simpa using h0)).1 (aBc (by simpa using h0)).2 (aB5 h1)) ?_))
   refine zq 1 (zn (zs (zQ 3 (zn (cD (decide (((((rL p l)).length : Nat) : Int) > 4000)) (fun h2 => ?_) (fun h2 => ?_))))))
   ·
    refine zQ 2 (zn (aA (aH [2,3] [(St []),(I6 4)] (fun W' hM => ?_))))
    refine ⟨?_,hM.below⟩
    unfold aAB
    simp only [cG,h0,h1,h2,bs,bQ,reduceIte]
   ·
    refine zk (zQ 3 (zn (aA (aH [2,3] [(St (rL p l)),(I6 0)] (fun W' hM => ?_)))))
    refine ⟨?_,hM.below⟩
    unfold aAB
    simp only [cG,h0,h1,h2,bs,bQ,reduceIte]
def aZ (p : Pr) (l : List Bk) : Int := (aAB p l).2
theorem rK (p : Pr) (l : List Bk) (a : Option Addr) (c : Nat) (w : World) {U : View} (hU : See U w) (hp : p.ok) (hl : cX U a l) : CP 115 #[bnV p a l.length c] w (Ret (.int .i64 (aZ p l)) w) := by
 refine eG 11 Tryz.func115 hU ?_
 refine zs (zr (cJ (fun b0 => (zq 1 (zn (zB [1] [(b0,20)] (dA 156 #[(bnV p a l.length c)] (.tuple #[(St (aAB p l).1),(I6 (aAB p l).2)]) (fun W hM => aJU p l _ _ W hM.view hp hl) ?_)))))))
 refine zq 5 (zn (zQ 2 (zn (aA (jJ 2)))))
theorem aMM (x : Bk) (num : Int) (pb : Nat) (w : World) {U : View} (hU : See U w) (hp : U ⟨pb, 0, none⟩ = some (.int .i64 num)) : CP 133 #[x.V, .pointer (some ⟨pb, 0, none⟩)] w (Ret (.bool (x.n == num)) w) := by
 refine eG 8 Tryz.func133 hU ?_
 refine zs (zr (cJ (fun b0 => (zq 1 (zn (zB [0,1] [(b0,1)] (zV pb (0) (I6 num) hp 3 (.tmp 1) _ Tryz.underlying3 rfl ?_)))))))
 refine zq 2 (zn (aA (jJ 3)))
def aDa (num : Int) : Nat → List Bk → Int
 | _, [] => -1
 | i, x :: r => if x.n == num then (i : Int) else aDa num (i + 1) r
def gH (l : List Bk) (num : Int) : Int := aDa num 0 l
theorem jE {l : List Bk} {num : Int} {i : Nat} {y : Bk} (h : l[i]? = some y) : aDa num i (l.drop i) = if y.n == num then (i : Int) else aDa num (i + 1) (l.drop (i + 1)) := by
 rw [cK h, aDa]
theorem pU (num : Int) : ∀ (i : Nat) (l : List Bk), (aDa num i l = -1 ∧ ∀ x ∈ l, x.n ≠ num) ∨ ∃ (j : Nat) (x : Bk), aDa num i l = ((i + j : Nat) : Int) ∧ l[j]? = some x ∧ x.n = num ∧ j < l.length
 | i, [] => .inl ⟨rfl, fun x hx => by simp at hx⟩
 | i, x :: r => by
  rw [aDa]
  cases hx : x.n == num with
  | true => exact .inr ⟨0, x, by simp, rfl, eq_of_beq hx, by simp⟩
  | false =>
   simp only [Bool.false_eq_true, if_false]
   rcases pU num (i + 1) r with ⟨h1, h2⟩ | ⟨j, y, h1, h2, h3, h4⟩
   ·
    refine .inl ⟨h1, fun y hy => ?_⟩
    rcases List.mem_cons.1 hy with rfl | hy
    · exact beq_eq_false_iff_ne.1 hx
    · exact h2 y hy
   · exact .inr ⟨j + 1, y, by rw [h1]; congr 1; omega, h2, h3, by simp; omega⟩
theorem aJl (l : List Bk) (a : Option Addr) (c : Nat) (num : Int) (pb : Nat) (w : World) {U : View} (hU : See U w) (hl : cX U a l) (hp : U ⟨pb, 0, none⟩ = some (.int .i64 num)) :
    CP 67 #[.slice a l.length c, .func (.func 133) #[] #[.pointer (some ⟨pb, 0, none⟩)]] w (Ret (.int .i64 (gH l num)) w) := by
 have hlen := hl.len
 unfold R47 at hlen
 refine eG 19 Tryz.func67 hU ?_
 refine zQ 1 (zn (zs (zQ 3 (zn (aB (gX (α := Nat) (fun x => [0,1,4,7,8].zip [(.slice a l.length c),(.func (.func 133) #[] #[(Pt pb 0)]),(I6 0),(L6 l.length),(L6 x)]) (fun x => U) (fun x => []) (fun x => x ≤ l.length ∧ aDa num x (l.drop x) = gH l num) (fun x => l.length - x) 0 ?_ ?_))))))
 · exact ⟨Nat.zero_le _,rfl⟩
 intro x hx
 obtain ⟨hx1,hx2⟩ := hx
 refine zQ 1 (zn (zs (cD (decide ((x : Int) < (l.length : Int))) (fun h0 => ?_) (fun h0 => ?_))))
 ·
  have h0d := of_decide_eq_true h0
  refine zk (zs (aB (zQ 2 (zn (zQ 3 ?_)))))
  obtain ⟨y0,hy0⟩ : ∃ y,(l)[x]? = some y := ⟨(l)[x]'oW,List.getElem?_eq_getElem _⟩
  obtain ⟨b0,f0,rfl,hU0⟩ := hl.at_ x y0 hy0
  refine cH (Pt b0 (f0 + x * 5)) (rIx 38 rfl b0 f0 l.length c x 5) ?_
  refine zU b0 (f0 + x * 5) y0.cs hU0 38 (.tmp 14) _ Tryz.underlying38 rfl ?_
  refine dL (fun W hM => aMM y0 num pb W hM.view hp) (zn (cD (y0.n == num) (fun h1 => ?_) (fun h1 => ?_)))
  ·
   have h1d := eq_of_beq h1
   refine zQ 2 (zn (aA (aH [4] [(L6 x)] (fun W' hM => ?_))))
   refine ⟨?_,hM.below⟩
   rw [← hx2,jE hy0,if_pos h1]
   rfl
  ·
   have h1d := beq_eq_false_iff_ne.1 h1
   refine zk (zr (zq 1 (eV 18 ((x : Int) + 1) (zq 1 (zn ?_)))))
   refine nx (x + 1) ?_ ?_
   · exact ⟨by omega,by rw [← hx2,jE hy0,h1]; rfl⟩
   · show l.length - (x + 1) < l.length - x; omega
 ·
  have h0d := of_decide_eq_false h0
  refine aU (zQ 1 (zn (aA (aH [4] [(I6 (-1))] (fun W' hM => ?_)))))
  refine ⟨?_,hM.below⟩
  rw [← hx2,cY oW]
  rfl
theorem aJW (p : Pr) (l : List Bk) (a : Option Addr) (c : Nat) (num : Int) (w : World) {U : View} (hU : See U w) (hl : cX U a l) : CP 87 #[bnV p a l.length c, .int .i64 num] w (Ret (.int .i64 (gH l num)) w) := by
 refine eG 9 Tryz.func87 hU ?_
 refine zs (zr (cJ (fun b0 => (cJ (fun b1 => (zq 1 (zn (zB [0,1,0] [(b0,1)] ?_))))))))
 refine iE [(bK b0 (eB p a l.length c) 29)] [] b1 [(I6 num)] 3 kR (fun V2 hV2 hR2 => ?_)
 have k3 := hl.le hV2
 refine dA 67 #[(.slice a l.length c),(.func (.func 133) #[] #[(Pt b1 0)])] (I6 (gH l num)) (fun W hM => aJl l _ _ num b1 W hM.view k3 (hR2 0 _ rfl)) ?_
 refine zq 1 (zn (aA (jJ 4)))
def aJ (l : List Bk) (num : Int) : Bk × Bool := match l.find? (fun x => x.n == num) with
 | some x => (x, true)
 | none => (Bk.none, false)
theorem aAL {l : List Bk} {num : Int} (h : gH l num < 0) : aJ l num = (Bk.none, false) := by
 rcases pU num 0 l with ⟨_, h2⟩ | ⟨j, x, h1, _⟩
 ·
  unfold aJ
  rw [List.find?_eq_none.2 fun x hx => by simpa using h2 x hx]
 ·
  unfold gH at h
  omega
theorem aGd (num : Int) : ∀ (i : Nat) (l : List Bk) (j : Nat), aDa num i l = ((i + j : Nat) : Int) → ∃ x, l[j]? = some x ∧ l.find? (fun x => x.n == num) = some x
 | i, [], j, h => by unfold aDa at h; omega
 | i, x :: r, j, h => by
  unfold aDa at h
  cases hx : x.n == num with
  | true =>
   rw [hx] at h
   simp only [if_true] at h
   obtain rfl : j = 0 := by omega
   exact ⟨x, rfl, by rw [List.find?_cons, hx]⟩
  | false =>
   rw [hx] at h
   simp only [Bool.false_eq_true, if_false] at h
   cases j with
   | zero =>
    rcases pU num (i + 1) r with ⟨h1, _⟩ | ⟨k, y, h1, _⟩ <;> omega
   | succ j =>
    obtain ⟨y, h1, h2⟩ := aGd num (i + 1) r j oW
    exact ⟨y, h1, by rw [List.find?_cons, hx]; exact h2⟩
theorem sV {l : List Bk} {num : Int} {y : Bk} (h0 : ¬ gH l num < 0) (hy : l[(gH l num).toNat]? = some y) : aJ l num = (y, true) := by
 have h0' : gH l num = ((0 + (gH l num).toNat : Nat) : Int) := by omega
 obtain ⟨x, h1, h2⟩ := aGd num 0 l _ h0'
 rw [hy] at h1
 cases h1
 unfold aJ
 rw [h2]
theorem aDc {l : List Bk} {num : Int} (h0 : ¬ gH l num < 0) : (gH l num).toNat < l.length ∧ gH l num = ((gH l num).toNat : Int) := by
 rcases pU num 0 l with ⟨h1, _⟩ | ⟨j, x, h1, _, _, h4⟩ <;> unfold gH at * <;> omega
theorem lB (p : Pr) (l : List Bk) (a : Option Addr) (c : Nat) (num : Int) (w : World) {U : View} (hU : See U w) (hl : cX U a l) : CP 64 #[bnV p a l.length c, .int .i64 num] w (Ret (.tuple #[(aJ l num).1.V, .bool (aJ l num).2]) w) := by
 have hi := aDc (l := l) (num := num)
 refine eG 18 Tryz.func64 hU ?_
 refine zs (zr (cJ (fun b0 => (cJ (fun b1 => (zq 1 (zn (zB [1,0] [(b0,20)] (dA 87 #[(bnV p a l.length c),(I6 num)] (I6 (gH l num)) (fun W hM => aJW p l _ _ num W hM.view hl) ?_)))))))))
 refine zq 1 (zn (zs (zQ 2 (zn (cD (decide ((gH l num) < 0)) (fun h0 => ?_) (fun h0 => ?_))))))
 ·
  have h0d := of_decide_eq_true h0
  refine zQ 1 (aY 1 b1 (zq 1 (zn (aA (dU [2,0] [(b1,5)] [(.agg #[(I6 0),(I6 0),(U6 0),(I6 0),(St [])]),(.bool false)] (fun W' hM => ?_))))))
  refine ⟨?_,hM.below⟩
  rw [aAL oW]
  rfl
 ·
  have h0d := of_decide_eq_false h0
  refine zk (zB [0,1,0] [(b0,1)] ?_)
  obtain ⟨hi1,hi2⟩ := hi oW
  refine eE 15 (I6 (gH l num)) (I6 ((gH l num).toNat : Int)) (congrArg (Value.int .i64) hi2) ?_
  obtain ⟨y2,hy2⟩ : ∃ y,(l)[((gH l num).toNat)]? = some y := ⟨(l)[((gH l num).toNat)]'oW,List.getElem?_eq_getElem _⟩
  obtain ⟨b2,f2,rfl,hU2⟩ := hl.at_ ((gH l num).toNat) y2 hy2
  refine cH (.pointer (some ⟨b2,f2 + ((gH l num).toNat) * 5,none⟩)) (aDE _ 38 _ _ rfl b2 f2 l.length c ((gH l num).toNat) 5 .i64 kR kR (by first | assumption | omega) kR kR) ?_
  refine zU b2 (f2 + ((gH l num).toNat) * 5) y2.cs hU2 38 (.tmp 16) _ Tryz.underlying38 rfl ?_
  refine aY 1 b1 (zq 1 (zn (aA (dU [2,0] [(b1,5)] [(y2.V),(.bool true)] (fun W' hM => ?_)))))
  refine ⟨?_,hM.below⟩
  rw [sV oW hy2]
  rfl
theorem aKq {A zs : List Value} {k : Nat} (h : k + zs.length ≤ A.length) : (cA A k zs).length = A.length := by
 unfold cA
 simp only [List.length_append, List.length_take, List.length_drop]
 omega
theorem fN.mono {W0 : Cx} {U : View} {σF : aF} {Φ Ψ : Value → View → aF → Prop} {e : Ending} {W' : World} (h : fN W0 U σF Φ e W') (hi : ∀ v V σ', Φ v V σ' → Ψ v V σ') : fN W0 U σF Ψ e W' := by
 obtain ⟨v, V, σ', he, hl, hM, hΦ⟩ := h
 exact ⟨v, V, σ', he, hl, hM, hi v V σ' hΦ⟩
def lC (l : List Bk) (v : Value) (V : View) : Prop := ∃ a c, v = .slice a l.length c ∧ cX V a l
theorem lC.mono {l : List Bk} {v : Value} {V V' : View} (hl : View.le V V') (h : lC l v V) : lC l v V' := by
 obtain ⟨a, c, e, hb⟩ := h
 exact ⟨a, c, e, hb.le hl⟩
theorem cX.openR {U : View} {a : Option Addr} {l : List Bk} (h : cX U a l) (hne : l ≠ []) : ∃ b f, a = some ⟨b, f, none⟩ ∧ U.range b f (l.flatMap Bk.cs) := by
 obtain ⟨b, f, ha, _⟩ := h.at_ 0 (l[0]'(by cases l <;> simp_all)) (List.getElem?_eq_getElem _)
 refine ⟨b, f, ha, cX.flat fun i x hx => ?_⟩
 obtain ⟨b', f', ha', hr⟩ := h.at_ i x hx
 rw [ha] at ha'
 cases ha'
 exact hr
theorem tD : ∀ (l : List Bk) (i : Nat), (l.flatMap Bk.cs).drop (i * 5) = (l.drop i).flatMap Bk.cs
 | l, 0 => by simp
 | [], i + 1 => by simp
 | x :: l, i + 1 => by
  rw [List.flatMap_cons, List.drop_succ_cons, ← tD l i, show (i + 1) * 5 = x.cs.length + i * 5 by simp only [Bk.cs, List.length_cons, List.length_nil]; omega, List.drop_append]
  simp
theorem sZ : ∀ (l : List Bk) (i : Nat), (l.flatMap Bk.cs).take (i * 5) = (l.take i).flatMap Bk.cs
 | l, 0 => by simp
 | [], i + 1 => by simp
 | x :: l, i + 1 => by
  rw [List.flatMap_cons, List.take_succ_cons, List.flatMap_cons, ← sZ l i, show (i + 1) * 5 = x.cs.length + i * 5 by simp only [Bk.cs, List.length_cons, List.length_nil]; omega, List.take_append, List.take_of_length_le oW, Nat.add_sub_cancel_left]
section
variable {P : Program} {n : Nat} {W0 : Cx} {s : cB} {U : View} {σ : aF} {ops : Array Oper} {ds : List Nat} {vs : List Sq} {t : aOd}
theorem oqK (i : Nat) {o : Oper} (hi : ops[i]? = some o) (hg : o.guard = none) (v : Value) (hvi : vs[i]? = some (.val v)) (ts : List Nat) (vals : (Nat → Value) → List Value) (hsl : ∀ u, (ts.map fun t => look (jZ ops ds vs u i ++ aV s ds) t) = (vals u).map some)
  (h : ∀ (u : Nat → Value) (V : View), View.le U V → (∀ j, cI .any ops i j = true → gJ vs j (u j) V) → quiet P (ts.zip (vals u)) o = some v) : Oq P n W0 U σ ops ds vs s i :=
 Oq.op i hi _ hvi fun u V hV hd => by
  have hq := h u V hV hd
  refine ⟨by unfold cZ; rw [hg], fun a W ha hM Q K hK => ?_⟩
  unfold Oper.wp
  rw [mR (fX ts _ ha (hsl u)) hq]
  exact hK v W hM rfl (Below.refl _ _)
theorem wK {ks : List Nat} {tv : List Sq} {i : Nat} {v : Value} (ts : List Nat) (vals : (Nat → Value) → List Value) (h : ∀ (u : Nat → Value) (V : View), View.le U V → aNM ops ks tv u V i → quiet P (ts.zip (vals u)) (mY ops i) = some v)
  (hi : ops[i]? = some (mY ops i) := by rfl) (hg : (mY ops i).guard = none := by rfl) (hsl : ∀ u, (ts.map fun t => look (jZ ops ds vs u i ++ aV s ds) t) = (vals u).map some := by intro u; kernel_rfl) : Oqw P n W0 U σ ops ds ks tv vs s i (.val v) :=
 fun hl hvi => oqK i hi hg v hvi ts vals hsl fun u V hV hd => h u V hV (aDl hl hd)
theorem ObC.o (i : Nat) (h1 : i ≠ t.j) (h2 : i ≠ t.i) (h : ∀ σ', Oq P n W0 U (σ ++ σ') ops ds vs s i) : ObC P n W0 U σ ops ds vs s t i := by
 unfold ObC
 rw [if_neg h1, if_neg h2]
 exact h
theorem ObC.own (h : aOR P n W0 U σ ops ds vs s t) : ObC P n W0 U σ ops ds vs s t t.j := by
 unfold ObC
 rw [if_pos rfl]
 exact h
theorem ObC.take (hne : t.i ≠ t.j) (h : aMJ P n W0 U σ ops ds vs s t) : ObC P n W0 U σ ops ds vs s t t.i := by
 unfold ObC
 rw [if_neg hne, if_pos rfl]
 exact h
end
theorem aAy {P : Program} (w : World) (tS tR e : TypeId) (ht : P.underlying tS = some (.slice e)) (size : Nat) (hz : ∀ w, (Go.sizeOf e).run P w = .ok size w)
  (a b : Addr) (la ca lb cb : Nat) (hne : a.block ≠ b.block) (tA tB : TypeId) (kA kB : Nat)
  (hsa : w.shape? a.block = some (tA, kA + 1)) (hsb : w.shape? b.block = some (tB, kB)) (hfb : w.frozen? b = false) (hfe : w.frozen? { block := b.block, off := kB } = false) :
  (Extern.SlicesOverlaps.overlaps #[tS, tS] #[tR] #[.slice (some a) la ca, .slice (some b) lb cb]).run P w = .ok (.bool false) w := by
 have hnb : (a.block != b.block) = true := by simpa using hne
 have hnb' : (a.block == b.block) = false := by simpa using hne
 change Sem.run P (α := Value) (do
  let some t := (#[tS, tS] : Array TypeId)[0]? | stuck "slices.overlaps: no parameter types"
  let .slice elem ← underlying t | stuck "slices.overlaps: slice type expected"
  let size ← sizeOf elem
  match (some a : Option Addr), (some b : Option Addr) with
  | some a, some b =>
   if la = 0 ∨ lb = 0 ∨ size = 0 then pure (Value.bool false)
   else if a.block != b.block && (← frozen a) && (← frozen b) then unsupported .addressObserved
   else do
    if a.block != b.block then do
     noView a; noView b
     if ← mayBeOne a b then return Value.bool ((← choose (.extern "sameAddr.stringBytes" 2)) == 1)
    pure (Value.bool (a.block == b.block && a.off < b.off + lb * size && b.off < a.off + la * size))
  | _, _ => pure (Value.bool false)) w = _
 by_cases h0 : la = 0 ∨ lb = 0 ∨ size = 0
 · simp [run_underlying ht, hz, h0]
 ·
  cases hfa : w.frozen? a <;> cases hfk : w.frozen? { block := a.block, off := kA + 1 } <;>
   simp [run_underlying ht, hz, h0, hnb, hnb', frozen, noView, viewAt, mayBeOne, stringish, shape, Sem.run, hsa, hsb, hfb, hfe, hfa, hfk]
theorem aGN {w : World} {a : Addr} {v : Value} (h : w.cell? a = some v) : ∃ t k, w.shape? a.block = some (t, k + 1) := by
 unfold World.cell? at h
 split at h
 ·
  next c e fr hb =>
  split at h
  · cases h
  ·
   have hlt := (Array.getElem?_eq_some_iff.1 h).1
   refine ⟨e, c.size - 1, ?_⟩
   unfold World.shape?
   rw [hb]
   simp only [Option.some.injEq, Prod.mk.injEq, true_and]
   omega
 · cases h
theorem aIM (l σF : aF) (y : Nat × Obj) : ((l ++ σF) ++ [y]).Perm ((l ++ [y]) ++ σF) := by
 rw [List.append_assoc, List.append_assoc]
 exact List.Perm.append_left l List.perm_append_comm
section
variable {P : Program} {n : Nat} {W0 : Cx} {Q : XQ} {s : cB} {U : View} {σ : aF} {ops : Array Oper} {l : List Oper} {o : Oper}
theorem aL4 (v : Value) (hk : known s o = true) (hrun : ∀ W : World, Mem W0 U σ W → (execOp (ev s) o).run P W = .ok (.value v) W) (hd : eL n o = true) (hw : cZ ops s o = some true) (hn : SXL P n W0 Q ops l (jX o v s) U σ) : SXL P n W0 Q ops (o :: l) s U σ := by
 refine oG hd hw fun a W ha hM K hK => ?_
 unfold Oper.wp
 rw [fO ha hk, hrun W hM]
 exact hK _ _ _ _ _ hn (eD ha hd) hM
theorem aMd {fid : FuncId} {fn : Func} {tS tR e te : TypeId} {size : Nat} (x y : Operand) (ts : Array TypeId) (ho : o.op = .call { callee := .value (.func fid), args := #[x, y], argTypes := ts }) (hf : P.funcs[fid]? = some fn) (hname : (fn.name == "runtime.NumGoroutine") = false)
  (hb : fn.body.isNone = true) (hn : Extern.findNext fn = none) (he : Extern.find fn = some (Extern.SlicesOverlaps.overlaps #[tS, tS] #[tR])) (ht : P.underlying tS = some (.slice e)) (hz : (P.info? e).map (·.size) = some size)
  (k g f la ca b off lb cb : Nat) (cs : List Value) (v0 : Value) (hx : evS s x = some (.slice (some ⟨g, f, none⟩) la ca)) (hy : evS s y = some (.slice (some ⟨b, off, none⟩) lb cb)) (hu : U ⟨g, f, none⟩ = some v0) (hk : σ[k]? = some (b, .cells cs.toArray te (0, 0)))
  (W : World) (hM : Mem W0 U σ W) : (execOp (ev s) o).run P W = .ok (.value (.bool false)) W := by
 obtain ⟨q1, _, q3⟩ := hM.own k b _ hk
 have hne : g ≠ b := fun e => by rw [q3 ⟨g, f, none⟩ e] at hu; cases hu
 obtain ⟨tA, kA, hsa⟩ := aGN (hM.view _ _ hu)
 have hsb : W.shape? b = some (te, cs.length) := by unfold World.shape?; rw [q1]; simp
 have hfr : ∀ i, W.frozen? ⟨b, i, none⟩ = false := fun i => by unfold World.frozen?; rw [q1]; simp
 unfold execOp
 simp only [ho, resolve, invoke, Sem.run_bind, Sem.run_pure, Result.andThen_ok, List.map_toArray, List.map_cons, List.map_nil, eF hx, eF hy]
 have := run_callFunc_extern (P := P) hf hname hb hn he #[.slice (some ⟨g, f, none⟩) la ca, .slice (some ⟨b, off, none⟩) lb cb] W
 rw [aAy W tS tR e ht size (fun w => sC hz w) ⟨g, f, none⟩ ⟨b, off, none⟩ la ca lb cb hne tA te kA cs.length hsa hsb (hfr off) (hfr _)] at this
 exact this
theorem aM7 (b f n1 c k z bytes : Nat) (olds : List Value) (e t tn : TypeId) (zv : Value) (kn kq : IntKind) (x y : Operand) (ho : o.op = .call { callee := .builtin .append, args := #[x, y], argTypes := #[t, tn] }) (hx : evS s x = some (.slice (some ⟨b, f, none⟩) n1 c)) (hy : evS s y = some (.int kq (k : Int)))
  (hr : ∀ W, Mem W0 U σ W → W.rangeAt b f olds) (hl : olds.length = n1 * z) (hk : 0 < k) (hg : c < n1 + k) (hle : n1 + k ≤ 1000000000) (hby : (n1 + k) * bytes ≤ 140737488355328)
  (hu : P.underlying t = some (.slice e)) (hun : P.underlying tn = some (.int kn)) (hinfo : (P.info? e).map (fun i => (i.size, i.bytes, i.zero)) = some (z, bytes, some zv)) (hzs : zv.cells.size = z) (hz0 : 0 < z)
  (hd : eL n o = true) (hw : cZ ops s o = some true)
  (h : ∀ (g cap : Nat) (ys : List Value), n1 + k ≤ cap → cap ≤ maxLen → (olds ++ ys).length = cap * z → SXL P n W0 Q ops l (jX o (.slice (some ⟨g, 0, none⟩) (n1 + k) cap) s) U (σ ++ [(g, .cells (olds ++ ys).toArray e (0, 0))])) : SXL P n W0 Q ops (o :: l) s U σ := by
 refine oG hd hw fun a W ha hM K hK => ?_
 obtain ⟨i, hi, hz, hsize, hbyt⟩ : ∃ i, P.info? e = some i ∧ i.zero = some zv ∧ i.size = z ∧ i.bytes = bytes := by
  cases hq : P.info? e with
  | none => rw [hq] at hinfo; cases hinfo
  | some i =>
   rw [hq] at hinfo
   simp only [Option.map_some, Option.some.injEq, Prod.mk.injEq] at hinfo
   exact ⟨i, rfl, hinfo.2.2, hinfo.1, hinfo.2.1⟩
 subst hsize hbyt
 have hrun := aA0 (P := P) (hr W.drew hM.drew) hl n1 c
 have happ := Lib.run_append_grow_zeros (P := P) W t tn o.type e i zv kq kn hu hun hi hz (some ⟨b, f, none⟩) n1 c olds hrun k hk hz0 hg oW (by
  have : k * i.bytes ≤ (n1 + k) * i.bytes := Nat.mul_le_mul_right _ oW
  omega) (growslice_fits hg hby)
 have hge := grownCap_ge W (n1 + k) c e
 have hml := grownCap_le_maxLen W (n1 + k) c e (by unfold maxLen; omega)
 unfold Oper.wp execOp
 simp only [ho, resolve, invoke, builtin, Sem.run_bind, Sem.run_pure, Result.andThen_ok, List.map_toArray, List.map_cons, List.map_nil, dZ ha hx, dZ ha hy, happ]
 have key := h W.heap.size (grownCap W (n1 + k) c e) ((Builtin.zeroCells zv.cells k).toList ++ (Builtin.zeroCells zv.cells (grownCap W (n1 + k) c e - (n1 + k))).toList) hge hml (by
  simp only [List.length_append, hl, Builtin.zeroCells, Array.length_toList, Array.size_map, Array.size_range, hzs]
  rw [← Nat.add_mul, ← Nat.add_mul]
  congr 1
  omega)
 have hM2 := hM.drew.alloc (.cells (olds ++ ((Builtin.zeroCells zv.cells k).toList ++ (Builtin.zeroCells zv.cells (grownCap W (n1 + k) c e - (n1 + k))).toList)).toArray e (0, 0))
 refine hK _ _ _ _ _ key (eD ha hd) ?_
 have e1 : (olds.toArray ++ Builtin.zeroCells zv.cells k ++ Builtin.zeroCells zv.cells (grownCap W (n1 + k) c e - (n1 + k))) = (olds ++ ((Builtin.zeroCells zv.cells k).toList ++ (Builtin.zeroCells zv.cells (grownCap W (n1 + k) c e - (n1 + k))).toList)).toArray := by
  apply Array.toList_inj.1
  simp
 rw [e1]
 exact hM2
end
theorem aFS (A B C zs : List Value) (k : Nat) (hk : A.length = k) (h : zs.length = B.length) : cA (A ++ B ++ C) k zs = A ++ zs ++ C := by
 subst hk
 unfold cA
 rw [List.append_assoc A B C, List.take_left, h, ← List.length_append, ← List.append_assoc, List.drop_left]
theorem aFK (A B : List Value) (k : Nat) (hk : A.length = k) : (A ++ B).take k = A := by
 subst hk
 exact List.take_left
theorem aOk (l : List Value) (k m : Nat) (h : k + m ≤ l.length) : ∃ A B C, l = A ++ B ++ C ∧ A = l.take k ∧ B = (l.drop k).take m ∧ A.length = k ∧ B.length = m := by
 refine ⟨l.take k, (l.drop k).take m, (l.drop k).drop m, ?_, rfl, rfl, by rw [List.length_take]; omega, by rw [List.length_take, List.length_drop]; omega⟩
 rw [List.append_assoc, List.take_append_drop, List.take_append_drop]
theorem aLi {olds ys vs last : List Value} {i : Nat} (ho : olds.length = i * 5) (hy : 10 ≤ ys.length) (hv : vs.length = 5) (hl : last.length = 5) :
  (cA (cA (olds ++ ys) (0 + i * 5) vs) (0 + (i + 1) * 5) last).take ((i + 2) * 5) = olds ++ vs ++ last := by
 obtain ⟨A, B, C, rfl, _, _, hA, hB⟩ := aOk ys 5 5 hy
 rw [show olds ++ (A ++ B ++ C) = olds ++ A ++ (B ++ C) by simp, aFS olds A (B ++ C) vs _ oW oW, show olds ++ vs ++ (B ++ C) = (olds ++ vs) ++ B ++ C by simp,
  aFS (olds ++ vs) B C last _ (by rw [List.length_append]; omega) oW]
 exact aFK _ _ _ (by simp only [List.length_append]; omega)
theorem aLh {xs junk vs : List Value} {i : Nat} (hx : xs.length = (i + 1) * 5) (hj : 5 ≤ junk.length) (hv : vs.length = 5) :
  (cA (cA (xs ++ junk) (0 + (i + 1) * 5) (xs.drop (i * 5))) (0 + i * 5) vs).take ((i + 2) * 5) = xs.take (i * 5) ++ vs ++ xs.drop (i * 5) := by
 obtain ⟨A, B, C, rfl, _, _, hA, hB⟩ := aOk junk 0 5 oW
 have hA0 : A = [] := List.length_eq_zero_iff.1 hA
 subst hA0
 have hd : (xs.drop (i * 5)).length = 5 := by rw [List.length_drop]; omega
 rw [List.nil_append, ← List.append_assoc, aFS xs B C _ _ oW oW]
 have ex : xs ++ xs.drop (i * 5) ++ C = xs.take (i * 5) ++ xs.drop (i * 5) ++ (xs.drop (i * 5) ++ C) := by
  rw [List.take_append_drop, List.append_assoc]
 rw [ex, aFS (xs.take (i * 5)) (xs.drop (i * 5)) _ vs _ (by rw [List.length_take]; omega) oW, ← List.append_assoc]
 exact aFK _ _ _ (by simp only [List.length_append, List.length_take, hd]; omega)
theorem aCn {W : World} {b i : Nat} {xs junk : List Value} {t : TypeId} (hb : W.heap[b]? = some (.cells (xs ++ junk).toArray t (0, 0))) : W.rangeAt b (0 + i * 5) (xs.drop (i * 5)) := by
 intro j v hj
 rw [cell_of_row _ _ _ _ _ _ hb, Nat.zero_add]
 rw [List.getElem?_drop] at hj
 have hlt := (List.getElem?_eq_some_iff.1 hj).1
 simp only [List.getElem?_toArray]
 rw [List.getElem?_append_left hlt]
 exact hj
theorem aHn {W : World} {b i : Nat} {xs junk : List Value} {t : TypeId} (hb : W.heap[b]? = some (.cells (xs ++ junk).toArray t (0, 0))) : W.rangeAt b 0 (xs.take (i * 5)) := by
 intro j v hj
 rw [cell_of_row _ _ _ _ _ _ hb, Nat.zero_add]
 rw [List.getElem?_take] at hj
 split at hj
 ·
  have hlt := (List.getElem?_eq_some_iff.1 hj).1
  simp only [List.getElem?_toArray]
  rw [List.getElem?_append_left hlt]
  exact hj
 · cases hj
theorem aD4 {W0 : Cx} {U : View} {σF : aF} {W : World} (b c i gv gf vc : Nat) (xs junk vs : List Value) (hM : Mem W0 U ([(b, .cells (xs ++ junk).toArray 38 (0, 0))] ++ σF) W) (hok : (Rw.row b c junk).ok 5 (i + 1) xs) (hi : i ≤ 1000000) (h1 : ∀ u ∈ xs, u.oneCell' = true) (hv : U.range gv gf vs) (hvl : vs.length = 5) (h1v : ∀ u ∈ vs, u.oneCell' = true) :
    CP 78 #[.slice (some ⟨b, 0, none⟩) (i + 1) c, .int .i64 (i : Int), .slice (some ⟨gv, gf, none⟩) 1 vc] W (fN W0 U σF fun v V σ' => σ' = [] ∧ ∃ b' cap, v = .slice (some ⟨b', 0, none⟩) (i + 2) cap ∧ V.range b' 0 (xs.take (i * 5) ++ vs ++ xs.drop (i * 5))) := by
 obtain ⟨hx,hcl,hnc,hcm⟩ := hok
 have hbe : ((i : Int) == ((i + 1 : Nat) : Int)) = false := beq_eq_false_iff_ne.2 oW
 have hxl : (xs ++ junk).length = xs.length + junk.length := List.length_append
 have hTl : (xs.take (i * 5)).length = i * 5 := by rw [List.length_take]; omega
 have hDl : (xs.drop (i * 5)).length = 1 * 5 := by rw [List.length_drop]; omega
 have hu0 : U ⟨gv,gf,none⟩ = some (vs[0]'oW) := hv 0 _ (List.getElem?_eq_getElem _)
 have hw1 : IntKind.i64.wrap (((i + 1 : Nat) : Int) + 1) = ((i + 2 : Nat) : Int) := by rw [IntWalk.i64_in _ oW]; omega
 have hw2 : IntKind.i64.wrap (((i + 2 : Nat) : Int) - (i : Int)) = 2 := by rw [IntWalk.i64_in _ oW]; omega
 have hw3 : IntKind.i64.wrap ((i : Int) + 1) = ((i + 1 : Nat) : Int) := by rw [IntWalk.i64_in _ oW]; omega
 have hcml : c ≤ 9223372036854775807 := by unfold maxLen at hcm; omega
 refine eC 95 Tryz.func78 hM ?_
 refine zQ 1 (zn (zQ 2 (cH (.slice (some ⟨b,(0 + i * 5),none⟩) (i + 1 - i) (c - i)) (gD 27 38 (.tmp 10) (some (.tmp 11)) none none rfl b 0 (i + 1) c i (i + 1) c 5 (i + 1 - i) (c - i) (0 + i * 5) kR eR eR eR (by decide) oW oW oW oW oW (by first | rfl | (split <;> omega)) Tryz.underlying27 kR) ?_)))
 refine zn (zQ 3 (zn (zs (zQ 2 (zn (dE (zk (zQ 3 (zn (zs (zQ 3 (zn (eS ((i : Int) == ((i + 1 : Nat) : Int)) hbe ?_)))))))))))))
 refine zk (zs (zQ 3 (eE 28 (I6 (IntKind.i64.wrap (((i + 1 : Nat) : Int) + 1))) (L6 (i + 2)) (congrArg (Value.int .i64) hw1) ?_)))
 refine zq 3 (zn (cD (decide (((i + 2 : Nat) : Int) > (c : Int))) (fun h0 => ?_) (fun h0 => ?_)))
 ·
  have h0d := of_decide_eq_true h0
  refine zQ 2 (cH (Sl b 0 i c) (gD 27 38 (.tmp 32) none (some (.tmp 33)) none rfl b 0 (i + 1) c 0 i c 5 i c 0 kR eR eR eR (by decide) oW oW oW oW oW (by first | rfl | (split <;> omega)) Tryz.underlying27 kR) ?_)
  refine zq 3 (eE 37 (I6 (IntKind.i64.wrap (((i + 1 : Nat) : Int) + 1))) (L6 (i + 2)) (congrArg (Value.int .i64) hw1) ?_)
  refine zq 2 (eE 39 (I6 (IntKind.i64.wrap (((i + 2 : Nat) : Int) - (i : Int)))) (I6 2) (congrArg (Value.int .i64) hw2) ?_)
  refine aM7 b 0 i c 2 5 48 (xs.take (i * 5)) 38 27 3 (.agg #[(I6 0),(I6 0),(U6 0),(I6 0),(St [])]) .i64 .i64 (.tmp 34) (.tmp 39) rfl kR kR (fun W hM => aHn (hM.own 0 b _ rfl).1) hTl oW oW oW oW Tryz.underlying27 Tryz.underlying3 kR rfl (by decide) kR kR (fun gA capA ysA hcA1 hcA2 hcA3 => ?_)
  rw [List.length_append,hTl] at hcA3
  refine aCQ (aIM [(b,(.cells (xs ++ junk).toArray 38 (0,0)))] σF _) ?_
  refine zq 1 (zn (zQ 2 (cH (.slice (some ⟨gA,(0 + i * 5),none⟩) (i + 2 - i) (capA - i)) (gD 27 38 (.tmp 41) (some (.tmp 42)) none none rfl gA 0 (i + 2) capA i (i + 2) capA 5 (i + 2 - i) (capA - i) (0 + i * 5) kR eR eR eR (by decide) oW oW oW oW oW (by first | rfl | (split <;> omega)) Tryz.underlying27 kR) ?_)))
  refine zq 1 ?_
  refine aKo 1 gA (0 + i * 5) (i + 2 - i) (capA - i) gv gf 1 vc 1 5 ((xs.take (i * 5)) ++ ysA) vs 38 27 27 38 (.tmp 43) (.tmp 44) rfl kR kR kR (by show min _ _ = _; omega) (fun W hM => View.range_of hv hM.view) (by rw [hvl]) h1v (by rw [List.length_append,hTl]; omega) Tryz.underlying27 kR kR kR ?_
  refine zn (zs ?_)
  refine gU 2 [0,0,0,1,1,0,0,1] [] [.val (L6 (i + 1)),.val (.slice (some ⟨gA,(0 + (i + 1) * 5),none⟩) (i + 2 - (i + 1)) (capA - (i + 1))),.val (.slice (some ⟨b,(0 + i * 5),none⟩) (i + 1 - i) (c - i))] ⟨?_,?_,?_,trivial⟩ ?_
  · exact vE (I6 (IntKind.i64.wrap ((i : Int) + 1))) (congrArg (Value.int .i64) hw3)
  · exact vR (gD 27 38 (.tmp 46) (some (.tmp 49)) none none rfl gA 0 (i + 2) capA (i + 1) (i + 2) capA 5 (i + 2 - (i + 1)) (capA - (i + 1)) (0 + (i + 1) * 5) kR eR eR eR (by decide) oW oW oW oW oW (by first | rfl | (split <;> omega)) Tryz.underlying27 kR)
  · exact vR (gD 27 38 (.tmp 51) (some (.tmp 52)) none none rfl b 0 (i + 1) c i (i + 1) c 5 (i + 1 - i) (c - i) (0 + i * 5) kR eR eR eR (by decide) oW oW oW oW oW (by first | rfl | (split <;> omega)) Tryz.underlying27 kR)
  refine aKo 1 gA (0 + (i + 1) * 5) (i + 2 - (i + 1)) (capA - (i + 1)) b (0 + i * 5) (i + 1 - i) (c - i) 1 5 (cA ((xs.take (i * 5)) ++ ysA) (0 + i * 5) vs) (xs.drop (i * 5)) 38 27 27 38 (.tmp 50) (.tmp 53) rfl kR kR kR (by show min _ _ = _; omega) (fun W hM => aCn (hM.own 0 b _ rfl).1) hDl (fun u hu => h1 u (List.mem_of_mem_drop hu)) (by rw [aKq (by rw [List.length_append,hTl]; omega),List.length_append,hTl]; omega) Tryz.underlying27 kR kR kR ?_
  refine zn (zQ 2 (zn (aA (aH [6] [(Sl gA 0 (i + 2) capA)] (fun W' hM => ?_)))))
  have hM' : Mem W0 U ((gA,(.cells (cA (cA ((xs.take (i * 5)) ++ ysA) (0 + i * 5) vs) (0 + (i + 1) * 5) (xs.drop (i * 5))).toArray 38 (0,0))) :: σF) W' := hM.sub (List.sublist_cons_self _ _)
  obtain ⟨V,q1,q2,q3⟩ := hM'.freezeHead
  refine ⟨_,V,[],rfl,q1,q3,rfl,_,_,rfl,?_⟩
  have : V.range gA (0 + 0) (xs.take (i * 5) ++ vs ++ xs.drop (i * 5)) := View.sub q2 0 ((i + 2) * 5) (by rw [List.drop_zero]; exact aLi hTl oW hvl hDl)
  exact this
 ·
  have h0d := of_decide_eq_false h0
  refine zk (zQ 4 (eE 59 (I6 (IntKind.i64.wrap (((i + 1 : Nat) : Int) + 1))) (L6 (i + 2)) (congrArg (Value.int .i64) hw1) ?_))
  refine cH (Sl b 0 (i + 2) c) (gD 27 38 (.tmp 56) none (some (.tmp 59)) none rfl b 0 (i + 1) c 0 (i + 2) c 5 (i + 2) c 0 kR eR eR eR (by decide) oW oW oW oW oW (by first | rfl | (split <;> omega)) Tryz.underlying27 kR) ?_
  refine zq 1 (zn (zs (zQ 5 (eE 65 (I6 (IntKind.i64.wrap ((i : Int) + 1))) (L6 (i + 1)) (congrArg (Value.int .i64) hw3) ?_))))
  refine cH (.slice (some ⟨b,(0 + (i + 1) * 5),none⟩) (i + 2 - (i + 1)) (c - (i + 1))) (gD 27 38 (.tmp 62) (some (.tmp 65)) none none rfl b 0 (i + 2) c (i + 1) (i + 2) c 5 (i + 2 - (i + 1)) (c - (i + 1)) (0 + (i + 1) * 5) kR eR eR eR (by decide) oW oW oW oW oW (by first | rfl | (split <;> omega)) Tryz.underlying27 kR) ?_
  refine aL4 (.bool false) kR (aMd (fid := 119) (tS := 27) (tR := 4) (te := 38) (size := 5) (.tmp 61) (.tmp 66) _ rfl Tryz.func119 kR kR kR kR Tryz.underlying27 kR 0 gv gf 1 vc b (0 + (i + 1) * 5) (i + 2 - (i + 1)) (c - (i + 1)) (xs ++ junk) _ kR kR hu0 kR) kR kR ?_
  refine zq 1 (zn (dF (zs ?_)))
  refine gU 2 [0,0,0,1,1,0,0,1] [] [.val (L6 (i + 1)),.val (.slice (some ⟨b,(0 + (i + 1) * 5),none⟩) (i + 2 - (i + 1)) (c - (i + 1))),.val (.slice (some ⟨b,(0 + i * 5),none⟩) (i + 2 - i) (c - i))] ⟨?_,?_,?_,trivial⟩ ?_
  · exact vE (I6 (IntKind.i64.wrap ((i : Int) + 1))) (congrArg (Value.int .i64) hw3)
  · exact vR (gD 27 38 (.tmp 69) (some (.tmp 72)) none none rfl b 0 (i + 2) c (i + 1) (i + 2) c 5 (i + 2 - (i + 1)) (c - (i + 1)) (0 + (i + 1) * 5) kR eR eR eR (by decide) oW oW oW oW oW (by first | rfl | (split <;> omega)) Tryz.underlying27 kR)
  · exact vR (gD 27 38 (.tmp 74) (some (.tmp 75)) none none rfl b 0 (i + 2) c i (i + 2) c 5 (i + 2 - i) (c - i) (0 + i * 5) kR eR eR eR (by decide) oW oW oW oW oW (by first | rfl | (split <;> omega)) Tryz.underlying27 kR)
  refine aKo 0 b (0 + (i + 1) * 5) (i + 2 - (i + 1)) (c - (i + 1)) b (0 + i * 5) (i + 2 - i) (c - i) 1 5 (xs ++ junk) (xs.drop (i * 5)) 38 27 27 38 (.tmp 73) (.tmp 76) rfl kR kR kR (by show min _ _ = _; omega) (fun W hM => aCn (hM.own 0 b _ rfl).1) hDl (fun u hu => h1 u (List.mem_of_mem_drop hu)) oW Tryz.underlying27 kR kR kR ?_
  refine zn (zQ 2 (cH (.slice (some ⟨b,(0 + i * 5),none⟩) (i + 2 - i) (c - i)) (gD 27 38 (.tmp 78) (some (.tmp 79)) none none rfl b 0 (i + 2) c i (i + 2) c 5 (i + 2 - i) (c - i) (0 + i * 5) kR eR eR eR (by decide) oW oW oW oW oW (by first | rfl | (split <;> omega)) Tryz.underlying27 kR) ?_))
  refine zq 1 ?_
  refine aKo 0 b (0 + i * 5) (i + 2 - i) (c - i) gv gf 1 vc 1 5 (cA (xs ++ junk) (0 + (i + 1) * 5) (xs.drop (i * 5))) vs 38 27 27 38 (.tmp 80) (.tmp 81) rfl kR kR kR (by show min _ _ = _; omega) (fun W hM => View.range_of hv hM.view) (by rw [hvl]) h1v (by rw [aKq oW]; omega) Tryz.underlying27 kR kR kR ?_
  refine zn (zQ 2 (zn (aA (aH [6] [(Sl b 0 (i + 2) c)] (fun W' hM => ?_)))))
  have hM' : Mem W0 U ((b,(.cells (cA (cA (xs ++ junk) (0 + (i + 1) * 5) (xs.drop (i * 5))) (0 + i * 5) vs).toArray 38 (0,0))) :: σF) W' := hM
  obtain ⟨V,q1,q2,q3⟩ := hM'.freezeHead
  refine ⟨_,V,[],rfl,q1,q3,rfl,_,_,rfl,?_⟩
  have : V.range b (0 + 0) (xs.take (i * 5) ++ vs ++ xs.drop (i * 5)) := View.sub q2 0 ((i + 2) * 5) (by rw [List.drop_zero]; exact aLh hx oW hvl)
  exact this
def Pr.zero : Pr := ⟨0, 0, ⟨0, [], 0, 0⟩, ⟨0, [], 0, 0⟩, ⟨0, [], 0, 0⟩, 0, 0, 0, 0, 0⟩
def iX (p : Pr) (l : List Bk) (z : Int) (v : Value) (V : View) : Prop := ∃ a c, v = .tuple #[bnV p a l.length c, .int .i64 z] ∧ cX V a l
def aAQ (p : Pr) (l : List Bk) (v : Value) (V : View) : Prop := ∃ a c, v = bnV p a l.length c ∧ cX V a l
theorem aAQ.mono {p : Pr} {l : List Bk} {v : Value} {V V' : View} (hl : View.le V V') (h : aAQ p l v V) : aAQ p l v V' := by
 obtain ⟨a, c, e, hb⟩ := h
 exact ⟨a, c, e, hb.le hl⟩
theorem iX.mono {p : Pr} {l : List Bk} {z : Int} {v : Value} {V V' : View} (hl : View.le V V') (h : iX p l z v V) : iX p l z v V' := by
 obtain ⟨a, c, e, hb⟩ := h
 exact ⟨a, c, e, hb.le hl⟩
theorem aF9 (p : Pr) (l l' : List Bk) (a a' : Option Addr) (c c' : Nat) (w : World) {U : View} (hU : See U w) (hp : p.ok) (hl : cX U a' l') (h : aZ p l' = 0) : CP 91 #[bnV p a l.length c, .slice a' l'.length c'] w (Ret (.tuple #[bnV p a' l'.length c', .int .i64 0]) w) := by
 have h' : (aZ p l' != 0) = false := by simp [h]
 refine eG 16 Tryz.func91 hU ?_
 refine zs (zr (cJ (fun b0 => (cJ (fun b1 => (zq 1 (zn (zQ 2 (aY 0 b0 (zn (zs (zB [1] [(b0,20)] (dA 115 #[(bnV p a' l'.length c')] (I6 (aZ p l')) (fun W hM => rK p l' _ _ W hM.view hp hl) ?_)))))))))))))
 refine zq 1 (zn (zQ 2 (zn (eS ((aZ p l') != 0) h' ?_))))
 refine zk (zB [1] [(b0,20)] (aY 1 b1 (zq 1 (zn (aA (dU [2,0] [(b1,20)] [(bnV p a' l'.length c'),(I6 0)] (fun W' hM => ?_)))))))
 exact ⟨rfl,hM.below⟩
theorem aGc (p : Pr) (l l' : List Bk) (a a' : Option Addr) (c c' : Nat) (w : World) {U : View} (hU : See U w) (hp : p.ok) (hl : cX U a' l') (h : (aZ p l' != 0) = true) : CP 91 #[bnV p a l.length c, .slice a' l'.length c'] w (Ret (.tuple #[bnV Pr.zero none 0 0, .int .i64 (aZ p l')]) w) := by
 refine eG 16 Tryz.func91 hU ?_
 refine zs (zr (cJ (fun b0 => (cJ (fun b1 => (zq 1 (zn (zQ 2 (aY 0 b0 (zn (zs (zB [1] [(b0,20)] (dA 115 #[(bnV p a' l'.length c')] (I6 (aZ p l')) (fun W hM => rK p l' _ _ W hM.view hp hl) ?_)))))))))))))
 refine zq 1 (zn (zQ 2 (zn (gP ((aZ p l') != 0) h ?_))))
 refine zQ 2 (aY 1 b1 (zq 1 (zn (aA (dU [2,0] [(b1,20)] [(.agg Z20.toArray),(I6 (aZ p l'))] (fun W' hM => ?_))))))
 exact ⟨rfl,hM.below⟩
def iD (p : Pr) (l : List Bk) : Pr := if aZ p l != 0 then Pr.zero else p
def tO (p : Pr) (l : List Bk) : List Bk := if aZ p l != 0 then [] else l
theorem cX.nil {U : View} : cX U none [] := ⟨fun i x hx => by simp at hx, fun x hx => by simp at hx, by unfold R47; simp⟩
theorem aE7 (p : Pr) (l l' : List Bk) (a a' : Option Addr) (c c' : Nat) (w : World) {U : View} (hU : See U w) (hp : p.ok) (hl : cX U a' l') : CP 91 #[bnV p a l.length c, .slice a' l'.length c'] w (rO w U (iX (iD p l') (tO p l') (aZ p l'))) := by
 unfold iD tO
 cases h : aZ p l' != 0 with
 | true => exact Calls.retN hU (aGc p l l' a a' c c' w hU hp hl h) ⟨none, 0, rfl, cX.nil⟩
 | false =>
  have h0 : aZ p l' = 0 := by simpa using h
  rw [h0]
  exact Calls.retN hU (aF9 p l l' a a' c c' w hU hp hl h0) ⟨a', c', rfl, hl⟩
def aFq (l : List Bk) : Nat → Nat → Nat
 | 0, n => n
 | f + 1, n => if gH l (n : Int) < 0 then n else aFq l f (n + 1)
def dX (l : List Bk) : Nat := aFq l l.length 2
def aAi (l : List Bk) (n : Nat) : List Bk := l.filter fun x => decide ((n : Int) ≤ x.n)
theorem aLA {l : List Bk} {n : Nat} : (aAi l (n + 1)).length ≤ (aAi l n).length := by
 unfold aAi
 induction l with
 | nil => exact Nat.le_refl _
 | cons x l ih =>
  rw [List.filter_cons, List.filter_cons]
  by_cases h1 : ((n + 1 : Nat) : Int) ≤ x.n
  ·
   rw [if_pos (by simpa using h1), if_pos (by simp; omega)]
   simp only [List.length_cons]
   omega
  ·
   rw [if_neg (by simpa using h1)]
   split
   · simp only [List.length_cons]; omega
   · exact ih
theorem aGA {l : List Bk} {n : Nat} (h : ∃ x ∈ l, x.n = (n : Int)) : (aAi l (n + 1)).length < (aAi l n).length := by
 induction l with
 | nil => obtain ⟨x, hx, _⟩ := h; simp at hx
 | cons y l ih =>
  obtain ⟨x, hx, hn⟩ := h
  have hle := aLA (l := l) (n := n)
  unfold aAi at ih hle ⊢
  rw [List.filter_cons, List.filter_cons]
  by_cases h1 : ((n + 1 : Nat) : Int) ≤ y.n
  ·
   rw [if_pos (by simpa using h1), if_pos (by simp; omega)]
   rcases List.mem_cons.1 hx with rfl | hx
   · omega
   ·
    have := ih ⟨x, hx, hn⟩
    simp only [List.length_cons]
    omega
  ·
   rw [if_neg (by simpa using h1)]
   by_cases h2 : (n : Int) ≤ y.n
   ·
    rw [if_pos (by simpa using h2)]
    simp only [List.length_cons]
    omega
   ·
    rw [if_neg (by simpa using h2)]
    rcases List.mem_cons.1 hx with rfl | hx
    · omega
    · exact ih ⟨x, hx, hn⟩
theorem aGe {l : List Bk} {num : Int} (h : ¬ gH l num < 0) : ∃ x ∈ l, x.n = num := by
 rcases pU num 0 l with ⟨h1, _⟩ | ⟨j, x, _, h2, h3, _⟩
 · unfold gH at h; omega
 · exact ⟨x, List.mem_of_getElem? h2, h3⟩
theorem aLl {l : List Bk} {x f : Nat} (h1 : 2 ≤ x) (h2 : x - 2 + (aAi l x).length ≤ l.length) (h3 : aFq l f x = dX l) (h4 : (aAi l x).length ≤ f) (hi : ¬ gH l (x : Int) < 0) :
  2 ≤ x + 1 ∧ x + 1 - 2 + (aAi l (x + 1)).length ≤ l.length ∧ ∃ f, aFq l f (x + 1) = dX l ∧ (aAi l (x + 1)).length ≤ f := by
 have hlt := aGA (aGe hi)
 cases f with
 | zero => omega
 | succ f =>
  rw [aFq, if_neg hi] at h3
  exact ⟨by omega, by omega, f, h3, by omega⟩
theorem aEw (p : Pr) (l : List Bk) (a : Option Addr) (c : Nat) (w : World) {U : View} (hU : See U w) (hl : cX U a l) : CP 38 #[bnV p a l.length c] w (Ret (.int .i64 ((dX l : Nat) : Int)) w) := by
 have hlen := hl.len
 unfold R47 at hlen
 refine eG 11 Tryz.func38 hU ?_
 refine zs (zr (cJ (fun b0 => (zq 1 (zn (zQ 1 (zn (zs (aB (gX (α := Nat) (fun x => [1,2,3].zip [(Pt b0 0),(I6 0),(L6 x)]) (fun x => U) (fun x => [(bK b0 (eB p a l.length c) 29)]) (fun x => 2 ≤ x ∧ x - 2 + (aAi l x).length ≤ l.length ∧ ∃ f,aFq l f x = dX l ∧ (aAi l x).length ≤ f) (fun x => (aAi l x).length) 2 ?_ ?_))))))))))
 · exact ⟨Nat.le_refl _,by simp only [Nat.sub_self,Nat.zero_add]; exact List.length_filter_le _ _,l.length,rfl,List.length_filter_le _ _⟩
 intro x hx
 obtain ⟨hx1,hx2,f,hx3,hx4⟩ := hx
 refine zs (zB [1,0] [(b0,20)] (dA 87 #[(bnV p a l.length c),(L6 x)] (I6 (gH l (x : Int))) (fun W hM => aJW p l _ _ (x : Int) W hM.view hl) ?_))
 refine zq 1 (zn (cD (decide ((gH l (x : Int)) ≥ 0)) (fun h0 => ?_) (fun h0 => ?_)))
 ·
  have h0d := of_decide_eq_true h0
  refine zk (aB (zr (zq 2 (eV 9 ((x : Int) + 1) (zq 1 (zn ?_))))))
  refine nx (x + 1) ?_ ?_
  · exact aLl hx1 hx2 hx3 hx4 oW
  · exact aGA (aGe oW)
 ·
  have h0d := of_decide_eq_false h0
  refine aU (zQ 2 (zn (aA (aH [2] [(L6 x)] (fun W' hM => ?_)))))
  refine ⟨?_,hM.below⟩
  show Ending.returned (Value.int .i64 (x : Int)) = _
  rw [← hx3]
  cases f with
  | zero => rfl
  | succ f => rw [aFq,if_pos oW]
theorem aAu {V : View} {b c n : Nat} {l : List Bk} {v : Value} (hr : V.range b 0 (l.flatMap Bk.cs)) (hv : v = .slice (some ⟨b, 0, none⟩) n c) (hn : n = l.length) (hok : ∀ x ∈ l, x.ok) (hlen : l.length ≤ R47) : lC l v V := by
 subst hn
 exact ⟨_, c, hv, cX.of hr hok hlen⟩
def gN (l : List Bk) (x : Bk) : List Bk := l.take (l.length - 1) ++ [x] ++ l.drop (l.length - 1)
theorem aCX {l : List Bk} {x : Bk} (h : l ≠ []) : (gN l x).length = l.length - 1 + 2 := by
 have := List.length_pos_iff.2 h
 unfold gN
 simp only [List.length_append, List.length_take, List.length_drop, List.length_cons, List.length_nil]
 omega
theorem aLm (l : List Bk) (x : Bk) : (l.flatMap Bk.cs).take ((l.length - 1) * 5) ++ x.cs ++ (l.flatMap Bk.cs).drop ((l.length - 1) * 5) = (gN l x).flatMap Bk.cs := by
 unfold gN
 rw [sZ, tD, List.flatMap_append, List.flatMap_append]
 simp
theorem aND (x : Bk) : ∀ u ∈ x.cs, u.oneCell' = true := by
 intro u hu
 unfold Bk.cs at hu
 simp only [List.mem_cons, List.mem_nil_iff, or_false] at hu
 rcases hu with rfl | rfl | rfl | rfl | rfl <;> rfl
theorem aMH (p : Pr) (l : List Bk) (a : Option Addr) (c : Nat) (x : Bk) (w : World) {U : View} (hU : See U w) (hp : p.ok) (hl : cX U a l) (hne : l ≠ []) (hsm : l.length ≤ 1000000) (hx : x.ok) :
    CP 44 #[bnV p a l.length c, x.V] w (rO w U (iX (iD p (gN l x)) (tO p (gN l x)) (aZ p (gN l x)))) := by
 have hlen := hl.len
 have hpos := List.length_pos_iff.2 hne
 obtain ⟨b,f,rfl,hr⟩ := hl.openR hne
 have hneg : ((l.length : Int) == 0) = false := beq_eq_false_iff_ne.2 oW
 have hdok : ∀ y ∈ gN l x,y.ok := fun y hy => by
  unfold gN at hy
  rcases List.mem_append.1 hy with hy | hy
  ·
   rcases List.mem_append.1 hy with hy | hy
   · exact hl.ok y (List.mem_of_mem_take hy)
   ·
    obtain rfl := List.mem_singleton.1 hy
    exact hx
  · exact hl.ok y (List.mem_of_mem_drop hy)
 have hdl := aCX (x := x) hne
 have h11 : l.length - 1 + 1 = l.length := by omega
 refine eG 25 Tryz.func44 hU ?_
 refine zs (zr (cJ (fun b0 => (cJ (fun b1 => (cJ (fun b2 => (zq 1 (zn (zB [0,1,0,0] [(b0,1)] (zn (zs (zQ 2 (zn (eS ((l.length : Int) == 0) hneg ?_)))))))))))))))
 refine zk (zs ?_)
 refine aIm 12 2 0 [13,14,15,16,17,18,19,20,21,22,23,24] [.val (bnV p (some ⟨b,f,none⟩) l.length c),.val (Pt b0 19),.val (Sl b f l.length c),.mem (fun _ _ => True),.val (L6 l.length),.val (L6 (l.length - 1)),.val (x.V),.mem (fun v V => ∃ g,v = (Sl g 0 1 1) ∧ V.range g 0 x.cs),.mem (lC (gN l x)),.mem (iX (iD p (gN l x)) (tO p (gN l x)) (aZ p (gN l x))),.mem (aAQ (iD p (gN l x)) (tO p (gN l x))),.val (I6 (aZ p (gN l x)))] ⟨3,8,fun v σ' => ∃ b c j,v = .slice (some ⟨b,0,none⟩) l.length c ∧ σ' = [(b,.cells (l.flatMap Bk.cs ++ j).toArray 38 (0,0))] ∧ (Rw.row b c j).ok 5 l.length (l.flatMap Bk.cs)⟩ kR rfl rfl kR kR kR kR kR kR (by simp only [List.forall_mem_cons]; exact ⟨trivial,trivial,trivial,by intro v V V2 hV2 hP; (first | trivial | exact lC.mono hV2 hP | exact iX.mono hV2 hP | exact aAQ.mono hV2 hP | (obtain ⟨g,e,hP⟩ := hP; exact ⟨g,e,View.range_le hV2 hP⟩)),trivial,trivial,trivial,by intro v V V2 hV2 hP; (first | trivial | exact lC.mono hV2 hP | exact iX.mono hV2 hP | exact aAQ.mono hV2 hP | (obtain ⟨g,e,hP⟩ := hP; exact ⟨g,e,View.range_le hV2 hP⟩)),by intro v V V2 hV2 hP; (first | trivial | exact lC.mono hV2 hP | exact iX.mono hV2 hP | exact aAQ.mono hV2 hP | (obtain ⟨g,e,hP⟩ := hP; exact ⟨g,e,View.range_le hV2 hP⟩)),by intro v V V2 hV2 hP; (first | trivial | exact lC.mono hV2 hP | exact iX.mono hV2 hP | exact aAQ.mono hV2 hP | (obtain ⟨g,e,hP⟩ := hP; exact ⟨g,e,View.range_le hV2 hP⟩)),by intro v V V2 hV2 hP; (first | trivial | exact lC.mono hV2 hP | exact iX.mono hV2 hP | exact aAQ.mono hV2 hP | (obtain ⟨g,e,hP⟩ := hP; exact ⟨g,e,View.range_le hV2 hP⟩)),trivial,fun _ h => by cases h⟩) kR ⟨(show (3 : Nat) < 12 by decide),(show (8 : Nat) < 12 by decide),(show (3 : Nat) ≠ 8 by decide)⟩ rfl ⟨?_,?_,?_,?_,?_,?_,?_,?_,?_,?_,?_,?_,trivial⟩ [4,5,23,24] (fun u => [(Pt b2 0),(I6 0),u 10,(I6 (aZ p (gN l x)))]) kF ?_
 · exact ObC.o 0 (show (0 : Nat) ≠ 3 by decide) (show (0 : Nat) ≠ 8 by decide) (fun σ' => oqL 0 0 b0 20 (eB p (some ⟨b,f,none⟩) l.length c) 29 rfl (bnV p (some ⟨b,f,none⟩) l.length c) rfl kR kF kF)
 · exact ObC.o 1 (show (1 : Nat) ≠ 3 by decide) (show (1 : Nat) ≠ 8 by decide) (fun σ' => oqQ 1 rfl (Pt b0 19) (Pt b0 19) rfl rfl kF kF)
 · exact ObC.o 2 (show (2 : Nat) ≠ 3 by decide) (show (2 : Nat) ≠ 8 by decide) (fun σ' => oqL 2 0 b0 1 (eB p (some ⟨b,f,none⟩) l.length c) 29 rfl (Sl b f l.length c) rfl kR kF kF)
 ·
  refine ObC.own ⟨_,92,[15],(fun u => [(Sl b f l.length c)]),rfl,rfl,kF,fun u V hV hdq => ?_⟩
  refine ⟨#[(Sl b f l.length c)],by kernel_rfl,fun W hM => ?_⟩
  exact (aFv hM.view b f l.length c _ (View.range_le hV hr) (mJ l) (mI l) oW oW).mono fun e W' h => h.own hM
 · exact ObC.o 4 (show (4 : Nat) ≠ 3 by decide) (show (4 : Nat) ≠ 8 by decide) (fun σ' => oqQ 4 rfl (L6 l.length) (L6 l.length) rfl rfl kF kF)
 · exact ObC.o 5 (show (5 : Nat) ≠ 3 by decide) (show (5 : Nat) ≠ 8 by decide) (fun σ' => oqQ 5 rfl (I6 (IntKind.i64.wrap ((l.length : Int) - 1))) (L6 (l.length - 1)) (congrArg (Value.int .i64) (by rw [IntWalk.i64_in _ oW]; omega)) rfl kF kF)
 · exact ObC.o 6 (show (6 : Nat) ≠ 3 by decide) (show (6 : Nat) ≠ 8 by decide) (fun σ' => oqL 6 1 b1 5 x.cs 38 rfl (x.V) rfl kR kF kF)
 ·
  refine ObC.o 7 (show (7 : Nat) ≠ 3 by decide) (show (7 : Nat) ≠ 8 by decide) (fun σ' => oqN 7 rfl rfl (fun v V => ∃ g,v = (Sl g 0 1 1) ∧ V.range g 0 x.cs) rfl [19] (fun u => [(x.V)]) kF (fun u V hV hdq => ?_))
  refine ⟨x.cs,38,fun r => (Sl r 0 1 1),?_,fun g V' hV' hR => ?_⟩
  · kernel_rfl
  exact ⟨g,rfl,hR⟩
 ·
  refine ObC.take (show (8 : Nat) ≠ 3 by decide) ⟨_,78,lC (gN l x),[16,18,20],(fun u => [u 3,(L6 (l.length - 1)),u 7]),rfl,rfl,rfl,by kernel_rfl,kF,fun u V σ' hV hdq hO => ?_⟩
  obtain ⟨bO,cO,jO,qO,rfl,hokO⟩ := (show (fun v σ' => ∃ b c j,v = .slice (some ⟨b,0,none⟩) l.length c ∧ σ' = [(b,.cells (l.flatMap Bk.cs ++ j).toArray 38 (0,0))] ∧ (Rw.row b c j).ok 5 l.length (l.flatMap Bk.cs)) (u 3) σ' from hO)
  have e7 : (fun v V => ∃ g,v = (Sl g 0 1 1) ∧ V.range g 0 x.cs) (u 7) V := hdq 7 kR (show (7 : Nat) ≠ 3 by decide)
  obtain ⟨g7,q7,t7⟩ := e7
  refine ⟨#[u 3,(L6 (l.length - 1)),u 7],by kernel_rfl,fun W hM => ?_⟩
  rw [qO,q7]
  exact by
   have key := aD4 bO cO (l.length - 1) g7 0 1 _ jO x.cs hM (by rw [h11]; exact hokO) oW (mI l) t7 rfl (aND x)
   rw [h11] at key
   exact key.mono fun e W' h => h.mono fun v V' σ2 ⟨h1,b',cap,h2,h3⟩ => ⟨h1,aAu (by rw [aLm] at h3; exact h3) h2 (by rw [hdl]) hdok (by unfold R47; omega)⟩
 ·
  refine ObC.o 9 (show (9 : Nat) ≠ 3 by decide) (show (9 : Nat) ≠ 8 by decide) (fun σ' => oqM 9 91 rfl rfl (iX (iD p (gN l x)) (tO p (gN l x)) (aZ p (gN l x))) rfl [13,21] (fun u => [(bnV p (some ⟨b,f,none⟩) l.length c),u 8]) kF (fun u V hV hdq => ?_))
  have e8 : (lC (gN l x)) (u 8) V := hdq 8 kR
  obtain ⟨a8,c8,q8,hb8⟩ := e8
  refine ⟨#[(bnV p (some ⟨b,f,none⟩) l.length c),u 8],by kernel_rfl,fun W hW => ?_⟩
  rw [q8]
  exact aE7 p l (gN l x) _ _ _ _ W hW hp hb8
 ·
  refine ObC.o 10 (show (10 : Nat) ≠ 3 by decide) (show (10 : Nat) ≠ 8 by decide) (fun σ' => oqP 10 rfl rfl (aAQ (iD p (gN l x)) (tO p (gN l x))) rfl [22] (fun u => [u 9]) kF (fun u V hV hdq => ?_))
  have e9 : (iX (iD p (gN l x)) (tO p (gN l x)) (aZ p (gN l x))) (u 9) V := hdq 9 kR
  obtain ⟨a9,c9,q9,hb9⟩ := e9
  rw [q9]
  exact ⟨(bnV (iD p (gN l x)) a9 (tO p (gN l x)).length c9),by kernel_rfl,⟨_,_,rfl,hb9⟩⟩
 ·
  refine ObC.o 11 (show (11 : Nat) ≠ 3 by decide) (show (11 : Nat) ≠ 8 by decide) (fun σ' => oqK 11 rfl rfl (I6 (aZ p (gN l x))) rfl [22] (fun u => [u 9]) kF (fun u V hV hdq => ?_))
  have e9 : (iX (iD p (gN l x)) (tO p (gN l x)) (aZ p (gN l x))) (u 9) V := hdq 9 kR
  obtain ⟨a9,c9,q9,hb9⟩ := e9
  rw [q9]
  show _ = _
  kernel_rfl
 intro u3 V3 hV3 hdq3
 have e10_3 : (aAQ (iD p (gN l x)) (tO p (gN l x))) (u3 10) V3 := hdq3 10 (by decide)
 obtain ⟨a10_3,c10_3,q10_3,hb10_3⟩ := e10_3
 rw [q10_3]
 refine aY 2 b2 (zq 1 (zn (aA (dU [3,0] [(b2,20)] [(.agg #[(N6 (iD p (gN l x)).f),(I6 (iD p (gN l x)).c),(I6 (iD p (gN l x)).dst.s),(St (iD p (gN l x)).dst.l),(N6 (iD p (gN l x)).dst.n),(N6 (iD p (gN l x)).dst.v),(I6 (iD p (gN l x)).src.s),(St (iD p (gN l x)).src.l),(N6 (iD p (gN l x)).src.n),(N6 (iD p (gN l x)).src.v),(I6 (iD p (gN l x)).rpt.s),(St (iD p (gN l x)).rpt.l),(N6 (iD p (gN l x)).rpt.n),(N6 (iD p (gN l x)).rpt.v),(N6 (iD p (gN l x)).time),(N6 (iD p (gN l x)).seq),(N6 (iD p (gN l x)).life),(N6 (iD p (gN l x)).off),(N6 (iD p (gN l x)).tot),(.slice a10_3 (tO p (gN l x)).length c10_3)]),(I6 (aZ p (gN l x)))] (fun W' hM => ?_)))))
 exact cF hM hV3 ⟨_,_,rfl,hb10_3⟩
end Go.Proofs.YtcdjakemdlinhaaGreatDoor.Sx
