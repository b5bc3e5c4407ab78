/-
  Several texts in one: Bcb2 Rfb1 Rfb2 Lbw Lbs Lbl Lbx Opb.
  Conditions: named at each.
-/
import Derived.Test.YtcdjakemdlinhaaGreatDoorG12
set_option linter.unusedSimpArgs false
set_option linter.unusedVariables false
set_option linter.unusedSectionVars false
namespace Go.Proofs.YtcdjakemdlinhaaGreatDoor.Sx
open Go.ChangeShapes Go.WideShapes Go.ChangeAt Go.RowKit Go.Deep
theorem szT_ei2 {e : Ei} (h : e.l.length ≤ 60) : Itm.szT e.tree ≤ 80 := by
 unfold Ei.tree
 split
 · simp [Itm.arrT, Itm.numT, Itm.szT, Itm.szL]
 ·
  split
  · simp [Itm.arrT, Itm.numT, Itm.szT, Itm.szL]
  · simp [Itm.arrT, Itm.numT, txtT, Itm.szT, Itm.szL]; omega
def bcbA (e : Ei) (vr fl target : Int) (nonce tag : List UInt8) : As := ⟨[target], 2, e, [⟨1, strT nonce⟩, ⟨2, Itm.numT vr.toNat⟩, ⟨3, Itm.numT fl.toNat⟩], [[⟨1, strT tag⟩]]⟩
theorem bcbA_len {e : Ei} {vr fl target : Int} {nonce tag : List UInt8} (he : e.l.length ≤ 60) (hn : nonce.length ≤ 100) (ht : tag.length ≤ 100) : (bcbA e vr fl target nonce tag).outB.length ≤ 100000 := by
 unfold As.outB
 split
 ·
  have h := Itm.bytesL_len (bcbA e vr fl target nonce tag).items
  have h2 := szT_ei2 he
  have : Itm.szL (bcbA e vr fl target nonce tag).items ≤ 1000 := by
   unfold As.items bcbA
   rw [if_neg (by simp)]
   simp only [pasT, tgtT, Pa.tree, Itm.arrT, Itm.numT, strT, Itm.szT, Itm.szL, List.map_cons, List.map_nil, List.length_nil]
   omega
  unfold As.bytes
  omega
 · simp
def sec0 (l : List Bk) : Bk := ⟨12, (freeB l : Int), 0, 0, []⟩
noncomputable def sealB (p : Pr) (l : List Bk) (e : Ei) (vr fl : Int) (key nonce : List UInt8) (target : Int) : Bool := !(mayZ p l 2 [target] != 0) && eiRight e && !(besideZ l target (sec0 l) fl != 0) && sealsP vr key nonce
def secA (l : List Bk) (e : Ei) (vr fl : Int) (nonce : List UInt8) (target : Int) : Bk := ⟨12, (freeB l : Int), 0, 0, (bcbA e vr fl target nonce (Eng.freshB 1 (sizeN vr))).outB⟩
def sealL (l : List Bk) (e : Ei) (vr fl : Int) (nonce : List UInt8) (target : Int) : List Bk := putL (l.set (idxB l target).toNat ((getB l target).1.withD (Eng.freshB 1 (getB l target).1.d.length))) (secA l e vr fl nonce target)
noncomputable def sealR (p : Pr) (l : List Bk) (e : Ei) (vr fl : Int) (key nonce : List UInt8) (target : Int) : Pr × List Bk × Int :=
 if mayZ p l 2 [target] != 0 then (Pr.zero, [], mayZ p l 2 [target])
 else if !(eiRight e) then (Pr.zero, [], 1)
 else if besideZ l target (sec0 l) fl != 0 then (Pr.zero, [], besideZ l target (sec0 l) fl)
 else if !(sealsP vr key nonce) then (Pr.zero, [], 1)
 else (chkP p (sealL l e vr fl nonce target), chkL p (sealL l e vr fl nonce target), bnRight p (sealL l e vr fl nonce target))
def SealV (q : Pr × List Bk × Int) (v : Value) (V : View) : Prop := BnRes q.1 q.2.1 q.2.2 v V
def TabSeal (b : Bool) (ib : Nat) (ent : List Value) (V : View) (σ' : Blks) : Prop := if b then Tab1 ib ent V σ' else σ' = NewTab ib
theorem besideZ_zero {l : List Bk} {target fl : Int} {sec : Bk} (h : besideZ l target sec fl = 0) : 0 ≤ fl ∧ fl < 8 ∧ target ≠ 0 ∧ (getB l target).2 = true := by
 unfold besideZ at h
 split at h
 · cases h
 ·
  next h1 =>
  split at h
  · cases h
  ·
   next h2 =>
   have h1' := mayB_parts (by simpa using h1)
   have h2' : target ≠ 0 := by simpa using h2
   refine ⟨h1'.1, h1'.2, h2', ?_⟩
   unfold readZ at h
   split at h
   · cases h
   · next h3 => simpa [h2'] using h3
theorem getB_at {l : List Bk} {t : Int} (h : (getB l t).2 = true) : ∃ (i : Nat) (y : Bk), idxB l t = (i : Int) ∧ l[i]? = some y ∧ getB l t = (y, true) := by
 have h0 : ¬ idxB l t < 0 := fun h0 => by rw [idxB_neg h0] at h; cases h
 obtain ⟨h1, h2⟩ := idxB_lt h0
 exact ⟨(idxB l t).toNat, l[(idxB l t).toNat], h2, List.getElem?_eq_getElem h1, idxB_get h0 (List.getElem?_eq_getElem h1)⟩
theorem sealsP_parts {v : Int} {key nonce : List UInt8} (h : sealsP v key nonce = true) : 0 ≤ v ∧ v ≤ 3 ∧ nonce.length ≤ 16 := by
 unfold sealsP at h
 have hk : Eng.keyBytes v > 0 := by
  cases hd : decide (Eng.keyBytes v > 0) with
  | true => exact of_decide_eq_true hd
  | false => rw [hd] at h; simp at h
 have hn : ((nonce.length : Nat) : Int) ≤ 16 := by
  cases hd : decide (((nonce.length : Nat) : Int) ≤ 16) with
  | true => exact of_decide_eq_true hd
  | false => rw [hd] at h; simp at h
 unfold Eng.keyBytes at hk
 refine ⟨?_, ?_, by omega⟩ <;>
 ·
  split at hk
  · omega
  ·
   split at hk
   · omega
   · omega
theorem mayZ_sound {p : Pr} {l : List Bk} {kind : Int} {ts : List Int} (h : (mayZ p l kind ts != 0) = false) : bnRight p l = 0 := by
 have h0 : mayZ p l kind ts = 0 := by simpa using h
 unfold mayZ at h0
 split at h0
 · next h1 => rw [h0] at h1; cases h1
 · next h1 => exact (soundZ_ops (by simpa using h1)).1
def AsOne (a : As) (v : Value) (V : View) : Prop := ∃ a1 a2 a3 c2 c3, v = asV a a1 a2 a3 1 c2 c3 ∧ AsAt V a1 a2 a3 a
theorem AsOne.mono {a : As} {v : Value} {V V' : View} (hl : View.le V V') (h : AsOne a v V) : AsOne a v V' := by
 obtain ⟨a1, a2, a3, c2, c3, e, hb⟩ := h
 exact ⟨a1, a2, a3, c2, c3, e, hb.le hl⟩
set_option maxHeartbeats 16000000 in
theorem cSeal_any (eA : Addr) (p : Pr) (l : List Bk) (a : Option Addr) (c : Nat) (e : Ei) (vr fl : Int) (key nonce : List UInt8) (target : Int) (eb ib : Nat) {W0 : Cx} {U : View} {σF : Blks} {W : World} (hE : EF U eA) (hp : p.ok) (hl : BksAt U a l) (he : e.ok) (hg : EngAt U eb ib) (hM : Mem W0 U ([(ib, .cells #[.slice none 0 0] 76 (0, 0))] ++ σF) W) :
    Calls Tryz.prog 29 #[.pointer (some ⟨eb, 0, none⟩), bnV p a l.length c, e.V, .int .i64 vr, .int .i64 fl, .string (B key), .string (B nonce), .int .i64 target] W (RetM W0 U σF fun v V σ' => SealV (sealR p l e vr fl key nonce target) v V ∧ TabSeal (sealB p l e vr fl key nonce target) ib (entC vr key nonce (besideB p l target (sec0 l) fl) (getB l target).1.d (Eng.freshB 1 (getB l target).1.d.length) (Eng.freshB 1 (sizeN vr))) V σ') := by
 have hM2 : Mem W0 U ([(bK ib [S0] 76)] ++ σF) W := hM.eqv (by kernel_rfl)
 refine sx_enterM (f := 29) 122 U Tryz.func29 rfl rfl rfl hM2 ?_
 refine zs (zr (sx_NI 1 (fun b0 => ?_)))
 refine sx_NI 2 (fun b1 => ?_)
 refine sx_NI 3 (fun b2 => ?_)
 refine zq 1 (zn (zs (zB [2,0] [(b0,20)] ?_)))
 refine sx_newV [(I6 target)] 3 (fun r => (Sl r 0 1 1)) (by kernel_rfl) (by kernel_rfl) (by kernel_rfl) (fun g3 V3 hV3 hR3 => ?_)
 have k4 := hl.le hV3
 have hT3 : InsAt V3 (some ⟨g3,0,none⟩) [target] := inV_ins hR3 (show 1 ≤ R47 by decide)
 refine sx_C 36 #[(bnV p a l.length c),(I6 2),(Sl g3 0 1 1)] (I6 (mayZ p l 2 [target])) (fun W hM => mMay_any eA p l _ _ 2 [target] _ _ W hM.view (hE.le hV3) hp k4 hT3 (Nat.le_refl _) (show (1 : Nat) ≤ 100000 by decide)) ?_
 refine zq 1 (zn (zQ 2 (zn (sx_D ((mayZ p l 2 [target]) != 0) (fun h0 => ?_) (fun h0 => ?_)))))
 ·
  refine zQ 2 (sx_S 3 b2 (zq 1 (zn (sx_ret ?_))))
  refine sx_ret_any [.cell 16 29,.tmp 17] [(.agg #[(U6 0),(I6 0),(I6 0),(St []),(U6 0),(U6 0),(I6 0),(St []),(U6 0),(U6 0),(I6 0),(St []),(U6 0),(U6 0),(U6 0),(U6 0),(U6 0),(U6 0),(U6 0),S0]),(I6 (mayZ p l 2 [target]))] rfl ⟨(retK' 3 b2 20),retT',trivial⟩ (fun W' hM => ?_)
  refine retM_at 0 4 (ib,.cells #[S0] 76 (0,0)) hM hV3 ⟨?_,?_⟩
  ·
   unfold sealR
   rw [if_pos h0]
   exact ⟨none,0,rfl,BksAt.nil⟩
  ·
   unfold TabSeal sealB
   rw [if_neg (by simp [h0])]
   rfl
 ·
  have h0d := bne_eq_false_iff_eq.1 h0
  refine zk (zs (zB [3] [(b1,4)] (sx_C 37 #[(.agg #[(I6 e.s),(St e.l),(N6 e.n),(N6 e.v)])] (.bool (eiRight e)) (fun W hM => eRight_any e W he.l) ?_)))
  refine zq 1 (zn (sx_D (!(eiRight e)) (fun h1 => ?_) (fun h1 => ?_)))
  ·
   refine zQ 1 (sx_S 3 b2 (zq 1 (zn (sx_ret ?_))))
   refine sx_ret_any [.cell 16 29,.tmp 17] [(.agg #[(U6 0),(I6 0),(I6 0),(St []),(U6 0),(U6 0),(I6 0),(St []),(U6 0),(U6 0),(I6 0),(St []),(U6 0),(U6 0),(U6 0),(U6 0),(U6 0),(U6 0),(U6 0),S0]),(I6 1)] rfl ⟨(retK' 3 b2 20),retT',trivial⟩ (fun W' hM => ?_)
   refine retM_at 0 4 (ib,.cells #[S0] 76 (0,0)) hM hV3 ⟨?_,?_⟩
   ·
    unfold sealR
    rw [if_neg (by rw [h0]; exact Bool.false_ne_true),if_pos h1]
    exact ⟨none,0,rfl,BksAt.nil⟩
   ·
    unfold TabSeal sealB
    rw [if_neg (by simp [h0,(show eiRight e = false from by simpa using h1)])]
    rfl
  ·
   refine zk (zB [2] [(b0,20)] (sx_C 38 #[(bnV p a l.length c)] (I6 ((freeB l : Nat) : Int)) (fun W hM => bFree_any p l _ _ W hM.view k4) ?_))
   refine zq 1 (sx_NI 4 (fun b5 => ?_))
   refine sx_S 4 b5 (zn (zB [2,0,5,0] [(b0,20),(b5,5)] (sx_C 63 #[(bnV p a l.length c),(I6 target),(.agg #[(I6 12),(I6 ((freeB l : Nat) : Int)),(U6 0),(I6 0),(St [])]),(I6 fl)] (.tuple #[(St (besideB p l target (sec0 l) fl)),(I6 (besideZ l target (sec0 l) fl))]) (fun W hM => scBeside_any p l _ _ target (sec0 l) fl W hM.view hp k4 ⟨(show (0 : Nat) < W64 by decide),(show (0 : Nat) ≤ R47 by decide)⟩ (mayZ_sound h0)) ?_)))
   refine zq 5 (zn (zs (zQ 2 (zn (sx_D ((besideZ l target (sec0 l) fl) != 0) (fun h2 => ?_) (fun h2 => ?_))))))
   ·
    have h2d := bne_iff_ne.1 h2
    refine zQ 2 (sx_S 3 b2 (zq 1 (zn (sx_ret ?_))))
    refine sx_ret_any [.cell 16 29,.tmp 17] [(.agg #[(U6 0),(I6 0),(I6 0),(St []),(U6 0),(U6 0),(I6 0),(St []),(U6 0),(U6 0),(I6 0),(St []),(U6 0),(U6 0),(U6 0),(U6 0),(U6 0),(U6 0),(U6 0),S0]),(I6 (besideZ l target (sec0 l) fl))] rfl ⟨(retK' 3 b2 20),retT',trivial⟩ (fun W' hM => ?_)
    refine retM_at 0 5 (ib,.cells #[S0] 76 (0,0)) hM hV3 ⟨?_,?_⟩
    ·
     unfold sealR
     rw [if_neg (by rw [h0]; exact Bool.false_ne_true),if_neg (by rw [h1]; exact Bool.false_ne_true),if_pos h2]
     exact ⟨none,0,rfl,BksAt.nil⟩
    ·
     unfold TabSeal sealB
     rw [if_neg (by simp [h0,(show eiRight e = true from by simpa using h1),h2])]
     rfl
   ·
    have h2d := bne_eq_false_iff_eq.1 h2
    refine zk (zB [2,0] [(b0,20)] (sx_C 64 #[(bnV p a l.length c),(I6 target)] (.tuple #[(.agg #[(I6 (getB l target).1.t),(I6 (getB l target).1.n),(N6 (getB l target).1.f),(I6 (getB l target).1.c),(St (getB l target).1.d)]),(.bool (getB l target).2)]) (fun W hM => bGet_any p l _ _ target W hM.view k4) ?_))
    refine zq 3 (sx_NI 5 (fun b6 => ?_))
    refine sx_S 5 b6 (zq 1 (zn (zB [0,0,0,0,0,0,6] [(b6,1)] ?_)))
    rcases Bool.eq_false_or_eq_true (sealsP vr key nonce) with h3 | h3
    ·
     refine sx_MI 0 (bK ib [S0] 76) 77 #[(Pt eb 0),(I6 vr),(St key),(St nonce),(St (besideB p l target (sec0 l) fl)),(St (getB l target).1.d)] (SealIs ib vr key nonce (besideB p l target (sec0 l) fl) (getB l target).1.d) (fun W hM => gSeal_any vr key nonce (besideB p l target (sec0 l) fl) (getB l target).1.d eb ib (hg.le hV3) (by have := (right_small (mayZ_sound h0)).2 _ (getB_mem (besideZ_zero (by simpa using h2)).2.2.2); omega) hM) (fun v7 V7 s7 hV7 hP7 => ?_)
     have k8 := k4.le hV7
     unfold SealIs at hP7
     rw [if_pos h3] at hP7
     obtain ⟨rfl,a7,c7,rfl,t7⟩ := hP7
     obtain ⟨hv0,hv3,hn16⟩ := sealsP_parts h3
     obtain ⟨hf0,hf8,ht0,hg2⟩ := besideZ_zero (by simpa using h2 : besideZ l target (sec0 l) fl = 0)
     have w1 : IntKind.u64.wrap vr = (vr.toNat : Int) := by have := u64_in (x := vr) (by omega) (by omega); omega
     have w2 : IntKind.u64.wrap fl = (fl.toNat : Int) := by have := u64_in (x := fl) (by omega) (by omega); omega
     have n1 : vr.toNat < W64 := by unfold W64; omega
     have n2 : fl.toNat < W64 := by unfold W64; omega
     have hs64 := sizeN_le vr
     have hfl := Eng.freshB_length 1 (sizeN vr)
     have hr47 : (Eng.freshB 1 (sizeN vr)).length ≤ R47 := by unfold R47; omega
     have hn47 : nonce.length ≤ R47 := by unfold R47; omega
     have hr9 := (mayZ_sound h0)
     refine zq 7 (zn (zs (zQ 2 (zn (sx_F (zk (zQ 1 (sx_C 42 #[(St nonce)] (.agg #[(I6 2),(U6 0),(St nonce),S0,(.bool false)]) (fun W hM => iStr_any nonce W) ?_))))))))
     refine zq 3 (sx_E 82 (U6 (IntKind.u64.wrap vr)) (N6 vr.toNat) (congrArg (Value.int .u64) w1) ?_)
     refine sx_C 40 #[(N6 vr.toNat)] (.agg #[(I6 0),(N6 vr.toNat),(St []),S0,(.bool false)]) (fun W hM => iNum_any _ W) ?_
     refine zq 3 (sx_E 86 (U6 (IntKind.u64.wrap fl)) (N6 fl.toNat) (congrArg (Value.int .u64) w2) ?_)
     refine sx_C 40 #[(N6 fl.toNat)] (.agg #[(I6 0),(N6 fl.toNat),(St []),S0,(.bool false)]) (fun W hM => iNum_any _ W) ?_
     refine zq 1 ?_
     refine sx_newV [(I6 1),(I6 2),(U6 0),(St nonce),S0,(.bool false),(I6 2),(I6 0),(N6 vr.toNat),(St []),S0,(.bool false),(I6 3),(I6 0),(N6 fl.toNat),(St []),S0,(.bool false)] 92 (fun r => (Sl r 0 3 3)) (by kernel_rfl) (by kernel_rfl) (by kernel_rfl) (fun g9 V9 hV9 hR9 => ?_)
     have k10 := t7.le hV9
     have k11 := k8.le hV9
     have k12 := (TV.str _ nonce (by first | assumption | decide | (unfold R47; omega))).le hV9
     have k13 := (TV.num _ vr.toNat (by first | assumption | decide | (unfold W64; omega))).le hV9
     have k14 := (TV.num _ fl.toNat (by first | assumption | decide | (unfold W64; omega))).le hV9
     have hT9 : LsAt PaR 6 V9 (some ⟨g9,0,none⟩) [(Pa.mk 1 (strT nonce)),(Pa.mk 2 (Itm.numT vr.toNat)),(Pa.mk 3 (Itm.numT fl.toNat))] := LsAt.lit [((Pa.mk 1 (strT nonce)),[(I6 1),(I6 2),(U6 0),(St nonce),S0,(.bool false)]),((Pa.mk 2 (Itm.numT vr.toNat)),[(I6 2),(I6 0),(N6 vr.toNat),(St []),S0,(.bool false)]),((Pa.mk 3 (Itm.numT fl.toNat)),[(I6 3),(I6 0),(N6 fl.toNat),(St []),S0,(.bool false)])] hR9 ⟨⟨_,rfl,k12⟩,⟨_,rfl,k13⟩,⟨_,rfl,k14⟩,trivial⟩ (show 3 ≤ R47 by decide)
     refine zq 1 (zn (zs ?_))
     refine sx_drawnN 11 1 0 [90,91,92,93,94,95,96,97,98,99,27] [.val (I6 target),.mem (fun v V => ∃ g,v = (Sl g 0 1 1) ∧ InsAt V (some ⟨g,0,none⟩) [target]),.val (.agg #[(I6 e.s),(St e.l),(N6 e.n),(N6 e.v)]),.val (Sl g9 0 3 3),.val (St (Eng.freshB 1 (sizeN vr))),.val (.agg #[(I6 2),(U6 0),(St (Eng.freshB 1 (sizeN vr))),S0,(.bool false)]),.val (.agg #[(I6 1),(I6 2),(U6 0),(St (Eng.freshB 1 (sizeN vr))),S0,(.bool false)]),.mem (fun v V => ∃ g,v = (Sl g 0 1 1) ∧ LsAt PaR 6 V (some ⟨g,0,none⟩) [(Pa.mk 1 (strT (Eng.freshB 1 (sizeN vr))))]),.mem (fun v V => ∃ g,v = (Sl g 0 1 1) ∧ LsAt RlR 1 V (some ⟨g,0,none⟩) [[(Pa.mk 1 (strT (Eng.freshB 1 (sizeN vr))))]]),.mem (AsOne (bcbA e vr fl target nonce (Eng.freshB 1 (sizeN vr)))),.mem (fun _ _ => True)] 10 [] ([(bK ib [(.slice a7 1 c7)] 76),(bK b0 (bnCs p a l.length c) 29),(bK b1 [(I6 e.s),(St e.l),(N6 e.n),(N6 e.v)] 24),(b2,.cells [(U6 0),(I6 0),(I6 0),(St []),(U6 0),(U6 0),(I6 0),(St []),(U6 0),(U6 0),(I6 0),(St []),(U6 0),(U6 0),(U6 0),(U6 0),(U6 0),(U6 0),(U6 0),S0].toArray 29 (0,0)),(b5,.cells [(I6 12),(I6 ((freeB l : Nat) : Int)),(U6 0),(I6 0),(St [])].toArray 38 (0,0)),(bK b6 [(I6 (getB l target).1.t),(I6 (getB l target).1.n),(N6 (getB l target).1.f),(I6 (getB l target).1.c),(St (getB l target).1.d)] 38)] ++ σF) (OneNew (fun r => (Pt r 0)) (.cells [S0,(I6 0),(I6 0),(St []),(U6 0),(U6 0),S0,S0].toArray 96 (0,0))) permE (by kernel_rfl) rfl rfl (by kernel_rfl) (by kernel_rfl) (by kernel_rfl) (by kernel_rfl) (by kernel_rfl) (by kernel_rfl) (by simp only [List.forall_mem_cons]; exact ⟨trivial,by intro v V V2 hV2 hP; (first | trivial | exact BksOf.mono hV2 hP | exact BnRes.mono hV2 hP | exact BnOf.mono hV2 hP | exact AsOne.mono hV2 hP | (obtain ⟨g,e,hP⟩ := hP; exact ⟨g,e,hP.le hV2⟩) | (obtain ⟨g,e,hP⟩ := hP; exact ⟨g,e,View.range_le hV2 hP⟩)),trivial,trivial,trivial,trivial,trivial,by intro v V V2 hV2 hP; (first | trivial | exact BksOf.mono hV2 hP | exact BnRes.mono hV2 hP | exact BnOf.mono hV2 hP | exact AsOne.mono hV2 hP | (obtain ⟨g,e,hP⟩ := hP; exact ⟨g,e,hP.le hV2⟩) | (obtain ⟨g,e,hP⟩ := hP; exact ⟨g,e,View.range_le hV2 hP⟩)),by intro v V V2 hV2 hP; (first | trivial | exact BksOf.mono hV2 hP | exact BnRes.mono hV2 hP | exact BnOf.mono hV2 hP | exact AsOne.mono hV2 hP | (obtain ⟨g,e,hP⟩ := hP; exact ⟨g,e,hP.le hV2⟩) | (obtain ⟨g,e,hP⟩ := hP; exact ⟨g,e,View.range_le hV2 hP⟩)),by intro v V V2 hV2 hP; (first | trivial | exact BksOf.mono hV2 hP | exact BnRes.mono hV2 hP | exact BnOf.mono hV2 hP | exact AsOne.mono hV2 hP | (obtain ⟨g,e,hP⟩ := hP; exact ⟨g,e,hP.le hV2⟩) | (obtain ⟨g,e,hP⟩ := hP; exact ⟨g,e,View.range_le hV2 hP⟩)),by intro v V V2 hV2 hP; (first | trivial | exact BksOf.mono hV2 hP | exact BnRes.mono hV2 hP | exact BnOf.mono hV2 hP | exact AsOne.mono hV2 hP | (obtain ⟨g,e,hP⟩ := hP; exact ⟨g,e,hP.le hV2⟩) | (obtain ⟨g,e,hP⟩ := hP; exact ⟨g,e,View.range_le hV2 hP⟩)),fun _ h => by cases h⟩) (show (10 : Nat) < 11 by decide) _ rfl (by intro v V s2 h; trivial) (by intro v V V2 s2 hV h; exact h) ⟨?_,?_,?_,?_,?_,?_,?_,?_,?_,?_,?_,trivial⟩ [7,9,16,17,19,24,27,99] (fun u => [(I6 target),(Pt b0 0),(Pt b2 0),(I6 0),(Pt b5 0),(St (Eng.freshB 1 (getB l target).1.d.length)),u 10,u 9]) (fun u => by kernel_rfl) ?_
     · exact ObN.o 0 (show (0 : Nat) ≠ 10 by decide) (fun σ' => oqQ 0 rfl (I6 target) (I6 target) rfl rfl (fun u => by kernel_rfl) (fun u => by kernel_rfl))
     ·
      refine ObN.o 1 (show (1 : Nat) ≠ 10 by decide) (fun σ' => oqN 1 rfl rfl (fun v V => ∃ g,v = (Sl g 0 1 1) ∧ InsAt V (some ⟨g,0,none⟩) [target]) rfl [90] (fun u => [(I6 target)]) (fun u => by kernel_rfl) (fun u V hV hdq => ?_))
      refine ⟨[(I6 target)],3,fun r => (Sl r 0 1 1),?_,fun g V' hV' hR => ?_⟩
      · kernel_rfl
      exact ⟨g,rfl,inV_ins hR (show 1 ≤ R47 by decide)⟩
     · exact ObN.o 2 (show (2 : Nat) ≠ 10 by decide) (fun σ' => oqL 2 2 b1 4 [(I6 e.s),(St e.l),(N6 e.n),(N6 e.v)] 24 rfl (.agg #[(I6 e.s),(St e.l),(N6 e.n),(N6 e.v)]) rfl (by kernel_rfl) (fun u => by kernel_rfl) (fun u => by kernel_rfl))
     · exact ObN.o 3 (show (3 : Nat) ≠ 10 by decide) (fun σ' => oqQ 3 rfl (Sl g9 0 3 3) (Sl g9 0 3 3) rfl rfl (fun u => by kernel_rfl) (fun u => by kernel_rfl))
     · exact ObN.o 4 (show (4 : Nat) ≠ 10 by decide) (fun σ' => oqQ 4 rfl (St (Eng.freshB 1 (sizeN vr))) (St (Eng.freshB 1 (sizeN vr))) rfl rfl (fun u => by kernel_rfl) (fun u => by kernel_rfl))
     ·
      refine ObN.o 5 (show (5 : Nat) ≠ 10 by decide) (fun σ' => oqV 5 42 rfl rfl (.agg #[(I6 2),(U6 0),(St (Eng.freshB 1 (sizeN vr))),S0,(.bool false)]) rfl [94] (fun u => [(St (Eng.freshB 1 (sizeN vr)))]) (fun u => by kernel_rfl) (fun u V hV hdq => ?_))
      refine ⟨#[(St (Eng.freshB 1 (sizeN vr)))],by kernel_rfl,fun W hW => ?_⟩
      exact iStr_any (Eng.freshB 1 (sizeN vr)) W
     · exact ObN.o 6 (show (6 : Nat) ≠ 10 by decide) (fun σ' => oqQ 6 rfl (.agg #[(I6 1),(I6 2),(U6 0),(St (Eng.freshB 1 (sizeN vr))),S0,(.bool false)]) (.agg #[(I6 1),(I6 2),(U6 0),(St (Eng.freshB 1 (sizeN vr))),S0,(.bool false)]) rfl rfl (fun u => by kernel_rfl) (fun u => by kernel_rfl))
     ·
      refine ObN.o 7 (show (7 : Nat) ≠ 10 by decide) (fun σ' => oqN 7 rfl rfl (fun v V => ∃ g,v = (Sl g 0 1 1) ∧ LsAt PaR 6 V (some ⟨g,0,none⟩) [(Pa.mk 1 (strT (Eng.freshB 1 (sizeN vr))))]) rfl [96] (fun u => [(.agg #[(I6 1),(I6 2),(U6 0),(St (Eng.freshB 1 (sizeN vr))),S0,(.bool false)])]) (fun u => by kernel_rfl) (fun u V hV hdq => ?_))
      refine ⟨[(I6 1),(I6 2),(U6 0),(St (Eng.freshB 1 (sizeN vr))),S0,(.bool false)],92,fun r => (Sl r 0 1 1),?_,fun g V' hV' hR => ?_⟩
      · kernel_rfl
      exact ⟨g,rfl,LsAt.lit [((Pa.mk 1 (strT (Eng.freshB 1 (sizeN vr)))),[(I6 1),(I6 2),(U6 0),(St (Eng.freshB 1 (sizeN vr))),S0,(.bool false)])] hR ⟨⟨_,rfl,((TV.str _ (Eng.freshB 1 (sizeN vr)) (by first | assumption | decide | (unfold R47; omega))).le hV).le hV'⟩,trivial⟩ (show 1 ≤ R47 by decide)⟩
     ·
      refine ObN.o 8 (show (8 : Nat) ≠ 10 by decide) (fun σ' => oqN 8 rfl rfl (fun v V => ∃ g,v = (Sl g 0 1 1) ∧ LsAt RlR 1 V (some ⟨g,0,none⟩) [[(Pa.mk 1 (strT (Eng.freshB 1 (sizeN vr))))]]) rfl [97] (fun u => [u 7]) (fun u => by kernel_rfl) (fun u V hV hdq => ?_))
      have e7 : (fun v V => ∃ g,v = (Sl g 0 1 1) ∧ LsAt PaR 6 V (some ⟨g,0,none⟩) [(Pa.mk 1 (strT (Eng.freshB 1 (sizeN vr))))]) (u 7) V := hdq 7 (by kernel_rfl)
      obtain ⟨g7,q7,t7⟩ := e7
      refine ⟨[(Sl g7 0 1 1)],93,fun r => (Sl r 0 1 1),?_,fun g V' hV' hR => ?_⟩
      · rw [q7]; kernel_rfl
      exact ⟨g,rfl,LsAt.lit [([(Pa.mk 1 (strT (Eng.freshB 1 (sizeN vr))))],[(Sl g7 0 1 1)])] hR ⟨⟨_,_,rfl,t7.le hV'⟩,trivial⟩ (show 1 ≤ R47 by decide)⟩
     ·
      refine ObN.o 9 (show (9 : Nat) ≠ 10 by decide) (fun σ' => oqP 9 rfl rfl (AsOne (bcbA e vr fl target nonce (Eng.freshB 1 (sizeN vr)))) rfl [91,92,93,98] (fun u => [u 1,(.agg #[(I6 e.s),(St e.l),(N6 e.n),(N6 e.v)]),(Sl g9 0 3 3),u 8]) (fun u => by kernel_rfl) (fun u V hV hdq => ?_))
      have e1 : (fun v V => ∃ g,v = (Sl g 0 1 1) ∧ InsAt V (some ⟨g,0,none⟩) [target]) (u 1) V := hdq 1 (by kernel_rfl)
      have e8 : (fun v V => ∃ g,v = (Sl g 0 1 1) ∧ LsAt RlR 1 V (some ⟨g,0,none⟩) [[(Pa.mk 1 (strT (Eng.freshB 1 (sizeN vr))))]]) (u 8) V := hdq 8 (by kernel_rfl)
      obtain ⟨g1,q1,t1⟩ := e1
      obtain ⟨g8,q8,t8⟩ := e8
      rw [q1,q8]
      exact ⟨(.agg #[(Sl g1 0 1 1),(I6 2),(I6 e.s),(St e.l),(N6 e.n),(N6 e.v),(Sl g9 0 3 3),(Sl g8 0 1 1)]),by kernel_rfl,⟨_,_,_,_,_,rfl,⟨t1,(hT9.le hV),t8,he⟩⟩⟩
     ·
      refine ObN.alloc 10 (.cells [S0,(I6 0),(I6 0),(St []),(U6 0),(U6 0),S0,S0].toArray 96 (0,0)) (fun r => (Pt r 0)) [] (fun u => []) ?_ ?_
      · exact (fun u => by kernel_rfl)
      · exact ⟨_,rfl,rfl,fun u => by kernel_rfl⟩
     intro u15 V15 s15 hV15 hdq15 hP15
     have k16 := k10.le hV15
     have k17 := k11.le hV15
     generalize u15 10 = z15 at hP15 ⊢
     obtain ⟨b15,rfl,rfl⟩ := hP15
     have e9_15 : (AsOne (bcbA e vr fl target nonce (Eng.freshB 1 (sizeN vr)))) (u15 9) V15 := hdq15 9 (by decide)
     obtain ⟨a19_15,a29_15,a39_15,c29_15,c39_15,q9_15,hA9_15⟩ := e9_15
     have tA9_15 := hA9_15.t
     have pA9_15 := hA9_15.p
     have rA9_15 := hA9_15.r
     rw [q9_15]
     refine sx_S 0 b15 (zn (zB [1] [(b15,8)] (sx_C 43 #[(.agg #[(.slice a19_15 1 1),(I6 2),(I6 e.s),(St e.l),(N6 e.n),(N6 e.v),(.slice a29_15 3 c29_15),(.slice a39_15 1 c39_15)])] (.tuple #[(St (bcbA e vr fl target nonce (Eng.freshB 1 (sizeN vr))).outB),(I6 (bcbA e vr fl target nonce (Eng.freshB 1 (sizeN vr))).outZ)]) (fun W hM => aBuild_any (bcbA e vr fl target nonce (Eng.freshB 1 (sizeN vr))) _ _ _ _ _ _ W hM.view hA9_15 (Nat.le_refl _)) ?_)))
     refine zq 4 (sx_S 5 b5 (zn (zQ 1 ?_)))
     obtain ⟨i9,y9,hi9,hy9,hg9⟩ := getB_at hg2
     have hne : l ≠ [] := by rintro rfl; simp at hy9
     obtain ⟨bL,fL,rfl,hrL⟩ := k17.openR hne
     have hsm9 := (right_small hr9).1
     have hok9 := k17.ok
     refine sx_B [3,0,0] [(b0,1)] ?_
     refine sx_callR 66 #[(Sl bL fL l.length c),(I6 target),(St (Eng.freshB 1 (getB l target).1.d.length))] 38 5 l.length (((l.set i9 (y9.withD (Eng.freshB 1 (getB l target).1.d.length))).flatMap Bk.cs)) (by kernel_rfl) (fun W hM => cWith_any bL fL c l target (Eng.freshB 1 (getB l target).1.d.length) i9 y9 W hM.view hrL hok9 (by omega) hi9 hy9) (by kernel_rfl) (by kernel_rfl) (fun b22 c22 j22 hJ22 => ?_)
     refine sx_mem _ (([(bK b15 [(.slice a19_15 1 1),(I6 2),(I6 e.s),(St e.l),(N6 e.n),(N6 e.v),(.slice a29_15 3 c29_15),(.slice a39_15 1 c39_15)] 96),(bK ib [(.slice a7 1 c7)] 76),(bK b0 (bnCs p (some ⟨bL,fL,none⟩) l.length c) 29),(bK b1 [(I6 e.s),(St e.l),(N6 e.n),(N6 e.v)] 24),(b2,.cells [(U6 0),(I6 0),(I6 0),(St []),(U6 0),(U6 0),(I6 0),(St []),(U6 0),(U6 0),(I6 0),(St []),(U6 0),(U6 0),(U6 0),(U6 0),(U6 0),(U6 0),(U6 0),S0].toArray 29 (0,0)),(bK b5 [(I6 12),(I6 ((freeB l : Nat) : Int)),(U6 0),(I6 0),(St (bcbA e vr fl target nonce (Eng.freshB 1 (sizeN vr))).outB)] 38),(bK b6 [(I6 (getB l target).1.t),(I6 (getB l target).1.n),(N6 (getB l target).1.f),(I6 (getB l target).1.c),(St (getB l target).1.d)] 38)] ++ [(b22,.cells (((l.set i9 (y9.withD (Eng.freshB 1 (getB l target).1.d.length))).flatMap Bk.cs) ++ j22).toArray 38 (0,0))]) ++ σF) (fun _ h => permK (perm_out [(bK b15 [(.slice a19_15 1 1),(I6 2),(I6 e.s),(St e.l),(N6 e.n),(N6 e.v),(.slice a29_15 3 c29_15),(.slice a39_15 1 c39_15)] 96),(bK ib [(.slice a7 1 c7)] 76),(bK b0 (bnCs p (some ⟨bL,fL,none⟩) l.length c) 29),(bK b1 [(I6 e.s),(St e.l),(N6 e.n),(N6 e.v)] 24),(b2,.cells [(U6 0),(I6 0),(I6 0),(St []),(U6 0),(U6 0),(I6 0),(St []),(U6 0),(U6 0),(I6 0),(St []),(U6 0),(U6 0),(U6 0),(U6 0),(U6 0),(U6 0),(U6 0),S0].toArray 29 (0,0)),(bK b5 [(I6 12),(I6 ((freeB l : Nat) : Int)),(U6 0),(I6 0),(St (bcbA e vr fl target nonce (Eng.freshB 1 (sizeN vr))).outB)] 38),(bK b6 [(I6 (getB l target).1.t),(I6 (getB l target).1.n),(N6 (getB l target).1.f),(I6 (getB l target).1.c),(St (getB l target).1.d)] 38)] σF _) h) ?_
     generalize hl2 : l.set i9 (y9.withD (Eng.freshB 1 (getB l target).1.d.length)) = l2 at hJ22 ⊢
     have hl2n : l2.length = l.length := by rw [← hl2]; exact List.length_set
     rw [← hl2n] at hJ22
     have hpos9 : 0 < l.length := List.length_pos_iff.2 hne
     have h11 : l2.length - 1 + 1 = l2.length := by omega
     have hlen9 := bcbA_len (e := e) (vr := vr) (fl := fl) (target := target) (nonce := nonce) (tag := Eng.freshB 1 (sizeN vr)) (ei_len (by simpa using h1)) (by omega) (by omega)
     have hmd9 : (Eng.freshB 1 (getB l target).1.d.length).length ≤ R47 := by rw [Eng.freshB_length]; have := (right_small hr9).2 _ (getB_mem hg2); unfold R47; omega
     have hok2 : ∀ x ∈ l2,x.ok := fun x hx => by
      rw [← hl2] at hx
      rcases List.mem_or_eq_of_mem_set hx with hx | rfl
      · exact hok9 x hx
      · exact ⟨(hok9 y9 (List.mem_of_getElem? hy9)).f,hmd9⟩
     have hs2 : (secA l e vr fl nonce target).ok := ⟨(show (0 : Nat) < W64 by decide),(by show (As.outB _).length ≤ R47; unfold R47; omega)⟩
     have hok3 : ∀ x ∈ putL l2 (secA l e vr fl nonce target),x.ok := fun x hx => by
      unfold putL at hx
      rcases List.mem_append.1 hx with hx | hx
      ·
       rcases List.mem_append.1 hx with hx | hx
       · exact hok2 x (List.mem_of_mem_take hx)
       · rw [List.mem_singleton.1 hx]; exact hs2
      · exact hok2 x (List.mem_of_mem_drop hx)
     have hdl9 : (putL l2 (secA l e vr fl nonce target)).length = l2.length - 1 + 2 := putL_len (by rintro rfl; simp at hl2n; omega)
     have hS9 : sealL l e vr fl nonce target = putL l2 (secA l e vr fl nonce target) := by unfold sealL; rw [hi9,hg9,Int.toNat_natCast,← hl2,hg9]
     refine sx_E 110 (Sl b22 0 l.length c22) (Sl b22 0 l2.length c22) (by rw [hl2n]) ?_
     refine zq 1 (zn (zs ?_))
     refine sx_drawnM 11 2 0 [111,112,113,114,115,116,117,118,119,120,121] [.val (bnV p (some ⟨bL,fL,none⟩) l.length c),.val (Sl b22 0 l2.length c22),.val (Sl b22 0 l2.length c22),.val (L6 l2.length),.val (I6 ((l2.length - 1 : Nat) : Int)),.val (.agg #[(I6 12),(I6 ((freeB l : Nat) : Int)),(U6 0),(I6 0),(St (bcbA e vr fl target nonce (Eng.freshB 1 (sizeN vr))).outB)]),.mem (fun v V => ∃ g,v = (Sl g 0 1 1) ∧ V.range g 0 [(I6 12),(I6 ((freeB l : Nat) : Int)),(U6 0),(I6 0),(St (bcbA e vr fl target nonce (Eng.freshB 1 (sizeN vr))).outB)]),.mem (BksOf (putL l2 (secA l e vr fl nonce target))),.mem (BnRes (chkP p (putL l2 (secA l e vr fl nonce target))) (chkL p (putL l2 (secA l e vr fl nonce target))) (bnRight p (putL l2 (secA l e vr fl nonce target)))),.mem (BnOf (chkP p (putL l2 (secA l e vr fl nonce target))) (chkL p (putL l2 (secA l e vr fl nonce target)))),.val (I6 (bnRight p (putL l2 (secA l e vr fl nonce target))))] 7 [(b22,(.cells (l2.flatMap Bk.cs ++ j22).toArray 38 (0,0)))] ([(bK b15 [(.slice a19_15 1 1),(I6 2),(I6 e.s),(St e.l),(N6 e.n),(N6 e.v),(.slice a29_15 3 c29_15),(.slice a39_15 1 c39_15)] 96),(bK ib [(.slice a7 1 c7)] 76),(bK b0 (bnCs p (some ⟨bL,fL,none⟩) l.length c) 29),(bK b1 [(I6 e.s),(St e.l),(N6 e.n),(N6 e.v)] 24),(b2,.cells [(U6 0),(I6 0),(I6 0),(St []),(U6 0),(U6 0),(I6 0),(St []),(U6 0),(U6 0),(I6 0),(St []),(U6 0),(U6 0),(U6 0),(U6 0),(U6 0),(U6 0),(U6 0),S0].toArray 29 (0,0)),(bK b5 [(I6 12),(I6 ((freeB l : Nat) : Int)),(U6 0),(I6 0),(St (bcbA e vr fl target nonce (Eng.freshB 1 (sizeN vr))).outB)] 38),(bK b6 [(I6 (getB l target).1.t),(I6 (getB l target).1.n),(N6 (getB l target).1.f),(I6 (getB l target).1.c),(St (getB l target).1.d)] 38)] ++ ([] ++ σF)) (fun v V σ' => BksOf (putL l2 (secA l e vr fl nonce target)) v V ∧ σ' = []) (pick_perm [(bK b15 [(.slice a19_15 1 1),(I6 2),(I6 e.s),(St e.l),(N6 e.n),(N6 e.v),(.slice a29_15 3 c29_15),(.slice a39_15 1 c39_15)] 96),(bK ib [(.slice a7 1 c7)] 76),(bK b0 (bnCs p (some ⟨bL,fL,none⟩) l.length c) 29),(bK b1 [(I6 e.s),(St e.l),(N6 e.n),(N6 e.v)] 24),(b2,.cells [(U6 0),(I6 0),(I6 0),(St []),(U6 0),(U6 0),(I6 0),(St []),(U6 0),(U6 0),(I6 0),(St []),(U6 0),(U6 0),(U6 0),(U6 0),(U6 0),(U6 0),(U6 0),S0].toArray 29 (0,0)),(bK b5 [(I6 12),(I6 ((freeB l : Nat) : Int)),(U6 0),(I6 0),(St (bcbA e vr fl target nonce (Eng.freshB 1 (sizeN vr))).outB)] 38),(bK b6 [(I6 (getB l target).1.t),(I6 (getB l target).1.n),(N6 (getB l target).1.f),(I6 (getB l target).1.c),(St (getB l target).1.d)] 38)] ([] ++ σF) (b22,(.cells (l2.flatMap Bk.cs ++ j22).toArray 38 (0,0))) (by kernel_rfl)) (by kernel_rfl) rfl rfl (by kernel_rfl) (by kernel_rfl) (by kernel_rfl) (by kernel_rfl) (by kernel_rfl) (by kernel_rfl) (by simp only [List.forall_mem_cons]; exact ⟨trivial,trivial,trivial,trivial,trivial,trivial,by intro v V V2 hV2 hP; (first | trivial | exact BksOf.mono hV2 hP | exact BnRes.mono hV2 hP | exact BnOf.mono hV2 hP | exact AsOne.mono hV2 hP | (obtain ⟨g,e,hP⟩ := hP; exact ⟨g,e,hP.le hV2⟩) | (obtain ⟨g,e,hP⟩ := hP; exact ⟨g,e,View.range_le hV2 hP⟩)),by intro v V V2 hV2 hP; (first | trivial | exact BksOf.mono hV2 hP | exact BnRes.mono hV2 hP | exact BnOf.mono hV2 hP | exact AsOne.mono hV2 hP | (obtain ⟨g,e,hP⟩ := hP; exact ⟨g,e,hP.le hV2⟩) | (obtain ⟨g,e,hP⟩ := hP; exact ⟨g,e,View.range_le hV2 hP⟩)),by intro v V V2 hV2 hP; (first | trivial | exact BksOf.mono hV2 hP | exact BnRes.mono hV2 hP | exact BnOf.mono hV2 hP | exact AsOne.mono hV2 hP | (obtain ⟨g,e,hP⟩ := hP; exact ⟨g,e,hP.le hV2⟩) | (obtain ⟨g,e,hP⟩ := hP; exact ⟨g,e,View.range_le hV2 hP⟩)),by intro v V V2 hV2 hP; (first | trivial | exact BksOf.mono hV2 hP | exact BnRes.mono hV2 hP | exact BnOf.mono hV2 hP | exact AsOne.mono hV2 hP | (obtain ⟨g,e,hP⟩ := hP; exact ⟨g,e,hP.le hV2⟩) | (obtain ⟨g,e,hP⟩ := hP; exact ⟨g,e,View.range_le hV2 hP⟩)),trivial,fun _ h => by cases h⟩) (show (7 : Nat) < 11 by decide) _ rfl (by intro v V s2 h; exact h.1) (by intro v V V2 s2 hV h; exact ⟨BksOf.mono hV h.1,h.2⟩) ⟨?_,?_,?_,?_,?_,?_,?_,?_,?_,?_,?_,trivial⟩ [16,17,120,121] (fun u => [(Pt b2 0),(I6 0),u 9,(I6 (bnRight p (putL l2 (secA l e vr fl nonce target))))]) (fun u => by kernel_rfl) ?_
     · exact ObM.o 0 (show (0 : Nat) ≠ 7 by decide) (fun σ' => oqL 0 2 b0 20 (bnCs p (some ⟨bL,fL,none⟩) l.length c) 29 rfl (bnV p (some ⟨bL,fL,none⟩) l.length c) rfl (by kernel_rfl) (fun u => by kernel_rfl) (fun u => by kernel_rfl))
     · exact ObM.o 1 (show (1 : Nat) ≠ 7 by decide) (fun σ' => oqQ 1 rfl (Sl b22 0 l2.length c22) (Sl b22 0 l2.length c22) rfl rfl (fun u => by kernel_rfl) (fun u => by kernel_rfl))
     · exact ObM.o 2 (show (2 : Nat) ≠ 7 by decide) (fun σ' => oqQ 2 rfl (Sl b22 0 l2.length c22) (Sl b22 0 l2.length c22) rfl rfl (fun u => by kernel_rfl) (fun u => by kernel_rfl))
     · exact ObM.o 3 (show (3 : Nat) ≠ 7 by decide) (fun σ' => oqQ 3 rfl (L6 l2.length) (L6 l2.length) rfl rfl (fun u => by kernel_rfl) (fun u => by kernel_rfl))
     · exact ObM.o 4 (show (4 : Nat) ≠ 7 by decide) (fun σ' => oqQ 4 rfl (I6 (IntKind.i64.wrap ((((l2.length : Nat)) : Int) - 1))) (I6 ((l2.length - 1 : Nat) : Int)) (congrArg (Value.int .i64) (by rw [IntWalk.i64_in _ (by omega)]; omega)) rfl (fun u => by kernel_rfl) (fun u => by kernel_rfl))
     · exact ObM.o 5 (show (5 : Nat) ≠ 7 by decide) (fun σ' => oqL 5 5 b5 5 [(I6 12),(I6 ((freeB l : Nat) : Int)),(U6 0),(I6 0),(St (bcbA e vr fl target nonce (Eng.freshB 1 (sizeN vr))).outB)] 38 rfl (.agg #[(I6 12),(I6 ((freeB l : Nat) : Int)),(U6 0),(I6 0),(St (bcbA e vr fl target nonce (Eng.freshB 1 (sizeN vr))).outB)]) rfl (by kernel_rfl) (fun u => by kernel_rfl) (fun u => by kernel_rfl))
     ·
      refine ObM.o 6 (show (6 : Nat) ≠ 7 by decide) (fun σ' => oqN 6 rfl rfl (fun v V => ∃ g,v = (Sl g 0 1 1) ∧ V.range g 0 [(I6 12),(I6 ((freeB l : Nat) : Int)),(U6 0),(I6 0),(St (bcbA e vr fl target nonce (Eng.freshB 1 (sizeN vr))).outB)]) rfl [116] (fun u => [(.agg #[(I6 12),(I6 ((freeB l : Nat) : Int)),(U6 0),(I6 0),(St (bcbA e vr fl target nonce (Eng.freshB 1 (sizeN vr))).outB)])]) (fun u => by kernel_rfl) (fun u V hV hdq => ?_))
      refine ⟨[(I6 12),(I6 ((freeB l : Nat) : Int)),(U6 0),(I6 0),(St (bcbA e vr fl target nonce (Eng.freshB 1 (sizeN vr))).outB)],38,fun r => (Sl r 0 1 1),?_,fun g V' hV' hR => ?_⟩
      · kernel_rfl
      exact ⟨g,rfl,hR⟩
     ·
      refine ObM.call ⟨_,78,[112,115,117],(fun u => [(Sl b22 0 l2.length c22),(I6 ((l2.length - 1 : Nat) : Int)),u 6]),rfl,rfl,(fun u => by kernel_rfl),fun u V hV hdq => ?_⟩
      have e6 : (fun v V => ∃ g,v = (Sl g 0 1 1) ∧ V.range g 0 [(I6 12),(I6 ((freeB l : Nat) : Int)),(U6 0),(I6 0),(St (bcbA e vr fl target nonce (Eng.freshB 1 (sizeN vr))).outB)]) (u 6) V := hdq 6 (by kernel_rfl)
      obtain ⟨g6,q6,t6⟩ := e6
      refine ⟨#[(Sl b22 0 l2.length c22),(I6 ((l2.length - 1 : Nat) : Int)),u 6],by kernel_rfl,fun W hM => ?_⟩
      rw [q6]
      exact by
       have key := insertBk_any b22 c22 (l2.length - 1) g6 0 1 _ j22 (secA l e vr fl nonce target).cs hM (by rw [h11]; exact hJ22) (by omega) (bks_one l2) t6 rfl (bk_one _)
       rw [h11] at key
       exact key.mono fun e W' h => h.mono fun v V' σ2 ⟨h1,b',cap,h2,h3⟩ => ⟨bks_of_range (by rw [flat_put] at h3; exact h3) h2 (by rw [hdl9]) hok3 (by unfold R47; omega),h1⟩
     ·
      refine ObM.o 8 (show (8 : Nat) ≠ 7 by decide) (fun σ' => oqM 8 69 rfl rfl (BnRes (chkP p (putL l2 (secA l e vr fl nonce target))) (chkL p (putL l2 (secA l e vr fl nonce target))) (bnRight p (putL l2 (secA l e vr fl nonce target)))) rfl [111,118] (fun u => [(bnV p (some ⟨bL,fL,none⟩) l.length c),u 7]) (fun u => by kernel_rfl) (fun u V hV hdq => ?_))
      have e7 : (BksOf (putL l2 (secA l e vr fl nonce target))) (u 7) V := hdq 7 (by kernel_rfl)
      obtain ⟨a7,c7,q7,hb7⟩ := e7
      refine ⟨#[(bnV p (some ⟨bL,fL,none⟩) l.length c),u 7],by kernel_rfl,fun W hW => ?_⟩
      rw [q7]
      exact cChecked_any p l (putL l2 (secA l e vr fl nonce target)) _ _ _ _ W hW hp hb7
     ·
      refine ObM.o 9 (show (9 : Nat) ≠ 7 by decide) (fun σ' => oqP 9 rfl rfl (BnOf (chkP p (putL l2 (secA l e vr fl nonce target))) (chkL p (putL l2 (secA l e vr fl nonce target)))) rfl [119] (fun u => [u 8]) (fun u => by kernel_rfl) (fun u V hV hdq => ?_))
      have e8 : (BnRes (chkP p (putL l2 (secA l e vr fl nonce target))) (chkL p (putL l2 (secA l e vr fl nonce target))) (bnRight p (putL l2 (secA l e vr fl nonce target)))) (u 8) V := hdq 8 (by kernel_rfl)
      obtain ⟨a8,c8,q8,hb8⟩ := e8
      rw [q8]
      exact ⟨(bnV (chkP p (putL l2 (secA l e vr fl nonce target))) a8 (chkL p (putL l2 (secA l e vr fl nonce target))).length c8),by kernel_rfl,⟨_,_,rfl,hb8⟩⟩
     ·
      refine ObM.o 10 (show (10 : Nat) ≠ 7 by decide) (fun σ' => oqK 10 rfl rfl (I6 (bnRight p (putL l2 (secA l e vr fl nonce target)))) rfl [119] (fun u => [u 8]) (fun u => by kernel_rfl) (fun u V hV hdq => ?_))
      have e8 : (BnRes (chkP p (putL l2 (secA l e vr fl nonce target))) (chkL p (putL l2 (secA l e vr fl nonce target))) (bnRight p (putL l2 (secA l e vr fl nonce target)))) (u 8) V := hdq 8 (by kernel_rfl)
      obtain ⟨a8,c8,q8,hb8⟩ := e8
      rw [q8]
      show _ = _
      kernel_rfl
     intro u23 V23 s23 hV23 hdq23 hP23
     have k27 := k16.le hV23
     generalize u23 7 = z23 at hP23 ⊢
     obtain ⟨_,rfl⟩ := hP23
     have e9_23 : (BnOf (chkP p (putL l2 (secA l e vr fl nonce target))) (chkL p (putL l2 (secA l e vr fl nonce target)))) (u23 9) V23 := hdq23 9 (by decide)
     obtain ⟨a9_23,c9_23,q9_23,hb9_23⟩ := e9_23
     rw [q9_23]
     refine sx_S 4 b2 (zq 1 (zn (sx_ret ?_)))
     refine sx_ret_any [.cell 16 29,.tmp 17] [(.agg #[(U6 ((chkP p (putL l2 (secA l e vr fl nonce target))).f : Int)),(I6 (chkP p (putL l2 (secA l e vr fl nonce target))).c),(I6 (chkP p (putL l2 (secA l e vr fl nonce target))).dst.s),(St (chkP p (putL l2 (secA l e vr fl nonce target))).dst.l),(U6 ((chkP p (putL l2 (secA l e vr fl nonce target))).dst.n : Int)),(U6 ((chkP p (putL l2 (secA l e vr fl nonce target))).dst.v : Int)),(I6 (chkP p (putL l2 (secA l e vr fl nonce target))).src.s),(St (chkP p (putL l2 (secA l e vr fl nonce target))).src.l),(U6 ((chkP p (putL l2 (secA l e vr fl nonce target))).src.n : Int)),(U6 ((chkP p (putL l2 (secA l e vr fl nonce target))).src.v : Int)),(I6 (chkP p (putL l2 (secA l e vr fl nonce target))).rpt.s),(St (chkP p (putL l2 (secA l e vr fl nonce target))).rpt.l),(U6 ((chkP p (putL l2 (secA l e vr fl nonce target))).rpt.n : Int)),(U6 ((chkP p (putL l2 (secA l e vr fl nonce target))).rpt.v : Int)),(U6 ((chkP p (putL l2 (secA l e vr fl nonce target))).time : Int)),(U6 ((chkP p (putL l2 (secA l e vr fl nonce target))).seq : Int)),(U6 ((chkP p (putL l2 (secA l e vr fl nonce target))).life : Int)),(U6 ((chkP p (putL l2 (secA l e vr fl nonce target))).off : Int)),(U6 ((chkP p (putL l2 (secA l e vr fl nonce target))).tot : Int)),(.slice a9_23 (chkL p (putL l2 (secA l e vr fl nonce target))).length c9_23)]),(I6 (bnRight p (putL l2 (secA l e vr fl nonce target))))] rfl ⟨(retK' 4 b2 20),retT',trivial⟩ (fun W' hM => ?_)
     refine retM_at 1 7 (ib,.cells #[(.slice a7 1 c7)] 76 (0,0)) hM (View.le_trans (View.le_trans (View.le_trans (View.le_trans hV3 hV7) hV9) hV15) hV23) ⟨?_,?_⟩
     ·
      unfold sealR
      rw [if_neg (by rw [h0]; exact Bool.false_ne_true),if_neg (by rw [h1]; exact Bool.false_ne_true),if_neg (by rw [h2]; exact Bool.false_ne_true),if_neg (by rw [h3]; exact Bool.false_ne_true),hS9]
      exact ⟨_,_,rfl,hb9_23⟩
     ·
      unfold TabSeal
      rw [if_pos (by unfold sealB; have e9 := h1; simp only [Bool.not_eq_false'] at e9; rw [h0,e9,h2,h3]; rfl)]
      exact ⟨a7,c7,rfl,k27⟩
    ·
     refine sx_MI 0 (bK ib [S0] 76) 77 #[(Pt eb 0),(I6 vr),(St key),(St nonce),(St (besideB p l target (sec0 l) fl)),(St (getB l target).1.d)] (SealIs ib vr key nonce (besideB p l target (sec0 l) fl) (getB l target).1.d) (fun W hM => gSeal_any vr key nonce (besideB p l target (sec0 l) fl) (getB l target).1.d eb ib (hg.le hV3) (by have := (right_small (mayZ_sound h0)).2 _ (getB_mem (besideZ_zero (by simpa using h2)).2.2.2); omega) hM) (fun v33 V33 s33 hV33 hP33 => ?_)
     unfold SealIs at hP33
     rw [if_neg (by rw [h3]; exact Bool.false_ne_true)] at hP33
     obtain ⟨rfl,rfl⟩ := hP33
     refine zq 7 (zn (zs (zQ 2 (zn (sx_T (zQ 2 (sx_S 3 b2 (zq 1 (zn (sx_ret ?_))))))))))
     refine sx_ret_any [.cell 16 29,.tmp 17] [(.agg #[(U6 0),(I6 0),(I6 0),(St []),(U6 0),(U6 0),(I6 0),(St []),(U6 0),(U6 0),(I6 0),(St []),(U6 0),(U6 0),(U6 0),(U6 0),(U6 0),(U6 0),(U6 0),S0]),(I6 1)] rfl ⟨(retK' 3 b2 20),retT',trivial⟩ (fun W' hM => ?_)
     refine retM_at 0 6 (ib,.cells #[S0] 76 (0,0)) hM (View.le_trans hV3 hV33) ⟨?_,?_⟩
     ·
      unfold sealR
      rw [if_neg (by rw [h0]; exact Bool.false_ne_true),if_neg (by rw [h1]; exact Bool.false_ne_true),if_neg (by rw [h2]; exact Bool.false_ne_true),if_pos (by rw [h3]; rfl)]
      exact ⟨none,0,rfl,BksAt.nil⟩
     ·
      unfold TabSeal sealB
      rw [if_neg (by simp [h0,(show eiRight e = true from by simpa using h1),h2,h3])]
      rfl
structure BksAt0 (U : View) (a : Option Addr) (l : List Bk) : Prop where
 at_ : ∀ i x, l[i]? = some x → ∃ b f, a = some ⟨b, f, none⟩ ∧ U.range b (f + i * 5) x.cs
 f : ∀ x ∈ l, x.f < W64
 len : l.length ≤ maxLen
theorem BksAt0.le {U V : View} (h : View.le U V) {a : Option Addr} {l : List Bk} (hl : BksAt0 U a l) : BksAt0 V a l :=
 ⟨fun i x hx => by obtain ⟨b, f, e, hr⟩ := hl.at_ i x hx; exact ⟨b, f, e, View.range_le h hr⟩, hl.f, hl.len⟩
theorem BksAt0.up {U : View} {a : Option Addr} {l : List Bk} (h : BksAt0 U a l) (h1 : l.length ≤ 1000) (h2 : ∀ x ∈ l, x.d.length ≤ 100000) : BksAt U a l :=
 ⟨h.at_, fun x hx => ⟨h.f x hx, by have := h2 x hx; unfold R47; omega⟩, by unfold R47; omega⟩
theorem rAt13_any (p : Pr) (l : List Bk) (a : Option Addr) (c : Nat) (num : Int) (w : World) {U : View} (hU : ∀ a v, U a = some v → w.cell? a = some v) (hl : BksAt0 U a l) : Calls Tryz.prog 9 #[bnV p a l.length c, .int .i64 num] w (Ret (.int .i64 (idxB l num)) w) := by
 have hlen := hl.len
 unfold maxLen at hlen
 refine sx_enter (f := 9) 22 U Tryz.func9 rfl rfl rfl hU ?_
 refine zs (zr (sx_N (fun b0 => (zq 1 (zn (zs (zQ 1 (zn (sx_block ?_)))))))))
 refine sx_loop (α := Nat) (fun x => [1,2,4,5].zip [(I6 num),(Pt b0 0),(I6 0),(L6 x)]) (fun x => U) (fun x => [(bK b0 (bnCs p a l.length c) 29)]) (fun x => x ≤ l.length ∧ idxF num x (l.drop x) = idxB l num) (fun x => l.length - x) 0 ?_ (look_zip _ _ (by kernel_rfl)) (fun _ h => h.eqv (by kernel_rfl)) ?_
 · exact ⟨Nat.zero_le _,rfl⟩
 intro x hx
 obtain ⟨hx1,hx2⟩ := hx
 refine zs (zB [0,0,1,0,0] [(b0,1)] (zn (sx_D (decide (((x : Nat) : Int) < (((l.length : Nat)) : Int))) (fun h0 => ?_) (fun h0 => ?_))))
 ·
  have h0d := of_decide_eq_true h0
  refine zk (zs (sx_block (zB [0,1,0] [(b0,1)] ?_)))
  obtain ⟨y1,hy1⟩ : ∃ y,(l)[x]? = some y := ⟨(l)[x]'(by omega),List.getElem?_eq_getElem _⟩
  obtain ⟨b1,f1,rfl,hU1⟩ := hl.at_ x y1 hy1
  refine sx_R (Pt b1 (f1 + x * 5)) (rIx 38 rfl b1 f1 l.length c x 5) ?_
  refine zq 1 (zV b1 (f1 + x * 5 + 1) (I6 y1.n) (hU1 1 _ rfl) 3 (.tmp 17) _ Tryz.underlying3 rfl ?_)
  refine zq 2 (zn (sx_D (y1.n == num) (fun h1 => ?_) (fun h1 => ?_)))
  ·
   have h1d := eq_of_beq h1
   refine zQ 2 (zn (sx_ret (sx_Z [4] [(L6 x)] (fun W' hM => ?_))))
   refine ⟨?_,hM.below⟩
   rw [← hx2,idxF_drop hy1,if_pos h1]
   rfl
  ·
   have h1d := beq_eq_false_iff_ne.1 h1
   refine zk (zr (zq 2 (sx_E 12 (I6 (IntKind.i64.wrap (((x : Nat) : Int) + 1))) (I6 (((x : Nat) : Int) + 1)) i6v ?_)))
   refine zq 1 (zn ?_)
   refine ⟨(x + 1),?_,?_,look_zip _ _ (by kernel_rfl),fun _ h => h.eqv (by kernel_rfl)⟩
   · exact ⟨by omega,by rw [← hx2,idxF_drop hy1,if_neg (by rw [h1]; exact Bool.false_ne_true)]⟩
   · show l.length - (x + 1) < l.length - x; omega
 ·
  have h0d := of_decide_eq_false h0
  refine sx_exit (zQ 1 (zn (sx_ret (sx_Z [4] [(I6 (-1))] (fun W' hM => ?_)))))
  refine ⟨?_,hM.below⟩
  rw [← hx2,drop_all (by omega)]
  rfl
def few10 (e : Ei) : Bool := decide (((e.l.length : Nat) : Int) ≤ 100)
theorem rFew10_any (e : Ei) (w : World) : Calls Tryz.prog 32 #[e.V] w (Ret (.bool (few10 e)) w) := by
 refine sx_enter (f := 32) 7 View.no Tryz.func32 rfl rfl rfl (fun _ _ h => by cases h) ?_
 refine zs (zr (sx_N (fun b0 => (zq 1 (zn (zB [0,1,0,0,0] [(b0,1)] (zn (sx_ret (sx_Z [2] [(.bool (decide ((((e.l).length : Nat) : Int) ≤ 100)))] (fun W' hM => ?_))))))))))
 exact ⟨rfl,hM.below⟩
def few11 (p : Pr) : Bool := few10 p.dst && few10 p.src && few10 p.rpt
theorem rFew11_any (p : Pr) (w : World) : Calls Tryz.prog 79 #[p.V] w (Ret (.bool (few11 p)) w) := by
 refine sx_enter (f := 79) 16 View.no Tryz.func79 rfl rfl rfl (fun _ _ h => by cases h) ?_
 refine zs (zr (sx_N (fun b0 => (zq 1 (zn (zB [0,1] [(b0,4)] (sx_C 32 #[(.agg #[(I6 p.dst.s),(St p.dst.l),(N6 p.dst.n),(N6 p.dst.v)])] (.bool (few10 p.dst)) (fun W hM => rFew10_any p.dst W) ?_)))))))
 refine zq 1 (sx_BL 6 (few10 p.dst) (fun h0 => ?_) (fun h0 => ?_))
 ·
  refine sx_B [0,1] [(b0,4)] (sx_C 32 #[(.agg #[(I6 p.src.s),(St p.src.l),(N6 p.src.n),(N6 p.src.v)])] (.bool (few10 p.src)) (fun W hM => rFew10_any p.src W) ?_)
  refine zq 2 (sx_BL 11 (few10 p.src) (fun h1 => ?_) (fun h1 => ?_))
  ·
   refine sx_B [0,1] [(b0,4)] (sx_C 32 #[(.agg #[(I6 p.rpt.s),(St p.rpt.l),(N6 p.rpt.n),(N6 p.rpt.v)])] (.bool (few10 p.rpt)) (fun W hM => rFew10_any p.rpt W) ?_)
   refine zq 2 (zn (sx_ret (sx_Z [2] [(.bool (few10 p.rpt))] (fun W' hM => ?_))))
   exact ⟨by simp only [resV,few11,h0,h1,bs,if_true,if_false,cond_true,cond_false,reduceIte],hM.below⟩
  ·
   refine zq 5 (zn (sx_ret (sx_Z [2] [(.bool false)] (fun W' hM => ?_))))
   exact ⟨by simp only [resV,few11,h0,h1,bs,if_true,if_false,cond_true,cond_false,reduceIte],hM.below⟩
 ·
  refine zq 10 (zn (sx_ret (sx_Z [2] [(.bool false)] (fun W' hM => ?_))))
  exact ⟨by simp only [resV,few11,h0,bs,if_true,if_false,cond_true,cond_false,reduceIte],hM.below⟩
def bigD (x : Bk) : Bool := decide (((x.d.length : Nat) : Int) > 4100)
def few13 (p : Pr) (l : List Bk) : Bool := (l.take 30).all (fun x => !bigD x) && decide (((l.length : Nat) : Int) ≤ 20) && few11 p
theorem few30_drop {l : List Bk} {i : Nat} {y : Bk} (h : l[i]? = some y) (hi : i < 30) : ((l.drop i).take (30 - i)).all (fun x => !bigD x) = (!bigD y && ((l.drop (i + 1)).take (30 - (i + 1))).all (fun x => !bigD x)) := by
 rw [drop_some h, show 30 - i = (30 - (i + 1)) + 1 by omega, List.take_succ_cons, List.all_cons]
theorem rFew13_any (p : Pr) (l : List Bk) (a : Option Addr) (c : Nat) (w : World) {U : View} (hU : ∀ a v, U a = some v → w.cell? a = some v) (hl : BksAt0 U a l) : Calls Tryz.prog 31 #[bnV p a l.length c] w (Ret (.bool (few13 p l)) w) := by
 have hlen := hl.len
 unfold maxLen at hlen
 refine sx_enter (f := 31) 32 U Tryz.func31 rfl rfl rfl hU ?_
 refine zs (zr (sx_N (fun b0 => (zq 1 (zn (zs (zQ 1 (zn (sx_block ?_)))))))))
 refine sx_loop (α := Nat) (fun x => [1,2,3].zip [(Pt b0 0),(.bool false),(L6 x)]) (fun x => U) (fun x => [(bK b0 (bnCs p a l.length c) 29)]) (fun x => x ≤ l.length ∧ x ≤ 30 ∧ ((l.drop x).take (30 - x)).all (fun x => !bigD x) = (l.take 30).all (fun x => !bigD x)) (fun x => l.length - x) 0 ?_ (look_zip _ _ (by kernel_rfl)) (fun _ h => h.eqv (by kernel_rfl)) ?_
 · exact ⟨Nat.zero_le _,Nat.zero_le _,rfl⟩
 intro x hx
 obtain ⟨hx1,hx2,hx3⟩ := hx
 refine zs (zB [0,0,1,0,0,0] [(b0,1)] (sx_BL 9 (decide (((x : Nat) : Int) < (((l.length : Nat)) : Int))) (fun h0 => ?_) (fun h0 => ?_)))
 ·
  have h0d := of_decide_eq_true h0
  refine zq 3 (zn (sx_D (decide (((x : Nat) : Int) < 30)) (fun h1 => ?_) (fun h1 => ?_)))
  ·
   have h1d := of_decide_eq_true h1
   refine zk (zs (sx_block (zB [0,1,0] [(b0,1)] ?_)))
   obtain ⟨y1,hy1⟩ : ∃ y,(l)[x]? = some y := ⟨(l)[x]'(by omega),List.getElem?_eq_getElem _⟩
   obtain ⟨b1,f1,rfl,hU1⟩ := hl.at_ x y1 hy1
   refine sx_R (Pt b1 (f1 + x * 5)) (rIx 38 rfl b1 f1 l.length c x 5) ?_
   refine zq 1 (zV b1 (f1 + x * 5 + 4) (St y1.d) (hU1 4 _ rfl) 9 (.tmp 19) _ Tryz.underlying9 rfl ?_)
   refine zq 2 (zn (sx_D (decide ((((y1.d).length : Nat) : Int) > 4100)) (fun h2 => ?_) (fun h2 => ?_)))
   ·
    have h2d := of_decide_eq_true h2
    refine zQ 1 (zn (sx_ret (sx_Z [2] [(.bool false)] (fun W' hM => ?_))))
    refine ⟨?_,hM.below⟩
    unfold few13
    have hb : bigD y1 = true := h2
    rw [← hx3,few30_drop hy1 (by omega),hb]
    rfl
   ·
    have h2d := of_decide_eq_false h2
    refine zk (zr (zq 2 (sx_E 14 (I6 (IntKind.i64.wrap (((x : Nat) : Int) + 1))) (I6 (((x : Nat) : Int) + 1)) i6v ?_)))
    refine zq 1 (zn ?_)
    refine ⟨(x + 1),?_,?_,look_zip _ _ (by kernel_rfl),fun _ h => h.eqv (by kernel_rfl)⟩
    · exact ⟨by omega,by omega,by have hb : bigD y1 = false := h2; rw [← hx3,few30_drop hy1 (by omega),hb]; rfl⟩
    · show l.length - (x + 1) < l.length - x; omega
  ·
   have h1d := of_decide_eq_false h1
   refine sx_exit (zB [0,1,0,0,0] [(b0,1)] (sx_BL 27 (decide ((((l.length : Nat)) : Int) ≤ 20)) (fun h3 => ?_) (fun h3 => ?_)))
   ·
    have h3d := of_decide_eq_true h3
    refine sx_B [0,1] [(b0,19)] (sx_C 79 #[(p.V)] (.bool (few11 p)) (fun W hM => rFew11_any p W) ?_)
    refine zq 2 (zn (sx_ret (sx_Z [2] [(.bool (few11 p))] (fun W' hM => ?_))))
    refine ⟨?_,hM.below⟩
    unfold few13
    have h30 : (l.take 30).all (fun x => !bigD x) = true := by
     rw [← hx3]
     by_cases h9 : x = l.length
     · rw [drop_all (by omega),List.take_nil]; rfl
     · rw [show 30 - x = 0 by omega,List.take_zero]; rfl
    simp only [resV,h30,h3,bs,if_true,if_false,cond_true,cond_false,reduceIte]
   ·
    have h3d := of_decide_eq_false h3
    refine zq 5 (zn (sx_ret (sx_Z [2] [(.bool false)] (fun W' hM => ?_))))
    refine ⟨?_,hM.below⟩
    unfold few13
    have h30 : (l.take 30).all (fun x => !bigD x) = true := by
     rw [← hx3]
     by_cases h9 : x = l.length
     · rw [drop_all (by omega),List.take_nil]; rfl
     · rw [show 30 - x = 0 by omega,List.take_zero]; rfl
    simp only [resV,h30,h3,bs,if_true,if_false,cond_true,cond_false,reduceIte]
 ·
  have h0d := of_decide_eq_false h0
  refine zq 3 (zn (sx_F (sx_exit (zB [0,1,0,0,0] [(b0,1)] (sx_BL 27 (decide ((((l.length : Nat)) : Int) ≤ 20)) (fun h4 => ?_) (fun h4 => ?_))))))
  ·
   have h4d := of_decide_eq_true h4
   refine sx_B [0,1] [(b0,19)] (sx_C 79 #[(p.V)] (.bool (few11 p)) (fun W hM => rFew11_any p W) ?_)
   refine zq 2 (zn (sx_ret (sx_Z [2] [(.bool (few11 p))] (fun W' hM => ?_))))
   refine ⟨?_,hM.below⟩
   unfold few13
   have h30 : (l.take 30).all (fun x => !bigD x) = true := by
    rw [← hx3]
    by_cases h9 : x = l.length
    · rw [drop_all (by omega),List.take_nil]; rfl
    · rw [show 30 - x = 0 by omega,List.take_zero]; rfl
   simp only [resV,h30,h4,bs,if_true,if_false,cond_true,cond_false,reduceIte]
  ·
   have h4d := of_decide_eq_false h4
   refine zq 5 (zn (sx_ret (sx_Z [2] [(.bool false)] (fun W' hM => ?_))))
   refine ⟨?_,hM.below⟩
   unfold few13
   have h30 : (l.take 30).all (fun x => !bigD x) = true := by
    rw [← hx3]
    by_cases h9 : x = l.length
    · rw [drop_all (by omega),List.take_nil]; rfl
    · rw [show 30 - x = 0 by omega,List.take_zero]; rfl
   simp only [resV,h30,h4,bs,if_true,if_false,cond_true,cond_false,reduceIte]
def sumD (l : List Bk) : Nat := (l.map fun x => x.d.length).sum
theorem sumD_drop {l : List Bk} {i : Nat} {y : Bk} (h : l[i]? = some y) : sumD (l.drop i) = y.d.length + sumD (l.drop (i + 1)) := by
 unfold sumD
 rw [drop_some h, List.map_cons, List.sum_cons]
theorem lSmall_any (p : Pr) (l : List Bk) (a : Option Addr) (c : Nat) (w : World) {U : View} (hU : ∀ a v, U a = some v → w.cell? a = some v) (hl : BksAt U a l) (h20 : l.length ≤ 30) (hd : ∀ x ∈ l, x.d.length ≤ 4100) : Calls Tryz.prog 33 #[bnV p a l.length c] w (Ret (.bool (decide (((sumD l : Nat) : Int) ≤ 4500))) w) := by
 refine sx_enter (f := 33) 23 U Tryz.func33 rfl rfl rfl hU ?_
 refine zs (zr (sx_N (fun b0 => (zq 1 (zn (zQ 1 (zn (zs (zQ 1 (zn (sx_block ?_)))))))))))
 refine sx_loop (α := Nat × Nat) (fun x => [1,2,3,4].zip [(Pt b0 0),(.bool false),(L6 x.2),(L6 x.1)]) (fun x => U) (fun x => [(bK b0 (bnCs p a l.length c) 29)]) (fun x => x.1 ≤ l.length ∧ x.2 + sumD (l.drop x.1) = sumD l ∧ x.2 ≤ 4100 * x.1) (fun x => l.length - x.1) (0,0) ?_ (look_zip _ _ (by kernel_rfl)) (fun _ h => h.eqv (by kernel_rfl)) ?_
 · exact ⟨Nat.zero_le _,Nat.zero_add _,Nat.le_refl _⟩
 intro x hx
 obtain ⟨hx1,hx2,hx3⟩ := hx
 refine zs (zB [0,0,1,0,0] [(b0,1)] (zn (sx_D (decide (((x.1 : Nat) : Int) < (((l.length : Nat)) : Int))) (fun h0 => ?_) (fun h0 => ?_))))
 ·
  have h0d := of_decide_eq_true h0
  refine zk (zs (sx_block (zr (sx_B [0,0,1,0] [(b0,1)] ?_))))
  obtain ⟨y1,hy1⟩ : ∃ y,(l)[x.1]? = some y := ⟨(l)[x.1]'(by omega),List.getElem?_eq_getElem _⟩
  obtain ⟨b1,f1,rfl,hU1⟩ := hl.at_ x.1 y1 hy1
  have hdy1 := hd y1 (List.mem_of_getElem? hy1)
  refine sx_R (Pt b1 (f1 + x.1 * 5)) (rIx 38 rfl b1 f1 l.length c x.1 5) ?_
  refine zq 1 (zV b1 (f1 + x.1 * 5 + 4) (St y1.d) (hU1 4 _ rfl) 9 (.tmp 17) _ Tryz.underlying9 rfl ?_)
  refine zq 2 (sx_E 20 (I6 (IntKind.i64.wrap (((x.2 : Nat) : Int) + (((y1.d).length : Nat) : Int)))) (I6 (((x.2 : Nat) : Int) + (((y1.d).length : Nat) : Int))) i6v ?_)
  refine zq 1 (zn (zr (zq 2 (sx_E 11 (I6 (IntKind.i64.wrap (((x.1 : Nat) : Int) + 1))) (I6 (((x.1 : Nat) : Int) + 1)) i6v ?_))))
  refine zq 1 (zn ?_)
  refine ⟨(x.1 + 1,x.2 + y1.d.length),?_,?_,look_zip _ _ (by kernel_rfl),fun _ h => h.eqv (by kernel_rfl)⟩
  · exact ⟨by show x.1 + 1 ≤ _; omega,by show x.2 + y1.d.length + sumD (l.drop (x.1 + 1)) = _; rw [← hx2,sumD_drop hy1]; omega,by show x.2 + y1.d.length ≤ 4100 * (x.1 + 1); have := hd y1 (List.mem_of_getElem? hy1); omega⟩
  · show l.length - (x.1 + 1) < l.length - x.1; omega
 ·
  have h0d := of_decide_eq_false h0
  refine sx_exit (zQ 3 (zn (sx_ret (sx_Z [2] [(.bool (decide (((x.2 : Nat) : Int) ≤ 4500)))] (fun W' hM => ?_)))))
  refine ⟨?_,hM.below⟩
  have e : sumD l = x.2 := by rw [← hx2,drop_all (by omega)]; rfl
  rw [e]
  rfl
theorem few13_parts {p : Pr} {l : List Bk} (h : few13 p l = true) : l.length ≤ 20 ∧ (∀ x ∈ l, x.d.length ≤ 4100) := by
 unfold few13 at h
 simp only [Bool.and_eq_true, decide_eq_true_eq] at h
 refine ⟨by omega, fun x hx => ?_⟩
 have := List.all_eq_true.1 h.1.1 x (by rw [List.take_of_length_le (by omega)]; exact hx)
 unfold bigD at this
 simp only [Bool.not_eq_true', decide_eq_false_iff_not] at this
 omega
def wyC (e : Ei) (vr fl : Int) (key nonce : List UInt8) (target : Int) (id : Bool) : List Value := [.int .i64 e.s, .string (B e.l), .int .u64 e.n, .int .u64 e.v, .int .i64 vr, .int .i64 fl, .string (B key), .string (B nonce), .int .i64 target, .bool id]
def wyV (e : Ei) (vr fl : Int) (key nonce : List UInt8) (target : Int) (id : Bool) : Value := .agg (wyC e vr fl key nonce target id).toArray
def fewW (p : Pr) (l : List Bk) (e : Ei) (key nonce : List UInt8) : Bool := few13 p l && decide (((l.length : Nat) : Int) ≤ 18) && few10 e && decide (((key.length : Nat) : Int) ≤ 100) && decide (((nonce.length : Nat) : Int) ≤ 60) && decide (((sumD l : Nat) : Int) ≤ 4500)
theorem lFew_any (p : Pr) (l : List Bk) (a : Option Addr) (c : Nat) (e : Ei) (vr fl : Int) (key nonce : List UInt8) (target : Int) (id : Bool) (w : World) {U : View} (hU : ∀ a v, U a = some v → w.cell? a = some v) (hl : BksAt0 U a l) : Calls Tryz.prog 11 #[bnV p a l.length c, wyV e vr fl key nonce target id] w (Ret (.bool (fewW p l e key nonce)) w) := by
 refine sx_enter (f := 11) 36 U Tryz.func11 rfl rfl rfl hU ?_
 refine zs (zr (sx_N (fun b0 => (sx_N (fun b1 => (zq 1 (zn (zB [1] [(b0,20)] (sx_C 31 #[(bnV p a l.length c)] (.bool (few13 p l)) (fun W hM => rFew13_any p l _ _ W hM.view hl) ?_)))))))))
 refine zq 1 (sx_BL 7 (few13 p l) (fun h0 => ?_) (fun h0 => ?_))
 ·
  refine sx_B [0,1,0,0,0,0] [(b0,1)] (sx_BL 13 (decide ((((l.length : Nat)) : Int) ≤ 18)) (fun h1 => ?_) (fun h1 => ?_))
  ·
   have h1d := of_decide_eq_true h1
   refine sx_B [0,2] [(b1,4)] (sx_C 32 #[(.agg #[(I6 e.s),(St e.l),(N6 e.n),(N6 e.v)])] (.bool (few10 e)) (fun W hM => rFew10_any e W) ?_)
   refine zq 2 (sx_BL 18 (few10 e) (fun h2 => ?_) (fun h2 => ?_))
   ·
    refine sx_B [0,0,2,0,0,0,0] [(b1,1)] (sx_BL 25 (decide ((((key).length : Nat) : Int) ≤ 100)) (fun h3 => ?_) (fun h3 => ?_))
    ·
     have h3d := of_decide_eq_true h3
     refine sx_B [0,0,2,0,0,0,0] [(b1,1)] (sx_BL 32 (decide ((((nonce).length : Nat) : Int) ≤ 60)) (fun h4 => ?_) (fun h4 => ?_))
     ·
      have h4d := of_decide_eq_true h4
      refine sx_B [1] [(b0,20)] (sx_C 33 #[(bnV p a l.length c)] (.bool (decide (((sumD l : Nat) : Int) ≤ 4500))) (fun W hM => lSmall_any p l _ _ W hM.view (hl.up (by have := (few13_parts h0).1; omega) fun x hx => by have := (few13_parts h0).2 x hx; omega) (by have := (few13_parts h0).1; omega) (few13_parts h0).2) ?_)
      refine zq 2 (zn (sx_ret (sx_Z [4] [(.bool (decide (((sumD l : Nat) : Int) ≤ 4500)))] (fun W' hM => ?_))))
      exact ⟨by simp only [resV,fewW,h0,h1,h2,h3,h4,bs,if_true,if_false,cond_true,cond_false,reduceIte],hM.below⟩
     ·
      refine zq 4 (zn (sx_ret (sx_Z [4] [(.bool false)] (fun W' hM => ?_))))
      exact ⟨by simp only [resV,fewW,h0,h1,h2,h3,h4,bs,if_true,if_false,cond_true,cond_false,reduceIte],hM.below⟩
    ·
     refine zq 11 (zn (sx_ret (sx_Z [4] [(.bool false)] (fun W' hM => ?_))))
     exact ⟨by simp only [resV,fewW,h0,h1,h2,h3,bs,if_true,if_false,cond_true,cond_false,reduceIte],hM.below⟩
   ·
    refine zq 18 (zn (sx_ret (sx_Z [4] [(.bool false)] (fun W' hM => ?_))))
    exact ⟨by simp only [resV,fewW,h0,h1,h2,bs,if_true,if_false,cond_true,cond_false,reduceIte],hM.below⟩
  ·
   refine zq 23 (zn (sx_ret (sx_Z [4] [(.bool false)] (fun W' hM => ?_))))
   exact ⟨by simp only [resV,fewW,h0,h1,bs,if_true,if_false,cond_true,cond_false,reduceIte],hM.below⟩
 ·
  refine zq 29 (zn (sx_ret (sx_Z [4] [(.bool false)] (fun W' hM => ?_))))
  exact ⟨by simp only [resV,fewW,h0,bs,if_true,if_false,cond_true,cond_false,reduceIte],hM.below⟩
theorem rSame13_any (p : Pr) (l : List Bk) (a a' : Option Addr) (c c' : Nat) (w : World) {U : View} (hU : ∀ a v, U a = some v → w.cell? a = some v) (hl : BksAt U a l) (hl' : BksAt U a' l) : Calls Tryz.prog 15 #[bnV p a l.length c, bnV p a' l.length c'] w (Ret (.bool true) w) := by
 have hlen := hl.len
 unfold R47 at hlen
 have hnn : (((l.length : Nat) : Int) != ((l.length : Nat) : Int)) = false := by simp
 refine sx_enter (f := 15) 38 U Tryz.func15 rfl rfl rfl hU ?_
 refine zs (zr (sx_N (fun b0 => (sx_N (fun b1 => (zq 1 (zn (zs (zB [0,1,0,2] [(b0,19),(b1,19)] (sx_R (.bool false) (run_nePr _ _ _ rfl p (by kernel_rfl) (by kernel_rfl)) ?_))))))))))
 refine sx_B [0,0,1,0,0,2,0,0] [(b0,1),(b1,1)] (sx_E 18 (.bool ((((l.length : Nat)) : Int) != (((l.length : Nat)) : Int))) (.bool false) (congrArg Value.bool hnn) ?_)
 refine zq 1 (zn (sx_F (zk (zs (zQ 1 (zn (sx_block ?_)))))))
 refine sx_loop (α := Nat) (fun x => [2,3,4,5].zip [(Pt b0 0),(Pt b1 0),(.bool false),(L6 x)]) (fun x => U) (fun x => [(bK b0 (bnCs p a l.length c) 29),(bK b1 (bnCs p a' l.length c') 29)]) (fun x => x ≤ l.length) (fun x => l.length - x) 0 ?_ (look_zip _ _ (by kernel_rfl)) (fun _ h => h.eqv (by kernel_rfl)) ?_
 · exact Nat.zero_le _
 intro x hx
 refine zs (zB [0,0,1,0,0] [(b0,1)] (zn (sx_D (decide (((x : Nat) : Int) < (((l.length : Nat)) : Int))) (fun h0 => ?_) (fun h0 => ?_))))
 ·
  have h0d := of_decide_eq_true h0
  refine zk (zs (sx_block (zs ?_)))
  obtain ⟨y,hy⟩ : ∃ y,l[x]? = some y := ⟨l[x]'(by omega),List.getElem?_eq_getElem _⟩
  obtain ⟨bE1,fE1,rfl,hU1⟩ := hl.at_ x y hy
  obtain ⟨bE2,fE2,rfl,hU2⟩ := hl'.at_ x y hy
  refine sx_W 10 1 3 [27,28,29,30,31,32,33,34,35,36] [.val (Pt b0 19),.val (Sl bE1 fE1 l.length c),.val (L6 x),.val (Pt bE1 (fE1 + x * 5)),.val (y.V),.val (Pt b1 19),.val (Sl bE2 fE2 l.length c'),.val (L6 x),.val (Pt bE2 (fE2 + x * 5)),.val (y.V)] ⟨?_,?_,?_,?_,?_,?_,?_,?_,?_,?_,trivial⟩ ?_
  · exact oQ 0 rfl (Pt b0 19) rfl
  · exact oL 1 0 b0 1 (bnCs p (some ⟨bE1,fE1,none⟩) l.length c) 29 rfl (Sl bE1 fE1 l.length c) rfl
  · exact oQ 2 rfl (L6 x) rfl
  · exact obR 3 rfl (Pt bE1 (fE1 + x * 5)) rfl (by kernel_rfl) (rIx 38 rfl bE1 fE1 l.length c x 5) (by kernel_rfl)
  · exact obU 4 bE1 (fE1 + x * 5) y.cs hU1 38 _ rfl rfl rfl (by kernel_rfl) _ Tryz.underlying38 rfl (by kernel_rfl) (by kernel_rfl)
  · exact oQ 5 rfl (Pt b1 19) rfl
  · exact oL 6 1 b1 1 (bnCs p (some ⟨bE2,fE2,none⟩) l.length c') 29 rfl (Sl bE2 fE2 l.length c') rfl
  · exact oQ 7 rfl (L6 x) rfl
  · exact obR 8 rfl (Pt bE2 (fE2 + x * 5)) rfl (by kernel_rfl) (run_ix _ 38 _ _ rfl bE2 fE2 l.length c' x 5 .i64 (by kernel_rfl) (by kernel_rfl) (by first | assumption | omega) (by kernel_rfl) (by kernel_rfl)) (by kernel_rfl)
  · exact obU 9 bE2 (fE2 + x * 5) y.cs hU2 38 _ rfl rfl rfl (by kernel_rfl) _ Tryz.underlying38 rfl (by kernel_rfl) (by kernel_rfl)
  refine sx_R (.bool false) (run_neBk _ _ _ rfl y.t y.n (y.f : Int) y.c y.d (by kernel_rfl) (by kernel_rfl)) ?_
  refine zn (sx_F (zk (zr (zq 2 (sx_E 26 (I6 (IntKind.i64.wrap (((x : Nat) : Int) + 1))) (I6 (((x : Nat) : Int) + 1)) i6v ?_)))))
  refine zq 1 (zn ?_)
  refine ⟨(x + 1),?_,?_,look_zip _ _ (by kernel_rfl),fun _ h => h.eqv (by kernel_rfl)⟩
  · show x + 1 ≤ _; omega
  · show l.length - (x + 1) < l.length - x; omega
 ·
  refine sx_exit (zQ 1 (zn (sx_ret (sx_Z [4] [(.bool true)] (fun W' hM => ?_)))))
  exact ⟨rfl,hM.below⟩
theorem range_dropL {U : View} {b f : Nat} {xs : List Value} (h : U.range b f xs) (n : Nat) : U.range b (f + n) (xs.drop n) := fun j v hv => by
 rw [List.getElem?_drop] at hv
 have := h (n + j) v hv
 rwa [← Nat.add_assoc] at this
theorem range_takeL {U : View} {b f : Nat} {xs : List Value} (h : U.range b f xs) (n : Nat) : U.range b f (xs.take n) := fun j v hv => by
 rw [List.getElem?_take] at hv
 split at hv
 · exact h j v hv
 · cases hv
theorem bks_row {V : View} {a : Option Addr} {xs : List Value} {l : List Bk} (h : RowAt V a xs) (e : xs = l.flatMap Bk.cs) (hok : ∀ x ∈ l, x.ok) (hlen : l.length ≤ R47) : BksAt V a l := by
 subst e
 cases l with
 | nil => exact ⟨fun i x hx => by simp at hx, hok, hlen⟩
 | cons y r =>
  obtain ⟨b, e, hr⟩ := h.at_ (by rw [List.flatMap_cons]; simp [Bk.cs])
  subst e
  exact BksAt.of hr hok hlen
def withL (l m : List Bk) (i k : Nat) : List Bk := l.take i ++ m ++ l.drop (i + k)
set_option maxHeartbeats 16000000 in
theorem rWith13_any (p : Pr) (l m : List Bk) (i k : Nat) (a aM : Option Addr) (c cM : Nat) (w : World) {U : View} (hU : ∀ a v, U a = some v → w.cell? a = some v) (hl : BksAt U a l) (hm : BksAt U aM m) (hne : l ≠ []) (hik : i + k ≤ l.length) (hc : l.length ≤ c) (hsm : l.length ≤ 1000000) (hsm2 : m.length ≤ 1000000) : Calls Tryz.prog 12 #[bnV p a l.length c, .int .i64 ((i : Nat) : Int), .int .i64 ((k : Nat) : Int), .slice aM m.length cM] w (RetN w U (BnOf p (withL l m i k))) := by
 obtain ⟨b,f,rfl,hr⟩ := hl.openR hne
 have hokL : ∀ x ∈ withL l m i k,x.ok := fun x hx => by
  unfold withL at hx
  rcases List.mem_append.1 hx with hx | hx
  ·
   rcases List.mem_append.1 hx with hx | hx
   · exact hl.ok x (List.mem_of_mem_take hx)
   · exact hm.ok x hx
  · exact hl.ok x (List.mem_of_mem_drop hx)
 have hLn : (withL l m i k).length = i + m.length + (l.length - (i + k)) := by
  unfold withL
  rw [List.length_append,List.length_append,List.length_take,List.length_drop]
  omega
 have ht9 : (l.take i).length = i := by rw [List.length_take]; omega
 have hd9 : (l.drop (i + k)).length = l.length - (i + k) := List.length_drop
 have hrA : U.range b f ((l.take i).flatMap Bk.cs) := by rw [← flat_take]; exact range_takeL hr _
 have hrB : U.range b (f + (i + k) * 5) ((l.drop (i + k)).flatMap Bk.cs) := by rw [← flat_drop]; exact range_dropL hr _
 refine sx_enter (f := 12) 31 U Tryz.func12 rfl rfl rfl hU ?_
 refine zs (zr (sx_N (fun b0 => (sx_N (fun b1 => (zn (zQ 1 (zn (zB [0,0,1,0] [(b0,1)] (sx_R (Sl b f i c) (run_sl 27 38 (.tmp 12) none (some (.tmp 13)) none rfl b f l.length c 0 i c 5 i c f (by kernel_rfl) (show _ = _ by kernel_rfl) (show _ = _ by kernel_rfl) (show _ = _ by kernel_rfl) (by decide) (by omega) (by omega) (by omega) (by omega) (by omega) (by first | rfl | (split <;> omega)) Tryz.underlying27 (by kernel_rfl)) ?_))))))))))
 rcases Bool.eq_false_or_eq_true (decide (0 < i)) with h0 | h0
 ·
  have h0d := of_decide_eq_true h0
  refine sx_appE Rw.nil [] 0 [(bK b0 (bnCs p (some ⟨b,f,none⟩) l.length c) 29),(b1,.cells [(U6 0),(I6 0),(I6 0),(St []),(U6 0),(U6 0),(I6 0),(St []),(U6 0),(U6 0),(I6 0),(St []),(U6 0),(U6 0),(U6 0),(U6 0),(U6 0),(U6 0),(U6 0),S0].toArray 29 (0,0))] 38 27 5 48 i nilB (Rw.ok_nil 5) (.tmp 10) (.tmp 14) rfl (by kernel_rfl) b f c ((l.take i).flatMap Bk.cs) (by kernel_rfl) (fun W hM => View.range_of hrA hM.view) ((bks_len _).trans (congrArg (· * 5) ht9)) (bks_one _) (of_decide_eq_true h0) (by unfold maxLen; omega) (by omega) (by kernel_rfl) (by kernel_rfl) (by kernel_rfl) (by kernel_rfl) (by kernel_rfl) (fun r2 hr2 => ?_)
  refine zq 1 (zn (zQ 2 ?_))
  rcases Bool.eq_false_or_eq_true (decide (0 < m.length)) with h1 | h1
  ·
   have h1d := of_decide_eq_true h1
   obtain ⟨bM,fM,rfl,hrM⟩ := hm.openR (by rintro rfl; have := of_decide_eq_true h1; simp at this)
   refine sx_appE r2 ([] ++ ((l.take i).flatMap Bk.cs)) (0 + i) [(bK b0 (bnCs p (some ⟨b,f,none⟩) l.length c) 29),(b1,.cells [(U6 0),(I6 0),(I6 0),(St []),(U6 0),(U6 0),(I6 0),(St []),(U6 0),(U6 0),(I6 0),(St []),(U6 0),(U6 0),(U6 0),(U6 0),(U6 0),(U6 0),(U6 0),S0].toArray 29 (0,0))] 38 27 5 48 m.length (by kernel_rfl) hr2 (.tmp 16) (.tmp 17) rfl (by kernel_rfl) bM fM cM (m.flatMap Bk.cs) (by kernel_rfl) (fun W hM => View.range_of hrM hM.view) ((bks_len _).trans (congrArg (· * 5) (Eq.refl m.length))) (bks_one _) (of_decide_eq_true h1) (by unfold maxLen; omega) (by omega) (by kernel_rfl) (by kernel_rfl) (by kernel_rfl) (by kernel_rfl) (by kernel_rfl) (fun r3 hr3 => ?_)
   refine zq 1 (zn (zB [0,0,1,0,0,0] [(b0,1)] (sx_E 24 (I6 (IntKind.i64.wrap (((i : Nat) : Int) + ((k : Nat) : Int)))) (I6 ((i + k : Nat) : Int)) (congrArg (Value.int .i64) (by rw [IntWalk.i64_in _ (by omega)]; omega)) ?_)))
   refine sx_R (.slice (some ⟨b,(if c = (i + k) then f else f + (i + k) * 5),none⟩) (l.length - (i + k)) (c - (i + k))) (run_sl 27 38 (.tmp 21) (some (.tmp 24)) none none rfl b f l.length c (i + k) l.length c 5 (l.length - (i + k)) (c - (i + k)) (if c = (i + k) then f else f + (i + k) * 5) (by kernel_rfl) (show _ = _ by kernel_rfl) (show _ = _ by kernel_rfl) (show _ = _ by kernel_rfl) (by decide) (by omega) (by omega) (by omega) (by omega) (by omega) (by first | rfl | (split <;> omega)) Tryz.underlying27 (by kernel_rfl)) ?_
   rcases Bool.eq_false_or_eq_true (decide (0 < (l.length - (i + k)))) with h2 | h2
   ·
    have h2d := of_decide_eq_true h2
    refine sx_appE r3 (([] ++ ((l.take i).flatMap Bk.cs)) ++ (m.flatMap Bk.cs)) ((0 + i) + m.length) [(bK b0 (bnCs p (some ⟨b,f,none⟩) l.length c) 29),(b1,.cells [(U6 0),(I6 0),(I6 0),(St []),(U6 0),(U6 0),(I6 0),(St []),(U6 0),(U6 0),(I6 0),(St []),(U6 0),(U6 0),(U6 0),(U6 0),(U6 0),(U6 0),(U6 0),S0].toArray 29 (0,0))] 38 27 5 48 (l.length - (i + k)) (by kernel_rfl) hr3 (.tmp 19) (.tmp 25) rfl (by kernel_rfl) b (if c = (i + k) then f else f + (i + k) * 5) (c - (i + k)) ((l.drop (i + k)).flatMap Bk.cs) (by kernel_rfl) (fun W hM => View.range_of (show U.range b (if c = (i + k) then f else f + (i + k) * 5) _ by rw [if_neg (by have := of_decide_eq_true h2; omega)]; exact hrB) hM.view) ((bks_len _).trans (congrArg (· * 5) hd9)) (bks_one _) (of_decide_eq_true h2) (by unfold maxLen; omega) (by omega) (by kernel_rfl) (by kernel_rfl) (by kernel_rfl) (by kernel_rfl) (by kernel_rfl) (fun r4 hr4 => ?_)
    refine zq 1 (zn (zs (zr ?_)))
    refine sx_fzM r4 ((([] ++ ((l.take i).flatMap Bk.cs)) ++ (m.flatMap Bk.cs)) ++ ((l.drop (i + k)).flatMap Bk.cs)) 5 (((0 + i) + m.length) + (l.length - (i + k))) [(bK b0 (bnCs p (some ⟨b,f,none⟩) l.length c) 29),(b1,.cells [(U6 0),(I6 0),(I6 0),(St []),(U6 0),(U6 0),(I6 0),(St []),(U6 0),(U6 0),(I6 0),(St []),(U6 0),(U6 0),(U6 0),(U6 0),(U6 0),(U6 0),(U6 0),S0].toArray 29 (0,0))] 38 (by kernel_rfl) hr4 (fun a5 c5 V5 hV5 hR5 hE5 => ?_)
    rw [hE5]
    refine sx_B [0,1,0,0] [(b0,19)] (sx_S 1 b1 (zn (sx_ret ?_)))
    refine sx_ret_any [.cell 8 29] [(.agg #[(N6 p.f),(I6 p.c),(I6 p.dst.s),(St p.dst.l),(N6 p.dst.n),(N6 p.dst.v),(I6 p.src.s),(St p.src.l),(N6 p.src.n),(N6 p.src.v),(I6 p.rpt.s),(St p.rpt.l),(N6 p.rpt.n),(N6 p.rpt.v),(N6 p.time),(N6 p.seq),(N6 p.life),(N6 p.off),(N6 p.tot),(.slice a5 (((0 + i) + m.length) + (l.length - (i + k))) c5)])] rfl ⟨(retK' 1 b1 20),trivial⟩ (fun W' hM => ?_)
    have hN : (((0 + i) + m.length) + (l.length - (i + k))) = (withL l m i k).length := by rw [hLn]; omega
    refine retN_of hM hV5 ⟨a5,c5,?_,bks_row hR5 (by unfold withL; simp only [List.flatMap_append,List.flatMap_nil,List.nil_append,List.append_nil]) hokL (by rw [hLn]; unfold R47; omega)⟩
    rw [← hN]
    rfl
   ·
    have h2d := of_decide_eq_false h2
    have hz6 : (l.length - (i + k)) = 0 := by have := of_decide_eq_false h2; omega
    have hn6 : (l.drop (i + k)) = [] := List.length_eq_zero_iff.1 (hd9.trans hz6)
    obtain ⟨xa6,xc6,xv6,xh6⟩ := Rw.formC hr3
    refine sx_R ((r3.V ((0 + i) + m.length))) (fun W => (run_ap0 27 38 5 _ _ rfl xa6 (some ⟨b,(if c = (i + k) then f else f + (i + k) * 5),none⟩) ((0 + i) + m.length) xc6 (c - (i + k)) (zX xv6) (zE hz6) xh6 Tryz.underlying27 (by kernel_rfl) W).trans (by rw [xv6])) ?_
    refine zq 1 (zn (zs (zr ?_)))
    refine sx_fzM r3 (([] ++ ((l.take i).flatMap Bk.cs)) ++ (m.flatMap Bk.cs)) 5 ((0 + i) + m.length) [(bK b0 (bnCs p (some ⟨b,f,none⟩) l.length c) 29),(b1,.cells [(U6 0),(I6 0),(I6 0),(St []),(U6 0),(U6 0),(I6 0),(St []),(U6 0),(U6 0),(I6 0),(St []),(U6 0),(U6 0),(U6 0),(U6 0),(U6 0),(U6 0),(U6 0),S0].toArray 29 (0,0))] 38 (by kernel_rfl) hr3 (fun a7 c7 V7 hV7 hR7 hE7 => ?_)
    rw [hE7]
    refine sx_B [0,1,0,0] [(b0,19)] (sx_S 1 b1 (zn (sx_ret ?_)))
    refine sx_ret_any [.cell 8 29] [(.agg #[(N6 p.f),(I6 p.c),(I6 p.dst.s),(St p.dst.l),(N6 p.dst.n),(N6 p.dst.v),(I6 p.src.s),(St p.src.l),(N6 p.src.n),(N6 p.src.v),(I6 p.rpt.s),(St p.rpt.l),(N6 p.rpt.n),(N6 p.rpt.v),(N6 p.time),(N6 p.seq),(N6 p.life),(N6 p.off),(N6 p.tot),(.slice a7 ((0 + i) + m.length) c7)])] rfl ⟨(retK' 1 b1 20),trivial⟩ (fun W' hM => ?_)
    have hN : ((0 + i) + m.length) = (withL l m i k).length := by rw [hLn]; omega
    refine retN_of hM hV7 ⟨a7,c7,?_,bks_row hR7 (by unfold withL; simp only [hn6,List.flatMap_append,List.flatMap_nil,List.nil_append,List.append_nil]) hokL (by rw [hLn]; unfold R47; omega)⟩
    rw [← hN]
    rfl
  ·
   have h1d := of_decide_eq_false h1
   have hz8 : m.length = 0 := by have := of_decide_eq_false h1; omega
   have hn8 : m = [] := List.length_eq_zero_iff.1 ((Eq.refl m.length).trans hz8)
   obtain ⟨xa8,xc8,xv8,xh8⟩ := Rw.formC hr2
   refine sx_R ((r2.V (0 + i))) (fun W => (run_ap0 27 38 5 _ _ rfl xa8 aM (0 + i) xc8 cM (zX xv8) (zE hz8) xh8 Tryz.underlying27 (by kernel_rfl) W).trans (by rw [xv8])) ?_
   refine zq 1 (zn (zB [0,0,1,0,0,0] [(b0,1)] (sx_E 24 (I6 (IntKind.i64.wrap (((i : Nat) : Int) + ((k : Nat) : Int)))) (I6 ((i + k : Nat) : Int)) (congrArg (Value.int .i64) (by rw [IntWalk.i64_in _ (by omega)]; omega)) ?_)))
   refine sx_R (.slice (some ⟨b,(if c = (i + k) then f else f + (i + k) * 5),none⟩) (l.length - (i + k)) (c - (i + k))) (run_sl 27 38 (.tmp 21) (some (.tmp 24)) none none rfl b f l.length c (i + k) l.length c 5 (l.length - (i + k)) (c - (i + k)) (if c = (i + k) then f else f + (i + k) * 5) (by kernel_rfl) (show _ = _ by kernel_rfl) (show _ = _ by kernel_rfl) (show _ = _ by kernel_rfl) (by decide) (by omega) (by omega) (by omega) (by omega) (by omega) (by first | rfl | (split <;> omega)) Tryz.underlying27 (by kernel_rfl)) ?_
   rcases Bool.eq_false_or_eq_true (decide (0 < (l.length - (i + k)))) with h3 | h3
   ·
    have h3d := of_decide_eq_true h3
    refine sx_appE r2 ([] ++ ((l.take i).flatMap Bk.cs)) (0 + i) [(bK b0 (bnCs p (some ⟨b,f,none⟩) l.length c) 29),(b1,.cells [(U6 0),(I6 0),(I6 0),(St []),(U6 0),(U6 0),(I6 0),(St []),(U6 0),(U6 0),(I6 0),(St []),(U6 0),(U6 0),(U6 0),(U6 0),(U6 0),(U6 0),(U6 0),S0].toArray 29 (0,0))] 38 27 5 48 (l.length - (i + k)) (by kernel_rfl) hr2 (.tmp 19) (.tmp 25) rfl (by kernel_rfl) b (if c = (i + k) then f else f + (i + k) * 5) (c - (i + k)) ((l.drop (i + k)).flatMap Bk.cs) (by kernel_rfl) (fun W hM => View.range_of (show U.range b (if c = (i + k) then f else f + (i + k) * 5) _ by rw [if_neg (by have := of_decide_eq_true h3; omega)]; exact hrB) hM.view) ((bks_len _).trans (congrArg (· * 5) hd9)) (bks_one _) (of_decide_eq_true h3) (by unfold maxLen; omega) (by omega) (by kernel_rfl) (by kernel_rfl) (by kernel_rfl) (by kernel_rfl) (by kernel_rfl) (fun r9 hr9 => ?_)
    refine zq 1 (zn (zs (zr ?_)))
    refine sx_fzM r9 (([] ++ ((l.take i).flatMap Bk.cs)) ++ ((l.drop (i + k)).flatMap Bk.cs)) 5 ((0 + i) + (l.length - (i + k))) [(bK b0 (bnCs p (some ⟨b,f,none⟩) l.length c) 29),(b1,.cells [(U6 0),(I6 0),(I6 0),(St []),(U6 0),(U6 0),(I6 0),(St []),(U6 0),(U6 0),(I6 0),(St []),(U6 0),(U6 0),(U6 0),(U6 0),(U6 0),(U6 0),(U6 0),S0].toArray 29 (0,0))] 38 (by kernel_rfl) hr9 (fun a10 c10 V10 hV10 hR10 hE10 => ?_)
    rw [hE10]
    refine sx_B [0,1,0,0] [(b0,19)] (sx_S 1 b1 (zn (sx_ret ?_)))
    refine sx_ret_any [.cell 8 29] [(.agg #[(N6 p.f),(I6 p.c),(I6 p.dst.s),(St p.dst.l),(N6 p.dst.n),(N6 p.dst.v),(I6 p.src.s),(St p.src.l),(N6 p.src.n),(N6 p.src.v),(I6 p.rpt.s),(St p.rpt.l),(N6 p.rpt.n),(N6 p.rpt.v),(N6 p.time),(N6 p.seq),(N6 p.life),(N6 p.off),(N6 p.tot),(.slice a10 ((0 + i) + (l.length - (i + k))) c10)])] rfl ⟨(retK' 1 b1 20),trivial⟩ (fun W' hM => ?_)
    have hN : ((0 + i) + (l.length - (i + k))) = (withL l m i k).length := by rw [hLn]; omega
    refine retN_of hM hV10 ⟨a10,c10,?_,bks_row hR10 (by unfold withL; simp only [hn8,List.flatMap_append,List.flatMap_nil,List.nil_append,List.append_nil]) hokL (by rw [hLn]; unfold R47; omega)⟩
    rw [← hN]
    rfl
   ·
    have h3d := of_decide_eq_false h3
    have hz11 : (l.length - (i + k)) = 0 := by have := of_decide_eq_false h3; omega
    have hn11 : (l.drop (i + k)) = [] := List.length_eq_zero_iff.1 (hd9.trans hz11)
    obtain ⟨xa11,xc11,xv11,xh11⟩ := Rw.formC hr2
    refine sx_R ((r2.V (0 + i))) (fun W => (run_ap0 27 38 5 _ _ rfl xa11 (some ⟨b,(if c = (i + k) then f else f + (i + k) * 5),none⟩) (0 + i) xc11 (c - (i + k)) (zX xv11) (zE hz11) xh11 Tryz.underlying27 (by kernel_rfl) W).trans (by rw [xv11])) ?_
    refine zq 1 (zn (zs (zr ?_)))
    refine sx_fzM r2 ([] ++ ((l.take i).flatMap Bk.cs)) 5 (0 + i) [(bK b0 (bnCs p (some ⟨b,f,none⟩) l.length c) 29),(b1,.cells [(U6 0),(I6 0),(I6 0),(St []),(U6 0),(U6 0),(I6 0),(St []),(U6 0),(U6 0),(I6 0),(St []),(U6 0),(U6 0),(U6 0),(U6 0),(U6 0),(U6 0),(U6 0),S0].toArray 29 (0,0))] 38 (by kernel_rfl) hr2 (fun a12 c12 V12 hV12 hR12 hE12 => ?_)
    rw [hE12]
    refine sx_B [0,1,0,0] [(b0,19)] (sx_S 1 b1 (zn (sx_ret ?_)))
    refine sx_ret_any [.cell 8 29] [(bnV p a12 (0 + i) c12)] rfl ⟨(retK' 1 b1 20),trivial⟩ (fun W' hM => ?_)
    have hN : (0 + i) = (withL l m i k).length := by rw [hLn]; omega
    refine retN_of hM hV12 ⟨a12,c12,?_,bks_row hR12 (by unfold withL; simp only [hn8,hn11,List.flatMap_append,List.flatMap_nil,List.nil_append,List.append_nil]) hokL (by rw [hLn]; unfold R47; omega)⟩
    rw [← hN]
    rfl
 ·
  have h0d := of_decide_eq_false h0
  have hz13 : i = 0 := by have := of_decide_eq_false h0; omega
  have hn13 : (l.take i) = [] := List.length_eq_zero_iff.1 (ht9.trans hz13)
  refine sx_R (S0) (by exact run_ap0 27 38 5 _ _ rfl none (some ⟨b,f,none⟩) 0 0 c (by kernel_rfl) (zE hz13) (Nat.le_refl _) Tryz.underlying27 (by kernel_rfl)) ?_
  refine zq 1 (zn (zQ 2 ?_))
  rcases Bool.eq_false_or_eq_true (decide (0 < m.length)) with h4 | h4
  ·
   have h4d := of_decide_eq_true h4
   obtain ⟨bM,fM,rfl,hrM⟩ := hm.openR (by rintro rfl; have := of_decide_eq_true h4; simp at this)
   refine sx_appE Rw.nil [] 0 [(bK b0 (bnCs p (some ⟨b,f,none⟩) l.length c) 29),(b1,.cells [(U6 0),(I6 0),(I6 0),(St []),(U6 0),(U6 0),(I6 0),(St []),(U6 0),(U6 0),(I6 0),(St []),(U6 0),(U6 0),(U6 0),(U6 0),(U6 0),(U6 0),(U6 0),S0].toArray 29 (0,0))] 38 27 5 48 m.length nilB (Rw.ok_nil 5) (.tmp 16) (.tmp 17) rfl (by kernel_rfl) bM fM cM (m.flatMap Bk.cs) (by kernel_rfl) (fun W hM => View.range_of hrM hM.view) ((bks_len _).trans (congrArg (· * 5) (Eq.refl m.length))) (bks_one _) (of_decide_eq_true h4) (by unfold maxLen; omega) (by omega) (by kernel_rfl) (by kernel_rfl) (by kernel_rfl) (by kernel_rfl) (by kernel_rfl) (fun r14 hr14 => ?_)
   refine zq 1 (zn (zB [0,0,1,0,0,0] [(b0,1)] (sx_E 24 (I6 (IntKind.i64.wrap (((i : Nat) : Int) + ((k : Nat) : Int)))) (I6 ((i + k : Nat) : Int)) (congrArg (Value.int .i64) (by rw [IntWalk.i64_in _ (by omega)]; omega)) ?_)))
   refine sx_R (.slice (some ⟨b,(if c = (i + k) then f else f + (i + k) * 5),none⟩) (l.length - (i + k)) (c - (i + k))) (run_sl 27 38 (.tmp 21) (some (.tmp 24)) none none rfl b f l.length c (i + k) l.length c 5 (l.length - (i + k)) (c - (i + k)) (if c = (i + k) then f else f + (i + k) * 5) (by kernel_rfl) (show _ = _ by kernel_rfl) (show _ = _ by kernel_rfl) (show _ = _ by kernel_rfl) (by decide) (by omega) (by omega) (by omega) (by omega) (by omega) (by first | rfl | (split <;> omega)) Tryz.underlying27 (by kernel_rfl)) ?_
   rcases Bool.eq_false_or_eq_true (decide (0 < (l.length - (i + k)))) with h5 | h5
   ·
    have h5d := of_decide_eq_true h5
    refine sx_appE r14 ([] ++ (m.flatMap Bk.cs)) (0 + m.length) [(bK b0 (bnCs p (some ⟨b,f,none⟩) l.length c) 29),(b1,.cells [(U6 0),(I6 0),(I6 0),(St []),(U6 0),(U6 0),(I6 0),(St []),(U6 0),(U6 0),(I6 0),(St []),(U6 0),(U6 0),(U6 0),(U6 0),(U6 0),(U6 0),(U6 0),S0].toArray 29 (0,0))] 38 27 5 48 (l.length - (i + k)) (by kernel_rfl) hr14 (.tmp 19) (.tmp 25) rfl (by kernel_rfl) b (if c = (i + k) then f else f + (i + k) * 5) (c - (i + k)) ((l.drop (i + k)).flatMap Bk.cs) (by kernel_rfl) (fun W hM => View.range_of (show U.range b (if c = (i + k) then f else f + (i + k) * 5) _ by rw [if_neg (by have := of_decide_eq_true h5; omega)]; exact hrB) hM.view) ((bks_len _).trans (congrArg (· * 5) hd9)) (bks_one _) (of_decide_eq_true h5) (by unfold maxLen; omega) (by omega) (by kernel_rfl) (by kernel_rfl) (by kernel_rfl) (by kernel_rfl) (by kernel_rfl) (fun r15 hr15 => ?_)
    refine zq 1 (zn (zs (zr ?_)))
    refine sx_fzM r15 (([] ++ (m.flatMap Bk.cs)) ++ ((l.drop (i + k)).flatMap Bk.cs)) 5 ((0 + m.length) + (l.length - (i + k))) [(bK b0 (bnCs p (some ⟨b,f,none⟩) l.length c) 29),(b1,.cells [(U6 0),(I6 0),(I6 0),(St []),(U6 0),(U6 0),(I6 0),(St []),(U6 0),(U6 0),(I6 0),(St []),(U6 0),(U6 0),(U6 0),(U6 0),(U6 0),(U6 0),(U6 0),S0].toArray 29 (0,0))] 38 (by kernel_rfl) hr15 (fun a16 c16 V16 hV16 hR16 hE16 => ?_)
    rw [hE16]
    refine sx_B [0,1,0,0] [(b0,19)] (sx_S 1 b1 (zn (sx_ret ?_)))
    refine sx_ret_any [.cell 8 29] [(.agg #[(N6 p.f),(I6 p.c),(I6 p.dst.s),(St p.dst.l),(N6 p.dst.n),(N6 p.dst.v),(I6 p.src.s),(St p.src.l),(N6 p.src.n),(N6 p.src.v),(I6 p.rpt.s),(St p.rpt.l),(N6 p.rpt.n),(N6 p.rpt.v),(N6 p.time),(N6 p.seq),(N6 p.life),(N6 p.off),(N6 p.tot),(.slice a16 ((0 + m.length) + (l.length - (i + k))) c16)])] rfl ⟨(retK' 1 b1 20),trivial⟩ (fun W' hM => ?_)
    have hN : ((0 + m.length) + (l.length - (i + k))) = (withL l m i k).length := by rw [hLn]; omega
    refine retN_of hM hV16 ⟨a16,c16,?_,bks_row hR16 (by unfold withL; simp only [hn13,List.flatMap_append,List.flatMap_nil,List.nil_append,List.append_nil]) hokL (by rw [hLn]; unfold R47; omega)⟩
    rw [← hN]
    rfl
   ·
    have h5d := of_decide_eq_false h5
    have hz17 : (l.length - (i + k)) = 0 := by have := of_decide_eq_false h5; omega
    have hn17 : (l.drop (i + k)) = [] := List.length_eq_zero_iff.1 (hd9.trans hz17)
    obtain ⟨xa17,xc17,xv17,xh17⟩ := Rw.formC hr14
    refine sx_R ((r14.V (0 + m.length))) (fun W => (run_ap0 27 38 5 _ _ rfl xa17 (some ⟨b,(if c = (i + k) then f else f + (i + k) * 5),none⟩) (0 + m.length) xc17 (c - (i + k)) (zX xv17) (zE hz17) xh17 Tryz.underlying27 (by kernel_rfl) W).trans (by rw [xv17])) ?_
    refine zq 1 (zn (zs (zr ?_)))
    refine sx_fzM r14 ([] ++ (m.flatMap Bk.cs)) 5 (0 + m.length) [(bK b0 (bnCs p (some ⟨b,f,none⟩) l.length c) 29),(b1,.cells [(U6 0),(I6 0),(I6 0),(St []),(U6 0),(U6 0),(I6 0),(St []),(U6 0),(U6 0),(I6 0),(St []),(U6 0),(U6 0),(U6 0),(U6 0),(U6 0),(U6 0),(U6 0),S0].toArray 29 (0,0))] 38 (by kernel_rfl) hr14 (fun a18 c18 V18 hV18 hR18 hE18 => ?_)
    rw [hE18]
    refine sx_B [0,1,0,0] [(b0,19)] (sx_S 1 b1 (zn (sx_ret ?_)))
    refine sx_ret_any [.cell 8 29] [(bnV p a18 (0 + m.length) c18)] rfl ⟨(retK' 1 b1 20),trivial⟩ (fun W' hM => ?_)
    have hN : (0 + m.length) = (withL l m i k).length := by rw [hLn]; omega
    refine retN_of hM hV18 ⟨a18,c18,?_,bks_row hR18 (by unfold withL; simp only [hn13,hn17,List.flatMap_append,List.flatMap_nil,List.nil_append,List.append_nil]) hokL (by rw [hLn]; unfold R47; omega)⟩
    rw [← hN]
    rfl
  ·
   have h4d := of_decide_eq_false h4
   have hz19 : m.length = 0 := by have := of_decide_eq_false h4; omega
   have hn19 : m = [] := List.length_eq_zero_iff.1 ((Eq.refl m.length).trans hz19)
   refine sx_R (S0) (by exact run_ap0 27 38 5 _ _ rfl none aM 0 0 cM (by kernel_rfl) (zE hz19) (Nat.le_refl _) Tryz.underlying27 (by kernel_rfl)) ?_
   refine zq 1 (zn (zB [0,0,1,0,0,0] [(b0,1)] (sx_E 24 (I6 (IntKind.i64.wrap (((i : Nat) : Int) + ((k : Nat) : Int)))) (I6 ((i + k : Nat) : Int)) (congrArg (Value.int .i64) (by rw [IntWalk.i64_in _ (by omega)]; omega)) ?_)))
   refine sx_R (.slice (some ⟨b,(if c = (i + k) then f else f + (i + k) * 5),none⟩) (l.length - (i + k)) (c - (i + k))) (run_sl 27 38 (.tmp 21) (some (.tmp 24)) none none rfl b f l.length c (i + k) l.length c 5 (l.length - (i + k)) (c - (i + k)) (if c = (i + k) then f else f + (i + k) * 5) (by kernel_rfl) (show _ = _ by kernel_rfl) (show _ = _ by kernel_rfl) (show _ = _ by kernel_rfl) (by decide) (by omega) (by omega) (by omega) (by omega) (by omega) (by first | rfl | (split <;> omega)) Tryz.underlying27 (by kernel_rfl)) ?_
   rcases Bool.eq_false_or_eq_true (decide (0 < (l.length - (i + k)))) with h6 | h6
   ·
    have h6d := of_decide_eq_true h6
    refine sx_appE Rw.nil [] 0 [(bK b0 (bnCs p (some ⟨b,f,none⟩) l.length c) 29),(b1,.cells [(U6 0),(I6 0),(I6 0),(St []),(U6 0),(U6 0),(I6 0),(St []),(U6 0),(U6 0),(I6 0),(St []),(U6 0),(U6 0),(U6 0),(U6 0),(U6 0),(U6 0),(U6 0),S0].toArray 29 (0,0))] 38 27 5 48 (l.length - (i + k)) nilB (Rw.ok_nil 5) (.tmp 19) (.tmp 25) rfl (by kernel_rfl) b (if c = (i + k) then f else f + (i + k) * 5) (c - (i + k)) ((l.drop (i + k)).flatMap Bk.cs) (by kernel_rfl) (fun W hM => View.range_of (show U.range b (if c = (i + k) then f else f + (i + k) * 5) _ by rw [if_neg (by have := of_decide_eq_true h6; omega)]; exact hrB) hM.view) ((bks_len _).trans (congrArg (· * 5) hd9)) (bks_one _) (of_decide_eq_true h6) (by unfold maxLen; omega) (by omega) (by kernel_rfl) (by kernel_rfl) (by kernel_rfl) (by kernel_rfl) (by kernel_rfl) (fun r20 hr20 => ?_)
    refine zq 1 (zn (zs (zr ?_)))
    refine sx_fzM r20 ([] ++ ((l.drop (i + k)).flatMap Bk.cs)) 5 (0 + (l.length - (i + k))) [(bK b0 (bnCs p (some ⟨b,f,none⟩) l.length c) 29),(b1,.cells [(U6 0),(I6 0),(I6 0),(St []),(U6 0),(U6 0),(I6 0),(St []),(U6 0),(U6 0),(I6 0),(St []),(U6 0),(U6 0),(U6 0),(U6 0),(U6 0),(U6 0),(U6 0),S0].toArray 29 (0,0))] 38 (by kernel_rfl) hr20 (fun a21 c21 V21 hV21 hR21 hE21 => ?_)
    rw [hE21]
    refine sx_B [0,1,0,0] [(b0,19)] (sx_S 1 b1 (zn (sx_ret ?_)))
    refine sx_ret_any [.cell 8 29] [(.agg #[(N6 p.f),(I6 p.c),(I6 p.dst.s),(St p.dst.l),(N6 p.dst.n),(N6 p.dst.v),(I6 p.src.s),(St p.src.l),(N6 p.src.n),(N6 p.src.v),(I6 p.rpt.s),(St p.rpt.l),(N6 p.rpt.n),(N6 p.rpt.v),(N6 p.time),(N6 p.seq),(N6 p.life),(N6 p.off),(N6 p.tot),(.slice a21 (0 + (l.length - (i + k))) c21)])] rfl ⟨(retK' 1 b1 20),trivial⟩ (fun W' hM => ?_)
    have hN : (0 + (l.length - (i + k))) = (withL l m i k).length := by rw [hLn]; omega
    refine retN_of hM hV21 ⟨a21,c21,?_,bks_row hR21 (by unfold withL; simp only [hn13,hn19,List.flatMap_append,List.flatMap_nil,List.nil_append,List.append_nil]) hokL (by rw [hLn]; unfold R47; omega)⟩
    rw [← hN]
    rfl
   ·
    have h6d := of_decide_eq_false h6
    have hz22 : (l.length - (i + k)) = 0 := by have := of_decide_eq_false h6; omega
    have hn22 : (l.drop (i + k)) = [] := List.length_eq_zero_iff.1 (hd9.trans hz22)
    refine sx_R (S0) (by exact run_ap0 27 38 5 _ _ rfl none (some ⟨b,(if c = (i + k) then f else f + (i + k) * 5),none⟩) 0 0 (c - (i + k)) (by kernel_rfl) (zE hz22) (Nat.le_refl _) Tryz.underlying27 (by kernel_rfl)) ?_
    refine zq 1 (zn (zB [0,1,0,0] [(b0,19)] (sx_S 1 b1 (zn (sx_ret ?_)))))
    refine sx_ret_any [.cell 8 29] [(bnV p none 0 0)] rfl ⟨(retK' 1 b1 20),trivial⟩ (fun W' hM => ?_)
    have hW : withL l m i k = [] := by unfold withL; simp only [hn13,hn19,hn22,List.append_nil]
    refine retN_of hM (View.le_refl _) ⟨none,0,?_,?_⟩
    · rw [hW]; rfl
    · rw [hW]; exact BksAt.nil
def somP : Pr := ⟨0, 0, ⟨2, [], 2, 0⟩, ⟨2, [], 1, 0⟩, ⟨1, [110, 111, 110, 101], 0, 0⟩, 5, 0, 100, 0, 0⟩
def somB : Bk := ⟨1, 1, 0, 0, [104, 105]⟩
def wKey : List UInt8 := [48, 49, 50, 51, 52, 53, 54, 55, 56, 57, 97, 98, 99, 100, 101, 102]
def wNonce : List UInt8 := [110, 111, 110, 99, 101, 110, 111, 110, 99, 101, 49, 50]
theorem wake_right0 : bnRight somP [somB] = 0 := by kernel_rfl
theorem wake_ops : opsB [somB] = some [] := rfl
theorem wake_mix0 : mixZ somP [somB] [] = 0 := by kernel_rfl
theorem wake_sound : soundZ somP [somB] = 0 := by
 unfold soundZ
 rw [wake_right0, wake_ops]
 exact wake_mix0
theorem wake_listed : listedZ [somB] 2 [1] = 0 := by kernel_rfl
theorem wake_frag : (andI .u64 (somP.f : Int) 1 != 0) = false := by kernel_rfl
theorem wake_free : freeB [somB] = 2 := by kernel_rfl
theorem wake_mix : mixZ somP [somB] [⟨2, 2, 1⟩] = 0 := by kernel_rfl
theorem wake_may : mayZ somP [somB] 2 [1] = 0 := by
 unfold mayZ
 rw [wake_sound, wake_listed, if_neg (by decide), if_neg (by decide), if_neg (by rw [wake_frag]; exact Bool.false_ne_true)]
 unfold mayOps
 rw [wake_ops, wake_free]
 exact wake_mix
theorem wake_bes : besideZ [somB] 1 (sec0 [somB]) 0 = 0 := by kernel_rfl
theorem wake_seals : sealsP 1 wKey wNonce = true := by kernel_rfl
theorem wake_ei : eiRight somP.src = true := by kernel_rfl
theorem wake_right : bnRight somP (sealL [somB] somP.src 1 0 wNonce 1) = 0 := by kernel_rfl
theorem wake_seal : sealR somP [somB] somP.src 1 0 wKey wNonce 1 = (somP, sealL [somB] somP.src 1 0 wNonce 1, 0) := by
 unfold sealR
 rw [wake_may, wake_ei, wake_bes, wake_seals, wake_right, if_neg (by decide), if_neg (by decide), if_neg (by decide), if_neg (by decide)]
 unfold chkP chkL
 rw [wake_right, if_neg (by decide), if_neg (by decide)]
theorem wake_list : ∃ y, sealL [somB] somP.src 1 0 wNonce 1 = [secA [somB] somP.src 1 0 wNonce 1, y] := ⟨_, rfl⟩
theorem lSome_any (w : World) {U : View} (hU : ∀ a v, U a = some v → w.cell? a = some v) : Calls Tryz.prog 30 #[] w (RetN w U (BnOf somP [somB])) := by
 refine sx_enter (f := 30) 10 U Tryz.func30 rfl rfl rfl hU ?_
 refine zs (zr (sx_N (fun b0 => (zn (zQ 4 (sx_N (fun b1 => (sx_S 1 b1 (zn (zB [2,0] [(b1,19)] ?_))))))))))
 refine sx_newV [(I6 1),(I6 1),(U6 0),(I6 0),(St [104,105])] 38 (fun r => (Sl r 0 1 1)) (by kernel_rfl) (by kernel_rfl) (by kernel_rfl) (fun g2 V2 hV2 hR2 => ?_)
 have hT2 : BksAt V2 (some ⟨g2,0,none⟩) [somB] := BksAt.of (show V2.range g2 0 ([somB].flatMap Bk.cs) from hR2) (fun x hx => by rw [List.mem_singleton.1 hx]; exact ⟨(show (0 : Nat) < W64 by decide),(show (2 : Nat) ≤ R47 by decide)⟩) (show 1 ≤ R47 by decide)
 refine zq 1 (sx_S 0 b0 (zn (sx_ret ?_)))
 refine sx_ret_any [.cell 0 29] [(.agg #[(U6 0),(I6 0),(I6 2),(St []),(U6 2),(U6 0),(I6 2),(St []),(U6 1),(U6 0),(I6 1),(St [110,111,110,101]),(U6 0),(U6 0),(U6 5),(U6 0),(U6 100),(U6 0),(U6 0),(Sl g2 0 1 1)])] rfl ⟨(retK' 0 b0 20),trivial⟩ (fun W' hM => ?_)
 exact retN_of hM hV2 ⟨some ⟨g2,0,none⟩,1,rfl,hT2⟩
theorem perm_tail (A F S : Blks) : ((A ++ F) ++ S).Perm (A ++ (S ++ F)) := by
 rw [List.append_assoc]
 exact List.Perm.append_left A List.perm_append_comm
def SealOut (p : Pr) (l : List Bk) (e : Ei) (vr fl : Int) (key nonce : List UInt8) (target : Int) (ib : Nat) (v : Value) (V : View) (σ' : Blks) : Prop := SealV (sealR p l e vr fl key nonce target) v V ∧ TabSeal (sealB p l e vr fl key nonce target) ib (entC vr key nonce (besideB p l target (sec0 l) fl) (getB l target).1.d (Eng.freshB 1 (getB l target).1.d.length) (Eng.freshB 1 (sizeN vr))) V σ'
theorem lSeal_any (eA : Addr) (p : Pr) (l : List Bk) (a : Option Addr) (c : Nat) (e : Ei) (vr fl : Int) (key nonce : List UInt8) (target : Int) (id : Bool) (eb ib : Nat) {W0 : Cx} {U : View} {σF : Blks} {W : World} (hE : EF U eA) (hp : p.ok) (hl : BksAt U a l) (he : e.ok) (hg : EngAt U eb ib) (hM : Mem W0 U (NewTab ib ++ σF) W) :
    Calls Tryz.prog 13 #[.pointer (some ⟨eb, 0, none⟩), bnV p a l.length c, wyV e vr fl key nonce target id] W (RetM W0 U σF (SealOut p l e vr fl key nonce target ib)) := by
 have hM2 : Mem W0 U ([(bK ib [S0] 76)] ++ σF) W := hM.eqv (by kernel_rfl)
 refine sx_enterM (f := 13) 29 U Tryz.func13 rfl rfl rfl hM2 ?_
 refine zs (zr (sx_NI 1 (fun b0 => ?_)))
 refine sx_NI 2 (fun b1 => ?_)
 refine sx_NI 3 (fun b2 => ?_)
 refine zq 1 (zn (zB [0,2,0,3,0,0,3,0,0,3,0,0,3,0,0,3,0,3] [(b0,20),(b1,4),(b1,1),(b1,1),(b1,1),(b1,1),(b1,1)] (sx_MI 0 (bK ib [S0] 76) 29 #[(Pt eb 0),(bnV p a l.length c),(.agg #[(I6 e.s),(St e.l),(N6 e.n),(N6 e.v)]),(I6 vr),(I6 fl),(St key),(St nonce),(I6 target)] (SealOut p l e vr fl key nonce target ib) (fun W hM => cSeal_any eA p l _ _ e vr fl key nonce target eb ib hE hp hl he hg hM) (fun v3 V3 s3 hV3 hP3 => ?_))))
 obtain ⟨⟨a3,c3,rfl,hb3⟩,ht3⟩ := hP3
 refine sx_mem _ (([(bK b0 (bnCs p a l.length c) 29),(bK b1 [(I6 e.s),(St e.l),(N6 e.n),(N6 e.v),(I6 vr),(I6 fl),(St key),(St nonce),(I6 target),(.bool id)] 33),(b2,.cells [(U6 0),(I6 0),(I6 0),(St []),(U6 0),(U6 0),(I6 0),(St []),(U6 0),(U6 0),(I6 0),(St []),(U6 0),(U6 0),(U6 0),(U6 0),(U6 0),(U6 0),(U6 0),S0].toArray 29 (0,0))] ++ σF) ++ s3) (fun _ h => (h.perm List.perm_append_comm).eqv (by kernel_rfl)) ?_
 refine zq 2 (sx_S 2 b2 (zq 1 (zn (sx_ret ?_))))
 refine sx_ret_any [.cell 6 29,.tmp 7] [(.agg #[(N6 (sealR p l e vr fl key nonce target).1.f),(I6 (sealR p l e vr fl key nonce target).1.c),(I6 (sealR p l e vr fl key nonce target).1.dst.s),(St (sealR p l e vr fl key nonce target).1.dst.l),(N6 (sealR p l e vr fl key nonce target).1.dst.n),(N6 (sealR p l e vr fl key nonce target).1.dst.v),(I6 (sealR p l e vr fl key nonce target).1.src.s),(St (sealR p l e vr fl key nonce target).1.src.l),(N6 (sealR p l e vr fl key nonce target).1.src.n),(N6 (sealR p l e vr fl key nonce target).1.src.v),(I6 (sealR p l e vr fl key nonce target).1.rpt.s),(St (sealR p l e vr fl key nonce target).1.rpt.l),(N6 (sealR p l e vr fl key nonce target).1.rpt.n),(N6 (sealR p l e vr fl key nonce target).1.rpt.v),(N6 (sealR p l e vr fl key nonce target).1.time),(N6 (sealR p l e vr fl key nonce target).1.seq),(N6 (sealR p l e vr fl key nonce target).1.life),(N6 (sealR p l e vr fl key nonce target).1.off),(N6 (sealR p l e vr fl key nonce target).1.tot),(.slice a3 (sealR p l e vr fl key nonce target).2.1.length c3)]),(I6 (sealR p l e vr fl key nonce target).2.2)] rfl ⟨(retK' 2 b2 20),retT',trivial⟩ (fun W' hM => ?_)
 have hM9 := (hM.eqv (show _ = (([(bK b0 (bnCs p a l.length c) 29),(bK b1 [(I6 e.s),(St e.l),(N6 e.n),(N6 e.v),(I6 vr),(I6 fl),(St key),(St nonce),(I6 target),(.bool id)] 33),(bK b2 [(N6 (sealR p l e vr fl key nonce target).1.f),(I6 (sealR p l e vr fl key nonce target).1.c),(I6 (sealR p l e vr fl key nonce target).1.dst.s),(St (sealR p l e vr fl key nonce target).1.dst.l),(N6 (sealR p l e vr fl key nonce target).1.dst.n),(N6 (sealR p l e vr fl key nonce target).1.dst.v),(I6 (sealR p l e vr fl key nonce target).1.src.s),(St (sealR p l e vr fl key nonce target).1.src.l),(N6 (sealR p l e vr fl key nonce target).1.src.n),(N6 (sealR p l e vr fl key nonce target).1.src.v),(I6 (sealR p l e vr fl key nonce target).1.rpt.s),(St (sealR p l e vr fl key nonce target).1.rpt.l),(N6 (sealR p l e vr fl key nonce target).1.rpt.n),(N6 (sealR p l e vr fl key nonce target).1.rpt.v),(N6 (sealR p l e vr fl key nonce target).1.time),(N6 (sealR p l e vr fl key nonce target).1.seq),(N6 (sealR p l e vr fl key nonce target).1.life),(N6 (sealR p l e vr fl key nonce target).1.off),(N6 (sealR p l e vr fl key nonce target).1.tot),(.slice a3 (sealR p l e vr fl key nonce target).2.1.length c3)] 29)] ++ σF) ++ s3) from by kernel_rfl)).perm (perm_tail _ _ _)
 exact retM_sub hM9 (List.sublist_append_right _ _) hV3 ⟨⟨_,_,rfl,hb3⟩,ht3⟩
theorem som_ok : somP.ok := by
 constructor <;> first | (constructor <;> decide) | decide
theorem lAwake_any (eA : Addr) (w : World) {U : View} (hU : ∀ a v, U a = some v → w.cell? a = some v) (hE : EF U eA) : Calls Tryz.prog 10 #[] w (Ret (.bool true) w) := by
 refine sx_enter (f := 10) 30 U Tryz.func10 rfl rfl rfl hU ?_
 refine zQ 1 (zn (zs (zr (sx_M0 14 #[] (IdealIs) (fun W hM => ideal_any hM) (fun v0 V0 s0 hV0 hP0 => ?_)))))
 obtain ⟨eb0,ib0,rfl,hg0,rfl⟩ := hP0
 refine zq 1 (zn (zQ 1 (sx_O 30 #[] (BnOf somP [somB]) (fun W hM => lSome_any W hM.view) (fun v1 V1 hV1 hP1 => ?_))))
 obtain ⟨a1,c1,rfl,hb1⟩ := hP1
 refine sx_O 30 #[] (BnOf somP [somB]) (fun W hM => lSome_any W hM.view) (fun v2 V2 hV2 hP2 => ?_)
 have k3 := hb1.le hV2
 obtain ⟨a2,c2,rfl,hb2⟩ := hP2
 refine zq 2 (sx_MI 0 (bK ib0 [S0] 76) 29 #[(Pt eb0 0),(bnV somP a1 [somB].length c1),(.agg #[(I6 somP.src.s),(St somP.src.l),(N6 somP.src.n),(N6 somP.src.v)]),(I6 1),(I6 0),(St [48,49,50,51,52,53,54,55,56,57,97,98,99,100,101,102]),(St [110,111,110,99,101,110,111,110,99,101,49,50]),(I6 1)] (SealOut somP [somB] somP.src 1 0 wKey wNonce 1 ib0) (fun W hM => cSeal_any eA somP [somB] _ _ somP.src 1 0 wKey wNonce 1 eb0 ib0 (hE.le (View.le_trans (View.le_trans hV0 hV1) hV2)) som_ok k3 som_ok.src (hV2 _ _ (hV1 _ _ hg0)) hM) (fun v4 V4 s4 hV4 hP4 => ?_))
 obtain ⟨hp4,ht4⟩ := hP4
 rw [wake_seal] at hp4
 obtain ⟨y9,hy9⟩ := wake_list
 rw [hy9] at hp4
 obtain ⟨a4,c4,rfl,hb4⟩ := hp4
 refine sx_mem _ [] (fun _ h => (h.sub (List.sublist_append_right _ _)).eqv (by kernel_rfl)) ?_
 obtain ⟨bY,fY,rfl,hUY⟩ := hb4.at_ 0 (secA [somB] somP.src 1 0 wNonce 1) rfl
 refine zq 3 (sx_N (fun b6 => (sx_S 0 b6 (zq 1 (zn (zB [0,0,0,0,1,0,0,0,0,0,1] [(b6,1),(b6,1)] (sx_R (Pt bY (fY + 0 * 5)) (rIx 38 rfl bY fY 2 c4 0 5) ?_)))))))
 refine zq 1 (zV bY (fY + 0 * 5 + 0) (I6 12) (hUY 0 _ rfl) 3 (.tmp 26) _ Tryz.underlying3 rfl ?_)
 refine zq 3 (zn (sx_ret (sx_Z [0] [(.bool true)] (fun W' hM => ?_))))
 exact ⟨rfl,hM.below⟩
theorem withD_alike {y : Bk} {d : List UInt8} (hd : d.length = y.d.length) (h1 : y.t ≠ 11) (h2 : y.t ≠ 12) : Alike y (y.withD d) :=
 ⟨rfl, rfl, rfl, rfl, hd, fun h => by rcases h with h | h <;> contradiction⟩
theorem getB_set {l : List Bk} {i : Nat} {y : Bk} {t : Int} {d : List UInt8} (hi : idxB l t = (i : Int)) (hy : l[i]? = some y) (ha : Alike y (y.withD d)) : idxB (l.set i (y.withD d)) t = (i : Int) ∧ getB (l.set i (y.withD d)) t = (y.withD d, true) := by
 have hL := AlikeL.set l i hy ha
 have h1 : idxB (l.set i (y.withD d)) t = (i : Int) := (hL.idxB t).trans hi
 have hlt := (List.getElem?_eq_some_iff.1 hy).1
 exact ⟨h1, idxB_get (by rw [h1]; omega) (by rw [h1, Int.toNat_natCast]; exact List.getElem?_set_self hlt)⟩
theorem readZ_alike {l m : List Bk} (h : AlikeL l m) (t : Int) (sec : Bk) : readZ m t sec = readZ l t sec := by
 unfold readZ
 rw [(h.getB t).1]
theorem sec0_alike {l m : List Bk} (h : AlikeL l m) : sec0 m = sec0 l := by
 unfold sec0
 rw [h.freeB]
theorem blind {p : Pr} {l : List Bk} {e : Ei} {vr fl target : Int} {key nonce d : List UInt8} {i : Nat} {y : Bk} (hi : idxB l target = (i : Int)) (hy : l[i]? = some y) (hd : d.length = y.d.length) (h1 : y.t ≠ 11) (h2 : y.t ≠ 12) :
  sealR p (l.set i (y.withD d)) e vr fl key nonce target = sealR p l e vr fl key nonce target := by
 have ha := withD_alike hd h1 h2
 have hL := AlikeL.set l i hy ha
 obtain ⟨g1, g2⟩ := getB_set (t := target) hi hy ha
 have g3 : getB l target = (y, true) := idxB_get (by rw [hi]; omega) (by rw [hi, Int.toNat_natCast]; exact hy)
 have hz : besideZ (l.set i (y.withD d)) target (sec0 (l.set i (y.withD d))) fl = besideZ l target (sec0 l) fl := by
  unfold besideZ
  rw [sec0_alike hL, readZ_alike hL]
 have hs : sealL (l.set i (y.withD d)) e vr fl nonce target = sealL l e vr fl nonce target := by
  unfold sealL secA
  rw [g1, g2, hi, g3, hL.freeB, Int.toNat_natCast, List.set_set]
  have e1 : (y.withD d, true).1.d.length = (y, true).1.d.length := hd
  rw [e1]
  rfl
 unfold sealR
 rw [hL.mayZ, hz, hs]
theorem sealsG_changes {l : List Bk} : ∀ (ops pre : List Op), sealsG l pre ops = true → ∀ o ∈ ops, o.k = 2 → changesB (getB l o.t).1 = false
 | [], _, _, o, ho, _ => by cases ho
 | x :: r, pre, h, o, ho, hk => by
  rw [sealsG] at h
  split at h
  ·
   next hx =>
   rcases List.mem_cons.1 ho with rfl | ho
   · rw [hk] at hx; cases hx
   · exact sealsG_changes r _ h o ho hk
  ·
   next hx =>
   split at h
   · cases h
   ·
    next hb =>
    rcases List.mem_cons.1 ho with rfl | ho
    ·
     cases hc : changesB (getB l o.t).1 with
     | false => rfl
     | true => exact absurd (by rw [hc]; simp) hb
    · exact sealsG_changes r _ h o ho hk
theorem may_changes {p : Pr} {l : List Bk} {target : Int} (h : changesB (getB l target).1 = true) : (mayZ p l 2 [target] != 0) = true := by
 cases hz : (mayZ p l 2 [target] != 0) with
 | true => rfl
 | false =>
  have h0 : mayZ p l 2 [target] = 0 := by simpa using hz
  unfold mayZ at h0
  split at h0
  · next h1 => rw [h0] at h1; cases h1
  ·
   split at h0
   · next h1 => rw [h0] at h1; cases h1
   ·
    split at h0
    · cases h0
    ·
     unfold mixZ at h0
     split at h0
     ·
      next hm =>
      simp only [Bool.and_eq_true] at hm
      have := sealsG_changes _ _ hm.1.2 ⟨2, (freeB l : Int), target⟩ (by
       unfold mayOps
       refine List.mem_filter.2 ⟨List.mem_append_right _ (by simp [opsOf]), by simp⟩) rfl
      rw [h] at this
      cases this
     · cases h0
theorem seal_changes {p : Pr} {l : List Bk} {e : Ei} {vr fl target : Int} {key nonce : List UInt8} (h : changesB (getB l target).1 = true) : ((sealR p l e vr fl key nonce target).2.2 != 0) = true := by
 unfold sealR
 rw [if_pos (may_changes h)]
 exact may_changes h
theorem Ch2.start {i j : Nat} {init : Blks} {A1 A2 : Value → View → Blks → Prop} {u : Nat → Value} {V : View} : Ch2 i j init A1 A2 (fun _ => false) u V init := by
 unfold Ch2
 simp
theorem Ch2.got {i j : Nat} {init : Blks} {A1 A2 : Value → View → Blks → Prop} {L : Nat → Bool} {u : Nat → Value} {V : View} {S : Blks} (hj : L j = true) (h : Ch2 i j init A1 A2 L u V S) : A2 (u i) V S := by
 unfold Ch2 at h
 rw [if_pos hj] at h
 exact h
theorem IdealIs.mono (v : Value) (V V' : View) (S : Blks) (hl : View.le V V') (h : IdealIs v V S) : IdealIs v V' S := by
 obtain ⟨eb, ib, e, hg, hs⟩ := h
 exact ⟨eb, ib, e, hg.le hl, hs⟩
def BnBlk (p : Pr) (l : List Bk) (v : Value) (V : View) (S : Blks) : Prop := ∃ b a c, v = .pointer (some ⟨b, 0, none⟩) ∧ S = [(b, .cells (bnCs p a l.length c).toArray 29 (0, 0))] ∧ BksAt V a l
theorem BnBlk.mono {p : Pr} {l : List Bk} (v : Value) (V V' : View) (S : Blks) (hl : View.le V V') (h : BnBlk p l v V S) : BnBlk p l v V' S := by
 obtain ⟨b, a, c, e, hs, hb⟩ := h
 exact ⟨b, a, c, e, hs, hb.le hl⟩
theorem SealV.mono {q : Pr × List Bk × Int} {v : Value} {V V' : View} (hl : View.le V V') (h : SealV q v V) : SealV q v V' := BnRes.mono hl h
theorem idxB_ge {l : List Bk} {t : Int} (h : decide (idxB l t < 0) = false) : ∃ i : Nat, idxB l t = (i : Int) ∧ i < l.length := by
 have h0 := of_decide_eq_false h
 obtain ⟨h1, h2⟩ := idxB_lt h0
 exact ⟨_, h2, h1⟩
structure Ei.ok0 (e : Ei) : Prop where
 n : e.n < W64
 v : e.v < W64
structure Pr.ok0 (p : Pr) : Prop where
 f : p.f < W64
 dst : p.dst.ok0
 src : p.src.ok0
 rpt : p.rpt.ok0
 time : p.time < W64
 seq : p.seq < W64
 life : p.life < W64
 off : p.off < W64
 tot : p.tot < W64
theorem Ei.ok0.up {e : Ei} (h : e.ok0) (hf : few10 e = true) : e.ok := ⟨by unfold few10 at hf; have := of_decide_eq_true hf; unfold R47; omega, h.n, h.v⟩
theorem Pr.ok0.up {p : Pr} (h : p.ok0) (hf : few11 p = true) : p.ok := by
 unfold few11 at hf
 simp only [Bool.and_eq_true] at hf
 exact ⟨h.f, h.dst.up hf.1.1, h.src.up hf.1.2, h.rpt.up hf.2, h.time, h.seq, h.life, h.off, h.tot⟩
theorem few_parts {p : Pr} {l : List Bk} {e : Ei} {key nonce : List UInt8} (hp : p.ok0) (he : e.ok0) (h : (!fewW p l e key nonce) = false) : l.length ≤ 18 ∧ (∀ x ∈ l, x.d.length ≤ 4100) ∧ p.ok ∧ e.ok := by
 have h' : fewW p l e key nonce = true := by simpa using h
 unfold fewW at h'
 simp only [Bool.and_eq_true, decide_eq_true_eq] at h'
 obtain ⟨⟨⟨⟨⟨h1, h2⟩, h3⟩, h4⟩, h5⟩, h6⟩ := h'
 have h7 := few13_parts h1
 unfold few13 at h1
 simp only [Bool.and_eq_true] at h1
 exact ⟨by omega, h7.2, hp.up h1.2, he.up h3⟩
theorem withL_one {l : List Bk} {i : Nat} {x : Bk} (hi : i < l.length) : withL l [x] i 1 = l.set i x := by
 unfold withL
 rw [List.set_eq_take_append_cons_drop, if_pos hi, List.append_assoc]
 rfl
end Go.Proofs.YtcdjakemdlinhaaGreatDoor.Sx
namespace Go.Proofs.YtcdjakemdlinhaaGreatDoor.Sx
open Go.ChangeShapes Go.WideShapes Go.ChangeAt Go.RowKit
section
variable {H : Type} {enc : TypeId × Value → H} {W : World} {base : Nat} {v0 : Value} {d0 : DataW H} {p0 : List MemPlace}
theorem u64_nat {m : Int} (h : (Lit.int .u64 m).wf = true) : ∃ k : Nat, m = (k : Int) ∧ k < W64 := by
 simp [Lit.wf, IntKind.min, IntKind.max, IntKind.signed, IntKind.bits] at h
 exact ⟨m.toNat, by omega, by unfold W64; omega⟩
def primT : List TypeId := [22, 3, 3, 9, 22, 22, 3, 9, 22, 22, 3, 9, 22, 22, 22, 22, 22, 22, 22]
def blkT : List TypeId := [3, 3, 22, 3, 9]
def wayT : List TypeId := [3, 9, 22, 22, 3, 3, 9, 9, 3, 4]
theorem prim_of {cs : List Value} (h : All2 (LeafOk enc Tryz.prog W) primT cs) : ∃ r : Pr, cs = r.cs ∧ r.ok0 := by
 obtain ⟨c0, _, rfl, h0, c1, _, rfl, h1, c2, _, rfl, h2, c3, _, rfl, h3, c4, _, rfl, h4, c5, _, rfl, h5, c6, _, rfl, h6, c7, _, rfl, h7, c8, _, rfl, h8, c9, _, rfl, h9, c10, _, rfl, h10, c11, _, rfl, h11, c12, _, rfl, h12, c13, _, rfl, h13, c14, _, rfl, h14, c15, _, rfl, h15, c16, _, rfl, h16, c17, _, rfl, h17, c18, _, rfl, h18, rfl⟩ := h
 obtain ⟨x0, rfl, w0⟩ := h0.int Tryz.underlying22
 obtain ⟨x1, rfl, _⟩ := h1.int Tryz.underlying3
 obtain ⟨x2, rfl, _⟩ := h2.int Tryz.underlying3
 obtain ⟨x3, rfl, _⟩ := h3.str Tryz.underlying9
 obtain ⟨x4, rfl, w4⟩ := h4.int Tryz.underlying22
 obtain ⟨x5, rfl, w5⟩ := h5.int Tryz.underlying22
 obtain ⟨x6, rfl, _⟩ := h6.int Tryz.underlying3
 obtain ⟨x7, rfl, _⟩ := h7.str Tryz.underlying9
 obtain ⟨x8, rfl, w8⟩ := h8.int Tryz.underlying22
 obtain ⟨x9, rfl, w9⟩ := h9.int Tryz.underlying22
 obtain ⟨x10, rfl, _⟩ := h10.int Tryz.underlying3
 obtain ⟨x11, rfl, _⟩ := h11.str Tryz.underlying9
 obtain ⟨x12, rfl, w12⟩ := h12.int Tryz.underlying22
 obtain ⟨x13, rfl, w13⟩ := h13.int Tryz.underlying22
 obtain ⟨x14, rfl, w14⟩ := h14.int Tryz.underlying22
 obtain ⟨x15, rfl, w15⟩ := h15.int Tryz.underlying22
 obtain ⟨x16, rfl, w16⟩ := h16.int Tryz.underlying22
 obtain ⟨x17, rfl, w17⟩ := h17.int Tryz.underlying22
 obtain ⟨x18, rfl, w18⟩ := h18.int Tryz.underlying22
 obtain ⟨n0, rfl, l0⟩ := u64_nat w0
 obtain ⟨n4, rfl, l4⟩ := u64_nat w4
 obtain ⟨n5, rfl, l5⟩ := u64_nat w5
 obtain ⟨n8, rfl, l8⟩ := u64_nat w8
 obtain ⟨n9, rfl, l9⟩ := u64_nat w9
 obtain ⟨n12, rfl, l12⟩ := u64_nat w12
 obtain ⟨n13, rfl, l13⟩ := u64_nat w13
 obtain ⟨n14, rfl, l14⟩ := u64_nat w14
 obtain ⟨n15, rfl, l15⟩ := u64_nat w15
 obtain ⟨n16, rfl, l16⟩ := u64_nat w16
 obtain ⟨n17, rfl, l17⟩ := u64_nat w17
 obtain ⟨n18, rfl, l18⟩ := u64_nat w18
 exact ⟨⟨n0, x1, ⟨x2, x3, n4, n5⟩, ⟨x6, x7, n8, n9⟩, ⟨x10, x11, n12, n13⟩, n14, n15, n16, n17, n18⟩, rfl, ⟨l0, ⟨l4, l5⟩, ⟨l8, l9⟩, ⟨l12, l13⟩, l14, l15, l16, l17, l18⟩⟩
theorem blk_of {cs : List Value} (h : All2 (LeafOk enc Tryz.prog W) blkT cs) : ∃ r : Bk, cs = r.cs ∧ r.f < W64 := by
 obtain ⟨c0, _, rfl, h0, c1, _, rfl, h1, c2, _, rfl, h2, c3, _, rfl, h3, c4, _, rfl, h4, rfl⟩ := h
 obtain ⟨x0, rfl, _⟩ := h0.int Tryz.underlying3
 obtain ⟨x1, rfl, _⟩ := h1.int Tryz.underlying3
 obtain ⟨x2, rfl, w2⟩ := h2.int Tryz.underlying22
 obtain ⟨x3, rfl, _⟩ := h3.int Tryz.underlying3
 obtain ⟨x4, rfl, _⟩ := h4.str Tryz.underlying9
 obtain ⟨n2, rfl, l2⟩ := u64_nat w2
 exact ⟨⟨x0, x1, n2, x3, x4⟩, rfl, l2⟩
theorem all_mapB {ok : Bk → Prop} : ∀ {css : List (List Value)}, (∀ cs ∈ css, ∃ r : Bk, cs = r.cs ∧ ok r) → ∃ rs : List Bk, css = rs.map Bk.cs ∧ ∀ r ∈ rs, ok r
 | [], _ => ⟨[], rfl, fun r h => by cases h⟩
 | cs :: css, h => by
  obtain ⟨r, hr, hok⟩ := h cs (List.mem_cons_self ..)
  obtain ⟨rs, hrs, hoks⟩ := all_mapB (css := css) fun c hc => h c (List.mem_cons_of_mem _ hc)
  refine ⟨r :: rs, by rw [hr, hrs]; rfl, fun x hx => ?_⟩
  rcases List.mem_cons.1 hx with rfl | hx
  · exact hok
  · exact hoks x hx
theorem all2_append {α β : Type} {R : α → β → Prop} : ∀ {us vs : List α} {cs : List β}, All2 R (us ++ vs) cs → ∃ cs1 cs2, cs = cs1 ++ cs2 ∧ All2 R us cs1 ∧ All2 R vs cs2
 | [], vs, cs, h => ⟨[], cs, rfl, rfl, h⟩
 | u :: us, vs, cs, ⟨c, r, e, hr, ht⟩ => by
  obtain ⟨c1, c2, rfl, h1, h2⟩ := all2_append ht
  exact ⟨c :: c1, c2, by rw [e]; rfl, ⟨c, c1, rfl, hr, h1⟩, h2⟩
theorem bks_of {v : Value} {l : List Bk} (h : RowsAt W v 5 (l.map Bk.cs)) (hf : ∀ x ∈ l, x.f < W64) : ∃ a c, v = .slice a l.length c ∧ BksAt0 (allU W) a l ∧ l.length ≤ c := by
 obtain ⟨hm, a, c, rfl, hc, _, hx⟩ := h
 rw [List.length_map] at hm hc
 refine ⟨a, c, by rw [List.length_map], ⟨fun i x hi => ?_, hf, hm⟩, hc⟩
 rcases hx with hx | ⟨b, o, rfl, _, hx⟩
 ·
  rw [List.map_eq_nil_iff.1 hx] at hi
  cases hi
 ·
  refine ⟨b, o, rfl, fun j u hu => ?_⟩
  have := hx i x.cs (by rw [List.getElem?_map, hi]; rfl) j u hu
  rw [show o + i * 5 + j = o + (i * 5 + j) by omega]
  exact this
set_option maxRecDepth 100000 in
theorem blks_of {v : Value} (h : LeafOk enc Tryz.prog W 27 v) : ∃ (l : List Bk) (a : Option Addr) (c : Nat), v = .slice a l.length c ∧ BksAt0 (allU W) a l ∧ l.length ≤ c := by
 obtain ⟨n, z, hz, hlt⟩ := h
 obtain ⟨css, hat, hall⟩ := rows_of blkT hz hlt Tryz.underlying27 (by kernel_rfl) (by kernel_rfl) (by decide)
 obtain ⟨l, rfl, hok⟩ := all_mapB fun cs hcs => blk_of (hall cs hcs)
 exact ⟨l, bks_of hat hok⟩
set_option maxRecDepth 100000 in
theorem open_bundle (hv : Value.okWide Tryz.prog W .any base 29 v0)
  (hr : DataW.Trod enc Tryz.prog W 0 (fun _ => true) true 29 v0 d0 p0) (hlt : ∀ p ∈ p0, p.block < W.heap.size) :
  ∃ (p : Pr) (l : List Bk) (a : Option Addr) (c : Nat), v0 = bnV p a l.length c ∧ p.ok0 ∧ BksAt0 (allU W) a l ∧ l.length ≤ c := by
 obtain ⟨cs, rfl, h⟩ := open_flat (primT ++ [27]) hv hr hlt (by kernel_rfl) (by kernel_rfl) (by kernel_rfl)
 obtain ⟨c1, c2, rfl, h1, v, _, rfl, h2, rfl⟩ := all2_append h
 obtain ⟨p, rfl, hp⟩ := prim_of h1
 obtain ⟨l, a, c, rfl, hl, hc⟩ := blks_of h2
 exact ⟨p, l, a, c, rfl, hp, hl, hc⟩
set_option maxRecDepth 100000 in
theorem open_way (hv : Value.okWide Tryz.prog W .any base 33 v0)
  (hr : DataW.Trod enc Tryz.prog W 0 (fun _ => true) true 33 v0 d0 p0) (hlt : ∀ p ∈ p0, p.block < W.heap.size) :
  ∃ (e : Ei) (vr fl : Int) (key nonce : List UInt8) (target : Int) (id : Bool), v0 = wyV e vr fl key nonce target id ∧ e.ok0 := by
 obtain ⟨cs, rfl, c0, _, rfl, h0, c1, _, rfl, h1, c2, _, rfl, h2, c3, _, rfl, h3, c4, _, rfl, h4, c5, _, rfl, h5, c6, _, rfl, h6, c7, _, rfl, h7, c8, _, rfl, h8, c9, _, rfl, h9, rfl⟩ := open_flat wayT hv hr hlt (by kernel_rfl) (by kernel_rfl) (by kernel_rfl)
 obtain ⟨x0, rfl, _⟩ := h0.int Tryz.underlying3
 obtain ⟨x1, rfl, _⟩ := h1.str Tryz.underlying9
 obtain ⟨x2, rfl, w2⟩ := h2.int Tryz.underlying22
 obtain ⟨x3, rfl, w3⟩ := h3.int Tryz.underlying22
 obtain ⟨x4, rfl, _⟩ := h4.int Tryz.underlying3
 obtain ⟨x5, rfl, _⟩ := h5.int Tryz.underlying3
 obtain ⟨x6, rfl, _⟩ := h6.str Tryz.underlying9
 obtain ⟨x7, rfl, _⟩ := h7.str Tryz.underlying9
 obtain ⟨x8, rfl, _⟩ := h8.int Tryz.underlying3
 obtain ⟨x9, rfl⟩ := h9.bool Tryz.underlying4
 obtain ⟨n2, rfl, l2⟩ := u64_nat w2
 obtain ⟨n3, rfl, l3⟩ := u64_nat w3
 exact ⟨⟨x0, x1, n2, n3⟩, x4, x5, x6, x7, x8, x9, rfl, ⟨l2, l3⟩⟩
end
end Go.Proofs.YtcdjakemdlinhaaGreatDoor.Sx
