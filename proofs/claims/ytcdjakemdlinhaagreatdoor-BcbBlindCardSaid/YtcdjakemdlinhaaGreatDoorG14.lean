/-
  Several texts in one: Lbb FrameL FrameB.
  Conditions: named at each.
-/
import Derived.Test.YtcdjakemdlinhaaGreatDoorG13
import Derived.LaidMore
import Derived.Handed
import Derived.LaidLaws
import Derived.Stop.Joined
import Derived.Stop.LaidErr
import Derived.ChangeBears2
set_option linter.unusedSimpArgs false
set_option linter.unusedVariables false
set_option linter.unusedSectionVars false
namespace Go.Proofs.YtcdjakemdlinhaaGreatDoor.Sx
open Go.ChangeShapes Go.WideShapes Go.ChangeAt Go.RowKit Go.Deep
set_option maxHeartbeats 16000000 in
theorem lBlind_any (eA : Addr) (p : Pr) (l : List Bk) (a : Option Addr) (c : Nat) (e : Ei) (vr fl : Int) (key nonce : List UInt8) (target : Int) (id : Bool) (other : List UInt8) (w : World) {U : View} (hU : ∀ a v, U a = some v → w.cell? a = some v) (hE : EF U eA) (hp0 : p.ok0) (he0 : e.ok0) (hl0 : BksAt0 U a l) (hc : l.length ≤ c) :
    Calls Tryz.prog 3 #[bnV p a l.length c, wyV e vr fl key nonce target id, .string (B other)] w (Ret (.bool true) w) := by
 obtain ⟨qq,hqq⟩ : ∃ qq,sealR p l e vr fl key nonce target = qq := ⟨_,rfl⟩
 have heq9 : (qq.2.2 == qq.2.2) = true := by simp
 refine sx_enter (f := 3) 114 U Tryz.func3 rfl rfl rfl hU ?_
 refine zs (zr (sx_N (fun b0 => (sx_N (fun b1 => (zq 1 (zn (zB [1,0,2] [(b0,20),(b1,1)] (sx_C 9 #[(bnV p a l.length c),(I6 target)] (I6 (idxB l target)) (fun W hM => rAt13_any p l _ _ target W hM.view hl0) ?_)))))))))
 refine zq 1 (zn (zs (zs (zr (sx_C 10 #[] (.bool true) (fun W hM => lAwake_any eA W hM.view hE) ?_)))))
 refine sx_B [0,0,1,2] [(b0,20),(b1,10)] (sx_C 11 #[(bnV p a l.length c),(.agg #[(I6 e.s),(St e.l),(N6 e.n),(N6 e.v),(I6 vr),(I6 fl),(St key),(St nonce),(I6 target),(.bool id)])] (.bool (fewW p l e key nonce)) (fun W hM => lFew_any p l _ _ e vr fl key nonce target id W hM.view hl0) ?_)
 refine zq 3 (sx_BL 26 (!(fewW p l e key nonce)) (fun h0 => ?_) (fun h0 => ?_))
 ·
  refine zq 33 (zn (sx_T (zs (zr (sx_C 10 #[] (.bool true) (fun W hM => lAwake_any eA W hM.view hE) ?_)))))
  refine zq 1 (zn (sx_ret (sx_Z [6] [(.bool true)] (fun W' hM => ?_))))
  exact ⟨rfl,hM.below⟩
 ·
  refine zq 4 (sx_BL 30 (decide ((idxB l target) < 0)) (fun h1 => ?_) (fun h1 => ?_))
  ·
   refine zq 29 (zn (sx_T (zs (zr (sx_C 10 #[] (.bool true) (fun W hM => lAwake_any eA W hM.view hE) ?_)))))
   refine zq 1 (zn (sx_ret (sx_Z [6] [(.bool true)] (fun W' hM => ?_))))
   exact ⟨rfl,hM.below⟩
  ·
   have h1d := of_decide_eq_false h1
   obtain ⟨i9,hi9,hlt9⟩ := idxB_ge h1
   obtain ⟨hL18,hD9,hp9,he9⟩ := few_parts hp0 he0 h0
   refine sx_E 7 (I6 (idxB l target)) (L6 i9) (by rw [hi9]) ?_
   refine sx_B [0,0,0,1,0] [(b0,1)] ?_
   obtain ⟨y2,hy2⟩ : ∃ y,(l)[i9]? = some y := ⟨(l)[i9]'(by omega),List.getElem?_eq_getElem _⟩
   obtain ⟨b2,f2,rfl,hU2⟩ := hl0.at_ i9 y2 hy2
   refine sx_R (Pt b2 (f2 + i9 * 5)) (rIx 38 rfl b2 f2 l.length c i9 5) ?_
   refine zq 1 (zV b2 (f2 + i9 * 5 + 4) (St y2.d) (hU2 4 _ rfl) 9 (.tmp 37) _ Tryz.underlying9 rfl ?_)
   refine zq 4 (sx_BL 42 ((((other).length : Nat) : Int) != (((y2.d).length : Nat) : Int)) (fun h2 => ?_) (fun h2 => ?_))
   ·
    refine zq 17 (zn (sx_T (zs (zr (sx_C 10 #[] (.bool true) (fun W hM => lAwake_any eA W hM.view hE) ?_)))))
    refine zq 1 (zn (sx_ret (sx_Z [6] [(.bool true)] (fun W' hM => ?_))))
    exact ⟨rfl,hM.below⟩
   ·
    have h2d := bne_eq_false_iff_eq.1 h2
    refine sx_B [0,1,0] [(b0,1)] (sx_R (Pt b2 (f2 + i9 * 5)) (rIx 38 rfl b2 f2 l.length c i9 5) ?_)
    refine zq 1 (zV b2 (f2 + i9 * 5 + 0) (I6 y2.t) (hU2 0 _ rfl) 3 (.tmp 47) _ Tryz.underlying3 rfl ?_)
    refine zq 3 (sx_BL 51 (y2.t == 11) (fun h3 => ?_) (fun h3 => ?_))
    ·
     refine zq 8 (zn (sx_T (zs (zr (sx_C 10 #[] (.bool true) (fun W hM => lAwake_any eA W hM.view hE) ?_)))))
     refine zq 1 (zn (sx_ret (sx_Z [6] [(.bool true)] (fun W' hM => ?_))))
     exact ⟨rfl,hM.below⟩
    ·
     have h3d := beq_eq_false_iff_ne.1 h3
     refine sx_B [0,1,0] [(b0,1)] (sx_R (Pt b2 (f2 + i9 * 5)) (rIx 38 rfl b2 f2 l.length c i9 5) ?_)
     refine zq 1 (zV b2 (f2 + i9 * 5 + 0) (I6 y2.t) (hU2 0 _ rfl) 3 (.tmp 56) _ Tryz.underlying3 rfl ?_)
     refine zq 2 (zn (sx_D (y2.t == 12) (fun h4 => ?_) (fun h4 => ?_)))
     ·
      refine zs (zr (sx_C 10 #[] (.bool true) (fun W hM => lAwake_any eA W hM.view hE) ?_))
      refine zq 1 (zn (sx_ret (sx_Z [6] [(.bool true)] (fun W' hM => ?_))))
      exact ⟨rfl,hM.below⟩
     ·
      have h4d := beq_eq_false_iff_ne.1 h4
      refine zk (zB [0,1,0] [(b0,1)] (sx_R (Pt b2 (f2 + i9 * 5)) (rIx 38 rfl b2 f2 l.length c i9 5) ?_))
      refine zU b2 (f2 + i9 * 5) y2.cs hU2 38 (.tmp 64) _ Tryz.underlying38 rfl ?_
      refine sx_N (fun b3 => (sx_S 2 b3 (zn (zQ 2 (sx_S 2 b3 (zn (zB [1,0,3] [(b0,20),(b3,5)] ?_)))))))
      refine sx_newV [(I6 y2.t),(I6 y2.n),(N6 y2.f),(I6 y2.c),(St other)] 38 (fun r => (Sl r 0 1 1)) (by kernel_rfl) (by kernel_rfl) (by kernel_rfl) (fun g4 V4 hV4 hR4 => ?_)
      have k5 := hl0.le hV4
      have hol : other.length = y2.d.length := by have := h2; simp only [bne_eq_false_iff_eq] at this; omega
      have hyD := hD9 y2 (List.mem_of_getElem? hy2)
      have hyF := hl0.f y2 (List.mem_of_getElem? hy2)
      have hyt1 : y2.t ≠ 11 := by have := h3; simpa using this
      have hyt2 : y2.t ≠ 12 := by have := h4; simpa using this
      have hqq2 : sealR p (l.set i9 (y2.withD other)) e vr fl key nonce target = qq := by rw [blind hi9 hy2 hol hyt1 hyt2]; exact hqq
      have hT4 : BksAt V4 (some ⟨g4,0,none⟩) [(y2.withD other)] := BksAt.of (show V4.range g4 0 ([(y2.withD other)].flatMap Bk.cs) from hR4) (fun x hx => by rw [List.mem_singleton.1 hx]; exact ⟨hyF,by show other.length ≤ R47; unfold R47; omega⟩) (show 1 ≤ R47 by decide)
      refine sx_O 12 #[(bnV p (some ⟨b2,f2,none⟩) l.length c),(I6 ((i9 : Nat) : Int)),(I6 1),(Sl g4 0 1 1)] (BnOf p (l.set i9 (y2.withD other))) (fun W hM => (withL_one (x := (y2.withD other)) hlt9) ▸ rWith13_any p l [(y2.withD other)] i9 1 _ _ _ _ W hM.view (k5.up (by omega) fun x hx => by have := hD9 x hx; omega) hT4 (by rintro rfl; simp at hlt9) (by omega) hc (by omega) (show 1 ≤ 1000000 by decide)) (fun v6 V6 hV6 hP6 => ?_)
      have k7 := k5.le hV6
      obtain ⟨a6,c6,rfl,hb6⟩ := hP6
      refine sx_N (fun b9 => (sx_S 3 b9 (zn (zs ?_))))
      refine sx_drawnG 9 1 0 [74,75,76,77,73,78,79,10,0] [.mem (fun _ _ => True),.val (bnV p (some ⟨b2,f2,none⟩) l.length c),.val (.agg #[(I6 e.s),(St e.l),(N6 e.n),(N6 e.v),(I6 vr),(I6 fl),(St key),(St nonce),(I6 target),(.bool id)]),.mem (SealV qq),.mem (SealV qq),.mem (BnOf qq.1 qq.2.1),.val (I6 qq.2.2),.mem (fun _ _ => True),.mem (fun _ _ => True)] (fun k => k == 0 || k == 3) (fun k => k == 7 || k == 8) (Ch2 0 3 [] IdealIs fun _ _ _ => True) (Ch2 7 8 [] (OneNew (fun r => (Pt r 0)) (.cells [(U6 0),(I6 0),(I6 0),(St []),(U6 0),(U6 0),(I6 0),(St []),(U6 0),(U6 0),(I6 0),(St []),(U6 0),(U6 0),(U6 0),(U6 0),(U6 0),(U6 0),(U6 0),S0].toArray 29 (0,0))) (BnBlk qq.1 qq.2.1)) [] [] [(bK b0 (bnCs p (some ⟨b2,f2,none⟩) l.length c) 29),(bK b1 [(I6 e.s),(St e.l),(N6 e.n),(N6 e.v),(I6 vr),(I6 fl),(St key),(St nonce),(I6 target),(.bool id)] 33),(bK b3 [(I6 y2.t),(I6 y2.n),(N6 y2.f),(I6 y2.c),(St other)] 38),(bK b9 [(N6 p.f),(I6 p.c),(I6 p.dst.s),(St p.dst.l),(N6 p.dst.n),(N6 p.dst.v),(I6 p.src.s),(St p.src.l),(N6 p.src.n),(N6 p.src.v),(I6 p.rpt.s),(St p.rpt.l),(N6 p.rpt.n),(N6 p.rpt.v),(N6 p.time),(N6 p.seq),(N6 p.life),(N6 p.off),(N6 p.tot),(.slice a6 (l.set i9 (y2.withD other)).length c6)] 29)] permE (fun _ => Ch2.start) (fun _ => Ch2.start) (Ch2.mono IdealIs.mono (fun _ _ _ _ _ _ => trivial)) (Ch2.mono (fun _ _ _ _ _ h => h) BnBlk.mono) Ch2.keep Ch2.keep (by intro k h; simp only [Bool.or_eq_true,beq_iff_eq] at h; rcases h with rfl | rfl <;> rfl) (by kernel_rfl) rfl rfl (by kernel_rfl) (by kernel_rfl) (by kernel_rfl) (by kernel_rfl) (by kernel_rfl) (by kernel_rfl) (by simp only [List.forall_mem_cons]; exact ⟨by intro v V V2 hV2 hP; (first | trivial | exact SealV.mono hV2 hP | exact BnOf.mono hV2 hP),trivial,trivial,by intro v V V2 hV2 hP; (first | trivial | exact SealV.mono hV2 hP | exact BnOf.mono hV2 hP),by intro v V V2 hV2 hP; (first | trivial | exact SealV.mono hV2 hP | exact BnOf.mono hV2 hP),by intro v V V2 hV2 hP; (first | trivial | exact SealV.mono hV2 hP | exact BnOf.mono hV2 hP),trivial,by intro v V V2 hV2 hP; (first | trivial | exact SealV.mono hV2 hP | exact BnOf.mono hV2 hP),by intro v V V2 hV2 hP; (first | trivial | exact SealV.mono hV2 hP | exact BnOf.mono hV2 hP),fun _ h => by cases h⟩) (by kernel_rfl) ⟨?_,?_,?_,?_,?_,?_,?_,?_,?_,trivial⟩ [4,6,8,9,10,79] (fun u => [(Pt b1 0),(.bool false),(Pt b3 0),(Pt b9 0),u 7,(I6 qq.2.2)]) (fun u => by kernel_rfl) ?_
      · refine ObG.a 0 rfl (GQ.call (show (0 : Nat) ≠ 3 by decide) (by kernel_rfl) (fun _ _ => True) rfl (fun _ _ _ _ => trivial) ⟨_,14,[],(fun u => []),rfl,rfl,rfl,(fun u => by kernel_rfl),fun u V hV hdq => ⟨#[],by kernel_rfl,fun W rest hM => ideal_any hM⟩⟩)
      · exact ObG.o 1 rfl rfl (fun σ' => oqL 1 0 b0 20 (bnCs p (some ⟨b2,f2,none⟩) l.length c) 29 rfl (bnV p (some ⟨b2,f2,none⟩) l.length c) rfl (by kernel_rfl) (fun u => by kernel_rfl) (fun u => by kernel_rfl))
      · exact ObG.o 2 rfl rfl (fun σ' => oqL 2 1 b1 10 [(I6 e.s),(St e.l),(N6 e.n),(N6 e.v),(I6 vr),(I6 fl),(St key),(St nonce),(I6 target),(.bool id)] 33 rfl (.agg #[(I6 e.s),(St e.l),(N6 e.n),(N6 e.v),(I6 vr),(I6 fl),(St key),(St nonce),(I6 target),(.bool id)]) rfl (by kernel_rfl) (fun u => by kernel_rfl) (fun u => by kernel_rfl))
      ·
       refine ObG.a 3 rfl (GQ.take (show (0 : Nat) ≠ 3 by decide) (by kernel_rfl) (SealV qq) rfl ⟨_,13,[74,75,76],(fun u => [u 0,(bnV p (some ⟨b2,f2,none⟩) l.length c),(.agg #[(I6 e.s),(St e.l),(N6 e.n),(N6 e.v),(I6 vr),(I6 fl),(St key),(St nonce),(I6 target),(.bool id)])]),rfl,rfl,rfl,(fun u => by kernel_rfl),fun u V own hV hdq hA => ?_⟩)
       obtain ⟨eb,ib,q0,hg,rfl⟩ := hA
       refine ⟨#[u 0,(bnV p (some ⟨b2,f2,none⟩) l.length c),(.agg #[(I6 e.s),(St e.l),(N6 e.n),(N6 e.v),(I6 vr),(I6 fl),(St key),(St nonce),(I6 target),(.bool id)])],by kernel_rfl,fun W rest hM => ?_⟩
       rw [q0]
       exact (lSeal_any eA p l _ _ e vr fl key nonce target id eb ib ((hE.le (View.le_trans hV4 hV6)).le hV) hp9 ((k7.up (by omega) fun x hx => by have := hD9 x hx; omega).le hV) he9 hg hM).mono fun e' W' h => h.mono fun v V' S' h => ⟨trivial,hqq ▸ h.1⟩
      · refine ObG.o 4 rfl rfl (fun σ' => oqP 4 rfl rfl (SealV qq) rfl [77] (fun u => [u 3]) (fun u => by kernel_rfl) (fun u V hV hdq => ⟨u 3,by kernel_rfl,(show (SealV qq) (u 3) V from hdq 3 (by kernel_rfl))⟩))
      ·
       refine ObG.o 5 rfl rfl (fun σ' => oqP 5 rfl rfl (BnOf qq.1 qq.2.1) rfl [73] (fun u => [u 4]) (fun u => by kernel_rfl) (fun u V hV hdq => ?_))
       have e4 : (SealV qq) (u 4) V := hdq 4 (by kernel_rfl)
       obtain ⟨a4,c4,q4,hb4⟩ := e4
       exact ⟨bnV qq.1 a4 qq.2.1.length c4,by rw [q4]; kernel_rfl,a4,c4,rfl,hb4⟩
      ·
       refine ObG.o 6 rfl rfl (fun σ' => oqK 6 rfl rfl (I6 qq.2.2) rfl [73] (fun u => [u 4]) (fun u => by kernel_rfl) (fun u V hV hdq => ?_))
       have e4 : (SealV qq) (u 4) V := hdq 4 (by kernel_rfl)
       obtain ⟨a4,c4,q4,hb4⟩ := e4
       rw [q4]
       show _ = _
       kernel_rfl
      · refine ObG.b 7 rfl rfl (GQ.alloc (show (7 : Nat) ≠ 8 by decide) (by kernel_rfl) rfl (fun r => (Pt r 0)) [] (fun u => []) (fun u => by kernel_rfl) ⟨_,rfl,rfl,rfl,fun u => by kernel_rfl⟩)
      ·
       refine ObG.b 8 rfl rfl (GQ.store (show (7 : Nat) ≠ 8 by decide) (by kernel_rfl) rfl ⟨_,[10,78],(fun u => [u 7,u 5]),rfl,rfl,rfl,(fun u => by kernel_rfl),fun u V b hV hdq hub => ?_⟩)
       have e5 : (BnOf qq.1 qq.2.1) (u 5) V := hdq 5 (by kernel_rfl)
       obtain ⟨a5,c5,q5,hb5⟩ := e5
       exact ⟨.cells (bnCs qq.1 a5 qq.2.1.length c5).toArray 29 (0,0),(by show stK _ _ 0 ([10,78].zip [u 7,u 5]) _ = _; rw [q5,hub]; kernel_rfl),b,a5,c5,hub,rfl,hb5⟩
      intro L10 u10 V10 SA10 SB10 hV10 hL10 hdq10 hRA10 hRB10
      obtain ⟨b10,a10,c10,q710,rfl,hb10⟩ := Ch2.got (hL10 8 (by decide)) hRB10
      rw [q710]
      have k13 := hb6.le hV10
      refine sx_mem _ [(bK b10 (bnCs qq.1 a10 qq.2.1.length c10) 29),(bK b0 (bnCs p (some ⟨b2,f2,none⟩) l.length c) 29),(bK b1 [(I6 e.s),(St e.l),(N6 e.n),(N6 e.v),(I6 vr),(I6 fl),(St key),(St nonce),(I6 target),(.bool id)] 33),(bK b3 [(I6 y2.t),(I6 y2.n),(N6 y2.f),(I6 y2.c),(St other)] 38),(bK b9 [(N6 p.f),(I6 p.c),(I6 p.dst.s),(St p.dst.l),(N6 p.dst.n),(N6 p.dst.v),(I6 p.src.s),(St p.src.l),(N6 p.src.n),(N6 p.src.v),(I6 p.rpt.s),(St p.rpt.l),(N6 p.rpt.n),(N6 p.rpt.v),(N6 p.time),(N6 p.seq),(N6 p.life),(N6 p.off),(N6 p.tot),(.slice a6 (l.set i9 (y2.withD other)).length c6)] 29)] (fun _ h => (h.sub (List.sublist_append_right _ _)).eqv (by kernel_rfl)) ?_
      refine zq 1 (zn (zs ?_))
      refine sx_drawnG 9 1 0 [81,82,83,84,80,85,86,12,0] [.mem (fun _ _ => True),.val (.agg #[(N6 p.f),(I6 p.c),(I6 p.dst.s),(St p.dst.l),(N6 p.dst.n),(N6 p.dst.v),(I6 p.src.s),(St p.src.l),(N6 p.src.n),(N6 p.src.v),(I6 p.rpt.s),(St p.rpt.l),(N6 p.rpt.n),(N6 p.rpt.v),(N6 p.time),(N6 p.seq),(N6 p.life),(N6 p.off),(N6 p.tot),(.slice a6 (l.set i9 (y2.withD other)).length c6)]),.val (.agg #[(I6 e.s),(St e.l),(N6 e.n),(N6 e.v),(I6 vr),(I6 fl),(St key),(St nonce),(I6 target),(.bool id)]),.mem (SealV qq),.mem (SealV qq),.mem (BnOf qq.1 qq.2.1),.val (I6 qq.2.2),.mem (fun _ _ => True),.mem (fun _ _ => True)] (fun k => k == 0 || k == 3) (fun k => k == 7 || k == 8) (Ch2 0 3 [] IdealIs fun _ _ _ => True) (Ch2 7 8 [] (OneNew (fun r => (Pt r 0)) (.cells [(U6 0),(I6 0),(I6 0),(St []),(U6 0),(U6 0),(I6 0),(St []),(U6 0),(U6 0),(I6 0),(St []),(U6 0),(U6 0),(U6 0),(U6 0),(U6 0),(U6 0),(U6 0),S0].toArray 29 (0,0))) (BnBlk qq.1 qq.2.1)) [] [] [(bK b10 (bnCs qq.1 a10 qq.2.1.length c10) 29),(bK b0 (bnCs p (some ⟨b2,f2,none⟩) l.length c) 29),(bK b1 [(I6 e.s),(St e.l),(N6 e.n),(N6 e.v),(I6 vr),(I6 fl),(St key),(St nonce),(I6 target),(.bool id)] 33),(bK b3 [(I6 y2.t),(I6 y2.n),(N6 y2.f),(I6 y2.c),(St other)] 38),(bK b9 [(N6 p.f),(I6 p.c),(I6 p.dst.s),(St p.dst.l),(N6 p.dst.n),(N6 p.dst.v),(I6 p.src.s),(St p.src.l),(N6 p.src.n),(N6 p.src.v),(I6 p.rpt.s),(St p.rpt.l),(N6 p.rpt.n),(N6 p.rpt.v),(N6 p.time),(N6 p.seq),(N6 p.life),(N6 p.off),(N6 p.tot),(.slice a6 (l.set i9 (y2.withD other)).length c6)] 29)] permE (fun _ => Ch2.start) (fun _ => Ch2.start) (Ch2.mono IdealIs.mono (fun _ _ _ _ _ _ => trivial)) (Ch2.mono (fun _ _ _ _ _ h => h) BnBlk.mono) Ch2.keep Ch2.keep (by intro k h; simp only [Bool.or_eq_true,beq_iff_eq] at h; rcases h with rfl | rfl <;> rfl) (by kernel_rfl) rfl rfl (by kernel_rfl) (by kernel_rfl) (by kernel_rfl) (by kernel_rfl) (by kernel_rfl) (by kernel_rfl) (by simp only [List.forall_mem_cons]; exact ⟨by intro v V V2 hV2 hP; (first | trivial | exact SealV.mono hV2 hP | exact BnOf.mono hV2 hP),trivial,trivial,by intro v V V2 hV2 hP; (first | trivial | exact SealV.mono hV2 hP | exact BnOf.mono hV2 hP),by intro v V V2 hV2 hP; (first | trivial | exact SealV.mono hV2 hP | exact BnOf.mono hV2 hP),by intro v V V2 hV2 hP; (first | trivial | exact SealV.mono hV2 hP | exact BnOf.mono hV2 hP),trivial,by intro v V V2 hV2 hP; (first | trivial | exact SealV.mono hV2 hP | exact BnOf.mono hV2 hP),by intro v V V2 hV2 hP; (first | trivial | exact SealV.mono hV2 hP | exact BnOf.mono hV2 hP),fun _ h => by cases h⟩) (by kernel_rfl) ⟨?_,?_,?_,?_,?_,?_,?_,?_,?_,trivial⟩ [6,8,10,11,12,86] (fun u => [(.bool false),(Pt b3 0),(Pt b10 0),(I6 qq.2.2),u 7,(I6 qq.2.2)]) (fun u => by kernel_rfl) ?_
      · refine ObG.a 0 rfl (GQ.call (show (0 : Nat) ≠ 3 by decide) (by kernel_rfl) (fun _ _ => True) rfl (fun _ _ _ _ => trivial) ⟨_,14,[],(fun u => []),rfl,rfl,rfl,(fun u => by kernel_rfl),fun u V hV hdq => ⟨#[],by kernel_rfl,fun W rest hM => ideal_any hM⟩⟩)
      · exact ObG.o 1 rfl rfl (fun σ' => oqL 1 4 b9 20 [(N6 p.f),(I6 p.c),(I6 p.dst.s),(St p.dst.l),(N6 p.dst.n),(N6 p.dst.v),(I6 p.src.s),(St p.src.l),(N6 p.src.n),(N6 p.src.v),(I6 p.rpt.s),(St p.rpt.l),(N6 p.rpt.n),(N6 p.rpt.v),(N6 p.time),(N6 p.seq),(N6 p.life),(N6 p.off),(N6 p.tot),(.slice a6 (l.set i9 (y2.withD other)).length c6)] 29 rfl (.agg #[(N6 p.f),(I6 p.c),(I6 p.dst.s),(St p.dst.l),(N6 p.dst.n),(N6 p.dst.v),(I6 p.src.s),(St p.src.l),(N6 p.src.n),(N6 p.src.v),(I6 p.rpt.s),(St p.rpt.l),(N6 p.rpt.n),(N6 p.rpt.v),(N6 p.time),(N6 p.seq),(N6 p.life),(N6 p.off),(N6 p.tot),(.slice a6 (l.set i9 (y2.withD other)).length c6)]) rfl (by kernel_rfl) (fun u => by kernel_rfl) (fun u => by kernel_rfl))
      · exact ObG.o 2 rfl rfl (fun σ' => oqL 2 2 b1 10 [(I6 e.s),(St e.l),(N6 e.n),(N6 e.v),(I6 vr),(I6 fl),(St key),(St nonce),(I6 target),(.bool id)] 33 rfl (.agg #[(I6 e.s),(St e.l),(N6 e.n),(N6 e.v),(I6 vr),(I6 fl),(St key),(St nonce),(I6 target),(.bool id)]) rfl (by kernel_rfl) (fun u => by kernel_rfl) (fun u => by kernel_rfl))
      ·
       refine ObG.a 3 rfl (GQ.take (show (0 : Nat) ≠ 3 by decide) (by kernel_rfl) (SealV qq) rfl ⟨_,13,[81,82,83],(fun u => [u 0,(.agg #[(N6 p.f),(I6 p.c),(I6 p.dst.s),(St p.dst.l),(N6 p.dst.n),(N6 p.dst.v),(I6 p.src.s),(St p.src.l),(N6 p.src.n),(N6 p.src.v),(I6 p.rpt.s),(St p.rpt.l),(N6 p.rpt.n),(N6 p.rpt.v),(N6 p.time),(N6 p.seq),(N6 p.life),(N6 p.off),(N6 p.tot),(.slice a6 (l.set i9 (y2.withD other)).length c6)]),(.agg #[(I6 e.s),(St e.l),(N6 e.n),(N6 e.v),(I6 vr),(I6 fl),(St key),(St nonce),(I6 target),(.bool id)])]),rfl,rfl,rfl,(fun u => by kernel_rfl),fun u V own hV hdq hA => ?_⟩)
       obtain ⟨eb,ib,q0,hg,rfl⟩ := hA
       refine ⟨#[u 0,(.agg #[(N6 p.f),(I6 p.c),(I6 p.dst.s),(St p.dst.l),(N6 p.dst.n),(N6 p.dst.v),(I6 p.src.s),(St p.src.l),(N6 p.src.n),(N6 p.src.v),(I6 p.rpt.s),(St p.rpt.l),(N6 p.rpt.n),(N6 p.rpt.v),(N6 p.time),(N6 p.seq),(N6 p.life),(N6 p.off),(N6 p.tot),(.slice a6 (l.set i9 (y2.withD other)).length c6)]),(.agg #[(I6 e.s),(St e.l),(N6 e.n),(N6 e.v),(I6 vr),(I6 fl),(St key),(St nonce),(I6 target),(.bool id)])],by kernel_rfl,fun W rest hM => ?_⟩
       rw [q0]
       exact (lSeal_any eA p (l.set i9 (y2.withD other)) _ _ e vr fl key nonce target id eb ib ((hE.le (View.le_trans (View.le_trans hV4 hV6) hV10)).le hV) hp9 (k13.le hV) he9 hg hM).mono fun e' W' h => h.mono fun v V' S' h => ⟨trivial,hqq2 ▸ h.1⟩
      · refine ObG.o 4 rfl rfl (fun σ' => oqP 4 rfl rfl (SealV qq) rfl [84] (fun u => [u 3]) (fun u => by kernel_rfl) (fun u V hV hdq => ⟨u 3,by kernel_rfl,(show (SealV qq) (u 3) V from hdq 3 (by kernel_rfl))⟩))
      ·
       refine ObG.o 5 rfl rfl (fun σ' => oqP 5 rfl rfl (BnOf qq.1 qq.2.1) rfl [80] (fun u => [u 4]) (fun u => by kernel_rfl) (fun u V hV hdq => ?_))
       have e4 : (SealV qq) (u 4) V := hdq 4 (by kernel_rfl)
       obtain ⟨a4,c4,q4,hb4⟩ := e4
       exact ⟨bnV qq.1 a4 qq.2.1.length c4,by rw [q4]; kernel_rfl,a4,c4,rfl,hb4⟩
      ·
       refine ObG.o 6 rfl rfl (fun σ' => oqK 6 rfl rfl (I6 qq.2.2) rfl [80] (fun u => [u 4]) (fun u => by kernel_rfl) (fun u V hV hdq => ?_))
       have e4 : (SealV qq) (u 4) V := hdq 4 (by kernel_rfl)
       obtain ⟨a4,c4,q4,hb4⟩ := e4
       rw [q4]
       show _ = _
       kernel_rfl
      · refine ObG.b 7 rfl rfl (GQ.alloc (show (7 : Nat) ≠ 8 by decide) (by kernel_rfl) rfl (fun r => (Pt r 0)) [] (fun u => []) (fun u => by kernel_rfl) ⟨_,rfl,rfl,rfl,fun u => by kernel_rfl⟩)
      ·
       refine ObG.b 8 rfl rfl (GQ.store (show (7 : Nat) ≠ 8 by decide) (by kernel_rfl) rfl ⟨_,[12,85],(fun u => [u 7,u 5]),rfl,rfl,rfl,(fun u => by kernel_rfl),fun u V b hV hdq hub => ?_⟩)
       have e5 : (BnOf qq.1 qq.2.1) (u 5) V := hdq 5 (by kernel_rfl)
       obtain ⟨a5,c5,q5,hb5⟩ := e5
       exact ⟨.cells (bnCs qq.1 a5 qq.2.1.length c5).toArray 29 (0,0),(by show stK _ _ 0 ([12,85].zip [u 7,u 5]) _ = _; rw [q5,hub]; kernel_rfl),b,a5,c5,hub,rfl,hb5⟩
      intro L14 u14 V14 SA14 SB14 hV14 hL14 hdq14 hRA14 hRB14
      obtain ⟨b14,a14,c14,q714,rfl,hb14⟩ := Ch2.got (hL14 8 (by decide)) hRB14
      rw [q714]
      have k15 := hb10.le hV14
      refine sx_mem _ [(bK b14 (bnCs qq.1 a14 qq.2.1.length c14) 29),(bK b10 (bnCs qq.1 a10 qq.2.1.length c10) 29),(bK b0 (bnCs p (some ⟨b2,f2,none⟩) l.length c) 29),(bK b1 [(I6 e.s),(St e.l),(N6 e.n),(N6 e.v),(I6 vr),(I6 fl),(St key),(St nonce),(I6 target),(.bool id)] 33),(bK b3 [(I6 y2.t),(I6 y2.n),(N6 y2.f),(I6 y2.c),(St other)] 38),(bK b9 [(N6 p.f),(I6 p.c),(I6 p.dst.s),(St p.dst.l),(N6 p.dst.n),(N6 p.dst.v),(I6 p.src.s),(St p.src.l),(N6 p.src.n),(N6 p.src.v),(I6 p.rpt.s),(St p.rpt.l),(N6 p.rpt.n),(N6 p.rpt.v),(N6 p.time),(N6 p.seq),(N6 p.life),(N6 p.off),(N6 p.tot),(.slice a6 (l.set i9 (y2.withD other)).length c6)] 29)] (fun _ h => (h.sub (List.sublist_append_right _ _)).eqv (by kernel_rfl)) ?_
      refine zq 1 (zn (zs (zB [0,5,0,0] [(b3,1)] (sx_BL 90 (y2.t == 6) (fun h5 => ?_) (fun h5 => ?_)))))
      ·
       have h5d := eq_of_beq h5
       refine zq 9 (zn (sx_T (zs (zr ?_))))
       have hne9 : (qq.2.2 != 0) = true := by rw [← hqq]; refine seal_changes ?_; rw [show getB l target = (y2,true) from idxB_get (by rw [hi9]; omega) (by rw [hi9,Int.toNat_natCast]; exact hy2)]; unfold changesB; rw [show (y2,true).1 = y2 from rfl,h5]; simp
       refine zq 3 (sx_E 102 (.bool (qq.2.2 != 0)) (.bool true) (congrArg Value.bool hne9) ?_)
       refine zq 4 (zn (sx_ret (sx_Z [6] [(.bool (qq.2.2 != 0))] (fun W' hM => ?_))))
       exact ⟨by simp only [resV,heq9,h0,h1,h2,h3,h4,h5,hne9,bs,if_true,if_false,cond_true,cond_false,reduceIte],hM.below⟩
      ·
       have h5d := beq_eq_false_iff_ne.1 h5
       refine sx_B [0,5,0,0,0] [(b3,1)] (sx_BL 95 (y2.t == 7) (fun h6 => ?_) (fun h6 => ?_))
       ·
        have h6d := eq_of_beq h6
        refine zq 4 (zn (sx_T (zs (zr ?_))))
        have hne9 : (qq.2.2 != 0) = true := by rw [← hqq]; refine seal_changes ?_; rw [show getB l target = (y2,true) from idxB_get (by rw [hi9]; omega) (by rw [hi9,Int.toNat_natCast]; exact hy2)]; unfold changesB; rw [show (y2,true).1 = y2 from rfl,h6]; simp
        refine zq 3 (sx_E 102 (.bool (qq.2.2 != 0)) (.bool true) (congrArg Value.bool hne9) ?_)
        refine zq 4 (zn (sx_ret (sx_Z [6] [(.bool (qq.2.2 != 0))] (fun W' hM => ?_))))
        exact ⟨by simp only [resV,heq9,h0,h1,h2,h3,h4,h5,h6,hne9,bs,if_true,if_false,cond_true,cond_false,reduceIte],hM.below⟩
       ·
        have h6d := beq_eq_false_iff_ne.1 h6
        refine sx_B [0,5,0,0] [(b3,1)] (zn (sx_D (y2.t == 10) (fun h7 => ?_) (fun h7 => ?_)))
        ·
         have h7d := eq_of_beq h7
         refine zs (zr ?_)
         have hne9 : (qq.2.2 != 0) = true := by rw [← hqq]; refine seal_changes ?_; rw [show getB l target = (y2,true) from idxB_get (by rw [hi9]; omega) (by rw [hi9,Int.toNat_natCast]; exact hy2)]; unfold changesB; rw [show (y2,true).1 = y2 from rfl,h7]; simp
         refine zq 3 (sx_E 102 (.bool (qq.2.2 != 0)) (.bool true) (congrArg Value.bool hne9) ?_)
         refine zq 4 (zn (sx_ret (sx_Z [6] [(.bool (qq.2.2 != 0))] (fun W' hM => ?_))))
         exact ⟨by simp only [resV,heq9,h0,h1,h2,h3,h4,h5,h6,h7,hne9,bs,if_true,if_false,cond_true,cond_false,reduceIte],hM.below⟩
        ·
         refine zk (zQ 3 (sx_E 108 (.bool (qq.2.2 == qq.2.2)) (.bool true) (congrArg Value.bool heq9) ?_))
         refine sx_B [0,2,1] [(b10,20),(b14,20)] (sx_C 15 #[(bnV qq.1 a10 qq.2.1.length c10),(bnV qq.1 a14 qq.2.1.length c14)] (.bool true) (fun W hM => rSame13_any qq.1 qq.2.1 _ _ _ _ W hM.view k15 hb14) ?_)
         refine zq 2 (zn (sx_ret (sx_Z [6] [(.bool true)] (fun W' hM => ?_))))
         exact ⟨rfl,hM.below⟩
end Go.Proofs.YtcdjakemdlinhaaGreatDoor.Sx
namespace Go.Proofs.YtcdjakemdlinhaaGreatDoor
open Go.ChangeShapes Go.WideShapes Go.ChangeAt Go.RowKit
theorem law_lift_laid {H : Type} {enc : TypeId × Value → H} {C : Checked} {os : Os} {F : FuncId} {f : Func} {s : ChangeSpec} {apart fresh handsOn : Bool} {tb : TypeId} {L : List (String × DataW Unit)}
  (own : ownKnob C.prog.godebug = none) (started : os.Started) (noInit : C.prog.inits.idxOf? F = none) (hf : C.prog.funcs[F]? = some f)
  (witness : ∃ (w : World) (tape : Tape) (i : Input), w.os = os ∧ (w.forCall tape i).Shaped C.prog ∧ i.vars = [] ∧ Input.okWide C.prog (w.forCall tape i) .any w.heap.size F i ∧
   ((s.pre enc C.prog f [] apart (w.forCall tape i).memory i.args ∧ laidMetH C.prog L (w.forCall tape i).memory) ∧ sizedMet enc C.prog f (OpenSpec.ofChange s) apart (w.forCall tape i).memory i.args) ∧ ({} : Assume).holds C.prog (lone (Frame.enter C.prog F i.args .normal) [] (w.forCall tape i)))
  (hl : laidOutB C.prog = true) (hrd : (f.params.toList.all fun t => C.prog.readableRec t && decide (t < C.prog.types.size)) = true)
  (hvars : s.vars = []) (hr : f.resultTypes = #[tb]) (hbool : C.prog.underlying tb = some .bool)
  (hfn : ∀ ds : List (DataW H), ds.length = f.params.toList.length → (s.fn H ds).results = [.lit (.bool true)] ∧ (s.fn H ds).args = ds ∧ (s.fn H ds).vars = [])
  (walk : ∀ (W : World) (base : Nat) (args : Array Value) (ds : List (DataW H)) (ps : List MemPlace), laidMetH C.prog L W →
   (∀ (j : Nat) t v, f.params[j]? = some t → args[j]? = some v → Value.okWide C.prog W .any base t v) →
   DataW.TrodAll enc C.prog W 0 (fun _ => true) true f.params.toList args.toList ds ps →
   (∀ p ∈ ps, p.block < W.heap.size) →
   Calls C.prog F args W fun e W' => e = .returned (.bool true) ∧ Below W.heap.size W W') :
  ReturnsInHanded {} C os F .any (fun w args => (s.pre enc C.prog f [] apart w args ∧ laidMetH C.prog L w) ∧ sizedMet enc C.prog f (OpenSpec.ofChange s) apart w args) (s.post enc C.prog f apart fresh handsOn false) := by
 refine returnsInHanded_of_change_and (X := fun w _ => laidMetH C.prog L w) (fun _ _ _ hh h => h.of_heap hh) own started noInit hf witness ?_
 intro W base args ds gs before hval hW _ _ hL _
 have hW0 := hW
 obtain ⟨p, q, hA, hV, rfl, _, _⟩ := hW
 refine (walk W base args ds p hL hval hA fun x hx => hW0.lt x (List.mem_append_left _ hx)).mono fun e W' ⟨he, hb⟩ => ?_
 have hlen : ∀ {ts : List TypeId} {vs : List Value} {ds : List (DataW H)} {ps : List MemPlace}, DataW.TrodAll enc C.prog W 0 (fun _ => true) true ts vs ds ps → ds.length = ts.length := by
  intro ts
  induction ts with
  | nil => intro vs ds ps h; obtain ⟨_, rfl, _⟩ := trodAll_nil h; rfl
  | cons t ts ih => intro vs ds ps h; obtain ⟨v, vs', d, ds', p, q, _, rfl, _, _, hrest⟩ := trodAll_cons h; simp [ih hrest]
 exact ⟨_, he, law_post hl hrd hvars hr hbool (hfn ds (hlen hA)) hW0 hb⟩
end Go.Proofs.YtcdjakemdlinhaaGreatDoor
namespace Go.Proofs.YtcdjakemdlinhaaGreatDoor
open Go.ChangeShapes Go.WideShapes Go.ChangeAt Go.RowKit Go.Lib
def laidL : List (String × DataW Unit) := [("dromond/asb.errForm", Rows.laid_dromond_asb_errForm)]
def GlobAt (W : World) : Prop := ∃ eA, Sx.EF (Sx.allU W) eA
theorem star_err : "*" ++ "errors.errorString" = "*errors.errorString" := by decide
set_option maxRecDepth 100000 in
theorem row_err (u : TypeId) (h : Tryz.prog.typeName? 3 u = some "*errors.errorString") : u = 338 :=
 typeName_ptr_named (nm := "errors.errorString") (by rw [star_err]; kernel_rfl) (by kernel_rfl) (by decide) u (by rw [star_err]; exact h)
set_option maxRecDepth 100000 in
theorem laid_glob {W : World} (h : laidMetH Tryz.prog laidL W) : GlobAt W := by
 rw [MakeChecks.laidMetH_plain _ _ _ (by kernel_rfl)] at h
 have hrow : ∀ u, Tryz.prog.typeName? 3 u = some "*errors.errorString" → u = 338 := row_err
 obtain ⟨a1, s1, hv1, _⟩ := laid_sentinel (g := 0) (ti := 208) (tp := 338) (te := 431) (ts := 9) h (by kernel_rfl) (by kernel_rfl) Tryz.underlying208 hrow Tryz.underlying338 Tryz.underlying431 rfl rfl Tryz.underlying9 (by kernel_rfl) (by kernel_rfl)
 exact ⟨a1, (World.var?_cell (g := 0) (by kernel_rfl) hv1 0).trans rfl⟩
end Go.Proofs.YtcdjakemdlinhaaGreatDoor
