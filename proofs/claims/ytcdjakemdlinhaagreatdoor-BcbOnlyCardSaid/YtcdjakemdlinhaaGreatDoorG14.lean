/-
  Several texts in one: Lbo2 FrameL FrameB.
  Conditions: named at each.
-/
import Derived.Test.YtcdjakemdlinhaaGreatDoorG13
import Derived.LaidMore
import Derived.Handed
import Derived.LaidLaws
import Derived.Stop.Joined
import Derived.Stop.LaidErr
import Derived.ChangeBears2
set_option maxHeartbeats 16000000
set_option linter.unusedSimpArgs false
set_option linter.unusedVariables false
set_option linter.unusedSectionVars false
namespace Go.Proofs.YtcdjakemdlinhaaGreatDoor.Sx
open Go.ChangeShapes Go.WideShapes Go.ChangeAt Go.RowKit Go.Deep
theorem aI5 (eA : Addr) (p : Pr) (l : List Bk) (a : Option Addr) (c : Nat) (q : Pr) (m : List Bk) (d : Option Addr) (g : Nat) (e : Ei) (vr fl : Int) (key nonce : List UInt8) (target : Int) (id : Bool) (key2 : List UInt8) (w : World) {U : View} (hU : See U w) (hE : EF U eA) (hp0 : p.ok0) (he0 : e.ok0) (hl0 : lQ U a l) (hq0 : q.ok0) (hm0 : lQ U d m) (hmg : m.length ≤ g) :
    CP 8 #[(.agg #[(.int .u64 (p.f : Int)), (.int .i64 p.c), (.int .i64 p.dst.s), (.string (B p.dst.l)), (.int .u64 (p.dst.n : Int)), (.int .u64 (p.dst.v : Int)), (.int .i64 p.src.s), (.string (B p.src.l)), (.int .u64 (p.src.n : Int)), (.int .u64 (p.src.v : Int)), (.int .i64 p.rpt.s), (.string (B p.rpt.l)), (.int .u64 (p.rpt.n : Int)), (.int .u64 (p.rpt.v : Int)), (.int .u64 (p.time : Int)), (.int .u64 (p.seq : Int)), (.int .u64 (p.life : Int)), (.int .u64 (p.off : Int)), (.int .u64 (p.tot : Int)), (.slice a l.length c), (.int .u64 (q.f : Int)), (.int .i64 q.c), (.int .i64 q.dst.s), (.string (B q.dst.l)), (.int .u64 (q.dst.n : Int)), (.int .u64 (q.dst.v : Int)), (.int .i64 q.src.s), (.string (B q.src.l)), (.int .u64 (q.src.n : Int)), (.int .u64 (q.src.v : Int)), (.int .i64 q.rpt.s), (.string (B q.rpt.l)), (.int .u64 (q.rpt.n : Int)), (.int .u64 (q.rpt.v : Int)), (.int .u64 (q.time : Int)), (.int .u64 (q.seq : Int)), (.int .u64 (q.life : Int)), (.int .u64 (q.off : Int)), (.int .u64 (q.tot : Int)), (.slice d m.length g)]), wyV e vr fl key nonce target id, .string (B key2)] w (Ret (.bool true) w) := by
 obtain ⟨qq,hqq⟩ : ∃ qq,dT p l e vr fl key nonce target = qq := ⟨_,rfl⟩
 refine eG 223 Tryz.func8 hU ?_
 refine zs (zr (cJ (fun b0 => (cJ (fun b1 => (zq 1 (zn (zs ?_))))))))
 refine aH8 8 0 0 [25,26,27,28,7,8,0,1] [.val (Pt b0 0),.val (bnV p a l.length c),.val (Pt b0 20),.val (bnV q d m.length g),.mem (fun _ _ => True),.mem (fun _ _ => True),.mem (fun _ _ => True),.mem (fun _ _ => True)] (fun k => k == 4 || k == 6) (fun k => k == 5 || k == 7) (Ch2 4 6 [] (aAv (fun r => (Pt r 0)) (.cells Z20.toArray 29 (0,0))) (aOo p l a c)) (Ch2 5 7 [] (aAv (fun r => (Pt r 0)) (.cells Z20.toArray 29 (0,0))) (aOo q m d g)) [] [] [(bK b0 [(N6 p.f),(I6 p.c),(I6 p.dst.s),(St p.dst.l),(N6 p.dst.n),(N6 p.dst.v),(I6 p.src.s),(St p.src.l),(N6 p.src.n),(N6 p.src.v),(I6 p.rpt.s),(St p.rpt.l),(N6 p.rpt.n),(N6 p.rpt.v),(N6 p.time),(N6 p.seq),(N6 p.life),(N6 p.off),(N6 p.tot),(.slice a l.length c),(N6 q.f),(I6 q.c),(I6 q.dst.s),(St q.dst.l),(N6 q.dst.n),(N6 q.dst.v),(I6 q.src.s),(St q.src.l),(N6 q.src.n),(N6 q.src.v),(I6 q.rpt.s),(St q.rpt.l),(N6 q.rpt.n),(N6 q.rpt.v),(N6 q.time),(N6 q.seq),(N6 q.life),(N6 q.off),(N6 q.tot),(.slice d m.length g)] 47),(bK b1 [(I6 e.s),(St e.l),(N6 e.n),(N6 e.v),(I6 vr),(I6 fl),(St key),(St nonce),(I6 target),(.bool id)] 33)] aMq (fun _ => Ch2.start) (fun _ => Ch2.start) (Ch2.mono (fun _ _ _ _ _ h => h) (fun _ _ _ _ _ h => h)) (Ch2.mono (fun _ _ _ _ _ h => h) (fun _ _ _ _ _ h => h)) Ch2.keep Ch2.keep (by intro k h; simp only [Bool.or_eq_true,beq_iff_eq] at h; rcases h with rfl | rfl <;> rfl) kR rfl rfl kR kR kR kR kR kR (by simp only [List.forall_mem_cons]; exact ⟨trivial,trivial,trivial,trivial,by intro v V V2 hV2 hP; trivial,by intro v V V2 hV2 hP; trivial,by intro v V V2 hV2 hP; trivial,by intro v V V2 hV2 hP; trivial,fun _ h => by cases h⟩) kR ⟨?_,?_,?_,?_,?_,?_,?_,?_,trivial⟩ [2,4,6,7,8] (fun u => [(St key2),(Pt b1 0),(.bool false),u 4,u 5]) kF ?_
 · exact ObG.o 0 rfl rfl (fun σ' => oqQ 0 rfl (Pt b0 0) (Pt b0 0) rfl rfl kF kF)
 · exact ObG.o 1 rfl rfl (fun σ' => oqL 1 0 b0 20 [(N6 p.f),(I6 p.c),(I6 p.dst.s),(St p.dst.l),(N6 p.dst.n),(N6 p.dst.v),(I6 p.src.s),(St p.src.l),(N6 p.src.n),(N6 p.src.v),(I6 p.rpt.s),(St p.rpt.l),(N6 p.rpt.n),(N6 p.rpt.v),(N6 p.time),(N6 p.seq),(N6 p.life),(N6 p.off),(N6 p.tot),(.slice a l.length c),(N6 q.f),(I6 q.c),(I6 q.dst.s),(St q.dst.l),(N6 q.dst.n),(N6 q.dst.v),(I6 q.src.s),(St q.src.l),(N6 q.src.n),(N6 q.src.v),(I6 q.rpt.s),(St q.rpt.l),(N6 q.rpt.n),(N6 q.rpt.v),(N6 q.time),(N6 q.seq),(N6 q.life),(N6 q.off),(N6 q.tot),(.slice d m.length g)] 47 rfl (bnV p a l.length c) rfl kR kF kF)
 · exact ObG.o 2 rfl rfl (fun σ' => oqQ 2 rfl (Pt b0 20) (Pt b0 20) rfl rfl kF kF)
 · exact ObG.o 3 rfl rfl (fun σ' => oqL 3 0 b0 20 [(N6 p.f),(I6 p.c),(I6 p.dst.s),(St p.dst.l),(N6 p.dst.n),(N6 p.dst.v),(I6 p.src.s),(St p.src.l),(N6 p.src.n),(N6 p.src.v),(I6 p.rpt.s),(St p.rpt.l),(N6 p.rpt.n),(N6 p.rpt.v),(N6 p.time),(N6 p.seq),(N6 p.life),(N6 p.off),(N6 p.tot),(.slice a l.length c),(N6 q.f),(I6 q.c),(I6 q.dst.s),(St q.dst.l),(N6 q.dst.n),(N6 q.dst.v),(I6 q.src.s),(St q.src.l),(N6 q.src.n),(N6 q.src.v),(I6 q.rpt.s),(St q.rpt.l),(N6 q.rpt.n),(N6 q.rpt.v),(N6 q.time),(N6 q.seq),(N6 q.life),(N6 q.off),(N6 q.tot),(.slice d m.length g)] 47 rfl (bnV q d m.length g) rfl kR kF kF)
 · refine ObG.a 4 rfl (GQ.alloc (show (4 : Nat) ≠ 6 by decide) kR rfl (fun r => (Pt r 0)) [] (fun u => []) kF ⟨_,rfl,rfl,rfl,kF⟩)
 · refine ObG.b 5 rfl rfl (GQ.alloc (show (5 : Nat) ≠ 7 by decide) kR rfl (fun r => (Pt r 0)) [] (fun u => []) kF ⟨_,rfl,rfl,rfl,kF⟩)
 ·
  refine ObG.a 6 rfl (GQ.store (show (4 : Nat) ≠ 6 by decide) kR rfl ⟨_,[7,26],(fun u => [u 4,(bnV p a l.length c)]),rfl,rfl,rfl,kF,fun u V b hV hdq hub => ?_⟩)
  exact ⟨.cells (eB p a l.length c).toArray 29 (0,0),(by show stK _ _ 0 ([7,26].zip [u 4,(bnV p a l.length c)]) _ = _; rw [hub]; kernel_rfl),b,hub,rfl⟩
 ·
  refine ObG.b 7 rfl rfl (GQ.store (show (5 : Nat) ≠ 7 by decide) kR rfl ⟨_,[8,28],(fun u => [u 5,(bnV q d m.length g)]),rfl,rfl,rfl,kF,fun u V b hV hdq hub => ?_⟩)
  exact ⟨.cells (eB q d m.length g).toArray 29 (0,0),(by show stK _ _ 0 ([8,28].zip [u 5,(bnV q d m.length g)]) _ = _; rw [hub]; kernel_rfl),b,hub,rfl⟩
 intro L2 u2 V2 SA2 SB2 hV2 hL2 hdq2 hRA2 hRB2
 obtain ⟨bA2,qA2,rfl⟩ := Ch2.got (hL2 6 (by decide)) hRA2
 obtain ⟨bB2,qB2,rfl⟩ := Ch2.got (hL2 7 (by decide)) hRB2
 rw [qA2,qB2]
 have k3 := hl0.le hV2
 have k4 := hm0.le hV2
 refine lV _ [(bK bA2 (eB p a l.length c) 29),(bK bB2 (eB q d m.length g) 29),(bK b0 [(N6 p.f),(I6 p.c),(I6 p.dst.s),(St p.dst.l),(N6 p.dst.n),(N6 p.dst.v),(I6 p.src.s),(St p.src.l),(N6 p.src.n),(N6 p.src.v),(I6 p.rpt.s),(St p.rpt.l),(N6 p.rpt.n),(N6 p.rpt.v),(N6 p.time),(N6 p.seq),(N6 p.life),(N6 p.off),(N6 p.tot),(.slice a l.length c),(N6 q.f),(I6 q.c),(I6 q.dst.s),(St q.dst.l),(N6 q.dst.n),(N6 q.dst.v),(I6 q.src.s),(St q.src.l),(N6 q.src.n),(N6 q.src.v),(I6 q.rpt.s),(St q.rpt.l),(N6 q.rpt.n),(N6 q.rpt.v),(N6 q.time),(N6 q.seq),(N6 q.life),(N6 q.off),(N6 q.tot),(.slice d m.length g)] 47),(bK b1 [(I6 e.s),(St e.l),(N6 e.n),(N6 e.v),(I6 vr),(I6 fl),(St key),(St nonce),(I6 target),(.bool id)] 33)] (fun _ h => h.eqv kR) ?_
 refine zn (zs (zs (zr (dL (fun W hM => qJ eA W hM.view (hE.le hV2)) (cU [0,0,1,4] [(bA2,20),(b1,10)] (dA 11 #[(bnV p a l.length c),(.agg #[(I6 e.s),(St e.l),(N6 e.n),(N6 e.v),(I6 vr),(I6 fl),(St key),(St nonce),(I6 target),(.bool id)])] (.bool (aGj p l e key nonce)) (fun W hM => aF9 p l _ _ e vr fl key nonce target id W hM.view k3) ?_))))))
 refine zq 3 (aK 37 (!(aGj p l e key nonce)) (fun h0 => ?_) (fun h0 => ?_))
 ·
  refine zq 10 (zn (dF (zs (zr (dL (fun W hM => qJ eA W hM.view (hE.le hV2)) (zq 1 (zn (aA (jJ 6)))))))))
 ·
  refine cU [2,4] [(bB2,20),(b1,10)] (dA 11 #[(bnV q d m.length g),(.agg #[(I6 e.s),(St e.l),(N6 e.n),(N6 e.v),(I6 vr),(I6 fl),(St key),(St nonce),(I6 target),(.bool id)])] (.bool (aGj q m e key nonce)) (fun W hM => aF9 q m _ _ e vr fl key nonce target id W hM.view k4) ?_)
  refine zq 3 (aK 43 (!(aGj q m e key nonce)) (fun h1 => ?_) (fun h1 => ?_))
  ·
   refine zq 4 (zn (dF (zs (zr (dL (fun W hM => qJ eA W hM.view (hE.le hV2)) (zq 1 (zn (aA (jJ 6)))))))))
  ·
   refine zq 4 (zn (cD (decide ((((key2).length : Nat) : Int) > 100)) (fun h2 => ?_) (fun h2 => ?_)))
   ·
    refine zs (zr (dL (fun W hM => qJ eA W hM.view (hE.le hV2)) (zq 1 (zn (aA (jJ 6))))))
   ·
    have h2d := of_decide_eq_false h2
    refine zk (zs (zr ?_))
    obtain ⟨hLl,hDl,hpl,hel⟩ := aEf hp0 he0 h0
    obtain ⟨hLm,hDm,hqm,_⟩ := aEf hq0 he0 h1
    refine aKp 18 #[(.bool true)] (aNL) (fun W hM => aLd hM) (fun v5 V5 s5 hV5 hP5 => ?_)
    have k6 := k3.le hV5
    have k7 := k4.le hV5
    obtain ⟨eb5,ib5,rfl,hg5,rfl⟩ := hP5
    refine zq 3 (cJ (fun b8 => (zq 1 (aY 5 b8 (zn (zB [0,2,5] [(bA2,20),(b1,10)] (gF 0 (bK ib5 [S0] 76) 13 #[(Pt eb5 0),(bnV p a l.length c),(.agg #[(I6 e.s),(St e.l),(N6 e.n),(N6 e.v),(I6 vr),(I6 fl),(St key),(St nonce),(I6 target),(.bool id)])] ((fun v V S => aMQ qq v V ∧ oX (aBO p l e vr fl key nonce target) ib5 (En.cs (aKb p l vr fl key nonce target)) V S)) (fun W hM => (aI4 eA p l _ _ e vr fl key nonce target id eb5 ib5 (hE.le (View.le_trans hV2 hV5)) hpl (k6.up oW fun x hx => by have := hDl x hx; omega) hel hg5 hM).mono fun e' W' h => h.mono fun v V' S' h => ⟨hqq ▸ h.1,h.2⟩) (fun v9 V9 s9 hV9 hP9 => ?_))))))))
    have k10 := k6.le hV9
    have k11 := k7.le hV9
    obtain ⟨⟨a9,c9,rfl,hb9⟩,ht9⟩ := hP9
    refine lV _ ([(bK bA2 (eB p a l.length c) 29),(bK bB2 (eB q d m.length g) 29),(bK b0 [(N6 p.f),(I6 p.c),(I6 p.dst.s),(St p.dst.l),(N6 p.dst.n),(N6 p.dst.v),(I6 p.src.s),(St p.src.l),(N6 p.src.n),(N6 p.src.v),(I6 p.rpt.s),(St p.rpt.l),(N6 p.rpt.n),(N6 p.rpt.v),(N6 p.time),(N6 p.seq),(N6 p.life),(N6 p.off),(N6 p.tot),(.slice a l.length c),(N6 q.f),(I6 q.c),(I6 q.dst.s),(St q.dst.l),(N6 q.dst.n),(N6 q.dst.v),(I6 q.src.s),(St q.src.l),(N6 q.src.n),(N6 q.src.v),(I6 q.rpt.s),(St q.rpt.l),(N6 q.rpt.n),(N6 q.rpt.v),(N6 q.time),(N6 q.seq),(N6 q.life),(N6 q.off),(N6 q.tot),(.slice d m.length g)] 47),(bK b1 [(I6 e.s),(St e.l),(N6 e.n),(N6 e.v),(I6 vr),(I6 fl),(St key),(St nonce),(I6 target),(.bool id)] 33),(bK b8 [(.bool true),S0] 54)] ++ s9) (fun _ h => (h.perm List.perm_append_comm).eqv kR) ?_
    refine zq 3 (dN 5 (fun b12 => ?_))
    refine aY 5 b12 (zq 1 (zn (zs (zQ 3 (aK 62 (qq.2.2 != 0) (fun h3 => ?_) (fun h3 => ?_))))))
    ·
     refine zq 5 (zn (dF (zQ 1 (zn (aA (jJ 6))))))
    ·
     have h3d := bne_eq_false_iff_eq.1 h3
     refine cU [0,2,0,0,0] [(bB2,1)] (zn (cD ((m.length : Int) == 0) (fun h4 => ?_) (fun h4 => ?_)))
     ·
      refine zQ 1 (zn (aA (jJ 6)))
     ·
      have h4d := beq_eq_false_iff_ne.1 h4
      refine zk (zs (zs (zr ?_)))
      have hok9 : (dT p l e vr fl key nonce target).2.2 = 0 := by rw [hqq]; simpa using h3
      obtain ⟨hbr9,hei9,hbz9,hsp9,hbs9,hsb9,hsr9⟩ := aAZ hok9
      have hq1 : qq.1 = p := by rw [← hqq,hsr9]
      have hq2 : qq.2.1 = (iZ l e vr fl nonce target) := by rw [← hqq,hsr9]
      obtain ⟨hql,hqu⟩ : 2 ≤ qq.2.1.length ∧ qq.2.1.length ≤ 20 := by have := aFU hok9; rw [hq2]; omega
      have hqs : qq.2.1[(qq.2.1.length - 2)]? = some (gT l e vr fl nonce target) := by rw [hq2]; exact aKu hok9
      obtain ⟨is9,his9,hit9⟩ := aKv hok9
      rw [← hq2] at his9 hit9
      obtain ⟨hf0,hf8,htn9,hgt9⟩ := fF hbz9
      obtain ⟨j9,y9,hj9,hy9,hgy9⟩ := mG hgt9
      have hjl9 := (List.getElem?_eq_some_iff.1 hy9).1
      have htt9 : (target != 0) = true := by simpa using htn9
      have hTS : aN0 ib5 (En.cs (aKb p l vr fl key nonce target)) V9 s9 := by have h := ht9; unfold oX at h; rw [hsb9,if_pos rfl] at h; exact h
      obtain ⟨aT,cT,rfl,hrT⟩ := hTS
      refine lV _ [(bK bA2 (eB p a l.length c) 29),(bK bB2 (eB q d m.length g) 29),(bK b0 [(N6 p.f),(I6 p.c),(I6 p.dst.s),(St p.dst.l),(N6 p.dst.n),(N6 p.dst.v),(I6 p.src.s),(St p.src.l),(N6 p.src.n),(N6 p.src.v),(I6 p.rpt.s),(St p.rpt.l),(N6 p.rpt.n),(N6 p.rpt.v),(N6 p.time),(N6 p.seq),(N6 p.life),(N6 p.off),(N6 p.tot),(.slice a l.length c),(N6 q.f),(I6 q.c),(I6 q.dst.s),(St q.dst.l),(N6 q.dst.n),(N6 q.dst.v),(I6 q.src.s),(St q.src.l),(N6 q.src.n),(N6 q.src.v),(I6 q.rpt.s),(St q.rpt.l),(N6 q.rpt.n),(N6 q.rpt.v),(N6 q.time),(N6 q.seq),(N6 q.life),(N6 q.off),(N6 q.tot),(.slice d m.length g)] 47),(bK b1 [(I6 e.s),(St e.l),(N6 e.n),(N6 e.v),(I6 vr),(I6 fl),(St key),(St nonce),(I6 target),(.bool id)] 33),(bK b8 [(.bool true),S0] 54),(bK b12 (eB qq.1 a9 qq.2.1.length c9) 29),(bK ib5 [(.slice aT 1 cT)] 76)] (fun _ h => h.eqv kR) ?_
      refine iE [(bK bA2 (eB p a l.length c) 29),(bK bB2 (eB q d m.length g) 29),(bK b0 [(N6 p.f),(I6 p.c),(I6 p.dst.s),(St p.dst.l),(N6 p.dst.n),(N6 p.dst.v),(I6 p.src.s),(St p.src.l),(N6 p.src.n),(N6 p.src.v),(I6 p.rpt.s),(St p.rpt.l),(N6 p.rpt.n),(N6 p.rpt.v),(N6 p.time),(N6 p.seq),(N6 p.life),(N6 p.off),(N6 p.tot),(.slice a l.length c),(N6 q.f),(I6 q.c),(I6 q.dst.s),(St q.dst.l),(N6 q.dst.n),(N6 q.dst.v),(I6 q.src.s),(St q.src.l),(N6 q.src.n),(N6 q.src.v),(I6 q.rpt.s),(St q.rpt.l),(N6 q.rpt.n),(N6 q.rpt.v),(N6 q.time),(N6 q.seq),(N6 q.life),(N6 q.off),(N6 q.tot),(.slice d m.length g)] 47),(bK b1 [(I6 e.s),(St e.l),(N6 e.n),(N6 e.v),(I6 vr),(I6 fl),(St key),(St nonce),(I6 target),(.bool id)] 33),(bK b8 [(.bool true),S0] 54),(bK b12 (eB qq.1 a9 qq.2.1.length c9) 29)] [] ib5 [(.slice aT 1 cT)] 76 kR (fun V13 hV13 hR13 => ?_)
      have k14 := k10.le hV13
      have k15 := k11.le hV13
      have k16 := hb9.le hV13
      have k17 := hrT.le hV13
      refine cU [0,6,0,0,0] [(b12,1)] (eE 72 (.bool (decide ((qq.2.1.length : Int) < 2))) (.bool false) (congrArg Value.bool (decide_eq_false oW)) ?_)
      refine cU [6,0,4] [(b12,20),(b1,1)] (dA 9 #[(bnV qq.1 a9 qq.2.1.length c9),(I6 target)] (I6 (is9 : Int)) (fun W hM => his9 ▸ lM qq.1 qq.2.1 _ _ target W hM.view (k16).to0) ?_)
      refine zq 2 (zn (eS (decide ((is9 : Int) < 0)) (decide_eq_false oW) ?_))
      refine zk (zB [0,6,0,6,0,0] [(b12,1),(b12,1)] (eE 84 (I6 (IntKind.i64.wrap ((qq.2.1.length : Int) - 2))) (I6 ((qq.2.1.length - 2 : Nat) : Int)) (congrArg (Value.int .i64) (aFI 2 rfl (by first | omega | (rw [List.length_set]; omega)) (by first | omega | (rw [List.length_set]; omega)))) ?_))
      obtain ⟨y18,hy18⟩ : ∃ y,(qq.2.1)[(qq.2.1.length - 2)]? = some y := ⟨(qq.2.1)[(qq.2.1.length - 2)]'oW,List.getElem?_eq_getElem _⟩
      obtain ⟨b18,f18,rfl,hU18⟩ := k16.at_ (qq.2.1.length - 2) y18 hy18
      have hsy18 : y18 = gT l e vr fl nonce target := by rw [hqs] at hy18; exact (Option.some.inj hy18).symm
      refine cH (.pointer (some ⟨b18,f18 + (qq.2.1.length - 2) * 5,none⟩)) (rIx 38 rfl b18 f18 qq.2.1.length c9 (qq.2.1.length - 2) 5) ?_
      refine zU b18 (f18 + (qq.2.1.length - 2) * 5) y18.cs hU18 38 (.tmp 85) _ Tryz.underlying38 rfl ?_
      refine cJ (fun b19 => (aY 6 b19 (zn (zB [2,0,4] [(bB2,20),(b1,1)] (dA 9 #[(bnV q d m.length g),(I6 target)] (I6 (gH m target)) (fun W hM => lM q m _ _ target W hM.view k15) ?_)))))
      refine zq 1 (zn (zs (zB [2,0,7] [(bB2,20),(b19,1)] (dA 9 #[(bnV q d m.length g),(I6 y18.n)] (I6 (gH m y18.n)) (fun W hM => lM q m _ _ y18.n W hM.view k15) ?_))))
      refine zq 2 (aK 96 (decide ((gH m y18.n) ≥ 0)) (fun h5 => ?_) (fun h5 => ?_))
      ·
       refine zq 3 (zn (dF (zQ 1 (zn (aA (jJ 6))))))
      ·
       have h5d := of_decide_eq_false h5
       refine zq 3 (zn (cD (decide ((gH m target) < 0)) (fun h6 => ?_) (fun h6 => ?_)))
       ·
        refine zQ 1 (zn (aA (jJ 6)))
       ·
        have h6d := of_decide_eq_false h6
        refine zk (zs ?_)
        obtain ⟨i9,hi9,hil9⟩ := aMz h6
        have hns9 : gH m ((dX l : Nat) : Int) < 0 := by have h := h5; rw [hsy18] at h; have h2 := of_decide_eq_false h; exact Int.not_le.1 h2
        have hft9 : (((dX l : Nat) : Int) == target) = false := by rw [beq_eq_false_iff_ne]; intro h; rw [h,hi9] at hns9; omega
        obtain ⟨y20,hy20⟩ : ∃ y,(qq.2.1)[is9]? = some y := ⟨(qq.2.1)[is9]'oW,List.getElem?_eq_getElem _⟩
        obtain ⟨b20,f20,e20,hU20⟩ := k16.at_ is9 y20 hy20
        cases e20
        have hzy20 : y20 = (aJ l target).1.withD (Eng.aI 1 (aJ l target).1.d.length) := by have h1 := aFT hok9 hft9; rw [← hq2] at h1; rw [sV (by rw [his9]; omega) (by rw [his9,Int.toNat_natCast]; exact hy20)] at h1; exact congrArg Prod.fst h1
        refine aDz 9 1 0 [100,101,102,103,104,105,106,107,15] [.val (Pt b12 19),.val (Sl b18 f18 qq.2.1.length c9),.val (bnV qq.1 (some ⟨b18,f18,none⟩) qq.2.1.length c9),.val (Pt b1 8),.val (I6 target),.val (I6 (is9 : Int)),.val (Pt b18 (f18 + is9 * 5)),.val (y20.V),.mem (fun _ _ => True)] 8 [] [(bK bA2 (eB p a l.length c) 29),(bK bB2 (eB q d m.length g) 29),(bK b0 [(N6 p.f),(I6 p.c),(I6 p.dst.s),(St p.dst.l),(N6 p.dst.n),(N6 p.dst.v),(I6 p.src.s),(St p.src.l),(N6 p.src.n),(N6 p.src.v),(I6 p.rpt.s),(St p.rpt.l),(N6 p.rpt.n),(N6 p.rpt.v),(N6 p.time),(N6 p.seq),(N6 p.life),(N6 p.off),(N6 p.tot),(.slice a l.length c),(N6 q.f),(I6 q.c),(I6 q.dst.s),(St q.dst.l),(N6 q.dst.n),(N6 q.dst.v),(I6 q.src.s),(St q.src.l),(N6 q.src.n),(N6 q.src.v),(I6 q.rpt.s),(St q.rpt.l),(N6 q.rpt.n),(N6 q.rpt.v),(N6 q.time),(N6 q.seq),(N6 q.life),(N6 q.off),(N6 q.tot),(.slice d m.length g)] 47),(bK b1 [(I6 e.s),(St e.l),(N6 e.n),(N6 e.v),(I6 vr),(I6 fl),(St key),(St nonce),(I6 target),(.bool id)] 33),(bK b8 [(.bool true),S0] 54),(bK b12 (eB qq.1 (some ⟨b18,f18,none⟩) qq.2.1.length c9) 29),(bK b19 y18.cs 38)] (aAv (fun r => (Pt r 0)) (.cells [(I6 0),(I6 0),(U6 0),(I6 0),(St [])].toArray 38 (0,0))) aMq kR rfl rfl kR kR kR kR kR kR (by simp only [List.forall_mem_cons]; exact ⟨trivial,trivial,trivial,trivial,trivial,trivial,trivial,trivial,by intro v V V2 hV2 hP; (first | trivial | exact PhiMono.go hP hV2 | (obtain ⟨g,e,hP⟩ := hP; exact ⟨g,e,hP.le hV2⟩)),fun _ h => by cases h⟩) (show (8 : Nat) < 9 by decide) _ rfl (by intro v V s2 h; trivial) (by intro v V V2 s2 hV h; exact h) ⟨?_,?_,?_,?_,?_,?_,?_,?_,?_,trivial⟩ [2,4,6,7,8,9,13,14,15,107] (fun u => [(St key2),(Pt b1 0),(.bool false),(Pt bA2 0),(Pt bB2 0),(Pt eb5 0),(Pt b19 0),(I6 (gH m target)),u 8,(y20.V)]) kF ?_
        · exact ObN.o 0 (show (0 : Nat) ≠ 8 by decide) (fun σ' => oqQ 0 rfl (Pt b12 19) (Pt b12 19) rfl rfl kF kF)
        · exact ObN.o 1 (show (1 : Nat) ≠ 8 by decide) (fun σ' => oqL 1 5 b12 1 (eB qq.1 (some ⟨b18,f18,none⟩) qq.2.1.length c9) 29 rfl (Sl b18 f18 qq.2.1.length c9) rfl kR kF kF)
        · exact ObN.o 2 (show (2 : Nat) ≠ 8 by decide) (fun σ' => oqL 2 5 b12 20 (eB qq.1 (some ⟨b18,f18,none⟩) qq.2.1.length c9) 29 rfl (bnV qq.1 (some ⟨b18,f18,none⟩) qq.2.1.length c9) rfl kR kF kF)
        · exact ObN.o 3 (show (3 : Nat) ≠ 8 by decide) (fun σ' => oqQ 3 rfl (Pt b1 8) (Pt b1 8) rfl rfl kF kF)
        · exact ObN.o 4 (show (4 : Nat) ≠ 8 by decide) (fun σ' => oqL 4 3 b1 1 [(I6 e.s),(St e.l),(N6 e.n),(N6 e.v),(I6 vr),(I6 fl),(St key),(St nonce),(I6 target),(.bool id)] 33 rfl (I6 target) rfl kR kF kF)
        ·
         refine ObN.o 5 (show (5 : Nat) ≠ 8 by decide) (fun σ' => oqV 5 9 rfl rfl (I6 (is9 : Int)) rfl [102,104] (fun u => [(bnV qq.1 (some ⟨b18,f18,none⟩) qq.2.1.length c9),(I6 target)]) kF (fun u V hV hdq => ?_))
         refine ⟨#[(bnV qq.1 (some ⟨b18,f18,none⟩) qq.2.1.length c9),(I6 target)],by kernel_rfl,fun W hW => ?_⟩
         exact his9 ▸ lM qq.1 qq.2.1 _ _ target W hW ((k16.le hV)).to0
        · exact ObN.o 6 (show (6 : Nat) ≠ 8 by decide) (fun σ' => oqR 6 rfl (Pt b18 (f18 + is9 * 5)) rfl kF (fun u => aDE _ 38 _ _ rfl b18 f18 qq.2.1.length c9 is9 5 .i64 kR kR (by first | assumption | omega) kR kR) kF)
        · exact ObN.o 7 (show (7 : Nat) ≠ 8 by decide) (fun σ' => oqU 7 b18 (f18 + is9 * 5) y20.cs hU20 38 _ rfl rfl rfl kF _ Tryz.underlying38 rfl kR kF)
        ·
         refine ObN.alloc 8 (.cells [(I6 0),(I6 0),(U6 0),(I6 0),(St [])].toArray 38 (0,0)) (fun r => (Pt r 0)) [] (fun u => []) ?_ ?_
         · exact kF
         · exact ⟨_,rfl,rfl,kF⟩
        intro u21 V21 s21 hV21 hdq21 hP21
        have k22 := k14.le hV21
        have k23 := k15.le hV21
        have k24 := k16.le hV21
        have k25 := k17.le hV21
        generalize u21 8 = z21 at hP21 ⊢
        obtain ⟨b21,rfl,rfl⟩ := hP21
        refine aY 0 b21 (zn (zs (zr (eE 14 (I6 (gH m target)) (L6 i9) (by rw [hi9]) ?_))))
        refine cU [0,3,0] [(bB2,1)] ?_
        obtain ⟨y26,hy26⟩ : ∃ y,(m)[i9]? = some y := ⟨(m)[i9]'oW,List.getElem?_eq_getElem _⟩
        obtain ⟨b26,f26,rfl,hU26⟩ := k23.at_ i9 y26 hy26
        refine cH (Pt b26 (f26 + i9 * 5)) (rIx 38 rfl b26 f26 m.length g i9 5) ?_
        refine zU b26 (f26 + i9 * 5) y26.cs hU26 38 (.tmp 111) _ Tryz.underlying38 rfl ?_
        refine cJ (fun b27 => (aY 8 b27 (zn (zB [0,1,0] [(b21,1)] (aY 8 b27 (zn (zB [3,0,9] [(bB2,20),(b27,5)] ?_)))))))
        refine gO [(I6 y26.t),(I6 y26.n),(N6 y26.f),(I6 y26.c),(St y20.d)] 38 (fun r => (Sl r 0 1 1)) kR kR kR (fun g28 V28 hV28 hR28 => ?_)
        have k29 := k23.le hV28
        have k30 := k22.le hV28
        have k31 := k24.le hV28
        have k32 := k25.le hV28
        have hzd9 : y20.d.length ≤ 4100 := by rw [hzy20,hgy9]; show (Eng.aI 1 y9.d.length).length ≤ 4100; rw [Eng.iL]; exact hDl y9 (List.mem_of_getElem? hy9)
        have hxF := hm0.f y26 (List.mem_of_getElem? hy26)
        have hT28 : cX V28 (some ⟨g28,0,none⟩) [(y26.withD y20.d)] := cX.of (show V28.range g28 0 ([(y26.withD y20.d)].flatMap Bk.cs) from hR28) (fun x hx => by rw [List.mem_singleton.1 hx]; exact ⟨hxF,by show y20.d.length ≤ R47; unfold R47; omega⟩) (show 1 ≤ R47 by decide)
        refine aAn 12 #[(bnV q (some ⟨b26,f26,none⟩) m.length g),(I6 (i9 : Int)),(I6 1),(Sl g28 0 1 1)] (aNO q (m.set i9 (y26.withD y20.d))) (fun W hM => (aHQ (x := (y26.withD y20.d)) hil9) ▸ aAp q m [(y26.withD y20.d)] i9 1 _ _ _ _ W hM.view (k29.up oW fun x hx => by have := hDm x hx; omega) hT28 (by rintro rfl; simp at hil9) oW hmg oW (show 1 ≤ 1000000 by decide)) (fun v33 V33 hV33 hP33 => ?_)
        have k36 := k30.le hV33
        have k37 := k31.le hV33
        have k38 := k32.le hV33
        obtain ⟨a33,c33,rfl,hb33,hcW⟩ := hP33
        refine aY 2 bB2 (zn (zs (zr ?_)))
        obtain ⟨C9,hC9⟩ : ∃ C,gN (m.set i9 (y26.withD y20.d)) y18 = C := ⟨_,rfl⟩
        have hSok : y18.ok := k37.ok _ (List.mem_of_getElem? hy18)
        have hmL : (m.set i9 (y26.withD y20.d)).length = m.length := List.length_set
        have hC9L : C9.length = m.length + 1 := by rw [← hC9,aCX (by rw [← List.length_pos_iff,List.length_set]; omega),List.length_set]; omega
        refine cU [3,0,3,0,0] [(bB2,20),(bB2,1)] (eE 125 (I6 (IntKind.i64.wrap (((((m.set i9 (y26.withD y20.d)).length : Nat)) : Int) - 1))) (I6 (((m.set i9 (y26.withD y20.d)).length - 1 : Nat) : Int)) (congrArg (Value.int .i64) (aFI 1 rfl (by first | omega | (rw [List.length_set]; omega)) (by first | omega | (rw [List.length_set]; omega)))) ?_)
        refine cU [8] [(b19,5)] ?_
        refine gO y18.cs 38 (fun r => (Sl r 0 1 1)) kR kR kR (fun g39 V39 hV39 hR39 => ?_)
        have k40 := hb33.le hV39
        have k41 := k36.le hV39
        have k44 := k38.le hV39
        have hT39 : cX V39 (some ⟨g39,0,none⟩) [y18] := cX.of (show V39.range g39 0 ([y18].flatMap Bk.cs) from hR39) (fun x hx => by rw [List.mem_singleton.1 hx]; exact hSok) (show 1 ≤ R47 by decide)
        refine aAn 12 #[(.agg #[(N6 q.f),(I6 q.c),(I6 q.dst.s),(St q.dst.l),(N6 q.dst.n),(N6 q.dst.v),(I6 q.src.s),(St q.src.l),(N6 q.src.n),(N6 q.src.v),(I6 q.rpt.s),(St q.rpt.l),(N6 q.rpt.n),(N6 q.rpt.v),(N6 q.time),(N6 q.seq),(N6 q.life),(N6 q.off),(N6 q.tot),(.slice a33 (m.set i9 (y26.withD y20.d)).length c33)]),(I6 (((m.set i9 (y26.withD y20.d)).length - 1 : Nat) : Int)),(I6 0),(Sl g39 0 1 1)] (aAQ q C9) (fun W hM => (show jK (m.set i9 (y26.withD y20.d)) [y18] ((m.set i9 (y26.withD y20.d)).length - 1) 0 = C9 from hC9) ▸ aE5 q (m.set i9 (y26.withD y20.d)) [y18] ((m.set i9 (y26.withD y20.d)).length - 1) 0 _ _ _ _ W hM.view k40 hT39 (by intro h; have h2 := congrArg List.length h; rw [List.length_set,List.length_nil] at h2; omega) oW hcW (by rw [List.length_set]; omega) (show 1 ≤ 1000000 by decide)) (fun v45 V45 hV45 hP45 => ?_)
        have k48 := k41.le hV45
        have k51 := k44.le hV45
        obtain ⟨a45,c45,rfl,hb45⟩ := hP45
        refine aY 2 bB2 (zn (zs (zr ?_)))
        obtain ⟨rr,hrr⟩ : ∃ rr,aFl (opE p l vr fl key nonce target key2) q C9 y18.n = rr := ⟨_,rfl⟩
        have hCm : C9 = aMV l e vr fl nonce target m i9 y26 := by rw [← hC9,hzy20,hsy18]; rfl
        have hon := aG9 (q := q) (key2 := key2) hok9 hel hi9 hy26 hns9
        simp only [] at hon
        rw [← hCm,← hsy18,show ((dX l : Nat) : Int) = y18.n by rw [hsy18]; rfl,hrr] at hon
        have hCd9 : ∀ x ∈ C9,x.d.length ≤ 100000 := by
                 intro u hu
                 rw [← hC9] at hu
                 exact aOB hDm (by show y20.d.length ≤ 100000; omega) (by rw [hsy18]; exact aOv hok9) u hu
        obtain ⟨iC9,hiC9,hilC9⟩ : ∃ j : Nat,gH C9 target = (j : Int) ∧ j < C9.length := by rw [hCm]; exact aMv hi9 hy26 hft9
        refine cU [0,3,0,8,0] [(bB2,20),(b19,1)] (aAn 26 #[(Pt eb5 0),(bnV q a45 C9.length c45),(I6 y18.n),(St key2)] (iX rr.1 rr.2.1 rr.2.2) (fun W hM => hrr ▸ aJK eA q C9 _ _ y18.n key2 eb5 (opE p l vr fl key nonce target key2) W hM.view (hE.le (View.le_trans (View.le_trans (View.le_trans (View.le_trans (View.le_trans (View.le_trans (View.le_trans (View.le_trans hV2 hV5) hV9) hV13) hV21) hV28) hV33) hV39) hV45)) hqm hb45 hCd9 oW (aMt (key2 := key2) (hV45 _ _ (hV39 _ _ (hV33 _ _ (hV28 _ _ (hV21 _ _ (hV13 _ _ (hV9 _ _ hg5))))))) (aL0 (a := aT) (c := cT) ((View.range_le hV45 (View.range_le hV39 (View.range_le hV33 (View.range_le hV28 (View.range_le hV21 hR13))))) 0 _ rfl) k51)) (aMu (by rw [hgy9]; have := hDl y9 (List.mem_of_getElem? hy9); show y9.d.length ≤ 100000; omega))) (fun v52 V52 hV52 hP52 => ?_))
        have k53 := hb45.le hV52
        have k54 := k48.le hV52
        obtain ⟨a52,c52,rfl,hb52⟩ := hP52
        refine zq 3 (cJ (fun b58 => (aY 9 b58 (zq 1 (zn (zB [3,0,5,8,0,0,5] [(bB2,20),(b1,1),(b19,5),(b1,1)] (dA 27 #[(bnV q a45 C9.length c45),(I6 target),(y18.V),(I6 fl)] (.tuple #[(St (bsB q C9 target y18 fl)),(I6 (bsZ q C9 target y18 fl))]) (fun W hM => aBa q C9 _ _ target y18 fl iC9 W hM.view hqm k53 hSok htt9 hiC9 hilC9 hf0 oW) ?_)))))))
        refine zq 5 (zn (zB [2,0,5,8,0,0,5] [(bA2,20),(b1,1),(b19,5),(b1,1)] (dA 27 #[(bnV p a l.length c),(I6 target),(y18.V),(I6 fl)] (.tuple #[(St (bsB p l target y18 fl)),(I6 (bsZ p l target y18 fl))]) (fun W hM => aBa p l _ _ target y18 fl j9 W hM.view hpl (k54.up oW fun x hx => by have := hDl x hx; omega) hSok htt9 hj9 hjl9 hf0 oW) ?_)))
        refine zq 5 (zn (zs (zQ 3 (aK 162 ((bsZ q C9 target y18 fl) != 0) (fun h7 => ?_) (fun h7 => ?_)))))
        ·
         refine zq 11 (zn (dF (zs (zr ?_))))
         obtain ⟨hr9,hrp9,hrl9⟩ := hon.1 (.inl h7)
         refine zq 3 (eE 176 (.bool (rr.2.2 != 0)) (.bool true) (congrArg Value.bool hr9) ?_)
         refine cU [10,0] [(b58,20)] (eE 178 (.agg Z20.toArray) (bnV rr.1 none rr.2.1.length 0) (by rw [hrp9,hrl9]; rfl) ?_)
         refine dA 15 #[(bnV rr.1 a52 rr.2.1.length c52),(bnV rr.1 none rr.2.1.length 0)] (.bool true) (fun W hM => rB rr.1 rr.2.1 _ _ _ _ W hM.view hb52 (by rw [hrl9]; exact cX.nil)) ?_
         refine zq 2 (zn (aA (jJ 6)))
        ·
         have h7d := bne_eq_false_iff_eq.1 h7
         refine zq 2 (cH (.bool (!((bsB q C9 target y18 fl) == (bsB p l target y18 fl)))) (mN _ _ _ _ rfl (bsB q C9 target y18 fl) (bsB p l target y18 fl) kR kR) ?_)
         refine zq 2 (aK 167 (!((bsB q C9 target y18 fl) == (bsB p l target y18 fl))) (fun h8 => ?_) (fun h8 => ?_))
         ·
          refine zq 6 (zn (dF (zs (zr ?_))))
          obtain ⟨hr9,hrp9,hrl9⟩ := hon.1 (.inr (.inl (by simpa using h8)))
          refine zq 3 (eE 176 (.bool (rr.2.2 != 0)) (.bool true) (congrArg Value.bool hr9) ?_)
          refine cU [10,0] [(b58,20)] (eE 178 (.agg Z20.toArray) (bnV rr.1 none rr.2.1.length 0) (by rw [hrp9,hrl9]; rfl) ?_)
          refine dA 15 #[(bnV rr.1 a52 rr.2.1.length c52),(bnV rr.1 none rr.2.1.length 0)] (.bool true) (fun W hM => rB rr.1 rr.2.1 _ _ _ _ W hM.view hb52 (by rw [hrl9]; exact cX.nil)) ?_
          refine zq 2 (zn (aA (jJ 6)))
         ·
          refine cU [0,0,0,5] [(b1,1)] (cH (.bool (!(key2 == key))) (mN _ _ _ _ rfl key2 key kR kR) ?_)
          refine zq 1 (zn (cD (!(key2 == key)) (fun h9 => ?_) (fun h9 => ?_)))
          ·
           refine zs (zr ?_)
           obtain ⟨hr9,hrp9,hrl9⟩ := hon.1 (.inr (.inr (by simpa using h9)))
           refine zq 3 (eE 176 (.bool (rr.2.2 != 0)) (.bool true) (congrArg Value.bool hr9) ?_)
           refine cU [10,0] [(b58,20)] (eE 178 (.agg Z20.toArray) (bnV rr.1 none rr.2.1.length 0) (by rw [hrp9,hrl9]; rfl) ?_)
           refine dA 15 #[(bnV rr.1 a52 rr.2.1.length c52),(bnV rr.1 none rr.2.1.length 0)] (.bool true) (fun W hM => rB rr.1 rr.2.1 _ _ _ _ W hM.view hb52 (by rw [hrl9]; exact cX.nil)) ?_
           refine zq 2 (zn (aA (jJ 6)))
          ·
           refine zk (zs (zs (zr ?_)))
           obtain ⟨hn7,hn1,hn0⟩ := hon.2 h7 (by simpa using h8) (by simpa using h9)
           have hn7b : (rr.2.2 != 7) = true := bne_iff_ne.2 hn7
           refine zq 2 (zn (cD (rr.2.2 != 0) (fun h10 => ?_) (fun h10 => ?_)))
           ·
            have h10d := bne_iff_ne.1 h10
            refine zQ 3 (eE 185 (.bool (rr.2.2 != 7)) (.bool true) (congrArg Value.bool hn7b) ?_)
            refine zq 4 (aK 189 (rr.2.2 != 1) (fun h11 => ?_) (fun h11 => ?_))
            ·
             refine zq 5 (zn (aA (jJ 6)))
            ·
             have h11d := bne_eq_false_iff_eq.1 h11
             refine cU [3] [(bB2,20)] (dA 28 #[(bnV q a45 C9.length c45)] (I6 (eO q C9)) (fun W hM => aE7 q C9 _ _ W hM.view hqm k53 (hn1 (by simpa using h11))) ?_)
             refine zq 3 (zn (aA (aH [6] [(.bool ((eO q C9) != 0))] (fun W' hM => ?_))))
             exact ⟨congrArg (fun z => Ending.returned (Value.bool z)) (hn1 (by simpa using h11)),hM.below⟩
           ·
            have h10d := bne_eq_false_iff_eq.1 h10
            refine zk (zs ?_)
            have hg0 := hn0 (by simpa using h10)
            obtain ⟨ir9,yr9,hir9,hyr9,hgr9⟩ := mG (l := rr.2.1) (t := target) (by rw [hg0])
            have hirl9 := (List.getElem?_eq_some_iff.1 hyr9).1
            have hyd9 : yr9.d = y9.d := by have h5 : yr9 = y26.withD (aJ l target).1.d := congrArg Prod.fst (hgr9.symm.trans hg0); rw [h5,hgy9]; rfl
            refine gU 2 [12,0,7,1,4,0,7] [(b58,20),(b1,1),(bA2,20),(b1,1)] [.val (I6 (ir9 : Int))] ⟨?_,trivial⟩ ?_
            · exact vC 9 #[(bnV rr.1 a52 rr.2.1.length c52),(I6 target)] (fun W hM => hir9 ▸ lM rr.1 rr.2.1 _ _ target W hM.view (hb52).to0)
            refine dA 9 #[(bnV p a l.length c),(I6 target)] (I6 (j9 : Int)) (fun W hM => hj9 ▸ lM p l _ _ target W hM.view k54) ?_
            refine zq 2 (zn (zs ?_))
            obtain ⟨y59,hy59⟩ : ∃ y,(rr.2.1)[ir9]? = some y := ⟨(rr.2.1)[ir9]'oW,List.getElem?_eq_getElem _⟩
            obtain ⟨b59,f59,rfl,hU59⟩ := hb52.at_ ir9 y59 hy59
            obtain ⟨y60,hy60⟩ : ∃ y,(l)[j9]? = some y := ⟨(l)[j9]'oW,List.getElem?_eq_getElem _⟩
            obtain ⟨b60,f60,rfl,hU60⟩ := k54.at_ j9 y60 hy60
            have hye9 : (y59.d == y60.d) = true := by rw [hyr9] at hy59; rw [hy9] at hy60; rw [← Option.some.inj hy59,← Option.some.inj hy60,hyd9,beq_self_eq_true]
            refine gU 5 [0,1,0,0,1,0,0,0,12,0,1,0,1,0,4,0,1,0,1] [(b58,1),(bA2,1)] [.val (.bool true),.val (.bool true),.val (Pt b59 (f59 + ir9 * 5)),.val (St y59.d),.val (Pt b60 (f60 + j9 * 5)),.val (St y60.d)] ⟨?_,?_,?_,?_,?_,?_,trivial⟩ ?_
            · exact vE (.bool (decide ((ir9 : Int) ≥ 0))) (congrArg Value.bool (decide_eq_true oW))
            · exact vE (.bool (decide ((j9 : Int) ≥ 0))) (congrArg Value.bool (decide_eq_true oW))
            · exact vR (rIx 38 rfl b59 f59 rr.2.1.length c52 ir9 5)
            · exact vU1 b59 (f59 + ir9 * 5 + 4) (hU59 4 _ rfl) 9 _ _ Tryz.underlying9 rfl
            · exact vR (rIx 38 rfl b60 f60 l.length c j9 5)
            · exact vU1 b60 (f60 + j9 * 5 + 4) (hU60 4 _ rfl) 9 _ _ Tryz.underlying9 rfl
            refine cH (.bool (y59.d == y60.d)) (eJ _ _ _ _ rfl y59.d y60.d kR kR) ?_
            refine zq 2 (zn (aA (aH [6] [(.bool (y59.d == y60.d))] (fun W' hM => ?_))))
            exact ⟨congrArg (fun z => Ending.returned (Value.bool z)) hye9,hM.below⟩
end Go.Proofs.YtcdjakemdlinhaaGreatDoor.Sx
namespace Go.Proofs.YtcdjakemdlinhaaGreatDoor
open Go.ChangeShapes Go.WideShapes Go.ChangeAt Go.RowKit
theorem aC7 {H : Type} {enc : TypeId × Value → H} {C : Checked} {os : Os} {F : FuncId} {f : Func} {s : ChangeSpec} {apart fresh handsOn : Bool} {tb : TypeId} {L : List (String × DataW Unit)}
  (own : ownKnob C.prog.godebug = none) (started : os.Started) (noInit : C.prog.inits.idxOf? F = none) (hf : C.prog.funcs[F]? = some f)
  (witness : ∃ (w : World) (tape : Tape) (i : Input), w.os = os ∧ (w.forCall tape i).Shaped C.prog ∧ i.vars = [] ∧ Input.okWide C.prog (w.forCall tape i) .any w.heap.size F i ∧
   ((s.pre enc C.prog f [] apart (w.forCall tape i).memory i.args ∧ laidMetH C.prog L (w.forCall tape i).memory) ∧ sizedMet enc C.prog f (OpenSpec.ofChange s) apart (w.forCall tape i).memory i.args) ∧ ({} : Assume).holds C.prog (lone (Frame.enter C.prog F i.args .normal) [] (w.forCall tape i)))
  (hl : laidOutB C.prog = true) (hrd : (f.params.toList.all fun t => C.prog.readableRec t && decide (t < C.prog.types.size)) = true)
  (hvars : s.vars = []) (hr : f.resultTypes = #[tb]) (hbool : C.prog.underlying tb = some .bool)
  (hfn : ∀ ds : List (DataW H), ds.length = f.params.toList.length → (s.fn H ds).results = [.lit (.bool true)] ∧ (s.fn H ds).args = ds ∧ (s.fn H ds).vars = [])
  (walk : ∀ (W : World) (base : Nat) (args : Array Value) (ds : List (DataW H)) (ps : List MemPlace), laidMetH C.prog L W →
   (∀ (j : Nat) t v, f.params[j]? = some t → args[j]? = some v → Value.okWide C.prog W .any base t v) →
   DataW.TrodAll enc C.prog W 0 (fun _ => true) true f.params.toList args.toList ds ps →
   (∀ p ∈ ps, p.block < W.heap.size) →
   Calls C.prog F args W fun e W' => e = .returned (.bool true) ∧ Below W.heap.size W W') :
  ReturnsInHanded {} C os F .any (fun w args => (s.pre enc C.prog f [] apart w args ∧ laidMetH C.prog L w) ∧ sizedMet enc C.prog f (OpenSpec.ofChange s) apart w args) (s.post enc C.prog f apart fresh handsOn false) := by
 refine returnsInHanded_of_change_and (X := fun w _ => laidMetH C.prog L w) (fun _ _ _ hh h => h.of_heap hh) own started noInit hf witness ?_
 intro W base args ds gs before hval hW _ _ hL _
 have hW0 := hW
 obtain ⟨p, q, hA, hV, rfl, _, _⟩ := hW
 refine (walk W base args ds p hL hval hA fun x hx => hW0.lt x (List.mem_append_left _ hx)).mono fun e W' ⟨he, hb⟩ => ?_
 have hlen : ∀ {ts : List TypeId} {vs : List Value} {ds : List (DataW H)} {ps : List MemPlace}, DataW.TrodAll enc C.prog W 0 (fun _ => true) true ts vs ds ps → ds.length = ts.length := by
  intro ts
  induction ts with
  | nil => intro vs ds ps h; obtain ⟨_, rfl, _⟩ := trodAll_nil h; rfl
  | cons t ts ih => intro vs ds ps h; obtain ⟨v, vs', d, ds', p, q, _, rfl, _, _, hrest⟩ := trodAll_cons h; simp [ih hrest]
 exact ⟨_, he, aLb hl hrd hvars hr hbool (hfn ds (hlen hA)) hW0 hb⟩
end Go.Proofs.YtcdjakemdlinhaaGreatDoor
namespace Go.Proofs.YtcdjakemdlinhaaGreatDoor
open Go.ChangeShapes Go.WideShapes Go.ChangeAt Go.RowKit Go.Lib
def aLc : List (String × DataW Unit) := [("dromond/asb.errForm", Rows.laid_dromond_asb_errForm)]
def aLV (W : World) : Prop := ∃ eA, Sx.EF (Sx.aBT W) eA
theorem aFR : "*" ++ "errors.errorString" = "*errors.errorString" := by decide
set_option maxRecDepth 100000 in
theorem aMh (u : TypeId) (h : Tryz.prog.typeName? 3 u = some "*errors.errorString") : u = 338 :=
 typeName_ptr_named (nm := "errors.errorString") (by rw [aFR]; kernel_rfl) kR (by decide) u (by rw [aFR]; exact h)
set_option maxRecDepth 100000 in
theorem aI3 {W : World} (h : laidMetH Tryz.prog aLc W) : aLV W := by
 rw [MakeChecks.laidMetH_plain _ _ _ kR] at h
 have hrow : ∀ u, Tryz.prog.typeName? 3 u = some "*errors.errorString" → u = 338 := aMh
 obtain ⟨a1, s1, hv1, _⟩ := laid_sentinel (g := 0) (ti := 208) (tp := 338) (te := 431) (ts := 9) h kR kR Tryz.underlying208 hrow Tryz.underlying338 Tryz.underlying431 rfl rfl Tryz.underlying9 kR kR
 exact ⟨a1, (World.var?_cell (g := 0) kR hv1 0).trans rfl⟩
end Go.Proofs.YtcdjakemdlinhaaGreatDoor
