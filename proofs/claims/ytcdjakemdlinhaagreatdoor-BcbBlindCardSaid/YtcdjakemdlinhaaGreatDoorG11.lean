/-
  Several texts in one: Mix3 Sx23 Mix4 Sx22 Sx24 Mix5 Mix6 Sx25 Sx26 Sx27 Sx28 Sx29 NumsS.
  Conditions: named at each.
-/
import Derived.Test.YtcdjakemdlinhaaGreatDoorG10
set_option linter.unusedSimpArgs false
set_option linter.unusedVariables false
set_option linter.unusedSectionVars false
namespace Go.Proofs.YtcdjakemdlinhaaGreatDoor.Sx
open Go.ChangeShapes Go.WideShapes Go.ChangeAt Go.RowKit Go.Deep
theorem ops2_any (x : Bk) (se : List Op) (aS : Option Addr) (cS ps : Nat) (w : World) {U : View} (hU : ∀ a v, U a = some v → w.cell? a = some v) (hse : LsAt OpR 3 U aS se) (hps : U ⟨ps, 0, none⟩ = some (.slice aS se.length cS)) : Calls Tryz.prog 124 #[x.V, .pointer (some ⟨ps, 0, none⟩)] w (Ret (.bool (amongB se 2 x.n)) w) := by
 refine sx_enter (f := 124) 8 U Tryz.func124 rfl rfl rfl hU ?_
 refine zs (zr (sx_N (fun b0 => (zq 1 (zn (zs (zr (zV ps (0) (.slice aS se.length cS) hps 119 (.tmp 1) _ Tryz.underlying119 rfl ?_))))))))
 refine sx_B [0,1] [(b0,1)] (sx_C 125 #[(.slice aS se.length cS),(I6 2),(I6 x.n)] (.bool (amongB se 2 x.n)) (fun W hM => among_any se _ _ 2 x.n W hM.view hse) ?_)
 refine zq 1 (zn (sx_ret (sx_Z [3] [(.bool (amongB se 2 x.n))] (fun W' hM => ?_))))
 exact ⟨rfl,hM.below⟩
theorem ops1_any (x : Bk) (w : World) : Calls Tryz.prog 123 #[x.V] w (Ret (.bool false) w) := by
 refine sx_enter (f := 123) 3 View.no Tryz.func123 rfl rfl rfl (fun _ _ h => by cases h) ?_
 refine zs (zr (sx_N (fun b0 => (zq 1 (zn (zQ 1 (zn (sx_ret (sx_Z [2] [(.bool false)] (fun W' hM => ?_))))))))))
 exact ⟨rfl,hM.below⟩
theorem right_t16 {a : As} (h : a.right = true) : a.t.length ≤ 16 := by
 have hs := As.shaped h
 unfold shapedB at hs
 simp only [Bool.and_eq_true, decide_eq_true_eq] at hs
 exact hs.1.1.1.1.1.1.1.2
set_option maxHeartbeats 16000000 in
theorem opsSeal_any (eA : Addr) (p : Pr) (l : List Bk) (a : Option Addr) (c : Nat) {W0 : Cx} {U : View} {σF : Blks} {W : World} (hE : EF U eA) (hl : BksAt U a l) (hdl : ∀ x ∈ l, x.d.length ≤ 100000) (hsm : l.length ≤ 1000000) (hM : Mem W0 U ([] ++ σF) W) : Calls Tryz.prog 122 #[bnV p a l.length c, .int .i64 12, .int .i64 2, .int .i64 2, (.func (.func 123) #[] #[])] W (RetM W0 U σF fun v _ σ' => OpsIs (opsF 12 2 2 (fun _ => false) l) v σ') := by
 refine sx_enterM (f := 122) 67 U Tryz.func122 rfl rfl rfl hM ?_
 refine zs (zr (sx_NI 0 (fun b0 => ?_)))
 refine zq 2 (zn (zQ 1 (zn (zs (zB [0,1,0,0] [(b0,1)] (zn (sx_block ?_)))))))
 refine sx_loop (α := Go_) (fun x => [1,2,3,4,10,11,12,20,21,22].zip [(I6 12),(I6 2),(I6 2),(.func (.func 123) #[] #[]),S0,(I6 0),(x.r.V x.m),(.slice a l.length c),(L6 l.length),(L6 x.i)]) (fun x => x.V) (fun x => ([(bK b0 (bnCs p a l.length c) 29)] ++ σF ++ x.r.B 153 x.xs)) (fun x => x.i ≤ l.length ∧ View.le U x.V ∧ RwR OpR 3 x.V x.r x.xs x.m x.L ∧ x.m ≤ 16 * x.i ∧ contO (x.L.map Prod.fst) (opsF 12 2 2 (fun _ => false) (l.drop x.i)) = opsF 12 2 2 (fun _ => false) l) (fun x => l.length - x.i) ⟨0,Rw.nil,[],0,[],U⟩ ?_ (look_zip _ _ (by kernel_rfl)) (fun _ h => h.eqv (Eq.trans (by kernel_rfl) (List.append_nil (([(bK b0 (bnCs p a l.length c) 29)] ++ σF) : Blks)).symm)) ?_
 · exact ⟨Nat.zero_le _,View.le_refl _,RwR.nil,Nat.zero_le _,contO_nil _⟩
 intro x hx
 obtain ⟨hxi,hxl,hxr,hxm,hxp⟩ := hx
 refine zQ 1 (zn (zs (sx_D (decide (((x.i : Nat) : Int) < (((l.length : Nat)) : Int))) (fun h0 => ?_) (fun h0 => ?_))))
 ·
  have h0d := of_decide_eq_true h0
  refine zk (zs (sx_block (zs (zr ?_))))
  obtain ⟨y1,hy1⟩ : ∃ y,(l)[x.i]? = some y := ⟨(l)[x.i]'(by omega),List.getElem?_eq_getElem _⟩
  obtain ⟨b1,f1,rfl,hU1⟩ := (hl.le hxl).at_ x.i y1 hy1
  refine sx_R (Pt b1 (f1 + x.i * 5)) (rIx 38 rfl b1 f1 l.length c x.i 5) ?_
  refine zU b1 (f1 + x.i * 5) y1.cs hU1 38 (.tmp 24) _ Tryz.underlying38 rfl ?_
  refine sx_NI 1 (fun b2 => ?_)
  refine sx_S 1 b2 (zn (zs (zB [0,2,0,0,0] [(b2,1)] (sx_BL 30 (y1.t != 12) (fun h1 => ?_) (fun h1 => ?_)))))
  ·
   have h1d := bne_iff_ne.1 h1
   refine zq 4 (zn (sx_T (sx_exit (zr (zq 1 (sx_E 65 (I6 (IntKind.i64.wrap (((x.i : Nat) : Int) + 1))) (I6 (((x.i : Nat) : Int) + 1)) i6v ?_))))))
   refine zq 1 (zn ?_)
   refine ⟨⟨x.i + 1,x.r,x.xs,x.m,x.L,x.V⟩,?_,?_,look_zip _ _ (by kernel_rfl),fun _ h => Mem.sub (List.Sublist.append (List.Sublist.append (List.sublist_append_left _ _) (List.Sublist.refl _)) (List.Sublist.refl _)) (h.eqv (show _ = (((([(bK b0 (bnCs p (some ⟨b1,f1,none⟩) l.length c) 29)] : Blks) ++ ([(bK b2 y1.cs 38)] : Blks)) ++ (σF)) ++ (x.r.B 153 x.xs)) from by kernel_rfl))⟩
   · exact ⟨by show x.i + 1 ≤ _; omega,hxl,hxr,by show x.m ≤ 16 * (x.i + 1); omega,by show contO (x.L.map Prod.fst) (opsF 12 2 2 (fun _ => false) (l.drop (x.i + 1))) = _; rw [opsF_skip hy1 (by rw [h1]; rfl),hxp]⟩
   · show l.length - (x.i + 1) < l.length - x.i; omega
  ·
   have h1d := bne_eq_false_iff_eq.1 h1
   refine sx_B [0,2] [(b2,5)] (sx_C 123 #[(y1.V)] (.bool false) (fun W hM => ops1_any y1 W) ?_)
   refine zq 1 (zn (sx_F (zk (zB [0,2] [(b2,1)] ?_))))
   rcases Bool.eq_false_or_eq_true ((parseS y1.d).isSome) with h2 | h2
   ·
    refine sx_O 96 #[(St y1.d)] (PaRes (parseS y1.d)) (fun W hM => aParse_any eA y1.d W hM.view (hE.le hxl) (by have := hdl y1 (List.mem_of_getElem? hy1); omega)) (fun v3 V3 hV3 hP3 => ?_)
    have k5 := hxr.le hV3
    obtain ⟨a3,hq3⟩ := Option.isSome_iff_exists.1 h2
    rw [hq3] at hP3
    obtain ⟨x3,y3,z3,u3,v3,w3,rfl,hA3,hc3⟩ := hP3
    have fA3 := hA3.t
    have fB3 := hA3.p
    have fC3 := hA3.r
    have ht163 := right_t16 (parseS_spec hq3).2.1
    refine zq 3 (sx_NI 2 (fun b6 => ?_))
    refine sx_S 2 b6 (zq 1 (zn (zs (zB [0,0,0,0,3,0,0,0] [(b6,1)] (zn (sx_D (a3.c != 2) (fun h3 => ?_) (fun h3 => ?_)))))))
    ·
     have h3d := bne_iff_ne.1 h3
     refine zQ 2 (zn (sx_ret (sx_Z [10,11] [S0,(I6 2)] (fun W' hM => ?_))))
     have hz : opsF 12 2 2 (fun _ => false) l = none := contO_none hxp (opsF_bad hy1 (by rw [h1]; rfl) (.inr ⟨a3,hq3,h3⟩))
     rw [hz]
     exact retM_none (hM.eqv (show _ = (([(bK b0 (bnCs p (some ⟨b1,f1,none⟩) l.length c) 29),(bK b2 y1.cs 38),(bK b6 [(.slice x3 a3.t.length u3),(I6 a3.c),(I6 a3.s.s),(St a3.s.l),(N6 a3.s.n),(N6 a3.s.v),(.slice y3 a3.p.length v3),(.slice z3 a3.r.length w3)] 96)] : Blks) ++ σF) ++ (x.r.B 153 x.xs) from by kernel_rfl)) (View.le_trans hxl hV3) ⟨rfl,rfl⟩
    ·
     have h3d := bne_eq_false_iff_eq.1 h3
     refine zk (zB [0,3,0,0] [(b6,1)] (zn (sx_block ?_)))
     refine sx_loop (α := Go_) (fun x2 => [1,2,3,4,10,11,12,14,15,16,20,21,22,23,24,25,26,27,28,29,30,31,32,33,34,35,36,37,38,39,40,41,42,43,44,45,46,47,48,49,50,51,52].zip [(I6 12),(I6 2),(I6 2),(.func (.func 123) #[] #[]),S0,(I6 0),(x2.r.V x2.m),(Pt b2 0),(Pt b6 0),(I6 0),(Sl b1 f1 l.length c),(L6 l.length),(L6 x.i),(.bool (decide (((x.i : Nat) : Int) < (((l.length : Nat)) : Int)))),(Pt b1 (f1 + x.i * 5)),(y1.V),(Pt b2 0),(I6 y1.t),(I6 12),(.bool (y1.t != 12)),(.bool false),(.func (.func 123) #[] #[]),(y1.V),(.bool false),(.bool false),(.tuple #[(asV a3 x3 y3 z3 u3 v3 w3),(I6 0)]),(Pt b2 4),(St y1.d),(.tuple #[(asV a3 x3 y3 z3 u3 v3 w3),(I6 0)]),(asV a3 x3 y3 z3 u3 v3 w3),(I6 0),(I6 0),(.bool false),(.bool false),(Pt b6 1),(I6 a3.c),(I6 2),(.bool (a3.c != 2)),(.bool (a3.c != 2)),(Pt b6 0),(.slice x3 a3.t.length u3),(L6 a3.t.length),(L6 x2.i)]) (fun x2 => V3) (fun x2 => ([(bK b0 (bnCs p (some ⟨b1,f1,none⟩) l.length c) 29),(bK b2 y1.cs 38),(bK b6 [(.slice x3 a3.t.length u3),(I6 a3.c),(I6 a3.s.s),(St a3.s.l),(N6 a3.s.n),(N6 a3.s.v),(.slice y3 a3.p.length v3),(.slice z3 a3.r.length w3)] 96)] ++ σF ++ x2.r.B 153 x2.xs)) (fun x2 => x2.i ≤ a3.t.length ∧ RwR OpR 3 V3 x2.r x2.xs x2.m x2.L ∧ (x2.m = x.m + x2.i ∧ x2.L.map Prod.fst = x.L.map Prod.fst ++ opsOf 2 y1.n (a3.t.take x2.i))) (fun x2 => a3.t.length - x2.i) ⟨0,x.r,x.xs,x.m,x.L,V3⟩ ?_ (look_zip _ _ (by kernel_rfl)) (fun _ h => h.eqv (by kernel_rfl)) ?_
     · exact ⟨Nat.zero_le _,k5,rfl,by show _ = _ ++ opsOf 2 _ []; rw [show opsOf 2 y1.n [] = [] from rfl,List.append_nil]⟩
     intro x2 hx2
     obtain ⟨hx2i,hx2r,hx2p⟩ := hx2
     refine zQ 1 (zn (zs (sx_D (decide (((x2.i : Nat) : Int) < (((a3.t.length : Nat)) : Int))) (fun h4 => ?_) (fun h4 => ?_))))
     ·
      have h4d := of_decide_eq_true h4
      refine zk (zs (sx_block (zs (zr ?_))))
      obtain ⟨y7,hy7⟩ : ∃ y,(a3.t)[x2.i]? = some y := ⟨(a3.t)[x2.i]'(by omega),List.getElem?_eq_getElem _⟩
      obtain ⟨b7,f7,rfl,hU7⟩ := fA3.one hy7
      refine sx_R (Pt b7 (f7 + x2.i)) (run_ix1 _ 3 _ _ rfl b7 f7 a3.t.length u3 x2.i .i64 (by kernel_rfl) (by kernel_rfl) (by first | assumption | omega) (by kernel_rfl) (by kernel_rfl)) ?_
      refine zV b7 (f7 + x2.i) (I6 y7) hU7 3 (.tmp 54) _ Tryz.underlying3 rfl ?_
      refine zq 1 (zn (zr (sx_B [0,0,0,2,0,0] [(b2,1)] (sx_NI 3 (fun b8 => ?_)))))
      refine sx_appE x2.r x2.xs x2.m ([(bK b0 (bnCs p (some ⟨b1,f1,none⟩) l.length c) 29),(bK b2 y1.cs 38),(bK b6 [(Sl b7 f7 a3.t.length u3),(I6 a3.c),(I6 a3.s.s),(St a3.s.l),(N6 a3.s.n),(N6 a3.s.v),(.slice y3 a3.p.length v3),(.slice z3 a3.r.length w3)] 96),(bK b8 [(I6 2),(I6 y1.n),(I6 y7)] 153)] ++ σF) 153 119 3 24 1 (by kernel_rfl) hx2r.ok (.tmp 56) (.tmp 62) rfl (by kernel_rfl) b8 0 1 [(I6 2),(I6 y1.n),(I6 y7)] (by kernel_rfl) (fun W hM => rangeAt_own hM 3 b8 [(I6 2),(I6 y1.n),(I6 y7)] 153 (by kernel_rfl)) rfl (List.all_eq_true.1 (by kernel_rfl)) (by decide) (by unfold maxLen; omega) (by omega) (by kernel_rfl) (by kernel_rfl) (by kernel_rfl) (by kernel_rfl) (by kernel_rfl) (fun r9 hr9 => ?_)
      refine zq 1 (zn (zr (zq 1 (sx_E 64 (I6 (IntKind.i64.wrap (((x2.i : Nat) : Int) + 1))) (I6 (((x2.i : Nat) : Int) + 1)) i6v ?_))))
      refine zq 1 (zn ?_)
      refine ⟨⟨x2.i + 1,r9,(x2.xs ++ [(I6 2),(I6 y1.n),(I6 y7)]),(x2.m + 1),x2.L ++ [(⟨2,y1.n,y7⟩,[(I6 2),(I6 y1.n),(I6 y7)])],V3⟩,?_,?_,look_zip _ _ (by kernel_rfl),fun _ h => Mem.sub (List.Sublist.append (List.Sublist.append (List.sublist_append_left _ _) (List.Sublist.refl _)) (List.Sublist.refl _)) (h.eqv (show _ = (((([(bK b0 (bnCs p (some ⟨b1,f1,none⟩) l.length c) 29),(bK b2 y1.cs 38),(bK b6 [(Sl b7 f7 a3.t.length u3),(I6 a3.c),(I6 a3.s.s),(St a3.s.l),(N6 a3.s.n),(N6 a3.s.v),(.slice y3 a3.p.length v3),(.slice z3 a3.r.length w3)] 96)] : Blks) ++ ([(bK b8 [(I6 2),(I6 y1.n),(I6 y7)] 153)] : Blks)) ++ (σF)) ++ (r9.B 153 (x2.xs ++ [(I6 2),(I6 y1.n),(I6 y7)]))) from by kernel_rfl))⟩
      · exact ⟨by show x2.i + 1 ≤ _; omega,RwR.snoc hx2r rfl hr9,by show x2.m + 1 = x.m + (x2.i + 1); omega,by rw [List.map_append,hx2p.2,show opsOf 2 y1.n (a3.t.take (x2.i + 1)) = opsOf 2 y1.n (a3.t.take x2.i) ++ [⟨2,y1.n,y7⟩] from take_map_succ _ hy7,List.append_assoc]; rfl⟩
      · show a3.t.length - (x2.i + 1) < a3.t.length - x2.i; omega
     ·
      have h4d := of_decide_eq_false h4
      refine sx_exit (zr (zq 1 (sx_E 65 (I6 (IntKind.i64.wrap (((x.i : Nat) : Int) + 1))) (I6 (((x.i : Nat) : Int) + 1)) i6v ?_)))
      refine zq 1 (zn ?_)
      refine ⟨⟨x.i + 1,x2.r,x2.xs,x2.m,x2.L,V3⟩,?_,?_,look_zip _ _ (by kernel_rfl),fun _ h => Mem.sub (List.Sublist.append (List.Sublist.append (List.sublist_append_left _ _) (List.Sublist.refl _)) (List.Sublist.refl _)) (h.eqv (show _ = (((([(bK b0 (bnCs p (some ⟨b1,f1,none⟩) l.length c) 29)] : Blks) ++ ([(bK b2 y1.cs 38),(bK b6 [(.slice x3 a3.t.length u3),(I6 a3.c),(I6 a3.s.s),(St a3.s.l),(N6 a3.s.n),(N6 a3.s.v),(.slice y3 a3.p.length v3),(.slice z3 a3.r.length w3)] 96)] : Blks)) ++ (σF)) ++ (x2.r.B 153 x2.xs)) from by kernel_rfl))⟩
      · exact ⟨by show x.i + 1 ≤ _; omega,(View.le_trans hxl hV3),hx2r,by show x2.m ≤ 16 * (x.i + 1); omega,by show contO (x2.L.map Prod.fst) (opsF 12 2 2 (fun _ => false) (l.drop (x.i + 1))) = _; rw [hx2p.2,List.take_of_length_le (by omega),opsF_take hy1 (by rw [h1]; rfl) hq3 h3,hxp]⟩
      · show l.length - (x.i + 1) < l.length - x.i; omega
   ·
    refine sx_O 96 #[(St y1.d)] (PaRes (parseS y1.d)) (fun W hM => aParse_any eA y1.d W hM.view (hE.le hxl) (by have := hdl y1 (List.mem_of_getElem? hy1); omega)) (fun v10 V10 hV10 hP10 => ?_)
    have hq10 := Option.not_isSome_iff_eq_none.1 (by rw [h2]; exact Bool.false_ne_true)
    rw [hq10] at hP10
    obtain rfl := hP10
    refine zq 3 (sx_NI 2 (fun b13 => ?_))
    refine sx_S 2 b13 (zq 1 (zn (zs (zQ 8 (zn (sx_T (zQ 2 (zn (sx_ret (sx_Z [10,11] [S0,(I6 2)] (fun W' hM => ?_)))))))))))
    have hz : opsF 12 2 2 (fun _ => false) l = none := contO_none hxp (opsF_bad hy1 (by rw [h1]; rfl) (.inl hq10))
    rw [hz]
    exact retM_none (hM.eqv (show _ = (([(bK b0 (bnCs p (some ⟨b1,f1,none⟩) l.length c) 29),(bK b2 y1.cs 38),(b13,.cells [S0,(I6 0),(I6 0),(St []),(U6 0),(U6 0),S0,S0].toArray 96 (0,0))] : Blks) ++ σF) ++ (x.r.B 153 x.xs) from by kernel_rfl)) (View.le_trans hxl hV10) ⟨rfl,rfl⟩
 ·
  have h0d := of_decide_eq_false h0
  refine sx_exit (zQ 3 (zn (sx_ret (sx_Z [10,11] [(x.r.V x.m),(I6 0)] (fun W' hM => ?_)))))
  have hz : opsF 12 2 2 (fun _ => false) l = some (x.L.map Prod.fst) := contO_done (by rw [← hxp,drop_all (by omega)]; rfl)
  rw [hz]
  have hm9 : x.m = (x.L.map Prod.fst).length := by rw [List.length_map]; exact hxr.m
  have hr9 : RwR OpR 3 View.no x.r x.xs x.m x.L := hxr.opAny
  rw [hm9] at hr9
  exact retM_rowOut (hM.eqv (show _ = (([(bK b0 (bnCs p a l.length c) 29)] : Blks) ++ σF) ++ (x.r.B 153 x.xs) from by kernel_rfl)) hxl ⟨x.r,x.xs,x.L,by show Value.tuple #[x.r.V x.m,.int .i64 0] = _; rw [← hm9],rfl,hr9,rfl⟩
set_option maxHeartbeats 16000000 in
theorem opsSign_any (eA : Addr) (p : Pr) (l : List Bk) (a : Option Addr) (c : Nat) (se : List Op) (aS : Option Addr) (cS ps : Nat) {W0 : Cx} {U : View} {σF : Blks} {W : World} (hE : EF U eA) (hl : BksAt U a l) (hdl : ∀ x ∈ l, x.d.length ≤ 100000) (hsm : l.length ≤ 1000000) (hse : LsAt OpR 3 U aS se) (hps : U ⟨ps, 0, none⟩ = some (.slice aS se.length cS)) (hM : Mem W0 U ([] ++ σF) W) : Calls Tryz.prog 122 #[bnV p a l.length c, .int .i64 11, .int .i64 1, .int .i64 1, (.func (.func 124) #[] #[(.pointer (some ⟨ps, 0, none⟩))])] W (RetM W0 U σF fun v _ σ' => OpsIs (opsF 11 1 1 (fun x => amongB se 2 x.n) l) v σ') := by
 refine sx_enterM (f := 122) 67 U Tryz.func122 rfl rfl rfl hM ?_
 refine zs (zr (sx_NI 0 (fun b0 => ?_)))
 refine zq 2 (zn (zQ 1 (zn (zs (zB [0,1,0,0] [(b0,1)] (zn (sx_block ?_)))))))
 refine sx_loop (α := Go_) (fun x => [1,2,3,4,10,11,12,20,21,22].zip [(I6 11),(I6 1),(I6 1),(.func (.func 124) #[] #[(Pt ps 0)]),S0,(I6 0),(x.r.V x.m),(.slice a l.length c),(L6 l.length),(L6 x.i)]) (fun x => x.V) (fun x => ([(bK b0 (bnCs p a l.length c) 29)] ++ σF ++ x.r.B 153 x.xs)) (fun x => x.i ≤ l.length ∧ View.le U x.V ∧ RwR OpR 3 x.V x.r x.xs x.m x.L ∧ x.m ≤ 16 * x.i ∧ contO (x.L.map Prod.fst) (opsF 11 1 1 (fun x => amongB se 2 x.n) (l.drop x.i)) = opsF 11 1 1 (fun x => amongB se 2 x.n) l) (fun x => l.length - x.i) ⟨0,Rw.nil,[],0,[],U⟩ ?_ (look_zip _ _ (by kernel_rfl)) (fun _ h => h.eqv (Eq.trans (by kernel_rfl) (List.append_nil (([(bK b0 (bnCs p a l.length c) 29)] ++ σF) : Blks)).symm)) ?_
 · exact ⟨Nat.zero_le _,View.le_refl _,RwR.nil,Nat.zero_le _,contO_nil _⟩
 intro x hx
 obtain ⟨hxi,hxl,hxr,hxm,hxp⟩ := hx
 refine zQ 1 (zn (zs (sx_D (decide (((x.i : Nat) : Int) < (((l.length : Nat)) : Int))) (fun h0 => ?_) (fun h0 => ?_))))
 ·
  have h0d := of_decide_eq_true h0
  refine zk (zs (sx_block (zs (zr ?_))))
  obtain ⟨y1,hy1⟩ : ∃ y,(l)[x.i]? = some y := ⟨(l)[x.i]'(by omega),List.getElem?_eq_getElem _⟩
  obtain ⟨b1,f1,rfl,hU1⟩ := (hl.le hxl).at_ x.i y1 hy1
  refine sx_R (Pt b1 (f1 + x.i * 5)) (rIx 38 rfl b1 f1 l.length c x.i 5) ?_
  refine zU b1 (f1 + x.i * 5) y1.cs hU1 38 (.tmp 24) _ Tryz.underlying38 rfl ?_
  refine sx_NI 1 (fun b2 => ?_)
  refine sx_S 1 b2 (zn (zs (zB [0,2,0,0,0] [(b2,1)] (sx_BL 30 (y1.t != 11) (fun h1 => ?_) (fun h1 => ?_)))))
  ·
   have h1d := bne_iff_ne.1 h1
   refine zq 4 (zn (sx_T (sx_exit (zr (zq 1 (sx_E 65 (I6 (IntKind.i64.wrap (((x.i : Nat) : Int) + 1))) (I6 (((x.i : Nat) : Int) + 1)) i6v ?_))))))
   refine zq 1 (zn ?_)
   refine ⟨⟨x.i + 1,x.r,x.xs,x.m,x.L,x.V⟩,?_,?_,look_zip _ _ (by kernel_rfl),fun _ h => Mem.sub (List.Sublist.append (List.Sublist.append (List.sublist_append_left _ _) (List.Sublist.refl _)) (List.Sublist.refl _)) (h.eqv (show _ = (((([(bK b0 (bnCs p (some ⟨b1,f1,none⟩) l.length c) 29)] : Blks) ++ ([(bK b2 y1.cs 38)] : Blks)) ++ (σF)) ++ (x.r.B 153 x.xs)) from by kernel_rfl))⟩
   · exact ⟨by show x.i + 1 ≤ _; omega,hxl,hxr,by show x.m ≤ 16 * (x.i + 1); omega,by show contO (x.L.map Prod.fst) (opsF 11 1 1 (fun x => amongB se 2 x.n) (l.drop (x.i + 1))) = _; rw [opsF_skip hy1 (by rw [h1]; rfl),hxp]⟩
   · show l.length - (x.i + 1) < l.length - x.i; omega
  ·
   have h1d := bne_eq_false_iff_eq.1 h1
   refine sx_B [0,2] [(b2,5)] (sx_C 124 #[(y1.V),(Pt ps 0)] (.bool (amongB se 2 y1.n)) (fun W hM => ops2_any y1 se _ _ ps W hM.view (hse.le hxl) (hxl _ _ hps)) ?_)
   refine zq 1 (zn (sx_D (amongB se 2 y1.n) (fun h2 => ?_) (fun h2 => ?_)))
   ·
    refine sx_exit (zr (zq 1 (sx_E 65 (I6 (IntKind.i64.wrap (((x.i : Nat) : Int) + 1))) (I6 (((x.i : Nat) : Int) + 1)) i6v ?_)))
    refine zq 1 (zn ?_)
    refine ⟨⟨x.i + 1,x.r,x.xs,x.m,x.L,x.V⟩,?_,?_,look_zip _ _ (by kernel_rfl),fun _ h => Mem.sub (List.Sublist.append (List.Sublist.append (List.sublist_append_left _ _) (List.Sublist.refl _)) (List.Sublist.refl _)) (h.eqv (show _ = (((([(bK b0 (bnCs p (some ⟨b1,f1,none⟩) l.length c) 29)] : Blks) ++ ([(bK b2 y1.cs 38)] : Blks)) ++ (σF)) ++ (x.r.B 153 x.xs)) from by kernel_rfl))⟩
    · exact ⟨by show x.i + 1 ≤ _; omega,hxl,hxr,by show x.m ≤ 16 * (x.i + 1); omega,by show contO (x.L.map Prod.fst) (opsF 11 1 1 (fun x => amongB se 2 x.n) (l.drop (x.i + 1))) = _; rw [opsF_skip hy1 (by rw [h1,h2]; rfl),hxp]⟩
    · show l.length - (x.i + 1) < l.length - x.i; omega
   ·
    refine zk (zB [0,2] [(b2,1)] ?_)
    rcases Bool.eq_false_or_eq_true ((parseS y1.d).isSome) with h3 | h3
    ·
     refine sx_O 96 #[(St y1.d)] (PaRes (parseS y1.d)) (fun W hM => aParse_any eA y1.d W hM.view (hE.le hxl) (by have := hdl y1 (List.mem_of_getElem? hy1); omega)) (fun v3 V3 hV3 hP3 => ?_)
     have k5 := hxr.le hV3
     obtain ⟨a3,hq3⟩ := Option.isSome_iff_exists.1 h3
     rw [hq3] at hP3
     obtain ⟨x3,y3,z3,u3,v3,w3,rfl,hA3,hc3⟩ := hP3
     have fA3 := hA3.t
     have fB3 := hA3.p
     have fC3 := hA3.r
     have ht163 := right_t16 (parseS_spec hq3).2.1
     refine zq 3 (sx_NI 2 (fun b6 => ?_))
     refine sx_S 2 b6 (zq 1 (zn (zs (zB [0,0,0,0,3,0,0,0] [(b6,1)] (zn (sx_D (a3.c != 1) (fun h4 => ?_) (fun h4 => ?_)))))))
     ·
      have h4d := bne_iff_ne.1 h4
      refine zQ 2 (zn (sx_ret (sx_Z [10,11] [S0,(I6 2)] (fun W' hM => ?_))))
      have hz : opsF 11 1 1 (fun x => amongB se 2 x.n) l = none := contO_none hxp (opsF_bad hy1 (by rw [h1,h2]; rfl) (.inr ⟨a3,hq3,h4⟩))
      rw [hz]
      exact retM_none (hM.eqv (show _ = (([(bK b0 (bnCs p (some ⟨b1,f1,none⟩) l.length c) 29),(bK b2 y1.cs 38),(bK b6 [(.slice x3 a3.t.length u3),(I6 a3.c),(I6 a3.s.s),(St a3.s.l),(N6 a3.s.n),(N6 a3.s.v),(.slice y3 a3.p.length v3),(.slice z3 a3.r.length w3)] 96)] : Blks) ++ σF) ++ (x.r.B 153 x.xs) from by kernel_rfl)) (View.le_trans hxl hV3) ⟨rfl,rfl⟩
     ·
      have h4d := bne_eq_false_iff_eq.1 h4
      refine zk (zB [0,3,0,0] [(b6,1)] (zn (sx_block ?_)))
      refine sx_loop (α := Go_) (fun x2 => [1,2,3,4,10,11,12,14,15,16,20,21,22,23,24,25,26,27,28,29,30,31,32,33,34,35,36,37,38,39,40,41,42,43,44,45,46,47,48,49,50,51,52].zip [(I6 11),(I6 1),(I6 1),(.func (.func 124) #[] #[(Pt ps 0)]),S0,(I6 0),(x2.r.V x2.m),(Pt b2 0),(Pt b6 0),(I6 0),(Sl b1 f1 l.length c),(L6 l.length),(L6 x.i),(.bool (decide (((x.i : Nat) : Int) < (((l.length : Nat)) : Int)))),(Pt b1 (f1 + x.i * 5)),(y1.V),(Pt b2 0),(I6 y1.t),(I6 11),(.bool (y1.t != 11)),(.bool false),(.func (.func 124) #[] #[(Pt ps 0)]),(y1.V),(.bool (amongB se 2 y1.n)),(.bool (amongB se 2 y1.n)),(.tuple #[(asV a3 x3 y3 z3 u3 v3 w3),(I6 0)]),(Pt b2 4),(St y1.d),(.tuple #[(asV a3 x3 y3 z3 u3 v3 w3),(I6 0)]),(asV a3 x3 y3 z3 u3 v3 w3),(I6 0),(I6 0),(.bool false),(.bool false),(Pt b6 1),(I6 a3.c),(I6 1),(.bool (a3.c != 1)),(.bool (a3.c != 1)),(Pt b6 0),(.slice x3 a3.t.length u3),(L6 a3.t.length),(L6 x2.i)]) (fun x2 => V3) (fun x2 => ([(bK b0 (bnCs p (some ⟨b1,f1,none⟩) l.length c) 29),(bK b2 y1.cs 38),(bK b6 [(.slice x3 a3.t.length u3),(I6 a3.c),(I6 a3.s.s),(St a3.s.l),(N6 a3.s.n),(N6 a3.s.v),(.slice y3 a3.p.length v3),(.slice z3 a3.r.length w3)] 96)] ++ σF ++ x2.r.B 153 x2.xs)) (fun x2 => x2.i ≤ a3.t.length ∧ RwR OpR 3 V3 x2.r x2.xs x2.m x2.L ∧ (x2.m = x.m + x2.i ∧ x2.L.map Prod.fst = x.L.map Prod.fst ++ opsOf 1 y1.n (a3.t.take x2.i))) (fun x2 => a3.t.length - x2.i) ⟨0,x.r,x.xs,x.m,x.L,V3⟩ ?_ (look_zip _ _ (by kernel_rfl)) (fun _ h => h.eqv (by kernel_rfl)) ?_
      · exact ⟨Nat.zero_le _,k5,rfl,by show _ = _ ++ opsOf 1 _ []; rw [show opsOf 1 y1.n [] = [] from rfl,List.append_nil]⟩
      intro x2 hx2
      obtain ⟨hx2i,hx2r,hx2p⟩ := hx2
      refine zQ 1 (zn (zs (sx_D (decide (((x2.i : Nat) : Int) < (((a3.t.length : Nat)) : Int))) (fun h5 => ?_) (fun h5 => ?_))))
      ·
       have h5d := of_decide_eq_true h5
       refine zk (zs (sx_block (zs (zr ?_))))
       obtain ⟨y7,hy7⟩ : ∃ y,(a3.t)[x2.i]? = some y := ⟨(a3.t)[x2.i]'(by omega),List.getElem?_eq_getElem _⟩
       obtain ⟨b7,f7,rfl,hU7⟩ := fA3.one hy7
       refine sx_R (Pt b7 (f7 + x2.i)) (run_ix1 _ 3 _ _ rfl b7 f7 a3.t.length u3 x2.i .i64 (by kernel_rfl) (by kernel_rfl) (by first | assumption | omega) (by kernel_rfl) (by kernel_rfl)) ?_
       refine zV b7 (f7 + x2.i) (I6 y7) hU7 3 (.tmp 54) _ Tryz.underlying3 rfl ?_
       refine zq 1 (zn (zr (sx_B [0,0,0,2,0,0] [(b2,1)] (sx_NI 3 (fun b8 => ?_)))))
       refine sx_appE x2.r x2.xs x2.m ([(bK b0 (bnCs p (some ⟨b1,f1,none⟩) l.length c) 29),(bK b2 y1.cs 38),(bK b6 [(Sl b7 f7 a3.t.length u3),(I6 a3.c),(I6 a3.s.s),(St a3.s.l),(N6 a3.s.n),(N6 a3.s.v),(.slice y3 a3.p.length v3),(.slice z3 a3.r.length w3)] 96),(bK b8 [(I6 1),(I6 y1.n),(I6 y7)] 153)] ++ σF) 153 119 3 24 1 (by kernel_rfl) hx2r.ok (.tmp 56) (.tmp 62) rfl (by kernel_rfl) b8 0 1 [(I6 1),(I6 y1.n),(I6 y7)] (by kernel_rfl) (fun W hM => rangeAt_own hM 3 b8 [(I6 1),(I6 y1.n),(I6 y7)] 153 (by kernel_rfl)) rfl (List.all_eq_true.1 (by kernel_rfl)) (by decide) (by unfold maxLen; omega) (by omega) (by kernel_rfl) (by kernel_rfl) (by kernel_rfl) (by kernel_rfl) (by kernel_rfl) (fun r9 hr9 => ?_)
       refine zq 1 (zn (zr (zq 1 (sx_E 64 (I6 (IntKind.i64.wrap (((x2.i : Nat) : Int) + 1))) (I6 (((x2.i : Nat) : Int) + 1)) i6v ?_))))
       refine zq 1 (zn ?_)
       refine ⟨⟨x2.i + 1,r9,(x2.xs ++ [(I6 1),(I6 y1.n),(I6 y7)]),(x2.m + 1),x2.L ++ [(⟨1,y1.n,y7⟩,[(I6 1),(I6 y1.n),(I6 y7)])],V3⟩,?_,?_,look_zip _ _ (by kernel_rfl),fun _ h => Mem.sub (List.Sublist.append (List.Sublist.append (List.sublist_append_left _ _) (List.Sublist.refl _)) (List.Sublist.refl _)) (h.eqv (show _ = (((([(bK b0 (bnCs p (some ⟨b1,f1,none⟩) l.length c) 29),(bK b2 y1.cs 38),(bK b6 [(Sl b7 f7 a3.t.length u3),(I6 a3.c),(I6 a3.s.s),(St a3.s.l),(N6 a3.s.n),(N6 a3.s.v),(.slice y3 a3.p.length v3),(.slice z3 a3.r.length w3)] 96)] : Blks) ++ ([(bK b8 [(I6 1),(I6 y1.n),(I6 y7)] 153)] : Blks)) ++ (σF)) ++ (r9.B 153 (x2.xs ++ [(I6 1),(I6 y1.n),(I6 y7)]))) from by kernel_rfl))⟩
       · exact ⟨by show x2.i + 1 ≤ _; omega,RwR.snoc hx2r rfl hr9,by show x2.m + 1 = x.m + (x2.i + 1); omega,by rw [List.map_append,hx2p.2,show opsOf 1 y1.n (a3.t.take (x2.i + 1)) = opsOf 1 y1.n (a3.t.take x2.i) ++ [⟨1,y1.n,y7⟩] from take_map_succ _ hy7,List.append_assoc]; rfl⟩
       · show a3.t.length - (x2.i + 1) < a3.t.length - x2.i; omega
      ·
       have h5d := of_decide_eq_false h5
       refine sx_exit (zr (zq 1 (sx_E 65 (I6 (IntKind.i64.wrap (((x.i : Nat) : Int) + 1))) (I6 (((x.i : Nat) : Int) + 1)) i6v ?_)))
       refine zq 1 (zn ?_)
       refine ⟨⟨x.i + 1,x2.r,x2.xs,x2.m,x2.L,V3⟩,?_,?_,look_zip _ _ (by kernel_rfl),fun _ h => Mem.sub (List.Sublist.append (List.Sublist.append (List.sublist_append_left _ _) (List.Sublist.refl _)) (List.Sublist.refl _)) (h.eqv (show _ = (((([(bK b0 (bnCs p (some ⟨b1,f1,none⟩) l.length c) 29)] : Blks) ++ ([(bK b2 y1.cs 38),(bK b6 [(.slice x3 a3.t.length u3),(I6 a3.c),(I6 a3.s.s),(St a3.s.l),(N6 a3.s.n),(N6 a3.s.v),(.slice y3 a3.p.length v3),(.slice z3 a3.r.length w3)] 96)] : Blks)) ++ (σF)) ++ (x2.r.B 153 x2.xs)) from by kernel_rfl))⟩
       · exact ⟨by show x.i + 1 ≤ _; omega,(View.le_trans hxl hV3),hx2r,by show x2.m ≤ 16 * (x.i + 1); omega,by show contO (x2.L.map Prod.fst) (opsF 11 1 1 (fun x => amongB se 2 x.n) (l.drop (x.i + 1))) = _; rw [hx2p.2,List.take_of_length_le (by omega),opsF_take hy1 (by rw [h1,h2]; rfl) hq3 h4,hxp]⟩
       · show l.length - (x.i + 1) < l.length - x.i; omega
    ·
     refine sx_O 96 #[(St y1.d)] (PaRes (parseS y1.d)) (fun W hM => aParse_any eA y1.d W hM.view (hE.le hxl) (by have := hdl y1 (List.mem_of_getElem? hy1); omega)) (fun v10 V10 hV10 hP10 => ?_)
     have hq10 := Option.not_isSome_iff_eq_none.1 (by rw [h3]; exact Bool.false_ne_true)
     rw [hq10] at hP10
     obtain rfl := hP10
     refine zq 3 (sx_NI 2 (fun b13 => ?_))
     refine sx_S 2 b13 (zq 1 (zn (zs (zQ 8 (zn (sx_T (zQ 2 (zn (sx_ret (sx_Z [10,11] [S0,(I6 2)] (fun W' hM => ?_)))))))))))
     have hz : opsF 11 1 1 (fun x => amongB se 2 x.n) l = none := contO_none hxp (opsF_bad hy1 (by rw [h1,h2]; rfl) (.inl hq10))
     rw [hz]
     exact retM_none (hM.eqv (show _ = (([(bK b0 (bnCs p (some ⟨b1,f1,none⟩) l.length c) 29),(bK b2 y1.cs 38),(b13,.cells [S0,(I6 0),(I6 0),(St []),(U6 0),(U6 0),S0,S0].toArray 96 (0,0))] : Blks) ++ σF) ++ (x.r.B 153 x.xs) from by kernel_rfl)) (View.le_trans hxl hV10) ⟨rfl,rfl⟩
 ·
  have h0d := of_decide_eq_false h0
  refine sx_exit (zQ 3 (zn (sx_ret (sx_Z [10,11] [(x.r.V x.m),(I6 0)] (fun W' hM => ?_)))))
  have hz : opsF 11 1 1 (fun x => amongB se 2 x.n) l = some (x.L.map Prod.fst) := contO_done (by rw [← hxp,drop_all (by omega)]; rfl)
  rw [hz]
  have hm9 : x.m = (x.L.map Prod.fst).length := by rw [List.length_map]; exact hxr.m
  have hr9 : RwR OpR 3 View.no x.r x.xs x.m x.L := hxr.opAny
  rw [hm9] at hr9
  exact retM_rowOut (hM.eqv (show _ = (([(bK b0 (bnCs p a l.length c) 29)] : Blks) ++ σF) ++ (x.r.B 153 x.xs) from by kernel_rfl)) hxl ⟨x.r,x.xs,x.L,by show Value.tuple #[x.r.V x.m,.int .i64 0] = _; rw [← hm9],rfl,hr9,rfl⟩
def allU (W : World) : View := fun a => W.cell? a
theorem Mem.all (W : World) : Mem ⟨W, allU W⟩ (allU W) ([] ++ []) W := ⟨Below.refl _ _, fun _ _ h _ => h, fun _ _ h => h, fun k b o h => by simp at h, fun j k x y h => by simp at h⟩
theorem Mem.nest {W0 : Cx} {W W' : World} {U V : View} {σ σ' : Blks} (hM : Mem W0 U σ W) (h : Mem ⟨W, allU W⟩ V (σ' ++ []) W') : Mem W0 U (σ' ++ σ) W' := by
 rw [List.append_nil] at h
 have hb : Below W.heap.size W W' := h.below
 have hc := hM.call hb
 have hlt : ∀ (k : Nat) (x : Nat × Obj), σ[k]? = some x → x.1 < W.heap.size := fun k x hk => lt_of_heap (hM.own k x.1 x.2 hk).1
 have hge : ∀ (k : Nat) (x : Nat × Obj), σ'[k]? = some x → W.heap.size ≤ x.1 := fun k x hk => (h.own k x.1 x.2 hk).2.1
 have hsz := hM.below.size
 have hU : ∀ a : Addr, W.heap.size ≤ a.block → U a = none := by
  intro a ha
  cases hu : U a with
  | none => rfl
  | some v => have := cell_lt (hM.view a v hu); omega
 have key : ∀ (i : Nat) (z : Nat × Obj), (σ' ++ σ)[i]? = some z → (i < σ'.length ∧ σ'[i]? = some z) ∨ (σ'.length ≤ i ∧ σ[i - σ'.length]? = some z) := by
  intro i z hi
  rw [List.getElem?_append] at hi
  split at hi
  · next hl => exact .inl ⟨hl, hi⟩
  · next hg => exact .inr ⟨by omega, hi⟩
 refine ⟨hc.below, hc.old, hc.view, fun k b x hk => ?_, fun j k x y hj hk e => ?_⟩
 ·
  rcases key k _ hk with ⟨_, hk2⟩ | ⟨_, hk2⟩
  ·
   obtain ⟨q1, q2, q3⟩ := h.own k b x hk2
   have q2' : W.heap.size ≤ b := q2
   exact ⟨q1, by omega, fun a ha => hU a (by omega)⟩
  · exact hc.own _ b x hk2
 ·
  rcases key j x hj with ⟨_, hj2⟩ | ⟨hj1, hj2⟩ <;> rcases key k y hk with ⟨_, hk2⟩ | ⟨hk1, hk2⟩
  · exact h.apart j k x y hj2 hk2 e
  ·
   have := hge j x hj2
   have := hlt _ y hk2
   omega
  ·
   have := hge k y hk2
   have := hlt _ x hj2
   omega
  ·
   have := hM.apart _ _ x y hj2 hk2 e
   omega
section
variable {P : Program} {n : Nat} {W0 : Cx} {Q : XQ} {s : Slots} {U : View} {σ : Blks} {ops : Array Oper} {l : List Oper} {o : Oper}
theorem sx_callP (f : FuncId) (args : Array Value) (Φ : Value → Blks → Prop) (he : enters P s o = some (f, args)) (hc : ∀ W, Mem W0 U σ W → Calls P f args W (RetM ⟨W, allU W⟩ (allU W) [] fun v _ σ' => Φ v σ')) (hd : dstOk n o = true) (hw : wantS ops s o = some true)
  (h : ∀ v σ', Φ v σ' → SXL P n W0 Q ops l (putS o v s) U (σ ++ σ')) : SXL P n W0 Q ops (o :: l) s U σ :=
 sx_callX f args he hd hw fun W hM => (hc W hM).mono fun _ W' ⟨v, V, σ', he, hl, hM', hΦ⟩ => ⟨v, _, U, σ ++ σ', he, (hM.nest hM').perm List.perm_append_comm, rfl, h v σ' hΦ⟩
theorem run_ap0 (t e : TypeId) (z : Nat) (x y : Operand) (ho : o.op = .call { callee := .builtin .append, args := #[x, y], argTypes := #[t, t] }) (a a2 : Option Addr) (m c c2 : Nat) (hx : evS s x = some (.slice a m c)) (hy : evS s y = some (.slice a2 0 c2)) (hc : m ≤ c) (hu : P.underlying t = some (.slice e)) (hs : (P.info? e).map (·.size) = some z) (W : World) :
  (execOp (ev s) o).run P W = .ok (.value (.slice a m c)) W := by
 have hz := size_run hs W
 unfold execOp
 simp only [ho, resolve, invoke, builtin, Sem.run_bind, Sem.run_pure, Result.andThen_ok, List.map_toArray, List.map_cons, List.map_nil, ev_of hx, ev_of hy, Builtin.append_]
 cases a <;> cases a2 <;> simp [run_underlying hu W, hz, Builtin.lenOf, Builtin.firstCells, storeCells, hc, loadCells, loadCellsFrom]
end
theorem Mem.rowOps {W0 : Cx} {U V' : View} {W : World} {r : Rw} {xs : List Value} {m : Nat} {L : List (Op × List Value)} {σ1 : Blks} {e : TypeId} (hM : Mem W0 U (σ1 ++ r.B e xs) W) (hr : RwR OpR 3 V' r xs m L) (h47 : m ≤ R47) : ∃ a c, r.V m = .slice a m c ∧ m ≤ c ∧ LsAt OpR 3 (allU W) a (L.map Prod.fst) := by
 obtain ⟨a, c, V, hl, hA, hv, hc, hM'⟩ := hM.freezeRwC hr.ok
 exact ⟨a, c, hv, hc, (hr.opAny (V' := View.no)).done (by decide) (RowAt.le hM'.view hA) (View.no_le _) h47⟩
theorem Rw.openR {r : Rw} {z m : Nat} {xs : List Value} (h : r.ok z m xs) (hm : 0 < m) : ∃ b c junk, r = .row b c junk := by
 cases r with
 | nil => obtain ⟨rfl, _⟩ := h; omega
 | row b c junk => exact ⟨b, c, junk, rfl⟩
theorem Mem.rowRange {W0 : Cx} {U : View} {W : World} {σ1 ρ : Blks} {b c : Nat} {junk xs : List Value} {e : TypeId} (hM : Mem W0 U ((σ1 ++ (Rw.row b c junk).B e xs) ++ ρ) W) : W.rangeAt b 0 xs := by
 have hM2 : Mem W0 U (σ1 ++ ([(b, .cells (xs ++ junk).toArray e (0, 0))] ++ ρ)) W := by
  have := hM
  rw [List.append_assoc] at this
  exact this
 have hr := rangeAt_own hM2 (σ1.length + 0) b (xs ++ junk) e (getElem?_mid σ1 [(b, Obj.cells (xs ++ junk).toArray e (0, 0))] ρ 0 _ rfl)
 exact fun j v hj => hr j v (by rw [List.getElem?_append_left (List.getElem?_eq_some_iff.1 hj).1]; exact hj)
theorem RwR.ones {α : Type} {R : View → α → List Value → Prop} {z : Nat} [RecOk R z] {V : View} {r : Rw} {xs : List Value} {m : Nat} {L : List (α × List Value)} (hr : RwR R z V r xs m L) : ∀ u ∈ xs, u.oneCell' = true := by
 rw [hr.xs]
 exact hr.all.one
theorem RwR.cat {α : Type} {R : View → α → List Value → Prop} {z : Nat} {V : View} {r r2 r' : Rw} {xs xs2 : List Value} {m k : Nat} {L L2 : List (α × List Value)} (hr : RwR R z V r xs m L) (hr2 : RwR R z V r2 xs2 k L2) (hok : r'.ok z (m + k) (xs ++ xs2)) : RwR R z V r' (xs ++ xs2) (m + k) (L ++ L2) :=
 ⟨hok, by rw [hr.xs, hr2.xs, List.flatMap_append], by rw [hr.m, hr2.m, List.length_append], hr.all.app hr2.all⟩
theorem opsF_len {typ kind ctx : Int} {out : Bk → Bool} : ∀ {l : List Bk} {q : List Op}, opsF typ kind ctx out l = some q → q.length ≤ 16 * l.length
 | [], q, h => by
  rw [opsF] at h
  obtain rfl := Option.some.inj h
  exact Nat.zero_le _
 | x :: l, q, h => by
  rw [opsF] at h
  rw [List.length_cons]
  split at h
  ·
   have := opsF_len h
   omega
  ·
   split at h
   · cases h
   ·
    next a ha =>
    split at h
    · cases h
    ·
     split at h
     · cases h
     ·
      next r hr =>
      obtain rfl := Option.some.inj h
      have h1 := opsF_len hr
      have h2 := right_t16 (parseS_spec ha).2.1
      rw [List.length_append, show (opsOf kind x.n a.t).length = a.t.length from List.length_map _]
      omega
theorem opsB_some {l : List Bk} {se si : List Op} (h1 : opsF 12 2 2 (fun _ => false) l = some se) (h2 : opsF 11 1 1 (fun x => amongB se 2 x.n) l = some si) : opsB l = some (se ++ si) := by
 unfold opsB
 rw [h1]
 simp only
 rw [h2]
theorem opsB_no1 {l : List Bk} (h1 : opsF 12 2 2 (fun _ => false) l = none) : opsB l = none := by
 unfold opsB
 rw [h1]
theorem opsB_no2 {l : List Bk} {se : List Op} (h1 : opsF 12 2 2 (fun _ => false) l = some se) (h2 : opsF 11 1 1 (fun x => amongB se 2 x.n) l = none) : opsB l = none := by
 unfold opsB
 rw [h1]
 simp only
 rw [h2]
set_option maxHeartbeats 16000000 in
theorem mOps_any (eA : Addr) (p : Pr) (l : List Bk) (a : Option Addr) (c : Nat) {W0 : Cx} {U : View} {σF : Blks} {W : World} (hE : EF U eA) (hl : BksAt U a l) (hdl : ∀ x ∈ l, x.d.length ≤ 100000) (hsm : l.length ≤ 1000) (hM : Mem W0 U ([] ++ σF) W) : Calls Tryz.prog 82 #[bnV p a l.length c] W (RetM W0 U σF fun v _ σ' => OpsIs (opsB l) v σ') := by
 have hl16 := fun (typ kind ctx : Int) (out : Bk → Bool) (q : List Op) (h : opsF typ kind ctx out l = some q) => opsF_len h
 refine sx_enterM (f := 82) 27 U Tryz.func82 rfl rfl rfl hM ?_
 refine zs (zr (sx_NI 0 (fun b0 => ?_)))
 refine zq 2 (zn (zB [1] [(b0,20)] ?_))
 rcases Bool.eq_false_or_eq_true ((opsF 12 2 2 (fun _ => false) l).isSome) with h0 | h0
 ·
  refine sx_callP 122 #[(bnV p a l.length c),(I6 12),(I6 2),(I6 2),(.func (.func 123) #[] #[])] (fun v σ' => OpsIs (opsF 12 2 2 (fun _ => false) l) v σ') (by kernel_rfl) (fun W hM => opsSeal_any eA p l _ _ (hE.le hM.view) (hl.le hM.view) hdl (by omega) (Mem.all W)) (by kernel_rfl) (by kernel_rfl) (fun v1 s1 hP1 => ?_)
  obtain ⟨q1,hq1⟩ := Option.isSome_iff_exists.1 h0
  rw [hq1] at hP1
  obtain ⟨r1,xs1,L1,rfl,rfl,hr1,hL1⟩ := hP1
  have hn1 := opsF_len hq1
  refine zq 3 (sx_NI 1 (fun b2 => ?_))
  refine sx_sR 1 b2 0 q1.length 3 r1 xs1 hr1.ok [S0] 119 119 _ _ rfl (by kernel_rfl) (by kernel_rfl) (by kernel_rfl) (fun a c => by kernel_rfl) (by kernel_rfl) rfl (by kernel_rfl) ?_
  refine zq 1 (zn (zs (zQ 2 (zn (sx_F (zk (zB [1,0] [(b0,20)] ?_)))))))
  rcases Bool.eq_false_or_eq_true ((opsF 11 1 1 (fun x => amongB q1 2 x.n) l).isSome) with h1 | h1
  ·
   refine sx_callP 122 #[(bnV p a l.length c),(I6 11),(I6 1),(I6 1),(.func (.func 124) #[] #[(Pt b2 0)])] (fun v σ' => OpsIs (opsF 11 1 1 (fun x => amongB q1 2 x.n) l) v σ') (by kernel_rfl) (fun W hM => (by obtain ⟨a9,c9,hv9,hc9,hL9⟩ := Mem.rowOps (hM.eqv (show _ = (([(bK b0 (bnCs p a l.length c) 29),(bK b2 [(r1.V q1.length)] 119)] ++ σF) : Blks) ++ r1.B 153 xs1 from by kernel_rfl)) hr1 (by unfold R47; omega); have hr9 := rangeAt_own hM 1 b2 [(r1.V q1.length)] 119 (by kernel_rfl) 0 _ rfl; rw [hv9] at hr9; rw [hL1] at hL9; exact opsSign_any eA p l _ _ q1 a9 c9 b2 (hE.le hM.view) (hl.le hM.view) hdl (by omega) hL9 hr9 (Mem.all W))) (by kernel_rfl) (by kernel_rfl) (fun v3 s3 hP3 => ?_)
   obtain ⟨q3,hq3⟩ := Option.isSome_iff_exists.1 h1
   rw [hq3] at hP3
   obtain ⟨r3,xs3,L3,rfl,rfl,hr3,hL3⟩ := hP3
   have hn3 := opsF_len hq3
   refine zq 5 (zn (zs (zQ 2 (zn (sx_F (zk (zB [2,0] [(b2,1)] ?_)))))))
   refine sx_permR ([(bK b0 (bnCs p a l.length c) 29),(bK b2 [(r1.V q1.length)] 119)] ++ σF) (r1.B 153 xs1) (r3.B 153 xs3) (by kernel_rfl) ?_
   rcases Bool.eq_false_or_eq_true (decide (0 < q3.length)) with h2 | h2
   ·
    have h2d := of_decide_eq_true h2
    obtain ⟨b4,c4,j4,rfl⟩ := Rw.openR hr3.ok (of_decide_eq_true h2)
    refine sx_appE r1 xs1 q1.length ([(bK b0 (bnCs p a l.length c) 29),(bK b2 [(r1.V q1.length)] 119)] ++ σF ++ (Rw.row b4 c4 j4).B 153 xs3) 153 119 3 24 q3.length (by kernel_rfl) hr1.ok (.tmp 24) (.tmp 25) rfl (by kernel_rfl) b4 0 c4 xs3 (by kernel_rfl) (fun W hM => Mem.rowRange (σ1 := ([(bK b0 (bnCs p a l.length c) 29),(bK b2 [(r1.V q1.length)] 119)] ++ σF)) (ρ := r1.B 153 xs1) (c := c4) (junk := j4) (e := 153) (hM.eqv (by kernel_rfl))) hr3.ok.1 hr3.ones (of_decide_eq_true h2) (by unfold maxLen; omega) (by omega) (by kernel_rfl) (by kernel_rfl) (by kernel_rfl) (by kernel_rfl) (by kernel_rfl) (fun r5 hr5 => ?_)
    refine zq 2 (zn (sx_ret (sx_Z [2,3] [(r5.V (q1.length + q3.length)),(I6 0)] (fun W' hM => ?_))))
    rw [opsB_some hq1 hq3]
    have hM9 := (hM.eqv (show _ = (([(bK b0 (bnCs p a l.length c) 29),(bK b2 [(r1.V q1.length)] 119)] : Blks) ++ σF ++ ((Rw.row b4 c4 j4).B 153 xs3)) ++ (r5.B 153 (xs1 ++ xs3)) from by kernel_rfl))
    have hM8 := hM9.sub (List.Sublist.append (List.sublist_append_left _ _) (List.Sublist.refl _))
    exact retM_rowOut hM8 (View.le_refl _) ⟨_,_,_,by show Value.tuple #[r5.V ((q1.length + q3.length)),.int .i64 0] = _; rw [← List.length_append],rfl,by rw [List.length_append]; exact RwR.cat hr1 hr3 hr5,by rw [List.map_append,hL1,hL3]⟩
   ·
    have h2d := of_decide_eq_false h2
    obtain ⟨ya6,yc6,yv6⟩ := Rw.form hr3.ok
    obtain ⟨xa6,xc6,xv6,xh6⟩ := Rw.formC hr1.ok
    refine sx_R ((r1.V q1.length)) (fun W => (run_ap0 119 153 3 _ _ rfl xa6 ya6 q1.length xc6 yc6 (zX xv6) (zE' yv6 (show q3.length = 0 from by have := of_decide_eq_false h2; omega)) xh6 Tryz.underlying119 (by kernel_rfl) W).trans (by rw [xv6])) ?_
    refine zq 2 (zn (sx_ret (sx_Z [2,3] [(r1.V q1.length),(I6 0)] (fun W' hM => ?_))))
    rw [opsB_some hq1 hq3]
    have he9 : q3 = [] := List.length_eq_zero_iff.1 (by have := of_decide_eq_false h2; omega)
    rw [he9,List.append_nil]
    have hM9 := (hM.eqv (show _ = (([(bK b0 (bnCs p a l.length c) 29),(bK b2 [(r1.V q1.length)] 119)] : Blks) ++ σF ++ (r3.B 153 xs3)) ++ (r1.B 153 xs1) from by kernel_rfl))
    have hM8 := hM9.sub (List.Sublist.append (List.sublist_append_left _ _) (List.Sublist.refl _))
    exact retM_rowOut hM8 (View.le_refl _) ⟨_,_,_,rfl,rfl,hr1,hL1⟩
  ·
   refine sx_callP 122 #[(bnV p a l.length c),(I6 11),(I6 1),(I6 1),(.func (.func 124) #[] #[(Pt b2 0)])] (fun v σ' => OpsIs (opsF 11 1 1 (fun x => amongB q1 2 x.n) l) v σ') (by kernel_rfl) (fun W hM => (by obtain ⟨a9,c9,hv9,hc9,hL9⟩ := Mem.rowOps (hM.eqv (show _ = (([(bK b0 (bnCs p a l.length c) 29),(bK b2 [(r1.V q1.length)] 119)] ++ σF) : Blks) ++ r1.B 153 xs1 from by kernel_rfl)) hr1 (by unfold R47; omega); have hr9 := rangeAt_own hM 1 b2 [(r1.V q1.length)] 119 (by kernel_rfl) 0 _ rfl; rw [hv9] at hr9; rw [hL1] at hL9; exact opsSign_any eA p l _ _ q1 a9 c9 b2 (hE.le hM.view) (hl.le hM.view) hdl (by omega) hL9 hr9 (Mem.all W))) (by kernel_rfl) (by kernel_rfl) (fun v7 s7 hP7 => ?_)
   have hq7 := Option.not_isSome_iff_eq_none.1 (by rw [h1]; exact Bool.false_ne_true)
   rw [hq7] at hP7
   obtain ⟨rfl,rfl⟩ := hP7
   refine sx_mem U _ (fun _ h => h.eqv (List.append_nil _)) ?_
   refine zq 5 (zn (zs (zQ 2 (zn (sx_T (zQ 3 (zn (sx_ret (sx_Z [2,3] [S0,(I6 2)] (fun W' hM => ?_))))))))))
   rw [opsB_no2 hq1 hq7]
   exact retM_none (hM.eqv (show _ = (([(bK b0 (bnCs p a l.length c) 29),(bK b2 [(r1.V q1.length)] 119)] : Blks) ++ σF) ++ (r1.B 153 xs1) from by kernel_rfl)) (View.le_refl _) ⟨rfl,rfl⟩
 ·
  refine sx_callP 122 #[(bnV p a l.length c),(I6 12),(I6 2),(I6 2),(.func (.func 123) #[] #[])] (fun v σ' => OpsIs (opsF 12 2 2 (fun _ => false) l) v σ') (by kernel_rfl) (fun W hM => opsSeal_any eA p l _ _ (hE.le hM.view) (hl.le hM.view) hdl (by omega) (Mem.all W)) (by kernel_rfl) (by kernel_rfl) (fun v8 s8 hP8 => ?_)
  have hq8 := Option.not_isSome_iff_eq_none.1 (by rw [h0]; exact Bool.false_ne_true)
  rw [hq8] at hP8
  obtain ⟨rfl,rfl⟩ := hP8
  refine sx_mem U _ (fun _ h => h.eqv (List.append_nil _)) ?_
  refine zq 3 (sx_NI 1 (fun b9 => ?_))
  refine sx_S 1 b9 (zq 1 (zn (zs (zQ 2 (zn (sx_T (zQ 3 (zn (sx_ret (sx_Z [2,3] [S0,(I6 2)] (fun W' hM => ?_)))))))))))
  rw [opsB_no1 hq8]
  exact retM_none (hM.eqv ((show _ = (([(bK b0 (bnCs p a l.length c) 29),(bK b9 [S0] 119)] : Blks) ++ σF) from by kernel_rfl).trans (List.append_nil _).symm)) (View.le_refl _) ⟨rfl,rfl⟩
end Go.Proofs.YtcdjakemdlinhaaGreatDoor.Sx
namespace Go.Proofs.YtcdjakemdlinhaaGreatDoor.Sx
open Go.ChangeShapes Go.WideShapes Go.ChangeAt Go.RowKit Go.Deep Go.ChangeMaps Go.MapKept
abbrev opKey : Int × Int → Value := fun z => .agg #[.int .i64 z.1, .int .i64 0, .int .i64 z.2]
theorem op_equal (a1 a2 a3 b1 b2 b3 : Int) (w : World) : (Op.equal 153 (.agg #[.int .i64 a1, .int .i64 a2, .int .i64 a3]) (.agg #[.int .i64 b1, .int .i64 b2, .int .i64 b3])).run Tryz.prog w = .ok (decide (a1 = b1 ∧ a2 = b2 ∧ a3 = b3)) w := by
 have h : (binOp .eql 153 (.agg #[.int .i64 a1, .int .i64 a2, .int .i64 a3]) (.agg #[.int .i64 b1, .int .i64 b2, .int .i64 b3])).run Tryz.prog w = .ok (.bool (decide (a1 = b1 ∧ a2 = b2 ∧ a3 = b3))) w := by
  go_simp
  (repeat' split) <;> simp_all
 unfold binOp at h
 simp only [Sem.run_bind] at h
 generalize (Op.equal 153 (.agg #[.int .i64 a1, .int .i64 a2, .int .i64 a3]) (.agg #[.int .i64 b1, .int .i64 b2, .int .i64 b3])).run Tryz.prog w = R at h ⊢
 cases R with
 | ok r w' =>
  simp only [Result.andThen_ok, Sem.run_pure, Result.ok.injEq, Value.bool.injEq] at h
  rw [h.1, h.2]
 | _ => cases h
theorem findAsking_op (x : Int × Int) (w : World) : ∀ (i : Nat) (m : List ((Int × Int) × Int)), (Instr.findAsking 153 (opKey x) (mEs opKey i m) i).run Tryz.prog w = .ok (mfind x i m) w
 | _, [] => rfl
 | i, (k, v) :: r => by
  rw [mEs, Instr.findAsking, mfind]
  simp only [Sem.run_bind, op_equal, Result.andThen_ok]
  by_cases hb : x = k
  ·
   subst hb
   simp
  ·
   have h1 : (x == k) = false := beq_eq_false_iff_ne.2 hb
   have h2 : ¬ (x.1 = k.1 ∧ True ∧ x.2 = k.2) := fun h => hb (Prod.ext h.1 h.2.2)
   rw [h1, decide_eq_false h2]
   simp only [Bool.false_eq_true, if_false]
   exact findAsking_op x w (i + 1) r
theorem mapKey_op : MapKey Tryz.prog 231 opKey :=
 ⟨153, 3, Tryz.underlying231, (fun w => by kernel_rfl), fun w b x => by kernel_rfl, fun w x m => by
  cases m with
  | nil => simp [Instr.findKey, mEs, Instr.findNow, mfind, run_underlying Tryz.underlying153]
  | cons e r =>
   obtain ⟨k, v⟩ := e
   have h := findAsking_op x w 0 ((k, v) :: r)
   have hn : ∀ fs, Instr.findNow (.struct fs) (opKey x) (mEs opKey 0 ((k, v) :: r)) 0 = none := fun fs => rfl
   simp only [Instr.findKey, Sem.run_bind, run_underlying Tryz.underlying153, Result.andThen_ok]
   rw [hn]
   exact h, fun w x => by
  have : Instr.sameBits 10000 (opKey x) (opKey x) = true := by simp [Instr.sameBits]
  unfold Instr.keyThatStays
  rw [if_pos this]
  rfl⟩
theorem mEs_find {α : Type} (key : α → Value) : ∀ (i : Nat) (m : List (α × Int)) (k : Nat), k < m.length → (mEs key i m).findIdx? (fun e => (e.born : Int) == ((i + k : Nat) : Int)) = some k
 | i, [], k, h => by simp at h
 | i, (a, u) :: r, 0, _ => by simp [mEs, List.findIdx?_cons]
 | i, (a, u) :: r, k + 1, h => by
  have ih := mEs_find key (i + 1) r k (by simpa using h)
  rw [mEs, List.findIdx?_cons]
  have hne : (((i : Nat) : Int) == ((i + (k + 1) : Nat) : Int)) = false := beq_eq_false_iff_ne.2 (by omega)
  simp only [hne, Bool.false_eq_true, if_false]
  rw [show i + (k + 1) = i + 1 + k by omega, ih]
  rfl
theorem modify_last {β : Type} (f : β → β) (e : β) : ∀ l : List β, (l ++ [e]).modify l.length f = l ++ [f e]
 | [] => rfl
 | x :: l => by
  have := modify_last f e l
  rw [List.cons_append, List.length_cons, List.modify_succ_cons, this]
  rfl
theorem mput_self {α : Type} [BEq α] (x : α) : ∀ (i : Nat) (m : List (α × Int)) (p : Nat × Value), mfind x i m = some p → mput x (mget x m) m = m
 | i, [], _, h => by cases h
 | i, (k, u) :: r, p, h => by
  unfold mfind at h
  split at h
  · next he => rw [mput, if_pos he, mget, if_pos he]
  · next hne => rw [mput, if_neg hne, mget, if_neg hne, mput_self x (i + 1) r p h]
section
variable {α : Type} [BEq α] [LawfulBEq α]
def mpos (x : α) (m : List (α × Int)) : Nat := match mfind x 0 m with
 | some (j, _) => j
 | none => m.length
theorem mEs_at (key : α → Value) (x : α) : ∀ (i : Nat) (m : List (α × Int)) (j : Nat) (y : Value), mfind x i m = some (j, y) → (mEs key i m)[j - i]? = some { key := key x, val := .int .i64 (mget x m), born := j } ∧ j - i < m.length
 | i, [], _, _, h => by cases h
 | i, (k, u) :: r, j, y, h => by
  unfold mfind at h
  split at h
  ·
   next he =>
   simp only [Option.some.injEq, Prod.mk.injEq] at h
   obtain ⟨rfl, rfl⟩ := h
   rw [Nat.sub_self, mEs, mget, if_pos he, eq_of_beq he]
   exact ⟨rfl, by simp⟩
  ·
   next hne =>
   have hge := mfind_ge x _ r j y h
   obtain ⟨h1, h2⟩ := mEs_at key x (i + 1) r j y h
   have hji : j - i = (j - (i + 1)) + 1 := by omega
   rw [hji, mEs, mget, if_neg hne, List.getElem?_cons_succ]
   exact ⟨h1, by rw [List.length_cons]; omega⟩
theorem modify_same {β : Type} (f : β → β) : ∀ (l : List β) (j : Nat), (∀ e, l[j]? = some e → f e = e) → l.modify j f = l
 | [], j, _ => by cases j <;> rfl
 | x :: l, 0, h => by
  have := h x rfl
  simp [this]
 | x :: l, j + 1, h => by
  have := modify_same f l j fun e he => h e (by simpa using he)
  simp [this]
variable {P : Program} {T : TypeId} {key : α → Value} {w : World} {b : Nat} {m : List (α × Int)}
theorem mO_entry (K : MapKey P T key) (hb : w.heap[b]? = some (mO key m)) (x : α) : (Instr.mapEntry T (.map (some b)) (key x)).run P w = .ok (.tuple #[.int .i64 (mget x m), .int .i64 ((mpos x m : Nat) : Int)]) (setBlock w b (mO key (mput x (mget x m) m))) := by
 obtain ⟨kt, et, hT, hz, hc, hf, hs⟩ := K.law
 unfold mO at hb
 have hf := hf w x m
 unfold mpos
 cases hx : mfind x 0 m with
 | none =>
  rw [hx] at hf
  obtain ⟨h1, h2, h3⟩ := mfind_none key x 0 0 m hx
  simp [Instr.mapEntry, run_underlying hT, Go.MapKept.run_getObj_map hb, hc, hf, hz, Go.MapKept.run_setObj_map _ hb, Result.andThen, setBlock, mO, h1, h2, h3, goInt]
 | some p =>
  obtain ⟨j, y⟩ := p
  rw [hx] at hf
  obtain ⟨_, _, h3, _⟩ := mfind_some key x 0 0 m j y hx
  obtain ⟨h4, h5⟩ := mEs_at key x 0 m j y hx
  rw [Nat.sub_zero] at h4 h5
  have hks := hs w x
  have hm := modify_same (fun e : MapEntry => { e with key := key x }) (mEs key 0 m) j fun e he => by
   rw [h4] at he
   obtain rfl := Option.some.inj he
   rfl
  rw [mput_self x 0 m _ hx]
  simp [Instr.mapEntry, run_underlying hT, Go.MapKept.run_getObj_map hb, hc, hf, h4, hks, Go.MapKept.run_setObj_map _ hb, Result.andThen, setBlock, mO, hm, h3, goInt]
theorem mO_fill (x : α) (hb : w.heap[b]? = some (mO key (mput x (mget x m) m))) (v : Int) : (Instr.entryStore T (.map (some b)) (.int .i64 ((mpos x m : Nat) : Int)) (.int .i64 v)).run P w = .ok () (setBlock w b (mO key (mput x v m))) := by
 unfold mO at hb
 unfold mpos
 cases hx : mfind x 0 m with
 | none =>
  obtain ⟨g1, g2, g3⟩ := mfind_none key x (mget x m) 0 m hx
  obtain ⟨h1, h2, h3⟩ := mfind_none key x v 0 m hx
  have hfd := mEs_find key 0 (mput x (mget x m) m) m.length (by omega)
  rw [Nat.zero_add] at hfd
  have hmod : (mEs key 0 (mput x (mget x m) m)).modify m.length (fun e => { e with val := .int .i64 v }) = mEs key 0 (mput x v m) := by
   have hl := mEs_len key 0 m
   rw [g1, h1]
   rw [← hl, modify_last]
  simp [Instr.entryStore, Go.MapKept.run_getObj_map hb, asInt, asIntOf, hfd, Go.MapKept.run_setObj_map _ hb, Result.andThen, setBlock, mO, hmod, g2, h2]
 | some p =>
  obtain ⟨j, y⟩ := p
  rw [mput_self x 0 m _ hx] at hb
  obtain ⟨h1, h2, h3, e, h4, h5⟩ := mfind_some key x v 0 m j y hx
  obtain ⟨h6, h7⟩ := mEs_at key x 0 m j y hx
  rw [Nat.sub_zero] at h1 h6 h7
  have hfd := mEs_find key 0 m j h7
  rw [Nat.zero_add] at hfd
  have hmod : (mEs key 0 m).modify j (fun e => { e with val := .int .i64 v }) = mEs key 0 (mput x v m) := by
   rw [h1]
   apply List.ext_getElem?
   intro i
   rw [List.getElem?_modify, List.getElem?_modify]
   by_cases hij : j = i
   ·
    subst hij
    rw [h6]
    rfl
   · simp [hij]
  simp [Instr.entryStore, Go.MapKept.run_getObj_map hb, asInt, asIntOf, hfd, Go.MapKept.run_setObj_map _ hb, Result.andThen, setBlock, mO, hmod, h2]
end
section
variable {P : Program} {n : Nat} {W0 : Cx} {s : Slots} {U : View} {σ0 : Blks} {ops : Array Oper} {ds : List Nat} {vs : List Sq}
structure EntQ (P : Program) (n : Nat) (W0 : Cx) (U : View) (σ σ2 : Blks) (ops : Array Oper) (ds : List Nat) (vs : List Sq) (s : Slots) (i : Nat) : Prop where
 go : ∃ (o : Oper) (ts : List Nat) (vals : (Nat → Value) → List Value) (val : Value), ops[i]? = some o ∧ o.guard = none ∧ vs[i]? = some (.val val) ∧ (∀ u, (ts.map fun x => look (depQ ops ds vs u i ++ minusS s ds) x) = (vals u).map some) ∧
  ∀ (u : Nat → Value) (V : View), View.le U V → (∀ j, waitsOn .any ops i j = true → PhiAt vs j (u j) V) → ∀ (a : Act) (W : World), RepA n (ts.zip (vals u)) a → Mem W0 V σ W → ∀ (K : Act → World → Prop) (Q : Exit → Act → World → Prop), (∀ W', Mem W0 V σ2 W' → K (a.put o.dst val) W') → o.wp P a W K Q
def ObT (P : Program) (n : Nat) (W0 : Cx) (U : View) (σ σ2 : Blks) (ops : Array Oper) (ds : List Nat) (vs : List Sq) (s : Slots) (i k : Nat) : Prop :=
 if k = i then EntQ P n W0 U σ σ2 ops ds vs s i else Oq P n W0 U σ ops ds vs s k ∧ Oq P n W0 U σ2 ops ds vs s k
theorem ObT.o {σ σ2 : Blks} {i : Nat} (k : Nat) (h1 : k ≠ i) (h : Oq P n W0 U σ ops ds vs s k) (h2 : Oq P n W0 U σ2 ops ds vs s k) : ObT P n W0 U σ σ2 ops ds vs s i k := by
 unfold ObT
 rw [if_neg h1]
 exact ⟨h, h2⟩
theorem ObT.entry {σ σ2 : Blks} {i : Nat} {o : Oper} {T : TypeId} {α : Type} [BEq α] [LawfulBEq α] {key : α → Value} (K : MapKey P T key) (k b : Nat) (m : List (α × Int)) (x : α) (xm xi : Operand) (hi : ops[i]? = some o) (hg : o.guard = none) (ho : o.op = .mapEntry T xm xi) (hvi : vs[i]? = some (.val (.tuple #[.int .i64 (mget x m), .int .i64 ((mpos x m : Nat) : Int)])))
  (ts : List Nat) (vals : (Nat → Value) → List Value) (hsl : ∀ u, (ts.map fun x => look (depQ ops ds vs u i ++ minusS s ds) x) = (vals u).map some) (hm : ∀ u, evS (ts.zip (vals u)) xm = some (.map (some b))) (hx : ∀ u, evS (ts.zip (vals u)) xi = some (key x)) (hk : σ[k]? = some (b, mO key m)) (hσ : σ.set k (b, mO key (mput x (mget x m) m)) = σ2) : ObT P n W0 U σ σ2 ops ds vs s i i := by
 unfold ObT
 rw [if_pos rfl]
 subst hσ
 refine ⟨⟨o, ts, vals, _, hi, hg, hvi, hsl, fun u V _ _ a W ha hM K' Q hK => ?_⟩⟩
 have hb := (hM.own k b _ hk).1
 unfold Oper.wp execOp
 simp only [ho, ev_rep ha (hm u), ev_rep ha (hx u), mO_entry K hb x, Sem.run_bind, Sem.run_pure, Result.andThen_ok]
 exact hK _ (hM.set k b _ _ hk rfl rfl rfl (by simp [setBlock]) (heap_setBlock_same hb _) (fun i hi => heap_setBlock_other hb _ hi))
theorem oqMap {σ : Blks} {i : Nat} {o : Oper} {T : TypeId} {α : Type} [BEq α] [LawfulBEq α] {key : α → Value} (K : MapKey P T key) (k b : Nat) (m : List (α × Int)) (x : α) (v : Int) (xm xi : Operand) (hi : ops[i]? = some o) (hg : o.guard = none) (ho : o.op = .lookup T xm xi false) (hvi : vs[i]? = some (.val (.int .i64 v))) (hv : mget x m = v)
  (ts : List Nat) (vals : (Nat → Value) → List Value) (hsl : ∀ u, (ts.map fun x => look (depQ ops ds vs u i ++ minusS s ds) x) = (vals u).map some) (hm : ∀ u, evS (ts.zip (vals u)) xm = some (.map (some b))) (hx : ∀ u, evS (ts.zip (vals u)) xi = some (key x)) (hk : σ[k]? = some (b, mO key m)) : Oq P n W0 U σ ops ds vs s i :=
 Oq.op i hi _ hvi fun u V hV hd => by
  refine ⟨by unfold wantS; rw [hg], fun a W ha hM Q K' hK => ?_⟩
  have hb := (hM.own k b _ hk).1
  have ha' := rep_zip ts _ ha (hsl u)
  unfold Oper.wp execOp
  simp only [ho, ev_rep ha' (hm u), ev_rep ha' (hx u), mO_look K hb x, Sem.run_bind, Sem.run_pure, Result.andThen_ok, hv]
  exact hK _ W hM rfl (Below.refl _ _)
structure InvT (W0 : Cx) (U : View) (σ σ2 : Blks) (vs : List Sq) (m i : Nat) (L : Nat → Bool) (u : Nat → Value) (w : World) (V : View) : Prop where
 le : View.le U V
 mem : Mem W0 V (if L i then σ2 else σ) w
 at_ : ∀ j, j < m → L j = true → sqAt vs j (u j) V
theorem sx_drawnT {id : Nat} {l : List Oper} {Q : XQ} (m f r : Nat) (ds : List Nat) (vs : List Sq) (i : Nat) (σ2 : Blks) (hm : P.follows .mixedOrders = true) (hsz : l.length = m + f) (hlen : ds.length = m)
  (hds : dstsOk l.toArray ds = true) (hnd : nodupB ds = true) (hlt : (ds.all fun d => Nat.blt d n) = true) (hedge : edgesOk .any l.toArray m = true) (htail : tailOk .any l.toArray m r = true) (hchain : chainOk l.toArray m f = true) (hmo : ∀ q ∈ vs, sqMono q)
  (hji : i < m)
  (obs : Go.Proofs.YtcdjakemdlinhaaGreatDoor.Steps (ObT P n W0 U σ0 σ2 l.toArray ds vs s i) 0 m)
  (ts : List Nat) (vals : (Nat → Value) → List Value) (hsl : ∀ u, (ts.map fun t => look (endQ u 0 ds vs ++ minusS s ds) t) = (vals u).map some)
  (h : ∀ (u : Nat → Value) (V : View), View.le U V → (∀ j, j < m → PhiAt vs j (u j) V) → SXL P n W0 Q l.toArray (l.drop m) (ts.zip (vals u)) V σ2) : SXC P n W0 Q (.region id l.toArray true) s U σ0 := by
 refine ⟨fun a W ha hM => ?_⟩
 have hn := nodup_of hnd
 have hd : ∀ d ∈ ds, d < n := fun d hd => by have := List.all_eq_true.1 hlt d hd; simpa [Nat.blt_eq] using this
 refine wp_region_inv m f r ds (fun L u w => ∃ V, InvT W0 U σ0 σ2 vs m i L u w V) hm (by simpa using hsz) hlen hds hnd hedge htail ?_ ?_ ?_
 ·
  intro u
  exact ⟨U, ⟨View.le_refl _, hM.drew, fun j _ hj => by simp at hj⟩⟩
 ·
  rintro k hkm L u w ⟨V, I⟩ hLk hwt hcl K hK
  have hob := obs.get k (Nat.zero_le _) (by omega)
  unfold ObT at hob
  split at hob
  ·
   next hki =>
   subst hki
   obtain ⟨o, ts, vals, val, ho, hgd, hvk, hsl, hgo⟩ := hob.go
   have hr := rep_fillC (a0 := a) (u := u) (V := V) (vs := vs) (ops := l.toArray) k ha hn hd fun j hj => .inl (I.at_ j (hwt j hj).2 (hwt j hj).1)
   unfold wpOp
   simp only [ho, Region.wanted, hgd, if_true]
   left
   have hmem := I.mem
   rw [hLk] at hmem
   refine hgo u V I.le (fun j hj => (I.at_ j (hwt j hj).2 (hwt j hj).1).phi) _ w (rep_zip ts _ hr (hsl u)) hmem _ _ fun W' hM' => ?_
   have := hK val W' ⟨V, ⟨I.le, by rw [if_pos rfl, if_pos rfl]; exact hM', fun j hj hL => ?_⟩⟩
   ·
    rw [ho] at this
    exact this
   ·
    by_cases e : j = k
    ·
     subst e
     rw [if_pos rfl]
     unfold sqAt
     rw [hvk]
    ·
     rw [if_neg e] at hL ⊢
     exact I.at_ j hj hL
  ·
   next hki =>
   have hOq : Oq P n W0 U (if L i then σ2 else σ0) l.toArray ds vs s k := by
    cases L i
    · exact hob.1
    · exact hob.2
   have hM0 : Mem W0 U (if L i then σ2 else σ0) w := I.mem.weak I.le
   refine (hOq.go a (up n W0 Q) ha hn hd hmo).step u w hM0 (fun j hj => (I.at_ j (hwt j hj).2 (hwt j hj).1).isQ I.mem I.le) K fun v w' hM' hE hv => ?_
   obtain ⟨V', h1, h2, h3⟩ := hv.at hM'
   obtain ⟨q1, q2, q3⟩ := Mem.join (I.mem.call hE) h2
   refine hK v w' ⟨V.or V', ⟨View.le_trans I.le q2, by have hik : (if i = k then true else L i) = L i := if_neg (fun e => hki e.symm); simp only [hik]; exact q1, fun j hj hL => ?_⟩⟩
   by_cases e : j = k
   ·
    subst e
    rw [if_pos rfl]
    exact h3.le hmo q3
   ·
    rw [if_neg e] at hL ⊢
    exact (I.at_ j hj hL).le hmo q2
 ·
  rintro L u W' ⟨V, I⟩ hL
  refine wpAny_tail f m _ W' (by simpa using hsz.symm) hchain ?_
  have hg := fun t => fillL_get ds 0 u a t hn (by rw [ha.size]; exact hd)
  have hph : ∀ j, j < m → PhiAt vs j (u j) V := fun j hj => (I.at_ j hj (hL j hj)).phi
  have hmem := I.mem
  rw [hL i hji, if_pos rfl] at hmem
  refine (h u V I.le hph).go _ W' (rep_zip ts _ (s' := endQ u 0 ds vs ++ minusS s ds) ⟨by rw [(hg 0).2.2.1, ha.size], by rw [(hg 0).2.2.2, ha.defers], fun x v hl => ?_⟩ (hsl u)) hmem
  rcases look_append _ _ _ _ hl with hl | ⟨_, hl⟩
  ·
   have hmem := look_mem _ _ _ hl
   obtain ⟨j, q, hd2, hvq, hq⟩ := endQ_mem u 0 _ _ _ _ hmem
   have hjl : j < ds.length := (List.getElem?_eq_some_iff.1 hd2).1
   rw [(hg x).1 j hd2, Nat.zero_add]
   cases q with
   | val w =>
    simp only at hq
    have := I.at_ j (by omega) (hL j (by omega))
    unfold sqAt at this
    rw [hvq] at this
    simp only at this
    rw [this, hq]
   | mem Φ => simp only [Nat.zero_add] at hq; rw [hq]
  ·
   obtain ⟨h1, h2⟩ := look_minus _ _ _ _ hl
   rw [(hg x).2.1 h1]
   exact ha.slots x v h2
end
section
variable {P : Program} {n : Nat} {W0 : Cx} {Q : XQ} {s : Slots} {U : View} {σ : Blks} {ops : Array Oper} {l : List Oper} {o : Oper} {T : TypeId} {α : Type} [BEq α] [LawfulBEq α] {key : α → Value}
theorem sx_mfill (k b : Nat) (m : List (α × Int)) (x : α) (v : Int) (xm xi xv : Operand) (ho : o.op = .entryStore T xm xi xv) (hm : evS s xm = some (.map (some b))) (hx : evS s xi = some (.int .i64 ((mpos x m : Nat) : Int))) (hv : evS s xv = some (.int .i64 v)) (hk : σ[k]? = some (b, mO key (mput x (mget x m) m)))
  (hd : dstOk n o = true) (hw : wantS ops s o = some true) (h : SXL P n W0 Q ops l (putS o undef s) U (σ.set k (b, mO key (mput x v m)))) : SXL P n W0 Q ops (o :: l) s U σ := by
 refine sx_op hd hw fun a W ha hM K' hK => ?_
 have hb := (hM.own k b _ hk).1
 unfold Oper.wp execOp
 simp only [ho, ev_rep ha hm, ev_rep ha hx, ev_rep ha hv, mO_fill x hb v, Sem.run_bind, Sem.run_pure, Result.andThen_ok]
 exact hK _ _ _ _ _ h (putS_rep ha hd) (hM.set k b _ _ hk rfl rfl rfl (by simp [setBlock]) (heap_setBlock_same hb _) (fun i hi => heap_setBlock_other hb _ hi))
end
end Go.Proofs.YtcdjakemdlinhaaGreatDoor.Sx
namespace Go.Proofs.YtcdjakemdlinhaaGreatDoor.Sx
open Go.ChangeShapes Go.WideShapes Go.ChangeAt Go.RowKit Go.Deep
def bumpO (x : Int × Int) (m : List ((Int × Int) × Int)) : List ((Int × Int) × Int) := mput x (IntKind.i64.wrap (mget x m + 1)) m
def onceM : List ((Int × Int) × Int) → List Op → Bool
 | _, [] => true
 | m, o :: r => if decide (mget (o.k, o.t) (bumpO (o.k, o.t) m) > 1) then false else onceM (bumpO (o.k, o.t) m) r
theorem onceM_drop {q : List Op} {i : Nat} {y : Op} {m : List ((Int × Int) × Int)} (h : q[i]? = some y) : onceM m (q.drop i) = if decide (mget (y.k, y.t) (bumpO (y.k, y.t) m) > 1) then false else onceM (bumpO (y.k, y.t) m) (q.drop (i + 1)) := by
 rw [drop_some h, onceM]
theorem onceM_eq : ∀ (r pre : List Op) (m : List ((Int × Int) × Int)), (∀ k t, mget (k, t) m = if amongB pre k t then 1 else 0) → onceM m r = onceG pre r
 | [], _, _, _ => rfl
 | o :: r, pre, m, h => by
  rw [onceM, onceG]
  have h1 := h o.k o.t
  unfold bumpO
  rw [mget_put]
  simp only [beq_self_eq_true, if_true]
  cases ha : amongB pre o.k o.t with
  | true =>
   rw [ha] at h1
   rw [h1]
   rfl
  | false =>
   rw [ha] at h1
   rw [h1]
   have hd : decide (IntKind.i64.wrap ((if false = true then (1 : Int) else 0) + 1) > 1) = false := by decide
   rw [hd]
   simp only [Bool.false_eq_true, if_false]
   refine onceM_eq r (pre ++ [o]) _ fun k t => ?_
   rw [mget_put, h k t]
   have hw : IntKind.i64.wrap (0 + 1) = 1 := by decide
   rw [hw]
   unfold amongB at ha ⊢
   rw [List.any_append]
   by_cases hk : (k, t) = (o.k, o.t)
   ·
    simp only [Prod.mk.injEq] at hk
    obtain ⟨rfl, rfl⟩ := hk
    simp
   ·
    have hb : ((k, t) == (o.k, o.t)) = false := beq_eq_false_iff_ne.2 hk
    have hb2 : (o.k == k && o.t == t) = false := by
     cases hx : o.k == k && o.t == t with
     | false => rfl
     | true =>
      rw [Bool.and_eq_true] at hx
      exact absurd (Prod.ext (eq_of_beq hx.1).symm (eq_of_beq hx.2).symm) hk
    rw [hb]
    simp [hb2]
set_option maxHeartbeats 16000000 in
theorem once_any (p : Pr) (l : List Bk) (a : Option Addr) (c : Nat) (q : List Op) (aQ : Option Addr) (cQ : Nat) (w : World) {U : View} (hU : ∀ a v, U a = some v → w.cell? a = some v) (hl : BksAt U a l) (hq : LsAt OpR 3 U aQ q) : Calls Tryz.prog 129 #[bnV p a l.length c, .slice aQ q.length cQ] w (Ret (.bool (onceG [] q)) w) := by
 have hlen := hq.len
 unfold R47 at hlen
 rw [← onceM_eq q [] [] (fun k t => rfl)]
 refine sx_enter (f := 129) 32 U Tryz.func129 rfl rfl rfl hU ?_
 refine zs (zr (sx_N (fun b0 => (zq 1 (zn (zs (zr (sx_N (fun b1 => (zq 1 (zn (zs (zQ 3 (zn (sx_block ?_)))))))))))))))
 refine sx_loop (α := Nat × List ((Int × Int) × Int)) (fun x => [4,5,10,11,12].zip [(.bool false),(.map (some b1)),(.slice aQ q.length cQ),(L6 q.length),(L6 x.1)]) (fun x => U) (fun x => [(bK b0 (bnCs p a l.length c) 29),(b1,(mO opKey x.2))]) (fun x => x.1 ≤ q.length ∧ onceM x.2 (q.drop x.1) = onceM [] q) (fun x => q.length - x.1) (0,[]) ?_ (look_zip _ _ (by kernel_rfl)) (fun _ h => h.eqv (by kernel_rfl)) ?_
 · exact ⟨Nat.zero_le _,rfl⟩
 intro x hx
 obtain ⟨hx1,hx2⟩ := hx
 refine zQ 1 (zn (zs (sx_D (decide (((x.1 : Nat) : Int) < (((q.length : Nat)) : Int))) (fun h0 => ?_) (fun h0 => ?_))))
 ·
  have h0d := of_decide_eq_true h0
  refine zk (zs (sx_block (zs (zr ?_))))
  obtain ⟨y2,hy2⟩ : ∃ y,(q)[x.1]? = some y := ⟨(q)[x.1]'(by omega),List.getElem?_eq_getElem _⟩
  obtain ⟨b2,f2,cs2,rfl,hU2,hR2⟩ := hq.at_ x.1 y2 hy2
  obtain rfl := hR2
  refine sx_R (Pt b2 (f2 + x.1 * 3)) (rIx 153 rfl b2 f2 q.length cQ x.1 3) ?_
  refine zU b2 (f2 + x.1 * 3) [(I6 y2.k),(I6 y2.n),(I6 y2.t)] hU2 153 (.tmp 14) _ Tryz.underlying153 rfl ?_
  refine sx_N (fun b3 => (sx_S 2 b3 (zn (zB [0,3,0,3,0] [(b3,1),(b3,1)] (sx_N (fun b4 => (sx_S 3 b4 (zn (zs ?_)))))))))
  refine sx_drawnT 6 1 0 [21,22,23,24,25,26] [.val (.map (some b1)),.val (.agg #[(I6 y2.k),(I6 0),(I6 y2.t)]),.val (I6 (mget (y2.k,y2.t) x.2)),.val (I6 (IntKind.i64.wrap ((mget (y2.k,y2.t) x.2) + 1))),.val (.tuple #[(I6 (mget (y2.k,y2.t) x.2)),(I6 ((mpos (y2.k,y2.t) x.2 : Nat) : Int))]),.val (I6 ((mpos (y2.k,y2.t) x.2 : Nat) : Int))] 4 [(bK b0 (bnCs p a l.length c) 29),(b1,(mO opKey (mput (y2.k,y2.t) (mget (y2.k,y2.t) x.2) x.2))),(bK b3 [(I6 y2.k),(I6 y2.n),(I6 y2.t)] 153),(bK b4 [(I6 y2.k),(I6 0),(I6 y2.t)] 153)] (by kernel_rfl) rfl rfl (by kernel_rfl) (by kernel_rfl) (by kernel_rfl) (by kernel_rfl) (by kernel_rfl) (by kernel_rfl) (by simp only [List.forall_mem_cons]; exact ⟨trivial,trivial,trivial,trivial,trivial,trivial,fun _ h => by cases h⟩) (show (4 : Nat) < 6 by decide) ⟨?_,?_,?_,?_,?_,?_,trivial⟩ [4,5,7,8,10,11,12,13,14,15,16,17,18,19,20,21,22,23,24,25,26] (fun u => [(.bool false),(.map (some b1)),(Pt b3 0),(Pt b4 0),(Sl b2 f2 q.length cQ),(L6 q.length),(L6 x.1),(.bool (decide (((x.1 : Nat) : Int) < (((q.length : Nat)) : Int)))),(Pt b2 (f2 + x.1 * 3)),(.agg #[(I6 y2.k),(I6 y2.n),(I6 y2.t)]),(Pt b3 0),(I6 y2.k),(Pt b3 2),(I6 y2.t),(.agg #[(I6 y2.k),(I6 0),(I6 y2.t)]),(.map (some b1)),(.agg #[(I6 y2.k),(I6 0),(I6 y2.t)]),(I6 (mget (y2.k,y2.t) x.2)),(I6 (IntKind.i64.wrap ((mget (y2.k,y2.t) x.2) + 1))),(.tuple #[(I6 (mget (y2.k,y2.t) x.2)),(I6 ((mpos (y2.k,y2.t) x.2 : Nat) : Int))]),(I6 ((mpos (y2.k,y2.t) x.2 : Nat) : Int))]) (fun u => by kernel_rfl) ?_
  · exact ObT.o 0 (show (0 : Nat) ≠ 4 by decide) (oqQ 0 rfl (.map (some b1)) (.map (some b1)) rfl rfl (fun u => by kernel_rfl) (fun u => by kernel_rfl)) (oqQ 0 rfl (.map (some b1)) (.map (some b1)) rfl rfl (fun u => by kernel_rfl) (fun u => by kernel_rfl))
  · exact ObT.o 1 (show (1 : Nat) ≠ 4 by decide) (oqL 1 3 b4 3 [(I6 y2.k),(I6 0),(I6 y2.t)] 153 rfl (.agg #[(I6 y2.k),(I6 0),(I6 y2.t)]) rfl (by kernel_rfl) (fun u => by kernel_rfl) (fun u => by kernel_rfl)) (oqL 1 3 b4 3 [(I6 y2.k),(I6 0),(I6 y2.t)] 153 rfl (.agg #[(I6 y2.k),(I6 0),(I6 y2.t)]) rfl (by kernel_rfl) (fun u => by kernel_rfl) (fun u => by kernel_rfl))
  · exact ObT.o 2 (show (2 : Nat) ≠ 4 by decide) (oqMap mapKey_op 1 b1 x.2 (y2.k,y2.t) (mget (y2.k,y2.t) x.2) _ _ rfl rfl rfl rfl rfl [21,22] (fun u => [(.map (some b1)),(.agg #[(I6 y2.k),(I6 0),(I6 y2.t)])]) (fun u => by kernel_rfl) (fun u => by kernel_rfl) (fun u => by kernel_rfl) (by kernel_rfl)) (oqMap mapKey_op 1 b1 (mput (y2.k,y2.t) (mget (y2.k,y2.t) x.2) x.2) (y2.k,y2.t) (mget (y2.k,y2.t) x.2) _ _ rfl rfl rfl rfl (by rw [mget_put]; simp) [21,22] (fun u => [(.map (some b1)),(.agg #[(I6 y2.k),(I6 0),(I6 y2.t)])]) (fun u => by kernel_rfl) (fun u => by kernel_rfl) (fun u => by kernel_rfl) (by kernel_rfl))
  · exact ObT.o 3 (show (3 : Nat) ≠ 4 by decide) (oqQ 3 rfl (I6 (IntKind.i64.wrap ((mget (y2.k,y2.t) x.2) + 1))) (I6 (IntKind.i64.wrap ((mget (y2.k,y2.t) x.2) + 1))) rfl rfl (fun u => by kernel_rfl) (fun u => by kernel_rfl)) (oqQ 3 rfl (I6 (IntKind.i64.wrap ((mget (y2.k,y2.t) x.2) + 1))) (I6 (IntKind.i64.wrap ((mget (y2.k,y2.t) x.2) + 1))) rfl rfl (fun u => by kernel_rfl) (fun u => by kernel_rfl))
  · exact ObT.entry mapKey_op 1 b1 x.2 (y2.k,y2.t) _ _ rfl rfl rfl rfl [21,22] (fun u => [(.map (some b1)),(.agg #[(I6 y2.k),(I6 0),(I6 y2.t)])]) (fun u => by kernel_rfl) (fun u => by kernel_rfl) (fun u => by kernel_rfl) (by kernel_rfl) (by kernel_rfl)
  · exact ObT.o 5 (show (5 : Nat) ≠ 4 by decide) (oqQ 5 rfl (I6 ((mpos (y2.k,y2.t) x.2 : Nat) : Int)) (I6 ((mpos (y2.k,y2.t) x.2 : Nat) : Int)) rfl rfl (fun u => by kernel_rfl) (fun u => by kernel_rfl)) (oqQ 5 rfl (I6 ((mpos (y2.k,y2.t) x.2 : Nat) : Int)) (I6 ((mpos (y2.k,y2.t) x.2 : Nat) : Int)) rfl rfl (fun u => by kernel_rfl) (fun u => by kernel_rfl))
  intro u5 V5 hV5 hdq5
  refine sx_mfill (key := opKey) 1 b1 x.2 (y2.k,y2.t) (IntKind.i64.wrap ((mget (y2.k,y2.t) x.2) + 1)) _ _ _ rfl (by kernel_rfl) (by kernel_rfl) (by kernel_rfl) (by kernel_rfl) (by kernel_rfl) (by kernel_rfl) ?_
  refine zn (zB [0,4] [(b4,3)] ?_)
  refine sx_mget mapKey_op 1 b1 (mput (y2.k,y2.t) (IntKind.i64.wrap ((mget (y2.k,y2.t) x.2) + 1)) x.2) (y2.k,y2.t) (.tmp 27) (.tmp 28) rfl (by kernel_rfl) (by kernel_rfl) (by kernel_rfl) (by kernel_rfl) (by kernel_rfl) ?_
  refine zq 1 (zn (sx_D (decide ((mget (y2.k,y2.t) (mput (y2.k,y2.t) (IntKind.i64.wrap ((mget (y2.k,y2.t) x.2) + 1)) x.2)) > 1)) (fun h1 => ?_) (fun h1 => ?_)))
  ·
   have h1d := of_decide_eq_true h1
   refine zQ 1 (zn (sx_ret (sx_Z [4] [(.bool false)] (fun W' hM => ?_))))
   refine ⟨?_,hM.below⟩
   rw [← hx2,onceM_drop hy2]
   unfold bumpO
   rw [if_pos h1]
   rfl
  ·
   have h1d := of_decide_eq_false h1
   refine zk (zr (zq 1 (sx_E 31 (I6 (IntKind.i64.wrap (((x.1 : Nat) : Int) + 1))) (I6 (((x.1 : Nat) : Int) + 1)) i6v ?_)))
   refine zq 1 (zn ?_)
   refine ⟨(x.1 + 1,(mput (y2.k,y2.t) (IntKind.i64.wrap ((mget (y2.k,y2.t) x.2) + 1)) x.2)),?_,?_,look_zip _ _ (by kernel_rfl),fun _ h => Mem.sub (List.sublist_append_left _ _) ((h.weak hV5).eqv (show _ = ([(bK b0 (bnCs p a l.length c) 29),(b1,(mO opKey (mput (y2.k,y2.t) (IntKind.i64.wrap ((mget (y2.k,y2.t) x.2) + 1)) x.2)))] : Blks) ++ ([(bK b3 [(I6 y2.k),(I6 y2.n),(I6 y2.t)] 153),(bK b4 [(I6 y2.k),(I6 0),(I6 y2.t)] 153)] : Blks) from by kernel_rfl))⟩
   · exact ⟨by show x.1 + 1 ≤ _; omega,by rw [← hx2,onceM_drop hy2]; unfold bumpO; rw [if_neg (by rw [h1]; exact Bool.false_ne_true)]⟩
   · show q.length - (x.1 + 1) < q.length - x.1; omega
 ·
  have h0d := of_decide_eq_false h0
  refine sx_exit (zQ 1 (zn (sx_ret (sx_Z [4] [(.bool true)] (fun W' hM => ?_)))))
  refine ⟨?_,hM.below⟩
  rw [← hx2,drop_all (by omega)]
  rfl
set_option maxHeartbeats 16000000 in
theorem mRules_any (p : Pr) (l : List Bk) (a : Option Addr) (c : Nat) (q : List Op) (aQ : Option Addr) (cQ : Nat) (w : World) {U : View} (hU : ∀ a v, U a = some v → w.cell? a = some v) (hl : BksAt U a l) (hq : LsAt OpR 3 U aQ q) : Calls Tryz.prog 85 #[bnV p a l.length c, .slice aQ q.length cQ] w (Ret (.int .i64 (mixZ p l q)) w) := by
 refine sx_enter (f := 85) 19 U Tryz.func85 rfl rfl rfl hU ?_
 refine zs (zr (sx_N (fun b0 => (zq 1 (zn (zs (zs (zr (sx_N (fun b1 => (zq 2 (zn (sx_block ?_)))))))))))))
 refine sx_loop (α := Nat) (fun x => match x with | 0 => [1,2,4,7,8,9].zip [(.slice aQ q.length cQ),(Pt b0 0),(I6 0),(Sl b1 0 5 5),(I6 5),(I6 0)] | 1 => [1,2,4,7,8,9].zip [(.slice aQ q.length cQ),(Pt b0 0),(I6 0),(Sl b1 0 5 5),(I6 5),(I6 1)] | 2 => [1,2,4,7,8,9].zip [(.slice aQ q.length cQ),(Pt b0 0),(I6 0),(Sl b1 0 5 5),(I6 5),(I6 2)] | 3 => [1,2,4,7,8,9].zip [(.slice aQ q.length cQ),(Pt b0 0),(I6 0),(Sl b1 0 5 5),(I6 5),(I6 3)] | 4 => [1,2,4,7,8,9].zip [(.slice aQ q.length cQ),(Pt b0 0),(I6 0),(Sl b1 0 5 5),(I6 5),(I6 4)] | _ => [1,2,4,7,8,9].zip [(.slice aQ q.length cQ),(Pt b0 0),(I6 0),(Sl b1 0 5 5),(I6 5),(I6 5)]) (fun _ => U) (fun x => [(bK b0 (bnCs p a l.length c) 29),(b1,.cells [(.func (.func 127) #[] #[]),(.func (.func 128) #[] #[]),(.func (.func 129) #[] #[]),(.func (.func 130) #[] #[]),(.func (.func 131) #[] #[])].toArray 199 (0,0))]) (fun x => x ≤ 5 ∧ (0 < x → (!(wholeB p l)) = false) ∧ (1 < x → (!(thereB l q)) = false) ∧ (2 < x → (!(onceG [] q)) = false) ∧ (3 < x → (!(sealsG l [] q)) = false) ∧ (4 < x → (!(signsB l q)) = false)) (fun x => 5 - x) 0 ⟨by omega,fun h => absurd h (by omega),fun h => absurd h (by omega),fun h => absurd h (by omega),fun h => absurd h (by omega),fun h => absurd h (by omega)⟩ (look_zip _ _ (by kernel_rfl)) (fun _ h => h.eqv (by kernel_rfl)) ?_
 rintro x ⟨hx,hc0_0,hc1_0,hc2_0,hc3_0,hc4_0⟩
 rcases (by omega : x = 0 ∨ x = 1 ∨ x = 2 ∨ x = 3 ∨ x = 4 ∨ x = 5) with rfl | rfl | rfl | rfl | rfl | rfl
 ·
  refine zQ 1 (zn (zs (sx_T (zk (zs (sx_block (zB [0,2,0] [(b1,1)] (zn (zB [0,1,0] [(b0,20)] (sx_C 127 #[(bnV p a l.length c),(.slice aQ q.length cQ)] (.bool (wholeB p l)) (fun W hM => whole_any p l _ _ q _ _ W hM.view hl hq) ?_))))))))))
  refine zq 1 (zn (sx_D (!(wholeB p l)) (fun h0 => ?_) (fun h0 => ?_)))
  ·
   refine zQ 1 (zn (sx_ret (sx_Z [4] [(I6 8)] (fun W' hM => ?_))))
   have e0 : (wholeB p l) = false := by simpa using h0
   refine ⟨?_,hM.below⟩
   unfold mixZ
   simp only [resV,e0,bs,if_true,if_false,cond_true,cond_false,reduceIte]
  ·
   refine zk (zr (zq 2 (zn ?_)))
   refine ⟨1,⟨by omega,fun _ => h0,fun h => absurd h (by omega),fun h => absurd h (by omega),fun h => absurd h (by omega),fun h => absurd h (by omega)⟩,by show 5 - 1 < 5 - 0; omega,look_zip _ _ (by kernel_rfl),fun _ h => h.eqv (by kernel_rfl)⟩
 ·
  refine zQ 1 (zn (zs (sx_T (zk (zs (sx_block (zB [0,2,0] [(b1,1)] (zn (zB [0,1,0] [(b0,20)] (sx_C 128 #[(bnV p a l.length c),(.slice aQ q.length cQ)] (.bool (thereB l q)) (fun W hM => there_any p l _ _ q _ _ W hM.view hl hq) ?_))))))))))
  refine zq 1 (zn (sx_D (!(thereB l q)) (fun h1 => ?_) (fun h1 => ?_)))
  ·
   refine zQ 1 (zn (sx_ret (sx_Z [4] [(I6 8)] (fun W' hM => ?_))))
   have e0 : (wholeB p l) = true := by simpa using (hc0_0 (by omega))
   have e1 : (thereB l q) = false := by simpa using h1
   refine ⟨?_,hM.below⟩
   unfold mixZ
   simp only [resV,e0,e1,bs,if_true,if_false,cond_true,cond_false,reduceIte]
  ·
   refine zk (zr (zq 2 (zn ?_)))
   refine ⟨2,⟨by omega,fun _ => hc0_0 (by omega),fun _ => h1,fun h => absurd h (by omega),fun h => absurd h (by omega),fun h => absurd h (by omega)⟩,by show 5 - 2 < 5 - 1; omega,look_zip _ _ (by kernel_rfl),fun _ h => h.eqv (by kernel_rfl)⟩
 ·
  refine zQ 1 (zn (zs (sx_T (zk (zs (sx_block (zB [0,2,0] [(b1,1)] (zn (zB [0,1,0] [(b0,20)] (sx_C 129 #[(bnV p a l.length c),(.slice aQ q.length cQ)] (.bool (onceG [] q)) (fun W hM => once_any p l _ _ q _ _ W hM.view hl hq) ?_))))))))))
  refine zq 1 (zn (sx_D (!(onceG [] q)) (fun h2 => ?_) (fun h2 => ?_)))
  ·
   refine zQ 1 (zn (sx_ret (sx_Z [4] [(I6 8)] (fun W' hM => ?_))))
   have e0 : (wholeB p l) = true := by simpa using (hc0_0 (by omega))
   have e1 : (thereB l q) = true := by simpa using (hc1_0 (by omega))
   have e2 : (onceG [] q) = false := by simpa using h2
   refine ⟨?_,hM.below⟩
   unfold mixZ
   simp only [resV,e0,e1,e2,bs,if_true,if_false,cond_true,cond_false,reduceIte]
  ·
   refine zk (zr (zq 2 (zn ?_)))
   refine ⟨3,⟨by omega,fun _ => hc0_0 (by omega),fun _ => hc1_0 (by omega),fun _ => h2,fun h => absurd h (by omega),fun h => absurd h (by omega)⟩,by show 5 - 3 < 5 - 2; omega,look_zip _ _ (by kernel_rfl),fun _ h => h.eqv (by kernel_rfl)⟩
 ·
  refine zQ 1 (zn (zs (sx_T (zk (zs (sx_block (zB [0,2,0] [(b1,1)] (zn (zB [0,1,0] [(b0,20)] (sx_C 130 #[(bnV p a l.length c),(.slice aQ q.length cQ)] (.bool (sealsG l [] q)) (fun W hM => seals_any p l _ _ q _ _ W hM.view hl hq) ?_))))))))))
  refine zq 1 (zn (sx_D (!(sealsG l [] q)) (fun h3 => ?_) (fun h3 => ?_)))
  ·
   refine zQ 1 (zn (sx_ret (sx_Z [4] [(I6 8)] (fun W' hM => ?_))))
   have e0 : (wholeB p l) = true := by simpa using (hc0_0 (by omega))
   have e1 : (thereB l q) = true := by simpa using (hc1_0 (by omega))
   have e2 : (onceG [] q) = true := by simpa using (hc2_0 (by omega))
   have e3 : (sealsG l [] q) = false := by simpa using h3
   refine ⟨?_,hM.below⟩
   unfold mixZ
   simp only [resV,e0,e1,e2,e3,bs,if_true,if_false,cond_true,cond_false,reduceIte]
  ·
   refine zk (zr (zq 2 (zn ?_)))
   refine ⟨4,⟨by omega,fun _ => hc0_0 (by omega),fun _ => hc1_0 (by omega),fun _ => hc2_0 (by omega),fun _ => h3,fun h => absurd h (by omega)⟩,by show 5 - 4 < 5 - 3; omega,look_zip _ _ (by kernel_rfl),fun _ h => h.eqv (by kernel_rfl)⟩
 ·
  refine zQ 1 (zn (zs (sx_T (zk (zs (sx_block (zB [0,2,0] [(b1,1)] (zn (zB [0,1,0] [(b0,20)] (sx_C 131 #[(bnV p a l.length c),(.slice aQ q.length cQ)] (.bool (signsB l q)) (fun W hM => signs_any p l _ _ q _ _ W hM.view hl hq) ?_))))))))))
  refine zq 1 (zn (sx_D (!(signsB l q)) (fun h4 => ?_) (fun h4 => ?_)))
  ·
   refine zQ 1 (zn (sx_ret (sx_Z [4] [(I6 8)] (fun W' hM => ?_))))
   have e0 : (wholeB p l) = true := by simpa using (hc0_0 (by omega))
   have e1 : (thereB l q) = true := by simpa using (hc1_0 (by omega))
   have e2 : (onceG [] q) = true := by simpa using (hc2_0 (by omega))
   have e3 : (sealsG l [] q) = true := by simpa using (hc3_0 (by omega))
   have e4 : (signsB l q) = false := by simpa using h4
   refine ⟨?_,hM.below⟩
   unfold mixZ
   simp only [resV,e0,e1,e2,e3,e4,bs,if_true,if_false,cond_true,cond_false,reduceIte]
  ·
   refine zk (zr (zq 2 (zn ?_)))
   refine ⟨5,⟨by omega,fun _ => hc0_0 (by omega),fun _ => hc1_0 (by omega),fun _ => hc2_0 (by omega),fun _ => hc3_0 (by omega),fun _ => h4⟩,by show 5 - 5 < 5 - 4; omega,look_zip _ _ (by kernel_rfl),fun _ h => h.eqv (by kernel_rfl)⟩
 ·
  refine zQ 1 (zn (zs (sx_F (sx_exit (zQ 1 (zn (sx_ret (sx_Z [4] [(I6 0)] (fun W' hM => ?_)))))))))
  have e0 : (wholeB p l) = true := by simpa using (hc0_0 (by omega))
  have e1 : (thereB l q) = true := by simpa using (hc1_0 (by omega))
  have e2 : (onceG [] q) = true := by simpa using (hc2_0 (by omega))
  have e3 : (sealsG l [] q) = true := by simpa using (hc3_0 (by omega))
  have e4 : (signsB l q) = true := by simpa using (hc4_0 (by omega))
  refine ⟨?_,hM.below⟩
  unfold mixZ
  simp only [resV,e0,e1,e2,e3,e4,bs,if_true,if_false,cond_true,cond_false,reduceIte]
theorem soundZ_none {p : Pr} {l : List Bk} (h : bnRight p l = 0) (h2 : opsB l = none) : soundZ p l = 2 := by
 unfold soundZ
 rw [h, h2]
 rfl
theorem soundZ_some {p : Pr} {l : List Bk} {q : List Op} (h : bnRight p l = 0) (h2 : opsB l = some q) : soundZ p l = mixZ p l q := by
 unfold soundZ
 rw [h, h2]
 rfl
theorem right_small {p : Pr} {l : List Bk} (h : bnRight p l = 0) : l.length ≤ 16 ∧ ∀ x ∈ l, x.d.length ≤ 4000 := by
 unfold bnRight madeZ at h
 split at h
 · next h1 => rw [show ([], partsZ p l).2 = partsZ p l from rfl] at h; rw [h] at h1; cases h1
 ·
  next hp =>
  split at h
  · next h1 => rw [show ([], rulesZ p l).2 = rulesZ p l from rfl] at h; rw [h] at h1; cases h1
  ·
   next h2 =>
   have hp0 : partsZ p l = 0 := by simpa using hp
   refine ⟨rulesZ_len (by simpa using h2), fun x hx => ?_⟩
   have hb : blksZ l = 0 := by
    unfold partsZ at hp0
    split at hp0
    · next h1 => rw [hp0] at h1; cases h1
    · exact hp0
   have hr : bkRight x = 0 := by
    unfold blksZ at hb
    split at hb
    ·
     next y hy =>
     have := List.find?_some hy
     rw [hb] at this
     cases this
    ·
     next hn =>
     have := List.find?_eq_none.1 hn x hx
     simpa using this
   have := (bkRight_parts hr).2.2.2.2.2
   omega
theorem opsB_len {l : List Bk} {q : List Op} (h : opsB l = some q) : q.length ≤ 32 * l.length := by
 unfold opsB at h
 split at h
 · cases h
 ·
  next se h1 =>
  split at h
  · cases h
  ·
   next si h2 =>
   obtain rfl := Option.some.inj h
   have a1 := opsF_len h1
   have a2 := opsF_len h2
   rw [List.length_append]
   omega
theorem mSound_any (eA : Addr) (p : Pr) (l : List Bk) (a : Option Addr) (c : Nat) (w : World) {U : View} (hU : ∀ a v, U a = some v → w.cell? a = some v) (hE : EF U eA) (hp : p.ok) (hl : BksAt U a l) : Calls Tryz.prog 80 #[bnV p a l.length c] w (Ret (.int .i64 (soundZ p l)) w) := by
 refine sx_enter (f := 80) 22 U Tryz.func80 rfl rfl rfl hU ?_
 refine zs (zr (sx_N (fun b0 => (zq 1 (zn (zs (zB [1] [(b0,20)] (sx_C 115 #[(bnV p a l.length c)] (I6 (bnRight p l)) (fun W hM => bnRight_any p l _ _ W hM.view hp hl) ?_))))))))
 refine zq 1 (zn (zQ 2 (zn (sx_D ((bnRight p l) != 0) (fun h0 => ?_) (fun h0 => ?_)))))
 ·
  refine zQ 2 (zn (sx_ret (sx_Z [2] [(I6 (bnRight p l))] (fun W' hM => ?_))))
  refine ⟨?_,hM.below⟩
  unfold soundZ
  rw [if_pos h0]
  rfl
 ·
  have h0d := bne_eq_false_iff_eq.1 h0
  refine zk (zB [1] [(b0,20)] ?_)
  rcases Bool.eq_false_or_eq_true ((opsB l).isSome) with h1 | h1
  ·
   refine sx_callP 82 #[(bnV p a l.length c)] (fun v σ' => OpsIs (opsB l) v σ') (by kernel_rfl) (fun W hM => mOps_any eA p l _ _ (hE.le hM.view) (hl.le hM.view) (fun x hx => by have := (right_small (by simpa using h0 : bnRight p l = 0)).2 x hx; omega) (by have := (right_small (by simpa using h0 : bnRight p l = 0)).1; omega) (Mem.all W)) (by kernel_rfl) (by kernel_rfl) (fun v1 s1 hP1 => ?_)
   obtain ⟨q1,hq1⟩ := Option.isSome_iff_exists.1 h1
   rw [hq1] at hP1
   obtain ⟨r1,xs1,L1,rfl,rfl,hr1,hL1⟩ := hP1
   have hn1 := opsB_len hq1
   have hm1 := (right_small (by simpa using h0 : bnRight p l = 0)).1
   refine zq 5 (zn (zs (zQ 2 (zn (sx_F (zk (zB [1,0] [(b0,20)] ?_)))))))
   refine sx_fz 20 r1 xs1 3 q1.length [(bK b0 (bnCs p a l.length c) 29)] 153 (by kernel_rfl) hr1.ok (by kernel_rfl) (fun a2 c2 V2 hV2 hR2 hE2 => ?_)
   have k3 := hl.le hV2
   have k4 := (hr1.opAny (V' := U)).le hV2
   have hL2 := k4.done (by decide) hR2 (View.le_refl _) (by unfold R47; omega)
   rw [hL1] at hL2
   refine sx_C 85 #[(bnV p a l.length c),(.slice a2 q1.length c2)] (I6 (mixZ p l q1)) (fun W hM => mRules_any p l _ _ q1 _ _ W hM.view k3 hL2) ?_
   refine zq 1 (zn (sx_ret (sx_Z [2] [(I6 (mixZ p l q1))] (fun W' hM => ?_))))
   refine ⟨?_,hM.below⟩
   rw [soundZ_some (by simpa using h0 : bnRight p l = 0) hq1]
   rfl
  ·
   refine sx_callP 82 #[(bnV p a l.length c)] (fun v σ' => OpsIs (opsB l) v σ') (by kernel_rfl) (fun W hM => mOps_any eA p l _ _ (hE.le hM.view) (hl.le hM.view) (fun x hx => by have := (right_small (by simpa using h0 : bnRight p l = 0)).2 x hx; omega) (by have := (right_small (by simpa using h0 : bnRight p l = 0)).1; omega) (Mem.all W)) (by kernel_rfl) (by kernel_rfl) (fun v5 s5 hP5 => ?_)
   have hq5 := Option.not_isSome_iff_eq_none.1 (by rw [h1]; exact Bool.false_ne_true)
   rw [hq5] at hP5
   obtain ⟨rfl,rfl⟩ := hP5
   refine sx_mem U _ (fun _ h => h.eqv (List.append_nil _)) ?_
   refine zq 5 (zn (zs (zQ 2 (zn (sx_T (zQ 2 (zn (sx_ret (sx_Z [2] [(I6 2)] (fun W' hM => ?_))))))))))
   refine ⟨?_,hM.below⟩
   rw [soundZ_none (by simpa using h0 : bnRight p l = 0) hq5]
   rfl
section
variable {P : Program} {n : Nat} {W0 : Cx} {s : Slots} {U : View} {σ : Blks} {ops : Array Oper} {ds : List Nat} {vs : List Sp}
theorem obU1 (i b f : Nat) (v : Value) (hU : U ⟨b, f, none⟩ = some v) (ty : TypeId) (x : Operand) {o : Oper} (hi : ops[i]? = some o) (ho : o.op = .load ty x) (hvi : vs[i]? = some (.val v)) (hx : evS (depS ops ds vs i ++ minusS s ds) x = some (.pointer (some ⟨b, f, none⟩))) (d : TypeDesc) (hu : P.underlying ty = some d) (hrow : d.isRow = false)
  (hw : wantS ops (depS ops ds vs i ++ minusS s ds) o = some true) : Ob P n W0 U σ ops ds vs s i :=
 Ob.op i hi _ hvi hw fun a W ha hM Q K hK => by
  have hc := hM.view _ _ hU
  have hagg : (isAgg ty).run P W = .ok false W := by
   unfold isAgg
   rw [Sem.run_bind, run_underlying hu W]
   cases d <;> simp_all
  have hl : (load ⟨b, f, none⟩).run P W = .ok v W := by
   simp [load, Sem.run, hc]
  unfold Oper.wp execOp
  simp only [ho, ev_rep ha hx, Instr.loadAt, Instr.sureAddr, Sem.run_bind, Sem.run_pure, Result.andThen_ok, loadVar, hagg]
  simp only [Bool.false_eq_true, if_false, hl, Result.andThen_ok]
  exact hK v W rfl hM (Below.refl _ _)
end
section
variable {P : Program} {n : Nat} {W0 : Cx} {Q : XQ} {s : Slots} {U : View} {σ : Blks} {ops : Array Oper} {l : List Oper} {o : Oper}
theorem sx_ldP (k b f : Nat) (cs ys : List Value) (t ty : TypeId) (x : Operand) (ho : o.op = .load ty x) (hx : evS s x = some (.pointer (some ⟨b, f, none⟩))) (hk : σ[k]? = some (b, .cells cs.toArray t (0, 0))) (hr : ∀ j v, ys[j]? = some v → cs[f + j]? = some v) (d : TypeDesc) (hu : P.underlying ty = some d) (hrow : d.isRow = true) (hi : (P.info? ty).map (·.size) = some ys.length)
  (hd : dstOk n o = true) (hw : wantS ops s o = some true) (h : SXL P n W0 Q ops l (putS o (.agg ys.toArray) s) U σ) : SXL P n W0 Q ops (o :: l) s U σ := by
 refine sx_op hd hw fun a W ha hM K hK => ?_
 have hR := rangeAt_own hM k b cs t hk
 refine wp_load_mid ty x ho b f (ev_rep ha hx) ys d (fun j v hv => ?_) hu hrow hi ?_
 ·
  have := hR (f + j) v (hr j v hv)
  rwa [Nat.zero_add] at this
 · exact hK _ _ _ _ _ h (putS_rep ha hd) hM
end
section
variable {P : Program} {n : Nat} {W0 : Cx} {s : Slots} {U : View} {σ : Blks} {ops : Array Oper} {ds : List Nat} {vs : List Sq}
theorem oqA (i : Nat) {o : Oper} (hi : ops[i]? = some o) (hg : o.guard = none) (Φ : Value → View → Prop) (hvi : vs[i]? = some (.mem Φ)) (ts : List Nat) (vals : (Nat → Value) → List Value) (hsl : ∀ u, (ts.map fun t => look (depQ ops ds vs u i ++ minusS s ds) t) = (vals u).map some)
  (e t : TypeId) (z bytes k : Nat) (x y : Operand) (ho : o.op = .call { callee := .builtin .append, args := #[x, y], argTypes := #[t, t] })
  (hk : 0 < k) (h63 : k ≤ maxLen) (hby : k * bytes ≤ 140737488355328)
  (hinf : (P.info? e).map (fun i => (i.size, i.bytes, i.zero.map (·.cells.size))) = some (z, bytes, some z)) (ht : P.underlying t = some (.slice e)) (hz0 : Nat.blt 0 z = true)
  (h : ∀ (u : Nat → Value) (V : View), View.le U V → (∀ j, waitsOn .any ops i j = true → PhiAt vs j (u j) V) → ∃ (b f c : Nat) (news : List Value), evS (ts.zip (vals u)) x = some (.slice none 0 0) ∧ evS (ts.zip (vals u)) y = some (.slice (some ⟨b, f, none⟩) k c) ∧ V.range b f news ∧ news.length = k * z ∧ (∀ u ∈ news, u.oneCell' = true) ∧
   ∀ g cap V', View.le V V' → V'.range g 0 news → Φ (.slice (some ⟨g, 0, none⟩) k cap) V') : Oq P n W0 U σ ops ds vs s i :=
 Oq.op i hi _ hvi fun u V hV hd => by
  obtain ⟨b, f, c, news, hx, hy, hr, hl, h1, hΦ⟩ := h u V hV hd
  refine ⟨by unfold wantS; rw [hg], fun a W ha hM Q K hK => ?_⟩
  cases hq : P.info? e with
  | none => rw [hq] at hinf; cases hinf
  | some inf =>
   rw [hq] at hinf
   simp only [Option.map_some, Option.some.injEq, Prod.mk.injEq] at hinf
   obtain ⟨h2, h3, h4⟩ := hinf
   obtain ⟨zv, hz1, hz2⟩ := Option.map_eq_some_iff.1 h4
   have hr2 := rep_zip ts _ ha (hsl u)
   refine wp_append_lies W x y t ho W.heap.size e inf zv z bytes ht hq hz1 h2 h3 hz2 (by simpa [Nat.blt_eq] using hz0) (.slice none 0 0) 0 [] (ev_rep hr2 hx) ⟨by simp, .inl ⟨rfl, rfl⟩⟩ ⟨b, f, none⟩ k c news (ev_rep hr2 hy) hl (fun j v hv => by rw [Addr.add_mid]; exact hM.view _ _ (hr j v hv)) h1 hk (by rw [Nat.zero_add]; exact h63) (by rw [Nat.zero_add]; exact hby) (Nat.le_refl _) _ rfl ?_
   intro g cap w' hown' hgr hgo hglt
   obtain ⟨hlen, h5⟩ := hown'
   rcases h5 with ⟨h5, _⟩ | ⟨g', cap', cur, hv, hge, hh, hle, hcm, hcs, htk⟩
   · cases h5
   ·
    simp only [Value.slice.injEq, Option.some.injEq, Addr.mk.injEq, and_true, true_and] at hv
    obtain ⟨rfl, rfl⟩ := hv
    have hb : Below W.heap.size W w' := (Below.refl _ _).grown hgr (Nat.le_refl _) fun j hj => by cases hj
    have hM' := hM.call hb
    obtain ⟨V', q1, q2, q3⟩ := hM'.addView (g := g) (cs := cur.toList) (by rw [hh]) (Nat.le_trans hM.below.size hge) fun j q hj => by
     have := lt_of_heap (hM.own j q.1 q.2 hj).1
     omega
    rw [Nat.zero_add]
    refine hK _ _ hM' ⟨V', q1, q3, hΦ g cap V' q1 fun j v hv => q2 j v ?_⟩ hb
    rw [List.nil_append] at htk
    rw [← htk] at hv
    rw [List.getElem?_take] at hv
    split at hv
    · exact hv
    · cases hv
end
section
variable {P : Program} {n : Nat} {W0 : Cx} {s : Slots} {U : View} {σ0 : Blks}
structure NQ (P : Program) (n : Nat) (W0 : Cx) (U : View) (own σ : Blks) (ops : Array Oper) (ds : List Nat) (vs : List Sq) (s : Slots) (i : Nat) (Ψ : Value → View → Blks → Prop) : Prop where
 go : ∃ (o : Oper) (ts : List Nat) (vals : (Nat → Value) → List Value), ops[i]? = some o ∧ o.guard = none ∧ (∀ u, (ts.map fun x => look (depQ ops ds vs u i ++ minusS s ds) x) = (vals u).map some) ∧
  ∀ (u : Nat → Value) (V : View), View.le U V → (∀ j, waitsOn .any ops i j = true → PhiAt vs j (u j) V) → ∀ (a : Act) (W : World), RepA n (ts.zip (vals u)) a → Mem W0 V (own ++ σ) W → ∀ (Q : Exit → Act → World → Prop) (K : Act → World → Prop),
   (∀ v W' V' σ2, View.le V V' → Mem W0 V' (σ2 ++ σ) W' → Ψ v V' σ2 → K (a.put o.dst v) W') → o.wp P a W K Q
def ObN (P : Program) (n : Nat) (W0 : Cx) (U : View) (own σ : Blks) (ops : Array Oper) (ds : List Nat) (vs : List Sq) (s : Slots) (i : Nat) (Ψ : Value → View → Blks → Prop) (k : Nat) : Prop :=
 if k = i then NQ P n W0 U own σ ops ds vs s i Ψ else ∀ σ', Oq P n W0 U (σ ++ σ') ops ds vs s k
theorem ObN.o {own σ : Blks} {ops : Array Oper} {ds : List Nat} {vs : List Sq} {i : Nat} {Ψ : Value → View → Blks → Prop} (k : Nat) (h1 : k ≠ i) (h : ∀ σ', Oq P n W0 U (σ ++ σ') ops ds vs s k) : ObN P n W0 U own σ ops ds vs s i Ψ k := by
 unfold ObN
 rw [if_neg h1]
 exact h
theorem ObN.make {own σ : Blks} {ops : Array Oper} {ds : List Nat} {vs : List Sq} {i : Nat} {Ψ : Value → View → Blks → Prop} (h : NQ P n W0 U own σ ops ds vs s i Ψ) : ObN P n W0 U own σ ops ds vs s i Ψ i := by
 unfold ObN
 rw [if_pos rfl]
 exact h
def OneNew (vf : Nat → Value) (x : Obj) (v : Value) (_ : View) (σ' : Blks) : Prop := ∃ b, v = vf b ∧ σ' = [(b, x)]
theorem ObN.alloc {σ : Blks} {ops : Array Oper} {ds : List Nat} {vs : List Sq} (i : Nat) (x : Obj) (vf : Nat → Value) (ts : List Nat) (vals : (Nat → Value) → List Value) (hsl : ∀ u, (ts.map fun x => look (depQ ops ds vs u i ++ minusS s ds) x) = (vals u).map some)
  (h : ∃ o, ops[i]? = some o ∧ o.guard = none ∧ ∀ (u : Nat → Value), makes P (ts.zip (vals u)) o = some (x, fun r => some (vf r))) : ObN P n W0 U [] σ ops ds vs s i (OneNew vf x) i := by
 obtain ⟨o, hi, hg, hm⟩ := h
 exact ObN.make ⟨o, ts, vals, hi, hg, hsl, fun u V hV hd a W ha hM Q K hK => by
  unfold Oper.wp
  rw [makes_run ha (hm u)]
  have hM1 : Mem W0 V σ W := hM
  exact hK _ _ V [(W.heap.size, x)] (View.le_refl _) ((hM1.alloc x).perm List.perm_append_comm) ⟨W.heap.size, rfl, rfl⟩⟩
theorem sx_drawnN {id : Nat} {l : List Oper} {Q : XQ} (m f r : Nat) (ds : List Nat) (vs : List Sq) (i : Nat) (own σ : Blks) (Ψ : Value → View → Blks → Prop) (hσ : σ0.Perm (own ++ σ)) (hm : P.follows .mixedOrders = true) (hsz : l.length = m + f) (hlen : ds.length = m)
  (hds : dstsOk l.toArray ds = true) (hnd : nodupB ds = true) (hlt : (ds.all fun d => Nat.blt d n) = true) (hedge : edgesOk .any l.toArray m = true) (htail : tailOk .any l.toArray m r = true) (hchain : chainOk l.toArray m f = true) (hmo : ∀ q ∈ vs, sqMono q)
  (hji : i < m) (Φi : Value → View → Prop) (hvj : vs[i]? = some (.mem Φi)) (hΦ : ∀ v V σ', Ψ v V σ' → Φi v V) (hΨ : ∀ v V V' σ', View.le V V' → Ψ v V σ' → Ψ v V' σ')
  (obs : Go.Proofs.YtcdjakemdlinhaaGreatDoor.Steps (ObN P n W0 U own σ l.toArray ds vs s i Ψ) 0 m)
  (ts : List Nat) (vals : (Nat → Value) → List Value) (hsl : ∀ u, (ts.map fun t => look (endQ u 0 ds vs ++ minusS s ds) t) = (vals u).map some)
  (h : ∀ (u : Nat → Value) (V : View) (σ' : Blks), View.le U V → (∀ j, j < m → PhiAt vs j (u j) V) → Ψ (u i) V σ' → SXL P n W0 Q l.toArray (l.drop m) (ts.zip (vals u)) V (σ' ++ σ)) : SXC P n W0 Q (.region id l.toArray true) s U σ0 := by
 refine ⟨fun a W ha hM => ?_⟩
 have hn := nodup_of hnd
 have hd : ∀ d ∈ ds, d < n := fun d hd => by have := List.all_eq_true.1 hlt d hd; simpa [Nat.blt_eq] using this
 have hM1 : Mem W0 U (σ ++ own) W := hM.perm (hσ.trans List.perm_append_comm)
 refine wp_region_inv m f r ds (fun L u w => ∃ V σ', InvM W0 U own σ vs m i Ψ L u w V σ') hm (by simpa using hsz) hlen hds hnd hedge htail ?_ ?_ ?_
 ·
  intro u
  exact ⟨U, own, ⟨View.le_refl _, hM1.drew, fun j _ hj => by simp at hj, fun _ => rfl, fun hj => by simp at hj⟩⟩
 ·
  rintro k hkm L u w ⟨V, σ', I⟩ hLk hwt hcl K hK
  have hob := obs.get k (Nat.zero_le _) (by omega)
  unfold ObN at hob
  split at hob
  ·
   next hki =>
   subst hki
   have hσ' : σ' = own := I.own hLk
   subst hσ'
   obtain ⟨o, ts, vals, ho, hgd, hsl, hgo⟩ := hob.go
   have hr := rep_fillC (a0 := a) (u := u) (V := V) (vs := vs) (ops := l.toArray) k ha hn hd fun j hj => .inl (I.at_ j (hwt j hj).2 (hwt j hj).1)
   unfold wpOp
   simp only [ho, Region.wanted, hgd, if_true]
   left
   refine hgo u V I.le (fun j hj => (I.at_ j (hwt j hj).2 (hwt j hj).1).phi) _ w (rep_zip ts _ hr (hsl u)) (I.mem.perm List.perm_append_comm) _ _ fun v w' V' σ2 hl hM' hΦ2 => ?_
   have := hK v w' ⟨V', σ2, ⟨View.le_trans I.le hl, hM'.perm List.perm_append_comm, fun j hj hL => ?_, fun hx => ?_, fun _ => ?_⟩⟩
   ·
    rw [ho] at this
    exact this
   ·
    by_cases e : j = k
    ·
     subst e
     rw [if_pos rfl]
     unfold sqAt
     rw [hvj]
     exact hΦ _ _ _ hΦ2
    ·
     rw [if_neg e] at hL ⊢
     exact (I.at_ j hj hL).le hmo hl
   ·
    rw [if_pos rfl] at hx
    cases hx
   ·
    rw [if_pos rfl]
    exact hΦ2
  ·
   next hki =>
   have hM0 : Mem W0 U (σ ++ σ') w := I.mem.weak I.le
   refine ((hob σ').go a (up n W0 Q) ha hn hd hmo).step u w hM0 (fun j hj => (I.at_ j (hwt j hj).2 (hwt j hj).1).isQ I.mem I.le) K fun v w' hM' hE hv => ?_
   obtain ⟨V', h1, h2, h3⟩ := hv.at hM'
   obtain ⟨q1, q2, q3⟩ := Mem.join (I.mem.call hE) h2
   refine hK v w' ⟨V.or V', σ', ⟨View.le_trans I.le q2, q1, fun j hj hL => ?_, fun hx => ?_, fun hx => ?_⟩⟩
   ·
    by_cases e : j = k
    ·
     subst e
     rw [if_pos rfl]
     exact h3.le hmo q3
    ·
     rw [if_neg e] at hL ⊢
     exact (I.at_ j hj hL).le hmo q2
   ·
    rw [if_neg (fun e => hki e.symm)] at hx
    exact I.own hx
   ·
    rw [if_neg (fun e => hki e.symm)] at hx ⊢
    exact hΨ _ _ _ _ q2 (I.non hx)
 ·
  rintro L u W' ⟨V, σ', I⟩ hL
  refine wpAny_tail f m _ W' (by simpa using hsz.symm) hchain ?_
  have hg := fun t => fillL_get ds 0 u a t hn (by rw [ha.size]; exact hd)
  have hph : ∀ j, j < m → PhiAt vs j (u j) V := fun j hj => (I.at_ j hj (hL j hj)).phi
  refine (h u V σ' I.le hph (I.non (hL i hji))).go _ W' (rep_zip ts _ (s' := endQ u 0 ds vs ++ minusS s ds) ⟨by rw [(hg 0).2.2.1, ha.size], by rw [(hg 0).2.2.2, ha.defers], fun x v hl => ?_⟩ (hsl u)) (I.mem.perm List.perm_append_comm)
  rcases look_append _ _ _ _ hl with hl | ⟨_, hl⟩
  ·
   have hmem := look_mem _ _ _ hl
   obtain ⟨j, q, hd2, hvq, hq⟩ := endQ_mem u 0 _ _ _ _ hmem
   have hjl : j < ds.length := (List.getElem?_eq_some_iff.1 hd2).1
   rw [(hg x).1 j hd2, Nat.zero_add]
   cases q with
   | val w =>
    simp only at hq
    have := I.at_ j (by omega) (hL j (by omega))
    unfold sqAt at this
    rw [hvq] at this
    simp only at this
    rw [this, hq]
   | mem Φ => simp only [Nat.zero_add] at hq; rw [hq]
  ·
   obtain ⟨h1, h2⟩ := look_minus _ _ _ _ hl
   rw [(hg x).2.1 h1]
   exact ha.slots x v h2
theorem perm_out (A F X : Blks) : ((A ++ F) ++ X).Perm ((A ++ X) ++ F) := by
 rw [List.append_assoc, List.append_assoc]
 exact List.Perm.append_left A List.perm_append_comm
end
abbrev RG := (Nat → Bool) → (Nat → Value) → View → Blks → Prop
def Ch2 (i j : Nat) (init : Blks) (A1 A2 : Value → View → Blks → Prop) : RG := fun L u V S => if L j then A2 (u i) V S else if L i then A1 (u i) V S else S = init
def RGmono (R : RG) : Prop := ∀ L u V V' S, View.le V V' → R L u V S → R L u V' S
def RGkeep (c : Nat → Bool) (R : RG) : Prop := ∀ k L u v V S, c k = false → R L u V S → R (fun j => if j = k then true else L j) (fun j => if j = k then v else u j) V S
theorem Ch2.mono {i j : Nat} {init : Blks} {A1 A2 : Value → View → Blks → Prop} (h1 : ∀ v V V' S, View.le V V' → A1 v V S → A1 v V' S) (h2 : ∀ v V V' S, View.le V V' → A2 v V S → A2 v V' S) : RGmono (Ch2 i j init A1 A2) := fun L u V V' S hl h => by
 unfold Ch2 at h ⊢
 split at h
 · next h0 => rw [if_pos h0]; exact h2 _ _ _ _ hl h
 ·
  next h0 =>
  rw [if_neg h0]
  split at h
  · next h3 => rw [if_pos h3]; exact h1 _ _ _ _ hl h
  · next h3 => rw [if_neg h3]; exact h
theorem Ch2.keep {i j : Nat} {init : Blks} {A1 A2 : Value → View → Blks → Prop} : RGkeep (fun k => k == i || k == j) (Ch2 i j init A1 A2) := fun k L u v V S hk h => by
 simp only [Bool.or_eq_false_iff, beq_eq_false_iff_ne] at hk
 have e1 : (if i = k then v else u i) = u i := if_neg fun e => hk.1 e.symm
 have e2 : (if i = k then true else L i) = L i := if_neg fun e => hk.1 e.symm
 have e3 : (if j = k then true else L j) = L j := if_neg fun e => hk.2 e.symm
 show if (if j = k then true else L j) then A2 (if i = k then v else u i) V S else if (if i = k then true else L i) then A1 (if i = k then v else u i) V S else S = init
 rw [e1, e2, e3]
 exact h
theorem Ch2.first {i j : Nat} {init : Blks} {A1 A2 : Value → View → Blks → Prop} {L : Nat → Bool} {u : Nat → Value} {v : Value} {V : View} {S : Blks} (hij : i ≠ j) (hj : L j = false) (h : A1 v V S) : Ch2 i j init A1 A2 (fun x => if x = i then true else L x) (fun x => if x = i then v else u x) V S := by
 have e3 : (if j = i then true else L j) = false := (if_neg fun e => hij e.symm).trans hj
 show if (if j = i then true else L j) then A2 (if i = i then v else u i) V S else if (if i = i then true else L i) then A1 (if i = i then v else u i) V S else S = init
 have e4 : (if i = i then v else u i) = v := if_pos rfl
 rw [e3, e4, if_neg Bool.false_ne_true, if_pos (by rw [if_pos rfl])]
 exact h
theorem Ch2.second {i j : Nat} {init : Blks} {A1 A2 : Value → View → Blks → Prop} {L : Nat → Bool} {u : Nat → Value} {v : Value} {V : View} {S : Blks} (hij : i ≠ j) (h : A2 (u i) V S) : Ch2 i j init A1 A2 (fun x => if x = j then true else L x) (fun x => if x = j then v else u x) V S := by
 have e1 : (if i = j then v else u i) = u i := if_neg hij
 show if (if j = j then true else L j) then A2 (if i = j then v else u i) V S else if (if i = j then true else L i) then A1 (if i = j then v else u i) V S else S = init
 rw [e1, if_pos (by rw [if_pos rfl])]
 exact h
section
variable {P : Program} {n : Nat} {W0 : Cx} {s : Slots} {U : View} {σ0 : Blks}
def GQ (P : Program) (n : Nat) (W0 : Cx) (U : View) (ops : Array Oper) (ds : List Nat) (vs : List Sq) (s : Slots) (R : RG) (k : Nat) : Prop :=
 ∃ (o : Oper) (ts : List Nat) (vals : (Nat → Value) → List Value), ops[k]? = some o ∧ o.guard = none ∧ (∀ u, (ts.map fun x => look (depQ ops ds vs u k ++ minusS s ds) x) = (vals u).map some) ∧
  ∀ (L : Nat → Bool) (u : Nat → Value) (V : View) (own : Blks), View.le U V → (∀ j, waitsOn .any ops k j = true → PhiAt vs j (u j) V) → (∀ j, waitsOn .any ops k j = true → L j = true) → (∀ k j, L k = true → waitsOn .any ops k j = true → L j = true) → L k = false → R L u V own →
   ∀ (rest : Blks) (a : Act) (W : World), RepA n (ts.zip (vals u)) a → Mem W0 V (own ++ rest) W → ∀ (Q : Exit → Act → World → Prop) (K : Act → World → Prop),
    (∀ v W' V' own', View.le V V' → Mem W0 V' (own' ++ rest) W' → R (fun j => if j = k then true else L j) (fun j => if j = k then (if o.dst.isSome then v else u k) else u j) V' own' → sqAt vs k (if o.dst.isSome then v else u k) V' → K (a.put o.dst v) W') → o.wp P a W K Q
def ObG (P : Program) (n : Nat) (W0 : Cx) (U : View) (σ : Blks) (ops : Array Oper) (ds : List Nat) (vs : List Sq) (s : Slots) (ca cb : Nat → Bool) (RA RB : RG) (k : Nat) : Prop :=
 if ca k then GQ P n W0 U ops ds vs s RA k else if cb k then GQ P n W0 U ops ds vs s RB k else ∀ σ', Oq P n W0 U (σ ++ σ') ops ds vs s k
theorem ObG.o {σ : Blks} {ops : Array Oper} {ds : List Nat} {vs : List Sq} {ca cb : Nat → Bool} {RA RB : RG} (k : Nat) (h1 : ca k = false) (h2 : cb k = false) (h : ∀ σ', Oq P n W0 U (σ ++ σ') ops ds vs s k) : ObG P n W0 U σ ops ds vs s ca cb RA RB k := by
 unfold ObG
 rw [if_neg (by rw [h1]; exact Bool.false_ne_true), if_neg (by rw [h2]; exact Bool.false_ne_true)]
 exact h
theorem ObG.a {σ : Blks} {ops : Array Oper} {ds : List Nat} {vs : List Sq} {ca cb : Nat → Bool} {RA RB : RG} (k : Nat) (h1 : ca k = true) (h : GQ P n W0 U ops ds vs s RA k) : ObG P n W0 U σ ops ds vs s ca cb RA RB k := by
 unfold ObG
 rw [if_pos h1]
 exact h
theorem ObG.b {σ : Blks} {ops : Array Oper} {ds : List Nat} {vs : List Sq} {ca cb : Nat → Bool} {RA RB : RG} (k : Nat) (h1 : ca k = false) (h2 : cb k = true) (h : GQ P n W0 U ops ds vs s RB k) : ObG P n W0 U σ ops ds vs s ca cb RA RB k := by
 unfold ObG
 rw [if_neg (by rw [h1]; exact Bool.false_ne_true), if_pos h2]
 exact h
theorem GQ.call {ops : Array Oper} {ds : List Nat} {vs : List Sq} {i j : Nat} {init : Blks} {A1 A2 : Value → View → Blks → Prop} (hij : i ≠ j) (hw : waitsOn .any ops j i = true) (Φ : Value → View → Prop) (hv : vs[i]? = some (.mem Φ)) (hΦ : ∀ v V S, A1 v V S → Φ v V)
  (h : ∃ (o : Oper) (f : FuncId) (ts : List Nat) (vals : (Nat → Value) → List Value), ops[i]? = some o ∧ o.guard = none ∧ o.dst.isSome = true ∧ (∀ u, (ts.map fun x => look (depQ ops ds vs u i ++ minusS s ds) x) = (vals u).map some) ∧
   ∀ (u : Nat → Value) (V : View), View.le U V → (∀ j, waitsOn .any ops i j = true → PhiAt vs j (u j) V) → ∃ args, enters P (ts.zip (vals u)) o = some (f, args) ∧ ∀ W rest, Mem W0 V (init ++ rest) W → Calls P f args W (RetM W0 V rest A1)) : GQ P n W0 U ops ds vs s (Ch2 i j init A1 A2) i := by
 obtain ⟨o, f, ts, vals, ho, hg, hd, hsl, hgo⟩ := h
 refine ⟨o, ts, vals, ho, hg, hsl, fun L u V own hl hdp hdl hcl hLk hR rest a W ha hM Q K hK => ?_⟩
 have hLj : L j = false := by
  cases hj : L j with
  | false => rfl
  | true => rw [hcl j i hj hw] at hLk; cases hLk
 have hown : own = init := by
  unfold Ch2 at hR
  rw [if_neg (by rw [hLj]; exact Bool.false_ne_true), if_neg (by rw [hLk]; exact Bool.false_ne_true)] at hR
  exact hR
 subst hown
 obtain ⟨args, he, hc⟩ := hgo u V hl hdp
 unfold Oper.wp
 rw [enters_run ha he]
 refine (hc W rest hM).mono ?_
 rintro _ w' ⟨v, V', σ2, rfl, hl2, hM', hA⟩
 refine hK v w' V' σ2 hl2 hM' ?_ ?_
 ·
  rw [if_pos hd]
  exact Ch2.first hij hLj hA
 ·
  rw [if_pos hd]
  unfold sqAt
  rw [hv]
  exact hΦ _ _ _ hA
theorem GQ.take {ops : Array Oper} {ds : List Nat} {vs : List Sq} {i j : Nat} {init : Blks} {A1 A2 : Value → View → Blks → Prop} (hij : i ≠ j) (hw : waitsOn .any ops j i = true) (Φ : Value → View → Prop) (hv : vs[j]? = some (.mem Φ))
  (h : ∃ (o : Oper) (f : FuncId) (ts : List Nat) (vals : (Nat → Value) → List Value), ops[j]? = some o ∧ o.guard = none ∧ o.dst.isSome = true ∧ (∀ u, (ts.map fun x => look (depQ ops ds vs u j ++ minusS s ds) x) = (vals u).map some) ∧
   ∀ (u : Nat → Value) (V : View) (own : Blks), View.le U V → (∀ k, waitsOn .any ops j k = true → PhiAt vs k (u k) V) → A1 (u i) V own → ∃ args, enters P (ts.zip (vals u)) o = some (f, args) ∧ ∀ W rest, Mem W0 V (own ++ rest) W → Calls P f args W (RetM W0 V rest fun v V' S' => A2 (u i) V' S' ∧ Φ v V')) : GQ P n W0 U ops ds vs s (Ch2 i j init A1 A2) j := by
 obtain ⟨o, f, ts, vals, ho, hg, hd, hsl, hgo⟩ := h
 refine ⟨o, ts, vals, ho, hg, hsl, fun L u V own hl hdp hdl hcl hLk hR rest a W ha hM Q K hK => ?_⟩
 have hLi : L i = true := hdl i hw
 have hA : A1 (u i) V own := by
  unfold Ch2 at hR
  rw [if_neg (by rw [hLk]; exact Bool.false_ne_true), if_pos hLi] at hR
  exact hR
 obtain ⟨args, he, hc⟩ := hgo u V own hl hdp hA
 unfold Oper.wp
 rw [enters_run ha he]
 refine (hc W rest hM).mono ?_
 rintro _ w' ⟨v, V', σ2, rfl, hl2, hM', hA2, hΦ⟩
 refine hK v w' V' σ2 hl2 hM' ?_ ?_
 · exact Ch2.second hij hA2
 ·
  rw [if_pos hd]
  unfold sqAt
  rw [hv]
  exact hΦ
theorem GQ.alloc {ops : Array Oper} {ds : List Nat} {vs : List Sq} {i j : Nat} {x : Obj} {A2 : Value → View → Blks → Prop} (hij : i ≠ j) (hw : waitsOn .any ops j i = true) (hv : vs[i]? = some (.mem fun _ _ => True)) (vf : Nat → Value) (ts : List Nat) (vals : (Nat → Value) → List Value) (hsl : ∀ u, (ts.map fun x => look (depQ ops ds vs u i ++ minusS s ds) x) = (vals u).map some)
  (h : ∃ o, ops[i]? = some o ∧ o.guard = none ∧ o.dst.isSome = true ∧ ∀ (u : Nat → Value), makes P (ts.zip (vals u)) o = some (x, fun r => some (vf r))) : GQ P n W0 U ops ds vs s (Ch2 i j [] (OneNew vf x) A2) i := by
 obtain ⟨o, ho, hg, hd, hm⟩ := h
 refine ⟨o, ts, vals, ho, hg, hsl, fun L u V own hl hdp hdl hcl hLk hR rest a W ha hM Q K hK => ?_⟩
 have hLj : L j = false := by
  cases hj : L j with
  | false => rfl
  | true => rw [hcl j i hj hw] at hLk; cases hLk
 have hown : own = [] := by
  unfold Ch2 at hR
  rw [if_neg (by rw [hLj]; exact Bool.false_ne_true), if_neg (by rw [hLk]; exact Bool.false_ne_true)] at hR
  exact hR
 subst hown
 unfold Oper.wp
 rw [makes_run ha (hm u)]
 have hM1 : Mem W0 V rest W := hM
 refine hK _ _ V [(W.heap.size, x)] (View.le_refl _) ((hM1.alloc x).perm List.perm_append_comm) ?_ ?_
 ·
  rw [if_pos hd]
  exact Ch2.first hij hLj ⟨W.heap.size, rfl, rfl⟩
 ·
  rw [if_pos hd]
  unfold sqAt
  rw [hv]
  trivial
theorem GQ.store {ops : Array Oper} {ds : List Nat} {vs : List Sq} {i j : Nat} {x : Obj} {vf : Nat → Value} {A2 : Value → View → Blks → Prop} (hij : i ≠ j) (hw : waitsOn .any ops j i = true) (hv : vs[j]? = some (.mem fun _ _ => True))
  (h : ∃ (o : Oper) (ts : List Nat) (vals : (Nat → Value) → List Value), ops[j]? = some o ∧ o.guard = none ∧ o.dst = none ∧ (∀ u, (ts.map fun x => look (depQ ops ds vs u j ++ minusS s ds) x) = (vals u).map some) ∧
   ∀ (u : Nat → Value) (V : View) (b : Nat), View.le U V → (∀ k, waitsOn .any ops j k = true → PhiAt vs k (u k) V) → u i = vf b → ∃ x2, stK P [(b, x)] 0 (ts.zip (vals u)) o = some (b, b, x2) ∧ A2 (u i) V [(b, x2)]) : GQ P n W0 U ops ds vs s (Ch2 i j [] (OneNew vf x) A2) j := by
 obtain ⟨o, ts, vals, ho, hg, hd, hsl, hgo⟩ := h
 refine ⟨o, ts, vals, ho, hg, hsl, fun L u V own hl hdp hdl hcl hLk hR rest a W ha hM Q K hK => ?_⟩
 have hLi : L i = true := hdl i hw
 have hA : OneNew vf x (u i) V own := by
  unfold Ch2 at hR
  rw [if_neg (by rw [hLk]; exact Bool.false_ne_true), if_pos hLi] at hR
  exact hR
 obtain ⟨b, hub, rfl⟩ := hA
 obtain ⟨x2, hst, hA2⟩ := hgo u V b hl hdp hub
 have hst' : stK P ([(b, x)] ++ rest) 0 (ts.zip (vals u)) o = some (b, b, x2) := by
  unfold stK at hst ⊢
  exact hst
 refine st_wp 0 b x2 hst' hd ha hM fun W' hM' => ?_
 have := hK undef W' V [(b, x2)] (View.le_refl _) hM' (Ch2.second hij hA2) (by unfold sqAt; rw [hv]; trivial)
 rw [hd] at this
 exact this
structure InvG (W0 : Cx) (U : View) (σ : Blks) (vs : List Sq) (m : Nat) (RA RB : RG) (L : Nat → Bool) (u : Nat → Value) (w : World) (V : View) (SA SB : Blks) : Prop where
 le : View.le U V
 mem : Mem W0 V (SA ++ (SB ++ σ)) w
 at_ : ∀ j, j < m → L j = true → sqAt vs j (u j) V
 a : RA L u V SA
 b : RB L u V SB
theorem perm_mid (A B C : Blks) : (A ++ (B ++ C)).Perm (B ++ (A ++ C)) := by
 rw [← List.append_assoc, ← List.append_assoc]
 exact List.Perm.append_right C List.perm_append_comm
theorem perm_end (A B C : Blks) : (A ++ (B ++ C)).Perm (C ++ (A ++ B)) := by
 rw [← List.append_assoc]
 exact List.perm_append_comm
theorem sx_drawnG {id : Nat} {l : List Oper} {Q : XQ} (m f r : Nat) (ds : List Nat) (vs : List Sq) (ca cb : Nat → Bool) (RA RB : RG) (SA SB σ : Blks) (hσ : σ0.Perm (SA ++ (SB ++ σ))) (hA0 : ∀ u, RA (fun _ => false) u U SA) (hB0 : ∀ u, RB (fun _ => false) u U SB)
  (hAm : RGmono RA) (hBm : RGmono RB) (hAk : RGkeep ca RA) (hBk : RGkeep cb RB) (hab : ∀ k, ca k = true → cb k = false)
  (hm : P.follows .mixedOrders = true) (hsz : l.length = m + f) (hlen : ds.length = m)
  (hds : dstsOk2 l.toArray ds = true) (hnd : nodupB ds = true) (hlt : (ds.all fun d => Nat.blt d n) = true) (hedge : edgesOk .any l.toArray m = true) (htail : tailOk .any l.toArray m r = true) (hchain : chainOk l.toArray m f = true) (hmo : ∀ q ∈ vs, sqMono q)
  (hsome : ((List.range m).all fun k => (ca k || cb k) || ((l.toArray[k]?).bind (·.dst)).isSome) = true)
  (obs : Go.Proofs.YtcdjakemdlinhaaGreatDoor.Steps (ObG P n W0 U σ l.toArray ds vs s ca cb RA RB) 0 m)
  (ts : List Nat) (vals : (Nat → Value) → List Value) (hsl : ∀ u, (ts.map fun t => look (endQ u 0 ds vs ++ minusS s ds) t) = (vals u).map some)
  (h : ∀ (L : Nat → Bool) (u : Nat → Value) (V : View) (SA SB : Blks), View.le U V → (∀ j, j < m → L j = true) → (∀ j, j < m → PhiAt vs j (u j) V) → RA L u V SA → RB L u V SB → SXL P n W0 Q l.toArray (l.drop m) (ts.zip (vals u)) V (SA ++ (SB ++ σ))) : SXC P n W0 Q (.region id l.toArray true) s U σ0 := by
 refine ⟨fun a W ha hM => ?_⟩
 have hn := nodup_of hnd
 have hd : ∀ d ∈ ds, d < n := fun d hd => by have := List.all_eq_true.1 hlt d hd; simpa [Nat.blt_eq] using this
 refine wp_region_inv2 m f r ds (fun L u w => ∃ V SA SB, InvG W0 U σ vs m RA RB L u w V SA SB) hm (by simpa using hsz) hlen hds hnd hedge htail ?_ ?_ ?_
 ·
  intro u
  exact ⟨U, SA, SB, ⟨View.le_refl _, (hM.perm hσ).drew, fun j _ hj => by simp at hj, hA0 u, hB0 u⟩⟩
 ·
  rintro k hkm L u w ⟨V, SA, SB, I⟩ hLk hwt hcl K hK
  have hob := obs.get k (Nat.zero_le _) (by omega)
  have hmk : ∀ (v : Value) (V' : View), View.le V V' → sqAt vs k v V' → ∀ j, j < m → (if j = k then true else L j) = true → sqAt vs j (if j = k then v else u j) V' := fun v V' hl hs j hj hL => by
   by_cases e : j = k
   ·
    subst e
    rw [if_pos rfl]
    exact hs
   ·
    rw [if_neg e] at hL ⊢
    exact (I.at_ j hj hL).le hmo hl
  unfold ObG at hob
  split at hob
  ·
   next hka =>
   obtain ⟨o, ts, vals, ho, hgd, hsl, hgo⟩ := hob
   have hr := rep_fillC (a0 := a) (u := u) (V := V) (vs := vs) (ops := l.toArray) k ha hn hd fun j hj => .inl (I.at_ j (hwt j hj).2 (hwt j hj).1)
   unfold wpOp
   simp only [ho, Region.wanted, hgd, if_true]
   left
   refine hgo L u V SA I.le (fun j hj => (I.at_ j (hwt j hj).2 (hwt j hj).1).phi) (fun j hj => (hwt j hj).1) hcl hLk I.a (SB ++ σ) _ w (rep_zip ts _ hr (hsl u)) I.mem _ _ fun v w' V' own' hl hM' hR' hs' => ?_
   have := hK v w' ⟨V', own', SB, ?_⟩
   ·
    rw [ho] at this
    exact this
   ·
    rw [ho]
    exact ⟨View.le_trans I.le hl, hM', hmk _ _ hl hs', hR', hBm _ _ _ _ _ hl (hBk k L u _ V SB (hab k hka) I.b)⟩
  ·
   next hka =>
   split at hob
   ·
    next hkb =>
    obtain ⟨o, ts, vals, ho, hgd, hsl, hgo⟩ := hob
    have hr := rep_fillC (a0 := a) (u := u) (V := V) (vs := vs) (ops := l.toArray) k ha hn hd fun j hj => .inl (I.at_ j (hwt j hj).2 (hwt j hj).1)
    unfold wpOp
    simp only [ho, Region.wanted, hgd, if_true]
    left
    refine hgo L u V SB I.le (fun j hj => (I.at_ j (hwt j hj).2 (hwt j hj).1).phi) (fun j hj => (hwt j hj).1) hcl hLk I.b (SA ++ σ) _ w (rep_zip ts _ hr (hsl u)) (I.mem.perm (perm_mid _ _ _)) _ _ fun v w' V' own' hl hM' hR' hs' => ?_
    have := hK v w' ⟨V', SA, own', ?_⟩
    ·
     rw [ho] at this
     exact this
    ·
     rw [ho]
     exact ⟨View.le_trans I.le hl, hM'.perm (perm_mid _ _ _), hmk _ _ hl hs', hAm _ _ _ _ _ hl (hAk k L u _ V SA (by simpa using hka) I.a), hR'⟩
   ·
    next hkb =>
    have hka' : ca k = false := by simpa using hka
    have hkb' : cb k = false := by simpa using hkb
    have hsk : ((l.toArray[k]?).bind (·.dst)).isSome = true := by
     have := List.all_eq_true.1 hsome k (List.mem_range.2 hkm)
     rw [hka', hkb', Bool.or_false, Bool.false_or] at this
     exact this
    have hM0 : Mem W0 V (σ ++ (SA ++ SB)) w := I.mem.perm (perm_end _ _ _)
    refine ((hob (SA ++ SB)).go a (up n W0 Q) ha hn hd hmo).step u w (hM0.weak I.le) (fun j hj => (I.at_ j (hwt j hj).2 (hwt j hj).1).isQ hM0 I.le) K fun v w' hM' hE hv => ?_
    obtain ⟨V', h1, h2, h3⟩ := hv.at hM'
    obtain ⟨q1, q2, q3⟩ := Mem.join (hM0.call hE) h2
    refine hK v w' ⟨V.or V', SA, SB, ⟨View.le_trans I.le q2, q1.perm (perm_end _ _ _).symm, ?_, hAm _ _ _ _ _ q2 (hAk k L u _ V SA hka' I.a), hBm _ _ _ _ _ q2 (hBk k L u _ V SB hkb' I.b)⟩⟩
    rw [if_pos hsk]
    exact hmk _ _ q2 (h3.le hmo q3)
 ·
  rintro L u W' ⟨V, SA, SB, I⟩ hL
  refine wpAny_tail f m _ W' (by simpa using hsz.symm) hchain ?_
  have hg := fun t => fillL_get ds 0 u a t hn (by rw [ha.size]; exact hd)
  have hph : ∀ j, j < m → PhiAt vs j (u j) V := fun j hj => (I.at_ j hj (hL j hj)).phi
  refine (h L u V SA SB I.le hL hph I.a I.b).go _ W' (rep_zip ts _ (s' := endQ u 0 ds vs ++ minusS s ds) ⟨by rw [(hg 0).2.2.1, ha.size], by rw [(hg 0).2.2.2, ha.defers], fun x v hl => ?_⟩ (hsl u)) I.mem
  rcases look_append _ _ _ _ hl with hl | ⟨_, hl⟩
  ·
   have hmem := look_mem _ _ _ hl
   obtain ⟨j, q, hd2, hvq, hq⟩ := endQ_mem u 0 _ _ _ _ hmem
   have hjl : j < ds.length := (List.getElem?_eq_some_iff.1 hd2).1
   rw [(hg x).1 j hd2, Nat.zero_add]
   cases q with
   | val w =>
    simp only at hq
    have := I.at_ j (by omega) (hL j (by omega))
    unfold sqAt at this
    rw [hvq] at this
    simp only at this
    rw [this, hq]
   | mem Φ => simp only [Nat.zero_add] at hq; rw [hq]
  ·
   obtain ⟨h1, h2⟩ := look_minus _ _ _ _ hl
   rw [(hg x).2.1 h1]
   exact ha.slots x v h2
end
theorem run_neBk {s : Slots} {o : Oper} (yt : TypeId) (x y : Operand) (ho : o.op = .binOp .neq 38 x y yt) (a1 a2 a3 a4 : Int) (a5 : List UInt8)
  (hx : evS s x = some (.agg #[.int .i64 a1, .int .i64 a2, .int .u64 a3, .int .i64 a4, .string (B a5)])) (hy : evS s y = some (.agg #[.int .i64 a1, .int .i64 a2, .int .u64 a3, .int .i64 a4, .string (B a5)])) (W : World) :
  (execOp (ev s) o).run Tryz.prog W = .ok (.value (.bool false)) W := by
 unfold execOp
 simp only [ho, ev_of hx, ev_of hy]
 go_simp
theorem run_nePr {s : Slots} {o : Oper} (yt : TypeId) (x y : Operand) (ho : o.op = .binOp .neq 26 x y yt) (p : Pr)
  (hx : evS s x = some p.V) (hy : evS s y = some p.V) (W : World) :
  (execOp (ev s) o).run Tryz.prog W = .ok (.value (.bool false)) W := by
 unfold execOp
 simp only [ho, ev_of hx, ev_of hy]
 unfold Pr.V Pr.cs
 go_simp
end Go.Proofs.YtcdjakemdlinhaaGreatDoor.Sx
namespace Go.Proofs.YtcdjakemdlinhaaGreatDoor
open Go.ChangeShapes Go.WideShapes Go.ChangeAt Go.RowKit Go.Deep
theorem lt_of_heap {w : World} {k : Nat} {x : Obj} (h : w.heap[k]? = some x) : k < w.heap.size := by
 rcases Nat.lt_or_ge k w.heap.size with h' | h'
 · exact h'
 · rw [Array.getElem?_eq_none h'] at h; cases h
def NumsAt (w : World) (b : Nat) (t : TypeId) (k : IntKind) (l : List Nat) : Prop := w.heap[b]? = some (.cells (nums k l) t (0, 0))
theorem NumsAt.cell {w : World} {b : Nat} {t : TypeId} {k : IntKind} {l : List Nat} (h : NumsAt w b t k l) (i : Nat) (hi : i < l.length) : w.cell? ⟨b, i, none⟩ = some (.int k ((l.getD i 0 : Nat) : Int)) := by
 rw [cell_of_row _ b i _ _ _ h, nums_getD k hi]
theorem NumsAt.frozen {w : World} {b : Nat} {t : TypeId} {k : IntKind} {l : List Nat} (h : NumsAt w b t k l) (i : Nat) : w.frozen? ⟨b, i, none⟩ = false := frozen_of_row w b i _ t h
theorem NumsAt.set {w : World} {b : Nat} {t : TypeId} {k : IntKind} {l : List Nat} (h : NumsAt w b t k l) (i v : Nat) : NumsAt (w.setCell ⟨b, i, none⟩ (.int k ((v : Nat) : Int))) b t k (l.set i v) := by
 unfold NumsAt
 rw [Go.heap_setCell_same w b i _ t _ h, nums_set]
theorem NumsAt.new (w : World) (t : TypeId) (k : IntKind) (l : List Nat) : NumsAt (w.alloc (.cells (nums k l) t)) w.heap.size t k l := heap_alloc_last w _
end Go.Proofs.YtcdjakemdlinhaaGreatDoor
